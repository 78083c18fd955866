import Derived.Test.YtoeokgpdmagjoaaGreatT7
/-
A part of the proof: steps of the walk and plain laws.
-/
set_option linter.unusedVariables false
namespace Go.Proofs.Tryz
open Go Go.RowKit Go.Proofs.VC Go.Sort
variable {M:List Nat} {w0 w:World} {L:List En}
structure Rd where
 bs:Nat
 bb:Nat
 br:Nat
 b:Nat
 ta:Option Addr
 tc:Nat
 T:List Ce
 B:List Bin
 s1:List UInt8
 s2:List UInt8
def RD (x:Rd) (k1 k2 st:Nat) (L:List En):List En:=
 .ob x.bs (.cells #[.string (S x.s1),.int .i64 (k1:Int)] t_back_Reader (0,0)):: .ob x.bb (.cells #[.string (S x.s2),.int .i64 (k2:Int)] t_bits_Reader (0,0))::
 .ob x.br (.cells #[.pointer (some (A0 x.b)),.pointer (some (A0 x.bs)),.pointer (some (A0 x.bb))] t_states_reader (0,0))::
 .ob x.b (.cells (coderC (.slice x.ta x.T.length x.tc) x.B (st:Int) (.slice none 0 0) (.slice none 0 0)) t_states_coder (0,0)):: .ow t_api_Cell 3 x.ta x.T.length x.tc (ces x.T)::L
theorem RD.push {x:Rd} {k1 k2 st:Nat} {y:En} (H:Sx M w0 w (y::RD x k1 k2 st L)):Sx M w0 w (RD x k1 k2 st (y::L)):=
 H.perm (List.perm_middle (l₁:= [.ob x.bs (.cells #[.string (S x.s1),.int .i64 (k1:Int)] t_back_Reader (0,0)),.ob x.bb (.cells #[.string (S x.s2),.int .i64 (k2:Int)] t_bits_Reader (0,0)),
 .ob x.br (.cells #[.pointer (some (A0 x.b)),.pointer (some (A0 x.bs)),.pointer (some (A0 x.bb))] t_states_reader (0,0)),
 .ob x.b (.cells (coderC (.slice x.ta x.T.length x.tc) x.B (st:Int) (.slice none 0 0) (.slice none 0 0)) t_states_coder (0,0)),.ow t_api_Cell 3 x.ta x.T.length x.tc (ces x.T)]) (l₂:=L) (a:=y)).symm
theorem RD.drop {x:Rd} {k1 k2 st:Nat} {y:En} (H:Sx M w0 w (RD x k1 k2 st (y::L))):Sx M w0 w (RD x k1 k2 st L):=
 H.sub ((((((List.sublist_cons_self y L).cons_cons _).cons_cons _).cons_cons _).cons_cons _).cons_cons _)
theorem T_states_reader_take {R:Ending→World→Prop} {x:Rd} {k1 k2 st n:Nat} (H:Sx M w0 w (RD x k1 k2 st L)) (hs:x.s1.length≤140737488355328) (hk:k1≤8*x.s1.length) (hn:n≤12)
 (h1:n≤k1→∀w',Sx M w0 w' (RD x (k1-n) k2 st L)→R (.returned (.tuple #[.int .i64 ((nb (((bitsS x.s1).drop (k1-n)).take n):Nat):Int),.bool true])) w')
 (h2:k1<n→∀w',Sx M w0 w' (RD x k1 k2 st L)→R (.returned (.tuple #[.int .i64 0,.bool false])) w'):Calls prog n_states_reader_take #[.pointer (some (A0 x.br)),.int .i64 (n:Int)] w R:=by
 refine S_states_reader_take ?_
 unfold F_states_reader_take
 refine OSome.i ⟨_,by rw [A0_add];exact Sx.cell H 2 rfl rfl,?_⟩
 refine T_back_Reader_Get (n:=n) H hs hk (by omega) (fun hle w1 H=>⟨_,_,rfl,?_⟩) fun hlt w1 H=>⟨_,_,rfl,?_⟩
 · have hb:=nb_lt (((bitsS x.s1).drop (k1-n)).take n)
   have hl:(((bitsS x.s1).drop (k1-n)).take n).length≤n:=by rw [List.length_take];omega
   have h12:2^(((bitsS x.s1).drop (k1-n)).take n).length≤2^12:=Nat.pow_le_pow_right (by decide) (by omega)
   have e12:(2:Nat)^12=4096:=by decide
   rw [W64_nat (by omega)]
   exact h1 hle w1 H
 · exact h2 hlt w1 H
def backS (T:List Ce) (s1 s2:List UInt8) (k1 k2 st:Nat):Option (Pt×Nat×Nat×Nat):=
 if btAt T st≤k1 then
  if k2+((T.getD st (0,0,0)).1-1)≤8*s2.length then
   some (((T.getD st (0,0,0)).1,nb (((bitsS s2).drop k2).take ((T.getD st (0,0,0)).1-1))),k1-btAt T st,k2+((T.getD st (0,0,0)).1-1),bsAt T st+nb (((bitsS s1).drop (k1-btAt T st)).take (btAt T st)))
  else none
 else none
theorem T_states_reader_back {R:Ending→World→Prop} {x:Rd} {k1 k2 st:Nat} (H:Sx M w0 w (RD x k1 k2 st L)) (hs:x.s1.length≤140737488355328) (hk:k1≤8*x.s1.length) (hs2:x.s2.length≤140737488355328) (hk2:k2≤8*x.s2.length)
 (hB:x.B.length=65) (hst:st<x.T.length) (hT:∀u∈x.T,u.1<65∧u.2.1≤12∧u.2.2<1000000)
 (h1:∀p k1' k2' st',backS x.T x.s1 x.s2 k1 k2 st=some (p,k1',k2',st')→∀w',Sx M w0 w' (RD x k1' k2' st' L)→R (.returned (.tuple #[.agg #[.int .i64 (p.1:Int),.int .u64 (p.2:Int)],.bool true])) w')
 (h2:backS x.T x.s1 x.s2 k1 k2 st=none→∀w' (c r:Int),Fr M w0 w'→R (.returned (.tuple #[.agg #[.int .i64 c,.int .u64 r],.bool false])) w'):Calls prog n_states_reader_back #[.pointer (some (A0 x.br))] w R:=by
 have hu:x.T[st]? =some x.T[st]:=List.getElem?_eq_getElem hst
 obtain⟨hc65,hb12,hbs⟩:=hT _ (List.getElem_mem hst)
 have eg:x.T.getD st (0,0,0)=x.T[st]:=by rw [List.getD_eq_getElem?_getD,hu];rfl
 have eb:bsAt x.T st=x.T[st].2.2:=by rw [bsAt,eg]
 have et:btAt x.T st=x.T[st].2.1:=by rw [btAt,eg]
 unfold backS at h1 h2
 rw [eg,eb,et]at h1 h2
 generalize x.T[st]=u at*
 obtain⟨cl,bt,bs⟩:=u
 simp only at h1 h2 hc65 hb12 hbs
 have hct:∀ {tv st v1 v2},_:=fun {tv st v1 v2}=>coder_tail (tv:=tv) (B:=x.B) (st:=st) (v1:=v1) (v2:=v2) hB
 have hcs:∀ {tv st v1 v2} (st':Int) (v1' v2':Value),_:=fun {tv st v1 v2}=>coder_sets (tv:=tv) (B:=x.B) (st:=st) (v1:=v1) (v2:=v2) hB
 have hsz:∀ {tv st v1 v2},(coderC tv x.B st v1 v2).size=69:=fun {tv st v1 v2}=>by rw [coder_size,hB]
 refine S_states_reader_back ?_
 unfold F_states_reader_back
 refine H.alloc fun w1 b2 _ H=>?_
 have H:=RD.push H
 refine H.drew fun w2 _ H=>OSome.i ⟨_,Sx.cell H 2 rfl rfl,OSome.i ⟨_,_,_,Sx.cell H 3 rfl hct.1,OSome.i ⟨_,Sx.cell H 2 rfl rfl,OSome.i ⟨_,by rw [A0_add];exact Sx.cell H 3 rfl hct.2.1,by omega,by omega,ldCe (Sx.slw H 4 rfl) hu fun p hp hld=>⟨_,_,_,by rw [Int.toNat_natCast];exact hld,?_⟩⟩⟩⟩⟩
 refine H.alloc fun w3 b4 hf3 H=>⟨⟨fun h=>hf3.cell0 h,fun h=>hf3.cell0 h,fun h=>hf3.cell0 h,fun h=>hf3.cell0 h,fun h=>hf3.cell0 h,fun h=>hf3.cell0 h,fun h=>hf3.cell0 h,trivial⟩,?_⟩
 rw [A0_add,A0_add]
 refine H.sto 0 rfl (by simp) fun w4 _ H=>H.sto 0 rfl (by simp) fun w5 _ H=>H.sto 0 rfl (by simp) fun w6 _ H=>⟨trivial,_,Sx.cell H 0 rfl rfl,?_⟩
 have H:=RD.push H
 refine T_states_reader_take H hs hk hb12 (fun hle w7 H=>⟨_,_,rfl,bif_f rfl ?_⟩) fun hlt w7 H=>⟨_,_,rfl,bif_t rfl ?_⟩
 · rw [if_pos hle]at h1 h2
   have hnb:=nb_lt (((bitsS x.s1).drop (k1-bt)).take bt)
   have hl:(((bitsS x.s1).drop (k1-bt)).take bt).length≤bt:=by rw [List.length_take];omega
   have h12:2^(((bitsS x.s1).drop (k1-bt)).take bt).length≤2^12:=Nat.pow_le_pow_right (by decide) (by omega)
   have e12:(2:Nat)^12=4096:=by decide
   refine Sx.drew H fun w10 _ H=>OSome.i ⟨_,Sx.cell H 2 rfl rfl,_,Sx.cell H 5 rfl rfl,OSome.i ?_⟩
   rw [A0_add]
   refine Sx.sto H 3 rfl (by rw [hsz];omega) fun w11 _ H=>⟨trivial,?_⟩
   rw [W64_idn (show(bs:Int)+((nb (((bitsS x.s1).drop (k1-bt)).take bt):Nat):Int)=((bs+nb (((bitsS x.s1).drop (k1-bt)).take bt):Nat):Int) by push_cast;rfl) (by omega)]at H
   rw [(hcs _ (.slice none 0 0) (.slice none 0 0)).1]at H
   refine Sx.drew H fun w12 _ H=>OSome.i ⟨_,by rw [A0_add];exact Sx.cell H 2 rfl rfl,_,Sx.cell H 5 rfl rfl,?_⟩
   have em:(if (W64 ((cl:Int)-(1:Int)))>(0:Int)then(W64 ((cl:Int)-(1:Int)))else(0:Int))=((cl-1:Nat):Int):=by
    rw [W64_id _ (by omega) (by omega)];split<;>omega
   rw [em]
   have H:=H.perm (List.Perm.swap _ _ _)
   refine T_bits_Reader_Get (n:=cl-1) H hs2 hk2 (by omega) (fun hle2 w13 H=>⟨_,_,rfl,?_⟩) fun hgt w13 H=>⟨_,_,rfl,?_⟩
   · rw [if_pos hle2]at h1
     have H:=Sx.perm H (List.Perm.swap _ _ _)
     refine⟨⟨fun _=>Sx.cell H 5 rfl rfl,trivial⟩,_,Sx.cell H 5 rfl rfl,Sx.sto H 6 rfl (by simp) fun w14 _ H=>?_⟩
     rw [A0_add]
     refine Sx.sto H 6 rfl (by simp) fun w15 _ H=>⟨_,_,Sx.ld H 6 rfl,?_⟩
     exact h1 _ _ _ _ rfl w15 (RD.drop (RD.drop H))
   · rw [if_neg (by omega)]at h2
     have H:=Sx.perm H (List.Perm.swap _ _ _)
     refine⟨⟨fun _=>Sx.cell H 5 rfl rfl,trivial⟩,_,Sx.cell H 5 rfl rfl,Sx.sto H 6 rfl (by simp) fun w14 _ H=>?_⟩
     rw [A0_add]
     refine Sx.sto H 6 rfl (by simp) fun w15 _ H=>⟨_,_,Sx.ld H 6 rfl,h2 rfl w15 _ _ H.fr⟩
 · rw [if_neg (Nat.not_le.2 hlt)]at h2
   refine Sx.sto H 6 rfl (by simp) fun w8 _ H=>?_
   rw [A0_add]
   exact Sx.sto H 6 rfl (by simp) fun w9 _ H=>⟨_,_,Sx.ld H 6 rfl,h2 rfl w9 _ _ H.fr⟩
end Go.Proofs.Tryz
namespace Go.Proofs.Tryz
open Go Go.RowKit Go.Proofs.VC
variable {M:List Nat} {w0 w:World} {L:List En}
theorem vgo_le:∀(l:List UInt8) (i acc:Nat),(vgo l i acc).2.2=0→(vgo l i acc).2.1≤i+l.length
 | [],i,acc,h=>by unfold vgo at h ⊢;split at h<;>simp at h
 |c::s,i,acc,h=>by
  have ih:=vgo_le s (i+1) (acc+c.toNat%128*128^i)
  unfold vgo at h ⊢
  simp only [List.length_cons]
  split
  · simp
  · next h1=>
    rw [if_neg h1]at h
    split
    · simp
    · next h2=>
      rw [if_neg h2]at h
      split
      · next h3=>
        rw [if_pos h3]at h
        have:=ih h
        omega
      · next h3=>
        rw [if_neg h3]at h
        split
        · simp
        · simp
theorem vgetR_le (l:List UInt8) (h:(vgetR l).2.2=0):(vgetR l).2.1≤l.length:=by
 have:=vgo_le l 0 0 h
 unfold vgetR
 omega
theorem readR_at {s:List UInt8} {x:Nat} (hx:x≤s.length):readR s (x:Int) vgetR=if (vgetR (s.drop x)).2.2≠0 then(0,0,(vgetR (s.drop x)).2.2)else((vgetR (s.drop x)).1,x+(vgetR (s.drop x)).2.1,0):=by
 rw [readR,if_neg (by omega),Int.toNat_natCast]
theorem T_norm_Get_1 {R:Ending→World→Prop} {b7 b3 x:Nat} {s:List UInt8}
 (H:Sx M w0 w (.ob b7 (.cells #[.int .i64 (x:Int)] t_int (0,0)):: .ob b3 (.cells #[.string (S s)] t_string (0,0))::L)) (hs:s.length≤140737488355328) (hx:x≤s.length)
 (h1:(vgetR (s.drop x)).2.2≠0→∀w',Fr [] w w'→R (.returned (.tuple #[.int .u64 0,.int .i64 ((vgetR (s.drop x)).2.2:Int)])) w')
 (h2:∀n k,vgetR (s.drop x)=(n,k,0)→x+k≤s.length→∀w',Sx M w0 w' (.ob b7 (.cells #[.int .i64 ((x+k:Nat):Int)] t_int (0,0)):: .ob b3 (.cells #[.string (S s)] t_string (0,0))::L)→R (.returned (.tuple #[.int .u64 (n:Int),.int .i64 0])) w'):
 Calls prog n_norm_Get_1 #[.pointer (some (A0 b3)),.pointer (some (A0 b7))] w R:=by
 refine S_norm_Get_1 ?_
 unfold F_norm_Get_1
 refine⟨_,Sx.cell H 1 rfl rfl,_,Sx.cell H 0 rfl rfl,?_⟩
 refine(T_vint_Get s (x:Int) (by omega) w).mono ?_
 rintro e w1 ⟨rfl,hf⟩
 have H:=Sx.call0 H hf
 rw [readR_at hx]
 by_cases he:(vgetR (s.drop x)).2.2=0
 · have hle:=vgetR_le _ he
   rw [List.length_drop]at hle
   rcases hv:vgetR (s.drop x)with⟨n,k,e⟩
   rw [hv]at he hle
   simp only at he hle
   subst he
   rw [if_neg (by simp)]
   refine⟨_,_,_,rfl,bif_t rfl ?_⟩
   exact H.sto 0 rfl (by simp) fun w2 _ H=>h2 n k hv (by omega) w2 H
 · rw [if_pos he]
   refine⟨_,_,_,rfl,bif_f (by rw [beq_eq_false_iff_ne];simp only;omega) (h1 he w1 hf)⟩
def normR:Nat→List Nat→List UInt8→Nat→Except Nat (List Nat×Nat)
 |0,acc,_,u=> .ok (acc,u)
 |f+1,acc,t,u=>
  if 65≤acc.length then .ok (acc,u)else
  if (vgetR t).2.2≠0 then .error (vgetR t).2.2 else
  if (vgetR t).1=0 then
   if (vgetR (t.drop (vgetR t).2.1)).2.2≠0 then .error (vgetR (t.drop (vgetR t).2.1)).2.2 else
   if 65-acc.length≤(vgetR (t.drop (vgetR t).2.1)).1 then .error 3 else
   normR f (acc++List.replicate ((vgetR (t.drop (vgetR t).2.1)).1+1) 0) ((t.drop (vgetR t).2.1).drop (vgetR (t.drop (vgetR t).2.1)).2.1) (u+(vgetR t).2.1+(vgetR (t.drop (vgetR t).2.1)).2.1)
  else normR f (acc++ [min (vgetR t).1 4097]) (t.drop (vgetR t).2.1) (u+(vgetR t).2.1)
def getNorm (s:List UInt8) (log:Nat):Except Nat (List Nat×Nat):=
 if 7≤log∧log≤12 then match normR 65 [] s 0 with
  | .error e=> .error e
  | .ok (l,u)=>if mayN l log&&(normB l==s.take u)then .ok (l,u)else .error 3
 else .error 1
def getNormAt (s:List UInt8) (x:Int) (log:Nat):Except Nat (List Nat×Nat):=
 if x<0 then .error 1 else if x>(s.length:Int)then .error 1 else getNorm (s.drop x.toNat) log
theorem T_norm_Get (s:List UInt8) (x:Int) (log:Nat) (w:World) (hs:s.length≤140737488355328):Calls prog n_norm_Get #[.string (S s),.int .i64 x,.int .i64 (log:Int)] w fun e w'=>
 (∃er:Nat,getNormAt s x log= .error er∧e= .returned (.tuple #[.slice none 0 0,.int .i64 0,.int .i64 (er:Int)])∧Fr [] w w')∨
 (∃l u a n c,getNormAt s x log= .ok (l,u)∧e= .returned (.tuple #[.slice a n c,.int .i64 (x+(u:Int)),.int .i64 0])∧n=l.length∧x+(u:Int)≤s.length∧Sx [] w w' [.ow t_int 1 a n c (i64s (nats l))]):=by
 refine S_norm_Get ?_
 unfold F_norm_Get
 refine Sx.alloc ((Sx.start [] w).nilw t_int 1) fun w1 b3 _ H=>Sx.alloc H fun w2 b7 _ H=>?_
 intro J3 hJ3
 have out:∀ {wx:World} {y:Value} {er:Nat} {L':List En},Sx [] w wx (.ob b7 (.cells #[y] t_int (0,0))::L')→getNormAt s x log= .error er→∀er',er'=(er:Int)→
  Sto wx (A0 b7) (.int .i64 (0:Int)) fun w7=>∃r1:Int,w7.cell? (A0 b7)=some (.int .i64 r1)∧
   ((∃er:Nat,getNormAt s x log= .error er∧Ending.returned (.tuple #[.slice none 0 0,.int .i64 r1,.int .i64 er'])= .returned (.tuple #[.slice none 0 0,.int .i64 0,.int .i64 (er:Int)])∧Fr [] w w7)∨
  (∃l u a n c,getNormAt s x log= .ok (l,u)∧Ending.returned (.tuple #[.slice none 0 0,.int .i64 r1,.int .i64 er'])= .returned (.tuple #[.slice a n c,.int .i64 (x+(u:Int)),.int .i64 0])∧n=l.length∧x+(u:Int)≤s.length∧Sx [] w w7 [.ow t_int 1 a n c (i64s (nats l))])):=by
  rintro wx y er L' H he _ rfl
  exact H.sto 0 rfl (by simp) fun w7 _ H=>⟨0,Sx.cell H 0 rfl rfl,.inl ⟨er,he,rfl,H.fr⟩⟩
 refine bif_i (fun h0=>out H (er:=1) ?_ _ rfl) fun h0=>⟨_,Sx.cell H 1 rfl rfl,?_⟩
 · rw [getNormAt,if_pos (of_decide_eq_true h0)]
 rw [S_size]
 refine bif_i (fun h1=>out H (er:=1) ?_ _ rfl) fun h1=>?_
 · rw [getNormAt,if_neg (of_decide_eq_false h0),if_pos (of_decide_eq_true h1)]
 have h0':=of_decide_eq_false h0
 have h1':=of_decide_eq_false h1
 obtain⟨at_,rfl⟩:∃n:Nat,x=(n:Int):=⟨x.toNat,by omega⟩
 have hat:at_≤s.length:=by omega
 have e0:getNormAt s (at_:Int) log=getNorm (s.drop at_) log:=by rw [getNormAt,if_neg h0',if_neg h1',Int.toNat_natCast]
 refine Calls.sx H (T_norm_mayLog log w2) fun w3 hf3 H=>⟨_,rfl,?_⟩
 refine bif_i (fun h2=>out H (er:=1) ?_ _ rfl) fun h2=>hJ3 _ _ _ _ ?_
 · have h2':¬(7≤log∧log≤12):=by simp at h2;omega
   rw [e0,getNorm,if_neg h2']
 have h2':7≤log∧log≤12:=by simpa using h2
 have e1:getNorm (s.drop at_) log=match normR 65 [] (s.drop at_) 0 with
  | .error e=> .error e
  | .ok (l,u)=>if mayN l log&&(normB l==(s.drop at_).take u)then .ok (l,u)else .error 3:=by rw [getNorm,if_pos h2']
 refine H.sto 0 rfl (by simp) fun w4 _ H=>?_
 refine⟨fun m a n c w5=>∃(acc:List Nat) (u f:Nat),n=acc.length∧m+acc.length=65∧at_+u≤s.length∧65≤f+acc.length∧(∀x∈acc,x≤4097)∧
  normR f acc ((s.drop at_).drop u) u=normR 65 [] (s.drop at_) 0∧
  Sx [] w w5 [.ob b7 (.cells #[.int .i64 ((at_+u:Nat):Int)] t_int (0,0)),.ob b3 (.cells #[.string (S s)] t_string (0,0)),.ow t_int 1 a n c (i64s (nats acc))],
  ⟨65,[],0,65,rfl,rfl,hat,by simp,by simp,by rw [List.drop_zero],H⟩,?_⟩
 rintro m a n c w5 ⟨acc,u,f,rfl,hm,hu,hf,h97,he,H⟩
 have hdd:(s.drop at_).drop u=s.drop (at_+u):=by rw [List.drop_drop]
 refine bif_i (fun h3=>?_) fun h3=>?_
 · have h3':acc.length<65:=by have:=of_decide_eq_true h3;omega
   obtain⟨f,rfl⟩:∃f',f=f'+1:=⟨f-1,by omega⟩
   rw [hdd,normR,if_neg (by omega)]at he
   refine T_norm_Get_1 H hs hu (fun hne w6 hf6=>?_) fun v k hv hle w6 H=>?_
   · rw [if_pos hne]at he
     have H:=Sx.call0 H hf6
     exact⟨_,_,rfl,bif_t (by rw [bne_iff_ne];omega) (out H (by rw [e0,e1,←he]) _ rfl)⟩
   · refine⟨_,_,rfl,bif_f rfl ?_⟩
     rw [hv]at he
     simp only at he
     rw [if_neg (by simp)]at he
     intro J14 hJ14
     have fin:∀(w7:World) (many u':Nat),many<65-acc.length→at_+u'≤s.length→(v=0∨many=0)→
      Sx [] w w7 [.ob b7 (.cells #[.int .i64 ((at_+u':Nat):Int)] t_int (0,0)),.ob b3 (.cells #[.string (S s)] t_string (0,0)),.ow t_int 1 a acc.length c (i64s (nats acc))]→
      normR f (acc++List.replicate (many+1) (min v 4097)) ((s.drop at_).drop u') u'=normR 65 [] (s.drop at_) 0→J14 a acc.length c (many:Int) w7:=by
      intro w7 many u' hmany hu' hv0 H he'
      refine hJ14 _ _ _ _ _ ?_
      have ew:U64 (W64 ((65:Int)-((acc.length:Nat):Int)))=((65-acc.length:Nat):Int):=by
       rw [W64_idn (show(65:Int)-((acc.length:Nat):Int)=((65-acc.length:Nat):Int) by omega) (by omega),U64_nat,Nat.mod_eq_of_lt (by omega)]
      rw [ew]
      refine bif_f (decide_eq_false (by omega)) ?_
      refine⟨fun m a n c x w6=>∃j:Nat,n=acc.length+j∧x=(j:Int)∧m+j=many+1∧
       Sx [] w w6 [.ob b7 (.cells #[.int .i64 ((at_+u':Nat):Int)] t_int (0,0)),.ob b3 (.cells #[.string (S s)] t_string (0,0)),.ow t_int 1 a n c (i64s (nats (acc++List.replicate j (min v 4097))))],
       ⟨many+1,0,rfl,rfl,rfl,by simpa using H⟩,?_⟩
      rintro m2 a2 n2 c2 x w6 ⟨j,rfl,rfl,hmj,H⟩
      rw [U64_succ (by omega)]
      refine bif_i (fun h4=>?_) fun h4=>?_
      · have h4':j<many+1:=by have:=of_decide_eq_true h4;omega
        have em:W64 (if (4097:Int)<(v:Int)then(4097:Int)else(v:Int))=((min v 4097:Nat):Int):=by
         refine W64_idn ?_ (by omega)
         split<;>omega
        rw [em]
        refine Sx.alloc H fun w7 b7' _ H=>?_
        refine app_int H (j:=2) rfl (by omega) fun a3 c3 w8 H=>⟨m2-1,by omega,j+1,by omega,U64_succ (by omega),by omega,?_⟩
        have e:nats (acc++List.replicate (j+1) (min v 4097))=nats (acc++List.replicate j (min v 4097))++ [((min v 4097:Nat):Int)]:=by
         rw [List.replicate_succ',←List.append_assoc,nats_app (acc++List.replicate j (min v 4097))];rfl
        rw [e]
        exact H
      · have h4':j=many+1:=by have:=of_decide_eq_false h4;omega
        subst h4'
        refine⟨m-(many+1),by omega,acc++List.replicate (many+1) (min v 4097),u',f,by simp,by simp;omega,hu',by simp;omega,?_,he',H⟩
        intro x hx
        rcases List.mem_append.1 hx with hx|hx
        · exact h97 x hx
        · rw [(List.mem_replicate.1 hx).2];omega
     refine bif_i (fun h4=>?_) fun h4=>?_
     · have h4':v=0:=by have:=eq_of_beq h4;omega
       rw [if_pos h4',List.drop_drop]at he
       subst h4'
       have ee:at_+(u+k)=at_+u+k:=by omega
       refine T_norm_Get_1 H hs hle (fun hne w7 hf7=>?_) fun v2 k2 hv2 hle2 w7 H=>?_
       · rw [if_pos hne]at he
         have H:=Sx.call0 H hf7
         exact⟨_,_,rfl,bif_t (by rw [bne_iff_ne];omega) (out H (by rw [e0,e1,←he]) _ rfl)⟩
       · refine⟨_,_,rfl,bif_f rfl ?_⟩
         rw [hv2]at he
         simp only at he
         rw [if_neg (by simp)]at he
         by_cases hbig:65-acc.length≤v2
         · rw [if_pos hbig]at he
           refine hJ14 _ _ _ _ _ ?_
           have ew:U64 (W64 ((65:Int)-((acc.length:Nat):Int)))=((65-acc.length:Nat):Int):=by
            rw [W64_idn (show(65:Int)-((acc.length:Nat):Int)=((65-acc.length:Nat):Int) by omega) (by omega),U64_nat,Nat.mod_eq_of_lt (by omega)]
           rw [ew]
           exact bif_t (decide_eq_true (by omega)) (out H (er:=3) (by rw [e0,e1,←he]) _ rfl)
         · rw [if_neg hbig]at he
           have hee:at_+u+k+k2=at_+(u+k+k2):=by omega
           rw [hee]at H
           refine fin w7 v2 (u+k+k2) (by omega) (by omega) (.inl rfl) H ?_
           rw [←he,List.drop_drop,List.drop_drop,hee];rfl
     · have h4':v≠0:=by have:=ne_of_beq_false h4;omega
       rw [if_neg h4']at he
       have hee:at_+u+k=at_+(u+k):=by omega
       rw [hee]at H
       refine fin w6 0 (u+k) (by omega) (by omega) (.inr rfl) H ?_
       rw [←he,List.drop_drop,List.drop_drop,hee];rfl
 · have h3':acc.length=65:=by have:=of_decide_eq_false h3;omega
   have he':normR 65 [] (s.drop at_) 0= .ok (acc,u):=by
    rw [←he]
    cases f with
    |zero=>rfl
    |succ f=>rw [normR,if_pos (by omega)]
   rw [he']at e1
   simp only at e1
   refine Sx.drew H fun w6 _ H=>?_
   refine Calls.sx H (T_norm_May a acc.length c acc log w6 ⟨by rw [nats_len],Sx.slw H 2 rfl⟩ (fun x hx=>by have:=h97 x hx;omega) (by omega)) fun w7 hf7 H=>⟨_,rfl,trivial,?_⟩
   refine bif_i (fun h4=>⟨trivial,out H (er:=3) ?_ _ rfl⟩) fun h4=>?_
   · have h4':mayN acc log=false:=by simpa using h4
     rw [e0,e1,h4',Bool.false_and];rfl
   · have h4':mayN acc log=true:=by simpa using h4
     refine⟨_,Sx.cell H 1 rfl rfl,_,Sx.cell H 0 rfl rfl,by omega,by rw [S_size];omega,by omega,by omega,?_⟩
     refine Calls.sx H (T_norm_Put a acc.length c acc w7 ⟨by rw [nats_len],Sx.slw H 2 rfl⟩ (fun x hx=>by have:=h97 x hx;omega) (by omega)) fun w8 hf8 H=>⟨_,rfl,⟨fun h=>?_,fun h=>?_,trivial⟩,?_⟩
     · exact Sx.cell H 1 rfl rfl
     · exact Sx.cell H 0 rfl rfl
     rw [Int.toNat_natCast,Int.toNat_natCast,S_extract,S_beq]
     have et:(s.take (at_+u)).drop at_=(s.drop at_).take u:=by rw [List.drop_take];congr 1;omega
     rw [et]
     rw [h4',Bool.true_and]at e1
     refine bif_i (fun h5=>out H (er:=3) ?_ _ rfl) fun h5=>?_
     · have h5':(normB acc==(s.drop at_).take u)=false:=by simpa using h5
       rw [e0,e1,h5'];rfl
     · have h5':(normB acc==(s.drop at_).take u)=true:=by simpa using h5
       refine Sx.drew H fun w9 _ H=>⟨_,Sx.cell H 0 rfl rfl,H.sto 0 rfl (by simp) fun w10 _ H=>⟨trivial,_,Sx.cell H 0 rfl rfl,.inr ⟨acc,u,a,_,c,?_,?_,rfl,by omega,H.sub (by simp)⟩⟩⟩
       · rw [e0,e1,h5'];rfl
       · push_cast;rfl
end Go.Proofs.Tryz
namespace Go.Proofs.Tryz
open Go Go.RowKit Go.Proofs.VC Go.Sort
variable {M:List Nat} {w0 w:World} {L:List En}
def openN (s:List UInt8) (log:Nat):Option (List UInt8×List UInt8×Nat×Nat):=
 if (vgetR s).2.2≠0 then none else
 if s.length-(vgetR s).2.1<(vgetR s).1 then none else
 if mayBack ((s.drop (vgetR s).2.1).take (vgetR s).1)then
  if log≤leftOf ((s.drop (vgetR s).2.1).take (vgetR s).1)then
   some ((s.drop (vgetR s).2.1).take (vgetR s).1,s.drop ((vgetR s).2.1+(vgetR s).1),leftOf ((s.drop (vgetR s).2.1).take (vgetR s).1)-log,
    nb (((bitsS ((s.drop (vgetR s).2.1).take (vgetR s).1)).drop (leftOf ((s.drop (vgetR s).2.1).take (vgetR s).1)-log)).take log))
  else none
 else none
theorem T_states_opened {R:Ending→World→Prop} {b tc log:Nat} {ta:Option Addr} {T:List Ce} {B:List Bin} (s:List UInt8)
 (H:Sx M w0 w (.ob b (.cells (coderC (.slice ta T.length tc) B 0 (.slice none 0 0) (.slice none 0 0)) t_states_coder (0,0)):: .ow t_api_Cell 3 ta T.length tc (ces T)::L)) (hs:s.length≤140737488355328) (hB:B.length=65) (hlog:log≤12)
 (h1:∀s1 s2 k1 st,openN s log=some (s1,s2,k1,st)→∀w' bs bb br,Sx M w0 w' (RD ⟨bs,bb,br,b,ta,tc,T,B,s1,s2⟩ k1 0 st L)→R (.returned (.tuple #[.pointer (some (A0 br)),.bool true])) w')
 (h2:openN s log=none→∀w' v,Fr M w0 w'→R (.returned (.tuple #[.pointer v,.bool false])) w'):
 Calls prog n_states_opened #[.string (S s),.pointer (some (A0 b)),.int .i64 (log:Int)] w R:=by
 have hct:∀ {tv st v1 v2},_:=fun {tv st v1 v2}=>coder_tail (tv:=tv) (B:=B) (st:=st) (v1:=v1) (v2:=v2) hB
 have hcs:∀ {tv st v1 v2} (st':Int) (v1' v2':Value),_:=fun {tv st v1 v2}=>coder_sets (tv:=tv) (B:=B) (st:=st) (v1:=v1) (v2:=v2) hB
 have hsz:∀ {tv st v1 v2},(coderC tv B st v1 v2).size=69:=fun {tv st v1 v2}=>by rw [coder_size,hB]
 refine S_states_opened ?_
 unfold F_states_opened
 have hr:=readR_at (s:=s) (x:=0) (Nat.zero_le _)
 rw [List.drop_zero]at hr
 refine(T_vint_Get s ((0:Nat):Int) (by omega) w).mono ?_
 rintro e w1 ⟨rfl,hf⟩
 have H:=H.call0 hf
 rw [hr]
 unfold openN at h1 h2
 by_cases he:(vgetR s).2.2=0
 · have hle:=vgetR_le s he
   rw [if_neg (fun h=>h he)]at h1 h2
   rw [if_neg (fun h=>h he)]
   generalize (vgetR s).1=n at*
   generalize (vgetR s).2.1=k at*
   rw [Nat.zero_add]
   refine⟨(n:Int),(k:Int),0,rfl,?_⟩
   intro J4 hJ4
   refine bif_f rfl ?_
   have ew:U64 (W64 (((S s).size:Int)-(k:Int)))=((s.length-k:Nat):Int):=by
    rw [S_size,W64_idn (show(s.length:Int)-(k:Int)=((s.length-k:Nat):Int) by omega) (by omega),U64_nat,Nat.mod_eq_of_lt (by omega)]
   rw [ew]
   refine bif_i (fun h=>?_) fun h=>hJ4 _ ?_
   · have h':s.length-k<n:=by have:=of_decide_eq_true h;omega
     rw [if_pos h']at h2
     exact h2 rfl w1 none H.fr
   · have h':¬s.length-k<n:=by have:=of_decide_eq_false h;omega
     rw [if_neg h']at h1 h2
     have e1:W64 ((k:Int)+W64 (n:Int))=((k+n:Nat):Int):=by
      rw [W64_nat (by omega)];exact W64_idn (by push_cast;rfl) (by omega)
     rw [e1]
     refine⟨by omega,by rw [S_size];omega,by omega,by omega,?_⟩
     rw [Int.toNat_natCast,Int.toNat_natCast,S_extract]
     have et:(s.take (k+n)).drop k=(s.drop k).take n:=by rw [List.drop_take];congr 1;omega
     rw [et]
     have hl1:((s.drop k).take n).length≤140737488355328:=by rw [List.length_take,List.length_drop];omega
     have hl2:(s.drop (k+n)).length≤140737488355328:=by rw [List.length_drop];omega
     refine T_back_From ((s.drop k).take n) H hl1 (fun hm=>⟨_,_,rfl,bif_t rfl ?_⟩) fun hm w3 bs H=>⟨_,_,rfl,bif_f rfl ⟨by omega,by rw [S_size];omega,?_⟩⟩
     · have hm':¬mayBack ((s.drop k).take n)=true:=by rw [hm];decide
       rw [if_neg hm']at h2
       exact h2 rfl w1 none H.fr
     · rw [if_pos hm]at h1 h2
       rw [S_extract,S_size,List.take_of_length_le (Nat.le_refl _)]
       have hle2:=leftOf_le hm
       generalize (s.drop k).take n=s1 at*
       generalize s.drop (k+n)=s2 at*
       refine T_bits_From s2 H fun w4 bb H=>⟨_,rfl,?_⟩
       refine Sx.alloc H fun w5 br _ H=>?_
       have H:Sx M w0 w5 (RD ⟨bs,bb,br,b,ta,tc,T,B,s1,s2⟩ (leftOf s1) 0 0 L):=H.perm ((List.Perm.cons _ (.swap _ _ _)).trans ((List.Perm.swap _ _ _).trans (.cons _ (.swap _ _ _))))
       refine T_states_reader_take (x:=⟨bs,bb,br,b,ta,tc,T,B,s1,s2⟩) H hl1 hle2 hlog (fun hle3 w6 H=>⟨_,_,rfl,OSome.i ⟨_,Sx.cell H 2 rfl rfl,OSome.i ?_⟩⟩) fun hlt w6 H=>⟨_,_,rfl,OSome.i ⟨_,Sx.cell H 2 rfl rfl,OSome.i ?_⟩⟩
       · rw [A0_add]
         rw [if_pos hle3]at h1
         refine Sx.sto H 3 rfl (by rw [hsz];omega) fun w7 _ H=>?_
         rw [(hcs _ (.slice none 0 0) (.slice none 0 0)).1]at H
         exact h1 _ _ _ _ rfl w7 bs bb br H
       · rw [A0_add]
         have hlt':¬log≤leftOf s1:=Nat.not_le.2 hlt
         rw [if_neg hlt']at h2
         exact Sx.sto H 3 rfl (by rw [hsz];omega) fun w7 _ H=>h2 rfl w7 _ H.fr
 · rw [if_pos he]at h2
   rw [if_pos he]
   refine⟨_,_,_,rfl,?_⟩
   intro J4 hJ4
   exact bif_t (by rw [bne_iff_ne];simp only;omega) (h2 rfl w1 none H.fr)
end Go.Proofs.Tryz
namespace Go.Proofs.Tryz
open Go Go.RowKit Go.Proofs.VC Go.Sort
variable {M:List Nat} {w0 w:World} {L:List En}
theorem stretch_le {l:List Nat} {log q:Nat} (h:mayN l log=true) (hq:q<2^log):bsAt (tableN l log) q+2^btAt (tableN l log) q≤2^log:=by
 obtain⟨y,y1,y2,y3,y4,_⟩:=table_at h hq
 have hf:=(spread_mem h hq).2
 have hfl:=count_le h ((spreadN l log).getD q 0)
 have hlog:=(mayN_facts h).1.2
 obtain⟨c1,c2⟩:=base_at hlog (by omega:1≤y) (by omega)
 have hb:=(cellN_ok (c:=0) hlog (by omega:1≤y) (by omega))
 rw [y1,y2]
 have e1:2^(Lib.bitLen y-1)*2^bitsN log y=2^log:=by
  rw [←Nat.pow_add];congr 1;unfold bitsN;have:=hb.2.1;have:=hb.1;omega
 have h12:2^log≤2^12:=Nat.pow_le_pow_right (by decide) hlog
 have e12:(2:Nat)^12=4096:=by decide
 obtain⟨q1,q2,q3,q4⟩:=bitLen_pos (u:=y) (by unfold WW;omega) (by omega)
 have e2:2^Lib.bitLen y=2*2^(Lib.bitLen y-1):=by
  obtain⟨k,hk⟩:∃k,Lib.bitLen y=k+1:=⟨Lib.bitLen y-1,by omega⟩
  rw [hk,Nat.add_sub_cancel,Nat.pow_succ,Nat.mul_comm]
 have hm:(y+1)*2^bitsN log y≤2^Lib.bitLen y*2^bitsN log y:=Nat.mul_le_mul_right _ q4
 rw [e2,Nat.mul_assoc,e1,Nat.succ_mul]at hm
 omega
def backsS (T:List Ce) (s1 s2:List UInt8):Nat→Nat→Nat→Nat→Option (List Pt×Nat×Nat×Nat)
 |0,k1,k2,st=>some ([],k1,k2,st)
 |n+1,k1,k2,st=>match backS T s1 s2 k1 k2 st with
  |none=>none
  |some (p,k1',k2',st')=>(backsS T s1 s2 n k1' k2' st').map fun r=>(p::r.1,r.2)
def statesR (l:List Nat) (log n:Nat) (s:List UInt8):Option (List Pt):=match openN s log with
 |none=>none
 |some (s1,s2,k1,st)=>match backsS (tableN l log) s1 s2 n k1 0 st with
  |none=>none
  |some (ps,k1',k2',st')=>if st'=0∧k1'=0∧restB s2 k2'=true then some ps else none
theorem backS_ok {l:List Nat} {log:Nat} (hm:mayN l log=true) {s1 s2:List UInt8} {k1 k2 st k1' k2' st':Nat} {p:Pt} (hst:st<2^log) (hk:k1≤8*s1.length) (h:backS (tableN l log) s1 s2 k1 k2 st=some (p,k1',k2',st')):
 OkPt p∧k1'≤8*s1.length∧k2'≤8*s2.length∧st'<2^log:=by
 have hs:=stretch_le hm hst
 have hu:(tableN l log)[st]? =some (tableN l log)[st]! :=by
  rw [getElem!_pos _ _ (by rw [tableN_len];exact hst),List.getElem?_eq_getElem (by rw [tableN_len];exact hst)]
 unfold backS at h
 split at h
 · split at h
   · next h1 h2=>
     cases h
     have hcl:((tableN l log).getD st (0,0,0)).1<65:=by
      have:=(table_base hm _ (List.mem_of_getElem? hu)).1
      rw [List.getD_eq_getElem?_getD,hu];exact this
     have hb1:=nb_lt (((bitsS s1).drop (k1-btAt (tableN l log) st)).take (btAt (tableN l log) st))
     have hl1:(((bitsS s1).drop (k1-btAt (tableN l log) st)).take (btAt (tableN l log) st)).length≤btAt (tableN l log) st:=by rw [List.length_take];omega
     have hp1:2^(((bitsS s1).drop (k1-btAt (tableN l log) st)).take (btAt (tableN l log) st)).length≤2^btAt (tableN l log) st:=Nat.pow_le_pow_right (by decide) hl1
     refine⟨?_,by omega,h2,by omega⟩
     generalize ((tableN l log).getD st (0,0,0)).1=cl at*
     have hb2:=nb_lt (((bitsS s2).drop k2).take (cl-1))
     have hl2:(((bitsS s2).drop k2).take (cl-1)).length≤cl-1:=by rw [List.length_take];omega
     have hp2:2^(((bitsS s2).drop k2).take (cl-1)).length≤2^(cl-1):=Nat.pow_le_pow_right (by decide) hl2
     rcases Nat.eq_zero_or_pos cl with h0|h0
     · subst h0
       exact .inl ⟨rfl,by simp at hb2 ⊢;exact hb2⟩
     · exact .inr ⟨h0,by show cl≤64;omega,by show nb _<2^(cl-1);omega⟩
   · cases h
 · cases h
theorem T_states_Get (s:List UInt8) (N:Nat) (al:Option Addr) (nl cl:Nat) (l:List Nat) (log:Nat) (w:World) (hs:s.length≤140737488355328) (hN:N≤4096) (hsl:SlI w al nl (nats l)) (hm:mayN l log=true):
 Calls prog n_states_Get #[.string (S s),.int .i64 (N:Int),.slice al nl cl,.int .i64 (log:Int)] w fun e w'=>
  (statesR l log N s=none∧∃er:Int,er≠0∧e= .returned (.tuple #[.slice none 0 0,.int .i64 er])∧Fr [] w w')∨
  (∃ps a n c,statesR l log N s=some ps∧e= .returned (.tuple #[.slice a n c,.int .i64 0])∧n=ps.length∧(∀p∈ps,OkPt p)∧Sx [] w w' [.ow t_api_Part 2 a n c (pts ps)]):=by
 obtain⟨hlog,h65,hall,hsum⟩:=mayN_facts hm
 have h12:2^log≤2^12:=Nat.pow_le_pow_right (by decide) hlog.2
 have e12:(2:Nat)^12=4096:=by decide
 have hTl:=tableN_len l log
 have hTb:=table_base hm
 refine S_states_Get ?_
 unfold F_states_Get
 refine(T_states_made al nl cl l log w hsl hm).mono ?_
 rintro e w1 ⟨b,ta,tc,B,rfl,⟨hB,hBl⟩,H⟩
 refine⟨_,_,rfl,?_⟩
 intro J6 hJ6
 refine bif_f rfl (bif_f (decide_eq_false (by omega)) (bif_f (decide_eq_false (by omega)) (hJ6 w1 ?_)))
 rw [←hTl]at H
 refine T_states_opened s H hs hB hlog.2 (fun s1 s2 k1 st ho w3 bs bb br H=>⟨_,_,rfl,bif_f rfl ?_⟩) fun ho w3 v hf=>⟨_,_,rfl,bif_t rfl (.inl ⟨by unfold statesR;rw [ho],3,by decide,rfl,hf⟩)⟩
 have hop:s1.length≤140737488355328∧s2.length≤140737488355328∧k1≤8*s1.length∧st<2^log:=by
  unfold openN at ho
  split at ho
  · cases ho
  · split at ho
    · cases ho
    · split at ho
      · next hmb=>
        split at ho
        · obtain⟨rfl,rfl,rfl,rfl⟩:=by simpa using ho
          have:=leftOf_le hmb
          have hb1:=nb_lt (((bitsS ((s.drop (vgetR s).2.1).take (vgetR s).1)).drop (leftOf ((s.drop (vgetR s).2.1).take (vgetR s).1)-log)).take log)
          have hl1:(((bitsS ((s.drop (vgetR s).2.1).take (vgetR s).1)).drop (leftOf ((s.drop (vgetR s).2.1).take (vgetR s).1)-log)).take log).length≤log:=by rw [List.length_take];omega
          have hp1:2^(((bitsS ((s.drop (vgetR s).2.1).take (vgetR s).1)).drop (leftOf ((s.drop (vgetR s).2.1).take (vgetR s).1)-log)).take log).length≤2^log:=Nat.pow_le_pow_right (by decide) hl1
          refine⟨by rw [List.length_take,List.length_drop];omega,by rw [List.length_drop];omega,by omega,by omega⟩
        · cases ho
      · cases ho
 obtain⟨hs1,hs2,hk1,hst⟩:=hop
 have hst0:statesR l log N s=match backsS (tableN l log) s1 s2 N k1 0 st with
  |none=>none
  |some (ps,k1',k2',st')=>if st'=0∧k1'=0∧restB s2 k2'=true then some ps else none:=by unfold statesR;rw [ho]
 have H:=RD.push (Sx.nilw H t_api_Part 2)
 refine⟨fun m a n c x w4=>∃(i:Nat) (acc:List Pt) (k1' k2' st':Nat),x=(i:Int)∧m+i=N∧n=acc.length∧acc.length=i∧(∀p∈acc,OkPt p)∧k1'≤8*s1.length∧k2'≤8*s2.length∧st'<2^log∧
  backsS (tableN l log) s1 s2 N k1 0 st=(backsS (tableN l log) s1 s2 (N-i) k1' k2' st').map (fun r=>(acc++r.1,r.2))∧
  Sx [] w w4 (RD ⟨bs,bb,br,b,ta,tc,tableN l log,B,s1,s2⟩ k1' k2' st' (.ow t_api_Part 2 a n c (pts acc)::_)),
  ⟨N,0,[],k1,0,st,rfl,rfl,rfl,rfl,by simp,hk1,Nat.zero_le _,hst,by simp,H⟩,?_⟩
 rintro m a n c x w4 ⟨i,acc,k1',k2',st',rfl,hmi,rfl,hai,hok,hk1',hk2',hst',he,H⟩
 refine bif_i (fun h=>?_) fun h=>?_
 · have hi:i<N:=by have:=of_decide_eq_true h;omega
   obtain⟨j,hj⟩:∃j,N-i=j+1:=⟨N-i-1,by omega⟩
   have hj':N-(i+1)=j:=by omega
   rw [hj,backsS]at he
   refine T_states_reader_back (x:=⟨bs,bb,br,b,ta,tc,tableN l log,B,s1,s2⟩) H hs1 hk1' hs2 hk2' hB (by show st'<(tableN l log).length;rw [hTl];exact hst') (fun u hu=>⟨(hTb u hu).1,(hTb u hu).2.1,by have:=(hTb u hu).2.2;omega⟩) (fun p ka kb sc hb w5 H=>⟨_,_,_,rfl,?_⟩) fun hb w5 c r hf=>⟨_,_,_,rfl,?_⟩
   · obtain⟨o1,o2,o3,o4⟩:=backS_ok hm hst' hk1' hb
     have hb:backS (tableN l log) s1 s2 k1' k2' st'=some (p,ka,kb,sc):=hb
     rw [hb]at he
     refine Sx.alloc H fun w6 b16 _ H=>Sx.sto H 0 rfl (by simp) fun w7 _ H=>?_
     rw [A0_add]
     refine Sx.sto H 0 rfl (by simp) fun w8 _ H=>bif_f rfl ⟨_,_,Sx.ld H 0 rfl,?_⟩
     refine Sx.alloc (Sx.tail H) fun w9 b58 _ H=>?_
     refine app_Part H (j:=5) rfl (by omega) fun a3 c3 w10 H=>⟨m-1,by omega,i+1,acc++ [p],ka,kb,sc,W64_succ (by omega),by omega,by simp,by simp;omega,?_,o2,o3,o4,?_,H⟩
     · intro q hq
       rcases List.mem_append.1 hq with hq|hq
       · exact hok q hq
       · rw [List.mem_singleton.1 hq];exact o1
     · rw [he,hj',Option.map_map]
       congr 1
       funext r
       simp
   · have hb:backS (tableN l log) s1 s2 k1' k2' st'=none:=hb
     rw [hb]at he
     refine Sx.alloc (Sx.start [] w5) fun w6 b16 hf6 H=>Sx.sto H 0 rfl (by simp) fun w7 _ H=>?_
     rw [A0_add]
     refine Sx.sto H 0 rfl (by simp) fun w8 _ H=>bif_t rfl (.inl ⟨by rw [hst0,he];rfl,3,by decide,rfl,hf.trans H.fr⟩)
 · have hi:i=N:=by have:=of_decide_eq_false h;omega
   subst hi
   rw [Nat.sub_self,backsS]at he
   simp only [Option.map_some,List.append_nil]at he
   rw [he]at hst0
   simp only at hst0
   have hct:∀ {tv st v1 v2},_:=fun {tv st v1 v2}=>coder_tail (tv:=tv) (B:=B) (st:=st) (v1:=v1) (v2:=v2) hB
   refine OSome.i ⟨_,Sx.cell H 2 rfl rfl,OSome.i ⟨_,by rw [A0_add];exact Sx.cell H 3 rfl hct.2.1,bif_i (fun h1=> .inl ⟨?_,3,by decide,rfl,H.fr⟩) fun h1=>OSome.i ⟨_,by rw [A0_add];exact Sx.cell H 2 rfl rfl,?_⟩⟩⟩
   · have h1':¬st'=0:=by have:((st':Nat):Int)≠0:=by simpa using h1
                         omega
     rw [hst0,if_neg (fun hh=>h1' hh.1)]
   · have h1':st'=0:=by have:((st':Nat):Int)=0:=by simpa using h1
                        omega
     refine T_back_Reader_Left (b:=bs) (k:=k1') (s:=s1) H ⟨_,rfl,bif_i (fun h2=> .inl ⟨?_,3,by decide,rfl,H.fr⟩) fun h2=>OSome.i ⟨_,by rw [A0_add];exact Sx.cell H 2 rfl rfl,?_⟩⟩
     · have h2':¬k1'=0:=by have:((k1':Nat):Int)≠0:=by simpa using h2
                           omega
       rw [hst0,if_neg (fun hh=>h2' hh.2.1)]
     · have h2':k1'=0:=by have:((k1':Nat):Int)=0:=by simpa using h2
                          omega
       have H:=H.perm (List.Perm.swap _ _ _)
       refine T_bits_Reader_Rest (b:=bb) (k:=k2') (s:=s2) H hs2 hk2' fun w12 H=>⟨_,rfl,bif_i (fun h3=> .inl ⟨?_,3,by decide,rfl,H.fr⟩) fun h3=> .inr ⟨acc,a,acc.length,c,?_,rfl,rfl,hok,?_⟩⟩
       · have h3':restB s2 k2'=false:=by simpa using h3
         rw [hst0,if_neg (fun hh=>by rw [h3']at hh;cases hh.2.2)]
       · have h3':restB s2 k2'=true:=by simpa using h3
         rw [hst0,if_pos ⟨h1',h2',h3'⟩]
       · exact(Sx.front H 5 rfl).sub (.cons_cons _ (List.nil_sublist _))
end Go.Proofs.Tryz
namespace Go.Proofs.Tryz
open Go Go.RowKit Go.Proofs.VC Go.Sort
variable {M:List Nat} {w0 w:World} {L:List En}
theorem CD_app (x:Cd) (st:Nat) (vs ls:List Nat) (av:Option Addr) (nv cv:Nat) (al:Option Addr) (nl cl:Nat) (L:List En):CD x st vs ls av nv cv al nl cl L=CD x st vs ls av nv cv al nl cl []++L:=by
 simp [CD]
theorem Bin.en_cells {B:Nat} {l:List Bin}:cellsOnly B (l.map Bin.en):=by
 intro b o h
 obtain⟨x,_,hx⟩:=List.mem_map.1 h
 cases hx
theorem CD.cells {B:Nat} {x:Cd} {st:Nat} {vs ls:List Nat} {av:Option Addr} {nv cv:Nat} {al:Option Addr} {nl cl:Nat} (hL:cellsOnly B L):cellsOnly B (CD x st vs ls av nv cv al nl cl L):=by
 intro b o h
 unfold CD at h
 simp only [List.mem_cons,List.mem_append]at h
 rcases h with h|h|h|h|h|h
 · cases h;exact .inr rfl
 · cases h
 · cases h
 · cases h
 · exact Bin.en_cells _ _ h
 · exact hL _ _ h
theorem CX.ownF {B:Nat} {x:Cd} {st:Nat} {vs ls:List Nat} (hB:w0.heap.size≤B) (hL:cellsOnly B L):OwnF B (fun W=>CX M w0 W x st vs ls L):=
 OwnF.ex fun _=>OwnF.ex fun _=>OwnF.ex fun _=>OwnF.ex fun _=>OwnF.ex fun _=>OwnF.ex fun _=>Sx.ownF hB (CD.cells hL)
def fwdStep (l:List Nat) (log:Nat) (s:Nat×List (Nat×Nat)) (c:Nat):Nat×List (Nat×Nat):=
 (placeN l log c s.1,s.2++ [(s.1-bsAt (tableN l log) (placeN l log c s.1),btAt (tableN l log) (placeN l log c s.1))])
def fwdN (l:List Nat) (log:Nat) (cs:List Nat):Nat×List (Nat×Nat):=cs.foldl (fwdStep l log) (0,[])
def sealN (l:List Nat) (log:Nat) (ps:List Pt):List UInt8:=packB (sealB ((fwdN l log (ps.reverse.map (·.1))).2++ [((fwdN l log (ps.reverse.map (·.1))).1,log)]))
def restsB (ps:List Pt):List Bool:=ps.flatMap fun p=>bitsOf p.2 (p.1-1)
def statesB (l:List Nat) (log:Nat) (ps:List Pt):List UInt8:=vput (sealN l log ps).length++sealN l log ps++packB (restsB ps)
theorem fwd_ok {l:List Nat} {log:Nat} (hm:mayN l log=true):∀(cs:List Nat),(∀c∈cs,c<65∧0<l.getD c 0)→(fwdN l log cs).1<2^log∧(fwdN l log cs).2.length=cs.length∧∀p∈(fwdN l log cs).2,p.1<WW∧p.2≤64:=by
 have key:∀(cs:List Nat) (s:Nat×List (Nat×Nat)),(∀c∈cs,c<65∧0<l.getD c 0)→s.1<2^log→(∀p∈s.2,p.1<WW∧p.2≤64)→
  (cs.foldl (fwdStep l log) s).1<2^log∧(cs.foldl (fwdStep l log) s).2.length=s.2.length+cs.length∧∀p∈(cs.foldl (fwdStep l log) s).2,p.1<WW∧p.2≤64:=by
  intro cs
  induction cs with
  |nil=>intro s _ h1 h2;exact⟨h1,rfl,h2⟩
  |cons c cs ih=>
   intro s hc h1 h2
   obtain⟨hc1,hc2⟩:=hc c (by simp)
   obtain⟨hp1,hp2⟩:=place_spec hm hc1 hc2 h1
   have h12:2^log≤2^12:=Nat.pow_le_pow_right (by decide) (mayN_facts hm).1.2
   have e12:(2:Nat)^12=4096:=by decide
   obtain⟨g1,g2,g3⟩:=ih (fwdStep l log s c) (fun d hd=>hc d (by simp [hd])) hp1 (by
    intro p hp
    rcases List.mem_append.1 hp with hp|hp
    · exact h2 p hp
    · rw [List.mem_singleton.1 hp]
      refine⟨by show s.1-_<WW;unfold WW;omega,?_⟩
      show btAt _ _≤64
      have hu:(tableN l log)[placeN l log c s.1]? =some (tableN l log)[placeN l log c s.1]! :=by
       rw [getElem!_pos _ _ (by rw [tableN_len];exact hp1),List.getElem?_eq_getElem (by rw [tableN_len];exact hp1)]
      have:=(table_base hm _ (List.mem_of_getElem? hu)).2.1
      rw [btAt,List.getD_eq_getElem?_getD,hu]
      show(tableN l log)[placeN l log c s.1]!.2.1≤64
      omega)
   refine⟨g1,?_,g3⟩
   rw [List.foldl_cons,g2]
   simp [fwdStep];omega
 intro cs hcs
 obtain⟨h1,h2,h3⟩:=key cs (0,[]) hcs (Nat.two_pow_pos _) (by simp)
 exact⟨h1,by rw [fwdN,h2];simp,h3⟩
theorem fwd_succ (l:List Nat) (log:Nat) (cs:List Nat) (c:Nat):fwdN l log (cs++ [c])=fwdStep l log (fwdN l log cs) c:=by rw [fwdN,List.foldl_append];rfl
end Go.Proofs.Tryz
namespace Go.Proofs.Tryz
open Go Go.RowKit Go.Proofs.VC Go.Sort
variable {M:List Nat} {w0 w:World} {L:List En}
theorem T_states_Put (a:Option Addr) (n c:Nat) (ps:List Pt) (al:Option Addr) (nl cl:Nat) (l:List Nat) (log:Nat) (w:World) (hn:n=ps.length) (hs:Sl w a (pts ps)) (h0:0<ps.length) (hl:ps.length≤4096)
 (hok:∀p∈ps,OkPt p∧l.getD p.1 0≠0) (hsl:SlI w al nl (nats l)) (hm:mayN l log=true):
 Calls prog n_states_Put #[.slice a n c,.slice al nl cl,.int .i64 (log:Int)] w fun e w'=>e= .returned (.tuple #[.string (S (statesB l log ps)),.int .i64 0])∧Fr [] w w':=by
 subst hn
 obtain⟨hlog,h65,hall,hsum⟩:=mayN_facts hm
 have h12:2^log≤2^12:=Nat.pow_le_pow_right (by decide) hlog.2
 have e12:(2:Nat)^12=4096:=by decide
 have hTl:=tableN_len l log
 refine S_states_Put ?_
 unfold F_states_Put
 refine(T_states_made al nl cl l log w hsl hm).mono ?_
 rintro e w1 ⟨b,ta,tc,B,rfl,hBo,H⟩
 refine⟨_,_,rfl,bif_f rfl ?_⟩
 rw [←hTl]at H
 have HC:CX [] w w1 ⟨b,ta,tc,tableN l log,B⟩ 0 [] [] []:=⟨none,0,0,none,0,0,by unfold CD;rw [List.append_nil];exact H⟩
 have hB:B.length=65:=hBo.1
 have hcls:∀p∈ps,p.1<65∧0<l.getD p.1 0:=by
  intro p hp
  have h1:=(hok p hp).2
  have h2:=getD_pos h1
  exact⟨by omega,by omega⟩
 refine⟨fun m x w2=>∃i:Nat,x=(i:Int)∧m+i=ps.length∧CX [] w w2 ⟨b,ta,tc,tableN l log,B⟩ 0 [] [] [],⟨ps.length,0,rfl,rfl,HC⟩,?_⟩
 rintro m x w2 ⟨i,rfl,hmi,HC⟩
 obtain⟨av,nv,cv,al',nl',cl',H⟩:=HC
 refine bif_i (fun h=>?_) fun h=>?_
 · have hi:i<ps.length:=by have:=of_decide_eq_true h;omega
   obtain⟨p,hp,hc1,hc2⟩:=read2 hs (List.getElem?_eq_getElem hi)
   have hok1:=(hok _ (List.getElem_mem hi)).1
   have hcl:=hcls _ (List.getElem_mem hi)
   have hlt:=okPt_lt hok1
   generalize ps[i]=pt at*
   obtain⟨c0,r0⟩:=pt
   simp only at hc1 hc2 hlt hcl
   refine⟨by omega,by omega,⟨p,hp,_,_,⟨by rw [add_zero',Int.toNat_natCast];exact H.fr.cell0 hc1,by rw [add_add,Int.toNat_natCast];exact H.fr.cell0 hc2,trivial⟩,?_⟩⟩
   refine H.alloc fun w3 b11 _ H=>H.sto 0 rfl (by simp) fun w4 _ H=>?_
   rw [A0_add]
   refine H.sto 0 rfl (by simp) fun w5 _ H=>⟨_,_,Sx.ld H 0 rfl,?_⟩
   refine(T_zig_Join (c0,r0) (by show c0<_;omega) hlt.2 w5).mono ?_
   rintro e w6 ⟨rfl,hf6⟩
   have H:=H.call0 hf6
   have hj:joinP (c0,r0)≠none:=by rw [joinP,if_pos hok1];simp
   obtain⟨v,hv⟩:=Option.ne_none_iff_exists'.1 hj
   rw [hv]
   have hg:(nats l)[c0]? =some ((l.getD c0 0:Nat):Int):=by
    refine nats_get ?_
    rw [List.getD_eq_getElem?_getD,List.getElem?_eq_getElem (by omega)];rfl
   have hn2:nl=65:=by rw [hsl.1,nats_len,h65]
   refine⟨_,_,rfl,bif_f rfl ⟨_,Sx.cell H 0 rfl rfl,by omega,by show(c0:Int)<nl;omega,(hsl.2.fr0 H.fr).read (i64s_get hg) fun q hq hcell=>⟨_,by rw [Int.toNat_natCast,Nat.mul_one];exact hcell,bif_f ?_ ⟨m-1,by omega,i+1,W64_succ (by omega),by omega,av,nv,cv,al',nl',cl',H.tail⟩⟩⟩⟩
   rw [beq_eq_false_iff_ne];omega
 · -- the method value,the range
   obtain⟨x,hx⟩:∃x:Cd,x=⟨b,ta,tc,tableN l log,B⟩:=⟨_,rfl⟩
   rw [←hx]at H
   have hxb:x.b=b:=by rw [hx]
   have hxT:x.T=tableN l log:=by rw [hx]
   have hxB:BinsOk l log x.B:=by rw [hx];exact hBo
   refine H.alloc fun w7 b14 _ H=>H.sto 0 rfl (by simp) fun w8 _ H=>?_
   refine T_slices_Backward_Part H fun w9 bx _ H=>⟨_,_,_,rfl,bif_t (by decide) ?_⟩
   obtain⟨pa,hpa⟩:∃p,a=some p:=by
    obtain⟨p,hp,_⟩:=read2 hs (List.getElem?_eq_getElem h0)
    exact⟨p,hp⟩
   subst hpa
   have hzs:∀ {W},Sl W (some pa) (pts ps)→∀j,j<ps.length→W.cell? (pa.add (j*2))=some (.int .i64 (((ps.getD j (0,0)).1:Nat):Int))∧W.cell? ((pa.add (j*2)).add 1)=some (.int .u64 (((ps.getD j (0,0)).2:Nat):Int)):=by
    intro W hW j hj
    obtain⟨p,hp,hc1,hc2⟩:=read2 (w:=W) hW (List.getElem?_eq_getElem hj)
    cases hp
    rw [List.getD_eq_getElem?_getD,List.getElem?_eq_getElem hj,add_add]
    exact⟨hc1,hc2⟩
   have hps9:Sl w9 (some pa) (pts ps):=hs.fr0 H.fr
   have hcb:=Sx.cell H 0 rfl (i:=0) rfl
   obtain⟨Lr,hLr⟩:∃Lr:List En,Lr= [.ob b14 (.cells #[.func (.func n_states_coder_forth) #[.pointer (some (A0 x.b))] #[]] t_func_int (0,0)),.ob bx (.cells #[.slice (some pa) ps.length c] t_S_api_Part (0,0))]:=⟨_,rfl⟩
   have hcells:∀B,cellsOnly B Lr:=by
    intro B b o hbo
    rw [hLr]at hbo
    simp at hbo
    rcases hbo with⟨_,rfl⟩|⟨_,rfl⟩<;>exact .inr rfl
   have H0:CX [] w w9 x 0 [] [] Lr:=by
    rw [hLr]
    have H1:=H.perm (List.Perm.swap _ _ _)
    rw [←hxb]at H1
    have q1:=(H1.perm (L':=(.ob b14 (.cells #[.func (.func n_states_coder_forth) #[.pointer (some (A0 x.b))] #[]] t_func_int (0,0))::CD x 0 [] [] av nv cv al' nl' cl' [.ob bx (.cells #[.slice (some pa) ps.length c] t_S_api_Part (0,0))])) (.cons _ (List.perm_middle (l₁:=x.hd 0 av nv cv al' nl' cl':: .ow t_api_Cell 3 x.ta x.T.length x.tc (ces x.T):: .ow t_uint64 1 av nv cv (u64s []):: .ow t_int 1 al' nl' cl' (i64s (nats []))::x.B.map Bin.en) (l₂:= []) (a:= .ob bx (.cells #[.slice (some pa) ps.length c] t_S_api_Part (0,0)))).symm))
    exact CX.push q1
   have hfw:∀k,∀c∈(ps.reverse.take k).map (·.1),c<65∧0<l.getD c 0:=by
    intro k c hc
    obtain⟨p,hp,rfl⟩:=List.mem_map.1 hc
    exact hcls p (List.mem_reverse.1 (List.mem_of_mem_take hp))
   have hsz9:w.heap.size≤w9.heap.size:=H.fr.size
   have hown:∀k,OwnF w9.heap.size (fun W=>CX [] w W x (fwdN l log ((ps.reverse.take k).map (·.1))).1 ((fwdN l log ((ps.reverse.take k).map (·.1))).2.map (·.1)) ((fwdN l log ((ps.reverse.take k).map (·.1))).2.map (·.2)) Lr):=fun k=>CX.ownF H.fr.size (hcells _)
   refine⟨ps.length,fun k=>(((ps.length-1-k:Nat):Int),(((ps.getD (ps.length-1-k) (0,0)).1:Nat):Int),(((ps.getD (ps.length-1-k) (0,0)).2:Nat):Int)),
    fun k W=>CX [] w W x (fwdN l log ((ps.reverse.take k).map (·.1))).1 ((fwdN l log ((ps.reverse.take k).map (·.1))).2.map (·.1)) ((fwdN l log ((ps.reverse.take k).map (·.1))).2.map (·.2)) Lr,fun _=>False,KpC (atBack2 (A0 bx) pa ps.length),?_,?_,?_,fun _ _ _ h=>h.elim⟩
   · refine⟨?_,fun k=>rfl,KpC.trans,fun W l o o' hl ho hoc=>KpC.put o' ho hoc,hown,OwnF.no,H0⟩
     exact seq_back_Part (A0 bx) pa ps.length c (fun j=>(((ps.getD j (0,0)).1:Int),((ps.getD j (0,0)).2:Int))) (by omega) w9 hcb (fun j hj=>hzs hps9 j hj)
   · intro k hk w10 HC
     dsimp only at HC ⊢
     have hrev:ps.reverse[k]? =some (ps.getD (ps.length-1-k) (0,0)):=by
      rw [List.getElem?_reverse hk,List.getD_eq_getElem?_getD,List.getElem?_eq_getElem (by omega)];rfl
     have htk:ps.reverse.take (k+1)=ps.reverse.take k++ [ps.getD (ps.length-1-k) (0,0)]:=by
      rw [List.take_add_one,hrev];rfl
     have hmem:ps.getD (ps.length-1-k) (0,0)∈ps:=List.mem_reverse.1 (List.mem_of_getElem? hrev)
     have hpc:=hcls _ hmem
     have hfk:=fwd_ok hm _ (hfw k)
     have hlk:((ps.reverse.take k).map (·.1)).length≤4096:=by rw [List.length_map,List.length_take,List.length_reverse];omega
     have hsucc:fwdN l log ((ps.reverse.take (k+1)).map (·.1))=fwdStep l log (fwdN l log ((ps.reverse.take k).map (·.1))) (ps.getD (ps.length-1-k) (0,0)).1:=by
      rw [htk,List.map_append];exact fwd_succ _ _ _ _
     generalize hF:fwdN l log ((ps.reverse.take k).map (·.1))=F at*
     generalize ps.getD (ps.length-1-k) (0,0)=pt at*
     refine Sx.alloc (Sx.start [] w10) fun w11 b16 _ Hs=>Sx.sto Hs 0 rfl (by simp) fun w12 _ Hs=>?_
     rw [A0_add]
     refine Sx.sto Hs 0 rfl (by simp) fun w13 _ Hs=>?_
     obtain⟨av,nv,cv,al',nl',cl',H⟩:=HC
     have hf13:=Hs.fr
     have HJ:Sx [] w w13 (.ob b16 (.cells #[.int .i64 (pt.1:Int),.int .u64 (pt.2:Int)] t_api_Part (0,0))::CD x F.1 (F.2.map (·.1)) (F.2.map (·.2)) av nv cv al' nl' cl' Lr):=Sx.join H Hs
     refine⟨Sx.keepsF (Ls:= []) H (fun _ _ h=>by cases h) hf13,KpC.of_fr hf13 (by simp),fun W=>CX [] w W x F.1 (F.2.map (·.1)) (F.2.map (·.2)) (.ob b16 (.cells #[.int .i64 (pt.1:Int),.int .u64 (pt.2:Int)] t_api_Part (0,0))::Lr),CX.ownF hsz9 ?_,CX.push HJ,fun w14 HC=>?_⟩
     · intro b o hbo
       rcases List.mem_cons.1 hbo with hbo|hbo
       · cases hbo;exact .inr rfl
       · exact hcells _ b o hbo
     · refine⟨_,_,_,HC.cellL (.tail _ (by rw [hLr];exact .head _)) rfl,_,HC.cellL (.head _) rfl,bif_t (by decide+kernel) ?_⟩
       show Calls prog n_states_coder_forth #[.pointer (some (A0 x.b)),.int .i64 (pt.1:Int)] w14 _
       obtain⟨av,nv,cv,al',nl',cl',H⟩:=HC
       rw [CD_app]at H
       have Hs:=Sx.re (H.sub (List.sublist_append_left _ _))
       have hFl:F.2.length≤4096:=by rw [hfk.2.1];exact hlk
       refine T_states_coder_forth (x:=x) (L:= []) ⟨av,nv,cv,al',nl',cl',Hs⟩ hm hxT hxB (by rw [List.length_map];omega) (by rw [List.length_map];omega) hpc.1 hpc.2 hfk.1 fun w15 HC'=>?_
       obtain⟨av2,nv2,cv2,al2,nl2,cl2,H'⟩:=HC'
       refine⟨rfl,Sx.keepsF H (CD.cells (fun _ _ h=>by cases h)) H'.fr,KpC.of_fr H'.fr fun q hq hmem=>?_,?_⟩
       · obtain⟨y,hy,hyb⟩:=mem_blks.1 hmem
         have hpb:∀i,(pa.add i).block=pa.block:=fun i=>add_block _ _
         have hpa:pa.block<w.heap.size:=by
          obtain⟨p,hp,hc1,_⟩:=read2 (w:=w) hs (List.getElem?_eq_getElem h0)
          cases hp
          have:=World.block_lt_of_cell? w _ hc1
          rwa [add_block]at this
         have hnew:pa.block≠q.block:=fun e=>by
          rcases(H.own y (List.mem_append_left _ hy)).new hyb with h|h
          · omega
          · cases h
         rcases hq with rfl|⟨j,_,rfl|rfl⟩
         · exact(List.pairwise_append.1 H.sep).2.2 y hy (.ob bx (.cells #[.slice (some pa) ps.length c] t_S_api_Part (0,0))) (by rw [hLr];simp) _ hyb rfl
         · exact hnew (add_block _ _).symm
         · exact hnew (by rw [add_block,add_block])
       · have Hn:=Sx.frame H H'
         rw [←CD_app]at Hn
         rw [hsucc]
         have e1:(fwdStep l log F pt.1).2.map (·.1)=F.2.map (·.1)++ [F.1-bsAt (tableN l log) (placeN l log pt.1 F.1)]:=by simp [fwdStep]
         have e2:(fwdStep l log F pt.1).2.map (·.2)=F.2.map (·.2)++ [btAt (tableN l log) (placeN l log pt.1 F.1)]:=by simp [fwdStep]
         rw [e1,e2]
         exact CX.drop ⟨av2,nv2,cv2,al2,nl2,cl2,Hn⟩
   · intro D w16 hD HC hDh
     rw [List.take_of_length_le (by simp)]at HC
     have hfk:=fwd_ok hm ((ps.reverse).map (·.1)) (fun c hc=>by
      obtain⟨p,hp,rfl⟩:=List.mem_map.1 hc
      exact hcls p (List.mem_reverse.1 hp))
     have hseal:sealN l log ps=packB (sealB ((fwdN l log (ps.reverse.map (·.1))).2++ [((fwdN l log (ps.reverse.map (·.1))).1,log)])):=rfl
     have hlk:(fwdN l log (ps.reverse.map (·.1))).2.length≤4096:=by rw [hfk.2.1,List.length_map,List.length_reverse];omega
     generalize hF:fwdN l log (ps.reverse.map (·.1))=F at*
     obtain⟨av,nv,cv,al',nl',cl',H⟩:=HC
     have H:=H.push (x:= .ob D (.deferred (some []))) ⟨.inl (Nat.le_trans hsz9 hD),hDh⟩ (by
      intro b hb y hy hyb
      cases hb
      rcases(H.own y hy).cells (B:=0) (fun b o e=>CD.cells (hcells 0) b o (e▸hy)) hyb with h|h
      · omega
      · have:=h _ hDh;cases this)
     have HC:=CX.push H
     have hct:∀ {tv st v1 v2},_:=fun {tv st v1 v2}=>coder_tail (tv:=tv) (B:=x.B) (st:=st) (v1:=v1) (v2:=v2) hxB.1
     rw [←hxb]
     refine OSome.i ⟨_,by rw [A0_add];exact Sx.cell H 1 rfl hct.2.1,?_⟩
     refine T_states_coder_put HC hxB.1 (by rw [List.length_map];omega) (by rw [List.length_map];omega) F.1 log (by omega) fun w17 HC=>⟨rfl,?_⟩
     rintro w18 rfl
     have HC:=HC.call0 (Fr.drew _ _)
     obtain⟨av,nv,cv,al',nl',cl',H⟩:=HC
     refine OSome.i ⟨_,_,_,by rw [A0_add];exact Sx.cell H 0 rfl hct.2.2.1,OSome.i ⟨_,_,_,by rw [A0_add];exact Sx.cell H 0 rfl hct.2.2.2,?_⟩⟩
     have n1:=H.len 2 rfl
     have n2:=H.len 3 rfl
     rw [u64s_len,Nat.mul_one]at n1
     rw [i64s_len,nats_len,Nat.mul_one]at n2
     have hv1:(F.2++ [(F.1,log)]).map (·.1)=F.2.map (·.1)++ [F.1]:=by simp
     have hv2:(F.2++ [(F.1,log)]).map (·.2)=F.2.map (·.2)++ [log]:=by simp
     refine Calls.sx H (T_back_Seal av nv cv al' nl' cl' (F.2++ [(F.1,log)]) _ (by rw [←n1];simp) (by rw [←n2];simp) (by rw [hv1];exact Sx.slw H 2 rfl) (by rw [hv2];exact Sx.slw H 3 rfl) (by
      intro p hp
      rcases List.mem_append.1 hp with hp|hp
      · exact hfk.2.2 p hp
      · rw [List.mem_singleton.1 hp]
        exact⟨by show F.1<WW;unfold WW;omega,by show log≤64;omega⟩) (by simp;omega)) fun w19 hf19 H=>⟨_,rfl,trivial,?_⟩
     have hsl0:(sealN l log ps).length≤1000000:=by
      have h1:=sealB_le (F.2++ [(F.1,log)]) (fun p hp=>by
       rcases List.mem_append.1 hp with hp|hp
       · exact(hfk.2.2 p hp).2
       · rw [List.mem_singleton.1 hp];show log≤64;omega)
      rw [hseal,packB_len]
      unfold sealB
      simp only [List.length_append,List.length_singleton]at h1 ⊢
      omega
     rw [←hseal]
     refine T_bits_New H fun w20 bw hW=>⟨_,rfl,?_⟩
     refine⟨fun m x' w21=>∃i:Nat,x'=(i:Int)∧m+i=ps.length∧WS [] w w21 _ bw (restsB (ps.take i)),⟨ps.length,0,rfl,rfl,hW⟩,?_⟩
     rintro m x' w21 ⟨i,rfl,hmi,hW⟩
     have hrl:∀k,(restsB (ps.take k)).length≤64*4096:=by
      intro k
      have:∀(qs:List Pt),(∀q∈qs,OkPt q)→(restsB qs).length≤64*qs.length:=by
       intro qs
       induction qs with
       |nil=>intro _;simp [restsB]
       |cons q qs ih=>
        intro hq
        have h1:=ih fun p hp=>hq p (by simp [hp])
        have h2:q.1≤64:=by rcases hq q (by simp)with h|h<;>omega
        simp only [restsB,List.flatMap_cons,List.length_append,bitsOf_len,List.length_cons]at h1 ⊢
        omega
      have h1:=this (ps.take k) fun q hq=>(hok q (List.mem_of_mem_take hq)).1
      rw [List.length_take]at h1
      omega
     refine bif_i (fun h=>?_) fun h=>?_
     · have hi:i<ps.length:=by have:=of_decide_eq_true h;omega
       obtain⟨p,hp,hc1,hc2⟩:=read2 hs (List.getElem?_eq_getElem hi)
       have hok1:=(hok _ (List.getElem_mem hi)).1
       have hlt:=okPt_lt hok1
       have htk:ps.take (i+1)=ps.take i++ [ps[i]]:=List.take_succ_eq_append_getElem hi
       have hri:=hrl i
       have hcl:=hcls _ (List.getElem_mem hi)
       generalize ps[i]=pt at*
       obtain⟨c0,r0⟩:=pt
       simp only at hc1 hc2 hlt hcl
       refine⟨by omega,by omega,⟨p,hp,_,_,⟨by rw [add_zero',Int.toNat_natCast];exact hW.fr.cell0 hc1,by rw [add_add,Int.toNat_natCast];exact hW.fr.cell0 hc2,trivial⟩,?_⟩⟩
       refine hW.alloc fun w22 b20 _ hW=>?_
       simp only [A0_add]
       refine hW.sto 0 rfl (by simp) fun w23 hW=>hW.sto 0 rfl (by simp) fun w24 hW=>⟨_,hW.cell 0 rfl rfl,_,hW.cell 0 rfl rfl,?_⟩
       have em:W64 ((c0:Int)-1)=(c0:Int)-1:=W64_id _ (by omega) (by omega)
       rw [em]
       refine T_bits_Writer_Put hlt.2 hW (by omega) (by omega) fun w25 hW=>⟨rfl,m-1,by omega,i+1,W64_succ (by omega),by omega,?_⟩
       have e1:restsB (ps.take (i+1))=restsB (ps.take i)++bitsOf r0 ((c0:Int)-1).toNat:=by
        rw [htk,restsB,List.flatMap_append,show((c0:Int)-1).toNat=c0-1 by omega]
        simp [restsB]
       rw [e1]
       exact WS.tail hW
     · have hi:i=ps.length:=by have:=of_decide_eq_false h;omega
       subst hi
       have hri:=hrl ps.length
       rw [List.take_of_length_le (Nat.le_refl _)]at hW hri
       have eu:U64 (((S (sealN l log ps)).size:Nat):Int)=(((sealN l log ps).length:Nat):Int):=by rw [S_size,U64_nat,Nat.mod_eq_of_lt (by omega)]
       rw [eu]
       refine(T_vint_Put _ (by omega) w21).mono ?_
       rintro e w26 ⟨rfl,hf26⟩
       have hW:=hW.call0 hf26
       have h128:(128:Nat)^(2+1)=2097152:=by decide
       have hvl:=vput_len 2 (sealN l log ps).length (by omega)
       refine⟨_,rfl,by rw [S_size,S_size];simp only [strMax];omega,T_bits_Writer_Bytes hW fun hW=>⟨_,rfl,?_,?_,?_⟩⟩
       · rw [S_append,S_size,S_size,List.length_append,packB_len];simp only [strMax];omega
       · exact(hW.tailSx.own (.ob D (.deferred (some []))) (by unfold CD;simp)).2
       · refine⟨?_,?_⟩
         · rw [S_append,S_append];rfl
         · have hf:=hW.fr
           have hne:∀k,k<w.heap.size→k≠D:=fun k hk=>by omega
           exact⟨hf.os,hf.tape,hf.output,by have:=hf.size;simpa [World.putObj]using this,fun k hk hm=>(World.putObj_heap_other (hne k hk)).trans (hf.block k hk hm)⟩
end Go.Proofs.Tryz
namespace Go.Proofs.Tryz
open Go Go.RowKit Go.Proofs.VC
theorem max_ex:∀(l:List Nat),l≠ []→∃i,i<l.length∧∀j,j<l.length→l.getD j 0≤l.getD i 0
 | [x],_=>⟨0,by simp,fun j hj=>by
     have:j=0:=by simp at hj;exact hj
     subst this;exact Nat.le_refl _⟩
 |x::y::l,_=>by
  obtain⟨i,hi,h⟩:=max_ex (y::l) (by simp)
  by_cases hx:x≤(y::l).getD i 0
  · refine⟨i+1,by simpa using hi,fun j hj=>?_⟩
    cases j with
    |zero=>exact hx
    |succ j=>exact h j (by simpa using hj)
  · refine⟨0,by simp,fun j hj=>?_⟩
    cases j with
    |zero=>exact Nat.le_refl _
    |succ j=>
     have:=h j (by simpa using hj)
     show(y::l).getD j 0≤x
     omega
theorem firstMax_ok {l:List Nat} (h:l≠ []):firstMax l<l.length∧∀j,l.getD j 0≤l.getD (firstMax l) 0:=by
 obtain⟨i,hi,hm⟩:=max_ex l h
 unfold firstMax
 have:((List.range l.length).find? fun i=>decide (∀j,j<l.length→l.getD j 0≤l.getD i 0)).isSome=true:=List.find?_isSome.2 ⟨i,List.mem_range.2 hi,decide_eq_true hm⟩
 obtain⟨r,hr⟩:=Option.isSome_iff_exists.1 this
 rw [hr]
 refine⟨List.mem_range.1 (List.mem_of_find?_eq_some hr),fun j=>?_⟩
 by_cases hj:j<l.length
 · have h1:=List.find?_some hr
   simp only [decide_eq_true_eq]at h1
   exact h1 j hj
 · rw [List.getD_eq_getElem?_getD,List.getElem?_eq_none (by omega)];exact Nat.zero_le _
theorem takeOne_ok {l:List Nat} (h:l.length<l.sum):(takeOne l).sum+1=l.sum∧∀c,0<l.getD c 0→0<(takeOne l).getD c 0:=by
 have hne:l≠ []:=by rintro rfl;simp at h
 obtain⟨h1,h2⟩:=firstMax_ok hne
 have h3:2≤l.getD (firstMax l) 0:=by
  rcases Nat.lt_or_ge (l.getD (firstMax l) 0) 2 with h4|h4
  · have:=sum_le_const (l:=l) (b:=1) fun x hx=>by
     obtain⟨j,hj,rfl⟩:=List.mem_iff_getElem.1 hx
     have:=h2 j
     rw [List.getD_eq_getElem?_getD,List.getElem?_eq_getElem hj]at this
     have this:l[j]≤l.getD (firstMax l) 0:=this
     omega
    omega
  · exact h4
 have hs:=sum_set (l:=l) (i:=firstMax l) (v:=l.getD (firstMax l) 0-1) h1
 refine⟨by show(l.set _ _).sum+1=_;omega,fun c hc=>?_⟩
 show 0<(l.set _ _).getD c 0
 rw [getD_set]
 split
 · omega
 · exact hc
theorem takeMany_ok:∀(m:Nat) {l:List Nat},l.length+m≤l.sum→(takeMany m l).sum+m=l.sum∧∀c,0<l.getD c 0→0<(takeMany m l).getD c 0
 |0,l,_=>⟨rfl,fun _ h=>h⟩
 |m+1,l,h=>by
  obtain⟨h1,h2⟩:=takeOne_ok (l:=l) (by omega)
  obtain⟨h3,h4⟩:=takeMany_ok m (l:=takeOne l) (by rw [takeOne_len];omega)
  exact⟨by rw [takeMany];omega,fun c hc=>by rw [takeMany];exact h4 c (h2 c hc)⟩
theorem normN_ok {freq:List Nat} {log:Nat} (h65:freq.length=65) (hpos:0<freq.sum) (hlog:7≤log∧log≤12):mayN (normN freq log) log=true∧∀c,0<freq.getD c 0→(normN freq log).getD c 0≠0:=by
 have h7:2^7≤2^log:=Nat.pow_le_pow_right (by decide) hlog.1
 have e7:(2:Nat)^7=128:=by decide
 have ho:∀c,0<freq.getD c 0→0<(out0 freq log).getD c 0:=by
  intro c hc
  rw [out0,List.getD_eq_getElem?_getD,List.getElem?_map]
  rw [List.getD_eq_getElem?_getD]at hc
  cases hf:freq[c]? with
  |none=>rw [hf]at hc;simp at hc
  |some v=>
   rw [hf]at hc
   have hc:0<v:=hc
   show 0<share v log freq.sum
   unfold share
   rw [if_pos hc];omega
 have key:(normN freq log).sum=2^log∧∀c,0<freq.getD c 0→0<(normN freq log).getD c 0:=by
  unfold normN
  have hol:=out0_len freq log
  split
  · next h=>
    have hord:(ordN freq).getD 0 0<65:=by
     cases ho:ordN freq with
     |nil=>show(0:Nat)<65;decide
     |cons c cs=>
      have:=(ordN_mem (freq:=freq) (c:=c) (by rw [ho];simp)).1
      show c<65
      omega
    have hs:=sum_set (l:=out0 freq log) (i:=(ordN freq).getD 0 0) (v:=(out0 freq log).getD ((ordN freq).getD 0 0) 0+(2^log-(out0 freq log).sum)) (by omega)
    refine⟨by omega,fun c hc=>?_⟩
    have:=ho c hc
    rw [getD_set]
    split
    · next h2=>rw [h2.1];omega
    · exact this
  · next h=>
    obtain⟨h1,h2⟩:=takeMany_ok ((out0 freq log).sum-2^log) (l:=out0 freq log) (by omega)
    exact⟨by omega,fun c hc=>h2 c (ho c hc)⟩
 refine⟨?_,fun c hc=>by have:=key.2 c hc;omega⟩
 simp only [mayN,Bool.and_eq_true,decide_eq_true_eq,beq_iff_eq,List.all_eq_true]
 refine⟨⟨⟨hlog,by rw [normN_len,h65]⟩,fun x hx=>?_⟩,key.1⟩
 have:=mem_le_sum hx
 omega
end Go.Proofs.Tryz
namespace Go.Proofs.VC
open Go
structure Key2 (P:Program) (k:TypeId):Prop where
 u:∃f g:Field,P.underlying k=some (.struct #[f,g])∧f.name≠ "_" ∧g.name≠ "_" ∧f.offset=0∧g.offset=1∧P.underlying f.type=some (.int .i64)∧P.underlying g.type=some (.int .i64)
 s:P.stoodInHeld k=false
def kv (p:Int×Int):Value:= .agg #[.int .i64 p.1,.int .i64 p.2]
variable {P:Program} {k:TypeId} {w:World}
theorem equal_key2 (K:Key2 P k) (p q:Int×Int):(Op.equal k (kv p) (kv q)).run P w= .ok (p==q) w:=by
 obtain⟨⟨f,g,hu,hf,hg,of,og,uf,ug⟩,hs⟩:=K
 show(Op.equalIn (9999+1) k (kv p) (kv q)).run P w=_
 have e1:∀(n:Nat) (t:TypeId) (a b:Int),P.underlying t=some (.int .i64)→(Op.equalIn (n+1) t (.int .i64 a) (.int .i64 b)).run P w= .ok (a==b) w:=by
  intro n t a b ht
  simp [Op.equalIn,Go.run_underlying ht]
 have p1:∀(t:TypeId) (xs:Array Value) (i:Nat) (a:Int),P.underlying t=some (.int .i64)→xs[i]? =some (.int .i64 a)→(part t xs i).run P w= .ok (.int .i64 a) w:=by
  intro t xs i a ht hx
  simp [part,isAgg,Go.run_underlying ht,hx]
 have h1:=e1 9998 f.type p.1 q.1 uf
 have h2:=e1 9998 g.type p.2 q.2 ug
 have a1:=p1 f.type #[.int .i64 p.1,.int .i64 p.2] 0 p.1 uf rfl
 have a2:=p1 g.type #[.int .i64 p.1,.int .i64 p.2] 1 p.2 ug rfl
 have b1:=p1 f.type #[.int .i64 q.1,.int .i64 q.2] 0 q.1 uf rfl
 have b2:=p1 g.type #[.int .i64 q.1,.int .i64 q.2] 1 q.2 ug rfl
 obtain⟨p1',p2'⟩:=p
 obtain⟨q1,q2⟩:=q
 unfold Op.equalIn
 simp only [kv,Sem.run_bind,Go.run_underlying hu,Result.andThen_ok]
 simp [hs,hf,hg,of,og,a1,a2,b1,b2,h1,h2]
 by_cases c1:p1'=q1<;>by_cases c2:p2'=q2<;>simp [c1,c2]
abbrev KV:=(Int×Int)×Int
def ent (x:KV×Nat):MapEntry:= {key:=kv x.1.1,val:= .int .i64 x.1.2,born:=x.2}
def mapOb (l:List KV):Obj:= .map (l.zipIdx.map ent).toArray l.length
theorem mapOb_nil:mapOb []= .map #[] 0:=rfl
def lk (l:List KV) (p:Int×Int):Option Int:=(l.find? fun x=>p==x.1).map (·.2)
theorem find_asking (K:Key2 P k) (p:Int×Int):∀(l:List KV) (n i:Nat),∃j:Nat,(Instr.findAsking k (kv p) ((l.zipIdx n).map ent) i).run P w= .ok ((lk l p).map fun v=>(j,.int .i64 v)) w
 | [],n,i=>⟨0,by simp [Instr.findAsking,lk]⟩
 |x::l,n,i=>by
  have he:(Op.equal k (kv p) (ent (x,n)).key).run P w= .ok (p==x.1) w:=equal_key2 K p x.1
  cases hb:p==x.1
  · obtain⟨j,hj⟩:=find_asking K p l (n+1) (i+1)
    refine⟨j,?_⟩
    rw [hb]at he
    have e:lk (x::l) p=lk l p:=by simp only [lk,List.find?_cons,hb]
    simp [Instr.findAsking,List.zipIdx_cons,he,hj,e]
  · refine⟨i,?_⟩
    rw [hb]at he
    have e:lk (x::l) p=some x.2:=by simp only [lk,List.find?_cons,hb];rfl
    simp only [List.zipIdx_cons,List.map_cons,Instr.findAsking,Sem.run_bind,he,Result.andThen_ok,if_true,Sem.run_pure,e,Option.map_some]
    rfl
theorem find_key (K:Key2 P k) (p:Int×Int) (l:List KV):∃j:Nat,(Instr.findKey k (kv p) (mapOb l|>fun o=>match o with| .map es _=>es.toList|_=> [])).run P w= .ok ((lk l p).map fun v=>(j,.int .i64 v)) w:=by
 obtain⟨f,g,hu,_⟩:=K.u
 obtain⟨j,hj⟩:=find_asking (w:=w) K p l 0 0
 refine⟨j,?_⟩
 show(Instr.findKey k (kv p) (l.zipIdx.map ent)).run P w=_
 cases l with
 |nil=>simp [Instr.findKey,Go.run_underlying hu,Instr.findNow,lk]
 |cons x l=>
  simp only [Instr.findKey,Sem.run_bind,Go.run_underlying hu,Result.andThen_ok]
  simp only [List.zipIdx_cons,List.map_cons,Instr.findNow,Instr.sameNow]
  exact hj
theorem check_key (K:Key2 P k) (b:Bool) (p:Int×Int):(Instr.checkKey b 10000 k (kv p)).run P w= .ok () w:=by
 obtain⟨⟨f,g,hu,hf,hg,of,og,uf,ug⟩,hs⟩:=K
 show(Instr.checkKey b (9999+1) k (kv p)).run P w=_
 have e1:∀(n:Nat) (t:TypeId) (a:Int),P.underlying t=some (.int .i64)→(Instr.checkKey b (n+1) t (.int .i64 a)).run P w= .ok () w:=by
  intro n t a ht
  simp [Instr.checkKey,Go.run_underlying ht]
 have p1:∀(t:TypeId) (xs:Array Value) (i:Nat) (a:Int),P.underlying t=some (.int .i64)→xs[i]? =some (.int .i64 a)→(part t xs i).run P w= .ok (.int .i64 a) w:=by
  intro t xs i a ht hx
  simp [part,isAgg,Go.run_underlying ht,hx]
 have h1:=e1 9998 f.type p.1 uf
 have h2:=e1 9998 g.type p.2 ug
 have a1:=p1 f.type #[.int .i64 p.1,.int .i64 p.2] 0 p.1 uf rfl
 have a2:=p1 g.type #[.int .i64 p.1,.int .i64 p.2] 1 p.2 ug rfl
 unfold Instr.checkKey
 simp only [kv,Sem.run_bind,Go.run_underlying hu,Result.andThen_ok]
 simp [hf,hg,of,og,a1,a2,h1,h2]
theorem look_up (K:Key2 P k) {t e:TypeId} (ht:P.underlying t=some (.map k e)) (hz:(zeroValue e).run P w= .ok (.int .i64 0) w) {b:Nat} {l:List KV} (hb:w.heap[b]? =some (mapOb l)) (p:Int×Int):
 (Instr.lookup t (.map (some b)) (kv p) true).run P w= .ok (.tuple #[.int .i64 ((lk l p).getD 0),.bool (lk l p).isSome]) w:=by
 obtain⟨j,hj⟩:=find_key (w:=w) K p l
 have hj:(Instr.findKey k (kv p) (l.zipIdx.map ent)).run P w= .ok ((lk l p).map fun v=>(j,.int .i64 v)) w:=hj
 have hg:(getObj b).run P w= .ok (.map (l.zipIdx.map ent).toArray l.length) w:=by simp [getObj,Sem.run,hb,mapOb]
 simp only [Instr.lookup,Sem.run_bind,Go.run_underlying ht,Result.andThen_ok,hg,Sem.run_pure,check_key K,hj]
 cases lk l p with
 |none=>simp [hz]
 |some v=>simp
theorem map_put (K:Key2 P k) {t e:TypeId} (ht:P.underlying t=some (.map k e)) {b:Nat} {l:List KV} (hb:w.heap[b]? =some (mapOb l)) (p:Int×Int) (v:Int) (hn:lk l p=none):
 (Instr.mapUpdate t (.map (some b)) (kv p) (.int .i64 v)).run P w= .ok () {w with heap:=w.heap.setIfInBounds b (mapOb (l++ [(p,v)]))}:=by
 obtain⟨j,hj⟩:=find_key (w:=w) K p l
 have hj:(Instr.findKey k (kv p) (l.zipIdx.map ent)).run P w= .ok ((lk l p).map fun v=>(j,.int .i64 v)) w:=hj
 have hg:(getObj b).run P w= .ok (.map (l.zipIdx.map ent).toArray l.length) w:=by simp [getObj,Sem.run,hb,mapOb]
 rw [hn]at hj
 simp only [Instr.mapUpdate,Sem.run_bind,Go.run_underlying ht,Result.andThen_ok,hg,check_key K,hj,Option.map_none]
 have e:mapOb (l++ [(p,v)])= .map ((l.zipIdx.map ent).toArray.push {key:=kv p,val:= .int .i64 v,born:=l.length}) (l.length+1):=by
  simp [mapOb,List.zipIdx_append,ent]
 have hset:∀o,(setObj b o).run P w= .ok () {w with heap:=w.heap.setIfInBounds b o}:=fun o=>by simp [setObj,Sem.run,hb,mapOb]
 rw [e]
 exact hset _
theorem map_len {t ty kt e:TypeId} (ht:P.underlying t=some (.map kt e)) {b:Nat} {l:List KV} (hb:w.heap[b]? =some (mapOb l)) (hl:l.length<9223372036854775808):
 (Builtin.len_ #[t] ty #[.map (some b)]).run P w= .ok (.int .i64 (l.length:Int)) w:=by
 have hg:(getObj b).run P w= .ok (.map (l.zipIdx.map ent).toArray l.length) w:=by simp [getObj,Sem.run,hb,mapOb]
 simp [Builtin.len_,Go.run_underlying ht,hg,goInt]
end Go.Proofs.VC
namespace Go.Proofs.Tryz
open Go Go.RowKit Go.Proofs.VC
variable {M:List Nat} {w0 w:World} {L:List En}
theorem key2_Code:Key2 prog t_api_Code where
 u:=⟨{name:= "Bits",type:=t_int,offset:=0,embedded:=false,tag:= "",pkgPath:= "",byteOffset:=0},{name:= "Len",type:=t_int,offset:=1,embedded:=false,tag:= "",pkgPath:= "",byteOffset:=8},by kernel_rfl,by decide,by decide,rfl,rfl,by kernel_rfl,by kernel_rfl⟩
 s:=by kernel_rfl
theorem zero_int (w:World):(zeroValue t_int).run prog w= .ok (.int .i64 0) w:=by
 obtain⟨i,hi,hz,_⟩:=i_int
 simp [zeroValue,typeInfo,hi,hz]
theorem orI_i64 (a b:Nat) (ha:a<9223372036854775808) (hb:b<9223372036854775808):orI .i64 a b=((a|||b:Nat):Int):=by
 have:(a|||b)<2^63:=Nat.or_lt_two_pow (by omega) (by omega)
 show IntKind.wrap .i64 (((BitVec.ofInt 64 (a:Int)|||BitVec.ofInt 64 (b:Int)).toNat:Nat):Int)=_
 rw [ofInt_nat,ofInt_nat,BitVec.toNat_or,BitVec.toNat_ofNat,BitVec.toNat_ofNat,Nat.mod_eq_of_lt (show a<2^64 by omega),Nat.mod_eq_of_lt (show b<2^64 by omega)]
 exact wrap_i64 _ (by omega) (by omega)
theorem or_bit (a:Nat) (b:Bool):a*2^1|||b.toNat=2*a+b.toNat:=by
 have:=or_add b.toNat a 1 (by cases b<;>decide)
 rw [Nat.or_comm,this];omega
def clsTo (l:List Nat) (p:Nat×Nat):Nat→Option Nat
 |0=>none
 |i+1=>(clsTo l p i).or (if l.getD i 0≠0∧codeAt l i=p then some i else none)
def clsOf (l:List Nat) (p:Nat×Nat):Option Nat:=clsTo l p l.length
def pI (p:Nat×Nat):Int×Int:=((p.1:Int),(p.2:Int))
theorem pI_inj {p q:Nat×Nat} (h:pI p=pI q):p=q:=by
 simp only [pI,Prod.mk.injEq]at h
 exact Prod.ext (by omega) (by omega)
def cmapTo (l:List Nat):Nat→List KV
 |0=> []
 |i+1=>cmapTo l i++(if l.getD i 0=0 then []else [(pI (codeAt l i),(i:Int))])
def cmap (l:List Nat):List KV:=cmapTo l l.length
theorem lk_app (a b:List KV) (p:Int×Int):lk (a++b) p=(lk a p).or (lk b p):=by
 unfold lk
 rw [List.find?_append]
 cases List.find? (fun x=>p==x.1) a<;>simp
theorem lk_to (l:List Nat) (p:Nat×Nat):∀i:Nat,lk (cmapTo l i) (pI p)=(clsTo l p i).map fun c=>(c:Int)
 |0=>rfl
 |i+1=>by
  rw [cmapTo,lk_app,lk_to l p i,clsTo]
  cases clsTo l p i with
  |some c=>rfl
  |none=>
   simp only [Option.none_or]
   by_cases h0:l.getD i 0=0
   · rw [if_pos h0,if_neg (fun h=>h.1 h0)];rfl
   · rw [if_neg h0]
     by_cases h1:codeAt l i=p
     · rw [if_pos ⟨h0,h1⟩,h1]
       simp [lk]
     · rw [if_neg fun h=>h1 h.2]
       have:(pI p==pI (codeAt l i))=false:=by
        rw [beq_eq_false_iff_ne]
        exact fun h=>h1 (pI_inj h).symm
       simp [lk,this]
theorem clsTo_some {l:List Nat} {p:Nat×Nat}:∀ {i c:Nat},clsTo l p i=some c→c<i∧l.getD c 0≠0∧codeAt l c=p
 |0,c,h=>by cases h
 |i+1,c,h=>by
  rw [clsTo]at h
  cases hc:clsTo l p i with
  |some d=>
   rw [hc]at h
   cases h
   obtain⟨h1,h2⟩:=clsTo_some hc
   exact⟨by omega,h2⟩
  |none=>
   rw [hc,Option.none_or]at h
   split at h
   · rename_i h1
     cases h
     exact⟨by omega,h1⟩
   · cases h
theorem clsTo_none {l:List Nat} {p:Nat×Nat}:∀ {i:Nat},clsTo l p i=none→∀c,c<i→¬(l.getD c 0≠0∧codeAt l c=p)
 |0,_,c,hc=>by omega
 |i+1,h,c,hc=>by
  rw [clsTo]at h
  cases hd:clsTo l p i with
  |some d=>rw [hd]at h;cases h
  |none=>
   rw [hd,Option.none_or]at h
   by_cases e:c=i
   · subst e
     intro h1
     rw [if_pos h1]at h;cases h
   · exact clsTo_none hd c (by omega)
theorem cmapTo_len (l:List Nat):∀i:Nat,(cmapTo l i).length≤i
 |0=>by simp [cmapTo]
 |i+1=>by
  have:=cmapTo_len l i
  rw [cmapTo,List.length_append]
  split<;>simp<;>omega
def codeR (l:List Nat):Nat→Nat→Nat→List Bool→Option (Nat×Nat)
 |0,_,_,_=>none
 |_+1,_,_,[]=>none
 |f+1,b,n,x::B=>match clsOf l (2*b+x.toNat,n+1)with
  |some c=>some (c,n+1)
  |none=>codeR l f (2*b+x.toNat) (n+1) B
def onlyR (l:List Nat) (B:List Bool):Option (Nat×Nat):=match B with
 | []=>none
 |x::_=>(clsOf l (x.toNat,1)).map fun c=>(c,1)
theorem codeR_some {l:List Nat}:∀ {f b n:Nat} {B:List Bool} {c k:Nat},codeR l f b n B=some (c,k)→c<l.length∧n<k∧k≤n+f∧k≤n+B.length
 |0,_,_,_,_,_,h=>by simp [codeR]at h
 |_+1,_,_,[],_,_,h=>by simp [codeR]at h
 |f+1,b,n,x::B,c,k,h=>by
  rw [codeR]at h
  cases hc:clsOf l (2*b+x.toNat,n+1)with
  |some d=>
   rw [hc]at h
   simp at h
   obtain⟨rfl,rfl⟩:=h
   exact⟨(clsTo_some hc).1,by omega,by omega,by simp⟩
  |none=>
   rw [hc]at h
   obtain⟨h1,h2,h3,h4⟩:=codeR_some h
   simp only [List.length_cons]
   exact⟨h1,by omega,by omega,by omega⟩
theorem onlyR_some {l:List Nat} {B:List Bool} {c k:Nat} (h:onlyR l B=some (c,k)):c<l.length∧k=1∧1≤B.length:=by
 cases B with
 |nil=>cases h
 |cons x B=>
  simp only [onlyR,Option.map_eq_some_iff]at h
  obtain⟨d,hd,e⟩:=h
  cases e
  exact⟨(clsTo_some hd).1,rfl,by simp⟩
def HR (M:List Nat) (w0 w:World) (L:List En) (b r m:Nat) (l:List Nat) (s:List UInt8) (k:Nat):Prop:=
 RS M w0 w (.ob r (.cells #[.pointer (some (A0 b)),.map (some m)] t_huff_reader (0,0)):: .ob m (mapOb (cmap l))::L) b s k
theorem HR.alloc {b r m k:Nat} {l:List Nat} {s:List UInt8} (H:HR M w0 w L b r m l s k) {o:Obj} {G:World→Nat→Prop} (h:∀w1 b',HR M w0 w1 (.ob b' o::L) b r m l s k→G w1 b'):∀w1 b',w1=w.alloc o→b'=w.heap.size→G w1 b':=
 Sx.alloc H fun w1 b' _ H=>h w1 b' (H.perm ((List.Perm.swap _ _ _).trans (.cons _ ((List.Perm.swap _ _ _).trans (.cons _ (.swap _ _ _))))))
theorem HR.tail {b r m k:Nat} {l:List Nat} {s:List UInt8} {x:En} (H:HR M w0 w (x::L) b r m l s k):HR M w0 w L b r m l s k:=
 Sx.sub H (.cons_cons _ (.cons_cons _ (.cons_cons _ (.cons _ (.refl _)))))
theorem HR.fr {b r m k:Nat} {l:List Nat} {s:List UInt8} (H:HR M w0 w L b r m l s k):Fr M w0 w:=Sx.fr H
theorem HR.rest {b r m k:Nat} {l:List Nat} {s:List UInt8} (H:HR M w0 w L b r m l s k):Sx M w0 w L:=Sx.tail (Sx.tail (Sx.tail H))
theorem T_huff_reader_code {R:Ending→World→Prop} {b r m k:Nat} {l:List Nat} {s:List UInt8} (H:HR M w0 w L b r m l s k) (hs:s.length≤140737488355328) (hk:k≤8*s.length)
 (h1:∀c n,codeR l 15 0 0 ((bitsS s).drop k)=some (c,n)→∀w',HR M w0 w' L b r m l s (k+n)→R (.returned (.tuple #[.int .i64 (c:Int),.int .i64 0])) w')
 (h2:codeR l 15 0 0 ((bitsS s).drop k)=none→∀w' (er:Int) (k':Nat),er≠0→HR M w0 w' L b r m l s k'→R (.returned (.tuple #[.int .i64 0,.int .i64 er])) w'):
 Calls prog n_huff_reader_code #[.pointer (some (A0 r))] w R:=by
 refine S_huff_reader_code ?_
 unfold F_huff_reader_code
 refine H.alloc fun w1 b4 H=>?_
 simp only [A0_add]
 refine Sx.sto H 3 rfl (by simp) fun w2 _ H=>Sx.sto H 3 rfl (by simp) fun w3 _ H=>?_
 refine⟨fun m1 w4=>∃n bi:Nat,m1+n=15∧k+n≤8*s.length∧bi<2^n∧HR M w0 w4 (.ob b4 (.cells #[.int .i64 (bi:Int),.int .i64 (n:Int)] t_api_Code (0,0))::L) b r m l s (k+n)∧codeR l 15 0 0 ((bitsS s).drop k)=codeR l (15-n) bi n ((bitsS s).drop (k+n)),
  ⟨15,0,0,rfl,hk,by decide,H,rfl⟩,?_⟩
 rintro m1 w4 ⟨n,bi,hm1,hkn,hbi,H,he⟩
 refine⟨_,Sx.cell H 3 rfl rfl,bif_i (fun c1=>?_) fun c1=>?_⟩
 · have hn:n<15:=by have:=of_decide_eq_true c1;omega
   obtain⟨f,hf⟩:∃f,15-n=f+1:=⟨14-n,by omega⟩
   rw [hf]at he
   refine OSome.i ⟨_,Sx.cell H 1 rfl rfl,?_⟩
   refine T_bits_Reader_Get (n:=1) H hs hkn (by decide) (fun hle w5 H=>?_) fun hgt w5 H=>?_
   · have hd:k+n<(bitsS s).length:=by rw [bitsS_len];omega
     have hdc:(bitsS s).drop (k+n)=(bitsS s)[k+n]::(bitsS s).drop (k+n+1):=(List.getElem_cons_drop hd).symm
     rw [hdc,codeR]at he
     have hnb:nb (((bitsS s).drop (k+n)).take 1)=((bitsS s)[k+n]).toNat:=by
      rw [hdc];exact Nat.add_zero _
     rw [hnb]
     generalize (bitsS s)[k+n]=x at*
     have hbi15:bi<16384:=by
      have h2:2^n≤2^14:=Nat.pow_le_pow_right (by decide) (by omega)
      have h3:(2:Nat)^14=16384:=by decide
      omega
     have hx:x.toNat≤1:=by cases x<;>decide
     refine⟨_,_,rfl,bif_f rfl ⟨_,Sx.cell H 3 rfl rfl,by decide,_,Sx.cell H 3 rfl rfl,?_⟩⟩
     have e1:shlI .i64 (bi:Int) 1=((bi*2^1:Nat):Int):=shlI_i64 bi 1 (by decide) (by omega)
     rw [W64_nat (by omega),e1,orI_i64 _ _ (by omega) (by omega),or_bit,W64_succ (by omega)]
     refine Sx.sto H 3 rfl (by simp) fun w6 _ H=>Sx.sto H 3 rfl (by simp) fun w7 _ H=>Sx.drew H fun w8 _ H=>OSome.i ⟨_,by rw [A0_add];exact Sx.cell H 1 rfl rfl,_,_,⟨by rw [A0_add];exact Sx.cell H 3 rfl rfl,by rw [A0_add];exact Sx.cell H 3 rfl rfl,trivial⟩,?_⟩
     have hlk:=look_up (w:=w8) key2_Code u_M_api_Code_int (zero_int w8) (Sx.get H 2 rfl).2 (pI (2*bi+x.toNat,n+1))
     rw [show lk (cmap l) _=_ from lk_to l _ l.length]at hlk
     refine⟨_,_,hlk,trivial,?_⟩
     cases hc:clsOf l (2*bi+x.toNat,n+1)with
     |some c=>
      rw [show clsTo l (2*bi+x.toNat,n+1) l.length=some c from hc]
      rw [hc]at he
      exact bif_t rfl (h1 c (n+1) he w8 (HR.tail H))
     |none=>
      rw [show clsTo l (2*bi+x.toNat,n+1) l.length=none from hc]
      rw [hc]at he
      refine bif_f rfl ⟨m1-1,by omega,n+1,2*bi+x.toNat,by omega,by omega,?_,H,?_⟩
      · rw [Nat.pow_succ];omega
      · rw [he,show 15-(n+1)=f by omega];rfl
   · refine⟨_,_,rfl,bif_t rfl (h2 ?_ w5 _ _ (by decide) (HR.tail H))⟩
     rw [he,List.drop_of_length_le (by rw [bitsS_len];omega)];rfl
 · have hn:n=15:=by have:=of_decide_eq_false c1;omega
   refine h2 ?_ w4 _ _ (by decide) H.tail
   rw [he,hn];rfl
theorem T_huff_reader_only {R:Ending→World→Prop} {b r m k:Nat} {l:List Nat} {s:List UInt8} (H:HR M w0 w L b r m l s k) (hs:s.length≤140737488355328) (hk:k≤8*s.length)
 (h1:∀c n,onlyR l ((bitsS s).drop k)=some (c,n)→∀w',HR M w0 w' L b r m l s (k+n)→R (.returned (.tuple #[.int .i64 (c:Int),.int .i64 0])) w')
 (h2:onlyR l ((bitsS s).drop k)=none→∀w' (er:Int) (k':Nat),er≠0→HR M w0 w' L b r m l s k'→R (.returned (.tuple #[.int .i64 0,.int .i64 er])) w'):
 Calls prog n_huff_reader_only #[.pointer (some (A0 r))] w R:=by
 refine S_huff_reader_only ?_
 unfold F_huff_reader_only
 refine OSome.i ⟨_,Sx.cell H 1 rfl rfl,?_⟩
 refine T_bits_Reader_Get (n:=1) H hs hk (by decide) (fun hle w5 H=>?_) fun hgt w5 H=>?_
 · have hd:k<(bitsS s).length:=by rw [bitsS_len];omega
   have hdc:(bitsS s).drop k=(bitsS s)[k]::(bitsS s).drop (k+1):=(List.getElem_cons_drop hd).symm
   have hnb:nb (((bitsS s).drop k).take 1)=((bitsS s)[k]).toNat:=by
    rw [hdc];exact Nat.add_zero _
   rw [hnb]
   rw [hdc]at h1 h2
   simp only [onlyR]at h1 h2
   generalize (bitsS s)[k]=x at*
   have hx:x.toNat≤1:=by cases x<;>decide
   refine⟨_,_,rfl,bif_f rfl (OSome.i ⟨_,by rw [A0_add];exact Sx.cell H 1 rfl rfl,?_⟩)⟩
   have hlk:=look_up (w:=w5) key2_Code u_M_api_Code_int (zero_int w5) (Sx.get H 2 rfl).2 (pI (x.toNat,1))
   rw [show lk (cmap l) _=_ from lk_to l _ l.length]at hlk
   rw [W64_nat (by omega)]
   refine⟨_,_,hlk,?_⟩
   cases hc:clsOf l (x.toNat,1)with
   |some c=>
    rw [show clsTo l (x.toNat,1) l.length=some c from hc]
    exact bif_f rfl (h1 c 1 (by rw [hc];rfl) w5 H)
   |none=>
    rw [show clsTo l (x.toNat,1) l.length=none from hc]
    exact bif_t rfl (h2 (by rw [hc];rfl) w5 _ _ (by decide) H)
 · refine⟨_,_,rfl,bif_t rfl (h2 ?_ w5 _ _ (by decide) H)⟩
   rw [List.drop_of_length_le (by rw [bitsS_len];omega)];rfl
end Go.Proofs.Tryz
namespace Go.Proofs.Tryz
open Go Go.RowKit Go.Proofs.VC
variable {M:List Nat} {w0 w:World} {L:List En}
def HowOk (g:Nat) (l:List Nat) (s:List UInt8) (rd:List Bool→Option (Nat×Nat)):Prop:=
 ∀ {M:List Nat} {w0 w:World} {L:List En} {R:Ending→World→Prop} {b r m k:Nat} (H:HR M w0 w L b r m l s k) (hk:k≤8*s.length)
   (h1:∀c n,rd ((bitsS s).drop k)=some (c,n)→∀w',HR M w0 w' L b r m l s (k+n)→R (.returned (.tuple #[.int .i64 (c:Int),.int .i64 0])) w')
   (h2:rd ((bitsS s).drop k)=none→∀w' (er:Int) (k':Nat),er≠0→HR M w0 w' L b r m l s k'→R (.returned (.tuple #[.int .i64 0,.int .i64 er])) w'),Calls prog g #[.pointer (some (A0 r))] w R
def RdOk (rd:List Bool→Option (Nat×Nat)):Prop:=∀B c n,rd B=some (c,n)→c<65∧n≤B.length
def partR (rd:List Bool→Option (Nat×Nat)) (B:List Bool):Option (Pt×Nat):=match rd B with
 |none=>none
 |some (c,n)=>if B.length<n+(c-1)then none else some ((c,nb ((B.drop n).take (c-1))),n+(c-1))
def partsR (rd:List Bool→Option (Nat×Nat)):Nat→List Bool→Option (List Pt×List Bool)
 |0,B=>some ([],B)
 |n+1,B=>match partR rd B with
  |none=>none
  |some (p,k)=>(partsR rd n (B.drop k)).map fun x=>(p::x.1,x.2)
def howR (l:List Nat):List Bool→Option (Nat×Nat):=if (cmap l).length<2 then onlyR l else codeR l 15 0 0
def huffR (l:List Nat) (n:Nat) (s:List UInt8):Option (List Pt):=match partsR (howR l) n (bitsS s)with
 |none=>none
 |some (ps,R)=>if decide (R.length<8)&&R.all (!·)then some ps else none
theorem T_huff_reader_read {R:Ending→World→Prop} {b r m k g:Nat} {l:List Nat} {s:List UInt8} {rd:List Bool→Option (Nat×Nat)} (hg:fok g=true) (how:HowOk g l s rd) (hrd:RdOk rd) (H:HR M w0 w L b r m l s k) (hs:s.length≤140737488355328) (hk:k≤8*s.length)
 (h1:∀p n,partR rd ((bitsS s).drop k)=some (p,n)→k+n≤8*s.length→∀w',HR M w0 w' L b r m l s (k+n)→R (.returned (.tuple #[.agg #[.int .i64 (p.1:Int),.int .u64 (p.2:Int)],.int .i64 0])) w')
 (h2:partR rd ((bitsS s).drop k)=none→∀w' (er:Int),er≠0→Fr M w0 w'→R (.returned (.tuple #[.agg #[.int .i64 0,.int .u64 0],.int .i64 er])) w'):
 Calls prog n_huff_reader_read #[.pointer (some (A0 r)),.func (.func g) #[.pointer (some (A0 r))] #[]] w R:=by
 refine S_huff_reader_read ?_
 unfold F_huff_reader_read
 refine H.alloc fun w1 b4 H=>?_
 rw [hg]
 simp only [A0_add]
 have hdl:((bitsS s).drop k).length=8*s.length-k:=by rw [List.length_drop,bitsS_len]
 refine how H hk (fun c n hc w2 H=>?_) fun hn w2 er k' her H=>?_
 · obtain⟨hc65,hnl⟩:=hrd _ _ _ hc
   rw [hdl]at hnl
   refine⟨_,_,rfl,Sx.sto H 3 rfl (by simp) fun w3 _ H=>bif_f rfl (Sx.drew H fun w6 _ H=>OSome.i ⟨_,Sx.cell H 1 rfl rfl,_,Sx.cell H 3 rfl rfl,?_⟩)⟩
   have em:(if (W64 ((c:Int)-(1:Int)))>(0:Int)then(W64 ((c:Int)-(1:Int)))else(0:Int))=((c-1:Nat):Int):=by
    rw [W64_id _ (by omega) (by omega)];split<;>omega
   rw [em]
   refine T_bits_Reader_Get H hs (by omega) (by omega) (fun hle w7 H=>?_) fun hgt w7 H=>?_
   · have hrr:partR rd ((bitsS s).drop k)=some ((c,nb (((bitsS s).drop (k+n)).take (c-1))),n+(c-1)):=by
      rw [partR,hc]
      simp only
      rw [if_neg (by omega),List.drop_drop]
     refine⟨_,_,rfl,⟨⟨fun _=>Sx.cell H 3 rfl rfl,trivial⟩,Sx.sto H 3 rfl (by simp) fun w8 _ H=>⟨trivial,bif_f rfl ⟨_,_,⟨by rw [A0_add];exact Sx.cell H 3 rfl rfl,by rw [A0_add];exact Sx.cell H 3 rfl rfl,trivial⟩,?_⟩⟩⟩⟩
     refine Sx.sto H 3 rfl (by simp) fun w11 _ H=>Sx.sto H 3 rfl (by simp) fun w12 _ H=>⟨_,_,⟨by rw [A0_add];exact Sx.cell H 3 rfl rfl,by rw [A0_add];exact Sx.cell H 3 rfl rfl,trivial⟩,?_⟩
     have H':HR M w0 w12 (.ob b4 _::L) b r m l s (k+n+(c-1)):=H
     rw [Nat.add_assoc]at H'
     exact h1 _ _ hrr (by omega) w12 H'.tail
   · have hrr:partR rd ((bitsS s).drop k)=none:=by
      rw [partR,hc]
      simp only
      rw [if_pos (by omega)]
     refine⟨_,_,rfl,⟨⟨fun _=>Sx.cell H 3 rfl rfl,trivial⟩,Sx.sto H 3 rfl (by simp) fun w8 _ H=>⟨trivial,bif_t rfl (Sx.sto H 3 rfl (by simp) fun w9 _ H=>Sx.sto H 3 rfl (by simp) fun w10 _ H=>⟨_,_,⟨by rw [A0_add];exact Sx.cell H 3 rfl rfl,by rw [A0_add];exact Sx.cell H 3 rfl rfl,trivial⟩,?_⟩)⟩⟩⟩
     exact h2 hrr w10 _ (by decide) (Sx.fr H)
 · have hrr:partR rd ((bitsS s).drop k)=none:=by rw [partR,hn]
   refine⟨_,_,rfl,Sx.sto H 3 rfl (by simp) fun w3 _ H=>bif_t (by simpa using her) (Sx.sto H 3 rfl (by simp) fun w4 _ H=>Sx.sto H 3 rfl (by simp) fun w5 _ H=>⟨_,_,⟨by rw [A0_add];exact Sx.cell H 3 rfl rfl,by rw [A0_add];exact Sx.cell H 3 rfl rfl,trivial⟩,?_⟩)⟩
   exact h2 hrr w5 _ her (Sx.fr H)
theorem rdOk_code {l:List Nat} (h:l.length=65):RdOk (codeR l 15 0 0):=fun B c n hc=>by
 obtain⟨h1,h2,h3,h4⟩:=codeR_some hc
 exact⟨by omega,by omega⟩
theorem rdOk_only {l:List Nat} (h:l.length=65):RdOk (onlyR l):=fun B c n hc=>by
 obtain⟨h1,h2,h3⟩:=onlyR_some hc
 exact⟨by omega,by omega⟩
theorem rdOk_how {l:List Nat} (h:l.length=65):RdOk (howR l):=by
 unfold howR;split
 · exact rdOk_only h
 · exact rdOk_code h
theorem okPt_read {rd:List Bool→Option (Nat×Nat)} (h:RdOk rd) {B:List Bool} {p:Pt} {n:Nat} (hp:partR rd B=some (p,n)):OkPt p∧n≤B.length:=by
 unfold partR at hp
 cases hc:rd B with
 |none=>rw [hc]at hp;cases hp
 |some x=>
  obtain⟨c,k⟩:=x
  rw [hc]at hp
  simp only at hp
  obtain⟨h1,h2⟩:=h _ _ _ hc
  split at hp
  · cases hp
  · rename_i h3
    cases hp
    have hl:((B.drop k).take (c-1)).length=c-1:=by rw [List.length_take,List.length_drop];omega
    have:=nb_lt ((B.drop k).take (c-1))
    rw [hl]at this
    refine⟨?_,by omega⟩
    by_cases h0:c=0
    · subst h0
      exact .inl ⟨rfl,by simp at this ⊢;omega⟩
    · exact .inr ⟨by show 1≤c;omega,by show c≤64;omega,this⟩
theorem cmap_new {l:List Nat} (h:mayL l=true) {i:Nat} (hi:l.getD i 0≠0):lk (cmapTo l i) (pI (codeAt l i))=none:=by
 rw [lk_to]
 cases hc:clsTo l (codeAt l i) i with
 |none=>rfl
 |some c=>
  obtain⟨h1,h2,h3⟩:=clsTo_some hc
  have:=codeAt_inj h h2 hi h3
  omega
theorem T_huff_Get (s:List UInt8) (N:Nat) (al:Option Addr) (nl cl:Nat) (l:List Nat) (w:World) (hs:s.length≤140737488355328) (hN:N≤4096) (hsl:SlI w al nl (nats l)) (hm:mayL l=true):
 Calls prog n_huff_Get #[.string (S s),.int .i64 (N:Int),.slice al nl cl] w fun e w'=>
  (huffR l N s=none∧∃er:Int,er≠0∧e= .returned (.tuple #[.slice none 0 0,.int .i64 er])∧Fr [] w w')∨
  (∃ps a n c,huffR l N s=some ps∧e= .returned (.tuple #[.slice a n c,.int .i64 0])∧n=ps.length∧(∀p∈ps,OkPt p)∧Sx [] w w' [.ow t_api_Part 2 a n c (pts ps)]):=by
 obtain⟨-,h65,h15⟩:=mayL_all hm
 refine S_huff_Get ?_
 unfold F_huff_Get
 refine(T_canon_Codes al nl cl l w hsl fun x hx=>by have:=h15 x hx;omega).mono ?_
 rintro e w1 (⟨h0,_⟩|⟨_,bc,rfl,H⟩)
 · rw [hm]at h0;cases h0
 refine⟨_,_,_,_,rfl,?_⟩
 intro J6 hJ6
 refine bif_f rfl (bif_f (by simp) (bif_f (by simp;omega) (hJ6 _ ?_)))
 refine T_bits_From s H fun w3 b H=>⟨_,rfl,?_⟩
 refine Sx.alloc H fun w4 b35 _ H=>Sx.alloc H fun w5 b37 _ H=>?_
 rw [←mapOb_nil]at H
 refine⟨fun m x w6=>∃i:Nat,x=(i:Int)∧m+i=65∧RS [] w w6 [.ob b37 (.cells #[.pointer (some (A0 b)),.map (some b35)] t_huff_reader (0,0)),.ob b35 (mapOb (cmapTo l i)),.ob bc (.cells (prs (codesI l)).toArray t_api_Code (0,0))] b s 0,
  ⟨65,0,rfl,rfl,H.perm ?_⟩,?_⟩
 · exact(List.Perm.cons _ (.swap _ _ _)).trans (.swap _ _ _)
 rintro m x w6 ⟨i,rfl,hmi,H⟩
 refine bif_i (fun h=>?_) (fun h=>?_)
 · have hi:i<65:=by have:(i:Int)<((65:Nat):Int):=of_decide_eq_true h;omega
   obtain⟨hg1,hg2⟩:=prs_get (codesI_get (l:=l) (c:=i) (by omega))
   have hg1':(prs (codesI l)).toArray[i*2]? =some (.int .i64 ((codeAt l i).1:Int)):=by rw [List.getElem?_toArray];exact hg1
   have hg2':(prs (codesI l)).toArray[i*2+1]? =some (.int .i64 ((codeAt l i).2:Int)):=by rw [List.getElem?_toArray];exact hg2
   refine⟨by omega,of_decide_eq_true h,OSome.i ⟨_,_,⟨by simp only [A0_add,Int.toNat_natCast,add_zero'];exact Sx.cell H 3 rfl hg1',by simp only [A0_add,Int.toNat_natCast];exact Sx.cell H 3 rfl hg2',trivial⟩,?_⟩⟩
   refine Sx.alloc H fun w7 b12 _ H=>?_
   simp only [A0_add]
   refine H.sto 0 rfl (by simp) fun w8 _ H=>H.sto 0 rfl (by simp) fun w9 _ H=>⟨_,H.cell 0 rfl rfl,bif_i (fun h2=>?_) fun h2=>?_⟩
   · have h2':l.getD i 0≠0:=by have:=of_decide_eq_true h2;rw [codeAt_len]at this;omega
     refine H.drew fun w10 _ H=>OSome.i ⟨_,by rw [A0_add];exact H.cell 2 rfl rfl,_,_,⟨by rw [A0_add];exact H.cell 0 rfl rfl,by rw [A0_add];exact H.cell 0 rfl rfl,trivial⟩,?_⟩
     have hput:=map_put (w:=w10) key2_Code u_M_api_Code_int (H.get 3 rfl).2 (pI (codeAt l i)) (i:Int) (cmap_new hm h2')
     have H:=H.setOb 3 (o':=mapOb (cmapTo l i++ [(pI (codeAt l i),(i:Int))])) rfl
     refine⟨_,hput,trivial,m-1,by omega,i+1,W64_succ (by omega),by omega,?_⟩
     have e:cmapTo l (i+1)=cmapTo l i++ [(pI (codeAt l i),(i:Int))]:=by rw [cmapTo,if_neg h2']
     rw [e]
     exact H.tail
   · have h2':l.getD i 0=0:=by have:=of_decide_eq_false h2;rw [codeAt_len]at this;omega
     refine⟨m-1,by omega,i+1,W64_succ (by omega),by omega,?_⟩
     have e:cmapTo l (i+1)=cmapTo l i:=by rw [cmapTo,if_pos h2',List.append_nil]
     rw [e]
     exact H.tail
 · have hi:i=65:=by have:¬(i:Int)<((65:Nat):Int):=of_decide_eq_false h;omega
   subst hi
   have e0:cmapTo l 65=cmap l:=by rw [cmap,h65]
   rw [e0]at H
   intro J16 hJ16
   have main:∀(g:Nat),fok g=true→HowOk g l s (howR l)→J16 (.func (.func g) #[.pointer (some (A0 b37))] #[]) w6:=by
    intro g hg how
    refine hJ16 _ _ ?_
    refine⟨fun m a n c x w13=>∃(ps:List Pt) (k:Nat),n=ps.length∧x=(ps.length:Int)∧m+ps.length=N∧k≤8*s.length∧(∀p∈ps,OkPt p)∧
     partsR (howR l) N (bitsS s)=(partsR (howR l) (N-ps.length) ((bitsS s).drop k)).map (fun x=>(ps++x.1,x.2))∧
     HR [] w w13 [.ow t_api_Part 2 a n c (pts ps),.ob bc (.cells (prs (codesI l)).toArray t_api_Code (0,0))] b b37 b35 l s k,⟨N,[],0,rfl,rfl,rfl,by omega,by simp,by simp,?_⟩,?_⟩
    · refine(Sx.nilw H t_api_Part 2).perm ?_
      exact(List.Perm.swap _ _ _).trans (.cons _ ((List.Perm.swap _ _ _).trans (.cons _ (.swap _ _ _))))
    rintro m a n c x w13 ⟨ps,k,rfl,rfl,hmN,hk,hok,hp,H⟩
    refine bif_i (fun h3=>?_) fun h3=>?_
    · have h3':ps.length<N:=by have:=of_decide_eq_true h3;omega
      obtain⟨q,hq⟩:∃q,N-ps.length=q+1:=⟨N-ps.length-1,by omega⟩
      rw [hq,partsR]at hp
      refine T_huff_reader_read hg how (rdOk_how h65) H hs hk (fun p n hpr hkn w14 H=>?_) fun hpr w14 er her hf=>?_
      · obtain⟨hokp,_⟩:=okPt_read (rdOk_how h65) hpr
        rw [hpr]at hp
        refine⟨_,_,_,rfl,H.alloc fun w15 b15 H=>?_⟩
        simp only [A0_add]
        refine Sx.sto H 3 rfl (by simp) fun w16 _ H=>Sx.sto H 3 rfl (by simp) fun w17 _ H=>bif_f rfl ⟨_,_,⟨by rw [A0_add];exact Sx.cell H 3 rfl rfl,by rw [A0_add];exact Sx.cell H 3 rfl rfl,trivial⟩,?_⟩
        refine Sx.alloc H fun w18 b79 _ H=>?_
        refine app_Part H (j:=4) (l:=ps) (v:=p) rfl (by omega) fun a' c' w19 H=>⟨m-1,by omega,ps++ [p],k+n,by simp,?_,by simp;omega,hkn,?_,?_,?_⟩
        · rw [W64_succ (by omega)];simp
        · intro x hx
          rcases List.mem_append.1 hx with hx|hx
          · exact hok x hx
          · simp at hx;subst hx;exact hokp
        · rw [hp,List.length_append,show N-(ps.length+ [p].length)=q by simp;omega]
          simp only [List.drop_drop]
          cases partsR (howR l) q ((bitsS s).drop (k+n))<;>simp
        · have H':HR [] w w19 (.ob b15 _:: [.ow t_api_Part 2 a' (ps.length+1) c' (pts (ps++ [p])),.ob bc (.cells (prs (codesI l)).toArray t_api_Code (0,0))]) b b37 b35 l s (k+n):=H
          exact H'.tail
      · rw [hpr]at hp
        have H:Sx [] w w14 []:=⟨hf,by simp,by simp⟩
        refine⟨_,_,_,rfl,H.alloc fun w15 b15 _ H=>?_⟩
        simp only [A0_add]
        refine H.sto 0 rfl (by simp) fun w16 _ H=>H.sto 0 rfl (by simp) fun w17 _ H=>bif_t (by simpa using her) (.inl ⟨?_,er,her,rfl,H.fr⟩)
        rw [huffR,hp];rfl
    · have h3':ps.length=N:=by have:=of_decide_eq_false h3;omega
      rw [h3',Nat.sub_self,partsR]at hp
      simp only [Option.map_some,List.append_nil]at hp
      have hrest:(decide (((bitsS s).drop k).length<8)&&((bitsS s).drop k).all (!·))=restB s k:=by
       have e1:decide (8*s.length-k<8)=decide (8*s.length<k+8):=decide_eq_decide.2 (by omega)
       rw [restB,List.length_drop,bitsS_len,e1]
      have hR:huffR l N s=if restB s k then some ps else none:=by rw [huffR,hp,←hrest]
      refine OSome.i ⟨_,Sx.cell H 1 rfl rfl,?_⟩
      refine T_bits_Reader_Rest H hs hk fun w20 H=>⟨_,rfl,bif_i (fun h4=> .inl ⟨?_,3,by decide,rfl,Sx.fr H⟩) fun h4=> .inr ⟨ps,a,_,c,?_,rfl,rfl,hok,?_⟩⟩
      · have:restB s k=false:=by simpa using h4
        rw [hR,this];rfl
      · have:restB s k=true:=by simpa using h4
        rw [hR,this];rfl
      · exact Sx.sub (HR.rest H) (.cons_cons _ (.cons _ .slnil))
   have hl2:=map_len (ty:=t_int) (w:=w6) u_M_api_Code_int (Sx.get H 2 rfl).2 (by have:=cmapTo_len l l.length;rw [cmap];omega)
   refine OSome.i ⟨_,by rw [A0_add];exact Sx.cell H 1 rfl rfl,_,hl2,bif_i (fun h2=>main _ (by decide) ?_) fun h2=>main _ (by decide) ?_⟩
   · have h2':(cmap l).length<2:=by have:=of_decide_eq_true h2;omega
     rw [howR,if_pos h2']
     intro M w0 w L R b r m k H hk h1 h2
     exact T_huff_reader_only H hs hk h1 h2
   · have h2':¬(cmap l).length<2:=by have:=of_decide_eq_false h2;omega
     rw [howR,if_neg h2']
     intro M w0 w L R b r m k H hk h1 h2
     exact T_huff_reader_code H hs hk h1 h2
end Go.Proofs.Tryz
namespace Go.Proofs.Tryz
open Go Go.RowKit Go.Proofs.VC
variable {M:List Nat} {w0 w:World} {L:List En}
def num1 (x:Nat):Int:=
 if x/1024%6=0 then((x%1024%3:Nat):Int)else if x/1024%6=1 then-((x%1024:Nat):Int)
 else if x/1024%6=2 then shlI .i64 ((x%1024:Nat):Int) ((x%53:Nat):Int)else if x/1024%6=3 then shlI .i64 (-((x%1024:Nat):Int)) ((x%54:Nat):Int)else((x%1024:Nat):Int)
def numbers (ns:List Nat):List Int:=(ns.take 60).map num1
theorem num1_I64 (x:Nat): -9223372036854775808≤num1 x∧num1 x<9223372036854775808:=by
 unfold num1
 split
 · omega
 · split
   · omega
   · split
     · exact wrapI64 _
     · split
       · exact wrapI64 _
       · omega
theorem numbers_len (ns:List Nat):(numbers ns).length=min 60 ns.length:=by simp [numbers]
theorem T_l11_Numbers (a:Option Addr) (n c:Nat) (ns:List Nat) (hns:∀x∈ns,x<65536) (w:World) (hn:n=ns.length) (hs:Sl w a (u16s ns)):Calls prog n_l11_Numbers #[.slice a n c] w
 fun e w'=>∃a' c',e= .returned (.slice a' (numbers ns).length c')∧Ow [] w w' [] t_int64 1 a' (numbers ns).length c' (i64s (numbers ns))∧Fr [] w w':=by
 subst hn
 refine S_l11_Numbers ?_
 unfold F_l11_Numbers
 refine⟨fun m a' n' c' x w1=>∃i:Nat,x=(i:Int)∧m+i=min 60 ns.length∧n'=i∧Sx [] w w1 [.ow t_int64 1 a' n' c' (i64s ((ns.take i).map num1))],⟨min 60 ns.length,0,rfl,rfl,rfl,(Sx.start [] w).nilw _ _⟩,?_⟩
 rintro m a' n' c' x w1 ⟨i,rfl,hm,rfl,H⟩
 intro J5 hJ
 have fin:min 60 ns.length≤n'→∃a'_1 c'_1,Ending.returned (.slice a' n' c')= .returned (.slice a'_1 (numbers ns).length c'_1)∧Ow [] w w1 [] t_int64 1 a'_1 (numbers ns).length c'_1 (i64s (numbers ns))∧Fr [] w w1:=by
  intro h
  have hi:n'=min 60 ns.length:=by omega
  have e1:(ns.take n').map num1=numbers ns:=by
   rw [numbers,hi]
   congr 1
   by_cases h60:60≤ns.length
   · rw [Nat.min_eq_left h60]
   · rw [Nat.min_eq_right (by omega),List.take_of_length_le (Nat.le_refl _),List.take_of_length_le (by omega)]
  have e2:(numbers ns).length=n':=by rw [numbers_len,hi]
  rw [e1]at H
  rw [e2]
  exact⟨a',c',rfl,H.out 0 rfl,H.fr⟩
 refine bif_i (fun h1=>bif_i (fun h2=>?_) fun h2=>fin ?_) fun h1=>fin ?_
 · have h1':=of_decide_eq_true h1
   have h2':=of_decide_eq_true h2
   have hi:n'<ns.length:=by omega
   have hv:=hns ns[n'] (List.getElem_mem hi)
   have e0:(ns.take (n'+1)).map num1=(ns.take n').map num1++ [num1 ns[n']]:=by rw [List.take_succ_eq_append_getElem hi,List.map_append];rfl
   obtain⟨p,hp,hc⟩:=hs n' _ (u16s_get (List.getElem?_eq_getElem hi))
   have hcell:w1.cell? (p.add (Int.toNat (n':Int)*1))=some (.int .u16 ((ns[n']:Nat):Int)):=by rw [Int.toNat_natCast,Nat.mul_one];exact H.fr.cell0 hc
   have f1:Int.tmod ((ns[n']:Nat):Int) 1024=((ns[n']%1024:Nat):Int):=tmod_nat ns[n'] 1024
   have f2:Int.tmod (U16 (Int.tdiv ((ns[n']:Nat):Int) 1024)) 6=((ns[n']/1024%6:Nat):Int):=by
    rw [Int.tdiv_eq_ediv_of_nonneg (by omega),show((ns[n']:Nat):Int)/1024=((ns[n']/1024:Nat):Int)from rfl,show U16 ((ns[n']/1024:Nat):Int)=_ from wrap_u16 _,
     show((ns[n']/1024:Nat):Int)%65536=((ns[n']/1024:Nat):Int) by omega]
    exact tmod_nat _ 6
   have go:∀(v:Int) (w2:World),w2=w1→v=num1 ns[n']→∀w3 b,w3=w2.alloc (.cells #[.int .i64 v] t_int64)→b=w2.heap.size→∃x xn xc,∃w':World,(Builtin.append_ #[t_S_int64,t_S_int64] t_S_int64 #[.slice a' n' c',.slice (some (A0 b)) 1 1]).run prog w3= .ok (.slice x xn xc) w'∧
    ∃m_3,m_3<m∧∃i:Nat,W64 ((n':Int)+1)=(i:Int)∧m_3+i=min 60 ns.length∧xn=i∧Sx [] w w' [.ow t_int64 1 x xn xc (i64s ((ns.take i).map num1))]:=by
    rintro v w2 rfl rfl
    refine H.alloc fun w3 b _ H=>?_
    refine app_int64 H (j:=0) rfl (by omega) fun a2 c2 w4 H=>⟨m-1,by omega,n'+1,W64_succ (by omega),by omega,rfl,?_⟩
    rw [e0];exact H
   refine hJ w1 ⟨by omega,by omega,⟨p,hp,_,hcell,by decide,by omega,by omega,⟨p,hp,_,hcell,by decide,by decide,?_⟩⟩⟩
   rw [f1,f2,W64_nat (show ns[n']%1024<9223372036854775808 by omega)]
   refine bif_i (fun h3=>⟨by decide,go _ w1 rfl ?_⟩) fun h3=>bif_i (fun h4=>go _ w1 rfl ?_) fun h4=>bif_i (fun h5=>?_) fun h5=>bif_i (fun h6=>?_) fun h6=>go _ w1 rfl ?_
   · have h3':ns[n']/1024%6=0:=by have:=eq_of_beq h3;omega
     rw [num1,if_pos h3'];exact tmod_nat _ 3
   · have h3':ns[n']/1024%6≠0:=by have:=ne_of_beq_false h3;omega
     have h4':ns[n']/1024%6=1:=by have:=eq_of_beq h4;omega
     rw [num1,if_neg h3',if_pos h4',W64_id _ (by omega) (by omega)];omega
   · have h3':ns[n']/1024%6≠0:=by have:=ne_of_beq_false h3;omega
     have h4':ns[n']/1024%6≠1:=by have:=ne_of_beq_false h4;omega
     have h5':ns[n']/1024%6=2:=by have:=eq_of_beq h5;omega
     refine⟨by omega,by omega,⟨p,hp,_,hcell,by decide,?_⟩⟩
     rw [show Int.tmod ((ns[n']:Nat):Int) 53=((ns[n']%53:Nat):Int)from tmod_nat _ 53]
     exact⟨by omega,go _ w1 rfl (by rw [num1,if_neg h3',if_neg h4',if_pos h5'])⟩
   · have h3':ns[n']/1024%6≠0:=by have:=ne_of_beq_false h3;omega
     have h4':ns[n']/1024%6≠1:=by have:=ne_of_beq_false h4;omega
     have h5':ns[n']/1024%6≠2:=by have:=ne_of_beq_false h5;omega
     have h6':ns[n']/1024%6=3:=by have:=eq_of_beq h6;omega
     refine⟨by omega,by omega,⟨p,hp,_,hcell,by decide,?_⟩⟩
     rw [show Int.tmod ((ns[n']:Nat):Int) 54=((ns[n']%54:Nat):Int)from tmod_nat _ 54]
     refine⟨by omega,go _ w1 rfl ?_⟩
     rw [num1,if_neg h3',if_neg h4',if_neg h5',if_pos h6',W64_id _ (by omega) (by omega),Int.zero_sub]
   · have h3':ns[n']/1024%6≠0:=by have:=ne_of_beq_false h3;omega
     have h4':ns[n']/1024%6≠1:=by have:=ne_of_beq_false h4;omega
     have h5':ns[n']/1024%6≠2:=by have:=ne_of_beq_false h5;omega
     have h6':ns[n']/1024%6≠3:=by have:=ne_of_beq_false h6;omega
     rw [num1,if_neg h3',if_neg h4',if_neg h5',if_neg h6']
 · have:=of_decide_eq_false h2;omega
 · have:=of_decide_eq_false h1;omega
end Go.Proofs.Tryz
namespace Go.Proofs.Tryz
open Go Go.RowKit Go.Proofs.VC
variable {M:List Nat} {w0 w:World} {L:List En}
def codesLens (ps:List Pt) (lim:Nat):List Nat:=lengthsN (histN ps) lim
def loadCodes (l:List Int) (lim:Nat):List UInt8:=putLens (codesLens (l.map splitN) lim)++packB (huffB (codesLens (l.map splitN) lim) (l.map splitN))
theorem histN_get {ps:List Pt} {c:Nat} (hc:c<65):(histN ps).getD c 0=ps.countP fun p=>p.1==c:=by
 rw [histN,List.getD_eq_getElem?_getD,List.getElem?_map,List.getElem?_range hc];rfl
theorem hist_sum (ps:List Pt):(histN ps).sum≤ps.length:=by
 induction ps with
 |nil=>decide
 |cons p ps ih=>
  have e:(histN (p::ps)).sum=(histN ps).sum+((List.range 65).map fun c=>if p.1=c then 1 else 0).sum:=by
   rw [histN,histN,←sum_map_add]
   congr 1
   apply List.map_congr_left
   intro c _
   rw [List.countP_cons]
   simp
  have h1:∀n,((List.range n).map fun c=>if p.1=c then 1 else 0).sum≤1:=by
   intro n
   by_cases h:p.1<n
   · have:=sum_one n p.1 (fun _=>1) h
     have e2:((List.range n).map fun c=>if p.1=c then 1 else 0)=((List.range n).map fun e=>if e=p.1 then 1 else 0):=List.map_congr_left fun c _=>by
      by_cases e:p.1=c
      · rw [if_pos e,if_pos e.symm]
      · rw [if_neg e,if_neg (fun h=>e h.symm)]
     rw [e2,this];exact Nat.le_refl _
   · rw [sum_zero]
     · exact Nat.zero_le _
     · intro c hc
       have:=List.mem_range.1 hc
       rw [if_neg (by omega)]
  rw [e]
  have:=h1 65
  simp only [List.length_cons];omega
theorem hist_pos {ps:List Pt} {p:Pt} (hp:p∈ps) (hok:OkPt p):0<(histN ps).getD p.1 0:=by
 have:=(okPt_lt hok).1
 rw [histN_get (by omega),List.countP_pos_iff]
 exact⟨p,hp,by simp⟩
theorem codes_ok {ps:List Pt} {lim:Nat} (hok:∀p∈ps,OkPt p) (hne:ps≠ []) (hl:7≤lim∧lim≤15):mayL (codesLens ps lim)=true∧∀p∈ps,(codesLens ps lim).getD p.1 0≠0:=by
 obtain⟨p0,hp0⟩:=List.exists_mem_of_ne_nil ps hne
 have hc0:=hist_pos hp0 (hok p0 hp0)
 have hlt:=(okPt_lt (hok p0 hp0)).1
 obtain⟨h1,h2⟩:=lengths_ok (freq:=histN ps) (histN_len ps) hl (by
  intro e
  have:=ordN_of (freq:=histN ps) (by rw [histN_len];omega) hc0
  rw [List.length_eq_zero_iff.1 e]at this
  cases this)
 exact⟨h1,fun p hp=>h2 p.1 (by have:=(okPt_lt (hok p hp)).1;omega) (hist_pos hp (hok p hp))⟩
theorem putLens_len (l:List Nat) (h:mayL l=true):(putLens l).length≤65:=by
 rw [putLens,h]
 have:=lensBf_len l.length l
 have h65:=(mayL_all h).2.1
 simp only [if_true,packB_len]
 rw [lensB];omega
theorem T_block_loader_codes (a c d e:Int) (lim:Nat) (p:Option Addr) (n k:Nat) (l:List Int) (hI:∀v∈l,I64 v) (w:World) (hs:SlI w p n l) (h1:1≤l.length) (h2:l.length≤4096) (hl:7≤lim∧lim≤15):
 Calls prog n_block_loader_codes #[.agg #[.int .i64 a,.int .i64 (lim:Int),.int .i64 c,.int .i64 d,.int .u64 e,.slice p n k]] w fun x w'=>x= .returned (strE (loadCodes l lim) 0)∧Fr [] w w':=by
 have hok:∀q∈l.map splitN,OkPt q:=by
  intro q hq
  obtain⟨v,hv,rfl⟩:=List.mem_map.1 hq
  exact splitN_ok (hI v hv)
 have hpl:(l.map splitN).length=l.length:=List.length_map _
 have hne:l.map splitN≠ []:=by intro h;rw [h]at hpl;simp at hpl;omega
 obtain⟨hm,hcls⟩:=codes_ok hok hne hl
 refine S_block_loader_codes ?_
 unfold F_block_loader_codes
 refine(Sx.start [] w).alloc fun w1 b1 hf1 H=>?_
 simp only [A0_add]
 refine⟨_,_,_,H.cell 0 rfl rfl,?_⟩
 refine(T_hist_Parts p n k l hI w1 (hs.fr0 hf1) (by omega)).mono ?_
 rintro x w2 ⟨a2,c2,rfl,hOw,hf2⟩
 have H:=hOw.push H hf2
 refine⟨_,_,_,rfl,H.drew fun w3 _ H=>⟨_,H.cell 1 rfl rfl,?_⟩⟩
 refine(T_hist_Of a2 l.length c2 (l.map splitN) (fun q hq=>by have:=(okPt_lt (hok q hq)).1;omega) w3 hpl.symm (H.slw 0 rfl) (by omega)).mono ?_
 rintro x w4 ⟨b13,rfl,Hc⟩
 have hf4:=Hc.fr
 have H:=H.join Hc
 have hcount:∀y∈histN (l.map splitN),y≤16777216:=by
  intro y hy
  simp only [histN,List.mem_map]at hy
  obtain⟨c,_,rfl⟩:=hy
  have:=List.countP_le_length (p:=fun q:Pt=>q.1==c) (l:=l.map splitN)
  omega
 refine⟨_,_,_,rfl,⟨hf4.cell0,trivial⟩,?_⟩
 refine(T_merge_Lengths (some (A0 b13)) 65 65 (histN (l.map splitN)) lim w4 ⟨by rw [nats_len,histN_len],H.sl 0 rfl⟩ (histN_len _) hcount (by have:=hist_sum (l.map splitN);omega) hl).mono ?_
 rintro x w5 ⟨b17,rfl,Hc⟩
 have H:=H.join Hc
 refine⟨_,_,_,_,rfl,trivial,bif_f rfl ?_⟩
 have hml:(lengthsN (histN (l.map splitN)) lim).length=65:=(mayL_all hm).2.1
 have hm15:=(mayL_all hm).2.2
 refine(T_huff_Put a2 l.length c2 (l.map splitN) (some (A0 b17)) 65 65 (lengthsN (histN (l.map splitN)) lim) w5 hpl.symm (H.slw 2 rfl) (by omega) ⟨by rw [nats_len,hml],H.sl 0 rfl⟩ hm fun q hq=>⟨hok q hq,hcls q hq⟩).mono ?_
 rintro x w6 ⟨rfl,hf6⟩
 have H:=H.call0 hf6
 refine⟨_,_,rfl,?_⟩
 refine(T_lens_Put (some (A0 b17)) 65 65 (lengthsN (histN (l.map splitN)) lim) w6 ⟨by rw [nats_len,hml],H.sl 0 rfl⟩ (Nat.le_refl _) fun y hy=>by have:=hm15 y hy;omega).mono ?_
 rintro x w7 ⟨rfl,hf7⟩
 have H:=H.call0 hf7
 have hp1:=putLens_len _ hm
 have hp2:=huffB_len hm hok
 have e1:lengthsN (histN (l.map splitN)) lim=codesLens (l.map splitN) lim:=rfl
 refine⟨_,rfl,?_,?_,H.fr⟩
 · rw [S_size,S_size,packB_len,e1]
   simp only [strMax]
   omega
 · rw [S_append,e1];rfl
def unCodes (n:Nat) (s:List UInt8):Option (List Int):=match getLens s with
 | .error _=>none
 | .ok (l,u)=>match huffR l n (s.drop u)with
   |none=>none
   |some ps=>valuesP ps
theorem getLens_may {t:List UInt8} {l:List Nat} {u:Nat} (h:getLens t= .ok (l,u)):mayL l=true∧u≤t.length∧putLens l=t.take u:=by
 unfold getLens at h
 split at h
 · cases h
 · rename_i acc hh hR
   split at h
   · cases h
   split at h
   · cases h
   split at h
   · cases h
   rename_i h1 h2 h3
   have e:putLens acc=t.take ((hh+1)/2):=by simpa using h3
   have e2:mayL acc=true:=by simpa using h2
   cases h
   refine⟨e2,?_,e⟩
   have key:∀(f:Nat) (acc:List Nat) (B:List Bool) (h:Nat) (r:List Nat) (k:Nat),lensR f acc B h=some (r,k)→4*(k-h)≤B.length∧h≤k:=by
    intro f
    induction f with
    |zero=>intro acc B h r k e;rw [lensR]at e;split at e<;>cases e;simp
    |succ f ih=>
     intro acc B h r k e
     rw [lensR]at e
     split at e
     · cases e;simp
     split at e
     · cases e
     split at e
     · split at e
       · cases e
       · obtain⟨a1,a2⟩:=ih _ _ _ _ _ e
         rw [List.length_drop,List.length_drop]at a1
         rename_i b1 b2 b3 b4
         rw [List.length_drop]at b4
         omega
     · obtain⟨a1,a2⟩:=ih _ _ _ _ _ e
       rw [List.length_drop]at a1
       omega
   have:=key _ _ _ _ _ _ hR
   rw [bitsS_len]at this
   omega
theorem T_block_unloader_codes (s:List UInt8) (N:Nat) (w:World) (hs:s.length≤140737488355328) (hN:N≤4096):Calls prog n_block_unloader_codes #[.agg #[.string (S s),.int .i64 (N:Int)]] w
 fun e w'=>∃v,e= .returned v∧SlOk w' v (unCodes N s)∧Fr [] w w':=by
 have eg:getLensAt s 0=getLens s:=by rw [getLensAt,if_neg (by omega),if_neg (by omega)];rfl
 refine S_block_unloader_codes ?_
 unfold F_block_unloader_codes
 refine(Sx.start [] w).alloc fun w1 b1 hf1 H=>⟨_,H.cell 0 rfl rfl,?_⟩
 refine(T_lens_Get s 0 w1 hs).mono ?_
 rintro e w2 (⟨er,hg,rfl,hf2⟩|⟨l,u,al,nl,cl,hg,rfl,rfl,Hc⟩)
 · have hne:er≠0:=by
    rintro rfl
    rw [eg]at hg
    unfold getLens at hg
    split at hg
    · cases hg
    · split at hg
      · cases hg
      · split at hg
        · cases hg
        · split at hg<;>cases hg
   refine⟨_,_,_,_,_,rfl,bif_t (by simpa using hne) ⟨_,rfl,?_,hf1.trans hf2⟩⟩
   rw [unCodes,←eg,hg]
   exact⟨_,_,_,rfl⟩
 · rw [eg]at hg
   obtain⟨hm,hu,-⟩:=getLens_may hg
   have H:=H.join Hc
   refine⟨_,_,_,_,_,rfl,bif_f rfl (H.drew fun w3 _ H=>⟨_,H.cell 1 rfl rfl,by omega,by rw [S_size];omega,_,by rw [A0_add];exact H.cell 1 rfl rfl,?_⟩)⟩
   have ex:(S s).extract ((0:Int)+(u:Int)).toNat (S s).size=S (s.drop u):=by
    rw [S_size,S_extract,List.take_of_length_le (Nat.le_refl _),Int.zero_add,Int.toNat_natCast]
   rw [ex]
   refine(T_huff_Get (s.drop u) N al l.length cl l w3 (by rw [List.length_drop];omega) hN ⟨(nats_len l).symm,H.slw 0 rfl⟩ hm).mono ?_
   rintro e w4 (⟨hR,er,her,rfl,hf4⟩|⟨ps,a4,n4,c4,hR,rfl,rfl,hok,Hc⟩)
   · refine⟨_,_,_,_,rfl,⟨hf4.cell0,trivial⟩,bif_t (by simpa using her) ⟨_,rfl,?_,H.fr.trans hf4⟩⟩
     rw [unCodes,hg]
     simp only [hR]
     exact⟨_,_,_,rfl⟩
   · have hf4:=Hc.fr
     have H:=H.join Hc
     have hlen:ps.length≤1000000:=by
      have hcap:=H.capMax 0 rfl
      have key:∀(rd:List Bool→Option (Nat×Nat)) (n:Nat) (B:List Bool) (ps:List Pt) (R:List Bool),partsR rd n B=some (ps,R)→ps.length=n:=by
       intro rd n
       induction n with
       |zero=>intro B ps R e;rw [partsR]at e;cases e;rfl
       |succ n ih=>
        intro B ps R e
        rw [partsR]at e
        split at e
        · cases e
        · simp only [Option.map_eq_some_iff]at e
          obtain⟨x,hx,e⟩:=e
          cases e
          simp [ih _ _ _ hx]
      unfold huffR at hR
      split at hR
      · cases hR
      · rename_i hp
        split at hR
        · cases hR
          rw [key _ _ _ _ _ hp];omega
        · cases hR
     refine⟨_,_,_,_,rfl,⟨hf4.cell0,trivial⟩,bif_f rfl ?_⟩
     refine(T_hist_Values a4 ps.length c4 ps (fun p hp=>by have:=okPt_lt (hok p hp);exact⟨by omega,this.2⟩) w4 rfl (H.slw 0 rfl) hlen).mono ?_
     rintro e w5 ⟨v,rfl,hv,hf5⟩
     have hfr:=H.fr.trans hf5
     have hun:unCodes N s=valuesP ps:=by rw [unCodes,hg];simp only [hR]
     rw [hun]
     cases hvp:valuesP ps with
     |none=>
      rw [hvp]at hv
      obtain⟨x1,x2,x3,rfl⟩:=hv
      exact⟨_,_,_,_,rfl,_,rfl,⟨_,_,_,rfl⟩,hfr⟩
     |some vs=>
      rw [hvp]at hv
      obtain⟨a5,c5,rfl,hsl⟩:=hv
      exact⟨_,_,_,_,rfl,_,rfl,⟨a5,c5,rfl,hsl⟩,hfr⟩
end Go.Proofs.Tryz
namespace Go.Proofs.Tryz
open Go Go.RowKit Go.Proofs.VC
variable {M:List Nat} {w0 w:World} {L:List En}
def countsN (ps:List Pt) (log:Nat):List Nat:=normN (histN ps) log
def loadStates (l:List Int) (log:Nat):List UInt8:= [UInt8.ofNat log]++normB (countsN (l.map splitN) log)++statesB (countsN (l.map splitN) log) log (l.map splitN)
theorem counts_ok {ps:List Pt} {log:Nat} (hok:∀p∈ps,OkPt p) (hne:ps≠ []) (hl:7≤log∧log≤12):mayN (countsN ps log) log=true∧∀p∈ps,(countsN ps log).getD p.1 0≠0:=by
 obtain⟨p0,hp0⟩:=List.exists_mem_of_ne_nil ps hne
 have hc0:=hist_pos hp0 (hok p0 hp0)
 have hsum:0<(histN ps).sum:=by
  have hlt:=(okPt_lt (hok p0 hp0)).1
  have:(histN ps).getD p0.1 0≤(histN ps).sum:=by
   rw [List.getD_eq_getElem?_getD]
   cases hh:(histN ps)[p0.1]? with
   |none=>simp
   |some v=>exact mem_le_sum (List.mem_of_getElem? hh)
  omega
 obtain⟨h1,h2⟩:=normN_ok (freq:=histN ps) (log:=log) (histN_len ps) hsum hl
 exact⟨h1,fun p hp=>h2 _ (hist_pos hp (hok p hp))⟩
theorem normBf_len:∀(f:Nat) (l:List Nat),(∀x∈l,x≤1000000)→l.length≤1000→(normBf f l).length≤6*l.length
 |0,l,_,_=>by simp [normBf]
 |f+1,[],_,_=>by simp [normBf]
 |f+1,x::l,h,hl=>by
  have h128:(128:Nat)^(2+1)=2097152:=by decide
  have hx:=vput_len 2 x (by have:=h x (by simp);omega)
  rw [normBf]
  split
  · have:=normBf_len f l (fun y hy=>h y (by simp [hy])) (by simp at hl;omega)
    simp only [List.length_append,List.length_cons];omega
  · have hz:=zr_le l
    have hz2:=vput_len 2 (zr l) (by simp at hl;omega)
    have:=normBf_len f (l.drop (zr l)) (fun y hy=>h y (by simp [List.mem_of_mem_drop hy])) (by simp at hl ⊢;omega)
    simp only [List.length_append,List.length_cons,List.length_drop]at this ⊢
    omega
theorem restsB_len:∀(qs:List Pt),(∀q∈qs,OkPt q)→(restsB qs).length≤64*qs.length
 | [],_=>by simp [restsB]
 |q::qs,hq=>by
  have h1:=restsB_len qs fun p hp=>hq p (by simp [hp])
  have h2:q.1≤64:=by rcases hq q (by simp)with h|h<;>omega
  simp only [restsB,List.flatMap_cons,List.length_append,bitsOf_len,List.length_cons]at h1 ⊢
  omega
theorem sealN_len {l:List Nat} {log:Nat} {ps:List Pt} (hm:mayN l log=true) (hok:∀p∈ps,OkPt p∧l.getD p.1 0≠0):(sealN l log ps).length≤8*ps.length+9:=by
 have h65:=(mayN_facts hm).2.1
 have hfk:=fwd_ok hm ((ps.reverse).map (·.1)) (fun c hc=>by
  obtain⟨p,hp,rfl⟩:=List.mem_map.1 hc
  have h1:=(hok p (List.mem_reverse.1 hp)).2
  have h2:=getD_pos h1
  exact⟨by omega,by omega⟩)
 have h1:=sealB_le ((fwdN l log (ps.reverse.map (·.1))).2++ [((fwdN l log (ps.reverse.map (·.1))).1,log)]) (fun p hp=>by
  rcases List.mem_append.1 hp with hp|hp
  · exact(hfk.2.2 p hp).2
  · rw [List.mem_singleton.1 hp];show log≤64;have:=(mayN_facts hm).1;omega)
 rw [sealN,packB_len]
 unfold sealB
 simp only [List.length_append,List.length_singleton]at h1 ⊢
 rw [hfk.2.1,List.length_map,List.length_reverse]at h1
 omega
theorem statesB_len {l:List Nat} {log:Nat} {ps:List Pt} (hm:mayN l log=true) (hl:ps.length≤4096) (hok:∀p∈ps,OkPt p∧l.getD p.1 0≠0):(statesB l log ps).length≤16*ps.length+13:=by
 have h1:=sealN_len hm hok
 have h2:=restsB_len ps fun q hq=>(hok q hq).1
 have h128:(128:Nat)^(2+1)=2097152:=by decide
 have h3:=vput_len 2 (sealN l log ps).length (by omega)
 simp only [statesB,List.length_append,packB_len]
 omega
end Go.Proofs.Tryz
namespace Go.Proofs.Tryz
open Go Go.RowKit Go.Proofs.VC
theorem codeBits_get (c:Nat×Nat) {i:Nat} (h:i<c.2):(codeBits c)[i]? =some (c.1.testBit (c.2-1-i)):=by simp [codeBits,h]
theorem clsOf_is {l:List Nat} (h:mayL l=true) {c:Nat} (hc:l.getD c 0≠0):clsOf l (codeAt l c)=some c:=by
 cases hd:clsOf l (codeAt l c)with
 |none=>exact absurd ⟨hc,rfl⟩ (clsTo_none hd c (getD_pos hc))
 |some d=>
  obtain⟨h1,h2,h3⟩:=clsTo_some hd
  rw [codeAt_inj h h2 hc h3]
theorem half_bit (v k:Nat):2*(v/2^(k+1))+(v.testBit k).toNat=v/2^k:=by
 have e:v/2^(k+1)=v/2^k/2:=by rw [Nat.pow_succ,Nat.div_div_eq_div_mul]
 have e2:(v.testBit k).toNat=v/2^k%2:=by
  rw [Nat.testBit_eq_decide_div_mod_eq]
  rcases Nat.mod_two_eq_zero_or_one (v/2^k)with h|h<;>simp [h]
 rw [e,e2];omega
theorem codeR_is {l:List Nat} (h:mayL l=true) {c:Nat} (hc:l.getD c 0≠0) (B:List Bool):∀(f j:Nat),j<l.getD c 0→l.getD c 0≤j+f→
 codeR l f ((codeAt l c).1/2^(l.getD c 0-j)) j ((codeBits (codeAt l c)).drop j++B)=some (c,l.getD c 0)
 |0,j,h1,h2=>by omega
 |f+1,j,h1,h2=>by
  have hl:(codeAt l c).2=l.getD c 0:=codeAt_len l c
  have hg:=codeBits_get (codeAt l c) (i:=j) (by omega)
  have hd:(codeBits (codeAt l c)).drop j=(codeAt l c).1.testBit (l.getD c 0-1-j)::(codeBits (codeAt l c)).drop (j+1):=by
   rw [hl]at hg
   obtain⟨hlt,e⟩:=List.getElem?_eq_some_iff.1 hg
   rw [List.drop_eq_getElem_cons hlt,e]
  rw [hd,List.cons_append,codeR]
  have e1:l.getD c 0-j=(l.getD c 0-1-j)+1:=by omega
  rw [e1,half_bit]
  by_cases hj:j+1=l.getD c 0
  · have e0:l.getD c 0-1-j=0:=by omega
    have e2:((codeAt l c).1/2^0,j+1)=codeAt l c:=Prod.ext (by simp) (by rw [hl];exact hj)
    rw [e0,e2,clsOf_is h hc,hj]
  · have hno:clsOf l ((codeAt l c).1/2^(l.getD c 0-1-j),j+1)=none:=by
     cases hx:clsOf l ((codeAt l c).1/2^(l.getD c 0-1-j),j+1)with
     |none=>rfl
     |some d=>
      obtain⟨g1,g2,g3⟩:=clsTo_some hx
      have g4:l.getD d 0=j+1:=by rw [←codeAt_len,g3]
      have g5:=code_apart h g2 hc (fun e=>by rw [e]at g4;omega) (by omega)
      rw [g4,g3,show l.getD c 0-(j+1)=l.getD c 0-1-j by omega]at g5
      exact absurd rfl g5
    rw [hno]
    simp only
    have:=codeR_is h hc B f (j+1) (by omega) (by omega)
    rw [show l.getD c 0-(j+1)=l.getD c 0-1-j by omega]at this
    exact this
theorem cmapTo_count (l:List Nat):∀i,i≤l.length→(cmapTo l i).length=(l.take i).countP fun n=>decide (0<n)
 |0,_=>by simp [cmapTo]
 |i+1,h=>by
  have e:l.take (i+1)=l.take i++ [l.getD i 0]:=by
   rw [List.take_add_one,List.getD_eq_getElem?_getD,List.getElem?_eq_getElem (by omega)];rfl
  rw [cmapTo,List.length_append,cmapTo_count l i (by omega),e,List.countP_append]
  generalize l.getD i 0=v
  by_cases h0:v=0
  · rw [if_pos h0];simp [h0]
  · rw [if_neg h0];simp [Nat.pos_of_ne_zero h0]
theorem only_one {l:List Nat} (h:mayL l=true) {c:Nat} (hc:l.getD c 0≠0) (h1:manyL l<2):codeAt l c=(0,1):=by
 have hlt:=getD_pos hc
 have hmem:l.getD c 0∈l:=by
  rw [List.getD_eq_getElem?_getD,List.getElem?_eq_getElem hlt]
  exact List.getElem_mem hlt
 have hm1:manyL l=1:=by
  have:0<manyL l:=List.countP_pos_iff.2 ⟨_,hmem,decide_eq_true (Nat.pos_of_ne_zero hc)⟩
  omega
 have hoth:∀d,d≠c→l.getD d 0=0:=by
  intro d hd
  by_cases h0:l.getD d 0=0
  · exact h0
  · exfalso
    have h2:2≤manyL l:=by
     have hld:=getD_pos h0
     have key:∀(i:Nat),i≤l.length→(l.take i).countP (fun n=>decide (0<n))≥(if c<i then 1 else 0)+(if d<i then 1 else 0):=by
      intro i
      induction i with
      |zero=>intro _;simp
      |succ i ih=>
       intro hi
       have e:l.take (i+1)=l.take i++ [l.getD i 0]:=by
        rw [List.take_add_one,List.getD_eq_getElem?_getD,List.getElem?_eq_getElem (by omega)];rfl
       have:=ih (by omega)
       rw [e,List.countP_append]
       have hone:(if c=i then 1 else 0)+(if d=i then 1 else 0)≤ [l.getD i 0].countP (fun n=>decide (0<n)):=by
        by_cases hci:c=i
        · subst hci
          rw [if_pos rfl,if_neg hd]
          generalize l.getD c 0=v at hc
          simp [Nat.pos_of_ne_zero hc]
        · rw [if_neg hci]
          by_cases hdi:d=i
          · subst hdi
            rw [if_pos rfl]
            generalize l.getD d 0=v at h0
            simp [Nat.pos_of_ne_zero h0]
          · rw [if_neg hdi];omega
       split at this<;>split at this<;>split<;>split<;>split at hone<;>split at hone<;>omega
     have:=key l.length (Nat.le_refl _)
     rw [List.take_of_length_le (Nat.le_refl _),if_pos hlt,if_pos hld]at this
     exact this
    omega
 have hk:kraft l=krOf (l.getD c 0):=by
  rw [kraft_range]
  have:((List.range l.length).map fun e=>krOf (l.getD e 0))=((List.range l.length).map fun e=>if e=c then krOf (l.getD e 0)else 0):=List.map_congr_left fun e _=>by
   split
   · rfl
   · next he=>rw [hoth e he];rfl
  rw [this,sum_one _ _ _ hlt]
 have hl15:=getD_15 h c
 have hkv:krOf (l.getD c 0)=16384:=by
  have:=krOf_le (l.getD c 0)
  unfold mayL at h
  simp only [Bool.and_eq_true,Bool.or_eq_true,beq_iff_eq]at h
  rcases h.2 with(h2|h2)|h2<;>omega
 have hl1:l.getD c 0=1:=by
  rw [krOf,if_neg hc]at hkv
  have e14:(16384:Nat)=2^14:=by decide
  rw [e14]at hkv
  have:=(Nat.pow_right_inj (a:=2) (by decide)).1 hkv
  omega
 have hp:prevK l c=0:=by
  unfold prevK
  refine sum_zero _ _ fun d hd=>?_
  rw [if_neg]
  intro ha
  have ha':=ha
  simp only [ahead,Bool.and_eq_true,decide_eq_true_eq]at ha
  have hdc:d=c:=Classical.byContradiction fun hne=>by have:=hoth d hne;omega
  rw [hdc,ahead_irr]at ha'
  cases ha'
 rw [codeAt,if_neg hc,hp,hl1]
theorem howR_is {l:List Nat} (h:mayL l=true) {c:Nat} (hc:l.getD c 0≠0) (B:List Bool):howR l (codeBits (codeAt l c)++B)=some (c,l.getD c 0):=by
 have hcnt:(cmap l).length=manyL l:=by
  rw [cmap,cmapTo_count l _ (Nat.le_refl _),List.take_of_length_le (Nat.le_refl _)];rfl
 unfold howR
 split
 · next hlt=>
   have e:=only_one h hc (by omega)
   have e1:l.getD c 0=1:=by rw [←codeAt_len,e]
   have e2:codeBits (codeAt l c)= [false]:=by rw [e];rfl
   rw [e2,List.singleton_append,onlyR]
   have e3:((false).toNat,1)=codeAt l c:=by rw [e];rfl
   rw [e3,clsOf_is h hc,e1];rfl
 · have h15:=getD_15 h c
   have:=codeR_is h hc B 15 0 (Nat.pos_of_ne_zero hc) (by omega)
   rw [Nat.sub_zero,Nat.div_eq_of_lt (by rw [←codeAt_len];exact codeAt_lt h c),List.drop_zero]at this
   exact this
theorem partR_is {l:List Nat} (h:mayL l=true) {p:Pt} (hp:OkPt p) (hc:l.getD p.1 0≠0) (B:List Bool):partR (howR l) (partB l p++B)=some (p,(partB l p).length):=by
 rw [partB,List.append_assoc,partR,howR_is h hc]
 simp only
 have hl:(codeBits (codeAt l p.1)).length=l.getD p.1 0:=by rw [codeBits_len,codeAt_len]
 rw [if_neg (by simp only [List.length_append,bitsOf_len,hl];omega)]
 rw [List.drop_append_of_le_length (by omega),List.drop_of_length_le (by omega),List.nil_append,List.take_append_of_le_length (by simp),List.take_of_length_le (by simp),nb_bitsOf,List.length_append,hl,bitsOf_len]
 have:p.2%2^(p.1-1)=p.2:=by
  rcases hp with⟨h1,h2⟩|⟨h1,h2,h3⟩
  · rw [h1,h2]
  · exact Nat.mod_eq_of_lt h3
 rw [this]
theorem partsR_is {l:List Nat} (h:mayL l=true) (B:List Bool):∀(ps:List Pt),(∀p∈ps,OkPt p∧l.getD p.1 0≠0)→partsR (howR l) ps.length (huffB l ps++B)=some (ps,B)
 | [],_=>rfl
 |p::ps,hp=>by
  have e:huffB l (p::ps)=partB l p++huffB l ps:=rfl
  rw [List.length_cons,partsR,e,List.append_assoc,partR_is h (hp p (by simp)).1 (hp p (by simp)).2]
  simp only
  rw [List.drop_append_of_le_length (by omega),List.drop_of_length_le (by omega),List.nil_append,partsR_is h B ps fun q hq=>hp q (by simp [hq])]
  rfl
theorem lensBf_four:∀(f:Nat) (l:List Nat),(lensBf f l).length%4=0
 |0,l=>rfl
 |f+1,[]=>rfl
 |f+1,x::l=>by
  simp only [lensBf]
  split
  · simp only [List.length_append,bitsOf_len];have:=lensBf_four f ((x::l).drop (nou (x::l)));omega
  · simp only [List.length_append,bitsOf_len];have:=lensBf_four f l;omega
theorem nou_take (k:Nat):∀(l:List Nat),l.take (nouF k l)=List.replicate (nouF k l) 0:=fun l=>by
 apply List.ext_getElem?
 intro i
 rw [List.getElem?_take,List.getElem?_replicate]
 split
 · next h=>exact nouF_zero k l i h
 · rfl
theorem lensR_is (B:List Bool):∀(f:Nat) (acc l:List Nat) (h:Nat),acc.length+l.length=65→l.length≤f→(∀x∈l,x≤15)→lensR f acc (lensBf f l++B) h=some (acc++l,h+(lensBf f l).length/4)
 |0,acc,l,h,h1,h2,_=>by
  have:l= []:=List.length_eq_zero_iff.1 (by omega)
  subst this
  rw [lensR,if_pos (by simpa using Nat.le_of_eq h1.symm)]
  simp [lensBf]
 |f+1,acc,[],h,h1,h2,_=>by
  rw [lensR,if_pos (by simpa using Nat.le_of_eq h1.symm)]
  simp [lensBf]
 |f+1,acc,x::l,h,h1,h2,h3=>by
  rw [lensR,if_neg (by simp at h1;omega)]
  have e4:(2:Nat)^4=16:=by decide
  have hx:=h3 x (by simp)
  rw [lensBf]
  by_cases h0:x=0
  · rw [if_pos h0,if_neg (by simp only [List.length_append,bitsOf_len];omega)]
    have ht:∀(v:Nat) (C:List Bool),(bitsOf v 4++C).take 4=bitsOf v 4∧(bitsOf v 4++C).drop 4=C:=fun v C=>⟨by rw [List.take_append_of_le_length (by simp),List.take_of_length_le (by simp)],by rw [List.drop_append_of_le_length (by simp),List.drop_of_length_le (by simp),List.nil_append]⟩
    have hn:=nouF_le 16 (x::l)
    have hn0:0<nou (x::l):=by
     unfold nou
     rw [nouF,if_pos h0];omega
    unfold nou at hn0 ⊢
    rw [List.append_assoc,List.append_assoc,(ht _ _).1,(ht _ _).2,if_pos (by rw [nb_bitsOf]),if_neg (by simp only [List.length_append,bitsOf_len];omega),(ht _ _).1,(ht _ _).2,nb_bitsOf]
    have e16:(nouF 16 (x::l)-1)%2^4=nouF 16 (x::l)-1:=Nat.mod_eq_of_lt (by omega)
    rw [e16,Nat.sub_add_cancel hn0]
    rw [lensR_is B f _ _ (h+2) (by
     rw [List.length_append,List.length_replicate,List.length_drop];omega) (by rw [List.length_drop];simp at h2 ⊢;omega) (fun y hy=>h3 y (List.mem_of_mem_drop hy))]
    rw [List.append_assoc,←nou_take 16 (x::l),List.take_append_drop]
    congr 2
    simp only [List.length_append,bitsOf_len]
    omega
  · rw [if_neg h0,if_neg (by simp only [List.length_append,bitsOf_len];omega)]
    have ht:∀(v:Nat) (C:List Bool),(bitsOf v 4++C).take 4=bitsOf v 4∧(bitsOf v 4++C).drop 4=C:=fun v C=>⟨by rw [List.take_append_of_le_length (by simp),List.take_of_length_le (by simp)],by rw [List.drop_append_of_le_length (by simp),List.drop_of_length_le (by simp),List.nil_append]⟩
    have e16:x%2^4=x:=Nat.mod_eq_of_lt (by omega)
    rw [List.append_assoc,(ht _ _).1,(ht _ _).2,nb_bitsOf,e16,if_neg h0]
    rw [lensR_is B f (acc++ [x]) l (h+1) (by rw [List.length_append,List.length_singleton];simp at h1;omega) (by simpa using h2) fun y hy=>h3 y (by simp [hy])]
    rw [List.append_assoc,List.singleton_append]
    congr 2
    simp only [List.length_append,bitsOf_len]
    omega
theorem lens_back {l:List Nat} (h:mayL l=true) (t:List UInt8):getLens (putLens l++t)= .ok (l,(putLens l).length):=by
 obtain⟨h1,h2,h3⟩:=mayL_all h
 have e:putLens l=packB (lensB l):=by rw [putLens,if_pos h]
 have h4:=lensBf_four 65 l
 have eB:lensB l=lensBf 65 l:=by rw [lensB,h2]
 rw [getLens,bitsS_app,e,bitsS_packB,eB,List.append_assoc,lensR_is _ 65 [] l 0 (by simpa using h2) (by omega) h3,List.nil_append,Nat.zero_add]
 have e2:((lensBf 65 l).length/4+1)/2=(packB (lensBf 65 l)).length:=by rw [packB_len];omega
 simp only
 rw [if_neg (by omega),if_neg (by rw [h];simp),e2,e,eB,List.take_append_of_le_length (Nat.le_refl _),List.take_of_length_le (Nat.le_refl _),if_neg (by simp)]
end Go.Proofs.Tryz
namespace Go.Proofs.Tryz
open Go Go.RowKit Go.Proofs.VC
theorem vgo_vputw:∀(n i acc:Nat) (t:List UInt8),n*128^i<WW→(n≠0∨i=0)→i<10→vgo (vput n++t) i acc=(acc+n*128^i,i+(vput n).length,0):=by
 intro n
 induction n using Nat.strongRecOn with
 |ind n ih=>
  intro i acc t hn h0 hi
  have h9:i=9→n<2:=by
   rintro rfl
   have e9:(128:Nat)^9=9223372036854775808:=by decide
   unfold WW at hn
   omega
  by_cases hlt:n<128
  · rw [vput_lt hlt,List.singleton_append,vgo,toNat_ofNat8 (by omega),if_neg (by omega),if_neg (by omega),if_neg (by omega),if_neg (by omega)]
    rfl
  · rw [vput_ge (by omega),List.cons_append,vgo,toNat_ofNat8 (by omega),if_neg (by omega),if_neg (by omega),if_pos (by omega)]
    have hp:n/128*128^(i+1)+n%128*128^i=n*128^i:=by
     rw [Nat.pow_succ,Nat.mul_comm (128^i) 128,←Nat.mul_assoc,←Nat.add_mul]
     congr 1
     omega
    rw [ih (n/128) (by omega) (i+1) _ t (by omega) (.inl (by omega)) (by omega)]
    have e:(n%128+128)%128=n%128:=by omega
    rw [e]
    simp only [Prod.mk.injEq,List.length_cons,and_true]
    omega
theorem vget_vputw {n:Nat} (h:n<WW) (t:List UInt8):vgetR (vput n++t)=(n,(vput n).length,0):=by
 rw [vgetR,vgo_vputw n 0 0 t (by simpa using h) (.inr rfl) (by omega)]
 simp
theorem zr_take:∀(l:List Nat),l.take (zr l)=List.replicate (zr l) 0
 | []=>rfl
 |x::l=>by
  rw [zr]
  split
  · next h=>rw [List.take_succ_cons,List.replicate_succ,zr_take l,h]
  · rfl
theorem drop_app {α:Type} (a b:List α):(a++b).drop a.length=b:=by
 rw [List.drop_append_of_le_length (Nat.le_refl _),List.drop_of_length_le (Nat.le_refl _),List.nil_append]
theorem normR_is (t:List UInt8):∀(f:Nat) (acc l:List Nat) (u:Nat),acc.length+l.length=65→l.length≤f→(∀x∈l,x≤4096)→normR f acc (normBf f l++t) u= .ok (acc++l,u+(normBf f l).length)
 |0,acc,l,u,h1,h2,_=>by
  have:l= []:=List.length_eq_zero_iff.1 (by omega)
  subst this
  simp [normR,normBf]
 |f+1,acc,[],u,h1,h2,_=>by
  rw [normR,if_pos (by simpa using Nat.le_of_eq h1.symm)]
  simp [normBf]
 |f+1,acc,x::l,u,h1,h2,h3=>by
  have hx:=h3 x (by simp)
  have hw:∀n,n≤4096→n<WW:=fun n hn=>by unfold WW;omega
  simp only [List.length_cons]at h1 h2
  by_cases h0:x=0
  · have hz:=zr_le l
    have hb:normBf (f+1) (x::l)=vput x++(vput (zr l)++normBf f (l.drop (zr l))):=by rw [normBf,if_neg (by simpa using h0)]
    rw [normR,if_neg (by omega),hb,List.append_assoc,vget_vputw (hw x hx),List.append_assoc]
    simp only
    rw [if_neg (by simp),if_pos h0,drop_app,vget_vputw (hw _ (by omega))]
    simp only
    rw [if_neg (by simp),if_neg (by omega),drop_app]
    rw [normR_is t f _ (l.drop (zr l)) _ (by simp only [List.length_append,List.length_replicate,List.length_drop];omega) (by rw [List.length_drop];omega) fun y hy=>h3 y (by simp [List.mem_of_mem_drop hy])]
    have e:acc++List.replicate (zr l+1) 0++l.drop (zr l)=acc++x::l:=by
     rw [List.append_assoc,List.replicate_succ,List.cons_append,←zr_take,List.take_append_drop,h0]
    rw [e]
    congr 2
    simp only [List.length_append];omega
  · have hb:normBf (f+1) (x::l)=vput x++normBf f l:=by rw [normBf,if_pos h0]
    rw [normR,if_neg (by omega),hb,List.append_assoc,vget_vputw (hw x hx)]
    simp only
    rw [if_neg (by simp),if_neg h0,drop_app,Nat.min_eq_left (by omega)]
    rw [normR_is t f (acc++ [x]) l _ (by simp only [List.length_append,List.length_singleton];omega) (by omega) fun y hy=>h3 y (by simp [hy])]
    rw [List.append_assoc,List.singleton_append]
    congr 2
    simp only [List.length_append];omega
theorem norm_back {l:List Nat} {log:Nat} (h:mayN l log=true) (t:List UInt8):getNorm (normB l++t) log= .ok (l,(normB l).length):=by
 obtain⟨h1,h2,h3,_⟩:=mayN_facts h
 have h12:2^log≤2^12:=Nat.pow_le_pow_right (by decide) h1.2
 have e12:(2:Nat)^12=4096:=by decide
 have e:normB l=normBf 65 l:=by rw [normB,h2]
 rw [getNorm,if_pos h1,e,normR_is t 65 [] l 0 (by simpa using h2) (by omega) fun x hx=>by have:=h3 x hx;omega]
 simp only [List.nil_append,Nat.zero_add]
 rw [h,e,List.take_append_of_le_length (Nat.le_refl _),List.take_of_length_le (Nat.le_refl _)]
 simp
theorem bitLen_is {v r:Nat} (h1:2^r≤v) (h2:v<2^(r+1)) (hr:r<64):Lib.bitLen v=r+1:=by
 have hv:v<WW:=Nat.lt_of_lt_of_le h2 (Nat.pow_le_pow_right (by decide) (by omega:r+1≤64))
 have h0:v≠0:=by have:=Nat.two_pow_pos r;omega
 obtain⟨a,b,c,d⟩:=bitLen_pos hv h0
 have e1:r<Lib.bitLen v:=(Nat.pow_lt_pow_iff_right (a:=2) (by decide)).1 (Nat.lt_of_le_of_lt h1 d)
 have e2:Lib.bitLen v-1<r+1:=(Nat.pow_lt_pow_iff_right (a:=2) (by decide)).1 (Nat.lt_of_le_of_lt c h2)
 omega
theorem sealed_left (b:List Bool):mayBack (packB (b++ [true]))=true∧leftOf (packB (b++ [true]))=b.length:=by
 have hl:(packB (b++ [true])).length=b.length/8+1:=by rw [packB_len,List.length_append,List.length_singleton];omega
 have hlast:lastOf (packB (b++ [true]))=nb (b.drop (8*(b.length/8)))+2^(b.length%8):=by
  rw [lastOf,hl,Nat.add_sub_cancel,List.getD_eq_getElem?_getD,packB_get (by rw [List.length_append,List.length_singleton];omega),Option.getD_some,UInt8.toNat_ofNat_of_lt' (chunk_lt _ _)]
  rw [List.drop_append_of_le_length (by omega),List.take_of_length_le (by rw [List.length_append,List.length_drop,List.length_singleton];omega),nb_snoc,List.length_drop]
  have:b.length-8*(b.length/8)=b.length%8:=by omega
  rw [this];simp
 have hlt:=nb_lt (b.drop (8*(b.length/8)))
 rw [List.length_drop,show b.length-8*(b.length/8)=b.length%8 by omega]at hlt
 have hb:=bitLen_is (v:=lastOf (packB (b++ [true]))) (r:=b.length%8) (by omega) (by rw [Nat.pow_succ];omega) (by omega)
 have hpos:=Nat.two_pow_pos (b.length%8)
 refine⟨?_,?_⟩
 · unfold mayBack
   have h1:(packB (b++ [true])).isEmpty=false:=by
    cases h:packB (b++ [true])with
    |nil=>rw [h]at hl;simp at hl
    |cons=>rfl
   rw [h1]
   simp only [Bool.not_false,Bool.true_and,bne_iff_ne,ne_eq]
   omega
 · rw [leftOf,hb,hl];omega
def toldB (ps:List (Nat×Nat)):List Bool:=ps.flatMap fun p=>bitsOf p.1 p.2
theorem toldB_snoc (ps:List (Nat×Nat)) (v n:Nat):toldB (ps++ [(v,n)])=toldB ps++bitsOf v n:=by simp [toldB]
theorem take_last {A:List Bool} {ps:List (Nat×Nat)} {v n:Nat} {X:List Bool} (h:A=toldB (ps++ [(v,n)])++X) (hv:v<2^n):n≤(toldB (ps++ [(v,n)])).length∧(toldB (ps++ [(v,n)])).length-n=(toldB ps).length∧
 nb ((A.drop ((toldB (ps++ [(v,n)])).length-n)).take n)=v:=by
 have hl:(toldB (ps++ [(v,n)])).length=(toldB ps).length+n:=by rw [toldB_snoc,List.length_append,bitsOf_len]
 refine⟨by omega,by omega,?_⟩
 rw [hl,Nat.add_sub_cancel,h,toldB_snoc,List.append_assoc,drop_app,List.take_append_of_le_length (by simp),List.take_of_length_le (by simp),nb_bitsOf,Nat.mod_eq_of_lt hv]
theorem cls_at {l:List Nat} {log q:Nat} (h:mayN l log=true) (hq:q<2^log):((tableN l log).getD q (0,0,0)).1=(spreadN l log).getD q 0:=by
 obtain⟨x,e,_⟩:=table_cls h hq
 rw [List.getD_eq_getElem?_getD,e];rfl
theorem fwdN_snoc (l:List Nat) (log:Nat) (cs:List Nat) (c:Nat):fwdN l log (cs++ [c])=fwdStep l log (fwdN l log cs) c:=by simp [fwdN]
theorem backs_is {l:List Nat} {log:Nat} (hm:mayN l log=true) {s1 s2:List UInt8} (Y:List Bool):∀(ps pre:List Pt) (X:List Bool),(∀p∈ps,OkPt p∧l.getD p.1 0≠0)→
 bitsS s1=toldB (fwdN l log (ps.reverse.map (·.1))).2++X→bitsS s2=restsB pre++restsB ps++Y→
 backsS (tableN l log) s1 s2 ps.length (toldB (fwdN l log (ps.reverse.map (·.1))).2).length (restsB pre).length (fwdN l log (ps.reverse.map (·.1))).1=some (ps,0,(restsB (pre++ps)).length,0)
 | [],pre,X,hp,h1,h2=>by
   rw [List.append_nil];rfl
 |p::ps,pre,X,hp,h1,h2=>by
  obtain⟨hok,hc⟩:=hp p (by simp)
  have h64:=(okPt_lt hok).1
  have hfk:=fwd_ok hm (ps.reverse.map (·.1)) fun c hc=>by
   obtain⟨q,hq,rfl⟩:=List.mem_map.1 hc
   have h1:=hp q (by simp at hq;simp [hq])
   have:=(okPt_lt h1.1).1
   exact⟨by omega,Nat.pos_of_ne_zero h1.2⟩
  have e:fwdN l log ((p::ps).reverse.map (·.1))=fwdStep l log (fwdN l log (ps.reverse.map (·.1))) p.1:=by
   rw [List.reverse_cons,List.map_append]
   exact fwdN_snoc _ _ _ _
  have hps:=place_spec hm (c:=p.1) (by omega) (Nat.pos_of_ne_zero hc) hfk.1
  have hh:=holdsN_iff.1 hps.2
  rw [e]at h1 ⊢
  generalize hs:fwdN l log (ps.reverse.map (·.1))=S at*
  obtain⟨s,E⟩:=S
  simp only [fwdStep]at h1 hps hh hfk ⊢
  generalize placeN l log p.1 s=q at*
  obtain⟨t1,t2,t3⟩:=take_last (v:=s-bsAt (tableN l log) q) (n:=btAt (tableN l log) q) h1 (by omega)
  have hr:bitsS s2=restsB (pre++ [p])++restsB ps++Y:=by
   rw [h2];simp [restsB]
  have hrl:(restsB (pre++ [p])).length=(restsB pre).length+(p.1-1):=by simp [restsB]
  have hcl:=cls_at hm hps.1
  rw [hh.1]at hcl
  have hk2:(restsB pre).length+(p.1-1)≤8*s2.length:=by
   rw [←bitsS_len,hr]
   simp only [List.length_append,hrl]
   omega
  have hnb:nb (((bitsS s2).drop (restsB pre).length).take (p.1-1))=p.2:=by
   have:restsB (p::ps)=bitsOf p.2 (p.1-1)++restsB ps:=by simp [restsB]
   rw [h2,this,List.append_assoc,drop_app,List.append_assoc,List.take_append_of_le_length (by simp),List.take_of_length_le (by simp),nb_bitsOf]
   rcases hok with⟨a,b⟩|⟨a,b,c⟩
   · rw [a,b]
   · exact Nat.mod_eq_of_lt c
  have hb:backS (tableN l log) s1 s2 (toldB (E++ [(s-bsAt (tableN l log) q,btAt (tableN l log) q)])).length (restsB pre).length q=some (p,(toldB E).length,(restsB (pre++ [p])).length,s):=by
   unfold backS
   rw [if_pos t1,hcl,if_pos hk2,hnb,t3,t2,hrl]
   congr 4
   omega
  rw [List.length_cons,backsS,hb]
  simp only
  have ih:=backs_is hm Y ps (pre++ [p]) (bitsOf (s-bsAt (tableN l log) q) (btAt (tableN l log) q)++X) (fun r hr=>hp r (by simp [hr])) (by rw [hs,h1,toldB_snoc,List.append_assoc]) hr
  rw [hs]at ih
  simp only at ih
  rw [ih,Option.map_some,List.append_assoc,List.singleton_append]
def unStates (n:Nat) (s:List UInt8):Option (List Int):=match s with
 | []=>none
 |b::t=>match getNorm t b.toNat with
  | .error _=>none
  | .ok (l,u)=>match statesR l b.toNat n (t.drop u)with
    |none=>none
    |some ps=>valuesP ps
end Go.Proofs.Tryz
