import Derived.Test.YtoeokgpdmagjoaaGreatT5
/-
A part of the proof: steps of the walk and plain laws.
-/
set_option linter.unusedVariables false
namespace Go.Proofs.Tryz
open Go Go.RowKit Go.Proofs.VC
variable {M:List Nat} {w0 w:World} {L:List En}
def bo:Option (Nat×Nat)→Bool→Be
 |none,kn=>(0,0,false,kn)
 |some (c,k),kn=>(c,k,true,kn)
def sumAt (S:List Nat) (i:Nat):Nat:=S.getD i 0
def ixOf (n d dn op:Nat):Nat:=(d*n+dn)*n+op
theorem ix_inj {n d dn op d' dn' op':Nat} (h1:dn<n) (h2:op<n) (h3:dn'<n) (h4:op'<n) (h:ixOf n d dn op=ixOf n d' dn' op'):d=d'∧dn=dn'∧op=op':=by
 have hn:0<n:=by omega
 have e:∀a b,b<n→(a*n+b)/n=a∧(a*n+b)%n=b:=fun a b hb=>by
  rw [Nat.mul_comm,Nat.mul_add_div hn,Nat.div_eq_of_lt hb,Nat.mul_add_mod,Nat.mod_eq_of_lt hb];simp
 have a1:=e (d*n+dn) op h2
 have a2:=e (d'*n+dn') op' h4
 have b1:=e d dn h1
 have b2:=e d' dn' h3
 unfold ixOf at h
 rw [h]at a1
 have h5:d*n+dn=d'*n+dn':=by rw [←a1.1,a2.1]
 rw [h5]at b1
 exact⟨by rw [←b1.1,b2.1],by rw [←b1.2,b2.2],by rw [←a1.2,a2.2]⟩
theorem ix_lt {n d dn op lim:Nat} (hd:d≤lim) (h1:dn<n) (h2:op<n):ixOf n d dn op<(lim+2)*n*n:=by
 have h3:d*n+dn+1≤(lim+2)*n:=by
  have:(d+1)*n≤(lim+2)*n:=Nat.mul_le_mul_right _ (by omega)
  rw [Nat.succ_mul]at this;omega
 have h4:(d*n+dn+1)*n≤(lim+2)*n*n:=Nat.mul_le_mul_right _ h3
 rw [Nat.succ_mul]at h4
 unfold ixOf;omega
def hadOk (S:List Nat) (lim:Nat) (had:List Be):Prop:=had.length=(lim+2)*S.length*S.length∧
 ∀d dn op,d≤lim→dn<S.length→op<S.length→∀u,had[ixOf S.length d dn op]? =some u→u.2.2.2=false∨u=bo (bst (sumAt S) (S.length-1) (lim+1-d) dn op) true
theorem hadOk.set {S:List Nat} {lim:Nat} {had:List Be} (h:hadOk S lim had) {d dn op:Nat} (hd:d≤lim) (h1:dn<S.length) (h2:op<S.length):
 hadOk S lim (had.set (ixOf S.length d dn op) (bo (bst (sumAt S) (S.length-1) (lim+1-d) dn op) true)):=by
 refine⟨by rw [List.length_set];exact h.1,fun d' dn' op' hd' h1' h2' u hu=>?_⟩
 rw [List.getElem?_set]at hu
 split at hu
 · rename_i e
   obtain⟨rfl,rfl,rfl⟩:=ix_inj h1 h2 h1' h2' e
   split at hu
   · cases hu;exact .inr rfl
   · cases hu
 · exact h.2 d' dn' op' hd' h1' h2' u hu
theorem bst_end {S:Nat→Nat} {N f dn op:Nat} (h:dn=N∧op=0):bst S N f dn op=some (0,0):=by
 cases f<;>rw [bst,if_pos h]
theorem bst_bad {S:Nat→Nat} {N f dn op:Nat} (h:¬(dn=N∧op=0)) (h2:op=0∨N-dn<op∨f=0):bst S N f dn op=none:=by
 cases f with
 |zero=>rw [bst,if_neg h]
 |succ f=>
  rw [bst,if_neg h,if_pos]
  omega
theorem best_ret {R:Ending→World→Prop} (H:Sx M w0 w L) (j:Nat) {b:Nat} {y:Be} (hj:L[j]? =some (.ob b (.cells (be4 y).toArray t_merge_best (0,0)))) (x:Be)
 (h:∀w',Sx M w0 w' (L.set j (.ob b (.cells (be4 x).toArray t_merge_best (0,0))))→R (.returned (.agg (be4 x).toArray)) w'):
 Sto w (A0 b) (.int .i64 x.1) fun w1=>Sto w1 ((A0 b).add 1) (.int .i64 x.2.1) fun w2=>Sto w2 ((A0 b).add 2) (.bool x.2.2.1) fun w3=>Sto w3 ((A0 b).add 3) (.bool x.2.2.2) fun w4=>
  ∃a:Int,∃c:Int,∃d:Bool,∃e:Bool,LdL w4 (A0 b) 0 [.int .i64 a,.int .i64 c,.bool d,.bool e]∧R (.returned (.agg #[.int .i64 a,.int .i64 c,.bool d,.bool e])) w4:=by
 have hjl:j<L.length:=(List.getElem?_eq_some_iff.1 hj).1
 simp only [A0_add]
 refine H.sto j hj (by simp [be4]) fun w1 _ H=>?_
 refine H.sto j (by rw [List.getElem?_set_self hjl]) (by simp [be4]) fun w2 _ H=>?_
 rw [List.set_set]at H
 refine H.sto j (by rw [List.getElem?_set_self hjl]) (by simp [be4]) fun w3 _ H=>?_
 rw [List.set_set]at H
 refine H.sto j (by rw [List.getElem?_set_self hjl]) (by simp [be4]) fun w4 _ H=>?_
 rw [List.set_set]at H
 have H':Sx M w0 w4 (L.set j (.ob b (.cells (be4 x).toArray t_merge_best (0,0)))):=H
 have hl:=Sx.ld H' j (b:=b) (cs:=(be4 x).toArray) (t:=t_merge_best) (f:=(0,0)) (by rw [List.getElem?_set_self hjl])
 exact⟨_,_,_,_,hl,h w4 H'⟩
theorem best_sto {G:World→Prop} (H:Sx M w0 w L) (j:Nat) {b:Nat} {y:Be} (hj:L[j]? =some (.ob b (.cells (be4 y).toArray t_merge_best (0,0)))) (x:Be)
 (h:∀w',Sx M w0 w' (L.set j (.ob b (.cells (be4 x).toArray t_merge_best (0,0))))→G w'):
 Sto w (A0 b) (.int .i64 x.1) fun w1=>Sto w1 ((A0 b).add 1) (.int .i64 x.2.1) fun w2=>Sto w2 ((A0 b).add 2) (.bool x.2.2.1) fun w3=>Sto w3 ((A0 b).add 3) (.bool x.2.2.2) G:=by
 have hjl:j<L.length:=(List.getElem?_eq_some_iff.1 hj).1
 simp only [A0_add]
 refine H.sto j hj (by simp [be4]) fun w1 _ H=>?_
 refine H.sto j (by rw [List.getElem?_set_self hjl]) (by simp [be4]) fun w2 _ H=>?_
 rw [List.set_set]at H
 refine H.sto j (by rw [List.getElem?_set_self hjl]) (by simp [be4]) fun w3 _ H=>?_
 rw [List.set_set]at H
 refine H.sto j (by rw [List.getElem?_set_self hjl]) (by simp [be4]) fun w4 _ H=>?_
 rw [List.set_set]at H
 exact h w4 H
set_option maxHeartbeats 1000000 in
theorem T_merge_maker_from:∀(f:Nat) {M:List Nat} {w0 w:World} {L:List En} {R:Ending→World→Prop} {bm bs bh lim:Nat} {S:List Nat} {had:List Be} (H:MS M w0 w L bm bs bh S lim had) (hS1:1≤S.length) (hS:S.length≤66) (hSb:∀i,sumAt S i≤1000000) (hlim:lim≤15) (hk:hadOk S lim had)
 (d dn op:Nat) (hf:f+d=lim+1) (hdn:dn≤S.length-1) (hop:op≤200)
 (h:∀w' had' kn,had'.length=had.length→MS M w0 w' L bm bs bh S lim had'→hadOk S lim had'→R (.returned (.agg (be4 (bo (bst (sumAt S) (S.length-1) f dn op) kn)).toArray)) w'),
 Calls prog n_merge_maker_from #[.pointer (some (A0 bm)),.agg #[.int .i64 (d:Int),.int .i64 (dn:Int),.int .i64 (op:Int)]] w R:=by
 intro f
 induction f using Nat.strongRecOn with
 |_ f ih=>
 intro M w0 w L R bm bs bh lim S had H hS1 hS hSb hlim hk d dn op hf hdn hop h
 refine S_merge_maker_from ?_
 unfold F_merge_maker_from
 refine H.alloc fun w1 b3 H=>H.alloc fun w2 b4 H=>Sx.drew H fun w3 _ H=>OSome.i ⟨_,_,_,Sx.cell H 0 rfl rfl,_,by rw [A0_add];exact Sx.cell H 4 rfl rfl,?_⟩
 have eN:W64 (W64 ((S.length:Int)-1)-(dn:Int))=((S.length-1-dn:Nat):Int):=by
  have a1:W64 ((S.length:Int)-1)=((S.length-1:Nat):Int):=W64_idn (by omega) (by omega)
  have a2:W64 (((S.length-1:Nat):Int)-(dn:Int))=((S.length-1-dn:Nat):Int):=W64_idn (by omega) (by omega)
  rw [a1,a2]
 rw [eN]
 have H:Sx M w0 w3 (.ob bm (.cells #[.slice (some (A0 bs)) S.length S.length,.int .i64 (lim:Int),.slice (some (A0 bh)) had.length had.length] t_merge_maker (0,0)):: .ob bs (.cells (i64s (nats S)).toArray t_int (0,0)):: .ob bh (.cells (bes had).toArray t_merge_best (0,0))::
  .ob b4 (.cells (be4 (0,0,false,false)).toArray t_merge_best (0,0)):: .ob b3 (.cells #[.int .i64 (d:Int),.int .i64 (dn:Int),.int .i64 (op:Int)] t_merge_node (0,0))::L):=H
 have out:∀(w5:World) (had':List Be) (x:Be) (kn:Bool),x=bo (bst (sumAt S) (S.length-1) f dn op) kn→had'.length=had.length→hadOk S lim had'→
  MS M w0 w5 (.ob b4 (.cells (be4 (0,0,false,false)).toArray t_merge_best (0,0)):: .ob b3 (.cells #[.int .i64 (d:Int),.int .i64 (dn:Int),.int .i64 (op:Int)] t_merge_node (0,0))::L) bm bs bh S lim had'→
  Sto w5 (A0 b4) (.int .i64 x.1) fun w1=>Sto w1 ((A0 b4).add 1) (.int .i64 x.2.1) fun w2=>Sto w2 ((A0 b4).add 2) (.bool x.2.2.1) fun w3=>Sto w3 ((A0 b4).add 3) (.bool x.2.2.2) fun w4=>
  ∃a:Int,∃c:Int,∃d:Bool,∃e:Bool,LdL w4 (A0 b4) 0 [.int .i64 a,.int .i64 c,.bool d,.bool e]∧R (.returned (.agg #[.int .i64 a,.int .i64 c,.bool d,.bool e])) w4:=by
  intro w5 had' x kn hx hl hk' H
  refine best_ret H 3 rfl x fun w' H=>?_
  rw [hx]
  exact h w' had' kn hl (MS.tail (MS.tail H)) hk'
 intro J6 hJ6 J3 hJ3
 have split:∀b:Bool,b=decide (dn=S.length-1∧op=0)→J3 b w3:=by
  intro b hb
  refine hJ3 b w3 (bif_i (fun hb1=>?_) fun hb1=>Sx.drew H fun w4 _ H=>⟨_,by rw [A0_add];exact Sx.cell H 4 rfl rfl,bif_i (fun h1=>?_) fun h1=>⟨_,by rw [A0_add];exact Sx.cell H 4 rfl rfl,bif_i (fun h2=>?_) fun h2=>⟨_,Sx.cell H 4 rfl rfl,OSome.i ⟨_,by rw [A0_add];exact Sx.cell H 0 rfl rfl,bif_i (fun h3=>?_) fun h3=>?_⟩⟩⟩⟩)
  · rw [hb1]at hb
    exact out w3 had (0,0,true,false) false (by rw [bst_end (of_decide_eq_true hb.symm)];rfl) rfl hk H
  · rw [hb1]at hb
    have h1':op=0:=by have:=eq_of_beq h1;omega
    exact out w4 had (0,0,false,false) false (by rw [bst_bad (of_decide_eq_false hb.symm) (.inl h1')];rfl) rfl hk H
  · rw [hb1]at hb
    have h2':S.length-1-dn<op:=by have:=of_decide_eq_true h2;omega
    exact out w4 had (0,0,false,false) false (by rw [bst_bad (of_decide_eq_false hb.symm) (.inr (.inl h2'))];rfl) rfl hk H
  · rw [hb1]at hb
    have h3':lim<d:=by have:=of_decide_eq_true h3;omega
    exact out w4 had (0,0,false,false) false (by rw [bst_bad (of_decide_eq_false hb.symm) (.inr (.inr (by omega)))];rfl) rfl hk H
  · rw [hb1]at hb
    have h0:=of_decide_eq_false hb.symm
    have h1':op≠0:=by have:=ne_of_beq_false h1;omega
    have h2':op≤S.length-1-dn:=by have:=of_decide_eq_false h2;omega
    have h3':d≤lim:=by have:=of_decide_eq_false h3;omega
    obtain⟨g,rfl⟩:∃g,f=g+1:=⟨f-1,by omega⟩
    have hix:=ix_lt h3' (show dn<S.length by omega) (show op<S.length by omega)
    refine hJ6 w4 ?_
    intro J7 hJ7
    have known:∀(w5:World) (b6:Nat) (u:Be),had[ixOf S.length d dn op]? =some u→MS M w0 w5 (.ob b6 (.cells (be4 u).toArray t_merge_best (0,0)):: .ob b4 (.cells (be4 (0,0,false,false)).toArray t_merge_best (0,0)):: .ob b3 (.cells #[.int .i64 (d:Int),.int .i64 (dn:Int),.int .i64 (op:Int)] t_merge_node (0,0))::L) bm bs bh S lim had→J7 (A0 b6) w5:=by
     intro w5 b6 u hu H
     refine hJ7 _ _ ⟨_,by rw [A0_add];exact Sx.cell H 3 rfl rfl,bif_i (fun h4=>?_) fun h4=>?_⟩
     · rcases hk.2 d dn op h3' (by omega) (by omega) u hu with h5|h5
       · rw [h4]at h5;cases h5
       · rw [show lim+1-d=g+1 by omega]at h5
         refine⟨_,_,_,_,Sx.ld H 3 rfl,?_⟩
         exact out w5 had u true h5 rfl hk (MS.tail H)
     · refine MS.alloc (MS.tail H) fun w10 b7 H=>?_
       refine best_sto H 3 (y:=(0,0,false,false)) rfl (0,0,false,true) fun w14 H=>?_
       refine⟨_,by rw [A0_add];exact Sx.cell H 5 rfl rfl,?_⟩
       have hbst:bst (sumAt S) (S.length-1) (g+1) dn op=accD (fun k=>(bst (sumAt S) (S.length-1) g (dn+k) (2*(op-k))).map (·.1)) (sumAt S dn) op (op+1):=by
        rw [bst,if_neg h0,if_neg (by omega)]
       generalize hG:(fun k=>(bst (sumAt S) (S.length-1) g (dn+k) (2*(op-k))).map (·.1))=G at hbst
       refine⟨fun m x w15=>∃(i:Nat) (had':List Be),x=(op:Int)-(i:Int)∧m+i=op+1∧had'.length=had.length∧hadOk S lim had'∧
        MS M w0 w15 (.ob b7 (.cells (be4 (bo (accD G (sumAt S dn) op i) true)).toArray t_merge_best (0,0)):: .ob b4 (.cells (be4 (0,0,false,false)).toArray t_merge_best (0,0)):: .ob b3 (.cells #[.int .i64 (d:Int),.int .i64 (dn:Int),.int .i64 (op:Int)] t_merge_node (0,0))::L) bm bs bh S lim had',
        ⟨op+1,0,had,by omega,rfl,rfl,hk,H⟩,?_⟩
       rintro m x w15 ⟨i,had',rfl,hm,hlen',hk',H⟩
       refine bif_i (fun h5=>?_) fun h5=>?_
       · have hi:i≤op:=by have:=of_decide_eq_true h5;omega
         refine⟨_,Sx.cell H 5 rfl rfl,_,by rw [A0_add];exact Sx.cell H 5 rfl rfl,_,by rw [A0_add];exact Sx.cell H 5 rfl rfl,?_⟩
         have a0:(op:Int)-(i:Int)=((op-i:Nat):Int):=by omega
         have a1:W64 ((d:Int)+1)=((d+1:Nat):Int):=W64_idn (by omega) (by omega)
         have a2:W64 ((dn:Int)+((op-i:Nat):Int))=((dn+(op-i):Nat):Int):=W64_idn (by omega) (by omega)
         have a3:W64 ((op:Int)-((op-i:Nat):Int))=((i:Nat):Int):=W64_idn (by omega) (by omega)
         have a4:W64 ((2:Int)*((i:Nat):Int))=((2*i:Nat):Int):=W64_idn (by omega) (by omega)
         rw [a0,a1,a2,a3,a4]
         have a5:W64 (((op-i:Nat):Int)-1)=(op:Int)-((i+1:Nat):Int):=by rw [W64_id _ (by omega) (by omega)];omega
         rw [a5]
         refine ih g (by omega) H hS1 hS hSb hlim hk' (d+1) (dn+(op-i)) (2*i) (by omega) (by omega) (by omega) fun w16 had2 kn hl2 H hk2=>?_
         have hGk:G (op-i)=(bst (sumAt S) (S.length-1) g (dn+(op-i)) (2*i)).map (·.1):=by
          rw [←hG]
          simp only
          rw [show op-(op-i)=i by omega]
         generalize hb2:bst (sumAt S) (S.length-1) g (dn+(op-i)) (2*i)=b2 at*
         refine⟨_,_,_,_,rfl,MS.alloc H fun w17 b9 H=>best_sto H 3 (y:=(0,0,false,false)) rfl (bo b2 kn) fun w21 H=>Sx.drew H fun w22 _ H=>?_⟩
         have hsum:(i64s (nats S)).toArray[dn]? =some (.int .i64 ((sumAt S dn:Nat):Int)):=by
          have hdl:dn<S.length:=by omega
          rw [List.getElem?_toArray]
          refine i64s_get (nats_get ?_)
          rw [sumAt,List.getD_eq_getElem?_getD,List.getElem?_eq_getElem hdl];rfl
         refine⟨_,Sx.cell H 3 rfl rfl,OSome.i ⟨_,_,_,Sx.cell H 0 rfl rfl,_,by rw [A0_add];exact Sx.cell H 6 rfl rfl,by omega,by omega,OSome.i ⟨_,by rw [A0_add,Int.toNat_natCast,Nat.mul_one];exact Sx.cell H 1 rfl hsum,_,by rw [A0_add];exact Sx.cell H 3 rfl rfl,?_⟩⟩⟩
         have hnext:∀(w:World) (y:Be),y=bo (accD G (sumAt S dn) op (i+1)) true→Sx M w0 w (.ob bm (.cells #[.slice (some (A0 bs)) S.length S.length,.int .i64 (lim:Int),.slice (some (A0 bh)) had2.length had2.length] t_merge_maker (0,0)):: .ob bs (.cells (i64s (nats S)).toArray t_int (0,0)):: .ob bh (.cells (bes had2).toArray t_merge_best (0,0))::
          .ob b9 (.cells (be4 (bo b2 kn)).toArray t_merge_best (0,0)):: .ob b7 (.cells (be4 y).toArray t_merge_best (0,0)):: .ob b4 (.cells (be4 (0,0,false,false)).toArray t_merge_best (0,0)):: .ob b3 (.cells #[.int .i64 (d:Int),.int .i64 (dn:Int),.int .i64 (op:Int)] t_merge_node (0,0))::L)→
          ∃m_3,m_3<m∧∃(i':Nat) (had':List Be),(op:Int)-((i+1:Nat):Int)=(op:Int)-(i':Int)∧m_3+i'=op+1∧had'.length=had.length∧hadOk S lim had'∧
          MS M w0 w (.ob b7 (.cells (be4 (bo (accD G (sumAt S dn) op i') true)).toArray t_merge_best (0,0)):: .ob b4 (.cells (be4 (0,0,false,false)).toArray t_merge_best (0,0)):: .ob b3 (.cells #[.int .i64 (d:Int),.int .i64 (dn:Int),.int .i64 (op:Int)] t_merge_node (0,0))::L) bm bs bh S lim had':=by
          intro w y hy H
          refine⟨m-1,by omega,i+1,had2,rfl,by omega,by rw [hl2,hlen'],hk2,?_⟩
          rw [←hy]
          exact MS.tail H
         have hacc:accD G (sumAt S dn) op (i+1)=match G (op-i)with
          |none=>accD G (sumAt S dn) op i
          |some c=>match accD G (sumAt S dn) op i with
           |none=>some (c+sumAt S dn,op-i)
           |some (c0,k0)=>if c+sumAt S dn<c0 then some (c+sumAt S dn,op-i)else some (c0,k0):=rfl
         have hsb:=hSb dn
         cases b2 with
         |none=>
          rw [hGk]at hacc
          exact bif_f rfl (hnext w22 _ (by rw [hacc];rfl) H)
         |some ck=>
          obtain⟨c,k⟩:=ck
          rw [hGk]at hacc
          have hcb:c≤g*1000000:=(bst_bound hSb hb2).1
          have hg16:g*1000000≤16*1000000:=Nat.mul_le_mul_right _ (by omega)
          have a6:W64 ((c:Int)+((sumAt S dn:Nat):Int))=((c+sumAt S dn:Nat):Int):=W64_idn (by omega) (by omega)
          have e1:(bo (some (c,k)) kn).1=(c:Int):=rfl
          refine bif_t rfl ⟨_,by rw [A0_add];exact Sx.cell H 4 rfl rfl,?_⟩
          rw [e1,a6]
          cases hac:accD G (sumAt S dn) op i with
          |none=>
           rw [hac]at H hacc
           refine bif_t rfl (best_sto H 4 (y:=(0,0,false,true)) rfl (((c+sumAt S dn:Nat):Int),((op-i:Nat):Int),true,true) fun w26 H=>hnext w26 _ (by rw [hacc];rfl) H)
          |some ck0=>
           obtain⟨c0,k0⟩:=ck0
           rw [hac]at H hacc
           refine bif_f rfl ⟨_,Sx.cell H 4 rfl rfl,bif_i (fun h7=>?_) fun h7=>?_⟩
           · have h7':c+sumAt S dn<c0:=by have:((c+sumAt S dn:Nat):Int)<(c0:Int):=of_decide_eq_true h7;omega
             refine best_sto H 4 (y:=bo (some (c0,k0)) true) rfl (((c+sumAt S dn:Nat):Int),((op-i:Nat):Int),true,true) fun w26 H=>hnext w26 _ (by rw [hacc];simp only [Option.map_some];rw [if_pos h7'];rfl) H
           · have h7':¬c+sumAt S dn<c0:=by have:¬((c+sumAt S dn:Nat):Int)<(c0:Int):=of_decide_eq_false h7;omega
             refine hnext w22 _ (by rw [hacc];simp only [Option.map_some];rw [if_neg h7']) H
       · have hi:i=op+1:=by have:=of_decide_eq_false h5;omega
         subst hi
         rw [←hbst]at H
         refine Sx.drew H fun w31 _ H=>OSome.i ⟨_,_,_,by rw [A0_add];exact Sx.cell H 0 rfl rfl,_,_,_,Sx.ld H 5 rfl,_,_,_,_,Sx.ld H 3 rfl,?_⟩
         refine(T_merge_maker_at H d dn op (by omega) (by omega) (by omega) (by omega)).mono ?_
         rintro e w32 ⟨rfl,hf32⟩
         have H:=Sx.call0 H hf32
         refine⟨_,rfl,⟨hf32.cell0,hf32.cell0,hf32.cell0,hf32.cell0,hf32.cell0,trivial⟩,by omega,?_,OSome.i ?_⟩
         · rw [hlen',hk.1];exact_mod_cast hix
         have hix2:ixOf S.length d dn op<had'.length:=by rw [hk'.1];exact hix
         have hsz:((bes had').toArray).size=had'.length*4:=by simp [bes_len]
         simp only [A0_add,Int.toNat_natCast]
         show Sto w32 ⟨bh,ixOf S.length d dn op*4,none⟩ _ _
         refine Sx.sto H 2 rfl (by rw [hsz];omega) fun w33 _ H=>?_
         refine Sx.sto H 2 rfl (i:=ixOf S.length d dn op*4+1) (by rw [Array.size_setIfInBounds,hsz];omega) fun w34 _ H=>?_
         refine Sx.sto H 2 rfl (i:=ixOf S.length d dn op*4+2) (by rw [Array.size_setIfInBounds,Array.size_setIfInBounds,hsz];omega) fun w35 _ H=>?_
         refine Sx.sto H 2 rfl (i:=ixOf S.length d dn op*4+3) (by rw [Array.size_setIfInBounds,Array.size_setIfInBounds,Array.size_setIfInBounds,hsz];omega) fun w36 _ H=>?_
         have hk3:=hk'.set (d:=d) (dn:=dn) (op:=op) h3' (by omega) (by omega)
         rw [show lim+1-d=g+1 by omega]at hk3
         have e:=bes_set had' (ixOf S.length d dn op) (bo (bst (sumAt S) (S.length-1) (g+1) dn op) true)
         have H':Sx M w0 w36 (.ob bm (.cells #[.slice (some (A0 bs)) S.length S.length,.int .i64 (lim:Int),.slice (some (A0 bh)) had'.length had'.length] t_merge_maker (0,0)):: .ob bs (.cells (i64s (nats S)).toArray t_int (0,0))::
          .ob bh (.cells (((((bes had').toArray.setIfInBounds (ixOf S.length d dn op*4) (.int .i64 (bo (bst (sumAt S) (S.length-1) (g+1) dn op) true).1)).setIfInBounds (ixOf S.length d dn op*4+1) (.int .i64 (bo (bst (sumAt S) (S.length-1) (g+1) dn op) true).2.1)).setIfInBounds (ixOf S.length d dn op*4+2) (.bool (bo (bst (sumAt S) (S.length-1) (g+1) dn op) true).2.2.1)).setIfInBounds (ixOf S.length d dn op*4+3) (.bool (bo (bst (sumAt S) (S.length-1) (g+1) dn op) true).2.2.2)) t_merge_best (0,0))::
          .ob b7 (.cells (be4 (bo (bst (sumAt S) (S.length-1) (g+1) dn op) true)).toArray t_merge_best (0,0)):: .ob b4 (.cells (be4 (0,0,false,false)).toArray t_merge_best (0,0)):: .ob b3 (.cells #[.int .i64 (d:Int),.int .i64 (dn:Int),.int .i64 (op:Int)] t_merge_node (0,0))::L):=H
         rw [List.setIfInBounds_toArray,List.setIfInBounds_toArray,List.setIfInBounds_toArray,List.setIfInBounds_toArray,e]at H'
         refine⟨trivial,_,_,_,_,Sx.ld H' 3 rfl,?_⟩
         refine out w36 (had'.set (ixOf S.length d dn op) (bo (bst (sumAt S) (S.length-1) (g+1) dn op) true)) (bo (bst (sumAt S) (S.length-1) (g+1) dn op) true) true rfl (by rw [List.length_set,hlen']) hk3 ?_
         have H2:Sx M w0 w36 (.ob bm (.cells #[.slice (some (A0 bs)) S.length S.length,.int .i64 (lim:Int),.slice (some (A0 bh)) had'.length had'.length] t_merge_maker (0,0))::_):=H'
         have hlz:(had'.set (ixOf S.length d dn op) (bo (bst (sumAt S) (S.length-1) (g+1) dn op) true)).length=had'.length:=by simp
         rw [←hlz]at H2
         exact MS.tail H2
    have hixl:ixOf S.length d dn op<had.length:=by rw [hk.1];exact hix
    obtain⟨u,hu⟩:∃u,had[ixOf S.length d dn op]? =some u:=⟨_,List.getElem?_eq_getElem hixl⟩
    have hat:0≤((((d*S.length+dn)*S.length+op:Nat)):Int)∧((((d*S.length+dn)*S.length+op:Nat)):Int)<((had.length:Nat):Int):=⟨by omega,by exact_mod_cast hixl⟩
    have hget:∀j v,(be4 u)[j]? =some v→(bes had).toArray[ixOf S.length d dn op*4+j]? =some v:=fun j v hv=>by rw [List.getElem?_toArray];exact bes_get hu j v hv
    have hld:∀(w5:World) (L':List En),Sx M w0 w5 (.ob bm (.cells #[.slice (some (A0 bs)) S.length S.length,.int .i64 (lim:Int),.slice (some (A0 bh)) had.length had.length] t_merge_maker (0,0)):: .ob bs (.cells (i64s (nats S)).toArray t_int (0,0)):: .ob bh (.cells (bes had).toArray t_merge_best (0,0))::L')→
     LdL w5 ((A0 bh).add (Int.toNat ((((d*S.length+dn)*S.length+op:Nat)):Int)*4)) 0 (be4 u):=by
     intro w5 L' H
     refine ldL_of fun j v hj=>?_
     rw [Int.toNat_natCast,add_add,A0_add,Nat.zero_add]
     exact Sx.cell H 2 rfl (hget j v hj)
    refine Sx.drew H fun w41 _ H=>OSome.i ⟨_,_,_,by rw [A0_add];exact Sx.cell H 0 rfl rfl,_,_,_,Sx.ld H 4 rfl,?_,?_⟩
    · refine(T_merge_maker_at H d dn op (by omega) (by omega) (by omega) (by omega)).mono ?_
      rintro e w42 ⟨rfl,hf42⟩
      have H:=Sx.call0 H hf42
      refine⟨_,rfl,⟨hf42.cell0,trivial⟩,hat.1,hat.2,OSome.i ⟨_,_,_,_,hld w42 _ H,?_⟩⟩
      refine Sx.alloc H fun w43 b6 hf43 H=>⟨⟨hf43.cell0,hf43.cell0,hf43.cell0,hf43.cell0,hf43.cell0,hf43.cell0,hf43.cell0,hf43.cell0,trivial⟩,?_⟩
      have H:MS M w0 w43 (.ob b6 (.cells (be4 (0,0,false,false)).toArray t_merge_best (0,0)):: .ob b4 (.cells (be4 (0,0,false,false)).toArray t_merge_best (0,0)):: .ob b3 (.cells #[.int .i64 (d:Int),.int .i64 (dn:Int),.int .i64 (op:Int)] t_merge_node (0,0))::L) bm bs bh S lim had:=
       H.perm ((List.Perm.swap _ _ _).trans (.cons _ ((List.Perm.swap _ _ _).trans (.cons _ (.swap _ _ _)))))
      exact best_sto H 3 (y:=(0,0,false,false)) rfl u fun w47 H=>⟨trivial,known w47 b6 u hu H⟩
    · refine Sx.alloc H fun w48 b6 hf48 H=>⟨⟨hf48.cell0,hf48.cell0,hf48.cell0,hf48.cell0,trivial⟩,?_⟩
      have H:MS M w0 w48 (.ob b6 (.cells (be4 (0,0,false,false)).toArray t_merge_best (0,0)):: .ob b4 (.cells (be4 (0,0,false,false)).toArray t_merge_best (0,0)):: .ob b3 (.cells #[.int .i64 (d:Int),.int .i64 (dn:Int),.int .i64 (op:Int)] t_merge_node (0,0))::L) bm bs bh S lim had:=
       H.perm ((List.Perm.swap _ _ _).trans (.cons _ ((List.Perm.swap _ _ _).trans (.cons _ (.swap _ _ _)))))
      refine(T_merge_maker_at H d dn op (by omega) (by omega) (by omega) (by omega)).mono ?_
      rintro e w49 ⟨rfl,hf49⟩
      have H:=MS.call0 H hf49
      refine⟨_,rfl,⟨hf49.cell0,trivial⟩,hat.1,hat.2,OSome.i ⟨_,_,_,_,hld w49 _ H,?_⟩⟩
      exact best_sto H 3 (y:=(0,0,false,false)) rfl u fun w47 H=>⟨trivial,known w47 b6 u hu H⟩
 refine bif_i (fun h1=>⟨_,by rw [A0_add];exact Sx.cell H 4 rfl rfl,split _ ?_⟩) fun h1=>split false ?_
 · have h1':S.length-1-dn=0:=by have:=eq_of_beq h1;omega
   by_cases e:op=0
   · rw [decide_eq_true (by omega)];subst e;rfl
   · rw [decide_eq_false (by omega)];simp;omega
 · have h1':S.length-1-dn≠0:=by have:=ne_of_beq_false h1;omega
   rw [decide_eq_false (by omega)]
end Go.Proofs.Tryz
namespace Go.Proofs.Tryz
open Go Go.RowKit Go.Proofs.VC
def ordN (freq:List Nat):List Nat:=(orderN (nats freq)).map Int.toNat
theorem prsF_nat:∀(k:Nat) (l:List Nat),∀p∈prsF k (nats l),∃i:Nat,i<l.length∧p.1=((k+i:Nat):Int)∧p.2=((l.getD i 0:Nat):Int)∧0<l.getD i 0
 |k,[],p,h=>by simp [nats,prsF]at h
 |k,n::l,p,h=>by
  have e:nats (n::l)=(n:Int)::nats l:=rfl
  rw [e,prsF]at h
  have tail:p∈prsF (k+1) (nats l)→∃i:Nat,i<(n::l).length∧p.1=((k+i:Nat):Int)∧p.2=(((n::l).getD i 0:Nat):Int)∧0<(n::l).getD i 0:=fun h=>by
   obtain⟨i,h1,h2,h3,h4⟩:=prsF_nat (k+1) l p h
   exact⟨i+1,by simp;omega,by rw [h2];omega,by simpa using h3,by simpa using h4⟩
  split at h
  · rename_i h0
    rcases List.mem_cons.1 h with rfl|h
    · exact⟨0,by simp,by simp,by simp,by simp;omega⟩
    · exact tail h
  · exact tail h
theorem ordN_mem {freq:List Nat} {c:Nat} (h:c∈ordN freq):c<freq.length∧0<freq.getD c 0:=by
 simp only [ordN,orderN,orderP,List.mem_map]at h
 obtain⟨x,⟨p,hp,rfl⟩,rfl⟩:=h
 rw [List.mem_mergeSort]at hp
 obtain⟨i,h1,h2,h3,h4⟩:=prsF_nat 0 freq p hp
 rw [h2]
 simp only [Nat.zero_add,Int.toNat_natCast]
 exact⟨h1,h4⟩
theorem ordN_nats (freq:List Nat):nats (ordN freq)=orderN (nats freq):=by
 have:∀x∈orderN (nats freq),∃i:Nat,x=(i:Int):=by
  intro x hx
  simp only [orderN,orderP,List.mem_map]at hx
  obtain⟨p,hp,rfl⟩:=hx
  rw [List.mem_mergeSort]at hp
  obtain⟨i,h1,h2,h3,h4⟩:=prsF_nat 0 freq p hp
  exact⟨_,h2⟩
 have key:∀l:List Int,(∀x∈l,∃i:Nat,x=(i:Int))→(l.map Int.toNat).map (fun(n:Nat)=>(n:Int))=l:=by
  intro l
  induction l with
  |nil=>intro _;rfl
  |cons x l ih=>
   intro this
   obtain⟨i,hi⟩:=this x (by simp)
   simp only [List.map_cons]
   rw [ih fun y hy=>this y (by simp [hy]),hi,Int.toNat_natCast]
 exact key _ this
theorem ordN_len (freq:List Nat):(ordN freq).length≤freq.length:=by
 have h:=prsF_len 0 (nats freq)
 rw [nats_len]at h
 simpa [ordN,orderN,orderP]using h
def sufS (fs:List Nat) (k:Nat):List Nat:=(List.range (fs.length+1)).map fun i=>if fs.length-k≤i then(fs.drop i).sum else 0
theorem sufS_len (fs:List Nat) (k:Nat):(sufS fs k).length=fs.length+1:=by simp [sufS]
theorem sufS_at {fs:List Nat} {k i:Nat} (hi:i≤fs.length):(sufS fs k)[i]? =some (if fs.length-k≤i then(fs.drop i).sum else 0):=by
 simp [sufS,List.getElem?_range (show i<fs.length+1 by omega)]
theorem sufS_zero (fs:List Nat):sufS fs 0=List.replicate (fs.length+1) 0:=by
 apply List.ext_getElem?
 intro i
 by_cases hi:i≤fs.length
 · rw [sufS_at hi,List.getElem?_replicate,if_pos (show i<fs.length+1 by omega)]
   split
   · rw [List.drop_of_length_le (by omega)];rfl
   · rfl
 · rw [List.getElem?_eq_none (by rw [sufS_len];omega),List.getElem?_eq_none (by simp;omega)]
theorem sufS_step {fs:List Nat} {k:Nat} (hk:k<fs.length):(sufS fs k).set (fs.length-1-k) ((fs.drop (fs.length-1-k+1)).sum+fs.getD (fs.length-1-k) 0)=sufS fs (k+1):=by
 apply List.ext_getElem?
 intro i
 by_cases hi:i≤fs.length
 · rw [List.getElem?_set,sufS_at hi,sufS_at hi,sufS_len]
   split
   · rename_i e
     subst e
     rw [if_pos (by omega),if_pos (by omega)]
     have hl:fs.length-1-k<fs.length:=by omega
     rw [←List.getElem_cons_drop hl,List.sum_cons,List.getD_eq_getElem?_getD,List.getElem?_eq_getElem hl,Nat.add_comm];rfl
   · rename_i e
     by_cases h1:fs.length-k≤i
     · rw [if_pos h1,if_pos (by omega)]
     · rw [if_neg h1,if_neg (by omega)]
 · rw [List.getElem?_eq_none (by rw [List.length_set,sufS_len];omega),List.getElem?_eq_none (by rw [sufS_len];omega)]
def setAll (out:List Nat) (cs:List Nat) (v:Nat):List Nat:=cs.foldl (fun o c=>o.set c v) out
theorem setAll_len (cs:List Nat) (v:Nat):∀out:List Nat,(setAll out cs v).length=out.length:=by
 induction cs with
 |nil=>intro out;rfl
 |cons c cs ih=>intro out;show(setAll (out.set c v) cs v).length=_;rw [ih,List.length_set]
theorem setAll_snoc (out cs:List Nat) (c v:Nat):setAll out (cs++ [c]) v=(setAll out cs v).set c v:=by simp [setAll]
def lensW (S:Nat→Nat) (ord:List Nat):Nat→Nat→Nat→Nat→List Nat→List Nat
 |0,_,_,_,out=>out
 |f+1,d,dn,op,out=>if ord.length≤dn then out else match bst S ord.length (f+1) dn op with
  |none=>out
  |some (_,k)=>lensW S ord f (d+1) (dn+k) (2*(op-k)) (setAll out ((ord.drop dn).take k) d)
def freqsOf (freq:List Nat):List Nat:=(ordN freq).map fun c=>freq.getD c 0
def lengthsN (freq:List Nat) (lim:Nat):List Nat:=
 if (ordN freq).length=1 then(List.replicate 65 0).set ((ordN freq).getD 0 0) 1 else if (ordN freq).length<2 then List.replicate 65 0
 else lensW (sumAt (sufS (freqsOf freq) (freqsOf freq).length)) (ordN freq) lim 1 0 2 (List.replicate 65 0)
theorem drop_sum_le (l:List Nat) (i:Nat):(l.drop i).sum≤l.sum:=by
 induction l generalizing i with
 |nil=>simp
 |cons x l ih=>
  cases i with
  |zero=>simp
  |succ i=>have:=ih i;simp only [List.drop_succ_cons,List.sum_cons];omega
theorem sufS_le (fs:List Nat) (k i:Nat):sumAt (sufS fs k) i≤fs.sum:=by
 rw [sumAt,List.getD_eq_getElem?_getD]
 by_cases hi:i≤fs.length
 · rw [sufS_at hi]
   simp only [Option.getD_some]
   split
   · exact drop_sum_le fs i
   · exact Nat.zero_le _
 · rw [List.getElem?_eq_none (by rw [sufS_len];omega)];simp
theorem freqs_sum (freq:List Nat):(freqsOf freq).sum≤freq.sum:=by
 have h1:(freqsOf freq).sum=((prsF 0 (nats freq)).map fun p=>freq.getD p.1.toNat 0).sum:=by
  rw [freqsOf,ordN,orderN,List.map_map,List.map_map,orderP]
  exact sum_perm (List.mergeSort_perm _ _) _
 have h2:∀(l:List Nat) (k:Nat) (g:Nat→Nat),(∀i,i<l.length→g (k+i)=l.getD i 0)→((prsF k (nats l)).map fun p=>g p.1.toNat).sum≤l.sum:=by
  intro l
  induction l with
  |nil=>intro k g _;simp [nats,prsF]
  |cons n l ih=>
   intro k g hg
   have e:nats (n::l)=(n:Int)::nats l:=rfl
   have h0:=hg 0 (by simp)
   have:=ih (k+1) g fun i hi=>by
    have:=hg (i+1) (by simp;omega)
    rw [show k+1+i=k+(i+1) by omega,this];simp
   rw [e,prsF]
   split
   · simp only [List.map_cons,List.sum_cons,Int.toNat_natCast]
     simp at h0
     omega
   · simp only [List.sum_cons];omega
 rw [h1]
 exact h2 freq 0 (fun c=>freq.getD c 0) fun i hi=>by rw [Nat.zero_add]
theorem mk_best (n:Nat):mkCells TAB t_merge_best n=(bes (List.replicate n (0,0,false,false))).toArray:=by
 apply Array.ext'
 show(List.range (n*4)).map (fun i=>(([Value.int .i64 0,Value.int .i64 0,Value.bool false,Value.bool false]:List Value)[i%4]?).getD default)=_
 apply List.ext_getElem?
 intro i
 by_cases hi:i<n*4
 · obtain⟨q,r,hr,rfl⟩:∃q r,r<4∧i=q*4+r:=⟨i/4,i%4,Nat.mod_lt _ (by decide),by omega⟩
   have hq:q<n:=by omega
   have hu:(List.replicate n ((0,0,false,false):Be))[q]? =some (0,0,false,false):=by simp [hq]
   have hm:(q*4+r)%4=r:=by omega
   rw [List.getElem?_map,List.getElem?_range hi,Option.map_some,hm]
   have:r=0∨r=1∨r=2∨r=3:=by omega
   rcases this with rfl|rfl|rfl|rfl
   · exact(bes_get hu 0 _ rfl).symm
   · exact(bes_get hu 1 _ rfl).symm
   · exact(bes_get hu 2 _ rfl).symm
   · exact(bes_get hu 3 _ rfl).symm
 · rw [List.getElem?_eq_none (by simp;omega),List.getElem?_eq_none (by show(bes _).length≤i;rw [bes_len,List.length_replicate];omega)]
end Go.Proofs.Tryz
namespace Go.Proofs.Tryz
open Go Go.RowKit Go.Proofs.VC
variable {M:List Nat} {w0 w:World} {L:List En}
theorem Sx.lt (H:Sx M w0 w L) {x:En} (hx:x∈L) {b:Nat} (hb:x.blk=some b):b<w.heap.size:=(H.own x hx).lt hb
set_option maxHeartbeats 2000000 in
theorem T_merge_Lengths (a:Option Addr) (n c:Nat) (freq:List Nat) (lim:Nat) (w:World) (hs:SlI w a n (nats freq)) (h65:freq.length=65) (hb:∀x∈freq,x≤16777216) (hsum:freq.sum≤1000000) (hl:7≤lim∧lim≤15):
 Calls prog n_merge_Lengths #[.slice a n c,.int .i64 (lim:Int)] w fun e w'=>∃b,e= .returned (.tuple #[.slice (some (A0 b)) 65 65,.int .i64 0])∧Sx [] w w' [.ob b (.cells (i64s (nats (lengthsN freq lim))).toArray t_int (0,0))]:=by
 refine S_merge_Lengths ?_
 unfold F_merge_Lengths
 refine(Sx.start [] w).alloc fun w1 b2 hf1 H=>⟨_,_,_,H.cell 0 rfl rfl,?_⟩
 have hs1:SlI w1 a n (nats freq):=hs.fr0 hf1
 refine Calls.sx H (T_merge_may a n c freq lim w1 hs1 h65 hb hl) fun w2 hf2 H=>⟨_,rfl,bif_f rfl ⟨by decide,by decide,by decide,?_⟩⟩
 refine H.alloc fun w3 b20 hf3 H=>⟨_,_,_,H.cell 1 rfl rfl,?_⟩
 rw [mk_int]at H
 have hs3:SlI w3 a n (nats freq):=(hs1.fr0 hf2).fr0 hf3
 refine(T_hist_Order a n c (nats freq) w3 hs3 (by rw [nats_len];omega)).mono ?_
 rintro e w4 ⟨ao,co,rfl,hOw,hf4⟩
 have H:=hOw.push H hf4
 rw [←ordN_nats,nats_len]at H ⊢
 have hordm:=fun c (h:c∈ordN freq)=>ordN_mem h
 have hord65:(ordN freq).length≤65:=by have:=ordN_len freq;omega
 have hS1M:∀i,sumAt (sufS (freqsOf freq) (freqsOf freq).length) i≤1000000:=fun i=>Nat.le_trans (sufS_le _ _ _) (Nat.le_trans (freqs_sum freq) hsum)
 have hflen:(freqsOf freq).length=(ordN freq).length:=by simp [freqsOf]
 have hlen:lengthsN freq lim=if (ordN freq).length=1 then(List.replicate 65 0).set ((ordN freq).getD 0 0) 1 else if (ordN freq).length<2 then List.replicate 65 0
  else lensW (sumAt (sufS (freqsOf freq) (freqsOf freq).length)) (ordN freq) lim 1 0 2 (List.replicate 65 0):=rfl
 have hfr:∀i,i<(ordN freq).length→(freqsOf freq).getD i 0=freq.getD ((ordN freq).getD i 0) 0:=by
  intro i hi
  rw [freqsOf,List.getD_eq_getElem?_getD,List.getElem?_map,List.getElem?_eq_getElem hi,List.getD_eq_getElem?_getD (l:=ordN freq),List.getElem?_eq_getElem hi];rfl
 generalize hordE:ordN freq=ord at*
 generalize hfsE:freqsOf freq=fs at*
 have hz:(List.replicate 65 (0:Int))=nats (List.replicate 65 0):=by simp [nats]
 have hz2:List.replicate (Int.toNat 65) (0:Int)=nats (List.replicate 65 0):=hz
 rw [hz2]at H
 refine⟨_,_,_,rfl,?_⟩
 intro J7 hJ7
 have j7:∀(w5:World) (out:List Nat),(out=if ord.length=1 then(List.replicate 65 0).set (ord.getD 0 0) 1 else List.replicate 65 0)→
  Sx [] w w5 [.ow t_int 1 ao ord.length co (i64s (nats ord)),.ob b20 (.cells (i64s (nats out)).toArray t_int (0,0)),.ob b2 (.cells #[.slice a n c] t_S_int (0,0))]→J7 w5:=by
  intro w5 out hout H
  refine hJ7 w5 (bif_i (fun h2=>?_) fun h2=>?_)
  · have h2':ord.length<2:=by have:=of_decide_eq_true h2;omega
    refine⟨b20,rfl,?_⟩
    have e:lengthsN freq lim=out:=by
     rw [hlen,hout]
     by_cases e1:ord.length=1
     · rw [if_pos e1,if_pos e1]
     · rw [if_neg e1,if_neg e1,if_pos h2']
    rw [e]
    exact(H.front 1 rfl).sub (.cons_cons _ (List.nil_sublist _))
  · have h2':2≤ord.length:=by have:=of_decide_eq_false h2;omega
    have hne1:ord.length≠1:=by omega
    rw [if_neg hne1]at hout
    subst hout
    rw [if_neg hne1,if_neg (by omega)]at hlen
    obtain⟨po,hpo⟩:∃p,ao=some p:=by
     cases hao:ao with
     |some p=>exact⟨p,rfl⟩
     |none=>
      rw [hao]at H
      have:=(H.none 0 rfl).1
      omega
    subst hpo
    intro J11 hJ11
    have fin:∀(w6:World) (b9 b49 b39 b47:Nat),Sx [] w w6 [.ob b49 (.cells #[.slice (some (A0 b39)) (ord.length+1) (ord.length+1),.int .i64 (lim:Int),.slice (some (A0 b47)) ((lim+2)*(ord.length+1)*(ord.length+1)) ((lim+2)*(ord.length+1)*(ord.length+1))] t_merge_maker (0,0)),
     .ob b39 (.cells (i64s (nats (List.replicate (ord.length+1) 0))).toArray t_int (0,0)),.ob b47 (.cells (bes (List.replicate ((lim+2)*(ord.length+1)*(ord.length+1)) (0,0,false,false))).toArray t_merge_best (0,0)),
     .ob b9 (.cells #[.pointer (some (A0 b49))] t_P_merge_maker (0,0)),.ow t_int 1 (some po) ord.length co (i64s (nats ord)),.ob b20 (.cells (i64s (nats (List.replicate 65 0))).toArray t_int (0,0)),.ob b2 (.cells #[.slice a n c] t_S_int (0,0))]→J11 (A0 b9) w6:=by
     intro w6 b9 b49 b39 b47 H
     refine hJ11 _ _ (T_slices_Backward_int H fun w7 bx hf7 H=>⟨_,_,_,rfl,bif_t (by decide) ?_⟩)
     have H7:Sx [] w w7 ([.ob b39 (.cells (i64s (nats (List.replicate (ord.length+1) 0))).toArray t_int (0,0))]++ [.ob bx (.cells #[.slice (some po) ord.length co] t_S_int (0,0)),.ob b49 (.cells #[.slice (some (A0 b39)) (ord.length+1) (ord.length+1),.int .i64 (lim:Int),.slice (some (A0 b47)) ((lim+2)*(ord.length+1)*(ord.length+1)) ((lim+2)*(ord.length+1)*(ord.length+1))] t_merge_maker (0,0)),
      .ob b47 (.cells (bes (List.replicate ((lim+2)*(ord.length+1)*(ord.length+1)) (0,0,false,false))).toArray t_merge_best (0,0)),
      .ob b9 (.cells #[.pointer (some (A0 b49))] t_P_merge_maker (0,0)),.ow t_int 1 (some po) ord.length co (i64s (nats ord)),.ob b20 (.cells (i64s (nats (List.replicate 65 0))).toArray t_int (0,0)),.ob b2 (.cells #[.slice a n c] t_S_int (0,0))]):=H.front 2 rfl
     rw [←hflen,←sufS_zero]at H7
     rw [hflen]at H7
     generalize hLr: [En.ob bx (.cells #[.slice (some po) ord.length co] t_S_int (0,0)),.ob b49 (.cells #[.slice (some (A0 b39)) (ord.length+1) (ord.length+1),.int .i64 (lim:Int),.slice (some (A0 b47)) ((lim+2)*(ord.length+1)*(ord.length+1)) ((lim+2)*(ord.length+1)*(ord.length+1))] t_merge_maker (0,0)),
      .ob b47 (.cells (bes (List.replicate ((lim+2)*(ord.length+1)*(ord.length+1)) (0,0,false,false))).toArray t_merge_best (0,0)),
      .ob b9 (.cells #[.pointer (some (A0 b49))] t_P_merge_maker (0,0)),.ow t_int 1 (some po) ord.length co (i64s (nats ord)),.ob b20 (.cells (i64s (nats (List.replicate 65 0))).toArray t_int (0,0)),.ob b2 (.cells #[.slice a n c] t_S_int (0,0))]=Lr at H7
     have hordr:∀(w:World),Sl w (some po) (i64s (nats ord))→∀j,j<ord.length→w.cell? (po.add j)=some (.int .i64 ((ord.getD j 0:Nat):Int)):=by
      intro w hsl j hj
      obtain⟨p,hp,hc⟩:=hsl j _ (i64s_get (nats_get (List.getElem?_eq_getElem hj)))
      cases hp
      rw [hc,List.getD_eq_getElem?_getD,List.getElem?_eq_getElem hj];rfl
     have hown:∀k,OwnF w7.heap.size (fun W=>Sx [] w W ([.ob b39 (.cells (i64s (nats (sufS fs k))).toArray t_int (0,0))]++Lr)):=fun k=>by
      refine Sx.ownF H7.fr.size fun b o hbo=> .inl ?_
      rcases List.mem_append.1 hbo with hbo|hbo
      · simp at hbo
        rw [hbo.1]
        exact Sx.lt H7 (List.mem_append_left _ (List.mem_singleton_self _)) rfl
      · exact Sx.lt H7 (List.mem_append_right _ hbo) rfl
     refine⟨ord.length,fun k=>(((ord.length-1-k:Nat):Int),((ord.getD (ord.length-1-k) 0:Nat):Int)),fun k W=>Sx [] w W ([.ob b39 (.cells (i64s (nats (sufS fs k))).toArray t_int (0,0))]++Lr),fun _=>False,KpC (atBack (A0 bx) po ord.length),?_,?_,?_,fun _ _ _ h=>h.elim⟩
     · refine⟨?_,fun k=>rfl,KpC.trans,fun W l o o' hl ho hoc=>KpC.put o' ho hoc,hown,OwnF.no,H7⟩
       · exact seq_back_int (A0 bx) po ord.length co (fun j=>((ord.getD j 0:Nat):Int)) (by omega) w7 (H.cell 0 rfl rfl) (hordr w7 (H.slw 5 rfl))
     · intro k hk w8 H8
       refine⟨KeepsFrom.refl _ _,fun _ _ _ h=>h,_,hown k,H8,fun w9 H9=>?_⟩
       subst hLr
       have Hs9:=Sx.re (H9.sub (List.sublist_append_left _ _))
       refine Sx.drew H9 fun w10 hf10 H10=>?_
       have Hs10:=Hs9.call0 hf10
       have hn65:n=65:=by rw [hs.1,nats_len,h65]
       have hi:ord.length-1-k<ord.length:=by omega
       have a1:W64 (((ord.length-1-k:Nat):Int)+1)=((ord.length-1-k+1:Nat):Int):=W64_succ (by omega)
       have hcm:=hordm _ (List.getElem_mem hi)
       have hcg:ord.getD (ord.length-1-k) 0=ord[ord.length-1-k]:=by rw [List.getD_eq_getElem?_getD,List.getElem?_eq_getElem hi];rfl
       have hsum1:(i64s (nats (sufS fs k))).toArray[ord.length-1-k+1]? =some (.int .i64 (((fs.drop (ord.length-1-k+1)).sum:Nat):Int)):=by
        rw [List.getElem?_toArray]
        refine i64s_get (nats_get ?_)
        rw [sufS_at (by omega),if_pos (by omega)]
       have hfrq:(nats freq)[ord.getD (ord.length-1-k) 0]? =some ((freq.getD (ord.getD (ord.length-1-k) 0) 0:Nat):Int):=by
        refine nats_get ?_
        rw [hcg,List.getD_eq_getElem?_getD,List.getElem?_eq_getElem hcm.1];rfl
       refine⟨_,H10.cell 4 rfl rfl,OSome.i ⟨_,_,_,H10.cell 2 rfl rfl,_,H10.cell 4 rfl rfl,OSome.i ⟨_,_,_,H10.cell 2 rfl rfl,?_⟩⟩⟩
       rw [a1]
       dsimp only
       refine⟨by omega,by omega,OSome.i ⟨_,by rw [A0_add,Int.toNat_natCast,Nat.mul_one];exact H10.cell 0 rfl hsum1,_,_,_,H10.cell 7 rfl rfl,by omega,?_,?_⟩⟩
       · rw [hcg,hn65];omega
       refine hs.2.read (i64s_get hfrq) fun p hp hc=>⟨_,by rw [Int.toNat_natCast,Nat.mul_one];exact H10.fr.cell0 hc,by omega,by omega,OSome.i ?_⟩
       rw [A0_add,Int.toNat_natCast,Nat.mul_one]
       have hfb:freq.getD (ord.getD (ord.length-1-k) 0) 0≤16777216:=by
        rw [hcg,List.getD_eq_getElem?_getD,List.getElem?_eq_getElem hcm.1]
        exact hb _ (List.getElem_mem hcm.1)
       have hdb:(fs.drop (ord.length-1-k+1)).sum≤1000000:=by
        refine Nat.le_trans (drop_sum_le _ _) ?_
        rw [←hfsE]
        exact Nat.le_trans (freqs_sum freq) hsum
       refine Hs10.sto 0 rfl (by simp [sufS_len,hflen];omega) fun w11 _ Hs11=>⟨trivial,?_,?_,?_⟩
       · exact Sx.keepsF H9 (fun b o hbo=> .inr (by simp at hbo;rw [hbo.2];rfl)) Hs11.fr
       · refine KpC.of_fr Hs11.fr fun q hq hm=>?_
         obtain⟨x,hx,hxb⟩:=mem_blks.1 hm
         simp at hx
         subst hx
         rcases hq with rfl|⟨j,_,rfl⟩
         · exact H9.ap (i:=0) (j:=1) (by decide) rfl rfl _ hxb rfl
         · rw [add_block]at hxb
           exact H9.ap (i:=0) (j:=5) (by decide) rfl rfl _ hxb rfl
       · have hstep:=sufS_step (fs:=fs) (k:=k) (by omega)
         rw [hflen,hfr _ hi]at hstep
         have Hn:=Sx.frame H9 Hs11
         have a2:W64 ((((fs.drop (ord.length-1-k+1)).sum:Nat):Int)+((freq.getD (ord.getD (ord.length-1-k) 0) 0:Nat):Int))=(((fs.drop (ord.length-1-k+1)).sum+freq.getD (ord.getD (ord.length-1-k) 0) 0:Nat):Int):=W64_idn (by push_cast;rfl) (by omega)
         have e:((i64s (nats (sufS fs k))).toArray.setIfInBounds (ord.length-1-k) (.int .i64 (W64 ((((fs.drop (ord.length-1-k+1)).sum:Nat):Int)+((freq.getD (ord.getD (ord.length-1-k) 0) 0:Nat):Int)))))=(i64s (nats (sufS fs (k+1)))).toArray:=by
          rw [a2,List.setIfInBounds_toArray,i64s_set,nats_set,hstep]
         rw [←e]
         exact Hn
     · intro D w12 hD H12 hDh
       subst hLr
       have hSl:(sufS fs ord.length).length=ord.length+1:=by rw [sufS_len,hflen]
       rw [hflen]at hlen hS1M
       have HD:=H12.push (x:= .ob D (.deferred (some []))) ⟨.inl (Nat.le_trans H7.fr.size hD),hDh⟩ (by
        intro b hb y hy hyb
        cases hb
        have:D<w7.heap.size:=by
         rcases List.mem_append.1 hy with hy|hy
         · simp at hy
           subst hy
           cases hyb
           exact Sx.lt H7 (List.mem_append_left _ (List.mem_singleton_self _)) rfl
         · exact Sx.lt H7 (List.mem_append_right _ hy) hyb
        omega)
       have HM:MS [] w w12 [.ob D (.deferred (some [])),.ob bx (.cells #[.slice (some po) ord.length co] t_S_int (0,0)),.ob b9 (.cells #[.pointer (some (A0 b49))] t_P_merge_maker (0,0)),.ow t_int 1 (some po) ord.length co (i64s (nats ord)),.ob b20 (.cells (i64s (nats (List.replicate 65 0))).toArray t_int (0,0)),.ob b2 (.cells #[.slice a n c] t_S_int (0,0))]
        b49 b39 b47 (sufS fs ord.length) lim (List.replicate ((lim+2)*(ord.length+1)*(ord.length+1)) (0,0,false,false)):=by
        unfold MS
        rw [hSl,List.length_replicate]
        exact((HD.front 4 rfl).front 2 rfl).front 4 rfl
       have hk0:hadOk (sufS fs ord.length) lim (List.replicate ((lim+2)*(ord.length+1)*(ord.length+1)) (0,0,false,false)):=by
        refine⟨by rw [hSl,List.length_replicate],fun d dn op _ _ _ u hu=> .inl ?_⟩
        rw [List.getElem?_replicate]at hu
        split at hu
        · cases hu;rfl
        · cases hu
       generalize hS:sufS fs ord.length=SS at*
       generalize List.replicate ((lim+2)*(ord.length+1)*(ord.length+1)) ((0,0,false,false):Be)=had0 at HM hk0
       refine MS.alloc HM fun w13 b12 H=>?_
       simp only [A0_add]
       refine Sx.sto H 3 rfl (by simp) fun w14 _ H=>Sx.sto H 3 rfl (by simp) fun w15 _ H=>Sx.sto H 3 rfl (by simp) fun w16 _ H=>?_
       refine⟨fun m x w17=>∃(bn f d dn op:Nat) (had:List Be) (out:List Nat),x=A0 bn∧m=f∧f+d=lim+1∧dn≤ord.length∧op≤200∧(∃ck,bst (sumAt SS) ord.length f dn op=some ck)∧out.length=65∧
        lensW (sumAt SS) ord f d dn op out=lensW (sumAt SS) ord lim 1 0 2 (List.replicate 65 0)∧hadOk SS lim had∧
        MS [] w w17 [.ob bn (.cells #[.int .i64 (d:Int),.int .i64 (dn:Int),.int .i64 (op:Int)] t_merge_node (0,0)),.ob D (.deferred (some [])),.ob bx (.cells #[.slice (some po) ord.length co] t_S_int (0,0)),.ob b9 (.cells #[.pointer (some (A0 b49))] t_P_merge_maker (0,0)),.ow t_int 1 (some po) ord.length co (i64s (nats ord)),.ob b20 (.cells (i64s (nats out)).toArray t_int (0,0)),.ob b2 (.cells #[.slice a n c] t_S_int (0,0))]
         b49 b39 b47 SS lim had,⟨lim,b12,lim,1,0,2,had0,_,rfl,rfl,rfl,Nat.zero_le _,by decide,?_,List.length_replicate,rfl,hk0,H⟩,?_⟩
       · have hpw:2^6≤2^(lim-1):=Nat.pow_le_pow_right (by decide) (by omega)
         have h64:(2:Nat)^6=64:=by decide
         have:=bst_may (S:=sumAt SS) (N:=ord.length) (f:=lim) (dn:=0) (op:=2) (Nat.zero_le _) (.inr ⟨by decide,by omega,by omega,by omega⟩)
         exact Option.ne_none_iff_exists'.1 this
       rintro m x w17 ⟨bn,f,d,dn,op,had,out,rfl,rfl,hfd,hdn,hop,⟨⟨cb,kb⟩,hbst⟩,hol,hw,hk,H⟩
       refine⟨_,by first|exact Sx.cell H 3 rfl rfl|(rw [A0_add];exact Sx.cell H 3 rfl rfl),bif_i (fun h5=>?_) fun h5=>?_⟩
       · have hdnl:dn<ord.length:=by have:=of_decide_eq_true h5;omega
         have h0:¬(dn=ord.length∧op=0):=by omega
         obtain⟨g,rfl⟩:∃g,m=g+1:=by
          cases m with
          |zero=>rw [bst,if_neg h0]at hbst;cases hbst
          |succ g=>exact⟨g,rfl⟩
         obtain⟨hop0,hopl,hkop,hnx⟩:=bst_next hbst h0
         have hwstep:lensW (sumAt SS) ord (g+1) d dn op out=lensW (sumAt SS) ord g (d+1) (dn+kb) (2*(op-kb)) (setAll out ((ord.drop dn).take kb) d):=by
          rw [lensW,if_neg (by omega),hbst]
         rw [hwstep]at hw
         have eN:SS.length-1=ord.length:=by omega
         refine⟨_,Sx.cell H 6 rfl rfl,_,_,_,Sx.ld H 3 rfl,?_⟩
         refine T_merge_maker_from (g+1) H (by omega) (by omega) hS1M hl.2 hk d dn op hfd (by omega) hop fun w18 had2 kn hl2 H hk2=>?_
         rw [eN,hbst]
         refine⟨_,_,_,_,rfl,MS.alloc H fun w19 b13 H=>best_sto H 3 (y:=(0,0,false,false)) rfl (bo (some (cb,kb)) kn) fun w23 H=>?_⟩
         have hcap:=Sx.cap H 8 rfl
         have a1:W64 ((dn:Int)+(kb:Int))=((dn+kb:Nat):Int):=W64_idn (by push_cast;rfl) (by omega)
         have e1:(bo (some (cb,kb)) kn).2.1=(kb:Int):=rfl
         refine⟨_,by first|exact Sx.cell H 4 rfl rfl|(rw [A0_add];exact Sx.cell H 4 rfl rfl),_,by first|exact Sx.cell H 4 rfl rfl|(rw [A0_add];exact Sx.cell H 4 rfl rfl),_,by first|exact Sx.cell H 3 rfl rfl|(rw [A0_add];exact Sx.cell H 3 rfl rfl),?_⟩
         rw [e1,a1,Int.toNat_natCast,Int.toNat_natCast]
         refine⟨by omega,by omega,by omega,by omega,?_⟩
         refine⟨fun m x w24=>∃j:Nat,x=(j:Int)∧m+j=kb∧MS [] w w24 [.ob b13 (.cells (be4 (bo (some (cb,kb)) kn)).toArray t_merge_best (0,0)),.ob bn (.cells #[.int .i64 (d:Int),.int .i64 (dn:Int),.int .i64 (op:Int)] t_merge_node (0,0)),.ob D (.deferred (some [])),.ob bx (.cells #[.slice (some po) ord.length co] t_S_int (0,0)),.ob b9 (.cells #[.pointer (some (A0 b49))] t_P_merge_maker (0,0)),.ow t_int 1 (some po) ord.length co (i64s (nats ord)),.ob b20 (.cells (i64s (nats (setAll out ((ord.drop dn).take j) d))).toArray t_int (0,0)),.ob b2 (.cells #[.slice a n c] t_S_int (0,0))]
          b49 b39 b47 SS lim had2,⟨kb,0,rfl,rfl,H⟩,?_⟩
         rintro m2 x w24 ⟨j,rfl,hm2,H⟩
         refine bif_i (fun h6=>?_) fun h6=>?_
         · have hj:j<kb:=by have:=of_decide_eq_true h6;omega
           have hdj:dn+j<ord.length:=by omega
           have hsl:=(Sx.slw H 8 rfl).drop dn co (by rw [i64s_len,nats_len];exact hcap)
           have hcm:=hordm _ (List.getElem_mem hdj)
           have hrd:((i64s (nats ord)).drop dn)[j]? =some (.int .i64 ((ord[dn+j]:Nat):Int)):=by
            rw [List.getElem?_drop]
            exact i64s_get (nats_get (List.getElem?_eq_getElem hdj))
           have hstep:setAll out ((ord.drop dn).take (j+1)) d=(setAll out ((ord.drop dn).take j) d).set ord[dn+j] d:=by
            have hjl:j<(ord.drop dn).length:=by rw [List.length_drop];omega
            rw [List.take_succ_eq_append_getElem hjl,setAll_snoc,List.getElem_drop]
           refine⟨by omega,by omega,hsl.read hrd fun p hp hc=>⟨_,by rw [Int.toNat_natCast,Nat.mul_one];exact hc,_,Sx.cell H 4 rfl rfl,by omega,by show((ord[dn+j]:Nat):Int)<65;omega,OSome.i ?_⟩⟩
           rw [A0_add,Int.toNat_natCast,Nat.mul_one]
           refine Sx.sto H 9 rfl (by simp [setAll_len,hol];omega) fun w25 _ H=>⟨m2-1,by omega,j+1,W64_succ (by omega),by omega,?_⟩
           have e:((i64s (nats (setAll out ((ord.drop dn).take j) d))).toArray.setIfInBounds ord[dn+j] (.int .i64 (d:Int)))=(i64s (nats (setAll out ((ord.drop dn).take (j+1)) d))).toArray:=by
            rw [List.setIfInBounds_toArray,i64s_set,nats_set,hstep]
           rw [←e]
           exact H
         · have hj:j=kb:=by have:=of_decide_eq_false h6;omega
           subst hj
           refine⟨_,Sx.cell H 4 rfl rfl,_,by first|exact Sx.cell H 4 rfl rfl|(rw [A0_add];exact Sx.cell H 4 rfl rfl),_,by first|exact Sx.cell H 3 rfl rfl|(rw [A0_add];exact Sx.cell H 3 rfl rfl),_,by first|exact Sx.cell H 4 rfl rfl|(rw [A0_add];exact Sx.cell H 4 rfl rfl),_,by first|exact Sx.cell H 3 rfl rfl|(rw [A0_add];exact Sx.cell H 3 rfl rfl),?_⟩
           have a2:W64 ((d:Int)+1)=((d+1:Nat):Int):=W64_succ (by omega)
           have a3:W64 ((op:Int)-(j:Int))=((op-j:Nat):Int):=W64_idn (by omega) (by omega)
           have a4:W64 ((2:Int)*((op-j:Nat):Int))=((2*(op-j):Nat):Int):=W64_idn (by omega) (by omega)
           rw [e1,a1,a2,a3,a4]
           refine Sx.sto H 4 rfl (by simp) fun w26 _ H=>Sx.sto H 4 rfl (by simp) fun w27 _ H=>Sx.sto H 4 rfl (by simp) fun w28 _ H=>⟨_,_,_,Sx.ld H 4 rfl,?_⟩
           refine MS.alloc H fun w29 b122 H=>?_
           try simp only
           refine Sx.sto H 3 rfl (by simp) fun w30 _ H=>Sx.sto H 3 rfl (by simp) fun w31 _ H=>Sx.sto H 3 rfl (by simp) fun w32 _ H=>?_
           refine⟨g,by omega,b122,g,d+1,dn+j,2*(op-j),had2,_,rfl,rfl,by omega,by omega,by omega,hnx,by rw [setAll_len];exact hol,hw,hk2,?_⟩
           exact Sx.sub H (.cons_cons _ (.cons_cons _ (.cons_cons _ (.cons_cons _ (.cons _ (.cons _ (.refl _)))))))
       · have hdnl:dn=ord.length:=by have:=of_decide_eq_false h5;omega
         have hout:lensW (sumAt SS) ord m d dn op out=out:=by
          cases m with
          |zero=>rfl
          |succ g=>rw [lensW,if_pos (by omega)]
         rw [hout]at hw
         have HF:=Sx.front H 4 rfl
         refine⟨(HF.get 0 rfl).2,b20,rfl,?_⟩
         rw [hlen,←hw]
         have HE:=Sx.done HF
         exact(Sx.front HE 7 rfl).sub (.cons_cons _ (List.nil_sublist _))
    refine H.drew fun w34 _ H=>?_
    have a1:W64 ((ord.length:Int)+1)=((ord.length+1:Nat):Int):=W64_succ (by omega)
    have a2:W64 ((lim:Int)+2)=((lim+2:Nat):Int):=W64_idn (by push_cast;rfl) (by omega)
    have hq1:(lim+2)*(ord.length+1)≤17*66:=Nat.mul_le_mul (by omega) (by omega)
    have hq2:(lim+2)*(ord.length+1)*(ord.length+1)≤17*66*66:=Nat.mul_le_mul hq1 (by omega)
    have a3:W64 (((lim+2:Nat):Int)*((ord.length+1:Nat):Int))=(((lim+2)*(ord.length+1):Nat):Int):=W64_idn (by push_cast;rfl) (by omega)
    have a4:W64 ((((lim+2)*(ord.length+1):Nat):Int)*((ord.length+1:Nat):Int))=(((lim+2)*(ord.length+1)*(ord.length+1):Nat):Int):=W64_idn (by push_cast;rfl) (by omega)
    rw [a1,a2,a3,a4]
    have hX:(0:Int)≤((ord.length+1:Nat):Int)∧((ord.length+1:Nat):Int)≤((ord.length+1:Nat):Int)∧((8:Nat):Int)*((ord.length+1:Nat):Int)≤((maxMake:Nat):Int):=⟨by omega,Int.le_refl _,by simp only [maxMake];omega⟩
    have hY:(0:Int)≤(((lim+2)*(ord.length+1)*(ord.length+1):Nat):Int)∧(((lim+2)*(ord.length+1)*(ord.length+1):Nat):Int)≤(((lim+2)*(ord.length+1)*(ord.length+1):Nat):Int)∧((24:Nat):Int)*(((lim+2)*(ord.length+1)*(ord.length+1):Nat):Int)≤((maxMake:Nat):Int):=⟨by omega,Int.le_refl _,by simp only [maxMake];omega⟩
    rw [Int.toNat_natCast,Int.toNat_natCast,mk_int,mk_best]
    generalize hYn:(lim+2)*(ord.length+1)*(ord.length+1)=Y at*
    have hz3:List.replicate (ord.length+1) (0:Int)=nats (List.replicate (ord.length+1) 0):=by simp [nats]
    rw [hz3]
    refine⟨⟨hX.1,hX.2.1,hX.2.2,H.alloc fun w35 b39 _ H=>⟨trivial,⟨hY.1,hY.2.1,hY.2.2,H.alloc fun w36 b47 _ H=>⟨trivial,?_,?_⟩⟩,?_⟩⟩,⟨hY.1,hY.2.1,hY.2.2,H.alloc fun w47 b47 _ H=>⟨trivial,⟨hX.1,hX.2.1,hX.2.2,H.alloc fun w48 b39 _ H=>⟨trivial,?_,?_⟩⟩,?_⟩⟩,H.alloc fun w59 b9 _ H=>⟨trivial,⟨hX.1,hX.2.1,hX.2.2,H.alloc fun w60 b39 _ H=>⟨trivial,hY.1,hY.2.1,hY.2.2,H.alloc fun w61 b47 _ H=>⟨trivial,?_⟩⟩⟩,⟨hY.1,hY.2.1,hY.2.2,H.alloc fun w64 b47 _ H=>⟨trivial,hX.1,hX.2.1,hX.2.2,H.alloc fun w65 b39 _ H=>⟨trivial,?_⟩⟩⟩⟩⟩
    · exact H.alloc fun w37 b49 _ H=>⟨trivial,H.alloc fun w38 b9 _ H=>⟨trivial,H.sto 0 rfl (by simp) fun w39 _ H=>⟨trivial,fin w39 b9 b49 b39 b47 (Sx.front (Sx.front (Sx.front (Sx.front H 0 rfl) 2 rfl) 3 rfl) 3 rfl)⟩⟩⟩
    · exact H.alloc fun w37 b9 _ H=>⟨trivial,H.alloc fun w38 b49 _ H=>⟨trivial,H.sto 1 rfl (by simp) fun w39 _ H=>⟨trivial,fin w39 b9 b49 b39 b47 (Sx.front (Sx.front (Sx.front (Sx.front H 1 rfl) 2 rfl) 3 rfl) 3 rfl)⟩⟩⟩
    · exact H.alloc fun w37 b9 _ H=>⟨trivial,hY.1,hY.2.1,hY.2.2,H.alloc fun w38 b47 _ H=>⟨trivial,H.alloc fun w41 b49 _ H=>⟨trivial,H.sto 2 rfl (by simp) fun w39 _ H=>⟨trivial,fin w39 b9 b49 b39 b47 (Sx.front (Sx.front (Sx.front (Sx.front H 2 rfl) 2 rfl) 3 rfl) 3 rfl)⟩⟩⟩⟩
    · exact H.alloc fun w37 b49 _ H=>⟨trivial,H.alloc fun w38 b9 _ H=>⟨trivial,H.sto 0 rfl (by simp) fun w39 _ H=>⟨trivial,fin w39 b9 b49 b39 b47 (Sx.front (Sx.front (Sx.front (Sx.front H 0 rfl) 3 rfl) 3 rfl) 3 rfl)⟩⟩⟩
    · exact H.alloc fun w37 b9 _ H=>⟨trivial,H.alloc fun w38 b49 _ H=>⟨trivial,H.sto 1 rfl (by simp) fun w39 _ H=>⟨trivial,fin w39 b9 b49 b39 b47 (Sx.front (Sx.front (Sx.front (Sx.front H 1 rfl) 3 rfl) 3 rfl) 3 rfl)⟩⟩⟩
    · exact H.alloc fun w37 b9 _ H=>⟨trivial,hX.1,hX.2.1,hX.2.2,H.alloc fun w38 b39 _ H=>⟨trivial,H.alloc fun w41 b49 _ H=>⟨trivial,H.sto 2 rfl (by simp) fun w39 _ H=>⟨trivial,fin w39 b9 b49 b39 b47 (Sx.front (Sx.front (Sx.front (Sx.front H 2 rfl) 3 rfl) 3 rfl) 3 rfl)⟩⟩⟩⟩
    · exact H.alloc fun w37 b49 _ H=>⟨trivial,H.sto 3 rfl (by simp) fun w39 _ H=>⟨trivial,fin w39 b9 b49 b39 b47 (Sx.front (Sx.front (Sx.front (Sx.front H 3 rfl) 2 rfl) 3 rfl) 3 rfl)⟩⟩
    · exact H.alloc fun w37 b49 _ H=>⟨trivial,H.sto 3 rfl (by simp) fun w39 _ H=>⟨trivial,fin w39 b9 b49 b39 b47 (Sx.front (Sx.front (Sx.front (Sx.front H 3 rfl) 3 rfl) 3 rfl) 3 rfl)⟩⟩
 refine bif_i (fun h1=>?_) fun h1=>?_
 · have h1':ord.length=1:=by have:(ord.length:Int)=1:=eq_of_beq h1;omega
   obtain⟨c0,rfl⟩:=List.length_eq_one_iff.1 h1'
   have hcm:=hordm c0 (by simp)
   have hsl:=H.slw 0 rfl
   refine⟨by decide,by simp,hsl.read (i64s_get (nats_get (l:= [c0]) (i:=0) rfl)) fun p hp hc=>⟨_,hc,by omega,by show(c0:Int)<65;omega,OSome.i ?_⟩⟩
   rw [A0_add,Int.toNat_natCast,Nat.mul_one]
   refine H.sto 1 rfl (by simp;omega) fun w68 _ H=>j7 w68 ((List.replicate 65 0).set c0 1) rfl ?_
   have e:((i64s (nats (List.replicate 65 0))).toArray.setIfInBounds c0 (.int .i64 1))=(i64s (nats ((List.replicate 65 0).set c0 1))).toArray:=by
    rw [List.setIfInBounds_toArray,←nats_set,←i64s_set];rfl
   rw [←e]
   exact H
 · have h1':ord.length≠1:=by have:(ord.length:Int)≠1:=ne_of_beq_false h1;omega
   exact j7 w4 _ (by rw [if_neg h1']) H
end Go.Proofs.Tryz
namespace Go.Proofs.Tryz
open Go Go.RowKit Go.Proofs.VC
variable {M:List Nat} {w0 w:World} {L:List En}
def firstMax (l:List Nat):Nat:=((List.range l.length).find? fun i=>decide (∀j,j<l.length→l.getD j 0≤l.getD i 0)).getD 0
def takeOne (l:List Nat):List Nat:=l.set (firstMax l) (l.getD (firstMax l) 0-1)
def takeMany:Nat→List Nat→List Nat
 |0,l=>l
 |n+1,l=>takeMany n (takeOne l)
theorem takeOne_len (l:List Nat):(takeOne l).length=l.length:=by simp [takeOne]
theorem takeMany_len:∀(n:Nat) (l:List Nat),(takeMany n l).length=l.length
 |0,_=>rfl
 |n+1,l=>by rw [takeMany,takeMany_len n,takeOne_len]
theorem firstMax_eq {l:List Nat} {i:Nat} (hi:i<l.length) (h:∀j,j<l.length→l.getD j 0≤l.getD i 0∧(l.getD j 0=l.getD i 0→i≤j)):firstMax l=i:=by
 unfold firstMax
 have:(List.range l.length).find? (fun i=>decide (∀j,j<l.length→l.getD j 0≤l.getD i 0))=some i:=by
  rw [List.find?_eq_some_iff_append]
  refine⟨decide_eq_true fun j hj=>(h j hj).1,List.range i,(List.range (l.length-i-1)).map (· +(i+1)),?_,fun x hx=>?_⟩
  · have e1:List.range l.length=List.range (i+1+(l.length-i-1)):=by congr 1;omega
    rw [e1,List.range_add,List.range_succ,List.append_assoc,List.singleton_append]
    congr 2
    apply List.map_congr_left
    intro x _
    omega
  · have hx':=List.mem_range.1 hx
    rw [Bool.not_eq_true',decide_eq_false_iff_not]
    intro hh
    have h1:=hh i hi
    have h2:=h x (by omega)
    have:=h2.2 (by omega)
    omega
 rw [this];rfl
theorem sum_set {l:List Nat} {i v:Nat} (hi:i<l.length):(l.set i v).sum+l.getD i 0=l.sum+v:=by
 induction l generalizing i with
 |nil=>simp at hi
 |cons x l ih=>
  cases i with
  |zero=>simp;omega
  |succ i=>
   have:=ih (i:=i) (by simpa using hi)
   simp only [List.set_cons_succ,List.sum_cons,List.getD_cons_succ]
   omega
def prA:Nat→List Nat→List Pr
 |_,[]=> []
 |k,n::l=>((k:Int),(n:Int))::prA (k+1) l
theorem prA_app (k:Nat) (a b:List Nat):prA k (a++b)=prA k a++prA (k+a.length) b:=by
 induction a generalizing k with
 |nil=>rfl
 |cons n a ih=>
  simp only [List.cons_append,prA,ih,List.length_cons]
  rw [show k+(a.length+1)=k+1+a.length by omega]
theorem prA_len (k:Nat) (l:List Nat):(prA k l).length=l.length:=by
 induction l generalizing k with
 |nil=>rfl
 |cons n l ih=>simp [prA,ih]
theorem prA_mem {k:Nat} {l:List Nat} {p:Pr}:p∈prA k l↔∃i:Nat,i<l.length∧p=(((k+i:Nat):Int),((l.getD i 0:Nat):Int)):=by
 induction l generalizing k with
 |nil=>simp [prA]
 |cons n l ih=>
  rw [prA,List.mem_cons,ih]
  constructor
  · rintro(rfl|⟨i,h1,h2⟩)
    · exact⟨0,by simp,by simp⟩
    · exact⟨i+1,by simp;omega,by rw [h2];simp;omega⟩
  · rintro⟨i,h1,h2⟩
    cases i with
    |zero=>left;rw [h2];simp
    |succ i=>right;exact⟨i,by simpa using h1,by rw [h2];simp;omega⟩
theorem prA_set {k:Nat} {l:List Nat} {i v:Nat} (hi:i<l.length):(prA k (l.set i v))=(prA k l).set i (((k+i:Nat):Int),(v:Int)):=by
 induction l generalizing k i with
 |nil=>simp at hi
 |cons n l ih=>
  cases i with
  |zero=>simp [prA]
  |succ i=>
   simp only [List.set_cons_succ,prA]
   rw [ih (by simpa using hi),show k+1+i=k+(i+1) by omega]
theorem prA_perm {l:List Nat} {i v:Nat} {t:List Pr} (hi:i<l.length) (h:(((i:Int),((l.getD i 0:Nat):Int))::t).Perm (prA 0 l)):(((i:Int),(v:Int))::t).Perm (prA 0 (l.set i v)):=by
 rw [prA_set hi,Nat.zero_add]
 have hl:i<(prA 0 l).length:=by rw [prA_len];exact hi
 have hg:(prA 0 l)[i]? =some ((i:Int),((l.getD i 0:Nat):Int)):=by
  have:∀(k:Nat) (l:List Nat) (i:Nat),i<l.length→(prA k l)[i]? =some (((k+i:Nat):Int),((l.getD i 0:Nat):Int)):=by
   intro k l
   induction l generalizing k with
   |nil=>intro i h;simp at h
   |cons n l ih=>
    intro i h
    cases i with
    |zero=>simp [prA]
    |succ i=>
     rw [prA,List.getElem?_cons_succ,ih (k+1) i (by simpa using h),show k+1+i=k+(i+1) by omega];simp
  have h2:=this 0 l i hi
  rwa [Nat.zero_add]at h2
 have p1:=perm_front i (prA 0 l) _ hg
 have p2:=perm_front i ((prA 0 l).set i ((i:Int),(v:Int))) ((i:Int),(v:Int)) (by rw [List.getElem?_set_self hl])
 rw [List.eraseIdx_set_eq]at p2
 have p3:t.Perm ((prA 0 l).eraseIdx i):=(List.perm_cons _).1 (h.trans p1)
 exact(p3.cons _).trans p2.symm
end Go.Proofs.Tryz
namespace Go.Proofs.Tryz
open Go Go.RowKit Go.Proofs.VC
variable {M:List Nat} {w0 w:World} {L:List En}
theorem nats_arr {l:List Nat} {i:Nat} (hi:i<l.length):(i64s (nats l)).toArray[i]? =some (.int .i64 ((l.getD i 0:Nat):Int)):=by
 rw [List.getElem?_toArray]
 refine i64s_get (nats_get ?_)
 rw [List.getD_eq_getElem?_getD,List.getElem?_eq_getElem hi];rfl
theorem nats_put (l:List Nat) (i v:Nat):(i64s (nats l)).toArray.setIfInBounds i (.int .i64 (v:Int))=(i64s (nats (l.set i v))).toArray:=by
 rw [List.setIfInBounds_toArray,i64s_set,nats_set]
theorem T_norm_taken {R:Ending→World→Prop} {b:Nat} {l:List Nat} {many:Nat} (H:Sx M w0 w (.ob b (.cells (i64s (nats l)).toArray t_int (0,0))::L)) (h65:l.length=65) (hm:many≤l.sum) (hb:l.sum≤1000000)
 (h:∀w',Sx M w0 w' (.ob b (.cells (i64s (nats (takeMany many l))).toArray t_int (0,0))::L)→R (.returned (.tuple #[])) w'):Calls prog n_norm_taken #[.slice (some (A0 b)) 65 65,.int .i64 (many:Int)] w R:=by
 refine S_norm_taken ?_
 unfold F_norm_taken
 refine H.alloc fun w1 b8 _ H=>?_
 have H2:=H.asOw 2 0 0 (Nat.le_refl _) (by simp [maxLen]) rfl
 refine H2.alloc fun w2 b9 _ H=>?_
 refine⟨fun m x w3=>∃(i:Nat) (hl:List Pr),x=(i:Int)∧m+i=65∧HS M w0 w3 (.ob b (.cells (i64s (nats l)).toArray t_int (0,0))::L) t_norm_classes t_norm_class b9 hl∧hl.Perm (prA 0 (l.take i))∧HeapN ltG hl hl.length,
  ⟨65,0,[],rfl,rfl,⟨_,_,_,rfl,H⟩,by simp [prA],fun k _ h=>absurd h (Nat.not_lt_zero _)⟩,?_⟩
 rintro m x w3 ⟨i,hl,rfl,hmi,H,hp,hh⟩
 refine bif_i (fun h1=>?_) fun h1=>?_
 · have hi:i<65:=by have:(i:Int)<((65:Nat):Int):=of_decide_eq_true h1;omega
   have hlen:hl.length=i:=by rw [hp.length_eq,prA_len,List.length_take];omega
   refine⟨by omega,of_decide_eq_true h1,OSome.i ⟨((l.getD i 0:Nat):Int),?_,?_⟩⟩
   · obtain⟨_,_,_,_,H⟩:=H
     rw [A0_add,Int.toNat_natCast,Nat.mul_one]
     exact H.cell 2 rfl (nats_arr (by omega))
   refine T_heap_Push (x:=((i:Int),((l.getD i 0:Nat):Int))) heap_norm_classes TO_G H hh (by omega) fun w4 l' H hp' hh'=>⟨rfl,m-1,by omega,i+1,l',W64_succ (by omega),by omega,H,?_,hh'⟩
   have hil:i<l.length:=by omega
   have e:l.getD i 0=l[i]:=by rw [List.getD_eq_getElem?_getD,List.getElem?_eq_getElem hil];rfl
   rw [List.take_succ_eq_append_getElem hil,prA_app,List.length_take,Nat.min_eq_left (by omega),Nat.zero_add]
   simp only [prA]
   rw [←e]
   exact hp'.trans ((hp.cons _).trans (List.perm_append_singleton _ _).symm)
 · have hi:i=65:=by have:¬(i:Int)<((65:Nat):Int):=of_decide_eq_false h1;omega
   subst hi
   rw [List.take_of_length_le (by omega)]at hp
   refine⟨fun m x w5=>∃(j:Nat) (cur:List Nat) (hl:List Pr),x=(j:Int)∧m+j=many∧cur.length=65∧many≤cur.sum+j∧cur.sum≤1000000∧takeMany (many-j) cur=takeMany many l∧
    HS M w0 w5 (.ob b (.cells (i64s (nats cur)).toArray t_int (0,0))::L) t_norm_classes t_norm_class b9 hl∧hl.Perm (prA 0 cur)∧HeapN ltG hl hl.length,
    ⟨many,0,l,hl,rfl,rfl,h65,hm,hb,rfl,H,hp,hh⟩,?_⟩
   rintro m x w5 ⟨j,cur,hl,rfl,hmj,hc65,hsum,hsb,htk,H,hp,hh⟩
   refine bif_i (fun h2=>?_) fun h2=>?_
   · have hj:j<many:=by have:=of_decide_eq_true h2;omega
     have hlen:hl.length=65:=by rw [hp.length_eq,prA_len,hc65]
     obtain⟨p0,t,rfl⟩:∃p t,hl=p::t:=by
      cases hl with
      |nil=>simp at hlen
      |cons p t=>exact⟨p,t,rfl⟩
     have hmin:=hh.min TO_G TO_G.irr
     obtain⟨i,hi,hp0⟩:=prA_mem.1 (hp.subset (List.mem_cons_self ..))
     rw [Nat.zero_add]at hp0
     subst hp0
     have htop:∀k,k<cur.length→cur.getD k 0≤cur.getD i 0∧(cur.getD k 0=cur.getD i 0→i≤k):=by
      intro k hk
      have hmem:(((0+k:Nat):Int),((cur.getD k 0:Nat):Int))∈prA 0 cur:=prA_mem.2 ⟨k,hk,rfl⟩
      obtain⟨q,hq,hqe⟩:=List.mem_iff_getElem.1 (hp.symm.subset hmem)
      have:=hmin q hq
      rw [gd_eq hq,hqe,gd_eq (by simp),List.getElem_cons_zero,ltG_false]at this
      simp only at this
      omega
     have hfm:firstMax cur=i:=firstMax_eq hi htop
     have hpos:1≤cur.getD i 0:=by
      by_cases h0:cur.getD i 0=0
      · have hz:∀l:List Nat,(∀k,k<l.length→l.getD k 0=0)→l.sum=0:=by
         intro l
         induction l with
         |nil=>intro _;rfl
         |cons x l ih=>
          intro hh
          have h1:=hh 0 (by simp)
          have h2:=ih fun k hk=>by have:=hh (k+1) (by simpa using hk);simpa using this
          simp at h1
          simp [h1,h2]
        have:=hz cur fun k hk=>by have:=(htop k hk).1;omega
        omega
      · omega
     have hbi:cur.getD i 0≤cur.sum:=by
      have:=sum_set (l:=cur) (i:=i) (v:=0) hi
      omega
     obtain⟨a1,n1,c1,hn1,H⟩:=H
     obtain⟨p,rfl⟩:∃p,a1=some p:=by
      cases a1 with
      |some p=>exact⟨p,rfl⟩
      |none=>have:=(H.none 1 rfl).1;rw [hn1]at this;simp at this
     have hsl:=H.slw 1 rfl
     have hrd:∀k v,(prs (((i:Int),((cur.getD i 0:Nat):Int))::t))[k]? =some v→w5.cell? (p.add k)=some v:=fun k v hk=>by
      obtain⟨p',hp',hc⟩:=hsl k v hk
      cases hp';exact hc
     have e0:p.add (Int.toNat 0*2)=p:=add_zero' p
     refine OSome.i ⟨_,_,_,H.cell 0 rfl rfl,by decide,by rw [hn1,hlen];decide,OSome.i (OSome.i ⟨((cur.getD i 0:Nat):Int),?_,OSome.i ?_⟩)⟩
     · rw [e0];exact hrd 1 _ rfl
     rw [e0]
     have a2:W64 (((cur.getD i 0:Nat):Int)-1)=((cur.getD i 0-1:Nat):Int):=W64_idn (by omega) (by omega)
     rw [a2]
     refine H.stoW 1 rfl rfl (i:=1) (by simp [prs]) fun w6 _ H=>?_
     have H:Sx M w0 w6 (.ob b9 (.cells #[.slice (some p) n1 c1] t_norm_classes (0,0)):: .ow t_norm_class 2 (some p) n1 c1 (prs (((i:Int),((cur.getD i 0-1:Nat):Int))::t)):: .ob b (.cells (i64s (nats cur)).toArray t_int (0,0))::L):=H
     have hsl2:=H.slw 1 rfl
     refine OSome.i ⟨(i:Int),?_,by omega,by show((i:Nat):Int)<65;omega,OSome.i ⟨((cur.getD i 0:Nat):Int),?_,by omega,by show((i:Nat):Int)<65;omega,OSome.i ?_⟩⟩
     · obtain⟨p',hp',hc⟩:=hsl2 0 _ rfl
       cases hp'
       rw [add_zero']at hc
       exact hc
     · rw [A0_add,Int.toNat_natCast,Nat.mul_one]
       exact H.cell 2 rfl (nats_arr hi)
     rw [A0_add,Int.toNat_natCast,Nat.mul_one,a2]
     refine H.sto 2 rfl (by simp;omega) fun w7 _ H=>?_
     have H:Sx M w0 w7 (.ob b9 (.cells #[.slice (some p) n1 c1] t_norm_classes (0,0)):: .ow t_norm_class 2 (some p) n1 c1 (prs (((i:Int),((cur.getD i 0-1:Nat):Int))::t)):: .ob b (.cells ((i64s (nats cur)).toArray.setIfInBounds i (.int .i64 ((cur.getD i 0-1:Nat):Int))) t_int (0,0))::L):=H
     rw [nats_put]at H
     have hgd:∀(x:Pr) k,0<k→gd (x::t) k=gd (((i:Int),((cur.getD i 0:Nat):Int))::t) k:=by
      intro x k hk
      obtain⟨k,rfl⟩:∃k',k=k'+1:=⟨k-1,by omega⟩
      simp [gd]
     refine T_heap_Fix0 (l:=((i:Int),((cur.getD i 0-1:Nat):Int))::t) heap_norm_classes TO_G ⟨some p,n1,c1,by simpa using hn1,H⟩ ⟨fun k hk0 hk hpar=>?_,fun k _ _ _ h0=>absurd h0 (Nat.lt_irrefl 0)⟩ (by simp) (by simp at hlen ⊢;omega) fun w8 l' H hp2 hh2=>⟨rfl,m-1,by omega,j+1,cur.set i (cur.getD i 0-1),l',W64_succ (by omega),by omega,by simpa using hc65,?_,?_,?_,H,?_,hh2⟩
     · have g1:=hgd ((i:Int),((cur.getD i 0-1:Nat):Int)) k hk0
       have g2:=hgd ((i:Int),((cur.getD i 0-1:Nat):Int)) ((k-1)/2) (by omega)
       rw [g1,g2]
       exact hh k hk0 hk
     · have:=sum_set (l:=cur) (i:=i) (v:=cur.getD i 0-1) hi;omega
     · have:=sum_set (l:=cur) (i:=i) (v:=cur.getD i 0-1) hi;omega
     · rw [←htk,show many-j=(many-(j+1))+1 by omega,takeMany,takeOne,hfm]
     · exact hp2.trans (prA_perm hi hp)
   · have hj:j=many:=by have:=of_decide_eq_false h2;omega
     subst hj
     rw [Nat.sub_self,takeMany]at htk
     rw [←htk]at h
     obtain⟨_,_,_,_,H⟩:=H
     exact h w5 H.tail.tail
theorem T_norm_sum (a:Option Addr) (n c:Nat) (l:List Nat) (w:World) (hs:SlI w a n (nats l)) (hb:l.sum≤1000000000) (hl:l.length≤1000000):Calls prog n_norm_sum #[.slice a n c] w fun e w'=>e= .returned (.int .i64 ((l.sum:Nat):Int))∧Fr [] w w':=by
 obtain⟨rfl,hs⟩:=hs
 rw [nats_len]
 refine S_norm_sum ?_
 unfold F_norm_sum
 refine⟨fun m x y w1=>∃i:Nat,x=(((l.take i).sum:Nat):Int)∧y=(i:Int)∧m+i=l.length∧Fr [] w w1,⟨l.length,0,rfl,rfl,rfl,Fr.refl _ _⟩,?_⟩
 rintro m x y w1 ⟨i,rfl,rfl,hm,hf⟩
 refine bif_i (fun h=>?_) fun h=>?_
 · have hi:i<l.length:=by have:=of_decide_eq_true h;omega
   have e:(l.take (i+1)).sum=(l.take i).sum+l[i]:=by rw [List.take_succ_eq_append_getElem hi,List.sum_append];simp
   have hle:(l.take (i+1)).sum≤l.sum:=by
    have:=List.take_append_drop (i+1) l
    have h2:l.sum=(l.take (i+1)).sum+(l.drop (i+1)).sum:=by rw [←List.sum_append,this]
    omega
   refine⟨by omega,by omega,hs.read (i64s_get (nats_get (List.getElem?_eq_getElem hi))) fun p hp hc=>⟨_,by rw [Int.toNat_natCast,Nat.mul_one];exact hf.cell0 hc,m-1,by omega,i+1,?_,W64_succ (by omega),by omega,hf⟩⟩
   rw [e]
   exact W64_idn (by push_cast;rfl) (by omega)
 · have hi:i=l.length:=by have:=of_decide_eq_false h;omega
   subst hi
   rw [List.take_length]
   exact⟨rfl,hf⟩
end Go.Proofs.Tryz
namespace Go.Proofs.Tryz
open Go Go.RowKit Go.Proofs.VC
variable {M:List Nat} {w0 w:World} {L:List En}
theorem shlI_u8 (a n:Nat) (h:n≤8):shlI .u8 a n=((a*2^n%256:Nat):Int):=by
 have e:min n (IntKind.bits .u8)=n:=Nat.min_eq_left h
 show IntKind.wrap .u8 ((a:Int)*2^(min (n:Int).toNat (IntKind.bits .u8)))=_
 rw [Int.toNat_natCast,e,wrap_u8,Int.natCast_emod,Int.natCast_mul,Int.natCast_pow]
 rfl
theorem tdiv_nat (a b:Nat):Int.tdiv (a:Int) (b:Int)=((a/b:Nat):Int):=by rw [Int.tdiv_eq_ediv_of_nonneg (by omega)];rfl
def WS (M:List Nat) (w0 w:World) (L:List En) (b:Nat) (l:List Bool):Prop:=
 ∃a n c,n=(packB l).length∧Sx M w0 w (.ob b (.cells #[.slice a n c,.int .i64 (l.length:Int)] t_bits_Writer (0,0)):: .ow t_uint8 1 a n c (u8s (packB l))::L)
theorem T_bits_New {R:Ending→World→Prop} (H:Sx M w0 w L) (h:∀w' b,WS M w0 w' L b []→R (.returned (.pointer (some (A0 b)))) w'):Calls prog n_bits_New #[] w R:=by
 refine S_bits_New ?_
 unfold F_bits_New
 refine(H.nilw t_uint8 1).alloc fun w1 b _ H=>h w1 b ⟨none,0,0,rfl,?_⟩
 exact H
theorem T_bits_Writer_bit {R:Ending→World→Prop} {b:Nat} {l:List Bool} {v:Nat} (hv:v<WW) (H:WS M w0 w L b l) (hl:l.length≤1000000000)
 (h:∀w',WS M w0 w' L b (l++ [v.testBit 0])→R (.returned (.tuple #[])) w'):Calls prog n_bits_Writer_bit #[.pointer (some (A0 b)),.int .u64 (v:Int)] w R:=by
 have hv':v<18446744073709551616:=hv
 refine S_bits_Writer_bit ?_
 unfold F_bits_Writer_bit
 intro J2 hJ
 obtain⟨a,n,c,rfl,H⟩:=H
 have hplen:=packB_len l
 have hbit:(v.testBit 0).toNat=v%2:=by rw [Nat.testBit_zero];rcases Nat.mod_two_eq_zero_or_one v with h|h<;>simp [h]
 have key:∀(ys:List UInt8) (x:UInt8) (a':Option Addr) (n' c':Nat) (w1:World),ys[l.length/8]? =some x→x.toNat<2^(l.length%8)→n'=ys.length→
  ys.set (l.length/8) (UInt8.ofNat (x.toNat+v%2*2^(l.length%8)))=packB (l++ [v.testBit 0])→
  Sx M w0 w1 (.ob b (.cells #[.slice a' n' c',.int .i64 (l.length:Int)] t_bits_Writer (0,0)):: .ow t_uint8 1 a' n' c' (u8s ys)::L)→J2 w1:=by
  rintro ys x a' _ c' w1 hx hlt rfl hset H
  have hi:l.length/8<ys.length:=(List.getElem?_eq_some_iff.1 hx).1
  have d1:W64 (Int.tdiv ((l.length:Nat):Int) 8)=((l.length/8:Nat):Int):=W64_idn (tdiv_nat l.length 8) (by omega)
  have d2:Int.tmod ((l.length:Nat):Int) 8=((l.length%8:Nat):Int):=tmod_nat l.length 8
  refine hJ w1 (H.drew fun w2 _ H=>?_)
  obtain⟨p,hp,hc⟩:=H.slw 1 rfl _ _ (u8s_get hx)
  refine OSome.i ⟨_,_,_,H.cell 0 rfl rfl,OSome.i ⟨_,by rw [A0_add];exact H.cell 0 rfl rfl,?_⟩⟩
  rw [d1]
  refine⟨by decide,by omega,by omega,⟨p,hp,_,by rw [Int.toNat_natCast,Nat.mul_one];exact hc,OSome.i ⟨_,by rw [A0_add];exact H.cell 0 rfl rfl,by decide,?_⟩⟩⟩
  rw [d2]
  refine⟨by omega,by omega,by omega,⟨p,hp,?_⟩⟩
  have hpow:2^(l.length%8)≤2^7:=Nat.pow_le_pow_right (by decide) (by omega)
  have h128:(2:Nat)^7=128:=by decide
  have hmul:v%2*2^(l.length%8)≤1*2^(l.length%8):=Nat.mul_le_mul_right _ (by omega)
  have e1:U8 (andI .u64 (v:Int) 1)=((v%2:Nat):Int):=by
   rw [show(1:Int)=((1:Nat):Int)from rfl,andI_u64 v 1 hv' (by decide),and_one,U8_nat,Nat.mod_eq_of_lt (by omega)]
  rw [e1,shlI_u8 _ _ (by omega),Nat.mod_eq_of_lt (by omega),orI_u8 _ _ (by omega) (by omega),or_add _ _ _ hlt,Int.toNat_natCast,Nat.mul_one]
  have hval:((x.toNat+v%2*2^(l.length%8):Nat):Int)=((UInt8.ofNat (x.toNat+v%2*2^(l.length%8))).toNat:Int):=by rw [toNat_ofNat8 (by omega)]
  rw [hval]
  refine H.stoW 1 rfl hp (by simpa using hi) fun w3 _ H=>⟨trivial,OSome.i ⟨_,by rw [A0_add];exact H.cell 0 rfl rfl,OSome.i ?_⟩⟩
  rw [A0_add]
  refine H.sto 0 rfl (by simp) fun w4 _ H=>h w4 ⟨a',ys.length,c',by rw [←hset,List.length_set],?_⟩
  rw [u8s_set,hset,W64_succ (by omega)]at H
  rw [List.length_append]
  exact H
 refine OSome.i ⟨_,by rw [A0_add];exact H.cell 0 rfl rfl,by decide,?_⟩
 rw [show Int.tmod ((l.length:Nat):Int) 8=((l.length%8:Nat):Int)from tmod_nat l.length 8]
 refine bif_i (fun h0=>?_) fun h0=>?_
 · have h0':l.length%8=0:=by have:=eq_of_beq h0;omega
   refine OSome.i ⟨_,_,_,H.cell 0 rfl rfl,?_⟩
   refine H.alloc fun w5 b15 _ H=>?_
   refine app_uint8 H (j:=1) (v:=0) rfl rfl (by omega) fun a' c2 w6 H=>OSome.i ?_
   refine H.sto 0 rfl (by simp) fun w7 _ H=>?_
   have hlen:l.length/8=(packB l).length:=by omega
   refine key (packB l++ [0]) 0 a' _ c2 w7 ?_ (by simp [h0']) (by simp) ?_ H
   · rw [List.getElem?_append_right (by omega),hlen,Nat.sub_self];rfl
   · rw [List.set_append_right _ _ (by omega),hlen,Nat.sub_self,packB_snoc0 l _ h0',hbit,h0']
     simp
 · have h0':l.length%8≠0:=by have:=ne_of_beq_false h0;omega
   have hx:=packB_get (l:=l) (i:=l.length/8) (by omega)
   have hch:nb ((l.drop (8*(l.length/8))).take 8)<2^(l.length%8):=by
    refine Nat.lt_of_lt_of_le (nb_lt _) (Nat.pow_le_pow_right (by decide) ?_)
    rw [List.length_take,List.length_drop];omega
   refine key (packB l) _ a _ c w hx ?_ rfl ?_ H
   · rw [toNat_ofNat8 (chunk_lt l _)];exact hch
   · rw [packB_snoc l _ h0',toNat_ofNat8 (chunk_lt l _),hbit]
theorem T_bits_Writer_Put {R:Ending→World→Prop} {b:Nat} {l:List Bool} {v:Nat} {m:Int} (hv:v<WW) (H:WS M w0 w L b l) (hl:l.length≤900000000) (hm:m≤64)
 (h:∀w',WS M w0 w' L b (l++bitsOf v m.toNat)→R (.returned (.tuple #[])) w'):Calls prog n_bits_Writer_Put #[.pointer (some (A0 b)),.int .u64 (v:Int),.int .i64 m] w R:=by
 refine S_bits_Writer_Put ?_
 unfold F_bits_Writer_Put
 refine bif_f rfl ?_
 have hmax:(if (if (64:Int)<m then(64:Int)else m)>(0:Int)then(if (64:Int)<m then(64:Int)else m)else(0:Int))=(m.toNat:Int):=by split<;>omega
 rw [hmax]
 refine⟨fun q x w1=>∃i:Nat,x=(i:Int)∧q+i=m.toNat∧WS M w0 w1 L b (l++bitsOf v i),⟨m.toNat,0,rfl,rfl,by rw [bitsOf_zero,List.append_nil];exact H⟩,?_⟩
 rintro q x w1 ⟨i,rfl,hq,H⟩
 refine bif_i (fun h1=>?_) fun h1=>?_
 · have hi:i<m.toNat:=by have:=of_decide_eq_true h1;omega
   rw [shrI_nat .u64 v i (by show i≤64;omega)]
   refine⟨by omega,T_bits_Writer_bit (div_lt' i hv) H (by rw [List.length_append,bitsOf_len];omega) fun w2 H=>⟨rfl,q-1,by omega,i+1,W64_succ (by omega),by omega,?_⟩⟩
   rw [bitsOf_succ,←List.append_assoc]
   have:(v/2^i).testBit 0=v.testBit i:=by rw [Nat.testBit_div_two_pow];simp
   rw [←this];exact H
 · have hi:i=m.toNat:=by have:=of_decide_eq_false h1;omega
   subst hi
   exact h w1 H
theorem T_bits_Writer_Bytes {R:Ending→World→Prop} {b:Nat} {l:List Bool} (H:WS M w0 w L b l) (h:WS M w0 w L b l→R (.returned (.string (S (packB l)))) w):Calls prog n_bits_Writer_Bytes #[.pointer (some (A0 b))] w R:=by
 refine S_bits_Writer_Bytes ?_
 unfold F_bits_Writer_Bytes
 have h':=h H
 obtain⟨a,n,c,rfl,H⟩:=H
 exact bif_f rfl (OSome.i ⟨_,_,_,H.cell 0 rfl rfl,b2s (H.slw 1 rfl) rfl h'⟩)
def RS (M:List Nat) (w0 w:World) (L:List En) (b:Nat) (s:List UInt8) (k:Nat):Prop:=Sx M w0 w (.ob b (.cells #[.string (S s),.int .i64 (k:Int)] t_bits_Reader (0,0))::L)
theorem T_bits_From {R:Ending→World→Prop} (s:List UInt8) (H:Sx M w0 w L) (h:∀w' b,RS M w0 w' L b s 0→R (.returned (.pointer (some (A0 b)))) w'):Calls prog n_bits_From #[.string (S s)] w R:=by
 refine S_bits_From ?_
 unfold F_bits_From
 exact H.alloc fun w1 b _ H=>h w1 b H
theorem T_bits_Reader_left {R:Ending→World→Prop} {b k:Nat} {s:List UInt8} (H:RS M w0 w L b s k) (hs:s.length≤140737488355328) (hk:k≤8*s.length) (h:∀w',RS M w0 w' L b s k→R (.returned (.int .i64 ((8*s.length-k:Nat):Int))) w'):
 Calls prog n_bits_Reader_left #[.pointer (some (A0 b))] w R:=by
 refine S_bits_Reader_left ?_
 unfold F_bits_Reader_left
 refine Sx.drew H fun w1 _ H=>OSome.i ⟨_,H.cell 0 rfl rfl,OSome.i ⟨_,by rw [A0_add];exact H.cell 0 rfl rfl,?_⟩⟩
 rw [S_size,W64_idn (n:=(8:Int)*((s.length:Nat):Int)) (m:=8*s.length) (by omega) (by omega),W64_idn (m:=8*s.length-k) (by omega) (by omega)]
 exact h w1 H
theorem T_bits_Reader_bit {R:Ending→World→Prop} {b k:Nat} {s:List UInt8} {v:Bool} (H:RS M w0 w L b s k) (hs:s.length≤140737488355328) (hv:(bitsS s)[k]? =some v)
 (h:∀w',RS M w0 w' L b s (k+1)→R (.returned (.int .u64 ((v.toNat:Nat):Int))) w'):Calls prog n_bits_Reader_bit #[.pointer (some (A0 b))] w R:=by
 have hk:k<8*s.length:=by rw [←bitsS_len];exact(List.getElem?_eq_some_iff.1 hv).1
 have hi:k/8<s.length:=by omega
 have hg:=bitsS_get (k:=k) (List.getElem?_eq_getElem hi)
 rw [hv]at hg
 refine S_bits_Reader_bit ?_
 unfold F_bits_Reader_bit
 refine Sx.drew H fun w1 _ H=>OSome.i ⟨_,H.cell 0 rfl rfl,OSome.i ⟨_,by rw [A0_add];exact H.cell 0 rfl rfl,by decide,?_⟩⟩
 rw [show W64 (Int.tdiv ((k:Nat):Int) 8)=((k/8:Nat):Int)from W64_idn (tdiv_nat k 8) (by omega)]
 refine⟨by omega,s[k/8],by rw [S_get,Int.toNat_natCast];exact List.getElem?_eq_getElem hi,OSome.i ⟨_,by rw [A0_add];exact H.cell 0 rfl rfl,by decide,?_⟩⟩
 rw [show Int.tmod ((k:Nat):Int) 8=((k%8:Nat):Int)from tmod_nat k 8]
 refine⟨by omega,OSome.i ⟨_,by rw [A0_add];exact H.cell 0 rfl rfl,OSome.i ?_⟩⟩
 rw [A0_add]
 have hb:=s[k/8].toNat_lt
 have hd:s[k/8].toNat/2^(k%8)≤s[k/8].toNat:=Nat.div_le_self _ _
 rw [shrI_nat .u8 _ (k%8) (by show k%8≤8;omega),U64_nat,Nat.mod_eq_of_lt (by omega),show(1:Int)=((1:Nat):Int)from rfl,andI_u64 _ _ (by omega) (by decide),and_one]
 have e:s[k/8].toNat/2^(k%8)%2=v.toNat:=by
  rw [Option.some.inj hg,Nat.toNat_testBit]
 rw [e]
 refine H.sto 0 rfl (by simp) fun w2 _ H=>h w2 ?_
 have H':Sx M w0 w2 (.ob b (.cells #[.string (S s),.int .i64 (W64 ((k:Int)+1))] t_bits_Reader (0,0))::L):=H
 rw [W64_succ (by omega)]at H'
 exact H'
def rdV (v:Nat) (e:Nat):Value:= .tuple #[.int .u64 (v:Int),.int .i64 (e:Int)]
theorem T_bits_Reader_Get {R:Ending→World→Prop} {b k n:Nat} {s:List UInt8} (H:RS M w0 w L b s k) (hs:s.length≤140737488355328) (hk:k≤8*s.length) (hn:n≤64)
 (h1:k+n≤8*s.length→∀w',RS M w0 w' L b s (k+n)→R (.returned (rdV (nb (((bitsS s).drop k).take n)) 0)) w')
 (h2:8*s.length<k+n→∀w',RS M w0 w' L b s k→R (.returned (rdV 0 2)) w'):Calls prog n_bits_Reader_Get #[.pointer (some (A0 b)),.int .i64 (n:Int)] w R:=by
 refine S_bits_Reader_Get ?_
 unfold F_bits_Reader_Get
 intro J7 hJ
 refine bif_f rfl (bif_f (by simp) (bif_f (by simp;omega) (T_bits_Reader_left H hs hk fun w4 H=>⟨_,rfl,bif_i (fun c1=>?_) fun c1=>hJ _ ?_⟩)))
 · have:=of_decide_eq_true c1
   exact h2 (by omega) w4 H
 · have c1':=of_decide_eq_false c1
   have hle:k+n≤8*s.length:=by omega
   refine⟨fun m x y w2=>∃i:Nat,x=((nb (((bitsS s).drop k).take i):Nat):Int)∧y=(i:Int)∧m+i=n∧RS M w0 w2 L b s (k+i),⟨n,0,rfl,rfl,rfl,H⟩,?_⟩
   rintro m x y w2 ⟨i,rfl,rfl,hm,H⟩
   refine bif_i (fun c2=>?_) fun c2=>?_
   · have hi:i<n:=by have:=of_decide_eq_true c2;omega
     have hkl:k+i<(bitsS s).length:=by rw [bitsS_len];omega
     have hdl:i<((bitsS s).drop k).length:=by rw [List.length_drop];omega
     refine T_bits_Reader_bit H hs (List.getElem?_eq_getElem hkl) fun w3 H=>⟨_,rfl,by omega,m-1,by omega,i+1,?_,W64_succ (by omega),by omega,H⟩
     have hlt:=nb_lt (((bitsS s).drop k).take i)
     have hlen:(((bitsS s).drop k).take i).length=i:=by rw [List.length_take,Nat.min_eq_left (by omega)]
     rw [hlen]at hlt
     have hpow:2^i*2=2^(i+1):=(Nat.pow_succ ..).symm
     have hp64:2^(i+1)≤2^64:=Nat.pow_le_pow_right (by decide) (by omega)
     have h64:(2:Nat)^64=18446744073709551616:=by decide
     have hbt:((bitsS s)[k+i]).toNat≤1:=by cases (bitsS s)[k+i]<;>simp
     have hmul:((bitsS s)[k+i]).toNat*2^i≤1*2^i:=Nat.mul_le_mul_right _ hbt
     have hs2:2^i<18446744073709551616:=Nat.lt_of_lt_of_le (Nat.pow_lt_pow_right (by decide) (show i<64 by omega)) (by rw [h64];exact Nat.le_refl _)
     rw [shlI_u64 _ i (by omega),Nat.mod_eq_of_lt (by omega),orI_u64 _ _ (by omega) (by omega),or_add _ _ _ hlt,List.take_succ_eq_append_getElem hdl,nb_snoc,hlen,List.getElem_drop,Nat.mul_comm]
   · have hi:i=n:=by have:=of_decide_eq_false c2;omega
     subst hi
     exact h1 hle w2 H
def restB (s:List UInt8) (k:Nat):Bool:=decide (8*s.length<k+8)&&((bitsS s).drop k).all (!·)
theorem T_bits_Reader_Rest {R:Ending→World→Prop} {b k:Nat} {s:List UInt8} (H:RS M w0 w L b s k) (hs:s.length≤140737488355328) (hk:k≤8*s.length) (h:∀w',RS M w0 w' L b s k→R (.returned (.bool (restB s k))) w'):
 Calls prog n_bits_Reader_Rest #[.pointer (some (A0 b))] w R:=by
 refine S_bits_Reader_Rest ?_
 unfold F_bits_Reader_Rest
 intro J3 hJ
 refine bif_f rfl (T_bits_Reader_left H hs hk fun w4 H=>⟨_,rfl,bif_i (fun c1=>?_) fun c1=>hJ _ ?_⟩)
 · have:=of_decide_eq_true c1
   have e:restB s k=false:=by rw [restB,decide_eq_false (by omega),Bool.false_and]
   have:=h w4 H
   rwa [e]at this
 · have c1':=of_decide_eq_false c1
   have h8:8*s.length<k+8:=by omega
   refine Sx.drew H fun w2 _ H=>T_bits_Reader_left (k:=k) H hs hk fun w3 H=>⟨_,rfl,trivial,bif_i (fun c2=>?_) fun c2=>?_⟩
   · have h0:k=8*s.length:=by have:=eq_of_beq c2;omega
     have e:restB s k=true:=by
      rw [restB,decide_eq_true h8,List.drop_of_length_le (by rw [bitsS_len];omega)];rfl
     have:=h w3 H
     rwa [e]at this
   · have h0:k≠8*s.length:=by have:=ne_of_beq_false c2;omega
     have hlast:s.length-1<s.length:=by omega
     have e1:W64 (((s.length:Nat):Int)-1)=((s.length-1:Nat):Int):=W64_idn (by omega) (by omega)
     refine OSome.i ⟨_,Sx.cell H 0 rfl rfl,OSome.i ⟨_,Sx.cell H 0 rfl rfl,?_⟩⟩
     rw [S_size,e1]
     refine⟨by omega,s[s.length-1],by rw [S_get,Int.toNat_natCast];exact List.getElem?_eq_getElem hlast,OSome.i ⟨_,by rw [A0_add];exact Sx.cell H 0 rfl rfl,by decide,?_⟩⟩
     rw [show Int.tmod ((k:Nat):Int) 8=((k%8:Nat):Int)from tmod_nat k 8,shrI_nat .u8 _ (k%8) (by show k%8≤8;omega)]
     refine⟨by omega,?_⟩
     have h':=h w3 H
     have e:(((s[s.length-1].toNat/2^(k%8):Nat):Int)==0)=restB s k:=by
      rw [restB,decide_eq_true h8,Bool.true_and]
      have hdrop:(bitsS s).drop k=(bitsOf s[s.length-1].toNat 8).drop (k%8):=by
       have hsp:s=s.take (s.length-1)++ [s[s.length-1]]:=by
        have:=List.take_succ_eq_append_getElem hlast
        rw [show s.length-1+1=s.length by omega,List.take_of_length_le (Nat.le_refl _)]at this
        exact this
       have hbs:bitsS s=bitsS (s.take (s.length-1))++bitsOf s[s.length-1].toNat 8:=by
        have:=congrArg bitsS hsp
        rw [bitsS_app]at this
        rw [this]
        congr 1
       have hlen:(bitsS (s.take (s.length-1))).length=8*(s.length-1):=by rw [bitsS_len,List.length_take];omega
       rw [hbs,List.drop_append,hlen,List.drop_of_length_le (by omega),List.nil_append]
       congr 1
       omega
      rw [hdrop]
      have hz:(s[s.length-1].toNat/2^(k%8)=0)↔∀x∈(bitsOf s[s.length-1].toNat 8).drop (k%8),x=false:=by
       have hb:=s[s.length-1].toNat_lt
       have e3:(bitsOf s[s.length-1].toNat 8).drop (k%8)=bitsOf (s[s.length-1].toNat/2^(k%8)) (8-k%8):=by
        apply List.ext_getElem
        · simp
        · intro i i1 i2
          simp [bitsOf,Nat.testBit_div_two_pow,Nat.add_comm]
       have hlt:s[s.length-1].toNat/2^(k%8)<2^(8-k%8):=by
        refine Nat.div_lt_of_lt_mul ?_
        rw [←Nat.pow_add,show k%8+(8-k%8)=8 by omega]
        exact hb
       rw [e3,←nb_zero,nb_bitsOf,Nat.mod_eq_of_lt hlt]
      rw [Bool.eq_iff_iff,beq_iff_eq,List.all_eq_true]
      constructor
      · intro hh x hx
        rw [hz.1 (by omega) x hx];rfl
      · intro hh
        have:=hz.2 fun x hx=>by simpa using hh x hx
        omega
     rw [e];exact h'
end Go.Proofs.Tryz
namespace Go.Proofs.Tryz
open Go Go.RowKit Go.Proofs.VC
theorem meth_canon_classes_Len (w:World) {a:Option Addr} {n c b:Nat} (h:w.cell? (A0 b)=some (.slice a n c)):(method (prog.types.size+Made.depth) t_P_canon_classes (.pointer (some (A0 b))) "Len").run prog w= .ok (n_canon_classes_Len,.slice a n c) w:=
 run_method_val (i:=(prog.info? t_P_canon_classes).get (by kernel_rfl)) (m:=(((prog.info? t_P_canon_classes).get (by kernel_rfl)).methods.find? (·.name== "Len")).get (by kernel_rfl)) (by kernel_rfl) (by kernel_rfl) (by kernel_rfl) (by kernel_rfl) u_P_canon_classes w
  (by simp only [loadVar,Sem.run_bind,a_canon_classes,Result.andThen,Bool.false_eq_true,if_false,run_load,h])
theorem meth_canon_classes_Less (w:World) {a:Option Addr} {n c b:Nat} (h:w.cell? (A0 b)=some (.slice a n c)):(method (prog.types.size+Made.depth) t_P_canon_classes (.pointer (some (A0 b))) "Less").run prog w= .ok (n_canon_classes_Less,.slice a n c) w:=
 run_method_val (i:=(prog.info? t_P_canon_classes).get (by kernel_rfl)) (m:=(((prog.info? t_P_canon_classes).get (by kernel_rfl)).methods.find? (·.name== "Less")).get (by kernel_rfl)) (by kernel_rfl) (by kernel_rfl) (by kernel_rfl) (by kernel_rfl) u_P_canon_classes w
  (by simp only [loadVar,Sem.run_bind,a_canon_classes,Result.andThen,Bool.false_eq_true,if_false,run_load,h])
theorem meth_canon_classes_Swap (w:World) {a:Option Addr} {n c b:Nat} (h:w.cell? (A0 b)=some (.slice a n c)):(method (prog.types.size+Made.depth) t_P_canon_classes (.pointer (some (A0 b))) "Swap").run prog w= .ok (n_canon_classes_Swap,.slice a n c) w:=
 run_method_val (i:=(prog.info? t_P_canon_classes).get (by kernel_rfl)) (m:=(((prog.info? t_P_canon_classes).get (by kernel_rfl)).methods.find? (·.name== "Swap")).get (by kernel_rfl)) (by kernel_rfl) (by kernel_rfl) (by kernel_rfl) (by kernel_rfl) u_P_canon_classes w
  (by simp only [loadVar,Sem.run_bind,a_canon_classes,Result.andThen,Bool.false_eq_true,if_false,run_load,h])
theorem meth_canon_classes_Push (w:World) (b:Nat):(method (prog.types.size+Made.depth) t_P_canon_classes (.pointer (some (A0 b))) "Push").run prog w= .ok (n_canon_classes_Push,.pointer (some (A0 b))) w:=
 run_method_ptr (i:=(prog.info? t_P_canon_classes).get (by kernel_rfl)) (m:=(((prog.info? t_P_canon_classes).get (by kernel_rfl)).methods.find? (·.name== "Push")).get (by kernel_rfl)) (by kernel_rfl) (by kernel_rfl) (by kernel_rfl) (by kernel_rfl) u_P_canon_classes w
theorem meth_canon_classes_Pop (w:World) (b:Nat):(method (prog.types.size+Made.depth) t_P_canon_classes (.pointer (some (A0 b))) "Pop").run prog w= .ok (n_canon_classes_Pop,.pointer (some (A0 b))) w:=
 run_method_ptr (i:=(prog.info? t_P_canon_classes).get (by kernel_rfl)) (m:=(((prog.info? t_P_canon_classes).get (by kernel_rfl)).methods.find? (·.name== "Pop")).get (by kernel_rfl)) (by kernel_rfl) (by kernel_rfl) (by kernel_rfl) (by kernel_rfl) u_P_canon_classes w
theorem heap_canon_classes:HI t_P_canon_classes t_canon_classes t_canon_class t_canon_class ltL where
 len:=by
  rintro M w0 w L b l R ⟨a,n,c,rfl,H⟩ h
  refine⟨_,_,_,_,rfl,meth_canon_classes_Len w (H.cell 0 rfl rfl),by decide+kernel,S_canon_classes_Len ?_⟩
  exact h w ⟨a,_,c,rfl,H⟩
 less:=by
  rintro M w0 w L b l R i j ⟨a,n,c,rfl,H⟩ hi hj h
  refine⟨_,_,_,_,rfl,meth_canon_classes_Less w (H.cell 0 rfl rfl),by decide+kernel,S_canon_classes_Less ?_⟩
  unfold F_canon_classes_Less
  refine H.drew fun w1 _ H=>?_
  obtain⟨p,rfl,hi0,hi1⟩:=readP (H.slw 1 rfl) (gd_some hi)
  obtain⟨p',e,hj0,hj1⟩:=readP (H.slw 1 rfl) (gd_some hj)
  cases e
  have h':=h w1 ⟨_,_,c,rfl,H⟩
  simp only [Int.toNat_natCast,add_add]
  have bi:(0:Int)≤(i:Int)∧(i:Int)<((l.length:Nat):Int):=⟨by omega,by omega⟩
  have bj:(0:Int)≤(j:Int)∧(j:Int)<((l.length:Nat):Int):=⟨by omega,by omega⟩
  unfold ltL at h'
  refine⟨bi.1,bi.2,OSome.i ⟨_,hi1,bj.1,bj.2,OSome.i ⟨_,hj1,bif_i (fun c1=>?_) fun c1=>⟨bi.1,bi.2,OSome.i ⟨_,hi1,bj.1,bj.2,OSome.i ⟨_,hj1,bif_i (fun c2=>⟨bi.1,bi.2,OSome.i ⟨_,hi0,bj.1,bj.2,OSome.i ⟨_,hj0,?_⟩⟩⟩) fun c2=>?_⟩⟩⟩⟩⟩⟩
  · rw [c1]at h';exact h'
  · rw [c1,c2]at h';exact h'
  · rw [c1,c2]at h';exact h'
 swap:=by
  rintro M w0 w L b l R i j ⟨a,n,c,rfl,H⟩ hi hj h
  refine⟨_,_,_,_,rfl,meth_canon_classes_Swap w (H.cell 0 rfl rfl),by decide+kernel,S_canon_classes_Swap ?_⟩
  unfold F_canon_classes_Swap
  refine H.drew fun w1 _ H=>?_
  obtain⟨p,rfl,hi0,hi1⟩:=readP (H.slw 1 rfl) (gd_some hi)
  obtain⟨p',e,hj0,hj1⟩:=readP (H.slw 1 rfl) (gd_some hj)
  cases e
  have bi:(0:Int)≤(i:Int)∧(i:Int)<((l.length:Nat):Int):=⟨by omega,by omega⟩
  have bj:(0:Int)≤(j:Int)∧(j:Int)<((l.length:Nat):Int):=⟨by omega,by omega⟩
  simp only [Int.toNat_natCast,add_add]
  refine⟨bj.1,bj.2,OSome.i ⟨_,_,⟨by rw [add_zero'];exact hj0,by rw [add_add];exact hj1,trivial⟩,bi.1,bi.2,OSome.i ⟨_,_,⟨by rw [add_zero'];exact hi0,by rw [add_add];exact hi1,trivial⟩,bi.1,bi.2,OSome.i ?_⟩⟩⟩
  refine setA_set H rfl (by rw [prs_len];omega) fun w2 H=>⟨trivial,bj.1,bj.2,OSome.i ?_⟩
  rw [prs_set]at H
  refine setA_set H rfl (by rw [prs_len,List.length_set];omega) fun w3 H=>⟨trivial,h w3 ⟨some p,(swp l i j).length,c,rfl,?_⟩⟩
  rw [prs_set]at H
  rw [swp_len]
  exact H
 push:=by
  rintro M w0 w L b l R x ⟨a,n,c,rfl,H⟩ hl h
  refine⟨_,_,_,_,rfl,meth_canon_classes_Push w b,by decide+kernel,S_canon_classes_Push ?_⟩
  unfold F_canon_classes_Push
  refine⟨_,_,rfl,H.alloc fun w1 b4 _ H=>?_⟩
  simp only [A0_add]
  refine H.sto 0 rfl (by simp) fun w2 _ H=>?_
  refine H.sto 0 rfl (by simp) fun w3 _ H=>?_
  refine H.drew fun w4 _ H=>OSome.i ⟨_,_,_,H.cell 1 rfl rfl,_,_,⟨by rw [A0_add];exact H.cell 0 rfl rfl,by rw [A0_add];exact H.cell 0 rfl rfl,trivial⟩,?_⟩
  refine H.alloc fun w5 b17 hf H=>⟨⟨hf.cell0,trivial⟩,?_⟩
  refine app H (j:=2) rfl u_canon_classes i_canon_class rfl (by decide) rfl (by simp [Value.oneCell']) (by omega) (by decide) fun a' c2 w6 H=>⟨⟨fun _=>H.cell 0 rfl rfl,fun _=>H.cell 0 rfl rfl,trivial⟩,OSome.i ?_⟩
  refine H.sto 1 rfl (by simp) fun w7 _ H=>⟨trivial,h w7 ⟨a',l.length+1,c2,by simp,?_⟩⟩
  rw [prs_app]
  exact H.tail
 pop:=by
  rintro M w0 w L b l R ⟨a,n,c,rfl,H⟩ h0 h
  refine⟨_,_,_,_,rfl,meth_canon_classes_Pop w b,by decide+kernel,S_canon_classes_Pop ?_⟩
  unfold F_canon_classes_Pop
  have hm:l.length≤9223372036854775807:=by have:=H.capMax 1 rfl;simp only [maxLen]at this;exact this
  have hn:=H.cap 1 rfl
  have e1:W64 ((l.length:Int)-1)=((l.length-1:Nat):Int):=W64_idn (by omega) (by omega)
  obtain⟨p,rfl,hi0,hi1⟩:=readP (H.slw 1 rfl) (gd_some (show l.length-1<l.length by omega))
  refine OSome.i ⟨_,_,_,H.cell 0 rfl rfl,OSome.i ⟨_,_,_,H.cell 0 rfl rfl,?_⟩⟩
  rw [e1]
  refine⟨by omega,by omega,OSome.i ⟨_,_,⟨by rw [add_zero',Int.toNat_natCast];exact hi0,by rw [add_add,Int.toNat_natCast];exact hi1,trivial⟩,?_⟩⟩
  refine H.alloc fun w1 b4 _ H=>?_
  simp only [A0_add]
  refine H.sto 0 rfl (by simp) fun w2 _ H=>?_
  refine H.sto 0 rfl (by simp) fun w3 _ H=>OSome.i ⟨_,_,_,H.cell 1 rfl rfl,by omega,by omega,OSome.i ?_⟩
  refine H.sto 1 rfl (by simp) fun w4 _ H=>⟨_,_,⟨by rw [A0_add];exact H.cell 0 rfl rfl,by rw [A0_add];exact H.cell 0 rfl rfl,trivial⟩,?_⟩
  refine h w4 ⟨some p,l.length-1,c,by rw [List.length_take];omega,?_⟩
  have H2:=H.tail.cut 1 rfl (l.length-1) (by omega) (fun h=>by cases h)
  rw [prs_take]at H2
  rw [Int.toNat_natCast,sA_zero]at H2
  exact H2
end Go.Proofs.Tryz
namespace Go.Proofs.Tryz
open Go Go.RowKit Go.Proofs.VC
variable {M:List Nat} {w0 w:World} {L:List En}
theorem shlI_i64 (a n:Nat) (h:n≤64) (hb:a*2^n<9223372036854775808):shlI .i64 (a:Int) (n:Int)=((a*2^n:Nat):Int):=by
 have e:min n (IntKind.bits .i64)=n:=Nat.min_eq_left h
 show IntKind.wrap .i64 ((a:Int)*2^(min (n:Int).toNat (IntKind.bits .i64)))=_
 have e2:(a:Int)*2^n=((a*2^n:Nat):Int):=by push_cast;rfl
 rw [Int.toNat_natCast,e,e2]
 exact wrap_i64 _ (by omega) (by omega)
theorem T_canon_May (a:Option Addr) (n c:Nat) (l:List Nat) (w:World) (hs:SlI w a n (nats l)) (hb:∀x∈l,x<9223372036854775808):Calls prog n_canon_May #[.slice a n c] w fun e w'=>e= .returned (.bool (mayL l))∧Fr [] w w':=by
 obtain⟨rfl,hs⟩:=hs
 rw [nats_len]
 refine S_canon_May ?_
 unfold F_canon_May
 refine bif_i (fun h0=>⟨?_,Fr.refl _ _⟩) fun h0=>?_
 · have:l.length≠65:=by intro e;rw [e]at h0;exact absurd h0 (by decide)
   rw [mayL,beq_eq_false_iff_ne.2 this];rfl
 · have h65:l.length=65:=by
    have:¬((l.length:Int)≠65):=by simpa using h0
    omega
   refine⟨fun m x y z w1=>∃i:Nat,x=((kraft (l.take i):Nat):Int)∧y=((manyL (l.take i):Nat):Int)∧z=(i:Int)∧m+i=l.length∧(∀v∈l.take i,v≤15)∧Fr [] w w1,⟨l.length,0,rfl,rfl,rfl,rfl,by simp,Fr.refl _ _⟩,?_⟩
   rintro m x y z w1 ⟨i,rfl,rfl,rfl,hm,hv,hf⟩
   refine bif_i (fun h1=>?_) fun h1=>?_
   · have hi:i<l.length:=by have:=of_decide_eq_true h1;omega
     have e0:l.take (i+1)=l.take i++ [l[i]]:=List.take_succ_eq_append_getElem hi
     have hk:=kraft_le (l.take i)
     have hmn:=manyL_le (l.take i)
     have hli:(l.take i).length=i:=by rw [List.length_take];omega
     have hlb:=hb _ (List.getElem_mem hi)
     refine⟨by omega,by omega,hs.read (i64s_get (nats_get (List.getElem?_eq_getElem hi))) fun p hp hc=>⟨_,by rw [Int.toNat_natCast,Nat.mul_one];exact hf.cell0 hc,?_⟩⟩
     intro J9 hJ
     refine bif_f (by simp) (bif_i (fun h2=>⟨?_,hf⟩) fun h2=>hJ _ ?_)
     · have h2':15<l[i]:=by have:=of_decide_eq_true h2;omega
       have:l.all (fun n=>decide (n≤15))=false:=by
        rw [List.all_eq_false]
        exact⟨l[i],List.getElem_mem hi,by simp;omega⟩
       rw [mayL,this,Bool.and_false,Bool.false_and]
     · have h2':l[i]≤15:=by have:=of_decide_eq_false h2;omega
       have hv':∀v∈l.take (i+1),v≤15:=by
        intro v hv'
        rw [e0]at hv'
        rcases List.mem_append.1 hv' with h|h
        · exact hv v h
        · simp at h;omega
       refine bif_i (fun h3=>?_) fun h3=>?_
       · have h3':0<l[i]:=by have:=of_decide_eq_true h3;omega
         have hpow:2^(15-l[i])≤2^14:=Nat.pow_le_pow_right (by decide) (by omega)
         have h14:(2:Nat)^14=16384:=by decide
         have k1:kraft [l[i]]=2^(15-l[i]):=by simp only [kraft,List.map_cons,List.map_nil,List.sum_cons,List.sum_nil,krOf];rw [if_neg (by omega)];rfl
         have m1:manyL [l[i]]=1:=by simp [manyL,h3']
         rw [W64_idn (n:=(15:Int)-((l[i]:Nat):Int)) (m:=15-l[i]) (by omega) (by omega),show(1:Int)=((1:Nat):Int)from rfl,shlI_i64 1 (15-l[i]) (by omega) (by omega),Nat.one_mul]
         refine⟨by omega,m-1,by omega,i+1,?_,?_,W64_succ (by omega),by omega,hv',hf⟩
         · rw [W64_idn (m:=kraft (l.take i)+2^(15-l[i])) (by omega) (by omega),e0,kraft_app,k1]
         · rw [e0,manyL_app,m1]
           exact W64_idn (by omega) (by omega)
       · have h3':l[i]=0:=by have:=of_decide_eq_false h3;omega
         refine⟨m-1,by omega,i+1,?_,?_,W64_succ (by omega),by omega,hv',hf⟩
         · rw [e0,kraft_app];simp [kraft,krOf,h3']
         · rw [e0,manyL_app];simp [manyL,h3']
   · have hi:i=l.length:=by have:=of_decide_eq_false h1;omega
     subst hi
     rw [List.take_of_length_le (Nat.le_refl _)]at hv ⊢
     have hM:mayL l=(manyL l==0||kraft l==32768||(manyL l==1&&kraft l==16384)):=by
      have:l.all (fun n=>decide (n≤15))=true:=by rw [List.all_eq_true];intro x hx;simpa using hv x hx
      rw [mayL,this,h65];rfl
     have b0:(((manyL l:Nat):Int)==0)=(manyL l==0):=by rw [Bool.eq_iff_iff];simp only [beq_iff_eq];omega
     have b1:(((kraft l:Nat):Int)==32768)=(kraft l==32768):=by rw [Bool.eq_iff_iff];simp only [beq_iff_eq];omega
     have b2:(((manyL l:Nat):Int)==1)=(manyL l==1):=by rw [Bool.eq_iff_iff];simp only [beq_iff_eq];omega
     have b3:(((kraft l:Nat):Int)==16384)=(kraft l==16384):=by rw [Bool.eq_iff_iff];simp only [beq_iff_eq];omega
     rw [b0,b1,b2,b3,hM]
     refine bif_i (fun h2=>⟨by rw [h2];rfl,hf⟩) fun h2=>bif_i (fun h3=>⟨by rw [h2,h3];rfl,hf⟩) fun h3=>bif_i (fun h4=>⟨by rw [h2,h3,h4];rfl,hf⟩) fun h4=>⟨by rw [h2,h3,h4];rfl,hf⟩
end Go.Proofs.Tryz
namespace Go.Proofs.Tryz
open Go Go.RowKit Go.Proofs.VC
theorem ordN_of {freq:List Nat} {c:Nat} (h1:c<freq.length) (h2:0<freq.getD c 0):c∈ordN freq:=by
 have gen:∀(l:List Nat) (k c:Nat),c<l.length→0<l.getD c 0→((((k+c:Nat):Int)),((l.getD c 0:Nat):Int))∈prsF k (nats l):=by
  intro l
  induction l with
  |nil=>intro k c hc _;simp at hc
  |cons n l ih=>
   intro k c hc h0
   have e:nats (n::l)=(n:Int)::nats l:=rfl
   rw [e,prsF]
   cases c with
   |zero=>
    simp only [List.getD_cons_zero]at h0 ⊢
    rw [if_pos (by omega)];simp
   |succ c=>
    simp only [List.getD_cons_succ]at h0 ⊢
    have:=ih (k+1) c (by simpa using hc) h0
    rw [show k+1+c=k+(c+1) by omega]at this
    split
    · exact List.mem_cons_of_mem _ this
    · exact this
 have:=gen freq 0 c h1 h2
 rw [Nat.zero_add]at this
 simp only [ordN,orderN,orderP,List.mem_map]
 exact⟨_,⟨_,List.mem_mergeSort.2 this,rfl⟩,rfl⟩
theorem ordN_nodup (freq:List Nat):(ordN freq).Nodup:=by
 have gen:∀(l:List Nat) (k:Nat),((prsF k (nats l)).map (·.1.toNat)).Nodup∧∀x∈(prsF k (nats l)).map (·.1.toNat),k≤x:=by
  intro l
  induction l with
  |nil=>intro k;simp [nats,prsF]
  |cons n l ih=>
   intro k
   have e:nats (n::l)=(n:Int)::nats l:=rfl
   rw [e,prsF]
   obtain⟨h1,h2⟩:=ih (k+1)
   split
   · simp only [List.map_cons,List.nodup_cons,Int.toNat_natCast]
     refine⟨⟨fun h=>?_,h1⟩,fun x hx=>?_⟩
     · have:=h2 _ h;omega
     · rcases List.mem_cons.1 hx with rfl|hx
       · exact Nat.le_refl _
       · have:=h2 _ hx;omega
   · exact⟨h1,fun x hx=>by have:=h2 _ hx;omega⟩
 have e:ordN freq=(orderP (nats freq)).map (·.1.toNat):=by simp [ordN,orderN]
 rw [e]
 exact(((List.mergeSort_perm (prsF 0 (nats freq)) leG).map _).nodup_iff).2 (gen freq 0).1
theorem kraft_set {out:List Nat} {c v:Nat} (hc:c<out.length) (h0:out.getD c 0=0):kraft (out.set c v)=kraft out+krOf v:=by
 induction out generalizing c with
 |nil=>simp at hc
 |cons x out ih=>
  cases c with
  |zero=>
   simp only [List.getD_cons_zero]at h0
   subst h0
   simp only [List.set_cons_zero,kraft,List.map_cons,List.sum_cons,krOf]
   simp;omega
  |succ c=>
   have:=ih (c:=c) (by simpa using hc) (by simpa using h0)
   simp only [List.set_cons_succ,kraft,List.map_cons,List.sum_cons]at this ⊢
   omega
theorem getD_set (l:List Nat) (i j v:Nat):(l.set i v).getD j 0=if i=j∧i<l.length then v else l.getD j 0:=by
 rw [List.getD_eq_getElem?_getD,List.getElem?_set,List.getD_eq_getElem?_getD]
 by_cases e:i=j
 · subst e
   by_cases h:i<l.length
   · rw [if_pos rfl,if_pos h,if_pos ⟨rfl,h⟩];rfl
   · rw [if_pos rfl,if_neg h,if_neg (fun h'=>h h'.2),List.getElem?_eq_none (by omega)]
 · rw [if_neg e,if_neg fun h=>e h.1]
theorem setAll_get (v:Nat):∀(cs:List Nat) (out:List Nat),(∀c∈cs,c<out.length)→∀j,(setAll out cs v).getD j 0=if j∈cs then v else out.getD j 0
 | [],out,_,j=>by simp [setAll]
 |c::cs,out,h,j=>by
  have ih:=setAll_get v cs (out.set c v) (fun x hx=>by rw [List.length_set];exact h x (List.mem_cons_of_mem _ hx)) j
  show(setAll (out.set c v) cs v).getD j 0=_
  rw [ih,getD_set]
  by_cases h1:j∈cs
  · rw [if_pos h1,if_pos (List.mem_cons_of_mem _ h1)]
  · rw [if_neg h1]
    by_cases h2:c=j
    · subst h2;rw [if_pos ⟨rfl,h c (List.mem_cons_self ..)⟩,if_pos (List.mem_cons_self ..)]
    · rw [if_neg fun h=>h2 h.1,if_neg]
      rw [List.mem_cons];rintro(h3|h3)
      · exact h2 h3.symm
      · exact h1 h3
theorem setAll_kraft {v:Nat}:∀ {cs out:List Nat},cs.Nodup→(∀c∈cs,c<out.length∧out.getD c 0=0)→kraft (setAll out cs v)=kraft out+cs.length*krOf v
 | [],out,_,_=>by simp [setAll]
 |c::cs,out,hn,h=>by
  obtain⟨hn1,hn2⟩:=List.nodup_cons.1 hn
  have h0:=h c (List.mem_cons_self ..)
  have:=setAll_kraft (v:=v) (cs:=cs) (out:=out.set c v) hn2 fun x hx=>by
   have hx':=h x (List.mem_cons_of_mem _ hx)
   refine⟨by rw [List.length_set];exact hx'.1,?_⟩
   rw [getD_set,if_neg]
   · exact hx'.2
   · rintro⟨rfl,_⟩;exact hn1 hx
  show kraft (setAll (out.set c v) cs v)=_
  rw [this,kraft_set h0.1 h0.2,List.length_cons,Nat.succ_mul];omega
theorem lensW_ok {S:Nat→Nat} {ord:List Nat} (hn:ord.Nodup) (h65:∀c∈ord,c<65) (lim:Nat) (hl:lim≤15):∀(f d dn op:Nat) (out:List Nat),f+d=lim+1→1≤d→dn≤ord.length→(∃x,bst S ord.length f dn op=some x)→out.length=65→
 (∀c,c∈ord.take dn→1≤out.getD c 0)→(∀c,c∉ord.take dn→out.getD c 0=0)→(∀x∈out,x≤lim)→kraft out+op*2^(15-d)=32768→
 (lensW S ord f d dn op out).length=65∧(∀c,c∈ord→1≤(lensW S ord f d dn op out).getD c 0)∧(∀c,c∉ord→(lensW S ord f d dn op out).getD c 0=0)∧(∀x∈lensW S ord f d dn op out,x≤lim)∧kraft (lensW S ord f d dn op out)=32768
 |f,d,dn,op,out,hf,hd,hdn,⟨x,hx⟩,hlen,h1,h2,h3,hk=>by
  by_cases hend:dn=ord.length
  · have hop:op=0:=by
     by_cases e:op=0
     · exact e
     · rw [bst_bad (by omega) (.inr (.inl (by omega)))]at hx;cases hx
    have hw:lensW S ord f d dn op out=out:=by
     cases f with
     |zero=>rfl
     |succ f=>rw [lensW,if_pos (by omega)]
    rw [hw]
    subst hend hop
    rw [List.take_length]at h1 h2
    exact⟨hlen,h1,h2,h3,by omega⟩
  · cases f with
    |zero=>rw [bst_bad (by omega) (.inr (.inr rfl))]at hx;cases hx
    |succ f=>
     obtain⟨cb,k⟩:=x
     obtain⟨ho,hol,hko,hnx⟩:=bst_next hx (by omega)
     have hw:lensW S ord (f+1) d dn op out=lensW S ord f (d+1) (dn+k) (2*(op-k)) (setAll out ((ord.drop dn).take k) d):=by
      rw [lensW,if_neg (by omega),hx]
     rw [hw]
     have htk:ord.take (dn+k)=ord.take dn++(ord.drop dn).take k:=List.take_add
     have hndt:(ord.take dn++(ord.drop dn).take k).Nodup:=by rw [←htk];exact hn.sublist (List.take_sublist _ _)
     obtain⟨hn1,hn2,hn3⟩:=List.nodup_append.1 hndt
     have hmem:∀c∈(ord.drop dn).take k,c<out.length∧out.getD c 0=0:=fun c hc=>by
      refine⟨by rw [hlen];exact h65 c (List.mem_of_mem_drop (List.mem_of_mem_take hc)),h2 c fun hc2=>?_⟩
      exact hn3 c hc2 c hc rfl
     have hlk:((ord.drop dn).take k).length=k:=by rw [List.length_take,List.length_drop];omega
     have hget:=setAll_get d ((ord.drop dn).take k) out fun c hc=>(hmem c hc).1
     refine lensW_ok hn h65 lim hl f (d+1) (dn+k) (2*(op-k)) _ (by omega) (by omega) (by omega) hnx (by rw [setAll_len];exact hlen) (fun c hc=>?_) (fun c hc=>?_) (fun x hx=>?_) ?_
     · rw [htk]at hc
       rw [hget]
       split
       · exact hd
       · rename_i h4
         rcases List.mem_append.1 hc with hc|hc
         · exact h1 c hc
         · exact absurd hc h4
     · rw [htk,List.mem_append]at hc
       rw [hget,if_neg fun h=>hc (.inr h)]
       exact h2 c fun h=>hc (.inl h)
     · obtain⟨j,hj⟩:=List.mem_iff_getElem?.1 hx
       have hj2:(setAll out ((ord.drop dn).take k) d).getD j 0=x:=by rw [List.getD_eq_getElem?_getD,hj];rfl
       rw [hget]at hj2
       split at hj2
       · have:f+1≠0:=by omega
         omega
       · rw [←hj2,List.getD_eq_getElem?_getD]
         by_cases h6:j<out.length
         · rw [List.getElem?_eq_getElem h6];exact h3 _ (List.getElem_mem h6)
         · rw [List.getElem?_eq_none (by omega)];simp
     · rw [setAll_kraft hn2 hmem,hlk]
       have hkr:krOf d=2^(15-d):=by rw [krOf,if_neg (by omega)]
       rw [hkr]
       by_cases e:d<15
       · have hp:2^(15-d)=2*2^(15-(d+1)):=by rw [show 15-d=15-(d+1)+1 by omega,Nat.pow_succ,Nat.mul_comm]
         have e1:2*(op-k)*2^(15-(d+1))=(op-k)*2^(15-d):=by rw [hp,Nat.mul_comm 2 (op-k),Nat.mul_assoc]
         rw [e1,Nat.add_assoc,←Nat.add_mul,show k+(op-k)=op by omega]
         exact hk
       · -- the last length:all are taken
         have hd15:d=15:=by omega
         have hf0:f=0:=by omega
         subst hf0
         obtain⟨x,hx0⟩:=hnx
         rw [bst]at hx0
         split at hx0
         · rename_i h7
           have:op-k=0:=by omega
           rw [this]
           have:k=op:=by omega
           subst this
           simpa using hk
         · cases hx0
theorem manyL_zero (n:Nat):manyL (List.replicate n 0)=0:=by simp [manyL,List.countP_replicate]
theorem kraft_zero (n:Nat):kraft (List.replicate n 0)=0:=by simp [kraft,krOf]
theorem lengths_ok {freq:List Nat} {lim:Nat} (h65:freq.length=65) (hl:7≤lim∧lim≤15) (hne:(ordN freq).length≠0):mayL (lengthsN freq lim)=true∧∀c,c<65→0<freq.getD c 0→(lengthsN freq lim).getD c 0≠0:=by
 have hmem:=fun c (h:c∈ordN freq)=>ordN_mem h
 have hlen:(ordN freq).length≤65:=by have:=ordN_len freq;omega
 by_cases h1:(ordN freq).length=1
 · obtain⟨c0,hc0⟩:=List.length_eq_one_iff.1 h1
   have hc:=hmem c0 (by rw [hc0];simp)
   have e:lengthsN freq lim=(List.replicate 65 0).set c0 1:=by rw [lengthsN,if_pos h1,hc0];rfl
   rw [e]
   have hc65:c0<65:=by omega
   refine⟨?_,fun c hc1 hc2=>?_⟩
   · have hk:kraft ((List.replicate 65 0).set c0 1)=16384:=by
      rw [kraft_set (by simpa using hc65) (by rw [List.getD_eq_getElem?_getD,List.getElem?_replicate];split<;>rfl),kraft_zero];rfl
     have hm:∀(n c:Nat),c<n→manyL ((List.replicate n 0).set c 1)=1:=by
      intro n
      induction n with
      |zero=>intro c h;omega
      |succ n ih=>
       intro c h
       rw [List.replicate_succ]
       cases c with
       |zero=>
        have:=manyL_zero n
        simp only [List.set_cons_zero,manyL,List.countP_cons]at this ⊢
        rw [this];rfl
       |succ c=>
        have:=ih c (by omega)
        simp only [List.set_cons_succ,manyL,List.countP_cons]at this ⊢
        rw [this];rfl
     have ha:(((List.replicate 65 0).set c0 1)).all (fun n=>decide (n≤15))=true:=by
      rw [List.all_eq_true]
      intro x hx
      rcases List.mem_or_eq_of_mem_set hx with hx|hx
      · rw [(List.mem_replicate.1 hx).2];rfl
      · subst hx;rfl
     rw [mayL,ha,hm 65 c0 hc65,hk];simp
   · have:c∈ordN freq:=ordN_of (by omega) hc2
     rw [hc0]at this
     simp at this
     subst this
     rw [getD_set,if_pos ⟨rfl,by simpa using hc65⟩];decide
 · have h2:2≤(ordN freq).length:=by omega
   have e:lengthsN freq lim=lensW (sumAt (sufS (freqsOf freq) (freqsOf freq).length)) (ordN freq) lim 1 0 2 (List.replicate 65 0):=by rw [lengthsN,if_neg h1,if_neg (by omega)]
   have hpw:2^6≤2^(lim-1):=Nat.pow_le_pow_right (by decide) (by omega)
   have h64:(2:Nat)^6=64:=by decide
   have hb:=Option.ne_none_iff_exists'.1 (bst_may (S:=sumAt (sufS (freqsOf freq) (freqsOf freq).length)) (N:=(ordN freq).length) (f:=lim) (dn:=0) (op:=2) (Nat.zero_le _) (.inr ⟨by decide,by omega,by omega,by omega⟩))
   obtain⟨r1,r2,r3,r4,r5⟩:=lensW_ok (ordN_nodup freq) (fun c hc=>by have:=hmem c hc;omega) lim hl.2 lim 1 0 2 (List.replicate 65 0) rfl (by decide) (Nat.zero_le _) hb (by simp) (by simp) (fun c _=>by
    rw [List.getD_eq_getElem?_getD,List.getElem?_replicate];split<;>rfl) (fun x hx=>by rw [(List.mem_replicate.1 hx).2];omega) (by rw [kraft_zero])
   rw [←e]at r1 r2 r3 r4 r5
   refine⟨?_,fun c hc1 hc2=>?_⟩
   · have ha:(lengthsN freq lim).all (fun n=>decide (n≤15))=true:=by
      rw [List.all_eq_true]
      intro x hx
      have:=r4 x hx
      simp;omega
     rw [mayL,r1,ha,r5];simp
   · have:=r2 c (ordN_of (by omega) hc2)
     omega
end Go.Proofs.Tryz
namespace Go.Proofs.Tryz
open Go Go.RowKit Go.Proofs.VC
variable {M:List Nat} {w0 w:World} {L:List En}
def share (n log all:Nat):Nat:=if 0<n then max 1 (n*2^log/all)else 0
def out0 (freq:List Nat) (log:Nat):List Nat:=freq.map fun n=>share n log freq.sum
def normN (freq:List Nat) (log:Nat):List Nat:=
 if (out0 freq log).sum≤2^log then(out0 freq log).set ((ordN freq).getD 0 0) ((out0 freq log).getD ((ordN freq).getD 0 0) 0+(2^log-(out0 freq log).sum))else takeMany ((out0 freq log).sum-2^log) (out0 freq log)
theorem out0_len (freq:List Nat) (log:Nat):(out0 freq log).length=freq.length:=by simp [out0]
theorem normN_len (freq:List Nat) (log:Nat):(normN freq log).length=freq.length:=by
 unfold normN;split
 · rw [List.length_set,out0_len]
 · rw [takeMany_len,out0_len]
theorem mem_le_sum {l:List Nat} {x:Nat} (h:x∈l):x≤l.sum:=by
 induction l with
 |nil=>cases h
 |cons y l ih=>
  rcases List.mem_cons.1 h with rfl|h
  · simp
  · have:=ih h;simp;omega
theorem share_le {n log all:Nat} (hn:n≤all):share n log all≤max 1 (2^log):=by
 unfold share;split
 · have:n*2^log/all≤2^log:=by
    by_cases h:all=0
    · subst h;simp
    · exact Nat.div_le_of_le_mul (Nat.mul_le_mul_right _ hn)
   omega
 · omega
theorem sum_le_const {l:List Nat} {b:Nat} (h:∀x∈l,x≤b):l.sum≤l.length*b:=by
 induction l with
 |nil=>simp
 |cons x l ih=>
  have h1:=h x (by simp)
  have h2:=ih fun y hy=>h y (by simp [hy])
  simp only [List.sum_cons,List.length_cons,Nat.succ_mul];omega
theorem out0_sum {freq:List Nat} {log:Nat} (h65:freq.length=65) (hlog:log≤12):(out0 freq log).sum≤266240:=by
 have h12:2^log≤2^12:=Nat.pow_le_pow_right (by decide) hlog
 have e:(2:Nat)^12=4096:=by decide
 have:=sum_le_const (l:=out0 freq log) (b:=4096) fun x hx=>by
  simp only [out0,List.mem_map]at hx
  obtain⟨n,hn,rfl⟩:=hx
  have:=share_le (log:=log) (mem_le_sum hn)
  omega
 rw [out0_len,h65]at this;omega
theorem T_norm_mayLog (log:Nat) (w:World):Calls prog n_norm_mayLog #[.int .i64 (log:Int)] w fun e w'=>e= .returned (.bool (decide (7≤log∧log≤12)))∧Fr [] w w':=by
 refine S_norm_mayLog ?_
 unfold F_norm_mayLog
 refine bif_i (fun h=>⟨?_,Fr.refl _ _⟩) fun h=>⟨?_,Fr.refl _ _⟩
 · have:=of_decide_eq_true h
   have e:decide ((log:Int)≤12)=decide (7≤log∧log≤12):=decide_eq_decide.2 (by omega)
   rw [e]
 · have:=of_decide_eq_false h
   rw [decide_eq_false (by omega)]
theorem T_norm_Of_1 (n:Int) (w:World):Calls prog n_norm_Of_1 #[.int .i64 n] w fun e w'=>e= .returned (.bool (decide (n<0)||decide (n>16777216)))∧Fr [] w w':=by
 refine S_norm_Of_1 ?_
 unfold F_norm_Of_1
 refine bif_i (fun h=>?_) fun h=>?_
 · rw [h];exact⟨rfl,Fr.refl _ _⟩
 · rw [h];exact⟨rfl,Fr.refl _ _⟩
theorem shl_one {log:Nat} (h:log≤62):shlI .i64 (1:Int) (log:Int)=((2^log:Nat):Int):=by
 have hp:2^log≤2^62:=Nat.pow_le_pow_right (by decide) h
 have e:(2:Nat)^62=4611686018427387904:=by decide
 have:=shlI_i64 1 log (by omega) (by omega)
 rwa [Nat.one_mul]at this
theorem T_norm_Of (a:Option Addr) (n c:Nat) (freq:List Nat) (log:Nat) (w:World) (hs:SlI w a n (nats freq)) (h65:freq.length=65) (hb:∀x∈freq,x≤16777216) (hsum:freq.sum≤1000000) (hpos:0<freq.sum) (hl:7≤log∧log≤12):
 Calls prog n_norm_Of #[.slice a n c,.int .i64 (log:Int)] w fun e w'=>∃b,e= .returned (.tuple #[.slice (some (A0 b)) 65 65,.int .i64 0])∧Sx [] w w' [.ob b (.cells (i64s (nats (normN freq log))).toArray t_int (0,0))]:=by
 have h12:2^log≤2^12:=Nat.pow_le_pow_right (by decide) hl.2
 have e12:(2:Nat)^12=4096:=by decide
 have hp0:=Nat.two_pow_pos log
 have hos:=out0_sum h65 hl.2
 refine S_norm_Of ?_
 unfold F_norm_Of
 have hc:Calls prog n_slices_ContainsFunc_S_int_int #[.slice a n c,.func (.func n_norm_Of_1) #[] #[]] w fun e w'=>e= .returned (.bool false)∧Fr [] w w':=by
  refine S_slices_ContainsFunc_S_int_int ?_
  unfold F_slices_ContainsFunc_S_int_int
  refine(T_slices_IndexFunc_no a n c (nats freq) n_norm_Of_1 (by decide) _ (fun x w=>T_norm_Of_1 x w) w hs (by rw [nats_len];omega) fun x hx=>?_).mono ?_
  · simp only [nats,List.mem_map]at hx
    obtain⟨y,hy,rfl⟩:=hx
    have:=hb y hy
    simp;omega
  · rintro e w' ⟨rfl,hf⟩
    exact⟨_,rfl,rfl,hf⟩
 refine hc.mono ?_
 rintro e w1 ⟨rfl,hf1⟩
 have hn:n=65:=by rw [hs.1,nats_len,h65]
 subst hn
 refine⟨_,rfl,?_⟩
 intro J4 hJ4
 refine bif_f rfl (bif_f rfl ?_)
 refine(T_norm_mayLog log w1).mono ?_
 rintro e w2 ⟨rfl,hf2⟩
 refine⟨_,rfl,bif_f (by simp;omega) ?_⟩
 have hf12:=hf1.trans hf2
 refine(T_norm_sum a 65 c freq w2 (hs.fr0 hf12) (by omega) (by omega)).mono ?_
 rintro e w3 ⟨rfl,hf3⟩
 have hf13:=hf12.trans hf3
 refine⟨_,rfl,bif_f (by simp;omega) (hJ4 w3 ?_)⟩
 rintro w4 rfl
 have hf14:Fr [] w w3.drew:=hf13.trans (Fr.drew _ _)
 refine⟨by omega,?_⟩
 refine(T_norm_sum a 65 c freq w3.drew (hs.fr0 hf14) (by omega) (by omega)).mono ?_
 rintro e w5 ⟨rfl,hf5⟩
 have H:Sx [] w w5 []:=⟨hf14.trans hf5,by simp,by simp⟩
 refine⟨_,rfl,trivial,by decide,by decide,by decide,H.alloc fun w6 b35 _ H=>?_⟩
 rw [mk_int]at H
 have hz:List.replicate (Int.toNat 65) (0:Int)=nats (List.replicate 65 0):=by
  show List.replicate 65 (0:Int)=_
  simp [nats]
 rw [hz]at H
 rw [shl_one (by omega)]
 have hol:(out0 freq log).length=65:=by rw [out0_len,h65]
 refine⟨fun m x w6=>∃i:Nat,x=(i:Int)∧m+i=65∧Sx [] w w6 [.ob b35 (.cells (i64s (nats ((out0 freq log).take i++List.replicate (65-i) 0))).toArray t_int (0,0))],⟨65,0,rfl,rfl,H⟩,?_⟩
 rintro m x w6 ⟨i,rfl,hmi,H⟩
 refine bif_i (fun h=>?_) fun h=>?_
 · have hi:i<65:=by have:(i:Int)<((65:Nat):Int):=of_decide_eq_true h;omega
   have hif:i<freq.length:=by omega
   have hio:i<(out0 freq log).length:=by omega
   have hrep:List.replicate (65-i) 0=0::List.replicate (65-(i+1)) 0:=by
    rw [show 65-i=65-(i+1)+1 by omega,List.replicate_succ]
   have htl:((out0 freq log).take i).length=i:=by rw [List.length_take];omega
   have hov:(out0 freq log)[i]=share freq[i] log freq.sum:=by simp [out0]
   have hset:((out0 freq log).take i++List.replicate (65-i) 0).set i (out0 freq log)[i]=(out0 freq log).take (i+1)++List.replicate (65-(i+1)) 0:=by
    rw [hrep,List.set_append_right _ _ (by omega),htl,Nat.sub_self,List.set_cons_zero,List.take_succ_eq_append_getElem hio,List.append_assoc];rfl
   have hfi:freq[i]≤freq.sum:=mem_le_sum (List.getElem_mem hif)
   refine⟨by omega,by omega,hs.2.read (i64s_get (nats_get (List.getElem?_eq_getElem hif))) fun p hp hc=>⟨_,by rw [Int.toNat_natCast,Nat.mul_one];exact H.fr.cell0 hc,bif_i (fun h2=>?_) fun h2=>?_⟩⟩
   · have h2':0<freq[i]:=by have:=of_decide_eq_true h2;omega
     refine⟨by omega,by omega,by show(i:Int)<65;omega,OSome.i ?_⟩
     have hmul:freq[i]*2^log≤1000000*4096:=Nat.mul_le_mul (by omega) (by omega)
     have a1:W64 (((freq[i]:Nat):Int)*((2^log:Nat):Int))=((freq[i]*2^log:Nat):Int):=W64_idn (by push_cast;rfl) (by omega)
     have hdiv:freq[i]*2^log/freq.sum≤1000000*4096:=Nat.le_trans (Nat.div_le_self _ _) hmul
     have a2:W64 (((freq[i]*2^log/freq.sum:Nat)):Int)=((freq[i]*2^log/freq.sum:Nat):Int):=W64_nat (by omega)
     rw [A0_add,Int.toNat_natCast,Nat.mul_one,a1,tdiv_nat,a2]
     have a3:(if (((freq[i]*2^log/freq.sum:Nat)):Int)>(1:Int)then(((freq[i]*2^log/freq.sum:Nat)):Int)else(1:Int))=(((out0 freq log)[i]:Nat):Int):=by
      rw [hov,share,if_pos h2']
      split<;>omega
     rw [a3]
     refine H.sto 0 rfl (by simp [htl];omega) fun w7 _ H=>⟨m-1,by omega,i+1,W64_succ (by omega),by omega,?_⟩
     have H:Sx [] w w7 [.ob b35 (.cells ((i64s (nats ((out0 freq log).take i++List.replicate (65-i) 0))).toArray.setIfInBounds i (.int .i64 (((out0 freq log)[i]:Nat):Int))) t_int (0,0))]:=H
     rw [nats_put,hset]at H
     exact H
   · have h2':freq[i]=0:=by have:=of_decide_eq_false h2;omega
     have hoz:(out0 freq log)[i]=0:=by rw [hov,share,if_neg (by omega)]
     refine⟨m-1,by omega,i+1,W64_succ (by omega),by omega,?_⟩
     have e:(out0 freq log).take (i+1)++List.replicate (65-(i+1)) 0=(out0 freq log).take i++List.replicate (65-i) 0:=by
      rw [hrep,List.take_succ_eq_append_getElem hio,List.append_assoc,hoz];rfl
     rw [e]
     exact H
 · have hi:i=65:=by have:¬(i:Int)<((65:Nat):Int):=of_decide_eq_false h;omega
   subst hi
   rw [List.take_of_length_le (by omega),Nat.sub_self,List.replicate_zero,List.append_nil]at H
   refine(T_norm_sum (some (A0 b35)) 65 65 (out0 freq log) w6 ⟨by rw [nats_len,hol],H.sl 0 rfl⟩ (by omega) (by omega)).mono ?_
   rintro e w8 ⟨rfl,hf8⟩
   have H:=H.call0 hf8
   refine⟨_,rfl,bif_i (fun h=>?_) fun h=>?_⟩
   · have a0:=of_decide_eq_true h
     rw [W64_id _ (by omega) (by omega)]at a0
     have hle:(out0 freq log).sum≤2^log:=by omega
     have a1:W64 (((2^log:Nat):Int)-(((out0 freq log).sum:Nat):Int))=((2^log-(out0 freq log).sum:Nat):Int):=W64_idn (by omega) (by omega)
     rw [a1]
     refine(T_hist_Order a 65 c (nats freq) w8 (hs.fr0 H.fr) (by rw [nats_len];omega)).mono ?_
     rintro e w9 ⟨ao,co,rfl,hOw,hf9⟩
     have H:=hOw.push H hf9
     rw [←ordN_nats,nats_len]at H ⊢
     have hmemO:=fun c (h:c∈ordN freq)=>ordN_mem h
     have hne:ordN freq≠ []:=by
      intro h0
      have hz:∀x∈freq,x=0:=by
       intro x hx
       obtain⟨j,hj,rfl⟩:=List.mem_iff_getElem.1 hx
       by_cases e:freq[j]=0
       · exact e
       · have:=ordN_of (freq:=freq) (c:=j) hj (by rw [List.getD_eq_getElem?_getD,List.getElem?_eq_getElem hj];simp;omega)
         rw [h0]at this;cases this
      have:=sum_le_const (l:=freq) (b:=0) fun x hx=>Nat.le_of_eq (hz x hx)
      omega
     obtain⟨c0,t,hct⟩:∃c0 t,ordN freq=c0::t:=by
      cases h:ordN freq with
      |nil=>exact absurd h hne
      |cons c0 t=>exact⟨c0,t,rfl⟩
     have hc0:=hmemO c0 (by rw [hct];simp)
     have hc65:c0<65:=by omega
     have hlen0:0<(ordN freq).length:=by rw [hct];simp
     have hn0:normN freq log=(out0 freq log).set c0 ((out0 freq log).getD c0 0+(2^log-(out0 freq log).sum)):=by
      rw [normN,if_pos hle,hct];rfl
     have hsl:=H.slw 0 rfl
     refine⟨_,_,_,rfl,by decide,by omega,hsl.read (i64s_get (nats_get (i:=0) (u:=c0) (by rw [hct];rfl))) fun p hp hc=>⟨_,hc,by omega,by show(c0:Int)<65;omega,OSome.i ⟨(((out0 freq log).getD c0 0:Nat):Int),?_,by omega,by show(c0:Int)<65;omega,OSome.i ?_⟩⟩⟩
     · rw [A0_add,Int.toNat_natCast,Nat.mul_one]
       exact H.cell 1 rfl (nats_arr (by omega))
     have hgl:(out0 freq log).getD c0 0≤266240:=by
      have:=sum_set (l:=out0 freq log) (i:=c0) (v:=0) (by omega)
      omega
     have a2:W64 ((((out0 freq log).getD c0 0:Nat):Int)+((2^log-(out0 freq log).sum:Nat):Int))=(((out0 freq log).getD c0 0+(2^log-(out0 freq log).sum):Nat):Int):=W64_idn (by omega) (by omega)
     rw [A0_add,Int.toNat_natCast,Nat.mul_one,a2]
     refine H.sto 1 rfl (by simp;omega) fun w10 _ H=>⟨b35,rfl,?_⟩
     have H:Sx [] w w10 [.ow t_int 1 ao (ordN freq).length co (i64s (nats (ordN freq))),.ob b35 (.cells ((i64s (nats (out0 freq log))).toArray.setIfInBounds c0 (.int .i64 (((out0 freq log).getD c0 0+(2^log-(out0 freq log).sum):Nat):Int))) t_int (0,0))]:=H
     rw [nats_put]at H
     rw [hn0]
     exact H.tail
   · have a0:=of_decide_eq_false h
     rw [W64_id _ (by omega) (by omega)]at a0
     have hle:2^log<(out0 freq log).sum:=by omega
     have a1:W64 (0-W64 (((2^log:Nat):Int)-(((out0 freq log).sum:Nat):Int)))=(((out0 freq log).sum-2^log:Nat):Int):=by
      rw [W64_id (((2^log:Nat):Int)-(((out0 freq log).sum:Nat):Int)) (by omega) (by omega)]
      exact W64_idn (by omega) (by omega)
     rw [a1]
     have hn0:normN freq log=takeMany ((out0 freq log).sum-2^log) (out0 freq log):=by rw [normN,if_neg (by omega)]
     refine T_norm_taken H hol (by omega) (by omega) fun w11 H=>⟨rfl,b35,rfl,?_⟩
     rw [hn0]
     exact H
end Go.Proofs.Tryz
namespace Go.Proofs.Tryz
open Go Go.RowKit Go.Proofs.VC
variable {M:List Nat} {w0 w:World} {L:List En}
def mayN (l:List Nat) (log:Nat):Bool:=decide (7≤log∧log≤12)&&(l.length==65)&&l.all (fun x=>decide (x≤2^log))&&(l.sum==2^log)
theorem take_sum_le (l:List Nat) (i:Nat):(l.take i).sum≤l.sum:=by
 have:=List.take_append_drop i l
 have h2:l.sum=(l.take i).sum+(l.drop i).sum:=by rw [←List.sum_append,this]
 omega
theorem T_norm_May (a:Option Addr) (n c:Nat) (l:List Nat) (log:Nat) (w:World) (hs:SlI w a n (nats l)) (hb:∀x∈l,x≤1000000) (hl:l.length≤1000):
 Calls prog n_norm_May #[.slice a n c,.int .i64 (log:Int)] w fun e w'=>e= .returned (.bool (mayN l log))∧Fr [] w w':=by
 obtain⟨rfl,hs⟩:=hs
 rw [nats_len]
 have hsum:=sum_le_const hb
 have hsum2:l.length*1000000≤1000*1000000:=Nat.mul_le_mul_right _ hl
 refine S_norm_May ?_
 unfold F_norm_May
 intro J3 hJ3
 refine(T_norm_mayLog log w).mono ?_
 rintro e w1 ⟨rfl,hf1⟩
 refine⟨_,rfl,bif_i (fun h=>?_) fun h=>bif_i (fun h2=>?_) fun h2=>hJ3 w1 ?_⟩
 · have h':decide (7≤log∧log≤12)=false:=by
    cases hd:decide (7≤log∧log≤12)with
    |false=>rfl
    |true=>rw [hd]at h;cases h
   rw [mayN,h'];exact⟨rfl,hf1⟩
 · have h':decide (7≤log∧log≤12)=true:=by
    cases hd:decide (7≤log∧log≤12)with
    |true=>rfl
    |false=>rw [hd]at h;cases h
   have h2':(l.length==65)=false:=by
    rw [beq_eq_false_iff_ne]
    have:(l.length:Int)≠65:=by simpa using h2
    omega
   rw [mayN,h',h2'];exact⟨rfl,hf1⟩
 · have h':decide (7≤log∧log≤12)=true:=by
    cases hd:decide (7≤log∧log≤12)with
    |true=>rfl
    |false=>rw [hd]at h;cases h
   have hlog:=of_decide_eq_true h'
   have h65:l.length=65:=by have:¬((l.length:Int)≠65):=by simpa using h2
                            omega
   have h2':(l.length==65)=true:=by rw [h65];rfl
   have hm:mayN l log=(l.all (fun x=>decide (x≤2^log))&&(l.sum==2^log)):=by rw [mayN,h',h2'];rfl
   rw [shl_one (by omega)]
   refine⟨by omega,fun m x y w1=>∃i:Nat,x=(((l.take i).sum:Nat):Int)∧y=(i:Int)∧m+i=l.length∧(l.take i).all (fun x=>decide (x≤2^log))=true∧Fr [] w w1,⟨l.length,0,rfl,rfl,rfl,rfl,hf1⟩,?_⟩
   rintro m x y w2 ⟨i,rfl,rfl,hmi,hall,hf⟩
   refine bif_i (fun h=>?_) fun h=>?_
   · have hi:i<l.length:=by have:=of_decide_eq_true h;omega
     have e:(l.take (i+1)).sum=(l.take i).sum+l[i]:=by rw [List.take_succ_eq_append_getElem hi,List.sum_append];simp
     have hle:=take_sum_le l (i+1)
     refine⟨by omega,by omega,hs.read (i64s_get (nats_get (List.getElem?_eq_getElem hi))) fun p hp hc=>⟨_,by rw [Int.toNat_natCast,Nat.mul_one];exact hf.cell0 hc,bif_f (by simp) (bif_i (fun h3=>⟨?_,hf⟩) fun h3=>?_)⟩⟩
     · have h3':2^log<l[i]:=by have:((l[i]:Nat):Int)>((2^log:Nat):Int):=of_decide_eq_true h3;omega
       have:l.all (fun x=>decide (x≤2^log))=false:=by
        rw [List.all_eq_false]
        exact⟨l[i],List.getElem_mem hi,by simp;omega⟩
       rw [hm,this];rfl
     · have h3':l[i]≤2^log:=by have:¬((l[i]:Nat):Int)>((2^log:Nat):Int):=of_decide_eq_false h3;omega
       refine⟨m-1,by omega,i+1,?_,W64_succ (by omega),by omega,?_,hf⟩
       · rw [e];exact W64_idn (by push_cast;rfl) (by omega)
       · rw [List.take_succ_eq_append_getElem hi,List.all_append,hall]
         simpa using h3'
   · have hi:i=l.length:=by have:=of_decide_eq_false h;omega
     subst hi
     rw [List.take_length]at hall ⊢
     refine⟨?_,hf⟩
     rw [hm,hall,Bool.true_and]
     have:(((l.sum:Nat):Int)==((2^log:Nat):Int))=(l.sum==2^log):=by
      by_cases e:l.sum=2^log
      · rw [e];simp
      · rw [beq_eq_false_iff_ne.2 e,beq_eq_false_iff_ne];omega
     rw [this]
def zr:List Nat→Nat
 | []=>0
 |x::l=>if x=0 then zr l+1 else 0
theorem zr_le:∀l:List Nat,zr l≤l.length
 | []=>Nat.le_refl _
 |x::l=>by
  have:=zr_le l
  simp only [zr,List.length_cons];split<;>omega
def normBf:Nat→List Nat→List UInt8
 |0,_=> []
 |_+1,[]=> []
 |f+1,x::l=>if x≠0 then vput x++normBf f l else vput x++(vput (zr l)++normBf f (l.drop (zr l)))
def normB (l:List Nat):List UInt8:=normBf l.length l
theorem T_norm_Put (a:Option Addr) (n c:Nat) (l:List Nat) (w:World) (hs:SlI w a n (nats l)) (hb:∀x∈l,x≤1000000) (hl:l.length≤1000):
 Calls prog n_norm_Put #[.slice a n c] w fun e w'=>e= .returned (.string (S (normB l)))∧Fr [] w w':=by
 obtain⟨rfl,hsl⟩:=hs
 rw [nats_len]
 refine S_norm_Put ?_
 unfold F_norm_Put
 have h128:(128:Nat)^(2+1)=2097152:=by decide
 have hv:∀x,x≤1000000→(vput x).length≤3:=fun x hx=>vput_len 2 x (by omega)
 refine(St.start [] w).alloc fun w1 b3 H=>?_
 refine⟨fun m x w2=>∃(i f:Nat) (out:List UInt8) (p:Value) (a2:Option Addr) (n2 c2:Nat),x=(i:Int)∧m+i=l.length∧(p= .pointer none∨p= .pointer (some (A0 b3)))∧
  l.length≤i+f∧out.length≤6*i∧out++normBf f (l.drop i)=normB l∧
  St [] w w2 [(b3,.cells #[p,.slice a2 n2 c2] t_strings_Builder (0,0))]∧Ow [] w w2 [(b3,.cells #[p,.slice a2 n2 c2] t_strings_Builder (0,0))] t_uint8 1 a2 n2 c2 (u8s out),
  ⟨l.length,0,l.length,[],_,none,0,0,rfl,rfl,.inl rfl,by omega,by simp,rfl,H,Ow.nil⟩,?_⟩
 rintro m x w2 ⟨i,f,out,p,a2,n2,c2,rfl,hm,hp,hf,hol,he,H,ho⟩
 have hn2:n2=out.length:=by
  have:=ho.len
  rw [u8s_len]at this
  omega
 refine bif_i (fun hc=>?_) (fun hc=>?_)
 · have hi:i<l.length:=by have:=of_decide_eq_true hc;omega
   obtain⟨f,rfl⟩:∃f',f=f'+1:=⟨f-1,by omega⟩
   have hd:l.drop i=l[i]::l.drop (i+1):=(List.getElem_cons_drop hi).symm
   have hbi:=hb _ (List.getElem_mem hi)
   rw [hd,normBf]at he
   refine⟨by omega,by omega,hsl.read (i64s_get (nats_get (List.getElem?_eq_getElem hi))) fun q hq hcell=>⟨((l[i]:Nat):Int),?_,?_⟩⟩
   · rw [Int.toNat_natCast,Nat.mul_one];exact H.old hcell
   rw [U64_nat,Nat.mod_eq_of_lt (by omega)]
   refine Calls.stf H (T_vint_Put _ (by omega) w2) fun w3 hf3 H3=>⟨_,rfl,?_⟩
   have ho3:=ho.call0 hf3
   have hv1:=hv _ hbi
   refine T_strings_Builder_WriteString (L:=_) H3 (j:=0) rfl hp ho3 (by omega) fun a' c' w4 H ho=>⟨_,_,rfl,by omega,by omega,hsl.read (i64s_get (nats_get (List.getElem?_eq_getElem hi))) fun q hq hcell=>⟨((l[i]:Nat):Int),?_,?_⟩⟩
   · rw [Int.toNat_natCast,Nat.mul_one];exact H.old hcell
   refine bif_i (fun h2=>?_) fun h2=>?_
   · have h2':l[i]≠0:=by have:((l[i]:Nat):Int)≠0:=by simpa using h2
                         omega
     rw [if_pos h2',←List.append_assoc]at he
     exact⟨m-1,by omega,i+1,f,_,_,_,_,_,W64_succ (by omega),by omega,.inr rfl,by omega,by rw [List.length_append];omega,he,H,ho⟩
   · have h2':l[i]=0:=by have:((l[i]:Nat):Int)=0:=by simpa using h2
                         omega
     have h2'':¬(l[i]≠0):=fun h=>h h2'
     rw [if_neg h2'',←List.append_assoc,←List.append_assoc]at he
     have hz:=zr_le (l.drop (i+1))
     rw [List.length_drop]at hz
     intro J10 hJ10
     refine⟨fun m2 x w5=>∃j:Nat,x=((i+j:Nat):Int)∧m2+j=l.length∧j+zr (l.drop (i+1+j))=zr (l.drop (i+1))∧i+j<l.length∧St [] w w5 [(b3,.cells #[.pointer (some (A0 b3)),.slice a' (n2+(vput l[i]).length) c'] t_strings_Builder (0,0))]∧
      Ow [] w w5 [(b3,.cells #[.pointer (some (A0 b3)),.slice a' (n2+(vput l[i]).length) c'] t_strings_Builder (0,0))] t_uint8 1 a' (n2+(vput l[i]).length) c' (u8s (out++vput l[i])),
      ⟨l.length,0,by omega,rfl,by simp,by omega,H,ho⟩,?_⟩
     rintro m2 x w5 ⟨j,rfl,hm2,hzj,hij,H,ho⟩
     have a1:W64 (((i+j:Nat):Int)+1)=((i+j+1:Nat):Int):=W64_succ (by omega)
     rw [a1]
     have fin:zr (l.drop (i+1+j))=0→J10 ((i+j:Nat):Int) w5:=by
      intro hz0
      have hj:j=zr (l.drop (i+1)):=by omega
      refine hJ10 _ _ ?_
      have a2:W64 (((i+j:Nat):Int)-(i:Int))=((j:Nat):Int):=W64_idn (by omega) (by omega)
      rw [a2,U64_nat,Nat.mod_eq_of_lt (by omega)]
      refine Calls.stf H (T_vint_Put _ (by omega) w5) fun w6 hf6 H6=>⟨_,rfl,?_⟩
      have ho6:=ho.call0 hf6
      have hv2:=hv j (by omega)
      refine T_strings_Builder_WriteString (L:=_) H6 (j:=0) rfl (.inr rfl) ho6 (by omega) fun a3 c3 w7 H ho=>⟨_,_,rfl,m-1-j,by omega,i+j+1,f,_,_,_,_,_,a1,by omega,.inr rfl,by omega,?_,?_,H,ho⟩
      · rw [List.length_append,List.length_append];omega
      · rw [←he,List.drop_drop,←hj,show i+1+j=i+j+1 by omega]
     refine bif_i (fun h3=>?_) fun h3=>?_
     · have hij1:i+j+1<l.length:=by have:=of_decide_eq_true h3;omega
       have hd2:l.drop (i+1+j)=l[i+j+1]::l.drop (i+1+j+1):=by
        rw [show i+1+j=i+j+1 by omega];exact(List.getElem_cons_drop hij1).symm
       refine⟨by omega,by omega,hsl.read (i64s_get (nats_get (List.getElem?_eq_getElem hij1))) fun q hq hcell=>⟨((l[i+j+1]:Nat):Int),?_,?_⟩⟩
       · rw [Int.toNat_natCast,Nat.mul_one];exact H.old hcell
       refine bif_i (fun h4=>?_) fun h4=>fin ?_
       · have h4':l[i+j+1]=0:=by have:=eq_of_beq h4;omega
         refine⟨m2-1,by omega,j+1,by omega,by omega,?_,by omega,H,ho⟩
         rw [hd2,zr,if_pos h4']at hzj
         rw [show i+1+(j+1)=i+1+j+1 by omega]
         omega
       · have h4':l[i+j+1]≠0:=by have:=ne_of_beq_false h4;omega
         rw [hd2,zr,if_neg h4']
     · have hij1:l.length≤i+j+1:=by have:=of_decide_eq_false h3;omega
       refine fin ?_
       rw [List.drop_of_length_le (by omega)];rfl
 · have hi:l.length≤i:=by have:=of_decide_eq_false hc;omega
   refine T_strings_Builder_String H (j:=0) rfl hp ho fun w' H'=>⟨_,rfl,?_,H'.fr⟩
   rw [←he,List.drop_of_length_le hi]
   cases f<;>simp [normBf]
end Go.Proofs.Tryz
namespace Go.Proofs.Tryz
open Go Go.RowKit Go.Proofs.VC
variable {M:List Nat} {w0 w:World} {L:List En}
def spStep (size:Nat):Nat:=size/2+size/8+3
def sprd (size:Nat):List Nat→List Nat×Nat→List Nat×Nat
 | [],s=>s
 |c::cs,s=>sprd size cs (s.1.set s.2 c,(s.2+spStep size)%size)
def clsSeq (l:List Nat):List Nat:=(List.range l.length).flatMap fun c=>List.replicate (l.getD c 0) c
def spreadN (l:List Nat) (log:Nat):List Nat:=(sprd (2^log) (clsSeq l) (List.replicate (2^log) 0,0)).1
theorem sprd_app (size:Nat):∀(a b:List Nat) (s:List Nat×Nat),sprd size (a++b) s=sprd size b (sprd size a s)
 | [],_,_=>rfl
 |c::a,b,s=>by rw [List.cons_append,sprd,sprd,sprd_app size a b]
theorem sprd_len (size:Nat):∀(a:List Nat) (s:List Nat×Nat),(sprd size a s).1.length=s.1.length
 | [],_=>rfl
 |c::a,s=>by rw [sprd,sprd_len size a];simp
theorem sprd_at {size:Nat} (h:0<size):∀(a:List Nat) (s:List Nat×Nat),s.2<size→(sprd size a s).2<size
 | [],_,hs=>hs
 |c::a,s,_=>by rw [sprd];exact sprd_at h a _ (Nat.mod_lt _ h)
theorem flatMap_cong {α β:Type} {l:List α} {f g:α→List β} (h:∀x∈l,f x=g x):l.flatMap f=l.flatMap g:=by
 induction l with
 |nil=>rfl
 |cons x l ih=>rw [List.flatMap_cons,List.flatMap_cons,h x (by simp),ih fun y hy=>h y (by simp [hy])]
theorem tmod_nat' (a b:Nat):Int.tmod (a:Int) (b:Int)=((a%b:Nat):Int):=by rw [Int.tmod_eq_emod_of_nonneg (by omega)];rfl
theorem T_spread_Spread (a:Option Addr) (n c:Nat) (l:List Nat) (log:Nat) (w:World) (hs:SlI w a n (nats l)) (hm:mayN l log=true):
 Calls prog n_spread_Spread #[.slice a n c,.int .i64 (log:Int)] w fun e w'=>∃b,e= .returned (.tuple #[.slice (some (A0 b)) (2^log) (2^log),.int .i64 0])∧Sx [] w w' [.ob b (.cells (i64s (nats (spreadN l log))).toArray t_int (0,0))]:=by
 have hm':=hm
 simp only [mayN,Bool.and_eq_true,decide_eq_true_eq,beq_iff_eq,List.all_eq_true]at hm'
 obtain⟨⟨⟨hlog,h65⟩,hall⟩,hsum⟩:=hm'
 have h12:2^log≤2^12:=Nat.pow_le_pow_right (by decide) hlog.2
 have e12:(2:Nat)^12=4096:=by decide
 have hp0:=Nat.two_pow_pos log
 refine S_spread_Spread ?_
 unfold F_spread_Spread
 refine(T_norm_May a n c l log w hs (fun x hx=>by have:=hall x hx;omega) (by omega)).mono ?_
 rintro e w1 ⟨rfl,hf1⟩
 rw [hm]
 refine⟨_,rfl,bif_f rfl ?_⟩
 obtain⟨rfl,hsl⟩:=hs
 rw [shl_one (by omega),nats_len]
 have H:Sx [] w w1 []:=⟨hf1,by simp,by simp⟩
 have hmk:(0:Int)≤((2^log:Nat):Int)∧((8:Nat):Int)*((2^log:Nat):Int)≤((maxMake:Nat):Int):=⟨by omega,by simp only [maxMake];omega⟩
 refine⟨by omega,hmk.1,Int.le_refl _,hmk.2,?_⟩
 rw [Int.toNat_natCast,mk_int]
 have hz:List.replicate (2^log) (0:Int)=nats (List.replicate (2^log) 0):=by simp [nats]
 rw [hz]
 generalize hsz:2^log=size at*
 refine H.alloc fun w2 b18 _ H=>?_
 refine⟨fun m x y w3=>∃i:Nat,x=(((sprd size (clsSeq (l.take i)) (List.replicate size 0,0)).2:Nat):Int)∧y=(i:Int)∧m+i=l.length∧Sx [] w w3 [.ob b18 (.cells (i64s (nats (sprd size (clsSeq (l.take i)) (List.replicate size 0,0)).1)).toArray t_int (0,0))],
  ⟨l.length,0,rfl,rfl,rfl,H⟩,?_⟩
 rintro m x y w3 ⟨i,rfl,rfl,hmi,H⟩
 refine bif_i (fun h=>?_) fun h=>?_
 · have hi:i<l.length:=by have:=of_decide_eq_true h;omega
   have hli:=hall _ (List.getElem_mem hi)
   have hseq:clsSeq (l.take (i+1))=clsSeq (l.take i)++List.replicate l[i] i:=by
    unfold clsSeq
    rw [List.length_take,Nat.min_eq_left (by omega),List.length_take,Nat.min_eq_left (by omega),List.range_succ,List.flatMap_append]
    congr 1
    · refine flatMap_cong fun c hc=>?_
      have:=List.mem_range.1 hc
      rw [List.getD_eq_getElem?_getD,List.getElem?_take,if_pos (by omega),List.getD_eq_getElem?_getD,List.getElem?_take,if_pos (by omega)]
    · simp only [List.flatMap_cons,List.flatMap_nil,List.append_nil]
      rw [List.getD_eq_getElem?_getD,List.getElem?_take,if_pos (by omega),List.getElem?_eq_getElem hi];rfl
   refine⟨by omega,by omega,hsl.read (i64s_get (nats_get (List.getElem?_eq_getElem hi))) fun p hp hc=>⟨((l[i]:Nat):Int),by rw [Int.toNat_natCast,Nat.mul_one];exact H.fr.cell0 hc,?_⟩⟩
   refine⟨fun m2 x y w4=>∃j:Nat,x=(((sprd size (clsSeq (l.take i)++List.replicate j i) (List.replicate size 0,0)).2:Nat):Int)∧y=(j:Int)∧m2+j=l[i]∧Sx [] w w4 [.ob b18 (.cells (i64s (nats (sprd size (clsSeq (l.take i)++List.replicate j i) (List.replicate size 0,0)).1)).toArray t_int (0,0))],
    ⟨l[i],0,by rw [List.replicate_zero,List.append_nil],rfl,rfl,by rw [List.replicate_zero,List.append_nil];exact H⟩,?_⟩
   rintro m2 x y w4 ⟨j,rfl,rfl,hm2,H⟩
   have hst:sprd size (clsSeq (l.take i)++List.replicate (j+1) i) (List.replicate size 0,0)=((sprd size (clsSeq (l.take i)++List.replicate j i) (List.replicate size 0,0)).1.set (sprd size (clsSeq (l.take i)++List.replicate j i) (List.replicate size 0,0)).2 i,
    ((sprd size (clsSeq (l.take i)++List.replicate j i) (List.replicate size 0,0)).2+spStep size)%size):=by
    rw [List.replicate_succ',←List.append_assoc,sprd_app];rfl
   have hat:=sprd_at hp0 (clsSeq (l.take i)++List.replicate j i) (List.replicate size 0,0) hp0
   have hln:=sprd_len size (clsSeq (l.take i)++List.replicate j i) (List.replicate size 0,0)
   generalize hst0:sprd size (clsSeq (l.take i)++List.replicate j i) (List.replicate size 0,0)=st at*
   obtain⟨out,at_⟩:=st
   simp only [List.length_replicate]at hat hln hst H ⊢
   refine bif_i (fun h2=>?_) fun h2=>?_
   · have hj:j<l[i]:=by have:=of_decide_eq_true h2;omega
     refine⟨by omega,by omega,OSome.i ?_⟩
     rw [A0_add,Int.toNat_natCast,Nat.mul_one]
     refine H.sto 0 rfl (by simp;omega) fun w5 _ H=>⟨by decide,by decide,by omega,m2-1,by omega,j+1,?_,W64_succ (by omega),by omega,?_⟩
     · have d2:Int.tdiv ((size:Nat):Int) (2:Int)=((size/2:Nat):Int):=tdiv_nat size 2
       have d8:Int.tdiv ((size:Nat):Int) (8:Int)=((size/8:Nat):Int):=tdiv_nat size 8
       have b1:W64 (((size/2:Nat)):Int)=((size/2:Nat):Int):=W64_nat (by omega)
       have b2:W64 (((size/8:Nat)):Int)=((size/8:Nat):Int):=W64_nat (by omega)
       have b3:W64 ((at_:Int)+((size/2:Nat):Int))=((at_+size/2:Nat):Int):=W64_idn (by push_cast;rfl) (by omega)
       have b4:W64 (((at_+size/2:Nat):Int)+((size/8:Nat):Int))=((at_+size/2+size/8:Nat):Int):=W64_idn (by push_cast;rfl) (by omega)
       have b5:W64 (((at_+size/2+size/8:Nat):Int)+3)=((at_+size/2+size/8+3:Nat):Int):=W64_idn (by push_cast;rfl) (by omega)
       rw [d2,d8,b1,b2,b3,b4,b5,tmod_nat',hst]
       show _=(((at_+(size/2+size/8+3))%size:Nat):Int)
       rw [show at_+size/2+size/8+3=at_+(size/2+size/8+3) by omega]
     · rw [hst]
       have H:Sx [] w w5 [.ob b18 (.cells ((i64s (nats out)).toArray.setIfInBounds at_ (.int .i64 (i:Int))) t_int (0,0))]:=H
       rw [nats_put]at H
       exact H
   · have hj:j=l[i]:=by have:=of_decide_eq_false h2;omega
     subst hj
     refine⟨m-1,by omega,i+1,?_,W64_succ (by omega),by omega,?_⟩
     · rw [hseq,hst0]
     · rw [hseq,hst0];exact H
 · have hi:i=l.length:=by have:=of_decide_eq_false h;omega
   subst hi
   rw [List.take_length]at H
   refine⟨b18,rfl,?_⟩
   have e:spreadN l log=(sprd size (clsSeq l) (List.replicate size 0,0)).1:=by rw [spreadN,hsz]
   rw [e]
   exact H
end Go.Proofs.Tryz
