import Derived.Test.YtoeokgpdmagjoaaGreatT6
/-
A part of the proof: steps of the walk and plain laws.
-/
set_option linter.unusedVariables false
namespace Go.Proofs.Tryz
open Go Go.RowKit Go.Proofs.VC
variable {M:List Nat} {w0 w:World} {L:List En}
abbrev Ce:=Nat×Nat×Nat
def ce3 (x:Ce):List Value:= [.int .i64 (x.1:Int),.int .i64 (x.2.1:Int),.int .i64 (x.2.2:Int)]
def ces (l:List Ce):List Value:=l.flatMap ce3
theorem ces_app (a b:List Ce):ces (a++b)=ces a++ces b:=by simp [ces]
theorem ces_get {l:List Ce}:∀ {i:Nat} {u:Ce},l[i]? =some u→∀j v,(ce3 u)[j]? =some v→(ces l)[i*3+j]? =some v:=by
 induction l with
 |nil=>intro i u h;simp at h
 |cons p l ih=>
  intro i u h j v hv
  have e:ces (p::l)=ce3 p++ces l:=rfl
  cases i with
  |zero=>
   simp at h;subst h
   rw [e,Nat.zero_mul,Nat.zero_add,List.getElem?_append_left (List.getElem?_eq_some_iff.1 hv).1]
   exact hv
  |succ i=>
   rw [e,List.getElem?_append_right (by simp [ce3];omega),show(i+1)*3+j-(ce3 p).length=i*3+j by simp [ce3];omega]
   exact ih (by simpa using h) j v hv
def cellN (log c x:Nat):Ce:=(c,log-(Lib.bitLen x-1),x*2^(log-(Lib.bitLen x-1))-2^log)
def tabF (log:Nat):List Nat→List Nat→List Ce
 |_,[]=> []
 |next,c::cs=>cellN log c (next.getD c 0)::tabF log (next.set c (next.getD c 0+1)) cs
def tableN (l:List Nat) (log:Nat):List Ce:=tabF log l (spreadN l log)
theorem app_Cell {b j n c:Nat} {a:Option Addr} {l:List Ce} {v:Ce} (H:Sx M w0 w (.ob b (.cells (ce3 v).toArray t_api_Cell (0,0))::L)) (hj:L[j]? =some (.ow t_api_Cell 3 a n c (ces l))) (hn:(n+1)*24≤140737488355328)
 {G:Option Addr→Nat→Nat→World→Prop} (hg:∀a' c2 w',Sx M w0 w' (L.set j (.ow t_api_Cell 3 a' (n+1) c2 (ces (l++ [v]))))→G a' (n+1) c2 w'):
 ∃x xn xc,∃w':World,(Builtin.append_ #[t_S_api_Cell,t_S_api_Cell] t_S_api_Cell #[.slice a n c,.slice (some (A0 b)) 1 1]).run prog w= .ok (.slice x xn xc) w'∧G x xn xc w':=by
 refine app H hj u_S_api_Cell i_api_Cell rfl (by decide) rfl (by simp [ce3,Value.oneCell']) hn (by decide) fun a' c2 w' H'=>hg a' c2 w' ?_
 rw [ces_app];exact H'
theorem cellN_ok {log c x:Nat} (hlog:log≤12) (h1:1≤x) (h2:x<2*2^log):1≤Lib.bitLen x∧Lib.bitLen x≤log+1∧2^log≤x*2^(log-(Lib.bitLen x-1))∧x*2^(log-(Lib.bitLen x-1))<2*2^log:=by
 have h12:2^log≤2^12:=Nat.pow_le_pow_right (by decide) hlog
 have e12:(2:Nat)^12=4096:=by decide
 obtain⟨b1,b2,b3,b4⟩:=bitLen_pos (u:=x) (by unfold WW;omega) (by omega)
 have hle:Lib.bitLen x≤log+1:=by
  rcases Nat.lt_or_ge (log+1) (Lib.bitLen x)with h|h
  · have:2^(log+1)≤2^(Lib.bitLen x-1):=Nat.pow_le_pow_right (by decide) (by omega)
    rw [Nat.pow_succ]at this
    omega
  · exact h
 have e:2^(Lib.bitLen x-1)*2^(log-(Lib.bitLen x-1))=2^log:=by rw [←Nat.pow_add];congr 1;omega
 refine⟨b1,hle,?_,?_⟩
 · rw [←e];exact Nat.mul_le_mul_right _ b3
 · have h5:x*2^(log-(Lib.bitLen x-1))<2^Lib.bitLen x*2^(log-(Lib.bitLen x-1)):=Nat.mul_lt_mul_of_pos_right b4 (Nat.two_pow_pos _)
   have e2:2^Lib.bitLen x=2*2^(Lib.bitLen x-1):=by
    obtain⟨k,hk⟩:∃k,Lib.bitLen x=k+1:=⟨Lib.bitLen x-1,by omega⟩
    rw [hk,Nat.add_sub_cancel,Nat.pow_succ,Nat.mul_comm]
   rw [e2,Nat.mul_assoc,e]at h5
   exact h5
theorem T_spread_maker_cell {R:Ending→World→Prop} {bm:Nat} {a:Option Addr} {n c log cl:Nat} {next:List Nat} (H:Sx M w0 w (.ob bm (.cells #[.int .i64 ((2^log:Nat):Int),.int .i64 (log:Int),.slice a n c] t_spread_maker (0,0)):: .ow t_int 1 a n c (i64s (nats next))::L))
 (hlog:log≤12) (hn:n=next.length) (hcl:cl<next.length) (h1:1≤next.getD cl 0) (h2:next.getD cl 0<2*2^log)
 (h:∀w',Sx M w0 w' (.ob bm (.cells #[.int .i64 ((2^log:Nat):Int),.int .i64 (log:Int),.slice a n c] t_spread_maker (0,0)):: .ow t_int 1 a n c (i64s (nats (next.set cl (next.getD cl 0+1))))::L)→R (.returned (.agg (ce3 (cellN log cl (next.getD cl 0))).toArray)) w'):
 Calls prog n_spread_maker_cell #[.pointer (some (A0 bm)),.int .i64 (cl:Int)] w R:=by
 have h12:2^log≤2^12:=Nat.pow_le_pow_right (by decide) hlog
 have e12:(2:Nat)^12=4096:=by decide
 obtain⟨c1,c2,c3,c4⟩:=cellN_ok (c:=cl) hlog h1 h2
 refine S_spread_maker_cell ?_
 unfold F_spread_maker_cell
 refine H.alloc fun w1 b4 _ H=>?_
 obtain⟨p,rfl⟩:∃p,a=some p:=by
  cases a with
  |some p=>exact⟨p,rfl⟩
  |none=>have:=(H.none 2 rfl).1;omega
 have hg:(i64s (nats next))[cl]? =some (.int .i64 ((next.getD cl 0:Nat):Int)):=by
  refine i64s_get (nats_get ?_)
  rw [List.getD_eq_getElem?_getD,List.getElem?_eq_getElem hcl];rfl
 have hrd:∀(w:World) (L':List En),Sx M w0 w (.ob b4 (.cells #[.int .i64 0,.int .i64 0,.int .i64 0] t_api_Cell (0,0)):: .ob bm (.cells #[.int .i64 ((2^log:Nat):Int),.int .i64 (log:Int),.slice (some p) n c] t_spread_maker (0,0)):: .ow t_int 1 (some p) n c (i64s (nats next))::L')→w.cell? (p.add (Int.toNat (cl:Int)*1))=some (.int .i64 ((next.getD cl 0:Nat):Int)):=by
  intro w L' H
  obtain⟨p',hp',hc⟩:=H.slw 2 rfl cl _ hg
  cases hp'
  rw [Int.toNat_natCast,Nat.mul_one];exact hc
 refine OSome.i ⟨_,_,_,by rw [A0_add];exact H.cell 1 rfl rfl,by omega,by omega,OSome.i ⟨_,hrd w1 L H,OSome.i ⟨_,_,_,by rw [A0_add];exact H.cell 1 rfl rfl,by omega,by omega,OSome.i ⟨_,hrd w1 L H,by omega,by omega,OSome.i ?_⟩⟩⟩⟩
 generalize hx:next.getD cl 0=x at*
 have a1:W64 ((x:Int)+1)=((x+1:Nat):Int):=W64_succ (by omega)
 rw [a1,Int.toNat_natCast,Nat.mul_one]
 refine H.stoW 2 rfl rfl (by rw [i64s_len,nats_len];exact hcl) fun w2 _ H=>H.drew fun w3 _ H=>OSome.i ⟨_,by rw [A0_add];exact H.cell 1 rfl rfl,?_⟩
 rw [U64_nat,Nat.mod_eq_of_lt (by omega)]
 refine(Tryz.bits_Len (x:Int) w3 (by omega) (by omega)).mono ?_
 rintro e w4 ⟨rfl,rfl⟩
 rw [Int.toNat_natCast]
 have b1:W64 (((Lib.bitLen x:Nat):Int)-1)=((Lib.bitLen x-1:Nat):Int):=W64_idn (by omega) (by omega)
 have b2:W64 ((log:Int)-((Lib.bitLen x-1:Nat):Int))=((log-(Lib.bitLen x-1):Nat):Int):=W64_idn (by omega) (by omega)
 refine⟨_,rfl,⟨id,trivial⟩,H.drew fun w5 _ H=>?_⟩
 rw [b1,b2,shlI_i64 x (log-(Lib.bitLen x-1)) (by omega) (by omega)]
 generalize hpw:x*2^(log-(Lib.bitLen x-1))=y at*
 have b3:W64 ((y:Int)-((2^log:Nat):Int))=((y-2^log:Nat):Int):=W64_idn (by omega) (by omega)
 refine⟨by omega,OSome.i ⟨_,H.cell 1 rfl rfl,?_⟩⟩
 rw [b3]
 simp only [A0_add]
 refine H.sto 0 rfl (by simp) fun w6 _ H=>H.sto 0 rfl (by simp) fun w7 _ H=>H.sto 0 rfl (by simp) fun w8 _ H=>⟨trivial,_,_,_,Sx.ld H 0 rfl,?_⟩
 have hcell:cellN log cl x=(cl,log-(Lib.bitLen x-1),y-2^log):=by rw [cellN,hpw]
 rw [hcell]at h
 have H:Sx M w0 w8 (.ob b4 (.cells #[.int .i64 (cl:Int),.int .i64 ((log-(Lib.bitLen x-1):Nat):Int),.int .i64 ((y-2^log:Nat):Int)] t_api_Cell (0,0)):: .ob bm (.cells #[.int .i64 ((2^log:Nat):Int),.int .i64 (log:Int),.slice (some p) n c] t_spread_maker (0,0)):: .ow t_int 1 (some p) n c ((i64s (nats next)).set cl (.int .i64 ((x+1:Nat):Int)))::L):=H
 rw [i64s_set,nats_set]at H
 exact h w8 H.tail
end Go.Proofs.Tryz
namespace Go.Proofs.VC
open Go Go.RowKit Go.Sort
variable {M:List Nat} {w0 w:World} {L:List En}
variable {α:Type} [Inhabited α]
theorem getElem?_modifyO (a:Array Obj) (i k:Nat) (f:Obj→Obj):(a.modify i f)[k]? =if i=k then a[k]?.map f else a[k]? :=Array.getElem?_modify
theorem Sx.sorted (H:Sx M w0 w L) (j:Nat) {e n c:Nat} {p:Addr} {xs:List Value} (hj:L[j]? =some (.ow e 1 (some p) n c xs)) (enc:α→Value) (d:Array α) (hd:d.size=n) (m:Nat) (os:Array Obj):
 Sx M w0 (sortWorld enc w p.block p.off m d os) (L.set j (.ow e 1 (some p) n c (d.toList.map enc))):=by
 have hok:=H.get j hj
 rcases hok.1.2 with⟨hv,_⟩|⟨g,cap,cur,hv,hb0,hg,hnc,hcm,hcs,htk⟩
 · cases hv
 · cases hv
   have hlt:g<w.heap.size:=(Array.getElem?_eq_some_iff.1 hg).1
   have hat:∀k,k<w.heap.size→(sortWorld enc w g 0 m d os).heap[k]? =if g=k then w.heap[k]?.map (onCells (putCells enc 0 d))else w.heap[k]? :=by
    intro k hk
    show((w.heap.modify g (onCells (putCells enc 0 d)))++os)[k]? =_
    rw [Array.getElem?_append_left (by simpa using hk),getElem?_modifyO]
   have hsz:w.heap.size≤(sortWorld enc w g 0 m d os).heap.size:=by
    show w.heap.size≤((w.heap.modify g (onCells (putCells enc 0 d)))++os).size
    simp
   have hne:∀k,k<w0.heap.size→k∉M→g≠k:=by
    rintro k hk hm rfl
    rcases hok.2 _ rfl with h|h
    · exact absurd hk (Nat.not_lt.2 h)
    · exact hm h
   refine H.turn j hj ⟨H.fr.os,H.fr.tape,H.fr.output,Nat.le_trans H.fr.size hsz,fun k hk hm=>?_⟩ ⟨⟨by simp [hd],.inr ⟨g,c,putCells enc 0 d cur,rfl,Nat.zero_le _,?_,hnc,hcm,by simpa [putCells]using hcs,?_⟩⟩,hok.2⟩ (fun k hk hx=>?_) fun k hk=> .inl hk
   · rw [hat k (Nat.lt_of_lt_of_le hk H.fr.size),if_neg (hne k hk hm)];exact H.fr.block k hk hm
   · rw [hat g hlt,if_pos rfl,hg];rfl
   · apply List.ext_getElem?
     intro i
     rw [List.getElem?_take,List.getElem?_map]
     by_cases hi:i<n
     · have hic:i<cur.size:=by rw [hcs];omega
       rw [if_pos (by omega)]
       simp only [putCells,Array.getElem?_toList,Array.getElem?_mapIdx]
       rw [Array.getElem?_eq_getElem hic,Array.getElem?_eq_getElem (by omega),Option.map_some,Option.map_some,if_pos ⟨Nat.zero_le _,by omega⟩,Nat.sub_zero,getElem!_pos d i (by omega)]
     · rw [if_neg (by omega)]
       simp only [Array.getElem?_toList]
       rw [Array.getElem?_eq_none (by omega)];rfl
   · exact(hat k hk).trans (if_neg fun h=>hx (by rw [←h];rfl))
end Go.Proofs.VC
namespace Go.Proofs.Tryz
open Go Go.RowKit Go.Proofs.VC Go.Sort
variable {M:List Nat} {w0 w:World} {L:List En}
def sortBy (base:Nat→Nat) (l:List Nat):List Nat:=l.mergeSort fun x y=>decide (base x≤base y)
theorem enters_fok {g:Nat} (h:fok g=true):∀args w,(callFunc g args).run prog w= .ok (.enter g args) w:=by
 obtain⟨f,h1,h2,h3⟩:=tab.fn g h
 cases hb:f.body with
 |none=>rw [hb]at h3;cases h3
 |some c=>exact enters_of h1 h2 hb
theorem T_slices_SortFunc {R:Ending→World→Prop} (j:Nat) {a:Option Addr} {n c g:Nat} {cb:Array Value} {l:List Nat} (H:Sx M w0 w L) (hj:L[j]? =some (.ow t_int 1 a n c (i64s (nats l)))) (hl:l.length<4611686018427387904)
 (base:Nat→Nat) (hinj:∀x∈l,∀y∈l,base x=base y→x=y) (hg:fok g=true)
 (hcl:∀l' W,Sx M w0 W (L.set j (.ow t_int 1 a n c (i64s (nats l'))))→∀x∈l,∀y∈l,Calls prog g (#[.int .i64 (x:Int),.int .i64 (y:Int)]++cb) W fun e w'=>e= .returned (.int .i64 ((base x:Int)-(base y:Int)))∧∃q os',w'=grow (W.drewN q) os')
 (h:∀w',Sx M w0 w' (L.set j (.ow t_int 1 a n c (i64s (nats (sortBy base l)))))→R (.returned (.tuple #[])) w'):
 Calls prog n_slices_SortFunc_S_int_int #[.slice a n c,.func (.func g) #[] cb] w R:=by
 have hlen:=H.len j hj
 rw [i64s_len,nats_len,Nat.mul_one]at hlen
 have hset:L.set j (.ow t_int 1 a n c (i64s (nats l)))=L:=by
  apply List.ext_getElem?
  intro k
  by_cases hk:j=k
  · subst hk
    have:=(List.getElem?_eq_some_iff.1 hj).1
    rw [List.getElem?_set_self this,hj]
  · rw [List.getElem?_set_ne hk]
 rcases Nat.eq_zero_or_pos n with h0|h0
 · subst h0
   have hnil:l= []:=List.length_eq_zero_iff.1 hlen
   subst hnil
   refine(AnyF.slices_SortFunc_none (P:=prog) (ρ:=Tryz.sortL_ren) {Tryz.sortL with} a c (.func (.func g) #[] cb) w).mono ?_
   rintro e w' ⟨rfl,rfl⟩
   refine h w' ?_
   have:sortBy base []= []:=by simp [sortBy]
   rw [this,hset];exact H
 · obtain⟨p,rfl⟩:∃p,a=some p:=by
    cases a with
    |none=>have:=(H.none j hj).1;omega
    |some p=>exact⟨p,rfl⟩
   have hok:=H.get j hj
   have hsl:=H.slw j hj
   obtain⟨x0,hx0⟩:∃x,x∈l:=by
    cases l with
    |nil=>simp at hlen;omega
    |cons x l=>exact⟨x,by simp⟩
   letI:Inhabited {x:Nat//x∈l}:=⟨⟨x0,hx0⟩⟩
   let enc: {x:Nat//x∈l}→Value:=fun x=> .int .i64 (x.val:Int)
   let cf: {x:Nat//x∈l}→ {x:Nat//x∈l}→Int:=fun x y=>(base x.val:Int)-(base y.val:Int)
   have hlt:∀x y,ltOf cf x y=decide (base x.val<base y.val):=by
    intro x y
    unfold ltOf
    exact decide_eq_decide.2 (by show(base x.val:Int)-(base y.val:Int)<0↔_;omega)
   have hO:SWO (ltOf cf):=⟨fun x=>by rw [hlt];simp,fun x y z h1 h2=>by rw [hlt]at*;simp at*;omega,fun x y z h1 h2=>by rw [hlt]at*;simp at*;omega⟩
   have hT:∀x y,ltOf cf x y=false→ltOf cf y x=false→x=y:=fun x y h1 h2=>by
    rw [hlt]at h1 h2
    simp at h1 h2
    exact Subtype.ext (hinj _ x.2 _ y.2 (by omega))
   have hd:(l.attach.toArray).size=n:=by simp [hlen]
   have hmap:∀dk:Array {x:Nat//x∈l},dk.toList.map enc=i64s (nats (dk.toList.map (·.val))):=fun dk=>by
    simp only [i64s,nats,List.map_map];rfl
   have hp0:p.off=0∧p.spot=none:=by
    rcases hok.1.2 with⟨hv,_⟩|⟨g,cap,cur,hv,_⟩
    · cases hv
    · cases hv;exact⟨rfl,rfl⟩
   have ep:p=⟨p.block,0,none⟩:=by
    obtain⟨b,o,s⟩:=p
    simp only at hp0
    rw [hp0.1,hp0.2]
   have hcell:∀i,i<n→w.cell? ⟨p.block,0+i,none⟩=some (enc (l.attach.toArray[i]!))∧w.frozen? ⟨p.block,0+i,none⟩=false:=by
    intro i hi
    rcases hok.1.2 with⟨hv,_⟩|⟨q,cap,cur,hv,_,hq,hnc,hcm,hcs,htk⟩
    · cases hv
    · cases hv
      refine⟨?_,frozen_of_heap hq (.inr (Nat.zero_le _))⟩
      rw [cell_of_heap hq,Nat.zero_add]
      have hic:i<cur.size:=by rw [hcs];omega
      have e1:(cur.toList.take (n*1))[i]? =(i64s (nats l))[i]? :=by rw [htk]
      rw [List.getElem?_take,if_pos (by omega),Array.getElem?_toList]at e1
      rw [e1,getElem!_pos _ i (by rw [hd];exact hi)]
      simp only [i64s,nats,List.getElem?_map,List.getElem_toArray,List.getElem_attach]
      rw [List.getElem?_eq_getElem (by omega)];rfl
   have hlt0:p.block<w.heap.size:=hok.lt rfl
   have main:=Any.slices_SortFunc_total Tryz.sortL enc (fun _=>rfl) cf hO g cb p.block 0 c l.attach.toArray w (enters_fok hg) (fun m os dk hs x y=>?_) (fun i hi=>hcell i (by rw [hd]at hi;exact hi)) hlt0 (by rw [hd];omega) hT
   · rw [hd]at main
     rw [ep]
     refine main.mono ?_
     rintro e w' ⟨rfl,m,os,rfl⟩
     refine h _ ?_
     have:=Sx.sorted H j hj enc (l.attach.toArray.toList.mergeSort fun x y=>!(ltOf cf) y x).toArray (by simp [hlen]) m os
     rw [hmap,hp0.1]at this
     have es:((l.attach.toArray.toList.mergeSort fun x y=>!(ltOf cf) y x).toArray.toList.map (·.val))=sortBy base l:=by
      show List.map (·.val) (l.attach.mergeSort fun x y=>!(ltOf cf) y x)=_
      rw [List.map_mergeSort (s:=fun x y=>decide (base x≤base y)),List.attach_map_subtype_val]
      · rfl
      · intro x _ y _
        rw [hlt]
        by_cases hxy:base x.val≤base y.val
        · simp [hxy]
        · simp [hxy];omega
     rw [es]at this
     exact this
   · have:=Sx.sorted H j hj enc dk (by rw [hs,hd]) m os
     rw [hmap,hp0.1]at this
     exact hcl _ _ this x.val x.2 y.val y.2
end Go.Proofs.Tryz
namespace Go.Proofs.Tryz
open Go Go.RowKit Go.Proofs.VC
theorem places {log:Nat} (h1:7≤log) (h2:log≤12):(∀k k',k<2^log→k'<2^log→(k*spStep (2^log))%2^log=(k'*spStep (2^log))%2^log→k=k')∧∀p,p<2^log→∃k,k<2^log∧(k*spStep (2^log))%2^log=p:=by
 have:log=7∨log=8∨log=9∨log=10∨log=11∨log=12:=by omega
 rcases this with rfl|rfl|rfl|rfl|rfl|rfl
 · rw [show(2:Nat)^7=128 from rfl,show spStep 128=83 from rfl]
   exact⟨fun k k' a b c=>by omega,fun p hp=>⟨(p*91)%128,by omega,by omega⟩⟩
 · rw [show(2:Nat)^8=256 from rfl,show spStep 256=163 from rfl]
   exact⟨fun k k' a b c=>by omega,fun p hp=>⟨(p*11)%256,by omega,by omega⟩⟩
 · rw [show(2:Nat)^9=512 from rfl,show spStep 512=323 from rfl]
   exact⟨fun k k' a b c=>by omega,fun p hp=>⟨(p*363)%512,by omega,by omega⟩⟩
 · rw [show(2:Nat)^10=1024 from rfl,show spStep 1024=643 from rfl]
   exact⟨fun k k' a b c=>by omega,fun p hp=>⟨(p*43)%1024,by omega,by omega⟩⟩
 · rw [show(2:Nat)^11=2048 from rfl,show spStep 2048=1283 from rfl]
   exact⟨fun k k' a b c=>by omega,fun p hp=>⟨(p*1451)%2048,by omega,by omega⟩⟩
 · rw [show(2:Nat)^12=4096 from rfl,show spStep 4096=2563 from rfl]
   exact⟨fun k k' a b c=>by omega,fun p hp=>⟨(p*171)%4096,by omega,by omega⟩⟩
theorem sprd_stay {size s:Nat} (hs:s=spStep size) (q:Nat):∀(cs:List Nat) (k0:Nat) (out:List Nat),(∀i,i<cs.length→((k0+i)*s)%size≠q)→(sprd size cs (out,(k0*s)%size)).1.getD q 0=out.getD q 0
 | [],_,_,_=>rfl
 |c::cs,k0,out,h=>by
  have e:(k0*s%size+spStep size)%size=((k0+1)*s)%size:=by rw [←hs,Nat.mod_add_mod,Nat.succ_mul]
  rw [sprd,e]
  rw [sprd_stay hs q cs (k0+1) _ fun i hi=>by
   have:=h (i+1) (by simpa using hi)
   rwa [show k0+1+i=k0+(i+1) by omega]]
  rw [getD_set,if_neg]
  rintro⟨h1,_⟩
  exact h 0 (by simp) (by simpa using h1)
theorem sprd_get {size s:Nat} (hs:s=spStep size) (hinj:∀k k',k<size→k'<size→(k*s)%size=(k'*s)%size→k=k'):∀(cs:List Nat) (k0:Nat) (out:List Nat),k0+cs.length≤size→out.length=size→∀i,i<cs.length→
 (sprd size cs (out,(k0*s)%size)).1.getD (((k0+i)*s)%size) 0=cs.getD i 0
 | [],_,_,_,_,i,hi=>by simp at hi
 |c::cs,k0,out,hk,hl,i,hi=>by
  simp only [List.length_cons]at hk hi
  have e:(k0*s%size+spStep size)%size=((k0+1)*s)%size:=by rw [←hs,Nat.mod_add_mod,Nat.succ_mul]
  rw [sprd,e]
  cases i with
  |zero=>
   rw [sprd_stay hs _ cs (k0+1) _ fun j hj h=>?_]
   · rw [Nat.add_zero,getD_set,if_pos ⟨rfl,by rw [hl];exact Nat.mod_lt _ (by omega)⟩];rfl
   · have:=hinj _ _ (by omega) (by omega) h
     omega
  |succ i=>
   have:=sprd_get hs hinj cs (k0+1) (out.set ((k0*s)%size) c) (by omega) (by rw [List.length_set];exact hl) i (by omega)
   rw [show k0+1+i=k0+(i+1) by omega]at this
   rw [this];rfl
theorem clsSeq_len (l:List Nat):(clsSeq l).length=l.sum:=by
 have:∀(l:List Nat),l.sum=((List.range l.length).map fun c=>l.getD c 0).sum:=by
  intro l
  congr 1
  apply List.ext_getElem
  · simp
  · intro i h1 h2
    simp [List.getD_eq_getElem?_getD,h1]
 rw [this l,clsSeq,List.length_flatMap]
 congr 1
 apply List.map_congr_left
 intro c _
 rw [List.length_replicate]
theorem clsSeq_mem {l:List Nat} {c:Nat} (h:c∈clsSeq l):c<l.length∧0<l.getD c 0:=by
 simp only [clsSeq,List.mem_flatMap,List.mem_range,List.mem_replicate]at h
 obtain⟨x,hx,h1,rfl⟩:=h
 exact⟨hx,by omega⟩
theorem mayN_facts {l:List Nat} {log:Nat} (h:mayN l log=true):(7≤log∧log≤12)∧l.length=65∧(∀x∈l,x≤2^log)∧l.sum=2^log:=by
 simp only [mayN,Bool.and_eq_true,decide_eq_true_eq,beq_iff_eq,List.all_eq_true]at h
 exact⟨h.1.1.1,h.1.1.2,h.1.2,h.2⟩
theorem spreadN_len (l:List Nat) (log:Nat):(spreadN l log).length=2^log:=by rw [spreadN,sprd_len];simp
theorem spread_at {l:List Nat} {log:Nat} (h:mayN l log=true) {k:Nat} (hk:k<2^log):(spreadN l log).getD ((k*spStep (2^log))%2^log) 0=(clsSeq l).getD k 0:=by
 obtain⟨hlog,h65,hall,hsum⟩:=mayN_facts h
 have:=sprd_get (size:=2^log) rfl (places hlog.1 hlog.2).1 (clsSeq l) 0 (List.replicate (2^log) 0) (by rw [clsSeq_len,hsum];omega) (by simp) k (by rw [clsSeq_len,hsum];exact hk)
 rw [Nat.zero_add,Nat.zero_mul,Nat.zero_mod]at this
 exact this
theorem spread_mem {l:List Nat} {log:Nat} (h:mayN l log=true) {p:Nat} (hp:p<2^log):(spreadN l log).getD p 0<65∧0<l.getD ((spreadN l log).getD p 0) 0:=by
 obtain⟨hlog,h65,hall,hsum⟩:=mayN_facts h
 obtain⟨k,hk,rfl⟩:=(places hlog.1 hlog.2).2 p hp
 rw [spread_at h hk]
 have hkl:k<(clsSeq l).length:=by rw [clsSeq_len,hsum];exact hk
 have:=clsSeq_mem (l:=l) (c:=(clsSeq l).getD k 0) (by rw [List.getD_eq_getElem?_getD,List.getElem?_eq_getElem hkl];exact List.getElem_mem hkl)
 rw [h65]at this
 exact this
end Go.Proofs.Tryz
namespace Go.Proofs.Tryz
open Go Go.RowKit Go.Proofs.VC
theorem range_map_getD (s:List Nat):(List.range s.length).map (fun p=>s.getD p 0)=s:=by
 apply List.ext_getElem
 · simp
 · intro i h1 h2
   simp [List.getD_eq_getElem?_getD,h2]
theorem spread_perm {l:List Nat} {log:Nat} (h:mayN l log=true):(spreadN l log).Perm (clsSeq l):=by
 obtain⟨hlog,h65,hall,hsum⟩:=mayN_facts h
 have hp:=places hlog.1 hlog.2
 have e1:(List.range (2^log)).map (fun p=>(spreadN l log).getD p 0)=spreadN l log:=by
  have:=range_map_getD (spreadN l log)
  rwa [spreadN_len]at this
 have e2:((List.range (2^log)).map (fun k=>(k*spStep (2^log))%2^log)).map (fun p=>(spreadN l log).getD p 0)=clsSeq l:=by
  have:=range_map_getD (clsSeq l)
  rw [clsSeq_len,hsum]at this
  rw [List.map_map,←this]
  apply List.map_congr_left
  intro k hk
  exact spread_at h (List.mem_range.1 hk)
 have hperm:(List.range (2^log)).Perm ((List.range (2^log)).map (fun k=>(k*spStep (2^log))%2^log)):=by
  rw [List.perm_ext_iff_of_nodup List.nodup_range]
  · intro a
    simp only [List.mem_range,List.mem_map]
    constructor
    · intro ha
      obtain⟨k,hk,e⟩:=hp.2 a ha
      exact⟨k,hk,e⟩
    · rintro⟨k,hk,rfl⟩
      exact Nat.mod_lt _ (Nat.two_pow_pos _)
  · rw [List.Nodup,List.pairwise_map]
    refine List.Pairwise.imp_of_mem (fun {a b} ha hb hab he=>hab (hp.1 a b (List.mem_range.1 ha) (List.mem_range.1 hb) he)) List.nodup_range
 have:=hperm.map (fun p=>(spreadN l log).getD p 0)
 rwa [e1,e2]at this
theorem sum_pick (f:Nat→Nat) (c:Nat):∀n,((List.range n).map fun i=>if i=c then f i else 0).sum=if c<n then f c else 0
 |0=>by simp
 |n+1=>by
  rw [List.range_succ,List.map_append,List.sum_append,sum_pick f c n]
  simp only [List.map_cons,List.map_nil,List.sum_cons,List.sum_nil,Nat.add_zero]
  by_cases h:n=c
  · subst h;simp
  · rw [if_neg h]
    by_cases h2:c<n
    · rw [if_pos h2,if_pos (by omega)];rfl
    · rw [if_neg h2,if_neg (by omega)]
theorem clsSeq_count (l:List Nat) (c:Nat) (h:c<l.length):(clsSeq l).count c=l.getD c 0:=by
 rw [clsSeq,List.count_flatMap]
 have:=sum_pick (fun i=>l.getD i 0) c l.length
 rw [if_pos h]at this
 rw [←this]
 congr 1
 apply List.map_congr_left
 intro i _
 show List.count c (List.replicate (l.getD i 0) i)=_
 rw [List.count_replicate]
 simp only [beq_iff_eq]
theorem spread_count {l:List Nat} {log c:Nat} (h:mayN l log=true) (hc:c<65):(spreadN l log).count c=l.getD c 0:=by
 rw [(spread_perm h).count_eq,clsSeq_count l c (by rw [(mayN_facts h).2.1];exact hc)]
theorem tabF_get (log:Nat):∀(cs next:List Nat) (i c:Nat),cs[i]? =some c→c<next.length→(tabF log next cs)[i]? =some (cellN log c (next.getD c 0+(cs.take i).count c))
 | [],next,i,c,h,_=>by simp at h
 |c0::cs,next,0,c,h,_=>by simp at h;subst h;simp [tabF]
 |c0::cs,next,i+1,c,h,hl=>by
  rw [tabF,List.getElem?_cons_succ,tabF_get log cs _ i c (by simpa using h) (by simpa using hl)]
  congr 2
  rw [List.take_succ_cons,List.count_cons,getD_set]
  by_cases hcc:c0=c
  · subst hcc
    rw [if_pos ⟨rfl,hl⟩];simp;omega
  · rw [if_neg (fun h=>hcc h.1)];simp [hcc]
theorem tableN_get {l:List Nat} {log p:Nat} (h:mayN l log=true) (hp:p<2^log):
 (tableN l log)[p]? =some (cellN log ((spreadN l log).getD p 0) (l.getD ((spreadN l log).getD p 0) 0+((spreadN l log).take p).count ((spreadN l log).getD p 0)))∧
 ((spreadN l log).take p).count ((spreadN l log).getD p 0)<l.getD ((spreadN l log).getD p 0) 0:=by
 have hlen:=spreadN_len l log
 have hg:(spreadN l log)[p]? =some ((spreadN l log).getD p 0):=by
  rw [List.getD_eq_getElem?_getD,List.getElem?_eq_getElem (by omega)];rfl
 obtain⟨hc,h0⟩:=spread_mem h hp
 refine⟨tabF_get log _ _ p _ hg (by rw [(mayN_facts h).2.1];exact hc),?_⟩
 rw [←spread_count h hc]
 generalize (spreadN l log).getD p 0=c at*
 have e:(spreadN l log).count c=((spreadN l log).take p).count c+((spreadN l log).drop p).count c:=by rw [←List.count_append,List.take_append_drop]
 have h2:0<((spreadN l log).drop p).count c:=by
  rw [List.count_pos_iff]
  apply List.mem_of_getElem? (i:=0)
  rw [List.getElem?_drop,Nat.add_zero];exact hg
 omega
def bitsN (log x:Nat):Nat:=log-(Lib.bitLen x-1)
def baseOf (log x:Nat):Nat:=x*2^bitsN log x-2^log
theorem bl_mono {x y:Nat} (hx:0<x) (h:x≤y) (hy:y<18446744073709551616):Lib.bitLen x≤Lib.bitLen y:=by
 obtain⟨b1,b2,b3,b4⟩:=bitLen_pos (u:=x) (by unfold WW;omega) (by omega)
 obtain⟨c1,c2,c3,c4⟩:=bitLen_pos (u:=y) (by unfold WW;omega) (by omega)
 rcases Nat.lt_or_ge (Lib.bitLen y) (Lib.bitLen x)with h2|h2
 · have:2^Lib.bitLen y≤2^(Lib.bitLen x-1):=Nat.pow_le_pow_right (by decide) (by omega)
   omega
 · exact h2
theorem bl_double {x:Nat} (hx:0<x) (hy:2*x<18446744073709551616):Lib.bitLen (2*x)=Lib.bitLen x+1:=by
 obtain⟨b1,b2,b3,b4⟩:=bitLen_pos (u:=x) (by unfold WW;omega) (by omega)
 obtain⟨c1,c2,c3,c4⟩:=bitLen_pos (u:=2*x) (by unfold WW;omega) (by omega)
 have e:2^Lib.bitLen x=2*2^(Lib.bitLen x-1):=by
  obtain⟨k,hk⟩:∃k,Lib.bitLen x=k+1:=⟨Lib.bitLen x-1,by omega⟩
  rw [hk,Nat.add_sub_cancel,Nat.pow_succ,Nat.mul_comm]
 have e2:2^Lib.bitLen (2*x)=2*2^(Lib.bitLen (2*x)-1):=by
  obtain⟨k,hk⟩:∃k,Lib.bitLen (2*x)=k+1:=⟨Lib.bitLen (2*x)-1,by omega⟩
  rw [hk,Nat.add_sub_cancel,Nat.pow_succ,Nat.mul_comm]
 rcases Nat.lt_trichotomy (Lib.bitLen (2*x)) (Lib.bitLen x+1)with h|h|h
 · have:2^Lib.bitLen (2*x)≤2^Lib.bitLen x:=Nat.pow_le_pow_right (by decide) (by omega)
   omega
 · exact h
 · have:2^(Lib.bitLen x+1)≤2^(Lib.bitLen (2*x)-1):=Nat.pow_le_pow_right (by decide) (by omega)
   rw [Nat.pow_succ]at this
   omega
theorem base_at {log x:Nat} (hlog:log≤12) (h1:1≤x) (h2:x<2*2^log):baseOf log x+2^log=x*2^bitsN log x∧baseOf log x<2^log:=by
 obtain⟨_,_,h3,h4⟩:=cellN_ok (c:=0) hlog h1 h2
 unfold baseOf bitsN
 omega
theorem cell_apart {log f x y s:Nat} (hlog:log≤12) (hf:1≤f) (hf2:f≤2^log) (hx:f≤x∧x<2*f) (hy:f≤y∧y<2*f)
 (h1:baseOf log x≤s∧s<baseOf log x+2^bitsN log x) (h2:baseOf log y≤s∧s<baseOf log y+2^bitsN log y):x=y:=by
 have h12:2^log≤2^12:=Nat.pow_le_pow_right (by decide) hlog
 have e12:(2:Nat)^12=4096:=by decide
 have key:∀x y,x<y→f≤x∧x<2*f→f≤y∧y<2*f→baseOf log x≤s∧s<baseOf log x+2^bitsN log x→baseOf log y≤s∧s<baseOf log y+2^bitsN log y→False:=by
  intro x y hxy hx hy h1 h2
  obtain⟨a1,a2⟩:=base_at hlog (by omega:1≤x) (by omega)
  obtain⟨c1,c2⟩:=base_at hlog (by omega:1≤y) (by omega)
  have m1:=bl_mono (by omega) (Nat.le_of_lt hxy) (by omega)
  have m2:=bl_mono (x:=y) (y:=2*x) (by omega) (by omega) (by omega)
  rw [bl_double (by omega) (by omega)]at m2
  have b1:=(cellN_ok (c:=0) hlog (by omega:1≤y) (by omega)).1
  have b2:=(cellN_ok (c:=0) hlog (by omega:1≤y) (by omega)).2.1
  have b0:=(cellN_ok (c:=0) hlog (by omega:1≤x) (by omega)).1
  have q1:x*2^bitsN log x≤s+2^log:=by omega
  have q2:s+2^log<x*2^bitsN log x+2^bitsN log x:=by omega
  have q3:y*2^bitsN log y≤s+2^log:=by omega
  have hxm:(x+1)*2^bitsN log x=x*2^bitsN log x+2^bitsN log x:=Nat.succ_mul _ _
  rcases Nat.lt_or_ge (Lib.bitLen x) (Lib.bitLen y)with h|h
  · have e:bitsN log x=bitsN log y+1:=by unfold bitsN;omega
    rw [e,Nat.pow_succ]at q1 q2
    have hpos:=Nat.two_pow_pos (bitsN log y)
    have h2x:y<2*x:=by omega
    have:(y+1)*2^bitsN log y≤(2*x)*2^bitsN log y:=Nat.mul_le_mul_right _ (by omega)
    rw [Nat.succ_mul]at this
    have e3:(2*x)*2^bitsN log y=x*(2^bitsN log y*2):=by rw [Nat.mul_comm 2 x,Nat.mul_assoc,Nat.mul_comm 2]
    omega
  · have e:bitsN log x=bitsN log y:=by unfold bitsN;omega
    rw [e]at q2 hxm
    have:(x+1)*2^bitsN log y≤y*2^bitsN log y:=Nat.mul_le_mul_right _ hxy
    omega
 rcases Nat.lt_trichotomy x y with h|h|h
 · exact(key x y h hx hy h1 h2).elim
 · exact h
 · exact(key y x h hy hx h2 h1).elim
theorem cell_cover {log f s:Nat} (hlog:log≤12) (hf:1≤f) (hf2:f≤2^log) (hs:s<2^log):∃x,(f≤x∧x<2*f)∧baseOf log x≤s∧s<baseOf log x+2^bitsN log x:=by
 have h12:2^log≤2^12:=Nat.pow_le_pow_right (by decide) hlog
 have e12:(2:Nat)^12=4096:=by decide
 obtain⟨b1,b2,_⟩:=cellN_ok (c:=0) hlog hf (by omega)
 obtain⟨_,_,b3,b4⟩:=bitLen_pos (u:=f) (by unfold WW;omega) (by omega)
 have fin:∀b x,x=(s+2^log)/2^b→f≤x∧x<2*f→bitsN log x=b→∃x,(f≤x∧x<2*f)∧baseOf log x≤s∧s<baseOf log x+2^bitsN log x:=by
  rintro b x hx hfx rfl
  obtain⟨a1,a2⟩:=base_at hlog (by omega:1≤x) (by omega)
  refine⟨x,hfx,?_⟩
  have hdm:=Nat.div_add_mod (s+2^log) (2^bitsN log x)
  have hml:=Nat.mod_lt (s+2^log) (Nat.two_pow_pos (bitsN log x))
  rw [←hx,Nat.mul_comm]at hdm
  omega
 generalize hk:Lib.bitLen f=k at*
 obtain⟨j,rfl⟩:∃j,k=j+1:=⟨k-1,by omega⟩
 simp only [Nat.add_sub_cancel]at b3
 obtain⟨d,rfl⟩:∃d,log=j+d:=⟨log-j,by omega⟩
 have epw:2^(j+d)=2^j*2^d:=Nat.pow_add _ _ _
 rw [Nat.pow_succ]at b4
 rcases Nat.lt_or_ge (s+2^(j+d)) (f*2^d)with h|h
 · -- one bit longer
   have hd:0<d:=by
    rcases Nat.eq_zero_or_pos d with h0|h0
    · subst h0;simp at h b3 hf2;omega
    · exact h0
   obtain⟨d,rfl⟩:∃d',d=d'+1:=⟨d-1,by omega⟩
   have e1:2^(d+1)=2*2^d:=by rw [Nat.pow_succ,Nat.mul_comm]
   have hp:=Nat.two_pow_pos d
   have hge:2*2^j≤(s+2^(j+(d+1)))/2^d:=by
    rw [Nat.le_div_iff_mul_le hp,epw,e1]
    have:2*2^j*2^d=2^j*(2*2^d):=by rw [Nat.mul_comm 2,Nat.mul_assoc]
    omega
   have hlt:(s+2^(j+(d+1)))/2^d<2*f:=by
    rw [Nat.div_lt_iff_lt_mul hp]
    have:f*2^(d+1)=2*f*2^d:=by rw [e1,Nat.mul_comm 2 f,Nat.mul_assoc]
    omega
   refine fin d _ rfl ⟨by omega,hlt⟩ ?_
   generalize hx:(s+2^(j+(d+1)))/2^d=x at*
   obtain⟨c1,c2,c3,c4⟩:=bitLen_pos (u:=x) (by unfold WW;omega) (by omega)
   have hbl:Lib.bitLen x=j+2:=by
    rcases Nat.lt_trichotomy (Lib.bitLen x) (j+2)with h3|h3|h3
    · have:2^Lib.bitLen x≤2^(j+1):=Nat.pow_le_pow_right (by decide) (by omega)
      rw [Nat.pow_succ]at this;omega
    · exact h3
    · have:2^(j+2)≤2^(Lib.bitLen x-1):=Nat.pow_le_pow_right (by decide) (by omega)
      rw [Nat.pow_succ,Nat.pow_succ]at this;omega
   unfold bitsN;omega
 · have hp:=Nat.two_pow_pos d
   have hge:f≤(s+2^(j+d))/2^d:=by rw [Nat.le_div_iff_mul_le hp];exact h
   have hlt:(s+2^(j+d))/2^d<2^j*2:=by
    rw [Nat.div_lt_iff_lt_mul hp]
    have:2^j*2*2^d=2*(2^j*2^d):=by rw [Nat.mul_comm (2^j) 2,Nat.mul_assoc]
    omega
   refine fin d _ rfl ⟨hge,by omega⟩ ?_
   generalize hx:(s+2^(j+d))/2^d=x at*
   obtain⟨c1,c2,c3,c4⟩:=bitLen_pos (u:=x) (by unfold WW;omega) (by omega)
   have hbl:Lib.bitLen x=j+1:=by
    rcases Nat.lt_trichotomy (Lib.bitLen x) (j+1)with h3|h3|h3
    · have:2^Lib.bitLen x≤2^j:=Nat.pow_le_pow_right (by decide) (by omega)
      omega
    · exact h3
    · have:2^(j+1)≤2^(Lib.bitLen x-1):=Nat.pow_le_pow_right (by decide) (by omega)
      rw [Nat.pow_succ]at this;omega
   unfold bitsN;omega
def bsAt (T:List Ce) (p:Nat):Nat:=(T.getD p (0,0,0)).2.2
theorem table_cls {l:List Nat} {log p:Nat} (h:mayN l log=true) (hp:p<2^log):∃x,(tableN l log)[p]? =some ((spreadN l log).getD p 0,bitsN log x,baseOf log x)∧l.getD ((spreadN l log).getD p 0) 0≤x∧x<2*l.getD ((spreadN l log).getD p 0) 0∧
 x=l.getD ((spreadN l log).getD p 0) 0+((spreadN l log).take p).count ((spreadN l log).getD p 0):=by
 obtain⟨h1,h2⟩:=tableN_get h hp
 exact⟨_,h1,by omega,by omega,rfl⟩
theorem base_apart {l:List Nat} {log p q:Nat} (h:mayN l log=true) (hp:p<2^log) (hq:q<2^log) (hc:(spreadN l log).getD p 0=(spreadN l log).getD q 0) (hb:bsAt (tableN l log) p=bsAt (tableN l log) q):p=q:=by
 obtain⟨hlog,h65,hall,hsum⟩:=mayN_facts h
 obtain⟨x,e1,x1,x2,hx⟩:=table_cls h hp
 obtain⟨y,e2,y1,y2,hy⟩:=table_cls h hq
 rw [←hc]at e2 y1 y2 hy
 have hf:=(spread_mem h hp).2
 have hf2:l.getD ((spreadN l log).getD p 0) 0≤2^log:=by
  rw [List.getD_eq_getElem?_getD (l:=l)]
  cases hh:l[(spreadN l log).getD p 0]? with
  |none=>simp
  |some v=>exact hall v (List.mem_of_getElem? hh)
 have hb':baseOf log x=baseOf log y:=by
  unfold bsAt at hb
  rw [List.getD_eq_getElem?_getD,List.getD_eq_getElem?_getD,e1,e2]at hb
  exact hb
 have hlog12:log≤12:=hlog.2
 have hpos1:=Nat.two_pow_pos (bitsN log x)
 have hpos2:=Nat.two_pow_pos (bitsN log y)
 have hxy:x=y:=cell_apart (s:=baseOf log x) hlog12 hf hf2 ⟨x1,x2⟩ ⟨y1,y2⟩ ⟨Nat.le_refl _,by omega⟩ ⟨by omega,by omega⟩
 have hcount:((spreadN l log).take p).count ((spreadN l log).getD p 0)=((spreadN l log).take q).count ((spreadN l log).getD p 0):=by omega
 have mono:∀p q,p<q→q<2^log→((spreadN l log).take p).count ((spreadN l log).getD p 0)<((spreadN l log).take q).count ((spreadN l log).getD p 0):=by
  intro p q hpq hq
  have hlen:=spreadN_len l log
  have e:(spreadN l log).take q=(spreadN l log).take p++((spreadN l log).take q).drop p:=by
   have:=List.take_append_drop p ((spreadN l log).take q)
   rw [List.take_take,Nat.min_eq_left (by omega)]at this
   exact this.symm
  rw [e,List.count_append]
  have:0<(((spreadN l log).take q).drop p).count ((spreadN l log).getD p 0):=by
   rw [List.count_pos_iff]
   apply List.mem_of_getElem? (i:=0)
   rw [List.getElem?_drop,Nat.add_zero,List.getElem?_take,if_pos hpq,List.getD_eq_getElem?_getD,List.getElem?_eq_getElem (by omega)];rfl
  omega
 rcases Nat.lt_trichotomy p q with h3|h3|h3
 · have:=mono p q h3 hq;omega
 · exact h3
 · have:=mono q p h3 hp;rw [←hc]at this;omega
end Go.Proofs.Tryz
namespace Go.Proofs.Tryz
open Go Go.RowKit Go.Proofs.VC
variable {M:List Nat} {w0 w:World} {L:List En}
theorem mk_Cell (n:Nat):(mkCells TAB t_api_Cell n).size=n*3:=by
 show((List.range (n*3)).map _).toArray.size=_
 simp
theorem tabF_len (log:Nat):∀(cs next:List Nat),(tabF log next cs).length=cs.length
 | [],_=>rfl
 |c::cs,next=>by rw [tabF,List.length_cons,tabF_len log cs,List.length_cons]
theorem tableN_len (l:List Nat) (log:Nat):(tableN l log).length=2^log:=by rw [tableN,tabF_len,spreadN_len]
theorem T_spread_Table (a:Option Addr) (n c:Nat) (l:List Nat) (log:Nat) (w:World) (hs:SlI w a n (nats l)) (hm:mayN l log=true):
 Calls prog n_spread_Table #[.slice a n c,.int .i64 (log:Int)] w fun e w'=>∃a' c',e= .returned (.tuple #[.slice a' (2^log) c',.int .i64 0])∧Sx [] w w' [.ow t_api_Cell 3 a' (2^log) c' (ces (tableN l log))]:=by
 obtain⟨hlog,h65,hall,hsum⟩:=mayN_facts hm
 have h12:2^log≤2^12:=Nat.pow_le_pow_right (by decide) hlog.2
 have e12:(2:Nat)^12=4096:=by decide
 have hp0:=Nat.two_pow_pos log
 refine S_spread_Table ?_
 unfold F_spread_Table
 refine(T_spread_Spread a n c l log w hs hm).mono ?_
 rintro e w1 ⟨bs,rfl,H⟩
 refine⟨_,_,_,_,rfl,bif_f rfl ?_⟩
 have hn:n=65:=by rw [hs.1,nats_len,h65]
 refine H.drew fun w2 _ H=>⟨by omega,H.alloc fun w3 b23 _ H=>⟨trivial,?_⟩⟩
 have H2:=H.asOw 1 0 0 (Nat.le_refl _) (by simp [maxLen]) rfl
 obtain⟨ii,hi,hz,hsz,hby⟩:=i_int
 refine Sx.append H2 0 rfl u_S_int hi hz hsz hby rfl (by decide) (p:=a) (m:=n) (news:=i64s (nats l)) (by rw [i64s_len,←hs.1,Nat.mul_one]) (by omega) (hs.2.fr0 H.fr) (fun u hu=>?_) (by omega) (by decide) fun a4 c4 w4 H=>?_
 · simp only [i64s,List.mem_map]at hu
   obtain⟨x,_,rfl⟩:=hu
   rfl
 have H:Sx [] w w4 [.ow t_int 1 a4 (0+n) c4 (i64s (nats l)),.ob bs (.cells (i64s (nats (spreadN l log))).toArray t_int (0,0))]:=H
 rw [Nat.zero_add]at H ⊢
 rw [shl_one (by omega)]
 refine⟨trivial,H.alloc fun w5 b27 _ H=>⟨trivial,by omega,by omega,by simp only [maxMake];omega,H.alloc fun w6 b30 _ H=>?_⟩⟩
 have H3:=H.asOw 3 0 (2^log) (Nat.zero_le _) (by simp only [maxLen];omega) (by rw [Int.toNat_natCast,mk_Cell])
 rw [Int.toNat_natCast]
 refine⟨fun m x xn xc w7=>∃(i:Nat) (next:List Nat) (out:List Ce),xn=i∧m+i=2^log∧i≤2^log∧out.length=i∧next.length=65∧(∀c,l.getD c 0≤next.getD c 0∧next.getD c 0≤l.getD c 0+i)∧out++tabF log next ((spreadN l log).drop i)=tableN l log∧
  Sx [] w w7 [.ob b27 (.cells #[.int .i64 ((2^log:Nat):Int),.int .i64 (log:Int),.slice a4 n c4] t_spread_maker (0,0)),.ow t_int 1 a4 n c4 (i64s (nats next)),.ow t_api_Cell 3 x xn xc (ces out),.ob bs (.cells (i64s (nats (spreadN l log))).toArray t_int (0,0))],
  ⟨2^log,0,l,[],rfl,rfl,Nat.zero_le _,rfl,h65,fun c=>⟨Nat.le_refl _,Nat.le_refl _⟩,rfl,?_⟩,?_⟩
 · exact H3.perm ((List.Perm.swap _ _ _).trans (.cons _ (.swap _ _ _)))
 rintro m x xn xc w7 ⟨i,next,out,rfl,hmi,hi2,hol,hnl,hnx,he,H⟩
 refine bif_i (fun h=>?_) fun h=>?_
 · have hi:xn<2^log:=by have:=of_decide_eq_true h;omega
   have hil:xn<(spreadN l log).length:=by rw [spreadN_len];exact hi
   obtain⟨hc65,hc1⟩:=spread_mem hm hi
   have hcg:(spreadN l log).getD xn 0=(spreadN l log)[xn]:=by rw [List.getD_eq_getElem?_getD,List.getElem?_eq_getElem hil];rfl
   have hd:(spreadN l log).drop xn=(spreadN l log).getD xn 0::(spreadN l log).drop (xn+1):=by rw [hcg];exact(List.getElem_cons_drop hil).symm
   generalize hcc:(spreadN l log).getD xn 0=cc at*
   have hnc:=hnx cc
   have hlc:l.getD cc 0≤2^log:=by
    rw [List.getD_eq_getElem?_getD]
    by_cases h6:cc<l.length
    · rw [List.getElem?_eq_getElem h6];exact hall _ (List.getElem_mem h6)
    · rw [List.getElem?_eq_none (by omega)];simp
   refine⟨by omega,by omega,OSome.i ⟨(cc:Int),?_,?_⟩⟩
   · rw [A0_add,Int.toNat_natCast,Nat.mul_one,←hcc]
     exact H.cell 3 rfl (nats_arr hil)
   refine T_spread_maker_cell H hlog.2 (by omega) (by omega) (by omega) (by omega) fun w8 H=>⟨_,_,_,rfl,H.alloc fun w9 b45 _ H=>?_⟩
   refine app_Cell H (j:=2) (l:=out) (v:=cellN log cc (next.getD cc 0)) rfl (by omega) fun a' c' w10 H=>⟨m-1,by omega,xn+1,next.set cc (next.getD cc 0+1),out++ [cellN log cc (next.getD cc 0)],rfl,by omega,by omega,by simp [hol],by simpa using hnl,fun c=>?_,?_,H⟩
   · rw [getD_set]
     have:=hnx c
     split
     · rename_i h7
       obtain⟨rfl,_⟩:=h7
       omega
     · omega
   · rw [←he,hd,tabF,List.append_assoc];rfl
 · have hi:xn=2^log:=by have:=of_decide_eq_false h;omega
   subst hi
   rw [List.drop_of_length_le (by rw [spreadN_len];exact Nat.le_refl _),tabF,List.append_nil]at he
   refine⟨x,xc,rfl,?_⟩
   rw [←he]
   exact(H.front 2 rfl).sub (.cons_cons _ (List.nil_sublist _))
end Go.Proofs.Tryz
namespace Go.Proofs.Tryz
open Go Go.RowKit Go.Proofs.VC
def leL (x y:Pr):Bool:= !ltL y x
theorem prsF_mem:∀ {l:List Int} {k:Nat} {p:Pr},p∈prsF k l→∃i,p.1=((k+i:Nat):Int)∧l[i]? =some p.2∧0<p.2
 | [],k,p,h=>by simp [prsF]at h
 |n::l,k,p,h=>by
  have tail:p∈prsF (k+1) l→∃i,p.1=((k+i:Nat):Int)∧(n::l)[i]? =some p.2∧0<p.2:=fun h=>by
   obtain⟨i,h1,h2,h3⟩:=prsF_mem h
   exact⟨i+1,by rw [h1];congr 1;omega,by simpa using h2,h3⟩
  simp only [prsF]at h
  split at h
  · rcases List.mem_cons.1 h with rfl|h
    · rename_i h0
      exact⟨0,rfl,rfl,h0⟩
    · exact tail h
  · exact tail h
theorem prsF_nodup:∀(l:List Int) (k:Nat),(prsF k l).Nodup
 | [],k=>by simp [prsF]
 |n::l,k=>by
  simp only [prsF]
  split
  · rw [List.nodup_cons]
    refine⟨fun h=>?_,prsF_nodup l (k+1)⟩
    obtain⟨i,h1,_,_⟩:=prsF_mem h
    simp at h1
    omega
  · exact prsF_nodup l (k+1)
theorem sum_prsF (P:Pr→Bool) (g:Nat→Nat):∀(l:List Nat) (k:Nat),(((prsF k (nats l)).filter P).map fun p=>g p.2.toNat).sum=
 ((List.range l.length).map fun d=>if decide (0<l.getD d 0)&&P ((((k+d:Nat):Int)),(l.getD d 0:Int))then g (l.getD d 0)else 0).sum
 | [],k=>rfl
 |n::l,k=>by
  have ih:=sum_prsF P g l (k+1)
  have e:nats (n::l)=(n:Int)::nats l:=rfl
  rw [e,prsF,List.length_cons,List.range_succ_eq_map,List.map_cons,List.map_map,List.sum_cons]
  have e2:((fun d=>if decide (0<(n::l).getD d 0)&&P ((((k+d:Nat):Int)),((n::l).getD d 0:Int))then g ((n::l).getD d 0)else 0)∘Nat.succ)=
   fun d=>if decide (0<l.getD d 0)&&P ((((k+1+d:Nat):Int)),(l.getD d 0:Int))then g (l.getD d 0)else 0:=by
   funext d
   simp only [Function.comp,List.getD_cons_succ,Nat.succ_eq_add_one]
   rw [show k+(d+1)=k+1+d by omega]
  rw [e2,←ih]
  simp only [List.getD_cons_zero,Nat.add_zero]
  by_cases h0:0<n
  · rw [if_pos (by omega),List.filter_cons,decide_eq_true h0,Bool.true_and]
    cases hP:P ((k:Int),(n:Int))with
    |true=>simp
    |false=>simp
  · rw [if_neg (by omega),decide_eq_false h0];simp
theorem done_eq {l:List Nat} {d r:List Pr} {p:Pr} (hp:(d++(p::r)).Perm (prsF 0 (nats l))) (hd:∀x∈d,leL x p=true) (hr:∀y∈r,leL p y=true):
 (d.map fun x=>krOf x.2.toNat).sum=prevK l p.1.toNat∧∃c:Nat,p.1=(c:Int)∧p.2=((l.getD c 0:Nat):Int)∧c<l.length∧0<l.getD c 0:=by
 have hmem:p∈prsF 0 (nats l):=hp.subset (by simp)
 obtain⟨c,h1,h2,h3⟩:=prsF_mem hmem
 rw [Nat.zero_add]at h1
 have hc:c<l.length:=by
  have:=(List.getElem?_eq_some_iff.1 h2).1
  simpa using this
 have hg:p.2=((l.getD c 0:Nat):Int):=by
  rw [nats_get (u:=l.getD c 0) (by simp [hc])]at h2
  exact(Option.some.inj h2).symm
 have hnd:=hp.symm.nodup (prsF_nodup _ _)
 have hfil:(d++(p::r)).filter (fun x=>ltL x p)=d:=by
  rw [List.filter_append,List.filter_cons,TO_L.irr p]
  rw [List.filter_eq_self.2,List.filter_eq_nil_iff.2]
  · simp
  · intro y hy hlt
    have:=hr y hy
    simp only [leL,hlt]at this
    exact absurd this (by decide)
  · intro x hx
    have h:=hd x hx
    simp only [leL,Bool.not_eq_true',ltL_false]at h
    rw [ltL_iff]
    have hne:x≠p:=by
     rintro rfl
     rw [List.nodup_append]at hnd
     exact hnd.2.2 x hx x (by simp) rfl
    have:¬(x.1=p.1∧x.2=p.2):=fun⟨a,b⟩=>hne (Prod.ext a b)
    omega
 have hsum:=sum_perm (hp.filter fun x=>ltL x p) fun x=>krOf x.2.toNat
 rw [hfil,sum_prsF (fun x=>ltL x p) krOf l 0]at hsum
 refine⟨?_,c,h1,hg,hc,by omega⟩
 rw [hsum,prevK,h1,Int.toNat_natCast]
 congr 1
 refine List.map_congr_left fun e he=>?_
 have:(decide (0<l.getD e 0)&&ltL (((0+e:Nat):Int),(l.getD e 0:Int)) p)=ahead l e c:=by
  rw [ahead,Bool.eq_iff_iff]
  simp only [Bool.and_eq_true,decide_eq_true_eq,ltL_iff,Bool.or_eq_true,beq_iff_eq,h1,hg]
  omega
 rw [this]
theorem kraft_prsF (l:List Nat):((prsF 0 (nats l)).map fun x=>krOf x.2.toNat).sum=kraft l:=by
 have h:=sum_prsF (fun _=>true) krOf l 0
 rw [List.filter_eq_self.2 (by simp)]at h
 rw [h,kraft]
 have e:∀d,(if decide (0<l.getD d 0)&&true then krOf (l.getD d 0)else 0)=krOf (l.getD d 0):=by
  intro d
  by_cases h0:0<l.getD d 0
  · rw [decide_eq_true h0];rfl
  · have h1:l.getD d 0=0:=by omega
    rw [decide_eq_false h0,h1];rfl
 simp only [e]
 congr 1
 apply List.ext_getElem
 · simp
 · intro i h1 h2
   simp at h1
   simp [h1]
theorem mayL_kraft {l:List Nat} (h:mayL l=true):kraft l≤32768∧l.length=65∧∀n∈l,n≤15:=by
 simp only [mayL,Bool.and_eq_true,Bool.or_eq_true,beq_iff_eq,List.all_eq_true,decide_eq_true_eq]at h
 refine⟨?_,h.1.1,h.1.2⟩
 rcases h.2 with(h0|h0)|h0
 · have:kraft l=0:=by
    have hz:∀n∈l,n=0:=by
     intro n hn
     have:=List.countP_eq_zero.1 h0 n hn
     simpa using this
    rw [kraft]
    have:l.map krOf=l.map fun _=>0:=List.map_congr_left fun n hn=>by rw [hz n hn];rfl
    rw [this]
    have zero:∀m:List Nat,(m.map fun _=>(0:Nat)).sum=0:=by
     intro m
     induction m with
     |nil=>rfl
     |cons x m ih=>rw [List.map_cons,List.sum_cons,ih]
    exact zero l
   omega
 · omega
 · omega
theorem prsF_lengths (l:List Nat):(prsF 0 (nats l)).length≤l.length:=by
 have:=prsF_len 0 (nats l)
 simpa using this
end Go.Proofs.Tryz
namespace Go.Proofs.Tryz
open Go Go.RowKit Go.Proofs.VC
variable {M:List Nat} {w0 w:World} {L:List En}
theorem mk_Code (n:Nat):mkCells TAB t_api_Code n=(prs (List.replicate n (0,0))).toArray:=by
 apply Array.ext'
 show(List.range (n*2)).map (fun i=>(([Value.int .i64 0,Value.int .i64 0]:List Value)[i%2]?).getD default)=_
 have e:∀i,(([Value.int .i64 0,Value.int .i64 0]:List Value)[i%2]?).getD default=Value.int .i64 0:=by
  intro i
  rcases Nat.mod_two_eq_zero_or_one i with h|h<;>rw [h]<;>rfl
 simp only [e]
 apply List.ext_getElem
 · simp [prs_len]
 · intro i h1 h2
   have hmem:(prs (List.replicate n (0,0)))[i]∈prs (List.replicate n (0,0)):=List.getElem_mem _
   have hall:∀v∈prs (List.replicate n (0,0)),v=Value.int .i64 0:=by
    intro v hv
    simp only [prs,List.mem_flatMap]at hv
    obtain⟨x,hx,hv⟩:=hv
    rw [(List.mem_replicate.1 hx).2]at hv
    simpa using hv
   simp only [List.getElem_map]
   exact(hall _ hmem).symm
def codesI (l:List Nat):List Pr:=(codesN l).map fun c=>((c.1:Int),(c.2:Int))
theorem codesI_len (l:List Nat):(codesI l).length=l.length:=by simp [codesI,codesN]
theorem codesI_get {l:List Nat} {c:Nat} (h:c<l.length):(codesI l)[c]? =some (((codeAt l c).1:Int),((codeAt l c).2:Int)):=by simp [codesI,codesN,h]
theorem gd_rep (n c:Nat) (h:c<n):gd (List.replicate n ((0,0):Pr)) c=(0,0):=by
 rw [gd_eq (by simpa using h),List.getElem_replicate]
theorem T_canon_Codes (a:Option Addr) (n c:Nat) (l:List Nat) (w:World) (hs:SlI w a n (nats l)) (hb:∀x∈l,x<9223372036854775808):Calls prog n_canon_Codes #[.slice a n c] w
 fun e w'=>(mayL l=false∧e= .returned (.tuple #[.slice none 0 0,.int .i64 3])∧Fr [] w w')∨
  (mayL l=true∧∃b,e= .returned (.tuple #[.slice (some (A0 b)) 65 65,.int .i64 0])∧Sx [] w w' [.ob b (.cells (prs (codesI l)).toArray t_api_Code (0,0))]):=by
 refine S_canon_Codes ?_
 unfold F_canon_Codes
 refine Calls.sx (Sx.start [] w) (T_canon_May a n c l w hs hb) fun w1 hf1 H=>⟨_,rfl,bif_i (fun h0=> .inl ⟨by simpa using h0,rfl,H.fr⟩) fun h0=>?_⟩
 have hmay:mayL l=true:=by simpa using h0
 obtain⟨hkr,h65,h15⟩:=mayL_kraft hmay
 obtain⟨rfl,hs⟩:=hs
 rw [nats_len]
 refine H.alloc fun w2 b14 _ H=>?_
 have H2:=H.asOw 2 0 0 (Nat.le_refl _) (by simp [maxLen]) rfl
 refine H2.alloc fun w3 b15 _ H=>?_
 refine⟨fun m x w3=>∃(i:Nat) (hl:List Pr),x=(i:Int)∧m+i=l.length∧HS [] w w3 [] t_canon_classes t_canon_class b15 hl∧hl.Perm (prsF 0 ((nats l).take i))∧HeapN ltL hl hl.length,
  ⟨l.length,0,[],rfl,rfl,⟨_,_,_,rfl,H⟩,by simp [prsF],fun k _ h=>absurd h (Nat.not_lt_zero _)⟩,?_⟩
 rintro m x w4 ⟨i,hl,rfl,hm,H,hp,hh⟩
 refine bif_i (fun h=>?_) (fun h=>?_)
 · have hi:i<l.length:=by have:=of_decide_eq_true h;omega
   have hi':i<(nats l).length:=by rw [nats_len];exact hi
   have hfr:Fr [] w w4:=by obtain⟨_,_,_,_,H⟩:=H;exact H.fr
   have hv:(nats l)[i]=((l[i]:Nat):Int):=by simp [nats]
   have e1:prsF 0 ((nats l).take (i+1))=prsF 0 ((nats l).take i)++(if 0<(nats l)[i]then [((i:Int),(nats l)[i])]else []):=by
    rw [List.take_succ_eq_append_getElem hi',prsF_app,List.length_take,Nat.min_eq_left (by omega),Nat.zero_add]
    simp only [prsF]
   have hlen:hl.length≤i:=by
    rw [hp.length_eq]
    exact Nat.le_trans (prsF_len _ _) (by rw [List.length_take];omega)
   refine⟨by omega,by omega,hs.read (i64s_get (List.getElem?_eq_getElem hi')) fun p hpp hc=>⟨_,by rw [Int.toNat_natCast,Nat.mul_one];exact hfr.cell0 hc,?_⟩⟩
   refine bif_i (fun h2=>?_) (fun h2=>?_)
   · have h2':0<(nats l)[i]:=of_decide_eq_true h2
     refine T_heap_Push (x:=((i:Int),(nats l)[i])) heap_canon_classes TO_L H hh (by omega) fun w5 l' H hp' hh'=>⟨rfl,m-1,by omega,i+1,l',W64_succ (by omega),by omega,H,?_,hh'⟩
     rw [e1,if_pos h2']
     exact hp'.trans ((hp.cons _).trans (List.perm_append_singleton _ _).symm)
   · have h2':¬0<(nats l)[i]:=of_decide_eq_false h2
     refine⟨m-1,by omega,i+1,hl,W64_succ (by omega),by omega,H,?_,hh⟩
     rw [e1,if_neg h2',List.append_nil]
     exact hp
 · have hi:i=l.length:=by have:=of_decide_eq_false h;omega
   rw [List.take_of_length_le (by rw [nats_len];omega)]at hp
   have hlen:hl.length≤l.length:=by rw [hp.length_eq];exact prsF_lengths l
   refine⟨by decide,by decide,by decide,?_⟩
   obtain⟨a1,n1,c1,h1,H⟩:=H
   refine H.alloc fun w6 b33 _ H=>?_
   rw [mk_Code]at H
   refine H.alloc fun w7 b8 _ H=>?_
   simp only [A0_add]
   refine H.sto 0 rfl (by simp) fun w8 _ H=>?_
   refine H.sto 0 rfl (by simp) fun w9 _ H=>?_
   refine⟨fun m w10=>∃(d r:List Pr) (lb ln:Int) (out:List Pr),m=r.length∧HS [] w w10 [.ob b8 (.cells #[.int .i64 lb,.int .i64 ln] t_api_Code (0,0)),.ob b33 (.cells (prs out).toArray t_api_Code (0,0))] t_canon_classes t_canon_class b15 r∧
    (d++r).Perm (prsF 0 (nats l))∧HeapN ltL r r.length∧(∀x∈d,∀y∈r,leL x y=true)∧out.length=65∧
    ((d= []∧lb= -1∧ln=0)∨∃b' s:Nat,lb=(b':Int)∧ln=(s:Int)∧1≤s∧s≤15∧(∀y∈r,(s:Int)≤y.2)∧(b'+1)*2^(15-s)=(d.map fun x=>krOf x.2.toNat).sum)∧
    (∀c,c<65→gd out c=if (∃x∈d,x.1=(c:Int))then(((codeAt l c).1:Int),((codeAt l c).2:Int))else(0,0)),
    ⟨hl.length,[],hl,-1,0,List.replicate 65 (0,0),rfl,⟨a1,n1,c1,h1,?_⟩,by simpa using hp,hh,by simp,by simp,.inl ⟨rfl,rfl,rfl⟩,fun c hc=>?_⟩,?_⟩
   · refine H.perm ?_
     have e:∀(a b c d:En),[a,b,c,d].Perm [c,d,a,b]:=fun a b c d=>List.perm_append_comm (l₁:= [a,b]) (l₂:= [c,d])
     exact e _ _ _ _
   · exact gd_rep _ _ hc
   rintro m w10 ⟨d,r,lb,ln,out,rfl,H,hp,hh,hdr,hout,hlast,hcodes⟩
   have hl2:d.length+r.length≤l.length:=by
    have:=hp.length_eq
    rw [List.length_append]at this
    rw [this];exact prsF_lengths l
   obtain⟨a1,n1,c1,rfl,H⟩:=H
   refine OSome.i ⟨_,_,_,H.cell 0 rfl rfl,S_canon_classes_Len ⟨_,rfl,bif_i (fun h2=>?_) fun h2=>?_⟩⟩
   · have h2':0<r.length:=by have:=of_decide_eq_true h2;omega
     refine T_heap_Pop heap_canon_classes TO_L (l:=r) ⟨a1,_,c1,rfl,H⟩ hh h2' (by omega) fun w12 p r' H hp' hh' hmin=>⟨_,rfl,p.1,p.2,rfl,?_⟩
     have hr'len:r'.length<r.length:=by have:=hp'.length_eq;simp only [List.length_cons]at this;omega
     have hpn:(d++(p::r')).Perm (prsF 0 (nats l)):=((hp'.symm).append_left d).trans hp
     have hdp:∀x∈d,leL x p=true:=fun x hx=>hdr x hx p (hp'.symm.subset (by simp))
     have hpr:∀y∈r',leL p y=true:=fun y hy=>by simp only [leL,Bool.not_eq_true'];exact hmin y hy
     obtain⟨hK,cc,hp1,hp2,hcl,hpos⟩:=done_eq hpn hdp hpr
     have hs15:l.getD cc 0≤15:=by
      rw [List.getD_eq_getElem?_getD,List.getElem?_eq_getElem hcl]
      exact h15 _ (List.getElem_mem hcl)
     have hKle:prevK l cc+2^(15-l.getD cc 0)≤32768:=by
      have hs:=sum_perm hpn fun x=>krOf x.2.toNat
      rw [kraft_prsF,List.map_append,List.sum_append,List.map_cons,List.sum_cons,hK,hp1,hp2,Int.toNat_natCast,Int.toNat_natCast]at hs
      have hk:krOf (l.getD cc 0)=2^(15-l.getD cc 0):=by rw [krOf,if_neg (by omega)]
      omega
     rw [hp1,Int.toNat_natCast]at hK
     obtain⟨p1,p2⟩:=p
     simp only at hp1 hp2
     subst hp1 hp2
     generalize hsz:l.getD cc 0=s at*
     obtain⟨a2,n2,c2,rfl,H⟩:=H
     refine H.alloc fun w13 b9 _ H=>?_
     refine H.sto 0 rfl (by simp) fun w14 _ H=>?_
     refine H.sto 0 rfl (by simp) fun w15 _ H=>?_
     intro J17 hJ
     have fin:∀(w16:World) (lb ln:Int) (b' s':Nat),ln=(s':Int)→s'≤s→lb+1=(b':Int)→b'*2^(15-s')=prevK l cc→1≤s'→
      Sx [] w w16 [.ob b9 (.cells #[.int .i64 (cc:Int),.int .i64 (s:Int)] t_canon_class (0,0)),.ob b15 (.cells #[.slice a2 r'.length c2] t_canon_classes (0,0)),.ow t_canon_class 2 a2 r'.length c2 (prs r'),
       .ob b8 (.cells #[.int .i64 lb,.int .i64 ln] t_api_Code (0,0)),.ob b33 (.cells (prs out).toArray t_api_Code (0,0))]→J17 w16:=by
      intro w16 lb ln b' s' hln hs' hlb hb' h1s' H
      refine hJ w16 (H.drew fun w17 _ H=>⟨_,H.cell 3 rfl rfl,_,H.cell 0 rfl rfl,_,H.cell 3 rfl rfl,?_⟩)
      have hpw:2^(15-s')=2^(s-s')*2^(15-s):=by rw [←Nat.pow_add];congr 1;omega
      have hbb:b'*2^(s-s')*2^(15-s)=prevK l cc:=by rw [←hb',hpw,Nat.mul_assoc]
      have hbnd:b'*2^(s-s')≤32768:=by
       have:b'*2^(s-s')*1≤b'*2^(s-s')*2^(15-s):=Nat.mul_le_mul_left _ (Nat.two_pow_pos _)
       rw [Nat.mul_one,hbb]at this
       exact Nat.le_trans this (Nat.le_trans (Nat.le_add_right _ _) hKle)
      have hbnd1:b'≤32768:=by
       have:b'*1≤b'*2^(s-s'):=Nat.mul_le_mul_left _ (Nat.two_pow_pos _)
       rw [Nat.mul_one]at this
       omega
      have hcode:codeAt l cc=(b'*2^(s-s'),s):=by
       rw [codeAt,hsz,if_neg (by omega),←hbb,Nat.mul_div_cancel _ (Nat.two_pow_pos _)]
      rw [hln,W64_idn (n:=(s:Int)-(s':Int)) (m:=s-s') (by omega) (by omega),W64_idn (n:=lb+1) (m:=b') hlb (by omega),shlI_i64 b' (s-s') (by omega) (by omega)]
      refine⟨by omega,_,H.cell 0 rfl rfl,?_⟩
      refine H.sto 3 rfl (by simp) fun w18 _ H=>?_
      refine H.sto 3 rfl (by simp) fun w19 _ H=>⟨trivial,_,H.cell 0 rfl rfl,_,_,⟨by rw [A0_add];exact H.cell 3 rfl rfl,by rw [A0_add];exact H.cell 3 rfl rfl,trivial⟩,by omega,by show((cc:Nat):Int)<65;omega,OSome.i ?_⟩
      simp only [A0_add,Int.toNat_natCast]
      have hsz2:((prs out).toArray).size=130:=by simp [prs_len,hout]
      have hcc2:cc*2+1<130:=by omega
      refine H.sto 4 rfl (by rw [hsz2];omega) fun w20 _ H=>?_
      refine H.sto 4 rfl (by rw [Array.size_setIfInBounds,hsz2];exact hcc2) fun w21 _ H=>?_
      refine⟨r'.length,hr'len,d++ [((cc:Int),(s:Int))],r',((b'*2^(s-s'):Nat):Int),(s:Int),out.set cc (((b'*2^(s-s'):Nat):Int),(s:Int)),rfl,⟨a2,_,c2,rfl,?_⟩,?_,hh',?_,by rw [List.length_set,hout],.inr ⟨b'*2^(s-s'),s,rfl,rfl,by omega,by omega,?_,?_⟩,?_⟩
      · have e:=prs_set out cc (((b'*2^(s-s'):Nat):Int),(s:Int))
        have H':Sx [] w w21 [.ob b15 (.cells #[.slice a2 r'.length c2] t_canon_classes (0,0)),.ow t_canon_class 2 a2 r'.length c2 (prs r'),
         .ob b8 (.cells #[.int .i64 ((b'*2^(s-s'):Nat):Int),.int .i64 (s:Int)] t_api_Code (0,0)),.ob b33 (.cells (((prs out).toArray.setIfInBounds (cc*2) (.int .i64 ((b'*2^(s-s'):Nat):Int))).setIfInBounds (cc*2+1) (.int .i64 (s:Int))) t_api_Code (0,0))]:=H.tail
        rw [List.setIfInBounds_toArray,List.setIfInBounds_toArray,e]at H'
        exact H'
      · rw [List.append_assoc,List.singleton_append];exact hpn
      · intro x hx y hy
        rcases List.mem_append.1 hx with hx|hx
        · exact hdr x hx y (hp'.symm.subset (List.mem_cons_of_mem _ hy))
        · simp at hx;subst hx;exact hpr y hy
      · intro y hy
        have:=hpr y hy
        simp only [leL,Bool.not_eq_true',ltL_false]at this
        omega
      · rw [List.map_append,List.sum_append,hK,Nat.add_mul,hbb,Nat.one_mul]
        simp only [List.map_cons,List.map_nil,List.sum_cons,List.sum_nil,Int.toNat_natCast,krOf]
        rw [if_neg (by omega)];rfl
      · intro c hc
        have hgs:gd (out.set cc (((b'*2^(s-s'):Nat):Int),(s:Int))) c=if c=cc then(((b'*2^(s-s'):Nat):Int),(s:Int))else gd out c:=by
         unfold gd
         rw [List.getD_eq_getElem?_getD,List.getElem?_set]
         by_cases e:cc=c
         · subst e;rw [if_pos rfl,if_pos (by omega),if_pos rfl];rfl
         · rw [if_neg e,if_neg (Ne.symm e),List.getD_eq_getElem?_getD]
        rw [hgs]
        by_cases e:c=cc
        · subst e
          rw [if_pos rfl,if_pos ⟨_,List.mem_append_right _ (List.mem_singleton_self _),rfl⟩,hcode]
        · rw [if_neg e,hcodes c hc]
          have:(∃x∈d++ [((cc:Int),(s:Int))],x.1=(c:Int))↔∃x∈d,x.1=(c:Int):=by
           constructor
           · rintro⟨x,hx,hxc⟩
             rcases List.mem_append.1 hx with hx|hx
             · exact⟨x,hx,hxc⟩
             · simp at hx;subst hx;simp at hxc;omega
           · rintro⟨x,hx,hxc⟩
             exact⟨x,List.mem_append_left _ hx,hxc⟩
          simp only [this]
     refine⟨_,H.cell 3 rfl rfl,bif_i (fun h3=>?_) fun h3=>?_⟩
     · have h3':ln=0:=eq_of_beq h3
       rcases hlast with⟨rfl,rfl,rfl⟩|⟨b',s',rfl,rfl,hs1,_⟩
       · refine⟨_,H.cell 0 rfl rfl,H.sto 3 rfl (by simp) fun w22 _ H=>?_⟩
         refine fin w22 (-1) (s:Int) 0 s rfl (Nat.le_refl _) rfl ?_ (by omega) H
         rw [Nat.zero_mul];simpa using hK
       · omega
     · have h3':ln≠0:=ne_of_beq_false h3
       rcases hlast with⟨rfl,rfl,rfl⟩|⟨b',s',rfl,rfl,hs1,hs2,hsr,hbk⟩
       · exact absurd rfl h3'
       · have hle:s'≤s:=by
          have:=hsr _ (hp'.symm.subset (List.mem_cons_self ..))
          simp only at this;omega
         exact fin w15 (b':Int) (s':Int) (b'+1) s' rfl hle rfl (by rw [hbk,hK]) hs1 H
   · have h2':r.length=0:=by have:=of_decide_eq_false h2;omega
     obtain rfl:=List.length_eq_zero_iff.1 h2'
     rw [List.append_nil]at hp
     refine .inr ⟨hmay,b33,rfl,?_⟩
     have hout2:out=codesI l:=by
      apply List.ext_getElem
      · rw [hout,codesI_len,h65]
      · intro c hc1 hc2
        have hcl:c<l.length:=by rw [codesI_len]at hc2;exact hc2
        rw [←gd_eq hc1,hcodes c (by omega)]
        have hg:=codesI_get (l:=l) (c:=c) (by omega)
        rw [List.getElem?_eq_getElem hc2]at hg
        rw [Option.some.inj hg]
        by_cases h0:l.getD c 0=0
        · rw [if_neg]
          · rw [codeAt,if_pos h0];rfl
          · rintro⟨x,hx,hxc⟩
            obtain⟨i',e1,e2,e3⟩:=prsF_mem (hp.subset hx)
            have:i'=c:=by rw [hxc]at e1;omega
            subst this
            rw [nats_get (u:=l.getD i' 0) (by rw [List.getD_eq_getElem?_getD,List.getElem?_eq_getElem hcl];rfl)]at e2
            have:=Option.some.inj e2
            omega
        · rw [if_pos]
          have hmem:((c:Int),((l.getD c 0:Nat):Int))∈prsF 0 (nats l):=by
           have gen:∀(l:List Nat) (k c:Nat),c<l.length→l.getD c 0≠0→((((k+c:Nat):Int)),((l.getD c 0:Nat):Int))∈prsF k (nats l):=by
            intro l
            induction l with
            |nil=>intro k c hc _;simp at hc
            |cons n l ih=>
             intro k c hc h0
             have e:nats (n::l)=(n:Int)::nats l:=rfl
             rw [e,prsF]
             cases c with
             |zero=>
              simp only [List.getD_cons_zero]at h0 ⊢
              rw [if_pos (by omega)];simp
             |succ c=>
              simp only [List.getD_cons_succ]at h0 ⊢
              have:=ih (k+1) c (by simpa using hc) h0
              rw [show k+1+c=k+(c+1) by omega]at this
              split
              · exact List.mem_cons_of_mem _ this
              · exact this
           have:=gen l 0 c (by omega) h0
           rwa [Nat.zero_add]at this
          exact⟨_,hp.symm.subset hmem,rfl⟩
     rw [hout2]at H
     exact(H.tail.tail).tail
end Go.Proofs.Tryz
namespace Go.Proofs.VC
open Go
def nouF:Nat→List Nat→Nat
 |0,_=>0
 |_+1,[]=>0
 |k+1,x::l=>if x=0 then nouF k l+1 else 0
def nou (l:List Nat):Nat:=nouF 16 l
theorem nouF_le:∀(k:Nat) (l:List Nat),nouF k l≤l.length∧nouF k l≤k
 |0,l=>by simp [nouF]
 |k+1,[]=>by simp [nouF]
 |k+1,x::l=>by
  have:=nouF_le k l
  simp only [nouF,List.length_cons]
  split<;>omega
theorem nouF_zero:∀(k:Nat) (l:List Nat) (i:Nat),i<nouF k l→l[i]? =some 0
 |0,l,i,h=>by simp [nouF]at h
 |k+1,[],i,h=>by simp [nouF]at h
 |k+1,x::l,i,h=>by
  simp only [nouF]at h
  split at h
  · rename_i hx
    cases i with
    |zero=>simp [hx]
    |succ i=>simpa using nouF_zero k l i (by omega)
  · omega
def lensBf:Nat→List Nat→List Bool
 |0,_=> []
 |_+1,[]=> []
 |f+1,x::l=>if x=0 then bitsOf 0 4++(bitsOf (nou (x::l)-1) 4++lensBf f ((x::l).drop (nou (x::l))))else bitsOf x 4++lensBf f l
def lensB (l:List Nat):List Bool:=lensBf l.length l
theorem lensBf_len:∀(f:Nat) (l:List Nat),(lensBf f l).length≤8*f
 |0,l=>by simp [lensBf]
 |f+1,[]=>by simp [lensBf]
 |f+1,x::l=>by
  simp only [lensBf]
  split
  · simp only [List.length_append,bitsOf_len];have:=lensBf_len f ((x::l).drop (nou (x::l)));omega
  · simp only [List.length_append,bitsOf_len];have:=lensBf_len f l;omega
theorem i64s_drop (l:List Int) (n:Nat):(i64s l).drop n=i64s (l.drop n):=by simp [i64s]
end Go.Proofs.VC
namespace Go.Proofs.Tryz
open Go Go.RowKit Go.Proofs.VC
variable {M:List Nat} {w0 w:World} {L:List En}
def putLens (l:List Nat):List UInt8:=if mayL l then packB (lensB l)else []
theorem nats_drop (l:List Nat) (n:Nat):(nats l).drop n=nats (l.drop n):=by simp [nats]
theorem T_lens_noughts (a:Option Addr) (n c:Nat) (l:List Nat) (w:World) (hs:SlI w a n (nats l)):Calls prog n_lens_noughts #[.slice a n c] w fun e w'=>e= .returned (.int .i64 ((nou l:Nat):Int))∧Fr [] w w':=by
 obtain⟨rfl,hs⟩:=hs
 rw [nats_len]
 refine S_lens_noughts ?_
 unfold F_lens_noughts
 refine⟨fun m x w1=>∃i:Nat,x=(i:Int)∧m+i=l.length∧i≤16∧nou l=i+nouF (16-i) (l.drop i)∧Fr [] w w1,⟨l.length,0,rfl,rfl,by omega,by simp [nou],Fr.refl _ _⟩,?_⟩
 rintro m x w1 ⟨i,rfl,hm,h16,hn,hf⟩
 have hmin:(if (16:Int)<((l.length:Nat):Int)then(16:Int)else((l.length:Nat):Int))=((min 16 l.length:Nat):Int):=by split<;>omega
 rw [hmin]
 refine bif_i (fun h=>?_) fun h=>?_
 · have h':i<16∧i<l.length:=by have:=of_decide_eq_true h;omega
   have hd:l.drop i=l[i]::l.drop (i+1):=(List.getElem_cons_drop h'.2).symm
   obtain⟨k,hk⟩:∃k,16-i=k+1:=⟨15-i,by omega⟩
   refine⟨by omega,by omega,hs.read (i64s_get (nats_get (List.getElem?_eq_getElem h'.2))) fun p hp hc=>⟨_,by rw [Int.toNat_natCast,Nat.mul_one];exact hf.cell0 hc,bif_i (fun h2=>?_) fun h2=>?_⟩⟩
   · have h2':l[i]=0:=by have:((l[i]:Nat):Int)=0:=eq_of_beq h2;omega
     refine⟨m-1,by omega,i+1,W64_succ (by omega),by omega,by omega,?_,hf⟩
     rw [hn,hd,hk,nouF,if_pos h2',show 16-(i+1)=k by omega];omega
   · have h2':l[i]≠0:=by have:((l[i]:Nat):Int)≠0:=ne_of_beq_false h2;omega
     rw [hn,hd,hk,nouF,if_neg h2']
     exact⟨rfl,hf⟩
 · have h':i=16∨l.length≤i:=by have:=of_decide_eq_false h;omega
   have:nouF (16-i) (l.drop i)=0:=by
    have:=nouF_le (16-i) (l.drop i)
    rw [List.length_drop]at this
    omega
   rw [hn,this]
   exact⟨rfl,hf⟩
theorem mayL_15 {l:List Nat} (h:mayL l=true):l.length=65∧∀x∈l,x≤15:=⟨(mayL_kraft h).2.1,(mayL_kraft h).2.2⟩
theorem T_lens_Put (a:Option Addr) (n c:Nat) (l:List Nat) (w:World) (hs:SlI w a n (nats l)) (hc:n≤c) (hb:∀x∈l,x<9223372036854775808):Calls prog n_lens_Put #[.slice a n c] w fun e w'=>e= .returned (.string (S (putLens l)))∧Fr [] w w':=by
 refine S_lens_Put ?_
 unfold F_lens_Put
 refine Calls.sx (Sx.start [] w) (T_canon_May a n c l w hs hb) fun w1 hf1 H=>⟨_,rfl,bif_i (fun h0=>?_) fun h0=>?_⟩
 · have h0':mayL l=false:=by simpa using h0
   refine⟨?_,H.fr⟩
   rw [putLens,h0'];rfl
 · have h0':mayL l=true:=by simpa using h0
   obtain⟨h65,h15⟩:=mayL_15 h0'
   obtain⟨rfl,hs⟩:=hs
   refine T_bits_New H fun w2 b hW=>⟨_,rfl,?_⟩
   refine⟨fun m a n c w3=>∃(r:List Nat) (bl:List Bool) (f:Nat),n=r.length∧n≤c∧m=r.length∧r.length≤f∧(∀x∈r,x≤15)∧Sl w a (i64s (nats r))∧WS [] w w3 [] b bl∧bl++lensBf f r=lensB l,⟨l.length,l,[],l.length,nats_len l,hc,rfl,Nat.le_refl _,h15,hs,hW,rfl⟩,?_⟩
   rintro m a n c w3 ⟨r,bl,f,rfl,hc,rfl,hf,h15,hs,hW,he⟩
   have hbl:bl.length≤520:=by
    have h1:=congrArg List.length he
    rw [List.length_append]at h1
    have:=lensBf_len l.length l
    rw [lensB]at h1
    omega
   refine bif_i (fun h1=>?_) fun h1=>?_
   · have hr:0<r.length:=by have:=of_decide_eq_true h1;omega
     have hfr:Fr [] w w3:=by obtain⟨_,_,_,_,H⟩:=hW;exact H.fr
     refine(T_lens_noughts a r.length c r w3 ⟨(nats_len r).symm,hs.fr0 hfr⟩).mono ?_
     rintro e w4 ⟨rfl,hf4⟩
     have hW:WS [] w w4 [] b bl:=by obtain⟨a',n',c',e',H⟩:=hW;exact⟨a',n',c',e',H.call0 hf4⟩
     obtain⟨f,rfl⟩:∃f',f=f'+1:=⟨f-1,by omega⟩
     obtain⟨x,r,rfl⟩:∃x r',r=x::r':=by
      cases r with
      |nil=>simp at hr
      |cons x r'=>exact⟨x,r',rfl⟩
     have hx:=h15 x (List.mem_cons_self ..)
     have hln:(x::r).length=r.length+1:=rfl
     refine⟨_,rfl,bif_i (fun h2=>?_) fun h2=>?_⟩
     · have h2':nou (x::r)=0:=by have:=eq_of_beq h2;omega
       have hx0:x≠0:=by
        intro h;subst h
        have:nou (0::r)=nouF 15 r+1:=by rw [nou,nouF,if_pos rfl]
        omega
       refine⟨by decide,by omega,hs.read (i64s_get (nats_get (u:=x) (i:=0) rfl)) fun p hp hcc=>⟨_,(hfr.trans hf4).cell0 hcc,?_⟩⟩
       rw [U64_nat,Nat.mod_eq_of_lt (by omega)]
       refine T_bits_Writer_Put (by show x<18446744073709551616;omega) hW (by omega) (by decide) fun w5 hW=>⟨rfl,by decide,by omega,r.length,by omega,r,bl++bitsOf x 4,f,?_,?_,rfl,by omega,fun y hy=>h15 y (List.mem_cons_of_mem _ hy),?_,hW,?_⟩
       · show r.length+1-1=_;omega
       · show r.length+1-1≤c-1;omega
       · exact hs.drop 1 c (by rw [i64s_len,nats_len];exact hc)
       · rw [List.append_assoc,←he,lensBf,if_neg hx0]
     · have h2':nou (x::r)≠0:=by have:=ne_of_beq_false h2;omega
       have hx0:x=0:=by
        have:=nouF_zero 16 (x::r) 0 (by show 0<nou (x::r);omega)
        simpa using this
       have hnl:=nouF_le 16 (x::r)
       have hnl:nou (x::r)≤(x::r).length∧nou (x::r)≤16:=hnl
       rw [show(0:Int)=((0:Nat):Int)from rfl]
       refine T_bits_Writer_Put (by decide) hW (by omega) (by decide) fun w5 hW=>⟨rfl,?_⟩
       rw [W64_idn (n:=((nou (x::r):Nat):Int)-1) (m:=nou (x::r)-1) (by omega) (by omega),U64_nat,Nat.mod_eq_of_lt (by omega)]
       refine T_bits_Writer_Put (by show nou (x::r)-1<18446744073709551616;omega) hW (by simp only [List.length_append,bitsOf_len];show bl.length+4≤_;omega) (by decide) fun w6 hW=>⟨rfl,by omega,by omega,(x::r).length-nou (x::r),by omega,(x::r).drop (nou (x::r)),_,f,?_,?_,by rw [List.length_drop],by rw [List.length_drop];omega,fun y hy=>h15 y (List.mem_of_mem_drop hy),?_,hW,?_⟩
       · rw [Int.toNat_natCast,List.length_drop]
       · rw [Int.toNat_natCast];omega
       · rw [Int.toNat_natCast]
         have:=hs.drop (nou (x::r)) c (by rw [i64s_len,nats_len];exact hc)
         rw [i64s_drop,nats_drop]at this
         exact this
       · rw [←he,lensBf,if_pos hx0,List.append_assoc,List.append_assoc];rfl
   · have hr:r.length=0:=by have:=of_decide_eq_false h1;omega
     obtain rfl:=List.length_eq_zero_iff.1 hr
     have he':bl=lensB l:=by
      rw [←he]
      cases f<;>simp [lensBf]
     refine T_bits_Writer_Bytes hW fun hW=>⟨_,rfl,?_,?_⟩
     · rw [putLens,h0',he'];rfl
     · obtain⟨_,_,_,_,H⟩:=hW;exact H.fr
end Go.Proofs.Tryz
namespace Go.Proofs.Tryz
open Go Go.RowKit Go.Proofs.VC
variable {M:List Nat} {w0 w:World} {L:List En}
def lensR:Nat→List Nat→List Bool→Nat→Option (List Nat×Nat)
 |0,acc,_,h=>if 65≤acc.length then some (acc,h)else none
 |f+1,acc,B,h=>if 65≤acc.length then some (acc,h)else if B.length<4 then none else
   if nb (B.take 4)=0 then(if (B.drop 4).length<4 then none else lensR f (acc++List.replicate (nb ((B.drop 4).take 4)+1) 0) ((B.drop 4).drop 4) (h+2))
   else lensR f (acc++ [nb (B.take 4)]) (B.drop 4) (h+1)
def getLens (t:List UInt8):Except Nat (List Nat×Nat):=match lensR 65 [] (bitsS t) 0 with
 |none=> .error 2
 |some (acc,h)=>if 65<acc.length then .error 3 else if !mayL acc then .error 3 else if !(putLens acc==t.take ((h+1)/2))then .error 3 else .ok (acc,(h+1)/2)
def getLensAt (s:List UInt8) (x:Int):Except Nat (List Nat×Nat):=if x<0 then .error 1 else if x>s.length then .error 1 else getLens (s.drop x.toNat)
theorem lensR_end (f:Nat) {acc:List Nat} {B:List Bool} {h:Nat} (ha:65≤acc.length):lensR f acc B h=some (acc,h):=by
 cases f<;>simp [lensR,ha]
theorem U64_succ {i:Nat} (h:i+1<18446744073709551616):U64 ((i:Int)+1)=((i+1:Nat):Int):=by
 have e:(i:Int)+1=((i+1:Nat):Int):=by omega
 rw [e,U64_nat,Nat.mod_eq_of_lt h]
theorem nats_app (a b:List Nat):nats (a++b)=nats a++nats b:=by simp [nats]
theorem T_lens_Get (s:List UInt8) (x:Int) (w:World) (hs:s.length≤140737488355328):Calls prog n_lens_Get #[.string (S s),.int .i64 x] w fun e w'=>
 (∃er:Nat,getLensAt s x= .error er∧e= .returned (.tuple #[.slice none 0 0,.int .i64 0,.int .i64 (er:Int)])∧Fr [] w w')∨
 (∃l u a n c,getLensAt s x= .ok (l,u)∧e= .returned (.tuple #[.slice a n c,.int .i64 (x+(u:Int)),.int .i64 0])∧n=l.length∧Sx [] w w' [.ow t_int 1 a n c (i64s (nats l))]):=by
 refine S_lens_Get ?_
 unfold F_lens_Get
 intro J3 hJ3
 rw [S_size]
 refine bif_i (fun h0=> .inl ⟨1,?_,rfl,Fr.refl _ _⟩) fun h0=>bif_i (fun h1=> .inl ⟨1,?_,rfl,Fr.refl _ _⟩) fun h1=>hJ3 _ _ _ _ ?_
 · rw [getLensAt,if_pos (of_decide_eq_true h0)]
 · rw [getLensAt,if_neg (of_decide_eq_false h0),if_pos (of_decide_eq_true h1)]
 have h0':=of_decide_eq_false h0
 have h1':=of_decide_eq_false h1
 obtain⟨at_,rfl⟩:∃n:Nat,x=(n:Int):=⟨x.toNat,by omega⟩
 have e0:getLensAt s (at_:Int)=getLens (s.drop at_):=by rw [getLensAt,if_neg h0',if_neg h1',Int.toNat_natCast]
 rw [e0]
 have hat:at_≤s.length:=by omega
 refine⟨by omega,by rw [S_size];omega,?_⟩
 rw [Int.toNat_natCast,S_size,S_extract,List.take_of_length_le (Nat.le_refl _)]
 generalize ht:s.drop at_=t
 have htl:t.length+at_=s.length:=by rw [←ht,List.length_drop];omega
 have htl2:t.length≤140737488355328:=by omega
 refine T_bits_From t ((Sx.start [] w).nilw t_int 1) fun w2 b H=>⟨_,rfl,?_⟩
 refine⟨fun m a n c x w3=>∃(acc:List Nat) (k h f:Nat),n=acc.length∧x=(h:Int)∧m+acc.length=80∧k=4*h∧k≤8*t.length∧h≤2*acc.length∧65≤f+acc.length∧(∀x∈acc,x<16)∧
  RS [] w w3 [.ow t_int 1 a n c (i64s (nats acc))] b t k∧lensR f acc ((bitsS t).drop k) h=lensR 65 [] (bitsS t) 0,⟨80,[],0,0,65,rfl,rfl,rfl,rfl,by omega,by simp,by simp,by simp,H,by rw [List.drop_zero]⟩,?_⟩
 rintro m a n c x w3 ⟨acc,k,h,f,rfl,rfl,hm,rfl,hk,hh,hf,h16,H,he⟩
 refine bif_i (fun h2=>?_) fun h2=>?_
 · have h2':acc.length<65:=by have:=of_decide_eq_true h2;omega
   obtain⟨f,rfl⟩:∃f',f=f'+1:=⟨f-1,by omega⟩
   have hdl:((bitsS t).drop (4*h)).length=8*t.length-4*h:=by rw [List.length_drop,bitsS_len]
   have hdd:((bitsS t).drop (4*h)).drop 4=(bitsS t).drop (4*(h+1)):=by rw [List.drop_drop];rfl
   have hdl2:((bitsS t).drop (4*(h+1))).length=8*t.length-4*(h+1):=by rw [List.length_drop,bitsS_len]
   rw [lensR,if_neg (by omega),hdl,hdd]at he
   refine T_bits_Reader_Get (n:=4) H htl2 hk (by decide) (fun hle w4 H=>?_) fun hgt w4 H=>?_
   · refine⟨_,_,rfl,bif_f rfl ?_⟩
     rw [if_neg (by omega)]at he
     intro J16 hJ
     have hv:=nb_lt (((bitsS t).drop (4*h)).take 4)
     have hvl:(((bitsS t).drop (4*h)).take 4).length=4:=by rw [List.length_take];omega
     rw [hvl]at hv
     generalize hvv:nb (((bitsS t).drop (4*h)).take 4)=v at*
     have fin:∀(w5:World) (h' many f:Nat),many<16→4*h'≤8*t.length→h'≤2*acc.length+2→64≤f+acc.length→RS [] w w5 [.ow t_int 1 a acc.length c (i64s (nats acc))] b t (4*h')→
      lensR f (acc++List.replicate (many+1) v) ((bitsS t).drop (4*h')) h'=lensR 65 [] (bitsS t) 0→J16 a acc.length c (h':Int) (many:Int) w5:=by
      intro w5 h' many f hm16 hk' hh' hf' H he'
      refine hJ _ _ _ _ _ _ ⟨fun m a n c x w6=>∃j:Nat,n=acc.length+j∧x=(j:Int)∧m+j=many+1∧RS [] w w6 [.ow t_int 1 a n c (i64s (nats (acc++List.replicate j v)))] b t (4*h'),⟨many+1,0,rfl,rfl,rfl,by simpa using H⟩,?_⟩
      rintro m2 a2 n2 c2 x w6 ⟨j,rfl,rfl,hmj,H⟩
      rw [U64_succ (by omega)]
      refine bif_i (fun h3=>?_) fun h3=>?_
      · have h3':j<many+1:=by have:=of_decide_eq_true h3;omega
        rw [W64_nat (by omega)]
        refine Sx.alloc H fun w7 b7 _ H=>?_
        refine app_int H (j:=1) rfl (by omega) fun a3 c3 w8 H=>⟨m2-1,by omega,j+1,by omega,U64_succ (by omega),by omega,?_⟩
        have e:nats (acc++List.replicate (j+1) v)=nats (acc++List.replicate j v)++ [(v:Int)]:=by
         rw [List.replicate_succ',←List.append_assoc,nats_app (acc++List.replicate j v)];rfl
        rw [e]
        exact H
      · have h3':j=many+1:=by have:=of_decide_eq_false h3;omega
        subst h3'
        refine⟨m-(many+1),by omega,acc++List.replicate (many+1) v,4*h',h',f,by simp,rfl,by simp;omega,rfl,hk',by simp;omega,by simp;omega,?_,H,he'⟩
        intro x hx
        rcases List.mem_append.1 hx with hx|hx
        · exact h16 x hx
        · rw [(List.mem_replicate.1 hx).2];exact hv
     refine bif_i (fun h3=>?_) fun h3=>?_
     · have h3':v=0:=by have:=eq_of_beq h3;omega
       rw [if_pos h3',hdl2]at he
       subst h3'
       refine T_bits_Reader_Get (n:=4) H htl2 (by omega) (by decide) (fun hle w5 H=>?_) fun hgt w5 H=>?_
       · refine⟨_,_,rfl,bif_f rfl ?_⟩
         rw [if_neg (by omega)]at he
         rw [W64_succ (by omega),W64_succ (by omega)]
         have e4:4*h+4=4*(h+1):=by omega
         have hdd2:((bitsS t).drop (4*(h+1))).drop 4=(bitsS t).drop (4*(h+2)):=by rw [List.drop_drop];rfl
         have hv2:=nb_lt (((bitsS t).drop (4*(h+1))).take 4)
         have hvl2:(((bitsS t).drop (4*(h+1))).take 4).length=4:=by rw [List.length_take];omega
         rw [hvl2]at hv2
         rw [hdd2]at he
         rw [e4]
         rw [e4,show 4*(h+1)+4=4*(h+2) by omega]at H
         exact fin w5 (h+2) _ f hv2 (by omega) (by omega) (by omega) H he
       · refine⟨_,_,rfl,bif_t rfl (.inl ⟨2,?_,rfl,H.fr⟩)⟩
         rw [getLens,←he,if_pos (by omega)]
     · have h3':v≠0:=by have:=ne_of_beq_false h3;omega
       rw [if_neg h3']at he
       rw [W64_succ (by omega)]
       rw [show 4*h+4=4*(h+1) by omega]at H
       exact fin w4 (h+1) 0 f (by decide) (by omega) (by omega) (by omega) H he
   · refine⟨_,_,rfl,bif_t rfl (.inl ⟨2,?_,rfl,H.fr⟩)⟩
     rw [getLens,←he,if_pos (by omega)]
 · have h2':65≤acc.length:=by have:=of_decide_eq_false h2;omega
   rw [lensR_end f h2']at he
   refine⟨by decide,Sx.drew H fun w10 _ H=>bif_i (fun h3=>⟨trivial,trivial,.inl ⟨3,?_,rfl,H.fr⟩⟩) fun h3=>?_⟩
   · have h3':65<acc.length:=by have:=of_decide_eq_true h3;omega
     rw [getLens,←he]
     show(if 65<acc.length then _ else _)=_
     rw [if_pos h3']
   · have h3':¬65<acc.length:=by have:=of_decide_eq_false h3;omega
     have eg:getLens t=if !mayL acc then .error 3 else if !(putLens acc==t.take ((h+1)/2))then .error 3 else .ok (acc,(h+1)/2):=by
      rw [getLens,←he]
      show(if 65<acc.length then _ else _)=_
      rw [if_neg h3']
     have hb:∀x∈acc,x<9223372036854775808:=fun x hx=>by have:=h16 x hx;omega
     have hsl:SlI w10 a acc.length (nats acc):=⟨(nats_len acc).symm,H.slw 1 rfl⟩
     refine(T_canon_May a _ c acc w10 hsl hb).mono ?_
     rintro e w11 ⟨rfl,hf11⟩
     have H:=H.call0 hf11
     refine⟨_,rfl,trivial,bif_i (fun h4=>⟨trivial,.inl ⟨3,?_,rfl,H.fr⟩⟩) fun h4=>?_⟩
     · rw [eg,h4];rfl
     · rw [h4]at eg
       have enx:W64 ((at_:Int)+W64 (Int.tdiv (W64 ((h:Int)+1)) 2))=((at_+(h+1)/2:Nat):Int):=by
        rw [W64_succ (by omega),show(2:Int)=((2:Nat):Int)from rfl,tdiv_nat,W64_nat (by omega),W64_idn (m:=at_+(h+1)/2) (by omega) (by omega)]
       rw [enx]
       refine⟨by omega,by first|omega|(rw [S_size];omega),by omega,by omega,?_⟩
       have hsl:SlI w11 a acc.length (nats acc):=⟨(nats_len acc).symm,H.slw 1 rfl⟩
       refine(T_lens_Put a _ c acc w11 hsl (H.cap 1 rfl) hb).mono ?_
       rintro e w12 ⟨rfl,hf12⟩
       have H:=H.call0 hf12
       refine⟨_,rfl,trivial,?_⟩
       have ex:(S s).extract at_ ((at_+(h+1)/2:Nat):Int).toNat=S (t.take ((h+1)/2)):=by
        rw [Int.toNat_natCast,S_extract,List.drop_take,ht,Nat.add_sub_cancel_left]
       rw [ex,S_beq]
       refine bif_i (fun h5=> .inl ⟨3,?_,rfl,H.fr⟩) fun h5=> .inr ⟨acc,(h+1)/2,a,_,c,?_,?_,rfl,?_⟩
       · rw [eg,h5];rfl
       · rw [eg,h5];rfl
       · rw [Int.natCast_add]
       · exact Sx.tail H
end Go.Proofs.Tryz
namespace Go.Proofs.Tryz
open Go Go.RowKit Go.Proofs.VC Go.Sort
variable {M:List Nat} {w0 w:World} {L:List En}
structure Bin where
 a:Option Addr
 n:Nat
 c:Nat
 l:List Nat
def Bin.nil:Bin:=⟨none,0,0,[]⟩
def Bin.en (x:Bin):En:= .ow t_int 1 x.a x.n x.c (i64s (nats x.l))
def Bin.v (x:Bin):Value:= .slice x.a x.n x.c
def coderC (tv:Value) (B:List Bin) (st:Int) (v1 v2:Value):Array Value:=(([tv]:List Value)++B.map Bin.v++([.int .i64 st]:List Value)++([v1,v2]:List Value)).toArray
theorem Sx.bins (H:Sx M w0 w L):∀k,Sx M w0 w ((List.replicate k Bin.nil).map Bin.en++L)
 |0=>H
 |k+1=>(Sx.bins H k).nilw t_int 1
def clsAt (l:List Nat) (log c p:Nat):List Nat:=(List.range p).filter fun q=>(spreadN l log).getD q 0==c
def binN (l:List Nat) (log c:Nat):List Nat:=sortBy (bsAt (tableN l log)) (clsAt l log c (2^log))
theorem clsAt_succ (l:List Nat) (log c p:Nat):clsAt l log c (p+1)=if (spreadN l log).getD p 0=c then clsAt l log c p++ [p]else clsAt l log c p:=by
 unfold clsAt
 rw [List.range_succ,List.filter_append,List.filter_cons,List.filter_nil]
 by_cases h:(spreadN l log).getD p 0=c
 · rw [if_pos h,if_pos (by simpa using h)]
 · rw [if_neg h,if_neg (by simpa using h),List.append_nil]
theorem clsAt_mem {l:List Nat} {log c p q:Nat} (h:q∈clsAt l log c p):q<p∧(spreadN l log).getD q 0=c:=by
 simp only [clsAt,List.mem_filter,List.mem_range,beq_iff_eq]at h
 exact h
theorem clsAt_len (l:List Nat) (log c p:Nat):(clsAt l log c p).length≤p:=by
 have:=List.length_filter_le (fun q=>(spreadN l log).getD q 0==c) (List.range p)
 rw [List.length_range]at this
 exact this
theorem ldCe {w:World} {a:Option Addr} {T:List Ce} {i:Nat} {u:Ce} (hs:Sl w a (ces T)) (hu:T[i]? =some u) {G:Addr→Prop} (h:∀p,a=some p→LdL w (p.add (i*3)) 0 (ce3 u)→G p):OSome a G:=by
 refine hs.read (ces_get hu 0 _ rfl) fun p hp hc=>h p hp (ldL_of fun j v hv=>?_)
 rw [add_add,Nat.zero_add]
 obtain⟨q,hq,hc'⟩:=hs _ _ (ces_get hu j v hv)
 rw [hp]at hq
 cases hq
 exact hc'
theorem readCe {w:World} {a:Option Addr} {T:List Ce} {i:Nat} {u:Ce} (hs:Sl w a (ces T)) (hu:T[i]? =some u) {G:Addr→Prop} {j:Nat} {v:Value} (hv:(ce3 u)[j]? =some v) (h:∀p,a=some p→w.cell? ((p.add (i*3)).add j)=some v→G p):OSome a G:=by
 refine ldCe hs hu fun p hp hl=>h p hp ?_
 have:=LdL_spec hl j v hv
 rwa [Nat.zero_add]at this
theorem T_states_made_1 {b6 x y:Nat} {a:Option Addr} {n c:Nat} {T:List Ce} {w:World} (hc:w.cell? (A0 b6)=some (.slice a n c)) (hs:Sl w a (ces T)) (hn:n=T.length) (hx:x<T.length) (hy:y<T.length) (hT:∀u∈T,u.2.2<1000000):
 Calls prog n_states_made_1 #[.int .i64 (x:Int),.int .i64 (y:Int),.pointer (some (A0 b6))] w fun e w'=>e= .returned (.int .i64 ((bsAt T x:Int)-(bsAt T y:Int)))∧w'=w.drew:=by
 refine S_states_made_1 ?_
 unfold F_states_made_1
 rintro w1 rfl
 have hc1:w.drew.cell? (A0 b6)=some (.slice a n c):=hc
 have hs1:Sl w.drew a (ces T):=hs
 have ex:T[x]? =some T[x]:=List.getElem?_eq_getElem hx
 have ey:T[y]? =some T[y]:=List.getElem?_eq_getElem hy
 have bx:bsAt T x=T[x].2.2:=by rw [bsAt,List.getD_eq_getElem?_getD,ex];rfl
 have by_:bsAt T y=T[y].2.2:=by rw [bsAt,List.getD_eq_getElem?_getD,ey];rfl
 refine⟨_,_,_,hc1,by omega,by omega,readCe hs1 ex (j:=2) rfl fun p hp hc2=>⟨_,by rw [Int.toNat_natCast];exact hc2,_,_,_,hc1,by omega,by omega,readCe hs1 ey (j:=2) rfl fun p hp hc3=>⟨_,by rw [Int.toNat_natCast];exact hc3,?_,rfl⟩⟩⟩
 have h1:=hT _ (List.getElem_mem hx)
 have h2:=hT _ (List.getElem_mem hy)
 rw [bx,by_,W64_id _ (by omega) (by omega)]
theorem table_base {l:List Nat} {log:Nat} (h:mayN l log=true):∀u∈tableN l log,u.1<65∧u.2.1≤12∧u.2.2<2^log:=by
 intro u hu
 obtain⟨p,hp,rfl⟩:=List.mem_iff_getElem.1 hu
 have hp':=hp
 rw [tableN_len]at hp'
 obtain⟨hlog,h65,hall,hsum⟩:=mayN_facts h
 obtain⟨x,e1,x1,x2,hx⟩:=table_cls h hp'
 rw [List.getElem?_eq_getElem hp]at e1
 have e1:=Option.some.inj e1
 obtain⟨hc,hf⟩:=spread_mem h hp'
 have hf2:l.getD ((spreadN l log).getD p 0) 0≤2^log:=by
  rw [List.getD_eq_getElem?_getD (l:=l)]
  cases hh:l[(spreadN l log).getD p 0]? with
  |none=>simp
  |some v=>exact hall v (List.mem_of_getElem? hh)
 rw [e1]
 refine⟨hc,?_,(base_at hlog.2 (by omega) (by omega)).2⟩
 show bitsN log x≤12
 unfold bitsN;omega
theorem coder_get (tv:Value) (B:List Bin) (st:Int) (v1 v2:Value) {i:Nat} {x:Bin} (h:B[i]? =some x):(coderC tv B st v1 v2)[1+i]? =some x.v:=by
 have hlt:=(List.getElem?_eq_some_iff.1 h).1
 unfold coderC
 rw [List.getElem?_toArray,Nat.add_comm 1 i,List.append_assoc,List.append_assoc,List.singleton_append,List.getElem?_cons_succ,List.getElem?_append_left (by simpa using hlt),List.getElem?_map,h];rfl
theorem coder_set (tv:Value) (B:List Bin) (st:Int) (v1 v2:Value) {i:Nat} (hlt:i<B.length) (x:Bin):(coderC tv B st v1 v2).setIfInBounds (1+i) x.v=coderC tv (B.set i x) st v1 v2:=by
 unfold coderC
 rw [List.setIfInBounds_toArray,Nat.add_comm 1 i,List.append_assoc,List.append_assoc,List.append_assoc,List.append_assoc,List.singleton_append,List.set_cons_succ,List.set_append_left _ _ (by simpa using hlt),List.map_set];rfl
theorem coder_size (tv:Value) (B:List Bin) (st:Int) (v1 v2:Value):(coderC tv B st v1 v2).size=B.length+4:=by
 unfold coderC;simp
def BinsOk (l:List Nat) (log:Nat) (B:List Bin):Prop:=B.length=65∧∀c b,B[c]? =some b→b.l=binN l log c
theorem T_states_made (a:Option Addr) (n c:Nat) (l:List Nat) (log:Nat) (w:World) (hs:SlI w a n (nats l)) (hm:mayN l log=true):
 Calls prog n_states_made #[.slice a n c,.int .i64 (log:Int)] w fun e w'=>∃b ta tc B,e= .returned (.tuple #[.pointer (some (A0 b)),.int .i64 0])∧BinsOk l log B∧
  Sx [] w w' (.ob b (.cells (coderC (.slice ta (2^log) tc) B 0 (.slice none 0 0) (.slice none 0 0)) t_states_coder (0,0)):: .ow t_api_Cell 3 ta (2^log) tc (ces (tableN l log)):: .ow t_uint64 1 none 0 0 []:: .ow t_int 1 none 0 0 []::B.map Bin.en):=by
 obtain⟨hlog,h65,hall,hsum⟩:=mayN_facts hm
 have h12:2^log≤2^12:=Nat.pow_le_pow_right (by decide) hlog.2
 have e12:(2:Nat)^12=4096:=by decide
 have hp0:=Nat.two_pow_pos log
 have hTl:=tableN_len l log
 have hTb:=table_base hm
 refine S_states_made ?_
 unfold F_states_made
 refine(T_spread_Table a n c l log w hs hm).mono ?_
 rintro e w1 ⟨ta,tc,rfl,H⟩
 refine⟨_,_,_,_,rfl,H.alloc fun w2 b6 _ H=>H.sto 0 rfl (by simp) fun w3 _ H=>bif_f rfl ⟨_,_,_,Sx.cell H 0 rfl rfl,?_⟩⟩
 have ez:(([.slice ta (2^log) tc]:List Value)++List.replicate 65 (.slice none 0 0:Value)++([.int .i64 0]:List Value)++([.slice none 0 0,.slice none 0 0]:List Value)).toArray=coderC (.slice ta (2^log) tc) (List.replicate 65 Bin.nil) 0 (.slice none 0 0) (.slice none 0 0):=by
  unfold coderC;rw [List.map_replicate];rfl
 rw [ez]
 have H:=((Sx.bins H 65).nilw t_int 1).nilw t_uint64 1
 refine H.alloc fun w4 b24 _ H=>?_
 have H:Sx [] w w4 (.ob b24 (.cells (coderC (.slice ta (2^log) tc) (List.replicate 65 Bin.nil) 0 (.slice none 0 0) (.slice none 0 0)) t_states_coder (0,0)):: .ow t_uint64 1 none 0 0 []:: .ow t_int 1 none 0 0 []::((List.replicate 65 Bin.nil).map Bin.en++ [.ob b6 (.cells #[.slice ta (2^log) tc] t_S_api_Cell (0,0)),.ow t_api_Cell 3 ta (2^log) tc (ces (tableN l log))])):=H
 have H:=H.perm (L':= .ob b6 (.cells #[.slice ta (2^log) tc] t_S_api_Cell (0,0)):: .ob b24 (.cells (coderC (.slice ta (2^log) tc) (List.replicate 65 Bin.nil) 0 (.slice none 0 0) (.slice none 0 0)) t_states_coder (0,0)):: .ow t_api_Cell 3 ta (2^log) tc (ces (tableN l log)):: .ow t_uint64 1 none 0 0 []:: .ow t_int 1 none 0 0 []::(List.replicate 65 Bin.nil).map Bin.en) (by
  generalize (List.replicate 65 Bin.nil).map Bin.en=Z
  generalize (En.ob b24 _)=z1
  generalize (En.ob b6 _)=z2
  generalize (En.ow t_api_Cell _ _ _ _ _)=z3
  generalize (En.ow t_uint64 _ _ _ _ _)=z4
  generalize (En.ow t_int _ _ _ _ _)=z5
  have q1:List.Perm (z1::z4::z5::(Z++ [z2,z3])) ([z1,z4,z5]++([z2,z3]++Z)):=(List.perm_append_comm (l₁:=Z) (l₂:= [z2,z3])).append_left [z1,z4,z5]
  have q2:List.Perm ([z1,z4,z5]++([z2,z3]++Z)) ([z2,z1,z3,z4,z5]++Z):=by
   rw [←List.append_assoc]
   refine List.Perm.append_right Z ?_
   show List.Perm [z1,z4,z5,z2,z3] [z2,z1,z3,z4,z5]
   have a1:List.Perm ([z1,z4,z5]++ [z2,z3]) ([z2,z3]++ [z1,z4,z5]):=List.perm_append_comm
   exact a1.trans (.cons _ (.swap _ _ _))
  exact q1.trans q2)
 refine⟨_,_,_,Sx.cell H 0 rfl rfl,?_⟩
 refine⟨fun m x w5=>∃(p:Nat) (B:List Bin),x=(p:Int)∧m+p=2^log∧B.length=65∧(∀c b,B[c]? =some b→b.l=clsAt l log c p)∧
  Sx [] w w5 (.ob b6 (.cells #[.slice ta (2^log) tc] t_S_api_Cell (0,0)):: .ob b24 (.cells (coderC (.slice ta (2^log) tc) B 0 (.slice none 0 0) (.slice none 0 0)) t_states_coder (0,0)):: .ow t_api_Cell 3 ta (2^log) tc (ces (tableN l log)):: .ow t_uint64 1 none 0 0 []:: .ow t_int 1 none 0 0 []::B.map Bin.en),
  ⟨2^log,0,List.replicate 65 Bin.nil,rfl,rfl,by simp,?_,H⟩,?_⟩
 · intro c b hb
   have:b=Bin.nil:=by
    rw [List.getElem?_replicate]at hb
    split at hb
    · exact(Option.some.inj hb).symm
    · cases hb
   subst this;rfl
 rintro m x w5 ⟨p,B,rfl,hmp,hB,hBl,H⟩
 refine bif_i (fun h=>?_) fun h=>?_
 · have hp:p<2^log:=by have:=of_decide_eq_true h;omega
   obtain⟨xx,e1,x1,x2,hx⟩:=table_cls hm hp
   obtain⟨hc65,_⟩:=spread_mem hm hp
   have hcs:=fun c=>clsAt_succ l log c p
   generalize hcc:(spreadN l log).getD p 0=cc at*
   refine⟨by omega,by omega,ldCe (Sx.slw H 2 rfl) e1 fun q hq hl=>⟨_,_,_,by rw [Int.toNat_natCast];exact hl,?_⟩⟩
   refine H.alloc fun w6 b10 _ H=>H.sto 0 rfl (by simp) fun w7 _ H=>?_
   rw [A0_add,A0_add]
   refine H.sto 0 rfl (by simp) fun w8 _ H=>H.sto 0 rfl (by simp) fun w9 _ H=>H.drew fun w10 _ H=>⟨(cc:Int),Sx.cell H 0 rfl rfl,(cc:Int),Sx.cell H 0 rfl rfl,OSome.i ⟨by omega,by omega,?_⟩⟩
   have hcB:cc<B.length:=by omega
   have hb:B[cc]? =some B[cc]:=List.getElem?_eq_getElem hcB
   rw [Int.toNat_natCast,Nat.mul_one,A0_add,add_lit]
   have hget:=coder_get (.slice ta (2^log) tc) B 0 (.slice none 0 0) (.slice none 0 0) hb
   refine⟨_,_,_,Sx.cell H 2 rfl hget,OSome.i ?_⟩
   refine Sx.alloc H fun w11 b43 _ H=>⟨⟨fun _=>Sx.cell H 1 rfl rfl,fun _=>Sx.cell H 1 rfl rfl,fun _=>Sx.cell H 3 rfl hget,trivial⟩,?_⟩
   have hbl:=hBl cc _ hb
   have hlen:=H.len (cc+7) (show _=some (B[cc]).en by show(B.map Bin.en)[cc]? =_;rw [List.getElem?_map,hb];rfl)
   rw [i64s_len,nats_len,hbl,Nat.mul_one]at hlen
   have hll:=clsAt_len l log cc p
   refine app_int H (j:=cc+6) (show _=some (B[cc]).en by show(B.map Bin.en)[cc]? =_;rw [List.getElem?_map,hb];rfl) (by omega) fun a3 c3 w12 H=>⟨⟨fun _=>Sx.cell H 0 rfl rfl,fun _=>Sx.cell H 0 rfl rfl,trivial⟩,by omega,by omega,?_⟩
   rw [A0_add,add_lit]
   refine H.sto 2 rfl (by rw [coder_size];omega) fun w13 _ H=>⟨trivial,m-1,by omega,p+1,B.set cc ⟨a3,(B[cc]).n+1,c3,(B[cc]).l++ [p]⟩,W64_succ (by omega),by omega,by simpa using hB,?_,?_⟩
   · intro c b hcb
     rw [hcs c]
     by_cases hc:cc=c
     · subst hc
       rw [List.getElem?_set_self hcB]at hcb
       obtain rfl:=Option.some.inj hcb
       rw [if_pos rfl,←hbl]
     · rw [List.getElem?_set_ne hc]at hcb
       rw [if_neg hc]
       exact hBl c b hcb
   · have H2:=Sx.tail H
     have eset:=coder_set (.slice ta (2^log) tc) B 0 (.slice none 0 0) (.slice none 0 0) hcB ⟨a3,(B[cc]).n+1,c3,(B[cc]).l++ [p]⟩
     rw [←eset,List.map_set]
     have en:Bin.en ⟨a3,(B[cc]).n+1,c3,(B[cc]).l++ [p]⟩= .ow t_int 1 a3 ((B[cc]).n+1) c3 (i64s (nats (B[cc]).l++ [(p:Int)])):=by
      show En.ow t_int 1 a3 ((B[cc]).n+1) c3 (i64s (nats ((B[cc]).l++ [p])))=_
      rw [nats_app];rfl
     rw [en]
     exact H2
 · have hp:p=2^log:=by have:=of_decide_eq_false h;omega
   subst hp
   obtain⟨g,hg⟩:∃g:Nat→Bin,g=fun i=>B.getD i Bin.nil:=⟨_,rfl⟩
   have eB:(List.range 65).map (fun i=>Bin.v (g i))=B.map Bin.v:=by
    apply List.ext_getElem
    · simp [hB]
    · intro i h1 h2
      have:i<B.length:=by simpa using h2
      rw [hg]
      simp [List.getD_eq_getElem?_getD,this]
   refine OSome.i ⟨(g 0).a,(g 0).n,(g 0).c,(g 1).a,(g 1).n,(g 1).c,(g 2).a,(g 2).n,(g 2).c,(g 3).a,(g 3).n,(g 3).c,(g 4).a,(g 4).n,(g 4).c,(g 5).a,(g 5).n,(g 5).c,(g 6).a,(g 6).n,(g 6).c,(g 7).a,(g 7).n,(g 7).c,(g 8).a,(g 8).n,(g 8).c,(g 9).a,(g 9).n,(g 9).c,(g 10).a,(g 10).n,(g 10).c,(g 11).a,(g 11).n,(g 11).c,(g 12).a,(g 12).n,(g 12).c,(g 13).a,(g 13).n,(g 13).c,(g 14).a,(g 14).n,(g 14).c,(g 15).a,(g 15).n,(g 15).c,(g 16).a,(g 16).n,(g 16).c,(g 17).a,(g 17).n,(g 17).c,(g 18).a,(g 18).n,(g 18).c,(g 19).a,(g 19).n,(g 19).c,(g 20).a,(g 20).n,(g 20).c,(g 21).a,(g 21).n,(g 21).c,(g 22).a,(g 22).n,(g 22).c,(g 23).a,(g 23).n,(g 23).c,(g 24).a,(g 24).n,(g 24).c,(g 25).a,(g 25).n,(g 25).c,(g 26).a,(g 26).n,(g 26).c,(g 27).a,(g 27).n,(g 27).c,(g 28).a,(g 28).n,(g 28).c,(g 29).a,(g 29).n,(g 29).c,(g 30).a,(g 30).n,(g 30).c,(g 31).a,(g 31).n,(g 31).c,(g 32).a,(g 32).n,(g 32).c,(g 33).a,(g 33).n,(g 33).c,(g 34).a,(g 34).n,(g 34).c,(g 35).a,(g 35).n,(g 35).c,(g 36).a,(g 36).n,(g 36).c,(g 37).a,(g 37).n,(g 37).c,(g 38).a,(g 38).n,(g 38).c,(g 39).a,(g 39).n,(g 39).c,(g 40).a,(g 40).n,(g 40).c,(g 41).a,(g 41).n,(g 41).c,(g 42).a,(g 42).n,(g 42).c,(g 43).a,(g 43).n,(g 43).c,(g 44).a,(g 44).n,(g 44).c,(g 45).a,(g 45).n,(g 45).c,(g 46).a,(g 46).n,(g 46).c,(g 47).a,(g 47).n,(g 47).c,(g 48).a,(g 48).n,(g 48).c,(g 49).a,(g 49).n,(g 49).c,(g 50).a,(g 50).n,(g 50).c,(g 51).a,(g 51).n,(g 51).c,(g 52).a,(g 52).n,(g 52).c,(g 53).a,(g 53).n,(g 53).c,(g 54).a,(g 54).n,(g 54).c,(g 55).a,(g 55).n,(g 55).c,(g 56).a,(g 56).n,(g 56).c,(g 57).a,(g 57).n,(g 57).c,(g 58).a,(g 58).n,(g 58).c,(g 59).a,(g 59).n,(g 59).c,(g 60).a,(g 60).n,(g 60).c,(g 61).a,(g 61).n,(g 61).c,(g 62).a,(g 62).n,(g 62).c,(g 63).a,(g 63).n,(g 63).c,(g 64).a,(g 64).n,(g 64).c,?_⟩
   have hld:LdL w5 ((A0 b24).add 1) 0 (B.map Bin.v):=ldL_of fun j u hu=>by
    rw [A0_add,add_lit,Nat.zero_add]
    rw [List.getElem?_map]at hu
    cases hb:B[j]? with
    |none=>rw [hb]at hu;cases hu
    |some b=>
     rw [hb]at hu
     obtain rfl:=Option.some.inj hu
     exact Sx.cell H 1 rfl (coder_get _ B _ _ _ hb)
   let sb:Bin→Bin:=fun b=>⟨b.a,b.n,b.c,sortBy (bsAt (tableN l log)) b.l⟩
   refine⟨by rw [←eB]at hld;exact hld,fun m x w14=>∃i:Nat,x=(i:Int)∧m+i=65∧
    Sx [] w w14 (.ob b6 (.cells #[.slice ta (2^log) tc] t_S_api_Cell (0,0)):: .ob b24 (.cells (coderC (.slice ta (2^log) tc) B 0 (.slice none 0 0) (.slice none 0 0)) t_states_coder (0,0)):: .ow t_api_Cell 3 ta (2^log) tc (ces (tableN l log)):: .ow t_uint64 1 none 0 0 []:: .ow t_int 1 none 0 0 []::((B.take i).map sb++B.drop i).map Bin.en),
    ⟨65,0,rfl,rfl,H⟩,?_⟩
   rintro m2 x w14 ⟨i,rfl,hm2,H⟩
   refine bif_i (fun h2=>?_) fun h2=>?_
   · have hi:i<65:=by have:(i:Int)<((65:Nat):Int):=of_decide_eq_true h2;omega
     have hiB:i<B.length:=by omega
     have hb:B[i]? =some B[i]:=List.getElem?_eq_getElem hiB
     have hbl:=hBl i _ hb
     have hvs:(B.map Bin.v)[i]? =some (B[i]).v:=by rw [List.getElem?_map,hb];rfl
     refine⟨by omega,by omega,_,_,_,(show((List.range 65).map fun i=>Bin.v (g i))[Int.toNat (i:Int)*1]? =some (B[i]).v by rw [Int.toNat_natCast,Nat.mul_one,eB];exact hvs),?_⟩
     have hd:B.drop i=B[i]::B.drop (i+1):=(List.getElem_cons_drop hiB).symm
     have hlt:((B.take i).map sb).length=i:=by rw [List.length_map,List.length_take];omega
     have hj:(((B.take i).map sb++B.drop i).map Bin.en)[i]? =some (B[i]).en:=by
      rw [List.getElem?_map,List.getElem?_append_right (by omega),hlt,Nat.sub_self,hd];rfl
     have hset:∀l',(((B.take i).map sb++B.drop i).map Bin.en).set i (.ow t_int 1 (B[i]).a (B[i]).n (B[i]).c (i64s (nats l')))=((B.take i).map sb++⟨(B[i]).a,(B[i]).n,(B[i]).c,l'⟩::B.drop (i+1)).map Bin.en:=by
      intro l'
      rw [show En.ow t_int 1 (B[i]).a (B[i]).n (B[i]).c (i64s (nats l'))=Bin.en ⟨(B[i]).a,(B[i]).n,(B[i]).c,l'⟩from rfl,←List.map_set,List.set_append_right _ _ (by omega),hlt,Nat.sub_self,hd];rfl
     have hmem:∀x∈(B[i]).l,x<2^log∧(spreadN l log).getD x 0=i:=fun x hx=>clsAt_mem (by rw [hbl]at hx;exact hx)
     refine T_slices_SortFunc (i+5) H (show _=some (B[i]).en from hj) (by rw [hbl];have:=clsAt_len l log i (2^log);omega) (bsAt (tableN l log)) (fun x hx y hy he=>?_) (by decide+kernel) (fun l' W HW x hx y hy=>?_) fun w15 H=>⟨rfl,m2-1,by omega,i+1,W64_succ (by omega),by omega,?_⟩
     · exact base_apart hm (hmem x hx).1 (hmem y hy).1 (by rw [(hmem x hx).2,(hmem y hy).2]) he
     · refine(T_states_made_1 (b6:=b6) (T:=tableN l log) (x:=x) (y:=y) (Sx.cell HW 0 rfl rfl) (Sx.slw HW 2 rfl) hTl.symm (by rw [hTl];exact(hmem x hx).1) (by rw [hTl];exact(hmem y hy).1) fun u hu=>by have:=(hTb u hu).2.2;omega).mono ?_
       rintro e w' ⟨rfl,rfl⟩
       exact⟨rfl,1,#[],by rw [grow_empty];rfl⟩
     · have H:Sx [] w w15 (.ob b6 (.cells #[.slice ta (2^log) tc] t_S_api_Cell (0,0)):: .ob b24 (.cells (coderC (.slice ta (2^log) tc) B 0 (.slice none 0 0) (.slice none 0 0)) t_states_coder (0,0)):: .ow t_api_Cell 3 ta (2^log) tc (ces (tableN l log)):: .ow t_uint64 1 none 0 0 []:: .ow t_int 1 none 0 0 []::(((B.take i).map sb++B.drop i).map Bin.en).set i (.ow t_int 1 (B[i]).a (B[i]).n (B[i]).c (i64s (nats (sortBy (bsAt (tableN l log)) (B[i]).l))))):=H
       rw [hset]at H
       have et:(B.take i).map sb++⟨(B[i]).a,(B[i]).n,(B[i]).c,sortBy (bsAt (tableN l log)) (B[i]).l⟩::B.drop (i+1)=(B.take (i+1)).map sb++B.drop (i+1):=by
        rw [List.take_succ_eq_append_getElem hiB,List.map_append,List.append_assoc];rfl
       rw [et]at H
       exact H
   · have hi:i=65:=by have:¬(i:Int)<((65:Nat):Int):=of_decide_eq_false h2;omega
     subst hi
     have et:(B.take 65).map sb++B.drop 65=B.map sb:=by rw [List.take_of_length_le (by omega),List.drop_of_length_le (by omega),List.append_nil]
     rw [et]at H
     refine⟨b24,ta,tc,B.map sb,rfl,⟨by simpa using hB,fun c b hb=>?_⟩,?_⟩
     · rw [List.getElem?_map]at hb
       cases hbc:B[c]? with
       |none=>rw [hbc]at hb;cases hb
       |some b'=>
        rw [hbc]at hb
        obtain rfl:=Option.some.inj hb
        show sortBy _ b'.l=_
        rw [hBl c b' hbc];rfl
     · have ec:coderC (.slice ta (2^log) tc) (B.map sb) 0 (.slice none 0 0) (.slice none 0 0)=coderC (.slice ta (2^log) tc) B 0 (.slice none 0 0) (.slice none 0 0):=by
        unfold coderC
        rw [List.map_map];rfl
       rw [ec]
       exact H.tail
end Go.Proofs.Tryz
namespace Go.Proofs.Tryz
open Go Go.RowKit Go.Proofs.VC
theorem nth_count (c:Nat):∀(s:List Nat) (k:Nat),k<s.count c→∃q,q<s.length∧s.getD q 0=c∧(s.take q).count c=k
 | [],k,h=>by simp at h
 |x::s,k,h=>by
  by_cases hx:x=c
  · subst hx
    cases k with
    |zero=>exact⟨0,by simp,rfl,by simp⟩
    |succ k=>
     rw [List.count_cons_self]at h
     obtain⟨q,h1,h2,h3⟩:=nth_count x s k (by omega)
     exact⟨q+1,by simpa using h1,h2,by rw [List.take_succ_cons,List.count_cons_self,h3]⟩
  · rw [List.count_cons_of_ne hx]at h
    obtain⟨q,h1,h2,h3⟩:=nth_count c s k h
    exact⟨q+1,by simpa using h1,h2,by rw [List.take_succ_cons,List.count_cons_of_ne hx,h3]⟩
def btAt (T:List Ce) (p:Nat):Nat:=(T.getD p (0,0,0)).2.1
def holdsN (l:List Nat) (log c s q:Nat):Bool:=((spreadN l log).getD q 0==c)&&(decide (bsAt (tableN l log) q≤s)&&decide (s<bsAt (tableN l log) q+2^btAt (tableN l log) q))
def placeN (l:List Nat) (log c s:Nat):Nat:=((List.range (2^log)).find? (holdsN l log c s)).getD 0
variable {l:List Nat} {log c s p q:Nat}
theorem holdsN_iff:holdsN l log c s q=true↔(spreadN l log).getD q 0=c∧bsAt (tableN l log) q≤s∧s<bsAt (tableN l log) q+2^btAt (tableN l log) q:=by
 simp [holdsN]
theorem table_at (h:mayN l log=true) (hp:p<2^log):∃x,bsAt (tableN l log) p=baseOf log x∧btAt (tableN l log) p=bitsN log x∧l.getD ((spreadN l log).getD p 0) 0≤x∧x<2*l.getD ((spreadN l log).getD p 0) 0∧
 x=l.getD ((spreadN l log).getD p 0) 0+((spreadN l log).take p).count ((spreadN l log).getD p 0):=by
 obtain⟨x,e,h1,h2,h3⟩:=table_cls h hp
 refine⟨x,?_,?_,h1,h2,h3⟩
 · rw [bsAt,List.getD_eq_getElem?_getD,e];rfl
 · rw [btAt,List.getD_eq_getElem?_getD,e];rfl
theorem count_le (h:mayN l log=true) (c:Nat):l.getD c 0≤2^log:=by
 obtain⟨hlog,h65,hall,hsum⟩:=mayN_facts h
 rw [List.getD_eq_getElem?_getD]
 cases hh:l[c]? with
 |none=>simp
 |some v=>exact hall v (List.mem_of_getElem? hh)
theorem place_ex (h:mayN l log=true) (hc:c<65) (h0:0<l.getD c 0) (hs:s<2^log):∃q,q<2^log∧holdsN l log c s q=true:=by
 obtain⟨hlog,h65,hall,hsum⟩:=mayN_facts h
 obtain⟨x,hx,hx2⟩:=cell_cover hlog.2 h0 (count_le h c) hs
 obtain⟨q,hq,hqc,hqk⟩:=nth_count c (spreadN l log) (x-l.getD c 0) (by rw [spread_count h hc];omega)
 rw [spreadN_len]at hq
 obtain⟨y,h1,h2,_,_,hy⟩:=table_at h hq
 rw [hqc,hqk]at hy
 obtain rfl:y=x:=by omega
 exact⟨q,hq,holdsN_iff.2 ⟨hqc,by rw [h1];exact hx2.1,by rw [h1,h2];exact hx2.2⟩⟩
theorem place_uniq (h:mayN l log=true) (hp:p<2^log) (hq:q<2^log) (h1:holdsN l log c s p=true) (h2:holdsN l log c s q=true):p=q:=by
 obtain⟨hlog,h65,hall,hsum⟩:=mayN_facts h
 obtain⟨a1,a2,a3⟩:=holdsN_iff.1 h1
 obtain⟨b1,b2,b3⟩:=holdsN_iff.1 h2
 obtain⟨x,x1,x2,x3,x4,_⟩:=table_at h hp
 obtain⟨y,y1,y2,y3,y4,_⟩:=table_at h hq
 have hf:=(spread_mem h hp).2
 refine base_apart h hp hq (by rw [a1,b1]) ?_
 rw [x1]at a2 ⊢
 rw [x1,x2]at a3
 rw [y1]at b2 ⊢
 rw [y1,y2]at b3
 rw [a1]at x3 x4 hf
 rw [b1]at y3 y4
 rw [cell_apart (s:=s) hlog.2 hf (count_le h c) ⟨x3,x4⟩ ⟨y3,y4⟩ ⟨a2,a3⟩ ⟨b2,b3⟩]
theorem place_spec (h:mayN l log=true) (hc:c<65) (h0:0<l.getD c 0) (hs:s<2^log):placeN l log c s<2^log∧holdsN l log c s (placeN l log c s)=true:=by
 obtain⟨q,hq,hqh⟩:=place_ex h hc h0 hs
 have:((List.range (2^log)).find? (holdsN l log c s)).isSome=true:=List.find?_isSome.2 ⟨q,List.mem_range.2 hq,hqh⟩
 obtain⟨r,hr⟩:=Option.isSome_iff_exists.1 this
 unfold placeN
 rw [hr]
 exact⟨List.mem_range.1 (List.mem_of_find?_eq_some hr),List.find?_some hr⟩
theorem bin_mem:q∈binN l log c↔q<2^log∧(spreadN l log).getD q 0=c:=by
 unfold binN sortBy
 rw [(List.mergeSort_perm _ _).mem_iff]
 simp [clsAt]
theorem bin_sorted:(binN l log c).Pairwise fun x y=>bsAt (tableN l log) x≤bsAt (tableN l log) y:=by
 have:=List.pairwise_mergeSort (le:=fun x y=>decide (bsAt (tableN l log) x≤bsAt (tableN l log) y)) (fun a b c h1 h2=>by simp at*;omega) (fun a b=>by simp;omega) (clsAt l log c (2^log))
 exact this.imp fun h=>by simpa using h
theorem bin_len:(binN l log c).length≤2^log:=by
 unfold binN sortBy
 rw [(List.mergeSort_perm _ _).length_eq]
 exact clsAt_len _ _ _ _
theorem bin_last (h:mayN l log=true) (hc:c<65) (h0:0<l.getD c 0) (hs:s<2^log) {i:Nat} (hi:i<(binN l log c).length) (h1:bsAt (tableN l log) (binN l log c)[i]≤s)
 (h2:∀k (hk:k<(binN l log c).length),i<k→s<bsAt (tableN l log) (binN l log c)[k]):(binN l log c)[i]=placeN l log c s:=by
 obtain⟨hq0,hh0⟩:=place_spec h hc h0 hs
 obtain⟨b1,b2,b3⟩:=holdsN_iff.1 hh0
 obtain⟨hq,hqc⟩:=bin_mem.1 (List.getElem_mem hi)
 obtain⟨k,hk,ek⟩:=List.mem_iff_getElem.1 (bin_mem.2 ⟨hq0,b1⟩)
 have hki:k≤i:=by
  rcases Nat.lt_or_ge i k with h3|h3
  · have:=h2 k hk h3
    rw [ek]at this;omega
  · exact h3
 have hle:bsAt (tableN l log) (placeN l log c s)≤bsAt (tableN l log) (binN l log c)[i]:=by
  rcases Nat.lt_or_eq_of_le hki with h3|h3
  · have:=List.pairwise_iff_getElem.1 bin_sorted k i hk hi h3
    rwa [ek]at this
  · subst h3;rw [ek];exact Nat.le_refl _
 have hpos:=Nat.two_pow_pos (btAt (tableN l log) (binN l log c)[i])
 refine place_uniq (s:=bsAt (tableN l log) (binN l log c)[i]) h hq hq0 (c:=c) (holdsN_iff.2 ⟨hqc,Nat.le_refl _,by omega⟩) (holdsN_iff.2 ⟨b1,hle,by omega⟩)
theorem bin_pos (h:mayN l log=true) (hc:c<65) (h0:0<l.getD c 0) (hs:s<2^log):∃k,∃hk:k<(binN l log c).length,bsAt (tableN l log) (binN l log c)[k]≤s:=by
 obtain⟨hq0,hh0⟩:=place_spec h hc h0 hs
 obtain⟨b1,b2,b3⟩:=holdsN_iff.1 hh0
 obtain⟨k,hk,ek⟩:=List.mem_iff_getElem.1 (bin_mem.2 ⟨hq0,b1⟩)
 exact⟨k,hk,by rw [ek];exact b2⟩
end Go.Proofs.Tryz
namespace Go.Proofs.Tryz
open Go Go.RowKit Go.Proofs.VC Go.Sort
variable {M:List Nat} {w0 w:World} {L:List En}
theorem T_slices_BinarySearchFunc {R:Ending→World→Prop} {a:Option Addr} {n c g:Nat} {cb:Array Value} {l:List Nat} (hn:n=l.length) (hl:l.length<1000000) (hsl:Sl w a (i64s (nats l)))
 (base:Nat→Nat) (st:Nat) (hso:l.Pairwise fun x y=>base x≤base y) (hg:fok g=true)
 (hcl:∀W,Fr [] w W→∀x∈l,Calls prog g (#[.int .i64 (x:Int),.int .i64 (st:Int)]++cb) W fun e w'=>e= .returned (.int .i64 ((base x:Int)-(st:Int)))∧Fr [] W w')
 (h:∀w' i b,Fr [] w w'→i≤l.length→(∀k (hk:k<l.length),k<i→base l[k]<st)→(∀k (hk:k<l.length),i≤k→st≤base l[k])→(b=true↔∃hi:i<l.length,base l[i]=st)→R (.returned (.tuple #[.int .i64 (i:Int),.bool b])) w'):
 Calls prog n_slices_BinarySearchFunc_S_int_int_int #[.slice a n c,.int .i64 (st:Int),.func (.func g) #[] cb] w R:=by
 subst hn
 refine S_slices_BinarySearchFunc_S_int_int_int ?_
 unfold F_slices_BinarySearchFunc_S_int_int_int
 rw [hg]
 have harr:∀x y:Value,((#[]:Array Value).toList++([x,y]:List Value)++cb.toList).toArray= #[x,y]++cb:=fun x y=>by apply Array.ext';simp
 refine⟨fun m x y w1=>∃i j:Nat,x=(i:Int)∧y=(j:Int)∧m+i=j∧i≤j∧j≤l.length∧(∀k (hk:k<l.length),k<i→base l[k]<st)∧(∀k (hk:k<l.length),j≤k→st≤base l[k])∧Fr [] w w1,
  ⟨l.length,0,l.length,rfl,rfl,rfl,Nat.zero_le _,Nat.le_refl _,fun k _ h=>absurd h (Nat.not_lt_zero _),fun k hk h=>absurd hk (by omega),Fr.refl _ _⟩,?_⟩
 rintro m x y w1 ⟨i,j,rfl,rfl,hm,hij,hj,h1,h2,hf⟩
 refine bif_i (fun h3=>?_) fun h3=>?_
 · have hlt:i<j:=by have:=of_decide_eq_true h3;omega
   have emid:W64 (shrI .u64 (U64 (W64 ((i:Int)+(j:Int)))) (1:Int))=(((i+j)/2:Nat):Int):=by
    rw [W64_idn (show(i:Int)+(j:Int)=((i+j:Nat):Int) by push_cast;rfl) (by omega),U64_nat,Nat.mod_eq_of_lt (by omega)]
    rw [show(1:Int)=((1:Nat):Int)from rfl,shrI_nat .u64 (i+j) 1 (by decide),Nat.pow_one]
    exact W64_nat (by omega)
   rw [emid]
   have hmid:(i+j)/2<l.length:=by omega
   refine⟨by omega,by omega,by omega,(hsl.fr0 hf).read (i64s_get (nats_get (List.getElem?_eq_getElem hmid))) fun p hp hc=>⟨((l[(i+j)/2]:Nat):Int),by rw [Int.toNat_natCast,Nat.mul_one];exact hc,?_⟩⟩
   refine bif_t rfl ?_
   rw [harr]
   refine(hcl w1 hf _ (List.getElem_mem hmid)).mono ?_
   rintro e w2 ⟨rfl,hf2⟩
   refine⟨_,rfl,bif_i (fun h4=>?_) fun h4=>?_⟩
   · have h4':base l[(i+j)/2]<st:=by have:=of_decide_eq_true h4;omega
     refine⟨m-((i+j)/2+1-i),by omega,(i+j)/2+1,j,W64_succ (by omega),rfl,by omega,by omega,hj,fun k hk hki=>?_,h2,hf.trans hf2⟩
     rcases Nat.lt_or_eq_of_le (Nat.le_of_lt_succ hki)with h5|h5
     · have:=List.pairwise_iff_getElem.1 hso k ((i+j)/2) hk hmid h5
       omega
     · subst h5;exact h4'
   · have h4':st≤base l[(i+j)/2]:=by have:=of_decide_eq_false h4;omega
     refine⟨(i+j)/2-i,by omega,i,(i+j)/2,rfl,rfl,by omega,by omega,by omega,h1,fun k hk hki=>?_,hf.trans hf2⟩
     rcases Nat.lt_or_eq_of_le hki with h5|h5
     · have:=List.pairwise_iff_getElem.1 hso ((i+j)/2) k hmid hk h5
       omega
     · subst h5;exact h4'
 · have hij2:i=j:=by have:=of_decide_eq_false h3;omega
   subst hij2
   refine bif_i (fun h4=>?_) fun h4=>?_
   · have hi:i<l.length:=by have:=of_decide_eq_true h4;omega
     refine⟨by omega,by omega,(hsl.fr0 hf).read (i64s_get (nats_get (List.getElem?_eq_getElem hi))) fun p hp hc=>⟨((l[i]:Nat):Int),by rw [Int.toNat_natCast,Nat.mul_one];exact hc,?_⟩⟩
     refine bif_t rfl ?_
     rw [harr]
     refine(hcl w1 hf _ (List.getElem_mem hi)).mono ?_
     rintro e w2 ⟨rfl,hf2⟩
     refine⟨_,rfl,h w2 i _ (hf.trans hf2) hj h1 h2 ?_⟩
     rw [beq_iff_eq]
     exact⟨fun he=>⟨hi,by omega⟩,fun⟨_,he⟩=>by omega⟩
   · have hi:¬i<l.length:=by have:=of_decide_eq_false h4;omega
     exact h w1 i false hf hj h1 h2 ⟨fun he=>(by cases he),fun⟨hh,_⟩=>absurd hh hi⟩
theorem coder_tail {tv:Value} {B:List Bin} {st:Int} {v1 v2:Value} (hB:B.length=65):(coderC tv B st v1 v2)[0]? =some tv∧(coderC tv B st v1 v2)[66]? =some (.int .i64 st)∧(coderC tv B st v1 v2)[67]? =some v1∧(coderC tv B st v1 v2)[68]? =some v2:=by
 have e:coderC tv B st v1 v2=((tv::B.map Bin.v)++ [.int .i64 st,v1,v2]).toArray:=by unfold coderC;simp
 have hl:(tv::B.map Bin.v).length=66:=by simp [hB]
 rw [e]
 refine⟨rfl,?_,?_,?_⟩<;>rw [List.getElem?_toArray,List.getElem?_append_right (by omega),hl]<;>rfl
theorem coder_sets {tv:Value} {B:List Bin} {st:Int} {v1 v2:Value} (hB:B.length=65) (st':Int) (v1' v2':Value):(coderC tv B st v1 v2).setIfInBounds 66 (.int .i64 st')=coderC tv B st' v1 v2∧(coderC tv B st v1 v2).setIfInBounds 67 v1'=coderC tv B st v1' v2∧(coderC tv B st v1 v2).setIfInBounds 68 v2'=coderC tv B st v1 v2':=by
 have e:∀st v1 v2,coderC tv B st v1 v2=((tv::B.map Bin.v)++ [.int .i64 st,v1,v2]).toArray:=fun st v1 v2=>by unfold coderC;simp
 have hl:(tv::B.map Bin.v).length=66:=by simp [hB]
 simp only [e]
 refine⟨?_,?_,?_⟩<;>rw [List.setIfInBounds_toArray,List.set_append_right _ _ (by omega),hl]<;>rfl
structure Cd where
 b:Nat
 ta:Option Addr
 tc:Nat
 T:List Ce
 B:List Bin
def Cd.hd (x:Cd) (st:Nat) (av:Option Addr) (nv cv:Nat) (al:Option Addr) (nl cl:Nat):En:= .ob x.b (.cells (coderC (.slice x.ta x.T.length x.tc) x.B (st:Int) (.slice av nv cv) (.slice al nl cl)) t_states_coder (0,0))
def CD (x:Cd) (st:Nat) (vs:List Nat) (ls:List Nat) (av:Option Addr) (nv cv:Nat) (al:Option Addr) (nl cl:Nat) (L:List En):List En:=
 x.hd st av nv cv al nl cl:: .ow t_api_Cell 3 x.ta x.T.length x.tc (ces x.T):: .ow t_uint64 1 av nv cv (u64s vs):: .ow t_int 1 al nl cl (i64s (nats ls))::(x.B.map Bin.en++L)
def CX (M:List Nat) (w0 w:World) (x:Cd) (st:Nat) (vs:List Nat) (ls:List Nat) (L:List En):Prop:=∃av nv cv al nl cl,Sx M w0 w (CD x st vs ls av nv cv al nl cl L)
theorem T_states_coder_put {R:Ending→World→Prop} {x:Cd} {st:Nat} {vs ls:List Nat} (H:CX M w0 w x st vs ls L) (hB:x.B.length=65) (hv:vs.length<1000000000) (hl:ls.length<1000000000) (v n:Nat) (hv2:v<18446744073709551616)
 (h:∀w',CX M w0 w' x st (vs++ [v]) (ls++ [n]) L→R (.returned (.tuple #[])) w'):
 Calls prog n_states_coder_put #[.pointer (some (A0 x.b)),.int .i64 (v:Int),.int .i64 (n:Int)] w R:=by
 obtain⟨av,nv,cv,al,nl,cl,H⟩:=H
 refine S_states_coder_put ?_
 unfold F_states_coder_put
 have hct:∀ {tv st v1 v2},_:=fun {tv st v1 v2}=>coder_tail (tv:=tv) (B:=x.B) (st:=st) (v1:=v1) (v2:=v2) hB
 have hcs:∀ {tv st v1 v2} (st':Int) (v1' v2':Value),_:=fun {tv st v1 v2}=>coder_sets (tv:=tv) (B:=x.B) (st:=st) (v1:=v1) (v2:=v2) hB
 have hsz:∀ {tv st v1 v2},(coderC tv x.B st v1 v2).size=69:=fun {tv st v1 v2}=>by rw [coder_size,hB]
 have n1:=H.len 2 rfl
 have n2:=H.len 3 rfl
 rw [u64s_len,Nat.mul_one]at n1
 rw [i64s_len,nats_len,Nat.mul_one]at n2
 have e64:U64 (v:Int)=(v:Int):=by rw [U64_nat,Nat.mod_eq_of_lt hv2]
 rw [e64]
 refine H.drew fun w1 _ H=>OSome.i ⟨av,nv,cv,Sx.cell H 0 rfl hct.2.2.1,OSome.i ⟨al,nl,cl,Sx.cell H 0 rfl hct.2.2.2,?_,?_⟩⟩
 · refine H.alloc fun w2 b14 _ H=>⟨⟨fun _=>Sx.cell H 1 rfl hct.2.2.1,fun _=>Sx.cell H 1 rfl hct.2.2.2,trivial⟩,?_,?_⟩
   · refine app_uint64 H (j:=2) rfl (by omega) fun a3 c3 w3 H=>⟨⟨fun _=>Sx.cell H 0 rfl hct.2.2.2,trivial⟩,?_⟩
     refine Sx.alloc H fun w4 b21 _ H=>⟨⟨fun _=>Sx.cell H 1 rfl hct.2.2.1,fun _=>Sx.cell H 1 rfl hct.2.2.2,trivial⟩,?_⟩
     refine app_int H (j:=3) rfl (by omega) fun a5 c5 w5 H=>⟨⟨fun _=>Sx.cell H 0 rfl hct.2.2.1,trivial⟩,OSome.i ?_⟩
     rw [A0_add]
     refine Sx.sto H 0 rfl (by rw [hsz];omega) fun w6 _ H=>⟨trivial,OSome.i ?_⟩
     rw [A0_add]
     refine Sx.sto H 0 rfl (by simp [hsz]) fun w7 _ H=>⟨trivial,h w7 ⟨a3,nv+1,c3,a5,nl+1,c5,?_⟩⟩
     rw [(hcs 0 _ (.slice none 0 0)).2.1,(hcs 0 (.slice none 0 0) _).2.2]at H
     unfold CD
     rw [nats_app]
     exact H
   · refine H.alloc fun w4 b21 _ H=>⟨⟨fun _=>Sx.cell H 2 rfl hct.2.2.1,fun _=>Sx.cell H 2 rfl hct.2.2.2,trivial⟩,?_⟩
     have H:=H.perm (List.Perm.swap _ _ _)
     refine app_uint64 H (j:=3) rfl (by omega) fun a3 c3 w3 H=>⟨⟨fun _=>Sx.cell H 1 rfl hct.2.2.2,trivial⟩,?_⟩
     refine app_int H (j:=3) rfl (by omega) fun a5 c5 w5 H=>⟨⟨fun _=>Sx.cell H 0 rfl hct.2.2.1,trivial⟩,OSome.i ?_⟩
     rw [A0_add]
     refine Sx.sto H 0 rfl (by rw [hsz];omega) fun w6 _ H=>⟨trivial,OSome.i ?_⟩
     rw [A0_add]
     refine Sx.sto H 0 rfl (by simp [hsz]) fun w7 _ H=>⟨trivial,h w7 ⟨a3,nv+1,c3,a5,nl+1,c5,?_⟩⟩
     rw [(hcs 0 _ (.slice none 0 0)).2.1,(hcs 0 (.slice none 0 0) _).2.2]at H
     unfold CD
     rw [nats_app]
     exact H
 · refine H.alloc fun w2 b21 _ H=>⟨⟨fun _=>Sx.cell H 1 rfl hct.2.2.1,fun _=>Sx.cell H 1 rfl hct.2.2.2,trivial⟩,?_⟩
   refine H.alloc fun w4 b14 _ H=>⟨⟨fun _=>Sx.cell H 2 rfl hct.2.2.1,fun _=>Sx.cell H 2 rfl hct.2.2.2,trivial⟩,?_⟩
   refine app_uint64 H (j:=3) rfl (by omega) fun a3 c3 w3 H=>⟨⟨fun _=>Sx.cell H 1 rfl hct.2.2.2,trivial⟩,?_⟩
   refine app_int H (j:=3) rfl (by omega) fun a5 c5 w5 H=>⟨⟨fun _=>Sx.cell H 0 rfl hct.2.2.1,trivial⟩,OSome.i ?_⟩
   rw [A0_add]
   refine Sx.sto H 0 rfl (by rw [hsz];omega) fun w6 _ H=>⟨trivial,OSome.i ?_⟩
   rw [A0_add]
   refine Sx.sto H 0 rfl (by simp [hsz]) fun w7 _ H=>⟨trivial,h w7 ⟨a3,nv+1,c3,a5,nl+1,c5,?_⟩⟩
   rw [(hcs 0 _ (.slice none 0 0)).2.1,(hcs 0 (.slice none 0 0) _).2.2]at H
   unfold CD
   rw [nats_app]
   exact H
end Go.Proofs.Tryz
namespace Go.Proofs.Tryz
open Go Go.RowKit Go.Proofs.VC Go.Sort
variable {M:List Nat} {w0 w:World} {L:List En}
theorem CX.push {x:Cd} {st:Nat} {vs ls:List Nat} {y:En} {av al:Option Addr} {nv cv nl cl:Nat} (H:Sx M w0 w (y::CD x st vs ls av nv cv al nl cl L)):CX M w0 w x st vs ls (y::L):=
 ⟨av,nv,cv,al,nl,cl,H.perm (L':=CD x st vs ls av nv cv al nl cl (y::L)) (List.perm_middle (l₁:=x.hd st av nv cv al nl cl:: .ow t_api_Cell 3 x.ta x.T.length x.tc (ces x.T):: .ow t_uint64 1 av nv cv (u64s vs):: .ow t_int 1 al nl cl (i64s (nats ls))::x.B.map Bin.en) (l₂:=L) (a:=y)).symm⟩
theorem CX.drop {x:Cd} {st:Nat} {vs ls:List Nat} {y:En} (H:CX M w0 w x st vs ls (y::L)):CX M w0 w x st vs ls L:=by
 obtain⟨av,nv,cv,al,nl,cl,H⟩:=H
 exact⟨av,nv,cv,al,nl,cl,H.sub (((((List.Sublist.append (List.Sublist.refl _) (List.sublist_cons_self y L)).cons_cons _).cons_cons _).cons_cons _).cons_cons _)⟩
theorem CX.call0 {x:Cd} {st:Nat} {vs ls:List Nat} (H:CX M w0 w x st vs ls L) {w':World} (hf:Fr [] w w'):CX M w0 w' x st vs ls L:=by
 obtain⟨av,nv,cv,al,nl,cl,H⟩:=H
 exact⟨av,nv,cv,al,nl,cl,H.call0 hf⟩
theorem CX.cellL {x:Cd} {st:Nat} {vs ls:List Nat} {b i:Nat} {cs:Array Value} {t:TypeId} {f:Nat×Nat} {v:Value} (H:CX M w0 w x st vs ls L) (hm:En.ob b (.cells cs t f)∈L) (hi:cs[i]? =some v):w.cell? ⟨b,i,none⟩=some v:=by
 obtain⟨av,nv,cv,al,nl,cl,H⟩:=H
 rw [cell_of_heap (H.own (.ob b (.cells cs t f)) (by unfold CD;simp [hm])).2,hi]
theorem T_states_coder_forth_1 {b2 x:Nat} {a:Option Addr} {n c bc st:Nat} {T:List Ce} {w:World} (hp:w.cell? (A0 b2)=some (.pointer (some (A0 bc)))) (hc:w.cell? (A0 bc)=some (.slice a n c)) (hs:Sl w a (ces T)) (hn:n=T.length) (hx:x<T.length) (hT:∀u∈T,u.2.2<1000000) (hst:st<1000000):
 Calls prog n_states_coder_forth_1 #[.int .i64 (x:Int),.int .i64 (st:Int),.pointer (some (A0 b2))] w fun e w'=>e= .returned (.int .i64 ((bsAt T x:Int)-(st:Int)))∧Fr [] w w':=by
 refine S_states_coder_forth_1 ?_
 unfold F_states_coder_forth_1
 have ex:T[x]? =some T[x]:=List.getElem?_eq_getElem hx
 have bx:bsAt T x=T[x].2.2:=by rw [bsAt,List.getD_eq_getElem?_getD,ex];rfl
 refine⟨_,hp,OSome.i ⟨_,_,_,hc,by omega,by omega,readCe hs ex (j:=2) rfl fun p hp hc2=>⟨_,by rw [Int.toNat_natCast];exact hc2,?_,Fr.refl _ _⟩⟩⟩
 have h1:=hT _ (List.getElem_mem hx)
 rw [bx,W64_id _ (by omega) (by omega)]
theorem bin_nodup {l:List Nat} {log c:Nat}:(binN l log c).Nodup:=by
 unfold binN sortBy
 rw [(List.mergeSort_perm _ _).nodup_iff]
 exact(List.nodup_range).filter _
theorem T_states_coder_forth {R:Ending→World→Prop} {x:Cd} {st c log:Nat} {l vs ls:List Nat} (H:CX M w0 w x st vs ls L) (hm:mayN l log=true) (hT:x.T=tableN l log) (hBo:BinsOk l log x.B) (hv:vs.length<1000000000) (hl:ls.length<1000000000)
 (hc:c<65) (h0:0<l.getD c 0) (hst:st<2^log)
 (h:∀w',CX M w0 w' x (placeN l log c st) (vs++ [st-bsAt (tableN l log) (placeN l log c st)]) (ls++ [btAt (tableN l log) (placeN l log c st)]) L→R (.returned (.tuple #[])) w'):
 Calls prog n_states_coder_forth #[.pointer (some (A0 x.b)),.int .i64 (c:Int)] w R:=by
 obtain⟨hlog,h65,hall,hsum⟩:=mayN_facts hm
 have h12:2^log≤2^12:=Nat.pow_le_pow_right (by decide) hlog.2
 have e12:(2:Nat)^12=4096:=by decide
 have hTb:=table_base hm
 have hTl:=tableN_len l log
 obtain⟨hB,hBl⟩:=hBo
 have hct:∀ {tv st v1 v2},_:=fun {tv st v1 v2}=>coder_tail (tv:=tv) (B:=x.B) (st:=st) (v1:=v1) (v2:=v2) hB
 have hcs:∀ {tv st v1 v2} (st':Int) (v1' v2':Value),_:=fun {tv st v1 v2}=>coder_sets (tv:=tv) (B:=x.B) (st:=st) (v1:=v1) (v2:=v2) hB
 have hsz:∀ {tv st v1 v2},(coderC tv x.B st v1 v2).size=69:=fun {tv st v1 v2}=>by rw [coder_size,hB]
 have hcB:c<x.B.length:=by omega
 have hb:x.B[c]? =some x.B[c]:=List.getElem?_eq_getElem hcB
 have hbl:=hBl c _ hb
 obtain⟨av,nv,cv,al,nl,cl,H⟩:=H
 refine S_states_coder_forth ?_
 unfold F_states_coder_forth
 refine H.alloc fun w1 b2 _ H=>⟨_,Sx.cell H 0 rfl rfl,OSome.i ⟨by omega,by omega,?_⟩⟩
 rw [Int.toNat_natCast,Nat.mul_one,A0_add,add_lit]
 refine⟨_,_,_,Sx.cell H 1 rfl (coder_get _ x.B _ _ _ hb),_,Sx.cell H 0 rfl rfl,OSome.i ⟨_,by rw [A0_add];exact Sx.cell H 1 rfl hct.2.1,?_⟩⟩
 have hjb:(En.ob b2 (.cells #[.pointer (some (A0 x.b))] t_P_states_coder (0,0))::CD x st vs ls av nv cv al nl cl L)[c+5]? =some (x.B[c]).en:=by
  show(x.B.map Bin.en++L)[c]? =_
  rw [List.getElem?_append_left (by simpa using hcB),List.getElem?_map,hb];rfl
 have hlen:=H.len (c+5) hjb
 rw [i64s_len,nats_len,hbl,Nat.mul_one]at hlen
 have hsl:=H.slw (c+5) hjb
 rw [hbl]at hsl
 have hbl2:=bin_len (l:=l) (log:=log) (c:=c)
 refine T_slices_BinarySearchFunc hlen.symm (by omega) hsl (bsAt (tableN l log)) st bin_sorted (by decide+kernel) (fun W hf y hy=>?_) fun w2 i fd hf hi h1 h2 hfd=>⟨_,_,rfl,?_⟩
 · have HW:=Sx.call0 H hf
   refine T_states_coder_forth_1 (bc:=x.b) (T:=tableN l log) (Sx.cell HW 0 rfl rfl) (by have:=Sx.cell HW 1 rfl hct.1;exact this) (by have:=Sx.slw HW 2 rfl;rwa [hT]at this) (by rw [hT]) (by rw [hTl];exact(bin_mem.1 hy).1) (fun u hu=>by have:=(hTb u hu).2.2;omega) (by omega)
 intro J5 hJ5
 have H:=Sx.call0 H hf
 have main:∀k (hk:k<(binN l log c).length),bsAt (tableN l log) (binN l log c)[k]≤st→(∀k' (hk':k'<(binN l log c).length),k<k'→st<bsAt (tableN l log) (binN l log c)[k'])→J5 (k:Int) w2:=by
  intro k hk hk1 hk2
  have hq:=bin_last hm hc h0 hst hk hk1 hk2
  obtain⟨hpl,hph⟩:=place_spec hm hc h0 hst
  obtain⟨p1,p2,p3⟩:=holdsN_iff.1 hph
  refine hJ5 _ _ ?_
  have hkc:(i64s (nats (binN l log c)))[k]? =some (.int .i64 ((placeN l log c st:Nat):Int)):=i64s_get (nats_get (by rw [List.getElem?_eq_getElem hk,hq]))
  have hbT:placeN l log c st<(tableN l log).length:=by rw [hTl];exact hpl
  have hu:(tableN l log)[placeN l log c st]? =some (tableN l log)[placeN l log c st]:=List.getElem?_eq_getElem hbT
  have eb:bsAt (tableN l log) (placeN l log c st)=(tableN l log)[placeN l log c st].2.2:=by rw [bsAt,List.getD_eq_getElem?_getD,hu];rfl
  have et:btAt (tableN l log) (placeN l log c st)=(tableN l log)[placeN l log c st].2.1:=by rw [btAt,List.getD_eq_getElem?_getD,hu];rfl
  have hTr:∀ {w},Sl w x.ta (ces x.T)→Sl w x.ta (ces (tableN l log)):=fun h=>by rwa [hT]at h
  refine H.drew fun w4 _ H=>⟨_,Sx.cell H 0 rfl rfl,OSome.i ⟨_,_,_,Sx.cell H 1 rfl hct.1,by omega,by omega,?_⟩⟩
  have hsl4:=H.slw (c+5) hjb
  rw [hbl]at hsl4
  refine hsl4.read hkc fun p hp hcell=>⟨_,by rw [Int.toNat_natCast,Nat.mul_one];exact hcell,by omega,by rw [hT,hTl];omega,ldCe (hTr (Sx.slw H 2 rfl)) hu fun p2 hp2 hld=>⟨_,_,_,by rw [Int.toNat_natCast];exact hld,?_⟩⟩
  have hl0:=hld.1
  have hl1:=hld.2.1
  have hl2:=hld.2.2.1
  rw [Int.toNat_natCast,Int.toNat_natCast,Nat.mul_one]
  refine H.alloc fun w5 b7 hf5 H=>⟨⟨fun _=>Sx.cell H 1 rfl rfl,fun _=>Sx.cell H 2 rfl hct.1,fun h=>hf5.cell (by simp) h,fun h=>hf5.cell (by simp) h,fun h=>hf5.cell (by simp) h,fun h=>hf5.cell (by simp) h,trivial⟩,?_⟩
  rw [A0_add,A0_add]
  refine H.sto 0 rfl (by simp) fun w6 _ H=>H.sto 0 rfl (by simp) fun w7 _ H=>H.sto 0 rfl (by simp) fun w8 _ H=>⟨trivial,H.drew fun w9 _ H=>⟨_,Sx.cell H 1 rfl rfl,_,Sx.cell H 1 rfl rfl,OSome.i ⟨_,by rw [A0_add];exact Sx.cell H 2 rfl hct.2.1,_,Sx.cell H 0 rfl rfl,_,Sx.cell H 0 rfl rfl,?_⟩⟩⟩
  have ew:W64 ((st:Int)-((tableN l log)[placeN l log c st].2.2:Int))=((st-bsAt (tableN l log) (placeN l log c st):Nat):Int):=W64_idn (by rw [←eb];omega) (by omega)
  rw [ew,←et]
  have HC:=CX.push (H.perm (L':= .ob b2 (.cells #[.pointer (some (A0 x.b))] t_P_states_coder (0,0))::CD x st vs ls av nv cv al nl cl (.ob b7 _::L)) ((List.Perm.swap _ _ _).trans (.cons _ (List.perm_middle (l₁:=x.hd st av nv cv al nl cl:: .ow t_api_Cell 3 x.ta x.T.length x.tc (ces x.T):: .ow t_uint64 1 av nv cv (u64s vs):: .ow t_int 1 al nl cl (i64s (nats ls))::x.B.map Bin.en) (l₂:=L)).symm)))
  refine T_states_coder_put HC hB hv hl _ _ (by omega) fun w10 HC=>⟨rfl,⟨fun _=>HC.cellL (.head _) rfl,fun _=>?_,fun _=>HC.cellL (i:=2) (.tail _ (.head _)) rfl,trivial⟩,?_⟩
  · obtain⟨av,nv,cv,al,nl,cl,H⟩:=HC
    rw [A0_add];exact Sx.cell H 0 rfl hct.2.1
  rintro w11 rfl
  have HC:=HC.call0 (Fr.drew _ _)
  refine⟨_,HC.cellL (.head _) rfl,by omega,by omega,?_⟩
  obtain⟨av,nv,cv,al,nl,cl,H⟩:=HC
  have hjb':(CD x st (vs++ [st-bsAt (tableN l log) (placeN l log c st)]) (ls++ [btAt (tableN l log) (placeN l log c st)]) av nv cv al nl cl (.ob b2 (.cells #[.pointer (some (A0 x.b))] t_P_states_coder (0,0)):: .ob b7 (.cells (((#[Value.int .i64 0,.int .i64 0,.int .i64 0].setIfInBounds 0 (.int .i64 ((tableN l log)[placeN l log c st].1:Int))).setIfInBounds 1 (.int .i64 ((tableN l log)[placeN l log c st].2.1:Int))).setIfInBounds 2 (.int .i64 ((tableN l log)[placeN l log c st].2.2:Int))) t_api_Cell (0,0))::L))[c+4]? =some (x.B[c]).en:=by
   show(x.B.map Bin.en++_)[c]? =_
   rw [List.getElem?_append_left (by simpa using hcB),List.getElem?_map,hb];rfl
  have hsl5:=H.slw (c+4) hjb'
  rw [hbl]at hsl5
  refine hsl5.read hkc fun p hp hcell=>⟨_,hcell,OSome.i ?_⟩
  rw [A0_add]
  refine H.sto 0 rfl (by rw [hsz];omega) fun w12 _ H=>⟨trivial,h w12 ?_⟩
  rw [(hcs _ (.slice none 0 0) (.slice none 0 0)).1]at H
  have H:Sx M w0 w12 (CD x (placeN l log c st) (vs++ [st-bsAt (tableN l log) (placeN l log c st)]) (ls++ [btAt (tableN l log) (placeN l log c st)]) av nv cv al nl cl (_::_::L)):=H
  exact CX.drop (CX.drop ⟨av,nv,cv,al,nl,cl,H⟩)
 refine bif_i (fun h3=>?_) fun h3=>?_
 · have hfd':fd=false:=by simpa using h3
   have hnf:∀hi:i<(binN l log c).length,bsAt (tableN l log) (binN l log c)[i]≠st:=fun hi he=>by
    have:=hfd.2 ⟨hi,he⟩
    rw [hfd']at this;cases this
   obtain⟨k,hk,hks⟩:=bin_pos hm hc h0 hst
   have hi1:1≤i:=by
    rcases Nat.eq_zero_or_pos i with hz|hz
    · subst hz
      have q1:=h2 k hk (Nat.zero_le _)
      have q2:bsAt (tableN l log) (binN l log c)[0]≤bsAt (tableN l log) (binN l log c)[k]:=by
       rcases Nat.eq_zero_or_pos k with hz|hz
       · subst hz;exact Nat.le_refl _
       · exact List.pairwise_iff_getElem.1 bin_sorted 0 k (by omega) hk hz
      have q3:=h2 0 (by omega) (Nat.le_refl _)
      exact absurd (by omega) (hnf (by omega))
    · exact hz
   have e1:W64 ((i:Int)-1)=((i-1:Nat):Int):=W64_idn (by omega) (by omega)
   rw [e1]
   refine main (i-1) (by omega) (Nat.le_of_lt (h1 _ (by omega) (by omega))) fun k' hk' hlt=>?_
   have q1:=h2 k' hk' (by omega)
   have q2:=h2 i (by omega) (Nat.le_refl _)
   have q3:=hnf (by omega)
   have q4:bsAt (tableN l log) (binN l log c)[i]≤bsAt (tableN l log) (binN l log c)[k']:=by
    rcases Nat.lt_or_eq_of_le (show i≤k' by omega)with hz|hz
    · exact List.pairwise_iff_getElem.1 bin_sorted i k' (by omega) hk' hz
    · subst hz;exact Nat.le_refl _
   omega
 · have hfd':fd=true:=by simpa using h3
   obtain⟨hi',he⟩:=hfd.1 hfd'
   refine main i hi' (by omega) fun k' hk' hlt=>?_
   have q1:=h2 k' hk' (by omega)
   rcases Nat.lt_or_eq_of_le q1 with hz|hz
   · exact hz
   · have m1:=bin_mem.1 (List.getElem_mem hi')
     have m2:=bin_mem.1 (List.getElem_mem hk')
     have:=base_apart hm m1.1 m2.1 (by rw [m1.2,m2.2]) (by omega)
     exact absurd this (List.pairwise_iff_getElem.1 bin_nodup i k' hi' hk' hlt)
end Go.Proofs.Tryz
namespace Go.Proofs.Tryz
open Go Go.RowKit Go.Proofs.VC
variable {M:List Nat} {w0 w:World} {L:List En}
theorem WS.alloc {b:Nat} {bl:List Bool} (H:WS M w0 w L b bl) {o:Obj} {G:World→Nat→Prop} (h:∀w1 b',Fr [] w w1→WS M w0 w1 (.ob b' o::L) b bl→G w1 b'):∀w1 b',w1=w.alloc o→b'=w.heap.size→G w1 b':=by
 obtain⟨a,n,c,e,H⟩:=H
 refine H.alloc fun w1 b' hf H=>h w1 b' hf ⟨a,n,c,e,H.perm ?_⟩
 exact(List.Perm.swap _ _ _).trans (.cons _ (.swap _ _ _))
theorem WS.tail {b:Nat} {bl:List Bool} {x:En} (H:WS M w0 w (x::L) b bl):WS M w0 w L b bl:=by
 obtain⟨a,n,c,e,H⟩:=H
 exact⟨a,n,c,e,H.sub (.cons_cons _ (.cons_cons _ (.cons _ (.refl _))))⟩
theorem WS.fr {b:Nat} {bl:List Bool} (H:WS M w0 w L b bl):Fr M w0 w:=by obtain⟨_,_,_,_,H⟩:=H;exact H.fr
theorem WS.call0 {b:Nat} {bl:List Bool} (H:WS M w0 w L b bl) {w':World} (hf:Fr [] w w'):WS M w0 w' L b bl:=by
 obtain⟨a,n,c,e,H⟩:=H;exact⟨a,n,c,e,H.call0 hf⟩
theorem WS.cell {b:Nat} {bl:List Bool} (H:WS M w0 w L b bl) (j:Nat) {b' i:Nat} {cs:Array Value} {t:TypeId} {f:Nat×Nat} {v:Value} (hj:L[j]? =some (.ob b' (.cells cs t f))) (hi:cs[i]? =some v):w.cell? ⟨b',i,none⟩=some v:=by
 obtain⟨a,n,c,e,H⟩:=H
 exact H.cell (j+2) hj hi
theorem WS.sto {b:Nat} {bl:List Bool} (H:WS M w0 w L b bl) (j:Nat) {b' i:Nat} {cs:Array Value} {t:TypeId} {v:Value} {G:World→Prop} (hj:L[j]? =some (.ob b' (.cells cs t (0,0)))) (hi:i<cs.size)
 (h:∀w1,WS M w0 w1 (L.set j (.ob b' (.cells (cs.setIfInBounds i v) t (0,0)))) b bl→G w1):Sto w ⟨b',i,none⟩ v G:=by
 obtain⟨a,n,c,e,H⟩:=H
 exact H.sto (j+2) hj hi fun w1 _ H=>h w1 ⟨a,n,c,e,H⟩
theorem WS.tailSx {b:Nat} {bl:List Bool} (H:WS M w0 w L b bl):Sx M w0 w L:=by
 obtain⟨a,n,c,e,H⟩:=H;exact H.tail.tail
def partB (l:List Nat) (p:Pt):List Bool:=codeBits (codeAt l p.1)++bitsOf p.2 (p.1-1)
def huffB (l:List Nat) (ps:List Pt):List Bool:=ps.flatMap (partB l)
theorem partB_len {l:List Nat} (h:mayL l=true) {p:Pt} (hp:OkPt p):(partB l p).length≤79:=by
 have h15:=getD_15 h p.1
 have:=(okPt_lt hp).1
 simp only [partB,List.length_append,codeBits_len,bitsOf_len,codeAt_len]
 omega
theorem huffB_len {l:List Nat} (h:mayL l=true):∀ {ps:List Pt},(∀p∈ps,OkPt p)→(huffB l ps).length≤79*ps.length
 | [],_=>by simp [huffB]
 |p::ps,hp=>by
  have h1:=partB_len h (hp p (by simp))
  have h2:=huffB_len h fun q hq=>hp q (List.mem_cons_of_mem _ hq)
  simp only [huffB,List.flatMap_cons,List.length_append,List.length_cons]at h2 ⊢
  omega
theorem huffB_snoc (l:List Nat) (ps:List Pt) (p:Pt):huffB l (ps++ [p])=huffB l ps++partB l p:=by simp [huffB]
theorem T_huff_Put (a:Option Addr) (n c:Nat) (ps:List Pt) (al:Option Addr) (nl cl:Nat) (l:List Nat) (w:World) (hn:n=ps.length) (hs:Sl w a (pts ps)) (hl:ps.length≤1000000) (hsl:SlI w al nl (nats l)) (hm:mayL l=true)
 (hok:∀p∈ps,OkPt p∧l.getD p.1 0≠0):Calls prog n_huff_Put #[.slice a n c,.slice al nl cl] w
 fun e w'=>e= .returned (.tuple #[.string (S (packB (huffB l ps))),.int .i64 0])∧Fr [] w w':=by
 subst hn
 obtain⟨-,h65,h15⟩:=mayL_all hm
 refine S_huff_Put ?_
 unfold F_huff_Put
 refine(T_canon_Codes al nl cl l w hsl fun x hx=>by have:=h15 x hx;omega).mono ?_
 rintro e w1 (⟨h0,_⟩|⟨_,bc,rfl,H⟩)
 · rw [hm]at h0;cases h0
 refine⟨_,_,_,_,rfl,bif_f rfl ?_⟩
 refine T_bits_New H fun w2 b hW=>⟨_,rfl,?_⟩
 refine⟨fun m x w3=>∃i:Nat,x=(i:Int)∧m+i=ps.length∧WS [] w w3 [.ob bc (.cells (prs (codesI l)).toArray t_api_Code (0,0))] b (huffB l (ps.take i)),⟨ps.length,0,rfl,rfl,hW⟩,?_⟩
 rintro m x w3 ⟨i,rfl,hmi,hW⟩
 refine bif_i (fun h=>?_) (fun h=>?_)
 · have hi:i<ps.length:=by have:=of_decide_eq_true h;omega
   obtain⟨p,hp,hc1,hc2⟩:=read2 hs (List.getElem?_eq_getElem hi)
   obtain⟨hok1,hok2⟩:=hok _ (List.getElem_mem hi)
   have hlt:=okPt_lt hok1
   have htk:ps.take (i+1)=ps.take i++ [ps[i]]:=List.take_succ_eq_append_getElem hi
   have hbl:=huffB_len hm (ps:=ps.take i) fun q hq=>(hok q (List.mem_of_mem_take hq)).1
   rw [List.length_take]at hbl
   generalize ps[i]=pt at*
   obtain⟨cl',r⟩:=pt
   simp only at hc1 hc2 hok2 hlt
   have hcl:=getD_pos hok2
   have hg:=codesI_get (l:=l) (c:=cl') hcl
   obtain⟨hg1,hg2⟩:=prs_get hg
   have hg1':(prs (codesI l)).toArray[cl'*2]? =some (.int .i64 ((codeAt l cl').1:Int)):=by rw [List.getElem?_toArray];exact hg1
   have hg2':(prs (codesI l)).toArray[cl'*2+1]? =some (.int .i64 ((codeAt l cl').2:Int)):=by rw [List.getElem?_toArray];exact hg2
   refine⟨by omega,by omega,⟨p,hp,_,_,⟨by rw [add_zero',Int.toNat_natCast];exact hW.fr.cell0 hc1,by rw [add_add,Int.toNat_natCast];exact hW.fr.cell0 hc2,trivial⟩,?_⟩⟩
   refine hW.alloc fun w4 b10 _ hW=>?_
   simp only [A0_add]
   refine hW.sto 0 rfl (by simp) fun w5 hW=>hW.sto 0 rfl (by simp) fun w6 hW=>?_
   intro J11 hJ
   refine⟨_,_,⟨by rw [A0_add];exact hW.cell 0 rfl rfl,by rw [A0_add];exact hW.cell 0 rfl rfl,trivial⟩,?_⟩
   refine(T_zig_Join (cl',r) (by show cl'<_;omega) hlt.2 w6).mono ?_
   rintro e w7 ⟨rfl,hf7⟩
   have hW:=hW.call0 hf7
   have hj:joinP (cl',r)≠none:=by rw [joinP,if_pos hok1];simp
   obtain⟨v,hv⟩:=Option.ne_none_iff_exists'.1 hj
   rw [hv]
   refine⟨_,_,rfl,bif_f rfl ?_⟩
   have h65':cl'<65:=by omega
   refine⟨_,hW.cell 0 rfl rfl,by omega,by show(cl':Int)<65;omega,OSome.i ?_⟩
   simp only [A0_add]
   refine⟨_,hW.cell 1 rfl hg2',bif_f ?_ (hJ _ ?_)⟩
   · rw [codeAt_len];simp;exact hok2
   refine⟨_,hW.cell 0 rfl rfl,by omega,by show(cl':Int)<65;omega,OSome.i ⟨_,_,⟨by rw [A0_add];exact hW.cell 1 rfl hg1',by rw [A0_add];exact hW.cell 1 rfl hg2',trivial⟩,?_⟩⟩
   refine hW.alloc fun w8 b13 _ hW=>?_
   refine hW.sto 0 rfl (by simp) fun w9 hW=>hW.sto 0 rfl (by simp) fun w10 hW=>?_
   refine⟨_,hW.cell 0 rfl rfl,?_⟩
   have hcb:=codeAt_lt hm cl'
   have hcs:(codeAt l cl').2≤15:=by rw [codeAt_len];exact getD_15 hm cl'
   have hpart:partB l (cl',r)=codeBits (codeAt l cl')++bitsOf r (cl'-1):=rfl
   generalize hcode:codeAt l cl'=cd at*
   obtain⟨cb,cs⟩:=cd
   simp only at hcb hcs hg1' hg2'
   have hcb15:cb<32768:=by
    have h2:2^cs≤2^15:=Nat.pow_le_pow_right (by decide) hcs
    have h3:(2:Nat)^15=32768:=by decide
    omega
   generalize hB:huffB l (ps.take i)=B at*
   refine⟨fun m x w11=>∃j:Nat,x=(cs:Int)-1-j∧m+j=cs∧WS [] w w11 [.ob b13 (.cells #[.int .i64 (cb:Int),.int .i64 (cs:Int)] t_api_Code (0,0)),.ob b10 (.cells #[.int .i64 (cl':Int),.int .u64 (r:Int)] t_api_Part (0,0)),.ob bc (.cells (prs (codesI l)).toArray t_api_Code (0,0))] b (B++(codeBits (cb,cs)).take j),
    ⟨cs,0,?_,rfl,by rw [List.take_zero,List.append_nil];exact hW⟩,?_⟩
   · rw [W64_id _ (by omega) (by omega)];omega
   rintro m2 x w11 ⟨j,rfl,hmj,hW⟩
   refine bif_i (fun h2=>?_) fun h2=>?_
   · have hj:j<cs:=by have:=of_decide_eq_true h2;omega
     refine⟨_,hW.cell 0 rfl rfl,of_decide_eq_true h2,?_⟩
     have ex:(cs:Int)-1-(j:Int)=((cs-1-j:Nat):Int):=by omega
     rw [ex,shrI_nat .i64 cb (cs-1-j) (by show cs-1-j≤64;omega),U64_nat,Nat.mod_eq_of_lt (Nat.lt_of_le_of_lt (Nat.div_le_self _ _) (by omega))]
     refine T_bits_Writer_Put (m:=1) (Nat.lt_of_le_of_lt (Nat.div_le_self _ _) (by unfold WW;omega)) hW (by rw [List.length_append,List.length_take,codeBits_len];omega) (by decide) fun w12 hW=>⟨rfl,m2-1,by omega,j+1,?_,by omega,?_⟩
     · rw [W64_id _ (by omega) (by omega)];omega
     · have hjl:j<(codeBits (cb,cs)).length:=by rw [codeBits_len];exact hj
       have e1:bitsOf (cb/2^(cs-1-j)) (1:Int).toNat= [(codeBits (cb,cs))[j]]:=by
        have:(codeBits (cb,cs))[j]=cb.testBit (cs-1-j):=by simp [codeBits]
        rw [this]
        show bitsOf _ 1=_
        rw [bitsOf_succ,bitsOf_zero,List.nil_append,Nat.testBit_div_two_pow,Nat.zero_add]
       rw [List.append_assoc,e1,←List.take_succ_eq_append_getElem hjl]at hW
       exact hW
   · have hj:j=cs:=by have:=of_decide_eq_false h2;omega
     subst hj
     rw [List.take_of_length_le (by rw [codeBits_len];exact Nat.le_refl _)]at hW
     refine⟨_,hW.cell 1 rfl rfl,_,hW.cell 1 rfl rfl,?_⟩
     rw [W64_id _ (by omega) (by omega)]
     refine T_bits_Writer_Put hlt.2 hW (by rw [List.length_append,codeBits_len];omega) (by omega) fun w13 hW=>⟨rfl,m-1,by omega,i+1,W64_succ (by omega),by omega,?_⟩
     have e2:((cl':Int)-1).toNat=cl'-1:=by omega
     rw [e2]at hW
     rw [htk,huffB_snoc,hpart,←List.append_assoc,hB]
     exact hW.tail.tail
 · have hi:i=ps.length:=by have:=of_decide_eq_false h;omega
   subst hi
   rw [List.take_length]at hW
   refine T_bits_Writer_Bytes hW fun hW=>⟨_,rfl,rfl,hW.fr⟩
end Go.Proofs.Tryz
namespace Go.Proofs.Tryz
open Go Go.RowKit Go.Proofs.VC
variable {M:List Nat} {w0 w:World} {L:List En}
def sealB (ps:List (Nat×Nat)):List Bool:=ps.flatMap (fun p=>bitsOf p.1 p.2)++ [true]
theorem sealB_le:∀(ps:List (Nat×Nat)),(∀p∈ps,p.2≤64)→(ps.flatMap fun p=>bitsOf p.1 p.2).length≤64*ps.length
 | [],_=>by simp
 |p::ps,h=>by
  have h1:=h p (by simp)
  have h2:=sealB_le ps fun q hq=>h q (by simp [hq])
  simp only [List.flatMap_cons,List.length_append,bitsOf_len,List.length_cons];omega
theorem T_back_Seal (a:Option Addr) (n c:Nat) (b:Option Addr) (m d:Nat) (ps:List (Nat×Nat)) (w:World) (hn:n=ps.length) (hm:m=ps.length) (hs:Sl w a (u64s (ps.map (·.1)))) (ht:Sl w b (i64s (nats (ps.map (·.2))))) (hv:∀p∈ps,p.1<WW∧p.2≤64) (hl:ps.length≤1000000):
 Calls prog n_back_Seal #[.slice a n c,.slice b m d] w fun e w'=>e= .returned (.string (S (packB (sealB ps))))∧Fr [] w w':=by
 subst hn hm
 refine S_back_Seal ?_
 unfold F_back_Seal
 refine T_bits_New (Sx.start [] w) fun w1 bw hW=>⟨_,rfl,?_⟩
 refine⟨fun m x w2=>∃i:Nat,x=(i:Int)∧m+i=ps.length∧WS [] w w2 [] bw ((ps.take i).flatMap fun p=>bitsOf p.1 p.2),⟨ps.length,0,rfl,rfl,hW⟩,?_⟩
 rintro m x w2 ⟨i,rfl,hmi,hW⟩
 have hmin:(if ((ps.length:Nat):Int)<((ps.length:Nat):Int)then((ps.length:Nat):Int)else((ps.length:Nat):Int))=((ps.length:Nat):Int):=by split<;>rfl
 rw [hmin]
 have hbl:=sealB_le (ps.take i) fun p hp=>(hv p (List.mem_of_mem_take hp)).2
 rw [List.length_take]at hbl
 refine bif_i (fun h=>?_) fun h=>?_
 · have hi:i<ps.length:=by have:=of_decide_eq_true h;omega
   have hp:=hv _ (List.getElem_mem hi)
   rintro w3 rfl
   have hW:=hW.call0 (Fr.drew [] w2)
   refine⟨by omega,by omega,hs.read (u64s_get (l:=ps.map (·.1)) (i:=i) (u:=ps[i].1) (by simp [hi])) fun p1 hp1 hc1=>⟨_,by rw [Int.toNat_natCast,Nat.mul_one];exact hW.fr.cell0 hc1,by omega,by omega,ht.read (i64s_get (nats_get (l:=ps.map (·.2)) (i:=i) (u:=ps[i].2) (by simp [hi]))) fun p2 hp2 hc2=>⟨_,by rw [Int.toNat_natCast,Nat.mul_one];exact hW.fr.cell0 hc2,?_⟩⟩⟩
   refine T_bits_Writer_Put hp.1 hW (by omega) (by omega) fun w4 hW=>⟨rfl,trivial,m-1,by omega,i+1,W64_succ (by omega),by omega,?_⟩
   rw [List.take_succ_eq_append_getElem hi,List.flatMap_append]
   simp only [List.flatMap_cons,List.flatMap_nil,List.append_nil]
   rw [Int.toNat_natCast]at hW
   exact hW
 · have hi:i=ps.length:=by have:=of_decide_eq_false h;omega
   subst hi
   rw [List.take_length]at hW hbl
   refine T_bits_Writer_Put (v:=1) (m:=1) (by decide) hW (by omega) (by decide) fun w5 hW=>⟨rfl,T_bits_Writer_Bytes hW fun hW=>⟨_,rfl,rfl,hW.fr⟩⟩
def BR (M:List Nat) (w0 w:World) (L:List En) (b:Nat) (s:List UInt8) (k:Nat):Prop:=Sx M w0 w (.ob b (.cells #[.string (S s),.int .i64 (k:Int)] t_back_Reader (0,0))::L)
def lastOf (s:List UInt8):Nat:=(s.getD (s.length-1) 0).toNat
def leftOf (s:List UInt8):Nat:=8*s.length+Lib.bitLen (lastOf s)-9
def mayBack (s:List UInt8):Bool:= !s.isEmpty&&lastOf s !=0
theorem T_back_From {R:Ending→World→Prop} (s:List UInt8) (H:Sx M w0 w L) (hs:s.length≤140737488355328)
 (h1:mayBack s=false→R (.returned (.tuple #[.pointer none,.int .i64 3])) w)
 (h2:mayBack s=true→∀w' b,BR M w0 w' L b s (leftOf s)→R (.returned (.tuple #[.pointer (some (A0 b)),.int .i64 0])) w'):Calls prog n_back_From #[.string (S s)] w R:=by
 refine S_back_From ?_
 unfold F_back_From
 intro J3 hJ3
 have hnil:((S s).toList==(⟨#[]⟩:ByteArray).toList)=(s== []):=S_beq s []
 rw [hnil,S_size]
 refine bif_i (fun h=>?_) fun h=>?_
 · have:s= []:=by simpa using h
   subst this
   exact h1 rfl
 · have hne:s≠ []:=by
    intro e;subst e;cases h
   have hl:0<s.length:=List.length_pos_iff.2 hne
   have hi:s.length-1<s.length:=by omega
   have a1:W64 ((s.length:Int)-1)=((s.length-1:Nat):Int):=W64_idn (by omega) (by omega)
   have hlast:lastOf s=(s[s.length-1]).toNat:=by rw [lastOf,List.getD_eq_getElem?_getD,List.getElem?_eq_getElem hi];rfl
   have hie:s.isEmpty=false:=by cases s with|nil=>exact absurd rfl hne|cons x l=>rfl
   rw [a1]
   refine⟨by omega,s[s.length-1],by rw [S_get,Int.toNat_natCast];exact List.getElem?_eq_getElem hi,bif_i (fun h3=>h1 ?_) fun h3=>hJ3 w ?_⟩
   · have h3':lastOf s=0:=by rw [hlast];have:=eq_of_beq h3;omega
     rw [mayBack,hie,h3'];rfl
   · have h3':lastOf s≠0:=by rw [hlast];have:=ne_of_beq_false h3;omega
     have hlt:lastOf s<256:=by rw [hlast];exact(s[s.length-1]).toNat_lt
     rw [S_size,a1]
     refine⟨by omega,s[s.length-1],by rw [S_get,Int.toNat_natCast];exact List.getElem?_eq_getElem hi,?_⟩
     rw [←hlast]
     refine(Tryz.bits_Len8 (lastOf s:Int) w (by omega) (by omega)).mono ?_
     rintro e w2 ⟨rfl,rfl⟩
     rw [Int.toNat_natCast]
     obtain⟨b1,b2,b3,b4⟩:=bitLen_pos (u:=lastOf s) (by unfold WW;omega) h3'
     refine⟨_,rfl,H.alloc fun w3 b27 _ H=>h2 ?_ w3 b27 ?_⟩
     · rw [mayBack,hie]
       simp [h3']
     · have a2:W64 ((8:Int)*(s.length:Int))=((8*s.length:Nat):Int):=W64_idn (by push_cast;rfl) (by omega)
       have a4:W64 (W64 (((8*s.length:Nat):Int)-9)+((Lib.bitLen (lastOf s):Nat):Int))=((leftOf s:Nat):Int):=by
        rw [W64_id (((8*s.length:Nat):Int)-9) (by omega) (by omega)]
        refine W64_idn ?_ ?_
        · unfold leftOf;omega
        · have:Lib.bitLen (lastOf s)≤64:=b2
          unfold leftOf;omega
       rw [a2,a4]at H
       exact H
theorem leftOf_le {s:List UInt8} (h:mayBack s=true):leftOf s≤8*s.length:=by
 simp only [mayBack,Bool.and_eq_true,bne_iff_ne,ne_eq]at h
 have hlt:lastOf s<256:=(s.getD (s.length-1) 0).toNat_lt
 obtain⟨b1,b2,b3,b4⟩:=bitLen_pos (u:=lastOf s) (by unfold WW;omega) h.2
 have:Lib.bitLen (lastOf s)≤8:=by
  rcases Nat.lt_or_ge 8 (Lib.bitLen (lastOf s))with h9|h9
  · have:2^8≤2^(Lib.bitLen (lastOf s)-1):=Nat.pow_le_pow_right (by decide) (by omega)
    have e8:(2:Nat)^8=256:=by decide
    omega
  · exact h9
 unfold leftOf;omega
theorem T_back_Reader_Get {R:Ending→World→Prop} {b k n:Nat} {s:List UInt8} (H:BR M w0 w L b s k) (hs:s.length≤140737488355328) (hk:k≤8*s.length) (hn:n≤64)
 (h1:n≤k→∀w',BR M w0 w' L b s (k-n)→R (.returned (rdV (nb (((bitsS s).drop (k-n)).take n)) 0)) w')
 (h2:k<n→∀w',BR M w0 w' L b s k→R (.returned (rdV 0 2)) w'):Calls prog n_back_Reader_Get #[.pointer (some (A0 b)),.int .i64 (n:Int)] w R:=by
 refine S_back_Reader_Get ?_
 unfold F_back_Reader_Get
 refine bif_f rfl ?_
 intro J4 hJ4
 have main:J4 false w:=by
  refine hJ4 _ _ (bif_f rfl (OSome.i ⟨_,by rw [A0_add];exact Sx.cell H 0 rfl rfl,bif_i (fun c1=>?_) fun c1=>OSome.i ⟨_,by rw [A0_add];exact Sx.cell H 0 rfl rfl,OSome.i ?_⟩⟩))
  · have:=of_decide_eq_true c1
    exact h2 (by omega) w H
  · have c1':=of_decide_eq_false c1
    have hle:n≤k:=by omega
    have a1:W64 ((k:Int)-(n:Int))=((k-n:Nat):Int):=W64_idn (by omega) (by omega)
    rw [a1,A0_add]
    refine Sx.sto H 0 rfl (by simp) fun w2 _ H=>?_
    have H:BR M w0 w2 L b s (k-n):=H
    refine⟨fun m x y w3=>∃i:Nat,x=((nb (((bitsS s).drop (k-n)).take i):Nat):Int)∧y=(i:Int)∧m+i=n∧BR M w0 w3 L b s (k-n),⟨n,0,rfl,rfl,rfl,H⟩,?_⟩
    rintro m x y w3 ⟨i,rfl,rfl,hm,H⟩
    refine bif_i (fun c2=>?_) fun c2=>?_
    · have hi:i<n:=by have:=of_decide_eq_true c2;omega
      have hkl:k-n+i<(bitsS s).length:=by rw [bitsS_len];omega
      have hdl:i<((bitsS s).drop (k-n)).length:=by rw [List.length_drop];omega
      have hq:(k-n+i)/8<s.length:=by omega
      have hg:=bitsS_get (k:=k-n+i) (List.getElem?_eq_getElem hq)
      rw [List.getElem?_eq_getElem hkl]at hg
      have a2:W64 (((k-n:Nat):Int)+(i:Int))=((k-n+i:Nat):Int):=W64_idn (by push_cast;rfl) (by omega)
      refine OSome.i ⟨_,by rw [A0_add];exact Sx.cell H 0 rfl rfl,OSome.i ⟨_,Sx.cell H 0 rfl rfl,by decide,?_⟩⟩
      rw [a2,show W64 (Int.tdiv (((k-n+i:Nat)):Int) 8)=(((k-n+i)/8:Nat):Int)from W64_idn (tdiv_nat _ 8) (by omega),show Int.tmod (((k-n+i:Nat)):Int) 8=(((k-n+i)%8:Nat):Int)from tmod_nat _ 8]
      refine⟨by omega,s[(k-n+i)/8],by rw [S_get,Int.toNat_natCast];exact List.getElem?_eq_getElem hq,by decide,by omega,by omega,m-1,by omega,i+1,?_,W64_succ (by omega),by omega,H⟩
      have hb:=s[(k-n+i)/8].toNat_lt
      have hd:s[(k-n+i)/8].toNat/2^((k-n+i)%8)≤s[(k-n+i)/8].toNat:=Nat.div_le_self _ _
      have e:s[(k-n+i)/8].toNat/2^((k-n+i)%8)%2=((bitsS s)[k-n+i]).toNat:=by
       rw [Option.some.inj hg,Nat.toNat_testBit]
      have e1:andI .u8 ((s[(k-n+i)/8].toNat/2^((k-n+i)%8):Nat):Int) 1=((((bitsS s)[k-n+i]).toNat:Nat):Int):=by
       rw [show(1:Int)=((1:Nat):Int)from rfl,andI_u8 _ _ (by omega) (by decide),and_one,e]
      have hbt:((bitsS s)[k-n+i]).toNat≤1:=by cases (bitsS s)[k-n+i]<;>simp
      have hlt:=nb_lt (((bitsS s).drop (k-n)).take i)
      have hlen:(((bitsS s).drop (k-n)).take i).length=i:=by rw [List.length_take,Nat.min_eq_left (by omega)]
      rw [hlen]at hlt
      have hpow:2^i*2=2^(i+1):=(Nat.pow_succ ..).symm
      have hp64:2^(i+1)≤2^64:=Nat.pow_le_pow_right (by decide) (by omega)
      have h64:(2:Nat)^64=18446744073709551616:=by decide
      have hmul:((bitsS s)[k-n+i]).toNat*2^i≤1*2^i:=Nat.mul_le_mul_right _ hbt
      have hs2:2^i<18446744073709551616:=Nat.lt_of_lt_of_le (Nat.pow_lt_pow_right (by decide) (show i<64 by omega)) (by rw [h64];exact Nat.le_refl _)
      rw [shrI_nat .u8 _ ((k-n+i)%8) (by show(k-n+i)%8≤8;omega),e1,U64_nat,Nat.mod_eq_of_lt (by omega),shlI_u64 _ i (by omega),Nat.mod_eq_of_lt (by omega),orI_u64 _ _ (by omega) (by omega),or_add _ _ _ hlt,List.take_succ_eq_append_getElem hdl,nb_snoc,hlen,List.getElem_drop,Nat.mul_comm]
    · have hi:i=n:=by have:=of_decide_eq_false c2;omega
      subst hi
      exact h1 hle w3 H
 refine bif_f (by simp) ?_
 have e:decide ((n:Int)>64)=false:=by simp;omega
 rw [e]
 exact main
theorem T_back_Reader_Left {R:Ending→World→Prop} {b k:Nat} {s:List UInt8} (H:BR M w0 w L b s k) (h:R (.returned (.int .i64 (k:Int))) w):Calls prog n_back_Reader_Left #[.pointer (some (A0 b))] w R:=by
 refine S_back_Reader_Left ?_
 unfold F_back_Reader_Left
 exact bif_f rfl (OSome.i ⟨_,by rw [A0_add];exact Sx.cell H 0 rfl rfl,h⟩)
end Go.Proofs.Tryz
