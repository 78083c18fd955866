import Derived.Deep.Upon
import Derived.Test.YtoeokgpdmagjoaaGreatT9
/-
A part of the proof: steps of the walk and plain laws.
-/
set_option linter.unusedVariables false
namespace Go.Proofs.VC
open Go Go.RowKit
variable {M:List Nat} {w0 w:World} {L:List En}
theorem Sx.repl {x y:En} (H:Sx M w0 w (x::L)) (j:Nat) (hj:L[j]? =some y):Sx M w0 w (L.set j x):=by
 have hlt:=(List.getElem?_eq_some_iff.1 hj).1
 have h1:=perm_front j (L.set j x) x (by rw [List.getElem?_set_self hlt])
 rw [List.eraseIdx_set_eq]at h1
 exact(H.sub ((List.eraseIdx_sublist L j).cons_cons x)).perm h1.symm
end Go.Proofs.VC
namespace Go.Proofs.Tryz
open Go Go.RowKit Go.Proofs.VC
variable {M:List Nat} {w0 w:World} {L:List En}
abbrev Wa:=Option Addr×Nat
def wV (x:Wa):Value:= .slice x.1 3 x.2
def modC (vs Wv:List Value) (a b:Nat):Array Value:=(vs++Wv++([.int .i64 (a:Int),.int .i64 (b:Int)]:List Value)).toArray
def wEn (x:Wa×List Int):En:= .ow t_int 1 x.1.1 3 x.1.2 (i64s x.2)
def rowC (l:List Nat):Obj:= .cells (i64s (nats l)).toArray t_model_row (0,0)
structure MQ where
 bm:Nat
 r0:Nat
 r1:Nat
 r2:Nat
 Wv:List Wa
def MQ.vs (q:MQ):List Value:= [.slice (some (A0 q.r0)) 1 1,.slice (some (A0 q.r1)) 65 65,.slice (some (A0 q.r2)) 65 65]
def MOe (q:MQ) (m:MD):List En:=
 .ob q.bm (.cells (modC q.vs (q.Wv.map wV) m.a m.b) t_model_model (0,0)):: .ob q.r0 (rowC m.l0):: .ob q.r1 (rowC m.l1):: .ob q.r2 (rowC m.l2)::(q.Wv.zip m.W).map wEn
section
variable {vs Wv:List Value} {a b:Nat}
theorem modC_v (hv:vs.length=3) {i:Nat} {v:Value} (h:vs[i]? =some v):(modC vs Wv a b)[i]? =some v:=by
 have hi:=(List.getElem?_eq_some_iff.1 h).1
 simp only [modC,List.getElem?_toArray]
 rw [List.append_assoc,List.getElem?_append_left hi,h]
theorem modC_w (hv:vs.length=3) {d:Nat} {x:Value} (h:Wv[d]? =some x):(modC vs Wv a b)[3+d]? =some x:=by
 have hi:=(List.getElem?_eq_some_iff.1 h).1
 simp only [modC,List.getElem?_toArray]
 rw [List.append_assoc,List.getElem?_append_right (by omega),List.getElem?_append_left (by omega),hv,Nat.add_sub_cancel_left,h]
theorem modC_a (hv:vs.length=3) (hW:Wv.length=7):(modC vs Wv a b)[10]? =some (.int .i64 (a:Int)):=by
 simp only [modC,List.getElem?_toArray]
 rw [List.getElem?_append_right (by rw [List.length_append];omega),List.length_append,hv,hW];rfl
theorem modC_b (hv:vs.length=3) (hW:Wv.length=7):(modC vs Wv a b)[11]? =some (.int .i64 (b:Int)):=by
 simp only [modC,List.getElem?_toArray]
 rw [List.getElem?_append_right (by rw [List.length_append];omega),List.length_append,hv,hW];rfl
theorem modC_size (hv:vs.length=3) (hW:Wv.length=7):(modC vs Wv a b).size=12:=by
 simp only [modC,List.size_toArray,List.length_append,hv,hW];rfl
theorem modC_setv (hv:vs.length=3) {i:Nat} (hi:i<3) (v:Value):(modC vs Wv a b).setIfInBounds i v=modC (vs.set i v) Wv a b:=by
 apply Array.ext'
 simp only [modC,Array.toList_setIfInBounds]
 rw [List.append_assoc,List.set_append_left _ _ (by omega),List.append_assoc]
theorem modC_setw (hv:vs.length=3) {d:Nat} (hd:d<Wv.length) (x:Value):(modC vs Wv a b).setIfInBounds (3+d) x=modC vs (Wv.set d x) a b:=by
 apply Array.ext'
 simp only [modC,Array.toList_setIfInBounds]
 rw [List.append_assoc,List.set_append_right _ _ (by omega),hv,Nat.add_sub_cancel_left,List.set_append_left _ _ (by omega),List.append_assoc]
theorem modC_seta (hv:vs.length=3) (hW:Wv.length=7) (a':Nat):(modC vs Wv a b).setIfInBounds 10 (.int .i64 (a':Int))=modC vs Wv a' b:=by
 apply Array.ext'
 simp only [modC,Array.toList_setIfInBounds]
 rw [List.set_append_right _ _ (by rw [List.length_append];omega),List.length_append,hv,hW];rfl
theorem modC_setb (hv:vs.length=3) (hW:Wv.length=7) (b':Nat):(modC vs Wv a b).setIfInBounds 11 (.int .i64 (b':Int))=modC vs Wv a b':=by
 apply Array.ext'
 simp only [modC,Array.toList_setIfInBounds]
 rw [List.set_append_right _ _ (by rw [List.length_append];omega),List.length_append,hv,hW];rfl
end
theorem mk_Row (n:Nat):(mkCells TAB t_model_row n).size=n*128:=by
 show((List.range (n*128)).map _).toArray.size=_
 simp
theorem fill_rows {bm rb n x:Nat} {cs rc:Array Value} {K:World→Prop} (hg:cs[x]? =some (.slice (some (A0 rb)) n n)) (H:Sx M w0 w (.ob rb (.cells rc t_model_row (0,0)):: .ob bm (.cells cs t_model_model (0,0))::L)) (hrc:rc.size=n*128) (hn:n≤1000) (hx:x<3)
 (hK:∀w',Sx M w0 w' (.ob rb (.cells (i64s (nats (List.replicate (n*128) 2048))).toArray t_model_row (0,0)):: .ob bm (.cells cs t_model_model (0,0))::L)→K w'):
 ∃I2:Nat→Int→World→Prop,(∃m_5,I2 m_5 (0:Int) w)∧∀m_4,∀x28:Int,∀w6,I2 m_4 x28 w6→
 (bif decide (x28<((n:Nat):Int))then(∃I4:Nat→Int→World→Prop,(∃m_8,I4 m_8 (0:Int) w6)∧∀m_7,∀x31:Int,∀w7,I4 m_7 x31 w7→(bif
 decide (x31<(128:Int))then(OSome (some (A0 bm)) fun p36=>0≤(x:Int)∧(x:Int)<((3:Nat):Int)∧∃x39:Option Addr,∃x39n:Nat,∃x39c:Nat,w7.cell?
 (p36.add (Int.toNat (x:Int)*1))=some (.slice x39 x39n x39c)∧0≤x28∧x28<((x39n:Nat):Int)∧OSome x39 fun p42=>0≤x31∧x31<((128:Nat):Int)∧
 Sto w7 ((p42.add (Int.toNat x28*128)).add (Int.toNat x31*1)) (.int .i64 (2048:Int)) fun w8=>∃m_9,m_9<m_7∧I4 m_9 (W64 (x31+(1:Int))) w8)else
 (∃m_6,m_6<m_4∧I2 m_6 (W64 (x28+(1:Int))) w7)))else K w6):=by
 have hput:∀(j:Nat) (c:Array Value),c.size=n*128→(∀k,k<j→c[k]? =some (.int .i64 2048))→j<n*128→(c.setIfInBounds j (.int .i64 2048)).size=n*128∧∀k,k<j+1→(c.setIfInBounds j (.int .i64 2048))[k]? =some (.int .i64 2048):=by
  intro j c h1 h2 h3
  refine⟨by simpa using h1,fun k hk=>?_⟩
  rw [Array.getElem?_setIfInBounds]
  by_cases e:j=k
  · subst e;rw [if_pos rfl,if_pos (by omega)]
  · rw [if_neg e];exact h2 k (by omega)
 refine⟨fun m y w6=>∃(i:Nat) (c:Array Value),y=(i:Int)∧m+i=n∧c.size=n*128∧(∀k,k<i*128→c[k]? =some (.int .i64 2048))∧Sx M w0 w6 (.ob rb (.cells c t_model_row (0,0)):: .ob bm (.cells cs t_model_model (0,0))::L),
  ⟨n,0,rc,rfl,rfl,hrc,fun k hk=>by omega,H⟩,?_⟩
 rintro m y w6 ⟨i,c,rfl,hmi,hc,hcv,H⟩
 refine bif_i (fun h=>?_) fun h=>?_
 · have hi:i<n:=by have:=of_decide_eq_true h;omega
   refine⟨fun m' y w7=>∃(k:Nat) (c:Array Value),y=(k:Int)∧(k≤128∧128≤m'+k)∧c.size=n*128∧(∀j,j<i*128+k→c[j]? =some (.int .i64 2048))∧Sx M w0 w7 (.ob rb (.cells c t_model_row (0,0)):: .ob bm (.cells cs t_model_model (0,0))::L),
    ⟨128,0,c,rfl,⟨by omega,by omega⟩,hc,fun k hk=>hcv k (by omega),H⟩,?_⟩
   intro m' y w7 hI
   obtain⟨k,hI⟩:=hI
   obtain⟨c,hI⟩:=hI
   have hy:=hI.1
   have hk1:=hI.2.1.1
   have hk2:=hI.2.1.2
   have hc:=hI.2.2.1
   have hcv:=hI.2.2.2.1
   have H:=hI.2.2.2.2
   rw [hy]
   cases h:decide ((k:Int)<128)
   rotate_left
   · refine bif_t rfl ?_
     have hk:k<128:=by have:=of_decide_eq_true h;omega
     refine OSome.i ⟨by omega,by omega,_,_,_,by rw [A0_add,Int.toNat_natCast,Nat.mul_one];exact Sx.cell H 1 rfl hg,by omega,by omega,OSome.i ⟨by omega,by omega,?_⟩⟩
     rw [A0_add,add_lit,Int.toNat_natCast,Int.toNat_natCast,Nat.mul_one]
     refine Sx.sto H 0 rfl (by omega) fun w8 _ H=>?_
     obtain⟨g1,g2⟩:=hput (i*128+k) c hc hcv (by omega)
     exact⟨m'-1,by omega,k+1,_,W64_succ (by omega),⟨by omega,by omega⟩,g1,g2,H⟩
   · refine bif_f rfl ?_
     have hk:k=128:=by have:=of_decide_eq_false h;omega
     exact⟨m-1,by omega,i+1,c,W64_succ (by omega),by omega,hc,fun j hj=>hcv j (by omega),H⟩
 · have hi:i=n:=by have:=of_decide_eq_false h;omega
   subst hi
   refine hK w6 ?_
   have e:c=(i64s (nats (List.replicate (i*128) 2048))).toArray:=by
    apply Array.ext'
    apply List.ext_getElem?
    intro k
    simp only [nats,i64s,List.map_replicate,List.getElem?_replicate]
    split
    · next hk=>have:=hcv k hk;simpa using this
    · next hk=>rw [List.getElem?_eq_none (by rw [Array.length_toList];omega)]
   rw [←e]
   exact H
theorem zip_set {α β:Type}:∀(l:List α) (r:List β) (d:Nat) (x:α) (y:β),(l.set d x).zip (r.set d y)=(l.zip r).set d (x,y)
 | [],r,d,x,y=>by simp
 |_::_,[],d,x,y=>by cases d<;>simp
 |_::l,_::r,0,x,y=>by simp
 |_::l,_::r,d+1,x,y=>by simp [zip_set l r d x y]
theorem zip_snoc7 {l:List Wa} {r:List (List Int)} {x:Wa} {y:List Int} (h:l.length=r.length):((l++ [x]).zip (r++ [y])).map wEn=(l.zip r).map wEn++ [wEn (x,y)]:=by
 rw [List.zip_append h,List.map_append];rfl
theorem T_model_made {R:Ending→World→Prop} (H:Sx M w0 w L) (h:∀w' q,q.Wv.length=7→Sx M w0 w' (MOe q MD.new++L)→R (.returned (.pointer (some (A0 q.bm)))) w'):Calls prog n_model_made #[] w R:=by
 refine S_model_made ?_
 unfold F_model_made
 refine H.alloc fun w1 bm _ H=>?_
 have e0:(#[.slice none 0 0,.slice none 0 0,.slice none 0 0,.slice none 0 0,.slice none 0 0,.slice none 0 0,.slice none 0 0,.slice none 0 0,.slice none 0 0,.slice none 0 0,.int .i64 0,.int .i64 0]:Array Value)=modC [.slice none 0 0,.slice none 0 0,.slice none 0 0] (List.replicate 7 (.slice none 0 0)) 0 0:=rfl
 rw [e0]at H
 have hW7:(List.replicate 7 (Value.slice none 0 0)).length=7:=List.length_replicate
 have fin:∀(w2:World) (q:MQ),Sx M w0 w2 (.ob q.bm (.cells (modC q.vs (List.replicate 7 (.slice none 0 0)) 0 0) t_model_model (0,0)):: .ob q.r0 (rowC MD.new.l0):: .ob q.r1 (rowC MD.new.l1):: .ob q.r2 (rowC MD.new.l2)::L)→q.bm=bm→(∃I6:Nat→Int→World→Prop,(∃
 m_11,I6 m_11 (0:Int) w2)∧∀m_10,∀x47:Int,∀w9,I6 m_10 x47 w9→(bif decide (x47<(7:Int))then(∀w10 b52,w10=w9.alloc (.cells #[.int .i64
 (21845:Int),.int .i64 (21845:Int),.int .i64 (21845:Int)] t_int)→b52=w9.heap.size→OSome (some (A0 bm)) fun p53=>0≤x47∧x47<((7:Nat):
 Int)∧Sto w10 ((p53.add 3).add (Int.toNat x47*1)) (.slice (some (A0 b52)) 3 3) fun w11=>∃m_12,m_12<m_10∧I6 m_12 (W64 (x47+(1:Int))) w11)else(R
 (.returned (.pointer (some (A0 bm)))) w9))):=by
   rintro w2 q H2 rfl
   refine⟨fun m y w3=>∃(d:Nat) (Wd:List Wa),y=(d:Int)∧m+d=7∧Wd.length=d∧
    Sx M w0 w3 (((Wd.zip (List.replicate d [21845,21845,21845])).map wEn).reverse++ .ob q.bm (.cells (modC q.vs (Wd.map wV++List.replicate (7-d) (Value.slice none 0 0)) 0 0) t_model_model (0,0)):: .ob q.r0 (rowC MD.new.l0):: .ob q.r1 (rowC MD.new.l1):: .ob q.r2 (rowC MD.new.l2)::L),
    ⟨7,0,[],rfl,rfl,rfl,H2⟩,?_⟩
   rintro m y w3 ⟨d,Wd,rfl,hmd,hWd,H⟩
   refine bif_i (fun hc=>?_) fun hc=>?_
   · have hd:d<7:=by have:=of_decide_eq_true hc;omega
     refine Sx.alloc H fun w4 b52 _ H=>?_
     have H:=H.asOw 1 3 3 (Nat.le_refl _) (by decide) rfl
     have hlen:(((Wd.zip (List.replicate d [21845,21845,21845])).map wEn).reverse).length=d:=by simp [hWd]
     have hj:(En.ow t_int 1 (some (A0 b52)) 3 3 (List.take (3*1) #[Value.int .i64 (21845:Int),.int .i64 (21845:Int),.int .i64 (21845:Int)].toList)::(((Wd.zip (List.replicate d [21845,21845,21845])).map wEn).reverse++ .ob q.bm (.cells (modC q.vs (Wd.map wV++List.replicate (7-d) (Value.slice none 0 0)) 0 0) t_model_model (0,0)):: .ob q.r0 (rowC MD.new.l0):: .ob q.r1 (rowC MD.new.l1):: .ob q.r2 (rowC MD.new.l2)::L))[d+1]? =
      some (.ob q.bm (.cells (modC q.vs (Wd.map wV++List.replicate (7-d) (Value.slice none 0 0)) 0 0) t_model_model (0,0))):=by
      rw [List.getElem?_cons_succ,List.getElem?_append_right (by omega),hlen,Nat.sub_self];rfl
     refine OSome.i ⟨by omega,by omega,?_⟩
     have hsz:(modC q.vs (Wd.map wV++List.replicate (7-d) (Value.slice none 0 0)) 0 0).size=12:=modC_size rfl (by simp [hWd];omega)
     have hset:(modC q.vs (Wd.map wV++List.replicate (7-d) (Value.slice none 0 0)) 0 0).setIfInBounds (3+d) (wV (some (A0 b52),3))=modC q.vs ((Wd++ [(some (A0 b52),3)]).map wV++List.replicate (7-(d+1)) (.slice none 0 0)) 0 0:=by
      rw [modC_setw rfl (by simp [hWd];omega)]
      congr 1
      rw [List.set_append_right _ _ (by rw [List.length_map];omega),List.length_map,hWd,Nat.sub_self,show 7-d=(7-(d+1))+1 by omega,List.replicate_succ,List.set_cons_zero,List.map_append,List.map_singleton,List.append_assoc]
      rfl
     rw [A0_add,add_lit,Int.toNat_natCast,Nat.mul_one]
     refine H.sto (d+1) hj (by rw [hsz];omega) fun w5 _ H=>⟨m-1,by omega,d+1,Wd++ [(some (A0 b52),3)],W64_succ (by omega),by omega,by simp [hWd],?_⟩
     rw [show(Value.slice (some (A0 b52)) 3 3)=wV (some (A0 b52),3)from rfl,hset]at H
     rw [List.replicate_succ',zip_snoc7 (by simp [hWd]),List.reverse_append,List.reverse_singleton,List.singleton_append,List.cons_append]
     rw [List.set_cons_succ,List.set_append_right _ _ (by omega),hlen,Nat.sub_self,List.set_cons_zero]at H
     exact H
   · have hd:d=7:=by have:=of_decide_eq_false hc;omega
     subst hd
     have hp:List.Perm (((Wd.zip (List.replicate 7 [21845,21845,21845])).map wEn).reverse++ .ob q.bm (.cells (modC q.vs (Wd.map wV++List.replicate (7-7) (Value.slice none 0 0)) 0 0) t_model_model (0,0)):: .ob q.r0 (rowC MD.new.l0):: .ob q.r1 (rowC MD.new.l1):: .ob q.r2 (rowC MD.new.l2)::L) (MOe ⟨q.bm,q.r0,q.r1,q.r2,Wd⟩ MD.new++L):=by
      have hz:Wd.map wV++List.replicate (7-7) (Value.slice none 0 0)=Wd.map wV:=by simp
      rw [hz]
      have h1:(((Wd.zip (List.replicate 7 [21845,21845,21845])).map wEn).reverse).Perm ((Wd.zip (List.replicate 7 [21845,21845,21845])).map wEn):=List.reverse_perm _
      refine(h1.append_right _).trans ?_
      have h2:=List.perm_append_comm (l₁:=(Wd.zip (List.replicate 7 [21845,21845,21845])).map wEn) (l₂:= [.ob q.bm (.cells (modC q.vs (Wd.map wV) 0 0) t_model_model (0,0)),.ob q.r0 (rowC MD.new.l0),.ob q.r1 (rowC MD.new.l1),.ob q.r2 (rowC MD.new.l2)])
      have h3:=h2.append_right L
      rw [List.append_assoc]at h3
      exact h3
     exact h w3 ⟨q.bm,q.r0,q.r1,q.r2,Wd⟩ hWd (H.perm hp)
 refine⟨fun m y w2=>(y=0∧m=3∧Sx M w0 w2 (.ob bm (.cells (modC [.slice none 0 0,.slice none 0 0,.slice none 0 0] (List.replicate 7 (.slice none 0 0)) 0 0) t_model_model (0,0))::L))∨
  (y=1∧m=2∧∃r0,Sx M w0 w2 (.ob r0 (rowC MD.new.l0):: .ob bm (.cells (modC [.slice (some (A0 r0)) 1 1,.slice none 0 0,.slice none 0 0] (List.replicate 7 (.slice none 0 0)) 0 0) t_model_model (0,0))::L))∨
  (y=2∧m=1∧∃r0 r1,Sx M w0 w2 (.ob r1 (rowC MD.new.l1):: .ob bm (.cells (modC [.slice (some (A0 r0)) 1 1,.slice (some (A0 r1)) 65 65,.slice none 0 0] (List.replicate 7 (.slice none 0 0)) 0 0) t_model_model (0,0)):: .ob r0 (rowC MD.new.l0)::L))∨
  (y=3∧∃r0 r1 r2,Sx M w0 w2 (.ob r2 (rowC MD.new.l2):: .ob bm (.cells (modC [.slice (some (A0 r0)) 1 1,.slice (some (A0 r1)) 65 65,.slice (some (A0 r2)) 65 65] (List.replicate 7 (.slice none 0 0)) 0 0) t_model_model (0,0)):: .ob r1 (rowC MD.new.l1):: .ob r0 (rowC MD.new.l0)::L)),
  ⟨3,.inl ⟨rfl,rfl,H⟩⟩,?_⟩
 rintro m y w2 (⟨rfl,rfl,H⟩|⟨rfl,rfl,r0,H⟩|⟨rfl,rfl,r0,r1,H⟩|⟨rfl,r0,r1,r2,H⟩)
 · refine bif_t rfl ⟨by decide,by decide,1,rfl,Sx.drew H fun w3 _ H=>OSome.i ⟨by decide,by decide,by decide,Sx.alloc H fun w4 b17 _ H=>⟨trivial,by decide,by decide,?_⟩⟩⟩
   refine Sx.sto H 1 rfl (by rw [modC_size rfl hW7];decide) fun w5 _ H=>⟨trivial,OSome.i ⟨by decide,by decide,?_⟩⟩
   rw [modC_setv rfl (by decide)]at H
   refine⟨_,_,_,Sx.cell H 1 rfl (modC_v rfl rfl),?_⟩
   refine fill_rows (x:=0) (n:=1) (modC_v rfl rfl) H (mk_Row 1) (by decide) (by decide) fun w6 H=>⟨2,by decide,.inr (.inl ⟨rfl,rfl,b17,H⟩)⟩
 · refine bif_t rfl ⟨by decide,by decide,65,rfl,Sx.drew H fun w3 _ H=>OSome.i ⟨by decide,by decide,by decide,Sx.alloc H fun w4 b17 _ H=>⟨trivial,by decide,by decide,?_⟩⟩⟩
   rw [A0_add,show Int.toNat (1:Int)*1=1 from rfl]
   refine Sx.sto H 2 rfl (by rw [modC_size rfl hW7];decide) fun w5 _ H=>⟨trivial,OSome.i ⟨by decide,by decide,?_⟩⟩
   rw [modC_setv rfl (by decide)]at H
   refine⟨_,_,_,by rw [A0_add];exact Sx.cell H 2 rfl (modC_v rfl rfl),?_⟩
   have H:=H.perm ((List.Perm.swap _ _ _).cons _)
   refine fill_rows (x:=1) (n:=65) (modC_v rfl rfl) H (mk_Row 65) (by decide) (by decide) fun w6 H=>⟨1,by decide,.inr (.inr (.inl ⟨rfl,rfl,r0,b17,H⟩))⟩
 · refine bif_t rfl ⟨by decide,by decide,65,rfl,Sx.drew H fun w3 _ H=>OSome.i ⟨by decide,by decide,by decide,Sx.alloc H fun w4 b17 _ H=>⟨trivial,by decide,by decide,?_⟩⟩⟩
   rw [A0_add,show Int.toNat (2:Int)*1=2 from rfl]
   refine Sx.sto H 2 rfl (by rw [modC_size rfl hW7];decide) fun w5 _ H=>⟨trivial,OSome.i ⟨by decide,by decide,?_⟩⟩
   rw [modC_setv rfl (by decide)]at H
   refine⟨_,_,_,by rw [A0_add];exact Sx.cell H 2 rfl (modC_v rfl rfl),?_⟩
   have H:=H.perm ((List.Perm.swap _ _ _).cons _)
   refine fill_rows (x:=2) (n:=65) (modC_v rfl rfl) H (mk_Row 65) (by decide) (by decide) fun w6 H=>⟨0,by decide,.inr (.inr (.inr ⟨rfl,r0,r1,b17,H⟩))⟩
 · refine bif_f rfl ?_
   refine fin w2 ⟨bm,r0,r1,r2,[]⟩ ?_ rfl
   refine H.perm ?_
   refine(List.Perm.swap _ _ _).trans (.cons _ ?_)
   have h3:=(List.reverse_perm [En.ob r2 (rowC MD.new.l2),.ob r1 (rowC MD.new.l1),.ob r0 (rowC MD.new.l0)]).symm.append_right L
   exact h3
end Go.Proofs.Tryz
namespace Go.Proofs.Tryz
open Go Go.RowKit Go.Proofs.VC
variable {M:List Nat} {w0 w:World} {L:List En}
theorem rowC_get {l:List Nat} {j:Nat} (h:j<l.length):(i64s (nats l)).toArray[j]? =some (.int .i64 ((l.getD j 0:Nat):Int)):=by
 simp only [nats,i64s,List.getElem?_toArray,List.map_map,List.getElem?_map,List.getElem?_eq_getElem h,List.getD_eq_getElem?_getD,Option.getD_some,Option.map_some,Function.comp]
theorem rowC_set (l:List Nat) (j v:Nat):(i64s (nats l)).toArray.setIfInBounds j (.int .i64 (v:Int))=(i64s (nats (l.set j v))).toArray:=by
 apply Array.ext'
 simp only [nats,i64s,Array.toList_setIfInBounds,List.map_map,List.map_set]
theorem rowC_size (l:List Nat):(i64s (nats l)).toArray.size=l.length:=by simp
theorem T_model_rows {q:MQ} {m:MD} (H:Sx M w0 w (MOe q m++L)) (hm:m.Ok) (hW:q.Wv.length=7):Calls prog n_model_model_rows #[.pointer (some (A0 q.bm))] w fun e w'=>
 e= .returned (.agg #[.pointer (some (A0 q.r0)),.pointer (some ⟨q.r1,m.a*128,none⟩),.pointer (some ⟨q.r2,m.c*128,none⟩)])∧Fr [] w w':=by
 have hW':(q.Wv.map wV).length=7:=by rw [List.length_map,hW]
 have hcell:∀(i:Nat) (v:Value),(modC q.vs (q.Wv.map wV) m.a m.b)[i]? =some v→w.cell? ⟨q.bm,i,none⟩=some v:=fun i v hv=>Sx.cell H 0 rfl hv
 have ha:=hm.a65
 have hb:=hm.b65
 have hc:=MD.c_lt hm
 refine S_model_model_rows ?_
 unfold F_model_model_rows
 refine(Sx.start [] w).alloc fun w1 b2 _ H=>H.drew fun w2 _ H=>OSome.i ?_
 have hf:=H.fr
 have e1:W64 ((2:Int)*(m.b:Int))=((2*m.b:Nat):Int):=W64_idn (by omega) (by omega)
 have e2:W64 ((m.a:Int)+((2*m.b:Nat):Int))=((m.a+2*m.b:Nat):Int):=W64_idn (by omega) (by omega)
 have e3:W64 (Int.tdiv ((m.a+2*m.b:Nat):Int) 3)=(m.c:Int):=by
  rw [show(3:Int)=((3:Nat):Int)from rfl,tdiv_nat']
  exact W64_nat (by omega)
 refine⟨by decide,by decide,_,_,_,hf.cell0 (hcell 0 _ (modC_v rfl rfl)),by decide,by decide,OSome.i (OSome.i ⟨by decide,by decide,_,_,_,by rw [A0_add];exact hf.cell0 (hcell 1 _ (modC_v rfl rfl)),OSome.i ⟨_,by rw [A0_add];exact hf.cell0 (hcell 10 _ (modC_a rfl hW')),by omega,by omega,OSome.i (OSome.i ⟨by decide,by decide,_,_,_,by rw [A0_add];exact hf.cell0 (hcell 2 _ (modC_v rfl rfl)),OSome.i ⟨_,by rw [A0_add];exact hf.cell0 (hcell 10 _ (modC_a rfl hW')),OSome.i ⟨_,by rw [A0_add];exact hf.cell0 (hcell 11 _ (modC_b rfl hW')),by decide,?_⟩⟩⟩)⟩⟩)⟩
 rw [e1,e2,e3]
 refine⟨by omega,by omega,OSome.i ?_⟩
 refine H.sto 0 rfl (by simp) fun w3 _ H=>?_
 rw [A0_add]
 refine Sx.sto H 0 rfl (by simp) fun w4 _ H=>?_
 rw [A0_add]
 refine Sx.sto H 0 rfl (by simp) fun w5 _ H=>⟨trivial,_,_,_,Sx.ld H 0 rfl,?_,H.fr⟩
 rw [A0_add,A0_add,A0_add,Int.toNat_natCast,Int.toNat_natCast]
 rfl
def HowB {σ:Type} (g:Nat) (f k:Array Value) (P:Nat→σ→List En→Prop) (step:σ→Nat→Option (Bool×σ)):Prop:=
 ∀ {M:List Nat} {w0 w:World} {L:List En} {R:Ending→World→Prop} {x:σ} {Lh:List En} {p n:Nat},P (n+1) x Lh→Sx M w0 w (Lh++L)→p≤4096→
   (∀t x' Lh',step x p=some (t,x')→P n x' Lh'→∀w',Sx M w0 w' (Lh'++L)→R (.returned (.tuple #[.int .i64 ((b2n t:Nat):Int),.int .i64 0])) w')→
   (step x p=none→∀w' (er:Int),er≠0→Fr M w0 w'→R (.returned (.tuple #[.int .i64 0,.int .i64 er])) w')→
   Calls prog g (f.toList++([.int .i64 (p:Int)]:List Value)++k.toList).toArray w R
theorem permMid {α:Type} (A B C:List α):(A++(B++C)).Perm (B++(A++C)):=by
 rw [←List.append_assoc,←List.append_assoc]
 exact List.perm_append_comm.append_right C
theorem MOe_w {q:MQ} {m:MD} {d:Nat} {x:Wa} {y:List Int} (h1:q.Wv[d]? =some x) (h2:m.W[d]? =some y):(MOe q m++L)[4+d]? =some (.ow t_int 1 x.1 3 x.2 (i64s y)):=by
 have hz:((q.Wv.zip m.W).map wEn)[d]? =some (wEn (x,y)):=by
  rw [List.getElem?_map,(List.getElem?_zip_eq_some (z:=(x,y))).2 ⟨h1,h2⟩];rfl
 have hlt:=(List.getElem?_eq_some_iff.1 hz).1
 have e:(MOe q m++L)[4+d]? =((q.Wv.zip m.W).map wEn++L)[d]? :=by
  rw [Nat.add_comm];rfl
 rw [e,List.getElem?_append_left hlt,hz];rfl
theorem MOe_setw {q:MQ} {m:MD} {d:Nat} (x:Wa) (y:List Int) (hd:d<q.Wv.length) (hd2:d<m.W.length):
 ((.ob q.bm (.cells (modC q.vs ((q.Wv.set d x).map wV) m.a m.b) t_model_model (0,0)):: .ob q.r0 (rowC m.l0):: .ob q.r1 (rowC m.l1):: .ob q.r2 (rowC m.l2)::((q.Wv.zip m.W).map wEn++L)).set (4+d) (.ow t_int 1 x.1 3 x.2 (i64s y)))=MOe {q with Wv:=q.Wv.set d x} {m with W:=m.W.set d y}++L:=by
 rw [show 4+d=d+4 by omega]
 simp only [List.set_cons_succ,MOe,List.cons_append]
 have e:((q.Wv.zip m.W).set d (x,y)).map wEn=((q.Wv.zip m.W).map wEn).set d (wEn (x,y)):=List.map_set
 rw [List.set_append_left _ _ (by rw [List.length_map,List.length_zip];omega),zip_set,e]
 rfl
theorem T_model_bit {σ:Type} {g:Nat} {f k:Array Value} {P:Nat→σ→List En→Prop} {step:σ→Nat→Option (Bool×σ)} (how:HowB g f k P step) (hg:fok g=true) {R:Ending→World→Prop} {q:MQ} {m:MD} {x:σ} {Lh:List En} {d i N bm:Nat}
 (hbm:q.bm=bm) (hP:P (N+1) x Lh) (H:Sx M w0 w (MOe q m++(Lh++L))) (hm:m.Ok) (hW:q.Wv.length=7) (hd:d<7) (hi:i<128)
 (h1:∀t x' Lh' q',step x (m.at d i)=some (t,x')→P N x' Lh'→q'.bm=q.bm→q'.Wv.length=7→∀w',Sx M w0 w' (MOe q' (m.learn d i t)++(Lh'++L))→R (.returned (.tuple #[.int .i64 ((b2n t:Nat):Int),.int .i64 0])) w')
 (h2:step x (m.at d i)=none→∀w' (er:Int),er≠0→Fr M w0 w'→R (.returned (.tuple #[.int .i64 0,.int .i64 er])) w'):
 Calls prog n_model_model_bit #[.pointer (some (A0 bm)),.int .i64 (d:Int),.int .i64 (i:Int),.func (.func g) f k] w R:=by
 subst hbm
 have ha:=hm.a65
 have hb:=hm.b65
 have hc:=MD.c_lt hm
 have hW':(q.Wv.map wV).length=7:=by rw [List.length_map,hW]
 have hw1:q.Wv[d]? =some q.Wv[d]:=List.getElem?_eq_getElem (by omega)
 have hw2:m.W[d]? =some (m.W.getD d []):=by rw [List.getD_eq_getElem?_getD,List.getElem?_eq_getElem (by rw [hm.nW];exact hd)];rfl
 have hw3:(m.W.getD d []).length=3:=hm.w3 _ (List.mem_of_getElem? hw2)
 have hwv:(q.Wv.map wV)[d]? =some (wV q.Wv[d]):=by rw [List.getElem?_map,hw1];rfl
 have hin:(m.inputs i).length=3:=rfl
 have p0:m.l0.getD i 0≤4096:=by
  rw [List.getD_eq_getElem?_getD,List.getElem?_eq_getElem (by rw [hm.n0];exact hi)]
  exact hm.m0 _ (List.getElem_mem _)
 have p1:m.l1.getD (m.a*128+i) 0≤4096:=by
  rw [List.getD_eq_getElem?_getD,List.getElem?_eq_getElem (by rw [hm.n1];omega)]
  exact hm.m1 _ (List.getElem_mem _)
 have p2:m.l2.getD (m.c*128+i) 0≤4096:=by
  rw [List.getD_eq_getElem?_getD,List.getElem?_eq_getElem (by rw [hm.n2];omega)]
  exact hm.m2 _ (List.getElem_mem _)
 refine S_model_model_bit ?_
 unfold F_model_model_bit
 refine(T_model_rows H hm hW).mono ?_
 rintro e w1 ⟨rfl,hf⟩
 have H:=H.call0 hf
 refine⟨_,_,_,rfl,H.alloc fun w2 b10 _ H=>?_⟩
 refine Sx.sto H 0 rfl (by simp) fun w3 _ H=>?_
 rw [A0_add]
 refine Sx.sto H 0 rfl (by simp) fun w4 _ H=>?_
 rw [A0_add]
 refine Sx.sto H 0 rfl (by simp) fun w5 _ H=>⟨_,_,_,Sx.ld H 0 rfl,?_⟩
 have H:=Sx.nilw H t_int 1
 refine⟨fun m3 a n c y w6=>∃j:Nat,y=(j:Int)∧m3+j=3∧n=j∧Sx M w0 w6 (.ow t_int 1 a n c (i64s ((m.inputs i).take j)):: .ob b10 (.cells #[.pointer (some (A0 q.r0)),.pointer (some ⟨q.r1,m.a*128,none⟩),.pointer (some ⟨q.r2,m.c*128,none⟩)] t_A3_P_model_row (0,0))::(MOe q m++(Lh++L))),
  ⟨3,0,rfl,rfl,rfl,H⟩,?_⟩
 rintro m3 a n c y w6 ⟨j,rfl,hmj,rfl,H⟩
 refine bif_i (fun hlt=>?_) fun hge=>?_
 · have hj:n<3:=by have:=of_decide_eq_true hlt;omega
   have key:∀(p:Nat) (w7:World) (z:Int),p≤4096→(m.inputs i)[n]? =some (stretchN p)→Fr [] w6 w7→z=stretchN p→∀w8 b32,w8=w7.alloc (.cells #[.int .i64 z] t_int)→b32=w7.heap.size→∃x33:Option Addr,∃x33n:Nat,∃x33c:Nat,∃w9:World,(Builtin.append_ #[t_S_int,t_S_int] t_S_int #[.slice a n c,.slice (some (A0 b32)) 1 1]).run prog w8= .ok (.slice x33 x33n x33c) w9∧∃m_3,m_3<m3∧
    ∃j:Nat,W64 ((n:Int)+1)=(j:Int)∧m_3+j=3∧x33n=j∧Sx M w0 w9 (.ow t_int 1 x33 x33n x33c (i64s ((m.inputs i).take j)):: .ob b10 (.cells #[.pointer (some (A0 q.r0)),.pointer (some ⟨q.r1,m.a*128,none⟩),.pointer (some ⟨q.r2,m.c*128,none⟩)] t_A3_P_model_row (0,0))::(MOe q m++(Lh++L))):=by
    rintro p w7 z hp hget hf7 rfl
    refine(H.call0 hf7).alloc fun w8 b32 _ H=>?_
    refine app_int H (j:=0) rfl (by omega) fun a' c' w9 H=>⟨m3-1,by omega,n+1,W64_succ (by omega),by omega,rfl,?_⟩
    obtain⟨hlt2,hge2⟩:=List.getElem?_eq_some_iff.1 hget
    rw [List.take_succ_eq_append_getElem hlt2,hge2]
    exact H
   have hcase:n=0∨n=1∨n=2:=by omega
   rcases hcase with rfl|rfl|rfl
   · refine⟨by decide,by decide,_,rfl,OSome.i ⟨by omega,by omega,_,by rw [A0_add,Int.toNat_natCast,Nat.mul_one];exact Sx.cell H 3 rfl (rowC_get (by rw [hm.n0];exact hi)),?_⟩⟩
     refine(T_squash_Stretch _ (by omega) w6).mono ?_
     rintro e w7 ⟨rfl,hf7⟩
     exact⟨_,rfl,key _ w7 _ p0 rfl hf7 rfl⟩
   · refine⟨by decide,by decide,_,rfl,OSome.i ⟨by omega,by omega,_,by rw [add_lit,Int.toNat_natCast,Nat.mul_one];exact Sx.cell H 4 rfl (rowC_get (by rw [hm.n1];omega)),?_⟩⟩
     refine(T_squash_Stretch _ (by omega) w6).mono ?_
     rintro e w7 ⟨rfl,hf7⟩
     exact⟨_,rfl,key _ w7 _ p1 rfl hf7 rfl⟩
   · refine⟨by decide,by decide,_,rfl,OSome.i ⟨by omega,by omega,_,by rw [add_lit,Int.toNat_natCast,Nat.mul_one];exact Sx.cell H 5 rfl (rowC_get (by rw [hm.n2];omega)),?_⟩⟩
     refine(T_squash_Stretch _ (by omega) w6).mono ?_
     rintro e w7 ⟨rfl,hf7⟩
     exact⟨_,rfl,key _ w7 _ p2 rfl hf7 rfl⟩
 · have hj:n=3:=by have:=of_decide_eq_false hge;omega
   subst hj
   rw [List.take_of_length_le (by rw [hin];omega)]at H
   refine OSome.i ⟨by omega,by omega,_,_,_,by rw [A0_add,add_lit,Int.toNat_natCast,Nat.mul_one];exact Sx.cell H 2 rfl (modC_w rfl hwv),?_⟩
   have hwj:∀ {L0:List En} {u v:En},(u::v::(MOe q m++L0))[6+d]? =some (.ow t_int 1 q.Wv[d].1 3 q.Wv[d].2 (i64s (m.W.getD d []))):=fun {L0 u v}=>by
    rw [show 6+d=(4+d)+1+1 by omega,List.getElem?_cons_succ,List.getElem?_cons_succ]
    exact MOe_w hw1 hw2
   refine(T_mixer_Mix _ 3 _ (m.W.getD d []) _ 3 _ (m.inputs i) w6 ⟨hw3.symm,H.slw (6+d) hwj⟩ ⟨rfl,H.slw 0 rfl⟩ (by rw [hw3,hin]) (by omega)).mono ?_
   rintro e w7 ⟨rfl,hf7⟩
   have H:=H.call0 hf7
   refine⟨_,rfl,?_⟩
   rw [hg]
   show Calls prog g _ _ _
   have hat:mixP (m.W.getD d []) (m.inputs i)=m.at d i:=rfl
   rw [hat]
   have hatle:m.at d i≤4096:=by have:=(squashN_le (inputN (sumWN (m.W.getD d []) (m.inputs i)/65536))).2;have e:m.at d i=squashN (inputN (sumWN (m.W.getD d []) (m.inputs i)/65536)):=rfl;omega
   generalize hatv:m.at d i=av at*
   have Hp:=H.perm (permMid (En.ow t_int 1 a 3 c (i64s (m.inputs i)):: .ob b10 (.cells #[.pointer (some (A0 q.r0)),.pointer (some ⟨q.r1,m.a*128,none⟩),.pointer (some ⟨q.r2,m.c*128,none⟩)] t_A3_P_model_row (0,0))::MOe q m) Lh L)
   refine how hP Hp hatle (fun t x' Lh' hst hP' w8 H=>⟨_,_,rfl,bif_f rfl ?_⟩) fun hst w8 er her hf8=>⟨_,_,rfl,bif_t (by simpa using her) (h2 hst w8 er her hf8)⟩
   have H:=H.perm (permMid _ _ _)
   refine H.drew fun w9 _ H=>OSome.i ⟨by omega,by omega,_,_,_,by rw [A0_add,add_lit,Int.toNat_natCast,Nat.mul_one];exact Sx.cell H 2 rfl (modC_w rfl hwv),OSome.i ?_⟩
   refine(T_mixer_Train _ 3 _ (m.W.getD d []) _ 3 _ (m.inputs i) av t w9 ⟨hw3.symm,Sx.slw H (6+d) hwj⟩ ⟨rfl,Sx.slw H 0 rfl⟩ (by rw [hw3,hin]) (by omega) (by omega)).mono ?_
   rintro e w10 ⟨a2,c2,rfl,Hc⟩
   have H:=H.join Hc
   rw [hw3]
   refine⟨_,_,_,rfl,trivial,by omega,by omega,?_⟩
   rw [A0_add,add_lit,Int.toNat_natCast,Nat.mul_one]
   refine H.sto 3 rfl (by rw [modC_size rfl hW'];omega) fun w11 _ H=>⟨trivial,?_⟩
   rw [show(Value.slice a2 3 c2)=wV (a2,c2)from rfl,modC_setw rfl (by omega),←List.map_set]at H
   rw [hw3]at H
   have H:=Sx.repl H (6+d) (y:= .ow t_int 1 q.Wv[d].1 3 q.Wv[d].2 (i64s (m.W.getD d []))) (by
    rw [show 6+d=d+1+1+1+1+1+1 by omega]
    have:=hwj (L0:=Lh'++L) (u:=En.ow t_int 1 a 3 c (i64s (m.inputs i))) (v:= .ob b10 (.cells #[.pointer (some (A0 q.r0)),.pointer (some ⟨q.r1,m.a*128,none⟩),.pointer (some ⟨q.r2,m.c*128,none⟩)] t_A3_P_model_row (0,0)))
    rw [show 6+d=d+1+1+1+1+1+1 by omega]at this
    exact this)
   have H:Sx M w0 w11 (.ow t_int 1 a 3 c (i64s (m.inputs i)):: .ob b10 (.cells #[.pointer (some (A0 q.r0)),.pointer (some ⟨q.r1,m.a*128,none⟩),.pointer (some ⟨q.r2,m.c*128,none⟩)] t_A3_P_model_row (0,0))::(MOe {q with Wv:=q.Wv.set d (a2,c2)} {m with W:=m.W.set d (trainN (lackN av t) (m.W.getD d []) (m.inputs i))}++(Lh'++L))):=by
    rw [←MOe_setw (a2,c2) _ (by omega) (by rw [hm.nW];exact hd)]
    rw [show 6+d=(4+d)+1+1 by omega]at H
    exact H
   have hlearn:m.learn d i t= {m with l0:=m.l0.set i (moveN (m.l0.getD i 0) t 4),l1:=m.l1.set (m.a*128+i) (moveN (m.l1.getD (m.a*128+i) 0) t 5),l2:=m.l2.set (m.c*128+i) (moveN (m.l2.getD (m.c*128+i) 0) t 6),W:=m.W.set d (trainN (lackN av t) (m.W.getD d []) (m.inputs i))}:=by
    rw [MD.learn,hatv];rfl
   have h1:=h1 t
   rw [hlearn]at h1
   generalize hWn:m.W.set d (trainN (lackN av t) (m.W.getD d []) (m.inputs i))=Wn at*
   generalize hqn:({q with Wv:=q.Wv.set d (a2,c2)}:MQ)=qn at*
   have hqb:qn.bm=q.bm∧qn.r0=q.r0∧qn.r1=q.r1∧qn.r2=q.r2∧qn.Wv.length=7:=by subst hqn;simp [hW]
   refine⟨_,_,_,Sx.ld H 1 rfl,?_⟩
   have hrow:∀ {r r' j:Nat} {l:List Nat} {v:Nat} {W:World} {L1:List En} {K:World→Prop} (idx:Nat),r'=r→L1[idx]? =some (.ob r' (rowC l))→j<l.length→Sx M w0 W L1→(∀W',Sx M w0 W' (L1.set idx (.ob r' (rowC (l.set j v))))→K W')→Sto W ⟨r,j,none⟩ (.int .i64 (v:Int)) K:=by
    rintro _ r j l v W L1 K idx rfl hj hlt HH hK
    refine HH.sto idx hj (by rw [rowC_size];exact hlt) fun W' _ HH=>hK W' ?_
    rw [rowC_set]at HH
    exact HH
   obtain⟨hq1,hq2,hq3,hq4,hq5⟩:=hqb
   have hmv:∀p s,moveN p t s≤4096:=fun p s=>moveN_le p t s
   refine⟨fun m4 y w12=>(y=0∧m4=3∧Sx M w0 w12 (.ow t_int 1 a 3 c (i64s (m.inputs i)):: .ob b10 (.cells #[.pointer (some (A0 q.r0)),.pointer (some ⟨q.r1,m.a*128,none⟩),.pointer (some ⟨q.r2,m.c*128,none⟩)] t_A3_P_model_row (0,0))::(MOe qn {m with W:=Wn}++(Lh'++L))))∨
    (y=1∧m4=2∧Sx M w0 w12 (.ow t_int 1 a 3 c (i64s (m.inputs i)):: .ob b10 (.cells #[.pointer (some (A0 q.r0)),.pointer (some ⟨q.r1,m.a*128,none⟩),.pointer (some ⟨q.r2,m.c*128,none⟩)] t_A3_P_model_row (0,0))::(MOe qn {m with l0:=m.l0.set i (moveN (m.l0.getD i 0) t 4),W:=Wn}++(Lh'++L))))∨
    (y=2∧m4=1∧Sx M w0 w12 (.ow t_int 1 a 3 c (i64s (m.inputs i)):: .ob b10 (.cells #[.pointer (some (A0 q.r0)),.pointer (some ⟨q.r1,m.a*128,none⟩),.pointer (some ⟨q.r2,m.c*128,none⟩)] t_A3_P_model_row (0,0))::(MOe qn {m with l0:=m.l0.set i (moveN (m.l0.getD i 0) t 4),l1:=m.l1.set (m.a*128+i) (moveN (m.l1.getD (m.a*128+i) 0) t 5),W:=Wn}++(Lh'++L))))∨
    (y=3∧Sx M w0 w12 (.ow t_int 1 a 3 c (i64s (m.inputs i)):: .ob b10 (.cells #[.pointer (some (A0 q.r0)),.pointer (some ⟨q.r1,m.a*128,none⟩),.pointer (some ⟨q.r2,m.c*128,none⟩)] t_A3_P_model_row (0,0))::(MOe qn {m with l0:=m.l0.set i (moveN (m.l0.getD i 0) t 4),l1:=m.l1.set (m.a*128+i) (moveN (m.l1.getD (m.a*128+i) 0) t 5),l2:=m.l2.set (m.c*128+i) (moveN (m.l2.getD (m.c*128+i) 0) t 6),W:=Wn}++(Lh'++L)))),
    ⟨3,.inl ⟨rfl,rfl,H⟩⟩,?_⟩
   rintro m4 y w12 (⟨rfl,rfl,H⟩|⟨rfl,rfl,H⟩|⟨rfl,rfl,H⟩|⟨rfl,H⟩)
   · refine bif_t rfl ⟨by decide,by decide,_,rfl,Sx.drew H fun w13 _ H=>OSome.i ⟨by omega,by omega,_,by rw [A0_add,Int.toNat_natCast,Nat.mul_one,←hq2];exact Sx.cell H 3 rfl (rowC_get (l:=m.l0) (by rw [hm.n0];exact hi)),OSome.i ?_⟩⟩
     refine(T_tree_Move (m.l0.getD i 0) 4 t (by omega) (by omega) w13).mono ?_
     rintro e w14 ⟨rfl,hf14⟩
     have H:=Sx.call0 H hf14
     refine⟨_,rfl,trivial,by omega,by omega,?_⟩
     rw [A0_add,Int.toNat_natCast,Nat.mul_one]
     exact hrow 3 hq2 rfl (by rw [hm.n0];exact hi) H fun w15 H=>⟨trivial,2,by decide,.inr (.inl ⟨rfl,rfl,H⟩)⟩
   · refine bif_t rfl ⟨by decide,by decide,_,rfl,Sx.drew H fun w13 _ H=>OSome.i ⟨by omega,by omega,_,by rw [add_lit,Int.toNat_natCast,Nat.mul_one,←hq3];exact Sx.cell H 4 rfl (rowC_get (l:=m.l1) (by rw [hm.n1];omega)),OSome.i ?_⟩⟩
     refine(T_tree_Move (m.l1.getD (m.a*128+i) 0) 5 t (by omega) (by omega) w13).mono ?_
     rintro e w14 ⟨rfl,hf14⟩
     have H:=Sx.call0 H hf14
     refine⟨_,rfl,trivial,by omega,by omega,?_⟩
     rw [add_lit,Int.toNat_natCast,Nat.mul_one]
     exact hrow 4 hq3 rfl (by rw [hm.n1];omega) H fun w15 H=>⟨trivial,1,by decide,.inr (.inr (.inl ⟨rfl,rfl,H⟩))⟩
   · refine bif_t rfl ⟨by decide,by decide,_,rfl,Sx.drew H fun w13 _ H=>OSome.i ⟨by omega,by omega,_,by rw [add_lit,Int.toNat_natCast,Nat.mul_one,←hq4];exact Sx.cell H 5 rfl (rowC_get (l:=m.l2) (by rw [hm.n2];omega)),OSome.i ?_⟩⟩
     refine(T_tree_Move (m.l2.getD (m.c*128+i) 0) 6 t (by omega) (by omega) w13).mono ?_
     rintro e w14 ⟨rfl,hf14⟩
     have H:=Sx.call0 H hf14
     refine⟨_,rfl,trivial,by omega,by omega,?_⟩
     rw [add_lit,Int.toNat_natCast,Nat.mul_one]
     exact hrow 5 hq4 rfl (by rw [hm.n2];omega) H fun w15 H=>⟨trivial,0,by decide,.inr (.inr (.inr ⟨rfl,H⟩))⟩
   · exact bif_f rfl (h1 x' Lh' qn hst hP' hq1 hq5 w12 (Sx.tail (Sx.tail H)))
end Go.Proofs.Tryz
namespace Go.Proofs.Tryz
open Go Go.RowKit Go.Proofs.VC
def downN (i:Nat) (bs:List Bool):Nat:=bs.foldl (fun i b=>2*i+(if b then 1 else 0)) i
theorem walk_put:∀(n i:Nat) (m:MD) (bs rest:List Bool) (x:CS),x.Ok→m.Ok→n≤7→bs.length=n→∃m' x',MD.walk putStep n i m (bs++rest,x)=some (downN i bs,m',(rest,x'))∧x'.Ok∧m'.Ok
 |0,i,m,bs,rest,x,hx,hm,h7,hb=>by
  rw [List.length_eq_zero_iff.1 hb]
  exact⟨m,x,rfl,hx,hm⟩
 |n+1,i,m,b::bs,rest,x,hx,hm,h7,hb=>by
  obtain⟨m',x',h1,h2,h3⟩:=walk_put n (2*i+(if b then 1 else 0)) (m.learn (6-n) i b) bs rest (x.bit (m.at (6-n) i) b) (CS.bit_ok hx _ _) (MD.learn_ok hm (by omega) b) (by omega) (by simpa using hb)
  exact⟨m',x',by rw [MD.walk];exact h1,h2,h3⟩
theorem cbits_len (c:Nat):(cbits c).length=7:=by simp [cbits]
theorem cbits_down:∀c,c<128→downN 1 (cbits c)=128+c:=by decide
theorem cls_put {m:MD} {x:CS} {c:Nat} (hm:m.Ok) (hx:x.Ok) (hc:c<65):∃m' x',MD.cls putStep m (cbits c,x)=some (c,m',([],x'))∧x'.Ok∧m'.Ok:=by
 obtain⟨m',x',h1,h2,h3⟩:=walk_put 7 1 m (cbits c) [] x hx hm (by omega) (cbits_len c)
 rw [List.append_nil,cbits_down c (by omega)]at h1
 refine⟨m'.came c,x',?_,h2,MD.came_ok h3 hc⟩
 rw [MD.cls,h1]
 simp only [Nat.add_sub_cancel_left]
 rw [if_pos hc]
theorem walk_law {s:List UInt8}:∀(n i:Nat) (m:MD) (bs:List Bool) (x:CS) {i':Nat} {m':MD} {bs':List Bool} {x':CS},x.Ok→MD.walk putStep n i m (bs,x)=some (i',m',(bs',x'))→x'.Ins s→x.Ins s∧MD.walk (getStep s) n i m x=some (i',m',x')
 |0,i,m,bs,x,i',m',bs',x',hx,h,hi=>by
  rw [MD.walk]at h
  cases h
  exact⟨hi,rfl⟩
 |n+1,i,m,[],x,i',m',bs',x',hx,h,hi=>by rw [MD.walk]at h;cases h
 |n+1,i,m,b::bs,x,i',m',bs',x',hx,h,hi=>by
  rw [MD.walk]at h
  have h:MD.walk putStep n (2*i+(if b then 1 else 0)) (m.learn (6-n) i b) (bs,x.bit (m.at (6-n) i) b)=some (i',m',(bs',x')):=h
  obtain⟨h1,h2⟩:=walk_law n _ _ bs _ (CS.bit_ok hx _ _) h hi
  obtain⟨h3,h4⟩:=CS.ins_bit hx h1
  refine⟨h3,?_⟩
  rw [MD.walk,getStep,h4]
  exact h2
theorem cls_law {s:List UInt8} {m:MD} {bs:List Bool} {x:CS} {c:Nat} {m':MD} {bs':List Bool} {x':CS} (hx:x.Ok) (h:MD.cls putStep m (bs,x)=some (c,m',(bs',x'))) (hi:x'.Ins s):x.Ins s∧MD.cls (getStep s) m x=some (c,m',x'):=by
 rw [MD.cls]at h
 cases hw:MD.walk putStep 7 1 m (bs,x)with
 |none=>rw [hw]at h;cases h
 |some r=>
  obtain⟨i,m2,bs2,x2⟩:=r
  rw [hw]at h
  simp only at h
  split at h
  · next hlt=>
    simp only [Option.some.injEq,Prod.mk.injEq]at h
    obtain⟨rfl,rfl,rfl,rfl⟩:=h
    obtain⟨h1,h2⟩:=walk_law 7 1 m bs x hx hw hi
    refine⟨h1,?_⟩
    rw [MD.cls,h2]
    simp only
    rw [if_pos hlt]
  · cases h
theorem putOne_ok {p:Pt} {m:MD} {x:CS} (hm:m.Ok) (hx:x.Ok) (hp:OkPt p):∃m' x',MD.cls putStep m (cbits p.1,x)=some (p.1,m',([],x'))∧putOne p m x=some (m',CS.direct p.2 (p.1-1) x')∧x'.Ok∧m'.Ok:=by
 have:=(okPt_lt hp).1
 obtain⟨m',x',h1,h2,h3⟩:=cls_put (c:=p.1) hm hx (by omega)
 exact⟨m',x',h1,by rw [putOne,h1];rfl,h2,h3⟩
theorem modelPut_ok:∀(ps:List Pt) (m:MD) (x:CS),m.Ok→x.Ok→(∀p∈ps,OkPt p)→∃x',modelPut ps m x=some x'∧x'.Ok
 | [],m,x,hm,hx,hp=>⟨x,rfl,hx⟩
 |p::ps,m,x,hm,hx,hp=>by
  obtain⟨m',x',h1,h1',h2,h3⟩:=putOne_ok hm hx (hp p (by simp))
  obtain⟨x2,h4,h5⟩:=modelPut_ok ps m' _ h3 (CS.direct_ok (v:=p.2) (p.1-1) h2) fun q hq=>hp q (by simp [hq])
  exact⟨x2,by rw [modelPut,h1'];exact h4,h5⟩
theorem okPt_mod {p:Pt} (h:OkPt p):p.2%2^(p.1-1)=p.2:=by
 rcases h with⟨h1,h2⟩|⟨h1,h2,h3⟩
 · rw [h1,h2]
 · exact Nat.mod_eq_of_lt h3
theorem modelPut_law {s:List UInt8} (ps:List Pt):∀(m:MD) (x:CS) {x':CS},m.Ok→x.Ok→(∀p∈ps,OkPt p)→modelPut ps m x=some x'→x'.Ins s→x.Ins s∧modelGet s ps.length m x=some (ps,x'):=by
 induction ps with
 |nil=>
  intro m x x' hm hx hp h hi
  rw [modelPut]at h
  obtain rfl:=Option.some.inj h
  exact⟨hi,rfl⟩
 |cons p ps ih=>
  intro m x x' hm hx hp h hi
  obtain⟨m',x1,h1,h1',h2,h3⟩:=putOne_ok hm hx (hp p (by simp))
  rw [modelPut,h1',Option.bind_some]at h
  obtain⟨h4,h5⟩:=ih m' _ h3 (CS.direct_ok (v:=p.2) (p.1-1) h2) (fun q hq=>hp q (by simp [hq])) h hi
  obtain⟨h6,h7⟩:=CS.ins_direct (s:=s) (v:=p.2) (p.1-1) 0 h2 h4
  obtain⟨h8,h9⟩:=cls_law hx h1 h6
  refine⟨h8,?_⟩
  rw [Nat.zero_mul,Nat.zero_add,okPt_mod (hp p (by simp))]at h7
  have e:getOne s m x=some (p,m',CS.direct p.2 (p.1-1) x1):=by
   rw [getOne,h9,Option.bind_some]
   simp only
   rw [h7];rfl
  rw [List.length_cons,modelGet,e,Option.bind_some]
  simp only
  rw [h5];rfl
def CS.Q (N D:Nat) (x:CS):Prop:=256^x.k*D≤N*x.R
theorem CS.grow_Q {N D:Nat}:∀(f:Nat) (x:CS),x.Q N D→(CS.grow f x).Q N D
 |0,x,h=>h
 |f+1,x,h=>by
  rw [CS.grow]
  split
  · refine CS.grow_Q f _ ?_
    unfold CS.Q at h ⊢
    show 256^(x.k+1)*D≤N*(x.R*256)
    have:=Nat.mul_le_mul_right 256 h
    rw [Nat.pow_succ,Nat.mul_right_comm,←Nat.mul_assoc]
    exact this
  · exact h
theorem CS.nar_Q {N D a b:Nat} {x:CS} {lo sz:Nat} (h:x.Q N D) (hs:x.R*b≤sz*a):(x.nar lo sz).Q (N*a) (D*b):=by
 refine CS.grow_Q 3 _ ?_
 unfold CS.Q at h ⊢
 show 256^x.k*(D*b)≤N*a*sz
 calc 256^x.k*(D*b)=256^x.k*D*b:=(Nat.mul_assoc _ _ _).symm
  _≤N*x.R*b:=Nat.mul_le_mul_right _ h
  _=N*(x.R*b):=Nat.mul_assoc _ _ _
  _≤N*(sz*a):=Nat.mul_le_mul_left _ hs
  _=N*a*sz:=by rw [Nat.mul_comm sz a,Nat.mul_assoc]
theorem CS.bit_Q {N D p:Nat} {x:CS} {b:Bool} (ho:x.Ok) (h:x.Q N D) (h1:16≤p) (h2:p≤4080):(x.bit p b).Q (N*4096) (D*15):=by
 have hlo:=ho.lo
 have hc:cutN p=p:=by unfold cutN;omega
 have hs:shareN x.R p=x.R/4096*p:=by rw [shareN,hc]
 have g1:x.R/4096*16≤x.R/4096*p:=Nat.mul_le_mul_left _ h1
 have g2:x.R/4096*p≤x.R/4096*4080:=Nat.mul_le_mul_left _ h2
 unfold CS.bit
 rw [hs]
 cases b
 · exact CS.nar_Q h (by omega)
 · exact CS.nar_Q h (by omega)
theorem CS.half_Q {N D:Nat} {x:CS} {b:Bool} (ho:x.Ok) (h:x.Q N D):(x.half b).Q (N*33554432) (D*16777215):=by
 have hlo:=ho.lo
 exact CS.nar_Q h (by omega)
theorem CS.direct_Q {v:Nat}:∀(i:Nat) {x:CS} {N D:Nat},x.Ok→x.Q N D→(CS.direct v i x).Q (N*33554432^i) (D*16777215^i)
 |0,x,N,D,ho,h=>by simpa [CS.direct]using h
 |i+1,x,N,D,ho,h=>by
  have:=CS.direct_Q (v:=v) i (CS.half_ok ho (v/2^i%2==1)) (CS.half_Q ho h)
  rw [Nat.pow_succ,Nat.pow_succ,Nat.mul_comm (33554432^i),Nat.mul_comm (16777215^i),←Nat.mul_assoc,←Nat.mul_assoc]
  exact this
theorem mixP_le (ws xs:List Int):16≤mixP ws xs∧mixP ws xs≤4080:=squashN_le _
theorem walk_Q:∀(n i:Nat) (m:MD) (bs:List Bool) (x:CS) {i':Nat} {m':MD} {bs':List Bool} {x':CS} {N D:Nat},x.Ok→x.Q N D→MD.walk putStep n i m (bs,x)=some (i',m',(bs',x'))→x'.Q (N*4096^n) (D*15^n)
 |0,i,m,bs,x,i',m',bs',x',N,D,hx,hq,h=>by
  rw [MD.walk]at h
  cases h
  simpa using hq
 |n+1,i,m,[],x,i',m',bs',x',N,D,hx,hq,h=>by rw [MD.walk]at h;cases h
 |n+1,i,m,b::bs,x,i',m',bs',x',N,D,hx,hq,h=>by
  rw [MD.walk]at h
  have h:MD.walk putStep n (2*i+(if b then 1 else 0)) (m.learn (6-n) i b) (bs,x.bit (m.at (6-n) i) b)=some (i',m',(bs',x')):=h
  have hm:=mixP_le (m.W.getD (6-n) []) (m.inputs i)
  have:=walk_Q n _ _ bs _ (CS.bit_ok hx _ _) (CS.bit_Q (p:=m.at (6-n) i) (b:=b) hx hq hm.1 hm.2) h
  rw [Nat.pow_succ,Nat.pow_succ,Nat.mul_comm (4096^n),Nat.mul_comm (15^n),←Nat.mul_assoc,←Nat.mul_assoc]
  exact this
theorem number_Q:4096^7*33554432^63≤256^15*(15^7*16777215^63):=by decide+kernel
theorem num_pos:0<15^7*16777215^63:=by decide+kernel
theorem Qstep {L N R A B C:Nat} (hB:0<B) (e:A≤C*B) (hd:L*B≤N*A*R):L≤N*C*R:=by
 refine Nat.le_of_mul_le_mul_right (c:=B) ?_ hB
 calc L*B≤N*A*R:=hd
  _≤N*(C*B)*R:=Nat.mul_le_mul_right _ (Nat.mul_le_mul_left _ e)
  _=N*C*R*B:=by rw [←Nat.mul_assoc,Nat.mul_right_comm]
theorem Q_pad {N D i:Nat} {x:CS} (hi:i≤63) (h:x.Q (N*33554432^i) (D*16777215^i)):x.Q (N*33554432^63) (D*16777215^63):=by
 obtain⟨j,hj⟩:∃j,63=i+j:=⟨63-i,by omega⟩
 rw [hj,Nat.pow_add,Nat.pow_add,←Nat.mul_assoc,←Nat.mul_assoc]
 unfold CS.Q at h ⊢
 have h1:=Nat.mul_le_mul h (Nat.pow_le_pow_left (show 16777215≤33554432 by decide) j)
 rw [←Nat.mul_assoc,Nat.mul_right_comm (N*33554432^i)]
 exact h1
theorem modelPut_Q (K:Nat) (hK:K=256^15) (ps:List Pt):∀(m:MD) (x:CS) {x':CS} {N:Nat},m.Ok→x.Ok→(∀p∈ps,OkPt p)→x.Q N 1→modelPut ps m x=some x'→x'.Q (N*K^ps.length) 1:=by
 induction ps with
 |nil=>
  intro m x x' N hm hx hp hq h
  rw [modelPut]at h
  obtain rfl:=Option.some.inj h
  simpa using hq
 |cons p ps ih=>
  intro m x x' N hm hx hp hq h
  have h64:=(okPt_lt (hp p (by simp))).1
  obtain⟨m',x1,h1,h1',h2,h3⟩:=putOne_ok hm hx (hp p (by simp))
  have hw:x1.Q (N*4096^7) (1*15^7):=by
   rw [MD.cls]at h1
   cases hw:MD.walk putStep 7 1 m (cbits p.1,x)with
   |none=>rw [hw]at h1;cases h1
   |some r=>
    obtain⟨i,m2,bs2,x2⟩:=r
    rw [hw]at h1
    simp only at h1
    split at h1
    · simp only [Option.some.injEq,Prod.mk.injEq]at h1
      obtain⟨_,_,_,rfl⟩:=h1
      exact walk_Q 7 1 m _ x hx hq hw
    · cases h1
  rw [modelPut,h1',Option.bind_some]at h
  have hd:=Q_pad (i:=p.1-1) (by omega) (CS.direct_Q (v:=p.2) (p.1-1) h2 hw)
  have hn:(CS.direct p.2 (p.1-1) x1).Q (N*K) 1:=by
   unfold CS.Q at hd ⊢
   rw [Nat.one_mul,Nat.mul_assoc N]at hd
   rw [Nat.mul_one]
   exact Qstep num_pos (by rw [hK];exact number_Q) hd
  have:=ih m' _ h3 (CS.direct_ok (v:=p.2) (p.1-1) h2) (fun q hq=>hp q (by simp [hq])) hn h
  rw [List.length_cons,Nat.pow_succ,Nat.mul_comm (K^ps.length),←Nat.mul_assoc]
  exact this
theorem modelB_len {ps:List Pt} (hp:∀p∈ps,OkPt p):(modelB ps).length≤15*ps.length+6:=by
 obtain⟨x,h1,h2⟩:=modelPut_ok ps MD.new CS.new MD.new_ok CS.new_ok hp
 have hq:=modelPut_Q (256^15) rfl (N:=257) ps MD.new CS.new MD.new_ok CS.new_ok hp (by show 256^5*1≤257*4294967295;decide) h1
 have e:(modelB ps).length=x.k:=by rw [modelB,h1];simp [CS.bytes,beN_len]
 rw [e]
 unfold CS.Q at hq
 have hR:=h2.hi
 refine Nat.le_of_lt_succ ((Nat.pow_lt_pow_iff_right (a:=256) (by decide)).1 ?_)
 rw [Nat.mul_one,←Nat.pow_mul]at hq
 generalize 15*ps.length=n at hq ⊢
 have e2:256^(n+6+1)=256^n*256^7:=by rw [←Nat.pow_add]
 rw [e2]
 have hpos:0<256^n:=Nat.pow_pos (by decide)
 calc 256^x.k≤257*256^n*x.R:=hq
  _≤257*256^n*4294967296:=Nat.mul_le_mul_left _ (by omega)
  _=256^n*(257*4294967296):=by rw [Nat.mul_comm 257,Nat.mul_assoc]
  _<256^n*256^7:=(Nat.mul_lt_mul_left hpos).2 (by decide)
end Go.Proofs.Tryz
namespace Go.Proofs.Tryz
open Go Go.RowKit Go.Proofs.VC
variable {M:List Nat} {w0 w:World} {L:List En}
theorem T_model_class {σ:Type} {g:Nat} {f k:Array Value} {P:Nat→σ→List En→Prop} {step:σ→Nat→Option (Bool×σ)} (how:HowB g f k P step) (hg:fok g=true) {R:Ending→World→Prop} {q:MQ} {m:MD} {x:σ} {Lh:List En} {N bm:Nat}
 (hbm:q.bm=bm) (hP:P (N+7) x Lh) (H:Sx M w0 w (MOe q m++(Lh++L))) (hm:m.Ok) (hW:q.Wv.length=7)
 (h1:∀c m' x' Lh' q',MD.cls step m x=some (c,m',x')→c<65→m'.Ok→P N x' Lh'→q'.bm=q.bm→q'.Wv.length=7→∀w',Sx M w0 w' (MOe q' m'++(Lh'++L))→R (.returned (.tuple #[.int .i64 (c:Int),.int .i64 0])) w')
 (h2:MD.cls step m x=none→∀w' (er:Int),er≠0→Fr M w0 w'→R (.returned (.tuple #[.int .i64 0,.int .i64 er])) w'):
 Calls prog n_model_model_class #[.pointer (some (A0 bm)),.func (.func g) f k] w R:=by
 subst hbm
 refine S_model_model_class ?_
 unfold F_model_model_class
 refine⟨fun mm y z w1=>∃(d i:Nat) (m1:MD) (x1:σ) (Lh1:List En) (q1:MQ),y=(i:Int)∧z=(d:Int)∧mm+d=7∧2^d≤i∧i<2*2^d∧m1.Ok∧P (N+mm) x1 Lh1∧q1.bm=q.bm∧q1.Wv.length=7∧
  MD.walk step mm i m1 x1=MD.walk step 7 1 m x∧Sx M w0 w1 (MOe q1 m1++(Lh1++L)),⟨7,0,1,m,x,Lh,q,rfl,rfl,rfl,by decide,by decide,hm,hP,rfl,hW,rfl,H⟩,?_⟩
 rintro mm y z w1 ⟨d,i,m1,x1,Lh1,q1,rfl,rfl,hmd,hi1,hi2,hm1,hP1,hq1,hW1,hwk,H⟩
 refine bif_i (fun hlt=>?_) fun hge=>?_
 · have hd:d<7:=by have:=of_decide_eq_true hlt;omega
   have hp6:2^d≤2^6:=Nat.pow_le_pow_right (by decide) (by omega)
   have e6:(2:Nat)^6=64:=by decide
   obtain⟨mm',rfl⟩:∃mm',mm=mm'+1:=⟨mm-1,by omega⟩
   have hd6:6-mm'=d:=by omega
   rw [MD.walk,hd6]at hwk
   refine T_model_bit how hg (d:=d) (i:=i) (N:=N+mm') hq1 hP1 H hm1 hW1 hd (by omega) (fun t x' Lh' q' hst hP' hq' hW' w2 H=>⟨_,_,rfl,bif_f rfl ?_⟩) fun hst w2 er her hf=>⟨_,_,rfl,bif_t (by simpa using her) (h2 ?_ w2 er her hf)⟩
   · rw [hst]at hwk
     have e1:W64 ((2:Int)*(i:Int))=((2*i:Nat):Int):=W64_idn (by omega) (by omega)
     have hb:b2n t≤1:=by unfold b2n;split<;>omega
     have e2:W64 (((2*i:Nat):Int)+((b2n t:Nat):Int))=((2*i+b2n t:Nat):Int):=W64_idn (by omega) (by omega)
     rw [e1,e2]
     refine⟨mm',by omega,d+1,2*i+b2n t,_,x',Lh',q',rfl,W64_succ (by omega),by omega,by rw [Nat.pow_succ];omega,by rw [Nat.pow_succ];omega,MD.learn_ok hm1 hd t,hP',hq'.trans hq1,hW',hwk,H⟩
   · rw [hst]at hwk
     simp only at hwk
     rw [MD.cls,←hwk]
 · have hd:d=7:=by have:=of_decide_eq_false hge;omega
   obtain rfl:mm=0:=by omega
   have e7:(2:Nat)^7=128:=by decide
   rw [hd,e7]at hi1 hi2
   rw [MD.walk]at hwk
   have hcls:MD.cls step m x=if i-128<65 then some (i-128,m1.came (i-128),x1)else none:=by rw [MD.cls,←hwk]
   have e1:W64 ((i:Int)-128)=((i-128:Nat):Int):=W64_idn (by omega) (by omega)
   rw [e1]
   generalize hcv:i-128=cv at*
   refine bif_i (fun hbig=>?_) fun hsm=>?_
   · have hbig:¬cv<65:=by have:=of_decide_eq_true hbig;omega
     rw [if_neg hbig]at hcls
     exact h2 hcls w1 3 (by decide) H.fr
   · have hsm:cv<65:=by have:=of_decide_eq_false hsm;omega
     rw [if_pos hsm]at hcls
     have hW':(q1.Wv.map wV).length=7:=by rw [List.length_map,hW1]
     rw [←hq1]
     refine OSome.i ⟨_,by rw [A0_add];exact Sx.cell H 0 rfl (modC_a rfl hW'),OSome.i ?_⟩
     rw [A0_add]
     refine Sx.sto H 0 rfl (by rw [modC_size rfl hW'];omega) fun w3 _ H=>OSome.i ?_
     rw [A0_add]
     rw [modC_seta rfl hW']at H
     refine Sx.sto H 0 rfl (by rw [modC_size rfl hW'];omega) fun w4 _ H=>?_
     rw [modC_setb rfl hW']at H
     exact h1 cv _ x1 Lh1 q1 hcls hsm (MD.came_ok hm1 hsm) hP1 hq1 hW1 w4 H
def DP (b:Nat) (s:List UInt8) (n:Nat) (x:CS) (Lh:List En):Prop:=
 ∃at_ v V0:Nat,at_≤s.length∧at_≤x.k∧x.V=V0*256^(x.k-at_)∧v+V0=nbe (s.take at_)∧(v+1)*256^(x.k-at_)≤1099511627776∧x.Ok∧x.k≤s.length+5∧Lh= [.ob b (.cells (decC s at_ x.k v x.R false) t_chance_Decoder (0,0))]
theorem DP.ds {b n:Nat} {s:List UInt8} {x:CS} {Lh:List En} (h:DP b s n x Lh) (H:Sx M w0 w (Lh++L)):DS M w0 w L b s x∧x.Ok∧x.k≤s.length+5:=by
 obtain⟨at_,v,V0,a1,a2,a3,a4,a5,a6,a7,rfl⟩:=h
 exact⟨⟨at_,v,V0,a1,a2,a3,a4,a5,H⟩,a6,a7⟩
theorem DS.dp {b:Nat} {s:List UInt8} {x:CS} (H:DS M w0 w L b s x) (hx:x.Ok) (hk:x.k≤s.length+5) (n:Nat):∃Lh,DP b s n x Lh∧Sx M w0 w (Lh++L):=by
 obtain⟨at_,v,V0,a1,a2,a3,a4,a5,H⟩:=H
 exact⟨_,⟨at_,v,V0,a1,a2,a3,a4,a5,hx,hk,rfl⟩,H⟩
theorem tellBit_k {s:List UInt8} {x x':CS} {p:Nat} {t:Bool} (h:x.tellBit s p=some (t,x')):x.k≤s.length:=by
 unfold CS.tellBit at h
 cases hd:x.ahead s with
 |none=>rw [hd]at h;cases h
 |some d=>exact(CS.ahead_some hd).1
theorem how_get (b:Nat) (s:List UInt8) (hs:s.length≤140737488355328):HowB n_chance_Decoder_Bit #[.pointer (some (A0 b))] #[] (DP b s) (getStep s):=by
 intro M w0 w L R x Lh p n hP H hp h1 h2
 obtain⟨hd,hx,hk⟩:=hP.ds H
 refine T_chance_Decoder_Bit (p:=p) hd hx hs (by omega) (by omega) (fun t x' ht w' H=>?_) fun ht w' er her hf=>h2 ht w' er her hf
 obtain⟨_,o1,o2⟩:=tellBit_ok hx ht
 have:=tellBit_k ht
 obtain⟨Lh',hP',H⟩:=H.dp o1 (by omega) n
 exact h1 t x' Lh' ht hP' w' H
def TP (bt be:Nat) (n:Nat) (y:List Bool×CS) (Lh:List En):Prop:=
 ∃(g k q j:Nat) (p:Option Addr) (all:List Bool) (ea:Option Addr) (en ec:Nat),Lh= [.ob bt (.cells #[.slice p y.1.length q,.func (.func n_chance_Encoder_Bit) #[.pointer (some (A0 be))] #[]] t_model_told (0,0)),.ow t_int 1 (some (A0 g)) all.length k (i64s (bitI all)),
  .ob be (.cells #[.slice ea en ec,.int .u64 (y.2.low:Int),.int .u64 (y.2.R:Int)] t_chance_Encoder (0,0)),.ow t_uint8 1 ea en ec (u8s y.2.done)]∧
  all.drop j=y.1∧(y.1≠ []→p=some ⟨g,j,none⟩)∧y.1.length≤q∧y.1.length=n∧y.2.Ok∧y.2.k+3*n≤100000000
theorem how_put (bt be:Nat):HowB n_model_told_next #[.pointer (some (A0 bt))] #[] (TP bt be) putStep:=by
 intro M w0 w L R y Lh av n hP H hp h1 h2
 obtain⟨g,k,q,j,p,all,ea,en,ec,rfl,hdrop,hpa,hq,hn,hx,hk⟩:=hP
 obtain⟨bs,x⟩:=y
 simp only at hdrop hpa hq hn hx hk
 cases bs with
 |nil=>simp at hn
 |cons b bs=>
  obtain rfl:=hpa (by simp)
  have hj:all[j]? =some b:=by
   have:(all.drop j)[0]? =some b:=by rw [hdrop];rfl
   rwa [List.getElem?_drop]at this
  have hget:(i64s (bitI all))[j]? =some (.int .i64 ((b2n b:Nat):Int)):=by
   refine i64s_get ?_
   simp [bitI,hj]
  simp only [List.length_cons]at hn hq
  show Calls prog n_model_told_next #[.pointer (some (A0 bt)),.int .i64 (av:Int)] w R
  refine S_model_told_next ?_
  unfold F_model_told_next
  have hcell:w.cell? ⟨g,j,none⟩=some (.int .i64 ((b2n b:Nat):Int)):=by
   obtain⟨p',hp',hc⟩:=(Sx.slw H 1 rfl) j _ hget
   cases hp'
   rwa [A0_add]at hc
  refine OSome.i ⟨_,_,_,Sx.cell H 0 rfl rfl,by decide,by simp only [List.length_cons];omega,OSome.i ⟨_,by rw [show Int.toNat (0:Int)*1=0 from rfl,add_lit];exact hcell,OSome.i ⟨_,_,_,Sx.cell H 0 rfl rfl,by decide,by simp only [List.length_cons];omega,OSome.i ?_⟩⟩⟩
  refine Sx.sto H 0 rfl (by simp) fun w1 _ H=>OSome.i ⟨_,_,_,by rw [A0_add];exact Sx.cell H 0 rfl rfl,?_⟩
  show Calls prog n_chance_Encoder_Bit #[.pointer (some (A0 be)),.int .i64 (av:Int),.int .i64 ((b2n b:Nat):Int)] w1 _
  have Hp:=H.perm (permMid [_,_] [_,_] L)
  refine T_chance_Encoder_Bit (x:=x) (p:=av) (t:=b) ⟨ea,en,ec,Hp⟩ hx (by omega) (by omega) fun w2 H=>⟨rfl,?_⟩
  obtain⟨ea',en',ec',H⟩:=H
  have H:=H.perm (permMid [_,_] [_,_] L)
  refine h1 b (bs,x.bit av b) _ rfl ⟨g,k,q-1,j+1,sA (some ⟨g,j,none⟩) 1 1 q,all,ea',en',ec',rfl,?_,?_,by show bs.length≤q-1;omega,by show bs.length=n;omega,CS.bit_ok hx _ _,?_⟩ w2 ?_
  · show all.drop (j+1)=bs
    rw [←List.drop_drop,hdrop];rfl
  · intro hne
    have:bs.length≠0:=fun e=>hne (List.length_eq_zero_iff.1 e)
    unfold sA
    rw [if_neg (by omega)]
    simp
  · have:=bit_k x av b
    show(x.bit av b).k+3*n≤_
    omega
  · exact H
def eE (be:Nat) (x:CS) (ea:Option Addr) (en ec:Nat):List En:= [.ob be (.cells #[.slice ea en ec,.int .u64 (x.low:Int),.int .u64 (x.R:Int)] t_chance_Encoder (0,0)),.ow t_uint8 1 ea en ec (u8s x.done)]
theorem T_model_forth {R:Ending→World→Prop} {q:MQ} {m:MD} {be c bm:Nat} {x:CS} {ea:Option Addr} {en ec:Nat} (hbm:q.bm=bm) (H:Sx M w0 w (MOe q m++(eE be x ea en ec++L)))
 (hm:m.Ok) (hW:q.Wv.length=7) (hx:x.Ok) (hk:x.k≤50000000) (hc:c<65)
 (h:∀m' x' q' ea' en' ec',MD.cls putStep m (cbits c,x)=some (c,m',([],x'))→m'.Ok→x'.Ok→x'.k≤100000000→q'.bm=q.bm→q'.Wv.length=7→∀w',Sx M w0 w' (MOe q' m'++(eE be x' ea' en' ec'++L))→R (.returned (.tuple #[])) w'):
 Calls prog n_model_model_forth #[.pointer (some (A0 bm)),.int .i64 (c:Int),.func (.func n_chance_Encoder_Bit) #[.pointer (some (A0 be))] #[]] w R:=by
 obtain⟨mc,xc,hcls,hxc,hmc⟩:=cls_put hm hx hc
 have h7:=cbits_len c
 refine S_model_model_forth ?_
 unfold F_model_model_forth
 refine(T_tree_Nodes c hc w).mono ?_
 rintro e w1 ⟨a,n,k,a',n',k',rfl,Hc⟩
 have hn':=Hc.len 0 rfl
 have hlen7:(i64s (bitI (cbits c))).length=7:=by simp [bitI,cbits]
 rw [hlen7]at hn'
 have hcap:=Hc.cap 0 rfl
 have H:=H.join Hc
 refine⟨_,_,_,_,_,_,rfl,Sx.alloc H fun w2 bt _ H=>?_⟩
 obtain⟨p,rfl⟩:∃p,a'=some p:=by
  cases a' with
  |none=>have:=(Sx.none Hc 0 rfl).1;omega
  |some p=>exact⟨p,rfl⟩
 obtain⟨gb,rfl⟩:∃gb,p=A0 gb:=by
  rcases(Hc.get 0 rfl).1.2 with⟨hv,h0⟩|⟨g,cap,cur,hv,_⟩
  · cases hv
  · cases hv;exact⟨g,rfl⟩
 obtain rfl:n'=7:=by omega
 have H0:=H.perm (show List.Perm (_::_::(MOe q m++(eE be x ea en ec++L))) _ from permMid [_,_] (MOe q m) _)
 refine T_model_class (how_put bt be) (by decide+kernel) (N:=0) (x:=(cbits c,x)) (Lh:= [.ob bt (.cells #[.slice (some (A0 gb)) 7 k',.func (.func n_chance_Encoder_Bit) #[.pointer (some (A0 be))] #[]] t_model_told (0,0)),.ow t_int 1 (some (A0 gb)) 7 k' (i64s (bitI (cbits c)))]++eE be x ea en ec) hbm
  ⟨gb,k',k',0,some (A0 gb),cbits c,ea,en,ec,by rw [show((cbits c,x):List Bool×CS).1.length=7 from h7];rfl,rfl,fun _=>rfl,by rw [show((cbits c,x):List Bool×CS).1.length=7 from h7];exact hcap,h7,hx,by show x.k+3*7≤_;omega⟩ H0 hm hW (fun c' m' y' Lh' q' hcl hc65 hm' hP' hq' hW' w3 H=>⟨_,_,rfl,?_⟩) fun hcl w3 er her hf=>?_
 · rw [hcls]at hcl
   simp only [Option.some.injEq,Prod.mk.injEq]at hcl
   obtain⟨rfl,rfl,rfl⟩:=hcl
   obtain⟨g,k,q2,j,p,all,ea',en',ec',rfl,_,_,_,_,hx',hk'⟩:=hP'
   have H2:=Sx.sub H (show List.Sublist (MOe q' mc++(eE be xc ea' en' ec'++L)) _ from(List.Sublist.refl (MOe q' mc)).append (((List.sublist_cons_self _ _).trans (List.sublist_cons_self _ _)).append (List.Sublist.refl L)))
   exact h mc xc q' ea' en' ec' hcls hm' hx' (by simpa using hk') hq' hW' w3 H2
 · rw [hcls]at hcl;cases hcl
def putAll:List Pt→MD→CS→Option (MD×CS)
 | [],m,x=>some (m,x)
 |p::ps,m,x=>(putOne p m x).bind fun r=>putAll ps r.1 r.2
theorem putAll_put:∀(ps:List Pt) (m:MD) (x:CS),modelPut ps m x=(putAll ps m x).map (·.2)
 | [],m,x=>rfl
 |p::ps,m,x=>by
  rw [modelPut,putAll]
  cases putOne p m x with
  |none=>rfl
  |some r=>exact putAll_put ps r.1 r.2
theorem putAll_nil (m:MD) (x:CS):putAll [] m x=some (m,x):=rfl
theorem putAll_cons (p:Pt) (ps:List Pt) (m:MD) (x:CS):putAll (p::ps) m x=(putOne p m x).bind fun r=>putAll ps r.1 r.2:=rfl
theorem bind_eta {α β:Type} (o:Option (α×β)):(o.bind fun r=>some (r.1,r.2))=o:=by cases o<;>rfl
theorem putAll_snoc (p:Pt) (ps:List Pt):∀(m:MD) (x:CS),putAll (ps++ [p]) m x=(putAll ps m x).bind fun r=>putOne p r.1 r.2:=by
 induction ps with
 |nil=>
  intro m x
  rw [List.nil_append,putAll_cons,putAll_nil,Option.bind_some]
  exact bind_eta _
 |cons q ps ih=>
  intro m x
  rw [List.cons_append,putAll_cons,putAll_cons,Option.bind_assoc]
  congr 1
  funext r
  exact ih r.1 r.2
end Go.Proofs.Tryz
namespace Go.Proofs.Tryz
open Go Go.RowKit Go.Proofs.VC
variable {M:List Nat} {w0 w:World} {L:List En}
theorem Sx.cellM (H:Sx M w0 w L) {b i:Nat} {c:Array Value} {t:TypeId} {f:Nat×Nat} {v:Value} (hm:En.ob b (.cells c t f)∈L) (hi:c[i]? =some v):w.cell? ⟨b,i,none⟩=some v:=by
 obtain⟨j,hj⟩:=List.mem_iff_getElem?.1 hm
 exact Sx.cell H j hj hi
theorem permE {q:MQ} {m:MD} {E L:List En}:(MOe q m++(E++L)).Perm (E++(MOe q m++L)):=permMid _ _ _
theorem T_model_Put (a:Option Addr) (n c:Nat) (ps:List Pt) (w:World) (hn:n=ps.length) (hs:Sl w a (pts ps)) (hl:ps.length≤4096) (hok:∀p∈ps,OkPt p):
 Calls prog n_model_Put #[.slice a n c] w fun e w'=>e= .returned (.tuple #[.string (S (modelB ps)),.int .i64 0])∧Fr [] w w':=by
 subst hn
 refine S_model_Put ?_
 unfold F_model_Put
 refine T_model_made (Sx.start [] w) fun w1 q hW H=>⟨_,rfl,?_⟩
 refine T_chance_New H fun w2 be H=>⟨_,rfl,?_⟩
 obtain⟨ea,en,ec,H⟩:=H
 have H:Sx [] w w2 (eE be CS.new ea en ec++(MOe q MD.new++ [])):=H
 have H:=H.perm permE.symm
 obtain⟨bm,hbm⟩:∃bm,q.bm=bm:=⟨_,rfl⟩
 rw [hbm]
 refine⟨fun mm y w3=>∃(i:Nat) (m:MD) (x:CS) (q:MQ) (ea:Option Addr) (en ec:Nat),y=(i:Int)∧mm+i=ps.length∧putAll (ps.take i) MD.new CS.new=some (m,x)∧m.Ok∧x.Ok∧q.bm=bm∧q.Wv.length=7∧Sx [] w w3 (MOe q m++(eE be x ea en ec++ [])),
  ⟨ps.length,0,MD.new,CS.new,q,ea,en,ec,rfl,rfl,rfl,MD.new_ok,CS.new_ok,hbm,hW,H⟩,?_⟩
 clear H hW hbm
 rintro mm y w3 ⟨i,m,x,q,ea,en,ec,rfl,hmi,hput,hm,hx,hbm,hW,H⟩
 have hxk:x.k≤15*i+6:=by
  have h1:modelPut (ps.take i) MD.new CS.new=some x:=by rw [putAll_put,hput];rfl
  have:=modelB_len (ps:=ps.take i) fun p hp=>hok p (List.mem_of_mem_take hp)
  rw [modelB,h1,List.length_take]at this
  simp only [CS.bytes,beN_len]at this
  omega
 refine bif_i (fun h=>?_) (fun h=>?_)
 · have hi:i<ps.length:=by have:=of_decide_eq_true h;omega
   obtain⟨p,hp,hc1,hc2⟩:=read2 hs (List.getElem?_eq_getElem hi)
   have hok1:=hok _ (List.getElem_mem hi)
   have hlt:=okPt_lt hok1
   have htk:ps.take (i+1)=ps.take i++ [ps[i]]:=List.take_succ_eq_append_getElem hi
   have hnext:∀m' x',putOne ps[i] m x=some (m',x')→putAll (ps.take (i+1)) MD.new CS.new=some (m',x'):=fun m' x' h=>by
    rw [htk,putAll_snoc,hput,Option.bind_some,h]
   refine⟨by omega,by omega,⟨p,hp,_,_,⟨by rw [add_zero',Int.toNat_natCast];exact H.fr.cell0 hc1,by rw [add_add,Int.toNat_natCast];exact H.fr.cell0 hc2,trivial⟩,?_⟩⟩
   generalize ps[i]=pt at*
   refine H.alloc fun w4 b7 _ H=>H.sto 0 rfl (by simp) fun w5 _ H=>?_
   rw [A0_add]
   refine Sx.sto H 0 rfl (by simp) fun w6 _ H=>⟨_,_,Sx.ld H 0 rfl,?_⟩
   refine(T_zig_Join pt (by omega) hlt.2 w6).mono ?_
   rintro e w7 ⟨rfl,hf7⟩
   have H:Sx [] w w7 (.ob b7 (.cells #[.int .i64 (pt.1:Int),.int .u64 (pt.2:Int)] t_api_Part (0,0))::(MOe q m++(eE be x ea en ec++ []))):=Sx.call0 H hf7
   have hj:joinP pt=some (if pt.1=0 then 0 else backN (2^(pt.1-1)+pt.2)):=by rw [joinP,if_pos hok1]
   rw [hj]
   refine⟨_,_,rfl,bif_f rfl ⟨_,Sx.cell H 0 rfl rfl,?_⟩⟩
   have H:=H.perm (permMid [.ob b7 (.cells #[.int .i64 (pt.1:Int),.int .u64 (pt.2:Int)] t_api_Part (0,0))] (MOe q m) (eE be x ea en ec++ []))
   have H:=H.perm ((permMid [.ob b7 (.cells #[.int .i64 (pt.1:Int),.int .u64 (pt.2:Int)] t_api_Part (0,0))] (eE be x ea en ec) []).append_left (MOe q m))
   refine T_model_forth hbm H hm hW hx (by omega) (by omega) fun m' x' q' ea' en' ec' hcls hm' hx' hk' hq' hW' w8 H=>⟨rfl,?_⟩
   have hone:putOne pt m x=some (m',CS.direct pt.2 (pt.1-1) x'):=by rw [putOne,hcls];rfl
   have hmem:En.ob b7 (.cells #[.int .i64 (pt.1:Int),.int .u64 (pt.2:Int)] t_api_Part (0,0))∈MOe q' m'++(eE be x' ea' en' ec'++([.ob b7 (.cells #[.int .i64 (pt.1:Int),.int .u64 (pt.2:Int)] t_api_Part (0,0))]++ [])):=
    List.mem_append_right _ (List.mem_append_right _ (by simp))
   refine⟨_,Sx.cellM H hmem rfl,_,Sx.cellM H hmem rfl,?_⟩
   have hz:(if (if (64:Int)<W64 ((pt.1:Int)-1)then(64:Int)else W64 ((pt.1:Int)-1))>(0:Int)then(if (64:Int)<W64 ((pt.1:Int)-1)then(64:Int)else W64 ((pt.1:Int)-1))else(0:Int))=((pt.1-1:Nat):Int):=by
    rw [W64_id _ (by omega) (by omega)];split<;>split<;>omega
   have H:=H.perm permE
   have HE:ES [] w w8 (MOe q' m'++([.ob b7 (.cells #[.int .i64 (pt.1:Int),.int .u64 (pt.2:Int)] t_api_Part (0,0))]++ [])) be x':=⟨ea',en',ec',H⟩
   refine T_chance_Encoder_Direct (v:=pt.2) (n:=pt.1-1) HE hx' hk' hlt.2 (by omega) hz fun w9 H=>⟨rfl,mm-1,by omega,i+1,m',CS.direct pt.2 (pt.1-1) x',q',?_⟩
   obtain⟨ea2,en2,ec2,H⟩:=H
   refine⟨ea2,en2,ec2,W64_succ (by omega),by omega,hnext _ _ hone,hm',CS.direct_ok _ hx',hq'.trans hbm,hW',?_⟩
   have H:Sx [] w w9 (eE be (CS.direct pt.2 (pt.1-1) x') ea2 en2 ec2++(MOe q' m'++([.ob b7 (.cells #[.int .i64 (pt.1:Int),.int .u64 (pt.2:Int)] t_api_Part (0,0))]++ []))):=H
   have H:=H.perm permE.symm
   exact H.sub ((List.Sublist.refl _).append ((List.Sublist.refl _).append (List.sublist_append_right _ _)))
 · have hi:i=ps.length:=by have:=of_decide_eq_false h;omega
   subst hi
   rw [List.take_of_length_le (Nat.le_refl _)]at hput
   have hB:modelB ps=x.bytes:=by
    rw [modelB,putAll_put,hput];rfl
   have H:=H.perm permE
   refine T_chance_Encoder_Bytes (x:=x) ⟨ea,en,ec,H⟩ hx.k5 (by omega) fun w4 H=>⟨_,rfl,?_⟩
   obtain⟨ea2,en2,ec2,H⟩:=H
   rw [hB]
   exact⟨rfl,H.fr⟩
theorem modelGet_succ (s:List UInt8) (n:Nat) (m:MD) (x:CS):modelGet s (n+1) m x=(getOne s m x).bind fun r=>(modelGet s n r.2.1 r.2.2).map fun t=>(r.1::t.1,t.2):=rfl
theorem modelGet_zero (s:List UInt8) (m:MD) (x:CS):modelGet s 0 m x=some ([],x):=rfl
theorem tellHalf_k {s:List UInt8} {x x':CS} {t:Bool} (h:x.tellHalf s=some (t,x')):x.k≤s.length:=by
 unfold CS.tellHalf at h
 cases hd:x.ahead s with
 |none=>rw [hd]at h;cases h
 |some d=>exact(CS.ahead_some hd).1
theorem tellDirect_k {s:List UInt8}:∀(i v:Nat) {x x':CS} {v':Nat},x.Ok→x.k≤s.length+5→CS.tellDirect s i v x=some (v',x')→x'.k≤s.length+5
 |0,v,x,x',v',hx,hk,h=>by
  rw [CS.tellDirect]at h
  obtain⟨rfl,rfl⟩:=Prod.mk.inj (Option.some.inj h)
  exact hk
 |i+1,v,x,x',v',hx,hk,h=>by
  rw [CS.tellDirect]at h
  cases ht:x.tellHalf s with
  |none=>rw [ht]at h;cases h
  |some r=>
   obtain⟨t,x1⟩:=r
   rw [ht]at h
   simp only at h
   obtain⟨_,h1,h2⟩:=tellHalf_ok hx ht
   have:=tellHalf_k ht
   exact tellDirect_k i _ h1 (by omega) h
theorem T_model_Get (s:List UInt8) (N:Nat) (w:World) (hs:s.length≤140737488355328) (hN:N≤4096):Calls prog n_model_Get #[.string (S s),.int .i64 (N:Int)] w fun e w'=>
 (modelR N s=none∧∃er:Int,er≠0∧e= .returned (.tuple #[.slice none 0 0,.int .i64 er])∧Fr [] w w')∨
 (∃ps a n c,modelR N s=some ps∧e= .returned (.tuple #[.slice a n c,.int .i64 0])∧n=ps.length∧ps.length=N∧(∀p∈ps,OkPt p)∧Sx [] w w' [.ow t_api_Part 2 a n c (pts ps)]):=by
 refine S_model_Get ?_
 unfold F_model_Get
 intro J hJ
 refine bif_f (decide_eq_false (by omega)) (bif_f (decide_eq_false (by omega)) (hJ w ?_))
 refine T_model_made (Sx.start [] w) fun w1 q hW H=>⟨_,rfl,?_⟩
 refine T_chance_From s H fun w2 b HD=>⟨_,rfl,?_⟩
 obtain⟨Lh,hP,H⟩:=HD.dp CS.new_ok (by show 5≤_;omega) 0
 obtain⟨bm,hbm⟩:∃bm,q.bm=bm:=⟨_,rfl⟩
 rw [hbm]
 have hb5:CS.new.Ok:=CS.new_ok
 have H:=Sx.nilw H t_api_Part 2
 have H:=H.perm (show List.Perm _ (MOe q MD.new++(Lh++ [.ow t_api_Part 2 none 0 0 (pts [])]))from
  (permMid [_] Lh (MOe q MD.new++ [])).trans (((permMid [_] (MOe q MD.new) []).append_left Lh).trans (permMid Lh (MOe q MD.new) _)))
 refine⟨fun mm a n c y w4=>∃(i:Nat) (acc:List Pt) (m:MD) (x:CS) (q:MQ) (Lh:List En),y=(i:Int)∧mm+i=N∧n=acc.length∧acc.length=i∧(∀p∈acc,OkPt p)∧m.Ok∧DP b s 0 x Lh∧q.bm=bm∧q.Wv.length=7∧
  modelGet s N MD.new CS.new=(modelGet s mm m x).map (fun r=>(acc++r.1,r.2))∧Sx [] w w4 (MOe q m++(Lh++ [.ow t_api_Part 2 a n c (pts acc)])),
  ⟨N,0,[],MD.new,CS.new,q,Lh,rfl,rfl,rfl,rfl,by simp,MD.new_ok,hP,hbm,hW,by simp,H⟩,?_⟩
 clear H hW hbm hP HD
 rintro mm a n c y w4 ⟨i,acc,m,x,q,Lh,rfl,hmi,rfl,hai,hok,hm,hP,hbm,hW,he,H⟩
 have hPb:=hP
 obtain⟨_,_,_,_,_,_,_,_,hx,hxk,_⟩:=hPb
 refine bif_i (fun h=>?_) fun h=>?_
 · have hi:i<N:=by have:=of_decide_eq_true h;omega
   obtain⟨mm',rfl⟩:∃mm',mm=mm'+1:=⟨mm-1,by omega⟩
   rw [modelGet_succ]at he
   have hno:getOne s m x=none→modelR N s=none:=fun hg=>by
    rw [hg]at he
    rw [modelR,he];rfl
   refine T_model_class (how_get b s hs) (by decide+kernel) (N:=0) (x:=x) hbm hP H hm hW (fun cl m' x' Lh' q' hcl hc65 hm' hP' hq' hW' w5 H=>⟨_,_,rfl,bif_f rfl ?_⟩) fun hcl w5 er her hf=>⟨_,_,rfl,bif_t (by simpa using her) (.inl ⟨hno (by rw [getOne,hcl];rfl),er,her,rfl,hf⟩)⟩
   have hz:(if (if (64:Int)<W64 ((cl:Int)-1)then(64:Int)else W64 ((cl:Int)-1))>(0:Int)then(if (64:Int)<W64 ((cl:Int)-1)then(64:Int)else W64 ((cl:Int)-1))else(0:Int))=((cl-1:Nat):Int):=by
    rw [W64_id _ (by omega) (by omega)];split<;>split<;>omega
   have H:=H.perm permE
   obtain⟨HD,hx',hxk'⟩:=hP'.ds H
   refine T_chance_Decoder_Direct (n:=cl-1) HD hx' hs (by omega) (by omega) hz (fun v x2 ht w6 HD=>⟨_,_,rfl,bif_f rfl ?_⟩) fun ht w6 er her hf=>⟨_,_,rfl,bif_t (by simpa using her) (.inl ⟨hno (by rw [getOne,hcl,Option.bind_some,ht];rfl),er,her,rfl,hf⟩)⟩
   obtain⟨hx2,_,hv⟩:=tellDirect_ok _ _ hx' ht
   have hx2k:=tellDirect_k _ _ hx' hxk' ht
   rw [Nat.zero_add,Nat.one_mul]at hv
   have hone:getOne s m x=some ((cl,v),m',x2):=by rw [getOne,hcl,Option.bind_some,ht];rfl
   rw [hone,Option.bind_some]at he
   have hokv:OkPt (cl,v):=by
    rcases Nat.eq_zero_or_pos cl with h0|h0
    · subst h0
      exact .inl ⟨rfl,by simp at hv ⊢;exact hv⟩
    · exact .inr ⟨h0,by show cl≤64;omega,hv⟩
   obtain⟨Lh2,hP2,H⟩:=HD.dp hx2 hx2k 0
   have H:=H.perm permE.symm
   have H:Sx [] w w6 (MOe q' m'++(Lh2++([.ow t_api_Part 2 a acc.length c (pts acc)]++ []))):=H
   rw [←List.append_assoc]at H
   have H:=H.perm (permMid (MOe q' m'++Lh2) [.ow t_api_Part 2 a acc.length c (pts acc)] [])
   refine H.alloc fun w7 b50 _ H=>?_
   refine app_Part (v:=(cl,v)) H (j:=0) rfl (by omega) fun a3 c3 w8 H=>⟨mm',by omega,i+1,acc++ [(cl,v)],m',x2,q',Lh2,W64_succ (by omega),by omega,by simp,by simp;omega,?_,hm',hP2,hq'.trans hbm,hW',?_,?_⟩
   · intro p hp
     rcases List.mem_append.1 hp with hp|hp
     · exact hok p hp
     · rw [List.mem_singleton.1 hp];exact hokv
   · rw [he,Option.map_map]
     congr 1
     funext r
     simp
   · have H:Sx [] w w8 ([.ow t_api_Part 2 a3 (acc.length+1) c3 (pts (acc++ [(cl,v)]))]++((MOe q' m'++Lh2)++ [])):=H
     have H:=H.perm (permMid _ _ _)
     rw [List.append_assoc]at H
     exact H
 · have hi:i=N:=by have:=of_decide_eq_false h;omega
   subst hi
   obtain rfl:mm=0:=by omega
   rw [modelGet_zero,Option.map_some,List.append_nil]at he
   have hR:modelR acc.length s=if CS.ends s x=true then some acc else none:=by rw [modelR,hai,he]
   rw [hai]at hR
   have H:=H.perm permE
   obtain⟨HD,_,_⟩:=hP.ds H
   refine T_chance_Decoder_End HD hx hs (by omega) (fun he w5 H=>⟨_,rfl,bif_f rfl (.inr ⟨acc,a,acc.length,c,by rw [hR,if_pos he],rfl,rfl,hai,hok,?_⟩)⟩) fun he w5 er her hf=>⟨_,rfl,bif_t (by simpa using her) (.inl ⟨by rw [hR,he];rfl,3,by decide,rfl,hf⟩)⟩
   exact H.sub (List.sublist_append_right _ _)
end Go.Proofs.Tryz
namespace Go.Proofs.Tryz
open Go Go.RowKit Go.Proofs.VC
variable {M:List Nat} {w0 w:World} {L:List En}
def loadChances (l:List Int):List UInt8:=modelB (l.map splitN)
def unChances (n:Nat) (s:List UInt8):Option (List Int):=match modelR n s with
 |none=>none
 |some ps=>valuesP ps
theorem parts_ok {l:List Int} (hI:∀v∈l,I64 v):∀q∈l.map splitN,OkPt q:=by
 intro q hq
 obtain⟨v,hv,rfl⟩:=List.mem_map.1 hq
 exact splitN_ok (hI v hv)
theorem T_block_loader_chances (a b c d e:Int) (p:Option Addr) (n k:Nat) (l:List Int) (hI:∀v∈l,I64 v) (w:World) (hs:SlI w p n l) (h2:l.length≤4096):
 Calls prog n_block_loader_chances #[.agg #[.int .i64 a,.int .i64 b,.int .i64 c,.int .i64 d,.int .u64 e,.slice p n k]] w fun x w'=>x= .returned (strE (loadChances l) 0)∧Fr [] w w':=by
 have hok:=parts_ok hI
 have hpl:(l.map splitN).length=l.length:=List.length_map _
 refine S_block_loader_chances ?_
 unfold F_block_loader_chances
 refine(Sx.start [] w).alloc fun w1 b1 hf1 H=>?_
 simp only [A0_add]
 refine⟨_,_,_,H.cell 0 rfl rfl,?_⟩
 refine(T_hist_Parts p n k l hI w1 (hs.fr0 hf1) (by omega)).mono ?_
 rintro x w2 ⟨a2,c2,rfl,hOw,hf2⟩
 have H:=hOw.push H hf2
 refine⟨_,_,_,rfl,?_⟩
 refine(T_model_Put a2 l.length c2 (l.map splitN) w2 hpl.symm (H.slw 0 rfl) (by omega) hok).mono ?_
 rintro x w3 ⟨rfl,hf3⟩
 exact⟨_,_,rfl,rfl,H.fr.trans hf3⟩
theorem T_block_unloader_chances (s:List UInt8) (N:Nat) (w:World) (hs:s.length≤140737488355328) (hN:N≤4096):Calls prog n_block_unloader_chances #[.agg #[.string (S s),.int .i64 (N:Int)]] w
 fun e w'=>∃v,e= .returned v∧SlOk w' v (unChances N s)∧Fr [] w w':=by
 refine S_block_unloader_chances ?_
 unfold F_block_unloader_chances
 refine(Sx.start [] w).alloc fun w1 b1 hf1 H=>⟨_,H.cell 0 rfl rfl,_,by rw [A0_add];exact H.cell 0 rfl rfl,?_⟩
 refine(T_model_Get s N w1 hs hN).mono ?_
 rintro e w2 (⟨hR,er,her,rfl,hf2⟩|⟨ps,a,n,c,hR,rfl,rfl,hpl,hok,Hc⟩)
 · refine⟨_,_,_,_,rfl,bif_t (by simpa using her) ⟨_,rfl,?_,H.fr.trans hf2⟩⟩
   rw [unChances,hR]
   exact⟨_,_,_,rfl⟩
 · have H:=H.join Hc
   refine⟨_,_,_,_,rfl,bif_f rfl ?_⟩
   refine(T_hist_Values a ps.length c ps (fun p hp=>by have:=okPt_lt (hok p hp);exact⟨by omega,this.2⟩) w2 rfl (H.slw 0 rfl) (by omega)).mono ?_
   rintro e w5 ⟨v,rfl,hv,hf5⟩
   have hfr:=H.fr.trans hf5
   have hun:unChances N s=valuesP ps:=by rw [unChances,hR]
   rw [hun]
   cases hvp:valuesP ps with
   |none=>
    rw [hvp]at hv
    obtain⟨x1,x2,x3,rfl⟩:=hv
    exact⟨_,_,_,_,rfl,_,rfl,⟨_,_,_,rfl⟩,hfr⟩
   |some vs=>
    rw [hvp]at hv
    obtain⟨a5,c5,rfl,hsl⟩:=hv
    exact⟨_,_,_,_,rfl,_,rfl,⟨a5,c5,rfl,hsl⟩,hfr⟩
def loadB (way lim log:Nat) (l:List Int):List UInt8:=match way with
 |0=>plainB l
 |1=>loadCodes l lim
 |2=>loadStates l log
 |_=>loadChances l
def unlB (way n:Nat) (s:List UInt8):Option (List Int):=match way with
 |0=>unPlain s (n:Int)
 |1=>unCodes n s
 |2=>unStates n s
 |_=>unChances n s
def unlA (way n:Nat) (s:List UInt8):Option (List Int):=if n≤4096 then unlB way n s else none
theorem loadErr_facts {way a b c d:Int} {n:Nat} (h:loadErr way a b c d n=false):(1≤a∧a≤4096)∧(7≤b∧b≤15)∧(7≤c∧c≤12)∧(0≤d∧d≤4)∧(0≤way∧way≤3)∧1≤n∧n≤4096:=by
 simp only [loadErr,mayB,isWayB,inB,Bool.or_eq_false_iff,Bool.not_eq_false',Bool.and_eq_true,decide_eq_true_eq]at h
 omega
theorem T_loadF (way a d e:Int) (lim log:Nat) (p:Option Addr) (n k:Nat) (l:List Int) (hI:∀v∈l,I64 v) (w:World) (hs:SlI w p n l) (he:loadErr way a lim log d n=false):
 Calls prog (loadF way.toNat) #[.agg #[.int .i64 a,.int .i64 (lim:Int),.int .i64 (log:Int),.int .i64 d,.int .u64 e,.slice p n k]] w fun x w'=>x= .returned (strE (loadB way.toNat lim log l) 0)∧Fr [] w w':=by
 obtain⟨h1,h2,h3,h4,h5,h6,h7⟩:=loadErr_facts he
 have hn:=hs.1
 have hcase:way.toNat=0∨way.toNat=1∨way.toNat=2∨way.toNat=3:=by omega
 rcases hcase with h|h|h|h
 · rw [h];exact T_block_loader_plain a lim log d e p n k l w hs (by omega)
 · rw [h];exact T_block_loader_codes a log d e lim p n k l hI w hs (by omega) (by omega) (by omega)
 · rw [h];exact T_block_loader_states a lim d e log p n k l hI w hs (by omega) (by omega) (by omega)
 · rw [h];exact T_block_loader_chances a lim log d e p n k l hI w hs (by omega)
theorem T_Load (way a d e:Int) (lim log:Nat) (p:Option Addr) (n k:Nat) (l:List Int) (hI:∀v∈l,I64 v) (w:World) (hs:SlI w p n l):
 Calls prog n_block_Load #[.int .i64 way,optV a lim log d e,.slice p n k] w fun x w'=>x= .returned (loadV way a lim log d n (loadB way.toNat lim log l) 0)∧Fr [] w w':=
 T_block_Load way a lim log d e p n k l _ 0 w hs fun he w1 hs1=>T_loadF way a d e lim log p n k l hI w1 hs1 he
theorem T_unlF (way:Nat) (s:List UInt8) (N:Nat) (w:World) (hw:way≤3) (hs:s.length≤140737488355328) (hN:N≤4096):
 Calls prog (unlF way) #[.agg #[.string (S s),.int .i64 (N:Int)]] w fun e w'=>∃v,e= .returned v∧SlOk w' v (unlB way N s)∧Fr [] w w':=by
 have hcase:way=0∨way=1∨way=2∨way=3:=by omega
 rcases hcase with rfl|rfl|rfl|rfl
 · exact T_block_unloader_plain s N hs w
 · exact T_block_unloader_codes s N w hs hN
 · exact T_block_unloader_states s N w hs hN
 · exact T_block_unloader_chances s N w hs hN
theorem loadB_len4 {way lim log:Nat} {l:List Int} (hI:∀v∈l,I64 v) (h1:1≤l.length) (h2:l.length≤4096) (hl:7≤lim∧lim≤15) (hg:7≤log∧log≤12):(loadB way lim log l).length≤16*l.length+404:=by
 have hok:=parts_ok hI
 have hpl:(l.map splitN).length=l.length:=List.length_map _
 have hne:l.map splitN≠ []:=by intro h;rw [h]at hpl;simp at hpl;omega
 unfold loadB
 split
 · rw [plainB_len];omega
 · obtain⟨hm,hcls⟩:=codes_ok hok hne hl
   have e1:=putLens_len _ hm
   have e2:=huffB_len hm hok
   rw [loadCodes,List.length_append,packB_len]
   omega
 · obtain⟨hm,hcls⟩:=counts_ok hok hne hg
   obtain⟨_,h65,hall,_⟩:=mayN_facts hm
   have h12:2^log≤2^12:=Nat.pow_le_pow_right (by decide) hg.2
   have e12:(2:Nat)^12=4096:=by decide
   have e1:=statesB_len hm (ps:=l.map splitN) (by omega) fun q hq=>⟨hok q hq,hcls q hq⟩
   have e2:=normBf_len (countsN (l.map splitN) log).length (countsN (l.map splitN) log) (fun x hx=>by have:=hall x hx;omega) (by omega)
   have e3:(normB (countsN (l.map splitN) log)).length≤6*65:=by rw [h65]at e2;rw [normB,h65];exact e2
   rw [loadStates,List.length_append,List.length_append,List.length_singleton]
   omega
 · have:=modelB_len hok
   rw [loadChances];omega
theorem loadB_len {way lim log:Nat} {l:List Int} (hI:∀v∈l,I64 v) (h1:1≤l.length) (h2:l.length≤4096) (hl:7≤lim∧lim≤15) (hg:7≤log∧log≤12):(loadB way lim log l).length≤16*l.length+1000:=by
 have:=loadB_len4 (way:=way) hI h1 h2 hl hg
 omega
theorem unlB_len {way n:Nat} {s:List UInt8} {ns:List Int} (h:unlB way n s=some ns):ns.length=n:=by
 have key:∀(rd:List Bool→Option (Nat×Nat)) (n:Nat) (B:List Bool) (ps:List Pt) (R:List Bool),partsR rd n B=some (ps,R)→ps.length=n:=by
  intro rd n
  induction n with
  |zero=>intro B ps R e;rw [partsR]at e;cases e;rfl
  |succ n ih=>
   intro B ps R e
   rw [partsR]at e
   split at e
   · cases e
   · simp only [Option.map_eq_some_iff]at e
     obtain⟨x,hx,e⟩:=e
     cases e
     simp [ih _ _ _ hx]
 have keyM:∀(s:List UInt8) (n:Nat) (m:MD) (x:CS) (r:List Pt×CS),modelGet s n m x=some r→r.1.length=n:=by
  intro s n
  induction n with
  |zero=>intro m x r e;rw [modelGet_zero]at e;obtain rfl:=Option.some.inj e;rfl
  |succ n ih=>
   intro m x r e
   rw [modelGet_succ]at e
   cases hg:getOne s m x with
   |none=>rw [hg]at e;cases e
   |some t=>
    rw [hg,Option.bind_some]at e
    obtain⟨u,hu,rfl⟩:=Option.map_eq_some_iff.1 e
    simp [ih _ _ _ hu]
 unfold unlB at h
 split at h
 · exact unl0_len 0 0 n s ns h
 · unfold unCodes at h
   split at h
   · cases h
   · split at h
     · cases h
     · next ps hps=>
       rw [valuesP_len h]
       unfold huffR at hps
       split at hps
       · cases hps
       · next hp=>
         split at hps
         · cases hps;exact key _ _ _ _ _ hp
         · cases hps
 · unfold unStates at h
   split at h
   · cases h
   · split at h
     · cases h
     · split at h
       · cases h
       · next ps hps=>
         rw [valuesP_len h]
         exact statesR_len hps
 · unfold unChances at h
   split at h
   · cases h
   · next ps hps=>
     rw [valuesP_len h]
     unfold modelR at hps
     split at hps
     · cases hps
     · next hg=>
       split at hps
       · cases hps;exact keyM _ _ _ _ _ hg
       · cases hps
theorem T_Put (way a d:Int) (e:Nat) (he:e<WW) (lim log:Nat) (p:Option Addr) (n k:Nat) (l:List Int) (hI:∀v∈l,I64 v) (w:World) (hs:SlI w p n l):
 Calls prog n_block_Put #[.int .i64 way,optV a lim log d (e:Int),.slice p n k] w fun x w'=>x= .returned (putV way a lim log d n (if loadErr way a lim log d n=true then []else loadB way.toNat lim log l) 0 (sumN e (plainB l)))∧Fr [] w w':=by
 refine T_block_Put way a lim log d e he p n k l _ 0 w hs ?_ fun hle w1 hs1=>?_
 · split
   · simp
   · next hle=>
     obtain⟨h1,h2,h3,h4,h5,h6,h7⟩:=loadErr_facts (by simpa using hle)
     have hn:=hs.1
     have:=loadB_len (way:=way.toNat) (lim:=lim) (log:=log) hI (by omega) (by omega) (by omega) (by omega)
     omega
 · rw [if_neg (by rw [hle];simp)]
   exact T_loadF way a d e lim log p n k l hI w1 hs1 hle
theorem T_Get (l:List UInt8) (at_:Int) (seed:Nat) (hseed:seed<WW) (most:Int) (hl:l.length≤140737488355328) (w:World):
 Calls prog n_block_Get #[.string (S l),.int .i64 at_,.int .u64 (seed:Int),.int .i64 most] w fun e w'=>∃v,e= .returned v∧BlkV w' v (blkR l at_ seed most unlA)∧Fr [] w w':=by
 refine T_block_Get l at_ seed hseed most unlA hl w (fun h w1=>?_) fun way n s ns h=>?_
 · obtain⟨h1,h2,h3,h4⟩:=headR_ok h
   have:=T_unlF (headR l at_ most).way ((l.drop (headR l at_ most).next).take (headR l at_ most).size) (headR l at_ most).n w1 h2 (by rw [List.length_take,List.length_drop];omega) h4
   rw [unlA,if_pos h4]
   exact this
 · unfold unlA at h
   split at h
   · rw [unlB_len h];omega
   · cases h
end Go.Proofs.Tryz
namespace Go.Proofs.Tryz
open Go Go.RowKit Go.Proofs.VC
theorem numbers_I64 (ns:List Nat):∀v∈numbers ns,I64 v:=by
 intro v hv
 obtain⟨x,_,rfl⟩:=List.mem_map.1 hv
 exact num1_I64 x
end Go.Proofs.Tryz
namespace Go.Proofs.Tryz
open Go Go.RowKit Go.Proofs.VC
variable {M:List Nat} {w0 w:World} {L:List En}
theorem optA_le (a:Nat):1≤optA a∧optA a≤30:=by unfold optA;omega
theorem optB_le (a:Nat):7≤optB a∧optB a≤15:=by unfold optB;omega
theorem optC_le (a:Nat):7≤optC a∧optC a≤12:=by unfold optC;omega
theorem optD_le (a:Nat):optD a≤4:=by unfold optD;omega
theorem loadErr_opt {way a b c d n:Nat} (hw:way≤3) (h1:1≤n) (h2:n≤4096):loadErr (way:Int) (optA a:Nat) (optB b:Nat) (optC c:Nat) (optD d:Nat) n=false:=by
 have:=optA_le a
 have:=optB_le b
 have:=optC_le c
 have:=optD_le d
 simp only [loadErr,mayB,isWayB,inB,Bool.or_eq_false_iff,Bool.not_eq_false',Bool.and_eq_true,decide_eq_true_eq]
 omega
theorem blockB_len {way n:Nat} {s:List UInt8} {sum:Nat}:(blockB way n s sum).length=1+(vput n).length+(vput s.length).length+s.length+8:=by
 simp only [blockB,headBytes,List.length_append,wput_len,List.length_singleton]
end Go.Proofs.Tryz
namespace Go.Proofs.Tryz
open Go Go.RowKit Go.Proofs.VC
theorem model_more {ps:List Pt} (hp:∀p∈ps,OkPt p) (t:List UInt8) (ht:t≠ []):modelR ps.length (modelB ps++t)=none:=by
 obtain⟨x,h1,h2⟩:=modelPut_ok ps MD.new CS.new MD.new_ok CS.new_ok hp
 have e:modelB ps=x.bytes:=by rw [modelB,h1]
 have h3:=h2.in_
 have h4:=h2.lo
 have h5:=h2.k5
 have hl:x.bytes.length=x.k:=by simp [CS.bytes,beN_len]
 have hn:nbe x.bytes=x.V:=nbe_beN _ _ (by
  obtain⟨j,hj⟩:∃j,x.k=j+1:=⟨x.k-1,by omega⟩
  rw [hj,Nat.add_sub_cancel]at h3
  rw [hj,Nat.pow_succ];omega)
 have hins:x.Ins (x.bytes++t):=by
  refine⟨t.length,by rw [List.length_append,hl],?_,?_⟩
  · rw [nbe_app,hn];omega
  · have:=nbe_lt t
    rw [nbe_app,hn,Nat.add_mul]
    have:256^t.length≤x.R*256^t.length:=Nat.le_mul_of_pos_left _ (by omega)
    omega
 obtain⟨h6,h7⟩:=modelPut_law (s:=x.bytes++t) ps MD.new CS.new MD.new_ok CS.new_ok hp h1 hins
 rw [e,modelR,h7]
 simp only
 rw [if_neg]
 unfold CS.ends
 have hne:(x.k==(x.bytes++t).length)=false:=by
  rw [beq_eq_false_iff_ne,List.length_append,hl]
  intro e
  exact ht (List.length_eq_zero_iff.1 (by omega))
 rw [hne]
 simp
theorem states_more {l:List Nat} {log:Nat} (hm:mayN l log=true) {ps:List Pt} (hn:ps.length≤4096) (hp:∀p∈ps,OkPt p∧l.getD p.1 0≠0) (t:List UInt8):
 statesR l log ps.length (statesB l log ps++t)=if restB (packB (restsB ps)++t) (restsB ps).length=true then some ps else none:=by
 have hlog:=(mayN_facts hm).1
 have hfk:=fwd_ok hm (ps.reverse.map (·.1)) fun c hc=>by
  obtain⟨q,hq,rfl⟩:=List.mem_map.1 hc
  have h1:=hp q (by simpa using hq)
  have:=(okPt_lt h1.1).1
  exact⟨by omega,Nat.pos_of_ne_zero h1.2⟩
 have hlen:(sealN l log ps).length<WW:=by
  have:=sealN_len hm hp
  unfold WW;omega
 have hsl:=sealed_left (toldB ((fwdN l log (ps.reverse.map (·.1))).2++ [((fwdN l log (ps.reverse.map (·.1))).1,log)]))
 have es:sealN l log ps=packB (toldB ((fwdN l log (ps.reverse.map (·.1))).2++ [((fwdN l log (ps.reverse.map (·.1))).1,log)])++ [true]):=rfl
 have hbits:∃X,bitsS (sealN l log ps)=toldB ((fwdN l log (ps.reverse.map (·.1))).2++ [((fwdN l log (ps.reverse.map (·.1))).1,log)])++X:=⟨_,by rw [es,bitsS_packB,List.append_assoc]⟩
 obtain⟨X,hbits⟩:=hbits
 rw [←es]at hsl
 have hb:=backs_is hm (s1:=sealN l log ps) (s2:=packB (restsB ps)++t) (List.replicate (8*(((restsB ps).length+7)/8)-(restsB ps).length) false++bitsS t) ps [] (bitsOf (fwdN l log (ps.reverse.map (·.1))).1 log++X) hp
  (by rw [hbits,toldB_snoc,List.append_assoc]) (by rw [bitsS_app,bitsS_packB];simp [restsB])
 obtain⟨t1,t2,t3⟩:=take_last hbits hfk.1
 generalize fwdN l log (ps.reverse.map (·.1))=S at*
 obtain⟨st,E⟩:=S
 simp only at hsl hb t1 t2 t3
 have hv:=vget_vputw hlen (sealN l log ps++(packB (restsB ps)++t))
 have hst:statesB l log ps++t=vput (sealN l log ps).length++(sealN l log ps++(packB (restsB ps)++t)):=by rw [statesB,List.append_assoc,List.append_assoc]
 have ho:openN (statesB l log ps++t) log=some (sealN l log ps,packB (restsB ps)++t,(toldB E).length,st):=by
  have hd1:(statesB l log ps++t).drop (vput (sealN l log ps).length).length=sealN l log ps++(packB (restsB ps)++t):=by rw [hst,drop_app]
  have hd2:(statesB l log ps++t).drop ((vput (sealN l log ps).length).length+(sealN l log ps).length)=packB (restsB ps)++t:=by rw [←List.drop_drop,hd1,drop_app]
  have hd3:(sealN l log ps++(packB (restsB ps)++t)).take (sealN l log ps).length=sealN l log ps:=by rw [List.take_append_of_le_length (Nat.le_refl _),List.take_of_length_le (Nat.le_refl _)]
  have hlt:¬(statesB l log ps++t).length-(vput (sealN l log ps).length).length<(sealN l log ps).length:=by
   rw [hst];simp only [List.length_append];omega
  unfold openN
  rw [hst,hv,←hst]
  simp only
  rw [if_neg (by simp),if_neg hlt,hd1,hd3,hd2,hsl.1,hsl.2,if_pos rfl,if_pos t1,t3,t2]
 unfold statesR
 rw [ho]
 simp only
 have hb0:(restsB ([]:List Pt)).length=0:=rfl
 rw [hb0,List.nil_append]at hb
 rw [hb]
 simp
theorem restB_long (b:List Bool):restB (packB b++ [0]) b.length=false:=by
 unfold restB
 have:decide (8*(packB b++ [0]).length<b.length+8)=false:=by
  rw [List.length_append,packB_len,List.length_singleton]
  exact decide_eq_false (by omega)
 rw [this];rfl
theorem huff_long {l:List Nat} (h:mayL l=true) {ps:List Pt} (hp:∀p∈ps,OkPt p∧l.getD p.1 0≠0):huffR l ps.length (packB (huffB l ps)++ [0])=none:=by
 unfold huffR
 rw [bitsS_app,bitsS_packB,List.append_assoc,partsR_is h _ ps hp]
 simp only
 rw [if_neg]
 have:(bitsS ([0]:List UInt8)).length=8:=bitsS_len _
 simp only [List.length_append,this,Bool.and_eq_true,decide_eq_true_eq]
 omega
theorem unStates_no {n:Nat} {b:UInt8} {x y:List UInt8} {c:List Nat} (h1:getNorm (x++y) b.toNat= .ok (c,x.length)) (h2:statesR c b.toNat n y=none):unStates n (b::(x++y))=none:=by
 rw [unStates,h1]
 simp only
 rw [drop_app,h2]
theorem unl_long {way lim log:Nat} {l:List Int} (hI:∀v∈l,I64 v) (h1:1≤l.length) (h2:l.length≤4096) (hl:7≤lim∧lim≤15) (hg:7≤log∧log≤12) (hw:way≤3):unlB way l.length (loadB way lim log l++ [0])=none:=by
 have hok:=parts_ok hI
 have hpl:(l.map splitN).length=l.length:=List.length_map _
 have hne:l.map splitN≠ []:=by intro h;rw [h]at hpl;simp at hpl;omega
 have hcase:way=0∨way=1∨way=2∨way=3:=by omega
 rcases hcase with rfl|rfl|rfl|rfl
 · show unPlain (plainB l++ [0]) _=none
   rw [unPlain,if_neg]
   rw [List.length_append,plainB_len,List.length_singleton]
   omega
 · obtain⟨hm,hcls⟩:=codes_ok hok hne hl
   show unCodes l.length (loadCodes l lim++ [0])=none
   rw [unCodes,loadCodes,List.append_assoc,lens_back hm]
   simp only
   rw [drop_app]
   have:=huff_long hm (ps:=l.map splitN) fun p hp=>⟨hok p hp,hcls p hp⟩
   rw [hpl]at this
   rw [this]
 · obtain⟨hm,hcls⟩:=counts_ok hok hne hg
   have hs:=states_more hm (ps:=l.map splitN) (by rw [hpl];exact h2) (fun q hq=>⟨hok q hq,hcls q hq⟩) [0]
   rw [hpl,restB_long]at hs
   have hb:(UInt8.ofNat log).toNat=log:=toNat_ofNat8 (by omega)
   have hn:=norm_back hm (statesB (countsN (l.map splitN) log) log (l.map splitN)++ [0])
   show unStates l.length (loadStates l log++ [0])=none
   unfold loadStates
   rw [List.append_assoc,List.append_assoc,List.singleton_append]
   refine unStates_no (c:=countsN (l.map splitN) log) ?_ ?_
   · rw [hb];exact hn
   · rw [hb];exact hs
 · show unChances l.length (loadChances l++ [0])=none
   have:=model_more hok [0] (by simp)
   rw [hpl]at this
   rw [unChances,loadChances,this]
theorem vgo_cut (r:List UInt8):∀(n i acc j:Nat),n*128^i<WW→i<10→j<(vput n).length→vgo ((vput n++r).take j) i acc=(0,0,2):=by
 intro n
 induction n using Nat.strongRecOn with
 |ind n ih=>
  intro i acc j hn hi hj
  have h9:i=9→n<2:=by
   rintro rfl
   have e9:(128:Nat)^9=9223372036854775808:=by decide
   unfold WW at hn
   omega
  cases j with
  |zero=>rw [List.take_zero,vgo,if_neg (by omega)]
  |succ j=>
   by_cases hlt:n<128
   · rw [vput_lt hlt]at hj;simp at hj
   · rw [vput_ge (by omega)]at hj ⊢
     rw [List.cons_append,List.take_succ_cons,vgo,toNat_ofNat8 (by omega),if_neg (by omega),if_neg (by omega),if_pos (by omega)]
     have hp:n/128*128^(i+1)≤n*128^i:=by
      rw [Nat.pow_succ,Nat.mul_comm (128^i) 128,←Nat.mul_assoc]
      exact Nat.mul_le_mul_right _ (Nat.div_mul_le_self _ _)
     exact ih (n/128) (by omega) (i+1) _ j (by omega) (by omega) (by simpa using hj)
theorem vget_cut {n j:Nat} (r:List UInt8) (h:n<WW) (hj:j<(vput n).length):vgetR ((vput n++r).take j)=(0,0,2):=vgo_cut r n 0 0 j (by simpa using h) (by omega) hj
theorem readR_cut {l:List UInt8} {i:Nat} {g:List UInt8→Nat×Nat×Nat} (hi:i≤l.length) (h:(g (l.drop i)).2.2=2):(readR l (i:Int) g).2.2=2:=by
 rw [readR,if_neg (by omega),Int.toNat_natCast,if_pos (by rw [h];decide)]
 exact h
theorem readR_ok {l:List UInt8} {i a b:Nat} {g:List UInt8→Nat×Nat×Nat} (hi:i≤l.length) (h:g (l.drop i)=(a,b,0)):readR l (i:Int) g=(a,i+b,0):=by
 rw [readR,if_neg (by omega),Int.toNat_natCast,h];rfl
theorem blkR_cut (way n:Nat) (s:List UInt8) (sum seed:Nat) (most:Int) (unl:Nat→Nat→List UInt8→Option (List Int)) (k:Nat)
 (hw:way≤3) (hn1:1≤n) (hn2:n≤4096) (hm:(n:Int)≤most) (hs:s.length≤16*n+1000) (hk:k<(blockB way n s sum).length):
 blkR ((blockB way n s sum).take k) 0 seed most unl= .error 2:=by
 suffices h:headR ((blockB way n s sum).take k) 0 most= .bad 2 by
  rw [blkR,h];rfl
 have hbl:=blockB_len (way:=way) (n:=n) (s:=s) (sum:=sum)
 have hB:blockB way n s sum=UInt8.ofNat way::(vput n++(vput s.length++(s++wput sum))):=by simp [blockB,headBytes]
 generalize hBe:blockB way n s sum=B at*
 have hkl:(B.take k).length=k:=by rw [List.length_take];omega
 rw [headR,if_neg (by omega)]
 cases k with
 |zero=>rw [if_pos (by rw [hkl];rfl)]
 |succ k=>
  rw [if_neg (by rw [hkl];omega)]
  have hget:(B.take (k+1)).getD 0 0=UInt8.ofNat way:=by rw [hB];rfl
  have hwn:(UInt8.ofNat way).toNat=way:=toNat_ofNat8 (by omega)
  have hd1:(B.take (k+1)).drop 1=(vput n++(vput s.length++(s++wput sum))).take k:=by rw [hB];rfl
  rw [headA,show Int.toNat 0=0 from rfl,hget,hwn,if_neg (by omega),Nat.zero_add]
  by_cases h1:k<(vput n).length
  · have hr:=readR_cut (l:=B.take (k+1)) (i:=1) (g:=vgetR) (by omega) (by rw [hd1,vget_cut _ (ltW (by omega)) h1])
    rw [if_pos (by rw [hr];decide),hr]
  · have hr:=readR_ok (l:=B.take (k+1)) (i:=1) (a:=n) (b:=(vput n).length) (g:=vgetR) (by omega) (by
     rw [hd1,List.take_append,List.take_of_length_le (by omega)]
     exact vgetR_vput n (ltW (by omega)) _)
    rw [hr]
    dsimp only
    rw [if_neg (by simp),if_neg (by omega),if_neg (by omega),headB]
    have hd2:(B.take (k+1)).drop (1+(vput n).length)=(vput s.length++(s++wput sum)).take (k-(vput n).length):=by
     rw [←List.drop_drop,hd1,List.drop_take,drop_app]
    by_cases h2:k-(vput n).length<(vput s.length).length
    · have hr2:=readR_cut (l:=B.take (k+1)) (i:=1+(vput n).length) (g:=vgetR) (by omega) (by rw [hd2,vget_cut _ (ltW (by omega)) h2])
      rw [if_pos (by rw [hr2];decide),hr2]
    · have hr2:=readR_ok (l:=B.take (k+1)) (i:=1+(vput n).length) (a:=s.length) (b:=(vput s.length).length) (g:=vgetR) (by omega) (by
       rw [hd2,List.take_append,List.take_of_length_le (by omega)]
       exact vgetR_vput s.length (ltW (by omega)) _)
      rw [hr2]
      dsimp only
      rw [if_neg (by simp),if_neg (by omega),if_pos (by omega)]
theorem blkR_none (pre post:List UInt8) (way n:Nat) (s:List UInt8) (sum seed:Nat) (most:Int) (unl:Nat→Nat→List UInt8→Option (List Int))
 (hw:way≤3) (hn1:1≤n) (hn2:n≤4096) (hm:(n:Int)≤most) (hs:s.length≤16*n+1000) (hu:unl way n s=none):
 blkR (pre++(blockB way n s sum++post)) (pre.length:Int) seed most unl= .error 3:=by
 have hL:pre++(blockB way n s sum++post)=pre++(headBytes way n s.length++(s++(wput sum++post))):=by simp [blockB]
 have hH:=headR_put pre (s++(wput sum++post)) way n s.length most hw hn1 hn2 hm hs (by simp)
 have hd:((pre++(headBytes way n s.length++(s++(wput sum++post)))).drop (pre.length+(headBytes way n s.length).length)).take s.length=s:=by
  rw [←List.append_assoc,←List.length_append,List.drop_left,List.take_left]
 rw [hL,blkR,hH]
 dsimp only
 rw [if_neg (by simp),hd,hu]
 rfl
end Go.Proofs.Tryz
namespace Go.Proofs.Tryz
open Go Go.Proofs.VC
set_option maxRecDepth 100000
def F_r1_PutVint (x0:Int) (w:World) (R:Value→World→Prop):Prop:=
 ∃I0:Nat→Int→Option Addr→Nat→Nat→World→Prop,(∃m_2,I0 m_2 x0 none 0 0 w)∧∀m,∀x0_2:Int,∀x3:Option Addr,∀x3n:Nat,∀x3c:Nat,∀w1,
 I0 m x0_2 x3 x3n x3c w1→(bif decide (x0_2≥(128:Int))then(∀w2 b10,w2=w1.alloc (.cells #[.int .u8 (orI .u8 (U8 x0_2) (128:Int))] t_uint8)→b10=
 w1.heap.size→∃x11:Option Addr,∃x11n:Nat,∃x11c:Nat,∃w3:World,(Builtin.append_ #[t_S_uint8,t_S_uint8] t_S_uint8 #[.slice x3 x3n x3c,.slice
 (some (A0 b10)) 1 1]).run prog w2= .ok (.slice x11 x11n x11c) w3∧0≤(7:Int)∧∃m_3,m_3<m∧I0 m_3 (shrI .u64 x0_2 (7:Int)) x11 x11n x11c w3)else
 (∀w4 b17,w4=w1.alloc (.cells #[.int .u8 (U8 x0_2)] t_uint8)→b17=w1.heap.size→∃x18:Option Addr,∃x18n:Nat,∃x18c:Nat,∃w5:World,
 (Builtin.append_ #[t_S_uint8,t_S_uint8] t_S_uint8 #[.slice x3 x3n x3c,.slice (some (A0 b17)) 1 1]).run prog w4= .ok (.slice x18 x18n x18c) w5∧∃x19:
 ByteArray,(Conv.bytesToString (.slice x18 x18n x18c)).run prog w5= .ok (.string x19) w5∧R (.string x19) w5))
def A_r1_PutVint:Ann:= {loop:=fun k=>cond (Nat.beq k 0) (some (16377,[0,3],[.int .u64,.sl])) (none),join:=fun k=>none,nf:=fun k=> []}
theorem S_r1_PutVint {x0:Int} {w:World} {R:Ending→World→Prop} (h:F_r1_PutVint x0 w fun v w'=>R (.returned v) w'):Calls prog n_r1_PutVint #[.int .u64 x0] w R:=vcS A_r1_PutVint func26 (by kernel_rfl) (by kernel_rfl) h
def F_r1_Word (x0:Int) (w:World) (R:Value→World→Prop):Prop:=
 0≤(8:Int)∧(8:Int)≤(8:Int)∧((1:Nat):Int)*(8:Int)≤((maxMake:Nat):Int)∧∀w1 b5,w1=w.alloc (.cells (mkCells TAB t_uint8 (Int.toNat
 (8:Int))) t_uint8)→b5=w.heap.size→∃I0:Nat→Int→World→Prop,(∃m_2,I0 m_2 (0:Int) w1)∧∀m,∀x4:Int,∀w2,I0 m x4 w2→(bif decide (x4<
 (8:Int))then(0≤(W64 ((8:Int)*x4))∧0≤x4∧x4<((Int.toNat (8:Int):Nat):Int)∧OSome (some (A0 b5)) fun p17=>Sto w2 (p17.add (Int.toNat x4
 *1)) (.int .u8 (U8 (shrI .u64 x0 (W64 ((8:Int)*x4))))) fun w3=>∃m_3,m_3<m∧I0 m_3 (W64 (x4+(1:Int))) w3)else(∃x19:ByteArray,
 (Conv.bytesToString (.slice (some (A0 b5)) (Int.toNat (8:Int)) (Int.toNat (8:Int)))).run prog w2= .ok (.string x19) w2∧R (.string x19) w2))
def A_r1_Word:Ann:= {loop:=fun k=>cond (Nat.beq k 0) (some (262096,[4],[.int .i64])) (none),join:=fun k=>none,nf:=fun k=> []}
theorem S_r1_Word {x0:Int} {w:World} {R:Ending→World→Prop} (h:F_r1_Word x0 w fun v w'=>R (.returned v) w'):Calls prog n_r1_Word #[.int .u64 x0] w R:=vcS A_r1_Word func27 (by kernel_rfl) (by kernel_rfl) h
def F_r1_Sum (x0:Int) (x1:ByteArray) (w:World) (R:Value→World→Prop):Prop:=
 ∀J19:Int→Int→World→Prop,(∀x5:Int,∀x7:Int,∀w1,(∃I6:Nat→Int→Int→World→Prop,(∃m_2,I6 m_2 (U64 (x5+(U64 ((x1.size:Nat):
 Int)))) x7 w1)∧∀m,∀x5_2:Int,∀x7_2:Int,∀w2,I6 m x5_2 x7_2 w2→(bif decide ((W64 (x7_2+(8:Int)))≤((x1.size:Nat):Int))then(Calls prog
 n_r1_GetWord #[.string x1,.int .i64 x7_2] w2 (fun e w3=>∃x101a:Int,∃x101b:Int,∃x101c:Int,e= .returned (.agg #[.int .u64 x101a,.int .i64 x101b,
 .int .i64 x101c])∧Calls prog n_r1_Round #[.int .u64 (0:Int),.int .u64 x101a] w3 (fun e_2 w4=>∃x103:Int,e_2= .returned (.int .u64 x103)∧Calls prog
 n_r1_rol #[.int .u64 (xorI .u64 x5_2 x103),.int .i64 (27:Int)] w4 (fun e_3 w5=>∃x105:Int,e_3= .returned (.int .u64 x105)∧∃m_3,m_3<m∧I6 m_3
 (U64 ((U64 (x105*(11400714785074694791:Int)))+(9650029242287828579:Int))) (W64 (x7_2+(8:Int))) w5))))else(∀J31:Int→Int→World→Prop,(∀
 x5_3:Int,∀x7_3:Int,∀w6,(∃I10:Nat→Int→Int→World→Prop,(∃m_5,I10 m_5 x5_3 x7_3 w6)∧∀m_4,∀x5_4:Int,∀x7_4:Int,∀w7,I10 m_4 x5_4
 x7_4 w7→(bif decide (x7_4<((x1.size:Nat):Int))then(0≤x7_4∧∃c144:UInt8,x1[Int.toNat x7_4]? =some c144∧Calls prog n_r1_rol #[.int .u64 (xorI
 .u64 x5_4 (U64 ((U64 ((c144.toNat:Nat):Int))*(2870177450012600261:Int)))),.int .i64 (11:Int)] w7 (fun e_4 w8=>∃x148:Int,e_4= .returned (.int
 .u64 x148)∧∃m_6,m_6<m_4∧I10 m_6 (U64 (x148*(11400714785074694791:Int))) (W64 (x7_4+(1:Int))) w8))else(Calls prog n_r1_Mix #[.int .u64 x5_4]
 w7 (fun e_5 w9=>∃x153:Int,e_5= .returned (.int .u64 x153)∧R (.int .u64 x153) w9))))→J31 x5_3 x7_3 w6)→bif decide ((W64 (x7_2+(4:Int)))≤
 ((x1.size:Nat):Int))then(∃I8:Nat→Int→Int→World→Prop,(∃m_8,I8 m_8 (0:Int) (0:Int) w2)∧∀m_7,∀x12:Int,∀x13:Int,∀w10,I8 m_7
 x12 x13 w10→(bif decide (x13<(4:Int))then(0≤(W64 (x7_2+x13))∧∃c123:UInt8,x1[Int.toNat (W64 (x7_2+x13))]? =some c123∧0≤(W64 ((8:Int)
 *x13))∧∃m_9,m_9<m_7∧I8 m_9 (orI .u64 x12 (shlI .u64 (U64 ((c123.toNat:Nat):Int)) (W64 ((8:Int)*x13)))) (W64 (x13+(1:Int))) w10)else
 (Calls prog n_r1_rol #[.int .u64 (xorI .u64 x5_2 (U64 (x12*(11400714785074694791:Int)))),.int .i64 (23:Int)] w10 (fun e_6 w11=>∃x133:Int,e_6=
 .returned (.int .u64 x133)∧J31 (U64 ((U64 (x133*(14029467366897019727:Int)))+(1609587929392839161:Int))) (W64 (x7_2+(4:Int))) w11))))else(J31
 x5_2 x7_2 w2))))→J19 x5 x7 w1)→bif decide (((x1.size:Nat):Int)≥(32:Int))then(∀w12 b28,w12=w.alloc (.cells #[.int .u64 (U64 (x0+
 (11400714785074694791:Int))),.int .u64 (U64 (x0+(14029467366897019727:Int))),.int .u64 x0,.int .u64 (U64 (x0-(11400714785074694791:Int)))]
 t_uint64)→b28=w.heap.size→0≤(0:Int)∧(0:Int)<((4:Nat):Int)∧OSome (some (A0 b28)) fun p31=>∃x32:Int,w12.cell? (p31.add (Int.toNat (0
 :Int)*1))=some (.int .u64 x32)∧0≤(0:Int)∧(0:Int)<((4:Nat):Int)∧OSome (some (A0 b28)) fun p35=>Sto w12 (p35.add (Int.toNat (0:Int)*
 1)) (.int .u64 (U64 (x32+(14029467366897019727:Int)))) fun w13=>∃I0:Nat→Int→World→Prop,(∃m_11,I0 m_11 (0:Int) w13)∧∀m_10,∀x7_5:Int,
 ∀w14,I0 m_10 x7_5 w14→(bif decide ((W64 (x7_5+(32:Int)))≤((x1.size:Nat):Int))then(∃I2:Nat→Int→Int→World→Prop,(∃m_14,I2 m_14 x7_5
 (0:Int) w14)∧∀m_13,∀x7_6:Int,∀x10:Int,∀w15,I2 m_13 x7_6 x10 w15→(bif decide (x10<(4:Int))then(∀w16,w16=w15.drew→0≤x10∧x10<
 ((4:Nat):Int)∧OSome (some (A0 b28)) fun p48=>∃x49:Int,w16.cell? (p48.add (Int.toNat x10*1))=some (.int .u64 x49)∧Calls prog n_r1_GetWord
 #[.string x1,.int .i64 x7_6] w16 (fun e_7 w17=>∃x52a:Int,∃x52b:Int,∃x52c:Int,e_7= .returned (.agg #[.int .u64 x52a,.int .i64 x52b,.int .i64
 x52c])∧((w16.cell? (p48.add (Int.toNat x10*1))=some (.int .u64 x49)→w17.cell? (p48.add (Int.toNat x10*1))=some (.int .u64 x49))∧True)∧Calls
 prog n_r1_Round #[.int .u64 x49,.int .u64 x52a] w17 (fun e_8 w18=>∃x54:Int,e_8= .returned (.int .u64 x54)∧(True)∧0≤x10∧x10<((4:Nat):Int)
 ∧OSome (some (A0 b28)) fun p55=>Sto w18 (p55.add (Int.toNat x10*1)) (.int .u64 x54) fun w19=>(True)∧∃m_15,m_15<m_13∧I2 m_15 (W64 (x7_6+(8:
 Int))) (W64 (x10+(1:Int))) w19)))else(∃m_12,m_12<m_10∧I0 m_12 x7_6 w15)))else(∀w20,w20=w14.drew→0≤(0:Int)∧(0:Int)<((4:Nat):
 Int)∧OSome (some (A0 b28)) fun p59=>∃x60:Int,w20.cell? (p59.add (Int.toNat (0:Int)*1))=some (.int .u64 x60)∧0≤(1:Int)∧(1:Int)<((4:
 Nat):Int)∧OSome (some (A0 b28)) fun p63=>∃x64:Int,w20.cell? (p63.add (Int.toNat (1:Int)*1))=some (.int .u64 x64)∧0≤(2:Int)∧(2:Int)<
 ((4:Nat):Int)∧OSome (some (A0 b28)) fun p68=>∃x69:Int,w20.cell? (p68.add (Int.toNat (2:Int)*1))=some (.int .u64 x69)∧0≤(3:Int)∧(3:
 Int)<((4:Nat):Int)∧OSome (some (A0 b28)) fun p73=>∃x74:Int,w20.cell? (p73.add (Int.toNat (3:Int)*1))=some (.int .u64 x74)∧Calls prog
 n_r1_rol #[.int .u64 x60,.int .i64 (1:Int)] w20 (fun e_9 w21=>∃x61:Int,e_9= .returned (.int .u64 x61)∧((w20.cell? (p63.add (Int.toNat (1:Int)*
 1))=some (.int .u64 x64)→w21.cell? (p63.add (Int.toNat (1:Int)*1))=some (.int .u64 x64))∧(w20.cell? (p68.add (Int.toNat (2:Int)*1))=some
 (.int .u64 x69)→w21.cell? (p68.add (Int.toNat (2:Int)*1))=some (.int .u64 x69))∧(w20.cell? (p73.add (Int.toNat (3:Int)*1))=some (.int .u64 x74)
 →w21.cell? (p73.add (Int.toNat (3:Int)*1))=some (.int .u64 x74))∧True)∧Calls prog n_r1_rol #[.int .u64 x64,.int .i64 (7:Int)] w21 (fun e_10 w22
 =>∃x65:Int,e_10= .returned (.int .u64 x65)∧((w21.cell? (p59.add (Int.toNat (0:Int)*1))=some (.int .u64 x60)→w22.cell? (p59.add (Int.toNat (0:
 Int)*1))=some (.int .u64 x60))∧(w21.cell? (p68.add (Int.toNat (2:Int)*1))=some (.int .u64 x69)→w22.cell? (p68.add (Int.toNat (2:Int)*1))=
 some (.int .u64 x69))∧(w21.cell? (p73.add (Int.toNat (3:Int)*1))=some (.int .u64 x74)→w22.cell? (p73.add (Int.toNat (3:Int)*1))=some (.int .u64
 x74))∧True)∧Calls prog n_r1_rol #[.int .u64 x69,.int .i64 (12:Int)] w22 (fun e_11 w23=>∃x70:Int,e_11= .returned (.int .u64 x70)∧((w22.cell?
 (p59.add (Int.toNat (0:Int)*1))=some (.int .u64 x60)→w23.cell? (p59.add (Int.toNat (0:Int)*1))=some (.int .u64 x60))∧(w22.cell? (p63.add
 (Int.toNat (1:Int)*1))=some (.int .u64 x64)→w23.cell? (p63.add (Int.toNat (1:Int)*1))=some (.int .u64 x64))∧(w22.cell? (p73.add (Int.toNat (3:
 Int)*1))=some (.int .u64 x74)→w23.cell? (p73.add (Int.toNat (3:Int)*1))=some (.int .u64 x74))∧True)∧Calls prog n_r1_rol #[.int .u64 x74,.int
 .i64 (18:Int)] w23 (fun e_12 w24=>∃x75:Int,e_12= .returned (.int .u64 x75)∧((w23.cell? (p59.add (Int.toNat (0:Int)*1))=some (.int .u64 x60)→
 w24.cell? (p59.add (Int.toNat (0:Int)*1))=some (.int .u64 x60))∧(w23.cell? (p63.add (Int.toNat (1:Int)*1))=some (.int .u64 x64)→w24.cell?
 (p63.add (Int.toNat (1:Int)*1))=some (.int .u64 x64))∧(w23.cell? (p68.add (Int.toNat (2:Int)*1))=some (.int .u64 x69)→w24.cell? (p68.add
 (Int.toNat (2:Int)*1))=some (.int .u64 x69))∧True)∧∃I4:Nat→Int→Int→World→Prop,(∃m_17,I4 m_17 (U64 ((U64 ((U64 (x61+x65))+x70))+
 x75)) (0:Int) w24)∧∀m_16,∀x5_5:Int,∀x11:Int,∀w25,I4 m_16 x5_5 x11 w25→(bif decide (x11<(4:Int))then(0≤x11∧x11<((4:Nat):Int)∧
 OSome (some (A0 b28)) fun p84=>∃x85:Int,w25.cell? (p84.add (Int.toNat x11*1))=some (.int .u64 x85)∧Calls prog n_r1_Round #[.int .u64 (0:Int),
 .int .u64 x85] w25 (fun e_13 w26=>∃x86:Int,e_13= .returned (.int .u64 x86)∧∃m_18,m_18<m_16∧I4 m_18 (U64 ((U64 ((xorI .u64 x5_5 x86)*
 (11400714785074694791:Int)))+(9650029242287828579:Int))) (W64 (x11+(1:Int))) w26))else(J19 x5_5 x7_5 w25)))))))))else(J19 (U64 (x0+
 (2870177450012600261:Int))) (0:Int) w)
def A_r1_Sum:Ann:= {loop:=fun k=>cond (Nat.beq k 4) (some (1237788923557928446252288032,[5,11],[.int .u64,.int .i64])) (cond (Nat.beq k 2) (some (288229276640085120,[7,10],[.int .i64,.int .i64])) (cond (Nat.beq k 0) (some (288230307432236160,[7],[.int .i64])) (cond (Nat.beq k 8) (some (680543964654442787616235092878219554816,[12,13],[.int .u64,.int .i64])) (cond (Nat.beq k 10) (some (5708642321680112483246557382199970414882455712,[5,7],[.int .u64,.int .i64])) (cond (Nat.beq k 6) (some (1298054407593078341048225696317600,[5,7],[.int .u64,.int .i64])) (none)))))),join:=fun k=>cond (Nat.beq k 31) (some (348449142428966771952788690877506566238368,[5,7],[.int .u64,.int .i64])) (cond (Nat.beq k 19) (some (1237940039285380274898866080,[5,7],[.int .u64,.int .i64])) (none)),nf:=fun k=> []}
theorem S_r1_Sum {x0:Int} {x1:ByteArray} {w:World} {R:Ending→World→Prop} (h:F_r1_Sum x0 x1 w fun v w'=>R (.returned v) w'):Calls prog n_r1_Sum #[.int .u64 x0,.string x1] w R:=vcS A_r1_Sum func28 (by kernel_rfl) (by kernel_rfl) h
def F_r1_Round (x0:Int) (x1:Int) (w:World) (R:Value→World→Prop):Prop:=
 Calls prog n_r1_rol #[.int .u64 (U64 (x0+(U64 (x1*(14029467366897019727:Int))))),.int .i64 (31:Int)] w (fun e w1=>∃x9:Int,e= .returned (.int .u64
 x9)∧R (.int .u64 (U64 (x9*(11400714785074694791:Int)))) w1)
theorem S_r1_Round {x0:Int} {x1:Int} {w:World} {R:Ending→World→Prop} (h:F_r1_Round x0 x1 w fun v w'=>R (.returned v) w'):Calls prog n_r1_Round #[.int .u64 x0,.int .u64 x1] w R:=vcS noAnn func63 (by kernel_rfl) (by kernel_rfl) h
def F_r1_GetWord (x0:ByteArray) (x1:Int) (w:World) (R:Value→World→Prop):Prop:=
 ∀w1 b4,w1=w.alloc (.cells #[.int .u64 0,.int .i64 0,.int .i64 0] t_r1_Got)→b4=w.heap.size→∀J3:World→Prop,(∀w2,(bif decide ((W64 (x1+(8:
 Int)))>((x0.size:Nat):Int))then(Sto w2 (A0 b4) (.int .u64 0) fun w3=>Sto w3 ((A0 b4).add 1) (.int .i64 0) fun w4=>Sto w4 ((A0 b4).add 2) (.int .i64
 (2:Int)) fun w5=>∃r0a:Int,∃r0b:Int,∃r0c:Int,LdL w5 (A0 b4) 0 [.int .u64 r0a,.int .i64 r0b,.int .i64 r0c]∧R (.agg #[.int .u64 r0a,.int .i64
 r0b,.int .i64 r0c]) w5)else(∃I0:Nat→Int→Int→World→Prop,(∃m_2,I0 m_2 (0:Int) (0:Int) w2)∧∀m,∀x5:Int,∀x6:Int,∀w6,I0 m x5 x6 w6
 →(bif decide (x6<(8:Int))then(0≤(W64 (x1+x6))∧∃c31:UInt8,x0[Int.toNat (W64 (x1+x6))]? =some c31∧0≤(W64 ((8:Int)*x6))∧∃m_3,m_3<
 m∧I0 m_3 (orI .u64 x5 (shlI .u64 (U64 ((c31.toNat:Nat):Int)) (W64 ((8:Int)*x6)))) (W64 (x6+(1:Int))) w6)else(Sto w6 (A0 b4) (.int .u64 x5) fun
 w7=>Sto w7 ((A0 b4).add 1) (.int .i64 (W64 (x1+(8:Int)))) fun w8=>Sto w8 ((A0 b4).add 2) (.int .i64 0) fun w9=>∃r0a_2:Int,∃r0b_2:Int,∃r0c_2
 :Int,LdL w9 (A0 b4) 0 [.int .u64 r0a_2,.int .i64 r0b_2,.int .i64 r0c_2]∧R (.agg #[.int .u64 r0a_2,.int .i64 r0b_2,.int .i64 r0c_2]) w9))))→J3 w2)→
 bif decide (x1<(0:Int))then(Sto w1 (A0 b4) (.int .u64 0) fun w10=>Sto w10 ((A0 b4).add 1) (.int .i64 0) fun w11=>Sto w11 ((A0 b4).add 2) (.int .i64
 (1:Int)) fun w12=>∃r0a_3:Int,∃r0b_3:Int,∃r0c_3:Int,LdL w12 (A0 b4) 0 [.int .u64 r0a_3,.int .i64 r0b_3,.int .i64 r0c_3]∧R (.agg #[.int .u64
 r0a_3,.int .i64 r0b_3,.int .i64 r0c_3]) w12)else(bif decide (x1>((x0.size:Nat):Int))then(Sto w1 (A0 b4) (.int .u64 0) fun w13=>Sto w13 ((A0
 b4).add 1) (.int .i64 0) fun w14=>Sto w14 ((A0 b4).add 2) (.int .i64 (1:Int)) fun w15=>∃r0a_4:Int,∃r0b_4:Int,∃r0c_4:Int,LdL w15 (A0 b4) 0
 [.int .u64 r0a_4,.int .i64 r0b_4,.int .i64 r0c_4]∧R (.agg #[.int .u64 r0a_4,.int .i64 r0b_4,.int .i64 r0c_4]) w15)else(J3 w1))
def A_r1_GetWord:Ann:= {loop:=fun k=>cond (Nat.beq k 0) (some (137434759264,[5,6],[.int .u64,.int .i64])) (none),join:=fun k=>cond (Nat.beq k 3) (some (65408,[],[])) (none),nf:=fun k=> []}
theorem S_r1_GetWord {x0:ByteArray} {x1:Int} {w:World} {R:Ending→World→Prop} (h:F_r1_GetWord x0 x1 w fun v w'=>R (.returned v) w'):Calls prog n_r1_GetWord #[.string x0,.int .i64 x1] w R:=vcS A_r1_GetWord func64 (by kernel_rfl) (by kernel_rfl) h
def F_r1_rol (x0:Int) (x1:Int) (w:World) (R:Value→World→Prop):Prop:=
 ∀w1,w1=w.drew→0≤x1∧0≤(W64 ((64:Int)-x1))∧R (.int .u64 (orI .u64 (shlI .u64 x0 x1) (shrI .u64 x0 (W64 ((64:Int)-x1))))) w1
theorem S_r1_rol {x0:Int} {x1:Int} {w:World} {R:Ending→World→Prop} (h:F_r1_rol x0 x1 w fun v w'=>R (.returned v) w'):Calls prog n_r1_rol #[.int .u64 x0,.int .i64 x1] w R:=vcS noAnn func65 (by kernel_rfl) (by kernel_rfl) h
def F_r1_Mix (x0:Int) (w:World) (R:Value→World→Prop):Prop:=
 0≤(33:Int)∧0≤(29:Int)∧0≤(32:Int)∧R (.int .u64 (xorI .u64 (U64 ((xorI .u64 (U64 ((xorI .u64 x0 (shrI .u64 x0 (33:Int)))*
 (14029467366897019727:Int))) (shrI .u64 (U64 ((xorI .u64 x0 (shrI .u64 x0 (33:Int)))*(14029467366897019727:Int))) (29:Int)))*(1609587929392839161:
 Int))) (shrI .u64 (U64 ((xorI .u64 (U64 ((xorI .u64 x0 (shrI .u64 x0 (33:Int)))*(14029467366897019727:Int))) (shrI .u64 (U64 ((xorI .u64 x0 (shrI .u64 x0
 (33:Int)))*(14029467366897019727:Int))) (29:Int)))*(1609587929392839161:Int))) (32:Int)))) w
theorem S_r1_Mix {x0:Int} {w:World} {R:Ending→World→Prop} (h:F_r1_Mix x0 w fun v w'=>R (.returned v) w'):Calls prog n_r1_Mix #[.int .u64 x0] w R:=vcS noAnn func66 (by kernel_rfl) (by kernel_rfl) h
end Go.Proofs.Tryz
namespace Go.Proofs.Tryz
open Go Go.RowKit Go.Proofs.VC
variable {M:List Nat} {w0 w:World} {L:List En}
theorem T_r1_PutVint (n:Nat) (hn:n<18446744073709551616) (w:World):Calls prog n_r1_PutVint #[.int .u64 n] w fun e w'=>e= .returned (.string (S (vput n)))∧Fr [] w w':=by
 refine S_r1_PutVint ?_
 unfold F_r1_PutVint
 refine⟨fun q x a k c w1=>∃pre:List UInt8,x=(q:Int)∧q<18446744073709551616∧St [] w w1 []∧Ow [] w w1 [] t_uint8 1 a k c (u8s pre)∧pre++vput q=vput n,
  ⟨n,[],rfl,hn,St.start [] w,Ow.nil,rfl⟩,?_⟩
 rintro q x a k c w1 ⟨pre,rfl,hq,H,ho,hpre⟩
 have hlen:=vput_len64 hn
 have hk:pre.length=k:=by simpa using ho.len
 have hl2:=congrArg List.length hpre
 rw [List.length_append]at hl2
 refine bif_i (fun h=>?_) (fun h=>?_)
 · have h':128≤q:=by have:=of_decide_eq_true h;omega
   refine H.alloc_own ho fun w2 b H ho=>?_
   have ho8:orI .u8 (U8 (q:Int)) (128:Int)=((q%128+128:Nat):Int):=by
    rw [U8_nat,show(128:Int)=((128:Nat):Int)from rfl,andI_or_u8 q]
   refine app8 (v:=UInt8.ofNat (q%128+128)) H ho (by rw [toNat_ofNat8 (by omega),ho8]) (by omega) fun a' c2 w3 H ho=>?_
   refine⟨by decide,q/128,by omega,pre++ [UInt8.ofNat (q%128+128)],?_,by omega,H,ho,?_⟩
   · exact shrI_nat .u64 q 7 (by decide)
   · rw [←hpre,vput_ge h',List.append_assoc];rfl
 · have h':q<128:=by have:=of_decide_eq_false h;omega
   refine H.alloc_own ho fun w2 b H ho=>?_
   refine app8 (v:=UInt8.ofNat q) H ho ?_ (by omega) fun a' c2 w3 H ho=>?_
   · rw [toNat_ofNat8 (by omega),U8_nat,Nat.mod_eq_of_lt (by omega)]
   · refine b2s ho.sl (by simpa using ho.len.symm) ⟨?_,H.fr⟩
     rw [←hpre,vput_lt h']
theorem T_r1_Word (n:Nat) (hn:n<WW) (w:World):Calls prog n_r1_Word #[.int .u64 (n:Int)] w fun e w'=>e= .returned (.string (S (wput n)))∧Fr [] w w':=by
 refine S_r1_Word ?_
 unfold F_r1_Word
 refine⟨by decide,by decide,by decide,(Sx.start [] w).alloc fun w1 b5 _ H=>?_⟩
 have e0:mkCells TAB t_uint8 (Int.toNat (8:Int))=(u8s (List.replicate 8 0)).toArray:=rfl
 rw [e0]at H
 refine⟨fun m x w2=>∃i:Nat,x=(i:Int)∧m+i=8∧Sx [] w w2 [.ob b5 (.cells (u8s ((wput n).take i++List.replicate (8-i) 0)).toArray t_uint8 (0,0))],⟨8,0,rfl,rfl,H⟩,?_⟩
 rintro m x w2 ⟨i,rfl,hmi,H⟩
 refine bif_i (fun h=>?_) fun h=>?_
 · have hi:i<8:=by have:=of_decide_eq_true h;omega
   have e1:W64 ((8:Int)*(i:Int))=((8*i:Nat):Int):=W64_idn (by omega) (by omega)
   have e2:U8 (shrI .u64 (n:Int) ((8*i:Nat):Int))=(((UInt8.ofNat (n/2^(8*i)%256)).toNat:Nat):Int):=by
    rw [shrI_nat _ _ _ (by show 8*i≤64;omega),U8_nat,toNat_ofNat8 (Nat.mod_lt _ (by decide))]
   rw [e1,e2]
   have hwl:(wput n).length=8:=wput_len n
   have hget:(wput n)[i]? =some (UInt8.ofNat (n/2^(8*i)%256)):=by simp [wput,hi]
   refine⟨by omega,by omega,by show(i:Int)<8;omega,OSome.i ?_⟩
   rw [A0_add,Int.toNat_natCast,Nat.mul_one]
   refine H.sto 0 rfl (by simp;omega) fun w3 _ H=>⟨m-1,by omega,i+1,W64_succ (by omega),by omega,?_⟩
   have e3:(u8s ((wput n).take i++List.replicate (8-i) 0)).toArray.setIfInBounds i (.int .u8 (((UInt8.ofNat (n/2^(8*i)%256)).toNat:Nat):Int))=(u8s ((wput n).take (i+1)++List.replicate (8-(i+1)) 0)).toArray:=by
    apply Array.ext'
    rw [Array.toList_setIfInBounds,u8s_set]
    show u8s _=u8s _
    congr 1
    have htl:((wput n).take i).length=i:=by rw [List.length_take];omega
    rw [List.set_append_right _ _ (by omega),htl,Nat.sub_self,show 8-i=(8-(i+1))+1 by omega,List.replicate_succ,List.set_cons_zero,List.take_add_one,hget,List.append_assoc]
    rfl
   rw [e3]at H
   exact H
 · have hi:i=8:=by have:=of_decide_eq_false h;omega
   subst hi
   have hs:Sl w2 (some (A0 b5)) (u8s (wput n)):=by
    have:=Sx.sl H 0 rfl
    rw [List.take_of_length_le (by rw [wput_len];exact Nat.le_refl _)]at this
    simpa using this
   exact b2s hs (by rw [wput_len];rfl) ⟨rfl,H.fr⟩
theorem T_r1_rol (x:Nat) (k:Int) (kn:Nat) (hk:k=(kn:Int)) (h1:kn<64) (hx:x<WW) (w:World):Calls prog n_r1_rol #[.int .u64 (x:Int),.int .i64 k] w fun e w'=>e= .returned (.int .u64 (rotl x kn:Nat))∧Fr [] w w':=by
 subst hk
 refine S_r1_rol ?_
 unfold F_r1_rol
 rintro w1 rfl
 have e2:W64 ((64:Int)-(kn:Int))=((64-kn:Nat):Int):=W64_idn (by omega) (by omega)
 rw [e2,shlI_u64 _ _ (by omega),shrI_nat .u64 _ _ (by show 64-kn≤64;omega),orI_u64 _ _ (modW _) (Nat.lt_of_le_of_lt (Nat.div_le_self _ _) hx)]
 exact⟨by omega,by omega,rfl,Fr.drew _ _⟩
theorem T_r1_Round (x y:Nat) (w:World):Calls prog n_r1_Round #[.int .u64 (x:Int),.int .u64 (y:Int)] w fun e w'=>e= .returned (.int .u64 (roundN x y:Nat))∧Fr [] w w':=by
 refine S_r1_Round ?_
 unfold F_r1_Round
 rw [show(14029467366897019727:Int)=((q2:Nat):Int)from rfl,show(11400714785074694791:Int)=((q1:Nat):Int)from rfl,U64_mul,U64_add]
 refine Calls.st (St.start [] w) (T_r1_rol _ _ 31 rfl (by decide) (modW _) w) fun w2 H=>⟨_,rfl,?_,H.fr⟩
 rw [U64_mul];rfl
theorem T_r1_Mix (h:Nat) (hh:h<WW) (w:World):Calls prog n_r1_Mix #[.int .u64 (h:Int)] w fun e w'=>e= .returned (.int .u64 (mixN h:Nat))∧Fr [] w w':=by
 refine S_r1_Mix ?_
 unfold F_r1_Mix
 refine⟨by decide,by decide,by decide,?_,Fr.refl _ _⟩
 rw [show(14029467366897019727:Int)=((q2:Nat):Int)from rfl,show(1609587929392839161:Int)=((q3:Nat):Int)from rfl,
  show(33:Int)=((33:Nat):Int)from rfl,show(29:Int)=((29:Nat):Int)from rfl,show(32:Int)=((32:Nat):Int)from rfl]
 rw [shrI_nat .u64 _ 33 (by decide),xorI_u64 _ _ hh (div_lt' _ hh),U64_mul]
 rw [shrI_nat .u64 _ 29 (by decide),xorI_u64 _ _ (modW _) (div_lt' _ (modW _)),U64_mul]
 rw [shrI_nat .u64 _ 32 (by decide),xorI_u64 _ _ (modW _) (div_lt' _ (modW _))]
 rfl
def gotV (x:Nat×Nat×Nat):Value:= .agg #[.int .u64 (x.1:Int),.int .i64 (x.2.1:Int),.int .i64 (x.2.2:Int)]
theorem T_r1_GetWord (l:List UInt8) (at_:Int) (hl:l.length<4611686018427387904) (w:World):Calls prog n_r1_GetWord #[.string (S l),.int .i64 at_] w fun e w'=>e= .returned (gotV (readR l at_ wgetR))∧Fr [] w w':=by
 refine S_r1_GetWord ?_
 unfold F_r1_GetWord
 rw [S_size]
 refine(Sx.start [] w).alloc fun w1 b4 _ H=>?_
 have out:∀ {wx:World} {cs:Array Value} {x:Nat×Nat×Nat},cs.size=3→Sx [] w wx [.ob b4 (.cells cs t_r1_Got (0,0))]→readR l at_ wgetR=x→∀a b c:Int,a=(x.1:Int)→b=(x.2.1:Int)→c=(x.2.2:Int)→
  Sto wx (A0 b4) (.int .u64 a) fun w3=>Sto w3 ((A0 b4).add 1) (.int .i64 b) fun w4=>Sto w4 ((A0 b4).add 2) (.int .i64 c) fun w5=>∃r0a:Int,∃r0b:Int,∃r0c:Int,LdL w5 (A0 b4) 0 [.int .u64 r0a,.int .i64 r0b,.int .i64 r0c]∧
   (Ending.returned (.agg #[.int .u64 r0a,.int .i64 r0b,.int .i64 r0c])= .returned (gotV (readR l at_ wgetR))∧Fr [] w w5):=by
  rintro wx cs x hcs H hx a b c rfl rfl rfl
  refine H.sto 0 rfl (by omega) fun w3 _ H=>?_
  rw [A0_add]
  refine Sx.sto H 0 rfl (by simp;omega) fun w4 _ H=>?_
  rw [A0_add]
  refine Sx.sto H 0 rfl (by simp;omega) fun w5 _ H=>?_
  refine⟨(x.1:Int),(x.2.1:Int),(x.2.2:Int),⟨?_,?_,?_,trivial⟩,by rw [hx];rfl,H.fr⟩
  · exact Sx.cell H 0 rfl (by simp [Array.getElem?_setIfInBounds,hcs])
  · rw [A0_add];exact Sx.cell H 0 rfl (by simp [Array.getElem?_setIfInBounds,hcs])
  · rw [A0_add];exact Sx.cell H 0 rfl (by simp [Array.getElem?_setIfInBounds,hcs])
 intro J3 hJ
 refine bif_i (fun h0=>?_) fun h0=>bif_i (fun h1=>?_) fun h1=>hJ w1 ?_
 · have h0:=of_decide_eq_true h0
   exact out (x:=(0,0,1)) rfl H (by rw [readR,if_pos (.inl h0)]) _ _ _ rfl rfl rfl
 · have h1:=of_decide_eq_true h1
   exact out (x:=(0,0,1)) rfl H (by rw [readR,if_pos (.inr h1)]) _ _ _ rfl rfl rfl
 have h0:=of_decide_eq_false h0
 have h1:=of_decide_eq_false h1
 obtain⟨i,rfl⟩:∃i:Nat,at_=(i:Int):=⟨at_.toNat,by omega⟩
 have e8:W64 ((i:Int)+8)=((i+8:Nat):Int):=W64_idn (by omega) (by omega)
 rw [e8]
 have hdl:(l.drop i).length=l.length-i:=List.length_drop
 refine bif_i (fun h2=>?_) fun h2=>?_
 · have h2:=of_decide_eq_true h2
   refine out (x:=(0,0,2)) rfl H ?_ _ _ _ rfl rfl rfl
   have hw:wgetR (l.drop i)=(0,0,2):=by rw [wgetR,if_pos (by omega)]
   rw [readR,if_neg (by omega),Int.toNat_natCast,hw];rfl
 · have h2:=of_decide_eq_false h2
   refine⟨fun m x y w2=>∃k:Nat,x=((le ((l.drop i).take k):Nat):Int)∧y=(k:Int)∧m+k=8∧Sx [] w w2 [.ob b4 (.cells #[.int .u64 0,.int .i64 0,.int .i64 0] t_r1_Got (0,0))],⟨8,0,rfl,rfl,rfl,H⟩,?_⟩
   rintro m x y w2 ⟨k,rfl,rfl,hmk,H⟩
   refine bif_i (fun h=>?_) fun h=>?_
   · have hk:k<8:=by have:=of_decide_eq_true h;omega
     have e1:W64 ((i:Int)+(k:Int))=((i+k:Nat):Int):=W64_idn (by omega) (by omega)
     have e2:W64 ((8:Int)*(k:Int))=((8*k:Nat):Int):=W64_idn (by omega) (by omega)
     rw [e1,e2]
     have hik:i+k<l.length:=by omega
     have hb:=l[i+k].toNat_lt
     have htl:((l.drop i).take k).length=k:=by rw [List.length_take];omega
     have hle:=le_lt ((l.drop i).take k)
     rw [htl]at hle
     have hp:(256:Nat)^k=2^(8*k):=by rw [Nat.pow_mul]
     rw [hp]at hle
     have h56:2^(8*k)≤2^56:=Nat.pow_le_pow_right (by decide) (by omega)
     have e56:(2:Nat)^56=72057594037927936:=by decide
     have hmul:l[i+k].toNat*2^(8*k)<18446744073709551616:=by
      have:=Nat.mul_le_mul (show l[i+k].toNat≤255 by omega) h56
      omega
     refine⟨by omega,l[i+k],by rw [S_get,Int.toNat_natCast];exact List.getElem?_eq_getElem hik,by omega,m-1,by omega,k+1,?_,W64_succ (by omega),by omega,H⟩
     rw [U64_nat,Nat.mod_eq_of_lt (by omega),shlI_u64 _ _ (by omega),Nat.mod_eq_of_lt hmul,orI_u64 _ _ (by omega) hmul,or_add _ _ _ hle]
     have hg:(l.drop i)[k]? =some l[i+k]:=by rw [List.getElem?_drop];exact List.getElem?_eq_getElem hik
     rw [List.take_add_one,hg]
     show _=((le (List.take k (List.drop i l)++ [l[i+k]]):Nat):Int)
     rw [le_app,htl,hp,Nat.mul_comm]
   · have hk:k=8:=by have:=of_decide_eq_false h;omega
     subst hk
     refine out (x:=(le ((l.drop i).take 8),i+8,0)) rfl H ?_ _ _ _ rfl rfl rfl
     have hw:wgetR (l.drop i)=(le ((l.drop i).take 8),8,0):=by rw [wgetR,if_neg (by omega)]
     rw [readR,if_neg (by omega),Int.toNat_natCast,hw];rfl
end Go.Proofs.Tryz
namespace Go.Proofs.Tryz
open Go Go.Proofs.VC
set_option maxRecDepth 100000
def F_r20_Plain (x0:Option Addr) (x0n:Nat) (x0c:Nat) (w:World) (R:Value→World→Prop):Prop:=
 ∃I0:Nat→ByteArray→Int→World→Prop,(∃m_2,I0 m_2 (⟨#[]⟩:ByteArray) (0:Int) w)∧∀m,∀x3:ByteArray,∀x4:Int,∀w1,I0 m x3 x4 w1→(bif
 decide (x4<((x0n:Nat):Int))then(0≤x4∧x4<((x0n:Nat):Int)∧OSome x0 fun p14=>∃x15:Int,w1.cell? (p14.add (Int.toNat x4*1))=some (.int
 .i64 x15)∧Calls prog n_r1_Word #[.int .u64 (U64 x15)] w1 (fun e w2=>∃x17:ByteArray,e= .returned (.string x17)∧x3.size+x17.size≤strMax∧∃m_3,
 m_3<m∧I0 m_3 (x3++x17) (W64 (x4+(1:Int))) w2))else(R (.string x3) w1))
def A_r20_Plain:Ann:= {loop:=fun k=>cond (Nat.beq k 0) (some (524280,[3,4],[.str,.int .i64])) (none),join:=fun k=>none,nf:=fun k=> []}
theorem S_r20_Plain {x0:Option Addr} {x0n:Nat} {x0c:Nat} {w:World} {R:Ending→World→Prop} (h:F_r20_Plain x0 x0n x0c w fun v w'=>R (.returned v) w'):Calls prog n_r20_Plain #[.slice x0 x0n x0c] w R:=vcS A_r20_Plain func29 (by kernel_rfl) (by kernel_rfl) h
end Go.Proofs.Tryz
namespace Go.Proofs.Tryz
open Go Go.RowKit Go.Proofs.VC
variable {M:List Nat} {w0 w:World} {L:List En}
theorem T_r20_Plain (a:Option Addr) (n c:Nat) (l:List Int) (w:World) (hs:SlI w a n l) (hl:8*l.length≤140737488355328):Calls prog n_r20_Plain #[.slice a n c] w fun e w'=>e= .returned (.string (S (plainB l)))∧Fr [] w w':=by
 obtain⟨rfl,hs⟩:=hs
 refine S_r20_Plain ?_
 unfold F_r20_Plain
 refine⟨fun m x y w1=>∃i:Nat,x=S (plainB (l.take i))∧y=(i:Int)∧m+i=l.length∧Fr [] w w1,⟨l.length,0,rfl,rfl,rfl,Fr.refl _ _⟩,?_⟩
 rintro m x y w1 ⟨i,rfl,rfl,hmi,hf⟩
 refine bif_i (fun h=>?_) fun h=>?_
 · have hi:i<l.length:=by have:=of_decide_eq_true h;omega
   refine⟨by omega,by omega,?_⟩
   rw [Int.toNat_natCast,Nat.mul_one]
   refine(hs.fr0 hf).read (i64s_get (List.getElem?_eq_getElem hi)) fun p hp hc=>⟨_,hc,?_⟩
   rw [U64_u64i]
   have hu:u64i l[i]<WW:=by unfold u64i WW;omega
   refine(T_r1_Word (u64i l[i]) hu w1).mono ?_
   rintro e w2 ⟨rfl,hf2⟩
   refine⟨_,rfl,?_,m-1,by omega,i+1,?_,W64_succ (by omega),by omega,hf.trans hf2⟩
   · rw [S_size,S_size,plainB_len,wput_len,List.length_take];simp only [strMax];omega
   · rw [S_append,List.take_succ_eq_append_getElem hi]
     congr 1
     rw [plainB,plainB,List.flatMap_append,List.flatMap_cons,List.flatMap_nil,List.append_nil]
 · have hi:i=l.length:=by have:=of_decide_eq_false h;omega
   subst hi
   exact⟨by rw [List.take_of_length_le (Nat.le_refl _)],hf⟩
def LN.li (y:LN):List Nat:= [y.a,y.b,y.c,y.d]
def fourTo (f:Nat→Nat→Nat) (a b c d:Nat) (i:Nat):List Nat:= [if 0<i then f 0 a else a,if 1<i then f 1 b else b,if 2<i then f 2 c else c,if 3<i then f 3 d else d]
theorem fourTo_set (f:Nat→Nat→Nat) (a b c d:Nat) {i:Nat} (h:i<4):(fourTo f a b c d i).set i (f i ([a,b,c,d].getD i 0))=fourTo f a b c d (i+1):=by
 rcases(by omega:i=0∨i=1∨i=2∨i=3)with rfl|rfl|rfl|rfl<;>rfl
theorem fourTo_get (f:Nat→Nat→Nat) (a b c d:Nat) {i:Nat} (h:i<4):(fourTo f a b c d i)[i]? =some ([a,b,c,d].getD i 0):=by
 rcases(by omega:i=0∨i=1∨i=2∨i=3)with rfl|rfl|rfl|rfl<;>rfl
theorem fourTo_four (f:Nat→Nat→Nat) (a b c d:Nat):fourTo f a b c d 4= [f 0 a,f 1 b,f 2 c,f 3 d]:=rfl
theorem fourTo_zero (f:Nat→Nat→Nat) (a b c d:Nat):fourTo f a b c d 0= [a,b,c,d]:=rfl
def lanesTo (y:LN) (l:List UInt8) (i:Nat):List Nat:=fourTo (Tryz.stp l) y.a y.b y.c y.d i
theorem lanesTo_zero (y:LN) (l:List UInt8):lanesTo y l 0=y.li:=by rw [lanesTo,fourTo_zero,LN.li]
theorem lanesTo_four (y:LN) (l:List UInt8):lanesTo y l 4=(y.stp l).li:=by rw [lanesTo,fourTo_four,LN.li,LN.stp]
theorem lanesTo_get (y:LN) (l:List UInt8) {i:Nat} (h:i<4):(lanesTo y l i)[i]? =some (y.li.getD i 0):=by rw [lanesTo,fourTo_get _ _ _ _ _ h,LN.li]
theorem lanesTo_set (y:LN) (l:List UInt8) {i:Nat} (h:i<4):(lanesTo y l i).set i (Tryz.stp l i (y.li.getD i 0))=lanesTo y l (i+1):=by rw [lanesTo,lanesTo,LN.li,fourTo_set _ _ _ _ _ h]
theorem lanesTo_len (y:LN) (l:List UInt8) (i:Nat):(lanesTo y l i).length=4:=by rw [lanesTo,fourTo];rfl
theorem u64s_setA (l:List Nat) (j v:Nat):(u64s l).toArray.setIfInBounds j (.int .u64 (v:Int))=(u64s (l.set j v)).toArray:=by
 apply Array.ext'
 simp only [u64s,Array.toList_setIfInBounds,List.map_set]
theorem u64s_getA {l:List Nat} {j v:Nat} (h:l[j]? =some v):(u64s l).toArray[j]? =some (.int .u64 (v:Int)):=by
 rw [List.getElem?_toArray];exact u64s_get h
theorem readW {l:List UInt8} {i:Nat} (h:i+8≤l.length):readR l (i:Int) wgetR=(le ((l.drop i).take 8),i+8,0):=by
 have hdl:(l.drop i).length=l.length-i:=List.length_drop
 have hw:wgetR (l.drop i)=(le ((l.drop i).take 8),8,0):=by rw [wgetR,if_neg (by omega)]
 rw [readR,if_neg (by omega),Int.toNat_natCast,hw];rfl
theorem fold4 (f:Nat→Nat→Nat) (x a b c d:Nat): [a,b,c,d].foldl f x=f (f (f (f x a) b) c) d:=rfl
theorem join_fold (z:LN):joinN z.a z.b z.c z.d=z.li.foldl mergeN ((((rotl z.a 1+rotl z.b 7)%WW+rotl z.c 12)%WW+rotl z.d 18)%WW):=by
 rw [joinN,LN.li,fold4]
theorem T_r1_Sum (s:Nat) (hs:s<WW) (l:List UInt8) (hl:l.length≤140737488355328) (w:World):Calls prog n_r1_Sum #[.int .u64 (s:Int),.string (S l)] w fun e w'=>e= .returned (.int .u64 (sumN s l:Nat))∧Fr [] w w':=by
 refine S_r1_Sum ?_
 unfold F_r1_Sum
 rw [S_size]
 intro J19 hJ19
 have tail:∀(h at_:Nat) (w1:World),h<WW→at_≤l.length→Fr [] w w1→sumN s l=mixN (tail8 ((h+l.length%WW)%WW) (l.drop at_))→J19 (h:Int) (at_:Int) w1:=by
  intro h at_ w1 hh hat hf hsum
  refine hJ19 _ _ w1 ?_
  rw [U64_nat,U64_add]
  refine⟨fun m x y w2=>∃h' a':Nat,x=(h':Int)∧y=(a':Int)∧h'<WW∧a'≤l.length∧m+a'=l.length∧sumN s l=mixN (tail8 h' (l.drop a'))∧Fr [] w w2,
   ⟨l.length-at_,_,at_,rfl,rfl,modW _,hat,by omega,hsum,hf⟩,?_⟩
  clear hsum hf hat hh h
  rintro m x y w2 ⟨h,a',rfl,rfl,hh,ha,hm,hsum,hf⟩
  have hdl:(l.drop a').length=l.length-a':=List.length_drop
  rw [W64_idn (n:=(a':Int)+8) (m:=a'+8) (by omega) (by omega)]
  refine bif_i (fun hc=>?_) fun hc=>?_
  · have hc:a'+8≤l.length:=by have:=of_decide_eq_true hc;omega
    refine(T_r1_GetWord l a' (by omega) w2).mono ?_
    rintro e w3 ⟨rfl,hf3⟩
    rw [readW hc]
    refine⟨_,_,_,rfl,(T_r1_Round 0 (le ((l.drop a').take 8)) w3).mono ?_⟩
    rintro e w4 ⟨rfl,hf4⟩
    have hr:=roundN_lt 0 (le ((l.drop a').take 8))
    refine⟨_,rfl,?_⟩
    rw [xorI_u64 _ _ hh hr]
    refine(T_r1_rol _ _ 27 rfl (by decide) (xor_lt' hh hr) w4).mono ?_
    rintro e w5 ⟨rfl,hf5⟩
    refine⟨_,rfl,m-8,by omega,(rotl (h^^^roundN 0 (le ((l.drop a').take 8))) 27*q1%WW+q4)%WW,a'+8,?_,rfl,modW _,by omega,by omega,?_,((hf.trans hf3).trans hf4).trans hf5⟩
    · rw [show(11400714785074694791:Int)=((q1:Nat):Int)from rfl,show(9650029242287828579:Int)=((q4:Nat):Int)from rfl,U64_mul,U64_add]
    · rw [hsum,tail8,dif_pos (by omega),List.drop_drop]
  · have hc:l.length<a'+8:=by have:=of_decide_eq_false hc;omega
    rw [tail8,dif_neg (by omega)]at hsum
    intro J31 hJ31
    have tail1':∀(h a':Nat) (w3:World),h<WW→a'≤l.length→Fr [] w w3→sumN s l=mixN (tail1 h (l.drop a'))→J31 (h:Int) (a':Int) w3:=by
     intro h a' w3 hh ha hf hsum
     refine hJ31 _ _ w3 ?_
     refine⟨fun m x y w4=>∃h' a':Nat,x=(h':Int)∧y=(a':Int)∧h'<WW∧a'≤l.length∧m+a'=l.length∧sumN s l=mixN (tail1 h' (l.drop a'))∧Fr [] w w4,
      ⟨l.length-a',h,a',rfl,rfl,hh,ha,by omega,hsum,hf⟩,?_⟩
     clear hsum hf ha hh h
     rintro m x y w4 ⟨h,a',rfl,rfl,hh,ha,hm,hsum,hf⟩
     refine bif_i (fun hc=>?_) fun hc=>?_
     · have hc:a'<l.length:=by have:=of_decide_eq_true hc;omega
       have hb:=l[a'].toNat_lt
       have hx:h^^^l[a'].toNat*q5%WW<WW:=xor_lt' hh (modW _)
       refine⟨by omega,l[a'],by rw [S_get,Int.toNat_natCast];exact List.getElem?_eq_getElem hc,?_⟩
       rw [U64_nat,Nat.mod_eq_of_lt (show l[a'].toNat<18446744073709551616 by omega),show(2870177450012600261:Int)=((q5:Nat):Int)from rfl,U64_mul,xorI_u64 _ _ hh (modW _)]
       refine(T_r1_rol _ _ 11 rfl (by decide) hx w4).mono ?_
       rintro e w5 ⟨rfl,hf5⟩
       refine⟨_,rfl,m-1,by omega,rotl (h^^^l[a'].toNat*q5%WW) 11*q1%WW,a'+1,?_,W64_succ (by omega),modW _,by omega,by omega,?_,hf.trans hf5⟩
       · rw [show(11400714785074694791:Int)=((q1:Nat):Int)from rfl,U64_mul]
       · rw [hsum,List.drop_eq_getElem_cons hc];simp only [tail1,List.foldl_cons]
     · have hc:a'=l.length:=by have:=of_decide_eq_false hc;omega
       subst hc
       rw [List.drop_of_length_le (Nat.le_refl _)]at hsum
       refine(T_r1_Mix h hh w4).mono ?_
       rintro e w5 ⟨rfl,hf5⟩
       exact⟨_,rfl,by rw [hsum];simp only [tail1,List.foldl_nil],hf.trans hf5⟩
    rw [W64_idn (n:=(a':Int)+4) (m:=a'+4) (by omega) (by omega)]
    refine bif_i (fun hc4=>?_) fun hc4=>?_
    · have hc4:a'+4≤l.length:=by have:=of_decide_eq_true hc4;omega
      rw [tail4,if_pos (by omega),List.drop_drop]at hsum
      refine⟨fun m x y w3=>∃k:Nat,x=((le ((l.drop a').take k):Nat):Int)∧y=(k:Int)∧m+k=4∧Fr [] w w3,⟨4,0,rfl,rfl,rfl,hf⟩,?_⟩
      clear hf
      rintro m x y w3 ⟨k,rfl,rfl,hmk,hf⟩
      refine bif_i (fun hk=>?_) fun hk=>?_
      · have hk:k<4:=by have:=of_decide_eq_true hk;omega
        have e1:W64 ((a':Int)+(k:Int))=((a'+k:Nat):Int):=W64_idn (by omega) (by omega)
        have e2:W64 ((8:Int)*(k:Int))=((8*k:Nat):Int):=W64_idn (by omega) (by omega)
        rw [e1,e2]
        have hik:a'+k<l.length:=by omega
        have hb:=l[a'+k].toNat_lt
        have htl:((l.drop a').take k).length=k:=by rw [List.length_take];omega
        have hle:=le_lt ((l.drop a').take k)
        rw [htl]at hle
        have hp:(256:Nat)^k=2^(8*k):=by rw [Nat.pow_mul]
        rw [hp]at hle
        have h56:2^(8*k)≤2^24:=Nat.pow_le_pow_right (by decide) (by omega)
        have e56:(2:Nat)^24=16777216:=by decide
        have hmul:l[a'+k].toNat*2^(8*k)<18446744073709551616:=by
         have:=Nat.mul_le_mul (show l[a'+k].toNat≤255 by omega) h56
         omega
        refine⟨by omega,l[a'+k],by rw [S_get,Int.toNat_natCast];exact List.getElem?_eq_getElem hik,by omega,m-1,by omega,k+1,?_,W64_succ (by omega),by omega,hf⟩
        rw [U64_nat,Nat.mod_eq_of_lt (by omega),shlI_u64 _ _ (by omega),Nat.mod_eq_of_lt hmul,orI_u64 _ _ (by omega) hmul,or_add _ _ _ hle]
        have hg:(l.drop a')[k]? =some l[a'+k]:=by rw [List.getElem?_drop];exact List.getElem?_eq_getElem hik
        rw [List.take_add_one,hg]
        show _=((le (List.take k (List.drop a' l)++ [l[a'+k]]):Nat):Int)
        rw [le_app,htl,hp,Nat.mul_comm]
      · have hk:k=4:=by have:=of_decide_eq_false hk;omega
        subst hk
        have hx:h^^^le ((l.drop a').take 4)*q1%WW<WW:=xor_lt' hh (modW _)
        rw [show(11400714785074694791:Int)=((q1:Nat):Int)from rfl,U64_mul,xorI_u64 _ _ hh (modW _)]
        refine(T_r1_rol _ _ 23 rfl (by decide) hx w3).mono ?_
        rintro e w4 ⟨rfl,hf4⟩
        refine⟨_,rfl,?_⟩
        rw [show(14029467366897019727:Int)=((q2:Nat):Int)from rfl,show(1609587929392839161:Int)=((q3:Nat):Int)from rfl,U64_mul,U64_add]
        exact tail1' _ _ w4 (modW _) hc4 (hf.trans hf4) hsum
    · have hc4:l.length<a'+4:=by have:=of_decide_eq_false hc4;omega
      rw [tail4,if_neg (by omega)]at hsum
      exact tail1' _ _ w2 hh ha hf hsum
 refine bif_i (fun hc=>?_) fun hc=>?_
 · have h32:32≤l.length:=by have:=of_decide_eq_true hc;omega
   have e1:U64 ((s:Int)-(11400714785074694791:Int))=(((s+(WW-q1))%WW:Nat):Int):=by
    rw [show U64 ((s:Int)-(11400714785074694791:Int))=_ from wrap_u64 _]
    have e0:(s+(WW-q1))%WW=(s+7046029288634856825)%18446744073709551616:=by rw [show WW-q1=7046029288634856825 from rfl,show WW=18446744073709551616 from rfl]
    rw [e0];omega
   rw [e1,show(11400714785074694791:Int)=((q1:Nat):Int)from rfl,show(14029467366897019727:Int)=((q2:Nat):Int)from rfl,U64_add,U64_add]
   refine(Sx.start [] w).alloc fun w12 b28 _ H=>⟨by decide,by decide,OSome.i ⟨_,H.cell 0 rfl rfl,by decide,by decide,OSome.i ?_⟩⟩
   rw [U64_add]
   refine H.sto 0 rfl (by simp) fun w13 _ H=>?_
   have hsm:sumN s l=mixN (tail8 ((joinN (lanesN (begunN s) l).1.a (lanesN (begunN s) l).1.b (lanesN (begunN s) l).1.c (lanesN (begunN s) l).1.d+l.length%WW)%WW) (lanesN (begunN s) l).2):=by
    rw [sumN,if_neg (by omega)]
   have hbok:(begunN s).ok:=by rw [LN.ok,begunN];exact⟨modW _,modW _,hs,modW _⟩
   have hb0:(u64s (begunN s).li).toArray= #[.int .u64 ((((s+q1)%WW+q2)%WW:Nat):Int),.int .u64 (((s+q2)%WW:Nat):Int),.int .u64 (s:Int),.int .u64 (((s+(WW-q1))%WW:Nat):Int)]:=by
    simp only [begunN,LN.li,u64s,List.map_cons,List.map_nil]
   have H:Sx [] w w13 [.ob b28 (.cells #[.int .u64 ((((s+q1)%WW+q2)%WW:Nat):Int),.int .u64 (((s+q2)%WW:Nat):Int),.int .u64 (s:Int),.int .u64 (((s+(WW-q1))%WW:Nat):Int)] t_uint64 (0,0))]:=H
   rw [←hb0]at H
   refine⟨fun m y w14=>∃(a':Nat) (z:LN),y=(a':Int)∧m+a'=l.length∧z.ok∧lanesN z (l.drop a')=lanesN (begunN s) l∧Sx [] w w14 [.ob b28 (.cells (u64s z.li).toArray t_uint64 (0,0))],
    ⟨l.length,0,begunN s,rfl,rfl,hbok,by rw [List.drop_zero],H⟩,?_⟩
   clear hbok
   rintro m y w14 ⟨a',z,rfl,hma,hz,hln,H⟩
   have hdl:(l.drop a').length=l.length-a':=List.length_drop
   rw [W64_idn (n:=(a':Int)+32) (m:=a'+32) (by omega) (by omega)]
   refine bif_i (fun hc=>?_) fun hc=>?_
   · have hc:a'+32≤l.length:=by have:=of_decide_eq_true hc;omega
     refine⟨fun m' x y w15=>∃i:Nat,x=((a'+8*i:Nat):Int)∧y=(i:Int)∧m'+i=4∧Sx [] w w15 [.ob b28 (.cells (u64s (lanesTo z (l.drop a') i)).toArray t_uint64 (0,0))],
      ⟨4,0,rfl,rfl,rfl,by rw [lanesTo_zero];exact H⟩,?_⟩
     clear H
     rintro m' x y w15 ⟨i,rfl,rfl,hmi,H⟩
     refine bif_i (fun h=>?_) fun h=>?_
     · have hi:i<4:=by have:=of_decide_eq_true h;omega
       have hg:=lanesTo_get z (l.drop a') hi
       refine H.drew fun w16 _ H=>⟨by omega,by omega,OSome.i ⟨_,by rw [A0_add,Int.toNat_natCast,Nat.mul_one];exact H.cell 0 rfl (u64s_getA hg),?_⟩⟩
       refine(T_r1_GetWord l ((a'+8*i:Nat):Int) (by omega) w16).mono ?_
       rintro e w17 ⟨rfl,hf17⟩
       have H:=H.call0 hf17
       rw [readW (by omega)]
       refine⟨_,_,_,rfl,⟨hf17.cell0,trivial⟩,(T_r1_Round _ _ w17).mono ?_⟩
       rintro e w18 ⟨rfl,hf18⟩
       have H:=H.call0 hf18
       refine⟨_,rfl,trivial,by omega,by omega,OSome.i ?_⟩
       rw [A0_add,Int.toNat_natCast,Nat.mul_one]
       refine H.sto 0 rfl (by simp [lanesTo_len];omega) fun w19 _ H=>⟨trivial,m'-1,by omega,i+1,?_,W64_succ (by omega),by omega,?_⟩
       · rw [W64_idn (n:=((a'+8*i:Nat):Int)+8) (m:=a'+8*(i+1)) (by omega) (by omega)]
       · have es:roundN (z.li.getD i 0) (le ((l.drop (a'+8*i)).take 8))=Tryz.stp (l.drop a') i (z.li.getD i 0):=by
          rw [Tryz.stp,List.drop_drop]
         rw [es,u64s_setA,lanesTo_set _ _ hi]at H
         exact H
     · have hi:i=4:=by have:=of_decide_eq_false h;omega
       subst hi
       rw [lanesTo_four]at H
       refine⟨m-32,by omega,a'+32,z.stp (l.drop a'),rfl,by omega,LN.stp_ok _ _,?_,H⟩
       rw [←hln,←List.drop_drop,lanesN.eq_1 z (l.drop a'),dif_pos (by omega)]
   · have hc:l.length<a'+32:=by have:=of_decide_eq_false hc;omega
     rw [lanesN,dif_neg (by omega)]at hln
     have hl1:(lanesN (begunN s) l).1=z:=by rw [←hln]
     have hl2:(lanesN (begunN s) l).2=l.drop a':=by rw [←hln]
     rw [hl1,hl2]at hsm
     obtain⟨z1,z2,z3,z4⟩:=hz
     refine H.drew fun w20 _ H=>⟨by decide,by decide,OSome.i ⟨_,H.cell 0 rfl rfl,by decide,by decide,OSome.i ⟨_,by rw [A0_add];exact H.cell 0 rfl rfl,by decide,by decide,OSome.i ⟨_,by rw [A0_add];exact H.cell 0 rfl rfl,by decide,by decide,OSome.i ⟨_,by rw [A0_add];exact H.cell 0 rfl rfl,?_⟩⟩⟩⟩⟩
     refine(T_r1_rol z.a _ 1 rfl (by decide) z1 w20).mono ?_
     rintro e w21 ⟨rfl,hf21⟩
     refine⟨_,rfl,⟨hf21.cell0,hf21.cell0,hf21.cell0,trivial⟩,(T_r1_rol z.b _ 7 rfl (by decide) z2 w21).mono ?_⟩
     rintro e w22 ⟨rfl,hf22⟩
     refine⟨_,rfl,⟨hf22.cell0,hf22.cell0,hf22.cell0,trivial⟩,(T_r1_rol z.c _ 12 rfl (by decide) z3 w22).mono ?_⟩
     rintro e w23 ⟨rfl,hf23⟩
     refine⟨_,rfl,⟨hf23.cell0,hf23.cell0,hf23.cell0,trivial⟩,(T_r1_rol z.d _ 18 rfl (by decide) z4 w23).mono ?_⟩
     rintro e w24 ⟨rfl,hf24⟩
     have H:=H.call0 (((hf21.trans hf22).trans hf23).trans hf24)
     refine⟨_,rfl,⟨hf24.cell0,hf24.cell0,hf24.cell0,trivial⟩,?_⟩
     rw [U64_add,U64_add,U64_add]
     have hst:(((rotl z.a 1+rotl z.b 7)%WW+rotl z.c 12)%WW+rotl z.d 18)%WW<WW:=modW _
     rw [join_fold]at hsm
     obtain⟨h0,e0⟩:∃h0:Nat,h0=(((rotl z.a 1+rotl z.b 7)%WW+rotl z.c 12)%WW+rotl z.d 18)%WW:=⟨_,rfl⟩
     rw [←e0]at hsm hst ⊢
     refine⟨fun m' x y w25=>∃(i h:Nat),x=(h:Int)∧y=(i:Int)∧m'+i=4∧h<WW∧(z.li.drop i).foldl mergeN h=z.li.foldl mergeN h0∧Sx [] w w25 [.ob b28 (.cells (u64s z.li).toArray t_uint64 (0,0))],
      ⟨4,0,h0,rfl,rfl,rfl,hst,by rw [List.drop_zero],H⟩,?_⟩
     clear H hst
     rintro m' x y w25 ⟨i,h,rfl,rfl,hmi,hh,hfold,H⟩
     refine bif_i (fun hlt=>?_) fun hge=>?_
     · have hi:i<4:=by have:=of_decide_eq_true hlt;omega
       have hli:z.li.length=4:=rfl
       have hge:z.li[i]'(by omega)=z.li.getD i 0:=by rw [List.getD_eq_getElem?_getD,List.getElem?_eq_getElem (by omega),Option.getD_some]
       have hg:z.li[i]? =some (z.li.getD i 0):=by rw [←hge];exact List.getElem?_eq_getElem (by omega)
       refine⟨by omega,by omega,OSome.i ⟨_,by rw [A0_add,Int.toNat_natCast,Nat.mul_one];exact H.cell 0 rfl (u64s_getA hg),?_⟩⟩
       refine(T_r1_Round 0 _ w25).mono ?_
       rintro e w26 ⟨rfl,hf26⟩
       have H:=H.call0 hf26
       refine⟨_,rfl,m'-1,by omega,i+1,mergeN h (z.li.getD i 0),?_,W64_succ (by omega),by omega,modW _,?_,H⟩
       · rw [xorI_u64 _ _ hh (roundN_lt _ _),show(9650029242287828579:Int)=((q4:Nat):Int)from rfl,U64_mul,U64_add];rw [mergeN]
       · rw [←hfold,List.drop_eq_getElem_cons (by omega:i<z.li.length),List.foldl_cons,hge]
     · have hi:i=4:=by have:=of_decide_eq_false hge;omega
       subst hi
       have hd:z.li.drop 4= []:=rfl
       rw [hd,List.foldl_nil]at hfold
       rw [←hfold]at hsm
       exact tail h a' w25 hh (by omega) H.fr hsm
 · have h32:l.length<32:=by have:=of_decide_eq_false hc;omega
   rw [show(2870177450012600261:Int)=((q5:Nat):Int)from rfl,U64_add]
   exact tail _ 0 w (modW _) (Nat.zero_le _) (Fr.refl _ _) (by rw [sumN,if_pos h32,List.drop_zero])
end Go.Proofs.Tryz
