import Derived.Laws.IdiomStrings
import Derived.Laws.OwnMore
import Derived.Lib.AppendStr
import Derived.Test.YtoeokgpdmagjoaaGreatProg
import Derived.Test.YtoeokgpdmagjoaaGreatT0
/-
A part of the proof: steps of the walk and plain laws.
-/
set_option linter.unusedVariables false
namespace Go.Proofs.VC
open Go Go.RowKit
theorem Fr.grown {w w':World} (h:Fr [] w w'):w.grownBy w' none:=⟨h.os,h.tape,h.output,h.size,fun k hk _=>h.block k hk (by simp)⟩
def Grows (J:World→Prop):Prop:=∀W W',J W→W.grownBy W' none→J W'
def SeqN (P:Program) (gf:Nat) (lb:Array Value) (vals:Nat→List Value) (N:Nat) (Kp:World→World→Prop) (w:World):Prop:=
 ∀(l:Nat) (J:Nat→World→Prop) (Jx:World→Prop) (W:World),w.grownBy W none→(∀k,Grows (J k))→Grows Jx→
  (∀k W1,k<N→J k W1→YieldAt Fence.wide 0 P l (vals k).toArray W1 fun e W'=>(e= .returned (.bool true)∧J (k+1) W'∧Kp W1 W')∨(e= .returned (.bool false)∧Jx W'))→
  J 0 W→CallsIn Fence.wide 0 P gf (#[.func (.yield l) #[] #[]]++lb) W fun e W'=>(∃v,e= .returned v)∧(J N W'∨Jx W')
def Book (B:Nat) (rec:LoopState→Option Code→Loop) (st:LoopState) (p:Option Code) (W:World):Prop:=
 W.heap[B+1]? =some (.loop (rec st p))∧W.heap[B]? =some (.deferred (some []))
theorem Book.keeps {B:Nat} {rec:LoopState→Option Code→Loop} {st:LoopState} {p:Option Code} {W W':World} (h:Book B rec st p W) (hk:KeepsFrom B W W'):Book B rec st p W':=
 ⟨hk.same _ _ (by omega) h.1 rfl,hk.same _ _ (Nat.le_refl _) h.2 rfl⟩
theorem Book.turn {B:Nat} {rec:LoopState→Option Code→Loop} {st st':LoopState} {p p':Option Code} {W:World} (h:Book B rec st p W):Book B rec st' p' (W.putObj (B+1) (.loop (rec st' p'))):=
 ⟨World.putObj_heap_same (Array.getElem?_eq_some_iff.1 h.1).1,(World.putObj_heap_other (by omega)).trans h.2⟩
theorem Book.grows {B:Nat} {rec:LoopState→Option Code→Loop} {st:LoopState} {p:Option Code}:Grows (Book B rec st p):=fun W W' h hg=>
 ⟨(hg.block _ (Array.getElem?_eq_some_iff.1 h.1).1 (by simp)).trans h.1,(hg.block _ (Array.getElem?_eq_some_iff.1 h.2).1 (by simp)).trans h.2⟩
def OwnF (B:Nat) (I:World→Prop):Prop:=∀W W' row,I W→W.grownBy W' row→(∀r,row=some r→B≤r∧∃o:Obj,W.heap[r]? =some o∧o.isCells=false)→I W'
theorem OwnF.put {B:Nat} {I:World→Prop} (h:OwnF B I) {W:World} {l:Nat} {o:Obj} (o':Obj) (hs:I W) (hB:B≤l) (hl:W.heap[l]? =some o) (ho:o.isCells=false):I (W.putObj l o'):=
 h W _ (some l) hs (grownBy_putObj' W l o') fun r e=>by cases e;exact⟨hB,o,hl,ho⟩
theorem OwnF.grows {B:Nat} {I:World→Prop} (h:OwnF B I):Grows I:=fun W W' hs hg=>h W W' none hs hg (by simp)
structure RangeOk (P:Program) (gf:Nat) (lb:Array Value) (np:Nat) (vals:Nat→List Value) (N:Nat) (I:Nat→World→Prop) (Ix:World→Prop) (Kp:World→World→Prop) (w:World):Prop where
 seq:SeqN P gf lb vals N Kp w
 len:∀k,(vals k).length=np
 trans:∀ {A B C:World},Kp A B→Kp B C→Kp A C
 put:∀(W:World) (l:Nat) (o o':Obj),w.heap.size≤l→W.heap[l]? =some o→o.isCells=false→Kp W (W.putObj l o')
 own:∀k,OwnF w.heap.size (I k)
 ownx:OwnF w.heap.size Ix
 start:I 0 w
theorem wp_range {P:Program} {g:Operand} {ps:Array Tmp} {assign body:Code} {Q:Exit→Act→World→Prop} {a:Act} {w:World} {gf:Nat} {lb:Array Value} (hg:a.eval g= .func (.func gf) #[] lb)
 (eg:∀args w,(callFunc gf args).run P w= .ok (.enter gf args) w) {vals:Nat→List Value} {N:Nat} {I:Nat→World→Prop} {Ix:World→Prop} {Kp:World→World→Prop} (h:RangeOk P gf lb ps.size vals N I Ix Kp w)
 (hround:∀(l k:Nat) (W:World),k<N→I k W→assign.wpIn (fenceR (some l)) 0 P (fun e a' W'=>e= .normal∧KeepsFrom w.heap.size W W'∧Kp W W'∧∃Im:World→Prop,OwnF w.heap.size Im∧Im W'∧∀W2,Im W2→body.wpIn (fenceR (some l)) 0 P (fun e _ W3=>
  (e= .normal∧KeepsFrom w.heap.size W2 W3∧Kp W2 W3∧I (k+1) W3)∨(e= .ret∧KeepsFrom w.heap.size W2 W3∧Ix W3)) a' W2) {tmps:=(ps.zip (vals k).toArray).foldl (fun t (p,v)=>t.setIfInBounds p v) a.tmps,defers:= []} W)
 (hdone:∀D W,w.heap.size≤D→I N W→W.heap[D]? =some (.deferred (some []))→Q .normal {a with defers:= {target:= .collected D,args:= #[]}::a.defers} W)
 (hstop:∀D W,w.heap.size≤D→Ix W→W.heap[D]? =some (.deferred (some []))→Q .ret {a with defers:= {target:= .collected D,args:= #[]}::a.defers} W):
 (Code.rangeFunc g ps assign body).wpIn Fence.wide 0 P Q a w:=by
 refine wpIn_rangeFunc fun fn hfn=>?_
 obtain⟨rec,hrec⟩:∃rec:LoopState→Option Code→Loop,rec=fun st pe=> {state:=st,pending:=pe,fn,tmps:=a.tmps,params:=ps,assign,body,defers:=w.heap.size}:=⟨_,rfl⟩
 obtain⟨W1,hW1⟩:∃W1,(w.alloc (.deferred (some []))).alloc (.loop (rec .ready none))=W1:=⟨_,rfl⟩
 have hgrow:w.grownBy W1 none:=by
  rw [←hW1]
  exact((Fr.alloc [] w _).trans (Fr.alloc [] _ _)).grown
 have hB1:Book w.heap.size rec .ready none W1:=by
  rw [←hW1]
  refine⟨?_,?_⟩
  · have:=World.alloc_heap_new (w.alloc (.deferred (some []))) (.loop (rec .ready none))
    rwa [World.size_alloc]at this
  · exact(Below.heap_alloc _ _ _ (by simp)).trans (World.alloc_heap_new w _)
 refine⟨w.heap.size+1,[{target:= .collected w.heap.size,args:= #[]}],W1,{target:= .fn (.func gf) lb,args:= #[.func (.yield (w.heap.size+1)) #[] #[]]},W1,gf,
  #[.func (.yield (w.heap.size+1)) #[] #[]]++lb,W1,?_,?_,fun _ _=>trivial,?_,(fun hd=>by cases hd),?_⟩
 · rw [←hW1,hrec];exact run_enterLoop_outer _ _ _ _ _
 · simp only [resolve,hg]
   simp [go_sem]
 · simp [invoke,go_sem,eg]
 refine(h.seq (w.heap.size+1) (fun k W=>I k W∧Book w.heap.size rec .ready none W) (fun W=>Ix W∧Book w.heap.size rec .done (some .ret) W) W1 hgrow
  (fun k W W' hs hg'=>⟨(h.own k).grows W W' hs.1 hg',Book.grows W W' hs.2 hg'⟩) (fun W W' hs hg'=>⟨h.ownx.grows W W' hs.1 hg',Book.grows W W' hs.2 hg'⟩) ?_ ⟨(h.own 0).grows _ _ h.start hgrow,hB1⟩).mono ?_
 · rintro k W hk ⟨hi,hb⟩
   have hy:=run_yield (P:=P) (args:=(vals k).toArray) hb.1 (by rw [hrec];simpa using h.len k)
   rw [hrec]at hy
   refine⟨fn,_,assign,body,hy,roundIn_of_wpIn hfn (wpIn_mono (hround (w.heap.size+1) k W hk hi) ?_)⟩
   rintro e a' W' ⟨rfl,hk0,hkp0,Im,hown,him,hbody⟩
   have hb:=hb.keeps hk0
   have hb2:Book w.heap.size rec .busy none (W'.putObj (w.heap.size+1) (.loop (rec .busy none))):=hb.turn
   have hbr:(Instr.beginRound (w.heap.size+1)).run P W'= .ok () (W'.putObj (w.heap.size+1) (.loop (rec .busy none))):=by
    have:=run_beginRound (P:=P) hb.1 (by rw [hrec])
    rw [hrec]at this ⊢
    exact this
   refine⟨_,hbr,wpIn_mono (hbody _ (hown.put _ him (by omega) hb.1 rfl)) ?_⟩
   have fin:∀(jump:Option Code) (W3:World),KeepsFrom w.heap.size (W'.putObj (w.heap.size+1) (.loop (rec .busy none))) W3→
    (Instr.endRound (w.heap.size+1) jump).run P W3= .ok (.bool jump.isNone) (W3.putObj (w.heap.size+1) (.loop (rec (if jump.isNone then .ready else .done) jump))):=fun jump W3 hk3=>by
    have:=run_endRound (P:=P) jump (hb2.keeps hk3).1
    rw [hrec]at this ⊢
    exact this
   rintro e a3 W3 (⟨rfl,hk3,hkp3,hi3⟩|⟨rfl,hk3,hi3⟩)
   · have hb3:=hb2.keeps hk3
     exact⟨_,_,fin none W3 hk3,.inl ⟨rfl,⟨(h.own _).put _ hi3 (by omega) hb3.1 rfl,hb3.turn⟩,h.trans (h.trans hkp0 (h.trans (h.put _ _ _ _ (by omega) hb.1 rfl) hkp3)) (h.put _ _ _ _ (by omega) hb3.1 rfl)⟩⟩
   · have hb3:=hb2.keeps hk3
     exact⟨_,_,fin (some .ret) W3 hk3,.inr ⟨rfl,h.ownx.put _ hi3 (by omega) hb3.1 rfl,hb3.turn⟩⟩
 · have fin:∀(st:LoopState) (p:Option Code) (W2:World),st≠ .busy→Book w.heap.size rec st p W2→(Instr.endLoop (w.heap.size+1)).run P W2= .ok p (W2.putObj (w.heap.size+1) (.loop (rec .exhausted p))):=fun st p W2 hst hb=>by
    have:=run_endLoop (P:=P) hb.1 (by rw [hrec];exact hst)
    rw [hrec]at this ⊢
    exact this
   rintro e W2 ⟨⟨v,rfl⟩,⟨hi,hb⟩|⟨hi,hb⟩⟩
   · exact⟨none,_,fin _ _ _ (by decide) hb,hdone _ _ (Nat.le_refl _) ((h.own N).put _ hi (by omega) hb.1 rfl) (hb.turn (st':= .exhausted)).2⟩
   · exact⟨some .ret,_,fin _ _ _ (by decide) hb,wpIn_ret (hstop _ _ (Nat.le_refl _) (h.ownx.put _ hi (by omega) hb.1 rfl) (hb.turn (st':= .exhausted) (p':=some .ret)).2)⟩
end Go.Proofs.VC
namespace Go.Proofs.VC
open Go Go.RowKit
def hasRF:Code→Bool
 | .rangeFunc .. =>true
 | .seq a b=>hasRF a||hasRF b
 | .block _ c=>hasRF c
 |_=>false
def marks (ds:List Nat):List Deferred:=ds.map fun D=> {target:= .collected D,args:= #[]}
def endM:List Nat→World→(World→Prop)→Prop
 | [],w,K=>K w
 |D::ds,w,K=>w.heap[D]? =some (.deferred (some []))∧endM ds (w.putObj D (.deferred none)) K
section
variable (P:Program) (T:Nat→TI) (fok:Nat→Bool) (n:Nat) (A:Ann) {α:Type} (enc:α→List Value)
def vcT:Nat→Code→List Nat→E→World→(Ex→List Nat→E→World→Prop)→Prop
 |_,.rangeFunc g ps assign body,ds,f,w,K=>
  cond (knO f g&&(noDef assign&&noDef body)&&ps.toList.all fun p=>Nat.blt p n) (match evD f g with
   | .func (.func gf) cap lb=>cond (cap.isEmpty&&fok gf) (∃(N:Nat) (vals:Nat→α) (I:Nat→World→Prop) (Ix:World→Prop) (Kp:World→World→Prop),
    RangeOk P gf lb ps.size (fun k=>enc (vals k)) N I Ix Kp w∧
    (∀k,k<N→∀w1,I k w1→vcC P T fok n A 0 assign (setL f ps.toList (enc (vals k))) w1 fun e f1 w2=>match e with
     | .nrm=>KeepsFrom w.heap.size w1 w2∧Kp w1 w2∧∃Im:World→Prop,OwnF w.heap.size Im∧Im w2∧∀w3,Im w3→vcC P T fok n A 0 body f1 w3 fun e _ w4=>match e with
       | .nrm=>KeepsFrom w.heap.size w3 w4∧Kp w3 w4∧I (k+1) w4
       | .ret=>KeepsFrom w.heap.size w3 w4∧Ix w4
       | .brk _=>False
     |_=>False)∧
    (∀D w1,w.heap.size≤D→I N w1→w1.heap[D]? =some (.deferred (some []))→K .nrm (D::ds) f w1)∧
    (∀D w1,w.heap.size≤D→Ix w1→w1.heap[D]? =some (.deferred (some []))→K .ret (D::ds) f w1)) False
   |_=>False) False
 |cur,.seq a b,ds,f,w,K=>cond (hasRF a||hasRF b)
  (match A.join (firstReg b)with
   |none=>vcT cur a ds f w fun e ds' f' w'=>match e with| .nrm=>vcT cur b ds' f' w' K|e=>K e ds' f' w'
   |some (M,slots,tys)=>cond (cov M a&&slots.length==tys.length)
    (∀J:CurT (World→Prop) tys,(AllL tys fun vs=>∀w1,vcT cur b ds (setL (mask M f) slots vs) w1 K→appT tys J vs fun j=>j w1)→
     vcC P T fok n A cur a f w fun e f' w'=>match e with| .nrm=>getL f' slots fun vs=>appT tys J vs fun j=>j w'|e=>K e ds f' w') False)
  (vcC P T fok n A cur (.seq a b) f w fun e f' w'=>K e ds f' w')
 |_,.block id c,ds,f,w,K=>cond (hasRF c)
  (vcT id c ds f w fun e ds' f' w'=>match e with| .brk id'=>cond (Nat.beq id' id) (K .nrm ds' f' w') (K (.brk id') ds' f' w')|e=>K e ds' f' w')
  (vcC P T fok n A 0 (.block id c) f w fun e f' w'=>K e ds f' w')
 |cur,c,ds,f,w,K=>vcC P T fok n A cur c f w fun e f' w'=>K e ds f' w'
end
section
variable {P:Program} {T:Nat→TI} {fok:Nat→Bool} {n:Nat} {A:Ann} {α:Type} {enc:α→List Value}
def PostT (n:Nat) (K:Ex→List Nat→E→World→Prop):Exit→Act→World→Prop:=
 fun e a' w'=>∃x ds f' a0,e=x.to∧K x ds f' w'∧Rep n a0 f'∧a'=dl (marks ds) a0
theorem vcT_of_C (H:Tab P T fok) {c:Code} {cur:Nat} {ds:List Nat} {f:E} {w:World} {K:Ex→List Nat→E→World→Prop} {a:Act} (hd:noDef c=true) (hr:Rep n a f) (h:vcC P T fok n A cur c f w fun e f' w'=>K e ds f' w'):
 c.wpIn Fence.wide 0 P (PostT n K) (dl (marks ds) a) w:=by
 refine wpIn_mono (vcC_soundL (ro:=none) (m:=0) (ds:=marks ds) H c cur hd hr h) ?_
 rintro e a' w' ⟨a0,⟨ex,f',rfl,h1,h2,h3⟩,rfl⟩
 exact⟨ex,ds,f',a0,rfl,h1,h2,rfl⟩
def noDefT:Code→Bool
 | .rangeFunc .. =>true
 | .seq a b=>noDefT a&&noDefT b
 | .block _ c=>noDefT c
 |c=>noDef c
theorem noDefT_of:∀ {c:Code},hasRF c=false→noDefT c=true→noDef c=true
 | .rangeFunc ..,h,_=>by cases h
 | .seq a b,h,h2=>by
   simp only [hasRF,Bool.or_eq_false_iff]at h
   simp only [noDefT,Bool.and_eq_true]at h2
   simp only [noDef,Bool.and_eq_true]
   exact⟨noDefT_of h.1 h2.1,noDefT_of h.2 h2.2⟩
 | .block _ c,h,h2=>noDefT_of (c:=c) h h2
 | .region ..,_,h2=>h2
 | .cond ..,_,h2=>h2
 | .loop _,_,h2=>h2
 | .skip,_,h2=>h2
 | .exit _,_,h2=>h2
 | .ret,_,h2=>h2
 | .scope _,_,h2=>h2
 | .label _,_,h2=>h2
 | .goto _,_,h2=>h2
 | .refuse _,_,h2=>h2
theorem setL_rep {a:Act}:∀ {ps:List Nat} {vs:List Value} {f:E},vs.length=ps.length→(∀p∈ps,p<n)→Rep n a f→Rep n {a with tmps:=(ps.zip vs).foldl (fun t (x:Nat×Value)=>t.setIfInBounds x.1 x.2) a.tmps} (setL f ps vs)
 | [],[],f,_,_,h=>h
 | [],_::_,_,hl,_,_=>by simp at hl
 |_::_,[],_,hl,_,_=>by simp at hl
 |p::ps,v::vs,f,hl,hp,h=>by
  obtain⟨f',hf,h'⟩:=Rep.put (dst:=some p) (v:=v) (K:=fun f'=>f'=upd f p v) h (by
   have:Nat.blt p n=true:=by rw [Nat.blt_eq];exact hp p (by simp)
   simp only [putE,this,_root_.cond_true])
  subst hf
  exact setL_rep (a:=a.put (some p) v) (by simpa using hl) (fun q hq=>hp q (by simp [hq])) h'
theorem vcT_sound (H:Tab P T fok):∀(c:Code) (cur:Nat) {ds:List Nat} {f:E} {w:World} {K:Ex→List Nat→E→World→Prop} {a:Act},noDefT c=true→Rep n a f→vcT P T fok n A enc cur c ds f w K→
 c.wpIn Fence.wide 0 P (PostT n K) (dl (marks ds) a) w
 | .rangeFunc g ps assign body,cur,ds,f,w,K,a,hd,hr,h=>by
   unfold vcT at h
   obtain⟨hk,h⟩:=cond_true h
   simp only [Bool.and_eq_true,List.all_eq_true]at hk
   obtain⟨⟨hk1,hk2,hk3⟩,hk4⟩:=hk
   have he:(dl (marks ds) a).eval g=evD f g:=hr.eval hk1
   split at h
   · rename_i gf cap lb hg
     obtain⟨hc,hh⟩:=cond_true h
     clear h
     simp only [Bool.and_eq_true]at hc
     have hcap:cap= #[]:=by simpa using hc.1
     subst hcap
     rw [hg]at he
     obtain⟨N,vals,I,Ix,Kp,hok,hround,hdone,hstop⟩:=hh
     refine wp_range he (fun args w=>callFunc_run H hc.2 args w) hok ?_ ?_ ?_
     · intro l k W hkN hi
       have hrep:Rep n {a with tmps:=(ps.toList.zip (enc (vals k))).foldl (fun t (x:Nat×Value)=>t.setIfInBounds x.1 x.2) a.tmps} (setL f ps.toList (enc (vals k))):=
        setL_rep (by simpa using hok.len k) (fun p hp=>by have:=hk4 p hp;rwa [Nat.blt_eq]at this) hr
       have h1:=vcC_soundL (ro:=some l) (m:=0) (ds:= []) H assign 0 hk2 hrep (hround k hkN W hi)
       have ea:dl [] {a with tmps:=(ps.toList.zip (enc (vals k))).foldl (fun t (x:Nat×Value)=>t.setIfInBounds x.1 x.2) a.tmps}=
        {tmps:=(ps.zip (enc (vals k)).toArray).foldl (fun t (p,v)=>t.setIfInBounds p v) a.tmps,defers:= []}:=by
        have hdz:a.defers= []:=hr.defers
        unfold dl
        simp only [hdz,List.append_nil]
        congr 1
        rw [←Array.foldl_toList]
        simp
       rw [ea]at h1
       refine wpIn_mono h1 ?_
       rintro e a' W' ⟨a0,⟨ex,f1,rfl,k1,k2,k3⟩,rfl⟩
       cases ex with
       |nrm=>
        obtain⟨q1,q2,Im,q3,q4,k1⟩:=k1
        refine⟨rfl,q1,q2,Im,q3,q4,fun W2 hi2=>?_⟩
        refine wpIn_mono (vcC_soundL (ro:=some l) (m:=0) (ds:= []) H body 0 hk3 k2 (k1 W2 hi2)) ?_
        rintro e a' W3 ⟨a0',⟨ex,f4,rfl,k4,k5,k6⟩,rfl⟩
        cases ex with
        |nrm=>exact .inl ⟨rfl,k4⟩
        |ret=>exact .inr ⟨rfl,k4⟩
        |brk id=>exact k4.elim
       |ret=>exact k1.elim
       |brk id=>exact k1.elim
     · intro D W hD hi hh
       refine⟨.nrm,D::ds,f,a,rfl,hdone D W hD hi hh,hr,?_⟩
       have hdz:a.defers= []:=hr.defers
       simp [dl,hdz,marks]
     · intro D W hD hi hh
       refine⟨.ret,D::ds,f,a,rfl,hstop D W hD hi hh,hr,?_⟩
       have hdz:a.defers= []:=hr.defers
       simp [dl,hdz,marks]
   · exact h.elim
 | .seq x y,cur,ds,f,w,K,a,hd,hr,h=>by
   unfold vcT at h
   cases hrf:(hasRF x||hasRF y)with
   |false=>
    rw [hrf]at h
    exact vcT_of_C H (noDefT_of (c:= .seq x y) hrf hd) hr h
   |true=>
    rw [hrf]at h
    simp only [noDefT,Bool.and_eq_true]at hd
    simp only [_root_.cond_true]at h
    refine wpIn_seq ?_
    split at h
    · refine wpIn_mono (vcT_sound H x cur hd.1 hr h) ?_
      rintro e a' w' ⟨ex,ds',f',a0,rfl,h1,h2,rfl⟩
      cases ex with
      |nrm=>exact vcT_sound H y cur hd.2 h2 h1
      |brk id=>exact⟨.brk id,ds',f',a0,rfl,h1,h2,rfl⟩
      |ret=>exact⟨.ret,ds',f',a0,rfl,h1,h2,rfl⟩
    · rename_i M slots tys _
      obtain⟨hc,h⟩:=VC.cond_true h
      simp only [Bool.and_eq_true,beq_iff_eq]at hc
      have hJ:=h (curT tys fun vs w1=>vcT P T fok n A enc cur y ds (setL (mask M f) slots vs) w1 K) (by
       have key:∀vs,fitsL tys vs→∀w1,vcT P T fok n A enc cur y ds (setL (mask M f) slots vs) w1 K→appT tys (curT tys fun vs w1=>vcT P T fok n A enc cur y ds (setL (mask M f) slots vs) w1 K) vs fun j=>j w1:=
        fun vs hf w1 hh=>cur_appT (bs:=tys) hf hh
       exact AllL_of key)
      have hdx:noDef x=true:=by
       cases hx:hasRF x with
       |false=>exact noDefT_of hx hd.1
       |true=>
        have:∀ {c:Code},hasRF c=true→cov M c=false:=by
         intro c
         induction c with
         |rangeFunc=>intro _;rfl
         |seq a b iha ihb=>
          intro hh
          simp only [hasRF,Bool.or_eq_true]at hh
          simp only [cov,Bool.and_eq_false_iff]
          exact hh.imp iha ihb
         |block id c ih=>intro hh;exact ih hh
         |_=>intro hh;cases hh
        rw [this hx]at hc
        exact absurd hc.1 (by simp)
      refine wpIn_mono (vcC_soundL (ro:=none) (m:=0) (ds:=marks ds) H x cur hdx hr hJ) ?_
      rintro e a' w' ⟨a0,⟨ex,f',rfl,h1,h2,h3⟩,rfl⟩
      cases ex with
      |nrm=>
       obtain⟨vs,hv1,hv2,hv3⟩:=getL_spec h1
       have hy:=appT_cur (by rw [hv2,hc.2]) hv1
       have hrep:Rep n a0 (setL (mask M f) slots vs):=Rep.setL (Rep.mask hr h2 fun t ht=>h3 t fun hw=>by rw [cov_spec hc.1 hw]at ht;cases ht) fun i s v e1 e2=>h2.val s v (hv3 i s v e1 e2)
       exact vcT_sound H y cur hd.2 hrep hy
      |brk id=>exact⟨.brk id,ds,f',a0,rfl,h1,h2,rfl⟩
      |ret=>exact⟨.ret,ds,f',a0,rfl,h1,h2,rfl⟩
 | .block id c,cur,ds,f,w,K,a,hd,hr,h=>by
   unfold vcT at h
   cases hrf:hasRF c with
   |false=>
    rw [hrf]at h
    exact vcT_of_C (cur:=0) H (noDefT_of (c:= .block id c) hrf hd) hr h
   |true=>
    rw [hrf]at h
    simp only [_root_.cond_true]at h
    refine wpIn_block (wpIn_mono (vcT_sound H c id hd hr h) ?_)
    rintro e a' w' ⟨ex,ds',f',a0,rfl,h1,h2,rfl⟩
    cases ex with
    |nrm=>exact⟨.nrm,ds',f',a0,rfl,h1,h2,rfl⟩
    |ret=>exact⟨.ret,ds',f',a0,rfl,h1,h2,rfl⟩
    |brk id'=>
     show(if id'=id then _ else _)
     by_cases hid:id'=id
     · rw [if_pos hid]
       have:Nat.beq id' id=true:=by subst hid;simp
       simp only [this]at h1
       exact⟨.nrm,ds',f',a0,rfl,h1,h2,rfl⟩
     · rw [if_neg hid]
       have:Nat.beq id' id=false:=by
        cases hb:Nat.beq id' id with
        |false=>rfl
        |true=>exact absurd (Nat.eq_of_beq_eq_true hb) hid
       simp only [this]at h1
       exact⟨.brk id',ds',f',a0,rfl,h1,h2,rfl⟩
 | .region id ops dr,cur,ds,f,w,K,a,hd,hr,h=>vcT_of_C H (c:= .region id ops dr) (cur:=cur) hd hr h
 | .cond c x y,cur,ds,f,w,K,a,hd,hr,h=>vcT_of_C H (c:= .cond c x y) (cur:=cur) hd hr h
 | .loop c,cur,ds,f,w,K,a,hd,hr,h=>vcT_of_C H (c:= .loop c) (cur:=cur) hd hr h
 | .skip,cur,ds,f,w,K,a,hd,hr,h=>vcT_of_C H (c:= .skip) (cur:=cur) hd hr h
 | .exit id,cur,ds,f,w,K,a,hd,hr,h=>vcT_of_C H (c:= .exit id) (cur:=cur) hd hr h
 | .ret,cur,ds,f,w,K,a,hd,hr,h=>vcT_of_C H (c:= .ret) (cur:=cur) hd hr h
 | .scope _,_,_,_,_,_,_,hd,_,_=>by cases hd
 | .label _,_,_,_,_,_,_,hd,_,_=>by cases hd
 | .goto _,_,_,_,_,_,_,hd,_,_=>by cases hd
 | .refuse _,_,_,_,_,_,_,hd,_,_=>by cases hd
def vcFT (P:Program) (T:Nat→TI) (fok:Nat→Bool) (A:Ann) {α:Type} (enc:α→List Value) (n:Nat) (c:Code) (rs:List ResultVar) (args:List Value) (w:World) (R:Value→World→Prop):Prop:=
 cond (Nat.ble args.length n&&noDefT c) (vcT P T fok n A enc 0 c [] (fun t=>some (args.getD t undef)) w fun e ds f' w'=>match e with
  | .brk _=>False
  |_=>endM ds w' fun w2=>resV T f' w2 rs fun vs=>R (oneOf vs) w2) False
theorem calls_of_vcT (H:Tab P T fok) {A:Ann} {k:Nat} {fn:Func} {c:Code} (hf:P.funcs[k]? =some fn) (hb:fn.body=some c) {args:List Value} {w:World} {R:Value→World→Prop}
 (h:vcFT P T fok A enc fn.ntmps c fn.results.toList args w R):Calls P k args.toArray w fun e w'=>∃v,e= .returned v∧R v w':=by
 obtain⟨hn,h⟩:=VC.cond_true h
 simp only [Bool.and_eq_true]at hn
 have hn':args.length≤fn.ntmps:=Nat.le_of_ble_eq_true hn.1
 refine callsIn_wide.1 (callsIn_of_wp_marks (n:=0) hf hb trivial ?_)
 have hrep:Rep fn.ntmps {tmps:=args.toArray++Array.replicate (fn.ntmps-args.toArray.size) undef,defers:= []} (fun t=>some (args.getD t undef)):=by
  refine⟨rfl,by simp;omega,fun t v hv=>?_⟩
  simp only [Option.some.injEq]at hv
  subst hv
  have e:∀(xs:Array Value) (m t:Nat),(xs++Array.replicate m undef).getD t undef=xs.getD t undef:=by
   intro xs m t
   simp only [Array.getD_eq_getD_getElem?]
   by_cases h1:t<xs.size
   · rw [Array.getElem?_append_left h1]
   · rw [Array.getElem?_append_right (Nat.le_of_not_lt h1),Array.getElem?_eq_none (Nat.le_of_not_lt h1)]
     by_cases h2:t-xs.size<m
     · rw [Array.getElem?_replicate,if_pos h2];rfl
     · rw [Array.getElem?_replicate,if_neg h2]
  rw [e]
  simp
 refine wpIn_mono (vcT_sound (ds:= []) H c 0 hn.2 hrep h) ?_
 rintro e a' w' ⟨ex,ds,f',a0,rfl,h1,h2,rfl⟩
 have res:∀w2,(resV T f' w2 fn.results.toList fun vs=>R (oneOf vs) w2)→∃v,(results fn a0.tmps).run P w2= .ok v w2∧∃u,Ending.returned v= .returned u∧R u w2:=by
  intro w2 h
  obtain⟨vs,hk,hrun⟩:=resV_sound (P:=P) H h2 h
  refine⟨oneOf vs,?_,_,rfl,hk⟩
  unfold results
  rw [Sem.run_bind,Array.mapM_eq_mapM_toList,Sem.run_map]
  refine(congrArg (fun r:Result (List Value)=>(r.andThen fun a w'=>Result.ok a.toArray w').andThen fun a w'=>(pure (if h:a.size=1 then a[0]else Value.tuple a):Sem Value).run P w') hrun).trans ?_
  simp only [Result.andThen,Sem.run_pure]
  match vs with
  | []=>rfl
  | [v]=>rfl
  |v::u::vs=>simp [oneOf]
 have fin:∀(ds:List Nat) (w:World),(endM ds w fun w2=>resV T f' w2 fn.results.toList fun vs=>R (oneOf vs) w2)→
  LeavesInM Fence.wide 0 P fn a0.tmps (fun e w'=>∃v,e= .returned v∧R v w') (marks ds) .returning w:=by
  intro ds
  induction ds with
  |nil=>
   intro w h
   obtain⟨v,hv,u,hu,hR⟩:=res w h
   exact⟨v,hv,u,hu,hR⟩
  |cons D ds ih=>
   intro w h
   exact⟨by simp,.inl ⟨D,_,rfl,run_takeDeferred h.1,ih _ h.2⟩⟩
 have hdz:(dl (marks ds) a0).defers=marks ds:=by
  have:a0.defers= []:=h2.defers
  simp [dl,this]
 cases ex with
 |nrm=>show LeavesInM _ _ _ _ _ _ (dl (marks ds) a0).defers _ _;rw [hdz];exact fin ds w' h1
 |ret=>show LeavesInM _ _ _ _ _ _ (dl (marks ds) a0).defers _ _;rw [hdz];exact fin ds w' h1
 |brk id=>exact h1.elim
end
end Go.Proofs.VC
namespace Go.Proofs.VC
open Go Go.RowKit
def S (l:List UInt8):ByteArray:=⟨l.toArray⟩
def L8 (s:ByteArray):List UInt8:=s.data.toList
@[simp] theorem L8_S (l:List UInt8):L8 (S l)=l:=rfl
@[simp] theorem S_L8 (s:ByteArray):S (L8 s)=s:=rfl
@[simp] theorem S_size (l:List UInt8):(S l).size=l.length:=by
  show l.toArray.size=_
  rw [List.size_toArray]
@[simp] theorem S_append (a b:List UInt8):S a++S b=S (a++b):=by
  apply ByteArray.ext
  apply Array.ext'
  rw [ByteArray.data_append,Array.toList_append]
  rfl
@[simp] theorem S_extract (l:List UInt8) (a b:Nat):(S l).extract a b=S ((l.take b).drop a):=by
  apply ByteArray.ext
  apply Array.ext'
  rw [ByteArray.data_extract]
  simp only [S,List.extract_toArray,List.extract_eq_take_drop]
  rw [List.drop_take]
@[simp] theorem S_get (l:List UInt8) (i:Nat):(S l)[i]? =l[i]? :=by
  rw [getElem?_def]
  by_cases h:i<l.length
  · rw [dif_pos (by simpa using h),List.getElem?_eq_getElem h];rfl
  · rw [dif_neg (by simpa using h),List.getElem?_eq_none (Nat.le_of_not_lt h)]
@[simp] theorem S_beq (a b:List UInt8):((S a).toList==(S b).toList)=(a==b):=by
  rw [ByteArray.toList_eq,ByteArray.toList_eq];rfl
def u8s (l:List UInt8):List Value:=l.map fun b=> .int .u8 (b.toNat:Int)
def i64s (l:List Int):List Value:=l.map fun n=> .int .i64 n
@[simp] theorem u8s_len (l:List UInt8):(u8s l).length=l.length:=by simp [u8s]
@[simp] theorem i64s_len (l:List Int):(i64s l).length=l.length:=by simp [i64s]
theorem u8s_app (a b:List UInt8):u8s (a++b)=u8s a++u8s b:=by simp [u8s]
theorem i64s_app (a b:List Int):i64s (a++b)=i64s a++i64s b:=by simp [i64s]
theorem u8s_get {l:List UInt8} {i:Nat} {u:UInt8} (h:l[i]? =some u):(u8s l)[i]? =some (.int .u8 (u.toNat:Int)):=by simp [u8s,h]
theorem i64s_get {l:List Int} {i:Nat} {u:Int} (h:l[i]? =some u):(i64s l)[i]? =some (.int .i64 u):=by simp [i64s,h]
theorem run_b2s {P:Program} {w:World} {a:Option Addr} {n c:Nat} {l:List UInt8} (h:Sl w a (u8s l)) (hn:n=l.length):
 (Conv.bytesToString (.slice a n c)).run P w= .ok (.string (S l)) w:=by
 subst hn
 cases a with
 |none=>
  cases l with
  |nil=>simp [Conv.bytesToString,S,ByteArray.empty,ByteArray.emptyWithCapacity];rfl
  |cons x l=>obtain⟨p,hp,_⟩:=h 0 (.int .u8 (x.toNat:Int)) (by simp [u8s]);cases hp
 |some p=>
  have hl:=run_loadCells_list (P:=P) w p ((l.map (fun b=>(b.toNat:Int))).map (Value.int .u8)) (fun j v hj=>by
   obtain⟨q,hq,hc⟩:=h j v (by simpa [u8s]using hj)
   cases hq;exact hc)
  simp only [List.length_map]at hl
  rw [run_bytesToString w p l.length c _ hl,foldl_push_byteCells]
  have he0:ByteArray.empty.data= #[]:=rfl
  rw [he0]
  simp [S]
theorem b2s {P:Program} {w:World} {a:Option Addr} {n c:Nat} {l:List UInt8} {G:ByteArray→Prop} (h:Sl w a (u8s l)) (hn:n=l.length) (hg:G (S l)):
 ∃s:ByteArray,(Conv.bytesToString (.slice a n c)).run P w= .ok (.string s) w∧G s:=⟨_,run_b2s h hn,hg⟩
theorem St.drewf {M:List Nat} {w0 w:World} {L:List (Nat×Obj)} (H:St M w0 w L) {G:World→Prop} (h:∀w1,Fr [] w w1→St M w0 w1 L→G w1):∀w1,w1=w.drew→G w1:=by
 rintro w1 rfl
 exact h _ (Fr.drew _ _) (H.call0 (Fr.drew _ _))
theorem Calls.stf {M:List Nat} {w0 w:World} {L:List (Nat×Obj)} {P:Program} {k:Nat} {args:Array Value} {R:Ending→World→Prop} {v:Value} (H:St M w0 w L) (hc:Calls P k args w fun e w'=>e= .returned v∧Fr [] w w')
 (h:∀w',Fr [] w w'→St M w0 w' L→R (.returned v) w'):Calls P k args w R:=
 hc.mono fun _ w' ⟨he,hf⟩=>he▸h w' hf (H.call0 hf)
structure Ow (M:List Nat) (w0 w:World) (L:List (Nat×Obj)) (e size:Nat) (a:Option Addr) (n c:Nat) (xs:List Value):Prop where
 row:w.ownsRow 0 e size (.slice a n c) n xs
 new:∀p,a=some p→w0.heap.size≤p.block∨p.block∈M
 sep:∀p,a=some p→∀x∈L,x.1≠p.block
variable {M:List Nat} {w0 w:World} {L:List (Nat×Obj)} {e size:Nat} {a:Option Addr} {n c:Nat} {xs:List Value}
theorem Ow.nil:Ow M w0 w L e size none 0 0 []:=⟨World.ownsRow_nil _ _ _ _,(fun _ h=>nomatch h),(fun _ h=>nomatch h)⟩
theorem Ow.len (h:Ow M w0 w L e size a n c xs):xs.length=n*size:=h.row.1
theorem Ow.sl (h:Ow M w0 w L e size a n c xs):Sl w a xs:=fun j u hu=>by
 rcases h.row.2 with⟨hv,_⟩|⟨g,cap,cur,hv,_,hg,_,_,_,htake⟩
 · cases hv
   have:=h.len
   have hn:xs.length=0:=by simpa using this
   rw [List.length_eq_zero_iff.1 hn]at hu
   simp at hu
 · cases hv
   refine⟨⟨g,0,none⟩,rfl,?_⟩
   exact World.ownsRow.cells h.row (g:=g) rfl j u hu
theorem Ow.addr (h:Ow M w0 w L e size a n c xs):∀p,a=some p→∃g,p=A0 g∧g<w.heap.size∧n≤c:=by
 intro p hp
 rcases h.row.2 with⟨hv,_⟩|⟨g,cap,cur,hv,_,hg,hnc,_⟩
 · cases hv;cases hp
 · cases hv;cases hp
   exact⟨g,rfl,(Array.getElem?_eq_some_iff.1 hg).1,hnc⟩
theorem ownsRow_of_block {w w':World} {v:Value} {n:Nat} {xs:List Value} (h:w.ownsRow 0 e size v n xs) (hb:∀g,v.ownBlock=some g→w'.heap[g]? =w.heap[g]?):w'.ownsRow 0 e size v n xs:=by
 refine⟨h.1,?_⟩
 rcases h.2 with hn|⟨g,cap,cur,rfl,hb0,hgg,rest⟩
 · exact .inl hn
 · exact .inr ⟨g,cap,cur,rfl,hb0,by rw [hb g rfl];exact hgg,rest⟩
theorem Ow.kept (h:Ow M w0 w L e size a n c xs) {w':World} {L':List (Nat×Obj)} (hb:∀g,a=some (A0 g)→g<w.heap.size→w'.heap[g]? =w.heap[g]?)
 (hs:∀p,a=some p→p.block<w.heap.size→∀x∈L',x.1≠p.block):Ow M w0 w' L' e size a n c xs:=by
 refine⟨ownsRow_of_block h.row fun g hg=>?_,h.new,fun p hp=>hs p hp ?_⟩
 · cases a with
   |none=>cases hg
   |some p=>
    obtain⟨g',rfl,hlt,_⟩:=h.addr p rfl
    simp [Value.ownBlock]at hg
    subst hg
    exact hb _ rfl hlt
 · obtain⟨g',rfl,hlt,_⟩:=h.addr p hp
   exact hlt
theorem Ow.call0 (h:Ow M w0 w L e size a n c xs) {w':World} (hf:Fr [] w w'):Ow M w0 w' L e size a n c xs:=
 h.kept (fun g _ hg=>hf.block g hg (by simp)) fun p hp _=>h.sep p hp
theorem Ow.drop (h:Ow M w0 w L e size a n c xs):Ow M w0 w [] e size a n c xs:=⟨h.row,h.new,by simp⟩
theorem Ow.sub (h:Ow M w0 w L e size a n c xs) {L':List (Nat×Obj)} (hs:L'.Sublist L):Ow M w0 w L' e size a n c xs:=⟨h.row,h.new,fun p hp x hx=>h.sep p hp x (hs.subset hx)⟩
theorem St.alloc_own (H:St M w0 w L) (ho:Ow M w0 w L e size a n c xs) {o:Obj} {G:World→Nat→Prop} (h:∀w1 b,St M w0 w1 ((b,o)::L)→Ow M w0 w1 ((b,o)::L) e size a n c xs→G w1 b):
 ∀w1 b,w1=w.alloc o→b=w.heap.size→G w1 b:=by
 intro w1 b h1 h2
 refine St.alloc H (G:=fun x y=>x=w.alloc o→y=w.heap.size→G x y) (fun x y hst e1 e2=>h _ _ hst ?_) w1 b h1 h2 h1 h2
 subst e1 e2
 refine ho.kept (fun g _ hg=>Below.heap_alloc _ _ _ hg) fun p hp hlt x hx=>?_
 rcases List.mem_cons.1 hx with rfl|hx
 · simp;omega
 · exact ho.sep p hp x hx
theorem St.grown (H:St M w0 w L) (ho:Ow M w0 w L e size a n c xs) {v':Value} {w':World} {m:Nat} {ys:List Value} (hown:w'.ownsRow 0 e size v' m ys) (hgr:w.grownBy w' (Value.slice a n c).ownBlock)
 (key:∀g,v'.ownBlock=some g→(Value.slice a n c).ownBlock=some g∨w.heap.size≤g):St M w0 w' L∧∃a' c',v'= .slice a' m c'∧Ow M w0 w' L e size a' m c' ys:=by
 have hfrow:∀g,(Value.slice a n c).ownBlock=some g→w0.heap.size≤g∨g∈M:=by
  intro g hg
  cases a with
  |none=>cases hg
  |some q=>simp [Value.ownBlock]at hg;subst hg;exact ho.new q rfl
 have hsep:∀g,(Value.slice a n c).ownBlock=some g→∀x∈L,x.1≠g:=by
  intro g hg
  cases a with
  |none=>cases hg
  |some q=>simp [Value.ownBlock]at hg;subst hg;exact ho.sep q rfl
 have hst:St M w0 w' L:=by
  refine⟨⟨hgr.os.trans H.fr.os,hgr.tape.trans H.fr.tape,hgr.output.trans H.fr.output,Nat.le_trans H.fr.size hgr.size,fun k hk hkm=>?_⟩,fun x hx=>⟨(H.own x hx).1,?_⟩,H.nd⟩
  · rw [hgr.block k (Nat.lt_of_lt_of_le hk H.fr.size) (fun e=>?_)]
    · exact H.fr.block k hk hkm
    · rcases hfrow k e.symm with h|h
      · omega
      · exact hkm h
  · rw [hgr.block x.1 (H.lt hx) (fun e=>hsep x.1 e.symm x hx rfl)]
    exact(H.own x hx).2
 refine⟨hst,?_⟩
 obtain⟨a',c',rfl⟩:∃a' c',v'= .slice a' m c':=by
  rcases hown.2 with⟨rfl,rfl⟩|⟨g,cap,cur,rfl,_⟩
  · exact⟨_,_,rfl⟩
  · exact⟨_,_,rfl⟩
 refine⟨a',c',rfl,hown,?_,?_⟩
 · rintro p rfl
   rcases key p.block rfl with h|h
   · exact hfrow _ h
   · exact .inl (Nat.le_trans H.fr.size h)
 · rintro p rfl
   rcases key p.block rfl with h|h
   · exact hsep _ h
   · intro x hx
     have h2:=H.lt hx
     omega
theorem St.append {P:Program} (H:St M w0 w L) (ho:Ow M w0 w L e size a n c xs) {t ty:TypeId} {i:TypeInfo} {z:Value} {bytes:Nat} (ht:P.underlying t=some (.slice e)) (hi:P.info? e=some i) (hz:i.zero=some z)
 (hsize:i.size=size) (hby:i.bytes=bytes) (hzs:z.cells.size=size) (hsz:0<size) {p:Option Addr} {m c':Nat} {news:List Value} (hl:news.length=m*size) (hm:0<m)
 (hnews:Sl w p news) (h1:∀u∈news,u.oneCell'=true) (hbytes:(n+m)*bytes≤140737488355328) (hb0:0<bytes)
 {G:Option Addr→Nat→Nat→World→Prop} (hg:∀a' c2 w',St M w0 w' L→Ow M w0 w' L e size a' (n+m) c2 (xs++news)→G a' (n+m) c2 w'):
 ∃x xn xc,∃w':World,(Builtin.append_ #[t,t] ty #[.slice a n c,.slice p m c']).run P w= .ok (.slice x xn xc) w'∧G x xn xc w':=by
 have h63:n+m≤maxLen:=by
  have:(n+m)*1≤(n+m)*bytes:=Nat.mul_le_mul_left _ hb0
  simp only [maxLen];omega
 have hpos:0<news.length:=by rw [hl];exact Nat.mul_pos hm hsz
 obtain⟨q,rfl,_⟩:=hnews 0 news[0] (List.getElem?_eq_getElem hpos)
 obtain⟨v',w',hr,hown,hgr,hnil⟩:=run_append_own (P:=P) w 0 t ty e i z size bytes ht hi hz hsize hby hzs hsz (.slice a n c) n xs ho.row q m c' news hl
  (fun j u hu=>by obtain⟨q',e,hc⟩:=hnews j u hu;cases e;exact hc) h1 h63 hbytes (Nat.zero_le _)
 have key:∀g,v'.ownBlock=some g→(Value.slice a n c).ownBlock=some g∨w.heap.size≤g:=by
  intro g hg
  rcases ho.row.2 with⟨hv,h0⟩|⟨g1,cap1,cur1,hv,_,hg1,hnc1,hcm1,hcs1,htk1⟩
  · obtain⟨v2,w2,hr2,hown2,_⟩:=run_append_own (P:=P) w w.heap.size t ty e i z size bytes ht hi hz hsize hby hzs hsz (.slice a n c) n xs ⟨ho.row.1,.inl ⟨hv,h0⟩⟩ q m c' news hl
     (fun j u hu=>by obtain⟨q',e,hc⟩:=hnews j u hu;cases e;exact hc) h1 h63 hbytes (Nat.le_refl _)
    rw [hr]at hr2
    cases hr2
    exact .inr (hown2.lt g hg).1
  · cases hv
    by_cases hroom:n+m≤c
    · have hfit:n*i.size+news.length≤cur1.size:=by rw [hl,hcs1,hsize,←Nat.add_mul];exact Nat.mul_le_mul_right _ hroom
      have hr2:=run_append_room (P:=P) w t ty e i ht hi g1 n c cur1 hg1 q m c' news (by rw [hl,hsize])
       (fun j u hu=>by obtain⟨q',e,hc⟩:=hnews j u hu;cases e;exact hc) h1 hroom hfit
      rw [hr]at hr2
      cases hr2
      exact .inl hg
    · have hr2:=run_append_grow (P:=P) w t ty e i z ht hi hz ⟨g1,0,none⟩ n c xs (by rw [ho.row.1,hsize]) (World.ownsRow.cells ho.row (g:=g1) rfl) q m c' news (by rw [hl,hsize])
       (fun j u hu=>by obtain⟨q',e,hc⟩:=hnews j u hu;cases e;exact hc) (by omega) (by simp only [maxLen]at h63;omega) (by rw [hby];exact growslice_fits (by omega) hbytes)
      rw [hr]at hr2
      cases hr2
      cases hg
      exact .inr (Nat.le_refl _)
 obtain⟨hst,a',c2,rfl,ho'⟩:=H.grown ho hown hgr key
 exact⟨_,_,_,w',hr,hg _ _ _ hst ho'⟩
theorem St.appendS {P:Program} (H:St M w0 w L) (ho:Ow M w0 w L e 1 a n c xs) {t u ty:TypeId} {i:TypeInfo} (ht:P.underlying t=some (.slice e)) (hu:P.underlying u=some .string) (hi:P.info? e=some i) (hz:i.zero=some (.int .u8 0))
 (hsize:i.size=1) (hby:i.bytes=1) (l:List UInt8) (hbytes:n+l.length≤140737488355328)
 {G:Option Addr→Nat→Nat→World→Prop} (hg:∀a' c2 w',St M w0 w' L→Ow M w0 w' L e 1 a' (n+l.length) c2 (xs++u8s l)→G a' (n+l.length) c2 w'):
 ∃x xn xc,∃w':World,(Builtin.append_ #[t,u] ty #[.slice a n c,.string (S l)]).run P w= .ok (.slice x xn xc) w'∧G x xn xc w':=by
 have h63:n+(S l).size≤maxLen:=by rw [S_size];simp only [maxLen];omega
 have hb':n+(S l).size≤140737488355328:=by rw [S_size];exact hbytes
 obtain⟨v',w',hr,hown,hgr,_⟩:=Lib.run_append_own_string (P:=P) w 0 t u ty e i ht hu hi hz hsize hby (.slice a n c) n xs ho.row (S l) h63 hb' (Nat.zero_le _)
 have key:∀g,v'.ownBlock=some g→(Value.slice a n c).ownBlock=some g∨w.heap.size≤g:=by
  intro g hg
  rcases ho.row.2 with⟨hv,h0⟩|⟨g1,cap1,cur1,hv,_,hg1,hnc1,hcm1,hcs1,htk1⟩
  · obtain⟨v2,w2,hr2,hown2,_⟩:=Lib.run_append_own_string (P:=P) w w.heap.size t u ty e i ht hu hi hz hsize hby (.slice a n c) n xs ⟨ho.row.1,.inl ⟨hv,h0⟩⟩ (S l) h63 hb' (Nat.le_refl _)
    rw [hr]at hr2
    cases hr2
    exact .inr (hown2.lt g hg).1
  · cases hv
    by_cases hroom:n+(S l).size≤c
    · have hr2:=Lib.run_append_room_string (P:=P) w t u ty e i ht hu hi hsize g1 n c cur1 hg1 (S l) hroom (by omega)
      rw [hr]at hr2
      cases hr2
      exact .inl hg
    · have hr2:=Lib.run_append_grow_string (P:=P) w t u ty e i _ ht hu hi hz ⟨g1,0,none⟩ n c xs (by rw [ho.row.1,hsize]) (World.ownsRow.cells ho.row (g:=g1) rfl) (S l)
       (by omega) (by simp only [maxLen]at h63;omega) (by rw [hby];exact growslice_fits (by omega) (by omega))
      rw [hr]at hr2
      cases hr2
      cases hg
      exact .inr (Nat.le_refl _)
 obtain⟨hst,a',c2,rfl,ho'⟩:=H.grown ho hown hgr key
 rw [S_size]at hr ho'
 exact⟨_,_,_,w',hr,hg _ _ _ hst ho'⟩
theorem Ow.after (ho:Ow M w0 w L e size a n c xs) {N:List Nat} {w':World} {L':List (Nat×Obj)} (hf:Fr N w w') (hN:∀p,a=some p→p.block∉N)
 (hL:∀x∈L',(∃y∈L,y.1=x.1)∨w.heap.size≤x.1):Ow M w0 w' L' e size a n c xs:=by
 refine ho.kept (fun g hg hlt=>hf.block g hlt (hN _ hg)) fun p hp hlt x hx=>?_
 rcases hL x hx with⟨y,hy,he⟩|hge
 · rw [←he];exact ho.sep p hp y hy
 · omega
theorem keys_set {j:Nat} {b:Nat} {o o':Obj} (hj:L[j]? =some (b,o)):∀x∈L.set j (b,o'),(∃y∈L,y.1=x.1)∨w.heap.size≤x.1:=by
 intro x hx
 obtain⟨k,hk⟩:=List.mem_iff_getElem?.1 hx
 by_cases hkj:j=k
 · subst hkj
   rw [List.getElem?_set_self ((List.getElem?_eq_some_iff.1 hj).1)]at hk
   cases hk
   exact .inl ⟨_,List.mem_of_getElem? hj,rfl⟩
 · rw [List.getElem?_set_ne hkj]at hk
   exact .inl ⟨x,List.mem_of_getElem? hk,rfl⟩
theorem St.sto_own (H:St M w0 w L) (ho:Ow M w0 w L e size a n c xs) (j:Nat) {b i:Nat} {cs:Array Value} {t:TypeId} {v:Value} {G:World→Prop} (hj:L[j]? =some (b,.cells cs t (0,0))) (hi:i<cs.size)
 (h:∀w1,St M w0 w1 (L.set j (b,.cells (cs.setIfInBounds i v) t (0,0)))→Ow M w0 w1 (L.set j (b,.cells (cs.setIfInBounds i v) t (0,0))) e size a n c xs→G w1):Sto w ⟨b,i,none⟩ v G:=by
 have hb:=H.get j hj
 refine⟨⟨cs[i],?_⟩,frozen_of_heap hb (.inr (Nat.zero_le _)),?_⟩
 · rw [cell_of_heap hb];simp [hi]
 · rintro w' rfl
   refine h _ (H.setAt j hj) (ho.after (Fr.setCell (M:= [b]) w (a:=⟨b,i,none⟩) (by simp) v) ?_ (keys_set hj))
   intro p hp hm
   have:=ho.sep p hp _ (List.mem_of_getElem? hj)
   simp at hm
   exact this hm.symm
theorem St.sl (H:St M w0 w L) (j:Nat) {b:Nat} {c:Array Value} {t:TypeId} {f:Nat×Nat} (hj:L[j]? =some (b,.cells c t f)):Sl w (some (A0 b)) c.toList:=Sl.of_heap (H.get j hj)
theorem St.tail {x:Nat×Obj} (H:St M w0 w (x::L)):St M w0 w L:=H.sub (List.sublist_cons_self _ _)
theorem Ow.tail {e size n c:Nat} {a:Option Addr} {xs:List Value} {x:Nat×Obj} (h:Ow M w0 w (x::L) e size a n c xs):Ow M w0 w L e size a n c xs:=h.sub (List.sublist_cons_self _ _)
theorem St.s2b {P:Program} (H:St M w0 w L) (l:List UInt8) {src dst el:TypeId} (hs:P.underlying src=some .string) (hd:P.underlying dst=some (.slice el)) (he:P.underlying el=some (.int .u8))
 {G:Option Addr→Nat→Nat→World→Prop} (hg:∀b k w',St M w0 w' ((b,.cells (u8s l++List.replicate k (Value.int .u8 0)).toArray el (l.length+k,l.length+k+1))::L)→G (some (A0 b)) l.length (l.length+k) w'):
 ∃x xn xc,∃w':World,(Conv.stringToBytes el (S l)).run P w= .ok (.slice x xn xc) w'∧G x xn xc w':=by
 have hr:=run_bytes_of_string (P:=P) w src dst el (S l) hs hd he
 have hc:(convert src dst (.string (S l))).run P w=(Conv.stringToBytes el (S l)).run P w:=by
  simp [convert,_root_.Go.run_underlying hs,_root_.Go.run_underlying hd,_root_.Go.run_underlying he]
 rw [hc]at hr
 have hge:(S l).size≤grownCap w (S l).size 0 el:=grownCap_ge _ _ _ _
 rw [S_size]at hr hge
 obtain⟨k,hk⟩:∃k,grownCap w l.length 0 el=l.length+k:=⟨grownCap w l.length 0 el-l.length,by omega⟩
 rw [hk]at hr
 have hrow:bytesRow (S l) (l.length+k)=(u8s l++List.replicate k (Value.int .u8 0)).toArray:=by
  apply Array.ext'
  simp only [bytesRow,S_size,Nat.add_sub_cancel_left,Array.toList_append,Array.toList_replicate,Array.toList_map]
  rfl
 rw [hrow]at hr
 have hsz:((u8s l++List.replicate k (Value.int .u8 0)).toArray).size=l.length+k:=by simp
 rw [hsz]at hr
 refine⟨_,_,_,_,hr,?_⟩
 refine(H.call0 (Fr.drew _ _)).alloc (G:=fun w' b=>w'=w.drew.alloc _→b=w.heap.size→G (some (A0 b)) l.length (l.length+k) w') (fun w1 b H1 e1 e2=>?_) _ _ rfl rfl rfl rfl
 exact hg b k w1 H1
end Go.Proofs.VC
namespace Go.Proofs.VC
open Go Go.RowKit
inductive En where
 |ob (b:Nat) (o:Obj)
 |ow (e size:Nat) (a:Option Addr) (n c:Nat) (xs:List Value)
def En.blk:En→Option Nat
 | .ob b _=>some b
 | .ow _ _ a _ _ _=>a.map (·.block)
def En.ok (M:List Nat) (w0 w:World):En→Prop
 | .ob b o=>(w0.heap.size≤b∨b∈M)∧w.heap[b]? =some o
 | .ow e size a n c xs=>w.ownsRow 0 e size (.slice a n c) n xs∧∀p,a=some p→w0.heap.size≤p.block∨p.block∈M
def En.ap (x y:En):Prop:=∀b,x.blk=some b→y.blk≠some b
theorem En.ap.symm {x y:En} (h:En.ap x y):En.ap y x:=fun b hy hx=>h b hx hy
structure Sx (M:List Nat) (w0 w:World) (L:List En):Prop where
 fr:Fr M w0 w
 own:∀x∈L,x.ok M w0 w
 sep:L.Pairwise En.ap
variable {M:List Nat} {w0 w:World} {L:List En}
theorem Sx.start (M:List Nat) (w:World):Sx M w w []:=⟨Fr.refl _ _,by simp,by simp⟩
theorem En.ok.lt {x:En} (h:x.ok M w0 w) {b:Nat} (hb:x.blk=some b):b<w.heap.size:=by
 cases x with
 |ob b' o=>cases hb;exact(Array.getElem?_eq_some_iff.1 h.2).1
 |ow e size a n c xs=>
  cases a with
  |none=>cases hb
  |some p=>
   simp [En.blk]at hb
   subst hb
   rcases h.1.2 with⟨hv,_⟩|⟨g,cap,cur,hv,_,hg,_⟩
   · cases hv
   · cases hv;exact(Array.getElem?_eq_some_iff.1 hg).1
theorem En.ok.new {x:En} (h:x.ok M w0 w) {b:Nat} (hb:x.blk=some b):w0.heap.size≤b∨b∈M:=by
 cases x with
 |ob b' o=>cases hb;exact h.1
 |ow e size a n c xs=>
  cases a with
  |none=>cases hb
  |some p=>simp [En.blk]at hb;subst hb;exact h.2 p rfl
theorem En.ok.kept {x:En} (h:x.ok M w0 w) {w':World} (hb:∀b,x.blk=some b→w'.heap[b]? =w.heap[b]?):x.ok M w0 w':=by
 cases x with
 |ob b' o=>exact⟨h.1,(hb b' rfl).trans h.2⟩
 |ow e size a n c xs=>
  refine⟨ownsRow_of_block h.1 fun g hg=>hb g ?_,h.2⟩
  cases a with
  |none=>cases hg
  |some p=>simp [Value.ownBlock]at hg;simp [En.blk,hg]
theorem Sx.get (H:Sx M w0 w L) (j:Nat) {x:En} (hj:L[j]? =some x):x.ok M w0 w:=H.own x (List.mem_of_getElem? hj)
theorem Sx.ap (H:Sx M w0 w L) {i j:Nat} (hij:i≠j) {x y:En} (hi:L[i]? =some x) (hj:L[j]? =some y):En.ap x y:=by
 obtain⟨hi',rfl⟩:=List.getElem?_eq_some_iff.1 hi
 obtain⟨hj',rfl⟩:=List.getElem?_eq_some_iff.1 hj
 rcases Nat.lt_or_gt_of_ne hij with h|h
 · exact List.pairwise_iff_getElem.1 H.sep i j hi' hj' h
 · exact(List.pairwise_iff_getElem.1 H.sep j i hj' hi' h).symm
theorem Sx.mk' (fr:Fr M w0 w) (own:∀(j:Nat) (x:En),L[j]? =some x→x.ok M w0 w) (sep:∀(i j:Nat) (x y:En),i≠j→L[i]? =some x→L[j]? =some y→En.ap x y):Sx M w0 w L:=
 ⟨fr,fun x hx=>by obtain⟨j,hj⟩:=List.mem_iff_getElem?.1 hx;exact own j x hj,by
  rw [List.pairwise_iff_getElem]
  intro i j hi hj hij
  exact sep i j _ _ (Nat.ne_of_lt hij) (List.getElem?_eq_getElem hi) (List.getElem?_eq_getElem hj)⟩
theorem Sx.turn (H:Sx M w0 w L) (j:Nat) {x x':En} (hj:L[j]? =some x) {w':World} (hfr:Fr M w0 w') (hok:x'.ok M w0 w')
 (hkeep:∀b,b<w.heap.size→x.blk≠some b→w'.heap[b]? =w.heap[b]?) (hnew:∀b,x'.blk=some b→x.blk=some b∨w.heap.size≤b):Sx M w0 w' (L.set j x'):=by
 have hlt:=(List.getElem?_eq_some_iff.1 hj).1
 have hother:∀k y,k≠j→(L.set j x')[k]? =some y→L[k]? =some y:=fun k y hk h=>by rwa [List.getElem?_set_ne (Ne.symm hk)]at h
 have hself:∀y,(L.set j x')[j]? =some y→y=x':=fun y h=>by rw [List.getElem?_set_self hlt]at h;exact(Option.some.inj h).symm
 have hap:∀k y,k≠j→L[k]? =some y→En.ap y x':=fun k y hk h b hy hx=>by
  rcases hnew b hx with h1|h1
  · exact H.ap hk h hj b hy h1
  · have:=(H.get k h).lt hy;omega
 refine Sx.mk' hfr (fun k y h=>?_) (fun i k y z hik hi hk=>?_)
 · by_cases hkj:k=j
   · subst hkj;rw [hself y h];exact hok
   · have h':=hother k y hkj h
     exact(H.get k h').kept fun b hb=>hkeep b ((H.get k h').lt hb) fun hx=>H.ap hkj h' hj b hb hx
 · by_cases h1:i=j
   · subst h1
     rw [hself y hi]
     exact(hap k z (Ne.symm hik) (hother k z (Ne.symm hik) hk)).symm
   · by_cases h2:k=j
     · subst h2;rw [hself z hk];exact hap i y h1 (hother i y h1 hi)
     · exact H.ap hik (hother i y h1 hi) (hother k z h2 hk)
theorem Sx.call0 (H:Sx M w0 w L) {w':World} (h:Fr [] w w'):Sx M w0 w' L:=
 ⟨H.fr.trans h.weak,fun x hx=>(H.own x hx).kept fun b hb=>h.block b ((H.own x hx).lt hb) (by simp),H.sep⟩
theorem Sx.push (H:Sx M w0 w L) {x:En} (hx:x.ok M w0 w) (hn:∀b,x.blk=some b→∀y∈L,y.blk≠some b):Sx M w0 w (x::L):=
 ⟨H.fr,fun y hy=>(List.mem_cons.1 hy).elim (fun e=>e▸hx) (H.own y),List.pairwise_cons.2 ⟨fun y hy b hb=>hn b hb y hy,H.sep⟩⟩
theorem Sx.nilw (H:Sx M w0 w L) (e size:Nat):Sx M w0 w (.ow e size none 0 0 []::L):=
 H.push ⟨World.ownsRow_nil _ _ _ _,fun _ h=>nomatch h⟩ (fun _ h=>nomatch h)
theorem Sx.tail {x:En} (H:Sx M w0 w (x::L)):Sx M w0 w L:=⟨H.fr,fun y hy=>H.own y (List.mem_cons_of_mem _ hy),(List.pairwise_cons.1 H.sep).2⟩
theorem Sx.sub (H:Sx M w0 w L) {L':List En} (h:L'.Sublist L):Sx M w0 w L':=⟨H.fr,fun x hx=>H.own x (h.subset hx),H.sep.sublist h⟩
theorem Sx.perm (H:Sx M w0 w L) {L':List En} (h:L.Perm L'):Sx M w0 w L':=
 ⟨H.fr,fun x hx=>H.own x (h.symm.subset hx),(h.pairwise_iff (fun {_ _} h=>En.ap.symm h)).1 H.sep⟩
theorem perm_front {α:Type}:∀(j:Nat) (L:List α) (x:α),L[j]? =some x→L.Perm (x::L.eraseIdx j)
 |0,y::l,x,h=>by simp at h;subst h;simp
 |j+1,y::l,x,h=>by
  have:=perm_front j l x (by simpa using h)
  simp only [List.eraseIdx_cons_succ]
  exact(this.cons y).trans (List.Perm.swap x y _)
 |0,[],x,h=>by simp at h
 |j+1,[],x,h=>by simp at h
theorem Sx.front (H:Sx M w0 w L) (j:Nat) {x:En} (hj:L[j]? =some x):Sx M w0 w (x::L.eraseIdx j):=H.perm (perm_front j L x hj)
theorem Sx.back (j:Nat) {x x':En} (hj:L[j]? =some x) (H:Sx M w0 w (x'::L.eraseIdx j)):Sx M w0 w (L.set j x'):=by
 have hlt:=(List.getElem?_eq_some_iff.1 hj).1
 have h1:=perm_front j (L.set j x') x' (by rw [List.getElem?_set_self hlt])
 rw [List.eraseIdx_set_eq]at h1
 exact H.perm h1.symm
theorem Sx.alloc (H:Sx M w0 w L) {o:Obj} {G:World→Nat→Prop} (h:∀w1 b,Fr [] w w1→Sx M w0 w1 (.ob b o::L)→G w1 b):∀w1 b,w1=w.alloc o→b=w.heap.size→G w1 b:=by
 rintro w1 b rfl rfl
 have hf:Fr [] w (w.alloc o):=Fr.alloc _ _ _
 refine h _ _ hf ((H.call0 hf).push ⟨.inl H.fr.size,heap_alloc_new w _⟩ ?_)
 intro b hb y hy hyb
 cases hb
 exact absurd ((H.own y hy).lt hyb) (Nat.lt_irrefl _)
theorem Sx.drew (H:Sx M w0 w L) {G:World→Prop} (h:∀w1,Fr [] w w1→Sx M w0 w1 L→G w1):∀w1,w1=w.drew→G w1:=by
 rintro w1 rfl
 exact h _ (Fr.drew _ _) (H.call0 (Fr.drew _ _))
theorem Sx.setAt (H:Sx M w0 w L) (j:Nat) {b i:Nat} {c:Array Value} {t:TypeId} {f:Nat×Nat} {v:Value} (hj:L[j]? =some (.ob b (.cells c t f))):
 Sx M w0 (w.setCell ⟨b,i,none⟩ v) (L.set j (.ob b (.cells (c.setIfInBounds i v) t f))):=by
 have hok:=H.get j hj
 refine H.turn j hj ⟨H.fr.os,H.fr.tape,H.fr.output,by simpa using H.fr.size,fun k hk hm=>?_⟩ ⟨hok.1,?_⟩ (fun k _ hk=>?_) fun k hk=> .inl hk
 · have hne:k≠b:=by
    rintro rfl
    rcases hok.1 with h|h
    · exact absurd hk (Nat.not_lt.2 h)
    · exact hm h
   exact(Below.heap_setCell w ⟨b,i,none⟩ v k hne).trans (H.fr.block k hk hm)
 · have hb:=hok.2
   simp only [World.setCell,Array.getElem?_modify,if_true]
   rw [hb];simp
 · exact Below.heap_setCell w ⟨b,i,none⟩ v k fun e=>hk (by rw [e];rfl)
theorem Sx.sto (H:Sx M w0 w L) (j:Nat) {b i:Nat} {c:Array Value} {t:TypeId} {v:Value} {G:World→Prop} (hj:L[j]? =some (.ob b (.cells c t (0,0)))) (hi:i<c.size)
 (h:∀w1,Fr [b] w w1→Sx M w0 w1 (L.set j (.ob b (.cells (c.setIfInBounds i v) t (0,0))))→G w1):Sto w ⟨b,i,none⟩ v G:=by
 have hb:=(H.get j hj).2
 refine⟨⟨c[i],?_⟩,frozen_of_heap hb (.inr (Nat.zero_le _)),?_⟩
 · rw [cell_of_heap hb];simp [hi]
 · rintro w' rfl
   exact h _ (Fr.setCell w (by simp) v) (H.setAt j hj)
theorem Sx.cell (H:Sx M w0 w L) (j:Nat) {b i:Nat} {c:Array Value} {t:TypeId} {f:Nat×Nat} {v:Value} (hj:L[j]? =some (.ob b (.cells c t f))) (hi:c[i]? =some v):w.cell? ⟨b,i,none⟩=some v:=by
 rw [cell_of_heap (H.get j hj).2,hi]
theorem Sx.sl (H:Sx M w0 w L) (j:Nat) {b:Nat} {c:Array Value} {t:TypeId} {f:Nat×Nat} (hj:L[j]? =some (.ob b (.cells c t f))):Sl w (some (A0 b)) c.toList:=Sl.of_heap (H.get j hj).2
variable {e size:Nat} {a:Option Addr} {n c:Nat} {xs:List Value}
theorem Sx.len (H:Sx M w0 w L) (j:Nat) (hj:L[j]? =some (.ow e size a n c xs)):xs.length=n*size:=(H.get j hj).1.1
theorem Sx.slw (H:Sx M w0 w L) (j:Nat) (hj:L[j]? =some (.ow e size a n c xs)):Sl w a xs:=
 Ow.sl (M:=M) (w0:=w0) (L:= []) ⟨(H.get j hj).1,(H.get j hj).2,by simp⟩
theorem Sx.cap (H:Sx M w0 w L) (j:Nat) (hj:L[j]? =some (.ow e size a n c xs)):n≤c:=by
 rcases(H.get j hj).1.2 with⟨hv,h0⟩|⟨g,cap,cur,hv,_,_,h,_⟩
 · omega
 · cases hv;exact h
theorem Sx.capMax (H:Sx M w0 w L) (j:Nat) (hj:L[j]? =some (.ow e size a n c xs)):n≤maxLen:=by
 rcases(H.get j hj).1.2 with⟨hv,h0⟩|⟨g,cap,cur,hv,_,_,h,h2,_⟩
 · omega
 · cases hv;exact Nat.le_trans h h2
theorem Sx.none (H:Sx M w0 w L) (j:Nat) (hj:L[j]? =some (.ow e size none n c xs)):n=0∧xs= []:=by
 rcases(H.get j hj).1.2 with⟨hv,h0⟩|⟨g,cap,cur,hv,_⟩
 · exact⟨h0,List.length_eq_zero_iff.1 (by rw [H.len j hj,h0,Nat.zero_mul])⟩
 · cases hv
def toOb (w:World):En→Option (Nat×Obj)
 | .ob b o=>some (b,o)
 | .ow _ _ a _ _ _=>a.bind fun p=>(w.heap[p.block]?).map fun o=>(p.block,o)
theorem toOb_blk {x:En} {y:Nat×Obj} (h:x.ok M w0 w) (hy:toOb w x=some y):x.blk=some y.1∧w.heap[y.1]? =some y.2:=by
 cases x with
 |ob b o=>cases hy;exact⟨rfl,h.2⟩
 |ow e size a n c xs=>
  cases a with
  |none=>cases hy
  |some p=>
   simp only [toOb,Option.bind_some,Option.map_eq_some_iff]at hy
   obtain⟨o,ho,rfl⟩:=hy
   exact⟨rfl,ho⟩
theorem toOb_of {x:En} (h:x.ok M w0 w) {b:Nat} (hb:x.blk=some b):∃o,toOb w x=some (b,o):=by
 cases x with
 |ob b' o=>cases hb;exact⟨o,rfl⟩
 |ow e size a n c xs=>
  have hlt:=h.lt hb
  cases a with
  |none=>cases hb
  |some p=>
   simp [En.blk]at hb
   subst hb
   exact⟨w.heap[p.block],by simp [toOb,hlt]⟩
theorem Sx.open1 (H:Sx M w0 w (.ow e size a n c xs::L)):∃Lb:List (Nat×Obj),St M w0 w Lb∧Ow M w0 w Lb e size a n c xs∧
 ∀w' e' size' a' n' c' xs',St M w0 w' Lb→Ow M w0 w' Lb e' size' a' n' c' xs'→Sx M w0 w' (.ow e' size' a' n' c' xs'::L):=by
 have hx:=H.own _ (List.mem_cons_self ..)
 have hsep:=(List.pairwise_cons.1 H.sep).1
 have HL:=H.tail
 have hmem:∀y∈L.filterMap (toOb w),∃x∈L,toOb w x=some y:=fun y hy=>by simpa using List.mem_filterMap.1 hy
 refine⟨L.filterMap (toOb w),⟨H.fr,fun y hy=>?_,?_⟩,⟨hx.1,hx.2,fun p hp y hy=>?_⟩,fun w' e' size' a' n' c' xs' hst how=>?_⟩
 · obtain⟨x,hxL,hxy⟩:=hmem y hy
   obtain⟨h1,h2⟩:=toOb_blk (HL.own x hxL) hxy
   exact⟨(HL.own x hxL).new h1,h2⟩
 · rw [List.Nodup,List.pairwise_map,List.pairwise_filterMap]
   refine HL.sep.imp_of_mem fun {x y} hxm hym hap u hu v hv huv=>?_
   obtain⟨h1,_⟩:=toOb_blk (HL.own x hxm) hu
   obtain⟨h2,_⟩:=toOb_blk (HL.own y hym) hv
   exact hap _ h1 (by rw [h2,huv])
 · subst hp
   obtain⟨x,hxL,hxy⟩:=hmem y hy
   obtain⟨h1,_⟩:=toOb_blk (HL.own x hxL) hxy
   exact fun he=>hsep x hxL p.block rfl (by rw [h1,he])
 · have hkeep:∀x∈L,x.ok M w0 w':=fun x hxm=>(HL.own x hxm).kept fun b hb=>by
    obtain⟨o,ho⟩:=toOb_of (HL.own x hxm) hb
    have:=(hst.own (b,o) (List.mem_filterMap.2 ⟨x,hxm,ho⟩)).2
    rw [this]
    exact(toOb_blk (HL.own x hxm) ho).2.symm
   refine Sx.push ⟨hst.fr,hkeep,HL.sep⟩ ⟨how.row,how.new⟩ fun b hb y hy hyb=>?_
   obtain⟨o,ho⟩:=toOb_of (HL.own y hy) hyb
   cases a' with
   |none=>cases hb
   |some p=>
    simp [En.blk]at hb
    exact how.sep p rfl (b,o) (List.mem_filterMap.2 ⟨y,hy,ho⟩) (by simp [hb])
theorem Sx.append {P:Program} (H:Sx M w0 w L) (j:Nat) (hj:L[j]? =some (.ow e size a n c xs)) {t ty:TypeId} {i:TypeInfo} {z:Value} {bytes:Nat} (ht:P.underlying t=some (.slice e)) (hi:P.info? e=some i) (hz:i.zero=some z)
 (hsize:i.size=size) (hby:i.bytes=bytes) (hzs:z.cells.size=size) (hsz:0<size) {p:Option Addr} {m c':Nat} {news:List Value} (hl:news.length=m*size) (hm:0<m)
 (hnews:Sl w p news) (h1:∀u∈news,u.oneCell'=true) (hbytes:(n+m)*bytes≤140737488355328) (hb0:0<bytes)
 {G:Option Addr→Nat→Nat→World→Prop} (hg:∀a' c2 w',Sx M w0 w' (L.set j (.ow e size a' (n+m) c2 (xs++news)))→G a' (n+m) c2 w'):
 ∃x xn xc,∃w':World,(Builtin.append_ #[t,t] ty #[.slice a n c,.slice p m c']).run P w= .ok (.slice x xn xc) w'∧G x xn xc w':=by
 obtain⟨Lb,hst,how,hback⟩:=(H.front j hj).open1
 refine St.append hst how ht hi hz hsize hby hzs hsz hl hm hnews h1 hbytes hb0 fun a' c2 w' hst' how'=>hg _ _ _ ?_
 exact Sx.back j hj (hback _ _ _ _ _ _ _ hst' how')
theorem Sx.appendS {P:Program} (H:Sx M w0 w L) (j:Nat) (hj:L[j]? =some (.ow e 1 a n c xs)) {t u ty:TypeId} {i:TypeInfo} (ht:P.underlying t=some (.slice e)) (hu:P.underlying u=some .string) (hi:P.info? e=some i) (hz:i.zero=some (.int .u8 0))
 (hsize:i.size=1) (hby:i.bytes=1) (l:List UInt8) (hbytes:n+l.length≤140737488355328)
 {G:Option Addr→Nat→Nat→World→Prop} (hg:∀a' c2 w',Sx M w0 w' (L.set j (.ow e 1 a' (n+l.length) c2 (xs++u8s l)))→G a' (n+l.length) c2 w'):
 ∃x xn xc,∃w':World,(Builtin.append_ #[t,u] ty #[.slice a n c,.string (S l)]).run P w= .ok (.slice x xn xc) w'∧G x xn xc w':=by
 obtain⟨Lb,hst,how,hback⟩:=(H.front j hj).open1
 refine St.appendS hst how ht hu hi hz hsize hby l hbytes fun a' c2 w' hst' how'=>hg _ _ _ ?_
 exact Sx.back j hj (hback _ _ _ _ _ _ _ hst' how')
theorem Sx.stoW (H:Sx M w0 w L) (j:Nat) (hj:L[j]? =some (.ow e size a n c xs)) {i:Nat} {v:Value} {G:World→Prop} {p:Addr} (hp:a=some p) (hi:i<xs.length)
 (h:∀w1,Fr [p.block] w w1→Sx M w0 w1 (L.set j (.ow e size a n c (xs.set i v)))→G w1):Sto w (p.add i) v G:=by
 subst hp
 have hok:=H.get j hj
 rcases hok.1.2 with⟨hv,_⟩|⟨g,cap,cur,hv,_,hg,hnc,hcm,hcs,htk⟩
 · cases hv
 · cases hv
   have hlen:=H.len j hj
   have hic:i<cur.size:=by
    rw [hcs];rw [hlen]at hi
    exact Nat.lt_of_lt_of_le hi (Nat.mul_le_mul_right _ hnc)
   rw [add_lit,Nat.zero_add]
   refine⟨⟨cur[i],?_⟩,frozen_of_heap hg (.inr (Nat.zero_le _)),?_⟩
   · rw [cell_of_heap hg];simp [hic]
   · rintro w' rfl
     refine h _ (Fr.setCell w (by simp) v) (H.turn j hj ⟨H.fr.os,H.fr.tape,H.fr.output,by simpa using H.fr.size,fun k hk hm=>?_⟩ ⟨⟨by simpa using hlen,.inr ⟨g,c,cur.setIfInBounds i v,rfl,Nat.zero_le _,?_,hnc,hcm,by simpa using hcs,?_⟩⟩,hok.2⟩ (fun k _ hk=>?_) fun k hk=> .inl hk)
     · have hne:k≠g:=by
        rintro rfl
        rcases hok.2 _ rfl with h|h
        · exact absurd hk (Nat.not_lt.2 h)
        · exact hm h
       exact(Below.heap_setCell w ⟨g,i,Option.none⟩ v k hne).trans (H.fr.block k hk hm)
     · simp only [World.setCell,Array.getElem?_modify,if_true]
       rw [hg];simp
     · rw [←htk]
       simp only [Array.toList_setIfInBounds]
       exact List.take_set
     · exact Below.heap_setCell w ⟨g,i,Option.none⟩ v k fun e=>hk (by rw [e];rfl)
theorem Sx.cut (H:Sx M w0 w L) (j:Nat) (hj:L[j]? =some (.ow e size a n c xs)) (m:Nat) (hm:m≤n) (h0:a=Option.none→c=0):Sx M w0 w (L.set j (.ow e size a m c (xs.take (m*size)))):=by
 have hok:=H.get j hj
 have hlen:=H.len j hj
 refine H.turn j hj H.fr ⟨⟨by rw [List.length_take,hlen];exact Nat.min_eq_left (Nat.mul_le_mul_right _ hm),?_⟩,hok.2⟩ (fun _ _ _=>rfl) fun k hk=> .inl (by cases a<;>exact hk)
 rcases hok.1.2 with⟨hv,hn⟩|⟨g,cap,cur,hv,hb,hg,hnc,hcm,hcs,htk⟩
 · cases hv
   obtain rfl:m=0:=by omega
   exact .inl ⟨rfl,rfl⟩
 · cases hv
   refine .inr ⟨g,c,cur,rfl,hb,hg,by omega,hcm,hcs,?_⟩
   rw [←htk,List.take_take,Nat.min_eq_left (Nat.mul_le_mul_right _ hm)]
theorem Sx.asOw {b:Nat} {cs:Array Value} (H:Sx M w0 w (.ob b (.cells cs e (0,0))::L)) (size n c:Nat) (hnc:n≤c) (hc:c≤maxLen) (hcs:cs.size=c*size):Sx M w0 w (.ow e size (some (A0 b)) n c (cs.toList.take (n*size))::L):=by
 have hok:=H.own _ (List.mem_cons_self ..)
 refine H.tail.push ⟨⟨by rw [List.length_take,Array.length_toList,hcs];exact Nat.min_eq_left (Nat.mul_le_mul_right _ hnc),.inr ⟨b,c,cs,rfl,Nat.zero_le _,hok.2,hnc,hc,hcs,rfl⟩⟩,fun p hp=>by cases hp;exact hok.1⟩ fun k hk y hy=>?_
 exact(List.pairwise_cons.1 H.sep).1 y hy k hk
theorem Ow.push {w':World} (h:Ow [] w w' [] e size a n c xs) (H:Sx M w0 w L) (hf:Fr [] w w'):Sx M w0 w' (.ow e size a n c xs::L):=by
 refine(H.call0 hf).push ⟨h.row,fun p hp=>?_⟩ fun b hb y hy hyb=>?_
 · rcases h.new p hp with h1|h1
   · exact .inl (Nat.le_trans H.fr.size h1)
   · simp at h1
 · cases a with
   |none=>cases hb
   |some p=>
    simp [En.blk]at hb
    subst hb
    rcases h.new p rfl with h1|h1
    · have:=(H.own y hy).lt hyb;omega
    · simp at h1
theorem Sx.out (H:Sx [] w0 w L) (j:Nat) (hj:L[j]? =some (.ow e size a n c xs)):Ow [] w0 w [] e size a n c xs:=⟨(H.get j hj).1,(H.get j hj).2,by simp⟩
theorem Sx.join {w':World} {Lc:List En} (H:Sx M w0 w L) (Hc:Sx [] w w' Lc):Sx M w0 w' (Lc++L):=by
 have H':=H.call0 Hc.fr
 refine⟨H'.fr,fun x hx=>?_,?_⟩
 · rcases List.mem_append.1 hx with hx|hx
   · have hok:=Hc.own x hx
     cases x with
     |ob b o=>
      refine⟨?_,hok.2⟩
      rcases hok.1 with h|h
      · exact .inl (Nat.le_trans H.fr.size h)
      · simp at h
     |ow e size a n c xs=>
      refine⟨hok.1,fun p hp=>?_⟩
      rcases hok.2 p hp with h|h
      · exact .inl (Nat.le_trans H.fr.size h)
      · simp at h
   · exact H'.own x hx
 · rw [List.pairwise_append]
   refine⟨Hc.sep,H'.sep,fun x hx y hy b hb hyb=>?_⟩
   have h1:=(Hc.own x hx).new hb
   have h2:=(H.own y hy).lt hyb
   rcases h1 with h|h
   · omega
   · simp at h
theorem Calls.sx {P:Program} {k:Nat} {args:Array Value} {R:Ending→World→Prop} {v:Value} (H:Sx M w0 w L) (hc:Calls P k args w fun e w'=>e= .returned v∧Fr [] w w')
 (h:∀w',Fr [] w w'→Sx M w0 w' L→R (.returned v) w'):Calls P k args w R:=
 hc.mono fun _ w' ⟨he,hf⟩=>he▸h w' hf (H.call0 hf)
end Go.Proofs.VC
namespace Go.Proofs.VC
open Go Go.RowKit
variable {M:List Nat} {w0 w w':World} {L Ls Lr L':List En}
def blks (L:List En):List Nat:=L.filterMap En.blk
theorem mem_blks {b:Nat}:b∈blks L↔∃x∈L,x.blk=some b:=by simp [blks,List.mem_filterMap]
theorem Sx.re (H:Sx M w0 w L):Sx (blks L) w w L:=by
 refine⟨Fr.refl _ _,fun x hx=>?_,H.sep⟩
 have h:=H.own x hx
 cases x with
 |ob b o=>exact⟨.inr (mem_blks.2 ⟨_,hx,rfl⟩),h.2⟩
 |ow e size a n c xs=>exact⟨h.1,fun p hp=> .inr (mem_blks.2 ⟨_,hx,by subst hp;rfl⟩)⟩
theorem Sx.frame (H:Sx M w0 w (Ls++Lr)) (Hc:Sx (blks Ls) w w' L'):Sx M w0 w' (L'++Lr):=by
 have hsep:=List.pairwise_append.1 H.sep
 have hr:∀y∈Lr,∀b,y.blk=some b→b∉blks Ls:=fun y hy b hb hm=>by
  obtain⟨x,hx,hxb⟩:=mem_blks.1 hm
  exact hsep.2.2 x hx y hy b hxb hb
 have hlt:∀y∈Lr,∀b,y.blk=some b→b<w.heap.size:=fun y hy b hb=>(H.own y (List.mem_append_right _ hy)).lt hb
 have hls:∀b,b∈blks Ls→w0.heap.size≤b∨b∈M:=fun b hb=>by
  obtain⟨x,hx,hxb⟩:=mem_blks.1 hb
  exact(H.own x (List.mem_append_left _ hx)).new hxb
 refine⟨⟨Hc.fr.os.trans H.fr.os,Hc.fr.tape.trans H.fr.tape,Hc.fr.output.trans H.fr.output,Nat.le_trans H.fr.size Hc.fr.size,fun k hk hm=>?_⟩,fun x hx=>?_,?_⟩
 · refine(Hc.fr.block k (Nat.lt_of_lt_of_le hk H.fr.size) fun hb=>?_).trans (H.fr.block k hk hm)
   rcases hls k hb with h|h
   · omega
   · exact hm h
 · rcases List.mem_append.1 hx with hx|hx
   · have hok:=Hc.own x hx
     have fix:∀b,(w.heap.size≤b∨b∈blks Ls)→w0.heap.size≤b∨b∈M:=fun b hb=>by
      rcases hb with h|h
      · exact .inl (Nat.le_trans H.fr.size h)
      · exact hls b h
     cases x with
     |ob b o=>exact⟨fix _ hok.1,hok.2⟩
     |ow e size a n c xs=>exact⟨hok.1,fun p hp=>fix _ (hok.2 p hp)⟩
   · exact(H.own x (List.mem_append_right _ hx)).kept fun b hb=>Hc.fr.block b (hlt x hx b hb) (hr x hx b hb)
 · rw [List.pairwise_append]
   refine⟨Hc.sep,hsep.2.1,fun x hx y hy b hb hyb=>?_⟩
   rcases(Hc.own x hx).new hb with h|h
   · exact absurd (hlt y hy b hyb) (by omega)
   · exact hr y hy b hyb h
def cellsOnly (B:Nat) (L:List En):Prop:=∀b o,En.ob b o∈L→b<B∨o.isCells=true
theorem En.ok.cells {x:En} (h:x.ok M w0 w) {B b:Nat} (hc:∀b o,x= .ob b o→b<B∨o.isCells=true) (hb:x.blk=some b):b<B∨∀o,w.heap[b]? =some o→o.isCells=true:=by
 cases x with
 |ob b' o=>
  cases hb
  rcases hc b o rfl with h1|h1
  · exact .inl h1
  · right
    intro o' ho'
    rw [h.2]at ho';cases ho';exact h1
 |ow e size a n c xs=>
  cases a with
  |none=>cases hb
  |some p=>
   right
   simp [En.blk]at hb
   subst hb
   rcases h.1.2 with⟨hv,_⟩|⟨g,cap,cur,hv,_,hg,_⟩
   · cases hv
   · cases hv
     intro o ho
     rw [hg]at ho;cases ho;rfl
theorem Sx.keepsF {B:Nat} (H:Sx M w0 w (Ls++Lr)) (hc:cellsOnly B Ls) (hf:Fr (blks Ls) w w'):KeepsFrom B w w':=by
 refine⟨hf.size,fun k o hB hk ho=>(hf.block k (Array.getElem?_eq_some_iff.1 hk).1 fun hm=>?_).trans hk⟩
 obtain⟨x,hx,hxb⟩:=mem_blks.1 hm
 rcases(H.own x (List.mem_append_left _ hx)).cells (fun b o e=>hc b o (e▸hx)) hxb with h|h
 · omega
 · rw [h o hk]at ho;cases ho
theorem Sx.ownF {B:Nat} (hB:w0.heap.size≤B) (hc:cellsOnly B L):OwnF B (fun W=>Sx M w0 W L):=by
 intro W W' row H hg hr
 refine⟨⟨hg.os.trans H.fr.os,hg.tape.trans H.fr.tape,hg.output.trans H.fr.output,Nat.le_trans H.fr.size hg.size,fun k hk hm=>?_⟩,fun x hx=>?_,H.sep⟩
 · refine(hg.block k (Nat.lt_of_lt_of_le hk H.fr.size) fun e=>?_).trans (H.fr.block k hk hm)
   have:=(hr k e.symm).1
   omega
 · refine(H.own x hx).kept fun b hb=>hg.block b ((H.own x hx).lt hb) fun e=>?_
   obtain⟨h1,o,ho,hoc⟩:=hr b e.symm
   rcases(H.own x hx).cells (fun b o e=>hc b o (e▸hx)) hb with h|h
   · omega
   · rw [h o ho]at hoc;cases hoc
theorem OwnF.ex {α:Type} {B:Nat} {I:α→World→Prop} (h:∀x,OwnF B (I x)):OwnF B (fun W=>∃x,I x W):=fun W W' row ⟨x,hs⟩ hg hr=>⟨x,h x W W' row hs hg hr⟩
theorem OwnF.and {p:Prop} {B:Nat} {I:World→Prop} (h:OwnF B I):OwnF B (fun W=>p∧I W):=fun W W' row ⟨x,hs⟩ hg hr=>⟨x,h W W' row hs hg hr⟩
theorem OwnF.no {B:Nat}:OwnF B (fun _=>False):=fun _ _ _ h _ _=>h
def KpC (C:Addr→Prop) (W W':World):Prop:=∀p v,C p→W.cell? p=some v→W'.cell? p=some v
theorem KpC.trans {C:Addr→Prop} {X Y Z:World} (h:KpC C X Y) (k:KpC C Y Z):KpC C X Z:=fun p v hp hv=>k p v hp (h p v hp hv)
theorem KpC.of_fr {C:Addr→Prop} {Mb:List Nat} (h:Fr Mb w w') (hC:∀p,C p→p.block∉Mb):KpC C w w':=fun p v hp hv=>h.cell (hC p hp) hv
theorem KpC.put {C:Addr→Prop} {W:World} {l:Nat} {o:Obj} (o':Obj) (hl:W.heap[l]? =some o) (ho:o.isCells=false):KpC C W (W.putObj l o'):=by
 intro p v _ hv
 obtain⟨o2,h2,hc⟩:=cells_of_cell hv
 have hne:p.block≠l:=by
  rintro rfl
  rw [hl]at h2;cases h2
  rw [ho]at hc;cases hc
 exact(World.cell?_of_block (World.putObj_heap_other hne)).trans hv
theorem Sx.setOb (H:Sx M w0 w L) (j:Nat) {b:Nat} {o o':Obj} (hj:L[j]? =some (.ob b o)):Sx M w0 {w with heap:=w.heap.setIfInBounds b o'} (L.set j (.ob b o')):=by
 have hok:=H.get j hj
 have hlt:b<w.heap.size:=(Array.getElem?_eq_some_iff.1 hok.2).1
 refine H.turn j hj ⟨H.fr.os,H.fr.tape,H.fr.output,by simpa using H.fr.size,fun k hk hm=>?_⟩ ⟨hok.1,?_⟩ (fun k _ hk=>?_) fun k hk=> .inl hk
 · have hne:k≠b:=by
    rintro rfl
    rcases hok.1 with h|h
    · exact absurd hk (Nat.not_lt.2 h)
    · exact hm h
   refine Eq.trans ?_ (H.fr.block k hk hm)
   simp [Ne.symm hne]
 · simp [hlt]
 · have hne:k≠b:=fun e=>hk (by rw [e];rfl)
   simp [Ne.symm hne]
theorem Sx.done {D:Nat} (H:Sx M w0 w (.ob D (.deferred (some []))::L)):Sx M w0 (w.putObj D (.deferred Option.none)) L:=(H.setOb 0 (o':= .deferred Option.none) rfl).tail
end Go.Proofs.VC
namespace Go.Proofs.Tryz
open Go Go.Proofs.VC
def noTI:TI:=⟨.none,0,0,[]⟩
def noAnn:Ann:= {loop:=fun _=>none,join:=fun _=>none,nf:=fun _=> []}
abbrev W64 (n:Int):Int:=IntKind.wrap .i64 n
abbrev U64 (n:Int):Int:=IntKind.wrap .u64 n
abbrev U8 (n:Int):Int:=IntKind.wrap .u8 n
abbrev U16 (n:Int):Int:=IntKind.wrap .u16 n
def TAB (t:Nat):TI:=cond (Nat.blt t 386) (cond (Nat.blt t 162) (cond (Nat.blt t 81) (cond (Nat.blt t 40) (cond (Nat.blt t 20) (cond (Nat.blt t 10) (cond (Nat.blt t 5) (cond (Nat.blt t 2) (cond (Nat.blt t 1) (cond (Nat.beq t 0) ⟨.tup [],1,0,[]⟩ noTI) (cond (Nat.beq t 1) ⟨.fn,1,8,[.fn]⟩ noTI)) (cond (Nat.blt t 3) (cond (Nat.beq t 2) ⟨.int .i64,1,8,[.int .i64]⟩ noTI) (cond (Nat.blt t 4) (cond (Nat.beq t 3) ⟨.int .i64,1,8,[.int .i64]⟩ noTI) (cond (Nat.beq t 4) ⟨.bool,1,1,[.bool]⟩ noTI)))) (cond (Nat.blt t 7) (cond (Nat.blt t 6) (cond (Nat.beq t 5) ⟨.int .u8,1,1,[.int .u8]⟩ noTI) (cond (Nat.beq t 6) ⟨.int .u8,1,1,[.int .u8]⟩ noTI)) (cond (Nat.blt t 8) (cond (Nat.beq t 7) ⟨.struct [(0,2),(1,3),(2,4),(3,6)],4,24,[.int .i64,.int .i64,.bool,.int .u8]⟩ noTI) (cond (Nat.blt t 9) (cond (Nat.beq t 8) ⟨.struct [(0,2),(1,3),(2,4),(3,6)],4,24,[.int .i64,.int .i64,.bool,.int .u8]⟩ noTI) (cond (Nat.beq t 9) ⟨.str,1,16,[.str]⟩ noTI))))) (cond (Nat.blt t 15) (cond (Nat.blt t 12) (cond (Nat.blt t 11) (cond (Nat.beq t 10) ⟨.str,1,16,[.str]⟩ noTI) (cond (Nat.beq t 11) ⟨.str,1,16,[.str]⟩ noTI)) (cond (Nat.blt t 13) (cond (Nat.beq t 12) ⟨.int .u64,1,8,[.int .u64]⟩ noTI) (cond (Nat.blt t 14) (cond (Nat.beq t 13) ⟨.struct [(0,9),(1,12)],2,24,[.str,.int .u64]⟩ noTI) (cond (Nat.beq t 14) ⟨.struct [(0,9),(1,12)],2,24,[.str,.int .u64]⟩ noTI)))) (cond (Nat.blt t 17) (cond (Nat.blt t 16) (cond (Nat.beq t 15) ⟨.ptr,1,8,[.ptr]⟩ noTI) (cond (Nat.beq t 16) ⟨.ptr,1,8,[.ptr]⟩ noTI)) (cond (Nat.blt t 18) (cond (Nat.beq t 17) ⟨.ptr,1,8,[.ptr]⟩ noTI) (cond (Nat.blt t 19) (cond (Nat.beq t 18) ⟨.struct [(0,17)],1,8,[.ptr]⟩ noTI) (cond (Nat.beq t 19) ⟨.struct [(0,17)],1,8,[.ptr]⟩ noTI)))))) (cond (Nat.blt t 30) (cond (Nat.blt t 25) (cond (Nat.blt t 22) (cond (Nat.blt t 21) (cond (Nat.beq t 20) ⟨.ifc,1,16,[.ifc]⟩ noTI) (cond (Nat.beq t 21) ⟨.int .i32,1,4,[.int .i32]⟩ noTI)) (cond (Nat.blt t 23) (cond (Nat.beq t 22) ⟨.int .u64,1,8,[.int .u64]⟩ noTI) (cond (Nat.blt t 24) (cond (Nat.beq t 23) ⟨.struct [(0,3),(1,3),(2,3),(3,3),(4,22)],5,40,[.int .i64,.int .i64,.int .i64,.int .i64,.int .u64]⟩ noTI) (cond (Nat.beq t 24) ⟨.struct [(0,3),(1,3),(2,3),(3,3),(4,22)],5,40,[.int .i64,.int .i64,.int .i64,.int .i64,.int .u64]⟩ noTI)))) (cond (Nat.blt t 27) (cond (Nat.blt t 26) (cond (Nat.beq t 25) ⟨.slice 2,1,24,[.sl]⟩ noTI) (cond (Nat.beq t 26) ⟨.fn,1,8,[.fn]⟩ noTI)) (cond (Nat.blt t 28) (cond (Nat.beq t 27) ⟨.int .i64,1,8,[.int .i64]⟩ noTI) (cond (Nat.blt t 29) (cond (Nat.beq t 28) ⟨.tup [9,27],1,0,[]⟩ noTI) (cond (Nat.beq t 29) ⟨.fn,1,8,[.fn]⟩ noTI))))) (cond (Nat.blt t 35) (cond (Nat.blt t 32) (cond (Nat.blt t 31) (cond (Nat.beq t 30) ⟨.struct [(0,9),(1,3)],2,24,[.str,.int .i64]⟩ noTI) (cond (Nat.beq t 31) ⟨.struct [(0,9),(1,3)],2,24,[.str,.int .i64]⟩ noTI)) (cond (Nat.blt t 33) (cond (Nat.beq t 32) ⟨.fn,1,8,[.fn]⟩ noTI) (cond (Nat.blt t 34) (cond (Nat.beq t 33) ⟨.tup [25,27],1,0,[]⟩ noTI) (cond (Nat.beq t 34) ⟨.fn,1,8,[.fn]⟩ noTI)))) (cond (Nat.blt t 37) (cond (Nat.blt t 36) (cond (Nat.beq t 35) ⟨.struct [(0,25),(1,3)],2,32,[.sl,.int .i64]⟩ noTI) (cond (Nat.beq t 36) ⟨.struct [(0,25),(1,3)],2,32,[.sl,.int .i64]⟩ noTI)) (cond (Nat.blt t 38) (cond (Nat.beq t 37) ⟨.fn,1,8,[.fn]⟩ noTI) (cond (Nat.blt t 39) (cond (Nat.beq t 38) ⟨.tup [3,25,3,27],1,0,[]⟩ noTI) (cond (Nat.beq t 39) ⟨.fn,1,8,[.fn]⟩ noTI))))))) (cond (Nat.blt t 60) (cond (Nat.blt t 50) (cond (Nat.blt t 45) (cond (Nat.blt t 42) (cond (Nat.blt t 41) (cond (Nat.beq t 40) ⟨.struct [(0,3),(1,25),(2,3),(3,3)],4,48,[.int .i64,.sl,.int .i64,.int .i64]⟩ noTI) (cond (Nat.beq t 41) ⟨.struct [(0,3),(1,25),(2,3),(3,3)],4,48,[.int .i64,.sl,.int .i64,.int .i64]⟩ noTI)) (cond (Nat.blt t 43) (cond (Nat.beq t 42) ⟨.fn,1,8,[.fn]⟩ noTI) (cond (Nat.blt t 44) (cond (Nat.beq t 43) ⟨.fn,1,8,[.fn]⟩ noTI) (cond (Nat.beq t 44) ⟨.fn,1,8,[.fn]⟩ noTI)))) (cond (Nat.blt t 47) (cond (Nat.blt t 46) (cond (Nat.beq t 45) ⟨.fn,1,8,[.fn]⟩ noTI) (cond (Nat.beq t 46) ⟨.fn,1,8,[.fn]⟩ noTI)) (cond (Nat.blt t 48) (cond (Nat.beq t 47) ⟨.slice 48,1,24,[.sl]⟩ noTI) (cond (Nat.blt t 49) (cond (Nat.beq t 48) ⟨.int .u16,1,2,[.int .u16]⟩ noTI) (cond (Nat.beq t 49) ⟨.fn,1,8,[.fn]⟩ noTI))))) (cond (Nat.blt t 55) (cond (Nat.blt t 52) (cond (Nat.blt t 51) (cond (Nat.beq t 50) ⟨.fn,1,8,[.fn]⟩ noTI) (cond (Nat.beq t 51) ⟨.slice 5,1,24,[.sl]⟩ noTI)) (cond (Nat.blt t 53) (cond (Nat.beq t 52) ⟨.slice 9,1,24,[.sl]⟩ noTI) (cond (Nat.blt t 54) (cond (Nat.beq t 53) ⟨.fn,1,8,[.fn]⟩ noTI) (cond (Nat.beq t 54) ⟨.fn,1,8,[.fn]⟩ noTI)))) (cond (Nat.blt t 57) (cond (Nat.blt t 56) (cond (Nat.beq t 55) ⟨.fn,1,8,[.fn]⟩ noTI) (cond (Nat.beq t 56) ⟨.slice 24,1,24,[.sl]⟩ noTI)) (cond (Nat.blt t 58) (cond (Nat.beq t 57) ⟨.fn,1,8,[.fn]⟩ noTI) (cond (Nat.blt t 59) (cond (Nat.beq t 58) ⟨.fn,1,8,[.fn]⟩ noTI) (cond (Nat.beq t 59) ⟨.fn,1,8,[.fn]⟩ noTI)))))) (cond (Nat.blt t 70) (cond (Nat.blt t 65) (cond (Nat.blt t 62) (cond (Nat.blt t 61) (cond (Nat.beq t 60) ⟨.fn,1,8,[.fn]⟩ noTI) (cond (Nat.beq t 61) ⟨.fn,1,8,[.fn]⟩ noTI)) (cond (Nat.blt t 63) (cond (Nat.beq t 62) ⟨.fn,1,8,[.fn]⟩ noTI) (cond (Nat.blt t 64) (cond (Nat.beq t 63) ⟨.fn,1,8,[.fn]⟩ noTI) (cond (Nat.beq t 64) ⟨.fn,1,8,[.fn]⟩ noTI)))) (cond (Nat.blt t 67) (cond (Nat.blt t 66) (cond (Nat.beq t 65) ⟨.fn,1,8,[.fn]⟩ noTI) (cond (Nat.beq t 66) ⟨.fn,1,8,[.fn]⟩ noTI)) (cond (Nat.blt t 68) (cond (Nat.beq t 67) ⟨.fn,1,8,[.fn]⟩ noTI) (cond (Nat.blt t 69) (cond (Nat.beq t 68) ⟨.struct [(0,24),(5,25)],6,64,[.int .i64,.int .i64,.int .i64,.int .i64,.int .u64,.sl]⟩ noTI) (cond (Nat.beq t 69) ⟨.struct [(0,24),(5,25)],6,64,[.int .i64,.int .i64,.int .i64,.int .i64,.int .u64,.sl]⟩ noTI))))) (cond (Nat.blt t 75) (cond (Nat.blt t 72) (cond (Nat.blt t 71) (cond (Nat.beq t 70) ⟨.arr 4 66,4,32,[.fn,.fn,.fn,.fn]⟩ noTI) (cond (Nat.beq t 71) ⟨.slice 119,1,24,[.sl]⟩ noTI)) (cond (Nat.blt t 73) (cond (Nat.beq t 72) ⟨.fn,1,8,[.fn]⟩ noTI) (cond (Nat.blt t 74) (cond (Nat.beq t 73) ⟨.slice 3,1,24,[.sl]⟩ noTI) (cond (Nat.beq t 74) ⟨.fn,1,8,[.fn]⟩ noTI)))) (cond (Nat.blt t 78) (cond (Nat.blt t 76) (cond (Nat.beq t 75) ⟨.struct [(0,73),(1,3)],2,32,[.sl,.int .i64]⟩ noTI) (cond (Nat.blt t 77) (cond (Nat.beq t 76) ⟨.struct [(0,73),(1,3)],2,32,[.sl,.int .i64]⟩ noTI) (cond (Nat.beq t 77) ⟨.fn,1,8,[.fn]⟩ noTI))) (cond (Nat.blt t 79) (cond (Nat.beq t 78) ⟨.fn,1,8,[.fn]⟩ noTI) (cond (Nat.blt t 80) (cond (Nat.beq t 79) ⟨.fn,1,8,[.fn]⟩ noTI) (cond (Nat.beq t 80) ⟨.fn,1,8,[.fn]⟩ noTI)))))))) (cond (Nat.blt t 121) (cond (Nat.blt t 101) (cond (Nat.blt t 91) (cond (Nat.blt t 86) (cond (Nat.blt t 83) (cond (Nat.blt t 82) (cond (Nat.beq t 81) ⟨.fn,1,8,[.fn]⟩ noTI) (cond (Nat.beq t 82) ⟨.fn,1,8,[.fn]⟩ noTI)) (cond (Nat.blt t 84) (cond (Nat.beq t 83) ⟨.fn,1,8,[.fn]⟩ noTI) (cond (Nat.blt t 85) (cond (Nat.beq t 84) ⟨.struct [(0,9),(1,3)],2,24,[.str,.int .i64]⟩ noTI) (cond (Nat.beq t 85) ⟨.struct [(0,9),(1,3)],2,24,[.str,.int .i64]⟩ noTI)))) (cond (Nat.blt t 88) (cond (Nat.blt t 87) (cond (Nat.beq t 86) ⟨.arr 4 82,4,32,[.fn,.fn,.fn,.fn]⟩ noTI) (cond (Nat.beq t 87) ⟨.tup [25,4],1,0,[]⟩ noTI)) (cond (Nat.blt t 89) (cond (Nat.beq t 88) ⟨.struct [(0,71),(1,3)],2,32,[.sl,.int .i64]⟩ noTI) (cond (Nat.blt t 90) (cond (Nat.beq t 89) ⟨.struct [(0,71),(1,3)],2,32,[.sl,.int .i64]⟩ noTI) (cond (Nat.beq t 90) ⟨.struct [(0,25),(1,4)],2,32,[.sl,.bool]⟩ noTI))))) (cond (Nat.blt t 96) (cond (Nat.blt t 93) (cond (Nat.blt t 92) (cond (Nat.beq t 91) ⟨.struct [(0,25),(1,4)],2,32,[.sl,.bool]⟩ noTI) (cond (Nat.beq t 92) ⟨.fn,1,8,[.fn]⟩ noTI)) (cond (Nat.blt t 94) (cond (Nat.beq t 93) ⟨.struct [(0,73),(1,3),(2,3)],3,40,[.sl,.int .i64,.int .i64]⟩ noTI) (cond (Nat.blt t 95) (cond (Nat.beq t 94) ⟨.struct [(0,73),(1,3),(2,3)],3,40,[.sl,.int .i64,.int .i64]⟩ noTI) (cond (Nat.beq t 95) ⟨.fn,1,8,[.fn]⟩ noTI)))) (cond (Nat.blt t 98) (cond (Nat.blt t 97) (cond (Nat.beq t 96) ⟨.fn,1,8,[.fn]⟩ noTI) (cond (Nat.beq t 97) ⟨.fn,1,8,[.fn]⟩ noTI)) (cond (Nat.blt t 99) (cond (Nat.beq t 98) ⟨.fn,1,8,[.fn]⟩ noTI) (cond (Nat.blt t 100) (cond (Nat.beq t 99) ⟨.fn,1,8,[.fn]⟩ noTI) (cond (Nat.beq t 100) ⟨.fn,1,8,[.fn]⟩ noTI)))))) (cond (Nat.blt t 111) (cond (Nat.blt t 106) (cond (Nat.blt t 103) (cond (Nat.blt t 102) (cond (Nat.beq t 101) ⟨.tup [3,3,3,3,27],1,0,[]⟩ noTI) (cond (Nat.beq t 102) ⟨.fn,1,8,[.fn]⟩ noTI)) (cond (Nat.blt t 104) (cond (Nat.beq t 103) ⟨.tup [22,3,27],1,0,[]⟩ noTI) (cond (Nat.blt t 105) (cond (Nat.beq t 104) ⟨.fn,1,8,[.fn]⟩ noTI) (cond (Nat.beq t 105) ⟨.struct [(0,22),(1,3),(2,3)],3,24,[.int .u64,.int .i64,.int .i64]⟩ noTI)))) (cond (Nat.blt t 108) (cond (Nat.blt t 107) (cond (Nat.beq t 106) ⟨.struct [(0,22),(1,3),(2,3)],3,24,[.int .u64,.int .i64,.int .i64]⟩ noTI) (cond (Nat.beq t 107) ⟨.fn,1,8,[.fn]⟩ noTI)) (cond (Nat.blt t 109) (cond (Nat.beq t 108) ⟨.int .u64,1,8,[.int .u64]⟩ noTI) (cond (Nat.blt t 110) (cond (Nat.beq t 109) ⟨.slice 22,1,24,[.sl]⟩ noTI) (cond (Nat.beq t 110) ⟨.fn,1,8,[.fn]⟩ noTI))))) (cond (Nat.blt t 116) (cond (Nat.blt t 113) (cond (Nat.blt t 112) (cond (Nat.beq t 111) ⟨.fn,1,8,[.fn]⟩ noTI) (cond (Nat.beq t 112) ⟨.fn,1,8,[.fn]⟩ noTI)) (cond (Nat.blt t 114) (cond (Nat.beq t 113) ⟨.tup [73,27],1,0,[]⟩ noTI) (cond (Nat.blt t 115) (cond (Nat.beq t 114) ⟨.fn,1,8,[.fn]⟩ noTI) (cond (Nat.beq t 115) ⟨.fn,1,8,[.fn]⟩ noTI)))) (cond (Nat.blt t 118) (cond (Nat.blt t 117) (cond (Nat.beq t 116) ⟨.fn,1,8,[.fn]⟩ noTI) (cond (Nat.beq t 117) ⟨.fn,1,8,[.fn]⟩ noTI)) (cond (Nat.blt t 119) (cond (Nat.beq t 118) ⟨.struct [(0,3),(1,22)],2,16,[.int .i64,.int .u64]⟩ noTI) (cond (Nat.blt t 120) (cond (Nat.beq t 119) ⟨.struct [(0,3),(1,22)],2,16,[.int .i64,.int .u64]⟩ noTI) (cond (Nat.beq t 120) ⟨.fn,1,8,[.fn]⟩ noTI))))))) (cond (Nat.blt t 141) (cond (Nat.blt t 131) (cond (Nat.blt t 126) (cond (Nat.blt t 123) (cond (Nat.blt t 122) (cond (Nat.beq t 121) ⟨.fn,1,8,[.fn]⟩ noTI) (cond (Nat.beq t 122) ⟨.ptr,1,8,[.ptr]⟩ noTI)) (cond (Nat.blt t 124) (cond (Nat.beq t 123) ⟨.struct [(0,73),(1,3),(2,73),(3,73)],4,80,[.sl,.int .i64,.sl,.sl]⟩ noTI) (cond (Nat.blt t 125) (cond (Nat.beq t 124) ⟨.struct [(0,73),(1,3),(2,73),(3,73)],4,80,[.sl,.int .i64,.sl,.sl]⟩ noTI) (cond (Nat.beq t 125) ⟨.fn,1,8,[.fn]⟩ noTI)))) (cond (Nat.blt t 128) (cond (Nat.blt t 127) (cond (Nat.beq t 126) ⟨.fn,1,8,[.fn]⟩ noTI) (cond (Nat.beq t 127) ⟨.ptr,1,8,[.ptr]⟩ noTI)) (cond (Nat.blt t 129) (cond (Nat.beq t 128) ⟨.struct [(0,51)],1,24,[.sl]⟩ noTI) (cond (Nat.blt t 130) (cond (Nat.beq t 129) ⟨.struct [(0,51)],1,24,[.sl]⟩ noTI) (cond (Nat.beq t 130) ⟨.fn,1,8,[.fn]⟩ noTI))))) (cond (Nat.blt t 136) (cond (Nat.blt t 133) (cond (Nat.blt t 132) (cond (Nat.beq t 131) ⟨.fn,1,8,[.fn]⟩ noTI) (cond (Nat.beq t 132) ⟨.slice 138,1,24,[.sl]⟩ noTI)) (cond (Nat.blt t 134) (cond (Nat.beq t 133) ⟨.struct [(0,132),(1,3)],2,32,[.sl,.int .i64]⟩ noTI) (cond (Nat.blt t 135) (cond (Nat.beq t 134) ⟨.struct [(0,132),(1,3)],2,32,[.sl,.int .i64]⟩ noTI) (cond (Nat.beq t 135) ⟨.fn,1,8,[.fn]⟩ noTI)))) (cond (Nat.blt t 138) (cond (Nat.blt t 137) (cond (Nat.beq t 136) ⟨.fn,1,8,[.fn]⟩ noTI) (cond (Nat.beq t 137) ⟨.struct [(0,3),(1,3)],2,16,[.int .i64,.int .i64]⟩ noTI)) (cond (Nat.blt t 139) (cond (Nat.beq t 138) ⟨.struct [(0,3),(1,3)],2,16,[.int .i64,.int .i64]⟩ noTI) (cond (Nat.blt t 140) (cond (Nat.beq t 139) ⟨.fn,1,8,[.fn]⟩ noTI) (cond (Nat.beq t 140) ⟨.slice 145,1,24,[.sl]⟩ noTI)))))) (cond (Nat.blt t 151) (cond (Nat.blt t 146) (cond (Nat.blt t 143) (cond (Nat.blt t 142) (cond (Nat.beq t 141) ⟨.struct [(0,140),(1,3)],2,32,[.sl,.int .i64]⟩ noTI) (cond (Nat.beq t 142) ⟨.struct [(0,140),(1,3)],2,32,[.sl,.int .i64]⟩ noTI)) (cond (Nat.blt t 144) (cond (Nat.beq t 143) ⟨.fn,1,8,[.fn]⟩ noTI) (cond (Nat.blt t 145) (cond (Nat.beq t 144) ⟨.struct [(0,3),(1,3),(2,3)],3,24,[.int .i64,.int .i64,.int .i64]⟩ noTI) (cond (Nat.beq t 145) ⟨.struct [(0,3),(1,3),(2,3)],3,24,[.int .i64,.int .i64,.int .i64]⟩ noTI)))) (cond (Nat.blt t 148) (cond (Nat.blt t 147) (cond (Nat.beq t 146) ⟨.fn,1,8,[.fn]⟩ noTI) (cond (Nat.beq t 147) ⟨.ptr,1,8,[.ptr]⟩ noTI)) (cond (Nat.blt t 149) (cond (Nat.beq t 148) ⟨.fn,1,8,[.fn]⟩ noTI) (cond (Nat.blt t 150) (cond (Nat.beq t 149) ⟨.ptr,1,8,[.ptr]⟩ noTI) (cond (Nat.beq t 150) ⟨.fn,1,8,[.fn]⟩ noTI))))) (cond (Nat.blt t 156) (cond (Nat.blt t 153) (cond (Nat.blt t 152) (cond (Nat.beq t 151) ⟨.tup [73,73],1,0,[]⟩ noTI) (cond (Nat.beq t 152) ⟨.fn,1,8,[.fn]⟩ noTI)) (cond (Nat.blt t 154) (cond (Nat.beq t 153) ⟨.fn,1,8,[.fn]⟩ noTI) (cond (Nat.blt t 155) (cond (Nat.beq t 154) ⟨.fn,1,8,[.fn]⟩ noTI) (cond (Nat.beq t 155) ⟨.fn,1,8,[.fn]⟩ noTI)))) (cond (Nat.blt t 159) (cond (Nat.blt t 157) (cond (Nat.beq t 156) ⟨.fn,1,8,[.fn]⟩ noTI) (cond (Nat.blt t 158) (cond (Nat.beq t 157) ⟨.fn,1,8,[.fn]⟩ noTI) (cond (Nat.beq t 158) ⟨.tup [73,3,27],1,0,[]⟩ noTI))) (cond (Nat.blt t 160) (cond (Nat.beq t 159) ⟨.fn,1,8,[.fn]⟩ noTI) (cond (Nat.blt t 161) (cond (Nat.beq t 160) ⟨.tup [71,27],1,0,[]⟩ noTI) (cond (Nat.beq t 161) ⟨.fn,1,8,[.fn]⟩ noTI))))))))) (cond (Nat.blt t 243) (cond (Nat.blt t 202) (cond (Nat.blt t 182) (cond (Nat.blt t 172) (cond (Nat.blt t 167) (cond (Nat.blt t 164) (cond (Nat.blt t 163) (cond (Nat.beq t 162) ⟨.fn,1,8,[.fn]⟩ noTI) (cond (Nat.beq t 163) ⟨.fn,1,8,[.fn]⟩ noTI)) (cond (Nat.blt t 165) (cond (Nat.beq t 164) ⟨.fn,1,8,[.fn]⟩ noTI) (cond (Nat.blt t 166) (cond (Nat.beq t 165) ⟨.fn,1,8,[.fn]⟩ noTI) (cond (Nat.beq t 166) ⟨.ptr,1,8,[.ptr]⟩ noTI)))) (cond (Nat.blt t 169) (cond (Nat.blt t 168) (cond (Nat.beq t 167) ⟨.fn,1,8,[.fn]⟩ noTI) (cond (Nat.beq t 168) ⟨.fn,1,8,[.fn]⟩ noTI)) (cond (Nat.blt t 170) (cond (Nat.beq t 169) ⟨.fn,1,8,[.fn]⟩ noTI) (cond (Nat.blt t 171) (cond (Nat.beq t 170) ⟨.ptr,1,8,[.ptr]⟩ noTI) (cond (Nat.beq t 171) ⟨.fn,1,8,[.fn]⟩ noTI))))) (cond (Nat.blt t 177) (cond (Nat.blt t 174) (cond (Nat.blt t 173) (cond (Nat.beq t 172) ⟨.struct [(0,51)],1,24,[.sl]⟩ noTI) (cond (Nat.beq t 173) ⟨.ptr,1,8,[.ptr]⟩ noTI)) (cond (Nat.blt t 175) (cond (Nat.beq t 174) ⟨.fn,1,8,[.fn]⟩ noTI) (cond (Nat.blt t 176) (cond (Nat.beq t 175) ⟨.fn,1,8,[.fn]⟩ noTI) (cond (Nat.beq t 176) ⟨.struct [(0,2),(1,4)],2,16,[.int .i64,.bool]⟩ noTI)))) (cond (Nat.blt t 179) (cond (Nat.blt t 178) (cond (Nat.beq t 177) ⟨.struct [(0,2),(1,4)],2,16,[.int .i64,.bool]⟩ noTI) (cond (Nat.beq t 178) ⟨.fn,1,8,[.fn]⟩ noTI)) (cond (Nat.blt t 180) (cond (Nat.beq t 179) ⟨.arr 8 5,8,8,[.int .u8,.int .u8,.int .u8,.int .u8,.int .u8,.int .u8,.int .u8,.int .u8]⟩ noTI) (cond (Nat.blt t 181) (cond (Nat.beq t 180) ⟨.arr 4 22,4,32,[.int .u64,.int .u64,.int .u64,.int .u64]⟩ noTI) (cond (Nat.beq t 181) ⟨.arr 4 22,4,32,[.int .u64,.int .u64,.int .u64,.int .u64]⟩ noTI)))))) (cond (Nat.blt t 192) (cond (Nat.blt t 187) (cond (Nat.blt t 184) (cond (Nat.blt t 183) (cond (Nat.beq t 182) ⟨.fn,1,8,[.fn]⟩ noTI) (cond (Nat.beq t 183) ⟨.fn,1,8,[.fn]⟩ noTI)) (cond (Nat.blt t 185) (cond (Nat.beq t 184) ⟨.fn,1,8,[.fn]⟩ noTI) (cond (Nat.blt t 186) (cond (Nat.beq t 185) ⟨.fn,1,8,[.fn]⟩ noTI) (cond (Nat.beq t 186) ⟨.ptr,1,8,[.ptr]⟩ noTI)))) (cond (Nat.blt t 189) (cond (Nat.blt t 188) (cond (Nat.beq t 187) ⟨.struct [(0,186),(1,51)],2,32,[.ptr,.sl]⟩ noTI) (cond (Nat.beq t 188) ⟨.struct [(0,186),(1,51)],2,32,[.ptr,.sl]⟩ noTI)) (cond (Nat.blt t 190) (cond (Nat.beq t 189) ⟨.fn,1,8,[.fn]⟩ noTI) (cond (Nat.blt t 191) (cond (Nat.beq t 190) ⟨.ifc,1,16,[.ifc]⟩ noTI) (cond (Nat.beq t 191) ⟨.ifc,1,16,[.ifc]⟩ noTI))))) (cond (Nat.blt t 197) (cond (Nat.blt t 194) (cond (Nat.blt t 193) (cond (Nat.beq t 192) ⟨.tup [3,191],1,0,[]⟩ noTI) (cond (Nat.beq t 193) ⟨.fn,1,8,[.fn]⟩ noTI)) (cond (Nat.blt t 195) (cond (Nat.beq t 194) ⟨.fn,1,8,[.fn]⟩ noTI) (cond (Nat.blt t 196) (cond (Nat.beq t 195) ⟨.fn,1,8,[.fn]⟩ noTI) (cond (Nat.beq t 196) ⟨.struct [(0,9)],1,16,[.str]⟩ noTI)))) (cond (Nat.blt t 199) (cond (Nat.blt t 198) (cond (Nat.beq t 197) ⟨.struct [(0,9)],1,16,[.str]⟩ noTI) (cond (Nat.beq t 198) ⟨.ptr,1,8,[.ptr]⟩ noTI)) (cond (Nat.blt t 200) (cond (Nat.beq t 199) ⟨.slice 208,1,24,[.sl]⟩ noTI) (cond (Nat.blt t 201) (cond (Nat.beq t 200) ⟨.struct [(0,73),(1,3),(2,199)],3,56,[.sl,.int .i64,.sl]⟩ noTI) (cond (Nat.beq t 201) ⟨.struct [(0,73),(1,3),(2,199)],3,56,[.sl,.int .i64,.sl]⟩ noTI))))))) (cond (Nat.blt t 222) (cond (Nat.blt t 212) (cond (Nat.blt t 207) (cond (Nat.blt t 204) (cond (Nat.blt t 203) (cond (Nat.beq t 202) ⟨.fn,1,8,[.fn]⟩ noTI) (cond (Nat.beq t 203) ⟨.fn,1,8,[.fn]⟩ noTI)) (cond (Nat.blt t 205) (cond (Nat.beq t 204) ⟨.fn,1,8,[.fn]⟩ noTI) (cond (Nat.blt t 206) (cond (Nat.beq t 205) ⟨.struct [(0,3),(1,3),(2,3)],3,24,[.int .i64,.int .i64,.int .i64]⟩ noTI) (cond (Nat.beq t 206) ⟨.struct [(0,3),(1,3),(2,3)],3,24,[.int .i64,.int .i64,.int .i64]⟩ noTI)))) (cond (Nat.blt t 209) (cond (Nat.blt t 208) (cond (Nat.beq t 207) ⟨.struct [(0,3),(1,3),(2,4),(3,4)],4,24,[.int .i64,.int .i64,.bool,.bool]⟩ noTI) (cond (Nat.beq t 208) ⟨.struct [(0,3),(1,3),(2,4),(3,4)],4,24,[.int .i64,.int .i64,.bool,.bool]⟩ noTI)) (cond (Nat.blt t 210) (cond (Nat.beq t 209) ⟨.fn,1,8,[.fn]⟩ noTI) (cond (Nat.blt t 211) (cond (Nat.beq t 210) ⟨.tup [132,27],1,0,[]⟩ noTI) (cond (Nat.beq t 211) ⟨.fn,1,8,[.fn]⟩ noTI))))) (cond (Nat.blt t 217) (cond (Nat.blt t 214) (cond (Nat.blt t 213) (cond (Nat.beq t 212) ⟨.ptr,1,8,[.ptr]⟩ noTI) (cond (Nat.beq t 213) ⟨.fn,1,8,[.fn]⟩ noTI)) (cond (Nat.blt t 215) (cond (Nat.beq t 214) ⟨.tup [2,4],1,0,[]⟩ noTI) (cond (Nat.blt t 216) (cond (Nat.beq t 215) ⟨.fn,1,8,[.fn]⟩ noTI) (cond (Nat.beq t 216) ⟨.fn,1,8,[.fn]⟩ noTI)))) (cond (Nat.blt t 219) (cond (Nat.blt t 218) (cond (Nat.beq t 217) ⟨.fn,1,8,[.fn]⟩ noTI) (cond (Nat.beq t 218) ⟨.fn,1,8,[.fn]⟩ noTI)) (cond (Nat.blt t 220) (cond (Nat.beq t 219) ⟨.ptr,1,8,[.ptr]⟩ noTI) (cond (Nat.blt t 221) (cond (Nat.beq t 220) ⟨.tup [219,27],1,0,[]⟩ noTI) (cond (Nat.beq t 221) ⟨.fn,1,8,[.fn]⟩ noTI)))))) (cond (Nat.blt t 232) (cond (Nat.blt t 227) (cond (Nat.blt t 224) (cond (Nat.blt t 223) (cond (Nat.beq t 222) ⟨.fn,1,8,[.fn]⟩ noTI) (cond (Nat.beq t 223) ⟨.fn,1,8,[.fn]⟩ noTI)) (cond (Nat.blt t 225) (cond (Nat.beq t 224) ⟨.fn,1,8,[.fn]⟩ noTI) (cond (Nat.blt t 226) (cond (Nat.beq t 225) ⟨.arr 65 73,65,1560,List.replicate 65 (.sl)⟩ noTI) (cond (Nat.beq t 226) ⟨.struct [(0,140),(1,225),(66,3),(67,109),(68,73)],69,1640,List.replicate 66 (.sl)++ [.int .i64]++ [.sl,.sl]⟩ noTI)))) (cond (Nat.blt t 229) (cond (Nat.blt t 228) (cond (Nat.beq t 227) ⟨.struct [(0,140),(1,225),(66,3),(67,109),(68,73)],69,1640,List.replicate 66 (.sl)++ [.int .i64]++ [.sl,.sl]⟩ noTI) (cond (Nat.beq t 228) ⟨.ptr,1,8,[.ptr]⟩ noTI)) (cond (Nat.blt t 230) (cond (Nat.beq t 229) ⟨.fn,1,8,[.fn]⟩ noTI) (cond (Nat.blt t 231) (cond (Nat.beq t 230) ⟨.ptr,1,8,[.ptr]⟩ noTI) (cond (Nat.beq t 231) ⟨.fn,1,8,[.fn]⟩ noTI))))) (cond (Nat.blt t 237) (cond (Nat.blt t 234) (cond (Nat.blt t 233) (cond (Nat.beq t 232) ⟨.fn,1,8,[.fn]⟩ noTI) (cond (Nat.beq t 233) ⟨.fn,1,8,[.fn]⟩ noTI)) (cond (Nat.blt t 235) (cond (Nat.beq t 234) ⟨.fn,1,8,[.fn]⟩ noTI) (cond (Nat.blt t 236) (cond (Nat.beq t 235) ⟨.fn,1,8,[.fn]⟩ noTI) (cond (Nat.beq t 236) ⟨.slice 73,1,24,[.sl]⟩ noTI)))) (cond (Nat.blt t 240) (cond (Nat.blt t 238) (cond (Nat.beq t 237) ⟨.struct [(0,73),(1,73),(2,73),(3,236),(4,3),(5,3)],6,112,[.sl,.sl,.sl,.sl,.int .i64,.int .i64]⟩ noTI) (cond (Nat.blt t 239) (cond (Nat.beq t 238) ⟨.struct [(0,73),(1,73),(2,73),(3,236),(4,3),(5,3)],6,112,[.sl,.sl,.sl,.sl,.int .i64,.int .i64]⟩ noTI) (cond (Nat.beq t 239) ⟨.struct [(0,51),(1,22)],2,32,[.sl,.int .u64]⟩ noTI))) (cond (Nat.blt t 241) (cond (Nat.beq t 240) ⟨.struct [(0,51),(1,22)],2,32,[.sl,.int .u64]⟩ noTI) (cond (Nat.blt t 242) (cond (Nat.beq t 241) ⟨.fn,1,8,[.fn]⟩ noTI) (cond (Nat.beq t 242) ⟨.fn,1,8,[.fn]⟩ noTI)))))))) (cond (Nat.blt t 298) (cond (Nat.blt t 264) (cond (Nat.blt t 253) (cond (Nat.blt t 248) (cond (Nat.blt t 245) (cond (Nat.blt t 244) (cond (Nat.beq t 243) ⟨.fn,1,8,[.fn]⟩ noTI) (cond (Nat.beq t 244) ⟨.fn,1,8,[.fn]⟩ noTI)) (cond (Nat.blt t 246) (cond (Nat.beq t 245) ⟨.fn,1,8,[.fn]⟩ noTI) (cond (Nat.blt t 247) (cond (Nat.beq t 246) ⟨.ptr,1,8,[.ptr]⟩ noTI) (cond (Nat.beq t 247) ⟨.fn,1,8,[.fn]⟩ noTI)))) (cond (Nat.blt t 250) (cond (Nat.blt t 249) (cond (Nat.beq t 248) ⟨.tup [22,27],1,0,[]⟩ noTI) (cond (Nat.beq t 249) ⟨.ptr,1,8,[.ptr]⟩ noTI)) (cond (Nat.blt t 251) (cond (Nat.beq t 250) ⟨.map,1,8,[.map]⟩ noTI) (cond (Nat.blt t 252) (cond (Nat.beq t 251) ⟨.struct [(0,246),(1,250)],2,16,[.ptr,.map]⟩ noTI) (cond (Nat.beq t 252) ⟨.struct [(0,246),(1,250)],2,16,[.ptr,.map]⟩ noTI))))) (cond (Nat.blt t 258) (cond (Nat.blt t 255) (cond (Nat.blt t 254) (cond (Nat.beq t 253) ⟨.fn,1,8,[.fn]⟩ noTI) (cond (Nat.beq t 254) ⟨.tup [119,27],1,0,[]⟩ noTI)) (cond (Nat.blt t 256) (cond (Nat.beq t 255) ⟨.fn,1,8,[.fn]⟩ noTI) (cond (Nat.blt t 257) (cond (Nat.beq t 256) ⟨.fn,1,8,[.fn]⟩ noTI) (cond (Nat.beq t 257) ⟨.ptr,1,8,[.ptr]⟩ noTI)))) (cond (Nat.blt t 260) (cond (Nat.blt t 259) (cond (Nat.beq t 258) ⟨.tup [257,4],1,0,[]⟩ noTI) (cond (Nat.beq t 259) ⟨.fn,1,8,[.fn]⟩ noTI)) (cond (Nat.blt t 261) (cond (Nat.beq t 260) ⟨.fn,1,8,[.fn]⟩ noTI) (cond (Nat.blt t 262) (cond (Nat.beq t 261) ⟨.tup [119,4],1,0,[]⟩ noTI) (cond (Nat.beq t 262) ⟨.ptr,1,8,[.ptr]⟩ noTI)))))) (cond (Nat.blt t 281) (cond (Nat.blt t 273) (cond (Nat.blt t 267) (cond (Nat.blt t 265) (cond (Nat.beq t 264) ⟨.struct [(0,219),(1,262),(2,246)],3,24,[.ptr,.ptr,.ptr]⟩ noTI) (cond (Nat.beq t 265) ⟨.ptr,1,8,[.ptr]⟩ noTI)) (cond (Nat.blt t 268) (cond (Nat.beq t 267) ⟨.fn,1,8,[.fn]⟩ noTI) (cond (Nat.blt t 271) (cond (Nat.beq t 268) ⟨.tup [3,27],1,0,[]⟩ noTI) (cond (Nat.beq t 271) ⟨.fn,1,8,[.fn]⟩ noTI)))) (cond (Nat.blt t 277) (cond (Nat.blt t 276) (cond (Nat.beq t 273) ⟨.struct [(0,51),(1,3)],2,32,[.sl,.int .i64]⟩ noTI) (cond (Nat.beq t 276) ⟨.struct [(0,9),(1,149),(2,4)],3,32,[.str,.ptr,.bool]⟩ noTI)) (cond (Nat.blt t 279) (cond (Nat.beq t 277) ⟨.fn,1,8,[.fn]⟩ noTI) (cond (Nat.blt t 280) (cond (Nat.beq t 279) ⟨.arr 4 3,4,32,[.int .i64,.int .i64,.int .i64,.int .i64]⟩ noTI) (cond (Nat.beq t 280) ⟨.ptr,1,8,[.ptr]⟩ noTI))))) (cond (Nat.blt t 289) (cond (Nat.blt t 284) (cond (Nat.blt t 283) (cond (Nat.beq t 281) ⟨.ptr,1,8,[.ptr]⟩ noTI) (cond (Nat.beq t 283) ⟨.slice 286,1,24,[.sl]⟩ noTI)) (cond (Nat.blt t 286) (cond (Nat.beq t 284) ⟨.fn,1,8,[.fn]⟩ noTI) (cond (Nat.blt t 287) (cond (Nat.beq t 286) ⟨.struct [(0,3),(1,3)],2,16,[.int .i64,.int .i64]⟩ noTI) (cond (Nat.beq t 287) ⟨.tup [286,4],1,0,[]⟩ noTI)))) (cond (Nat.blt t 294) (cond (Nat.blt t 291) (cond (Nat.beq t 289) ⟨.fn,1,8,[.fn]⟩ noTI) (cond (Nat.blt t 293) (cond (Nat.beq t 291) ⟨.ptr,1,8,[.ptr]⟩ noTI) (cond (Nat.beq t 293) ⟨.slice 295,1,24,[.sl]⟩ noTI))) (cond (Nat.blt t 295) (cond (Nat.beq t 294) ⟨.struct [(0,3),(1,3)],2,16,[.int .i64,.int .i64]⟩ noTI) (cond (Nat.blt t 296) (cond (Nat.beq t 295) ⟨.struct [(0,3),(1,3)],2,16,[.int .i64,.int .i64]⟩ noTI) (cond (Nat.beq t 296) ⟨.tup [295,4],1,0,[]⟩ noTI))))))) (cond (Nat.blt t 329) (cond (Nat.blt t 314) (cond (Nat.blt t 307) (cond (Nat.blt t 302) (cond (Nat.blt t 300) (cond (Nat.beq t 298) ⟨.struct [(0,51),(1,3)],2,32,[.sl,.int .i64]⟩ noTI) (cond (Nat.beq t 300) ⟨.ptr,1,8,[.ptr]⟩ noTI)) (cond (Nat.blt t 304) (cond (Nat.beq t 302) ⟨.slice 304,1,24,[.sl]⟩ noTI) (cond (Nat.blt t 305) (cond (Nat.beq t 304) ⟨.struct [(0,3),(1,3)],2,16,[.int .i64,.int .i64]⟩ noTI) (cond (Nat.beq t 305) ⟨.ptr,1,8,[.ptr]⟩ noTI)))) (cond (Nat.blt t 311) (cond (Nat.blt t 310) (cond (Nat.beq t 307) ⟨.tup [140,27],1,0,[]⟩ noTI) (cond (Nat.beq t 310) ⟨.tup [3,4],1,0,[]⟩ noTI)) (cond (Nat.blt t 312) (cond (Nat.beq t 311) ⟨.fn,1,8,[.fn]⟩ noTI) (cond (Nat.blt t 313) (cond (Nat.beq t 312) ⟨.fn,1,8,[.fn]⟩ noTI) (cond (Nat.beq t 313) ⟨.slice 320,1,24,[.sl]⟩ noTI))))) (cond (Nat.blt t 322) (cond (Nat.blt t 317) (cond (Nat.blt t 315) (cond (Nat.beq t 314) ⟨.arr 3 313,3,72,[.sl,.sl,.sl]⟩ noTI) (cond (Nat.beq t 315) ⟨.arr 7 73,7,168,[.sl,.sl,.sl,.sl,.sl,.sl,.sl]⟩ noTI)) (cond (Nat.blt t 318) (cond (Nat.beq t 317) ⟨.struct [(0,314),(3,315),(10,3),(11,3)],12,256,[.sl,.sl,.sl,.sl,.sl,.sl,.sl,.sl,.sl,.sl,.int .i64,.int .i64]⟩ noTI) (cond (Nat.blt t 320) (cond (Nat.beq t 318) ⟨.arr 3 3,3,24,[.int .i64,.int .i64,.int .i64]⟩ noTI) (cond (Nat.beq t 320) ⟨.arr 128 3,128,1024,List.replicate 128 (.int .i64)⟩ noTI)))) (cond (Nat.blt t 325) (cond (Nat.blt t 323) (cond (Nat.beq t 322) ⟨.struct [(0,51),(1,22),(2,22)],3,40,[.sl,.int .u64,.int .u64]⟩ noTI) (cond (Nat.beq t 323) ⟨.ptr,1,8,[.ptr]⟩ noTI)) (cond (Nat.blt t 327) (cond (Nat.beq t 325) ⟨.struct [(0,73),(1,154)],2,32,[.sl,.fn]⟩ noTI) (cond (Nat.blt t 328) (cond (Nat.beq t 327) ⟨.struct [(0,9),(1,3)],2,24,[.str,.int .i64]⟩ noTI) (cond (Nat.beq t 328) ⟨.struct [(0,9),(1,3)],2,24,[.str,.int .i64]⟩ noTI)))))) (cond (Nat.blt t 353) (cond (Nat.blt t 342) (cond (Nat.blt t 333) (cond (Nat.blt t 331) (cond (Nat.beq t 329) ⟨.tup [262,27],1,0,[]⟩ noTI) (cond (Nat.beq t 331) ⟨.fn,1,8,[.fn]⟩ noTI)) (cond (Nat.blt t 334) (cond (Nat.beq t 333) ⟨.struct [(0,9),(1,3)],2,24,[.str,.int .i64]⟩ noTI) (cond (Nat.blt t 335) (cond (Nat.beq t 334) ⟨.struct [(0,9),(1,3),(2,3),(3,22),(4,22),(5,4)],6,56,[.str,.int .i64,.int .i64,.int .u64,.int .u64,.bool]⟩ noTI) (cond (Nat.beq t 335) ⟨.struct [(0,9),(1,3),(2,3),(3,22),(4,22),(5,4)],6,56,[.str,.int .i64,.int .i64,.int .u64,.int .u64,.bool]⟩ noTI)))) (cond (Nat.blt t 348) (cond (Nat.blt t 346) (cond (Nat.beq t 342) ⟨.ifc,1,16,[.ifc]⟩ noTI) (cond (Nat.beq t 346) ⟨.ptr,1,8,[.ptr]⟩ noTI)) (cond (Nat.blt t 349) (cond (Nat.beq t 348) ⟨.struct [(0,3),(1,3),(2,73)],3,40,[.int .i64,.int .i64,.sl]⟩ noTI) (cond (Nat.blt t 351) (cond (Nat.beq t 349) ⟨.fn,1,8,[.fn]⟩ noTI) (cond (Nat.beq t 351) ⟨.fn,1,8,[.fn]⟩ noTI))))) (cond (Nat.blt t 365) (cond (Nat.blt t 357) (cond (Nat.blt t 354) (cond (Nat.beq t 353) ⟨.ptr,1,8,[.ptr]⟩ noTI) (cond (Nat.beq t 354) ⟨.arr 3 353,3,24,[.ptr,.ptr,.ptr]⟩ noTI)) (cond (Nat.blt t 358) (cond (Nat.beq t 357) ⟨.int .i64,1,8,[.int .i64]⟩ noTI) (cond (Nat.blt t 364) (cond (Nat.beq t 358) ⟨.tup [3,357],1,0,[]⟩ noTI) (cond (Nat.beq t 364) ⟨.int .u32,1,4,[.int .u32]⟩ noTI)))) (cond (Nat.blt t 371) (cond (Nat.blt t 368) (cond (Nat.beq t 365) ⟨.int .u64,1,8,[.int .u64]⟩ noTI) (cond (Nat.blt t 370) (cond (Nat.beq t 368) ⟨.ptr,1,8,[.ptr]⟩ noTI) (cond (Nat.beq t 370) ⟨.ptr,1,8,[.ptr]⟩ noTI))) (cond (Nat.blt t 374) (cond (Nat.beq t 371) ⟨.tup [3,3],1,0,[]⟩ noTI) (cond (Nat.blt t 385) (cond (Nat.beq t 374) ⟨.struct [(0,17),(1,17),(2,17),(3,9)],4,40,[.ptr,.ptr,.ptr,.str]⟩ noTI) (cond (Nat.beq t 385) ⟨.tup [304,4],1,0,[]⟩ noTI)))))))))) noTI
def fok (f:Nat):Bool:=Nat.blt f 293&&Nat.ble 3 f&& !(Nat.beq f 226)&& !(Nat.beq f 260)&& !(Nat.beq f 261)&& !(Nat.beq f 262)&& !(Nat.beq f 263)&& !(Nat.beq f 264)&& !(Nat.beq f 265)&& !(Nat.beq f 266)&& !(Nat.beq f 267)&& !(Nat.beq f 268)&& !(Nat.beq f 269)&& !(Nat.beq f 270)&& !(Nat.beq f 271)&& !(Nat.beq f 272)&& !(Nat.beq f 273)&& !(Nat.beq f 274)&& !(Nat.beq f 275)&& !(Nat.beq f 277)&& !(Nat.beq f 292)
abbrev n_l21_BlockCuts:Nat:=9
abbrev n_l21_awake:Nat:=11
abbrev n_block_Load:Nat:=12
abbrev n_block_Unload:Nat:=14
abbrev n_block_Put:Nat:=16
abbrev n_block_Get:Nat:=18
abbrev n_block_May:Nat:=20
abbrev n_l1_Err:Nat:=22
abbrev n_l11_Numbers:Nat:=24
abbrev n_l21_Options:Nat:=25
abbrev n_r1_PutVint:Nat:=26
abbrev n_r1_Word:Nat:=27
abbrev n_r1_Sum:Nat:=28
abbrev n_r20_Plain:Nat:=29
abbrev n_block_isWay:Nat:=30
abbrev n_block_in:Nat:=31
abbrev n_block_loader_plain:Nat:=32
abbrev n_block_loader_codes:Nat:=33
abbrev n_block_loader_states:Nat:=34
abbrev n_block_loader_chances:Nat:=35
abbrev n_block_unloader_plain:Nat:=45
abbrev n_block_unloader_codes:Nat:=46
abbrev n_block_unloader_states:Nat:=47
abbrev n_block_unloader_chances:Nat:=48
abbrev n_vint_Put:Nat:=56
abbrev n_vint_Word:Nat:=57
abbrev n_xxh_Sum:Nat:=58
abbrev n_plain_Put:Nat:=59
abbrev n_block_head:Nat:=60
abbrev n_vint_GetWord:Nat:=61
abbrev n_r1_Round:Nat:=63
abbrev n_r1_GetWord:Nat:=64
abbrev n_r1_rol:Nat:=65
abbrev n_r1_Mix:Nat:=66
abbrev n_hist_Parts:Nat:=67
abbrev n_merge_Lengths:Nat:=68
abbrev n_hist_Of:Nat:=69
abbrev n_huff_Put:Nat:=70
abbrev n_lens_Put:Nat:=71
abbrev n_norm_Of:Nat:=72
abbrev n_states_Put:Nat:=73
abbrev n_norm_Put:Nat:=74
abbrev n_model_Put:Nat:=75
abbrev n_plain_Get:Nat:=98
abbrev n_lens_Get:Nat:=99
abbrev n_huff_Get:Nat:=100
abbrev n_hist_Values:Nat:=101
abbrev n_norm_Get:Nat:=102
abbrev n_states_Get:Nat:=103
abbrev n_model_Get:Nat:=104
abbrev n_xxh_begun:Nat:=116
abbrev n_xxh_four_step:Nat:=117
abbrev n_xxh_four_joined:Nat:=118
abbrev n_xxh_Mix:Nat:=119
abbrev n_xxh_tail:Nat:=120
abbrev n_strings_Builder_WriteString:Nat:=121
abbrev n_strings_Builder_String:Nat:=122
abbrev n_vint_Get:Nat:=123
abbrev n_vint_read:Nat:=124
abbrev n_vint_reader_word:Nat:=125
abbrev n_zig_Split:Nat:=126
abbrev n_merge_may:Nat:=127
abbrev n_hist_Order:Nat:=128
abbrev n_slices_Backward_S_int_int:Nat:=129
abbrev n_merge_maker_from:Nat:=130
abbrev n_canon_Codes:Nat:=131
abbrev n_bits_New:Nat:=132
abbrev n_zig_Join:Nat:=133
abbrev n_bits_Writer_Put:Nat:=134
abbrev n_bits_Writer_Bytes:Nat:=135
abbrev n_canon_May:Nat:=136
abbrev n_lens_noughts:Nat:=137
abbrev n_slices_ContainsFunc_S_int_int:Nat:=138
abbrev n_norm_Of_1:Nat:=139
abbrev n_norm_mayLog:Nat:=140
abbrev n_norm_sum:Nat:=141
abbrev n_norm_taken:Nat:=142
abbrev n_states_made:Nat:=143
abbrev n_states_coder_forth:Nat:=144
abbrev n_slices_Backward_S_api_Part_api_Part:Nat:=145
abbrev n_states_coder_put:Nat:=146
abbrev n_back_Seal:Nat:=147
abbrev n_model_made:Nat:=148
abbrev n_chance_New:Nat:=149
abbrev n_model_model_forth:Nat:=150
abbrev n_chance_Encoder_Bit:Nat:=151
abbrev n_chance_Encoder_Direct:Nat:=152
abbrev n_chance_Encoder_Bytes:Nat:=153
abbrev n_bits_From:Nat:=166
abbrev n_bits_Reader_Get:Nat:=167
abbrev n_huff_reader_code:Nat:=168
abbrev n_huff_reader_only:Nat:=169
abbrev n_huff_reader_read:Nat:=170
abbrev n_bits_Reader_Rest:Nat:=171
abbrev n_norm_Get_1:Nat:=172
abbrev n_norm_May:Nat:=173
abbrev n_states_opened:Nat:=174
abbrev n_states_reader_back:Nat:=175
abbrev n_back_Reader_Left:Nat:=176
abbrev n_chance_From:Nat:=177
abbrev n_chance_Decoder_Bit:Nat:=178
abbrev n_model_model_class:Nat:=179
abbrev n_chance_Decoder_Direct:Nat:=180
abbrev n_chance_Decoder_End:Nat:=181
abbrev n_xxh_Round:Nat:=186
abbrev n_bits_RotateLeft64:Nat:=187
abbrev n_strings_Builder_copyCheck:Nat:=188
abbrev n_vint_reader_vint:Nat:=189
abbrev n_zig_Map:Nat:=190
abbrev n_bits_Len64:Nat:=191
abbrev n_zig_top:Nat:=192
abbrev n_merge_may_1:Nat:=193
abbrev n_heap_Push:Nat:=194
abbrev n_hist_places_Len:Nat:=195
abbrev n_heap_Pop:Nat:=196
abbrev n_slices_Backward_S_int_int_1:Nat:=197
abbrev n_merge_maker_at:Nat:=198
abbrev n_canon_classes_Len:Nat:=199
abbrev n_zig_Back:Nat:=200
abbrev n_bits_Writer_bit:Nat:=201
abbrev n_slices_IndexFunc_S_int_int:Nat:=202
abbrev n_heap_Fix:Nat:=203
abbrev n_spread_Table:Nat:=204
abbrev n_slices_SortFunc_S_int_int:Nat:=205
abbrev n_states_made_1:Nat:=206
abbrev n_slices_BinarySearchFunc_S_int_int_int:Nat:=207
abbrev n_states_coder_forth_1:Nat:=208
abbrev n_slices_Backward_S_api_Part_api_Part_1:Nat:=209
abbrev n_tree_Nodes:Nat:=210
abbrev n_model_told_next:Nat:=211
abbrev n_chance_share:Nat:=212
abbrev n_chance_Encoder_more:Nat:=213
abbrev n_chance_Encoder_grow:Nat:=214
abbrev n_bits_Reader_left:Nat:=218
abbrev n_bits_Reader_bit:Nat:=219
abbrev n_back_From:Nat:=220
abbrev n_states_reader_take:Nat:=221
abbrev n_chance_Decoder_gate:Nat:=222
abbrev n_chance_Decoder_part:Nat:=223
abbrev n_chance_Decoder_grow:Nat:=224
abbrev n_model_model_bit:Nat:=225
abbrev n_bits_Len8:Nat:=227
abbrev n_heap_up:Nat:=228
abbrev n_heap_down:Nat:=229
abbrev n_spread_Spread:Nat:=230
abbrev n_spread_maker_cell:Nat:=231
abbrev n_bits_Len:Nat:=233
abbrev n_tree_isClass:Nat:=234
abbrev n_chance_cut:Nat:=235
abbrev n_back_Reader_Get:Nat:=236
abbrev n_model_model_rows:Nat:=237
abbrev n_squash_Stretch:Nat:=238
abbrev n_mixer_Mix:Nat:=239
abbrev n_mixer_Train:Nat:=240
abbrev n_tree_Move:Nat:=241
abbrev n_squash_Squash:Nat:=251
abbrev n_mixer_weight:Nat:=252
abbrev n_mixer_input:Nat:=253
abbrev n_hist_places_Less:Nat:=279
abbrev n_hist_places_Pop:Nat:=280
abbrev n_hist_places_Push:Nat:=281
abbrev n_hist_places_Swap:Nat:=282
abbrev n_canon_classes_Less:Nat:=283
abbrev n_canon_classes_Pop:Nat:=284
abbrev n_canon_classes_Push:Nat:=285
abbrev n_canon_classes_Swap:Nat:=286
abbrev n_norm_classes_Len:Nat:=287
abbrev n_norm_classes_Less:Nat:=288
abbrev n_norm_classes_Pop:Nat:=289
abbrev n_norm_classes_Push:Nat:=290
abbrev n_norm_classes_Swap:Nat:=291
abbrev t_int64:Nat:=2
abbrev t_int:Nat:=3
abbrev t_uint8:Nat:=5
abbrev t_string:Nat:=9
abbrev t_uint64:Nat:=22
abbrev t_api_Options:Nat:=24
abbrev t_S_int64:Nat:=25
abbrev t_S_uint8:Nat:=51
abbrev t_block_loader:Nat:=69
abbrev t_A4_func_block_loader_string_api_Errno:Nat:=70
abbrev t_S_api_Part:Nat:=71
abbrev t_S_int:Nat:=73
abbrev t_block_unloader:Nat:=85
abbrev t_A4_func_block_unloader_S_int64_bool:Nat:=86
abbrev t_r1_Got:Nat:=106
abbrev t_S_uint64:Nat:=109
abbrev t_api_Part:Nat:=119
abbrev t_api_Code:Nat:=138
abbrev t_S_api_Cell:Nat:=140
abbrev t_api_Cell:Nat:=145
abbrev t_func_int:Nat:=156
abbrev t_A8_uint8:Nat:=179
abbrev t_xxh_four:Nat:=181
abbrev t_strings_Builder:Nat:=188
abbrev t_vint_reader:Nat:=197
abbrev t_P_merge_maker:Nat:=198
abbrev t_merge_maker:Nat:=201
abbrev t_merge_node:Nat:=206
abbrev t_merge_best:Nat:=208
abbrev t_P_states_coder:Nat:=219
abbrev t_states_coder:Nat:=227
abbrev t_M_api_Code_int:Nat:=250
abbrev t_huff_reader:Nat:=252
abbrev t_states_reader:Nat:=264
abbrev t_P_hist_places:Nat:=281
abbrev t_hist_places:Nat:=283
abbrev t_hist_place:Nat:=286
abbrev t_P_canon_classes:Nat:=291
abbrev t_canon_classes:Nat:=293
abbrev t_canon_class:Nat:=295
abbrev t_bits_Writer:Nat:=298
abbrev t_P_norm_classes:Nat:=300
abbrev t_norm_classes:Nat:=302
abbrev t_norm_class:Nat:=304
abbrev t_model_model:Nat:=317
abbrev t_model_row:Nat:=320
abbrev t_chance_Encoder:Nat:=322
abbrev t_model_told:Nat:=325
abbrev t_bits_Reader:Nat:=328
abbrev t_back_Reader:Nat:=333
abbrev t_chance_Decoder:Nat:=335
abbrev t_spread_maker:Nat:=348
abbrev t_A3_P_model_row:Nat:=354
theorem a_int:∀w,(Go.isAgg t_int).run prog w= .ok false w:=isAgg3
theorem u_int:prog.underlying t_int=some (.int .i64):=underlying3
theorem u_uint8:prog.underlying t_uint8=some (.int .u8):=underlying5
theorem u_string:prog.underlying t_string=some (.string):=underlying9
theorem a_uint64:∀w,(Go.isAgg t_uint64).run prog w= .ok false w:=isAgg22
theorem u_uint64:prog.underlying t_uint64=some (.int .u64):=underlying22
theorem u_S_int64:prog.underlying t_S_int64=some (.slice t_int64):=underlying25
theorem u_S_uint8:prog.underlying t_S_uint8=some (.slice t_uint8):=underlying51
theorem u_S_api_Part:prog.underlying t_S_api_Part=some (.slice t_api_Part):=underlying71
theorem u_S_int:prog.underlying t_S_int=some (.slice t_int):=underlying73
theorem u_S_uint64:prog.underlying t_S_uint64=some (.slice t_uint64):=underlying109
theorem u_S_api_Cell:prog.underlying t_S_api_Cell=some (.slice t_api_Cell):=underlying140
theorem u_M_api_Code_int:prog.underlying t_M_api_Code_int=some (.map t_api_Code t_int):=underlying250
theorem u_P_hist_places:prog.underlying t_P_hist_places=some (.pointer t_hist_places):=underlying281
theorem a_hist_places:∀w,(Go.isAgg t_hist_places).run prog w= .ok false w:=isAgg283
theorem u_hist_places:prog.underlying t_hist_places=some (.slice t_hist_place):=underlying283
theorem u_P_canon_classes:prog.underlying t_P_canon_classes=some (.pointer t_canon_classes):=underlying291
theorem a_canon_classes:∀w,(Go.isAgg t_canon_classes).run prog w= .ok false w:=isAgg293
theorem u_canon_classes:prog.underlying t_canon_classes=some (.slice t_canon_class):=underlying293
theorem u_P_norm_classes:prog.underlying t_P_norm_classes=some (.pointer t_norm_classes):=underlying300
theorem a_norm_classes:∀w,(Go.isAgg t_norm_classes).run prog w= .ok false w:=isAgg302
theorem u_norm_classes:prog.underlying t_norm_classes=some (.slice t_norm_class):=underlying302
theorem i_int64:∃i,prog.info? t_int64=some i∧i.zero=some (.int .i64 0)∧i.size=1∧i.bytes=8:=⟨(prog.info? t_int64).get (by kernel_rfl),by kernel_rfl,by kernel_rfl,by kernel_rfl,by kernel_rfl⟩
theorem i_int:∃i,prog.info? t_int=some i∧i.zero=some (.int .i64 0)∧i.size=1∧i.bytes=8:=⟨(prog.info? t_int).get (by kernel_rfl),by kernel_rfl,by kernel_rfl,by kernel_rfl,by kernel_rfl⟩
theorem i_uint8:∃i,prog.info? t_uint8=some i∧i.zero=some (.int .u8 0)∧i.size=1∧i.bytes=1:=⟨(prog.info? t_uint8).get (by kernel_rfl),by kernel_rfl,by kernel_rfl,by kernel_rfl,by kernel_rfl⟩
theorem i_uint64:∃i,prog.info? t_uint64=some i∧i.zero=some (.int .u64 0)∧i.size=1∧i.bytes=8:=⟨(prog.info? t_uint64).get (by kernel_rfl),by kernel_rfl,by kernel_rfl,by kernel_rfl,by kernel_rfl⟩
theorem i_api_Part:∃i,prog.info? t_api_Part=some i∧i.zero=some (.agg #[.int .i64 0,.int .u64 0])∧i.size=2∧i.bytes=16:=⟨(prog.info? t_api_Part).get (by kernel_rfl),by kernel_rfl,by kernel_rfl,by kernel_rfl,by kernel_rfl⟩
theorem i_api_Cell:∃i,prog.info? t_api_Cell=some i∧i.zero=some (.agg #[.int .i64 0,.int .i64 0,.int .i64 0])∧i.size=3∧i.bytes=24:=⟨(prog.info? t_api_Cell).get (by kernel_rfl),by kernel_rfl,by kernel_rfl,by kernel_rfl,by kernel_rfl⟩
theorem i_hist_place:∃i,prog.info? t_hist_place=some i∧i.zero=some (.agg #[.int .i64 0,.int .i64 0])∧i.size=2∧i.bytes=16:=⟨(prog.info? t_hist_place).get (by kernel_rfl),by kernel_rfl,by kernel_rfl,by kernel_rfl,by kernel_rfl⟩
theorem i_canon_class:∃i,prog.info? t_canon_class=some i∧i.zero=some (.agg #[.int .i64 0,.int .i64 0])∧i.size=2∧i.bytes=16:=⟨(prog.info? t_canon_class).get (by kernel_rfl),by kernel_rfl,by kernel_rfl,by kernel_rfl,by kernel_rfl⟩
theorem i_norm_class:∃i,prog.info? t_norm_class=some i∧i.zero=some (.agg #[.int .i64 0,.int .i64 0])∧i.size=2∧i.bytes=16:=⟨(prog.info? t_norm_class).get (by kernel_rfl),by kernel_rfl,by kernel_rfl,by kernel_rfl,by kernel_rfl⟩
theorem tab_ok:(List.range 386).all (fun t=>tiOk prog t (TAB t))=true:=by decide+kernel
def fnOk (P:Program) (fok:Nat→Bool) (f:Nat):Bool:= !(fok f)||(match P.funcs[f]? with|some g=>!(g.name== "runtime.NumGoroutine")&& !g.body.isNone|none=>false)
theorem fn_ok:(List.range 293).all (fun f=>fnOk prog fok f)=true:=by decide+kernel
theorem tab:Tab prog TAB fok where
 ok t:=by
  by_cases h:t<386
  · exact List.all_eq_true.1 tab_ok t (List.mem_range.2 h)
  · have:TAB t=noTI:=by
     unfold TAB
     have e:Nat.blt t 386=false:=by
      cases hb:Nat.blt t 386 with
      |false=>rfl
      |true=>rw [Nat.blt_eq]at hb;exact absurd hb h
     rw [e];rfl
    rw [this];rfl
 fn f hf:=by
  have hlt:f<293:=by
   unfold fok at hf
   cases hb:Nat.blt f 293 with
   |true=>rwa [Nat.blt_eq]at hb
   |false=>rw [hb]at hf;simp at hf
  have h:=List.all_eq_true.1 fn_ok f (List.mem_range.2 hlt)
  unfold fnOk at h
  rw [hf]at h
  split at h
  · rename_i g hg
    simp only [Bool.not_true,Bool.false_or,Bool.and_eq_true,Bool.not_eq_true']at h
    exact⟨g,hg,h.1,h.2⟩
  · cases h
 mixed:=rfl
end Go.Proofs.Tryz
namespace Go.Proofs.Tryz
open Go Go.Proofs.VC
theorem vcS (A : Ann) {k : Nat} {fn : Func} (hf : prog.funcs[k]? = some fn) {args : List Value} {w : World} {R : Ending → World → Prop} {X : Prop} (hb : fn.body = some (fn.body.getD .skip)) (E : X = vcF prog TAB fok A fn.ntmps (fn.body.getD .skip) fn.results.toList args w fun v w' => R (.returned v) w') (h : X) : Calls prog k args.toArray w R :=
  (calls_of_vc tab hf hb (Eq.mp E h)).mono fun _ _ ⟨_, he, hr⟩ => he ▸ hr
end Go.Proofs.Tryz
namespace Go.Proofs.Tryz
open Go Go.Proofs.VC
set_option maxRecDepth 100000
def F_merge_Lengths (x0:Option Addr) (x0n:Nat) (x0c:Nat) (x1:Int) (w:World) (R:Value→World→Prop):Prop:=
 ∀w1 b2,w1=w.alloc (.cells #[.slice x0 x0n x0c] t_S_int)→b2=w.heap.size→∃x16:Option Addr,∃x16n:Nat,∃x16c:Nat,w1.cell? (A0 b2)=some (.slice
 x16 x16n x16c)∧Calls prog n_merge_may #[.slice x16 x16n x16c,.int .i64 x1] w1 (fun e w2=>∃x18:Bool,e= .returned (.bool x18)∧bif !x18 then(R
 (.tuple #[.slice none 0 0,.int .i64 (1:Int)]) w2)else(0≤(65:Int)∧(65:Int)≤(65:Int)∧((8:Nat):Int)*(65:Int)≤((maxMake:Nat):Int)
 ∧∀w3 b20,w3=w2.alloc (.cells (mkCells TAB t_int (Int.toNat (65:Int))) t_int)→b20=w2.heap.size→∃x21:Option Addr,∃x21n:Nat,∃x21c:Nat,
 w3.cell? (A0 b2)=some (.slice x21 x21n x21c)∧Calls prog n_hist_Order #[.slice x21 x21n x21c] w3 (fun e_2 w4=>∃x22:Option Addr,∃x22n:Nat,∃x22c:
 Nat,e_2= .returned (.slice x22 x22n x22c)∧∀J7:World→Prop,(∀w5,(bif decide (((x22n:Nat):Int)<(2:Int))then(R (.tuple #[.slice (some (A0
 b20)) (Int.toNat (65:Int)) (Int.toNat (65:Int)),.int .i64 (0:Int)]) w5)else(∀J11:Addr→World→Prop,(∀x9:Addr,∀w6,(Calls prog
 n_slices_Backward_S_int_int #[.slice x22 x22n x22c] w6 (fun e_3 w7=>∃x51:Nat,∃x51f:Array Value,∃x51k:Array Value,e_3= .returned (.func (.func
 x51) x51f x51k)∧cond (x51f.isEmpty&&fok x51) (∃N:Nat,∃vals:Nat→Int×Int,∃Iv:Nat→World→Prop,∃Ix:World→Prop,∃Kp:World→World→
 Prop,RangeOk prog x51 x51k 2 (fun k=> [.int .i64 ((vals k).1),.int .i64 ((vals k).2)]) N Iv Ix Kp w7∧(∀k,k<N→∀w8,Iv k w8→KeepsFrom w7.heap.size
 w8 w8∧Kp w8 w8∧∃Im:World→Prop,OwnF w7.heap.size Im∧Im w8∧∀w9,Im w9→∀w10,w10=w9.drew→∃x54:Option Addr,w10.cell? x9=some (.pointer
 x54)∧OSome x54 fun p55=>∃x57:Option Addr,∃x57n:Nat,∃x57c:Nat,w10.cell? p55=some (.slice x57 x57n x57c)∧∃x59:Option Addr,w10.cell? x9=
 some (.pointer x59)∧OSome x59 fun p60=>∃x62:Option Addr,∃x62n:Nat,∃x62c:Nat,w10.cell? p60=some (.slice x62 x62n x62c)∧0≤(W64 (((vals
 k).1)+(1:Int)))∧(W64 (((vals k).1)+(1:Int)))<((x62n:Nat):Int)∧OSome x62 fun p65=>∃x66:Int,w10.cell? (p65.add (Int.toNat (W64 (((vals
 k).1)+(1:Int)))*1))=some (.int .i64 x66)∧∃x67:Option Addr,∃x67n:Nat,∃x67c:Nat,w10.cell? (A0 b2)=some (.slice x67 x67n x67c)∧0≤
 ((vals k).2)∧((vals k).2)<((x67n:Nat):Int)∧OSome x67 fun p69=>∃x70:Int,w10.cell? (p69.add (Int.toNat ((vals k).2)*1))=some (.int .i64 x70)
 ∧0≤((vals k).1)∧((vals k).1)<((x57n:Nat):Int)∧OSome x57 fun p72=>Sto w10 (p72.add (Int.toNat ((vals k).1)*1)) (.int .i64 (W64 (x66+x70)))
 fun w11=>(True)∧KeepsFrom w7.heap.size w9 w11∧Kp w9 w11∧Iv (k+1) w11)∧(∀D w12,w7.heap.size≤D→Iv N w12→w12.heap[D]? =some (.deferred (some
 []))→∀w13 b12,w13=w12.alloc (.cells #[.int .i64 0,.int .i64 0,.int .i64 0] t_merge_node)→b12=w12.heap.size→Sto w13 (A0 b12) (.int .i64 (1:Int))
 fun w14=>Sto w14 ((A0 b12).add 1) (.int .i64 (0:Int)) fun w15=>Sto w15 ((A0 b12).add 2) (.int .i64 (2:Int)) fun w16=>∃I2:Nat→Addr→World→
 Prop,(∃m_2,I2 m_2 (A0 b12) w16)∧∀m,∀x12:Addr,∀w17,I2 m x12 w17→(∃x75:Int,w17.cell? (x12.add 1)=some (.int .i64 x75)∧bif decide (x75<
 ((x22n:Nat):Int))then(∃x79:Option Addr,w17.cell? x9=some (.pointer x79)∧∃x80a:Int,∃x80b:Int,∃x80c:Int,LdL w17 x12 0 [.int .i64 x80a,
 .int .i64 x80b,.int .i64 x80c]∧Calls prog n_merge_maker_from #[.pointer x79,.agg #[.int .i64 x80a,.int .i64 x80b,.int .i64 x80c]] w17 (fun e_4 w18=>∃
 x81a:Int,∃x81b:Int,∃x81c:Bool,∃x81d:Bool,e_4= .returned (.agg #[.int .i64 x81a,.int .i64 x81b,.bool x81c,.bool x81d])∧∀w19 b13,w19=
 w18.alloc (.cells #[.int .i64 0,.int .i64 0,.bool false,.bool false] t_merge_best)→b13=w18.heap.size→Sto w19 (A0 b13) (.int .i64 x81a) fun w20=>Sto
 w20 ((A0 b13).add 1) (.int .i64 x81b) fun w21=>Sto w21 ((A0 b13).add 2) (.bool x81c) fun w22=>Sto w22 ((A0 b13).add 3) (.bool x81d) fun w23=>∃x84:Int,
 w23.cell? (x12.add 1)=some (.int .i64 x84)∧∃x86:Int,w23.cell? (x12.add 1)=some (.int .i64 x86)∧∃x88:Int,w23.cell? ((A0 b13).add 1)=some (.int
 .i64 x88)∧0≤(W64 (x86+x88))∧(W64 (x86+x88))≤((x22c:Nat):Int)∧0≤x84∧x84≤((Int.toNat (W64 (x86+x88)):Nat):Int)∧∃I4:Nat→Int→
 World→Prop,(∃m_5,I4 m_5 (0:Int) w23)∧∀m_4,∀x92:Int,∀w24,I4 m_4 x92 w24→(bif decide (x92<(((Int.toNat (W64 (x86+x88)))-(Int.toNat x84)
 :Nat):Int))then(0≤x92∧x92<(((Int.toNat (W64 (x86+x88)))-(Int.toNat x84):Nat):Int)∧OSome (sA x22 1 (Int.toNat x84) x22c) fun p94=>∃x95:
 Int,w24.cell? (p94.add (Int.toNat x92*1))=some (.int .i64 x95)∧∃x99:Int,w24.cell? x12=some (.int .i64 x99)∧0≤x95∧x95<((Int.toNat (65:
 Int):Nat):Int)∧OSome (some (A0 b20)) fun p100=>Sto w24 (p100.add (Int.toNat x95*1)) (.int .i64 x99) fun w25=>∃m_6,m_6<m_4∧I4 m_6 (W64 (x92+
 (1:Int))) w25)else(∃x103:Int,w24.cell? x12=some (.int .i64 x103)∧∃x106:Int,w24.cell? (x12.add 1)=some (.int .i64 x106)∧∃x108:Int,
 w24.cell? ((A0 b13).add 1)=some (.int .i64 x108)∧∃x111:Int,w24.cell? (x12.add 2)=some (.int .i64 x111)∧∃x113:Int,w24.cell? ((A0 b13).add 1)=
 some (.int .i64 x113)∧Sto w24 x12 (.int .i64 (W64 (x103+(1:Int)))) fun w26=>Sto w26 (x12.add 1) (.int .i64 (W64 (x106+x108))) fun w27=>Sto w27
 (x12.add 2) (.int .i64 (W64 ((2:Int)*(W64 (x111-x113))))) fun w28=>∃x117a:Int,∃x117b:Int,∃x117c:Int,LdL w28 x12 0 [.int .i64 x117a,.int
 .i64 x117b,.int .i64 x117c]∧∀w29 b12_2,w29=w28.alloc (.cells #[.int .i64 0,.int .i64 0,.int .i64 0] t_merge_node)→b12_2=w28.heap.size→Sto w29
 (A0 b12_2) (.int .i64 x117a) fun w30=>Sto w30 ((A0 b12_2).add 1) (.int .i64 x117b) fun w31=>Sto w31 ((A0 b12_2).add 2) (.int .i64 x117c) fun w32=>∃m_3,
 m_3<m∧I2 m_3 (A0 b12_2) w32))))else(w17.heap[D]? =some (.deferred (some []))∧R (.tuple #[.slice (some (A0 b20)) (Int.toNat (65:Int)) (Int.toNat (65
 :Int)),.int .i64 (0:Int)]) (w17.putObj D (.deferred none)))))∧(∀D_2 w33,w7.heap.size≤D_2→Ix w33→w33.heap[D_2]? =some (.deferred (some []))→
 w33.heap[D_2]? =some (.deferred (some []))∧R (.tuple #[.slice none 0 0,.int .i64 (0:Int)]) (w33.putObj D_2 (.deferred none)))) False))→J11 x9 w6)→∀
 w34,w34=w5.drew→(0≤(W64 (((x22n:Nat):Int)+(1:Int)))∧(W64 (((x22n:Nat):Int)+(1:Int)))≤(W64 (((x22n:Nat):Int)+(1:Int)))∧((8
 :Nat):Int)*(W64 (((x22n:Nat):Int)+(1:Int)))≤((maxMake:Nat):Int)∧∀w35 b39,w35=w34.alloc (.cells (mkCells TAB t_int (Int.toNat (W64
 (((x22n:Nat):Int)+(1:Int))))) t_int)→b39=w34.heap.size→(True)∧(0≤(W64 ((W64 ((W64 (x1+(2:Int)))*(W64 (((x22n:Nat):Int)+(1:
 Int)))))*(W64 (((x22n:Nat):Int)+(1:Int)))))∧(W64 ((W64 ((W64 (x1+(2:Int)))*(W64 (((x22n:Nat):Int)+(1:Int)))))*(W64 (((x22n:Nat):
 Int)+(1:Int)))))≤(W64 ((W64 ((W64 (x1+(2:Int)))*(W64 (((x22n:Nat):Int)+(1:Int)))))*(W64 (((x22n:Nat):Int)+(1:Int)))))∧((24:
 Nat):Int)*(W64 ((W64 ((W64 (x1+(2:Int)))*(W64 (((x22n:Nat):Int)+(1:Int)))))*(W64 (((x22n:Nat):Int)+(1:Int)))))≤((maxMake:Nat):
 Int)∧∀w36 b47,w36=w35.alloc (.cells (mkCells TAB t_merge_best (Int.toNat (W64 ((W64 ((W64 (x1+(2:Int)))*(W64 (((x22n:Nat):Int)+(1:Int)))))
 *(W64 (((x22n:Nat):Int)+(1:Int))))))) t_merge_best)→b47=w35.heap.size→(True)∧(∀w37 b49,w37=w36.alloc (.cells #[.slice (some (A0 b39))
 (Int.toNat (W64 (((x22n:Nat):Int)+(1:Int)))) (Int.toNat (W64 (((x22n:Nat):Int)+(1:Int)))),.int .i64 x1,.slice (some (A0 b47)) (Int.toNat (W64
 ((W64 ((W64 (x1+(2:Int)))*(W64 (((x22n:Nat):Int)+(1:Int)))))*(W64 (((x22n:Nat):Int)+(1:Int)))))) (Int.toNat (W64 ((W64 ((W64 (x1+(2:
 Int)))*(W64 (((x22n:Nat):Int)+(1:Int)))))*(W64 (((x22n:Nat):Int)+(1:Int))))))] t_merge_maker)→b49=w36.heap.size→(True)∧∀w38 b9,
 w38=w37.alloc (.cells #[.pointer none] t_P_merge_maker)→b9=w37.heap.size→(True)∧Sto w38 (A0 b9) (.pointer (some (A0 b49))) fun w39=>(True)∧J11
 (A0 b9) w39)∧(∀w40 b9_2,w40=w36.alloc (.cells #[.pointer none] t_P_merge_maker)→b9_2=w36.heap.size→(True)∧∀w41 b49_2,w41=w40.alloc (.cells
 #[.slice (some (A0 b39)) (Int.toNat (W64 (((x22n:Nat):Int)+(1:Int)))) (Int.toNat (W64 (((x22n:Nat):Int)+(1:Int)))),.int .i64 x1,.slice (some
 (A0 b47)) (Int.toNat (W64 ((W64 ((W64 (x1+(2:Int)))*(W64 (((x22n:Nat):Int)+(1:Int)))))*(W64 (((x22n:Nat):Int)+(1:Int)))))) (Int.toNat
 (W64 ((W64 ((W64 (x1+(2:Int)))*(W64 (((x22n:Nat):Int)+(1:Int)))))*(W64 (((x22n:Nat):Int)+(1:Int))))))] t_merge_maker)→b49_2=
 w40.heap.size→(True)∧Sto w41 (A0 b9_2) (.pointer (some (A0 b49_2))) fun w42=>(True)∧J11 (A0 b9_2) w42))∧(∀w43 b9_3,w43=w35.alloc (.cells
 #[.pointer none] t_P_merge_maker)→b9_3=w35.heap.size→(True)∧0≤(W64 ((W64 ((W64 (x1+(2:Int)))*(W64 (((x22n:Nat):Int)+(1:Int)))))*(W64
 (((x22n:Nat):Int)+(1:Int)))))∧(W64 ((W64 ((W64 (x1+(2:Int)))*(W64 (((x22n:Nat):Int)+(1:Int)))))*(W64 (((x22n:Nat):Int)+(1:
 Int)))))≤(W64 ((W64 ((W64 (x1+(2:Int)))*(W64 (((x22n:Nat):Int)+(1:Int)))))*(W64 (((x22n:Nat):Int)+(1:Int)))))∧((24:Nat):Int)*
 (W64 ((W64 ((W64 (x1+(2:Int)))*(W64 (((x22n:Nat):Int)+(1:Int)))))*(W64 (((x22n:Nat):Int)+(1:Int)))))≤((maxMake:Nat):Int)∧∀w44
 b47_2,w44=w43.alloc (.cells (mkCells TAB t_merge_best (Int.toNat (W64 ((W64 ((W64 (x1+(2:Int)))*(W64 (((x22n:Nat):Int)+(1:Int)))))*(W64
 (((x22n:Nat):Int)+(1:Int))))))) t_merge_best)→b47_2=w43.heap.size→(True)∧∀w45 b49_3,w45=w44.alloc (.cells #[.slice (some (A0 b39))
 (Int.toNat (W64 (((x22n:Nat):Int)+(1:Int)))) (Int.toNat (W64 (((x22n:Nat):Int)+(1:Int)))),.int .i64 x1,.slice (some (A0 b47_2)) (Int.toNat
 (W64 ((W64 ((W64 (x1+(2:Int)))*(W64 (((x22n:Nat):Int)+(1:Int)))))*(W64 (((x22n:Nat):Int)+(1:Int)))))) (Int.toNat (W64 ((W64 ((W64 (x1+
 (2:Int)))*(W64 (((x22n:Nat):Int)+(1:Int)))))*(W64 (((x22n:Nat):Int)+(1:Int))))))] t_merge_maker)→b49_3=w44.heap.size→(True)∧Sto
 w45 (A0 b9_3) (.pointer (some (A0 b49_3))) fun w46=>(True)∧J11 (A0 b9_3) w46))∧(0≤(W64 ((W64 ((W64 (x1+(2:Int)))*(W64 (((x22n:Nat):Int)+(1
 :Int)))))*(W64 (((x22n:Nat):Int)+(1:Int)))))∧(W64 ((W64 ((W64 (x1+(2:Int)))*(W64 (((x22n:Nat):Int)+(1:Int)))))*(W64 (((x22n:Nat)
 :Int)+(1:Int)))))≤(W64 ((W64 ((W64 (x1+(2:Int)))*(W64 (((x22n:Nat):Int)+(1:Int)))))*(W64 (((x22n:Nat):Int)+(1:Int)))))∧((24:
 Nat):Int)*(W64 ((W64 ((W64 (x1+(2:Int)))*(W64 (((x22n:Nat):Int)+(1:Int)))))*(W64 (((x22n:Nat):Int)+(1:Int)))))≤((maxMake:Nat):
 Int)∧∀w47 b47_3,w47=w34.alloc (.cells (mkCells TAB t_merge_best (Int.toNat (W64 ((W64 ((W64 (x1+(2:Int)))*(W64 (((x22n:Nat):Int)+(1:
 Int)))))*(W64 (((x22n:Nat):Int)+(1:Int))))))) t_merge_best)→b47_3=w34.heap.size→(True)∧(0≤(W64 (((x22n:Nat):Int)+(1:Int)))∧(W64
 (((x22n:Nat):Int)+(1:Int)))≤(W64 (((x22n:Nat):Int)+(1:Int)))∧((8:Nat):Int)*(W64 (((x22n:Nat):Int)+(1:Int)))≤((maxMake:
 Nat):Int)∧∀w48 b39_2,w48=w47.alloc (.cells (mkCells TAB t_int (Int.toNat (W64 (((x22n:Nat):Int)+(1:Int))))) t_int)→b39_2=w47.heap.size→
 (True)∧(∀w49 b49_4,w49=w48.alloc (.cells #[.slice (some (A0 b39_2)) (Int.toNat (W64 (((x22n:Nat):Int)+(1:Int)))) (Int.toNat (W64 (((x22n:Nat):
 Int)+(1:Int)))),.int .i64 x1,.slice (some (A0 b47_3)) (Int.toNat (W64 ((W64 ((W64 (x1+(2:Int)))*(W64 (((x22n:Nat):Int)+(1:Int)))))*(W64
 (((x22n:Nat):Int)+(1:Int)))))) (Int.toNat (W64 ((W64 ((W64 (x1+(2:Int)))*(W64 (((x22n:Nat):Int)+(1:Int)))))*(W64 (((x22n:Nat):Int)
 +(1:Int))))))] t_merge_maker)→b49_4=w48.heap.size→(True)∧∀w50 b9_4,w50=w49.alloc (.cells #[.pointer none] t_P_merge_maker)→b9_4=
 w49.heap.size→(True)∧Sto w50 (A0 b9_4) (.pointer (some (A0 b49_4))) fun w51=>(True)∧J11 (A0 b9_4) w51)∧(∀w52 b9_5,w52=w48.alloc (.cells
 #[.pointer none] t_P_merge_maker)→b9_5=w48.heap.size→(True)∧∀w53 b49_5,w53=w52.alloc (.cells #[.slice (some (A0 b39_2)) (Int.toNat (W64 (((x22n:
 Nat):Int)+(1:Int)))) (Int.toNat (W64 (((x22n:Nat):Int)+(1:Int)))),.int .i64 x1,.slice (some (A0 b47_3)) (Int.toNat (W64 ((W64 ((W64 (x1+(2:
 Int)))*(W64 (((x22n:Nat):Int)+(1:Int)))))*(W64 (((x22n:Nat):Int)+(1:Int)))))) (Int.toNat (W64 ((W64 ((W64 (x1+(2:Int)))*(W64 (((x22n
 :Nat):Int)+(1:Int)))))*(W64 (((x22n:Nat):Int)+(1:Int))))))] t_merge_maker)→b49_5=w52.heap.size→(True)∧Sto w53 (A0 b9_5) (.pointer
 (some (A0 b49_5))) fun w54=>(True)∧J11 (A0 b9_5) w54))∧(∀w55 b9_6,w55=w47.alloc (.cells #[.pointer none] t_P_merge_maker)→b9_6=w47.heap.size→
 (True)∧0≤(W64 (((x22n:Nat):Int)+(1:Int)))∧(W64 (((x22n:Nat):Int)+(1:Int)))≤(W64 (((x22n:Nat):Int)+(1:Int)))∧((8:Nat):Int)
 *(W64 (((x22n:Nat):Int)+(1:Int)))≤((maxMake:Nat):Int)∧∀w56 b39_3,w56=w55.alloc (.cells (mkCells TAB t_int (Int.toNat (W64 (((x22n:Nat):
 Int)+(1:Int))))) t_int)→b39_3=w55.heap.size→(True)∧∀w57 b49_6,w57=w56.alloc (.cells #[.slice (some (A0 b39_3)) (Int.toNat (W64 (((x22n:Nat):
 Int)+(1:Int)))) (Int.toNat (W64 (((x22n:Nat):Int)+(1:Int)))),.int .i64 x1,.slice (some (A0 b47_3)) (Int.toNat (W64 ((W64 ((W64 (x1+(2:Int)))
 *(W64 (((x22n:Nat):Int)+(1:Int)))))*(W64 (((x22n:Nat):Int)+(1:Int)))))) (Int.toNat (W64 ((W64 ((W64 (x1+(2:Int)))*(W64 (((x22n:Nat)
 :Int)+(1:Int)))))*(W64 (((x22n:Nat):Int)+(1:Int))))))] t_merge_maker)→b49_6=w56.heap.size→(True)∧Sto w57 (A0 b9_6) (.pointer (some (A0
 b49_6))) fun w58=>(True)∧J11 (A0 b9_6) w58))∧(∀w59 b9_7,w59=w34.alloc (.cells #[.pointer none] t_P_merge_maker)→b9_7=w34.heap.size→(True)∧(0
 ≤(W64 (((x22n:Nat):Int)+(1:Int)))∧(W64 (((x22n:Nat):Int)+(1:Int)))≤(W64 (((x22n:Nat):Int)+(1:Int)))∧((8:Nat):Int)*(W64
 (((x22n:Nat):Int)+(1:Int)))≤((maxMake:Nat):Int)∧∀w60 b39_4,w60=w59.alloc (.cells (mkCells TAB t_int (Int.toNat (W64 (((x22n:Nat):Int)+
 (1:Int))))) t_int)→b39_4=w59.heap.size→(True)∧0≤(W64 ((W64 ((W64 (x1+(2:Int)))*(W64 (((x22n:Nat):Int)+(1:Int)))))*(W64 (((x22n:
 Nat):Int)+(1:Int)))))∧(W64 ((W64 ((W64 (x1+(2:Int)))*(W64 (((x22n:Nat):Int)+(1:Int)))))*(W64 (((x22n:Nat):Int)+(1:Int)))))≤
 (W64 ((W64 ((W64 (x1+(2:Int)))*(W64 (((x22n:Nat):Int)+(1:Int)))))*(W64 (((x22n:Nat):Int)+(1:Int)))))∧((24:Nat):Int)*(W64 ((W64
 ((W64 (x1+(2:Int)))*(W64 (((x22n:Nat):Int)+(1:Int)))))*(W64 (((x22n:Nat):Int)+(1:Int)))))≤((maxMake:Nat):Int)∧∀w61 b47_4,w61
 =w60.alloc (.cells (mkCells TAB t_merge_best (Int.toNat (W64 ((W64 ((W64 (x1+(2:Int)))*(W64 (((x22n:Nat):Int)+(1:Int)))))*(W64 (((x22n:Nat)
 :Int)+(1:Int))))))) t_merge_best)→b47_4=w60.heap.size→(True)∧∀w62 b49_7,w62=w61.alloc (.cells #[.slice (some (A0 b39_4)) (Int.toNat (W64
 (((x22n:Nat):Int)+(1:Int)))) (Int.toNat (W64 (((x22n:Nat):Int)+(1:Int)))),.int .i64 x1,.slice (some (A0 b47_4)) (Int.toNat (W64 ((W64 ((W64
 (x1+(2:Int)))*(W64 (((x22n:Nat):Int)+(1:Int)))))*(W64 (((x22n:Nat):Int)+(1:Int)))))) (Int.toNat (W64 ((W64 ((W64 (x1+(2:Int)))*
 (W64 (((x22n:Nat):Int)+(1:Int)))))*(W64 (((x22n:Nat):Int)+(1:Int))))))] t_merge_maker)→b49_7=w61.heap.size→(True)∧Sto w62 (A0 b9_7)
 (.pointer (some (A0 b49_7))) fun w63=>(True)∧J11 (A0 b9_7) w63)∧(0≤(W64 ((W64 ((W64 (x1+(2:Int)))*(W64 (((x22n:Nat):Int)+(1:Int)))))*
 (W64 (((x22n:Nat):Int)+(1:Int)))))∧(W64 ((W64 ((W64 (x1+(2:Int)))*(W64 (((x22n:Nat):Int)+(1:Int)))))*(W64 (((x22n:Nat):Int)+(1
 :Int)))))≤(W64 ((W64 ((W64 (x1+(2:Int)))*(W64 (((x22n:Nat):Int)+(1:Int)))))*(W64 (((x22n:Nat):Int)+(1:Int)))))∧((24:Nat):Int)
 *(W64 ((W64 ((W64 (x1+(2:Int)))*(W64 (((x22n:Nat):Int)+(1:Int)))))*(W64 (((x22n:Nat):Int)+(1:Int)))))≤((maxMake:Nat):Int)∧∀
 w64 b47_5,w64=w59.alloc (.cells (mkCells TAB t_merge_best (Int.toNat (W64 ((W64 ((W64 (x1+(2:Int)))*(W64 (((x22n:Nat):Int)+(1:Int)))))*(W64
 (((x22n:Nat):Int)+(1:Int))))))) t_merge_best)→b47_5=w59.heap.size→(True)∧0≤(W64 (((x22n:Nat):Int)+(1:Int)))∧(W64 (((x22n:Nat):
 Int)+(1:Int)))≤(W64 (((x22n:Nat):Int)+(1:Int)))∧((8:Nat):Int)*(W64 (((x22n:Nat):Int)+(1:Int)))≤((maxMake:Nat):Int)∧∀w65
 b39_5,w65=w64.alloc (.cells (mkCells TAB t_int (Int.toNat (W64 (((x22n:Nat):Int)+(1:Int))))) t_int)→b39_5=w64.heap.size→(True)∧∀w66 b49_8,
 w66=w65.alloc (.cells #[.slice (some (A0 b39_5)) (Int.toNat (W64 (((x22n:Nat):Int)+(1:Int)))) (Int.toNat (W64 (((x22n:Nat):Int)+(1:Int)))),
 .int .i64 x1,.slice (some (A0 b47_5)) (Int.toNat (W64 ((W64 ((W64 (x1+(2:Int)))*(W64 (((x22n:Nat):Int)+(1:Int)))))*(W64 (((x22n:Nat):Int)
 +(1:Int)))))) (Int.toNat (W64 ((W64 ((W64 (x1+(2:Int)))*(W64 (((x22n:Nat):Int)+(1:Int)))))*(W64 (((x22n:Nat):Int)+(1:Int))))))]
 t_merge_maker)→b49_8=w65.heap.size→(True)∧Sto w66 (A0 b9_7) (.pointer (some (A0 b49_8))) fun w67=>(True)∧J11 (A0 b9_7) w67))))→J7 w5)→bif
 ((x22n:Nat):Int)==(1:Int)then(0≤(0:Int)∧(0:Int)<((x22n:Nat):Int)∧OSome x22 fun p28=>∃x29:Int,w4.cell? (p28.add (Int.toNat (0:
 Int)*1))=some (.int .i64 x29)∧0≤x29∧x29<((Int.toNat (65:Int):Nat):Int)∧OSome (some (A0 b20)) fun p30=>Sto w4 (p30.add (Int.toNat x29*
 1)) (.int .i64 (1:Int)) fun w68=>J7 w68)else(J7 w4))))
def A_merge_Lengths:Ann:= {loop:=fun k=>cond (Nat.beq k 4) (some (5065650640755776084887216357376,[92],[.int .i64])) (cond (Nat.beq k 2) (some (332306998946210078760020286489276416,[12],[.ad])) (none)),join:=fun k=>cond (Nat.beq k 11) (some (1125625028936192,[9],[.ad])) (cond (Nat.beq k 7) (some (2139095040,[],[])) (none)),nf:=fun k=> []}
def enc_merge_Lengths:Int×Int→List Value:=fun x=> [.int .i64 x.1,.int .i64 x.2]
theorem E_merge_Lengths (x0:Option Addr) (x0n:Nat) (x0c:Nat) (x1:Int) (w:World) (R:Value→World→Prop):F_merge_Lengths x0 x0n x0c x1 w R=vcFT prog TAB fok A_merge_Lengths enc_merge_Lengths f68.ntmps (f68.body.getD .skip) f68.results.toList [.slice x0 x0n x0c,.int .i64 x1] w R:=by kernel_rfl
theorem S_merge_Lengths {x0:Option Addr} {x0n:Nat} {x0c:Nat} {x1:Int} {w:World} {R:Ending→World→Prop} (h:F_merge_Lengths x0 x0n x0c x1 w fun v w'=>R (.returned v) w'):Calls prog n_merge_Lengths #[.slice x0 x0n x0c,.int .i64 x1] w R:=
 (calls_of_vcT (enc:=enc_merge_Lengths) tab func68 (c:=f68.body.getD .skip) (by kernel_rfl) (Eq.mp (E_merge_Lengths x0 x0n x0c x1 w _) h)).mono fun _ _ ⟨_,he,hr⟩=>he▸hr
def F_states_Put (x0:Option Addr) (x0n:Nat) (x0c:Nat) (x1:Option Addr) (x1n:Nat) (x1c:Nat) (x2:Int) (w:World) (R:Value→World→Prop):Prop
 :=
 Calls prog n_states_made #[.slice x1 x1n x1c,.int .i64 x2] w (fun e w1=>∃x24r0:Option Addr,∃x24r1:Int,e= .returned (.tuple #[.pointer x24r0,.int
 .i64 x24r1])∧bif x24r1 !=(0:Int)then(R (.tuple #[.string (⟨#[]⟩:ByteArray),.int .i64 x24r1]) w1)else(∃I0:Nat→Int→World→Prop,(∃m_2,I0
 m_2 (0:Int) w1)∧∀m,∀x32:Int,∀w2,I0 m x32 w2→(bif decide (x32<((x0n:Nat):Int))then(0≤x32∧x32<((x0n:Nat):Int)∧OSome x0 fun p34
 =>∃x35a:Int,∃x35b:Int,LdL w2 (p34.add (Int.toNat x32*2)) 0 [.int .i64 x35a,.int .u64 x35b]∧∀w3 b11,w3=w2.alloc (.cells #[.int .i64 0,.int
 .u64 0] t_api_Part)→b11=w2.heap.size→Sto w3 (A0 b11) (.int .i64 x35a) fun w4=>Sto w4 ((A0 b11).add 1) (.int .u64 x35b) fun w5=>∃x37a:Int,∃x37b:
 Int,LdL w5 (A0 b11) 0 [.int .i64 x37a,.int .u64 x37b]∧Calls prog n_zig_Join #[.agg #[.int .i64 x37a,.int .u64 x37b]] w5 (fun e_2 w6=>∃x38r0:Int,∃
 x38r1:Bool,e_2= .returned (.tuple #[.int .i64 x38r0,.bool x38r1])∧bif !x38r1 then(R (.tuple #[.string (⟨#[]⟩:ByteArray),.int .i64 (1:Int)]) w6)
 else(∃x46:Int,w6.cell? (A0 b11)=some (.int .i64 x46)∧0≤x46∧x46<((x1n:Nat):Int)∧OSome x1 fun p47=>∃x48:Int,w6.cell? (p47.add
 (Int.toNat x46*1))=some (.int .i64 x48)∧bif x48==(0:Int)then(R (.tuple #[.string (⟨#[]⟩:ByteArray),.int .i64 (1:Int)]) w6)else(∃m_3,m_3<
 m∧I0 m_3 (W64 (x32+(1:Int))) w6))))else(∀w7 b14,w7=w2.alloc (.cells #[.nilFunc] t_func_int)→b14=w2.heap.size→Sto w7 (A0 b14) (.func (.func
 n_states_coder_forth) #[.pointer x24r0] #[]) fun w8=>Calls prog n_slices_Backward_S_api_Part_api_Part #[.slice x0 x0n x0c] w8 (fun e_3 w9=>∃x55:Nat,∃
 x55f:Array Value,∃x55k:Array Value,e_3= .returned (.func (.func x55) x55f x55k)∧cond (x55f.isEmpty&&fok x55) (∃N:Nat,∃vals:Nat→Int×Int×
 Int,∃Iv:Nat→World→Prop,∃Ix:World→Prop,∃Kp:World→World→Prop,RangeOk prog x55 x55k 2 (fun k=> [.int .i64 ((vals k).1),.agg #[.int .i64
 ((vals k).2.1),.int .u64 ((vals k).2.2)]]) N Iv Ix Kp w9∧(∀k,k<N→∀w10,Iv k w10→∀w11 b16,w11=w10.alloc (.cells #[.int .i64 0,.int .u64 0]
 t_api_Part)→b16=w10.heap.size→Sto w11 (A0 b16) (.int .i64 ((vals k).2.1)) fun w12=>Sto w12 ((A0 b16).add 1) (.int .u64 ((vals k).2.2)) fun w13=>
 KeepsFrom w9.heap.size w10 w13∧Kp w10 w13∧∃Im:World→Prop,OwnF w9.heap.size Im∧Im w13∧∀w14,Im w14→∃x58:Nat,∃x58f:Array Value,∃x58k:
 Array Value,w14.cell? (A0 b14)=some (.func (.func x58) x58f x58k)∧∃x60:Int,w14.cell? (A0 b16)=some (.int .i64 x60)∧cond (fok x58) (Calls prog x58
 (x58f.toList++([.int .i64 x60]:List Value)++x58k.toList).toArray w14 (fun e_4 w15=>e_4= .returned (.tuple #[])∧KeepsFrom w9.heap.size w14 w15∧Kp
 w14 w15∧Iv (k+1) w15)) False)∧(∀D w16,w9.heap.size≤D→Iv N w16→w16.heap[D]? =some (.deferred (some []))→OSome x24r0 fun p64=>∃x66:Int,
 w16.cell? (p64.add 66)=some (.int .i64 x66)∧Calls prog n_states_coder_put #[.pointer x24r0,.int .i64 x66,.int .i64 x2] w16 (fun e_5 w17=>e_5=
 .returned (.tuple #[])∧∀w18,w18=w17.drew→OSome x24r0 fun p70=>∃x72:Option Addr,∃x72n:Nat,∃x72c:Nat,w18.cell? (p70.add 67)=some (.slice
 x72 x72n x72c)∧OSome x24r0 fun p74=>∃x76:Option Addr,∃x76n:Nat,∃x76c:Nat,w18.cell? (p74.add 68)=some (.slice x76 x76n x76c)∧Calls prog
 n_back_Seal #[.slice x72 x72n x72c,.slice x76 x76n x76c] w18 (fun e_6 w19=>∃x77:ByteArray,e_6= .returned (.string x77)∧(True)∧Calls prog n_bits_New
 #[] w19 (fun e_7 w20=>∃x78:Option Addr,e_7= .returned (.pointer x78)∧∃I4:Nat→Int→World→Prop,(∃m_5,I4 m_5 (0:Int) w20)∧∀m_4,∀x81:
 Int,∀w21,I4 m_4 x81 w21→(bif decide (x81<((x0n:Nat):Int))then(0≤x81∧x81<((x0n:Nat):Int)∧OSome x0 fun p83=>∃x84a:Int,∃x84b:
 Int,LdL w21 (p83.add (Int.toNat x81*2)) 0 [.int .i64 x84a,.int .u64 x84b]∧∀w22 b20,w22=w21.alloc (.cells #[.int .i64 0,.int .u64 0] t_api_Part)→
 b20=w21.heap.size→Sto w22 (A0 b20) (.int .i64 x84a) fun w23=>Sto w23 ((A0 b20).add 1) (.int .u64 x84b) fun w24=>∃x87:Int,w24.cell? ((A0 b20).add 1)
 =some (.int .u64 x87)∧∃x89:Int,w24.cell? (A0 b20)=some (.int .i64 x89)∧Calls prog n_bits_Writer_Put #[.pointer x78,.int .u64 x87,.int .i64 (W64
 (x89-(1:Int)))] w24 (fun e_8 w25=>e_8= .returned (.tuple #[])∧∃m_6,m_6<m_4∧I4 m_6 (W64 (x81+(1:Int))) w25))else(Calls prog n_vint_Put
 #[.int .u64 (U64 ((x77.size:Nat):Int))] w21 (fun e_9 w26=>∃x96:ByteArray,e_9= .returned (.string x96)∧x96.size+x77.size≤strMax∧Calls prog
 n_bits_Writer_Bytes #[.pointer x78] w26 (fun e_10 w27=>∃x100:ByteArray,e_10= .returned (.string x100)∧(x96++x77).size+x100.size≤strMax∧
 w27.heap[D]? =some (.deferred (some []))∧R (.tuple #[.string ((x96++x77)++x100),.int .i64 (0:Int)]) (w27.putObj D (.deferred none))))))))))∧(∀D_2
 w28,w9.heap.size≤D_2→Ix w28→w28.heap[D_2]? =some (.deferred (some []))→w28.heap[D_2]? =some (.deferred (some []))∧False)) False)))))
def A_states_Put:Ann:= {loop:=fun k=>cond (Nat.beq k 4) (some (9901102462643812940844630016,[81],[.int .i64])) (cond (Nat.beq k 0) (some (4503595332417728,[32],[.int .i64])) (none)),join:=fun k=>none,nf:=fun k=> []}
def enc_states_Put:Int×Int×Int→List Value:=fun x=> [.int .i64 x.1,.agg #[.int .i64 x.2.1,.int .u64 x.2.2]]
theorem E_states_Put (x0:Option Addr) (x0n:Nat) (x0c:Nat) (x1:Option Addr) (x1n:Nat) (x1c:Nat) (x2:Int) (w:World) (R:Value→World→Prop):F_states_Put x0 x0n x0c x1 x1n x1c x2 w R=vcFT prog TAB fok A_states_Put enc_states_Put f73.ntmps (f73.body.getD .skip) f73.results.toList [.slice x0 x0n x0c,.slice x1 x1n x1c,.int .i64 x2] w R:=by kernel_rfl
theorem S_states_Put {x0:Option Addr} {x0n:Nat} {x0c:Nat} {x1:Option Addr} {x1n:Nat} {x1c:Nat} {x2:Int} {w:World} {R:Ending→World→Prop} (h:F_states_Put x0 x0n x0c x1 x1n x1c x2 w fun v w'=>R (.returned v) w'):Calls prog n_states_Put #[.slice x0 x0n x0c,.slice x1 x1n x1c,.int .i64 x2] w R:=
 (calls_of_vcT (enc:=enc_states_Put) tab func73 (c:=f73.body.getD .skip) (by kernel_rfl) (Eq.mp (E_states_Put x0 x0n x0c x1 x1n x1c x2 w _) h)).mono fun _ _ ⟨_,he,hr⟩=>he▸hr
end Go.Proofs.Tryz
