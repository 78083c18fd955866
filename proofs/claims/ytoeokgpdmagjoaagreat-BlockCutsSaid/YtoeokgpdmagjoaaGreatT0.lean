import Derived.Shelf.SlSortCmp.NoneTotal
import Derived.Test.YtoeokgpdmagjoaaGreatProg
import Derived.Tactics
import Derived.Orders
import Derived.KernelRfl
import Derived.Laws.Entries
import Derived.Laws.Cells
import Derived.Laws.Slices
import Derived.Laws.Strings
import Derived.Laws.World
import Derived.OrdersHeld
import Derived.Deep.LoopGhost
import Derived.RangeFuncNested
import Derived.RangeFuncLeaves
import Derived.TacticsIn
import Derived.OrdersIn
import Derived.LoopNIn
import Derived.Below
import Derived.Laws.BytesArg
import Derived.Laws.AppendOwn
/-
A part of the proof: steps of the walk and plain laws.
-/
set_option linter.unusedVariables false
namespace Go.Proofs
open Go.Shelf
def Tryz.sortL_ren:Go.Shelf.Ren:=⟨fun|6=>205|15=>233|14=>232|28=>250|29=>191|20=>242|21=>243|22=>244|23=>245|24=>246|25=>247|26=>248|27=>249|46=>254|47=>255|48=>256|49=>257|50=>258|57=>259|n=>n,fun|22=>73|24=>3|25=>153|3=>3|39=>108|0=>0|53=>364|55=>22|4=>4|46=>358|45=>357|50=>310|5=>5|9=>9|66=>365|70=>368|76=>370|77=>371|n=>n,fun|n=>n⟩
theorem Tryz.sortL:Go.Proofs.SlLaysF.n6 Tryz.prog Tryz.sortL_ren:= {
 mixed:=by kernel_rfl
 f6:=⟨Tryz.f205.name,by decide,Tryz.func205.trans (congrArg some (by kernel_rfl))⟩
 f14:=⟨Tryz.f232.name,by decide,Tryz.func232.trans (congrArg some (by kernel_rfl))⟩
 f15:=Tryz.func233.trans (congrArg some (by kernel_rfl))
 f20:=⟨Tryz.f242.name,by decide,Tryz.func242.trans (congrArg some (by kernel_rfl))⟩
 f21:=⟨Tryz.f243.name,by decide,Tryz.func243.trans (congrArg some (by kernel_rfl))⟩
 f22:=⟨Tryz.f244.name,by decide,Tryz.func244.trans (congrArg some (by kernel_rfl))⟩
 f23:=⟨Tryz.f245.name,by decide,Tryz.func245.trans (congrArg some (by kernel_rfl))⟩
 f24:=⟨Tryz.f246.name,by decide,Tryz.func246.trans (congrArg some (by kernel_rfl))⟩
 f25:=⟨Tryz.f247.name,by decide,Tryz.func247.trans (congrArg some (by kernel_rfl))⟩
 f26:=⟨Tryz.f248.name,by decide,Tryz.func248.trans (congrArg some (by kernel_rfl))⟩
 f27:=⟨Tryz.f249.name,by decide,Tryz.func249.trans (congrArg some (by kernel_rfl))⟩
 f28:=Tryz.func250.trans (congrArg some (by kernel_rfl))
 f29:=Tryz.func191.trans (congrArg some (by kernel_rfl))
 f46:=⟨Tryz.f254.name,by decide,Tryz.func254.trans (congrArg some (by kernel_rfl))⟩
 f47:=Tryz.func255.trans (congrArg some (by kernel_rfl))
 f48:=Tryz.func256.trans (congrArg some (by kernel_rfl))
 f49:=⟨Tryz.f257.name,by decide,Tryz.func257.trans (congrArg some (by kernel_rfl))⟩
 f50:=⟨Tryz.f258.name,by decide,Tryz.func258.trans (congrArg some (by kernel_rfl))⟩
 f57:=⟨Tryz.f259.name,by decide,Tryz.func259.trans (congrArg some (by kernel_rfl))⟩
 t0:=Tryz.underlying0
 a0:=Tryz.isAgg0
 z0:=Tryz.sizeOf0
 v0:=Tryz.zeroValue0
 t3:=Tryz.underlying3
 a3:=Tryz.isAgg3
 z3:=Tryz.sizeOf3
 v3:=Tryz.zeroValue3
 t4:=Tryz.underlying4
 a4:=Tryz.isAgg4
 z4:=Tryz.sizeOf4
 v4:=Tryz.zeroValue4
 t5:=Tryz.underlying5
 a5:=Tryz.isAgg5
 z5:=Tryz.sizeOf5
 v5:=Tryz.zeroValue5
 t9:=Tryz.underlying9
 a9:=Tryz.isAgg9
 z9:=Tryz.sizeOf9
 v9:=Tryz.zeroValue9
 t22:=Tryz.underlying73
 a22:=Tryz.isAgg73
 z22:=Tryz.sizeOf73
 v22:=Tryz.zeroValue73
 a24:=Tryz.isAgg3
 z24:=Tryz.sizeOf3
 t25:=Tryz.underlying153
 a25:=Tryz.isAgg153
 z25:=Tryz.sizeOf153
 v25:=Tryz.zeroValue153
 t39:=Tryz.underlying108
 a39:=Tryz.isAgg108
 z39:=Tryz.sizeOf108
 v39:=Tryz.zeroValue108
 t45:=Tryz.underlying357
 a45:=Tryz.isAgg357
 z45:=Tryz.sizeOf357
 v45:=Tryz.zeroValue357
 t46:=Tryz.underlying358
 a46:=Tryz.isAgg358
 z46:=Tryz.sizeOf358
 v46:=Tryz.zeroValue358
 t50:=Tryz.underlying310
 a50:=Tryz.isAgg310
 z50:=Tryz.sizeOf310
 v50:=Tryz.zeroValue310
 t53:=Tryz.underlying364
 a53:=Tryz.isAgg364
 z53:=Tryz.sizeOf364
 v53:=Tryz.zeroValue364
 t55:=Tryz.underlying22
 a55:=Tryz.isAgg22
 z55:=Tryz.sizeOf22
 v55:=Tryz.zeroValue22
 t66:=Tryz.underlying365
 a66:=Tryz.isAgg365
 z66:=Tryz.sizeOf365
 v66:=Tryz.zeroValue365
 t70:=Tryz.underlying368
 a70:=Tryz.isAgg368
 z70:=Tryz.sizeOf368
 v70:=Tryz.zeroValue368
 t76:=Tryz.underlying370
 a76:=Tryz.isAgg370
 z76:=Tryz.sizeOf370
 v76:=Tryz.zeroValue370
 t77:=Tryz.underlying371
 a77:=Tryz.isAgg371
 z77:=Tryz.sizeOf371
 v77:=Tryz.zeroValue371}
end Go.Proofs
namespace Go.Proofs.VC
open Go
abbrev A0 (b:Nat):Addr:=⟨b,0,none⟩
inductive B where
 |int (k:IntKind)|bool|str|ptr|sl|map|fn|ifc|ad
def B.zero:B→Value
 | .int k=> .int k 0
 | .bool=> .bool false
 | .str=> .string .empty
 | .ptr=> .pointer none
 | .sl=> .slice none 0 0
 | .map=> .map none
 | .fn=> .nilFunc
 | .ifc=> .nilIface
 | .ad=> .pointer none
inductive D where
 |int (k:IntKind)|bool|str|ptr|slice (e:Nat)|map|fn|ifc|arr (n e:Nat)|struct (fs:List (Nat×Nat))|tup (ts:List Nat)|none
structure TI where
 d:D
 size:Nat
 bytes:Nat
 fl:List B
def ExB:B→(Value→Prop)→Prop
 | .int k,Q=>∃n:Int,Q (.int k n)
 | .bool,Q=>∃n:Bool,Q (.bool n)
 | .str,Q=>∃n:ByteArray,Q (.string n)
 | .ptr,Q=>∃n:Option Addr,Q (.pointer n)
 | .sl,Q=>∃(a:Option Addr) (n c:Nat),Q (.slice a n c)
 | .map,Q=>∃n:Option Nat,Q (.map n)
 | .fn,Q=>∃(g:Nat) (a c:Array Value),Q (.func (.func g) a c)
 | .ifc,Q=>∃v:Value,Q v
 | .ad,Q=>∃a:Addr,Q (.pointer (some a))
def ExL:List B→(List Value→Prop)→Prop
 | [],Q=>Q []
 |b::bs,Q=>ExB b fun v=>ExL bs fun vs=>Q (v::vs)
def ExV (x:TI) (Q:Value→Prop):Prop:=
 match x.d with
 | .arr _ _| .struct _=>ExL x.fl fun cs=>Q (.agg cs.toArray)
 | .tup _| .none=>False
 |_=>match x.fl with
  | [b]=>ExB b Q
  |_=>False
def ExVs (T:Nat→TI):List Nat→(List Value→Prop)→Prop
 | [],Q=>Q []
 |t::ts,Q=>ExV (T t) fun v=>ExVs T ts fun vs=>Q (v::vs)
def ExR (T:Nat→TI) (t:Nat) (Q:Value→Prop):Prop:=
 match (T t).d with
 | .tup ts=>ExVs T ts fun vs=>Q (.tuple vs.toArray)
 |_=>ExV (T t) Q
theorem ExB.elim {b:B} {Q:Value→Prop} (h:ExB b Q):∃v,Q v:=by
 cases b<;>simp only [ExB]at h
 case sl=>obtain⟨a,n,c,h⟩:=h;exact⟨_,h⟩
 case fn=>obtain⟨a,n,c,h⟩:=h;exact⟨_,h⟩
 all_goals (obtain⟨n,h⟩:=h;exact⟨_,h⟩)
theorem ExL.elim {bs:List B}:∀ {Q:List Value→Prop},ExL bs Q→∃vs,vs.length=bs.length∧Q vs:=by
 induction bs with
 |nil=>intro Q h;exact⟨[],rfl,h⟩
 |cons b bs ih=>
  intro Q h
  obtain⟨v,h⟩:=ExB.elim h
  obtain⟨vs,hl,h⟩:=ih h
  exact⟨v::vs,by simp [hl],h⟩
theorem ExV.elim {x:TI} {Q:Value→Prop} (h:ExV x Q):∃v,Q v:=by
 unfold ExV at h
 split at h
 · obtain⟨vs,_,h⟩:=ExL.elim h;exact⟨_,h⟩
 · obtain⟨vs,_,h⟩:=ExL.elim h;exact⟨_,h⟩
 · exact h.elim
 · exact h.elim
 · split at h
   · exact ExB.elim h
   · exact h.elim
theorem ExVs.elim {T:Nat→TI} {ts:List Nat}:∀ {Q:List Value→Prop},ExVs T ts Q→∃vs,Q vs:=by
 induction ts with
 |nil=>intro Q h;exact⟨[],h⟩
 |cons t ts ih=>
  intro Q h
  obtain⟨v,h⟩:=ExV.elim h
  obtain⟨vs,h⟩:=ih h
  exact⟨v::vs,h⟩
theorem ExR.elim {T:Nat→TI} {t:Nat} {Q:Value→Prop} (h:ExR T t Q):∃v,Q v:=by
 unfold ExR at h
 split at h
 · obtain⟨vs,h⟩:=ExVs.elim h;exact⟨_,h⟩
 · exact ExV.elim h
def isAggD:D→Bool
 | .arr _ _| .struct _=>true
 |_=>false
def fieldsOk (P:Program):List Field→List (Nat×Nat)→Bool
 | [],[]=>true
 |f::fs,(o,t)::gs=>f.offset==o&&f.type==t&&P.cellsOf t !=0&&fieldsOk P fs gs
 |_,_=>false
def descOk (P:Program) (t:Nat):D→Bool
 | .int k=>match P.underlying t with|some (.int k')=>k==k'|_=>false
 | .bool=>match P.underlying t with|some .bool=>true|_=>false
 | .str=>match P.underlying t with|some .string=>true|_=>false
 | .ptr=>match P.underlying t with|some (.pointer _)=>true|_=>false
 | .slice e=>match P.underlying t with|some (.slice e')=>e==e'|_=>false
 | .map=>match P.underlying t with|some (.map _ _)=>true|_=>false
 | .fn=>match P.underlying t with|some (.func _ _ _)=>true|_=>false
 | .ifc=>match P.underlying t with|some (.interface _)=>true|_=>false
 | .arr n e=>match P.underlying t with|some (.array n' e')=>n==n'&&e==e'|_=>false
 | .struct fs=>match P.underlying t with|some (.struct ff)=>fieldsOk P ff.toList fs|_=>false
 | .tup _=>true
 | .none=>true
def zeroEq:Value→B→Bool
 | .int k n,.int k'=>k==k'&&n==0
 | .bool x,.bool=>!x
 | .string s,.str=>s.size==0
 | .pointer a,.ptr=>a.isNone
 | .slice a n c,.sl=>a.isNone&&n==0&&c==0
 | .map r,.map=>r.isNone
 | .nilFunc,.fn=>true
 | .nilIface,.ifc=>true
 |_,_=>false
def zerosEq:List Value→List B→Bool
 | [],[]=>true
 |v::vs,b::bs=>zeroEq v b&&zerosEq vs bs
 |_,_=>false
def isNoneD:D→Bool
 | .none=>true
 |_=>false
def isTupD:D→Bool
 | .tup _=>true
 |_=>false
def tiOk (P:Program) (t:Nat) (x:TI):Bool:=
 isNoneD x.d||isTupD x.d||
 (match P.info? t with
  |none=>false
  |some i=>i.size==x.size&&i.bytes==x.bytes&&x.fl.length==x.size&&descOk P t x.d&&
   (match i.zero with
    |some z=>zerosEq z.cells.toList x.fl&&((match z with| .agg _=>true|_=>false)==isAggD x.d)
    |none=>false))
structure Tab (P:Program) (T:Nat→TI) (fok:Nat→Bool):Prop where
 ok:∀t,tiOk P t (T t)=true
 fn:∀f,fok f=true→∃g,P.funcs[f]? =some g∧(g.name== "runtime.NumGoroutine")=false∧g.body.isNone=false
 mixed:P.follows .mixedOrders=true
theorem string_empty {s:ByteArray} (h:s.size=0):s=ByteArray.empty:=by
 cases s with
 |mk d=>
  have:d= #[]:=Array.eq_empty_of_size_eq_zero h
  subst this
  rfl
theorem zeroEq_spec {v:Value} {b:B} (h:zeroEq v b=true):v=b.zero:=by
 cases v<;>cases b<;>simp [zeroEq,B.zero]at h ⊢
 all_goals first
  |exact h
  |exact string_empty h
  |(obtain⟨⟨h1,h2⟩,h3⟩:=h;exact⟨h1,h2,h3⟩)
theorem zerosEq_spec:∀ {vs:List Value} {bs:List B},zerosEq vs bs=true→vs=bs.map B.zero
 | [],[],_=>rfl
 |v::vs,b::bs,h=>by
  simp only [zerosEq,Bool.and_eq_true]at h
  simp [zeroEq_spec h.1,zerosEq_spec h.2]
 | [],_::_,h=>by simp [zerosEq]at h
 |_::_,[],h=>by simp [zerosEq]at h
end Go.Proofs.VC
namespace Go.Proofs.VC
open Go
def OSome {α:Type} (a:Option α) (K:α→Prop):Prop:=∃x,a=some x∧K x
def kd (k k':IntKind) (Q:Prop):Prop:=cond (k==k') Q False
theorem kd.elim {k k':IntKind} {Q:Prop} (h:kd k k' Q):k=k'∧Q:=by
 unfold kd at h
 cases hk:k==k' with
 |true=>rw [hk]at h;exact⟨by simpa using hk,h⟩
 |false=>rw [hk]at h;exact h.elim
def andI (k:IntKind) (a b:Int):Int:=k.wrap ((BitVec.ofInt k.bits a&&&BitVec.ofInt k.bits b).toNat:Int)
def orI (k:IntKind) (a b:Int):Int:=k.wrap ((BitVec.ofInt k.bits a|||BitVec.ofInt k.bits b).toNat:Int)
def xorI (k:IntKind) (a b:Int):Int:=k.wrap ((BitVec.ofInt k.bits a^^^BitVec.ofInt k.bits b).toNat:Int)
def shlI (k:IntKind) (a n:Int):Int:=k.wrap (a*2^(min n.toNat k.bits))
def shrI (k:IntKind) (a n:Int):Int:=a.fdiv (2^(min n.toNat k.bits))
def binI (op:BinOp) (k:IntKind) (a:Int) (k':IntKind) (b:Int) (K:Value→Prop):Prop:=
 match op with
 | .add=>kd k k' (K (.int k (k.wrap (a+b))))
 | .sub=>kd k k' (K (.int k (k.wrap (a-b))))
 | .mul=>kd k k' (K (.int k (k.wrap (a*b))))
 | .quo=>kd k k' (b≠0∧K (.int k (k.wrap (a.tdiv b))))
 | .rem=>kd k k' (b≠0∧K (.int k (a.tmod b)))
 | .and=>kd k k' (K (.int k (andI k a b)))
 | .or=>kd k k' (K (.int k (orI k a b)))
 | .xor=>kd k k' (K (.int k (xorI k a b)))
 | .andNot=>False
 | .shl=>0≤b∧K (.int k (shlI k a b))
 | .shr=>0≤b∧K (.int k (shrI k a b))
 | .eql=>kd k k' (K (.bool (a==b)))
 | .neq=>kd k k' (K (.bool (a !=b)))
 | .lss=>kd k k' (K (.bool (decide (a<b))))
 | .leq=>kd k k' (K (.bool (decide (a≤b))))
 | .gtr=>kd k k' (K (.bool (decide (a>b))))
 | .geq=>kd k k' (K (.bool (decide (a≥b))))
def Pur (P:Program) (s:Sem Value) (K:Value→Prop):Prop:=∃v,K v∧∀w,s.run P w= .ok v w
theorem binI_sound {P:Program} {op:BinOp} {t:Nat} {k k':IntKind} {a b:Int} {K:Value→Prop} (h:binI op k a k' b K):
 Pur P (binOp op t (.int k a) (.int k' b)) K:=by
 cases op<;>simp only [binI]at h
 case shl=>exact⟨_,h.2,fun w=>by simp [binOp,Op.shift,shlI,Int.not_lt.2 h.1]⟩
 case shr=>exact⟨_,h.2,fun w=>by simp [binOp,Op.shift,shrI,Int.not_lt.2 h.1]⟩
 all_goals
  obtain⟨rfl,h'⟩:=kd.elim h
 case quo=>exact⟨_,h'.2,fun w=>by simp [binOp,Op.intDiv,h'.1]⟩
 case rem=>exact⟨_,h'.2,fun w=>by simp [binOp,Op.intDiv,h'.1]⟩
 all_goals exact⟨_,h',fun w=>by simp only [binOp,ne_eq,not_true_eq_false,if_false];rfl⟩
def strMax:Nat:=9223372036854775807
def binS (op:BinOp) (a b:ByteArray) (K:Value→Prop):Prop:=
 match op with
 | .add=>a.size+b.size≤strMax∧K (.string (a++b))
 | .eql=>K (.bool (a.toList==b.toList))
 | .neq=>K (.bool (!(a.toList==b.toList)))
 |_=>False
theorem binS_sound {P:Program} {op:BinOp} {t:Nat} {a b:ByteArray} {K:Value→Prop} (h:binS op a b K):
 Pur P (binOp op t (.string a) (.string b)) K:=by
 cases op<;>simp only [binS]at h
 case add=>
  refine⟨_,h.2,fun w=>?_⟩
  have h1:=h.1
  have:¬(((a.size+b.size:Nat):Int)>IntKind.i64.max):=by
   have e:IntKind.i64.max=9223372036854775807:=rfl
   rw [e];unfold strMax at h1;omega
  simp only [binOp,Op.stringOp]
  rw [if_neg this];rfl
 case eql=>exact⟨_,h,fun w=>by simp [binOp,Op.stringOp]⟩
 case neq=>exact⟨_,h,fun w=>by simp [binOp,Op.stringOp]⟩
 all_goals exact h.elim
def AggB (P:Program) (op:BinOp) (t:Nat) (x y:Value) (r:Bool):Prop:=
 ∀ρx ρy w,(do eqGuard op t ρx ρy x y;binOp op t x y).run P w= .ok (.bool r) w
def AggEq (P:Program) (op:BinOp) (t:Nat) (x y:Value) (K:Value→Prop):Prop:=
 ∃r:Bool,(∀ρx ρy w,(do eqGuard op t ρx ρy x y;binOp op t x y).run P w= .ok (.bool r) w)∧K (.bool r)
def isPtrD:D→Bool| .ptr=>true|_=>false
def isBoolD:D→Bool| .bool=>true|_=>false
def isSliceD:D→Bool| .slice _=>true|_=>false
def nilCmp (op:BinOp) (isNil:Bool) (K:Value→Prop):Prop:=
 match op with
 | .eql=>K (.bool isNil)
 | .neq=>K (.bool (!isNil))
 |_=>False
def bin (P:Program) (T:Nat→TI) (op:BinOp) (t:Nat) (x y:Value) (K:Value→Prop):Prop:=
 match x,y with
 | .int k a,.int k' b=>binI op k a k' b K
 | .string a,.string b=>binS op a b K
 | .bool a,.bool b=>cond (isBoolD (T t).d) (match op with| .eql=>K (.bool (a==b))| .neq=>K (.bool (!(a==b)))|_=>False) False
 | .pointer a,.pointer none=>cond (isPtrD (T t).d) (nilCmp op a.isNone K) False
 | .pointer none,.pointer b=>cond (isPtrD (T t).d) (nilCmp op b.isNone K) False
 | .slice a _ _,.slice none _ _=>cond (isSliceD (T t).d) (nilCmp op a.isNone K) False
 | .agg a,.agg b=>AggEq P op t (.agg a) (.agg b) K
 |_,_=>False
theorem cond_true {c:Bool} {Q:Prop} (h:cond c Q False):c=true∧Q:=by cases c<;>simp_all
section
variable {P:Program} {T:Nat→TI} {fok:Nat→Bool}
theorem Tab.desc (H:Tab P T fok) {t:Nat} (h:isNoneD (T t).d=false) (h2:isTupD (T t).d=false):
 ∃i,P.info? t=some i∧i.size=(T t).size∧i.bytes=(T t).bytes∧(T t).fl.length=(T t).size∧descOk P t (T t).d=true∧
  ∃z,i.zero=some z∧z.cells.toList=(T t).fl.map B.zero∧(match z with| .agg _=>true|_=>false)=isAggD (T t).d:=by
 have:=H.ok t
 unfold tiOk at this
 rw [h,h2]at this
 simp only [Bool.false_or]at this
 split at this
 · cases this
 · rename_i i hi
   simp only [Bool.and_eq_true,beq_iff_eq]at this
   obtain⟨⟨⟨⟨h1,h2⟩,h3⟩,h4⟩,h5⟩:=this
   refine⟨i,hi,h1,h2,h3,h4,?_⟩
   split at h5
   · rename_i z hz
     simp only [Bool.and_eq_true,beq_iff_eq]at h5
     exact⟨z,hz,zerosEq_spec h5.1,h5.2⟩
   · cases h5
theorem Tab.isPtr (H:Tab P T fok) {t:Nat} (h:isPtrD (T t).d=true):∃e,P.underlying t=some (.pointer e):=by
 cases hd:(T t).d<;>rw [hd]at h<;>simp [isPtrD]at h
 obtain⟨i,_,_,_,_,h4,_⟩:=H.desc (t:=t) (by rw [hd];rfl) (by rw [hd];rfl)
 rw [hd]at h4
 simp only [descOk]at h4
 split at h4
 · rename_i e he;exact⟨e,he⟩
 · cases h4
theorem Tab.isBool (H:Tab P T fok) {t:Nat} (h:isBoolD (T t).d=true):P.underlying t=some .bool:=by
 cases hd:(T t).d<;>rw [hd]at h<;>simp [isBoolD]at h
 obtain⟨i,_,_,_,_,h4,_⟩:=H.desc (t:=t) (by rw [hd];rfl) (by rw [hd];rfl)
 rw [hd]at h4
 simp only [descOk]at h4
 split at h4
 · assumption
 · cases h4
theorem Tab.isSlice (H:Tab P T fok) {t e:Nat} (h:(T t).d= .slice e):P.underlying t=some (.slice e):=by
 obtain⟨i,_,_,_,_,h4,_⟩:=H.desc (t:=t) (by rw [h];rfl) (by rw [h];rfl)
 rw [h]at h4
 simp only [descOk]at h4
 split at h4
 · rename_i e' he;simp at h4;rw [he,h4]
 · cases h4
theorem Tab.isArr (H:Tab P T fok) {t n e:Nat} (h:(T t).d= .arr n e):P.underlying t=some (.array n e):=by
 obtain⟨i,_,_,_,_,h4,_⟩:=H.desc (t:=t) (by rw [h];rfl) (by rw [h];rfl)
 rw [h]at h4
 simp only [descOk]at h4
 split at h4
 · rename_i e' he;simp at h4;rw [he,h4.1,h4.2]
 · cases h4
theorem Tab.isInt (H:Tab P T fok) {t:Nat} {k:IntKind} (h:(T t).d= .int k):P.underlying t=some (.int k):=by
 obtain⟨i,_,_,_,_,h4,_⟩:=H.desc (t:=t) (by rw [h];rfl) (by rw [h];rfl)
 rw [h]at h4
 simp only [descOk]at h4
 split at h4
 · rename_i e' he;simp at h4;rw [he,h4]
 · cases h4
theorem Tab.isStr (H:Tab P T fok) {t:Nat} (h:(T t).d= .str):P.underlying t=some .string:=by
 obtain⟨i,_,_,_,_,h4,_⟩:=H.desc (t:=t) (by rw [h];rfl) (by rw [h];rfl)
 rw [h]at h4
 simp only [descOk]at h4
 split at h4
 · assumption
 · cases h4
theorem Tab.isStruct (H:Tab P T fok) {t:Nat} {fs:List (Nat×Nat)} (h:(T t).d= .struct fs):∃ff,P.underlying t=some (.struct ff)∧fieldsOk P ff.toList fs=true:=by
 obtain⟨i,_,_,_,_,h4,_⟩:=H.desc (t:=t) (by rw [h];rfl) (by rw [h];rfl)
 rw [h]at h4
 simp only [descOk]at h4
 split at h4
 · rename_i ff he;exact⟨ff,he,h4⟩
 · cases h4
def binRun (op:BinOp) (t:Nat) (ρx ρy:Operand) (x y:Value):Sem Value:=do eqGuard op t ρx ρy x y;binOp op t x y
theorem run_underlying (P:Program) (t:Nat) (d:TypeDesc) (h:P.underlying t=some d) (w:World):(underlying t).run P w= .ok d w:=by
 unfold Go.underlying
 simp [h]
theorem eqGuard_quiet (op:BinOp) (t:Nat) (ρx ρy:Operand) (x y:Value) (w:World) (h1:∀a b,¬(x= .agg a∧y= .agg b)) (h2:¬(x= .nilIface∧y= .nilIface)):
 (eqGuard op t ρx ρy x y).run P w= .ok () w:=by
 have key:∀op,op=BinOp.eql∨op=BinOp.neq→(eqGuard op t ρx ρy x y).run P w= .ok () w:=by
  rintro op (rfl|rfl)<;>
  · unfold eqGuard
    simp only [Bool.not_true,Bool.false_eq_true,if_false]
    split
    · exact absurd ⟨rfl,rfl⟩ h2
    · exact absurd ⟨rfl,rfl⟩ (h1 _ _)
    · rfl
 cases op<;>first|rfl|exact key _ (.inl rfl)|exact key _ (.inr rfl)
theorem equal_bool {t:Nat} (hu:P.underlying t=some .bool) (a b:Bool) (w:World):(Op.equal t (.bool a) (.bool b)).run P w= .ok (a==b) w:=by
 show(Op.equalIn (9999+1) t (.bool a) (.bool b)).run P w=_
 rw [Op.equalIn,Sem.run_bind,run_underlying P t _ hu]
 rfl
theorem equal_ptr {t e:Nat} (hu:P.underlying t=some (.pointer e)) (a:Option Addr) (w:World):(Op.equal t (.pointer a) (.pointer none)).run P w= .ok a.isNone w:=by
 show(Op.equalIn (9999+1) t (.pointer a) (.pointer none)).run P w=_
 rw [Op.equalIn,Sem.run_bind,run_underlying P t _ hu]
 cases a<;>rfl
theorem equal_ptr' {t e:Nat} (hu:P.underlying t=some (.pointer e)) (a:Option Addr) (w:World):(Op.equal t (.pointer none) (.pointer a)).run P w= .ok a.isNone w:=by
 show(Op.equalIn (9999+1) t (.pointer none) (.pointer a)).run P w=_
 rw [Op.equalIn,Sem.run_bind,run_underlying P t _ hu]
 rfl
theorem equal_slice {t e:Nat} (hu:P.underlying t=some (.slice e)) (a:Option Addr) (n c m d:Nat) (w:World):(Op.equal t (.slice a n c) (.slice none m d)).run P w= .ok a.isNone w:=by
 show(Op.equalIn (9999+1) t (.slice a n c) (.slice none m d)).run P w=_
 rw [Op.equalIn,Sem.run_bind,run_underlying P t _ hu]
 cases a<;>rfl
theorem run_eql {t:Nat} {x y:Value} {r:Bool} (h:binOp .eql t x y=do pure (.bool (←Op.equal t x y))) (w:World) (hr:(Op.equal t x y).run P w= .ok r w):
 (binOp .eql t x y).run P w= .ok (.bool r) w:=by
 rw [h,Sem.run_bind,hr];rfl
theorem run_neq {t:Nat} {x y:Value} {r:Bool} (h:binOp .neq t x y=do pure (.bool (!(←Op.equal t x y)))) (w:World) (hr:(Op.equal t x y).run P w= .ok r w):
 (binOp .neq t x y).run P w= .ok (.bool (!r)) w:=by
 rw [h,Sem.run_bind,hr];rfl
theorem bin_sound (H:Tab P T fok) {op:BinOp} {t:Nat} {ρx ρy:Operand} {x y:Value} {K:Value→Prop} (h:bin P T op t x y K):
 Pur P (binRun op t ρx ρy x y) K:=by
 have quiet:(∀a b,¬(x= .agg a∧y= .agg b))→(¬(x= .nilIface∧y= .nilIface))→Pur P (binOp op t x y) K→Pur P (binRun op t ρx ρy x y) K:=by
  rintro h1 h2 ⟨v,hk,hr⟩
  refine⟨v,hk,fun w=>?_⟩
  unfold binRun
  rw [Sem.run_bind,eqGuard_quiet op t ρx ρy x y w h1 h2]
  exact hr w
 unfold bin at h
 split at h
 · exact quiet (by simp) (by simp) (binI_sound h)
 · exact quiet (by simp) (by simp) (binS_sound h)
 · obtain⟨hb,h⟩:=cond_true h
   have hu:=H.isBool hb
   refine quiet (by simp) (by simp) ?_
   cases op<;>simp only []at h
   case eql=>exact⟨_,h,fun w=>run_eql rfl w (equal_bool hu _ _ w)⟩
   case neq=>exact⟨_,h,fun w=>run_neq rfl w (equal_bool hu _ _ w)⟩
 · obtain⟨hb,h⟩:=cond_true h
   obtain⟨e,hu⟩:=H.isPtr hb
   refine quiet (by simp) (by simp) ?_
   cases op<;>simp only [nilCmp]at h
   case eql=>exact⟨_,h,fun w=>run_eql rfl w (equal_ptr hu _ w)⟩
   case neq=>exact⟨_,h,fun w=>run_neq rfl w (equal_ptr hu _ w)⟩
 · obtain⟨hb,h⟩:=cond_true h
   obtain⟨e,hu⟩:=H.isPtr hb
   refine quiet (by simp) (by simp) ?_
   cases op<;>simp only [nilCmp]at h
   case eql=>exact⟨_,h,fun w=>run_eql rfl w (equal_ptr' hu _ w)⟩
   case neq=>exact⟨_,h,fun w=>run_neq rfl w (equal_ptr' hu _ w)⟩
 · obtain⟨hb,h⟩:=cond_true h
   have hu:∃e,P.underlying t=some (.slice e):=by
    cases hd:(T t).d<;>rw [hd]at hb<;>simp [isSliceD]at hb
    exact⟨_,H.isSlice hd⟩
   obtain⟨e,hu⟩:=hu
   refine quiet (by simp) (by simp) ?_
   cases op<;>simp only [nilCmp]at h
   case eql=>exact⟨_,h,fun w=>run_eql rfl w (equal_slice hu _ _ _ _ _ w)⟩
   case neq=>exact⟨_,h,fun w=>run_neq rfl w (equal_slice hu _ _ _ _ _ w)⟩
 · obtain⟨r,hr,h⟩:=h
   exact⟨_,h,fun w=>hr ρx ρy w⟩
 · exact h.elim
end
end Go.Proofs.VC
namespace Go.Proofs.VC
open Go
def putL (cs:List Value):Nat→List Value→List Value
 |_,[]=>cs
 |off,v::vs=>putL (cs.set off v) (off+1) vs
def fillL (place:Nat→Option (Nat×Nat)) (cs:List Value):List (Nat×Value)→Option (List Value)
 | []=>some cs
 |(i,v)::rest=>
  match place i with
  |none=>none
  |some (off,size)=>bif v.cells.size==size&&Nat.ble (off+size) cs.length then fillL place (putL cs off v.cells.toList) rest else none
theorem putL_fold (vs:List Value):∀(cs:List Value) (off:Nat),(putL cs off vs).toArray=vs.zipIdx.foldl (fun(cs:Array Value) (p:Value×Nat)=>cs.setIfInBounds (off+p.2) p.1) cs.toArray:=by
 suffices h:∀(vs:List Value) (cs:List Value) (off k:Nat),(putL cs (off+k) vs).toArray=(vs.zipIdx k).foldl (fun(cs:Array Value) (p:Value×Nat)=>cs.setIfInBounds (off+p.2) p.1) cs.toArray from fun cs off=>by simpa using h vs cs off 0
 intro vs
 induction vs with
 |nil=>intro cs off k;rfl
 |cons v vs ih=>
  intro cs off k
  simp only [putL,List.zipIdx_cons,List.foldl_cons]
  rw [Nat.add_assoc,ih]
  simp
theorem fillL_sound (place:Nat→Option (Nat×Nat)):∀(parts:List (Nat×Value)) (cs r:List Value),fillL place cs parts=some r→Instr.fill place cs.toArray parts=some r.toArray:=by
 intro parts
 induction parts with
 |nil=>intro cs r h;simp [fillL]at h;simp [Instr.fill,h]
 |cons p parts ih=>
  intro cs r h
  obtain⟨i,v⟩:=p
  simp only [fillL]at h
  simp only [Instr.fill]
  split at h
  · cases h
  · rename_i off size hp
    simp only [hp]
    cases hc:(v.cells.size==size&&Nat.ble (off+size) cs.length)with
    |false=>rw [hc]at h;cases h
    |true=>
     rw [hc]at h
     replace h:fillL place (putL cs off v.cells.toList) parts=some r:=h
     simp only [Bool.and_eq_true,beq_iff_eq]at hc
     have h2:off+size≤cs.length:=Nat.le_of_ble_eq_true hc.2
     rw [if_neg (by simp [hc.1];omega)]
     have:=ih _ _ h
     rw [←this]
     congr 1
     rw [putL_fold]
     rw [←Array.foldl_toList]
     simp
def sA (a:Option Addr) (es l m:Nat):Option Addr:=if m=l then a else a.map (·.add (l*es))
def boundI (v:Value) (hi:Nat) (K:Nat→Prop):Prop:=
 match v with
 | .int _ x=>0≤x∧x≤(hi:Int)∧K x.toNat
 |_=>False
def boundsI (n c:Nat) (lo hi mx:Option Value) (K:Nat→Nat→Nat→Prop):Prop:=
 match mx with
 |none=>
  match hi,lo with
  |none,none=>K 0 n c
  |none,some l=>boundI l n fun l=>K l n c
  |some h,none=>boundI h c fun h=>K 0 h c
  |some h,some l=>boundI h c fun h=>boundI l h fun l=>K l h c
 |some m=>
  match hi,lo with
  |some h,none=>boundI m c fun m=>boundI h m fun h=>K 0 h m
  |some h,some l=>boundI m c fun m=>boundI h m fun h=>boundI l h fun l=>K l h m
  |none,_=>False
theorem boundI_sound {P:Program} {v:Value} {hi:Nat} {K:Nat→Prop} {c:BoundsCode} (h:boundI v hi K):∃n,K n∧∀w,(Instr.sliceBound v hi c).run P w= .ok n w:=by
 unfold boundI at h
 split at h
 · obtain⟨h1,h2,h3⟩:=h
   refine⟨_,h3,fun w=>?_⟩
   simp [Instr.sliceBound,asIntOf,h1,h2]
 · exact h.elim
theorem boundsI_sound {P:Program} {s:Bool} {n c:Nat} {lo hi mx:Option Value} {K:Nat→Nat→Nat→Prop} (h:boundsI n c lo hi mx K):
 ∃l h m,K l h m∧∀w,(Instr.sliceBounds s n c lo hi mx).run P w= .ok (l,h,m) w:=by
 unfold boundsI at h
 split at h
 · split at h
   · exact⟨_,_,_,h,fun w=>by simp [Instr.sliceBounds]⟩
   · obtain⟨l,hk,hl⟩:=boundI_sound (P:=P) (c:= .sliceB) h
     exact⟨_,_,_,hk,fun w=>by simp [Instr.sliceBounds,hl]⟩
   · obtain⟨l,hk,hl⟩:=boundI_sound (P:=P) (c:=if s then .sliceAcap else .sliceAlen) h
     exact⟨_,_,_,hk,fun w=>by simp [Instr.sliceBounds,hl]⟩
   · obtain⟨h1,hk,hl⟩:=boundI_sound (P:=P) (c:=if s then .sliceAcap else .sliceAlen) h
     obtain⟨l1,hk,hl'⟩:=boundI_sound (P:=P) (c:= .sliceB) hk
     exact⟨_,_,_,hk,fun w=>by simp [Instr.sliceBounds,hl,hl']⟩
 · split at h
   · obtain⟨m1,hk,hm⟩:=boundI_sound (P:=P) (c:=if s then .slice3Acap else .slice3Alen) h
     obtain⟨h1,hk,hl⟩:=boundI_sound (P:=P) (c:= .slice3B) hk
     exact⟨_,_,_,hk,fun w=>by simp [Instr.sliceBounds,hm,hl]⟩
   · obtain⟨m1,hk,hm⟩:=boundI_sound (P:=P) (c:=if s then .slice3Acap else .slice3Alen) h
     obtain⟨h1,hk,hl⟩:=boundI_sound (P:=P) (c:= .slice3B) hk
     obtain⟨l1,hk,hl'⟩:=boundI_sound (P:=P) (c:= .slice3C) hk
     exact⟨_,_,_,hk,fun w=>by simp [Instr.sliceBounds,hm,hl,hl']⟩
   · exact h.elim
def mapA {α β:Type} (f:α→β) (a:Array α):Array β:=(a.toList.map f).toArray
theorem mapA_eq {α β:Type} (f:α→β) (a:Array α):mapA f a=a.map f:=by apply Array.ext';simp [mapA]
def partsOf (ρ:Operand→Value) (parts:Array (Nat×Operand)):List (Nat×Value):=parts.toList.map fun p=>(p.1,ρ p.2)
def structPlace (T:Nat→TI) (fs:List (Nat×Nat)) (i:Nat):Option (Nat×Nat):=
 match fs[i]? with
 |some (o,t)=>some (o,(T t).size)
 |none=>none
def structTyped (T:Nat→TI) (fs:List (Nat×Nat)):Bool:=fs.all fun g=>!isNoneD (T g.2).d&& !isTupD (T g.2).d
def onSome {α:Type} (o:Option α) (K:α→Prop):Prop:=match o with|some x=>K x|none=>False
theorem onSome.elim {α:Type} {o:Option α} {K:α→Prop} (h:onSome o K):∃x,o=some x∧K x:=by
 cases o with
 |none=>exact False.elim h
 |some x=>exact⟨x,rfl,h⟩
def lenV (T:Nat→TI) (t:Nat) (v:Value) (K:Value→Prop):Prop:=
 match (T t).d,v with
 | .str,.string s=>K (.int .i64 s.size)
 | .slice _,.slice _ n _=>K (.int .i64 n)
 | .arr n _,_=>K (.int .i64 n)
 |_,_=>False
def min2V (x y:Value) (K:Value→Prop):Prop:=
 match x,y with
 | .int k a,.int _ b=>K (.int k (if b<a then b else a))
 |_,_=>False
def max2V (x y:Value) (K:Value→Prop):Prop:=
 match x,y with
 | .int k a,.int _ b=>K (.int k (if b>a then b else a))
 |_,_=>False
def hasTy:D→Bool
 | .none| .tup _| .ifc=>false
 |_=>true
def pv (P:Program) (T:Nat→TI) (ρ:Operand→Value) (op:Op) (K:Value→Prop):Prop:=
 match op with
 | .move x=>K (ρ x)
 | .assign x=>K (ρ x)
 | .pick c a b=>
   match ρ c with
   | .bool c=>
     match ρ a,ρ b with
     | .bool x,.bool y=>K (.bool (cond c x y))
     |x,y=>cond c (K x) (K y)
   |_=>False
 | .nilCheck x=>
   match ρ x with
   | .pointer a=>OSome a fun p=>K (.pointer (some p))
   | .func (.func f) a b=>K (.func (.func f) a b)
   | .iface t v=>K (.iface t v)
   |_=>False
 | .unOp op _ x=>
   match op,ρ x with
   | .neg,.int k n=>K (.int k (k.wrap (0-n)))
   | .not,.bool b=>K (.bool (!b))
   |_,_=>False
 | .binOp op t x y _=>bin P T op t (ρ x) (ρ y) K
 | .convert src dst x=>
   match (T src).d,(T dst).d,ρ x with
   | .int _,.int k,.int _ n=>K (.int k (k.wrap n))
   | .str,.str,.string s=>K (.string s)
   |_,_,_=>False
 | .fieldAddr s x f=>
   match (T s).d,ρ x with
   | .struct fs,.pointer (some p)=>onSome fs[f]? fun g=>K (.pointer (some (p.add g.1)))
   |_,_=>False
 | .field t x f=>
   match (T t).d,ρ x with
   | .struct fs,.agg cs=>onSome fs[f]? fun g=>cond (hasTy (T g.2).d) (cond (isAggD (T g.2).d) (K (.agg ((cs.toList.drop g.1).take (T g.2).size).toArray)) (onSome cs.toList[g.1]? K)) False
   |_,_=>False
 | .build t parts=>
   match (T t).d with
   | .struct fs=>cond (structTyped T fs) (onSome (fillL (structPlace T fs) ((T t).fl.map B.zero) (partsOf ρ parts)) fun cs=>K (.agg cs.toArray)) False
   | .arr _ e=>cond (hasTy (T e).d) (onSome (fillL (fun i=>some (i*(T e).size,(T e).size)) ((T t).fl.map B.zero) (partsOf ρ parts)) fun cs=>K (.agg cs.toArray)) False
   |_=>False
 | .extract x i=>
   match ρ x with
   | .tuple vs=>onSome vs.toList[i]? K
   |_=>False
 | .makeInterface t x=>cond (hasTy (T t).d) (K (.iface t (ρ x))) False
 | .makeFunc fn first captured=>K (.func fn (mapA ρ first) (mapA ρ captured))
 | .indexAddr t x i=>
   match (T t).d,ρ x,ρ i with
   | .slice e,.slice a n _,.int _ i=>0≤i∧i<(n:Int)∧cond (hasTy (T e).d||(match (T e).d with| .ifc=>true|_=>false)) (OSome a fun p=>K (.pointer (some (p.add (i.toNat*(T e).size))))) False
   | .arr n e,.pointer (some p),.int _ i=>0≤i∧i<(n:Int)∧cond (hasTy (T e).d) (K (.pointer (some (p.add (i.toNat*(T e).size))))) False
   |_,_,_=>False
 | .index t x i=>
   match (T t).d,ρ x,ρ i with
   | .str,.string s,.int _ i=>0≤i∧∃b:UInt8,s[i.toNat]? =some b∧K (.int .u8 (b.toNat:Nat))
   | .arr n e,.agg cs,.int _ i=>0≤i∧i<(n:Int)∧cond (hasTy (T e).d&& !isAggD (T e).d) (ExV (T e) fun v=>cs.toList[i.toNat*(T e).size]? =some v∧K v) False
   |_,_,_=>False
 | .slice t x lo hi mx=>
   match (T t).d,ρ x with
   | .str,.string s=>
     match mx with
     |none=>boundsI s.size s.size (lo.map ρ) (hi.map ρ) none fun l h _=>K (.string (s.extract l h))
     |some _=>False
   | .slice e,.slice a n c=>cond (hasTy (T e).d||(match (T e).d with| .ifc=>true|_=>false)) (boundsI n c (lo.map ρ) (hi.map ρ) (mx.map ρ) fun l h m=>K (.slice (sA a (T e).size l m) (h-l) (m-l))) False
   | .arr n e,.pointer (some p)=>cond (hasTy (T e).d) (boundsI n n (lo.map ρ) (hi.map ρ) (mx.map ρ) fun l h m=>K (.slice (sA (some p) (T e).size l m) (h-l) (m-l))) False
   |_,_=>False
 | .typeAssert x _ t ok=>cond (hasTy (T t).d) (ExV (T t) fun u=>ρ x= .iface t u∧K (cond ok (.tuple #[u,.bool true]) u)) False
 | .call c=>
   match c.callee with
   | .builtin b=>
     match b,c.args.toList,c.argTypes.toList with
     | .len,[x],[t]=>lenV T t (ρ x) K
     | .min,[x,y],_=>min2V (ρ x) (ρ y) K
     | .max,[x,y],_=>max2V (ρ x) (ρ y) K
     |_,_,_=>False
   |_=>False
 |_=>False
def isPure:Op→Bool
 | .move _| .assign _| .pick .. | .nilCheck _| .unOp .. | .binOp .. | .fieldAddr .. | .field .. | .build .. | .extract .. | .makeInterface .. | .makeFunc .. | .indexAddr .. | .index .. | .slice .. | .typeAssert .. =>true
 | .convert .. =>true
 | .call c=>match c.callee with
   | .builtin b=>match b with| .len| .min| .max=>true|_=>false
   |_=>false
 |_=>false
end Go.Proofs.VC
namespace Go.Proofs.VC
open Go
section
variable {P:Program} {T:Nat→TI} {fok:Nat→Bool}
theorem hasTy_none {d:D} (h:hasTy d=true):isNoneD d=false∧isTupD d=false:=by cases d<;>simp_all [hasTy,isNoneD,isTupD]
theorem run_typeInfo {t:Nat} {i:TypeInfo} (h:P.info? t=some i) (w:World):(typeInfo t).run P w= .ok i w:=by
 simp [typeInfo,h]
theorem Tab.run_sizeOf (H:Tab P T fok) {t:Nat} (h:isNoneD (T t).d=false) (h2:isTupD (T t).d=false) (w:World):(Go.sizeOf t).run P w= .ok (T t).size w:=by
 obtain⟨i,hi,hs,_⟩:=H.desc h h2
 simp [Go.sizeOf,run_typeInfo hi,hs]
theorem Tab.run_zero (H:Tab P T fok) {t:Nat} (h:isNoneD (T t).d=false) (h2:isTupD (T t).d=false):
 ∃z:Value,z.cells=((T t).fl.map B.zero).toArray∧((∃c,z= .agg c)↔isAggD (T t).d=true)∧∀w,(zeroValue t).run P w= .ok z w:=by
 obtain⟨i,hi,_,_,_,_,z,hz,hc,ha⟩:=H.desc h h2
 refine⟨z,?_,?_,fun w=>by simp [zeroValue,run_typeInfo hi,hz]⟩
 · rw [←hc]
 · rw [←ha];cases z<;>simp
theorem Tab.run_isAgg (H:Tab P T fok) {t:Nat} (h:isNoneD (T t).d=false) (h2:isTupD (T t).d=false) (w:World):(Go.isAgg t).run P w= .ok (isAggD (T t).d) w:=by
 obtain⟨i,hi,_,_,_,hd,_⟩:=H.desc h h2
 cases hu:P.underlying t with
 |none=>cases hdd:(T t).d<;>simp_all [descOk,isNoneD,isTupD]
 |some d=>
  simp only [Go.isAgg,Sem.run_bind,run_underlying P t d hu,Result.andThen]
  cases hdd:(T t).d<;>cases d<;>simp_all [descOk,isNoneD,isTupD,isAggD]
theorem Tab.size_one (H:Tab P T fok) {t:Nat} (h:isNoneD (T t).d=false) (h2:isTupD (T t).d=false):(T t).fl.length=(T t).size:=by
 obtain⟨i,hi,_,_,hl,_⟩:=H.desc h h2
 exact hl
theorem run_part_agg {t off n:Nat} {cs:Array Value} (h1:∀w,(Go.isAgg t).run P w= .ok true w) (h2:∀w,(Go.sizeOf t).run P w= .ok n w) (w:World):
 (part t cs off).run P w= .ok (.agg (cs.extract off (off+n))) w:=by
 simp [part,h1,h2]
theorem run_part_one {t off:Nat} {cs:Array Value} {v:Value} (h1:∀w,(Go.isAgg t).run P w= .ok false w) (h2:cs[off]? =some v) (w:World):
 (part t cs off).run P w= .ok v w:=by
 simp [part,h1,h2]
theorem fieldsOk_spec:∀ {ff:List Field} {fs:List (Nat×Nat)},fieldsOk P ff fs=true→ff.length=fs.length∧∀(i:Nat) (g:Nat×Nat),fs[i]? =some g→∃f:Field,ff[i]? =some f∧f.offset=g.1∧f.type=g.2∧P.cellsOf f.type≠0
 | [],[],_=>⟨rfl,fun i g h=>by simp at h⟩
 |f::ff,(o,t)::fs,h=>by
  simp only [fieldsOk,Bool.and_eq_true,beq_iff_eq,bne_iff_ne]at h
  obtain⟨⟨⟨h1,h2⟩,h3⟩,h4⟩:=h
  obtain⟨hl,hs⟩:=fieldsOk_spec h4
  refine⟨by simp [hl],fun i g hg=>?_⟩
  cases i with
  |zero=>
   simp at hg
   subst hg
   exact⟨f,by simp,h1,h2,by rw [h2];exact h3⟩
  |succ i=>simpa using hs i g (by simpa using hg)
 | [],_::_,h=>by simp [fieldsOk]at h
 |_::_,[],h=>by simp [fieldsOk]at h
theorem run_fieldPlace {a:Addr} {f:Field} (h:P.cellsOf f.type≠0) (w:World):(fieldPlace a f).run P w= .ok (a.add f.offset) w:=by
 unfold Program.cellsOf at h
 cases hi:P.info? f.type with
 |none=>simp [hi]at h
 |some i=>
  simp only [hi,Option.map_some,Option.getD_some]at h
  simp [fieldPlace,Go.sizeOf,run_typeInfo hi,h]
theorem run_places (H:Tab P T fok):∀(ff:List Field) (fs:List (Nat×Nat)),fieldsOk P ff fs=true→(∀g∈fs,isNoneD (T g.2).d=false∧isTupD (T g.2).d=false)→∀w,
 (ff.mapM (m:=Sem) (fun f=>do pure (f.offset,←Go.sizeOf f.type))).run P w= .ok (fs.map fun g=>(g.1,(T g.2).size)) w
 | [],[],_,_,w=>rfl
 |f::ff,(o,t)::fs,h,h2,w=>by
  simp only [fieldsOk,Bool.and_eq_true,beq_iff_eq,bne_iff_ne]at h
  obtain⟨⟨⟨e1,e2⟩,_⟩,h4⟩:=h
  have ht:=h2 (o,t) (by simp)
  have ih:=run_places H ff fs h4 (fun g hg=>h2 g (by simp [hg])) w
  subst e1 e2
  simp only [List.mapM_cons,Sem.run_bind,H.run_sizeOf ht.1 ht.2,Result.andThen,Sem.run_pure,ih,List.map_cons]
 | [],_::_,h,_,_=>by simp [fieldsOk]at h
 |_::_,[],h,_,_=>by simp [fieldsOk]at h
theorem vrun {s:Sem Value} {v:Value} {w w':World} (h:s.run P w= .ok v w'):(do pure (Next.value (←s)):Sem Next).run P w= .ok (.value v) w':=by
 rw [Sem.run_bind,h];rfl
theorem structTyped_spec {fs:List (Nat×Nat)} (h:structTyped T fs=true):∀g∈fs,isNoneD (T g.2).d=false∧isTupD (T g.2).d=false:=by
 intro g hg
 have:=List.all_eq_true.1 h g hg
 simpa using this
theorem iface_or {d:D} (h:(hasTy d||(match d with| .ifc=>true|_=>false))=true):isNoneD d=false∧isTupD d=false:=by
 cases d<;>simp_all [hasTy,isNoneD,isTupD]
theorem build_sound (H:Tab P T fok) {t:Nat} {parts:Array (Nat×Operand)} {ρ:Operand→Value} {K:Value→Prop} (h:pv P T ρ (.build t parts) K):
 Pur P (Instr.build t (parts.map fun(i,x)=>(i,ρ x))) K:=by
 have hp:(parts.map fun(x:Nat×Operand)=>(x.1,ρ x.2)).toList=partsOf ρ parts:=by simp [partsOf]
 simp only [pv]at h
 split at h
 · rename_i fs hd
   obtain⟨h1,h2⟩:=cond_true h
   obtain⟨cs,hf,hk⟩:=onSome.elim h2
   obtain⟨ff,hu,hff⟩:=H.isStruct hd
   obtain⟨z,hz,_,hzr⟩:=H.run_zero (t:=t) (by rw [hd];rfl) (by rw [hd];rfl)
   refine⟨_,hk,fun w=>?_⟩
   have hpl:(ff.mapM (m:=Sem) (fun f=>do pure (f.offset,←Go.sizeOf f.type))).run P w= .ok (fs.map fun g=>(g.1,(T g.2).size)).toArray w:=by
    have:=run_places H ff.toList fs hff (structTyped_spec h1) w
    rw [Array.mapM_eq_mapM_toList,Sem.run_map,this]
    rfl
   have hfill:=fillL_sound _ _ _ _ hf
   have hpe:(fun i=>(fs.map fun g=>(g.1,(T g.2).size)).toArray[i]?)=structPlace T fs:=by
    funext i
    simp only [List.getElem?_toArray,List.getElem?_map,structPlace]
    cases fs[i]? <;>rfl
   simp only [Instr.build,Sem.run_bind,hzr,Result.andThen,run_underlying P t _ hu,hpl,hz,hp,hpe,hfill,Sem.run_pure]
 · rename_i n e hd
   obtain⟨h1,h2⟩:=cond_true h
   obtain⟨cs,hf,hk⟩:=onSome.elim h2
   obtain⟨z,hz,_,hzr⟩:=H.run_zero (t:=t) (by rw [hd];rfl) (by rw [hd];rfl)
   have hfill:=fillL_sound _ _ _ _ hf
   refine⟨_,hk,fun w=>?_⟩
   simp only [Instr.build,Sem.run_bind,hzr,Result.andThen,run_underlying P t _ (H.isArr hd),H.run_sizeOf (hasTy_none h1).1 (hasTy_none h1).2,hz,hp,hfill,Sem.run_pure]
 · exact h.elim
end
end Go.Proofs.VC
namespace Go.Proofs.VC
open Go
section
variable {P:Program} {T:Nat→TI} {fok:Nat→Bool}
def PurN (P:Program) (s:Sem Next) (K:Value→Prop):Prop:=∃v,K v∧∀w,s.run P w= .ok (.value v) w
theorem PurN.of {s:Sem Value} {K:Value→Prop} (h:Pur P s K):PurN P (do pure (Next.value (←s)):Sem Next) K:=by
 obtain⟨v,hk,hr⟩:=h
 exact⟨v,hk,fun w=>vrun (hr w)⟩
theorem PurN.pure {v:Value} {K:Value→Prop} (h:K v):PurN P (pure (Next.value v):Sem Next) K:=⟨v,h,fun _=>rfl⟩
theorem Pur.mono {s:Sem Value} {K K':Value→Prop} (h:Pur P s K) (hk:∀v,K v→K' v):Pur P s K':=by
 obtain⟨v,h1,h2⟩:=h;exact⟨v,hk v h1,h2⟩
theorem lenV_sound (H:Tab P T fok) {t ty:Nat} {v:Value} {K:Value→Prop} (h:lenV T t v K):Pur P (Builtin.len_ #[t] ty #[v]) K:=by
 unfold lenV at h
 split at h
 · rename_i s hd;exact⟨_,h,fun w=>by simp [Builtin.len_,run_underlying P t _ (H.isStr hd),goInt]⟩
 · rename_i e a n c hd;exact⟨_,h,fun w=>by simp [Builtin.len_,run_underlying P t _ (H.isSlice hd),goInt]⟩
 · rename_i n e v hd;exact⟨_,h,fun w=>by simp [Builtin.len_,run_underlying P t _ (H.isArr hd),goInt]⟩
 · exact h.elim
theorem min2V_sound {ats:Array TypeId} {ty:Nat} {x y:Value} {K:Value→Prop} (h:min2V x y K):Pur P (Builtin.min_ ats ty #[x,y]) K:=by
 unfold min2V at h
 split at h
 · exact⟨_,h,fun w=>by simp [Builtin.min_,Builtin.min2]⟩
 · exact h.elim
theorem max2V_sound {ats:Array TypeId} {ty:Nat} {x y:Value} {K:Value→Prop} (h:max2V x y K):Pur P (Builtin.max_ ats ty #[x,y]) K:=by
 unfold max2V at h
 split at h
 · exact⟨_,h,fun w=>by simp [Builtin.max_,Builtin.max2]⟩
 · exact h.elim
theorem slice_sound (H:Tab P T fok) {t:Nat} {ρ:Operand→Value} {x:Operand} {lo hi mx:Option Operand} {K:Value→Prop} (h:pv P T ρ (.slice t x lo hi mx) K):
 Pur P (Instr.sliceAt t (ρ x) (lo.map ρ) (hi.map ρ) (mx.map ρ)) K:=by
 simp only [pv]at h
 split at h
 · rename_i s hd hx
   split at h
   · obtain⟨l,h1,m,hk,hr⟩:=boundsI_sound (P:=P) (s:=false) h
     refine⟨_,hk,fun w=>?_⟩
     simp [Instr.sliceAt,Instr.slice,run_underlying P t _ (H.isStr hd),hx,hr]
   · exact h.elim
 · rename_i e a n c hd hx
   obtain⟨hc,h⟩:=cond_true h
   obtain⟨l,h1,m,hk,hr⟩:=boundsI_sound (P:=P) (s:=true) h
   refine⟨_,hk,fun w=>?_⟩
   simp [Instr.sliceAt,Instr.slice,run_underlying P t _ (H.isSlice hd),hx,hr,H.run_sizeOf (iface_or hc).1 (iface_or hc).2,sA]
 · rename_i n e p hd hx
   obtain⟨hc,h⟩:=cond_true h
   obtain⟨l,h1,m,hk,hr⟩:=boundsI_sound (P:=P) (s:=false) h
   refine⟨_,hk,fun w=>?_⟩
   have e1:∀(q:Prop) [Decidable q] (x y:Addr),some (if q then x else y)=if q then some x else some y:=by intros;split<;>rfl
   simp [Instr.sliceAt,Instr.sureAddr,run_underlying P t _ (H.isArr hd),hx,hr,H.run_sizeOf (hasTy_none hc).1 (hasTy_none hc).2,sA,e1]
 · exact h.elim
theorem index_sound (H:Tab P T fok) {t:Nat} {ρ:Operand→Value} {x i:Operand} {K:Value→Prop} (h:pv P T ρ (.index t x i) K):
 Pur P (Instr.index t (ρ x) (ρ i)) K:=by
 simp only [pv]at h
 split at h
 · rename_i s k i hd hx hi
   obtain⟨h0,b,hb,hk⟩:=h
   refine⟨_,hk,fun w=>?_⟩
   simp [Instr.index,asIntOf,run_underlying P t _ (H.isStr hd),hx,hi,h0,hb]
 · rename_i n e cs k i hd hx hi
   obtain⟨h0,h1,h⟩:=h
   obtain⟨hc,h⟩:=cond_true h
   obtain⟨v,hv,hk⟩:=ExV.elim h
   simp only [Bool.and_eq_true,Bool.not_eq_true']at hc
   have ha:=fun w=>H.run_isAgg (hasTy_none hc.1).1 (hasTy_none hc.1).2 w
   rw [hc.2]at ha
   refine⟨_,hk,fun w=>?_⟩
   simp only [Instr.index,asIntOf,Sem.run_bind,Sem.run_pure,Result.andThen,run_underlying P t _ (H.isArr hd),hx,hi]
   simp only [h0,h1,and_self,if_true,Sem.run_bind,H.run_sizeOf (hasTy_none hc.1).1 (hasTy_none hc.1).2,Result.andThen]
   exact run_part_one ha (by simpa using hv) w
 · exact h.elim
theorem indexAddr_sound (H:Tab P T fok) {t:Nat} {ρ:Operand→Value} {x i:Operand} {K:Value→Prop} (h:pv P T ρ (.indexAddr t x i) K):
 Pur P (Instr.indexAt t (ρ x) (ρ i)) K:=by
 simp only [pv]at h
 split at h
 · rename_i e a n c k i hd hx hi
   obtain⟨h0,h1,h⟩:=h
   obtain⟨hc,h⟩:=cond_true h
   obtain⟨p,hp,hk⟩:=h
   refine⟨_,hk,fun w=>?_⟩
   simp [Instr.indexAt,asIntOf,run_underlying P t _ (H.isSlice hd),hx,hi,hp,h0,h1,H.run_sizeOf (iface_or hc).1 (iface_or hc).2]
 · rename_i n e p k i hd hx hi
   obtain⟨h0,h1,h⟩:=h
   obtain⟨hc,hk⟩:=cond_true h
   refine⟨_,hk,fun w=>?_⟩
   simp [Instr.indexAt,asIntOf,Instr.sureAddr,run_underlying P t _ (H.isArr hd),hx,hi,h0,h1,H.run_sizeOf (hasTy_none hc).1 (hasTy_none hc).2]
 · exact h.elim
theorem typeAssert_sound (H:Tab P T fok) {t xt:Nat} {ρ:Operand→Value} {x:Operand} {ok:Bool} {K:Value→Prop} (h:pv P T ρ (.typeAssert x xt t ok) K):
 Pur P (Instr.typeAssert (ρ x) xt t ok) K:=by
 simp only [pv]at h
 obtain⟨hc,h⟩:=cond_true h
 obtain⟨u,hu,hk⟩:=ExV.elim h
 refine⟨_,hk,fun w=>?_⟩
 obtain⟨i,hi,_,_,_,hd,_⟩:=H.desc (hasTy_none hc).1 (hasTy_none hc).2
 have hund:∃d,P.underlying t=some d∧∀ms,d≠ .interface ms:=by
  cases hdd:(T t).d<;>rw [hdd]at hd hc<;>simp [hasTy]at hc<;>simp only [descOk]at hd<;>split at hd<;>simp_all
 obtain⟨d,hd1,hd2⟩:=hund
 rw [hu]
 cases d<;>first
  |exact absurd rfl (hd2 _)
  |(simp only [Instr.typeAssert,Sem.run_bind,run_underlying P t _ hd1,Result.andThen];cases ok<;>simp)
theorem pv_sound (H:Tab P T fok) (o:Oper) (ρ:Operand→Value) (K:Value→Prop) (h:pv P T ρ o.op K):PurN P (execOp ρ o) K:=by
 obtain⟨dst,op,ty,pos,after,guard⟩:=o
 change pv P T ρ op K at h
 cases op
 case move x=>exact .pure h
 case assign x=>exact .pure h
 case pick c a b=>
  simp only [pv]at h
  split at h
  · rename_i c hc
    have key:(cond c (K (ρ a)) (K (ρ b)))→PurN P (execOp ρ ⟨dst,.pick (.tmp 0) a b,ty,pos,after,guard⟩) K→True:=fun _ _=>trivial
    have hx:K (if c then ρ a else ρ b):=by
     split at h
     · rename_i x y ha hb;rw [ha,hb];cases c<;>simpa using h
     · cases c<;>simpa using h
    refine⟨_,hx,fun w=>?_⟩
    simp only [execOp,hc,Sem.run_bind,asBool,Sem.run_pure,Result.andThen]
  · exact h.elim
 case nilCheck x=>
  simp only [pv]at h
  split at h
  · rename_i a hx
    obtain⟨p,rfl,hk⟩:=h
    refine⟨_,hk,fun w=>?_⟩
    simp only [execOp,hx];rfl
  · rename_i f a b hx
    refine⟨_,h,fun w=>?_⟩
    simp only [execOp,hx];rfl
  · rename_i t v hx
    refine⟨_,h,fun w=>?_⟩
    simp only [execOp,hx];rfl
  · exact h.elim
 case unOp op t x=>
  simp only [pv]at h
  split at h
  · rename_i k n hx
    refine PurN.of ⟨_,h,fun w=>?_⟩
    simp [Op.unary,hx,Op.intArith]
  · rename_i b hx
    refine PurN.of ⟨_,h,fun w=>?_⟩
    simp [Op.unary,hx]
  · exact h.elim
 case binOp op t x y yt=>exact PurN.of (bin_sound H h)
 case convert src dst x=>
  simp only [pv]at h
  split at h
  · rename_i k k' k2 n hs hd hx
    refine PurN.of ⟨_,h,fun w=>?_⟩
    simp [convert,run_underlying P _ _ (H.isInt hs),run_underlying P _ _ (H.isInt hd),hx,Conv.intToInt]
  · rename_i s hs hd hx
    refine PurN.of ⟨_,h,fun w=>?_⟩
    simp [convert,run_underlying P _ _ (H.isStr hs),run_underlying P _ _ (H.isStr hd),hx]
  · exact h.elim
 case fieldAddr s x f=>
  simp only [pv]at h
  split at h
  · rename_i fs p hd hx
    obtain⟨g,hg,hk⟩:=onSome.elim h
    obtain⟨ff,hu,hff⟩:=H.isStruct hd
    obtain⟨fl,hf1,hf2,hf3,hf4⟩:=(fieldsOk_spec hff).2 f g hg
    have hf1':ff[f]? =some fl:=by simpa using hf1
    refine PurN.of ⟨_,hk,fun w=>?_⟩
    simp [Instr.fieldAt,run_underlying P _ _ hu,hf1',hx,Instr.sureAddr,run_fieldPlace hf4,hf2]
  · exact h.elim
 case field t x f=>
  simp only [pv]at h
  split at h
  · rename_i fs cs hd hx
    obtain⟨g,hg,hk⟩:=onSome.elim h
    obtain⟨hc,hk⟩:=cond_true hk
    obtain⟨ff,hu,hff⟩:=H.isStruct hd
    obtain⟨fl,hf1,hf2,hf3,hf4⟩:=(fieldsOk_spec hff).2 f g hg
    have hf1':ff[f]? =some fl:=by simpa using hf1
    have hrun:∀w,(Instr.field t (ρ x) f).run P w=(part g.2 cs g.1).run P w:=fun w=>by
     simp [Instr.field,run_underlying P _ _ hu,hf1',hx,asAgg,hf2,hf3]
    cases ha:isAggD (T g.2).d with
    |true=>
     rw [ha]at hk
     have hag:=fun w=>H.run_isAgg (hasTy_none hc).1 (hasTy_none hc).2 w
     rw [ha]at hag
     refine PurN.of ⟨_,hk,fun w=>?_⟩
     rw [hrun,run_part_agg hag (fun w=>H.run_sizeOf (hasTy_none hc).1 (hasTy_none hc).2 w)]
     congr 2
     apply Array.ext'
     simp [List.extract_eq_take_drop]
    |false=>
     rw [ha]at hk
     obtain⟨v,hv,hk⟩:=onSome.elim hk
     have hag:=fun w=>H.run_isAgg (hasTy_none hc).1 (hasTy_none hc).2 w
     rw [ha]at hag
     refine PurN.of ⟨_,hk,fun w=>?_⟩
     rw [hrun,run_part_one hag (by simpa using hv)]
  · exact h.elim
 case build t parts=>exact PurN.of (build_sound H h)
 case extract x i=>
  simp only [pv]at h
  split at h
  · rename_i vs hx
    obtain⟨v,hv,hk⟩:=onSome.elim h
    refine PurN.of ⟨_,hk,fun w=>?_⟩
    have hv':vs[i]? =some v:=by simpa using hv
    simp [Instr.extract,hx,hv']
  · exact h.elim
 case makeInterface t x=>
  simp only [pv]at h
  obtain⟨hc,hk⟩:=cond_true h
  obtain⟨i,hi,_,_,_,hd,_⟩:=H.desc (hasTy_none hc).1 (hasTy_none hc).2
  have hund:∃d,P.underlying t=some d∧∀ms,d≠ .interface ms:=by
   cases hdd:(T t).d<;>rw [hdd]at hd hc<;>simp [hasTy]at hc<;>simp only [descOk]at hd<;>split at hd<;>simp_all
  obtain⟨d,hd1,hd2⟩:=hund
  refine PurN.of ⟨_,hk,fun w=>?_⟩
  cases d<;>first
   |exact absurd rfl (hd2 _)
   |simp [Instr.makeInterface,run_underlying P t _ hd1]
 case makeFunc fn first captured=>
  simp only [pv,mapA_eq]at h
  exact PurN.of ⟨_,h,fun w=>rfl⟩
 case indexAddr t x i=>exact PurN.of (indexAddr_sound H h)
 case index t x i=>exact PurN.of (index_sound H h)
 case slice t x lo hi mx=>exact PurN.of (slice_sound H h)
 case typeAssert x xt t ok=>exact PurN.of (typeAssert_sound H h)
 case call c=>
  obtain⟨callee,args,ats⟩:=c
  simp only [pv]at h
  split at h
  · rename_i _ b
    have hrun:∀w,(execOp ρ ⟨dst,.call ⟨.builtin b,args,ats⟩,ty,pos,after,guard⟩).run P w=
     (builtin b ats ty (args.map fun| .const _=>true|_=>false) (args.map ρ)).run P w:=fun w=>rfl
    split at h
    · rename_i x t ha ht
      have ha':args= #[x]:=by simpa using congrArg List.toArray ha
      have ht':ats= #[t]:=by simpa using congrArg List.toArray ht
      subst ha' ht'
      obtain⟨v,hk,hr⟩:=lenV_sound (P:=P) H (ty:=ty) h
      refine⟨v,hk,fun w=>?_⟩
      rw [hrun]
      exact vrun (by simpa using hr w)
    · rename_i x y ha
      have ha':args= #[x,y]:=by simpa using congrArg List.toArray ha
      subst ha'
      obtain⟨v,hk,hr⟩:=min2V_sound (P:=P) (ats:=ats) (ty:=ty) h
      refine⟨v,hk,fun w=>?_⟩
      rw [hrun]
      exact vrun (by simpa using hr w)
    · rename_i x y ha
      have ha':args= #[x,y]:=by simpa using congrArg List.toArray ha
      subst ha'
      obtain⟨v,hk,hr⟩:=max2V_sound (P:=P) (ats:=ats) (ty:=ty) h
      refine⟨v,hk,fun w=>?_⟩
      rw [hrun]
      exact vrun (by simpa using hr w)
    · exact h.elim
  · exact h.elim
 all_goals exact False.elim h
end
end Go.Proofs.VC
namespace Go.Proofs.VC
open Go
section
variable {P:Program} {T:Nat→TI} {fok:Nat→Bool}
def typed (d:D):Bool:= !isNoneD d&& !isTupD d
theorem typed_spec {d:D} (h:typed d=true):isNoneD d=false∧isTupD d=false:=by simpa [typed]using h
def LdL (w:World) (p:Addr):Nat→List Value→Prop
 |_,[]=>True
 |i,c::cs=>w.cell? (p.add i)=some c∧LdL w p (i+1) cs
theorem LdL_spec {w:World} {p:Addr}:∀ {cs:List Value} {i:Nat},LdL w p i cs→∀j v,cs[j]? =some v→w.cell? (p.add (i+j))=some v
 | [],_,_,j,v,h=>by simp at h
 |c::cs,i,hl,0,v,h=>by simp at h;subst h;exact hl.1
 |c::cs,i,hl,j+1,v,h=>by
  have:=LdL_spec hl.2 j v (by simpa using h)
  rwa [show i+(j+1)=i+1+j by omega]
def Sto (w:World) (p:Addr) (v:Value) (K:World→Prop):Prop:=
 (∃o,w.cell? p=some o)∧w.frozen? p=false∧∀w',w'=w.setCell p v→K w'
def StoL (p:Addr):Nat→List Value→World→(World→Prop)→Prop
 |_,[],w,K=>K w
 |i,c::cs,w,K=>cond c.oneCell' (Sto w (p.add i) c fun w'=>StoL p (i+1) cs w' K) False
theorem StoL_sound {p:Addr}:∀ {cs:List Value} {i:Nat} {w:World} {K:World→Prop},StoL p i cs w K→∃w',K w'∧(storeCells p cs i).run P w= .ok () w'
 | [],i,w,K,h=>⟨w,h,rfl⟩
 |c::cs,i,w,K,h=>by
  obtain⟨h1,h⟩:=cond_true h
  obtain⟨⟨o,ho⟩,hf,hk⟩:=h
  obtain⟨w',hk',hr⟩:=StoL_sound (hk _ rfl)
  refine⟨w',hk',?_⟩
  rw [storeCells,Sem.run_bind,run_store P w _ c _ h1,ho]
  simp only [hf]
  exact hr
def Exec (P:Program) (s:Sem Next) (w:World) (N:Value→World→Prop):Prop:=
 match s.run P w with
 | .ok (.value v) w'=>N v w'
 | .ok .skip w'=>N undef w'
 | .ok (.enter f args) w'=>Calls P f args w' fun e w''=>∃v,e= .returned v∧N v w''
 |_=>False
theorem Exec.of_value {s:Sem Next} {w w':World} {v:Value} {N:Value→World→Prop} (h:s.run P w= .ok (.value v) w') (hn:N v w'):Exec P s w N:=by
 unfold Exec;rw [h];exact hn
theorem Exec.mono {s:Sem Next} {w:World} {N N':Value→World→Prop} (h:Exec P s w N) (hn:∀v w,N v w→N' v w):Exec P s w N':=by
 unfold Exec at*
 split at h
 · exact hn _ _ h
 · exact hn _ _ h
 · exact h.mono fun e w' ⟨v,he,h⟩=>⟨v,he,hn _ _ h⟩
 · exact h.elim
def mkCells (T:Nat→TI) (e n:Nat):Array Value:=((List.range (n*(T e).size)).map fun i=>(((T e).fl.map B.zero)[i%((T e).fl.map B.zero).length]?).getD default).toArray
theorem mkCells_eq' (T:Nat→TI) (e n:Nat):mkCells T e n=(Array.range (n*(T e).size)).map fun i=>(((T e).fl.map B.zero).toArray)[i%(((T e).fl.map B.zero).toArray).size]! :=by
 apply Array.ext'
 simp [mkCells]
def maxMake:Nat:=281474976710656
def FnCall (P:Program) (fok:Nat→Bool) (v:Value) (args:Array Value) (w:World) (R:Ending→World→Prop):Prop:=
 ∃g first captured,v= .func (.func g) first captured∧fok g=true∧Calls P g (first.toList++args.toList++captured.toList).toArray w R
def RawCall (P:Program) (fok:Nat→Bool) (v:Value) (args:Array Value) (w:World) (R:Ending→World→Prop):Prop:=
 match v with
 | .func (.func g) first captured=>cond (fok g) (Calls P g (first.toList++args.toList++captured.toList).toArray w R) False
 |v=>FnCall P fok v args w R
theorem RawCall.elim {P:Program} {fok:Nat→Bool} {v:Value} {args:Array Value} {w:World} {R:Ending→World→Prop} (h:RawCall P fok v args w R):FnCall P fok v args w R:=by
 unfold RawCall at h
 split at h
 · obtain⟨hg,hc⟩:=cond_true h
   exact⟨_,_,_,rfl,hg,hc⟩
 · exact h
def InvCall (P:Program) (fok:Nat→Bool) (v:Value) (name:String) (args:Array Value) (w:World) (R:Ending→World→Prop):Prop:=
 ∃t x g r,v= .iface t x∧(method (P.types.size+Made.depth) t x name).run P w= .ok (g,r) w∧fok g=true∧Calls P g (r::args.toList).toArray w R
def isMapD:D→Bool| .map=>true|_=>false
def if' (c:Bool) (A B:Prop):Prop:=cond c A B
theorem if'.elim {c:Bool} {A B:Prop} (h:if' c A B):A∨B:=by cases c with|true=>exact .inl h|false=>exact .inr h
def Ret (T:Nat→TI) (ty:Nat) (K:Value→World→Prop) (e:Ending) (w:World):Prop:=ExR T ty fun v=>e= .returned v∧K v w
def wv (P:Program) (T:Nat→TI) (fok:Nat→Bool) (ρ:Operand→Value) (ty:Nat) (op:Op) (w:World) (K:Value→World→Prop):Prop:=
 match op with
 | .load t a=>
   match ρ a with
   | .pointer (some p)=>
     cond (typed (T t).d)
      (cond (isAggD (T t).d) (ExL (T t).fl fun cs=>LdL w p 0 cs∧K (.agg cs.toArray) w) (ExV (T t) fun v=>w.cell? p=some v∧K v w)) False
   |_=>False
 | .store t a x=>
   match ρ a with
   | .pointer (some p)=>cond (typed (T t).d&&(ρ x).cells.size==(T t).size) (StoL p 0 (ρ x).cells.toList w fun w'=>K undef w') False
   |_=>False
 | .alloc t=>cond (typed (T t).d) (∀w' b,w'=w.alloc (.cells ((T t).fl.map B.zero).toArray t)→b=w.heap.size→K (.pointer (some ⟨b,0,none⟩)) w') False
 | .box t x=>∀w' b,w'=w.alloc (.cells (ρ x).cells t)→b=w.heap.size→K (.pointer (some ⟨b,0,none⟩)) w'
 | .buildSlice t n parts=>
   match (T t).d with
   | .slice e=>cond (typed (T e).d&&Nat.ble (n*(T e).size) 16777216)
    (onSome (fillL (fun i=>some (i*(T e).size,(T e).size)) (mkCells T e n).toList (partsOf ρ parts)) fun cs=>
     ∀w' b,w'=w.alloc (.cells cs.toArray e)→b=w.heap.size→K (.slice (some ⟨b,0,none⟩) n n) w') False
   |_=>False
 | .makeSlice t l c=>
   match (T t).d,ρ l,ρ c with
   | .slice e,.int _ l,.int _ c=>cond (typed (T e).d&&Nat.ble 1 (T e).bytes)
    (0≤l∧l≤c∧((T e).bytes:Int)*c≤(maxMake:Nat)∧∀w' b,w'=w.alloc (.cells (mkCells T e c.toNat) e)→b=w.heap.size→K (.slice (some ⟨b,0,none⟩) l.toNat c.toNat) w') False
   |_,_,_=>False
 | .convert src dst x=>
   match (T src).d,(T dst).d with
   | .slice e,.str=>
     match (T e).d with
     | .int .u8=>∃s,(Conv.bytesToString (ρ x)).run P w= .ok (.string s) w∧K (.string s) w
     |_=>False
   | .str,.slice e=>
     match (T e).d,ρ x with
     | .int .u8,.string s=>∃a n c w',(Conv.stringToBytes e s).run P w= .ok (.slice a n c) w'∧K (.slice a n c) w'
     |_,_=>False
   |_,_=>pv P T ρ (.convert src dst x) fun v=>K v w
 | .lookup t x i ok=>ExR T ty fun v=>(Instr.lookup t (ρ x) (ρ i) ok).run P w= .ok v w∧K v w
 | .mapUpdate t m k x=>∃w',(Instr.mapUpdate t (ρ m) (ρ k) (ρ x)).run P w= .ok () w'∧K undef w'
 | .insert t m k x=>∃w',(Instr.mapUpdate t (ρ m) (ρ k) (ρ x)).run P w= .ok () w'∧K undef w'
 | .makeMap _ none=>∀w' b,w'=w.alloc (.map #[] 0)→b=w.heap.size→K (.map (some b)) w'
 | .range t x=>∃v w',(Instr.range t (ρ x)).run P w= .ok v w'∧K v w'
 | .next it s=>ExR T ty fun v=>∃w',(Instr.next (ρ it) s ty).run P w= .ok v w'∧K v w'
 | .entry it=>∃v,(Instr.entry (ρ it)).run P w= .ok v w∧K v w
 | .call c=>
   match c.callee with
   | .builtin b=>
     match b with
     | .len=>if' (match c.argTypes.toList with| [t]=>isMapD (T t).d|_=>false) (∃n:Int,(Builtin.len_ c.argTypes ty (mapA ρ c.args)).run P w= .ok (.int .i64 n) w∧K (.int .i64 n) w) (pv P T ρ (.call c) fun v=>K v w)
     | .append=>∃a n c1 w',(Builtin.append_ c.argTypes ty (mapA ρ c.args)).run P w= .ok (.slice a n c1) w'∧K (.slice a n c1) w'
     | .copy=>∃n:Int,∃w',(Builtin.copy_ c.argTypes ty (mapA ρ c.args)).run P w= .ok (.int .i64 n) w'∧K (.int .i64 n) w'
     | .unsafeSliceData=>∃a,(Builtin.unsafeSliceData_ c.argTypes ty (mapA ρ c.args)).run P w= .ok (.pointer a) w∧K (.pointer a) w
     | .unsafeString=>∃s w',(Builtin.unsafeString_ c.argTypes ty (mapA ρ c.args)).run P w= .ok (.string s) w'∧K (.string s) w'
     |_=>pv P T ρ (.call c) fun v=>K v w
   | .value f=>RawCall P fok (ρ f) (mapA ρ c.args) w (Ret T ty K)
   | .invoke recv name=>InvCall P fok (ρ recv) name (mapA ρ c.args) w (Ret T ty K)
 |op=>pv P T ρ op fun v=>K v w
theorem Ret.elim {ty:Nat} {K:Value→World→Prop} {e:Ending} {w:World} (h:Ret T ty K e w):∃v,e= .returned v∧K v w:=by
 obtain⟨v,h⟩:=ExR.elim h
 exact⟨v,h⟩
theorem callFunc_run (H:Tab P T fok) {g:Nat} (hg:fok g=true) (args:Array Value) (w:World):(callFunc g args).run P w= .ok (.enter g args) w:=by
 obtain⟨fn,hf,hn,hb⟩:=H.fn g hg
 unfold callFunc
 rw [Sem.run_bind,run_program]
 simp only [Result.andThen,hf]
 rw [hn,hb]
 rfl
theorem wv_pure (H:Tab P T fok) {o:Oper} {ρ:Operand→Value} {w:World} {K:Value→World→Prop} (h:pv P T ρ o.op fun v=>K v w):Exec P (execOp ρ o) w K:=by
 obtain⟨v,hk,hr⟩:=pv_sound H o ρ _ h
 exact Exec.of_value (hr w) hk
theorem wv_sound (H:Tab P T fok) (o:Oper) (ρ:Operand→Value) (w:World) (K:Value→World→Prop) (h:wv P T fok ρ o.type o.op w K):Exec P (execOp ρ o) w K:=by
 obtain⟨dst,op,ty,pos,after,guard⟩:=o
 change wv P T fok ρ ty op w K at h
 cases op
 case load t a=>
  simp only [wv]at h
  split at h
  · rename_i p ha
    obtain⟨ht,h⟩:=cond_true h
    have hag:=H.run_isAgg (typed_spec ht).1 (typed_spec ht).2 w
    have hsz:=H.run_sizeOf (typed_spec ht).1 (typed_spec ht).2 w
    cases hagg:isAggD (T t).d with
    |true=>
     rw [hagg]at h hag
     obtain⟨cs,hl,hld,hk⟩:=ExL.elim h
     have hlen:cs.length=(T t).size:=by rw [hl];exact H.size_one (typed_spec ht).1 (typed_spec ht).2
     have hc:=run_loadCells_list (P:=P) w p cs (fun j v hj=>by simpa using LdL_spec hld j v hj)
     refine Exec.of_value (v:= .agg cs.toArray) (vrun ?_) hk
     simp only [Instr.loadAt,ha,Instr.sureAddr,Sem.run_bind,Sem.run_pure,Result.andThen,loadVar,hag,if_true,hsz,←hlen,hc]
    |false=>
     rw [hagg]at h hag
     replace h:ExV (T t) (fun v=>w.cell? p=some v∧K v w):=h
     obtain⟨v,hv,hk⟩:=ExV.elim h
     refine Exec.of_value (v:=v) (vrun ?_) hk
     simp only [Instr.loadAt,ha,Instr.sureAddr,Sem.run_bind,Sem.run_pure,Result.andThen,loadVar,hag,Bool.false_eq_true,if_false,run_load,hv]
  · exact h.elim
 case store t a x=>
  simp only [wv]at h
  split at h
  · rename_i p ha
    obtain⟨ht,h⟩:=cond_true h
    simp only [Bool.and_eq_true,beq_iff_eq]at ht
    obtain⟨w',hk,hr⟩:=StoL_sound (P:=P) h
    have hsz:=H.run_sizeOf (typed_spec ht.1).1 (typed_spec ht.1).2 w
    have hrun:(Instr.storeAt t (ρ a) (ρ x)).run P w= .ok () w':=by
     simp only [Instr.storeAt,ha,Instr.sureAddr,Sem.run_bind,Sem.run_pure,Result.andThen,storeVar,hsz,ht.2,ne_eq,not_true_eq_false,if_false,hr]
    unfold Exec
    have:(execOp ρ ⟨dst,.store t a x,ty,pos,after,guard⟩).run P w= .ok .skip w':=by
     simp only [execOp,Sem.run_bind,hrun,Result.andThen,Sem.run_pure]
    rw [this];exact hk
  · exact h.elim
 case alloc t=>
  obtain⟨ht,h⟩:=cond_true h
  obtain⟨z,hz,_,hzr⟩:=H.run_zero (typed_spec ht).1 (typed_spec ht).2
  refine Exec.of_value (vrun ?_) (h _ _ rfl rfl)
  simp only [Instr.alloc,Sem.run_bind,hzr,Result.andThen,newVar,newRow,run_newObj,Sem.run_pure,hz]
  rfl
 case box t x=>
  refine Exec.of_value (vrun ?_) (h _ _ rfl rfl)
  simp only [Instr.box,Sem.run_bind,Result.andThen,newVar,newRow,run_newObj,Sem.run_pure]
  rfl
 case buildSlice t n parts=>
  simp only [wv]at h
  split at h
  · rename_i e hd
    obtain⟨ht,h⟩:=cond_true h
    obtain⟨cs,hf,hk⟩:=onSome.elim h
    simp only [Bool.and_eq_true]at ht
    have hle:n*(T e).size≤16777216:=Nat.le_of_ble_eq_true ht.2
    obtain⟨z,hz,_,hzr⟩:=H.run_zero (typed_spec ht.1).1 (typed_spec ht.1).2
    have hsz:=H.run_sizeOf (typed_spec ht.1).1 (typed_spec ht.1).2 w
    have hfill:=fillL_sound _ _ _ _ hf
    have hp:(parts.map fun(x:Nat×Operand)=>(x.1,ρ x.2)).toList=partsOf ρ parts:=by simp [partsOf]
    refine Exec.of_value (vrun ?_) (hk _ _ rfl rfl)
    have h24:¬(n*(T e).size>2^24):=by omega
    have hz2:∀(zz:Array Value),(n*(T e).size≠0→zz=z.cells)→((Array.range (n*(T e).size)).map (zz[· %zz.size]!))=(mkCells T e n).toList.toArray:=by
     intro zz hzz
     by_cases h0:n*(T e).size=0
     · rw [h0];simp [mkCells,h0]
     · rw [hzz h0,hz,mkCells_eq',Array.toArray_toList]
    simp only [Instr.buildSlice,Sem.run_bind,run_underlying P t _ (H.isSlice hd),Result.andThen,hsz,h24,if_false,Sem.run_ite,Sem.run_pure]
    by_cases h0:n*(T e).size=0
    · rw [if_pos h0]
      simp only [hz2 #[] (fun hh=>absurd h0 hh),hp,hfill,newRow,Sem.run_bind,run_newObj,Result.andThen,Sem.run_pure]
      rfl
    · rw [if_neg h0]
      simp only [Sem.run_bind,hzr,Result.andThen,Sem.run_pure,hz2 z.cells (fun _=>rfl),hp,hfill,newRow,run_newObj]
      rfl
  · exact h.elim
 case makeSlice t l c=>
  simp only [wv]at h
  split at h
  · rename_i e k l' k' c' hd hl hc
    obtain⟨ht,h⟩:=cond_true h
    simp only [Bool.and_eq_true]at ht
    obtain⟨h0,h1,h2,hk⟩:=h
    have hb:1≤(T e).bytes:=Nat.le_of_ble_eq_true ht.2
    obtain⟨i,hi,his,hib,_⟩:=H.desc (typed_spec ht.1).1 (typed_spec ht.1).2
    obtain⟨z,hz,_,hzr⟩:=H.run_zero (typed_spec ht.1).1 (typed_spec ht.1).2
    have hc0:0≤c':=Int.le_trans h0 h1
    have hcm:c'≤281474976710656:=by
     have e1:c'≤((T e).bytes:Int)*c':=by
      have:(1:Int)*c'≤((T e).bytes:Int)*c':=Int.mul_le_mul_of_nonneg_right (by omega) hc0
      omega
     have e2:((maxMake:Nat):Int)=281474976710656:=rfl
     omega
    have hwc:IntKind.i64.wrap c'=c':=by simp [IntKind.wrap,IntKind.bits,IntKind.signed];omega
    have hwl:IntKind.i64.wrap l'=l':=by simp [IntKind.wrap,IntKind.bits,IntKind.signed];omega
    have htl:∀q:Int,0≤q→q≤c'→(decide (q<0)||decide ((i.bytes:Int)*q>2^48))=false:=by
     intro q hq0 hq
     have e1:((T e).bytes:Int)*q≤((T e).bytes:Int)*c':=Int.mul_le_mul_of_nonneg_left hq (by omega)
     have e2:((maxMake:Nat):Int)=281474976710656:=rfl
     rw [hib]
     simp only [Bool.or_eq_false_iff,decide_eq_false_iff_not]
     exact⟨by omega,by omega⟩
    refine Exec.of_value (vrun ?_) (hk _ _ rfl rfl)
    simp only [Instr.makeSlice,Sem.run_bind,run_underlying P t _ (H.isSlice hd),Result.andThen,hl,hc,asInt,asIntOf,Sem.run_pure,run_typeInfo hi,hwc,hwl]
    have hcond:¬((decide (c'<0)||decide ((i.bytes:Int)*c'>2^48)||decide (l'<0)||decide (l'>c'))=true):=by
     rw [htl c' hc0 (Int.le_refl _)];simp;omega
    rw [if_neg hcond]
    have hsz:=H.run_sizeOf (typed_spec ht.1).1 (typed_spec ht.1).2
    simp only [run_askRoom,Result.andThen,Sem.run_bind,Sem.run_pure,hsz,Sem.run_ite]
    have hz2:∀(zz:Array Value),(c'.toNat*(T e).size≠0→zz=z.cells)→((Array.range (c'.toNat*(T e).size)).map (zz[· %zz.size]!))=mkCells T e c'.toNat:=by
     intro zz hzz
     by_cases h0:c'.toNat*(T e).size=0
     · rw [h0];simp [mkCells,h0]
     · rw [hzz h0,hz,mkCells_eq']
    by_cases h0:c'.toNat*(T e).size=0
    · rw [if_pos h0]
      simp only [hz2 #[] (fun hh=>absurd h0 hh),newRow,Sem.run_bind,run_newObj,Result.andThen,Sem.run_pure]
      rfl
    · rw [if_neg h0]
      simp only [Sem.run_bind,hzr,Result.andThen,Sem.run_pure,hz2 z.cells (fun _=>rfl),newRow,run_newObj]
      rfl
  · exact h.elim
 case convert src dst' x=>
  simp only [wv]at h
  split at h
  · rename_i e hs hd
    split at h
    · rename_i he
      obtain⟨s,hr,hk⟩:=h
      refine Exec.of_value (vrun ?_) hk
      have hx:∀s0,ρ x≠ .string s0:=fun s0 hx=>by rw [hx]at hr;simp [Conv.bytesToString]at hr
      simp only [convert,Sem.run_bind,run_underlying P src _ (H.isSlice hs),run_underlying P dst' _ (H.isStr hd),Result.andThen]
      cases hv:ρ x<;>first
       |(simp only [Sem.run_bind,run_underlying P e _ (H.isInt he),Result.andThen];rw [hv]at hr;exact hr)
       |(rw [hv]at hr;simp [Conv.bytesToString]at hr)
    · exact h.elim
  · rename_i e hs hd
    split at h
    · rename_i s he hx
      obtain⟨a,n,c,w',hr,hk⟩:=h
      refine Exec.of_value (vrun ?_) hk
      simp only [convert,Sem.run_bind,run_underlying P src _ (H.isStr hs),run_underlying P dst' _ (H.isSlice hd),Result.andThen,hx,run_underlying P e _ (H.isInt he),hr]
    · exact h.elim
  · exact wv_pure H h
 case lookup t x i ok=>
  replace h:ExR T ty (fun v=>(Instr.lookup t (ρ x) (ρ i) ok).run P w= .ok v w∧K v w):=h
  obtain⟨v,hr,hk⟩:=ExR.elim h
  exact Exec.of_value (vrun hr) hk
 case mapUpdate t m k x=>
  obtain⟨w',hr,hk⟩:=h
  unfold Exec
  have:(execOp ρ ⟨dst,.mapUpdate t m k x,ty,pos,after,guard⟩).run P w= .ok .skip w':=by
   simp only [execOp,Sem.run_bind,hr,Result.andThen,Sem.run_pure]
  rw [this];exact hk
 case insert t m k x=>
  obtain⟨w',hr,hk⟩:=h
  unfold Exec
  have:(execOp ρ ⟨dst,.insert t m k x,ty,pos,after,guard⟩).run P w= .ok .skip w':=by
   simp only [execOp,Sem.run_bind,hr,Result.andThen,Sem.run_pure]
  rw [this];exact hk
 case makeMap t r=>
  cases r with
  |none=>
   refine Exec.of_value (vrun ?_) (h _ _ rfl rfl)
   simp only [Instr.makeMap,Option.map_none,Sem.run_bind,run_newObj,Result.andThen,Sem.run_pure]
   rfl
  |some x=>exact False.elim h
 case range t x=>
  obtain⟨v,w',hr,hk⟩:=h
  exact Exec.of_value (vrun hr) hk
 case next it s=>
  replace h:ExR T ty (fun v=>∃w',(Instr.next (ρ it) s ty).run P w= .ok v w'∧K v w'):=h
  obtain⟨v,w',hr,hk⟩:=ExR.elim h
  exact Exec.of_value (vrun hr) hk
 case entry it=>
  obtain⟨v,hr,hk⟩:=h
  exact Exec.of_value (vrun hr) hk
 case call c=>
  obtain⟨callee,args,ats⟩:=c
  simp only [wv]at h
  split at h
  · rename_i b
    split at h
    · rcases if'.elim h with h|h
      · obtain⟨n,hr,hk⟩:=h
        rw [mapA_eq]at hr
        exact Exec.of_value (vrun hr) hk
      · exact wv_pure H h
    · obtain⟨a,n,c1,w',hr,hk⟩:=h
      rw [mapA_eq]at hr
      exact Exec.of_value (vrun hr) hk
    · obtain⟨n,w',hr,hk⟩:=h
      rw [mapA_eq]at hr
      exact Exec.of_value (vrun hr) hk
    · obtain⟨a,hr,hk⟩:=h
      rw [mapA_eq]at hr
      exact Exec.of_value (vrun hr) hk
    · obtain⟨s,w',hr,hk⟩:=h
      rw [mapA_eq]at hr
      exact Exec.of_value (vrun hr) hk
    · exact wv_pure H h
  · rename_i f
    have key:∀g first captured,ρ f= .func (.func g) first captured→fok g=true→Calls P g (first++args.map ρ++captured) w (Ret T ty K)→
     Exec P (execOp ρ ⟨dst,.call ⟨.value f,args,ats⟩,ty,pos,after,guard⟩) w K:=by
     intro g first captured hf hg hc
     have:(execOp ρ ⟨dst,.call ⟨.value f,args,ats⟩,ty,pos,after,guard⟩).run P w= .ok (.enter g (first++args.map ρ++captured)) w:=by
      simp only [execOp,resolve,hf,Deferred.ofValue,Sem.run_bind,Sem.run_pure,Result.andThen,invoke,callFunc_run H hg]
     unfold Exec
     rw [this]
     exact hc.mono fun e w' h=>Ret.elim h
    obtain⟨g,first,captured,hf,hg,hc⟩:=RawCall.elim h
    have e0:(first.toList++(mapA ρ args).toList++captured.toList).toArray=first++args.map ρ++captured:=by apply Array.ext';simp [mapA]
    rw [e0]at hc
    exact key g first captured hf hg hc
  · rename_i recv name
    obtain⟨t,x,g,r,hv,hm,hg,hc⟩:=h
    have e00:(r::(mapA ρ args).toList).toArray= #[r]++args.map ρ:=by apply Array.ext';simp [mapA]
    rw [e00]at hc
    have:(execOp ρ ⟨dst,.call ⟨.invoke recv name,args,ats⟩,ty,pos,after,guard⟩).run P w= .ok (.enter g (#[r]++args.map ρ)) w:=by
     have e0: #[ρ recv]++args.map ρ=(ρ recv::(args.map ρ).toList).toArray:=by apply Array.ext';simp
     have e1:(#[ρ recv]++args.map ρ)[0]? =some (.iface t x):=by rw [e0,hv];rfl
     have e2:(#[ρ recv]++args.map ρ).extract 1 (#[ρ recv]++args.map ρ).size=args.map ρ:=by
      rw [e0]
      apply Array.ext'
      simp only [List.extract_toArray,Array.size_map,List.size_toArray,List.length_cons,Array.length_toList,List.extract_eq_take_drop,List.drop_succ_cons,List.drop_zero,Nat.add_sub_cancel]
      rw [List.take_of_length_le (by simp)]
     simp only [execOp,resolve,Sem.run_bind,Sem.run_pure,Result.andThen,invoke,e1,callMethod,run_program,e2,hm,callFunc_run H hg]
    unfold Exec
    rw [this]
    exact hc.mono fun e w' h=>Ret.elim h
 all_goals exact wv_pure H h
end
end Go.Proofs.VC
namespace Go.Proofs.VC
open Go
abbrev E:=Nat→Option Value
def upd (f:E) (d:Nat) (v:Value):E:=fun t=>cond (Nat.beq t d) (some v) (f t)
def evD (f:E):Operand→Value
 | .tmp t=>(f t).getD undef
 | .const v=>v
 | .global g=> .pointer (some ⟨g,0,none⟩)
 | .func k=> .func (.func k) #[] #[]
def knO (f:E):Operand→Bool
 | .tmp t=>(f t).isSome
 |_=>true
def opKn (f:E) (op:Op):Bool:=op.operands.toList.all (knO f)
structure Rep (n:Nat) (a:Act) (f:E):Prop where
 defers:a.defers= []
 size:a.tmps.size=n
 val:∀t v,f t=some v→a.tmps.getD t undef=v
def putE (n:Nat) (f:E) (dst:Option Tmp) (v:Value) (K:E→Prop):Prop:=
 match dst with
 |none=>K f
 |some d=>cond (Nat.blt d n) (K (upd f d v)) False
theorem Rep.put {n:Nat} {a:Act} {f:E} (h:Rep n a f) {dst:Option Tmp} {v:Value} {K:E→Prop} (hk:putE n f dst v K):∃f',K f'∧Rep n (a.put dst v) f':=by
 cases dst with
 |none=>exact⟨f,hk,h⟩
 |some d=>
  obtain⟨hd,hk⟩:=cond_true hk
  have hd':d<a.tmps.size:=by rw [h.size];simpa [Nat.blt_eq]using hd
  refine⟨_,hk,⟨h.defers,by simp [Act.put,h.size],fun t u hu=>?_⟩⟩
  unfold upd at hu
  cases ht:Nat.beq t d with
  |true=>
   rw [ht]at hu
   have:t=d:=Nat.eq_of_beq_eq_true ht
   subst this
   have hu':some v=some u:=hu
   cases hu'
   simp [Act.put,hd']
  |false=>
   rw [ht]at hu
   have hne:d≠t:=fun e=>by subst e;simp at ht
   have:=h.val t u hu
   rw [←this]
   simp [Act.put,Array.getElem?_setIfInBounds_ne hne]
theorem Rep.eval {n:Nat} {a:Act} {f:E} (h:Rep n a f) {x:Operand} (hx:knO f x=true):a.eval x=evD f x:=by
 cases x with
 |tmp t=>
  simp only [knO]at hx
  obtain⟨v,hv⟩:=Option.isSome_iff_exists.1 hx
  simp [Act.eval,evD,hv,h.val t v hv]
 |_=>rfl
theorem Rep.exec {n:Nat} {a:Act} {f:E} (h:Rep n a f) {o:Oper} (hs:∀cs b,o.op≠ .select cs b) (hk:opKn f o.op=true):execOp a.eval o=execOp (evD f) o:=
 execOp_congr o hs fun x hx=>h.eval (List.all_eq_true.1 hk x (by simpa using hx))
theorem select_false {P:Program} {T:Nat→TI} {fok:Nat→Bool} {ρ:Operand→Value} {ty:Nat} {cs:Array SelectCase} {b:Bool} {w:World} {K:Value→World→Prop}
 (h:wv P T fok ρ ty (.select cs b) w K):False:=h
def gslot (ops:Array Oper) (j:Nat):Option Nat:=(ops[j]?).bind (·.dst)
theorem yielded_of {n:Nat} {a:Act} {f:E} (h:Rep n a f) {ops:Array Oper} {j d:Nat} {v:Value} (hg:gslot ops j=some d) (hd:Nat.blt d n=true) (hv:f d=some v):
 yielded ops a.tmps j=(match v with| .bool b=>some b|_=>none):=by
 have hd':d<a.tmps.size:=by rw [h.size];simpa [Nat.blt_eq]using hd
 have h1:=h.val d v hv
 unfold gslot at hg
 have h2:a.tmps[d]? =some v:=by
  rw [Array.getElem?_eq_getElem hd']
  rw [←h1]
  simp [hd']
 unfold yielded
 rw [hg]
 simp only [Option.bind_some,h2]
 cases v<;>rfl
def guardE (n:Nat) (ops:Array Oper) (f:E) (g:Option (Nat×Bool)) (Y N:E→Prop):Prop:=
 match g with
 |none=>Y f
 |some (j,want)=>
  match gslot ops j with
  |none=>False
  |some d=>cond (Nat.blt d n)
   (match f d with
    |some (.bool b)=>cond want (cond b (Y (upd f d (.bool true))) (N (upd f d (.bool false)))) (cond b (N (upd f d (.bool true))) (Y (upd f d (.bool false))))
    |some (.tuple _)=>N f
    |_=>False) False
theorem Rep.same {n:Nat} {a:Act} {f:E} (h:Rep n a f) {d:Nat} {v:Value} (hv:f d=some v):Rep n a (upd f d v):=
 ⟨h.defers,h.size,fun t u hu=>by
  unfold upd at hu
  cases ht:Nat.beq t d with
  |true=>
   rw [ht]at hu
   have:t=d:=Nat.eq_of_beq_eq_true ht
   subst this
   have hu':some v=some u:=hu
   cases hu'
   exact h.val t _ hv
  |false=>rw [ht]at hu;exact h.val t u hu⟩
theorem guardE_sound {n:Nat} {a:Act} {f:E} (h:Rep n a f) {ops:Array Oper} {o:Oper} {Y N:E→Prop} (hg:guardE n ops f o.guard Y N):
 ∃f',Rep n a f'∧((Region.wanted o (yielded ops a.tmps)=true∧Y f')∨(Region.wanted o (yielded ops a.tmps)=false∧N f')):=by
 unfold guardE at hg
 cases ho:o.guard with
 |none=>rw [ho]at hg;exact⟨f,h,.inl ⟨by simp [Region.wanted,ho],hg⟩⟩
 |some g=>
  obtain⟨j,want⟩:=g
  rw [ho]at hg
  cases hs:gslot ops j with
  |none=>simp only [hs]at hg
  |some d=>
   simp only [hs]at hg
   obtain⟨hd,hg⟩:=cond_true hg
   split at hg
   · rename_i b hv
     have hy:=yielded_of h hs hd hv
     simp only at hy
     refine⟨upd f d (.bool b),h.same hv,?_⟩
     cases want<;>cases b<;>simp only [Region.wanted,ho,hy]<;>first|(left;exact⟨by decide,hg⟩)|(right;exact⟨by decide,hg⟩)
   · rename_i vs hv
     have hy:=yielded_of h hs hd hv
     simp only at hy
     exact⟨f,h,.inr ⟨by simp [Region.wanted,ho,hy],hg⟩⟩
   · exact hg.elim
section
variable {P:Program} {T:Nat→TI} {fok:Nat→Bool}
def step (P:Program) (T:Nat→TI) (fok:Nat→Bool) (n:Nat) (ops:Array Oper) (o:Oper) (f:E) (w:World) (K:E→World→Prop):Prop:=
 guardE n ops f o.guard
  (fun f=>cond (opKn f o.op) (wv P T fok (evD f) o.type o.op w fun v w'=>putE n f o.dst v fun f'=>K f' w') False)
  (fun f=>putE n f o.dst undef fun f'=>K f' w)
theorem Exec.wp {o:Oper} {a:Act} {w:World} {N:Value→World→Prop} {next:Act→World→Prop} {Q:Exit→Act→World→Prop}
 (h:Exec P (execOp a.eval o) w N) (hn:∀v w',N v w'→next (a.put o.dst v) w'):o.wp P a w next Q:=by
 unfold Oper.wp
 unfold Exec at h
 split at h
 · rename_i v w' hr;rw [hr];exact hn _ _ h
 · rename_i w' hr;rw [hr];exact hn _ _ h
 · rename_i g args w' hr
   rw [hr]
   refine Calls.mono h ?_
   rintro e w'' ⟨v,rfl,hv⟩
   exact hn _ _ hv
 · exact h.elim
theorem step_sound (H:Tab P T fok) {n:Nat} {ops:Array Oper} {o:Oper} {a:Act} {f:E} {w:World} {K:E→World→Prop} (hr:Rep n a f)
 (h:step P T fok n ops o f w K) {Q:Exit→Act→World→Prop}:
 if Region.wanted o (yielded ops a.tmps)then o.wp P a w (fun a' w'=>∃f',K f' w'∧Rep n a' f'∧∃v,a'=a.put o.dst v) Q else∃f',K f' w∧Rep n (a.put o.dst undef) f':=by
 obtain⟨f',hr',hh⟩:=guardE_sound hr h
 rcases hh with⟨hw,hy⟩|⟨hw,hy⟩
 · rw [if_pos hw]
   obtain⟨hk,hy⟩:=cond_true hy
   have hs:∀cs b,o.op≠ .select cs b:=fun cs b hop=>by rw [hop]at hy;exact select_false hy
   have he:=wv_sound H o (evD f') w _ hy
   rw [←hr'.exec hs hk]at he
   refine he.wp fun v w' hv=>?_
   obtain⟨f2,h1,h2⟩:=hr'.put hv
   exact⟨f2,h1,h2,v,rfl⟩
 · rw [if_neg (by simp [hw])]
   obtain⟨f2,h1,h2⟩:=hr'.put hy
   exact⟨f2,h1,h2⟩
def vcOps (P:Program) (T:Nat→TI) (fok:Nat→Bool) (n:Nat) (ops:Array Oper):List Oper→E→World→(E→World→Prop)→Prop
 | [],f,w,K=>K f w
 |o::rest,f,w,K=>step P T fok n ops o f w fun f' w'=>vcOps P T fok n ops rest f' w' K
def Agree (W:Nat→Prop) (a a':Act):Prop:=∀t,¬W t→a'.tmps.getD t undef=a.tmps.getD t undef
theorem Agree.refl (W:Nat→Prop) (a:Act):Agree W a a:=fun _ _=>rfl
theorem Agree.trans {W:Nat→Prop} {a b c:Act} (h:Agree W a b) (h':Agree W b c):Agree W a c:=fun t ht=>(h' t ht).trans (h t ht)
theorem Agree.mono {W W':Nat→Prop} {a b:Act} (h:Agree W a b) (hw:∀t,W t→W' t):Agree W' a b:=fun t ht=>h t fun hh=>ht (hw t hh)
theorem Agree.put (W:Nat→Prop) (a:Act) {dst:Option Tmp} {v:Value} (h:∀d,dst=some d→W d):Agree W a (a.put dst v):=by
 intro t ht
 cases dst with
 |none=>rfl
 |some d=>
  have hne:d≠t:=fun e=>ht (e▸h d rfl)
  simp [Act.put,Array.getElem?_setIfInBounds_ne hne]
def wOps (l:List Oper) (t:Nat):Prop:=∃o∈l,o.dst=some t
theorem vcOps_sound (H:Tab P T fok) {n:Nat} {ops:Array Oper} {Q:Exit→Act→World→Prop}:∀(l:List Oper) {a:Act} {f:E} {w:World} {K:E→World→Prop},Rep n a f→
 vcOps P T fok n ops l f w K→(∀a' f' w',K f' w'→Rep n a' f'→Agree (wOps l) a a'→Q .normal a' w')→wpList P ops Q l a w
 | [],a,f,w,K,hr,h,hq=>hq _ _ _ h hr (Agree.refl _ _)
 |o::rest,a,f,w,K,hr,h,hq=>by
  have hs:=step_sound H hr h (Q:=Q)
  refine wpList_step fun K2 hK2=>?_
  have hmem:∀d,o.dst=some d→wOps (o::rest) d:=fun d hd=>⟨o,by simp,hd⟩
  split
  · rename_i hw
    rw [if_pos hw]at hs
    refine Oper.wp_mono (fun a' w' hh=>?_) hs
    obtain⟨f',h1,h2,v,rfl⟩:=hh
    refine hK2 _ _ (vcOps_sound H rest h2 h1 fun a2 f2 w2 k2 r2 g2=>hq _ _ _ k2 r2 ?_)
    exact(Agree.put _ a hmem).trans (g2.mono fun t ⟨o',ho',ht⟩=>⟨o',by simp [ho'],ht⟩)
  · rename_i hw
    rw [if_neg hw]at hs
    obtain⟨f',h1,h2⟩:=hs
    refine hK2 _ _ (vcOps_sound H rest h2 h1 fun a2 f2 w2 k2 r2 g2=>hq _ _ _ k2 r2 ?_)
    exact(Agree.put _ a hmem).trans (g2.mono fun t ⟨o',ho',ht⟩=>⟨o',by simp [ho'],ht⟩)
end
end Go.Proofs.VC
namespace Go.Proofs.VC
open Go
section
variable {P:Program} {T:Nat→TI} {fok:Nat→Bool} {ops:Array Oper} {Q:Exit→Act→World→Prop}
abbrev Ent:=Nat×Addr×Value
def waitsOn (ops:Array Oper) (j i:Nat):Bool:=
 match ops[j]? with
 |some o=>o.after.any fun e=>Region.binds .any e&&e.on==i
 |none=>false
def HeldL (ops:Array Oper) (j:Nat) (w w':World):List Ent→Prop
 | []=>True
 |e::es=>cond (waitsOn ops j e.1||e.1==j) (HeldL ops j w w' es) ((w.cell? e.2.1=some e.2.2→w'.cell? e.2.1=some e.2.2)∧HeldL ops j w w' es)
theorem HeldL_spec {ops:Array Oper} {j:Nat} {w w':World}:∀ {es:List Ent},HeldL ops j w w' es→∀e∈es,waitsOn ops j e.1=false→e.1≠j→w.cell? e.2.1=some e.2.2→w'.cell? e.2.1=some e.2.2
 |x::es,h,e,he,h1,h2,h3=>by
  unfold HeldL at h
  rcases List.mem_cons.1 he with rfl|he
  · have:(waitsOn ops j e.1||e.1==j)=false:=by simp [h1,h2]
    rw [this]at h
    exact h.1 h3
  · cases hc:(waitsOn ops j x.1||x.1==j)with
    |true=>rw [hc]at h;exact HeldL_spec h e he h1 h2 h3
    |false=>rw [hc]at h;exact HeldL_spec h.2 e he h1 h2 h3
theorem HeldL_same {ops:Array Oper} {j:Nat} {w:World}:∀(es:List Ent),HeldL ops j w w es
 | []=>trivial
 |x::es=>by
  unfold HeldL
  cases (waitsOn ops j x.1||x.1==j)with
  |true=>exact HeldL_same es
  |false=>exact⟨id,HeldL_same es⟩
def wpG (P:Program) (ops:Array Oper) (Q:Exit→Act→World→Prop) (Sl:List Ent):Nat→Array Bool→Act→World→Prop
 |0,listed,a,w=>Region.ready .any ops listed= []∧Q .normal a w
 |fuel+1,listed,a,w=>
  (Region.ready .any ops listed= []→Q .normal a w)∧
  ∀i∈Region.ready .any ops listed,wpOp P ops Q i (fun a' w'=>HeldL ops i w w' Sl∧wpG P ops Q Sl fuel (listed.setIfInBounds i true) a' w') a w
theorem wpAny_of_G {Sl:List Ent}:∀(fuel:Nat) (listed:Array Bool) (a:Act) (w:World),wpG P ops Q Sl fuel listed a w→wpAny P .any ops Q fuel listed a w
 |0,_,_,_,h=>h
 |fuel+1,_,_,_,h=>⟨h.1,fun i hi=>wpOp_mono (fun a' w' h'=>wpAny_of_G fuel _ a' w' h'.2) (h.2 i hi)⟩
def OfI (Sl:List Ent) (i:Nat) (w:World):Prop:=∀e∈Sl,e.1=i→w.cell? e.2.1=some e.2.2
theorem wpG_first {Sl:List Ent} {i:Nat} {oi:Oper} {v:Value} (hi:ops[i]? =some oi) (hsel:∀(j:Nat) (o:Oper) cs b,ops[j]? =some o→o.op≠ .select cs b)
 (hQ:∀c a w,Q (.panic c) (a.put oi.dst v) w→Q (.panic c) a w):
 ∀(fuel:Nat) (listed:Array Bool) (a:Act) (w:World),
  (∀j oj,ops[j]? =some oj→j≠i→listed.getD j true=false→(∀e∈oj.after,Region.binds .any e=true→e.on≠i)→oi.apart ops oj=true)→
  i∈Region.ready .any ops listed→YieldsIf P ops (OfI Sl i) oi v a→OfI Sl i w→
  wpG P ops Q Sl fuel (listed.setIfInBounds i true) (a.put oi.dst v) w→wpG P ops Q Sl (fuel+1) listed a w:=by
 intro fuel
 induction fuel with
 |zero=>
  intro listed a w _ hr hy hS H
  refine⟨fun h=>(by rw [h]at hr;cases hr),fun j hj=>?_⟩
  by_cases hji:j=i
  · subst hji;exact hy.wpOp hi hS ⟨HeldL_same _,H⟩
  · have:=ready_mono hj hji
    rw [H.1]at this
    cases this
 |succ fuel ih=>
  intro listed a w hfree hr hy hS H
  refine⟨fun h=>(by rw [h]at hr;cases hr),fun j hj=>?_⟩
  by_cases hji:j=i
  · subst hji;exact hy.wpOp hi hS ⟨HeldL_same _,H⟩
  · have h1:=H.2 j (ready_mono hj hji)
    obtain⟨hjun,oj,hoj,hall⟩:=mem_ready.1 hj
    have hnot:∀e∈oj.after,Region.binds .any e=true→e.on≠i:=fun e he hb heq=>by
     have h1:=hall e he hb
     have h0:=(mem_ready.1 hr).1
     rw [heq]at h1
     rcases Nat.lt_or_ge i listed.size with h'|h'
     · simp [h']at h0 h1;rw [h0]at h1;cases h1
     · simp [Array.getElem?_eq_none h']at h1
    have hwait:waitsOn ops j i=false:=by
     unfold waitsOn
     simp only [hoj]
     cases hb:oj.after.any fun e=>Region.binds .any e&&e.on==i with
     |false=>rfl
     |true=>
      obtain⟨e,he,hbe⟩:=Array.any_eq_true'.1 hb
      simp only [Bool.and_eq_true,beq_iff_eq]at hbe
      exact absurd hbe.2 (hnot e he hbe.1)
    have h2:=wpOp_putIf hoj (hfree j oj hoj hji hjun hnot) (fun cs b=>hsel i oi cs b hi) (fun cs b=>hsel j oj cs b hoj) hQ hy h1
    have hfree':∀k ok,ops[k]? =some ok→k≠i→(listed.setIfInBounds j true).getD k true=false→
     (∀e∈ok.after,Region.binds .any e=true→e.on≠i)→oi.apart ops ok=true:=fun k ok hk hki hun hno=>by
     refine hfree k ok hk hki ?_ hno
     by_cases hjk:j=k
     · subst hjk;exact hjun
     · rw [getD_set_ne true hjk]at hun;exact hun
    refine wpOp_mono (fun a' w' h3=>⟨h3.2.1,?_⟩) h2
    have hS':OfI Sl i w':=fun e he hei=>HeldL_spec h3.2.1 e he (by rw [hei];exact hwait) (by rw [hei];exact fun h=>hji h.symm) (hS e he hei)
    refine ih (listed.setIfInBounds j true) a' w' hfree' (ready_mono hr (Ne.symm hji)) h3.1 hS' ?_
    rw [Array.setIfInBounds_comm _ _ hji]
    exact h3.2.2
theorem wpG_take {Sl:List Ent} {i:Nat} {oi:Oper} {v:Value} {fuel:Nat} {listed:Array Bool} {a:Act} {w:World} (hi:ops[i]? =some oi)
 (hs:Region.noSelect ops=true) (hf:Region.free .any ops listed i=true) (hr:(Region.ready .any ops listed).contains i=true)
 (hQ:∀c a w,Q (.panic c) (a.put oi.dst v) w→Q (.panic c) a w) (hy:YieldsIf P ops (OfI Sl i) oi v a) (hS:OfI Sl i w)
 (h:wpG P ops Q Sl fuel (listed.setIfInBounds i true) (a.put oi.dst v) w):wpG P ops Q Sl (fuel+1) listed a w:=
 wpG_first hi (Region.noSelect_spec hs) hQ fuel listed a w (Region.free_spec hi hf) (by simpa using hr) hy hS h
def isPureT (T:Nat→TI) (op:Op):Bool:=
 match op with
 | .convert src dst _=>
   match (T src).d,(T dst).d with
   | .int _,.int _=>true
   | .str,.str=>true
   |_,_=>false
 | .call c=>isPure (.call c)&& !(match c.callee with
   | .builtin b=>match b with
     | .len=>match c.argTypes.toList with
       | [t]=>isMapD (T t).d
       |_=>false
     |_=>false
   |_=>false)
 |op=>isPure op
def isLoad:Op→Bool
 | .load _ _=>true
 |_=>false
def pureAt (T:Nat→TI) (ops:Array Oper) (i:Nat):Bool:=match ops[i]? with|some o=>isPureT T o.op|none=>false
def loadAt' (nf:List Nat) (ops:Array Oper) (i:Nat):Bool:=match ops[i]? with|some o=>isLoad o.op&& !nf.contains i|none=>false
def pick (can:Nat→Bool) (ops:Array Oper) (listed:Array Bool):List Nat→Option Nat
 | []=>none
 |i::is=>cond (can i&&Region.free .any ops listed i) (some i) (pick can ops listed is)
theorem pick_spec {can:Nat→Bool} {listed:Array Bool} {i:Nat}:∀ {l:List Nat},pick can ops listed l=some i→i∈l∧can i=true∧Region.free .any ops listed i=true
 |x::xs,h=>by
  unfold pick at h
  cases hc:(can x&&Region.free .any ops listed x)with
  |true=>
   rw [hc]at h
   have h':some x=some i:=h
   cases h'
   simp only [Bool.and_eq_true]at hc
   exact⟨by simp,hc.1,hc.2⟩
  |false=>
   rw [hc]at h
   have:=pick_spec (show pick can ops listed xs=some i from h)
   exact⟨by simp [this.1],this.2⟩
def entsOf (i:Nat) (p:Addr):Nat→List Value→List Ent
 |_,[]=> []
 |k,c::cs=>(i,p.add k,c)::entsOf i p (k+1) cs
def takeP (P:Program) (T:Nat→TI) (n:Nat) (ops:Array Oper) (i:Nat) (o:Oper) (f:E) (w:World) (K:List Ent→E→Prop):Prop:=
 guardE n ops f o.guard
  (fun f=>cond (opKn f o.op)
   (match o.op with
    | .load t a=>
      match evD f a with
      | .pointer (some p)=>
        cond (typed (T t).d)
         (cond (isAggD (T t).d) (ExL (T t).fl fun cs=>LdL w p 0 cs∧putE n f o.dst (.agg cs.toArray) fun f'=>K (entsOf i p 0 cs) f')
          (ExV (T t) fun v=>w.cell? p=some v∧putE n f o.dst v fun f'=>K [(i,p,v)] f')) False
      |_=>False
    |op=>cond (isPureT T op) (pv P T (evD f) op fun v=>putE n f o.dst v fun f'=>K [] f') False) False)
  (fun f=>putE n f o.dst undef fun f'=>K [] f')
def allOf (X:Nat→Prop):List Nat→Prop
 | []=>True
 | [i]=>X i
 |i::is=>X i∧allOf X is
theorem allOf_spec {X:Nat→Prop}:∀ {l:List Nat},allOf X l→∀i∈l,X i
 | [x],h,i,hi=>by simp at hi;subst hi;exact h
 |x::y::l,h,i,hi=>by
  rcases List.mem_cons.1 hi with rfl|hi
  · exact h.1
  · exact allOf_spec h.2 i hi
def orderP (P:Program) (T:Nat→TI) (fok:Nat→Bool) (nf:List Nat) (n:Nat) (ops:Array Oper) (K:E→World→Prop):Nat→List Ent→Array Bool→E→World→Prop
 |0,_,listed,f,w=>cond (Region.ready .any ops listed).isEmpty (K f w) False
 |fuel+1,Sl,listed,f,w=>
  match Region.ready .any ops listed with
  | []=>K f w
  |r::rs=>
   match pick (fun i=>pureAt T ops i||loadAt' nf ops i) ops listed (r::rs)with
   |some i=>match ops[i]? with
    |some o=>cond (Sl.all fun e=>e.1 !=i) (takeP P T n ops i o f w fun es f'=>orderP P T fok nf n ops K fuel (Sl++es) (listed.setIfInBounds i true) f' w) False
    |none=>False
   |none=>allOf (fun i=>match ops[i]? with
    |some o=>step P T fok n ops o f w fun f' w'=>(HeldL ops i w w' Sl∧orderP P T fok nf n ops K fuel Sl (listed.setIfInBounds i true) f' w')
    |none=>False) (r::rs)
def vcDraw (P:Program) (T:Nat→TI) (fok:Nat→Bool) (nf:List Nat) (n:Nat) (ops:Array Oper) (f:E) (w:World) (K:E→World→Prop):Prop:=
 cond (Region.noSelect ops) (∀w',w'=w.drew→orderP P T fok nf n ops K ops.size [] (Array.replicate ops.size false) f w') False
end
end Go.Proofs.VC
namespace Go.Proofs.VC
open Go
section
variable {P:Program} {T:Nat→TI} {fok:Nat→Bool} {ops:Array Oper} {Q:Exit→Act→World→Prop}
theorem LdL_ents {w:World} {p:Addr} {i:Nat}:∀ {cs:List Value} {k:Nat},LdL w p k cs→∀e∈entsOf i p k cs,e.1=i∧w.cell? e.2.1=some e.2.2
 | [],_,_,e,he=>by simp [entsOf]at he
 |c::cs,k,h,e,he=>by
  rcases List.mem_cons.1 he with rfl|he
  · exact⟨rfl,h.1⟩
  · exact LdL_ents h.2 e he
theorem LdL_of_ents {w:World} {p:Addr} {i:Nat}:∀ {cs:List Value} {k:Nat},(∀e∈entsOf i p k cs,w.cell? e.2.1=some e.2.2)→LdL w p k cs
 | [],_,_=>trivial
 |c::cs,k,h=>⟨h (i,p.add k,c) (by simp [entsOf]),LdL_of_ents (i:=i) fun e he=>h e (List.mem_cons_of_mem _ he)⟩
theorem run_load_agg (H:Tab P T fok) {t:Nat} {p:Addr} {cs:List Value} {w:World} (ht:typed (T t).d=true) (hagg:isAggD (T t).d=true) (hl:cs.length=(T t).fl.length) (h:LdL w p 0 cs):
 (Instr.loadAt t (.pointer (some p))).run P w= .ok (.agg cs.toArray) w:=by
 have hag:=H.run_isAgg (typed_spec ht).1 (typed_spec ht).2 w
 have hsz:=H.run_sizeOf (typed_spec ht).1 (typed_spec ht).2 w
 rw [hagg]at hag
 have hlen:cs.length=(T t).size:=by rw [hl];exact H.size_one (typed_spec ht).1 (typed_spec ht).2
 have hc:=run_loadCells_list (P:=P) w p cs (fun j v hj=>by simpa using LdL_spec h j v hj)
 simp only [Instr.loadAt,Instr.sureAddr,Sem.run_bind,Sem.run_pure,Result.andThen,loadVar,hag,if_true,hsz,←hlen,hc]
theorem run_load_one (H:Tab P T fok) {t:Nat} {p:Addr} {v:Value} {w:World} (ht:typed (T t).d=true) (hagg:isAggD (T t).d=false) (h:w.cell? p=some v):
 (Instr.loadAt t (.pointer (some p))).run P w= .ok v w:=by
 have hag:=H.run_isAgg (typed_spec ht).1 (typed_spec ht).2 w
 rw [hagg]at hag
 simp only [Instr.loadAt,Instr.sureAddr,Sem.run_bind,Sem.run_pure,Result.andThen,loadVar,hag,Bool.false_eq_true,if_false,run_load,h]
theorem takeP_sound (H:Tab P T fok) {n i:Nat} {o:Oper} {a:Act} {f:E} {w:World} {K:List Ent→E→Prop} (hr:Rep n a f) (h:takeP P T n ops i o f w K)
 (hsel:∀cs b,o.op≠ .select cs b):
 ∃v es f',K es f'∧Rep n (a.put o.dst v) f'∧(∀e∈es,e.1=i∧w.cell? e.2.1=some e.2.2)∧∀Sl,(∀e∈es,e∈Sl)→YieldsIf P ops (OfI Sl i) o v a:=by
 obtain⟨f1,hr1,hh⟩:=guardE_sound hr h
 rcases hh with⟨hw,hy⟩|⟨hw,hy⟩
 · obtain⟨hk,hy⟩:=cond_true hy
   have hex:=hr1.exec hsel hk
   split at hy
   · rename_i t x hop
     split at hy
     · rename_i p hx
       obtain⟨ht,hy⟩:=cond_true hy
       have hexec:execOp (evD f1) o=(do pure (Next.value (←Instr.loadAt t (.pointer (some p)))):Sem Next):=by
        unfold execOp;rw [hop];simp only [hx]
       cases hagg:isAggD (T t).d with
       |true=>
        rw [hagg]at hy
        obtain⟨cs,hl,hld,hy⟩:=ExL.elim hy
        obtain⟨f2,hk2,hr2⟩:=hr1.put hy
        refine⟨_,_,f2,hk2,hr2,LdL_ents hld,fun Sl hS=> .inl ⟨hw,fun w2 h2=>?_⟩⟩
        rw [hex,hexec]
        refine vrun (run_load_agg H ht hagg hl (LdL_of_ents (i:=i) fun e he=>h2 e (hS e he) ?_))
        exact(LdL_ents hld e he).1
       |false=>
        rw [hagg]at hy
        replace hy:ExV (T t) (fun v=>w.cell? p=some v∧putE n f1 o.dst v fun f'=>K [(i,p,v)] f'):=hy
        obtain⟨v,hv,hy⟩:=ExV.elim hy
        obtain⟨f2,hk2,hr2⟩:=hr1.put hy
        refine⟨_,_,f2,hk2,hr2,fun e he=>?_,fun Sl hS=> .inl ⟨hw,fun w2 h2=>?_⟩⟩
        · simp at he;subst he;exact⟨rfl,hv⟩
        · rw [hex,hexec]
          exact vrun (run_load_one H ht hagg (h2 (i,p,v) (hS _ (by simp)) rfl))
     · exact hy.elim
   · obtain⟨_,hy⟩:=cond_true hy
     obtain⟨v,hkv,hrun⟩:=pv_sound H o (evD f1) _ hy
     obtain⟨f2,hk2,hr2⟩:=hr1.put hkv
     refine⟨v,[],f2,hk2,hr2,by simp,fun Sl _=> .inl ⟨hw,fun w2 _=>?_⟩⟩
     rw [hex]
     exact hrun w2
 · obtain⟨f2,hk2,hr2⟩:=hr1.put hy
   exact⟨undef,[],f2,hk2,hr2,by simp,fun Sl _=> .inr ⟨hw,rfl⟩⟩
def noPanic (Q:Exit→Act→World→Prop):Prop:=∀c a w,¬Q (.panic c) a w
theorem wOps_put {l:List Oper} {o:Oper} (ho:o∈l) {a:Act} {v:Value}:Agree (wOps l) a (a.put o.dst v):=Agree.put _ a fun _ hd=>⟨o,ho,hd⟩
theorem mem_of_get {i:Nat} {o:Oper} (h:ops[i]? =some o):o∈ops.toList:=Array.mem_toList_iff.2 (Array.mem_of_getElem? h)
theorem HeldL_app {j:Nat} {w w':World}:∀ {es es':List Ent},HeldL ops j w w' (es++es')→HeldL ops j w w' es
 | [],_,_=>trivial
 |x::es,es',h=>by
  rw [List.cons_append]at h
  cases hc:(waitsOn ops j x.1||x.1==j)with
  |true=>
   simp only [HeldL,hc]at h ⊢
   exact HeldL_app (es:=es) h
  |false=>
   simp only [HeldL,hc,cond_false]at h ⊢
   exact⟨h.1,HeldL_app (es:=es) h.2⟩
theorem wpG_app {Sl es:List Ent}:∀(fuel:Nat) {listed:Array Bool} {a:Act} {w:World},wpG P ops Q (Sl++es) fuel listed a w→wpG P ops Q Sl fuel listed a w
 |0,_,_,_,h=>h
 |fuel+1,_,_,_,h=>⟨h.1,fun i hi=>wpOp_mono (fun _ _ h'=>⟨HeldL_app h'.1,wpG_app fuel h'.2⟩) (h.2 i hi)⟩
theorem orderP_sound (H:Tab P T fok) (hs:Region.noSelect ops=true) (hQ:noPanic Q) {nf:List Nat} {n:Nat} {K:E→World→Prop} {a0:Act}
 (hend:∀a' f' w',K f' w'→Rep n a' f'→Agree (wOps ops.toList) a0 a'→Q .normal a' w'):
 ∀(fuel:Nat) {Sl:List Ent} {listed:Array Bool} {a:Act} {f:E} {w:World},Rep n a f→Agree (wOps ops.toList) a0 a→orderP P T fok nf n ops K fuel Sl listed f w→wpG P ops Q Sl fuel listed a w:=by
 intro fuel
 induction fuel with
 |zero=>
  intro Sl listed a f w hr hag h
  obtain⟨h1,h2⟩:=cond_true h
  exact⟨by simpa using h1,hend _ _ _ h2 hr hag⟩
 |succ fuel ih=>
  intro Sl listed a f w hr hag h
  unfold orderP at h
  split at h
  · rename_i hnil
    exact⟨fun _=>hend _ _ _ h hr hag,by rw [hnil];simp⟩
  · rename_i r rs hrs
    split at h
    · rename_i i hp
      obtain⟨hmem,_,hfree⟩:=pick_spec hp
      split at h
      · rename_i o ho
        obtain⟨hne,h⟩:=cond_true h
        obtain⟨v,es,f',hk,hr',hes,hy⟩:=takeP_sound H hr h (fun cs b=>Region.noSelect_spec hs i o cs b ho)
        have hof:OfI (Sl++es) i w:=fun e he hei=>by
         rcases List.mem_append.1 he with he|he
         · have:=List.all_eq_true.1 hne e he
           simp [hei]at this
         · exact(hes e he).2
        exact wpG_app (es:=es) _ (wpG_take ho hs hfree (by rw [hrs];simpa using hmem) (fun c a w hh=>(hQ _ _ _ hh).elim) (hy _ fun e he=>List.mem_append_right _ he) hof
         (ih hr' (hag.trans (wOps_put (mem_of_get ho))) hk))
      · exact h.elim
    · refine⟨fun hh=>(by rw [hrs]at hh;cases hh),fun i hi=>?_⟩
      rw [hrs]at hi
      have hx:=allOf_spec h i hi
      split at hx
      · rename_i o ho
        have hst:=step_sound H hr hx (Q:=Q)
        unfold wpOp
        simp only [ho]
        split
        · rename_i hw
          rw [if_pos hw]at hst
          refine .inl (Oper.wp_mono (fun a' w' hh=>?_) hst)
          obtain⟨f',⟨h1,h2⟩,h3,v,rfl⟩:=hh
          exact⟨h1,ih h3 (hag.trans (wOps_put (mem_of_get ho))) h2⟩
        · rename_i hw
          rw [if_neg hw]at hst
          obtain⟨f',⟨h1,h2⟩,h3⟩:=hst
          exact⟨h1,ih h3 (hag.trans (wOps_put (mem_of_get ho))) h2⟩
      · exact hx.elim
theorem vcDraw_sound (H:Tab P T fok) {nf:List Nat} {n id:Nat} {a:Act} {f:E} {w:World} {K:E→World→Prop} (hr:Rep n a f) (h:vcDraw P T fok nf n ops f w K):
 (Code.region id ops true).wp P (fun e a' w'=>e= .normal∧∃f',K f' w'∧Rep n a' f'∧Agree (wOps ops.toList) a a') a w:=by
 obtain⟨hs,h⟩:=cond_true h
 refine wp_region_any H.mixed ?_
 have hQ:noPanic (fun(e:Exit) (a':Act) (w':World)=>e= .normal∧∃f',K f' w'∧Rep n a' f'∧Agree (wOps ops.toList) a a'):=fun c a w h=>by cases h.1
 exact wpAny_of_G (Sl:= []) _ _ _ _ (orderP_sound H hs hQ (K:=K) (a0:=a) (fun a2 f2 w2 k2 r2 g2=>⟨rfl,f2,k2,r2,g2⟩) _ hr (Agree.refl _ _) (h _ rfl))
end
end Go.Proofs.VC
namespace Go.Proofs.VC
open Go
def CurT (R:Type):List B→Type
 | []=>R
 | .int _::bs=>Int→CurT R bs
 | .bool::bs=>Bool→CurT R bs
 | .str::bs=>ByteArray→CurT R bs
 | .ptr::bs=>Option Addr→CurT R bs
 | .sl::bs=>Option Addr→Nat→Nat→CurT R bs
 | .map::bs=>Option Nat→CurT R bs
 | .fn::bs=>Value→CurT R bs
 | .ifc::bs=>Value→CurT R bs
 | .ad::bs=>Addr→CurT R bs
def appT {R:Type}:(bs:List B)→CurT R bs→List Value→(R→Prop)→Prop
 | [],g,_,K=>K g
 | .int k::bs,g,.int k' n::vs,K=>cond (k==k') (appT bs (g n) vs K) False
 | .bool::bs,g,.bool n::vs,K=>appT bs (g n) vs K
 | .str::bs,g,.string n::vs,K=>appT bs (g n) vs K
 | .ptr::bs,g,.pointer n::vs,K=>appT bs (g n) vs K
 | .sl::bs,g,.slice a n c::vs,K=>appT bs (g a n c) vs K
 | .map::bs,g,.map n::vs,K=>appT bs (g n) vs K
 | .fn::bs,g,v::vs,K=>appT bs (g v) vs K
 | .ifc::bs,g,v::vs,K=>appT bs (g v) vs K
 | .ad::bs,g,.pointer (some a)::vs,K=>appT bs (g a) vs K
 |_,_,_,_=>False
def AllB:B→(Value→Prop)→Prop
 | .int k,Q=>∀n:Int,Q (.int k n)
 | .bool,Q=>∀n:Bool,Q (.bool n)
 | .str,Q=>∀n:ByteArray,Q (.string n)
 | .ptr,Q=>∀n:Option Addr,Q (.pointer n)
 | .sl,Q=>∀(a:Option Addr) (n c:Nat),Q (.slice a n c)
 | .map,Q=>∀n:Option Nat,Q (.map n)
 | .fn,Q=>∀v:Value,Q v
 | .ifc,Q=>∀v:Value,Q v
 | .ad,Q=>∀a:Addr,Q (.pointer (some a))
def AllL:List B→(List Value→Prop)→Prop
 | [],Q=>Q []
 |b::bs,Q=>AllB b fun v=>AllL bs fun vs=>Q (v::vs)
def fits:B→Value→Prop
 | .int k,v=>∃n,v= .int k n
 | .bool,v=>∃n,v= .bool n
 | .str,v=>∃n,v= .string n
 | .ptr,v=>∃n,v= .pointer n
 | .sl,v=>∃a n c,v= .slice a n c
 | .map,v=>∃n,v= .map n
 | .fn,_=>True
 | .ifc,_=>True
 | .ad,v=>∃a,v= .pointer (some a)
def fitsL:List B→List Value→Prop
 | [],[]=>True
 |b::bs,v::vs=>fits b v∧fitsL bs vs
 |_,_=>False
theorem AllB.at_ {b:B} {Q:Value→Prop} (h:AllB b Q) {v:Value} (hv:fits b v):Q v:=by
 cases b<;>simp only [fits]at hv
 case sl=>obtain⟨a,n,c,rfl⟩:=hv;exact h a n c
 case fn=>exact h v
 case ifc=>exact h v
 all_goals (obtain⟨n,rfl⟩:=hv;exact h n)
theorem AllL.at_:∀ {bs:List B} {Q:List Value→Prop},AllL bs Q→∀ {vs:List Value},fitsL bs vs→Q vs
 | [],_,h,[],_=>h
 |_::bs,_,h,_::_,hf=>AllL.at_ (bs:=bs) (AllB.at_ h hf.1) hf.2
 | [],_,_,_::_,hf=>hf.elim
 |_::_,_,_,[],hf=>hf.elim
theorem appT_spec {R:Type}:∀ {bs:List B} {g:CurT R bs} {vs:List Value} {K:R→Prop},appT bs g vs K→vs.length=bs.length→fitsL bs vs∧∃r,K r∧∀K',K' r→appT bs g vs K'
 | [],g,[],K,h,_=>⟨trivial,g,h,fun _ h=>h⟩
 |b::bs,g,v::vs,K,h,hl=>by
  have hl':vs.length=bs.length:=by simpa using hl
  cases b<;>cases v
  case ad.pointer n=>
   cases n with
   |none=>exact False.elim h
   |some a=>
    obtain⟨h1,r,h2,h3⟩:=appT_spec (bs:=bs) h hl'
    exact⟨⟨⟨_,rfl⟩,h1⟩,r,h2,fun K' hK=>h3 K' hK⟩
  all_goals simp only [appT]at h
  all_goals first
   |exact h.elim
   |(obtain⟨hk,h⟩:=cond_true h
     obtain⟨h1,r,h2,h3⟩:=appT_spec h hl'
     have hk':=eq_of_beq hk
     subst hk'
     exact⟨⟨⟨_,rfl⟩,h1⟩,r,h2,fun K' hK=>by simp only [appT,hk];exact h3 K' hK⟩)
   |(obtain⟨h1,r,h2,h3⟩:=appT_spec h hl'
     first
      |exact⟨⟨⟨_,rfl⟩,h1⟩,r,h2,fun K' hK=>h3 K' hK⟩
      |exact⟨⟨⟨_,_,_,rfl⟩,h1⟩,r,h2,fun K' hK=>h3 K' hK⟩
      |exact⟨⟨trivial,h1⟩,r,h2,fun K' hK=>h3 K' hK⟩)
 | [],_,_::_,_,_,hl=>by simp at hl
 |_::_,_,[],_,_,hl=>by simp at hl
end Go.Proofs.VC
namespace Go.Proofs.VC
open Go
def curT {R:Type}:(bs:List B)→(List Value→R)→CurT R bs
 | [],F=>F []
 | .int k::bs,F=>fun n=>curT bs fun vs=>F (.int k n::vs)
 | .bool::bs,F=>fun n=>curT bs fun vs=>F (.bool n::vs)
 | .str::bs,F=>fun n=>curT bs fun vs=>F (.string n::vs)
 | .ptr::bs,F=>fun n=>curT bs fun vs=>F (.pointer n::vs)
 | .sl::bs,F=>fun a n c=>curT bs fun vs=>F (.slice a n c::vs)
 | .map::bs,F=>fun n=>curT bs fun vs=>F (.map n::vs)
 | .fn::bs,F=>fun v=>curT bs fun vs=>F (v::vs)
 | .ifc::bs,F=>fun v=>curT bs fun vs=>F (v::vs)
 | .ad::bs,F=>fun a=>curT bs fun vs=>F (.pointer (some a)::vs)
theorem appT_cur {R:Type}:∀ {bs:List B} {F:List Value→R} {vs:List Value} {K:R→Prop},vs.length=bs.length→appT bs (curT bs F) vs K→K (F vs)
 | [],F,[],K,_,h=>h
 |b::bs,F,v::vs,K,hl,h=>by
  have hl':vs.length=bs.length:=by simpa using hl
  cases b
  case int k=>
   cases v<;>simp only [appT,curT]at h<;>first
    |exact h.elim
    |(obtain⟨hk,h'⟩:=cond_true h
      have hk':=eq_of_beq hk
      subst hk'
      exact appT_cur (bs:=bs) (vs:=vs) hl' h')
  case ad=>
   cases v
   case pointer n=>
    cases n with
    |none=>exact False.elim h
    |some a=>exact appT_cur (bs:=bs) (vs:=vs) hl' h
   all_goals exact False.elim h
  all_goals
   cases v<;>simp only [appT,curT]at h<;>first
    |exact h.elim
    |exact appT_cur (bs:=bs) (vs:=vs) hl' h
 | [],_,_::_,_,hl,_=>by simp at hl
 |_::_,_,[],_,hl,_=>by simp at hl
theorem cur_appT {R:Type}:∀ {bs:List B} {F:List Value→R} {vs:List Value} {K:R→Prop},fitsL bs vs→K (F vs)→appT bs (curT bs F) vs K
 | [],F,[],K,_,h=>h
 |b::bs,F,v::vs,K,hf,h=>by
  obtain⟨h1,h2⟩:=hf
  cases b<;>simp only [fits]at h1
  case int k=>
   obtain⟨n,rfl⟩:=h1
   simp only [appT,curT,beq_self_eq_true]
   exact cur_appT (bs:=bs) h2 h
  case sl=>obtain⟨a,n,c,rfl⟩:=h1;exact cur_appT (bs:=bs) h2 h
  case fn=>exact cur_appT (bs:=bs) h2 h
  case ifc=>exact cur_appT (bs:=bs) h2 h
  case ad=>obtain⟨n,rfl⟩:=h1;exact cur_appT (bs:=bs) h2 h
  all_goals (obtain⟨n,rfl⟩:=h1;exact cur_appT (bs:=bs) h2 h)
 | [],_,_::_,_,hf,_=>hf.elim
 |_::_,_,[],_,hf,_=>hf.elim
theorem AllB_of {b:B} {Q:Value→Prop} (h:∀v,fits b v→Q v):AllB b Q:=by
 cases b<;>simp only [AllB]<;>intros<;>apply h<;>simp [fits]
theorem AllL_of:∀ {bs:List B} {Q:List Value→Prop},(∀vs,fitsL bs vs→Q vs)→AllL bs Q
 | [],_,h=>h [] trivial
 |_::_,_,h=>AllB_of fun v hv=>AllL_of fun vs hvs=>h (v::vs) ⟨hv,hvs⟩
def mask (M:Nat) (f:E):E:=fun t=>cond (Nat.testBit M t) none (f t)
def setL (f:E):List Nat→List Value→E
 |s::ss,v::vs=>setL (upd f s v) ss vs
 |_,_=>f
def getL (f:E):List Nat→(List Value→Prop)→Prop
 | [],K=>K []
 |s::ss,K=>onSome (f s) fun v=>getL f ss fun vs=>K (v::vs)
theorem getL_spec {f:E}:∀ {ss:List Nat} {K:List Value→Prop},getL f ss K→∃vs,K vs∧vs.length=ss.length∧∀(i:Nat) (s:Nat) (v:Value),ss[i]? =some s→vs[i]? =some v→f s=some v
 | [],K,h=>⟨[],h,rfl,fun i s v h=>by simp at h⟩
 |s::ss,K,h=>by
  obtain⟨v,hv,h⟩:=onSome.elim h
  obtain⟨vs,hk,hl,hs⟩:=getL_spec h
  refine⟨v::vs,hk,by simp [hl],fun i s' v' h1 h2=>?_⟩
  cases i with
  |zero=>simp at h1 h2;subst h1 h2;exact hv
  |succ i=>exact hs i s' v' (by simpa using h1) (by simpa using h2)
theorem Rep.upd_known {n:Nat} {a:Act} {g:E} (h:Rep n a g) {s:Nat} {v:Value} (hv:a.tmps.getD s undef=v):Rep n a (upd g s v):=
 ⟨h.defers,h.size,fun t u hu=>by
  unfold upd at hu
  cases ht:Nat.beq t s with
  |true=>
   rw [ht]at hu
   have:=Nat.eq_of_beq_eq_true ht
   subst this
   have hu':some v=some u:=hu
   cases hu'
   exact hv
  |false=>rw [ht]at hu;exact h.val t u hu⟩
theorem Rep.setL {n:Nat} {a:Act}:∀ {ss:List Nat} {vs:List Value} {g:E},Rep n a g→(∀(i:Nat) (s:Nat) (v:Value),ss[i]? =some s→vs[i]? =some v→a.tmps.getD s undef=v)→Rep n a (setL g ss vs)
 | [],_,g,h,_=>by unfold VC.setL;exact h
 |s::ss,[],g,h,_=>by unfold VC.setL;exact h
 |s::ss,v::vs,g,h,hv=>by
  unfold VC.setL
  exact Rep.setL (h.upd_known (hv 0 s v rfl rfl)) fun i s' v' h1 h2=>hv (i+1) s' v' (by simpa using h1) (by simpa using h2)
theorem Rep.mask {n:Nat} {a a':Act} {f f':E} {M:Nat} (h:Rep n a f) (h':Rep n a' f') (hag:∀t,Nat.testBit M t=false→a'.tmps.getD t undef=a.tmps.getD t undef):Rep n a' (mask M f):=
 ⟨h'.defers,h'.size,fun t v hv=>by
  unfold VC.mask at hv
  cases ht:Nat.testBit M t with
  |true=>rw [ht]at hv;cases hv
  |false=>rw [ht]at hv;rw [hag t ht];exact h.val t v hv⟩
inductive Ex where
 |nrm
 |brk (id:Nat)
 |ret
def Ex.to:Ex→Exit
 | .nrm=> .normal
 | .brk id=> .exit id
 | .ret=> .ret
structure Ann where
 loop:Nat→Option (Nat×List Nat×List B)
 join:Nat→Option (Nat×List Nat×List B)
 nf:Nat→List Nat
def firstReg:Code→Nat
 | .region id _ _=>id
 | .seq a _=>firstReg a
 | .block _ c=>firstReg c
 | .loop c=>firstReg c
 | .cond _ x _=>firstReg x
 |_=>1000000
def covOps (M:Nat) (l:List Oper):Bool:=l.all fun o=>match o.dst with|none=>true|some d=>Nat.testBit M d
def cov (M:Nat):Code→Bool
 | .region _ ops _=>covOps M ops.toList
 | .seq a b=>cov M a&&cov M b
 | .cond _ a b=>cov M a&&cov M b
 | .block _ c=>cov M c
 | .loop c=>cov M c
 | .skip=>true
 | .exit _=>true
 | .ret=>true
 |_=>false
def writes:Code→Nat→Prop
 | .region _ ops _,t=>wOps ops.toList t
 | .seq a b,t=>writes a t∨writes b t
 | .cond _ a b,t=>writes a t∨writes b t
 | .block _ c,t=>writes c t
 | .loop c,t=>writes c t
 |_,_=>False
theorem cov_spec {M:Nat}:∀ {c:Code} {t:Nat},cov M c=true→writes c t→Nat.testBit M t=true
 | .region _ ops _,t,h,⟨o,ho,hd⟩=>by
   have:=List.all_eq_true.1 h o ho
   rw [hd]at this
   exact this
 | .seq a b,t,h,hw=>by
   simp only [cov,Bool.and_eq_true]at h
   rcases hw with hw|hw
   · exact cov_spec h.1 hw
   · exact cov_spec h.2 hw
 | .cond _ a b,t,h,hw=>by
   simp only [cov,Bool.and_eq_true]at h
   rcases hw with hw|hw
   · exact cov_spec h.1 hw
   · exact cov_spec h.2 hw
 | .block _ c,t,h,hw=>cov_spec (c:=c) h hw
 | .loop c,t,h,hw=>cov_spec (c:=c) h hw
section
variable (P:Program) (T:Nat→TI) (fok:Nat→Bool) (n:Nat) (A:Ann)
def vcC:Nat→Code→E→World→(Ex→E→World→Prop)→Prop
 |_,.skip,f,w,K=>K .nrm f w
 |_,.region id ops draw,f,w,K=>cond draw (vcDraw P T fok (A.nf id) n ops f w fun f' w'=>K .nrm f' w') (vcOps P T fok n ops ops.toList f w fun f' w'=>K .nrm f' w')
 |cur,.seq a b,f,w,K=>
  match A.join (firstReg b)with
  |none=>vcC cur a f w fun e f' w'=>match e with| .nrm=>vcC cur b f' w' K|e=>K e f' w'
  |some (M,slots,tys)=>cond (cov M a&&slots.length==tys.length)
   (∀J:CurT (World→Prop) tys,(AllL tys fun vs=>∀w1,vcC cur b (setL (mask M f) slots vs) w1 K→appT tys J vs fun j=>j w1)→
    vcC cur a f w fun e f' w'=>match e with| .nrm=>getL f' slots fun vs=>appT tys J vs fun j=>j w'|e=>K e f' w') False
 |cur,.cond c x y,f,w,K=>
  cond (knO f c) (match evD f c with
   | .bool b=>cond b (vcC cur x f w K) (vcC cur y f w K)
   |_=>False) False
 |_,.block id c,f,w,K=>vcC id c f w fun e f' w'=>match e with| .brk id'=>cond (Nat.beq id' id) (K .nrm f' w') (K (.brk id') f' w')|e=>K e f' w'
 |cur,.loop c,f,w,K=>
  match A.loop cur with
  |none=>False
  |some (M,slots,tys)=>cond (cov M c&&slots.length==tys.length)
   (∃I:Nat→CurT (World→Prop) tys,(∃m,getL f slots fun vs=>appT tys (I m) vs fun i=>i w)∧
    ∀m,AllL tys fun vs=>∀w1,appT tys (I m) vs (fun i=>i w1)→
     vcC cur c (setL (mask M f) slots vs) w1 fun e f' w'=>match e with
      | .nrm=>∃m',m'<m∧getL f' slots fun vs'=>appT tys (I m') vs' fun i=>i w'
      |e=>K e f' w') False
 |_,.exit id,f,w,K=>K (.brk id) f w
 |_,.ret,f,w,K=>K .ret f w
 |_,_,_,_,_=>False
end
section
variable {P:Program} {T:Nat→TI} {fok:Nat→Bool} {n:Nat} {A:Ann}
def PostC (n:Nat) (c:Code) (K:Ex→E→World→Prop) (a:Act):Exit→Act→World→Prop:=
 fun e a' w'=>∃x f',e=x.to∧K x f' w'∧Rep n a' f'∧Agree (writes c) a a'
theorem vcC_sound (H:Tab P T fok):∀(c:Code) (cur:Nat) {f:E} {w:World} {K:Ex→E→World→Prop} {a:Act},Rep n a f→vcC P T fok n A cur c f w K→c.wp P (PostC n c K a) a w
 | .skip,cur,f,w,K,a,hr,h=>wp_skip ⟨.nrm,f,rfl,h,hr,Agree.refl _ _⟩
 | .region id ops true,cur,f,w,K,a,hr,h=>by
   refine wp_mono (vcDraw_sound H (id:=id) hr (show vcDraw P T fok (A.nf id) n ops f w _ from h)) ?_
   rintro e a' w' ⟨rfl,f',h1,h2,h3⟩
   exact⟨.nrm,f',rfl,h1,h2,h3⟩
 | .region id ops false,cur,f,w,K,a,hr,h=>by
   refine wp_region_list ?_
   exact vcOps_sound H ops.toList hr (show vcOps P T fok n ops ops.toList f w _ from h) fun a' f' w' h1 h2 h3=>⟨.nrm,f',rfl,h1,h2,h3⟩
 | .seq x y,cur,f,w,K,a,hr,h=>by
   refine wp_seq ?_
   unfold vcC at h
   split at h
   · refine wp_mono (vcC_sound H x cur hr h) ?_
     rintro e a' w' ⟨ex,f',rfl,h1,h2,h3⟩
     cases ex with
     |nrm=>
      refine wp_mono (vcC_sound H y cur h2 h1) ?_
      rintro e a2 w2 ⟨ex,f2,rfl,k1,k2,k3⟩
      exact⟨ex,f2,rfl,k1,k2,(h3.mono fun t=> .inl).trans (k3.mono fun t=> .inr)⟩
     |brk id=>exact⟨.brk id,f',rfl,h1,h2,h3.mono fun t=> .inl⟩
     |ret=>exact⟨.ret,f',rfl,h1,h2,h3.mono fun t=> .inl⟩
   · rename_i M slots tys _
     obtain⟨hc,h⟩:=cond_true h
     simp only [Bool.and_eq_true,beq_iff_eq]at hc
     have hJ:=h (curT tys fun vs w1=>vcC P T fok n A cur y (setL (mask M f) slots vs) w1 K) (by
      have key:∀vs,fitsL tys vs→∀w1,vcC P T fok n A cur y (setL (mask M f) slots vs) w1 K→appT tys (curT tys fun vs w1=>vcC P T fok n A cur y (setL (mask M f) slots vs) w1 K) vs fun j=>j w1:=
       fun vs hf w1 hh=>cur_appT (bs:=tys) hf hh
      exact AllL_of key)
     refine wp_mono (vcC_sound H x cur hr hJ) ?_
     rintro e a' w' ⟨ex,f',rfl,h1,h2,h3⟩
     cases ex with
     |nrm=>
      obtain⟨vs,hv1,hv2,hv3⟩:=getL_spec h1
      have hy:=appT_cur (by rw [hv2,hc.2]) hv1
      have hrep:Rep n a' (setL (mask M f) slots vs):=Rep.setL (Rep.mask hr h2 fun t ht=>h3 t fun hw=>by rw [cov_spec hc.1 hw]at ht;cases ht) fun i s v e1 e2=>h2.val s v (hv3 i s v e1 e2)
      refine wp_mono (vcC_sound H y cur hrep hy) ?_
      rintro e a2 w2 ⟨ex,f2,rfl,k1,k2,k3⟩
      exact⟨ex,f2,rfl,k1,k2,(h3.mono fun t=> .inl).trans (k3.mono fun t=> .inr)⟩
     |brk id=>exact⟨.brk id,f',rfl,h1,h2,h3.mono fun t=> .inl⟩
     |ret=>exact⟨.ret,f',rfl,h1,h2,h3.mono fun t=> .inl⟩
 | .cond c x y,cur,f,w,K,a,hr,h=>by
   unfold vcC at h
   obtain⟨hk,h⟩:=cond_true h
   have he:=hr.eval hk
   split at h
   · rename_i b hb
     rw [hb]at he
     cases b with
     |true=>
      refine wp_cond_true he (wp_mono (vcC_sound H x cur hr h) ?_)
      rintro e a' w' ⟨ex,f',rfl,h1,h2,h3⟩
      exact⟨ex,f',rfl,h1,h2,h3.mono fun t=> .inl⟩
     |false=>
      refine wp_cond_false he (wp_mono (vcC_sound H y cur hr h) ?_)
      rintro e a' w' ⟨ex,f',rfl,h1,h2,h3⟩
      exact⟨ex,f',rfl,h1,h2,h3.mono fun t=> .inr⟩
   · exact h.elim
 | .block id c,cur,f,w,K,a,hr,h=>by
   refine wp_block (wp_mono (vcC_sound H c id hr (show vcC P T fok n A id c f w _ from h)) ?_)
   rintro e a' w' ⟨ex,f',rfl,h1,h2,h3⟩
   cases ex with
   |nrm=>exact⟨.nrm,f',rfl,h1,h2,h3⟩
   |ret=>exact⟨.ret,f',rfl,h1,h2,h3⟩
   |brk id'=>
    show(if id'=id then _ else _)
    by_cases hid:id'=id
    · rw [if_pos hid]
      have:Nat.beq id' id=true:=by subst hid;simp
      simp only [this]at h1
      exact⟨.nrm,f',rfl,h1,h2,h3⟩
    · rw [if_neg hid]
      have:Nat.beq id' id=false:=by
       cases hb:Nat.beq id' id with
       |false=>rfl
       |true=>exact absurd (Nat.eq_of_beq_eq_true hb) hid
      simp only [this]at h1
      exact⟨.brk id',f',rfl,h1,h2,h3⟩
 | .loop c,cur,f,w,K,a,hr,h=>by
   unfold vcC at h
   split at h
   · exact h.elim
   · rename_i M slots tys _
     obtain⟨hc,h⟩:=cond_true h
     simp only [Bool.and_eq_true,beq_iff_eq]at hc
     obtain⟨I,⟨m0,h0⟩,hround⟩:=h
     refine wp_loop_ghost (fun m a' w'=>∃vs,fitsL tys vs∧Rep n a' (setL (mask M f) slots vs)∧(appT tys (I m) vs fun i=>i w')∧Agree (writes c) a a') m0 ?_ ?_
     · obtain⟨vs,hv1,hv2,hv3⟩:=getL_spec h0
       exact⟨vs,(appT_spec hv1 (by rw [hv2,hc.2])).1,Rep.setL (Rep.mask hr hr fun t _=>rfl) fun i s v e1 e2=>hr.val s v (hv3 i s v e1 e2),hv1,Agree.refl _ _⟩
     · rintro m a1 w1 ⟨vs,hf,hrep,hI,hag⟩
       have hb:=AllL.at_ (hround m) hf w1 hI
       refine wp_mono (vcC_sound H c cur hrep hb) ?_
       rintro e a' w' ⟨ex,f',rfl,h1,h2,h3⟩
       cases ex with
       |nrm=>
        obtain⟨m',hm,h1⟩:=h1
        obtain⟨vs',hv1,hv2,hv3⟩:=getL_spec h1
        refine⟨m',hm,vs',(appT_spec hv1 (by rw [hv2,hc.2])).1,?_,hv1,hag.trans h3⟩
        exact Rep.setL (Rep.mask hr h2 fun t ht=>(hag.trans h3) t fun hw=>by rw [cov_spec hc.1 hw]at ht;cases ht) fun i s v e1 e2=>h2.val s v (hv3 i s v e1 e2)
       |brk id=>exact⟨.brk id,f',rfl,h1,h2,hag.trans h3⟩
       |ret=>exact⟨.ret,f',rfl,h1,h2,hag.trans h3⟩
 | .exit id,cur,f,w,K,a,hr,h=>wp_exit ⟨.brk id,f,rfl,h,hr,Agree.refl _ _⟩
 | .ret,cur,f,w,K,a,hr,h=>wp_ret ⟨.ret,f,rfl,h,hr,Agree.refl _ _⟩
 | .rangeFunc ..,_,_,_,_,_,_,h=>False.elim h
 | .scope _,_,_,_,_,_,_,h=>False.elim h
 | .label _,_,_,_,_,_,_,h=>False.elim h
 | .goto _,_,_,_,_,_,_,h=>False.elim h
 | .refuse _,_,_,_,_,_,_,h=>False.elim h
end
end Go.Proofs.VC
namespace Go.Proofs.VC
open Go
def resV (T:Nat→TI) (f:E) (w:World):List ResultVar→(List Value→Prop)→Prop
 | [],K=>K []
 | .tmp t::rs,K=>onSome (f t) fun v=>resV T f w rs fun vs=>K (v::vs)
 | .cell a t::rs,K=>
   match f a with
   |some (.pointer (some p))=>
    cond (typed (T t).d)
     (cond (isAggD (T t).d) (ExL (T t).fl fun cs=>LdL w p 0 cs∧resV T f w rs fun vs=>K (.agg cs.toArray::vs))
      (ExV (T t) fun v=>w.cell? p=some v∧resV T f w rs fun vs=>K (v::vs))) False
   |_=>False
def oneOf:List Value→Value
 | [v]=>v
 |vs=> .tuple vs.toArray
section
variable {P:Program} {T:Nat→TI} {fok:Nat→Bool}
theorem resV_sound (H:Tab P T fok) {n:Nat} {a:Act} {f:E} {w:World} (hr:Rep n a f):∀ {rs:List ResultVar} {K:List Value→Prop},resV T f w rs K→
 ∃vs,K vs∧(rs.mapM (m:=Sem) (fun| .tmp t=>pure (a.tmps.getD t undef)| .cell b t=>do loadVar t (←asAddr (a.tmps.getD b undef)))).run P w= .ok vs w
 | [],K,h=>⟨[],h,rfl⟩
 | .tmp t::rs,K,h=>by
   obtain⟨v,hv,h⟩:=onSome.elim h
   obtain⟨vs,hk,hrun⟩:=resV_sound H hr h
   refine⟨v::vs,hk,?_⟩
   rw [List.mapM_cons,Sem.run_bind]
   simp only [Sem.run_pure,Result.andThen,hr.val t v hv]
   rw [Sem.run_bind,hrun]
   rfl
 | .cell b t::rs,K,h=>by
   simp only [resV]at h
   split at h
   · rename_i p hp
     have hb:=hr.val b _ hp
     obtain⟨ht,h⟩:=cond_true h
     cases hagg:isAggD (T t).d with
     |true=>
      rw [hagg]at h
      obtain⟨cs,hl,hld,h⟩:=ExL.elim h
      obtain⟨vs,hk,hrun⟩:=resV_sound H hr h
      have hload:=run_load_agg H ht hagg hl hld
      simp only [Instr.loadAt,Instr.sureAddr,Sem.run_bind,Sem.run_pure,Result.andThen]at hload
      refine⟨_,hk,?_⟩
      have hhead:(do loadVar t (←asAddr (a.tmps.getD b undef)):Sem Value).run P w= .ok (.agg cs.toArray) w:=by
       rw [hb,Sem.run_bind]
       exact hload
      rw [List.mapM_cons,Sem.run_bind]
      refine(congrArg (fun r=>Result.andThen r _) hhead).trans ?_
      simp only [Result.andThen]
      rw [Sem.run_bind,hrun]
      rfl
     |false=>
      rw [hagg]at h
      replace h:ExV (T t) (fun v=>w.cell? p=some v∧resV T f w rs fun vs=>K (v::vs)):=h
      obtain⟨v,hv,h⟩:=ExV.elim h
      obtain⟨vs,hk,hrun⟩:=resV_sound H hr h
      have hload:=run_load_one H ht hagg hv
      simp only [Instr.loadAt,Instr.sureAddr,Sem.run_bind,Sem.run_pure,Result.andThen]at hload
      refine⟨_,hk,?_⟩
      have hhead:(do loadVar t (←asAddr (a.tmps.getD b undef)):Sem Value).run P w= .ok v w:=by
       rw [hb,Sem.run_bind]
       exact hload
      rw [List.mapM_cons,Sem.run_bind]
      refine(congrArg (fun r=>Result.andThen r _) hhead).trans ?_
      simp only [Result.andThen]
      rw [Sem.run_bind,hrun]
      rfl
   · exact h.elim
def vcF (P:Program) (T:Nat→TI) (fok:Nat→Bool) (A:Ann) (n:Nat) (c:Code) (rs:List ResultVar) (args:List Value) (w:World) (R:Value→World→Prop):Prop:=
 cond (Nat.ble args.length n) (vcC P T fok n A 0 c (fun t=>some (args.getD t undef)) w fun e f' w'=>match e with
  | .brk _=>False
  |_=>resV T f' w' rs fun vs=>R (oneOf vs) w') False
theorem calls_of_vc (H:Tab P T fok) {A:Ann} {k:Nat} {fn:Func} {c:Code} (hf:P.funcs[k]? =some fn) (hb:fn.body=some c) {args:List Value} {w:World} {R:Value→World→Prop}
 (h:vcF P T fok A fn.ntmps c fn.results.toList args w R):Calls P k args.toArray w fun e w'=>∃v,e= .returned v∧R v w':=by
 obtain⟨hn,h⟩:=cond_true h
 have hn':args.length≤fn.ntmps:=Nat.le_of_ble_eq_true hn
 refine calls_of_wp hf hb ?_
 have hrep:Rep fn.ntmps {tmps:=args.toArray++Array.replicate (fn.ntmps-args.toArray.size) undef,defers:= []} (fun t=>some (args.getD t undef)):=by
  refine⟨rfl,by simp;omega,fun t v hv=>?_⟩
  simp only [Option.some.injEq]at hv
  subst hv
  have e:∀(xs:Array Value) (m t:Nat),(xs++Array.replicate m undef).getD t undef=xs.getD t undef:=by
   intro xs m t
   simp only [Array.getD_eq_getD_getElem?]
   by_cases h1:t<xs.size
   · rw [Array.getElem?_append_left h1]
   · rw [Array.getElem?_append_right (Nat.le_of_not_lt h1),Array.getElem?_eq_none (Nat.le_of_not_lt h1)]
     by_cases h2:t-xs.size<m
     · rw [Array.getElem?_replicate,if_pos h2];rfl
     · rw [Array.getElem?_replicate,if_neg h2]
  rw [e]
  simp
 refine wp_mono (vcC_sound H c 0 hrep h) ?_
 rintro e a' w' ⟨ex,f',rfl,h1,h2,h3⟩
 have fin:(resV T f' w' fn.results.toList fun vs=>R (oneOf vs) w')→a'.defers= []∧∃v,(results fn a'.tmps).run P w'= .ok v w'∧∃u,Ending.returned v= .returned u∧R u w':=by
  intro h
  obtain⟨vs,hk,hrun⟩:=resV_sound (P:=P) H h2 h
  refine⟨h2.defers,oneOf vs,?_,_,rfl,hk⟩
  unfold results
  rw [Sem.run_bind,Array.mapM_eq_mapM_toList,Sem.run_map]
  refine(congrArg (fun r:Result (List Value)=>(r.andThen fun a w'=>Result.ok a.toArray w').andThen fun a w'=>(pure (if h:a.size=1 then a[0]else Value.tuple a):Sem Value).run P w') hrun).trans ?_
  simp only [Result.andThen,Sem.run_pure]
  match vs with
  | []=>rfl
  | [v]=>rfl
  |v::u::vs=>simp [oneOf]
 cases ex with
 |nrm=>exact fin h1
 |ret=>exact fin h1
 |brk id=>exact h1.elim
end
end Go.Proofs.VC
namespace Go.Proofs.VC
open Go
def fenceR (ro:Option Nat):Fence:= {Fence.wide with round:=ro}
def dl (ds:List Deferred) (a:Act):Act:= {a with defers:=a.defers++ds}
def noDefer (o:Oper):Bool:=match o.op with| .defer _=>false|_=>true
def LQ (ds:List Deferred) (Q:Exit→Act→World→Prop):Exit→Act→World→Prop:=fun e a' w'=>∃a0,Q e a0 w'∧a'=dl ds a0
theorem dl_put (ds:List Deferred) (a:Act) (d:Option Tmp) (v:Value):(dl ds a).put d v=dl ds (a.put d v):=by cases d<;>rfl
theorem dl_eval (ds:List Deferred) (a:Act):(dl ds a).eval=a.eval:=rfl
section
variable {P:Program} {ro:Option Nat} {m:Nat} {ds:List Deferred} {Q:Exit→Act→World→Prop}
theorem semAt_any {o:Oper} (ho:noDefer o=true) (ρ:Operand→Value):Oper.semAt ro ρ o=execOp ρ o:=by
 cases ro with
 |none=>rfl
 |some l=>
  refine Oper.semAt_some l ρ o fun c hc=>?_
  simp [noDefer,hc]at ho
theorem calls_lift {f:FuncId} {args:Array Value} {w:World} {R:Ending→World→Prop} (h:Calls P f args w R):CallsIn (fenceR ro) m P f args w R:=callsIn_wide.2 h
theorem rows_lift {row:String} {args:Array Value} {w:World} {R:Value→World→Prop} (h:Rows P row args w R):RowsIn (fenceR ro) m P row args w R:=fun c cs _=>by
 obtain⟨v,w',r,s⟩:=h c cs
 exact⟨v,w',r,stepsIn_wide.2 s⟩
theorem op_lift {o:Oper} {a:Act} {w:World} {K K':Act→World→Prop} (ho:noDefer o=true) (hO:¬LetsOut Q) (hK:∀a w,K a w→K' (dl ds a) w) (h:o.wp P a w K Q):
 o.wpIn (fenceR ro) m P (dl ds a) w K' (LQ ds Q):=by
 refine⟨fun _ _=>trivial,?_⟩
 rw [dl_eval,semAt_any ho]
 unfold Oper.wp at h
 cases hr:(execOp a.eval o).run P w with
 |ok n w'=>
  rw [hr]at h
  cases n with
  |value v=>show K' _ _;rw [dl_put];exact hK _ _ h
  |skip=>show K' _ _;rw [dl_put];exact hK _ _ h
  |defer d=>
   show K' _ _
   have:=hK _ _ h
   rw [←dl_put]at this
   exact this
  |enter f args=>
   refine⟨(fun hd=>by cases hd),?_⟩
   refine CallsIn.mono (calls_lift h) ?_
   rintro e w2 hh
   cases e with
   |returned v=>show K' _ _;rw [dl_put];exact hK _ _ hh
   |panicked c=>exact⟨a,hh,rfl⟩
   |outgrown=>exact absurd hh hO
  |row row args=>
   refine⟨(fun hd=>by cases hd),?_⟩
   refine RowsIn.mono (rows_lift h) ?_
   intro v w2 hh
   show K' _ _;rw [dl_put];exact hK _ _ hh
  |_=>exact h.elim
 |halt x w'=>
  rw [hr]at h
  cases x with
  |panic v=>exact⟨a,h,rfl⟩
  |_=>exact h.elim
variable {ops:Array Oper}
theorem list_lift (hO:¬LetsOut Q):∀(l:List Oper) {a:Act} {w:World},(∀o∈l,noDefer o=true)→wpList P ops Q l a w→wpListIn (fenceR ro) m P ops (LQ ds Q) l (dl ds a) w
 | [],a,w,_,h=>⟨a,h,rfl⟩
 |o::l,a,w,hd,h=>by
  unfold wpListIn
  unfold wpList at h
  have e:yielded ops (dl ds a).tmps=yielded ops a.tmps:=rfl
  rw [e]
  split
  · rename_i hw
    rw [if_pos hw]at h
    rcases h with h|h
    · exact op_lift (hd o (by simp)) hO (fun a w hk=>list_lift hO l (fun o ho=>hd o (by simp [ho])) hk) h
    · exact absurd h.2 hO
  · rename_i hw
    rw [if_neg hw]at h
    rw [dl_put]
    exact⟨fun _ _=>trivial,list_lift hO l (fun o ho=>hd o (by simp [ho])) h⟩
theorem any_lift (hO:¬LetsOut Q) (hd:∀o∈ops.toList,noDefer o=true):∀(fuel:Nat) {listed:Array Bool} {a:Act} {w:World},wpAny P .any ops Q fuel listed a w→
 wpAnyIn (fenceR ro) m P .any ops (LQ ds Q) fuel listed (dl ds a) w
 |0,listed,a,w,h=>⟨h.1,a,h.2,rfl⟩
 |fuel+1,listed,a,w,h=>by
  refine⟨fun hr=>⟨a,h.1 hr,rfl⟩,fun i hi=>?_⟩
  have hx:=h.2 i hi
  unfold wpOpIn
  unfold wpOp at hx
  have e:yielded ops (dl ds a).tmps=yielded ops a.tmps:=rfl
  rw [e]
  cases ho:ops[i]? with
  |none=>rw [ho]at hx;exact any_lift hO hd fuel hx
  |some o=>
   rw [ho]at hx
   simp only at hx ⊢
   split
   · rename_i hw
     rw [if_pos hw]at hx
     rcases hx with hx|hx
     · exact op_lift (hd o (mem_of_get ho)) hO (fun a w hk=>any_lift hO hd fuel hk) hx
     · exact absurd hx.2 hO
   · rename_i hw
     rw [if_neg hw]at hx
     rw [dl_put]
     exact⟨fun _ _=>trivial,any_lift hO hd fuel hx⟩
end
def noDef:Code→Bool
 | .region _ ops _=>ops.toList.all noDefer
 | .seq a b=>noDef a&&noDef b
 | .cond _ a b=>noDef a&&noDef b
 | .block _ c=>noDef c
 | .loop c=>noDef c
 | .skip=>true
 | .exit _=>true
 | .ret=>true
 |_=>false
section
variable {P:Program} {T:Nat→TI} {fok:Nat→Bool} {n:Nat} {A:Ann} {ro:Option Nat} {m:Nat} {ds:List Deferred}
theorem wpIn_loop_by {F:Fence} {Q:Exit→Act→World→Prop} {a:Act} {w:World} {c:Code} (I:Nat→Act→World→Prop) (n0:Nat) (h0:I n0 a w)
 (round:∀k a w,I k a w→c.wpIn F m P (Exit.then (fun a' w'=>∃k',k'<k∧I k' a' w') Q) a w):(Code.loop c).wpIn F m P Q a w:=by
 refine wpIn_loop (fun a w=>∃k,I k a w) (fun a w=>leastOf (fun k=>I k a w)) ⟨n0,h0⟩ ?_
 intro a w hI
 refine wpIn_mono (round _ a w (leastOf_spec hI).1) ?_
 intro e a' w' hq
 cases e with
 |normal=>
  obtain⟨k',hlt,hI'⟩:=hq
  exact⟨⟨k',hI'⟩,Nat.lt_of_le_of_lt ((leastOf_spec ⟨k',hI'⟩).2 k' hI') hlt⟩
 |_=>exact hq
theorem postC_out {c:Code} {K:Ex→E→World→Prop} {a:Act}:¬LetsOut (PostC n c K a):=by
 rintro⟨a',w',x,f',he,_⟩
 cases x<;>cases he
def PostL (ds:List Deferred) (n:Nat) (c:Code) (K:Ex→E→World→Prop) (a:Act):Exit→Act→World→Prop:=LQ ds (PostC n c K a)
theorem vcC_soundL (H:Tab P T fok):∀(c:Code) (cur:Nat) {f:E} {w:World} {K:Ex→E→World→Prop} {a:Act},noDef c=true→Rep n a f→vcC P T fok n A cur c f w K→
 c.wpIn (fenceR ro) m P (PostL ds n c K a) (dl ds a) w
 | .skip,cur,f,w,K,a,hd,hr,h=>wpIn_skip ⟨a,⟨.nrm,f,rfl,h,hr,Agree.refl _ _⟩,rfl⟩
 | .region id ops true,cur,f,w,K,a,hd,hr,h=>by
   have hd':∀o∈ops.toList,noDefer o=true:=List.all_eq_true.1 hd
   have h:vcDraw P T fok (A.nf id) n ops f w (fun f' w'=>K .nrm f' w'):=h
   obtain⟨hs,h⟩:=cond_true h
   refine wpIn_region_any H.mixed ?_
   refine any_lift postC_out hd' _ ?_
   have hQ:noPanic (PostC n (.region id ops true) K a):=fun c a w h=>by
    obtain⟨x,f',he,_⟩:=h
    cases x<;>cases he
   exact wpAny_of_G (Sl:= []) _ _ _ _ (orderP_sound H hs hQ (K:=fun f' w'=>K .nrm f' w') (a0:=a) (fun a2 f2 w2 k2 r2 g2=>⟨.nrm,f2,rfl,k2,r2,g2⟩) _ hr (Agree.refl _ _) (h _ rfl))
 | .region id ops false,cur,f,w,K,a,hd,hr,h=>by
   have hd':∀o∈ops.toList,noDefer o=true:=List.all_eq_true.1 hd
   refine wpIn_region_list ?_
   refine list_lift postC_out ops.toList hd' ?_
   exact vcOps_sound H ops.toList hr (show vcOps P T fok n ops ops.toList f w _ from h) fun a' f' w' h1 h2 h3=>⟨.nrm,f',rfl,h1,h2,h3⟩
 | .seq x y,cur,f,w,K,a,hd,hr,h=>by
   simp only [noDef,Bool.and_eq_true]at hd
   refine wpIn_seq ?_
   unfold vcC at h
   split at h
   · refine wpIn_mono (vcC_soundL H x cur hd.1 hr h) ?_
     rintro e a' w' ⟨a0,⟨ex,f',rfl,h1,h2,h3⟩,rfl⟩
     cases ex with
     |nrm=>
      refine wpIn_mono (vcC_soundL H y cur hd.2 h2 h1) ?_
      rintro e a2 w2 ⟨a2,⟨ex,f2,rfl,k1,k2,k3⟩,rfl⟩
      exact⟨a2,⟨ex,f2,rfl,k1,k2,(h3.mono fun t=> .inl).trans (k3.mono fun t=> .inr)⟩,rfl⟩
     |brk id=>exact⟨a0,⟨.brk id,f',rfl,h1,h2,h3.mono fun t=> .inl⟩,rfl⟩
     |ret=>exact⟨a0,⟨.ret,f',rfl,h1,h2,h3.mono fun t=> .inl⟩,rfl⟩
   · rename_i M slots tys _
     obtain⟨hc,h⟩:=cond_true h
     simp only [Bool.and_eq_true,beq_iff_eq]at hc
     have hJ:=h (curT tys fun vs w1=>vcC P T fok n A cur y (setL (mask M f) slots vs) w1 K) (by
      have key:∀vs,fitsL tys vs→∀w1,vcC P T fok n A cur y (setL (mask M f) slots vs) w1 K→appT tys (curT tys fun vs w1=>vcC P T fok n A cur y (setL (mask M f) slots vs) w1 K) vs fun j=>j w1:=
       fun vs hf w1 hh=>cur_appT (bs:=tys) hf hh
      exact AllL_of key)
     refine wpIn_mono (vcC_soundL H x cur hd.1 hr hJ) ?_
     rintro e a' w' ⟨a0,⟨ex,f',rfl,h1,h2,h3⟩,rfl⟩
     cases ex with
     |nrm=>
      obtain⟨vs,hv1,hv2,hv3⟩:=getL_spec h1
      have hy:=appT_cur (by rw [hv2,hc.2]) hv1
      have hrep:Rep n a0 (setL (mask M f) slots vs):=Rep.setL (Rep.mask hr h2 fun t ht=>h3 t fun hw=>by rw [cov_spec hc.1 hw]at ht;cases ht) fun i s v e1 e2=>h2.val s v (hv3 i s v e1 e2)
      refine wpIn_mono (vcC_soundL H y cur hd.2 hrep hy) ?_
      rintro e a2 w2 ⟨a2,⟨ex,f2,rfl,k1,k2,k3⟩,rfl⟩
      exact⟨a2,⟨ex,f2,rfl,k1,k2,(h3.mono fun t=> .inl).trans (k3.mono fun t=> .inr)⟩,rfl⟩
     |brk id=>exact⟨a0,⟨.brk id,f',rfl,h1,h2,h3.mono fun t=> .inl⟩,rfl⟩
     |ret=>exact⟨a0,⟨.ret,f',rfl,h1,h2,h3.mono fun t=> .inl⟩,rfl⟩
 | .cond c x y,cur,f,w,K,a,hd,hr,h=>by
   simp only [noDef,Bool.and_eq_true]at hd
   unfold vcC at h
   obtain⟨hk,h⟩:=cond_true h
   have he:(dl ds a).eval c=evD f c:=hr.eval hk
   split at h
   · rename_i b hb
     rw [hb]at he
     cases b with
     |true=>
      refine wpIn_cond_true he (wpIn_mono (vcC_soundL H x cur hd.1 hr h) ?_)
      rintro e a' w' ⟨a0,⟨ex,f',rfl,h1,h2,h3⟩,rfl⟩
      exact⟨a0,⟨ex,f',rfl,h1,h2,h3.mono fun t=> .inl⟩,rfl⟩
     |false=>
      refine wpIn_cond_false he (wpIn_mono (vcC_soundL H y cur hd.2 hr h) ?_)
      rintro e a' w' ⟨a0,⟨ex,f',rfl,h1,h2,h3⟩,rfl⟩
      exact⟨a0,⟨ex,f',rfl,h1,h2,h3.mono fun t=> .inr⟩,rfl⟩
   · exact h.elim
 | .block id c,cur,f,w,K,a,hd,hr,h=>by
   refine wpIn_block (wpIn_mono (vcC_soundL H c id hd hr (show vcC P T fok n A id c f w _ from h)) ?_)
   rintro e a' w' ⟨a0,⟨ex,f',rfl,h1,h2,h3⟩,rfl⟩
   cases ex with
   |nrm=>exact⟨a0,⟨.nrm,f',rfl,h1,h2,h3⟩,rfl⟩
   |ret=>exact⟨a0,⟨.ret,f',rfl,h1,h2,h3⟩,rfl⟩
   |brk id'=>
    show(if id'=id then _ else _)
    by_cases hid:id'=id
    · rw [if_pos hid]
      have:Nat.beq id' id=true:=by subst hid;simp
      simp only [this]at h1
      exact⟨a0,⟨.nrm,f',rfl,h1,h2,h3⟩,rfl⟩
    · rw [if_neg hid]
      have:Nat.beq id' id=false:=by
       cases hb:Nat.beq id' id with
       |false=>rfl
       |true=>exact absurd (Nat.eq_of_beq_eq_true hb) hid
      simp only [this]at h1
      exact⟨a0,⟨.brk id',f',rfl,h1,h2,h3⟩,rfl⟩
 | .loop c,cur,f,w,K,a,hd,hr,h=>by
   unfold vcC at h
   split at h
   · exact h.elim
   · rename_i M slots tys _
     obtain⟨hc,h⟩:=cond_true h
     simp only [Bool.and_eq_true,beq_iff_eq]at hc
     obtain⟨I,⟨m0,h0⟩,hround⟩:=h
     refine wpIn_loop_by (fun m a2 w'=>∃a',a2=dl ds a'∧∃vs,fitsL tys vs∧Rep n a' (setL (mask M f) slots vs)∧(appT tys (I m) vs fun i=>i w')∧Agree (writes c) a a') m0 ?_ ?_
     · obtain⟨vs,hv1,hv2,hv3⟩:=getL_spec h0
       exact⟨a,rfl,vs,(appT_spec hv1 (by rw [hv2,hc.2])).1,Rep.setL (Rep.mask hr hr fun t _=>rfl) fun i s v e1 e2=>hr.val s v (hv3 i s v e1 e2),hv1,Agree.refl _ _⟩
     · rintro k a1 w1 ⟨a1,rfl,vs,hf,hrep,hI,hag⟩
       have hb:=AllL.at_ (hround k) hf w1 hI
       refine wpIn_mono (vcC_soundL H c cur hd hrep hb) ?_
       rintro e a' w' ⟨a0,⟨ex,f',rfl,h1,h2,h3⟩,rfl⟩
       cases ex with
       |nrm=>
        obtain⟨m',hm,h1⟩:=h1
        obtain⟨vs',hv1,hv2,hv3⟩:=getL_spec h1
        refine⟨m',hm,a0,rfl,vs',(appT_spec hv1 (by rw [hv2,hc.2])).1,?_,hv1,hag.trans h3⟩
        exact Rep.setL (Rep.mask hr h2 fun t ht=>(hag.trans h3) t fun hw=>by rw [cov_spec hc.1 hw]at ht;cases ht) fun i s v e1 e2=>h2.val s v (hv3 i s v e1 e2)
       |brk id=>exact⟨a0,⟨.brk id,f',rfl,h1,h2,hag.trans h3⟩,rfl⟩
       |ret=>exact⟨a0,⟨.ret,f',rfl,h1,h2,hag.trans h3⟩,rfl⟩
 | .exit id,cur,f,w,K,a,hd,hr,h=>wpIn_exit ⟨a,⟨.brk id,f,rfl,h,hr,Agree.refl _ _⟩,rfl⟩
 | .ret,cur,f,w,K,a,hd,hr,h=>wpIn_ret ⟨a,⟨.ret,f,rfl,h,hr,Agree.refl _ _⟩,rfl⟩
 | .rangeFunc ..,_,_,_,_,_,_,_,h=>False.elim h
 | .scope _,_,_,_,_,_,_,_,h=>False.elim h
 | .label _,_,_,_,_,_,_,_,h=>False.elim h
 | .goto _,_,_,_,_,_,_,_,h=>False.elim h
 | .refuse _,_,_,_,_,_,_,_,h=>False.elim h
end
end Go.Proofs.VC
namespace Go.Proofs.VC
open Go Go.RowKit
theorem OSome.i {α:Type} {x:α} {K:α→Prop} (h:K x):OSome (some x) K:=⟨x,rfl,h⟩
@[simp] theorem OSome_some {α:Type} {x:α} {K:α→Prop}:OSome (some x) K↔K x:=⟨fun⟨_,e,h⟩=>by cases e;exact h,OSome.i⟩
theorem bif_i {c:Bool} {A B:Prop} (h1:c=true→A) (h2:c=false→B):bif c then A else B:=by
 cases c with
 |true=>exact h1 rfl
 |false=>exact h2 rfl
@[simp] theorem add_lit (b o n:Nat):(⟨b,o,none⟩:Addr).add n=⟨b,o+n,none⟩:=by
  unfold Addr.add;split<;>simp_all
theorem A0_add (b n:Nat):(A0 b).add n=⟨b,n,none⟩:=by simp [A0]
theorem add_add (p:Addr) (i j:Nat):(p.add i).add j=p.add (i+j):=by
 unfold Addr.add
 by_cases hi:i=0
 · subst hi;simp
 · by_cases hj:j=0
   · subst hj;simp [hi]
   · simp [hi,hj,Nat.add_assoc]
@[simp] theorem add_zero' (p:Addr):p.add 0=p:=by simp [Addr.add]
@[simp] theorem add_block (p:Addr) (n:Nat):(p.add n).block=p.block:=by unfold Addr.add;split<;>rfl
structure Fr (M:List Nat) (w w':World):Prop where
 os:w'.os=w.os
 tape:w'.tape=w.tape
 output:w'.output=w.output
 size:w.heap.size≤w'.heap.size
 block:∀k,k<w.heap.size→k∉M→w'.heap[k]? =w.heap[k]?
theorem Fr.refl (M:List Nat) (w:World):Fr M w w:=⟨rfl,rfl,rfl,Nat.le_refl _,fun _ _ _=>rfl⟩
theorem Fr.trans {M:List Nat} {a b c:World} (h:Fr M a b) (k:Fr M b c):Fr M a c:=
 ⟨k.os.trans h.os,k.tape.trans h.tape,k.output.trans h.output,Nat.le_trans h.size k.size,fun i hi hm=>(k.block i (Nat.lt_of_lt_of_le hi h.size) hm).trans (h.block i hi hm)⟩
theorem Fr.below {w w':World} (h:Fr [] w w'):Below w.heap.size w w':=⟨h.os,h.tape,h.output,h.size,fun k hk=>h.block k hk (by simp)⟩
theorem Fr.mono {M M':List Nat} {w w':World} (h:Fr M w w') (hm:∀k∈M,k∈M'∨w.heap.size≤k):Fr M' w w':=
 ⟨h.os,h.tape,h.output,h.size,fun k hk hn=>h.block k hk fun hk2=>(hm k hk2).elim hn (fun h=>absurd hk (by omega))⟩
theorem Fr.weak {M:List Nat} {w w':World} (h:Fr [] w w'):Fr M w w':=h.mono (by simp)
theorem Fr.drew (M:List Nat) (w:World):Fr M w w.drew:=⟨rfl,rfl,rfl,Nat.le_refl _,fun _ _ _=>rfl⟩
theorem Fr.alloc (M:List Nat) (w:World) (o:Obj):Fr M w (w.alloc o):=⟨rfl,rfl,rfl,by simp,fun k hk _=>Below.heap_alloc _ _ _ hk⟩
theorem Fr.setCell {M:List Nat} (w:World) {a:Addr} (h:a.block∈M) (u:Value):Fr M w (w.setCell a u):=
 ⟨rfl,rfl,rfl,by simp,fun k _ hk=>Below.heap_setCell _ _ _ _ (fun e=>hk (e▸h))⟩
theorem Fr.of_grown {w w':World} {row:Option Nat} (h:w.grownBy w' row):Fr row.toList w w':=
 ⟨h.os,h.tape,h.output,h.size,fun k hk hm=>h.block k hk fun e=>hm (by rw [←e];simp)⟩
theorem Fr.cell {M:List Nat} {w w':World} (h:Fr M w w') {p:Addr} {v:Value} (hp:p.block∉M) (hv:w.cell? p=some v):w'.cell? p=some v:=
 (World.cell?_of_block (h.block p.block (World.block_lt_of_cell? w p hv) hp)).trans hv
theorem Fr.heap {M:List Nat} {w w':World} (h:Fr M w w') {b:Nat} {o:Obj} (hb:b∉M) (hv:w.heap[b]? =some o):w'.heap[b]? =some o:=
 (h.block b (Array.getElem?_eq_some_iff.1 hv).1 hb).trans hv
theorem Fr.cell0 {w w':World} (h:Fr [] w w') {p:Addr} {v:Value} (hv:w.cell? p=some v):w'.cell? p=some v:=h.cell (by simp) hv
theorem Fr.heap0 {w w':World} (h:Fr [] w w') {b:Nat} {o:Obj} (hv:w.heap[b]? =some o):w'.heap[b]? =some o:=h.heap (by simp) hv
structure St (M:List Nat) (w0 w:World) (L:List (Nat×Obj)):Prop where
 fr:Fr M w0 w
 own:∀x∈L,(w0.heap.size≤x.1∨x.1∈M)∧w.heap[x.1]? =some x.2
 nd:(L.map (·.1)).Nodup
theorem St.start (M:List Nat) (w:World):St M w w []:=⟨Fr.refl _ _,by simp,by simp⟩
variable {M:List Nat} {w0 w:World} {L:List (Nat×Obj)}
theorem St.lt (H:St M w0 w L) {x:Nat×Obj} (hx:x∈L):x.1<w.heap.size:=(Array.getElem?_eq_some_iff.1 (H.own x hx).2).1
theorem St.get (H:St M w0 w L) (j:Nat) {b:Nat} {o:Obj} (hj:L[j]? =some (b,o)):w.heap[b]? =some o:=(H.own (b,o) (List.mem_of_getElem? hj)).2
theorem St.call0 (H:St M w0 w L) {w':World} (h:Fr [] w w'):St M w0 w' L:=
 ⟨H.fr.trans h.weak,fun x hx=>⟨(H.own x hx).1,h.heap0 (H.own x hx).2⟩,H.nd⟩
theorem St.alloc (H:St M w0 w L) {o:Obj} {G:World→Nat→Prop} (h:∀w1 b,St M w0 w1 ((b,o)::L)→G w1 b):∀w1 b,w1=w.alloc o→b=w.heap.size→G w1 b:=by
 rintro w1 b rfl rfl
 refine h _ _ ⟨H.fr.trans (Fr.alloc _ _ _),?_,?_⟩
 · intro x hx
   rcases List.mem_cons.1 hx with rfl|hx
   · exact⟨.inl H.fr.size,heap_alloc_new w _⟩
   · exact⟨(H.own x hx).1,(Below.heap_alloc _ _ _ (H.lt hx)).trans (H.own x hx).2⟩
 · rw [List.map_cons,List.nodup_cons]
   refine⟨fun hm=>?_,H.nd⟩
   obtain⟨x,hx,he⟩:=List.mem_map.1 hm
   have:=H.lt hx
   omega
theorem St.drew (H:St M w0 w L) {G:World→Prop} (h:∀w1,St M w0 w1 L→G w1):∀w1,w1=w.drew→G w1:=by
 rintro w1 rfl
 exact h _ (H.call0 (Fr.drew _ _))
theorem nodup_ne {l:List (Nat×Obj)} (h:(l.map (·.1)).Nodup):∀ {i j:Nat} {x y:Nat×Obj},l[i]? =some x→l[j]? =some y→x.1=y.1→i=j:=by
 intro i j x y hi hj he
 have hi':(l.map (·.1))[i]? =some x.1:=by simp [hi]
 have hj':(l.map (·.1))[j]? =some y.1:=by simp [hj]
 exact(List.getElem?_inj (List.getElem?_eq_some_iff.1 hi').1 h).1 (by rw [hi',hj',he])
theorem St.setAt (H:St M w0 w L) (j:Nat) {b i:Nat} {c:Array Value} {t:TypeId} {f:Nat×Nat} {v:Value} (hj:L[j]? =some (b,.cells c t f)):
 St M w0 (w.setCell ⟨b,i,none⟩ v) (L.set j (b,.cells (c.setIfInBounds i v) t f)):=by
 have hmem:=List.mem_of_getElem? hj
 have hfr:Fr M w0 (w.setCell ⟨b,i,none⟩ v):=by
  refine⟨H.fr.os,H.fr.tape,H.fr.output,by simpa using H.fr.size,fun k hk hm=>?_⟩
  have hne:k≠b:=by
   rintro rfl
   rcases(H.own _ hmem).1 with h|h
   · exact absurd hk (Nat.not_lt.2 h)
   · exact hm h
  exact(Below.heap_setCell w ⟨b,i,none⟩ v k hne).trans (H.fr.block k hk hm)
 have hmap:(L.set j (b,Obj.cells (c.setIfInBounds i v) t f)).map (·.1)=L.map (·.1):=by
  have hlt:=(List.getElem?_eq_some_iff.1 hj)
  rw [List.map_set]
  apply List.ext_getElem?
  intro k
  by_cases hk:j=k
  · subst hk
    rw [List.getElem?_set_self (by simpa using hlt.1)]
    simp [hj]
  · rw [List.getElem?_set_ne hk]
 refine⟨hfr,?_,by rw [hmap];exact H.nd⟩
 intro x hx
 obtain⟨k,hk⟩:=List.mem_iff_getElem?.1 hx
 by_cases hkj:j=k
 · subst hkj
   rw [List.getElem?_set_self ((List.getElem?_eq_some_iff.1 hj).1)]at hk
   cases hk
   refine⟨(H.own _ hmem).1,?_⟩
   have hb:=(H.own _ hmem).2
   simp only [World.setCell,Array.getElem?_modify,if_true]
   rw [hb]
   simp
 · rw [List.getElem?_set_ne hkj]at hk
   have hxm:=List.mem_of_getElem? hk
   refine⟨(H.own x hxm).1,?_⟩
   have hne:x.1≠b:=fun e=>hkj (nodup_ne H.nd hj hk e.symm)
   exact(Below.heap_setCell w ⟨b,i,none⟩ v x.1 hne).trans (H.own x hxm).2
theorem cell_of_heap {w:World} {b i:Nat} {c:Array Value} {t:TypeId} {f:Nat×Nat} (h:w.heap[b]? =some (.cells c t f)):w.cell? ⟨b,i,none⟩=c[i]? :=by
 simp [World.cell?,h]
theorem frozen_of_heap {w:World} {b i:Nat} {c:Array Value} {t:TypeId} {f:Nat×Nat} (h:w.heap[b]? =some (.cells c t f)) (hf:i<f.1∨f.2≤i):w.frozen? ⟨b,i,none⟩=false:=by
 simp only [World.frozen?,h]
 rcases hf with hf|hf
 · simp;omega
 · simp;omega
theorem St.stoF (H:St M w0 w L) (j:Nat) {b i:Nat} {c:Array Value} {t:TypeId} {f:Nat×Nat} {v:Value} {G:World→Prop} (hj:L[j]? =some (b,.cells c t f)) (hi:i<c.size) (hf:i<f.1∨f.2≤i)
 (h:∀w1,St M w0 w1 (L.set j (b,.cells (c.setIfInBounds i v) t f))→G w1):Sto w ⟨b,i,none⟩ v G:=by
 have hb:=H.get j hj
 refine⟨⟨c[i],?_⟩,frozen_of_heap hb hf,?_⟩
 · rw [cell_of_heap hb];simp [hi]
 · rintro w' rfl
   exact h _ (H.setAt j hj)
theorem St.sto (H:St M w0 w L) (j:Nat) {b i:Nat} {c:Array Value} {t:TypeId} {v:Value} {G:World→Prop} (hj:L[j]? =some (b,.cells c t (0,0))) (hi:i<c.size)
 (h:∀w1,St M w0 w1 (L.set j (b,.cells (c.setIfInBounds i v) t (0,0)))→G w1):Sto w ⟨b,i,none⟩ v G:=H.stoF j hj hi (.inr (Nat.zero_le _)) h
theorem St.cell (H:St M w0 w L) (j:Nat) {b i:Nat} {c:Array Value} {t:TypeId} {f:Nat×Nat} {v:Value} (hj:L[j]? =some (b,.cells c t f)) (hi:c[i]? =some v):w.cell? ⟨b,i,none⟩=some v:=by
 rw [cell_of_heap (H.get j hj),hi]
theorem St.old (H:St [] w0 w L) {p:Addr} {v:Value} (hv:w0.cell? p=some v):w.cell? p=some v:=H.fr.cell0 hv
theorem St.drop (H:St M w0 w L):St M w0 w []:=⟨H.fr,by simp,by simp⟩
theorem St.sub (H:St M w0 w L) {L':List (Nat×Obj)} (h:L'.Sublist L):St M w0 w L':=
 ⟨H.fr,fun x hx=>H.own x (h.subset hx),H.nd.sublist (h.map _)⟩
theorem Calls.st {P:Program} {k:Nat} {args:Array Value} {R:Ending→World→Prop} {v:Value} (H:St M w0 w L) (hc:Calls P k args w fun e w'=>e= .returned v∧Fr [] w w')
 (h:∀w',St M w0 w' L→R (.returned v) w'):Calls P k args w R:=
 hc.mono fun _ w' ⟨he,hf⟩=>he▸h w' (H.call0 hf)
def Sl (w:World) (a:Option Addr) (vs:List Value):Prop:=∀j u,vs[j]? =some u→∃p,a=some p∧w.cell? (p.add j)=some u
theorem Sl.fr {M:List Nat} {w w':World} {a:Option Addr} {vs:List Value} (h:Sl w a vs) (hf:Fr M w w') (hm:∀p,a=some p→p.block∉M):Sl w' a vs:=fun j u hu=>by
 obtain⟨p,hp,hc⟩:=h j u hu
 exact⟨p,hp,hf.cell (by simpa using hm p hp) hc⟩
theorem Sl.fr0 {w w':World} {a:Option Addr} {vs:List Value} (h:Sl w a vs) (hf:Fr [] w w'):Sl w' a vs:=h.fr hf (by simp)
theorem Sl.nil (w:World) (a:Option Addr):Sl w a []:=fun j u h=>by simp at h
theorem Sl.take {w:World} {a:Option Addr} {vs:List Value} (h:Sl w a vs) (n:Nat):Sl w a (vs.take n):=fun j u hu=>by
 rw [List.getElem?_take]at hu
 split at hu
 · exact h j u hu
 · cases hu
theorem Sl.drop {w:World} {a:Option Addr} {vs:List Value} (h:Sl w a vs) (n m:Nat) (hv:vs.length≤m):Sl w (sA a 1 n m) (vs.drop n):=fun j u hu=>by
 rw [List.getElem?_drop]at hu
 have hlt:n+j<vs.length:=(List.getElem?_eq_some_iff.1 hu).1
 obtain⟨p,hp,hc⟩:=h (n+j) u hu
 subst hp
 unfold sA
 rw [if_neg (by omega)]
 exact⟨p.add (n*1),rfl,by rw [add_add,Nat.mul_one];exact hc⟩
theorem Sl.of_heap {w:World} {b:Nat} {c:Array Value} {t:TypeId} {f:Nat×Nat} (h:w.heap[b]? =some (.cells c t f)):Sl w (some (A0 b)) c.toList:=fun j u hu=>
 ⟨A0 b,rfl,by rw [A0_add,cell_of_heap h];simpa using hu⟩
theorem Sl.read {w:World} {a:Option Addr} {vs:List Value} (h:Sl w a vs) {i:Nat} {u:Value} (hu:vs[i]? =some u) {G:Addr→Prop} (hg:∀p,a=some p→w.cell? (p.add i)=some u→G p):OSome a G:=by
 obtain⟨p,hp,hc⟩:=h i u hu
 exact⟨p,hp,hg p hp hc⟩
theorem wrap_u64 (n:Int):IntKind.wrap .u64 n=n%18446744073709551616:=by simp [IntKind.wrap,IntKind.bits,IntKind.signed]
theorem wrap_u16 (n:Int):IntKind.wrap .u16 n=n%65536:=by simp [IntKind.wrap,IntKind.bits,IntKind.signed]
theorem wrap_u8 (n:Int):IntKind.wrap .u8 n=n%256:=by simp [IntKind.wrap,IntKind.bits,IntKind.signed]
theorem wrap_i64 (n:Int) (h1: -9223372036854775808≤n) (h2:n<9223372036854775808):IntKind.wrap .i64 n=n:=by
 simp [IntKind.wrap,IntKind.bits,IntKind.signed];omega
theorem ofInt_nat (m n:Nat):BitVec.ofInt m (n:Int)=BitVec.ofNat m n:=by simp
theorem andI_u64 (a b:Nat) (ha:a<18446744073709551616) (hb:b<18446744073709551616):andI .u64 a b=((a&&&b:Nat):Int):=by
 have:(a&&&b)<2^64:=Nat.and_lt_two_pow _ (by omega)
 show IntKind.wrap .u64 (((BitVec.ofInt 64 (a:Int)&&&BitVec.ofInt 64 (b:Int)).toNat:Nat):Int)=_
 rw [ofInt_nat,ofInt_nat,wrap_u64,BitVec.toNat_and,BitVec.toNat_ofNat,BitVec.toNat_ofNat]
 rw [Nat.mod_eq_of_lt (show a<2^64 by omega),Nat.mod_eq_of_lt (show b<2^64 by omega)]
 omega
theorem orI_u64 (a b:Nat) (ha:a<18446744073709551616) (hb:b<18446744073709551616):orI .u64 a b=((a|||b:Nat):Int):=by
 have:(a|||b)<2^64:=Nat.or_lt_two_pow (by omega) (by omega)
 show IntKind.wrap .u64 (((BitVec.ofInt 64 (a:Int)|||BitVec.ofInt 64 (b:Int)).toNat:Nat):Int)=_
 rw [ofInt_nat,ofInt_nat,wrap_u64,BitVec.toNat_or,BitVec.toNat_ofNat,BitVec.toNat_ofNat]
 rw [Nat.mod_eq_of_lt (show a<2^64 by omega),Nat.mod_eq_of_lt (show b<2^64 by omega)]
 omega
theorem xorI_u64 (a b:Nat) (ha:a<18446744073709551616) (hb:b<18446744073709551616):xorI .u64 a b=((a^^^b:Nat):Int):=by
 have:(a^^^b)<2^64:=Nat.xor_lt_two_pow (by omega) (by omega)
 show IntKind.wrap .u64 (((BitVec.ofInt 64 (a:Int)^^^BitVec.ofInt 64 (b:Int)).toNat:Nat):Int)=_
 rw [ofInt_nat,ofInt_nat,wrap_u64,BitVec.toNat_xor,BitVec.toNat_ofNat,BitVec.toNat_ofNat]
 rw [Nat.mod_eq_of_lt (show a<2^64 by omega),Nat.mod_eq_of_lt (show b<2^64 by omega)]
 omega
theorem andI_u8 (a b:Nat) (ha:a<256) (hb:b<256):andI .u8 a b=((a&&&b:Nat):Int):=by
 have:(a&&&b)<2^8:=Nat.and_lt_two_pow _ (by omega)
 show IntKind.wrap .u8 (((BitVec.ofInt 8 (a:Int)&&&BitVec.ofInt 8 (b:Int)).toNat:Nat):Int)=_
 rw [ofInt_nat,ofInt_nat,wrap_u8,BitVec.toNat_and,BitVec.toNat_ofNat,BitVec.toNat_ofNat]
 rw [Nat.mod_eq_of_lt (show a<2^8 by omega),Nat.mod_eq_of_lt (show b<2^8 by omega)]
 omega
theorem orI_u8 (a b:Nat) (ha:a<256) (hb:b<256):orI .u8 a b=((a|||b:Nat):Int):=by
 have:(a|||b)<2^8:=Nat.or_lt_two_pow (by omega) (by omega)
 show IntKind.wrap .u8 (((BitVec.ofInt 8 (a:Int)|||BitVec.ofInt 8 (b:Int)).toNat:Nat):Int)=_
 rw [ofInt_nat,ofInt_nat,wrap_u8,BitVec.toNat_or,BitVec.toNat_ofNat,BitVec.toNat_ofNat]
 rw [Nat.mod_eq_of_lt (show a<2^8 by omega),Nat.mod_eq_of_lt (show b<2^8 by omega)]
 omega
theorem shrI_nat (k:IntKind) (a n:Nat) (h:n≤k.bits):shrI k a n=((a/2^n:Nat):Int):=by
 simp only [shrI,Int.toNat_natCast,Nat.min_eq_left h]
 rw [Int.fdiv_eq_ediv_of_nonneg _ (by exact_mod_cast Nat.zero_le (2^n))]
 push_cast;rfl
theorem shlI_u64 (a n:Nat) (h:n≤64):shlI .u64 a n=((a*2^n%18446744073709551616:Nat):Int):=by
 have e:min n (IntKind.bits .u64)=n:=Nat.min_eq_left h
 show IntKind.wrap .u64 ((a:Int)*2^(min (n:Int).toNat (IntKind.bits .u64)))=_
 rw [Int.toNat_natCast,e,wrap_u64,Int.natCast_emod,Int.natCast_mul,Int.natCast_pow]
 rfl
end Go.Proofs.VC
