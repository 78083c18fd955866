import Derived.RangeFuncNested
import Derived.RangeFuncBound
import Derived.RangeFuncCalls
import Derived.RangeFuncLeaves
import Derived.Shelf.Abstract
import Derived.WalkKit
import Derived.OwnWalkIn
import Derived.TacticsInMore
import Derived.LoopNIn
import Derived.LoopIn
import Derived.Test.YtoeokgpdmagjoaaGreatT1
/-
A part of the proof: steps of the walk and plain laws.
-/
set_option linter.unusedVariables false
namespace Go.Proofs.Tryz
open Go Go.Proofs.VC
set_option maxRecDepth 100000
def F_zig_Split (x0:Int) (w:World) (R:Value→World→Prop):Prop:=
 ∀w1 b2,w1=w.alloc (.cells #[.int .i64 0,.int .u64 0] t_api_Part)→b2=w.heap.size→Calls prog n_zig_Map #[.int .i64 x0] w1 (fun e w2=>∃x6:Int,e=
 .returned (.int .u64 x6)∧Calls prog n_bits_Len64 #[.int .u64 x6] w2 (fun e_2 w3=>∃x8:Int,e_2= .returned (.int .i64 x8)∧bif x8==(0:Int)then(Sto
 w3 (A0 b2) (.int .i64 0) fun w4=>Sto w4 ((A0 b2).add 1) (.int .u64 0) fun w5=>∃r0a:Int,∃r0b:Int,LdL w5 (A0 b2) 0 [.int .i64 r0a,.int .u64 r0b]∧R
 (.agg #[.int .i64 r0a,.int .u64 r0b]) w5)else(Calls prog n_zig_top #[.int .i64 x8] w3 (fun e_3 w6=>∃x15:Int,e_3= .returned (.int .u64 x15)∧Sto w6
 (A0 b2) (.int .i64 x8) fun w7=>Sto w7 ((A0 b2).add 1) (.int .u64 (U64 (x6-x15))) fun w8=>∃r0a_2:Int,∃r0b_2:Int,LdL w8 (A0 b2) 0 [.int .i64 r0a_2,
 .int .u64 r0b_2]∧R (.agg #[.int .i64 r0a_2,.int .u64 r0b_2]) w8))))
theorem S_zig_Split {x0:Int} {w:World} {R:Ending→World→Prop} (h:F_zig_Split x0 w fun v w'=>R (.returned v) w'):Calls prog n_zig_Split #[.int .i64 x0] w R:=vcS noAnn func126 (by kernel_rfl) (by kernel_rfl) h
def F_zig_Join (x0a:Int) (x0b:Int) (w:World) (R:Value→World→Prop):Prop:=
 ∀w1 b1,w1=w.alloc (.cells #[.int .i64 x0a,.int .u64 x0b] t_api_Part)→b1=w.heap.size→∀J5:World→Prop,(∀w2,(∀w3,w3=w2.drew→∃x26:Int,
 w3.cell? (A0 b1)=some (.int .i64 x26)∧∃x29:Int,w3.cell? ((A0 b1).add 1)=some (.int .u64 x29)∧Calls prog n_zig_top #[.int .i64 x26] w3 (fun e w4=>
 ∃x27:Int,e= .returned (.int .u64 x27)∧((w3.cell? ((A0 b1).add 1)=some (.int .u64 x29)→w4.cell? ((A0 b1).add 1)=some (.int .u64 x29))∧True)∧
 Calls prog n_zig_Back #[.int .u64 (U64 (x27+x29))] w4 (fun e_2 w5=>∃x31:Int,e_2= .returned (.int .i64 x31)∧((w4.cell? (A0 b1)=some (.int .i64 x26)
 →w5.cell? (A0 b1)=some (.int .i64 x26))∧(w4.cell? ((A0 b1).add 1)=some (.int .u64 x29)→w5.cell? ((A0 b1).add 1)=some (.int .u64 x29))∧True)∧R
 (.tuple #[.int .i64 x31,.bool true]) w5)))→J5 w2)→∃x5a:Int,∃x5b:Int,LdL w1 (A0 b1) 0 [.int .i64 x5a,.int .u64 x5b]∧∃q:Bool,AggB prog .eql
 t_api_Part (.agg #[.int .i64 x5a,.int .u64 x5b]) (.agg #[.int .i64 0,.int .u64 0]) q∧bif q then(R (.tuple #[.int .i64 (0:Int),.bool true]) w1)else(∀
 w6,w6=w1.drew→∃x10:Int,w6.cell? (A0 b1)=some (.int .i64 x10)∧bif decide (x10<(1:Int))then(((w6.cell? (A0 b1)=some (.int .i64 x10)→
 w6.cell? (A0 b1)=some (.int .i64 x10))∧True)∧R (.tuple #[.int .i64 (0:Int),.bool false]) w6)else(∃x14:Int,w6.cell? (A0 b1)=some (.int .i64
 x14)∧bif decide (x14≥(65:Int))then(((w6.cell? (A0 b1)=some (.int .i64 x10)→w6.cell? (A0 b1)=some (.int .i64 x10))∧(w6.cell? (A0 b1)=some
 (.int .i64 x14)→w6.cell? (A0 b1)=some (.int .i64 x14))∧True)∧R (.tuple #[.int .i64 (0:Int),.bool false]) w6)else(∃x19:Int,w6.cell? ((A0
 b1).add 1)=some (.int .u64 x19)∧∃x21:Int,w6.cell? (A0 b1)=some (.int .i64 x21)∧Calls prog n_zig_top #[.int .i64 x21] w6 (fun e_3 w7=>∃x22:Int,
 e_3= .returned (.int .u64 x22)∧((w6.cell? (A0 b1)=some (.int .i64 x10)→w7.cell? (A0 b1)=some (.int .i64 x10))∧(w6.cell? (A0 b1)=some (.int .i64
 x14)→w7.cell? (A0 b1)=some (.int .i64 x14))∧(w6.cell? ((A0 b1).add 1)=some (.int .u64 x19)→w7.cell? ((A0 b1).add 1)=some (.int .u64 x19))∧True)∧
 bif decide (x19≥x22)then(R (.tuple #[.int .i64 (0:Int),.bool false]) w7)else(J5 w7)))))
def A_zig_Join:Ann:= {loop:=fun k=>none,join:=fun k=>cond (Nat.beq k 5) (some (33554428,[],[])) (none),nf:=fun k=> []}
theorem S_zig_Join {x0a:Int} {x0b:Int} {w:World} {R:Ending→World→Prop} (h:F_zig_Join x0a x0b w fun v w'=>R (.returned v) w'):Calls prog n_zig_Join #[.agg #[.int .i64 x0a,.int .u64 x0b]] w R:=vcS A_zig_Join func133 (by kernel_rfl) (by kernel_rfl) h
def F_zig_Map (x0:Int) (w:World) (R:Value→World→Prop):Prop:=
 0≤(1:Int)∧0≤(63:Int)∧R (.int .u64 (xorI .u64 (shlI .u64 (U64 x0) (1:Int)) (U64 (shrI .i64 x0 (63:Int))))) w
theorem S_zig_Map {x0:Int} {w:World} {R:Ending→World→Prop} (h:F_zig_Map x0 w fun v w'=>R (.returned v) w'):Calls prog n_zig_Map #[.int .i64 x0] w R:=vcS noAnn func190 (by kernel_rfl) (by kernel_rfl) h
def F_zig_top (x0:Int) (w:World) (R:Value→World→Prop):Prop:=
 0≤(W64 (x0-(1:Int)))∧R (.int .u64 (shlI .u64 (1:Int) (W64 (x0-(1:Int))))) w
theorem S_zig_top {x0:Int} {w:World} {R:Ending→World→Prop} (h:F_zig_top x0 w fun v w'=>R (.returned v) w'):Calls prog n_zig_top #[.int .i64 x0] w R:=vcS noAnn func192 (by kernel_rfl) (by kernel_rfl) h
def F_zig_Back (x0:Int) (w:World) (R:Value→World→Prop):Prop:=
 0≤(1:Int)∧R (.int .i64 (xorI .i64 (W64 (shrI .u64 x0 (1:Int))) (W64 (0-W64 (andI .u64 x0 (1:Int)))))) w
theorem S_zig_Back {x0:Int} {w:World} {R:Ending→World→Prop} (h:F_zig_Back x0 w fun v w'=>R (.returned v) w'):Calls prog n_zig_Back #[.int .u64 x0] w R:=vcS noAnn func200 (by kernel_rfl) (by kernel_rfl) h
def F_hist_Parts (x0:Option Addr) (x0n:Nat) (x0c:Nat) (w:World) (R:Value→World→Prop):Prop:=
 ∃I0:Nat→Option Addr→Nat→Nat→Int→World→Prop,(∃m_2,I0 m_2 none 0 0 (0:Int) w)∧∀m,∀x3:Option Addr,∀x3n:Nat,∀x3c:Nat,∀x8:Int,
 ∀w1,I0 m x3 x3n x3c x8 w1→(bif decide (x8<((x0n:Nat):Int))then(0≤x8∧x8<((x0n:Nat):Int)∧OSome x0 fun p10=>∃x11:Int,w1.cell?
 (p10.add (Int.toNat x8*1))=some (.int .i64 x11)∧Calls prog n_zig_Split #[.int .i64 x11] w1 (fun e w2=>∃x14a:Int,∃x14b:Int,e= .returned (.agg
 #[.int .i64 x14a,.int .u64 x14b])∧∀w3 b15,w3=w2.alloc (.cells #[.int .i64 x14a,.int .u64 x14b] t_api_Part)→b15=w2.heap.size→∃x16:Option Addr,
 ∃x16n:Nat,∃x16c:Nat,∃w4:World,(Builtin.append_ #[t_S_api_Part,t_S_api_Part] t_S_api_Part #[.slice x3 x3n x3c,.slice (some (A0 b15)) 1 1]).run
 prog w3= .ok (.slice x16 x16n x16c) w4∧∃m_3,m_3<m∧I0 m_3 x16 x16n x16c (W64 (x8+(1:Int))) w4))else(R (.slice x3 x3n x3c) w1))
def A_hist_Parts:Ann:= {loop:=fun k=>cond (Nat.beq k 0) (some (261928,[3,8],[.sl,.int .i64])) (none),join:=fun k=>none,nf:=fun k=> []}
theorem S_hist_Parts {x0:Option Addr} {x0n:Nat} {x0c:Nat} {w:World} {R:Ending→World→Prop} (h:F_hist_Parts x0 x0n x0c w fun v w'=>R (.returned v) w'):Calls prog n_hist_Parts #[.slice x0 x0n x0c] w R:=vcS A_hist_Parts func67 (by kernel_rfl) (by kernel_rfl) h
def F_hist_Of (x0:Option Addr) (x0n:Nat) (x0c:Nat) (w:World) (R:Value→World→Prop):Prop:=
 0≤(65:Int)∧(65:Int)≤(65:Int)∧((8:Nat):Int)*(65:Int)≤((maxMake:Nat):Int)∧∀w1 b6,w1=w.alloc (.cells (mkCells TAB t_int (Int.toNat
 (65:Int))) t_int)→b6=w.heap.size→∃I0:Nat→Int→World→Prop,(∃m_2,I0 m_2 (0:Int) w1)∧∀m,∀x9:Int,∀w2,I0 m x9 w2→(bif decide (x9<
 ((x0n:Nat):Int))then(0≤x9∧x9<((x0n:Nat):Int)∧OSome x0 fun p11=>∃x12a:Int,∃x12b:Int,LdL w2 (p11.add (Int.toNat x9*2)) 0 [.int .i64
 x12a,.int .u64 x12b]∧∀w3 b5,w3=w2.alloc (.cells #[.int .i64 0,.int .u64 0] t_api_Part)→b5=w2.heap.size→Sto w3 (A0 b5) (.int .i64 x12a) fun w4=>
 Sto w4 ((A0 b5).add 1) (.int .u64 x12b) fun w5=>∀J6:Bool→World→Prop,(∀x20:Bool,∀w6,(bif x20 then(∃x23:Int,w6.cell? (A0 b5)=some (.int
 .i64 x23)∧0≤x23∧x23<((Int.toNat (65:Int):Nat):Int)∧OSome (some (A0 b6)) fun p24=>∃x25:Int,w6.cell? (p24.add (Int.toNat x23*1))=some
 (.int .i64 x25)∧0≤x23∧x23<((Int.toNat (65:Int):Nat):Int)∧OSome (some (A0 b6)) fun p27=>Sto w6 (p27.add (Int.toNat x23*1)) (.int .i64 (W64
 (x25+(1:Int)))) fun w7=>∃m_3,m_3<m∧I0 m_3 (W64 (x9+(1:Int))) w7)else(∃m_3,m_3<m∧I0 m_3 (W64 (x9+(1:Int))) w6))→J6 x20 w6)→∃x14
 :Int,w5.cell? (A0 b5)=some (.int .i64 x14)∧bif decide (x14≥(0:Int))then(∃x18:Int,w5.cell? (A0 b5)=some (.int .i64 x18)∧J6 (decide (x18<
 (65:Int))) w5)else(J6 false w5))else(R (.slice (some (A0 b6)) (Int.toNat (65:Int)) (Int.toNat (65:Int))) w2))
def A_hist_Of:Ann:= {loop:=fun k=>cond (Nat.beq k 0) (some (536870432,[9],[.int .i64])) (none),join:=fun k=>cond (Nat.beq k 6) (some (2088960,[20],[.bool])) (none),nf:=fun k=> []}
theorem S_hist_Of {x0:Option Addr} {x0n:Nat} {x0c:Nat} {w:World} {R:Ending→World→Prop} (h:F_hist_Of x0 x0n x0c w fun v w'=>R (.returned v) w'):Calls prog n_hist_Of #[.slice x0 x0n x0c] w R:=vcS A_hist_Of func69 (by kernel_rfl) (by kernel_rfl) h
def F_hist_Values (x0:Option Addr) (x0n:Nat) (x0c:Nat) (w:World) (R:Value→World→Prop):Prop:=
 ∃I0:Nat→Option Addr→Nat→Nat→Int→World→Prop,(∃m_2,I0 m_2 none 0 0 (0:Int) w)∧∀m,∀x4:Option Addr,∀x4n:Nat,∀x4c:Nat,∀x11:Int,
 ∀w1,I0 m x4 x4n x4c x11 w1→(bif decide (x11<((x0n:Nat):Int))then(0≤x11∧x11<((x0n:Nat):Int)∧OSome x0 fun p13=>∃x14a:Int,∃x14b:
 Int,LdL w1 (p13.add (Int.toNat x11*2)) 0 [.int .i64 x14a,.int .u64 x14b]∧∀w2 b6,w2=w1.alloc (.cells #[.int .i64 0,.int .u64 0] t_api_Part)→b6=
 w1.heap.size→Sto w2 (A0 b6) (.int .i64 x14a) fun w3=>Sto w3 ((A0 b6).add 1) (.int .u64 x14b) fun w4=>∃x16a:Int,∃x16b:Int,LdL w4 (A0 b6) 0 [.int
 .i64 x16a,.int .u64 x16b]∧Calls prog n_zig_Join #[.agg #[.int .i64 x16a,.int .u64 x16b]] w4 (fun e w5=>∃x17r0:Int,∃x17r1:Bool,e= .returned
 (.tuple #[.int .i64 x17r0,.bool x17r1])∧bif !x17r1 then(R (.tuple #[.slice none 0 0,.bool false]) w5)else(∀w6 b24,w6=w5.alloc (.cells #[.int .i64
 x17r0] t_int64)→b24=w5.heap.size→∃x25:Option Addr,∃x25n:Nat,∃x25c:Nat,∃w7:World,(Builtin.append_ #[t_S_int64,t_S_int64] t_S_int64
 #[.slice x4 x4n x4c,.slice (some (A0 b24)) 1 1]).run prog w6= .ok (.slice x25 x25n x25c) w7∧∃m_3,m_3<m∧I0 m_3 x25 x25n x25c (W64 (x11+(1:Int)))
 w7)))else(R (.tuple #[.slice x4 x4n x4c,.bool true]) w1))
def A_hist_Values:Ann:= {loop:=fun k=>cond (Nat.beq k 0) (some (134216156,[4,11],[.sl,.int .i64])) (none),join:=fun k=>none,nf:=fun k=> []}
theorem S_hist_Values {x0:Option Addr} {x0n:Nat} {x0c:Nat} {w:World} {R:Ending→World→Prop} (h:F_hist_Values x0 x0n x0c w fun v w'=>R (.returned v) w'):Calls prog n_hist_Values #[.slice x0 x0n x0c] w R:=vcS A_hist_Values func101 (by kernel_rfl) (by kernel_rfl) h
def F_hist_Order (x0:Option Addr) (x0n:Nat) (x0c:Nat) (w:World) (R:Value→World→Prop):Prop:=
 ∀w1 b9,w1=w.alloc (.cells #[] t_hist_place)→b9=w.heap.size→∀w2 b10,w2=w1.alloc (.cells #[.slice (some (A0 b9)) 0 0] t_hist_places)→b10=
 w1.heap.size→∃I0:Nat→Int→World→Prop,(∃m_2,I0 m_2 (0:Int) w2)∧∀m,∀x13:Int,∀w3,I0 m x13 w3→(bif decide (x13<((x0n:Nat):Int))
 then(0≤x13∧x13<((x0n:Nat):Int)∧OSome x0 fun p16=>∃x17:Int,w3.cell? (p16.add (Int.toNat x13*1))=some (.int .i64 x17)∧bif decide (x17>
 (0:Int))then(Calls prog n_heap_Push #[.iface t_P_hist_places (.pointer (some (A0 b10))),.iface t_hist_place (.agg #[.int .i64 x13,.int .i64 x17])] w3
 (fun e w4=>e= .returned (.tuple #[])∧∃m_3,m_3<m∧I0 m_3 (W64 (x13+(1:Int))) w4))else(∃m_3,m_3<m∧I0 m_3 (W64 (x13+(1:Int))) w3))else
 (∃I2:Nat→Option Addr→Nat→Nat→World→Prop,(∃m_5,I2 m_5 none 0 0 w3)∧∀m_4,∀x6:Option Addr,∀x6n:Nat,∀x6c:Nat,∀w5,I2 m_4 x6 x6n
 x6c w5→(OSome (some (A0 b10)) fun p29=>∃x30:Option Addr,∃x30n:Nat,∃x30c:Nat,w5.cell? p29=some (.slice x30 x30n x30c)∧Calls prog
 n_hist_places_Len #[.slice x30 x30n x30c] w5 (fun e_2 w6=>∃x31:Int,e_2= .returned (.int .i64 x31)∧bif decide (x31>(0:Int))then(Calls prog
 n_heap_Pop #[.iface t_P_hist_places (.pointer (some (A0 b10)))] w6 (fun e_3 w7=>∃x36:Value,e_3= .returned (x36)∧∃x37a:Int,∃x37b:Int,(x36:
 Value)= .iface t_hist_place (.agg #[.int .i64 x37a,.int .i64 x37b])∧∀w8 b7,w8=w7.alloc (.cells #[.int .i64 0,.int .i64 0] t_hist_place)→b7=
 w7.heap.size→Sto w8 (A0 b7) (.int .i64 x37a) fun w9=>Sto w9 ((A0 b7).add 1) (.int .i64 x37b) fun w10=>∃x43:Int,w10.cell? (A0 b7)=some (.int .i64
 x43)∧∀w11 b44,w11=w10.alloc (.cells #[.int .i64 x43] t_int)→b44=w10.heap.size→∃x45:Option Addr,∃x45n:Nat,∃x45c:Nat,∃w12:World,
 (Builtin.append_ #[t_S_int,t_S_int] t_S_int #[.slice x6 x6n x6c,.slice (some (A0 b44)) 1 1]).run prog w11= .ok (.slice x45 x45n x45c) w12∧∃m_6,m_6<m_4
 ∧I2 m_6 x45 x45n x45c w12))else(R (.slice x6 x6n x6c) w6)))))
def A_hist_Order:Ann:= {loop:=fun k=>cond (Nat.beq k 2) (some (70368475742656,[6],[.sl])) (cond (Nat.beq k 0) (some (268427312,[13],[.int .i64])) (none)),join:=fun k=>none,nf:=fun k=> []}
theorem S_hist_Order {x0:Option Addr} {x0n:Nat} {x0c:Nat} {w:World} {R:Ending→World→Prop} (h:F_hist_Order x0 x0n x0c w fun v w'=>R (.returned v) w'):Calls prog n_hist_Order #[.slice x0 x0n x0c] w R:=vcS A_hist_Order func128 (by kernel_rfl) (by kernel_rfl) h
def F_hist_places_Len (x0:Option Addr) (x0n:Nat) (x0c:Nat) (w:World) (R:Value→World→Prop):Prop:=
 R (.int .i64 ((x0n:Nat):Int)) w
theorem S_hist_places_Len {x0:Option Addr} {x0n:Nat} {x0c:Nat} {w:World} {R:Ending→World→Prop} (h:F_hist_places_Len x0 x0n x0c w fun v w'=>R (.returned v) w'):Calls prog n_hist_places_Len #[.slice x0 x0n x0c] w R:=vcS noAnn func195 (by kernel_rfl) (by kernel_rfl) h
def F_hist_places_Less (x0:Option Addr) (x0n:Nat) (x0c:Nat) (x1:Int) (x2:Int) (w:World) (R:Value→World→Prop):Prop:=
 ∀w1,w1=w.drew→0≤x1∧x1<((x0n:Nat):Int)∧OSome x0 fun p9=>∃x11:Int,w1.cell? ((p9.add (Int.toNat x1*2)).add 1)=some (.int .i64 x11)∧0≤
 x2∧x2<((x0n:Nat):Int)∧OSome x0 fun p14=>∃x16:Int,w1.cell? ((p14.add (Int.toNat x2*2)).add 1)=some (.int .i64 x16)∧bif decide (x11>x16)
 then(R (.bool true) w1)else(0≤x1∧x1<((x0n:Nat):Int)∧OSome x0 fun p21=>∃x23:Int,w1.cell? ((p21.add (Int.toNat x1*2)).add 1)=some (.int
 .i64 x23)∧0≤x2∧x2<((x0n:Nat):Int)∧OSome x0 fun p26=>∃x28:Int,w1.cell? ((p26.add (Int.toNat x2*2)).add 1)=some (.int .i64 x28)∧bif x23
 ==x28 then(0≤x1∧x1<((x0n:Nat):Int)∧OSome x0 fun p33=>∃x35:Int,w1.cell? (p33.add (Int.toNat x1*2))=some (.int .i64 x35)∧0≤x2∧x2<
 ((x0n:Nat):Int)∧OSome x0 fun p38=>∃x40:Int,w1.cell? (p38.add (Int.toNat x2*2))=some (.int .i64 x40)∧R (.bool (decide (x35<x40))) w1)else
 (R (.bool false) w1))
theorem S_hist_places_Less {x0:Option Addr} {x0n:Nat} {x0c:Nat} {x1:Int} {x2:Int} {w:World} {R:Ending→World→Prop} (h:F_hist_places_Less x0 x0n x0c x1 x2 w fun v w'=>R (.returned v) w'):Calls prog n_hist_places_Less #[.slice x0 x0n x0c,.int .i64 x1,.int .i64 x2] w R:=vcS noAnn func279 (by kernel_rfl) (by kernel_rfl) h
def F_hist_places_Pop (x0:Option Addr) (w:World) (R:Value→World→Prop):Prop:=
 OSome x0 fun p6=>∃x7:Option Addr,∃x7n:Nat,∃x7c:Nat,w.cell? p6=some (.slice x7 x7n x7c)∧OSome x0 fun p11=>∃x12:Option Addr,∃x12n:Nat,∃
 x12c:Nat,w.cell? p11=some (.slice x12 x12n x12c)∧0≤(W64 (((x7n:Nat):Int)-(1:Int)))∧(W64 (((x7n:Nat):Int)-(1:Int)))<((x12n:Nat):
 Int)∧OSome x12 fun p14=>∃x15a:Int,∃x15b:Int,LdL w (p14.add (Int.toNat (W64 (((x7n:Nat):Int)-(1:Int)))*2)) 0 [.int .i64 x15a,.int .i64
 x15b]∧∀w1 b4,w1=w.alloc (.cells #[.int .i64 0,.int .i64 0] t_hist_place)→b4=w.heap.size→Sto w1 (A0 b4) (.int .i64 x15a) fun w2=>Sto w2 ((A0
 b4).add 1) (.int .i64 x15b) fun w3=>OSome x0 fun p18=>∃x19:Option Addr,∃x19n:Nat,∃x19c:Nat,w3.cell? p18=some (.slice x19 x19n x19c)∧0≤
 (W64 (((x7n:Nat):Int)-(1:Int)))∧(W64 (((x7n:Nat):Int)-(1:Int)))≤((x19c:Nat):Int)∧OSome x0 fun p22=>Sto w3 p22 (.slice (sA x19 2 0
 x19c) ((Int.toNat (W64 (((x7n:Nat):Int)-(1:Int))))-0) (x19c-0)) fun w4=>∃x23a:Int,∃x23b:Int,LdL w4 (A0 b4) 0 [.int .i64 x23a,.int .i64
 x23b]∧R (.iface t_hist_place (.agg #[.int .i64 x23a,.int .i64 x23b])) w4
theorem S_hist_places_Pop {x0:Option Addr} {w:World} {R:Ending→World→Prop} (h:F_hist_places_Pop x0 w fun v w'=>R (.returned v) w'):Calls prog n_hist_places_Pop #[.pointer x0] w R:=vcS noAnn func280 (by kernel_rfl) (by kernel_rfl) h
def F_hist_places_Push (x0:Option Addr) (x1:Value) (w:World) (R:Value→World→Prop):Prop:=
 ∃x8a:Int,∃x8b:Int,(x1:Value)= .iface t_hist_place (.agg #[.int .i64 x8a,.int .i64 x8b])∧∀w1 b4,w1=w.alloc (.cells #[.int .i64 0,.int .i64 0]
 t_hist_place)→b4=w.heap.size→Sto w1 (A0 b4) (.int .i64 x8a) fun w2=>Sto w2 ((A0 b4).add 1) (.int .i64 x8b) fun w3=>∀w4,w4=w3.drew→OSome x0 fun
 p14=>∃x15:Option Addr,∃x15n:Nat,∃x15c:Nat,w4.cell? p14=some (.slice x15 x15n x15c)∧∃x16a:Int,∃x16b:Int,LdL w4 (A0 b4) 0 [.int .i64
 x16a,.int .i64 x16b]∧∀w5 b17,w5=w4.alloc (.cells #[.int .i64 x16a,.int .i64 x16b] t_hist_place)→b17=w4.heap.size→((w4.cell? p14=some (.slice
 x15 x15n x15c)→w5.cell? p14=some (.slice x15 x15n x15c))∧True)∧∃x18:Option Addr,∃x18n:Nat,∃x18c:Nat,∃w6:World,(Builtin.append_
 #[t_hist_places,t_hist_places] t_hist_places #[.slice x15 x15n x15c,.slice (some (A0 b17)) 1 1]).run prog w5= .ok (.slice x18 x18n x18c) w6∧((w5.cell?
 ((A0 b4).add 0)=some (.int .i64 x16a)→w6.cell? ((A0 b4).add 0)=some (.int .i64 x16a))∧(w5.cell? ((A0 b4).add 1)=some (.int .i64 x16b)→w6.cell? ((A0
 b4).add 1)=some (.int .i64 x16b))∧True)∧OSome x0 fun p19=>Sto w6 p19 (.slice x18 x18n x18c) fun w7=>(True)∧R (.tuple #[]) w7
theorem S_hist_places_Push {x0:Option Addr} {x1:Value} {w:World} {R:Ending→World→Prop} (h:F_hist_places_Push x0 x1 w fun v w'=>R (.returned v) w'):Calls prog n_hist_places_Push #[.pointer x0,x1] w R:=vcS noAnn func281 (by kernel_rfl) (by kernel_rfl) h
def F_hist_places_Swap (x0:Option Addr) (x0n:Nat) (x0c:Nat) (x1:Int) (x2:Int) (w:World) (R:Value→World→Prop):Prop:=
 ∀w1,w1=w.drew→0≤x2∧x2<((x0n:Nat):Int)∧OSome x0 fun p12=>∃x13a:Int,∃x13b:Int,LdL w1 (p12.add (Int.toNat x2*2)) 0 [.int .i64 x13a,
 .int .i64 x13b]∧0≤x1∧x1<((x0n:Nat):Int)∧OSome x0 fun p16=>∃x17a:Int,∃x17b:Int,LdL w1 (p16.add (Int.toNat x1*2)) 0 [.int .i64 x17a,
 .int .i64 x17b]∧0≤x1∧x1<((x0n:Nat):Int)∧OSome x0 fun p18=>Sto w1 (p18.add (Int.toNat x1*2)) (.int .i64 x13a) fun w2=>Sto w2 ((p18.add
 (Int.toNat x1*2)).add 1) (.int .i64 x13b) fun w3=>(True)∧0≤x2∧x2<((x0n:Nat):Int)∧OSome x0 fun p19=>Sto w3 (p19.add (Int.toNat x2*2))
 (.int .i64 x17a) fun w4=>Sto w4 ((p19.add (Int.toNat x2*2)).add 1) (.int .i64 x17b) fun w5=>(True)∧R (.tuple #[]) w5
theorem S_hist_places_Swap {x0:Option Addr} {x0n:Nat} {x0c:Nat} {x1:Int} {x2:Int} {w:World} {R:Ending→World→Prop} (h:F_hist_places_Swap x0 x0n x0c x1 x2 w fun v w'=>R (.returned v) w'):Calls prog n_hist_places_Swap #[.slice x0 x0n x0c,.int .i64 x1,.int .i64 x2] w R:=vcS noAnn func282 (by kernel_rfl) (by kernel_rfl) h
def F_heap_Push (x0:Value) (x1:Value) (w:World) (R:Value→World→Prop):Prop:=
 InvCall prog fok (x0) "Push" #[x1] w (fun e w1=>e= .returned (.tuple #[])∧InvCall prog fok (x0) "Len" #[] w1 (fun e_2 w2=>∃x9:Int,e_2= .returned
 (.int .i64 x9)∧Calls prog n_heap_up #[x0,.int .i64 (W64 (x9-(1:Int)))] w2 (fun e_3 w3=>e_3= .returned (.tuple #[])∧R (.tuple #[]) w3)))
theorem S_heap_Push {x0:Value} {x1:Value} {w:World} {R:Ending→World→Prop} (h:F_heap_Push x0 x1 w fun v w'=>R (.returned v) w'):Calls prog n_heap_Push #[x0,x1] w R:=vcS noAnn func194 (by kernel_rfl) (by kernel_rfl) h
def F_heap_Pop (x0:Value) (w:World) (R:Value→World→Prop):Prop:=
 InvCall prog fok (x0) "Len" #[] w (fun e w1=>∃x5:Int,e= .returned (.int .i64 x5)∧InvCall prog fok (x0) "Swap" #[.int .i64 (0:Int),.int .i64 (W64 (x5
 -(1:Int)))] w1 (fun e_2 w2=>e_2= .returned (.tuple #[])∧Calls prog n_heap_down #[x0,.int .i64 (0:Int),.int .i64 (W64 (x5-(1:Int)))] w2 (fun e_3
 w3=>∃x12:Bool,e_3= .returned (.bool x12)∧InvCall prog fok (x0) "Pop" #[] w3 (fun e_4 w4=>∃x14:Value,e_4= .returned (x14)∧R (x14) w4))))
theorem S_heap_Pop {x0:Value} {w:World} {R:Ending→World→Prop} (h:F_heap_Pop x0 w fun v w'=>R (.returned v) w'):Calls prog n_heap_Pop #[x0] w R:=vcS noAnn func196 (by kernel_rfl) (by kernel_rfl) h
def F_heap_Fix (x0:Value) (x1:Int) (w:World) (R:Value→World→Prop):Prop:=
 InvCall prog fok (x0) "Len" #[] w (fun e w1=>∃x7:Int,e= .returned (.int .i64 x7)∧Calls prog n_heap_down #[x0,.int .i64 x1,.int .i64 x7] w1 (fun e_2 w2
 =>∃x8:Bool,e_2= .returned (.bool x8)∧bif !x8 then(Calls prog n_heap_up #[x0,.int .i64 x1] w2 (fun e_3 w3=>e_3= .returned (.tuple #[])∧R (.tuple
 #[]) w3))else(R (.tuple #[]) w2)))
theorem S_heap_Fix {x0:Value} {x1:Int} {w:World} {R:Ending→World→Prop} (h:F_heap_Fix x0 x1 w fun v w'=>R (.returned v) w'):Calls prog n_heap_Fix #[x0,.int .i64 x1] w R:=vcS noAnn func203 (by kernel_rfl) (by kernel_rfl) h
def F_heap_up (x0:Value) (x1:Int) (w:World) (R:Value→World→Prop):Prop:=
 ∃I0:Nat→Int→World→Prop,(∃m_2,I0 m_2 x1 w)∧∀m,∀x1_2:Int,∀w1,I0 m x1_2 w1→((2:Int)≠0∧bif (W64 (Int.tdiv (W64 (x1_2-(1:Int))) (2:
 Int)))==x1_2 then(R (.tuple #[]) w1)else(InvCall prog fok (x0) "Less" #[.int .i64 x1_2,.int .i64 (W64 (Int.tdiv (W64 (x1_2-(1:Int))) (2:Int)))] w1
 (fun e w2=>∃x15:Bool,e= .returned (.bool x15)∧bif !x15 then(R (.tuple #[]) w2)else(InvCall prog fok (x0) "Swap" #[.int .i64 (W64 (Int.tdiv (W64
 (x1_2-(1:Int))) (2:Int))),.int .i64 x1_2] w2 (fun e_2 w3=>e_2= .returned (.tuple #[])∧∃m_3,m_3<m∧I0 m_3 (W64 (Int.tdiv (W64 (x1_2-(1:
 Int))) (2:Int))) w3)))))
def A_heap_up:Ann:= {loop:=fun k=>cond (Nat.beq k 0) (some (8388594,[1],[.int .i64])) (none),join:=fun k=>none,nf:=fun k=> []}
theorem S_heap_up {x0:Value} {x1:Int} {w:World} {R:Ending→World→Prop} (h:F_heap_up x0 x1 w fun v w'=>R (.returned v) w'):Calls prog n_heap_up #[x0,.int .i64 x1] w R:=vcS A_heap_up func228 (by kernel_rfl) (by kernel_rfl) h
def F_heap_down (x0:Value) (x1:Int) (x2:Int) (w:World) (R:Value→World→Prop):Prop:=
 ∃I0:Nat→Int→World→Prop,(∃m_2,I0 m_2 x1 w)∧∀m,∀x7:Int,∀w1,I0 m x7 w1→(∀J4:World→Prop,(∀w2,(bif decide ((W64 ((W64 ((W64 ((2:Int)
 *x7))+(1:Int)))+(1:Int)))<x2)then(InvCall prog fok (x0) "Less" #[.int .i64 (W64 ((W64 ((W64 ((2:Int)*x7))+(1:Int)))+(1:Int))),.int
 .i64 (W64 ((W64 ((2:Int)*x7))+(1:Int)))] w2 (fun e w3=>∃x32:Bool,e= .returned (.bool x32)∧bif x32 then(InvCall prog fok (x0) "Less" #[.int
 .i64 (W64 ((W64 ((W64 ((2:Int)*x7))+(1:Int)))+(1:Int))),.int .i64 x7] w3 (fun e_2 w4=>∃x38:Bool,e_2= .returned (.bool x38)∧bif !x38 then
 (R (.bool (decide (x7>x1))) w4)else(InvCall prog fok (x0) "Swap" #[.int .i64 x7,.int .i64 (W64 ((W64 ((W64 ((2:Int)*x7))+(1:Int)))+(1:Int)))]
 w4 (fun e_3 w5=>e_3= .returned (.tuple #[])∧∃m_3,m_3<m∧I0 m_3 (W64 ((W64 ((W64 ((2:Int)*x7))+(1:Int)))+(1:Int))) w5))))else(InvCall
 prog fok (x0) "Less" #[.int .i64 (W64 ((W64 ((2:Int)*x7))+(1:Int))),.int .i64 x7] w3 (fun e_4 w6=>∃x38_2:Bool,e_4= .returned (.bool x38_2)∧
 bif !x38_2 then(R (.bool (decide (x7>x1))) w6)else(InvCall prog fok (x0) "Swap" #[.int .i64 x7,.int .i64 (W64 ((W64 ((2:Int)*x7))+(1:Int)))] w6
 (fun e_5 w7=>e_5= .returned (.tuple #[])∧∃m_3,m_3<m∧I0 m_3 (W64 ((W64 ((2:Int)*x7))+(1:Int))) w7))))))else(InvCall prog fok (x0) "Less"
 #[.int .i64 (W64 ((W64 ((2:Int)*x7))+(1:Int))),.int .i64 x7] w2 (fun e_6 w8=>∃x38_3:Bool,e_6= .returned (.bool x38_3)∧bif !x38_3 then(R
 (.bool (decide (x7>x1))) w8)else(InvCall prog fok (x0) "Swap" #[.int .i64 x7,.int .i64 (W64 ((W64 ((2:Int)*x7))+(1:Int)))] w8 (fun e_7 w9=>e_7=
 .returned (.tuple #[])∧∃m_3,m_3<m∧I0 m_3 (W64 ((W64 ((2:Int)*x7))+(1:Int))) w9)))))→J4 w2)→bif decide ((W64 ((W64 ((2:Int)*x7))+(1:
 Int)))≥x2)then(R (.bool (decide (x7>x1))) w1)else(bif decide ((W64 ((W64 ((2:Int)*x7))+(1:Int)))<(0:Int))then(R (.bool (decide (x7>
 x1))) w1)else(J4 w1)))
def A_heap_down:Ann:= {loop:=fun k=>cond (Nat.beq k 0) (some (35184372086656,[7],[.int .i64])) (none),join:=fun k=>cond (Nat.beq k 4) (some (4161536,[],[])) (none),nf:=fun k=> []}
theorem S_heap_down {x0:Value} {x1:Int} {x2:Int} {w:World} {R:Ending→World→Prop} (h:F_heap_down x0 x1 x2 w fun v w'=>R (.returned v) w'):Calls prog n_heap_down #[x0,.int .i64 x1,.int .i64 x2] w R:=vcS A_heap_down func229 (by kernel_rfl) (by kernel_rfl) h
def F_merge_may (x0:Option Addr) (x0n:Nat) (x0c:Nat) (x1:Int) (w:World) (R:Value→World→Prop):Prop:=
 Calls prog n_slices_ContainsFunc_S_int_int #[.slice x0 x0n x0c,.func (.func n_merge_may_1) #[] #[]] w (fun e w1=>∃x7:Bool,e= .returned (.bool x7)∧bif
 ((x0n:Nat):Int)==(65:Int)then(bif !x7 then(bif decide (x1≥(7:Int))then(R (.bool (decide (x1≤(15:Int)))) w1)else(R (.bool false) w1))
 else(R (.bool false) w1))else(R (.bool false) w1))
theorem S_merge_may {x0:Option Addr} {x0n:Nat} {x0c:Nat} {x1:Int} {w:World} {R:Ending→World→Prop} (h:F_merge_may x0 x0n x0c x1 w fun v w'=>R (.returned v) w'):Calls prog n_merge_may #[.slice x0 x0n x0c,.int .i64 x1] w R:=vcS noAnn func127 (by kernel_rfl) (by kernel_rfl) h
def F_merge_maker_from (x0:Option Addr) (x1a:Int) (x1b:Int) (x1c:Int) (w:World) (R:Value→World→Prop):Prop:=
 ∀w1 b3,w1=w.alloc (.cells #[.int .i64 x1a,.int .i64 x1b,.int .i64 x1c] t_merge_node)→b3=w.heap.size→∀w2 b4,w2=w1.alloc (.cells #[.int .i64 0,
 .int .i64 0,.bool false,.bool false] t_merge_best)→b4=w1.heap.size→∀w3,w3=w2.drew→OSome x0 fun p12=>∃x14:Option Addr,∃x14n:Nat,∃x14c:
 Nat,w3.cell? p12=some (.slice x14 x14n x14c)∧∃x18:Int,w3.cell? ((A0 b3).add 1)=some (.int .i64 x18)∧∀J6:World→Prop,(∀w4,(∀J7:Addr→
 World→Prop,(∀x6:Addr,∀w5,(∃x59:Bool,w5.cell? (x6.add 3)=some (.bool x59)∧bif x59 then(∃x60a:Int,∃x60b:Int,∃x60c:Bool,∃x60d:
 Bool,LdL w5 x6 0 [.int .i64 x60a,.int .i64 x60b,.bool x60c,.bool x60d]∧Sto w5 (A0 b4) (.int .i64 x60a) fun w6=>Sto w6 ((A0 b4).add 1) (.int .i64 x60b)
 fun w7=>Sto w7 ((A0 b4).add 2) (.bool x60c) fun w8=>Sto w8 ((A0 b4).add 3) (.bool x60d) fun w9=>∃r0a:Int,∃r0b:Int,∃r0c:Bool,∃r0d:Bool,LdL
 w9 (A0 b4) 0 [.int .i64 r0a,.int .i64 r0b,.bool r0c,.bool r0d]∧R (.agg #[.int .i64 r0a,.int .i64 r0b,.bool r0c,.bool r0d]) w9)else(∀w10 b7,w10=
 w5.alloc (.cells #[.int .i64 0,.int .i64 0,.bool false,.bool false] t_merge_best)→b7=w5.heap.size→Sto w10 (A0 b7) (.int .i64 0) fun w11=>Sto w11
 ((A0 b7).add 1) (.int .i64 0) fun w12=>Sto w12 ((A0 b7).add 2) (.bool false) fun w13=>Sto w13 ((A0 b7).add 3) (.bool true) fun w14=>∃x63:Int,
 w14.cell? ((A0 b3).add 2)=some (.int .i64 x63)∧∃I1:Nat→Int→World→Prop,(∃m_2,I1 m_2 x63 w14)∧∀m,∀x8:Int,∀w15,I1 m x8 w15→(bif decide
 (x8≥(0:Int))then(∃x70:Int,w15.cell? (A0 b3)=some (.int .i64 x70)∧∃x73:Int,w15.cell? ((A0 b3).add 1)=some (.int .i64 x73)∧∃x77:Int,
 w15.cell? ((A0 b3).add 2)=some (.int .i64 x77)∧Calls prog n_merge_maker_from #[.pointer x0,.agg #[.int .i64 (W64 (x70+(1:Int))),.int .i64 (W64 (x73+
 x8)),.int .i64 (W64 ((2:Int)*(W64 (x77-x8))))]] w15 (fun e w16=>∃x82a:Int,∃x82b:Int,∃x82c:Bool,∃x82d:Bool,e= .returned (.agg #[.int
 .i64 x82a,.int .i64 x82b,.bool x82c,.bool x82d])∧∀w17 b9,w17=w16.alloc (.cells #[.int .i64 0,.int .i64 0,.bool false,.bool false] t_merge_best)→
 b9=w16.heap.size→Sto w17 (A0 b9) (.int .i64 x82a) fun w18=>Sto w18 ((A0 b9).add 1) (.int .i64 x82b) fun w19=>Sto w19 ((A0 b9).add 2) (.bool x82c) fun
 w20=>Sto w20 ((A0 b9).add 3) (.bool x82d) fun w21=>∀w22,w22=w21.drew→∃x84:Int,w22.cell? (A0 b9)=some (.int .i64 x84)∧OSome x0 fun p86=>∃
 x88:Option Addr,∃x88n:Nat,∃x88c:Nat,w22.cell? p86=some (.slice x88 x88n x88c)∧∃x90:Int,w22.cell? ((A0 b3).add 1)=some (.int .i64 x90)∧0
 ≤x90∧x90<((x88n:Nat):Int)∧OSome x88 fun p91=>∃x92:Int,w22.cell? (p91.add (Int.toNat x90*1))=some (.int .i64 x92)∧∃x95:Bool,w22.cell?
 ((A0 b9).add 2)=some (.bool x95)∧bif x95 then(∃x98:Bool,w22.cell? ((A0 b7).add 2)=some (.bool x98)∧bif !x98 then(Sto w22 (A0 b7) (.int .i64 (W64
 (x84+x92))) fun w23=>Sto w23 ((A0 b7).add 1) (.int .i64 x8) fun w24=>Sto w24 ((A0 b7).add 2) (.bool true) fun w25=>Sto w25 ((A0 b7).add 3) (.bool true)
 fun w26=>∃m_3,m_3<m∧I1 m_3 (W64 (x8-(1:Int))) w26)else(∃x103:Int,w22.cell? (A0 b7)=some (.int .i64 x103)∧bif decide ((W64 (x84+x92))<
 x103)then(Sto w22 (A0 b7) (.int .i64 (W64 (x84+x92))) fun w27=>Sto w27 ((A0 b7).add 1) (.int .i64 x8) fun w28=>Sto w28 ((A0 b7).add 2) (.bool true) fun
 w29=>Sto w29 ((A0 b7).add 3) (.bool true) fun w30=>∃m_3,m_3<m∧I1 m_3 (W64 (x8-(1:Int))) w30)else(∃m_3,m_3<m∧I1 m_3 (W64 (x8-(1:Int)))
 w22)))else(∃m_3,m_3<m∧I1 m_3 (W64 (x8-(1:Int))) w22)))else(∀w31,w31=w15.drew→OSome x0 fun p111=>∃x113:Option Addr,∃x113n:Nat,∃
 x113c:Nat,w31.cell? (p111.add 2)=some (.slice x113 x113n x113c)∧∃x115a:Int,∃x115b:Int,∃x115c:Int,LdL w31 (A0 b3) 0 [.int .i64 x115a,.int
 .i64 x115b,.int .i64 x115c]∧∃x117a:Int,∃x117b:Int,∃x117c:Bool,∃x117d:Bool,LdL w31 (A0 b7) 0 [.int .i64 x117a,.int .i64 x117b,.bool x117c,
 .bool x117d]∧Calls prog n_merge_maker_at #[.pointer x0,.agg #[.int .i64 x115a,.int .i64 x115b,.int .i64 x115c]] w31 (fun e_2 w32=>∃x116:Int,e_2=
 .returned (.int .i64 x116)∧((w31.cell? (p111.add 2)=some (.slice x113 x113n x113c)→w32.cell? (p111.add 2)=some (.slice x113 x113n x113c))∧(w31.cell?
 ((A0 b7).add 0)=some (.int .i64 x117a)→w32.cell? ((A0 b7).add 0)=some (.int .i64 x117a))∧(w31.cell? ((A0 b7).add 1)=some (.int .i64 x117b)→
 w32.cell? ((A0 b7).add 1)=some (.int .i64 x117b))∧(w31.cell? ((A0 b7).add 2)=some (.bool x117c)→w32.cell? ((A0 b7).add 2)=some (.bool x117c))∧
 (w31.cell? ((A0 b7).add 3)=some (.bool x117d)→w32.cell? ((A0 b7).add 3)=some (.bool x117d))∧True)∧0≤x116∧x116<((x113n:Nat):Int)∧OSome
 x113 fun p118=>Sto w32 (p118.add (Int.toNat x116*4)) (.int .i64 x117a) fun w33=>Sto w33 ((p118.add (Int.toNat x116*4)).add 1) (.int .i64 x117b) fun w34
 =>Sto w34 ((p118.add (Int.toNat x116*4)).add 2) (.bool x117c) fun w35=>Sto w35 ((p118.add (Int.toNat x116*4)).add 3) (.bool x117d) fun w36=>(True)∧∃
 x119a:Int,∃x119b:Int,∃x119c:Bool,∃x119d:Bool,LdL w36 (A0 b7) 0 [.int .i64 x119a,.int .i64 x119b,.bool x119c,.bool x119d]∧Sto w36 (A0 b4)
 (.int .i64 x119a) fun w37=>Sto w37 ((A0 b4).add 1) (.int .i64 x119b) fun w38=>Sto w38 ((A0 b4).add 2) (.bool x119c) fun w39=>Sto w39 ((A0 b4).add 3)
 (.bool x119d) fun w40=>∃r0a_2:Int,∃r0b_2:Int,∃r0c_2:Bool,∃r0d_2:Bool,LdL w40 (A0 b4) 0 [.int .i64 r0a_2,.int .i64 r0b_2,.bool r0c_2,.bool
 r0d_2]∧R (.agg #[.int .i64 r0a_2,.int .i64 r0b_2,.bool r0c_2,.bool r0d_2]) w40)))))→J7 x6 w5)→∀w41,w41=w4.drew→OSome x0 fun p50=>∃x52:
 Option Addr,∃x52n:Nat,∃x52c:Nat,w41.cell? (p50.add 2)=some (.slice x52 x52n x52c)∧∃x54a:Int,∃x54b:Int,∃x54c:Int,LdL w41 (A0 b3) 0
 [.int .i64 x54a,.int .i64 x54b,.int .i64 x54c]∧(Calls prog n_merge_maker_at #[.pointer x0,.agg #[.int .i64 x54a,.int .i64 x54b,.int .i64 x54c]] w41 (fun
 e_3 w42=>∃x55:Int,e_3= .returned (.int .i64 x55)∧((w41.cell? (p50.add 2)=some (.slice x52 x52n x52c)→w42.cell? (p50.add 2)=some (.slice x52 x52n
 x52c))∧True)∧0≤x55∧x55<((x52n:Nat):Int)∧OSome x52 fun p56=>∃x57a:Int,∃x57b:Int,∃x57c:Bool,∃x57d:Bool,LdL w42 (p56.add
 (Int.toNat x55*4)) 0 [.int .i64 x57a,.int .i64 x57b,.bool x57c,.bool x57d]∧∀w43 b6,w43=w42.alloc (.cells #[.int .i64 0,.int .i64 0,.bool false,
 .bool false] t_merge_best)→b6=w42.heap.size→((w42.cell? (p50.add 2)=some (.slice x52 x52n x52c)→w43.cell? (p50.add 2)=some (.slice x52 x52n x52c))
 ∧(w42.cell? ((A0 b3).add 0)=some (.int .i64 x54a)→w43.cell? ((A0 b3).add 0)=some (.int .i64 x54a))∧(w42.cell? ((A0 b3).add 1)=some (.int .i64 x54b)
 →w43.cell? ((A0 b3).add 1)=some (.int .i64 x54b))∧(w42.cell? ((A0 b3).add 2)=some (.int .i64 x54c)→w43.cell? ((A0 b3).add 2)=some (.int .i64 x54c))
 ∧(w42.cell? ((p56.add (Int.toNat x55*4)).add 0)=some (.int .i64 x57a)→w43.cell? ((p56.add (Int.toNat x55*4)).add 0)=some (.int .i64 x57a))∧
 (w42.cell? ((p56.add (Int.toNat x55*4)).add 1)=some (.int .i64 x57b)→w43.cell? ((p56.add (Int.toNat x55*4)).add 1)=some (.int .i64 x57b))∧
 (w42.cell? ((p56.add (Int.toNat x55*4)).add 2)=some (.bool x57c)→w43.cell? ((p56.add (Int.toNat x55*4)).add 2)=some (.bool x57c))∧(w42.cell?
 ((p56.add (Int.toNat x55*4)).add 3)=some (.bool x57d)→w43.cell? ((p56.add (Int.toNat x55*4)).add 3)=some (.bool x57d))∧True)∧Sto w43 (A0 b6)
 (.int .i64 x57a) fun w44=>Sto w44 ((A0 b6).add 1) (.int .i64 x57b) fun w45=>Sto w45 ((A0 b6).add 2) (.bool x57c) fun w46=>Sto w46 ((A0 b6).add 3) (.bool
 x57d) fun w47=>(True)∧J7 (A0 b6) w47))∧(∀w48 b6_2,w48=w41.alloc (.cells #[.int .i64 0,.int .i64 0,.bool false,.bool false] t_merge_best)→b6_2=
 w41.heap.size→((w41.cell? (p50.add 2)=some (.slice x52 x52n x52c)→w48.cell? (p50.add 2)=some (.slice x52 x52n x52c))∧(w41.cell? ((A0 b3).add 0)=
 some (.int .i64 x54a)→w48.cell? ((A0 b3).add 0)=some (.int .i64 x54a))∧(w41.cell? ((A0 b3).add 1)=some (.int .i64 x54b)→w48.cell? ((A0 b3).add 1)=
 some (.int .i64 x54b))∧(w41.cell? ((A0 b3).add 2)=some (.int .i64 x54c)→w48.cell? ((A0 b3).add 2)=some (.int .i64 x54c))∧True)∧Calls prog
 n_merge_maker_at #[.pointer x0,.agg #[.int .i64 x54a,.int .i64 x54b,.int .i64 x54c]] w48 (fun e_4 w49=>∃x55_2:Int,e_4= .returned (.int .i64 x55_2)∧
 ((w48.cell? (p50.add 2)=some (.slice x52 x52n x52c)→w49.cell? (p50.add 2)=some (.slice x52 x52n x52c))∧True)∧0≤x55_2∧x55_2<((x52n:Nat):Int)
 ∧OSome x52 fun p56_2=>∃x57a_2:Int,∃x57b_2:Int,∃x57c_2:Bool,∃x57d_2:Bool,LdL w49 (p56_2.add (Int.toNat x55_2*4)) 0 [.int .i64 x57a_2,.int
 .i64 x57b_2,.bool x57c_2,.bool x57d_2]∧Sto w49 (A0 b6_2) (.int .i64 x57a_2) fun w50=>Sto w50 ((A0 b6_2).add 1) (.int .i64 x57b_2) fun w51=>Sto w51 ((A0
 b6_2).add 2) (.bool x57c_2) fun w52=>Sto w52 ((A0 b6_2).add 3) (.bool x57d_2) fun w53=>(True)∧J7 (A0 b6_2) w53)))→J6 w4)→∀J3:Bool→World→Prop,
 (∀x20:Bool,∀w54,(bif x20 then(Sto w54 (A0 b4) (.int .i64 0) fun w55=>Sto w55 ((A0 b4).add 1) (.int .i64 0) fun w56=>Sto w56 ((A0 b4).add 2) (.bool
 true) fun w57=>Sto w57 ((A0 b4).add 3) (.bool false) fun w58=>∃r0a_3:Int,∃r0b_3:Int,∃r0c_3:Bool,∃r0d_3:Bool,LdL w58 (A0 b4) 0 [.int .i64
 r0a_3,.int .i64 r0b_3,.bool r0c_3,.bool r0d_3]∧R (.agg #[.int .i64 r0a_3,.int .i64 r0b_3,.bool r0c_3,.bool r0d_3]) w58)else(∀w59,w59=w54.drew→∃
 x31:Int,w59.cell? ((A0 b3).add 2)=some (.int .i64 x31)∧bif x31==(0:Int)then(Sto w59 (A0 b4) (.int .i64 0) fun w60=>Sto w60 ((A0 b4).add 1) (.int
 .i64 0) fun w61=>Sto w61 ((A0 b4).add 2) (.bool false) fun w62=>Sto w62 ((A0 b4).add 3) (.bool false) fun w63=>∃r0a_4:Int,∃r0b_4:Int,∃r0c_4:
 Bool,∃r0d_4:Bool,LdL w63 (A0 b4) 0 [.int .i64 r0a_4,.int .i64 r0b_4,.bool r0c_4,.bool r0d_4]∧R (.agg #[.int .i64 r0a_4,.int .i64 r0b_4,.bool r0c_4,
 .bool r0d_4]) w63)else(∃x35:Int,w59.cell? ((A0 b3).add 2)=some (.int .i64 x35)∧bif decide (x35>(W64 ((W64 (((x14n:Nat):Int)-(1:Int)))-
 x18)))then(Sto w59 (A0 b4) (.int .i64 0) fun w64=>Sto w64 ((A0 b4).add 1) (.int .i64 0) fun w65=>Sto w65 ((A0 b4).add 2) (.bool false) fun w66=>Sto w66
 ((A0 b4).add 3) (.bool false) fun w67=>∃r0a_5:Int,∃r0b_5:Int,∃r0c_5:Bool,∃r0d_5:Bool,LdL w67 (A0 b4) 0 [.int .i64 r0a_5,.int .i64 r0b_5,
 .bool r0c_5,.bool r0d_5]∧R (.agg #[.int .i64 r0a_5,.int .i64 r0b_5,.bool r0c_5,.bool r0d_5]) w67)else(∃x41:Int,w59.cell? (A0 b3)=some (.int .i64
 x41)∧OSome x0 fun p43=>∃x45:Int,w59.cell? (p43.add 1)=some (.int .i64 x45)∧bif decide (x41>x45)then(Sto w59 (A0 b4) (.int .i64 0) fun w68=>
 Sto w68 ((A0 b4).add 1) (.int .i64 0) fun w69=>Sto w69 ((A0 b4).add 2) (.bool false) fun w70=>Sto w70 ((A0 b4).add 3) (.bool false) fun w71=>∃r0a_6:
 Int,∃r0b_6:Int,∃r0c_6:Bool,∃r0d_6:Bool,LdL w71 (A0 b4) 0 [.int .i64 r0a_6,.int .i64 r0b_6,.bool r0c_6,.bool r0d_6]∧R (.agg #[.int .i64 r0a_6,
 .int .i64 r0b_6,.bool r0c_6,.bool r0d_6]) w71)else(J6 w59)))))→J3 x20 w54)→bif (W64 ((W64 (((x14n:Nat):Int)-(1:Int)))-x18))==(0:Int)
 then(∃x25:Int,w3.cell? ((A0 b3).add 2)=some (.int .i64 x25)∧J3 (x25==(0:Int)) w3)else(J3 false w3)
def A_merge_maker_from:Ann:= {loop:=fun k=>cond (Nat.beq k 1) (some (1298074214633688460388550372755200,[8],[.int .i64])) (none),join:=fun k=>cond (Nat.beq k 3) (some (267386880,[20],[.bool])) (cond (Nat.beq k 7) (some (287667426198290496,[6],[.ad])) (cond (Nat.beq k 6) (some (562949952372736,[],[])) (none))),nf:=fun k=> []}
theorem S_merge_maker_from {x0:Option Addr} {x1a:Int} {x1b:Int} {x1c:Int} {w:World} {R:Ending→World→Prop} (h:F_merge_maker_from x0 x1a x1b x1c w fun v w'=>R (.returned v) w'):Calls prog n_merge_maker_from #[.pointer x0,.agg #[.int .i64 x1a,.int .i64 x1b,.int .i64 x1c]] w R:=vcS A_merge_maker_from func130 (by kernel_rfl) (by kernel_rfl) h
def F_merge_may_1 (x0:Int) (w:World) (R:Value→World→Prop):Prop:=
 bif decide (x0<(0:Int))then(R (.bool true) w)else(R (.bool (decide (x0>(16777216:Int)))) w)
theorem S_merge_may_1 {x0:Int} {w:World} {R:Ending→World→Prop} (h:F_merge_may_1 x0 w fun v w'=>R (.returned v) w'):Calls prog n_merge_may_1 #[.int .i64 x0] w R:=vcS noAnn func193 (by kernel_rfl) (by kernel_rfl) h
def F_merge_maker_at (x0:Option Addr) (x1a:Int) (x1b:Int) (x1c:Int) (w:World) (R:Value→World→Prop):Prop:=
 ∀w1 b3,w1=w.alloc (.cells #[.int .i64 x1a,.int .i64 x1b,.int .i64 x1c] t_merge_node)→b3=w.heap.size→OSome x0 fun p7=>∃x9:Option Addr,∃x9n:
 Nat,∃x9c:Nat,w1.cell? p7=some (.slice x9 x9n x9c)∧∃x12:Int,w1.cell? (A0 b3)=some (.int .i64 x12)∧∃x16:Int,w1.cell? ((A0 b3).add 1)=some
 (.int .i64 x16)∧∃x21:Int,w1.cell? ((A0 b3).add 2)=some (.int .i64 x21)∧R (.int .i64 (W64 ((W64 ((W64 ((W64 (x12*((x9n:Nat):Int)))+x16))*
 ((x9n:Nat):Int)))+x21))) w1
theorem S_merge_maker_at {x0:Option Addr} {x1a:Int} {x1b:Int} {x1c:Int} {w:World} {R:Ending→World→Prop} (h:F_merge_maker_at x0 x1a x1b x1c w fun v w'=>R (.returned v) w'):Calls prog n_merge_maker_at #[.pointer x0,.agg #[.int .i64 x1a,.int .i64 x1b,.int .i64 x1c]] w R:=vcS noAnn func198 (by kernel_rfl) (by kernel_rfl) h
def F_canon_Codes (x0:Option Addr) (x0n:Nat) (x0c:Nat) (w:World) (R:Value→World→Prop):Prop:=
 Calls prog n_canon_May #[.slice x0 x0n x0c] w (fun e w1=>∃x12:Bool,e= .returned (.bool x12)∧bif !x12 then(R (.tuple #[.slice none 0 0,.int .i64 (3:
 Int)]) w1)else(∀w2 b14,w2=w1.alloc (.cells #[] t_canon_class)→b14=w1.heap.size→∀w3 b15,w3=w2.alloc (.cells #[.slice (some (A0 b14)) 0 0]
 t_canon_classes)→b15=w2.heap.size→∃I0:Nat→Int→World→Prop,(∃m_2,I0 m_2 (0:Int) w3)∧∀m,∀x18:Int,∀w4,I0 m x18 w4→(bif decide (x18
 <((x0n:Nat):Int))then(0≤x18∧x18<((x0n:Nat):Int)∧OSome x0 fun p21=>∃x22:Int,w4.cell? (p21.add (Int.toNat x18*1))=some (.int .i64
 x22)∧bif decide (x22>(0:Int))then(Calls prog n_heap_Push #[.iface t_P_canon_classes (.pointer (some (A0 b15))),.iface t_canon_class (.agg #[.int .i64
 x18,.int .i64 x22])] w4 (fun e_2 w5=>e_2= .returned (.tuple #[])∧∃m_3,m_3<m∧I0 m_3 (W64 (x18+(1:Int))) w5))else(∃m_3,m_3<m∧I0 m_3 (W64
 (x18+(1:Int))) w4))else(0≤(65:Int)∧(65:Int)≤(65:Int)∧((16:Nat):Int)*(65:Int)≤((maxMake:Nat):Int)∧∀w6 b33,w6=w4.alloc
 (.cells (mkCells TAB t_api_Code (Int.toNat (65:Int))) t_api_Code)→b33=w4.heap.size→∀w7 b8,w7=w6.alloc (.cells #[.int .i64 0,.int .i64 0]
 t_api_Code)→b8=w6.heap.size→Sto w7 (A0 b8) (.int .i64 (-1:Int)) fun w8=>Sto w8 ((A0 b8).add 1) (.int .i64 0) fun w9=>∃I2:Nat→World→Prop,(∃
 m_5,I2 m_5 w9)∧∀m_4,∀w10,I2 m_4 w10→(OSome (some (A0 b15)) fun p36=>∃x37:Option Addr,∃x37n:Nat,∃x37c:Nat,w10.cell? p36=some (.slice
 x37 x37n x37c)∧Calls prog n_canon_classes_Len #[.slice x37 x37n x37c] w10 (fun e_3 w11=>∃x38:Int,e_3= .returned (.int .i64 x38)∧bif decide (x38>(0
 :Int))then(Calls prog n_heap_Pop #[.iface t_P_canon_classes (.pointer (some (A0 b15)))] w11 (fun e_4 w12=>∃x43:Value,e_4= .returned (x43)∧∃x44a:
 Int,∃x44b:Int,(x43:Value)= .iface t_canon_class (.agg #[.int .i64 x44a,.int .i64 x44b])∧∀w13 b9,w13=w12.alloc (.cells #[.int .i64 0,.int .i64
 0] t_canon_class)→b9=w12.heap.size→Sto w13 (A0 b9) (.int .i64 x44a) fun w14=>Sto w14 ((A0 b9).add 1) (.int .i64 x44b) fun w15=>∀J17:World→Prop,
 (∀w16,(∀w17,w17=w16.drew→∃x56:Int,w17.cell? (A0 b8)=some (.int .i64 x56)∧∃x59:Int,w17.cell? ((A0 b9).add 1)=some (.int .i64 x59)∧∃x61
 :Int,w17.cell? ((A0 b8).add 1)=some (.int .i64 x61)∧0≤(W64 (x59-x61))∧∃x65:Int,w17.cell? ((A0 b9).add 1)=some (.int .i64 x65)∧Sto w17 (A0
 b8) (.int .i64 (shlI .i64 (W64 (x56+(1:Int))) (W64 (x59-x61)))) fun w18=>Sto w18 ((A0 b8).add 1) (.int .i64 x65) fun w19=>(True)∧∃x69:Int,
 w19.cell? (A0 b9)=some (.int .i64 x69)∧∃x70a:Int,∃x70b:Int,LdL w19 (A0 b8) 0 [.int .i64 x70a,.int .i64 x70b]∧0≤x69∧x69<((Int.toNat (65:
 Int):Nat):Int)∧OSome (some (A0 b33)) fun p71=>Sto w19 (p71.add (Int.toNat x69*2)) (.int .i64 x70a) fun w20=>Sto w20 ((p71.add (Int.toNat x69*
 2)).add 1) (.int .i64 x70b) fun w21=>∃m_6,m_6<m_4∧I2 m_6 w21)→J17 w16)→∃x50:Int,w15.cell? ((A0 b8).add 1)=some (.int .i64 x50)∧bif x50==
 (0:Int)then(∃x53:Int,w15.cell? ((A0 b9).add 1)=some (.int .i64 x53)∧Sto w15 ((A0 b8).add 1) (.int .i64 x53) fun w22=>J17 w22)else(J17 w15)))
 else(R (.tuple #[.slice (some (A0 b33)) (Int.toNat (65:Int)) (Int.toNat (65:Int)),.int .i64 (0:Int)]) w11)))))))
def A_canon_Codes:Ann:= {loop:=fun k=>cond (Nat.beq k 2) (some (4722366482835285476864,[],[])) (cond (Nat.beq k 0) (some (8589672544,[18],[.int .i64])) (none)),join:=fun k=>cond (Nat.beq k 17) (some (35465847065542656,[],[])) (none),nf:=fun k=> []}
theorem S_canon_Codes {x0:Option Addr} {x0n:Nat} {x0c:Nat} {w:World} {R:Ending→World→Prop} (h:F_canon_Codes x0 x0n x0c w fun v w'=>R (.returned v) w'):Calls prog n_canon_Codes #[.slice x0 x0n x0c] w R:=vcS A_canon_Codes func131 (by kernel_rfl) (by kernel_rfl) h
def F_canon_May (x0:Option Addr) (x0n:Nat) (x0c:Nat) (w:World) (R:Value→World→Prop):Prop:=
 bif ((x0n:Nat):Int) !=(65:Int)then(R (.bool false) w)else(∃I0:Nat→Int→Int→Int→World→Prop,(∃m_2,I0 m_2 (0:Int) (0:Int) (0:Int) w)
 ∧∀m,∀x3:Int,∀x4:Int,∀x12:Int,∀w1,I0 m x3 x4 x12 w1→(bif decide (x12<((x0n:Nat):Int))then(0≤x12∧x12<((x0n:Nat):Int)∧OSome
 x0 fun p14=>∃x15:Int,w1.cell? (p14.add (Int.toNat x12*1))=some (.int .i64 x15)∧∀J9:World→Prop,(∀w2,(bif decide (x15>(0:Int))then(0≤
 (W64 ((15:Int)-x15))∧∃m_3,m_3<m∧I0 m_3 (W64 (x3+(shlI .i64 (1:Int) (W64 ((15:Int)-x15))))) (W64 (x4+(1:Int))) (W64 (x12+(1:Int)))
 w2)else(∃m_3,m_3<m∧I0 m_3 x3 x4 (W64 (x12+(1:Int))) w2))→J9 w2)→bif decide (x15<(0:Int))then(R (.bool false) w1)else(bif decide (x15>
 (15:Int))then(R (.bool false) w1)else(J9 w1)))else(bif x4==(0:Int)then(R (.bool true) w1)else(bif x3==(32768:Int)then(R (.bool true) w1)
 else(bif x4==(1:Int)then(R (.bool (x3==(16384:Int))) w1)else(R (.bool false) w1))))))
def A_canon_May:Ann:= {loop:=fun k=>cond (Nat.beq k 0) (some (4294963292,[3,4,12],[.int .i64,.int .i64,.int .i64])) (none),join:=fun k=>cond (Nat.beq k 9) (some (4128772,[],[])) (none),nf:=fun k=> []}
theorem S_canon_May {x0:Option Addr} {x0n:Nat} {x0c:Nat} {w:World} {R:Ending→World→Prop} (h:F_canon_May x0 x0n x0c w fun v w'=>R (.returned v) w'):Calls prog n_canon_May #[.slice x0 x0n x0c] w R:=vcS A_canon_May func136 (by kernel_rfl) (by kernel_rfl) h
def F_canon_classes_Len (x0:Option Addr) (x0n:Nat) (x0c:Nat) (w:World) (R:Value→World→Prop):Prop:=
 R (.int .i64 ((x0n:Nat):Int)) w
theorem S_canon_classes_Len {x0:Option Addr} {x0n:Nat} {x0c:Nat} {w:World} {R:Ending→World→Prop} (h:F_canon_classes_Len x0 x0n x0c w fun v w'=>R (.returned v) w'):Calls prog n_canon_classes_Len #[.slice x0 x0n x0c] w R:=vcS noAnn func199 (by kernel_rfl) (by kernel_rfl) h
def F_canon_classes_Less (x0:Option Addr) (x0n:Nat) (x0c:Nat) (x1:Int) (x2:Int) (w:World) (R:Value→World→Prop):Prop:=
 ∀w1,w1=w.drew→0≤x1∧x1<((x0n:Nat):Int)∧OSome x0 fun p9=>∃x11:Int,w1.cell? ((p9.add (Int.toNat x1*2)).add 1)=some (.int .i64 x11)∧0≤
 x2∧x2<((x0n:Nat):Int)∧OSome x0 fun p14=>∃x16:Int,w1.cell? ((p14.add (Int.toNat x2*2)).add 1)=some (.int .i64 x16)∧bif decide (x11<x16)
 then(R (.bool true) w1)else(0≤x1∧x1<((x0n:Nat):Int)∧OSome x0 fun p21=>∃x23:Int,w1.cell? ((p21.add (Int.toNat x1*2)).add 1)=some (.int
 .i64 x23)∧0≤x2∧x2<((x0n:Nat):Int)∧OSome x0 fun p26=>∃x28:Int,w1.cell? ((p26.add (Int.toNat x2*2)).add 1)=some (.int .i64 x28)∧bif x23
 ==x28 then(0≤x1∧x1<((x0n:Nat):Int)∧OSome x0 fun p33=>∃x35:Int,w1.cell? (p33.add (Int.toNat x1*2))=some (.int .i64 x35)∧0≤x2∧x2<
 ((x0n:Nat):Int)∧OSome x0 fun p38=>∃x40:Int,w1.cell? (p38.add (Int.toNat x2*2))=some (.int .i64 x40)∧R (.bool (decide (x35<x40))) w1)else
 (R (.bool false) w1))
theorem S_canon_classes_Less {x0:Option Addr} {x0n:Nat} {x0c:Nat} {x1:Int} {x2:Int} {w:World} {R:Ending→World→Prop} (h:F_canon_classes_Less x0 x0n x0c x1 x2 w fun v w'=>R (.returned v) w'):Calls prog n_canon_classes_Less #[.slice x0 x0n x0c,.int .i64 x1,.int .i64 x2] w R:=vcS noAnn func283 (by kernel_rfl) (by kernel_rfl) h
def F_canon_classes_Pop (x0:Option Addr) (w:World) (R:Value→World→Prop):Prop:=
 OSome x0 fun p6=>∃x7:Option Addr,∃x7n:Nat,∃x7c:Nat,w.cell? p6=some (.slice x7 x7n x7c)∧OSome x0 fun p11=>∃x12:Option Addr,∃x12n:Nat,∃
 x12c:Nat,w.cell? p11=some (.slice x12 x12n x12c)∧0≤(W64 (((x7n:Nat):Int)-(1:Int)))∧(W64 (((x7n:Nat):Int)-(1:Int)))<((x12n:Nat):
 Int)∧OSome x12 fun p14=>∃x15a:Int,∃x15b:Int,LdL w (p14.add (Int.toNat (W64 (((x7n:Nat):Int)-(1:Int)))*2)) 0 [.int .i64 x15a,.int .i64
 x15b]∧∀w1 b4,w1=w.alloc (.cells #[.int .i64 0,.int .i64 0] t_canon_class)→b4=w.heap.size→Sto w1 (A0 b4) (.int .i64 x15a) fun w2=>Sto w2 ((A0
 b4).add 1) (.int .i64 x15b) fun w3=>OSome x0 fun p18=>∃x19:Option Addr,∃x19n:Nat,∃x19c:Nat,w3.cell? p18=some (.slice x19 x19n x19c)∧0≤
 (W64 (((x7n:Nat):Int)-(1:Int)))∧(W64 (((x7n:Nat):Int)-(1:Int)))≤((x19c:Nat):Int)∧OSome x0 fun p22=>Sto w3 p22 (.slice (sA x19 2 0
 x19c) ((Int.toNat (W64 (((x7n:Nat):Int)-(1:Int))))-0) (x19c-0)) fun w4=>∃x23a:Int,∃x23b:Int,LdL w4 (A0 b4) 0 [.int .i64 x23a,.int .i64
 x23b]∧R (.iface t_canon_class (.agg #[.int .i64 x23a,.int .i64 x23b])) w4
theorem S_canon_classes_Pop {x0:Option Addr} {w:World} {R:Ending→World→Prop} (h:F_canon_classes_Pop x0 w fun v w'=>R (.returned v) w'):Calls prog n_canon_classes_Pop #[.pointer x0] w R:=vcS noAnn func284 (by kernel_rfl) (by kernel_rfl) h
def F_canon_classes_Push (x0:Option Addr) (x1:Value) (w:World) (R:Value→World→Prop):Prop:=
 ∃x8a:Int,∃x8b:Int,(x1:Value)= .iface t_canon_class (.agg #[.int .i64 x8a,.int .i64 x8b])∧∀w1 b4,w1=w.alloc (.cells #[.int .i64 0,.int .i64 0]
 t_canon_class)→b4=w.heap.size→Sto w1 (A0 b4) (.int .i64 x8a) fun w2=>Sto w2 ((A0 b4).add 1) (.int .i64 x8b) fun w3=>∀w4,w4=w3.drew→OSome x0 fun
 p14=>∃x15:Option Addr,∃x15n:Nat,∃x15c:Nat,w4.cell? p14=some (.slice x15 x15n x15c)∧∃x16a:Int,∃x16b:Int,LdL w4 (A0 b4) 0 [.int .i64
 x16a,.int .i64 x16b]∧∀w5 b17,w5=w4.alloc (.cells #[.int .i64 x16a,.int .i64 x16b] t_canon_class)→b17=w4.heap.size→((w4.cell? p14=some (.slice
 x15 x15n x15c)→w5.cell? p14=some (.slice x15 x15n x15c))∧True)∧∃x18:Option Addr,∃x18n:Nat,∃x18c:Nat,∃w6:World,(Builtin.append_
 #[t_canon_classes,t_canon_classes] t_canon_classes #[.slice x15 x15n x15c,.slice (some (A0 b17)) 1 1]).run prog w5= .ok (.slice x18 x18n x18c) w6∧
 ((w5.cell? ((A0 b4).add 0)=some (.int .i64 x16a)→w6.cell? ((A0 b4).add 0)=some (.int .i64 x16a))∧(w5.cell? ((A0 b4).add 1)=some (.int .i64 x16b)→
 w6.cell? ((A0 b4).add 1)=some (.int .i64 x16b))∧True)∧OSome x0 fun p19=>Sto w6 p19 (.slice x18 x18n x18c) fun w7=>(True)∧R (.tuple #[]) w7
theorem S_canon_classes_Push {x0:Option Addr} {x1:Value} {w:World} {R:Ending→World→Prop} (h:F_canon_classes_Push x0 x1 w fun v w'=>R (.returned v) w'):Calls prog n_canon_classes_Push #[.pointer x0,x1] w R:=vcS noAnn func285 (by kernel_rfl) (by kernel_rfl) h
def F_canon_classes_Swap (x0:Option Addr) (x0n:Nat) (x0c:Nat) (x1:Int) (x2:Int) (w:World) (R:Value→World→Prop):Prop:=
 ∀w1,w1=w.drew→0≤x2∧x2<((x0n:Nat):Int)∧OSome x0 fun p12=>∃x13a:Int,∃x13b:Int,LdL w1 (p12.add (Int.toNat x2*2)) 0 [.int .i64 x13a,
 .int .i64 x13b]∧0≤x1∧x1<((x0n:Nat):Int)∧OSome x0 fun p16=>∃x17a:Int,∃x17b:Int,LdL w1 (p16.add (Int.toNat x1*2)) 0 [.int .i64 x17a,
 .int .i64 x17b]∧0≤x1∧x1<((x0n:Nat):Int)∧OSome x0 fun p18=>Sto w1 (p18.add (Int.toNat x1*2)) (.int .i64 x13a) fun w2=>Sto w2 ((p18.add
 (Int.toNat x1*2)).add 1) (.int .i64 x13b) fun w3=>(True)∧0≤x2∧x2<((x0n:Nat):Int)∧OSome x0 fun p19=>Sto w3 (p19.add (Int.toNat x2*2))
 (.int .i64 x17a) fun w4=>Sto w4 ((p19.add (Int.toNat x2*2)).add 1) (.int .i64 x17b) fun w5=>(True)∧R (.tuple #[]) w5
theorem S_canon_classes_Swap {x0:Option Addr} {x0n:Nat} {x0c:Nat} {x1:Int} {x2:Int} {w:World} {R:Ending→World→Prop} (h:F_canon_classes_Swap x0 x0n x0c x1 x2 w fun v w'=>R (.returned v) w'):Calls prog n_canon_classes_Swap #[.slice x0 x0n x0c,.int .i64 x1,.int .i64 x2] w R:=vcS noAnn func286 (by kernel_rfl) (by kernel_rfl) h
def F_bits_New (w:World) (R:Value→World→Prop):Prop:=
 ∀w1 b2,w1=w.alloc (.cells #[.slice none 0 0,.int .i64 0] t_bits_Writer)→b2=w.heap.size→R (.pointer (some (A0 b2))) w1
theorem S_bits_New {w:World} {R:Ending→World→Prop} (h:F_bits_New w fun v w'=>R (.returned v) w'):Calls prog n_bits_New #[] w R:=vcS noAnn func132 (by kernel_rfl) (by kernel_rfl) h
def F_bits_Writer_Put (x0:Option Addr) (x1:Int) (x2:Int) (w:World) (R:Value→World→Prop):Prop:=
 bif x0.isNone then(R (.tuple #[]) w)else(∃I0:Nat→Int→World→Prop,(∃m_2,I0 m_2 (0:Int) w)∧∀m,∀x15:Int,∀w1,I0 m x15 w1→(bif decide (x15
 <(if (if (64:Int)<x2 then(64:Int)else x2)>(0:Int)then(if (64:Int)<x2 then(64:Int)else x2)else(0:Int)))then(0≤x15∧Calls prog
 n_bits_Writer_bit #[.pointer x0,.int .u64 (shrI .u64 x1 x15)] w1 (fun e w2=>e= .returned (.tuple #[])∧∃m_3,m_3<m∧I0 m_3 (W64 (x15+(1:Int)))
 w2))else(R (.tuple #[]) w1)))
def A_bits_Writer_Put:Ann:= {loop:=fun k=>cond (Nat.beq k 0) (some (16744576,[15],[.int .i64])) (none),join:=fun k=>none,nf:=fun k=> []}
theorem S_bits_Writer_Put {x0:Option Addr} {x1:Int} {x2:Int} {w:World} {R:Ending→World→Prop} (h:F_bits_Writer_Put x0 x1 x2 w fun v w'=>R (.returned v) w'):Calls prog n_bits_Writer_Put #[.pointer x0,.int .u64 x1,.int .i64 x2] w R:=vcS A_bits_Writer_Put func134 (by kernel_rfl) (by kernel_rfl) h
def F_bits_Writer_Bytes (x0:Option Addr) (w:World) (R:Value→World→Prop):Prop:=
 bif x0.isNone then(R (.string (⟨#[]⟩:ByteArray)) w)else(OSome x0 fun p6=>∃x8:Option Addr,∃x8n:Nat,∃x8c:Nat,w.cell? p6=some (.slice x8 x8n
 x8c)∧∃x9:ByteArray,(Conv.bytesToString (.slice x8 x8n x8c)).run prog w= .ok (.string x9) w∧R (.string x9) w)
theorem S_bits_Writer_Bytes {x0:Option Addr} {w:World} {R:Ending→World→Prop} (h:F_bits_Writer_Bytes x0 w fun v w'=>R (.returned v) w'):Calls prog n_bits_Writer_Bytes #[.pointer x0] w R:=vcS noAnn func135 (by kernel_rfl) (by kernel_rfl) h
def F_bits_From (x0:ByteArray) (w:World) (R:Value→World→Prop):Prop:=
 ∀w1 b5,w1=w.alloc (.cells #[.string x0,.int .i64 0] t_bits_Reader)→b5=w.heap.size→R (.pointer (some (A0 b5))) w1
theorem S_bits_From {x0:ByteArray} {w:World} {R:Ending→World→Prop} (h:F_bits_From x0 w fun v w'=>R (.returned v) w'):Calls prog n_bits_From #[.string x0] w R:=vcS noAnn func166 (by kernel_rfl) (by kernel_rfl) h
def F_bits_Reader_Get (x0:Option Addr) (x1:Int) (w:World) (R:Value→World→Prop):Prop:=
 ∀J7:World→Prop,(∀w1,(∃I1:Nat→Int→Int→World→Prop,(∃m_2,I1 m_2 (0:Int) (0:Int) w1)∧∀m,∀x7:Int,∀x27:Int,∀w2,I1 m x7 x27 w2→
 (bif decide (x27<x1)then(Calls prog n_bits_Reader_bit #[.pointer x0] w2 (fun e w3=>∃x32:Int,e= .returned (.int .u64 x32)∧0≤x27∧∃m_3,m_3<m
 ∧I1 m_3 (orI .u64 x7 (shlI .u64 x32 x27)) (W64 (x27+(1:Int))) w3))else(R (.tuple #[.int .u64 x7,.int .i64 (0:Int)]) w2)))→J7 w1)→bif x0.isNone
 then(R (.tuple #[.int .u64 (0:Int),.int .i64 (6:Int)]) w)else(bif decide (x1<(0:Int))then(R (.tuple #[.int .u64 (0:Int),.int .i64 (1:Int)])
 w)else(bif decide (x1>(64:Int))then(R (.tuple #[.int .u64 (0:Int),.int .i64 (1:Int)]) w)else(Calls prog n_bits_Reader_left #[.pointer x0] w (fun
 e_2 w4=>∃x22:Int,e_2= .returned (.int .i64 x22)∧bif decide (x1>x22)then(R (.tuple #[.int .u64 (0:Int),.int .i64 (2:Int)]) w4)else(J7
 w4)))))
def A_bits_Reader_Get:Ann:= {loop:=fun k=>cond (Nat.beq k 1) (some (137304736128,[7,27],[.int .u64,.int .i64])) (none),join:=fun k=>cond (Nat.beq k 7) (some (16776752,[],[])) (none),nf:=fun k=> []}
theorem S_bits_Reader_Get {x0:Option Addr} {x1:Int} {w:World} {R:Ending→World→Prop} (h:F_bits_Reader_Get x0 x1 w fun v w'=>R (.returned v) w'):Calls prog n_bits_Reader_Get #[.pointer x0,.int .i64 x1] w R:=vcS A_bits_Reader_Get func167 (by kernel_rfl) (by kernel_rfl) h
def F_bits_Reader_Rest (x0:Option Addr) (w:World) (R:Value→World→Prop):Prop:=
 ∀J3:World→Prop,(∀w1,(∀w2,w2=w1.drew→Calls prog n_bits_Reader_left #[.pointer x0] w2 (fun e w3=>∃x11:Int,e= .returned (.int .i64 x11)∧
 (True)∧bif x11==(0:Int)then(R (.bool true) w3)else(OSome x0 fun p15=>∃x17:ByteArray,w3.cell? p15=some (.string x17)∧OSome x0 fun p19=>∃
 x21:ByteArray,w3.cell? p19=some (.string x21)∧0≤(W64 (((x21.size:Nat):Int)-(1:Int)))∧∃c24:UInt8,x17[Int.toNat (W64 (((x21.size:Nat):
 Int)-(1:Int)))]? =some c24∧OSome x0 fun p26=>∃x28:Int,w3.cell? (p26.add 1)=some (.int .i64 x28)∧(8:Int)≠0∧0≤(Int.tmod x28 (8:Int))∧
 R (.bool ((shrI .u8 ((c24.toNat:Nat):Int) (Int.tmod x28 (8:Int)))==(0:Int))) w3)))→J3 w1)→bif x0.isNone then(R (.bool false) w)else(Calls
 prog n_bits_Reader_left #[.pointer x0] w (fun e_2 w4=>∃x7:Int,e_2= .returned (.int .i64 x7)∧bif decide (x7≥(8:Int))then(R (.bool false) w4)else
 (J3 w4)))
def A_bits_Reader_Rest:Ann:= {loop:=fun k=>none,join:=fun k=>cond (Nat.beq k 3) (some (1020,[],[])) (none),nf:=fun k=> []}
theorem S_bits_Reader_Rest {x0:Option Addr} {w:World} {R:Ending→World→Prop} (h:F_bits_Reader_Rest x0 w fun v w'=>R (.returned v) w'):Calls prog n_bits_Reader_Rest #[.pointer x0] w R:=vcS A_bits_Reader_Rest func171 (by kernel_rfl) (by kernel_rfl) h
def F_bits_Writer_bit (x0:Option Addr) (x1:Int) (w:World) (R:Value→World→Prop):Prop:=
 ∀J2:World→Prop,(∀w1,(∀w2,w2=w1.drew→OSome x0 fun p20=>∃x22:Option Addr,∃x22n:Nat,∃x22c:Nat,w2.cell? p20=some (.slice x22 x22n x22c)
 ∧OSome x0 fun p24=>∃x26:Int,w2.cell? (p24.add 1)=some (.int .i64 x26)∧(8:Int)≠0∧0≤(W64 (Int.tdiv x26 (8:Int)))∧(W64 (Int.tdiv x26 (8:
 Int)))<((x22n:Nat):Int)∧OSome x22 fun p28=>∃x29:Int,w2.cell? (p28.add (Int.toNat (W64 (Int.tdiv x26 (8:Int)))*1))=some (.int .u8 x29)∧
 OSome x0 fun p34=>∃x36:Int,w2.cell? (p34.add 1)=some (.int .i64 x36)∧(8:Int)≠0∧0≤(Int.tmod x36 (8:Int))∧0≤(W64 (Int.tdiv x26 (8:
 Int)))∧(W64 (Int.tdiv x26 (8:Int)))<((x22n:Nat):Int)∧OSome x22 fun p40=>Sto w2 (p40.add (Int.toNat (W64 (Int.tdiv x26 (8:Int)))*1)) (.int .u8
 (orI .u8 x29 (shlI .u8 (U8 (andI .u64 x1 (1:Int))) (Int.tmod x36 (8:Int))))) fun w3=>(True)∧OSome x0 fun p42=>∃x44:Int,w3.cell? (p42.add 1)=
 some (.int .i64 x44)∧OSome x0 fun p46=>Sto w3 (p46.add 1) (.int .i64 (W64 (x44+(1:Int)))) fun w4=>R (.tuple #[]) w4)→J2 w1)→OSome x0 fun p5=>∃
 x7:Int,w.cell? (p5.add 1)=some (.int .i64 x7)∧(8:Int)≠0∧bif (Int.tmod x7 (8:Int))==(0:Int)then(OSome x0 fun p12=>∃x14:Option Addr,∃
 x14n:Nat,∃x14c:Nat,w.cell? p12=some (.slice x14 x14n x14c)∧∀w5 b15,w5=w.alloc (.cells #[.int .u8 (0:Int)] t_uint8)→b15=w.heap.size→∃x16
 :Option Addr,∃x16n:Nat,∃x16c:Nat,∃w6:World,(Builtin.append_ #[t_S_uint8,t_S_uint8] t_S_uint8 #[.slice x14 x14n x14c,.slice (some (A0 b15)) 1
 1]).run prog w5= .ok (.slice x16 x16n x16c) w6∧OSome x0 fun p17=>Sto w6 p17 (.slice x16 x16n x16c) fun w7=>J2 w7)else(J2 w)
def A_bits_Writer_bit:Ann:= {loop:=fun k=>none,join:=fun k=>cond (Nat.beq k 2) (some (524272,[],[])) (none),nf:=fun k=> []}
theorem S_bits_Writer_bit {x0:Option Addr} {x1:Int} {w:World} {R:Ending→World→Prop} (h:F_bits_Writer_bit x0 x1 w fun v w'=>R (.returned v) w'):Calls prog n_bits_Writer_bit #[.pointer x0,.int .u64 x1] w R:=vcS A_bits_Writer_bit func201 (by kernel_rfl) (by kernel_rfl) h
def F_bits_Reader_left (x0:Option Addr) (w:World) (R:Value→World→Prop):Prop:=
 ∀w1,w1=w.drew→OSome x0 fun p4=>∃x6:ByteArray,w1.cell? p4=some (.string x6)∧OSome x0 fun p10=>∃x12:Int,w1.cell? (p10.add 1)=some (.int
 .i64 x12)∧R (.int .i64 (W64 ((W64 ((8:Int)*((x6.size:Nat):Int)))-x12))) w1
theorem S_bits_Reader_left {x0:Option Addr} {w:World} {R:Ending→World→Prop} (h:F_bits_Reader_left x0 w fun v w'=>R (.returned v) w'):Calls prog n_bits_Reader_left #[.pointer x0] w R:=vcS noAnn func218 (by kernel_rfl) (by kernel_rfl) h
def F_bits_Reader_bit (x0:Option Addr) (w:World) (R:Value→World→Prop):Prop:=
 ∀w1,w1=w.drew→OSome x0 fun p5=>∃x7:ByteArray,w1.cell? p5=some (.string x7)∧OSome x0 fun p9=>∃x11:Int,w1.cell? (p9.add 1)=some (.int .i64
 x11)∧(8:Int)≠0∧0≤(W64 (Int.tdiv x11 (8:Int)))∧∃c13:UInt8,x7[Int.toNat (W64 (Int.tdiv x11 (8:Int)))]? =some c13∧OSome x0 fun p15=>∃x17
 :Int,w1.cell? (p15.add 1)=some (.int .i64 x17)∧(8:Int)≠0∧0≤(Int.tmod x17 (8:Int))∧OSome x0 fun p23=>∃x25:Int,w1.cell? (p23.add 1)=
 some (.int .i64 x25)∧OSome x0 fun p27=>Sto w1 (p27.add 1) (.int .i64 (W64 (x25+(1:Int)))) fun w2=>R (.int .u64 (andI .u64 (U64 (shrI .u8 ((c13.toNat
 :Nat):Int) (Int.tmod x17 (8:Int)))) (1:Int))) w2
theorem S_bits_Reader_bit {x0:Option Addr} {w:World} {R:Ending→World→Prop} (h:F_bits_Reader_bit x0 w fun v w'=>R (.returned v) w'):Calls prog n_bits_Reader_bit #[.pointer x0] w R:=vcS noAnn func219 (by kernel_rfl) (by kernel_rfl) h
def F_lens_Put (x0:Option Addr) (x0n:Nat) (x0c:Nat) (w:World) (R:Value→World→Prop):Prop:=
 Calls prog n_canon_May #[.slice x0 x0n x0c] w (fun e w1=>∃x8:Bool,e= .returned (.bool x8)∧bif !x8 then(R (.string (⟨#[]⟩:ByteArray)) w1)else(Calls
 prog n_bits_New #[] w1 (fun e_2 w2=>∃x10:Option Addr,e_2= .returned (.pointer x10)∧∃I0:Nat→Option Addr→Nat→Nat→World→Prop,(∃m_2,I0 m_2
 x0 x0n x0c w2)∧∀m,∀x5:Option Addr,∀x5n:Nat,∀x5c:Nat,∀w3,I0 m x5 x5n x5c w3→(bif decide (((x5n:Nat):Int)>(0:Int))then(Calls prog
 n_lens_noughts #[.slice x5 x5n x5c] w3 (fun e_3 w4=>∃x18:Int,e_3= .returned (.int .i64 x18)∧bif x18==(0:Int)then(0≤(0:Int)∧(0:Int)<
 ((x5n:Nat):Int)∧OSome x5 fun p23=>∃x24:Int,w4.cell? (p23.add (Int.toNat (0:Int)*1))=some (.int .i64 x24)∧Calls prog n_bits_Writer_Put
 #[.pointer x10,.int .u64 (U64 x24),.int .i64 (4:Int)] w4 (fun e_4 w5=>e_4= .returned (.tuple #[])∧0≤(1:Int)∧(1:Int)≤((x5n:Nat):Int)∧∃
 m_3,m_3<m∧I0 m_3 (sA x5 1 (Int.toNat (1:Int)) x5c) (x5n-(Int.toNat (1:Int))) (x5c-(Int.toNat (1:Int))) w5))else(Calls prog n_bits_Writer_Put
 #[.pointer x10,.int .u64 (0:Int),.int .i64 (4:Int)] w4 (fun e_5 w6=>e_5= .returned (.tuple #[])∧Calls prog n_bits_Writer_Put #[.pointer x10,.int
 .u64 (U64 (W64 (x18-(1:Int)))),.int .i64 (4:Int)] w6 (fun e_6 w7=>e_6= .returned (.tuple #[])∧0≤x18∧x18≤((x5n:Nat):Int)∧∃m_3,m_3<m
 ∧I0 m_3 (sA x5 1 (Int.toNat x18) x5c) (x5n-(Int.toNat x18)) (x5c-(Int.toNat x18)) w7)))))else(Calls prog n_bits_Writer_Bytes #[.pointer x10] w3 (fun e_7
 w8=>∃x40:ByteArray,e_7= .returned (.string x40)∧R (.string x40) w8))))))
def A_lens_Put:Ann:= {loop:=fun k=>cond (Nat.beq k 0) (some (549755797600,[5],[.sl])) (none),join:=fun k=>none,nf:=fun k=> []}
theorem S_lens_Put {x0:Option Addr} {x0n:Nat} {x0c:Nat} {w:World} {R:Ending→World→Prop} (h:F_lens_Put x0 x0n x0c w fun v w'=>R (.returned v) w'):Calls prog n_lens_Put #[.slice x0 x0n x0c] w R:=vcS A_lens_Put func71 (by kernel_rfl) (by kernel_rfl) h
def F_lens_Get (x0:ByteArray) (x1:Int) (w:World) (R:Value→World→Prop):Prop:=
 ∀J3:Option Addr→Nat→Nat→World→Prop,(∀x4:Option Addr,∀x4n:Nat,∀x4c:Nat,∀w1,(0≤x1∧x1≤((x0.size:Nat):Int)∧Calls prog
 n_bits_From #[.string (x0.extract (Int.toNat x1) x0.size)] w1 (fun e w2=>∃x23:Option Addr,e= .returned (.pointer x23)∧∃I0:Nat→Option Addr→Nat→
 Nat→Int→World→Prop,(∃m_2,I0 m_2 x4 x4n x4c (0:Int) w2)∧∀m,∀x4_2:Option Addr,∀x4_2n:Nat,∀x4_2c:Nat,∀x8:Int,∀w3,I0 m x4_2 x4_2n
 x4_2c x8 w3→(bif decide (((x4_2n:Nat):Int)<(65:Int))then(Calls prog n_bits_Reader_Get #[.pointer x23,.int .i64 (4:Int)] w3 (fun e_2 w4=>∃
 x30r0:Int,∃x30r1:Int,e_2= .returned (.tuple #[.int .u64 x30r0,.int .i64 x30r1])∧bif x30r1 !=(0:Int)then(R (.tuple #[.slice none 0 0,.int .i64
 (0:Int),.int .i64 (2:Int)]) w4)else(∀J16:Option Addr→Nat→Nat→Int→Int→World→Prop,(∀x4_3:Option Addr,∀x4_3n:Nat,∀x4_3c:Nat,∀
 x8_2:Int,∀x11:Int,∀w5,(∃I2:Nat→Option Addr→Nat→Nat→Int→World→Prop,(∃m_5,I2 m_5 x4_3 x4_3n x4_3c (0:Int) w5)∧∀m_4,∀x4_4:
 Option Addr,∀x4_4n:Nat,∀x4_4c:Nat,∀x50:Int,∀w6,I2 m_4 x4_4 x4_4n x4_4c x50 w6→(bif decide (x50<(U64 (x11+(1:Int))))then(∀w7 b55,w7=
 w6.alloc (.cells #[.int .i64 (W64 x30r0)] t_int)→b55=w6.heap.size→∃x56:Option Addr,∃x56n:Nat,∃x56c:Nat,∃w8:World,(Builtin.append_
 #[t_S_int,t_S_int] t_S_int #[.slice x4_4 x4_4n x4_4c,.slice (some (A0 b55)) 1 1]).run prog w7= .ok (.slice x56 x56n x56c) w8∧∃m_6,m_6<m_4∧I2 m_6 x56
 x56n x56c (U64 (x50+(1:Int))) w8)else(∃m_3,m_3<m∧I0 m_3 x4_4 x4_4n x4_4c x8_2 w6)))→J16 x4_3 x4_3n x4_3c x8_2 x11 w5)→bif x30r0==(0:Int)
 then(Calls prog n_bits_Reader_Get #[.pointer x23,.int .i64 (4:Int)] w4 (fun e_3 w9=>∃x41r0:Int,∃x41r1:Int,e_3= .returned (.tuple #[.int .u64
 x41r0,.int .i64 x41r1])∧bif x41r1 !=(0:Int)then(R (.tuple #[.slice none 0 0,.int .i64 (0:Int),.int .i64 (2:Int)]) w9)else(J16 x4_2 x4_2n x4_2c
 (W64 ((W64 (x8+(1:Int)))+(1:Int))) x41r0 w9)))else(J16 x4_2 x4_2n x4_2c (W64 (x8+(1:Int))) (0:Int) w4))))else((2:Int)≠0∧∀w10,w10=
 w3.drew→bif decide (((x4_2n:Nat):Int)>(65:Int))then((True)∧(True)∧R (.tuple #[.slice none 0 0,.int .i64 (0:Int),.int .i64 (3:Int)]) w10)
 else(Calls prog n_canon_May #[.slice x4_2 x4_2n x4_2c] w10 (fun e_4 w11=>∃x68:Bool,e_4= .returned (.bool x68)∧(True)∧bif !x68 then((True)∧R
 (.tuple #[.slice none 0 0,.int .i64 (0:Int),.int .i64 (3:Int)]) w11)else(0≤(W64 (x1+(W64 (Int.tdiv (W64 (x8+(1:Int))) (2:Int)))))∧(W64 (x1
 +(W64 (Int.tdiv (W64 (x8+(1:Int))) (2:Int)))))≤((x0.size:Nat):Int)∧0≤x1∧x1≤((Int.toNat (W64 (x1+(W64 (Int.tdiv (W64 (x8+(1:Int))) (2
 :Int))))):Nat):Int)∧Calls prog n_lens_Put #[.slice x4_2 x4_2n x4_2c] w11 (fun e_5 w12=>∃x73:ByteArray,e_5= .returned (.string x73)∧(True)∧bif
 !(x73.toList==(x0.extract (Int.toNat x1) (Int.toNat (W64 (x1+(W64 (Int.tdiv (W64 (x8+(1:Int))) (2:Int))))))).toList)then(R (.tuple #[.slice none 0
 0,.int .i64 (0:Int),.int .i64 (3:Int)]) w12)else(R (.tuple #[.slice x4_2 x4_2n x4_2c,.int .i64 (W64 (x1+(W64 (Int.tdiv (W64 (x8+(1:Int))) (2:
 Int))))),.int .i64 (0:Int)]) w12)))))))))→J3 x4 x4n x4c w1)→bif decide (x1<(0:Int))then(R (.tuple #[.slice none 0 0,.int .i64 (0:Int),.int
 .i64 (1:Int)]) w)else(bif decide (x1>((x0.size:Nat):Int))then(R (.tuple #[.slice none 0 0,.int .i64 (0:Int),.int .i64 (1:Int)]) w)else(J3
 none 0 0 w))
def A_lens_Get:Ann:= {loop:=fun k=>cond (Nat.beq k 2) (some (287104476244869136,[4,50],[.sl,.int .u64])) (cond (Nat.beq k 0) (some (288230376118161264,[4,8],[.sl,.int .i64])) (none)),join:=fun k=>cond (Nat.beq k 16) (some (281337537760624,[4,8,11],[.sl,.int .i64,.int .u64])) (cond (Nat.beq k 3) (some (1044592,[4],[.sl])) (none)),nf:=fun k=> []}
theorem S_lens_Get {x0:ByteArray} {x1:Int} {w:World} {R:Ending→World→Prop} (h:F_lens_Get x0 x1 w fun v w'=>R (.returned v) w'):Calls prog n_lens_Get #[.string x0,.int .i64 x1] w R:=vcS A_lens_Get func99 (by kernel_rfl) (by kernel_rfl) h
def F_lens_noughts (x0:Option Addr) (x0n:Nat) (x0c:Nat) (w:World) (R:Value→World→Prop):Prop:=
 ∃I0:Nat→Int→World→Prop,(∃m_2,I0 m_2 (0:Int) w)∧∀m,∀x3:Int,∀w1,I0 m x3 w1→(bif decide (x3<(if (16:Int)<((x0n:Nat):Int)then
 (16:Int)else((x0n:Nat):Int)))then(0≤x3∧x3<((x0n:Nat):Int)∧OSome x0 fun p12=>∃x13:Int,w1.cell? (p12.add (Int.toNat x3*1))=some
 (.int .i64 x13)∧bif x13==(0:Int)then(∃m_3,m_3<m∧I0 m_3 (W64 (x3+(1:Int))) w1)else(R (.int .i64 x3) w1))else(R (.int .i64 x3) w1))
def A_lens_noughts:Ann:= {loop:=fun k=>cond (Nat.beq k 0) (some (262136,[3],[.int .i64])) (none),join:=fun k=>none,nf:=fun k=> []}
theorem S_lens_noughts {x0:Option Addr} {x0n:Nat} {x0c:Nat} {w:World} {R:Ending→World→Prop} (h:F_lens_noughts x0 x0n x0c w fun v w'=>R (.returned v) w'):Calls prog n_lens_noughts #[.slice x0 x0n x0c] w R:=vcS A_lens_noughts func137 (by kernel_rfl) (by kernel_rfl) h
def F_huff_Put (x0:Option Addr) (x0n:Nat) (x0c:Nat) (x1:Option Addr) (x1n:Nat) (x1c:Nat) (w:World) (R:Value→World→Prop):Prop:=
 Calls prog n_canon_Codes #[.slice x1 x1n x1c] w (fun e w1=>∃x17r0:Option Addr,∃x17r0n:Nat,∃x17r0c:Nat,∃x17r1:Int,e= .returned (.tuple #[.slice
 x17r0 x17r0n x17r0c,.int .i64 x17r1])∧bif x17r1 !=(0:Int)then(R (.tuple #[.string (⟨#[]⟩:ByteArray),.int .i64 x17r1]) w1)else(Calls prog
 n_bits_New #[] w1 (fun e_2 w2=>∃x23:Option Addr,e_2= .returned (.pointer x23)∧∃I0:Nat→Int→World→Prop,(∃m_2,I0 m_2 (0:Int) w2)∧∀m,∀
 x26:Int,∀w3,I0 m x26 w3→(bif decide (x26<((x0n:Nat):Int))then(0≤x26∧x26<((x0n:Nat):Int)∧OSome x0 fun p28=>∃x29a:Int,∃x29b:
 Int,LdL w3 (p28.add (Int.toNat x26*2)) 0 [.int .i64 x29a,.int .u64 x29b]∧∀w4 b10,w4=w3.alloc (.cells #[.int .i64 0,.int .u64 0] t_api_Part)→b10=
 w3.heap.size→Sto w4 (A0 b10) (.int .i64 x29a) fun w5=>Sto w5 ((A0 b10).add 1) (.int .u64 x29b) fun w6=>∀J11:World→Prop,(∀w7,(∃x48:Int,
 w7.cell? (A0 b10)=some (.int .i64 x48)∧0≤x48∧x48<((x17r0n:Nat):Int)∧OSome x17r0 fun p49=>∃x50a:Int,∃x50b:Int,LdL w7 (p49.add
 (Int.toNat x48*2)) 0 [.int .i64 x50a,.int .i64 x50b]∧∀w8 b13,w8=w7.alloc (.cells #[.int .i64 0,.int .i64 0] t_api_Code)→b13=w7.heap.size→Sto w8
 (A0 b13) (.int .i64 x50a) fun w9=>Sto w9 ((A0 b13).add 1) (.int .i64 x50b) fun w10=>∃x52:Int,w10.cell? ((A0 b13).add 1)=some (.int .i64 x52)∧∃I2:
 Nat→Int→World→Prop,(∃m_5,I2 m_5 (W64 (x52-(1:Int))) w10)∧∀m_4,∀x14:Int,∀w11,I2 m_4 x14 w11→(bif decide (x14≥(0:Int))then(∃x60:
 Int,w11.cell? (A0 b13)=some (.int .i64 x60)∧0≤x14∧Calls prog n_bits_Writer_Put #[.pointer x23,.int .u64 (U64 (shrI .i64 x60 x14)),.int .i64 (1:
 Int)] w11 (fun e_3 w12=>e_3= .returned (.tuple #[])∧∃m_6,m_6<m_4∧I2 m_6 (W64 (x14-(1:Int))) w12))else(∃x67:Int,w11.cell? ((A0 b10).add 1)
 =some (.int .u64 x67)∧∃x69:Int,w11.cell? (A0 b10)=some (.int .i64 x69)∧Calls prog n_bits_Writer_Put #[.pointer x23,.int .u64 x67,.int .i64 (W64
 (x69-(1:Int)))] w11 (fun e_4 w13=>e_4= .returned (.tuple #[])∧∃m_3,m_3<m∧I0 m_3 (W64 (x26+(1:Int))) w13))))→J11 w7)→∃x31a:Int,∃
 x31b:Int,LdL w6 (A0 b10) 0 [.int .i64 x31a,.int .u64 x31b]∧Calls prog n_zig_Join #[.agg #[.int .i64 x31a,.int .u64 x31b]] w6 (fun e_5 w14=>∃x32r0:
 Int,∃x32r1:Bool,e_5= .returned (.tuple #[.int .i64 x32r0,.bool x32r1])∧bif !x32r1 then(R (.tuple #[.string (⟨#[]⟩:ByteArray),.int .i64 (1:Int)])
 w14)else(∃x40:Int,w14.cell? (A0 b10)=some (.int .i64 x40)∧0≤x40∧x40<((x17r0n:Nat):Int)∧OSome x17r0 fun p41=>∃x43:Int,w14.cell?
 ((p41.add (Int.toNat x40*2)).add 1)=some (.int .i64 x43)∧bif x43==(0:Int)then(R (.tuple #[.string (⟨#[]⟩:ByteArray),.int .i64 (1:Int)]) w14)
 else(J11 w14))))else(Calls prog n_bits_Writer_Bytes #[.pointer x23] w3 (fun e_6 w15=>∃x74:ByteArray,e_6= .returned (.string x74)∧R (.tuple
 #[.string x74,.int .i64 (0:Int)]) w15))))))
def A_huff_Put:Ann:= {loop:=fun k=>cond (Nat.beq k 2) (some (36875473748909637632,[14],[.int .i64])) (cond (Nat.beq k 0) (some (9444732965739223350320,[26],[.int .i64])) (none)),join:=fun k=>cond (Nat.beq k 11) (some (70367670442032,[],[])) (none),nf:=fun k=> []}
theorem S_huff_Put {x0:Option Addr} {x0n:Nat} {x0c:Nat} {x1:Option Addr} {x1n:Nat} {x1c:Nat} {w:World} {R:Ending→World→Prop} (h:F_huff_Put x0 x0n x0c x1 x1n x1c w fun v w'=>R (.returned v) w'):Calls prog n_huff_Put #[.slice x0 x0n x0c,.slice x1 x1n x1c] w R:=vcS A_huff_Put func70 (by kernel_rfl) (by kernel_rfl) h
def F_huff_Get (x0:ByteArray) (x1:Int) (x2:Option Addr) (x2n:Nat) (x2c:Nat) (w:World) (R:Value→World→Prop):Prop:=
 Calls prog n_canon_Codes #[.slice x2 x2n x2c] w (fun e w1=>∃x19r0:Option Addr,∃x19r0n:Nat,∃x19r0c:Nat,∃x19r1:Int,e= .returned (.tuple #[.slice
 x19r0 x19r0n x19r0c,.int .i64 x19r1])∧∀J6:World→Prop,(∀w2,(Calls prog n_bits_From #[.string x0] w2 (fun e_2 w3=>∃x34:Option Addr,e_2=
 .returned (.pointer x34)∧∀w4 b35,w4=w3.alloc (.map #[] 0)→b35=w3.heap.size→∀w5 b37,w5=w4.alloc (.cells #[.pointer x34,.map (some b35)]
 t_huff_reader)→b37=w4.heap.size→∃I1:Nat→Int→World→Prop,(∃m_2,I1 m_2 (0:Int) w5)∧∀m,∀x40:Int,∀w6,I1 m x40 w6→(bif decide (x40<
 ((x19r0n:Nat):Int))then(0≤x40∧x40<((x19r0n:Nat):Int)∧OSome x19r0 fun p43=>∃x44a:Int,∃x44b:Int,LdL w6 (p43.add (Int.toNat x40*2))
 0 [.int .i64 x44a,.int .i64 x44b]∧∀w7 b12,w7=w6.alloc (.cells #[.int .i64 0,.int .i64 0] t_api_Code)→b12=w6.heap.size→Sto w7 (A0 b12) (.int .i64
 x44a) fun w8=>Sto w8 ((A0 b12).add 1) (.int .i64 x44b) fun w9=>∃x46:Int,w9.cell? ((A0 b12).add 1)=some (.int .i64 x46)∧bif decide (x46>(0:Int))
 then(∀w10,w10=w9.drew→OSome (some (A0 b37)) fun p49=>∃x51:Option Nat,w10.cell? (p49.add 1)=some (.map x51)∧∃x52a:Int,∃x52b:Int,LdL w10
 (A0 b12) 0 [.int .i64 x52a,.int .i64 x52b]∧∃w11,(Instr.mapUpdate t_M_api_Code_int (.map x51) (.agg #[.int .i64 x52a,.int .i64 x52b]) (.int .i64 x40)).run
 prog w10= .ok () w11∧(True)∧∃m_3,m_3<m∧I1 m_3 (W64 (x40+(1:Int))) w11)else(∃m_3,m_3<m∧I1 m_3 (W64 (x40+(1:Int))) w9))else(∀J16:
 Value→World→Prop,(∀x13:Value,∀w12,(∃I3:Nat→Option Addr→Nat→Nat→Int→World→Prop,(∃m_5,I3 m_5 none 0 0 (0:Int) w12)∧∀m_4,∀x14
 :Option Addr,∀x14n:Nat,∀x14c:Nat,∀x66:Int,∀w13,I3 m_4 x14 x14n x14c x66 w13→(bif decide (x66<x1)then(Calls prog n_huff_reader_read
 #[.pointer (some (A0 b37)),x13] w13 (fun e_3 w14=>∃x71r0a:Int,∃x71r0b:Int,∃x71r1:Int,e_3= .returned (.tuple #[.agg #[.int .i64 x71r0a,.int
 .u64 x71r0b],.int .i64 x71r1])∧∀w15 b15,w15=w14.alloc (.cells #[.int .i64 0,.int .u64 0] t_api_Part)→b15=w14.heap.size→Sto w15 (A0 b15) (.int
 .i64 x71r0a) fun w16=>Sto w16 ((A0 b15).add 1) (.int .u64 x71r0b) fun w17=>bif x71r1 !=(0:Int)then(R (.tuple #[.slice none 0 0,.int .i64 x71r1]) w17)
 else(∃x78a:Int,∃x78b:Int,LdL w17 (A0 b15) 0 [.int .i64 x78a,.int .u64 x78b]∧∀w18 b79,w18=w17.alloc (.cells #[.int .i64 x78a,.int .u64 x78b]
 t_api_Part)→b79=w17.heap.size→∃x80:Option Addr,∃x80n:Nat,∃x80c:Nat,∃w19:World,(Builtin.append_ #[t_S_api_Part,t_S_api_Part] t_S_api_Part
 #[.slice x14 x14n x14c,.slice (some (A0 b79)) 1 1]).run prog w18= .ok (.slice x80 x80n x80c) w19∧∃m_6,m_6<m_4∧I3 m_6 x80 x80n x80c (W64 (x66+(1:
 Int))) w19)))else(OSome (some (A0 b37)) fun p83=>∃x85:Option Addr,w13.cell? p83=some (.pointer x85)∧Calls prog n_bits_Reader_Rest #[.pointer x85]
 w13 (fun e_4 w20=>∃x86:Bool,e_4= .returned (.bool x86)∧bif !x86 then(R (.tuple #[.slice none 0 0,.int .i64 (3:Int)]) w20)else(R (.tuple #[.slice
 x14 x14n x14c,.int .i64 (0:Int)]) w20)))))→J16 x13 w12)→OSome (some (A0 b37)) fun p58=>∃x60:Option Nat,w6.cell? (p58.add 1)=some (.map x60)∧∃
 x61:Int,(Builtin.len_ #[t_M_api_Code_int] t_int #[.map x60]).run prog w6= .ok (.int .i64 x61) w6∧bif decide (x61<(2:Int))then(J16 (.func (.func
 n_huff_reader_only) #[.pointer (some (A0 b37))] #[]) w6)else(J16 (.func (.func n_huff_reader_code) #[.pointer (some (A0 b37))] #[]) w6)))))→J6 w2)→bif
 x19r1 !=(0:Int)then(R (.tuple #[.slice none 0 0,.int .i64 x19r1]) w1)else(bif decide (x1<(0:Int))then(R (.tuple #[.slice none 0 0,.int .i64 (1:
 Int)]) w1)else(bif decide (x1>(4096:Int))then(R (.tuple #[.slice none 0 0,.int .i64 (1:Int)]) w1)else(J6 w1))))
def A_huff_Get:Ann:= {loop:=fun k=>cond (Nat.beq k 3) (some (4835629491482221860733120,[14,66],[.sl,.int .i64])) (cond (Nat.beq k 1) (some (36027697507342336,[40],[.int .i64])) (none)),join:=fun k=>cond (Nat.beq k 16) (some (36749372959343255552,[13],[.fn])) (cond (Nat.beq k 6) (some (8585740480,[],[])) (none)),nf:=fun k=> []}
theorem S_huff_Get {x0:ByteArray} {x1:Int} {x2:Option Addr} {x2n:Nat} {x2c:Nat} {w:World} {R:Ending→World→Prop} (h:F_huff_Get x0 x1 x2 x2n x2c w fun v w'=>R (.returned v) w'):Calls prog n_huff_Get #[.string x0,.int .i64 x1,.slice x2 x2n x2c] w R:=vcS A_huff_Get func100 (by kernel_rfl) (by kernel_rfl) h
def F_huff_reader_code (x0:Option Addr) (w:World) (R:Value→World→Prop):Prop:=
 ∀w1 b4,w1=w.alloc (.cells #[.int .i64 0,.int .i64 0] t_api_Code)→b4=w.heap.size→Sto w1 (A0 b4) (.int .i64 0) fun w2=>Sto w2 ((A0 b4).add 1) (.int
 .i64 0) fun w3=>∃I0:Nat→World→Prop,(∃m_2,I0 m_2 w3)∧∀m,∀w4,I0 m w4→(∃x11:Int,w4.cell? ((A0 b4).add 1)=some (.int .i64 x11)∧bif
 decide (x11<(15:Int))then(OSome x0 fun p15=>∃x17:Option Addr,w4.cell? p15=some (.pointer x17)∧Calls prog n_bits_Reader_Get #[.pointer x17,.int
 .i64 (1:Int)] w4 (fun e w5=>∃x18r0:Int,∃x18r1:Int,e= .returned (.tuple #[.int .u64 x18r0,.int .i64 x18r1])∧bif x18r1 !=(0:Int)then(R
 (.tuple #[.int .i64 (0:Int),.int .i64 x18r1]) w5)else(∃x25:Int,w5.cell? (A0 b4)=some (.int .i64 x25)∧0≤(1:Int)∧∃x31:Int,w5.cell? ((A0
 b4).add 1)=some (.int .i64 x31)∧Sto w5 (A0 b4) (.int .i64 (orI .i64 (shlI .i64 x25 (1:Int)) (W64 x18r0))) fun w6=>Sto w6 ((A0 b4).add 1) (.int .i64
 (W64 (x31+(1:Int)))) fun w7=>∀w8,w8=w7.drew→OSome x0 fun p37=>∃x39:Option Nat,w8.cell? (p37.add 1)=some (.map x39)∧∃x40a:Int,∃x40b:
 Int,LdL w8 (A0 b4) 0 [.int .i64 x40a,.int .i64 x40b]∧∃x41r0:Int,∃x41r1:Bool,(Instr.lookup t_M_api_Code_int (.map x39) (.agg #[.int .i64 x40a,.int
 .i64 x40b]) true).run prog w8= .ok (.tuple #[.int .i64 x41r0,.bool x41r1]) w8∧(True)∧bif x41r1 then(R (.tuple #[.int .i64 x41r0,.int .i64 (0:Int)])
 w8)else(∃m_3,m_3<m∧I0 m_3 w8))))else(R (.tuple #[.int .i64 (0:Int),.int .i64 (3:Int)]) w4))
def A_huff_reader_code:Ann:= {loop:=fun k=>cond (Nat.beq k 0) (some (70368744177132,[],[])) (none),join:=fun k=>none,nf:=fun k=> []}
theorem S_huff_reader_code {x0:Option Addr} {w:World} {R:Ending→World→Prop} (h:F_huff_reader_code x0 w fun v w'=>R (.returned v) w'):Calls prog n_huff_reader_code #[.pointer x0] w R:=vcS A_huff_reader_code func168 (by kernel_rfl) (by kernel_rfl) h
def F_huff_reader_only (x0:Option Addr) (w:World) (R:Value→World→Prop):Prop:=
 OSome x0 fun p10=>∃x12:Option Addr,w.cell? p10=some (.pointer x12)∧Calls prog n_bits_Reader_Get #[.pointer x12,.int .i64 (1:Int)] w (fun e w1=>∃
 x13r0:Int,∃x13r1:Int,e= .returned (.tuple #[.int .u64 x13r0,.int .i64 x13r1])∧bif x13r1 !=(0:Int)then(R (.tuple #[.int .i64 (0:Int),.int
 .i64 x13r1]) w1)else(OSome x0 fun p21=>∃x23:Option Nat,w1.cell? (p21.add 1)=some (.map x23)∧∃x27r0:Int,∃x27r1:Bool,(Instr.lookup
 t_M_api_Code_int (.map x23) (.agg #[.int .i64 (W64 x13r0),.int .i64 (1:Int)]) true).run prog w1= .ok (.tuple #[.int .i64 x27r0,.bool x27r1]) w1∧bif
 !x27r1 then(R (.tuple #[.int .i64 (0:Int),.int .i64 (3:Int)]) w1)else(R (.tuple #[.int .i64 x27r0,.int .i64 (0:Int)]) w1)))
theorem S_huff_reader_only {x0:Option Addr} {w:World} {R:Ending→World→Prop} (h:F_huff_reader_only x0 w fun v w'=>R (.returned v) w'):Calls prog n_huff_reader_only #[.pointer x0] w R:=vcS noAnn func169 (by kernel_rfl) (by kernel_rfl) h
def F_huff_reader_read (x0:Option Addr) (x1:Nat) (x1f:Array Value) (x1k:Array Value) (w:World) (R:Value→World→Prop):Prop:=
 ∀w1 b4,w1=w.alloc (.cells #[.int .i64 0,.int .u64 0] t_api_Part)→b4=w.heap.size→cond (fok x1) (Calls prog x1 (x1f.toList++([]:List Value)++
 x1k.toList).toArray w1 (fun e w2=>∃x8r0:Int,∃x8r1:Int,e= .returned (.tuple #[.int .i64 x8r0,.int .i64 x8r1])∧Sto w2 (A0 b4) (.int .i64 x8r0) fun
 w3=>bif x8r1 !=(0:Int)then(Sto w3 (A0 b4) (.int .i64 0) fun w4=>Sto w4 ((A0 b4).add 1) (.int .u64 0) fun w5=>∃r0a:Int,∃r0b:Int,LdL w5 (A0
 b4) 0 [.int .i64 r0a,.int .u64 r0b]∧R (.tuple #[.agg #[.int .i64 r0a,.int .u64 r0b],.int .i64 x8r1]) w5)else(∀w6,w6=w3.drew→OSome x0 fun p18=>∃
 x20:Option Addr,w6.cell? p18=some (.pointer x20)∧∃x22:Int,w6.cell? (A0 b4)=some (.int .i64 x22)∧Calls prog n_bits_Reader_Get #[.pointer x20,
 .int .i64 (if (W64 (x22-(1:Int)))>(0:Int)then(W64 (x22-(1:Int)))else(0:Int))] w6 (fun e_2 w7=>∃x25r0:Int,∃x25r1:Int,e_2= .returned
 (.tuple #[.int .u64 x25r0,.int .i64 x25r1])∧((w6.cell? (A0 b4)=some (.int .i64 x22)→w7.cell? (A0 b4)=some (.int .i64 x22))∧True)∧Sto w7 ((A0
 b4).add 1) (.int .u64 x25r0) fun w8=>(True)∧bif x25r1 !=(0:Int)then(Sto w8 (A0 b4) (.int .i64 0) fun w9=>Sto w9 ((A0 b4).add 1) (.int .u64 0) fun
 w10=>∃r0a_2:Int,∃r0b_2:Int,LdL w10 (A0 b4) 0 [.int .i64 r0a_2,.int .u64 r0b_2]∧R (.tuple #[.agg #[.int .i64 r0a_2,.int .u64 r0b_2],.int .i64
 x25r1]) w10)else(∃x33a:Int,∃x33b:Int,LdL w8 (A0 b4) 0 [.int .i64 x33a,.int .u64 x33b]∧Sto w8 (A0 b4) (.int .i64 x33a) fun w11=>Sto w11 ((A0
 b4).add 1) (.int .u64 x33b) fun w12=>∃r0a_3:Int,∃r0b_3:Int,LdL w12 (A0 b4) 0 [.int .i64 r0a_3,.int .u64 r0b_3]∧R (.tuple #[.agg #[.int .i64 r0a_3,
 .int .u64 r0b_3],.int .i64 (0:Int)]) w12))))) False
theorem S_huff_reader_read {x0:Option Addr} {x1:Nat} {x1f:Array Value} {x1k:Array Value} {w:World} {R:Ending→World→Prop} (h:F_huff_reader_read x0 x1 x1f x1k w fun v w'=>R (.returned v) w'):Calls prog n_huff_reader_read #[.pointer x0,.func (.func x1) x1f x1k] w R:=vcS noAnn func170 (by kernel_rfl) (by kernel_rfl) h
def F_slices_Backward_S_int_int (x0:Option Addr) (x0n:Nat) (x0c:Nat) (w:World) (R:Value→World→Prop):Prop:=
 ∀w1 b1,w1=w.alloc (.cells #[.slice x0 x0n x0c] t_S_int)→b1=w.heap.size→R (.func (.func n_slices_Backward_S_int_int_1) #[] #[.pointer (some (A0 b1))])
 w1
theorem S_slices_Backward_S_int_int {x0:Option Addr} {x0n:Nat} {x0c:Nat} {w:World} {R:Ending→World→Prop} (h:F_slices_Backward_S_int_int x0 x0n x0c w fun v w'=>R (.returned v) w'):Calls prog n_slices_Backward_S_int_int #[.slice x0 x0n x0c] w R:=vcS noAnn func129 (by kernel_rfl) (by kernel_rfl) h
def F_slices_Backward_S_api_Part_api_Part (x0:Option Addr) (x0n:Nat) (x0c:Nat) (w:World) (R:Value→World→Prop):Prop:=
 ∀w1 b1,w1=w.alloc (.cells #[.slice x0 x0n x0c] t_S_api_Part)→b1=w.heap.size→R (.func (.func n_slices_Backward_S_api_Part_api_Part_1) #[] #[.pointer
 (some (A0 b1))]) w1
theorem S_slices_Backward_S_api_Part_api_Part {x0:Option Addr} {x0n:Nat} {x0c:Nat} {w:World} {R:Ending→World→Prop} (h:F_slices_Backward_S_api_Part_api_Part x0 x0n x0c w fun v w'=>R (.returned v) w'):Calls prog n_slices_Backward_S_api_Part_api_Part #[.slice x0 x0n x0c] w R:=vcS noAnn func145 (by kernel_rfl) (by kernel_rfl) h
def F_slices_ContainsFunc_S_int_int (x0:Option Addr) (x0n:Nat) (x0c:Nat) (x1:Nat) (x1f:Array Value) (x1k:Array Value) (w:World) (R:Value→World
 →Prop):Prop:=
 Calls prog n_slices_IndexFunc_S_int_int #[.slice x0 x0n x0c,.func (.func x1) x1f x1k] w (fun e w1=>∃x7:Int,e= .returned (.int .i64 x7)∧R (.bool (decide
 (x7≥(0:Int)))) w1)
theorem S_slices_ContainsFunc_S_int_int {x0:Option Addr} {x0n:Nat} {x0c:Nat} {x1:Nat} {x1f:Array Value} {x1k:Array Value} {w:World} {R:Ending→World→Prop} (h:F_slices_ContainsFunc_S_int_int x0 x0n x0c x1 x1f x1k w fun v w'=>R (.returned v) w'):Calls prog n_slices_ContainsFunc_S_int_int #[.slice x0 x0n x0c,.func (.func x1) x1f x1k] w R:=vcS noAnn func138 (by kernel_rfl) (by kernel_rfl) h
def F_slices_IndexFunc_S_int_int (x0:Option Addr) (x0n:Nat) (x0c:Nat) (x1:Nat) (x1f:Array Value) (x1k:Array Value) (w:World) (R:Value→World→
 Prop):Prop:=
 ∃I0:Nat→Int→World→Prop,(∃m_2,I0 m_2 (0:Int) w)∧∀m,∀x8:Int,∀w1,I0 m x8 w1→(bif decide (x8<((x0n:Nat):Int))then(0≤x8∧x8<
 ((x0n:Nat):Int)∧OSome x0 fun p14=>∃x15:Int,w1.cell? (p14.add (Int.toNat x8*1))=some (.int .i64 x15)∧cond (fok x1) (Calls prog x1 (x1f.toList
 ++([.int .i64 x15]:List Value)++x1k.toList).toArray w1 (fun e w2=>∃x16:Bool,e= .returned (.bool x16)∧bif x16 then(R (.int .i64 x8) w2)else(∃
 m_3,m_3<m∧I0 m_3 (W64 (x8+(1:Int))) w2))) False)else(R (.int .i64 (-1:Int)) w1))
def A_slices_IndexFunc_S_int_int:Ann:= {loop:=fun k=>cond (Nat.beq k 0) (some (524080,[8],[.int .i64])) (none),join:=fun k=>none,nf:=fun k=> []}
theorem S_slices_IndexFunc_S_int_int {x0:Option Addr} {x0n:Nat} {x0c:Nat} {x1:Nat} {x1f:Array Value} {x1k:Array Value} {w:World} {R:Ending→World→Prop} (h:F_slices_IndexFunc_S_int_int x0 x0n x0c x1 x1f x1k w fun v w'=>R (.returned v) w'):Calls prog n_slices_IndexFunc_S_int_int #[.slice x0 x0n x0c,.func (.func x1) x1f x1k] w R:=vcS A_slices_IndexFunc_S_int_int func202 (by kernel_rfl) (by kernel_rfl) h
end Go.Proofs.Tryz
namespace Go.Proofs.Tryz
open Go Go.RowKit Go.Shelf Go.Proofs.VC
attribute [local go_sem] Oper.semAt_some
set_option maxRecDepth 100000 in
set_option maxHeartbeats 2000000 in
theorem back_int_in (l:Nat) (bx:Addr) (p:Addr) (len cap:Nat) (zs:Nat→Int) (hlen:len<9223372036854775808) (C:Addr→Prop) (hC0:C bx) (hC:∀j,j<len→C (p.add j)) (J:Nat→World→Prop) (Jx:World→Prop)
 (hJ:∀k,Grows (J k))
 (hY:∀k W,k<len→J k W→YieldAt Fence.wide 0 prog l #[.int .i64 ((len-1-k:Nat):Int),.int .i64 (zs (len-1-k))] W fun e W'=>
  (e= .returned (.bool true)∧J (k+1) W'∧KpC C W W')∨(e= .returned (.bool false)∧Jx W'))
 (W:World) (hBs:W.cell? bx=some (.slice (some p) len cap)) (hc:∀j,j<len→W.cell? (p.add j)=some (.int .i64 (zs j))) (h0:J 0 W):
 CallsIn Fence.wide 0 prog 197 #[.func (.yield l) #[] #[],.pointer (some bx)] W fun e W'=>(∃v,e= .returned v)∧(J len W'∨Jx W'):=by
 refine callsIn_of_wp func197 rfl trivial ?_ rfl
 simp only [ntmps197,List.size_toArray,List.length_cons,List.length_nil,Nat.reduceAdd,Nat.reduceSub,Array.replicate_succ,Array.replicate_zero,List.push_toArray,List.append_toArray,List.nil_append,List.cons_append]
 gi_wp2
 gi_loopw [3] (fun i wr=>∃k:Nat,k≤len∧i= .int .i64 ((len:Int)-1-(k:Int))∧J k wr∧KpC C W wr)
  (fun i _=>(intOf i+1).toNat)
 case atStart=>exact⟨0,Nat.zero_le _,by simp,h0,fun _ _ _ h=>h⟩
 case round=>
  obtain⟨k,hk,rfl,hJs,hnx⟩:=hrel
  by_cases hlt:k<len
  · obtain⟨fn,tmps,assign,body,hy,hR⟩:=hY k wr hlt hJs
    have hb':=hnx _ _ hC0 hBs
    have hc':=hnx _ _ (hC (len-1-k) (by omega)) (hc (len-1-k) (by omega))
    have e1:((len:Int)-1-(k:Int))=((len-1-k:Nat):Int):=by omega
    rw [e1]at*
    gi_wp2
    refine⟨rfl,?_⟩
    refine hR.mono ?_
    rintro e W3 (⟨rfl,hJ3,hk3⟩|⟨rfl,hJx3⟩)
    · gi_wp2
      go_roundw
      case rel=>exact⟨k+1,by omega,by simp;omega,hJ3,fun p v hp hv=>hk3 p v hp (hnx p v hp hv)⟩
      case measure=>simp [intOf]
    · gi_wp2
      refine bodyPost_ret (results_none rfl _ _ _) rfl ?_
      exact⟨⟨_,rfl⟩,.inr hJx3⟩
  · obtain rfl:k=len:=by omega
    gi_wp2
    go_end0
    exact⟨⟨_,rfl⟩,.inl hJs⟩
set_option maxRecDepth 100000 in
set_option maxHeartbeats 2000000 in
theorem back_Part_in (l:Nat) (bx:Addr) (p:Addr) (len cap:Nat) (zs:Nat→Int×Int) (hlen:len<9223372036854775808) (C:Addr→Prop) (hC0:C bx) (hC:∀j,j<len→C (p.add (j*2))∧C ((p.add (j*2)).add 1)) (J:Nat→World→Prop) (Jx:World→Prop)
 (hJ:∀k,Grows (J k))
 (hY:∀k W,k<len→J k W→YieldAt Fence.wide 0 prog l #[.int .i64 ((len-1-k:Nat):Int),.agg #[.int .i64 (zs (len-1-k)).1,.int .u64 (zs (len-1-k)).2]] W fun e W'=>
  (e= .returned (.bool true)∧J (k+1) W'∧KpC C W W')∨(e= .returned (.bool false)∧Jx W'))
 (W:World) (hBs:W.cell? bx=some (.slice (some p) len cap)) (hc:∀j,j<len→W.cell? (p.add (j*2))=some (.int .i64 (zs j).1)∧W.cell? ((p.add (j*2)).add 1)=some (.int .u64 (zs j).2)) (h0:J 0 W):
 CallsIn Fence.wide 0 prog 209 #[.func (.yield l) #[] #[],.pointer (some bx)] W fun e W'=>(∃v,e= .returned v)∧(J len W'∨Jx W'):=by
 refine callsIn_of_wp func209 rfl trivial ?_ rfl
 simp only [ntmps209,List.size_toArray,List.length_cons,List.length_nil,Nat.reduceAdd,Nat.reduceSub,Array.replicate_succ,Array.replicate_zero,List.push_toArray,List.append_toArray,List.nil_append,List.cons_append]
 gi_wp2
 gi_loopw [3] (fun i wr=>∃k:Nat,k≤len∧i= .int .i64 ((len:Int)-1-(k:Int))∧J k wr∧KpC C W wr)
  (fun i _=>(intOf i+1).toNat)
 case atStart=>exact⟨0,Nat.zero_le _,by simp,h0,fun _ _ _ h=>h⟩
 case round=>
  obtain⟨k,hk,rfl,hJs,hnx⟩:=hrel
  by_cases hlt:k<len
  · obtain⟨fn,tmps,assign,body,hy,hR⟩:=hY k wr hlt hJs
    have hb':=hnx _ _ hC0 hBs
    have hc':=hnx _ _ (hC (len-1-k) (by omega)).1 (hc (len-1-k) (by omega)).1
    have hc2:wr.cell? ⟨p.block,(p.add ((len-1-k)*2)).off+1,none⟩=some (.int .u64 (zs (len-1-k)).2):=by
     have h:=hnx _ _ (hC (len-1-k) (by omega)).2 (hc (len-1-k) (by omega)).2
     have ea:∀q:Addr,q.add 1=⟨q.block,q.off+1,none⟩:=fun q=>by simp [Addr.add]
     rw [ea,add_block]at h
     exact h
    have e1:((len:Int)-1-(k:Int))=((len-1-k:Nat):Int):=by omega
    rw [e1]at*
    gi_wp2
    refine⟨rfl,?_⟩
    refine hR.mono ?_
    rintro e W3 (⟨rfl,hJ3,hk3⟩|⟨rfl,hJx3⟩)
    · gi_wp2
      go_roundw
      case rel=>exact⟨k+1,by omega,by simp;omega,hJ3,fun p v hp hv=>hk3 p v hp (hnx p v hp hv)⟩
      case measure=>simp [intOf]
    · gi_wp2
      refine bodyPost_ret (results_none rfl _ _ _) rfl ?_
      exact⟨⟨_,rfl⟩,.inr hJx3⟩
  · obtain rfl:k=len:=by omega
    gi_wp2
    go_end0
    exact⟨⟨_,rfl⟩,.inl hJs⟩
end Go.Proofs.Tryz
