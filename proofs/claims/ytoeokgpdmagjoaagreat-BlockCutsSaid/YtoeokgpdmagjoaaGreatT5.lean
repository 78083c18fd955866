import Derived.Test.YtoeokgpdmagjoaaGreatT4
/-
A part of the proof: steps of the walk and plain laws.
-/
set_option linter.unusedVariables false
namespace Go.Proofs.Tryz
open Go Go.Proofs.VC
set_option maxRecDepth 100000
def F_norm_Of (x0:Option Addr) (x0n:Nat) (x0c:Nat) (x1:Int) (w:World) (R:Value→World→Prop):Prop:=
 Calls prog n_slices_ContainsFunc_S_int_int #[.slice x0 x0n x0c,.func (.func n_norm_Of_1) #[] #[]] w (fun e w1=>∃x14:Bool,e= .returned (.bool x14)∧∀J4
 :World→Prop,(∀w2,(∀w3,w3=w2.drew→0≤x1∧Calls prog n_norm_sum #[.slice x0 x0n x0c] w3 (fun e_2 w4=>∃x34:Int,e_2= .returned (.int .i64 x34)
 ∧(True)∧0≤(65:Int)∧(65:Int)≤(65:Int)∧((8:Nat):Int)*(65:Int)≤((maxMake:Nat):Int)∧∀w5 b35,w5=w4.alloc (.cells (mkCells TAB
 t_int (Int.toNat (65:Int))) t_int)→b35=w4.heap.size→∃I0:Nat→Int→World→Prop,(∃m_2,I0 m_2 (0:Int) w5)∧∀m,∀x38:Int,∀w6,I0 m x38 w6
 →(bif decide (x38<((x0n:Nat):Int))then(0≤x38∧x38<((x0n:Nat):Int)∧OSome x0 fun p41=>∃x42:Int,w6.cell? (p41.add (Int.toNat x38*1))=
 some (.int .i64 x42)∧bif decide (x42>(0:Int))then(x34≠0∧0≤x38∧x38<((Int.toNat (65:Int):Nat):Int)∧OSome (some (A0 b35)) fun p53=>Sto
 w6 (p53.add (Int.toNat x38*1)) (.int .i64 (if (W64 (Int.tdiv (W64 (x42*(shlI .i64 (1:Int) x1))) x34))>(1:Int)then(W64 (Int.tdiv (W64 (x42*(shlI
 .i64 (1:Int) x1))) x34))else(1:Int))) fun w7=>∃m_3,m_3<m∧I0 m_3 (W64 (x38+(1:Int))) w7)else(∃m_3,m_3<m∧I0 m_3 (W64 (x38+(1:Int)))
 w6))else(Calls prog n_norm_sum #[.slice (some (A0 b35)) (Int.toNat (65:Int)) (Int.toNat (65:Int))] w6 (fun e_3 w8=>∃x57:Int,e_3= .returned (.int
 .i64 x57)∧bif decide ((W64 ((shlI .i64 (1:Int) x1)-x57))≥(0:Int))then(Calls prog n_hist_Order #[.slice x0 x0n x0c] w8 (fun e_4 w9=>∃x63:Option
 Addr,∃x63n:Nat,∃x63c:Nat,e_4= .returned (.slice x63 x63n x63c)∧0≤(0:Int)∧(0:Int)<((x63n:Nat):Int)∧OSome x63 fun p64=>∃x65:Int,
 w9.cell? (p64.add (Int.toNat (0:Int)*1))=some (.int .i64 x65)∧0≤x65∧x65<((Int.toNat (65:Int):Nat):Int)∧OSome (some (A0 b35)) fun p66=>∃
 x67:Int,w9.cell? (p66.add (Int.toNat x65*1))=some (.int .i64 x67)∧0≤x65∧x65<((Int.toNat (65:Int):Nat):Int)∧OSome (some (A0 b35)) fun p70
 =>Sto w9 (p70.add (Int.toNat x65*1)) (.int .i64 (W64 (x67+(W64 ((shlI .i64 (1:Int) x1)-x57))))) fun w10=>R (.tuple #[.slice (some (A0 b35))
 (Int.toNat (65:Int)) (Int.toNat (65:Int)),.int .i64 (0:Int)]) w10))else(Calls prog n_norm_taken #[.slice (some (A0 b35)) (Int.toNat (65:Int))
 (Int.toNat (65:Int)),.int .i64 (W64 (0-W64 ((shlI .i64 (1:Int) x1)-x57)))] w8 (fun e_5 w11=>e_5= .returned (.tuple #[])∧R (.tuple #[.slice (some
 (A0 b35)) (Int.toNat (65:Int)) (Int.toNat (65:Int)),.int .i64 (0:Int)]) w11)))))))→J4 w2)→bif ((x0n:Nat):Int) !=(65:Int)then(R (.tuple
 #[.slice none 0 0,.int .i64 (1:Int)]) w1)else(bif x14 then(R (.tuple #[.slice none 0 0,.int .i64 (1:Int)]) w1)else(Calls prog n_norm_mayLog #[.int
 .i64 x1] w1 (fun e_6 w12=>∃x23:Bool,e_6= .returned (.bool x23)∧bif !x23 then(R (.tuple #[.slice none 0 0,.int .i64 (1:Int)]) w12)else(Calls prog
 n_norm_sum #[.slice x0 x0n x0c] w12 (fun e_7 w13=>∃x28:Int,e_7= .returned (.int .i64 x28)∧bif x28==(0:Int)then(R (.tuple #[.slice none 0 0,.int
 .i64 (1:Int)]) w13)else(J4 w13)))))))
def A_norm_Of:Ann:= {loop:=fun k=>cond (Nat.beq k 0) (some (36028522141060096,[38],[.int .i64])) (none),join:=fun k=>cond (Nat.beq k 4) (some (2147450928,[],[])) (none),nf:=fun k=> []}
theorem S_norm_Of {x0:Option Addr} {x0n:Nat} {x0c:Nat} {x1:Int} {w:World} {R:Ending→World→Prop} (h:F_norm_Of x0 x0n x0c x1 w fun v w'=>R (.returned v) w'):Calls prog n_norm_Of #[.slice x0 x0n x0c,.int .i64 x1] w R:=vcS A_norm_Of func72 (by kernel_rfl) (by kernel_rfl) h
def F_norm_Put (x0:Option Addr) (x0n:Nat) (x0c:Nat) (w:World) (R:Value→World→Prop):Prop:=
 ∀w1 b3,w1=w.alloc (.cells #[.pointer none,.slice none 0 0] t_strings_Builder)→b3=w.heap.size→∃I0:Nat→Int→World→Prop,(∃m_2,I0 m_2 (0:Int)
 w1)∧∀m,∀x4:Int,∀w2,I0 m x4 w2→(bif decide (x4<((x0n:Nat):Int))then(0≤x4∧x4<((x0n:Nat):Int)∧OSome x0 fun p14=>∃x15:Int,
 w2.cell? (p14.add (Int.toNat x4*1))=some (.int .i64 x15)∧Calls prog n_vint_Put #[.int .u64 (U64 x15)] w2 (fun e w3=>∃x17:ByteArray,e= .returned
 (.string x17)∧Calls prog n_strings_Builder_WriteString #[.pointer (some (A0 b3)),.string x17] w3 (fun e_2 w4=>∃x18r0:Int,∃x18r1:Value,e_2=
 .returned (.tuple #[.int .i64 x18r0,x18r1])∧0≤x4∧x4<((x0n:Nat):Int)∧OSome x0 fun p21=>∃x22:Int,w4.cell? (p21.add (Int.toNat x4*1))=
 some (.int .i64 x22)∧bif x22 !=(0:Int)then(∃m_3,m_3<m∧I0 m_3 (W64 (x4+(1:Int))) w4)else(∀J10:Int→World→Prop,(∀x4_2:Int,∀w5,
 (Calls prog n_vint_Put #[.int .u64 (U64 (W64 (x4_2-x4)))] w5 (fun e_3 w6=>∃x44:ByteArray,e_3= .returned (.string x44)∧Calls prog
 n_strings_Builder_WriteString #[.pointer (some (A0 b3)),.string x44] w6 (fun e_4 w7=>∃x45r0:Int,∃x45r1:Value,e_4= .returned (.tuple #[.int .i64
 x45r0,x45r1])∧∃m_3,m_3<m∧I0 m_3 (W64 (x4_2+(1:Int))) w7)))→J10 x4_2 w5)→∃I2:Nat→Int→World→Prop,(∃m_5,I2 m_5 x4 w4)∧∀m_4,∀x4_3
 :Int,∀w8,I2 m_4 x4_3 w8→(bif decide ((W64 (x4_3+(1:Int)))<((x0n:Nat):Int))then(0≤(W64 (x4_3+(1:Int)))∧(W64 (x4_3+(1:Int)))<
 ((x0n:Nat):Int)∧OSome x0 fun p34=>∃x35:Int,w8.cell? (p34.add (Int.toNat (W64 (x4_3+(1:Int)))*1))=some (.int .i64 x35)∧bif x35==(0:
 Int)then(∃m_6,m_6<m_4∧I2 m_6 (W64 (x4_3+(1:Int))) w8)else(J10 x4_3 w8))else(J10 x4_3 w8))))))else(Calls prog n_strings_Builder_String
 #[.pointer (some (A0 b3))] w2 (fun e_5 w9=>∃x46:ByteArray,e_5= .returned (.string x46)∧R (.string x46) w9)))
def A_norm_Put:Ann:= {loop:=fun k=>cond (Nat.beq k 2) (some (1099478073360,[4],[.int .i64])) (cond (Nat.beq k 0) (some (70368744177648,[4],[.int .i64])) (none)),join:=fun k=>cond (Nat.beq k 10) (some (1099478073360,[4],[.int .i64])) (none),nf:=fun k=> []}
theorem S_norm_Put {x0:Option Addr} {x0n:Nat} {x0c:Nat} {w:World} {R:Ending→World→Prop} (h:F_norm_Put x0 x0n x0c w fun v w'=>R (.returned v) w'):Calls prog n_norm_Put #[.slice x0 x0n x0c] w R:=vcS A_norm_Put func74 (by kernel_rfl) (by kernel_rfl) h
def F_norm_Get (x0:ByteArray) (x1:Int) (x2:Int) (w:World) (R:Value→World→Prop):Prop:=
 ∀w1 b3,w1=w.alloc (.cells #[.string x0] t_string)→b3=w.heap.size→∀w2 b7,w2=w1.alloc (.cells #[.int .i64 0] t_int)→b7=w1.heap.size→∀J3:
 Option Addr→Nat→Nat→World→Prop,(∀x6:Option Addr,∀x6n:Nat,∀x6c:Nat,∀w3,(Sto w3 (A0 b7) (.int .i64 x1) fun w4=>∃I0:Nat→Option Addr
 →Nat→Nat→World→Prop,(∃m_2,I0 m_2 x6 x6n x6c w4)∧∀m,∀x6_2:Option Addr,∀x6_2n:Nat,∀x6_2c:Nat,∀w5,I0 m x6_2 x6_2n x6_2c w5→(bif
 decide (((x6_2n:Nat):Int)<(65:Int))then(Calls prog n_norm_Get_1 #[.pointer (some (A0 b3)),.pointer (some (A0 b7))] w5 (fun e w6=>∃x33r0:Int,∃
 x33r1:Int,e= .returned (.tuple #[.int .u64 x33r0,.int .i64 x33r1])∧bif x33r1 !=(0:Int)then(Sto w6 (A0 b7) (.int .i64 (0:Int)) fun w7=>∃r1:
 Int,w7.cell? (A0 b7)=some (.int .i64 r1)∧R (.tuple #[.slice none 0 0,.int .i64 r1,.int .i64 x33r1]) w7)else(∀J14:Option Addr→Nat→Nat→Int→
 World→Prop,(∀x6_3:Option Addr,∀x6_3n:Nat,∀x6_3c:Nat,∀x12:Int,∀w8,(bif decide (x12≥(U64 (W64 ((65:Int)-((x6_3n:Nat):Int)))))then
 (Sto w8 (A0 b7) (.int .i64 (0:Int)) fun w9=>∃r1_2:Int,w9.cell? (A0 b7)=some (.int .i64 r1_2)∧R (.tuple #[.slice none 0 0,.int .i64 r1_2,.int .i64
 (3:Int)]) w9)else(∃I2:Nat→Option Addr→Nat→Nat→Int→World→Prop,(∃m_5,I2 m_5 x6_3 x6_3n x6_3c (0:Int) w8)∧∀m_4,∀x6_4:Option Addr,∀
 x6_4n:Nat,∀x6_4c:Nat,∀x57:Int,∀w10,I2 m_4 x6_4 x6_4n x6_4c x57 w10→(bif decide (x57<(U64 (x12+(1:Int))))then(∀w11 b63,w11=w10.alloc
 (.cells #[.int .i64 (W64 (if (4097:Int)<x33r0 then(4097:Int)else x33r0))] t_int)→b63=w10.heap.size→∃x64:Option Addr,∃x64n:Nat,∃x64c:
 Nat,∃w12:World,(Builtin.append_ #[t_S_int,t_S_int] t_S_int #[.slice x6_4 x6_4n x6_4c,.slice (some (A0 b63)) 1 1]).run prog w11= .ok (.slice x64 x64n
 x64c) w12∧∃m_6,m_6<m_4∧I2 m_6 x64 x64n x64c (U64 (x57+(1:Int))) w12)else(∃m_3,m_3<m∧I0 m_3 x6_4 x6_4n x6_4c w10))))→J14 x6_3 x6_3n x6_3c
 x12 w8)→bif x33r0==(0:Int)then(Calls prog n_norm_Get_1 #[.pointer (some (A0 b3)),.pointer (some (A0 b7))] w6 (fun e_2 w13=>∃x43r0:Int,∃x43r1:
 Int,e_2= .returned (.tuple #[.int .u64 x43r0,.int .i64 x43r1])∧bif x43r1 !=(0:Int)then(Sto w13 (A0 b7) (.int .i64 (0:Int)) fun w14=>∃r1_3:Int,
 w14.cell? (A0 b7)=some (.int .i64 r1_3)∧R (.tuple #[.slice none 0 0,.int .i64 r1_3,.int .i64 x43r1]) w14)else(J14 x6_2 x6_2n x6_2c x43r0 w13)))else
 (J14 x6_2 x6_2n x6_2c (0:Int) w6))))else(∀w15,w15=w5.drew→Calls prog n_norm_May #[.slice x6_2 x6_2n x6_2c,.int .i64 x2] w15 (fun e_3 w16=>∃x68:
 Bool,e_3= .returned (.bool x68)∧(True)∧bif !x68 then((True)∧Sto w16 (A0 b7) (.int .i64 (0:Int)) fun w17=>∃r1_4:Int,w17.cell? (A0 b7)=some
 (.int .i64 r1_4)∧R (.tuple #[.slice none 0 0,.int .i64 r1_4,.int .i64 (3:Int)]) w17)else(∃x73:ByteArray,w16.cell? (A0 b3)=some (.string x73)∧∃
 x75:Int,w16.cell? (A0 b7)=some (.int .i64 x75)∧0≤x75∧x75≤((x73.size:Nat):Int)∧0≤x1∧x1≤((Int.toNat x75:Nat):Int)∧Calls prog
 n_norm_Put #[.slice x6_2 x6_2n x6_2c] w16 (fun e_4 w18=>∃x72:ByteArray,e_4= .returned (.string x72)∧((w16.cell? (A0 b3)=some (.string x73)→
 w18.cell? (A0 b3)=some (.string x73))∧(w16.cell? (A0 b7)=some (.int .i64 x75)→w18.cell? (A0 b7)=some (.int .i64 x75))∧True)∧bif !(x72.toList==
 (x73.extract (Int.toNat x1) (Int.toNat x75)).toList)then(Sto w18 (A0 b7) (.int .i64 (0:Int)) fun w19=>∃r1_5:Int,w19.cell? (A0 b7)=some (.int .i64
 r1_5)∧R (.tuple #[.slice none 0 0,.int .i64 r1_5,.int .i64 (3:Int)]) w19)else(∀w20,w20=w18.drew→∃x80:Int,w20.cell? (A0 b7)=some (.int .i64
 x80)∧Sto w20 (A0 b7) (.int .i64 x80) fun w21=>(True)∧∃r1_6:Int,w21.cell? (A0 b7)=some (.int .i64 r1_6)∧R (.tuple #[.slice x6_2 x6_2n x6_2c,.int
 .i64 r1_6,.int .i64 (0:Int)]) w21)))))))→J3 x6 x6n x6c w3)→bif decide (x1<(0:Int))then(Sto w2 (A0 b7) (.int .i64 (0:Int)) fun w22=>∃r1_7:
 Int,w22.cell? (A0 b7)=some (.int .i64 r1_7)∧R (.tuple #[.slice none 0 0,.int .i64 r1_7,.int .i64 (1:Int)]) w22)else(∃x17:ByteArray,w2.cell? (A0
 b3)=some (.string x17)∧bif decide (x1>((x17.size:Nat):Int))then(Sto w2 (A0 b7) (.int .i64 (0:Int)) fun w23=>∃r1_8:Int,w23.cell? (A0 b7)=
 some (.int .i64 r1_8)∧R (.tuple #[.slice none 0 0,.int .i64 r1_8,.int .i64 (1:Int)]) w23)else(Calls prog n_norm_mayLog #[.int .i64 x2] w2 (fun e_5 w24
 =>∃x23:Bool,e_5= .returned (.bool x23)∧bif !x23 then(Sto w24 (A0 b7) (.int .i64 (0:Int)) fun w25=>∃r1_9:Int,w25.cell? (A0 b7)=some (.int
 .i64 r1_9)∧R (.tuple #[.slice none 0 0,.int .i64 r1_9,.int .i64 (1:Int)]) w25)else(J3 none 0 0 w24))))
def A_norm_Get:Ann:= {loop:=fun k=>cond (Nat.beq k 2) (some (73642861106762350656,[6,57],[.sl,.int .u64])) (cond (Nat.beq k 0) (some (73786976294569778496,[6],[.sl])) (none)),join:=fun k=>cond (Nat.beq k 14) (some (562400197613888,[6,12],[.sl,.int .u64])) (cond (Nat.beq k 3) (some (67100992,[6],[.sl])) (none)),nf:=fun k=> []}
theorem S_norm_Get {x0:ByteArray} {x1:Int} {x2:Int} {w:World} {R:Ending→World→Prop} (h:F_norm_Get x0 x1 x2 w fun v w'=>R (.returned v) w'):Calls prog n_norm_Get #[.string x0,.int .i64 x1,.int .i64 x2] w R:=vcS A_norm_Get func102 (by kernel_rfl) (by kernel_rfl) h
def F_norm_Of_1 (x0:Int) (w:World) (R:Value→World→Prop):Prop:=
 bif decide (x0<(0:Int))then(R (.bool true) w)else(R (.bool (decide (x0>(16777216:Int)))) w)
theorem S_norm_Of_1 {x0:Int} {w:World} {R:Ending→World→Prop} (h:F_norm_Of_1 x0 w fun v w'=>R (.returned v) w'):Calls prog n_norm_Of_1 #[.int .i64 x0] w R:=vcS noAnn func139 (by kernel_rfl) (by kernel_rfl) h
def F_norm_mayLog (x0:Int) (w:World) (R:Value→World→Prop):Prop:=
 bif decide (x0≥(7:Int))then(R (.bool (decide (x0≤(12:Int)))) w)else(R (.bool false) w)
theorem S_norm_mayLog {x0:Int} {w:World} {R:Ending→World→Prop} (h:F_norm_mayLog x0 w fun v w'=>R (.returned v) w'):Calls prog n_norm_mayLog #[.int .i64 x0] w R:=vcS noAnn func140 (by kernel_rfl) (by kernel_rfl) h
def F_norm_sum (x0:Option Addr) (x0n:Nat) (x0c:Nat) (w:World) (R:Value→World→Prop):Prop:=
 ∃I0:Nat→Int→Int→World→Prop,(∃m_2,I0 m_2 (0:Int) (0:Int) w)∧∀m,∀x3:Int,∀x8:Int,∀w1,I0 m x3 x8 w1→(bif decide (x8<((x0n:Nat)
 :Int))then(0≤x8∧x8<((x0n:Nat):Int)∧OSome x0 fun p10=>∃x11:Int,w1.cell? (p10.add (Int.toNat x8*1))=some (.int .i64 x11)∧∃m_3,m_3<
 m∧I0 m_3 (W64 (x3+x11)) (W64 (x8+(1:Int))) w1)else(R (.int .i64 x3) w1))
def A_norm_sum:Ann:= {loop:=fun k=>cond (Nat.beq k 0) (some (65320,[3,8],[.int .i64,.int .i64])) (none),join:=fun k=>none,nf:=fun k=> []}
theorem S_norm_sum {x0:Option Addr} {x0n:Nat} {x0c:Nat} {w:World} {R:Ending→World→Prop} (h:F_norm_sum x0 x0n x0c w fun v w'=>R (.returned v) w'):Calls prog n_norm_sum #[.slice x0 x0n x0c] w R:=vcS A_norm_sum func141 (by kernel_rfl) (by kernel_rfl) h
def F_norm_taken (x0:Option Addr) (x0n:Nat) (x0c:Nat) (x1:Int) (w:World) (R:Value→World→Prop):Prop:=
 ∀w1 b8,w1=w.alloc (.cells #[] t_norm_class)→b8=w.heap.size→∀w2 b9,w2=w1.alloc (.cells #[.slice (some (A0 b8)) 0 0] t_norm_classes)→b9=
 w1.heap.size→∃I0:Nat→Int→World→Prop,(∃m_2,I0 m_2 (0:Int) w2)∧∀m,∀x12:Int,∀w3,I0 m x12 w3→(bif decide (x12<((x0n:Nat):Int))
 then(0≤x12∧x12<((x0n:Nat):Int)∧OSome x0 fun p15=>∃x16:Int,w3.cell? (p15.add (Int.toNat x12*1))=some (.int .i64 x16)∧Calls prog
 n_heap_Push #[.iface t_P_norm_classes (.pointer (some (A0 b9))),.iface t_norm_class (.agg #[.int .i64 x12,.int .i64 x16])] w3 (fun e w4=>e= .returned
 (.tuple #[])∧∃m_3,m_3<m∧I0 m_3 (W64 (x12+(1:Int))) w4))else(∃I2:Nat→Int→World→Prop,(∃m_5,I2 m_5 (0:Int) w3)∧∀m_4,∀x26:Int,∀
 w5,I2 m_4 x26 w5→(bif decide (x26<x1)then(OSome (some (A0 b9)) fun p29=>∃x30:Option Addr,∃x30n:Nat,∃x30c:Nat,w5.cell? p29=some (.slice
 x30 x30n x30c)∧0≤(0:Int)∧(0:Int)<((x30n:Nat):Int)∧OSome x30 fun p31=>OSome (some (p31.add (Int.toNat (0:Int)*2))) fun p33=>∃x35:
 Int,w5.cell? (p33.add 1)=some (.int .i64 x35)∧OSome (some (p31.add (Int.toNat (0:Int)*2))) fun p37=>Sto w5 (p37.add 1) (.int .i64 (W64 (x35-(1:
 Int)))) fun w6=>OSome (some (p31.add (Int.toNat (0:Int)*2))) fun p41=>∃x43:Int,w6.cell? p41=some (.int .i64 x43)∧0≤x43∧x43<((x0n:Nat):
 Int)∧OSome x0 fun p44=>∃x45:Int,w6.cell? (p44.add (Int.toNat x43*1))=some (.int .i64 x45)∧0≤x43∧x43<((x0n:Nat):Int)∧OSome x0 fun p47
 =>Sto w6 (p47.add (Int.toNat x43*1)) (.int .i64 (W64 (x45-(1:Int)))) fun w7=>Calls prog n_heap_Fix #[.iface t_P_norm_classes (.pointer (some (A0
 b9))),.int .i64 (0:Int)] w7 (fun e_2 w8=>e_2= .returned (.tuple #[])∧∃m_6,m_6<m_4∧I2 m_6 (W64 (x26+(1:Int))) w8))else(R (.tuple #[]) w5))))
def A_norm_taken:Ann:= {loop:=fun k=>cond (Nat.beq k 2) (some (4503599560261760,[26],[.int .i64])) (cond (Nat.beq k 0) (some (33550432,[12],[.int .i64])) (none)),join:=fun k=>none,nf:=fun k=> []}
theorem S_norm_taken {x0:Option Addr} {x0n:Nat} {x0c:Nat} {x1:Int} {w:World} {R:Ending→World→Prop} (h:F_norm_taken x0 x0n x0c x1 w fun v w'=>R (.returned v) w'):Calls prog n_norm_taken #[.slice x0 x0n x0c,.int .i64 x1] w R:=vcS A_norm_taken func142 (by kernel_rfl) (by kernel_rfl) h
def F_norm_Get_1 (x0:Addr) (x1:Addr) (w:World) (R:Value→World→Prop):Prop:=
 ∃x8:ByteArray,w.cell? x0=some (.string x8)∧∃x9:Int,w.cell? x1=some (.int .i64 x9)∧Calls prog n_vint_Get #[.string x8,.int .i64 x9] w (fun e w1
 =>∃x10r0:Int,∃x10r1:Int,∃x10r2:Int,e= .returned (.tuple #[.int .u64 x10r0,.int .i64 x10r1,.int .i64 x10r2])∧bif x10r2==(0:Int)then(Sto
 w1 x1 (.int .i64 x10r1) fun w2=>R (.tuple #[.int .u64 x10r0,.int .i64 x10r2]) w2)else(R (.tuple #[.int .u64 x10r0,.int .i64 x10r2]) w1))
theorem S_norm_Get_1 {x0:Addr} {x1:Addr} {w:World} {R:Ending→World→Prop} (h:F_norm_Get_1 x0 x1 w fun v w'=>R (.returned v) w'):Calls prog n_norm_Get_1 #[.pointer (some x0),.pointer (some x1)] w R:=vcS noAnn func172 (by kernel_rfl) (by kernel_rfl) h
def F_norm_May (x0:Option Addr) (x0n:Nat) (x0c:Nat) (x1:Int) (w:World) (R:Value→World→Prop):Prop:=
 ∀J3:World→Prop,(∀w1,(0≤x1∧∃I0:Nat→Int→Int→World→Prop,(∃m_2,I0 m_2 (0:Int) (0:Int) w1)∧∀m,∀x6:Int,∀x21:Int,∀w2,I0 m x6
 x21 w2→(bif decide (x21<((x0n:Nat):Int))then(0≤x21∧x21<((x0n:Nat):Int)∧OSome x0 fun p23=>∃x24:Int,w2.cell? (p23.add (Int.toNat x21
 *1))=some (.int .i64 x24)∧bif decide (x24<(0:Int))then(R (.bool false) w2)else(bif decide (x24>(shlI .i64 (1:Int) x1))then(R (.bool false)
 w2)else(∃m_3,m_3<m∧I0 m_3 (W64 (x6+x24)) (W64 (x21+(1:Int))) w2)))else(R (.bool (x6==(shlI .i64 (1:Int) x1))) w2)))→J3 w1)→Calls prog
 n_norm_mayLog #[.int .i64 x1] w (fun e w3=>∃x10:Bool,e= .returned (.bool x10)∧bif !x10 then(R (.bool false) w3)else(bif ((x0n:Nat):Int) !=(65
 :Int)then(R (.bool false) w3)else(J3 w3)))
def A_norm_May:Ann:= {loop:=fun k=>cond (Nat.beq k 0) (some (68717379920,[6,21],[.int .i64,.int .i64])) (none),join:=fun k=>cond (Nat.beq k 3) (some (130576,[],[])) (none),nf:=fun k=> []}
theorem S_norm_May {x0:Option Addr} {x0n:Nat} {x0c:Nat} {x1:Int} {w:World} {R:Ending→World→Prop} (h:F_norm_May x0 x0n x0c x1 w fun v w'=>R (.returned v) w'):Calls prog n_norm_May #[.slice x0 x0n x0c,.int .i64 x1] w R:=vcS A_norm_May func173 (by kernel_rfl) (by kernel_rfl) h
def F_norm_classes_Len (x0:Option Addr) (x0n:Nat) (x0c:Nat) (w:World) (R:Value→World→Prop):Prop:=
 R (.int .i64 ((x0n:Nat):Int)) w
theorem S_norm_classes_Len {x0:Option Addr} {x0n:Nat} {x0c:Nat} {w:World} {R:Ending→World→Prop} (h:F_norm_classes_Len x0 x0n x0c w fun v w'=>R (.returned v) w'):Calls prog n_norm_classes_Len #[.slice x0 x0n x0c] w R:=vcS noAnn func287 (by kernel_rfl) (by kernel_rfl) h
def F_norm_classes_Less (x0:Option Addr) (x0n:Nat) (x0c:Nat) (x1:Int) (x2:Int) (w:World) (R:Value→World→Prop):Prop:=
 ∀w1,w1=w.drew→0≤x1∧x1<((x0n:Nat):Int)∧OSome x0 fun p9=>∃x11:Int,w1.cell? ((p9.add (Int.toNat x1*2)).add 1)=some (.int .i64 x11)∧0≤
 x2∧x2<((x0n:Nat):Int)∧OSome x0 fun p14=>∃x16:Int,w1.cell? ((p14.add (Int.toNat x2*2)).add 1)=some (.int .i64 x16)∧bif decide (x11>x16)
 then(R (.bool true) w1)else(0≤x1∧x1<((x0n:Nat):Int)∧OSome x0 fun p21=>∃x23:Int,w1.cell? ((p21.add (Int.toNat x1*2)).add 1)=some (.int
 .i64 x23)∧0≤x2∧x2<((x0n:Nat):Int)∧OSome x0 fun p26=>∃x28:Int,w1.cell? ((p26.add (Int.toNat x2*2)).add 1)=some (.int .i64 x28)∧bif x23
 ==x28 then(0≤x1∧x1<((x0n:Nat):Int)∧OSome x0 fun p33=>∃x35:Int,w1.cell? (p33.add (Int.toNat x1*2))=some (.int .i64 x35)∧0≤x2∧x2<
 ((x0n:Nat):Int)∧OSome x0 fun p38=>∃x40:Int,w1.cell? (p38.add (Int.toNat x2*2))=some (.int .i64 x40)∧R (.bool (decide (x35<x40))) w1)else
 (R (.bool false) w1))
theorem S_norm_classes_Less {x0:Option Addr} {x0n:Nat} {x0c:Nat} {x1:Int} {x2:Int} {w:World} {R:Ending→World→Prop} (h:F_norm_classes_Less x0 x0n x0c x1 x2 w fun v w'=>R (.returned v) w'):Calls prog n_norm_classes_Less #[.slice x0 x0n x0c,.int .i64 x1,.int .i64 x2] w R:=vcS noAnn func288 (by kernel_rfl) (by kernel_rfl) h
def F_norm_classes_Pop (x0:Option Addr) (w:World) (R:Value→World→Prop):Prop:=
 OSome x0 fun p6=>∃x7:Option Addr,∃x7n:Nat,∃x7c:Nat,w.cell? p6=some (.slice x7 x7n x7c)∧OSome x0 fun p11=>∃x12:Option Addr,∃x12n:Nat,∃
 x12c:Nat,w.cell? p11=some (.slice x12 x12n x12c)∧0≤(W64 (((x7n:Nat):Int)-(1:Int)))∧(W64 (((x7n:Nat):Int)-(1:Int)))<((x12n:Nat):
 Int)∧OSome x12 fun p14=>∃x15a:Int,∃x15b:Int,LdL w (p14.add (Int.toNat (W64 (((x7n:Nat):Int)-(1:Int)))*2)) 0 [.int .i64 x15a,.int .i64
 x15b]∧∀w1 b4,w1=w.alloc (.cells #[.int .i64 0,.int .i64 0] t_norm_class)→b4=w.heap.size→Sto w1 (A0 b4) (.int .i64 x15a) fun w2=>Sto w2 ((A0
 b4).add 1) (.int .i64 x15b) fun w3=>OSome x0 fun p18=>∃x19:Option Addr,∃x19n:Nat,∃x19c:Nat,w3.cell? p18=some (.slice x19 x19n x19c)∧0≤
 (W64 (((x7n:Nat):Int)-(1:Int)))∧(W64 (((x7n:Nat):Int)-(1:Int)))≤((x19c:Nat):Int)∧OSome x0 fun p22=>Sto w3 p22 (.slice (sA x19 2 0
 x19c) ((Int.toNat (W64 (((x7n:Nat):Int)-(1:Int))))-0) (x19c-0)) fun w4=>∃x23a:Int,∃x23b:Int,LdL w4 (A0 b4) 0 [.int .i64 x23a,.int .i64
 x23b]∧R (.iface t_norm_class (.agg #[.int .i64 x23a,.int .i64 x23b])) w4
theorem S_norm_classes_Pop {x0:Option Addr} {w:World} {R:Ending→World→Prop} (h:F_norm_classes_Pop x0 w fun v w'=>R (.returned v) w'):Calls prog n_norm_classes_Pop #[.pointer x0] w R:=vcS noAnn func289 (by kernel_rfl) (by kernel_rfl) h
def F_norm_classes_Push (x0:Option Addr) (x1:Value) (w:World) (R:Value→World→Prop):Prop:=
 ∃x8a:Int,∃x8b:Int,(x1:Value)= .iface t_norm_class (.agg #[.int .i64 x8a,.int .i64 x8b])∧∀w1 b4,w1=w.alloc (.cells #[.int .i64 0,.int .i64 0]
 t_norm_class)→b4=w.heap.size→Sto w1 (A0 b4) (.int .i64 x8a) fun w2=>Sto w2 ((A0 b4).add 1) (.int .i64 x8b) fun w3=>∀w4,w4=w3.drew→OSome x0 fun
 p14=>∃x15:Option Addr,∃x15n:Nat,∃x15c:Nat,w4.cell? p14=some (.slice x15 x15n x15c)∧∃x16a:Int,∃x16b:Int,LdL w4 (A0 b4) 0 [.int .i64
 x16a,.int .i64 x16b]∧∀w5 b17,w5=w4.alloc (.cells #[.int .i64 x16a,.int .i64 x16b] t_norm_class)→b17=w4.heap.size→((w4.cell? p14=some (.slice
 x15 x15n x15c)→w5.cell? p14=some (.slice x15 x15n x15c))∧True)∧∃x18:Option Addr,∃x18n:Nat,∃x18c:Nat,∃w6:World,(Builtin.append_
 #[t_norm_classes,t_norm_classes] t_norm_classes #[.slice x15 x15n x15c,.slice (some (A0 b17)) 1 1]).run prog w5= .ok (.slice x18 x18n x18c) w6∧((w5.cell?
 ((A0 b4).add 0)=some (.int .i64 x16a)→w6.cell? ((A0 b4).add 0)=some (.int .i64 x16a))∧(w5.cell? ((A0 b4).add 1)=some (.int .i64 x16b)→w6.cell? ((A0
 b4).add 1)=some (.int .i64 x16b))∧True)∧OSome x0 fun p19=>Sto w6 p19 (.slice x18 x18n x18c) fun w7=>(True)∧R (.tuple #[]) w7
theorem S_norm_classes_Push {x0:Option Addr} {x1:Value} {w:World} {R:Ending→World→Prop} (h:F_norm_classes_Push x0 x1 w fun v w'=>R (.returned v) w'):Calls prog n_norm_classes_Push #[.pointer x0,x1] w R:=vcS noAnn func290 (by kernel_rfl) (by kernel_rfl) h
def F_norm_classes_Swap (x0:Option Addr) (x0n:Nat) (x0c:Nat) (x1:Int) (x2:Int) (w:World) (R:Value→World→Prop):Prop:=
 ∀w1,w1=w.drew→0≤x2∧x2<((x0n:Nat):Int)∧OSome x0 fun p12=>∃x13a:Int,∃x13b:Int,LdL w1 (p12.add (Int.toNat x2*2)) 0 [.int .i64 x13a,
 .int .i64 x13b]∧0≤x1∧x1<((x0n:Nat):Int)∧OSome x0 fun p16=>∃x17a:Int,∃x17b:Int,LdL w1 (p16.add (Int.toNat x1*2)) 0 [.int .i64 x17a,
 .int .i64 x17b]∧0≤x1∧x1<((x0n:Nat):Int)∧OSome x0 fun p18=>Sto w1 (p18.add (Int.toNat x1*2)) (.int .i64 x13a) fun w2=>Sto w2 ((p18.add
 (Int.toNat x1*2)).add 1) (.int .i64 x13b) fun w3=>(True)∧0≤x2∧x2<((x0n:Nat):Int)∧OSome x0 fun p19=>Sto w3 (p19.add (Int.toNat x2*2))
 (.int .i64 x17a) fun w4=>Sto w4 ((p19.add (Int.toNat x2*2)).add 1) (.int .i64 x17b) fun w5=>(True)∧R (.tuple #[]) w5
theorem S_norm_classes_Swap {x0:Option Addr} {x0n:Nat} {x0c:Nat} {x1:Int} {x2:Int} {w:World} {R:Ending→World→Prop} (h:F_norm_classes_Swap x0 x0n x0c x1 x2 w fun v w'=>R (.returned v) w'):Calls prog n_norm_classes_Swap #[.slice x0 x0n x0c,.int .i64 x1,.int .i64 x2] w R:=vcS noAnn func291 (by kernel_rfl) (by kernel_rfl) h
def F_spread_Table (x0:Option Addr) (x0n:Nat) (x0c:Nat) (x1:Int) (w:World) (R:Value→World→Prop):Prop:=
 Calls prog n_spread_Spread #[.slice x0 x0n x0c,.int .i64 x1] w (fun e w1=>∃x14r0:Option Addr,∃x14r0n:Nat,∃x14r0c:Nat,∃x14r1:Int,e= .returned
 (.tuple #[.slice x14r0 x14r0n x14r0c,.int .i64 x14r1])∧bif x14r1 !=(0:Int)then(R (.tuple #[.slice none 0 0,.int .i64 x14r1]) w1)else(∀w2,w2=
 w1.drew→0≤x1∧∀w3 b23,w3=w2.alloc (.cells #[] t_int)→b23=w2.heap.size→(True)∧∃x25:Option Addr,∃x25n:Nat,∃x25c:Nat,∃w4:World,
 (Builtin.append_ #[t_S_int,t_S_int] t_S_int #[.slice (some (A0 b23)) 0 0,.slice x0 x0n x0c]).run prog w3= .ok (.slice x25 x25n x25c) w4∧(True)∧∀w5 b27,
 w5=w4.alloc (.cells #[.int .i64 (shlI .i64 (1:Int) x1),.int .i64 x1,.slice x25 x25n x25c] t_spread_maker)→b27=w4.heap.size→(True)∧0≤(0:Int)∧
 (0:Int)≤((x14r0n:Nat):Int)∧((24:Nat):Int)*((x14r0n:Nat):Int)≤((maxMake:Nat):Int)∧∀w6 b30,w6=w5.alloc (.cells (mkCells TAB
 t_api_Cell (Int.toNat ((x14r0n:Nat):Int))) t_api_Cell)→b30=w5.heap.size→∃I0:Nat→Option Addr→Nat→Nat→World→Prop,(∃m_2,I0 m_2 (some (A0
 b30)) (Int.toNat (0:Int)) (Int.toNat ((x14r0n:Nat):Int)) w6)∧∀m,∀x9:Option Addr,∀x9n:Nat,∀x9c:Nat,∀w7,I0 m x9 x9n x9c w7→(bif decide
 (((x9n:Nat):Int)<((x14r0n:Nat):Int))then(0≤((x9n:Nat):Int)∧((x9n:Nat):Int)<((x14r0n:Nat):Int)∧OSome x14r0 fun p42=>∃x43:
 Int,w7.cell? (p42.add (Int.toNat ((x9n:Nat):Int)*1))=some (.int .i64 x43)∧Calls prog n_spread_maker_cell #[.pointer (some (A0 b27)),.int .i64 x43]
 w7 (fun e_2 w8=>∃x44a:Int,∃x44b:Int,∃x44c:Int,e_2= .returned (.agg #[.int .i64 x44a,.int .i64 x44b,.int .i64 x44c])∧∀w9 b45,w9=w8.alloc
 (.cells #[.int .i64 x44a,.int .i64 x44b,.int .i64 x44c] t_api_Cell)→b45=w8.heap.size→∃x46:Option Addr,∃x46n:Nat,∃x46c:Nat,∃w10:World,
 (Builtin.append_ #[t_S_api_Cell,t_S_api_Cell] t_S_api_Cell #[.slice x9 x9n x9c,.slice (some (A0 b45)) 1 1]).run prog w9= .ok (.slice x46 x46n x46c) w10∧∃
 m_3,m_3<m∧I0 m_3 x46 x46n x46c w10))else(R (.tuple #[.slice x9 x9n x9c,.int .i64 (0:Int)]) w7))))
def A_spread_Table:Ann:= {loop:=fun k=>cond (Nat.beq k 0) (some (140735340872192,[9],[.sl])) (none),join:=fun k=>none,nf:=fun k=> []}
theorem S_spread_Table {x0:Option Addr} {x0n:Nat} {x0c:Nat} {x1:Int} {w:World} {R:Ending→World→Prop} (h:F_spread_Table x0 x0n x0c x1 w fun v w'=>R (.returned v) w'):Calls prog n_spread_Table #[.slice x0 x0n x0c,.int .i64 x1] w R:=vcS A_spread_Table func204 (by kernel_rfl) (by kernel_rfl) h
def F_spread_Spread (x0:Option Addr) (x0n:Nat) (x0c:Nat) (x1:Int) (w:World) (R:Value→World→Prop):Prop:=
 Calls prog n_norm_May #[.slice x0 x0n x0c,.int .i64 x1] w (fun e w1=>∃x13:Bool,e= .returned (.bool x13)∧bif !x13 then(R (.tuple #[.slice none 0 0,
 .int .i64 (3:Int)]) w1)else(0≤x1∧0≤(shlI .i64 (1:Int) x1)∧(shlI .i64 (1:Int) x1)≤(shlI .i64 (1:Int) x1)∧((8:Nat):Int)*(shlI .i64 (1
 :Int) x1)≤((maxMake:Nat):Int)∧∀w2 b18,w2=w1.alloc (.cells (mkCells TAB t_int (Int.toNat (shlI .i64 (1:Int) x1))) t_int)→b18=w1.heap.size→∃
 I0:Nat→Int→Int→World→Prop,(∃m_2,I0 m_2 (0:Int) (0:Int) w2)∧∀m,∀x8:Int,∀x21:Int,∀w3,I0 m x8 x21 w3→(bif decide (x21<((x0n:
 Nat):Int))then(0≤x21∧x21<((x0n:Nat):Int)∧OSome x0 fun p24=>∃x25:Int,w3.cell? (p24.add (Int.toNat x21*1))=some (.int .i64 x25)∧∃I2
 :Nat→Int→Int→World→Prop,(∃m_5,I2 m_5 x8 (0:Int) w3)∧∀m_4,∀x8_2:Int,∀x27:Int,∀w4,I2 m_4 x8_2 x27 w4→(bif decide (x27<x25)then
 (0≤x8_2∧x8_2<((Int.toNat (shlI .i64 (1:Int) x1):Nat):Int)∧OSome (some (A0 b18)) fun p32=>Sto w4 (p32.add (Int.toNat x8_2*1)) (.int .i64 x21)
 fun w5=>(2:Int)≠0∧(8:Int)≠0∧(shlI .i64 (1:Int) x1)≠0∧∃m_6,m_6<m_4∧I2 m_6 (Int.tmod (W64 ((W64 ((W64 (x8_2+(W64 (Int.tdiv (shlI .i64
 (1:Int) x1) (2:Int)))))+(W64 (Int.tdiv (shlI .i64 (1:Int) x1) (8:Int)))))+(3:Int))) (shlI .i64 (1:Int) x1)) (W64 (x27+(1:Int))) w5)else(∃
 m_3,m_3<m∧I0 m_3 x8_2 (W64 (x21+(1:Int))) w4)))else(R (.tuple #[.slice (some (A0 b18)) (Int.toNat (shlI .i64 (1:Int) x1)) (Int.toNat (shlI .i64 (1
 :Int) x1)),.int .i64 (0:Int)]) w3))))
def A_spread_Spread:Ann:= {loop:=fun k=>cond (Nat.beq k 2) (some (17592051826944,[8,27],[.int .i64,.int .i64])) (cond (Nat.beq k 0) (some (35184369993472,[8,21],[.int .i64,.int .i64])) (none)),join:=fun k=>none,nf:=fun k=> []}
theorem S_spread_Spread {x0:Option Addr} {x0n:Nat} {x0c:Nat} {x1:Int} {w:World} {R:Ending→World→Prop} (h:F_spread_Spread x0 x0n x0c x1 w fun v w'=>R (.returned v) w'):Calls prog n_spread_Spread #[.slice x0 x0n x0c,.int .i64 x1] w R:=vcS A_spread_Spread func230 (by kernel_rfl) (by kernel_rfl) h
def F_spread_maker_cell (x0:Option Addr) (x1:Int) (w:World) (R:Value→World→Prop):Prop:=
 ∀w1 b4,w1=w.alloc (.cells #[.int .i64 0,.int .i64 0,.int .i64 0] t_api_Cell)→b4=w.heap.size→OSome x0 fun p8=>∃x10:Option Addr,∃x10n:Nat,∃
 x10c:Nat,w1.cell? (p8.add 2)=some (.slice x10 x10n x10c)∧0≤x1∧x1<((x10n:Nat):Int)∧OSome x10 fun p12=>∃x13:Int,w1.cell? (p12.add
 (Int.toNat x1*1))=some (.int .i64 x13)∧OSome x0 fun p15=>∃x17:Option Addr,∃x17n:Nat,∃x17c:Nat,w1.cell? (p15.add 2)=some (.slice x17 x17n
 x17c)∧0≤x1∧x1<((x17n:Nat):Int)∧OSome x17 fun p19=>∃x20:Int,w1.cell? (p19.add (Int.toNat x1*1))=some (.int .i64 x20)∧0≤x1∧x1<
 ((x17n:Nat):Int)∧OSome x17 fun p22=>Sto w1 (p22.add (Int.toNat x1*1)) (.int .i64 (W64 (x20+(1:Int)))) fun w2=>∀w3,w3=w2.drew→OSome x0 fun
 p24=>∃x26:Int,w3.cell? (p24.add 1)=some (.int .i64 x26)∧Calls prog n_bits_Len #[.int .u64 (U64 x13)] w3 (fun e w4=>∃x29:Int,e= .returned (.int
 .i64 x29)∧((w3.cell? (p24.add 1)=some (.int .i64 x26)→w4.cell? (p24.add 1)=some (.int .i64 x26))∧True)∧∀w5,w5=w4.drew→0≤(W64 (x26-(W64
 (x29-(1:Int)))))∧OSome x0 fun p38=>∃x40:Int,w5.cell? p38=some (.int .i64 x40)∧Sto w5 (A0 b4) (.int .i64 x1) fun w6=>Sto w6 ((A0 b4).add 1)
 (.int .i64 (W64 (x26-(W64 (x29-(1:Int)))))) fun w7=>Sto w7 ((A0 b4).add 2) (.int .i64 (W64 ((shlI .i64 x13 (W64 (x26-(W64 (x29-(1:Int))))))-
 x40))) fun w8=>(True)∧∃r0a:Int,∃r0b:Int,∃r0c:Int,LdL w8 (A0 b4) 0 [.int .i64 r0a,.int .i64 r0b,.int .i64 r0c]∧R (.agg #[.int .i64 r0a,.int
 .i64 r0b,.int .i64 r0c]) w8)
theorem S_spread_maker_cell {x0:Option Addr} {x1:Int} {w:World} {R:Ending→World→Prop} (h:F_spread_maker_cell x0 x1 w fun v w'=>R (.returned v) w'):Calls prog n_spread_maker_cell #[.pointer x0,.int .i64 x1] w R:=vcS noAnn func231 (by kernel_rfl) (by kernel_rfl) h
def F_states_Get (x0:ByteArray) (x1:Int) (x2:Option Addr) (x2n:Nat) (x2c:Nat) (x3:Int) (w:World) (R:Value→World→Prop):Prop:=
 Calls prog n_states_made #[.slice x2 x2n x2c,.int .i64 x3] w (fun e w1=>∃x21r0:Option Addr,∃x21r1:Int,e= .returned (.tuple #[.pointer x21r0,.int
 .i64 x21r1])∧∀J6:World→Prop,(∀w2,(Calls prog n_states_opened #[.string x0,.pointer x21r0,.int .i64 x3] w2 (fun e_2 w3=>∃x39r0:Option Addr,∃
 x39r1:Bool,e_2= .returned (.tuple #[.pointer x39r0,.bool x39r1])∧bif !x39r1 then(R (.tuple #[.slice none 0 0,.int .i64 (3:Int)]) w3)else(∃I1:
 Nat→Option Addr→Nat→Nat→Int→World→Prop,(∃m_2,I1 m_2 none 0 0 (0:Int) w3)∧∀m,∀x14:Option Addr,∀x14n:Nat,∀x14c:Nat,∀x47:Int,
 ∀w4,I1 m x14 x14n x14c x47 w4→(bif decide (x47<x1)then(Calls prog n_states_reader_back #[.pointer x39r0] w4 (fun e_3 w5=>∃x51r0a:Int,∃x51r0b:
 Int,∃x51r1:Bool,e_3= .returned (.tuple #[.agg #[.int .i64 x51r0a,.int .u64 x51r0b],.bool x51r1])∧∀w6 b16,w6=w5.alloc (.cells #[.int .i64 0,.int
 .u64 0] t_api_Part)→b16=w5.heap.size→Sto w6 (A0 b16) (.int .i64 x51r0a) fun w7=>Sto w7 ((A0 b16).add 1) (.int .u64 x51r0b) fun w8=>bif !x51r1 then(R
 (.tuple #[.slice none 0 0,.int .i64 (3:Int)]) w8)else(∃x57a:Int,∃x57b:Int,LdL w8 (A0 b16) 0 [.int .i64 x57a,.int .u64 x57b]∧∀w9 b58,w9=
 w8.alloc (.cells #[.int .i64 x57a,.int .u64 x57b] t_api_Part)→b58=w8.heap.size→∃x59:Option Addr,∃x59n:Nat,∃x59c:Nat,∃w10:World,
 (Builtin.append_ #[t_S_api_Part,t_S_api_Part] t_S_api_Part #[.slice x14 x14n x14c,.slice (some (A0 b58)) 1 1]).run prog w9= .ok (.slice x59 x59n x59c) w10∧
 ∃m_3,m_3<m∧I1 m_3 x59 x59n x59c (W64 (x47+(1:Int))) w10)))else(OSome x39r0 fun p62=>∃x64:Option Addr,w4.cell? p62=some (.pointer x64)∧
 OSome x64 fun p65=>∃x67:Int,w4.cell? (p65.add 66)=some (.int .i64 x67)∧bif x67 !=(0:Int)then(R (.tuple #[.slice none 0 0,.int .i64 (3:Int)])
 w4)else(OSome x39r0 fun p71=>∃x73:Option Addr,w4.cell? (p71.add 1)=some (.pointer x73)∧Calls prog n_back_Reader_Left #[.pointer x73] w4 (fun e_4
 w11=>∃x74:Int,e_4= .returned (.int .i64 x74)∧bif x74 !=(0:Int)then(R (.tuple #[.slice none 0 0,.int .i64 (3:Int)]) w11)else(OSome x39r0 fun
 p79=>∃x81:Option Addr,w11.cell? (p79.add 2)=some (.pointer x81)∧Calls prog n_bits_Reader_Rest #[.pointer x81] w11 (fun e_5 w12=>∃x82:Bool,e_5=
 .returned (.bool x82)∧bif !x82 then(R (.tuple #[.slice none 0 0,.int .i64 (3:Int)]) w12)else(R (.tuple #[.slice x14 x14n x14c,.int .i64 (0:Int)])
 w12))))))))))→J6 w2)→bif x21r1 !=(0:Int)then(R (.tuple #[.slice none 0 0,.int .i64 x21r1]) w1)else(bif decide (x1<(0:Int))then(R (.tuple
 #[.slice none 0 0,.int .i64 (1:Int)]) w1)else(bif decide (x1>(4096:Int))then(R (.tuple #[.slice none 0 0,.int .i64 (1:Int)]) w1)else(J6 w1))))
def A_states_Get:Ann:= {loop:=fun k=>cond (Nat.beq k 1) (some (2305702271725552384,[14,47],[.sl,.int .i64])) (none),join:=fun k=>cond (Nat.beq k 6) (some (34342961920,[],[])) (none),nf:=fun k=> []}
theorem S_states_Get {x0:ByteArray} {x1:Int} {x2:Option Addr} {x2n:Nat} {x2c:Nat} {x3:Int} {w:World} {R:Ending→World→Prop} (h:F_states_Get x0 x1 x2 x2n x2c x3 w fun v w'=>R (.returned v) w'):Calls prog n_states_Get #[.string x0,.int .i64 x1,.slice x2 x2n x2c,.int .i64 x3] w R:=vcS A_states_Get func103 (by kernel_rfl) (by kernel_rfl) h
def F_states_made (x0:Option Addr) (x0n:Nat) (x0c:Nat) (x1:Int) (w:World) (R:Value→World→Prop):Prop:=
 Calls prog n_spread_Table #[.slice x0 x0n x0c,.int .i64 x1] w (fun e w1=>∃x16r0:Option Addr,∃x16r0n:Nat,∃x16r0c:Nat,∃x16r1:Int,e= .returned
 (.tuple #[.slice x16r0 x16r0n x16r0c,.int .i64 x16r1])∧∀w2 b6,w2=w1.alloc (.cells #[.slice none 0 0] t_S_api_Cell)→b6=w1.heap.size→Sto w2 (A0 b6)
 (.slice x16r0 x16r0n x16r0c) fun w3=>bif x16r1 !=(0:Int)then(R (.tuple #[.pointer none,.int .i64 x16r1]) w3)else(∃x22:Option Addr,∃x22n:Nat,∃
 x22c:Nat,w3.cell? (A0 b6)=some (.slice x22 x22n x22c)∧∀w4 b24,w4=w3.alloc (.cells (([.slice x22 x22n x22c]:List Value)++List.replicate 65
 (.slice none 0 0:Value)++([.int .i64 0]:List Value)++([.slice none 0 0,.slice none 0 0]:List Value)).toArray t_states_coder)→b24=w3.heap.size→
 ∃x25:Option Addr,∃x25n:Nat,∃x25c:Nat,w4.cell? (A0 b6)=some (.slice x25 x25n x25c)∧∃I0:Nat→Int→World→Prop,(∃m_2,I0 m_2 (0:Int) w4)
 ∧∀m,∀x27:Int,∀w5,I0 m x27 w5→(bif decide (x27<((x25n:Nat):Int))then(0≤x27∧x27<((x25n:Nat):Int)∧OSome x25 fun p30=>∃x31a:
 Int,∃x31b:Int,∃x31c:Int,LdL w5 (p30.add (Int.toNat x27*3)) 0 [.int .i64 x31a,.int .i64 x31b,.int .i64 x31c]∧∀w6 b10,w6=w5.alloc (.cells
 #[.int .i64 0,.int .i64 0,.int .i64 0] t_api_Cell)→b10=w5.heap.size→Sto w6 (A0 b10) (.int .i64 x31a) fun w7=>Sto w7 ((A0 b10).add 1) (.int .i64 x31b)
 fun w8=>Sto w8 ((A0 b10).add 2) (.int .i64 x31c) fun w9=>∀w10,w10=w9.drew→∃x34:Int,w10.cell? (A0 b10)=some (.int .i64 x34)∧∃x37:Int,
 w10.cell? (A0 b10)=some (.int .i64 x37)∧OSome (some (A0 b24)) fun p38=>0≤x37∧x37<((65:Nat):Int)∧∃x41:Option Addr,∃x41n:Nat,∃x41c:
 Nat,w10.cell? ((p38.add 1).add (Int.toNat x37*1))=some (.slice x41 x41n x41c)∧OSome (some (A0 b24)) fun p45=>∀w11 b43,w11=w10.alloc (.cells #[.int
 .i64 x27] t_int)→b43=w10.heap.size→((w10.cell? (A0 b10)=some (.int .i64 x34)→w11.cell? (A0 b10)=some (.int .i64 x34))∧(w10.cell? (A0 b10)=some
 (.int .i64 x37)→w11.cell? (A0 b10)=some (.int .i64 x37))∧(w10.cell? ((p38.add 1).add (Int.toNat x37*1))=some (.slice x41 x41n x41c)→w11.cell?
 ((p38.add 1).add (Int.toNat x37*1))=some (.slice x41 x41n x41c))∧True)∧∃x44:Option Addr,∃x44n:Nat,∃x44c:Nat,∃w12:World,(Builtin.append_
 #[t_S_int,t_S_int] t_S_int #[.slice x41 x41n x41c,.slice (some (A0 b43)) 1 1]).run prog w11= .ok (.slice x44 x44n x44c) w12∧((w11.cell? (A0 b10)=some
 (.int .i64 x34)→w12.cell? (A0 b10)=some (.int .i64 x34))∧(w11.cell? (A0 b10)=some (.int .i64 x37)→w12.cell? (A0 b10)=some (.int .i64 x37))∧True)
 ∧0≤x34∧x34<((65:Nat):Int)∧Sto w12 ((p45.add 1).add (Int.toNat x34*1)) (.slice x44 x44n x44c) fun w13=>(True)∧∃m_3,m_3<m∧I0 m_3 (W64
 (x27+(1:Int))) w13)else(OSome (some (A0 b24)) fun p50=>∃x52a:Option Addr,∃x52an:Nat,∃x52ac:Nat,∃x52b:Option Addr,∃x52bn:Nat,∃x52bc
 :Nat,∃x52c:Option Addr,∃x52cn:Nat,∃x52cc:Nat,∃x52d:Option Addr,∃x52dn:Nat,∃x52dc:Nat,∃x52e:Option Addr,∃x52en:Nat,∃x52ec:
 Nat,∃x52f:Option Addr,∃x52fn:Nat,∃x52fc:Nat,∃x52g:Option Addr,∃x52gn:Nat,∃x52gc:Nat,∃x52h:Option Addr,∃x52hn:Nat,∃x52hc:
 Nat,∃x52i:Option Addr,∃x52in:Nat,∃x52ic:Nat,∃x52j:Option Addr,∃x52jn:Nat,∃x52jc:Nat,∃x52k:Option Addr,∃x52kn:Nat,∃x52kc:
 Nat,∃x52l:Option Addr,∃x52ln:Nat,∃x52lc:Nat,∃x52m:Option Addr,∃x52mn:Nat,∃x52mc:Nat,∃x52n:Option Addr,∃x52nn:Nat,∃x52nc:
 Nat,∃x52o:Option Addr,∃x52on:Nat,∃x52oc:Nat,∃x52p:Option Addr,∃x52pn:Nat,∃x52pc:Nat,∃x52q:Option Addr,∃x52qn:Nat,∃x52qc:
 Nat,∃x52r:Option Addr,∃x52rn:Nat,∃x52rc:Nat,∃x52s:Option Addr,∃x52sn:Nat,∃x52sc:Nat,∃x52t:Option Addr,∃x52tn:Nat,∃x52tc:
 Nat,∃x52u:Option Addr,∃x52un:Nat,∃x52uc:Nat,∃x52v:Option Addr,∃x52vn:Nat,∃x52vc:Nat,∃x52w:Option Addr,∃x52wn:Nat,∃x52wc:
 Nat,∃x52x:Option Addr,∃x52xn:Nat,∃x52xc:Nat,∃x52y:Option Addr,∃x52yn:Nat,∃x52yc:Nat,∃x52z:Option Addr,∃x52zn:Nat,∃x52zc:
 Nat,∃x52_26:Option Addr,∃x52_26n:Nat,∃x52_26c:Nat,∃x52_27:Option Addr,∃x52_27n:Nat,∃x52_27c:Nat,∃x52_28:Option Addr,∃x52_28n:
 Nat,∃x52_28c:Nat,∃x52_29:Option Addr,∃x52_29n:Nat,∃x52_29c:Nat,∃x52_30:Option Addr,∃x52_30n:Nat,∃x52_30c:Nat,∃x52_31:Option
 Addr,∃x52_31n:Nat,∃x52_31c:Nat,∃x52_32:Option Addr,∃x52_32n:Nat,∃x52_32c:Nat,∃x52_33:Option Addr,∃x52_33n:Nat,∃x52_33c:Nat,∃
 x52_34:Option Addr,∃x52_34n:Nat,∃x52_34c:Nat,∃x52_35:Option Addr,∃x52_35n:Nat,∃x52_35c:Nat,∃x52_36:Option Addr,∃x52_36n:Nat,∃
 x52_36c:Nat,∃x52_37:Option Addr,∃x52_37n:Nat,∃x52_37c:Nat,∃x52_38:Option Addr,∃x52_38n:Nat,∃x52_38c:Nat,∃x52_39:Option Addr,∃
 x52_39n:Nat,∃x52_39c:Nat,∃x52_40:Option Addr,∃x52_40n:Nat,∃x52_40c:Nat,∃x52_41:Option Addr,∃x52_41n:Nat,∃x52_41c:Nat,∃x52_42:
 Option Addr,∃x52_42n:Nat,∃x52_42c:Nat,∃x52_43:Option Addr,∃x52_43n:Nat,∃x52_43c:Nat,∃x52_44:Option Addr,∃x52_44n:Nat,∃x52_44c:
 Nat,∃x52_45:Option Addr,∃x52_45n:Nat,∃x52_45c:Nat,∃x52_46:Option Addr,∃x52_46n:Nat,∃x52_46c:Nat,∃x52_47:Option Addr,∃x52_47n:
 Nat,∃x52_47c:Nat,∃x52_48:Option Addr,∃x52_48n:Nat,∃x52_48c:Nat,∃x52_49:Option Addr,∃x52_49n:Nat,∃x52_49c:Nat,∃x52_50:Option
 Addr,∃x52_50n:Nat,∃x52_50c:Nat,∃x52_51:Option Addr,∃x52_51n:Nat,∃x52_51c:Nat,∃x52_52:Option Addr,∃x52_52n:Nat,∃x52_52c:Nat,∃
 x52_53:Option Addr,∃x52_53n:Nat,∃x52_53c:Nat,∃x52_54:Option Addr,∃x52_54n:Nat,∃x52_54c:Nat,∃x52_55:Option Addr,∃x52_55n:Nat,∃
 x52_55c:Nat,∃x52_56:Option Addr,∃x52_56n:Nat,∃x52_56c:Nat,∃x52_57:Option Addr,∃x52_57n:Nat,∃x52_57c:Nat,∃x52_58:Option Addr,∃
 x52_58n:Nat,∃x52_58c:Nat,∃x52_59:Option Addr,∃x52_59n:Nat,∃x52_59c:Nat,∃x52_60:Option Addr,∃x52_60n:Nat,∃x52_60c:Nat,∃x52_61:
 Option Addr,∃x52_61n:Nat,∃x52_61c:Nat,∃x52_62:Option Addr,∃x52_62n:Nat,∃x52_62c:Nat,∃x52_63:Option Addr,∃x52_63n:Nat,∃x52_63c:
 Nat,∃x52_64:Option Addr,∃x52_64n:Nat,∃x52_64c:Nat,LdL w5 (p50.add 1) 0 [.slice x52a x52an x52ac,.slice x52b x52bn x52bc,.slice x52c x52cn x52cc,
 .slice x52d x52dn x52dc,.slice x52e x52en x52ec,.slice x52f x52fn x52fc,.slice x52g x52gn x52gc,.slice x52h x52hn x52hc,.slice x52i x52in x52ic,.slice
 x52j x52jn x52jc,.slice x52k x52kn x52kc,.slice x52l x52ln x52lc,.slice x52m x52mn x52mc,.slice x52n x52nn x52nc,.slice x52o x52on x52oc,.slice x52p
 x52pn x52pc,.slice x52q x52qn x52qc,.slice x52r x52rn x52rc,.slice x52s x52sn x52sc,.slice x52t x52tn x52tc,.slice x52u x52un x52uc,.slice x52v x52vn
 x52vc,.slice x52w x52wn x52wc,.slice x52x x52xn x52xc,.slice x52y x52yn x52yc,.slice x52z x52zn x52zc,.slice x52_26 x52_26n x52_26c,.slice x52_27 x52_27n
 x52_27c,.slice x52_28 x52_28n x52_28c,.slice x52_29 x52_29n x52_29c,.slice x52_30 x52_30n x52_30c,.slice x52_31 x52_31n x52_31c,.slice x52_32 x52_32n
 x52_32c,.slice x52_33 x52_33n x52_33c,.slice x52_34 x52_34n x52_34c,.slice x52_35 x52_35n x52_35c,.slice x52_36 x52_36n x52_36c,.slice x52_37 x52_37n
 x52_37c,.slice x52_38 x52_38n x52_38c,.slice x52_39 x52_39n x52_39c,.slice x52_40 x52_40n x52_40c,.slice x52_41 x52_41n x52_41c,.slice x52_42 x52_42n
 x52_42c,.slice x52_43 x52_43n x52_43c,.slice x52_44 x52_44n x52_44c,.slice x52_45 x52_45n x52_45c,.slice x52_46 x52_46n x52_46c,.slice x52_47 x52_47n
 x52_47c,.slice x52_48 x52_48n x52_48c,.slice x52_49 x52_49n x52_49c,.slice x52_50 x52_50n x52_50c,.slice x52_51 x52_51n x52_51c,.slice x52_52 x52_52n
 x52_52c,.slice x52_53 x52_53n x52_53c,.slice x52_54 x52_54n x52_54c,.slice x52_55 x52_55n x52_55c,.slice x52_56 x52_56n x52_56c,.slice x52_57 x52_57n
 x52_57c,.slice x52_58 x52_58n x52_58c,.slice x52_59 x52_59n x52_59c,.slice x52_60 x52_60n x52_60c,.slice x52_61 x52_61n x52_61c,.slice x52_62 x52_62n
 x52_62c,.slice x52_63 x52_63n x52_63c,.slice x52_64 x52_64n x52_64c]∧∃I2:Nat→Int→World→Prop,(∃m_5,I2 m_5 (0:Int) w5)∧∀m_4,∀x53:Int,∀
 w14,I2 m_4 x53 w14→(bif decide (x53<(65:Int))then(0≤x53∧x53<((65:Nat):Int)∧∃x55:Option Addr,∃x55n:Nat,∃x55c:Nat,([.slice x52a
 x52an x52ac,.slice x52b x52bn x52bc,.slice x52c x52cn x52cc,.slice x52d x52dn x52dc,.slice x52e x52en x52ec,.slice x52f x52fn x52fc,.slice x52g x52gn
 x52gc,.slice x52h x52hn x52hc,.slice x52i x52in x52ic,.slice x52j x52jn x52jc,.slice x52k x52kn x52kc,.slice x52l x52ln x52lc,.slice x52m x52mn x52mc,
 .slice x52n x52nn x52nc,.slice x52o x52on x52oc,.slice x52p x52pn x52pc,.slice x52q x52qn x52qc,.slice x52r x52rn x52rc,.slice x52s x52sn x52sc,.slice
 x52t x52tn x52tc,.slice x52u x52un x52uc,.slice x52v x52vn x52vc,.slice x52w x52wn x52wc,.slice x52x x52xn x52xc,.slice x52y x52yn x52yc,.slice x52z
 x52zn x52zc,.slice x52_26 x52_26n x52_26c,.slice x52_27 x52_27n x52_27c,.slice x52_28 x52_28n x52_28c,.slice x52_29 x52_29n x52_29c,.slice x52_30 x52_30n
 x52_30c,.slice x52_31 x52_31n x52_31c,.slice x52_32 x52_32n x52_32c,.slice x52_33 x52_33n x52_33c,.slice x52_34 x52_34n x52_34c,.slice x52_35 x52_35n
 x52_35c,.slice x52_36 x52_36n x52_36c,.slice x52_37 x52_37n x52_37c,.slice x52_38 x52_38n x52_38c,.slice x52_39 x52_39n x52_39c,.slice x52_40 x52_40n
 x52_40c,.slice x52_41 x52_41n x52_41c,.slice x52_42 x52_42n x52_42c,.slice x52_43 x52_43n x52_43c,.slice x52_44 x52_44n x52_44c,.slice x52_45 x52_45n
 x52_45c,.slice x52_46 x52_46n x52_46c,.slice x52_47 x52_47n x52_47c,.slice x52_48 x52_48n x52_48c,.slice x52_49 x52_49n x52_49c,.slice x52_50 x52_50n
 x52_50c,.slice x52_51 x52_51n x52_51c,.slice x52_52 x52_52n x52_52c,.slice x52_53 x52_53n x52_53c,.slice x52_54 x52_54n x52_54c,.slice x52_55 x52_55n
 x52_55c,.slice x52_56 x52_56n x52_56c,.slice x52_57 x52_57n x52_57c,.slice x52_58 x52_58n x52_58c,.slice x52_59 x52_59n x52_59c,.slice x52_60 x52_60n
 x52_60c,.slice x52_61 x52_61n x52_61c,.slice x52_62 x52_62n x52_62c,.slice x52_63 x52_63n x52_63c,.slice x52_64 x52_64n x52_64c]:List Value)[Int.toNat
 x53*1]? =some (.slice x55 x55n x55c)∧Calls prog n_slices_SortFunc_S_int_int #[.slice x55 x55n x55c,.func (.func n_states_made_1) #[] #[.pointer (some (A0
 b6))]] w14 (fun e_2 w15=>e_2= .returned (.tuple #[])∧∃m_6,m_6<m_4∧I2 m_6 (W64 (x53+(1:Int))) w15))else(R (.tuple #[.pointer (some (A0 b24)),
 .int .i64 (0:Int)]) w14))))))
def A_states_made:Ann:= {loop:=fun k=>cond (Nat.beq k 2) (some (1143914305352110080,[53],[.int .i64])) (cond (Nat.beq k 0) (some (562949819205120,[27],[.int .i64])) (none)),join:=fun k=>none,nf:=fun k=> []}
theorem S_states_made {x0:Option Addr} {x0n:Nat} {x0c:Nat} {x1:Int} {w:World} {R:Ending→World→Prop} (h:F_states_made x0 x0n x0c x1 w fun v w'=>R (.returned v) w'):Calls prog n_states_made #[.slice x0 x0n x0c,.int .i64 x1] w R:=vcS A_states_made func143 (by kernel_rfl) (by kernel_rfl) h
def F_states_coder_forth (x0:Option Addr) (x1:Int) (w:World) (R:Value→World→Prop):Prop:=
 ∀w1 b2,w1=w.alloc (.cells #[.pointer x0] t_P_states_coder)→b2=w.heap.size→∃x8:Option Addr,w1.cell? (A0 b2)=some (.pointer x8)∧OSome x8 fun p10
 =>0≤x1∧x1<((65:Nat):Int)∧∃x13:Option Addr,∃x13n:Nat,∃x13c:Nat,w1.cell? ((p10.add 1).add (Int.toNat x1*1))=some (.slice x13 x13n
 x13c)∧∃x16:Option Addr,w1.cell? (A0 b2)=some (.pointer x16)∧OSome x16 fun p17=>∃x19:Int,w1.cell? (p17.add 66)=some (.int .i64 x19)∧Calls
 prog n_slices_BinarySearchFunc_S_int_int_int #[.slice x13 x13n x13c,.int .i64 x19,.func (.func n_states_coder_forth_1) #[] #[.pointer (some (A0 b2))]] w1
 (fun e w2=>∃x21r0:Int,∃x21r1:Bool,e= .returned (.tuple #[.int .i64 x21r0,.bool x21r1])∧∀J5:Int→World→Prop,(∀x5:Int,∀w3,(∀w4,w4=
 w3.drew→∃x28:Option Addr,w4.cell? (A0 b2)=some (.pointer x28)∧OSome x28 fun p29=>∃x31:Option Addr,∃x31n:Nat,∃x31c:Nat,w4.cell? p29=
 some (.slice x31 x31n x31c)∧0≤x5∧x5<((x13n:Nat):Int)∧OSome x13 fun p34=>∃x35:Int,w4.cell? (p34.add (Int.toNat x5*1))=some (.int .i64
 x35)∧0≤x35∧x35<((x31n:Nat):Int)∧OSome x31 fun p36=>∃x37a:Int,∃x37b:Int,∃x37c:Int,LdL w4 (p36.add (Int.toNat x35*3)) 0 [.int .i64
 x37a,.int .i64 x37b,.int .i64 x37c]∧∀w5 b7,w5=w4.alloc (.cells #[.int .i64 0,.int .i64 0,.int .i64 0] t_api_Cell)→b7=w4.heap.size→((w4.cell?
 (A0 b2)=some (.pointer x28)→w5.cell? (A0 b2)=some (.pointer x28))∧(w4.cell? p29=some (.slice x31 x31n x31c)→w5.cell? p29=some (.slice x31 x31n
 x31c))∧(w4.cell? (p34.add (Int.toNat x5*1))=some (.int .i64 x35)→w5.cell? (p34.add (Int.toNat x5*1))=some (.int .i64 x35))∧(w4.cell? ((p36.add
 (Int.toNat x35*3)).add 0)=some (.int .i64 x37a)→w5.cell? ((p36.add (Int.toNat x35*3)).add 0)=some (.int .i64 x37a))∧(w4.cell? ((p36.add (Int.toNat
 x35*3)).add 1)=some (.int .i64 x37b)→w5.cell? ((p36.add (Int.toNat x35*3)).add 1)=some (.int .i64 x37b))∧(w4.cell? ((p36.add (Int.toNat x35*
 3)).add 2)=some (.int .i64 x37c)→w5.cell? ((p36.add (Int.toNat x35*3)).add 2)=some (.int .i64 x37c))∧True)∧Sto w5 (A0 b7) (.int .i64 x37a) fun w6
 =>Sto w6 ((A0 b7).add 1) (.int .i64 x37b) fun w7=>Sto w7 ((A0 b7).add 2) (.int .i64 x37c) fun w8=>(True)∧∀w9,w9=w8.drew→∃x38:Option Addr,
 w9.cell? (A0 b2)=some (.pointer x38)∧∃x39:Option Addr,w9.cell? (A0 b2)=some (.pointer x39)∧OSome x39 fun p40=>∃x42:Int,w9.cell? (p40.add 66)
 =some (.int .i64 x42)∧∃x44:Int,w9.cell? ((A0 b7).add 2)=some (.int .i64 x44)∧∃x47:Int,w9.cell? ((A0 b7).add 1)=some (.int .i64 x47)∧Calls
 prog n_states_coder_put #[.pointer x38,.int .i64 (W64 (x42-x44)),.int .i64 x47] w9 (fun e_2 w10=>e_2= .returned (.tuple #[])∧((w9.cell? (A0 b2)=some
 (.pointer x39)→w10.cell? (A0 b2)=some (.pointer x39))∧(w9.cell? (p40.add 66)=some (.int .i64 x42)→w10.cell? (p40.add 66)=some (.int .i64 x42))∧
 (w9.cell? ((A0 b7).add 2)=some (.int .i64 x44)→w10.cell? ((A0 b7).add 2)=some (.int .i64 x44))∧True)∧∀w11,w11=w10.drew→∃x49:Option Addr,
 w11.cell? (A0 b2)=some (.pointer x49)∧0≤x5∧x5<((x13n:Nat):Int)∧OSome x13 fun p52=>∃x53:Int,w11.cell? (p52.add (Int.toNat x5*1))=some
 (.int .i64 x53)∧OSome x49 fun p54=>Sto w11 (p54.add 66) (.int .i64 x53) fun w12=>(True)∧R (.tuple #[]) w12))→J5 x5 w3)→bif !x21r1 then(J5 (W64
 (x21r0-(1:Int))) w2)else(J5 x21r0 w2))
def A_states_coder_forth:Ann:= {loop:=fun k=>none,join:=fun k=>cond (Nat.beq k 5) (some (251658272,[5],[.int .i64])) (none),nf:=fun k=> []}
theorem S_states_coder_forth {x0:Option Addr} {x1:Int} {w:World} {R:Ending→World→Prop} (h:F_states_coder_forth x0 x1 w fun v w'=>R (.returned v) w'):Calls prog n_states_coder_forth #[.pointer x0,.int .i64 x1] w R:=vcS A_states_coder_forth func144 (by kernel_rfl) (by kernel_rfl) h
def F_states_coder_put (x0:Option Addr) (x1:Int) (x2:Int) (w:World) (R:Value→World→Prop):Prop:=
 ∀w1,w1=w.drew→OSome x0 fun p9=>∃x11:Option Addr,∃x11n:Nat,∃x11c:Nat,w1.cell? (p9.add 67)=some (.slice x11 x11n x11c)∧OSome x0 fun p17=>
 ∃x19:Option Addr,∃x19n:Nat,∃x19c:Nat,w1.cell? (p17.add 68)=some (.slice x19 x19n x19c)∧(∀w2 b14,w2=w1.alloc (.cells #[.int .u64 (U64 x1)]
 t_uint64)→b14=w1.heap.size→((w1.cell? (p9.add 67)=some (.slice x11 x11n x11c)→w2.cell? (p9.add 67)=some (.slice x11 x11n x11c))∧(w1.cell?
 (p17.add 68)=some (.slice x19 x19n x19c)→w2.cell? (p17.add 68)=some (.slice x19 x19n x19c))∧True)∧(∃x15:Option Addr,∃x15n:Nat,∃x15c:Nat,∃
 w3:World,(Builtin.append_ #[t_S_uint64,t_S_uint64] t_S_uint64 #[.slice x11 x11n x11c,.slice (some (A0 b14)) 1 1]).run prog w2= .ok (.slice x15 x15n x15c)
 w3∧((w2.cell? (p17.add 68)=some (.slice x19 x19n x19c)→w3.cell? (p17.add 68)=some (.slice x19 x19n x19c))∧True)∧∀w4 b21,w4=w3.alloc (.cells
 #[.int .i64 x2] t_int)→b21=w3.heap.size→((w3.cell? (p9.add 67)=some (.slice x11 x11n x11c)→w4.cell? (p9.add 67)=some (.slice x11 x11n x11c))∧
 (w3.cell? (p17.add 68)=some (.slice x19 x19n x19c)→w4.cell? (p17.add 68)=some (.slice x19 x19n x19c))∧True)∧∃x22:Option Addr,∃x22n:Nat,∃x22c
 :Nat,∃w5:World,(Builtin.append_ #[t_S_int,t_S_int] t_S_int #[.slice x19 x19n x19c,.slice (some (A0 b21)) 1 1]).run prog w4= .ok (.slice x22 x22n x22c)
 w5∧((w4.cell? (p9.add 67)=some (.slice x11 x11n x11c)→w5.cell? (p9.add 67)=some (.slice x11 x11n x11c))∧True)∧OSome x0 fun p23=>Sto w5 (p23.add
 67) (.slice x15 x15n x15c) fun w6=>(True)∧OSome x0 fun p25=>Sto w6 (p25.add 68) (.slice x22 x22n x22c) fun w7=>(True)∧R (.tuple #[]) w7)∧(∀w8
 b21_2,w8=w2.alloc (.cells #[.int .i64 x2] t_int)→b21_2=w2.heap.size→((w2.cell? (p9.add 67)=some (.slice x11 x11n x11c)→w8.cell? (p9.add 67)=some
 (.slice x11 x11n x11c))∧(w2.cell? (p17.add 68)=some (.slice x19 x19n x19c)→w8.cell? (p17.add 68)=some (.slice x19 x19n x19c))∧True)∧∃x15_2:
 Option Addr,∃x15_2n:Nat,∃x15_2c:Nat,∃w9:World,(Builtin.append_ #[t_S_uint64,t_S_uint64] t_S_uint64 #[.slice x11 x11n x11c,.slice (some (A0 b14))
 1 1]).run prog w8= .ok (.slice x15_2 x15_2n x15_2c) w9∧((w8.cell? (p17.add 68)=some (.slice x19 x19n x19c)→w9.cell? (p17.add 68)=some (.slice x19 x19n
 x19c))∧True)∧∃x22_2:Option Addr,∃x22_2n:Nat,∃x22_2c:Nat,∃w10:World,(Builtin.append_ #[t_S_int,t_S_int] t_S_int #[.slice x19 x19n x19c,
 .slice (some (A0 b21_2)) 1 1]).run prog w9= .ok (.slice x22_2 x22_2n x22_2c) w10∧((w9.cell? (p9.add 67)=some (.slice x11 x11n x11c)→w10.cell? (p9.add
 67)=some (.slice x11 x11n x11c))∧True)∧OSome x0 fun p23_2=>Sto w10 (p23_2.add 67) (.slice x15_2 x15_2n x15_2c) fun w11=>(True)∧OSome x0 fun p25_2
 =>Sto w11 (p25_2.add 68) (.slice x22_2 x22_2n x22_2c) fun w12=>(True)∧R (.tuple #[]) w12))∧(∀w13 b21_3,w13=w1.alloc (.cells #[.int .i64 x2] t_int)→
 b21_3=w1.heap.size→((w1.cell? (p9.add 67)=some (.slice x11 x11n x11c)→w13.cell? (p9.add 67)=some (.slice x11 x11n x11c))∧(w1.cell? (p17.add 68)=
 some (.slice x19 x19n x19c)→w13.cell? (p17.add 68)=some (.slice x19 x19n x19c))∧True)∧∀w14 b14_2,w14=w13.alloc (.cells #[.int .u64 (U64 x1)]
 t_uint64)→b14_2=w13.heap.size→((w13.cell? (p9.add 67)=some (.slice x11 x11n x11c)→w14.cell? (p9.add 67)=some (.slice x11 x11n x11c))∧(w13.cell?
 (p17.add 68)=some (.slice x19 x19n x19c)→w14.cell? (p17.add 68)=some (.slice x19 x19n x19c))∧True)∧∃x15_3:Option Addr,∃x15_3n:Nat,∃x15_3c:
 Nat,∃w15:World,(Builtin.append_ #[t_S_uint64,t_S_uint64] t_S_uint64 #[.slice x11 x11n x11c,.slice (some (A0 b14_2)) 1 1]).run prog w14= .ok (.slice
 x15_3 x15_3n x15_3c) w15∧((w14.cell? (p17.add 68)=some (.slice x19 x19n x19c)→w15.cell? (p17.add 68)=some (.slice x19 x19n x19c))∧True)∧∃x22_3:
 Option Addr,∃x22_3n:Nat,∃x22_3c:Nat,∃w16:World,(Builtin.append_ #[t_S_int,t_S_int] t_S_int #[.slice x19 x19n x19c,.slice (some (A0 b21_3)) 1
 1]).run prog w15= .ok (.slice x22_3 x22_3n x22_3c) w16∧((w15.cell? (p9.add 67)=some (.slice x11 x11n x11c)→w16.cell? (p9.add 67)=some (.slice x11 x11n
 x11c))∧True)∧OSome x0 fun p23_3=>Sto w16 (p23_3.add 67) (.slice x15_3 x15_3n x15_3c) fun w17=>(True)∧OSome x0 fun p25_3=>Sto w17 (p25_3.add 68)
 (.slice x22_3 x22_3n x22_3c) fun w18=>(True)∧R (.tuple #[]) w18)
theorem S_states_coder_put {x0:Option Addr} {x1:Int} {x2:Int} {w:World} {R:Ending→World→Prop} (h:F_states_coder_put x0 x1 x2 w fun v w'=>R (.returned v) w'):Calls prog n_states_coder_put #[.pointer x0,.int .i64 x1,.int .i64 x2] w R:=vcS noAnn func146 (by kernel_rfl) (by kernel_rfl) h
def F_states_opened (x0:ByteArray) (x1:Option Addr) (x2:Int) (w:World) (R:Value→World→Prop):Prop:=
 Calls prog n_vint_Get #[.string x0,.int .i64 (0:Int)] w (fun e w1=>∃x17r0:Int,∃x17r1:Int,∃x17r2:Int,e= .returned (.tuple #[.int .u64 x17r0,
 .int .i64 x17r1,.int .i64 x17r2])∧∀J4:World→Prop,(∀w2,(0≤(W64 (x17r1+(W64 x17r0)))∧(W64 (x17r1+(W64 x17r0)))≤((x0.size:Nat):Int)∧0≤
 x17r1∧x17r1≤((Int.toNat (W64 (x17r1+(W64 x17r0))):Nat):Int)∧Calls prog n_back_From #[.string (x0.extract (Int.toNat x17r1) (Int.toNat (W64 (x17r1+
 (W64 x17r0)))))] w2 (fun e_2 w3=>∃x40r0:Option Addr,∃x40r1:Int,e_2= .returned (.tuple #[.pointer x40r0,.int .i64 x40r1])∧bif x40r1 !=(0:Int)
 then(R (.tuple #[.pointer none,.bool false]) w3)else(0≤(W64 (x17r1+(W64 x17r0)))∧(W64 (x17r1+(W64 x17r0)))≤((x0.size:Nat):Int)∧Calls prog
 n_bits_From #[.string (x0.extract (Int.toNat (W64 (x17r1+(W64 x17r0)))) x0.size)] w3 (fun e_3 w4=>∃x53:Option Addr,e_3= .returned (.pointer x53)∧∀
 w5 b55,w5=w4.alloc (.cells #[.pointer x1,.pointer x40r0,.pointer x53] t_states_reader)→b55=w4.heap.size→Calls prog n_states_reader_take #[.pointer
 (some (A0 b55)),.int .i64 x2] w5 (fun e_4 w6=>∃x59r0:Int,∃x59r1:Bool,e_4= .returned (.tuple #[.int .i64 x59r0,.bool x59r1])∧OSome (some (A0
 b55)) fun p63=>∃x65:Option Addr,w6.cell? p63=some (.pointer x65)∧OSome x65 fun p67=>Sto w6 (p67.add 66) (.int .i64 x59r0) fun w7=>R (.tuple
 #[.pointer (some (A0 b55)),.bool x59r1]) w7)))))→J4 w2)→bif x17r2 !=(0:Int)then(R (.tuple #[.pointer none,.bool false]) w1)else(bif decide (x17r0
 >(U64 (W64 (((x0.size:Nat):Int)-x17r1))))then(R (.tuple #[.pointer none,.bool false]) w1)else(J4 w1)))
def A_states_opened:Ann:= {loop:=fun k=>none,join:=fun k=>cond (Nat.beq k 4) (some (4292870336,[],[])) (none),nf:=fun k=> []}
theorem S_states_opened {x0:ByteArray} {x1:Option Addr} {x2:Int} {w:World} {R:Ending→World→Prop} (h:F_states_opened x0 x1 x2 w fun v w'=>R (.returned v) w'):Calls prog n_states_opened #[.string x0,.pointer x1,.int .i64 x2] w R:=vcS A_states_opened func174 (by kernel_rfl) (by kernel_rfl) h
def F_states_reader_back (x0:Option Addr) (w:World) (R:Value→World→Prop):Prop:=
 ∀w1 b2,w1=w.alloc (.cells #[.int .i64 0,.int .u64 0] t_api_Part)→b2=w.heap.size→∀w2,w2=w1.drew→OSome x0 fun p9=>∃x11:Option Addr,w2.cell?
 p9=some (.pointer x11)∧OSome x11 fun p12=>∃x14:Option Addr,∃x14n:Nat,∃x14c:Nat,w2.cell? p12=some (.slice x14 x14n x14c)∧OSome x0 fun p16
 =>∃x18:Option Addr,w2.cell? p16=some (.pointer x18)∧OSome x18 fun p19=>∃x21:Int,w2.cell? (p19.add 66)=some (.int .i64 x21)∧0≤x21∧x21<
 ((x14n:Nat):Int)∧OSome x14 fun p22=>∃x23a:Int,∃x23b:Int,∃x23c:Int,LdL w2 (p22.add (Int.toNat x21*3)) 0 [.int .i64 x23a,.int .i64 x23b,
 .int .i64 x23c]∧∀w3 b4,w3=w2.alloc (.cells #[.int .i64 0,.int .i64 0,.int .i64 0] t_api_Cell)→b4=w2.heap.size→((w2.cell? p9=some (.pointer x11)
 →w3.cell? p9=some (.pointer x11))∧(w2.cell? p12=some (.slice x14 x14n x14c)→w3.cell? p12=some (.slice x14 x14n x14c))∧(w2.cell? p16=some
 (.pointer x18)→w3.cell? p16=some (.pointer x18))∧(w2.cell? (p19.add 66)=some (.int .i64 x21)→w3.cell? (p19.add 66)=some (.int .i64 x21))∧
 (w2.cell? ((p22.add (Int.toNat x21*3)).add 0)=some (.int .i64 x23a)→w3.cell? ((p22.add (Int.toNat x21*3)).add 0)=some (.int .i64 x23a))∧(w2.cell?
 ((p22.add (Int.toNat x21*3)).add 1)=some (.int .i64 x23b)→w3.cell? ((p22.add (Int.toNat x21*3)).add 1)=some (.int .i64 x23b))∧(w2.cell? ((p22.add
 (Int.toNat x21*3)).add 2)=some (.int .i64 x23c)→w3.cell? ((p22.add (Int.toNat x21*3)).add 2)=some (.int .i64 x23c))∧True)∧Sto w3 (A0 b4) (.int
 .i64 x23a) fun w4=>Sto w4 ((A0 b4).add 1) (.int .i64 x23b) fun w5=>Sto w5 ((A0 b4).add 2) (.int .i64 x23c) fun w6=>(True)∧∃x27:Int,w6.cell? ((A0
 b4).add 1)=some (.int .i64 x27)∧Calls prog n_states_reader_take #[.pointer x0,.int .i64 x27] w6 (fun e w7=>∃x28r0:Int,∃x28r1:Bool,e= .returned
 (.tuple #[.int .i64 x28r0,.bool x28r1])∧bif !x28r1 then(Sto w7 (A0 b2) (.int .i64 0) fun w8=>Sto w8 ((A0 b2).add 1) (.int .u64 0) fun w9=>∃r0a:Int,
 ∃r0b:Int,LdL w9 (A0 b2) 0 [.int .i64 r0a,.int .u64 r0b]∧R (.tuple #[.agg #[.int .i64 r0a,.int .u64 r0b],.bool false]) w9)else(∀w10,w10=w7.drew→
 OSome x0 fun p35=>∃x37:Option Addr,w10.cell? p35=some (.pointer x37)∧∃x39:Int,w10.cell? ((A0 b4).add 2)=some (.int .i64 x39)∧OSome x37 fun
 p42=>Sto w10 (p42.add 66) (.int .i64 (W64 (x39+x28r0))) fun w11=>(True)∧∀w12,w12=w11.drew→OSome x0 fun p46=>∃x48:Option Addr,w12.cell?
 (p46.add 2)=some (.pointer x48)∧∃x50:Int,w12.cell? (A0 b4)=some (.int .i64 x50)∧Calls prog n_bits_Reader_Get #[.pointer x48,.int .i64 (if (W64
 (x50-(1:Int)))>(0:Int)then(W64 (x50-(1:Int)))else(0:Int))] w12 (fun e_2 w13=>∃x53r0:Int,∃x53r1:Int,e_2= .returned (.tuple #[.int
 .u64 x53r0,.int .i64 x53r1])∧((w12.cell? (A0 b4)=some (.int .i64 x50)→w13.cell? (A0 b4)=some (.int .i64 x50))∧True)∧∃x57:Int,w13.cell? (A0 b4)
 =some (.int .i64 x57)∧Sto w13 (A0 b2) (.int .i64 x57) fun w14=>Sto w14 ((A0 b2).add 1) (.int .u64 x53r0) fun w15=>∃r0a_2:Int,∃r0b_2:Int,LdL w15
 (A0 b2) 0 [.int .i64 r0a_2,.int .u64 r0b_2]∧R (.tuple #[.agg #[.int .i64 r0a_2,.int .u64 r0b_2],.bool (x53r1==(0:Int))]) w15)))
theorem S_states_reader_back {x0:Option Addr} {w:World} {R:Ending→World→Prop} (h:F_states_reader_back x0 w fun v w'=>R (.returned v) w'):Calls prog n_states_reader_back #[.pointer x0] w R:=vcS noAnn func175 (by kernel_rfl) (by kernel_rfl) h
def F_states_made_1 (x0:Int) (x1:Int) (x2:Addr) (w:World) (R:Value→World→Prop):Prop:=
 ∀w1,w1=w.drew→∃x6:Option Addr,∃x6n:Nat,∃x6c:Nat,w1.cell? x2=some (.slice x6 x6n x6c)∧0≤x0∧x0<((x6n:Nat):Int)∧OSome x6 fun p8=>
 ∃x10:Int,w1.cell? ((p8.add (Int.toNat x0*3)).add 2)=some (.int .i64 x10)∧∃x11:Option Addr,∃x11n:Nat,∃x11c:Nat,w1.cell? x2=some (.slice
 x11 x11n x11c)∧0≤x1∧x1<((x11n:Nat):Int)∧OSome x11 fun p13=>∃x15:Int,w1.cell? ((p13.add (Int.toNat x1*3)).add 2)=some (.int .i64 x15)∧
 R (.int .i64 (W64 (x10-x15))) w1
theorem S_states_made_1 {x0:Int} {x1:Int} {x2:Addr} {w:World} {R:Ending→World→Prop} (h:F_states_made_1 x0 x1 x2 w fun v w'=>R (.returned v) w'):Calls prog n_states_made_1 #[.int .i64 x0,.int .i64 x1,.pointer (some x2)] w R:=vcS noAnn func206 (by kernel_rfl) (by kernel_rfl) h
def F_states_coder_forth_1 (x0:Int) (x1:Int) (x2:Addr) (w:World) (R:Value→World→Prop):Prop:=
 ∃x6:Option Addr,w.cell? x2=some (.pointer x6)∧OSome x6 fun p7=>∃x9:Option Addr,∃x9n:Nat,∃x9c:Nat,w.cell? p7=some (.slice x9 x9n x9c)∧0
 ≤x0∧x0<((x9n:Nat):Int)∧OSome x9 fun p11=>∃x13:Int,w.cell? ((p11.add (Int.toNat x0*3)).add 2)=some (.int .i64 x13)∧R (.int .i64 (W64 (x13
 -x1))) w
theorem S_states_coder_forth_1 {x0:Int} {x1:Int} {x2:Addr} {w:World} {R:Ending→World→Prop} (h:F_states_coder_forth_1 x0 x1 x2 w fun v w'=>R (.returned v) w'):Calls prog n_states_coder_forth_1 #[.int .i64 x0,.int .i64 x1,.pointer (some x2)] w R:=vcS noAnn func208 (by kernel_rfl) (by kernel_rfl) h
def F_states_reader_take (x0:Option Addr) (x1:Int) (w:World) (R:Value→World→Prop):Prop:=
 OSome x0 fun p10=>∃x12:Option Addr,w.cell? (p10.add 1)=some (.pointer x12)∧Calls prog n_back_Reader_Get #[.pointer x12,.int .i64 x1] w (fun e w1=>∃
 x14r0:Int,∃x14r1:Int,e= .returned (.tuple #[.int .u64 x14r0,.int .i64 x14r1])∧R (.tuple #[.int .i64 (W64 x14r0),.bool (x14r1==(0:Int))]) w1)
theorem S_states_reader_take {x0:Option Addr} {x1:Int} {w:World} {R:Ending→World→Prop} (h:F_states_reader_take x0 x1 w fun v w'=>R (.returned v) w'):Calls prog n_states_reader_take #[.pointer x0,.int .i64 x1] w R:=vcS noAnn func221 (by kernel_rfl) (by kernel_rfl) h
def F_back_Seal (x0:Option Addr) (x0n:Nat) (x0c:Nat) (x1:Option Addr) (x1n:Nat) (x1c:Nat) (w:World) (R:Value→World→Prop):Prop:=
 Calls prog n_bits_New #[] w (fun e w1=>∃x8:Option Addr,e= .returned (.pointer x8)∧∃I0:Nat→Int→World→Prop,(∃m_2,I0 m_2 (0:Int) w1)∧∀m,∀
 x16:Int,∀w2,I0 m x16 w2→(bif decide (x16<(if ((x1n:Nat):Int)<((x0n:Nat):Int)then((x1n:Nat):Int)else((x0n:Nat):Int)))then(∀w3,
 w3=w2.drew→0≤x16∧x16<((x0n:Nat):Int)∧OSome x0 fun p22=>∃x23:Int,w3.cell? (p22.add (Int.toNat x16*1))=some (.int .u64 x23)∧0≤x16∧
 x16<((x1n:Nat):Int)∧OSome x1 fun p26=>∃x27:Int,w3.cell? (p26.add (Int.toNat x16*1))=some (.int .i64 x27)∧Calls prog n_bits_Writer_Put
 #[.pointer x8,.int .u64 x23,.int .i64 x27] w3 (fun e_2 w4=>e_2= .returned (.tuple #[])∧(True)∧∃m_3,m_3<m∧I0 m_3 (W64 (x16+(1:Int))) w4))
 else(Calls prog n_bits_Writer_Put #[.pointer x8,.int .u64 (1:Int),.int .i64 (1:Int)] w2 (fun e_3 w5=>e_3= .returned (.tuple #[])∧Calls prog
 n_bits_Writer_Bytes #[.pointer x8] w5 (fun e_4 w6=>∃x33:ByteArray,e_4= .returned (.string x33)∧R (.string x33) w6)))))
def A_back_Seal:Ann:= {loop:=fun k=>cond (Nat.beq k 0) (some (1073676416,[16],[.int .i64])) (none),join:=fun k=>none,nf:=fun k=> []}
theorem S_back_Seal {x0:Option Addr} {x0n:Nat} {x0c:Nat} {x1:Option Addr} {x1n:Nat} {x1c:Nat} {w:World} {R:Ending→World→Prop} (h:F_back_Seal x0 x0n x0c x1 x1n x1c w fun v w'=>R (.returned v) w'):Calls prog n_back_Seal #[.slice x0 x0n x0c,.slice x1 x1n x1c] w R:=vcS A_back_Seal func147 (by kernel_rfl) (by kernel_rfl) h
def F_back_Reader_Left (x0:Option Addr) (w:World) (R:Value→World→Prop):Prop:=
 bif x0.isNone then(R (.int .i64 (0:Int)) w)else(OSome x0 fun p6=>∃x8:Int,w.cell? (p6.add 1)=some (.int .i64 x8)∧R (.int .i64 x8) w)
theorem S_back_Reader_Left {x0:Option Addr} {w:World} {R:Ending→World→Prop} (h:F_back_Reader_Left x0 w fun v w'=>R (.returned v) w'):Calls prog n_back_Reader_Left #[.pointer x0] w R:=vcS noAnn func176 (by kernel_rfl) (by kernel_rfl) h
def F_back_From (x0:ByteArray) (w:World) (R:Value→World→Prop):Prop:=
 ∀J3:World→Prop,(∀w1,(0≤(W64 (((x0.size:Nat):Int)-(1:Int)))∧∃c23:UInt8,x0[Int.toNat (W64 (((x0.size:Nat):Int)-(1:Int)))]? =some
 c23∧Calls prog n_bits_Len8 #[.int .u8 ((c23.toNat:Nat):Int)] w1 (fun e w2=>∃x24:Int,e= .returned (.int .i64 x24)∧∀w3 b27,w3=w2.alloc (.cells
 #[.string x0,.int .i64 (W64 ((W64 ((W64 ((8:Int)*((x0.size:Nat):Int)))-(9:Int)))+x24))] t_back_Reader)→b27=w2.heap.size→R (.tuple
 #[.pointer (some (A0 b27)),.int .i64 (0:Int)]) w3))→J3 w1)→bif x0.toList==(⟨#[]⟩:ByteArray).toList then(R (.tuple #[.pointer none,.int .i64 (3:
 Int)]) w)else(0≤(W64 (((x0.size:Nat):Int)-(1:Int)))∧∃c11:UInt8,x0[Int.toNat (W64 (((x0.size:Nat):Int)-(1:Int)))]? =some c11∧bif
 ((c11.toNat:Nat):Int)==(0:Int)then(R (.tuple #[.pointer none,.int .i64 (3:Int)]) w)else(J3 w))
def A_back_From:Ann:= {loop:=fun k=>none,join:=fun k=>cond (Nat.beq k 3) (some (16380,[],[])) (none),nf:=fun k=> []}
theorem S_back_From {x0:ByteArray} {w:World} {R:Ending→World→Prop} (h:F_back_From x0 w fun v w'=>R (.returned v) w'):Calls prog n_back_From #[.string x0] w R:=vcS A_back_From func220 (by kernel_rfl) (by kernel_rfl) h
def F_back_Reader_Get (x0:Option Addr) (x1:Int) (w:World) (R:Value→World→Prop):Prop:=
 bif x0.isNone then(R (.tuple #[.int .u64 (0:Int),.int .i64 (6:Int)]) w)else(∀J4:Bool→World→Prop,(∀x12:Bool,∀w1,(bif x12 then(R (.tuple
 #[.int .u64 (0:Int),.int .i64 (1:Int)]) w1)else(OSome x0 fun p22=>∃x24:Int,w1.cell? (p22.add 1)=some (.int .i64 x24)∧bif decide (x1>x24)
 then(R (.tuple #[.int .u64 (0:Int),.int .i64 (2:Int)]) w1)else(OSome x0 fun p27=>∃x29:Int,w1.cell? (p27.add 1)=some (.int .i64 x29)∧OSome x0
 fun p32=>Sto w1 (p32.add 1) (.int .i64 (W64 (x29-x1))) fun w2=>∃I1:Nat→Int→Int→World→Prop,(∃m_2,I1 m_2 (0:Int) (0:Int) w2)∧∀m,∀x6
 :Int,∀x35:Int,∀w3,I1 m x6 x35 w3→(bif decide (x35<x1)then(OSome x0 fun p39=>∃x41:Int,w3.cell? (p39.add 1)=some (.int .i64 x41)∧OSome x0
 fun p46=>∃x48:ByteArray,w3.cell? p46=some (.string x48)∧(8:Int)≠0∧0≤(W64 (Int.tdiv (W64 (x41+x35)) (8:Int)))∧∃c51:UInt8,
 x48[Int.toNat (W64 (Int.tdiv (W64 (x41+x35)) (8:Int)))]? =some c51∧(8:Int)≠0∧0≤(Int.tmod (W64 (x41+x35)) (8:Int))∧0≤x35∧∃m_3,m_3<m
 ∧I1 m_3 (orI .u64 x6 (shlI .u64 (U64 (andI .u8 (shrI .u8 ((c51.toNat:Nat):Int) (Int.tmod (W64 (x41+x35)) (8:Int))) (1:Int))) x35)) (W64 (x35+(1:
 Int))) w3)else(R (.tuple #[.int .u64 x6,.int .i64 (0:Int)]) w3)))))→J4 x12 w1)→bif decide (x1<(0:Int))then(J4 true w)else(J4 (decide (x1>(64
 :Int))) w))
def A_back_Reader_Get:Ann:= {loop:=fun k=>cond (Nat.beq k 1) (some (2305842974853956032,[6,35],[.int .u64,.int .i64])) (none),join:=fun k=>cond (Nat.beq k 4) (some (520192,[12],[.bool])) (none),nf:=fun k=> []}
theorem S_back_Reader_Get {x0:Option Addr} {x1:Int} {w:World} {R:Ending→World→Prop} (h:F_back_Reader_Get x0 x1 w fun v w'=>R (.returned v) w'):Calls prog n_back_Reader_Get #[.pointer x0,.int .i64 x1] w R:=vcS A_back_Reader_Get func236 (by kernel_rfl) (by kernel_rfl) h
def F_slices_BinarySearchFunc_S_int_int_int (x0:Option Addr) (x0n:Nat) (x0c:Nat) (x1:Int) (x2:Nat) (x2f:Array Value) (x2k:Array Value) (w:World)
 (R:Value→World→Prop):Prop:=
 ∃I0:Nat→Int→Int→World→Prop,(∃m_2,I0 m_2 (0:Int) ((x0n:Nat):Int) w)∧∀m,∀x9:Int,∀x10:Int,∀w1,I0 m x9 x10 w1→(bif decide (x9<
 x10)then(0≤(1:Int)∧0≤(W64 (shrI .u64 (U64 (W64 (x9+x10))) (1:Int)))∧(W64 (shrI .u64 (U64 (W64 (x9+x10))) (1:Int)))<((x0n:Nat):Int)∧
 OSome x0 fun p27=>∃x28:Int,w1.cell? (p27.add (Int.toNat (W64 (shrI .u64 (U64 (W64 (x9+x10))) (1:Int)))*1))=some (.int .i64 x28)∧cond (fok x2)
 (Calls prog x2 (x2f.toList++([.int .i64 x28,.int .i64 x1]:List Value)++x2k.toList).toArray w1 (fun e w2=>∃x30:Int,e= .returned (.int .i64 x30)∧
 bif decide (x30<(0:Int))then(∃m_3,m_3<m∧I0 m_3 (W64 ((W64 (shrI .u64 (U64 (W64 (x9+x10))) (1:Int)))+(1:Int))) x10 w2)else(∃m_3,m_3<m
 ∧I0 m_3 x9 (W64 (shrI .u64 (U64 (W64 (x9+x10))) (1:Int))) w2))) False)else(bif decide (x9<((x0n:Nat):Int))then(0≤x9∧x9<((x0n:Nat):Int)
 ∧OSome x0 fun p43=>∃x44:Int,w1.cell? (p43.add (Int.toNat x9*1))=some (.int .i64 x44)∧cond (fok x2) (Calls prog x2 (x2f.toList++([.int .i64 x44,
 .int .i64 x1]:List Value)++x2k.toList).toArray w1 (fun e_2 w3=>∃x46:Int,e_2= .returned (.int .i64 x46)∧R (.tuple #[.int .i64 x9,.bool (x46==(0
 :Int))]) w3)) False)else(R (.tuple #[.int .i64 x9,.bool false]) w1)))
def A_slices_BinarySearchFunc_S_int_int_int:Ann:= {loop:=fun k=>cond (Nat.beq k 0) (some (34359709184,[9,10],[.int .i64,.int .i64])) (none),join:=fun k=>none,nf:=fun k=> []}
theorem S_slices_BinarySearchFunc_S_int_int_int {x0:Option Addr} {x0n:Nat} {x0c:Nat} {x1:Int} {x2:Nat} {x2f:Array Value} {x2k:Array Value} {w:World} {R:Ending→World→Prop} (h:F_slices_BinarySearchFunc_S_int_int_int x0 x0n x0c x1 x2 x2f x2k w fun v w'=>R (.returned v) w'):Calls prog n_slices_BinarySearchFunc_S_int_int_int #[.slice x0 x0n x0c,.int .i64 x1,.func (.func x2) x2f x2k] w R:=vcS A_slices_BinarySearchFunc_S_int_int_int func207 (by kernel_rfl) (by kernel_rfl) h
end Go.Proofs.Tryz
namespace Go.Proofs.Tryz
open Go Go.RowKit Go.Proofs.VC
theorem meth_norm_classes_Len (w:World) {a:Option Addr} {n c b:Nat} (h:w.cell? (A0 b)=some (.slice a n c)):(method (prog.types.size+Made.depth) t_P_norm_classes (.pointer (some (A0 b))) "Len").run prog w= .ok (n_norm_classes_Len,.slice a n c) w:=
 run_method_val (i:=(prog.info? t_P_norm_classes).get (by kernel_rfl)) (m:=(((prog.info? t_P_norm_classes).get (by kernel_rfl)).methods.find? (·.name== "Len")).get (by kernel_rfl)) (by kernel_rfl) (by kernel_rfl) (by kernel_rfl) (by kernel_rfl) u_P_norm_classes w
  (by simp only [loadVar,Sem.run_bind,a_norm_classes,Result.andThen,Bool.false_eq_true,if_false,run_load,h])
theorem meth_norm_classes_Less (w:World) {a:Option Addr} {n c b:Nat} (h:w.cell? (A0 b)=some (.slice a n c)):(method (prog.types.size+Made.depth) t_P_norm_classes (.pointer (some (A0 b))) "Less").run prog w= .ok (n_norm_classes_Less,.slice a n c) w:=
 run_method_val (i:=(prog.info? t_P_norm_classes).get (by kernel_rfl)) (m:=(((prog.info? t_P_norm_classes).get (by kernel_rfl)).methods.find? (·.name== "Less")).get (by kernel_rfl)) (by kernel_rfl) (by kernel_rfl) (by kernel_rfl) (by kernel_rfl) u_P_norm_classes w
  (by simp only [loadVar,Sem.run_bind,a_norm_classes,Result.andThen,Bool.false_eq_true,if_false,run_load,h])
theorem meth_norm_classes_Swap (w:World) {a:Option Addr} {n c b:Nat} (h:w.cell? (A0 b)=some (.slice a n c)):(method (prog.types.size+Made.depth) t_P_norm_classes (.pointer (some (A0 b))) "Swap").run prog w= .ok (n_norm_classes_Swap,.slice a n c) w:=
 run_method_val (i:=(prog.info? t_P_norm_classes).get (by kernel_rfl)) (m:=(((prog.info? t_P_norm_classes).get (by kernel_rfl)).methods.find? (·.name== "Swap")).get (by kernel_rfl)) (by kernel_rfl) (by kernel_rfl) (by kernel_rfl) (by kernel_rfl) u_P_norm_classes w
  (by simp only [loadVar,Sem.run_bind,a_norm_classes,Result.andThen,Bool.false_eq_true,if_false,run_load,h])
theorem meth_norm_classes_Push (w:World) (b:Nat):(method (prog.types.size+Made.depth) t_P_norm_classes (.pointer (some (A0 b))) "Push").run prog w= .ok (n_norm_classes_Push,.pointer (some (A0 b))) w:=
 run_method_ptr (i:=(prog.info? t_P_norm_classes).get (by kernel_rfl)) (m:=(((prog.info? t_P_norm_classes).get (by kernel_rfl)).methods.find? (·.name== "Push")).get (by kernel_rfl)) (by kernel_rfl) (by kernel_rfl) (by kernel_rfl) (by kernel_rfl) u_P_norm_classes w
theorem meth_norm_classes_Pop (w:World) (b:Nat):(method (prog.types.size+Made.depth) t_P_norm_classes (.pointer (some (A0 b))) "Pop").run prog w= .ok (n_norm_classes_Pop,.pointer (some (A0 b))) w:=
 run_method_ptr (i:=(prog.info? t_P_norm_classes).get (by kernel_rfl)) (m:=(((prog.info? t_P_norm_classes).get (by kernel_rfl)).methods.find? (·.name== "Pop")).get (by kernel_rfl)) (by kernel_rfl) (by kernel_rfl) (by kernel_rfl) (by kernel_rfl) u_P_norm_classes w
theorem heap_norm_classes:HI t_P_norm_classes t_norm_classes t_norm_class t_norm_class ltG where
 len:=by
  rintro M w0 w L b l R ⟨a,n,c,rfl,H⟩ h
  refine⟨_,_,_,_,rfl,meth_norm_classes_Len w (H.cell 0 rfl rfl),by decide+kernel,S_norm_classes_Len ?_⟩
  exact h w ⟨a,_,c,rfl,H⟩
 less:=by
  rintro M w0 w L b l R i j ⟨a,n,c,rfl,H⟩ hi hj h
  refine⟨_,_,_,_,rfl,meth_norm_classes_Less w (H.cell 0 rfl rfl),by decide+kernel,S_norm_classes_Less ?_⟩
  unfold F_norm_classes_Less
  refine H.drew fun w1 _ H=>?_
  obtain⟨p,rfl,hi0,hi1⟩:=readP (H.slw 1 rfl) (gd_some hi)
  obtain⟨p',e,hj0,hj1⟩:=readP (H.slw 1 rfl) (gd_some hj)
  cases e
  have h':=h w1 ⟨_,_,c,rfl,H⟩
  simp only [Int.toNat_natCast,add_add]
  have bi:(0:Int)≤(i:Int)∧(i:Int)<((l.length:Nat):Int):=⟨by omega,by omega⟩
  have bj:(0:Int)≤(j:Int)∧(j:Int)<((l.length:Nat):Int):=⟨by omega,by omega⟩
  unfold ltG at h'
  refine⟨bi.1,bi.2,OSome.i ⟨_,hi1,bj.1,bj.2,OSome.i ⟨_,hj1,bif_i (fun c1=>?_) fun c1=>⟨bi.1,bi.2,OSome.i ⟨_,hi1,bj.1,bj.2,OSome.i ⟨_,hj1,bif_i (fun c2=>⟨bi.1,bi.2,OSome.i ⟨_,hi0,bj.1,bj.2,OSome.i ⟨_,hj0,?_⟩⟩⟩) fun c2=>?_⟩⟩⟩⟩⟩⟩
  · rw [c1]at h';exact h'
  · rw [c1,c2]at h';exact h'
  · rw [c1,c2]at h';exact h'
 swap:=by
  rintro M w0 w L b l R i j ⟨a,n,c,rfl,H⟩ hi hj h
  refine⟨_,_,_,_,rfl,meth_norm_classes_Swap w (H.cell 0 rfl rfl),by decide+kernel,S_norm_classes_Swap ?_⟩
  unfold F_norm_classes_Swap
  refine H.drew fun w1 _ H=>?_
  obtain⟨p,rfl,hi0,hi1⟩:=readP (H.slw 1 rfl) (gd_some hi)
  obtain⟨p',e,hj0,hj1⟩:=readP (H.slw 1 rfl) (gd_some hj)
  cases e
  have bi:(0:Int)≤(i:Int)∧(i:Int)<((l.length:Nat):Int):=⟨by omega,by omega⟩
  have bj:(0:Int)≤(j:Int)∧(j:Int)<((l.length:Nat):Int):=⟨by omega,by omega⟩
  simp only [Int.toNat_natCast,add_add]
  refine⟨bj.1,bj.2,OSome.i ⟨_,_,⟨by rw [add_zero'];exact hj0,by rw [add_add];exact hj1,trivial⟩,bi.1,bi.2,OSome.i ⟨_,_,⟨by rw [add_zero'];exact hi0,by rw [add_add];exact hi1,trivial⟩,bi.1,bi.2,OSome.i ?_⟩⟩⟩
  refine setA_set H rfl (by rw [prs_len];omega) fun w2 H=>⟨trivial,bj.1,bj.2,OSome.i ?_⟩
  rw [prs_set]at H
  refine setA_set H rfl (by rw [prs_len,List.length_set];omega) fun w3 H=>⟨trivial,h w3 ⟨some p,(swp l i j).length,c,rfl,?_⟩⟩
  rw [prs_set]at H
  rw [swp_len]
  exact H
 push:=by
  rintro M w0 w L b l R x ⟨a,n,c,rfl,H⟩ hl h
  refine⟨_,_,_,_,rfl,meth_norm_classes_Push w b,by decide+kernel,S_norm_classes_Push ?_⟩
  unfold F_norm_classes_Push
  refine⟨_,_,rfl,H.alloc fun w1 b4 _ H=>?_⟩
  simp only [A0_add]
  refine H.sto 0 rfl (by simp) fun w2 _ H=>?_
  refine H.sto 0 rfl (by simp) fun w3 _ H=>?_
  refine H.drew fun w4 _ H=>OSome.i ⟨_,_,_,H.cell 1 rfl rfl,_,_,⟨by rw [A0_add];exact H.cell 0 rfl rfl,by rw [A0_add];exact H.cell 0 rfl rfl,trivial⟩,?_⟩
  refine H.alloc fun w5 b17 hf H=>⟨⟨hf.cell0,trivial⟩,?_⟩
  refine app H (j:=2) rfl u_norm_classes i_norm_class rfl (by decide) rfl (by simp [Value.oneCell']) (by omega) (by decide) fun a' c2 w6 H=>⟨⟨fun _=>H.cell 0 rfl rfl,fun _=>H.cell 0 rfl rfl,trivial⟩,OSome.i ?_⟩
  refine H.sto 1 rfl (by simp) fun w7 _ H=>⟨trivial,h w7 ⟨a',l.length+1,c2,by simp,?_⟩⟩
  rw [prs_app]
  exact H.tail
 pop:=by
  rintro M w0 w L b l R ⟨a,n,c,rfl,H⟩ h0 h
  refine⟨_,_,_,_,rfl,meth_norm_classes_Pop w b,by decide+kernel,S_norm_classes_Pop ?_⟩
  unfold F_norm_classes_Pop
  have hm:l.length≤9223372036854775807:=by have:=H.capMax 1 rfl;simp only [maxLen]at this;exact this
  have hn:=H.cap 1 rfl
  have e1:W64 ((l.length:Int)-1)=((l.length-1:Nat):Int):=W64_idn (by omega) (by omega)
  obtain⟨p,rfl,hi0,hi1⟩:=readP (H.slw 1 rfl) (gd_some (show l.length-1<l.length by omega))
  refine OSome.i ⟨_,_,_,H.cell 0 rfl rfl,OSome.i ⟨_,_,_,H.cell 0 rfl rfl,?_⟩⟩
  rw [e1]
  refine⟨by omega,by omega,OSome.i ⟨_,_,⟨by rw [add_zero',Int.toNat_natCast];exact hi0,by rw [add_add,Int.toNat_natCast];exact hi1,trivial⟩,?_⟩⟩
  refine H.alloc fun w1 b4 _ H=>?_
  simp only [A0_add]
  refine H.sto 0 rfl (by simp) fun w2 _ H=>?_
  refine H.sto 0 rfl (by simp) fun w3 _ H=>OSome.i ⟨_,_,_,H.cell 1 rfl rfl,by omega,by omega,OSome.i ?_⟩
  refine H.sto 1 rfl (by simp) fun w4 _ H=>⟨_,_,⟨by rw [A0_add];exact H.cell 0 rfl rfl,by rw [A0_add];exact H.cell 0 rfl rfl,trivial⟩,?_⟩
  refine h w4 ⟨some p,l.length-1,c,by rw [List.length_take];omega,?_⟩
  have H2:=H.tail.cut 1 rfl (l.length-1) (by omega) (fun h=>by cases h)
  rw [prs_take]at H2
  rw [Int.toNat_natCast,sA_zero]at H2
  exact H2
end Go.Proofs.Tryz
namespace Go.Proofs.Tryz
open Go Go.RowKit Go.Proofs.VC
def krOf (n:Nat):Nat:=if n=0 then 0 else 2^(15-n)
def kraft (l:List Nat):Nat:=(l.map krOf).sum
def manyL (l:List Nat):Nat:=l.countP fun n=>decide (0<n)
def mayL (l:List Nat):Bool:=l.length==65&&l.all (fun n=>decide (n≤15))&&(manyL l==0||kraft l==32768||(manyL l==1&&kraft l==16384))
theorem krOf_le (n:Nat):krOf n≤16384:=by
 unfold krOf
 split
 · omega
 · have:2^(15-n)≤2^14:=Nat.pow_le_pow_right (by decide) (by omega)
   omega
theorem kraft_app (a b:List Nat):kraft (a++b)=kraft a+kraft b:=by simp [kraft]
theorem manyL_app (a b:List Nat):manyL (a++b)=manyL a+manyL b:=by simp [manyL]
theorem kraft_le (l:List Nat):kraft l≤16384*l.length:=by
 induction l with
 |nil=>simp [kraft]
 |cons n l ih=>
  have h:=krOf_le n
  simp only [kraft,List.map_cons,List.sum_cons,List.length_cons]at ih ⊢
  omega
theorem manyL_le (l:List Nat):manyL l≤l.length:=List.countP_le_length
def ahead (l:List Nat) (d c:Nat):Bool:=decide (0<l.getD d 0)&&(decide (l.getD d 0<l.getD c 0)||(l.getD d 0==l.getD c 0&&decide (d<c)))
def prevK (l:List Nat) (c:Nat):Nat:=((List.range l.length).map fun d=>if ahead l d c then krOf (l.getD d 0)else 0).sum
def codeAt (l:List Nat) (c:Nat):Nat×Nat:=if l.getD c 0=0 then(0,0)else(prevK l c/2^(15-l.getD c 0),l.getD c 0)
def codesN (l:List Nat):List (Nat×Nat):=(List.range l.length).map (codeAt l)
theorem sum_perm {α:Type} {l l':List α} (h:l.Perm l') (f:α→Nat):(l.map f).sum=(l'.map f).sum:=by
 induction h with
 |nil=>rfl
 |cons x _ ih=>simp [ih]
 |swap x y l=>simp;omega
 |trans _ _ ih1 ih2=>exact ih1.trans ih2
end Go.Proofs.Tryz
namespace Go.Proofs.VC
open Go
def nb:List Bool→Nat
 | []=>0
 |b::l=>b.toNat+2*nb l
theorem nb_lt:∀l:List Bool,nb l<2^l.length
 | []=>by simp [nb]
 |b::l=>by
  have:=nb_lt l
  simp only [nb,List.length_cons,Nat.pow_succ]
  cases b<;>simp<;>omega
theorem nb_app:∀(a b:List Bool),nb (a++b)=nb a+2^a.length*nb b
 | [],b=>by simp [nb]
 |x::a,b=>by
  simp only [List.cons_append,nb,nb_app a b,List.length_cons,Nat.pow_succ]
  rw [Nat.mul_add,Nat.mul_comm (2^a.length) 2,Nat.mul_assoc,Nat.add_assoc]
theorem nb_snoc (l:List Bool) (b:Bool):nb (l++ [b])=nb l+2^l.length*b.toNat:=by
 rw [nb_app];simp [nb]
theorem nb_inj:∀ {a b:List Bool},a.length=b.length→nb a=nb b→a=b
 | [],[],_,_=>rfl
 |x::a,y::b,hl,h=>by
  simp only [nb]at h
  have e1:x=y:=by cases x<;>cases y<;>simp at h ⊢ <;>omega
  subst e1
  rw [nb_inj (a:=a) (b:=b) (by simpa using hl) (by omega)]
 | [],_::_,hl,_=>by simp at hl
 |_::_,[],hl,_=>by simp at hl
theorem nb_zero {l:List Bool}:nb l=0↔∀b∈l,b=false:=by
 induction l with
 |nil=>simp [nb]
 |cons x l ih=>
  simp only [nb,List.mem_cons,forall_eq_or_imp,←ih]
  cases x<;>simp<;>omega
def bitsOf (v n:Nat):List Bool:=(List.range n).map fun i=>v.testBit i
@[simp] theorem bitsOf_len (v n:Nat):(bitsOf v n).length=n:=by simp [bitsOf]
theorem bitsOf_succ (v n:Nat):bitsOf v (n+1)=bitsOf v n++ [v.testBit n]:=by simp [bitsOf,List.range_succ]
theorem bitsOf_cons (v n:Nat):bitsOf v (n+1)=v.testBit 0::bitsOf (v/2) n:=by
 simp only [bitsOf,List.range_succ_eq_map,List.map_cons,List.map_map]
 congr 1
 refine List.map_congr_left fun i _=>?_
 simp [Nat.testBit_succ]
theorem nb_bitsOf (v n:Nat):nb (bitsOf v n)=v%2^n:=by
 induction n generalizing v with
 |zero=>simp [bitsOf,nb,Nat.mod_one]
 |succ n ih=>
  rw [bitsOf_cons,nb,ih,Nat.pow_succ,Nat.mul_comm (2^n) 2,Nat.mod_mul]
  congr 1
  simp [Nat.testBit_zero]
  rcases Nat.mod_two_eq_zero_or_one v with h|h<;>simp [h]
theorem bitsOf_nb (l:List Bool):bitsOf (nb l) l.length=l:=nb_inj (by simp) (by rw [nb_bitsOf,Nat.mod_eq_of_lt (nb_lt l)])
theorem bitsOf_get {v n i:Nat} (h:i<n):(bitsOf v n)[i]? =some (v.testBit i):=by simp [bitsOf,h]
theorem bitsOf_zero (v:Nat):bitsOf v 0= []:=rfl
def packB (l:List Bool):List UInt8:=(List.range ((l.length+7)/8)).map fun i=>UInt8.ofNat (nb ((l.drop (8*i)).take 8))
@[simp] theorem packB_len (l:List Bool):(packB l).length=(l.length+7)/8:=by simp [packB]
theorem chunk_lt (l:List Bool) (i:Nat):nb ((l.drop (8*i)).take 8)<256:=by
 have h:=nb_lt ((l.drop (8*i)).take 8)
 have h2:((l.drop (8*i)).take 8).length≤8:=by rw [List.length_take];omega
 exact Nat.lt_of_lt_of_le h (Nat.pow_le_pow_right (n:=2) (by decide) h2)
theorem packB_get {l:List Bool} {i:Nat} (h:i<(l.length+7)/8):(packB l)[i]? =some (UInt8.ofNat (nb ((l.drop (8*i)).take 8))):=by simp [packB,h]
theorem packB_snoc0 (l:List Bool) (b:Bool) (h:l.length%8=0):packB (l++ [b])=packB l++ [UInt8.ofNat b.toNat]:=by
 have e1:((l++ [b]).length+7)/8=(l.length+7)/8+1:=by rw [List.length_append];simp;omega
 have e2:(l.length+7)/8=l.length/8:=by omega
 rw [packB,packB,e1,List.range_succ,List.map_append]
 refine congr (congrArg _ (List.map_congr_left fun i hi=>?_)) ?_
 · have:=List.mem_range.1 hi
   rw [List.drop_append_of_le_length (by omega),List.take_append_of_le_length (by rw [List.length_drop];omega)]
 · simp only [List.map_cons,List.map_nil]
   rw [e2,List.drop_append_of_le_length (by omega),List.drop_of_length_le (by omega)]
   simp [nb]
theorem packB_snoc (l:List Bool) (b:Bool) (h:l.length%8≠0):packB (l++ [b])=(packB l).set (l.length/8) (UInt8.ofNat (nb ((l.drop (8*(l.length/8))).take 8)+b.toNat*2^(l.length%8))):=by
 have e1:((l++ [b]).length+7)/8=(l.length+7)/8:=by rw [List.length_append];simp;omega
 have e2:(l.length+7)/8=l.length/8+1:=by omega
 apply List.ext_getElem
 · rw [List.length_set,packB_len,packB_len,e1]
 · intro i h1 h2
   rw [packB_len,e1]at h1
   rw [List.getElem_set]
   simp only [packB,List.getElem_map,List.getElem_range]
   by_cases hi:l.length/8=i
   · subst hi
     rw [if_pos rfl,List.drop_append_of_le_length (by omega)]
     have hlen:(l.drop (8*(l.length/8))).length=l.length%8:=by rw [List.length_drop];omega
     rw [List.take_of_length_le (by rw [List.length_append,hlen];simp;omega),List.take_of_length_le (by omega),nb_snoc,hlen,Nat.mul_comm b.toNat]
   · rw [if_neg hi]
     rw [List.drop_append_of_le_length (by omega),List.take_append_of_le_length (by rw [List.length_drop];omega)]
def bitsS (s:List UInt8):List Bool:=s.flatMap fun c=>bitsOf c.toNat 8
theorem bitsS_len (s:List UInt8):(bitsS s).length=8*s.length:=by
 induction s with
 |nil=>rfl
 |cons c s ih=>simp only [bitsS,List.flatMap_cons,List.length_append,bitsOf_len,List.length_cons]at ih ⊢;omega
theorem bitsS_app (a b:List UInt8):bitsS (a++b)=bitsS a++bitsS b:=by simp [bitsS]
theorem bitsS_get:∀ {s:List UInt8} {k:Nat} {c:UInt8},s[k/8]? =some c→(bitsS s)[k]? =some (c.toNat.testBit (k%8))
 | [],k,c,h=>by simp at h
 |x::s,k,c,h=>by
  have e:bitsS (x::s)=bitsOf x.toNat 8++bitsS s:=by simp [bitsS]
  rw [e]
  by_cases hk:k<8
  · have h0:k/8=0:=by omega
    rw [h0]at h
    simp at h
    subst h
    rw [List.getElem?_append_left (by simpa using hk),bitsOf_get hk,Nat.mod_eq_of_lt hk]
  · rw [List.getElem?_append_right (by simp;omega),bitsOf_len]
    have h1:k/8=(k-8)/8+1:=by omega
    rw [h1,List.getElem?_cons_succ]at h
    rw [bitsS_get h]
    congr 2
    omega
theorem bitsS_packB (l:List Bool):bitsS (packB l)=l++List.replicate (8*((l.length+7)/8)-l.length) false:=by
 apply List.ext_getElem?
 intro k
 by_cases hk:k<8*((l.length+7)/8)
 · have hi:k/8<(l.length+7)/8:=by omega
   rw [bitsS_get (packB_get hi),UInt8.toNat_ofNat_of_lt' (chunk_lt l _)]
   have hch:∀(m:List Bool) (j:Nat),(nb m).testBit j=m.getD j false:=by
    intro m j
    by_cases hj:j<m.length
    · have h1:=bitsOf_get (v:=nb m) hj
      rw [bitsOf_nb,List.getElem?_eq_getElem hj]at h1
      simp [hj,(Option.some.inj h1).symm]
    · have h1:(nb m).testBit j=false:=Nat.testBit_lt_two_pow (Nat.lt_of_lt_of_le (nb_lt m) (Nat.pow_le_pow_right (by decide) (by omega)))
      simp [h1,List.getElem?_eq_none (show m.length≤j by omega)]
   rw [hch]
   by_cases hl:k<l.length
   · rw [List.getElem?_append_left hl,List.getD_eq_getElem?_getD,List.getElem?_take,if_pos (by omega),List.getElem?_drop,show 8*(k/8)+k%8=k by omega,List.getElem?_eq_getElem hl]
     rfl
   · rw [List.getElem?_append_right (by omega),List.getElem?_replicate,if_pos (by omega),List.getD_eq_getElem?_getD,List.getElem?_take,if_pos (by omega),List.getElem?_drop,show 8*(k/8)+k%8=k by omega,List.getElem?_eq_none (by omega)]
     rfl
 · rw [List.getElem?_eq_none (by rw [bitsS_len,packB_len];omega),List.getElem?_eq_none (by rw [List.length_append,List.length_replicate];omega)]
end Go.Proofs.VC
namespace Go.Proofs.Tryz
open Go Go.RowKit Go.Proofs.VC
theorem sum_map_add {α:Type} (l:List α) (f g:α→Nat):(l.map fun x=>f x+g x).sum=(l.map f).sum+(l.map g).sum:=by
 induction l with
 |nil=>rfl
 |cons x l ih=>simp only [List.map_cons,List.sum_cons,ih];omega
theorem sum_map_le {α:Type} (l:List α) (f g:α→Nat) (h:∀x∈l,f x≤g x):(l.map f).sum≤(l.map g).sum:=by
 induction l with
 |nil=>exact Nat.le_refl _
 |cons x l ih=>
  have h1:=h x (by simp)
  have h2:=ih fun y hy=>h y (by simp [hy])
  simp only [List.map_cons,List.sum_cons];omega
theorem sum_zero {α:Type} (l:List α) (f:α→Nat) (h:∀x∈l,f x=0):(l.map f).sum=0:=by
 induction l with
 |nil=>rfl
 |cons x l ih=>
  have h1:=h x (by simp)
  have h2:=ih fun y hy=>h y (by simp [hy])
  simp only [List.map_cons,List.sum_cons];omega
theorem sum_one (n c:Nat) (f:Nat→Nat) (h:c<n):((List.range n).map fun e=>if e=c then f e else 0).sum=f c:=by
 induction n with
 |zero=>omega
 |succ n ih=>
  rw [List.range_succ,List.map_append,List.sum_append]
  simp only [List.map_cons,List.map_nil,List.sum_cons,List.sum_nil,Nat.add_zero]
  by_cases e:c=n
  · subst e
    rw [if_pos rfl]
    have:((List.range c).map fun e=>if e=c then f e else 0).sum=0:=by
     have e0:(List.range c).map (fun e=>if e=c then f e else 0)=(List.range c).map fun _=>0:=by
      apply List.map_congr_left
      intro x hx
      rw [if_neg]
      have:=List.mem_range.1 hx
      omega
     rw [e0]
     exact sum_zero _ _ fun _ _=>rfl
    omega
  · rw [if_neg (fun h=>e h.symm),ih (by omega),Nat.add_zero]
theorem kraft_range (l:List Nat):kraft l=((List.range l.length).map fun e=>krOf (l.getD e 0)).sum:=by
 rw [kraft]
 congr 1
 apply List.ext_getElem
 · simp
 · intro i h1 h2
   simp at h1
   simp [List.getD_eq_getElem?_getD,h1]
theorem ahead_irr (l:List Nat) (c:Nat):ahead l c c=false:=by simp [ahead]
theorem ahead_trans {l:List Nat} {a b c:Nat} (h1:ahead l a b=true) (h2:ahead l b c=true):ahead l a c=true:=by
 simp only [ahead,Bool.and_eq_true,Bool.or_eq_true,decide_eq_true_eq,beq_iff_eq]at*
 omega
theorem prevK_next {l:List Nat} {c d:Nat} (hc:c<l.length) (h:ahead l c d=true):prevK l c+krOf (l.getD c 0)≤prevK l d:=by
 rw [prevK,←sum_one l.length c (fun e=>krOf (l.getD e 0)) hc,←sum_map_add]
 refine sum_map_le _ _ _ fun e _=>?_
 by_cases e1:e=c
 · subst e1;rw [ahead_irr,h];simp
 · rw [if_neg e1,Nat.add_zero]
   split
   · rename_i h2
     rw [if_pos (ahead_trans h2 h)];exact Nat.le_refl _
   · exact Nat.zero_le _
theorem prevK_all {l:List Nat} {c:Nat} (hc:c<l.length):prevK l c+krOf (l.getD c 0)≤kraft l:=by
 rw [prevK,←sum_one l.length c (fun e=>krOf (l.getD e 0)) hc,←sum_map_add,kraft_range]
 refine sum_map_le _ _ _ fun e _=>?_
 by_cases e1:e=c
 · subst e1;rw [ahead_irr];simp
 · rw [if_neg e1,Nat.add_zero]
   split
   · exact Nat.le_refl _
   · exact Nat.zero_le _
theorem mayL_all {l:List Nat} (h:mayL l=true):kraft l≤32768∧l.length=65∧∀n∈l,n≤15:=by
 simp only [mayL,Bool.and_eq_true,Bool.or_eq_true,beq_iff_eq,List.all_eq_true,decide_eq_true_eq]at h
 refine⟨?_,h.1.1,h.1.2⟩
 rcases h.2 with(h2|h2)|h2
 · have:∀(l:List Nat),manyL l=0→kraft l=0:=by
    intro l
    induction l with
    |nil=>intro _;rfl
    |cons x l ih=>
     intro h0
     simp only [manyL,List.countP_cons]at h0
     have hx:x=0:=by
      by_cases hx:x=0
      · exact hx
      · rw [if_pos (by simp;omega)]at h0;omega
     have:=ih (by unfold manyL;omega)
     simp only [kraft,List.map_cons,List.sum_cons]at this ⊢
     rw [this,hx];rfl
   rw [this l h2];omega
 · omega
 · omega
theorem getD_15 {l:List Nat} (h:mayL l=true) (c:Nat):l.getD c 0≤15:=by
 rw [List.getD_eq_getElem?_getD]
 by_cases hc:c<l.length
 · rw [List.getElem?_eq_getElem hc]
   exact(mayL_all h).2.2 _ (List.getElem_mem hc)
 · rw [List.getElem?_eq_none (by omega)];simp
theorem getD_pos {l:List Nat} {c:Nat} (h:l.getD c 0≠0):c<l.length:=by
 by_cases hc:c<l.length
 · exact hc
 · rw [List.getD_eq_getElem?_getD,List.getElem?_eq_none (by omega)]at h;simp at h
theorem codeAt_len (l:List Nat) (c:Nat):(codeAt l c).2=l.getD c 0:=by
 unfold codeAt;split
 · rename_i h;rw [h]
 · rfl
theorem codeAt_lt {l:List Nat} (h:mayL l=true) (c:Nat):(codeAt l c).1<2^(codeAt l c).2:=by
 rw [codeAt_len]
 unfold codeAt
 split
 · rename_i h0;rw [h0];decide
 · rename_i h0
   have h15:=getD_15 h c
   have h1:=prevK_all (getD_pos h0)
   have h2:=(mayL_all h).1
   rw [krOf,if_neg h0]at h1
   rw [Nat.div_lt_iff_lt_mul (Nat.two_pow_pos _),←Nat.pow_add,show l.getD c 0+(15-l.getD c 0)=15 by omega]
   have:=Nat.two_pow_pos (15-l.getD c 0)
   have e:(2:Nat)^15=32768:=by decide
   omega
theorem code_apart {l:List Nat} (h:mayL l=true) {c d:Nat} (hc:l.getD c 0≠0) (hd:l.getD d 0≠0) (hcd:c≠d) (hle:l.getD c 0≤l.getD d 0):
 (codeAt l d).1/2^(l.getD d 0-l.getD c 0)≠(codeAt l c).1:=by
 have h15:=getD_15 h d
 have e1:codeAt l c=(prevK l c/2^(15-l.getD c 0),l.getD c 0):=by rw [codeAt,if_neg hc]
 have e2:codeAt l d=(prevK l d/2^(15-l.getD d 0),l.getD d 0):=by rw [codeAt,if_neg hd]
 rw [e1,e2]
 simp only
 rw [Nat.div_div_eq_div_mul,←Nat.pow_add,show 15-l.getD d 0+(l.getD d 0-l.getD c 0)=15-l.getD c 0 by omega]
 have hah:ahead l c d=true∨ahead l d c=true:=by
  simp only [ahead,Bool.and_eq_true,Bool.or_eq_true,decide_eq_true_eq,beq_iff_eq]
  omega
 have hp:=Nat.two_pow_pos (15-l.getD c 0)
 rcases hah with ha|ha
 · have h1:=prevK_next (getD_pos hc) ha
   rw [krOf,if_neg hc]at h1
   have h2:(prevK l c+2^(15-l.getD c 0))/2^(15-l.getD c 0)≤prevK l d/2^(15-l.getD c 0):=Nat.div_le_div_right h1
   rw [Nat.add_div_right _ hp]at h2
   omega
 · have hl:l.getD d 0=l.getD c 0:=by
    simp only [ahead,Bool.and_eq_true,Bool.or_eq_true,decide_eq_true_eq,beq_iff_eq]at ha
    omega
   have h1:=prevK_next (getD_pos hd) ha
   rw [krOf,if_neg hd,hl]at h1
   have h2:(prevK l d+2^(15-l.getD c 0))/2^(15-l.getD c 0)≤prevK l c/2^(15-l.getD c 0):=Nat.div_le_div_right h1
   rw [Nat.add_div_right _ hp]at h2
   omega
theorem codeAt_inj {l:List Nat} (h:mayL l=true) {c d:Nat} (hc:l.getD c 0≠0) (hd:l.getD d 0≠0) (e:codeAt l c=codeAt l d):c=d:=by
 by_cases hcd:c=d
 · exact hcd
 · have h2:l.getD c 0=l.getD d 0:=by rw [←codeAt_len,←codeAt_len,e]
   have:=code_apart h hc hd hcd (by omega)
   rw [h2,Nat.sub_self,Nat.pow_zero,Nat.div_one,e]at this
   exact absurd rfl this
def codeBits (c:Nat×Nat):List Bool:=(List.range c.2).map fun i=>c.1.testBit (c.2-1-i)
@[simp] theorem codeBits_len (c:Nat×Nat):(codeBits c).length=c.2:=by simp [codeBits]
end Go.Proofs.Tryz
namespace Go.Proofs.Tryz
open Go Go.RowKit Go.Proofs.VC
def accD (g:Nat→Option Nat) (s op:Nat):Nat→Option (Nat×Nat)
 |0=>none
 |i+1=>match g (op-i)with
  |none=>accD g s op i
  |some c=>match accD g s op i with
   |none=>some (c+s,op-i)
   |some (c0,k0)=>if c+s<c0 then some (c+s,op-i)else some (c0,k0)
def bst (S:Nat→Nat) (N:Nat):Nat→Nat→Nat→Option (Nat×Nat)
 |0,dn,op=>if dn=N∧op=0 then some (0,0)else none
 |f+1,dn,op=>if dn=N∧op=0 then some (0,0)else if op=0∨N-dn<op then none else
   accD (fun k=>(bst S N f (dn+k) (2*(op-k))).map (·.1)) (S dn) op (op+1)
theorem accD_some {g:Nat→Option Nat} {s op:Nat}:∀ {i c k:Nat},i≤op+1→accD g s op i=some (c,k)→∃c0,g k=some c0∧c=c0+s∧k≤op∧op<k+i
 |0,_,_,_,h=>by cases h
 |i+1,c,k,hi,h=>by
  rw [accD]at h
  cases hg:g (op-i)with
  |none=>
   rw [hg]at h
   obtain⟨c0,h1,h2,h3,h4⟩:=accD_some (i:=i) (by omega) h
   exact⟨c0,h1,h2,h3,by omega⟩
  |some x=>
   rw [hg]at h
   cases ha:accD g s op i with
   |none=>
    rw [ha]at h
    cases h
    exact⟨x,hg,rfl,by omega,by omega⟩
   |some y=>
    rw [ha]at h
    simp only at h
    split at h
    · cases h
      exact⟨x,hg,rfl,by omega,by omega⟩
    · rw [←ha]at h
      obtain⟨c0,h1,h2,h3,h4⟩:=accD_some (i:=i) (by omega) h
      exact⟨c0,h1,h2,h3,by omega⟩
theorem accD_none {g:Nat→Option Nat} {s op:Nat}:∀ {i:Nat},accD g s op i=none↔∀j,j<i→g (op-j)=none
 |0=>by simp [accD]
 |i+1=>by
  rw [accD]
  cases hg:g (op-i)with
  |none=>
   rw [accD_none (i:=i)]
   refine⟨fun h j hj=>?_,fun h j hj=>h j (by omega)⟩
   by_cases e:j=i
   · subst e;exact hg
   · exact h j (by omega)
  |some x=>
   refine⟨fun h=>?_,fun h=>by rw [h i (by omega)]at hg;cases hg⟩
   cases ha:accD g s op i with
   |none=>rw [ha]at h;cases h
   |some y=>rw [ha]at h;simp only at h;split at h<;>cases h
theorem bst_bound {S:Nat→Nat} {N B:Nat} (hS:∀i,S i≤B):∀ {f dn op c k:Nat},bst S N f dn op=some (c,k)→c≤f*B∧k≤op
 |0,dn,op,c,k,h=>by
  rw [bst]at h
  split at h
  · cases h;exact⟨Nat.zero_le _,Nat.zero_le _⟩
  · cases h
 |f+1,dn,op,c,k,h=>by
  rw [bst]at h
  split at h
  · cases h;exact⟨Nat.zero_le _,Nat.zero_le _⟩
  split at h
  · cases h
  obtain⟨c0,h1,h2,h3,h4⟩:=accD_some (Nat.le_refl _) h
  simp only [Option.map_eq_some_iff]at h1
  obtain⟨x,hx,rfl⟩:=h1
  obtain⟨x1,x2⟩:=x
  have:=bst_bound hS hx
  have h5:=hS dn
  rw [Nat.succ_mul]
  simp only at h2 ⊢
  omega
theorem bst_may {S:Nat→Nat} {N:Nat}:∀ {f dn op:Nat},dn≤N→(dn=N∧op=0)∨(0<op∧op≤N-dn∧N-dn≤op*2^(f-1)∧0<f)→bst S N f dn op≠none
 |0,dn,op,hd,h=>by
  rcases h with h|h
  · rw [bst,if_pos h];simp
  · omega
 |f+1,dn,op,hd,h=>by
  rcases h with h|⟨h1,h2,h3,_⟩
  · rw [bst,if_pos h];simp
  · rw [bst]
    split
    · simp
    rw [if_neg (by omega)]
    intro hn
    rw [accD_none]at hn
    rw [Nat.add_sub_cancel]at h3
    have key:∀k,k≤op→bst S N f (dn+k) (2*(op-k))≠none→False:=by
     intro k hk hne
     have:=hn (op-k) (by omega)
     rw [show op-(op-k)=k by omega,Option.map_eq_none_iff]at this
     exact hne this
    by_cases e1:N-dn=op
    · refine key op (Nat.le_refl _) (bst_may (by omega) (.inl ⟨by omega,by omega⟩))
    · have hf:0<f:=by
       rcases Nat.eq_zero_or_pos f with h0|h0
       · subst h0;simp at h3;omega
       · exact h0
      have hpow:2^f=2*2^(f-1):=by
       obtain⟨g,rfl⟩:∃g,f=g+1:=⟨f-1,by omega⟩
       rw [Nat.add_sub_cancel,Nat.pow_succ,Nat.mul_comm]
      by_cases e2:2*op≤N-dn
      · refine key 0 (Nat.zero_le _) (bst_may (by omega) (.inr ⟨by omega,by omega,?_,hf⟩))
        rw [hpow]at h3
        rw [Nat.add_zero,Nat.sub_zero,Nat.mul_comm 2 op,Nat.mul_assoc]
        exact h3
      · refine key (2*op-(N-dn)) (by omega) (bst_may (by omega) (.inr ⟨by omega,by omega,?_,hf⟩))
        have h4:2*(op-(2*op-(N-dn)))=N-(dn+(2*op-(N-dn))):=by omega
        rw [h4]
        exact Nat.le_mul_of_pos_right _ (Nat.two_pow_pos _)
theorem bst_next {S:Nat→Nat} {N f dn op c k:Nat} (h:bst S N (f+1) dn op=some (c,k)) (h0:¬(dn=N∧op=0)):0<op∧op≤N-dn∧k≤op∧∃x,bst S N f (dn+k) (2*(op-k))=some x:=by
 rw [bst,if_neg h0]at h
 split at h
 · cases h
 rename_i h1
 obtain⟨c0,h1,h2,h3,h4⟩:=accD_some (Nat.le_refl _) h
 simp only [Option.map_eq_some_iff]at h1
 obtain⟨x,hx,_⟩:=h1
 exact⟨by omega,by omega,h3,x,hx⟩
end Go.Proofs.Tryz
namespace Go.Proofs.Tryz
open Go Go.RowKit Go.Proofs.VC
variable {M:List Nat} {w0 w:World} {L:List En}
def atBack (bx p:Addr) (len:Nat) (q:Addr):Prop:=q=bx∨∃j,j<len∧q=p.add j
def atBack2 (bx p:Addr) (len:Nat) (q:Addr):Prop:=q=bx∨∃j,j<len∧(q=p.add (j*2)∨q=(p.add (j*2)).add 1)
theorem seq_back_int (bx p:Addr) (len cap:Nat) (zs:Nat→Int) (hlen:len<9223372036854775808) (w:World) (hb:w.cell? bx=some (.slice (some p) len cap)) (hc:∀j,j<len→w.cell? (p.add j)=some (.int .i64 (zs j))):
 SeqN prog n_slices_Backward_S_int_int_1 #[.pointer (some bx)] (fun k=> [.int .i64 ((len-1-k:Nat):Int),.int .i64 (zs (len-1-k))]) len (KpC (atBack bx p len)) w:=by
 intro l J Jx W hg hJ hJx hY h0
 have hf:Fr [] w W:=Fr.of_grown hg
 exact back_int_in l bx p len cap zs hlen (atBack bx p len) (.inl rfl) (fun j hj=> .inr ⟨j,hj,rfl⟩) J Jx hJ (fun k W1 hk hj=>hY k W1 hk hj) W (hf.cell0 hb) (fun j hj=>hf.cell0 (hc j hj)) h0
theorem seq_back_Part (bx p:Addr) (len cap:Nat) (zs:Nat→Int×Int) (hlen:len<9223372036854775808) (w:World) (hb:w.cell? bx=some (.slice (some p) len cap))
 (hc:∀j,j<len→w.cell? (p.add (j*2))=some (.int .i64 (zs j).1)∧w.cell? ((p.add (j*2)).add 1)=some (.int .u64 (zs j).2)):
 SeqN prog n_slices_Backward_S_api_Part_api_Part_1 #[.pointer (some bx)] (fun k=> [.int .i64 ((len-1-k:Nat):Int),.agg #[.int .i64 (zs (len-1-k)).1,.int .u64 (zs (len-1-k)).2]]) len (KpC (atBack2 bx p len)) w:=by
 intro l J Jx W hg hJ hJx hY h0
 have hf:Fr [] w W:=Fr.of_grown hg
 exact back_Part_in l bx p len cap zs hlen (atBack2 bx p len) (.inl rfl) (fun j hj=>⟨.inr ⟨j,hj,.inl rfl⟩,.inr ⟨j,hj,.inr rfl⟩⟩) J Jx hJ (fun k W1 hk hj=>hY k W1 hk hj) W (hf.cell0 hb)
  (fun j hj=>⟨hf.cell0 (hc j hj).1,hf.cell0 (hc j hj).2⟩) h0
theorem T_slices_Backward_int {R:Ending→World→Prop} {a:Option Addr} {n c:Nat} (H:Sx M w0 w L)
 (h:∀w' b,Fr [] w w'→Sx M w0 w' (.ob b (.cells #[.slice a n c] t_S_int (0,0))::L)→R (.returned (.func (.func n_slices_Backward_S_int_int_1) #[] #[.pointer (some (A0 b))])) w'):
 Calls prog n_slices_Backward_S_int_int #[.slice a n c] w R:=by
 refine S_slices_Backward_S_int_int ?_
 unfold F_slices_Backward_S_int_int
 exact H.alloc fun w1 b hf H=>h w1 b hf H
theorem T_slices_Backward_Part {R:Ending→World→Prop} {a:Option Addr} {n c:Nat} (H:Sx M w0 w L)
 (h:∀w' b,Fr [] w w'→Sx M w0 w' (.ob b (.cells #[.slice a n c] t_S_api_Part (0,0))::L)→R (.returned (.func (.func n_slices_Backward_S_api_Part_api_Part_1) #[] #[.pointer (some (A0 b))])) w'):
 Calls prog n_slices_Backward_S_api_Part_api_Part #[.slice a n c] w R:=by
 refine S_slices_Backward_S_api_Part_api_Part ?_
 unfold F_slices_Backward_S_api_Part_api_Part
 exact H.alloc fun w1 b hf H=>h w1 b hf H
end Go.Proofs.Tryz
namespace Go.Proofs.Tryz
open Go Go.RowKit Go.Proofs.VC
variable {M:List Nat} {w0 w:World} {L:List En}
theorem T_hist_Parts (a:Option Addr) (n c:Nat) (l:List Int) (hI:∀v∈l,I64 v) (w:World) (hs:SlI w a n l) (hl:l.length≤1000000):Calls prog n_hist_Parts #[.slice a n c] w
 fun e w'=>∃a' c',e= .returned (.slice a' l.length c')∧Ow [] w w' [] t_api_Part 2 a' l.length c' (pts (l.map splitN))∧Fr [] w w':=by
 obtain⟨rfl,hs⟩:=hs
 refine S_hist_Parts ?_
 unfold F_hist_Parts
 refine⟨fun m a' n' c' x w1=>∃i:Nat,x=(i:Int)∧m+i=l.length∧n'=i∧Sx [] w w1 [.ow t_api_Part 2 a' n' c' (pts ((l.take i).map splitN))],⟨l.length,0,rfl,rfl,rfl,(Sx.start [] w).nilw _ _⟩,?_⟩
 rintro m a' n' c' x w1 ⟨i,rfl,hm,rfl,H⟩
 refine bif_i (fun h=>?_) (fun h=>?_)
 · have hi:n'<l.length:=by have:=of_decide_eq_true h;omega
   refine⟨by omega,by omega,hs.read (i64s_get (List.getElem?_eq_getElem hi)) fun p hp hc=>⟨l[n'],by rw [Int.toNat_natCast,Nat.mul_one];exact H.fr.cell0 hc,?_⟩⟩
   refine Calls.sx H (T_zig_Split _ (hI _ (List.getElem_mem hi)) w1) fun w2 _ H=>⟨_,_,rfl,?_⟩
   refine H.alloc fun w3 b _ H=>?_
   refine app_Part H (j:=0) rfl (by omega) fun a2 c2 w4 H=>⟨m-1,by omega,n'+1,W64_succ (by omega),by omega,rfl,?_⟩
   rw [List.take_succ_eq_append_getElem hi,List.map_append]
   exact H
 · have hi:n'=l.length:=by have:=of_decide_eq_false h;omega
   subst hi
   rw [List.take_of_length_le (Nat.le_refl _)]at H
   exact⟨a',c',rfl,H.out 0 rfl,H.fr⟩
def valuesP:List Pt→Option (List Int)
 | []=>some []
 |p::l=>match joinP p with
  |none=>none
  |some v=>(valuesP l).map (v:: ·)
theorem valuesP_len:∀ {l:List Pt} {vs:List Int},valuesP l=some vs→vs.length=l.length
 | [],vs,h=>by cases h;rfl
 |p::l,vs,h=>by
  simp only [valuesP]at h
  split at h
  · cases h
  · obtain⟨us,hu,rfl⟩:=Option.map_eq_some_iff.1 h
    simp [valuesP_len hu]
theorem read2 {l:List Pt} {a:Option Addr} (h:Sl w a (pts l)) {i:Nat} {u:Pt} (hu:l[i]? =some u):∃p,a=some p∧w.cell? (p.add (i*2))=some (.int .i64 (u.1:Int))∧w.cell? (p.add (i*2+1))=some (.int .u64 (u.2:Int)):=by
 obtain⟨h1,h2⟩:=pts_get hu
 obtain⟨p,hp,hc⟩:=h _ _ h1
 obtain⟨p',hp',hc'⟩:=h _ _ h2
 rw [hp]at hp'
 cases hp'
 exact⟨p,hp,hc,hc'⟩
theorem T_hist_Values (a:Option Addr) (n c:Nat) (l:List Pt) (h1:∀p∈l,p.1<9223372036854775808∧p.2<WW) (w:World) (hn:n=l.length) (hs:Sl w a (pts l)) (hl:l.length≤1000000):Calls prog n_hist_Values #[.slice a n c] w
 fun e w'=>∃v,e= .returned v∧SlOk w' v (valuesP l)∧Fr [] w w':=by
 subst hn
 refine S_hist_Values ?_
 unfold F_hist_Values
 refine⟨fun m a' n' c' x w1=>∃(i:Nat) (vs:List Int),x=(i:Int)∧m+i=l.length∧n'=i∧vs.length=i∧valuesP l=(valuesP (l.drop i)).map (vs++ ·)∧Sx [] w w1 [.ow t_int64 1 a' n' c' (i64s vs)],
  ⟨l.length,0,[],rfl,rfl,rfl,rfl,by simp,(Sx.start [] w).nilw _ _⟩,?_⟩
 rintro m a' n' c' x w1 ⟨i,vs,rfl,hm,rfl,hvl,hval,H⟩
 refine bif_i (fun h=>?_) (fun h=>?_)
 · have hi:n'<l.length:=by have:=of_decide_eq_true h;omega
   obtain⟨p,hp,hc1,hc2⟩:=read2 hs (List.getElem?_eq_getElem hi)
   have hb:=h1 _ (List.getElem_mem hi)
   have hdrop:l.drop n'=l[n']::l.drop (n'+1):=List.drop_eq_getElem_cons hi
   rw [hdrop,valuesP]at hval
   refine⟨by omega,by omega,⟨p,hp,_,_,⟨by rw [add_zero',Int.toNat_natCast];exact H.fr.cell0 hc1,by rw [add_add,Int.toNat_natCast];exact H.fr.cell0 hc2,trivial⟩,?_⟩⟩
   refine H.alloc fun w2 b6 _ H=>?_
   simp only [A0_add]
   refine H.sto 0 rfl (by simp) fun w3 _ H=>?_
   refine H.sto 0 rfl (by simp) fun w4 _ H=>?_
   refine⟨_,_,⟨by rw [A0_add];exact H.cell 0 rfl rfl,by rw [A0_add];exact H.cell 0 rfl rfl,trivial⟩,?_⟩
   refine Calls.sx H (T_zig_Join l[n'] hb.1 hb.2 w4) fun w5 _ H=>?_
   cases hj:joinP l[n']with
   |none=>
    rw [hj]at hval
    exact⟨_,_,rfl,bif_i (fun _=>⟨_,rfl,by rw [hval];exact⟨none,0,0,rfl⟩,H.fr⟩) fun hh=>by simp at hh⟩
   |some v=>
    rw [hj]at hval
    refine⟨_,_,rfl,bif_i (fun hh=>by simp at hh) fun _=>?_⟩
    refine H.tail.alloc fun w6 b24 _ H=>?_
    refine app_int64 H (j:=0) rfl (by omega) fun a2 c2 w7 H=>⟨m-1,by omega,n'+1,vs++ [v],W64_succ (by omega),by omega,rfl,by simp [hvl],?_,H⟩
    rw [hval]
    simp only [Option.map_map]
    congr 1
    funext us
    simp
 · have hi:n'=l.length:=by have:=of_decide_eq_false h;omega
   subst hi
   rw [List.drop_length]at hval
   have hv:valuesP l=some vs:=by rw [hval];simp [valuesP]
   refine⟨_,rfl,?_,H.fr⟩
   rw [hv]
   refine⟨a',c',?_,rfl,H.slw 0 rfl⟩
   rw [hvl]
theorem mk_int (n:Nat):mkCells TAB t_int n=(i64s (List.replicate n 0)).toArray:=by
 apply Array.ext'
 show(List.range (n*1)).map (fun i=>(([Value.int .i64 0]:List Value)[i%1]?).getD default)=_
 rw [Nat.mul_one,i64s,List.map_replicate]
 apply List.ext_getElem
 · simp
 · intro i h1 h2
   simp [Nat.mod_one]
def histN (l:List Pt):List Nat:=(List.range 65).map fun c=>l.countP fun p=>p.1==c
theorem histN_len (l:List Pt):(histN l).length=65:=by simp [histN]
def nats (l:List Nat):List Int:=l.map fun(n:Nat)=>(n:Int)
@[simp] theorem nats_len (l:List Nat):(nats l).length=l.length:=by simp [nats]
theorem nats_get {l:List Nat} {i u:Nat} (h:l[i]? =some u):(nats l)[i]? =some (u:Int):=by simp [nats,h]
theorem i64s_set (l:List Int) (i:Nat) (v:Int):(i64s l).set i (.int .i64 v)=i64s (l.set i v):=by simp [i64s,List.map_set]
theorem nats_set (l:List Nat) (i:Nat) (v:Nat):(nats l).set i (v:Int)=nats (l.set i v):=by simp [nats,List.map_set]
theorem T_hist_Of (a:Option Addr) (n c:Nat) (l:List Pt) (h1:∀p∈l,p.1<9223372036854775808) (w:World) (hn:n=l.length) (hs:Sl w a (pts l)) (hl:l.length≤1000000):Calls prog n_hist_Of #[.slice a n c] w
 fun e w'=>∃b,e= .returned (.slice (some (A0 b)) 65 65)∧Sx [] w w' [.ob b (.cells (i64s (nats (histN l))).toArray t_int (0,0))]:=by
 subst hn
 refine S_hist_Of ?_
 unfold F_hist_Of
 refine⟨by decide,by decide,by decide,?_⟩
 refine(Sx.start [] w).alloc fun w1 b6 _ H=>?_
 rw [mk_int]at H
 refine⟨fun m x w2=>∃i:Nat,x=(i:Int)∧m+i=l.length∧Sx [] w w2 [.ob b6 (.cells (i64s (nats (histN (l.take i)))).toArray t_int (0,0))],⟨l.length,0,rfl,rfl,?_⟩,?_⟩
 · have:List.replicate (Int.toNat 65) (0:Int)=nats (histN (l.take 0)):=by
    rw [List.take_zero];decide
   rw [←this];exact H
 rintro m x w2 ⟨i,rfl,hm,H⟩
 refine bif_i (fun h=>?_) (fun h=>?_)
 · have hi:i<l.length:=by have:=of_decide_eq_true h;omega
   obtain⟨p,hp,hc1,hc2⟩:=read2 hs (List.getElem?_eq_getElem hi)
   have hb:=h1 _ (List.getElem_mem hi)
   refine⟨by omega,by omega,⟨p,hp,_,_,⟨by rw [add_zero',Int.toNat_natCast];exact H.fr.cell0 hc1,by rw [add_add,Int.toNat_natCast];exact H.fr.cell0 hc2,trivial⟩,?_⟩⟩
   refine H.alloc fun w3 b5 _ H=>?_
   simp only [A0_add]
   refine H.sto 0 rfl (by simp) fun w3 _ H=>?_
   refine H.sto 0 rfl (by simp) fun w4 _ H=>?_
   intro J6 hJ
   refine⟨_,H.cell 0 rfl rfl,bif_i (fun _=>⟨_,H.cell 0 rfl rfl,hJ _ _ ?_⟩) fun hh=>by have:=of_decide_eq_false hh;omega⟩
   have hstep:∀c:Nat,(l.take (i+1)).countP (fun p=>p.1==c)=(l.take i).countP (fun p=>p.1==c)+(if l[i].1=c then 1 else 0):=by
    intro c
    rw [List.take_succ_eq_append_getElem hi,List.countP_append,List.countP_cons,List.countP_nil]
    simp
   refine bif_i (fun h2=>?_) (fun h2=>?_)
   · have h65:l[i].1<65:=by have:=of_decide_eq_true h2;omega
     have hget:(histN (l.take i))[l[i].1]? =some ((l.take i).countP fun p=>p.1==l[i].1):=by simp [histN,h65]
     have hcnt:(l.take i).countP (fun p=>p.1==l[i].1)≤i:=Nat.le_trans List.countP_le_length (by rw [List.length_take];omega)
     refine⟨_,H.cell 0 rfl rfl,by omega,by show((l[i].1:Nat):Int)<65;omega,OSome.i ?_⟩
     simp only [A0_add,Int.toNat_natCast,Nat.mul_one]
     refine⟨_,H.cell 1 rfl (by rw [List.getElem?_toArray];exact i64s_get (nats_get hget)),by omega,by show((l[i].1:Nat):Int)<65;omega,OSome.i ?_⟩
     simp only [A0_add]
     refine H.sto 1 rfl (by simp [histN_len];omega) fun w7 _ H=>⟨m-1,by omega,i+1,W64_succ (by omega),by omega,?_⟩
     have H2:Sx [] w w7 [.ob b6 (.cells ((i64s (nats (histN (l.take i)))).toArray.setIfInBounds l[i].1 (.int .i64 (W64 ((((l.take i).countP fun p=>p.1==l[i].1):Nat)+(1:Int))))) t_int (0,0))]:=H.tail
     rw [W64_succ (by omega),List.setIfInBounds_toArray,i64s_set,nats_set]at H2
     have e:(histN (l.take i)).set l[i].1 ((l.take i).countP (fun p=>p.1==l[i].1)+1)=histN (l.take (i+1)):=by
      apply List.ext_getElem
      · simp [histN]
      · intro k hk1 hk2
        have hk:k<65:=by simpa [histN]using hk2
        rw [List.getElem_set]
        simp only [histN,List.getElem_map,List.getElem_range,hstep]
        split
        · rename_i e;rw [e]
        · rfl
     rw [e]at H2
     exact H2
   · have h65:¬l[i].1<65:=by have:=of_decide_eq_false h2;omega
     refine⟨m-1,by omega,i+1,W64_succ (by omega),by omega,?_⟩
     have e:histN (l.take i)=histN (l.take (i+1)):=by
      refine List.map_congr_left fun c hc=>?_
      rw [hstep,if_neg]
      · rfl
      · have:=List.mem_range.1 hc;omega
     rw [←e];exact H.tail
 · have hi:i=l.length:=by have:=of_decide_eq_false h;omega
   subst hi
   rw [List.take_of_length_le (Nat.le_refl _)]at H
   exact⟨b6,rfl,H⟩
end Go.Proofs.Tryz
namespace Go.Proofs.Tryz
open Go Go.RowKit Go.Proofs.VC
theorem meth_hist_places_Len (w:World) {a:Option Addr} {n c b:Nat} (h:w.cell? (A0 b)=some (.slice a n c)):(method (prog.types.size+Made.depth) t_P_hist_places (.pointer (some (A0 b))) "Len").run prog w= .ok (n_hist_places_Len,.slice a n c) w:=
 run_method_val (i:=(prog.info? t_P_hist_places).get (by kernel_rfl)) (m:=(((prog.info? t_P_hist_places).get (by kernel_rfl)).methods.find? (·.name== "Len")).get (by kernel_rfl)) (by kernel_rfl) (by kernel_rfl) (by kernel_rfl) (by kernel_rfl) u_P_hist_places w
  (by simp only [loadVar,Sem.run_bind,a_hist_places,Result.andThen,Bool.false_eq_true,if_false,run_load,h])
theorem meth_hist_places_Less (w:World) {a:Option Addr} {n c b:Nat} (h:w.cell? (A0 b)=some (.slice a n c)):(method (prog.types.size+Made.depth) t_P_hist_places (.pointer (some (A0 b))) "Less").run prog w= .ok (n_hist_places_Less,.slice a n c) w:=
 run_method_val (i:=(prog.info? t_P_hist_places).get (by kernel_rfl)) (m:=(((prog.info? t_P_hist_places).get (by kernel_rfl)).methods.find? (·.name== "Less")).get (by kernel_rfl)) (by kernel_rfl) (by kernel_rfl) (by kernel_rfl) (by kernel_rfl) u_P_hist_places w
  (by simp only [loadVar,Sem.run_bind,a_hist_places,Result.andThen,Bool.false_eq_true,if_false,run_load,h])
theorem meth_hist_places_Swap (w:World) {a:Option Addr} {n c b:Nat} (h:w.cell? (A0 b)=some (.slice a n c)):(method (prog.types.size+Made.depth) t_P_hist_places (.pointer (some (A0 b))) "Swap").run prog w= .ok (n_hist_places_Swap,.slice a n c) w:=
 run_method_val (i:=(prog.info? t_P_hist_places).get (by kernel_rfl)) (m:=(((prog.info? t_P_hist_places).get (by kernel_rfl)).methods.find? (·.name== "Swap")).get (by kernel_rfl)) (by kernel_rfl) (by kernel_rfl) (by kernel_rfl) (by kernel_rfl) u_P_hist_places w
  (by simp only [loadVar,Sem.run_bind,a_hist_places,Result.andThen,Bool.false_eq_true,if_false,run_load,h])
theorem meth_hist_places_Push (w:World) (b:Nat):(method (prog.types.size+Made.depth) t_P_hist_places (.pointer (some (A0 b))) "Push").run prog w= .ok (n_hist_places_Push,.pointer (some (A0 b))) w:=
 run_method_ptr (i:=(prog.info? t_P_hist_places).get (by kernel_rfl)) (m:=(((prog.info? t_P_hist_places).get (by kernel_rfl)).methods.find? (·.name== "Push")).get (by kernel_rfl)) (by kernel_rfl) (by kernel_rfl) (by kernel_rfl) (by kernel_rfl) u_P_hist_places w
theorem meth_hist_places_Pop (w:World) (b:Nat):(method (prog.types.size+Made.depth) t_P_hist_places (.pointer (some (A0 b))) "Pop").run prog w= .ok (n_hist_places_Pop,.pointer (some (A0 b))) w:=
 run_method_ptr (i:=(prog.info? t_P_hist_places).get (by kernel_rfl)) (m:=(((prog.info? t_P_hist_places).get (by kernel_rfl)).methods.find? (·.name== "Pop")).get (by kernel_rfl)) (by kernel_rfl) (by kernel_rfl) (by kernel_rfl) (by kernel_rfl) u_P_hist_places w
theorem heap_hist_places:HI t_P_hist_places t_hist_places t_hist_place t_hist_place ltG where
 len:=by
  rintro M w0 w L b l R ⟨a,n,c,rfl,H⟩ h
  refine⟨_,_,_,_,rfl,meth_hist_places_Len w (H.cell 0 rfl rfl),by decide+kernel,S_hist_places_Len ?_⟩
  exact h w ⟨a,_,c,rfl,H⟩
 less:=by
  rintro M w0 w L b l R i j ⟨a,n,c,rfl,H⟩ hi hj h
  refine⟨_,_,_,_,rfl,meth_hist_places_Less w (H.cell 0 rfl rfl),by decide+kernel,S_hist_places_Less ?_⟩
  unfold F_hist_places_Less
  refine H.drew fun w1 _ H=>?_
  obtain⟨p,rfl,hi0,hi1⟩:=readP (H.slw 1 rfl) (gd_some hi)
  obtain⟨p',e,hj0,hj1⟩:=readP (H.slw 1 rfl) (gd_some hj)
  cases e
  have h':=h w1 ⟨_,_,c,rfl,H⟩
  simp only [Int.toNat_natCast,add_add]
  have bi:(0:Int)≤(i:Int)∧(i:Int)<((l.length:Nat):Int):=⟨by omega,by omega⟩
  have bj:(0:Int)≤(j:Int)∧(j:Int)<((l.length:Nat):Int):=⟨by omega,by omega⟩
  unfold ltG at h'
  refine⟨bi.1,bi.2,OSome.i ⟨_,hi1,bj.1,bj.2,OSome.i ⟨_,hj1,bif_i (fun c1=>?_) fun c1=>⟨bi.1,bi.2,OSome.i ⟨_,hi1,bj.1,bj.2,OSome.i ⟨_,hj1,bif_i (fun c2=>⟨bi.1,bi.2,OSome.i ⟨_,hi0,bj.1,bj.2,OSome.i ⟨_,hj0,?_⟩⟩⟩) fun c2=>?_⟩⟩⟩⟩⟩⟩
  · rw [c1]at h';exact h'
  · rw [c1,c2]at h';exact h'
  · rw [c1,c2]at h';exact h'
 swap:=by
  rintro M w0 w L b l R i j ⟨a,n,c,rfl,H⟩ hi hj h
  refine⟨_,_,_,_,rfl,meth_hist_places_Swap w (H.cell 0 rfl rfl),by decide+kernel,S_hist_places_Swap ?_⟩
  unfold F_hist_places_Swap
  refine H.drew fun w1 _ H=>?_
  obtain⟨p,rfl,hi0,hi1⟩:=readP (H.slw 1 rfl) (gd_some hi)
  obtain⟨p',e,hj0,hj1⟩:=readP (H.slw 1 rfl) (gd_some hj)
  cases e
  have bi:(0:Int)≤(i:Int)∧(i:Int)<((l.length:Nat):Int):=⟨by omega,by omega⟩
  have bj:(0:Int)≤(j:Int)∧(j:Int)<((l.length:Nat):Int):=⟨by omega,by omega⟩
  simp only [Int.toNat_natCast,add_add]
  refine⟨bj.1,bj.2,OSome.i ⟨_,_,⟨by rw [add_zero'];exact hj0,by rw [add_add];exact hj1,trivial⟩,bi.1,bi.2,OSome.i ⟨_,_,⟨by rw [add_zero'];exact hi0,by rw [add_add];exact hi1,trivial⟩,bi.1,bi.2,OSome.i ?_⟩⟩⟩
  refine setA_set H rfl (by rw [prs_len];omega) fun w2 H=>⟨trivial,bj.1,bj.2,OSome.i ?_⟩
  rw [prs_set]at H
  refine setA_set H rfl (by rw [prs_len,List.length_set];omega) fun w3 H=>⟨trivial,h w3 ⟨some p,(swp l i j).length,c,rfl,?_⟩⟩
  rw [prs_set]at H
  rw [swp_len]
  exact H
 push:=by
  rintro M w0 w L b l R x ⟨a,n,c,rfl,H⟩ hl h
  refine⟨_,_,_,_,rfl,meth_hist_places_Push w b,by decide+kernel,S_hist_places_Push ?_⟩
  unfold F_hist_places_Push
  refine⟨_,_,rfl,H.alloc fun w1 b4 _ H=>?_⟩
  simp only [A0_add]
  refine H.sto 0 rfl (by simp) fun w2 _ H=>?_
  refine H.sto 0 rfl (by simp) fun w3 _ H=>?_
  refine H.drew fun w4 _ H=>OSome.i ⟨_,_,_,H.cell 1 rfl rfl,_,_,⟨by rw [A0_add];exact H.cell 0 rfl rfl,by rw [A0_add];exact H.cell 0 rfl rfl,trivial⟩,?_⟩
  refine H.alloc fun w5 b17 hf H=>⟨⟨hf.cell0,trivial⟩,?_⟩
  refine app H (j:=2) rfl u_hist_places i_hist_place rfl (by decide) rfl (by simp [Value.oneCell']) (by omega) (by decide) fun a' c2 w6 H=>⟨⟨fun _=>H.cell 0 rfl rfl,fun _=>H.cell 0 rfl rfl,trivial⟩,OSome.i ?_⟩
  refine H.sto 1 rfl (by simp) fun w7 _ H=>⟨trivial,h w7 ⟨a',l.length+1,c2,by simp,?_⟩⟩
  rw [prs_app]
  exact H.tail
 pop:=by
  rintro M w0 w L b l R ⟨a,n,c,rfl,H⟩ h0 h
  refine⟨_,_,_,_,rfl,meth_hist_places_Pop w b,by decide+kernel,S_hist_places_Pop ?_⟩
  unfold F_hist_places_Pop
  have hm:l.length≤9223372036854775807:=by have:=H.capMax 1 rfl;simp only [maxLen]at this;exact this
  have hn:=H.cap 1 rfl
  have e1:W64 ((l.length:Int)-1)=((l.length-1:Nat):Int):=W64_idn (by omega) (by omega)
  obtain⟨p,rfl,hi0,hi1⟩:=readP (H.slw 1 rfl) (gd_some (show l.length-1<l.length by omega))
  refine OSome.i ⟨_,_,_,H.cell 0 rfl rfl,OSome.i ⟨_,_,_,H.cell 0 rfl rfl,?_⟩⟩
  rw [e1]
  refine⟨by omega,by omega,OSome.i ⟨_,_,⟨by rw [add_zero',Int.toNat_natCast];exact hi0,by rw [add_add,Int.toNat_natCast];exact hi1,trivial⟩,?_⟩⟩
  refine H.alloc fun w1 b4 _ H=>?_
  simp only [A0_add]
  refine H.sto 0 rfl (by simp) fun w2 _ H=>?_
  refine H.sto 0 rfl (by simp) fun w3 _ H=>OSome.i ⟨_,_,_,H.cell 1 rfl rfl,by omega,by omega,OSome.i ?_⟩
  refine H.sto 1 rfl (by simp) fun w4 _ H=>⟨_,_,⟨by rw [A0_add];exact H.cell 0 rfl rfl,by rw [A0_add];exact H.cell 0 rfl rfl,trivial⟩,?_⟩
  refine h w4 ⟨some p,l.length-1,c,by rw [List.length_take];omega,?_⟩
  have H2:=H.tail.cut 1 rfl (l.length-1) (by omega) (fun h=>by cases h)
  rw [prs_take]at H2
  rw [Int.toNat_natCast,sA_zero]at H2
  exact H2
end Go.Proofs.Tryz
namespace Go.Proofs.Tryz
open Go Go.RowKit Go.Proofs.VC
variable {M:List Nat} {w0 w:World} {L:List En}
def leG (x y:Pr):Bool:= !ltG y x
theorem leG_trans (a b c:Pr) (h1:leG a b=true) (h2:leG b c=true):leG a c=true:=by
 simp only [leG,Bool.not_eq_true']at*
 exact TO_G.trans _ _ _ h1 h2
theorem leG_total (a b:Pr):(leG a b||leG b a)=true:=by
 simp only [leG,Bool.or_eq_true,Bool.not_eq_true']
 cases h:ltG b a with
 |false=>exact .inl rfl
 |true=>exact .inr (TO_G.asym _ _ h)
theorem leG_anti (a b:Pr) (h1:leG a b=true) (h2:leG b a=true):a=b:=by
 simp only [leG,Bool.not_eq_true',ltG_false]at h1 h2
 exact Prod.ext (by omega) (by omega)
def prsF:Nat→List Int→List Pr
 |_,[]=> []
 |k,n::l=>if 0<n then((k:Int),n)::prsF (k+1) l else prsF (k+1) l
theorem prsF_app (k:Nat) (a b:List Int):prsF k (a++b)=prsF k a++prsF (k+a.length) b:=by
 induction a generalizing k with
 |nil=>rfl
 |cons n a ih=>
  simp only [List.cons_append,prsF,ih,List.length_cons]
  rw [show k+(a.length+1)=k+1+a.length by omega]
  split<;>rfl
theorem prsF_len (k:Nat) (l:List Int):(prsF k l).length≤l.length:=by
 induction l generalizing k with
 |nil=>simp [prsF]
 |cons n l ih=>
  simp only [prsF]
  split
  · simp only [List.length_cons];have:=ih (k+1);omega
  · simp only [List.length_cons];have:=ih (k+1);omega
def orderP (freq:List Int):List Pr:=(prsF 0 freq).mergeSort leG
def orderN (freq:List Int):List Int:=(orderP freq).map (·.1)
theorem orderP_eq {freq:List Int} {l:List Pr} (hp:l.Perm (prsF 0 freq)) (hs:l.Pairwise fun x y=>leG x y=true):l=orderP freq:=
 List.Perm.eq_of_pairwise (fun a b _ _=>leG_anti a b) hs (List.pairwise_mergeSort leG_trans leG_total _) (hp.trans (List.mergeSort_perm _ _).symm)
theorem T_hist_Order (a:Option Addr) (n c:Nat) (freq:List Int) (w:World) (hs:SlI w a n freq) (hl:freq.length≤1000000):Calls prog n_hist_Order #[.slice a n c] w
 fun e w'=>∃a' c',e= .returned (.slice a' (orderN freq).length c')∧Ow [] w w' [] t_int 1 a' (orderN freq).length c' (i64s (orderN freq))∧Fr [] w w':=by
 obtain⟨rfl,hs⟩:=hs
 refine S_hist_Order ?_
 unfold F_hist_Order
 refine(Sx.start [] w).alloc fun w1 b9 _ H=>?_
 have H2:=H.asOw 2 0 0 (Nat.le_refl _) (by simp [maxLen]) rfl
 refine H2.alloc fun w2 b10 _ H=>?_
 refine⟨fun m x w3=>∃(i:Nat) (l:List Pr),x=(i:Int)∧m+i=freq.length∧HS [] w w3 [] t_hist_places t_hist_place b10 l∧l.Perm (prsF 0 (freq.take i))∧HeapN ltG l l.length,
  ⟨freq.length,0,[],rfl,rfl,⟨_,_,_,rfl,H⟩,by simp [prsF],fun k _ h=>absurd h (Nat.not_lt_zero _)⟩,?_⟩
 rintro m x w3 ⟨i,l,rfl,hm,H,hp,hh⟩
 refine bif_i (fun h=>?_) (fun h=>?_)
 · have hi:i<freq.length:=by have:=of_decide_eq_true h;omega
   have hfr:Fr [] w w3:=by obtain⟨_,_,_,_,H⟩:=H;exact H.fr
   have e0:freq.take (i+1)=freq.take i++ [freq[i]]:=List.take_succ_eq_append_getElem hi
   have e1:prsF 0 (freq.take (i+1))=prsF 0 (freq.take i)++(if 0<freq[i]then [((i:Int),freq[i])]else []):=by
    rw [e0,prsF_app,List.length_take,Nat.min_eq_left (by omega),Nat.zero_add]
    simp only [prsF]
   have hlen:l.length≤i:=by
    rw [hp.length_eq]
    exact Nat.le_trans (prsF_len _ _) (by rw [List.length_take];omega)
   refine⟨by omega,by omega,hs.read (i64s_get (List.getElem?_eq_getElem hi)) fun p hpp hc=>⟨freq[i],by rw [Int.toNat_natCast,Nat.mul_one];exact hfr.cell0 hc,?_⟩⟩
   refine bif_i (fun h2=>?_) (fun h2=>?_)
   · have h2':0<freq[i]:=of_decide_eq_true h2
     refine T_heap_Push (x:=((i:Int),freq[i])) heap_hist_places TO_G H hh (by omega) fun w4 l' H hp' hh'=>⟨rfl,m-1,by omega,i+1,l',W64_succ (by omega),by omega,H,?_,hh'⟩
     rw [e1,if_pos h2']
     exact hp'.trans ((hp.cons _).trans (List.perm_append_singleton _ _).symm)
   · have h2':¬0<freq[i]:=of_decide_eq_false h2
     refine⟨m-1,by omega,i+1,l,W64_succ (by omega),by omega,H,?_,hh⟩
     rw [e1,if_neg h2',List.append_nil]
     exact hp
 · have hi:i=freq.length:=by have:=of_decide_eq_false h;omega
   subst hi
   rw [List.take_of_length_le (Nat.le_refl _)]at hp
   have hlen:l.length≤freq.length:=by rw [hp.length_eq];exact prsF_len _ _
   refine⟨fun m x xn xc w5=>∃(d l:List Pr),m=l.length∧xn=d.length∧HS [] w w5 [.ow t_int 1 x xn xc (i64s (d.map (·.1)))] t_hist_places t_hist_place b10 l∧(d++l).Perm (prsF 0 freq)∧HeapN ltG l l.length∧
    d.Pairwise (fun x y=>leG x y=true)∧∀x∈d,∀y∈l,leG x y=true,⟨l.length,[],l,rfl,rfl,?_,by simpa using hp,hh,by simp,by simp⟩,?_⟩
   · obtain⟨a1,n1,c1,h1,H⟩:=H
     refine⟨a1,n1,c1,h1,(H.nilw t_int 1).perm ?_⟩
     exact(List.Perm.swap _ _ _).trans ((List.Perm.swap _ _ _).cons _)
   rintro m x xn xc w5 ⟨d,l,rfl,rfl,H,hp,hh,hd,hdl⟩
   have hl2:d.length+l.length≤freq.length:=by
    have:=hp.length_eq
    rw [List.length_append]at this
    rw [this];exact prsF_len _ _
   obtain⟨a1,n1,c1,rfl,H⟩:=H
   refine OSome.i ⟨_,_,_,H.cell 0 rfl rfl,S_hist_places_Len ⟨_,rfl,bif_i (fun h2=>?_) fun h2=>?_⟩⟩
   · have h2':0<l.length:=by have:=of_decide_eq_true h2;omega
     refine T_heap_Pop heap_hist_places TO_G (l:=l) ⟨a1,_,c1,rfl,H⟩ hh h2' (by omega) fun w7 p l' H hp' hh' hmin=>⟨_,rfl,p.1,p.2,rfl,?_⟩
     obtain⟨a2,n2,c2,rfl,H⟩:=H
     refine H.alloc fun w8 b7 _ H=>?_
     simp only [A0_add]
     refine H.sto 0 rfl (by simp) fun w9 _ H=>?_
     refine H.sto 0 rfl (by simp) fun w10 _ H=>⟨_,H.cell 0 rfl rfl,?_⟩
     refine H.alloc fun w11 b44 _ H=>?_
     refine app_int H (j:=3) (l:=d.map (·.1)) rfl (by omega) fun a3 c3 w12 H=>⟨l'.length,?_,d++ [p],l',rfl,by simp,⟨a2,_,c2,rfl,?_⟩,?_,hh',?_,?_⟩
     · have:=hp'.length_eq;simp only [List.length_cons]at this;omega
     · rw [List.map_append]
       exact H.tail
     · rw [List.append_assoc,List.singleton_append]
       exact((hp'.symm).append_left d).trans hp
     · rw [List.pairwise_append]
       exact⟨hd,by simp,fun x hx y hy=>by simp at hy;subst hy;exact hdl x hx _ (hp'.symm.subset (by simp))⟩
     · intro x hx y hy
       rcases List.mem_append.1 hx with hx|hx
       · exact hdl x hx y (hp'.symm.subset (List.mem_cons_of_mem _ hy))
       · simp at hx
         subst hx
         simp only [leG,Bool.not_eq_true']
         exact hmin y hy
   · have h2':l.length=0:=by have:=of_decide_eq_false h2;omega
     obtain rfl:=List.length_eq_zero_iff.1 h2'
     rw [List.append_nil]at hp
     have e:=orderP_eq hp hd
     have e2:(orderN freq).length=d.length:=by rw [orderN,←e,List.length_map]
     have e3:d.map (·.1)=orderN freq:=by rw [orderN,←e]
     rw [e2,←e3]
     exact⟨x,xc,rfl,H.out 2 rfl,H.fr⟩
end Go.Proofs.Tryz
namespace Go.Proofs.Tryz
open Go Go.RowKit Go.Proofs.VC
variable {M:List Nat} {w0 w:World} {L:List En}
theorem ldL_of {w:World} {p:Addr}:∀ {cs:List Value} {k:Nat},(∀j u,cs[j]? =some u→w.cell? (p.add (k+j))=some u)→LdL w p k cs
 | [],k,h=>trivial
 |c::cs,k,h=>⟨h 0 c rfl,ldL_of fun j u hj=>by have:=h (j+1) u (by simpa using hj);rwa [show k+(j+1)=k+1+j by omega]at this⟩
theorem Sx.ld (H:Sx M w0 w L) (j:Nat) {b:Nat} {cs:Array Value} {t:TypeId} {f:Nat×Nat} (hj:L[j]? =some (.ob b (.cells cs t f))):LdL w (A0 b) 0 cs.toList:=
 ldL_of fun i u hi=>by rw [Nat.zero_add,A0_add];exact H.cell j hj (by simpa using hi)
theorem T_merge_may_1 (n:Int) (w:World):Calls prog n_merge_may_1 #[.int .i64 n] w fun e w'=>e= .returned (.bool (decide (n<0)||decide (n>16777216)))∧Fr [] w w':=by
 refine S_merge_may_1 ?_
 unfold F_merge_may_1
 refine bif_i (fun h=>?_) fun h=>?_
 · rw [h];exact⟨rfl,Fr.refl _ _⟩
 · rw [h];exact⟨rfl,Fr.refl _ _⟩
theorem T_slices_IndexFunc_no (a:Option Addr) (n c:Nat) (l:List Int) (g:Nat) (hg:fok g=true) (f:Int→Bool) (hf:∀x w,Calls prog g #[.int .i64 x] w fun e w'=>e= .returned (.bool (f x))∧Fr [] w w') (w:World) (hs:SlI w a n l) (hl:l.length≤1000000) (hno:∀x∈l,f x=false):
 Calls prog n_slices_IndexFunc_S_int_int #[.slice a n c,.func (.func g) #[] #[]] w fun e w'=>e= .returned (.int .i64 (-1))∧Fr [] w w':=by
 obtain⟨rfl,hs⟩:=hs
 refine S_slices_IndexFunc_S_int_int ?_
 unfold F_slices_IndexFunc_S_int_int
 refine⟨fun m x w1=>∃i:Nat,x=(i:Int)∧m+i=l.length∧Fr [] w w1,⟨l.length,0,rfl,rfl,Fr.refl _ _⟩,?_⟩
 rintro m x w1 ⟨i,rfl,hm,hfr⟩
 refine bif_i (fun h=>?_) fun h=>⟨rfl,hfr⟩
 have hi:i<l.length:=by have:=of_decide_eq_true h;omega
 refine⟨by omega,by omega,hs.read (i64s_get (List.getElem?_eq_getElem hi)) fun p hp hc=>⟨_,by rw [Int.toNat_natCast,Nat.mul_one];exact hfr.cell0 hc,?_⟩⟩
 rw [hg]
 refine(hf l[i] w1).mono ?_
 rintro e w2 ⟨rfl,hf2⟩
 exact⟨_,rfl,bif_f (hno _ (List.getElem_mem hi)) ⟨m-1,by omega,i+1,W64_succ (by omega),by omega,hfr.trans hf2⟩⟩
theorem T_merge_may (a:Option Addr) (n c:Nat) (l:List Nat) (lim:Nat) (w:World) (hs:SlI w a n (nats l)) (h65:l.length=65) (hb:∀x∈l,x≤16777216) (hl:7≤lim∧lim≤15):
 Calls prog n_merge_may #[.slice a n c,.int .i64 (lim:Int)] w fun e w'=>e= .returned (.bool true)∧Fr [] w w':=by
 refine S_merge_may ?_
 unfold F_merge_may
 have hc:Calls prog n_slices_ContainsFunc_S_int_int #[.slice a n c,.func (.func n_merge_may_1) #[] #[]] w fun e w'=>e= .returned (.bool false)∧Fr [] w w':=by
  refine S_slices_ContainsFunc_S_int_int ?_
  unfold F_slices_ContainsFunc_S_int_int
  refine(T_slices_IndexFunc_no a n c (nats l) n_merge_may_1 (by decide) _ (fun x w=>T_merge_may_1 x w) w hs (by rw [nats_len];omega) fun x hx=>?_).mono ?_
  · simp only [nats,List.mem_map]at hx
    obtain⟨y,hy,rfl⟩:=hx
    have:=hb y hy
    simp;omega
  · rintro e w' ⟨rfl,hf⟩
    exact⟨_,rfl,rfl,hf⟩
 refine hc.mono ?_
 rintro e w1 ⟨rfl,hf⟩
 obtain⟨rfl,hs⟩:=hs
 rw [nats_len,h65]
 refine⟨_,rfl,bif_t rfl (bif_t rfl (bif_t (by simp;omega) ⟨?_,hf⟩))⟩
 have:decide ((lim:Int)≤15)=true:=by simp;omega
 rw [this]
abbrev Be:=Int×Int×Bool×Bool
def be4 (x:Be):List Value:= [.int .i64 x.1,.int .i64 x.2.1,.bool x.2.2.1,.bool x.2.2.2]
def bes (l:List Be):List Value:=l.flatMap be4
theorem bes_len (l:List Be):(bes l).length=l.length*4:=by
 induction l with
 |nil=>rfl
 |cons x l ih=>simp only [bes,List.flatMap_cons,List.length_append,List.length_cons]at ih ⊢;rw [ih];simp [be4];omega
theorem bes_get {l:List Be}:∀ {i:Nat} {u:Be},l[i]? =some u→∀j v,(be4 u)[j]? =some v→(bes l)[i*4+j]? =some v:=by
 induction l with
 |nil=>intro i u h;simp at h
 |cons p l ih=>
  intro i u h j v hv
  have e:bes (p::l)=be4 p++bes l:=rfl
  cases i with
  |zero=>
   simp at h;subst h
   rw [e,Nat.zero_mul,Nat.zero_add,List.getElem?_append_left (List.getElem?_eq_some_iff.1 hv).1]
   exact hv
  |succ i=>
   rw [e,List.getElem?_append_right (by simp [be4];omega),show(i+1)*4+j-(be4 p).length=i*4+j by simp [be4];omega]
   exact ih (by simpa using h) j v hv
theorem bes_set:∀(l:List Be) (i:Nat) (v:Be),(((((bes l).set (i*4) (.int .i64 v.1)).set (i*4+1) (.int .i64 v.2.1)).set (i*4+2) (.bool v.2.2.1)).set (i*4+3) (.bool v.2.2.2))=bes (l.set i v)
 | [],i,v=>by simp [bes]
 |p::l,0,v=>rfl
 |p::l,i+1,v=>by
  have e:∀(q:Be) (l:List Be),bes (q::l)= .int .i64 q.1:: .int .i64 q.2.1:: .bool q.2.2.1:: .bool q.2.2.2::bes l:=fun _ _=>rfl
  rw [e,show(i+1)*4=i*4+1+1+1+1 by omega,show i*4+1+1+1+1+1=(i*4+1)+1+1+1+1 by omega,show i*4+1+1+1+1+2=(i*4+2)+1+1+1+1 by omega,show i*4+1+1+1+1+3=(i*4+3)+1+1+1+1 by omega]
  simp only [List.set_cons_succ]
  rw [bes_set l i v,e]
def MS (M:List Nat) (w0 w:World) (L:List En) (bm bs bh:Nat) (S:List Nat) (lim:Nat) (had:List Be):Prop:=
 Sx M w0 w (.ob bm (.cells #[.slice (some (A0 bs)) S.length S.length,.int .i64 (lim:Int),.slice (some (A0 bh)) had.length had.length] t_merge_maker (0,0)):: .ob bs (.cells (i64s (nats S)).toArray t_int (0,0)):: .ob bh (.cells (bes had).toArray t_merge_best (0,0))::L)
theorem MS.alloc {bm bs bh lim:Nat} {S:List Nat} {had:List Be} (H:MS M w0 w L bm bs bh S lim had) {o:Obj} {G:World→Nat→Prop} (h:∀w1 b',MS M w0 w1 (.ob b' o::L) bm bs bh S lim had→G w1 b'):∀w1 b',w1=w.alloc o→b'=w.heap.size→G w1 b':=
 Sx.alloc H fun w1 b' _ H=>h w1 b' (H.perm ((List.Perm.swap _ _ _).trans (.cons _ ((List.Perm.swap _ _ _).trans (.cons _ (.swap _ _ _))))))
theorem MS.tail {bm bs bh lim:Nat} {S:List Nat} {had:List Be} {x:En} (H:MS M w0 w (x::L) bm bs bh S lim had):MS M w0 w L bm bs bh S lim had:=
 Sx.sub H (.cons_cons _ (.cons_cons _ (.cons_cons _ (.cons _ (.refl _)))))
theorem MS.call0 {bm bs bh lim:Nat} {S:List Nat} {had:List Be} (H:MS M w0 w L bm bs bh S lim had) {w':World} (hf:Fr [] w w'):MS M w0 w' L bm bs bh S lim had:=Sx.call0 H hf
theorem T_merge_maker_at {bm bs bh lim:Nat} {S:List Nat} {had:List Be} (H:MS M w0 w L bm bs bh S lim had) (d dn op:Nat) (hS:S.length≤1000) (hd:d≤100) (hdn:dn≤1000) (hop:op≤1000):
 Calls prog n_merge_maker_at #[.pointer (some (A0 bm)),.agg #[.int .i64 (d:Int),.int .i64 (dn:Int),.int .i64 (op:Int)]] w fun e w'=>e= .returned (.int .i64 (((d*S.length+dn)*S.length+op:Nat):Int))∧Fr [] w w':=by
 have hc:=Sx.cell H 0 (i:=0) rfl rfl
 refine S_merge_maker_at ?_
 unfold F_merge_maker_at
 refine(Sx.start [] w).alloc fun w1 b3 hf1 H1=>OSome.i ⟨_,_,_,hf1.cell0 hc,_,H1.cell 0 rfl rfl,_,by rw [A0_add];exact H1.cell 0 rfl rfl,_,by rw [A0_add];exact H1.cell 0 rfl rfl,?_,H1.fr⟩
 have h1:d*S.length≤100*1000:=Nat.mul_le_mul hd hS
 have h2:(d*S.length+dn)*S.length≤101000*1000:=Nat.mul_le_mul (by omega) hS
 have e1:W64 ((d:Int)*(S.length:Int))=((d*S.length:Nat):Int):=W64_idn (by push_cast;rfl) (by omega)
 have e2:W64 (((d*S.length:Nat):Int)+(dn:Int))=((d*S.length+dn:Nat):Int):=W64_idn (by push_cast;rfl) (by omega)
 have e3:W64 (((d*S.length+dn:Nat):Int)*(S.length:Int))=(((d*S.length+dn)*S.length:Nat):Int):=W64_idn (by push_cast;rfl) (by omega)
 have e4:W64 ((((d*S.length+dn)*S.length:Nat):Int)+(op:Int))=(((d*S.length+dn)*S.length+op:Nat):Int):=W64_idn (by push_cast;rfl) (by omega)
 rw [e1,e2,e3,e4]
end Go.Proofs.Tryz
