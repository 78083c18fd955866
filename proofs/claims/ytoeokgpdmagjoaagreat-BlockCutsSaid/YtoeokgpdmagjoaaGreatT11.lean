import Derived.Test.YtoeokgpdmagjoaaGreatT10
/-
A part of the proof: steps of the walk and plain laws.
-/
set_option linter.unusedVariables false
namespace Go.Proofs.Tryz
open Go Go.Proofs.VC
set_option maxRecDepth 100000
def F_l21_BlockCuts (x0:Option Addr) (x0n:Nat) (x0c:Nat) (x1:Int) (x2:Int) (x3:Int) (x4:Int) (x5:Int) (x6:Int) (w:World) (R:Value→World→
 Prop):Prop:=
 Calls prog n_l11_Numbers #[.slice x0 x0n x0c] w (fun e w1=>∃x31:Option Addr,∃x31n:Nat,∃x31c:Nat,e= .returned (.slice x31 x31n x31c)∧(4:Int)≠
 0∧bif ((x31n:Nat):Int)==(0:Int)then(Calls prog n_l21_awake #[] w1 (fun e_2 w2=>∃x38:Bool,e_2= .returned (.bool x38)∧R (.bool x38) w2))
 else(Calls prog n_l21_Options #[.int .u8 x1,.int .u8 x2,.int .u8 x3,.int .u8 (0:Int),.int .u64 x5] w1 (fun e_3 w3=>∃x45a:Int,∃x45b:Int,∃x45c
 :Int,∃x45d:Int,∃x45e:Int,e_3= .returned (.agg #[.int .i64 x45a,.int .i64 x45b,.int .i64 x45c,.int .i64 x45d,.int .u64 x45e])∧Calls prog
 n_block_Put #[.int .i64 (Int.tmod (W64 x4) (4:Int)),.agg #[.int .i64 x45a,.int .i64 x45b,.int .i64 x45c,.int .i64 x45d,.int .u64 x45e],.slice x31 x31n
 x31c] w3 (fun e_4 w4=>∃x47r0:ByteArray,∃x47r1:Int,e_4= .returned (.tuple #[.string x47r0,.int .i64 x47r1])∧Calls prog n_l21_Options #[.int .u8
 x1,.int .u8 x2,.int .u8 x3,.int .u8 (0:Int),.int .u64 x5] w4 (fun e_5 w5=>∃x56a:Int,∃x56b:Int,∃x56c:Int,∃x56d:Int,∃x56e:Int,e_5=
 .returned (.agg #[.int .i64 x56a,.int .i64 x56b,.int .i64 x56c,.int .i64 x56d,.int .u64 x56e])∧Calls prog n_block_Load #[.int .i64 (Int.tmod (W64 x4) (4
 :Int)),.agg #[.int .i64 x56a,.int .i64 x56b,.int .i64 x56c,.int .i64 x56d,.int .u64 x56e],.slice x31 x31n x31c] w5 (fun e_6 w6=>∃x58r0:ByteArray,∃
 x58r1:Int,e_6= .returned (.tuple #[.string x58r0,.int .i64 x58r1])∧∀J9:World→Prop,(∀w7,(((x47r0.size:Nat):Int)≠0∧0≤(Int.tmod (W64 x6)
 ((x47r0.size:Nat):Int))∧(Int.tmod (W64 x6) ((x47r0.size:Nat):Int))≤((x47r0.size:Nat):Int)∧Calls prog n_block_Get #[.string (x47r0.extract 0
 (Int.toNat (Int.tmod (W64 x6) ((x47r0.size:Nat):Int)))),.int .i64 (0:Int),.int .u64 x5,.int .i64 (100:Int)] w7 (fun e_7 w8=>∃x80r0:Int,∃x80r1
 :Option Addr,∃x80r1n:Nat,∃x80r1c:Nat,∃x80r2:Int,∃x80r3:Int,e_7= .returned (.tuple #[.int .i64 x80r0,.slice x80r1 x80r1n x80r1c,.int .i64
 x80r2,.int .i64 x80r3])∧∀J11:ByteArray→World→Prop,(∀x25:ByteArray,∀w9,(Calls prog n_block_Get #[.string x25,.int .i64 (0:Int),.int .u64
 x5,.int .i64 (100:Int)] w9 (fun e_8 w10=>∃x112r0:Int,∃x112r1:Option Addr,∃x112r1n:Nat,∃x112r1c:Nat,∃x112r2:Int,∃x112r3:Int,e_8=
 .returned (.tuple #[.int .i64 x112r0,.slice x112r1 x112r1n x112r1c,.int .i64 x112r2,.int .i64 x112r3])∧Calls prog n_l1_Err #[.int .i64 x80r3] w10 (fun e_9
 w11=>∃x118:Int,e_9= .returned (.int .i64 x118)∧bif x118==(2:Int)then(Calls prog n_l1_Err #[.int .i64 x112r3] w11 (fun e_10 w12=>∃x122:Int,
 e_10= .returned (.int .i64 x122)∧bif x122==(3:Int)then(Calls prog n_l21_awake #[] w12 (fun e_11 w13=>∃x126:Bool,e_11= .returned (.bool x126)∧
 R (.bool x126) w13))else(R (.bool false) w12)))else(R (.bool false) w11))))→J11 x25 w9)→∀w14,w14=w8.drew→(∀w15 b87,w15=w14.alloc (.cells
 #[.int .u8 (U8 (Int.tmod (W64 x4) (4:Int)))] t_uint8)→b87=w14.heap.size→(True)∧(∃x88:ByteArray,(Conv.bytesToString (.slice (some (A0 b87)) 1
 1)).run prog w15= .ok (.string x88) w15∧(True)∧Calls prog n_r1_PutVint #[.int .u64 (U64 ((x31n:Nat):Int))] w15 (fun e_12 w16=>∃x92:ByteArray,
 e_12= .returned (.string x92)∧(True)∧x88.size+x92.size≤strMax∧Calls prog n_r1_PutVint #[.int .u64 (U64 (W64 (((x58r0.size:Nat):Int)+(1:
 Int))))] w16 (fun e_13 w17=>∃x98:ByteArray,e_13= .returned (.string x98)∧(True)∧(x88++x92).size+x98.size≤strMax∧((x88++x92)++x98).size+
 x58r0.size≤strMax∧(((x88++x92)++x98)++x58r0).size+(⟨#[0]⟩:ByteArray).size≤strMax∧Calls prog n_r20_Plain #[.slice x31 x31n x31c] w17 (fun e_14
 w18=>∃x105:ByteArray,e_14= .returned (.string x105)∧(True)∧Calls prog n_r1_Sum #[.int .u64 x5,.string x105] w18 (fun e_15 w19=>∃x106:Int,e_15
 = .returned (.int .u64 x106)∧(True)∧Calls prog n_r1_Word #[.int .u64 x106] w19 (fun e_16 w20=>∃x107:ByteArray,e_16= .returned (.string x107)∧
 (True)∧((((x88++x92)++x98)++x58r0)++(⟨#[0]⟩:ByteArray)).size+x107.size≤strMax∧J11 (((((x88++x92)++x98)++x58r0)++(⟨#[0]⟩:ByteArray))
 ++x107) w20))))))∧(Calls prog n_r1_PutVint #[.int .u64 (U64 ((x31n:Nat):Int))] w15 (fun e_17 w21=>∃x92_2:ByteArray,e_17= .returned (.string
 x92_2)∧(True)∧(∃x88_2:ByteArray,(Conv.bytesToString (.slice (some (A0 b87)) 1 1)).run prog w21= .ok (.string x88_2) w21∧(True)∧x88_2.size+
 x92_2.size≤strMax∧Calls prog n_r1_PutVint #[.int .u64 (U64 (W64 (((x58r0.size:Nat):Int)+(1:Int))))] w21 (fun e_18 w22=>∃x98_2:ByteArray,e_18
 = .returned (.string x98_2)∧(True)∧(x88_2++x92_2).size+x98_2.size≤strMax∧((x88_2++x92_2)++x98_2).size+x58r0.size≤strMax∧(((x88_2++
 x92_2)++x98_2)++x58r0).size+(⟨#[0]⟩:ByteArray).size≤strMax∧Calls prog n_r20_Plain #[.slice x31 x31n x31c] w22 (fun e_19 w23=>∃x105_2:
 ByteArray,e_19= .returned (.string x105_2)∧(True)∧Calls prog n_r1_Sum #[.int .u64 x5,.string x105_2] w23 (fun e_20 w24=>∃x106_2:Int,e_20=
 .returned (.int .u64 x106_2)∧(True)∧Calls prog n_r1_Word #[.int .u64 x106_2] w24 (fun e_21 w25=>∃x107_2:ByteArray,e_21= .returned (.string x107_2)∧
 (True)∧((((x88_2++x92_2)++x98_2)++x58r0)++(⟨#[0]⟩:ByteArray)).size+x107_2.size≤strMax∧J11 (((((x88_2++x92_2)++x98_2)++x58r0)++(⟨#[0]⟩
 :ByteArray))++x107_2) w25)))))∧(Calls prog n_r1_PutVint #[.int .u64 (U64 (W64 (((x58r0.size:Nat):Int)+(1:Int))))] w21 (fun e_22 w26=>∃x98_3:
 ByteArray,e_22= .returned (.string x98_3)∧(True)∧(∃x88_3:ByteArray,(Conv.bytesToString (.slice (some (A0 b87)) 1 1)).run prog w26= .ok (.string
 x88_3) w26∧(True)∧x88_3.size+x92_2.size≤strMax∧(x88_3++x92_2).size+x98_3.size≤strMax∧((x88_3++x92_2)++x98_3).size+x58r0.size≤strMax∧
 (((x88_3++x92_2)++x98_3)++x58r0).size+(⟨#[0]⟩:ByteArray).size≤strMax∧Calls prog n_r20_Plain #[.slice x31 x31n x31c] w26 (fun e_23 w27=>∃x105_3
 :ByteArray,e_23= .returned (.string x105_3)∧(True)∧Calls prog n_r1_Sum #[.int .u64 x5,.string x105_3] w27 (fun e_24 w28=>∃x106_3:Int,e_24=
 .returned (.int .u64 x106_3)∧(True)∧Calls prog n_r1_Word #[.int .u64 x106_3] w28 (fun e_25 w29=>∃x107_3:ByteArray,e_25= .returned (.string x107_3)∧
 (True)∧((((x88_3++x92_2)++x98_3)++x58r0)++(⟨#[0]⟩:ByteArray)).size+x107_3.size≤strMax∧J11 (((((x88_3++x92_2)++x98_3)++x58r0)++(⟨#[0]⟩
 :ByteArray))++x107_3) w29))))∧(Calls prog n_r20_Plain #[.slice x31 x31n x31c] w26 (fun e_26 w30=>∃x105_4:ByteArray,e_26= .returned (.string x105_4)
 ∧(True)∧(∃x88_4:ByteArray,(Conv.bytesToString (.slice (some (A0 b87)) 1 1)).run prog w30= .ok (.string x88_4) w30∧(True)∧x88_4.size+x92_2.size≤
 strMax∧(x88_4++x92_2).size+x98_3.size≤strMax∧((x88_4++x92_2)++x98_3).size+x58r0.size≤strMax∧(((x88_4++x92_2)++x98_3)++x58r0).size+
 (⟨#[0]⟩:ByteArray).size≤strMax∧Calls prog n_r1_Sum #[.int .u64 x5,.string x105_4] w30 (fun e_27 w31=>∃x106_4:Int,e_27= .returned (.int .u64
 x106_4)∧(True)∧Calls prog n_r1_Word #[.int .u64 x106_4] w31 (fun e_28 w32=>∃x107_4:ByteArray,e_28= .returned (.string x107_4)∧(True)∧((((x88_4
 ++x92_2)++x98_3)++x58r0)++(⟨#[0]⟩:ByteArray)).size+x107_4.size≤strMax∧J11 (((((x88_4++x92_2)++x98_3)++x58r0)++(⟨#[0]⟩:ByteArray))++
 x107_4) w32)))∧(Calls prog n_r1_Sum #[.int .u64 x5,.string x105_4] w30 (fun e_29 w33=>∃x106_5:Int,e_29= .returned (.int .u64 x106_5)∧(True)∧(∃
 x88_5:ByteArray,(Conv.bytesToString (.slice (some (A0 b87)) 1 1)).run prog w33= .ok (.string x88_5) w33∧(True)∧x88_5.size+x92_2.size≤strMax∧
 (x88_5++x92_2).size+x98_3.size≤strMax∧((x88_5++x92_2)++x98_3).size+x58r0.size≤strMax∧(((x88_5++x92_2)++x98_3)++x58r0).size+(⟨#[0]⟩:
 ByteArray).size≤strMax∧Calls prog n_r1_Word #[.int .u64 x106_5] w33 (fun e_30 w34=>∃x107_5:ByteArray,e_30= .returned (.string x107_5)∧(True)∧
 ((((x88_5++x92_2)++x98_3)++x58r0)++(⟨#[0]⟩:ByteArray)).size+x107_5.size≤strMax∧J11 (((((x88_5++x92_2)++x98_3)++x58r0)++(⟨#[0]⟩:
 ByteArray))++x107_5) w34))∧(Calls prog n_r1_Word #[.int .u64 x106_5] w33 (fun e_31 w35=>∃x107_6:ByteArray,e_31= .returned (.string x107_6)∧(True)
 ∧∃x88_6:ByteArray,(Conv.bytesToString (.slice (some (A0 b87)) 1 1)).run prog w35= .ok (.string x88_6) w35∧(True)∧x88_6.size+x92_2.size≤strMax∧
 (x88_6++x92_2).size+x98_3.size≤strMax∧((x88_6++x92_2)++x98_3).size+x58r0.size≤strMax∧(((x88_6++x92_2)++x98_3)++x58r0).size+(⟨#[0]⟩:
 ByteArray).size≤strMax∧((((x88_6++x92_2)++x98_3)++x58r0)++(⟨#[0]⟩:ByteArray)).size+x107_6.size≤strMax∧J11 (((((x88_6++x92_2)++x98_3)++
 x58r0)++(⟨#[0]⟩:ByteArray))++x107_6) w35)))))))))))∧(Calls prog n_r1_PutVint #[.int .u64 (U64 ((x31n:Nat):Int))] w14 (fun e_32 w36=>∃x92_3:
 ByteArray,e_32= .returned (.string x92_3)∧(True)∧(∀w37 b87_2,w37=w36.alloc (.cells #[.int .u8 (U8 (Int.tmod (W64 x4) (4:Int)))] t_uint8)→b87_2=
 w36.heap.size→(True)∧(∃x88_7:ByteArray,(Conv.bytesToString (.slice (some (A0 b87_2)) 1 1)).run prog w37= .ok (.string x88_7) w37∧(True)∧x88_7.size
 +x92_3.size≤strMax∧Calls prog n_r1_PutVint #[.int .u64 (U64 (W64 (((x58r0.size:Nat):Int)+(1:Int))))] w37 (fun e_33 w38=>∃x98_4:ByteArray,
 e_33= .returned (.string x98_4)∧(True)∧(x88_7++x92_3).size+x98_4.size≤strMax∧((x88_7++x92_3)++x98_4).size+x58r0.size≤strMax∧(((x88_7++
 x92_3)++x98_4)++x58r0).size+(⟨#[0]⟩:ByteArray).size≤strMax∧Calls prog n_r20_Plain #[.slice x31 x31n x31c] w38 (fun e_34 w39=>∃x105_5:
 ByteArray,e_34= .returned (.string x105_5)∧(True)∧Calls prog n_r1_Sum #[.int .u64 x5,.string x105_5] w39 (fun e_35 w40=>∃x106_6:Int,e_35=
 .returned (.int .u64 x106_6)∧(True)∧Calls prog n_r1_Word #[.int .u64 x106_6] w40 (fun e_36 w41=>∃x107_7:ByteArray,e_36= .returned (.string x107_7)∧
 (True)∧((((x88_7++x92_3)++x98_4)++x58r0)++(⟨#[0]⟩:ByteArray)).size+x107_7.size≤strMax∧J11 (((((x88_7++x92_3)++x98_4)++x58r0)++(⟨#[0]⟩
 :ByteArray))++x107_7) w41)))))∧(Calls prog n_r1_PutVint #[.int .u64 (U64 (W64 (((x58r0.size:Nat):Int)+(1:Int))))] w37 (fun e_37 w42=>∃x98_5:
 ByteArray,e_37= .returned (.string x98_5)∧(True)∧(∃x88_8:ByteArray,(Conv.bytesToString (.slice (some (A0 b87_2)) 1 1)).run prog w42= .ok (.string
 x88_8) w42∧(True)∧x88_8.size+x92_3.size≤strMax∧(x88_8++x92_3).size+x98_5.size≤strMax∧((x88_8++x92_3)++x98_5).size+x58r0.size≤strMax∧
 (((x88_8++x92_3)++x98_5)++x58r0).size+(⟨#[0]⟩:ByteArray).size≤strMax∧Calls prog n_r20_Plain #[.slice x31 x31n x31c] w42 (fun e_38 w43=>∃x105_6
 :ByteArray,e_38= .returned (.string x105_6)∧(True)∧Calls prog n_r1_Sum #[.int .u64 x5,.string x105_6] w43 (fun e_39 w44=>∃x106_7:Int,e_39=
 .returned (.int .u64 x106_7)∧(True)∧Calls prog n_r1_Word #[.int .u64 x106_7] w44 (fun e_40 w45=>∃x107_8:ByteArray,e_40= .returned (.string x107_8)∧
 (True)∧((((x88_8++x92_3)++x98_5)++x58r0)++(⟨#[0]⟩:ByteArray)).size+x107_8.size≤strMax∧J11 (((((x88_8++x92_3)++x98_5)++x58r0)++(⟨#[0]⟩
 :ByteArray))++x107_8) w45))))∧(Calls prog n_r20_Plain #[.slice x31 x31n x31c] w42 (fun e_41 w46=>∃x105_7:ByteArray,e_41= .returned (.string x105_7)
 ∧(True)∧(∃x88_9:ByteArray,(Conv.bytesToString (.slice (some (A0 b87_2)) 1 1)).run prog w46= .ok (.string x88_9) w46∧(True)∧x88_9.size+x92_3.size
 ≤strMax∧(x88_9++x92_3).size+x98_5.size≤strMax∧((x88_9++x92_3)++x98_5).size+x58r0.size≤strMax∧(((x88_9++x92_3)++x98_5)++x58r0).size+
 (⟨#[0]⟩:ByteArray).size≤strMax∧Calls prog n_r1_Sum #[.int .u64 x5,.string x105_7] w46 (fun e_42 w47=>∃x106_8:Int,e_42= .returned (.int .u64
 x106_8)∧(True)∧Calls prog n_r1_Word #[.int .u64 x106_8] w47 (fun e_43 w48=>∃x107_9:ByteArray,e_43= .returned (.string x107_9)∧(True)∧((((x88_9
 ++x92_3)++x98_5)++x58r0)++(⟨#[0]⟩:ByteArray)).size+x107_9.size≤strMax∧J11 (((((x88_9++x92_3)++x98_5)++x58r0)++(⟨#[0]⟩:ByteArray))++
 x107_9) w48)))∧(Calls prog n_r1_Sum #[.int .u64 x5,.string x105_7] w46 (fun e_44 w49=>∃x106_9:Int,e_44= .returned (.int .u64 x106_9)∧(True)∧(∃
 x88_10:ByteArray,(Conv.bytesToString (.slice (some (A0 b87_2)) 1 1)).run prog w49= .ok (.string x88_10) w49∧(True)∧x88_10.size+x92_3.size≤strMax∧
 (x88_10++x92_3).size+x98_5.size≤strMax∧((x88_10++x92_3)++x98_5).size+x58r0.size≤strMax∧(((x88_10++x92_3)++x98_5)++x58r0).size+(⟨#[0]⟩
 :ByteArray).size≤strMax∧Calls prog n_r1_Word #[.int .u64 x106_9] w49 (fun e_45 w50=>∃x107_10:ByteArray,e_45= .returned (.string x107_10)∧(True)∧
 ((((x88_10++x92_3)++x98_5)++x58r0)++(⟨#[0]⟩:ByteArray)).size+x107_10.size≤strMax∧J11 (((((x88_10++x92_3)++x98_5)++x58r0)++(⟨#[0]⟩:
 ByteArray))++x107_10) w50))∧(Calls prog n_r1_Word #[.int .u64 x106_9] w49 (fun e_46 w51=>∃x107_11:ByteArray,e_46= .returned (.string x107_11)∧
 (True)∧∃x88_11:ByteArray,(Conv.bytesToString (.slice (some (A0 b87_2)) 1 1)).run prog w51= .ok (.string x88_11) w51∧(True)∧x88_11.size+x92_3.size
 ≤strMax∧(x88_11++x92_3).size+x98_5.size≤strMax∧((x88_11++x92_3)++x98_5).size+x58r0.size≤strMax∧(((x88_11++x92_3)++x98_5)++
 x58r0).size+(⟨#[0]⟩:ByteArray).size≤strMax∧((((x88_11++x92_3)++x98_5)++x58r0)++(⟨#[0]⟩:ByteArray)).size+x107_11.size≤strMax∧J11
 (((((x88_11++x92_3)++x98_5)++x58r0)++(⟨#[0]⟩:ByteArray))++x107_11) w51)))))))))∧(Calls prog n_r1_PutVint #[.int .u64 (U64 (W64 (((x58r0.size:
 Nat):Int)+(1:Int))))] w36 (fun e_47 w52=>∃x98_6:ByteArray,e_47= .returned (.string x98_6)∧(True)∧(∀w53 b87_3,w53=w52.alloc (.cells #[.int
 .u8 (U8 (Int.tmod (W64 x4) (4:Int)))] t_uint8)→b87_3=w52.heap.size→(True)∧(∃x88_12:ByteArray,(Conv.bytesToString (.slice (some (A0 b87_3)) 1
 1)).run prog w53= .ok (.string x88_12) w53∧(True)∧x88_12.size+x92_3.size≤strMax∧(x88_12++x92_3).size+x98_6.size≤strMax∧((x88_12++x92_3)++
 x98_6).size+x58r0.size≤strMax∧(((x88_12++x92_3)++x98_6)++x58r0).size+(⟨#[0]⟩:ByteArray).size≤strMax∧Calls prog n_r20_Plain #[.slice x31
 x31n x31c] w53 (fun e_48 w54=>∃x105_8:ByteArray,e_48= .returned (.string x105_8)∧(True)∧Calls prog n_r1_Sum #[.int .u64 x5,.string x105_8] w54 (fun
 e_49 w55=>∃x106_10:Int,e_49= .returned (.int .u64 x106_10)∧(True)∧Calls prog n_r1_Word #[.int .u64 x106_10] w55 (fun e_50 w56=>∃x107_12:
 ByteArray,e_50= .returned (.string x107_12)∧(True)∧((((x88_12++x92_3)++x98_6)++x58r0)++(⟨#[0]⟩:ByteArray)).size+x107_12.size≤strMax∧J11
 (((((x88_12++x92_3)++x98_6)++x58r0)++(⟨#[0]⟩:ByteArray))++x107_12) w56))))∧(Calls prog n_r20_Plain #[.slice x31 x31n x31c] w53 (fun e_51 w57=>∃
 x105_9:ByteArray,e_51= .returned (.string x105_9)∧(True)∧(∃x88_13:ByteArray,(Conv.bytesToString (.slice (some (A0 b87_3)) 1 1)).run prog w57= .ok
 (.string x88_13) w57∧(True)∧x88_13.size+x92_3.size≤strMax∧(x88_13++x92_3).size+x98_6.size≤strMax∧((x88_13++x92_3)++x98_6).size+
 x58r0.size≤strMax∧(((x88_13++x92_3)++x98_6)++x58r0).size+(⟨#[0]⟩:ByteArray).size≤strMax∧Calls prog n_r1_Sum #[.int .u64 x5,.string x105_9]
 w57 (fun e_52 w58=>∃x106_11:Int,e_52= .returned (.int .u64 x106_11)∧(True)∧Calls prog n_r1_Word #[.int .u64 x106_11] w58 (fun e_53 w59=>∃x107_13
 :ByteArray,e_53= .returned (.string x107_13)∧(True)∧((((x88_13++x92_3)++x98_6)++x58r0)++(⟨#[0]⟩:ByteArray)).size+x107_13.size≤strMax∧J11
 (((((x88_13++x92_3)++x98_6)++x58r0)++(⟨#[0]⟩:ByteArray))++x107_13) w59)))∧(Calls prog n_r1_Sum #[.int .u64 x5,.string x105_9] w57 (fun e_54 w60
 =>∃x106_12:Int,e_54= .returned (.int .u64 x106_12)∧(True)∧(∃x88_14:ByteArray,(Conv.bytesToString (.slice (some (A0 b87_3)) 1 1)).run prog w60=
 .ok (.string x88_14) w60∧(True)∧x88_14.size+x92_3.size≤strMax∧(x88_14++x92_3).size+x98_6.size≤strMax∧((x88_14++x92_3)++x98_6).size+
 x58r0.size≤strMax∧(((x88_14++x92_3)++x98_6)++x58r0).size+(⟨#[0]⟩:ByteArray).size≤strMax∧Calls prog n_r1_Word #[.int .u64 x106_12] w60 (fun
 e_55 w61=>∃x107_14:ByteArray,e_55= .returned (.string x107_14)∧(True)∧((((x88_14++x92_3)++x98_6)++x58r0)++(⟨#[0]⟩:ByteArray)).size+
 x107_14.size≤strMax∧J11 (((((x88_14++x92_3)++x98_6)++x58r0)++(⟨#[0]⟩:ByteArray))++x107_14) w61))∧(Calls prog n_r1_Word #[.int .u64 x106_12]
 w60 (fun e_56 w62=>∃x107_15:ByteArray,e_56= .returned (.string x107_15)∧(True)∧∃x88_15:ByteArray,(Conv.bytesToString (.slice (some (A0 b87_3)) 1
 1)).run prog w62= .ok (.string x88_15) w62∧(True)∧x88_15.size+x92_3.size≤strMax∧(x88_15++x92_3).size+x98_6.size≤strMax∧((x88_15++x92_3)++
 x98_6).size+x58r0.size≤strMax∧(((x88_15++x92_3)++x98_6)++x58r0).size+(⟨#[0]⟩:ByteArray).size≤strMax∧((((x88_15++x92_3)++x98_6)++
 x58r0)++(⟨#[0]⟩:ByteArray)).size+x107_15.size≤strMax∧J11 (((((x88_15++x92_3)++x98_6)++x58r0)++(⟨#[0]⟩:ByteArray))++x107_15) w62)))))))∧
 (Calls prog n_r20_Plain #[.slice x31 x31n x31c] w52 (fun e_57 w63=>∃x105_10:ByteArray,e_57= .returned (.string x105_10)∧(True)∧(∀w64 b87_4,w64=
 w63.alloc (.cells #[.int .u8 (U8 (Int.tmod (W64 x4) (4:Int)))] t_uint8)→b87_4=w63.heap.size→(True)∧(∃x88_16:ByteArray,(Conv.bytesToString (.slice
 (some (A0 b87_4)) 1 1)).run prog w64= .ok (.string x88_16) w64∧(True)∧x88_16.size+x92_3.size≤strMax∧(x88_16++x92_3).size+x98_6.size≤strMax∧
 ((x88_16++x92_3)++x98_6).size+x58r0.size≤strMax∧(((x88_16++x92_3)++x98_6)++x58r0).size+(⟨#[0]⟩:ByteArray).size≤strMax∧Calls prog
 n_r1_Sum #[.int .u64 x5,.string x105_10] w64 (fun e_58 w65=>∃x106_13:Int,e_58= .returned (.int .u64 x106_13)∧(True)∧Calls prog n_r1_Word #[.int
 .u64 x106_13] w65 (fun e_59 w66=>∃x107_16:ByteArray,e_59= .returned (.string x107_16)∧(True)∧((((x88_16++x92_3)++x98_6)++x58r0)++(⟨#[0]⟩:
 ByteArray)).size+x107_16.size≤strMax∧J11 (((((x88_16++x92_3)++x98_6)++x58r0)++(⟨#[0]⟩:ByteArray))++x107_16) w66)))∧(Calls prog n_r1_Sum
 #[.int .u64 x5,.string x105_10] w64 (fun e_60 w67=>∃x106_14:Int,e_60= .returned (.int .u64 x106_14)∧(True)∧(∃x88_17:ByteArray,
 (Conv.bytesToString (.slice (some (A0 b87_4)) 1 1)).run prog w67= .ok (.string x88_17) w67∧(True)∧x88_17.size+x92_3.size≤strMax∧(x88_17++
 x92_3).size+x98_6.size≤strMax∧((x88_17++x92_3)++x98_6).size+x58r0.size≤strMax∧(((x88_17++x92_3)++x98_6)++x58r0).size+(⟨#[0]⟩:
 ByteArray).size≤strMax∧Calls prog n_r1_Word #[.int .u64 x106_14] w67 (fun e_61 w68=>∃x107_17:ByteArray,e_61= .returned (.string x107_17)∧(True)∧
 ((((x88_17++x92_3)++x98_6)++x58r0)++(⟨#[0]⟩:ByteArray)).size+x107_17.size≤strMax∧J11 (((((x88_17++x92_3)++x98_6)++x58r0)++(⟨#[0]⟩:
 ByteArray))++x107_17) w68))∧(Calls prog n_r1_Word #[.int .u64 x106_14] w67 (fun e_62 w69=>∃x107_18:ByteArray,e_62= .returned (.string x107_18)∧
 (True)∧∃x88_18:ByteArray,(Conv.bytesToString (.slice (some (A0 b87_4)) 1 1)).run prog w69= .ok (.string x88_18) w69∧(True)∧x88_18.size+x92_3.size
 ≤strMax∧(x88_18++x92_3).size+x98_6.size≤strMax∧((x88_18++x92_3)++x98_6).size+x58r0.size≤strMax∧(((x88_18++x92_3)++x98_6)++
 x58r0).size+(⟨#[0]⟩:ByteArray).size≤strMax∧((((x88_18++x92_3)++x98_6)++x58r0)++(⟨#[0]⟩:ByteArray)).size+x107_18.size≤strMax∧J11
 (((((x88_18++x92_3)++x98_6)++x58r0)++(⟨#[0]⟩:ByteArray))++x107_18) w69)))))∧(Calls prog n_r1_Sum #[.int .u64 x5,.string x105_10] w63 (fun e_63
 w70=>∃x106_15:Int,e_63= .returned (.int .u64 x106_15)∧(True)∧(∀w71 b87_5,w71=w70.alloc (.cells #[.int .u8 (U8 (Int.tmod (W64 x4) (4:Int)))]
 t_uint8)→b87_5=w70.heap.size→(True)∧(∃x88_19:ByteArray,(Conv.bytesToString (.slice (some (A0 b87_5)) 1 1)).run prog w71= .ok (.string x88_19) w71
 ∧(True)∧x88_19.size+x92_3.size≤strMax∧(x88_19++x92_3).size+x98_6.size≤strMax∧((x88_19++x92_3)++x98_6).size+x58r0.size≤strMax∧
 (((x88_19++x92_3)++x98_6)++x58r0).size+(⟨#[0]⟩:ByteArray).size≤strMax∧Calls prog n_r1_Word #[.int .u64 x106_15] w71 (fun e_64 w72=>∃x107_19:
 ByteArray,e_64= .returned (.string x107_19)∧(True)∧((((x88_19++x92_3)++x98_6)++x58r0)++(⟨#[0]⟩:ByteArray)).size+x107_19.size≤strMax∧J11
 (((((x88_19++x92_3)++x98_6)++x58r0)++(⟨#[0]⟩:ByteArray))++x107_19) w72))∧(Calls prog n_r1_Word #[.int .u64 x106_15] w71 (fun e_65 w73=>∃
 x107_20:ByteArray,e_65= .returned (.string x107_20)∧(True)∧∃x88_20:ByteArray,(Conv.bytesToString (.slice (some (A0 b87_5)) 1 1)).run prog w73= .ok
 (.string x88_20) w73∧(True)∧x88_20.size+x92_3.size≤strMax∧(x88_20++x92_3).size+x98_6.size≤strMax∧((x88_20++x92_3)++x98_6).size+
 x58r0.size≤strMax∧(((x88_20++x92_3)++x98_6)++x58r0).size+(⟨#[0]⟩:ByteArray).size≤strMax∧((((x88_20++x92_3)++x98_6)++x58r0)++(⟨#[0]⟩:
 ByteArray)).size+x107_20.size≤strMax∧J11 (((((x88_20++x92_3)++x98_6)++x58r0)++(⟨#[0]⟩:ByteArray))++x107_20) w73)))∧(Calls prog n_r1_Word
 #[.int .u64 x106_15] w70 (fun e_66 w74=>∃x107_21:ByteArray,e_66= .returned (.string x107_21)∧(True)∧∀w75 b87_6,w75=w74.alloc (.cells #[.int .u8
 (U8 (Int.tmod (W64 x4) (4:Int)))] t_uint8)→b87_6=w74.heap.size→(True)∧∃x88_21:ByteArray,(Conv.bytesToString (.slice (some (A0 b87_6)) 1 1)).run
 prog w75= .ok (.string x88_21) w75∧(True)∧x88_21.size+x92_3.size≤strMax∧(x88_21++x92_3).size+x98_6.size≤strMax∧((x88_21++x92_3)++
 x98_6).size+x58r0.size≤strMax∧(((x88_21++x92_3)++x98_6)++x58r0).size+(⟨#[0]⟩:ByteArray).size≤strMax∧((((x88_21++x92_3)++x98_6)++
 x58r0)++(⟨#[0]⟩:ByteArray)).size+x107_21.size≤strMax∧J11 (((((x88_21++x92_3)++x98_6)++x58r0)++(⟨#[0]⟩:ByteArray))++x107_21)
 w75))))))))))))→J9 w7)→Calls prog n_l1_Err #[.int .i64 x47r1] w6 (fun e_67 w76=>∃x62:Int,e_67= .returned (.int .i64 x62)∧Calls prog n_l1_Err
 #[.int .i64 x58r1] w76 (fun e_68 w77=>∃x64:Int,e_68= .returned (.int .i64 x64)∧bif (W64 (x62+x64)) !=(0:Int)then(R (.bool false) w77)else(bif
 x47r0.toList==(⟨#[]⟩:ByteArray).toList then(R (.bool false) w77)else(J9 w77))))))))))
def A_l21_BlockCuts:Ann:= {loop:=fun k=>none,join:=fun k=>cond (Nat.beq k 11) (some (649037068631227225898178484109312,[25],[.str])) (cond (Nat.beq k 9) (some (2358877398425608929280,[],[])) (none)),nf:=fun k=> []}
theorem S_l21_BlockCuts {x0:Option Addr} {x0n:Nat} {x0c:Nat} {x1:Int} {x2:Int} {x3:Int} {x4:Int} {x5:Int} {x6:Int} {w:World} {R:Ending→World→Prop} (h:F_l21_BlockCuts x0 x0n x0c x1 x2 x3 x4 x5 x6 w fun v w'=>R (.returned v) w'):Calls prog n_l21_BlockCuts #[.slice x0 x0n x0c,.int .u8 x1,.int .u8 x2,.int .u8 x3,.int .u8 x4,.int .u64 x5,.int .u16 x6] w R:=vcS A_l21_BlockCuts func9 (by kernel_rfl) (by kernel_rfl) h
end Go.Proofs.Tryz
namespace Go.Proofs.Tryz
open Go Go.RowKit Go.Proofs.VC
variable {M:List Nat} {w0 w:World} {L:List En}
theorem T_l21_BlockCuts (a:Option Addr) (n c:Nat) (ns:List Nat) (hns:∀x∈ns,x<65536) (x1 x2 x3 x4:Nat) (h1:x1<256) (h2:x2<256) (h3:x3<256) (h4:x4<256) (seed:Nat) (hseed:seed<WW) (x6:Nat) (h6:x6<65536) (w:World)
 (hn:n=ns.length) (hs:Sl w a (u16s ns)):
 Calls prog n_l21_BlockCuts #[.slice a n c,.int .u8 (x1:Int),.int .u8 (x2:Int),.int .u8 (x3:Int),.int .u8 (x4:Int),.int .u64 (seed:Int),.int .u16 (x6:Int)] w fun e w'=>e= .returned (.bool true)∧Fr [] w w':=by
 refine S_l21_BlockCuts ?_
 unfold F_l21_BlockCuts
 refine(T_l11_Numbers a n c ns hns w hn hs).mono ?_
 rintro e w1 ⟨a5,c5,rfl,ho,hf1⟩
 have hsl:Sl w1 a5 (i64s (numbers ns)):=ho.sl
 have hI2:=numbers_I64 ns
 have hl60:(numbers ns).length≤60:=by rw [numbers_len];omega
 clear ho
 generalize numbers ns=l at*
 refine⟨_,_,_,rfl,by decide,bif_i (fun h0=>?_) fun h0=>?_⟩
 · refine(T_l21_awake w1).mono ?_
   rintro e w2 ⟨rfl,hf2⟩
   exact⟨_,rfl,rfl,hf1.trans hf2⟩
 have hl1:1≤l.length:=by have:=ne_of_beq_false h0;omega
 have hB:=optB_le x2
 have hC:=optC_le x3
 have ew:Int.tmod (W64 (x4:Int)) 4=((x4%4:Nat):Int):=by
  rw [W64_nat (by omega),show(4:Int)=((4:Nat):Int)from rfl,tmod_nat]
 rw [ew]
 have hway:x4%4≤3:=by omega
 generalize x4%4=way at hway
 have hle:=loadErr_opt (way:=way) (a:=x1) (b:=x2) (c:=x3) (d:=0) (n:=l.length) hway hl1 (by omega)
 have hw':((way:Nat):Int).toNat=way:=Int.toNat_natCast _
 have hpl:=loadB_len4 (way:=way) (lim:=optB x2) (log:=optC x3) hI2 hl1 (by omega) hB hC
 have hun:=unl_long (way:=way) (lim:=optB x2) (log:=optC x3) hI2 hl1 (by omega) hB hC hway
 refine(T_l21_Options x1 x2 x3 0 (seed:Int) h1 h2 h3 (by decide) w1).mono ?_
 rintro e w2 ⟨rfl,hf2⟩
 have hsl2:=hsl.fr0 hf2
 refine⟨_,_,_,_,_,rfl,(T_Put way (optA x1:Nat) (optD 0:Nat) seed hseed (optB x2) (optC x3) a5 l.length c5 l hI2 w2 ⟨rfl,hsl2⟩).mono ?_⟩
 rintro e w3 ⟨rfl,hf3⟩
 have hsl3:=hsl2.fr0 hf3
 rw [putV,if_neg (by rw [hle];simp),if_neg (by simp),if_neg (by rw [hle];simp),hw']
 refine⟨_,_,rfl,(T_l21_Options x1 x2 x3 0 (seed:Int) h1 h2 h3 (by decide) w3).mono ?_⟩
 rintro e w4 ⟨rfl,hf4⟩
 have hsl4:=hsl3.fr0 hf4
 refine⟨_,_,_,_,_,rfl,(T_Load way (optA x1:Nat) (optD 0:Nat) (seed:Int) (optB x2) (optC x3) a5 l.length c5 l hI2 w4 ⟨rfl,hsl4⟩).mono ?_⟩
 rintro e w5 ⟨rfl,hf5⟩
 have hsl5:=hsl4.fr0 hf5
 rw [loadV,if_neg (by rw [hle];simp),hw']
 refine⟨_,_,rfl,?_⟩
 generalize loadB way (optB x2) (optC x3) l=P at*
 have hbl:=blockB_len (way:=way) (n:=l.length) (s:=P) (sum:=sumN seed (plainB l))
 have hv1:=vput_len64 (n:=l.length) (by omega)
 have hv2:=vput_len64 (n:=P.length) (by omega)
 have hv3:=vput_len64 (n:=P.length+1) (by omega)
 have hcut:=fun k hk=>blkR_cut way l.length P (sumN seed (plainB l)) seed 100 unlA k hway hl1 (by omega) (by omega) (by omega) hk
 have hlong:=blkR_none [] [] way l.length (P++ [0]) (sumN seed (plainB l)) seed 100 unlA hway hl1 (by omega) (by omega) (by rw [List.length_append,List.length_singleton];omega) (by rw [unlA,if_pos (by omega)];exact hun)
 rw [List.nil_append,List.append_nil,show(([]:List UInt8).length:Int)=0 from rfl]at hlong
 have hLB:blockB way l.length (P++ [0]) (sumN seed (plainB l))= [UInt8.ofNat way]++vput l.length++vput (P.length+1)++P++ [0]++wput (sumN seed (plainB l)):=by
  simp [blockB,headBytes]
 rw [hLB]at hlong
 have hsum:=sumN_lt seed (plainB l)
 have hpbl:=plainB_len l
 generalize blockB way l.length P (sumN seed (plainB l))=B at*
 intro J9 hJ9
 refine(T_l1_Err _ _).mono ?_
 rintro e w6 ⟨rfl,hf6⟩
 refine⟨_,rfl,(T_l1_Err _ _).mono ?_⟩
 rintro e w7 ⟨rfl,hf7⟩
 have hbne:((S B).toList==(⟨#[]⟩:ByteArray).toList)=false:=by
  have:(⟨#[]⟩:ByteArray)=S []:=rfl
  rw [this,S_beq,beq_eq_false_iff_ne]
  intro e
  rw [e]at hbl
  simp at hbl
 refine⟨_,rfl,bif_f (by decide) (bif_f hbne (hJ9 w7 ?_))⟩
 have hf17:=(((((hf2.trans hf3).trans hf4).trans hf5).trans hf6).trans hf7)
 have hsl7:=hsl.fr0 hf17
 have ek:Int.tmod (W64 (x6:Int)) ((B.length:Nat):Int)=((x6%B.length:Nat):Int):=by
  rw [W64_nat (by omega),tmod_nat]
 have hk:x6%B.length<B.length:=Nat.mod_lt _ (by omega)
 rw [S_size,ek,Int.toNat_natCast,S_extract,List.drop_zero]
 refine⟨by omega,by omega,by omega,(T_Get (B.take (x6%B.length)) 0 seed hseed 100 (by rw [List.length_take];omega) w7).mono ?_⟩
 rintro e w8 ⟨v,rfl,hv,hf8⟩
 rw [hcut _ hk]at hv
 obtain rfl:=hv
 refine⟨_,_,_,_,_,_,rfl,?_⟩
 intro J11 hJ11
 have hsl8:=hsl7.fr0 hf8
 have hf18:=hf17.trans hf8
 have fin:∀w9,Fr [] w8 w9→J11 (S ([UInt8.ofNat way]++vput l.length++vput (P.length+1)++P++ [0]++wput (sumN seed (plainB l)))) w9:=by
  intro w9 hf9
  refine hJ11 _ w9 ((T_Get _ 0 seed hseed 100 ?_ w9).mono ?_)
  · simp only [List.length_append,List.length_singleton,wput_len];omega
  rintro e w10 ⟨v,rfl,hv,hf10⟩
  rw [hlong]at hv
  obtain rfl:=hv
  refine⟨_,_,_,_,_,_,rfl,(T_l1_Err _ _).mono ?_⟩
  rintro e w11 ⟨rfl,hf11⟩
  refine⟨_,rfl,bif_t (by decide) ((T_l1_Err _ _).mono ?_)⟩
  rintro e w12 ⟨rfl,hf12⟩
  refine⟨_,rfl,bif_t (by decide) ((T_l21_awake _).mono ?_)⟩
  rintro e w13 ⟨rfl,hf13⟩
  exact⟨_,rfl,rfl,((((hf1.trans hf18).trans hf9).trans hf10).trans hf11).trans (hf12.trans hf13)⟩
 have hsz:∀(x y:List UInt8),x.length+y.length≤4000→(S x).size+(S y).size≤strMax:=fun x y h=>by rw [S_size,S_size];simp only [strMax];omega
 have ev1:U64 ((l.length:Nat):Int)=(l.length:Int):=by rw [U64_nat,Nat.mod_eq_of_lt (by omega)]
 have ev2:U64 (W64 (((P.length:Nat):Int)+1))=((P.length+1:Nat):Int):=by rw [W64_succ (by omega),U64_nat,Nat.mod_eq_of_lt (by omega)]
 have eb:U8 ((way:Nat):Int)=(((UInt8.ofNat way).toNat:Nat):Int):=by rw [U8_nat,toNat_ofNat8 (by omega),Nat.mod_eq_of_lt (by omega)]
 have e0:(⟨#[0]⟩:ByteArray)=S [0]:=rfl
 rintro w9 rfl
 have hf9:Fr [] w8 w8.drew:=Fr.drew _ _
 rw [ev1,S_size,ev2,eb,e0]
 have hpv:∀w,Calls prog n_r1_PutVint #[.int .u64 ((l.length:Nat):Int)] w fun e w'=>e= .returned (.string (S (vput l.length)))∧Fr [] w w':=fun w=>T_r1_PutVint _ (by omega) w
 have hpv2:∀w,Calls prog n_r1_PutVint #[.int .u64 ((P.length+1:Nat):Int)] w fun e w'=>e= .returned (.string (S (vput (P.length+1))))∧Fr [] w w':=fun w=>T_r1_PutVint _ (by omega) w
 have hpp:∀w',Fr [] w8 w'→Calls prog n_r20_Plain #[.slice a5 l.length c5] w' fun e w''=>e= .returned (.string (S (plainB l)))∧Fr [] w' w'':=fun w' hf=>T_r20_Plain a5 l.length c5 l w' ⟨rfl,hsl8.fr0 hf⟩ (by omega)
 have hps:∀w',Calls prog n_r1_Sum #[.int .u64 (seed:Int),.string (S (plainB l))] w' fun e w''=>e= .returned (.int .u64 (sumN seed (plainB l):Nat))∧Fr [] w' w'':=fun w'=>T_r1_Sum seed hseed (plainB l) (by omega) w'
 have hpw:∀w',Calls prog n_r1_Word #[.int .u64 (sumN seed (plainB l):Nat)] w' fun e w''=>e= .returned (.string (S (wput (sumN seed (plainB l)))))∧Fr [] w' w'':=fun w'=>T_r1_Word _ hsum w'
 have hf:=hf9
 generalize w8.drew=w9 at hf hf9 ⊢
 clear hf9
 have hwl:(wput (sumN seed (plainB l))).length=8:=wput_len _
 repeat'
  first
  |with_reducible exact trivial
  |with_reducible refine And.intro ?_ ?_
  |with_reducible exact fin _ hf
  |(simp only [S_append];with_reducible exact fin _ hf)
  |exact(by simp only [S_append,S_size,List.length_append,List.length_singleton,strMax];omega)
  |with_reducible refine b2s (l:= [UInt8.ofNat way]) hb rfl ?_
  |(with_reducible refine Sx.alloc (Sx.start [] _) (fun wn bn hfn Hn=>?_)
    have hf:=hf.trans hfn
    have hb:Sl wn (some (A0 bn)) (u8s [UInt8.ofNat way]):=Sx.sl Hn 0 rfl)
  |(with_reducible refine(hpv _).mono ?_
    rintro _ wn ⟨rfl,hfn⟩
    have hf:=hf.trans hfn
    try have hb:=hb.fr0 hfn
    refine⟨_,rfl,?_⟩)
  |(with_reducible refine(hpv2 _).mono ?_
    rintro _ wn ⟨rfl,hfn⟩
    have hf:=hf.trans hfn
    try have hb:=hb.fr0 hfn
    refine⟨_,rfl,?_⟩)
  |(with_reducible refine(hpp _ hf).mono ?_
    rintro _ wn ⟨rfl,hfn⟩
    have hf:=hf.trans hfn
    try have hb:=hb.fr0 hfn
    refine⟨_,rfl,?_⟩)
  |(with_reducible refine(hps _).mono ?_
    rintro _ wn ⟨rfl,hfn⟩
    have hf:=hf.trans hfn
    try have hb:=hb.fr0 hfn
    refine⟨_,rfl,?_⟩)
  |(with_reducible refine(hpw _).mono ?_
    rintro _ wn ⟨rfl,hfn⟩
    have hf:=hf.trans hfn
    try have hb:=hb.fr0 hfn
    refine⟨_,rfl,?_⟩)
end Go.Proofs.Tryz
