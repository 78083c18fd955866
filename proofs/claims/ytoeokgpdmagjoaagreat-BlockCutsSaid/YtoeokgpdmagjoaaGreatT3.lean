import Derived.Lib.Builder
import Derived.Lib.UnsafeStr
import Derived.Lib.AppendStr
import Derived.Lib.Walk
import Derived.WalkKit
import Derived.Shelf.Strings.Builder1
import Derived.Shelf.Small.Bits
import Derived.Shelf.Strconv.Itoa0
import Derived.Test.YtoeokgpdmagjoaaGreatProg
import Derived.Laws.StructEq
import Derived.Test.YtoeokgpdmagjoaaGreatT2
/-
A part of the proof: steps of the walk and plain laws.
-/
set_option linter.unusedVariables false
namespace Go.Proofs.Tryz
open Go Go.Proofs.VC
set_option maxRecDepth 100000
def F_l1_Err (x0:Int) (w:World) (R:Value→World→Prop):Prop:=
 R (.int .i64 x0) w
theorem S_l1_Err {x0:Int} {w:World} {R:Ending→World→Prop} (h:F_l1_Err x0 w fun v w'=>R (.returned v) w'):Calls prog n_l1_Err #[.int .i64 x0] w R:=vcS noAnn func22 (by kernel_rfl) (by kernel_rfl) h
def F_block_Load (x0:Int) (x1a:Int) (x1b:Int) (x1c:Int) (x1d:Int) (x1e:Int) (x2:Option Addr) (x2n:Nat) (x2c:Nat) (w:World) (R:Value→World
 →Prop):Prop:=
 ∀w1 b4,w1=w.alloc (.cells #[.int .i64 x1a,.int .i64 x1b,.int .i64 x1c,.int .i64 x1d,.int .u64 x1e] t_api_Options)→b4=w.heap.size→∀J3:World→
 Prop,(∀w2,(∀w3 b8,w3=w2.alloc (.cells #[.nilFunc,.nilFunc,.nilFunc,.nilFunc] t_A4_func_block_loader_string_api_Errno)→b8=w2.heap.size→Sto w3
 (A0 b8) (.func (.func n_block_loader_plain) #[] #[]) fun w4=>Sto w4 ((A0 b8).add 1) (.func (.func n_block_loader_codes) #[] #[]) fun w5=>Sto w5 ((A0
 b8).add 2) (.func (.func n_block_loader_states) #[] #[]) fun w6=>Sto w6 ((A0 b8).add 3) (.func (.func n_block_loader_chances) #[] #[]) fun w7=>∀w8,w8=
 w7.drew→0≤x0∧x0<((4:Nat):Int)∧∃x26:Nat,∃x26f:Array Value,∃x26k:Array Value,w8.cell? ((A0 b8).add (Int.toNat x0*1))=some (.func
 (.func x26) x26f x26k)∧∃x27a:Int,∃x27b:Int,∃x27c:Int,∃x27d:Int,∃x27e:Int,LdL w8 (A0 b4) 0 [.int .i64 x27a,.int .i64 x27b,.int .i64
 x27c,.int .i64 x27d,.int .u64 x27e]∧cond (fok x26) (Calls prog x26 (x26f.toList++([.agg #[.int .i64 x27a,.int .i64 x27b,.int .i64 x27c,.int .i64 x27d,
 .int .u64 x27e,.slice x2 x2n x2c]]:List Value)++x26k.toList).toArray w8 (fun e w9=>∃x30r0:ByteArray,∃x30r1:Int,e= .returned (.tuple #[.string
 x30r0,.int .i64 x30r1])∧((w8.cell? ((A0 b4).add 0)=some (.int .i64 x27a)→w9.cell? ((A0 b4).add 0)=some (.int .i64 x27a))∧(w8.cell? ((A0 b4).add 1)=
 some (.int .i64 x27b)→w9.cell? ((A0 b4).add 1)=some (.int .i64 x27b))∧(w8.cell? ((A0 b4).add 2)=some (.int .i64 x27c)→w9.cell? ((A0 b4).add 2)=some
 (.int .i64 x27c))∧(w8.cell? ((A0 b4).add 3)=some (.int .i64 x27d)→w9.cell? ((A0 b4).add 3)=some (.int .i64 x27d))∧(w8.cell? ((A0 b4).add 4)=some
 (.int .u64 x27e)→w9.cell? ((A0 b4).add 4)=some (.int .u64 x27e))∧True)∧R (.tuple #[.string x30r0,.int .i64 x30r1]) w9)) False)→J3 w2)→∃x9a:
 Int,∃x9b:Int,∃x9c:Int,∃x9d:Int,∃x9e:Int,LdL w1 (A0 b4) 0 [.int .i64 x9a,.int .i64 x9b,.int .i64 x9c,.int .i64 x9d,.int .u64 x9e]∧Calls
 prog n_block_May #[.agg #[.int .i64 x9a,.int .i64 x9b,.int .i64 x9c,.int .i64 x9d,.int .u64 x9e]] w1 (fun e_2 w10=>∃x10:Bool,e_2= .returned (.bool
 x10)∧bif !x10 then(R (.tuple #[.string (⟨#[]⟩:ByteArray),.int .i64 (1:Int)]) w10)else(Calls prog n_block_isWay #[.int .i64 x0] w10 (fun e_3 w11=>∃
 x14:Bool,e_3= .returned (.bool x14)∧bif !x14 then(R (.tuple #[.string (⟨#[]⟩:ByteArray),.int .i64 (1:Int)]) w11)else(Calls prog n_block_in #[.int
 .i64 ((x2n:Nat):Int),.int .i64 (1:Int),.int .i64 (4096:Int)] w11 (fun e_4 w12=>∃x20:Bool,e_4= .returned (.bool x20)∧bif !x20 then(R (.tuple
 #[.string (⟨#[]⟩:ByteArray),.int .i64 (1:Int)]) w12)else(J3 w12))))))
def A_block_Load:Ann:= {loop:=fun k=>none,join:=fun k=>cond (Nat.beq k 3) (some (8388288,[],[])) (none),nf:=fun k=> []}
theorem S_block_Load {x0:Int} {x1a:Int} {x1b:Int} {x1c:Int} {x1d:Int} {x1e:Int} {x2:Option Addr} {x2n:Nat} {x2c:Nat} {w:World} {R:Ending→World→Prop} (h:F_block_Load x0 x1a x1b x1c x1d x1e x2 x2n x2c w fun v w'=>R (.returned v) w'):Calls prog n_block_Load #[.int .i64 x0,.agg #[.int .i64 x1a,.int .i64 x1b,.int .i64 x1c,.int .i64 x1d,.int .u64 x1e],.slice x2 x2n x2c] w R:=vcS A_block_Load func12 (by kernel_rfl) (by kernel_rfl) h
def F_block_Unload (x0:Int) (x1:ByteArray) (x2:Int) (w:World) (R:Value→World→Prop):Prop:=
 ∀J3:World→Prop,(∀w1,(∀w2 b8,w2=w1.alloc (.cells #[.nilFunc,.nilFunc,.nilFunc,.nilFunc] t_A4_func_block_unloader_S_int64_bool)→b8=w1.heap.size
 →Sto w2 (A0 b8) (.func (.func n_block_unloader_plain) #[] #[]) fun w3=>Sto w3 ((A0 b8).add 1) (.func (.func n_block_unloader_codes) #[] #[]) fun w4=>Sto
 w4 ((A0 b8).add 2) (.func (.func n_block_unloader_states) #[] #[]) fun w5=>Sto w5 ((A0 b8).add 3) (.func (.func n_block_unloader_chances) #[] #[]) fun w6=>
 0≤x0∧x0<((4:Nat):Int)∧∃x23:Nat,∃x23f:Array Value,∃x23k:Array Value,w6.cell? ((A0 b8).add (Int.toNat x0*1))=some (.func (.func x23)
 x23f x23k)∧cond (fok x23) (Calls prog x23 (x23f.toList++([.agg #[.string x1,.int .i64 x2]]:List Value)++x23k.toList).toArray w6 (fun e w7=>∃x27r0:
 Option Addr,∃x27r0n:Nat,∃x27r0c:Nat,∃x27r1:Bool,e= .returned (.tuple #[.slice x27r0 x27r0n x27r0c,.bool x27r1])∧bif !x27r1 then(R (.tuple
 #[.slice none 0 0,.int .i64 (3:Int)]) w7)else(R (.tuple #[.slice x27r0 x27r0n x27r0c,.int .i64 (0:Int)]) w7))) False)→J3 w1)→Calls prog
 n_block_isWay #[.int .i64 x0] w (fun e_2 w8=>∃x12:Bool,e_2= .returned (.bool x12)∧bif !x12 then(R (.tuple #[.slice none 0 0,.int .i64 (1:Int)])
 w8)else(Calls prog n_block_in #[.int .i64 x2,.int .i64 (1:Int),.int .i64 (4096:Int)] w8 (fun e_3 w9=>∃x16:Bool,e_3= .returned (.bool x16)∧bif
 !x16 then(R (.tuple #[.slice none 0 0,.int .i64 (1:Int)]) w9)else(J3 w9))))
def A_block_Unload:Ann:= {loop:=fun k=>none,join:=fun k=>cond (Nat.beq k 3) (some (522432,[],[])) (none),nf:=fun k=> []}
theorem S_block_Unload {x0:Int} {x1:ByteArray} {x2:Int} {w:World} {R:Ending→World→Prop} (h:F_block_Unload x0 x1 x2 w fun v w'=>R (.returned v) w'):Calls prog n_block_Unload #[.int .i64 x0,.string x1,.int .i64 x2] w R:=vcS A_block_Unload func14 (by kernel_rfl) (by kernel_rfl) h
def F_block_Put (x0:Int) (x1a:Int) (x1b:Int) (x1c:Int) (x1d:Int) (x1e:Int) (x2:Option Addr) (x2n:Nat) (x2c:Nat) (w:World) (R:Value→World
 →Prop):Prop:=
 ∀w1 b4,w1=w.alloc (.cells #[.int .i64 x1a,.int .i64 x1b,.int .i64 x1c,.int .i64 x1d,.int .u64 x1e] t_api_Options)→b4=w.heap.size→∃x13a:Int,∃
 x13b:Int,∃x13c:Int,∃x13d:Int,∃x13e:Int,LdL w1 (A0 b4) 0 [.int .i64 x13a,.int .i64 x13b,.int .i64 x13c,.int .i64 x13d,.int .u64 x13e]∧Calls
 prog n_block_Load #[.int .i64 x0,.agg #[.int .i64 x13a,.int .i64 x13b,.int .i64 x13c,.int .i64 x13d,.int .u64 x13e],.slice x2 x2n x2c] w1 (fun e w2=>∃
 x15r0:ByteArray,∃x15r1:Int,e= .returned (.tuple #[.string x15r0,.int .i64 x15r1])∧bif x15r1 !=(0:Int)then(R (.tuple #[.string (⟨#[]⟩:
 ByteArray),.int .i64 x15r1]) w2)else(∀J5:ByteArray→World→Prop,(∀x10:ByteArray,∀w3,(∀w4,w4=w3.drew→x10.size+x15r0.size≤strMax∧∃x39
 :Int,w4.cell? ((A0 b4).add 4)=some (.int .u64 x39)∧Calls prog n_plain_Put #[.slice x2 x2n x2c] w4 (fun e_2 w5=>∃x41:ByteArray,e_2= .returned
 (.string x41)∧((w4.cell? ((A0 b4).add 4)=some (.int .u64 x39)→w5.cell? ((A0 b4).add 4)=some (.int .u64 x39))∧True)∧Calls prog n_xxh_Sum #[.int .u64
 x39,.string x41] w5 (fun e_3 w6=>∃x42:Int,e_3= .returned (.int .u64 x42)∧(True)∧Calls prog n_vint_Word #[.int .u64 x42] w6 (fun e_4 w7=>∃x43:
 ByteArray,e_4= .returned (.string x43)∧((w6.cell? ((A0 b4).add 4)=some (.int .u64 x39)→w7.cell? ((A0 b4).add 4)=some (.int .u64 x39))∧True)∧(x10
 ++x15r0).size+x43.size≤strMax∧R (.tuple #[.string ((x10++x15r0)++x43),.int .i64 (0:Int)]) w7))))→J5 x10 w3)→∀w8,w8=w2.drew→(∀w9 b23,
 w9=w8.alloc (.cells #[.int .u8 (U8 x0)] t_uint8)→b23=w8.heap.size→(True)∧(∃x24:ByteArray,(Conv.bytesToString (.slice (some (A0 b23)) 1 1)).run
 prog w9= .ok (.string x24) w9∧(True)∧Calls prog n_vint_Put #[.int .u64 (U64 ((x2n:Nat):Int))] w9 (fun e_5 w10=>∃x28:ByteArray,e_5= .returned
 (.string x28)∧(True)∧x24.size+x28.size≤strMax∧Calls prog n_vint_Put #[.int .u64 (U64 ((x15r0.size:Nat):Int))] w10 (fun e_6 w11=>∃x33:
 ByteArray,e_6= .returned (.string x33)∧(True)∧(x24++x28).size+x33.size≤strMax∧J5 ((x24++x28)++x33) w11)))∧(Calls prog n_vint_Put #[.int
 .u64 (U64 ((x2n:Nat):Int))] w9 (fun e_7 w12=>∃x28_2:ByteArray,e_7= .returned (.string x28_2)∧(True)∧(∃x24_2:ByteArray,(Conv.bytesToString
 (.slice (some (A0 b23)) 1 1)).run prog w12= .ok (.string x24_2) w12∧(True)∧x24_2.size+x28_2.size≤strMax∧Calls prog n_vint_Put #[.int .u64 (U64
 ((x15r0.size:Nat):Int))] w12 (fun e_8 w13=>∃x33_2:ByteArray,e_8= .returned (.string x33_2)∧(True)∧(x24_2++x28_2).size+x33_2.size≤strMax∧
 J5 ((x24_2++x28_2)++x33_2) w13))∧(Calls prog n_vint_Put #[.int .u64 (U64 ((x15r0.size:Nat):Int))] w12 (fun e_9 w14=>∃x33_3:ByteArray,e_9=
 .returned (.string x33_3)∧(True)∧∃x24_3:ByteArray,(Conv.bytesToString (.slice (some (A0 b23)) 1 1)).run prog w14= .ok (.string x24_3) w14∧(True)∧
 x24_3.size+x28_2.size≤strMax∧(x24_3++x28_2).size+x33_3.size≤strMax∧J5 ((x24_3++x28_2)++x33_3) w14)))))∧(Calls prog n_vint_Put #[.int .u64
 (U64 ((x2n:Nat):Int))] w8 (fun e_10 w15=>∃x28_3:ByteArray,e_10= .returned (.string x28_3)∧(True)∧(∀w16 b23_2,w16=w15.alloc (.cells #[.int
 .u8 (U8 x0)] t_uint8)→b23_2=w15.heap.size→(True)∧(∃x24_4:ByteArray,(Conv.bytesToString (.slice (some (A0 b23_2)) 1 1)).run prog w16= .ok (.string
 x24_4) w16∧(True)∧x24_4.size+x28_3.size≤strMax∧Calls prog n_vint_Put #[.int .u64 (U64 ((x15r0.size:Nat):Int))] w16 (fun e_11 w17=>∃x33_4:
 ByteArray,e_11= .returned (.string x33_4)∧(True)∧(x24_4++x28_3).size+x33_4.size≤strMax∧J5 ((x24_4++x28_3)++x33_4) w17))∧(Calls prog
 n_vint_Put #[.int .u64 (U64 ((x15r0.size:Nat):Int))] w16 (fun e_12 w18=>∃x33_5:ByteArray,e_12= .returned (.string x33_5)∧(True)∧∃x24_5:
 ByteArray,(Conv.bytesToString (.slice (some (A0 b23_2)) 1 1)).run prog w18= .ok (.string x24_5) w18∧(True)∧x24_5.size+x28_3.size≤strMax∧(x24_5++
 x28_3).size+x33_5.size≤strMax∧J5 ((x24_5++x28_3)++x33_5) w18)))∧(Calls prog n_vint_Put #[.int .u64 (U64 ((x15r0.size:Nat):Int))] w15 (fun e_13
 w19=>∃x33_6:ByteArray,e_13= .returned (.string x33_6)∧(True)∧∀w20 b23_3,w20=w19.alloc (.cells #[.int .u8 (U8 x0)] t_uint8)→b23_3=
 w19.heap.size→(True)∧∃x24_6:ByteArray,(Conv.bytesToString (.slice (some (A0 b23_3)) 1 1)).run prog w20= .ok (.string x24_6) w20∧(True)∧x24_6.size
 +x28_3.size≤strMax∧(x24_6++x28_3).size+x33_6.size≤strMax∧J5 ((x24_6++x28_3)++x33_6) w20))))))
def A_block_Put:Ann:= {loop:=fun k=>none,join:=fun k=>cond (Nat.beq k 5) (some (34357642240,[10],[.str])) (none),nf:=fun k=> []}
theorem S_block_Put {x0:Int} {x1a:Int} {x1b:Int} {x1c:Int} {x1d:Int} {x1e:Int} {x2:Option Addr} {x2n:Nat} {x2c:Nat} {w:World} {R:Ending→World→Prop} (h:F_block_Put x0 x1a x1b x1c x1d x1e x2 x2n x2c w fun v w'=>R (.returned v) w'):Calls prog n_block_Put #[.int .i64 x0,.agg #[.int .i64 x1a,.int .i64 x1b,.int .i64 x1c,.int .i64 x1d,.int .u64 x1e],.slice x2 x2n x2c] w R:=vcS A_block_Put func16 (by kernel_rfl) (by kernel_rfl) h
def F_block_Get (x0:ByteArray) (x1:Int) (x2:Int) (x3:Int) (w:World) (R:Value→World→Prop):Prop:=
 Calls prog n_block_head #[.string x0,.int .i64 x1,.int .i64 x3] w (fun e w1=>∃x19r0:Int,∃x19r1:Int,∃x19r2:Int,∃x19r3:Int,∃x19r4:Int,e=
 .returned (.tuple #[.int .i64 x19r0,.int .i64 x19r1,.int .i64 x19r2,.int .i64 x19r3,.int .i64 x19r4])∧bif x19r4 !=(0:Int)then(R (.tuple #[.int .i64
 (0:Int),.slice none 0 0,.int .i64 (0:Int),.int .i64 x19r4]) w1)else(0≤(W64 (x19r3+x19r2))∧(W64 (x19r3+x19r2))≤((x0.size:Nat):Int)∧0≤
 x19r3∧x19r3≤((Int.toNat (W64 (x19r3+x19r2)):Nat):Int)∧Calls prog n_block_Unload #[.int .i64 x19r0,.string (x0.extract (Int.toNat x19r3) (Int.toNat
 (W64 (x19r3+x19r2)))),.int .i64 x19r1] w1 (fun e_2 w2=>∃x37r0:Option Addr,∃x37r0n:Nat,∃x37r0c:Nat,∃x37r1:Int,e_2= .returned (.tuple
 #[.slice x37r0 x37r0n x37r0c,.int .i64 x37r1])∧bif x37r1 !=(0:Int)then(R (.tuple #[.int .i64 (0:Int),.slice none 0 0,.int .i64 (0:Int),.int .i64
 (3:Int)]) w2)else(Calls prog n_vint_GetWord #[.string x0,.int .i64 (W64 (x19r3+x19r2))] w2 (fun e_3 w3=>∃x48r0:Int,∃x48r1:Int,∃x48r2:Int,
 e_3= .returned (.tuple #[.int .u64 x48r0,.int .i64 x48r1,.int .i64 x48r2])∧bif x48r2 !=(0:Int)then(R (.tuple #[.int .i64 (0:Int),.slice none 0 0,
 .int .i64 (0:Int),.int .i64 x48r2]) w3)else(Calls prog n_plain_Put #[.slice x37r0 x37r0n x37r0c] w3 (fun e_4 w4=>∃x60:ByteArray,e_4= .returned
 (.string x60)∧Calls prog n_xxh_Sum #[.int .u64 x2,.string x60] w4 (fun e_5 w5=>∃x61:Int,e_5= .returned (.int .u64 x61)∧bif x48r0 !=x61 then(R
 (.tuple #[.int .i64 (0:Int),.slice none 0 0,.int .i64 (0:Int),.int .i64 (4:Int)]) w5)else(R (.tuple #[.int .i64 x19r0,.slice x37r0 x37r0n x37r0c,
 .int .i64 x48r1,.int .i64 (0:Int)]) w5)))))))))
theorem S_block_Get {x0:ByteArray} {x1:Int} {x2:Int} {x3:Int} {w:World} {R:Ending→World→Prop} (h:F_block_Get x0 x1 x2 x3 w fun v w'=>R (.returned v) w'):Calls prog n_block_Get #[.string x0,.int .i64 x1,.int .u64 x2,.int .i64 x3] w R:=vcS noAnn func18 (by kernel_rfl) (by kernel_rfl) h
def F_block_May (x0a:Int) (x0b:Int) (x0c:Int) (x0d:Int) (x0e:Int) (w:World) (R:Value→World→Prop):Prop:=
 ∀w1 b1,w1=w.alloc (.cells #[.int .i64 x0a,.int .i64 x0b,.int .i64 x0c,.int .i64 x0d,.int .u64 x0e] t_api_Options)→b1=w.heap.size→∃x4:Int,
 w1.cell? (A0 b1)=some (.int .i64 x4)∧Calls prog n_block_in #[.int .i64 x4,.int .i64 (1:Int),.int .i64 (4096:Int)] w1 (fun e w2=>∃x5:Bool,e=
 .returned (.bool x5)∧bif x5 then(∃x8:Int,w2.cell? ((A0 b1).add 1)=some (.int .i64 x8)∧Calls prog n_block_in #[.int .i64 x8,.int .i64 (7:Int),
 .int .i64 (15:Int)] w2 (fun e_2 w3=>∃x9:Bool,e_2= .returned (.bool x9)∧bif x9 then(∃x13:Int,w3.cell? ((A0 b1).add 2)=some (.int .i64 x13)∧
 Calls prog n_block_in #[.int .i64 x13,.int .i64 (7:Int),.int .i64 (12:Int)] w3 (fun e_3 w4=>∃x14:Bool,e_3= .returned (.bool x14)∧bif x14 then(∃
 x18:Int,w4.cell? ((A0 b1).add 3)=some (.int .i64 x18)∧Calls prog n_block_in #[.int .i64 x18,.int .i64 (0:Int),.int .i64 (4:Int)] w4 (fun e_4 w5=>
 ∃x19:Bool,e_4= .returned (.bool x19)∧R (.bool x19) w5))else(R (.bool false) w4)))else(R (.bool false) w3)))else(R (.bool false) w2))
theorem S_block_May {x0a:Int} {x0b:Int} {x0c:Int} {x0d:Int} {x0e:Int} {w:World} {R:Ending→World→Prop} (h:F_block_May x0a x0b x0c x0d x0e w fun v w'=>R (.returned v) w'):Calls prog n_block_May #[.agg #[.int .i64 x0a,.int .i64 x0b,.int .i64 x0c,.int .i64 x0d,.int .u64 x0e]] w R:=vcS noAnn func20 (by kernel_rfl) (by kernel_rfl) h
def F_block_isWay (x0:Int) (w:World) (R:Value→World→Prop):Prop:=
 Calls prog n_block_in #[.int .i64 x0,.int .i64 (0:Int),.int .i64 (3:Int)] w (fun e w1=>∃x4:Bool,e= .returned (.bool x4)∧R (.bool x4) w1)
theorem S_block_isWay {x0:Int} {w:World} {R:Ending→World→Prop} (h:F_block_isWay x0 w fun v w'=>R (.returned v) w'):Calls prog n_block_isWay #[.int .i64 x0] w R:=vcS noAnn func30 (by kernel_rfl) (by kernel_rfl) h
def F_block_in (x0:Int) (x1:Int) (x2:Int) (w:World) (R:Value→World→Prop):Prop:=
 bif decide (x0≥x1)then(R (.bool (decide (x0≤x2))) w)else(R (.bool false) w)
theorem S_block_in {x0:Int} {x1:Int} {x2:Int} {w:World} {R:Ending→World→Prop} (h:F_block_in x0 x1 x2 w fun v w'=>R (.returned v) w'):Calls prog n_block_in #[.int .i64 x0,.int .i64 x1,.int .i64 x2] w R:=vcS noAnn func31 (by kernel_rfl) (by kernel_rfl) h
def F_block_loader_plain (x0a:Int) (x0b:Int) (x0c:Int) (x0d:Int) (x0e:Int) (x0f:Option Addr) (x0fn:Nat) (x0fc:Nat) (w:World) (R:Value→World
 →Prop):Prop:=
 ∀w1 b1,w1=w.alloc (.cells #[.int .i64 x0a,.int .i64 x0b,.int .i64 x0c,.int .i64 x0d,.int .u64 x0e,.slice x0f x0fn x0fc] t_block_loader)→b1=
 w.heap.size→∃x5:Option Addr,∃x5n:Nat,∃x5c:Nat,w1.cell? ((A0 b1).add 5)=some (.slice x5 x5n x5c)∧Calls prog n_plain_Put #[.slice x5 x5n x5c]
 w1 (fun e w2=>∃x6:ByteArray,e= .returned (.string x6)∧R (.tuple #[.string x6,.int .i64 (0:Int)]) w2)
theorem S_block_loader_plain {x0a:Int} {x0b:Int} {x0c:Int} {x0d:Int} {x0e:Int} {x0f:Option Addr} {x0fn:Nat} {x0fc:Nat} {w:World} {R:Ending→World→Prop} (h:F_block_loader_plain x0a x0b x0c x0d x0e x0f x0fn x0fc w fun v w'=>R (.returned v) w'):Calls prog n_block_loader_plain #[.agg #[.int .i64 x0a,.int .i64 x0b,.int .i64 x0c,.int .i64 x0d,.int .u64 x0e,.slice x0f x0fn x0fc]] w R:=vcS noAnn func32 (by kernel_rfl) (by kernel_rfl) h
def F_block_loader_codes (x0a:Int) (x0b:Int) (x0c:Int) (x0d:Int) (x0e:Int) (x0f:Option Addr) (x0fn:Nat) (x0fc:Nat) (w:World) (R:Value→World
 →Prop):Prop:=
 ∀w1 b1,w1=w.alloc (.cells #[.int .i64 x0a,.int .i64 x0b,.int .i64 x0c,.int .i64 x0d,.int .u64 x0e,.slice x0f x0fn x0fc] t_block_loader)→b1=
 w.heap.size→∃x9:Option Addr,∃x9n:Nat,∃x9c:Nat,w1.cell? ((A0 b1).add 5)=some (.slice x9 x9n x9c)∧Calls prog n_hist_Parts #[.slice x9 x9n x9c]
 w1 (fun e w2=>∃x10:Option Addr,∃x10n:Nat,∃x10c:Nat,e= .returned (.slice x10 x10n x10c)∧∀w3,w3=w2.drew→∃x16:Int,w3.cell? ((A0 b1).add
 1)=some (.int .i64 x16)∧Calls prog n_hist_Of #[.slice x10 x10n x10c] w3 (fun e_2 w4=>∃x13:Option Addr,∃x13n:Nat,∃x13c:Nat,e_2= .returned
 (.slice x13 x13n x13c)∧((w3.cell? ((A0 b1).add 1)=some (.int .i64 x16)→w4.cell? ((A0 b1).add 1)=some (.int .i64 x16))∧True)∧Calls prog
 n_merge_Lengths #[.slice x13 x13n x13c,.int .i64 x16] w4 (fun e_3 w5=>∃x17r0:Option Addr,∃x17r0n:Nat,∃x17r0c:Nat,∃x17r1:Int,e_3= .returned
 (.tuple #[.slice x17r0 x17r0n x17r0c,.int .i64 x17r1])∧(True)∧bif x17r1 !=(0:Int)then(R (.tuple #[.string (⟨#[]⟩:ByteArray),.int .i64 x17r1]) w5)
 else(Calls prog n_huff_Put #[.slice x10 x10n x10c,.slice x17r0 x17r0n x17r0c] w5 (fun e_4 w6=>∃x26r0:ByteArray,∃x26r1:Int,e_4= .returned (.tuple
 #[.string x26r0,.int .i64 x26r1])∧Calls prog n_lens_Put #[.slice x17r0 x17r0n x17r0c] w6 (fun e_5 w7=>∃x30:ByteArray,e_5= .returned (.string x30)∧
 x30.size+x26r0.size≤strMax∧R (.tuple #[.string (x30++x26r0),.int .i64 x26r1]) w7))))))
theorem S_block_loader_codes {x0a:Int} {x0b:Int} {x0c:Int} {x0d:Int} {x0e:Int} {x0f:Option Addr} {x0fn:Nat} {x0fc:Nat} {w:World} {R:Ending→World→Prop} (h:F_block_loader_codes x0a x0b x0c x0d x0e x0f x0fn x0fc w fun v w'=>R (.returned v) w'):Calls prog n_block_loader_codes #[.agg #[.int .i64 x0a,.int .i64 x0b,.int .i64 x0c,.int .i64 x0d,.int .u64 x0e,.slice x0f x0fn x0fc]] w R:=vcS noAnn func33 (by kernel_rfl) (by kernel_rfl) h
def F_block_loader_states (x0a:Int) (x0b:Int) (x0c:Int) (x0d:Int) (x0e:Int) (x0f:Option Addr) (x0fn:Nat) (x0fc:Nat) (w:World) (R:Value→
 World→Prop):Prop:=
 ∀w1 b1,w1=w.alloc (.cells #[.int .i64 x0a,.int .i64 x0b,.int .i64 x0c,.int .i64 x0d,.int .u64 x0e,.slice x0f x0fn x0fc] t_block_loader)→b1=
 w.heap.size→∃x9:Option Addr,∃x9n:Nat,∃x9c:Nat,w1.cell? ((A0 b1).add 5)=some (.slice x9 x9n x9c)∧Calls prog n_hist_Parts #[.slice x9 x9n x9c]
 w1 (fun e w2=>∃x10:Option Addr,∃x10n:Nat,∃x10c:Nat,e= .returned (.slice x10 x10n x10c)∧∀w3,w3=w2.drew→∃x16:Int,w3.cell? ((A0 b1).add
 2)=some (.int .i64 x16)∧Calls prog n_hist_Of #[.slice x10 x10n x10c] w3 (fun e_2 w4=>∃x13:Option Addr,∃x13n:Nat,∃x13c:Nat,e_2= .returned
 (.slice x13 x13n x13c)∧((w3.cell? ((A0 b1).add 2)=some (.int .i64 x16)→w4.cell? ((A0 b1).add 2)=some (.int .i64 x16))∧True)∧Calls prog n_norm_Of
 #[.slice x13 x13n x13c,.int .i64 x16] w4 (fun e_3 w5=>∃x17r0:Option Addr,∃x17r0n:Nat,∃x17r0c:Nat,∃x17r1:Int,e_3= .returned (.tuple #[.slice
 x17r0 x17r0n x17r0c,.int .i64 x17r1])∧(True)∧bif x17r1 !=(0:Int)then(R (.tuple #[.string (⟨#[]⟩:ByteArray),.int .i64 x17r1]) w5)else(∃x28:
 Int,w5.cell? ((A0 b1).add 2)=some (.int .i64 x28)∧Calls prog n_states_Put #[.slice x10 x10n x10c,.slice x17r0 x17r0n x17r0c,.int .i64 x28] w5 (fun e_4
 w6=>∃x29r0:ByteArray,∃x29r1:Int,e_4= .returned (.tuple #[.string x29r0,.int .i64 x29r1])∧∀w7,w7=w6.drew→∃x34:Int,w7.cell? ((A0 b1).add
 2)=some (.int .i64 x34)∧(∀w8 b36,w8=w7.alloc (.cells #[.int .u8 (U8 x34)] t_uint8)→b36=w7.heap.size→((w7.cell? ((A0 b1).add 2)=some (.int .i64
 x34)→w8.cell? ((A0 b1).add 2)=some (.int .i64 x34))∧True)∧(∃x37:ByteArray,(Conv.bytesToString (.slice (some (A0 b36)) 1 1)).run prog w8= .ok
 (.string x37) w8∧((w8.cell? ((A0 b1).add 2)=some (.int .i64 x34)→w8.cell? ((A0 b1).add 2)=some (.int .i64 x34))∧True)∧Calls prog n_norm_Put
 #[.slice x17r0 x17r0n x17r0c] w8 (fun e_5 w9=>∃x39:ByteArray,e_5= .returned (.string x39)∧((w8.cell? ((A0 b1).add 2)=some (.int .i64 x34)→w9.cell?
 ((A0 b1).add 2)=some (.int .i64 x34))∧True)∧x37.size+x39.size≤strMax∧(x37++x39).size+x29r0.size≤strMax∧R (.tuple #[.string ((x37++x39)++
 x29r0),.int .i64 x29r1]) w9))∧(Calls prog n_norm_Put #[.slice x17r0 x17r0n x17r0c] w8 (fun e_6 w10=>∃x39_2:ByteArray,e_6= .returned (.string x39_2)∧
 ((w8.cell? ((A0 b1).add 2)=some (.int .i64 x34)→w10.cell? ((A0 b1).add 2)=some (.int .i64 x34))∧True)∧∃x37_2:ByteArray,(Conv.bytesToString
 (.slice (some (A0 b36)) 1 1)).run prog w10= .ok (.string x37_2) w10∧((w10.cell? ((A0 b1).add 2)=some (.int .i64 x34)→w10.cell? ((A0 b1).add 2)=some
 (.int .i64 x34))∧True)∧x37_2.size+x39_2.size≤strMax∧(x37_2++x39_2).size+x29r0.size≤strMax∧R (.tuple #[.string ((x37_2++x39_2)++x29r0),
 .int .i64 x29r1]) w10)))∧(Calls prog n_norm_Put #[.slice x17r0 x17r0n x17r0c] w7 (fun e_7 w11=>∃x39_3:ByteArray,e_7= .returned (.string x39_3)∧
 ((w7.cell? ((A0 b1).add 2)=some (.int .i64 x34)→w11.cell? ((A0 b1).add 2)=some (.int .i64 x34))∧True)∧∀w12 b36_2,w12=w11.alloc (.cells #[.int .u8
 (U8 x34)] t_uint8)→b36_2=w11.heap.size→((w11.cell? ((A0 b1).add 2)=some (.int .i64 x34)→w12.cell? ((A0 b1).add 2)=some (.int .i64 x34))∧True)∧∃
 x37_3:ByteArray,(Conv.bytesToString (.slice (some (A0 b36_2)) 1 1)).run prog w12= .ok (.string x37_3) w12∧((w12.cell? ((A0 b1).add 2)=some (.int .i64
 x34)→w12.cell? ((A0 b1).add 2)=some (.int .i64 x34))∧True)∧x37_3.size+x39_3.size≤strMax∧(x37_3++x39_3).size+x29r0.size≤strMax∧R (.tuple
 #[.string ((x37_3++x39_3)++x29r0),.int .i64 x29r1]) w12)))))))
theorem S_block_loader_states {x0a:Int} {x0b:Int} {x0c:Int} {x0d:Int} {x0e:Int} {x0f:Option Addr} {x0fn:Nat} {x0fc:Nat} {w:World} {R:Ending→World→Prop} (h:F_block_loader_states x0a x0b x0c x0d x0e x0f x0fn x0fc w fun v w'=>R (.returned v) w'):Calls prog n_block_loader_states #[.agg #[.int .i64 x0a,.int .i64 x0b,.int .i64 x0c,.int .i64 x0d,.int .u64 x0e,.slice x0f x0fn x0fc]] w R:=vcS noAnn func34 (by kernel_rfl) (by kernel_rfl) h
def F_block_loader_chances (x0a:Int) (x0b:Int) (x0c:Int) (x0d:Int) (x0e:Int) (x0f:Option Addr) (x0fn:Nat) (x0fc:Nat) (w:World) (R:Value→
 World→Prop):Prop:=
 ∀w1 b1,w1=w.alloc (.cells #[.int .i64 x0a,.int .i64 x0b,.int .i64 x0c,.int .i64 x0d,.int .u64 x0e,.slice x0f x0fn x0fc] t_block_loader)→b1=
 w.heap.size→∃x5:Option Addr,∃x5n:Nat,∃x5c:Nat,w1.cell? ((A0 b1).add 5)=some (.slice x5 x5n x5c)∧Calls prog n_hist_Parts #[.slice x5 x5n x5c]
 w1 (fun e w2=>∃x6:Option Addr,∃x6n:Nat,∃x6c:Nat,e= .returned (.slice x6 x6n x6c)∧Calls prog n_model_Put #[.slice x6 x6n x6c] w2 (fun e_2 w3=>
 ∃x7r0:ByteArray,∃x7r1:Int,e_2= .returned (.tuple #[.string x7r0,.int .i64 x7r1])∧R (.tuple #[.string x7r0,.int .i64 x7r1]) w3))
theorem S_block_loader_chances {x0a:Int} {x0b:Int} {x0c:Int} {x0d:Int} {x0e:Int} {x0f:Option Addr} {x0fn:Nat} {x0fc:Nat} {w:World} {R:Ending→World→Prop} (h:F_block_loader_chances x0a x0b x0c x0d x0e x0f x0fn x0fc w fun v w'=>R (.returned v) w'):Calls prog n_block_loader_chances #[.agg #[.int .i64 x0a,.int .i64 x0b,.int .i64 x0c,.int .i64 x0d,.int .u64 x0e,.slice x0f x0fn x0fc]] w R:=vcS noAnn func35 (by kernel_rfl) (by kernel_rfl) h
def F_block_unloader_plain (x0a:ByteArray) (x0b:Int) (w:World) (R:Value→World→Prop):Prop:=
 ∀w1 b1,w1=w.alloc (.cells #[.string x0a,.int .i64 x0b] t_block_unloader)→b1=w.heap.size→∃x8:ByteArray,w1.cell? (A0 b1)=some (.string x8)∧Calls
 prog n_plain_Get #[.string x8] w1 (fun e w2=>∃x9r0:Option Addr,∃x9r0n:Nat,∃x9r0c:Nat,∃x9r1:Bool,e= .returned (.tuple #[.slice x9r0 x9r0n
 x9r0c,.bool x9r1])∧∀w3,w3=w2.drew→bif x9r1 then(∃x18:Int,w3.cell? ((A0 b1).add 1)=some (.int .i64 x18)∧R (.tuple #[.slice x9r0 x9r0n x9r0c,
 .bool (((x9r0n:Nat):Int)==x18)]) w3)else(R (.tuple #[.slice x9r0 x9r0n x9r0c,.bool false]) w3))
theorem S_block_unloader_plain {x0a:ByteArray} {x0b:Int} {w:World} {R:Ending→World→Prop} (h:F_block_unloader_plain x0a x0b w fun v w'=>R (.returned v) w'):Calls prog n_block_unloader_plain #[.agg #[.string x0a,.int .i64 x0b]] w R:=vcS noAnn func45 (by kernel_rfl) (by kernel_rfl) h
def F_block_unloader_codes (x0a:ByteArray) (x0b:Int) (w:World) (R:Value→World→Prop):Prop:=
 ∀w1 b1,w1=w.alloc (.cells #[.string x0a,.int .i64 x0b] t_block_unloader)→b1=w.heap.size→∃x10:ByteArray,w1.cell? (A0 b1)=some (.string x10)∧
 Calls prog n_lens_Get #[.string x10,.int .i64 (0:Int)] w1 (fun e w2=>∃x11r0:Option Addr,∃x11r0n:Nat,∃x11r0c:Nat,∃x11r1:Int,∃x11r2:Int,
 e= .returned (.tuple #[.slice x11r0 x11r0n x11r0c,.int .i64 x11r1,.int .i64 x11r2])∧bif x11r2 !=(0:Int)then(R (.tuple #[.slice none 0 0,.bool
 false]) w2)else(∀w3,w3=w2.drew→∃x19:ByteArray,w3.cell? (A0 b1)=some (.string x19)∧0≤x11r1∧x11r1≤((x19.size:Nat):Int)∧∃x23:Int,
 w3.cell? ((A0 b1).add 1)=some (.int .i64 x23)∧Calls prog n_huff_Get #[.string (x19.extract (Int.toNat x11r1) x19.size),.int .i64 x23,.slice x11r0 x11r0n
 x11r0c] w3 (fun e_2 w4=>∃x25r0:Option Addr,∃x25r0n:Nat,∃x25r0c:Nat,∃x25r1:Int,e_2= .returned (.tuple #[.slice x25r0 x25r0n x25r0c,.int .i64
 x25r1])∧((w3.cell? (A0 b1)=some (.string x19)→w4.cell? (A0 b1)=some (.string x19))∧True)∧bif x25r1 !=(0:Int)then(R (.tuple #[.slice none 0 0,
 .bool false]) w4)else(Calls prog n_hist_Values #[.slice x25r0 x25r0n x25r0c] w4 (fun e_3 w5=>∃x31r0:Option Addr,∃x31r0n:Nat,∃x31r0c:Nat,∃x31r1
 :Bool,e_3= .returned (.tuple #[.slice x31r0 x31r0n x31r0c,.bool x31r1])∧R (.tuple #[.slice x31r0 x31r0n x31r0c,.bool x31r1]) w5)))))
theorem S_block_unloader_codes {x0a:ByteArray} {x0b:Int} {w:World} {R:Ending→World→Prop} (h:F_block_unloader_codes x0a x0b w fun v w'=>R (.returned v) w'):Calls prog n_block_unloader_codes #[.agg #[.string x0a,.int .i64 x0b]] w R:=vcS noAnn func46 (by kernel_rfl) (by kernel_rfl) h
def F_block_unloader_states (x0a:ByteArray) (x0b:Int) (w:World) (R:Value→World→Prop):Prop:=
 ∀w1 b1,w1=w.alloc (.cells #[.string x0a,.int .i64 x0b] t_block_unloader)→b1=w.heap.size→∃x10:ByteArray,w1.cell? (A0 b1)=some (.string x10)∧bif
 x10.toList==(⟨#[]⟩:ByteArray).toList then(R (.tuple #[.slice none 0 0,.bool false]) w1)else(∃x13:ByteArray,w1.cell? (A0 b1)=some (.string x13)∧
 0≤(0:Int)∧∃c14:UInt8,x13[Int.toNat (0:Int)]? =some c14∧∃x18:ByteArray,w1.cell? (A0 b1)=some (.string x18)∧Calls prog n_norm_Get
 #[.string x18,.int .i64 (1:Int),.int .i64 (W64 ((c14.toNat:Nat):Int))] w1 (fun e w2=>∃x20r0:Option Addr,∃x20r0n:Nat,∃x20r0c:Nat,∃x20r1:
 Int,∃x20r2:Int,e= .returned (.tuple #[.slice x20r0 x20r0n x20r0c,.int .i64 x20r1,.int .i64 x20r2])∧bif x20r2 !=(0:Int)then(R (.tuple #[.slice
 none 0 0,.bool false]) w2)else(∀w3,w3=w2.drew→∃x28:ByteArray,w3.cell? (A0 b1)=some (.string x28)∧0≤x20r1∧x20r1≤((x28.size:Nat):Int)
 ∧∃x32:Int,w3.cell? ((A0 b1).add 1)=some (.int .i64 x32)∧Calls prog n_states_Get #[.string (x28.extract (Int.toNat x20r1) x28.size),.int .i64 x32,
 .slice x20r0 x20r0n x20r0c,.int .i64 (W64 ((c14.toNat:Nat):Int))] w3 (fun e_2 w4=>∃x35r0:Option Addr,∃x35r0n:Nat,∃x35r0c:Nat,∃x35r1:Int,
 e_2= .returned (.tuple #[.slice x35r0 x35r0n x35r0c,.int .i64 x35r1])∧((w3.cell? (A0 b1)=some (.string x28)→w4.cell? (A0 b1)=some (.string x28))∧
 True)∧bif x35r1 !=(0:Int)then(R (.tuple #[.slice none 0 0,.bool false]) w4)else(Calls prog n_hist_Values #[.slice x35r0 x35r0n x35r0c] w4 (fun e_3 w5
 =>∃x41r0:Option Addr,∃x41r0n:Nat,∃x41r0c:Nat,∃x41r1:Bool,e_3= .returned (.tuple #[.slice x41r0 x41r0n x41r0c,.bool x41r1])∧R (.tuple
 #[.slice x41r0 x41r0n x41r0c,.bool x41r1]) w5))))))
theorem S_block_unloader_states {x0a:ByteArray} {x0b:Int} {w:World} {R:Ending→World→Prop} (h:F_block_unloader_states x0a x0b w fun v w'=>R (.returned v) w'):Calls prog n_block_unloader_states #[.agg #[.string x0a,.int .i64 x0b]] w R:=vcS noAnn func47 (by kernel_rfl) (by kernel_rfl) h
def F_block_unloader_chances (x0a:ByteArray) (x0b:Int) (w:World) (R:Value→World→Prop):Prop:=
 ∀w1 b1,w1=w.alloc (.cells #[.string x0a,.int .i64 x0b] t_block_unloader)→b1=w.heap.size→∃x8:ByteArray,w1.cell? (A0 b1)=some (.string x8)∧∃x10
 :Int,w1.cell? ((A0 b1).add 1)=some (.int .i64 x10)∧Calls prog n_model_Get #[.string x8,.int .i64 x10] w1 (fun e w2=>∃x11r0:Option Addr,∃x11r0n:
 Nat,∃x11r0c:Nat,∃x11r1:Int,e= .returned (.tuple #[.slice x11r0 x11r0n x11r0c,.int .i64 x11r1])∧bif x11r1 !=(0:Int)then(R (.tuple #[.slice
 none 0 0,.bool false]) w2)else(Calls prog n_hist_Values #[.slice x11r0 x11r0n x11r0c] w2 (fun e_2 w3=>∃x17r0:Option Addr,∃x17r0n:Nat,∃x17r0c:
 Nat,∃x17r1:Bool,e_2= .returned (.tuple #[.slice x17r0 x17r0n x17r0c,.bool x17r1])∧R (.tuple #[.slice x17r0 x17r0n x17r0c,.bool x17r1]) w3)))
theorem S_block_unloader_chances {x0a:ByteArray} {x0b:Int} {w:World} {R:Ending→World→Prop} (h:F_block_unloader_chances x0a x0b w fun v w'=>R (.returned v) w'):Calls prog n_block_unloader_chances #[.agg #[.string x0a,.int .i64 x0b]] w R:=vcS noAnn func48 (by kernel_rfl) (by kernel_rfl) h
def F_block_head (x0:ByteArray) (x1:Int) (x2:Int) (w:World) (R:Value→World→Prop):Prop:=
 ∀J5:World→Prop,(∀w1,(0≤x1∧∃c29:UInt8,x0[Int.toNat x1]? =some c29∧Calls prog n_block_isWay #[.int .i64 (W64 ((c29.toNat:Nat):Int))] w1 (fun
 e w2=>∃x32:Bool,e= .returned (.bool x32)∧bif !x32 then(R (.tuple #[.int .i64 (0:Int),.int .i64 (0:Int),.int .i64 (0:Int),.int .i64 (0:
 Int),.int .i64 (3:Int)]) w2)else(Calls prog n_vint_Get #[.string x0,.int .i64 (W64 (x1+(1:Int)))] w2 (fun e_2 w3=>∃x38r0:Int,∃x38r1:Int,∃
 x38r2:Int,e_2= .returned (.tuple #[.int .u64 x38r0,.int .i64 x38r1,.int .i64 x38r2])∧∀J15:Int→Int→World→Prop,(∀x6:Int,∀x9:Int,∀w4,
 (Calls prog n_vint_Get #[.string x0,.int .i64 x9] w4 (fun e_3 w5=>∃x61r0:Int,∃x61r1:Int,∃x61r2:Int,e_3= .returned (.tuple #[.int .u64 x61r0,
 .int .i64 x61r1,.int .i64 x61r2])∧bif x61r2 !=(0:Int)then(R (.tuple #[.int .i64 (0:Int),.int .i64 (0:Int),.int .i64 (0:Int),.int .i64 (0:
 Int),.int .i64 x61r2]) w5)else(bif decide (x61r0>(U64 ((U64 ((16:Int)*x38r0))+(1000:Int))))then(R (.tuple #[.int .i64 (0:Int),.int .i64 (0:
 Int),.int .i64 (0:Int),.int .i64 (0:Int),.int .i64 (3:Int)]) w5)else(bif decide ((W64 ((W64 x61r0)+(8:Int)))>(W64 (((x0.size:Nat):Int)-
 x61r1)))then(R (.tuple #[.int .i64 (0:Int),.int .i64 (0:Int),.int .i64 (0:Int),.int .i64 (0:Int),.int .i64 (2:Int)]) w5)else(R (.tuple #[.int
 .i64 x6,.int .i64 (W64 x38r0),.int .i64 (W64 x61r0),.int .i64 x61r1,.int .i64 (0:Int)]) w5)))))→J15 x6 x9 w4)→bif x38r2 !=(0:Int)then(R (.tuple
 #[.int .i64 (0:Int),.int .i64 (0:Int),.int .i64 (0:Int),.int .i64 (0:Int),.int .i64 x38r2]) w3)else(bif decide (x38r0<(1:Int))then(R
 (.tuple #[.int .i64 (0:Int),.int .i64 (0:Int),.int .i64 (0:Int),.int .i64 (0:Int),.int .i64 (3:Int)]) w3)else(bif decide (x38r0>(4096:Int))
 then(R (.tuple #[.int .i64 (0:Int),.int .i64 (0:Int),.int .i64 (0:Int),.int .i64 (0:Int),.int .i64 (3:Int)]) w3)else(bif decide ((W64 x38r0)>
 x2)then(R (.tuple #[.int .i64 (0:Int),.int .i64 (0:Int),.int .i64 (0:Int),.int .i64 (0:Int),.int .i64 (5:Int)]) w3)else(J15 (W64 ((c29.toNat
 :Nat):Int)) x38r1 w3))))))))→J5 w1)→bif decide (x1<(0:Int))then(R (.tuple #[.int .i64 (0:Int),.int .i64 (0:Int),.int .i64 (0:Int),.int
 .i64 (0:Int),.int .i64 (1:Int)]) w)else(bif decide (x1>((x0.size:Nat):Int))then(R (.tuple #[.int .i64 (0:Int),.int .i64 (0:Int),.int .i64
 (0:Int),.int .i64 (0:Int),.int .i64 (1:Int)]) w)else(bif x1==((x0.size:Nat):Int)then(R (.tuple #[.int .i64 (0:Int),.int .i64 (0:Int),
 .int .i64 (0:Int),.int .i64 (0:Int),.int .i64 (2:Int)]) w)else(J5 w)))
def A_block_head:Ann:= {loop:=fun k=>none,join:=fun k=>cond (Nat.beq k 15) (some (288225978105202624,[6,9],[.int .i64,.int .i64])) (cond (Nat.beq k 5) (some (134211520,[],[])) (none)),nf:=fun k=> []}
theorem S_block_head {x0:ByteArray} {x1:Int} {x2:Int} {w:World} {R:Ending→World→Prop} (h:F_block_head x0 x1 x2 w fun v w'=>R (.returned v) w'):Calls prog n_block_head #[.string x0,.int .i64 x1,.int .i64 x2] w R:=vcS A_block_head func60 (by kernel_rfl) (by kernel_rfl) h
def F_vint_Put (x0:Int) (w:World) (R:Value→World→Prop):Prop:=
 ∃I0:Nat→Int→Option Addr→Nat→Nat→World→Prop,(∃m_2,I0 m_2 x0 none 0 0 w)∧∀m,∀x0_2:Int,∀x3:Option Addr,∀x3n:Nat,∀x3c:Nat,∀w1,
 I0 m x0_2 x3 x3n x3c w1→(bif decide (x0_2≥(128:Int))then(∀w2 b12,w2=w1.alloc (.cells #[.int .u8 (orI .u8 (U8 x0_2) (128:Int))] t_uint8)→b12=
 w1.heap.size→∃x13:Option Addr,∃x13n:Nat,∃x13c:Nat,∃w3:World,(Builtin.append_ #[t_S_uint8,t_S_uint8] t_S_uint8 #[.slice x3 x3n x3c,.slice
 (some (A0 b12)) 1 1]).run prog w2= .ok (.slice x13 x13n x13c) w3∧0≤(7:Int)∧∃m_3,m_3<m∧I0 m_3 (shrI .u64 x0_2 (7:Int)) x13 x13n x13c w3)else
 (∀w4 b17,w4=w1.alloc (.cells #[.int .u8 (U8 x0_2)] t_uint8)→b17=w1.heap.size→∃x18:Option Addr,∃x18n:Nat,∃x18c:Nat,∃w5:World,
 (Builtin.append_ #[t_S_uint8,t_S_uint8] t_S_uint8 #[.slice x3 x3n x3c,.slice (some (A0 b17)) 1 1]).run prog w4= .ok (.slice x18 x18n x18c) w5∧∃x19:
 ByteArray,(Conv.bytesToString (.slice x18 x18n x18c)).run prog w5= .ok (.string x19) w5∧R (.string x19) w5))
def A_vint_Put:Ann:= {loop:=fun k=>cond (Nat.beq k 0) (some (16377,[0,3],[.int .u64,.sl])) (none),join:=fun k=>none,nf:=fun k=> []}
theorem S_vint_Put {x0:Int} {w:World} {R:Ending→World→Prop} (h:F_vint_Put x0 w fun v w'=>R (.returned v) w'):Calls prog n_vint_Put #[.int .u64 x0] w R:=vcS A_vint_Put func56 (by kernel_rfl) (by kernel_rfl) h
def F_vint_Word (x0:Int) (w:World) (R:Value→World→Prop):Prop:=
 ∀w1 b3,w1=w.alloc (.cells #[.int .u8 0,.int .u8 0,.int .u8 0,.int .u8 0,.int .u8 0,.int .u8 0,.int .u8 0,.int .u8 0] t_A8_uint8)→b3=w.heap.size→
 ∃I0:Nat→Int→World→Prop,(∃m_2,I0 m_2 (0:Int) w1)∧∀m,∀x5:Int,∀w2,I0 m x5 w2→(bif decide (x5<(8:Int))then(0≤(W64 ((8:Int)*
 x5))∧0≤x5∧x5<((8:Nat):Int)∧Sto w2 ((A0 b3).add (Int.toNat x5*1)) (.int .u8 (U8 (shrI .u64 x0 (W64 ((8:Int)*x5))))) fun w3=>∃m_3,m_3<m
 ∧I0 m_3 (W64 (x5+(1:Int))) w3)else(∃x17:ByteArray,(Conv.bytesToString (.slice (sA (some (A0 b3)) 1 0 8) (8-0) (8-0))).run prog w2= .ok (.string
 x17) w2∧R (.string x17) w2))
def A_vint_Word:Ann:= {loop:=fun k=>cond (Nat.beq k 0) (some (65520,[5],[.int .i64])) (none),join:=fun k=>none,nf:=fun k=> []}
theorem S_vint_Word {x0:Int} {w:World} {R:Ending→World→Prop} (h:F_vint_Word x0 w fun v w'=>R (.returned v) w'):Calls prog n_vint_Word #[.int .u64 x0] w R:=vcS A_vint_Word func57 (by kernel_rfl) (by kernel_rfl) h
def F_vint_GetWord (x0:ByteArray) (x1:Int) (w:World) (R:Value→World→Prop):Prop:=
 Calls prog n_vint_read #[.string x0,.int .i64 x1,.func (.func n_vint_reader_word) #[] #[]] w (fun e w1=>∃x9r0:Int,∃x9r1:Int,∃x9r2:Int,e=
 .returned (.tuple #[.int .u64 x9r0,.int .i64 x9r1,.int .i64 x9r2])∧R (.tuple #[.int .u64 x9r0,.int .i64 x9r1,.int .i64 x9r2]) w1)
theorem S_vint_GetWord {x0:ByteArray} {x1:Int} {w:World} {R:Ending→World→Prop} (h:F_vint_GetWord x0 x1 w fun v w'=>R (.returned v) w'):Calls prog n_vint_GetWord #[.string x0,.int .i64 x1] w R:=vcS noAnn func61 (by kernel_rfl) (by kernel_rfl) h
def F_vint_Get (x0:ByteArray) (x1:Int) (w:World) (R:Value→World→Prop):Prop:=
 Calls prog n_vint_read #[.string x0,.int .i64 x1,.func (.func n_vint_reader_vint) #[] #[]] w (fun e w1=>∃x9r0:Int,∃x9r1:Int,∃x9r2:Int,e=
 .returned (.tuple #[.int .u64 x9r0,.int .i64 x9r1,.int .i64 x9r2])∧R (.tuple #[.int .u64 x9r0,.int .i64 x9r1,.int .i64 x9r2]) w1)
theorem S_vint_Get {x0:ByteArray} {x1:Int} {w:World} {R:Ending→World→Prop} (h:F_vint_Get x0 x1 w fun v w'=>R (.returned v) w'):Calls prog n_vint_Get #[.string x0,.int .i64 x1] w R:=vcS noAnn func123 (by kernel_rfl) (by kernel_rfl) h
def F_vint_read (x0:ByteArray) (x1:Int) (x2:Nat) (x2f:Array Value) (x2k:Array Value) (w:World) (R:Value→World→Prop):Prop:=
 ∀J3:World→Prop,(∀w1,(0≤x1∧x1≤((x0.size:Nat):Int)∧cond (fok x2) (Calls prog x2 (x2f.toList++([.agg #[.string (x0.extract (Int.toNat x1)
 x0.size)]]:List Value)++x2k.toList).toArray w1 (fun e w2=>∃x24r0:Int,∃x24r1:Int,∃x24r2:Int,e= .returned (.tuple #[.int .u64 x24r0,.int .i64
 x24r1,.int .i64 x24r2])∧bif x24r2 !=(0:Int)then(R (.tuple #[.int .u64 (0:Int),.int .i64 (0:Int),.int .i64 x24r2]) w2)else(R (.tuple #[.int .u64
 x24r0,.int .i64 (W64 (x1+x24r1)),.int .i64 (0:Int)]) w2))) False)→J3 w1)→bif decide (x1<(0:Int))then(R (.tuple #[.int .u64 (0:Int),.int
 .i64 (0:Int),.int .i64 (1:Int)]) w)else(bif decide (x1>((x0.size:Nat):Int))then(R (.tuple #[.int .u64 (0:Int),.int .i64 (0:Int),.int .i64
 (1:Int)]) w)else(J3 w))
def A_vint_read:Ann:= {loop:=fun k=>none,join:=fun k=>cond (Nat.beq k 3) (some (261568,[],[])) (none),nf:=fun k=> []}
theorem S_vint_read {x0:ByteArray} {x1:Int} {x2:Nat} {x2f:Array Value} {x2k:Array Value} {w:World} {R:Ending→World→Prop} (h:F_vint_read x0 x1 x2 x2f x2k w fun v w'=>R (.returned v) w'):Calls prog n_vint_read #[.string x0,.int .i64 x1,.func (.func x2) x2f x2k] w R:=vcS A_vint_read func124 (by kernel_rfl) (by kernel_rfl) h
def F_vint_reader_word (x0a:ByteArray) (w:World) (R:Value→World→Prop):Prop:=
 ∀w1 b1,w1=w.alloc (.cells #[.string x0a] t_vint_reader)→b1=w.heap.size→∃x7:ByteArray,w1.cell? (A0 b1)=some (.string x7)∧bif decide (((x7.size:
 Nat):Int)<(8:Int))then(R (.tuple #[.int .u64 (0:Int),.int .i64 (0:Int),.int .i64 (2:Int)]) w1)else(∃I0:Nat→Int→Int→World→Prop,(∃
 m_2,I0 m_2 (0:Int) (0:Int) w1)∧∀m,∀x2:Int,∀x10:Int,∀w2,I0 m x2 x10 w2→(bif decide (x10<(8:Int))then(∃x15:ByteArray,w2.cell? (A0
 b1)=some (.string x15)∧0≤x10∧∃c17:UInt8,x15[Int.toNat x10]? =some c17∧0≤(W64 ((8:Int)*x10))∧∃m_3,m_3<m∧I0 m_3 (orI .u64 x2 (shlI
 .u64 (U64 ((c17.toNat:Nat):Int)) (W64 ((8:Int)*x10)))) (W64 (x10+(1:Int))) w2)else(R (.tuple #[.int .u64 x2,.int .i64 (8:Int),.int .i64 (0:
 Int)]) w2)))
def A_vint_reader_word:Ann:= {loop:=fun k=>cond (Nat.beq k 0) (some (16776228,[2,10],[.int .u64,.int .i64])) (none),join:=fun k=>none,nf:=fun k=> []}
theorem S_vint_reader_word {x0a:ByteArray} {w:World} {R:Ending→World→Prop} (h:F_vint_reader_word x0a w fun v w'=>R (.returned v) w'):Calls prog n_vint_reader_word #[.agg #[.string x0a]] w R:=vcS A_vint_reader_word func125 (by kernel_rfl) (by kernel_rfl) h
def F_vint_reader_vint (x0a:ByteArray) (w:World) (R:Value→World→Prop):Prop:=
 ∀w1 b1,w1=w.alloc (.cells #[.string x0a] t_vint_reader)→b1=w.heap.size→∃x8:ByteArray,w1.cell? (A0 b1)=some (.string x8)∧∃I0:Nat→Int→Int
 →World→Prop,(∃m_2,I0 m_2 (0:Int) (0:Int) w1)∧∀m,∀x2:Int,∀x11:Int,∀w2,I0 m x2 x11 w2→(bif decide (x11<(if (10:Int)<((x8.size:
 Nat):Int)then(10:Int)else((x8.size:Nat):Int)))then(∃x15:ByteArray,w2.cell? (A0 b1)=some (.string x15)∧0≤x11∧∃c17:UInt8,
 x15[Int.toNat x11]? =some c17∧Calls prog n_bits_Len8 #[.int .u8 (andI .u8 ((c17.toNat:Nat):Int) (127:Int))] w2 (fun e w3=>∃x20:Int,e= .returned
 (.int .i64 x20)∧bif decide (x20>(W64 ((64:Int)-(W64 ((7:Int)*x11)))))then(R (.tuple #[.int .u64 (0:Int),.int .i64 (0:Int),.int .i64 (3:
 Int)]) w3)else(0≤(W64 ((7:Int)*x11))∧bif decide (((c17.toNat:Nat):Int)≥(128:Int))then(∃m_3,m_3<m∧I0 m_3 (orI .u64 x2 (shlI .u64 (U64
 (andI .u8 ((c17.toNat:Nat):Int) (127:Int))) (W64 ((7:Int)*x11)))) (W64 (x11+(1:Int))) w3)else(bif ((c17.toNat:Nat):Int)==(0:Int)then
 (bif decide (x11>(0:Int))then(R (.tuple #[.int .u64 (0:Int),.int .i64 (0:Int),.int .i64 (3:Int)]) w3)else(R (.tuple #[.int .u64 (orI .u64 x2
 (shlI .u64 (U64 (andI .u8 ((c17.toNat:Nat):Int) (127:Int))) (W64 ((7:Int)*x11)))),.int .i64 (W64 (x11+(1:Int))),.int .i64 (0:Int)]) w3))else
 (R (.tuple #[.int .u64 (orI .u64 x2 (shlI .u64 (U64 (andI .u8 ((c17.toNat:Nat):Int) (127:Int))) (W64 ((7:Int)*x11)))),.int .i64 (W64 (x11+(1:
 Int))),.int .i64 (0:Int)]) w3)))))else(∃x46:ByteArray,w2.cell? (A0 b1)=some (.string x46)∧bif decide (((x46.size:Nat):Int)≥(10:Int))then
 (R (.tuple #[.int .u64 (0:Int),.int .i64 (0:Int),.int .i64 (3:Int)]) w2)else(R (.tuple #[.int .u64 (0:Int),.int .i64 (0:Int),.int .i64 (2:
 Int)]) w2)))
def A_vint_reader_vint:Ann:= {loop:=fun k=>cond (Nat.beq k 0) (some (35184372086908,[2,11],[.int .u64,.int .i64])) (none),join:=fun k=>none,nf:=fun k=> []}
theorem S_vint_reader_vint {x0a:ByteArray} {w:World} {R:Ending→World→Prop} (h:F_vint_reader_vint x0a w fun v w'=>R (.returned v) w'):Calls prog n_vint_reader_vint #[.agg #[.string x0a]] w R:=vcS A_vint_reader_vint func189 (by kernel_rfl) (by kernel_rfl) h
def F_xxh_Sum (x0:Int) (x1:ByteArray) (w:World) (R:Value→World→Prop):Prop:=
 bif decide (((x1.size:Nat):Int)<(32:Int))then(Calls prog n_xxh_tail #[.int .u64 (U64 ((U64 (x0+(2870177450012600261:Int)))+(U64 ((x1.size:Nat)
 :Int)))),.string x1] w (fun e w1=>∃x35:Int,e= .returned (.int .u64 x35)∧Calls prog n_xxh_Mix #[.int .u64 x35] w1 (fun e_2 w2=>∃x36:Int,e_2=
 .returned (.int .u64 x36)∧R (.int .u64 x36) w2)))else(Calls prog n_xxh_begun #[.int .u64 x0] w (fun e_3 w3=>∃x19a:Int,∃x19b:Int,∃x19c:Int,∃
 x19d:Int,e_3= .returned (.agg #[.int .u64 x19a,.int .u64 x19b,.int .u64 x19c,.int .u64 x19d])∧∀w4 b7,w4=w3.alloc (.cells #[.int .u64 0,.int .u64
 0,.int .u64 0,.int .u64 0] t_xxh_four)→b7=w3.heap.size→Sto w4 (A0 b7) (.int .u64 x19a) fun w5=>Sto w5 ((A0 b7).add 1) (.int .u64 x19b) fun w6=>Sto
 w6 ((A0 b7).add 2) (.int .u64 x19c) fun w7=>Sto w7 ((A0 b7).add 3) (.int .u64 x19d) fun w8=>∃I0:Nat→ByteArray→World→Prop,(∃m_2,I0 m_2 x1 w8)∧
 ∀m,∀x1_2:ByteArray,∀w9,I0 m x1_2 w9→(bif decide (((x1_2.size:Nat):Int)≥(32:Int))then(∃x26a:Int,∃x26b:Int,∃x26c:Int,∃x26d:
 Int,LdL w9 (A0 b7) 0 [.int .u64 x26a,.int .u64 x26b,.int .u64 x26c,.int .u64 x26d]∧Calls prog n_xxh_four_step #[.agg #[.int .u64 x26a,.int .u64 x26b,
 .int .u64 x26c,.int .u64 x26d],.string x1_2] w9 (fun e_4 w10=>∃x28a:Int,∃x28b:Int,∃x28c:Int,∃x28d:Int,e_4= .returned (.agg #[.int .u64
 x28a,.int .u64 x28b,.int .u64 x28c,.int .u64 x28d])∧Sto w10 (A0 b7) (.int .u64 x28a) fun w11=>Sto w11 ((A0 b7).add 1) (.int .u64 x28b) fun w12=>Sto
 w12 ((A0 b7).add 2) (.int .u64 x28c) fun w13=>Sto w13 ((A0 b7).add 3) (.int .u64 x28d) fun w14=>0≤(32:Int)∧(32:Int)≤((x1_2.size:Nat):Int)∧∃
 m_3,m_3<m∧I0 m_3 (x1_2.extract (Int.toNat (32:Int)) x1_2.size) w14))else(∃x29a:Int,∃x29b:Int,∃x29c:Int,∃x29d:Int,LdL w9 (A0 b7) 0
 [.int .u64 x29a,.int .u64 x29b,.int .u64 x29c,.int .u64 x29d]∧Calls prog n_xxh_four_joined #[.agg #[.int .u64 x29a,.int .u64 x29b,.int .u64 x29c,.int
 .u64 x29d]] w9 (fun e_5 w15=>∃x30:Int,e_5= .returned (.int .u64 x30)∧Calls prog n_xxh_tail #[.int .u64 (U64 (x30+(U64 ((x1.size:Nat):Int)))),
 .string x1_2] w15 (fun e_6 w16=>∃x35_2:Int,e_6= .returned (.int .u64 x35_2)∧Calls prog n_xxh_Mix #[.int .u64 x35_2] w16 (fun e_7 w17=>∃x36_2:Int,
 e_7= .returned (.int .u64 x36_2)∧R (.int .u64 x36_2) w17)))))))
def A_xxh_Sum:Ann:= {loop:=fun k=>cond (Nat.beq k 0) (some (535822338,[1],[.str])) (none),join:=fun k=>none,nf:=fun k=> []}
theorem S_xxh_Sum {x0:Int} {x1:ByteArray} {w:World} {R:Ending→World→Prop} (h:F_xxh_Sum x0 x1 w fun v w'=>R (.returned v) w'):Calls prog n_xxh_Sum #[.int .u64 x0,.string x1] w R:=vcS A_xxh_Sum func58 (by kernel_rfl) (by kernel_rfl) h
def F_xxh_begun (x0:Int) (w:World) (R:Value→World→Prop):Prop:=
 ∀w1 b2,w1=w.alloc (.cells #[.int .u64 0,.int .u64 0,.int .u64 0,.int .u64 0] t_xxh_four)→b2=w.heap.size→Sto w1 (A0 b2) (.int .u64 (U64 ((U64 (x0+
 (11400714785074694791:Int)))+(14029467366897019727:Int)))) fun w2=>Sto w2 ((A0 b2).add 1) (.int .u64 (U64 (x0+(14029467366897019727:Int)))) fun w3
 =>Sto w3 ((A0 b2).add 2) (.int .u64 x0) fun w4=>Sto w4 ((A0 b2).add 3) (.int .u64 (U64 (x0-(11400714785074694791:Int)))) fun w5=>∃r0a:Int,∃r0b:
 Int,∃r0c:Int,∃r0d:Int,LdL w5 (A0 b2) 0 [.int .u64 r0a,.int .u64 r0b,.int .u64 r0c,.int .u64 r0d]∧R (.agg #[.int .u64 r0a,.int .u64 r0b,.int
 .u64 r0c,.int .u64 r0d]) w5
theorem S_xxh_begun {x0:Int} {w:World} {R:Ending→World→Prop} (h:F_xxh_begun x0 w fun v w'=>R (.returned v) w'):Calls prog n_xxh_begun #[.int .u64 x0] w R:=vcS noAnn func116 (by kernel_rfl) (by kernel_rfl) h
def F_xxh_four_step (x0a:Int) (x0b:Int) (x0c:Int) (x0d:Int) (x1:ByteArray) (w:World) (R:Value→World→Prop):Prop:=
 ∀w1 b2,w1=w.alloc (.cells #[.int .u64 x0a,.int .u64 x0b,.int .u64 x0c,.int .u64 x0d] t_xxh_four)→b2=w.heap.size→∀w2 b4,w2=w1.alloc (.cells
 #[.int .u64 0,.int .u64 0,.int .u64 0,.int .u64 0] t_xxh_four)→b4=w1.heap.size→∃I0:Nat→Int→World→Prop,(∃m_2,I0 m_2 (0:Int) w2)∧∀m,∀
 x9:Int,∀w3,I0 m x9 w3→(bif decide (x9<(4:Int))then(Calls prog n_vint_GetWord #[.string x1,.int .i64 (W64 (x9*(8:Int)))] w3 (fun e w4=>∃
 x16r0:Int,∃x16r1:Int,∃x16r2:Int,e= .returned (.tuple #[.int .u64 x16r0,.int .i64 x16r1,.int .i64 x16r2])∧0≤x9∧x9<((4:Nat):Int)∧∃
 x23:Int,w4.cell? ((A0 b2).add (Int.toNat x9*1))=some (.int .u64 x23)∧Calls prog n_xxh_Round #[.int .u64 x23,.int .u64 x16r0] w4 (fun e_2 w5=>∃x25
 :Int,e_2= .returned (.int .u64 x25)∧0≤x9∧x9<((4:Nat):Int)∧Sto w5 ((A0 b2).add (Int.toNat x9*1)) (.int .u64 x25) fun w6=>∃m_3,m_3<m∧
 I0 m_3 (W64 (x9+(1:Int))) w6)))else(∃x28a:Int,∃x28b:Int,∃x28c:Int,∃x28d:Int,LdL w3 (A0 b2) 0 [.int .u64 x28a,.int .u64 x28b,.int .u64
 x28c,.int .u64 x28d]∧Sto w3 (A0 b4) (.int .u64 x28a) fun w7=>Sto w7 ((A0 b4).add 1) (.int .u64 x28b) fun w8=>Sto w8 ((A0 b4).add 2) (.int .u64 x28c) fun
 w9=>Sto w9 ((A0 b4).add 3) (.int .u64 x28d) fun w10=>∃r0a:Int,∃r0b:Int,∃r0c:Int,∃r0d:Int,LdL w10 (A0 b4) 0 [.int .u64 r0a,.int .u64 r0b,
 .int .u64 r0c,.int .u64 r0d]∧R (.agg #[.int .u64 r0a,.int .u64 r0b,.int .u64 r0c,.int .u64 r0d]) w10))
def A_xxh_four_step:Ann:= {loop:=fun k=>cond (Nat.beq k 0) (some (268435424,[9],[.int .i64])) (none),join:=fun k=>none,nf:=fun k=> []}
theorem S_xxh_four_step {x0a:Int} {x0b:Int} {x0c:Int} {x0d:Int} {x1:ByteArray} {w:World} {R:Ending→World→Prop} (h:F_xxh_four_step x0a x0b x0c x0d x1 w fun v w'=>R (.returned v) w'):Calls prog n_xxh_four_step #[.agg #[.int .u64 x0a,.int .u64 x0b,.int .u64 x0c,.int .u64 x0d],.string x1] w R:=vcS A_xxh_four_step func117 (by kernel_rfl) (by kernel_rfl) h
def F_xxh_four_joined (x0a:Int) (x0b:Int) (x0c:Int) (x0d:Int) (w:World) (R:Value→World→Prop):Prop:=
 ∀w1 b1,w1=w.alloc (.cells #[.int .u64 x0a,.int .u64 x0b,.int .u64 x0c,.int .u64 x0d] t_xxh_four)→b1=w.heap.size→∃I0:Nat→Int→Int→World→
 Prop,(∃m_2,I0 m_2 (0:Int) (0:Int) w1)∧∀m,∀x3:Int,∀x9:Int,∀w2,I0 m x3 x9 w2→(bif decide (x9<(4:Int))then(0≤x9∧x9<((4:Nat):
 Int)∧∃x12:Int,([.int .i64 (1:Int),.int .i64 (7:Int),.int .i64 (12:Int),.int .i64 (18:Int)]:List Value)[Int.toNat x9*1]? =some (.int .i64
 x12)∧0≤x9∧x9<((4:Nat):Int)∧∃x16:Int,w2.cell? ((A0 b1).add (Int.toNat x9*1))=some (.int .u64 x16)∧Calls prog n_bits_RotateLeft64 #[.int
 .u64 x16,.int .i64 x12] w2 (fun e w3=>∃x18:Int,e= .returned (.int .u64 x18)∧∃m_3,m_3<m∧I0 m_3 (U64 (x3+x18)) (W64 (x9+(1:Int))) w3))else
 (∃x21a:Int,∃x21b:Int,∃x21c:Int,∃x21d:Int,LdL w2 (A0 b1) 0 [.int .u64 x21a,.int .u64 x21b,.int .u64 x21c,.int .u64 x21d]∧∃I2:Nat→Int→
 Int→World→Prop,(∃m_5,I2 m_5 x3 (0:Int) w2)∧∀m_4,∀x3_2:Int,∀x22:Int,∀w4,I2 m_4 x3_2 x22 w4→(bif decide (x22<(4:Int))then(0≤x22
 ∧x22<((4:Nat):Int)∧∃x24:Int,([.int .u64 x21a,.int .u64 x21b,.int .u64 x21c,.int .u64 x21d]:List Value)[Int.toNat x22*1]? =some (.int .u64
 x24)∧Calls prog n_xxh_Round #[.int .u64 (0:Int),.int .u64 x24] w4 (fun e_2 w5=>∃x27:Int,e_2= .returned (.int .u64 x27)∧∃m_6,m_6<m_4∧I2 m_6
 (U64 ((U64 ((xorI .u64 x3_2 x27)*(11400714785074694791:Int)))+(9650029242287828579:Int))) (W64 (x22+(1:Int))) w5))else(R (.int .u64 x3_2) w4))))
def A_xxh_four_joined:Ann:= {loop:=fun k=>cond (Nat.beq k 2) (some (4290773128,[3,22],[.int .u64,.int .i64])) (cond (Nat.beq k 0) (some (2096696,[3,9],[.int .u64,.int .i64])) (none)),join:=fun k=>none,nf:=fun k=> []}
theorem S_xxh_four_joined {x0a:Int} {x0b:Int} {x0c:Int} {x0d:Int} {w:World} {R:Ending→World→Prop} (h:F_xxh_four_joined x0a x0b x0c x0d w fun v w'=>R (.returned v) w'):Calls prog n_xxh_four_joined #[.agg #[.int .u64 x0a,.int .u64 x0b,.int .u64 x0c,.int .u64 x0d]] w R:=vcS A_xxh_four_joined func118 (by kernel_rfl) (by kernel_rfl) h
def F_xxh_Mix (x0:Int) (w:World) (R:Value→World→Prop):Prop:=
 0≤(33:Int)∧0≤(29:Int)∧0≤(32:Int)∧R (.int .u64 (xorI .u64 (U64 ((xorI .u64 (U64 ((xorI .u64 x0 (shrI .u64 x0 (33:Int)))*
 (14029467366897019727:Int))) (shrI .u64 (U64 ((xorI .u64 x0 (shrI .u64 x0 (33:Int)))*(14029467366897019727:Int))) (29:Int)))*(1609587929392839161:
 Int))) (shrI .u64 (U64 ((xorI .u64 (U64 ((xorI .u64 x0 (shrI .u64 x0 (33:Int)))*(14029467366897019727:Int))) (shrI .u64 (U64 ((xorI .u64 x0 (shrI .u64 x0
 (33:Int)))*(14029467366897019727:Int))) (29:Int)))*(1609587929392839161:Int))) (32:Int)))) w
theorem S_xxh_Mix {x0:Int} {w:World} {R:Ending→World→Prop} (h:F_xxh_Mix x0 w fun v w'=>R (.returned v) w'):Calls prog n_xxh_Mix #[.int .u64 x0] w R:=vcS noAnn func119 (by kernel_rfl) (by kernel_rfl) h
def F_xxh_tail (x0:Int) (x1:ByteArray) (w:World) (R:Value→World→Prop):Prop:=
 ∃I0:Nat→Int→ByteArray→World→Prop,(∃m_2,I0 m_2 x0 x1 w)∧∀m,∀x0_2:Int,∀x1_2:ByteArray,∀w1,I0 m x0_2 x1_2 w1→(bif decide (((x1_2.size
 :Nat):Int)≥(8:Int))then(Calls prog n_vint_GetWord #[.string x1_2,.int .i64 (0:Int)] w1 (fun e w2=>∃x18r0:Int,∃x18r1:Int,∃x18r2:Int,e
 = .returned (.tuple #[.int .u64 x18r0,.int .i64 x18r1,.int .i64 x18r2])∧Calls prog n_xxh_Round #[.int .u64 (0:Int),.int .u64 x18r0] w2 (fun e_2 w3=>∃
 x24:Int,e_2= .returned (.int .u64 x24)∧Calls prog n_bits_RotateLeft64 #[.int .u64 (xorI .u64 x0_2 x24),.int .i64 (27:Int)] w3 (fun e_3 w4=>∃x26:
 Int,e_3= .returned (.int .u64 x26)∧0≤(8:Int)∧(8:Int)≤((x1_2.size:Nat):Int)∧∃m_3,m_3<m∧I0 m_3 (U64 ((U64 (x26*(11400714785074694791
 :Int)))+(9650029242287828579:Int))) (x1_2.extract (Int.toNat (8:Int)) x1_2.size) w4))))else(∀J9:Int→ByteArray→World→Prop,(∀x0_3:Int,∀
 x1_3:ByteArray,∀w5,(∃x60:Option Addr,∃x60n:Nat,∃x60c:Nat,∃w6:World,(Conv.stringToBytes t_uint8 x1_3).run prog w5= .ok (.slice x60 x60n
 x60c) w6∧∃I2:Nat→Int→Int→World→Prop,(∃m_5,I2 m_5 x0_3 (0:Int) w6)∧∀m_4,∀x0_4:Int,∀x62:Int,∀w7,I2 m_4 x0_4 x62 w7→(bif decide
 (x62<((x60n:Nat):Int))then(0≤x62∧x62<((x60n:Nat):Int)∧OSome x60 fun p64=>∃x65:Int,w7.cell? (p64.add (Int.toNat x62*1))=some (.int
 .u8 x65)∧Calls prog n_bits_RotateLeft64 #[.int .u64 (xorI .u64 x0_4 (U64 ((U64 x65)*(2870177450012600261:Int)))),.int .i64 (11:Int)] w7 (fun e_4 w8=>
 ∃x71:Int,e_4= .returned (.int .u64 x71)∧∃m_6,m_6<m_4∧I2 m_6 (U64 (x71*(11400714785074694791:Int))) (W64 (x62+(1:Int))) w8))else(R (.int
 .u64 x0_4) w7)))→J9 x0_3 x1_3 w5)→bif decide (((x1_2.size:Nat):Int)≥(4:Int))then(∀w9,w9=w1.drew→0≤(0:Int)∧∃c33:UInt8,
 x1_2[Int.toNat (0:Int)]? =some c33∧0≤(1:Int)∧∃c36:UInt8,x1_2[Int.toNat (1:Int)]? =some c36∧0≤(8:Int)∧0≤(2:Int)∧∃c41:UInt8,
 x1_2[Int.toNat (2:Int)]? =some c41∧0≤(16:Int)∧0≤(3:Int)∧∃c46:UInt8,x1_2[Int.toNat (3:Int)]? =some c46∧0≤(24:Int)∧Calls prog
 n_bits_RotateLeft64 #[.int .u64 (xorI .u64 x0_2 (U64 ((orI .u64 (orI .u64 (orI .u64 (U64 ((c33.toNat:Nat):Int)) (shlI .u64 (U64 ((c36.toNat:Nat):Int))
 (8:Int))) (shlI .u64 (U64 ((c41.toNat:Nat):Int)) (16:Int))) (shlI .u64 (U64 ((c46.toNat:Nat):Int)) (24:Int)))*(11400714785074694791:Int)))),
 .int .i64 (23:Int)] w9 (fun e_5 w10=>∃x54:Int,e_5= .returned (.int .u64 x54)∧0≤(4:Int)∧(4:Int)≤((x1_2.size:Nat):Int)∧J9 (U64 ((U64
 (x54*(14029467366897019727:Int)))+(1609587929392839161:Int))) (x1_2.extract (Int.toNat (4:Int)) x1_2.size) w10))else(J9 x0_2 x1_2 w1)))
def A_xxh_tail:Ann:= {loop:=fun k=>cond (Nat.beq k 2) (some (18884854245460153467905,[0,62],[.int .u64,.int .i64])) (cond (Nat.beq k 0) (some (536869091,[0,1],[.int .u64,.str])) (none)),join:=fun k=>cond (Nat.beq k 9) (some (576460751766552835,[0,1],[.int .u64,.str])) (none),nf:=fun k=> []}
theorem S_xxh_tail {x0:Int} {x1:ByteArray} {w:World} {R:Ending→World→Prop} (h:F_xxh_tail x0 x1 w fun v w'=>R (.returned v) w'):Calls prog n_xxh_tail #[.int .u64 x0,.string x1] w R:=vcS A_xxh_tail func120 (by kernel_rfl) (by kernel_rfl) h
def F_xxh_Round (x0:Int) (x1:Int) (w:World) (R:Value→World→Prop):Prop:=
 Calls prog n_bits_RotateLeft64 #[.int .u64 (U64 (x0+(U64 (x1*(14029467366897019727:Int))))),.int .i64 (31:Int)] w (fun e w1=>∃x9:Int,e= .returned
 (.int .u64 x9)∧R (.int .u64 (U64 (x9*(11400714785074694791:Int)))) w1)
theorem S_xxh_Round {x0:Int} {x1:Int} {w:World} {R:Ending→World→Prop} (h:F_xxh_Round x0 x1 w fun v w'=>R (.returned v) w'):Calls prog n_xxh_Round #[.int .u64 x0,.int .u64 x1] w R:=vcS noAnn func186 (by kernel_rfl) (by kernel_rfl) h
def F_plain_Put (x0:Option Addr) (x0n:Nat) (x0c:Nat) (w:World) (R:Value→World→Prop):Prop:=
 ∀w1 b3,w1=w.alloc (.cells #[.pointer none,.slice none 0 0] t_strings_Builder)→b3=w.heap.size→∃I0:Nat→Int→World→Prop,(∃m_2,I0 m_2 (0:Int)
 w1)∧∀m,∀x10:Int,∀w2,I0 m x10 w2→(bif decide (x10<((x0n:Nat):Int))then(0≤x10∧x10<((x0n:Nat):Int)∧OSome x0 fun p12=>∃x13:
 Int,w2.cell? (p12.add (Int.toNat x10*1))=some (.int .i64 x13)∧Calls prog n_vint_Word #[.int .u64 (U64 x13)] w2 (fun e w3=>∃x17:ByteArray,e=
 .returned (.string x17)∧Calls prog n_strings_Builder_WriteString #[.pointer (some (A0 b3)),.string x17] w3 (fun e_2 w4=>∃x18r0:Int,∃x18r1:Value,
 e_2= .returned (.tuple #[.int .i64 x18r0,x18r1])∧∃m_3,m_3<m∧I0 m_3 (W64 (x10+(1:Int))) w4)))else(Calls prog n_strings_Builder_String #[.pointer
 (some (A0 b3))] w2 (fun e_3 w5=>∃x20:ByteArray,e_3= .returned (.string x20)∧R (.string x20) w5)))
def A_plain_Put:Ann:= {loop:=fun k=>cond (Nat.beq k 0) (some (1047616,[10],[.int .i64])) (none),join:=fun k=>none,nf:=fun k=> []}
theorem S_plain_Put {x0:Option Addr} {x0n:Nat} {x0c:Nat} {w:World} {R:Ending→World→Prop} (h:F_plain_Put x0 x0n x0c w fun v w'=>R (.returned v) w'):Calls prog n_plain_Put #[.slice x0 x0n x0c] w R:=vcS A_plain_Put func59 (by kernel_rfl) (by kernel_rfl) h
def F_plain_Get (x0:ByteArray) (w:World) (R:Value→World→Prop):Prop:=
 (8:Int)≠0∧bif (Int.tmod ((x0.size:Nat):Int) (8:Int)) !=(0:Int)then(R (.tuple #[.slice none 0 0,.bool false]) w)else(∃I0:Nat→Option Addr
 →Nat→Nat→Int→World→Prop,(∃m_2,I0 m_2 none 0 0 (0:Int) w)∧∀m,∀x4:Option Addr,∀x4n:Nat,∀x4c:Nat,∀x5:Int,∀w1,I0 m x4 x4n x4c
 x5 w1→(bif decide (x5<((x0.size:Nat):Int))then(Calls prog n_vint_GetWord #[.string x0,.int .i64 x5] w1 (fun e w2=>∃x20r0:Int,∃x20r1:Int,∃
 x20r2:Int,e= .returned (.tuple #[.int .u64 x20r0,.int .i64 x20r1,.int .i64 x20r2])∧∀w3 b27,w3=w2.alloc (.cells #[.int .i64 (W64 x20r0)] t_int64)→
 b27=w2.heap.size→∃x28:Option Addr,∃x28n:Nat,∃x28c:Nat,∃w4:World,(Builtin.append_ #[t_S_int64,t_S_int64] t_S_int64 #[.slice x4 x4n x4c,
 .slice (some (A0 b27)) 1 1]).run prog w3= .ok (.slice x28 x28n x28c) w4∧∃m_3,m_3<m∧I0 m_3 x28 x28n x28c x20r1 w4))else(R (.tuple #[.slice x4 x4n
 x4c,.bool true]) w1)))
def A_plain_Get:Ann:= {loop:=fun k=>cond (Nat.beq k 0) (some (1073734128,[4,5],[.sl,.int .i64])) (none),join:=fun k=>none,nf:=fun k=> []}
theorem S_plain_Get {x0:ByteArray} {w:World} {R:Ending→World→Prop} (h:F_plain_Get x0 w fun v w'=>R (.returned v) w'):Calls prog n_plain_Get #[.string x0] w R:=vcS A_plain_Get func98 (by kernel_rfl) (by kernel_rfl) h
def F_strings_Builder_WriteString (x0:Option Addr) (x1:ByteArray) (w:World) (R:Value→World→Prop):Prop:=
 Calls prog n_strings_Builder_copyCheck #[.pointer x0] w (fun e w1=>e= .returned (.tuple #[])∧OSome x0 fun p10=>∃x12:Option Addr,∃x12n:Nat,∃x12c:
 Nat,w1.cell? (p10.add 1)=some (.slice x12 x12n x12c)∧∃x14:Option Addr,∃x14n:Nat,∃x14c:Nat,∃w2:World,(Builtin.append_ #[t_S_uint8,
 t_string] t_S_uint8 #[.slice x12 x12n x12c,.string x1]).run prog w1= .ok (.slice x14 x14n x14c) w2∧OSome x0 fun p15=>Sto w2 (p15.add 1) (.slice x14 x14n
 x14c) fun w3=>R (.tuple #[.int .i64 ((x1.size:Nat):Int),.nilIface]) w3)
theorem S_strings_Builder_WriteString {x0:Option Addr} {x1:ByteArray} {w:World} {R:Ending→World→Prop} (h:F_strings_Builder_WriteString x0 x1 w fun v w'=>R (.returned v) w'):Calls prog n_strings_Builder_WriteString #[.pointer x0,.string x1] w R:=vcS noAnn func121 (by kernel_rfl) (by kernel_rfl) h
def F_bits_RotateLeft64 (x0:Int) (x1:Int) (w:World) (R:Value→World→Prop):Prop:=
 0≤(andI .u64 (U64 x1) (63:Int))∧0≤(U64 ((64:Int)-(andI .u64 (U64 x1) (63:Int))))∧R (.int .u64 (orI .u64 (shlI .u64 x0 (andI .u64 (U64 x1) (63:
 Int))) (shrI .u64 x0 (U64 ((64:Int)-(andI .u64 (U64 x1) (63:Int))))))) w
theorem S_bits_RotateLeft64 {x0:Int} {x1:Int} {w:World} {R:Ending→World→Prop} (h:F_bits_RotateLeft64 x0 x1 w fun v w'=>R (.returned v) w'):Calls prog n_bits_RotateLeft64 #[.int .u64 x0,.int .i64 x1] w R:=vcS noAnn func187 (by kernel_rfl) (by kernel_rfl) h
def F_l21_Options (x0:Int) (x1:Int) (x2:Int) (x3:Int) (x4:Int) (w:World) (R:Value→World→Prop):Prop:=
 ∀w1 b10,w1=w.alloc (.cells #[.int .i64 0,.int .i64 0,.int .i64 0,.int .i64 0,.int .u64 0] t_api_Options)→b10=w.heap.size→(30:Int)≠0∧(9:Int)
 ≠0∧(6:Int)≠0∧(5:Int)≠0∧Sto w1 (A0 b10) (.int .i64 (W64 ((1:Int)+(Int.tmod (W64 x0) (30:Int))))) fun w2=>Sto w2 ((A0 b10).add 1) (.int
 .i64 (W64 ((7:Int)+(Int.tmod (W64 x1) (9:Int))))) fun w3=>Sto w3 ((A0 b10).add 2) (.int .i64 (W64 ((7:Int)+(Int.tmod (W64 x2) (6:Int))))) fun w4
 =>Sto w4 ((A0 b10).add 3) (.int .i64 (Int.tmod (W64 x3) (5:Int))) fun w5=>Sto w5 ((A0 b10).add 4) (.int .u64 x4) fun w6=>∃r0a:Int,∃r0b:Int,∃r0c
 :Int,∃r0d:Int,∃r0e:Int,LdL w6 (A0 b10) 0 [.int .i64 r0a,.int .i64 r0b,.int .i64 r0c,.int .i64 r0d,.int .u64 r0e]∧R (.agg #[.int .i64 r0a,.int
 .i64 r0b,.int .i64 r0c,.int .i64 r0d,.int .u64 r0e]) w6
theorem S_l21_Options {x0:Int} {x1:Int} {x2:Int} {x3:Int} {x4:Int} {w:World} {R:Ending→World→Prop} (h:F_l21_Options x0 x1 x2 x3 x4 w fun v w'=>R (.returned v) w'):Calls prog n_l21_Options #[.int .u8 x0,.int .u8 x1,.int .u8 x2,.int .u8 x3,.int .u64 x4] w R:=vcS noAnn func25 (by kernel_rfl) (by kernel_rfl) h
def F_l11_Numbers (x0:Option Addr) (x0n:Nat) (x0c:Nat) (w:World) (R:Value→World→Prop):Prop:=
 ∃I0:Nat→Option Addr→Nat→Nat→Int→World→Prop,(∃m_2,I0 m_2 none 0 0 (0:Int) w)∧∀m,∀x3:Option Addr,∀x3n:Nat,∀x3c:Nat,∀x4:Int,
 ∀w1,I0 m x3 x3n x3c x4 w1→(∀J5:World→Prop,(∀w2,(0≤x4∧x4<((x0n:Nat):Int)∧OSome x0 fun p18=>∃x19:Int,w2.cell? (p18.add (Int.toNat
 x4*1))=some (.int .u16 x19)∧(1024:Int)≠0∧0≤x4∧x4<((x0n:Nat):Int)∧OSome x0 fun p24=>∃x25:Int,w2.cell? (p24.add (Int.toNat x4*1))
 =some (.int .u16 x25)∧(1024:Int)≠0∧(6:Int)≠0∧bif (Int.tmod (U16 (Int.tdiv x25 (1024:Int))) (6:Int))==(0:Int)then((3:Int)≠0∧∀w3
 b57,w3=w2.alloc (.cells #[.int .i64 (Int.tmod (W64 (Int.tmod x19 (1024:Int))) (3:Int))] t_int64)→b57=w2.heap.size→∃x58:Option Addr,∃x58n:
 Nat,∃x58c:Nat,∃w4:World,(Builtin.append_ #[t_S_int64,t_S_int64] t_S_int64 #[.slice x3 x3n x3c,.slice (some (A0 b57)) 1 1]).run prog w3= .ok (.slice
 x58 x58n x58c) w4∧∃m_3,m_3<m∧I0 m_3 x58 x58n x58c (W64 (x4+(1:Int))) w4)else(bif (Int.tmod (U16 (Int.tdiv x25 (1024:Int))) (6:Int))==(1:
 Int)then(∀w5 b57_2,w5=w2.alloc (.cells #[.int .i64 (W64 (0-W64 (Int.tmod x19 (1024:Int))))] t_int64)→b57_2=w2.heap.size→∃x58_2:Option Addr,
 ∃x58_2n:Nat,∃x58_2c:Nat,∃w6:World,(Builtin.append_ #[t_S_int64,t_S_int64] t_S_int64 #[.slice x3 x3n x3c,.slice (some (A0 b57_2)) 1 1]).run prog
 w5= .ok (.slice x58_2 x58_2n x58_2c) w6∧∃m_3,m_3<m∧I0 m_3 x58_2 x58_2n x58_2c (W64 (x4+(1:Int))) w6)else(bif (Int.tmod (U16 (Int.tdiv x25 (1024
 :Int))) (6:Int))==(2:Int)then(0≤x4∧x4<((x0n:Nat):Int)∧OSome x0 fun p41=>∃x42:Int,w2.cell? (p41.add (Int.toNat x4*1))=some (.int
 .u16 x42)∧(53:Int)≠0∧0≤(Int.tmod x42 (53:Int))∧∀w7 b57_3,w7=w2.alloc (.cells #[.int .i64 (shlI .i64 (W64 (Int.tmod x19 (1024:Int)))
 (Int.tmod x42 (53:Int)))] t_int64)→b57_3=w2.heap.size→∃x58_3:Option Addr,∃x58_3n:Nat,∃x58_3c:Nat,∃w8:World,(Builtin.append_
 #[t_S_int64,t_S_int64] t_S_int64 #[.slice x3 x3n x3c,.slice (some (A0 b57_3)) 1 1]).run prog w7= .ok (.slice x58_3 x58_3n x58_3c) w8∧∃m_3,m_3<m∧I0
 m_3 x58_3 x58_3n x58_3c (W64 (x4+(1:Int))) w8)else(bif (Int.tmod (U16 (Int.tdiv x25 (1024:Int))) (6:Int))==(3:Int)then(0≤x4∧x4<((x0n:
 Nat):Int)∧OSome x0 fun p51=>∃x52:Int,w2.cell? (p51.add (Int.toNat x4*1))=some (.int .u16 x52)∧(54:Int)≠0∧0≤(Int.tmod x52 (54:Int))∧
 ∀w9 b57_4,w9=w2.alloc (.cells #[.int .i64 (shlI .i64 (W64 (0-W64 (Int.tmod x19 (1024:Int)))) (Int.tmod x52 (54:Int)))] t_int64)→b57_4=
 w2.heap.size→∃x58_4:Option Addr,∃x58_4n:Nat,∃x58_4c:Nat,∃w10:World,(Builtin.append_ #[t_S_int64,t_S_int64] t_S_int64 #[.slice x3 x3n x3c,
 .slice (some (A0 b57_4)) 1 1]).run prog w9= .ok (.slice x58_4 x58_4n x58_4c) w10∧∃m_3,m_3<m∧I0 m_3 x58_4 x58_4n x58_4c (W64 (x4+(1:Int))) w10)
 else(∀w11 b57_5,w11=w2.alloc (.cells #[.int .i64 (W64 (Int.tmod x19 (1024:Int)))] t_int64)→b57_5=w2.heap.size→∃x58_5:Option Addr,∃x58_5n:
 Nat,∃x58_5c:Nat,∃w12:World,(Builtin.append_ #[t_S_int64,t_S_int64] t_S_int64 #[.slice x3 x3n x3c,.slice (some (A0 b57_5)) 1 1]).run prog w11= .ok
 (.slice x58_5 x58_5n x58_5c) w12∧∃m_3,m_3<m∧I0 m_3 x58_5 x58_5n x58_5c (W64 (x4+(1:Int))) w12)))))→J5 w2)→bif decide (x4<((x0n:Nat):
 Int))then(bif decide (x4<(60:Int))then(J5 w1)else(R (.slice x3 x3n x3c) w1))else(R (.slice x3 x3n x3c) w1))
def A_l11_Numbers:Ann:= {loop:=fun k=>cond (Nat.beq k 0) (some (576460752303423480,[3,4],[.sl,.int .i64])) (none),join:=fun k=>cond (Nat.beq k 5) (some (16320,[],[])) (none),nf:=fun k=> []}
theorem S_l11_Numbers {x0:Option Addr} {x0n:Nat} {x0c:Nat} {w:World} {R:Ending→World→Prop} (h:F_l11_Numbers x0 x0n x0c w fun v w'=>R (.returned v) w'):Calls prog n_l11_Numbers #[.slice x0 x0n x0c] w R:=vcS A_l11_Numbers func24 (by kernel_rfl) (by kernel_rfl) h
def F_l21_awake (w:World) (R:Value→World→Prop):Prop:=
 Calls prog n_l21_Options #[.int .u8 (1:Int),.int .u8 (2:Int),.int .u8 (0:Int),.int .u8 (4:Int),.int .u64 (7:Int)] w (fun e w1=>∃x8a:Int,∃x8b
 :Int,∃x8c:Int,∃x8d:Int,∃x8e:Int,e= .returned (.agg #[.int .i64 x8a,.int .i64 x8b,.int .i64 x8c,.int .i64 x8d,.int .u64 x8e])∧∀w2 b1,w2=
 w1.alloc (.cells #[.int .i64 0,.int .i64 0,.int .i64 0,.int .i64 0,.int .u64 0] t_api_Options)→b1=w1.heap.size→Sto w2 (A0 b1) (.int .i64 x8a) fun w3
 =>Sto w3 ((A0 b1).add 1) (.int .i64 x8b) fun w4=>Sto w4 ((A0 b1).add 2) (.int .i64 x8c) fun w5=>Sto w5 ((A0 b1).add 3) (.int .i64 x8d) fun w6=>Sto w6
 ((A0 b1).add 4) (.int .u64 x8e) fun w7=>∃x10a:Int,∃x10b:Int,∃x10c:Int,∃x10d:Int,∃x10e:Int,LdL w7 (A0 b1) 0 [.int .i64 x10a,.int .i64
 x10b,.int .i64 x10c,.int .i64 x10d,.int .u64 x10e]∧∀w8 b11,w8=w7.alloc (.cells #[.int .i64 (0:Int)] t_int64)→b11=w7.heap.size→Calls prog
 n_block_Put #[.int .i64 (0:Int),.agg #[.int .i64 x10a,.int .i64 x10b,.int .i64 x10c,.int .i64 x10d,.int .u64 x10e],.slice (some (A0 b11)) 1 1] w8 (fun
 e_2 w9=>∃x12r0:ByteArray,∃x12r1:Int,e_2= .returned (.tuple #[.string x12r0,.int .i64 x12r1])∧Calls prog n_block_Get #[.string x12r0,.int .i64 (0
 :Int),.int .u64 (7:Int),.int .i64 (9:Int)] w9 (fun e_3 w10=>∃x17r0:Int,∃x17r1:Option Addr,∃x17r1n:Nat,∃x17r1c:Nat,∃x17r2:Int,∃
 x17r3:Int,e_3= .returned (.tuple #[.int .i64 x17r0,.slice x17r1 x17r1n x17r1c,.int .i64 x17r2,.int .i64 x17r3])∧bif ((x12r0.size:Nat):Int)==(19
 :Int)then(Calls prog n_l1_Err #[.int .i64 x12r1] w10 (fun e_4 w11=>∃x27:Int,e_4= .returned (.int .i64 x27)∧Calls prog n_l1_Err #[.int .i64 x17r3]
 w11 (fun e_5 w12=>∃x29:Int,e_5= .returned (.int .i64 x29)∧bif (W64 (x27+x29))==(0:Int)then(bif x17r0==(0:Int)then(bif ((x17r1n:Nat):
 Int)==(1:Int)then(R (.bool (x17r2==(19:Int))) w12)else(R (.bool false) w12))else(R (.bool false) w12))else(R (.bool false) w12))))else(R
 (.bool false) w10))))
theorem S_l21_awake {w:World} {R:Ending→World→Prop} (h:F_l21_awake w fun v w'=>R (.returned v) w'):Calls prog n_l21_awake #[] w R:=vcS noAnn func11 (by kernel_rfl) (by kernel_rfl) h
end Go.Proofs.Tryz
namespace Go.Proofs.Tryz
open Go Go.RowKit Go.Proofs.VC
set_option maxHeartbeats 1000000 in
set_option maxRecDepth 100000 in
theorem copyCheck_used (b:Nat) (w:World) (h0:w.cell? ⟨b,0,none⟩=some (.pointer (some ⟨b,0,none⟩))):
 Calls prog 188 #[.pointer (some ⟨b,0,none⟩)] w fun e w'=>e= .returned (.tuple #[])∧w'=w:=by
 go_enter func188,ntmps188
 go_wp2
 rw [Lib.run_neq_ptr_same w _ underlying186 (j:=(prog.info? 188).get (by kernel_rfl)) (by kernel_rfl)]
 go_wp2
 go_end0
 exact⟨rfl,rfl⟩
set_option maxHeartbeats 1000000 in
set_option maxRecDepth 100000 in
theorem copyCheck_fresh (b:Nat) (w:World) (h0:w.cell? ⟨b,0,none⟩=some (.pointer none)) (hsh:w.shape? b=some (188,2)) (hfz:w.frozen? ⟨b,0,none⟩=false):
 Calls prog 188 #[.pointer (some ⟨b,0,none⟩)] w fun e w'=>e= .returned (.tuple #[])∧w'=w.setCell ⟨b,0,none⟩ (.pointer (some ⟨b,0,none⟩)):=by
 go_enter func188,ntmps188
 go_wp2
 rw [Lib.run_to_unsafe w ⟨b,0,none⟩ underlying186 underlying338 (j:=(prog.info? 188).get (by kernel_rfl)) (by kernel_rfl) (by decide+kernel) hsh (Nat.zero_lt_succ 1)]
 simp only [Result.andThen]
 rw [Oper.upon_value]
 go_wp2
 rw [run_callFunc_extern func226 (by kernel_rfl) (by kernel_rfl) (by kernel_rfl) (e:=Extern.AbiNoEscape.same) (by kernel_rfl)]
 rw [Lib.run_noEscape]
 simp only [Result.andThen]
 rw [Oper.upon_value]
 go_wp2
 rw [Lib.run_from_unsafe w ⟨b,0,none⟩ underlying338 underlying186 (j:=(prog.info? 188).get (by kernel_rfl)) (by kernel_rfl) hsh (by kernel_rfl)]
 simp only [Result.andThen]
 rw [Oper.upon_value]
 go_wp2
 go_end0
 exact⟨rfl,rfl⟩
end Go.Proofs.Tryz
namespace Go.Proofs
open Go.Shelf
open Go.RowKit in
def Tryz.lays169_ren:Go.Shelf.Ren:=⟨fun|169=>122|n=>n,fun|70=>186|9=>9|0=>0|72=>188|37=>51|127=>280|3=>3|5=>5|n=>n,fun|n=>n⟩
theorem Tryz.lays169:Go.Proofs.Lays.n169 Tryz.prog Tryz.lays169_ren:= {
 mixed:=by kernel_rfl
 f169:=Tryz.func122.trans (congrArg some (by kernel_rfl))
 t0:=Tryz.underlying0
 a0:=Tryz.isAgg0
 z0:=Tryz.sizeOf0
 v0:=Tryz.zeroValue0
 t3:=Tryz.underlying3
 a3:=Tryz.isAgg3
 z3:=Tryz.sizeOf3
 v3:=Tryz.zeroValue3
 t9:=Tryz.underlying9
 a9:=Tryz.isAgg9
 z9:=Tryz.sizeOf9
 v9:=Tryz.zeroValue9
 t37:=Tryz.underlying51
 a37:=Tryz.isAgg51
 z37:=Tryz.sizeOf51
 v37:=Tryz.zeroValue51
 t70:=Tryz.underlying186
 a70:=Tryz.isAgg186
 z70:=Tryz.sizeOf186
 v70:=Tryz.zeroValue186
 t72:=Tryz.underlying188
 a72:=Tryz.isAgg188
 z72:=Tryz.sizeOf188
 v72:=Tryz.zeroValue188
 t127:=Tryz.underlying280
 a127:=Tryz.isAgg280
 z127:=Tryz.sizeOf280
 v127:=Tryz.zeroValue280}
theorem Tryz.Builder_Extra_169:Builder.Extra Tryz.prog Tryz.lays169_ren:= {
 sizeBuilder:=by kernel_rfl
 liesBuilder:=by kernel_rfl
 t5:=Tryz.underlying5
 a5:=Tryz.isAgg5
 z5:=Tryz.sizeOf5
 v5:=Tryz.zeroValue5
 infoByte:=by kernel_rfl
 cellsByte:=by kernel_rfl
 sizeByte:=by kernel_rfl
 neB5:=by decide}
open Go.RowKit in
open Go.RowKit in
open Go.RowKit in
theorem Tryz.Builder_String_any (B b:Nat) (l:List UInt8) (w:World) (h:Lib.IsBuilder 188 5 B b (Lib.byteCells l) w) (hBw:B≤w.heap.size):
 Calls Tryz.prog 122 #[.pointer (some ⟨b,0,none⟩)] w fun e w'=>e= .returned (.string ⟨l.toArray⟩)∧Below B w w':=Any.Builder_String_any Tryz.lays169 Tryz.Builder_Extra_169 B b l w h hBw
def Tryz.lays126_ren:Go.Shelf.Ren:=⟨fun|126=>227|n=>n,fun|5=>5|3=>3|9=>9|n=>n,fun|n=>n⟩
theorem Tryz.lays126:Go.Proofs.Lays.n126 Tryz.prog Tryz.lays126_ren:= {
 mixed:=by kernel_rfl
 f126:=Tryz.func227.trans (congrArg some (by kernel_rfl))
 t3:=Tryz.underlying3
 a3:=Tryz.isAgg3
 z3:=Tryz.sizeOf3
 v3:=Tryz.zeroValue3
 t5:=Tryz.underlying5
 a5:=Tryz.isAgg5
 z5:=Tryz.sizeOf5
 v5:=Tryz.zeroValue5
 t9:=Tryz.underlying9
 a9:=Tryz.isAgg9
 z9:=Tryz.sizeOf9
 v9:=Tryz.zeroValue9}
theorem Tryz.bits_Len8 (x:Int) (w:World) (h0:0≤x) (h1:x≤255):
 Calls Tryz.prog 227 #[.int .u8 x] w fun e w'=>e= .returned (.int .i64 (Lib.bitLen x.toNat))∧w'=w:=Any.bits_Len8 Tryz.lays126 x w h0 h1
def Tryz.lays125_ren:Go.Shelf.Ren:=⟨fun|125=>233|128=>250|129=>191|n=>n,fun|46=>108|3=>3|51=>364|53=>22|4=>4|5=>5|9=>9|n=>n,fun|n=>n⟩
theorem Tryz.lays125:Go.Proofs.Lays.n125 Tryz.prog Tryz.lays125_ren:= {
 mixed:=by kernel_rfl
 f125:=Tryz.func233.trans (congrArg some (by kernel_rfl))
 f128:=Tryz.func250.trans (congrArg some (by kernel_rfl))
 f129:=Tryz.func191.trans (congrArg some (by kernel_rfl))
 t3:=Tryz.underlying3
 a3:=Tryz.isAgg3
 z3:=Tryz.sizeOf3
 v3:=Tryz.zeroValue3
 t4:=Tryz.underlying4
 a4:=Tryz.isAgg4
 z4:=Tryz.sizeOf4
 v4:=Tryz.zeroValue4
 t5:=Tryz.underlying5
 a5:=Tryz.isAgg5
 z5:=Tryz.sizeOf5
 v5:=Tryz.zeroValue5
 t9:=Tryz.underlying9
 a9:=Tryz.isAgg9
 z9:=Tryz.sizeOf9
 v9:=Tryz.zeroValue9
 t46:=Tryz.underlying108
 a46:=Tryz.isAgg108
 z46:=Tryz.sizeOf108
 v46:=Tryz.zeroValue108
 t51:=Tryz.underlying364
 a51:=Tryz.isAgg364
 z51:=Tryz.sizeOf364
 v51:=Tryz.zeroValue364
 t53:=Tryz.underlying22
 a53:=Tryz.isAgg22
 z53:=Tryz.sizeOf22
 v53:=Tryz.zeroValue22}
theorem Tryz.bits_Len (x:Int) (w:World) (h0:0≤x) (h1:x≤18446744073709551615):
 Calls Tryz.prog 233 #[.int .u64 x] w fun e w'=>e= .returned (.int .i64 (Lib.bitLen x.toNat))∧w'=w:=Any.bits_Len Tryz.lays125 x w h0 h1
def Tryz.lays129_ren:Go.Shelf.Ren:=⟨fun|129=>191|n=>n,fun|53=>22|3=>3|4=>4|46=>108|5=>5|9=>9|n=>n,fun|n=>n⟩
theorem Tryz.lays129:Go.Proofs.Lays.n129 Tryz.prog Tryz.lays129_ren:= {
 mixed:=by kernel_rfl
 f129:=Tryz.func191.trans (congrArg some (by kernel_rfl))
 t3:=Tryz.underlying3
 a3:=Tryz.isAgg3
 z3:=Tryz.sizeOf3
 v3:=Tryz.zeroValue3
 t4:=Tryz.underlying4
 a4:=Tryz.isAgg4
 z4:=Tryz.sizeOf4
 v4:=Tryz.zeroValue4
 t5:=Tryz.underlying5
 a5:=Tryz.isAgg5
 z5:=Tryz.sizeOf5
 v5:=Tryz.zeroValue5
 t9:=Tryz.underlying9
 a9:=Tryz.isAgg9
 z9:=Tryz.sizeOf9
 v9:=Tryz.zeroValue9
 t46:=Tryz.underlying108
 a46:=Tryz.isAgg108
 z46:=Tryz.sizeOf108
 v46:=Tryz.zeroValue108
 t53:=Tryz.underlying22
 a53:=Tryz.isAgg22
 z53:=Tryz.sizeOf22
 v53:=Tryz.zeroValue22}
theorem Tryz.bits_Len64 (x:Int) (w:World) (h0:0≤x) (h1:x≤18446744073709551615):
 Calls Tryz.prog 191 #[.int .u64 x] w fun e w'=>e= .returned (.int .i64 (Lib.bitLen x.toNat))∧w'=w:=Any.bits_Len64 Tryz.lays129 x w h0 h1
end Go.Proofs
namespace Go.Proofs.Tryz
open Go Go.RowKit Go.Proofs.VC
variable {M:List Nat} {w0 w:World} {L:List (Nat×Obj)}
theorem info5:∃i,prog.info? t_uint8=some i∧i.zero=some (.int .u8 0)∧i.size=1∧i.bytes=1:=⟨(prog.info? t_uint8).get (by kernel_rfl),by kernel_rfl,by kernel_rfl,by kernel_rfl,by kernel_rfl⟩
theorem info2:∃i,prog.info? t_int64=some i∧i.zero=some (.int .i64 0)∧i.size=1∧i.bytes=8:=⟨(prog.info? t_int64).get (by kernel_rfl),by kernel_rfl,by kernel_rfl,by kernel_rfl,by kernel_rfl⟩
theorem T_strings_Builder_WriteString {b j:Nat} {p:Value} {a:Option Addr} {n c:Nat} {l s:List UInt8} {R:Ending→World→Prop} (H:St M w0 w L) (hj:L[j]? =some (b,.cells #[p,.slice a n c] t_strings_Builder (0,0)))
 (hp:p= .pointer none∨p= .pointer (some (A0 b))) (ho:Ow M w0 w L t_uint8 1 a n c (u8s l)) (hb:n+s.length≤140737488355328)
 (h:∀a' c' w',St M w0 w' (L.set j (b,.cells #[.pointer (some (A0 b)),.slice a' (n+s.length) c'] t_strings_Builder (0,0)))→
  Ow M w0 w' (L.set j (b,.cells #[.pointer (some (A0 b)),.slice a' (n+s.length) c'] t_strings_Builder (0,0))) t_uint8 1 a' (n+s.length) c' (u8s (l++s))→R (.returned (.tuple #[.int .i64 (s.length:Int),.nilIface])) w'):
 Calls prog n_strings_Builder_WriteString #[.pointer (some (A0 b)),.string (S s)] w R:=by
 refine S_strings_Builder_WriteString ?_
 unfold F_strings_Builder_WriteString
 obtain⟨i5,hi,hz,hs,hby⟩:=info5
 have hlt:=(List.getElem?_eq_some_iff.1 hj).1
 have rest:∀w1,St M w0 w1 (L.set j (b,.cells #[.pointer (some (A0 b)),.slice a n c] t_strings_Builder (0,0)))→Ow M w0 w1 (L.set j (b,.cells #[.pointer (some (A0 b)),.slice a n c] t_strings_Builder (0,0))) t_uint8 1 a n c (u8s l)→
  ∃x12 x12n x12c,w1.cell? ((A0 b).add 1)=some (.slice x12 x12n x12c)∧∃x14 x14n x14c,∃w2:World,(Builtin.append_ #[t_S_uint8,t_string] t_S_uint8 #[.slice x12 x12n x12c,.string (S s)]).run prog w1= .ok (.slice x14 x14n x14c) w2∧
   OSome (some (A0 b)) fun p15=>Sto w2 (p15.add 1) (.slice x14 x14n x14c) fun w3=>R (.returned (.tuple #[.int .i64 (((S s).size:Nat):Int),.nilIface])) w3:=by
  intro w1 H1 ho1
  have hj1:(L.set j (b,Obj.cells #[.pointer (some (A0 b)),.slice a n c] t_strings_Builder (0,0)))[j]? =some (b,.cells #[.pointer (some (A0 b)),.slice a n c] t_strings_Builder (0,0)):=by simp [hlt]
  refine⟨a,n,c,?_,?_⟩
  · rw [A0_add];exact H1.cell j hj1 rfl
  · refine St.appendS H1 ho1 u_S_uint8 u_string hi hz hs hby s hb fun a' c2 w2 H2 ho2=>?_
    rw [OSome_some,A0_add]
    refine H2.sto_own ho2 j hj1 (by simp) fun w3 H3 ho3=>?_
    rw [S_size]
    rw [List.set_set]at H3 ho3
    rw [←u8s_app]at ho3
    exact h a' c2 w3 H3 ho3
 have hb0:=H.get j hj
 rcases hp with rfl|rfl
 · refine(copyCheck_fresh b w ?_ ?_ ?_).mono ?_
   · rw [cell_of_heap hb0];rfl
   · simp [World.shape?,hb0]
   · exact frozen_of_heap hb0 (.inr (Nat.zero_le _))
   · rintro e w1 ⟨rfl,rfl⟩
     refine⟨rfl,OSome.i ?_⟩
     refine rest _ (H.setAt j hj) (ho.after (Fr.setCell (M:= [b]) w (a:=⟨b,0,none⟩) (by simp) _) ?_ (keys_set hj))
     intro q hq hm
     have:=ho.sep q hq _ (List.mem_of_getElem? hj)
     simp at hm
     exact this hm.symm
 · refine(copyCheck_used b w ?_).mono ?_
   · rw [cell_of_heap hb0];rfl
   · rintro e w1 ⟨rfl,rfl⟩
     refine⟨rfl,OSome.i ?_⟩
     have e1:L.set j (b,Obj.cells #[.pointer (some (A0 b)),.slice a n c] t_strings_Builder (0,0))=L:=by
      apply List.ext_getElem?
      intro k
      by_cases hk:j=k
      · subst hk;rw [List.getElem?_set_self hlt,hj]
      · rw [List.getElem?_set_ne hk]
     exact rest _ (by rw [e1];exact H) (by rw [e1];exact ho)
theorem app8 {b:Nat} {v:UInt8} {a:Option Addr} {n c:Nat} {l:List UInt8} {x:Int} (H:St M w0 w ((b,.cells #[.int .u8 x] t_uint8 (0,0))::L)) (ho:Ow M w0 w ((b,.cells #[.int .u8 x] t_uint8 (0,0))::L) t_uint8 1 a n c (u8s l))
 (hx:x=(v.toNat:Int)) (hn:n+1≤140737488355328)
 {G:Option Addr→Nat→Nat→World→Prop} (hg:∀a' c2 w',St M w0 w' L→Ow M w0 w' L t_uint8 1 a' (n+1) c2 (u8s (l++ [v]))→G a' (n+1) c2 w'):
 ∃x xn xc,∃w':World,(Builtin.append_ #[t_S_uint8,t_S_uint8] t_S_uint8 #[.slice a n c,.slice (some (A0 b)) 1 1]).run prog w= .ok (.slice x xn xc) w'∧G x xn xc w':=by
 obtain⟨i5,hi,hz,hs,hby⟩:=info5
 subst hx
 refine St.append H ho u_S_uint8 hi hz hs hby rfl (by decide) (news:= [.int .u8 (v.toNat:Int)]) rfl (by decide) (H.sl 0 rfl) (by simp [Value.oneCell']) (by omega) (by decide) fun a' c2 w' H' ho'=>?_
 refine hg a' c2 w' H'.tail ?_
 rw [u8s_app]
 exact ho'.tail
theorem app64 {b:Nat} {v:Int} {a:Option Addr} {n c:Nat} {l:List Int} (H:St M w0 w ((b,.cells #[.int .i64 v] t_int64 (0,0))::L)) (ho:Ow M w0 w ((b,.cells #[.int .i64 v] t_int64 (0,0))::L) t_int64 1 a n c (i64s l))
 (hn:(n+1)*8≤140737488355328)
 {G:Option Addr→Nat→Nat→World→Prop} (hg:∀a' c2 w',St M w0 w' L→Ow M w0 w' L t_int64 1 a' (n+1) c2 (i64s (l++ [v]))→G a' (n+1) c2 w'):
 ∃x xn xc,∃w':World,(Builtin.append_ #[t_S_int64,t_S_int64] t_S_int64 #[.slice a n c,.slice (some (A0 b)) 1 1]).run prog w= .ok (.slice x xn xc) w'∧G x xn xc w':=by
 obtain⟨i2,hi,hz,hs,hby⟩:=info2
 refine St.append H ho u_S_int64 hi hz hs hby rfl (by decide) (news:= [.int .i64 v]) rfl (by decide) (H.sl 0 rfl) (by simp [Value.oneCell']) (by omega) (by decide) fun a' c2 w' H' ho'=>?_
 refine hg a' c2 w' H'.tail ?_
 rw [i64s_app]
 exact ho'.tail
theorem T_strings_Builder_String {b j:Nat} {p:Value} {a:Option Addr} {n c:Nat} {l:List UInt8} {R:Ending→World→Prop} (H:St [] w0 w L) (hj:L[j]? =some (b,.cells #[p,.slice a n c] t_strings_Builder (0,0)))
 (hp:p= .pointer none∨p= .pointer (some (A0 b))) (ho:Ow [] w0 w L t_uint8 1 a n c (u8s l)) (h:∀w',St [] w0 w' []→R (.returned (.string (S l))) w'):
 Calls prog n_strings_Builder_String #[.pointer (some (A0 b))] w R:=by
 have hmem:=List.mem_of_getElem? hj
 have hb0:=H.get j hj
 have hat:Lib.BuilderAt t_strings_Builder t_uint8 w0.heap.size b p (Lib.byteCells l) w:=by
  refine⟨by rcases(H.own _ hmem).1 with h|h<;>simp_all,.slice a n c,hb0,?_,?_⟩
  · have hl:=ho.len
    have hl':n=(Lib.byteCells l).length:=by simpa [Lib.byteCells_length]using hl.symm
    rw [←hl']
    refine⟨by rw [Nat.mul_one];exact hl'.symm,?_⟩
    rcases ho.row.2 with h|⟨g,cap,cur,hv,_,rest⟩
    · exact .inl h
    · cases hv
      refine .inr ⟨g,c,cur,rfl,?_,rest⟩
      rcases ho.new _ rfl with h|h
      · exact h
      · simp at h
  · intro hh
    cases a with
    |none=>cases hh
    |some q=>
     simp [Value.ownBlock]at hh
     exact ho.sep q rfl _ hmem hh.symm
 refine(Builder_String_any w0.heap.size b l w ?_ H.fr.size).mono ?_
 · rcases hp with rfl|rfl
   · exact .inl hat
   · exact .inr hat
 · rintro e w' ⟨rfl,hbel⟩
   exact h w' ⟨⟨hbel.os.trans H.fr.os,hbel.tape.trans H.fr.tape,hbel.output.trans H.fr.output,Nat.le_trans H.fr.size hbel.size,fun k hk hm=>(hbel.block k hk).trans (H.fr.block k hk hm)⟩,by simp,by simp⟩
end Go.Proofs.Tryz
namespace Go.Proofs.Tryz
open Go Go.RowKit Go.Proofs.VC
variable {M:List Nat} {w0 w:World} {L:List En}
theorem app {P:Program} {e size bytes b j n c:Nat} {a:Option Addr} {xs:List Value} {cs:Array Value} {z:Value} {t ty:TypeId} (H:Sx M w0 w (.ob b (.cells cs e (0,0))::L)) (hj:L[j]? =some (.ow e size a n c xs))
 (ht:P.underlying t=some (.slice e)) (hi:∃i,P.info? e=some i∧i.zero=some z∧i.size=size∧i.bytes=bytes) (hzs:z.cells.size=size) (hsz:0<size) (hcs:cs.toList.length=size)
 (h1:∀u∈cs.toList,u.oneCell'=true) (hb:(n+1)*bytes≤140737488355328) (hb0:0<bytes)
 {G:Option Addr→Nat→Nat→World→Prop} (hg:∀a' c2 w',Sx M w0 w' (L.set j (.ow e size a' (n+1) c2 (xs++cs.toList)))→G a' (n+1) c2 w'):
 ∃x xn xc,∃w':World,(Builtin.append_ #[t,t] ty #[.slice a n c,.slice (some (A0 b)) 1 1]).run P w= .ok (.slice x xn xc) w'∧G x xn xc w':=by
 obtain⟨i,hi,hz,hs,hby⟩:=hi
 refine Sx.append H (j+1) hj ht hi hz hs hby hzs hsz (m:=1) (by rw [hcs,Nat.one_mul]) (by decide) (H.sl 0 rfl) h1 hb hb0 fun a' c2 w' H'=>?_
 exact hg a' c2 w' H'.tail
theorem app_uint8 {b j n c:Nat} {a:Option Addr} {l:List UInt8} {x:Int} {v:UInt8} (H:Sx M w0 w (.ob b (.cells #[.int .u8 x] t_uint8 (0,0))::L)) (hj:L[j]? =some (.ow t_uint8 1 a n c (u8s l))) (hx:x=(v.toNat:Int)) (hn:n+1≤140737488355328)
 {G:Option Addr→Nat→Nat→World→Prop} (hg:∀a' c2 w',Sx M w0 w' (L.set j (.ow t_uint8 1 a' (n+1) c2 (u8s (l++ [v]))))→G a' (n+1) c2 w'):
 ∃x xn xc,∃w':World,(Builtin.append_ #[t_S_uint8,t_S_uint8] t_S_uint8 #[.slice a n c,.slice (some (A0 b)) 1 1]).run prog w= .ok (.slice x xn xc) w'∧G x xn xc w':=by
 subst hx
 refine app H hj u_S_uint8 i_uint8 rfl (by decide) rfl (by simp [Value.oneCell']) (by omega) (by decide) fun a' c2 w' H'=>hg a' c2 w' ?_
 rw [u8s_app];exact H'
theorem app_int64 {b j n c:Nat} {a:Option Addr} {l:List Int} {v:Int} (H:Sx M w0 w (.ob b (.cells #[.int .i64 v] t_int64 (0,0))::L)) (hj:L[j]? =some (.ow t_int64 1 a n c (i64s l))) (hn:(n+1)*8≤140737488355328)
 {G:Option Addr→Nat→Nat→World→Prop} (hg:∀a' c2 w',Sx M w0 w' (L.set j (.ow t_int64 1 a' (n+1) c2 (i64s (l++ [v]))))→G a' (n+1) c2 w'):
 ∃x xn xc,∃w':World,(Builtin.append_ #[t_S_int64,t_S_int64] t_S_int64 #[.slice a n c,.slice (some (A0 b)) 1 1]).run prog w= .ok (.slice x xn xc) w'∧G x xn xc w':=by
 refine app H hj u_S_int64 i_int64 rfl (by decide) rfl (by simp [Value.oneCell']) hn (by decide) fun a' c2 w' H'=>hg a' c2 w' ?_
 rw [i64s_app];exact H'
theorem app_int {b j n c:Nat} {a:Option Addr} {l:List Int} {v:Int} (H:Sx M w0 w (.ob b (.cells #[.int .i64 v] t_int (0,0))::L)) (hj:L[j]? =some (.ow t_int 1 a n c (i64s l))) (hn:(n+1)*8≤140737488355328)
 {G:Option Addr→Nat→Nat→World→Prop} (hg:∀a' c2 w',Sx M w0 w' (L.set j (.ow t_int 1 a' (n+1) c2 (i64s (l++ [v]))))→G a' (n+1) c2 w'):
 ∃x xn xc,∃w':World,(Builtin.append_ #[t_S_int,t_S_int] t_S_int #[.slice a n c,.slice (some (A0 b)) 1 1]).run prog w= .ok (.slice x xn xc) w'∧G x xn xc w':=by
 refine app H hj u_S_int i_int rfl (by decide) rfl (by simp [Value.oneCell']) hn (by decide) fun a' c2 w' H'=>hg a' c2 w' ?_
 rw [i64s_app];exact H'
def u64s (l:List Nat):List Value:=l.map fun(n:Nat)=> .int .u64 (n:Int)
@[simp] theorem u64s_len (l:List Nat):(u64s l).length=l.length:=by simp [u64s]
theorem u64s_app (a b:List Nat):u64s (a++b)=u64s a++u64s b:=by simp [u64s]
theorem u64s_get {l:List Nat} {i:Nat} {u:Nat} (h:l[i]? =some u):(u64s l)[i]? =some (.int .u64 (u:Int)):=by simp [u64s,h]
def u16s (l:List Nat):List Value:=l.map fun(n:Nat)=> .int .u16 (n:Int)
@[simp] theorem u16s_len (l:List Nat):(u16s l).length=l.length:=by simp [u16s]
theorem u16s_get {l:List Nat} {i:Nat} {u:Nat} (h:l[i]? =some u):(u16s l)[i]? =some (.int .u16 (u:Int)):=by simp [u16s,h]
theorem app_uint64 {b j n c:Nat} {a:Option Addr} {l:List Nat} {v:Nat} (H:Sx M w0 w (.ob b (.cells #[.int .u64 (v:Int)] t_uint64 (0,0))::L)) (hj:L[j]? =some (.ow t_uint64 1 a n c (u64s l))) (hn:(n+1)*8≤140737488355328)
 {G:Option Addr→Nat→Nat→World→Prop} (hg:∀a' c2 w',Sx M w0 w' (L.set j (.ow t_uint64 1 a' (n+1) c2 (u64s (l++ [v]))))→G a' (n+1) c2 w'):
 ∃x xn xc,∃w':World,(Builtin.append_ #[t_S_uint64,t_S_uint64] t_S_uint64 #[.slice a n c,.slice (some (A0 b)) 1 1]).run prog w= .ok (.slice x xn xc) w'∧G x xn xc w':=by
 refine app H hj u_S_uint64 i_uint64 rfl (by decide) rfl (by simp [Value.oneCell']) hn (by decide) fun a' c2 w' H'=>hg a' c2 w' ?_
 rw [u64s_app];exact H'
abbrev Pt:Type:=Nat×Nat
def pts (l:List Pt):List Value:=l.flatMap fun p=> [.int .i64 (p.1:Int),.int .u64 (p.2:Int)]
theorem pts_app (a b:List Pt):pts (a++b)=pts a++pts b:=by simp [pts]
theorem pts_get {l:List Pt}:∀ {i:Nat} {u:Pt},l[i]? =some u→(pts l)[i*2]? =some (.int .i64 (u.1:Int))∧(pts l)[i*2+1]? =some (.int .u64 (u.2:Int)):=by
 induction l with
 |nil=>intro i u h;simp at h
 |cons p l ih=>
  intro i u h
  cases i with
  |zero=>simp at h;subst h;exact⟨rfl,rfl⟩
  |succ i=>
   have:=ih (i:=i) (u:=u) (by simpa using h)
   have e:pts (p::l)= .int .i64 (p.1:Int):: .int .u64 (p.2:Int)::pts l:=rfl
   rw [e,show(i+1)*2=i*2+1+1 by omega,List.getElem?_cons_succ,List.getElem?_cons_succ,List.getElem?_cons_succ,List.getElem?_cons_succ]
   exact this
theorem app_Part {b j n c:Nat} {a:Option Addr} {l:List Pt} {v:Pt} (H:Sx M w0 w (.ob b (.cells #[.int .i64 (v.1:Int),.int .u64 (v.2:Int)] t_api_Part (0,0))::L)) (hj:L[j]? =some (.ow t_api_Part 2 a n c (pts l))) (hn:(n+1)*16≤140737488355328)
 {G:Option Addr→Nat→Nat→World→Prop} (hg:∀a' c2 w',Sx M w0 w' (L.set j (.ow t_api_Part 2 a' (n+1) c2 (pts (l++ [v]))))→G a' (n+1) c2 w'):
 ∃x xn xc,∃w':World,(Builtin.append_ #[t_S_api_Part,t_S_api_Part] t_S_api_Part #[.slice a n c,.slice (some (A0 b)) 1 1]).run prog w= .ok (.slice x xn xc) w'∧G x xn xc w':=by
 refine app H hj u_S_api_Part i_api_Part rfl (by decide) rfl (by simp [Value.oneCell']) hn (by decide) fun a' c2 w' H'=>hg a' c2 w' ?_
 rw [pts_app];exact H'
theorem W64_succ {i:Nat} (h:i+1<9223372036854775808):W64 ((i:Int)+1)=((i+1:Nat):Int):=wrap_i64 _ (by omega) (by omega)
theorem wrapI64 (n:Int): -9223372036854775808≤IntKind.wrap .i64 n∧IntKind.wrap .i64 n<9223372036854775808:=by
 simp [IntKind.wrap,IntKind.bits,IntKind.signed];omega
theorem sA_zero (a:Option Addr) (es m:Nat):sA a es 0 m=a:=by
 unfold sA
 split
 · rfl
 · cases a<;>simp
theorem W64_idn {n:Int} {m:Nat} (h:n=(m:Int)) (hm:m<9223372036854775808):W64 n=(m:Int):=by rw [h];exact wrap_i64 _ (by omega) (by omega)
theorem u8s_set (l:List UInt8) (i:Nat) (v:UInt8):(u8s l).set i (.int .u8 (v.toNat:Int))=u8s (l.set i v):=by simp [u8s,List.map_set]
theorem bif_t {c:Bool} {A B:Prop} (h:c=true) (a:A):bif c then A else B:=by subst h;exact a
theorem bif_f {c:Bool} {A B:Prop} (h:c=false) (b:B):bif c then A else B:=by subst h;exact b
end Go.Proofs.Tryz
namespace Go.Proofs.Tryz
open Go Go.RowKit Go.Proofs.VC
variable {M:List Nat} {w0 w:World} {L:List (Nat×Obj)}
theorem T_l1_Err (x:Int) (w:World):Calls prog n_l1_Err #[.int .i64 x] w fun e w'=>e= .returned (.int .i64 x)∧Fr [] w w':=S_l1_Err ⟨rfl,Fr.refl _ _⟩
def inB (n a b:Int):Bool:=decide (a≤n)&&decide (n≤b)
theorem T_block_in (n a b:Int) (w:World):Calls prog n_block_in #[.int .i64 n,.int .i64 a,.int .i64 b] w fun e w'=>e= .returned (.bool (inB n a b))∧Fr [] w w':=by
 refine S_block_in ?_
 unfold F_block_in
 refine bif_i (fun h=>⟨?_,Fr.refl _ _⟩) (fun h=>⟨?_,Fr.refl _ _⟩)
 · simp only [ge_iff_le,decide_eq_true_eq]at h
   simp [inB,h]
 · simp only [ge_iff_le,decide_eq_false_iff_not]at h
   simp [inB,h]
def isWayB (n:Int):Bool:=inB n 0 3
theorem T_block_isWay (n:Int) (w:World):Calls prog n_block_isWay #[.int .i64 n] w fun e w'=>e= .returned (.bool (isWayB n))∧Fr [] w w':=by
 refine S_block_isWay (Calls.st (St.start [] w) (T_block_in _ _ _ _) fun w1 H=>⟨_,rfl,rfl,H.fr⟩)
def mayB (a b c d:Int):Bool:=inB a 1 4096&&inB b 7 15&&inB c 7 12&&inB d 0 4
theorem T_block_May (a b c d e:Int) (w:World):Calls prog n_block_May #[.agg #[.int .i64 a,.int .i64 b,.int .i64 c,.int .i64 d,.int .u64 e]] w fun x w'=>x= .returned (.bool (mayB a b c d))∧Fr [] w w':=by
 refine S_block_May ?_
 unfold F_block_May
 refine(St.start [] w).alloc fun w1 b1 H=>?_
 simp only [A0_add]
 refine⟨a,H.cell 0 rfl rfl,Calls.st H (T_block_in _ _ _ _) fun w2 H=>⟨_,rfl,bif_i (fun h1=>?_) fun h1=>⟨by simp [mayB,h1],H.fr⟩⟩⟩
 refine⟨b,H.cell 0 rfl rfl,Calls.st H (T_block_in _ _ _ _) fun w3 H=>⟨_,rfl,bif_i (fun h2=>?_) fun h2=>⟨by simp [mayB,h2],H.fr⟩⟩⟩
 refine⟨c,H.cell 0 rfl rfl,Calls.st H (T_block_in _ _ _ _) fun w4 H=>⟨_,rfl,bif_i (fun h3=>?_) fun h3=>⟨by simp [mayB,h3],H.fr⟩⟩⟩
 exact⟨d,H.cell 0 rfl rfl,Calls.st H (T_block_in _ _ _ _) fun w5 H=>⟨_,rfl,by simp [mayB,h1,h2,h3],H.fr⟩⟩
theorem tmod_nat (a b:Nat):Int.tmod (a:Int) (b:Int)=((a%b:Nat):Int):=by rw [Int.tmod_eq_emod_of_nonneg (by omega)];rfl
theorem U64_nat (n:Nat):U64 (n:Int)=((n%18446744073709551616:Nat):Int):=(wrap_u64 _).trans (by omega)
theorem U8_nat (n:Nat):U8 (n:Int)=((n%256:Nat):Int):=(wrap_u8 _).trans (by omega)
theorem W64_id (n:Int) (h1: -9223372036854775808≤n) (h2:n<9223372036854775808):W64 n=n:=wrap_i64 n h1 h2
theorem W64_nat {n:Nat} (h:n<9223372036854775808):W64 (n:Int)=(n:Int):=wrap_i64 _ (by omega) (by omega)
def optA (a:Nat):Nat:=1+a%30
def optB (a:Nat):Nat:=7+a%9
def optC (a:Nat):Nat:=7+a%6
def optD (a:Nat):Nat:=a%5
def optV (a b c d:Int) (e:Int):Value:= .agg #[.int .i64 a,.int .i64 b,.int .i64 c,.int .i64 d,.int .u64 e]
theorem T_l21_Options (a b c d:Nat) (e:Int) (ha:a<256) (hb:b<256) (hc:c<256) (hd:d<256) (w:World):Calls prog n_l21_Options #[.int .u8 a,.int .u8 b,.int .u8 c,.int .u8 d,.int .u64 e] w
 fun x w'=>x= .returned (optV (optA a) (optB b) (optC c) (optD d) e)∧Fr [] w w':=by
 refine S_l21_Options ?_
 unfold F_l21_Options
 refine(St.start [] w).alloc fun w1 b1 H=>?_
 have e1:W64 (1+Int.tmod (W64 (a:Int)) 30)=(optA a:Nat):=by
  rw [W64_nat (n:=a) (by omega),show((30:Int))=((30:Nat):Int)from rfl,tmod_nat a 30];exact W64_nat (n:=1+a%30) (by omega)
 have e2:W64 (7+Int.tmod (W64 (b:Int)) 9)=(optB b:Nat):=by
  rw [W64_nat (n:=b) (by omega),show((9:Int))=((9:Nat):Int)from rfl,tmod_nat b 9];exact W64_nat (n:=7+b%9) (by omega)
 have e3:W64 (7+Int.tmod (W64 (c:Int)) 6)=(optC c:Nat):=by
  rw [W64_nat (n:=c) (by omega),show((6:Int))=((6:Nat):Int)from rfl,tmod_nat c 6];exact W64_nat (n:=7+c%6) (by omega)
 have e4:Int.tmod (W64 (d:Int)) 5=(optD d:Nat):=by
  rw [W64_nat (n:=d) (by omega),show((5:Int))=((5:Nat):Int)from rfl,tmod_nat d 5];rfl
 simp only [A0_add,e1,e2,e3,e4]
 refine⟨by decide,by decide,by decide,by decide,?_⟩
 refine H.sto 0 rfl (by simp) fun w2 H=>?_
 refine H.sto 0 rfl (by simp) fun w3 H=>?_
 refine H.sto 0 rfl (by simp) fun w4 H=>?_
 refine H.sto 0 rfl (by simp) fun w5 H=>?_
 refine H.sto 0 rfl (by simp) fun w6 H=>?_
 refine⟨_,_,_,_,_,⟨?_,?_,?_,?_,?_,trivial⟩,rfl,H.fr⟩
 all_goals simp only [A0_add]
 · exact H.cell 0 rfl rfl
 · exact H.cell 0 rfl rfl
 · exact H.cell 0 rfl rfl
 · exact H.cell 0 rfl rfl
 · exact H.cell 0 rfl rfl
def vput (n:Nat):List UInt8:=if n<128 then [UInt8.ofNat n]else UInt8.ofNat (n%128+128)::vput (n/128)
theorem vput_lt {n:Nat} (h:n<128):vput n= [UInt8.ofNat n]:=by rw [vput,if_pos h]
theorem vput_ge {n:Nat} (h:128≤n):vput n=UInt8.ofNat (n%128+128)::vput (n/128):=by rw [vput,if_neg (by omega)]
theorem vput_len (k:Nat):∀n,n<128^(k+1)→(vput n).length≤k+1:=by
 induction k with
 |zero=>intro n h;rw [vput_lt (by omega)];simp
 |succ k ih=>
  intro n h
  by_cases h1:n<128
  · rw [vput_lt h1];simp
  · rw [vput_ge (by omega)]
    have:=ih (n/128) (by rw [Nat.pow_succ]at h;omega)
    simp only [List.length_cons];omega
theorem vput_len64 {n:Nat} (h:n<18446744073709551616):(vput n).length≤10:=vput_len 9 n (by omega)
theorem toNat_ofNat8 {n:Nat} (h:n<256):(UInt8.ofNat n).toNat=n:=by simp;omega
theorem or128 (n:Nat):(n%256|||128)=n%128+128:=by
 have h:∀m:Fin 256,(m.val|||128)=m.val%128+128:=by decide+kernel
 have:=h ⟨n%256,Nat.mod_lt _ (by decide)⟩
 simp only at this
 omega
theorem andI_or_u8 (q:Nat):orI .u8 ((q%256:Nat):Int) ((128:Nat):Int)=((q%128+128:Nat):Int):=by
 rw [orI_u8 _ _ (by omega) (by omega),or128]
theorem T_vint_Put (n:Nat) (hn:n<18446744073709551616) (w:World):Calls prog n_vint_Put #[.int .u64 n] w fun e w'=>e= .returned (.string (S (vput n)))∧Fr [] w w':=by
 refine S_vint_Put ?_
 unfold F_vint_Put
 refine⟨fun q x a k c w1=>∃pre:List UInt8,x=(q:Int)∧q<18446744073709551616∧St [] w w1 []∧Ow [] w w1 [] t_uint8 1 a k c (u8s pre)∧pre++vput q=vput n,
  ⟨n,[],rfl,hn,St.start [] w,Ow.nil,rfl⟩,?_⟩
 rintro q x a k c w1 ⟨pre,rfl,hq,H,ho,hpre⟩
 have hlen:=vput_len64 hn
 have hk:pre.length=k:=by simpa using ho.len
 have hl2:=congrArg List.length hpre
 rw [List.length_append]at hl2
 refine bif_i (fun h=>?_) (fun h=>?_)
 · have h':128≤q:=by have:=of_decide_eq_true h;omega
   refine H.alloc_own ho fun w2 b H ho=>?_
   refine app8 (v:=UInt8.ofNat (q%128+128)) H ho ?_ (by omega) fun a' c2 w3 H ho=>?_
   · rw [toNat_ofNat8 (by omega),U8_nat,show(128:Int)=((128:Nat):Int)from rfl,andI_or_u8 q]
   · refine⟨by decide,q/128,by omega,pre++ [UInt8.ofNat (q%128+128)],?_,by omega,H,ho,?_⟩
     · exact shrI_nat .u64 q 7 (by decide)
     · rw [←hpre,vput_ge h',List.append_assoc];rfl
 · have h':q<128:=by have:=of_decide_eq_false h;omega
   refine H.alloc_own ho fun w2 b H ho=>?_
   refine app8 (v:=UInt8.ofNat q) H ho ?_ (by omega) fun a' c2 w3 H ho=>?_
   · rw [toNat_ofNat8 (by omega),U8_nat,Nat.mod_eq_of_lt (by omega)]
   · refine b2s ho.sl (by simpa using ho.len.symm) ⟨?_,H.fr⟩
     rw [←hpre,vput_lt h']
end Go.Proofs.Tryz
namespace Go.Proofs.Tryz
open Go Go.RowKit Go.Proofs.VC
theorem fieldsPart:(prog.fieldsOf t_api_Part).toList= [{name:= "Class",type:=t_int,offset:=0,embedded:=false,tag:= "",pkgPath:= "",byteOffset:=0},{name:= "Rest",type:=t_uint64,offset:=1,embedded:=false,tag:= "",pkgPath:= "",byteOffset:=8}]:=by kernel_rfl
theorem aggB_Part (a b c d:Int):AggB prog .eql t_api_Part (.agg #[.int .i64 a,.int .u64 b]) (.agg #[.int .i64 c,.int .u64 d]) (a==c&&b==d):=by
 intro ρx ρy w
 rw [Sem.run_bind,run_eqGuard_agg w .eql t_api_Part ρx ρy _ _ (by kernel_rfl)]
 simp only [Result.andThen]
 rw [run_eql_struct,run_equalIn_agg w 9999 t_api_Part _ _ (by kernel_rfl) (by kernel_rfl),fieldsPart]
 have p0:∀(x y:Value) w,(part t_int #[x,y] 0).run prog w= .ok x w:=fun x y w=>run_part_one (fun w=>a_int w) rfl w
 have p1:∀(x y:Value) w,(part t_uint64 #[x,y] 1).run prog w= .ok y w:=fun x y w=>run_part_one (fun w=>a_uint64 w) rfl w
 have q0:∀(x y:Int) w,(Op.equalIn 9999 t_int (.int .i64 x) (.int .i64 y)).run prog w= .ok (x==y) w:=fun x y w=>run_equalIn_int w 9998 t_int .i64 .i64 x y u_int
 have q1:∀(x y:Int) w,(Op.equalIn 9999 t_uint64 (.int .u64 x) (.int .u64 y)).run prog w= .ok (x==y) w:=fun x y w=>run_equalIn_int w 9998 t_uint64 .u64 .u64 x y u_uint64
 simp only [Op.eqFields]
 rw [Sem.run_ite,if_pos (by decide),Sem.run_bind,p0]
 simp only [Result.andThen]
 rw [Sem.run_bind,p0]
 simp only [Result.andThen]
 rw [Sem.run_bind,q0]
 simp only [Result.andThen]
 cases h:(a==c)with
 |false=>rfl
 |true=>
  rw [Sem.run_ite,if_neg (by decide),Sem.run_ite,if_pos (by decide),Sem.run_bind,p1]
  simp only [Result.andThen]
  rw [Sem.run_bind,p1]
  simp only [Result.andThen]
  rw [Sem.run_bind,q1]
  simp only [Result.andThen]
  cases h2:(b==d)<;>rfl
end Go.Proofs.Tryz
namespace Go.Proofs.Tryz
open Go Go.RowKit Go.Proofs.VC
variable {M:List Nat} {w0 w:World} {L:List (Nat×Obj)}
def wput (n:Nat):List UInt8:=(List.range 8).map fun i=>UInt8.ofNat (n/2^(8*i)%256)
@[simp] theorem wput_len (n:Nat):(wput n).length=8:=by simp [wput]
theorem fill_set (xs:List Value) (v z:Value) (k i:Nat) (hi:i=xs.length):(xs++List.replicate (k+1) z).toArray.setIfInBounds i v=(xs++ [v]++List.replicate k z).toArray:=by
 subst hi
 rw [List.setIfInBounds_toArray,List.set_append_right _ _ (Nat.le_refl _),Nat.sub_self,List.replicate_succ,List.set_cons_zero,List.append_assoc]
 rfl
theorem T_vint_Word (n:Nat) (hn:n<18446744073709551616) (w:World):Calls prog n_vint_Word #[.int .u64 n] w fun e w'=>e= .returned (.string (S (wput n)))∧Fr [] w w':=by
 refine S_vint_Word ?_
 unfold F_vint_Word
 refine(St.start [] w).alloc fun w1 b3 H=>?_
 refine⟨fun m x w2=>∃i:Nat,x=(i:Int)∧m+i=8∧St [] w w2 [(b3,.cells (u8s ((wput n).take i)++List.replicate m (Value.int .u8 0)).toArray t_A8_uint8 (0,0))],
  ⟨8,0,rfl,rfl,H⟩,?_⟩
 rintro m x w2 ⟨i,rfl,hm,H⟩
 refine bif_i (fun h=>?_) (fun h=>?_)
 · have h':i<8:=by have:=of_decide_eq_true h;omega
   obtain⟨k,rfl⟩:∃k,m=k+1:=⟨m-1,by omega⟩
   have e1:W64 ((8:Int)*(i:Int))=((8*i:Nat):Int):=by
    rw [show(8:Int)*(i:Int)=((8*i:Nat):Int) by omega,W64_nat (by omega)]
   have e2:W64 ((i:Int)+1)=((i+1:Nat):Int):=by
    rw [show(i:Int)+1=((i+1:Nat):Int) by omega,W64_nat (by omega)]
   have hlen:((u8s ((wput n).take i)).length)=i:=by simp;omega
   rw [e1,e2,shrI_nat .u64 n (8*i) (by show 8*i≤64;omega),U8_nat,A0_add,Int.toNat_natCast,Nat.mul_one]
   refine⟨by omega,by omega,by omega,?_⟩
   refine H.sto 0 rfl (by simp;omega) fun w3 H=>?_
   refine⟨k,by omega,i+1,rfl,by omega,?_⟩
   rw [fill_set _ _ _ _ _ hlen.symm]at H
   have e3:(wput n).take (i+1)=(wput n).take i++ [UInt8.ofNat (n/2^(8*i)%256)]:=by
    rw [List.take_succ_eq_append_getElem (by simp;omega)]
    simp [wput]
   rw [e3,u8s_app]
   have e4:u8s [UInt8.ofNat (n/2^(8*i)%256)]= [.int .u8 ((n/2^(8*i)%256:Nat):Int)]:=by
    simp only [u8s,List.map_cons,List.map_nil,toNat_ofNat8 (Nat.mod_lt _ (by decide:0<256))]
   rw [e4]
   exact H
 · have h':i=8:=by have:=of_decide_eq_false h;omega
   subst h'
   obtain rfl:m=0:=by omega
   have hs:Sl w2 (some (A0 b3)) (u8s (wput n)):=by
    have:=H.sl 0 rfl
    rw [List.take_of_length_le (by simp)]at this
    simpa using this
   refine b2s (l:=wput n) ?_ rfl ⟨rfl,H.fr⟩
   simpa [sA]using hs
def le:List UInt8→Nat
 | []=>0
 |b::l=>b.toNat+256*le l
theorem le_app (a:List UInt8) (b:UInt8):le (a++ [b])=le a+256^a.length*b.toNat:=by
 induction a with
 |nil=>simp [le]
 |cons x a ih=>
  simp only [List.cons_append,le,ih,List.length_cons,Nat.pow_succ]
  rw [Nat.mul_add,Nat.mul_comm (256^a.length) 256,Nat.mul_assoc,Nat.add_assoc]
theorem le_lt (a:List UInt8):le a<256^a.length:=by
 induction a with
 |nil=>simp [le]
 |cons x a ih=>
  simp only [le,List.length_cons,Nat.pow_succ]
  have:=x.toNat_lt
  omega
theorem or_add (a b i:Nat) (h:a<2^i):a|||b*2^i=a+b*2^i:=by
 have:=Nat.two_pow_add_eq_or_of_lt h b
 rw [Nat.or_comm,Nat.mul_comm b,←this,Nat.add_comm]
def tri (x:Nat×Nat×Nat):Value:= .tuple #[.int .u64 (x.1:Int),.int .i64 (x.2.1:Int),.int .i64 (x.2.2:Int)]
def wgetR (l:List UInt8):Nat×Nat×Nat:=if l.length<8 then(0,0,2)else(le (l.take 8),8,0)
theorem T_vint_reader_word (l:List UInt8) (hl:l.length<9223372036854775808) (w:World):Calls prog n_vint_reader_word #[.agg #[.string (S l)]] w fun e w'=>e= .returned (tri (wgetR l))∧Fr [] w w':=by
 refine S_vint_reader_word ?_
 unfold F_vint_reader_word
 refine(St.start [] w).alloc fun w1 b1 H=>?_
 refine⟨_,H.cell 0 rfl rfl,?_⟩
 rw [S_size]
 refine bif_i (fun h=>?_) (fun h=>?_)
 · have h':l.length<8:=by have:=of_decide_eq_true h;omega
   exact⟨by rw [wgetR,if_pos h'];rfl,H.fr⟩
 · have h':8≤l.length:=by have:=of_decide_eq_false h;omega
   refine⟨fun m x y w2=>∃i:Nat,x=(le (l.take i):Nat)∧y=(i:Int)∧m+i=8∧St [] w w2 [(b1,.cells #[.string (S l)] t_vint_reader (0,0))],⟨8,0,rfl,rfl,rfl,H⟩,?_⟩
   rintro m x y w2 ⟨i,rfl,rfl,hm,H⟩
   refine bif_i (fun h=>?_) (fun h=>?_)
   · have hi:i<8:=by have:=of_decide_eq_true h;omega
     have hil:i<l.length:=by omega
     have e1:W64 ((8:Int)*(i:Int))=((8*i:Nat):Int):=by
      rw [show(8:Int)*(i:Int)=((8*i:Nat):Int) by omega,W64_nat (by omega)]
     have e2:W64 ((i:Int)+1)=((i+1:Nat):Int):=by
      rw [show(i:Int)+1=((i+1:Nat):Int) by omega,W64_nat (by omega)]
     rw [e1,e2]
     refine⟨_,H.cell 0 rfl rfl,by omega,l[i],?_,by omega,m-1,by omega,i+1,?_,rfl,by omega,H⟩
     · rw [S_get,Int.toNat_natCast];exact List.getElem?_eq_getElem hil
     · have hb:=l[i].toNat_lt
       have hlt:=le_lt (l.take i)
       have hlen:(l.take i).length=i:=by simp;omega
       rw [hlen]at hlt
       have hp:(256:Nat)^i=2^(8*i):=by rw [Nat.pow_mul]
       have hmax:256^(i+1)≤256^8:=Nat.pow_le_pow_right (by decide) (by omega)
       have hmul:l[i].toNat*256^i<256^(i+1):=by
        rw [Nat.pow_succ,Nat.mul_comm (256^i)]
        exact Nat.mul_lt_mul_of_pos_right hb (Nat.pow_pos (by decide))
       have h256:(256:Nat)^8=18446744073709551616:=by decide
       have hlt':256^i≤256^8:=Nat.pow_le_pow_right (by decide) (by omega)
       rw [U64_nat,Nat.mod_eq_of_lt (show l[i].toNat<18446744073709551616 by omega),shlI_u64 _ _ (by omega),←hp,Nat.mod_eq_of_lt (by omega),orI_u64 _ _ (by omega) (by omega),hp,
        or_add _ _ _ (by rw [←hp];exact hlt),←hp]
       rw [List.take_succ_eq_append_getElem hil,le_app,hlen,Nat.mul_comm]
   · have hi:i=8:=by have:=of_decide_eq_false h;omega
     subst hi
     exact⟨by rw [wgetR,if_neg (by omega)];rfl,H.fr⟩
def readR (l:List UInt8) (at_:Int) (r:List UInt8→Nat×Nat×Nat):Nat×Nat×Nat:=
 if at_<0∨(l.length:Int)<at_ then(0,0,1)else if (r (l.drop at_.toNat)).2.2≠0 then(0,0,(r (l.drop at_.toNat)).2.2)else((r (l.drop at_.toNat)).1,at_.toNat+(r (l.drop at_.toNat)).2.1,0)
theorem T_vint_read (l:List UInt8) (at_:Int) (g:Nat) (hg:fok g=true) (r:List UInt8→Nat×Nat×Nat) (hl:l.length<4611686018427387904)
 (hr:∀k w,(l.drop k).length<4611686018427387904→Calls prog g #[.agg #[.string (S (l.drop k))]] w fun e w'=>e= .returned (tri (r (l.drop k)))∧Fr [] w w')
 (hs:∀k,(r (l.drop k)).2.1<4611686018427387904) (w:World):
 Calls prog n_vint_read #[.string (S l),.int .i64 at_,.func (.func g) #[] #[]] w fun e w'=>e= .returned (tri (readR l at_ r))∧Fr [] w w':=by
 refine S_vint_read ?_
 unfold F_vint_read
 intro J3 hJ
 rw [S_size]
 refine bif_i (fun h=>?_) (fun h=>bif_i (fun h2=>?_) fun h2=>?_)
 · have h':at_<0:=of_decide_eq_true h
   exact⟨by rw [readR,if_pos (.inl h')];rfl,Fr.refl _ _⟩
 · have h':at_>(l.length:Int):=of_decide_eq_true h2
   exact⟨by rw [readR,if_pos (.inr h')];rfl,Fr.refl _ _⟩
 · have h0:=of_decide_eq_false h
   have h1:=of_decide_eq_false h2
   have hread:readR l at_ r=if (r (l.drop at_.toNat)).2.2≠0 then(0,0,(r (l.drop at_.toNat)).2.2)else((r (l.drop at_.toNat)).1,at_.toNat+(r (l.drop at_.toNat)).2.1,0):=by
    rw [readR,if_neg (by omega)]
   refine hJ _ ⟨by omega,by rw [S_size];omega,?_⟩
   rw [hg]
   refine Calls.st (St.start [] w) (?_:Calls prog g _ w fun e w'=>e= .returned (tri (r (l.drop at_.toNat)))∧Fr [] w w') fun w2 H=>?_
   · have:=hr at_.toNat w (by rw [List.length_drop];omega)
     rw [S_size,S_extract,List.take_of_length_le (Nat.le_refl _)]
     exact this
   · refine⟨_,_,_,rfl,bif_i (fun h3=>⟨?_,H.fr⟩) fun h3=>⟨?_,H.fr⟩⟩
     · have h3':(r (l.drop at_.toNat)).2.2≠0:=by
        intro h;rw [h]at h3;simp at h3
       rw [hread,if_pos h3'];rfl
     · have h3':(r (l.drop at_.toNat)).2.2=0:=by
        have:¬(((r (l.drop at_.toNat)).2.2:Int)≠0):=by simpa using h3
        omega
       have hsz:=hs at_.toNat
       have e:W64 (at_+((r (l.drop at_.toNat)).2.1:Int))=((at_.toNat+(r (l.drop at_.toNat)).2.1:Nat):Int):=by
        rw [show at_+((r (l.drop at_.toNat)).2.1:Int)=((at_.toNat+(r (l.drop at_.toNat)).2.1:Nat):Int) by omega,W64_nat (by omega)]
       rw [hread,if_neg (by simpa using h3'),e];rfl
theorem wgetR_sz (l:List UInt8):(wgetR l).2.1<4611686018427387904:=by unfold wgetR;split<;>simp
theorem T_vint_GetWord (l:List UInt8) (at_:Int) (hl:l.length<4611686018427387904) (w:World):
 Calls prog n_vint_GetWord #[.string (S l),.int .i64 at_] w fun e w'=>e= .returned (tri (readR l at_ wgetR))∧Fr [] w w':=by
 refine S_vint_GetWord ?_
 unfold F_vint_GetWord
 refine Calls.st (St.start [] w) (T_vint_read l at_ n_vint_reader_word (by decide+kernel) wgetR hl (fun k w h=>T_vint_reader_word _ (by omega) w) (fun k=>wgetR_sz _) w) fun w2 H=>?_
 exact⟨_,_,_,rfl,rfl,H.fr⟩
def vgo:List UInt8→Nat→Nat→Nat×Nat×Nat
 | [],i,_=>if 10≤i then(0,0,3)else(0,0,2)
 |c::s,i,acc=>if 10≤i then(0,0,3)else if i=9∧2≤c.toNat%128 then(0,0,3)else
   if 128≤c.toNat then vgo s (i+1) (acc+c.toNat%128*128^i)else if c.toNat=0∧0<i then(0,0,3)else(acc+c.toNat*128^i,i+1,0)
def vgetR (l:List UInt8):Nat×Nat×Nat:=vgo l 0 0
theorem vgo_sz:∀(l:List UInt8) (i acc:Nat),(vgo l i acc).2.1≤10
 | [],i,acc=>by unfold vgo;split<;>simp
 |c::s,i,acc=>by
  unfold vgo
  split
  · simp
  · split
    · simp
    · split
      · exact vgo_sz s _ _
      · split
        · simp
        · simp;omega
theorem and127 (n:Nat) (h:n<256):n&&&127=n%128:=by
 have:∀m:Fin 256,(m.val&&&127)=m.val%128:=by decide+kernel
 exact this ⟨n,h⟩
theorem bitLen127 (n:Nat) (h:n<128):Lib.bitLen n≤7∧(Lib.bitLen n≤1↔n<2):=by
 have:∀m:Fin 128,Lib.bitLen m.val≤7∧(Lib.bitLen m.val≤1↔m.val<2):=by decide+kernel
 exact this ⟨n,h⟩
theorem T_vint_reader_vint (l:List UInt8) (hl:l.length<4611686018427387904) (w:World):Calls prog n_vint_reader_vint #[.agg #[.string (S l)]] w fun e w'=>e= .returned (tri (vgetR l))∧Fr [] w w':=by
 refine S_vint_reader_vint ?_
 unfold F_vint_reader_vint
 refine(St.start [] w).alloc fun w1 b1 H=>?_
 refine⟨_,H.cell 0 rfl rfl,?_⟩
 refine⟨fun m x y w2=>∃i acc:Nat,x=(acc:Int)∧y=(i:Int)∧m+i=10∧i≤l.length∧acc<128^i∧vgo (l.drop i) i acc=vgetR l∧St [] w w2 [(b1,.cells #[.string (S l)] t_vint_reader (0,0))],
  ⟨10,0,0,rfl,rfl,rfl,Nat.zero_le _,by decide,rfl,H⟩,?_⟩
 rintro m x y w2 ⟨i,acc,rfl,rfl,hm,hil,hacc,hgo,H⟩
 rw [S_size]
 refine bif_i (fun h=>?_) (fun h=>?_)
 · have h1:=of_decide_eq_true h
   have hi:i<10:=by split at h1<;>omega
   have hil':i<l.length:=by split at h1<;>omega
   have e1:W64 ((7:Int)*(i:Int))=((7*i:Nat):Int):=by
    rw [show(7:Int)*(i:Int)=((7*i:Nat):Int) by omega,W64_nat (by omega)]
   have e2:W64 ((i:Int)+1)=((i+1:Nat):Int):=by
    rw [show(i:Int)+1=((i+1:Nat):Int) by omega,W64_nat (by omega)]
   have e3:W64 ((64:Int)-((7*i:Nat):Int))=((64-7*i:Nat):Int):=by
    rw [show(64:Int)-((7*i:Nat):Int)=((64-7*i:Nat):Int) by omega,W64_nat (by omega)]
   have hb:=l[i].toNat_lt
   have hb2:=bitLen127 (l[i].toNat%128) (Nat.mod_lt _ (by decide))
   rw [e1,e2,e3]
   refine⟨_,H.cell 0 rfl rfl,by omega,l[i],?_,?_⟩
   · rw [S_get,Int.toNat_natCast];exact List.getElem?_eq_getElem hil'
   rw [show(127:Int)=((127:Nat):Int)from rfl,andI_u8 _ _ hb (by decide),and127 _ hb]
   refine Calls.st H ((bits_Len8 _ w2 (by omega) (by omega)).mono (fun e w' hh=>⟨hh.1,hh.2▸Fr.refl _ _⟩)) fun w3 H=>?_
   refine⟨_,rfl,?_⟩
   rw [Int.toNat_natCast]
   have hdrop:l.drop i=l[i]::l.drop (i+1):=List.drop_eq_getElem_cons hil'
   rw [hdrop,vgo,if_neg (by omega)]at hgo
   refine bif_i (fun h3=>?_) fun h3=>?_
   · have h3':=of_decide_eq_true h3
     rw [if_pos (by omega)]at hgo
     exact⟨by rw [←hgo];rfl,H.fr⟩
   · have h3':=of_decide_eq_false h3
     rw [if_neg (by omega)]at hgo
     have hpow:(128:Nat)^i=2^(7*i):=by rw [Nat.pow_mul]
     have hmax:(128:Nat)^i≤128^9:=Nat.pow_le_pow_right (by decide) (by omega)
     have h9:(128:Nat)^9=9223372036854775808:=by decide
     have hmul:l[i].toNat%128*128^i<18446744073709551616:=by
      by_cases h9i:i=9
      · subst h9i
        have:l[9].toNat%128≤1:=by omega
        have:=Nat.mul_le_mul_right (128^9) this
        omega
      · have:(128:Nat)^i≤128^8:=Nat.pow_le_pow_right (by decide) (by omega)
        have h8:(128:Nat)^8=72057594037927936:=by decide
        have h7:l[i].toNat%128≤127:=by omega
        have:=Nat.mul_le_mul h7 this
        omega
     have hnew:l[i].toNat%128*128^i≤127*128^i:=Nat.mul_le_mul_right _ (by omega)
     have hor:orI .u64 (acc:Int) (shlI .u64 (U64 ((l[i].toNat%128:Nat):Int)) ((7*i:Nat):Int))=((acc+l[i].toNat%128*128^i:Nat):Int):=by
      rw [U64_nat,Nat.mod_eq_of_lt (show l[i].toNat%128<18446744073709551616 by omega),shlI_u64 _ _ (by omega),←hpow,Nat.mod_eq_of_lt hmul,orI_u64 _ _ (by omega) hmul,hpow,
       or_add _ _ _ (by rw [←hpow];exact hacc)]
     have hacc':acc+l[i].toNat%128*128^i<128^(i+1):=by
      rw [Nat.pow_succ];omega
     refine⟨by omega,?_⟩
     rw [hor]
     refine bif_i (fun h4=>?_) fun h4=>?_
     · have h4':=of_decide_eq_true h4
       rw [if_pos (by omega)]at hgo
       exact⟨m-1,by omega,i+1,_,rfl,rfl,by omega,by omega,hacc',hgo,H⟩
     · have h4':=of_decide_eq_false h4
       rw [if_neg (by omega)]at hgo
       have hmod:l[i].toNat%128=l[i].toNat:=by omega
       refine bif_i (fun h5=>bif_i (fun h6=>?_) fun h6=>?_) fun h5=>?_
       · have h5':l[i].toNat=0:=by simpa using h5
         have h6':=of_decide_eq_true h6
         rw [if_pos ⟨h5',by omega⟩]at hgo
         exact⟨by rw [←hgo];rfl,H.fr⟩
       · have h6':=of_decide_eq_false h6
         rw [if_neg (by omega)]at hgo
         exact⟨by rw [←hgo,hmod];rfl,H.fr⟩
       · have h5':l[i].toNat≠0:=by
          intro h;rw [h]at h5;simp at h5
         rw [if_neg (by omega)]at hgo
         exact⟨by rw [←hgo,hmod];rfl,H.fr⟩
 · have h1:=of_decide_eq_false h
   refine⟨_,H.cell 0 rfl rfl,?_⟩
   rw [S_size]
   refine bif_i (fun h2=>?_) fun h2=>?_
   · have h2':=of_decide_eq_true h2
     have hi:i=10:=by split at h1<;>omega
     subst hi
     have:vgo (l.drop 10) 10 acc=(0,0,3):=by
      cases hd:l.drop 10 with
      |nil=>rfl
      |cons c s=>simp [vgo]
     exact⟨by rw [←hgo,this];rfl,H.fr⟩
   · have h2':=of_decide_eq_false h2
     have hi:i=l.length:=by split at h1<;>omega
     subst hi
     have:vgo (l.drop l.length) l.length acc=(0,0,2):=by
      rw [List.drop_length,vgo,if_neg (by omega)]
     exact⟨by rw [←hgo,this];rfl,H.fr⟩
theorem T_vint_Get (l:List UInt8) (at_:Int) (hl:l.length<4611686018427387904) (w:World):
 Calls prog n_vint_Get #[.string (S l),.int .i64 at_] w fun e w'=>e= .returned (tri (readR l at_ vgetR))∧Fr [] w w':=by
 refine S_vint_Get ?_
 unfold F_vint_Get
 refine Calls.st (St.start [] w) (T_vint_read l at_ n_vint_reader_vint (by decide+kernel) vgetR hl (fun k w h=>T_vint_reader_vint _ h w) (fun k=>Nat.lt_of_le_of_lt (vgo_sz _ _ _) (by decide)) w) fun w2 H=>?_
 exact⟨_,_,_,rfl,rfl,H.fr⟩
end Go.Proofs.Tryz
namespace Go.Proofs.Tryz
open Go Go.RowKit Go.Proofs.VC
variable {M:List Nat} {w0 w:World} {L:List (Nat×Obj)}
abbrev q1:Nat:=11400714785074694791
abbrev q2:Nat:=14029467366897019727
abbrev q3:Nat:=1609587929392839161
abbrev q4:Nat:=9650029242287828579
abbrev q5:Nat:=2870177450012600261
abbrev WW:Nat:=18446744073709551616
def rotl (x k:Nat):Nat:=(x*2^k%WW)|||(x/2^(64-k))
theorem rotl_lt {x:Nat} (k:Nat) (hx:x<WW):rotl x k<WW:=by
 have h1:x*2^k%WW<2^64:=Nat.mod_lt _ (by decide)
 have h2:x/2^(64-k)<2^64:=Nat.lt_of_le_of_lt (Nat.div_le_self _ _) hx
 exact Nat.or_lt_two_pow h1 h2
theorem xor_lt' {x y:Nat} (hx:x<WW) (hy:y<WW):x^^^y<WW:=Nat.xor_lt_two_pow (n:=64) hx hy
theorem modW (n:Nat):n%WW<WW:=Nat.mod_lt _ (by decide)
theorem T_bits_RotateLeft64 (x:Nat) (k:Int) (kn:Nat) (hk:k=(kn:Int)) (h1:kn<64) (hx:x<WW) (w:World):Calls prog n_bits_RotateLeft64 #[.int .u64 (x:Int),.int .i64 k] w fun e w'=>e= .returned (.int .u64 (rotl x kn:Nat))∧Fr [] w w':=by
 subst hk
 refine S_bits_RotateLeft64 ?_
 unfold F_bits_RotateLeft64
 have e1:andI .u64 (U64 (kn:Int)) 63=(kn:Int):=by
  rw [U64_nat,Nat.mod_eq_of_lt (by omega),show(63:Int)=((63:Nat):Int)from rfl,andI_u64 _ _ (by omega) (by decide)]
  congr 1
  have:∀m:Fin 64,(m.val&&&63)=m.val:=by decide+kernel
  exact this ⟨kn,h1⟩
 have e2:U64 ((64:Int)-(kn:Int))=((64-kn:Nat):Int):=by
  rw [show(64:Int)-(kn:Int)=((64-kn:Nat):Int) by omega,U64_nat,Nat.mod_eq_of_lt (by omega)]
 rw [e1,e2,shlI_u64 _ _ (by omega),shrI_nat .u64 _ _ (by show 64-kn≤64;omega),orI_u64 _ _ (modW _) (Nat.lt_of_le_of_lt (Nat.div_le_self _ _) hx)]
 exact⟨by omega,by omega,rfl,Fr.refl _ _⟩
def roundN (acc w:Nat):Nat:=rotl ((acc+w*q2%WW)%WW) 31*q1%WW
theorem U64_add (a b:Nat):U64 ((a:Int)+(b:Int))=(((a+b)%WW:Nat):Int):=by rw [←Int.natCast_add,U64_nat]
theorem U64_mul (a b:Nat):U64 ((a:Int)*(b:Int))=(((a*b)%WW:Nat):Int):=by rw [←Int.natCast_mul,U64_nat]
theorem T_xxh_Round (x y:Nat) (w:World):Calls prog n_xxh_Round #[.int .u64 (x:Int),.int .u64 (y:Int)] w fun e w'=>e= .returned (.int .u64 (roundN x y:Nat))∧Fr [] w w':=by
 refine S_xxh_Round ?_
 unfold F_xxh_Round
 rw [show(14029467366897019727:Int)=((q2:Nat):Int)from rfl,show(11400714785074694791:Int)=((q1:Nat):Int)from rfl,U64_mul,U64_add]
 refine Calls.st (St.start [] w) (T_bits_RotateLeft64 _ _ 31 rfl (by decide) (modW _) w) fun w2 H=>⟨_,rfl,?_,H.fr⟩
 rw [U64_mul];rfl
def mixN (h:Nat):Nat:=
 let a:=(h^^^h/2^33)*q2%WW
 let b:=(a^^^a/2^29)*q3%WW
 b^^^b/2^32
theorem div_lt' {x:Nat} (k:Nat) (hx:x<WW):x/2^k<WW:=Nat.lt_of_le_of_lt (Nat.div_le_self _ _) hx
theorem T_xxh_Mix (h:Nat) (hh:h<WW) (w:World):Calls prog n_xxh_Mix #[.int .u64 (h:Int)] w fun e w'=>e= .returned (.int .u64 (mixN h:Nat))∧Fr [] w w':=by
 refine S_xxh_Mix ?_
 unfold F_xxh_Mix
 refine⟨by decide,by decide,by decide,?_,Fr.refl _ _⟩
 rw [show(14029467366897019727:Int)=((q2:Nat):Int)from rfl,show(1609587929392839161:Int)=((q3:Nat):Int)from rfl,
  show(33:Int)=((33:Nat):Int)from rfl,show(29:Int)=((29:Nat):Int)from rfl,show(32:Int)=((32:Nat):Int)from rfl]
 rw [shrI_nat .u64 _ 33 (by decide),xorI_u64 _ _ hh (div_lt' _ hh),U64_mul]
 rw [shrI_nat .u64 _ 29 (by decide),xorI_u64 _ _ (modW _) (div_lt' _ (modW _)),U64_mul]
 rw [shrI_nat .u64 _ 32 (by decide),xorI_u64 _ _ (modW _) (div_lt' _ (modW _))]
 rfl
def tail1 (h:Nat) (l:List UInt8):Nat:=l.foldl (fun h c=>rotl (h^^^c.toNat*q5%WW) 11*q1%WW) h
def tail4 (h:Nat) (l:List UInt8):Nat:=if 4≤l.length then tail1 ((rotl (h^^^le (l.take 4)*q1%WW) 23*q2%WW+q3)%WW) (l.drop 4)else tail1 h l
def tail8 (h:Nat) (l:List UInt8):Nat:=
 if hl:8≤l.length then tail8 ((rotl (h^^^roundN 0 (le (l.take 8))) 27*q1%WW+q4)%WW) (l.drop 8)else tail4 h l
termination_by l.length
decreasing_by simp;omega
theorem tail1_lt {h:Nat} (hh:h<WW):∀l,tail1 h l<WW:=by
 intro l
 induction l generalizing h with
 |nil=>exact hh
 |cons c l ih=>exact ih (modW _)
end Go.Proofs.Tryz
namespace Go.Proofs.Tryz
open Go Go.RowKit Go.Proofs.VC
variable {M:List Nat} {w0 w:World} {L:List (Nat×Obj)}
theorem wgetR_at {l:List UInt8} {k:Nat} (h:k+8≤l.length):readR l (k:Int) wgetR=(le ((l.drop k).take 8),k+8,0):=by
 have hw:wgetR (l.drop k)=(le ((l.drop k).take 8),8,0):=by rw [wgetR,if_neg (by rw [List.length_drop];omega)]
 rw [readR,if_neg (by omega),Int.toNat_natCast,hw]
 rfl
theorem roundN_lt (a b:Nat):roundN a b<WW:=modW _
theorem u64_byte (n:Nat) (h:n<256):U64 (n:Int)=(n:Int):=by rw [U64_nat,Nat.mod_eq_of_lt (by omega)]
theorem le4 (a b c d:Nat) (ha:a<256) (hb:b<256) (hc:c<256) (hd:d<256):
 orI .u64 (orI .u64 (orI .u64 (a:Int) (shlI .u64 (b:Int) 8)) (shlI .u64 (c:Int) 16)) (shlI .u64 (d:Int) 24)=((a+256*(b+256*(c+256*d)):Nat):Int):=by
 rw [show(8:Int)=((8:Nat):Int)from rfl,show(16:Int)=((16:Nat):Int)from rfl,show(24:Int)=((24:Nat):Int)from rfl]
 rw [shlI_u64 b 8 (by decide),shlI_u64 c 16 (by decide),shlI_u64 d 24 (by decide)]
 rw [Nat.mod_eq_of_lt (show b*2^8<18446744073709551616 by omega),Nat.mod_eq_of_lt (show c*2^16<18446744073709551616 by omega),Nat.mod_eq_of_lt (show d*2^24<18446744073709551616 by omega)]
 rw [orI_u64 _ _ (by omega) (by omega),or_add _ _ _ (by omega),orI_u64 _ _ (by omega) (by omega),or_add _ _ _ (by omega),orI_u64 _ _ (by omega) (by omega),or_add _ _ _ (by omega)]
 congr 1
 omega
theorem four_of:∀l:List UInt8,4≤l.length→∃a b c d r,l=a::b::c::d::r
 |a::b::c::d::r,_=>⟨a,b,c,d,r,rfl⟩
 | [],h=>by simp at h
 | [_],h=>by simp at h
 | [_,_],h=>by simp at h
 | [_,_,_],h=>by simp at h
theorem T_xxh_tail (h:Nat) (hh:h<WW) (l:List UInt8) (hl:l.length<4611686018427387904) (w:World):Calls prog n_xxh_tail #[.int .u64 (h:Int),.string (S l)] w fun e w'=>e= .returned (.int .u64 (tail8 h l:Nat))∧Fr [] w w':=by
 refine S_xxh_tail ?_
 unfold F_xxh_tail
 refine⟨fun m x s w1=>∃(h1:Nat) (l1:List UInt8),x=(h1:Int)∧s=S l1∧h1<WW∧m=l1.length∧l1.length≤l.length∧tail8 h1 l1=tail8 h l∧St [] w w1 [],
  ⟨l.length,h,l,rfl,rfl,hh,rfl,Nat.le_refl _,rfl,St.start [] w⟩,?_⟩
 rintro m x s w1 ⟨h1,l1,rfl,rfl,hh1,hm,hle,ht,H⟩
 subst hm
 rw [S_size]
 refine bif_i (fun hc=>?_) (fun hc=>?_)
 · have h8:8≤l1.length:=by have:=of_decide_eq_true hc;omega
   have hr:=wgetR_at (l:=l1) (k:=0) h8
   refine Calls.st H (T_vint_GetWord l1 0 (by omega) w1) fun w2 H=>⟨_,_,_,rfl,?_⟩
   rw [show((0:Nat):Int)=0 from rfl]at hr
   rw [hr]
   refine Calls.st H (T_xxh_Round 0 _ w2) fun w3 H=>⟨_,rfl,?_⟩
   rw [xorI_u64 _ _ hh1 (roundN_lt _ _)]
   refine Calls.st H (T_bits_RotateLeft64 _ _ 27 rfl (by decide) (xor_lt' hh1 (roundN_lt _ _)) w3) fun w4 H=>⟨_,rfl,by decide,by omega,?_⟩
   rw [show(11400714785074694791:Int)=((q1:Nat):Int)from rfl,show(9650029242287828579:Int)=((q4:Nat):Int)from rfl,U64_mul,U64_add,S_extract,List.take_of_length_le (Nat.le_refl _)]
   refine⟨(l1.drop 8).length,by rw [List.length_drop];omega,_,l1.drop 8,rfl,rfl,modW _,rfl,by rw [List.length_drop];omega,?_,H⟩
   rw [←ht,tail8.eq_1 h1 l1,dif_pos h8]
   rfl
 · have h8:l1.length<8:=by have:=of_decide_eq_false hc;omega
   rw [tail8,dif_neg (by omega)]at ht
   intro J9 hJ
   have key:∀(h2:Nat) (l2:List UInt8) (w5:World),h2<WW→l2.length≤l1.length→tail1 h2 l2=tail8 h l→St [] w w5 []→J9 (h2:Int) (S l2) w5:=by
    intro h2 l2 w5 hh2 hl2 ht2 H
    refine hJ _ _ _ (H.s2b l2 u_string u_S_uint8 u_uint8 fun b k w6 H=>?_)
    refine⟨fun m x y w7=>∃(h3 i:Nat),x=(h3:Int)∧y=(i:Int)∧h3<WW∧m+i=l2.length∧tail1 h3 (l2.drop i)=tail8 h l∧St [] w w7 [(b,.cells (u8s l2++List.replicate k (Value.int .u8 0)).toArray t_uint8 (l2.length+k,l2.length+k+1))],
     ⟨l2.length,h2,0,rfl,rfl,hh2,rfl,ht2,H⟩,?_⟩
    rintro m x y w7 ⟨h3,i,rfl,rfl,hh3,hm,ht3,H⟩
    refine bif_i (fun hc=>?_) (fun hc=>?_)
    · have hi:i<l2.length:=by have:=of_decide_eq_true hc;omega
      have hcell:(u8s l2++List.replicate k (Value.int .u8 0)).toArray[i]? =some (.int .u8 (l2[i].toNat:Int)):=by
       rw [List.getElem?_toArray,List.getElem?_append_left (by simpa using hi)]
       exact u8s_get (List.getElem?_eq_getElem hi)
      have hb:=l2[i].toNat_lt
      refine⟨by omega,by omega,OSome.i ⟨_,by rw [A0_add,Int.toNat_natCast,Nat.mul_one];exact H.cell 0 rfl hcell,?_⟩⟩
      rw [u64_byte _ hb,show(2870177450012600261:Int)=((q5:Nat):Int)from rfl,U64_mul,xorI_u64 _ _ hh3 (modW _)]
      refine Calls.st H (T_bits_RotateLeft64 _ _ 11 rfl (by decide) (xor_lt' hh3 (modW _)) w7) fun w8 H=>⟨_,rfl,?_⟩
      rw [show(11400714785074694791:Int)=((q1:Nat):Int)from rfl,U64_mul]
      refine⟨m-1,by omega,_,i+1,rfl,?_,modW _,by omega,?_,H⟩
      · rw [show(i:Int)+1=((i+1:Nat):Int) by omega,W64_nat (by omega)]
      · rw [←ht3,List.drop_eq_getElem_cons hi];rfl
    · have hi:i=l2.length:=by have:=of_decide_eq_false hc;omega
      subst hi
      rw [List.drop_length]at ht3
      exact⟨by rw [←ht3];rfl,H.fr⟩
   refine bif_i (fun hc=>?_) (fun hc=>?_)
   · have h4:4≤l1.length:=by have:=of_decide_eq_true hc;omega
     rw [tail4,if_pos h4]at ht
     refine H.drew fun w9 H=>?_
     obtain⟨a,b,c,d,r,rfl⟩:=four_of l1 h4
     refine⟨by decide,a,by rw [S_get];rfl,by decide,b,by rw [S_get];rfl,by decide,by decide,c,by rw [S_get];rfl,by decide,by decide,d,by rw [S_get];rfl,by decide,?_⟩
     rw [u64_byte _ a.toNat_lt,u64_byte _ b.toNat_lt,u64_byte _ c.toNat_lt,u64_byte _ d.toNat_lt,le4 _ _ _ _ a.toNat_lt b.toNat_lt c.toNat_lt d.toNat_lt]
     have e4:a.toNat+256*(b.toNat+256*(c.toNat+256*d.toNat))=le ((a::b::c::d::r).take 4):=by simp [le]
     rw [e4,show(11400714785074694791:Int)=((q1:Nat):Int)from rfl,U64_mul,xorI_u64 _ _ hh1 (modW _)]
     refine Calls.st H (T_bits_RotateLeft64 _ _ 23 rfl (by decide) (xor_lt' hh1 (modW _)) w9) fun w10 H=>⟨_,rfl,by decide,by simp;omega,?_⟩
     rw [show(14029467366897019727:Int)=((q2:Nat):Int)from rfl,show(1609587929392839161:Int)=((q3:Nat):Int)from rfl,U64_mul,U64_add,S_extract,List.take_of_length_le (Nat.le_refl _)]
     exact key _ _ _ (modW _) (by simp;omega) ht H
   · have h4:l1.length<4:=by have:=of_decide_eq_false hc;omega
     rw [tail4,if_neg (by omega)]at ht
     exact key _ _ _ hh1 (Nat.le_refl _) ht H
end Go.Proofs.Tryz
namespace Go.Proofs.Tryz
open Go Go.RowKit Go.Proofs.VC
variable {M:List Nat} {w0 w:World} {L:List (Nat×Obj)}
def lanesV (a b c d:Nat):Value:= .agg #[.int .u64 (a:Int),.int .u64 (b:Int),.int .u64 (c:Int),.int .u64 (d:Int)]
theorem T_xxh_begun (s:Nat) (hs:s<WW) (w:World):Calls prog n_xxh_begun #[.int .u64 (s:Int)] w fun e w'=>e= .returned (lanesV (((s+q1)%WW+q2)%WW) ((s+q2)%WW) s ((s+(WW-q1))%WW))∧Fr [] w w':=by
 refine S_xxh_begun ?_
 unfold F_xxh_begun
 refine(St.start [] w).alloc fun w1 b1 H=>?_
 have e1:U64 ((s:Int)-(11400714785074694791:Int))=(((s+(WW-q1))%WW:Nat):Int):=by
  rw [show U64 ((s:Int)-(11400714785074694791:Int))=_ from wrap_u64 _]
  have e0:(s+(WW-q1))%WW=(s+7046029288634856825)%18446744073709551616:=rfl
  rw [e0];omega
 rw [e1,show(11400714785074694791:Int)=((q1:Nat):Int)from rfl,show(14029467366897019727:Int)=((q2:Nat):Int)from rfl,U64_add,U64_add,U64_add]
 simp only [A0_add]
 refine H.sto 0 rfl (by simp) fun w2 H=>?_
 refine H.sto 0 rfl (by simp) fun w3 H=>?_
 refine H.sto 0 rfl (by simp) fun w4 H=>?_
 refine H.sto 0 rfl (by simp) fun w5 H=>?_
 refine⟨_,_,_,_,⟨?_,?_,?_,?_,trivial⟩,rfl,H.fr⟩
 all_goals simp only [A0_add]
 · exact H.cell 0 rfl rfl
 · exact H.cell 0 rfl rfl
 · exact H.cell 0 rfl rfl
 · exact H.cell 0 rfl rfl
def stp (l:List UInt8) (i x:Nat):Nat:=roundN x (le ((l.drop (8*i)).take 8))
theorem T_xxh_four_step (a b c d:Nat) (l:List UInt8) (h32:32≤l.length) (hl:l.length<4611686018427387904) (w:World):
 Calls prog n_xxh_four_step #[lanesV a b c d,.string (S l)] w fun e w'=>e= .returned (lanesV (stp l 0 a) (stp l 1 b) (stp l 2 c) (stp l 3 d))∧Fr [] w w':=by
 refine S_xxh_four_step ?_
 unfold F_xxh_four_step
 refine(St.start [] w).alloc fun w1 b2 H=>?_
 refine H.alloc fun w2 b4 H=>?_
 refine⟨fun m x w3=>∃(i va vb vc vd:Nat),x=(i:Int)∧m+i=4∧va=(if 0<i then stp l 0 a else a)∧vb=(if 1<i then stp l 1 b else b)∧vc=(if 2<i then stp l 2 c else c)∧vd=(if 3<i then stp l 3 d else d)∧
  St [] w w3 [(b4,.cells #[.int .u64 0,.int .u64 0,.int .u64 0,.int .u64 0] t_xxh_four (0,0)),(b2,.cells #[.int .u64 (va:Int),.int .u64 (vb:Int),.int .u64 (vc:Int),.int .u64 (vd:Int)] t_xxh_four (0,0))],
  ⟨4,0,a,b,c,d,rfl,rfl,by simp,by simp,by simp,by simp,H⟩,?_⟩
 rintro m x w3 ⟨i,va,vb,vc,vd,rfl,hm,ha,hb,hc,hd,H⟩
 refine bif_i (fun hc1=>?_) (fun hc1=>?_)
 · have hi:i<4:=by have:=of_decide_eq_true hc1;omega
   have e1:W64 ((i:Int)*8)=((8*i:Nat):Int):=by rw [show(i:Int)*8=((8*i:Nat):Int) by omega,W64_nat (by omega)]
   have e2:W64 ((i:Int)+1)=((i+1:Nat):Int):=by rw [show(i:Int)+1=((i+1:Nat):Int) by omega,W64_nat (by omega)]
   have hr:=wgetR_at (l:=l) (k:=8*i) (by omega)
   rw [e1,e2]
   refine Calls.st H (T_vint_GetWord l _ (by omega) w3) fun w4 H=>⟨_,_,_,rfl,by omega,by omega,?_⟩
   rw [hr,A0_add,Int.toNat_natCast,Nat.mul_one]
   rcases(by omega:i=0∨i=1∨i=2∨i=3)with rfl|rfl|rfl|rfl
   · refine⟨_,H.cell 1 rfl rfl,Calls.st H (T_xxh_Round _ _ w4) fun w5 H=>⟨_,rfl,by omega,by omega,?_⟩⟩
     exact H.sto 1 rfl (by simp) fun w6 H=>⟨m-1,by omega,_,_,_,_,_,rfl,by omega,by simp [ha,stp],by simp [hb],by simp [hc],by simp [hd],H⟩
   · refine⟨_,H.cell 1 rfl rfl,Calls.st H (T_xxh_Round _ _ w4) fun w5 H=>⟨_,rfl,by omega,by omega,?_⟩⟩
     exact H.sto 1 rfl (by simp) fun w6 H=>⟨m-1,by omega,_,_,_,_,_,rfl,by omega,by simp [ha],by simp [hb,stp],by simp [hc],by simp [hd],H⟩
   · refine⟨_,H.cell 1 rfl rfl,Calls.st H (T_xxh_Round _ _ w4) fun w5 H=>⟨_,rfl,by omega,by omega,?_⟩⟩
     exact H.sto 1 rfl (by simp) fun w6 H=>⟨m-1,by omega,_,_,_,_,_,rfl,by omega,by simp [ha],by simp [hb],by simp [hc,stp],by simp [hd],H⟩
   · refine⟨_,H.cell 1 rfl rfl,Calls.st H (T_xxh_Round _ _ w4) fun w5 H=>⟨_,rfl,by omega,by omega,?_⟩⟩
     exact H.sto 1 rfl (by simp) fun w6 H=>⟨m-1,by omega,_,_,_,_,_,rfl,by omega,by simp [ha],by simp [hb],by simp [hc],by simp [hd,stp],H⟩
 · have hi:i=4:=by have:=of_decide_eq_false hc1;omega
   subst hi
   simp at ha hb hc hd
   subst ha hb hc hd
   refine⟨_,_,_,_,⟨by rw [A0_add];exact H.cell 1 rfl rfl,by rw [A0_add];exact H.cell 1 rfl rfl,by rw [A0_add];exact H.cell 1 rfl rfl,by rw [A0_add];exact H.cell 1 rfl rfl,trivial⟩,?_⟩
   simp only [A0_add]
   refine H.sto 0 rfl (by simp) fun w5 H=>?_
   refine H.sto 0 rfl (by simp) fun w5 H=>?_
   refine H.sto 0 rfl (by simp) fun w5 H=>?_
   refine H.sto 0 rfl (by simp) fun w5 H=>?_
   exact⟨_,_,_,_,⟨by rw [A0_add];exact H.cell 0 rfl rfl,by rw [A0_add];exact H.cell 0 rfl rfl,by rw [A0_add];exact H.cell 0 rfl rfl,by rw [A0_add];exact H.cell 0 rfl rfl,trivial⟩,rfl,H.fr⟩
def mergeN (h x:Nat):Nat:=((h^^^roundN 0 x)*q1%WW+q4)%WW
def joinN (a b c d:Nat):Nat:=mergeN (mergeN (mergeN (mergeN ((((rotl a 1+rotl b 7)%WW+rotl c 12)%WW+rotl d 18)%WW) a) b) c) d
theorem T_xxh_four_joined (a b c d:Nat) (ha:a<WW) (hb:b<WW) (hc:c<WW) (hd:d<WW) (w:World):Calls prog n_xxh_four_joined #[lanesV a b c d] w fun e w'=>e= .returned (.int .u64 (joinN a b c d:Nat))∧Fr [] w w':=by
 refine S_xxh_four_joined ?_
 unfold F_xxh_four_joined
 refine(St.start [] w).alloc fun w1 b1 H=>?_
 have r0:(0+rotl a 1)%WW=rotl a 1:=by rw [Nat.zero_add];exact Nat.mod_eq_of_lt (rotl_lt _ ha)
 refine⟨fun m x y w2=>∃i g:Nat,x=(g:Int)∧g=(if i=0 then 0 else if i=1 then rotl a 1 else if i=2 then(rotl a 1+rotl b 7)%WW else if i=3 then((rotl a 1+rotl b 7)%WW+rotl c 12)%WW
  else(((rotl a 1+rotl b 7)%WW+rotl c 12)%WW+rotl d 18)%WW)∧y=(i:Int)∧m+i=4∧
  St [] w w2 [(b1,.cells #[.int .u64 (a:Int),.int .u64 (b:Int),.int .u64 (c:Int),.int .u64 (d:Int)] t_xxh_four (0,0))],⟨4,0,0,rfl,by simp,rfl,rfl,H⟩,?_⟩
 rintro m x y w2 ⟨i,g,rfl,hg,rfl,hm,H⟩
 refine bif_i (fun hc1=>?_) (fun hc1=>?_)
 · have hi:i<4:=by have:=of_decide_eq_true hc1;omega
   have e2:W64 ((i:Int)+1)=((i+1:Nat):Int):=by rw [show(i:Int)+1=((i+1:Nat):Int) by omega,W64_nat (by omega)]
   rw [e2,A0_add,Int.toNat_natCast,Nat.mul_one]
   rcases(by omega:i=0∨i=1∨i=2∨i=3)with rfl|rfl|rfl|rfl
   · refine⟨by omega,by omega,1,rfl,by omega,by omega,_,H.cell 0 rfl rfl,?_⟩
     exact Calls.st H (T_bits_RotateLeft64 a 1 1 rfl (by decide) ha w2) fun w3 H=>⟨_,rfl,m-1,by omega,1,_,U64_add _ _,by simp at hg;simp [hg,Nat.mod_eq_of_lt (rotl_lt 1 ha)],rfl,by omega,H⟩
   · refine⟨by omega,by omega,7,rfl,by omega,by omega,_,H.cell 0 rfl rfl,?_⟩
     exact Calls.st H (T_bits_RotateLeft64 b 7 7 rfl (by decide) hb w2) fun w3 H=>⟨_,rfl,m-1,by omega,2,_,U64_add _ _,by simp at hg;simp [hg],rfl,by omega,H⟩
   · refine⟨by omega,by omega,12,rfl,by omega,by omega,_,H.cell 0 rfl rfl,?_⟩
     exact Calls.st H (T_bits_RotateLeft64 c 12 12 rfl (by decide) hc w2) fun w3 H=>⟨_,rfl,m-1,by omega,3,_,U64_add _ _,by simp only [hg];simp only [if_true,if_false,reduceCtorEq,Nat.reduceEqDiff],rfl,by omega,H⟩
   · refine⟨by omega,by omega,18,rfl,by omega,by omega,_,H.cell 0 rfl rfl,?_⟩
     exact Calls.st H (T_bits_RotateLeft64 d 18 18 rfl (by decide) hd w2) fun w3 H=>⟨_,rfl,m-1,by omega,4,_,U64_add _ _,by simp only [hg];simp only [if_true,if_false,reduceCtorEq,Nat.reduceEqDiff],rfl,by omega,H⟩
 · have hi:i=4:=by have:=of_decide_eq_false hc1;omega
   subst hi
   refine⟨_,_,_,_,⟨by rw [A0_add];exact H.cell 0 rfl rfl,by rw [A0_add];exact H.cell 0 rfl rfl,by rw [A0_add];exact H.cell 0 rfl rfl,by rw [A0_add];exact H.cell 0 rfl rfl,trivial⟩,?_⟩
   have hg':g=(((rotl a 1+rotl b 7)%WW+rotl c 12)%WW+rotl d 18)%WW:=by simp only [hg];simp only [if_false,Nat.reduceEqDiff,reduceCtorEq]
   clear hg
   have h0:(((rotl a 1+rotl b 7)%WW+rotl c 12)%WW+rotl d 18)%WW<WW:=modW _
   generalize hx:(((rotl a 1+rotl b 7)%WW+rotl c 12)%WW+rotl d 18)%WW=h at h0 hg'
   subst hg'
   have hj:joinN a b c d=mergeN (mergeN (mergeN (mergeN g a) b) c) d:=by rw [joinN,hx]
   have hj2:joinN a b c d= [a,b,c,d].foldl mergeN g:=by rw [hj,List.foldl_cons,List.foldl_cons,List.foldl_cons,List.foldl_cons,List.foldl_nil]
   refine⟨fun m x y w4=>∃i:Nat,∃k:Nat,x=(k:Int)∧k<WW∧y=(i:Int)∧m+i=4∧k=([a,b,c,d].take i).foldl mergeN g∧St [] w w4 [],⟨4,0,g,rfl,h0,rfl,rfl,rfl,H.tail⟩,?_⟩
   rintro m x y w4 ⟨i,k,rfl,hk,rfl,hm,hki,H⟩
   refine bif_i (fun hc1=>?_) (fun hc1=>?_)
   · have hi:i<4:=by have:=of_decide_eq_true hc1;omega
     have hil:i< [a,b,c,d].length:=hi
     have e2:W64 ((i:Int)+1)=((i+1:Nat):Int):=by rw [show(i:Int)+1=((i+1:Nat):Int) by omega,W64_nat (by omega)]
     rw [e2,Int.toNat_natCast,Nat.mul_one]
     have hget:([.int .u64 (a:Int),.int .u64 (b:Int),.int .u64 (c:Int),.int .u64 (d:Int)]:List Value)[i]? =some (.int .u64 (([a,b,c,d][i]:Nat):Int)):=by
      have:([.int .u64 (a:Int),.int .u64 (b:Int),.int .u64 (c:Int),.int .u64 (d:Int)]:List Value)= [a,b,c,d].map fun n=> .int .u64 (n:Int):=rfl
      rw [this,List.getElem?_map,List.getElem?_eq_getElem hil];rfl
     refine⟨by omega,by omega,_,hget,?_⟩
     refine Calls.st H (T_xxh_Round 0 _ w4) fun w6 H=>⟨_,rfl,m-1,by omega,i+1,mergeN k [a,b,c,d][i],?_,modW _,rfl,by omega,?_,H⟩
     · rw [xorI_u64 _ _ hk (roundN_lt _ _),show(11400714785074694791:Int)=((q1:Nat):Int)from rfl,show(9650029242287828579:Int)=((q4:Nat):Int)from rfl,U64_mul,U64_add,mergeN]
     · rw [List.take_succ_eq_append_getElem hil,List.foldl_append,←hki,List.foldl_cons,List.foldl_nil]
   · have hi:i=4:=by have:=of_decide_eq_false hc1;omega
     subst hi
     rw [List.take_of_length_le (by simp)]at hki
     exact⟨by rw [hj2,hki],H.fr⟩
end Go.Proofs.Tryz
namespace Go.Proofs.Tryz
open Go Go.RowKit Go.Proofs.VC
variable {M:List Nat} {w0 w:World} {L:List (Nat×Obj)}
structure LN where
 a:Nat
 b:Nat
 c:Nat
 d:Nat
def LN.ok (x:LN):Prop:=x.a<WW∧x.b<WW∧x.c<WW∧x.d<WW
def LN.stp (x:LN) (l:List UInt8):LN:=⟨Tryz.stp l 0 x.a,Tryz.stp l 1 x.b,Tryz.stp l 2 x.c,Tryz.stp l 3 x.d⟩
theorem LN.stp_ok (x:LN) (l:List UInt8):(x.stp l).ok:=⟨modW _,modW _,modW _,modW _⟩
def lanesN (x:LN) (l:List UInt8):LN×List UInt8:=if h:32≤l.length then lanesN (x.stp l) (l.drop 32)else(x,l)
termination_by l.length
decreasing_by simp;omega
def begunN (s:Nat):LN:=⟨((s+q1)%WW+q2)%WW,(s+q2)%WW,s,(s+(WW-q1))%WW⟩
def sumN (s:Nat) (l:List UInt8):Nat:=
 if l.length<32 then mixN (tail8 (((s+q5)%WW+l.length%WW)%WW) l)
 else mixN (tail8 ((joinN (lanesN (begunN s) l).1.a (lanesN (begunN s) l).1.b (lanesN (begunN s) l).1.c (lanesN (begunN s) l).1.d+l.length%WW)%WW) (lanesN (begunN s) l).2)
theorem tail4_lt {h:Nat} (hh:h<WW) (l:List UInt8):tail4 h l<WW:=by
 unfold tail4
 split
 · exact tail1_lt (modW _) _
 · exact tail1_lt hh _
theorem tail8_lt:∀(n:Nat) {h:Nat} (hh:h<WW) (l:List UInt8),l.length≤n→tail8 h l<WW:=by
 intro n
 induction n with
 |zero=>intro h hh l hl;rw [tail8,dif_neg (by omega)];exact tail4_lt hh l
 |succ n ih=>
  intro h hh l hl
  rw [tail8]
  split
  · exact ih (modW _) _ (by rw [List.length_drop];omega)
  · exact tail4_lt hh l
theorem mixN_lt {h:Nat} (hh:h<WW):mixN h<WW:=by
 unfold mixN
 exact xor_lt' (modW _) (div_lt' _ (modW _))
theorem sumN_lt (s:Nat) (l:List UInt8):sumN s l<WW:=by
 unfold sumN
 split
 · exact mixN_lt (tail8_lt _ (modW _) _ (Nat.le_refl _))
 · exact mixN_lt (tail8_lt _ (modW _) _ (Nat.le_refl _))
theorem T_xxh_Sum (s:Nat) (hs:s<WW) (l:List UInt8) (hl:l.length<4611686018427387904) (w:World):Calls prog n_xxh_Sum #[.int .u64 (s:Int),.string (S l)] w fun e w'=>e= .returned (.int .u64 (sumN s l:Nat))∧Fr [] w w':=by
 refine S_xxh_Sum ?_
 unfold F_xxh_Sum
 rw [S_size]
 refine bif_i (fun hc=>?_) (fun hc=>?_)
 · have h32:l.length<32:=by have:=of_decide_eq_true hc;omega
   rw [show(2870177450012600261:Int)=((q5:Nat):Int)from rfl,U64_add,U64_nat,U64_add]
   refine Calls.st (St.start [] w) (T_xxh_tail _ (modW _) l hl w) fun w2 H=>⟨_,rfl,?_⟩
   refine Calls.st H (T_xxh_Mix _ (tail8_lt _ (modW _) _ (Nat.le_refl _)) w2) fun w3 H=>⟨_,rfl,?_,H.fr⟩
   rw [sumN,if_pos h32]
 · have h32:32≤l.length:=by have:=of_decide_eq_false hc;omega
   refine Calls.st (St.start [] w) (T_xxh_begun s hs w) fun w2 H=>⟨_,_,_,_,rfl,?_⟩
   refine H.alloc fun w4 b7 H=>?_
   simp only [A0_add]
   refine H.sto 0 rfl (by simp) fun w5 H=>?_
   refine H.sto 0 rfl (by simp) fun w6 H=>?_
   refine H.sto 0 rfl (by simp) fun w7 H=>?_
   refine H.sto 0 rfl (by simp) fun w8 H=>?_
   refine⟨fun m x w9=>∃(y:LN) (l1:List UInt8),x=S l1∧y.ok∧m=l1.length∧l1.length≤l.length∧lanesN y l1=lanesN (begunN s) l∧
    St [] w w9 [(b7,.cells #[.int .u64 (y.a:Int),.int .u64 (y.b:Int),.int .u64 (y.c:Int),.int .u64 (y.d:Int)] t_xxh_four (0,0))],
    ⟨l.length,begunN s,l,rfl,⟨modW _,modW _,hs,modW _⟩,rfl,Nat.le_refl _,rfl,H⟩,?_⟩
   rintro m x w9 ⟨y,l1,rfl,hy,hm,hle,hln,H⟩
   subst hm
   rw [S_size]
   refine bif_i (fun hc1=>?_) (fun hc1=>?_)
   · have h1:32≤l1.length:=by have:=of_decide_eq_true hc1;omega
     refine⟨_,_,_,_,⟨by rw [A0_add];exact H.cell 0 rfl rfl,by rw [A0_add];exact H.cell 0 rfl rfl,by rw [A0_add];exact H.cell 0 rfl rfl,by rw [A0_add];exact H.cell 0 rfl rfl,trivial⟩,?_⟩
     refine Calls.st H (T_xxh_four_step y.a y.b y.c y.d l1 h1 (by omega) w9) fun w10 H=>⟨_,_,_,_,rfl,?_⟩
     refine H.sto 0 rfl (by simp) fun w11 H=>?_
     refine H.sto 0 rfl (by simp) fun w12 H=>?_
     refine H.sto 0 rfl (by simp) fun w13 H=>?_
     refine H.sto 0 rfl (by simp) fun w14 H=>?_
     rw [S_extract,List.take_of_length_le (Nat.le_refl _)]
     refine⟨by decide,by omega,(l1.drop 32).length,by rw [List.length_drop];omega,y.stp l1,l1.drop 32,rfl,LN.stp_ok _ _,rfl,by rw [List.length_drop];omega,?_,H⟩
     rw [←hln,lanesN.eq_1 y l1,dif_pos h1]
   · have h1:l1.length<32:=by have:=of_decide_eq_false hc1;omega
     rw [lanesN,dif_neg (by omega)]at hln
     refine⟨_,_,_,_,⟨by rw [A0_add];exact H.cell 0 rfl rfl,by rw [A0_add];exact H.cell 0 rfl rfl,by rw [A0_add];exact H.cell 0 rfl rfl,by rw [A0_add];exact H.cell 0 rfl rfl,trivial⟩,?_⟩
     refine Calls.st H (T_xxh_four_joined y.a y.b y.c y.d hy.1 hy.2.1 hy.2.2.1 hy.2.2.2 w9) fun w10 H=>⟨_,rfl,?_⟩
     rw [U64_nat,U64_add]
     refine Calls.st H (T_xxh_tail _ (modW _) l1 (by omega) w10) fun w11 H=>⟨_,rfl,?_⟩
     refine Calls.st H (T_xxh_Mix _ (tail8_lt _ (modW _) _ (Nat.le_refl _)) w11) fun w12 H=>⟨_,rfl,?_,H.fr⟩
     rw [sumN,if_neg (by omega),←hln]
def u64i (v:Int):Nat:=(v%18446744073709551616).toNat
theorem U64_u64i (v:Int):U64 v=((u64i v:Nat):Int):=by rw [show U64 v=_ from wrap_u64 _,u64i];omega
theorem u64i_lt (v:Int):u64i v<WW:=by unfold u64i WW;omega
def plainB (l:List Int):List UInt8:=l.flatMap fun v=>wput (u64i v)
theorem plainB_len (l:List Int):(plainB l).length=8*l.length:=by
 induction l with
 |nil=>rfl
 |cons v l ih=>simp only [plainB,List.flatMap_cons,List.length_append,wput_len,List.length_cons]at ih ⊢;rw [show(List.flatMap (fun v=>wput (u64i v)) l).length=8*l.length from ih];omega
theorem plainB_app (a b:List Int):plainB (a++b)=plainB a++plainB b:=by simp [plainB]
def SlI (w:World) (a:Option Addr) (n:Nat) (l:List Int):Prop:=n=l.length∧Sl w a (i64s l)
theorem SlI.fr0 {w w':World} {a:Option Addr} {n:Nat} {l:List Int} (h:SlI w a n l) (hf:Fr [] w w'):SlI w' a n l:=⟨h.1,h.2.fr0 hf⟩
theorem T_plain_Put (a:Option Addr) (n c:Nat) (l:List Int) (w:World) (hs:SlI w a n l) (hl:8*l.length≤140737488355328):
 Calls prog n_plain_Put #[.slice a n c] w fun e w'=>e= .returned (.string (S (plainB l)))∧Fr [] w w':=by
 obtain⟨rfl,hsl⟩:=hs
 refine S_plain_Put ?_
 unfold F_plain_Put
 refine(St.start [] w).alloc fun w1 b3 H=>?_
 refine⟨fun m x w2=>∃(i:Nat) (p:Value) (a2:Option Addr) (n2 c2:Nat),x=(i:Int)∧m+i=l.length∧(p= .pointer none∨p= .pointer (some (A0 b3)))∧
  St [] w w2 [(b3,.cells #[p,.slice a2 n2 c2] t_strings_Builder (0,0))]∧Ow [] w w2 [(b3,.cells #[p,.slice a2 n2 c2] t_strings_Builder (0,0))] t_uint8 1 a2 n2 c2 (u8s (plainB (l.take i))),
  ⟨l.length,0,_,none,0,0,rfl,rfl,.inl rfl,H,Ow.nil⟩,?_⟩
 rintro m x w2 ⟨i,p,a2,n2,c2,rfl,hm,hp,H,ho⟩
 have hn2:n2=8*min i l.length:=by
  have:=ho.len
  rw [u8s_len,plainB_len,List.length_take]at this
  omega
 refine bif_i (fun hc=>?_) (fun hc=>?_)
 · have hi:i<l.length:=by have:=of_decide_eq_true hc;omega
   refine⟨by omega,by omega,hsl.read (i64s_get (List.getElem?_eq_getElem hi)) fun q hq hcell=>⟨l[i],?_,?_⟩⟩
   · rw [Int.toNat_natCast,Nat.mul_one];exact H.old hcell
   · rw [U64_u64i]
     refine Calls.stf H (T_vint_Word _ (u64i_lt _) w2) fun w3 hf H3=>⟨_,rfl,?_⟩
     have ho3:=ho.call0 hf
     · refine T_strings_Builder_WriteString (L:=_) H3 (j:=0) rfl hp ho3 (by rw [wput_len];omega) fun a' c' w' H ho=>⟨_,_,rfl,m-1,by omega,i+1,_,_,_,_,?_,by omega,.inr rfl,H,?_⟩
       · rw [show(i:Int)+1=((i+1:Nat):Int) by omega,W64_nat (by omega)]
       · rw [List.take_succ_eq_append_getElem hi,plainB_app]
         have:plainB [l[i]]=wput (u64i l[i]):=by simp [plainB]
         rw [this];exact ho
 · have hi:i=l.length:=by have:=of_decide_eq_false hc;omega
   subst hi
   refine T_strings_Builder_String H (j:=0) rfl hp ho fun w' H'=>⟨_,rfl,?_,H'.fr⟩
   rw [List.take_of_length_le (Nat.le_refl _)]
end Go.Proofs.Tryz
