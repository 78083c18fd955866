import Derived.Test.YtoeokgpdmagjoaaGreatN
/-
What functions of the program come to (printed by a program; each checked by the kernel).
-/
namespace Go.Proofs.Tryz
open Go Go.Proofs.VC
set_option linter.unusedVariables false
set_option maxRecDepth 100000
/-- l21_BlockSums -/
def F_l21_BlockSums (x0 : Option Addr) (x0n : Nat) (x0c : Nat) (x1 : Int) (x2 : Int) (x3 : Int) (w : World) (R : Value → World → Prop) : Prop :=
  0 ≤ (if (3 : Int) < ((x0n : Nat) : Int) then (3 : Int) else ((x0n : Nat) : Int)) ∧ (if (3 : Int) < ((x0n : Nat) : Int) then (3 : Int) else ((x0n : Nat) : Int)) ≤
  ((x0c : Nat) : Int) ∧ Calls prog n_l11_Numbers #[.slice (sA x0 1 0 x0c) ((Int.toNat (if (3 : Int) < ((x0n : Nat) : Int) then (3 : Int) else ((x0n : Nat) :
  Int))) - 0) (x0c - 0)] w (fun e w1 => ∃ x23 : Option Addr, ∃ x23n : Nat, ∃ x23c : Nat, e = .returned (.slice x23 x23n x23c) ∧ ∀ J4 : World → Prop, (∀ w2,
  (Calls prog n_l21_Options #[.int .u8 (1 : Int), .int .u8 (1 : Int), .int .u8 (1 : Int), .int .u8 (0 : Int), .int .u64 x1] w2 (fun e_2 w3 => ∃ x34a : Int, ∃
  x34b : Int, ∃ x34c : Int, ∃ x34d : Int, ∃ x34e : Int, e_2 = .returned (.agg #[.int .i64 x34a, .int .i64 x34b, .int .i64 x34c, .int .i64 x34d, .int .u64 x34e])
  ∧ Calls prog n_block_Put #[.int .i64 (0 : Int), .agg #[.int .i64 x34a, .int .i64 x34b, .int .i64 x34c, .int .i64 x34d, .int .u64 x34e], .slice x23 x23n x23c]
  w3 (fun e_3 w4 => ∃ x36r0 : ByteArray, ∃ x36r1 : Int, e_3 = .returned (.tuple #[.string x36r0, .int .i64 x36r1]) ∧ ∀ J8 : World → Prop, (∀ w5, (∃ x53 : Option
  Addr, ∃ x53n : Nat, ∃ x53c : Nat, ∃ w6 : World, (Conv.stringToBytes t_uint8 x36r0).run prog w5 = .ok (.slice x53 x53n x53c) w6 ∧ (W64 ((W64 ((8 : Int) * ((x23n
  : Nat) : Int))) + (8 : Int))) ≠ 0 ∧ 0 ≤ (W64 ((W64 (((x36r0.size : Nat) : Int) - (W64 ((W64 ((8 : Int) * ((x23n : Nat) : Int))) + (8 : Int))))) + (Int.tmod
  (W64 x2) (W64 ((W64 ((8 : Int) * ((x23n : Nat) : Int))) + (8 : Int)))))) ∧ (W64 ((W64 (((x36r0.size : Nat) : Int) - (W64 ((W64 ((8 : Int) * ((x23n : Nat) :
  Int))) + (8 : Int))))) + (Int.tmod (W64 x2) (W64 ((W64 ((8 : Int) * ((x23n : Nat) : Int))) + (8 : Int)))))) < ((x53n : Nat) : Int) ∧ OSome x53 fun p64 => ∃ x65
  : Int, w6.cell? (p64.add (Int.toNat (W64 ((W64 (((x36r0.size : Nat) : Int) - (W64 ((W64 ((8 : Int) * ((x23n : Nat) : Int))) + (8 : Int))))) + (Int.tmod (W64
  x2) (W64 ((W64 ((8 : Int) * ((x23n : Nat) : Int))) + (8 : Int)))))) * 1)) = some (.int .u8 x65) ∧ 0 ≤ (W64 ((W64 (((x36r0.size : Nat) : Int) - (W64 ((W64 ((8 :
  Int) * ((x23n : Nat) : Int))) + (8 : Int))))) + (Int.tmod (W64 x2) (W64 ((W64 ((8 : Int) * ((x23n : Nat) : Int))) + (8 : Int)))))) ∧ (W64 ((W64 (((x36r0.size :
  Nat) : Int) - (W64 ((W64 ((8 : Int) * ((x23n : Nat) : Int))) + (8 : Int))))) + (Int.tmod (W64 x2) (W64 ((W64 ((8 : Int) * ((x23n : Nat) : Int))) + (8 :
  Int)))))) < ((x53n : Nat) : Int) ∧ OSome x53 fun p68 => Sto w6 (p68.add (Int.toNat (W64 ((W64 (((x36r0.size : Nat) : Int) - (W64 ((W64 ((8 : Int) * ((x23n :
  Nat) : Int))) + (8 : Int))))) + (Int.tmod (W64 x2) (W64 ((W64 ((8 : Int) * ((x23n : Nat) : Int))) + (8 : Int)))))) * 1)) (.int .u8 (xorI .u8 x65 x3)) fun w7 =>
  ∃ x71 : ByteArray, (Conv.bytesToString (.slice x53 x53n x53c)).run prog w7 = .ok (.string x71) w7 ∧ Calls prog n_block_Get #[.string x71, .int .i64 (0 : Int),
  .int .u64 x1, .int .i64 (100 : Int)] w7 (fun e_4 w8 => ∃ x73r0 : Int, ∃ x73r1 : Option Addr, ∃ x73r1n : Nat, ∃ x73r1c : Nat, ∃ x73r2 : Int, ∃ x73r3 : Int, e_4
  = .returned (.tuple #[.int .i64 x73r0, .slice x73r1 x73r1n x73r1c, .int .i64 x73r2, .int .i64 x73r3]) ∧ Calls prog n_l1_Err #[.int .i64 x73r3] w8 (fun e_5 w9
  => ∃ x79 : Int, e_5 = .returned (.int .i64 x79) ∧ bif x79 == (4 : Int) then (bif ((x73r1n : Nat) : Int) == (0 : Int) then (Calls prog n_l21_awake #[] w9 (fun
  e_6 w10 => ∃ x87 : Bool, e_6 = .returned (.bool x87) ∧ R (.bool x87) w10)) else (R (.bool false) w9)) else (R (.bool false) w9)))) → J8  w5) → Calls prog
  n_l1_Err #[.int .i64 x36r1] w4 (fun e_7 w11 => ∃ x44 : Int, e_7 = .returned (.int .i64 x44) ∧ bif x44 != (0 : Int) then (R (.bool false) w11) else (bif decide
  (((x36r0.size : Nat) : Int) < (W64 ((W64 ((8 : Int) * ((x23n : Nat) : Int))) + (8 : Int)))) then (R (.bool false) w11) else (J8  w11)))))) → J4  w2) → bif
  ((x23n : Nat) : Int) == (0 : Int) then (Calls prog n_l21_awake #[] w1 (fun e_8 w12 => ∃ x31 : Bool, e_8 = .returned (.bool x31) ∧ R (.bool x31) w12)) else (bif
  x3 == (0 : Int) then (Calls prog n_l21_awake #[] w1 (fun e_9 w13 => ∃ x31_2 : Bool, e_9 = .returned (.bool x31_2) ∧ R (.bool x31_2) w13)) else (J4  w1)))
def A_l21_BlockSums : Ann := { loop := fun k => none, join := fun k => cond (Nat.beq k 8) (some (4494803534348544, [], [])) (cond (Nat.beq k 4) (some (4278190336, [], [])) (none)), nf := fun k => [] }
theorem E_l21_BlockSums (x0 : Option Addr) (x0n : Nat) (x0c : Nat) (x1 : Int) (x2 : Int) (x3 : Int) (w : World) (R : Value → World → Prop) : F_l21_BlockSums x0 x0n x0c x1 x2 x3 w R = vcF prog TAB fok A_l21_BlockSums f8.ntmps (f8.body.getD .skip) f8.results.toList [.slice x0 x0n x0c, .int .u64 x1, .int .u16 x2, .int .u8 x3] w R := by kernel_rfl
theorem S_l21_BlockSums {x0 : Option Addr} {x0n : Nat} {x0c : Nat} {x1 : Int} {x2 : Int} {x3 : Int} {w : World} {R : Ending → World → Prop} (h : F_l21_BlockSums x0 x0n x0c x1 x2 x3 w fun v w' => R (.returned v) w') : Calls prog n_l21_BlockSums #[.slice x0 x0n x0c, .int .u64 x1, .int .u16 x2, .int .u8 x3] w R :=
  (calls_of_vc tab func8 (c := f8.body.getD .skip) (by kernel_rfl) (Eq.mp (E_l21_BlockSums x0 x0n x0c x1 x2 x3 w _) h)).mono fun _ _ ⟨_, he, hr⟩ => he ▸ hr

end Go.Proofs.Tryz
