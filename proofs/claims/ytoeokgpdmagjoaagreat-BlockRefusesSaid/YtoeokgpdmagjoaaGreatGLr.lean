import Derived.Test.YtoeokgpdmagjoaaGreatN
/-
What functions of the program come to (printed by a program; each checked by the kernel).
-/
namespace Go.Proofs.Tryz
open Go Go.Proofs.VC
set_option linter.unusedVariables false
set_option maxRecDepth 100000
/-- l21_BlockRefuses -/
def F_l21_BlockRefuses (x0 : Int) (x1 : Int) (w : World) (R : Value → World → Prop) : Prop :=
  Calls prog n_l21_Options #[.int .u8 (1 : Int), .int .u8 (2 : Int), .int .u8 (3 : Int), .int .u8 (4 : Int), .int .u64 (5 : Int)] w (fun e w1 => ∃ x35a : Int, ∃
  x35b : Int, ∃ x35c : Int, ∃ x35d : Int, ∃ x35e : Int, e = .returned (.agg #[.int .i64 x35a, .int .i64 x35b, .int .i64 x35c, .int .i64 x35d, .int .u64 x35e]) ∧
  ∀ w2 b5, w2 = w1.alloc (.cells #[.int .i64 0, .int .i64 0, .int .i64 0, .int .i64 0, .int .u64 0] t_api_Options) → b5 = w1.heap.size → Sto w2 (A0 b5) (.int
  .i64 x35a) fun w3 => Sto w3 ((A0 b5).add 1) (.int .i64 x35b) fun w4 => Sto w4 ((A0 b5).add 2) (.int .i64 x35c) fun w5 => Sto w5 ((A0 b5).add 3) (.int .i64
  x35d) fun w6 => Sto w6 ((A0 b5).add 4) (.int .u64 x35e) fun w7 => ∀ J5 : Int → World → Prop, (∀ x6 : Int, ∀ w8, (∀ w9 b45, w9 = w8.alloc (.cells #[.int .i64 (1
  : Int), .int .i64 (2 : Int)] t_int64) → b45 = w8.heap.size → ∃ x48a : Int, ∃ x48b : Int, ∃ x48c : Int, ∃ x48d : Int, ∃ x48e : Int, LdL w9 (A0 b5) 0 [.int .i64
  x48a, .int .i64 x48b, .int .i64 x48c, .int .i64 x48d, .int .u64 x48e] ∧ Calls prog n_block_Load #[.int .i64 x6, .agg #[.int .i64 x48a, .int .i64 x48b, .int
  .i64 x48c, .int .i64 x48d, .int .u64 x48e], .slice (some (A0 b45)) 2 2] w9 (fun e_2 w10 => ∃ x50r0 : ByteArray, ∃ x50r1 : Int, e_2 = .returned (.tuple
  #[.string x50r0, .int .i64 x50r1]) ∧ ∃ x54a : Int, ∃ x54b : Int, ∃ x54c : Int, ∃ x54d : Int, ∃ x54e : Int, LdL w10 (A0 b5) 0 [.int .i64 x54a, .int .i64 x54b,
  .int .i64 x54c, .int .i64 x54d, .int .u64 x54e] ∧ Calls prog n_block_Load #[.int .i64 (0 : Int), .agg #[.int .i64 x54a, .int .i64 x54b, .int .i64 x54c, .int
  .i64 x54d, .int .u64 x54e], .slice none 0 0] w10 (fun e_3 w11 => ∃ x55r0 : ByteArray, ∃ x55r1 : Int, e_3 = .returned (.tuple #[.string x55r0, .int .i64 x55r1])
  ∧ Calls prog n_block_Unload #[.int .i64 x6, .string (⟨#[]⟩ : ByteArray), .int .i64 (1 : Int)] w11 (fun e_4 w12 => ∃ x60r0 : Option Addr, ∃ x60r0n : Nat, ∃
  x60r0c : Nat, ∃ x60r1 : Int, e_4 = .returned (.tuple #[.slice x60r0 x60r0n x60r0c, .int .i64 x60r1]) ∧ Calls prog n_block_Unload #[.int .i64 (0 : Int), .string
  (⟨#[]⟩ : ByteArray), .int .i64 (0 : Int)] w12 (fun e_5 w13 => ∃ x64r0 : Option Addr, ∃ x64r0n : Nat, ∃ x64r0c : Nat, ∃ x64r1 : Int, e_5 = .returned (.tuple
  #[.slice x64r0 x64r0n x64r0c, .int .i64 x64r1]) ∧ ∀ w14 b76, w14 = w13.alloc (.cells (([.int .i64 0, .int .i64 0, .int .i64 0, .int .i64 0] : List Value) ++
  ([.int .u64 0] : List Value) ++ ([.int .i64 (4097 : Int)] : List Value) ++ ([.int .i64 (7 : Int), .int .i64 (7 : Int)] : List Value) ++ ([.int .i64 0] : List
  Value) ++ ([.int .u64 0] : List Value) ++ ([.int .i64 (1 : Int)] : List Value) ++ ([.int .i64 (6 : Int)] : List Value) ++ ([.int .i64 (7 : Int)] : List Value)
  ++ ([.int .i64 0] : List Value) ++ ([.int .u64 0] : List Value) ++ ([.int .i64 (1 : Int)] : List Value) ++ ([.int .i64 (16 : Int)] : List Value) ++ ([.int .i64
  (7 : Int)] : List Value) ++ ([.int .i64 0] : List Value) ++ ([.int .u64 0] : List Value) ++ ([.int .i64 (1 : Int)] : List Value) ++ ([.int .i64 (7 : Int)] :
  List Value) ++ ([.int .i64 (6 : Int)] : List Value) ++ ([.int .i64 0] : List Value) ++ ([.int .u64 0] : List Value) ++ ([.int .i64 (1 : Int)] : List Value) ++
  ([.int .i64 (7 : Int)] : List Value) ++ ([.int .i64 (13 : Int)] : List Value) ++ ([.int .i64 0] : List Value) ++ ([.int .u64 0] : List Value) ++ ([.int .i64 (1
  : Int)] : List Value) ++ ([.int .i64 (7 : Int), .int .i64 (7 : Int)] : List Value) ++ ([.int .i64 (5 : Int)] : List Value) ++ ([.int .u64 0] : List Value) ++
  ([.int .i64 (1 : Int)] : List Value) ++ ([.int .i64 (7 : Int), .int .i64 (7 : Int)] : List Value) ++ ([.int .i64 (-1 : Int)] : List Value) ++ ([.int .u64 0] :
  List Value) ++ ([.int .i64 0] : List Value) ++ ([.int .i64 (7 : Int), .int .i64 (7 : Int)] : List Value) ++ ([.int .i64 0] : List Value) ++ ([.int .u64 0] :
  List Value)).toArray t_api_Options) → b76 = w13.heap.size → (9 : Int) ≠ 0 ∧ 0 ≤ (Int.tmod x0 (9 : Int)) ∧ (Int.tmod x0 (9 : Int)) < ((9 : Nat) : Int) ∧ OSome
  (some (A0 b76)) fun p79 => ∃ x80a : Int, ∃ x80b : Int, ∃ x80c : Int, ∃ x80d : Int, ∃ x80e : Int, LdL w14 (p79.add (Int.toNat (Int.tmod x0 (9 : Int)) * 5)) 0
  [.int .i64 x80a, .int .i64 x80b, .int .i64 x80c, .int .i64 x80d, .int .u64 x80e] ∧ ∀ w15 b16, w15 = w14.alloc (.cells #[.int .i64 0, .int .i64 0, .int .i64 0,
  .int .i64 0, .int .u64 0] t_api_Options) → b16 = w14.heap.size → Sto w15 (A0 b16) (.int .i64 x80a) fun w16 => Sto w16 ((A0 b16).add 1) (.int .i64 x80b) fun w17
  => Sto w17 ((A0 b16).add 2) (.int .i64 x80c) fun w18 => Sto w18 ((A0 b16).add 3) (.int .i64 x80d) fun w19 => Sto w19 ((A0 b16).add 4) (.int .u64 x80e) fun w20
  => ∃ x82a : Int, ∃ x82b : Int, ∃ x82c : Int, ∃ x82d : Int, ∃ x82e : Int, LdL w20 (A0 b16) 0 [.int .i64 x82a, .int .i64 x82b, .int .i64 x82c, .int .i64 x82d,
  .int .u64 x82e] ∧ Calls prog n_block_Put #[.int .i64 (0 : Int), .agg #[.int .i64 x82a, .int .i64 x82b, .int .i64 x82c, .int .i64 x82d, .int .u64 x82e], .slice
  (some (A0 b45)) 2 2] w20 (fun e_6 w21 => ∃ x84r0 : ByteArray, ∃ x84r1 : Int, e_6 = .returned (.tuple #[.string x84r0, .int .i64 x84r1]) ∧ Calls prog
  n_block_Get #[.string (⟨#[]⟩ : ByteArray), .int .i64 (0 : Int), .int .u64 (1 : Int), .int .i64 (1 : Int)] w21 (fun e_7 w22 => ∃ x88r0 : Int, ∃ x88r1 : Option
  Addr, ∃ x88r1n : Nat, ∃ x88r1c : Nat, ∃ x88r2 : Int, ∃ x88r3 : Int, e_7 = .returned (.tuple #[.int .i64 x88r0, .slice x88r1 x88r1n x88r1c, .int .i64 x88r2,
  .int .i64 x88r3]) ∧ Calls prog n_block_Get #[.string (⟨#[120]⟩ : ByteArray), .int .i64 (2 : Int), .int .u64 (1 : Int), .int .i64 (1 : Int)] w22 (fun e_8 w23 =>
  ∃ x94r0 : Int, ∃ x94r1 : Option Addr, ∃ x94r1n : Nat, ∃ x94r1c : Nat, ∃ x94r2 : Int, ∃ x94r3 : Int, e_8 = .returned (.tuple #[.int .i64 x94r0, .slice x94r1
  x94r1n x94r1c, .int .i64 x94r2, .int .i64 x94r3]) ∧ Calls prog n_block_Get #[.string (⟨#[4, 1]⟩ : ByteArray), .int .i64 (0 : Int), .int .u64 (1 : Int), .int
  .i64 (1 : Int)] w23 (fun e_9 w24 => ∃ x100r0 : Int, ∃ x100r1 : Option Addr, ∃ x100r1n : Nat, ∃ x100r1c : Nat, ∃ x100r2 : Int, ∃ x100r3 : Int, e_9 = .returned
  (.tuple #[.int .i64 x100r0, .slice x100r1 x100r1n x100r1c, .int .i64 x100r2, .int .i64 x100r3]) ∧ Calls prog n_block_Get #[.string (⟨#[0, 0, 0]⟩ : ByteArray),
  .int .i64 (0 : Int), .int .u64 (1 : Int), .int .i64 (1 : Int)] w24 (fun e_10 w25 => ∃ x106r0 : Int, ∃ x106r1 : Option Addr, ∃ x106r1n : Nat, ∃ x106r1c : Nat, ∃
  x106r2 : Int, ∃ x106r3 : Int, e_10 = .returned (.tuple #[.int .i64 x106r0, .slice x106r1 x106r1n x106r1c, .int .i64 x106r2, .int .i64 x106r3]) ∧ Calls prog
  n_l1_Err #[.int .i64 x50r1] w25 (fun e_11 w26 => ∃ x112 : Int, e_11 = .returned (.int .i64 x112) ∧ bif x112 == (1 : Int) then (Calls prog n_l1_Err #[.int .i64
  x55r1] w26 (fun e_12 w27 => ∃ x116 : Int, e_12 = .returned (.int .i64 x116) ∧ bif x116 == (1 : Int) then (Calls prog n_l1_Err #[.int .i64 x60r1] w27 (fun e_13
  w28 => ∃ x121 : Int, e_13 = .returned (.int .i64 x121) ∧ bif x121 == (1 : Int) then (Calls prog n_l1_Err #[.int .i64 x64r1] w28 (fun e_14 w29 => ∃ x126 : Int,
  e_14 = .returned (.int .i64 x126) ∧ bif x126 == (1 : Int) then (∃ x130a : Int, ∃ x130b : Int, ∃ x130c : Int, ∃ x130d : Int, ∃ x130e : Int, LdL w29 (A0 b16) 0
  [.int .i64 x130a, .int .i64 x130b, .int .i64 x130c, .int .i64 x130d, .int .u64 x130e] ∧ Calls prog n_block_May #[.agg #[.int .i64 x130a, .int .i64 x130b, .int
  .i64 x130c, .int .i64 x130d, .int .u64 x130e]] w29 (fun e_15 w30 => ∃ x131 : Bool, e_15 = .returned (.bool x131) ∧ bif !x131 then (Calls prog n_l1_Err #[.int
  .i64 x84r1] w30 (fun e_16 w31 => ∃ x136 : Int, e_16 = .returned (.int .i64 x136) ∧ bif x136 == (1 : Int) then (Calls prog n_l1_Err #[.int .i64 x88r3] w31 (fun
  e_17 w32 => ∃ x141 : Int, e_17 = .returned (.int .i64 x141) ∧ bif x141 == (2 : Int) then (Calls prog n_l1_Err #[.int .i64 x94r3] w32 (fun e_18 w33 => ∃ x146 :
  Int, e_18 = .returned (.int .i64 x146) ∧ bif x146 == (1 : Int) then (Calls prog n_l1_Err #[.int .i64 x100r3] w33 (fun e_19 w34 => ∃ x151 : Int, e_19 =
  .returned (.int .i64 x151) ∧ bif x151 == (3 : Int) then (Calls prog n_l1_Err #[.int .i64 x106r3] w34 (fun e_20 w35 => ∃ x156 : Int, e_20 = .returned (.int .i64
  x156) ∧ bif x156 == (3 : Int) then (Calls prog n_l21_awake #[] w35 (fun e_21 w36 => ∃ x160 : Bool, e_21 = .returned (.bool x160) ∧ R (.bool x160) w36)) else (R
  (.bool false) w35))) else (R (.bool false) w34))) else (R (.bool false) w33))) else (R (.bool false) w32))) else (R (.bool false) w31))) else (R (.bool false)
  w30))) else (R (.bool false) w29))) else (R (.bool false) w28))) else (R (.bool false) w27))) else (R (.bool false) w26)))))))))))) → J5 x6 w8) → bif decide
  (x1 ≥ (0 : Int)) then (bif decide (x1 < (4 : Int)) then (J5 (W64 ((-1 : Int) - x1)) w7) else (J5 x1 w7)) else (J5 x1 w7))
def A_l21_BlockRefuses : Ann := { loop := fun k => none, join := fun k => cond (Nat.beq k 5) (some (35046933135424, [6], [.int .i64])) (none), nf := fun k => [] }
theorem E_l21_BlockRefuses (x0 : Int) (x1 : Int) (w : World) (R : Value → World → Prop) : F_l21_BlockRefuses x0 x1 w R = vcF prog TAB fok A_l21_BlockRefuses f7.ntmps (f7.body.getD .skip) f7.results.toList [.int .u8 x0, .int .i64 x1] w R := by kernel_rfl
theorem S_l21_BlockRefuses {x0 : Int} {x1 : Int} {w : World} {R : Ending → World → Prop} (h : F_l21_BlockRefuses x0 x1 w fun v w' => R (.returned v) w') : Calls prog n_l21_BlockRefuses #[.int .u8 x0, .int .i64 x1] w R :=
  (calls_of_vc tab func7 (c := f7.body.getD .skip) (by kernel_rfl) (Eq.mp (E_l21_BlockRefuses x0 x1 w _) h)).mono fun _ _ ⟨_, he, hr⟩ => he ▸ hr

end Go.Proofs.Tryz
