import Derived.Test.YtoeokgpdmagjoaaGreatN
/-
What functions of the program come to (printed by a program; each checked by the kernel).
-/
namespace Go.Proofs.Tryz
open Go Go.Proofs.VC
set_option linter.unusedVariables false
set_option maxRecDepth 100000
/-- l1_Err -/
def F_l1_Err (x0 : Int) (w : World) (R : Value → World → Prop) : Prop :=
  R (.int .i64 x0) w
theorem E_l1_Err (x0 : Int) (w : World) (R : Value → World → Prop) : F_l1_Err x0 w R = vcF prog TAB fok noAnn f22.ntmps (f22.body.getD .skip) f22.results.toList [.int .i64 x0] w R := by kernel_rfl
theorem S_l1_Err {x0 : Int} {w : World} {R : Ending → World → Prop} (h : F_l1_Err x0 w fun v w' => R (.returned v) w') : Calls prog n_l1_Err #[.int .i64 x0] w R :=
  (calls_of_vc tab func22 (c := f22.body.getD .skip) (by kernel_rfl) (Eq.mp (E_l1_Err x0 w _) h)).mono fun _ _ ⟨_, he, hr⟩ => he ▸ hr

/-- block_Load -/
def F_block_Load (x0 : Int) (x1a : Int) (x1b : Int) (x1c : Int) (x1d : Int) (x1e : Int) (x2 : Option Addr) (x2n : Nat) (x2c : Nat) (w : World) (R : Value → World
  → Prop) : Prop :=
  ∀ w1 b4, w1 = w.alloc (.cells #[.int .i64 x1a, .int .i64 x1b, .int .i64 x1c, .int .i64 x1d, .int .u64 x1e] t_api_Options) → b4 = w.heap.size → ∀ J3 : World →
  Prop, (∀ w2, (∀ w3 b8, w3 = w2.alloc (.cells #[.nilFunc, .nilFunc, .nilFunc, .nilFunc] t_A4_func_block_loader_string_api_Errno) → b8 = w2.heap.size → Sto w3
  (A0 b8) (.func (.func n_block_loader_plain) #[] #[]) fun w4 => Sto w4 ((A0 b8).add 1) (.func (.func n_block_loader_codes) #[] #[]) fun w5 => Sto w5 ((A0
  b8).add 2) (.func (.func n_block_loader_states) #[] #[]) fun w6 => Sto w6 ((A0 b8).add 3) (.func (.func n_block_loader_chances) #[] #[]) fun w7 => ∀ w8, w8 =
  w7.drew → 0 ≤ x0 ∧ x0 < ((4 : Nat) : Int) ∧ ∃ x26 : Nat, ∃ x26f : Array Value, ∃ x26k : Array Value, w8.cell? ((A0 b8).add (Int.toNat x0 * 1)) = some (.func
  (.func x26) x26f x26k) ∧ ∃ x27a : Int, ∃ x27b : Int, ∃ x27c : Int, ∃ x27d : Int, ∃ x27e : Int, LdL w8 (A0 b4) 0 [.int .i64 x27a, .int .i64 x27b, .int .i64
  x27c, .int .i64 x27d, .int .u64 x27e] ∧ cond (fok x26) (Calls prog x26 (x26f.toList ++ ([.agg #[.int .i64 x27a, .int .i64 x27b, .int .i64 x27c, .int .i64 x27d,
  .int .u64 x27e, .slice x2 x2n x2c]] : List Value) ++ x26k.toList).toArray w8 (fun e w9 => ∃ x30r0 : ByteArray, ∃ x30r1 : Int, e = .returned (.tuple #[.string
  x30r0, .int .i64 x30r1]) ∧ ((w8.cell? ((A0 b4).add 0) = some (.int .i64 x27a) → w9.cell? ((A0 b4).add 0) = some (.int .i64 x27a)) ∧ (w8.cell? ((A0 b4).add 1) =
  some (.int .i64 x27b) → w9.cell? ((A0 b4).add 1) = some (.int .i64 x27b)) ∧ (w8.cell? ((A0 b4).add 2) = some (.int .i64 x27c) → w9.cell? ((A0 b4).add 2) = some
  (.int .i64 x27c)) ∧ (w8.cell? ((A0 b4).add 3) = some (.int .i64 x27d) → w9.cell? ((A0 b4).add 3) = some (.int .i64 x27d)) ∧ (w8.cell? ((A0 b4).add 4) = some
  (.int .u64 x27e) → w9.cell? ((A0 b4).add 4) = some (.int .u64 x27e)) ∧ True) ∧ R (.tuple #[.string x30r0, .int .i64 x30r1]) w9)) False) → J3  w2) → ∃ x9a :
  Int, ∃ x9b : Int, ∃ x9c : Int, ∃ x9d : Int, ∃ x9e : Int, LdL w1 (A0 b4) 0 [.int .i64 x9a, .int .i64 x9b, .int .i64 x9c, .int .i64 x9d, .int .u64 x9e] ∧ Calls
  prog n_block_May #[.agg #[.int .i64 x9a, .int .i64 x9b, .int .i64 x9c, .int .i64 x9d, .int .u64 x9e]] w1 (fun e_2 w10 => ∃ x10 : Bool, e_2 = .returned (.bool
  x10) ∧ bif !x10 then (R (.tuple #[.string (⟨#[]⟩ : ByteArray), .int .i64 (1 : Int)]) w10) else (Calls prog n_block_isWay #[.int .i64 x0] w10 (fun e_3 w11 => ∃
  x14 : Bool, e_3 = .returned (.bool x14) ∧ bif !x14 then (R (.tuple #[.string (⟨#[]⟩ : ByteArray), .int .i64 (1 : Int)]) w11) else (Calls prog n_block_in #[.int
  .i64 ((x2n : Nat) : Int), .int .i64 (1 : Int), .int .i64 (4096 : Int)] w11 (fun e_4 w12 => ∃ x20 : Bool, e_4 = .returned (.bool x20) ∧ bif !x20 then (R (.tuple
  #[.string (⟨#[]⟩ : ByteArray), .int .i64 (1 : Int)]) w12) else (J3  w12))))))
def A_block_Load : Ann := { loop := fun k => none, join := fun k => cond (Nat.beq k 3) (some (8388288, [], [])) (none), nf := fun k => [] }
theorem E_block_Load (x0 : Int) (x1a : Int) (x1b : Int) (x1c : Int) (x1d : Int) (x1e : Int) (x2 : Option Addr) (x2n : Nat) (x2c : Nat) (w : World) (R : Value → World → Prop) : F_block_Load x0 x1a x1b x1c x1d x1e x2 x2n x2c w R = vcF prog TAB fok A_block_Load f12.ntmps (f12.body.getD .skip) f12.results.toList [.int .i64 x0, .agg #[.int .i64 x1a, .int .i64 x1b, .int .i64 x1c, .int .i64 x1d, .int .u64 x1e], .slice x2 x2n x2c] w R := by kernel_rfl
theorem S_block_Load {x0 : Int} {x1a : Int} {x1b : Int} {x1c : Int} {x1d : Int} {x1e : Int} {x2 : Option Addr} {x2n : Nat} {x2c : Nat} {w : World} {R : Ending → World → Prop} (h : F_block_Load x0 x1a x1b x1c x1d x1e x2 x2n x2c w fun v w' => R (.returned v) w') : Calls prog n_block_Load #[.int .i64 x0, .agg #[.int .i64 x1a, .int .i64 x1b, .int .i64 x1c, .int .i64 x1d, .int .u64 x1e], .slice x2 x2n x2c] w R :=
  (calls_of_vc tab func12 (c := f12.body.getD .skip) (by kernel_rfl) (Eq.mp (E_block_Load x0 x1a x1b x1c x1d x1e x2 x2n x2c w _) h)).mono fun _ _ ⟨_, he, hr⟩ => he ▸ hr

/-- block_Unload -/
def F_block_Unload (x0 : Int) (x1 : ByteArray) (x2 : Int) (w : World) (R : Value → World → Prop) : Prop :=
  ∀ J3 : World → Prop, (∀ w1, (∀ w2 b8, w2 = w1.alloc (.cells #[.nilFunc, .nilFunc, .nilFunc, .nilFunc] t_A4_func_block_unloader_S_int64_bool) → b8 = w1.heap.size
  → Sto w2 (A0 b8) (.func (.func n_block_unloader_plain) #[] #[]) fun w3 => Sto w3 ((A0 b8).add 1) (.func (.func n_block_unloader_codes) #[] #[]) fun w4 => Sto
  w4 ((A0 b8).add 2) (.func (.func n_block_unloader_states) #[] #[]) fun w5 => Sto w5 ((A0 b8).add 3) (.func (.func n_block_unloader_chances) #[] #[]) fun w6 =>
  0 ≤ x0 ∧ x0 < ((4 : Nat) : Int) ∧ ∃ x23 : Nat, ∃ x23f : Array Value, ∃ x23k : Array Value, w6.cell? ((A0 b8).add (Int.toNat x0 * 1)) = some (.func (.func x23)
  x23f x23k) ∧ cond (fok x23) (Calls prog x23 (x23f.toList ++ ([.agg #[.string x1, .int .i64 x2]] : List Value) ++ x23k.toList).toArray w6 (fun e w7 => ∃ x27r0 :
  Option Addr, ∃ x27r0n : Nat, ∃ x27r0c : Nat, ∃ x27r1 : Bool, e = .returned (.tuple #[.slice x27r0 x27r0n x27r0c, .bool x27r1]) ∧ bif !x27r1 then (R (.tuple
  #[.slice none 0 0, .int .i64 (3 : Int)]) w7) else (R (.tuple #[.slice x27r0 x27r0n x27r0c, .int .i64 (0 : Int)]) w7))) False) → J3  w1) → Calls prog
  n_block_isWay #[.int .i64 x0] w (fun e_2 w8 => ∃ x12 : Bool, e_2 = .returned (.bool x12) ∧ bif !x12 then (R (.tuple #[.slice none 0 0, .int .i64 (1 : Int)])
  w8) else (Calls prog n_block_in #[.int .i64 x2, .int .i64 (1 : Int), .int .i64 (4096 : Int)] w8 (fun e_3 w9 => ∃ x16 : Bool, e_3 = .returned (.bool x16) ∧ bif
  !x16 then (R (.tuple #[.slice none 0 0, .int .i64 (1 : Int)]) w9) else (J3  w9))))
def A_block_Unload : Ann := { loop := fun k => none, join := fun k => cond (Nat.beq k 3) (some (522432, [], [])) (none), nf := fun k => [] }
theorem E_block_Unload (x0 : Int) (x1 : ByteArray) (x2 : Int) (w : World) (R : Value → World → Prop) : F_block_Unload x0 x1 x2 w R = vcF prog TAB fok A_block_Unload f14.ntmps (f14.body.getD .skip) f14.results.toList [.int .i64 x0, .string x1, .int .i64 x2] w R := by kernel_rfl
theorem S_block_Unload {x0 : Int} {x1 : ByteArray} {x2 : Int} {w : World} {R : Ending → World → Prop} (h : F_block_Unload x0 x1 x2 w fun v w' => R (.returned v) w') : Calls prog n_block_Unload #[.int .i64 x0, .string x1, .int .i64 x2] w R :=
  (calls_of_vc tab func14 (c := f14.body.getD .skip) (by kernel_rfl) (Eq.mp (E_block_Unload x0 x1 x2 w _) h)).mono fun _ _ ⟨_, he, hr⟩ => he ▸ hr

/-- block_Put -/
def F_block_Put (x0 : Int) (x1a : Int) (x1b : Int) (x1c : Int) (x1d : Int) (x1e : Int) (x2 : Option Addr) (x2n : Nat) (x2c : Nat) (w : World) (R : Value → World
  → Prop) : Prop :=
  ∀ w1 b4, w1 = w.alloc (.cells #[.int .i64 x1a, .int .i64 x1b, .int .i64 x1c, .int .i64 x1d, .int .u64 x1e] t_api_Options) → b4 = w.heap.size → ∃ x13a : Int, ∃
  x13b : Int, ∃ x13c : Int, ∃ x13d : Int, ∃ x13e : Int, LdL w1 (A0 b4) 0 [.int .i64 x13a, .int .i64 x13b, .int .i64 x13c, .int .i64 x13d, .int .u64 x13e] ∧ Calls
  prog n_block_Load #[.int .i64 x0, .agg #[.int .i64 x13a, .int .i64 x13b, .int .i64 x13c, .int .i64 x13d, .int .u64 x13e], .slice x2 x2n x2c] w1 (fun e w2 => ∃
  x15r0 : ByteArray, ∃ x15r1 : Int, e = .returned (.tuple #[.string x15r0, .int .i64 x15r1]) ∧ bif x15r1 != (0 : Int) then (R (.tuple #[.string (⟨#[]⟩ :
  ByteArray), .int .i64 x15r1]) w2) else (∀ J5 : ByteArray → World → Prop, (∀ x10 : ByteArray, ∀ w3, (∀ w4, w4 = w3.drew → x10.size + x15r0.size ≤ strMax ∧ ∃ x39
  : Int, w4.cell? ((A0 b4).add 4) = some (.int .u64 x39) ∧ Calls prog n_plain_Put #[.slice x2 x2n x2c] w4 (fun e_2 w5 => ∃ x41 : ByteArray, e_2 = .returned
  (.string x41) ∧ ((w4.cell? ((A0 b4).add 4) = some (.int .u64 x39) → w5.cell? ((A0 b4).add 4) = some (.int .u64 x39)) ∧ True) ∧ Calls prog n_xxh_Sum #[.int .u64
  x39, .string x41] w5 (fun e_3 w6 => ∃ x42 : Int, e_3 = .returned (.int .u64 x42) ∧ (True) ∧ Calls prog n_vint_Word #[.int .u64 x42] w6 (fun e_4 w7 => ∃ x43 :
  ByteArray, e_4 = .returned (.string x43) ∧ ((w6.cell? ((A0 b4).add 4) = some (.int .u64 x39) → w7.cell? ((A0 b4).add 4) = some (.int .u64 x39)) ∧ True) ∧ (x10
  ++ x15r0).size + x43.size ≤ strMax ∧ R (.tuple #[.string ((x10 ++ x15r0) ++ x43), .int .i64 (0 : Int)]) w7)))) → J5 x10 w3) → ∀ w8, w8 = w2.drew → (∀ w9 b23,
  w9 = w8.alloc (.cells #[.int .u8 (U8 x0)] t_uint8) → b23 = w8.heap.size → (True) ∧ (∃ x24 : ByteArray, (Conv.bytesToString (.slice (some (A0 b23)) 1 1)).run
  prog w9 = .ok (.string x24) w9 ∧ (True) ∧ Calls prog n_vint_Put #[.int .u64 (U64 ((x2n : Nat) : Int))] w9 (fun e_5 w10 => ∃ x28 : ByteArray, e_5 = .returned
  (.string x28) ∧ (True) ∧ x24.size + x28.size ≤ strMax ∧ Calls prog n_vint_Put #[.int .u64 (U64 ((x15r0.size : Nat) : Int))] w10 (fun e_6 w11 => ∃ x33 :
  ByteArray, e_6 = .returned (.string x33) ∧ (True) ∧ (x24 ++ x28).size + x33.size ≤ strMax ∧ J5 ((x24 ++ x28) ++ x33) w11))) ∧ (Calls prog n_vint_Put #[.int
  .u64 (U64 ((x2n : Nat) : Int))] w9 (fun e_7 w12 => ∃ x28_2 : ByteArray, e_7 = .returned (.string x28_2) ∧ (True) ∧ (∃ x24_2 : ByteArray, (Conv.bytesToString
  (.slice (some (A0 b23)) 1 1)).run prog w12 = .ok (.string x24_2) w12 ∧ (True) ∧ x24_2.size + x28_2.size ≤ strMax ∧ Calls prog n_vint_Put #[.int .u64 (U64
  ((x15r0.size : Nat) : Int))] w12 (fun e_8 w13 => ∃ x33_2 : ByteArray, e_8 = .returned (.string x33_2) ∧ (True) ∧ (x24_2 ++ x28_2).size + x33_2.size ≤ strMax ∧
  J5 ((x24_2 ++ x28_2) ++ x33_2) w13)) ∧ (Calls prog n_vint_Put #[.int .u64 (U64 ((x15r0.size : Nat) : Int))] w12 (fun e_9 w14 => ∃ x33_3 : ByteArray, e_9 =
  .returned (.string x33_3) ∧ (True) ∧ ∃ x24_3 : ByteArray, (Conv.bytesToString (.slice (some (A0 b23)) 1 1)).run prog w14 = .ok (.string x24_3) w14 ∧ (True) ∧
  x24_3.size + x28_2.size ≤ strMax ∧ (x24_3 ++ x28_2).size + x33_3.size ≤ strMax ∧ J5 ((x24_3 ++ x28_2) ++ x33_3) w14))))) ∧ (Calls prog n_vint_Put #[.int .u64
  (U64 ((x2n : Nat) : Int))] w8 (fun e_10 w15 => ∃ x28_3 : ByteArray, e_10 = .returned (.string x28_3) ∧ (True) ∧ (∀ w16 b23_2, w16 = w15.alloc (.cells #[.int
  .u8 (U8 x0)] t_uint8) → b23_2 = w15.heap.size → (True) ∧ (∃ x24_4 : ByteArray, (Conv.bytesToString (.slice (some (A0 b23_2)) 1 1)).run prog w16 = .ok (.string
  x24_4) w16 ∧ (True) ∧ x24_4.size + x28_3.size ≤ strMax ∧ Calls prog n_vint_Put #[.int .u64 (U64 ((x15r0.size : Nat) : Int))] w16 (fun e_11 w17 => ∃ x33_4 :
  ByteArray, e_11 = .returned (.string x33_4) ∧ (True) ∧ (x24_4 ++ x28_3).size + x33_4.size ≤ strMax ∧ J5 ((x24_4 ++ x28_3) ++ x33_4) w17)) ∧ (Calls prog
  n_vint_Put #[.int .u64 (U64 ((x15r0.size : Nat) : Int))] w16 (fun e_12 w18 => ∃ x33_5 : ByteArray, e_12 = .returned (.string x33_5) ∧ (True) ∧ ∃ x24_5 :
  ByteArray, (Conv.bytesToString (.slice (some (A0 b23_2)) 1 1)).run prog w18 = .ok (.string x24_5) w18 ∧ (True) ∧ x24_5.size + x28_3.size ≤ strMax ∧ (x24_5 ++
  x28_3).size + x33_5.size ≤ strMax ∧ J5 ((x24_5 ++ x28_3) ++ x33_5) w18))) ∧ (Calls prog n_vint_Put #[.int .u64 (U64 ((x15r0.size : Nat) : Int))] w15 (fun e_13
  w19 => ∃ x33_6 : ByteArray, e_13 = .returned (.string x33_6) ∧ (True) ∧ ∀ w20 b23_3, w20 = w19.alloc (.cells #[.int .u8 (U8 x0)] t_uint8) → b23_3 =
  w19.heap.size → (True) ∧ ∃ x24_6 : ByteArray, (Conv.bytesToString (.slice (some (A0 b23_3)) 1 1)).run prog w20 = .ok (.string x24_6) w20 ∧ (True) ∧ x24_6.size
  + x28_3.size ≤ strMax ∧ (x24_6 ++ x28_3).size + x33_6.size ≤ strMax ∧ J5 ((x24_6 ++ x28_3) ++ x33_6) w20))))))
def A_block_Put : Ann := { loop := fun k => none, join := fun k => cond (Nat.beq k 5) (some (34357642240, [10], [.str])) (none), nf := fun k => [] }
theorem E_block_Put (x0 : Int) (x1a : Int) (x1b : Int) (x1c : Int) (x1d : Int) (x1e : Int) (x2 : Option Addr) (x2n : Nat) (x2c : Nat) (w : World) (R : Value → World → Prop) : F_block_Put x0 x1a x1b x1c x1d x1e x2 x2n x2c w R = vcF prog TAB fok A_block_Put f16.ntmps (f16.body.getD .skip) f16.results.toList [.int .i64 x0, .agg #[.int .i64 x1a, .int .i64 x1b, .int .i64 x1c, .int .i64 x1d, .int .u64 x1e], .slice x2 x2n x2c] w R := by kernel_rfl
theorem S_block_Put {x0 : Int} {x1a : Int} {x1b : Int} {x1c : Int} {x1d : Int} {x1e : Int} {x2 : Option Addr} {x2n : Nat} {x2c : Nat} {w : World} {R : Ending → World → Prop} (h : F_block_Put x0 x1a x1b x1c x1d x1e x2 x2n x2c w fun v w' => R (.returned v) w') : Calls prog n_block_Put #[.int .i64 x0, .agg #[.int .i64 x1a, .int .i64 x1b, .int .i64 x1c, .int .i64 x1d, .int .u64 x1e], .slice x2 x2n x2c] w R :=
  (calls_of_vc tab func16 (c := f16.body.getD .skip) (by kernel_rfl) (Eq.mp (E_block_Put x0 x1a x1b x1c x1d x1e x2 x2n x2c w _) h)).mono fun _ _ ⟨_, he, hr⟩ => he ▸ hr

/-- block_Get -/
def F_block_Get (x0 : ByteArray) (x1 : Int) (x2 : Int) (x3 : Int) (w : World) (R : Value → World → Prop) : Prop :=
  Calls prog n_block_head #[.string x0, .int .i64 x1, .int .i64 x3] w (fun e w1 => ∃ x19r0 : Int, ∃ x19r1 : Int, ∃ x19r2 : Int, ∃ x19r3 : Int, ∃ x19r4 : Int, e =
  .returned (.tuple #[.int .i64 x19r0, .int .i64 x19r1, .int .i64 x19r2, .int .i64 x19r3, .int .i64 x19r4]) ∧ bif x19r4 != (0 : Int) then (R (.tuple #[.int .i64
  (0 : Int), .slice none 0 0, .int .i64 (0 : Int), .int .i64 x19r4]) w1) else (0 ≤ (W64 (x19r3 + x19r2)) ∧ (W64 (x19r3 + x19r2)) ≤ ((x0.size : Nat) : Int) ∧ 0 ≤
  x19r3 ∧ x19r3 ≤ ((Int.toNat (W64 (x19r3 + x19r2)) : Nat) : Int) ∧ Calls prog n_block_Unload #[.int .i64 x19r0, .string (x0.extract (Int.toNat x19r3) (Int.toNat
  (W64 (x19r3 + x19r2)))), .int .i64 x19r1] w1 (fun e_2 w2 => ∃ x37r0 : Option Addr, ∃ x37r0n : Nat, ∃ x37r0c : Nat, ∃ x37r1 : Int, e_2 = .returned (.tuple
  #[.slice x37r0 x37r0n x37r0c, .int .i64 x37r1]) ∧ bif x37r1 != (0 : Int) then (R (.tuple #[.int .i64 (0 : Int), .slice none 0 0, .int .i64 (0 : Int), .int .i64
  (3 : Int)]) w2) else (Calls prog n_vint_GetWord #[.string x0, .int .i64 (W64 (x19r3 + x19r2))] w2 (fun e_3 w3 => ∃ x48r0 : Int, ∃ x48r1 : Int, ∃ x48r2 : Int,
  e_3 = .returned (.tuple #[.int .u64 x48r0, .int .i64 x48r1, .int .i64 x48r2]) ∧ bif x48r2 != (0 : Int) then (R (.tuple #[.int .i64 (0 : Int), .slice none 0 0,
  .int .i64 (0 : Int), .int .i64 x48r2]) w3) else (Calls prog n_plain_Put #[.slice x37r0 x37r0n x37r0c] w3 (fun e_4 w4 => ∃ x60 : ByteArray, e_4 = .returned
  (.string x60) ∧ Calls prog n_xxh_Sum #[.int .u64 x2, .string x60] w4 (fun e_5 w5 => ∃ x61 : Int, e_5 = .returned (.int .u64 x61) ∧ bif x48r0 != x61 then (R
  (.tuple #[.int .i64 (0 : Int), .slice none 0 0, .int .i64 (0 : Int), .int .i64 (4 : Int)]) w5) else (R (.tuple #[.int .i64 x19r0, .slice x37r0 x37r0n x37r0c,
  .int .i64 x48r1, .int .i64 (0 : Int)]) w5)))))))))
theorem E_block_Get (x0 : ByteArray) (x1 : Int) (x2 : Int) (x3 : Int) (w : World) (R : Value → World → Prop) : F_block_Get x0 x1 x2 x3 w R = vcF prog TAB fok noAnn f18.ntmps (f18.body.getD .skip) f18.results.toList [.string x0, .int .i64 x1, .int .u64 x2, .int .i64 x3] w R := by kernel_rfl
theorem S_block_Get {x0 : ByteArray} {x1 : Int} {x2 : Int} {x3 : Int} {w : World} {R : Ending → World → Prop} (h : F_block_Get x0 x1 x2 x3 w fun v w' => R (.returned v) w') : Calls prog n_block_Get #[.string x0, .int .i64 x1, .int .u64 x2, .int .i64 x3] w R :=
  (calls_of_vc tab func18 (c := f18.body.getD .skip) (by kernel_rfl) (Eq.mp (E_block_Get x0 x1 x2 x3 w _) h)).mono fun _ _ ⟨_, he, hr⟩ => he ▸ hr

/-- block_May -/
def F_block_May (x0a : Int) (x0b : Int) (x0c : Int) (x0d : Int) (x0e : Int) (w : World) (R : Value → World → Prop) : Prop :=
  ∀ w1 b1, w1 = w.alloc (.cells #[.int .i64 x0a, .int .i64 x0b, .int .i64 x0c, .int .i64 x0d, .int .u64 x0e] t_api_Options) → b1 = w.heap.size → ∃ x4 : Int,
  w1.cell? (A0 b1) = some (.int .i64 x4) ∧ Calls prog n_block_in #[.int .i64 x4, .int .i64 (1 : Int), .int .i64 (4096 : Int)] w1 (fun e w2 => ∃ x5 : Bool, e =
  .returned (.bool x5) ∧ bif x5 then (∃ x8 : Int, w2.cell? ((A0 b1).add 1) = some (.int .i64 x8) ∧ Calls prog n_block_in #[.int .i64 x8, .int .i64 (7 : Int),
  .int .i64 (15 : Int)] w2 (fun e_2 w3 => ∃ x9 : Bool, e_2 = .returned (.bool x9) ∧ bif x9 then (∃ x13 : Int, w3.cell? ((A0 b1).add 2) = some (.int .i64 x13) ∧
  Calls prog n_block_in #[.int .i64 x13, .int .i64 (7 : Int), .int .i64 (12 : Int)] w3 (fun e_3 w4 => ∃ x14 : Bool, e_3 = .returned (.bool x14) ∧ bif x14 then (∃
  x18 : Int, w4.cell? ((A0 b1).add 3) = some (.int .i64 x18) ∧ Calls prog n_block_in #[.int .i64 x18, .int .i64 (0 : Int), .int .i64 (4 : Int)] w4 (fun e_4 w5 =>
  ∃ x19 : Bool, e_4 = .returned (.bool x19) ∧ R (.bool x19) w5)) else (R (.bool false) w4))) else (R (.bool false) w3))) else (R (.bool false) w2))
theorem E_block_May (x0a : Int) (x0b : Int) (x0c : Int) (x0d : Int) (x0e : Int) (w : World) (R : Value → World → Prop) : F_block_May x0a x0b x0c x0d x0e w R = vcF prog TAB fok noAnn f20.ntmps (f20.body.getD .skip) f20.results.toList [.agg #[.int .i64 x0a, .int .i64 x0b, .int .i64 x0c, .int .i64 x0d, .int .u64 x0e]] w R := by kernel_rfl
theorem S_block_May {x0a : Int} {x0b : Int} {x0c : Int} {x0d : Int} {x0e : Int} {w : World} {R : Ending → World → Prop} (h : F_block_May x0a x0b x0c x0d x0e w fun v w' => R (.returned v) w') : Calls prog n_block_May #[.agg #[.int .i64 x0a, .int .i64 x0b, .int .i64 x0c, .int .i64 x0d, .int .u64 x0e]] w R :=
  (calls_of_vc tab func20 (c := f20.body.getD .skip) (by kernel_rfl) (Eq.mp (E_block_May x0a x0b x0c x0d x0e w _) h)).mono fun _ _ ⟨_, he, hr⟩ => he ▸ hr

/-- block_isWay -/
def F_block_isWay (x0 : Int) (w : World) (R : Value → World → Prop) : Prop :=
  Calls prog n_block_in #[.int .i64 x0, .int .i64 (0 : Int), .int .i64 (3 : Int)] w (fun e w1 => ∃ x4 : Bool, e = .returned (.bool x4) ∧ R (.bool x4) w1)
theorem E_block_isWay (x0 : Int) (w : World) (R : Value → World → Prop) : F_block_isWay x0 w R = vcF prog TAB fok noAnn f30.ntmps (f30.body.getD .skip) f30.results.toList [.int .i64 x0] w R := by kernel_rfl
theorem S_block_isWay {x0 : Int} {w : World} {R : Ending → World → Prop} (h : F_block_isWay x0 w fun v w' => R (.returned v) w') : Calls prog n_block_isWay #[.int .i64 x0] w R :=
  (calls_of_vc tab func30 (c := f30.body.getD .skip) (by kernel_rfl) (Eq.mp (E_block_isWay x0 w _) h)).mono fun _ _ ⟨_, he, hr⟩ => he ▸ hr

/-- block_in -/
def F_block_in (x0 : Int) (x1 : Int) (x2 : Int) (w : World) (R : Value → World → Prop) : Prop :=
  bif decide (x0 ≥ x1) then (R (.bool (decide (x0 ≤ x2))) w) else (R (.bool false) w)
theorem E_block_in (x0 : Int) (x1 : Int) (x2 : Int) (w : World) (R : Value → World → Prop) : F_block_in x0 x1 x2 w R = vcF prog TAB fok noAnn f31.ntmps (f31.body.getD .skip) f31.results.toList [.int .i64 x0, .int .i64 x1, .int .i64 x2] w R := by kernel_rfl
theorem S_block_in {x0 : Int} {x1 : Int} {x2 : Int} {w : World} {R : Ending → World → Prop} (h : F_block_in x0 x1 x2 w fun v w' => R (.returned v) w') : Calls prog n_block_in #[.int .i64 x0, .int .i64 x1, .int .i64 x2] w R :=
  (calls_of_vc tab func31 (c := f31.body.getD .skip) (by kernel_rfl) (Eq.mp (E_block_in x0 x1 x2 w _) h)).mono fun _ _ ⟨_, he, hr⟩ => he ▸ hr

/-- block_loader_plain -/
def F_block_loader_plain (x0a : Int) (x0b : Int) (x0c : Int) (x0d : Int) (x0e : Int) (x0f : Option Addr) (x0fn : Nat) (x0fc : Nat) (w : World) (R : Value → World
  → Prop) : Prop :=
  ∀ w1 b1, w1 = w.alloc (.cells #[.int .i64 x0a, .int .i64 x0b, .int .i64 x0c, .int .i64 x0d, .int .u64 x0e, .slice x0f x0fn x0fc] t_block_loader) → b1 =
  w.heap.size → ∃ x5 : Option Addr, ∃ x5n : Nat, ∃ x5c : Nat, w1.cell? ((A0 b1).add 5) = some (.slice x5 x5n x5c) ∧ Calls prog n_plain_Put #[.slice x5 x5n x5c]
  w1 (fun e w2 => ∃ x6 : ByteArray, e = .returned (.string x6) ∧ R (.tuple #[.string x6, .int .i64 (0 : Int)]) w2)
theorem E_block_loader_plain (x0a : Int) (x0b : Int) (x0c : Int) (x0d : Int) (x0e : Int) (x0f : Option Addr) (x0fn : Nat) (x0fc : Nat) (w : World) (R : Value → World → Prop) : F_block_loader_plain x0a x0b x0c x0d x0e x0f x0fn x0fc w R = vcF prog TAB fok noAnn f32.ntmps (f32.body.getD .skip) f32.results.toList [.agg #[.int .i64 x0a, .int .i64 x0b, .int .i64 x0c, .int .i64 x0d, .int .u64 x0e, .slice x0f x0fn x0fc]] w R := by kernel_rfl
theorem S_block_loader_plain {x0a : Int} {x0b : Int} {x0c : Int} {x0d : Int} {x0e : Int} {x0f : Option Addr} {x0fn : Nat} {x0fc : Nat} {w : World} {R : Ending → World → Prop} (h : F_block_loader_plain x0a x0b x0c x0d x0e x0f x0fn x0fc w fun v w' => R (.returned v) w') : Calls prog n_block_loader_plain #[.agg #[.int .i64 x0a, .int .i64 x0b, .int .i64 x0c, .int .i64 x0d, .int .u64 x0e, .slice x0f x0fn x0fc]] w R :=
  (calls_of_vc tab func32 (c := f32.body.getD .skip) (by kernel_rfl) (Eq.mp (E_block_loader_plain x0a x0b x0c x0d x0e x0f x0fn x0fc w _) h)).mono fun _ _ ⟨_, he, hr⟩ => he ▸ hr

/-- block_loader_codes -/
def F_block_loader_codes (x0a : Int) (x0b : Int) (x0c : Int) (x0d : Int) (x0e : Int) (x0f : Option Addr) (x0fn : Nat) (x0fc : Nat) (w : World) (R : Value → World
  → Prop) : Prop :=
  ∀ w1 b1, w1 = w.alloc (.cells #[.int .i64 x0a, .int .i64 x0b, .int .i64 x0c, .int .i64 x0d, .int .u64 x0e, .slice x0f x0fn x0fc] t_block_loader) → b1 =
  w.heap.size → ∃ x9 : Option Addr, ∃ x9n : Nat, ∃ x9c : Nat, w1.cell? ((A0 b1).add 5) = some (.slice x9 x9n x9c) ∧ Calls prog n_hist_Parts #[.slice x9 x9n x9c]
  w1 (fun e w2 => ∃ x10 : Option Addr, ∃ x10n : Nat, ∃ x10c : Nat, e = .returned (.slice x10 x10n x10c) ∧ ∀ w3, w3 = w2.drew → ∃ x16 : Int, w3.cell? ((A0 b1).add
  1) = some (.int .i64 x16) ∧ Calls prog n_hist_Of #[.slice x10 x10n x10c] w3 (fun e_2 w4 => ∃ x13 : Option Addr, ∃ x13n : Nat, ∃ x13c : Nat, e_2 = .returned
  (.slice x13 x13n x13c) ∧ ((w3.cell? ((A0 b1).add 1) = some (.int .i64 x16) → w4.cell? ((A0 b1).add 1) = some (.int .i64 x16)) ∧ True) ∧ Calls prog
  n_merge_Lengths #[.slice x13 x13n x13c, .int .i64 x16] w4 (fun e_3 w5 => ∃ x17r0 : Option Addr, ∃ x17r0n : Nat, ∃ x17r0c : Nat, ∃ x17r1 : Int, e_3 = .returned
  (.tuple #[.slice x17r0 x17r0n x17r0c, .int .i64 x17r1]) ∧ (True) ∧ bif x17r1 != (0 : Int) then (R (.tuple #[.string (⟨#[]⟩ : ByteArray), .int .i64 x17r1]) w5)
  else (Calls prog n_huff_Put #[.slice x10 x10n x10c, .slice x17r0 x17r0n x17r0c] w5 (fun e_4 w6 => ∃ x26r0 : ByteArray, ∃ x26r1 : Int, e_4 = .returned (.tuple
  #[.string x26r0, .int .i64 x26r1]) ∧ Calls prog n_lens_Put #[.slice x17r0 x17r0n x17r0c] w6 (fun e_5 w7 => ∃ x30 : ByteArray, e_5 = .returned (.string x30) ∧
  x30.size + x26r0.size ≤ strMax ∧ R (.tuple #[.string (x30 ++ x26r0), .int .i64 x26r1]) w7))))))
theorem E_block_loader_codes (x0a : Int) (x0b : Int) (x0c : Int) (x0d : Int) (x0e : Int) (x0f : Option Addr) (x0fn : Nat) (x0fc : Nat) (w : World) (R : Value → World → Prop) : F_block_loader_codes x0a x0b x0c x0d x0e x0f x0fn x0fc w R = vcF prog TAB fok noAnn f33.ntmps (f33.body.getD .skip) f33.results.toList [.agg #[.int .i64 x0a, .int .i64 x0b, .int .i64 x0c, .int .i64 x0d, .int .u64 x0e, .slice x0f x0fn x0fc]] w R := by kernel_rfl
theorem S_block_loader_codes {x0a : Int} {x0b : Int} {x0c : Int} {x0d : Int} {x0e : Int} {x0f : Option Addr} {x0fn : Nat} {x0fc : Nat} {w : World} {R : Ending → World → Prop} (h : F_block_loader_codes x0a x0b x0c x0d x0e x0f x0fn x0fc w fun v w' => R (.returned v) w') : Calls prog n_block_loader_codes #[.agg #[.int .i64 x0a, .int .i64 x0b, .int .i64 x0c, .int .i64 x0d, .int .u64 x0e, .slice x0f x0fn x0fc]] w R :=
  (calls_of_vc tab func33 (c := f33.body.getD .skip) (by kernel_rfl) (Eq.mp (E_block_loader_codes x0a x0b x0c x0d x0e x0f x0fn x0fc w _) h)).mono fun _ _ ⟨_, he, hr⟩ => he ▸ hr

/-- block_loader_states -/
def F_block_loader_states (x0a : Int) (x0b : Int) (x0c : Int) (x0d : Int) (x0e : Int) (x0f : Option Addr) (x0fn : Nat) (x0fc : Nat) (w : World) (R : Value →
  World → Prop) : Prop :=
  ∀ w1 b1, w1 = w.alloc (.cells #[.int .i64 x0a, .int .i64 x0b, .int .i64 x0c, .int .i64 x0d, .int .u64 x0e, .slice x0f x0fn x0fc] t_block_loader) → b1 =
  w.heap.size → ∃ x9 : Option Addr, ∃ x9n : Nat, ∃ x9c : Nat, w1.cell? ((A0 b1).add 5) = some (.slice x9 x9n x9c) ∧ Calls prog n_hist_Parts #[.slice x9 x9n x9c]
  w1 (fun e w2 => ∃ x10 : Option Addr, ∃ x10n : Nat, ∃ x10c : Nat, e = .returned (.slice x10 x10n x10c) ∧ ∀ w3, w3 = w2.drew → ∃ x16 : Int, w3.cell? ((A0 b1).add
  2) = some (.int .i64 x16) ∧ Calls prog n_hist_Of #[.slice x10 x10n x10c] w3 (fun e_2 w4 => ∃ x13 : Option Addr, ∃ x13n : Nat, ∃ x13c : Nat, e_2 = .returned
  (.slice x13 x13n x13c) ∧ ((w3.cell? ((A0 b1).add 2) = some (.int .i64 x16) → w4.cell? ((A0 b1).add 2) = some (.int .i64 x16)) ∧ True) ∧ Calls prog n_norm_Of
  #[.slice x13 x13n x13c, .int .i64 x16] w4 (fun e_3 w5 => ∃ x17r0 : Option Addr, ∃ x17r0n : Nat, ∃ x17r0c : Nat, ∃ x17r1 : Int, e_3 = .returned (.tuple #[.slice
  x17r0 x17r0n x17r0c, .int .i64 x17r1]) ∧ (True) ∧ bif x17r1 != (0 : Int) then (R (.tuple #[.string (⟨#[]⟩ : ByteArray), .int .i64 x17r1]) w5) else (∃ x28 :
  Int, w5.cell? ((A0 b1).add 2) = some (.int .i64 x28) ∧ Calls prog n_states_Put #[.slice x10 x10n x10c, .slice x17r0 x17r0n x17r0c, .int .i64 x28] w5 (fun e_4
  w6 => ∃ x29r0 : ByteArray, ∃ x29r1 : Int, e_4 = .returned (.tuple #[.string x29r0, .int .i64 x29r1]) ∧ ∀ w7, w7 = w6.drew → ∃ x34 : Int, w7.cell? ((A0 b1).add
  2) = some (.int .i64 x34) ∧ (∀ w8 b36, w8 = w7.alloc (.cells #[.int .u8 (U8 x34)] t_uint8) → b36 = w7.heap.size → ((w7.cell? ((A0 b1).add 2) = some (.int .i64
  x34) → w8.cell? ((A0 b1).add 2) = some (.int .i64 x34)) ∧ True) ∧ (∃ x37 : ByteArray, (Conv.bytesToString (.slice (some (A0 b36)) 1 1)).run prog w8 = .ok
  (.string x37) w8 ∧ ((w8.cell? ((A0 b1).add 2) = some (.int .i64 x34) → w8.cell? ((A0 b1).add 2) = some (.int .i64 x34)) ∧ True) ∧ Calls prog n_norm_Put
  #[.slice x17r0 x17r0n x17r0c] w8 (fun e_5 w9 => ∃ x39 : ByteArray, e_5 = .returned (.string x39) ∧ ((w8.cell? ((A0 b1).add 2) = some (.int .i64 x34) → w9.cell?
  ((A0 b1).add 2) = some (.int .i64 x34)) ∧ True) ∧ x37.size + x39.size ≤ strMax ∧ (x37 ++ x39).size + x29r0.size ≤ strMax ∧ R (.tuple #[.string ((x37 ++ x39) ++
  x29r0), .int .i64 x29r1]) w9)) ∧ (Calls prog n_norm_Put #[.slice x17r0 x17r0n x17r0c] w8 (fun e_6 w10 => ∃ x39_2 : ByteArray, e_6 = .returned (.string x39_2) ∧
  ((w8.cell? ((A0 b1).add 2) = some (.int .i64 x34) → w10.cell? ((A0 b1).add 2) = some (.int .i64 x34)) ∧ True) ∧ ∃ x37_2 : ByteArray, (Conv.bytesToString
  (.slice (some (A0 b36)) 1 1)).run prog w10 = .ok (.string x37_2) w10 ∧ ((w10.cell? ((A0 b1).add 2) = some (.int .i64 x34) → w10.cell? ((A0 b1).add 2) = some
  (.int .i64 x34)) ∧ True) ∧ x37_2.size + x39_2.size ≤ strMax ∧ (x37_2 ++ x39_2).size + x29r0.size ≤ strMax ∧ R (.tuple #[.string ((x37_2 ++ x39_2) ++ x29r0),
  .int .i64 x29r1]) w10))) ∧ (Calls prog n_norm_Put #[.slice x17r0 x17r0n x17r0c] w7 (fun e_7 w11 => ∃ x39_3 : ByteArray, e_7 = .returned (.string x39_3) ∧
  ((w7.cell? ((A0 b1).add 2) = some (.int .i64 x34) → w11.cell? ((A0 b1).add 2) = some (.int .i64 x34)) ∧ True) ∧ ∀ w12 b36_2, w12 = w11.alloc (.cells #[.int .u8
  (U8 x34)] t_uint8) → b36_2 = w11.heap.size → ((w11.cell? ((A0 b1).add 2) = some (.int .i64 x34) → w12.cell? ((A0 b1).add 2) = some (.int .i64 x34)) ∧ True) ∧ ∃
  x37_3 : ByteArray, (Conv.bytesToString (.slice (some (A0 b36_2)) 1 1)).run prog w12 = .ok (.string x37_3) w12 ∧ ((w12.cell? ((A0 b1).add 2) = some (.int .i64
  x34) → w12.cell? ((A0 b1).add 2) = some (.int .i64 x34)) ∧ True) ∧ x37_3.size + x39_3.size ≤ strMax ∧ (x37_3 ++ x39_3).size + x29r0.size ≤ strMax ∧ R (.tuple
  #[.string ((x37_3 ++ x39_3) ++ x29r0), .int .i64 x29r1]) w12)))))))
theorem E_block_loader_states (x0a : Int) (x0b : Int) (x0c : Int) (x0d : Int) (x0e : Int) (x0f : Option Addr) (x0fn : Nat) (x0fc : Nat) (w : World) (R : Value → World → Prop) : F_block_loader_states x0a x0b x0c x0d x0e x0f x0fn x0fc w R = vcF prog TAB fok noAnn f34.ntmps (f34.body.getD .skip) f34.results.toList [.agg #[.int .i64 x0a, .int .i64 x0b, .int .i64 x0c, .int .i64 x0d, .int .u64 x0e, .slice x0f x0fn x0fc]] w R := by kernel_rfl
theorem S_block_loader_states {x0a : Int} {x0b : Int} {x0c : Int} {x0d : Int} {x0e : Int} {x0f : Option Addr} {x0fn : Nat} {x0fc : Nat} {w : World} {R : Ending → World → Prop} (h : F_block_loader_states x0a x0b x0c x0d x0e x0f x0fn x0fc w fun v w' => R (.returned v) w') : Calls prog n_block_loader_states #[.agg #[.int .i64 x0a, .int .i64 x0b, .int .i64 x0c, .int .i64 x0d, .int .u64 x0e, .slice x0f x0fn x0fc]] w R :=
  (calls_of_vc tab func34 (c := f34.body.getD .skip) (by kernel_rfl) (Eq.mp (E_block_loader_states x0a x0b x0c x0d x0e x0f x0fn x0fc w _) h)).mono fun _ _ ⟨_, he, hr⟩ => he ▸ hr

/-- block_loader_chances -/
def F_block_loader_chances (x0a : Int) (x0b : Int) (x0c : Int) (x0d : Int) (x0e : Int) (x0f : Option Addr) (x0fn : Nat) (x0fc : Nat) (w : World) (R : Value →
  World → Prop) : Prop :=
  ∀ w1 b1, w1 = w.alloc (.cells #[.int .i64 x0a, .int .i64 x0b, .int .i64 x0c, .int .i64 x0d, .int .u64 x0e, .slice x0f x0fn x0fc] t_block_loader) → b1 =
  w.heap.size → ∃ x5 : Option Addr, ∃ x5n : Nat, ∃ x5c : Nat, w1.cell? ((A0 b1).add 5) = some (.slice x5 x5n x5c) ∧ Calls prog n_hist_Parts #[.slice x5 x5n x5c]
  w1 (fun e w2 => ∃ x6 : Option Addr, ∃ x6n : Nat, ∃ x6c : Nat, e = .returned (.slice x6 x6n x6c) ∧ Calls prog n_model_Put #[.slice x6 x6n x6c] w2 (fun e_2 w3 =>
  ∃ x7r0 : ByteArray, ∃ x7r1 : Int, e_2 = .returned (.tuple #[.string x7r0, .int .i64 x7r1]) ∧ R (.tuple #[.string x7r0, .int .i64 x7r1]) w3))
theorem E_block_loader_chances (x0a : Int) (x0b : Int) (x0c : Int) (x0d : Int) (x0e : Int) (x0f : Option Addr) (x0fn : Nat) (x0fc : Nat) (w : World) (R : Value → World → Prop) : F_block_loader_chances x0a x0b x0c x0d x0e x0f x0fn x0fc w R = vcF prog TAB fok noAnn f35.ntmps (f35.body.getD .skip) f35.results.toList [.agg #[.int .i64 x0a, .int .i64 x0b, .int .i64 x0c, .int .i64 x0d, .int .u64 x0e, .slice x0f x0fn x0fc]] w R := by kernel_rfl
theorem S_block_loader_chances {x0a : Int} {x0b : Int} {x0c : Int} {x0d : Int} {x0e : Int} {x0f : Option Addr} {x0fn : Nat} {x0fc : Nat} {w : World} {R : Ending → World → Prop} (h : F_block_loader_chances x0a x0b x0c x0d x0e x0f x0fn x0fc w fun v w' => R (.returned v) w') : Calls prog n_block_loader_chances #[.agg #[.int .i64 x0a, .int .i64 x0b, .int .i64 x0c, .int .i64 x0d, .int .u64 x0e, .slice x0f x0fn x0fc]] w R :=
  (calls_of_vc tab func35 (c := f35.body.getD .skip) (by kernel_rfl) (Eq.mp (E_block_loader_chances x0a x0b x0c x0d x0e x0f x0fn x0fc w _) h)).mono fun _ _ ⟨_, he, hr⟩ => he ▸ hr

/-- block_unloader_plain -/
def F_block_unloader_plain (x0a : ByteArray) (x0b : Int) (w : World) (R : Value → World → Prop) : Prop :=
  ∀ w1 b1, w1 = w.alloc (.cells #[.string x0a, .int .i64 x0b] t_block_unloader) → b1 = w.heap.size → ∃ x8 : ByteArray, w1.cell? (A0 b1) = some (.string x8) ∧ Calls
  prog n_plain_Get #[.string x8] w1 (fun e w2 => ∃ x9r0 : Option Addr, ∃ x9r0n : Nat, ∃ x9r0c : Nat, ∃ x9r1 : Bool, e = .returned (.tuple #[.slice x9r0 x9r0n
  x9r0c, .bool x9r1]) ∧ ∀ w3, w3 = w2.drew → bif x9r1 then (∃ x18 : Int, w3.cell? ((A0 b1).add 1) = some (.int .i64 x18) ∧ R (.tuple #[.slice x9r0 x9r0n x9r0c,
  .bool (((x9r0n : Nat) : Int) == x18)]) w3) else (R (.tuple #[.slice x9r0 x9r0n x9r0c, .bool false]) w3))
theorem E_block_unloader_plain (x0a : ByteArray) (x0b : Int) (w : World) (R : Value → World → Prop) : F_block_unloader_plain x0a x0b w R = vcF prog TAB fok noAnn f45.ntmps (f45.body.getD .skip) f45.results.toList [.agg #[.string x0a, .int .i64 x0b]] w R := by kernel_rfl
theorem S_block_unloader_plain {x0a : ByteArray} {x0b : Int} {w : World} {R : Ending → World → Prop} (h : F_block_unloader_plain x0a x0b w fun v w' => R (.returned v) w') : Calls prog n_block_unloader_plain #[.agg #[.string x0a, .int .i64 x0b]] w R :=
  (calls_of_vc tab func45 (c := f45.body.getD .skip) (by kernel_rfl) (Eq.mp (E_block_unloader_plain x0a x0b w _) h)).mono fun _ _ ⟨_, he, hr⟩ => he ▸ hr

/-- block_unloader_codes -/
def F_block_unloader_codes (x0a : ByteArray) (x0b : Int) (w : World) (R : Value → World → Prop) : Prop :=
  ∀ w1 b1, w1 = w.alloc (.cells #[.string x0a, .int .i64 x0b] t_block_unloader) → b1 = w.heap.size → ∃ x10 : ByteArray, w1.cell? (A0 b1) = some (.string x10) ∧
  Calls prog n_lens_Get #[.string x10, .int .i64 (0 : Int)] w1 (fun e w2 => ∃ x11r0 : Option Addr, ∃ x11r0n : Nat, ∃ x11r0c : Nat, ∃ x11r1 : Int, ∃ x11r2 : Int,
  e = .returned (.tuple #[.slice x11r0 x11r0n x11r0c, .int .i64 x11r1, .int .i64 x11r2]) ∧ bif x11r2 != (0 : Int) then (R (.tuple #[.slice none 0 0, .bool
  false]) w2) else (∀ w3, w3 = w2.drew → ∃ x19 : ByteArray, w3.cell? (A0 b1) = some (.string x19) ∧ 0 ≤ x11r1 ∧ x11r1 ≤ ((x19.size : Nat) : Int) ∧ ∃ x23 : Int,
  w3.cell? ((A0 b1).add 1) = some (.int .i64 x23) ∧ Calls prog n_huff_Get #[.string (x19.extract (Int.toNat x11r1) x19.size), .int .i64 x23, .slice x11r0 x11r0n
  x11r0c] w3 (fun e_2 w4 => ∃ x25r0 : Option Addr, ∃ x25r0n : Nat, ∃ x25r0c : Nat, ∃ x25r1 : Int, e_2 = .returned (.tuple #[.slice x25r0 x25r0n x25r0c, .int .i64
  x25r1]) ∧ ((w3.cell? (A0 b1) = some (.string x19) → w4.cell? (A0 b1) = some (.string x19)) ∧ True) ∧ bif x25r1 != (0 : Int) then (R (.tuple #[.slice none 0 0,
  .bool false]) w4) else (Calls prog n_hist_Values #[.slice x25r0 x25r0n x25r0c] w4 (fun e_3 w5 => ∃ x31r0 : Option Addr, ∃ x31r0n : Nat, ∃ x31r0c : Nat, ∃ x31r1
  : Bool, e_3 = .returned (.tuple #[.slice x31r0 x31r0n x31r0c, .bool x31r1]) ∧ R (.tuple #[.slice x31r0 x31r0n x31r0c, .bool x31r1]) w5)))))
theorem E_block_unloader_codes (x0a : ByteArray) (x0b : Int) (w : World) (R : Value → World → Prop) : F_block_unloader_codes x0a x0b w R = vcF prog TAB fok noAnn f46.ntmps (f46.body.getD .skip) f46.results.toList [.agg #[.string x0a, .int .i64 x0b]] w R := by kernel_rfl
theorem S_block_unloader_codes {x0a : ByteArray} {x0b : Int} {w : World} {R : Ending → World → Prop} (h : F_block_unloader_codes x0a x0b w fun v w' => R (.returned v) w') : Calls prog n_block_unloader_codes #[.agg #[.string x0a, .int .i64 x0b]] w R :=
  (calls_of_vc tab func46 (c := f46.body.getD .skip) (by kernel_rfl) (Eq.mp (E_block_unloader_codes x0a x0b w _) h)).mono fun _ _ ⟨_, he, hr⟩ => he ▸ hr

/-- block_unloader_states -/
def F_block_unloader_states (x0a : ByteArray) (x0b : Int) (w : World) (R : Value → World → Prop) : Prop :=
  ∀ w1 b1, w1 = w.alloc (.cells #[.string x0a, .int .i64 x0b] t_block_unloader) → b1 = w.heap.size → ∃ x10 : ByteArray, w1.cell? (A0 b1) = some (.string x10) ∧ bif
  x10.toList == (⟨#[]⟩ : ByteArray).toList then (R (.tuple #[.slice none 0 0, .bool false]) w1) else (∃ x13 : ByteArray, w1.cell? (A0 b1) = some (.string x13) ∧
  0 ≤ (0 : Int) ∧ ∃ c14 : UInt8, x13[Int.toNat (0 : Int)]? = some c14 ∧ ∃ x18 : ByteArray, w1.cell? (A0 b1) = some (.string x18) ∧ Calls prog n_norm_Get
  #[.string x18, .int .i64 (1 : Int), .int .i64 (W64 ((c14.toNat : Nat) : Int))] w1 (fun e w2 => ∃ x20r0 : Option Addr, ∃ x20r0n : Nat, ∃ x20r0c : Nat, ∃ x20r1 :
  Int, ∃ x20r2 : Int, e = .returned (.tuple #[.slice x20r0 x20r0n x20r0c, .int .i64 x20r1, .int .i64 x20r2]) ∧ bif x20r2 != (0 : Int) then (R (.tuple #[.slice
  none 0 0, .bool false]) w2) else (∀ w3, w3 = w2.drew → ∃ x28 : ByteArray, w3.cell? (A0 b1) = some (.string x28) ∧ 0 ≤ x20r1 ∧ x20r1 ≤ ((x28.size : Nat) : Int)
  ∧ ∃ x32 : Int, w3.cell? ((A0 b1).add 1) = some (.int .i64 x32) ∧ Calls prog n_states_Get #[.string (x28.extract (Int.toNat x20r1) x28.size), .int .i64 x32,
  .slice x20r0 x20r0n x20r0c, .int .i64 (W64 ((c14.toNat : Nat) : Int))] w3 (fun e_2 w4 => ∃ x35r0 : Option Addr, ∃ x35r0n : Nat, ∃ x35r0c : Nat, ∃ x35r1 : Int,
  e_2 = .returned (.tuple #[.slice x35r0 x35r0n x35r0c, .int .i64 x35r1]) ∧ ((w3.cell? (A0 b1) = some (.string x28) → w4.cell? (A0 b1) = some (.string x28)) ∧
  True) ∧ bif x35r1 != (0 : Int) then (R (.tuple #[.slice none 0 0, .bool false]) w4) else (Calls prog n_hist_Values #[.slice x35r0 x35r0n x35r0c] w4 (fun e_3 w5
  => ∃ x41r0 : Option Addr, ∃ x41r0n : Nat, ∃ x41r0c : Nat, ∃ x41r1 : Bool, e_3 = .returned (.tuple #[.slice x41r0 x41r0n x41r0c, .bool x41r1]) ∧ R (.tuple
  #[.slice x41r0 x41r0n x41r0c, .bool x41r1]) w5))))))
theorem E_block_unloader_states (x0a : ByteArray) (x0b : Int) (w : World) (R : Value → World → Prop) : F_block_unloader_states x0a x0b w R = vcF prog TAB fok noAnn f47.ntmps (f47.body.getD .skip) f47.results.toList [.agg #[.string x0a, .int .i64 x0b]] w R := by kernel_rfl
theorem S_block_unloader_states {x0a : ByteArray} {x0b : Int} {w : World} {R : Ending → World → Prop} (h : F_block_unloader_states x0a x0b w fun v w' => R (.returned v) w') : Calls prog n_block_unloader_states #[.agg #[.string x0a, .int .i64 x0b]] w R :=
  (calls_of_vc tab func47 (c := f47.body.getD .skip) (by kernel_rfl) (Eq.mp (E_block_unloader_states x0a x0b w _) h)).mono fun _ _ ⟨_, he, hr⟩ => he ▸ hr

/-- block_unloader_chances -/
def F_block_unloader_chances (x0a : ByteArray) (x0b : Int) (w : World) (R : Value → World → Prop) : Prop :=
  ∀ w1 b1, w1 = w.alloc (.cells #[.string x0a, .int .i64 x0b] t_block_unloader) → b1 = w.heap.size → ∃ x8 : ByteArray, w1.cell? (A0 b1) = some (.string x8) ∧ ∃ x10
  : Int, w1.cell? ((A0 b1).add 1) = some (.int .i64 x10) ∧ Calls prog n_model_Get #[.string x8, .int .i64 x10] w1 (fun e w2 => ∃ x11r0 : Option Addr, ∃ x11r0n :
  Nat, ∃ x11r0c : Nat, ∃ x11r1 : Int, e = .returned (.tuple #[.slice x11r0 x11r0n x11r0c, .int .i64 x11r1]) ∧ bif x11r1 != (0 : Int) then (R (.tuple #[.slice
  none 0 0, .bool false]) w2) else (Calls prog n_hist_Values #[.slice x11r0 x11r0n x11r0c] w2 (fun e_2 w3 => ∃ x17r0 : Option Addr, ∃ x17r0n : Nat, ∃ x17r0c :
  Nat, ∃ x17r1 : Bool, e_2 = .returned (.tuple #[.slice x17r0 x17r0n x17r0c, .bool x17r1]) ∧ R (.tuple #[.slice x17r0 x17r0n x17r0c, .bool x17r1]) w3)))
theorem E_block_unloader_chances (x0a : ByteArray) (x0b : Int) (w : World) (R : Value → World → Prop) : F_block_unloader_chances x0a x0b w R = vcF prog TAB fok noAnn f48.ntmps (f48.body.getD .skip) f48.results.toList [.agg #[.string x0a, .int .i64 x0b]] w R := by kernel_rfl
theorem S_block_unloader_chances {x0a : ByteArray} {x0b : Int} {w : World} {R : Ending → World → Prop} (h : F_block_unloader_chances x0a x0b w fun v w' => R (.returned v) w') : Calls prog n_block_unloader_chances #[.agg #[.string x0a, .int .i64 x0b]] w R :=
  (calls_of_vc tab func48 (c := f48.body.getD .skip) (by kernel_rfl) (Eq.mp (E_block_unloader_chances x0a x0b w _) h)).mono fun _ _ ⟨_, he, hr⟩ => he ▸ hr

/-- block_head -/
def F_block_head (x0 : ByteArray) (x1 : Int) (x2 : Int) (w : World) (R : Value → World → Prop) : Prop :=
  ∀ J5 : World → Prop, (∀ w1, (0 ≤ x1 ∧ ∃ c29 : UInt8, x0[Int.toNat x1]? = some c29 ∧ Calls prog n_block_isWay #[.int .i64 (W64 ((c29.toNat : Nat) : Int))] w1 (fun
  e w2 => ∃ x32 : Bool, e = .returned (.bool x32) ∧ bif !x32 then (R (.tuple #[.int .i64 (0 : Int), .int .i64 (0 : Int), .int .i64 (0 : Int), .int .i64 (0 :
  Int), .int .i64 (3 : Int)]) w2) else (Calls prog n_vint_Get #[.string x0, .int .i64 (W64 (x1 + (1 : Int)))] w2 (fun e_2 w3 => ∃ x38r0 : Int, ∃ x38r1 : Int, ∃
  x38r2 : Int, e_2 = .returned (.tuple #[.int .u64 x38r0, .int .i64 x38r1, .int .i64 x38r2]) ∧ ∀ J15 : Int → Int → World → Prop, (∀ x6 : Int, ∀ x9 : Int, ∀ w4,
  (Calls prog n_vint_Get #[.string x0, .int .i64 x9] w4 (fun e_3 w5 => ∃ x61r0 : Int, ∃ x61r1 : Int, ∃ x61r2 : Int, e_3 = .returned (.tuple #[.int .u64 x61r0,
  .int .i64 x61r1, .int .i64 x61r2]) ∧ bif x61r2 != (0 : Int) then (R (.tuple #[.int .i64 (0 : Int), .int .i64 (0 : Int), .int .i64 (0 : Int), .int .i64 (0 :
  Int), .int .i64 x61r2]) w5) else (bif decide (x61r0 > (U64 ((U64 ((16 : Int) * x38r0)) + (1000 : Int)))) then (R (.tuple #[.int .i64 (0 : Int), .int .i64 (0 :
  Int), .int .i64 (0 : Int), .int .i64 (0 : Int), .int .i64 (3 : Int)]) w5) else (bif decide ((W64 ((W64 x61r0) + (8 : Int))) > (W64 (((x0.size : Nat) : Int) -
  x61r1))) then (R (.tuple #[.int .i64 (0 : Int), .int .i64 (0 : Int), .int .i64 (0 : Int), .int .i64 (0 : Int), .int .i64 (2 : Int)]) w5) else (R (.tuple #[.int
  .i64 x6, .int .i64 (W64 x38r0), .int .i64 (W64 x61r0), .int .i64 x61r1, .int .i64 (0 : Int)]) w5))))) → J15 x6 x9 w4) → bif x38r2 != (0 : Int) then (R (.tuple
  #[.int .i64 (0 : Int), .int .i64 (0 : Int), .int .i64 (0 : Int), .int .i64 (0 : Int), .int .i64 x38r2]) w3) else (bif decide (x38r0 < (1 : Int)) then (R
  (.tuple #[.int .i64 (0 : Int), .int .i64 (0 : Int), .int .i64 (0 : Int), .int .i64 (0 : Int), .int .i64 (3 : Int)]) w3) else (bif decide (x38r0 > (4096 : Int))
  then (R (.tuple #[.int .i64 (0 : Int), .int .i64 (0 : Int), .int .i64 (0 : Int), .int .i64 (0 : Int), .int .i64 (3 : Int)]) w3) else (bif decide ((W64 x38r0) >
  x2) then (R (.tuple #[.int .i64 (0 : Int), .int .i64 (0 : Int), .int .i64 (0 : Int), .int .i64 (0 : Int), .int .i64 (5 : Int)]) w3) else (J15 (W64 ((c29.toNat
  : Nat) : Int)) x38r1 w3)))))))) → J5  w1) → bif decide (x1 < (0 : Int)) then (R (.tuple #[.int .i64 (0 : Int), .int .i64 (0 : Int), .int .i64 (0 : Int), .int
  .i64 (0 : Int), .int .i64 (1 : Int)]) w) else (bif decide (x1 > ((x0.size : Nat) : Int)) then (R (.tuple #[.int .i64 (0 : Int), .int .i64 (0 : Int), .int .i64
  (0 : Int), .int .i64 (0 : Int), .int .i64 (1 : Int)]) w) else (bif x1 == ((x0.size : Nat) : Int) then (R (.tuple #[.int .i64 (0 : Int), .int .i64 (0 : Int),
  .int .i64 (0 : Int), .int .i64 (0 : Int), .int .i64 (2 : Int)]) w) else (J5  w)))
def A_block_head : Ann := { loop := fun k => none, join := fun k => cond (Nat.beq k 15) (some (288225978105202624, [6, 9], [.int .i64, .int .i64])) (cond (Nat.beq k 5) (some (134211520, [], [])) (none)), nf := fun k => [] }
theorem E_block_head (x0 : ByteArray) (x1 : Int) (x2 : Int) (w : World) (R : Value → World → Prop) : F_block_head x0 x1 x2 w R = vcF prog TAB fok A_block_head f60.ntmps (f60.body.getD .skip) f60.results.toList [.string x0, .int .i64 x1, .int .i64 x2] w R := by kernel_rfl
theorem S_block_head {x0 : ByteArray} {x1 : Int} {x2 : Int} {w : World} {R : Ending → World → Prop} (h : F_block_head x0 x1 x2 w fun v w' => R (.returned v) w') : Calls prog n_block_head #[.string x0, .int .i64 x1, .int .i64 x2] w R :=
  (calls_of_vc tab func60 (c := f60.body.getD .skip) (by kernel_rfl) (Eq.mp (E_block_head x0 x1 x2 w _) h)).mono fun _ _ ⟨_, he, hr⟩ => he ▸ hr

/-- vint_Put -/
def F_vint_Put (x0 : Int) (w : World) (R : Value → World → Prop) : Prop :=
  ∃ I0 : Nat → Int → Option Addr → Nat → Nat → World → Prop, (∃ m_2, I0 m_2 x0 none 0 0 w) ∧ ∀ m, ∀ x0_2 : Int, ∀ x3 : Option Addr, ∀ x3n : Nat, ∀ x3c : Nat, ∀ w1,
  I0 m x0_2 x3 x3n x3c w1 → (bif decide (x0_2 ≥ (128 : Int)) then (∀ w2 b12, w2 = w1.alloc (.cells #[.int .u8 (orI .u8 (U8 x0_2) (128 : Int))] t_uint8) → b12 =
  w1.heap.size → ∃ x13 : Option Addr, ∃ x13n : Nat, ∃ x13c : Nat, ∃ w3 : World, (Builtin.append_ #[t_S_uint8, t_S_uint8] t_S_uint8 #[.slice x3 x3n x3c, .slice
  (some (A0 b12)) 1 1]).run prog w2 = .ok (.slice x13 x13n x13c) w3 ∧ 0 ≤ (7 : Int) ∧ ∃ m_3, m_3 < m ∧ I0 m_3 (shrI .u64 x0_2 (7 : Int)) x13 x13n x13c w3) else
  (∀ w4 b17, w4 = w1.alloc (.cells #[.int .u8 (U8 x0_2)] t_uint8) → b17 = w1.heap.size → ∃ x18 : Option Addr, ∃ x18n : Nat, ∃ x18c : Nat, ∃ w5 : World,
  (Builtin.append_ #[t_S_uint8, t_S_uint8] t_S_uint8 #[.slice x3 x3n x3c, .slice (some (A0 b17)) 1 1]).run prog w4 = .ok (.slice x18 x18n x18c) w5 ∧ ∃ x19 :
  ByteArray, (Conv.bytesToString (.slice x18 x18n x18c)).run prog w5 = .ok (.string x19) w5 ∧ R (.string x19) w5))
def A_vint_Put : Ann := { loop := fun k => cond (Nat.beq k 0) (some (16377, [0, 3], [.int .u64, .sl])) (none), join := fun k => none, nf := fun k => [] }
theorem E_vint_Put (x0 : Int) (w : World) (R : Value → World → Prop) : F_vint_Put x0 w R = vcF prog TAB fok A_vint_Put f56.ntmps (f56.body.getD .skip) f56.results.toList [.int .u64 x0] w R := by kernel_rfl
theorem S_vint_Put {x0 : Int} {w : World} {R : Ending → World → Prop} (h : F_vint_Put x0 w fun v w' => R (.returned v) w') : Calls prog n_vint_Put #[.int .u64 x0] w R :=
  (calls_of_vc tab func56 (c := f56.body.getD .skip) (by kernel_rfl) (Eq.mp (E_vint_Put x0 w _) h)).mono fun _ _ ⟨_, he, hr⟩ => he ▸ hr

/-- vint_Word -/
def F_vint_Word (x0 : Int) (w : World) (R : Value → World → Prop) : Prop :=
  ∀ w1 b3, w1 = w.alloc (.cells #[.int .u8 0, .int .u8 0, .int .u8 0, .int .u8 0, .int .u8 0, .int .u8 0, .int .u8 0, .int .u8 0] t_A8_uint8) → b3 = w.heap.size →
  ∃ I0 : Nat → Int → World → Prop, (∃ m_2, I0 m_2 (0 : Int) w1) ∧ ∀ m, ∀ x5 : Int, ∀ w2, I0 m x5 w2 → (bif decide (x5 < (8 : Int)) then (0 ≤ (W64 ((8 : Int) *
  x5)) ∧ 0 ≤ x5 ∧ x5 < ((8 : Nat) : Int) ∧ Sto w2 ((A0 b3).add (Int.toNat x5 * 1)) (.int .u8 (U8 (shrI .u64 x0 (W64 ((8 : Int) * x5))))) fun w3 => ∃ m_3, m_3 < m
  ∧ I0 m_3 (W64 (x5 + (1 : Int))) w3) else (∃ x17 : ByteArray, (Conv.bytesToString (.slice (sA (some (A0 b3)) 1 0 8) (8 - 0) (8 - 0))).run prog w2 = .ok (.string
  x17) w2 ∧ R (.string x17) w2))
def A_vint_Word : Ann := { loop := fun k => cond (Nat.beq k 0) (some (65520, [5], [.int .i64])) (none), join := fun k => none, nf := fun k => [] }
theorem E_vint_Word (x0 : Int) (w : World) (R : Value → World → Prop) : F_vint_Word x0 w R = vcF prog TAB fok A_vint_Word f57.ntmps (f57.body.getD .skip) f57.results.toList [.int .u64 x0] w R := by kernel_rfl
theorem S_vint_Word {x0 : Int} {w : World} {R : Ending → World → Prop} (h : F_vint_Word x0 w fun v w' => R (.returned v) w') : Calls prog n_vint_Word #[.int .u64 x0] w R :=
  (calls_of_vc tab func57 (c := f57.body.getD .skip) (by kernel_rfl) (Eq.mp (E_vint_Word x0 w _) h)).mono fun _ _ ⟨_, he, hr⟩ => he ▸ hr

/-- vint_GetWord -/
def F_vint_GetWord (x0 : ByteArray) (x1 : Int) (w : World) (R : Value → World → Prop) : Prop :=
  Calls prog n_vint_read #[.string x0, .int .i64 x1, .func (.func n_vint_reader_word) #[] #[]] w (fun e w1 => ∃ x9r0 : Int, ∃ x9r1 : Int, ∃ x9r2 : Int, e =
  .returned (.tuple #[.int .u64 x9r0, .int .i64 x9r1, .int .i64 x9r2]) ∧ R (.tuple #[.int .u64 x9r0, .int .i64 x9r1, .int .i64 x9r2]) w1)
theorem E_vint_GetWord (x0 : ByteArray) (x1 : Int) (w : World) (R : Value → World → Prop) : F_vint_GetWord x0 x1 w R = vcF prog TAB fok noAnn f61.ntmps (f61.body.getD .skip) f61.results.toList [.string x0, .int .i64 x1] w R := by kernel_rfl
theorem S_vint_GetWord {x0 : ByteArray} {x1 : Int} {w : World} {R : Ending → World → Prop} (h : F_vint_GetWord x0 x1 w fun v w' => R (.returned v) w') : Calls prog n_vint_GetWord #[.string x0, .int .i64 x1] w R :=
  (calls_of_vc tab func61 (c := f61.body.getD .skip) (by kernel_rfl) (Eq.mp (E_vint_GetWord x0 x1 w _) h)).mono fun _ _ ⟨_, he, hr⟩ => he ▸ hr

/-- vint_Get -/
def F_vint_Get (x0 : ByteArray) (x1 : Int) (w : World) (R : Value → World → Prop) : Prop :=
  Calls prog n_vint_read #[.string x0, .int .i64 x1, .func (.func n_vint_reader_vint) #[] #[]] w (fun e w1 => ∃ x9r0 : Int, ∃ x9r1 : Int, ∃ x9r2 : Int, e =
  .returned (.tuple #[.int .u64 x9r0, .int .i64 x9r1, .int .i64 x9r2]) ∧ R (.tuple #[.int .u64 x9r0, .int .i64 x9r1, .int .i64 x9r2]) w1)
theorem E_vint_Get (x0 : ByteArray) (x1 : Int) (w : World) (R : Value → World → Prop) : F_vint_Get x0 x1 w R = vcF prog TAB fok noAnn f123.ntmps (f123.body.getD .skip) f123.results.toList [.string x0, .int .i64 x1] w R := by kernel_rfl
theorem S_vint_Get {x0 : ByteArray} {x1 : Int} {w : World} {R : Ending → World → Prop} (h : F_vint_Get x0 x1 w fun v w' => R (.returned v) w') : Calls prog n_vint_Get #[.string x0, .int .i64 x1] w R :=
  (calls_of_vc tab func123 (c := f123.body.getD .skip) (by kernel_rfl) (Eq.mp (E_vint_Get x0 x1 w _) h)).mono fun _ _ ⟨_, he, hr⟩ => he ▸ hr

/-- vint_read -/
def F_vint_read (x0 : ByteArray) (x1 : Int) (x2 : Nat) (x2f : Array Value) (x2k : Array Value) (w : World) (R : Value → World → Prop) : Prop :=
  ∀ J3 : World → Prop, (∀ w1, (0 ≤ x1 ∧ x1 ≤ ((x0.size : Nat) : Int) ∧ cond (fok x2) (Calls prog x2 (x2f.toList ++ ([.agg #[.string (x0.extract (Int.toNat x1)
  x0.size)]] : List Value) ++ x2k.toList).toArray w1 (fun e w2 => ∃ x24r0 : Int, ∃ x24r1 : Int, ∃ x24r2 : Int, e = .returned (.tuple #[.int .u64 x24r0, .int .i64
  x24r1, .int .i64 x24r2]) ∧ bif x24r2 != (0 : Int) then (R (.tuple #[.int .u64 (0 : Int), .int .i64 (0 : Int), .int .i64 x24r2]) w2) else (R (.tuple #[.int .u64
  x24r0, .int .i64 (W64 (x1 + x24r1)), .int .i64 (0 : Int)]) w2))) False) → J3  w1) → bif decide (x1 < (0 : Int)) then (R (.tuple #[.int .u64 (0 : Int), .int
  .i64 (0 : Int), .int .i64 (1 : Int)]) w) else (bif decide (x1 > ((x0.size : Nat) : Int)) then (R (.tuple #[.int .u64 (0 : Int), .int .i64 (0 : Int), .int .i64
  (1 : Int)]) w) else (J3  w))
def A_vint_read : Ann := { loop := fun k => none, join := fun k => cond (Nat.beq k 3) (some (261568, [], [])) (none), nf := fun k => [] }
theorem E_vint_read (x0 : ByteArray) (x1 : Int) (x2 : Nat) (x2f : Array Value) (x2k : Array Value) (w : World) (R : Value → World → Prop) : F_vint_read x0 x1 x2 x2f x2k w R = vcF prog TAB fok A_vint_read f124.ntmps (f124.body.getD .skip) f124.results.toList [.string x0, .int .i64 x1, .func (.func x2) x2f x2k] w R := by kernel_rfl
theorem S_vint_read {x0 : ByteArray} {x1 : Int} {x2 : Nat} {x2f : Array Value} {x2k : Array Value} {w : World} {R : Ending → World → Prop} (h : F_vint_read x0 x1 x2 x2f x2k w fun v w' => R (.returned v) w') : Calls prog n_vint_read #[.string x0, .int .i64 x1, .func (.func x2) x2f x2k] w R :=
  (calls_of_vc tab func124 (c := f124.body.getD .skip) (by kernel_rfl) (Eq.mp (E_vint_read x0 x1 x2 x2f x2k w _) h)).mono fun _ _ ⟨_, he, hr⟩ => he ▸ hr

/-- vint_reader_word -/
def F_vint_reader_word (x0a : ByteArray) (w : World) (R : Value → World → Prop) : Prop :=
  ∀ w1 b1, w1 = w.alloc (.cells #[.string x0a] t_vint_reader) → b1 = w.heap.size → ∃ x7 : ByteArray, w1.cell? (A0 b1) = some (.string x7) ∧ bif decide (((x7.size :
  Nat) : Int) < (8 : Int)) then (R (.tuple #[.int .u64 (0 : Int), .int .i64 (0 : Int), .int .i64 (2 : Int)]) w1) else (∃ I0 : Nat → Int → Int → World → Prop, (∃
  m_2, I0 m_2 (0 : Int) (0 : Int) w1) ∧ ∀ m, ∀ x2 : Int, ∀ x10 : Int, ∀ w2, I0 m x2 x10 w2 → (bif decide (x10 < (8 : Int)) then (∃ x15 : ByteArray, w2.cell? (A0
  b1) = some (.string x15) ∧ 0 ≤ x10 ∧ ∃ c17 : UInt8, x15[Int.toNat x10]? = some c17 ∧ 0 ≤ (W64 ((8 : Int) * x10)) ∧ ∃ m_3, m_3 < m ∧ I0 m_3 (orI .u64 x2 (shlI
  .u64 (U64 ((c17.toNat : Nat) : Int)) (W64 ((8 : Int) * x10)))) (W64 (x10 + (1 : Int))) w2) else (R (.tuple #[.int .u64 x2, .int .i64 (8 : Int), .int .i64 (0 :
  Int)]) w2)))
def A_vint_reader_word : Ann := { loop := fun k => cond (Nat.beq k 0) (some (16776228, [2, 10], [.int .u64, .int .i64])) (none), join := fun k => none, nf := fun k => [] }
theorem E_vint_reader_word (x0a : ByteArray) (w : World) (R : Value → World → Prop) : F_vint_reader_word x0a w R = vcF prog TAB fok A_vint_reader_word f125.ntmps (f125.body.getD .skip) f125.results.toList [.agg #[.string x0a]] w R := by kernel_rfl
theorem S_vint_reader_word {x0a : ByteArray} {w : World} {R : Ending → World → Prop} (h : F_vint_reader_word x0a w fun v w' => R (.returned v) w') : Calls prog n_vint_reader_word #[.agg #[.string x0a]] w R :=
  (calls_of_vc tab func125 (c := f125.body.getD .skip) (by kernel_rfl) (Eq.mp (E_vint_reader_word x0a w _) h)).mono fun _ _ ⟨_, he, hr⟩ => he ▸ hr

/-- vint_reader_vint -/
def F_vint_reader_vint (x0a : ByteArray) (w : World) (R : Value → World → Prop) : Prop :=
  ∀ w1 b1, w1 = w.alloc (.cells #[.string x0a] t_vint_reader) → b1 = w.heap.size → ∃ x8 : ByteArray, w1.cell? (A0 b1) = some (.string x8) ∧ ∃ I0 : Nat → Int → Int
  → World → Prop, (∃ m_2, I0 m_2 (0 : Int) (0 : Int) w1) ∧ ∀ m, ∀ x2 : Int, ∀ x11 : Int, ∀ w2, I0 m x2 x11 w2 → (bif decide (x11 < (if (10 : Int) < ((x8.size :
  Nat) : Int) then (10 : Int) else ((x8.size : Nat) : Int))) then (∃ x15 : ByteArray, w2.cell? (A0 b1) = some (.string x15) ∧ 0 ≤ x11 ∧ ∃ c17 : UInt8,
  x15[Int.toNat x11]? = some c17 ∧ Calls prog n_bits_Len8 #[.int .u8 (andI .u8 ((c17.toNat : Nat) : Int) (127 : Int))] w2 (fun e w3 => ∃ x20 : Int, e = .returned
  (.int .i64 x20) ∧ bif decide (x20 > (W64 ((64 : Int) - (W64 ((7 : Int) * x11))))) then (R (.tuple #[.int .u64 (0 : Int), .int .i64 (0 : Int), .int .i64 (3 :
  Int)]) w3) else (0 ≤ (W64 ((7 : Int) * x11)) ∧ bif decide (((c17.toNat : Nat) : Int) ≥ (128 : Int)) then (∃ m_3, m_3 < m ∧ I0 m_3 (orI .u64 x2 (shlI .u64 (U64
  (andI .u8 ((c17.toNat : Nat) : Int) (127 : Int))) (W64 ((7 : Int) * x11)))) (W64 (x11 + (1 : Int))) w3) else (bif ((c17.toNat : Nat) : Int) == (0 : Int) then
  (bif decide (x11 > (0 : Int)) then (R (.tuple #[.int .u64 (0 : Int), .int .i64 (0 : Int), .int .i64 (3 : Int)]) w3) else (R (.tuple #[.int .u64 (orI .u64 x2
  (shlI .u64 (U64 (andI .u8 ((c17.toNat : Nat) : Int) (127 : Int))) (W64 ((7 : Int) * x11)))), .int .i64 (W64 (x11 + (1 : Int))), .int .i64 (0 : Int)]) w3)) else
  (R (.tuple #[.int .u64 (orI .u64 x2 (shlI .u64 (U64 (andI .u8 ((c17.toNat : Nat) : Int) (127 : Int))) (W64 ((7 : Int) * x11)))), .int .i64 (W64 (x11 + (1 :
  Int))), .int .i64 (0 : Int)]) w3))))) else (∃ x46 : ByteArray, w2.cell? (A0 b1) = some (.string x46) ∧ bif decide (((x46.size : Nat) : Int) ≥ (10 : Int)) then
  (R (.tuple #[.int .u64 (0 : Int), .int .i64 (0 : Int), .int .i64 (3 : Int)]) w2) else (R (.tuple #[.int .u64 (0 : Int), .int .i64 (0 : Int), .int .i64 (2 :
  Int)]) w2)))
def A_vint_reader_vint : Ann := { loop := fun k => cond (Nat.beq k 0) (some (35184372086908, [2, 11], [.int .u64, .int .i64])) (none), join := fun k => none, nf := fun k => [] }
theorem E_vint_reader_vint (x0a : ByteArray) (w : World) (R : Value → World → Prop) : F_vint_reader_vint x0a w R = vcF prog TAB fok A_vint_reader_vint f189.ntmps (f189.body.getD .skip) f189.results.toList [.agg #[.string x0a]] w R := by kernel_rfl
theorem S_vint_reader_vint {x0a : ByteArray} {w : World} {R : Ending → World → Prop} (h : F_vint_reader_vint x0a w fun v w' => R (.returned v) w') : Calls prog n_vint_reader_vint #[.agg #[.string x0a]] w R :=
  (calls_of_vc tab func189 (c := f189.body.getD .skip) (by kernel_rfl) (Eq.mp (E_vint_reader_vint x0a w _) h)).mono fun _ _ ⟨_, he, hr⟩ => he ▸ hr

/-- xxh_Sum -/
def F_xxh_Sum (x0 : Int) (x1 : ByteArray) (w : World) (R : Value → World → Prop) : Prop :=
  bif decide (((x1.size : Nat) : Int) < (32 : Int)) then (Calls prog n_xxh_tail #[.int .u64 (U64 ((U64 (x0 + (2870177450012600261 : Int))) + (U64 ((x1.size : Nat)
  : Int)))), .string x1] w (fun e w1 => ∃ x35 : Int, e = .returned (.int .u64 x35) ∧ Calls prog n_xxh_Mix #[.int .u64 x35] w1 (fun e_2 w2 => ∃ x36 : Int, e_2 =
  .returned (.int .u64 x36) ∧ R (.int .u64 x36) w2))) else (Calls prog n_xxh_begun #[.int .u64 x0] w (fun e_3 w3 => ∃ x19a : Int, ∃ x19b : Int, ∃ x19c : Int, ∃
  x19d : Int, e_3 = .returned (.agg #[.int .u64 x19a, .int .u64 x19b, .int .u64 x19c, .int .u64 x19d]) ∧ ∀ w4 b7, w4 = w3.alloc (.cells #[.int .u64 0, .int .u64
  0, .int .u64 0, .int .u64 0] t_xxh_four) → b7 = w3.heap.size → Sto w4 (A0 b7) (.int .u64 x19a) fun w5 => Sto w5 ((A0 b7).add 1) (.int .u64 x19b) fun w6 => Sto
  w6 ((A0 b7).add 2) (.int .u64 x19c) fun w7 => Sto w7 ((A0 b7).add 3) (.int .u64 x19d) fun w8 => ∃ I0 : Nat → ByteArray → World → Prop, (∃ m_2, I0 m_2 x1 w8) ∧
  ∀ m, ∀ x1_2 : ByteArray, ∀ w9, I0 m x1_2 w9 → (bif decide (((x1_2.size : Nat) : Int) ≥ (32 : Int)) then (∃ x26a : Int, ∃ x26b : Int, ∃ x26c : Int, ∃ x26d :
  Int, LdL w9 (A0 b7) 0 [.int .u64 x26a, .int .u64 x26b, .int .u64 x26c, .int .u64 x26d] ∧ Calls prog n_xxh_four_step #[.agg #[.int .u64 x26a, .int .u64 x26b,
  .int .u64 x26c, .int .u64 x26d], .string x1_2] w9 (fun e_4 w10 => ∃ x28a : Int, ∃ x28b : Int, ∃ x28c : Int, ∃ x28d : Int, e_4 = .returned (.agg #[.int .u64
  x28a, .int .u64 x28b, .int .u64 x28c, .int .u64 x28d]) ∧ Sto w10 (A0 b7) (.int .u64 x28a) fun w11 => Sto w11 ((A0 b7).add 1) (.int .u64 x28b) fun w12 => Sto
  w12 ((A0 b7).add 2) (.int .u64 x28c) fun w13 => Sto w13 ((A0 b7).add 3) (.int .u64 x28d) fun w14 => 0 ≤ (32 : Int) ∧ (32 : Int) ≤ ((x1_2.size : Nat) : Int) ∧ ∃
  m_3, m_3 < m ∧ I0 m_3 (x1_2.extract (Int.toNat (32 : Int)) x1_2.size) w14)) else (∃ x29a : Int, ∃ x29b : Int, ∃ x29c : Int, ∃ x29d : Int, LdL w9 (A0 b7) 0
  [.int .u64 x29a, .int .u64 x29b, .int .u64 x29c, .int .u64 x29d] ∧ Calls prog n_xxh_four_joined #[.agg #[.int .u64 x29a, .int .u64 x29b, .int .u64 x29c, .int
  .u64 x29d]] w9 (fun e_5 w15 => ∃ x30 : Int, e_5 = .returned (.int .u64 x30) ∧ Calls prog n_xxh_tail #[.int .u64 (U64 (x30 + (U64 ((x1.size : Nat) : Int)))),
  .string x1_2] w15 (fun e_6 w16 => ∃ x35_2 : Int, e_6 = .returned (.int .u64 x35_2) ∧ Calls prog n_xxh_Mix #[.int .u64 x35_2] w16 (fun e_7 w17 => ∃ x36_2 : Int,
  e_7 = .returned (.int .u64 x36_2) ∧ R (.int .u64 x36_2) w17)))))))
def A_xxh_Sum : Ann := { loop := fun k => cond (Nat.beq k 0) (some (535822338, [1], [.str])) (none), join := fun k => none, nf := fun k => [] }
theorem E_xxh_Sum (x0 : Int) (x1 : ByteArray) (w : World) (R : Value → World → Prop) : F_xxh_Sum x0 x1 w R = vcF prog TAB fok A_xxh_Sum f58.ntmps (f58.body.getD .skip) f58.results.toList [.int .u64 x0, .string x1] w R := by kernel_rfl
theorem S_xxh_Sum {x0 : Int} {x1 : ByteArray} {w : World} {R : Ending → World → Prop} (h : F_xxh_Sum x0 x1 w fun v w' => R (.returned v) w') : Calls prog n_xxh_Sum #[.int .u64 x0, .string x1] w R :=
  (calls_of_vc tab func58 (c := f58.body.getD .skip) (by kernel_rfl) (Eq.mp (E_xxh_Sum x0 x1 w _) h)).mono fun _ _ ⟨_, he, hr⟩ => he ▸ hr

/-- xxh_begun -/
def F_xxh_begun (x0 : Int) (w : World) (R : Value → World → Prop) : Prop :=
  ∀ w1 b2, w1 = w.alloc (.cells #[.int .u64 0, .int .u64 0, .int .u64 0, .int .u64 0] t_xxh_four) → b2 = w.heap.size → Sto w1 (A0 b2) (.int .u64 (U64 ((U64 (x0 +
  (11400714785074694791 : Int))) + (14029467366897019727 : Int)))) fun w2 => Sto w2 ((A0 b2).add 1) (.int .u64 (U64 (x0 + (14029467366897019727 : Int)))) fun w3
  => Sto w3 ((A0 b2).add 2) (.int .u64 x0) fun w4 => Sto w4 ((A0 b2).add 3) (.int .u64 (U64 (x0 - (11400714785074694791 : Int)))) fun w5 => ∃ r0a : Int, ∃ r0b :
  Int, ∃ r0c : Int, ∃ r0d : Int, LdL w5 (A0 b2) 0 [.int .u64 r0a, .int .u64 r0b, .int .u64 r0c, .int .u64 r0d] ∧ R (.agg #[.int .u64 r0a, .int .u64 r0b, .int
  .u64 r0c, .int .u64 r0d]) w5
theorem E_xxh_begun (x0 : Int) (w : World) (R : Value → World → Prop) : F_xxh_begun x0 w R = vcF prog TAB fok noAnn f116.ntmps (f116.body.getD .skip) f116.results.toList [.int .u64 x0] w R := by kernel_rfl
theorem S_xxh_begun {x0 : Int} {w : World} {R : Ending → World → Prop} (h : F_xxh_begun x0 w fun v w' => R (.returned v) w') : Calls prog n_xxh_begun #[.int .u64 x0] w R :=
  (calls_of_vc tab func116 (c := f116.body.getD .skip) (by kernel_rfl) (Eq.mp (E_xxh_begun x0 w _) h)).mono fun _ _ ⟨_, he, hr⟩ => he ▸ hr

/-- xxh_four_step -/
def F_xxh_four_step (x0a : Int) (x0b : Int) (x0c : Int) (x0d : Int) (x1 : ByteArray) (w : World) (R : Value → World → Prop) : Prop :=
  ∀ w1 b2, w1 = w.alloc (.cells #[.int .u64 x0a, .int .u64 x0b, .int .u64 x0c, .int .u64 x0d] t_xxh_four) → b2 = w.heap.size → ∀ w2 b4, w2 = w1.alloc (.cells
  #[.int .u64 0, .int .u64 0, .int .u64 0, .int .u64 0] t_xxh_four) → b4 = w1.heap.size → ∃ I0 : Nat → Int → World → Prop, (∃ m_2, I0 m_2 (0 : Int) w2) ∧ ∀ m, ∀
  x9 : Int, ∀ w3, I0 m x9 w3 → (bif decide (x9 < (4 : Int)) then (Calls prog n_vint_GetWord #[.string x1, .int .i64 (W64 (x9 * (8 : Int)))] w3 (fun e w4 => ∃
  x16r0 : Int, ∃ x16r1 : Int, ∃ x16r2 : Int, e = .returned (.tuple #[.int .u64 x16r0, .int .i64 x16r1, .int .i64 x16r2]) ∧ 0 ≤ x9 ∧ x9 < ((4 : Nat) : Int) ∧ ∃
  x23 : Int, w4.cell? ((A0 b2).add (Int.toNat x9 * 1)) = some (.int .u64 x23) ∧ Calls prog n_xxh_Round #[.int .u64 x23, .int .u64 x16r0] w4 (fun e_2 w5 => ∃ x25
  : Int, e_2 = .returned (.int .u64 x25) ∧ 0 ≤ x9 ∧ x9 < ((4 : Nat) : Int) ∧ Sto w5 ((A0 b2).add (Int.toNat x9 * 1)) (.int .u64 x25) fun w6 => ∃ m_3, m_3 < m ∧
  I0 m_3 (W64 (x9 + (1 : Int))) w6))) else (∃ x28a : Int, ∃ x28b : Int, ∃ x28c : Int, ∃ x28d : Int, LdL w3 (A0 b2) 0 [.int .u64 x28a, .int .u64 x28b, .int .u64
  x28c, .int .u64 x28d] ∧ Sto w3 (A0 b4) (.int .u64 x28a) fun w7 => Sto w7 ((A0 b4).add 1) (.int .u64 x28b) fun w8 => Sto w8 ((A0 b4).add 2) (.int .u64 x28c) fun
  w9 => Sto w9 ((A0 b4).add 3) (.int .u64 x28d) fun w10 => ∃ r0a : Int, ∃ r0b : Int, ∃ r0c : Int, ∃ r0d : Int, LdL w10 (A0 b4) 0 [.int .u64 r0a, .int .u64 r0b,
  .int .u64 r0c, .int .u64 r0d] ∧ R (.agg #[.int .u64 r0a, .int .u64 r0b, .int .u64 r0c, .int .u64 r0d]) w10))
def A_xxh_four_step : Ann := { loop := fun k => cond (Nat.beq k 0) (some (268435424, [9], [.int .i64])) (none), join := fun k => none, nf := fun k => [] }
theorem E_xxh_four_step (x0a : Int) (x0b : Int) (x0c : Int) (x0d : Int) (x1 : ByteArray) (w : World) (R : Value → World → Prop) : F_xxh_four_step x0a x0b x0c x0d x1 w R = vcF prog TAB fok A_xxh_four_step f117.ntmps (f117.body.getD .skip) f117.results.toList [.agg #[.int .u64 x0a, .int .u64 x0b, .int .u64 x0c, .int .u64 x0d], .string x1] w R := by kernel_rfl
theorem S_xxh_four_step {x0a : Int} {x0b : Int} {x0c : Int} {x0d : Int} {x1 : ByteArray} {w : World} {R : Ending → World → Prop} (h : F_xxh_four_step x0a x0b x0c x0d x1 w fun v w' => R (.returned v) w') : Calls prog n_xxh_four_step #[.agg #[.int .u64 x0a, .int .u64 x0b, .int .u64 x0c, .int .u64 x0d], .string x1] w R :=
  (calls_of_vc tab func117 (c := f117.body.getD .skip) (by kernel_rfl) (Eq.mp (E_xxh_four_step x0a x0b x0c x0d x1 w _) h)).mono fun _ _ ⟨_, he, hr⟩ => he ▸ hr

/-- xxh_four_joined -/
def F_xxh_four_joined (x0a : Int) (x0b : Int) (x0c : Int) (x0d : Int) (w : World) (R : Value → World → Prop) : Prop :=
  ∀ w1 b1, w1 = w.alloc (.cells #[.int .u64 x0a, .int .u64 x0b, .int .u64 x0c, .int .u64 x0d] t_xxh_four) → b1 = w.heap.size → ∃ I0 : Nat → Int → Int → World →
  Prop, (∃ m_2, I0 m_2 (0 : Int) (0 : Int) w1) ∧ ∀ m, ∀ x3 : Int, ∀ x9 : Int, ∀ w2, I0 m x3 x9 w2 → (bif decide (x9 < (4 : Int)) then (0 ≤ x9 ∧ x9 < ((4 : Nat) :
  Int) ∧ ∃ x12 : Int, ([.int .i64 (1 : Int), .int .i64 (7 : Int), .int .i64 (12 : Int), .int .i64 (18 : Int)] : List Value)[Int.toNat x9 * 1]? = some (.int .i64
  x12) ∧ 0 ≤ x9 ∧ x9 < ((4 : Nat) : Int) ∧ ∃ x16 : Int, w2.cell? ((A0 b1).add (Int.toNat x9 * 1)) = some (.int .u64 x16) ∧ Calls prog n_bits_RotateLeft64 #[.int
  .u64 x16, .int .i64 x12] w2 (fun e w3 => ∃ x18 : Int, e = .returned (.int .u64 x18) ∧ ∃ m_3, m_3 < m ∧ I0 m_3 (U64 (x3 + x18)) (W64 (x9 + (1 : Int))) w3)) else
  (∃ x21a : Int, ∃ x21b : Int, ∃ x21c : Int, ∃ x21d : Int, LdL w2 (A0 b1) 0 [.int .u64 x21a, .int .u64 x21b, .int .u64 x21c, .int .u64 x21d] ∧ ∃ I2 : Nat → Int →
  Int → World → Prop, (∃ m_5, I2 m_5 x3 (0 : Int) w2) ∧ ∀ m_4, ∀ x3_2 : Int, ∀ x22 : Int, ∀ w4, I2 m_4 x3_2 x22 w4 → (bif decide (x22 < (4 : Int)) then (0 ≤ x22
  ∧ x22 < ((4 : Nat) : Int) ∧ ∃ x24 : Int, ([.int .u64 x21a, .int .u64 x21b, .int .u64 x21c, .int .u64 x21d] : List Value)[Int.toNat x22 * 1]? = some (.int .u64
  x24) ∧ Calls prog n_xxh_Round #[.int .u64 (0 : Int), .int .u64 x24] w4 (fun e_2 w5 => ∃ x27 : Int, e_2 = .returned (.int .u64 x27) ∧ ∃ m_6, m_6 < m_4 ∧ I2 m_6
  (U64 ((U64 ((xorI .u64 x3_2 x27) * (11400714785074694791 : Int))) + (9650029242287828579 : Int))) (W64 (x22 + (1 : Int))) w5)) else (R (.int .u64 x3_2) w4))))
def A_xxh_four_joined : Ann := { loop := fun k => cond (Nat.beq k 2) (some (4290773128, [3, 22], [.int .u64, .int .i64])) (cond (Nat.beq k 0) (some (2096696, [3, 9], [.int .u64, .int .i64])) (none)), join := fun k => none, nf := fun k => [] }
theorem E_xxh_four_joined (x0a : Int) (x0b : Int) (x0c : Int) (x0d : Int) (w : World) (R : Value → World → Prop) : F_xxh_four_joined x0a x0b x0c x0d w R = vcF prog TAB fok A_xxh_four_joined f118.ntmps (f118.body.getD .skip) f118.results.toList [.agg #[.int .u64 x0a, .int .u64 x0b, .int .u64 x0c, .int .u64 x0d]] w R := by kernel_rfl
theorem S_xxh_four_joined {x0a : Int} {x0b : Int} {x0c : Int} {x0d : Int} {w : World} {R : Ending → World → Prop} (h : F_xxh_four_joined x0a x0b x0c x0d w fun v w' => R (.returned v) w') : Calls prog n_xxh_four_joined #[.agg #[.int .u64 x0a, .int .u64 x0b, .int .u64 x0c, .int .u64 x0d]] w R :=
  (calls_of_vc tab func118 (c := f118.body.getD .skip) (by kernel_rfl) (Eq.mp (E_xxh_four_joined x0a x0b x0c x0d w _) h)).mono fun _ _ ⟨_, he, hr⟩ => he ▸ hr

/-- xxh_Mix -/
def F_xxh_Mix (x0 : Int) (w : World) (R : Value → World → Prop) : Prop :=
  0 ≤ (33 : Int) ∧ 0 ≤ (29 : Int) ∧ 0 ≤ (32 : Int) ∧ R (.int .u64 (xorI .u64 (U64 ((xorI .u64 (U64 ((xorI .u64 x0 (shrI .u64 x0 (33 : Int))) *
  (14029467366897019727 : Int))) (shrI .u64 (U64 ((xorI .u64 x0 (shrI .u64 x0 (33 : Int))) * (14029467366897019727 : Int))) (29 : Int))) * (1609587929392839161 :
  Int))) (shrI .u64 (U64 ((xorI .u64 (U64 ((xorI .u64 x0 (shrI .u64 x0 (33 : Int))) * (14029467366897019727 : Int))) (shrI .u64 (U64 ((xorI .u64 x0 (shrI .u64 x0
  (33 : Int))) * (14029467366897019727 : Int))) (29 : Int))) * (1609587929392839161 : Int))) (32 : Int)))) w
theorem E_xxh_Mix (x0 : Int) (w : World) (R : Value → World → Prop) : F_xxh_Mix x0 w R = vcF prog TAB fok noAnn f119.ntmps (f119.body.getD .skip) f119.results.toList [.int .u64 x0] w R := by kernel_rfl
theorem S_xxh_Mix {x0 : Int} {w : World} {R : Ending → World → Prop} (h : F_xxh_Mix x0 w fun v w' => R (.returned v) w') : Calls prog n_xxh_Mix #[.int .u64 x0] w R :=
  (calls_of_vc tab func119 (c := f119.body.getD .skip) (by kernel_rfl) (Eq.mp (E_xxh_Mix x0 w _) h)).mono fun _ _ ⟨_, he, hr⟩ => he ▸ hr

/-- xxh_tail -/
def F_xxh_tail (x0 : Int) (x1 : ByteArray) (w : World) (R : Value → World → Prop) : Prop :=
  ∃ I0 : Nat → Int → ByteArray → World → Prop, (∃ m_2, I0 m_2 x0 x1 w) ∧ ∀ m, ∀ x0_2 : Int, ∀ x1_2 : ByteArray, ∀ w1, I0 m x0_2 x1_2 w1 → (bif decide (((x1_2.size
  : Nat) : Int) ≥ (8 : Int)) then (Calls prog n_vint_GetWord #[.string x1_2, .int .i64 (0 : Int)] w1 (fun e w2 => ∃ x18r0 : Int, ∃ x18r1 : Int, ∃ x18r2 : Int, e
  = .returned (.tuple #[.int .u64 x18r0, .int .i64 x18r1, .int .i64 x18r2]) ∧ Calls prog n_xxh_Round #[.int .u64 (0 : Int), .int .u64 x18r0] w2 (fun e_2 w3 => ∃
  x24 : Int, e_2 = .returned (.int .u64 x24) ∧ Calls prog n_bits_RotateLeft64 #[.int .u64 (xorI .u64 x0_2 x24), .int .i64 (27 : Int)] w3 (fun e_3 w4 => ∃ x26 :
  Int, e_3 = .returned (.int .u64 x26) ∧ 0 ≤ (8 : Int) ∧ (8 : Int) ≤ ((x1_2.size : Nat) : Int) ∧ ∃ m_3, m_3 < m ∧ I0 m_3 (U64 ((U64 (x26 * (11400714785074694791
  : Int))) + (9650029242287828579 : Int))) (x1_2.extract (Int.toNat (8 : Int)) x1_2.size) w4)))) else (∀ J9 : Int → ByteArray → World → Prop, (∀ x0_3 : Int, ∀
  x1_3 : ByteArray, ∀ w5, (∃ x60 : Option Addr, ∃ x60n : Nat, ∃ x60c : Nat, ∃ w6 : World, (Conv.stringToBytes t_uint8 x1_3).run prog w5 = .ok (.slice x60 x60n
  x60c) w6 ∧ ∃ I2 : Nat → Int → Int → World → Prop, (∃ m_5, I2 m_5 x0_3 (0 : Int) w6) ∧ ∀ m_4, ∀ x0_4 : Int, ∀ x62 : Int, ∀ w7, I2 m_4 x0_4 x62 w7 → (bif decide
  (x62 < ((x60n : Nat) : Int)) then (0 ≤ x62 ∧ x62 < ((x60n : Nat) : Int) ∧ OSome x60 fun p64 => ∃ x65 : Int, w7.cell? (p64.add (Int.toNat x62 * 1)) = some (.int
  .u8 x65) ∧ Calls prog n_bits_RotateLeft64 #[.int .u64 (xorI .u64 x0_4 (U64 ((U64 x65) * (2870177450012600261 : Int)))), .int .i64 (11 : Int)] w7 (fun e_4 w8 =>
  ∃ x71 : Int, e_4 = .returned (.int .u64 x71) ∧ ∃ m_6, m_6 < m_4 ∧ I2 m_6 (U64 (x71 * (11400714785074694791 : Int))) (W64 (x62 + (1 : Int))) w8)) else (R (.int
  .u64 x0_4) w7))) → J9 x0_3 x1_3 w5) → bif decide (((x1_2.size : Nat) : Int) ≥ (4 : Int)) then (∀ w9, w9 = w1.drew → 0 ≤ (0 : Int) ∧ ∃ c33 : UInt8,
  x1_2[Int.toNat (0 : Int)]? = some c33 ∧ 0 ≤ (1 : Int) ∧ ∃ c36 : UInt8, x1_2[Int.toNat (1 : Int)]? = some c36 ∧ 0 ≤ (8 : Int) ∧ 0 ≤ (2 : Int) ∧ ∃ c41 : UInt8,
  x1_2[Int.toNat (2 : Int)]? = some c41 ∧ 0 ≤ (16 : Int) ∧ 0 ≤ (3 : Int) ∧ ∃ c46 : UInt8, x1_2[Int.toNat (3 : Int)]? = some c46 ∧ 0 ≤ (24 : Int) ∧ Calls prog
  n_bits_RotateLeft64 #[.int .u64 (xorI .u64 x0_2 (U64 ((orI .u64 (orI .u64 (orI .u64 (U64 ((c33.toNat : Nat) : Int)) (shlI .u64 (U64 ((c36.toNat : Nat) : Int))
  (8 : Int))) (shlI .u64 (U64 ((c41.toNat : Nat) : Int)) (16 : Int))) (shlI .u64 (U64 ((c46.toNat : Nat) : Int)) (24 : Int))) * (11400714785074694791 : Int)))),
  .int .i64 (23 : Int)] w9 (fun e_5 w10 => ∃ x54 : Int, e_5 = .returned (.int .u64 x54) ∧ 0 ≤ (4 : Int) ∧ (4 : Int) ≤ ((x1_2.size : Nat) : Int) ∧ J9 (U64 ((U64
  (x54 * (14029467366897019727 : Int))) + (1609587929392839161 : Int))) (x1_2.extract (Int.toNat (4 : Int)) x1_2.size) w10)) else (J9 x0_2 x1_2 w1)))
def A_xxh_tail : Ann := { loop := fun k => cond (Nat.beq k 2) (some (18884854245460153467905, [0, 62], [.int .u64, .int .i64])) (cond (Nat.beq k 0) (some (536869091, [0, 1], [.int .u64, .str])) (none)), join := fun k => cond (Nat.beq k 9) (some (576460751766552835, [0, 1], [.int .u64, .str])) (none), nf := fun k => [] }
theorem E_xxh_tail (x0 : Int) (x1 : ByteArray) (w : World) (R : Value → World → Prop) : F_xxh_tail x0 x1 w R = vcF prog TAB fok A_xxh_tail f120.ntmps (f120.body.getD .skip) f120.results.toList [.int .u64 x0, .string x1] w R := by kernel_rfl
theorem S_xxh_tail {x0 : Int} {x1 : ByteArray} {w : World} {R : Ending → World → Prop} (h : F_xxh_tail x0 x1 w fun v w' => R (.returned v) w') : Calls prog n_xxh_tail #[.int .u64 x0, .string x1] w R :=
  (calls_of_vc tab func120 (c := f120.body.getD .skip) (by kernel_rfl) (Eq.mp (E_xxh_tail x0 x1 w _) h)).mono fun _ _ ⟨_, he, hr⟩ => he ▸ hr

/-- xxh_Round -/
def F_xxh_Round (x0 : Int) (x1 : Int) (w : World) (R : Value → World → Prop) : Prop :=
  Calls prog n_bits_RotateLeft64 #[.int .u64 (U64 (x0 + (U64 (x1 * (14029467366897019727 : Int))))), .int .i64 (31 : Int)] w (fun e w1 => ∃ x9 : Int, e = .returned
  (.int .u64 x9) ∧ R (.int .u64 (U64 (x9 * (11400714785074694791 : Int)))) w1)
theorem E_xxh_Round (x0 : Int) (x1 : Int) (w : World) (R : Value → World → Prop) : F_xxh_Round x0 x1 w R = vcF prog TAB fok noAnn f186.ntmps (f186.body.getD .skip) f186.results.toList [.int .u64 x0, .int .u64 x1] w R := by kernel_rfl
theorem S_xxh_Round {x0 : Int} {x1 : Int} {w : World} {R : Ending → World → Prop} (h : F_xxh_Round x0 x1 w fun v w' => R (.returned v) w') : Calls prog n_xxh_Round #[.int .u64 x0, .int .u64 x1] w R :=
  (calls_of_vc tab func186 (c := f186.body.getD .skip) (by kernel_rfl) (Eq.mp (E_xxh_Round x0 x1 w _) h)).mono fun _ _ ⟨_, he, hr⟩ => he ▸ hr

/-- plain_Put -/
def F_plain_Put (x0 : Option Addr) (x0n : Nat) (x0c : Nat) (w : World) (R : Value → World → Prop) : Prop :=
  ∀ w1 b3, w1 = w.alloc (.cells #[.pointer none, .slice none 0 0] t_strings_Builder) → b3 = w.heap.size → ∃ I0 : Nat → Int → World → Prop, (∃ m_2, I0 m_2 (0 : Int)
  w1) ∧ ∀ m, ∀ x10 : Int, ∀ w2, I0 m x10 w2 → (bif decide (x10 < ((x0n : Nat) : Int)) then (0 ≤ x10 ∧ x10 < ((x0n : Nat) : Int) ∧ OSome x0 fun p12 => ∃ x13 :
  Int, w2.cell? (p12.add (Int.toNat x10 * 1)) = some (.int .i64 x13) ∧ Calls prog n_vint_Word #[.int .u64 (U64 x13)] w2 (fun e w3 => ∃ x17 : ByteArray, e =
  .returned (.string x17) ∧ Calls prog n_strings_Builder_WriteString #[.pointer (some (A0 b3)), .string x17] w3 (fun e_2 w4 => ∃ x18r0 : Int, ∃ x18r1 : Value,
  e_2 = .returned (.tuple #[.int .i64 x18r0, x18r1]) ∧ ∃ m_3, m_3 < m ∧ I0 m_3 (W64 (x10 + (1 : Int))) w4))) else (Calls prog n_strings_Builder_String #[.pointer
  (some (A0 b3))] w2 (fun e_3 w5 => ∃ x20 : ByteArray, e_3 = .returned (.string x20) ∧ R (.string x20) w5)))
def A_plain_Put : Ann := { loop := fun k => cond (Nat.beq k 0) (some (1047616, [10], [.int .i64])) (none), join := fun k => none, nf := fun k => [] }
theorem E_plain_Put (x0 : Option Addr) (x0n : Nat) (x0c : Nat) (w : World) (R : Value → World → Prop) : F_plain_Put x0 x0n x0c w R = vcF prog TAB fok A_plain_Put f59.ntmps (f59.body.getD .skip) f59.results.toList [.slice x0 x0n x0c] w R := by kernel_rfl
theorem S_plain_Put {x0 : Option Addr} {x0n : Nat} {x0c : Nat} {w : World} {R : Ending → World → Prop} (h : F_plain_Put x0 x0n x0c w fun v w' => R (.returned v) w') : Calls prog n_plain_Put #[.slice x0 x0n x0c] w R :=
  (calls_of_vc tab func59 (c := f59.body.getD .skip) (by kernel_rfl) (Eq.mp (E_plain_Put x0 x0n x0c w _) h)).mono fun _ _ ⟨_, he, hr⟩ => he ▸ hr

/-- plain_Get -/
def F_plain_Get (x0 : ByteArray) (w : World) (R : Value → World → Prop) : Prop :=
  (8 : Int) ≠ 0 ∧ bif (Int.tmod ((x0.size : Nat) : Int) (8 : Int)) != (0 : Int) then (R (.tuple #[.slice none 0 0, .bool false]) w) else (∃ I0 : Nat → Option Addr
  → Nat → Nat → Int → World → Prop, (∃ m_2, I0 m_2 none 0 0 (0 : Int) w) ∧ ∀ m, ∀ x4 : Option Addr, ∀ x4n : Nat, ∀ x4c : Nat, ∀ x5 : Int, ∀ w1, I0 m x4 x4n x4c
  x5 w1 → (bif decide (x5 < ((x0.size : Nat) : Int)) then (Calls prog n_vint_GetWord #[.string x0, .int .i64 x5] w1 (fun e w2 => ∃ x20r0 : Int, ∃ x20r1 : Int, ∃
  x20r2 : Int, e = .returned (.tuple #[.int .u64 x20r0, .int .i64 x20r1, .int .i64 x20r2]) ∧ ∀ w3 b27, w3 = w2.alloc (.cells #[.int .i64 (W64 x20r0)] t_int64) →
  b27 = w2.heap.size → ∃ x28 : Option Addr, ∃ x28n : Nat, ∃ x28c : Nat, ∃ w4 : World, (Builtin.append_ #[t_S_int64, t_S_int64] t_S_int64 #[.slice x4 x4n x4c,
  .slice (some (A0 b27)) 1 1]).run prog w3 = .ok (.slice x28 x28n x28c) w4 ∧ ∃ m_3, m_3 < m ∧ I0 m_3 x28 x28n x28c x20r1 w4)) else (R (.tuple #[.slice x4 x4n
  x4c, .bool true]) w1)))
def A_plain_Get : Ann := { loop := fun k => cond (Nat.beq k 0) (some (1073734128, [4, 5], [.sl, .int .i64])) (none), join := fun k => none, nf := fun k => [] }
theorem E_plain_Get (x0 : ByteArray) (w : World) (R : Value → World → Prop) : F_plain_Get x0 w R = vcF prog TAB fok A_plain_Get f98.ntmps (f98.body.getD .skip) f98.results.toList [.string x0] w R := by kernel_rfl
theorem S_plain_Get {x0 : ByteArray} {w : World} {R : Ending → World → Prop} (h : F_plain_Get x0 w fun v w' => R (.returned v) w') : Calls prog n_plain_Get #[.string x0] w R :=
  (calls_of_vc tab func98 (c := f98.body.getD .skip) (by kernel_rfl) (Eq.mp (E_plain_Get x0 w _) h)).mono fun _ _ ⟨_, he, hr⟩ => he ▸ hr

/-- strings_Builder_WriteString -/
def F_strings_Builder_WriteString (x0 : Option Addr) (x1 : ByteArray) (w : World) (R : Value → World → Prop) : Prop :=
  Calls prog n_strings_Builder_copyCheck #[.pointer x0] w (fun e w1 => e = .returned (.tuple #[]) ∧ OSome x0 fun p10 => ∃ x12 : Option Addr, ∃ x12n : Nat, ∃ x12c :
  Nat, w1.cell? (p10.add 1) = some (.slice x12 x12n x12c) ∧ ∃ x14 : Option Addr, ∃ x14n : Nat, ∃ x14c : Nat, ∃ w2 : World, (Builtin.append_ #[t_S_uint8,
  t_string] t_S_uint8 #[.slice x12 x12n x12c, .string x1]).run prog w1 = .ok (.slice x14 x14n x14c) w2 ∧ OSome x0 fun p15 => Sto w2 (p15.add 1) (.slice x14 x14n
  x14c) fun w3 => R (.tuple #[.int .i64 ((x1.size : Nat) : Int), .nilIface]) w3)
theorem E_strings_Builder_WriteString (x0 : Option Addr) (x1 : ByteArray) (w : World) (R : Value → World → Prop) : F_strings_Builder_WriteString x0 x1 w R = vcF prog TAB fok noAnn f121.ntmps (f121.body.getD .skip) f121.results.toList [.pointer x0, .string x1] w R := by kernel_rfl
theorem S_strings_Builder_WriteString {x0 : Option Addr} {x1 : ByteArray} {w : World} {R : Ending → World → Prop} (h : F_strings_Builder_WriteString x0 x1 w fun v w' => R (.returned v) w') : Calls prog n_strings_Builder_WriteString #[.pointer x0, .string x1] w R :=
  (calls_of_vc tab func121 (c := f121.body.getD .skip) (by kernel_rfl) (Eq.mp (E_strings_Builder_WriteString x0 x1 w _) h)).mono fun _ _ ⟨_, he, hr⟩ => he ▸ hr

/-- strings_Builder_String -/
def F_strings_Builder_String (x0 : Option Addr) (w : World) (R : Value → World → Prop) : Prop :=
  ∀ w1, w1 = w.drew → OSome x0 fun p4 => ∃ x6 : Option Addr, ∃ x6n : Nat, ∃ x6c : Nat, w1.cell? (p4.add 1) = some (.slice x6 x6n x6c) ∧ OSome x0 fun p9 => ∃ x11 :
  Option Addr, ∃ x11n : Nat, ∃ x11c : Nat, w1.cell? (p9.add 1) = some (.slice x11 x11n x11c) ∧ ∃ x7, (Builtin.unsafeSliceData_ #[t_S_uint8] t_P_uint8 #[.slice x6
  x6n x6c]).run prog w1 = .ok (.pointer x7) w1 ∧ ((w1.cell? (p9.add 1) = some (.slice x11 x11n x11c) → w1.cell? (p9.add 1) = some (.slice x11 x11n x11c)) ∧ True)
  ∧ ∃ x13 w2, (Builtin.unsafeString_ #[t_P_uint8, t_int] t_string #[.pointer x7, .int .i64 ((x11n : Nat) : Int)]).run prog w1 = .ok (.string x13) w2 ∧ ((w1.cell?
  (p4.add 1) = some (.slice x6 x6n x6c) → w2.cell? (p4.add 1) = some (.slice x6 x6n x6c)) ∧ (w1.cell? (p9.add 1) = some (.slice x11 x11n x11c) → w2.cell? (p9.add
  1) = some (.slice x11 x11n x11c)) ∧ True) ∧ R (.string x13) w2
theorem E_strings_Builder_String (x0 : Option Addr) (w : World) (R : Value → World → Prop) : F_strings_Builder_String x0 w R = vcF prog TAB fok noAnn f122.ntmps (f122.body.getD .skip) f122.results.toList [.pointer x0] w R := by kernel_rfl
theorem S_strings_Builder_String {x0 : Option Addr} {w : World} {R : Ending → World → Prop} (h : F_strings_Builder_String x0 w fun v w' => R (.returned v) w') : Calls prog n_strings_Builder_String #[.pointer x0] w R :=
  (calls_of_vc tab func122 (c := f122.body.getD .skip) (by kernel_rfl) (Eq.mp (E_strings_Builder_String x0 w _) h)).mono fun _ _ ⟨_, he, hr⟩ => he ▸ hr

/-- strings_Builder_Len -/
def F_strings_Builder_Len (x0 : Option Addr) (w : World) (R : Value → World → Prop) : Prop :=
  OSome x0 fun p4 => ∃ x6 : Option Addr, ∃ x6n : Nat, ∃ x6c : Nat, w.cell? (p4.add 1) = some (.slice x6 x6n x6c) ∧ R (.int .i64 ((x6n : Nat) : Int)) w
theorem E_strings_Builder_Len (x0 : Option Addr) (w : World) (R : Value → World → Prop) : F_strings_Builder_Len x0 w R = vcF prog TAB fok noAnn f276.ntmps (f276.body.getD .skip) f276.results.toList [.pointer x0] w R := by kernel_rfl
theorem S_strings_Builder_Len {x0 : Option Addr} {w : World} {R : Ending → World → Prop} (h : F_strings_Builder_Len x0 w fun v w' => R (.returned v) w') : Calls prog n_strings_Builder_Len #[.pointer x0] w R :=
  (calls_of_vc tab func276 (c := f276.body.getD .skip) (by kernel_rfl) (Eq.mp (E_strings_Builder_Len x0 w _) h)).mono fun _ _ ⟨_, he, hr⟩ => he ▸ hr

/-- bits_RotateLeft64 -/
def F_bits_RotateLeft64 (x0 : Int) (x1 : Int) (w : World) (R : Value → World → Prop) : Prop :=
  0 ≤ (andI .u64 (U64 x1) (63 : Int)) ∧ 0 ≤ (U64 ((64 : Int) - (andI .u64 (U64 x1) (63 : Int)))) ∧ R (.int .u64 (orI .u64 (shlI .u64 x0 (andI .u64 (U64 x1) (63 :
  Int))) (shrI .u64 x0 (U64 ((64 : Int) - (andI .u64 (U64 x1) (63 : Int))))))) w
theorem E_bits_RotateLeft64 (x0 : Int) (x1 : Int) (w : World) (R : Value → World → Prop) : F_bits_RotateLeft64 x0 x1 w R = vcF prog TAB fok noAnn f187.ntmps (f187.body.getD .skip) f187.results.toList [.int .u64 x0, .int .i64 x1] w R := by kernel_rfl
theorem S_bits_RotateLeft64 {x0 : Int} {x1 : Int} {w : World} {R : Ending → World → Prop} (h : F_bits_RotateLeft64 x0 x1 w fun v w' => R (.returned v) w') : Calls prog n_bits_RotateLeft64 #[.int .u64 x0, .int .i64 x1] w R :=
  (calls_of_vc tab func187 (c := f187.body.getD .skip) (by kernel_rfl) (Eq.mp (E_bits_RotateLeft64 x0 x1 w _) h)).mono fun _ _ ⟨_, he, hr⟩ => he ▸ hr

/-- l21_Options -/
def F_l21_Options (x0 : Int) (x1 : Int) (x2 : Int) (x3 : Int) (x4 : Int) (w : World) (R : Value → World → Prop) : Prop :=
  ∀ w1 b10, w1 = w.alloc (.cells #[.int .i64 0, .int .i64 0, .int .i64 0, .int .i64 0, .int .u64 0] t_api_Options) → b10 = w.heap.size → (30 : Int) ≠ 0 ∧ (9 : Int)
  ≠ 0 ∧ (6 : Int) ≠ 0 ∧ (5 : Int) ≠ 0 ∧ Sto w1 (A0 b10) (.int .i64 (W64 ((1 : Int) + (Int.tmod (W64 x0) (30 : Int))))) fun w2 => Sto w2 ((A0 b10).add 1) (.int
  .i64 (W64 ((7 : Int) + (Int.tmod (W64 x1) (9 : Int))))) fun w3 => Sto w3 ((A0 b10).add 2) (.int .i64 (W64 ((7 : Int) + (Int.tmod (W64 x2) (6 : Int))))) fun w4
  => Sto w4 ((A0 b10).add 3) (.int .i64 (Int.tmod (W64 x3) (5 : Int))) fun w5 => Sto w5 ((A0 b10).add 4) (.int .u64 x4) fun w6 => ∃ r0a : Int, ∃ r0b : Int, ∃ r0c
  : Int, ∃ r0d : Int, ∃ r0e : Int, LdL w6 (A0 b10) 0 [.int .i64 r0a, .int .i64 r0b, .int .i64 r0c, .int .i64 r0d, .int .u64 r0e] ∧ R (.agg #[.int .i64 r0a, .int
  .i64 r0b, .int .i64 r0c, .int .i64 r0d, .int .u64 r0e]) w6
theorem E_l21_Options (x0 : Int) (x1 : Int) (x2 : Int) (x3 : Int) (x4 : Int) (w : World) (R : Value → World → Prop) : F_l21_Options x0 x1 x2 x3 x4 w R = vcF prog TAB fok noAnn f25.ntmps (f25.body.getD .skip) f25.results.toList [.int .u8 x0, .int .u8 x1, .int .u8 x2, .int .u8 x3, .int .u64 x4] w R := by kernel_rfl
theorem S_l21_Options {x0 : Int} {x1 : Int} {x2 : Int} {x3 : Int} {x4 : Int} {w : World} {R : Ending → World → Prop} (h : F_l21_Options x0 x1 x2 x3 x4 w fun v w' => R (.returned v) w') : Calls prog n_l21_Options #[.int .u8 x0, .int .u8 x1, .int .u8 x2, .int .u8 x3, .int .u64 x4] w R :=
  (calls_of_vc tab func25 (c := f25.body.getD .skip) (by kernel_rfl) (Eq.mp (E_l21_Options x0 x1 x2 x3 x4 w _) h)).mono fun _ _ ⟨_, he, hr⟩ => he ▸ hr

/-- l11_Numbers -/
def F_l11_Numbers (x0 : Option Addr) (x0n : Nat) (x0c : Nat) (w : World) (R : Value → World → Prop) : Prop :=
  ∃ I0 : Nat → Option Addr → Nat → Nat → Int → World → Prop, (∃ m_2, I0 m_2 none 0 0 (0 : Int) w) ∧ ∀ m, ∀ x3 : Option Addr, ∀ x3n : Nat, ∀ x3c : Nat, ∀ x4 : Int,
  ∀ w1, I0 m x3 x3n x3c x4 w1 → (∀ J5 : World → Prop, (∀ w2, (0 ≤ x4 ∧ x4 < ((x0n : Nat) : Int) ∧ OSome x0 fun p18 => ∃ x19 : Int, w2.cell? (p18.add (Int.toNat
  x4 * 1)) = some (.int .u16 x19) ∧ (1024 : Int) ≠ 0 ∧ 0 ≤ x4 ∧ x4 < ((x0n : Nat) : Int) ∧ OSome x0 fun p24 => ∃ x25 : Int, w2.cell? (p24.add (Int.toNat x4 * 1))
  = some (.int .u16 x25) ∧ (1024 : Int) ≠ 0 ∧ (6 : Int) ≠ 0 ∧ bif (Int.tmod (U16 (Int.tdiv x25 (1024 : Int))) (6 : Int)) == (0 : Int) then ((3 : Int) ≠ 0 ∧ ∀ w3
  b57, w3 = w2.alloc (.cells #[.int .i64 (Int.tmod (W64 (Int.tmod x19 (1024 : Int))) (3 : Int))] t_int64) → b57 = w2.heap.size → ∃ x58 : Option Addr, ∃ x58n :
  Nat, ∃ x58c : Nat, ∃ w4 : World, (Builtin.append_ #[t_S_int64, t_S_int64] t_S_int64 #[.slice x3 x3n x3c, .slice (some (A0 b57)) 1 1]).run prog w3 = .ok (.slice
  x58 x58n x58c) w4 ∧ ∃ m_3, m_3 < m ∧ I0 m_3 x58 x58n x58c (W64 (x4 + (1 : Int))) w4) else (bif (Int.tmod (U16 (Int.tdiv x25 (1024 : Int))) (6 : Int)) == (1 :
  Int) then (∀ w5 b57_2, w5 = w2.alloc (.cells #[.int .i64 (W64 (0 - W64 (Int.tmod x19 (1024 : Int))))] t_int64) → b57_2 = w2.heap.size → ∃ x58_2 : Option Addr,
  ∃ x58_2n : Nat, ∃ x58_2c : Nat, ∃ w6 : World, (Builtin.append_ #[t_S_int64, t_S_int64] t_S_int64 #[.slice x3 x3n x3c, .slice (some (A0 b57_2)) 1 1]).run prog
  w5 = .ok (.slice x58_2 x58_2n x58_2c) w6 ∧ ∃ m_3, m_3 < m ∧ I0 m_3 x58_2 x58_2n x58_2c (W64 (x4 + (1 : Int))) w6) else (bif (Int.tmod (U16 (Int.tdiv x25 (1024
  : Int))) (6 : Int)) == (2 : Int) then (0 ≤ x4 ∧ x4 < ((x0n : Nat) : Int) ∧ OSome x0 fun p41 => ∃ x42 : Int, w2.cell? (p41.add (Int.toNat x4 * 1)) = some (.int
  .u16 x42) ∧ (53 : Int) ≠ 0 ∧ 0 ≤ (Int.tmod x42 (53 : Int)) ∧ ∀ w7 b57_3, w7 = w2.alloc (.cells #[.int .i64 (shlI .i64 (W64 (Int.tmod x19 (1024 : Int)))
  (Int.tmod x42 (53 : Int)))] t_int64) → b57_3 = w2.heap.size → ∃ x58_3 : Option Addr, ∃ x58_3n : Nat, ∃ x58_3c : Nat, ∃ w8 : World, (Builtin.append_
  #[t_S_int64, t_S_int64] t_S_int64 #[.slice x3 x3n x3c, .slice (some (A0 b57_3)) 1 1]).run prog w7 = .ok (.slice x58_3 x58_3n x58_3c) w8 ∧ ∃ m_3, m_3 < m ∧ I0
  m_3 x58_3 x58_3n x58_3c (W64 (x4 + (1 : Int))) w8) else (bif (Int.tmod (U16 (Int.tdiv x25 (1024 : Int))) (6 : Int)) == (3 : Int) then (0 ≤ x4 ∧ x4 < ((x0n :
  Nat) : Int) ∧ OSome x0 fun p51 => ∃ x52 : Int, w2.cell? (p51.add (Int.toNat x4 * 1)) = some (.int .u16 x52) ∧ (54 : Int) ≠ 0 ∧ 0 ≤ (Int.tmod x52 (54 : Int)) ∧
  ∀ w9 b57_4, w9 = w2.alloc (.cells #[.int .i64 (shlI .i64 (W64 (0 - W64 (Int.tmod x19 (1024 : Int)))) (Int.tmod x52 (54 : Int)))] t_int64) → b57_4 =
  w2.heap.size → ∃ x58_4 : Option Addr, ∃ x58_4n : Nat, ∃ x58_4c : Nat, ∃ w10 : World, (Builtin.append_ #[t_S_int64, t_S_int64] t_S_int64 #[.slice x3 x3n x3c,
  .slice (some (A0 b57_4)) 1 1]).run prog w9 = .ok (.slice x58_4 x58_4n x58_4c) w10 ∧ ∃ m_3, m_3 < m ∧ I0 m_3 x58_4 x58_4n x58_4c (W64 (x4 + (1 : Int))) w10)
  else (∀ w11 b57_5, w11 = w2.alloc (.cells #[.int .i64 (W64 (Int.tmod x19 (1024 : Int)))] t_int64) → b57_5 = w2.heap.size → ∃ x58_5 : Option Addr, ∃ x58_5n :
  Nat, ∃ x58_5c : Nat, ∃ w12 : World, (Builtin.append_ #[t_S_int64, t_S_int64] t_S_int64 #[.slice x3 x3n x3c, .slice (some (A0 b57_5)) 1 1]).run prog w11 = .ok
  (.slice x58_5 x58_5n x58_5c) w12 ∧ ∃ m_3, m_3 < m ∧ I0 m_3 x58_5 x58_5n x58_5c (W64 (x4 + (1 : Int))) w12))))) → J5  w2) → bif decide (x4 < ((x0n : Nat) :
  Int)) then (bif decide (x4 < (60 : Int)) then (J5  w1) else (R (.slice x3 x3n x3c) w1)) else (R (.slice x3 x3n x3c) w1))
def A_l11_Numbers : Ann := { loop := fun k => cond (Nat.beq k 0) (some (576460752303423480, [3, 4], [.sl, .int .i64])) (none), join := fun k => cond (Nat.beq k 5) (some (16320, [], [])) (none), nf := fun k => [] }
theorem E_l11_Numbers (x0 : Option Addr) (x0n : Nat) (x0c : Nat) (w : World) (R : Value → World → Prop) : F_l11_Numbers x0 x0n x0c w R = vcF prog TAB fok A_l11_Numbers f24.ntmps (f24.body.getD .skip) f24.results.toList [.slice x0 x0n x0c] w R := by kernel_rfl
theorem S_l11_Numbers {x0 : Option Addr} {x0n : Nat} {x0c : Nat} {w : World} {R : Ending → World → Prop} (h : F_l11_Numbers x0 x0n x0c w fun v w' => R (.returned v) w') : Calls prog n_l11_Numbers #[.slice x0 x0n x0c] w R :=
  (calls_of_vc tab func24 (c := f24.body.getD .skip) (by kernel_rfl) (Eq.mp (E_l11_Numbers x0 x0n x0c w _) h)).mono fun _ _ ⟨_, he, hr⟩ => he ▸ hr

/-- l21_awake -/
def F_l21_awake  (w : World) (R : Value → World → Prop) : Prop :=
  Calls prog n_l21_Options #[.int .u8 (1 : Int), .int .u8 (2 : Int), .int .u8 (0 : Int), .int .u8 (4 : Int), .int .u64 (7 : Int)] w (fun e w1 => ∃ x8a : Int, ∃ x8b
  : Int, ∃ x8c : Int, ∃ x8d : Int, ∃ x8e : Int, e = .returned (.agg #[.int .i64 x8a, .int .i64 x8b, .int .i64 x8c, .int .i64 x8d, .int .u64 x8e]) ∧ ∀ w2 b1, w2 =
  w1.alloc (.cells #[.int .i64 0, .int .i64 0, .int .i64 0, .int .i64 0, .int .u64 0] t_api_Options) → b1 = w1.heap.size → Sto w2 (A0 b1) (.int .i64 x8a) fun w3
  => Sto w3 ((A0 b1).add 1) (.int .i64 x8b) fun w4 => Sto w4 ((A0 b1).add 2) (.int .i64 x8c) fun w5 => Sto w5 ((A0 b1).add 3) (.int .i64 x8d) fun w6 => Sto w6
  ((A0 b1).add 4) (.int .u64 x8e) fun w7 => ∃ x10a : Int, ∃ x10b : Int, ∃ x10c : Int, ∃ x10d : Int, ∃ x10e : Int, LdL w7 (A0 b1) 0 [.int .i64 x10a, .int .i64
  x10b, .int .i64 x10c, .int .i64 x10d, .int .u64 x10e] ∧ ∀ w8 b11, w8 = w7.alloc (.cells #[.int .i64 (0 : Int)] t_int64) → b11 = w7.heap.size → Calls prog
  n_block_Put #[.int .i64 (0 : Int), .agg #[.int .i64 x10a, .int .i64 x10b, .int .i64 x10c, .int .i64 x10d, .int .u64 x10e], .slice (some (A0 b11)) 1 1] w8 (fun
  e_2 w9 => ∃ x12r0 : ByteArray, ∃ x12r1 : Int, e_2 = .returned (.tuple #[.string x12r0, .int .i64 x12r1]) ∧ Calls prog n_block_Get #[.string x12r0, .int .i64 (0
  : Int), .int .u64 (7 : Int), .int .i64 (9 : Int)] w9 (fun e_3 w10 => ∃ x17r0 : Int, ∃ x17r1 : Option Addr, ∃ x17r1n : Nat, ∃ x17r1c : Nat, ∃ x17r2 : Int, ∃
  x17r3 : Int, e_3 = .returned (.tuple #[.int .i64 x17r0, .slice x17r1 x17r1n x17r1c, .int .i64 x17r2, .int .i64 x17r3]) ∧ bif ((x12r0.size : Nat) : Int) == (19
  : Int) then (Calls prog n_l1_Err #[.int .i64 x12r1] w10 (fun e_4 w11 => ∃ x27 : Int, e_4 = .returned (.int .i64 x27) ∧ Calls prog n_l1_Err #[.int .i64 x17r3]
  w11 (fun e_5 w12 => ∃ x29 : Int, e_5 = .returned (.int .i64 x29) ∧ bif (W64 (x27 + x29)) == (0 : Int) then (bif x17r0 == (0 : Int) then (bif ((x17r1n : Nat) :
  Int) == (1 : Int) then (R (.bool (x17r2 == (19 : Int))) w12) else (R (.bool false) w12)) else (R (.bool false) w12)) else (R (.bool false) w12)))) else (R
  (.bool false) w10))))
theorem E_l21_awake  (w : World) (R : Value → World → Prop) : F_l21_awake  w R = vcF prog TAB fok noAnn f11.ntmps (f11.body.getD .skip) f11.results.toList [] w R := by kernel_rfl
theorem S_l21_awake  {w : World} {R : Ending → World → Prop} (h : F_l21_awake  w fun v w' => R (.returned v) w') : Calls prog n_l21_awake #[] w R :=
  (calls_of_vc tab func11 (c := f11.body.getD .skip) (by kernel_rfl) (Eq.mp (E_l21_awake  w _) h)).mono fun _ _ ⟨_, he, hr⟩ => he ▸ hr

end Go.Proofs.Tryz
