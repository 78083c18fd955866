import Derived.Test.YtoeokgpdmagjoaaGreatB1
/-
The small functions: options, numbers as bytes.
-/
namespace Go.Proofs.Tryz
open Go Go.RowKit Go.Proofs.VC
set_option linter.unusedVariables false
variable {M : List Nat} {w0 w : World} {L : List (Nat × Obj)}

theorem T_l1_Err (x : Int) (w : World) : Calls prog n_l1_Err #[.int .i64 x] w fun e w' => e = .returned (.int .i64 x) ∧ Fr [] w w' := S_l1_Err ⟨rfl, Fr.refl _ _⟩

def inB (n a b : Int) : Bool := decide (a ≤ n) && decide (n ≤ b)
theorem T_block_in (n a b : Int) (w : World) : Calls prog n_block_in #[.int .i64 n, .int .i64 a, .int .i64 b] w fun e w' => e = .returned (.bool (inB n a b)) ∧ Fr [] w w' := by
  refine S_block_in ?_
  unfold F_block_in
  refine bif_i (fun h => ⟨?_, Fr.refl _ _⟩) (fun h => ⟨?_, Fr.refl _ _⟩)
  · simp only [ge_iff_le, decide_eq_true_eq] at h
    simp [inB, h]
  · simp only [ge_iff_le, decide_eq_false_iff_not] at h
    simp [inB, h]
def isWayB (n : Int) : Bool := inB n 0 3
theorem T_block_isWay (n : Int) (w : World) : Calls prog n_block_isWay #[.int .i64 n] w fun e w' => e = .returned (.bool (isWayB n)) ∧ Fr [] w w' := by
  refine S_block_isWay (Calls.st (St.start [] w) (T_block_in _ _ _ _) fun w1 H => ⟨_, rfl, rfl, H.fr⟩)

/-- Whether options may be. -/
def mayB (a b c d : Int) : Bool := inB a 1 4096 && inB b 7 15 && inB c 7 12 && inB d 0 4
theorem T_block_May (a b c d e : Int) (w : World) : Calls prog n_block_May #[.agg #[.int .i64 a, .int .i64 b, .int .i64 c, .int .i64 d, .int .u64 e]] w fun x w' => x = .returned (.bool (mayB a b c d)) ∧ Fr [] w w' := by
  refine S_block_May ?_
  unfold F_block_May
  refine (St.start [] w).alloc fun w1 b1 H => ?_
  simp only [A0_add]
  refine ⟨a, H.cell 0 rfl rfl, Calls.st H (T_block_in _ _ _ _) fun w2 H => ⟨_, rfl, bif_i (fun h1 => ?_) fun h1 => ⟨by simp [mayB, h1], H.fr⟩⟩⟩
  refine ⟨b, H.cell 0 rfl rfl, Calls.st H (T_block_in _ _ _ _) fun w3 H => ⟨_, rfl, bif_i (fun h2 => ?_) fun h2 => ⟨by simp [mayB, h2], H.fr⟩⟩⟩
  refine ⟨c, H.cell 0 rfl rfl, Calls.st H (T_block_in _ _ _ _) fun w4 H => ⟨_, rfl, bif_i (fun h3 => ?_) fun h3 => ⟨by simp [mayB, h3], H.fr⟩⟩⟩
  exact ⟨d, H.cell 0 rfl rfl, Calls.st H (T_block_in _ _ _ _) fun w5 H => ⟨_, rfl, by simp [mayB, h1, h2, h3], H.fr⟩⟩

/-- Options by numbers. -/
theorem tmod_nat (a b : Nat) : Int.tmod (a : Int) (b : Int) = ((a % b : Nat) : Int) := by rw [Int.tmod_eq_emod_of_nonneg (by omega)]; rfl
theorem U64_nat (n : Nat) : U64 (n : Int) = ((n % 18446744073709551616 : Nat) : Int) := (wrap_u64 _).trans (by omega)
theorem U8_nat (n : Nat) : U8 (n : Int) = ((n % 256 : Nat) : Int) := (wrap_u8 _).trans (by omega)
theorem W64_id (n : Int) (h1 : -9223372036854775808 ≤ n) (h2 : n < 9223372036854775808) : W64 n = n := wrap_i64 n h1 h2
theorem W64_nat {n : Nat} (h : n < 9223372036854775808) : W64 (n : Int) = (n : Int) := wrap_i64 _ (by omega) (by omega)
def optA (a : Nat) : Nat := 1 + a % 30
def optB (a : Nat) : Nat := 7 + a % 9
def optC (a : Nat) : Nat := 7 + a % 6
def optD (a : Nat) : Nat := a % 5
def optV (a b c d : Int) (e : Int) : Value := .agg #[.int .i64 a, .int .i64 b, .int .i64 c, .int .i64 d, .int .u64 e]
theorem T_l21_Options (a b c d : Nat) (e : Int) (ha : a < 256) (hb : b < 256) (hc : c < 256) (hd : d < 256) (w : World) : Calls prog n_l21_Options #[.int .u8 a, .int .u8 b, .int .u8 c, .int .u8 d, .int .u64 e] w
    fun x w' => x = .returned (optV (optA a) (optB b) (optC c) (optD d) e) ∧ Fr [] w w' := by
  refine S_l21_Options ?_
  unfold F_l21_Options
  refine (St.start [] w).alloc fun w1 b1 H => ?_
  have e1 : W64 (1 + Int.tmod (W64 (a : Int)) 30) = (optA a : Nat) := by
    rw [W64_nat (n := a) (by omega), show ((30 : Int)) = ((30 : Nat) : Int) from rfl, tmod_nat a 30]; exact W64_nat (n := 1 + a % 30) (by omega)
  have e2 : W64 (7 + Int.tmod (W64 (b : Int)) 9) = (optB b : Nat) := by
    rw [W64_nat (n := b) (by omega), show ((9 : Int)) = ((9 : Nat) : Int) from rfl, tmod_nat b 9]; exact W64_nat (n := 7 + b % 9) (by omega)
  have e3 : W64 (7 + Int.tmod (W64 (c : Int)) 6) = (optC c : Nat) := by
    rw [W64_nat (n := c) (by omega), show ((6 : Int)) = ((6 : Nat) : Int) from rfl, tmod_nat c 6]; exact W64_nat (n := 7 + c % 6) (by omega)
  have e4 : Int.tmod (W64 (d : Int)) 5 = (optD d : Nat) := by
    rw [W64_nat (n := d) (by omega), show ((5 : Int)) = ((5 : Nat) : Int) from rfl, tmod_nat d 5]; rfl
  simp only [A0_add, e1, e2, e3, e4]
  refine ⟨by decide, by decide, by decide, by decide, ?_⟩
  refine H.sto 0 rfl (by simp) fun w2 H => ?_
  refine H.sto 0 rfl (by simp) fun w3 H => ?_
  refine H.sto 0 rfl (by simp) fun w4 H => ?_
  refine H.sto 0 rfl (by simp) fun w5 H => ?_
  refine H.sto 0 rfl (by simp) fun w6 H => ?_
  refine ⟨_, _, _, _, _, ⟨?_, ?_, ?_, ?_, ?_, trivial⟩, rfl, H.fr⟩
  all_goals simp only [A0_add]
  · exact H.cell 0 rfl rfl
  · exact H.cell 0 rfl rfl
  · exact H.cell 0 rfl rfl
  · exact H.cell 0 rfl rfl
  · exact H.cell 0 rfl rfl

/-! ### numbers as bytes -/
def vput (n : Nat) : List UInt8 := if n < 128 then [UInt8.ofNat n] else UInt8.ofNat (n % 128 + 128) :: vput (n / 128)
theorem vput_lt {n : Nat} (h : n < 128) : vput n = [UInt8.ofNat n] := by rw [vput, if_pos h]
theorem vput_ge {n : Nat} (h : 128 ≤ n) : vput n = UInt8.ofNat (n % 128 + 128) :: vput (n / 128) := by rw [vput, if_neg (by omega)]
theorem vput_len (k : Nat) : ∀ n, n < 128 ^ (k + 1) → (vput n).length ≤ k + 1 := by
  induction k with
  | zero => intro n h; rw [vput_lt (by omega)]; simp
  | succ k ih =>
    intro n h
    by_cases h1 : n < 128
    · rw [vput_lt h1]; simp
    · rw [vput_ge (by omega)]
      have := ih (n / 128) (by rw [Nat.pow_succ] at h; omega)
      simp only [List.length_cons]; omega
theorem vput_len64 {n : Nat} (h : n < 18446744073709551616) : (vput n).length ≤ 10 := vput_len 9 n (by omega)
theorem vput_pos (n : Nat) : 1 ≤ (vput n).length := by
  rw [vput]; split <;> simp
theorem toNat_ofNat8 {n : Nat} (h : n < 256) : (UInt8.ofNat n).toNat = n := by simp; omega
theorem or128 (n : Nat) : (n % 256 ||| 128) = n % 128 + 128 := by
  have h : ∀ m : Fin 256, (m.val ||| 128) = m.val % 128 + 128 := by decide +kernel
  have := h ⟨n % 256, Nat.mod_lt _ (by decide)⟩
  simp only at this
  omega

theorem andI_or_u8 (q : Nat) : orI .u8 ((q % 256 : Nat) : Int) ((128 : Nat) : Int) = ((q % 128 + 128 : Nat) : Int) := by
  rw [orI_u8 _ _ (by omega) (by omega), or128]

theorem T_vint_Put (n : Nat) (hn : n < 18446744073709551616) (w : World) : Calls prog n_vint_Put #[.int .u64 n] w fun e w' => e = .returned (.string (S (vput n))) ∧ Fr [] w w' := by
  refine S_vint_Put ?_
  unfold F_vint_Put
  refine ⟨fun q x a k c w1 => ∃ pre : List UInt8, x = (q : Int) ∧ q < 18446744073709551616 ∧ St [] w w1 [] ∧ Ow [] w w1 [] t_uint8 1 a k c (u8s pre) ∧ pre ++ vput q = vput n,
    ⟨n, [], rfl, hn, St.start [] w, Ow.nil, rfl⟩, ?_⟩
  rintro q x a k c w1 ⟨pre, rfl, hq, H, ho, hpre⟩
  have hlen := vput_len64 hn
  have hk : pre.length = k := by simpa using ho.len
  have hl2 := congrArg List.length hpre
  rw [List.length_append] at hl2
  refine bif_i (fun h => ?_) (fun h => ?_)
  · have h' : 128 ≤ q := by have := of_decide_eq_true h; omega
    refine H.alloc_own ho fun w2 b H ho => ?_
    refine app8 (v := UInt8.ofNat (q % 128 + 128)) H ho ?_ (by omega) fun a' c2 w3 H ho => ?_
    · rw [toNat_ofNat8 (by omega), U8_nat, show (128 : Int) = ((128 : Nat) : Int) from rfl, andI_or_u8 q]
    · refine ⟨by decide, q / 128, by omega, pre ++ [UInt8.ofNat (q % 128 + 128)], ?_, by omega, H, ho, ?_⟩
      · exact shrI_nat .u64 q 7 (by decide)
      · rw [← hpre, vput_ge h', List.append_assoc]; rfl
  · have h' : q < 128 := by have := of_decide_eq_false h; omega
    refine H.alloc_own ho fun w2 b H ho => ?_
    refine app8 (v := UInt8.ofNat q) H ho ?_ (by omega) fun a' c2 w3 H ho => ?_
    · rw [toNat_ofNat8 (by omega), U8_nat, Nat.mod_eq_of_lt (by omega)]
    · refine b2s ho.sl (by simpa using ho.len.symm) ⟨?_, H.fr⟩
      rw [← hpre, vput_lt h']
end Go.Proofs.Tryz
