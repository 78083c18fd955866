import Derived.Test.YtoeokgpdmagjoaaGreatP2
/-
Sums.
-/
namespace Go.Proofs.Tryz
open Go Go.RowKit Go.Proofs.VC
set_option linter.unusedVariables false
variable {M : List Nat} {w0 w : World} {L : List (Nat × Obj)}

abbrev q1 : Nat := 11400714785074694791
abbrev q2 : Nat := 14029467366897019727
abbrev q3 : Nat := 1609587929392839161
abbrev q4 : Nat := 9650029242287828579
abbrev q5 : Nat := 2870177450012600261
abbrev WW : Nat := 18446744073709551616

def rotl (x k : Nat) : Nat := (x * 2 ^ k % WW) ||| (x / 2 ^ (64 - k))
theorem rotl_lt {x : Nat} (k : Nat) (hx : x < WW) : rotl x k < WW := by
  have h1 : x * 2 ^ k % WW < 2 ^ 64 := Nat.mod_lt _ (by decide)
  have h2 : x / 2 ^ (64 - k) < 2 ^ 64 := Nat.lt_of_le_of_lt (Nat.div_le_self _ _) hx
  exact Nat.or_lt_two_pow h1 h2
theorem xor_lt' {x y : Nat} (hx : x < WW) (hy : y < WW) : x ^^^ y < WW := Nat.xor_lt_two_pow (n := 64) hx hy
theorem modW (n : Nat) : n % WW < WW := Nat.mod_lt _ (by decide)

theorem T_bits_RotateLeft64 (x : Nat) (k : Int) (kn : Nat) (hk : k = (kn : Int)) (h1 : kn < 64) (hx : x < WW) (w : World) : Calls prog n_bits_RotateLeft64 #[.int .u64 (x : Int), .int .i64 k] w fun e w' => e = .returned (.int .u64 (rotl x kn : Nat)) ∧ Fr [] w w' := by
  subst hk
  refine S_bits_RotateLeft64 ?_
  unfold F_bits_RotateLeft64
  have e1 : andI .u64 (U64 (kn : Int)) 63 = (kn : Int) := by
    rw [U64_nat, Nat.mod_eq_of_lt (by omega), show (63 : Int) = ((63 : Nat) : Int) from rfl, andI_u64 _ _ (by omega) (by decide)]
    congr 1
    have : ∀ m : Fin 64, (m.val &&& 63) = m.val := by decide +kernel
    exact this ⟨kn, h1⟩
  have e2 : U64 ((64 : Int) - (kn : Int)) = ((64 - kn : Nat) : Int) := by
    rw [show (64 : Int) - (kn : Int) = ((64 - kn : Nat) : Int) by omega, U64_nat, Nat.mod_eq_of_lt (by omega)]
  rw [e1, e2, shlI_u64 _ _ (by omega), shrI_nat .u64 _ _ (by show 64 - kn ≤ 64; omega), orI_u64 _ _ (modW _) (Nat.lt_of_le_of_lt (Nat.div_le_self _ _) hx)]
  exact ⟨by omega, by omega, rfl, Fr.refl _ _⟩

def roundN (acc w : Nat) : Nat := rotl ((acc + w * q2 % WW) % WW) 31 * q1 % WW
theorem U64_add (a b : Nat) : U64 ((a : Int) + (b : Int)) = (((a + b) % WW : Nat) : Int) := by rw [← Int.natCast_add, U64_nat]
theorem U64_mul (a b : Nat) : U64 ((a : Int) * (b : Int)) = (((a * b) % WW : Nat) : Int) := by rw [← Int.natCast_mul, U64_nat]

theorem T_xxh_Round (x y : Nat) (w : World) : Calls prog n_xxh_Round #[.int .u64 (x : Int), .int .u64 (y : Int)] w fun e w' => e = .returned (.int .u64 (roundN x y : Nat)) ∧ Fr [] w w' := by
  refine S_xxh_Round ?_
  unfold F_xxh_Round
  rw [show (14029467366897019727 : Int) = ((q2 : Nat) : Int) from rfl, show (11400714785074694791 : Int) = ((q1 : Nat) : Int) from rfl, U64_mul, U64_add]
  refine Calls.st (St.start [] w) (T_bits_RotateLeft64 _ _ 31 rfl (by decide) (modW _) w) fun w2 H => ⟨_, rfl, ?_, H.fr⟩
  rw [U64_mul]; rfl

def mixN (h : Nat) : Nat :=
  let a := (h ^^^ h / 2 ^ 33) * q2 % WW
  let b := (a ^^^ a / 2 ^ 29) * q3 % WW
  b ^^^ b / 2 ^ 32
theorem div_lt' {x : Nat} (k : Nat) (hx : x < WW) : x / 2 ^ k < WW := Nat.lt_of_le_of_lt (Nat.div_le_self _ _) hx
theorem T_xxh_Mix (h : Nat) (hh : h < WW) (w : World) : Calls prog n_xxh_Mix #[.int .u64 (h : Int)] w fun e w' => e = .returned (.int .u64 (mixN h : Nat)) ∧ Fr [] w w' := by
  refine S_xxh_Mix ?_
  unfold F_xxh_Mix
  refine ⟨by decide, by decide, by decide, ?_, Fr.refl _ _⟩
  rw [show (14029467366897019727 : Int) = ((q2 : Nat) : Int) from rfl, show (1609587929392839161 : Int) = ((q3 : Nat) : Int) from rfl,
    show (33 : Int) = ((33 : Nat) : Int) from rfl, show (29 : Int) = ((29 : Nat) : Int) from rfl, show (32 : Int) = ((32 : Nat) : Int) from rfl]
  rw [shrI_nat .u64 _ 33 (by decide), xorI_u64 _ _ hh (div_lt' _ hh), U64_mul]
  rw [shrI_nat .u64 _ 29 (by decide), xorI_u64 _ _ (modW _) (div_lt' _ (modW _)), U64_mul]
  rw [shrI_nat .u64 _ 32 (by decide), xorI_u64 _ _ (modW _) (div_lt' _ (modW _))]
  rfl

def tail1 (h : Nat) (l : List UInt8) : Nat := l.foldl (fun h c => rotl (h ^^^ c.toNat * q5 % WW) 11 * q1 % WW) h
def tail4 (h : Nat) (l : List UInt8) : Nat := if 4 ≤ l.length then tail1 ((rotl (h ^^^ le (l.take 4) * q1 % WW) 23 * q2 % WW + q3) % WW) (l.drop 4) else tail1 h l
def tail8 (h : Nat) (l : List UInt8) : Nat :=
  if hl : 8 ≤ l.length then tail8 ((rotl (h ^^^ roundN 0 (le (l.take 8))) 27 * q1 % WW + q4) % WW) (l.drop 8) else tail4 h l
termination_by l.length
decreasing_by simp; omega
theorem tail1_lt {h : Nat} (hh : h < WW) : ∀ l, tail1 h l < WW := by
  intro l
  induction l generalizing h with
  | nil => exact hh
  | cons c l ih => exact ih (modW _)
end Go.Proofs.Tryz
