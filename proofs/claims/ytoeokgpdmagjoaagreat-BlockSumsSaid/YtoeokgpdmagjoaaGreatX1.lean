import Derived.Test.YtoeokgpdmagjoaaGreatQ2
/-
A sum of few bytes turns with each byte.
-/
namespace Go.Proofs.Tryz
open Go Go.RowKit Go.Proofs.VC
set_option linter.unusedVariables false

theorem mul_inj {q q' : Nat} (hq : q * q' % WW = 1) {x y : Nat} (hx : x < WW) (hy : y < WW) (h : x * q % WW = y * q % WW) : x = y := by
  have key : ∀ z : Nat, z < WW → z * q % WW * q' % WW = z := by
    intro z hz
    rw [Nat.mod_mul_mod, Nat.mul_assoc, Nat.mul_mod, hq, Nat.mul_one, Nat.mod_mod, Nat.mod_eq_of_lt hz]
  rw [← key x hx, ← key y hy, h]
theorem inv1 : q1 * 614540362697595703 % WW = 1 := by decide +kernel
theorem inv2 : q2 * 839798700976720815 % WW = 1 := by decide +kernel
theorem inv3 : q3 * 16855272203555305545 % WW = 1 := by decide +kernel
theorem add_inj {c x y : Nat} (hx : x < WW) (hy : y < WW) (h : (x + c) % WW = (y + c) % WW) : x = y := by
  have h1 : x < 18446744073709551616 := hx
  have h2 : y < 18446744073709551616 := hy
  have h3 : (x + c) % 18446744073709551616 = (y + c) % 18446744073709551616 := h
  omega
theorem xor_inj {a x y : Nat} (h : a ^^^ x = a ^^^ y) : x = y := by
  have := congrArg (a ^^^ ·) h
  simpa [← Nat.xor_assoc] using this
theorem xor_inj' {a x y : Nat} (h : x ^^^ a = y ^^^ a) : x = y := xor_inj (a := a) (by rw [Nat.xor_comm a x, Nat.xor_comm a y]; exact h)

theorem rotl_eq {x k : Nat} (hx : x < WW) (hk : k < 64) : rotl x k = (x % 2 ^ (64 - k)) * 2 ^ k + x / 2 ^ (64 - k) := by
  have hp : 2 ^ 64 = 2 ^ (64 - k) * 2 ^ k := by rw [← Nat.pow_add]; congr 1; omega
  have e1 : x * 2 ^ k % WW = (x % 2 ^ (64 - k)) * 2 ^ k := by
    rw [show WW = 2 ^ (64 - k) * 2 ^ k from hp]
    exact Nat.mul_mod_mul_right _ _ _
  have hlt : x / 2 ^ (64 - k) < 2 ^ k := Nat.div_lt_of_lt_mul (by rw [← hp]; exact hx)
  rw [rotl, e1, Nat.or_comm, or_add _ _ _ hlt, Nat.add_comm]
theorem rotl_inj {k x y : Nat} (hk : k < 64) (hx : x < WW) (hy : y < WW) (h : rotl x k = rotl y k) : x = y := by
  rw [rotl_eq hx hk, rotl_eq hy hk] at h
  have hp : 2 ^ 64 = 2 ^ (64 - k) * 2 ^ k := by rw [← Nat.pow_add]; congr 1; omega
  have l1 : x / 2 ^ (64 - k) < 2 ^ k := Nat.div_lt_of_lt_mul (by rw [← hp]; exact hx)
  have l2 : y / 2 ^ (64 - k) < 2 ^ k := Nat.div_lt_of_lt_mul (by rw [← hp]; exact hy)
  have m1 : x / 2 ^ (64 - k) = y / 2 ^ (64 - k) := by
    have := congrArg (· % 2 ^ k) h
    simpa [Nat.mul_add_mod', Nat.mod_eq_of_lt l1, Nat.mod_eq_of_lt l2] using this
  have hk0 : 0 < 2 ^ k := Nat.two_pow_pos k
  have m2 : x % 2 ^ (64 - k) = y % 2 ^ (64 - k) := by
    rw [m1] at h
    exact Nat.eq_of_mul_eq_mul_right hk0 (Nat.add_right_cancel h)
  rw [← Nat.div_add_mod x (2 ^ (64 - k)), ← Nat.div_add_mod y (2 ^ (64 - k)), m1, m2]
theorem div_xor (a b k : Nat) : (a ^^^ b) / 2 ^ k = a / 2 ^ k ^^^ b / 2 ^ k := by
  rw [← Nat.shiftRight_eq_div_pow, ← Nat.shiftRight_eq_div_pow, ← Nat.shiftRight_eq_div_pow, Nat.shiftRight_xor_distrib]
/-- x with its own upper bits: again and again, all is as it was. -/
theorem fold_back {x k : Nat} (hx : x < WW) (hk : 32 ≤ k) : (x ^^^ x / 2 ^ k) ^^^ (x ^^^ x / 2 ^ k) / 2 ^ k = x := by
  have h0 : x / 2 ^ k / 2 ^ k = 0 := by
    rw [Nat.div_div_eq_div_mul, ← Nat.pow_add]
    exact Nat.div_eq_of_lt (Nat.lt_of_lt_of_le hx (Nat.pow_le_pow_right (n := 2) (by decide) (show 64 ≤ k + k by omega)))
  rw [div_xor, h0, Nat.xor_zero, Nat.xor_assoc, Nat.xor_self, Nat.xor_zero]
theorem shr_inj {k x y : Nat} (hk : 32 ≤ k) (hx : x < WW) (hy : y < WW) (h : x ^^^ x / 2 ^ k = y ^^^ y / 2 ^ k) : x = y := by
  rw [← fold_back hx hk, ← fold_back hy hk, h]
theorem fold29 (x : Nat) : (x ^^^ x / 2 ^ 29) ^^^ (x ^^^ x / 2 ^ 29) / 2 ^ 29 = x ^^^ x / 2 ^ 58 := by
  have h0 : x / 2 ^ 29 / 2 ^ 29 = x / 2 ^ 58 := by rw [Nat.div_div_eq_div_mul, ← Nat.pow_add]
  rw [div_xor, h0, Nat.xor_assoc, ← Nat.xor_assoc (x / 2 ^ 29), Nat.xor_self, Nat.zero_xor]
theorem shr29_inj {x y : Nat} (hx : x < WW) (hy : y < WW) (h : x ^^^ x / 2 ^ 29 = y ^^^ y / 2 ^ 29) : x = y := by
  refine shr_inj (k := 58) (by decide) hx hy ?_
  rw [← fold29, ← fold29, h]


theorem mixN_inj {x y : Nat} (hx : x < WW) (hy : y < WW) (h : mixN x = mixN y) : x = y := by

  unfold mixN at h
  have e1 := shr_inj (by decide) (modW _) (modW _) h
  have e2 := mul_inj inv3 (xor_lt' (modW _) (div_lt' _ (modW _))) (xor_lt' (modW _) (div_lt' _ (modW _))) e1
  have e3 := shr29_inj (modW _) (modW _) e2
  have e4 := mul_inj inv2 (xor_lt' hx (div_lt' _ hx)) (xor_lt' hy (div_lt' _ hy)) e3
  exact shr_inj (by decide) hx hy e4
/-! ### the steps of the tail -/
def stepW (h x : Nat) : Nat := (rotl (h ^^^ roundN 0 x) 27 * q1 % WW + q4) % WW
theorem stepW_lt (h x : Nat) : stepW h x < WW := modW _
theorem roundN_inj {x y : Nat} (hx : x < WW) (hy : y < WW) (h : roundN 0 x = roundN 0 y) : x = y := by
  unfold roundN at h
  have e1 := mul_inj inv1 (rotl_lt _ (modW _)) (rotl_lt _ (modW _)) h
  have e2 := rotl_inj (by decide) (modW _) (modW _) e1
  rw [Nat.zero_add, Nat.zero_add, Nat.mod_mod, Nat.mod_mod] at e2
  exact mul_inj inv2 hx hy e2
theorem stepW_h {h k x : Nat} (hh : h < WW) (hk : k < WW) (e : stepW h x = stepW k x) : h = k := by
  unfold stepW at e
  have e1 := add_inj (modW _) (modW _) e
  have e2 := mul_inj inv1 (rotl_lt _ (xor_lt' hh (roundN_lt _ _))) (rotl_lt _ (xor_lt' hk (roundN_lt _ _))) e1
  exact xor_inj' (rotl_inj (by decide) (xor_lt' hh (roundN_lt _ _)) (xor_lt' hk (roundN_lt _ _)) e2)
theorem stepW_x {h x y : Nat} (hh : h < WW) (hx : x < WW) (hy : y < WW) (e : stepW h x = stepW h y) : x = y := by
  unfold stepW at e
  have e1 := add_inj (modW _) (modW _) e
  have e2 := mul_inj inv1 (rotl_lt _ (xor_lt' hh (roundN_lt _ _))) (rotl_lt _ (xor_lt' hh (roundN_lt _ _))) e1
  exact roundN_inj hx hy (xor_inj (rotl_inj (by decide) (xor_lt' hh (roundN_lt _ _)) (xor_lt' hh (roundN_lt _ _)) e2))
theorem tail8_step {h : Nat} {l : List UInt8} (hl : 8 ≤ l.length) : tail8 h l = tail8 (stepW h (le (l.take 8))) (l.drop 8) := by rw [tail8, dif_pos hl]; rfl
theorem tail8_nil {h : Nat} {l : List UInt8} (hl : l.length = 0) : tail8 h l = h := by
  obtain rfl := List.length_eq_zero_iff.1 hl
  rw [tail8, dif_neg (by simp), tail4, if_neg (by simp)]; rfl
theorem tail8_h : ∀ (n : Nat) {h k : Nat} (l : List UInt8), l.length = 8 * n → h < WW → k < WW → tail8 h l = tail8 k l → h = k
  | 0, h, k, l, hl, hh, hk, e => by rwa [tail8_nil (by omega), tail8_nil (by omega)] at e
  | n + 1, h, k, l, hl, hh, hk, e => by
    rw [tail8_step (h := h) (l := l) (by omega), tail8_step (h := k) (l := l) (by omega)] at e
    exact stepW_h hh hk (tail8_h n (l.drop 8) (by rw [List.length_drop]; omega) (stepW_lt _ _) (stepW_lt _ _) e)
theorem le_inj : ∀ {a b : List UInt8}, a.length = b.length → le a = le b → a = b
  | [], [], _, _ => rfl
  | x :: a, y :: b, hl, h => by
    simp only [le] at h
    have hx := x.toNat_lt
    have hy := y.toNat_lt
    have e1 : x.toNat = y.toNat := by omega
    have e2 : le a = le b := by omega
    rw [UInt8.toNat_inj.1 e1, le_inj (by simpa using hl) e2]
  | [], _ :: _, hl, _ => by simp at hl
  | _ :: _, [], hl, _ => by simp at hl
theorem set_ne {α : Type} {l : List α} {p : Nat} {v : α} (hp : p < l.length) (hv : l[p] ≠ v) : l.set p v ≠ l := by
  intro h
  have := congrArg (·[p]?) h
  simp only [List.getElem?_set_self hp, List.getElem?_eq_getElem hp] at this
  exact hv (Option.some.inj this).symm
theorem tail8_set : ∀ (n : Nat) {h : Nat} (l : List UInt8) (p : Nat) (v : UInt8), l.length = 8 * n → h < WW → (hp : p < l.length) → l[p] ≠ v → tail8 h (l.set p v) ≠ tail8 h l
  | 0, h, l, p, v, hl, hh, hp, hv, e => by omega
  | n + 1, h, l, p, v, hl, hh, hp, hv, e => by
    rw [tail8_step (h := h) (l := l.set p v) (by rw [List.length_set]; omega), tail8_step (h := h) (l := l) (by omega)] at e
    by_cases h8 : p < 8
    · rw [List.take_set, List.drop_set_of_lt h8] at e
      have e1 := tail8_h n (l.drop 8) (by rw [List.length_drop]; omega) (stepW_lt _ _) (stepW_lt _ _) e
      have e2 := stepW_x hh (by have := le_take_lt (l.set p v); rw [List.take_set] at this; exact this) (le_take_lt _) e1
      have e3 := le_inj (by simp) e2
      have hp8 : p < (l.take 8).length := by rw [List.length_take]; omega
      exact set_ne hp8 (by rw [List.getElem_take]; exact hv) e3
    · rw [List.take_set_of_le (show 8 ≤ p by omega), List.drop_set, if_neg h8] at e
      refine tail8_set n (l.drop 8) (p - 8) v (by rw [List.length_drop]; omega) (stepW_lt _ _) (by rw [List.length_drop]; omega) ?_ e
      rw [List.getElem_drop]
      simpa [show 8 + (p - 8) = p by omega] using hv
/-- Of at most three words. -/
theorem sumN_set {s : Nat} {l : List UInt8} {n p : Nat} {v : UInt8} (hl : l.length = 8 * n) (hn : n ≤ 3) (hp : p < l.length) (hv : l[p] ≠ v) : sumN s (l.set p v) ≠ sumN s l := by
  intro e
  have h32 : l.length < 32 := by omega
  rw [sumN, sumN, if_pos (by rw [List.length_set]; exact h32), if_pos h32, List.length_set] at e
  exact tail8_set n l p v hl (modW _) hp hv (mixN_inj (tail8_lt _ (modW _) _ (Nat.le_refl _)) (tail8_lt _ (modW _) _ (Nat.le_refl _)) e)
end Go.Proofs.Tryz
