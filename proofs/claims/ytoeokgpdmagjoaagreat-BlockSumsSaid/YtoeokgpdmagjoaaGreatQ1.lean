import Derived.Test.YtoeokgpdmagjoaaGreatP10
/-
What is put is read again: numbers in groups, words, a block's head.
-/
namespace Go.Proofs.Tryz
open Go Go.RowKit Go.Proofs.VC
set_option linter.unusedVariables false

theorem ltW {n : Nat} (h : n < 18446744073709551616) : n < WW := h
theorem ofW {n : Nat} (h : n < WW) : n < 18446744073709551616 := h

theorem vgo_vput : ∀ (k n : Nat), n < 128 ^ (k + 1) → ∀ (i acc : Nat) (r : List UInt8), i ≤ 9 → (i = 9 → n < 2) → n < 2 ^ (64 - 7 * i) → (0 < i → n ≠ 0) →
    vgo (vput n ++ r) i acc = (acc + n * 128 ^ i, i + (vput n).length, 0) := by
  intro k
  induction k with
  | zero =>
    intro n hn i acc r hi h9 h64 h0
    have hn' : n < 128 := by omega
    rw [vput_lt hn']
    have ht : (UInt8.ofNat n).toNat = n := toNat_ofNat8 (by omega)
    rw [List.cons_append, vgo, ht, if_neg (by omega), if_neg (by omega), if_neg (by omega), if_neg (by omega)]
    rfl
  | succ k ih =>
    intro n hn i acc r hi h9 h64 h0
    by_cases hlt : n < 128
    · rw [vput_lt hlt]
      have ht : (UInt8.ofNat n).toNat = n := toNat_ofNat8 (by omega)
      rw [List.cons_append, vgo, ht, if_neg (by omega), if_neg (by omega), if_neg (by omega), if_neg (by omega)]
      rfl
    · have hi8 : i ≤ 8 := by omega
      rw [vput_ge (by omega)]
      have ht : (UInt8.ofNat (n % 128 + 128)).toNat = n % 128 + 128 := toNat_ofNat8 (by omega)
      have hp : 2 ^ (64 - 7 * i) = 128 * 2 ^ (64 - 7 * (i + 1)) := by
        rw [show 64 - 7 * i = 7 + (64 - 7 * (i + 1)) by omega, Nat.pow_add]
      have h64' : n / 128 < 2 ^ (64 - 7 * (i + 1)) := by omega
      have h9' : i + 1 = 9 → n / 128 < 2 := by
        intro h
        obtain rfl : i = 8 := by omega
        have : 2 ^ (64 - 7 * (8 + 1)) = 2 := by decide
        omega
      rw [List.cons_append, vgo, ht, if_neg (by omega), if_neg (by omega), if_pos (by omega), ih (n / 128) (by rw [Nat.pow_succ] at hn; omega) (i + 1) _ r (by omega) h9' h64' (by omega)]
      have e1 : (n % 128 + 128) % 128 = n % 128 := by omega
      have e2 : acc + n % 128 * 128 ^ i + n / 128 * 128 ^ (i + 1) = acc + n * 128 ^ i := by
        rw [Nat.pow_succ, Nat.add_assoc, Nat.mul_comm (128 ^ i) 128, ← Nat.mul_assoc, ← Nat.add_mul]
        congr 2
        omega
      rw [e1, e2, List.length_cons]
      congr 2
      omega
theorem vgetR_vput (n : Nat) (hn : n < WW) (r : List UInt8) : vgetR (vput n ++ r) = (n, (vput n).length, 0) := by
  rw [vgetR, vgo_vput 9 n (by have : (128 : Nat) ^ (9 + 1) = 1180591620717411303424 := by decide
                              have := ofW hn
                              omega) 0 0 r (by omega) (by omega) hn (by omega)]
  simp

theorem readR_mid (pre x : List UInt8) (g : List UInt8 → Nat × Nat × Nat) (a b : Nat) (h : g x = (a, b, 0)) : readR (pre ++ x) (pre.length : Int) g = (a, pre.length + b, 0) := by
  rw [readR, if_neg (by rw [List.length_append]; omega), Int.toNat_natCast, List.drop_left, h]
  rfl

theorem le_wput (n : Nat) (hn : n < WW) : le (wput n) = n := by
  have hb : ∀ i, (UInt8.ofNat (n / 2 ^ (8 * i) % 256)).toNat = n / 2 ^ (8 * i) % 256 := fun i => toNat_ofNat8 (Nat.mod_lt _ (by decide))
  have hr : List.range 8 = [0, 1, 2, 3, 4, 5, 6, 7] := rfl
  simp only [wput, hr, List.map_cons, List.map_nil, le, hb]
  have hW : WW = 18446744073709551616 := rfl
  rw [hW] at hn
  omega
theorem wgetR_wput (n : Nat) (hn : n < WW) (r : List UInt8) : wgetR (wput n ++ r) = (n, 8, 0) := by
  rw [wgetR, if_neg (by rw [List.length_append, wput_len]; omega), List.take_left' (wput_len n), le_wput n hn]

theorem headR_put (pre body : List UInt8) (way n size : Nat) (most : Int) (hw : way ≤ 3) (hn1 : 1 ≤ n) (hn2 : n ≤ 4096) (hm : (n : Int) ≤ most) (hs : size ≤ 16 * n + 1000) (hb : size + 8 ≤ body.length) :
    headR (pre ++ (headBytes way n size ++ body)) (pre.length : Int) most = ⟨way, n, size, pre.length + (headBytes way n size).length, 0⟩ := by
  have hlen : (pre ++ (headBytes way n size ++ body)).length = pre.length + ((headBytes way n size).length + body.length) := by simp
  have hhl : (headBytes way n size).length = 1 + (vput n).length + (vput size).length := by simp [headBytes]; omega
  rw [headR, if_neg (by rw [hlen]; omega), if_neg (by rw [hlen, hhl]; omega), Int.toNat_natCast]
  have hget : (pre ++ (headBytes way n size ++ body)).getD pre.length 0 = UInt8.ofNat way := by simp [headBytes]
  have hwn : (UInt8.ofNat way).toNat = way := toNat_ofNat8 (by omega)
  have e1 : pre ++ (headBytes way n size ++ body) = (pre ++ [UInt8.ofNat way]) ++ (vput n ++ (vput size ++ body)) := by simp [headBytes]
  have l1 : (pre ++ [UInt8.ofNat way]).length = pre.length + 1 := by simp
  have r1 : readR (pre ++ (headBytes way n size ++ body)) ((pre.length + 1 : Nat) : Int) vgetR = (n, pre.length + 1 + (vput n).length, 0) := by
    have := readR_mid (pre ++ [UInt8.ofNat way]) (vput n ++ (vput size ++ body)) vgetR n _ (vgetR_vput n (ltW (by omega)) _)
    rw [l1, ← e1] at this
    exact this
  have e2 : pre ++ (headBytes way n size ++ body) = (pre ++ [UInt8.ofNat way] ++ vput n) ++ (vput size ++ body) := by simp [headBytes]
  have l2 : (pre ++ [UInt8.ofNat way] ++ vput n).length = pre.length + 1 + (vput n).length := by simp; omega
  have r2 : readR (pre ++ (headBytes way n size ++ body)) ((pre.length + 1 + (vput n).length : Nat) : Int) vgetR = (size, pre.length + 1 + (vput n).length + (vput size).length, 0) := by
    have := readR_mid (pre ++ [UInt8.ofNat way] ++ vput n) (vput size ++ body) vgetR size _ (vgetR_vput size (ltW (by omega)) _)
    rw [l2, ← e2] at this
    exact this
  rw [headA, hget, hwn, if_neg (by omega), r1]
  dsimp only
  rw [if_neg (by simp), if_neg (by omega), if_neg (by omega), headB, r2]
  dsimp only
  rw [if_neg (by simp), if_neg (by omega), if_neg (by rw [hlen, hhl]; omega), hhl]
  congr 1
  omega

theorem headR_blk (pre post : List UInt8) (way n : Nat) (s : List UInt8) (sum : Nat) (most : Int) (hw : way ≤ 3) (hn1 : 1 ≤ n) (hn2 : n ≤ 4096) (hm : (n : Int) ≤ most) (hs : s.length ≤ 16 * n + 1000) :
    headR (pre ++ (blockB way n s sum ++ post)) (pre.length : Int) most = ⟨way, n, s.length, pre.length + (headBytes way n s.length).length, 0⟩ := by
  have hL : pre ++ (blockB way n s sum ++ post) = pre ++ (headBytes way n s.length ++ (s ++ (wput sum ++ post))) := by simp [blockB]
  rw [hL]
  exact headR_put pre (s ++ (wput sum ++ post)) way n s.length most hw hn1 hn2 hm hs (by simp)

/-- A block that is put is read again, wherever it stands. -/
theorem blkR_put (pre post : List UInt8) (way n : Nat) (s : List UInt8) (seed : Nat) (most : Int) (unl : Nat → Nat → List UInt8 → Option (List Int)) (ns : List Int)
    (hw : way ≤ 3) (hn1 : 1 ≤ n) (hn2 : n ≤ 4096) (hm : (n : Int) ≤ most) (hs : s.length ≤ 16 * n + 1000) (hu : unl way n s = some ns) :
    blkR (pre ++ (blockB way n s (sumN seed (plainB ns)) ++ post)) (pre.length : Int) seed most unl = .ok (way, ns, pre.length + (blockB way n s (sumN seed (plainB ns))).length) := by
  have hL : pre ++ (blockB way n s (sumN seed (plainB ns)) ++ post) = pre ++ (headBytes way n s.length ++ (s ++ (wput (sumN seed (plainB ns)) ++ post))) := by simp [blockB]
  have hH := headR_put pre (s ++ (wput (sumN seed (plainB ns)) ++ post)) way n s.length most hw hn1 hn2 hm hs (by simp)
  have hd : ((pre ++ (headBytes way n s.length ++ (s ++ (wput (sumN seed (plainB ns)) ++ post)))).drop (pre.length + (headBytes way n s.length).length)).take s.length = s := by
    rw [← List.append_assoc, ← List.length_append, List.drop_left, List.take_left]
  rw [hL, blkR, hH]
  dsimp only
  rw [if_neg (by simp), hd, hu]
  dsimp only
  have hr : readR (pre ++ (headBytes way n s.length ++ (s ++ (wput (sumN seed (plainB ns)) ++ post)))) ((pre.length + (headBytes way n s.length).length + s.length : Nat) : Int) wgetR
      = (sumN seed (plainB ns), pre.length + (headBytes way n s.length).length + s.length + 8, 0) := by
    have := readR_mid (pre ++ headBytes way n s.length ++ s) (wput (sumN seed (plainB ns)) ++ post) wgetR _ _ (wgetR_wput _ (sumN_lt _ _) _)
    rw [List.length_append, List.length_append] at this
    have e : pre ++ headBytes way n s.length ++ s ++ (wput (sumN seed (plainB ns)) ++ post) = pre ++ (headBytes way n s.length ++ (s ++ (wput (sumN seed (plainB ns)) ++ post))) := by simp
    rw [e] at this
    exact this
  unfold getRest
  dsimp only
  rw [hr]
  dsimp only
  rw [if_neg (by simp), if_neg (by simp)]
  have : pre.length + (headBytes way n s.length).length + s.length + 8 = pre.length + (blockB way n s (sumN seed (plainB ns))).length := by simp [blockB]; omega
  rw [this]
end Go.Proofs.Tryz
