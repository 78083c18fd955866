import Derived.Test.YtoeokgpdmagjoaaGreatP3
/-
The sum's tail, and the whole.
-/
namespace Go.Proofs.Tryz
open Go Go.RowKit Go.Proofs.VC
set_option linter.unusedVariables false
variable {M : List Nat} {w0 w : World} {L : List (Nat × Obj)}

theorem wgetR_at {l : List UInt8} {k : Nat} (h : k + 8 ≤ l.length) : readR l (k : Int) wgetR = (le ((l.drop k).take 8), k + 8, 0) := by
  have hw : wgetR (l.drop k) = (le ((l.drop k).take 8), 8, 0) := by rw [wgetR, if_neg (by rw [List.length_drop]; omega)]
  rw [readR, if_neg (by omega), Int.toNat_natCast, hw]
  rfl
theorem le_take_lt (l : List UInt8) : le (l.take 8) < WW := by
  have h := le_lt (l.take 8)
  have h2 : (l.take 8).length ≤ 8 := by simp; omega
  have h3 : 256 ^ (l.take 8).length ≤ 256 ^ 8 := Nat.pow_le_pow_right (by decide) h2
  have h4 : (256 : Nat) ^ 8 = WW := by decide
  omega
theorem roundN_lt (a b : Nat) : roundN a b < WW := modW _

theorem u64_byte (n : Nat) (h : n < 256) : U64 (n : Int) = (n : Int) := by rw [U64_nat, Nat.mod_eq_of_lt (by omega)]

theorem le4 (a b c d : Nat) (ha : a < 256) (hb : b < 256) (hc : c < 256) (hd : d < 256) :
    orI .u64 (orI .u64 (orI .u64 (a : Int) (shlI .u64 (b : Int) 8)) (shlI .u64 (c : Int) 16)) (shlI .u64 (d : Int) 24) = ((a + 256 * (b + 256 * (c + 256 * d)) : Nat) : Int) := by
  rw [show (8 : Int) = ((8 : Nat) : Int) from rfl, show (16 : Int) = ((16 : Nat) : Int) from rfl, show (24 : Int) = ((24 : Nat) : Int) from rfl]
  rw [shlI_u64 b 8 (by decide), shlI_u64 c 16 (by decide), shlI_u64 d 24 (by decide)]
  rw [Nat.mod_eq_of_lt (show b * 2 ^ 8 < 18446744073709551616 by omega), Nat.mod_eq_of_lt (show c * 2 ^ 16 < 18446744073709551616 by omega), Nat.mod_eq_of_lt (show d * 2 ^ 24 < 18446744073709551616 by omega)]
  rw [orI_u64 _ _ (by omega) (by omega), or_add _ _ _ (by omega), orI_u64 _ _ (by omega) (by omega), or_add _ _ _ (by omega), orI_u64 _ _ (by omega) (by omega), or_add _ _ _ (by omega)]
  congr 1
  omega

theorem four_of : ∀ l : List UInt8, 4 ≤ l.length → ∃ a b c d r, l = a :: b :: c :: d :: r
  | a :: b :: c :: d :: r, _ => ⟨a, b, c, d, r, rfl⟩
  | [], h => by simp at h
  | [_], h => by simp at h
  | [_, _], h => by simp at h
  | [_, _, _], h => by simp at h

theorem T_xxh_tail (h : Nat) (hh : h < WW) (l : List UInt8) (hl : l.length < 4611686018427387904) (w : World) : Calls prog n_xxh_tail #[.int .u64 (h : Int), .string (S l)] w fun e w' => e = .returned (.int .u64 (tail8 h l : Nat)) ∧ Fr [] w w' := by
  refine S_xxh_tail ?_
  unfold F_xxh_tail
  refine ⟨fun m x s w1 => ∃ (h1 : Nat) (l1 : List UInt8), x = (h1 : Int) ∧ s = S l1 ∧ h1 < WW ∧ m = l1.length ∧ l1.length ≤ l.length ∧ tail8 h1 l1 = tail8 h l ∧ St [] w w1 [],
    ⟨l.length, h, l, rfl, rfl, hh, rfl, Nat.le_refl _, rfl, St.start [] w⟩, ?_⟩
  rintro m x s w1 ⟨h1, l1, rfl, rfl, hh1, hm, hle, ht, H⟩
  subst hm
  rw [S_size]
  refine bif_i (fun hc => ?_) (fun hc => ?_)
  · have h8 : 8 ≤ l1.length := by have := of_decide_eq_true hc; omega
    have hr := wgetR_at (l := l1) (k := 0) h8
    refine Calls.st H (T_vint_GetWord l1 0 (by omega) w1) fun w2 H => ⟨_, _, _, rfl, ?_⟩
    rw [show ((0 : Nat) : Int) = 0 from rfl] at hr
    rw [hr]
    refine Calls.st H (T_xxh_Round 0 _ w2) fun w3 H => ⟨_, rfl, ?_⟩
    rw [xorI_u64 _ _ hh1 (roundN_lt _ _)]
    refine Calls.st H (T_bits_RotateLeft64 _ _ 27 rfl (by decide) (xor_lt' hh1 (roundN_lt _ _)) w3) fun w4 H => ⟨_, rfl, by decide, by omega, ?_⟩
    rw [show (11400714785074694791 : Int) = ((q1 : Nat) : Int) from rfl, show (9650029242287828579 : Int) = ((q4 : Nat) : Int) from rfl, U64_mul, U64_add, S_extract, List.take_of_length_le (Nat.le_refl _)]
    refine ⟨(l1.drop 8).length, by rw [List.length_drop]; omega, _, l1.drop 8, rfl, rfl, modW _, rfl, by rw [List.length_drop]; omega, ?_, H⟩
    rw [← ht, tail8.eq_1 h1 l1, dif_pos h8]
    rfl
  · have h8 : l1.length < 8 := by have := of_decide_eq_false hc; omega
    rw [tail8, dif_neg (by omega)] at ht
    intro J9 hJ
    have key : ∀ (h2 : Nat) (l2 : List UInt8) (w5 : World), h2 < WW → l2.length ≤ l1.length → tail1 h2 l2 = tail8 h l → St [] w w5 [] → J9 (h2 : Int) (S l2) w5 := by
      intro h2 l2 w5 hh2 hl2 ht2 H
      refine hJ _ _ _ (H.s2b l2 u_string u_S_uint8 u_uint8 fun b k w6 H => ?_)
      refine ⟨fun m x y w7 => ∃ (h3 i : Nat), x = (h3 : Int) ∧ y = (i : Int) ∧ h3 < WW ∧ m + i = l2.length ∧ tail1 h3 (l2.drop i) = tail8 h l ∧ St [] w w7 [(b, .cells (u8s l2 ++ List.replicate k (Value.int .u8 0)).toArray t_uint8 (l2.length + k, l2.length + k + 1))],
        ⟨l2.length, h2, 0, rfl, rfl, hh2, rfl, ht2, H⟩, ?_⟩
      rintro m x y w7 ⟨h3, i, rfl, rfl, hh3, hm, ht3, H⟩
      refine bif_i (fun hc => ?_) (fun hc => ?_)
      · have hi : i < l2.length := by have := of_decide_eq_true hc; omega
        have hcell : (u8s l2 ++ List.replicate k (Value.int .u8 0)).toArray[i]? = some (.int .u8 (l2[i].toNat : Int)) := by
          rw [List.getElem?_toArray, List.getElem?_append_left (by simpa using hi)]
          exact u8s_get (List.getElem?_eq_getElem hi)
        have hb := l2[i].toNat_lt
        refine ⟨by omega, by omega, OSome.i ⟨_, by rw [A0_add, Int.toNat_natCast, Nat.mul_one]; exact H.cell 0 rfl hcell, ?_⟩⟩
        rw [u64_byte _ hb, show (2870177450012600261 : Int) = ((q5 : Nat) : Int) from rfl, U64_mul, xorI_u64 _ _ hh3 (modW _)]
        refine Calls.st H (T_bits_RotateLeft64 _ _ 11 rfl (by decide) (xor_lt' hh3 (modW _)) w7) fun w8 H => ⟨_, rfl, ?_⟩
        rw [show (11400714785074694791 : Int) = ((q1 : Nat) : Int) from rfl, U64_mul]
        refine ⟨m - 1, by omega, _, i + 1, rfl, ?_, modW _, by omega, ?_, H⟩
        · rw [show (i : Int) + 1 = ((i + 1 : Nat) : Int) by omega, W64_nat (by omega)]
        · rw [← ht3, List.drop_eq_getElem_cons hi]; rfl
      · have hi : i = l2.length := by have := of_decide_eq_false hc; omega
        subst hi
        rw [List.drop_length] at ht3
        exact ⟨by rw [← ht3]; rfl, H.fr⟩
    refine bif_i (fun hc => ?_) (fun hc => ?_)
    · have h4 : 4 ≤ l1.length := by have := of_decide_eq_true hc; omega
      rw [tail4, if_pos h4] at ht
      refine H.drew fun w9 H => ?_
      obtain ⟨a, b, c, d, r, rfl⟩ := four_of l1 h4
      refine ⟨by decide, a, by rw [S_get]; rfl, by decide, b, by rw [S_get]; rfl, by decide, by decide, c, by rw [S_get]; rfl, by decide, by decide, d, by rw [S_get]; rfl, by decide, ?_⟩
      rw [u64_byte _ a.toNat_lt, u64_byte _ b.toNat_lt, u64_byte _ c.toNat_lt, u64_byte _ d.toNat_lt, le4 _ _ _ _ a.toNat_lt b.toNat_lt c.toNat_lt d.toNat_lt]
      have e4 : a.toNat + 256 * (b.toNat + 256 * (c.toNat + 256 * d.toNat)) = le ((a :: b :: c :: d :: r).take 4) := by simp [le]
      rw [e4, show (11400714785074694791 : Int) = ((q1 : Nat) : Int) from rfl, U64_mul, xorI_u64 _ _ hh1 (modW _)]
      refine Calls.st H (T_bits_RotateLeft64 _ _ 23 rfl (by decide) (xor_lt' hh1 (modW _)) w9) fun w10 H => ⟨_, rfl, by decide, by simp; omega, ?_⟩
      rw [show (14029467366897019727 : Int) = ((q2 : Nat) : Int) from rfl, show (1609587929392839161 : Int) = ((q3 : Nat) : Int) from rfl, U64_mul, U64_add, S_extract, List.take_of_length_le (Nat.le_refl _)]
      exact key _ _ _ (modW _) (by simp; omega) ht H
    · have h4 : l1.length < 4 := by have := of_decide_eq_false hc; omega
      rw [tail4, if_neg (by omega)] at ht
      exact key _ _ _ hh1 (Nat.le_refl _) ht H
end Go.Proofs.Tryz
