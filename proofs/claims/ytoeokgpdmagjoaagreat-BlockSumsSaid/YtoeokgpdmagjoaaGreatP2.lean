import Derived.Test.YtoeokgpdmagjoaaGreatP1
/-
Words of eight bytes, numbers of groups, sums.
-/
namespace Go.Proofs.Tryz
open Go Go.RowKit Go.Proofs.VC
set_option linter.unusedVariables false
variable {M : List Nat} {w0 w : World} {L : List (Nat × Obj)}

def wput (n : Nat) : List UInt8 := (List.range 8).map fun i => UInt8.ofNat (n / 2 ^ (8 * i) % 256)
@[simp] theorem wput_len (n : Nat) : (wput n).length = 8 := by simp [wput]

theorem fill_set (xs : List Value) (v z : Value) (k i : Nat) (hi : i = xs.length) : (xs ++ List.replicate (k + 1) z).toArray.setIfInBounds i v = (xs ++ [v] ++ List.replicate k z).toArray := by
  subst hi
  rw [List.setIfInBounds_toArray, List.set_append_right _ _ (Nat.le_refl _), Nat.sub_self, List.replicate_succ, List.set_cons_zero, List.append_assoc]
  rfl

theorem T_vint_Word (n : Nat) (hn : n < 18446744073709551616) (w : World) : Calls prog n_vint_Word #[.int .u64 n] w fun e w' => e = .returned (.string (S (wput n))) ∧ Fr [] w w' := by
  refine S_vint_Word ?_
  unfold F_vint_Word
  refine (St.start [] w).alloc fun w1 b3 H => ?_
  refine ⟨fun m x w2 => ∃ i : Nat, x = (i : Int) ∧ m + i = 8 ∧ St [] w w2 [(b3, .cells (u8s ((wput n).take i) ++ List.replicate m (Value.int .u8 0)).toArray t_A8_uint8 (0, 0))],
    ⟨8, 0, rfl, rfl, H⟩, ?_⟩
  rintro m x w2 ⟨i, rfl, hm, H⟩
  refine bif_i (fun h => ?_) (fun h => ?_)
  · have h' : i < 8 := by have := of_decide_eq_true h; omega
    obtain ⟨k, rfl⟩ : ∃ k, m = k + 1 := ⟨m - 1, by omega⟩
    have e1 : W64 ((8 : Int) * (i : Int)) = ((8 * i : Nat) : Int) := by
      rw [show (8 : Int) * (i : Int) = ((8 * i : Nat) : Int) by omega, W64_nat (by omega)]
    have e2 : W64 ((i : Int) + 1) = ((i + 1 : Nat) : Int) := by
      rw [show (i : Int) + 1 = ((i + 1 : Nat) : Int) by omega, W64_nat (by omega)]
    have hlen : ((u8s ((wput n).take i)).length) = i := by simp; omega
    rw [e1, e2, shrI_nat .u64 n (8 * i) (by show 8 * i ≤ 64; omega), U8_nat, A0_add, Int.toNat_natCast, Nat.mul_one]
    refine ⟨by omega, by omega, by omega, ?_⟩
    refine H.sto 0 rfl (by simp; omega) fun w3 H => ?_
    refine ⟨k, by omega, i + 1, rfl, by omega, ?_⟩
    rw [fill_set _ _ _ _ _ hlen.symm] at H
    have e3 : (wput n).take (i + 1) = (wput n).take i ++ [UInt8.ofNat (n / 2 ^ (8 * i) % 256)] := by
      rw [List.take_succ_eq_append_getElem (by simp; omega)]
      simp [wput]
    rw [e3, u8s_app]
    have e4 : u8s [UInt8.ofNat (n / 2 ^ (8 * i) % 256)] = [.int .u8 ((n / 2 ^ (8 * i) % 256 : Nat) : Int)] := by
      simp only [u8s, List.map_cons, List.map_nil, toNat_ofNat8 (Nat.mod_lt _ (by decide : 0 < 256))]
    rw [e4]
    exact H
  · have h' : i = 8 := by have := of_decide_eq_false h; omega
    subst h'
    obtain rfl : m = 0 := by omega
    have hs : Sl w2 (some (A0 b3)) (u8s (wput n)) := by
      have := H.sl 0 rfl
      rw [List.take_of_length_le (by simp)] at this
      simpa using this
    refine b2s (l := wput n) ?_ rfl ⟨rfl, H.fr⟩
    simpa [sA] using hs

/-! ### a word read -/
def le : List UInt8 → Nat
  | [] => 0
  | b :: l => b.toNat + 256 * le l
theorem le_app (a : List UInt8) (b : UInt8) : le (a ++ [b]) = le a + 256 ^ a.length * b.toNat := by
  induction a with
  | nil => simp [le]
  | cons x a ih =>
    simp only [List.cons_append, le, ih, List.length_cons, Nat.pow_succ]
    rw [Nat.mul_add, Nat.mul_comm (256 ^ a.length) 256, Nat.mul_assoc, Nat.add_assoc]
theorem le_lt (a : List UInt8) : le a < 256 ^ a.length := by
  induction a with
  | nil => simp [le]
  | cons x a ih =>
    simp only [le, List.length_cons, Nat.pow_succ]
    have := x.toNat_lt
    omega
theorem or_add (a b i : Nat) (h : a < 2 ^ i) : a ||| b * 2 ^ i = a + b * 2 ^ i := by
  have := Nat.two_pow_add_eq_or_of_lt h b
  rw [Nat.or_comm, Nat.mul_comm b, ← this, Nat.add_comm]

/-- What reads a word: the number, how many bytes, an error. -/
def tri (x : Nat × Nat × Nat) : Value := .tuple #[.int .u64 (x.1 : Int), .int .i64 (x.2.1 : Int), .int .i64 (x.2.2 : Int)]
def wgetR (l : List UInt8) : Nat × Nat × Nat := if l.length < 8 then (0, 0, 2) else (le (l.take 8), 8, 0)
theorem T_vint_reader_word (l : List UInt8) (hl : l.length < 9223372036854775808) (w : World) : Calls prog n_vint_reader_word #[.agg #[.string (S l)]] w fun e w' => e = .returned (tri (wgetR l)) ∧ Fr [] w w' := by
  refine S_vint_reader_word ?_
  unfold F_vint_reader_word
  refine (St.start [] w).alloc fun w1 b1 H => ?_
  refine ⟨_, H.cell 0 rfl rfl, ?_⟩
  rw [S_size]
  refine bif_i (fun h => ?_) (fun h => ?_)
  · have h' : l.length < 8 := by have := of_decide_eq_true h; omega
    exact ⟨by rw [wgetR, if_pos h']; rfl, H.fr⟩
  · have h' : 8 ≤ l.length := by have := of_decide_eq_false h; omega
    refine ⟨fun m x y w2 => ∃ i : Nat, x = (le (l.take i) : Nat) ∧ y = (i : Int) ∧ m + i = 8 ∧ St [] w w2 [(b1, .cells #[.string (S l)] t_vint_reader (0, 0))], ⟨8, 0, rfl, rfl, rfl, H⟩, ?_⟩
    rintro m x y w2 ⟨i, rfl, rfl, hm, H⟩
    refine bif_i (fun h => ?_) (fun h => ?_)
    · have hi : i < 8 := by have := of_decide_eq_true h; omega
      have hil : i < l.length := by omega
      have e1 : W64 ((8 : Int) * (i : Int)) = ((8 * i : Nat) : Int) := by
        rw [show (8 : Int) * (i : Int) = ((8 * i : Nat) : Int) by omega, W64_nat (by omega)]
      have e2 : W64 ((i : Int) + 1) = ((i + 1 : Nat) : Int) := by
        rw [show (i : Int) + 1 = ((i + 1 : Nat) : Int) by omega, W64_nat (by omega)]
      rw [e1, e2]
      refine ⟨_, H.cell 0 rfl rfl, by omega, l[i], ?_, by omega, m - 1, by omega, i + 1, ?_, rfl, by omega, H⟩
      · rw [S_get, Int.toNat_natCast]; exact List.getElem?_eq_getElem hil
      · have hb := l[i].toNat_lt
        have hlt := le_lt (l.take i)
        have hlen : (l.take i).length = i := by simp; omega
        rw [hlen] at hlt
        have hp : (256 : Nat) ^ i = 2 ^ (8 * i) := by rw [Nat.pow_mul]
        have hmax : 256 ^ (i + 1) ≤ 256 ^ 8 := Nat.pow_le_pow_right (by decide) (by omega)
        have hmul : l[i].toNat * 256 ^ i < 256 ^ (i + 1) := by
          rw [Nat.pow_succ, Nat.mul_comm (256 ^ i)]
          exact Nat.mul_lt_mul_of_pos_right hb (Nat.pow_pos (by decide))
        have h256 : (256 : Nat) ^ 8 = 18446744073709551616 := by decide
        have hlt' : 256 ^ i ≤ 256 ^ 8 := Nat.pow_le_pow_right (by decide) (by omega)
        rw [U64_nat, Nat.mod_eq_of_lt (show l[i].toNat < 18446744073709551616 by omega), shlI_u64 _ _ (by omega), ← hp, Nat.mod_eq_of_lt (by omega), orI_u64 _ _ (by omega) (by omega), hp,
          or_add _ _ _ (by rw [← hp]; exact hlt), ← hp]
        rw [List.take_succ_eq_append_getElem hil, le_app, hlen, Nat.mul_comm]
    · have hi : i = 8 := by have := of_decide_eq_false h; omega
      subst hi
      exact ⟨by rw [wgetR, if_neg (by omega)]; rfl, H.fr⟩

/-- A number that stands at a place. -/
def readR (l : List UInt8) (at_ : Int) (r : List UInt8 → Nat × Nat × Nat) : Nat × Nat × Nat :=
  if at_ < 0 ∨ (l.length : Int) < at_ then (0, 0, 1) else if (r (l.drop at_.toNat)).2.2 ≠ 0 then (0, 0, (r (l.drop at_.toNat)).2.2) else ((r (l.drop at_.toNat)).1, at_.toNat + (r (l.drop at_.toNat)).2.1, 0)
theorem T_vint_read (l : List UInt8) (at_ : Int) (g : Nat) (hg : fok g = true) (r : List UInt8 → Nat × Nat × Nat) (hl : l.length < 4611686018427387904)
    (hr : ∀ k w, (l.drop k).length < 4611686018427387904 → Calls prog g #[.agg #[.string (S (l.drop k))]] w fun e w' => e = .returned (tri (r (l.drop k))) ∧ Fr [] w w')
    (hs : ∀ k, (r (l.drop k)).2.1 < 4611686018427387904) (w : World) :
    Calls prog n_vint_read #[.string (S l), .int .i64 at_, .func (.func g) #[] #[]] w fun e w' => e = .returned (tri (readR l at_ r)) ∧ Fr [] w w' := by
  refine S_vint_read ?_
  unfold F_vint_read
  intro J3 hJ
  rw [S_size]
  refine bif_i (fun h => ?_) (fun h => bif_i (fun h2 => ?_) fun h2 => ?_)
  · have h' : at_ < 0 := of_decide_eq_true h
    exact ⟨by rw [readR, if_pos (.inl h')]; rfl, Fr.refl _ _⟩
  · have h' : at_ > (l.length : Int) := of_decide_eq_true h2
    exact ⟨by rw [readR, if_pos (.inr h')]; rfl, Fr.refl _ _⟩
  · have h0 := of_decide_eq_false h
    have h1 := of_decide_eq_false h2
    have hread : readR l at_ r = if (r (l.drop at_.toNat)).2.2 ≠ 0 then (0, 0, (r (l.drop at_.toNat)).2.2) else ((r (l.drop at_.toNat)).1, at_.toNat + (r (l.drop at_.toNat)).2.1, 0) := by
      rw [readR, if_neg (by omega)]
    refine hJ _ ⟨by omega, by rw [S_size]; omega, ?_⟩
    rw [hg]
    refine Calls.st (St.start [] w) (?_ : Calls prog g _ w fun e w' => e = .returned (tri (r (l.drop at_.toNat))) ∧ Fr [] w w') fun w2 H => ?_
    · have := hr at_.toNat w (by rw [List.length_drop]; omega)
      rw [S_size, S_extract, List.take_of_length_le (Nat.le_refl _)]
      exact this
    · refine ⟨_, _, _, rfl, bif_i (fun h3 => ⟨?_, H.fr⟩) fun h3 => ⟨?_, H.fr⟩⟩
      · have h3' : (r (l.drop at_.toNat)).2.2 ≠ 0 := by
          intro h; rw [h] at h3; simp at h3
        rw [hread, if_pos h3']; rfl
      · have h3' : (r (l.drop at_.toNat)).2.2 = 0 := by
          have : ¬ (((r (l.drop at_.toNat)).2.2 : Int) ≠ 0) := by simpa using h3
          omega
        have hsz := hs at_.toNat
        have e : W64 (at_ + ((r (l.drop at_.toNat)).2.1 : Int)) = ((at_.toNat + (r (l.drop at_.toNat)).2.1 : Nat) : Int) := by
          rw [show at_ + ((r (l.drop at_.toNat)).2.1 : Int) = ((at_.toNat + (r (l.drop at_.toNat)).2.1 : Nat) : Int) by omega, W64_nat (by omega)]
        rw [hread, if_neg (by simpa using h3'), e]; rfl

theorem wgetR_sz (l : List UInt8) : (wgetR l).2.1 < 4611686018427387904 := by unfold wgetR; split <;> simp
theorem T_vint_GetWord (l : List UInt8) (at_ : Int) (hl : l.length < 4611686018427387904) (w : World) :
    Calls prog n_vint_GetWord #[.string (S l), .int .i64 at_] w fun e w' => e = .returned (tri (readR l at_ wgetR)) ∧ Fr [] w w' := by
  refine S_vint_GetWord ?_
  unfold F_vint_GetWord
  refine Calls.st (St.start [] w) (T_vint_read l at_ n_vint_reader_word (by decide +kernel) wgetR hl (fun k w h => T_vint_reader_word _ (by omega) w) (fun k => wgetR_sz _) w) fun w2 H => ?_
  exact ⟨_, _, _, rfl, rfl, H.fr⟩

/-! ### groups -/
def vgo : List UInt8 → Nat → Nat → Nat × Nat × Nat
  | [], i, _ => if 10 ≤ i then (0, 0, 3) else (0, 0, 2)
  | c :: s, i, acc => if 10 ≤ i then (0, 0, 3) else if i = 9 ∧ 2 ≤ c.toNat % 128 then (0, 0, 3) else
      if 128 ≤ c.toNat then vgo s (i + 1) (acc + c.toNat % 128 * 128 ^ i) else if c.toNat = 0 ∧ 0 < i then (0, 0, 3) else (acc + c.toNat * 128 ^ i, i + 1, 0)
def vgetR (l : List UInt8) : Nat × Nat × Nat := vgo l 0 0
theorem vgo_sz : ∀ (l : List UInt8) (i acc : Nat), (vgo l i acc).2.1 ≤ 10
  | [], i, acc => by unfold vgo; split <;> simp
  | c :: s, i, acc => by
    unfold vgo
    split
    · simp
    · split
      · simp
      · split
        · exact vgo_sz s _ _
        · split
          · simp
          · simp; omega
theorem and127 (n : Nat) (h : n < 256) : n &&& 127 = n % 128 := by
  have : ∀ m : Fin 256, (m.val &&& 127) = m.val % 128 := by decide +kernel
  exact this ⟨n, h⟩
theorem bitLen127 (n : Nat) (h : n < 128) : Lib.bitLen n ≤ 7 ∧ (Lib.bitLen n ≤ 1 ↔ n < 2) := by
  have : ∀ m : Fin 128, Lib.bitLen m.val ≤ 7 ∧ (Lib.bitLen m.val ≤ 1 ↔ m.val < 2) := by decide +kernel
  exact this ⟨n, h⟩

theorem T_vint_reader_vint (l : List UInt8) (hl : l.length < 4611686018427387904) (w : World) : Calls prog n_vint_reader_vint #[.agg #[.string (S l)]] w fun e w' => e = .returned (tri (vgetR l)) ∧ Fr [] w w' := by
  refine S_vint_reader_vint ?_
  unfold F_vint_reader_vint
  refine (St.start [] w).alloc fun w1 b1 H => ?_
  refine ⟨_, H.cell 0 rfl rfl, ?_⟩
  refine ⟨fun m x y w2 => ∃ i acc : Nat, x = (acc : Int) ∧ y = (i : Int) ∧ m + i = 10 ∧ i ≤ l.length ∧ acc < 128 ^ i ∧ vgo (l.drop i) i acc = vgetR l ∧ St [] w w2 [(b1, .cells #[.string (S l)] t_vint_reader (0, 0))],
    ⟨10, 0, 0, rfl, rfl, rfl, Nat.zero_le _, by decide, rfl, H⟩, ?_⟩
  rintro m x y w2 ⟨i, acc, rfl, rfl, hm, hil, hacc, hgo, H⟩
  rw [S_size]
  refine bif_i (fun h => ?_) (fun h => ?_)
  · have h1 := of_decide_eq_true h
    have hi : i < 10 := by split at h1 <;> omega
    have hil' : i < l.length := by split at h1 <;> omega
    have e1 : W64 ((7 : Int) * (i : Int)) = ((7 * i : Nat) : Int) := by
      rw [show (7 : Int) * (i : Int) = ((7 * i : Nat) : Int) by omega, W64_nat (by omega)]
    have e2 : W64 ((i : Int) + 1) = ((i + 1 : Nat) : Int) := by
      rw [show (i : Int) + 1 = ((i + 1 : Nat) : Int) by omega, W64_nat (by omega)]
    have e3 : W64 ((64 : Int) - ((7 * i : Nat) : Int)) = ((64 - 7 * i : Nat) : Int) := by
      rw [show (64 : Int) - ((7 * i : Nat) : Int) = ((64 - 7 * i : Nat) : Int) by omega, W64_nat (by omega)]
    have hb := l[i].toNat_lt
    have hb2 := bitLen127 (l[i].toNat % 128) (Nat.mod_lt _ (by decide))
    rw [e1, e2, e3]
    refine ⟨_, H.cell 0 rfl rfl, by omega, l[i], ?_, ?_⟩
    · rw [S_get, Int.toNat_natCast]; exact List.getElem?_eq_getElem hil'
    rw [show (127 : Int) = ((127 : Nat) : Int) from rfl, andI_u8 _ _ hb (by decide), and127 _ hb]
    refine Calls.st H ((bits_Len8 _ w2 (by omega) (by omega)).mono (fun e w' hh => ⟨hh.1, hh.2 ▸ Fr.refl _ _⟩)) fun w3 H => ?_
    refine ⟨_, rfl, ?_⟩
    rw [Int.toNat_natCast]
    have hdrop : l.drop i = l[i] :: l.drop (i + 1) := List.drop_eq_getElem_cons hil'
    rw [hdrop, vgo, if_neg (by omega)] at hgo
    refine bif_i (fun h3 => ?_) fun h3 => ?_
    · have h3' := of_decide_eq_true h3
      rw [if_pos (by omega)] at hgo
      exact ⟨by rw [← hgo]; rfl, H.fr⟩
    · have h3' := of_decide_eq_false h3
      rw [if_neg (by omega)] at hgo
      have hpow : (128 : Nat) ^ i = 2 ^ (7 * i) := by rw [Nat.pow_mul]
      have hmax : (128 : Nat) ^ i ≤ 128 ^ 9 := Nat.pow_le_pow_right (by decide) (by omega)
      have h9 : (128 : Nat) ^ 9 = 9223372036854775808 := by decide
      have hmul : l[i].toNat % 128 * 128 ^ i < 18446744073709551616 := by
        by_cases h9i : i = 9
        · subst h9i
          have : l[9].toNat % 128 ≤ 1 := by omega
          have := Nat.mul_le_mul_right (128 ^ 9) this
          omega
        · have : (128 : Nat) ^ i ≤ 128 ^ 8 := Nat.pow_le_pow_right (by decide) (by omega)
          have h8 : (128 : Nat) ^ 8 = 72057594037927936 := by decide
          have h7 : l[i].toNat % 128 ≤ 127 := by omega
          have := Nat.mul_le_mul h7 this
          omega
      have hnew : l[i].toNat % 128 * 128 ^ i ≤ 127 * 128 ^ i := Nat.mul_le_mul_right _ (by omega)
      have hor : orI .u64 (acc : Int) (shlI .u64 (U64 ((l[i].toNat % 128 : Nat) : Int)) ((7 * i : Nat) : Int)) = ((acc + l[i].toNat % 128 * 128 ^ i : Nat) : Int) := by
        rw [U64_nat, Nat.mod_eq_of_lt (show l[i].toNat % 128 < 18446744073709551616 by omega), shlI_u64 _ _ (by omega), ← hpow, Nat.mod_eq_of_lt hmul, orI_u64 _ _ (by omega) hmul, hpow,
          or_add _ _ _ (by rw [← hpow]; exact hacc)]
      have hacc' : acc + l[i].toNat % 128 * 128 ^ i < 128 ^ (i + 1) := by
        rw [Nat.pow_succ]; omega
      refine ⟨by omega, ?_⟩
      rw [hor]
      refine bif_i (fun h4 => ?_) fun h4 => ?_
      · have h4' := of_decide_eq_true h4
        rw [if_pos (by omega)] at hgo
        exact ⟨m - 1, by omega, i + 1, _, rfl, rfl, by omega, by omega, hacc', hgo, H⟩
      · have h4' := of_decide_eq_false h4
        rw [if_neg (by omega)] at hgo
        have hmod : l[i].toNat % 128 = l[i].toNat := by omega
        refine bif_i (fun h5 => bif_i (fun h6 => ?_) fun h6 => ?_) fun h5 => ?_
        · have h5' : l[i].toNat = 0 := by simpa using h5
          have h6' := of_decide_eq_true h6
          rw [if_pos ⟨h5', by omega⟩] at hgo
          exact ⟨by rw [← hgo]; rfl, H.fr⟩
        · have h6' := of_decide_eq_false h6
          rw [if_neg (by omega)] at hgo
          exact ⟨by rw [← hgo, hmod]; rfl, H.fr⟩
        · have h5' : l[i].toNat ≠ 0 := by
            intro h; rw [h] at h5; simp at h5
          rw [if_neg (by omega)] at hgo
          exact ⟨by rw [← hgo, hmod]; rfl, H.fr⟩
  · have h1 := of_decide_eq_false h
    refine ⟨_, H.cell 0 rfl rfl, ?_⟩
    rw [S_size]
    refine bif_i (fun h2 => ?_) fun h2 => ?_
    · have h2' := of_decide_eq_true h2
      have hi : i = 10 := by split at h1 <;> omega
      subst hi
      have : vgo (l.drop 10) 10 acc = (0, 0, 3) := by
        cases hd : l.drop 10 with
        | nil => rfl
        | cons c s => simp [vgo]
      exact ⟨by rw [← hgo, this]; rfl, H.fr⟩
    · have h2' := of_decide_eq_false h2
      have hi : i = l.length := by split at h1 <;> omega
      subst hi
      have : vgo (l.drop l.length) l.length acc = (0, 0, 2) := by
        rw [List.drop_length, vgo, if_neg (by omega)]
      exact ⟨by rw [← hgo, this]; rfl, H.fr⟩

theorem T_vint_Get (l : List UInt8) (at_ : Int) (hl : l.length < 4611686018427387904) (w : World) :
    Calls prog n_vint_Get #[.string (S l), .int .i64 at_] w fun e w' => e = .returned (tri (readR l at_ vgetR)) ∧ Fr [] w w' := by
  refine S_vint_Get ?_
  unfold F_vint_Get
  refine Calls.st (St.start [] w) (T_vint_read l at_ n_vint_reader_vint (by decide +kernel) vgetR hl (fun k w h => T_vint_reader_vint _ h w) (fun k => Nat.lt_of_le_of_lt (vgo_sz _ _ _) (by decide)) w) fun w2 H => ?_
  exact ⟨_, _, _, rfl, rfl, H.fr⟩
end Go.Proofs.Tryz
