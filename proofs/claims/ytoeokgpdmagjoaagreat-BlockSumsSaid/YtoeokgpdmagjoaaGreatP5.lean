import Derived.Test.YtoeokgpdmagjoaaGreatP4
/-
Sums of long strings.
-/
namespace Go.Proofs.Tryz
open Go Go.RowKit Go.Proofs.VC
set_option linter.unusedVariables false
variable {M : List Nat} {w0 w : World} {L : List (Nat × Obj)}

def lanesV (a b c d : Nat) : Value := .agg #[.int .u64 (a : Int), .int .u64 (b : Int), .int .u64 (c : Int), .int .u64 (d : Int)]

theorem T_xxh_begun (s : Nat) (hs : s < WW) (w : World) : Calls prog n_xxh_begun #[.int .u64 (s : Int)] w fun e w' => e = .returned (lanesV (((s + q1) % WW + q2) % WW) ((s + q2) % WW) s ((s + (WW - q1)) % WW)) ∧ Fr [] w w' := by
  refine S_xxh_begun ?_
  unfold F_xxh_begun
  refine (St.start [] w).alloc fun w1 b1 H => ?_
  have e1 : U64 ((s : Int) - (11400714785074694791 : Int)) = (((s + (WW - q1)) % WW : Nat) : Int) := by
    rw [show U64 ((s : Int) - (11400714785074694791 : Int)) = _ from wrap_u64 _]
    have e0 : (s + (WW - q1)) % WW = (s + 7046029288634856825) % 18446744073709551616 := rfl
    rw [e0]; omega
  rw [e1, show (11400714785074694791 : Int) = ((q1 : Nat) : Int) from rfl, show (14029467366897019727 : Int) = ((q2 : Nat) : Int) from rfl, U64_add, U64_add, U64_add]
  simp only [A0_add]
  refine H.sto 0 rfl (by simp) fun w2 H => ?_
  refine H.sto 0 rfl (by simp) fun w3 H => ?_
  refine H.sto 0 rfl (by simp) fun w4 H => ?_
  refine H.sto 0 rfl (by simp) fun w5 H => ?_
  refine ⟨_, _, _, _, ⟨?_, ?_, ?_, ?_, trivial⟩, rfl, H.fr⟩
  all_goals simp only [A0_add]
  · exact H.cell 0 rfl rfl
  · exact H.cell 0 rfl rfl
  · exact H.cell 0 rfl rfl
  · exact H.cell 0 rfl rfl

def stp (l : List UInt8) (i x : Nat) : Nat := roundN x (le ((l.drop (8 * i)).take 8))

theorem T_xxh_four_step (a b c d : Nat) (l : List UInt8) (h32 : 32 ≤ l.length) (hl : l.length < 4611686018427387904) (w : World) :
    Calls prog n_xxh_four_step #[lanesV a b c d, .string (S l)] w fun e w' => e = .returned (lanesV (stp l 0 a) (stp l 1 b) (stp l 2 c) (stp l 3 d)) ∧ Fr [] w w' := by
  refine S_xxh_four_step ?_
  unfold F_xxh_four_step
  refine (St.start [] w).alloc fun w1 b2 H => ?_
  refine H.alloc fun w2 b4 H => ?_
  refine ⟨fun m x w3 => ∃ (i va vb vc vd : Nat), x = (i : Int) ∧ m + i = 4 ∧ va = (if 0 < i then stp l 0 a else a) ∧ vb = (if 1 < i then stp l 1 b else b) ∧ vc = (if 2 < i then stp l 2 c else c) ∧ vd = (if 3 < i then stp l 3 d else d) ∧
      St [] w w3 [(b4, .cells #[.int .u64 0, .int .u64 0, .int .u64 0, .int .u64 0] t_xxh_four (0, 0)), (b2, .cells #[.int .u64 (va : Int), .int .u64 (vb : Int), .int .u64 (vc : Int), .int .u64 (vd : Int)] t_xxh_four (0, 0))],
    ⟨4, 0, a, b, c, d, rfl, rfl, by simp, by simp, by simp, by simp, H⟩, ?_⟩
  rintro m x w3 ⟨i, va, vb, vc, vd, rfl, hm, ha, hb, hc, hd, H⟩
  refine bif_i (fun hc1 => ?_) (fun hc1 => ?_)
  · have hi : i < 4 := by have := of_decide_eq_true hc1; omega
    have e1 : W64 ((i : Int) * 8) = ((8 * i : Nat) : Int) := by rw [show (i : Int) * 8 = ((8 * i : Nat) : Int) by omega, W64_nat (by omega)]
    have e2 : W64 ((i : Int) + 1) = ((i + 1 : Nat) : Int) := by rw [show (i : Int) + 1 = ((i + 1 : Nat) : Int) by omega, W64_nat (by omega)]
    have hr := wgetR_at (l := l) (k := 8 * i) (by omega)
    rw [e1, e2]
    refine Calls.st H (T_vint_GetWord l _ (by omega) w3) fun w4 H => ⟨_, _, _, rfl, by omega, by omega, ?_⟩
    rw [hr, A0_add, Int.toNat_natCast, Nat.mul_one]
    rcases (by omega : i = 0 ∨ i = 1 ∨ i = 2 ∨ i = 3) with rfl | rfl | rfl | rfl
    · refine ⟨_, H.cell 1 rfl rfl, Calls.st H (T_xxh_Round _ _ w4) fun w5 H => ⟨_, rfl, by omega, by omega, ?_⟩⟩
      exact H.sto 1 rfl (by simp) fun w6 H => ⟨m - 1, by omega, _, _, _, _, _, rfl, by omega, by simp [ha, stp], by simp [hb], by simp [hc], by simp [hd], H⟩
    · refine ⟨_, H.cell 1 rfl rfl, Calls.st H (T_xxh_Round _ _ w4) fun w5 H => ⟨_, rfl, by omega, by omega, ?_⟩⟩
      exact H.sto 1 rfl (by simp) fun w6 H => ⟨m - 1, by omega, _, _, _, _, _, rfl, by omega, by simp [ha], by simp [hb, stp], by simp [hc], by simp [hd], H⟩
    · refine ⟨_, H.cell 1 rfl rfl, Calls.st H (T_xxh_Round _ _ w4) fun w5 H => ⟨_, rfl, by omega, by omega, ?_⟩⟩
      exact H.sto 1 rfl (by simp) fun w6 H => ⟨m - 1, by omega, _, _, _, _, _, rfl, by omega, by simp [ha], by simp [hb], by simp [hc, stp], by simp [hd], H⟩
    · refine ⟨_, H.cell 1 rfl rfl, Calls.st H (T_xxh_Round _ _ w4) fun w5 H => ⟨_, rfl, by omega, by omega, ?_⟩⟩
      exact H.sto 1 rfl (by simp) fun w6 H => ⟨m - 1, by omega, _, _, _, _, _, rfl, by omega, by simp [ha], by simp [hb], by simp [hc], by simp [hd, stp], H⟩
  · have hi : i = 4 := by have := of_decide_eq_false hc1; omega
    subst hi
    simp at ha hb hc hd
    subst ha hb hc hd
    refine ⟨_, _, _, _, ⟨by rw [A0_add]; exact H.cell 1 rfl rfl, by rw [A0_add]; exact H.cell 1 rfl rfl, by rw [A0_add]; exact H.cell 1 rfl rfl, by rw [A0_add]; exact H.cell 1 rfl rfl, trivial⟩, ?_⟩
    simp only [A0_add]
    refine H.sto 0 rfl (by simp) fun w5 H => ?_
    refine H.sto 0 rfl (by simp) fun w5 H => ?_
    refine H.sto 0 rfl (by simp) fun w5 H => ?_
    refine H.sto 0 rfl (by simp) fun w5 H => ?_
    exact ⟨_, _, _, _, ⟨by rw [A0_add]; exact H.cell 0 rfl rfl, by rw [A0_add]; exact H.cell 0 rfl rfl, by rw [A0_add]; exact H.cell 0 rfl rfl, by rw [A0_add]; exact H.cell 0 rfl rfl, trivial⟩, rfl, H.fr⟩

def mergeN (h x : Nat) : Nat := ((h ^^^ roundN 0 x) * q1 % WW + q4) % WW
def joinN (a b c d : Nat) : Nat := mergeN (mergeN (mergeN (mergeN ((((rotl a 1 + rotl b 7) % WW + rotl c 12) % WW + rotl d 18) % WW) a) b) c) d

theorem T_xxh_four_joined (a b c d : Nat) (ha : a < WW) (hb : b < WW) (hc : c < WW) (hd : d < WW) (w : World) : Calls prog n_xxh_four_joined #[lanesV a b c d] w fun e w' => e = .returned (.int .u64 (joinN a b c d : Nat)) ∧ Fr [] w w' := by
  refine S_xxh_four_joined ?_
  unfold F_xxh_four_joined
  refine (St.start [] w).alloc fun w1 b1 H => ?_
  have r0 : (0 + rotl a 1) % WW = rotl a 1 := by rw [Nat.zero_add]; exact Nat.mod_eq_of_lt (rotl_lt _ ha)
  refine ⟨fun m x y w2 => ∃ i g : Nat, x = (g : Int) ∧ g = (if i = 0 then 0 else if i = 1 then rotl a 1 else if i = 2 then (rotl a 1 + rotl b 7) % WW else if i = 3 then ((rotl a 1 + rotl b 7) % WW + rotl c 12) % WW
      else (((rotl a 1 + rotl b 7) % WW + rotl c 12) % WW + rotl d 18) % WW) ∧ y = (i : Int) ∧ m + i = 4 ∧
      St [] w w2 [(b1, .cells #[.int .u64 (a : Int), .int .u64 (b : Int), .int .u64 (c : Int), .int .u64 (d : Int)] t_xxh_four (0, 0))], ⟨4, 0, 0, rfl, by simp, rfl, rfl, H⟩, ?_⟩
  rintro m x y w2 ⟨i, g, rfl, hg, rfl, hm, H⟩
  refine bif_i (fun hc1 => ?_) (fun hc1 => ?_)
  · have hi : i < 4 := by have := of_decide_eq_true hc1; omega
    have e2 : W64 ((i : Int) + 1) = ((i + 1 : Nat) : Int) := by rw [show (i : Int) + 1 = ((i + 1 : Nat) : Int) by omega, W64_nat (by omega)]
    rw [e2, A0_add, Int.toNat_natCast, Nat.mul_one]
    rcases (by omega : i = 0 ∨ i = 1 ∨ i = 2 ∨ i = 3) with rfl | rfl | rfl | rfl
    · refine ⟨by omega, by omega, 1, rfl, by omega, by omega, _, H.cell 0 rfl rfl, ?_⟩
      exact Calls.st H (T_bits_RotateLeft64 a 1 1 rfl (by decide) ha w2) fun w3 H => ⟨_, rfl, m - 1, by omega, 1, _, U64_add _ _, by simp at hg; simp [hg, Nat.mod_eq_of_lt (rotl_lt 1 ha)], rfl, by omega, H⟩
    · refine ⟨by omega, by omega, 7, rfl, by omega, by omega, _, H.cell 0 rfl rfl, ?_⟩
      exact Calls.st H (T_bits_RotateLeft64 b 7 7 rfl (by decide) hb w2) fun w3 H => ⟨_, rfl, m - 1, by omega, 2, _, U64_add _ _, by simp at hg; simp [hg], rfl, by omega, H⟩
    · refine ⟨by omega, by omega, 12, rfl, by omega, by omega, _, H.cell 0 rfl rfl, ?_⟩
      exact Calls.st H (T_bits_RotateLeft64 c 12 12 rfl (by decide) hc w2) fun w3 H => ⟨_, rfl, m - 1, by omega, 3, _, U64_add _ _, by simp only [hg]; simp only [if_true, if_false, reduceCtorEq, Nat.reduceEqDiff], rfl, by omega, H⟩
    · refine ⟨by omega, by omega, 18, rfl, by omega, by omega, _, H.cell 0 rfl rfl, ?_⟩
      exact Calls.st H (T_bits_RotateLeft64 d 18 18 rfl (by decide) hd w2) fun w3 H => ⟨_, rfl, m - 1, by omega, 4, _, U64_add _ _, by simp only [hg]; simp only [if_true, if_false, reduceCtorEq, Nat.reduceEqDiff], rfl, by omega, H⟩
  · have hi : i = 4 := by have := of_decide_eq_false hc1; omega
    subst hi
    refine ⟨_, _, _, _, ⟨by rw [A0_add]; exact H.cell 0 rfl rfl, by rw [A0_add]; exact H.cell 0 rfl rfl, by rw [A0_add]; exact H.cell 0 rfl rfl, by rw [A0_add]; exact H.cell 0 rfl rfl, trivial⟩, ?_⟩
    have hg' : g = (((rotl a 1 + rotl b 7) % WW + rotl c 12) % WW + rotl d 18) % WW := by simp only [hg]; simp only [if_false, Nat.reduceEqDiff, reduceCtorEq]
    clear hg
    have h0 : (((rotl a 1 + rotl b 7) % WW + rotl c 12) % WW + rotl d 18) % WW < WW := modW _
    generalize hx : (((rotl a 1 + rotl b 7) % WW + rotl c 12) % WW + rotl d 18) % WW = h at h0 hg'
    subst hg'
    have hj : joinN a b c d = mergeN (mergeN (mergeN (mergeN g a) b) c) d := by rw [joinN, hx]
    have hj2 : joinN a b c d = [a, b, c, d].foldl mergeN g := by rw [hj, List.foldl_cons, List.foldl_cons, List.foldl_cons, List.foldl_cons, List.foldl_nil]
    refine ⟨fun m x y w4 => ∃ i : Nat, ∃ k : Nat, x = (k : Int) ∧ k < WW ∧ y = (i : Int) ∧ m + i = 4 ∧ k = ([a, b, c, d].take i).foldl mergeN g ∧ St [] w w4 [], ⟨4, 0, g, rfl, h0, rfl, rfl, rfl, H.tail⟩, ?_⟩
    rintro m x y w4 ⟨i, k, rfl, hk, rfl, hm, hki, H⟩
    refine bif_i (fun hc1 => ?_) (fun hc1 => ?_)
    · have hi : i < 4 := by have := of_decide_eq_true hc1; omega
      have hil : i < [a, b, c, d].length := hi
      have e2 : W64 ((i : Int) + 1) = ((i + 1 : Nat) : Int) := by rw [show (i : Int) + 1 = ((i + 1 : Nat) : Int) by omega, W64_nat (by omega)]
      rw [e2, Int.toNat_natCast, Nat.mul_one]
      have hget : ([.int .u64 (a : Int), .int .u64 (b : Int), .int .u64 (c : Int), .int .u64 (d : Int)] : List Value)[i]? = some (.int .u64 (([a, b, c, d][i] : Nat) : Int)) := by
        have : ([.int .u64 (a : Int), .int .u64 (b : Int), .int .u64 (c : Int), .int .u64 (d : Int)] : List Value) = [a, b, c, d].map fun n => .int .u64 (n : Int) := rfl
        rw [this, List.getElem?_map, List.getElem?_eq_getElem hil]; rfl
      refine ⟨by omega, by omega, _, hget, ?_⟩
      refine Calls.st H (T_xxh_Round 0 _ w4) fun w6 H => ⟨_, rfl, m - 1, by omega, i + 1, mergeN k [a, b, c, d][i], ?_, modW _, rfl, by omega, ?_, H⟩
      · rw [xorI_u64 _ _ hk (roundN_lt _ _), show (11400714785074694791 : Int) = ((q1 : Nat) : Int) from rfl, show (9650029242287828579 : Int) = ((q4 : Nat) : Int) from rfl, U64_mul, U64_add, mergeN]
      · rw [List.take_succ_eq_append_getElem hil, List.foldl_append, ← hki, List.foldl_cons, List.foldl_nil]
    · have hi : i = 4 := by have := of_decide_eq_false hc1; omega
      subst hi
      rw [List.take_of_length_le (by simp)] at hki
      exact ⟨by rw [hj2, hki], H.fr⟩
end Go.Proofs.Tryz
