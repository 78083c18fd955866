import Derived.Test.YtoeokgpdmagjoaaGreatB2
import Derived.Test.YtoeokgpdmagjoaaGreatP1
/-
Numbers by numbers.
-/
namespace Go.Proofs.Tryz
open Go Go.RowKit Go.Proofs.VC
set_option linter.unusedVariables false
variable {M : List Nat} {w0 w : World} {L : List En}

theorem wrapId {n : Int} (h1 : -9223372036854775808 ≤ n) (h2 : n < 9223372036854775808) : IntKind.wrap .i64 n = n := wrap_i64 n h1 h2

def num1 (x : Nat) : Int :=
  if x / 1024 % 6 = 0 then ((x % 1024 % 3 : Nat) : Int) else if x / 1024 % 6 = 1 then -((x % 1024 : Nat) : Int)
  else if x / 1024 % 6 = 2 then shlI .i64 ((x % 1024 : Nat) : Int) ((x % 53 : Nat) : Int) else if x / 1024 % 6 = 3 then shlI .i64 (-((x % 1024 : Nat) : Int)) ((x % 54 : Nat) : Int) else ((x % 1024 : Nat) : Int)
def numbers (ns : List Nat) : List Int := (ns.take 60).map num1
theorem num1_I64 (x : Nat) : -9223372036854775808 ≤ num1 x ∧ num1 x < 9223372036854775808 := by
  unfold num1
  split
  · omega
  · split
    · omega
    · split
      · exact wrapI64 _
      · split
        · exact wrapI64 _
        · omega
theorem numbers_len (ns : List Nat) : (numbers ns).length = min 60 ns.length := by simp [numbers]

theorem T_l11_Numbers (a : Option Addr) (n c : Nat) (ns : List Nat) (hns : ∀ x ∈ ns, x < 65536) (w : World) (hn : n = ns.length) (hs : Sl w a (u16s ns)) : Calls prog n_l11_Numbers #[.slice a n c] w
    fun e w' => ∃ a' c', e = .returned (.slice a' (numbers ns).length c') ∧ Ow [] w w' [] t_int64 1 a' (numbers ns).length c' (i64s (numbers ns)) ∧ Fr [] w w' := by
  subst hn
  refine S_l11_Numbers ?_
  unfold F_l11_Numbers
  refine ⟨fun m a' n' c' x w1 => ∃ i : Nat, x = (i : Int) ∧ m + i = min 60 ns.length ∧ n' = i ∧ Sx [] w w1 [.ow t_int64 1 a' n' c' (i64s ((ns.take i).map num1))], ⟨min 60 ns.length, 0, rfl, rfl, rfl, (Sx.start [] w).nilw _ _⟩, ?_⟩
  rintro m a' n' c' x w1 ⟨i, rfl, hm, rfl, H⟩
  intro J5 hJ
  have fin : min 60 ns.length ≤ n' → ∃ a'_1 c'_1, Ending.returned (.slice a' n' c') = .returned (.slice a'_1 (numbers ns).length c'_1) ∧ Ow [] w w1 [] t_int64 1 a'_1 (numbers ns).length c'_1 (i64s (numbers ns)) ∧ Fr [] w w1 := by
    intro h
    have hi : n' = min 60 ns.length := by omega
    have e1 : (ns.take n').map num1 = numbers ns := by
      rw [numbers, hi]
      congr 1
      by_cases h60 : 60 ≤ ns.length
      · rw [Nat.min_eq_left h60]
      · rw [Nat.min_eq_right (by omega), List.take_of_length_le (Nat.le_refl _), List.take_of_length_le (by omega)]
    have e2 : (numbers ns).length = n' := by rw [numbers_len, hi]
    rw [e1] at H
    rw [e2]
    exact ⟨a', c', rfl, H.out 0 rfl, H.fr⟩
  refine bif_i (fun h1 => bif_i (fun h2 => ?_) fun h2 => fin ?_) fun h1 => fin ?_
  · have h1' := of_decide_eq_true h1
    have h2' := of_decide_eq_true h2
    have hi : n' < ns.length := by omega
    have hv := hns ns[n'] (List.getElem_mem hi)
    have e0 : (ns.take (n' + 1)).map num1 = (ns.take n').map num1 ++ [num1 ns[n']] := by rw [List.take_succ_eq_append_getElem hi, List.map_append]; rfl
    obtain ⟨p, hp, hc⟩ := hs n' _ (u16s_get (List.getElem?_eq_getElem hi))
    have hcell : w1.cell? (p.add (Int.toNat (n' : Int) * 1)) = some (.int .u16 ((ns[n'] : Nat) : Int)) := by rw [Int.toNat_natCast, Nat.mul_one]; exact H.fr.cell0 hc
    have f1 : Int.tmod ((ns[n'] : Nat) : Int) 1024 = ((ns[n'] % 1024 : Nat) : Int) := tmod_nat ns[n'] 1024
    have f2 : Int.tmod (U16 (Int.tdiv ((ns[n'] : Nat) : Int) 1024)) 6 = ((ns[n'] / 1024 % 6 : Nat) : Int) := by
      rw [Int.tdiv_eq_ediv_of_nonneg (by omega), show ((ns[n'] : Nat) : Int) / 1024 = ((ns[n'] / 1024 : Nat) : Int) from rfl, show U16 ((ns[n'] / 1024 : Nat) : Int) = _ from wrap_u16 _,
        show ((ns[n'] / 1024 : Nat) : Int) % 65536 = ((ns[n'] / 1024 : Nat) : Int) by omega]
      exact tmod_nat _ 6
    have go : ∀ (v : Int) (w2 : World), w2 = w1 → v = num1 ns[n'] → ∀ w3 b, w3 = w2.alloc (.cells #[.int .i64 v] t_int64) → b = w2.heap.size → ∃ x xn xc, ∃ w' : World, (Builtin.append_ #[t_S_int64, t_S_int64] t_S_int64 #[.slice a' n' c', .slice (some (A0 b)) 1 1]).run prog w3 = .ok (.slice x xn xc) w' ∧
        ∃ m_3, m_3 < m ∧ ∃ i : Nat, W64 ((n' : Int) + 1) = (i : Int) ∧ m_3 + i = min 60 ns.length ∧ xn = i ∧ Sx [] w w' [.ow t_int64 1 x xn xc (i64s ((ns.take i).map num1))] := by
      rintro v w2 rfl rfl
      refine H.alloc fun w3 b _ H => ?_
      refine app_int64 H (j := 0) rfl (by omega) fun a2 c2 w4 H => ⟨m - 1, by omega, n' + 1, W64_succ (by omega), by omega, rfl, ?_⟩
      rw [e0]; exact H
    refine hJ w1 ⟨by omega, by omega, ⟨p, hp, _, hcell, by decide, by omega, by omega, ⟨p, hp, _, hcell, by decide, by decide, ?_⟩⟩⟩
    rw [f1, f2, W64_nat (show ns[n'] % 1024 < 9223372036854775808 by omega)]
    refine bif_i (fun h3 => ⟨by decide, go _ w1 rfl ?_⟩) fun h3 => bif_i (fun h4 => go _ w1 rfl ?_) fun h4 => bif_i (fun h5 => ?_) fun h5 => bif_i (fun h6 => ?_) fun h6 => go _ w1 rfl ?_
    · have h3' : ns[n'] / 1024 % 6 = 0 := by have := eq_of_beq h3; omega
      rw [num1, if_pos h3']; exact tmod_nat _ 3
    · have h3' : ns[n'] / 1024 % 6 ≠ 0 := by have := ne_of_beq_false h3; omega
      have h4' : ns[n'] / 1024 % 6 = 1 := by have := eq_of_beq h4; omega
      rw [num1, if_neg h3', if_pos h4', W64_id _ (by omega) (by omega)]; omega
    · have h3' : ns[n'] / 1024 % 6 ≠ 0 := by have := ne_of_beq_false h3; omega
      have h4' : ns[n'] / 1024 % 6 ≠ 1 := by have := ne_of_beq_false h4; omega
      have h5' : ns[n'] / 1024 % 6 = 2 := by have := eq_of_beq h5; omega
      refine ⟨by omega, by omega, ⟨p, hp, _, hcell, by decide, ?_⟩⟩
      rw [show Int.tmod ((ns[n'] : Nat) : Int) 53 = ((ns[n'] % 53 : Nat) : Int) from tmod_nat _ 53]
      exact ⟨by omega, go _ w1 rfl (by rw [num1, if_neg h3', if_neg h4', if_pos h5'])⟩
    · have h3' : ns[n'] / 1024 % 6 ≠ 0 := by have := ne_of_beq_false h3; omega
      have h4' : ns[n'] / 1024 % 6 ≠ 1 := by have := ne_of_beq_false h4; omega
      have h5' : ns[n'] / 1024 % 6 ≠ 2 := by have := ne_of_beq_false h5; omega
      have h6' : ns[n'] / 1024 % 6 = 3 := by have := eq_of_beq h6; omega
      refine ⟨by omega, by omega, ⟨p, hp, _, hcell, by decide, ?_⟩⟩
      rw [show Int.tmod ((ns[n'] : Nat) : Int) 54 = ((ns[n'] % 54 : Nat) : Int) from tmod_nat _ 54]
      refine ⟨by omega, go _ w1 rfl ?_⟩
      rw [num1, if_neg h3', if_neg h4', if_neg h5', if_pos h6', W64_id _ (by omega) (by omega), Int.zero_sub]
    · have h3' : ns[n'] / 1024 % 6 ≠ 0 := by have := ne_of_beq_false h3; omega
      have h4' : ns[n'] / 1024 % 6 ≠ 1 := by have := ne_of_beq_false h4; omega
      have h5' : ns[n'] / 1024 % 6 ≠ 2 := by have := ne_of_beq_false h5; omega
      have h6' : ns[n'] / 1024 % 6 ≠ 3 := by have := ne_of_beq_false h6; omega
      rw [num1, if_neg h3', if_neg h4', if_neg h5', if_neg h6']
  · have := of_decide_eq_false h2; omega
  · have := of_decide_eq_false h1; omega
end Go.Proofs.Tryz
