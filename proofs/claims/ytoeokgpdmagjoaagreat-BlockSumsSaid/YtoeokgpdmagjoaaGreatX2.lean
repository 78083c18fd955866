import Derived.Test.YtoeokgpdmagjoaaGreatX1
import Derived.Test.YtoeokgpdmagjoaaGreatP11
/-
A plain block of which bytes are turned: what reads it tells the sum.
-/
namespace Go.Proofs.Tryz
open Go Go.RowKit Go.Proofs.VC
set_option linter.unusedVariables false

theorem wput_le {l : List UInt8} (h : l.length = 8) : wput (le l) = l := by
  have hlt : le l < WW := by
    have h1 := le_lt l
    have h4 : (256 : Nat) ^ 8 = WW := by decide
    rw [h, h4] at h1
    exact h1
  exact le_inj (by rw [wput_len, h]) (le_wput _ hlt)
theorem u64i_wrap {n : Nat} (h : n < WW) : u64i (IntKind.wrap .i64 (n : Int)) = n := by
  have h' : n < 18446744073709551616 := h
  simp only [u64i, IntKind.wrap, IntKind.bits, IntKind.signed]
  simp
  omega
theorem plainB_words : ∀ (n : Nat) (s : List UInt8), s.length = 8 * n → plainB (words s) = s
  | 0, s, h => by obtain rfl := List.length_eq_zero_iff.1 (show s.length = 0 by omega); rfl
  | n + 1, s, h => by
    have e1 : words s = IntKind.wrap .i64 ((le (s.take 8) : Nat) : Int) :: words (s.drop 8) := by
      simp only [words]
      rw [show s.length / 8 = (s.drop 8).length / 8 + 1 by rw [List.length_drop]; omega, List.range_succ_eq_map, List.map_cons, List.map_map]
      refine congr (congrArg List.cons (by simp)) ?_
      refine List.map_congr_left fun i _ => ?_
      simp only [Function.comp, List.drop_drop]
      rw [show 8 * (i + 1) = 8 + 8 * i by omega]
    have e2 : ∀ v l, plainB (v :: l) = wput (u64i v) ++ plainB l := fun v l => by simp [plainB]
    rw [e1, e2, u64i_wrap (le_take_lt s), wput_le (by rw [List.length_take]; omega), plainB_words n (s.drop 8) (by rw [List.length_drop]; omega), List.take_append_drop]

def unlP (way n : Nat) (s : List UInt8) : Option (List Int) := if n ≤ 4096 then unl0 0 n s else none
theorem blkR_plain (n seed : Nat) (most : Int) (d t post : List UInt8) (hn1 : 1 ≤ n) (hn2 : n ≤ 4096) (hm : (n : Int) ≤ most) (hd : d.length = 8 * n) (ht : t.length = 8) :
    blkR (headBytes 0 n (8 * n) ++ (d ++ (t ++ post))) 0 seed most unlP = if le t ≠ sumN seed d then .error 4 else .ok (0, words d, (headBytes 0 n (8 * n)).length + 8 * n + 8) := by
  have hH := headR_put [] (d ++ (t ++ post)) 0 n (8 * n) most (by decide) hn1 hn2 hm (by omega) (by simp; omega)
  rw [List.nil_append, List.length_nil, Nat.zero_add] at hH
  have hH' : headR (headBytes 0 n (8 * n) ++ (d ++ (t ++ post))) 0 most = ⟨0, n, 8 * n, (headBytes 0 n (8 * n)).length, 0⟩ := hH
  have hdd : ((headBytes 0 n (8 * n) ++ (d ++ (t ++ post))).drop (headBytes 0 n (8 * n)).length).take (8 * n) = d := by
    rw [List.drop_left, ← hd, List.take_left]
  rw [blkR, hH']
  dsimp only
  rw [if_neg (by simp), hdd]
  have hu : unlP 0 n d = some (words d) := by
    rw [unlP, if_pos hn2, unl0, unPlain, if_pos ⟨by omega, by rw [hd]; omega⟩]
  rw [hu]
  dsimp only
  have hr : readR (headBytes 0 n (8 * n) ++ (d ++ (t ++ post))) (((headBytes 0 n (8 * n)).length + 8 * n : Nat) : Int) wgetR = (le t, (headBytes 0 n (8 * n)).length + 8 * n + 8, 0) := by
    have hw : wgetR (t ++ post) = (le t, 8, 0) := by rw [wgetR, if_neg (by rw [List.length_append]; omega), List.take_left' ht]
    have := readR_mid (headBytes 0 n (8 * n) ++ d) (t ++ post) wgetR _ _ hw
    rw [List.length_append, hd, List.append_assoc] at this
    exact this
  unfold getRest
  dsimp only
  rw [hr]
  dsimp only
  rw [if_neg (by simp), plainB_words n d hd]
/-- A byte of the numbers, or of the sum, is turned. -/
theorem blkR_turned (n seed : Nat) (l : List Int) (q : Nat) (v : UInt8) (hl : l.length = n) (hn1 : 1 ≤ n) (hn3 : n ≤ 3) (hq : q < 8 * n + 8)
    (hv : (blockB 0 n (plainB l) (sumN seed (plainB l)))[(headBytes 0 n (8 * n)).length + q]? ≠ some v) :
    blkR ((blockB 0 n (plainB l) (sumN seed (plainB l))).set ((headBytes 0 n (8 * n)).length + q) v) 0 seed 100 unlP = .error 4 := by
  have hd : (plainB l).length = 8 * n := by rw [plainB_len, hl]
  have hB : blockB 0 n (plainB l) (sumN seed (plainB l)) = headBytes 0 n (8 * n) ++ (plainB l ++ wput (sumN seed (plainB l))) := by simp [blockB, hd]
  rw [hB] at hv ⊢
  rw [List.set_append_right _ _ (by omega), Nat.add_sub_cancel_left]
  rw [List.getElem?_append_right (by omega), Nat.add_sub_cancel_left] at hv
  by_cases h8 : q < 8 * n
  · have hqd : q < (plainB l).length := by omega
    rw [List.getElem?_append_left hqd, List.getElem?_eq_getElem hqd] at hv
    rw [List.set_append_left _ _ hqd]
    have := blkR_plain n seed 100 ((plainB l).set q v) (wput (sumN seed (plainB l))) [] hn1 (by omega) (by omega) (by rw [List.length_set, hd]) (wput_len _)
    rw [List.append_nil] at this
    rw [this, le_wput _ (sumN_lt _ _), if_pos]
    exact fun e => sumN_set hd hn3 hqd (fun e => hv (by rw [e])) e.symm
  · have hqs : q - (plainB l).length < (wput (sumN seed (plainB l))).length := by rw [wput_len]; omega
    rw [List.getElem?_append_right (by omega), List.getElem?_eq_getElem hqs] at hv
    rw [List.set_append_right _ _ (by omega)]
    have := blkR_plain n seed 100 (plainB l) ((wput (sumN seed (plainB l))).set (q - (plainB l).length) v) [] hn1 (by omega) (by omega) hd (by rw [List.length_set, wput_len])
    rw [List.append_nil] at this
    rw [this, if_pos]
    intro e
    have e2 := le_inj (a := (wput (sumN seed (plainB l))).set (q - (plainB l).length) v) (b := wput (sumN seed (plainB l))) (by rw [List.length_set]) (by rw [e, le_wput _ (sumN_lt _ _)])
    exact set_ne hqs (fun e => hv (by rw [e])) e2
theorem headR_turned (n seed : Nat) (l : List Int) (q : Nat) (v : UInt8) (hl : l.length = n) (hn1 : 1 ≤ n) (hn3 : n ≤ 3) :
    (headR ((blockB 0 n (plainB l) (sumN seed (plainB l))).set ((headBytes 0 n (8 * n)).length + q) v) 0 100).way = 0 := by
  have hd : (plainB l).length = 8 * n := by rw [plainB_len, hl]
  have hB : blockB 0 n (plainB l) (sumN seed (plainB l)) = headBytes 0 n (8 * n) ++ (plainB l ++ wput (sumN seed (plainB l))) := by simp [blockB, hd]
  rw [hB, List.set_append_right _ _ (by omega), Nat.add_sub_cancel_left]
  have hH := headR_put [] ((plainB l ++ wput (sumN seed (plainB l))).set q v) 0 n (8 * n) 100 (by decide) hn1 (by omega) (by omega) (by omega) (by rw [List.length_set, List.length_append, hd, wput_len]; omega)
  have hH' : headR (headBytes 0 n (8 * n) ++ ((plainB l ++ wput (sumN seed (plainB l))).set q v)) 0 100 = _ := hH
  rw [hH']
end Go.Proofs.Tryz
