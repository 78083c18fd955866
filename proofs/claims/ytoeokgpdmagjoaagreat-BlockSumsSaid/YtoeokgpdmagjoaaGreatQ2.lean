import Derived.Test.YtoeokgpdmagjoaaGreatQ1
/-
Numbers as they are are read again; the document's example of a block.
-/
namespace Go.Proofs.Tryz
open Go Go.RowKit Go.Proofs.VC
set_option linter.unusedVariables false

def I64 (v : Int) : Prop := -9223372036854775808 ≤ v ∧ v < 9223372036854775808
theorem plainB_drop : ∀ (l : List Int) (i : Nat), (plainB l).drop (8 * i) = plainB (l.drop i)
  | l, 0 => by simp
  | [], i + 1 => by simp [plainB]
  | v :: l, i + 1 => by
    have e : plainB (v :: l) = wput (u64i v) ++ plainB l := by simp [plainB]
    rw [e, show 8 * (i + 1) = (wput (u64i v)).length + 8 * i by rw [wput_len]; omega, ← List.drop_drop, List.drop_left, plainB_drop l i]
    rfl
theorem wrap_u64i {v : Int} (h : I64 v) : IntKind.wrap .i64 ((u64i v : Nat) : Int) = v := by
  obtain ⟨h1, h2⟩ := h
  have e : ((u64i v : Nat) : Int) = v % 18446744073709551616 := by unfold u64i; omega
  rw [e]
  simp [IntKind.wrap, IntKind.bits, IntKind.signed]
  omega
theorem words_plainB {l : List Int} (h : ∀ v ∈ l, I64 v) : words (plainB l) = l := by
  apply List.ext_getElem
  · rw [words_len, plainB_len]; omega
  · intro i h1 h2
    have e : (plainB l).drop (8 * i) = wput (u64i l[i]) ++ plainB (l.drop (i + 1)) := by
      rw [plainB_drop, List.drop_eq_getElem_cons h2]
      simp only [plainB, List.flatMap_cons]
    simp only [words, List.getElem_map, List.getElem_range]
    rw [e, List.take_left' (wput_len _), le_wput _ (u64i_lt _), wrap_u64i (h _ (List.getElem_mem h2))]
theorem unPlain_plainB {l : List Int} (h : ∀ v ∈ l, I64 v) : unPlain (plainB l) (l.length : Int) = some l := by
  have e : (plainB l).length = 8 * l.length := plainB_len l
  rw [unPlain, if_pos ⟨by omega, by rw [e]; omega⟩, words_plainB h]

/-- The plain way, and no other. -/
def unl0 (way n : Nat) (s : List UInt8) : Option (List Int) := unPlain s (n : Int)
theorem unl0_len (N : Nat) (way n : Nat) (s : List UInt8) (ns : List Int) (h : unl0 way n s = some ns) : ns.length = n := by
  unfold unl0 unPlain at h
  split at h
  · rename_i h1
    cases h
    rw [words_len]; omega
  · cases h

theorem T38p (l : List UInt8) (at_ : Int) (seed : Nat) (hseed : seed < WW) (most : Int) (hl : l.length ≤ 140737488355328) (hH : (headR l at_ most).e = 0 → (headR l at_ most).way = 0) (w : World) :
    Calls prog n_block_Get #[.string (S l), .int .i64 at_, .int .u64 (seed : Int), .int .i64 most] w fun e w' => ∃ v, e = .returned v ∧ BlkV w' v (blkR l at_ seed most fun _ n s => if n ≤ 4096 then unl0 0 n s else none) ∧ Fr [] w w' := by
  refine T_block_Get l at_ seed hseed most _ hl w (fun h w1 => ?_) (fun way n s ns h => ?_)
  · have hn := (headR_ok h).2.2.2
    rw [if_pos hn, hH h]
    exact T_block_unloader_plain _ _ (by rw [List.length_take, List.length_drop]; omega) w1
  · split at h
    · have := unl0_len 0 0 n s ns h
      omega
    · cases h

theorem T_l21_awake (w : World) : Calls prog n_l21_awake #[] w fun e w' => e = .returned (.bool true) ∧ Fr [] w w' := by
  refine S_l21_awake ?_
  unfold F_l21_awake
  refine Calls.st (St.start [] w) (T_l21_Options 1 2 0 4 7 (by decide) (by decide) (by decide) (by decide) w) fun w1 H => ⟨_, _, _, _, _, rfl, ?_⟩
  refine H.alloc fun w2 b1 H => ?_
  simp only [A0_add]
  refine H.sto 0 rfl (by simp) fun w3 H => ?_
  refine H.sto 0 rfl (by simp) fun w3 H => ?_
  refine H.sto 0 rfl (by simp) fun w3 H => ?_
  refine H.sto 0 rfl (by simp) fun w3 H => ?_
  refine H.sto 0 rfl (by simp) fun w7 H => ?_
  refine ⟨_, _, _, _, _, ⟨by rw [A0_add]; exact H.cell 0 rfl rfl, by rw [A0_add]; exact H.cell 0 rfl rfl, by rw [A0_add]; exact H.cell 0 rfl rfl, by rw [A0_add]; exact H.cell 0 rfl rfl, by rw [A0_add]; exact H.cell 0 rfl rfl, trivial⟩, ?_⟩
  refine H.alloc fun w8 b11 H => ?_
  have hs : SlI w8 (some (A0 b11)) 1 [0] := ⟨rfl, H.sl 0 rfl⟩
  have hle : loadErr 0 (optA 1 : Nat) (optB 2 : Nat) (optC 0 : Nat) (optD 4 : Nat) 1 = false := by decide
  have hp := T_block_Put 0 (optA 1 : Nat) (optB 2 : Nat) (optC 0 : Nat) (optD 4 : Nat) 7 (by decide) (some (A0 b11)) 1 1 [0] (plainB [0]) 0 w8 hs (by decide) (fun _ w1 hs1 => T_block_loader_plain _ _ _ _ _ _ _ _ _ _ hs1 (by decide))
  refine Calls.st H hp fun w9 H => ?_
  rw [putV, if_neg (by rw [hle]; simp), if_neg (by simp)]
  refine ⟨_, _, rfl, ?_⟩
  have hblen : (blockB 0 1 (plainB [0]) (sumN 7 (plainB [0]))).length = 19 := by
    have e1 : (vput 1).length = 1 := by rw [vput_lt (by decide)]; rfl
    have e2 : (plainB [0]).length = 8 := plainB_len _
    have e3 : (vput 8).length = 1 := by rw [vput_lt (by decide)]; rfl
    simp only [blockB, headBytes, List.length_append, e1, e3, e2, wput_len, List.length_cons, List.length_nil]
  have hH := headR_blk [] [] 0 1 (plainB [0]) (sumN 7 (plainB [0])) 9 (by decide) (by decide) (by decide) (by decide) (by rw [plainB_len]; decide)
  rw [List.nil_append, List.append_nil] at hH
  have hb := blkR_put [] [] 0 1 (plainB [0]) 7 9 (fun _ n s => if n ≤ 4096 then unl0 0 n s else none) [0] (by decide) (by decide) (by decide) (by decide) (by rw [plainB_len]; decide) (unPlain_plainB (l := [0]) (by simp [I64]))
  rw [List.nil_append, List.append_nil, hblen] at hb
  have z : (([] : List UInt8).length : Int) = 0 := rfl
  rw [z] at hH hb
  rw [List.length_nil, Nat.zero_add] at hb
  rw [show Int.toNat 0 = 0 from rfl]
  have hg := T38p (blockB 0 1 (plainB [0]) (sumN 7 (plainB [0]))) 0 7 (by decide) 9 (by rw [hblen]; decide) (fun _ => by rw [hH]) w9
  · refine hg.mono ?_
    rintro e w10 ⟨v, rfl, hv, hf⟩
    replace H := H.call0 hf
    rw [hb] at hv
    obtain ⟨a, c, rfl, hsl⟩ := hv
    refine ⟨_, _, _, _, _, _, rfl, ?_⟩
    rw [S_size, hblen]
    refine bif_i (fun _ => ?_) fun h => by simp at h
    refine Calls.st H (T_l1_Err _ _) fun w11 H => ⟨_, rfl, Calls.st H (T_l1_Err _ _) fun w12 H => ⟨_, rfl, ?_⟩⟩
    refine bif_i (fun _ => bif_i (fun _ => bif_i (fun _ => ⟨rfl, H.fr⟩) fun h => ?_) fun h => ?_) fun h => ?_
    · simp at h
    · simp at h
    · exact absurd h (by decide)
end Go.Proofs.Tryz
