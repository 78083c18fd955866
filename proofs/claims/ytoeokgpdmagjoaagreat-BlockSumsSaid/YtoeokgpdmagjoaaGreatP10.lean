import Derived.Test.YtoeokgpdmagjoaaGreatP9
/-
A block put; numbers by numbers.
-/
namespace Go.Proofs.Tryz
open Go Go.RowKit Go.Proofs.VC
set_option linter.unusedVariables false
variable {M : List Nat} {w0 w : World} {L : List (Nat × Obj)}

def headBytes (way n size : Nat) : List UInt8 := [UInt8.ofNat way] ++ vput n ++ vput size
def blockB (way n : Nat) (s : List UInt8) (sum : Nat) : List UInt8 := headBytes way n s.length ++ s ++ wput sum
def putV (way a b c d : Int) (n : Nat) (s : List UInt8) (er : Nat) (sum : Nat) : Value :=
  if loadErr way a b c d n = true then strE [] 1 else if er ≠ 0 then strE [] er else strE (blockB way.toNat n s sum) 0

theorem T_block_Put (way a b c d : Int) (e : Nat) (he : e < WW) (p : Option Addr) (n k : Nat) (l : List Int) (s : List UInt8) (er : Nat) (w : World) (hs : SlI w p n l) (hsz : s.length ≤ 140737488355328)
    (hw : loadErr way a b c d n = false → ∀ w1, SlI w1 p n l → Calls prog (loadF way.toNat) #[.agg #[.int .i64 a, .int .i64 b, .int .i64 c, .int .i64 d, .int .u64 (e : Int), .slice p n k]] w1 fun x w' => x = .returned (strE s er) ∧ Fr [] w1 w') :
    Calls prog n_block_Put #[.int .i64 way, optV a b c d (e : Int), .slice p n k] w fun x w' => x = .returned (putV way a b c d n s er (sumN e (plainB l))) ∧ Fr [] w w' := by
  refine S_block_Put ?_
  unfold F_block_Put
  refine (St.start [] w).alloc fun w1 b4 H => ?_
  refine ⟨_, _, _, _, _, ⟨by rw [A0_add]; exact H.cell 0 rfl rfl, by rw [A0_add]; exact H.cell 0 rfl rfl, by rw [A0_add]; exact H.cell 0 rfl rfl, by rw [A0_add]; exact H.cell 0 rfl rfl, by rw [A0_add]; exact H.cell 0 rfl rfl, trivial⟩, ?_⟩
  refine (T_block_Load way a b c d (e : Int) p n k l s er w1 (hs.fr0 H.fr) hw).mono ?_
  rintro x w2 ⟨rfl, hf⟩
  replace H := H.call0 hf
  by_cases hle : loadErr way a b c d n = true
  · rw [loadV, if_pos hle, putV, if_pos hle]
    refine ⟨_, _, rfl, bif_i (fun h1 => ⟨rfl, H.fr⟩) fun h1 => ?_⟩
    simp at h1
  · rw [loadV, if_neg hle, putV, if_neg hle]
    refine ⟨_, _, rfl, bif_i (fun h1 => ?_) fun h1 => ?_⟩
    · have h1' : er ≠ 0 := by intro h0; rw [h0] at h1; simp at h1
      rw [if_pos h1']
      exact ⟨rfl, H.fr⟩
    · have h1' : er = 0 := by
        have : ¬ ((er : Int) ≠ 0) := by simpa using h1
        omega
      subst h1'
      rw [if_neg (by simp)]
      have hle' : loadErr way a b c d n = false := by simpa using hle
      simp only [loadErr, Bool.or_eq_false_iff, Bool.not_eq_false'] at hle'
      have hway := way_cases hle'.1.2
      have hn : n ≤ 4096 := by
        have := hle'.2
        simp only [inB, Bool.and_eq_true, decide_eq_true_eq] at this
        omega
      have hnl := hs.1
      intro J5 hJ
      have hv1 := vput_len64 (n := n) (by omega)
      have hv2 := vput_len64 (n := s.length) (by omega)
      have fin : ∀ w3, St [] w w3 [(b4, .cells #[.int .i64 a, .int .i64 b, .int .i64 c, .int .i64 d, .int .u64 (e : Int)] t_api_Options (0, 0))] → J5 (S (headBytes way.toNat n s.length)) w3 := by
        intro w3 H
        refine hJ _ _ (H.drew fun w4 H => ?_)
        have hhl : (headBytes way.toNat n s.length).length ≤ 21 := by simp [headBytes]; omega
        simp only [A0_add]
        refine ⟨by rw [S_size, S_size]; unfold strMax; omega, _, H.cell 0 rfl rfl, ?_⟩
        refine Calls.stf H (T_plain_Put p n k l w4 (hs.fr0 H.fr) (by omega)) fun w5 hf5 H => ⟨_, rfl, ⟨hf5.cell0, trivial⟩, ?_⟩
        refine Calls.stf H (T_xxh_Sum e he (plainB l) (by rw [plainB_len]; omega) w5) fun w6 hf6 H => ⟨_, rfl, trivial, ?_⟩
        refine Calls.stf H (T_vint_Word _ (sumN_lt _ _) w6) fun w7 hf7 H => ⟨_, rfl, ⟨hf7.cell0, trivial⟩, ?_⟩
        refine ⟨by rw [S_append, S_size, S_size, List.length_append, wput_len]; unfold strMax; omega, ?_, H.fr⟩
        rw [S_append, S_append]; rfl
      have hby : U8 way = (((UInt8.ofNat way.toNat).toNat : Nat) : Int) := by
        rcases hway with rfl | rfl | rfl | rfl <;> rfl
      have e1 : U64 ((n : Nat) : Int) = ((n : Nat) : Int) := by rw [U64_nat, Nat.mod_eq_of_lt (by omega)]
      have e2 : U64 (((S s).size : Nat) : Int) = ((s.length : Nat) : Int) := by rw [S_size, U64_nat, Nat.mod_eq_of_lt (by omega)]
      rw [e1, e2, hby]
      have hTn : ∀ w, Calls prog n_vint_Put #[.int .u64 (n : Int)] w fun e w' => e = .returned (.string (S (vput n))) ∧ Fr [] w w' := T_vint_Put n (by omega)
      have hTs : ∀ w, Calls prog n_vint_Put #[.int .u64 (s.length : Int)] w fun e w' => e = .returned (.string (S (vput s.length))) ∧ Fr [] w w' := T_vint_Put s.length (by omega)
      have sz1 : (S [UInt8.ofNat way.toNat]).size + (S (vput n)).size ≤ strMax := by rw [S_size, S_size]; unfold strMax; simp; omega
      have sz2 : (S [UInt8.ofNat way.toNat] ++ S (vput n)).size + (S (vput s.length)).size ≤ strMax := by rw [S_append, S_size, S_size]; unfold strMax; simp; omega
      have fin1 : ∀ w3, St [] w w3 [(b4, .cells #[.int .i64 a, .int .i64 b, .int .i64 c, .int .i64 d, .int .u64 (e : Int)] t_api_Options (0, 0))] → J5 (S [UInt8.ofNat way.toNat] ++ S (vput n) ++ S (vput s.length)) w3 := by
        intro w3 H
        rw [S_append, S_append]; exact fin w3 H
      refine H.drew fun w8 H => ⟨H.alloc fun w9 b23 H => ⟨trivial, b2s (l := [UInt8.ofNat way.toNat]) (H.sl 0 rfl) rfl ⟨trivial, ?_⟩, ?_⟩, ?_⟩
      · exact Calls.st H (hTn _) fun w10 H => ⟨_, rfl, trivial, sz1, Calls.st H (hTs _) fun w11 H => ⟨_, rfl, trivial, sz2, fin1 _ H.tail⟩⟩
      · refine Calls.st H (hTn _) fun w10 H => ⟨_, rfl, trivial, b2s (l := [UInt8.ofNat way.toNat]) (H.sl 0 rfl) rfl ⟨trivial, sz1, ?_⟩, ?_⟩
        · exact Calls.st H (hTs _) fun w11 H => ⟨_, rfl, trivial, sz2, fin1 _ H.tail⟩
        · exact Calls.st H (hTs _) fun w11 H => ⟨_, rfl, trivial, b2s (l := [UInt8.ofNat way.toNat]) (H.sl 0 rfl) rfl ⟨trivial, sz1, sz2, fin1 _ H.tail⟩⟩
      · refine Calls.st H (hTn _) fun w10 H => ⟨_, rfl, trivial, H.alloc fun w9 b23 H => ⟨trivial, b2s (l := [UInt8.ofNat way.toNat]) (H.sl 0 rfl) rfl ⟨trivial, sz1, ?_⟩, ?_⟩, ?_⟩
        · exact Calls.st H (hTs _) fun w11 H => ⟨_, rfl, trivial, sz2, fin1 _ H.tail⟩
        · exact Calls.st H (hTs _) fun w11 H => ⟨_, rfl, trivial, b2s (l := [UInt8.ofNat way.toNat]) (H.sl 0 rfl) rfl ⟨trivial, sz1, sz2, fin1 _ H.tail⟩⟩
        · exact Calls.st H (hTs _) fun w11 H => ⟨_, rfl, trivial, H.alloc fun w9 b23 H => ⟨trivial, b2s (l := [UInt8.ofNat way.toNat]) (H.sl 0 rfl) rfl ⟨trivial, sz1, sz2, fin1 _ H.tail⟩⟩⟩
end Go.Proofs.Tryz
