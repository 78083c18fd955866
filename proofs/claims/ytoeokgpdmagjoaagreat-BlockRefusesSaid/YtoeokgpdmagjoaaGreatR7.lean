import Derived.Test.YtoeokgpdmagjoaaGreatQ2
import Derived.Test.YtoeokgpdmagjoaaGreatGLr
/-
BlockRefuses: what may not be asked is told so: the walk.
-/
namespace Go.Proofs.Tryz
open Go Go.RowKit Go.Proofs.VC
set_option linter.unusedVariables false
set_option maxRecDepth 10000

theorem bif_t {c : Bool} {A B : Prop} (h : c = true) (a : A) : bif c then A else B := by subst h; exact a
theorem bif_f {c : Bool} {A B : Prop} (h : c = false) (b : B) : bif c then A else B := by subst h; exact b

theorem T_l21_BlockRefuses (x0 : Nat) (hx0 : x0 < 256) (x1 : Int) (h1 : I64 x1) (w : World) : Calls prog n_l21_BlockRefuses #[.int .u8 (x0 : Int), .int .i64 x1] w fun e w' => e = .returned (.bool true) ∧ Fr [] w w' := by
  refine S_l21_BlockRefuses ?_
  unfold F_l21_BlockRefuses
  refine Calls.st (St.start [] w) (T_l21_Options 1 2 3 4 5 (by decide) (by decide) (by decide) (by decide) w) fun w1 H => ⟨_, _, _, _, _, rfl, ?_⟩
  refine H.alloc fun w2 b5 H => ?_
  simp only [A0_add]
  refine H.sto 0 rfl (by simp) fun w3 H => ?_
  refine H.sto 0 rfl (by simp) fun w3 H => ?_
  refine H.sto 0 rfl (by simp) fun w3 H => ?_
  refine H.sto 0 rfl (by simp) fun w3 H => ?_
  refine H.sto 0 rfl (by simp) fun w7 H => ?_
  intro J5 hJ
  have key : ∀ away : Int, isWayB away = false → ∀ w8, Fr [] w7 w8 → J5 away w8 := by
    intro away haw w8 hf
    replace H := H.call0 hf
    refine hJ _ _ (H.alloc fun w9 b45 H => ?_)
    refine ⟨_, _, _, _, _, ⟨by rw [A0_add]; exact H.cell 1 rfl rfl, by rw [A0_add]; exact H.cell 1 rfl rfl, by rw [A0_add]; exact H.cell 1 rfl rfl, by rw [A0_add]; exact H.cell 1 rfl rfl, by rw [A0_add]; exact H.cell 1 rfl rfl, trivial⟩, ?_⟩
    have hs : SlI w9 (some (A0 b45)) 2 [1, 2] := ⟨rfl, H.sl 0 rfl⟩
    have e1 : ∀ a b c d : Int, loadErr away a b c d 2 = true := by intro a b c d; simp [loadErr, haw]
    refine Calls.stf H (T_block_Load away _ _ _ _ _ _ 2 2 [1, 2] [] 0 w9 hs (fun h => by rw [e1] at h; cases h)) fun w10 hf10 H => ?_
    rw [loadV, if_pos (e1 _ _ _ _)]
    refine ⟨_, _, rfl, ?_⟩
    refine ⟨_, _, _, _, _, ⟨by rw [A0_add]; exact H.cell 1 rfl rfl, by rw [A0_add]; exact H.cell 1 rfl rfl, by rw [A0_add]; exact H.cell 1 rfl rfl, by rw [A0_add]; exact H.cell 1 rfl rfl, by rw [A0_add]; exact H.cell 1 rfl rfl, trivial⟩, ?_⟩
    have e2 : ∀ a b c d : Int, loadErr 0 a b c d 0 = true := by intro a b c d; simp [loadErr, inB]
    refine Calls.stf H (T_block_Load 0 _ _ _ _ _ none 0 0 [] [] 0 w10 ⟨rfl, Sl.nil _ _⟩ (fun h => by rw [e2] at h; cases h)) fun w11 hf11 H => ?_
    rw [loadV, if_pos (e2 _ _ _ _)]
    refine ⟨_, _, rfl, ?_⟩
    have e3 : unlErr away 1 = true := by simp [unlErr, haw]
    refine (T_block_Unload away 1 [] none w11 (fun h => by rw [e3] at h; cases h)).mono ?_
    rintro e w12 ⟨v, rfl, hv, hf12⟩
    replace H := H.call0 hf12
    have hv' : v = .tuple #[.slice none 0 0, .int .i64 ((1 : Nat) : Int)] := by unfold unlR at hv; rw [if_pos e3] at hv; exact hv
    subst hv'
    refine ⟨_, _, _, _, rfl, ?_⟩
    have e4 : unlErr 0 0 = true := by decide
    refine (T_block_Unload 0 0 [] none w12 (fun h => by rw [e4] at h; cases h)).mono ?_
    rintro e w13 ⟨v, rfl, hv, hf13⟩
    replace H := H.call0 hf13
    have hv' : v = .tuple #[.slice none 0 0, .int .i64 ((1 : Nat) : Int)] := by unfold unlR at hv; rw [if_pos e4] at hv; exact hv
    subst hv'
    refine ⟨_, _, _, _, rfl, ?_⟩
    refine H.alloc fun w14 b76 H => ?_
    have e5 : Int.tmod (x0 : Int) 9 = ((x0 % 9 : Nat) : Int) := tmod_nat x0 9
    rw [e5, Int.toNat_natCast]
    have hk : x0 % 9 < 9 := Nat.mod_lt _ (by decide)
    refine ⟨by decide, by omega, by omega, OSome.i ?_⟩
    obtain ⟨a, b, c, d, e, hc, hmay⟩ : ∃ a b c d e : Int, LdL w14 ((A0 b76).add (x0 % 9 * 5)) 0 [.int .i64 a, .int .i64 b, .int .i64 c, .int .i64 d, .int .u64 e] ∧ e = ((0 : Nat) : Int) ∧ mayB a b c d = false := by
      generalize x0 % 9 = k at hk
      rcases (by omega : k = 0 ∨ k = 1 ∨ k = 2 ∨ k = 3 ∨ k = 4 ∨ k = 5 ∨ k = 6 ∨ k = 7 ∨ k = 8) with rfl | rfl | rfl | rfl | rfl | rfl | rfl | rfl | rfl
      all_goals
        refine ⟨_, _, _, _, _, ⟨by rw [add_add, A0_add]; exact H.cell 0 rfl rfl, by rw [add_add, A0_add]; exact H.cell 0 rfl rfl, by rw [add_add, A0_add]; exact H.cell 0 rfl rfl, by rw [add_add, A0_add]; exact H.cell 0 rfl rfl,
          by rw [add_add, A0_add]; exact H.cell 0 rfl rfl, trivial⟩, rfl, by decide⟩
    obtain ⟨rfl, hmay⟩ := hmay
    refine ⟨_, _, _, _, _, hc, ?_⟩
    refine H.alloc fun w15 b16 H => ?_
    refine H.sto 0 rfl (by simp) fun w16 H => ?_
    refine H.sto 0 rfl (by simp) fun w16 H => ?_
    refine H.sto 0 rfl (by simp) fun w16 H => ?_
    refine H.sto 0 rfl (by simp) fun w16 H => ?_
    refine H.sto 0 rfl (by simp) fun w20 H => ?_
    refine ⟨_, _, _, _, _, ⟨by rw [A0_add]; exact H.cell 0 rfl rfl, by rw [A0_add]; exact H.cell 0 rfl rfl, by rw [A0_add]; exact H.cell 0 rfl rfl, by rw [A0_add]; exact H.cell 0 rfl rfl, by rw [A0_add]; exact H.cell 0 rfl rfl, trivial⟩, ?_⟩
    have hs20 : SlI w20 (some (A0 b45)) 2 [1, 2] := ⟨rfl, H.sl 2 rfl⟩
    have e6 : loadErr 0 a b c d 2 = true := by simp [loadErr, hmay]
    refine Calls.st H (T_block_Put 0 a b c d 0 (by decide) _ 2 2 [1, 2] [] 0 w20 hs20 (by decide) (fun h => by rw [e6] at h; cases h)) fun w21 H => ?_
    rw [putV, if_pos e6]
    refine ⟨_, _, rfl, ?_⟩
    have hget : ∀ (l : List UInt8) (at_ most : Int) (k : Nat) (w1 : World), l.length ≤ 140737488355328 → headR l at_ most = .bad (k + 1) → Calls prog n_block_Get #[.string (S l), .int .i64 at_, .int .u64 (1 : Int), .int .i64 most] w1 fun e w' => e = .returned (.tuple #[.int .i64 0, .slice none 0 0, .int .i64 0, .int .i64 ((k + 1 : Nat) : Int)]) ∧ Fr [] w1 w' := by
      intro l at_ most k w1 hl hh
      refine (T38p l at_ 1 (by decide) most hl (fun h => by rw [hh] at h; exact absurd h (by simp [HD.bad])) w1).mono ?_
      rintro e w2 ⟨v, rfl, hv, hf⟩
      have hb : blkR l at_ 1 most (fun _ n s => if n ≤ 4096 then unl0 0 n s else none) = .error (k + 1) := by
        unfold blkR
        rw [hh, if_pos (by simp [HD.bad])]
        rfl
      rw [hb] at hv
      have hv' : v = .tuple #[.int .i64 0, .slice none 0 0, .int .i64 0, .int .i64 ((k + 1 : Nat) : Int)] := hv
      exact ⟨by rw [hv'], hf⟩
    refine Calls.st H (hget [] 0 1 1 w21 (by decide) (by decide +kernel)) fun w22 H => ⟨_, _, _, _, _, _, rfl, ?_⟩
    refine Calls.st H (hget [120] 2 1 0 w22 (by decide) (by decide +kernel)) fun w23 H => ⟨_, _, _, _, _, _, rfl, ?_⟩
    refine Calls.st H (hget [4, 1] 0 1 2 w23 (by decide) (by decide +kernel)) fun w24 H => ⟨_, _, _, _, _, _, rfl, ?_⟩
    refine Calls.st H (hget [0, 0, 0] 0 1 2 w24 (by decide) (by decide +kernel)) fun w25 H => ⟨_, _, _, _, _, _, rfl, ?_⟩
    refine Calls.st H (T_l1_Err _ _) fun w26 H => ⟨_, rfl, bif_t (by decide) ?_⟩
    refine Calls.st H (T_l1_Err _ _) fun w27 H => ⟨_, rfl, bif_t (by decide) ?_⟩
    refine Calls.st H (T_l1_Err _ _) fun w28 H => ⟨_, rfl, bif_t (by decide) ?_⟩
    refine Calls.st H (T_l1_Err _ _) fun w29 H => ⟨_, rfl, bif_t (by decide) ?_⟩
    refine ⟨_, _, _, _, _, ⟨by rw [A0_add]; exact H.cell 0 rfl rfl, by rw [A0_add]; exact H.cell 0 rfl rfl, by rw [A0_add]; exact H.cell 0 rfl rfl, by rw [A0_add]; exact H.cell 0 rfl rfl, by rw [A0_add]; exact H.cell 0 rfl rfl, trivial⟩, ?_⟩
    refine Calls.st H (T_block_May a b c d _ w29) fun w30 H => ⟨_, rfl, bif_t (by rw [hmay]; rfl) ?_⟩
    refine Calls.st H (T_l1_Err _ _) fun w31 H => ⟨_, rfl, bif_t (by decide) ?_⟩
    refine Calls.st H (T_l1_Err _ _) fun w32 H => ⟨_, rfl, bif_t (by decide) ?_⟩
    refine Calls.st H (T_l1_Err _ _) fun w33 H => ⟨_, rfl, bif_t (by decide) ?_⟩
    refine Calls.st H (T_l1_Err _ _) fun w34 H => ⟨_, rfl, bif_t (by decide) ?_⟩
    refine Calls.st H (T_l1_Err _ _) fun w35 H => ⟨_, rfl, bif_t (by decide) ?_⟩
    exact Calls.st H (T_l21_awake _) fun w36 H => ⟨_, rfl, rfl, H.fr⟩
  refine bif_i (fun h2 => bif_i (fun h3 => ?_) fun h3 => ?_) fun h2 => ?_
  · have h2' := of_decide_eq_true h2
    have h3' := of_decide_eq_true h3
    refine key _ ?_ _ (Fr.refl _ _)
    rw [W64_id _ (by omega) (by omega)]
    simp [isWayB, inB]; omega
  · have h2' := of_decide_eq_true h2
    have h3' := of_decide_eq_false h3
    refine key _ ?_ _ (Fr.refl _ _)
    simp [isWayB, inB]; omega
  · have h2' := of_decide_eq_false h2
    refine key _ ?_ _ (Fr.refl _ _)
    simp [isWayB, inB]; omega
end Go.Proofs.Tryz
