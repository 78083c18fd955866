import Derived.Test.YtoeokgpdmagjoaaGreatP6
/-
The block's parts: what its ways share.
-/
namespace Go.Proofs.Tryz
open Go Go.RowKit Go.Proofs.VC
set_option linter.unusedVariables false
variable {M : List Nat} {w0 w : World} {L : List (Nat × Obj)}

/-- A result that is a string with an error's number. -/
def strE (s : List UInt8) (e : Nat) : Value := .tuple #[.string (S s), .int .i64 (e : Int)]

theorem T_block_loader_plain (a b c d e : Int) (p : Option Addr) (n k : Nat) (l : List Int) (w : World) (hs : SlI w p n l) (hl : 8 * l.length ≤ 140737488355328) :
    Calls prog n_block_loader_plain #[.agg #[.int .i64 a, .int .i64 b, .int .i64 c, .int .i64 d, .int .u64 e, .slice p n k]] w fun x w' => x = .returned (strE (plainB l) 0) ∧ Fr [] w w' := by
  refine S_block_loader_plain ?_
  unfold F_block_loader_plain
  refine (St.start [] w).alloc fun w1 b1 H => ?_
  rw [A0_add]
  refine ⟨_, _, _, H.cell 0 rfl rfl, ?_⟩
  exact Calls.st H (T_plain_Put p n k l w1 (hs.fr0 H.fr) hl) fun w2 H => ⟨_, rfl, rfl, H.fr⟩

def loadErr (way a b c d : Int) (n : Nat) : Bool := !(mayB a b c d) || !(isWayB way) || !(inB (n : Int) 1 4096)
def loadV (way a b c d : Int) (n : Nat) (s : List UInt8) (er : Nat) : Value := if loadErr way a b c d n = true then strE [] 1 else strE s er

/-- The function of a way. -/
def loadF (way : Nat) : Nat := match way with | 0 => n_block_loader_plain | 1 => n_block_loader_codes | 2 => n_block_loader_states | _ => n_block_loader_chances
def unlF (way : Nat) : Nat := match way with | 0 => n_block_unloader_plain | 1 => n_block_unloader_codes | 2 => n_block_unloader_states | _ => n_block_unloader_chances
theorem way_cases {way : Int} (h : isWayB way = true) : way = 0 ∨ way = 1 ∨ way = 2 ∨ way = 3 := by
  simp only [isWayB, inB, Bool.and_eq_true, decide_eq_true_eq] at h
  omega

theorem T_block_Load (way a b c d e : Int) (p : Option Addr) (n k : Nat) (l : List Int) (s : List UInt8) (er : Nat) (w : World) (hs : SlI w p n l)
    (hw : loadErr way a b c d n = false → ∀ w1, SlI w1 p n l → Calls prog (loadF way.toNat) #[.agg #[.int .i64 a, .int .i64 b, .int .i64 c, .int .i64 d, .int .u64 e, .slice p n k]] w1 fun x w' => x = .returned (strE s er) ∧ Fr [] w1 w') :
    Calls prog n_block_Load #[.int .i64 way, optV a b c d e, .slice p n k] w fun x w' => x = .returned (loadV way a b c d n s er) ∧ Fr [] w w' := by
  refine S_block_Load ?_
  unfold F_block_Load
  refine (St.start [] w).alloc fun w1 b4 H => ?_
  intro J3 hJ
  refine ⟨_, _, _, _, _, ⟨by rw [A0_add]; exact H.cell 0 rfl rfl, by rw [A0_add]; exact H.cell 0 rfl rfl, by rw [A0_add]; exact H.cell 0 rfl rfl, by rw [A0_add]; exact H.cell 0 rfl rfl, by rw [A0_add]; exact H.cell 0 rfl rfl, trivial⟩, ?_⟩
  refine Calls.st H (T_block_May a b c d e w1) fun w2 H => ⟨_, rfl, bif_i (fun h1 => ?_) fun h1 => ?_⟩
  · exact ⟨by rw [loadV, if_pos (by simp [loadErr, h1])]; rfl, H.fr⟩
  · have h1' : mayB a b c d = true := by simpa using h1
    refine Calls.st H (T_block_isWay way w2) fun w3 H => ⟨_, rfl, bif_i (fun h2 => ?_) fun h2 => ?_⟩
    · exact ⟨by rw [loadV, if_pos (by simp [loadErr, h1', h2])]; rfl, H.fr⟩
    · have h2' : isWayB way = true := by simpa using h2
      refine Calls.st H (T_block_in _ _ _ w3) fun w4 H => ⟨_, rfl, bif_i (fun h3 => ?_) fun h3 => ?_⟩
      · exact ⟨by rw [loadV, if_pos (by simp [loadErr, h1', h2', h3])]; rfl, H.fr⟩
      · have h3' : inB (n : Int) 1 4096 = true := by simpa using h3
        have herr : loadErr way a b c d n = false := by simp [loadErr, h1', h2', h3']
        refine hJ _ (H.alloc fun w5 b8 H => ?_)
        simp only [A0_add]
        refine H.sto 0 rfl (by simp) fun w6 H => ?_
        refine H.sto 0 rfl (by simp) fun w6 H => ?_
        refine H.sto 0 rfl (by simp) fun w6 H => ?_
        refine H.sto 0 rfl (by simp) fun w6 H => ?_
        refine H.drew fun w8 H => ?_
        rw [Nat.mul_one]
        have key : ∀ g, loadF way.toNat = g → fok g = true → cond (fok g) (Calls prog g ((#[] : Array Value).toList ++ ([.agg #[.int .i64 a, .int .i64 b, .int .i64 c, .int .i64 d, .int .u64 e, .slice p n k]] : List Value) ++ (#[] : Array Value).toList).toArray w8
            (fun e_1 w9 => ∃ x30r0 : ByteArray, ∃ x30r1 : Int, e_1 = .returned (.tuple #[.string x30r0, .int .i64 x30r1]) ∧ ((w8.cell? ⟨b4, 0, none⟩ = some (.int .i64 a) → w9.cell? ⟨b4, 0, none⟩ = some (.int .i64 a)) ∧
              (w8.cell? ⟨b4, 1, none⟩ = some (.int .i64 b) → w9.cell? ⟨b4, 1, none⟩ = some (.int .i64 b)) ∧ (w8.cell? ⟨b4, 2, none⟩ = some (.int .i64 c) → w9.cell? ⟨b4, 2, none⟩ = some (.int .i64 c)) ∧
              (w8.cell? ⟨b4, 3, none⟩ = some (.int .i64 d) → w9.cell? ⟨b4, 3, none⟩ = some (.int .i64 d)) ∧ (w8.cell? ⟨b4, 4, none⟩ = some (.int .u64 e) → w9.cell? ⟨b4, 4, none⟩ = some (.int .u64 e)) ∧ True) ∧
              (fun v w' => Ending.returned v = .returned (loadV way a b c d n s er) ∧ Fr [] w w') (.tuple #[.string x30r0, .int .i64 x30r1]) w9)) False := by
          intro g hg hok
          rw [hok]
          have hc := hw herr w8 (hs.fr0 H.fr)
          rw [hg] at hc
          refine Calls.stf H hc fun w9 hf H => ⟨_, _, rfl, ⟨hf.cell0, hf.cell0, hf.cell0, hf.cell0, hf.cell0, trivial⟩, ?_, H.fr⟩
          rw [loadV, if_neg (by simp [herr])]; rfl
        rcases way_cases h2' with rfl | rfl | rfl | rfl
        all_goals
          refine ⟨by decide, by decide, _, _, _, H.cell 0 rfl rfl, ?_⟩
          refine ⟨_, _, _, _, _, ⟨by rw [A0_add]; exact H.cell 1 rfl rfl, by rw [A0_add]; exact H.cell 1 rfl rfl, by rw [A0_add]; exact H.cell 1 rfl rfl, by rw [A0_add]; exact H.cell 1 rfl rfl, by rw [A0_add]; exact H.cell 1 rfl rfl, trivial⟩, ?_⟩
          exact key _ rfl (by decide +kernel)

/-! ### unload -/
theorem T_plain_Get (s : List UInt8) (hl : s.length ≤ 140737488355328) (w : World) : Calls prog n_plain_Get #[.string (S s)] w fun e w' => ∃ a c l, e = .returned (.tuple #[.slice a l.length c, .bool (s.length % 8 == 0)]) ∧ SlI w' a l.length l ∧ Fr [] w w' ∧
    (s.length % 8 = 0 → l = (List.range (s.length / 8)).map fun i => IntKind.wrap .i64 ((le ((s.drop (8 * i)).take 8) : Nat) : Int)) := by
  refine S_plain_Get ?_
  unfold F_plain_Get
  rw [S_size, show (8 : Int) = ((8 : Nat) : Int) from rfl, tmod_nat]
  refine ⟨by decide, bif_i (fun h => ?_) fun h => ?_⟩
  · have h' : s.length % 8 ≠ 0 := by intro h0; rw [h0] at h; simp at h
    exact ⟨none, 0, [], by simp [h'], ⟨rfl, Sl.nil _ _⟩, Fr.refl _ _, fun h0 => absurd h0 h'⟩
  · have h' : s.length % 8 = 0 := by
      have : ¬ (((s.length % 8 : Nat) : Int) ≠ 0) := by simpa using h
      omega
    refine ⟨fun m a n c x w1 => ∃ (i : Nat), x = ((8 * i : Nat) : Int) ∧ m + i = s.length / 8 ∧ n = i ∧ St [] w w1 [] ∧ Ow [] w w1 [] t_int64 1 a n c (i64s ((List.range i).map fun i => IntKind.wrap .i64 ((le ((s.drop (8 * i)).take 8) : Nat) : Int))),
      ⟨s.length / 8, 0, rfl, rfl, rfl, St.start [] w, Ow.nil⟩, ?_⟩
    rintro m a n c x w1 ⟨i, rfl, hm, rfl, H, ho⟩
    refine bif_i (fun hc => ?_) fun hc => ?_
    · have hi : 8 * n < s.length := by have := of_decide_eq_true hc; omega
      refine Calls.stf H (T_vint_GetWord s _ (by omega) w1) fun w2 hf H => ⟨_, _, _, rfl, ?_⟩
      rw [wgetR_at (by omega)]
      refine H.alloc_own (ho.call0 hf) fun w3 b H ho => ?_
      refine app64 H ho (by omega) fun a' c2 w4 H ho => ⟨m - 1, by omega, n + 1, rfl, by omega, rfl, H, ?_⟩
      rw [List.range_succ, List.map_append]
      exact ho
    · have hi : n = s.length / 8 := by have := of_decide_eq_false hc; omega
      subst hi
      refine ⟨a, c, _, ?_, ⟨rfl, ho.sl⟩, H.fr, fun _ => rfl⟩
      simp [h']
end Go.Proofs.Tryz
