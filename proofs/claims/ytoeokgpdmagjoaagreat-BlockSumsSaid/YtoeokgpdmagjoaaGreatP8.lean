import Derived.Test.YtoeokgpdmagjoaaGreatP7
/-
A block read.
-/
namespace Go.Proofs.Tryz
open Go Go.RowKit Go.Proofs.VC
set_option linter.unusedVariables false
variable {M : List Nat} {w0 w : World} {L : List (Nat × Obj)}

def words (s : List UInt8) : List Int := (List.range (s.length / 8)).map fun i => IntKind.wrap .i64 ((le ((s.drop (8 * i)).take 8) : Nat) : Int)
@[simp] theorem words_len (s : List UInt8) : (words s).length = s.length / 8 := by simp [words]
def unPlain (s : List UInt8) (n : Int) : Option (List Int) := if s.length % 8 = 0 ∧ ((s.length / 8 : Nat) : Int) = n then some (words s) else none

/-- A slice with a word whether it is one. -/
def SlOk (w : World) (v : Value) (r : Option (List Int)) : Prop :=
  match r with
  | some l => ∃ a c, v = .tuple #[.slice a l.length c, .bool true] ∧ SlI w a l.length l
  | none => ∃ a m c, v = .tuple #[.slice a m c, .bool false]
/-- A slice with an error's number. -/
def SlE (w : World) (v : Value) (r : Except Nat (List Int)) : Prop :=
  match r with
  | .ok l => ∃ a c, v = .tuple #[.slice a l.length c, .int .i64 0] ∧ SlI w a l.length l
  | .error k => v = .tuple #[.slice none 0 0, .int .i64 (k : Int)]

theorem T_block_unloader_plain (s : List UInt8) (n : Int) (hl : s.length ≤ 140737488355328) (w : World) : Calls prog n_block_unloader_plain #[.agg #[.string (S s), .int .i64 n]] w fun e w' => ∃ v, e = .returned v ∧ SlOk w' v (unPlain s n) ∧ Fr [] w w' := by
  refine S_block_unloader_plain ?_
  unfold F_block_unloader_plain
  refine (St.start [] w).alloc fun w1 b1 H => ?_
  refine ⟨_, H.cell 0 rfl rfl, ?_⟩
  refine (T_plain_Get s hl w1).mono ?_
  rintro e w2 ⟨a, c, l, rfl, hs, hf, hw⟩
  refine ⟨a, _, c, _, rfl, ?_⟩
  replace H := H.call0 hf
  refine H.drewf fun w3 hf3 H => ?_
  have hs3 : SlI w3 a l.length l := hs.fr0 hf3
  refine bif_i (fun h => ?_) fun h => ?_
  · have h' : s.length % 8 = 0 := by simpa using h
    have hll := hw h'
    have hlen : l.length = s.length / 8 := by rw [hll]; simp
    refine ⟨n, by rw [A0_add]; exact H.cell 0 rfl rfl, _, rfl, ?_, H.fr⟩
    by_cases hn : ((s.length / 8 : Nat) : Int) = n
    · rw [unPlain, if_pos ⟨h', hn⟩]
      have e2 : words s = l := hll.symm
      rw [e2]
      refine ⟨a, c, ?_, hs3⟩
      rw [hlen]
      simp [hn]
    · rw [unPlain, if_neg (fun hh => hn hh.2)]
      refine ⟨a, l.length, c, ?_⟩
      rw [hlen, beq_eq_false_iff_ne.2 hn]
  · have h' : s.length % 8 ≠ 0 := by simpa using h
    refine ⟨_, rfl, ?_, H.fr⟩
    rw [unPlain, if_neg (fun hh => h' hh.1)]
    exact ⟨a, l.length, c, rfl⟩

def unlErr (way n : Int) : Bool := !(isWayB way) || !(inB n 1 4096)
def unlR (way n : Int) (r : Option (List Int)) : Except Nat (List Int) := if unlErr way n = true then .error 1 else match r with | some l => .ok l | none => .error 3

theorem T_block_Unload (way n : Int) (s : List UInt8) (r : Option (List Int)) (w : World)
    (hw : unlErr way n = false → ∀ w1, Calls prog (unlF way.toNat) #[.agg #[.string (S s), .int .i64 n]] w1 fun e w' => ∃ v, e = .returned v ∧ SlOk w' v r ∧ Fr [] w1 w') :
    Calls prog n_block_Unload #[.int .i64 way, .string (S s), .int .i64 n] w fun e w' => ∃ v, e = .returned v ∧ SlE w' v (unlR way n r) ∧ Fr [] w w' := by
  refine S_block_Unload ?_
  unfold F_block_Unload
  intro J3 hJ
  refine Calls.st (St.start [] w) (T_block_isWay way w) fun w2 H => ⟨_, rfl, bif_i (fun h1 => ?_) fun h1 => ?_⟩
  · exact ⟨_, rfl, by unfold unlR; rw [if_pos (by simp [unlErr, h1])]; rfl, H.fr⟩
  · have h1' : isWayB way = true := by simpa using h1
    refine Calls.st H (T_block_in _ _ _ w2) fun w3 H => ⟨_, rfl, bif_i (fun h2 => ?_) fun h2 => ?_⟩
    · exact ⟨_, rfl, by unfold unlR; rw [if_pos (by simp [unlErr, h1', h2])]; rfl, H.fr⟩
    · have h2' : inB n 1 4096 = true := by simpa using h2
      have herr : unlErr way n = false := by simp [unlErr, h1', h2']
      refine hJ _ (H.alloc fun w5 b8 H => ?_)
      simp only [A0_add]
      refine H.sto 0 rfl (by simp) fun w6 H => ?_
      refine H.sto 0 rfl (by simp) fun w6 H => ?_
      refine H.sto 0 rfl (by simp) fun w6 H => ?_
      refine H.sto 0 rfl (by simp) fun w6 H => ?_
      rw [Nat.mul_one]
      have key : ∀ g, unlF way.toNat = g → fok g = true → cond (fok g) (Calls prog g ((#[] : Array Value).toList ++ ([.agg #[.string (S s), .int .i64 n]] : List Value) ++ (#[] : Array Value).toList).toArray w6
          (fun e_1 w7 => ∃ x27r0 : Option Addr, ∃ x27r0n : Nat, ∃ x27r0c : Nat, ∃ x27r1 : Bool, e_1 = .returned (.tuple #[.slice x27r0 x27r0n x27r0c, .bool x27r1]) ∧
            bif !x27r1 then ((fun v w' => ∃ v_1, Ending.returned v = .returned v_1 ∧ SlE w' v_1 (unlR way n r) ∧ Fr [] w w') (.tuple #[.slice none 0 0, .int .i64 (3 : Int)]) w7)
              else ((fun v w' => ∃ v_1, Ending.returned v = .returned v_1 ∧ SlE w' v_1 (unlR way n r) ∧ Fr [] w w') (.tuple #[.slice x27r0 x27r0n x27r0c, .int .i64 (0 : Int)]) w7))) False := by
        intro g hg hok
        rw [hok]
        have hc := hw herr w6
        rw [hg] at hc
        refine hc.mono ?_
        rintro e w7 ⟨v, rfl, hv, hf⟩
        cases r with
        | none =>
          have hr : unlR way n none = .error 3 := by unfold unlR; rw [if_neg (by simp [herr])]
          obtain ⟨a, m, c, rfl⟩ := hv
          exact ⟨_, _, _, _, rfl, _, rfl, by rw [hr]; rfl, H.fr.trans hf⟩
        | some l =>
          have hr : unlR way n (some l) = .ok l := by unfold unlR; rw [if_neg (by simp [herr])]
          obtain ⟨a, c, rfl, hs⟩ := hv
          exact ⟨_, _, _, _, rfl, _, rfl, by rw [hr]; exact ⟨a, c, rfl, hs⟩, H.fr.trans hf⟩
      rcases way_cases h1' with rfl | rfl | rfl | rfl
      all_goals
        refine ⟨by decide, by decide, _, _, _, H.cell 0 rfl rfl, ?_⟩
        exact key _ rfl (by decide +kernel)

/-- What stands ahead of a block's bytes: way, how many, size, next, error. -/
structure HD where
  way : Nat
  n : Nat
  size : Nat
  next : Nat
  e : Nat
  deriving DecidableEq
def HD.bad (e : Nat) : HD := ⟨0, 0, 0, 0, e⟩
def HD.val (x : HD) : Value := .tuple #[.int .i64 (x.way : Int), .int .i64 (x.n : Int), .int .i64 (x.size : Int), .int .i64 (x.next : Int), .int .i64 (x.e : Int)]
def headB (l : List UInt8) (way n next : Nat) : HD :=
  if (readR l (next : Int) vgetR).2.2 ≠ 0 then .bad (readR l (next : Int) vgetR).2.2
  else if 16 * n + 1000 < (readR l (next : Int) vgetR).1 then .bad 3
  else if l.length < (readR l (next : Int) vgetR).1 + 8 + (readR l (next : Int) vgetR).2.1 then .bad 2
  else ⟨way, n, (readR l (next : Int) vgetR).1, (readR l (next : Int) vgetR).2.1, 0⟩
def headA (l : List UInt8) (at_ : Nat) (most : Int) : HD :=
  if 3 < (l.getD at_ 0).toNat then .bad 3
  else if (readR l ((at_ + 1 : Nat) : Int) vgetR).2.2 ≠ 0 then .bad (readR l ((at_ + 1 : Nat) : Int) vgetR).2.2
  else if (readR l ((at_ + 1 : Nat) : Int) vgetR).1 < 1 ∨ 4096 < (readR l ((at_ + 1 : Nat) : Int) vgetR).1 then .bad 3
  else if most < ((readR l ((at_ + 1 : Nat) : Int) vgetR).1 : Int) then .bad 5
  else headB l (l.getD at_ 0).toNat (readR l ((at_ + 1 : Nat) : Int) vgetR).1 (readR l ((at_ + 1 : Nat) : Int) vgetR).2.1
def headR (l : List UInt8) (at_ most : Int) : HD :=
  if at_ < 0 ∨ (l.length : Int) < at_ then .bad 1 else if at_ = (l.length : Int) then .bad 2 else headA l at_.toNat most

theorem vgo_val : ∀ (l : List UInt8) (i acc : Nat), i ≤ 10 → acc < 128 ^ i → (vgo l i acc).1 < WW
  | [], i, acc, hi, h => by unfold vgo; split <;> simp
  | c :: s, i, acc, hi, h => by
    unfold vgo
    have hpow : (128 : Nat) ^ (i + 1) = 128 ^ i * 128 := Nat.pow_succ ..
    split
    · simp
    · rename_i h10
      split
      · simp
      · rename_i h9
        have hmul : c.toNat % 128 * 128 ^ i ≤ 127 * 128 ^ i := Nat.mul_le_mul_right _ (by omega)
        split
        · exact vgo_val s (i + 1) _ (by omega) (by rw [hpow]; omega)
        · rename_i h128
          split
          · simp
          · show acc + c.toNat * 128 ^ i < WW
            have hc : c.toNat = c.toNat % 128 := by omega
            by_cases hi9 : i = 9
            · subst hi9
              have hle : c.toNat ≤ 1 := by omega
              have := Nat.mul_le_mul_right (128 ^ 9) hle
              have h9' : (128 : Nat) ^ 9 = 9223372036854775808 := by decide
              have hW : WW = 18446744073709551616 := rfl
              omega
            · have hle : (128 : Nat) ^ i ≤ 128 ^ 8 := Nat.pow_le_pow_right (by decide) (by omega)
              have h8 : (128 : Nat) ^ 8 = 72057594037927936 := by decide
              have hW : WW = 18446744073709551616 := rfl
              rw [← hc] at hmul
              omega
theorem vgetR_lt (l : List UInt8) : (vgetR l).1 < WW := vgo_val l 0 0 (by decide) (by decide)
theorem readR_lt {l : List UInt8} {at_ : Int} : (readR l at_ vgetR).1 < WW := by
  unfold readR
  split
  · show 0 < WW; decide
  · split
    · show 0 < WW; decide
    · exact vgetR_lt _
theorem vgo_sz' : ∀ (l : List UInt8) (i acc : Nat), (vgo l i acc).2.2 = 0 → (vgo l i acc).2.1 ≤ i + l.length
  | [], i, acc => by unfold vgo; split <;> simp
  | c :: s, i, acc => by
    unfold vgo
    split
    · simp
    · split
      · simp
      · split
        · intro h; have := vgo_sz' s (i + 1) _ h; simp only [List.length_cons]; omega
        · split
          · simp
          · intro _
            show i + 1 ≤ i + (c :: s).length
            rw [List.length_cons]; omega
theorem readR_next {l : List UInt8} {at_ : Int} (h : (readR l at_ vgetR).2.2 = 0) : (readR l at_ vgetR).2.1 ≤ l.length := by
  unfold readR at h ⊢
  split at h
  · simp at h
  · rename_i h1
    rw [if_neg h1]
    split at h
    · rename_i h2; exact absurd h h2
    · rename_i h2
      rw [if_neg h2]
      have := vgo_sz' (l.drop at_.toNat) 0 0 (by simpa [vgetR] using h2)
      rw [List.length_drop] at this
      show at_.toNat + (vgetR (l.drop at_.toNat)).2.1 ≤ l.length
      have e : vgetR (l.drop at_.toNat) = vgo (l.drop at_.toNat) 0 0 := rfl
      rw [e]; omega
end Go.Proofs.Tryz
