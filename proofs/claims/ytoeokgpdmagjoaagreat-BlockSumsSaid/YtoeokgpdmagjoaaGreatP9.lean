import Derived.Test.YtoeokgpdmagjoaaGreatP8
/-
A block's head, a block read, a block put.
-/
namespace Go.Proofs.Tryz
open Go Go.RowKit Go.Proofs.VC
set_option linter.unusedVariables false
variable {M : List Nat} {w0 w : World} {L : List (Nat × Obj)}

theorem W64_lt {n : Nat} (h : n < 9223372036854775808) : W64 (n : Int) = (n : Int) := W64_nat h

theorem T_block_head (l : List UInt8) (at_ most : Int) (hl : l.length ≤ 140737488355328) (w : World) : Calls prog n_block_head #[.string (S l), .int .i64 at_, .int .i64 most] w fun e w' => e = .returned (headR l at_ most).val ∧ Fr [] w w' := by
  refine S_block_head ?_
  unfold F_block_head
  rw [S_size]
  intro J5 hJ
  refine bif_i (fun h => ?_) (fun h => bif_i (fun h2 => ?_) fun h2 => bif_i (fun h3 => ?_) fun h3 => ?_)
  · have h' := of_decide_eq_true h
    exact ⟨by rw [headR, if_pos (.inl h')]; rfl, Fr.refl _ _⟩
  · have h' := of_decide_eq_true h2
    exact ⟨by rw [headR, if_pos (.inr h')]; rfl, Fr.refl _ _⟩
  · have h0 := of_decide_eq_false h
    have h1 := of_decide_eq_false h2
    have h' : at_ = (l.length : Int) := by simpa using h3
    exact ⟨by rw [headR, if_neg (by omega), if_pos h']; rfl, Fr.refl _ _⟩
  · have h0 := of_decide_eq_false h
    have h1 := of_decide_eq_false h2
    have h' : at_ ≠ (l.length : Int) := by simpa using h3
    have hR : headR l at_ most = headA l at_.toNat most := by rw [headR, if_neg (by omega), if_neg h']
    rw [hR] at hJ
    obtain ⟨k, rfl⟩ : ∃ k : Nat, at_ = (k : Int) := ⟨at_.toNat, by omega⟩
    rw [Int.toNat_natCast] at hJ
    have hk : k < l.length := by omega
    have hget : l[k]? = some (l.getD k 0) := by simp [List.getD, hk]
    have hb := (l.getD k 0).toNat_lt
    refine hJ _ ⟨by omega, _, by rw [S_get]; exact hget, ?_⟩
    rw [W64_nat (by omega : (l.getD k 0).toNat < 9223372036854775808)]
    refine Calls.st (St.start [] w) (T_block_isWay _ w) fun w2 H => ⟨_, rfl, bif_i (fun h4 => ?_) fun h4 => ?_⟩
    · have h4' : 3 < (l.getD k 0).toNat := by
        have : isWayB ((l.getD k 0).toNat : Int) = false := by simpa using h4
        simp only [isWayB, inB, Bool.and_eq_false_iff, decide_eq_false_iff_not] at this
        omega
      exact ⟨by rw [headA, if_pos h4']; rfl, H.fr⟩
    · have h4' : ¬ 3 < (l.getD k 0).toNat := by
        have : isWayB ((l.getD k 0).toNat : Int) = true := by simpa using h4
        simp only [isWayB, inB, Bool.and_eq_true, decide_eq_true_eq] at this
        omega
      have e1 : W64 ((k : Int) + 1) = ((k + 1 : Nat) : Int) := by rw [show (k : Int) + 1 = ((k + 1 : Nat) : Int) by omega, W64_nat (by omega)]
      rw [e1]
      refine Calls.st H (T_vint_Get l _ (by omega) w2) fun w3 H => ⟨_, _, _, rfl, ?_⟩
      have hA : headA l k most = if (readR l ((k + 1 : Nat) : Int) vgetR).2.2 ≠ 0 then .bad (readR l ((k + 1 : Nat) : Int) vgetR).2.2
          else if (readR l ((k + 1 : Nat) : Int) vgetR).1 < 1 ∨ 4096 < (readR l ((k + 1 : Nat) : Int) vgetR).1 then .bad 3
          else if most < ((readR l ((k + 1 : Nat) : Int) vgetR).1 : Int) then .bad 5
          else headB l (l.getD k 0).toNat (readR l ((k + 1 : Nat) : Int) vgetR).1 (readR l ((k + 1 : Nat) : Int) vgetR).2.1 := by rw [headA, if_neg h4']
      have hxlt := readR_lt (l := l) (at_ := ((k + 1 : Nat) : Int))
      generalize readR l ((k + 1 : Nat) : Int) vgetR = x at hA hxlt
      obtain ⟨xn, xnext, xe⟩ := x
      intro J15 hJ15
      simp only at hA hxlt ⊢
      refine bif_i (fun h5 => ?_) fun h5 => ?_
      · have h5' : xe ≠ 0 := by intro h0; rw [h0] at h5; simp at h5
        exact ⟨by rw [hA, if_pos h5']; rfl, H.fr⟩
      · have h5' : xe = 0 := by
          have : ¬ ((xe : Int) ≠ 0) := by simpa using h5
          omega
        subst h5'
        rw [if_neg (by simp)] at hA
        refine bif_i (fun h6 => ?_) fun h6 => bif_i (fun h7 => ?_) fun h7 => ?_
        · have h6' := of_decide_eq_true h6
          exact ⟨by rw [hA, if_pos (.inl (by omega))]; rfl, H.fr⟩
        · have h7' := of_decide_eq_true h7
          exact ⟨by rw [hA, if_pos (.inr (by omega))]; rfl, H.fr⟩
        · have h6' := of_decide_eq_false h6
          have h7' := of_decide_eq_false h7
          rw [if_neg (by omega)] at hA
          rw [W64_nat (by omega : xn < 9223372036854775808)]
          refine bif_i (fun h8 => ?_) fun h8 => ?_
          · have h8' := of_decide_eq_true h8
            exact ⟨by rw [hA, if_pos (by omega)]; rfl, H.fr⟩
          · have h8' := of_decide_eq_false h8
            rw [if_neg (by omega)] at hA
            refine hJ15 _ _ _ ?_
            refine Calls.st H (T_vint_Get l _ (by omega) w3) fun w4 H => ⟨_, _, _, rfl, ?_⟩
            have hB : headB l (l.getD k 0).toNat xn xnext = if (readR l (xnext : Int) vgetR).2.2 ≠ 0 then .bad (readR l (xnext : Int) vgetR).2.2
              else if 16 * xn + 1000 < (readR l (xnext : Int) vgetR).1 then .bad 3
              else if l.length < (readR l (xnext : Int) vgetR).1 + 8 + (readR l (xnext : Int) vgetR).2.1 then .bad 2
              else ⟨(l.getD k 0).toNat, xn, (readR l (xnext : Int) vgetR).1, (readR l (xnext : Int) vgetR).2.1, 0⟩ := rfl
            have hylt := readR_lt (l := l) (at_ := (xnext : Int))
            have hynext := readR_next (l := l) (at_ := (xnext : Int))
            generalize readR l (xnext : Int) vgetR = y at hB hylt hynext
            obtain ⟨yn, ynext, ye⟩ := y
            simp only at hB hylt hynext ⊢
            rw [hA, hB]
            refine bif_i (fun h9 => ?_) fun h9 => ?_
            · have h9' : ye ≠ 0 := by intro h0; rw [h0] at h9; simp at h9
              exact ⟨by rw [if_pos h9']; rfl, H.fr⟩
            · have h9' : ye = 0 := by
                have : ¬ ((ye : Int) ≠ 0) := by simpa using h9
                omega
              subst h9'
              rw [if_neg (by simp)]
              have hyn := hynext rfl
              have e2 : U64 (U64 (16 * (xn : Int)) + 1000) = ((16 * xn + 1000 : Nat) : Int) := by
                rw [show (16 : Int) * (xn : Int) = ((16 * xn : Nat) : Int) by omega, U64_nat, Nat.mod_eq_of_lt (by omega), show ((16 * xn : Nat) : Int) + 1000 = ((16 * xn + 1000 : Nat) : Int) by omega, U64_nat, Nat.mod_eq_of_lt (by omega)]
              rw [e2]
              refine bif_i (fun h10 => ?_) fun h10 => ?_
              · have h10' := of_decide_eq_true h10
                exact ⟨by rw [if_pos (by omega)]; rfl, H.fr⟩
              · have h10' := of_decide_eq_false h10
                rw [if_neg (by omega), W64_nat (by omega : yn < 9223372036854775808)]
                have e3 : W64 ((yn : Int) + 8) = ((yn + 8 : Nat) : Int) := by rw [show (yn : Int) + 8 = ((yn + 8 : Nat) : Int) by omega, W64_nat (by omega)]
                have e4 : W64 ((l.length : Int) - (ynext : Int)) = ((l.length - ynext : Nat) : Int) := by rw [show (l.length : Int) - (ynext : Int) = ((l.length - ynext : Nat) : Int) by omega, W64_nat (by omega)]
                rw [e3, e4]
                refine bif_i (fun h11 => ?_) fun h11 => ?_
                · have h11' := of_decide_eq_true h11
                  exact ⟨by rw [if_pos (by omega)]; rfl, H.fr⟩
                · have h11' := of_decide_eq_false h11
                  exact ⟨by rw [if_neg (by omega), W64_nat (n := xn) (by omega)]; rfl, H.fr⟩

/-- A block that stands at a place: its way, its numbers, what stands next; or an error. -/
def getRest (l : List UInt8) (seed : Nat) (way next : Nat) (r : Except Nat (List Int)) : Except Nat (Nat × List Int × Nat) :=
  match r with
  | .error _ => .error 3
  | .ok ns => if (readR l (next : Int) wgetR).2.2 ≠ 0 then .error (readR l (next : Int) wgetR).2.2
    else if (readR l (next : Int) wgetR).1 ≠ sumN seed (plainB ns) then .error 4 else .ok (way, ns, (readR l (next : Int) wgetR).2.1)
/-- A block's value. -/
def BlkV (w : World) (v : Value) (r : Except Nat (Nat × List Int × Nat)) : Prop :=
  match r with
  | .error k => v = .tuple #[.int .i64 0, .slice none 0 0, .int .i64 0, .int .i64 (k : Int)]
  | .ok (way, ns, next) => ∃ a c, v = .tuple #[.int .i64 (way : Int), .slice a ns.length c, .int .i64 (next : Int), .int .i64 0] ∧ SlI w a ns.length ns

theorem headR_ok {l : List UInt8} {at_ most : Int} (h : (headR l at_ most).e = 0) : (headR l at_ most).next + (headR l at_ most).size + 8 ≤ l.length ∧ (headR l at_ most).way ≤ 3 ∧ 1 ≤ (headR l at_ most).n ∧ (headR l at_ most).n ≤ 4096 := by
  unfold headR at h ⊢
  split at h
  · simp [HD.bad] at h
  · rename_i h1
    rw [if_neg h1]
    split at h
    · simp [HD.bad] at h
    · rename_i h2
      rw [if_neg h2]
      unfold headA at h ⊢
      split at h
      · simp [HD.bad] at h
      · rename_i h3
        rw [if_neg h3]
        split at h
        · rename_i h4; exact absurd h h4
        · rename_i h4
          rw [if_neg h4]
          split at h
          · simp [HD.bad] at h
          · rename_i h5
            rw [if_neg h5]
            split at h
            · simp [HD.bad] at h
            · rename_i h6
              rw [if_neg h6]
              unfold headB at h ⊢
              split at h
              · rename_i h7; exact absurd h h7
              · rename_i h7
                rw [if_neg h7]
                split at h
                · simp [HD.bad] at h
                · rename_i h8
                  rw [if_neg h8]
                  split at h
                  · simp [HD.bad] at h
                  · rename_i h9
                    rw [if_neg h9]
                    refine ⟨?_, ?_, ?_, ?_⟩ <;> dsimp only <;> omega

def blkR (l : List UInt8) (at_ : Int) (seed : Nat) (most : Int) (unl : Nat → Nat → List UInt8 → Option (List Int)) : Except Nat (Nat × List Int × Nat) :=
  if (headR l at_ most).e ≠ 0 then .error (headR l at_ most).e
  else getRest l seed (headR l at_ most).way ((headR l at_ most).next + (headR l at_ most).size)
    (match unl (headR l at_ most).way (headR l at_ most).n ((l.drop (headR l at_ most).next).take (headR l at_ most).size) with | some ns => .ok ns | none => .error 3)

theorem T_block_Get (l : List UInt8) (at_ : Int) (seed : Nat) (hseed : seed < WW) (most : Int) (unl : Nat → Nat → List UInt8 → Option (List Int)) (hl : l.length ≤ 140737488355328) (w : World)
    (hw : (headR l at_ most).e = 0 → ∀ w1, Calls prog (unlF (headR l at_ most).way) #[.agg #[.string (S ((l.drop (headR l at_ most).next).take (headR l at_ most).size)), .int .i64 ((headR l at_ most).n : Int)]] w1 fun e w' =>
      ∃ v, e = .returned v ∧ SlOk w' v (unl (headR l at_ most).way (headR l at_ most).n ((l.drop (headR l at_ most).next).take (headR l at_ most).size)) ∧ Fr [] w1 w')
    (hlen : ∀ way n s ns, unl way n s = some ns → 8 * ns.length ≤ 140737488355328) :
    Calls prog n_block_Get #[.string (S l), .int .i64 at_, .int .u64 (seed : Int), .int .i64 most] w fun e w' => ∃ v, e = .returned v ∧ BlkV w' v (blkR l at_ seed most unl) ∧ Fr [] w w' := by
  refine S_block_Get ?_
  unfold F_block_Get
  refine Calls.st (St.start [] w) (T_block_head l at_ most hl w) fun w1 H => ?_
  have hok := headR_ok (l := l) (at_ := at_) (most := most)
  have hB : blkR l at_ seed most unl = if (headR l at_ most).e ≠ 0 then .error (headR l at_ most).e
    else getRest l seed (headR l at_ most).way ((headR l at_ most).next + (headR l at_ most).size)
      (match unl (headR l at_ most).way (headR l at_ most).n ((l.drop (headR l at_ most).next).take (headR l at_ most).size) with | some ns => .ok ns | none => .error 3) := rfl
  generalize headR l at_ most = x at hw hok hB
  obtain ⟨way, n, size, next, e⟩ := x
  refine ⟨_, _, _, _, _, rfl, ?_⟩
  dsimp only at hw hok hB ⊢
  refine bif_i (fun h1 => ?_) fun h1 => ?_
  · have h1' : e ≠ 0 := by intro h0; rw [h0] at h1; simp at h1
    exact ⟨_, rfl, by rw [hB, if_pos h1']; rfl, H.fr⟩
  · have h1' : e = 0 := by
      have : ¬ ((e : Int) ≠ 0) := by simpa using h1
      omega
    subst h1'
    rw [if_neg (by simp)] at hB
    obtain ⟨hsz, hway, hn1, hn2⟩ := hok rfl
    have e1 : W64 ((next : Int) + (size : Int)) = ((next + size : Nat) : Int) := by rw [show (next : Int) + (size : Int) = ((next + size : Nat) : Int) by omega, W64_nat (by omega)]
    rw [e1, S_size, Int.toNat_natCast, Int.toNat_natCast, S_extract, List.drop_take, Nat.add_sub_cancel_left]
    refine ⟨by omega, by omega, by omega, by omega, ?_⟩
    have hw1 := hw rfl
    refine (T_block_Unload (way : Int) (n : Int) _ _ w1 (fun _ w2 => by rw [Int.toNat_natCast]; exact hw1 w2)).mono ?_
    rintro e2 w2 ⟨v, rfl, hv, hf⟩
    replace H := H.call0 hf
    have hue : unlErr (way : Int) (n : Int) = false := by
      simp [unlErr, isWayB, inB]; omega
    cases hu : unl way n ((l.drop next).take size) with
    | none =>
      rw [hu] at hv hB
      have hv' : v = .tuple #[.slice none 0 0, .int .i64 3] := by
        have : unlR (way : Int) (n : Int) none = .error 3 := by unfold unlR; rw [if_neg (by simp [hue])]
        rw [this] at hv; exact hv
      subst hv'
      refine ⟨_, _, _, _, rfl, bif_i (fun h2 => ?_) fun h2 => ?_⟩
      · exact ⟨_, rfl, by rw [hB]; rfl, H.fr⟩
      · simp at h2
    | some ns =>
      rw [hu] at hv hB
      have hv' : SlE w2 v (.ok ns) := by
        have : unlR (way : Int) (n : Int) (some ns) = .ok ns := by unfold unlR; rw [if_neg (by simp [hue])]
        rw [this] at hv; exact hv
      obtain ⟨a, c, rfl, hs⟩ := hv'
      have hnl := hlen _ _ _ _ hu
      refine ⟨_, _, _, _, rfl, bif_i (fun h2 => ?_) fun h2 => ?_⟩
      · simp at h2
      · refine Calls.stf H (T_vint_GetWord l _ (by omega) w2) fun w3 hf3 H => ⟨_, _, _, rfl, ?_⟩
        have hs3 := hs.fr0 hf3
        have hG : getRest l seed way (next + size) (.ok ns) = if (readR l ((next + size : Nat) : Int) wgetR).2.2 ≠ 0 then .error (readR l ((next + size : Nat) : Int) wgetR).2.2
          else if (readR l ((next + size : Nat) : Int) wgetR).1 ≠ sumN seed (plainB ns) then .error 4 else .ok (way, ns, (readR l ((next + size : Nat) : Int) wgetR).2.1) := rfl
        generalize readR l ((next + size : Nat) : Int) wgetR = y at hG
        obtain ⟨yn, ynext, ye⟩ := y
        simp only at hG ⊢
        refine bif_i (fun h3 => ?_) fun h3 => ?_
        · have h3' : ye ≠ 0 := by intro h0; rw [h0] at h3; simp at h3
          exact ⟨_, rfl, by rw [hB, hG, if_pos h3']; rfl, H.fr⟩
        · have h3' : ye = 0 := by
            have : ¬ ((ye : Int) ≠ 0) := by simpa using h3
            omega
          subst h3'
          rw [if_neg (by simp)] at hG
          refine Calls.stf H (T_plain_Put a ns.length c ns w3 hs3 hnl) fun w4 hf4 H => ⟨_, rfl, ?_⟩
          refine Calls.stf H (T_xxh_Sum seed hseed (plainB ns) (by rw [plainB_len]; omega) w4) fun w5 hf5 H => ⟨_, rfl, ?_⟩
          refine bif_i (fun h4 => ?_) fun h4 => ?_
          · have h4' : yn ≠ sumN seed (plainB ns) := by intro h0; rw [h0] at h4; simp at h4
            exact ⟨_, rfl, by rw [hB, hG, if_pos h4']; rfl, H.fr⟩
          · have h4' : yn = sumN seed (plainB ns) := by
              have : ¬ ((yn : Int) ≠ (sumN seed (plainB ns) : Int)) := by simpa using h4
              omega
            exact ⟨_, rfl, by rw [hB, hG, if_neg (by simpa using h4')]; exact ⟨a, c, rfl, (hs3.fr0 hf4).fr0 hf5⟩, H.fr⟩
end Go.Proofs.Tryz
