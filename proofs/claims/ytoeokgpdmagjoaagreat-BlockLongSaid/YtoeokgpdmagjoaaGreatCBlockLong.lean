/-
BlockLong holds of the given program: a block of any numbers by any way is told again, is no longer than sixteen bytes a number and a thousand, and a plain one has eight a number; for all arguments, with no further conditions.
-/
import Derived.Test.YtoeokgpdmagjoaaGreatRows
import Derived.WalkKit
import Derived.ProofKit
import Derived.OpenShut
import Derived.Below
import Derived.Test.YtoeokgpdmagjoaaGreatT13


namespace Go.Proofs.YtoeokgpdmagjoaaGreat.blockLong
open Go.ChangeShapes Go.WideShapes Go.ChangeAt Go.RowKit
set_option linter.unusedVariables false

theorem own : ownKnob Tryz.prog.godebug = none := by kernel_rfl
theorem readable : (Tryz.f6.params.toList.all fun t => Tryz.prog.readableRec t && decide (t < Tryz.prog.types.size)) = true := by kernel_rfl

set_option maxRecDepth 100000 in
theorem lifted (os : Os) (started : os.Started) (H : Type) (enc : TypeId × Value → H) :
    ReturnsInHanded {} Tryz.checked os 6 .any (Rows.blockLongSpec.pre6 enc Tryz.prog Tryz.f6 Rows.blockLongRow.domain false) (Rows.blockLongSpec.post enc Tryz.prog Tryz.f6 false true false false) := by
  refine returnsInHanded_of_change (C := Tryz.checked) own started (by kernel_rfl) Tryz.func6
    (ChangeSpec.witness6 (enc := enc) (C := Tryz.checked) false ⟨#[], #[.slice none 0 0, .int .u8 0, .int .u8 0, .int .u8 0, .slice none 0 0], []⟩ 8 (by kernel_rfl) (by kernel_rfl) (by kernel_rfl) (by kernel_rfl)) ?_
  intro W base args ds gs before hval0 hW hcnd _
  have hval : ∀ (j : Nat) t v, Tryz.f6.params[j]? = some t → args[j]? = some v → Value.okWide Tryz.prog W .any base t v := hval0
  have hW' := hW
  obtain ⟨p, q, hA0, hV, rfl, hfz, hnd⟩ := hW
  have hA : DataW.TrodAll enc Tryz.prog W 0 (fun _ => true) true Tryz.f6.params.toList args.toList ds p := hA0
  have hlt : ∀ x ∈ p, x.block < W.heap.size := fun x hx => by
    have := hW'.lt x (List.mem_append_left _ hx)
    simpa using this
  have hkeep : ∀ W', Below W.heap.size W W' → DataW.TrodAll enc Tryz.prog W' 0 (fun b => decide (b < W.heap.size)) true Tryz.f6.params.toList args.toList ds p := fun W' hb => Tryz.trodAll_below Go.Proofs.YtoeokgpdmagjoaaGreat.pf_laid hb readable hA hlt
  have hA2 := hA
  rw [Tryz.params6] at hA2 hval
  obtain ⟨v0, vs0, d0, ds0, p0, q0, hargs, rfl, rfl, h0, r0⟩ := trodAll_cons hA2
  obtain ⟨v1, vs1, d1, ds1, p1, q1, rfl, rfl, rfl, h1, r1⟩ := trodAll_cons r0
  obtain ⟨v2, vs2, d2, ds2, p2, q2, rfl, rfl, rfl, h2, r2⟩ := trodAll_cons r1
  obtain ⟨v3, vs3, d3, ds3, p3, q3, rfl, rfl, rfl, h3, r3⟩ := trodAll_cons r2
  obtain ⟨v4, vs4, d4, ds4, p4, q4, rfl, rfl, rfl, h4, r4⟩ := trodAll_cons r3
  obtain ⟨rfl, rfl, rfl⟩ := trodAll_nil r4
  obtain rfl : args = #[v0, v1, v2, v3, v4] := by cases args; simp_all
  obtain ⟨rfl, rfl⟩ := trodVars_none hV
  obtain ⟨a0, n0, c0, ns0, rfl, hc0, hm0, hn0, hx0, hs0⟩ := Tryz.arg_u16s Tryz.underlying47 Tryz.underlying48 (by kernel_rfl) (hval 0 47 v0 rfl rfl) h0
  obtain ⟨a1, rfl, w1⟩ := Tryz.arg_u8 Tryz.underlying5 (hval 1 5 v1 rfl rfl) h1
  obtain ⟨a2, rfl, w2⟩ := Tryz.arg_u8 Tryz.underlying5 (hval 2 5 v2 rfl rfl) h2
  obtain ⟨a3, rfl, w3⟩ := Tryz.arg_u8 Tryz.underlying5 (hval 3 5 v3 rfl rfl) h3
  obtain ⟨a4, n4, c4, ns4, rfl, hc4, hm4, hn4, hx4, hs4⟩ := Tryz.arg_i64s Tryz.underlying25 Tryz.underlying2 (by kernel_rfl) (hval 4 25 v4 rfl rfl) h4
  simp only [List.append_nil] at hW'
  refine (Tryz.T_l21_BlockLong a0 n0 c0 ns0 hx0 a1 a2 a3 w1 w2 w3 a4 n4 c4 ns4 hx4 W hn0 hs0 hc4 hn4 hs4).mono fun e W' ⟨he, hg⟩ => ?_
  subst he
  exact ⟨_, rfl, _, _, _, [], _, [], hW', trodAll_cons_mk (shut_bool Tryz.underlying4 _) trodAll_mk0, hkeep W' hg.below, rfl, hg.below.frame _, fun h => by cases h⟩

theorem over : Rows.blockLongRow.holds Tryz.pinned (OpenSpec.ofChange Rows.blockLongSpec) :=
  OpenClaim.holds_of_wide 6 Tryz.f6 rfl rfl rfl rfl rfl rfl rfl ⟨rfl, rfl, rfl, rfl, rfl⟩ rfl rfl rfl rfl rfl (by kernel_rfl) Tryz.func6 closedBlockLong
    (of_decide_eq_true (by kernel_rfl)) (by unfold Func.isWrapper; first | (rw [if_pos (by decide +kernel)]; kernel_rfl) | (rw [if_neg (by decide +kernel)]; exact ⟨rfl, rfl⟩))
    (fun os started H enc _ => lifted os started H enc)

theorem proved : Rows.BlockLongSaid :=
  over
#print axioms proved
end Go.Proofs.YtoeokgpdmagjoaaGreat.blockLong
