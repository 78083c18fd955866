/-
BlockCuts holds of the given program: a block that is cut asks for more, and one whose load is other than it says does not; for all arguments, with no further conditions.
-/
import Derived.Test.YtoeokgpdmagjoaaGreatRows
import Derived.WalkKit
import Derived.ProofKit
import Derived.OpenShut
import Derived.Below
import Derived.Test.YtoeokgpdmagjoaaGreatT14


namespace Go.Proofs.YtoeokgpdmagjoaaGreat.blockCuts
open Go.ChangeShapes Go.WideShapes Go.ChangeAt Go.RowKit
set_option linter.unusedVariables false

theorem own : ownKnob Tryz.prog.godebug = none := by kernel_rfl
theorem readable : (Tryz.f9.params.toList.all fun t => Tryz.prog.readableRec t && decide (t < Tryz.prog.types.size)) = true := by kernel_rfl

set_option maxRecDepth 100000 in
theorem lifted (os : Os) (started : os.Started) (H : Type) (enc : TypeId × Value → H) :
    ReturnsInHanded {} Tryz.checked os 9 .any (Rows.blockCutsSpec.pre6 enc Tryz.prog Tryz.f9 Rows.blockCutsRow.domain false) (Rows.blockCutsSpec.post enc Tryz.prog Tryz.f9 false true false false) := by
  refine returnsInHanded_of_change (C := Tryz.checked) own started (by kernel_rfl) Tryz.func9
    (ChangeSpec.witness6 (enc := enc) (C := Tryz.checked) false ⟨#[], #[.slice none 0 0, .int .u8 0, .int .u8 0, .int .u8 0, .int .u8 0, .int .u64 0, .int .u16 0], []⟩ 8 (by kernel_rfl) (by kernel_rfl) (by kernel_rfl) (by kernel_rfl)) ?_
  intro W base args ds gs before hval0 hW hcnd _
  have hval : ∀ (j : Nat) t v, Tryz.f9.params[j]? = some t → args[j]? = some v → Value.okWide Tryz.prog W .any base t v := hval0
  have hW' := hW
  obtain ⟨p, q, hA0, hV, rfl, hfz, hnd⟩ := hW
  have hA : DataW.TrodAll enc Tryz.prog W 0 (fun _ => true) true Tryz.f9.params.toList args.toList ds p := hA0
  have hlt : ∀ x ∈ p, x.block < W.heap.size := fun x hx => by
    have := hW'.lt x (List.mem_append_left _ hx)
    simpa using this
  have hkeep : ∀ W', Below W.heap.size W W' → DataW.TrodAll enc Tryz.prog W' 0 (fun b => decide (b < W.heap.size)) true Tryz.f9.params.toList args.toList ds p := fun W' hb => Tryz.trodAll_below Go.Proofs.YtoeokgpdmagjoaaGreat.pf_laid hb readable hA hlt
  have hA2 := hA
  rw [Tryz.params9] at hA2 hval
  obtain ⟨v0, vs0, d0, ds0, p0, q0, hargs, rfl, rfl, h0, r0⟩ := trodAll_cons hA2
  obtain ⟨v1, vs1, d1, ds1, p1, q1, rfl, rfl, rfl, h1, r1⟩ := trodAll_cons r0
  obtain ⟨v2, vs2, d2, ds2, p2, q2, rfl, rfl, rfl, h2, r2⟩ := trodAll_cons r1
  obtain ⟨v3, vs3, d3, ds3, p3, q3, rfl, rfl, rfl, h3, r3⟩ := trodAll_cons r2
  obtain ⟨v4, vs4, d4, ds4, p4, q4, rfl, rfl, rfl, h4, r4⟩ := trodAll_cons r3
  obtain ⟨v5, vs5, d5, ds5, p5, q5, rfl, rfl, rfl, h5, r5⟩ := trodAll_cons r4
  obtain ⟨v6, vs6, d6, ds6, p6, q6, rfl, rfl, rfl, h6, r6⟩ := trodAll_cons r5
  obtain ⟨rfl, rfl, rfl⟩ := trodAll_nil r6
  obtain rfl : args = #[v0, v1, v2, v3, v4, v5, v6] := by cases args; simp_all
  obtain ⟨rfl, rfl⟩ := trodVars_none hV
  obtain ⟨a0, n0, c0, ns0, rfl, hc0, hm0, hn0, hx0, hs0⟩ := Tryz.arg_u16s Tryz.underlying47 Tryz.underlying48 (by kernel_rfl) (hval 0 47 v0 rfl rfl) h0
  obtain ⟨a1, rfl, w1⟩ := Tryz.arg_u8 Tryz.underlying5 (hval 1 5 v1 rfl rfl) h1
  obtain ⟨a2, rfl, w2⟩ := Tryz.arg_u8 Tryz.underlying5 (hval 2 5 v2 rfl rfl) h2
  obtain ⟨a3, rfl, w3⟩ := Tryz.arg_u8 Tryz.underlying5 (hval 3 5 v3 rfl rfl) h3
  obtain ⟨a4, rfl, w4⟩ := Tryz.arg_u8 Tryz.underlying5 (hval 4 5 v4 rfl rfl) h4
  obtain ⟨a5, rfl, w5⟩ := Tryz.arg_u64 Tryz.underlying22 (hval 5 22 v5 rfl rfl) h5
  obtain ⟨a6, rfl, w6⟩ := Tryz.arg_u16 Tryz.underlying48 (hval 6 48 v6 rfl rfl) h6
  simp only [List.append_nil] at hW'
  refine (Tryz.T_l21_BlockCuts a0 n0 c0 ns0 hx0 a1 a2 a3 a4 w1 w2 w3 w4 a5 w5 a6 w6 W hn0 hs0).mono fun e W' ⟨he, hg⟩ => ?_
  subst he
  exact ⟨_, rfl, _, _, _, [], _, [], hW', trodAll_cons_mk (shut_bool Tryz.underlying4 _) trodAll_mk0, hkeep W' hg.below, rfl, hg.below.frame _, fun h => by cases h⟩

theorem over : Rows.blockCutsRow.holds Tryz.pinned (OpenSpec.ofChange Rows.blockCutsSpec) :=
  OpenClaim.holds_of_wide 9 Tryz.f9 rfl rfl rfl rfl rfl rfl rfl ⟨rfl, rfl, rfl, rfl, rfl⟩ rfl rfl rfl rfl rfl (by kernel_rfl) Tryz.func9 closedBlockCuts
    (of_decide_eq_true (by kernel_rfl)) (by unfold Func.isWrapper; first | (rw [if_pos (by decide +kernel)]; kernel_rfl) | (rw [if_neg (by decide +kernel)]; exact ⟨rfl, rfl⟩))
    (fun os started H enc _ => lifted os started H enc)

theorem proved : Rows.BlockCutsSaid :=
  over
#print axioms proved
end Go.Proofs.YtoeokgpdmagjoaaGreat.blockCuts
