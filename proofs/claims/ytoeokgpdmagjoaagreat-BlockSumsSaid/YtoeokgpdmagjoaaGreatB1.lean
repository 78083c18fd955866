import Derived.Test.YtoeokgpdmagjoaaGreatGA
import Derived.Test.YtoeokgpdmagjoaaGreatVO
import Derived.Test.YtoeokgpdmagjoaaGreatCC
import Derived.Lib.Builder
import Derived.Lib.UnsafeStr
import Derived.Lib.AppendStr
import Derived.Lib.Walk
import Derived.WalkKit
import Derived.Test.YtoeokgpdmagjoaaGreatSH
/-
strings.Builder: what its methods do, over this program.
-/
namespace Go.Proofs.Tryz
open Go Go.RowKit Go.Proofs.VC
set_option linter.unusedVariables false

variable {M : List Nat} {w0 w : World} {L : List (Nat × Obj)}

theorem info5 : ∃ i, prog.info? t_uint8 = some i ∧ i.zero = some (.int .u8 0) ∧ i.size = 1 ∧ i.bytes = 1 := ⟨(prog.info? t_uint8).get (by kernel_rfl), by kernel_rfl, by kernel_rfl, by kernel_rfl, by kernel_rfl⟩
theorem info2 : ∃ i, prog.info? t_int64 = some i ∧ i.zero = some (.int .i64 0) ∧ i.size = 1 ∧ i.bytes = 8 := ⟨(prog.info? t_int64).get (by kernel_rfl), by kernel_rfl, by kernel_rfl, by kernel_rfl, by kernel_rfl⟩

/-- What WriteString does. -/
theorem T_strings_Builder_WriteString {b j : Nat} {p : Value} {a : Option Addr} {n c : Nat} {l s : List UInt8} {R : Ending → World → Prop} (H : St M w0 w L) (hj : L[j]? = some (b, .cells #[p, .slice a n c] t_strings_Builder (0, 0)))
    (hp : p = .pointer none ∨ p = .pointer (some (A0 b))) (ho : Ow M w0 w L t_uint8 1 a n c (u8s l)) (hb : n + s.length ≤ 140737488355328)
    (h : ∀ a' c' w', St M w0 w' (L.set j (b, .cells #[.pointer (some (A0 b)), .slice a' (n + s.length) c'] t_strings_Builder (0, 0))) →
      Ow M w0 w' (L.set j (b, .cells #[.pointer (some (A0 b)), .slice a' (n + s.length) c'] t_strings_Builder (0, 0))) t_uint8 1 a' (n + s.length) c' (u8s (l ++ s)) → R (.returned (.tuple #[.int .i64 (s.length : Int), .nilIface])) w') :
    Calls prog n_strings_Builder_WriteString #[.pointer (some (A0 b)), .string (S s)] w R := by
  refine S_strings_Builder_WriteString ?_
  unfold F_strings_Builder_WriteString
  obtain ⟨i5, hi, hz, hs, hby⟩ := info5
  have hlt := (List.getElem?_eq_some_iff.1 hj).1
  have rest : ∀ w1, St M w0 w1 (L.set j (b, .cells #[.pointer (some (A0 b)), .slice a n c] t_strings_Builder (0, 0))) → Ow M w0 w1 (L.set j (b, .cells #[.pointer (some (A0 b)), .slice a n c] t_strings_Builder (0, 0))) t_uint8 1 a n c (u8s l) →
      ∃ x12 x12n x12c, w1.cell? ((A0 b).add 1) = some (.slice x12 x12n x12c) ∧ ∃ x14 x14n x14c, ∃ w2 : World, (Builtin.append_ #[t_S_uint8, t_string] t_S_uint8 #[.slice x12 x12n x12c, .string (S s)]).run prog w1 = .ok (.slice x14 x14n x14c) w2 ∧
        OSome (some (A0 b)) fun p15 => Sto w2 (p15.add 1) (.slice x14 x14n x14c) fun w3 => R (.returned (.tuple #[.int .i64 (((S s).size : Nat) : Int), .nilIface])) w3 := by
    intro w1 H1 ho1
    have hj1 : (L.set j (b, Obj.cells #[.pointer (some (A0 b)), .slice a n c] t_strings_Builder (0, 0)))[j]? = some (b, .cells #[.pointer (some (A0 b)), .slice a n c] t_strings_Builder (0, 0)) := by simp [hlt]
    refine ⟨a, n, c, ?_, ?_⟩
    · rw [A0_add]; exact H1.cell j hj1 rfl
    · refine St.appendS H1 ho1 u_S_uint8 u_string hi hz hs hby s hb fun a' c2 w2 H2 ho2 => ?_
      rw [OSome_some, A0_add]
      refine H2.sto_own ho2 j hj1 (by simp) fun w3 H3 ho3 => ?_
      rw [S_size]
      rw [List.set_set] at H3 ho3
      rw [← u8s_app] at ho3
      exact h a' c2 w3 H3 ho3
  have hb0 := H.get j hj
  rcases hp with rfl | rfl
  · refine (copyCheck_fresh b w ?_ ?_ ?_).mono ?_
    · rw [cell_of_heap hb0]; rfl
    · simp [World.shape?, hb0]
    · exact frozen_of_heap hb0 (.inr (Nat.zero_le _))
    · rintro e w1 ⟨rfl, rfl⟩
      refine ⟨rfl, OSome.i ?_⟩
      refine rest _ (H.setAt j hj) (ho.after (Fr.setCell (M := [b]) w (a := ⟨b, 0, none⟩) (by simp) _) ?_ (keys_set hj))
      intro q hq hm
      have := ho.sep q hq _ (List.mem_of_getElem? hj)
      simp at hm
      exact this hm.symm
  · refine (copyCheck_used b w ?_).mono ?_
    · rw [cell_of_heap hb0]; rfl
    · rintro e w1 ⟨rfl, rfl⟩
      refine ⟨rfl, OSome.i ?_⟩
      have e1 : L.set j (b, Obj.cells #[.pointer (some (A0 b)), .slice a n c] t_strings_Builder (0, 0)) = L := by
        apply List.ext_getElem?
        intro k
        by_cases hk : j = k
        · subst hk; rw [List.getElem?_set_self hlt, hj]
        · rw [List.getElem?_set_ne hk]
      exact rest _ (by rw [e1]; exact H) (by rw [e1]; exact ho)

/-- append of one byte, of one number. -/
theorem app8 {b : Nat} {v : UInt8} {a : Option Addr} {n c : Nat} {l : List UInt8} {x : Int} (H : St M w0 w ((b, .cells #[.int .u8 x] t_uint8 (0, 0)) :: L)) (ho : Ow M w0 w ((b, .cells #[.int .u8 x] t_uint8 (0, 0)) :: L) t_uint8 1 a n c (u8s l))
    (hx : x = (v.toNat : Int)) (hn : n + 1 ≤ 140737488355328)
    {G : Option Addr → Nat → Nat → World → Prop} (hg : ∀ a' c2 w', St M w0 w' L → Ow M w0 w' L t_uint8 1 a' (n + 1) c2 (u8s (l ++ [v])) → G a' (n + 1) c2 w') :
    ∃ x xn xc, ∃ w' : World, (Builtin.append_ #[t_S_uint8, t_S_uint8] t_S_uint8 #[.slice a n c, .slice (some (A0 b)) 1 1]).run prog w = .ok (.slice x xn xc) w' ∧ G x xn xc w' := by
  obtain ⟨i5, hi, hz, hs, hby⟩ := info5
  subst hx
  refine St.append H ho u_S_uint8 hi hz hs hby rfl (by decide) (news := [.int .u8 (v.toNat : Int)]) rfl (by decide) (H.sl 0 rfl) (by simp [Value.oneCell']) (by omega) (by decide) fun a' c2 w' H' ho' => ?_
  refine hg a' c2 w' H'.tail ?_
  rw [u8s_app]
  exact ho'.tail
theorem app64 {b : Nat} {v : Int} {a : Option Addr} {n c : Nat} {l : List Int} (H : St M w0 w ((b, .cells #[.int .i64 v] t_int64 (0, 0)) :: L)) (ho : Ow M w0 w ((b, .cells #[.int .i64 v] t_int64 (0, 0)) :: L) t_int64 1 a n c (i64s l))
    (hn : (n + 1) * 8 ≤ 140737488355328)
    {G : Option Addr → Nat → Nat → World → Prop} (hg : ∀ a' c2 w', St M w0 w' L → Ow M w0 w' L t_int64 1 a' (n + 1) c2 (i64s (l ++ [v])) → G a' (n + 1) c2 w') :
    ∃ x xn xc, ∃ w' : World, (Builtin.append_ #[t_S_int64, t_S_int64] t_S_int64 #[.slice a n c, .slice (some (A0 b)) 1 1]).run prog w = .ok (.slice x xn xc) w' ∧ G x xn xc w' := by
  obtain ⟨i2, hi, hz, hs, hby⟩ := info2
  refine St.append H ho u_S_int64 hi hz hs hby rfl (by decide) (news := [.int .i64 v]) rfl (by decide) (H.sl 0 rfl) (by simp [Value.oneCell']) (by omega) (by decide) fun a' c2 w' H' ho' => ?_
  refine hg a' c2 w' H'.tail ?_
  rw [i64s_app]
  exact ho'.tail

/-- What String does, at the end. -/
theorem T_strings_Builder_String {b j : Nat} {p : Value} {a : Option Addr} {n c : Nat} {l : List UInt8} {R : Ending → World → Prop} (H : St [] w0 w L) (hj : L[j]? = some (b, .cells #[p, .slice a n c] t_strings_Builder (0, 0)))
    (hp : p = .pointer none ∨ p = .pointer (some (A0 b))) (ho : Ow [] w0 w L t_uint8 1 a n c (u8s l)) (h : ∀ w', St [] w0 w' [] → R (.returned (.string (S l))) w') :
    Calls prog n_strings_Builder_String #[.pointer (some (A0 b))] w R := by
  have hmem := List.mem_of_getElem? hj
  have hb0 := H.get j hj
  have hat : Lib.BuilderAt t_strings_Builder t_uint8 w0.heap.size b p (Lib.byteCells l) w := by
    refine ⟨by rcases (H.own _ hmem).1 with h | h <;> simp_all, .slice a n c, hb0, ?_, ?_⟩
    · have hl := ho.len
      have hl' : n = (Lib.byteCells l).length := by simpa [Lib.byteCells_length] using hl.symm
      rw [← hl']
      refine ⟨by rw [Nat.mul_one]; exact hl'.symm, ?_⟩
      rcases ho.row.2 with h | ⟨g, cap, cur, hv, _, rest⟩
      · exact .inl h
      · cases hv
        refine .inr ⟨g, c, cur, rfl, ?_, rest⟩
        rcases ho.new _ rfl with h | h
        · exact h
        · simp at h
    · intro hh
      cases a with
      | none => cases hh
      | some q =>
        simp [Value.ownBlock] at hh
        exact ho.sep q rfl _ hmem hh.symm
  refine (Builder_String_any w0.heap.size b l w ?_ H.fr.size).mono ?_
  · rcases hp with rfl | rfl
    · exact .inl hat
    · exact .inr hat
  · rintro e w' ⟨rfl, hbel⟩
    exact h w' ⟨⟨hbel.os.trans H.fr.os, hbel.tape.trans H.fr.tape, hbel.output.trans H.fr.output, Nat.le_trans H.fr.size hbel.size, fun k hk hm => (hbel.block k hk).trans (H.fr.block k hk hm)⟩, by simp, by simp⟩
end Go.Proofs.Tryz
