import Derived.Test.YtoeokgpdmagjoaaGreatVH
namespace Go.Proofs.VC
open Go
section
variable {P : Program} {T : Nat → TI} {fok : Nat → Bool} {ops : Array Oper} {Q : Exit → Act → World → Prop}

theorem LdL_ents {w : World} {p : Addr} {i : Nat} : ∀ {cs : List Value} {k : Nat}, LdL w p k cs → ∀ e ∈ entsOf i p k cs, e.1 = i ∧ w.cell? e.2.1 = some e.2.2
  | [], _, _, e, he => by simp [entsOf] at he
  | c :: cs, k, h, e, he => by
    rcases List.mem_cons.1 he with rfl | he
    · exact ⟨rfl, h.1⟩
    · exact LdL_ents h.2 e he

theorem LdL_of_ents {w : World} {p : Addr} {i : Nat} : ∀ {cs : List Value} {k : Nat}, (∀ e ∈ entsOf i p k cs, w.cell? e.2.1 = some e.2.2) → LdL w p k cs
  | [], _, _ => trivial
  | c :: cs, k, h => ⟨h (i, p.add k, c) (by simp [entsOf]), LdL_of_ents (i := i) fun e he => h e (List.mem_cons_of_mem _ he)⟩

theorem run_load_agg (H : Tab P T fok) {t : Nat} {p : Addr} {cs : List Value} {w : World} (ht : typed (T t).d = true) (hagg : isAggD (T t).d = true) (hl : cs.length = (T t).fl.length) (h : LdL w p 0 cs) :
    (Instr.loadAt t (.pointer (some p))).run P w = .ok (.agg cs.toArray) w := by
  have hag := H.run_isAgg (typed_spec ht).1 (typed_spec ht).2 w
  have hsz := H.run_sizeOf (typed_spec ht).1 (typed_spec ht).2 w
  rw [hagg] at hag
  have hlen : cs.length = (T t).size := by rw [hl]; exact H.size_one (typed_spec ht).1 (typed_spec ht).2
  have hc := run_loadCells_list (P := P) w p cs (fun j v hj => by simpa using LdL_spec h j v hj)
  simp only [Instr.loadAt, Instr.sureAddr, Sem.run_bind, Sem.run_pure, Result.andThen, loadVar, hag, if_true, hsz, ← hlen, hc]

theorem run_load_one (H : Tab P T fok) {t : Nat} {p : Addr} {v : Value} {w : World} (ht : typed (T t).d = true) (hagg : isAggD (T t).d = false) (h : w.cell? p = some v) :
    (Instr.loadAt t (.pointer (some p))).run P w = .ok v w := by
  have hag := H.run_isAgg (typed_spec ht).1 (typed_spec ht).2 w
  rw [hagg] at hag
  simp only [Instr.loadAt, Instr.sureAddr, Sem.run_bind, Sem.run_pure, Result.andThen, loadVar, hag, Bool.false_eq_true, if_false, run_load, h]

theorem takeP_sound (H : Tab P T fok) {n i : Nat} {o : Oper} {a : Act} {f : E} {w : World} {K : List Ent → E → Prop} (hr : Rep n a f) (h : takeP P T n ops i o f w K)
    (hsel : ∀ cs b, o.op ≠ .select cs b) :
    ∃ v es f', K es f' ∧ Rep n (a.put o.dst v) f' ∧ (∀ e ∈ es, e.1 = i ∧ w.cell? e.2.1 = some e.2.2) ∧ ∀ Sl, (∀ e ∈ es, e ∈ Sl) → YieldsIf P ops (OfI Sl i) o v a := by
  obtain ⟨f1, hr1, hh⟩ := guardE_sound hr h
  rcases hh with ⟨hw, hy⟩ | ⟨hw, hy⟩
  · obtain ⟨hk, hy⟩ := cond_true hy
    have hex := hr1.exec hsel hk
    split at hy
    · rename_i t x hop
      split at hy
      · rename_i p hx
        obtain ⟨ht, hy⟩ := cond_true hy
        have hexec : execOp (evD f1) o = (do pure (Next.value (← Instr.loadAt t (.pointer (some p)))) : Sem Next) := by
          unfold execOp; rw [hop]; simp only [hx]
        cases hagg : isAggD (T t).d with
        | true =>
          rw [hagg] at hy
          obtain ⟨cs, hl, hld, hy⟩ := ExL.elim hy
          obtain ⟨f2, hk2, hr2⟩ := hr1.put hy
          refine ⟨_, _, f2, hk2, hr2, LdL_ents hld, fun Sl hS => .inl ⟨hw, fun w2 h2 => ?_⟩⟩
          rw [hex, hexec]
          refine vrun (run_load_agg H ht hagg hl (LdL_of_ents (i := i) fun e he => h2 e (hS e he) ?_))
          exact (LdL_ents hld e he).1
        | false =>
          rw [hagg] at hy
          replace hy : ExV (T t) (fun v => w.cell? p = some v ∧ putE n f1 o.dst v fun f' => K [(i, p, v)] f') := hy
          obtain ⟨v, hv, hy⟩ := ExV.elim hy
          obtain ⟨f2, hk2, hr2⟩ := hr1.put hy
          refine ⟨_, _, f2, hk2, hr2, fun e he => ?_, fun Sl hS => .inl ⟨hw, fun w2 h2 => ?_⟩⟩
          · simp at he; subst he; exact ⟨rfl, hv⟩
          · rw [hex, hexec]
            exact vrun (run_load_one H ht hagg (h2 (i, p, v) (hS _ (by simp)) rfl))
      · exact hy.elim
    · obtain ⟨_, hy⟩ := cond_true hy
      obtain ⟨v, hkv, hrun⟩ := pv_sound H o (evD f1) _ hy
      obtain ⟨f2, hk2, hr2⟩ := hr1.put hkv
      refine ⟨v, [], f2, hk2, hr2, by simp, fun Sl _ => .inl ⟨hw, fun w2 _ => ?_⟩⟩
      rw [hex]
      exact hrun w2
  · obtain ⟨f2, hk2, hr2⟩ := hr1.put hy
    exact ⟨undef, [], f2, hk2, hr2, by simp, fun Sl _ => .inr ⟨hw, rfl⟩⟩

def noPanic (Q : Exit → Act → World → Prop) : Prop := ∀ c a w, ¬ Q (.panic c) a w

theorem wOps_put {l : List Oper} {o : Oper} (ho : o ∈ l) {a : Act} {v : Value} : Agree (wOps l) a (a.put o.dst v) := Agree.put _ a fun _ hd => ⟨o, ho, hd⟩

theorem mem_of_get {i : Nat} {o : Oper} (h : ops[i]? = some o) : o ∈ ops.toList := Array.mem_toList_iff.2 (Array.mem_of_getElem? h)

theorem HeldL_app {j : Nat} {w w' : World} : ∀ {es es' : List Ent}, HeldL ops j w w' (es ++ es') → HeldL ops j w w' es
  | [], _, _ => trivial
  | x :: es, es', h => by
    rw [List.cons_append] at h
    cases hc : (waitsOn ops j x.1 || x.1 == j) with
    | true =>
      simp only [HeldL, hc] at h ⊢
      exact HeldL_app (es := es) h
    | false =>
      simp only [HeldL, hc, cond_false] at h ⊢
      exact ⟨h.1, HeldL_app (es := es) h.2⟩

theorem wpG_app {Sl es : List Ent} : ∀ (fuel : Nat) {listed : Array Bool} {a : Act} {w : World}, wpG P ops Q (Sl ++ es) fuel listed a w → wpG P ops Q Sl fuel listed a w
  | 0, _, _, _, h => h
  | fuel + 1, _, _, _, h => ⟨h.1, fun i hi => wpOp_mono (fun _ _ h' => ⟨HeldL_app h'.1, wpG_app fuel h'.2⟩) (h.2 i hi)⟩

theorem orderP_sound (H : Tab P T fok) (hs : Region.noSelect ops = true) (hQ : noPanic Q) {nf : List Nat} {n : Nat} {K : E → World → Prop} {a0 : Act}
    (hend : ∀ a' f' w', K f' w' → Rep n a' f' → Agree (wOps ops.toList) a0 a' → Q .normal a' w') :
    ∀ (fuel : Nat) {Sl : List Ent} {listed : Array Bool} {a : Act} {f : E} {w : World}, Rep n a f → Agree (wOps ops.toList) a0 a → orderP P T fok nf n ops K fuel Sl listed f w → wpG P ops Q Sl fuel listed a w := by
  intro fuel
  induction fuel with
  | zero =>
    intro Sl listed a f w hr hag h
    obtain ⟨h1, h2⟩ := cond_true h
    exact ⟨by simpa using h1, hend _ _ _ h2 hr hag⟩
  | succ fuel ih =>
    intro Sl listed a f w hr hag h
    unfold orderP at h
    split at h
    · rename_i hnil
      exact ⟨fun _ => hend _ _ _ h hr hag, by rw [hnil]; simp⟩
    · rename_i r rs hrs
      split at h
      · rename_i i hp
        obtain ⟨hmem, _, hfree⟩ := pick_spec hp
        split at h
        · rename_i o ho
          obtain ⟨hne, h⟩ := cond_true h
          obtain ⟨v, es, f', hk, hr', hes, hy⟩ := takeP_sound H hr h (fun cs b => Region.noSelect_spec hs i o cs b ho)
          have hof : OfI (Sl ++ es) i w := fun e he hei => by
            rcases List.mem_append.1 he with he | he
            · have := List.all_eq_true.1 hne e he
              simp [hei] at this
            · exact (hes e he).2
          exact wpG_app (es := es) _ (wpG_take ho hs hfree (by rw [hrs]; simpa using hmem) (fun c a w hh => (hQ _ _ _ hh).elim) (hy _ fun e he => List.mem_append_right _ he) hof
            (ih hr' (hag.trans (wOps_put (mem_of_get ho))) hk))
        · exact h.elim
      · refine ⟨fun hh => (by rw [hrs] at hh; cases hh), fun i hi => ?_⟩
        rw [hrs] at hi
        have hx := allOf_spec h i hi
        split at hx
        · rename_i o ho
          have hst := step_sound H hr hx (Q := Q)
          unfold wpOp
          simp only [ho]
          split
          · rename_i hw
            rw [if_pos hw] at hst
            refine .inl (Oper.wp_mono (fun a' w' hh => ?_) hst)
            obtain ⟨f', ⟨h1, h2⟩, h3, v, rfl⟩ := hh
            exact ⟨h1, ih h3 (hag.trans (wOps_put (mem_of_get ho))) h2⟩
          · rename_i hw
            rw [if_neg hw] at hst
            obtain ⟨f', ⟨h1, h2⟩, h3⟩ := hst
            exact ⟨h1, ih h3 (hag.trans (wOps_put (mem_of_get ho))) h2⟩
        · exact hx.elim

theorem vcDraw_sound (H : Tab P T fok) {nf : List Nat} {n id : Nat} {a : Act} {f : E} {w : World} {K : E → World → Prop} (hr : Rep n a f) (h : vcDraw P T fok nf n ops f w K) :
    (Code.region id ops true).wp P (fun e a' w' => e = .normal ∧ ∃ f', K f' w' ∧ Rep n a' f' ∧ Agree (wOps ops.toList) a a') a w := by
  obtain ⟨hs, h⟩ := cond_true h
  refine wp_region_any H.mixed ?_
  have hQ : noPanic (fun (e : Exit) (a' : Act) (w' : World) => e = .normal ∧ ∃ f', K f' w' ∧ Rep n a' f' ∧ Agree (wOps ops.toList) a a') := fun c a w h => by cases h.1
  exact wpAny_of_G (Sl := []) _ _ _ _ (orderP_sound H hs hQ (K := K) (a0 := a) (fun a2 f2 w2 k2 r2 g2 => ⟨rfl, f2, k2, r2, g2⟩) _ hr (Agree.refl _ _) (h _ rfl))
end
end Go.Proofs.VC
