import Derived.Test.YtoeokgpdmagjoaaGreatVC
namespace Go.Proofs.VC
open Go
section
variable {P : Program} {T : Nat → TI} {fok : Nat → Bool}

theorem hasTy_none {d : D} (h : hasTy d = true) : isNoneD d = false ∧ isTupD d = false := by cases d <;> simp_all [hasTy, isNoneD, isTupD]

theorem run_typeInfo {t : Nat} {i : TypeInfo} (h : P.info? t = some i) (w : World) : (typeInfo t).run P w = .ok i w := by
  simp [typeInfo, h]
theorem Tab.run_sizeOf (H : Tab P T fok) {t : Nat} (h : isNoneD (T t).d = false) (h2 : isTupD (T t).d = false) (w : World) : (Go.sizeOf t).run P w = .ok (T t).size w := by
  obtain ⟨i, hi, hs, _⟩ := H.desc h h2
  simp [Go.sizeOf, run_typeInfo hi, hs]
theorem Tab.run_zero (H : Tab P T fok) {t : Nat} (h : isNoneD (T t).d = false) (h2 : isTupD (T t).d = false) :
    ∃ z : Value, z.cells = ((T t).fl.map B.zero).toArray ∧ ((∃ c, z = .agg c) ↔ isAggD (T t).d = true) ∧ ∀ w, (zeroValue t).run P w = .ok z w := by
  obtain ⟨i, hi, _, _, _, _, z, hz, hc, ha⟩ := H.desc h h2
  refine ⟨z, ?_, ?_, fun w => by simp [zeroValue, run_typeInfo hi, hz]⟩
  · rw [← hc]
  · rw [← ha]; cases z <;> simp
theorem Tab.run_isAgg (H : Tab P T fok) {t : Nat} (h : isNoneD (T t).d = false) (h2 : isTupD (T t).d = false) (w : World) : (Go.isAgg t).run P w = .ok (isAggD (T t).d) w := by
  obtain ⟨i, hi, _, _, _, hd, _⟩ := H.desc h h2
  cases hu : P.underlying t with
  | none => cases hdd : (T t).d <;> simp_all [descOk, isNoneD, isTupD]
  | some d =>
    simp only [Go.isAgg, Sem.run_bind, run_underlying P t d hu, Result.andThen]
    cases hdd : (T t).d <;> cases d <;> simp_all [descOk, isNoneD, isTupD, isAggD]

theorem Tab.size_one (H : Tab P T fok) {t : Nat} (h : isNoneD (T t).d = false) (h2 : isTupD (T t).d = false) : (T t).fl.length = (T t).size := by
  obtain ⟨i, hi, _, _, hl, _⟩ := H.desc h h2
  exact hl

theorem run_part_agg {t off n : Nat} {cs : Array Value} (h1 : ∀ w, (Go.isAgg t).run P w = .ok true w) (h2 : ∀ w, (Go.sizeOf t).run P w = .ok n w) (w : World) :
    (part t cs off).run P w = .ok (.agg (cs.extract off (off + n))) w := by
  simp [part, h1, h2]
theorem run_part_one {t off : Nat} {cs : Array Value} {v : Value} (h1 : ∀ w, (Go.isAgg t).run P w = .ok false w) (h2 : cs[off]? = some v) (w : World) :
    (part t cs off).run P w = .ok v w := by
  simp [part, h1, h2]

theorem fieldsOk_spec : ∀ {ff : List Field} {fs : List (Nat × Nat)}, fieldsOk P ff fs = true → ff.length = fs.length ∧ ∀ (i : Nat) (g : Nat × Nat), fs[i]? = some g → ∃ f : Field, ff[i]? = some f ∧ f.offset = g.1 ∧ f.type = g.2 ∧ P.cellsOf f.type ≠ 0
  | [], [], _ => ⟨rfl, fun i g h => by simp at h⟩
  | f :: ff, (o, t) :: fs, h => by
    simp only [fieldsOk, Bool.and_eq_true, beq_iff_eq, bne_iff_ne] at h
    obtain ⟨⟨⟨h1, h2⟩, h3⟩, h4⟩ := h
    obtain ⟨hl, hs⟩ := fieldsOk_spec h4
    refine ⟨by simp [hl], fun i g hg => ?_⟩
    cases i with
    | zero =>
      simp at hg
      subst hg
      exact ⟨f, by simp, h1, h2, by rw [h2]; exact h3⟩
    | succ i => simpa using hs i g (by simpa using hg)
  | [], _ :: _, h => by simp [fieldsOk] at h
  | _ :: _, [], h => by simp [fieldsOk] at h

theorem run_fieldPlace {a : Addr} {f : Field} (h : P.cellsOf f.type ≠ 0) (w : World) : (fieldPlace a f).run P w = .ok (a.add f.offset) w := by
  unfold Program.cellsOf at h
  cases hi : P.info? f.type with
  | none => simp [hi] at h
  | some i =>
    simp only [hi, Option.map_some, Option.getD_some] at h
    simp [fieldPlace, Go.sizeOf, run_typeInfo hi, h]

theorem run_places (H : Tab P T fok) : ∀ (ff : List Field) (fs : List (Nat × Nat)), fieldsOk P ff fs = true → (∀ g ∈ fs, isNoneD (T g.2).d = false ∧ isTupD (T g.2).d = false) → ∀ w,
    (ff.mapM (m := Sem) (fun f => do pure (f.offset, ← Go.sizeOf f.type))).run P w = .ok (fs.map fun g => (g.1, (T g.2).size)) w
  | [], [], _, _, w => rfl
  | f :: ff, (o, t) :: fs, h, h2, w => by
    simp only [fieldsOk, Bool.and_eq_true, beq_iff_eq, bne_iff_ne] at h
    obtain ⟨⟨⟨e1, e2⟩, _⟩, h4⟩ := h
    have ht := h2 (o, t) (by simp)
    have ih := run_places H ff fs h4 (fun g hg => h2 g (by simp [hg])) w
    subst e1 e2
    simp only [List.mapM_cons, Sem.run_bind, H.run_sizeOf ht.1 ht.2, Result.andThen, Sem.run_pure, ih, List.map_cons]
  | [], _ :: _, h, _, _ => by simp [fieldsOk] at h
  | _ :: _, [], h, _, _ => by simp [fieldsOk] at h

theorem vrun {s : Sem Value} {v : Value} {w w' : World} (h : s.run P w = .ok v w') : (do pure (Next.value (← s)) : Sem Next).run P w = .ok (.value v) w' := by
  rw [Sem.run_bind, h]; rfl


theorem structTyped_spec {fs : List (Nat × Nat)} (h : structTyped T fs = true) : ∀ g ∈ fs, isNoneD (T g.2).d = false ∧ isTupD (T g.2).d = false := by
  intro g hg
  have := List.all_eq_true.1 h g hg
  simpa using this

theorem iface_or {d : D} (h : (hasTy d || (match d with | .ifc => true | _ => false)) = true) : isNoneD d = false ∧ isTupD d = false := by
  cases d <;> simp_all [hasTy, isNoneD, isTupD]

theorem build_sound (H : Tab P T fok) {t : Nat} {parts : Array (Nat × Operand)} {ρ : Operand → Value} {K : Value → Prop} (h : pv P T ρ (.build t parts) K) :
    Pur P (Instr.build t (parts.map fun (i, x) => (i, ρ x))) K := by
  have hp : (parts.map fun (x : Nat × Operand) => (x.1, ρ x.2)).toList = partsOf ρ parts := by simp [partsOf]
  simp only [pv] at h
  split at h
  · rename_i fs hd
    obtain ⟨h1, h2⟩ := cond_true h
    obtain ⟨cs, hf, hk⟩ := onSome.elim h2
    obtain ⟨ff, hu, hff⟩ := H.isStruct hd
    obtain ⟨z, hz, _, hzr⟩ := H.run_zero (t := t) (by rw [hd]; rfl) (by rw [hd]; rfl)
    refine ⟨_, hk, fun w => ?_⟩
    have hpl : (ff.mapM (m := Sem) (fun f => do pure (f.offset, ← Go.sizeOf f.type))).run P w = .ok (fs.map fun g => (g.1, (T g.2).size)).toArray w := by
      have := run_places H ff.toList fs hff (structTyped_spec h1) w
      rw [Array.mapM_eq_mapM_toList, Sem.run_map, this]
      rfl
    have hfill := fillL_sound _ _ _ _ hf
    have hpe : (fun i => (fs.map fun g => (g.1, (T g.2).size)).toArray[i]?) = structPlace T fs := by
      funext i
      simp only [List.getElem?_toArray, List.getElem?_map, structPlace]
      cases fs[i]? <;> rfl
    simp only [Instr.build, Sem.run_bind, hzr, Result.andThen, run_underlying P t _ hu, hpl, hz, hp, hpe, hfill, Sem.run_pure]
  · rename_i n e hd
    obtain ⟨h1, h2⟩ := cond_true h
    obtain ⟨cs, hf, hk⟩ := onSome.elim h2
    obtain ⟨z, hz, _, hzr⟩ := H.run_zero (t := t) (by rw [hd]; rfl) (by rw [hd]; rfl)
    have hfill := fillL_sound _ _ _ _ hf
    refine ⟨_, hk, fun w => ?_⟩
    simp only [Instr.build, Sem.run_bind, hzr, Result.andThen, run_underlying P t _ (H.isArr hd), H.run_sizeOf (hasTy_none h1).1 (hasTy_none h1).2, hz, hp, hfill, Sem.run_pure]
  · exact h.elim
end
end Go.Proofs.VC
