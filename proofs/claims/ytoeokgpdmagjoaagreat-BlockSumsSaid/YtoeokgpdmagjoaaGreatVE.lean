import Derived.Test.YtoeokgpdmagjoaaGreatVD
namespace Go.Proofs.VC
open Go
section
variable {P : Program} {T : Nat → TI} {fok : Nat → Bool}

/-- An operation that yields v in whatever world. -/
def PurN (P : Program) (s : Sem Next) (K : Value → Prop) : Prop := ∃ v, K v ∧ ∀ w, s.run P w = .ok (.value v) w

theorem PurN.of {s : Sem Value} {K : Value → Prop} (h : Pur P s K) : PurN P (do pure (Next.value (← s)) : Sem Next) K := by
  obtain ⟨v, hk, hr⟩ := h
  exact ⟨v, hk, fun w => vrun (hr w)⟩
theorem PurN.pure {v : Value} {K : Value → Prop} (h : K v) : PurN P (pure (Next.value v) : Sem Next) K := ⟨v, h, fun _ => rfl⟩

theorem Pur.mono {s : Sem Value} {K K' : Value → Prop} (h : Pur P s K) (hk : ∀ v, K v → K' v) : Pur P s K' := by
  obtain ⟨v, h1, h2⟩ := h; exact ⟨v, hk v h1, h2⟩

theorem lenV_sound (H : Tab P T fok) {t ty : Nat} {v : Value} {K : Value → Prop} (h : lenV T t v K) : Pur P (Builtin.len_ #[t] ty #[v]) K := by
  unfold lenV at h
  split at h
  · rename_i s hd; exact ⟨_, h, fun w => by simp [Builtin.len_, run_underlying P t _ (H.isStr hd), goInt]⟩
  · rename_i e a n c hd; exact ⟨_, h, fun w => by simp [Builtin.len_, run_underlying P t _ (H.isSlice hd), goInt]⟩
  · rename_i n e v hd; exact ⟨_, h, fun w => by simp [Builtin.len_, run_underlying P t _ (H.isArr hd), goInt]⟩
  · exact h.elim

theorem min2V_sound {ats : Array TypeId} {ty : Nat} {x y : Value} {K : Value → Prop} (h : min2V x y K) : Pur P (Builtin.min_ ats ty #[x, y]) K := by
  unfold min2V at h
  split at h
  · exact ⟨_, h, fun w => by simp [Builtin.min_, Builtin.min2]⟩
  · exact h.elim
theorem max2V_sound {ats : Array TypeId} {ty : Nat} {x y : Value} {K : Value → Prop} (h : max2V x y K) : Pur P (Builtin.max_ ats ty #[x, y]) K := by
  unfold max2V at h
  split at h
  · exact ⟨_, h, fun w => by simp [Builtin.max_, Builtin.max2]⟩
  · exact h.elim

theorem slice_sound (H : Tab P T fok) {t : Nat} {ρ : Operand → Value} {x : Operand} {lo hi mx : Option Operand} {K : Value → Prop} (h : pv P T ρ (.slice t x lo hi mx) K) :
    Pur P (Instr.sliceAt t (ρ x) (lo.map ρ) (hi.map ρ) (mx.map ρ)) K := by
  simp only [pv] at h
  split at h
  · rename_i s hd hx
    split at h
    · obtain ⟨l, h1, m, hk, hr⟩ := boundsI_sound (P := P) (s := false) h
      refine ⟨_, hk, fun w => ?_⟩
      simp [Instr.sliceAt, Instr.slice, run_underlying P t _ (H.isStr hd), hx, hr]
    · exact h.elim
  · rename_i e a n c hd hx
    obtain ⟨hc, h⟩ := cond_true h
    obtain ⟨l, h1, m, hk, hr⟩ := boundsI_sound (P := P) (s := true) h
    refine ⟨_, hk, fun w => ?_⟩
    simp [Instr.sliceAt, Instr.slice, run_underlying P t _ (H.isSlice hd), hx, hr, H.run_sizeOf (iface_or hc).1 (iface_or hc).2, sA]
  · rename_i n e p hd hx
    obtain ⟨hc, h⟩ := cond_true h
    obtain ⟨l, h1, m, hk, hr⟩ := boundsI_sound (P := P) (s := false) h
    refine ⟨_, hk, fun w => ?_⟩
    have e1 : ∀ (q : Prop) [Decidable q] (x y : Addr), some (if q then x else y) = if q then some x else some y := by intros; split <;> rfl
    simp [Instr.sliceAt, Instr.sureAddr, run_underlying P t _ (H.isArr hd), hx, hr, H.run_sizeOf (hasTy_none hc).1 (hasTy_none hc).2, sA, e1]
  · exact h.elim

theorem index_sound (H : Tab P T fok) {t : Nat} {ρ : Operand → Value} {x i : Operand} {K : Value → Prop} (h : pv P T ρ (.index t x i) K) :
    Pur P (Instr.index t (ρ x) (ρ i)) K := by
  simp only [pv] at h
  split at h
  · rename_i s k i hd hx hi
    obtain ⟨h0, b, hb, hk⟩ := h
    refine ⟨_, hk, fun w => ?_⟩
    simp [Instr.index, asIntOf, run_underlying P t _ (H.isStr hd), hx, hi, h0, hb]
  · rename_i n e cs k i hd hx hi
    obtain ⟨h0, h1, h⟩ := h
    obtain ⟨hc, h⟩ := cond_true h
    obtain ⟨v, hv, hk⟩ := ExV.elim h
    simp only [Bool.and_eq_true, Bool.not_eq_true'] at hc
    have ha := fun w => H.run_isAgg (hasTy_none hc.1).1 (hasTy_none hc.1).2 w
    rw [hc.2] at ha
    refine ⟨_, hk, fun w => ?_⟩
    simp only [Instr.index, asIntOf, Sem.run_bind, Sem.run_pure, Result.andThen, run_underlying P t _ (H.isArr hd), hx, hi]
    simp only [h0, h1, and_self, if_true, Sem.run_bind, H.run_sizeOf (hasTy_none hc.1).1 (hasTy_none hc.1).2, Result.andThen]
    exact run_part_one ha (by simpa using hv) w
  · exact h.elim

theorem indexAddr_sound (H : Tab P T fok) {t : Nat} {ρ : Operand → Value} {x i : Operand} {K : Value → Prop} (h : pv P T ρ (.indexAddr t x i) K) :
    Pur P (Instr.indexAt t (ρ x) (ρ i)) K := by
  simp only [pv] at h
  split at h
  · rename_i e a n c k i hd hx hi
    obtain ⟨h0, h1, h⟩ := h
    obtain ⟨hc, h⟩ := cond_true h
    obtain ⟨p, hp, hk⟩ := h
    refine ⟨_, hk, fun w => ?_⟩
    simp [Instr.indexAt, asIntOf, run_underlying P t _ (H.isSlice hd), hx, hi, hp, h0, h1, H.run_sizeOf (iface_or hc).1 (iface_or hc).2]
  · rename_i n e p k i hd hx hi
    obtain ⟨h0, h1, h⟩ := h
    obtain ⟨hc, hk⟩ := cond_true h
    refine ⟨_, hk, fun w => ?_⟩
    simp [Instr.indexAt, asIntOf, Instr.sureAddr, run_underlying P t _ (H.isArr hd), hx, hi, h0, h1, H.run_sizeOf (hasTy_none hc).1 (hasTy_none hc).2]
  · exact h.elim

theorem typeAssert_sound (H : Tab P T fok) {t xt : Nat} {ρ : Operand → Value} {x : Operand} {ok : Bool} {K : Value → Prop} (h : pv P T ρ (.typeAssert x xt t ok) K) :
    Pur P (Instr.typeAssert (ρ x) xt t ok) K := by
  simp only [pv] at h
  obtain ⟨hc, h⟩ := cond_true h
  obtain ⟨u, hu, hk⟩ := ExV.elim h
  refine ⟨_, hk, fun w => ?_⟩
  obtain ⟨i, hi, _, _, _, hd, _⟩ := H.desc (hasTy_none hc).1 (hasTy_none hc).2
  have hund : ∃ d, P.underlying t = some d ∧ ∀ ms, d ≠ .interface ms := by
    cases hdd : (T t).d <;> rw [hdd] at hd hc <;> simp [hasTy] at hc <;> simp only [descOk] at hd <;> split at hd <;> simp_all
  obtain ⟨d, hd1, hd2⟩ := hund
  rw [hu]
  cases d <;> first
    | exact absurd rfl (hd2 _)
    | (simp only [Instr.typeAssert, Sem.run_bind, run_underlying P t _ hd1, Result.andThen]; cases ok <;> simp)

theorem pv_sound (H : Tab P T fok) (o : Oper) (ρ : Operand → Value) (K : Value → Prop) (h : pv P T ρ o.op K) : PurN P (execOp ρ o) K := by
  obtain ⟨dst, op, ty, pos, after, guard⟩ := o
  change pv P T ρ op K at h
  cases op
  case move x => exact .pure h
  case assign x => exact .pure h
  case pick c a b =>
    simp only [pv] at h
    split at h
    · rename_i c hc
      have key : (cond c (K (ρ a)) (K (ρ b))) → PurN P (execOp ρ ⟨dst, .pick (.tmp 0) a b, ty, pos, after, guard⟩) K → True := fun _ _ => trivial
      have hx : K (if c then ρ a else ρ b) := by
        split at h
        · rename_i x y ha hb; rw [ha, hb]; cases c <;> simpa using h
        · cases c <;> simpa using h
      refine ⟨_, hx, fun w => ?_⟩
      simp only [execOp, hc, Sem.run_bind, asBool, Sem.run_pure, Result.andThen]
    · exact h.elim
  case nilCheck x =>
    simp only [pv] at h
    split at h
    · rename_i a hx
      obtain ⟨p, rfl, hk⟩ := h
      refine ⟨_, hk, fun w => ?_⟩
      simp only [execOp, hx]; rfl
    · rename_i f a b hx
      refine ⟨_, h, fun w => ?_⟩
      simp only [execOp, hx]; rfl
    · rename_i t v hx
      refine ⟨_, h, fun w => ?_⟩
      simp only [execOp, hx]; rfl
    · exact h.elim
  case unOp op t x =>
    simp only [pv] at h
    split at h
    · rename_i k n hx
      refine PurN.of ⟨_, h, fun w => ?_⟩
      simp [Op.unary, hx, Op.intArith]
    · rename_i b hx
      refine PurN.of ⟨_, h, fun w => ?_⟩
      simp [Op.unary, hx]
    · exact h.elim
  case binOp op t x y yt => exact PurN.of (bin_sound H h)
  case convert src dst x =>
    simp only [pv] at h
    split at h
    · rename_i k k' k2 n hs hd hx
      refine PurN.of ⟨_, h, fun w => ?_⟩
      simp [convert, run_underlying P _ _ (H.isInt hs), run_underlying P _ _ (H.isInt hd), hx, Conv.intToInt]
    · rename_i s hs hd hx
      refine PurN.of ⟨_, h, fun w => ?_⟩
      simp [convert, run_underlying P _ _ (H.isStr hs), run_underlying P _ _ (H.isStr hd), hx]
    · exact h.elim
  case fieldAddr s x f =>
    simp only [pv] at h
    split at h
    · rename_i fs p hd hx
      obtain ⟨g, hg, hk⟩ := onSome.elim h
      obtain ⟨ff, hu, hff⟩ := H.isStruct hd
      obtain ⟨fl, hf1, hf2, hf3, hf4⟩ := (fieldsOk_spec hff).2 f g hg
      have hf1' : ff[f]? = some fl := by simpa using hf1
      refine PurN.of ⟨_, hk, fun w => ?_⟩
      simp [Instr.fieldAt, run_underlying P _ _ hu, hf1', hx, Instr.sureAddr, run_fieldPlace hf4, hf2]
    · exact h.elim
  case field t x f =>
    simp only [pv] at h
    split at h
    · rename_i fs cs hd hx
      obtain ⟨g, hg, hk⟩ := onSome.elim h
      obtain ⟨hc, hk⟩ := cond_true hk
      obtain ⟨ff, hu, hff⟩ := H.isStruct hd
      obtain ⟨fl, hf1, hf2, hf3, hf4⟩ := (fieldsOk_spec hff).2 f g hg
      have hf1' : ff[f]? = some fl := by simpa using hf1
      have hrun : ∀ w, (Instr.field t (ρ x) f).run P w = (part g.2 cs g.1).run P w := fun w => by
        simp [Instr.field, run_underlying P _ _ hu, hf1', hx, asAgg, hf2, hf3]
      cases ha : isAggD (T g.2).d with
      | true =>
        rw [ha] at hk
        have hag := fun w => H.run_isAgg (hasTy_none hc).1 (hasTy_none hc).2 w
        rw [ha] at hag
        refine PurN.of ⟨_, hk, fun w => ?_⟩
        rw [hrun, run_part_agg hag (fun w => H.run_sizeOf (hasTy_none hc).1 (hasTy_none hc).2 w)]
        congr 2
        apply Array.ext'
        simp [List.extract_eq_take_drop]
      | false =>
        rw [ha] at hk
        obtain ⟨v, hv, hk⟩ := onSome.elim hk
        have hag := fun w => H.run_isAgg (hasTy_none hc).1 (hasTy_none hc).2 w
        rw [ha] at hag
        refine PurN.of ⟨_, hk, fun w => ?_⟩
        rw [hrun, run_part_one hag (by simpa using hv)]
    · exact h.elim
  case build t parts => exact PurN.of (build_sound H h)
  case extract x i =>
    simp only [pv] at h
    split at h
    · rename_i vs hx
      obtain ⟨v, hv, hk⟩ := onSome.elim h
      refine PurN.of ⟨_, hk, fun w => ?_⟩
      have hv' : vs[i]? = some v := by simpa using hv
      simp [Instr.extract, hx, hv']
    · exact h.elim
  case makeInterface t x =>
    simp only [pv] at h
    obtain ⟨hc, hk⟩ := cond_true h
    obtain ⟨i, hi, _, _, _, hd, _⟩ := H.desc (hasTy_none hc).1 (hasTy_none hc).2
    have hund : ∃ d, P.underlying t = some d ∧ ∀ ms, d ≠ .interface ms := by
      cases hdd : (T t).d <;> rw [hdd] at hd hc <;> simp [hasTy] at hc <;> simp only [descOk] at hd <;> split at hd <;> simp_all
    obtain ⟨d, hd1, hd2⟩ := hund
    refine PurN.of ⟨_, hk, fun w => ?_⟩
    cases d <;> first
      | exact absurd rfl (hd2 _)
      | simp [Instr.makeInterface, run_underlying P t _ hd1]
  case makeFunc fn first captured =>
    simp only [pv, mapA_eq] at h
    exact PurN.of ⟨_, h, fun w => rfl⟩
  case indexAddr t x i => exact PurN.of (indexAddr_sound H h)
  case index t x i => exact PurN.of (index_sound H h)
  case slice t x lo hi mx => exact PurN.of (slice_sound H h)
  case typeAssert x xt t ok => exact PurN.of (typeAssert_sound H h)
  case call c =>
    obtain ⟨callee, args, ats⟩ := c
    simp only [pv] at h
    split at h
    · rename_i _ b
      have hrun : ∀ w, (execOp ρ ⟨dst, .call ⟨.builtin b, args, ats⟩, ty, pos, after, guard⟩).run P w =
        (builtin b ats ty (args.map fun | .const _ => true | _ => false) (args.map ρ)).run P w := fun w => rfl
      split at h
      · rename_i x t ha ht
        have ha' : args = #[x] := by simpa using congrArg List.toArray ha
        have ht' : ats = #[t] := by simpa using congrArg List.toArray ht
        subst ha' ht'
        obtain ⟨v, hk, hr⟩ := lenV_sound (P := P) H (ty := ty) h
        refine ⟨v, hk, fun w => ?_⟩
        rw [hrun]
        exact vrun (by simpa using hr w)
      · rename_i x y ha
        have ha' : args = #[x, y] := by simpa using congrArg List.toArray ha
        subst ha'
        obtain ⟨v, hk, hr⟩ := min2V_sound (P := P) (ats := ats) (ty := ty) h
        refine ⟨v, hk, fun w => ?_⟩
        rw [hrun]
        exact vrun (by simpa using hr w)
      · rename_i x y ha
        have ha' : args = #[x, y] := by simpa using congrArg List.toArray ha
        subst ha'
        obtain ⟨v, hk, hr⟩ := max2V_sound (P := P) (ats := ats) (ty := ty) h
        refine ⟨v, hk, fun w => ?_⟩
        rw [hrun]
        exact vrun (by simpa using hr w)
      · exact h.elim
    · exact h.elim
  all_goals exact False.elim h
end
end Go.Proofs.VC
