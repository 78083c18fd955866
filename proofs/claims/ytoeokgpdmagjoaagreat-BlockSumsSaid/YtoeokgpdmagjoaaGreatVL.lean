import Derived.Test.YtoeokgpdmagjoaaGreatVK
namespace Go.Proofs.VC
open Go

/-- The results, read at the end. -/
def resV (T : Nat → TI) (f : E) (w : World) : List ResultVar → (List Value → Prop) → Prop
  | [], K => K []
  | .tmp t :: rs, K => onSome (f t) fun v => resV T f w rs fun vs => K (v :: vs)
  | .cell a t :: rs, K =>
    match f a with
    | some (.pointer (some p)) =>
      cond (typed (T t).d)
        (cond (isAggD (T t).d) (ExL (T t).fl fun cs => LdL w p 0 cs ∧ resV T f w rs fun vs => K (.agg cs.toArray :: vs))
          (ExV (T t) fun v => w.cell? p = some v ∧ resV T f w rs fun vs => K (v :: vs))) False
    | _ => False

def oneOf : List Value → Value
  | [v] => v
  | vs => .tuple vs.toArray

section
variable {P : Program} {T : Nat → TI} {fok : Nat → Bool}

theorem resV_sound (H : Tab P T fok) {n : Nat} {a : Act} {f : E} {w : World} (hr : Rep n a f) : ∀ {rs : List ResultVar} {K : List Value → Prop}, resV T f w rs K →
    ∃ vs, K vs ∧ (rs.mapM (m := Sem) (fun | .tmp t => pure (a.tmps.getD t undef) | .cell b t => do loadVar t (← asAddr (a.tmps.getD b undef)))).run P w = .ok vs w
  | [], K, h => ⟨[], h, rfl⟩
  | .tmp t :: rs, K, h => by
    obtain ⟨v, hv, h⟩ := onSome.elim h
    obtain ⟨vs, hk, hrun⟩ := resV_sound H hr h
    refine ⟨v :: vs, hk, ?_⟩
    rw [List.mapM_cons, Sem.run_bind]
    simp only [Sem.run_pure, Result.andThen, hr.val t v hv]
    rw [Sem.run_bind, hrun]
    rfl
  | .cell b t :: rs, K, h => by
    simp only [resV] at h
    split at h
    · rename_i p hp
      have hb := hr.val b _ hp
      obtain ⟨ht, h⟩ := cond_true h
      cases hagg : isAggD (T t).d with
      | true =>
        rw [hagg] at h
        obtain ⟨cs, hl, hld, h⟩ := ExL.elim h
        obtain ⟨vs, hk, hrun⟩ := resV_sound H hr h
        have hload := run_load_agg H ht hagg hl hld
        simp only [Instr.loadAt, Instr.sureAddr, Sem.run_bind, Sem.run_pure, Result.andThen] at hload
        refine ⟨_, hk, ?_⟩
        have hhead : (do loadVar t (← asAddr (a.tmps.getD b undef)) : Sem Value).run P w = .ok (.agg cs.toArray) w := by
          rw [hb, Sem.run_bind]
          exact hload
        rw [List.mapM_cons, Sem.run_bind]
        refine (congrArg (fun r => Result.andThen r _) hhead).trans ?_
        simp only [Result.andThen]
        rw [Sem.run_bind, hrun]
        rfl
      | false =>
        rw [hagg] at h
        replace h : ExV (T t) (fun v => w.cell? p = some v ∧ resV T f w rs fun vs => K (v :: vs)) := h
        obtain ⟨v, hv, h⟩ := ExV.elim h
        obtain ⟨vs, hk, hrun⟩ := resV_sound H hr h
        have hload := run_load_one H ht hagg hv
        simp only [Instr.loadAt, Instr.sureAddr, Sem.run_bind, Sem.run_pure, Result.andThen] at hload
        refine ⟨_, hk, ?_⟩
        have hhead : (do loadVar t (← asAddr (a.tmps.getD b undef)) : Sem Value).run P w = .ok v w := by
          rw [hb, Sem.run_bind]
          exact hload
        rw [List.mapM_cons, Sem.run_bind]
        refine (congrArg (fun r => Result.andThen r _) hhead).trans ?_
        simp only [Result.andThen]
        rw [Sem.run_bind, hrun]
        rfl
    · exact h.elim

/-- A function, called with arguments: it returns, and R holds of what it returns. -/
def vcF (P : Program) (T : Nat → TI) (fok : Nat → Bool) (A : Ann) (n : Nat) (c : Code) (rs : List ResultVar) (args : List Value) (w : World) (R : Value → World → Prop) : Prop :=
  cond (Nat.ble args.length n) (vcC P T fok n A 0 c (fun t => some (args.getD t undef)) w fun e f' w' => match e with
    | .brk _ => False
    | _ => resV T f' w' rs fun vs => R (oneOf vs) w') False

theorem calls_of_vc (H : Tab P T fok) {A : Ann} {k : Nat} {fn : Func} {c : Code} (hf : P.funcs[k]? = some fn) (hb : fn.body = some c) {args : List Value} {w : World} {R : Value → World → Prop}
    (h : vcF P T fok A fn.ntmps c fn.results.toList args w R) : Calls P k args.toArray w fun e w' => ∃ v, e = .returned v ∧ R v w' := by
  obtain ⟨hn, h⟩ := cond_true h
  have hn' : args.length ≤ fn.ntmps := Nat.le_of_ble_eq_true hn
  refine calls_of_wp hf hb ?_
  have hrep : Rep fn.ntmps { tmps := args.toArray ++ Array.replicate (fn.ntmps - args.toArray.size) undef, defers := [] } (fun t => some (args.getD t undef)) := by
    refine ⟨rfl, by simp; omega, fun t v hv => ?_⟩
    simp only [Option.some.injEq] at hv
    subst hv
    have e : ∀ (xs : Array Value) (m t : Nat), (xs ++ Array.replicate m undef).getD t undef = xs.getD t undef := by
      intro xs m t
      simp only [Array.getD_eq_getD_getElem?]
      by_cases h1 : t < xs.size
      · rw [Array.getElem?_append_left h1]
      · rw [Array.getElem?_append_right (Nat.le_of_not_lt h1), Array.getElem?_eq_none (Nat.le_of_not_lt h1)]
        by_cases h2 : t - xs.size < m
        · rw [Array.getElem?_replicate, if_pos h2]; rfl
        · rw [Array.getElem?_replicate, if_neg h2]
    rw [e]
    simp
  refine wp_mono (vcC_sound H c 0 hrep h) ?_
  rintro e a' w' ⟨ex, f', rfl, h1, h2, h3⟩
  have fin : (resV T f' w' fn.results.toList fun vs => R (oneOf vs) w') → a'.defers = [] ∧ ∃ v, (results fn a'.tmps).run P w' = .ok v w' ∧ ∃ u, Ending.returned v = .returned u ∧ R u w' := by
    intro h
    obtain ⟨vs, hk, hrun⟩ := resV_sound (P := P) H h2 h
    refine ⟨h2.defers, oneOf vs, ?_, _, rfl, hk⟩
    unfold results
    rw [Sem.run_bind, Array.mapM_eq_mapM_toList, Sem.run_map]
    refine (congrArg (fun r : Result (List Value) => (r.andThen fun a w' => Result.ok a.toArray w').andThen fun a w' => (pure (if h : a.size = 1 then a[0] else Value.tuple a) : Sem Value).run P w') hrun).trans ?_
    simp only [Result.andThen, Sem.run_pure]
    match vs with
    | [] => rfl
    | [v] => rfl
    | v :: u :: vs => simp [oneOf]
  cases ex with
  | nrm => exact fin h1
  | ret => exact fin h1
  | brk id => exact h1.elim
end
end Go.Proofs.VC
