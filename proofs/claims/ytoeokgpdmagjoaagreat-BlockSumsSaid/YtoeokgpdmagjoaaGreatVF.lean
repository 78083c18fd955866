import Derived.Test.YtoeokgpdmagjoaaGreatVE
import Derived.Laws.World
namespace Go.Proofs.VC
open Go
section
variable {P : Program} {T : Nat → TI} {fok : Nat → Bool}

def typed (d : D) : Bool := !isNoneD d && !isTupD d
theorem typed_spec {d : D} (h : typed d = true) : isNoneD d = false ∧ isTupD d = false := by simpa [typed] using h

/-! ### reading and writing cells -/
def LdL (w : World) (p : Addr) : Nat → List Value → Prop
  | _, [] => True
  | i, c :: cs => w.cell? (p.add i) = some c ∧ LdL w p (i + 1) cs

theorem LdL_spec {w : World} {p : Addr} : ∀ {cs : List Value} {i : Nat}, LdL w p i cs → ∀ j v, cs[j]? = some v → w.cell? (p.add (i + j)) = some v
  | [], _, _, j, v, h => by simp at h
  | c :: cs, i, hl, 0, v, h => by simp at h; subst h; exact hl.1
  | c :: cs, i, hl, j + 1, v, h => by
    have := LdL_spec hl.2 j v (by simpa using h)
    rwa [show i + (j + 1) = i + 1 + j by omega]

/-- A store of one cell. -/
def Sto (w : World) (p : Addr) (v : Value) (K : World → Prop) : Prop :=
  (∃ o, w.cell? p = some o) ∧ w.frozen? p = false ∧ ∀ w', w' = w.setCell p v → K w'

def StoL (p : Addr) : Nat → List Value → World → (World → Prop) → Prop
  | _, [], w, K => K w
  | i, c :: cs, w, K => cond c.oneCell' (Sto w (p.add i) c fun w' => StoL p (i + 1) cs w' K) False

theorem StoL_sound {p : Addr} : ∀ {cs : List Value} {i : Nat} {w : World} {K : World → Prop}, StoL p i cs w K → ∃ w', K w' ∧ (storeCells p cs i).run P w = .ok () w'
  | [], i, w, K, h => ⟨w, h, rfl⟩
  | c :: cs, i, w, K, h => by
    obtain ⟨h1, h⟩ := cond_true h
    obtain ⟨⟨o, ho⟩, hf, hk⟩ := h
    obtain ⟨w', hk', hr⟩ := StoL_sound (hk _ rfl)
    refine ⟨w', hk', ?_⟩
    rw [storeCells, Sem.run_bind, run_store P w _ c _ h1, ho]
    simp only [hf]
    exact hr

/-- A strict reading of one operation: a value, or a call that returns. -/
def Exec (P : Program) (s : Sem Next) (w : World) (N : Value → World → Prop) : Prop :=
  match s.run P w with
  | .ok (.value v) w' => N v w'
  | .ok .skip w' => N undef w'
  | .ok (.enter f args) w' => Calls P f args w' fun e w'' => ∃ v, e = .returned v ∧ N v w''
  | _ => False

theorem Exec.of_value {s : Sem Next} {w w' : World} {v : Value} {N : Value → World → Prop} (h : s.run P w = .ok (.value v) w') (hn : N v w') : Exec P s w N := by
  unfold Exec; rw [h]; exact hn

theorem Exec.mono {s : Sem Next} {w : World} {N N' : Value → World → Prop} (h : Exec P s w N) (hn : ∀ v w, N v w → N' v w) : Exec P s w N' := by
  unfold Exec at *
  split at h
  · exact hn _ _ h
  · exact hn _ _ h
  · exact h.mono fun e w' ⟨v, he, h⟩ => ⟨v, he, hn _ _ h⟩
  · exact h.elim

/-- A slice made: its cells, all zero. -/
def mkCells (T : Nat → TI) (e n : Nat) : Array Value := ((List.range (n * (T e).size)).map fun i => (((T e).fl.map B.zero)[i % ((T e).fl.map B.zero).length]?).getD default).toArray
theorem mkCells_eq' (T : Nat → TI) (e n : Nat) : mkCells T e n = (Array.range (n * (T e).size)).map fun i => (((T e).fl.map B.zero).toArray)[i % (((T e).fl.map B.zero).toArray).size]! := by
  apply Array.ext'
  simp [mkCells]

def maxMake : Nat := 281474976710656

/-- A call of a function value. -/
def FnCall (P : Program) (fok : Nat → Bool) (v : Value) (args : Array Value) (w : World) (R : Ending → World → Prop) : Prop :=
  ∃ g first captured, v = .func (.func g) first captured ∧ fok g = true ∧ Calls P g (first.toList ++ args.toList ++ captured.toList).toArray w R

/-- A call of a function that is known, or not. -/
def RawCall (P : Program) (fok : Nat → Bool) (v : Value) (args : Array Value) (w : World) (R : Ending → World → Prop) : Prop :=
  match v with
  | .func (.func g) first captured => cond (fok g) (Calls P g (first.toList ++ args.toList ++ captured.toList).toArray w R) False
  | v => FnCall P fok v args w R

theorem RawCall.elim {P : Program} {fok : Nat → Bool} {v : Value} {args : Array Value} {w : World} {R : Ending → World → Prop} (h : RawCall P fok v args w R) : FnCall P fok v args w R := by
  unfold RawCall at h
  split at h
  · obtain ⟨hg, hc⟩ := cond_true h
    exact ⟨_, _, _, rfl, hg, hc⟩
  · exact h

/-- A method called on an interface value. -/
def InvCall (P : Program) (fok : Nat → Bool) (v : Value) (name : String) (args : Array Value) (w : World) (R : Ending → World → Prop) : Prop :=
  ∃ t x g r, v = .iface t x ∧ (∀ w, (method (P.types.size + Made.depth) t x name).run P w = .ok (g, r) w) ∧ fok g = true ∧ Calls P g (r :: args.toList).toArray w R

/-- What a call comes to. -/
def Ret (T : Nat → TI) (ty : Nat) (K : Value → World → Prop) (e : Ending) (w : World) : Prop := ExR T ty fun v => e = .returned v ∧ K v w

/-- A call's arguments. -/
def argsA (ρ : Operand → Value) (first args' : List Value) (args : Array Operand) : Array Value := (first ++ args.toList.map ρ ++ args').toArray
theorem argsA_eq (ρ : Operand → Value) (first captured : Array Value) (args : Array Operand) : argsA ρ first.toList captured.toList args = first ++ args.map ρ ++ captured := by
  apply Array.ext'; simp [argsA]

def wv (P : Program) (T : Nat → TI) (fok : Nat → Bool) (ρ : Operand → Value) (ty : Nat) (op : Op) (w : World) (K : Value → World → Prop) : Prop :=
  match op with
  | .load t a =>
    match ρ a with
    | .pointer (some p) =>
      cond (typed (T t).d)
        (cond (isAggD (T t).d) (ExL (T t).fl fun cs => LdL w p 0 cs ∧ K (.agg cs.toArray) w) (ExV (T t) fun v => w.cell? p = some v ∧ K v w)) False
    | _ => False
  | .store t a x =>
    match ρ a with
    | .pointer (some p) => cond (typed (T t).d && (ρ x).cells.size == (T t).size) (StoL p 0 (ρ x).cells.toList w fun w' => K undef w') False
    | _ => False
  | .alloc t => cond (typed (T t).d) (∀ w' b, w' = w.alloc (.cells ((T t).fl.map B.zero).toArray t) → b = w.heap.size → K (.pointer (some ⟨b, 0, none⟩)) w') False
  | .box t x => ∀ w' b, w' = w.alloc (.cells (ρ x).cells t) → b = w.heap.size → K (.pointer (some ⟨b, 0, none⟩)) w'
  | .buildSlice t n parts =>
    match (T t).d with
    | .slice e => cond (typed (T e).d && Nat.ble (n * (T e).size) 16777216)
        (onSome (fillL (fun i => some (i * (T e).size, (T e).size)) (mkCells T e n).toList (partsOf ρ parts)) fun cs =>
          ∀ w' b, w' = w.alloc (.cells cs.toArray e) → b = w.heap.size → K (.slice (some ⟨b, 0, none⟩) n n) w') False
    | _ => False
  | .makeSlice t l c =>
    match (T t).d, ρ l, ρ c with
    | .slice e, .int _ l, .int _ c => cond (typed (T e).d && Nat.ble 1 (T e).bytes)
        (0 ≤ l ∧ l ≤ c ∧ ((T e).bytes : Int) * c ≤ (maxMake : Nat) ∧ ∀ w' b, w' = w.alloc (.cells (mkCells T e c.toNat) e) → b = w.heap.size → K (.slice (some ⟨b, 0, none⟩) l.toNat c.toNat) w') False
    | _, _, _ => False
  | .convert src dst x =>
    match (T src).d, (T dst).d with
    | .slice e, .str =>
      match (T e).d with
      | .int .u8 => ∃ s, (Conv.bytesToString (ρ x)).run P w = .ok (.string s) w ∧ K (.string s) w
      | _ => False
    | .str, .slice e =>
      match (T e).d, ρ x with
      | .int .u8, .string s => ∃ a n c w', (Conv.stringToBytes e s).run P w = .ok (.slice a n c) w' ∧ K (.slice a n c) w'
      | _, _ => False
    | _, _ => pv P T ρ (.convert src dst x) fun v => K v w
  | .lookup t x i ok => ExR T ty fun v => (Instr.lookup t (ρ x) (ρ i) ok).run P w = .ok v w ∧ K v w
  | .mapUpdate t m k x => ∃ w', (Instr.mapUpdate t (ρ m) (ρ k) (ρ x)).run P w = .ok () w' ∧ K undef w'
  | .insert t m k x => ∃ w', (Instr.mapUpdate t (ρ m) (ρ k) (ρ x)).run P w = .ok () w' ∧ K undef w'
  | .makeMap _ none => ∀ w' b, w' = w.alloc (.map #[] 0) → b = w.heap.size → K (.map (some b)) w'
  | .range t x => ∃ v w', (Instr.range t (ρ x)).run P w = .ok v w' ∧ K v w'
  | .next it s => ExR T ty fun v => ∃ w', (Instr.next (ρ it) s ty).run P w = .ok v w' ∧ K v w'
  | .entry it => ∃ v, (Instr.entry (ρ it)).run P w = .ok v w ∧ K v w
  | .call c =>
    match c.callee with
    | .builtin b =>
      match b with
      | .append => ∃ a n c1 w', (Builtin.append_ c.argTypes ty (mapA ρ c.args)).run P w = .ok (.slice a n c1) w' ∧ K (.slice a n c1) w'
      | .copy => ∃ n : Int, ∃ w', (Builtin.copy_ c.argTypes ty (mapA ρ c.args)).run P w = .ok (.int .i64 n) w' ∧ K (.int .i64 n) w'
      | .unsafeSliceData => ∃ a, (Builtin.unsafeSliceData_ c.argTypes ty (mapA ρ c.args)).run P w = .ok (.pointer a) w ∧ K (.pointer a) w
      | .unsafeString => ∃ s w', (Builtin.unsafeString_ c.argTypes ty (mapA ρ c.args)).run P w = .ok (.string s) w' ∧ K (.string s) w'
      | _ => pv P T ρ (.call c) fun v => K v w
    | .value f => RawCall P fok (ρ f) (mapA ρ c.args) w (Ret T ty K)
    | .invoke recv name => InvCall P fok (ρ recv) name (mapA ρ c.args) w (Ret T ty K)
  | op => pv P T ρ op fun v => K v w

theorem Ret.elim {ty : Nat} {K : Value → World → Prop} {e : Ending} {w : World} (h : Ret T ty K e w) : ∃ v, e = .returned v ∧ K v w := by
  obtain ⟨v, h⟩ := ExR.elim h
  exact ⟨v, h⟩

theorem callFunc_run (H : Tab P T fok) {g : Nat} (hg : fok g = true) (args : Array Value) (w : World) : (callFunc g args).run P w = .ok (.enter g args) w := by
  obtain ⟨fn, hf, hn, hb⟩ := H.fn g hg
  unfold callFunc
  rw [Sem.run_bind, run_program]
  simp only [Result.andThen, hf]
  rw [hn, hb]
  rfl

theorem wv_pure (H : Tab P T fok) {o : Oper} {ρ : Operand → Value} {w : World} {K : Value → World → Prop} (h : pv P T ρ o.op fun v => K v w) : Exec P (execOp ρ o) w K := by
  obtain ⟨v, hk, hr⟩ := pv_sound H o ρ _ h
  exact Exec.of_value (hr w) hk

theorem wv_sound (H : Tab P T fok) (o : Oper) (ρ : Operand → Value) (w : World) (K : Value → World → Prop) (h : wv P T fok ρ o.type o.op w K) : Exec P (execOp ρ o) w K := by
  obtain ⟨dst, op, ty, pos, after, guard⟩ := o
  change wv P T fok ρ ty op w K at h
  cases op
  case load t a =>
    simp only [wv] at h
    split at h
    · rename_i p ha
      obtain ⟨ht, h⟩ := cond_true h
      have hag := H.run_isAgg (typed_spec ht).1 (typed_spec ht).2 w
      have hsz := H.run_sizeOf (typed_spec ht).1 (typed_spec ht).2 w
      cases hagg : isAggD (T t).d with
      | true =>
        rw [hagg] at h hag
        obtain ⟨cs, hl, hld, hk⟩ := ExL.elim h
        have hlen : cs.length = (T t).size := by rw [hl]; exact H.size_one (typed_spec ht).1 (typed_spec ht).2
        have hc := run_loadCells_list (P := P) w p cs (fun j v hj => by simpa using LdL_spec hld j v hj)
        refine Exec.of_value (v := .agg cs.toArray) (vrun ?_) hk
        simp only [Instr.loadAt, ha, Instr.sureAddr, Sem.run_bind, Sem.run_pure, Result.andThen, loadVar, hag, if_true, hsz, ← hlen, hc]
      | false =>
        rw [hagg] at h hag
        replace h : ExV (T t) (fun v => w.cell? p = some v ∧ K v w) := h
        obtain ⟨v, hv, hk⟩ := ExV.elim h
        refine Exec.of_value (v := v) (vrun ?_) hk
        simp only [Instr.loadAt, ha, Instr.sureAddr, Sem.run_bind, Sem.run_pure, Result.andThen, loadVar, hag, Bool.false_eq_true, if_false, run_load, hv]
    · exact h.elim
  case store t a x =>
    simp only [wv] at h
    split at h
    · rename_i p ha
      obtain ⟨ht, h⟩ := cond_true h
      simp only [Bool.and_eq_true, beq_iff_eq] at ht
      obtain ⟨w', hk, hr⟩ := StoL_sound (P := P) h
      have hsz := H.run_sizeOf (typed_spec ht.1).1 (typed_spec ht.1).2 w
      have hrun : (Instr.storeAt t (ρ a) (ρ x)).run P w = .ok () w' := by
        simp only [Instr.storeAt, ha, Instr.sureAddr, Sem.run_bind, Sem.run_pure, Result.andThen, storeVar, hsz, ht.2, ne_eq, not_true_eq_false, if_false, hr]
      unfold Exec
      have : (execOp ρ ⟨dst, .store t a x, ty, pos, after, guard⟩).run P w = .ok .skip w' := by
        simp only [execOp, Sem.run_bind, hrun, Result.andThen, Sem.run_pure]
      rw [this]; exact hk
    · exact h.elim
  case alloc t =>
    obtain ⟨ht, h⟩ := cond_true h
    obtain ⟨z, hz, _, hzr⟩ := H.run_zero (typed_spec ht).1 (typed_spec ht).2
    refine Exec.of_value (vrun ?_) (h _ _ rfl rfl)
    simp only [Instr.alloc, Sem.run_bind, hzr, Result.andThen, newVar, newRow, run_newObj, Sem.run_pure, hz]
    rfl
  case box t x =>
    refine Exec.of_value (vrun ?_) (h _ _ rfl rfl)
    simp only [Instr.box, Sem.run_bind, Result.andThen, newVar, newRow, run_newObj, Sem.run_pure]
    rfl
  case buildSlice t n parts =>
    simp only [wv] at h
    split at h
    · rename_i e hd
      obtain ⟨ht, h⟩ := cond_true h
      obtain ⟨cs, hf, hk⟩ := onSome.elim h
      simp only [Bool.and_eq_true] at ht
      have hle : n * (T e).size ≤ 16777216 := Nat.le_of_ble_eq_true ht.2
      obtain ⟨z, hz, _, hzr⟩ := H.run_zero (typed_spec ht.1).1 (typed_spec ht.1).2
      have hsz := H.run_sizeOf (typed_spec ht.1).1 (typed_spec ht.1).2 w
      have hfill := fillL_sound _ _ _ _ hf
      have hp : (parts.map fun (x : Nat × Operand) => (x.1, ρ x.2)).toList = partsOf ρ parts := by simp [partsOf]
      refine Exec.of_value (vrun ?_) (hk _ _ rfl rfl)
      have h24 : ¬ (n * (T e).size > 2 ^ 24) := by omega
      have hz2 : ∀ (zz : Array Value), (n * (T e).size ≠ 0 → zz = z.cells) → ((Array.range (n * (T e).size)).map (zz[· % zz.size]!)) = (mkCells T e n).toList.toArray := by
        intro zz hzz
        by_cases h0 : n * (T e).size = 0
        · rw [h0]; simp [mkCells, h0]
        · rw [hzz h0, hz, mkCells_eq', Array.toArray_toList]
      simp only [Instr.buildSlice, Sem.run_bind, run_underlying P t _ (H.isSlice hd), Result.andThen, hsz, h24, if_false, Sem.run_ite, Sem.run_pure]
      by_cases h0 : n * (T e).size = 0
      · rw [if_pos h0]
        simp only [hz2 #[] (fun hh => absurd h0 hh), hp, hfill, newRow, Sem.run_bind, run_newObj, Result.andThen, Sem.run_pure]
        rfl
      · rw [if_neg h0]
        simp only [Sem.run_bind, hzr, Result.andThen, Sem.run_pure, hz2 z.cells (fun _ => rfl), hp, hfill, newRow, run_newObj]
        rfl
    · exact h.elim
  case makeSlice t l c =>
    simp only [wv] at h
    split at h
    · rename_i e k l' k' c' hd hl hc
      obtain ⟨ht, h⟩ := cond_true h
      simp only [Bool.and_eq_true] at ht
      obtain ⟨h0, h1, h2, hk⟩ := h
      have hb : 1 ≤ (T e).bytes := Nat.le_of_ble_eq_true ht.2
      obtain ⟨i, hi, his, hib, _⟩ := H.desc (typed_spec ht.1).1 (typed_spec ht.1).2
      obtain ⟨z, hz, _, hzr⟩ := H.run_zero (typed_spec ht.1).1 (typed_spec ht.1).2
      have hc0 : 0 ≤ c' := Int.le_trans h0 h1
      have hcm : c' ≤ 281474976710656 := by
        have e1 : c' ≤ ((T e).bytes : Int) * c' := by
          have : (1 : Int) * c' ≤ ((T e).bytes : Int) * c' := Int.mul_le_mul_of_nonneg_right (by omega) hc0
          omega
        have e2 : ((maxMake : Nat) : Int) = 281474976710656 := rfl
        omega
      have hwc : IntKind.i64.wrap c' = c' := by simp [IntKind.wrap, IntKind.bits, IntKind.signed]; omega
      have hwl : IntKind.i64.wrap l' = l' := by simp [IntKind.wrap, IntKind.bits, IntKind.signed]; omega
      have htl : ∀ q : Int, 0 ≤ q → q ≤ c' → (decide (q < 0) || decide ((i.bytes : Int) * q > 2 ^ 48)) = false := by
        intro q hq0 hq
        have e1 : ((T e).bytes : Int) * q ≤ ((T e).bytes : Int) * c' := Int.mul_le_mul_of_nonneg_left hq (by omega)
        have e2 : ((maxMake : Nat) : Int) = 281474976710656 := rfl
        rw [hib]
        simp only [Bool.or_eq_false_iff, decide_eq_false_iff_not]
        exact ⟨by omega, by omega⟩
      refine Exec.of_value (vrun ?_) (hk _ _ rfl rfl)
      simp only [Instr.makeSlice, Sem.run_bind, run_underlying P t _ (H.isSlice hd), Result.andThen, hl, hc, asInt, asIntOf, Sem.run_pure, run_typeInfo hi, hwc, hwl]
      have hcond : ¬ ((decide (c' < 0) || decide ((i.bytes : Int) * c' > 2 ^ 48) || decide (l' < 0) || decide (l' > c')) = true) := by
        rw [htl c' hc0 (Int.le_refl _)]; simp; omega
      rw [if_neg hcond]
      have hsz := H.run_sizeOf (typed_spec ht.1).1 (typed_spec ht.1).2
      simp only [run_askRoom, Result.andThen, Sem.run_bind, Sem.run_pure, hsz, Sem.run_ite]
      have hz2 : ∀ (zz : Array Value), (c'.toNat * (T e).size ≠ 0 → zz = z.cells) → ((Array.range (c'.toNat * (T e).size)).map (zz[· % zz.size]!)) = mkCells T e c'.toNat := by
        intro zz hzz
        by_cases h0 : c'.toNat * (T e).size = 0
        · rw [h0]; simp [mkCells, h0]
        · rw [hzz h0, hz, mkCells_eq']
      by_cases h0 : c'.toNat * (T e).size = 0
      · rw [if_pos h0]
        simp only [hz2 #[] (fun hh => absurd h0 hh), newRow, Sem.run_bind, run_newObj, Result.andThen, Sem.run_pure]
        rfl
      · rw [if_neg h0]
        simp only [Sem.run_bind, hzr, Result.andThen, Sem.run_pure, hz2 z.cells (fun _ => rfl), newRow, run_newObj]
        rfl
    · exact h.elim
  case convert src dst' x =>
    simp only [wv] at h
    split at h
    · rename_i e hs hd
      split at h
      · rename_i he
        obtain ⟨s, hr, hk⟩ := h
        refine Exec.of_value (vrun ?_) hk
        have hx : ∀ s0, ρ x ≠ .string s0 := fun s0 hx => by rw [hx] at hr; simp [Conv.bytesToString] at hr
        simp only [convert, Sem.run_bind, run_underlying P src _ (H.isSlice hs), run_underlying P dst' _ (H.isStr hd), Result.andThen]
        cases hv : ρ x <;> first
          | (simp only [Sem.run_bind, run_underlying P e _ (H.isInt he), Result.andThen]; rw [hv] at hr; exact hr)
          | (rw [hv] at hr; simp [Conv.bytesToString] at hr)
      · exact h.elim
    · rename_i e hs hd
      split at h
      · rename_i s he hx
        obtain ⟨a, n, c, w', hr, hk⟩ := h
        refine Exec.of_value (vrun ?_) hk
        simp only [convert, Sem.run_bind, run_underlying P src _ (H.isStr hs), run_underlying P dst' _ (H.isSlice hd), Result.andThen, hx, run_underlying P e _ (H.isInt he), hr]
      · exact h.elim
    · exact wv_pure H h
  case lookup t x i ok =>
    replace h : ExR T ty (fun v => (Instr.lookup t (ρ x) (ρ i) ok).run P w = .ok v w ∧ K v w) := h
    obtain ⟨v, hr, hk⟩ := ExR.elim h
    exact Exec.of_value (vrun hr) hk
  case mapUpdate t m k x =>
    obtain ⟨w', hr, hk⟩ := h
    unfold Exec
    have : (execOp ρ ⟨dst, .mapUpdate t m k x, ty, pos, after, guard⟩).run P w = .ok .skip w' := by
      simp only [execOp, Sem.run_bind, hr, Result.andThen, Sem.run_pure]
    rw [this]; exact hk
  case insert t m k x =>
    obtain ⟨w', hr, hk⟩ := h
    unfold Exec
    have : (execOp ρ ⟨dst, .insert t m k x, ty, pos, after, guard⟩).run P w = .ok .skip w' := by
      simp only [execOp, Sem.run_bind, hr, Result.andThen, Sem.run_pure]
    rw [this]; exact hk
  case makeMap t r =>
    cases r with
    | none =>
      refine Exec.of_value (vrun ?_) (h _ _ rfl rfl)
      simp only [Instr.makeMap, Option.map_none, Sem.run_bind, run_newObj, Result.andThen, Sem.run_pure]
      rfl
    | some x => exact False.elim h
  case range t x =>
    obtain ⟨v, w', hr, hk⟩ := h
    exact Exec.of_value (vrun hr) hk
  case next it s =>
    replace h : ExR T ty (fun v => ∃ w', (Instr.next (ρ it) s ty).run P w = .ok v w' ∧ K v w') := h
    obtain ⟨v, w', hr, hk⟩ := ExR.elim h
    exact Exec.of_value (vrun hr) hk
  case entry it =>
    obtain ⟨v, hr, hk⟩ := h
    exact Exec.of_value (vrun hr) hk
  case call c =>
    obtain ⟨callee, args, ats⟩ := c
    simp only [wv] at h
    split at h
    · rename_i b
      split at h
      · obtain ⟨a, n, c1, w', hr, hk⟩ := h
        rw [mapA_eq] at hr
        exact Exec.of_value (vrun hr) hk
      · obtain ⟨n, w', hr, hk⟩ := h
        rw [mapA_eq] at hr
        exact Exec.of_value (vrun hr) hk
      · obtain ⟨a, hr, hk⟩ := h
        rw [mapA_eq] at hr
        exact Exec.of_value (vrun hr) hk
      · obtain ⟨s, w', hr, hk⟩ := h
        rw [mapA_eq] at hr
        exact Exec.of_value (vrun hr) hk
      · exact wv_pure H h
    · rename_i f
      have key : ∀ g first captured, ρ f = .func (.func g) first captured → fok g = true → Calls P g (first ++ args.map ρ ++ captured) w (Ret T ty K) →
          Exec P (execOp ρ ⟨dst, .call ⟨.value f, args, ats⟩, ty, pos, after, guard⟩) w K := by
        intro g first captured hf hg hc
        have : (execOp ρ ⟨dst, .call ⟨.value f, args, ats⟩, ty, pos, after, guard⟩).run P w = .ok (.enter g (first ++ args.map ρ ++ captured)) w := by
          simp only [execOp, resolve, hf, Deferred.ofValue, Sem.run_bind, Sem.run_pure, Result.andThen, invoke, callFunc_run H hg]
        unfold Exec
        rw [this]
        exact hc.mono fun e w' h => Ret.elim h
      obtain ⟨g, first, captured, hf, hg, hc⟩ := RawCall.elim h
      have e0 : (first.toList ++ (mapA ρ args).toList ++ captured.toList).toArray = first ++ args.map ρ ++ captured := by apply Array.ext'; simp [mapA]
      rw [e0] at hc
      exact key g first captured hf hg hc
    · rename_i recv name
      obtain ⟨t, x, g, r, hv, hm, hg, hc⟩ := h
      have e00 : (r :: (mapA ρ args).toList).toArray = #[r] ++ args.map ρ := by apply Array.ext'; simp [mapA]
      rw [e00] at hc
      have : (execOp ρ ⟨dst, .call ⟨.invoke recv name, args, ats⟩, ty, pos, after, guard⟩).run P w = .ok (.enter g (#[r] ++ args.map ρ)) w := by
        have e0 : #[ρ recv] ++ args.map ρ = (ρ recv :: (args.map ρ).toList).toArray := by apply Array.ext'; simp
        have e1 : (#[ρ recv] ++ args.map ρ)[0]? = some (.iface t x) := by rw [e0, hv]; rfl
        have e2 : (#[ρ recv] ++ args.map ρ).extract 1 (#[ρ recv] ++ args.map ρ).size = args.map ρ := by
          rw [e0]
          apply Array.ext'
          simp only [List.extract_toArray, Array.size_map, List.size_toArray, List.length_cons, Array.length_toList, List.extract_eq_take_drop, List.drop_succ_cons, List.drop_zero, Nat.add_sub_cancel]
          rw [List.take_of_length_le (by simp)]
        simp only [execOp, resolve, Sem.run_bind, Sem.run_pure, Result.andThen, invoke, e1, callMethod, run_program, e2, hm, callFunc_run H hg]
      unfold Exec
      rw [this]
      exact hc.mono fun e w' h => Ret.elim h
  all_goals exact wv_pure H h
end
end Go.Proofs.VC
