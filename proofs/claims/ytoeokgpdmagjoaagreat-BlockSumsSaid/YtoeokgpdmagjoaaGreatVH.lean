import Derived.Test.YtoeokgpdmagjoaaGreatVG
namespace Go.Proofs.VC
open Go
section
variable {P : Program} {T : Nat → TI} {fok : Nat → Bool} {ops : Array Oper} {Q : Exit → Act → World → Prop}

/-- Of a load that was taken first: its number, a cell, what the cell holds. -/
abbrev Ent := Nat × Addr × Value

def waitsOn (ops : Array Oper) (j i : Nat) : Bool :=
  match ops[j]? with
  | some o => o.after.any fun e => Region.binds .any e && e.on == i
  | none => false

/-- Behind operation j: what was read ahead of it, though it need not wait for that, is as it was. -/
def HeldL (ops : Array Oper) (j : Nat) (w w' : World) : List Ent → Prop
  | [] => True
  | e :: es => cond (waitsOn ops j e.1 || e.1 == j) (HeldL ops j w w' es) ((w.cell? e.2.1 = some e.2.2 → w'.cell? e.2.1 = some e.2.2) ∧ HeldL ops j w w' es)

theorem HeldL_spec {ops : Array Oper} {j : Nat} {w w' : World} : ∀ {es : List Ent}, HeldL ops j w w' es → ∀ e ∈ es, waitsOn ops j e.1 = false → e.1 ≠ j → w.cell? e.2.1 = some e.2.2 → w'.cell? e.2.1 = some e.2.2
  | x :: es, h, e, he, h1, h2, h3 => by
    unfold HeldL at h
    rcases List.mem_cons.1 he with rfl | he
    · have : (waitsOn ops j e.1 || e.1 == j) = false := by simp [h1, h2]
      rw [this] at h
      exact h.1 h3
    · cases hc : (waitsOn ops j x.1 || x.1 == j) with
      | true => rw [hc] at h; exact HeldL_spec h e he h1 h2 h3
      | false => rw [hc] at h; exact HeldL_spec h.2 e he h1 h2 h3

theorem HeldL_same {ops : Array Oper} {j : Nat} {w : World} : ∀ (es : List Ent), HeldL ops j w w es
  | [] => trivial
  | x :: es => by
    unfold HeldL
    cases (waitsOn ops j x.1 || x.1 == j) with
    | true => exact HeldL_same es
    | false => exact ⟨id, HeldL_same es⟩

def wpG (P : Program) (ops : Array Oper) (Q : Exit → Act → World → Prop) (Sl : List Ent) : Nat → Array Bool → Act → World → Prop
  | 0, listed, a, w => Region.ready .any ops listed = [] ∧ Q .normal a w
  | fuel + 1, listed, a, w =>
    (Region.ready .any ops listed = [] → Q .normal a w) ∧
    ∀ i ∈ Region.ready .any ops listed, wpOp P ops Q i (fun a' w' => HeldL ops i w w' Sl ∧ wpG P ops Q Sl fuel (listed.setIfInBounds i true) a' w') a w

theorem wpAny_of_G {Sl : List Ent} : ∀ (fuel : Nat) (listed : Array Bool) (a : Act) (w : World), wpG P ops Q Sl fuel listed a w → wpAny P .any ops Q fuel listed a w
  | 0, _, _, _, h => h
  | fuel + 1, _, _, _, h => ⟨h.1, fun i hi => wpOp_mono (fun a' w' h' => wpAny_of_G fuel _ a' w' h'.2) (h.2 i hi)⟩

/-- What must hold for operation i to yield what it yields. -/
def OfI (Sl : List Ent) (i : Nat) (w : World) : Prop := ∀ e ∈ Sl, e.1 = i → w.cell? e.2.1 = some e.2.2

theorem wpG_first {Sl : List Ent} {i : Nat} {oi : Oper} {v : Value} (hi : ops[i]? = some oi) (hsel : ∀ (j : Nat) (o : Oper) cs b, ops[j]? = some o → o.op ≠ .select cs b)
    (hQ : ∀ c a w, Q (.panic c) (a.put oi.dst v) w → Q (.panic c) a w) :
    ∀ (fuel : Nat) (listed : Array Bool) (a : Act) (w : World),
      (∀ j oj, ops[j]? = some oj → j ≠ i → listed.getD j true = false → (∀ e ∈ oj.after, Region.binds .any e = true → e.on ≠ i) → oi.apart ops oj = true) →
      i ∈ Region.ready .any ops listed → YieldsIf P ops (OfI Sl i) oi v a → OfI Sl i w →
      wpG P ops Q Sl fuel (listed.setIfInBounds i true) (a.put oi.dst v) w → wpG P ops Q Sl (fuel + 1) listed a w := by
  intro fuel
  induction fuel with
  | zero =>
    intro listed a w _ hr hy hS H
    refine ⟨fun h => (by rw [h] at hr; cases hr), fun j hj => ?_⟩
    by_cases hji : j = i
    · subst hji; exact hy.wpOp hi hS ⟨HeldL_same _, H⟩
    · have := ready_mono hj hji
      rw [H.1] at this
      cases this
  | succ fuel ih =>
    intro listed a w hfree hr hy hS H
    refine ⟨fun h => (by rw [h] at hr; cases hr), fun j hj => ?_⟩
    by_cases hji : j = i
    · subst hji; exact hy.wpOp hi hS ⟨HeldL_same _, H⟩
    · have h1 := H.2 j (ready_mono hj hji)
      obtain ⟨hjun, oj, hoj, hall⟩ := mem_ready.1 hj
      have hnot : ∀ e ∈ oj.after, Region.binds .any e = true → e.on ≠ i := fun e he hb heq => by
        have h1 := hall e he hb
        have h0 := (mem_ready.1 hr).1
        rw [heq] at h1
        rcases Nat.lt_or_ge i listed.size with h' | h'
        · simp [h'] at h0 h1; rw [h0] at h1; cases h1
        · simp [Array.getElem?_eq_none h'] at h1
      have hwait : waitsOn ops j i = false := by
        unfold waitsOn
        simp only [hoj]
        cases hb : oj.after.any fun e => Region.binds .any e && e.on == i with
        | false => rfl
        | true =>
          obtain ⟨e, he, hbe⟩ := Array.any_eq_true'.1 hb
          simp only [Bool.and_eq_true, beq_iff_eq] at hbe
          exact absurd hbe.2 (hnot e he hbe.1)
      have h2 := wpOp_putIf hoj (hfree j oj hoj hji hjun hnot) (fun cs b => hsel i oi cs b hi) (fun cs b => hsel j oj cs b hoj) hQ hy h1
      have hfree' : ∀ k ok, ops[k]? = some ok → k ≠ i → (listed.setIfInBounds j true).getD k true = false →
          (∀ e ∈ ok.after, Region.binds .any e = true → e.on ≠ i) → oi.apart ops ok = true := fun k ok hk hki hun hno => by
        refine hfree k ok hk hki ?_ hno
        by_cases hjk : j = k
        · subst hjk; exact hjun
        · rw [getD_set_ne true hjk] at hun; exact hun
      refine wpOp_mono (fun a' w' h3 => ⟨h3.2.1, ?_⟩) h2
      have hS' : OfI Sl i w' := fun e he hei => HeldL_spec h3.2.1 e he (by rw [hei]; exact hwait) (by rw [hei]; exact fun h => hji h.symm) (hS e he hei)
      refine ih (listed.setIfInBounds j true) a' w' hfree' (ready_mono hr (Ne.symm hji)) h3.1 hS' ?_
      rw [Array.setIfInBounds_comm _ _ hji]
      exact h3.2.2

/-- Take number i first. -/
theorem wpG_take {Sl : List Ent} {i : Nat} {oi : Oper} {v : Value} {fuel : Nat} {listed : Array Bool} {a : Act} {w : World} (hi : ops[i]? = some oi)
    (hs : Region.noSelect ops = true) (hf : Region.free .any ops listed i = true) (hr : (Region.ready .any ops listed).contains i = true)
    (hQ : ∀ c a w, Q (.panic c) (a.put oi.dst v) w → Q (.panic c) a w) (hy : YieldsIf P ops (OfI Sl i) oi v a) (hS : OfI Sl i w)
    (h : wpG P ops Q Sl fuel (listed.setIfInBounds i true) (a.put oi.dst v) w) : wpG P ops Q Sl (fuel + 1) listed a w :=
  wpG_first hi (Region.noSelect_spec hs) hQ fuel listed a w (Region.free_spec hi hf) (by simpa using hr) hy hS h

/-! ### the evaluator of a region that draws its order -/
def isPureT (T : Nat → TI) (op : Op) : Bool :=
  match op with
  | .convert src dst _ =>
    match (T src).d, (T dst).d with
    | .int _, .int _ => true
    | .str, .str => true
    | _, _ => false
  | op => isPure op
def isLoad : Op → Bool
  | .load _ _ => true
  | _ => false
def pureAt (T : Nat → TI) (ops : Array Oper) (i : Nat) : Bool := match ops[i]? with | some o => isPureT T o.op | none => false
def loadAt' (nf : List Nat) (ops : Array Oper) (i : Nat) : Bool := match ops[i]? with | some o => isLoad o.op && !nf.contains i | none => false

/-- The first of those that may come up and may be taken. -/
def pick (can : Nat → Bool) (ops : Array Oper) (listed : Array Bool) : List Nat → Option Nat
  | [] => none
  | i :: is => cond (can i && Region.free .any ops listed i) (some i) (pick can ops listed is)

theorem pick_spec {can : Nat → Bool} {listed : Array Bool} {i : Nat} : ∀ {l : List Nat}, pick can ops listed l = some i → i ∈ l ∧ can i = true ∧ Region.free .any ops listed i = true
  | x :: xs, h => by
    unfold pick at h
    cases hc : (can x && Region.free .any ops listed x) with
    | true =>
      rw [hc] at h
      have h' : some x = some i := h
      cases h'
      simp only [Bool.and_eq_true] at hc
      exact ⟨by simp, hc.1, hc.2⟩
    | false =>
      rw [hc] at h
      have := pick_spec (show pick can ops listed xs = some i from h)
      exact ⟨by simp [this.1], this.2⟩

def entsOf (i : Nat) (p : Addr) : Nat → List Value → List Ent
  | _, [] => []
  | k, c :: cs => (i, p.add k, c) :: entsOf i p (k + 1) cs

/-- A pure operation, or a load, that is taken first. -/
def takeP (P : Program) (T : Nat → TI) (n : Nat) (ops : Array Oper) (i : Nat) (o : Oper) (f : E) (w : World) (K : List Ent → E → Prop) : Prop :=
  guardE n ops f o.guard
    (fun f => cond (opKn f o.op)
      (match o.op with
       | .load t a =>
         match evD f a with
         | .pointer (some p) =>
           cond (typed (T t).d)
             (cond (isAggD (T t).d) (ExL (T t).fl fun cs => LdL w p 0 cs ∧ putE n f o.dst (.agg cs.toArray) fun f' => K (entsOf i p 0 cs) f')
               (ExV (T t) fun v => w.cell? p = some v ∧ putE n f o.dst v fun f' => K [(i, p, v)] f')) False
         | _ => False
       | op => cond (isPureT T op) (pv P T (evD f) op fun v => putE n f o.dst v fun f' => K [] f') False) False)
    (fun f => putE n f o.dst undef fun f' => K [] f')

def allOf (X : Nat → Prop) : List Nat → Prop
  | [] => True
  | [i] => X i
  | i :: is => X i ∧ allOf X is

theorem allOf_spec {X : Nat → Prop} : ∀ {l : List Nat}, allOf X l → ∀ i ∈ l, X i
  | [x], h, i, hi => by simp at hi; subst hi; exact h
  | x :: y :: l, h, i, hi => by
    rcases List.mem_cons.1 hi with rfl | hi
    · exact h.1
    · exact allOf_spec h.2 i hi

def orderP (P : Program) (T : Nat → TI) (fok : Nat → Bool) (nf : List Nat) (n : Nat) (ops : Array Oper) (K : E → World → Prop) : Nat → List Ent → Array Bool → E → World → Prop
  | 0, _, listed, f, w => cond (Region.ready .any ops listed).isEmpty (K f w) False
  | fuel + 1, Sl, listed, f, w =>
    match Region.ready .any ops listed with
    | [] => K f w
    | r :: rs =>
      match pick (fun i => pureAt T ops i || loadAt' nf ops i) ops listed (r :: rs) with
      | some i => match ops[i]? with
        | some o => cond (Sl.all fun e => e.1 != i) (takeP P T n ops i o f w fun es f' => orderP P T fok nf n ops K fuel (Sl ++ es) (listed.setIfInBounds i true) f' w) False
        | none => False
      | none => allOf (fun i => match ops[i]? with
          | some o => step P T fok n ops o f w fun f' w' => (HeldL ops i w w' Sl ∧ orderP P T fok nf n ops K fuel Sl (listed.setIfInBounds i true) f' w')
          | none => False) (r :: rs)

def vcDraw (P : Program) (T : Nat → TI) (fok : Nat → Bool) (nf : List Nat) (n : Nat) (ops : Array Oper) (f : E) (w : World) (K : E → World → Prop) : Prop :=
  cond (Region.noSelect ops) (∀ w', w' = w.drew → orderP P T fok nf n ops K ops.size [] (Array.replicate ops.size false) f w') False
end
end Go.Proofs.VC
