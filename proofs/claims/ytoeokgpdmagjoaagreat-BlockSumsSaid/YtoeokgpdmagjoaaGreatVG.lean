import Derived.Test.YtoeokgpdmagjoaaGreatVF
import Derived.OrdersHeld
namespace Go.Proofs.VC
open Go

/-! ### environments -/
abbrev E := Nat → Option Value
def upd (f : E) (d : Nat) (v : Value) : E := fun t => cond (Nat.beq t d) (some v) (f t)
def evD (f : E) : Operand → Value
  | .tmp t => (f t).getD undef
  | .const v => v
  | .global g => .pointer (some ⟨g, 0, none⟩)
  | .func k => .func (.func k) #[] #[]
def knO (f : E) : Operand → Bool
  | .tmp t => (f t).isSome
  | _ => true
def opKn (f : E) (op : Op) : Bool := op.operands.toList.all (knO f)

structure Rep (n : Nat) (a : Act) (f : E) : Prop where
  defers : a.defers = []
  size : a.tmps.size = n
  val : ∀ t v, f t = some v → a.tmps.getD t undef = v

def putE (n : Nat) (f : E) (dst : Option Tmp) (v : Value) (K : E → Prop) : Prop :=
  match dst with
  | none => K f
  | some d => cond (Nat.blt d n) (K (upd f d v)) False

theorem Rep.put {n : Nat} {a : Act} {f : E} (h : Rep n a f) {dst : Option Tmp} {v : Value} {K : E → Prop} (hk : putE n f dst v K) : ∃ f', K f' ∧ Rep n (a.put dst v) f' := by
  cases dst with
  | none => exact ⟨f, hk, h⟩
  | some d =>
    obtain ⟨hd, hk⟩ := cond_true hk
    have hd' : d < a.tmps.size := by rw [h.size]; simpa [Nat.blt_eq] using hd
    refine ⟨_, hk, ⟨h.defers, by simp [Act.put, h.size], fun t u hu => ?_⟩⟩
    unfold upd at hu
    cases ht : Nat.beq t d with
    | true =>
      rw [ht] at hu
      have : t = d := Nat.eq_of_beq_eq_true ht
      subst this
      have hu' : some v = some u := hu
      cases hu'
      simp [Act.put, hd']
    | false =>
      rw [ht] at hu
      have hne : d ≠ t := fun e => by subst e; simp at ht
      have := h.val t u hu
      rw [← this]
      simp [Act.put, Array.getElem?_setIfInBounds_ne hne]

theorem Rep.eval {n : Nat} {a : Act} {f : E} (h : Rep n a f) {x : Operand} (hx : knO f x = true) : a.eval x = evD f x := by
  cases x with
  | tmp t =>
    simp only [knO] at hx
    obtain ⟨v, hv⟩ := Option.isSome_iff_exists.1 hx
    simp [Act.eval, evD, hv, h.val t v hv]
  | _ => rfl

theorem Rep.exec {n : Nat} {a : Act} {f : E} (h : Rep n a f) {o : Oper} (hs : ∀ cs b, o.op ≠ .select cs b) (hk : opKn f o.op = true) : execOp a.eval o = execOp (evD f) o :=
  execOp_congr o hs fun x hx => h.eval (List.all_eq_true.1 hk x (by simpa using hx))

theorem select_false {P : Program} {T : Nat → TI} {fok : Nat → Bool} {ρ : Operand → Value} {ty : Nat} {cs : Array SelectCase} {b : Bool} {w : World} {K : Value → World → Prop}
    (h : wv P T fok ρ ty (.select cs b) w K) : False := h

/-- The slot of a guard's operation. -/
def gslot (ops : Array Oper) (j : Nat) : Option Nat := (ops[j]?).bind (·.dst)

theorem yielded_of {n : Nat} {a : Act} {f : E} (h : Rep n a f) {ops : Array Oper} {j d : Nat} {v : Value} (hg : gslot ops j = some d) (hd : Nat.blt d n = true) (hv : f d = some v) :
    yielded ops a.tmps j = (match v with | .bool b => some b | _ => none) := by
  have hd' : d < a.tmps.size := by rw [h.size]; simpa [Nat.blt_eq] using hd
  have h1 := h.val d v hv
  unfold gslot at hg
  have h2 : a.tmps[d]? = some v := by
    rw [Array.getElem?_eq_getElem hd']
    rw [← h1]
    simp [hd']
  unfold yielded
  rw [hg]
  simp only [Option.bind_some, h2]
  cases v <;> rfl

/-- The two ways of a guard. -/
def guardE (n : Nat) (ops : Array Oper) (f : E) (g : Option (Nat × Bool)) (Y N : E → Prop) : Prop :=
  match g with
  | none => Y f
  | some (j, want) =>
    match gslot ops j with
    | none => False
    | some d => cond (Nat.blt d n)
      (match f d with
       | some (.bool b) => cond want (cond b (Y (upd f d (.bool true))) (N (upd f d (.bool false)))) (cond b (N (upd f d (.bool true))) (Y (upd f d (.bool false))))
       | some (.tuple _) => N f
       | _ => False) False

theorem Rep.same {n : Nat} {a : Act} {f : E} (h : Rep n a f) {d : Nat} {v : Value} (hv : f d = some v) : Rep n a (upd f d v) :=
  ⟨h.defers, h.size, fun t u hu => by
    unfold upd at hu
    cases ht : Nat.beq t d with
    | true =>
      rw [ht] at hu
      have : t = d := Nat.eq_of_beq_eq_true ht
      subst this
      have hu' : some v = some u := hu
      cases hu'
      exact h.val t _ hv
    | false => rw [ht] at hu; exact h.val t u hu⟩

theorem guardE_sound {n : Nat} {a : Act} {f : E} (h : Rep n a f) {ops : Array Oper} {o : Oper} {Y N : E → Prop} (hg : guardE n ops f o.guard Y N) :
    ∃ f', Rep n a f' ∧ ((Region.wanted o (yielded ops a.tmps) = true ∧ Y f') ∨ (Region.wanted o (yielded ops a.tmps) = false ∧ N f')) := by
  unfold guardE at hg
  cases ho : o.guard with
  | none => rw [ho] at hg; exact ⟨f, h, .inl ⟨by simp [Region.wanted, ho], hg⟩⟩
  | some g =>
    obtain ⟨j, want⟩ := g
    rw [ho] at hg
    cases hs : gslot ops j with
    | none => simp only [hs] at hg
    | some d =>
      simp only [hs] at hg
      obtain ⟨hd, hg⟩ := cond_true hg
      split at hg
      · rename_i b hv
        have hy := yielded_of h hs hd hv
        simp only at hy
        refine ⟨upd f d (.bool b), h.same hv, ?_⟩
        cases want <;> cases b <;> simp only [Region.wanted, ho, hy] <;> first | (left; exact ⟨by decide, hg⟩) | (right; exact ⟨by decide, hg⟩)
      · rename_i vs hv
        have hy := yielded_of h hs hd hv
        simp only at hy
        exact ⟨f, h, .inr ⟨by simp [Region.wanted, ho, hy], hg⟩⟩
      · exact hg.elim

section
variable {P : Program} {T : Nat → TI} {fok : Nat → Bool}

/-- One operation, then K. -/
def step (P : Program) (T : Nat → TI) (fok : Nat → Bool) (n : Nat) (ops : Array Oper) (o : Oper) (f : E) (w : World) (K : E → World → Prop) : Prop :=
  guardE n ops f o.guard
    (fun f => cond (opKn f o.op) (wv P T fok (evD f) o.type o.op w fun v w' => putE n f o.dst v fun f' => K f' w') False)
    (fun f => putE n f o.dst undef fun f' => K f' w)

theorem Exec.wp {o : Oper} {a : Act} {w : World} {N : Value → World → Prop} {next : Act → World → Prop} {Q : Exit → Act → World → Prop}
    (h : Exec P (execOp a.eval o) w N) (hn : ∀ v w', N v w' → next (a.put o.dst v) w') : o.wp P a w next Q := by
  unfold Oper.wp
  unfold Exec at h
  split at h
  · rename_i v w' hr; rw [hr]; exact hn _ _ h
  · rename_i w' hr; rw [hr]; exact hn _ _ h
  · rename_i g args w' hr
    rw [hr]
    refine Calls.mono h ?_
    rintro e w'' ⟨v, rfl, hv⟩
    exact hn _ _ hv
  · exact h.elim

theorem step_sound (H : Tab P T fok) {n : Nat} {ops : Array Oper} {o : Oper} {a : Act} {f : E} {w : World} {K : E → World → Prop} (hr : Rep n a f)
    (h : step P T fok n ops o f w K) {Q : Exit → Act → World → Prop} :
    if Region.wanted o (yielded ops a.tmps) then o.wp P a w (fun a' w' => ∃ f', K f' w' ∧ Rep n a' f' ∧ ∃ v, a' = a.put o.dst v) Q else ∃ f', K f' w ∧ Rep n (a.put o.dst undef) f' := by
  obtain ⟨f', hr', hh⟩ := guardE_sound hr h
  rcases hh with ⟨hw, hy⟩ | ⟨hw, hy⟩
  · rw [if_pos hw]
    obtain ⟨hk, hy⟩ := cond_true hy
    have hs : ∀ cs b, o.op ≠ .select cs b := fun cs b hop => by rw [hop] at hy; exact select_false hy
    have he := wv_sound H o (evD f') w _ hy
    rw [← hr'.exec hs hk] at he
    refine he.wp fun v w' hv => ?_
    obtain ⟨f2, h1, h2⟩ := hr'.put hv
    exact ⟨f2, h1, h2, v, rfl⟩
  · rw [if_neg (by simp [hw])]
    obtain ⟨f2, h1, h2⟩ := hr'.put hy
    exact ⟨f2, h1, h2⟩

/-! ### a region in the order of the text -/
def vcOps (P : Program) (T : Nat → TI) (fok : Nat → Bool) (n : Nat) (ops : Array Oper) : List Oper → E → World → (E → World → Prop) → Prop
  | [], f, w, K => K f w
  | o :: rest, f, w, K => step P T fok n ops o f w fun f' w' => vcOps P T fok n ops rest f' w' K

/-- What lies outside the slots that are written stays. -/
def Agree (W : Nat → Prop) (a a' : Act) : Prop := ∀ t, ¬ W t → a'.tmps.getD t undef = a.tmps.getD t undef
theorem Agree.refl (W : Nat → Prop) (a : Act) : Agree W a a := fun _ _ => rfl
theorem Agree.trans {W : Nat → Prop} {a b c : Act} (h : Agree W a b) (h' : Agree W b c) : Agree W a c := fun t ht => (h' t ht).trans (h t ht)
theorem Agree.mono {W W' : Nat → Prop} {a b : Act} (h : Agree W a b) (hw : ∀ t, W t → W' t) : Agree W' a b := fun t ht => h t fun hh => ht (hw t hh)
theorem Agree.put (W : Nat → Prop) (a : Act) {dst : Option Tmp} {v : Value} (h : ∀ d, dst = some d → W d) : Agree W a (a.put dst v) := by
  intro t ht
  cases dst with
  | none => rfl
  | some d =>
    have hne : d ≠ t := fun e => ht (e ▸ h d rfl)
    simp [Act.put, Array.getElem?_setIfInBounds_ne hne]

def wOps (l : List Oper) (t : Nat) : Prop := ∃ o ∈ l, o.dst = some t

theorem vcOps_sound (H : Tab P T fok) {n : Nat} {ops : Array Oper} {Q : Exit → Act → World → Prop} : ∀ (l : List Oper) {a : Act} {f : E} {w : World} {K : E → World → Prop}, Rep n a f →
    vcOps P T fok n ops l f w K → (∀ a' f' w', K f' w' → Rep n a' f' → Agree (wOps l) a a' → Q .normal a' w') → wpList P ops Q l a w
  | [], a, f, w, K, hr, h, hq => hq _ _ _ h hr (Agree.refl _ _)
  | o :: rest, a, f, w, K, hr, h, hq => by
    have hs := step_sound H hr h (Q := Q)
    refine wpList_step fun K2 hK2 => ?_
    have hmem : ∀ d, o.dst = some d → wOps (o :: rest) d := fun d hd => ⟨o, by simp, hd⟩
    split
    · rename_i hw
      rw [if_pos hw] at hs
      refine Oper.wp_mono (fun a' w' hh => ?_) hs
      obtain ⟨f', h1, h2, v, rfl⟩ := hh
      refine hK2 _ _ (vcOps_sound H rest h2 h1 fun a2 f2 w2 k2 r2 g2 => hq _ _ _ k2 r2 ?_)
      exact (Agree.put _ a hmem).trans (g2.mono fun t ⟨o', ho', ht⟩ => ⟨o', by simp [ho'], ht⟩)
    · rename_i hw
      rw [if_neg hw] at hs
      obtain ⟨f', h1, h2⟩ := hs
      refine hK2 _ _ (vcOps_sound H rest h2 h1 fun a2 f2 w2 k2 r2 g2 => hq _ _ _ k2 r2 ?_)
      exact (Agree.put _ a hmem).trans (g2.mono fun t ⟨o', ho', ht⟩ => ⟨o', by simp [ho'], ht⟩)
end
end Go.Proofs.VC
