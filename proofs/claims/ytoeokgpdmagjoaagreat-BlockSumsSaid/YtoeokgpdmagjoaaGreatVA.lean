import Derived.Tactics
import Derived.Orders
import Derived.KernelRfl
import Derived.Laws.Entries
import Derived.Laws.Cells
import Derived.Laws.Slices
import Derived.Laws.Strings
/-
The base: a reading of the model's code as a proposition in plain Lean (a calculus of weakest preconditions that the kernel computes), and that it is sound.
-/
namespace Go.Proofs.VC
open Go

/-- The first cell of an object. -/
abbrev A0 (b : Nat) : Addr := ⟨b, 0, none⟩

/-! ### kinds of cells, types -/
inductive B where
  | int (k : IntKind) | bool | str | ptr | sl | map | fn | ifc | ad

def B.zero : B → Value
  | .int k => .int k 0
  | .bool => .bool false
  | .str => .string .empty
  | .ptr => .pointer none
  | .sl => .slice none 0 0
  | .map => .map none
  | .fn => .nilFunc
  | .ifc => .nilIface
  | .ad => .pointer none

inductive D where
  | int (k : IntKind) | bool | str | ptr | slice (e : Nat) | map | fn | ifc | arr (n e : Nat) | struct (fs : List (Nat × Nat)) | tup (ts : List Nat) | none

structure TI where
  d : D
  size : Nat
  bytes : Nat
  fl : List B

def ExB : B → (Value → Prop) → Prop
  | .int k, Q => ∃ n : Int, Q (.int k n)
  | .bool, Q => ∃ n : Bool, Q (.bool n)
  | .str, Q => ∃ n : ByteArray, Q (.string n)
  | .ptr, Q => ∃ n : Option Addr, Q (.pointer n)
  | .sl, Q => ∃ (a : Option Addr) (n c : Nat), Q (.slice a n c)
  | .map, Q => ∃ n : Option Nat, Q (.map n)
  | .fn, Q => ∃ (g : Nat) (a c : Array Value), Q (.func (.func g) a c)
  | .ifc, Q => ∃ v : Value, Q v
  | .ad, Q => ∃ a : Addr, Q (.pointer (some a))

def ExL : List B → (List Value → Prop) → Prop
  | [], Q => Q []
  | b :: bs, Q => ExB b fun v => ExL bs fun vs => Q (v :: vs)

def ExV (x : TI) (Q : Value → Prop) : Prop :=
  match x.d with
  | .arr _ _ | .struct _ => ExL x.fl fun cs => Q (.agg cs.toArray)
  | .tup _ | .none => False
  | _ => match x.fl with
    | [b] => ExB b Q
    | _ => False

def ExVs (T : Nat → TI) : List Nat → (List Value → Prop) → Prop
  | [], Q => Q []
  | t :: ts, Q => ExV (T t) fun v => ExVs T ts fun vs => Q (v :: vs)

/-- Of a call's result. -/
def ExR (T : Nat → TI) (t : Nat) (Q : Value → Prop) : Prop :=
  match (T t).d with
  | .tup ts => ExVs T ts fun vs => Q (.tuple vs.toArray)
  | _ => ExV (T t) Q

theorem ExB.elim {b : B} {Q : Value → Prop} (h : ExB b Q) : ∃ v, Q v := by
  cases b <;> simp only [ExB] at h
  case sl => obtain ⟨a, n, c, h⟩ := h; exact ⟨_, h⟩
  case fn => obtain ⟨a, n, c, h⟩ := h; exact ⟨_, h⟩
  all_goals (obtain ⟨n, h⟩ := h; exact ⟨_, h⟩)

theorem ExL.elim {bs : List B} : ∀ {Q : List Value → Prop}, ExL bs Q → ∃ vs, vs.length = bs.length ∧ Q vs := by
  induction bs with
  | nil => intro Q h; exact ⟨[], rfl, h⟩
  | cons b bs ih =>
    intro Q h
    obtain ⟨v, h⟩ := ExB.elim h
    obtain ⟨vs, hl, h⟩ := ih h
    exact ⟨v :: vs, by simp [hl], h⟩

theorem ExV.elim {x : TI} {Q : Value → Prop} (h : ExV x Q) : ∃ v, Q v := by
  unfold ExV at h
  split at h
  · obtain ⟨vs, _, h⟩ := ExL.elim h; exact ⟨_, h⟩
  · obtain ⟨vs, _, h⟩ := ExL.elim h; exact ⟨_, h⟩
  · exact h.elim
  · exact h.elim
  · split at h
    · exact ExB.elim h
    · exact h.elim

theorem ExVs.elim {T : Nat → TI} {ts : List Nat} : ∀ {Q : List Value → Prop}, ExVs T ts Q → ∃ vs, Q vs := by
  induction ts with
  | nil => intro Q h; exact ⟨[], h⟩
  | cons t ts ih =>
    intro Q h
    obtain ⟨v, h⟩ := ExV.elim h
    obtain ⟨vs, h⟩ := ih h
    exact ⟨v :: vs, h⟩

theorem ExR.elim {T : Nat → TI} {t : Nat} {Q : Value → Prop} (h : ExR T t Q) : ∃ v, Q v := by
  unfold ExR at h
  split at h
  · obtain ⟨vs, h⟩ := ExVs.elim h; exact ⟨_, h⟩
  · exact ExV.elim h

/-! ### what the table says of the program -/
def isAggD : D → Bool
  | .arr _ _ | .struct _ => true
  | _ => false

def fieldsOk (P : Program) : List Field → List (Nat × Nat) → Bool
  | [], [] => true
  | f :: fs, (o, t) :: gs => f.offset == o && f.type == t && P.cellsOf t != 0 && fieldsOk P fs gs
  | _, _ => false

def descOk (P : Program) (t : Nat) : D → Bool
  | .int k => match P.underlying t with | some (.int k') => k == k' | _ => false
  | .bool => match P.underlying t with | some .bool => true | _ => false
  | .str => match P.underlying t with | some .string => true | _ => false
  | .ptr => match P.underlying t with | some (.pointer _) => true | _ => false
  | .slice e => match P.underlying t with | some (.slice e') => e == e' | _ => false
  | .map => match P.underlying t with | some (.map _ _) => true | _ => false
  | .fn => match P.underlying t with | some (.func _ _ _) => true | _ => false
  | .ifc => match P.underlying t with | some (.interface _) => true | _ => false
  | .arr n e => match P.underlying t with | some (.array n' e') => n == n' && e == e' | _ => false
  | .struct fs => match P.underlying t with | some (.struct ff) => fieldsOk P ff.toList fs | _ => false
  | .tup _ => true
  | .none => true

def zeroEq : Value → B → Bool
  | .int k n, .int k' => k == k' && n == 0
  | .bool x, .bool => !x
  | .string s, .str => s.size == 0
  | .pointer a, .ptr => a.isNone
  | .slice a n c, .sl => a.isNone && n == 0 && c == 0
  | .map r, .map => r.isNone
  | .nilFunc, .fn => true
  | .nilIface, .ifc => true
  | _, _ => false

def zerosEq : List Value → List B → Bool
  | [], [] => true
  | v :: vs, b :: bs => zeroEq v b && zerosEq vs bs
  | _, _ => false

def isNoneD : D → Bool
  | .none => true
  | _ => false
def isTupD : D → Bool
  | .tup _ => true
  | _ => false

def tiOk (P : Program) (t : Nat) (x : TI) : Bool :=
  isNoneD x.d || isTupD x.d ||
  (match P.info? t with
   | none => false
   | some i => i.size == x.size && i.bytes == x.bytes && x.fl.length == x.size && descOk P t x.d &&
      (match i.zero with
       | some z => zerosEq z.cells.toList x.fl && ((match z with | .agg _ => true | _ => false) == isAggD x.d)
       | none => false))

structure Tab (P : Program) (T : Nat → TI) (fok : Nat → Bool) : Prop where
  ok : ∀ t, tiOk P t (T t) = true
  fn : ∀ f, fok f = true → ∃ g, P.funcs[f]? = some g ∧ (g.name == "runtime.NumGoroutine") = false ∧ g.body.isNone = false
  mixed : P.follows .mixedOrders = true

theorem string_empty {s : ByteArray} (h : s.size = 0) : s = ByteArray.empty := by
  cases s with
  | mk d =>
    have : d = #[] := Array.eq_empty_of_size_eq_zero h
    subst this
    rfl

theorem zeroEq_spec {v : Value} {b : B} (h : zeroEq v b = true) : v = b.zero := by
  cases v <;> cases b <;> simp [zeroEq, B.zero] at h ⊢
  all_goals first
    | exact h
    | exact string_empty h
    | (obtain ⟨⟨h1, h2⟩, h3⟩ := h; exact ⟨h1, h2, h3⟩)

theorem zerosEq_spec : ∀ {vs : List Value} {bs : List B}, zerosEq vs bs = true → vs = bs.map B.zero
  | [], [], _ => rfl
  | v :: vs, b :: bs, h => by
    simp only [zerosEq, Bool.and_eq_true] at h
    simp [zeroEq_spec h.1, zerosEq_spec h.2]
  | [], _ :: _, h => by simp [zerosEq] at h
  | _ :: _, [], h => by simp [zerosEq] at h

end Go.Proofs.VC
