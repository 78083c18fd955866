import Derived.Test.YtoeokgpdmagjoaaGreatVB
namespace Go.Proofs.VC
open Go

def putL (cs : List Value) : Nat → List Value → List Value
  | _, [] => cs
  | off, v :: vs => putL (cs.set off v) (off + 1) vs

def fillL (place : Nat → Option (Nat × Nat)) (cs : List Value) : List (Nat × Value) → Option (List Value)
  | [] => some cs
  | (i, v) :: rest =>
    match place i with
    | none => none
    | some (off, size) => bif v.cells.size == size && Nat.ble (off + size) cs.length then fillL place (putL cs off v.cells.toList) rest else none

theorem putL_fold (vs : List Value) : ∀ (cs : List Value) (off : Nat), (putL cs off vs).toArray = vs.zipIdx.foldl (fun (cs : Array Value) (p : Value × Nat) => cs.setIfInBounds (off + p.2) p.1) cs.toArray := by
  suffices h : ∀ (vs : List Value) (cs : List Value) (off k : Nat), (putL cs (off + k) vs).toArray = (vs.zipIdx k).foldl (fun (cs : Array Value) (p : Value × Nat) => cs.setIfInBounds (off + p.2) p.1) cs.toArray from fun cs off => by simpa using h vs cs off 0
  intro vs
  induction vs with
  | nil => intro cs off k; rfl
  | cons v vs ih =>
    intro cs off k
    simp only [putL, List.zipIdx_cons, List.foldl_cons]
    rw [Nat.add_assoc, ih]
    simp

theorem putL_len (vs : List Value) : ∀ (cs : List Value) (off : Nat), (putL cs off vs).length = cs.length := by
  induction vs with
  | nil => intro cs off; rfl
  | cons v vs ih => intro cs off; simp [putL, ih]

theorem fillL_sound (place : Nat → Option (Nat × Nat)) : ∀ (parts : List (Nat × Value)) (cs r : List Value), fillL place cs parts = some r → Instr.fill place cs.toArray parts = some r.toArray := by
  intro parts
  induction parts with
  | nil => intro cs r h; simp [fillL] at h; simp [Instr.fill, h]
  | cons p parts ih =>
    intro cs r h
    obtain ⟨i, v⟩ := p
    simp only [fillL] at h
    simp only [Instr.fill]
    split at h
    · cases h
    · rename_i off size hp
      simp only [hp]
      cases hc : (v.cells.size == size && Nat.ble (off + size) cs.length) with
      | false => rw [hc] at h; cases h
      | true =>
        rw [hc] at h
        replace h : fillL place (putL cs off v.cells.toList) parts = some r := h
        simp only [Bool.and_eq_true, beq_iff_eq] at hc
        have h2 : off + size ≤ cs.length := Nat.le_of_ble_eq_true hc.2
        rw [if_neg (by simp [hc.1]; omega)]
        have := ih _ _ h
        rw [← this]
        congr 1
        rw [putL_fold]
        rw [← Array.foldl_toList]
        simp

/-- The address of a slice that is cut from another one. -/
def sA (a : Option Addr) (es l m : Nat) : Option Addr := if m = l then a else a.map (·.add (l * es))

def boundI (v : Value) (hi : Nat) (K : Nat → Prop) : Prop :=
  match v with
  | .int _ x => 0 ≤ x ∧ x ≤ (hi : Int) ∧ K x.toNat
  | _ => False

/-- The bounds of a slice expression. -/
def boundsI (n c : Nat) (lo hi mx : Option Value) (K : Nat → Nat → Nat → Prop) : Prop :=
  match mx with
  | none =>
    match hi, lo with
    | none, none => K 0 n c
    | none, some l => boundI l n fun l => K l n c
    | some h, none => boundI h c fun h => K 0 h c
    | some h, some l => boundI h c fun h => boundI l h fun l => K l h c
  | some m =>
    match hi, lo with
    | some h, none => boundI m c fun m => boundI h m fun h => K 0 h m
    | some h, some l => boundI m c fun m => boundI h m fun h => boundI l h fun l => K l h m
    | none, _ => False

theorem boundI_sound {P : Program} {v : Value} {hi : Nat} {K : Nat → Prop} {c : BoundsCode} (h : boundI v hi K) : ∃ n, K n ∧ ∀ w, (Instr.sliceBound v hi c).run P w = .ok n w := by
  unfold boundI at h
  split at h
  · obtain ⟨h1, h2, h3⟩ := h
    refine ⟨_, h3, fun w => ?_⟩
    simp [Instr.sliceBound, asIntOf, h1, h2]
  · exact h.elim

theorem boundsI_sound {P : Program} {s : Bool} {n c : Nat} {lo hi mx : Option Value} {K : Nat → Nat → Nat → Prop} (h : boundsI n c lo hi mx K) :
    ∃ l h m, K l h m ∧ ∀ w, (Instr.sliceBounds s n c lo hi mx).run P w = .ok (l, h, m) w := by
  unfold boundsI at h
  split at h
  · split at h
    · exact ⟨_, _, _, h, fun w => by simp [Instr.sliceBounds]⟩
    · obtain ⟨l, hk, hl⟩ := boundI_sound (P := P) (c := .sliceB) h
      exact ⟨_, _, _, hk, fun w => by simp [Instr.sliceBounds, hl]⟩
    · obtain ⟨l, hk, hl⟩ := boundI_sound (P := P) (c := if s then .sliceAcap else .sliceAlen) h
      exact ⟨_, _, _, hk, fun w => by simp [Instr.sliceBounds, hl]⟩
    · obtain ⟨h1, hk, hl⟩ := boundI_sound (P := P) (c := if s then .sliceAcap else .sliceAlen) h
      obtain ⟨l1, hk, hl'⟩ := boundI_sound (P := P) (c := .sliceB) hk
      exact ⟨_, _, _, hk, fun w => by simp [Instr.sliceBounds, hl, hl']⟩
  · split at h
    · obtain ⟨m1, hk, hm⟩ := boundI_sound (P := P) (c := if s then .slice3Acap else .slice3Alen) h
      obtain ⟨h1, hk, hl⟩ := boundI_sound (P := P) (c := .slice3B) hk
      exact ⟨_, _, _, hk, fun w => by simp [Instr.sliceBounds, hm, hl]⟩
    · obtain ⟨m1, hk, hm⟩ := boundI_sound (P := P) (c := if s then .slice3Acap else .slice3Alen) h
      obtain ⟨h1, hk, hl⟩ := boundI_sound (P := P) (c := .slice3B) hk
      obtain ⟨l1, hk, hl'⟩ := boundI_sound (P := P) (c := .slice3C) hk
      exact ⟨_, _, _, hk, fun w => by simp [Instr.sliceBounds, hm, hl, hl']⟩
    · exact h.elim

/-- As 'Array.map'; the kernel reckons it by the list. -/
def mapA {α β : Type} (f : α → β) (a : Array α) : Array β := (a.toList.map f).toArray
theorem mapA_eq {α β : Type} (f : α → β) (a : Array α) : mapA f a = a.map f := by apply Array.ext'; simp [mapA]

def partsOf (ρ : Operand → Value) (parts : Array (Nat × Operand)) : List (Nat × Value) := parts.toList.map fun p => (p.1, ρ p.2)

def structPlace (T : Nat → TI) (fs : List (Nat × Nat)) (i : Nat) : Option (Nat × Nat) :=
  match fs[i]? with
  | some (o, t) => some (o, (T t).size)
  | none => none

/-- Each part of a struct has a type. -/
def structTyped (T : Nat → TI) (fs : List (Nat × Nat)) : Bool := fs.all fun g => !isNoneD (T g.2).d && !isTupD (T g.2).d

def onSome {α : Type} (o : Option α) (K : α → Prop) : Prop := match o with | some x => K x | none => False
theorem onSome.elim {α : Type} {o : Option α} {K : α → Prop} (h : onSome o K) : ∃ x, o = some x ∧ K x := by
  cases o with
  | none => exact False.elim h
  | some x => exact ⟨x, rfl, h⟩

def lenV (T : Nat → TI) (t : Nat) (v : Value) (K : Value → Prop) : Prop :=
  match (T t).d, v with
  | .str, .string s => K (.int .i64 s.size)
  | .slice _, .slice _ n _ => K (.int .i64 n)
  | .arr n _, _ => K (.int .i64 n)
  | _, _ => False

def min2V (x y : Value) (K : Value → Prop) : Prop :=
  match x, y with
  | .int k a, .int _ b => K (.int k (if b < a then b else a))
  | _, _ => False
def max2V (x y : Value) (K : Value → Prop) : Prop :=
  match x, y with
  | .int k a, .int _ b => K (.int k (if b > a then b else a))
  | _, _ => False

def hasTy : D → Bool
  | .none | .tup _ | .ifc => false
  | _ => true

/-- The operations that yield a value in whatever world. -/
def pv (P : Program) (T : Nat → TI) (ρ : Operand → Value) (op : Op) (K : Value → Prop) : Prop :=
  match op with
  | .move x => K (ρ x)
  | .assign x => K (ρ x)
  | .pick c a b =>
    match ρ c with
    | .bool c =>
      match ρ a, ρ b with
      | .bool x, .bool y => K (.bool (cond c x y))
      | x, y => cond c (K x) (K y)
    | _ => False
  | .nilCheck x =>
    match ρ x with
    | .pointer a => OSome a fun p => K (.pointer (some p))
    | .func (.func f) a b => K (.func (.func f) a b)
    | .iface t v => K (.iface t v)
    | _ => False
  | .unOp op _ x =>
    match op, ρ x with
    | .neg, .int k n => K (.int k (k.wrap (0 - n)))
    | .not, .bool b => K (.bool (!b))
    | _, _ => False
  | .binOp op t x y _ => bin P T op t (ρ x) (ρ y) K
  | .convert src dst x =>
    match (T src).d, (T dst).d, ρ x with
    | .int _, .int k, .int _ n => K (.int k (k.wrap n))
    | .str, .str, .string s => K (.string s)
    | _, _, _ => False
  | .fieldAddr s x f =>
    match (T s).d, ρ x with
    | .struct fs, .pointer (some p) => onSome fs[f]? fun g => K (.pointer (some (p.add g.1)))
    | _, _ => False
  | .field t x f =>
    match (T t).d, ρ x with
    | .struct fs, .agg cs => onSome fs[f]? fun g => cond (hasTy (T g.2).d) (cond (isAggD (T g.2).d) (K (.agg ((cs.toList.drop g.1).take (T g.2).size).toArray)) (onSome cs.toList[g.1]? K)) False
    | _, _ => False
  | .build t parts =>
    match (T t).d with
    | .struct fs => cond (structTyped T fs) (onSome (fillL (structPlace T fs) ((T t).fl.map B.zero) (partsOf ρ parts)) fun cs => K (.agg cs.toArray)) False
    | .arr _ e => cond (hasTy (T e).d) (onSome (fillL (fun i => some (i * (T e).size, (T e).size)) ((T t).fl.map B.zero) (partsOf ρ parts)) fun cs => K (.agg cs.toArray)) False
    | _ => False
  | .extract x i =>
    match ρ x with
    | .tuple vs => onSome vs.toList[i]? K
    | _ => False
  | .makeInterface t x => cond (hasTy (T t).d) (K (.iface t (ρ x))) False
  | .makeFunc fn first captured => K (.func fn (mapA ρ first) (mapA ρ captured))
  | .indexAddr t x i =>
    match (T t).d, ρ x, ρ i with
    | .slice e, .slice a n _, .int _ i => 0 ≤ i ∧ i < (n : Int) ∧ cond (hasTy (T e).d || (match (T e).d with | .ifc => true | _ => false)) (OSome a fun p => K (.pointer (some (p.add (i.toNat * (T e).size))))) False
    | .arr n e, .pointer (some p), .int _ i => 0 ≤ i ∧ i < (n : Int) ∧ cond (hasTy (T e).d) (K (.pointer (some (p.add (i.toNat * (T e).size))))) False
    | _, _, _ => False
  | .index t x i =>
    match (T t).d, ρ x, ρ i with
    | .str, .string s, .int _ i => 0 ≤ i ∧ ∃ b : UInt8, s[i.toNat]? = some b ∧ K (.int .u8 (b.toNat : Nat))
    | .arr n e, .agg cs, .int _ i => 0 ≤ i ∧ i < (n : Int) ∧ cond (hasTy (T e).d && !isAggD (T e).d) (ExV (T e) fun v => cs.toList[i.toNat * (T e).size]? = some v ∧ K v) False
    | _, _, _ => False
  | .slice t x lo hi mx =>
    match (T t).d, ρ x with
    | .str, .string s =>
      match mx with
      | none => boundsI s.size s.size (lo.map ρ) (hi.map ρ) none fun l h _ => K (.string (s.extract l h))
      | some _ => False
    | .slice e, .slice a n c => cond (hasTy (T e).d || (match (T e).d with | .ifc => true | _ => false)) (boundsI n c (lo.map ρ) (hi.map ρ) (mx.map ρ) fun l h m => K (.slice (sA a (T e).size l m) (h - l) (m - l))) False
    | .arr n e, .pointer (some p) => cond (hasTy (T e).d) (boundsI n n (lo.map ρ) (hi.map ρ) (mx.map ρ) fun l h m => K (.slice (sA (some p) (T e).size l m) (h - l) (m - l))) False
    | _, _ => False
  | .typeAssert x _ t ok => cond (hasTy (T t).d) (ExV (T t) fun u => ρ x = .iface t u ∧ K (cond ok (.tuple #[u, .bool true]) u)) False
  | .call c =>
    match c.callee with
    | .builtin b =>
      match b, c.args.toList, c.argTypes.toList with
      | .len, [x], [t] => lenV T t (ρ x) K
      | .min, [x, y], _ => min2V (ρ x) (ρ y) K
      | .max, [x, y], _ => max2V (ρ x) (ρ y) K
      | _, _, _ => False
    | _ => False
  | _ => False

/-- Which operations 'pv' speaks of. -/
def isPure : Op → Bool
  | .move _ | .assign _ | .pick .. | .nilCheck _ | .unOp .. | .binOp .. | .fieldAddr .. | .field .. | .build .. | .extract .. | .makeInterface .. | .makeFunc .. | .indexAddr .. | .index .. | .slice .. | .typeAssert .. => true
  | .convert .. => true
  | .call c => match c.callee with
    | .builtin b => match b with | .len | .min | .max => true | _ => false
    | _ => false
  | _ => false
end Go.Proofs.VC
