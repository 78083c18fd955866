import Derived.Test.YtoeokgpdmagjoaaGreatVA
namespace Go.Proofs.VC
open Go

def OSome {α : Type} (a : Option α) (K : α → Prop) : Prop := ∃ x, a = some x ∧ K x

def kd (k k' : IntKind) (Q : Prop) : Prop := cond (k == k') Q False
theorem kd.elim {k k' : IntKind} {Q : Prop} (h : kd k k' Q) : k = k' ∧ Q := by
  unfold kd at h
  cases hk : k == k' with
  | true => rw [hk] at h; exact ⟨by simpa using hk, h⟩
  | false => rw [hk] at h; exact h.elim

def andI (k : IntKind) (a b : Int) : Int := k.wrap ((BitVec.ofInt k.bits a &&& BitVec.ofInt k.bits b).toNat : Int)
def orI (k : IntKind) (a b : Int) : Int := k.wrap ((BitVec.ofInt k.bits a ||| BitVec.ofInt k.bits b).toNat : Int)
def xorI (k : IntKind) (a b : Int) : Int := k.wrap ((BitVec.ofInt k.bits a ^^^ BitVec.ofInt k.bits b).toNat : Int)
def shlI (k : IntKind) (a n : Int) : Int := k.wrap (a * 2 ^ (min n.toNat k.bits))
def shrI (k : IntKind) (a n : Int) : Int := a.fdiv (2 ^ (min n.toNat k.bits))

def binI (op : BinOp) (k : IntKind) (a : Int) (k' : IntKind) (b : Int) (K : Value → Prop) : Prop :=
  match op with
  | .add => kd k k' (K (.int k (k.wrap (a + b))))
  | .sub => kd k k' (K (.int k (k.wrap (a - b))))
  | .mul => kd k k' (K (.int k (k.wrap (a * b))))
  | .quo => kd k k' (b ≠ 0 ∧ K (.int k (k.wrap (a.tdiv b))))
  | .rem => kd k k' (b ≠ 0 ∧ K (.int k (a.tmod b)))
  | .and => kd k k' (K (.int k (andI k a b)))
  | .or => kd k k' (K (.int k (orI k a b)))
  | .xor => kd k k' (K (.int k (xorI k a b)))
  | .andNot => False
  | .shl => 0 ≤ b ∧ K (.int k (shlI k a b))
  | .shr => 0 ≤ b ∧ K (.int k (shrI k a b))
  | .eql => kd k k' (K (.bool (a == b)))
  | .neq => kd k k' (K (.bool (a != b)))
  | .lss => kd k k' (K (.bool (decide (a < b))))
  | .leq => kd k k' (K (.bool (decide (a ≤ b))))
  | .gtr => kd k k' (K (.bool (decide (a > b))))
  | .geq => kd k k' (K (.bool (decide (a ≥ b))))

/-- 'an operation that yields v in whatever world' -/
def Pur (P : Program) (s : Sem Value) (K : Value → Prop) : Prop := ∃ v, K v ∧ ∀ w, s.run P w = .ok v w

theorem binI_sound {P : Program} {op : BinOp} {t : Nat} {k k' : IntKind} {a b : Int} {K : Value → Prop} (h : binI op k a k' b K) :
    Pur P (binOp op t (.int k a) (.int k' b)) K := by
  cases op <;> simp only [binI] at h
  case shl => exact ⟨_, h.2, fun w => by simp [binOp, Op.shift, shlI, Int.not_lt.2 h.1]⟩
  case shr => exact ⟨_, h.2, fun w => by simp [binOp, Op.shift, shrI, Int.not_lt.2 h.1]⟩
  all_goals
    obtain ⟨rfl, h'⟩ := kd.elim h
  case quo => exact ⟨_, h'.2, fun w => by simp [binOp, Op.intDiv, h'.1]⟩
  case rem => exact ⟨_, h'.2, fun w => by simp [binOp, Op.intDiv, h'.1]⟩
  all_goals exact ⟨_, h', fun w => by simp only [binOp, ne_eq, not_true_eq_false, if_false]; rfl⟩

def strMax : Nat := 9223372036854775807
def binS (op : BinOp) (a b : ByteArray) (K : Value → Prop) : Prop :=
  match op with
  | .add => a.size + b.size ≤ strMax ∧ K (.string (a ++ b))
  | .eql => K (.bool (a.toList == b.toList))
  | .neq => K (.bool (!(a.toList == b.toList)))
  | _ => False

theorem binS_sound {P : Program} {op : BinOp} {t : Nat} {a b : ByteArray} {K : Value → Prop} (h : binS op a b K) :
    Pur P (binOp op t (.string a) (.string b)) K := by
  cases op <;> simp only [binS] at h
  case add =>
    refine ⟨_, h.2, fun w => ?_⟩
    have h1 := h.1
    have : ¬ (((a.size + b.size : Nat) : Int) > IntKind.i64.max) := by
      have e : IntKind.i64.max = 9223372036854775807 := rfl
      rw [e]; unfold strMax at h1; omega
    simp only [binOp, Op.stringOp]
    rw [if_neg this]; rfl
  case eql => exact ⟨_, h, fun w => by simp [binOp, Op.stringOp]⟩
  case neq => exact ⟨_, h, fun w => by simp [binOp, Op.stringOp]⟩
  all_goals exact h.elim

/-- '==' of two structs: its run is told apart. -/
def AggB (P : Program) (op : BinOp) (t : Nat) (x y : Value) (r : Bool) : Prop :=
  ∀ ρx ρy w, (do eqGuard op t ρx ρy x y; binOp op t x y).run P w = .ok (.bool r) w

def AggEq (P : Program) (op : BinOp) (t : Nat) (x y : Value) (K : Value → Prop) : Prop :=
  ∃ r : Bool, (∀ ρx ρy w, (do eqGuard op t ρx ρy x y; binOp op t x y).run P w = .ok (.bool r) w) ∧ K (.bool r)

def isPtrD : D → Bool | .ptr => true | _ => false
def isBoolD : D → Bool | .bool => true | _ => false
def isSliceD : D → Bool | .slice _ => true | _ => false

/-- A comparison with nil: 'none' says that the other side is nil. -/
def nilCmp (op : BinOp) (isNil : Bool) (K : Value → Prop) : Prop :=
  match op with
  | .eql => K (.bool isNil)
  | .neq => K (.bool (!isNil))
  | _ => False

def bin (P : Program) (T : Nat → TI) (op : BinOp) (t : Nat) (x y : Value) (K : Value → Prop) : Prop :=
  match x, y with
  | .int k a, .int k' b => binI op k a k' b K
  | .string a, .string b => binS op a b K
  | .bool a, .bool b => cond (isBoolD (T t).d) (match op with | .eql => K (.bool (a == b)) | .neq => K (.bool (!(a == b))) | _ => False) False
  | .pointer a, .pointer none => cond (isPtrD (T t).d) (nilCmp op a.isNone K) False
  | .pointer none, .pointer b => cond (isPtrD (T t).d) (nilCmp op b.isNone K) False
  | .slice a _ _, .slice none _ _ => cond (isSliceD (T t).d) (nilCmp op a.isNone K) False
  | .agg a, .agg b => AggEq P op t (.agg a) (.agg b) K
  | _, _ => False

theorem cond_true {c : Bool} {Q : Prop} (h : cond c Q False) : c = true ∧ Q := by cases c <;> simp_all

section
variable {P : Program} {T : Nat → TI} {fok : Nat → Bool}
theorem Tab.desc (H : Tab P T fok) {t : Nat} (h : isNoneD (T t).d = false) (h2 : isTupD (T t).d = false) :
    ∃ i, P.info? t = some i ∧ i.size = (T t).size ∧ i.bytes = (T t).bytes ∧ (T t).fl.length = (T t).size ∧ descOk P t (T t).d = true ∧
      ∃ z, i.zero = some z ∧ z.cells.toList = (T t).fl.map B.zero ∧ (match z with | .agg _ => true | _ => false) = isAggD (T t).d := by
  have := H.ok t
  unfold tiOk at this
  rw [h, h2] at this
  simp only [Bool.false_or] at this
  split at this
  · cases this
  · rename_i i hi
    simp only [Bool.and_eq_true, beq_iff_eq] at this
    obtain ⟨⟨⟨⟨h1, h2⟩, h3⟩, h4⟩, h5⟩ := this
    refine ⟨i, hi, h1, h2, h3, h4, ?_⟩
    split at h5
    · rename_i z hz
      simp only [Bool.and_eq_true, beq_iff_eq] at h5
      exact ⟨z, hz, zerosEq_spec h5.1, h5.2⟩
    · cases h5

theorem Tab.isPtr (H : Tab P T fok) {t : Nat} (h : isPtrD (T t).d = true) : ∃ e, P.underlying t = some (.pointer e) := by
  cases hd : (T t).d <;> rw [hd] at h <;> simp [isPtrD] at h
  obtain ⟨i, _, _, _, _, h4, _⟩ := H.desc (t := t) (by rw [hd]; rfl) (by rw [hd]; rfl)
  rw [hd] at h4
  simp only [descOk] at h4
  split at h4
  · rename_i e he; exact ⟨e, he⟩
  · cases h4
theorem Tab.isBool (H : Tab P T fok) {t : Nat} (h : isBoolD (T t).d = true) : P.underlying t = some .bool := by
  cases hd : (T t).d <;> rw [hd] at h <;> simp [isBoolD] at h
  obtain ⟨i, _, _, _, _, h4, _⟩ := H.desc (t := t) (by rw [hd]; rfl) (by rw [hd]; rfl)
  rw [hd] at h4
  simp only [descOk] at h4
  split at h4
  · assumption
  · cases h4
theorem Tab.isSlice (H : Tab P T fok) {t e : Nat} (h : (T t).d = .slice e) : P.underlying t = some (.slice e) := by
  obtain ⟨i, _, _, _, _, h4, _⟩ := H.desc (t := t) (by rw [h]; rfl) (by rw [h]; rfl)
  rw [h] at h4
  simp only [descOk] at h4
  split at h4
  · rename_i e' he; simp at h4; rw [he, h4]
  · cases h4
theorem Tab.isArr (H : Tab P T fok) {t n e : Nat} (h : (T t).d = .arr n e) : P.underlying t = some (.array n e) := by
  obtain ⟨i, _, _, _, _, h4, _⟩ := H.desc (t := t) (by rw [h]; rfl) (by rw [h]; rfl)
  rw [h] at h4
  simp only [descOk] at h4
  split at h4
  · rename_i e' he; simp at h4; rw [he, h4.1, h4.2]
  · cases h4
theorem Tab.isInt (H : Tab P T fok) {t : Nat} {k : IntKind} (h : (T t).d = .int k) : P.underlying t = some (.int k) := by
  obtain ⟨i, _, _, _, _, h4, _⟩ := H.desc (t := t) (by rw [h]; rfl) (by rw [h]; rfl)
  rw [h] at h4
  simp only [descOk] at h4
  split at h4
  · rename_i e' he; simp at h4; rw [he, h4]
  · cases h4
theorem Tab.isStr (H : Tab P T fok) {t : Nat} (h : (T t).d = .str) : P.underlying t = some .string := by
  obtain ⟨i, _, _, _, _, h4, _⟩ := H.desc (t := t) (by rw [h]; rfl) (by rw [h]; rfl)
  rw [h] at h4
  simp only [descOk] at h4
  split at h4
  · assumption
  · cases h4
theorem Tab.isMap (H : Tab P T fok) {t : Nat} (h : (T t).d = .map) : ∃ a b, P.underlying t = some (.map a b) := by
  obtain ⟨i, _, _, _, _, h4, _⟩ := H.desc (t := t) (by rw [h]; rfl) (by rw [h]; rfl)
  rw [h] at h4
  simp only [descOk] at h4
  split at h4
  · exact ⟨_, _, by assumption⟩
  · cases h4
theorem Tab.isStruct (H : Tab P T fok) {t : Nat} {fs : List (Nat × Nat)} (h : (T t).d = .struct fs) : ∃ ff, P.underlying t = some (.struct ff) ∧ fieldsOk P ff.toList fs = true := by
  obtain ⟨i, _, _, _, _, h4, _⟩ := H.desc (t := t) (by rw [h]; rfl) (by rw [h]; rfl)
  rw [h] at h4
  simp only [descOk] at h4
  split at h4
  · rename_i ff he; exact ⟨ff, he, h4⟩
  · cases h4

/-- A binary operation with its guard: what execOp runs. -/
def binRun (op : BinOp) (t : Nat) (ρx ρy : Operand) (x y : Value) : Sem Value := do eqGuard op t ρx ρy x y; binOp op t x y

theorem run_underlying (P : Program) (t : Nat) (d : TypeDesc) (h : P.underlying t = some d) (w : World) : (underlying t).run P w = .ok d w := by
  unfold Go.underlying
  simp [h]

theorem eqGuard_quiet (op : BinOp) (t : Nat) (ρx ρy : Operand) (x y : Value) (w : World) (h1 : ∀ a b, ¬ (x = .agg a ∧ y = .agg b)) (h2 : ¬ (x = .nilIface ∧ y = .nilIface)) :
    (eqGuard op t ρx ρy x y).run P w = .ok () w := by
  have key : ∀ op, op = BinOp.eql ∨ op = BinOp.neq → (eqGuard op t ρx ρy x y).run P w = .ok () w := by
    rintro op (rfl | rfl) <;>
    · unfold eqGuard
      simp only [Bool.not_true, Bool.false_eq_true, if_false]
      split
      · exact absurd ⟨rfl, rfl⟩ h2
      · exact absurd ⟨rfl, rfl⟩ (h1 _ _)
      · rfl
  cases op <;> first | rfl | exact key _ (.inl rfl) | exact key _ (.inr rfl)

theorem equal_bool {t : Nat} (hu : P.underlying t = some .bool) (a b : Bool) (w : World) : (Op.equal t (.bool a) (.bool b)).run P w = .ok (a == b) w := by
  show (Op.equalIn (9999 + 1) t (.bool a) (.bool b)).run P w = _
  rw [Op.equalIn, Sem.run_bind, run_underlying P t _ hu]
  rfl
theorem equal_ptr {t e : Nat} (hu : P.underlying t = some (.pointer e)) (a : Option Addr) (w : World) : (Op.equal t (.pointer a) (.pointer none)).run P w = .ok a.isNone w := by
  show (Op.equalIn (9999 + 1) t (.pointer a) (.pointer none)).run P w = _
  rw [Op.equalIn, Sem.run_bind, run_underlying P t _ hu]
  cases a <;> rfl
theorem equal_ptr' {t e : Nat} (hu : P.underlying t = some (.pointer e)) (a : Option Addr) (w : World) : (Op.equal t (.pointer none) (.pointer a)).run P w = .ok a.isNone w := by
  show (Op.equalIn (9999 + 1) t (.pointer none) (.pointer a)).run P w = _
  rw [Op.equalIn, Sem.run_bind, run_underlying P t _ hu]
  rfl
theorem equal_slice {t e : Nat} (hu : P.underlying t = some (.slice e)) (a : Option Addr) (n c m d : Nat) (w : World) : (Op.equal t (.slice a n c) (.slice none m d)).run P w = .ok a.isNone w := by
  show (Op.equalIn (9999 + 1) t (.slice a n c) (.slice none m d)).run P w = _
  rw [Op.equalIn, Sem.run_bind, run_underlying P t _ hu]
  cases a <;> rfl
theorem run_eql {t : Nat} {x y : Value} {r : Bool} (h : binOp .eql t x y = do pure (.bool (← Op.equal t x y))) (w : World) (hr : (Op.equal t x y).run P w = .ok r w) :
    (binOp .eql t x y).run P w = .ok (.bool r) w := by
  rw [h, Sem.run_bind, hr]; rfl
theorem run_neq {t : Nat} {x y : Value} {r : Bool} (h : binOp .neq t x y = do pure (.bool (!(← Op.equal t x y)))) (w : World) (hr : (Op.equal t x y).run P w = .ok r w) :
    (binOp .neq t x y).run P w = .ok (.bool (!r)) w := by
  rw [h, Sem.run_bind, hr]; rfl

theorem bin_sound (H : Tab P T fok) {op : BinOp} {t : Nat} {ρx ρy : Operand} {x y : Value} {K : Value → Prop} (h : bin P T op t x y K) :
    Pur P (binRun op t ρx ρy x y) K := by
  have quiet : (∀ a b, ¬ (x = .agg a ∧ y = .agg b)) → (¬ (x = .nilIface ∧ y = .nilIface)) → Pur P (binOp op t x y) K → Pur P (binRun op t ρx ρy x y) K := by
    rintro h1 h2 ⟨v, hk, hr⟩
    refine ⟨v, hk, fun w => ?_⟩
    unfold binRun
    rw [Sem.run_bind, eqGuard_quiet op t ρx ρy x y w h1 h2]
    exact hr w
  unfold bin at h
  split at h
  · exact quiet (by simp) (by simp) (binI_sound h)
  · exact quiet (by simp) (by simp) (binS_sound h)
  · obtain ⟨hb, h⟩ := cond_true h
    have hu := H.isBool hb
    refine quiet (by simp) (by simp) ?_
    cases op <;> simp only [] at h
    case eql => exact ⟨_, h, fun w => run_eql rfl w (equal_bool hu _ _ w)⟩
    case neq => exact ⟨_, h, fun w => run_neq rfl w (equal_bool hu _ _ w)⟩
  · obtain ⟨hb, h⟩ := cond_true h
    obtain ⟨e, hu⟩ := H.isPtr hb
    refine quiet (by simp) (by simp) ?_
    cases op <;> simp only [nilCmp] at h
    case eql => exact ⟨_, h, fun w => run_eql rfl w (equal_ptr hu _ w)⟩
    case neq => exact ⟨_, h, fun w => run_neq rfl w (equal_ptr hu _ w)⟩
  · obtain ⟨hb, h⟩ := cond_true h
    obtain ⟨e, hu⟩ := H.isPtr hb
    refine quiet (by simp) (by simp) ?_
    cases op <;> simp only [nilCmp] at h
    case eql => exact ⟨_, h, fun w => run_eql rfl w (equal_ptr' hu _ w)⟩
    case neq => exact ⟨_, h, fun w => run_neq rfl w (equal_ptr' hu _ w)⟩
  · obtain ⟨hb, h⟩ := cond_true h
    have hu : ∃ e, P.underlying t = some (.slice e) := by
      cases hd : (T t).d <;> rw [hd] at hb <;> simp [isSliceD] at hb
      exact ⟨_, H.isSlice hd⟩
    obtain ⟨e, hu⟩ := hu
    refine quiet (by simp) (by simp) ?_
    cases op <;> simp only [nilCmp] at h
    case eql => exact ⟨_, h, fun w => run_eql rfl w (equal_slice hu _ _ _ _ _ w)⟩
    case neq => exact ⟨_, h, fun w => run_neq rfl w (equal_slice hu _ _ _ _ _ w)⟩
  · obtain ⟨r, hr, h⟩ := h
    exact ⟨_, h, fun w => hr ρx ρy w⟩
  · exact h.elim
end
end Go.Proofs.VC
