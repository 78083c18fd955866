import Derived.Test.YtoeokgpdmagjoaaGreatVI
namespace Go.Proofs.VC
open Go

/-! ### relations over typed values -/
def CurT (R : Type) : List B → Type
  | [] => R
  | .int _ :: bs => Int → CurT R bs
  | .bool :: bs => Bool → CurT R bs
  | .str :: bs => ByteArray → CurT R bs
  | .ptr :: bs => Option Addr → CurT R bs
  | .sl :: bs => Option Addr → Nat → Nat → CurT R bs
  | .map :: bs => Option Nat → CurT R bs
  | .fn :: bs => Value → CurT R bs
  | .ifc :: bs => Value → CurT R bs
  | .ad :: bs => Addr → CurT R bs

def appT {R : Type} : (bs : List B) → CurT R bs → List Value → (R → Prop) → Prop
  | [], g, _, K => K g
  | .int k :: bs, g, .int k' n :: vs, K => cond (k == k') (appT bs (g n) vs K) False
  | .bool :: bs, g, .bool n :: vs, K => appT bs (g n) vs K
  | .str :: bs, g, .string n :: vs, K => appT bs (g n) vs K
  | .ptr :: bs, g, .pointer n :: vs, K => appT bs (g n) vs K
  | .sl :: bs, g, .slice a n c :: vs, K => appT bs (g a n c) vs K
  | .map :: bs, g, .map n :: vs, K => appT bs (g n) vs K
  | .fn :: bs, g, v :: vs, K => appT bs (g v) vs K
  | .ifc :: bs, g, v :: vs, K => appT bs (g v) vs K
  | .ad :: bs, g, .pointer (some a) :: vs, K => appT bs (g a) vs K
  | _, _, _, _ => False

def AllB : B → (Value → Prop) → Prop
  | .int k, Q => ∀ n : Int, Q (.int k n)
  | .bool, Q => ∀ n : Bool, Q (.bool n)
  | .str, Q => ∀ n : ByteArray, Q (.string n)
  | .ptr, Q => ∀ n : Option Addr, Q (.pointer n)
  | .sl, Q => ∀ (a : Option Addr) (n c : Nat), Q (.slice a n c)
  | .map, Q => ∀ n : Option Nat, Q (.map n)
  | .fn, Q => ∀ v : Value, Q v
  | .ifc, Q => ∀ v : Value, Q v
  | .ad, Q => ∀ a : Addr, Q (.pointer (some a))
def AllL : List B → (List Value → Prop) → Prop
  | [], Q => Q []
  | b :: bs, Q => AllB b fun v => AllL bs fun vs => Q (v :: vs)

/-- Which values fit. -/
def fits : B → Value → Prop
  | .int k, v => ∃ n, v = .int k n
  | .bool, v => ∃ n, v = .bool n
  | .str, v => ∃ n, v = .string n
  | .ptr, v => ∃ n, v = .pointer n
  | .sl, v => ∃ a n c, v = .slice a n c
  | .map, v => ∃ n, v = .map n
  | .fn, _ => True
  | .ifc, _ => True
  | .ad, v => ∃ a, v = .pointer (some a)
def fitsL : List B → List Value → Prop
  | [], [] => True
  | b :: bs, v :: vs => fits b v ∧ fitsL bs vs
  | _, _ => False

theorem AllB.at_ {b : B} {Q : Value → Prop} (h : AllB b Q) {v : Value} (hv : fits b v) : Q v := by
  cases b <;> simp only [fits] at hv
  case sl => obtain ⟨a, n, c, rfl⟩ := hv; exact h a n c
  case fn => exact h v
  case ifc => exact h v
  all_goals (obtain ⟨n, rfl⟩ := hv; exact h n)
theorem AllL.at_ : ∀ {bs : List B} {Q : List Value → Prop}, AllL bs Q → ∀ {vs : List Value}, fitsL bs vs → Q vs
  | [], _, h, [], _ => h
  | _ :: bs, _, h, _ :: _, hf => AllL.at_ (bs := bs) (AllB.at_ h hf.1) hf.2
  | [], _, _, _ :: _, hf => hf.elim
  | _ :: _, _, _, [], hf => hf.elim

/-- A relation applied: the values fit, and it is the same whatever the proof. -/
theorem appT_spec {R : Type} : ∀ {bs : List B} {g : CurT R bs} {vs : List Value} {K : R → Prop}, appT bs g vs K → vs.length = bs.length → fitsL bs vs ∧ ∃ r, K r ∧ ∀ K', K' r → appT bs g vs K'
  | [], g, [], K, h, _ => ⟨trivial, g, h, fun _ h => h⟩
  | b :: bs, g, v :: vs, K, h, hl => by
    have hl' : vs.length = bs.length := by simpa using hl
    cases b <;> cases v
    case ad.pointer n =>
      cases n with
      | none => exact False.elim h
      | some a =>
        obtain ⟨h1, r, h2, h3⟩ := appT_spec (bs := bs) h hl'
        exact ⟨⟨⟨_, rfl⟩, h1⟩, r, h2, fun K' hK => h3 K' hK⟩
    all_goals simp only [appT] at h
    all_goals first
      | exact h.elim
      | (obtain ⟨hk, h⟩ := cond_true h
         obtain ⟨h1, r, h2, h3⟩ := appT_spec h hl'
         have hk' := eq_of_beq hk
         subst hk'
         exact ⟨⟨⟨_, rfl⟩, h1⟩, r, h2, fun K' hK => by simp only [appT, hk]; exact h3 K' hK⟩)
      | (obtain ⟨h1, r, h2, h3⟩ := appT_spec h hl'
         first
           | exact ⟨⟨⟨_, rfl⟩, h1⟩, r, h2, fun K' hK => h3 K' hK⟩
           | exact ⟨⟨⟨_, _, _, rfl⟩, h1⟩, r, h2, fun K' hK => h3 K' hK⟩
           | exact ⟨⟨trivial, h1⟩, r, h2, fun K' hK => h3 K' hK⟩)
  | [], _, _ :: _, _, _, hl => by simp at hl
  | _ :: _, _, [], _, _, hl => by simp at hl
end Go.Proofs.VC
