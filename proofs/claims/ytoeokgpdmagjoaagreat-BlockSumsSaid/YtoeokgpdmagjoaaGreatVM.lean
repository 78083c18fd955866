import Derived.Test.YtoeokgpdmagjoaaGreatVL
import Derived.Below
import Derived.Laws.BytesArg
import Derived.Laws.AppendOwn
/-
The steps: how a call's own memory is carried along; numbers; slices.
-/
namespace Go.Proofs.VC
open Go Go.RowKit

theorem OSome.i {α : Type} {x : α} {K : α → Prop} (h : K x) : OSome (some x) K := ⟨x, rfl, h⟩
@[simp] theorem OSome_some {α : Type} {x : α} {K : α → Prop} : OSome (some x) K ↔ K x := ⟨fun ⟨_, e, h⟩ => by cases e; exact h, OSome.i⟩
theorem bif_i {c : Bool} {A B : Prop} (h1 : c = true → A) (h2 : c = false → B) : bif c then A else B := by
  cases c with
  | true => exact h1 rfl
  | false => exact h2 rfl

/-! ### addresses -/
@[simp] theorem add_lit (b o n : Nat) : (⟨b, o, none⟩ : Addr).add n = ⟨b, o + n, none⟩ := by
  unfold Addr.add; split <;> simp_all
theorem A0_add (b n : Nat) : (A0 b).add n = ⟨b, n, none⟩ := by simp [A0]
theorem add_add (p : Addr) (i j : Nat) : (p.add i).add j = p.add (i + j) := by
  unfold Addr.add
  by_cases hi : i = 0
  · subst hi; simp
  · by_cases hj : j = 0
    · subst hj; simp [hi]
    · simp [hi, hj, Nat.add_assoc]
@[simp] theorem add_zero' (p : Addr) : p.add 0 = p := by simp [Addr.add]
@[simp] theorem add_block (p : Addr) (n : Nat) : (p.add n).block = p.block := by unfold Addr.add; split <;> rfl

/-! ### what a call leaves as it was -/
/-- But for the blocks M the world w' is, of what w had, as w was. -/
structure Fr (M : List Nat) (w w' : World) : Prop where
  os : w'.os = w.os
  tape : w'.tape = w.tape
  output : w'.output = w.output
  size : w.heap.size ≤ w'.heap.size
  block : ∀ k, k < w.heap.size → k ∉ M → w'.heap[k]? = w.heap[k]?

theorem Fr.refl (M : List Nat) (w : World) : Fr M w w := ⟨rfl, rfl, rfl, Nat.le_refl _, fun _ _ _ => rfl⟩
theorem Fr.trans {M : List Nat} {a b c : World} (h : Fr M a b) (k : Fr M b c) : Fr M a c :=
  ⟨k.os.trans h.os, k.tape.trans h.tape, k.output.trans h.output, Nat.le_trans h.size k.size, fun i hi hm => (k.block i (Nat.lt_of_lt_of_le hi h.size) hm).trans (h.block i hi hm)⟩
theorem Fr.below {w w' : World} (h : Fr [] w w') : Below w.heap.size w w' := ⟨h.os, h.tape, h.output, h.size, fun k hk => h.block k hk (by simp)⟩
theorem Fr.of_below {w w' : World} (h : Below w.heap.size w w') : Fr [] w w' := ⟨h.os, h.tape, h.output, h.size, fun k hk _ => h.block k hk⟩
theorem Fr.mono {M M' : List Nat} {w w' : World} (h : Fr M w w') (hm : ∀ k ∈ M, k ∈ M' ∨ w.heap.size ≤ k) : Fr M' w w' :=
  ⟨h.os, h.tape, h.output, h.size, fun k hk hn => h.block k hk fun hk2 => (hm k hk2).elim hn (fun h => absurd hk (by omega))⟩
theorem Fr.weak {M : List Nat} {w w' : World} (h : Fr [] w w') : Fr M w w' := h.mono (by simp)
theorem Fr.drew (M : List Nat) (w : World) : Fr M w w.drew := ⟨rfl, rfl, rfl, Nat.le_refl _, fun _ _ _ => rfl⟩
theorem Fr.alloc (M : List Nat) (w : World) (o : Obj) : Fr M w (w.alloc o) := ⟨rfl, rfl, rfl, by simp, fun k hk _ => Below.heap_alloc _ _ _ hk⟩
theorem Fr.setCell {M : List Nat} (w : World) {a : Addr} (h : a.block ∈ M) (u : Value) : Fr M w (w.setCell a u) :=
  ⟨rfl, rfl, rfl, by simp, fun k _ hk => Below.heap_setCell _ _ _ _ (fun e => hk (e ▸ h))⟩
theorem Fr.of_grown {w w' : World} {row : Option Nat} (h : w.grownBy w' row) : Fr row.toList w w' :=
  ⟨h.os, h.tape, h.output, h.size, fun k hk hm => h.block k hk fun e => hm (by rw [← e]; simp)⟩
theorem Fr.cell {M : List Nat} {w w' : World} (h : Fr M w w') {p : Addr} {v : Value} (hp : p.block ∉ M) (hv : w.cell? p = some v) : w'.cell? p = some v :=
  (World.cell?_of_block (h.block p.block (World.block_lt_of_cell? w p hv) hp)).trans hv
theorem Fr.heap {M : List Nat} {w w' : World} (h : Fr M w w') {b : Nat} {o : Obj} (hb : b ∉ M) (hv : w.heap[b]? = some o) : w'.heap[b]? = some o :=
  (h.block b (Array.getElem?_eq_some_iff.1 hv).1 hb).trans hv
theorem Fr.cell0 {w w' : World} (h : Fr [] w w') {p : Addr} {v : Value} (hv : w.cell? p = some v) : w'.cell? p = some v := h.cell (by simp) hv
theorem Fr.heap0 {w w' : World} (h : Fr [] w w') {b : Nat} {o : Obj} (hv : w.heap[b]? = some o) : w'.heap[b]? = some o := h.heap (by simp) hv

/-- A call that stays away from what was there, in the midst of a call's own memory: L lists own blocks with what they hold. -/
structure St (M : List Nat) (w0 w : World) (L : List (Nat × Obj)) : Prop where
  fr : Fr M w0 w
  own : ∀ x ∈ L, (w0.heap.size ≤ x.1 ∨ x.1 ∈ M) ∧ w.heap[x.1]? = some x.2
  nd : (L.map (·.1)).Nodup

theorem St.start (M : List Nat) (w : World) : St M w w [] := ⟨Fr.refl _ _, by simp, by simp⟩

variable {M : List Nat} {w0 w : World} {L : List (Nat × Obj)}
theorem St.lt (H : St M w0 w L) {x : Nat × Obj} (hx : x ∈ L) : x.1 < w.heap.size := (Array.getElem?_eq_some_iff.1 (H.own x hx).2).1
theorem St.get (H : St M w0 w L) (j : Nat) {b : Nat} {o : Obj} (hj : L[j]? = some (b, o)) : w.heap[b]? = some o := (H.own (b, o) (List.mem_of_getElem? hj)).2

theorem St.call0 (H : St M w0 w L) {w' : World} (h : Fr [] w w') : St M w0 w' L :=
  ⟨H.fr.trans h.weak, fun x hx => ⟨(H.own x hx).1, h.heap0 (H.own x hx).2⟩, H.nd⟩

theorem St.alloc (H : St M w0 w L) {o : Obj} {G : World → Nat → Prop} (h : ∀ w1 b, St M w0 w1 ((b, o) :: L) → G w1 b) : ∀ w1 b, w1 = w.alloc o → b = w.heap.size → G w1 b := by
  rintro w1 b rfl rfl
  refine h _ _ ⟨H.fr.trans (Fr.alloc _ _ _), ?_, ?_⟩
  · intro x hx
    rcases List.mem_cons.1 hx with rfl | hx
    · exact ⟨.inl H.fr.size, heap_alloc_new w _⟩
    · exact ⟨(H.own x hx).1, (Below.heap_alloc _ _ _ (H.lt hx)).trans (H.own x hx).2⟩
  · rw [List.map_cons, List.nodup_cons]
    refine ⟨fun hm => ?_, H.nd⟩
    obtain ⟨x, hx, he⟩ := List.mem_map.1 hm
    have := H.lt hx
    omega

theorem St.drew (H : St M w0 w L) {G : World → Prop} (h : ∀ w1, St M w0 w1 L → G w1) : ∀ w1, w1 = w.drew → G w1 := by
  rintro w1 rfl
  exact h _ (H.call0 (Fr.drew _ _))

theorem nodup_ne {l : List (Nat × Obj)} (h : (l.map (·.1)).Nodup) : ∀ {i j : Nat} {x y : Nat × Obj}, l[i]? = some x → l[j]? = some y → x.1 = y.1 → i = j := by
  intro i j x y hi hj he
  have hi' : (l.map (·.1))[i]? = some x.1 := by simp [hi]
  have hj' : (l.map (·.1))[j]? = some y.1 := by simp [hj]
  exact (List.getElem?_inj (List.getElem?_eq_some_iff.1 hi').1 h).1 (by rw [hi', hj', he])

/-- A store into one of the own blocks. -/
theorem St.setAt (H : St M w0 w L) (j : Nat) {b i : Nat} {c : Array Value} {t : TypeId} {f : Nat × Nat} {v : Value} (hj : L[j]? = some (b, .cells c t f)) :
    St M w0 (w.setCell ⟨b, i, none⟩ v) (L.set j (b, .cells (c.setIfInBounds i v) t f)) := by
  have hmem := List.mem_of_getElem? hj
  have hfr : Fr M w0 (w.setCell ⟨b, i, none⟩ v) := by
    refine ⟨H.fr.os, H.fr.tape, H.fr.output, by simpa using H.fr.size, fun k hk hm => ?_⟩
    have hne : k ≠ b := by
      rintro rfl
      rcases (H.own _ hmem).1 with h | h
      · exact absurd hk (Nat.not_lt.2 h)
      · exact hm h
    exact (Below.heap_setCell w ⟨b, i, none⟩ v k hne).trans (H.fr.block k hk hm)
  have hmap : (L.set j (b, Obj.cells (c.setIfInBounds i v) t f)).map (·.1) = L.map (·.1) := by
    have hlt := (List.getElem?_eq_some_iff.1 hj)
    rw [List.map_set]
    apply List.ext_getElem?
    intro k
    by_cases hk : j = k
    · subst hk
      rw [List.getElem?_set_self (by simpa using hlt.1)]
      simp [hj]
    · rw [List.getElem?_set_ne hk]
  refine ⟨hfr, ?_, by rw [hmap]; exact H.nd⟩
  intro x hx
  obtain ⟨k, hk⟩ := List.mem_iff_getElem?.1 hx
  by_cases hkj : j = k
  · subst hkj
    rw [List.getElem?_set_self ((List.getElem?_eq_some_iff.1 hj).1)] at hk
    cases hk
    refine ⟨(H.own _ hmem).1, ?_⟩
    have hb := (H.own _ hmem).2
    simp only [World.setCell, Array.getElem?_modify, if_true]
    rw [hb]
    simp
  · rw [List.getElem?_set_ne hkj] at hk
    have hxm := List.mem_of_getElem? hk
    refine ⟨(H.own x hxm).1, ?_⟩
    have hne : x.1 ≠ b := fun e => hkj (nodup_ne H.nd hj hk e.symm)
    exact (Below.heap_setCell w ⟨b, i, none⟩ v x.1 hne).trans (H.own x hxm).2

theorem cell_of_heap {w : World} {b i : Nat} {c : Array Value} {t : TypeId} {f : Nat × Nat} (h : w.heap[b]? = some (.cells c t f)) : w.cell? ⟨b, i, none⟩ = c[i]? := by
  simp [World.cell?, h]
theorem frozen_of_heap {w : World} {b i : Nat} {c : Array Value} {t : TypeId} {f : Nat × Nat} (h : w.heap[b]? = some (.cells c t f)) (hf : i < f.1 ∨ f.2 ≤ i) : w.frozen? ⟨b, i, none⟩ = false := by
  simp only [World.frozen?, h]
  rcases hf with hf | hf
  · simp; omega
  · simp; omega

theorem St.stoF (H : St M w0 w L) (j : Nat) {b i : Nat} {c : Array Value} {t : TypeId} {f : Nat × Nat} {v : Value} {G : World → Prop} (hj : L[j]? = some (b, .cells c t f)) (hi : i < c.size) (hf : i < f.1 ∨ f.2 ≤ i)
    (h : ∀ w1, St M w0 w1 (L.set j (b, .cells (c.setIfInBounds i v) t f)) → G w1) : Sto w ⟨b, i, none⟩ v G := by
  have hb := H.get j hj
  refine ⟨⟨c[i], ?_⟩, frozen_of_heap hb hf, ?_⟩
  · rw [cell_of_heap hb]; simp [hi]
  · rintro w' rfl
    exact h _ (H.setAt j hj)

theorem St.sto (H : St M w0 w L) (j : Nat) {b i : Nat} {c : Array Value} {t : TypeId} {v : Value} {G : World → Prop} (hj : L[j]? = some (b, .cells c t (0, 0))) (hi : i < c.size)
    (h : ∀ w1, St M w0 w1 (L.set j (b, .cells (c.setIfInBounds i v) t (0, 0))) → G w1) : Sto w ⟨b, i, none⟩ v G := H.stoF j hj hi (.inr (Nat.zero_le _)) h

theorem St.cell (H : St M w0 w L) (j : Nat) {b i : Nat} {c : Array Value} {t : TypeId} {f : Nat × Nat} {v : Value} (hj : L[j]? = some (b, .cells c t f)) (hi : c[i]? = some v) : w.cell? ⟨b, i, none⟩ = some v := by
  rw [cell_of_heap (H.get j hj), hi]

/-- Old memory, read in the midst. -/
theorem St.old (H : St [] w0 w L) {p : Addr} {v : Value} (hv : w0.cell? p = some v) : w.cell? p = some v := H.fr.cell0 hv
theorem St.oldHeap (H : St [] w0 w L) {b : Nat} {o : Obj} (hv : w0.heap[b]? = some o) : w.heap[b]? = some o := H.fr.heap0 hv
/-- Forget own blocks. -/
theorem St.drop (H : St M w0 w L) : St M w0 w [] := ⟨H.fr, by simp, by simp⟩
theorem St.sub (H : St M w0 w L) {L' : List (Nat × Obj)} (h : L'.Sublist L) : St M w0 w L' :=
  ⟨H.fr, fun x hx => H.own x (h.subset hx), H.nd.sublist (h.map _)⟩

/-! ### calls -/
theorem Calls.st {P : Program} {k : Nat} {args : Array Value} {R : Ending → World → Prop} {v : Value} (H : St M w0 w L) (hc : Calls P k args w fun e w' => e = .returned v ∧ Fr [] w w')
    (h : ∀ w', St M w0 w' L → R (.returned v) w') : Calls P k args w R :=
  hc.mono fun _ w' ⟨he, hf⟩ => he ▸ h w' (H.call0 hf)

/-! ### slices that are read -/
/-- The cells of a slice. -/
def Sl (w : World) (a : Option Addr) (vs : List Value) : Prop := ∀ j u, vs[j]? = some u → ∃ p, a = some p ∧ w.cell? (p.add j) = some u
theorem Sl.fr {M : List Nat} {w w' : World} {a : Option Addr} {vs : List Value} (h : Sl w a vs) (hf : Fr M w w') (hm : ∀ p, a = some p → p.block ∉ M) : Sl w' a vs := fun j u hu => by
  obtain ⟨p, hp, hc⟩ := h j u hu
  exact ⟨p, hp, hf.cell (by simpa using hm p hp) hc⟩
theorem Sl.fr0 {w w' : World} {a : Option Addr} {vs : List Value} (h : Sl w a vs) (hf : Fr [] w w') : Sl w' a vs := h.fr hf (by simp)
theorem Sl.nil (w : World) (a : Option Addr) : Sl w a [] := fun j u h => by simp at h
theorem Sl.take {w : World} {a : Option Addr} {vs : List Value} (h : Sl w a vs) (n : Nat) : Sl w a (vs.take n) := fun j u hu => by
  rw [List.getElem?_take] at hu
  split at hu
  · exact h j u hu
  · cases hu
theorem Sl.drop {w : World} {a : Option Addr} {vs : List Value} (h : Sl w a vs) (n m : Nat) (hv : vs.length ≤ m) : Sl w (sA a 1 n m) (vs.drop n) := fun j u hu => by
  rw [List.getElem?_drop] at hu
  have hlt : n + j < vs.length := (List.getElem?_eq_some_iff.1 hu).1
  obtain ⟨p, hp, hc⟩ := h (n + j) u hu
  subst hp
  unfold sA
  rw [if_neg (by omega)]
  exact ⟨p.add (n * 1), rfl, by rw [add_add, Nat.mul_one]; exact hc⟩
theorem Sl.of_heap {w : World} {b : Nat} {c : Array Value} {t : TypeId} {f : Nat × Nat} (h : w.heap[b]? = some (.cells c t f)) : Sl w (some (A0 b)) c.toList := fun j u hu =>
  ⟨A0 b, rfl, by rw [A0_add, cell_of_heap h]; simpa using hu⟩
theorem Sl.read {w : World} {a : Option Addr} {vs : List Value} (h : Sl w a vs) {i : Nat} {u : Value} (hu : vs[i]? = some u) {G : Addr → Prop} (hg : ∀ p, a = some p → w.cell? (p.add i) = some u → G p) : OSome a G := by
  obtain ⟨p, hp, hc⟩ := h i u hu
  exact ⟨p, hp, hg p hp hc⟩

/-! ### numbers -/
theorem wrap_u64 (n : Int) : IntKind.wrap .u64 n = n % 18446744073709551616 := by simp [IntKind.wrap, IntKind.bits, IntKind.signed]
theorem wrap_u32 (n : Int) : IntKind.wrap .u32 n = n % 4294967296 := by simp [IntKind.wrap, IntKind.bits, IntKind.signed]
theorem wrap_u16 (n : Int) : IntKind.wrap .u16 n = n % 65536 := by simp [IntKind.wrap, IntKind.bits, IntKind.signed]
theorem wrap_u8 (n : Int) : IntKind.wrap .u8 n = n % 256 := by simp [IntKind.wrap, IntKind.bits, IntKind.signed]
theorem wrap_i64 (n : Int) (h1 : -9223372036854775808 ≤ n) (h2 : n < 9223372036854775808) : IntKind.wrap .i64 n = n := by
  simp [IntKind.wrap, IntKind.bits, IntKind.signed]; omega
theorem wrap_i32 (n : Int) (h1 : -2147483648 ≤ n) (h2 : n < 2147483648) : IntKind.wrap .i32 n = n := by
  simp [IntKind.wrap, IntKind.bits, IntKind.signed]; omega

theorem bits_u64 : IntKind.bits .u64 = 64 := rfl
theorem bits_u8 : IntKind.bits .u8 = 8 := rfl
theorem ofInt_nat (m n : Nat) : BitVec.ofInt m (n : Int) = BitVec.ofNat m n := by simp
theorem andI_u64 (a b : Nat) (ha : a < 18446744073709551616) (hb : b < 18446744073709551616) : andI .u64 a b = ((a &&& b : Nat) : Int) := by
  have : (a &&& b) < 2 ^ 64 := Nat.and_lt_two_pow _ (by omega)
  show IntKind.wrap .u64 (((BitVec.ofInt 64 (a : Int) &&& BitVec.ofInt 64 (b : Int)).toNat : Nat) : Int) = _
  rw [ofInt_nat, ofInt_nat, wrap_u64, BitVec.toNat_and, BitVec.toNat_ofNat, BitVec.toNat_ofNat]
  rw [Nat.mod_eq_of_lt (show a < 2 ^ 64 by omega), Nat.mod_eq_of_lt (show b < 2 ^ 64 by omega)]
  omega
theorem orI_u64 (a b : Nat) (ha : a < 18446744073709551616) (hb : b < 18446744073709551616) : orI .u64 a b = ((a ||| b : Nat) : Int) := by
  have : (a ||| b) < 2 ^ 64 := Nat.or_lt_two_pow (by omega) (by omega)
  show IntKind.wrap .u64 (((BitVec.ofInt 64 (a : Int) ||| BitVec.ofInt 64 (b : Int)).toNat : Nat) : Int) = _
  rw [ofInt_nat, ofInt_nat, wrap_u64, BitVec.toNat_or, BitVec.toNat_ofNat, BitVec.toNat_ofNat]
  rw [Nat.mod_eq_of_lt (show a < 2 ^ 64 by omega), Nat.mod_eq_of_lt (show b < 2 ^ 64 by omega)]
  omega
theorem xorI_u64 (a b : Nat) (ha : a < 18446744073709551616) (hb : b < 18446744073709551616) : xorI .u64 a b = ((a ^^^ b : Nat) : Int) := by
  have : (a ^^^ b) < 2 ^ 64 := Nat.xor_lt_two_pow (by omega) (by omega)
  show IntKind.wrap .u64 (((BitVec.ofInt 64 (a : Int) ^^^ BitVec.ofInt 64 (b : Int)).toNat : Nat) : Int) = _
  rw [ofInt_nat, ofInt_nat, wrap_u64, BitVec.toNat_xor, BitVec.toNat_ofNat, BitVec.toNat_ofNat]
  rw [Nat.mod_eq_of_lt (show a < 2 ^ 64 by omega), Nat.mod_eq_of_lt (show b < 2 ^ 64 by omega)]
  omega
theorem andI_u8 (a b : Nat) (ha : a < 256) (hb : b < 256) : andI .u8 a b = ((a &&& b : Nat) : Int) := by
  have : (a &&& b) < 2 ^ 8 := Nat.and_lt_two_pow _ (by omega)
  show IntKind.wrap .u8 (((BitVec.ofInt 8 (a : Int) &&& BitVec.ofInt 8 (b : Int)).toNat : Nat) : Int) = _
  rw [ofInt_nat, ofInt_nat, wrap_u8, BitVec.toNat_and, BitVec.toNat_ofNat, BitVec.toNat_ofNat]
  rw [Nat.mod_eq_of_lt (show a < 2 ^ 8 by omega), Nat.mod_eq_of_lt (show b < 2 ^ 8 by omega)]
  omega
theorem orI_u8 (a b : Nat) (ha : a < 256) (hb : b < 256) : orI .u8 a b = ((a ||| b : Nat) : Int) := by
  have : (a ||| b) < 2 ^ 8 := Nat.or_lt_two_pow (by omega) (by omega)
  show IntKind.wrap .u8 (((BitVec.ofInt 8 (a : Int) ||| BitVec.ofInt 8 (b : Int)).toNat : Nat) : Int) = _
  rw [ofInt_nat, ofInt_nat, wrap_u8, BitVec.toNat_or, BitVec.toNat_ofNat, BitVec.toNat_ofNat]
  rw [Nat.mod_eq_of_lt (show a < 2 ^ 8 by omega), Nat.mod_eq_of_lt (show b < 2 ^ 8 by omega)]
  omega
theorem xorI_u8 (a b : Nat) (ha : a < 256) (hb : b < 256) : xorI .u8 a b = ((a ^^^ b : Nat) : Int) := by
  have : (a ^^^ b) < 2 ^ 8 := Nat.xor_lt_two_pow (by omega) (by omega)
  show IntKind.wrap .u8 (((BitVec.ofInt 8 (a : Int) ^^^ BitVec.ofInt 8 (b : Int)).toNat : Nat) : Int) = _
  rw [ofInt_nat, ofInt_nat, wrap_u8, BitVec.toNat_xor, BitVec.toNat_ofNat, BitVec.toNat_ofNat]
  rw [Nat.mod_eq_of_lt (show a < 2 ^ 8 by omega), Nat.mod_eq_of_lt (show b < 2 ^ 8 by omega)]
  omega
theorem shrI_nat (k : IntKind) (a n : Nat) (h : n ≤ k.bits) : shrI k a n = ((a / 2 ^ n : Nat) : Int) := by
  simp only [shrI, Int.toNat_natCast, Nat.min_eq_left h]
  rw [Int.fdiv_eq_ediv_of_nonneg _ (by exact_mod_cast Nat.zero_le (2 ^ n))]
  push_cast; rfl
theorem shlI_u64 (a n : Nat) (h : n ≤ 64) : shlI .u64 a n = ((a * 2 ^ n % 18446744073709551616 : Nat) : Int) := by
  have e : min n (IntKind.bits .u64) = n := Nat.min_eq_left h
  show IntKind.wrap .u64 ((a : Int) * 2 ^ (min (n : Int).toNat (IntKind.bits .u64))) = _
  rw [Int.toNat_natCast, e, wrap_u64, Int.natCast_emod, Int.natCast_mul, Int.natCast_pow]
  rfl
end Go.Proofs.VC
