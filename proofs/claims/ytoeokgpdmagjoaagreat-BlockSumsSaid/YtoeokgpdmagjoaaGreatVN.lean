import Derived.Test.YtoeokgpdmagjoaaGreatVM
import Derived.Laws.IdiomStrings
import Derived.Laws.OwnMore
import Derived.Lib.AppendStr
/-
Strings as lists of bytes; slices that a call owns, append.
-/
namespace Go.Proofs.VC
open Go Go.RowKit

/-! ### strings -/
def S (l : List UInt8) : ByteArray := ⟨l.toArray⟩
def L8 (s : ByteArray) : List UInt8 := s.data.toList
@[simp] theorem L8_S (l : List UInt8) : L8 (S l) = l := rfl
@[simp] theorem S_L8 (s : ByteArray) : S (L8 s) = s := rfl
@[simp] theorem S_size (l : List UInt8) : (S l).size = l.length := by
  show l.toArray.size = _
  rw [List.size_toArray]
theorem size_L8 (s : ByteArray) : s.size = (L8 s).length := by
  show s.data.size = _
  rw [← Array.length_toList]; rfl
@[simp] theorem S_append (a b : List UInt8) : S a ++ S b = S (a ++ b) := by
  apply ByteArray.ext
  apply Array.ext'
  rw [ByteArray.data_append, Array.toList_append]
  rfl
@[simp] theorem S_extract (l : List UInt8) (a b : Nat) : (S l).extract a b = S ((l.take b).drop a) := by
  apply ByteArray.ext
  apply Array.ext'
  rw [ByteArray.data_extract]
  simp only [S, List.extract_toArray, List.extract_eq_take_drop]
  rw [List.drop_take]
@[simp] theorem S_get (l : List UInt8) (i : Nat) : (S l)[i]? = l[i]? := by
  rw [getElem?_def]
  by_cases h : i < l.length
  · rw [dif_pos (by simpa using h), List.getElem?_eq_getElem h]; rfl
  · rw [dif_neg (by simpa using h), List.getElem?_eq_none (Nat.le_of_not_lt h)]
theorem S_inj {a b : List UInt8} : S a = S b ↔ a = b := ⟨fun h => by have := congrArg L8 h; simpa using this, fun h => by rw [h]⟩
@[simp] theorem S_beq (a b : List UInt8) : ((S a).toList == (S b).toList) = (a == b) := by
  rw [ByteArray.toList_eq, ByteArray.toList_eq]; rfl
theorem empty_S : ByteArray.empty = S [] := rfl
theorem lit_S (l : List UInt8) : (⟨l.toArray⟩ : ByteArray) = S l := rfl

def u8s (l : List UInt8) : List Value := l.map fun b => .int .u8 (b.toNat : Int)
def i64s (l : List Int) : List Value := l.map fun n => .int .i64 n
@[simp] theorem u8s_len (l : List UInt8) : (u8s l).length = l.length := by simp [u8s]
@[simp] theorem i64s_len (l : List Int) : (i64s l).length = l.length := by simp [i64s]
theorem u8s_app (a b : List UInt8) : u8s (a ++ b) = u8s a ++ u8s b := by simp [u8s]
theorem i64s_app (a b : List Int) : i64s (a ++ b) = i64s a ++ i64s b := by simp [i64s]
theorem u8s_get {l : List UInt8} {i : Nat} {u : UInt8} (h : l[i]? = some u) : (u8s l)[i]? = some (.int .u8 (u.toNat : Int)) := by simp [u8s, h]
theorem i64s_get {l : List Int} {i : Nat} {u : Int} (h : l[i]? = some u) : (i64s l)[i]? = some (.int .i64 u) := by simp [i64s, h]

/-- 'string(b)'. -/
theorem run_b2s {P : Program} {w : World} {a : Option Addr} {n c : Nat} {l : List UInt8} (h : Sl w a (u8s l)) (hn : n = l.length) :
    (Conv.bytesToString (.slice a n c)).run P w = .ok (.string (S l)) w := by
  subst hn
  cases a with
  | none =>
    cases l with
    | nil => simp [Conv.bytesToString, S, ByteArray.empty, ByteArray.emptyWithCapacity]; rfl
    | cons x l => obtain ⟨p, hp, _⟩ := h 0 (.int .u8 (x.toNat : Int)) (by simp [u8s]); cases hp
  | some p =>
    have hl := run_loadCells_list (P := P) w p ((l.map (fun b => (b.toNat : Int))).map (Value.int .u8)) (fun j v hj => by
      obtain ⟨q, hq, hc⟩ := h j v (by simpa [u8s] using hj)
      cases hq; exact hc)
    simp only [List.length_map] at hl
    rw [run_bytesToString w p l.length c _ hl, foldl_push_byteCells]
    have he0 : ByteArray.empty.data = #[] := rfl
    rw [he0]
    simp [S]
theorem b2s {P : Program} {w : World} {a : Option Addr} {n c : Nat} {l : List UInt8} {G : ByteArray → Prop} (h : Sl w a (u8s l)) (hn : n = l.length) (hg : G (S l)) :
    ∃ s : ByteArray, (Conv.bytesToString (.slice a n c)).run P w = .ok (.string s) w ∧ G s := ⟨_, run_b2s h hn, hg⟩

theorem St.drewf {M : List Nat} {w0 w : World} {L : List (Nat × Obj)} (H : St M w0 w L) {G : World → Prop} (h : ∀ w1, Fr [] w w1 → St M w0 w1 L → G w1) : ∀ w1, w1 = w.drew → G w1 := by
  rintro w1 rfl
  exact h _ (Fr.drew _ _) (H.call0 (Fr.drew _ _))
theorem St.allocf {M : List Nat} {w0 w : World} {L : List (Nat × Obj)} (H : St M w0 w L) {o : Obj} {G : World → Nat → Prop} (h : ∀ w1 b, Fr [] w w1 → St M w0 w1 ((b, o) :: L) → G w1 b) : ∀ w1 b, w1 = w.alloc o → b = w.heap.size → G w1 b := by
  intro w1 b h1 h2
  exact St.alloc H (G := fun x y => x = w.alloc o → y = w.heap.size → G x y) (fun x y hst e1 _ => h _ _ (e1 ▸ Fr.alloc _ _ _) hst) w1 b h1 h2 h1 h2
theorem Calls.stf {M : List Nat} {w0 w : World} {L : List (Nat × Obj)} {P : Program} {k : Nat} {args : Array Value} {R : Ending → World → Prop} {v : Value} (H : St M w0 w L) (hc : Calls P k args w fun e w' => e = .returned v ∧ Fr [] w w')
    (h : ∀ w', Fr [] w w' → St M w0 w' L → R (.returned v) w') : Calls P k args w R :=
  hc.mono fun _ w' ⟨he, hf⟩ => he ▸ h w' hf (H.call0 hf)

/-! ### slices that a call owns -/
structure Ow (M : List Nat) (w0 w : World) (L : List (Nat × Obj)) (e size : Nat) (a : Option Addr) (n c : Nat) (xs : List Value) : Prop where
  row : w.ownsRow 0 e size (.slice a n c) n xs
  new : ∀ p, a = some p → w0.heap.size ≤ p.block ∨ p.block ∈ M
  sep : ∀ p, a = some p → ∀ x ∈ L, x.1 ≠ p.block

variable {M : List Nat} {w0 w : World} {L : List (Nat × Obj)} {e size : Nat} {a : Option Addr} {n c : Nat} {xs : List Value}

theorem Ow.nil : Ow M w0 w L e size none 0 0 [] := ⟨World.ownsRow_nil _ _ _ _, (fun _ h => nomatch h), (fun _ h => nomatch h)⟩
theorem Ow.len (h : Ow M w0 w L e size a n c xs) : xs.length = n * size := h.row.1
theorem Ow.sl (h : Ow M w0 w L e size a n c xs) : Sl w a xs := fun j u hu => by
  rcases h.row.2 with ⟨hv, _⟩ | ⟨g, cap, cur, hv, _, hg, _, _, _, htake⟩
  · cases hv
    have := h.len
    have hn : xs.length = 0 := by simpa using this
    rw [List.length_eq_zero_iff.1 hn] at hu
    simp at hu
  · cases hv
    refine ⟨⟨g, 0, none⟩, rfl, ?_⟩
    exact World.ownsRow.cells h.row (g := g) rfl j u hu
theorem Ow.addr (h : Ow M w0 w L e size a n c xs) : ∀ p, a = some p → ∃ g, p = A0 g ∧ g < w.heap.size ∧ n ≤ c := by
  intro p hp
  rcases h.row.2 with ⟨hv, _⟩ | ⟨g, cap, cur, hv, _, hg, hnc, _⟩
  · cases hv; cases hp
  · cases hv; cases hp
    exact ⟨g, rfl, (Array.getElem?_eq_some_iff.1 hg).1, hnc⟩

theorem ownsRow_of_block {w w' : World} {v : Value} {n : Nat} {xs : List Value} (h : w.ownsRow 0 e size v n xs) (hb : ∀ g, v.ownBlock = some g → w'.heap[g]? = w.heap[g]?) : w'.ownsRow 0 e size v n xs := by
  refine ⟨h.1, ?_⟩
  rcases h.2 with hn | ⟨g, cap, cur, rfl, hb0, hgg, rest⟩
  · exact .inl hn
  · exact .inr ⟨g, cap, cur, rfl, hb0, by rw [hb g rfl]; exact hgg, rest⟩

/-- Kept, where its block is. -/
theorem Ow.kept (h : Ow M w0 w L e size a n c xs) {w' : World} {L' : List (Nat × Obj)} (hb : ∀ g, a = some (A0 g) → g < w.heap.size → w'.heap[g]? = w.heap[g]?)
    (hs : ∀ p, a = some p → p.block < w.heap.size → ∀ x ∈ L', x.1 ≠ p.block) : Ow M w0 w' L' e size a n c xs := by
  refine ⟨ownsRow_of_block h.row fun g hg => ?_, h.new, fun p hp => hs p hp ?_⟩
  · cases a with
    | none => cases hg
    | some p =>
      obtain ⟨g', rfl, hlt, _⟩ := h.addr p rfl
      simp [Value.ownBlock] at hg
      subst hg
      exact hb _ rfl hlt
  · obtain ⟨g', rfl, hlt, _⟩ := h.addr p hp
    exact hlt
theorem Ow.call0 (h : Ow M w0 w L e size a n c xs) {w' : World} (hf : Fr [] w w') : Ow M w0 w' L e size a n c xs :=
  h.kept (fun g _ hg => hf.block g hg (by simp)) fun p hp _ => h.sep p hp
theorem Ow.drop (h : Ow M w0 w L e size a n c xs) : Ow M w0 w [] e size a n c xs := ⟨h.row, h.new, by simp⟩
theorem Ow.sub (h : Ow M w0 w L e size a n c xs) {L' : List (Nat × Obj)} (hs : L'.Sublist L) : Ow M w0 w L' e size a n c xs := ⟨h.row, h.new, fun p hp x hx => h.sep p hp x (hs.subset hx)⟩
/-- What a callee made is the caller's own. -/
theorem Ow.lift {w' : World} (h : Ow [] w w' [] e size a n c xs) (H : St M w0 w L) : Ow M w0 w' L e size a n c xs := by
  refine ⟨h.row, fun p hp => ?_, fun p hp x hx => ?_⟩
  · rcases h.new p hp with h1 | h1
    · exact .inl (Nat.le_trans H.fr.size h1)
    · simp at h1
  · rcases h.new p hp with h1 | h1
    · have := H.lt hx; omega
    · simp at h1
theorem St.alloc_own (H : St M w0 w L) (ho : Ow M w0 w L e size a n c xs) {o : Obj} {G : World → Nat → Prop} (h : ∀ w1 b, St M w0 w1 ((b, o) :: L) → Ow M w0 w1 ((b, o) :: L) e size a n c xs → G w1 b) :
    ∀ w1 b, w1 = w.alloc o → b = w.heap.size → G w1 b := by
  intro w1 b h1 h2
  refine St.alloc H (G := fun x y => x = w.alloc o → y = w.heap.size → G x y) (fun x y hst e1 e2 => h _ _ hst ?_) w1 b h1 h2 h1 h2
  subst e1 e2
  refine ho.kept (fun g _ hg => Below.heap_alloc _ _ _ hg) fun p hp hlt x hx => ?_
  rcases List.mem_cons.1 hx with rfl | hx
  · simp; omega
  · exact ho.sep p hp x hx
theorem St.drew_own (H : St M w0 w L) (ho : Ow M w0 w L e size a n c xs) {G : World → Prop} (h : ∀ w1, St M w0 w1 L → Ow M w0 w1 L e size a n c xs → G w1) : ∀ w1, w1 = w.drew → G w1 := by
  rintro w1 rfl
  exact h _ (H.call0 (Fr.drew _ _)) (ho.call0 (Fr.drew _ _))

/-- A law of append, in the midst of a call's own memory. -/
theorem St.grown (H : St M w0 w L) (ho : Ow M w0 w L e size a n c xs) {v' : Value} {w' : World} {m : Nat} {ys : List Value} (hown : w'.ownsRow 0 e size v' m ys) (hgr : w.grownBy w' (Value.slice a n c).ownBlock)
    (key : ∀ g, v'.ownBlock = some g → (Value.slice a n c).ownBlock = some g ∨ w.heap.size ≤ g) : St M w0 w' L ∧ ∃ a' c', v' = .slice a' m c' ∧ Ow M w0 w' L e size a' m c' ys := by
  have hfrow : ∀ g, (Value.slice a n c).ownBlock = some g → w0.heap.size ≤ g ∨ g ∈ M := by
    intro g hg
    cases a with
    | none => cases hg
    | some q => simp [Value.ownBlock] at hg; subst hg; exact ho.new q rfl
  have hsep : ∀ g, (Value.slice a n c).ownBlock = some g → ∀ x ∈ L, x.1 ≠ g := by
    intro g hg
    cases a with
    | none => cases hg
    | some q => simp [Value.ownBlock] at hg; subst hg; exact ho.sep q rfl
  have hst : St M w0 w' L := by
    refine ⟨⟨hgr.os.trans H.fr.os, hgr.tape.trans H.fr.tape, hgr.output.trans H.fr.output, Nat.le_trans H.fr.size hgr.size, fun k hk hkm => ?_⟩, fun x hx => ⟨(H.own x hx).1, ?_⟩, H.nd⟩
    · rw [hgr.block k (Nat.lt_of_lt_of_le hk H.fr.size) (fun e => ?_)]
      · exact H.fr.block k hk hkm
      · rcases hfrow k e.symm with h | h
        · omega
        · exact hkm h
    · rw [hgr.block x.1 (H.lt hx) (fun e => hsep x.1 e.symm x hx rfl)]
      exact (H.own x hx).2
  refine ⟨hst, ?_⟩
  obtain ⟨a', c', rfl⟩ : ∃ a' c', v' = .slice a' m c' := by
    rcases hown.2 with ⟨rfl, rfl⟩ | ⟨g, cap, cur, rfl, _⟩
    · exact ⟨_, _, rfl⟩
    · exact ⟨_, _, rfl⟩
  refine ⟨a', c', rfl, hown, ?_, ?_⟩
  · rintro p rfl
    rcases key p.block rfl with h | h
    · exact hfrow _ h
    · exact .inl (Nat.le_trans H.fr.size h)
  · rintro p rfl
    rcases key p.block rfl with h | h
    · exact hsep _ h
    · intro x hx
      have h2 := H.lt hx
      omega

/-- append, to a slice that a call owns: something comes of it. -/
theorem St.append {P : Program} (H : St M w0 w L) (ho : Ow M w0 w L e size a n c xs) {t ty : TypeId} {i : TypeInfo} {z : Value} {bytes : Nat} (ht : P.underlying t = some (.slice e)) (hi : P.info? e = some i) (hz : i.zero = some z)
    (hsize : i.size = size) (hby : i.bytes = bytes) (hzs : z.cells.size = size) (hsz : 0 < size) {p : Option Addr} {m c' : Nat} {news : List Value} (hl : news.length = m * size) (hm : 0 < m)
    (hnews : Sl w p news) (h1 : ∀ u ∈ news, u.oneCell' = true) (hbytes : (n + m) * bytes ≤ 140737488355328) (hb0 : 0 < bytes)
    {G : Option Addr → Nat → Nat → World → Prop} (hg : ∀ a' c2 w', St M w0 w' L → Ow M w0 w' L e size a' (n + m) c2 (xs ++ news) → G a' (n + m) c2 w') :
    ∃ x xn xc, ∃ w' : World, (Builtin.append_ #[t, t] ty #[.slice a n c, .slice p m c']).run P w = .ok (.slice x xn xc) w' ∧ G x xn xc w' := by
  have h63 : n + m ≤ maxLen := by
    have : (n + m) * 1 ≤ (n + m) * bytes := Nat.mul_le_mul_left _ hb0
    simp only [maxLen]; omega
  have hpos : 0 < news.length := by rw [hl]; exact Nat.mul_pos hm hsz
  obtain ⟨q, rfl, _⟩ := hnews 0 news[0] (List.getElem?_eq_getElem hpos)
  obtain ⟨v', w', hr, hown, hgr, hnil⟩ := run_append_own (P := P) w 0 t ty e i z size bytes ht hi hz hsize hby hzs hsz (.slice a n c) n xs ho.row q m c' news hl
    (fun j u hu => by obtain ⟨q', e, hc⟩ := hnews j u hu; cases e; exact hc) h1 h63 hbytes (Nat.zero_le _)
  have key : ∀ g, v'.ownBlock = some g → (Value.slice a n c).ownBlock = some g ∨ w.heap.size ≤ g := by
    intro g hg
    rcases ho.row.2 with ⟨hv, h0⟩ | ⟨g1, cap1, cur1, hv, _, hg1, hnc1, hcm1, hcs1, htk1⟩
    · obtain ⟨v2, w2, hr2, hown2, _⟩ := run_append_own (P := P) w w.heap.size t ty e i z size bytes ht hi hz hsize hby hzs hsz (.slice a n c) n xs ⟨ho.row.1, .inl ⟨hv, h0⟩⟩ q m c' news hl
        (fun j u hu => by obtain ⟨q', e, hc⟩ := hnews j u hu; cases e; exact hc) h1 h63 hbytes (Nat.le_refl _)
      rw [hr] at hr2
      cases hr2
      exact .inr (hown2.lt g hg).1
    · cases hv
      by_cases hroom : n + m ≤ c
      · have hfit : n * i.size + news.length ≤ cur1.size := by rw [hl, hcs1, hsize, ← Nat.add_mul]; exact Nat.mul_le_mul_right _ hroom
        have hr2 := run_append_room (P := P) w t ty e i ht hi g1 n c cur1 hg1 q m c' news (by rw [hl, hsize])
          (fun j u hu => by obtain ⟨q', e, hc⟩ := hnews j u hu; cases e; exact hc) h1 hroom hfit
        rw [hr] at hr2
        cases hr2
        exact .inl hg
      · have hr2 := run_append_grow (P := P) w t ty e i z ht hi hz ⟨g1, 0, none⟩ n c xs (by rw [ho.row.1, hsize]) (World.ownsRow.cells ho.row (g := g1) rfl) q m c' news (by rw [hl, hsize])
          (fun j u hu => by obtain ⟨q', e, hc⟩ := hnews j u hu; cases e; exact hc) (by omega) (by simp only [maxLen] at h63; omega) (by rw [hby]; exact growslice_fits (by omega) hbytes)
        rw [hr] at hr2
        cases hr2
        cases hg
        exact .inr (Nat.le_refl _)
  obtain ⟨hst, a', c2, rfl, ho'⟩ := H.grown ho hown hgr key
  exact ⟨_, _, _, w', hr, hg _ _ _ hst ho'⟩

/-- append of a string's bytes. -/
theorem St.appendS {P : Program} (H : St M w0 w L) (ho : Ow M w0 w L e 1 a n c xs) {t u ty : TypeId} {i : TypeInfo} (ht : P.underlying t = some (.slice e)) (hu : P.underlying u = some .string) (hi : P.info? e = some i) (hz : i.zero = some (.int .u8 0))
    (hsize : i.size = 1) (hby : i.bytes = 1) (l : List UInt8) (hbytes : n + l.length ≤ 140737488355328)
    {G : Option Addr → Nat → Nat → World → Prop} (hg : ∀ a' c2 w', St M w0 w' L → Ow M w0 w' L e 1 a' (n + l.length) c2 (xs ++ u8s l) → G a' (n + l.length) c2 w') :
    ∃ x xn xc, ∃ w' : World, (Builtin.append_ #[t, u] ty #[.slice a n c, .string (S l)]).run P w = .ok (.slice x xn xc) w' ∧ G x xn xc w' := by
  have h63 : n + (S l).size ≤ maxLen := by rw [S_size]; simp only [maxLen]; omega
  have hb' : n + (S l).size ≤ 140737488355328 := by rw [S_size]; exact hbytes
  obtain ⟨v', w', hr, hown, hgr, _⟩ := Lib.run_append_own_string (P := P) w 0 t u ty e i ht hu hi hz hsize hby (.slice a n c) n xs ho.row (S l) h63 hb' (Nat.zero_le _)
  have key : ∀ g, v'.ownBlock = some g → (Value.slice a n c).ownBlock = some g ∨ w.heap.size ≤ g := by
    intro g hg
    rcases ho.row.2 with ⟨hv, h0⟩ | ⟨g1, cap1, cur1, hv, _, hg1, hnc1, hcm1, hcs1, htk1⟩
    · obtain ⟨v2, w2, hr2, hown2, _⟩ := Lib.run_append_own_string (P := P) w w.heap.size t u ty e i ht hu hi hz hsize hby (.slice a n c) n xs ⟨ho.row.1, .inl ⟨hv, h0⟩⟩ (S l) h63 hb' (Nat.le_refl _)
      rw [hr] at hr2
      cases hr2
      exact .inr (hown2.lt g hg).1
    · cases hv
      by_cases hroom : n + (S l).size ≤ c
      · have hr2 := Lib.run_append_room_string (P := P) w t u ty e i ht hu hi hsize g1 n c cur1 hg1 (S l) hroom (by omega)
        rw [hr] at hr2
        cases hr2
        exact .inl hg
      · have hr2 := Lib.run_append_grow_string (P := P) w t u ty e i _ ht hu hi hz ⟨g1, 0, none⟩ n c xs (by rw [ho.row.1, hsize]) (World.ownsRow.cells ho.row (g := g1) rfl) (S l)
          (by omega) (by simp only [maxLen] at h63; omega) (by rw [hby]; exact growslice_fits (by omega) (by omega))
        rw [hr] at hr2
        cases hr2
        cases hg
        exact .inr (Nat.le_refl _)
  obtain ⟨hst, a', c2, rfl, ho'⟩ := H.grown ho hown hgr key
  rw [S_size] at hr ho'
  exact ⟨_, _, _, w', hr, hg _ _ _ hst ho'⟩

/-- Kept by a step that stays away from its block. -/
theorem Ow.after (ho : Ow M w0 w L e size a n c xs) {N : List Nat} {w' : World} {L' : List (Nat × Obj)} (hf : Fr N w w') (hN : ∀ p, a = some p → p.block ∉ N)
    (hL : ∀ x ∈ L', (∃ y ∈ L, y.1 = x.1) ∨ w.heap.size ≤ x.1) : Ow M w0 w' L' e size a n c xs := by
  refine ho.kept (fun g hg hlt => hf.block g hlt (hN _ hg)) fun p hp hlt x hx => ?_
  rcases hL x hx with ⟨y, hy, he⟩ | hge
  · rw [← he]; exact ho.sep p hp y hy
  · omega
theorem keys_set {j : Nat} {b : Nat} {o o' : Obj} (hj : L[j]? = some (b, o)) : ∀ x ∈ L.set j (b, o'), (∃ y ∈ L, y.1 = x.1) ∨ w.heap.size ≤ x.1 := by
  intro x hx
  obtain ⟨k, hk⟩ := List.mem_iff_getElem?.1 hx
  by_cases hkj : j = k
  · subst hkj
    rw [List.getElem?_set_self ((List.getElem?_eq_some_iff.1 hj).1)] at hk
    cases hk
    exact .inl ⟨_, List.mem_of_getElem? hj, rfl⟩
  · rw [List.getElem?_set_ne hkj] at hk
    exact .inl ⟨x, List.mem_of_getElem? hk, rfl⟩
theorem St.sto_own (H : St M w0 w L) (ho : Ow M w0 w L e size a n c xs) (j : Nat) {b i : Nat} {cs : Array Value} {t : TypeId} {v : Value} {G : World → Prop} (hj : L[j]? = some (b, .cells cs t (0, 0))) (hi : i < cs.size)
    (h : ∀ w1, St M w0 w1 (L.set j (b, .cells (cs.setIfInBounds i v) t (0, 0))) → Ow M w0 w1 (L.set j (b, .cells (cs.setIfInBounds i v) t (0, 0))) e size a n c xs → G w1) : Sto w ⟨b, i, none⟩ v G := by
  have hb := H.get j hj
  refine ⟨⟨cs[i], ?_⟩, frozen_of_heap hb (.inr (Nat.zero_le _)), ?_⟩
  · rw [cell_of_heap hb]; simp [hi]
  · rintro w' rfl
    refine h _ (H.setAt j hj) (ho.after (Fr.setCell (M := [b]) w (a := ⟨b, i, none⟩) (by simp) v) ?_ (keys_set hj))
    intro p hp hm
    have := ho.sep p hp _ (List.mem_of_getElem? hj)
    simp at hm
    exact this hm.symm
theorem St.sl (H : St M w0 w L) (j : Nat) {b : Nat} {c : Array Value} {t : TypeId} {f : Nat × Nat} (hj : L[j]? = some (b, .cells c t f)) : Sl w (some (A0 b)) c.toList := Sl.of_heap (H.get j hj)
theorem St.tail {x : Nat × Obj} (H : St M w0 w (x :: L)) : St M w0 w L := H.sub (List.sublist_cons_self _ _)
theorem Ow.tail {e size n c : Nat} {a : Option Addr} {xs : List Value} {x : Nat × Obj} (h : Ow M w0 w (x :: L) e size a n c xs) : Ow M w0 w L e size a n c xs := h.sub (List.sublist_cons_self _ _)


/-- '[]byte(s)'. -/
theorem St.s2b {P : Program} (H : St M w0 w L) (l : List UInt8) {src dst el : TypeId} (hs : P.underlying src = some .string) (hd : P.underlying dst = some (.slice el)) (he : P.underlying el = some (.int .u8))
    {G : Option Addr → Nat → Nat → World → Prop} (hg : ∀ b k w', St M w0 w' ((b, .cells (u8s l ++ List.replicate k (Value.int .u8 0)).toArray el (l.length + k, l.length + k + 1)) :: L) → G (some (A0 b)) l.length (l.length + k) w') :
    ∃ x xn xc, ∃ w' : World, (Conv.stringToBytes el (S l)).run P w = .ok (.slice x xn xc) w' ∧ G x xn xc w' := by
  have hr := run_bytes_of_string (P := P) w src dst el (S l) hs hd he
  have hc : (convert src dst (.string (S l))).run P w = (Conv.stringToBytes el (S l)).run P w := by
    simp [convert, _root_.Go.run_underlying hs, _root_.Go.run_underlying hd, _root_.Go.run_underlying he]
  rw [hc] at hr
  have hge : (S l).size ≤ grownCap w (S l).size 0 el := grownCap_ge _ _ _ _
  rw [S_size] at hr hge
  obtain ⟨k, hk⟩ : ∃ k, grownCap w l.length 0 el = l.length + k := ⟨grownCap w l.length 0 el - l.length, by omega⟩
  rw [hk] at hr
  have hrow : bytesRow (S l) (l.length + k) = (u8s l ++ List.replicate k (Value.int .u8 0)).toArray := by
    apply Array.ext'
    simp only [bytesRow, S_size, Nat.add_sub_cancel_left, Array.toList_append, Array.toList_replicate, Array.toList_map]
    rfl
  rw [hrow] at hr
  have hsz : ((u8s l ++ List.replicate k (Value.int .u8 0)).toArray).size = l.length + k := by simp
  rw [hsz] at hr
  refine ⟨_, _, _, _, hr, ?_⟩
  refine (H.call0 (Fr.drew _ _)).alloc (G := fun w' b => w' = w.drew.alloc _ → b = w.heap.size → G (some (A0 b)) l.length (l.length + k) w') (fun w1 b H1 e1 e2 => ?_) _ _ rfl rfl rfl rfl
  exact hg b k w1 H1
end Go.Proofs.VC
