import Derived.Test.YtoeokgpdmagjoaaGreatVN
/-
Several blocks and several slices that a call owns, side by side.
-/
namespace Go.Proofs.VC
open Go Go.RowKit

/-- What a call owns: a block, or a slice that may grow. -/
inductive En where
  | ob (b : Nat) (o : Obj)
  | ow (e size : Nat) (a : Option Addr) (n c : Nat) (xs : List Value)

def En.blk : En → Option Nat
  | .ob b _ => some b
  | .ow _ _ a _ _ _ => a.map (·.block)
def En.ok (M : List Nat) (w0 w : World) : En → Prop
  | .ob b o => (w0.heap.size ≤ b ∨ b ∈ M) ∧ w.heap[b]? = some o
  | .ow e size a n c xs => w.ownsRow 0 e size (.slice a n c) n xs ∧ ∀ p, a = some p → w0.heap.size ≤ p.block ∨ p.block ∈ M
/-- Two things that are owned lie apart. -/
def En.ap (x y : En) : Prop := ∀ b, x.blk = some b → y.blk ≠ some b
theorem En.ap.symm {x y : En} (h : En.ap x y) : En.ap y x := fun b hy hx => h b hx hy

structure Sx (M : List Nat) (w0 w : World) (L : List En) : Prop where
  fr : Fr M w0 w
  own : ∀ x ∈ L, x.ok M w0 w
  sep : L.Pairwise En.ap

variable {M : List Nat} {w0 w : World} {L : List En}

theorem Sx.start (M : List Nat) (w : World) : Sx M w w [] := ⟨Fr.refl _ _, by simp, by simp⟩

theorem En.ok.lt {x : En} (h : x.ok M w0 w) {b : Nat} (hb : x.blk = some b) : b < w.heap.size := by
  cases x with
  | ob b' o => cases hb; exact (Array.getElem?_eq_some_iff.1 h.2).1
  | ow e size a n c xs =>
    cases a with
    | none => cases hb
    | some p =>
      simp [En.blk] at hb
      subst hb
      rcases h.1.2 with ⟨hv, _⟩ | ⟨g, cap, cur, hv, _, hg, _⟩
      · cases hv
      · cases hv; exact (Array.getElem?_eq_some_iff.1 hg).1
theorem En.ok.new {x : En} (h : x.ok M w0 w) {b : Nat} (hb : x.blk = some b) : w0.heap.size ≤ b ∨ b ∈ M := by
  cases x with
  | ob b' o => cases hb; exact h.1
  | ow e size a n c xs =>
    cases a with
    | none => cases hb
    | some p => simp [En.blk] at hb; subst hb; exact h.2 p rfl
/-- Kept, where its block is as it was. -/
theorem En.ok.kept {x : En} (h : x.ok M w0 w) {w' : World} (hb : ∀ b, x.blk = some b → w'.heap[b]? = w.heap[b]?) : x.ok M w0 w' := by
  cases x with
  | ob b' o => exact ⟨h.1, (hb b' rfl).trans h.2⟩
  | ow e size a n c xs =>
    refine ⟨ownsRow_of_block h.1 fun g hg => hb g ?_, h.2⟩
    cases a with
    | none => cases hg
    | some p => simp [Value.ownBlock] at hg; simp [En.blk, hg]

theorem Sx.get (H : Sx M w0 w L) (j : Nat) {x : En} (hj : L[j]? = some x) : x.ok M w0 w := H.own x (List.mem_of_getElem? hj)
theorem Sx.ap (H : Sx M w0 w L) {i j : Nat} (hij : i ≠ j) {x y : En} (hi : L[i]? = some x) (hj : L[j]? = some y) : En.ap x y := by
  obtain ⟨hi', rfl⟩ := List.getElem?_eq_some_iff.1 hi
  obtain ⟨hj', rfl⟩ := List.getElem?_eq_some_iff.1 hj
  rcases Nat.lt_or_gt_of_ne hij with h | h
  · exact List.pairwise_iff_getElem.1 H.sep i j hi' hj' h
  · exact (List.pairwise_iff_getElem.1 H.sep j i hj' hi' h).symm

theorem Sx.mk' (fr : Fr M w0 w) (own : ∀ (j : Nat) (x : En), L[j]? = some x → x.ok M w0 w) (sep : ∀ (i j : Nat) (x y : En), i ≠ j → L[i]? = some x → L[j]? = some y → En.ap x y) : Sx M w0 w L :=
  ⟨fr, fun x hx => by obtain ⟨j, hj⟩ := List.mem_iff_getElem?.1 hx; exact own j x hj, by
    rw [List.pairwise_iff_getElem]
    intro i j hi hj hij
    exact sep i j _ _ (Nat.ne_of_lt hij) (List.getElem?_eq_getElem hi) (List.getElem?_eq_getElem hj)⟩

/-- A step that turns number j alone. -/
theorem Sx.turn (H : Sx M w0 w L) (j : Nat) {x x' : En} (hj : L[j]? = some x) {w' : World} (hfr : Fr M w0 w') (hok : x'.ok M w0 w')
    (hkeep : ∀ b, b < w.heap.size → x.blk ≠ some b → w'.heap[b]? = w.heap[b]?) (hnew : ∀ b, x'.blk = some b → x.blk = some b ∨ w.heap.size ≤ b) : Sx M w0 w' (L.set j x') := by
  have hlt := (List.getElem?_eq_some_iff.1 hj).1
  have hother : ∀ k y, k ≠ j → (L.set j x')[k]? = some y → L[k]? = some y := fun k y hk h => by rwa [List.getElem?_set_ne (Ne.symm hk)] at h
  have hself : ∀ y, (L.set j x')[j]? = some y → y = x' := fun y h => by rw [List.getElem?_set_self hlt] at h; exact (Option.some.inj h).symm
  have hap : ∀ k y, k ≠ j → L[k]? = some y → En.ap y x' := fun k y hk h b hy hx => by
    rcases hnew b hx with h1 | h1
    · exact H.ap hk h hj b hy h1
    · have := (H.get k h).lt hy; omega
  refine Sx.mk' hfr (fun k y h => ?_) (fun i k y z hik hi hk => ?_)
  · by_cases hkj : k = j
    · subst hkj; rw [hself y h]; exact hok
    · have h' := hother k y hkj h
      exact (H.get k h').kept fun b hb => hkeep b ((H.get k h').lt hb) fun hx => H.ap hkj h' hj b hb hx
  · by_cases h1 : i = j
    · subst h1
      rw [hself y hi]
      exact (hap k z (Ne.symm hik) (hother k z (Ne.symm hik) hk)).symm
    · by_cases h2 : k = j
      · subst h2; rw [hself z hk]; exact hap i y h1 (hother i y h1 hi)
      · exact H.ap hik (hother i y h1 hi) (hother k z h2 hk)

theorem Sx.call0 (H : Sx M w0 w L) {w' : World} (h : Fr [] w w') : Sx M w0 w' L :=
  ⟨H.fr.trans h.weak, fun x hx => (H.own x hx).kept fun b hb => h.block b ((H.own x hx).lt hb) (by simp), H.sep⟩
/-- What a callee made, or what was found new. -/
theorem Sx.push (H : Sx M w0 w L) {x : En} (hx : x.ok M w0 w) (hn : ∀ b, x.blk = some b → ∀ y ∈ L, y.blk ≠ some b) : Sx M w0 w (x :: L) :=
  ⟨H.fr, fun y hy => (List.mem_cons.1 hy).elim (fun e => e ▸ hx) (H.own y), List.pairwise_cons.2 ⟨fun y hy b hb => hn b hb y hy, H.sep⟩⟩
theorem Sx.nilw (H : Sx M w0 w L) (e size : Nat) : Sx M w0 w (.ow e size none 0 0 [] :: L) :=
  H.push ⟨World.ownsRow_nil _ _ _ _, fun _ h => nomatch h⟩ (fun _ h => nomatch h)
theorem Sx.tail {x : En} (H : Sx M w0 w (x :: L)) : Sx M w0 w L := ⟨H.fr, fun y hy => H.own y (List.mem_cons_of_mem _ hy), (List.pairwise_cons.1 H.sep).2⟩
theorem Sx.sub (H : Sx M w0 w L) {L' : List En} (h : L'.Sublist L) : Sx M w0 w L' := ⟨H.fr, fun x hx => H.own x (h.subset hx), H.sep.sublist h⟩
theorem Sx.perm (H : Sx M w0 w L) {L' : List En} (h : L.Perm L') : Sx M w0 w L' :=
  ⟨H.fr, fun x hx => H.own x (h.symm.subset hx), (h.pairwise_iff (fun {_ _} h => En.ap.symm h)).1 H.sep⟩
/-- Number j comes to the front. -/
theorem perm_front {α : Type} : ∀ (j : Nat) (L : List α) (x : α), L[j]? = some x → L.Perm (x :: L.eraseIdx j)
  | 0, y :: l, x, h => by simp at h; subst h; simp
  | j + 1, y :: l, x, h => by
    have := perm_front j l x (by simpa using h)
    simp only [List.eraseIdx_cons_succ]
    exact (this.cons y).trans (List.Perm.swap x y _)
  | 0, [], x, h => by simp at h
  | j + 1, [], x, h => by simp at h
theorem Sx.front (H : Sx M w0 w L) (j : Nat) {x : En} (hj : L[j]? = some x) : Sx M w0 w (x :: L.eraseIdx j) := H.perm (perm_front j L x hj)
/-- And goes back. -/
theorem Sx.back (j : Nat) {x x' : En} (hj : L[j]? = some x) (H : Sx M w0 w (x' :: L.eraseIdx j)) : Sx M w0 w (L.set j x') := by
  have hlt := (List.getElem?_eq_some_iff.1 hj).1
  have h1 := perm_front j (L.set j x') x' (by rw [List.getElem?_set_self hlt])

  rw [List.eraseIdx_set_eq] at h1
  exact H.perm h1.symm

theorem Sx.alloc (H : Sx M w0 w L) {o : Obj} {G : World → Nat → Prop} (h : ∀ w1 b, Fr [] w w1 → Sx M w0 w1 (.ob b o :: L) → G w1 b) : ∀ w1 b, w1 = w.alloc o → b = w.heap.size → G w1 b := by
  rintro w1 b rfl rfl
  have hf : Fr [] w (w.alloc o) := Fr.alloc _ _ _
  refine h _ _ hf ((H.call0 hf).push ⟨.inl H.fr.size, heap_alloc_new w _⟩ ?_)
  intro b hb y hy hyb
  cases hb
  exact absurd ((H.own y hy).lt hyb) (Nat.lt_irrefl _)
theorem Sx.drew (H : Sx M w0 w L) {G : World → Prop} (h : ∀ w1, Fr [] w w1 → Sx M w0 w1 L → G w1) : ∀ w1, w1 = w.drew → G w1 := by
  rintro w1 rfl
  exact h _ (Fr.drew _ _) (H.call0 (Fr.drew _ _))

theorem blk_ow {e size : Nat} {p : Addr} {n c : Nat} {xs : List Value} : (En.ow e size (some p) n c xs).blk = some p.block := rfl

/-- A store into a block. -/
theorem Sx.setAt (H : Sx M w0 w L) (j : Nat) {b i : Nat} {c : Array Value} {t : TypeId} {f : Nat × Nat} {v : Value} (hj : L[j]? = some (.ob b (.cells c t f))) :
    Sx M w0 (w.setCell ⟨b, i, none⟩ v) (L.set j (.ob b (.cells (c.setIfInBounds i v) t f))) := by
  have hok := H.get j hj
  refine H.turn j hj ⟨H.fr.os, H.fr.tape, H.fr.output, by simpa using H.fr.size, fun k hk hm => ?_⟩ ⟨hok.1, ?_⟩ (fun k _ hk => ?_) fun k hk => .inl hk
  · have hne : k ≠ b := by
      rintro rfl
      rcases hok.1 with h | h
      · exact absurd hk (Nat.not_lt.2 h)
      · exact hm h
    exact (Below.heap_setCell w ⟨b, i, none⟩ v k hne).trans (H.fr.block k hk hm)
  · have hb := hok.2
    simp only [World.setCell, Array.getElem?_modify, if_true]
    rw [hb]; simp
  · exact Below.heap_setCell w ⟨b, i, none⟩ v k fun e => hk (by rw [e]; rfl)
theorem Sx.sto (H : Sx M w0 w L) (j : Nat) {b i : Nat} {c : Array Value} {t : TypeId} {v : Value} {G : World → Prop} (hj : L[j]? = some (.ob b (.cells c t (0, 0)))) (hi : i < c.size)
    (h : ∀ w1, Fr [b] w w1 → Sx M w0 w1 (L.set j (.ob b (.cells (c.setIfInBounds i v) t (0, 0)))) → G w1) : Sto w ⟨b, i, none⟩ v G := by
  have hb := (H.get j hj).2
  refine ⟨⟨c[i], ?_⟩, frozen_of_heap hb (.inr (Nat.zero_le _)), ?_⟩
  · rw [cell_of_heap hb]; simp [hi]
  · rintro w' rfl
    exact h _ (Fr.setCell w (by simp) v) (H.setAt j hj)
theorem Sx.cell (H : Sx M w0 w L) (j : Nat) {b i : Nat} {c : Array Value} {t : TypeId} {f : Nat × Nat} {v : Value} (hj : L[j]? = some (.ob b (.cells c t f))) (hi : c[i]? = some v) : w.cell? ⟨b, i, none⟩ = some v := by
  rw [cell_of_heap (H.get j hj).2, hi]
theorem Sx.sl (H : Sx M w0 w L) (j : Nat) {b : Nat} {c : Array Value} {t : TypeId} {f : Nat × Nat} (hj : L[j]? = some (.ob b (.cells c t f))) : Sl w (some (A0 b)) c.toList := Sl.of_heap (H.get j hj).2

/-! ### the slices -/
variable {e size : Nat} {a : Option Addr} {n c : Nat} {xs : List Value}
theorem Sx.len (H : Sx M w0 w L) (j : Nat) (hj : L[j]? = some (.ow e size a n c xs)) : xs.length = n * size := (H.get j hj).1.1
theorem Sx.slw (H : Sx M w0 w L) (j : Nat) (hj : L[j]? = some (.ow e size a n c xs)) : Sl w a xs :=
  Ow.sl (M := M) (w0 := w0) (L := []) ⟨(H.get j hj).1, (H.get j hj).2, by simp⟩
theorem Sx.cap (H : Sx M w0 w L) (j : Nat) (hj : L[j]? = some (.ow e size a n c xs)) : n ≤ c := by
  rcases (H.get j hj).1.2 with ⟨hv, h0⟩ | ⟨g, cap, cur, hv, _, _, h, _⟩
  · omega
  · cases hv; exact h
theorem Sx.none (H : Sx M w0 w L) (j : Nat) (hj : L[j]? = some (.ow e size none n c xs)) : n = 0 ∧ xs = [] := by
  rcases (H.get j hj).1.2 with ⟨hv, h0⟩ | ⟨g, cap, cur, hv, _⟩
  · exact ⟨h0, List.length_eq_zero_iff.1 (by rw [H.len j hj, h0, Nat.zero_mul])⟩
  · cases hv

/-- The others, as blocks. -/
def toOb (w : World) : En → Option (Nat × Obj)
  | .ob b o => some (b, o)
  | .ow _ _ a _ _ _ => a.bind fun p => (w.heap[p.block]?).map fun o => (p.block, o)
theorem toOb_blk {x : En} {y : Nat × Obj} (h : x.ok M w0 w) (hy : toOb w x = some y) : x.blk = some y.1 ∧ w.heap[y.1]? = some y.2 := by
  cases x with
  | ob b o => cases hy; exact ⟨rfl, h.2⟩
  | ow e size a n c xs =>
    cases a with
    | none => cases hy
    | some p =>
      simp only [toOb, Option.bind_some, Option.map_eq_some_iff] at hy
      obtain ⟨o, ho, rfl⟩ := hy
      exact ⟨rfl, ho⟩
theorem toOb_of {x : En} (h : x.ok M w0 w) {b : Nat} (hb : x.blk = some b) : ∃ o, toOb w x = some (b, o) := by
  cases x with
  | ob b' o => cases hb; exact ⟨o, rfl⟩
  | ow e size a n c xs =>
    have hlt := h.lt hb
    cases a with
    | none => cases hb
    | some p =>
      simp [En.blk] at hb
      subst hb
      exact ⟨w.heap[p.block], by simp [toOb, hlt]⟩

/-- One slice with all others as blocks: what was shown of one slice beside blocks holds here. -/
theorem Sx.open1 (H : Sx M w0 w (.ow e size a n c xs :: L)) : ∃ Lb : List (Nat × Obj), St M w0 w Lb ∧ Ow M w0 w Lb e size a n c xs ∧
    ∀ w' e' size' a' n' c' xs', St M w0 w' Lb → Ow M w0 w' Lb e' size' a' n' c' xs' → Sx M w0 w' (.ow e' size' a' n' c' xs' :: L) := by
  have hx := H.own _ (List.mem_cons_self ..)
  have hsep := (List.pairwise_cons.1 H.sep).1
  have HL := H.tail
  have hmem : ∀ y ∈ L.filterMap (toOb w), ∃ x ∈ L, toOb w x = some y := fun y hy => by simpa using List.mem_filterMap.1 hy
  refine ⟨L.filterMap (toOb w), ⟨H.fr, fun y hy => ?_, ?_⟩, ⟨hx.1, hx.2, fun p hp y hy => ?_⟩, fun w' e' size' a' n' c' xs' hst how => ?_⟩
  · obtain ⟨x, hxL, hxy⟩ := hmem y hy
    obtain ⟨h1, h2⟩ := toOb_blk (HL.own x hxL) hxy
    exact ⟨(HL.own x hxL).new h1, h2⟩
  · rw [List.Nodup, List.pairwise_map, List.pairwise_filterMap]
    refine HL.sep.imp_of_mem fun {x y} hxm hym hap u hu v hv huv => ?_
    obtain ⟨h1, _⟩ := toOb_blk (HL.own x hxm) hu
    obtain ⟨h2, _⟩ := toOb_blk (HL.own y hym) hv
    exact hap _ h1 (by rw [h2, huv])
  · subst hp
    obtain ⟨x, hxL, hxy⟩ := hmem y hy
    obtain ⟨h1, _⟩ := toOb_blk (HL.own x hxL) hxy
    exact fun he => hsep x hxL p.block rfl (by rw [h1, he])
  · have hkeep : ∀ x ∈ L, x.ok M w0 w' := fun x hxm => (HL.own x hxm).kept fun b hb => by
      obtain ⟨o, ho⟩ := toOb_of (HL.own x hxm) hb
      have := (hst.own (b, o) (List.mem_filterMap.2 ⟨x, hxm, ho⟩)).2
      rw [this]
      exact (toOb_blk (HL.own x hxm) ho).2.symm
    refine Sx.push ⟨hst.fr, hkeep, HL.sep⟩ ⟨how.row, how.new⟩ fun b hb y hy hyb => ?_
    obtain ⟨o, ho⟩ := toOb_of (HL.own y hy) hyb
    cases a' with
    | none => cases hb
    | some p =>
      simp [En.blk] at hb
      exact how.sep p rfl (b, o) (List.mem_filterMap.2 ⟨y, hy, ho⟩) (by simp [hb])

/-- append, to slice number j. -/
theorem Sx.append {P : Program} (H : Sx M w0 w L) (j : Nat) (hj : L[j]? = some (.ow e size a n c xs)) {t ty : TypeId} {i : TypeInfo} {z : Value} {bytes : Nat} (ht : P.underlying t = some (.slice e)) (hi : P.info? e = some i) (hz : i.zero = some z)
    (hsize : i.size = size) (hby : i.bytes = bytes) (hzs : z.cells.size = size) (hsz : 0 < size) {p : Option Addr} {m c' : Nat} {news : List Value} (hl : news.length = m * size) (hm : 0 < m)
    (hnews : Sl w p news) (h1 : ∀ u ∈ news, u.oneCell' = true) (hbytes : (n + m) * bytes ≤ 140737488355328) (hb0 : 0 < bytes)
    {G : Option Addr → Nat → Nat → World → Prop} (hg : ∀ a' c2 w', Sx M w0 w' (L.set j (.ow e size a' (n + m) c2 (xs ++ news))) → G a' (n + m) c2 w') :
    ∃ x xn xc, ∃ w' : World, (Builtin.append_ #[t, t] ty #[.slice a n c, .slice p m c']).run P w = .ok (.slice x xn xc) w' ∧ G x xn xc w' := by
  obtain ⟨Lb, hst, how, hback⟩ := (H.front j hj).open1
  refine St.append hst how ht hi hz hsize hby hzs hsz hl hm hnews h1 hbytes hb0 fun a' c2 w' hst' how' => hg _ _ _ ?_
  exact Sx.back j hj (hback _ _ _ _ _ _ _ hst' how')
theorem Sx.appendS {P : Program} (H : Sx M w0 w L) (j : Nat) (hj : L[j]? = some (.ow e 1 a n c xs)) {t u ty : TypeId} {i : TypeInfo} (ht : P.underlying t = some (.slice e)) (hu : P.underlying u = some .string) (hi : P.info? e = some i) (hz : i.zero = some (.int .u8 0))
    (hsize : i.size = 1) (hby : i.bytes = 1) (l : List UInt8) (hbytes : n + l.length ≤ 140737488355328)
    {G : Option Addr → Nat → Nat → World → Prop} (hg : ∀ a' c2 w', Sx M w0 w' (L.set j (.ow e 1 a' (n + l.length) c2 (xs ++ u8s l))) → G a' (n + l.length) c2 w') :
    ∃ x xn xc, ∃ w' : World, (Builtin.append_ #[t, u] ty #[.slice a n c, .string (S l)]).run P w = .ok (.slice x xn xc) w' ∧ G x xn xc w' := by
  obtain ⟨Lb, hst, how, hback⟩ := (H.front j hj).open1
  refine St.appendS hst how ht hu hi hz hsize hby l hbytes fun a' c2 w' hst' how' => hg _ _ _ ?_
  exact Sx.back j hj (hback _ _ _ _ _ _ _ hst' how')

/-- A store into a slice that may grow. -/
theorem Sx.stoW (H : Sx M w0 w L) (j : Nat) (hj : L[j]? = some (.ow e size a n c xs)) {i : Nat} {v : Value} {G : World → Prop} {p : Addr} (hp : a = some p) (hi : i < xs.length)
    (h : ∀ w1, Fr [p.block] w w1 → Sx M w0 w1 (L.set j (.ow e size a n c (xs.set i v))) → G w1) : Sto w (p.add i) v G := by
  subst hp
  have hok := H.get j hj
  rcases hok.1.2 with ⟨hv, _⟩ | ⟨g, cap, cur, hv, _, hg, hnc, hcm, hcs, htk⟩
  · cases hv
  · cases hv
    have hlen := H.len j hj
    have hic : i < cur.size := by
      rw [hcs]; rw [hlen] at hi
      exact Nat.lt_of_lt_of_le hi (Nat.mul_le_mul_right _ hnc)
    rw [add_lit, Nat.zero_add]
    refine ⟨⟨cur[i], ?_⟩, frozen_of_heap hg (.inr (Nat.zero_le _)), ?_⟩
    · rw [cell_of_heap hg]; simp [hic]
    · rintro w' rfl
      refine h _ (Fr.setCell w (by simp) v) (H.turn j hj ⟨H.fr.os, H.fr.tape, H.fr.output, by simpa using H.fr.size, fun k hk hm => ?_⟩ ⟨⟨by simpa using hlen, .inr ⟨g, c, cur.setIfInBounds i v, rfl, Nat.zero_le _, ?_, hnc, hcm, by simpa using hcs, ?_⟩⟩, hok.2⟩ (fun k _ hk => ?_) fun k hk => .inl hk)
      · have hne : k ≠ g := by
          rintro rfl
          rcases hok.2 _ rfl with h | h
          · exact absurd hk (Nat.not_lt.2 h)
          · exact hm h
        exact (Below.heap_setCell w ⟨g, i, Option.none⟩ v k hne).trans (H.fr.block k hk hm)
      · simp only [World.setCell, Array.getElem?_modify, if_true]
        rw [hg]; simp
      · rw [← htk]
        simp only [Array.toList_setIfInBounds]
        exact List.take_set
      · exact Below.heap_setCell w ⟨g, i, Option.none⟩ v k fun e => hk (by rw [e]; rfl)

/-- The front part of a slice is still owned. -/
theorem Sx.cut (H : Sx M w0 w L) (j : Nat) (hj : L[j]? = some (.ow e size a n c xs)) (m : Nat) (hm : m ≤ n) (h0 : a = Option.none → c = 0) : Sx M w0 w (L.set j (.ow e size a m c (xs.take (m * size)))) := by
  have hok := H.get j hj
  have hlen := H.len j hj
  refine H.turn j hj H.fr ⟨⟨by rw [List.length_take, hlen]; exact Nat.min_eq_left (Nat.mul_le_mul_right _ hm), ?_⟩, hok.2⟩ (fun _ _ _ => rfl) fun k hk => .inl (by cases a <;> exact hk)
  rcases hok.1.2 with ⟨hv, hn⟩ | ⟨g, cap, cur, hv, hb, hg, hnc, hcm, hcs, htk⟩
  · cases hv
    obtain rfl : m = 0 := by omega
    exact .inl ⟨rfl, rfl⟩
  · cases hv
    refine .inr ⟨g, c, cur, rfl, hb, hg, by omega, hcm, hcs, ?_⟩
    rw [← htk, List.take_take, Nat.min_eq_left (Nat.mul_le_mul_right _ hm)]

/-- A block that was made for a slice. -/
theorem Sx.asOw {b : Nat} {cs : Array Value} (H : Sx M w0 w (.ob b (.cells cs e (0, 0)) :: L)) (size n c : Nat) (hnc : n ≤ c) (hc : c ≤ maxLen) (hcs : cs.size = c * size) : Sx M w0 w (.ow e size (some (A0 b)) n c (cs.toList.take (n * size)) :: L) := by
  have hok := H.own _ (List.mem_cons_self ..)
  refine H.tail.push ⟨⟨by rw [List.length_take, Array.length_toList, hcs]; exact Nat.min_eq_left (Nat.mul_le_mul_right _ hnc), .inr ⟨b, c, cs, rfl, Nat.zero_le _, hok.2, hnc, hc, hcs, rfl⟩⟩, fun p hp => by cases hp; exact hok.1⟩ fun k hk y hy => ?_
  exact (List.pairwise_cons.1 H.sep).1 y hy k hk
/-- A slice that a callee made. -/
theorem Ow.push {w' : World} (h : Ow [] w w' [] e size a n c xs) (H : Sx M w0 w L) (hf : Fr [] w w') : Sx M w0 w' (.ow e size a n c xs :: L) := by
  refine (H.call0 hf).push ⟨h.row, fun p hp => ?_⟩ fun b hb y hy hyb => ?_
  · rcases h.new p hp with h1 | h1
    · exact .inl (Nat.le_trans H.fr.size h1)
    · simp at h1
  · cases a with
    | none => cases hb
    | some p =>
      simp [En.blk] at hb
      subst hb
      rcases h.new p rfl with h1 | h1
      · have := (H.own y hy).lt hyb; omega
      · simp at h1
/-- What is owned at the end is the caller's. -/
theorem Sx.out (H : Sx [] w0 w L) (j : Nat) (hj : L[j]? = some (.ow e size a n c xs)) : Ow [] w0 w [] e size a n c xs := ⟨(H.get j hj).1, (H.get j hj).2, by simp⟩

/-! ### calls -/
theorem Calls.sx {P : Program} {k : Nat} {args : Array Value} {R : Ending → World → Prop} {v : Value} (H : Sx M w0 w L) (hc : Calls P k args w fun e w' => e = .returned v ∧ Fr [] w w')
    (h : ∀ w', Fr [] w w' → Sx M w0 w' L → R (.returned v) w') : Calls P k args w R :=
  hc.mono fun _ w' ⟨he, hf⟩ => he ▸ h w' hf (H.call0 hf)

/-- One slice beside blocks. -/
theorem Sx.of_St {Lb : List (Nat × Obj)} (H : St M w0 w Lb) : Sx M w0 w (Lb.map fun x => .ob x.1 x.2) := by
  refine ⟨H.fr, fun x hx => ?_, ?_⟩
  · obtain ⟨y, hy, rfl⟩ := List.mem_map.1 hx
    exact H.own y hy
  · rw [List.pairwise_map]
    have := H.nd
    rw [List.Nodup, List.pairwise_map] at this
    exact this.imp fun {x y} h => fun b hb hb' => h ((Option.some.inj hb).trans (Option.some.inj hb').symm)
end Go.Proofs.VC
