import Derived.Test.YtoeokgpdmagjoaaGreatB1
/-
append of one thing, to one of several slices that are owned; numbers.
-/
namespace Go.Proofs.Tryz
open Go Go.RowKit Go.Proofs.VC
set_option linter.unusedVariables false
variable {M : List Nat} {w0 w : World} {L : List En}

theorem app {P : Program} {e size bytes b j n c : Nat} {a : Option Addr} {xs : List Value} {cs : Array Value} {z : Value} {t ty : TypeId} (H : Sx M w0 w (.ob b (.cells cs e (0, 0)) :: L)) (hj : L[j]? = some (.ow e size a n c xs))
    (ht : P.underlying t = some (.slice e)) (hi : ∃ i, P.info? e = some i ∧ i.zero = some z ∧ i.size = size ∧ i.bytes = bytes) (hzs : z.cells.size = size) (hsz : 0 < size) (hcs : cs.toList.length = size)
    (h1 : ∀ u ∈ cs.toList, u.oneCell' = true) (hb : (n + 1) * bytes ≤ 140737488355328) (hb0 : 0 < bytes)
    {G : Option Addr → Nat → Nat → World → Prop} (hg : ∀ a' c2 w', Sx M w0 w' (L.set j (.ow e size a' (n + 1) c2 (xs ++ cs.toList))) → G a' (n + 1) c2 w') :
    ∃ x xn xc, ∃ w' : World, (Builtin.append_ #[t, t] ty #[.slice a n c, .slice (some (A0 b)) 1 1]).run P w = .ok (.slice x xn xc) w' ∧ G x xn xc w' := by
  obtain ⟨i, hi, hz, hs, hby⟩ := hi
  refine Sx.append H (j + 1) hj ht hi hz hs hby hzs hsz (m := 1) (by rw [hcs, Nat.one_mul]) (by decide) (H.sl 0 rfl) h1 hb hb0 fun a' c2 w' H' => ?_
  exact hg a' c2 w' H'.tail

theorem app_uint8 {b j n c : Nat} {a : Option Addr} {l : List UInt8} {x : Int} {v : UInt8} (H : Sx M w0 w (.ob b (.cells #[.int .u8 x] t_uint8 (0, 0)) :: L)) (hj : L[j]? = some (.ow t_uint8 1 a n c (u8s l))) (hx : x = (v.toNat : Int)) (hn : n + 1 ≤ 140737488355328)
    {G : Option Addr → Nat → Nat → World → Prop} (hg : ∀ a' c2 w', Sx M w0 w' (L.set j (.ow t_uint8 1 a' (n + 1) c2 (u8s (l ++ [v])))) → G a' (n + 1) c2 w') :
    ∃ x xn xc, ∃ w' : World, (Builtin.append_ #[t_S_uint8, t_S_uint8] t_S_uint8 #[.slice a n c, .slice (some (A0 b)) 1 1]).run prog w = .ok (.slice x xn xc) w' ∧ G x xn xc w' := by
  subst hx
  refine app H hj u_S_uint8 i_uint8 rfl (by decide) rfl (by simp [Value.oneCell']) (by omega) (by decide) fun a' c2 w' H' => hg a' c2 w' ?_
  rw [u8s_app]; exact H'
theorem app_int64 {b j n c : Nat} {a : Option Addr} {l : List Int} {v : Int} (H : Sx M w0 w (.ob b (.cells #[.int .i64 v] t_int64 (0, 0)) :: L)) (hj : L[j]? = some (.ow t_int64 1 a n c (i64s l))) (hn : (n + 1) * 8 ≤ 140737488355328)
    {G : Option Addr → Nat → Nat → World → Prop} (hg : ∀ a' c2 w', Sx M w0 w' (L.set j (.ow t_int64 1 a' (n + 1) c2 (i64s (l ++ [v])))) → G a' (n + 1) c2 w') :
    ∃ x xn xc, ∃ w' : World, (Builtin.append_ #[t_S_int64, t_S_int64] t_S_int64 #[.slice a n c, .slice (some (A0 b)) 1 1]).run prog w = .ok (.slice x xn xc) w' ∧ G x xn xc w' := by
  refine app H hj u_S_int64 i_int64 rfl (by decide) rfl (by simp [Value.oneCell']) hn (by decide) fun a' c2 w' H' => hg a' c2 w' ?_
  rw [i64s_app]; exact H'
theorem app_int {b j n c : Nat} {a : Option Addr} {l : List Int} {v : Int} (H : Sx M w0 w (.ob b (.cells #[.int .i64 v] t_int (0, 0)) :: L)) (hj : L[j]? = some (.ow t_int 1 a n c (i64s l))) (hn : (n + 1) * 8 ≤ 140737488355328)
    {G : Option Addr → Nat → Nat → World → Prop} (hg : ∀ a' c2 w', Sx M w0 w' (L.set j (.ow t_int 1 a' (n + 1) c2 (i64s (l ++ [v])))) → G a' (n + 1) c2 w') :
    ∃ x xn xc, ∃ w' : World, (Builtin.append_ #[t_S_int, t_S_int] t_S_int #[.slice a n c, .slice (some (A0 b)) 1 1]).run prog w = .ok (.slice x xn xc) w' ∧ G x xn xc w' := by
  refine app H hj u_S_int i_int rfl (by decide) rfl (by simp [Value.oneCell']) hn (by decide) fun a' c2 w' H' => hg a' c2 w' ?_
  rw [i64s_app]; exact H'
def u64s (l : List Nat) : List Value := l.map fun (n : Nat) => .int .u64 (n : Int)
@[simp] theorem u64s_len (l : List Nat) : (u64s l).length = l.length := by simp [u64s]
theorem u64s_app (a b : List Nat) : u64s (a ++ b) = u64s a ++ u64s b := by simp [u64s]
theorem u64s_get {l : List Nat} {i : Nat} {u : Nat} (h : l[i]? = some u) : (u64s l)[i]? = some (.int .u64 (u : Int)) := by simp [u64s, h]
def u16s (l : List Nat) : List Value := l.map fun (n : Nat) => .int .u16 (n : Int)
@[simp] theorem u16s_len (l : List Nat) : (u16s l).length = l.length := by simp [u16s]
theorem u16s_get {l : List Nat} {i : Nat} {u : Nat} (h : l[i]? = some u) : (u16s l)[i]? = some (.int .u16 (u : Int)) := by simp [u16s, h]
theorem app_uint64 {b j n c : Nat} {a : Option Addr} {l : List Nat} {v : Nat} (H : Sx M w0 w (.ob b (.cells #[.int .u64 (v : Int)] t_uint64 (0, 0)) :: L)) (hj : L[j]? = some (.ow t_uint64 1 a n c (u64s l))) (hn : (n + 1) * 8 ≤ 140737488355328)
    {G : Option Addr → Nat → Nat → World → Prop} (hg : ∀ a' c2 w', Sx M w0 w' (L.set j (.ow t_uint64 1 a' (n + 1) c2 (u64s (l ++ [v])))) → G a' (n + 1) c2 w') :
    ∃ x xn xc, ∃ w' : World, (Builtin.append_ #[t_S_uint64, t_S_uint64] t_S_uint64 #[.slice a n c, .slice (some (A0 b)) 1 1]).run prog w = .ok (.slice x xn xc) w' ∧ G x xn xc w' := by
  refine app H hj u_S_uint64 i_uint64 rfl (by decide) rfl (by simp [Value.oneCell']) hn (by decide) fun a' c2 w' H' => hg a' c2 w' ?_
  rw [u64s_app]; exact H'
/-- Parts: a class, further bits. -/
abbrev Pt : Type := Nat × Nat
def pts (l : List Pt) : List Value := l.flatMap fun p => [.int .i64 (p.1 : Int), .int .u64 (p.2 : Int)]
theorem pts_len (l : List Pt) : (pts l).length = l.length * 2 := by
  induction l with
  | nil => rfl
  | cons p l ih => simp only [pts, List.flatMap_cons, List.length_append, List.length_cons, List.length_nil] at ih ⊢; omega
theorem pts_app (a b : List Pt) : pts (a ++ b) = pts a ++ pts b := by simp [pts]
theorem pts_get {l : List Pt} : ∀ {i : Nat} {u : Pt}, l[i]? = some u → (pts l)[i * 2]? = some (.int .i64 (u.1 : Int)) ∧ (pts l)[i * 2 + 1]? = some (.int .u64 (u.2 : Int)) := by
  induction l with
  | nil => intro i u h; simp at h
  | cons p l ih =>
    intro i u h
    cases i with
    | zero => simp at h; subst h; exact ⟨rfl, rfl⟩
    | succ i =>
      have := ih (i := i) (u := u) (by simpa using h)
      have e : pts (p :: l) = .int .i64 (p.1 : Int) :: .int .u64 (p.2 : Int) :: pts l := rfl
      rw [e, show (i + 1) * 2 = i * 2 + 1 + 1 by omega, List.getElem?_cons_succ, List.getElem?_cons_succ, List.getElem?_cons_succ, List.getElem?_cons_succ]
      exact this
theorem app_Part {b j n c : Nat} {a : Option Addr} {l : List Pt} {v : Pt} (H : Sx M w0 w (.ob b (.cells #[.int .i64 (v.1 : Int), .int .u64 (v.2 : Int)] t_api_Part (0, 0)) :: L)) (hj : L[j]? = some (.ow t_api_Part 2 a n c (pts l))) (hn : (n + 1) * 16 ≤ 140737488355328)
    {G : Option Addr → Nat → Nat → World → Prop} (hg : ∀ a' c2 w', Sx M w0 w' (L.set j (.ow t_api_Part 2 a' (n + 1) c2 (pts (l ++ [v])))) → G a' (n + 1) c2 w') :
    ∃ x xn xc, ∃ w' : World, (Builtin.append_ #[t_S_api_Part, t_S_api_Part] t_S_api_Part #[.slice a n c, .slice (some (A0 b)) 1 1]).run prog w = .ok (.slice x xn xc) w' ∧ G x xn xc w' := by
  refine app H hj u_S_api_Part i_api_Part rfl (by decide) rfl (by simp [Value.oneCell']) hn (by decide) fun a' c2 w' H' => hg a' c2 w' ?_
  rw [pts_app]; exact H'

/-! ### numbers -/
theorem W64_succ {i : Nat} (h : i + 1 < 9223372036854775808) : W64 ((i : Int) + 1) = ((i + 1 : Nat) : Int) := wrap_i64 _ (by omega) (by omega)
theorem wrapI64 (n : Int) : -9223372036854775808 ≤ IntKind.wrap .i64 n ∧ IntKind.wrap .i64 n < 9223372036854775808 := by
  simp [IntKind.wrap, IntKind.bits, IntKind.signed]; omega
end Go.Proofs.Tryz
