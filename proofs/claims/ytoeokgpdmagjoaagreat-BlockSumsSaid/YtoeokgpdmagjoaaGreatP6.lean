import Derived.Test.YtoeokgpdmagjoaaGreatP5
/-
The sum of a string; numbers as they are.
-/
namespace Go.Proofs.Tryz
open Go Go.RowKit Go.Proofs.VC
set_option linter.unusedVariables false
variable {M : List Nat} {w0 w : World} {L : List (Nat × Obj)}

structure LN where
  a : Nat
  b : Nat
  c : Nat
  d : Nat
def LN.ok (x : LN) : Prop := x.a < WW ∧ x.b < WW ∧ x.c < WW ∧ x.d < WW
def LN.stp (x : LN) (l : List UInt8) : LN := ⟨Tryz.stp l 0 x.a, Tryz.stp l 1 x.b, Tryz.stp l 2 x.c, Tryz.stp l 3 x.d⟩
theorem LN.stp_ok (x : LN) (l : List UInt8) : (x.stp l).ok := ⟨modW _, modW _, modW _, modW _⟩
def lanesN (x : LN) (l : List UInt8) : LN × List UInt8 := if h : 32 ≤ l.length then lanesN (x.stp l) (l.drop 32) else (x, l)
termination_by l.length
decreasing_by simp; omega
def begunN (s : Nat) : LN := ⟨((s + q1) % WW + q2) % WW, (s + q2) % WW, s, (s + (WW - q1)) % WW⟩
def sumN (s : Nat) (l : List UInt8) : Nat :=
  if l.length < 32 then mixN (tail8 (((s + q5) % WW + l.length % WW) % WW) l)
  else mixN (tail8 ((joinN (lanesN (begunN s) l).1.a (lanesN (begunN s) l).1.b (lanesN (begunN s) l).1.c (lanesN (begunN s) l).1.d + l.length % WW) % WW) (lanesN (begunN s) l).2)

theorem tail4_lt {h : Nat} (hh : h < WW) (l : List UInt8) : tail4 h l < WW := by
  unfold tail4
  split
  · exact tail1_lt (modW _) _
  · exact tail1_lt hh _
theorem tail8_lt : ∀ (n : Nat) {h : Nat} (hh : h < WW) (l : List UInt8), l.length ≤ n → tail8 h l < WW := by
  intro n
  induction n with
  | zero => intro h hh l hl; rw [tail8, dif_neg (by omega)]; exact tail4_lt hh l
  | succ n ih =>
    intro h hh l hl
    rw [tail8]
    split
    · exact ih (modW _) _ (by rw [List.length_drop]; omega)
    · exact tail4_lt hh l
theorem mixN_lt {h : Nat} (hh : h < WW) : mixN h < WW := by
  unfold mixN
  exact xor_lt' (modW _) (div_lt' _ (modW _))
theorem joinN_lt (a b c d : Nat) : joinN a b c d < WW := modW _
theorem sumN_lt (s : Nat) (l : List UInt8) : sumN s l < WW := by
  unfold sumN
  split
  · exact mixN_lt (tail8_lt _ (modW _) _ (Nat.le_refl _))
  · exact mixN_lt (tail8_lt _ (modW _) _ (Nat.le_refl _))

theorem lanesV_eq (x : LN) : lanesV x.a x.b x.c x.d = .agg #[.int .u64 (x.a : Int), .int .u64 (x.b : Int), .int .u64 (x.c : Int), .int .u64 (x.d : Int)] := rfl

theorem T_xxh_Sum (s : Nat) (hs : s < WW) (l : List UInt8) (hl : l.length < 4611686018427387904) (w : World) : Calls prog n_xxh_Sum #[.int .u64 (s : Int), .string (S l)] w fun e w' => e = .returned (.int .u64 (sumN s l : Nat)) ∧ Fr [] w w' := by
  refine S_xxh_Sum ?_
  unfold F_xxh_Sum
  rw [S_size]
  refine bif_i (fun hc => ?_) (fun hc => ?_)
  · have h32 : l.length < 32 := by have := of_decide_eq_true hc; omega
    rw [show (2870177450012600261 : Int) = ((q5 : Nat) : Int) from rfl, U64_add, U64_nat, U64_add]
    refine Calls.st (St.start [] w) (T_xxh_tail _ (modW _) l hl w) fun w2 H => ⟨_, rfl, ?_⟩
    refine Calls.st H (T_xxh_Mix _ (tail8_lt _ (modW _) _ (Nat.le_refl _)) w2) fun w3 H => ⟨_, rfl, ?_, H.fr⟩
    rw [sumN, if_pos h32]
  · have h32 : 32 ≤ l.length := by have := of_decide_eq_false hc; omega
    refine Calls.st (St.start [] w) (T_xxh_begun s hs w) fun w2 H => ⟨_, _, _, _, rfl, ?_⟩
    refine H.alloc fun w4 b7 H => ?_
    simp only [A0_add]
    refine H.sto 0 rfl (by simp) fun w5 H => ?_
    refine H.sto 0 rfl (by simp) fun w6 H => ?_
    refine H.sto 0 rfl (by simp) fun w7 H => ?_
    refine H.sto 0 rfl (by simp) fun w8 H => ?_
    refine ⟨fun m x w9 => ∃ (y : LN) (l1 : List UInt8), x = S l1 ∧ y.ok ∧ m = l1.length ∧ l1.length ≤ l.length ∧ lanesN y l1 = lanesN (begunN s) l ∧
      St [] w w9 [(b7, .cells #[.int .u64 (y.a : Int), .int .u64 (y.b : Int), .int .u64 (y.c : Int), .int .u64 (y.d : Int)] t_xxh_four (0, 0))],
      ⟨l.length, begunN s, l, rfl, ⟨modW _, modW _, hs, modW _⟩, rfl, Nat.le_refl _, rfl, H⟩, ?_⟩
    rintro m x w9 ⟨y, l1, rfl, hy, hm, hle, hln, H⟩
    subst hm
    rw [S_size]
    refine bif_i (fun hc1 => ?_) (fun hc1 => ?_)
    · have h1 : 32 ≤ l1.length := by have := of_decide_eq_true hc1; omega
      refine ⟨_, _, _, _, ⟨by rw [A0_add]; exact H.cell 0 rfl rfl, by rw [A0_add]; exact H.cell 0 rfl rfl, by rw [A0_add]; exact H.cell 0 rfl rfl, by rw [A0_add]; exact H.cell 0 rfl rfl, trivial⟩, ?_⟩
      refine Calls.st H (T_xxh_four_step y.a y.b y.c y.d l1 h1 (by omega) w9) fun w10 H => ⟨_, _, _, _, rfl, ?_⟩
      refine H.sto 0 rfl (by simp) fun w11 H => ?_
      refine H.sto 0 rfl (by simp) fun w12 H => ?_
      refine H.sto 0 rfl (by simp) fun w13 H => ?_
      refine H.sto 0 rfl (by simp) fun w14 H => ?_
      rw [S_extract, List.take_of_length_le (Nat.le_refl _)]
      refine ⟨by decide, by omega, (l1.drop 32).length, by rw [List.length_drop]; omega, y.stp l1, l1.drop 32, rfl, LN.stp_ok _ _, rfl, by rw [List.length_drop]; omega, ?_, H⟩
      rw [← hln, lanesN.eq_1 y l1, dif_pos h1]
    · have h1 : l1.length < 32 := by have := of_decide_eq_false hc1; omega
      rw [lanesN, dif_neg (by omega)] at hln
      refine ⟨_, _, _, _, ⟨by rw [A0_add]; exact H.cell 0 rfl rfl, by rw [A0_add]; exact H.cell 0 rfl rfl, by rw [A0_add]; exact H.cell 0 rfl rfl, by rw [A0_add]; exact H.cell 0 rfl rfl, trivial⟩, ?_⟩
      refine Calls.st H (T_xxh_four_joined y.a y.b y.c y.d hy.1 hy.2.1 hy.2.2.1 hy.2.2.2 w9) fun w10 H => ⟨_, rfl, ?_⟩
      rw [U64_nat, U64_add]
      refine Calls.st H (T_xxh_tail _ (modW _) l1 (by omega) w10) fun w11 H => ⟨_, rfl, ?_⟩
      refine Calls.st H (T_xxh_Mix _ (tail8_lt _ (modW _) _ (Nat.le_refl _)) w11) fun w12 H => ⟨_, rfl, ?_, H.fr⟩
      rw [sumN, if_neg (by omega), ← hln]

/-! ### numbers as they are -/
def u64i (v : Int) : Nat := (v % 18446744073709551616).toNat
theorem U64_u64i (v : Int) : U64 v = ((u64i v : Nat) : Int) := by rw [show U64 v = _ from wrap_u64 _, u64i]; omega
theorem u64i_lt (v : Int) : u64i v < WW := by unfold u64i WW; omega
def plainB (l : List Int) : List UInt8 := l.flatMap fun v => wput (u64i v)
theorem plainB_len (l : List Int) : (plainB l).length = 8 * l.length := by
  induction l with
  | nil => rfl
  | cons v l ih => simp only [plainB, List.flatMap_cons, List.length_append, wput_len, List.length_cons] at ih ⊢; rw [show (List.flatMap (fun v => wput (u64i v)) l).length = 8 * l.length from ih]; omega
theorem plainB_app (a b : List Int) : plainB (a ++ b) = plainB a ++ plainB b := by simp [plainB]

/-- A slice of numbers that is read. -/
def SlI (w : World) (a : Option Addr) (n : Nat) (l : List Int) : Prop := n = l.length ∧ Sl w a (i64s l)
theorem SlI.fr0 {w w' : World} {a : Option Addr} {n : Nat} {l : List Int} (h : SlI w a n l) (hf : Fr [] w w') : SlI w' a n l := ⟨h.1, h.2.fr0 hf⟩

theorem T_plain_Put (a : Option Addr) (n c : Nat) (l : List Int) (w : World) (hs : SlI w a n l) (hl : 8 * l.length ≤ 140737488355328) :
    Calls prog n_plain_Put #[.slice a n c] w fun e w' => e = .returned (.string (S (plainB l))) ∧ Fr [] w w' := by
  obtain ⟨rfl, hsl⟩ := hs
  refine S_plain_Put ?_
  unfold F_plain_Put
  refine (St.start [] w).alloc fun w1 b3 H => ?_
  refine ⟨fun m x w2 => ∃ (i : Nat) (p : Value) (a2 : Option Addr) (n2 c2 : Nat), x = (i : Int) ∧ m + i = l.length ∧ (p = .pointer none ∨ p = .pointer (some (A0 b3))) ∧
      St [] w w2 [(b3, .cells #[p, .slice a2 n2 c2] t_strings_Builder (0, 0))] ∧ Ow [] w w2 [(b3, .cells #[p, .slice a2 n2 c2] t_strings_Builder (0, 0))] t_uint8 1 a2 n2 c2 (u8s (plainB (l.take i))),
    ⟨l.length, 0, _, none, 0, 0, rfl, rfl, .inl rfl, H, Ow.nil⟩, ?_⟩
  rintro m x w2 ⟨i, p, a2, n2, c2, rfl, hm, hp, H, ho⟩
  have hn2 : n2 = 8 * min i l.length := by
    have := ho.len
    rw [u8s_len, plainB_len, List.length_take] at this
    omega
  refine bif_i (fun hc => ?_) (fun hc => ?_)
  · have hi : i < l.length := by have := of_decide_eq_true hc; omega
    refine ⟨by omega, by omega, hsl.read (i64s_get (List.getElem?_eq_getElem hi)) fun q hq hcell => ⟨l[i], ?_, ?_⟩⟩
    · rw [Int.toNat_natCast, Nat.mul_one]; exact H.old hcell
    · rw [U64_u64i]
      refine Calls.stf H (T_vint_Word _ (u64i_lt _) w2) fun w3 hf H3 => ⟨_, rfl, ?_⟩
      have ho3 := ho.call0 hf
      · refine T_strings_Builder_WriteString (L := _) H3 (j := 0) rfl hp ho3 (by rw [wput_len]; omega) fun a' c' w' H ho => ⟨_, _, rfl, m - 1, by omega, i + 1, _, _, _, _, ?_, by omega, .inr rfl, H, ?_⟩
        · rw [show (i : Int) + 1 = ((i + 1 : Nat) : Int) by omega, W64_nat (by omega)]
        · rw [List.take_succ_eq_append_getElem hi, plainB_app]
          have : plainB [l[i]] = wput (u64i l[i]) := by simp [plainB]
          rw [this]; exact ho
  · have hi : i = l.length := by have := of_decide_eq_false hc; omega
    subst hi
    refine T_strings_Builder_String H (j := 0) rfl hp ho fun w' H' => ⟨_, rfl, ?_, H'.fr⟩
    rw [List.take_of_length_le (Nat.le_refl _)]
end Go.Proofs.Tryz
