import Derived.Test.YtoeokgpdmagjoaaGreatX2
import Derived.Test.YtoeokgpdmagjoaaGreatGLs
/-
BlockSums: the walk.
-/
namespace Go.Proofs.Tryz
open Go Go.RowKit Go.Proofs.VC
set_option linter.unusedVariables false

theorem sA_zero (a : Option Addr) (es m : Nat) : sA a es 0 m = a := by
  unfold sA
  split
  · rfl
  · cases a <;> simp
theorem numbers_I64 (ns : List Nat) : ∀ v ∈ numbers ns, I64 v := by
  intro v hv
  obtain ⟨x, _, rfl⟩ := List.mem_map.1 hv
  exact num1_I64 x
theorem W64_idn {n : Int} {m : Nat} (h : n = (m : Int)) (hm : m < 9223372036854775808) : W64 n = (m : Int) := by rw [h]; exact W64_nat hm
theorem u8s_set (l : List UInt8) (i : Nat) (v : UInt8) : (u8s l).set i (.int .u8 (v.toNat : Int)) = u8s (l.set i v) := by simp [u8s, List.map_set]
theorem bif_t {c : Bool} {A B : Prop} (h : c = true) (a : A) : bif c then A else B := by subst h; exact a
theorem bif_f {c : Bool} {A B : Prop} (h : c = false) (b : B) : bif c then A else B := by subst h; exact b

theorem T_l21_BlockSums (a : Option Addr) (n c : Nat) (ns : List Nat) (hns : ∀ x ∈ ns, x < 65536) (seed at_ by_ : Nat) (hseed : seed < WW) (hat : at_ < 65536) (hby : by_ < 256) (w : World) (hn : n = ns.length) (hc : n ≤ c) (hlen : n < 9223372036854775808) (hs : Sl w a (u16s ns)) :
    Calls prog n_l21_BlockSums #[.slice a n c, .int .u64 (seed : Int), .int .u16 (at_ : Int), .int .u8 (by_ : Int)] w fun e w' => e = .returned (.bool true) ∧ Fr [] w w' := by
  subst hn
  refine S_l21_BlockSums ?_
  unfold F_l21_BlockSums
  refine ⟨by split <;> omega, by split <;> omega, ?_⟩
  have e1 : Int.toNat (if (3 : Int) < ((ns.length : Nat) : Int) then (3 : Int) else ((ns.length : Nat) : Int)) - 0 = (ns.take 3).length := by rw [List.length_take]; split <;> omega
  rw [sA_zero]
  have hs3 : Sl w a (u16s (ns.take 3)) := by
    have := hs.take 3
    rwa [u16s, ← List.map_take] at this
  refine (T_l11_Numbers a _ _ (ns.take 3) (fun x hx => hns x (List.mem_of_mem_take hx)) w e1 hs3).mono ?_
  rintro e w1 ⟨a', c', rfl, ho, hf1⟩
  refine ⟨_, _, _, rfl, ?_⟩
  have hsl : SlI w1 a' (numbers (ns.take 3)).length (numbers (ns.take 3)) := ⟨rfl, ho.sl⟩
  have hI := numbers_I64 (ns.take 3)
  have hl3 : (numbers (ns.take 3)).length ≤ 3 := by rw [numbers_len, List.length_take]; omega
  generalize numbers (ns.take 3) = l at hsl hI hl3
  intro J4 hJ4
  have H1 := St.start [] w1
  refine bif_i (fun h0 => ?_) fun h0 => bif_i (fun hb0 => ?_) fun hb0 => ?_
  · exact Calls.st H1 (T_l21_awake w1) fun w2 H => ⟨_, rfl, rfl, hf1.trans H.fr⟩
  · exact Calls.st H1 (T_l21_awake w1) fun w2 H => ⟨_, rfl, rfl, hf1.trans H.fr⟩
  have hl1 : 1 ≤ l.length := by have := ne_of_beq_false h0; omega
  have hby0 : by_ ≠ 0 := by have := ne_of_beq_false hb0; omega
  refine hJ4 w1 (Calls.st H1 (T_l21_Options 1 1 1 0 seed (by decide) (by decide) (by decide) (by decide) w1) fun w3 H => ⟨_, _, _, _, _, rfl, ?_⟩)
  have hle : loadErr 0 (optA 1 : Nat) (optB 1 : Nat) (optC 1 : Nat) (optD 0 : Nat) l.length = false := by
    rcases (by omega : l.length = 1 ∨ l.length = 2 ∨ l.length = 3) with h | h | h <;> rw [h] <;> decide
  have hpl : (plainB l).length = 8 * l.length := plainB_len l
  refine Calls.st H (T_block_Put 0 (optA 1 : Nat) (optB 1 : Nat) (optC 1 : Nat) (optD 0 : Nat) seed hseed a' l.length c' l (plainB l) 0 w3 (hsl.fr0 H.fr) (by omega) (fun _ w2 hs2 => T_block_loader_plain _ _ _ _ _ _ _ _ _ _ hs2 (by omega))) fun w4 H => ?_
  rw [putV, if_neg (by rw [hle]; simp), if_neg (by simp)]
  refine ⟨_, _, rfl, ?_⟩
  rw [show Int.toNat 0 = 0 from rfl]
  have hBl : (blockB 0 l.length (plainB l) (sumN seed (plainB l))).length = (headBytes 0 l.length (8 * l.length)).length + (8 * l.length + 8) := by
    simp only [blockB, List.length_append, hpl, wput_len]; omega
  have hhl : (headBytes 0 l.length (8 * l.length)).length ≤ 21 := by
    have h1 := vput_len64 (n := l.length) (by omega)
    have h2 := vput_len64 (n := 8 * l.length) (by omega)
    simp only [headBytes, List.length_append, List.length_cons, List.length_nil]; omega
  have hturn := fun q v => blkR_turned l.length seed l q v rfl hl1 hl3
  have hway := fun q v => headR_turned l.length seed l q v rfl hl1 hl3
  generalize blockB 0 l.length (plainB l) (sumN seed (plainB l)) = B at hBl hturn hway
  generalize (headBytes 0 l.length (8 * l.length)).length = hh at hBl hhl hturn hway
  have k1 : W64 ((W64 ((8 : Int) * ((l.length : Nat) : Int))) + (8 : Int)) = ((8 * l.length + 8 : Nat) : Int) := by
    rw [W64_idn (n := (8 : Int) * ((l.length : Nat) : Int)) (m := 8 * l.length) (by omega) (by omega), W64_idn (m := 8 * l.length + 8) (by omega) (by omega)]
  have k2 : W64 ((at_ : Nat) : Int) = ((at_ : Nat) : Int) := W64_nat (by omega)
  have k3 : Int.tmod ((at_ : Nat) : Int) ((8 * l.length + 8 : Nat) : Int) = ((at_ % (8 * l.length + 8) : Nat) : Int) := tmod_nat _ _
  have hq : at_ % (8 * l.length + 8) < 8 * l.length + 8 := Nat.mod_lt _ (by omega)
  have k4 : W64 ((W64 (((B.length : Nat) : Int) - ((8 * l.length + 8 : Nat) : Int))) + ((at_ % (8 * l.length + 8) : Nat) : Int)) = ((hh + at_ % (8 * l.length + 8) : Nat) : Int) := by
    rw [W64_idn (n := ((B.length : Nat) : Int) - ((8 * l.length + 8 : Nat) : Int)) (m := hh) (by omega) (by omega)]
    exact W64_idn (by omega) (by omega)
  rw [S_size, k1, k2, k3, k4]
  generalize at_ % (8 * l.length + 8) = q at hq
  intro J8 hJ8
  refine Calls.st H (T_l1_Err _ _) fun w5 H => ⟨_, rfl, bif_f (by decide) (bif_f (by simp; omega) (hJ8 _ ?_))⟩
  refine H.s2b B u_string u_S_uint8 u_uint8 fun b k w6 H => ⟨by omega, by omega, by omega, OSome.i ?_⟩
  have hi : hh + q < B.length := by omega
  have hcell : (u8s B ++ List.replicate k (Value.int .u8 0)).toArray[hh + q]? = some (.int .u8 (B[hh + q].toNat : Int)) := by
    rw [List.getElem?_toArray, List.getElem?_append_left (by simpa using hi)]
    exact u8s_get (List.getElem?_eq_getElem hi)
  rw [A0_add, Int.toNat_natCast, Nat.mul_one]
  refine ⟨_, H.cell 0 rfl hcell, by omega, by omega, OSome.i ?_⟩
  rw [A0_add]
  have hbt := B[hh + q].toNat_lt
  rw [xorI_u8 _ _ hbt hby]
  have hx : B[hh + q].toNat ^^^ by_ < 256 := Nat.xor_lt_two_pow (n := 8) hbt hby
  refine H.stoF 0 rfl (by simp; omega) (.inl (by omega)) fun w7 H => ?_
  have hset : Sl w7 (some (A0 b)) (u8s (B.set (hh + q) (UInt8.ofNat (B[hh + q].toNat ^^^ by_)))) := by
    have h0 := H.sl 0 rfl
    rw [List.setIfInBounds_toArray, List.set_append_left _ _ (by simpa using hi)] at h0
    have h1 : (u8s B).set (hh + q) (.int .u8 ((B[hh + q].toNat ^^^ by_ : Nat) : Int)) = u8s (B.set (hh + q) (UInt8.ofNat (B[hh + q].toNat ^^^ by_))) := by
      rw [← u8s_set, toNat_ofNat8 hx]
    rw [h1] at h0
    have h2 := h0.take B.length
    rwa [List.take_left' (by simp)] at h2
  refine b2s hset (by simp) ?_
  have hne : B[hh + q]? ≠ some (UInt8.ofNat (B[hh + q].toNat ^^^ by_)) := by
    rw [List.getElem?_eq_getElem hi]
    intro e
    have e2 := congrArg UInt8.toNat (Option.some.inj e)
    rw [toNat_ofNat8 hx] at e2
    have e3 := xor_inj (a := B[hh + q].toNat) (x := by_) (y := 0) (by rw [Nat.xor_zero]; exact e2.symm)
    exact hby0 e3
  have hR := hturn q _ hq hne
  have hH : (headR (B.set (hh + q) (UInt8.ofNat (B[hh + q].toNat ^^^ by_))) 0 100).e = 0 → (headR (B.set (hh + q) (UInt8.ofNat (B[hh + q].toNat ^^^ by_))) 0 100).way = 0 := fun _ => hway _ _
  refine (T38p _ 0 seed hseed 100 (by rw [List.length_set]; omega) hH w7).mono ?_
  rintro e w8 ⟨v, rfl, hv, hf8⟩
  replace H := H.call0 hf8
  rw [show (fun (_ : Nat) n s => if n ≤ 4096 then unl0 0 n s else none) = unlP from rfl, hR] at hv
  obtain rfl := hv
  refine ⟨_, _, _, _, _, _, rfl, Calls.st H (T_l1_Err _ _) fun w9 H => ⟨_, rfl, bif_t (by decide) (bif_t (by decide) ?_)⟩⟩
  exact Calls.st H (T_l21_awake _) fun w10 H => ⟨_, rfl, rfl, hf1.trans H.fr⟩
end Go.Proofs.Tryz
