import Derived.Test.YtoeokgpdmagjoaaGreatVJ
import Derived.Deep.LoopGhost
namespace Go.Proofs.VC
open Go

def curT {R : Type} : (bs : List B) → (List Value → R) → CurT R bs
  | [], F => F []
  | .int k :: bs, F => fun n => curT bs fun vs => F (.int k n :: vs)
  | .bool :: bs, F => fun n => curT bs fun vs => F (.bool n :: vs)
  | .str :: bs, F => fun n => curT bs fun vs => F (.string n :: vs)
  | .ptr :: bs, F => fun n => curT bs fun vs => F (.pointer n :: vs)
  | .sl :: bs, F => fun a n c => curT bs fun vs => F (.slice a n c :: vs)
  | .map :: bs, F => fun n => curT bs fun vs => F (.map n :: vs)
  | .fn :: bs, F => fun v => curT bs fun vs => F (v :: vs)
  | .ifc :: bs, F => fun v => curT bs fun vs => F (v :: vs)
  | .ad :: bs, F => fun a => curT bs fun vs => F (.pointer (some a) :: vs)

theorem appT_cur {R : Type} : ∀ {bs : List B} {F : List Value → R} {vs : List Value} {K : R → Prop}, vs.length = bs.length → appT bs (curT bs F) vs K → K (F vs)
  | [], F, [], K, _, h => h
  | b :: bs, F, v :: vs, K, hl, h => by
    have hl' : vs.length = bs.length := by simpa using hl
    cases b
    case int k =>
      cases v <;> simp only [appT, curT] at h <;> first
        | exact h.elim
        | (obtain ⟨hk, h'⟩ := cond_true h
           have hk' := eq_of_beq hk
           subst hk'
           exact appT_cur (bs := bs) (vs := vs) hl' h')
    case ad =>
      cases v
      case pointer n =>
        cases n with
        | none => exact False.elim h
        | some a => exact appT_cur (bs := bs) (vs := vs) hl' h
      all_goals exact False.elim h
    all_goals
      cases v <;> simp only [appT, curT] at h <;> first
        | exact h.elim
        | exact appT_cur (bs := bs) (vs := vs) hl' h
  | [], _, _ :: _, _, hl, _ => by simp at hl
  | _ :: _, _, [], _, hl, _ => by simp at hl

theorem cur_appT {R : Type} : ∀ {bs : List B} {F : List Value → R} {vs : List Value} {K : R → Prop}, fitsL bs vs → K (F vs) → appT bs (curT bs F) vs K
  | [], F, [], K, _, h => h
  | b :: bs, F, v :: vs, K, hf, h => by
    obtain ⟨h1, h2⟩ := hf
    cases b <;> simp only [fits] at h1
    case int k =>
      obtain ⟨n, rfl⟩ := h1
      simp only [appT, curT, beq_self_eq_true]
      exact cur_appT (bs := bs) h2 h
    case sl => obtain ⟨a, n, c, rfl⟩ := h1; exact cur_appT (bs := bs) h2 h
    case fn => exact cur_appT (bs := bs) h2 h
    case ifc => exact cur_appT (bs := bs) h2 h
    case ad => obtain ⟨n, rfl⟩ := h1; exact cur_appT (bs := bs) h2 h
    all_goals (obtain ⟨n, rfl⟩ := h1; exact cur_appT (bs := bs) h2 h)
  | [], _, _ :: _, _, hf, _ => hf.elim
  | _ :: _, _, [], _, hf, _ => hf.elim

theorem AllB_of {b : B} {Q : Value → Prop} (h : ∀ v, fits b v → Q v) : AllB b Q := by
  cases b <;> simp only [AllB] <;> intros <;> apply h <;> simp [fits]
theorem AllL_of : ∀ {bs : List B} {Q : List Value → Prop}, (∀ vs, fitsL bs vs → Q vs) → AllL bs Q
  | [], _, h => h [] trivial
  | _ :: _, _, h => AllB_of fun v hv => AllL_of fun vs hvs => h (v :: vs) ⟨hv, hvs⟩

def mask (M : Nat) (f : E) : E := fun t => cond (Nat.testBit M t) none (f t)
def setL (f : E) : List Nat → List Value → E
  | s :: ss, v :: vs => setL (upd f s v) ss vs
  | _, _ => f
def getL (f : E) : List Nat → (List Value → Prop) → Prop
  | [], K => K []
  | s :: ss, K => onSome (f s) fun v => getL f ss fun vs => K (v :: vs)

theorem getL_spec {f : E} : ∀ {ss : List Nat} {K : List Value → Prop}, getL f ss K → ∃ vs, K vs ∧ vs.length = ss.length ∧ ∀ (i : Nat) (s : Nat) (v : Value), ss[i]? = some s → vs[i]? = some v → f s = some v
  | [], K, h => ⟨[], h, rfl, fun i s v h => by simp at h⟩
  | s :: ss, K, h => by
    obtain ⟨v, hv, h⟩ := onSome.elim h
    obtain ⟨vs, hk, hl, hs⟩ := getL_spec h
    refine ⟨v :: vs, hk, by simp [hl], fun i s' v' h1 h2 => ?_⟩
    cases i with
    | zero => simp at h1 h2; subst h1 h2; exact hv
    | succ i => exact hs i s' v' (by simpa using h1) (by simpa using h2)

theorem Rep.upd_known {n : Nat} {a : Act} {g : E} (h : Rep n a g) {s : Nat} {v : Value} (hv : a.tmps.getD s undef = v) : Rep n a (upd g s v) :=
  ⟨h.defers, h.size, fun t u hu => by
    unfold upd at hu
    cases ht : Nat.beq t s with
    | true =>
      rw [ht] at hu
      have := Nat.eq_of_beq_eq_true ht
      subst this
      have hu' : some v = some u := hu
      cases hu'
      exact hv
    | false => rw [ht] at hu; exact h.val t u hu⟩

theorem Rep.setL {n : Nat} {a : Act} : ∀ {ss : List Nat} {vs : List Value} {g : E}, Rep n a g → (∀ (i : Nat) (s : Nat) (v : Value), ss[i]? = some s → vs[i]? = some v → a.tmps.getD s undef = v) → Rep n a (setL g ss vs)
  | [], _, g, h, _ => by unfold VC.setL; exact h
  | s :: ss, [], g, h, _ => by unfold VC.setL; exact h
  | s :: ss, v :: vs, g, h, hv => by
    unfold VC.setL
    exact Rep.setL (h.upd_known (hv 0 s v rfl rfl)) fun i s' v' h1 h2 => hv (i + 1) s' v' (by simpa using h1) (by simpa using h2)

theorem Rep.mask {n : Nat} {a a' : Act} {f f' : E} {M : Nat} (h : Rep n a f) (h' : Rep n a' f') (hag : ∀ t, Nat.testBit M t = false → a'.tmps.getD t undef = a.tmps.getD t undef) : Rep n a' (mask M f) :=
  ⟨h'.defers, h'.size, fun t v hv => by
    unfold VC.mask at hv
    cases ht : Nat.testBit M t with
    | true => rw [ht] at hv; cases hv
    | false => rw [ht] at hv; rw [hag t ht]; exact h.val t v hv⟩

inductive Ex where
  | nrm
  | brk (id : Nat)
  | ret
def Ex.to : Ex → Exit
  | .nrm => .normal
  | .brk id => .exit id
  | .ret => .ret

structure Ann where
  loop : Nat → Option (Nat × List Nat × List B)
  join : Nat → Option (Nat × List Nat × List B)
  nf : Nat → List Nat

def firstReg : Code → Nat
  | .region id _ _ => id
  | .seq a _ => firstReg a
  | .block _ c => firstReg c
  | .loop c => firstReg c
  | .cond _ x _ => firstReg x
  | _ => 1000000


def covOps (M : Nat) (l : List Oper) : Bool := l.all fun o => match o.dst with | none => true | some d => Nat.testBit M d
def cov (M : Nat) : Code → Bool
  | .region _ ops _ => covOps M ops.toList
  | .seq a b => cov M a && cov M b
  | .cond _ a b => cov M a && cov M b
  | .block _ c => cov M c
  | .loop c => cov M c
  | .skip => true
  | .exit _ => true
  | .ret => true
  | _ => false

def writes : Code → Nat → Prop
  | .region _ ops _, t => wOps ops.toList t
  | .seq a b, t => writes a t ∨ writes b t
  | .cond _ a b, t => writes a t ∨ writes b t
  | .block _ c, t => writes c t
  | .loop c, t => writes c t
  | _, _ => False

theorem cov_spec {M : Nat} : ∀ {c : Code} {t : Nat}, cov M c = true → writes c t → Nat.testBit M t = true
  | .region _ ops _, t, h, ⟨o, ho, hd⟩ => by
    have := List.all_eq_true.1 h o ho
    rw [hd] at this
    exact this
  | .seq a b, t, h, hw => by
    simp only [cov, Bool.and_eq_true] at h
    rcases hw with hw | hw
    · exact cov_spec h.1 hw
    · exact cov_spec h.2 hw
  | .cond _ a b, t, h, hw => by
    simp only [cov, Bool.and_eq_true] at h
    rcases hw with hw | hw
    · exact cov_spec h.1 hw
    · exact cov_spec h.2 hw
  | .block _ c, t, h, hw => cov_spec (c := c) h hw
  | .loop c, t, h, hw => cov_spec (c := c) h hw

section
variable (P : Program) (T : Nat → TI) (fok : Nat → Bool) (n : Nat) (A : Ann)

def vcC : Nat → Code → E → World → (Ex → E → World → Prop) → Prop
  | _, .skip, f, w, K => K .nrm f w
  | _, .region id ops draw, f, w, K => cond draw (vcDraw P T fok (A.nf id) n ops f w fun f' w' => K .nrm f' w') (vcOps P T fok n ops ops.toList f w fun f' w' => K .nrm f' w')
  | cur, .seq a b, f, w, K =>
    match A.join (firstReg b) with
    | none => vcC cur a f w fun e f' w' => match e with | .nrm => vcC cur b f' w' K | e => K e f' w'
    | some (M, slots, tys) => cond (cov M a && slots.length == tys.length)
      (∀ J : CurT (World → Prop) tys, (AllL tys fun vs => ∀ w1, vcC cur b (setL (mask M f) slots vs) w1 K → appT tys J vs fun j => j w1) →
        vcC cur a f w fun e f' w' => match e with | .nrm => getL f' slots fun vs => appT tys J vs fun j => j w' | e => K e f' w') False
  | cur, .cond c x y, f, w, K =>
    cond (knO f c) (match evD f c with
      | .bool b => cond b (vcC cur x f w K) (vcC cur y f w K)
      | _ => False) False
  | _, .block id c, f, w, K => vcC id c f w fun e f' w' => match e with | .brk id' => cond (Nat.beq id' id) (K .nrm f' w') (K (.brk id') f' w') | e => K e f' w'
  | cur, .loop c, f, w, K =>
    match A.loop cur with
    | none => False
    | some (M, slots, tys) => cond (cov M c && slots.length == tys.length)
      (∃ I : Nat → CurT (World → Prop) tys, (∃ m, getL f slots fun vs => appT tys (I m) vs fun i => i w) ∧
        ∀ m, AllL tys fun vs => ∀ w1, appT tys (I m) vs (fun i => i w1) →
          vcC cur c (setL (mask M f) slots vs) w1 fun e f' w' => match e with
            | .nrm => ∃ m', m' < m ∧ getL f' slots fun vs' => appT tys (I m') vs' fun i => i w'
            | e => K e f' w') False
  | _, .exit id, f, w, K => K (.brk id) f w
  | _, .ret, f, w, K => K .ret f w
  | _, _, _, _, _ => False
end

section
variable {P : Program} {T : Nat → TI} {fok : Nat → Bool} {n : Nat} {A : Ann}

def PostC (n : Nat) (c : Code) (K : Ex → E → World → Prop) (a : Act) : Exit → Act → World → Prop :=
  fun e a' w' => ∃ x f', e = x.to ∧ K x f' w' ∧ Rep n a' f' ∧ Agree (writes c) a a'

theorem vcC_sound (H : Tab P T fok) : ∀ (c : Code) (cur : Nat) {f : E} {w : World} {K : Ex → E → World → Prop} {a : Act}, Rep n a f → vcC P T fok n A cur c f w K → c.wp P (PostC n c K a) a w
  | .skip, cur, f, w, K, a, hr, h => wp_skip ⟨.nrm, f, rfl, h, hr, Agree.refl _ _⟩
  | .region id ops true, cur, f, w, K, a, hr, h => by
    refine wp_mono (vcDraw_sound H (id := id) hr (show vcDraw P T fok (A.nf id) n ops f w _ from h)) ?_
    rintro e a' w' ⟨rfl, f', h1, h2, h3⟩
    exact ⟨.nrm, f', rfl, h1, h2, h3⟩
  | .region id ops false, cur, f, w, K, a, hr, h => by
    refine wp_region_list ?_
    exact vcOps_sound H ops.toList hr (show vcOps P T fok n ops ops.toList f w _ from h) fun a' f' w' h1 h2 h3 => ⟨.nrm, f', rfl, h1, h2, h3⟩
  | .seq x y, cur, f, w, K, a, hr, h => by
    refine wp_seq ?_
    unfold vcC at h
    split at h
    · refine wp_mono (vcC_sound H x cur hr h) ?_
      rintro e a' w' ⟨ex, f', rfl, h1, h2, h3⟩
      cases ex with
      | nrm =>
        refine wp_mono (vcC_sound H y cur h2 h1) ?_
        rintro e a2 w2 ⟨ex, f2, rfl, k1, k2, k3⟩
        exact ⟨ex, f2, rfl, k1, k2, (h3.mono fun t => .inl).trans (k3.mono fun t => .inr)⟩
      | brk id => exact ⟨.brk id, f', rfl, h1, h2, h3.mono fun t => .inl⟩
      | ret => exact ⟨.ret, f', rfl, h1, h2, h3.mono fun t => .inl⟩
    · rename_i M slots tys _
      obtain ⟨hc, h⟩ := cond_true h
      simp only [Bool.and_eq_true, beq_iff_eq] at hc
      have hJ := h (curT tys fun vs w1 => vcC P T fok n A cur y (setL (mask M f) slots vs) w1 K) (by
        have key : ∀ vs, fitsL tys vs → ∀ w1, vcC P T fok n A cur y (setL (mask M f) slots vs) w1 K → appT tys (curT tys fun vs w1 => vcC P T fok n A cur y (setL (mask M f) slots vs) w1 K) vs fun j => j w1 :=
          fun vs hf w1 hh => cur_appT (bs := tys) hf hh
        exact AllL_of key)
      refine wp_mono (vcC_sound H x cur hr hJ) ?_
      rintro e a' w' ⟨ex, f', rfl, h1, h2, h3⟩
      cases ex with
      | nrm =>
        obtain ⟨vs, hv1, hv2, hv3⟩ := getL_spec h1
        have hy := appT_cur (by rw [hv2, hc.2]) hv1
        have hrep : Rep n a' (setL (mask M f) slots vs) := Rep.setL (Rep.mask hr h2 fun t ht => h3 t fun hw => by rw [cov_spec hc.1 hw] at ht; cases ht) fun i s v e1 e2 => h2.val s v (hv3 i s v e1 e2)
        refine wp_mono (vcC_sound H y cur hrep hy) ?_
        rintro e a2 w2 ⟨ex, f2, rfl, k1, k2, k3⟩
        exact ⟨ex, f2, rfl, k1, k2, (h3.mono fun t => .inl).trans (k3.mono fun t => .inr)⟩
      | brk id => exact ⟨.brk id, f', rfl, h1, h2, h3.mono fun t => .inl⟩
      | ret => exact ⟨.ret, f', rfl, h1, h2, h3.mono fun t => .inl⟩
  | .cond c x y, cur, f, w, K, a, hr, h => by
    unfold vcC at h
    obtain ⟨hk, h⟩ := cond_true h
    have he := hr.eval hk
    split at h
    · rename_i b hb
      rw [hb] at he
      cases b with
      | true =>
        refine wp_cond_true he (wp_mono (vcC_sound H x cur hr h) ?_)
        rintro e a' w' ⟨ex, f', rfl, h1, h2, h3⟩
        exact ⟨ex, f', rfl, h1, h2, h3.mono fun t => .inl⟩
      | false =>
        refine wp_cond_false he (wp_mono (vcC_sound H y cur hr h) ?_)
        rintro e a' w' ⟨ex, f', rfl, h1, h2, h3⟩
        exact ⟨ex, f', rfl, h1, h2, h3.mono fun t => .inr⟩
    · exact h.elim
  | .block id c, cur, f, w, K, a, hr, h => by
    refine wp_block (wp_mono (vcC_sound H c id hr (show vcC P T fok n A id c f w _ from h)) ?_)
    rintro e a' w' ⟨ex, f', rfl, h1, h2, h3⟩
    cases ex with
    | nrm => exact ⟨.nrm, f', rfl, h1, h2, h3⟩
    | ret => exact ⟨.ret, f', rfl, h1, h2, h3⟩
    | brk id' =>
      show (if id' = id then _ else _)
      by_cases hid : id' = id
      · rw [if_pos hid]
        have : Nat.beq id' id = true := by subst hid; simp
        simp only [this] at h1
        exact ⟨.nrm, f', rfl, h1, h2, h3⟩
      · rw [if_neg hid]
        have : Nat.beq id' id = false := by
          cases hb : Nat.beq id' id with
          | false => rfl
          | true => exact absurd (Nat.eq_of_beq_eq_true hb) hid
        simp only [this] at h1
        exact ⟨.brk id', f', rfl, h1, h2, h3⟩
  | .loop c, cur, f, w, K, a, hr, h => by
    unfold vcC at h
    split at h
    · exact h.elim
    · rename_i M slots tys _
      obtain ⟨hc, h⟩ := cond_true h
      simp only [Bool.and_eq_true, beq_iff_eq] at hc
      obtain ⟨I, ⟨m0, h0⟩, hround⟩ := h
      refine wp_loop_ghost (fun m a' w' => ∃ vs, fitsL tys vs ∧ Rep n a' (setL (mask M f) slots vs) ∧ (appT tys (I m) vs fun i => i w') ∧ Agree (writes c) a a') m0 ?_ ?_
      · obtain ⟨vs, hv1, hv2, hv3⟩ := getL_spec h0
        exact ⟨vs, (appT_spec hv1 (by rw [hv2, hc.2])).1, Rep.setL (Rep.mask hr hr fun t _ => rfl) fun i s v e1 e2 => hr.val s v (hv3 i s v e1 e2), hv1, Agree.refl _ _⟩
      · rintro m a1 w1 ⟨vs, hf, hrep, hI, hag⟩
        have hb := AllL.at_ (hround m) hf w1 hI
        refine wp_mono (vcC_sound H c cur hrep hb) ?_
        rintro e a' w' ⟨ex, f', rfl, h1, h2, h3⟩
        cases ex with
        | nrm =>
          obtain ⟨m', hm, h1⟩ := h1
          obtain ⟨vs', hv1, hv2, hv3⟩ := getL_spec h1
          refine ⟨m', hm, vs', (appT_spec hv1 (by rw [hv2, hc.2])).1, ?_, hv1, hag.trans h3⟩
          exact Rep.setL (Rep.mask hr h2 fun t ht => (hag.trans h3) t fun hw => by rw [cov_spec hc.1 hw] at ht; cases ht) fun i s v e1 e2 => h2.val s v (hv3 i s v e1 e2)
        | brk id => exact ⟨.brk id, f', rfl, h1, h2, hag.trans h3⟩
        | ret => exact ⟨.ret, f', rfl, h1, h2, hag.trans h3⟩
  | .exit id, cur, f, w, K, a, hr, h => wp_exit ⟨.brk id, f, rfl, h, hr, Agree.refl _ _⟩
  | .ret, cur, f, w, K, a, hr, h => wp_ret ⟨.ret, f, rfl, h, hr, Agree.refl _ _⟩
  | .rangeFunc .., _, _, _, _, _, _, h => False.elim h
  | .scope _, _, _, _, _, _, _, h => False.elim h
  | .label _, _, _, _, _, _, _, h => False.elim h
  | .goto _, _, _, _, _, _, _, h => False.elim h
  | .refuse _, _, _, _, _, _, _, h => False.elim h
end
end Go.Proofs.VC
