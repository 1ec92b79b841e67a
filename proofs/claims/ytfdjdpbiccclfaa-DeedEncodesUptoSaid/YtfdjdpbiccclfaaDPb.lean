/- What is read is written so (plain). -/
import Derived.Test.YtfdjdpbiccclfaaDPk
namespace Go.Proofs.Ytfdjdpbiccclfaa
open Go Go.RowKit Go.Wr
set_option maxHeartbeats 1000000

/-- The bytes from a to c. -/
def seg (b : List Nat) (a c : Nat) : List Nat := (b.drop a).take (c - a)
theorem seg_app {b : List Nat} {a m c : Nat} (h1 : a ≤ m) (h2 : m ≤ c) : seg b a c = seg b a m ++ seg b m c := by
  unfold seg
  rw [show c - a = (m - a) + (c - m) by omega, List.take_add, List.drop_drop, show a + (m - a) = m by omega]
theorem seg_self (b : List Nat) (a : Nat) : seg b a a = [] := by unfold seg; rw [Nat.sub_self]; rfl
theorem seg_one {b : List Nat} {a x : Nat} (h : b[a]? = some x) : seg b a (a + 1) = [x] := by
  obtain ⟨ha, rfl⟩ := List.getElem?_eq_some_iff.1 h
  unfold seg
  rw [show a + 1 - a = 1 by omega, List.drop_eq_getElem_cons ha]
  rfl
theorem pure_ok {α : Type} {x y : α} {b : List Nat} {a a' : Nat} (h : pPure x b a = .ok (y, a')) : y = x ∧ a' = a := by
  simp only [pPure, Except.ok.injEq, Prod.mk.injEq] at h
  exact ⟨h.1.symm, h.2.symm⟩

theorem byte_seg {b : List Nat} {a x a' : Nat} (h : pByte b a = .ok (x, a')) : seg b a a' = [x] ∧ a' = a + 1 := by
  obtain ⟨h1, rfl⟩ := pByte_ok.1 h
  exact ⟨seg_one h1, rfl⟩
section
variable {b : List Nat} (h256 : ∀ x ∈ b, x < 256)
include h256
theorem byte_lt {a x a' : Nat} (h : pByte b a = .ok (x, a')) : x < 256 := h256 x (List.mem_of_getElem? (pByte_ok.1 h).1)
theorem grp_seg {y : Nat} : ∀ (f k acc m x a' : Nat), pGrp y f k acc b m = .ok (x, a') → ∃ z, x = acc + z * 2 ^ (7 * k) ∧ seg b m a' = leb f z ∧ (0 < k → 0 < z) ∧ m ≤ a' := by
  intro f
  induction f with
  | zero => intro k acc m x a' h; cases h
  | succ f ih =>
    intro k acc m x a' h
    obtain ⟨g, n, h1, h2⟩ := pBind_ok.1 h
    obtain ⟨s1, rfl⟩ := byte_seg h1
    have hg := byte_lt h256 h1
    by_cases h3 : g < 128
    · rw [if_pos h3] at h2
      by_cases h4 : g = 0 ∧ 0 < k
      · rw [if_pos h4] at h2; cases h2
      · rw [if_neg h4] at h2
        obtain ⟨rfl, rfl⟩ := pure_ok h2
        refine ⟨g, by rw [Nat.mod_eq_of_lt h3], ?_, fun hk => by omega, by omega⟩
        rw [s1]
        unfold leb
        rw [if_pos h3]
    · rw [if_neg h3] at h2
      obtain ⟨z, e1, e2, e3, e4⟩ := ih (k + 1) _ (m + 1) x a' h2
      have hz := e3 (by omega)
      refine ⟨g % 128 + 128 * z, ?_, ?_, fun _ => by omega, by omega⟩
      · have h2 : (2 : Nat) ^ (7 * (k + 1)) = 128 * 2 ^ (7 * k) := by rw [show 7 * (k + 1) = 7 + 7 * k by omega, Nat.pow_add]
        rw [e1, h2, Nat.add_assoc, ← Nat.mul_assoc, ← Nat.add_mul, Nat.mul_comm z 128]
      · rw [seg_app (show m ≤ m + 1 by omega) e4, s1, e2]
        conv => rhs; unfold leb
        rw [if_neg (by omega), show (g % 128 + 128 * z) % 128 + 128 = g by omega, show (g % 128 + 128 * z) / 128 = z by omega]
        rfl
theorem num_seg {a x a' : Nat} (h : pNum b a = .ok (x, a')) : seg b a a' = leb 9 x ∧ a ≤ a' := by
  obtain ⟨z, e1, e2, _, e4⟩ := grp_seg h256 9 0 0 a x a' h
  simp only [Nat.zero_add, Nat.mul_zero, Nat.pow_zero, Nat.mul_one] at e1
  subst e1
  exact ⟨e2, e4⟩
theorem most_seg {a x a' high : Nat} {e : Int} (h : pMost high e b a = .ok (x, a')) : seg b a a' = leb 9 x ∧ a ≤ a' ∧ x ≤ high := by
  obtain ⟨h1, h2⟩ := pChk_ok.1 h
  obtain ⟨e1, e2⟩ := num_seg h256 h1
  exact ⟨e1, e2, by simpa using h2⟩
theorem sig_seg {a a' : Nat} {x e : Int} (h : pSig e b a = .ok (x, a')) : seg b a a' = leb 9 (sg x) ∧ a ≤ a' ∧ (-1099511627776 ≤ x ∧ x ≤ 1099511627776) := by
  obtain ⟨h1, h2⟩ := pChk_ok.1 h
  obtain ⟨n, h3, rfl⟩ := pMap_ok.1 h1
  obtain ⟨e1, e2⟩ := num_seg h256 h3
  rw [sg_unz]
  exact ⟨e1, e2, inB_iff.1 h2⟩
omit h256 in
theorem bnd_seg {a x a' high : Nat} {e : Int} (h : pBnd high e b a = .ok (x, a')) : seg b a a' = [x] ∧ a' = a + 1 ∧ x ≤ high := by
  obtain ⟨h1, h2⟩ := pChk_ok.1 h
  obtain ⟨e1, e2⟩ := byte_seg h1
  exact ⟨e1, e2, by simpa using h2⟩
theorem tag_seg {a a' : Nat} {t : Tg} {slot : Bool} (h : pTag slot b a = .ok (t, a')) : seg b a a' = tagB t slot ∧ a ≤ a' ∧ goodTag t (if slot = true then 255 else 0) = true ∧ (slot = true → t ≠ tz) := by
  obtain ⟨k, m, h1, h2⟩ := pBind_ok.1 h
  obtain ⟨s1, rfl, hk⟩ := bnd_seg h1
  by_cases hr : k = 5 ∨ k = 6
  · rw [if_pos hr] at h2
    obtain ⟨x, n, h3, h4⟩ := pBind_ok.1 h2
    obtain ⟨s2, rfl, hx⟩ := bnd_seg h3
    obtain ⟨rfl, rfl⟩ := pure_ok h4
    have hr' : (k : Int) = 5 ∨ (k : Int) = 6 := by omega
    refine ⟨?_, by omega, ?_, fun _ e => ?_⟩
    · rw [seg_app (show a ≤ a + 1 by omega) (show a + 1 ≤ a + 1 + 1 by omega), s1, s2]
      unfold tagB
      simp only
      rw [if_pos hr']
      rfl
    · rw [goodTag_iff]
      refine ⟨⟨by simp only; omega, by simp only; omega⟩, ⟨by simp only; omega, ?_⟩, by simp, ?_⟩
      · simp only; rw [if_pos hr']; omega
      · simp only; split <;> (try split) <;> omega
    · have : (k : Int) = 0 := congrArg Tg.k e
      omega
  · rw [if_neg hr] at h2
    have hr' : ¬ ((k : Int) = 5 ∨ (k : Int) = 6) := by omega
    by_cases hs : slot = true ∧ k = 0
    · obtain ⟨rfl, rfl⟩ := hs
      rw [if_pos ⟨rfl, rfl⟩] at h2
      obtain ⟨x, n, h3, h4⟩ := pBind_ok.1 h2
      obtain ⟨h5, h6⟩ := pChk_ok.1 h3
      obtain ⟨s2, rfl⟩ := byte_seg h5
      have hx := byte_lt h256 h5
      obtain ⟨rfl, rfl⟩ := pure_ok h4
      simp only [decide_eq_true_eq] at h6
      refine ⟨?_, by omega, ?_, fun _ e => ?_⟩
      · rw [seg_app (show a ≤ a + 1 by omega) (show a + 1 ≤ a + 1 + 1 by omega), s1, s2]
        rfl
      · rw [goodTag_iff]
        refine ⟨⟨by simp, by simp⟩, ⟨by simp, by simp⟩, by simp only; omega, ?_⟩
        simp only [if_true]
        simp
        omega
      · have : (x : Int) = 0 := congrArg Tg.m e
        omega
    · rw [if_neg hs] at h2
      obtain ⟨rfl, rfl⟩ := pure_ok h2
      refine ⟨?_, by omega, ?_, fun h e => ?_⟩
      · rw [s1]
        unfold tagB
        simp only
        rw [if_neg hr', if_neg (fun h => hs ⟨h.1, by omega⟩)]
        rfl
      · rw [goodTag_iff]
        refine ⟨⟨by simp only; omega, by simp only; omega⟩, ⟨by simp, ?_⟩, by simp, ?_⟩
        · simp only; rw [if_neg hr']; omega
        · simp only; split <;> (try split) <;> omega
      · have : (k : Int) = 0 := congrArg Tg.k e
        exact hs ⟨h, by omega⟩
theorem regs_seg : ∀ (n i : Nat) (f g : Nat → Tg) (a a' : Nat), pRegs n i f b a = .ok (g, a') →
    seg b a a' = (List.range' i n).flatMap (fun k => tagB (g k) false) ∧ a ≤ a' ∧ (∀ k, i ≤ k → k < i + n → goodTag (g k) 0 = true) ∧ ∀ k, ¬ (i ≤ k ∧ k < i + n) → g k = f k := by
  intro n
  induction n with
  | zero =>
    intro i f g a a' h
    obtain ⟨rfl, rfl⟩ := pure_ok h
    exact ⟨seg_self _ _, Nat.le_refl _, fun k _ _ => by omega, fun _ _ => rfl⟩
  | succ n ih =>
    intro i f g a a' h
    obtain ⟨t, m, h1, h2⟩ := pBind_ok.1 h
    obtain ⟨s1, l1, g1, _⟩ := tag_seg h256 h1
    obtain ⟨s2, l2, g2, g3⟩ := ih (i + 1) _ g m a' h2
    have hgi : g i = t := by rw [g3 i (by omega)]; simp [putT]
    refine ⟨?_, by omega, fun k k1 k2 => ?_, fun k hk => ?_⟩
    · rw [seg_app l1 l2, s1, s2, List.range'_succ, List.flatMap_cons, hgi]
    · by_cases hk : k = i
      · subst hk
        rw [hgi]
        exact g1
      · exact g2 k (by omega) (by omega)
    · rw [g3 k (by omega)]
      have : k ≠ i := by omega
      simp [putT, this]
omit h256 in
theorem SB_skip (F : Nat → Tg) : ∀ (n j : Nat), j + n ≤ 32 → (∀ i, j ≤ i → i < j + n → F (10 + i) = tz) → SB F j = SB F (j + n) ∧ CN F j = CN F (j + n) := by
  intro n
  induction n with
  | zero => intro j _ _; exact ⟨rfl, rfl⟩
  | succ n ih =>
    intro j h1 h2
    have hz := h2 j (by omega) (by omega)
    obtain ⟨e1, e2⟩ := ih (j + 1) (by omega) (fun i a c => h2 i (by omega) (by omega))
    rw [SB_step F (by omega), CN_step F (by omega), if_pos hz, e1, e2, show j + 1 + n = j + (n + 1) by omega]
    unfold slotB
    rw [if_pos hz]
    exact ⟨rfl, Nat.zero_add _⟩
theorem slots_seg : ∀ (n j : Nat) (f g : Nat → Tg) (a a' : Nat), j ≤ 32 → pSlots n ((j : Int) - 1) f b a = .ok (g, a') → (∀ i, j ≤ i → i < 32 → f (10 + i) = tz) →
    seg b a a' = SB g j ∧ n = CN g j ∧ a ≤ a' ∧ (∀ i, j ≤ i → i < 32 → goodTag (g (10 + i)) 255 = true) ∧ ∀ k, ¬ (10 + j ≤ k ∧ k < 42) → g k = f k := by
  intro n
  induction n with
  | zero =>
    intro j f g a a' hj h hz
    obtain ⟨rfl, rfl⟩ := pure_ok h
    obtain ⟨e1, e2⟩ := SB_skip g (32 - j) j (by omega) (fun i a c => hz i a (by omega))
    rw [show j + (32 - j) = 32 by omega] at e1 e2
    refine ⟨by rw [seg_self, e1]; rfl, by rw [e2]; rfl, Nat.le_refl _, fun i a c => ?_, fun _ _ => rfl⟩
    rw [hz i a c]
    rfl
  | succ n ih =>
    intro j f g a a' hj h hz
    obtain ⟨i, m, h1, h2⟩ := pBind_ok.1 h
    obtain ⟨h3, h4⟩ := pChk_ok.1 h1
    obtain ⟨s1, rfl, hi⟩ := bnd_seg h3
    simp only [decide_eq_true_eq] at h4
    obtain ⟨t, m2, h5, h6⟩ := pBind_ok.1 h2
    obtain ⟨s2, l2, g2, ht⟩ := tag_seg h256 h5
    have hcast : (i : Int) = ((i + 1 : Nat) : Int) - 1 := by omega
    rw [hcast] at h6
    obtain ⟨s3, hn, l3, g3, g4⟩ := ih (i + 1) _ g m2 a' (by omega) h6 (fun i' a c => by
      have : 10 + i' ≠ 10 + i := by omega
      simp only [putT, this, if_false]
      exact hz i' (by omega) c)
    have hgi : g (10 + i) = t := by rw [g4 _ (by omega)]; simp [putT]
    have hgz : ∀ i', j ≤ i' → i' < i → g (10 + i') = tz := fun i' a c => by
      rw [g4 _ (by omega)]
      have : 10 + i' ≠ 10 + i := by omega
      simp only [putT, this, if_false]
      exact hz i' a (by omega)
    obtain ⟨e1, e2⟩ := SB_skip g (i - j) j (by omega) (fun i' a c => hgz i' a (by omega))
    rw [show j + (i - j) = i by omega] at e1 e2
    have htz : ¬ g (10 + i) = tz := by rw [hgi]; exact ht rfl
    refine ⟨?_, ?_, by omega, fun i' a c => ?_, fun k hk => ?_⟩
    · rw [e1, SB_step g (by omega)]
      unfold slotB
      rw [if_neg htz, hgi, seg_app (show a ≤ a + 1 by omega) (show a + 1 ≤ a' by omega), seg_app l2 l3, s1, s2, s3]
      rfl
    · rw [e2, CN_step g (by omega), if_neg htz]
      omega
    · by_cases c1 : i' = i
      · subst c1
        rw [hgi]
        exact g2
      · by_cases c2 : i' < i
        · rw [hgz i' a c2]; rfl
        · exact g3 i' (by omega) c
    · rw [g4 k (by omega)]
      have : k ≠ 10 + i := by omega
      simp [putT, this]
theorem con_seg {a a' : Nat} {x : C3} {prev : Option C3} (h : pCon prev b a = .ok (x, a')) : seg b a a' = conB x ∧ a ≤ a' ∧ goodCon x = true ∧ ∀ y, prev = some y → rises y x = true := by
  obtain ⟨⟨i, j⟩, m, h1, h2⟩ := pBind_ok.1 h
  obtain ⟨h3, h4⟩ := pChk_ok.1 h1
  obtain ⟨i', m1, h5, h6⟩ := pBind_ok.1 h3
  obtain ⟨j', h7, h8⟩ := pMap_ok.1 h6
  obtain ⟨h9, h10⟩ := pChk_ok.1 h7
  obtain ⟨c, h11, rfl⟩ := pMap_ok.1 h2
  simp only [Prod.mk.injEq] at h8
  obtain ⟨rfl, rfl⟩ := h8
  obtain ⟨s1, rfl, hi⟩ := bnd_seg h5
  obtain ⟨s2, rfl, hj⟩ := bnd_seg h9
  obtain ⟨s3, l3, hc⟩ := sig_seg h256 h11
  simp only [decide_eq_true_eq] at h10
  refine ⟨?_, by omega, ?_, fun y hy => ?_⟩
  · rw [seg_app (show a ≤ a + 1 by omega) (show a + 1 ≤ a' by omega), seg_app (show a + 1 ≤ a + 1 + 1 by omega) l3, s1, s2, s3]
    rfl
  · rw [goodCon_iff]
    refine ⟨⟨by simp only; omega, by simp only; omega⟩, ⟨by simp only; omega, by simp only; omega⟩, by simp only; omega, hc⟩
  · subst hy
    exact h4
theorem cons_seg : ∀ (n : Nat) (l m : List C3) (a a' : Nat), pCons n l b a = .ok (m, a') → ∃ r, m = l ++ r ∧ r.length = n ∧ seg b a a' = r.flatMap conB ∧ a ≤ a' ∧ Rise l.getLast? r := by
  intro n
  induction n with
  | zero =>
    intro l m a a' h
    obtain ⟨rfl, rfl⟩ := pure_ok h
    exact ⟨[], by simp, rfl, seg_self _ _, Nat.le_refl _, trivial⟩
  | succ n ih =>
    intro l m a a' h
    obtain ⟨x, m1, h1, h2⟩ := pBind_ok.1 h
    obtain ⟨s1, l1, hg, hr⟩ := con_seg h256 h1
    obtain ⟨r, rfl, hl, s2, l2, hR⟩ := ih _ m m1 a' h2
    refine ⟨x :: r, by simp, by simp [hl], ?_, by omega, hg, hr, ?_⟩
    · rw [seg_app l1 l2, s1, s2]; rfl
    · rw [List.getLast?_append] at hR
      exact hR
theorem claim_seg {a a' : Nat} {c : Cl} (h : pClaim b a = .ok (c, a')) : seg b a a' = claimB c.d c.f c.l ∧ a ≤ a' ∧ ClOk c.d c.f c.l := by
  obtain ⟨live, m, h1, h2⟩ := pBind_ok.1 h
  obtain ⟨s1, rfl, hl⟩ := bnd_seg h1
  by_cases h0 : live = 0
  · subst h0
    rw [if_pos rfl] at h2
    obtain ⟨rfl, rfl⟩ := pure_ok h2
    exact ⟨s1, by omega, fun _ => ⟨fun i _ => rfl, rfl⟩, fun i _ => rfl, fun i _ => rfl, trivial⟩
  · rw [if_neg h0] at h2
    obtain ⟨f, m1, h3, h4⟩ := pBind_ok.1 h2
    obtain ⟨s2, l2, g2, g3⟩ := regs_seg h256 10 0 f0 f _ m1 h3
    obtain ⟨n, m2, h5, h6⟩ := pBind_ok.1 h4
    obtain ⟨s3, l3, hn⟩ := most_seg h256 h5
    obtain ⟨g, m3, h7, h8⟩ := pBind_ok.1 h6
    obtain ⟨s4, hcn, l4, g4, g5⟩ := slots_seg h256 n 0 f g m2 m3 (by omega) h7 (fun i _ _ => by rw [g3 _ (by omega)]; rfl)
    obtain ⟨n2, m4, h9, h10⟩ := pBind_ok.1 h8
    obtain ⟨s5, l5, hn2⟩ := most_seg h256 h9
    obtain ⟨l, h11, rfl⟩ := pMap_ok.1 h10
    obtain ⟨r, hr, hrl, s6, l6, hR⟩ := cons_seg h256 n2 [] l m4 a' h11
    rw [List.nil_append] at hr
    subst hr
    have hl1 : live = 1 := by omega
    subst hl1
    refine ⟨?_, by omega, ?_⟩
    · have e : claimB false g l = [1] ++ ((List.range' 0 10).flatMap (fun k => tagB (g k) false) ++ (leb 9 (CN g 0) ++ (SB g 0 ++ (leb 9 l.length ++ l.flatMap conB)))) := by
        unfold claimB regB toldN slotsB consB CN SB
        rw [List.range_eq_range', List.range_eq_range', List.take_length]
        rfl
      have hreg : (List.range' 0 10).flatMap (fun k => tagB (f k) false) = (List.range' 0 10).flatMap (fun k => tagB (g k) false) := by
        have hh : ∀ k ∈ List.range' 0 10, tagB (f k) false = tagB (g k) false := fun k hk => by
          rw [List.mem_range'_1] at hk
          rw [g5 k (by omega)]
        simp only [List.flatMap_def]
        rw [List.map_congr_left hh]
      show seg b a a' = claimB false g l
      rw [e, ← hreg, ← s2, ← hcn, ← s3, ← s4, hrl, ← s5, ← s6, ← s1, ← seg_app l5 l6, ← seg_app l4 (by omega), ← seg_app l3 (by omega), ← seg_app l2 (by omega), ← seg_app (by omega) (by omega)]
    · refine ⟨(fun e => by cases e), fun i hi => ?_, fun i hi => g4 i (by omega) hi, hR⟩
      show goodTag (g i) 0 = true
      rw [g5 i (by omega)]
      exact g2 i (by omega) (by omega)
theorem loop_seg {a a' : Nat} {x : Lp} (h : pLoop b a = .ok (x, a')) : seg b a a' = loopB x ∧ a ≤ a' ∧ goodLoop x = true := by
  obtain ⟨h1, m1, e1, r1⟩ := pBind_ok.1 h
  obtain ⟨h2, m2, e2, r2⟩ := pBind_ok.1 r1
  obtain ⟨h3, m3, e3, r3⟩ := pBind_ok.1 r2
  obtain ⟨h4, m4, e4, r4⟩ := pBind_ok.1 r3
  obtain ⟨h5, e5, rfl⟩ := pMap_ok.1 r4
  obtain ⟨s1, l1, b1⟩ := most_seg h256 e1
  obtain ⟨s2, l2, b2⟩ := most_seg h256 e2
  obtain ⟨s3, l3, b3⟩ := most_seg h256 e3
  obtain ⟨s4, l4, b4⟩ := sig_seg h256 e4
  obtain ⟨s5, l5, b5⟩ := most_seg h256 e5
  refine ⟨?_, by omega, ?_⟩
  · unfold loopB
    simp only [Int.toNat_natCast]
    rw [← s1, ← s2, ← s3, ← s4, ← s5, ← seg_app l4 l5, ← seg_app l3 (by omega), ← seg_app l2 (by omega), ← seg_app l1 (by omega)]
  · rw [goodLoop_iff]
    simp only
    omega
theorem loops_seg : ∀ (n : Nat) (l m : List Lp) (a a' : Nat), pLoops n l b a = .ok (m, a') → ∃ r, m = l ++ r ∧ r.length = n ∧ seg b a a' = loopsB r ∧ a ≤ a' ∧ ∀ x ∈ r, goodLoop x = true := by
  intro n
  induction n with
  | zero =>
    intro l m a a' h
    obtain ⟨rfl, rfl⟩ := pure_ok h
    exact ⟨[], by simp, rfl, seg_self _ _, Nat.le_refl _, fun x hx => by cases hx⟩
  | succ n ih =>
    intro l m a a' h
    obtain ⟨x, m1, h1, h2⟩ := pBind_ok.1 h
    obtain ⟨s1, l1, hg⟩ := loop_seg h256 h1
    obtain ⟨r, rfl, hl, s2, l2, hR⟩ := ih _ m m1 a' h2
    refine ⟨x :: r, by simp, by simp [hl], ?_, by omega, fun y hy => ?_⟩
    · rw [seg_app l1 l2, s1, s2]; rfl
    · rcases List.mem_cons.1 hy with rfl | hy
      · exact hg
      · exact hR y hy
theorem claims_seg : ∀ (n : Nat) (l m : List Cl) (a a' : Nat), pClaims n l b a = .ok (m, a') → ∃ r, m = l ++ r ∧ r.length = n ∧ seg b a a' = claimsB r ∧ a ≤ a' ∧ ∀ x ∈ r, ClOk x.d x.f x.l := by
  intro n
  induction n with
  | zero =>
    intro l m a a' h
    obtain ⟨rfl, rfl⟩ := pure_ok h
    exact ⟨[], by simp, rfl, seg_self _ _, Nat.le_refl _, fun x hx => by cases hx⟩
  | succ n ih =>
    intro l m a a' h
    obtain ⟨x, m1, h1, h2⟩ := pBind_ok.1 h
    obtain ⟨s1, l1, hg⟩ := claim_seg h256 h1
    obtain ⟨r, rfl, hl, s2, l2, hR⟩ := ih _ m m1 a' h2
    refine ⟨x :: r, by simp, by simp [hl], ?_, by omega, fun y hy => ?_⟩
    · rw [seg_app l1 l2, s1, s2]; rfl
    · rcases List.mem_cons.1 hy with rfl | hy
      · exact hg
      · exact hR y hy
theorem body_seg {a a' : Nat} {d : Dd} (h : pBody b a = .ok (d, a')) : seg b a a' = bodyB d ∧ a ≤ a' ∧ plainD d = 0 := by
  obtain ⟨n1, m1, e1, r1⟩ := pBind_ok.1 h
  obtain ⟨ls, m2, e2, r2⟩ := pBind_ok.1 r1
  obtain ⟨n2, m3, e3, r3⟩ := pBind_ok.1 r2
  obtain ⟨cs, e4, rfl⟩ := pMap_ok.1 r3
  obtain ⟨s1, l1, b1⟩ := most_seg h256 e1
  obtain ⟨r, hr, hrl, s2, l2, g2⟩ := loops_seg h256 _ _ _ _ _ e2
  obtain ⟨s3, l3, b3⟩ := most_seg h256 e3
  obtain ⟨q, hq, hql, s4, l4, g4⟩ := claims_seg h256 _ _ _ _ _ e4
  rw [List.nil_append] at hr hq
  subst hr hq
  refine ⟨?_, by omega, plainD_of (by simp only; omega) (by simp only; omega) g2 (fun x hx => goodClaim_iff.2 (g4 x hx))⟩
  unfold bodyB
  simp only
  rw [hrl, hql, ← s1, ← s2, ← s3, ← s4, ← seg_app l3 l4, ← seg_app l2 (by omega), ← seg_app l1 (by omega)]
/-- What is read is written of just these bytes. -/
theorem enc_dec (h0 : (decD b).2.2 = 0) : encE (decD b).1 = 0 ∧ encD (decD b).1 = b ∧ (decD b).2.1 = 0 := by
  unfold decD at h0 ⊢
  by_cases hl : 4194304 < b.length
  · rw [if_pos hl] at h0; cases h0
  rw [if_neg hl] at h0 ⊢
  unfold pDeed at h0 ⊢
  by_cases h4 : b.length < 4
  · rw [if_pos h4] at h0; cases h0
  rw [if_neg h4] at h0 ⊢
  by_cases hm : b.take 4 ≠ [87, 65, 82, 49]
  · rw [if_pos hm] at h0; cases h0
  rw [if_neg hm] at h0 ⊢
  cases hb : pBody b 4 with
  | error y =>
    exfalso
    obtain ⟨y, e⟩ := y
    rw [hb] at h0
    exact (Fine.body.place b 4 y e (by omega) hb).2 h0
  | ok v =>
    obtain ⟨d, a⟩ := v
    rw [hb] at h0
    simp only at h0 ⊢
    by_cases ha : a < b.length
    · rw [if_pos ha] at h0; cases h0
    rw [if_neg ha]
    have hf := Fine.body.fwd b 4 d a (by omega) hb
    obtain ⟨s1, l1, hp⟩ := body_seg h256 hb
    have hab : a = b.length := by omega
    have e : deedB d = b := by
      unfold deedB
      rw [← s1, show [87, 65, 82, 49] = b.take 4 from (Classical.not_not.1 hm).symm]
      unfold seg
      have ht : (b.drop 4).take (a - 4) = b.drop 4 := List.take_of_length_le (by rw [List.length_drop]; omega)
      rw [ht, List.take_append_drop]
    have e0 : encE d = 0 := by
      unfold encE
      rw [if_pos hp, e, if_neg hl]
    refine ⟨e0, ?_, rfl⟩
    show encD d = b
    unfold encD
    rw [if_pos e0, e]
end
end Go.Proofs.Ytfdjdpbiccclfaa
