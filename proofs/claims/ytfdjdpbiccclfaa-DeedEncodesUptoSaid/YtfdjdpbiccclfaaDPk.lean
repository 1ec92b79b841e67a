/- What is written is read back (plain). -/
import Derived.Test.YtfdjdpbiccclfaaDFine
import Derived.Test.YtfdjdpbiccclfaaDEnc
import Derived.Test.YtfdjdpbiccclfaaDSd
namespace Go.Proofs.Ytfdjdpbiccclfaa
open Go Go.RowKit Go.Wr
set_option maxHeartbeats 1000000

section
variable {α β : Type}
/-- Wherever these bytes stand, p reads x out of them, and no further. -/
def Reads (p : Ps α) (u : List Nat) (x : α) : Prop := ∀ pre post : List Nat, p (pre ++ (u ++ post)) pre.length = .ok (x, pre.length + u.length)
theorem Reads.pure (x : α) : Reads (pPure x) [] x := fun _ _ => rfl
theorem Reads.bind {p : Ps α} {q : α → Ps β} {u v : List Nat} {x : α} {y : β} (hp : Reads p u x) (hq : Reads (q x) v y) : Reads (pBind p q) (u ++ v) y := fun pre post => by
  refine pBind_ok.2 ⟨x, pre.length + u.length, ?_, ?_⟩
  · have := hp pre (v ++ post)
    rw [List.append_assoc]
    exact this
  · have := hq (pre ++ u) post
    simp only [List.append_assoc, List.length_append] at this ⊢
    rw [this, Nat.add_assoc]
theorem Reads.chk {p : Ps α} {u : List Nat} {x : α} (hp : Reads p u x) {c : α → Bool} (e : Int) (hc : c x = true) : Reads (pChk c e p) u x := fun pre post => pChk_ok.2 ⟨hp pre post, hc⟩
theorem Reads.map {p : Ps α} {u : List Nat} {x : α} (f : α → β) (hp : Reads p u x) : Reads (pMap f p) u (f x) := fun pre post => pMap_ok.2 ⟨x, hp pre post, rfl⟩
theorem Reads.byte (n : Nat) : Reads pByte [n] n := fun pre post => pByte_ok.2 ⟨by simp, rfl⟩
theorem Reads.eq {p : Ps α} {u v : List Nat} {x : α} (h : Reads p u x) (e : u = v) : Reads p v x := e ▸ h
end
theorem reads_grp (y : Nat) : ∀ (f k acc x : Nat), x < 128 ^ f → (0 < k → 0 < x) → 0 < f → Reads (pGrp y f k acc) (leb f x) (acc + x * 2 ^ (7 * k)) := by
  intro f
  induction f with
  | zero => intro k acc x _ _ h; omega
  | succ f ih =>
    intro k acc x hx hk _
    unfold leb pGrp
    by_cases h1 : x < 128
    · rw [if_pos h1]
      have e : Reads (pBind pByte fun g => if g < 128 then (if g = 0 ∧ 0 < k then pFail y 110 else pPure (acc + g % 128 * 2 ^ (7 * k))) else pGrp y f (k + 1) (acc + g % 128 * 2 ^ (7 * k))) ([x] ++ []) (acc + x * 2 ^ (7 * k)) := by
        refine (Reads.byte x).bind ?_
        rw [if_pos h1, if_neg (by omega), Nat.mod_eq_of_lt h1]
        exact Reads.pure _
      exact e
    · rw [if_neg h1]
      have hf : 0 < f := by
        rcases Nat.eq_zero_or_pos f with rfl | h
        · simp at hx; omega
        · exact h
      have hx2 : x / 128 < 128 ^ f := by
        rw [Nat.pow_succ] at hx
        exact Nat.div_lt_of_lt_mul (by omega)
      have e := ih (k + 1) (acc + x % 128 * 2 ^ (7 * k)) (x / 128) hx2 (fun _ => by omega) hf
      have ev : acc + x % 128 * 2 ^ (7 * k) + x / 128 * 2 ^ (7 * (k + 1)) = acc + x * 2 ^ (7 * k) := by
        have h2 : (2 : Nat) ^ (7 * (k + 1)) = 128 * 2 ^ (7 * k) := by rw [show 7 * (k + 1) = 7 + 7 * k by omega, Nat.pow_add]
        rw [h2, Nat.add_assoc, ← Nat.mul_assoc, ← Nat.add_mul]
        congr 2
        omega
      rw [ev] at e
      refine Reads.eq (u := [x % 128 + 128] ++ leb f (x / 128)) ((Reads.byte _).bind ?_) rfl
      rw [if_neg (by omega), show (x % 128 + 128) % 128 = x % 128 by omega]
      exact e
theorem Reads.num {x : Nat} (h : x < 9223372036854775808) : Reads pNum (leb 9 x) x := fun pre post => by
  have := reads_grp pre.length 9 0 0 x (by simpa using h) (by omega) (by omega) pre post
  simp only [Nat.zero_add, Nat.mul_zero, Nat.pow_zero, Nat.mul_one] at this
  exact this
theorem Reads.most {x high : Nat} (e : Int) (h : x ≤ high) (hh : high < 9223372036854775808) : Reads (pMost high e) (leb 9 x) x := (Reads.num (by omega)).chk e (by simpa using h)
theorem unz_sg (x : Int) : unz (sg x) = x := by
  unfold unz sg
  split <;> split <;> omega
theorem sg_unz (x : Nat) : sg (unz x) = x := by
  unfold unz sg
  split <;> split <;> omega
theorem Reads.sig {x : Int} (e : Int) (h : inB x (-1099511627776) 1099511627776 = true) : Reads (pSig e) (leb 9 (sg x)) x := by
  have hs : sg x < 9223372036854775808 := by
    rw [inB_iff] at h
    unfold sg
    split <;> omega
  have h2 := (Reads.num hs).map unz
  rw [unz_sg] at h2
  exact h2.chk e h
theorem Reads.bnd {x high : Nat} (e : Int) (h : x ≤ high) : Reads (pBnd high e) [x] x := (Reads.byte x).chk e (by simpa using h)
theorem Reads.tag {t : Tg} {slot : Bool} (h : goodTag t (if slot = true then 255 else 0) = true) (hs : slot = true → t ≠ tz) : Reads (pTag slot) (tagB t slot) t := by
  obtain ⟨k, tt, m⟩ := t
  rw [goodTag_iff] at h
  obtain ⟨⟨k0, k1⟩, ⟨t0, t1⟩, m0, m1⟩ := h
  simp only at k0 k1 t0 t1 m0 m1
  obtain ⟨k, rfl⟩ := Int.eq_ofNat_of_zero_le k0
  obtain ⟨tt, rfl⟩ := Int.eq_ofNat_of_zero_le t0
  obtain ⟨m, rfl⟩ := Int.eq_ofNat_of_zero_le m0
  unfold tagB pTag
  simp only [Int.toNat_natCast]
  refine Reads.eq (u := [k] ++ (if (k : Int) = 5 ∨ (k : Int) = 6 then [tt] else if slot = true ∧ (k : Int) = 0 then [m] else [])) ((Reads.bnd 90 (by omega)).bind ?_) rfl
  by_cases hr : k = 5 ∨ k = 6
  · have hr' : (k : Int) = 5 ∨ (k : Int) = 6 := by omega
    rw [if_pos hr'] at t1
    rw [if_neg (by omega)] at m1
    rw [if_pos hr, if_pos hr']
    have hm : m = 0 := by omega
    subst hm
    exact Reads.eq (u := [tt] ++ []) ((Reads.bnd 90 (by omega)).bind (Reads.pure _)) rfl
  · have hr' : ¬ ((k : Int) = 5 ∨ (k : Int) = 6) := by omega
    rw [if_neg hr'] at t1
    have ht : tt = 0 := by omega
    subst ht
    rw [if_neg hr, if_neg hr']
    by_cases hk : k = 0
    · subst hk
      cases slot with
      | true =>
        rw [if_pos ⟨rfl, rfl⟩, if_pos ⟨rfl, rfl⟩]
        have hm0 : m ≠ 0 := by
          rintro rfl
          exact hs rfl rfl
        exact Reads.eq (u := [m] ++ []) (((Reads.byte m).chk 90 (by simpa using hm0)).bind (Reads.pure _)) rfl
      | false =>
        simp only [Bool.false_eq_true, false_and, if_false] at m1 ⊢
        have hm : m = 0 := by simp at m1; omega
        subst hm
        exact Reads.pure _
    · have hk' : ¬ (k : Int) = 0 := by omega
      rw [if_neg hk'] at m1
      have hm : m = 0 := by omega
      subst hm
      rw [if_neg (by omega), if_neg (by omega)]
      exact Reads.pure _
theorem reads_regs (F : Nat → Tg) : ∀ (n i : Nat) (f : Nat → Tg), (∀ k, i ≤ k → k < i + n → goodTag (F k) 0 = true) → ∃ g, Reads (pRegs n i f) ((List.range' i n).flatMap fun k => tagB (F k) false) g ∧ ∀ k, g k = if i ≤ k ∧ k < i + n then F k else f k := by
  intro n
  induction n with
  | zero => intro i f _; exact ⟨f, Reads.pure f, fun k => by rw [if_neg (by omega)]⟩
  | succ n ih =>
    intro i f h
    obtain ⟨g, h1, h2⟩ := ih (i + 1) (putT f i (F i)) (fun k a b => h k (by omega) (by omega))
    refine ⟨g, ?_, fun k => ?_⟩
    · rw [List.range'_succ, List.flatMap_cons]
      exact (Reads.tag (slot := false) (h i (by omega) (by omega)) (fun e => by cases e)).bind h1
    · rw [h2 k]
      by_cases hk : k = i
      · subst hk
        rw [if_neg (by omega), if_pos (by omega)]
        simp [putT]
      · by_cases h3 : i + 1 ≤ k ∧ k < i + 1 + n
        · rw [if_pos h3, if_pos (by omega)]
        · rw [if_neg h3, if_neg (by omega)]
          simp [putT, hk]
/-- The slots from j on: their bytes, how many are told. -/
def SB (F : Nat → Tg) (j : Nat) : List Nat := (List.range' j (32 - j)).flatMap (slotB F)
def CN (F : Nat → Tg) (j : Nat) : Nat := ((List.range' j (32 - j)).filter fun i => decide (F (10 + i) ≠ tz)).length
theorem SB_step (F : Nat → Tg) {j : Nat} (h : j < 32) : SB F j = slotB F j ++ SB F (j + 1) := by
  unfold SB
  rw [show 32 - j = (32 - (j + 1)) + 1 by omega, List.range'_succ, List.flatMap_cons]
theorem CN_step (F : Nat → Tg) {j : Nat} (h : j < 32) : CN F j = (if F (10 + j) = tz then 0 else 1) + CN F (j + 1) := by
  unfold CN
  rw [show 32 - j = (32 - (j + 1)) + 1 by omega, List.range'_succ]
  by_cases hz : F (10 + j) = tz
  · rw [if_pos hz, List.filter_cons_of_neg (by simpa using hz)]; omega
  · rw [if_neg hz, List.filter_cons_of_pos (by simpa using hz)]; simp; omega
theorem reads_slots (F : Nat → Tg) (h : ∀ i, i < 32 → goodTag (F (10 + i)) 255 = true) : ∀ (n j : Nat) (last : Int) (f : Nat → Tg), n + j = 32 → last < j → ∃ g, Reads (pSlots (CN F j) last f) (SB F j) g ∧ ∀ k, g k = if 10 + j ≤ k ∧ k < 42 ∧ F k ≠ tz then F k else f k := by
  intro n
  induction n with
  | zero =>
    intro j last f hj _
    obtain rfl : j = 32 := by omega
    exact ⟨f, Reads.pure f, fun k => by rw [if_neg (by omega)]⟩
  | succ n ih =>
    intro j last f hj hl
    rw [SB_step F (by omega), CN_step F (by omega)]
    by_cases hz : F (10 + j) = tz
    · obtain ⟨g, h1, h2⟩ := ih (j + 1) last f (by omega) (by omega)
      refine ⟨g, ?_, fun k => ?_⟩
      · rw [if_pos hz, Nat.zero_add]
        unfold slotB
        rw [if_pos hz]
        exact h1
      · rw [h2 k]
        by_cases hk : 10 + j ≤ k ∧ k < 42 ∧ F k ≠ tz
        · have : k ≠ 10 + j := by rintro rfl; exact hk.2.2 hz
          rw [if_pos hk, if_pos ⟨by omega, hk.2⟩]
        · rw [if_neg hk, if_neg (fun h => hk ⟨by omega, h.2⟩)]
    · obtain ⟨g, h1, h2⟩ := ih (j + 1) j (putT f (10 + j) (F (10 + j))) (by omega) (by omega)
      refine ⟨g, ?_, fun k => ?_⟩
      · rw [if_neg hz, Nat.add_comm]
        unfold slotB
        rw [if_neg hz]
        refine Reads.eq (u := [j] ++ (tagB (F (10 + j)) true ++ SB F (j + 1))) ?_ (by simp)
        refine ((Reads.bnd 90 (by omega)).chk 111 (by simpa using hl)).bind ?_
        exact (Reads.tag (slot := true) (h j (by omega)) (fun _ => hz)).bind h1
      · rw [h2 k]
        by_cases hk : k = 10 + j
        · subst hk
          rw [if_neg (by omega), if_pos ⟨by omega, by omega, hz⟩]
          simp [putT]
        · by_cases h3 : 10 + (j + 1) ≤ k ∧ k < 42 ∧ F k ≠ tz
          · rw [if_pos h3, if_pos ⟨by omega, h3.2⟩]
          · rw [if_neg h3, if_neg (fun h => h3 ⟨by omega, h.2⟩)]
            simp [putT, hk]
theorem rises_cut (y : C3) (i j c : Int) : rises y ⟨i, j, c⟩ = rises y ⟨i, j, 0⟩ := rfl
theorem Reads.con {x : C3} {prev : Option C3} (h : goodCon x = true) (hp : ∀ y, prev = some y → rises y x = true) : Reads (pCon prev) (conB x) x := by
  obtain ⟨i, j, c⟩ := x
  have hg := goodCon_iff.1 h
  simp only at hg
  obtain ⟨⟨i0, i1⟩, ⟨j0, j1⟩, hne, hc⟩ := hg
  obtain ⟨i, rfl⟩ := Int.eq_ofNat_of_zero_le i0
  obtain ⟨j, rfl⟩ := Int.eq_ofNat_of_zero_le j0
  unfold conB pCon pPair
  simp only [Int.toNat_natCast]
  have h1 : Reads (pBind (pBnd 59 91) fun i => pMap (fun j => (i, j)) (pChk (fun j => decide (j ≠ i)) 91 (pBnd 59 91))) ([i] ++ [j]) (i, j) :=
    (Reads.bnd 91 (by omega)).bind (((Reads.bnd 91 (by omega)).chk 91 (by simp only [decide_eq_true_eq]; omega)).map _)
  have h2 := h1.chk (c := ahd prev) 111 (by
    cases prev with
    | none => rfl
    | some y => have := hp y rfl; rw [rises_cut] at this; exact this)
  have h3 : Reads (pMap (fun c => (⟨(i : Int), (j : Int), c⟩ : C3)) (pSig 91)) (leb 9 (sg c)) ⟨i, j, c⟩ := (Reads.sig 91 (inB_iff.2 hc)).map _
  exact Reads.bind (q := fun x : Nat × Nat => pMap (fun c => (⟨(x.1 : Int), (x.2 : Int), c⟩ : C3)) (pSig 91)) h2 h3
theorem reads_cons : ∀ (m l : List C3), Rise l.getLast? m → Reads (pCons m.length l) (m.flatMap conB) (l ++ m) := by
  intro m
  induction m with
  | nil => intro l _; rw [List.append_nil]; exact Reads.pure l
  | cons x m ih =>
    intro l h
    obtain ⟨h1, h2, h3⟩ := h
    have h4 := ih (l ++ [x]) (by rw [List.getLast?_append]; exact h3)
    rw [List.append_assoc] at h4
    exact (Reads.con h1 h2).bind h4
theorem Reads.claim {d : Bool} {f : Nat → Tg} {l : List C3} (h : ClOk d f l) : ∃ g, Reads pClaim (claimB d f l) ⟨d, g, l⟩ ∧ ∀ k, k < 42 → g k = f k := by
  cases d with
  | true =>
    obtain ⟨hz, rfl⟩ := h.dead rfl
    refine ⟨f0, ?_, fun k hk => (hz k hk).symm⟩
    exact Reads.eq (u := [0] ++ []) ((Reads.bnd 110 (by omega)).bind (Reads.pure _)) rfl
  | false =>
    obtain ⟨g, r1, g1⟩ := reads_regs f 10 0 f0 (fun k _ hk => h.regs k (by omega))
    obtain ⟨g', r2, g2⟩ := reads_slots f h.slots 32 0 (-1) g (by omega) (by omega)
    have hl := h.len
    have r3 := reads_cons l [] h.cons
    rw [List.nil_append] at r3
    refine ⟨g', ?_, fun k hk => ?_⟩
    · have hc : CN f 0 ≤ 32 := by
        have := List.length_filter_le (fun i => decide (f (10 + i) ≠ tz)) (List.range' 0 (32 - 0))
        simpa [CN] using this
      have e : claimB false f l = [1] ++ ((List.range' 0 10).flatMap (fun k => tagB (f k) false) ++ (leb 9 (CN f 0) ++ (SB f 0 ++ (leb 9 l.length ++ l.flatMap conB)))) := by
        unfold claimB regB toldN slotsB consB CN SB
        rw [List.range_eq_range', List.range_eq_range', List.take_length]
        rfl
      rw [e]
      refine (Reads.bnd 110 (by omega)).bind ?_
      rw [if_neg (by omega)]
      refine r1.bind ?_
      refine (Reads.most 112 hc (by omega)).bind ?_
      refine r2.bind ?_
      refine (Reads.most 112 hl (by omega)).bind ?_
      exact r3.map _
    · rw [g2 k]
      by_cases h1 : k < 10
      · rw [if_neg (by omega), g1 k, if_pos (by omega)]
      · by_cases h2 : f k = tz
        · rw [if_neg (fun h => h.2.2 h2), g1 k, if_neg (by omega), h2]
          rfl
        · rw [if_pos ⟨by omega, hk, h2⟩]
theorem Reads.loop {x : Lp} (h : goodLoop x = true) : Reads pLoop (loopB x) x := by
  obtain ⟨h1, a, b, k, d⟩ := x
  obtain ⟨⟨p0, p1⟩, ⟨a0, a1⟩, ⟨b0, b1⟩, hk, d0, d1⟩ := goodLoop_iff.1 h
  simp only at p0 p1 a0 a1 b0 b1 hk d0 d1
  obtain ⟨h1, rfl⟩ := Int.eq_ofNat_of_zero_le p0
  obtain ⟨a, rfl⟩ := Int.eq_ofNat_of_zero_le a0
  obtain ⟨b, rfl⟩ := Int.eq_ofNat_of_zero_le b0
  obtain ⟨d, rfl⟩ := Int.eq_ofNat_of_zero_le d0
  unfold loopB pLoop
  simp only [Int.toNat_natCast]
  refine (Reads.most 113 (by omega) (by omega)).bind ?_
  refine (Reads.most 113 (by omega) (by omega)).bind ?_
  refine (Reads.most 113 (by omega) (by omega)).bind ?_
  refine (Reads.sig 113 (inB_iff.2 hk)).bind ?_
  exact (Reads.most 113 (by omega) (by omega)).map _
theorem reads_loops : ∀ (m l : List Lp), (∀ x ∈ m, goodLoop x = true) → Reads (pLoops m.length l) (loopsB m) (l ++ m) := by
  intro m
  induction m with
  | nil => intro l _; rw [List.append_nil]; exact Reads.pure l
  | cons x m ih =>
    intro l h
    have h4 := ih (l ++ [x]) (fun y hy => h y (by simp [hy]))
    rw [List.append_assoc] at h4
    exact (Reads.loop (h x (by simp))).bind h4
theorem eqTags_of {f g : Nat → Tg} (h : ∀ k, k < 42 → f k = g k) : eqTags f g 0 10 = true ∧ eqTags f g 10 32 = true :=
  ⟨eqTags_iff.2 fun i hi => h _ (by omega), eqTags_iff.2 fun i hi => h _ (by omega)⟩
theorem sameC_iff {x y : Cl} : sameC x y = true ↔ x.d = y.d ∧ (∀ k, k < 42 → x.f k = y.f k) ∧ x.l = y.l := by
  unfold sameC
  simp only [Bool.and_eq_true, beq_iff_eq, eqTags_iff, decide_eq_true_eq]
  constructor
  · rintro ⟨h1, h2, h3, h4⟩
    refine ⟨h1, fun k hk => ?_, h4⟩
    by_cases h : k < 10
    · have := h2 k h; rwa [Nat.zero_add] at this
    · have := h3 (k - 10) (by omega); rwa [show 10 + (k - 10) = k by omega] at this
  · rintro ⟨h1, h2, h3⟩
    exact ⟨h1, fun i hi => h2 _ (by omega), fun i hi => h2 _ (by omega), h3⟩
theorem reads_claims : ∀ (m l : List Cl), (∀ x ∈ m, ClOk x.d x.f x.l) → ∃ m', Reads (pClaims m.length l) (claimsB m) (l ++ m') ∧ sameCs m m' = true := by
  intro m
  induction m with
  | nil => intro l _; exact ⟨[], by rw [List.append_nil]; exact Reads.pure l, rfl⟩
  | cons x m ih =>
    intro l h
    obtain ⟨g, r1, hg⟩ := Reads.claim (h x (by simp))
    obtain ⟨m', r2, hs⟩ := ih (l ++ [⟨x.d, g, x.l⟩]) (fun y hy => h y (by simp [hy]))
    rw [List.append_assoc] at r2
    refine ⟨⟨x.d, g, x.l⟩ :: m', r1.bind r2, ?_⟩
    simp only [sameCs, Bool.and_eq_true]
    exact ⟨sameC_iff.2 ⟨rfl, fun k hk => (hg k hk).symm, rfl⟩, hs⟩
theorem reads_body {d : Dd} (h : plainD d = 0) : ∃ d', Reads pBody (bodyB d) d' ∧ sameD d d' = true := by
  obtain ⟨n8, n512, gl, gc⟩ := plainD_all h
  obtain ⟨cs', r, hs⟩ := reads_claims d.cs [] (fun x hx => goodClaim_iff.1 (gc x hx))
  rw [List.nil_append] at r
  have r1 := reads_loops d.ls [] gl
  rw [List.nil_append] at r1
  refine ⟨⟨d.ls, cs'⟩, ?_, ?_⟩
  · unfold bodyB pBody
    refine (Reads.most 112 n8 (by omega)).bind ?_
    refine r1.bind ?_
    refine (Reads.most 112 n512 (by omega)).bind ?_
    exact r.map _
  · unfold sameD
    simp [hs]
/-- What is written is read back. -/
theorem dec_enc {d : Dd} (h : encE d = 0) : ∃ d', decD (encD d) = (d', 0, 0) ∧ sameD d d' = true := by
  have hp : plainD d = 0 := by
    unfold encE at h
    by_cases hp : plainD d = 0
    · exact hp
    · rw [if_neg hp] at h; exact absurd h hp
  have hl : (deedB d).length ≤ 4194304 := by
    unfold encE at h
    rw [if_pos hp] at h
    by_cases hl : 4194304 < (deedB d).length
    · rw [if_pos hl] at h; cases h
    · omega
  have he : encD d = deedB d := by unfold encD; rw [if_pos h]
  obtain ⟨d', r, hs⟩ := reads_body hp
  refine ⟨d', ?_, hs⟩
  rw [he]
  have hb := r [87, 65, 82, 49] []
  rw [List.append_nil] at hb
  have hb' : pBody (deedB d) 4 = .ok (d', 4 + (bodyB d).length) := hb
  have hlen : (deedB d).length = 4 + (bodyB d).length := by unfold deedB; rw [List.length_append]; rfl
  unfold decD pDeed
  rw [if_neg (by omega), if_neg (by omega), if_neg (by unfold deedB; simp), hb']
  simp only
  rw [if_neg (by omega)]
end Go.Proofs.Ytfdjdpbiccclfaa
