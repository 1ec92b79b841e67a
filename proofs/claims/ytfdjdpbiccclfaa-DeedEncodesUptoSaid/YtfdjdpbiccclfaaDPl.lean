/- The plain laws: alike deeds, unlike ones, cuts, places. -/
import Derived.Test.YtfdjdpbiccclfaaDPb
namespace Go.Proofs.Ytfdjdpbiccclfaa
open Go Go.RowKit Go.Wr
set_option maxHeartbeats 1000000

theorem dec_place (b : List Nat) (h : (decD b).2.2 ≠ 0) : (decD b).2.1 ≤ b.length ∧ (decD b).1 = ⟨[], []⟩ := by
  unfold decD at h ⊢
  by_cases hl : 4194304 < b.length
  · rw [if_pos hl]; exact ⟨Nat.zero_le _, rfl⟩
  rw [if_neg hl] at h ⊢
  unfold pDeed at h ⊢
  by_cases h4 : b.length < 4
  · rw [if_pos h4]; exact ⟨Nat.le_refl _, rfl⟩
  rw [if_neg h4] at h ⊢
  by_cases hm : b.take 4 ≠ [87, 65, 82, 49]
  · rw [if_pos hm]; exact ⟨Nat.zero_le _, rfl⟩
  rw [if_neg hm] at h ⊢
  cases hb : pBody b 4 with
  | error y =>
    obtain ⟨y, e⟩ := y
    exact ⟨(Fine.body.place b 4 y e (by omega) hb).1, rfl⟩
  | ok v =>
    obtain ⟨d, a⟩ := v
    rw [hb] at h
    simp only at h ⊢
    by_cases ha : a < b.length
    · rw [if_pos ha]; exact ⟨Nat.le_of_lt ha, rfl⟩
    · rw [if_neg ha] at h; exact absurd rfl h
/-- What is decoded is small enough. -/
theorem dec_len (b : List Nat) (h256 : ∀ x ∈ b, x < 256) : (decD b).1.ls.length ≤ 8 ∧ (decD b).1.cs.length ≤ 512 ∧ ∀ c ∈ (decD b).1.cs, c.l.length ≤ 3540 := by
  by_cases h : (decD b).2.2 = 0
  · obtain ⟨h1, _, _⟩ := enc_dec h256 h
    have hp : plainD (decD b).1 = 0 := by
      unfold encE at h1
      by_cases hp : plainD (decD b).1 = 0
      · exact hp
      · rw [if_neg hp] at h1; exact absurd h1 hp
    obtain ⟨a, c, _, g⟩ := plainD_all hp
    exact ⟨a, c, fun x hx => (goodClaim_iff.1 (g x hx)).len⟩
  · rw [(dec_place b h).2]
    exact ⟨by simp, by simp, fun c hc => by cases hc⟩

theorem eqTags_congr {f f' : Nat → Tg} {o n : Nat} (h : ∀ i, i < n → f (o + i) = f' (o + i)) : eqTags f f0 o n = eqTags f' f0 o n := by
  unfold eqTags
  rw [Bool.eq_iff_iff]
  simp only [List.all_eq_true, List.mem_range]
  exact ⟨fun g i hi => by rw [← h i hi]; exact g i hi, fun g i hi => by rw [h i hi]; exact g i hi⟩
theorem tagsOk_congr {f f' : Nat → Tg} {m : Int} {o n : Nat} (h : ∀ i, i < n → f (o + i) = f' (o + i)) : tagsOk f m o n = tagsOk f' m o n := by
  unfold tagsOk
  rw [Bool.eq_iff_iff]
  simp only [List.all_eq_true, List.mem_range]
  exact ⟨fun g i hi => by rw [← h i hi]; exact g i hi, fun g i hi => by rw [h i hi]; exact g i hi⟩
theorem flat_congr {f g : Nat → List Nat} {n : Nat} (h : ∀ i, i < n → f i = g i) : (List.range n).flatMap f = (List.range n).flatMap g := by
  simp only [List.flatMap_def]
  rw [List.map_congr_left fun i hi => h i (List.mem_range.1 hi)]
theorem claim_congr {d : Bool} {f f' : Nat → Tg} {l : List C3} (h : ∀ k, k < 42 → f k = f' k) : goodClaim d f l = goodClaim d f' l ∧ claimB d f l = claimB d f' l := by
  constructor
  · unfold goodClaim
    rw [eqTags_congr (f' := f') (o := 0) (n := 10) fun i hi => h _ (by omega), eqTags_congr (f' := f') (o := 10) (n := 32) fun i hi => h _ (by omega), tagsOk_congr (f' := f') (o := 0) (n := 10) fun i hi => h _ (by omega),
      tagsOk_congr (f' := f') (o := 10) (n := 32) fun i hi => h _ (by omega)]
  · unfold claimB regB toldN slotsB
    rw [flat_congr (g := fun i => tagB (f' i) false) fun i hi => by rw [h i (by omega)], flat_congr (f := slotB f) (g := slotB f') fun i hi => by unfold slotB; rw [h (10 + i) (by omega)]]
    have e : (List.range 32).filter (fun i => decide (f (10 + i) ≠ tz)) = (List.range 32).filter (fun i => decide (f' (10 + i) ≠ tz)) :=
      List.filter_congr fun i hi => by rw [h (10 + i) (by have := List.mem_range.1 hi; omega)]
    rw [e]
theorem same_congr {d x : Dd} (h : sameD d x = true) : encE d = encE x ∧ encD d = encD x := by
  obtain ⟨ls, cs⟩ := d
  obtain ⟨ls', cs'⟩ := x
  unfold sameD at h
  simp only [Bool.and_eq_true, decide_eq_true_eq] at h
  obtain ⟨rfl, hs⟩ := h
  have hl := sameCs_len hs
  have hc : ∀ (cs cs' : List Cl), sameCs cs cs' = true → goodCs cs = goodCs cs' ∧ claimsB cs = claimsB cs' := fun cs => by
    induction cs with
    | nil => intro cs' h; cases cs' with
      | nil => exact ⟨rfl, rfl⟩
      | cons y m => cases h
    | cons c cs ih => intro cs' h; cases cs' with
      | nil => cases h
      | cons y m =>
        simp only [sameCs, Bool.and_eq_true] at h
        obtain ⟨h1, h2⟩ := h
        obtain ⟨e1, e2, e3⟩ := sameC_iff.1 h1
        obtain ⟨g1, g2⟩ := ih m h2
        obtain ⟨k1, k2⟩ := claim_congr (d := c.d) (l := c.l) e2
        unfold goodCs
        constructor
        · rw [k1, g1, e1, e3]
        · simp only [claimsB, List.flatMap_cons] at g2 ⊢
          rw [k2, g2, e1, e3]
  obtain ⟨g1, g2⟩ := hc cs cs' hs
  have e1 : plainD ⟨ls, cs⟩ = plainD ⟨ls, cs'⟩ := by unfold plainD; simp only; rw [hl, g1]
  have e2 : deedB ⟨ls, cs⟩ = deedB ⟨ls, cs'⟩ := by unfold deedB bodyB; simp only; rw [hl, g2]
  have e3 : encE ⟨ls, cs⟩ = encE ⟨ls, cs'⟩ := by unfold encE; rw [e1, e2]
  exact ⟨e3, by unfold encD; rw [e3, e2]⟩
theorem sameCs_symm {l : List Cl} : ∀ {m : List Cl}, sameCs l m = true → sameCs m l = true := by
  intro m h
  rw [sameCs_iff] at h ⊢
  refine ⟨h.1.symm, fun i x y hx hy => ?_⟩
  obtain ⟨a, b, c⟩ := sameC_iff.1 (h.2 i y x hy hx)
  exact sameC_iff.2 ⟨a.symm, fun k hk => (b k hk).symm, c.symm⟩
theorem sameCs_trans {l m n : List Cl} (h1 : sameCs l m = true) (h2 : sameCs m n = true) : sameCs l n = true := by
  rw [sameCs_iff] at h1 h2 ⊢
  refine ⟨h1.1.trans h2.1, fun i x z hx hz => ?_⟩
  obtain ⟨y, hy⟩ : ∃ y, m[i]? = some y := ⟨_, List.getElem?_eq_getElem (by rw [← h1.1]; exact (List.getElem?_eq_some_iff.1 hx).1)⟩
  obtain ⟨a, b, c⟩ := sameC_iff.1 (h1.2 i x y hx hy)
  obtain ⟨a', b', c'⟩ := sameC_iff.1 (h2.2 i y z hy hz)
  exact sameC_iff.2 ⟨a.trans a', fun k hk => (b k hk).trans (b' k hk), c.trans c'⟩
theorem sameD_symm {d x : Dd} (h : sameD d x = true) : sameD x d = true := by
  unfold sameD at h ⊢
  simp only [Bool.and_eq_true, decide_eq_true_eq] at h ⊢
  exact ⟨h.1.symm, sameCs_symm h.2⟩
theorem sameD_trans {d x y : Dd} (h1 : sameD d x = true) (h2 : sameD x y = true) : sameD d y = true := by
  unfold sameD at h1 h2 ⊢
  simp only [Bool.and_eq_true, decide_eq_true_eq] at h1 h2 ⊢
  exact ⟨h1.1.trans h2.1, sameCs_trans h1.2 h2.2⟩
/-- Unlike deeds, unlike bytes. -/
theorem enc_iff {d x : Dd} (h1 : encE d = 0) (h2 : encE x = 0) : encD d = encD x ↔ sameD d x = true := by
  constructor
  · intro e
    obtain ⟨d', e1, s1⟩ := dec_enc h1
    obtain ⟨x', e2, s2⟩ := dec_enc h2
    rw [e, e2] at e1
    have : x' = d' := congrArg Prod.fst e1
    subst this
    exact sameD_trans s1 (sameD_symm s2)
  · exact fun h => (same_congr h).2

theorem enc_facts {d : Dd} (h : encE d = 0) : plainD d = 0 ∧ encD d = deedB d ∧ (deedB d).length ≤ 4194304 := by
  have hp : plainD d = 0 := by
    unfold encE at h
    by_cases hp : plainD d = 0
    · exact hp
    · rw [if_neg hp] at h; exact absurd h hp
  refine ⟨hp, by unfold encD; rw [if_pos h], ?_⟩
  unfold encE at h
  rw [if_pos hp] at h
  by_cases hl : 4194304 < (deedB d).length
  · rw [if_pos hl] at h; cases h
  · omega
theorem leb_pos' (k x : Nat) : 0 < (leb k x).length := by
  cases k with
  | zero => simp [leb]
  | succ k => unfold leb; split <;> simp
theorem enc_six {d : Dd} (h : encE d = 0) : 6 ≤ (encD d).length := by
  obtain ⟨_, e, _⟩ := enc_facts h
  rw [e]
  unfold deedB bodyB
  simp only [List.length_append, List.length_cons, List.length_nil]
  have := leb_pos' 9 d.ls.length
  have := leb_pos' 9 d.cs.length
  omega
theorem body_at {d : Dd} (h : encE d = 0) : ∃ d', pBody (encD d) 4 = .ok (d', (encD d).length) ∧ sameD d d' = true := by
  obtain ⟨hp, e, hl⟩ := enc_facts h
  obtain ⟨d', r, hs⟩ := reads_body hp
  refine ⟨d', ?_, hs⟩
  rw [e]
  have hb := r [87, 65, 82, 49] []
  rw [List.append_nil] at hb
  have hlen : (deedB d).length = 4 + (bodyB d).length := by unfold deedB; rw [List.length_append]; rfl
  rw [hlen]
  exact hb
theorem enc_magic {d : Dd} (h : encE d = 0) : (encD d).take 4 = [87, 65, 82, 49] := by
  rw [(enc_facts h).2.1]
  rfl
/-- Cut anywhere, the bytes are refused at their end. -/
theorem dec_cut {d : Dd} (h : encE d = 0) {k : Nat} (hk : k < (encD d).length) : (decD ((encD d).take k)).2 = (k, 110) := by
  obtain ⟨d', hb, _⟩ := body_at h
  have hl : (encD d).length ≤ 4194304 := by rw [(enc_facts h).2.1]; exact (enc_facts h).2.2
  have hlen : ((encD d).take k).length = k := by rw [List.length_take]; omega
  unfold decD pDeed
  rw [if_neg (by omega)]
  by_cases h4 : k < 4
  · rw [if_pos (by omega), hlen]
  · rw [if_neg (by omega), if_neg (by rw [List.take_take, Nat.min_eq_left (by omega), enc_magic h]; simp), Fine.body.cut (encD d) 4 d' _ k (by omega) hb (by omega) hk]
/-- With bytes behind them: refused at the first of these, or too long. -/
theorem dec_more {d : Dd} (h : encE d = 0) {m : List Nat} (hm : m ≠ []) : (decD (encD d ++ m)).2 = if 4194304 < (encD d ++ m).length then (0, 2) else ((encD d).length, 110) := by
  obtain ⟨d', hb, _⟩ := body_at h
  have h6 := enc_six h
  have hml : 0 < m.length := List.length_pos_iff.2 hm
  have hb2 : pBody (encD d ++ m) 4 = .ok (d', (encD d).length) := Fine.body.loc (encD d) _ 4 d' _ (by omega) hb (fun i _ hi => (List.getElem?_append_left hi).symm)
  unfold decD pDeed
  by_cases hl : 4194304 < (encD d ++ m).length
  · rw [if_pos hl, if_pos hl]
  · rw [if_neg hl, if_neg hl, if_neg (by rw [List.length_append]; omega), if_neg (by rw [List.take_append_of_le_length (by omega), enc_magic h]; simp), hb2]
    simp only
    rw [if_pos (by rw [List.length_append]; omega)]
/-- With a byte put to another value: refused, or another deed's. -/
theorem dec_byte {d : Dd} {c : List Nat} (h256 : ∀ x ∈ c, x < 256) (hne : c ≠ encD d) : ¬ ((decD c).2.2 = 0 ∧ sameD d (decD c).1 = true) := by
  rintro ⟨h1, h2⟩
  obtain ⟨_, e2, _⟩ := enc_dec h256 h1
  rw [← (same_congr h2).2] at e2
  exact hne e2.symm
theorem leb_256 (k : Nat) : ∀ x, ∀ y ∈ leb k x, y < 256 := by
  induction k with
  | zero => intro x y hy; simp [leb] at hy; omega
  | succ k ih =>
    intro x y hy
    unfold leb at hy
    split at hy
    · simp at hy; omega
    · rcases List.mem_cons.1 hy with rfl | hy
      · omega
      · exact ih _ y hy
theorem tagB_256 {t : Tg} {s : Bool} (h : TgIn t) : ∀ y ∈ tagB t s, y < 256 := by
  obtain ⟨⟨a, b⟩, ⟨c, e⟩, f, g⟩ := h
  intro y hy
  unfold tagB at hy
  rcases List.mem_cons.1 hy with rfl | hy
  · omega
  · split at hy
    · simp at hy; omega
    · split at hy
      · simp at hy; omega
      · cases hy
theorem claimB_256 {d : Bool} {f : Nat → Tg} {l : List C3} (h : ClOk d f l) : ∀ y ∈ claimB d f l, y < 256 := by
  intro y hy
  unfold claimB at hy
  split at hy
  · simp at hy; omega
  · simp only [List.mem_cons, List.mem_append] at hy
    rcases hy with rfl | hy | hy | hy | hy | hy
    · omega
    · unfold regB at hy
      rw [List.mem_flatMap] at hy
      obtain ⟨i, hi, hy⟩ := hy
      exact tagB_256 (h.tags i (by have := List.mem_range.1 hi; omega)) y hy
    · exact leb_256 _ _ y hy
    · unfold slotsB at hy
      rw [List.mem_flatMap] at hy
      obtain ⟨i, hi, hy⟩ := hy
      have hi := List.mem_range.1 hi
      unfold slotB at hy
      split at hy
      · cases hy
      · rcases List.mem_cons.1 hy with rfl | hy
        · omega
        · exact tagB_256 (h.tags (10 + i) (by omega)) y hy
    · exact leb_256 _ _ y hy
    · unfold consB at hy
      rw [List.mem_flatMap] at hy
      obtain ⟨x, hx, hy⟩ := hy
      have hc := h.conIn x (List.mem_of_mem_take hx)
      unfold conB at hy
      obtain ⟨h1, h2, _⟩ := hc
      simp only [List.mem_cons] at hy
      rcases hy with rfl | rfl | hy
      · omega
      · omega
      · exact leb_256 _ _ y hy
theorem encD_256 (d : Dd) : ∀ y ∈ encD d, y < 256 := by
  intro y hy
  by_cases h : encE d = 0
  · obtain ⟨hp, e, _⟩ := enc_facts h
    obtain ⟨_, _, gl, gc⟩ := plainD_all hp
    rw [e] at hy
    unfold deedB bodyB at hy
    simp only [List.mem_append, List.mem_cons, List.not_mem_nil, or_false] at hy
    rcases hy with hy | hy | hy | hy | hy
    · omega
    · exact leb_256 _ _ y hy
    · unfold loopsB at hy
      rw [List.mem_flatMap] at hy
      obtain ⟨x, _, hy⟩ := hy
      unfold loopB at hy
      simp only [List.mem_append] at hy
      rcases hy with hy | hy | hy | hy | hy <;> exact leb_256 _ _ y hy
    · exact leb_256 _ _ y hy
    · unfold claimsB at hy
      rw [List.mem_flatMap] at hy
      obtain ⟨x, hx, hy⟩ := hy
      exact claimB_256 (goodClaim_iff.1 (gc x hx)) y hy
  · unfold encD at hy
    rw [if_neg h] at hy
    cases hy
end Go.Proofs.Ytfdjdpbiccclfaa
