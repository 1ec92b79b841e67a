/- Plain facts: numbers that meet a zone's bounds meet what each call makes of it. No program. -/
import Derived.Test.YtfpbjjdlchplnaaRPutP
import Derived.Test.YtfpbjjdlchplnaaRLosesP
namespace Go.Proofs.YtfpbjjdlchplnaaR
open Go Go.RowKit Go.Wr

/-- The numbers are an assignment of the zone. -/
def MtZ (z : Zn) (f : Nat → Int) : Prop := z.e = false ∧ Mt z.m f

theorem sm_none {a b : Int} (h : sm a b ≠ 2305843009213693952) : a ≠ 2305843009213693952 ∧ b ≠ 2305843009213693952 := by
  unfold sm at h
  constructor
  · intro e; apply h; rw [if_pos (Or.inl e)]
  · intro e; apply h; rw [if_pos (Or.inr (Or.inl e))]
theorem sm_ge {a b : Int} (h : sm a b ≠ 2305843009213693952) : a + b ≤ sm a b := by
  unfold sm at h ⊢
  split
  · rename_i c; rw [if_pos c] at h; exact absurd rfl h
  · split <;> omega

theorem mtz_new (f : Nat → Int) : MtZ znew f := ⟨rfl, fun p q _ _ hb => by
  show f p - f q ≤ topT p q
  unfold topT at *
  by_cases e : p = q
  · subst e; rw [if_pos rfl]; omega
  · exact absurd (show topT p q = 2305843009213693952 by unfold topT; rw [if_neg e]) hb⟩

theorem mtz_set {m : Nat → Nat → Int} {f : Nat → Int} (h : Mt m f) : MtZ (zset m) f := by
  rw [zset_zone (fun p hp => by
    by_cases e : m p p = 2305843009213693952
    · omega
    · have := h p p hp hp e; omega)]
  exact ⟨rfl, h⟩

theorem mt_add {m : Nat → Nat → Int} {f : Nat → Int} (h : Mt m f) {i j : Nat} {c : Int} (hi : i < 60) (hj : j < 60) (hc : f i - f j ≤ c) : Mt (zadd m i j c) f := fun p q hp hq hb => by
  unfold zadd at hb ⊢
  by_cases e : sm (m p i) c = 2305843009213693952
  · rw [if_pos e] at hb ⊢; exact h p q hp hq hb
  · rw [if_neg e] at hb ⊢
    have a1 := sm_none e
    have a2 := sm_ge e
    have a3 := h p i hp hi a1.1
    by_cases e2 : sm (sm (m p i) c) (m j q) = 2305843009213693952
    · have hle : m p q ≠ 2305843009213693952 → f p - f q ≤ min (m p q) (sm (sm (m p i) c) (m j q)) := fun hn => by
        have := h p q hp hq hn
        rw [e2]
        have hs := sm_ge e
        by_cases hm : m p q ≤ 2305843009213693952
        · rw [Int.min_eq_left hm]; exact this
        · rw [e2, Int.min_eq_right (by omega)] at hb; exact absurd rfl hb
      by_cases hn : m p q = 2305843009213693952
      · rw [hn, e2] at hb; exact absurd (by omega) hb
      · exact hle hn
    · have b1 := sm_none e2
      have b2 := sm_ge e2
      have b3 := h j q hj hq b1.2
      by_cases hn : m p q = 2305843009213693952
      · have : f p - f q ≤ sm (sm (m p i) c) (m j q) := by omega
        by_cases hm : sm (sm (m p i) c) (m j q) ≤ m p q
        · rw [Int.min_eq_right hm]; exact this
        · rw [Int.min_eq_left (by omega)] at hb ⊢; exact absurd hn hb
      · have := h p q hp hq hn
        omega

theorem mtz_and {z : Zn} {f : Nat → Int} (h : MtZ z f) {i j : Nat} {c : Int} (hi : i < 60) (hj : j < 60) (hc : f i - f j ≤ c) : MtZ (zand z i j c) f := by
  unfold zand
  rw [h.1]
  rw [if_neg (by decide)]
  by_cases e : i = j
  · subst e
    rw [if_pos rfl, if_pos (by omega)]; exact h
  · rw [if_neg e]
    split
    · exact h
    · by_cases e2 : sm (z.m j i) c = 2305843009213693952
      · rw [if_neg (by omega)]; exact mtz_set (mt_add h.2 hi hj hc)
      · have a1 := sm_none e2
        have a2 := sm_ge e2
        have a3 := h.2 j i hj hi a1.1
        rw [if_neg (by omega)]; exact mtz_set (mt_add h.2 hi hj hc)

/-- Numbers meet all bounds of a list, its variables all there. -/
def MtL (l : List Cn) (f : Nat → Int) : Prop := ∀ x ∈ l, x.i.toNat < 60 ∧ x.j.toNat < 60 ∧ f x.i.toNat - f x.j.toNat ≤ x.c

theorem mtz_with {l : List Cn} {f : Nat → Int} : ∀ {z : Zn}, MtZ z f → MtL l f → MtZ (zwith z l) f := by
  induction l with
  | nil => intro z h _; exact h
  | cons x r ih =>
    intro z h hl
    obtain ⟨h1, h2, h3⟩ := hl x (by simp)
    exact ih (mtz_and h h1 h2 h3) (fun y hy => hl y (by simp [hy]))

theorem met_mtl (l : List Cn) (f : Nat → Int) : MtL (metL l f) f := fun x hx => by
  have h := (List.mem_filter.1 hx).2
  simp only [metC, Bool.and_eq_true, beq_iff_eq, Bool.not_eq_true', decide_eq_false_iff_not] at h
  obtain ⟨xi, xj, xc⟩ := x
  have := fine_of_wrong h.1
  simp only at h ⊢
  omega
theorem met_wrong (l : List Cn) (f : Nat → Int) : wrongL (metL l f) = 0 := wrong_of_all fun x hx => by
  have h := (List.mem_filter.1 hx).2
  simp only [metC, Bool.and_eq_true, beq_iff_eq] at h
  exact h.1

theorem mt_edge {l : List Cn} {f : Nat → Int} : ∀ {m : Nat → Nat → Int}, Mt m f → MtL l f → Mt (l.foldl edg m) f := by
  induction l with
  | nil => intro m h _; exact h
  | cons x r ih =>
    intro m h hl
    refine ih (fun p q hp hq hb => ?_) (fun y hy => hl y (by simp [hy]))
    obtain ⟨h1, h2, h3⟩ := hl x (by simp)
    unfold edg upd at hb ⊢
    by_cases e : p = x.i.toNat ∧ q = x.j.toNat
    · rw [if_pos e] at hb ⊢
      obtain ⟨rfl, rfl⟩ := e
      by_cases hn : m x.i.toNat x.j.toNat = 2305843009213693952
      · by_cases hm : x.c ≤ m x.i.toNat x.j.toNat
        · rw [Int.min_eq_right hm]; exact h3
        · rw [Int.min_eq_left (by omega)] at hb; exact absurd hn hb
      · have := h _ _ hp hq hn; omega
    · rw [if_neg e] at hb ⊢; exact h p q hp hq hb

theorem mt_fws {m : Nat → Nat → Int} {f : Nat → Int} (h : Mt m f) {k : Nat} (hk : k < 60) : Mt (fws m k) f := fun p q hp hq hb => by
  unfold fws at hb ⊢
  by_cases e : m p k = 2305843009213693952
  · rw [if_pos e] at hb ⊢; exact h p q hp hq hb
  · rw [if_neg e] at hb ⊢
    have a3 := h p k hp hk e
    by_cases hn : m p q = 2305843009213693952
    · by_cases hm : sm (m p k) (m k q) ≤ m p q
      · rw [Int.min_eq_right hm] at hb ⊢
        have b1 := sm_none hb
        have b2 := sm_ge hb
        have b3 := h k q hk hq b1.2
        omega
      · rw [Int.min_eq_left (by omega)] at hb; exact absurd hn hb
    · have := h p q hp hq hn
      by_cases e2 : sm (m p k) (m k q) = 2305843009213693952
      · by_cases hm : m p q ≤ sm (m p k) (m k q)
        · rw [Int.min_eq_left hm]; exact this
        · rw [Int.min_eq_right (by omega)] at hb; exact absurd e2 hb
      · have b1 := sm_none e2
        have b2 := sm_ge e2
        have b3 := h k q hk hq b1.2
        omega

theorem mt_fw {l : List Cn} {f : Nat → Int} (hl : MtL l f) : ∀ n, n ≤ 60 → Mt (fwT l n) f
  | 0, _ => mt_edge (mtz_new f).2 hl
  | n + 1, hn => mt_fws (mt_fw hl n (by omega)) (by omega)

theorem mtz_close {l : List Cn} {f : Nat → Int} (hl : MtL l f) : MtZ (closeZ l) f := mtz_set (mt_fw hl 60 (Nat.le_refl _))

theorem mt_fgt {m : Nat → Nat → Int} {f f' : Nat → Int} {l : List Int} (h : Mt m f) (hf : ∀ q, q < 60 → opn l q = false → f' q = f q) : Mt (fgtL m l) f' := by
  have key : ∀ (l : List Int) (m : Nat → Nat → Int) (p q : Nat), p < 60 → q < 60 → fgtL m l p q ≠ 2305843009213693952 → fgtL m l p q = m p q ∧ (p = q ∨ (opn l p = false ∧ opn l q = false)) := by
    intro l
    induction l with
    | nil => intro m p q _ _ _; exact ⟨rfl, Or.inr ⟨rfl, rfl⟩⟩
    | cons v r ih =>
      intro m p q hp hq hb
      obtain ⟨e1, e2⟩ := ih (fgt m v) p q hp hq hb
      have e3 : fgtL m (v :: r) p q = fgt m v p q := e1
      rw [e3] at hb ⊢
      by_cases c : 1 ≤ v ∧ v < 60 ∧ p ≠ q ∧ (p = v.toNat ∨ q = v.toNat)
      · exact absurd (by unfold fgt; rw [if_pos c]) hb
      · refine ⟨by unfold fgt; rw [if_neg c], ?_⟩
        by_cases hpq : p = q
        · exact Or.inl hpq
        · rcases e2 with e2 | ⟨e2, e4⟩
          · exact absurd e2 hpq
          · right
            unfold opn at e2 e4 ⊢
            rw [List.any_cons, List.any_cons, e2, e4, Bool.or_false, Bool.or_false, decide_eq_false_iff_not, decide_eq_false_iff_not]
            constructor <;> omega
  intro p q hp hq hb
  obtain ⟨e1, e2⟩ := key l m p q hp hq hb
  rw [e1] at hb ⊢
  rcases e2 with rfl | ⟨e2, e3⟩
  · have := h p p hp hp hb; omega
  · rw [hf p hp e2, hf q hq e3]; exact h p q hp hq hb

theorem mt_asg {m : Nat → Nat → Int} {f : Nat → Int} (h : Mt m f) {x y : Nat} {c : Int} (hy : y < 60) : Mt (asgT m x y c) (putF f x (f y + c)) := fun p q hp hq hb => by
  unfold asgT asgW at hb ⊢
  unfold putF
  by_cases e1 : p = x ∧ q ≠ x ∧ q < 60
  · rw [if_pos e1] at hb ⊢
    rw [if_pos e1.1, if_neg e1.2.1]
    have b1 := sm_none hb
    have b2 := sm_ge hb
    have b3 := h y q hy hq b1.1
    omega
  · rw [if_neg e1] at hb ⊢
    by_cases e2 : q = x ∧ p ≠ x ∧ p < 60
    · rw [if_pos e2] at hb ⊢
      rw [if_neg e2.2.1, if_pos e2.1]
      have b1 := sm_none hb
      have b2 := sm_ge hb
      have b3 := h p y hp hy b1.1
      omega
    · rw [if_neg e2] at hb ⊢
      have := h p q hp hq hb
      by_cases e3 : p = x
      · have e4 : q = x := by apply Classical.byContradiction; intro hne; exact e1 ⟨e3, hne, hq⟩
        rw [if_pos e3, if_pos e4]
        subst e3; subst e4; omega
      · have e4 : q ≠ x := fun hne => e2 ⟨hne, e3, hp⟩
        rw [if_neg e3, if_neg e4]; exact this

theorem mtz_join {z o : Zn} {f : Nat → Int} (h : MtZ z f) (k : MtZ o f) : MtZ (joinZ max z o) f := by
  unfold joinZ
  rw [h.1, k.1]
  rw [if_neg (by decide), if_neg (by decide)]
  refine ⟨rfl, fun p q hp hq hb => ?_⟩
  show f p - f q ≤ max (z.m p q) (o.m p q)
  by_cases e : z.m p q = 2305843009213693952
  · by_cases e2 : o.m p q = 2305843009213693952
    · exact absurd (show max (z.m p q) (o.m p q) = _ by rw [e, e2]; omega) hb
    · have := k.2 p q hp hq e2; omega
  · have := h.2 p q hp hq e; omega

theorem mtz_widen {z o : Zn} {f : Nat → Int} (h : MtZ z f) (k : MtZ o f) : MtZ (joinZ wid z o) f := by
  unfold joinZ
  rw [h.1, k.1]
  rw [if_neg (by decide), if_neg (by decide)]
  refine ⟨rfl, fun p q hp hq hb => ?_⟩
  show f p - f q ≤ wid (z.m p q) (o.m p q)
  have hb' : wid (z.m p q) (o.m p q) ≠ 2305843009213693952 := hb
  unfold wid at hb' ⊢
  split
  · rename_i c; rw [if_pos c] at hb'; exact absurd rfl hb'
  · rename_i c; rw [if_neg c] at hb'; exact h.2 p q hp hq hb'

theorem MtZ.meets {z : Zn} {f : Nat → Int} (h : MtZ z f) : meetsB z f = true := by
  obtain ⟨e, m⟩ := z
  obtain ⟨rfl, h2⟩ := h
  exact h2.meets

/-- The numbers for Put: x may be v. -/
structure PutF (f : Nat → Int) (x : Nat) (v : Int) (lu ld : List (Bool × Int)) : Prop where
  up : ∀ k, k < 60 → abv x lu k ≠ 2305843009213693952 → v - f k ≤ abv x lu k
  dn : ∀ k, k < 60 → abv x ld k ≠ 2305843009213693952 → f k - v ≤ abv x ld k

section
variable {m : Nat → Nat → Int} {f : Nat → Int} {x : Nat} {v : Int} {lu ld : List (Bool × Int)}

theorem putG_at {p q : Nat} (hp : p ≠ x) (hq : q ≠ x) : putG m x p q = m p q := by
  unfold putG
  apply fgtL_open
  · unfold opn; simp; omega
  · unfold opn; simp; omega
theorem putG_x {q : Nat} (hx1 : 1 ≤ x) (hx : x < 60) (hq : q ≠ x) : putG m x x q = 2305843009213693952 ∧ putG m x q x = 2305843009213693952 := by
  constructor
  · show fgt m (x : Int) x q = _
    unfold fgt; rw [if_pos ⟨by omega, by omega, fun e => hq e.symm, Or.inl (by simp)⟩]
  · show fgt m (x : Int) q x = _
    unfold fgt; rw [if_pos ⟨by omega, by omega, hq, Or.inr (by simp)⟩]
theorem putG_xx : putG m x x x = m x x := by
  show fgt m (x : Int) x x = _
  unfold fgt; rw [if_neg (fun h => h.2.2.1 rfl)]

theorem uS_meets (h : Mt m f) (hp : PutF f x v lu ld) {q : Nat} (hq : q < 60) : ∀ k, k ≤ 60 → uS (abv x lu) (putG m x) x q k ≠ 2305843009213693952 → v - f q ≤ uS (abv x lu) (putG m x) x q k
  | 0, _, hb => absurd rfl hb
  | k + 1, hk, hb => by
    by_cases c : k ≠ x ∧ q ≠ x
    · rw [uS_go c] at hb ⊢
      have hr := uS_rg (abv x lu) (putG m x) x q k
      have hs := sm_rg (abv x lu k) (putG m x k q)
      unfold rg at hr hs
      have ih := uS_meets h hp hq k (by omega)
      have step : sm (abv x lu k) (putG m x k q) ≠ 2305843009213693952 → v - f q ≤ sm (abv x lu k) (putG m x k q) := fun hn => by
        have b1 := sm_none hn
        have b2 := sm_ge hn
        have b3 := hp.up k (by omega) b1.1
        have b4 := b1.2
        rw [putG_at c.1 c.2] at b4 b2
        have b5 := h k q (by omega) hq b4
        rw [putG_at c.1 c.2]
        omega
      by_cases e1 : uS (abv x lu) (putG m x) x q k = 2305843009213693952
      · by_cases e2 : sm (abv x lu k) (putG m x k q) = 2305843009213693952
        · exact absurd (by rw [e1, e2]; omega) hb
        · have := step e2; omega
      · have h1 := ih e1
        by_cases e2 : sm (abv x lu k) (putG m x k q) = 2305843009213693952
        · omega
        · have := step e2; omega
    · rw [uS_stay c] at hb ⊢; exact uS_meets h hp hq k (by omega) hb

theorem dS_meets (h : Mt m f) (hp : PutF f x v lu ld) {q : Nat} (hq : q < 60) : ∀ k, k ≤ 60 → dS (abv x ld) (putG m x) x q k ≠ 2305843009213693952 → f q - v ≤ dS (abv x ld) (putG m x) x q k
  | 0, _, hb => absurd rfl hb
  | k + 1, hk, hb => by
    by_cases c : k ≠ x ∧ q ≠ x
    · rw [dS_go c] at hb ⊢
      have hr := dS_rg (abv x ld) (putG m x) x q k
      have hs := sm_rg (putG m x q k) (abv x ld k)
      unfold rg at hr hs
      have ih := dS_meets h hp hq k (by omega)
      have step : sm (putG m x q k) (abv x ld k) ≠ 2305843009213693952 → f q - v ≤ sm (putG m x q k) (abv x ld k) := fun hn => by
        have b1 := sm_none hn
        have b2 := sm_ge hn
        have b3 := hp.dn k (by omega) b1.2
        have b4 := b1.1
        rw [putG_at c.2 c.1] at b4 b2
        have b5 := h q k hq (by omega) b4
        rw [putG_at c.2 c.1]
        omega
      by_cases e1 : dS (abv x ld) (putG m x) x q k = 2305843009213693952
      · by_cases e2 : sm (putG m x q k) (abv x ld k) = 2305843009213693952
        · exact absurd (by rw [e1, e2]; omega) hb
        · have := step e2; omega
      · have h1 := ih e1
        by_cases e2 : sm (putG m x q k) (abv x ld k) = 2305843009213693952
        · omega
        · have := step e2; omega
    · rw [dS_stay c] at hb ⊢; exact dS_meets h hp hq k (by omega) hb

theorem mt_put (h : Mt m f) (hr : Rng m) (hp : PutF f x v lu ld) (hx1 : 1 ≤ x) (hx : x < 60) : Mt (putT m x lu ld) (putF f x v) := fun p q hpl hql hb => by
  unfold putT rcW at hb ⊢
  unfold putF
  by_cases e1 : p = x ∧ q ≠ x ∧ q < 60
  · rw [if_pos e1] at hb ⊢
    rw [if_pos e1.1, if_neg e1.2.1]
    exact uS_meets h hp hql 60 (Nat.le_refl _) hb
  · rw [if_neg e1] at hb ⊢
    by_cases e2 : q = x ∧ p ≠ x ∧ p < 60
    · rw [if_pos e2] at hb ⊢
      rw [if_neg e2.2.1, if_pos e2.1]
      exact dS_meets h hp hpl 60 (Nat.le_refl _) hb
    · rw [if_neg e2] at hb ⊢
      by_cases e3 : p = x
      · have e4 : q = x := by apply Classical.byContradiction; intro hne; exact e1 ⟨e3, hne, hql⟩
        rw [if_pos e3, if_pos e4]
        subst e4
        subst e3
        have e5 : putM (putG m p) p (putU m p lu) (putD m p ld) p p = m p p := by unfold putM; rw [if_neg (fun h => h.1 rfl)]; exact putG_xx
        rw [e5] at hb ⊢
        have := h p p hpl hpl hb; omega
      · have e4 : q ≠ x := fun hne => e2 ⟨hne, e3, hpl⟩
        rw [if_neg e3, if_neg e4]
        unfold putM at hb ⊢
        rw [if_pos ⟨e3, e4⟩, putG_at e3 e4] at hb ⊢
        have hs := sm_rg (putD m x ld p) (putU m x lu q)
        have hmr := hr p q hpl hql
        unfold rg at hs
        have step : sm (putD m x ld p) (putU m x lu q) ≠ 2305843009213693952 → f p - f q ≤ sm (putD m x ld p) (putU m x lu q) := fun hn => by
          have b1 := sm_none hn
          have b2 := sm_ge hn
          have b3 := dS_meets h hp hpl 60 (Nat.le_refl _) b1.1
          have b4 := uS_meets h hp hql 60 (Nat.le_refl _) b1.2
          unfold putD putU at *
          omega
        by_cases c1 : m p q = 2305843009213693952
        · by_cases c2 : sm (putD m x ld p) (putU m x lu q) = 2305843009213693952
          · exact absurd (by rw [c1, c2]; omega) hb
          · have := step c2; omega
        · have h1 := h p q hpl hql c1
          by_cases c2 : sm (putD m x ld p) (putU m x lu q) = 2305843009213693952
          · omega
          · have := step c2; omega

/-- Put's own bounds stand in its table. -/
theorem uS_le {A : Nat → Int} {G : Nat → Nat → Int} {q j : Nat} (hj : j ≠ x) (hq : q ≠ x) : ∀ k, j < k → uS A G x q k ≤ sm (A j) (G j q)
  | 0, h => by omega
  | k + 1, h => by
    by_cases c : k ≠ x ∧ q ≠ x
    · rw [uS_go c]
      by_cases e : j = k
      · subst e; omega
      · have := uS_le (A := A) (G := G) hj hq k (by omega); omega
    · rw [uS_stay c]
      have : j ≠ k := fun e => c ⟨e ▸ hj, hq⟩
      exact uS_le hj hq k (by omega)
theorem dS_le {A : Nat → Int} {G : Nat → Nat → Int} {q j : Nat} (hj : j ≠ x) (hq : q ≠ x) : ∀ k, j < k → dS A G x q k ≤ sm (G q j) (A j)
  | 0, h => by omega
  | k + 1, h => by
    by_cases c : k ≠ x ∧ q ≠ x
    · rw [dS_go c]
      by_cases e : j = k
      · subst e; omega
      · have := dS_le (A := A) (G := G) hj hq k (by omega); omega
    · rw [dS_stay c]
      have : j ≠ k := fun e => c ⟨e ▸ hj, hq⟩
      exact dS_le hj hq k (by omega)

theorem put_row {k : Nat} (hk : k < 60) (hkx : k ≠ x) : putT m x lu ld x k = putU m x lu k ∧ putT m x lu ld k x = putD m x ld k := by
  unfold putT rcW
  constructor
  · rw [if_pos ⟨rfl, hkx, hk⟩]
  · rw [if_neg (fun h => hkx h.1), if_pos ⟨rfl, hkx, hk⟩]

theorem sm_zero {a : Int} (h : rg a) : sm a 0 = a := by
  unfold rg at h; unfold sm
  by_cases e : a = 2305843009213693952
  · rw [if_pos (Or.inl e), e]
  · rw [if_neg (by omega), if_neg (by omega)]; omega
theorem sm_zeroL {a : Int} (h : rg a) : sm 0 a = a := by
  unfold rg at h; unfold sm
  by_cases e : a = 2305843009213693952
  · rw [if_pos (Or.inr (Or.inl e)), e]
  · rw [if_neg (by omega), if_neg (by omega)]; omega

theorem put_own (hd : ∀ p, p < 60 → m p p = 0) (hu : okTo x lu 60 = true) (hl : okTo x ld 60 = true) {k : Nat} (hk : k < 60) (hkx : k ≠ x) :
    putU m x lu k ≤ abv x lu k ∧ putD m x ld k ≤ abv x ld k := by
  have h1 := uS_le (A := abv x lu) (G := putG m x) hkx hkx 60 hk
  have h2 := dS_le (A := abv x ld) (G := putG m x) hkx hkx 60 hk
  rw [putG_at hkx hkx, hd k hk] at h1 h2
  rw [sm_zero (abv_rg hu hk)] at h1
  rw [sm_zeroL (abv_rg hl hk)] at h2
  exact ⟨h1, h2⟩
end

/-- The diagonal of what With makes of the whole space. -/
theorem with_diag {l : List Cn} {f : Nat → Int} (h : MtZ (zwith znew l) f) {p : Nat} (hp : p < 60) : (zwith znew l).m p p = 0 := by
  have h1 := zwith_within l znew
  unfold withinZ at h1
  rw [h.1, Bool.false_or, show znew.e = false from rfl] at h1
  rw [if_neg (by decide)] at h1
  have h2 := leT_iff.1 h1 p p hp hp
  have h3 : znew.m p p = 0 := by show topT p p = 0; unfold topT; rw [if_pos rfl]
  rw [h3] at h2
  have h4 := h.2 p p hp hp (by omega)
  omega

end Go.Proofs.YtfpbjjdlchplnaaR
