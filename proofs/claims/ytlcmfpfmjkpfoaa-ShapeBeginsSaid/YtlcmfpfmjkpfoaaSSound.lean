/- Plain facts: numbers that meet a zone's bounds meet what With and Assign make of it. (Cut by gen_shape.py.) -/
import Derived.Test.YtlcmfpfmjkpfoaaSAsg
namespace Go.Proofs.Ytlcmfpfmjkpfoaa
open Go Go.RowKit Go.Wr

def Mt (m : Nat → Nat → Int) (f : Nat → Int) : Prop := ∀ p q, p < 60 → q < 60 → m p q ≠ 2305843009213693952 → f p - f q ≤ m p q
def putF (f : Nat → Int) (x : Nat) (v : Int) (q : Nat) : Int := if q = x then v else f q
/-- The numbers are an assignment of the zone. -/
def MtZ (z : Zn) (f : Nat → Int) : Prop := z.e = false ∧ Mt z.m f

theorem sm_none {a b : Int} (h : sm a b ≠ 2305843009213693952) : a ≠ 2305843009213693952 ∧ b ≠ 2305843009213693952 := by
  unfold sm at h
  constructor
  · intro e; apply h; rw [if_pos (Or.inl e)]
  · intro e; apply h; rw [if_pos (Or.inr (Or.inl e))]
theorem sm_ge {a b : Int} (h : sm a b ≠ 2305843009213693952) : a + b ≤ sm a b := by
  unfold sm at h ⊢
  split
  · rename_i c; rw [if_pos c] at h; exact absurd rfl h
  · split <;> omega

theorem mtz_new (f : Nat → Int) : MtZ znew f := ⟨rfl, fun p q _ _ hb => by
  show f p - f q ≤ topT p q
  unfold topT at *
  by_cases e : p = q
  · subst e; rw [if_pos rfl]; omega
  · exact absurd (show topT p q = 2305843009213693952 by unfold topT; rw [if_neg e]) hb⟩

theorem mtz_set {m : Nat → Nat → Int} {f : Nat → Int} (h : Mt m f) : MtZ (zset m) f := by
  rw [zset_zone (fun p hp => by
    by_cases e : m p p = 2305843009213693952
    · omega
    · have := h p p hp hp e; omega)]
  exact ⟨rfl, h⟩

theorem mt_add {m : Nat → Nat → Int} {f : Nat → Int} (h : Mt m f) {i j : Nat} {c : Int} (hi : i < 60) (hj : j < 60) (hc : f i - f j ≤ c) : Mt (zadd m i j c) f := fun p q hp hq hb => by
  unfold zadd at hb ⊢
  by_cases e : sm (m p i) c = 2305843009213693952
  · rw [if_pos e] at hb ⊢; exact h p q hp hq hb
  · rw [if_neg e] at hb ⊢
    have a1 := sm_none e
    have a2 := sm_ge e
    have a3 := h p i hp hi a1.1
    by_cases e2 : sm (sm (m p i) c) (m j q) = 2305843009213693952
    · have hle : m p q ≠ 2305843009213693952 → f p - f q ≤ min (m p q) (sm (sm (m p i) c) (m j q)) := fun hn => by
        have := h p q hp hq hn
        rw [e2]
        have hs := sm_ge e
        by_cases hm : m p q ≤ 2305843009213693952
        · rw [Int.min_eq_left hm]; exact this
        · rw [e2, Int.min_eq_right (by omega)] at hb; exact absurd rfl hb
      by_cases hn : m p q = 2305843009213693952
      · rw [hn, e2] at hb; exact absurd (by omega) hb
      · exact hle hn
    · have b1 := sm_none e2
      have b2 := sm_ge e2
      have b3 := h j q hj hq b1.2
      by_cases hn : m p q = 2305843009213693952
      · have : f p - f q ≤ sm (sm (m p i) c) (m j q) := by omega
        by_cases hm : sm (sm (m p i) c) (m j q) ≤ m p q
        · rw [Int.min_eq_right hm]; exact this
        · rw [Int.min_eq_left (by omega)] at hb ⊢; exact absurd hn hb
      · have := h p q hp hq hn
        omega

theorem mtz_and {z : Zn} {f : Nat → Int} (h : MtZ z f) {i j : Nat} {c : Int} (hi : i < 60) (hj : j < 60) (hc : f i - f j ≤ c) : MtZ (zand z i j c) f := by
  unfold zand
  rw [h.1]
  rw [if_neg (by decide)]
  by_cases e : i = j
  · subst e
    rw [if_pos rfl, if_pos (by omega)]; exact h
  · rw [if_neg e]
    split
    · exact h
    · by_cases e2 : sm (z.m j i) c = 2305843009213693952
      · rw [if_neg (by omega)]; exact mtz_set (mt_add h.2 hi hj hc)
      · have a1 := sm_none e2
        have a2 := sm_ge e2
        have a3 := h.2 j i hj hi a1.1
        rw [if_neg (by omega)]; exact mtz_set (mt_add h.2 hi hj hc)

/-- Numbers meet all bounds of a list, its variables all there. -/
def MtL (l : List Cn) (f : Nat → Int) : Prop := ∀ x ∈ l, x.i.toNat < 60 ∧ x.j.toNat < 60 ∧ f x.i.toNat - f x.j.toNat ≤ x.c

theorem mtz_with {l : List Cn} {f : Nat → Int} : ∀ {z : Zn}, MtZ z f → MtL l f → MtZ (zwith z l) f := by
  induction l with
  | nil => intro z h _; exact h
  | cons x r ih =>
    intro z h hl
    obtain ⟨h1, h2, h3⟩ := hl x (by simp)
    exact ih (mtz_and h h1 h2 h3) (fun y hy => hl y (by simp [hy]))

theorem mt_asg {m : Nat → Nat → Int} {f : Nat → Int} (h : Mt m f) {x y : Nat} {c : Int} (hy : y < 60) : Mt (asgT m x y c) (putF f x (f y + c)) := fun p q hp hq hb => by
  unfold asgT asgW at hb ⊢
  unfold putF
  by_cases e1 : p = x ∧ q ≠ x ∧ q < 60
  · rw [if_pos e1] at hb ⊢
    rw [if_pos e1.1, if_neg e1.2.1]
    have b1 := sm_none hb
    have b2 := sm_ge hb
    have b3 := h y q hy hq b1.1
    omega
  · rw [if_neg e1] at hb ⊢
    by_cases e2 : q = x ∧ p ≠ x ∧ p < 60
    · rw [if_pos e2] at hb ⊢
      rw [if_neg e2.2.1, if_pos e2.1]
      have b1 := sm_none hb
      have b2 := sm_ge hb
      have b3 := h p y hp hy b1.1
      omega
    · rw [if_neg e2] at hb ⊢
      have := h p q hp hq hb
      by_cases e3 : p = x
      · have e4 : q = x := by apply Classical.byContradiction; intro hne; exact e1 ⟨e3, hne, hq⟩
        rw [if_pos e3, if_pos e4]
        subst e3; subst e4; omega
      · have e4 : q ≠ x := fun hne => e2 ⟨hne, e3, hp⟩
        rw [if_neg e3, if_neg e4]; exact this


end Go.Proofs.Ytlcmfpfmjkpfoaa
