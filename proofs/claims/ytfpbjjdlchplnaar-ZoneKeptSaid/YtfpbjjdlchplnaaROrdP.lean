/- Plain facts on zones: Within is an order, Join and Widen stand above both. No program. -/
import Derived.Test.YtfpbjjdlchplnaaRJoin
namespace Go.Proofs.YtfpbjjdlchplnaaR
open Go Go.RowKit Go.Wr

theorem leT_refl (m : Nat → Nat → Int) : leT m m = true := leT_iff.2 fun _ _ _ _ => Int.le_refl _
theorem within_refl (a : Zn) : withinZ a a = true := by
  obtain ⟨e, m⟩ := a; cases e <;> simp [withinZ, leT_refl]
theorem within_trans {a b c : Zn} (h : withinZ a b = true) (k : withinZ b c = true) : withinZ a c = true := by
  obtain ⟨e, m⟩ := a; obtain ⟨e', m'⟩ := b; obtain ⟨e2, m2⟩ := c
  cases e <;> cases e' <;> cases e2 <;> simp [withinZ, leT_iff] at h k ⊢
  exact fun i j hi hj => Int.le_trans (h i j hi hj) (k i j hi hj)

theorem zset_within {m m' : Nat → Nat → Int} (h : ∀ i j, i < 60 → j < 60 → m i j ≤ m' i j) : withinZ (zset m) ⟨false, m'⟩ = true := by
  unfold zset
  split
  · rfl
  · simp only [withinZ, Bool.or_self, Bool.false_eq_true, if_false]; exact leT_iff.2 h

theorem zand_within (z : Zn) (i j : Nat) (c : Int) : withinZ (zand z i j c) z = true := by
  obtain ⟨e, m⟩ := z
  cases e with
  | true => simp [zand, withinZ]
  | false =>
    unfold zand
    simp only [Bool.false_eq_true, if_false]
    split
    · split
      · exact within_refl _
      · rfl
    · split
      · exact within_refl _
      · split
        · rfl
        · refine zset_within fun p q _ _ => ?_
          unfold zadd
          split <;> omega

theorem zwith_within (l : List Cn) : ∀ z : Zn, withinZ (zwith z l) z = true := by
  induction l with
  | nil => exact fun z => within_refl z
  | cons x r ih => exact fun z => within_trans (ih _) (zand_within _ _ _ _)

theorem same_of_within {a b : Zn} (h : withinZ a b = true) (k : withinZ b a = true) : sameZ a b = true := by
  obtain ⟨e, m⟩ := a; obtain ⟨e', m'⟩ := b
  cases e <;> cases e' <;> simp [withinZ, leT_iff, sameZ, eqT_iff] at h k ⊢
  exact fun i j hi hj => Int.le_antisymm (h i j hi hj) (k i j hi hj)

theorem same_comm (a b : Zn) : sameZ a b = sameZ b a := by
  obtain ⟨e, m⟩ := a; obtain ⟨e', m'⟩ := b
  cases e <;> cases e' <;> simp [sameZ]
  rw [Bool.eq_iff_iff, eqT_iff, eqT_iff]
  exact ⟨fun h i j hi hj => (h i j hi hj).symm, fun h i j hi hj => (h i j hi hj).symm⟩

theorem join_left (b c : Zn) : withinZ b (joinZ max b c) = true := by
  obtain ⟨e, m⟩ := b; obtain ⟨e', m'⟩ := c
  cases e <;> cases e' <;> simp [joinZ, withinZ, leT_iff] <;> intros <;> omega
theorem join_right (b c : Zn) : withinZ c (joinZ max b c) = true := by
  obtain ⟨e, m⟩ := b; obtain ⟨e', m'⟩ := c
  cases e <;> cases e' <;> simp [joinZ, withinZ, leT_iff] <;> intros <;> omega
theorem join_least {b c a : Zn} (h : withinZ b a = true) (k : withinZ c a = true) : withinZ (joinZ max b c) a = true := by
  obtain ⟨e, m⟩ := b; obtain ⟨e', m'⟩ := c; obtain ⟨e2, m2⟩ := a
  cases e <;> cases e' <;> cases e2 <;> simp [joinZ, withinZ, leT_iff] at h k ⊢ <;> first | assumption | skip
  intro i j hi hj
  have := h i j hi hj
  have := k i j hi hj
  omega
theorem join_same {b c : Zn} (h : withinZ b c = true) : sameZ (joinZ max b c) c = true :=
  same_of_within (join_least h (within_refl c)) (join_right b c)
theorem widen_join {b c : Zn} (hb : Rng b.m) (hc : Rng c.m) : withinZ (joinZ max b c) (joinZ wid b c) = true := by
  obtain ⟨e, m⟩ := b; obtain ⟨e', m'⟩ := c
  cases e <;> cases e' <;> simp [joinZ, withinZ, leT_iff, leT_refl]
  intro i j hi hj
  have h1 := hb i j hi hj
  have h2 := hc i j hi hj
  simp only at h1 h2
  unfold wid
  split <;> omega

end Go.Proofs.YtfpbjjdlchplnaaR
