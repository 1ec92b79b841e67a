/- Plain facts of ZoneRenews: Put's table of small bounds is closed. No program. -/
import Derived.Test.YtfpbjjdlchplnaaRSound
namespace Go.Proofs.YtfpbjjdlchplnaaR
open Go Go.RowKit Go.Wr

/-- Bounds within 2^40, or none. -/
def Near (A : Nat → Int) : Prop := ∀ k, k < 60 → A k ≠ 2305843009213693952 → -1099511627776 ≤ A k ∧ A k ≤ 1099511627776
def SmallG (G : Nat → Nat → Int) : Prop := ∀ p q, p < 60 → q < 60 → G p q ≠ 2305843009213693952 → -64871186038784 ≤ G p q ∧ G p q ≤ 64871186038784

section
variable {A : Nat → Int} {G : Nat → Nat → Int} {x q : Nat}

theorem uS_at (hA : Near A) (hG : SmallG G) (hq : q < 60) (_hqx : q ≠ x) : ∀ k, k ≤ 60 → uS A G x q k = 2305843009213693952 ∨ ∃ j, j < 60 ∧ j ≠ x ∧ A j ≠ 2305843009213693952 ∧ G j q ≠ 2305843009213693952 ∧ uS A G x q k = A j + G j q
  | 0, _ => Or.inl rfl
  | k + 1, hk => by
    have ih := uS_at hA hG hq _hqx k (by omega)
    by_cases c : k ≠ x ∧ q ≠ x
    · rw [uS_go c]
      by_cases e : sm (A k) (G k q) = 2305843009213693952
      · rw [e]
        rcases ih with ih | ⟨j, hj, hjx, h1, h2, ih⟩
        · rw [ih]; left; omega
        · right
          have a := hA j hj h1
          have b := hG j q hj hq h2
          exact ⟨j, hj, hjx, h1, h2, by rw [ih]; omega⟩
      · obtain ⟨h1, h2⟩ := sm_none e
        have a := hA k (by omega) h1
        have b := hG k q (by omega) hq h2
        have es := sm_exact h1 h2 (by omega) (by omega)
        rw [es]
        by_cases hl : uS A G x q k ≤ A k + G k q
        · rw [Int.min_eq_left hl]
          exact ih
        · rw [Int.min_eq_right (by omega)]
          exact Or.inr ⟨k, by omega, c.1, h1, h2, rfl⟩
    · rw [uS_stay c]; exact ih

theorem dS_at (hA : Near A) (hG : SmallG G) (hq : q < 60) (_hqx : q ≠ x) : ∀ k, k ≤ 60 → dS A G x q k = 2305843009213693952 ∨ ∃ j, j < 60 ∧ j ≠ x ∧ A j ≠ 2305843009213693952 ∧ G q j ≠ 2305843009213693952 ∧ dS A G x q k = G q j + A j
  | 0, _ => Or.inl rfl
  | k + 1, hk => by
    have ih := dS_at hA hG hq _hqx k (by omega)
    by_cases c : k ≠ x ∧ q ≠ x
    · rw [dS_go c]
      by_cases e : sm (G q k) (A k) = 2305843009213693952
      · rw [e]
        rcases ih with ih | ⟨j, hj, hjx, h1, h2, ih⟩
        · rw [ih]; left; omega
        · right
          have a := hA j hj h1
          have b := hG q j hq hj h2
          exact ⟨j, hj, hjx, h1, h2, by rw [ih]; omega⟩
      · obtain ⟨h2, h1⟩ := sm_none e
        have a := hA k (by omega) h1
        have b := hG q k hq (by omega) h2
        have es := sm_exact h2 h1 (by omega) (by omega)
        rw [es]
        by_cases hl : dS A G x q k ≤ G q k + A k
        · rw [Int.min_eq_left hl]
          exact ih
        · rw [Int.min_eq_right (by omega)]
          exact Or.inr ⟨k, by omega, c.1, h1, h2, rfl⟩
    · rw [dS_stay c]; exact ih
end

section
variable {m : Nat → Nat → Int} {x : Nat} {lu ld : List (Bool × Int)}

theorem putG_small (h : Cl 64871186038784 m) : SmallG (putG m x) := fun p q hp hq hb => (h.fgtL (l := [(x : Int)])).small p q hp hq hb

theorem putU_step (h : Cl 64871186038784 m) (hu : Near (abv x lu)) {q r : Nat} (hq : q < 60) (hr : r < 60) (hqx : q ≠ x) (hrx : r ≠ x) (hb : putU m x lu q ≠ 2305843009213693952) (hm : m q r ≠ 2305843009213693952) :
    putU m x lu r ≠ 2305843009213693952 ∧ putU m x lu r ≤ putU m x lu q + m q r := by
  rcases uS_at (x := x) hu (putG_small h) hq hqx 60 (Nat.le_refl _) with e | ⟨j, hj, hjx, h1, h2, e⟩
  · exact absurd e hb
  · rw [putG_at hjx hqx] at h2 e
    obtain ⟨t1, t2⟩ := h.tri j q r hj hq hr h2 hm
    have a := hu j hj h1
    have b := h.small j r hj hr t1
    have hle := uS_le (A := abv x lu) (G := putG m x) hjx hrx 60 hj
    rw [putG_at hjx hrx, sm_exact h1 t1 (by omega) (by omega)] at hle
    have e' : putU m x lu q = abv x lu j + m j q := e
    have hle' : putU m x lu r ≤ abv x lu j + m j r := hle
    omega

theorem putD_step (h : Cl 64871186038784 m) (hu : Near (abv x ld)) {p q : Nat} (hp : p < 60) (hq : q < 60) (hpx : p ≠ x) (hqx : q ≠ x) (hm : m p q ≠ 2305843009213693952) (hb : putD m x ld q ≠ 2305843009213693952) :
    putD m x ld p ≠ 2305843009213693952 ∧ putD m x ld p ≤ m p q + putD m x ld q := by
  rcases dS_at (x := x) hu (putG_small h) hq hqx 60 (Nat.le_refl _) with e | ⟨j, hj, hjx, h1, h2, e⟩
  · exact absurd e hb
  · rw [putG_at hqx hjx] at h2 e
    obtain ⟨t1, t2⟩ := h.tri p q j hp hq hj hm h2
    have a := hu j hj h1
    have b := h.small p j hp hj t1
    have hle := dS_le (A := abv x ld) (G := putG m x) hjx hpx 60 hj
    rw [putG_at hpx hjx, sm_exact t1 h1 (by omega) (by omega)] at hle
    have e' : putD m x ld q = m q j + abv x ld j := e
    have hle' : putD m x ld p ≤ m p j + abv x ld j := hle
    omega

theorem putU_small (h : Cl 64871186038784 m) (hu : Near (abv x lu)) {q : Nat} (hq : q < 60) (hqx : q ≠ x) (hb : putU m x lu q ≠ 2305843009213693952) : -65970697666560 ≤ putU m x lu q ∧ putU m x lu q ≤ 65970697666560 := by
  rcases uS_at (x := x) hu (putG_small h) hq hqx 60 (Nat.le_refl _) with e | ⟨j, hj, hjx, h1, h2, e⟩
  · exact absurd e hb
  · have a := hu j hj h1
    have b := putG_small h j q hj hq h2
    have e' : putU m x lu q = abv x lu j + putG m x j q := e
    omega
theorem putD_small (h : Cl 64871186038784 m) (hu : Near (abv x ld)) {q : Nat} (hq : q < 60) (hqx : q ≠ x) (hb : putD m x ld q ≠ 2305843009213693952) : -65970697666560 ≤ putD m x ld q ∧ putD m x ld q ≤ 65970697666560 := by
  rcases dS_at (x := x) hu (putG_small h) hq hqx 60 (Nat.le_refl _) with e | ⟨j, hj, hjx, h1, h2, e⟩
  · exact absurd e hb
  · have a := hu j hj h1
    have b := putG_small h q j hq hj h2
    have e' : putD m x ld q = putG m x q j + abv x ld j := e
    omega

/-- An entry between two others. -/
theorem putT_mid (h : Cl 64871186038784 m) (hu : Near (abv x lu)) (hd : Near (abv x ld)) {p q : Nat} (hp : p < 60) (hq : q < 60) (hpx : p ≠ x) (hqx : q ≠ x) :
    (m p q ≠ 2305843009213693952 → putT m x lu ld p q ≠ 2305843009213693952 ∧ putT m x lu ld p q ≤ m p q) ∧
    (putD m x ld p ≠ 2305843009213693952 → putU m x lu q ≠ 2305843009213693952 → putT m x lu ld p q ≠ 2305843009213693952 ∧ putT m x lu ld p q ≤ putD m x ld p + putU m x lu q) ∧
    (putT m x lu ld p q ≠ 2305843009213693952 → (m p q ≠ 2305843009213693952 ∧ putT m x lu ld p q = m p q) ∨ (putD m x ld p ≠ 2305843009213693952 ∧ putU m x lu q ≠ 2305843009213693952 ∧ putT m x lu ld p q = putD m x ld p + putU m x lu q)) := by
  have e : putT m x lu ld p q = min (m p q) (sm (putD m x ld p) (putU m x lu q)) := by
    unfold putT rcW
    rw [if_neg (fun h => hpx h.1), if_neg (fun h => hqx h.1)]
    unfold putM
    rw [if_pos ⟨hpx, hqx⟩, putG_at hpx hqx]
  rw [e]
  by_cases e1 : putD m x ld p = 2305843009213693952
  · rw [e1, sm_noneL]
    by_cases e3 : m p q = 2305843009213693952
    · rw [e3]; exact ⟨fun h => absurd rfl h, fun h => absurd rfl h, fun h => absurd (by omega) h⟩
    · have s := h.small p q hp hq e3
      exact ⟨fun _ => by omega, fun h => absurd rfl h, fun _ => Or.inl ⟨e3, by omega⟩⟩
  · by_cases e2 : putU m x lu q = 2305843009213693952
    · rw [e2, sm_noneR]
      by_cases e3 : m p q = 2305843009213693952
      · rw [e3]; exact ⟨fun h => absurd rfl h, fun _ h => absurd rfl h, fun h => absurd (by omega) h⟩
      · have s := h.small p q hp hq e3
        exact ⟨fun _ => by omega, fun _ h => absurd rfl h, fun _ => Or.inl ⟨e3, by omega⟩⟩
    · have a := putD_small h hd hp hpx e1
      have b := putU_small h hu hq hqx e2
      rw [sm_exact e1 e2 (by omega) (by omega)]
      by_cases e3 : m p q = 2305843009213693952
      · rw [e3]; exact ⟨fun h => absurd rfl h, fun _ _ => by omega, fun _ => Or.inr ⟨e1, e2, by omega⟩⟩
      · have s := h.small p q hp hq e3
        refine ⟨fun _ => by omega, fun _ _ => by omega, fun _ => ?_⟩
        by_cases hl : m p q ≤ putD m x ld p + putU m x lu q
        · exact Or.inl ⟨e3, by omega⟩
        · exact Or.inr ⟨e1, e2, by omega⟩

theorem putT_xx (h : Cl 64871186038784 m) (hx : x < 60) : putT m x lu ld x x = 0 := by
  unfold putT rcW
  rw [if_neg (fun h => h.2.1 rfl), if_neg (fun h => h.2.1 rfl)]
  unfold putM
  rw [if_neg (fun h => h.1 rfl), putG_xx]
  exact h.diag x hx

theorem put_cl (h : Cl 64871186038784 m) (hu : Near (abv x lu)) (hd : Near (abv x ld)) (hx : x < 60) (hz : ∀ p, p < 60 → 0 ≤ putT m x lu ld p p) : Cl 281474976710656 (putT m x lu ld) := by
  have M := fun (p q : Nat) (hp : p < 60) (hq : q < 60) (hpx : p ≠ x) (hqx : q ≠ x) => putT_mid (m := m) h hu hd hp hq hpx hqx
  have R := fun (k : Nat) (hk : k < 60) (hkx : k ≠ x) => put_row (m := m) (lu := lu) (ld := ld) hk hkx
  have nn : ∀ p, p < 60 → p ≠ x → putD m x ld p ≠ 2305843009213693952 → putU m x lu p ≠ 2305843009213693952 → 0 ≤ putD m x ld p + putU m x lu p := fun p hp hpx h1 h2 => by
    have := ((M p p hp hp hpx hpx).2.1 h1 h2).2
    have := hz p hp
    omega
  refine ⟨fun p hp => ?_, fun p k q hp hk hq h1 h2 => ?_, fun p q hp hq hb => ?_⟩
  · by_cases e : p = x
    · subst e; exact putT_xx h hp
    · have d := h.diag p hp
      have := ((M p p hp hp e e).1 (by omega)).2
      have := hz p hp
      omega
  · by_cases ep : p = x
    · subst ep
      by_cases ek : k = p
      · subst ek
        rw [putT_xx h hk]
        exact ⟨h2, by omega⟩
      · rw [(R k hk ek).1] at h1 ⊢
        by_cases eq : q = p
        · subst eq
          rw [(R k hk ek).2] at h2 ⊢
          rw [putT_xx h hq]
          have := nn k hk ek h2 h1
          exact ⟨by omega, by omega⟩
        · rw [(R q hq eq).1]
          rcases (M k q hk hq ek eq).2.2 h2 with ⟨g, e⟩ | ⟨g1, g2, e⟩
          · have := putU_step h hu hk hq ek eq h1 g
            rw [e]; exact this
          · have := nn k hk ek g1 h1
            rw [e]; exact ⟨g2, by omega⟩
    · by_cases ek : k = x
      · subst ek
        rw [(R p hp ep).2] at h1 ⊢
        by_cases eq : q = k
        · subst eq
          rw [(R p hp ep).2, putT_xx h hq]
          exact ⟨h1, by omega⟩
        · rw [(R q hq eq).1] at h2 ⊢
          exact (M p q hp hq ep eq).2.1 h1 h2
      · have mpk := (M p k hp hk ep ek).2.2 h1
        by_cases eq : q = x
        · subst eq
          rw [(R k hk ek).2] at h2 ⊢
          rw [(R p hp ep).2]
          rcases mpk with ⟨g, e⟩ | ⟨g1, g2, e⟩
          · have := putD_step h hd hp hk ep ek g h2
            rw [e]; exact this
          · have := nn k hk ek h2 g2
            rw [e]; exact ⟨g1, by omega⟩
        · have mkq := (M k q hk hq ek eq).2.2 h2
          rcases mpk with ⟨g, e⟩ | ⟨g1, g2, e⟩
          · rcases mkq with ⟨g', e'⟩ | ⟨g1', g2', e'⟩
            · obtain ⟨t1, t2⟩ := h.tri p k q hp hk hq g g'
              have := (M p q hp hq ep eq).1 t1
              exact ⟨this.1, by omega⟩
            · have d := putD_step h hd hp hk ep ek g g1'
              have := (M p q hp hq ep eq).2.1 d.1 g2'
              exact ⟨this.1, by omega⟩
          · rcases mkq with ⟨g', e'⟩ | ⟨g1', g2', e'⟩
            · have d := putU_step h hu hk hq ek eq g2 g'
              have := (M p q hp hq ep eq).2.1 g1 d.1
              exact ⟨this.1, by omega⟩
            · have n := nn k hk ek g1' g2
              have := (M p q hp hq ep eq).2.1 g1 g2'
              exact ⟨this.1, by omega⟩
  · by_cases ep : p = x
    · subst ep
      by_cases eq : q = p
      · subst eq; rw [putT_xx h hq]; omega
      · rw [(R q hq eq).1] at hb ⊢
        have := putU_small h hu hq eq hb; omega
    · by_cases eq : q = x
      · subst eq
        rw [(R p hp ep).2] at hb ⊢
        have := putD_small h hd hp ep hb; omega
      · rcases (M p q hp hq ep eq).2.2 hb with ⟨g, e⟩ | ⟨g1, g2, e⟩
        · have := h.small p q hp hq g; omega
        · have a := putD_small h hd hp ep g1
          have b := putU_small h hu hq eq g2
          omega

/-- Numbers that meet Put's table come, but for x, of the zone ahead. -/
theorem put_open (h : Cl 64871186038784 m) (hu : Near (abv x lu)) (hd : Near (abv x ld)) (hx1 : 1 ≤ x) (hx : x < 60) {f : Nat → Int} (hf : Mt (putT m x lu ld) f) : MtO m f (opn [(x : Int)]) := fun p q hp hq h1 h2 hb => by
  unfold opn at h1 h2
  simp only [List.any_cons, List.any_nil, Bool.or_false, decide_eq_false_iff_not, Int.toNat_natCast] at h1 h2
  have n1 : p ≠ x := by omega
  have n2 : q ≠ x := by omega
  obtain ⟨a, b⟩ := (putT_mid (m := m) h hu hd hp hq n1 n2).1 hb
  have := hf p q hp hq a
  omega
end

end Go.Proofs.YtfpbjjdlchplnaaR
