/- Plain facts: walks along bounds; a table that tells the least weight of all walks; what With makes of bounds that are small. No program. -/
import Derived.Test.YtfpbjjdlchplnaaROrdP
namespace Go.Proofs.YtfpbjjdlchplnaaR
open Go Go.RowKit Go.Wr

/-- A walk of n bounds of the list from p to q, of weight s. -/
def Wk (l : List Cn) : Nat → Nat → Nat → Int → Prop
  | 0, p, q, s => p = q ∧ s = 0
  | n + 1, p, q, s => ∃ x, x ∈ l ∧ x.i.toNat = p ∧ ∃ s', s = x.c + s' ∧ Wk l n x.j.toNat q s'

theorem Wk.mono {l l' : List Cn} (h : ∀ x, x ∈ l → x ∈ l') : ∀ {n p q : Nat} {s : Int}, Wk l n p q s → Wk l' n p q s
  | 0, _, _, _, k => k
  | _ + 1, _, _, _, ⟨x, hx, hp, s', hs, k⟩ => ⟨x, h x hx, hp, s', hs, Wk.mono h k⟩

theorem Wk.append {l : List Cn} : ∀ {n m p r q : Nat} {s t : Int}, Wk l n p r s → Wk l m r q t → Wk l (n + m) p q (s + t)
  | 0, m, p, r, q, s, t, h, k => by
    obtain ⟨rfl, rfl⟩ := h
    simpa using k
  | n + 1, m, p, r, q, s, t, ⟨x, hx, hp, s', hs, h⟩, k => by
    rw [show n + 1 + m = (n + m) + 1 by omega]
    exact ⟨x, hx, hp, s' + t, by omega, Wk.append h k⟩

theorem Wk.one {l : List Cn} {x : Cn} (h : x ∈ l) : Wk l 1 x.i.toNat x.j.toNat x.c := ⟨x, h, rfl, 0, by omega, rfl, rfl⟩

/-- A walk's places, and how heavy it is up to each. -/
theorem Wk.places {l : List Cn} (hv : ∀ x ∈ l, x.i.toNat < 60 ∧ x.j.toNat < 60) : ∀ {n p q : Nat} {s : Int}, p < 60 → Wk l n p q s →
    ∃ (f : Nat → Nat) (g : Nat → Int), f 0 = p ∧ f n = q ∧ g 0 = 0 ∧ g n = s ∧ (∀ k, k ≤ n → f k < 60) ∧ ∀ a b, a ≤ b → b ≤ n → Wk l (b - a) (f a) (f b) (g b - g a)
  | 0, p, q, s, hp, h => by
    obtain ⟨rfl, rfl⟩ := h
    refine ⟨fun _ => p, fun _ => 0, rfl, rfl, rfl, rfl, fun _ _ => hp, fun a b hab hb => ?_⟩
    obtain rfl : b = 0 := by omega
    obtain rfl : a = 0 := by omega
    exact ⟨rfl, by simp⟩
  | n + 1, p, q, s, hp, ⟨x, hx, hxp, s', hs, h⟩ => by
    obtain ⟨f, g, f0, fn, g0, gn, hf, hw⟩ := Wk.places hv (hv x hx).2 h
    refine ⟨fun k => match k with | 0 => p | k + 1 => f k, fun k => match k with | 0 => 0 | k + 1 => x.c + g k, rfl, fn, rfl, by show x.c + g n = s; rw [gn]; exact hs.symm, fun k hk => ?_, fun a b hab hb => ?_⟩
    · cases k with
      | zero => exact hp
      | succ k => exact hf k (by omega)
    · cases b with
      | zero =>
        obtain rfl : a = 0 := by omega
        exact ⟨rfl, by simp⟩
      | succ b =>
        cases a with
        | zero =>
          refine ⟨x, hx, hxp, g b, by simp, ?_⟩
          have := hw 0 b (by omega) (by omega)
          rw [f0, g0] at this
          simpa using this
        | succ a =>
          have := hw a b (by omega) (by omega)
          rw [show b + 1 - (a + 1) = b - a by omega]
          rw [show x.c + g b - (x.c + g a) = g b - g a by omega]
          exact this

theorem pigeon : ∀ (n : Nat) (f : Nat → Nat), (∀ k, k ≤ n → f k < n) → ∃ a b, a < b ∧ b ≤ n ∧ f a = f b
  | 0, f, h => absurd (h 0 (Nat.le_refl _)) (by omega)
  | n + 1, f, h => by
    by_cases hd : ∃ a, a ≤ n ∧ f a = f (n + 1)
    · obtain ⟨a, ha, he⟩ := hd
      exact ⟨a, n + 1, by omega, Nat.le_refl _, he⟩
    · have hne : ∀ a, a ≤ n → f a ≠ f (n + 1) := fun a ha he => hd ⟨a, ha, he⟩
      have hv := h (n + 1) (Nat.le_refl _)
      obtain ⟨a, b, hab, hb, he⟩ := pigeon n (fun k => if f (n + 1) < f k then f k - 1 else f k) (fun k hk => by
        have h1 := h k (by omega)
        have h2 := hne k hk
        show (if f (n + 1) < f k then f k - 1 else f k) < n
        split <;> omega)
      refine ⟨a, b, hab, by omega, ?_⟩
      have h1 := hne a (by omega)
      have h2 := hne b (by omega)
      have he' : (if f (n + 1) < f a then f a - 1 else f a) = (if f (n + 1) < f b then f b - 1 else f b) := he
      split at he' <;> split at he' <;> omega

/-- Where no walk comes back lighter, each walk has one beside it that is short and no heavier. -/
theorem Wk.short {l : List Cn} (hv : ∀ x ∈ l, x.i.toNat < 60 ∧ x.j.toNat < 60) (hc : ∀ n p s, p < 60 → Wk l n p p s → 0 ≤ s) : ∀ (n p q : Nat) (s : Int), p < 60 → Wk l n p q s → ∃ n' s', n' ≤ 59 ∧ s' ≤ s ∧ Wk l n' p q s' := by
  intro n
  induction n using Nat.strongRecOn with
  | _ n ih =>
    intro p q s hp h
    by_cases hn : n ≤ 59
    · exact ⟨n, s, hn, Int.le_refl _, h⟩
    · obtain ⟨f, g, f0, fn, g0, gn, hf, hw⟩ := Wk.places hv hp h
      obtain ⟨a, b, hab, hb, he⟩ := pigeon 60 f (fun k hk => hf k (by omega))
      have h1 := hw 0 a (by omega) (by omega)
      have h2 := hw a b (by omega) (by omega)
      have h3 := hw b n (by omega) (by omega)
      rw [← he] at h2 h3
      have hpos := hc _ _ _ (hf a (by omega)) h2
      rw [f0, g0] at h1
      rw [fn, gn] at h3
      have h4 := Wk.append h1 h3
      obtain ⟨n', s', hn', hs', h'⟩ := ih (a - 0 + (n - b)) (by omega) p q _ hp h4
      exact ⟨n', s', hn', by omega, h'⟩

theorem Wk.bounds {l : List Cn} {K : Int} (hk : ∀ x ∈ l, -K ≤ x.c ∧ x.c ≤ K) : ∀ {n p q : Nat} {s : Int}, Wk l n p q s → -(n * K) ≤ s ∧ s ≤ n * K
  | 0, _, _, _, ⟨_, rfl⟩ => by simp
  | n + 1, _, _, _, ⟨x, hx, _, s', hs, h⟩ => by
    have h1 := hk x hx
    have h2 := Wk.bounds hk h
    have e : ((n + 1 : Nat) : Int) * K = n * K + K := by rw [Int.natCast_add, Int.add_mul]; simp
    rw [e]
    omega

/-- The table tells of each two variables the least weight of all walks from one to the other, or that there is none. -/
structure Tight (l : List Cn) (m : Nat → Nat → Int) : Prop where
  diag : ∀ p, p < 60 → m p p = 0
  none : ∀ p q, p < 60 → q < 60 → m p q = 2305843009213693952 → ∀ n s, ¬ Wk l n p q s
  some : ∀ p q, p < 60 → q < 60 → m p q ≠ 2305843009213693952 → ∃ n, n ≤ 59 ∧ Wk l n p q (m p q)
  least : ∀ p q, p < 60 → q < 60 → ∀ n s, Wk l n p q s → m p q ≤ s

def Fine (K : Int) (l : List Cn) : Prop := ∀ x ∈ l, (x.i.toNat < 60 ∧ x.j.toNat < 60) ∧ -K ≤ x.c ∧ x.c ≤ K

/-- A bound of such a table is small. -/
theorem Tight.small {l : List Cn} {m : Nat → Nat → Int} {K : Int} (h : Tight l m) (hl : Fine K l) (hK : 0 ≤ K) {p q : Nat} (hp : p < 60) (hq : q < 60) (hb : m p q ≠ 2305843009213693952) : -(59 * K) ≤ m p q ∧ m p q ≤ 59 * K := by
  obtain ⟨n, hn, hw⟩ := h.some p q hp hq hb
  have h1 := Wk.bounds (fun x hx => (hl x hx).2) hw
  have h2 : (n : Int) * K ≤ 59 * K := Int.mul_le_mul_of_nonneg_right (by omega) hK
  omega

/-- Bounds of such a table add up. -/
theorem Tight.tri {l : List Cn} {m : Nat → Nat → Int} (h : Tight l m) {p k q : Nat} (hp : p < 60) (hk : k < 60) (hq : q < 60) (h1 : m p k ≠ 2305843009213693952) (h2 : m k q ≠ 2305843009213693952) :
    m p q ≠ 2305843009213693952 ∧ m p q ≤ m p k + m k q := by
  obtain ⟨n, _, w1⟩ := h.some p k hp hk h1
  obtain ⟨n', _, w2⟩ := h.some k q hk hq h2
  have w := Wk.append w1 w2
  exact ⟨fun e => h.none p q hp hq e _ _ w, h.least p q hp hq _ _ w⟩

/-- Out of a table that is closed and attained by walks. -/
theorem Tight.mk' {l : List Cn} {m : Nat → Nat → Int} (hv : ∀ x ∈ l, x.i.toNat < 60 ∧ x.j.toNat < 60) (hd : ∀ p, p < 60 → m p p = 0)
    (hc : ∀ p k q, p < 60 → k < 60 → q < 60 → m p k ≠ 2305843009213693952 → m k q ≠ 2305843009213693952 → m p q ≠ 2305843009213693952 ∧ m p q ≤ m p k + m k q)
    (he : ∀ x ∈ l, m x.i.toNat x.j.toNat ≠ 2305843009213693952 ∧ m x.i.toNat x.j.toNat ≤ x.c)
    (ha : ∀ p q, p < 60 → q < 60 → m p q ≠ 2305843009213693952 → ∃ n, Wk l n p q (m p q)) : Tight l m := by
  have low : ∀ n p q s, p < 60 → q < 60 → Wk l n p q s → m p q ≠ 2305843009213693952 ∧ m p q ≤ s := by
    intro n
    induction n with
    | zero =>
      rintro p q s hp hq ⟨rfl, rfl⟩
      rw [hd p hp]
      exact ⟨by omega, Int.le_refl _⟩
    | succ n ih =>
      rintro p q s hp hq ⟨x, hx, rfl, s', rfl, hw⟩
      obtain ⟨h1, h2⟩ := he x hx
      obtain ⟨h3, h4⟩ := ih _ q s' (hv x hx).2 hq hw
      obtain ⟨h5, h6⟩ := hc _ _ q (hv x hx).1 (hv x hx).2 hq h1 h3
      exact ⟨h5, by omega⟩
  have cyc : ∀ n p s, p < 60 → Wk l n p p s → 0 ≤ s := fun n p s hp hw => by
    have := (low n p p s hp hp hw).2
    rw [hd p hp] at this
    exact this
  refine ⟨hd, fun p q hp hq e n s hw => (low n p q s hp hq hw).1 e, fun p q hp hq hb => ?_, fun p q hp hq n s hw => (low n p q s hp hq hw).2⟩
  obtain ⟨n, hw⟩ := ha p q hp hq hb
  obtain ⟨n', s', hn', hs', hw'⟩ := Wk.short hv cyc n p q _ hp hw
  have := (low n' p q s' hp hq hw').2
  obtain rfl : s' = m p q := by omega
  exact ⟨n', hn', hw'⟩

/-- Such a table is the one. -/
theorem Tight.unique {l l' : List Cn} {m m' : Nat → Nat → Int} (h : Tight l m) (h' : Tight l' m') (hs : ∀ x, x ∈ l ↔ x ∈ l') {p q : Nat} (hp : p < 60) (hq : q < 60) : m p q = m' p q := by
  by_cases e : m p q = 2305843009213693952
  · by_cases e' : m' p q = 2305843009213693952
    · rw [e, e']
    · obtain ⟨n, _, w⟩ := h'.some p q hp hq e'
      exact absurd (Wk.mono (fun x hx => (hs x).2 hx) w) (h.none p q hp hq e _ _)
  · by_cases e' : m' p q = 2305843009213693952
    · obtain ⟨n, _, w⟩ := h.some p q hp hq e
      exact absurd (Wk.mono (fun x hx => (hs x).1 hx) w) (h'.none p q hp hq e' _ _)
    · obtain ⟨n, _, w⟩ := h.some p q hp hq e
      obtain ⟨n', _, w'⟩ := h'.some p q hp hq e'
      have h1 := h'.least p q hp hq _ _ (Wk.mono (fun x hx => (hs x).1 hx) w)
      have h2 := h.least p q hp hq _ _ (Wk.mono (fun x hx => (hs x).2 hx) w')
      omega

end Go.Proofs.YtfpbjjdlchplnaaR
