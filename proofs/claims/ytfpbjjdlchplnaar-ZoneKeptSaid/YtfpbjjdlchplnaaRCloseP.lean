/- Plain facts: what Close makes of bounds that are small is the tight table, or the empty zone where a walk comes back lighter. No program. -/
import Derived.Test.YtfpbjjdlchplnaaRCloW
import Derived.Test.YtfpbjjdlchplnaaRClose
namespace Go.Proofs.YtfpbjjdlchplnaaR
open Go Go.RowKit Go.Wr

/-- A walk whose inner places are below k. -/
def Rw (l : List Cn) (k : Nat) : Nat → Nat → Nat → Int → Prop
  | 0, p, q, s => p = q ∧ s = 0
  | n + 1, p, q, s => ∃ x, x ∈ l ∧ x.i.toNat = p ∧ (n = 0 ∨ x.j.toNat < k) ∧ ∃ s', s = x.c + s' ∧ Rw l k n x.j.toNat q s'

theorem Rw.wk {l : List Cn} {k : Nat} : ∀ {n p q : Nat} {s : Int}, Rw l k n p q s → Wk l n p q s
  | 0, _, _, _, h => h
  | _ + 1, _, _, _, ⟨x, hx, hp, _, s', hs, h⟩ => ⟨x, hx, hp, s', hs, Rw.wk h⟩

theorem Rw.of_wk {l : List Cn} (hv : ∀ x ∈ l, x.i.toNat < 60 ∧ x.j.toNat < 60) : ∀ {n p q : Nat} {s : Int}, Wk l n p q s → Rw l 60 n p q s
  | 0, _, _, _, h => h
  | _ + 1, _, _, _, ⟨x, hx, hp, s', hs, h⟩ => ⟨x, hx, hp, Or.inr (hv x hx).2, s', hs, Rw.of_wk hv h⟩

theorem Rw.mono {l : List Cn} {k k' : Nat} (hk : k ≤ k') : ∀ {n p q : Nat} {s : Int}, Rw l k n p q s → Rw l k' n p q s
  | 0, _, _, _, h => h
  | _ + 1, _, _, _, ⟨x, hx, hp, hc, s', hs, h⟩ => ⟨x, hx, hp, hc.imp id (fun h => by omega), s', hs, Rw.mono hk h⟩

theorem Rw.append {l : List Cn} {k : Nat} : ∀ {n m p r q : Nat} {s t : Int}, Rw l k n p r s → Rw l k m r q t → (r < k ∨ n = 0 ∨ m = 0) → Rw l k (n + m) p q (s + t)
  | 0, m, p, r, q, s, t, h, g, _ => by
    obtain ⟨rfl, rfl⟩ := h
    simpa using g
  | n + 1, m, p, r, q, s, t, ⟨x, hx, hp, hc, s', hs, h⟩, g, hr => by
    rw [show n + 1 + m = (n + m) + 1 by omega]
    refine ⟨x, hx, hp, ?_, s' + t, by omega, Rw.append h g ?_⟩
    · rcases hc with hc | hc
      · subst hc
        obtain ⟨e, _⟩ := h
        rcases hr with hr | hr | hr
        · right; rw [e]; exact hr
        · omega
        · left; omega
      · exact Or.inr hc
    · rcases hr with hr | hr | hr
      · exact Or.inl hr
      · omega
      · exact Or.inr (Or.inr hr)

theorem Rw.places {l : List Cn} {kk : Nat} (hv : ∀ x ∈ l, x.i.toNat < 60 ∧ x.j.toNat < 60) : ∀ {n p q : Nat} {s : Int}, p < 60 → Rw l kk n p q s →
    ∃ (f : Nat → Nat) (g : Nat → Int), f 0 = p ∧ f n = q ∧ g 0 = 0 ∧ g n = s ∧ (∀ k, k ≤ n → f k < 60) ∧ (∀ k, 0 < k → k < n → f k < kk) ∧ ∀ a b, a ≤ b → b ≤ n → Rw l kk (b - a) (f a) (f b) (g b - g a)
  | 0, p, q, s, hp, h => by
    obtain ⟨rfl, rfl⟩ := h
    refine ⟨fun _ => p, fun _ => 0, rfl, rfl, rfl, rfl, fun _ _ => hp, fun k _ _ => by omega, fun a b hab hb => ?_⟩
    obtain rfl : b = 0 := by omega
    obtain rfl : a = 0 := by omega
    exact ⟨rfl, by simp⟩
  | n + 1, p, q, s, hp, ⟨x, hx, hxp, hc, s', hs, h⟩ => by
    obtain ⟨f, g, f0, fn, g0, gn, hf, hi, hw⟩ := Rw.places hv (hv x hx).2 h
    refine ⟨fun k => match k with | 0 => p | k + 1 => f k, fun k => match k with | 0 => 0 | k + 1 => x.c + g k, rfl, fn, rfl, by show x.c + g n = s; rw [gn]; exact hs.symm, fun k hk => ?_, fun k hk hkn => ?_, fun a b hab hb => ?_⟩
    · cases k with
      | zero => exact hp
      | succ k => exact hf k (by omega)
    · cases k with
      | zero => omega
      | succ k =>
        cases k with
        | zero =>
          show f 0 < kk
          rw [f0]
          rcases hc with hc | hc
          · omega
          · exact hc
        | succ k => exact hi (k + 1) (by omega) (by omega)
    · cases b with
      | zero =>
        obtain rfl : a = 0 := by omega
        exact ⟨rfl, by simp⟩
      | succ b =>
        cases a with
        | zero =>
          refine ⟨x, hx, hxp, ?_, g b, by simp, ?_⟩
          · rcases hc with hc | hc
            · left; omega
            · exact Or.inr hc
          · have := hw 0 b (by omega) (by omega)
            rw [f0, g0] at this
            simpa using this
        | succ a =>
          have := hw a b (by omega) (by omega)
          rw [show b + 1 - (a + 1) = b - a by omega]
          rw [show x.c + g b - (x.c + g a) = g b - g a by omega]
          exact this

theorem Rw.short {l : List Cn} {kk : Nat} (hv : ∀ x ∈ l, x.i.toNat < 60 ∧ x.j.toNat < 60) (hc : ∀ n p s, p < 60 → Rw l kk n p p s → 0 ≤ s) : ∀ (n p q : Nat) (s : Int), p < 60 → Rw l kk n p q s → ∃ n' s', n' ≤ 59 ∧ s' ≤ s ∧ Rw l kk n' p q s' := by
  intro n
  induction n using Nat.strongRecOn with
  | _ n ih =>
    intro p q s hp h
    by_cases hn : n ≤ 59
    · exact ⟨n, s, hn, Int.le_refl _, h⟩
    · obtain ⟨f, g, f0, fn, g0, gn, hf, hi, hw⟩ := Rw.places hv hp h
      obtain ⟨a, b, hab, hb, he⟩ := pigeon 60 f (fun k hk => hf k (by omega))
      have h1 := hw 0 a (by omega) (by omega)
      have h2 := hw a b (by omega) (by omega)
      have h3 := hw b n (by omega) (by omega)
      rw [← he] at h2 h3
      have hpos := hc _ _ _ (hf a (by omega)) h2
      rw [f0, g0] at h1
      rw [fn, gn] at h3
      have h4 := Rw.append h1 h3 (by
        by_cases ha : a = 0
        · right; left; omega
        · left; exact hi a (by omega) (by omega))
      obtain ⟨n', s', hn', hs', h'⟩ := ih (a - 0 + (n - b)) (by omega) p q _ hp h4
      exact ⟨n', s', hn', by omega, h'⟩

/-- The table after k places. -/
structure Inv (l : List Cn) (k : Nat) (T : Nat → Nat → Int) : Prop where
  closed : ∀ r, r < k → ∀ p q, p < 60 → q < 60 → T p r ≠ 2305843009213693952 → T r q ≠ 2305843009213693952 → T p q ≠ 2305843009213693952 ∧ T p q ≤ T p r + T r q
  edge : ∀ x ∈ l, T x.i.toNat x.j.toNat ≠ 2305843009213693952 ∧ T x.i.toNat x.j.toNat ≤ x.c
  att : ∀ p q, p < 60 → q < 60 → T p q ≠ 2305843009213693952 → ∃ n, Rw l k n p q (T p q)
  diag : ∀ p, p < 60 → T p p ≤ 0
  top : ∀ p q, p < 60 → q < 60 → T p q ≤ 2305843009213693952

theorem Inv.low {l : List Cn} {k : Nat} {T : Nat → Nat → Int} (h : Inv l k T) (hv : ∀ x ∈ l, x.i.toNat < 60 ∧ x.j.toNat < 60) : ∀ n p q s, p < 60 → q < 60 → Rw l k n p q s → T p q ≠ 2305843009213693952 ∧ T p q ≤ s := by
  intro n
  induction n with
  | zero =>
    rintro p q s hp hq ⟨rfl, rfl⟩
    have := h.diag p hp
    exact ⟨by omega, this⟩
  | succ n ih =>
    rintro p q s hp hq ⟨x, hx, rfl, hc, s', rfl, hw⟩
    obtain ⟨h1, h2⟩ := h.edge x hx
    rcases hc with hc | hc
    · subst hc
      obtain ⟨rfl, rfl⟩ := hw
      exact ⟨h1, by omega⟩
    · obtain ⟨h3, h4⟩ := ih _ q s' (hv x hx).2 hq hw
      obtain ⟨h5, h6⟩ := h.closed _ hc _ q hp hq h1 h3
      exact ⟨h5, by omega⟩

def NoNeg (l : List Cn) (k : Nat) : Prop := ∀ n p s, p < 60 → Rw l k n p p s → 0 ≤ s

theorem Inv.zero {l : List Cn} {k : Nat} {T : Nat → Nat → Int} (h : Inv l k T) (hc : NoNeg l k) {p : Nat} (hp : p < 60) : T p p = 0 := by
  have h1 := h.diag p hp
  obtain ⟨n, hw⟩ := h.att p p hp hp (by omega)
  have := hc n p _ hp hw
  omega

theorem Inv.small {l : List Cn} {k : Nat} {T : Nat → Nat → Int} {K : Int} (h : Inv l k T) (hc : NoNeg l k) (hl : Fine K l) (hK : 0 ≤ K) {p q : Nat} (hp : p < 60) (hq : q < 60) (hb : T p q ≠ 2305843009213693952) : -(59 * K) ≤ T p q ∧ T p q ≤ 59 * K := by
  obtain ⟨n, hw⟩ := h.att p q hp hq hb
  have hv : ∀ x ∈ l, x.i.toNat < 60 ∧ x.j.toNat < 60 := fun x hx => (hl x hx).1
  obtain ⟨n', s', hn', hs', hw'⟩ := Rw.short hv hc n p q _ hp hw
  have h1 := (h.low hv n' p q s' hp hq hw').2
  have h2 := Wk.bounds (fun x hx => (hl x hx).2) hw'.wk
  have h3 : (n' : Int) * K ≤ 59 * K := Int.mul_le_mul_of_nonneg_right (by omega) hK
  omega

theorem Inv.step {l : List Cn} {k : Nat} {T : Nat → Nat → Int} {K : Int} (h : Inv l k T) (hc : NoNeg l k) (hl : Fine K l) (hK : 0 ≤ K) (hK2 : K ≤ 70368744177664) (hk : k < 60) : Inv l (k + 1) (fws T k) := by
  have small : ∀ p q, p < 60 → q < 60 → T p q ≠ 2305843009213693952 → -(59 * K) ≤ T p q ∧ T p q ≤ 59 * K := fun p q hp hq hb => h.small hc hl hK hp hq hb
  have hd := h.zero hc hk
  have hnew : ∀ p q, p < 60 → q < 60 → (T p k ≠ 2305843009213693952 ∧ T k q ≠ 2305843009213693952 ∧ fws T k p q = min (T p q) (T p k + T k q)) ∨ ((T p k = 2305843009213693952 ∨ T k q = 2305843009213693952) ∧ fws T k p q = T p q) := by
    intro p q hp hq
    by_cases e1 : T p k = 2305843009213693952
    · right
      refine ⟨Or.inl e1, ?_⟩
      unfold fws; rw [if_pos e1]
    · have s1 := small p k hp hk e1
      by_cases e2 : T k q = 2305843009213693952
      · right
        refine ⟨Or.inr e2, ?_⟩
        unfold fws; rw [if_neg e1, e2, sm_noneR]
        have := h.top p q hp hq
        omega
      · left
        have s2 := small k q hk hq e2
        refine ⟨e1, e2, ?_⟩
        unfold fws
        rw [if_neg e1, sm_exact e1 e2 (by omega) (by omega)]
  have hbd : ∀ p q, p < 60 → q < 60 → fws T k p q ≠ 2305843009213693952 → (T p q ≠ 2305843009213693952 ∧ fws T k p q = T p q) ∨ (T p k ≠ 2305843009213693952 ∧ T k q ≠ 2305843009213693952 ∧ fws T k p q = T p k + T k q) := by
    intro p q hp hq hb
    rcases hnew p q hp hq with ⟨a, b, e⟩ | ⟨_, e⟩
    · by_cases hle : T p q ≤ T p k + T k q
      · left
        have : fws T k p q = T p q := by rw [e]; omega
        exact ⟨by rw [← this]; exact hb, this⟩
      · right; exact ⟨a, b, by rw [e]; omega⟩
    · left; exact ⟨by rw [← e]; exact hb, e⟩
  have hle1 : ∀ p q, p < 60 → q < 60 → fws T k p q ≤ T p q := fun p q hp hq => by
    rcases hnew p q hp hq with ⟨_, _, e⟩ | ⟨_, e⟩ <;> omega
  have hle2 : ∀ p q, p < 60 → q < 60 → T p k ≠ 2305843009213693952 → T k q ≠ 2305843009213693952 → fws T k p q ≠ 2305843009213693952 ∧ fws T k p q ≤ T p k + T k q := fun p q hp hq a b => by
    have := small p k hp hk a
    have := small k q hk hq b
    rcases hnew p q hp hq with ⟨_, _, e⟩ | ⟨o, e⟩
    · omega
    · rcases o with o | o
      · exact absurd o a
      · exact absurd o b
  have hold : ∀ p q, p < 60 → q < 60 → T p q ≠ 2305843009213693952 → fws T k p q ≠ 2305843009213693952 := fun p q hp hq hb => by
    have := small p q hp hq hb
    have := hle1 p q hp hq
    omega
  refine ⟨fun r hr p q hp hq h1 h2 => ?_, fun x hx => ?_, fun p q hp hq hb => ?_, fun p hp => ?_, fun p q hp hq => ?_⟩
  · by_cases er : r = k
    · subst er
      have a1 : T p r ≠ 2305843009213693952 ∧ fws T r p r = T p r := by
        rcases hbd p r hp hk h1 with a | ⟨a, _, e⟩
        · exact a
        · exact ⟨a, by omega⟩
      have a2 : T r q ≠ 2305843009213693952 ∧ fws T r r q = T r q := by
        rcases hbd r q hk hq h2 with a | ⟨_, a, e⟩
        · exact a
        · exact ⟨a, by omega⟩
      have := hle2 p q hp hq a1.1 a2.1
      exact ⟨this.1, by omega⟩
    · have hrk : r < k := by omega
      have hr60 : r < 60 := by omega
      rcases hbd p r hp hr60 h1 with ⟨a1, e1⟩ | ⟨a1, b1, e1⟩
      · rcases hbd r q hr60 hq h2 with ⟨a2, e2⟩ | ⟨a2, b2, e2⟩
        · obtain ⟨t1, t2⟩ := h.closed r hrk p q hp hq a1 a2
          have := hle1 p q hp hq
          exact ⟨hold p q hp hq t1, by omega⟩
        · obtain ⟨t1, t2⟩ := h.closed r hrk p k hp hk a1 a2
          have := hle2 p q hp hq t1 b2
          exact ⟨this.1, by omega⟩
      · rcases hbd r q hr60 hq h2 with ⟨a2, e2⟩ | ⟨a2, b2, e2⟩
        · obtain ⟨t1, t2⟩ := h.closed r hrk k q hk hq b1 a2
          have := hle2 p q hp hq a1 t1
          exact ⟨this.1, by omega⟩
        · obtain ⟨t1, t2⟩ := h.closed r hrk k k hk hk b1 a2
          have := hle2 p q hp hq a1 b2
          exact ⟨this.1, by omega⟩
  · obtain ⟨a, b⟩ := (hl x hx).1
    obtain ⟨h1, h2⟩ := h.edge x hx
    have := hle1 _ _ a b
    exact ⟨hold _ _ a b h1, by omega⟩
  · rcases hbd p q hp hq hb with ⟨a, e⟩ | ⟨a, b, e⟩
    · obtain ⟨n, w⟩ := h.att p q hp hq a
      exact ⟨n, by rw [e]; exact w.mono (by omega)⟩
    · obtain ⟨n1, w1⟩ := h.att p k hp hk a
      obtain ⟨n2, w2⟩ := h.att k q hk hq b
      exact ⟨_, by rw [e]; exact Rw.append (w1.mono (Nat.le_succ k)) (w2.mono (Nat.le_succ k)) (Or.inl (by omega))⟩
  · have := hle1 p p hp hp
    have := h.diag p hp
    omega
  · have := hle1 p q hp hq
    have := h.top p q hp hq
    omega

theorem edge_take {l : List Cn} : ∀ k, k ≤ l.length →
    (∀ x ∈ l.take k, edgeT (l.take k) x.i.toNat x.j.toNat ≤ x.c) ∧ (∀ p q, edgeT (l.take k) p q ≠ 2305843009213693952 → (p = q ∧ edgeT (l.take k) p q = 0) ∨ ∃ x, x ∈ l ∧ x.i.toNat = p ∧ x.j.toNat = q ∧ edgeT (l.take k) p q = x.c) ∧ (∀ p, edgeT (l.take k) p p ≤ 0) ∧ (∀ p q, edgeT (l.take k) p q ≤ 2305843009213693952) := by
  intro k
  induction k with
  | zero =>
    intro _
    rw [List.take_zero]
    have e0 : edgeT [] = topT := rfl
    rw [e0]
    refine ⟨fun x hx => (by cases hx), fun p q hb => ?_, fun p => by simp [topT], fun p q => by unfold topT; split <;> omega⟩
    left
    unfold topT at *
    split at hb
    · rename_i e; rw [if_pos e]; exact ⟨e, rfl⟩
    · exact absurd rfl hb
  | succ k ih =>
    intro hk
    obtain ⟨x, hx⟩ : ∃ x, l[k]? = some x := ⟨_, List.getElem?_eq_getElem (by omega)⟩
    obtain ⟨h1, h2, h3, h4⟩ := ih (by omega)
    have hm := List.mem_of_getElem? hx
    have hle : ∀ p q, edg (edgeT (l.take k)) x p q ≤ edgeT (l.take k) p q := fun p q => by
      unfold edg upd
      split
      · rename_i e; obtain ⟨rfl, rfl⟩ := e; omega
      · exact Int.le_refl _
    rw [edgeT_take hx]
    refine ⟨fun y hy => ?_, fun p q hb => ?_, fun p => Int.le_trans (hle p p) (h3 p), fun p q => Int.le_trans (hle p q) (h4 p q)⟩
    · rw [take_snoc hx] at hy
      rcases List.mem_append.1 hy with hy | hy
      · exact Int.le_trans (hle _ _) (h1 y hy)
      · simp only [List.mem_singleton] at hy
        subst hy
        unfold edg upd
        rw [if_pos ⟨rfl, rfl⟩]
        omega
    · unfold edg upd at hb ⊢
      by_cases e : p = x.i.toNat ∧ q = x.j.toNat
      · rw [if_pos e] at hb ⊢
        obtain ⟨rfl, rfl⟩ := e
        by_cases hlt : x.c < edgeT (l.take k) x.i.toNat x.j.toNat
        · right; exact ⟨x, hm, rfl, rfl, by omega⟩
        · have e2 : min (edgeT (l.take k) x.i.toNat x.j.toNat) x.c = edgeT (l.take k) x.i.toNat x.j.toNat := by omega
          rw [e2] at hb ⊢
          exact h2 _ _ hb
      · rw [if_neg e] at hb ⊢
        exact h2 p q hb

theorem inv_start {l : List Cn} {K : Int} (hK2 : K ≤ 70368744177664) (hl : Fine K l) : Inv l 0 (edgeT l) := by
  obtain ⟨h1, h2, h3, h4⟩ := edge_take (l := l) l.length (Nat.le_refl _)
  rw [List.take_length] at h1 h2 h3 h4
  refine ⟨fun r hr => by omega, fun x hx => ?_, fun p q _ _ hb => ?_, fun p _ => h3 p, fun p q _ _ => h4 p q⟩
  · have := h1 x hx
    have := (hl x hx).2
    exact ⟨by omega, by assumption⟩
  · rcases h2 p q hb with ⟨e, e0⟩ | ⟨x, hx, rfl, rfl, e⟩
    · exact ⟨0, e, e0⟩
    · exact ⟨1, x, hx, rfl, Or.inl rfl, 0, by omega, rfl, rfl⟩

theorem fws_le (m : Nat → Nat → Int) (k p q : Nat) : fws m k p q ≤ m p q := by
  unfold fws; split
  · exact Int.le_refl _
  · omega

theorem close_way {l : List Cn} {K : Int} (hK : 0 ≤ K) (hK2 : K ≤ 70368744177664) (hl : Fine K l) : ∀ n, n ≤ 60 → ((∃ p, p < 60 ∧ fwT l n p p < 0) ∧ NegC l) ∨ (Inv l n (fwT l n) ∧ NoNeg l n) := by
  have hv : ∀ x ∈ l, x.i.toNat < 60 ∧ x.j.toNat < 60 := fun x hx => (hl x hx).1
  have fork : ∀ k, Inv l k (fwT l k) → ((∃ p, p < 60 ∧ fwT l k p p < 0) ∧ NegC l) ∨ (Inv l k (fwT l k) ∧ NoNeg l k) := fun k h => by
    by_cases hc : NoNeg l k
    · exact Or.inr ⟨h, hc⟩
    · left
      unfold NoNeg at hc
      simp only [Classical.not_forall] at hc
      obtain ⟨n, p, s, hp, hw, hs⟩ := hc
      have := (h.low hv n p p s hp hp hw).2
      exact ⟨⟨p, hp, by omega⟩, n, p, s, hp, hw.wk, by omega⟩
  intro n
  induction n with
  | zero => intro _; exact fork 0 (inv_start hK2 hl)
  | succ n ih =>
    intro hn
    rcases ih (by omega) with ⟨⟨p, hp, h0⟩, hg⟩ | ⟨h, hc⟩
    · exact Or.inl ⟨⟨p, hp, Int.lt_of_le_of_lt (fws_le _ _ _ _) h0⟩, hg⟩
    · exact fork (n + 1) (h.step hc hl hK hK2 (by omega))

theorem good_close {l : List Cn} {K : Int} (hK : 0 ≤ K) (hK2 : K ≤ 70368744177664) (hl : Fine K l) : Good l (closeZ l) := by
  have hv : ∀ x ∈ l, x.i.toNat < 60 ∧ x.j.toNat < 60 := fun x hx => (hl x hx).1
  unfold closeZ
  have h60 := close_way hK hK2 hl 60 (Nat.le_refl _)
  generalize fwT l 60 = T at h60 ⊢
  rcases h60 with ⟨⟨p, hp, h0⟩, hg⟩ | ⟨h, hc⟩
  · rw [zset_void hp h0]
    exact Or.inl ⟨rfl, hg⟩
  · rw [zset_zone (fun p hp => by have := h.zero hc hp; omega)]
    refine Or.inr ⟨rfl, Tight.mk' hv (fun p hp => h.zero hc hp) (fun p k q hp hk hq h1 h2 => h.closed k hk p q hp hq h1 h2) h.edge (fun p q hp hq hb => ?_)⟩
    obtain ⟨n, w⟩ := h.att p q hp hq hb
    exact ⟨n, w.wk⟩

end Go.Proofs.YtfpbjjdlchplnaaR
