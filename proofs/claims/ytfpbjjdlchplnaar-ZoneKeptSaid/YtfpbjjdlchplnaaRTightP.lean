/- Plain facts: what reach makes of a tight table. No program. -/
import Derived.Test.YtfpbjjdlchplnaaRCloW
import Derived.Test.YtfpbjjdlchplnaaRReach
namespace Go.Proofs.YtfpbjjdlchplnaaR
open Go Go.RowKit Go.Wr

theorem reachA_low (m : Nat → Nat → Int) (j : Nat) (high : Int) (q : Nat) : ∀ n, reachA m j high q n ≤ 36028797018963968 ∧ (∀ k, k < n → m q k ≠ 2305843009213693952 → reachA m j high q n ≤ m q k + if k = j then 0 else high) ∧
    (reachA m j high q n = 36028797018963968 ∨ ∃ k, k < n ∧ m q k ≠ 2305843009213693952 ∧ reachA m j high q n = m q k + if k = j then 0 else high) := by
  intro n
  induction n with
  | zero => exact ⟨by simp [reachA], fun k hk => by omega, Or.inl (by simp [reachA])⟩
  | succ n ih =>
    obtain ⟨h1, h2, h3⟩ := ih
    rw [reachA_succ]
    unfold rstep
    by_cases hno : m q n = 2305843009213693952
    · rw [if_pos hno]
      refine ⟨h1, fun k hk hb => ?_, ?_⟩
      · by_cases e : k = n
        · subst e; exact absurd hno hb
        · exact h2 k (by omega) hb
      · rcases h3 with h3 | ⟨k, hk, hb, e⟩
        · exact Or.inl h3
        · exact Or.inr ⟨k, by omega, hb, e⟩
    · rw [if_neg hno]
      by_cases hlow : (m q n + if n = j then 0 else high) < reachA m j high q n
      · rw [if_pos hlow]
        refine ⟨by omega, fun k hk hb => ?_, Or.inr ⟨n, by omega, hno, rfl⟩⟩
        by_cases e : k = n
        · subst e; exact Int.le_refl _
        · exact Int.le_trans (Int.le_of_lt hlow) (h2 k (by omega) hb)
      · rw [if_neg hlow]
        refine ⟨h1, fun k hk hb => ?_, ?_⟩
        · by_cases e : k = n
          · subst e; exact Int.not_lt.1 hlow
          · exact h2 k (by omega) hb
        · rcases h3 with h3 | ⟨k, hk, hb, e⟩
          · exact Or.inl h3
          · exact Or.inr ⟨k, by omega, hb, e⟩

section
variable {l : List Cn} {m : Nat → Nat → Int}

theorem reach_at (ht : Tight l m) (j : Nat) {high : Int} (h0 : 0 ≤ high) (h1 : high ≤ 1125899906842624) {q : Nat} (hq : q < 60) :
    ∃ k, k < 60 ∧ m q k ≠ 2305843009213693952 ∧ reachA m j high q 60 = m q k + if k = j then 0 else high := by
  obtain ⟨_, h2, h3⟩ := reachA_low m j high q 60
  rcases h3 with h3 | h3
  · have hd := ht.diag q hq
    have := h2 q hq (by omega)
    rw [hd, h3] at this
    split at this <;> omega
  · exact h3

theorem reach_meets (ht : Tight l m) (j : Nat) {high : Int} (h0 : 0 ≤ high) (h1 : high ≤ 1125899906842624) {p q : Nat} (hp : p < 60) (hq : q < 60) (hb : m p q ≠ 2305843009213693952) :
    reachF m j high p - reachF m j high q ≤ m p q := by
  obtain ⟨k, hk, hkb, e⟩ := reach_at ht j h0 h1 hq
  obtain ⟨t1, t2⟩ := ht.tri hp hq hk hb hkb
  have := (reachA_low m j high p 60).2.1 k hk t1
  unfold reachF
  omega

theorem reach_edge (ht : Tight l m) (hl : ∀ x ∈ l, x.i.toNat < 60 ∧ x.j.toNat < 60) (j : Nat) {high : Int} (h0 : 0 ≤ high) (h1 : high ≤ 1125899906842624) {x : Cn} (hx : x ∈ l) :
    reachF m j high x.i.toNat - reachF m j high x.j.toNat ≤ x.c := by
  obtain ⟨hp, hq⟩ := hl x hx
  have hw := Wk.one hx
  have hb : m x.i.toNat x.j.toNat ≠ 2305843009213693952 := fun e => ht.none _ _ hp hq e _ _ hw
  have := reach_meets ht j h0 h1 hp hq hb
  have := ht.least _ _ hp hq _ _ hw
  omega

theorem reach_base (ht : Tight l m) {K : Int} (hf : Fine K l) (hK : 0 ≤ K) (hK2 : K ≤ 4398046511104) {j : Nat} (hj : j < 60) : reachA m j 1125899906842624 j 60 = 0 := by
  have hd := ht.diag j hj
  have h := (reachA_low m j 1125899906842624 j 60).2.1 j hj (by omega)
  rw [if_pos rfl] at h
  obtain ⟨k, hk, hb, e⟩ := reach_at ht j (high := 1125899906842624) (by omega) (by omega) hj
  have := ht.small hf hK hj hk hb
  by_cases ek : k = j
  · subst ek; rw [if_pos rfl] at e; omega
  · rw [if_neg ek] at e; omega

theorem reach_bound (ht : Tight l m) {K : Int} (hf : Fine K l) (hK : 0 ≤ K) (hK2 : K ≤ 4398046511104) {p j : Nat} (hp : p < 60) (hj : j < 60) (hb : m p j ≠ 2305843009213693952) :
    reachF m j 1125899906842624 p - reachF m j 1125899906842624 j = m p j := by
  have h0 := reach_base ht hf hK hK2 hj
  have h := (reachA_low m j 1125899906842624 p 60).2.1 j hj hb
  rw [if_pos rfl] at h
  obtain ⟨k, hk, hkb, e⟩ := reach_at ht j (high := 1125899906842624) (by omega) (by omega) hp
  have s1 := ht.small hf hK hp hk hkb
  have s2 := ht.small hf hK hp hj hb
  unfold reachF
  by_cases ek : k = j
  · subst ek; rw [if_pos rfl] at e; omega
  · rw [if_neg ek] at e; omega

theorem reach_far (ht : Tight l m) {K : Int} (hf : Fine K l) (hK : 0 ≤ K) (hK2 : K ≤ 4398046511104) {p j : Nat} (hp : p < 60) (hj : j < 60) (hb : m p j = 2305843009213693952) :
    281474976710656 < reachF m j 1125899906842624 p - reachF m j 1125899906842624 j := by
  have h0 := reach_base ht hf hK hK2 hj
  obtain ⟨k, hk, hkb, e⟩ := reach_at ht j (high := 1125899906842624) (by omega) (by omega) hp
  have s1 := ht.small hf hK hp hk hkb
  unfold reachF
  by_cases ek : k = j
  · subst ek; exact absurd hb hkb
  · rw [if_neg ek] at e; omega
end

theorem small_mem {l : List Cn} {x : Cn} (h : x ∈ smallL l) : wrongL [x] = 0 ∧ -1099511627776 ≤ x.c ∧ x.c ≤ 1099511627776 := by
  have := (List.mem_filter.1 h).2
  simp [smallC] at this
  exact this

theorem wrong_of_all {l : List Cn} (h : ∀ x ∈ l, wrongL [x] = 0) : wrongL l = 0 := by
  induction l with
  | nil => rfl
  | cons x r ih =>
    have h1 := h x (by simp)
    have h2 := ih (fun y hy => h y (by simp [hy]))
    unfold wrongL at h1 ⊢
    split
    · rename_i hv
      rw [if_pos hv] at h1
      split
      · exact h2
      · rename_i hb; rw [if_neg hb] at h1; exact h1
    · rename_i hv
      rw [if_neg hv] at h1
      exact h1

theorem small_wrong (l : List Cn) : wrongL (smallL l) = 0 := wrong_of_all fun _ hx => (small_mem hx).1

theorem small_fine (l : List Cn) : Fine 1099511627776 (smallL l) := fun x hx => by
  obtain ⟨h1, h2, h3⟩ := small_mem hx
  obtain ⟨xi, xj, xc⟩ := x
  obtain ⟨a, b, _⟩ := fine_of_wrong h1
  refine ⟨⟨?_, ?_⟩, h2, h3⟩
  · show xi.toNat < 60; omega
  · show xj.toNat < 60; omega

theorem met_all {l : List Cn} {f : Nat → Int} (hw : ∀ x ∈ l, wrongL [x] = 0) (h : ∀ x ∈ l, f x.i.toNat - f x.j.toNat ≤ x.c) : metL l f = l := by
  unfold metL
  rw [List.filter_eq_self]
  intro x hx
  have h1 := h x hx
  simp only [metC, hw x hx, beq_self_eq_true, Bool.true_and, Bool.not_eq_true', decide_eq_false_iff_not]
  omega

theorem walk_meets {l : List Cn} {f : Nat → Int} (h : ∀ x ∈ l, f x.i.toNat - f x.j.toNat ≤ x.c) : ∀ {n p q : Nat} {s : Int}, Wk l n p q s → f p - f q ≤ s
  | 0, _, _, _, ⟨rfl, rfl⟩ => by omega
  | n + 1, p, q, s, ⟨x, hx, hp, s', hs, hw⟩ => by
    subst hp
    have h1 := h x hx
    have h2 := walk_meets h hw
    omega

theorem met_some {l : List Cn} (hn : NegC l) (f : Nat → Int) : (metL l f).length < l.length := by
  unfold metL
  rw [List.length_filter_lt_length_iff_exists]
  apply Classical.byContradiction
  intro hno
  obtain ⟨n, p, s, hp, hw, hs⟩ := hn
  have := walk_meets (f := f) (fun x hx => by
    apply Classical.byContradiction
    intro hgt
    refine hno ⟨x, hx, ?_⟩
    simp only [metC, Bool.not_eq_true]
    have : decide (x.c < f x.i.toNat - f x.j.toNat) = true := by simp; omega
    rw [this]; simp) hw
  omega

end Go.Proofs.YtfpbjjdlchplnaaR
