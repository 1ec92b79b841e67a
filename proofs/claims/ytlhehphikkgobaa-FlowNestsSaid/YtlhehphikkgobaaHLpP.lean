/- Plain: a head's loop: its blocks go back to the head, loops lie one in the other or apart, a walk that comes back goes through the head of a loop that holds it. No program in sight. -/
import Derived.Test.YtlhehphikkgobaaFMk
namespace Go.Fl

section
variable {nx : Nat → List Nat} {pl : Nat → Nat} {n : Nat} {ah : Nat → List Nat}
theorem Lp.dom {h x : Nat} (k : Lp nx n h x) : Dom nx h x := by
  induction k with
  | head => exact Dom.refl _ _
  | latch _ _ d => exact d
  | back _ hne _ hv ih => exact ih.pred (Ne.symm hne) hv
theorem RW.lt' (g : Gr nx pl n ah) {l : List Nat} {b : Nat} (h : RW nx l b) : b < n := h.lt g b h.mem
/-- Back along a way to one of its blocks, until the head. -/
theorem Lp.way (g : Gr nx pl n ah) {h z : Nat} {l : List Nat} (hw : RW nx l z) : Lp nx n h z → ∃ c d, l = c ++ h :: d ∧ ∀ x ∈ c, Lp nx n h x ∧ x ≠ h := by
  induction hw with
  | root => exact fun k => ⟨[], [], by rw [k.dom.zero]; rfl, fun x hx => by cases hx⟩
  | @step l u v hl hv ih =>
    intro k
    by_cases e : v = h
    · exact ⟨[], l, by rw [e]; rfl, fun x hx => by cases hx⟩
    · obtain ⟨c, d, e1, h1⟩ := ih (Lp.back k e (hl.lt' g) hv)
      refine ⟨v :: c, d, by rw [e1]; rfl, fun x hx => ?_⟩
      rcases List.mem_cons.1 hx with rfl | hx
      · exact ⟨k, e⟩
      · exact h1 x hx
theorem RW.head {l : List Nat} {b x : Nat} (h : RW nx (x :: l) b) : x = b := by cases h <;> rfl
theorem RW.edge {y z b : Nat} {d : List Nat} : ∀ {c : List Nat}, RW nx (c ++ y :: z :: d) b → y ∈ nx z
  | [], h => by
    cases h with
    | step h1 h2 =>
      have e := h1.head
      rw [e]
      exact h2
  | x :: c, h => by
    cases hc : c ++ y :: z :: d with
    | nil => simp at hc
    | cons a r =>
      rw [List.cons_append, hc] at h
      cases h with
      | step h1 h2 =>
        rw [← hc] at h1
        exact RW.edge h1
/-- The head has an edge into its loop. -/
theorem Hd.out (g : Gr nx pl n ah) (hr : ∀ b, b < n → ∃ w, RW nx w b) {h : Nat} (k : Hd nx n h) : ∃ y, y ∈ nx h ∧ (y = h ∨ Lp nx n h y) := by
  obtain ⟨u, hu, h1, h2⟩ := k
  by_cases e : u = h
  · subst e; exact ⟨u, h1, Or.inl rfl⟩
  · obtain ⟨w, hw⟩ := hr u hu
    obtain ⟨c, d, e1, h3⟩ := Lp.way g hw (Lp.latch hu h1 h2)
    rcases List.eq_nil_or_concat c with hc | ⟨c', y, hc⟩
    · subst hc
      rw [e1] at hw
      exact absurd hw.head.symm e
    · subst hc
      have e2 : c'.concat y ++ h :: d = c' ++ y :: h :: d := by simp
      rw [e1, e2] at hw
      exact ⟨y, hw.edge, Or.inr (h3 y (by simp)).1⟩
/-- Blocks from which a way within the loop leads to the head: where none is to be added, all are there. -/
theorem Hd.home (g : Gr nx pl n ah) (hr : ∀ b, b < n → ∃ w, RW nx w b) {h : Nat} (k : Hd nx n h) {V : Nat → Prop}
    (hV : ∀ u, Lp nx n h u → ¬ V u → ∀ y ∈ nx u, y ≠ h ∧ ¬ (V y ∧ Lp nx n h y)) : ∀ x, Lp nx n h x → V x := by
  have k1 : ∀ x, Lp nx n h x → x ≠ h → V x := fun x hx => by
    induction hx with
    | head => exact fun e => absurd rfl e
    | @latch u a b c =>
      intro _
      apply Classical.byContradiction
      intro hn
      exact (hV u (Lp.latch a b c) hn h b).1 rfl
    | @back u v hk hne hu hv ih =>
      intro _
      apply Classical.byContradiction
      intro hn
      exact (hV u (Lp.back hk hne hu hv) hn v hv).2 ⟨ih hne, hk⟩
  intro x hx
  by_cases e : x = h
  · subst e
    obtain ⟨y, hy, h1⟩ := k.out g hr
    apply Classical.byContradiction
    intro hn
    have h2 := hV x Lp.head hn y hy
    rcases h1 with h1 | h1
    · exact h2.1 h1
    · exact h2.2 ⟨k1 y h1 h2.1, h1⟩
  · exact k1 x hx e
theorem Gr.way (g : Gr nx pl n ah) : ∀ k u, pl u ≤ k → u < n → ∃ w, RW nx w u ∧ ∀ x ∈ w, pl x ≤ pl u := by
  intro k
  induction k with
  | zero =>
    intro u hk hu
    by_cases h0 : u = 0
    · subst h0
      exact ⟨[0], RW.root, fun x hx => by simp at hx; subst hx; omega⟩
    · have := g.pos u hu h0; omega
  | succ k ih =>
    intro u hk hu
    by_cases h0 : u = 0
    · subst h0
      exact ⟨[0], RW.root, fun x hx => by simp at hx; subst hx; omega⟩
    · obtain ⟨p, hp, hlt⟩ := g.par u hu h0
      obtain ⟨hpn, hup⟩ := (g.mem p u hu).1 hp
      obtain ⟨w, hw, hx⟩ := ih p (by omega) hpn
      refine ⟨u :: w, RW.step hw hup, fun x hx' => ?_⟩
      rcases List.mem_cons.1 hx' with rfl | hx'
      · omega
      · have := hx x hx'; omega
theorem Gr.dle (g : Gr nx pl n ah) {u v : Nat} (hu : u < n) (h : Dom nx v u) : pl v ≤ pl u := by
  obtain ⟨w, hw, hx⟩ := g.way (pl u) u (Nat.le_refl _) hu
  exact hx v (h w hw)
theorem Gr.anti (g : Gr nx pl n ah) {u v : Nat} (hu : u < n) (hv : v < n) (h : Dom nx v u) (k : Dom nx u v) : u = v :=
  g.inj u v hu hv (Nat.le_antisymm (g.dle hv k) (g.dle hu h))
/-- A loop whose head lies in another loop lies in it. -/
theorem Lp.inc (g : Gr nx pl n ah) {h1 h2 : Nat} (hn1 : h1 < n) (hn2 : h2 < n) (k : Lp nx n h2 h1) (hne : h1 ≠ h2) : ∀ x, Lp nx n h1 x → Lp nx n h2 x := fun x hx => by
  induction hx with
  | head => exact k
  | latch hu hm _ => exact Lp.back k hne hu hm
  | @back u v hk h3 hu hv ih =>
    refine Lp.back ih (fun e => ?_) hu hv
    subst e
    exact hne (g.anti hn2 hn1 hk.dom k.dom).symm
theorem Lp.out (g : Gr nx pl n ah) {h1 h2 : Nat} (hn1 : h1 < n) (hn2 : h2 < n) (k : Lp nx n h2 h1) (hne : h1 ≠ h2) : ¬ Lp nx n h1 h2 := fun k2 => hne (g.anti hn2 hn1 k2.dom k.dom).symm
theorem split_two {a b : Nat} {c1 c2 d1 d2 : List Nat} (e : c1 ++ a :: d1 = c2 ++ b :: d2) : a = b ∨ b ∈ c1 ∨ a ∈ c2 := by
  rcases Nat.lt_trichotomy c1.length c2.length with h | h | h
  · right; right
    have h1 : (c1 ++ a :: d1)[c1.length]? = some a := by simp
    rw [e, List.getElem?_append_left h] at h1
    exact List.mem_of_getElem? h1
  · left
    have h1 : (c1 ++ a :: d1)[c1.length]? = some a := by simp
    rw [e, h] at h1
    simpa using h1.symm
  · right; left
    have h1 : (c2 ++ b :: d2)[c2.length]? = some b := by simp
    rw [← e, List.getElem?_append_left h] at h1
    exact List.mem_of_getElem? h1
/-- Two loops that share a block: one's head lies in the other. -/
theorem Lp.meet (g : Gr nx pl n ah) (hr : ∀ b, b < n → ∃ w, RW nx w b) {h1 h2 z : Nat} (hz : z < n) (k1 : Lp nx n h1 z) (k2 : Lp nx n h2 z) : h1 = h2 ∨ Lp nx n h1 h2 ∨ Lp nx n h2 h1 := by
  obtain ⟨w, hw⟩ := hr z hz
  obtain ⟨c1, d1, e1, m1⟩ := Lp.way g hw k1
  obtain ⟨c2, d2, e2, m2⟩ := Lp.way g hw k2
  rcases split_two (e1.symm.trans e2) with h | h | h
  · exact Or.inl h
  · exact Or.inr (Or.inl (m1 _ h).1)
  · exact Or.inr (Or.inr (m2 _ h).1)
theorem least (f : Nat → Nat) (i : Nat) : ∀ m, ∃ t, i ≤ t ∧ t ≤ i + m ∧ ∀ j, i ≤ j → j ≤ i + m → f t ≤ f j
  | 0 => ⟨i, Nat.le_refl _, Nat.le_refl _, fun j h1 h2 => by have : j = i := by omega
                                                             rw [this]; exact Nat.le_refl _⟩
  | m + 1 => by
    obtain ⟨t, h1, h2, h3⟩ := least f i m
    by_cases h : f t ≤ f (i + m + 1)
    · refine ⟨t, h1, by omega, fun j h4 h5 => ?_⟩
      by_cases e : j = i + m + 1
      · rw [e]; exact h
      · exact h3 j h4 (by omega)
    · refine ⟨i + m + 1, by omega, by omega, fun j h4 h5 => ?_⟩
      by_cases e : j = i + m + 1
      · rw [e]; exact Nat.le_refl _
      · have := h3 j h4 (by omega); omega
/-- A walk that comes back: it goes through the head of a loop that holds it. -/
theorem walk_held (hs : Str nx pl n) {f : Nat → Nat} {i m : Nat} (hf : ∀ j, i ≤ j → j ≤ i + m + 1 → f j < n) (he : ∀ j, i ≤ j → j < i + m + 1 → f (j + 1) ∈ nx (f j)) (hc : f (i + m + 1) = f i) :
    ∃ h, Hd nx n h ∧ (∃ t, i ≤ t ∧ t < i + m + 1 ∧ f t = h) ∧ ∀ j, i ≤ j → j < i + m + 1 → Lp nx n h (f j) := by
  obtain ⟨t, h1, h2, h3⟩ := least (fun j => pl (f j)) i m
  have hle : ∀ j, i ≤ j → j ≤ i + m + 1 → pl (f t) ≤ pl (f j) := fun j h4 h5 => by
    by_cases e : j = i + m + 1
    · rw [e, hc]; exact h3 i (Nat.le_refl _) (by omega)
    · exact h3 j h4 (by omega)
  have step : ∀ j, i ≤ j → j < i + m + 1 → Lp nx n (f t) (f (j + 1)) → Lp nx n (f t) (f j) := fun j h4 h5 k => by
    have hn := hf j h4 (by omega)
    have hm := he j h4 h5
    by_cases e : f (j + 1) = f t
    · rw [e] at hm
      exact Lp.latch hn hm (hs _ hn _ hm (hle j h4 (by omega)))
    · exact Lp.back k e hn hm
  have down : ∀ q k, k ≤ i + m + 1 → Lp nx n (f t) (f k) → ∀ j, i ≤ j → j + q = k → Lp nx n (f t) (f j) := by
    intro q
    induction q with
    | zero => intro k _ hk j _ e; have : j = k := by omega
              rw [this]; exact hk
    | succ q ih =>
      intro k hk1 hk j hj e
      exact step j hj (by omega) (ih k hk1 hk (j + 1) (by omega) (by omega))
  have hi : Lp nx n (f t) (f i) := down (t - i) t (by omega) Lp.head i (Nat.le_refl _) (by omega)
  have hend : Lp nx n (f t) (f (i + m + 1)) := by rw [hc]; exact hi
  refine ⟨f t, ?_, ⟨t, h1, by omega, rfl⟩, fun j h4 h5 => down (i + m + 1 - j) (i + m + 1) (Nat.le_refl _) hend j h4 (by omega)⟩
  by_cases e : t = i
  · have h4 := he (i + m) (by omega) (by omega)
    rw [hc] at h4
    have hn := hf (i + m) (by omega) (by omega)
    rw [e]
    refine ⟨f (i + m), hn, h4, hs _ hn _ h4 ?_⟩
    have := hle (i + m) (by omega) (by omega)
    rwa [e] at this
  · have h4 := he (t - 1) (by omega) (by omega)
    rw [show t - 1 + 1 = t by omega] at h4
    have hn := hf (t - 1) (by omega) (by omega)
    exact ⟨f (t - 1), hn, h4, hs _ hn _ h4 (hle (t - 1) (by omega) (by omega))⟩
end
/-- The heads, each later than the one ahead. -/
theorem heads_sorted (l : List In) {i j : Nat} (hij : i < j) (hj : j < (heads l).length) : (heads l).getD i 0 < (heads l).getD j 0 := by
  have h : (heads l).Pairwise (· < ·) := List.Pairwise.filter _ List.pairwise_lt_range
  rw [List.getD_eq_getElem?_getD, List.getD_eq_getElem?_getD, List.getElem?_eq_getElem (by omega), List.getElem?_eq_getElem hj]
  exact List.pairwise_iff_getElem.1 h i j _ _ hij
theorem heads_of (l : List In) {i : Nat} (hi : i < (heads l).length) : (heads l).getD i 0 < nB l ∧ Hd (nxt l) (nB l) ((heads l).getD i 0) := by
  have h : (heads l).getD i 0 ∈ heads l := by
    rw [List.getD_eq_getElem?_getD, List.getElem?_eq_getElem hi]
    exact List.getElem_mem hi
  unfold heads at h
  rw [List.mem_filter] at h
  exact ⟨List.mem_range.1 h.1, headB_iff.1 h.2⟩
theorem heads_ex (l : List In) {h : Nat} (hn : h < nB l) (k : Hd (nxt l) (nB l) h) : ∃ i, i < (heads l).length ∧ (heads l).getD i 0 = h := by
  have hm : h ∈ heads l := by unfold heads; rw [List.mem_filter]; exact ⟨List.mem_range.2 hn, headB_iff.2 k⟩
  obtain ⟨i, hi, e⟩ := List.mem_iff_getElem.1 hm
  exact ⟨i, hi, by rw [List.getD_eq_getElem?_getD, List.getElem?_eq_getElem hi, e]; rfl⟩
end Go.Fl
