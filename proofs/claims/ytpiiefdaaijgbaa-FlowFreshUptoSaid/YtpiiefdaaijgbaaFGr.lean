/- Plain: the order of a walk in depth serves the search for dominators; where edges lead back; rounds without back edges; loops; work lists. No program in sight. -/
import Derived.Test.YtpiiefdaaijgbaaFDfs
namespace Go.Fl

theorem idx_ne {a x : Nat} {l : List Nat} (h : x ≠ a) : (x :: l).idxOf a = l.idxOf a + 1 := by
  rw [List.idxOf_cons]
  have : (x == a) = false := by simpa using h
  rw [this]
  rfl
theorem nd_rev {l : List Nat} (h : l.Nodup) : l.reverse.Nodup := by
  unfold List.Nodup at *
  rw [List.pairwise_reverse]
  exact h.imp fun h => h.symm
theorem idx_lt {a b : Nat} : ∀ {l : List Nat}, l.Nodup → Bf l a b → l.idxOf a < l.idxOf b
  | [], _, h => by have := List.Sublist.length_le h; simp at this
  | x :: l, hn, h => by
    obtain ⟨hx, hn⟩ := List.nodup_cons.1 hn
    by_cases hxa : x = a
    · subst hxa
      have hb : b ∈ l := by
        cases h with
        | cons _ h => exact h.subset (by simp)
        | cons_cons _ h => exact h.subset (by simp)
      have hne : x ≠ b := fun e => hx (e ▸ hb)
      rw [List.idxOf_cons_self, idx_ne hne]
      omega
    · cases h with
      | cons _ h =>
        have hne : x ≠ b := fun e => hx (e ▸ h.subset (by simp))
        rw [idx_ne hxa, idx_ne hne]
        have := idx_lt hn h
        omega
      | cons_cons _ h => exact absurd rfl hxa
/-- A block's place in the order. -/
def plc (D : List Nat) (b : Nat) : Nat := D.reverse.idxOf b
section
variable {nx : Nat → List Nat} {n : Nat} {D : List Nat} {ah : Nat → List Nat}
theorem Po.lt (h : Po nx D) {a b : Nat} (hb : Bf D a b) : plc D b < plc D a := by
  refine idx_lt (nd_rev h.nd) ?_
  have : ([a, b].reverse).Sublist D.reverse := List.reverse_sublist.2 hb
  exact this
theorem Po.p0 (h : Po nx D) : plc D 0 = 0 := by
  have h0 := h.z0
  unfold plc
  rw [← List.head?_reverse] at h0
  cases hr : D.reverse with
  | nil => rw [hr] at h0; cases h0
  | cons x l =>
    rw [hr] at h0
    simp at h0
    subst h0
    simp
theorem Po.inj (_h : Po nx D) {a b : Nat} (ha : a ∈ D) (e : plc D a = plc D b) : a = b := by
  have h1 : D.reverse.idxOf a < D.reverse.length := List.idxOf_lt_length_iff.2 (by simpa using ha)
  have h2 : D.reverse.idxOf b < D.reverse.length := by unfold plc at e; omega
  have e1 := List.getElem_idxOf h1
  have e2 := List.getElem_idxOf h2
  rw [← e1, ← e2]
  unfold plc at e
  simp [e]
theorem Po.gr (h : Po nx D) (hall : ∀ b, b < n → b ∈ D) (h0 : 0 < n) (hn : ∀ u, u < n → ∀ v ∈ nx u, v < n) (hah : ∀ u b, b < n → (u ∈ ah b ↔ u < n ∧ b ∈ nx u)) (hD : ∀ b ∈ D, b < n) : Gr nx (plc D) n ah := by
  refine ⟨h.p0, fun b hb hb0 => ?_, fun a b ha _ e => h.inj (hall a ha) e, hah, fun b hb hb0 => ?_, h0, hn⟩
  · rcases Nat.eq_zero_or_pos (plc D b) with e | e
    · exact absurd (h.inj (hall b hb) (e.trans h.p0.symm)) hb0
    · exact e
  · obtain ⟨p, hp, hB⟩ := h.pa b (hall b hb) hb0
    have hpD : p ∈ D := hB.subset (by simp)
    exact ⟨p, (hah p b hb).2 ⟨hD p hpD, hp⟩, h.lt hB⟩

/-- An edge that is no back edge. -/
def Nb (nx : Nat → List Nat) (u v : Nat) : Prop := v ∈ nx u ∧ ¬ Dom nx v u
/-- A way of one edge or more, without back edges. -/
inductive Nbr (nx : Nat → List Nat) (b : Nat) : Nat → Prop
  | one {v : Nat} : Nb nx b v → Nbr nx b v
  | more {u v : Nat} : Nbr nx b u → Nb nx u v → Nbr nx b v
/-- Edges that lead back in the order are back edges. -/
def Str (nx : Nat → List Nat) (pl : Nat → Nat) (n : Nat) : Prop := ∀ u, u < n → ∀ v ∈ nx u, pl v ≤ pl u → Dom nx v u
theorem Nbr.lt {pl : Nat → Nat} (h : Str nx pl n) (hn : ∀ u, u < n → ∀ v ∈ nx u, v < n) {b v : Nat} (hb : b < n) (k : Nbr nx b v) : v < n ∧ pl b < pl v := by
  have one : ∀ u v, u < n → Nb nx u v → v < n ∧ pl u < pl v := fun u v hu hv => by
    refine ⟨hn u hu v hv.1, ?_⟩
    rcases Nat.lt_or_ge (pl u) (pl v) with e | e
    · exact e
    · exact absurd (h u hu v hv.1 e) hv.2
  induction k with
  | one hv => exact one _ _ hb hv
  | more _ hv ih =>
    obtain ⟨h1, h2⟩ := ih
    obtain ⟨h3, h4⟩ := one _ _ h1 hv
    exact ⟨h3, by omega⟩
theorem no_round {pl : Nat → Nat} (h : Str nx pl n) (hn : ∀ u, u < n → ∀ v ∈ nx u, v < n) {b : Nat} (hb : b < n) : ¬ Nbr nx b b := fun k => by
  have := (k.lt h hn hb).2
  omega
/-- Where one of them is none, there is a round. -/
theorem Po.round (h : Po nx D) (g : Gr nx (plc D) n ah) (hall : ∀ b, b < n → b ∈ D) {d : Nat → Option Nat} (hi : Idom nx (plc D) n d) {u v : Nat} (hu : u < n) (hv : v ∈ nx u) (hle : plc D v ≤ plc D u) (hnd : ¬ Dom nx v u) : Nbr nx v v := by
  obtain ⟨_, h1⟩ := h.ed u (hall u hu) v hv
  rcases h1 with h1 | h1
  · have := h.lt h1; omega
  · have key : ∀ w, Fs nx D v w → w < n → w = v ∨ Nbr nx v w := fun w hw => by
      induction hw with
      | refl => exact fun _ => Or.inl rfl
      | @snoc x y hx hy hb ih =>
        intro hyn
        have hxD : x ∈ D := hb.subset (by simp)
        have hxn : x < n := by
          cases hx with
          | refl => exact g.nlt u hu _ hv
          | snoc _ hy' hb' =>
            obtain ⟨l, hl⟩ := (h.rw x).1 hxD
            exact hl.lt g x hl.mem
        have hnb : Nb nx x y := ⟨hy, fun hd => by
          have h2 := hi.tb.le ((hi.up hxn).2 hd)
          have h3 := h.lt hb
          omega⟩
        right
        rcases ih hxn with e | e
        · subst e; exact Nbr.one hnb
        · exact Nbr.more e hnb
    rcases key u h1 hu with e | e
    · subst e; exact Nbr.one ⟨hv, hnd⟩
    · exact Nbr.more e ⟨hv, hnd⟩

/-- The blocks of a head's loop. -/
inductive Lp (nx : Nat → List Nat) (n h : Nat) : Nat → Prop
  | head : Lp nx n h h
  | latch {u : Nat} : u < n → h ∈ nx u → Dom nx h u → Lp nx n h u
  | back {u v : Nat} : Lp nx n h v → v ≠ h → u < n → v ∈ nx u → Lp nx n h u
/-- Is it a head? -/
def Hd (nx : Nat → List Nat) (n h : Nat) : Prop := ∃ u, u < n ∧ h ∈ nx u ∧ Dom nx h u
theorem Lp.lt {h x : Nat} (hh : h < n) (k : Lp nx n h x) : x < n := by cases k <;> assumption
/-- A set that holds the loop's beginnings, and is closed, holds the loop. -/
theorem Lp.sub {h : Nat} {V : Nat → Prop} (h1 : V h) (h2 : ∀ u, u < n → h ∈ nx u → Dom nx h u → V u) (h3 : ∀ v, V v → v ≠ h → ∀ u, u < n → v ∈ nx u → V u) : ∀ x, Lp nx n h x → V x := fun x hx => by
  induction hx with
  | head => exact h1
  | latch a b c => exact h2 _ a b c
  | back _ hne hu hv ih => exact h3 _ ih hne _ hu hv

/-- Among what waits: all else that is in is closed, but h. -/
def Clo (E : Nat → List Nat) (h : Nat) (V : Nat → Bool) (S : List Nat) : Prop := ∀ x, V x = true → x ≠ h → x ∉ S → ∀ y ∈ E x, V y = true
/-- While the edges of b are gone through. -/
structure Cb (E : Nat → List Nat) (h : Nat) (V : Nat → Bool) (S : List Nat) (b k : Nat) : Prop where
  cl : ∀ x, V x = true → x ≠ h → x ∉ S → x ≠ b → ∀ y ∈ E x, V y = true
  cb : ∀ y ∈ (E b).take k, V y = true
section
variable {E : Nat → List Nat} {h b k y : Nat} {V : Nat → Bool} {S : List Nat}
theorem Clo.pop (c : Clo E h V (S ++ [b])) : Cb E h V S b 0 := ⟨fun x hx hh hs hb => c x hx hh (by simp [hs, hb]), by simp⟩
theorem Cb.skip (c : Cb E h V S b k) (hy : (E b)[k]? = some y) (hv : V y = true) : Cb E h V S b (k + 1) := ⟨c.cl, fun z hz => by
  rw [List.take_add_one, hy] at hz
  rcases List.mem_append.1 hz with hz | hz
  · exact c.cb z hz
  · simp at hz; subst hz; exact hv⟩
theorem Cb.add (c : Cb E h V S b k) (hy : (E b)[k]? = some y) : Cb E h (mark V y) (S ++ [y]) b (k + 1) :=
  ⟨fun x hx hh hs hb z hz => by
    have hne : x ≠ y := fun e => hs (by simp [e])
    rw [mark_ne hne] at hx
    exact mark_iff.2 (Or.inr (c.cl x hx hh (fun e => hs (by simp [e])) hb z hz)), fun z hz => by
    rw [List.take_add_one, hy] at hz
    rcases List.mem_append.1 hz with hz | hz
    · exact mark_iff.2 (Or.inr (c.cb z hz))
    · simp at hz; subst hz; exact mark_self _ _⟩
theorem Cb.done (c : Cb E h V S b (E b).length) : Clo E h V S := fun x hx hh hs => by
  by_cases hb : x = b
  · subst hb
    intro y hy
    exact c.cb y (by rw [List.take_length]; exact hy)
  · exact c.cl x hx hh hs hb
end
end
end Go.Fl
