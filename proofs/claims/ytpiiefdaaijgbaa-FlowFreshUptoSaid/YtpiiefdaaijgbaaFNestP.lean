/- Plain: a head's loop, as it is found with a set and what waits. No program in sight. -/
import Derived.Test.YtpiiefdaaijgbaaFMk
namespace Go.Fl
section
variable {nx : Nat → List Nat} {n h : Nat} {ah : Nat → List Nat}

/-- While the first k of those from which edges lead to h are looked at. -/
structure L1 (nx : Nat → List Nat) (n h : Nat) (ah : Nat → List Nat) (k : Nat) (V : Nat → Bool) (S : List Nat) (is : Bool) : Prop where
  mem : ∀ x, V x = true → x = h ∨ x ∈ S
  s : ∀ x ∈ S, x ≠ h ∧ x < n
  v : ∀ x, V x = true → Lp nx n h x
  hh : V h = true
  lat : ∀ u ∈ (ah h).take k, Dom nx h u → V u = true
  i : is = true ↔ ∃ u ∈ (ah h).take k, Dom nx h u
  sv : ∀ x ∈ S, V x = true
theorem L1.start : L1 nx n h ah 0 (mark (fun _ => false) h) [] false := by
  have key : ∀ x, mark (fun _ => false) h x = true → x = h := fun x hx => by
    rcases mark_iff.1 hx with e | e
    · exact e
    · cases e
  refine ⟨fun x hx => Or.inl (key x hx), fun x hx => ?_, fun x hx => ?_, mark_self _ _, fun u hu => ?_, by simp, fun x hx => ?_⟩
  · cases hx
  · rw [key x hx]; exact Lp.head
  · simp at hu
  · cases hx
section
variable {k u : Nat} {V : Nat → Bool} {S : List Nat} {is : Bool}
theorem L1.no (c : L1 nx n h ah k V S is) (hu : (ah h)[k]? = some u) (hd : ¬ Dom nx h u) : L1 nx n h ah (k + 1) V S is := by
  have hm : ∀ x, x ∈ (ah h).take (k + 1) ↔ x ∈ (ah h).take k ∨ x = u := fun x => by rw [List.take_add_one, hu, List.mem_append]; simp
  refine ⟨c.mem, c.s, c.v, c.hh, fun x hx hdx => ?_, c.i.trans ?_, c.sv⟩
  · rcases (hm x).1 hx with hx | hx
    · exact c.lat x hx hdx
    · subst hx; exact absurd hdx hd
  · constructor
    · rintro ⟨x, h1, h2⟩; exact ⟨x, (hm x).2 (Or.inl h1), h2⟩
    · rintro ⟨x, h1, h2⟩
      rcases (hm x).1 h1 with h1 | h1
      · exact ⟨x, h1, h2⟩
      · subst h1; exact absurd h2 hd
theorem L1.old (c : L1 nx n h ah k V S is) (hu : (ah h)[k]? = some u) (hd : Dom nx h u) (hv : V u = true) : L1 nx n h ah (k + 1) V S true := by
  have hm : ∀ x, x ∈ (ah h).take (k + 1) ↔ x ∈ (ah h).take k ∨ x = u := fun x => by rw [List.take_add_one, hu, List.mem_append]; simp
  refine ⟨c.mem, c.s, c.v, c.hh, fun x hx hdx => ?_, ⟨fun _ => ⟨u, (hm u).2 (Or.inr rfl), hd⟩, fun _ => rfl⟩, c.sv⟩
  rcases (hm x).1 hx with hx | hx
  · exact c.lat x hx hdx
  · subst hx; exact hv
theorem L1.new (c : L1 nx n h ah k V S is) (hu : (ah h)[k]? = some u) (hd : Dom nx h u) (hv : V u = false) (hun : u < n) (he : h ∈ nx u) : L1 nx n h ah (k + 1) (mark V u) (S ++ [u]) true := by
  have hm : ∀ x, x ∈ (ah h).take (k + 1) ↔ x ∈ (ah h).take k ∨ x = u := fun x => by rw [List.take_add_one, hu, List.mem_append]; simp
  have hne : u ≠ h := fun e => by subst e; rw [c.hh] at hv; cases hv
  refine ⟨fun x hx => ?_, fun x hx => ?_, fun x hx => ?_, mark_iff.2 (Or.inr c.hh), fun x hx hdx => ?_, ⟨fun _ => ⟨u, (hm u).2 (Or.inr rfl), hd⟩, fun _ => rfl⟩, fun x hx => ?_⟩
  · rcases mark_iff.1 hx with rfl | hx
    · right; simp
    · exact (c.mem x hx).imp id fun h => List.mem_append_left _ h
  · rcases List.mem_append.1 hx with hx | hx
    · exact c.s x hx
    · simp at hx; subst hx; exact ⟨hne, hun⟩
  · rcases mark_iff.1 hx with rfl | hx
    · exact Lp.latch hun he hd
    · exact c.v x hx
  · rcases (hm x).1 hx with hx | hx
    · exact mark_iff.2 (Or.inr (c.lat x hx hdx))
    · subst hx; exact mark_self _ _
  · rcases List.mem_append.1 hx with hx | hx
    · exact mark_iff.2 (Or.inr (c.sv x hx))
    · simp at hx; subst hx; exact mark_self _ _
end
/-- Between blocks that are taken from what waits. -/
structure L2 (nx : Nat → List Nat) (n h : Nat) (ah : Nat → List Nat) (V : Nat → Bool) (S : List Nat) : Prop where
  cl : Clo ah h V S
  s : ∀ x ∈ S, x ≠ h ∧ x < n
  sv : ∀ x ∈ S, V x = true
  v : ∀ x, V x = true → Lp nx n h x
  hh : V h = true
  lat : ∀ u ∈ ah h, Dom nx h u → V u = true
/-- While the edges to b are gone through. -/
structure L3 (nx : Nat → List Nat) (n h : Nat) (ah : Nat → List Nat) (V : Nat → Bool) (S : List Nat) (b k : Nat) : Prop where
  cb : Cb ah h V S b k
  s : ∀ x ∈ S, x ≠ h ∧ x < n
  sv : ∀ x ∈ S, V x = true
  v : ∀ x, V x = true → Lp nx n h x
  hh : V h = true
  lat : ∀ u ∈ ah h, Dom nx h u → V u = true
  bh : b ≠ h
  bv : V b = true
section
variable {b k u : Nat} {V : Nat → Bool} {S : List Nat} {is : Bool}
theorem L1.done (c : L1 nx n h ah (ah h).length V S is) : L2 nx n h ah V S :=
  ⟨fun x hx hh hs => by
    rcases c.mem x hx with e | e
    · exact absurd e hh
    · exact absurd e hs, c.s, c.sv, c.v, c.hh, fun u hu => c.lat u (by rw [List.take_length]; exact hu)⟩
theorem L2.pop (c : L2 nx n h ah V (S ++ [b])) : L3 nx n h ah V S b 0 :=
  ⟨c.cl.pop, fun x hx => c.s x (by simp [hx]), fun x hx => c.sv x (by simp [hx]), c.v, c.hh, c.lat, (c.s b (by simp)).1, c.sv b (by simp)⟩
theorem L3.skip (c : L3 nx n h ah V S b k) (hu : (ah b)[k]? = some u) (hv : V u = true) : L3 nx n h ah V S b (k + 1) :=
  ⟨c.cb.skip hu hv, c.s, c.sv, c.v, c.hh, c.lat, c.bh, c.bv⟩
theorem L3.add (c : L3 nx n h ah V S b k) (hu : (ah b)[k]? = some u) (hv : V u = false) (hun : u < n) (he : b ∈ nx u) : L3 nx n h ah (mark V u) (S ++ [u]) b (k + 1) := by
  have hne : u ≠ h := fun e => by subst e; rw [c.hh] at hv; cases hv
  refine ⟨c.cb.add hu, fun x hx => ?_, fun x hx => ?_, fun x hx => ?_, mark_iff.2 (Or.inr c.hh), fun x hx hd => mark_iff.2 (Or.inr (c.lat x hx hd)), c.bh, mark_iff.2 (Or.inr c.bv)⟩
  · rcases List.mem_append.1 hx with hx | hx
    · exact c.s x hx
    · simp at hx; subst hx; exact ⟨hne, hun⟩
  · rcases List.mem_append.1 hx with hx | hx
    · exact mark_iff.2 (Or.inr (c.sv x hx))
    · simp at hx; subst hx; exact mark_self _ _
  · rcases mark_iff.1 hx with rfl | hx
    · exact Lp.back (c.v b c.bv) c.bh hun he
    · exact c.v x hx
theorem L3.done (c : L3 nx n h ah V S b (ah b).length) : L2 nx n h ah V S := ⟨c.cb.done, c.s, c.sv, c.v, c.hh, c.lat⟩
/-- Nothing waits: it is the loop. -/
theorem L2.loop (c : L2 nx n h ah V []) (hah : ∀ u b, b < n → (u ∈ ah b ↔ u < n ∧ b ∈ nx u)) (hh : h < n) : ∀ x, V x = true ↔ Lp nx n h x := fun x =>
  ⟨c.v x, Lp.sub (V := fun x => V x = true) c.hh (fun u hu he hd => c.lat u ((hah u h hh).2 ⟨hu, he⟩) hd) (fun v hv hne u hu he => by
    have hvn : v < n := (c.v v hv).lt hh
    exact c.cl v hv hne (by simp) u ((hah u v hvn).2 ⟨hu, he⟩)) x⟩
end
end
end Go.Fl
