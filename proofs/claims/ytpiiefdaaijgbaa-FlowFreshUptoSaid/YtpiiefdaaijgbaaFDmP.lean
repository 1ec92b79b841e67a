/- Plain: the passes of the search for dominators; rounds without back edges; what can be come to without a block; loops as closed sets. No program in sight. -/
import Derived.Test.YtpiiefdaaijgbaaFGr
namespace Go.Fl
section
variable {nx : Nat → List Nat} {pl : Nat → Nat} {n : Nat} {ah : Nat → List Nat}

/-- The table at the beginning. -/
def tab0 : Nat → Option Nat := fun b => if b = 0 then some 0 else none
theorem tab0_tb (h0 : 0 < n) : Tb nx pl n tab0 := by
  have key : ∀ b z, tab0 b = some z → b = 0 ∧ z = 0 := fun b z h => by
    unfold tab0 at h
    split at h
    · injection h with h; exact ⟨by assumption, h.symm⟩
    · cases h
  refine ⟨rfl, fun b z h hb => absurd (key b z h).1 hb, fun b z h => ?_, fun b z h => ?_, fun b z h a ha hd => ?_⟩
  · obtain ⟨rfl, rfl⟩ := key b z h; exact ⟨h0, h0, rfl⟩
  · obtain ⟨rfl, rfl⟩ := key b z h; exact Fp.refl
  · obtain ⟨rfl, rfl⟩ := key b z h; exact absurd hd.zero ha
/-- Within the pass k, at the place i. -/
structure Rn (nx : Nat → List Nat) (pl : Nat → Nat) (n : Nat) (ah : Nat → List Nat) (k i : Nat) (d : Nat → Option Nat) (more : Bool) : Prop where
  ps : Ps nx pl n k i d
  st : more = false → ∀ b, b < n → b ≠ 0 → pl b < i → Bst d (ah b) (d b) ∧ (d b).isSome
  fx : n ≤ k → more = false
theorem Ps.begin (g : Gr nx pl n ah) : Ps nx pl n 0 1 tab0 := ⟨tab0_tb g.n0, fun c hc h0 hp => by have := g.pos c hc h0; omega, fun _ _ _ => Or.inl rfl⟩
theorem Rn.start (g : Gr nx pl n ah) {k : Nat} {d : Nat → Option Nat} (h : Ps nx pl n k 1 d) : Rn nx pl n ah k 1 d false := ⟨h, fun _ b hb h0 hp => by have := g.pos b hb h0; omega, fun _ => rfl⟩
theorem put_same {d : Nat → Option Nat} {b z : Nat} (h : d b = some z) : put d b z = d := by
  funext x
  by_cases e : x = b
  · subst e; rw [put_self, h]
  · rw [put_ne e]
theorem Rn.same (g : Gr nx pl n ah) {k : Nat} {d : Nat → Option Nat} {more : Bool} {b z : Nat} (h : Rn nx pl n ah k (pl b) d more) (hb : b < n) (h0 : b ≠ 0) (hz : Bst d (ah b) (some z)) (e : d b = some z) : Rn nx pl n ah k (pl b + 1) d more := by
  have hn := h.ps.next g hb h0 hz
  rw [put_same e] at hn
  refine ⟨hn, fun hm c hc hc0 hp => ?_, h.fx⟩
  by_cases hcb : c = b
  · subst hcb; rw [e]; exact ⟨hz, rfl⟩
  · have : pl c ≠ pl b := fun e => hcb (g.inj c b hc hb e)
    exact h.st hm c hc hc0 (by omega)
theorem Rn.diff (g : Gr nx pl n ah) {k : Nat} {d : Nat → Option Nat} {more : Bool} {b z : Nat} (h : Rn nx pl n ah k (pl b) d more) (hb : b < n) (h0 : b ≠ 0) (hz : Bst d (ah b) (some z)) (e : d b ≠ some z) : Rn nx pl n ah k (pl b + 1) (put d b z) true :=
  ⟨h.ps.next g hb h0 hz, fun hm => (by cases hm), fun hk => absurd (h.ps.still g hk hb h0 hz) e⟩
theorem Rn.next (g : Gr nx pl n ah) {k i : Nat} {d : Nat → Option Nat} (h : Rn nx pl n ah k i d true) (hi : ∀ c, c < n → pl c < i) : k < n ∧ Ps nx pl n (k + 1) 1 d := by
  refine ⟨?_, h.ps.tb, fun c hc h0 hp => by have := g.pos c hc h0; omega, h.ps.done hi⟩
  rcases Nat.lt_or_ge k n with e | e
  · exact e
  · have := h.fx e; cases this
theorem Rn.stop (g : Gr nx pl n ah) {k i : Nat} {d : Nat → Option Nat} (h : Rn nx pl n ah k i d false) (hi : ∀ c, c < n → pl c < i) : Idom nx pl n d :=
  idom_fix g h.ps.tb fun b hb h0 => h.st rfl b hb h0 (hi b hb)

/-- Rounds: while the edges of u are gone through. -/
structure Tw (nx : Nat → List Nat) (b : Nat) (V : Nat → Bool) (S : List Nat) (u j : Nat) : Prop where
  cl : ∀ x, (x = b ∨ V x = true) → x ∉ S → x ≠ u → ∀ y, Nb nx x y → V y = true ∧ y ≠ b
  cu : ∀ y ∈ (nx u).take j, ¬ Dom nx y u → V y = true ∧ y ≠ b
  rs : ∀ x ∈ S, x = b ∨ Nbr nx b x
  ru : u = b ∨ Nbr nx b u
structure Tc (nx : Nat → List Nat) (b : Nat) (V : Nat → Bool) (S : List Nat) : Prop where
  cl : ∀ x, (x = b ∨ V x = true) → x ∉ S → ∀ y, Nb nx x y → V y = true ∧ y ≠ b
  rs : ∀ x ∈ S, x = b ∨ Nbr nx b x
theorem Tc.start (nx : Nat → List Nat) (b : Nat) : Tc nx b (fun _ => false) [b] :=
  ⟨fun x hx hs => by
    rcases hx with rfl | hx
    · exact absurd (by simp) hs
    · exact absurd hx (by simp), fun x hx => Or.inl (by simpa using hx)⟩
section
variable {b u j y : Nat} {V : Nat → Bool} {S : List Nat}
theorem Tc.pop (c : Tc nx b V (S ++ [u])) : Tw nx b V S u 0 := ⟨fun x hx hs hu => c.cl x hx (by simp [hs, hu]), by simp, fun x hx => c.rs x (by simp [hx]), c.rs u (by simp)⟩
theorem Tw.back (c : Tw nx b V S u j) (hy : (nx u)[j]? = some y) (hd : Dom nx y u) : Tw nx b V S u (j + 1) := ⟨c.cl, fun z hz hnd => by
  rw [List.take_add_one, hy] at hz
  rcases List.mem_append.1 hz with hz | hz
  · exact c.cu z hz hnd
  · simp at hz; subst hz; exact absurd hd hnd, c.rs, c.ru⟩
theorem Tw.to (c : Tw nx b V S u j) (hy : (nx u)[j]? = some y) (hd : ¬ Dom nx y u) : Nbr nx b y := by
  have hn : Nb nx u y := ⟨List.mem_of_getElem? hy, hd⟩
  rcases c.ru with h | h
  · subst h; exact Nbr.one hn
  · exact Nbr.more h hn
theorem Tw.old (c : Tw nx b V S u j) (hy : (nx u)[j]? = some y) (hv : V y = true) (hb : y ≠ b) : Tw nx b V S u (j + 1) := ⟨c.cl, fun z hz hnd => by
  rw [List.take_add_one, hy] at hz
  rcases List.mem_append.1 hz with hz | hz
  · exact c.cu z hz hnd
  · simp at hz; subst hz; exact ⟨hv, hb⟩, c.rs, c.ru⟩
theorem Tw.new (c : Tw nx b V S u j) (hy : (nx u)[j]? = some y) (hd : ¬ Dom nx y u) (hb : y ≠ b) : Tw nx b (mark V y) (S ++ [y]) u (j + 1) :=
  ⟨fun x hx hs hu z hz => by
    have hne : x ≠ y := fun e => hs (by simp [e])
    rw [mark_ne hne] at hx
    obtain ⟨h1, h2⟩ := c.cl x hx (fun e => hs (by simp [e])) hu z hz
    exact ⟨mark_iff.2 (Or.inr h1), h2⟩, fun z hz hnd => by
    rw [List.take_add_one, hy] at hz
    rcases List.mem_append.1 hz with hz | hz
    · obtain ⟨h1, h2⟩ := c.cu z hz hnd
      exact ⟨mark_iff.2 (Or.inr h1), h2⟩
    · simp at hz; subst hz; exact ⟨mark_self _ _, hb⟩, fun x hx => by
    rcases List.mem_append.1 hx with hx | hx
    · exact c.rs x hx
    · simp at hx; subst hx; exact Or.inr (c.to hy hd), c.ru⟩
theorem Tw.done (c : Tw nx b V S u (nx u).length) : Tc nx b V S := ⟨fun x hx hs => by
  by_cases e : x = u
  · subst e
    intro y hy
    exact c.cu y (by rw [List.take_length]; exact hy.1) hy.2
  · exact c.cl x hx hs e, c.rs⟩
theorem Tc.none (c : Tc nx b V []) : ¬ Nbr nx b b := by
  have key : ∀ y, Nbr nx b y → V y = true ∧ y ≠ b := fun y h => by
    induction h with
    | one hv => exact c.cl b (Or.inl rfl) (by simp) _ hv
    | more _ hv ih => exact c.cl _ (Or.inr ih.1) (by simp) _ hv
  exact fun h => (key b h).2 rfl
end

/-- What can be come to from 0 without going through wo. -/
def Rc (nx : Nat → List Nat) (wo : Int) (x : Nat) : Prop := ∃ l, RW nx l x ∧ ∀ y ∈ l, (y : Int) ≠ wo
theorem Rc.dom {a x : Nat} : Dom nx a x ↔ ¬ Rc nx (a : Int) x := by
  constructor
  · rintro h ⟨l, h1, h2⟩
    exact h2 a (h l h1) rfl
  · intro h l hl
    refine Classical.byContradiction fun hn => h ⟨l, hl, fun y hy e => hn ?_⟩
    have : y = a := by omega
    exact this ▸ hy
theorem Rc.any {x : Nat} : Rc nx (-1) x ↔ ∃ l, RW nx l x := ⟨fun ⟨l, h, _⟩ => ⟨l, h⟩, fun ⟨l, h⟩ => ⟨l, h, fun y _ => by omega⟩⟩
theorem Rc.step {wo : Int} {u v : Nat} (h : Rc nx wo u) (hv : v ∈ nx u) (hw : (v : Int) ≠ wo) : Rc nx wo v := by
  obtain ⟨l, h1, h2⟩ := h
  exact ⟨_, RW.step h1 hv, fun y hy => by
    rcases List.mem_cons.1 hy with rfl | hy
    · exact hw
    · exact h2 y hy⟩
theorem Rc.zero {wo : Int} (h : (0 : Int) ≠ wo) : Rc nx wo 0 := ⟨[0], RW.root, fun y hy => by simp at hy; subst hy; exact h⟩
/-- A work list of which the first i are done, of the next one the first j edges. -/
structure Wk (nx : Nat → List Nat) (ok : Nat → Nat → Prop) (P : Nat → Prop) (V : Nat → Bool) (T : List Nat) (i j : Nat) : Prop where
  mem : ∀ x, V x = true → x ∈ T
  sound : ∀ x ∈ T, P x
  cl : ∀ x ∈ T.take i, ∀ y ∈ nx x, ok x y → V y = true
  cu : ∀ x, T[i]? = some x → ∀ y ∈ (nx x).take j, ok x y → V y = true
section
variable {ok : Nat → Nat → Prop} {P : Nat → Prop} {V : Nat → Bool} {T : List Nat} {i j x y : Nat}
theorem Wk.skip (c : Wk nx ok P V T i j) (hx : T[i]? = some x) (hy : (nx x)[j]? = some y) (h : ok x y → V y = true) : Wk nx ok P V T i (j + 1) :=
  ⟨c.mem, c.sound, c.cl, fun x' hx' z hz hk => by
    rw [hx] at hx'
    injection hx' with hx'
    subst hx'
    rw [List.take_add_one, hy] at hz
    rcases List.mem_append.1 hz with hz | hz
    · exact c.cu x hx z hz hk
    · simp at hz; subst hz; exact h hk⟩
theorem Wk.add (c : Wk nx ok P V T i j) (hx : T[i]? = some x) (hy : (nx x)[j]? = some y) (hp : P y) : Wk nx ok P (mark V y) (T ++ [y]) i (j + 1) := by
  have hi : i < T.length := (List.getElem?_eq_some_iff.1 hx).1
  refine ⟨fun z hz => ?_, fun z hz => ?_, fun z hz w hw hk => ?_, fun x' hx' z hz hk => ?_⟩
  · rcases mark_iff.1 hz with rfl | hz
    · simp
    · exact List.mem_append_left _ (c.mem z hz)
  · rcases List.mem_append.1 hz with hz | hz
    · exact c.sound z hz
    · simp at hz; subst hz; exact hp
  · rw [List.take_append_of_le_length (by omega)] at hz
    exact mark_iff.2 (Or.inr (c.cl z hz w hw hk))
  · rw [List.getElem?_append_left hi, hx] at hx'
    injection hx' with hx'
    subst hx'
    rw [List.take_add_one, hy] at hz
    rcases List.mem_append.1 hz with hz | hz
    · exact mark_iff.2 (Or.inr (c.cu x hx z hz hk))
    · simp at hz; subst hz; exact mark_self _ _
theorem Wk.next (c : Wk nx ok P V T i (nx x).length) (hx : T[i]? = some x) : Wk nx ok P V T (i + 1) 0 := by
  refine ⟨c.mem, c.sound, fun z hz w hw hk => ?_, fun _ _ z hz => by simp at hz⟩
  rw [List.take_add_one, hx] at hz
  rcases List.mem_append.1 hz with hz | hz
  · exact c.cl z hz w hw hk
  · simp at hz
    subst hz
    exact c.cu z hx w (by rw [List.take_length]; exact hw) hk
theorem Wk.done (c : Wk nx ok P V T T.length 0) : ∀ x ∈ T, ∀ y ∈ nx x, ok x y → V y = true := fun x hx => c.cl x (by rw [List.take_length]; exact hx)
end
/-- A closed set holds what can be come to. -/
theorem Rc.sub {wo : Int} {V : Nat → Bool} (h0 : (0 : Int) ≠ wo → V 0 = true) (hc : ∀ x, V x = true → ∀ y ∈ nx x, (y : Int) ≠ wo → V y = true) : ∀ x, Rc nx wo x → V x = true := by
  rintro x ⟨l, h1, h2⟩
  induction h1 with
  | root => exact h0 (h2 0 (by simp))
  | @step l u v _ hv ih => exact hc u (ih fun y hy => h2 y (List.mem_cons_of_mem _ hy)) v hv (h2 v (by simp))
/-- A set closed under edges that are no back edges. -/
theorem Nbr.sub {b : Nat} {V : Nat → Bool} (h0 : ∀ y, Nb nx b y → V y = true) (hc : ∀ x, V x = true → ∀ y, Nb nx x y → V y = true) : ∀ x, Nbr nx b x → V x = true := fun x h => by
  induction h with
  | one hv => exact h0 _ hv
  | more _ hv ih => exact hc _ ih _ hv
end
end Go.Fl
