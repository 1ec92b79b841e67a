/- Plain: the walk in depth, by recursion and with what waits; its order. No program in sight. -/
import Derived.Test.YtpiiefdaaijgbaaFDom
namespace Go.Fl

/-- What is begun, and what is left, in order. -/
abbrev Sg := (Nat → Bool) × List Nat
def mark (B : Nat → Bool) (b : Nat) : Nat → Bool := fun x => if x = b then true else B x
theorem mark_self (B : Nat → Bool) (b : Nat) : mark B b b = true := by simp [mark]
theorem mark_ne {B : Nat → Bool} {b x : Nat} (h : x ≠ b) : mark B b x = B x := by simp [mark, h]
theorem mark_iff {B : Nat → Bool} {b x : Nat} : mark B b x = true ↔ x = b ∨ B x = true := by
  unfold mark; split <;> simp [*]

/-- From the edge k of the block b on: in m steps. -/
inductive Vs (nx : Nat → List Nat) : Nat → Nat → Nat → Sg → Sg → Prop
  | fin {b : Nat} {s : Sg} : Vs nx 1 b (nx b).length s (s.1, s.2 ++ [b])
  | skip {m b k c : Nat} {s s' : Sg} : (nx b)[k]? = some c → s.1 c = true → Vs nx m b (k + 1) s s' → Vs nx (m + 1) b k s s'
  | down {m j b k c : Nat} {s s1 s' : Sg} : (nx b)[k]? = some c → s.1 c = false → Vs nx j c 0 (mark s.1 c, s.2) s1 → Vs nx m b (k + 1) s1 s' → Vs nx (m + j + 1) b k s s'

section
variable {nx : Nat → List Nat} {n : Nat}
theorem Vs.pos {m b k : Nat} {s s' : Sg} (h : Vs nx m b k s s') : 0 < m := by cases h <;> omega
theorem Vs.le {m b k : Nat} {s s' : Sg} (h : Vs nx m b k s s') : k ≤ (nx b).length := by
  cases h with
  | fin => exact Nat.le_refl _
  | skip h => have := (List.getElem?_eq_some_iff.1 h).1; omega
  | down h => have := (List.getElem?_eq_some_iff.1 h).1; omega
theorem Vs.grows {m b k : Nat} {s s' : Sg} (h : Vs nx m b k s s') : ∀ x, s.1 x = true → s'.1 x = true := by
  induction h with
  | fin => exact fun x hx => hx
  | skip _ _ _ ih => exact ih
  | down _ _ _ _ ih1 ih2 => exact fun x hx => ih2 x (ih1 x (mark_iff.2 (Or.inr hx)))

/-- How many are not begun. -/
def free (n : Nat) (B : Nat → Bool) : Nat := ((List.range n).filter fun x => !B x).length
theorem filter_le {p q : Nat → Bool} : ∀ (l : List Nat), (∀ x ∈ l, p x = true → q x = true) → (l.filter p).length ≤ (l.filter q).length
  | [], _ => Nat.le_refl _
  | x :: l, h => by
    have ih := filter_le l fun y hy => h y (List.mem_cons_of_mem _ hy)
    have hx := h x (by simp)
    by_cases hp : p x = true
    · simp [hp, hx hp, ih]
    · by_cases hq : q x = true
      · simp [hp, hq]; omega
      · simp [hp, hq, ih]
theorem filter_lt {p q : Nat → Bool} : ∀ (l : List Nat), (∀ x ∈ l, p x = true → q x = true) → (∃ x ∈ l, p x = false ∧ q x = true) → (l.filter p).length < (l.filter q).length
  | [], _, h => by obtain ⟨x, hx, _⟩ := h; cases hx
  | x :: l, h, he => by
    have hl := filter_le l fun y hy => h y (List.mem_cons_of_mem _ hy)
    have hx := h x (by simp)
    by_cases hp : p x = true
    · have : ∃ y ∈ l, p y = false ∧ q y = true := by
        obtain ⟨y, hy, h1, h2⟩ := he
        rcases List.mem_cons.1 hy with rfl | hy
        · rw [hp] at h1; cases h1
        · exact ⟨y, hy, h1, h2⟩
      have ih := filter_lt l (fun y hy => h y (List.mem_cons_of_mem _ hy)) this
      simp [hp, hx hp, ih]
    · by_cases hq : q x = true
      · simp [hp, hq]; omega
      · have : ∃ y ∈ l, p y = false ∧ q y = true := by
          obtain ⟨y, hy, h1, h2⟩ := he
          rcases List.mem_cons.1 hy with rfl | hy
          · exact absurd h2 hq
          · exact ⟨y, hy, h1, h2⟩
        have ih := filter_lt l (fun y hy => h y (List.mem_cons_of_mem _ hy)) this
        simp [hp, hq, ih]
theorem free_le {n : Nat} {B B' : Nat → Bool} (h : ∀ x, B x = true → B' x = true) : free n B' ≤ free n B := by
  refine filter_le _ fun x _ hx => ?_
  cases hb : B x with
  | false => rfl
  | true => rw [h x hb] at hx; cases hx
theorem free_mark {n : Nat} {B : Nat → Bool} {c : Nat} (hc : c < n) (h : B c = false) : free n (mark B c) < free n B := by
  refine filter_lt _ (fun x _ hx => ?_) ⟨c, by simpa using hc, by simp [mark_self], by simp [h]⟩
  cases hb : B x with
  | false => rfl
  | true => rw [mark_iff.2 (Or.inr hb)] at hx; cases hx
theorem free_bound (n : Nat) (B : Nat → Bool) : free n B ≤ n := by
  have := List.length_filter_le (fun x => !B x) (List.range n)
  simpa [free] using this

/-- There is always such a walk. -/
theorem Vs.ex (hn : ∀ u, u < n → ∀ v ∈ nx u, v < n) : ∀ (f : Nat) (s : Sg), free n s.1 ≤ f → ∀ (e b k : Nat), b < n → (nx b).length = k + e → ∃ m s', Vs nx m b k s s' := by
  intro f
  induction f with
  | zero =>
    intro s hf e
    induction e with
    | zero =>
      intro b k _ he
      obtain rfl : k = (nx b).length := by omega
      exact ⟨1, _, Vs.fin⟩
    | succ e ih =>
      intro b k hb he
      obtain ⟨c, hc⟩ : ∃ c, (nx b)[k]? = some c := ⟨_, List.getElem?_eq_getElem (by omega)⟩
      have hcn := hn b hb c (List.mem_of_getElem? hc)
      cases hB : s.1 c with
      | false => have := free_mark hcn hB; omega
      | true =>
        obtain ⟨m, s', h⟩ := ih b (k + 1) hb (by omega)
        exact ⟨_, _, Vs.skip hc hB h⟩
  | succ f ihf =>
    intro s hf e
    induction e generalizing s with
    | zero =>
      intro b k _ he
      obtain rfl : k = (nx b).length := by omega
      exact ⟨1, _, Vs.fin⟩
    | succ e ih =>
      intro b k hb he
      obtain ⟨c, hc⟩ : ∃ c, (nx b)[k]? = some c := ⟨_, List.getElem?_eq_getElem (by omega)⟩
      have hcn := hn b hb c (List.mem_of_getElem? hc)
      cases hB : s.1 c with
      | false =>
        have h1 := free_mark hcn hB
        obtain ⟨j, s1, hj⟩ := ihf (mark s.1 c, s.2) (by simpa using by omega) (nx c).length c 0 hcn (by omega)
        have h2 := free_le (n := n) hj.grows
        simp only at h2
        obtain ⟨m, s', h⟩ := ih s1 (by omega) b (k + 1) hb (by omega)
        exact ⟨_, _, Vs.down hc hB hj h⟩
      | true =>
        obtain ⟨m, s', h⟩ := ih s hf b (k + 1) hb (by omega)
        exact ⟨_, _, Vs.skip hc hB h⟩

/-- What waits, the newest first, in m steps. -/
inductive Run (nx : Nat → List Nat) : Nat → List (Nat × Nat) → Sg → Sg → Prop
  | nil {s : Sg} : Run nx 0 [] s s
  | cons {m j b k : Nat} {S : List (Nat × Nat)} {s s1 s' : Sg} : Vs nx m b k s s1 → Run nx j S s1 s' → Run nx (m + j) ((b, k) :: S) s s'
/-- A step of what waits. -/
theorem Run.step {m b k : Nat} {S : List (Nat × Nat)} {s s' : Sg} (h : Run nx m ((b, k) :: S) s s') :
    (k = (nx b).length ∧ ∃ j, j < m ∧ Run nx j S (s.1, s.2 ++ [b]) s') ∨
    (∃ c, (nx b)[k]? = some c ∧ s.1 c = true ∧ ∃ j, j < m ∧ Run nx j ((b, k + 1) :: S) s s') ∨
    (∃ c, (nx b)[k]? = some c ∧ s.1 c = false ∧ ∃ j, j < m ∧ Run nx j ((c, 0) :: (b, k + 1) :: S) (mark s.1 c, s.2) s') := by
  cases h with
  | cons hv hr =>
    cases hv with
    | fin => exact Or.inl ⟨rfl, _, by omega, hr⟩
    | skip hc hB h => exact Or.inr (Or.inl ⟨_, hc, hB, _, by omega, Run.cons h hr⟩)
    | down hc hB hj h => exact Or.inr (Or.inr ⟨_, hc, hB, _, by omega, Run.cons hj (Run.cons h hr)⟩)

/-- a stands ahead of b. -/
def Bf (l : List Nat) (a b : Nat) : Prop := [a, b].Sublist l
/-- A way each of whose blocks stands ahead of the one before it. -/
inductive Fs (nx : Nat → List Nat) (l : List Nat) (x : Nat) : Nat → Prop
  | refl : Fs nx l x x
  | snoc {u v : Nat} : Fs nx l x u → v ∈ nx u → Bf l v u → Fs nx l x v
theorem Fs.mono {l l' : List Nat} {x y : Nat} (h : Fs nx l x y) (hl : l.Sublist l') : Fs nx l' x y := by
  induction h with
  | refl => exact Fs.refl
  | snoc _ hv hb ih => exact Fs.snoc ih hv (hb.trans hl)

/-- What holds at each step: seq is what is left, then what waits. -/
structure Iv (nx : Nat → List Nat) (S : List (Nat × Nat)) (s : Sg) : Prop where
  nd : (s.2 ++ S.map (·.1)).Nodup
  bg : ∀ x, s.1 x = true ↔ x ∈ s.2 ++ S.map (·.1)
  z0 : (s.2 ++ S.map (·.1)).getLast? = some 0
  st : ∀ l1 b k p j l2, S = l1 ++ (b, k) :: (p, j) :: l2 → b ∈ nx p
  pa : ∀ x ∈ s.2 ++ S.map (·.1), x ≠ 0 → ∃ p, x ∈ nx p ∧ Bf (s.2 ++ S.map (·.1)) x p
  ed : ∀ u ∈ s.2, ∀ h ∈ nx u, h ∈ s.2 ++ S.map (·.1) ∧ (Bf (s.2 ++ S.map (·.1)) h u ∨ Fs nx (s.2 ++ S.map (·.1)) h u)
  ew : ∀ u k, (u, k) ∈ S → ∀ h ∈ (nx u).take k, h ∈ s.2 ++ S.map (·.1) ∧ (Bf (s.2 ++ S.map (·.1)) h u ∨ Fs nx (s.2 ++ S.map (·.1)) h u)
  rw : ∀ x ∈ s.2 ++ S.map (·.1), ∃ l, RW nx l x
theorem Iv.start : Iv nx [(0, 0)] (mark (fun _ => false) 0, []) := by
  refine ⟨by simp, fun x => by simp [mark], by simp, fun l1 b k p j l2 e => ?_, fun x hx h0 => ?_, (fun u hu => by cases hu), fun u k hu h hh => ?_, fun x hx => ?_⟩
  · have := congrArg List.length e
    simp at this
    omega
  · simp at hx; exact absurd hx h0
  · simp at hu; obtain ⟨rfl, rfl⟩ := hu; simp at hh
  · simp at hx; subst hx; exact ⟨[0], RW.root⟩
/-- Down what waits: a way. -/
theorem stack_way {L : List Nat} : ∀ (S : List (Nat × Nat)), (∀ l1 b k p j l2, S = l1 ++ (b, k) :: (p, j) :: l2 → b ∈ nx p) → (S.map (·.1)).Sublist L → ∀ b k T, S = (b, k) :: T → ∀ h ∈ S.map (·.1), Fs nx L h b := by
  intro S
  induction S with
  | nil => intro _ _ b k T e; cases e
  | cons x S ih =>
    intro hs hL b k T e h hh
    injection e with e1 e2
    subst e1 e2
    simp only [List.map_cons, List.mem_cons] at hh
    rcases hh with rfl | hh
    · exact Fs.refl
    · cases S with
      | nil => cases hh
      | cons y S =>
        obtain ⟨p, j⟩ := y
        have h1 := ih (fun l1 b k p j l2 e => hs (_ :: l1) b k p j l2 (by rw [e]; rfl)) ((List.sublist_cons_self _ _).trans hL) p j S rfl h hh
        refine Fs.snoc h1 (hs [] b k p j S rfl) ?_
        exact (List.Sublist.cons_cons _ (List.Sublist.cons_cons _ (List.nil_sublist _))).trans hL
theorem Iv.run {m : Nat} : ∀ {S : List (Nat × Nat)} {s s' : Sg}, Run nx m S s s' → Iv nx S s → Iv nx [] s' := by
  induction m using Nat.strongRecOn with
  | ind m ih =>
    intro S s s' hr hi
    cases S with
    | nil => cases hr; exact hi
    | cons x S =>
      obtain ⟨b, k⟩ := x
      rcases hr.step with ⟨rfl, j, hj, hr'⟩ | ⟨c, hc, hB, j, hj, hr'⟩ | ⟨c, hc, hB, j, hj, hr'⟩
      · refine ih j hj hr' ?_
        have e : (s.2 ++ [b]) ++ S.map (·.1) = s.2 ++ ((b, (nx b).length) :: S).map (·.1) := by simp
        obtain ⟨h1, h2, h3, h4, h5, h6, h7, h8⟩ := hi
        refine ⟨?_, ?_, ?_, fun l1 b' k' p j' l2 e' => h4 ((b, _) :: l1) b' k' p j' l2 (by rw [e']; rfl), ?_, ?_, ?_, ?_⟩ <;> simp only [e]
        · exact h1
        · exact h2
        · exact h3
        · exact h5
        · intro u hu h hh
          rcases List.mem_append.1 hu with hu | hu
          · exact h6 u hu h hh
          · rw [List.mem_singleton.1 hu] at hh ⊢
            exact h7 b (nx b).length (by simp) h (by rw [List.take_length]; exact hh)
        · exact fun u k' hu h hh => h7 u k' (List.mem_cons_of_mem _ hu) h hh
        · exact h8
      · refine ih j hj hr' ?_
        have e : ((b, k + 1) :: S).map (·.1) = ((b, k) :: S).map (·.1) := rfl
        obtain ⟨h1, h2, h3, h4, h5, h6, h7, h8⟩ := hi
        have hcs := (h2 c).1 hB
        refine ⟨?_, ?_, ?_, fun l1 b' k' p j' l2 e' => ?_, ?_, ?_, fun u k' hu h hh => ?_, ?_⟩ <;> try simp only [e]
        · exact h1
        · exact h2
        · exact h3
        · cases l1 with
          | nil =>
            injection e' with e1 e2
            injection e1 with e1 _
            subst e1
            exact h4 [] b k p j' l2 (by rw [e2]; rfl)
          | cons y l1 =>
            injection e' with e1 e2
            exact h4 ((b, k) :: l1) b' k' p j' l2 (by rw [e2]; rfl)
        · exact h5
        · exact h6
        · rcases List.mem_cons.1 hu with hu | hu
          · injection hu with e1 e2
            subst e1 e2
            rw [List.take_add_one, hc] at hh
            rcases List.mem_append.1 hh with hh | hh
            · exact h7 u k (by simp) h hh
            · simp at hh
              subst hh
              refine ⟨hcs, ?_⟩
              rcases List.mem_append.1 hcs with hd | hs
              · left
                have : ([h] ++ [u]).Sublist (s.2 ++ ((u, k) :: S).map (·.1)) := List.Sublist.append (List.singleton_sublist.2 hd) (List.singleton_sublist.2 (by simp))
                exact this
              · right
                exact stack_way ((u, k) :: S) h4 (List.sublist_append_right _ _) u k S rfl h hs
          · exact h7 u k' (List.mem_cons_of_mem _ hu) h hh
        · exact h8
      · refine ih j hj hr' ?_
        have e : s.2 ++ ((c, 0) :: (b, k + 1) :: S).map (·.1) = s.2 ++ c :: ((b, k) :: S).map (·.1) := rfl
        obtain ⟨h1, h2, h3, h4, h5, h6, h7, h8⟩ := hi
        have hcn : c ∉ s.2 ++ ((b, k) :: S).map (·.1) := fun h => by rw [(h2 c).2 h] at hB; cases hB
        have hsub : (s.2 ++ ((b, k) :: S).map (·.1)).Sublist (s.2 ++ c :: ((b, k) :: S).map (·.1)) := List.Sublist.append (List.Sublist.refl _) (List.sublist_cons_self _ _)
        have hcb : Bf (s.2 ++ c :: ((b, k) :: S).map (·.1)) c b := (List.Sublist.cons_cons _ (List.Sublist.cons_cons _ (List.nil_sublist _))).trans (List.sublist_append_right _ _)
        have hcx : c ∈ nx b := List.mem_of_getElem? hc
        have hw : ∀ {u h : Nat}, (h ∈ s.2 ++ ((b, k) :: S).map (·.1) ∧ (Bf (s.2 ++ ((b, k) :: S).map (·.1)) h u ∨ Fs nx (s.2 ++ ((b, k) :: S).map (·.1)) h u)) → (h ∈ s.2 ++ c :: ((b, k) :: S).map (·.1) ∧ (Bf (s.2 ++ c :: ((b, k) :: S).map (·.1)) h u ∨ Fs nx (s.2 ++ c :: ((b, k) :: S).map (·.1)) h u)) :=
          fun ⟨h1, h2⟩ => ⟨hsub.subset h1, h2.imp (fun h => h.trans hsub) (fun h => h.mono hsub)⟩
        refine ⟨?_, ?_, ?_, fun l1 b' k' p j' l2 e' => ?_, ?_, fun u hu h hh => ?_, fun u k' hu h hh => ?_, ?_⟩ <;> try simp only [e]
        · rw [List.nodup_append] at h1 ⊢
          refine ⟨h1.1, List.nodup_cons.2 ⟨fun h => hcn (List.mem_append_right _ h), h1.2.1⟩, fun x hx y hy exy => ?_⟩
          rcases List.mem_cons.1 hy with rfl | hy
          · subst exy; exact hcn (List.mem_append_left _ hx)
          · exact h1.2.2 x hx y hy exy
        · intro x
          rw [mark_iff, h2 x]
          simp only [List.mem_append, List.mem_cons]
          constructor
          · rintro (h | h | h)
            · exact Or.inr (Or.inl h)
            · exact Or.inl h
            · exact Or.inr (Or.inr h)
          · rintro (h | h | h)
            · exact Or.inr (Or.inl h)
            · exact Or.inl h
            · exact Or.inr (Or.inr h)
        · rw [List.getLast?_append] at h3 ⊢
          simpa using h3
        · cases l1 with
          | nil =>
            injection e' with e1 e2
            injection e1 with e1 _
            injection e2 with e2 e3
            injection e2 with e2 _
            subst e1 e2
            exact hcx
          | cons y l1 =>
            injection e' with e1 e2
            cases l1 with
            | nil =>
              injection e2 with e2 e3
              injection e2 with e2 _
              subst e2
              exact h4 [] b k p j' l2 (by rw [e3]; rfl)
            | cons y l1 =>
              injection e2 with e2 e3
              exact h4 ((b, k) :: l1) b' k' p j' l2 (by rw [e3]; rfl)
        · intro x hx h0
          rcases List.mem_append.1 hx with hx' | hx'
          · obtain ⟨p, hp, hb⟩ := h5 x (List.mem_append_left _ hx') h0
            exact ⟨p, hp, hb.trans hsub⟩
          · rcases List.mem_cons.1 hx' with rfl | hx'
            · exact ⟨b, hcx, hcb⟩
            · obtain ⟨p, hp, hb⟩ := h5 x (List.mem_append_right _ hx') h0
              exact ⟨p, hp, hb.trans hsub⟩
        · exact hw (h6 u hu h hh)
        · rcases List.mem_cons.1 hu with hu | hu
          · injection hu with e1 e2
            subst e2
            simp at hh
          · rcases List.mem_cons.1 hu with hu | hu
            · injection hu with e1 e2
              subst e1 e2
              rw [List.take_add_one, hc] at hh
              rcases List.mem_append.1 hh with hh | hh
              · exact hw (h7 u k (by simp) h hh)
              · simp at hh
                subst hh
                exact ⟨by simp, Or.inl hcb⟩
            · exact hw (h7 u k' (List.mem_cons_of_mem _ hu) h hh)
        · intro x hx
          rcases List.mem_append.1 hx with hx' | hx'
          · exact h8 x (List.mem_append_left _ hx')
          · rcases List.mem_cons.1 hx' with rfl | hx'
            · obtain ⟨l, hl⟩ := h8 b (by simp)
              exact ⟨_, RW.step hl hcx⟩
            · exact h8 x (List.mem_append_right _ hx')

/-- The order in which a walk leaves the blocks. -/
structure Po (nx : Nat → List Nat) (D : List Nat) : Prop where
  nd : D.Nodup
  z0 : D.getLast? = some 0
  pa : ∀ x ∈ D, x ≠ 0 → ∃ p, x ∈ nx p ∧ Bf D x p
  ed : ∀ u ∈ D, ∀ h ∈ nx u, h ∈ D ∧ (Bf D h u ∨ Fs nx D h u)
  rw : ∀ x, x ∈ D ↔ ∃ l, RW nx l x
theorem Po.of_run {m : Nat} {s' : Sg} (h : Run nx m [(0, 0)] (mark (fun _ => false) 0, []) s') : Po nx s'.2 := by
  obtain ⟨h1, h2, h3, h4, h5, h6, h7, h8⟩ := Iv.run h Iv.start
  simp only [List.map_nil, List.append_nil] at h1 h2 h3 h5 h6 h8
  refine ⟨h1, h3, h5, h6, fun x => ⟨h8 x, ?_⟩⟩
  rintro ⟨l, hl⟩
  induction hl with
  | root => exact List.mem_of_getLast? h3
  | step _ hv ih => exact (h6 _ ih _ hv).1
end
end Go.Fl
