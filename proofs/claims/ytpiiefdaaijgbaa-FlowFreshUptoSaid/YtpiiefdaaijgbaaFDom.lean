/- Plain: ways from the block 0, who dominates whom, and the tables of nearest dominators that are made better pass by pass till none changes. No program in sight. -/
import Init
namespace Go.Fl

/-- A way from the block 0, the newest block first. -/
inductive RW (nx : Nat → List Nat) : List Nat → Nat → Prop
  | root : RW nx [0] 0
  | step {l : List Nat} {u v : Nat} : RW nx l u → v ∈ nx u → RW nx (v :: l) v
theorem RW.mem {nx : Nat → List Nat} {l : List Nat} {b : Nat} (h : RW nx l b) : b ∈ l := by cases h <;> simp
/-- Each way to b goes through a. -/
def Dom (nx : Nat → List Nat) (a b : Nat) : Prop := ∀ l, RW nx l b → a ∈ l
theorem Dom.refl (nx : Nat → List Nat) (b : Nat) : Dom nx b b := fun _ h => h.mem
theorem Dom.zero {nx : Nat → List Nat} {a : Nat} (h : Dom nx a 0) : a = 0 := by simpa using h _ RW.root
/-- The way to a block on a way. -/
theorem RW.cut {nx : Nat → List Nat} {l : List Nat} {b x : Nat} (h : RW nx l b) (hx : x ∈ l) : ∃ k, RW nx k x ∧ k <:+ l := by
  induction h with
  | root => simp at hx; subst hx; exact ⟨[0], RW.root, List.suffix_refl _⟩
  | @step l u v h hv ih =>
    rcases List.mem_cons.1 hx with rfl | hx
    · exact ⟨_, RW.step h hv, List.suffix_refl _⟩
    · obtain ⟨k, h1, h2⟩ := ih hx
      exact ⟨k, h1, h2.trans (List.suffix_cons _ _)⟩
theorem Dom.trans {nx : Nat → List Nat} {a b c : Nat} (h : Dom nx a b) (k : Dom nx b c) : Dom nx a c := fun l hl => by
  obtain ⟨m, h1, h2⟩ := hl.cut (k l hl)
  exact h2.subset (h m h1)
theorem Dom.pred {nx : Nat → List Nat} {a u b : Nat} (h : Dom nx a b) (hne : a ≠ b) (hb : b ∈ nx u) : Dom nx a u := fun l hl => by
  rcases List.mem_cons.1 (h _ (RW.step hl hb)) with h | h
  · exact absurd h hne
  · exact h

section
variable {nx : Nat → List Nat} {pl : Nat → Nat} {n : Nat}

/-- A way that goes on in the order alone. -/
inductive Fp (nx : Nat → List Nat) (pl : Nat → Nat) (x : Nat) : Nat → Prop
  | refl : Fp nx pl x x
  | snoc {u v : Nat} : Fp nx pl x u → v ∈ nx u → pl u < pl v → Fp nx pl x v
theorem Fp.le {x y : Nat} (h : Fp nx pl x y) : pl x ≤ pl y := by
  induction h with
  | refl => exact Nat.le_refl _
  | snoc _ _ hl ih => omega
theorem Fp.trans {x y z : Nat} (h : Fp nx pl x y) (k : Fp nx pl y z) : Fp nx pl x z := by
  induction k with
  | refl => exact h
  | snoc _ hv hl ih => exact Fp.snoc ih hv hl
/-- A way, and then one in the order. -/
theorem Fp.way {x y : Nat} (h : Fp nx pl x y) {l : List Nat} (hl : RW nx l x) : ∃ k, RW nx k y ∧ ∀ z ∈ k, z ∈ l ∨ pl x < pl z := by
  induction h with
  | refl => exact ⟨l, hl, fun z hz => Or.inl hz⟩
  | @snoc u v hu hv hlt ih =>
    obtain ⟨k, h1, h2⟩ := ih
    refine ⟨_, RW.step h1 hv, fun z hz => ?_⟩
    rcases List.mem_cons.1 hz with rfl | hz
    · have := hu.le
      exact Or.inr (by omega)
    · exact h2 z hz
/-- What dominates the end of a way in the order, and lies ahead of it, dominates its beginning. -/
theorem Dom.fp {a b c : Nat} (h : Dom nx a c) (f : Fp nx pl b c) (hlt : pl a ≤ pl b) : Dom nx a b := fun l hl => by
  obtain ⟨k, h1, h2⟩ := f.way hl
  rcases h2 a (h k h1) with h | h
  · exact h
  · omega

/-- Upwards in a table. -/
inductive Up (d : Nat → Option Nat) : Nat → Nat → Prop
  | refl (x : Nat) : Up d x x
  | step {x z y : Nat} : d x = some z → Up d z y → Up d x y
theorem Up.trans {d : Nat → Option Nat} {x y z : Nat} (h : Up d x y) (k : Up d y z) : Up d x z := by
  induction h with
  | refl => exact k
  | step e _ ih => exact Up.step e (ih k)
theorem Up.one {d : Nat → Option Nat} {x z : Nat} (h : d x = some z) : Up d x z := Up.step h (Up.refl z)

/-- What holds of the tables at all times. -/
structure Tb (nx : Nat → List Nat) (pl : Nat → Nat) (n : Nat) (d : Nat → Option Nat) : Prop where
  z0 : d 0 = some 0
  lt : ∀ b z, d b = some z → b ≠ 0 → pl z < pl b
  bd : ∀ b z, d b = some z → b < n ∧ z < n ∧ (d z).isSome
  fp : ∀ b z, d b = some z → Fp nx pl z b
  sd : ∀ b z, d b = some z → ∀ a, a ≠ b → Dom nx a b → Up d z a
theorem Tb.le {d : Nat → Option Nat} (h : Tb nx pl n d) {x y : Nat} (hu : Up d x y) : pl y ≤ pl x := by
  induction hu with
  | refl => exact Nat.le_refl _
  | @step x z y e _ ih =>
    by_cases hx : x = 0
    · subst hx
      rw [h.z0] at e
      injection e with e
      subst e
      exact ih
    · have := h.lt x z e hx
      omega
theorem Tb.ufp {d : Nat → Option Nat} (h : Tb nx pl n d) {x y : Nat} (hu : Up d x y) : Fp nx pl y x := by
  induction hu with
  | refl => exact Fp.refl
  | @step x z y e _ ih => exact ih.trans (h.fp x z e)
theorem Tb.isS {d : Nat → Option Nat} (h : Tb nx pl n d) {x y : Nat} (hu : Up d x y) (hx : (d x).isSome) : (d y).isSome := by
  induction hu with
  | refl => exact hx
  | @step x z y e _ ih => exact ih (h.bd x z e).2.2
theorem Tb.lt_n {d : Nat → Option Nat} (h : Tb nx pl n d) {x : Nat} (hx : (d x).isSome) : x < n := by
  obtain ⟨z, hz⟩ := Option.isSome_iff_exists.1 hx
  exact (h.bd x z hz).1
/-- Each block of the table lies below 0. -/
theorem Tb.up0 {d : Nat → Option Nat} (h : Tb nx pl n d) : ∀ {m x : Nat}, pl x ≤ m → (d x).isSome → Up d x 0 := by
  intro m
  induction m with
  | zero =>
    intro x hx hs
    by_cases h0 : x = 0
    · subst h0; exact Up.refl 0
    · obtain ⟨z, hz⟩ := Option.isSome_iff_exists.1 hs
      have := h.lt x z hz h0
      omega
  | succ m ih =>
    intro x hx hs
    by_cases h0 : x = 0
    · subst h0; exact Up.refl 0
    · obtain ⟨z, hz⟩ := Option.isSome_iff_exists.1 hs
      have := h.lt x z hz h0
      exact Up.step hz (ih (by omega) (h.bd x z hz).2.2)
theorem Up.zero {d : Nat → Option Nat} (h : d 0 = some 0) {y : Nat} (hu : Up d 0 y) : y = 0 := by
  have : ∀ x, Up d x y → x = 0 → y = 0 := fun x hx => by
    induction hx with
    | refl => exact fun e => e
    | @step x z y e _ ih =>
      intro e0
      subst e0
      rw [h] at e
      injection e with e
      exact ih (hu.trans (Up.refl _)) e.symm
  exact this 0 hu rfl
/-- Of two above the same block one is above the other. -/
theorem Up.chain {d : Nat → Option Nat} {x y z : Nat} (h : Up d x y) (k : Up d x z) : Up d y z ∨ Up d z y := by
  induction h with
  | refl => exact Or.inl k
  | @step x m y e hy ih =>
    cases k with
    | refl => exact Or.inr (Up.step e hy)
    | step e' k' =>
      rw [e] at e'
      injection e' with e'
      subst e'
      exact ih k'
/-- The nearest block above both. -/
structure Meet (d : Nat → Option Nat) (a b m : Nat) : Prop where
  l : Up d a m
  r : Up d b m
  t : ∀ y, Up d a y → Up d b y → Up d m y
theorem Meet.same (d : Nat → Option Nat) (a : Nat) : Meet d a a a := ⟨Up.refl a, Up.refl a, fun _ h _ => h⟩
/-- A step of the left one, which is the later of the two. -/
theorem Tb.stepL {d : Nat → Option Nat} (h : Tb nx pl n d) {a b z m : Nat} (e : d a = some z) (hlt : pl b < pl a) (hm : Meet d z b m) : Meet d a b m :=
  ⟨Up.step e hm.l, hm.r, fun y h1 h2 => hm.t y (by
    cases h1 with
    | refl => have := h.le h2; omega
    | step e' k => rw [e] at e'; injection e' with e'; subst e'; exact k) h2⟩
theorem Meet.symm {d : Nat → Option Nat} {a b m : Nat} (h : Meet d a b m) : Meet d b a m := ⟨h.r, h.l, fun y h1 h2 => h.t y h2 h1⟩
theorem Tb.stepR {d : Nat → Option Nat} (h : Tb nx pl n d) {a b z m : Nat} (e : d b = some z) (hlt : pl a < pl b) (hm : Meet d a z m) : Meet d a b m :=
  (h.stepL e hlt hm.symm).symm

/-- What the search over those from which edges lead has found. -/
def Bst (d : Nat → Option Nat) (us : List Nat) : Option Nat → Prop
  | none => ∀ u ∈ us, d u = none
  | some m => (∃ u ∈ us, (d u).isSome ∧ Up d u m) ∧ (∀ u ∈ us, (d u).isSome → Up d u m) ∧ ∀ y, (∀ u ∈ us, (d u).isSome → Up d u y) → Up d m y
theorem Bst.nil (d : Nat → Option Nat) : Bst d [] none := fun _ h => by cases h
theorem Bst.skip {d : Nat → Option Nat} {us : List Nat} {o : Option Nat} {u : Nat} (h : Bst d us o) (e : d u = none) : Bst d (us ++ [u]) o := by
  have hn : ¬ (d u).isSome := by rw [e]; simp
  cases o with
  | none =>
    intro v hv
    rcases List.mem_append.1 hv with hv | hv
    · exact h v hv
    · rw [List.mem_singleton.1 hv]; exact e
  | some m =>
    obtain ⟨⟨v, h1, h2, h3⟩, h4, h5⟩ := h
    refine ⟨⟨v, List.mem_append_left _ h1, h2, h3⟩, fun v hv hs => ?_, fun y hy => h5 y fun v hv hs => hy v (List.mem_append_left _ hv) hs⟩
    rcases List.mem_append.1 hv with hv | hv
    · exact h4 v hv hs
    · rw [List.mem_singleton.1 hv] at hs; exact absurd hs hn
theorem Bst.first {d : Nat → Option Nat} {us : List Nat} {u : Nat} (h : Bst d us none) (e : (d u).isSome) : Bst d (us ++ [u]) (some u) := by
  have hn : ∀ v ∈ us, ¬ (d v).isSome := fun v hv => by rw [h v hv]; simp
  refine ⟨⟨u, by simp, e, Up.refl u⟩, fun v hv hs => ?_, fun y hy => hy u (by simp) e⟩
  rcases List.mem_append.1 hv with hv | hv
  · exact absurd hs (hn v hv)
  · rw [List.mem_singleton.1 hv]; exact Up.refl u
theorem Bst.more {d : Nat → Option Nat} {us : List Nat} {u m m' : Nat} (h : Bst d us (some m)) (e : (d u).isSome) (hm : Meet d m u m') : Bst d (us ++ [u]) (some m') := by
  obtain ⟨⟨v, h1, h2, h3⟩, h4, h5⟩ := h
  refine ⟨⟨v, List.mem_append_left _ h1, h2, h3.trans hm.l⟩, fun v hv hs => ?_, fun y hy => hm.t y (h5 y fun v hv hs => hy v (List.mem_append_left _ hv) hs) (hy u (by simp) e)⟩
  rcases List.mem_append.1 hv with hv | hv
  · exact (h4 v hv hs).trans hm.l
  · rw [List.mem_singleton.1 hv]; exact hm.r
theorem Bst.isSome {d : Nat → Option Nat} {us : List Nat} {m : Nat} (h : Bst d us (some m)) (hT : Tb nx pl n d) : (d m).isSome := by
  obtain ⟨⟨v, h1, h2, h3⟩, _⟩ := h
  exact hT.isS h3 h2

/-- A table with one entry another. -/
def put (d : Nat → Option Nat) (b z : Nat) : Nat → Option Nat := fun x => if x = b then some z else d x
theorem put_self (d : Nat → Option Nat) (b z : Nat) : put d b z b = some z := by simp [put]
theorem put_ne {d : Nat → Option Nat} {b z x : Nat} (h : x ≠ b) : put d b z x = d x := by simp [put, h]

/-- What is known of the graph and its order. -/
structure Gr (nx : Nat → List Nat) (pl : Nat → Nat) (n : Nat) (ah : Nat → List Nat) : Prop where
  p0 : pl 0 = 0
  pos : ∀ b, b < n → b ≠ 0 → 0 < pl b
  inj : ∀ a b, a < n → b < n → pl a = pl b → a = b
  mem : ∀ u b, b < n → (u ∈ ah b ↔ u < n ∧ b ∈ nx u)
  par : ∀ b, b < n → b ≠ 0 → ∃ u ∈ ah b, pl u < pl b
  n0 : 0 < n
  nlt : ∀ u, u < n → ∀ v ∈ nx u, v < n

variable {ah : Nat → List Nat}
theorem RW.lt (g : Gr nx pl n ah) {l : List Nat} {b : Nat} (h : RW nx l b) : ∀ x ∈ l, x < n := by
  have hb : ∀ {l : List Nat} {b : Nat}, RW nx l b → b < n ∧ ∀ x ∈ l, x < n := fun h => by
    induction h with
    | root => exact ⟨g.n0, fun x hx => by simp at hx; subst hx; exact g.n0⟩
    | step _ hv ih =>
      have := g.nlt _ ih.1 _ hv
      refine ⟨this, fun x hx => ?_⟩
      rcases List.mem_cons.1 hx with rfl | hx
      · exact this
      · exact ih.2 x hx
  exact (hb h).2

theorem up_put {d : Nat → Option Nat} {b z x y : Nat} (hT : Tb nx pl n d) (hlt : pl x < pl b) (h : Up d x y) : Up (put d b z) x y := by
  induction h with
  | refl => exact Up.refl _
  | @step x m y e _ ih =>
    have hx : x ≠ b := fun e => by subst e; omega
    refine Up.step (by rw [put_ne hx]; exact e) (ih ?_)
    by_cases h0 : x = 0
    · subst h0
      rw [hT.z0] at e
      injection e with e
      subst e
      exact hlt
    · have := hT.lt x m e h0
      omega

/-- A better entry keeps what holds of the tables. -/
theorem Tb.put (g : Gr nx pl n ah) {d : Nat → Option Nat} (h : Tb nx pl n d) {b z : Nat} (hb : b < n) (h0 : b ≠ 0) (hs : ∃ u ∈ ah b, pl u < pl b ∧ (d u).isSome) (hz : Bst d (ah b) (some z)) : Tb nx pl n (put d b z) := by
  have hz1 := hz.isSome h
  obtain ⟨u, hu, hul, hus⟩ := hs
  have hbu : b ∈ nx u := ((g.mem u b hb).1 hu).2
  have huz : Up d u z := hz.2.1 u hu hus
  have hzu := h.le huz
  have hzb : z ≠ b := fun e => by subst e; omega
  have hfz : Fp nx pl z b := Fp.snoc (h.ufp huz) hbu hul
  have sd0 : ∀ a, a ≠ b → Dom nx a b → Up d z a := fun a ha hd => hz.2.2 a fun v hv hvs => by
    have hbv := ((g.mem v b hb).1 hv).2
    have hd' := hd.pred ha hbv
    by_cases hav : a = v
    · subst hav; exact Up.refl _
    · obtain ⟨y, hy⟩ := Option.isSome_iff_exists.1 hvs
      exact Up.step hy (h.sd v y hy a hav hd')
  have sd1 : ∀ a, a ≠ b → Dom nx a b → Up (Fl.put d b z) z a := fun a ha hd => up_put h (by omega) (sd0 a ha hd)
  have key : ∀ c a x, Dom nx a c → Up d x a → Fp nx pl x c → Up (Fl.put d b z) x a := by
    intro c a x hd hx
    induction hx with
    | refl => intro _; exact Up.refl _
    | @step x m y e hm ih =>
      intro hf
      by_cases hxb : x = b
      · subst hxb
        by_cases hya : y = x
        · subst hya; exact Up.refl _
        · have hle := h.le (Up.step e hm)
          exact Up.step (put_self d x z) (sd1 y hya (hd.fp hf hle))
      · exact Up.step (by rw [put_ne hxb]; exact e) (ih hd ((h.fp x m e).trans hf))
  refine ⟨by rw [put_ne (Ne.symm h0)]; exact h.z0, fun c y hc hc0 => ?_, fun c y hc => ?_, fun c y hc => ?_, fun c y hc a ha hd => ?_⟩
  · by_cases hcb : c = b
    · subst hcb
      rw [put_self] at hc
      injection hc with hc
      subst hc
      omega
    · rw [put_ne hcb] at hc
      exact h.lt c y hc hc0
  · have hsome : ∀ y, (d y).isSome → (Fl.put d b z y).isSome := fun y hy => by
      by_cases hyb : y = b
      · subst hyb; rw [put_self]; rfl
      · rw [put_ne hyb]; exact hy
    by_cases hcb : c = b
    · subst hcb
      rw [put_self] at hc
      injection hc with hc
      subst hc
      exact ⟨hb, h.lt_n hz1, hsome _ hz1⟩
    · rw [put_ne hcb] at hc
      obtain ⟨h1, h2, h3⟩ := h.bd c y hc
      exact ⟨h1, h2, hsome _ h3⟩
  · by_cases hcb : c = b
    · subst hcb
      rw [put_self] at hc
      injection hc with hc
      subst hc
      exact hfz
    · rw [put_ne hcb] at hc
      exact h.fp c y hc
  · by_cases hcb : c = b
    · subst hcb
      rw [put_self] at hc
      injection hc with hc
      subst hc
      exact sd1 a ha hd
    · rw [put_ne hcb] at hc
      exact key c a y hd (h.sd c y hc a ha hd) (h.fp c y hc)

/-- How often a way leads back in the order. -/
def ret (pl : Nat → Nat) : List Nat → Nat
  | v :: u :: l => (if pl v ≤ pl u then 1 else 0) + ret pl (u :: l)
  | _ => 0
/-- An entry is right for all ways that lead back less than k times. -/
def Lv (nx : Nat → List Nat) (pl : Nat → Nat) (d : Nat → Option Nat) (k b : Nat) : Prop := k = 0 ∨ ∃ z, d b = some z ∧ ∀ l, RW nx l b → ret pl l < k → z ∈ l
theorem Lv.mono {d : Nat → Option Nat} {k j b : Nat} (h : Lv nx pl d k b) (hj : j ≤ k) : Lv nx pl d j b := by
  rcases h with rfl | ⟨z, h1, h2⟩
  · exact Or.inl (by omega)
  · exact Or.inr ⟨z, h1, fun l hl hr => h2 l hl (by omega)⟩
theorem ret_suffix {k : List Nat} : ∀ {l : List Nat}, k <:+ l → ret pl k ≤ ret pl l
  | [], h => by rw [List.suffix_nil.1 h]; exact Nat.le_refl _
  | [x], h => by
    rcases List.suffix_cons_iff.1 h with rfl | h
    · exact Nat.le_refl _
    · rw [List.suffix_nil.1 h]; exact Nat.le_refl _
  | v :: u :: l, h => by
    rcases List.suffix_cons_iff.1 h with rfl | h
    · exact Nat.le_refl _
    · have := ret_suffix h
      have e : ret pl (v :: u :: l) = (if pl v ≤ pl u then 1 else 0) + ret pl (u :: l) := rfl
      omega
/-- What lies above a block that is right, where all above it are right. -/
theorem Tb.above {d : Nat → Option Nat} (h : Tb nx pl n d) {k : Nat} (hk : 0 < k) : ∀ (m : Nat) {x y : Nat} {l : List Nat}, pl x ≤ m → (∀ b, b ≠ 0 → pl b ≤ pl x → (d b).isSome → Lv nx pl d k b) → (d x).isSome → Up d x y → RW nx l x → ret pl l < k → y ∈ l := by
  intro m
  induction m with
  | zero =>
    intro x y l hx hl hs hu hr _
    by_cases h0 : x = 0
    · subst h0
      rw [hu.zero h.z0]
      exact hr.mem
    · obtain ⟨z, hz⟩ := Option.isSome_iff_exists.1 hs
      have := h.lt x z hz h0
      omega
  | succ m ih =>
    intro x y l hx hl hs hu hr hret
    by_cases h0 : x = 0
    · subst h0
      rw [hu.zero h.z0]
      exact hr.mem
    · cases hu with
      | refl => exact hr.mem
      | @step _ z _ e hu' =>
        have hlt := h.lt x z e h0
        rcases hl x h0 (Nat.le_refl _) hs with h1 | ⟨z', h1, h2⟩
        · omega
        · rw [e] at h1
          injection h1 with h1
          subst h1
          obtain ⟨k', hk1, hk2⟩ := hr.cut (h2 l hr hret)
          refine hk2.subset (ih (by omega) (fun b hb0 hb => hl b hb0 (by omega)) (h.bd x z e).2.2 hu' hk1 ?_)
          have := ret_suffix (pl := pl) hk2
          omega
/-- The step of the search: those ahead of b in the order are right for k + 1, all for k. -/
theorem Tb.lev (g : Gr nx pl n ah) {d : Nat → Option Nat} (h : Tb nx pl n d) {k b z : Nat} (hb : b < n) (h0 : b ≠ 0)
    (hA : ∀ c, c < n → c ≠ 0 → pl c < pl b → Lv nx pl d (k + 1) c) (hB : ∀ c, c < n → c ≠ 0 → Lv nx pl d k c) (hz : Bst d (ah b) (some z)) :
    ∀ l, RW nx l b → ret pl l < k + 1 → z ∈ l := by
  intro l hl hr
  cases hl with
  | root => exact absurd rfl h0
  | @step l u _ hu hbu =>
    have hun : u < n := hu.lt g u hu.mem
    have hua : u ∈ ah b := (g.mem u b hb).2 ⟨hun, hbu⟩
    by_cases hlt : pl u < pl b
    · have hus : (d u).isSome := by
        by_cases hu0 : u = 0
        · subst hu0; rw [h.z0]; rfl
        · rcases hA u hun hu0 hlt with h1 | ⟨y, h1, _⟩
          · omega
          · rw [h1]; rfl
      have huz := hz.2.1 u hua hus
      refine List.mem_cons_of_mem _ (h.above (k := k + 1) (by omega) (pl u) (Nat.le_refl _) (fun c hc0 hc hcs => hA c (h.lt_n hcs) hc0 (by omega)) hus huz hu ?_)
      have := ret_suffix (pl := pl) (List.suffix_cons b l)
      omega
    · have hr' : ret pl l < k := by
        cases hu with
        | root => simp [ret] at hr ⊢; have := g.p0; have := g.pos b hb h0; omega
        | step _ _ =>
          unfold ret at hr
          rw [if_pos (by omega)] at hr
          omega
      have hk : 0 < k := by omega
      have hus : (d u).isSome := by
        by_cases hu0 : u = 0
        · subst hu0; rw [h.z0]; rfl
        · rcases hB u hun hu0 with h1 | ⟨y, h1, _⟩
          · omega
          · rw [h1]; rfl
      have huz := hz.2.1 u hua hus
      exact List.mem_cons_of_mem _ (h.above hk (pl u) (Nat.le_refl _) (fun c hc0 _ hcs => hB c (h.lt_n hcs) hc0) hus huz hu hr')

/-- The state within a pass: the blocks ahead of the place p are right for k + 1, all for k. -/
structure Ps (nx : Nat → List Nat) (pl : Nat → Nat) (n : Nat) (k p : Nat) (d : Nat → Option Nat) : Prop where
  tb : Tb nx pl n d
  a : ∀ c, c < n → c ≠ 0 → pl c < p → Lv nx pl d (k + 1) c
  b : ∀ c, c < n → c ≠ 0 → Lv nx pl d k c
/-- There is a block ahead whose entry is known. -/
theorem Ps.par (g : Gr nx pl n ah) {k : Nat} {d : Nat → Option Nat} {b : Nat} (h : Ps nx pl n k (pl b) d) (hb : b < n) (h0 : b ≠ 0) : ∃ u ∈ ah b, pl u < pl b ∧ (d u).isSome := by
  obtain ⟨u, hu, hl⟩ := g.par b hb h0
  refine ⟨u, hu, hl, ?_⟩
  by_cases hu0 : u = 0
  · subst hu0; rw [h.tb.z0]; rfl
  · rcases h.a u ((g.mem u b hb).1 hu).1 hu0 hl with h1 | ⟨y, h1, _⟩
    · omega
    · rw [h1]; rfl
theorem Ps.found (g : Gr nx pl n ah) {k : Nat} {d : Nat → Option Nat} {b : Nat} (h : Ps nx pl n k (pl b) d) (hb : b < n) (h0 : b ≠ 0) {o : Option Nat} (hz : Bst d (ah b) o) : ∃ z, o = some z := by
  cases o with
  | some z => exact ⟨z, rfl⟩
  | none =>
    obtain ⟨u, hu, _, hs⟩ := h.par g hb h0
    rw [hz u hu] at hs
    cases hs
theorem Lv.put {d : Nat → Option Nat} {k c b z : Nat} (h : Lv nx pl d k c) (hne : c ≠ b) : Lv nx pl (Fl.put d b z) k c := by
  rcases h with h | ⟨y, h1, h2⟩
  · exact Or.inl h
  · exact Or.inr ⟨y, by rw [put_ne hne]; exact h1, h2⟩
theorem Ps.next (g : Gr nx pl n ah) {k : Nat} {d : Nat → Option Nat} {b z : Nat} (h : Ps nx pl n k (pl b) d) (hb : b < n) (h0 : b ≠ 0) (hz : Bst d (ah b) (some z)) : Ps nx pl n k (pl b + 1) (Fl.put d b z) := by
  have hl := h.tb.lev g hb h0 h.a h.b hz
  have hself : ∀ j, j ≤ k + 1 → Lv nx pl (Fl.put d b z) j b := fun j hj => Or.inr ⟨z, put_self d b z, fun l h1 h2 => hl l h1 (by omega)⟩
  refine ⟨h.tb.put g hb h0 (h.par g hb h0) hz, fun c hc hc0 hp => ?_, fun c hc hc0 => ?_⟩
  · by_cases hcb : c = b
    · subst hcb; exact hself _ (Nat.le_refl _)
    · have : pl c ≠ pl b := fun e => hcb (g.inj c b hc hb e)
      exact (h.a c hc hc0 (by omega)).put hcb
  · by_cases hcb : c = b
    · subst hcb; exact hself _ (by omega)
    · exact (h.b c hc hc0).put hcb
theorem Ps.done {k p : Nat} {d : Nat → Option Nat} (h : Ps nx pl n k p d) (hp : ∀ c, c < n → pl c < p) : ∀ c, c < n → c ≠ 0 → Lv nx pl d (k + 1) c := fun c hc h0 => h.a c hc h0 (hp c hc)
/-- A table in which no entry changes is right for all ways. -/
theorem fix_all (g : Gr nx pl n ah) {d : Nat → Option Nat} (h : Tb nx pl n d) (hf : ∀ b, b < n → b ≠ 0 → Bst d (ah b) (d b) ∧ (d b).isSome) : ∀ k c, c < n → c ≠ 0 → Lv nx pl d k c := by
  intro k
  induction k with
  | zero => exact fun _ _ _ => Or.inl rfl
  | succ k ih =>
    have : ∀ m c, pl c ≤ m → c < n → c ≠ 0 → Lv nx pl d (k + 1) c := by
      intro m
      induction m with
      | zero => intro c hm hc h0; have := g.pos c hc h0; omega
      | succ m ihm =>
        intro c hm hc h0
        obtain ⟨h1, h2⟩ := hf c hc h0
        obtain ⟨z, hz⟩ := Option.isSome_iff_exists.1 h2
        rw [hz] at h1
        exact Or.inr ⟨z, hz, h.lev g hc h0 (fun x hx hx0 hl => ihm x (by omega) hx hx0) ih h1⟩
    exact fun c hc h0 => this (pl c) c (Nat.le_refl _) hc h0

/-- A way has one of its own that comes to no block twice. -/
theorem RW.simple {l : List Nat} {b : Nat} (h : RW nx l b) : ∃ k, RW nx k b ∧ k.Nodup ∧ ∀ x ∈ k, x ∈ l := by
  induction h with
  | root => exact ⟨[0], RW.root, by simp, fun x hx => hx⟩
  | @step l u v h hv ih =>
    obtain ⟨k, h1, h2, h3⟩ := ih
    by_cases hvk : v ∈ k
    · obtain ⟨j, hj1, hj2⟩ := h1.cut hvk
      exact ⟨j, hj1, hj2.sublist.nodup h2, fun x hx => List.mem_cons_of_mem _ (h3 x (hj2.subset hx))⟩
    · exact ⟨v :: k, RW.step h1 hv, List.nodup_cons.2 ⟨hvk, h2⟩, fun x hx => by
        rcases List.mem_cons.1 hx with rfl | hx
        · simp
        · exact List.mem_cons_of_mem _ (h3 x hx)⟩
theorem ret_lt : ∀ (l : List Nat), l ≠ [] → ret pl l < l.length
  | [], h => absurd rfl h
  | [x], _ => by simp [ret]
  | v :: u :: l, _ => by
    have := ret_lt (u :: l) (by simp)
    unfold ret
    simp only [List.length_cons] at *
    split <;> omega
theorem nodup_len : ∀ (n : Nat) (l : List Nat), l.Nodup → (∀ x ∈ l, x < n) → l.length ≤ n
  | 0, l, _, h => by
    cases l with
    | nil => simp
    | cons x l => have := h x (by simp); omega
  | n + 1, l, hn, h => by
    have h1 : (l.erase n).length ≤ n := nodup_len n (l.erase n) (hn.erase n) fun x hx => by
      have hx' := hn.mem_erase_iff.1 hx
      have := h x hx'.2
      have := hx'.1
      omega
    have h2 : l.length ≤ (l.erase n).length + 1 := by
      rw [List.length_erase]
      split <;> omega
    omega
/-- Right for n: right for all. -/
theorem Lv.dom (g : Gr nx pl n ah) {d : Nat → Option Nat} {b k : Nat} (h : Lv nx pl d k b) (hk : n ≤ k) : ∃ z, d b = some z ∧ Dom nx z b := by
  rcases h with h | ⟨z, h1, h2⟩
  · have := g.n0; omega
  · refine ⟨z, h1, fun l hl => ?_⟩
    obtain ⟨j, hj, hn, hs⟩ := hl.simple
    have hlen := nodup_len n j hn (hj.lt g)
    have hr := ret_lt (pl := pl) j (by cases hj <;> simp)
    exact hs z (h2 j hj (by omega))
/-- The table of the nearest dominators. -/
structure Idom (nx : Nat → List Nat) (pl : Nat → Nat) (n : Nat) (d : Nat → Option Nat) : Prop where
  tb : Tb nx pl n d
  dm : ∀ b, b < n → ∃ z, d b = some z ∧ Dom nx z b
theorem idom_of (g : Gr nx pl n ah) {d : Nat → Option Nat} {k : Nat} (h : Tb nx pl n d) (hl : ∀ c, c < n → c ≠ 0 → Lv nx pl d k c) (hk : n ≤ k) : Idom nx pl n d := by
  refine ⟨h, fun b hb => ?_⟩
  by_cases h0 : b = 0
  · subst h0; exact ⟨0, h.z0, Dom.refl _ _⟩
  · exact (hl b hb h0).dom g hk
theorem idom_fix (g : Gr nx pl n ah) {d : Nat → Option Nat} (h : Tb nx pl n d) (hf : ∀ b, b < n → b ≠ 0 → Bst d (ah b) (d b) ∧ (d b).isSome) : Idom nx pl n d :=
  idom_of g h (fix_all g h hf n) (Nat.le_refl _)
/-- Where all is right for n, the search finds what stands there. -/
theorem Ps.still (g : Gr nx pl n ah) {k : Nat} {d : Nat → Option Nat} {b z : Nat} (h : Ps nx pl n k (pl b) d) (hk : n ≤ k) (hb : b < n) (h0 : b ≠ 0) (hz : Bst d (ah b) (some z)) : d b = some z := by
  obtain ⟨y, hy, hd⟩ := (h.b b hb h0).dom g hk
  have hp := h.tb.put g hb h0 (h.par g hb h0) hz
  have hzb : pl z < pl b := hp.lt b z (put_self d b z) h0
  have hyb := h.tb.lt b y hy h0
  have hlz : Lv nx pl (Fl.put d b z) (k + 1) b := (h.next g hb h0 hz).a b hb h0 (Nat.lt_succ_self _)
  obtain ⟨z', hz', hdz⟩ := hlz.dom g (by omega)
  rw [put_self] at hz'
  injection hz' with hz'
  subst hz'
  have h1 : Up d y z := h.tb.sd b y hy z (fun e => by subst e; omega) hdz
  have h2 : Up (Fl.put d b z) z y := hp.sd b z (put_self d b z) y (fun e => by subst e; omega) hd
  have e1 := h.tb.le h1
  have e2 := hp.le h2
  have := g.inj y z (h.tb.bd b y hy).2.1 (hp.bd b z (put_self d b z)).2.1 (by omega)
  rw [hy, this]

/-- Upwards: dominates. -/
theorem Idom.up {d : Nat → Option Nat} (h : Idom nx pl n d) {a b : Nat} (hb : b < n) : Up d b a ↔ Dom nx a b := by
  constructor
  · intro hu
    have : ∀ x, Up d x a → x < n → Dom nx a x := fun x hx => by
      induction hx with
      | refl => exact fun _ => Dom.refl _ _
      | @step x z y e _ ih =>
        intro hn
        obtain ⟨z', h1, h2⟩ := h.dm x hn
        rw [e] at h1
        injection h1 with h1
        subst h1
        exact (ih (hu.trans (Up.refl _)) (h.tb.bd x z e).2.1).trans h2
    exact this b hu hb
  · intro hd
    by_cases hab : a = b
    · subst hab; exact Up.refl _
    · obtain ⟨z, hz, _⟩ := h.dm b hb
      exact Up.step hz (h.tb.sd b z hz a hab hd)
/-- Climbing till the place is no later than a's. -/
theorem Idom.climb (g : Gr nx pl n ah) {d : Nat → Option Nat} (h : Idom nx pl n d) {a b : Nat} (ha : a < n) (hb : b < n) (hle : pl b ≤ pl a) : a = b ↔ Dom nx a b := by
  constructor
  · rintro rfl; exact Dom.refl _ _
  · intro hd
    have := h.tb.le ((h.up hb).2 hd)
    exact g.inj a b ha hb (by omega)
theorem Idom.climb_step {d : Nat → Option Nat} (h : Idom nx pl n d) {a b z : Nat} (hb : b < n) (hlt : pl a < pl b) (e : d b = some z) : Dom nx a z ↔ Dom nx a b := by
  obtain ⟨z', h1, h2⟩ := h.dm b hb
  rw [e] at h1
  injection h1 with h1
  subst h1
  constructor
  · exact fun k => k.trans h2
  · intro k
    have hab : a ≠ b := fun e => by subst e; omega
    exact (h.up (h.tb.bd b z e).2.1).1 (h.tb.sd b z e a hab k)
end
end Go.Fl
