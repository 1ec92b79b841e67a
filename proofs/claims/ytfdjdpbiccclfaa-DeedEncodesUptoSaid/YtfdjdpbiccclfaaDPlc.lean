/- Plain facts of a deed with which nothing is wrong. -/
import Derived.Test.YtfdjdpbiccclfaaDDd
namespace Go.Proofs.Ytfdjdpbiccclfaa
open Go Go.RowKit Go.Wr
set_option maxHeartbeats 1000000

theorem goodLs_all {l : List Lp} (h : goodLs l = 0) : ∀ x ∈ l, goodLoop x = true := by
  induction l with
  | nil => intro x hx; cases hx
  | cons y l ih =>
    unfold goodLs at h
    by_cases hy : goodLoop y = true
    · rw [if_pos hy] at h
      intro x hx
      rcases List.mem_cons.1 hx with rfl | hx
      · exact hy
      · exact ih h x hx
    · rw [if_neg hy] at h; cases h
theorem goodLs_of {l : List Lp} (h : ∀ x ∈ l, goodLoop x = true) : goodLs l = 0 := by
  induction l with
  | nil => rfl
  | cons y l ih =>
    unfold goodLs
    rw [if_pos (h y (by simp))]
    exact ih fun x hx => h x (by simp [hx])
theorem goodCs_all {l : List Cl} (h : goodCs l = 0) : ∀ x ∈ l, goodClaim x.d x.f x.l = 0 := by
  induction l with
  | nil => intro x hx; cases hx
  | cons y l ih =>
    unfold goodCs at h
    by_cases hy : goodClaim y.d y.f y.l = 0
    · rw [if_pos hy] at h
      intro x hx
      rcases List.mem_cons.1 hx with rfl | hx
      · exact hy
      · exact ih h x hx
    · rw [if_neg hy] at h; exact absurd h hy
theorem goodCs_of {l : List Cl} (h : ∀ x ∈ l, goodClaim x.d x.f x.l = 0) : goodCs l = 0 := by
  induction l with
  | nil => rfl
  | cons y l ih =>
    unfold goodCs
    rw [if_pos (h y (by simp))]
    exact ih fun x hx => h x (by simp [hx])
theorem plainD_all {d : Dd} (h : plainD d = 0) : d.ls.length ≤ 8 ∧ d.cs.length ≤ 512 ∧ (∀ x ∈ d.ls, goodLoop x = true) ∧ ∀ x ∈ d.cs, goodClaim x.d x.f x.l = 0 := by
  unfold plainD at h
  by_cases h1 : 8 < d.ls.length ∨ 512 < d.cs.length
  · rw [if_pos h1] at h; cases h
  · rw [if_neg h1] at h
    by_cases h2 : goodLs d.ls = 0
    · rw [if_pos h2] at h
      exact ⟨by omega, by omega, goodLs_all h2, goodCs_all h⟩
    · rw [if_neg h2] at h; cases h
theorem plainD_of {d : Dd} (h1 : d.ls.length ≤ 8) (h2 : d.cs.length ≤ 512) (h3 : ∀ x ∈ d.ls, goodLoop x = true) (h4 : ∀ x ∈ d.cs, goodClaim x.d x.f x.l = 0) : plainD d = 0 := by
  unfold plainD
  rw [if_neg (by omega), if_pos (goodLs_of h3)]
  exact goodCs_of h4

theorem goodLoop_iff {x : Lp} : goodLoop x = true ↔ (0 ≤ x.h ∧ x.h ≤ 511) ∧ (0 ≤ x.a ∧ x.a ≤ 59) ∧ (0 ≤ x.b ∧ x.b ≤ 59) ∧ (-1099511627776 ≤ x.k ∧ x.k ≤ 1099511627776) ∧ 0 ≤ x.d ∧ x.d ≤ 1099511627776 := by
  simp only [goodLoop, Bool.and_eq_true, inB_iff]
theorem goodCon_iff {x : C3} : goodCon x = true ↔ (0 ≤ x.i ∧ x.i ≤ 59) ∧ (0 ≤ x.j ∧ x.j ≤ 59) ∧ x.i ≠ x.j ∧ -1099511627776 ≤ x.c ∧ x.c ≤ 1099511627776 := by
  simp only [goodCon, Bool.and_eq_true, inB_iff, decide_eq_true_eq]
theorem rises_iff {a b : C3} : rises a b = true ↔ a.i < b.i ∨ a.i = b.i ∧ a.j < b.j := by
  simp only [rises, Bool.or_eq_true, Bool.and_eq_true, decide_eq_true_eq]
theorem goodTag_iff {t : Tg} {m : Int} : goodTag t m = true ↔ (0 ≤ t.k ∧ t.k ≤ 6) ∧ (0 ≤ t.t ∧ t.t ≤ if t.k = 5 ∨ t.k = 6 then 7 else 0) ∧ 0 ≤ t.m ∧ t.m ≤ if t.k = 0 then m else 0 := by
  simp only [goodTag, Bool.and_eq_true, inB_iff]
theorem goodTag_in {t : Tg} {m : Int} (hm : m ≤ 255) (h0 : 0 ≤ m) (h : goodTag t m = true) : TgIn t := by
  rw [goodTag_iff] at h
  obtain ⟨h1, h2, h3⟩ := h
  refine ⟨h1, ⟨h2.1, ?_⟩, ⟨h3.1, ?_⟩⟩
  · have := h2.2; split at this <;> omega
  · have := h3.2; split at this <;> omega
theorem goodTag_zero : goodTag tz 0 = true := by decide
theorem tagsOk_iff {f : Nat → Tg} {m : Int} {o n : Nat} : tagsOk f m o n = true ↔ ∀ i, i < n → goodTag (f (o + i)) m = true := by
  simp only [tagsOk, List.all_eq_true, List.mem_range]

/-- The bounds rise, each as it may be. -/
def Rise : Option C3 → List C3 → Prop
  | _, [] => True
  | p, x :: l => goodCon x = true ∧ (∀ y, p = some y → rises y x = true) ∧ Rise (some x) l
theorem goC_rise (l : List C3) : ∀ p, goC p l = 0 ↔ Rise p l := by
  induction l with
  | nil => intro p; cases p <;> simp [goC, Rise]
  | cons x l ih =>
    intro p
    unfold Rise
    cases hg : goodCon x with
    | false => simp [goC, hg]
    | true =>
      cases p with
      | none => simp [goC, hg, ih]
      | some y =>
        cases hr : rises y x with
        | false => simp [goC, hg, hr]
        | true => simp [goC, hg, hr, ih]
def key (x : C3) : Int := x.i * 59 + if x.j < x.i then x.j else x.j - 1
theorem key_in {x : C3} (h : goodCon x = true) : 0 ≤ key x ∧ key x < 3540 := by
  rw [goodCon_iff] at h
  unfold key
  split <;> omega
theorem key_lt {x y : C3} (hx : goodCon x = true) (hy : goodCon y = true) (h : rises y x = true) : key y < key x := by
  rw [goodCon_iff] at hx hy
  rw [rises_iff] at h
  unfold key
  split <;> split <;> omega
theorem rise_len {l : List C3} : ∀ y, goodCon y = true → Rise (some y) l → (l.length : Int) + key y + 1 ≤ 3540 := by
  induction l with
  | nil => intro y hy _; have := key_in hy; simp; omega
  | cons x l ih =>
    intro y hy h
    obtain ⟨h1, h2, h3⟩ := h
    have := ih x h1 h3
    have := key_lt h1 hy (h2 y rfl)
    simp only [List.length_cons]
    omega
theorem rise_len0 {l : List C3} (h : Rise none l) : l.length ≤ 3540 := by
  cases l with
  | nil => simp
  | cons x l =>
    obtain ⟨h1, _, h3⟩ := h
    have := rise_len x h1 h3
    have := key_in h1
    simp only [List.length_cons]
    omega
theorem rise_all {l : List C3} : ∀ p, Rise p l → ∀ x ∈ l, goodCon x = true := by
  induction l with
  | nil => intro p _ x hx; cases hx
  | cons y l ih =>
    intro p h x hx
    rcases List.mem_cons.1 hx with rfl | hx
    · exact h.1
    · exact ih _ h.2.2 x hx

/-- A claim that is as it should be. -/
structure ClOk (d : Bool) (f : Nat → Tg) (l : List C3) : Prop where
  dead : d = true → (∀ i, i < 42 → f i = tz) ∧ l = []
  regs : ∀ i, i < 10 → goodTag (f i) 0 = true
  slots : ∀ i, i < 32 → goodTag (f (10 + i)) 255 = true
  cons : Rise none l
theorem goodClaim_iff {d : Bool} {f : Nat → Tg} {l : List C3} : goodClaim d f l = 0 ↔ ClOk d f l := by
  constructor
  · intro h
    cases d with
    | true =>
      have hh : (eqTags f f0 0 10 && (eqTags f f0 10 32 && decide (l.length = 0))) = true := by
        by_cases hc : (eqTags f f0 0 10 && (eqTags f f0 10 32 && decide (l.length = 0))) = true
        · exact hc
        · simp only [goodClaim, if_true] at h
          rw [if_neg hc] at h
          cases h
      simp only [Bool.and_eq_true, eqTags_iff, decide_eq_true_eq] at hh
      obtain ⟨h1, h2, h3⟩ := hh
      have hl : l = [] := List.eq_nil_of_length_eq_zero h3
      subst hl
      have hz : ∀ i, i < 42 → f i = tz := fun i hi => by
        by_cases hi2 : i < 10
        · have := h1 i hi2; rw [Nat.zero_add] at this; exact this
        · have := h2 (i - 10) (by omega); rw [show 10 + (i - 10) = i by omega] at this; exact this
      exact ⟨fun _ => ⟨hz, rfl⟩, fun i hi => by rw [hz i (by omega)]; rfl, fun i hi => by rw [hz _ (by omega)]; rfl, trivial⟩
    | false =>
      simp only [goodClaim, Bool.false_eq_true, if_false] at h
      cases h1 : tagsOk f 0 0 10 with
      | false => rw [h1] at h; simp at h
      | true =>
        cases h2 : tagsOk f 255 10 32 with
        | false => rw [h1, h2] at h; simp at h
        | true =>
          rw [h1, h2] at h
          simp only [Bool.true_eq_false, if_false] at h
          rw [tagsOk_iff] at h1 h2
          exact ⟨(fun e => by cases e), (fun i hi => by have := h1 i hi; rwa [Nat.zero_add] at this), h2, (goC_rise l none).1 h⟩
  · rintro ⟨h1, h2, h3, h4⟩
    cases d with
    | true =>
      obtain ⟨hz, rfl⟩ := h1 rfl
      simp only [goodClaim, if_true]
      rw [if_pos]
      simp only [Bool.and_eq_true, eqTags_iff, decide_eq_true_eq, List.length_nil, and_true]
      exact ⟨fun i hi => by rw [hz _ (by omega)]; rfl, fun i hi => by rw [hz _ (by omega)]; rfl⟩
    | false =>
      have e1 : tagsOk f 0 0 10 = true := tagsOk_iff.2 fun i hi => by rw [Nat.zero_add]; exact h2 i hi
      have e2 : tagsOk f 255 10 32 = true := tagsOk_iff.2 h3
      simp only [goodClaim, Bool.false_eq_true, if_false, e1, e2, Bool.true_eq_false]
      exact (goC_rise l none).2 h4
theorem ClOk.tags {d : Bool} {f : Nat → Tg} {l : List C3} (h : ClOk d f l) : ∀ k, k < 42 → TgIn (f k) := fun k hk => by
  by_cases hk2 : k < 10
  · exact goodTag_in (by omega) (by omega) (h.regs k hk2)
  · have := h.slots (k - 10) (by omega)
    rw [show 10 + (k - 10) = k by omega] at this
    exact goodTag_in (by omega) (by omega) this
theorem ClOk.conIn {d : Bool} {f : Nat → Tg} {l : List C3} (h : ClOk d f l) : ∀ x ∈ l, ConIn x := fun x hx => by
  have := goodCon_iff.1 (rise_all _ h.cons x hx)
  exact ⟨this.1, this.2.1, this.2.2.2.1, this.2.2.2.2⟩
theorem ClOk.len {d : Bool} {f : Nat → Tg} {l : List C3} (h : ClOk d f l) : l.length ≤ 3540 := rise_len0 h.cons
end Go.Proofs.Ytfdjdpbiccclfaa
