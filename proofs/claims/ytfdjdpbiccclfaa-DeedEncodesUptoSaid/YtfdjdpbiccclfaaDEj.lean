/- Pieces as bytes, in plain words: those of a deed are its bytes. -/
import Derived.Test.YtfdjdpbiccclfaaDEi
namespace Go.Proofs.Ytfdjdpbiccclfaa
open Go Go.RowKit Go.Wr
set_option maxHeartbeats 1000000
set_option maxRecDepth 100000

def pcB (p : Pc) : List Nat := if p.k = 1 then [p.x.toNat] else if p.k = 2 then leb 9 p.x.toNat else leb 9 (sg p.x)
def piB (l : List Pc) : List Nat := l.flatMap pcB
theorem piB_append (l m : List Pc) : piB (l ++ m) = piB l ++ piB m := List.flatMap_append
theorem piB_nil : piB [] = [] := rfl
theorem piB_cons (x : Pc) (l : List Pc) : piB (x :: l) = pcB x ++ piB l := rfl
/-- A piece that may be written. -/
def PcIn (p : Pc) : Prop := (p.k = 1 ∧ 0 ≤ p.x ∧ p.x < 256) ∨ (p.k = 2 ∧ 0 ≤ p.x ∧ p.x ≤ 1099511627776) ∨ (p.k = 3 ∧ -1099511627776 ≤ p.x ∧ p.x ≤ 1099511627776)
def loopP (x : Lp) : List Pc := [⟨2, x.h⟩, ⟨2, x.a⟩, ⟨2, x.b⟩, ⟨3, x.k⟩, ⟨2, x.d⟩]
def loopsP (l : List Lp) : List Pc := l.flatMap loopP
def claimsP (l : List Cl) : List Pc := l.flatMap fun c => claimP c.d c.f c.l
def deedP (d : Dd) : List Pc := [⟨2, d.ls.length⟩] ++ loopsP d.ls ++ [⟨2, d.cs.length⟩] ++ claimsP d.cs

theorem tagP_B (t : Tg) (s : Bool) : piB (tagP t s) = tagB t s := by
  unfold tagP tagB
  split
  · rfl
  · split <;> rfl
theorem regsP_B (f : Nat → Tg) (k : Nat) : piB (regsP f k) = regB f k := by
  induction k with
  | zero => rfl
  | succ k ih => rw [regsP_succ, regB_succ, piB_append, ih, tagP_B]
theorem slotP_B (f : Nat → Tg) (k : Nat) : piB (slotP f k) = slotB f k := by
  unfold slotP slotB
  split
  · rfl
  · rw [piB_cons, tagP_B]
    simp [pcB]
theorem slotsP_B (f : Nat → Tg) (k : Nat) : piB (slotsP f k) = slotsB f k := by
  induction k with
  | zero => rfl
  | succ k ih => rw [slotsP_succ, slotsB_succ, piB_append, ih, slotP_B]
theorem conP_B (x : C3) : piB (conP x) = conB x := by simp [piB, conP, pcB, conB]
theorem consP_B (l : List C3) : piB (l.flatMap conP) = l.flatMap conB := by
  induction l with
  | nil => rfl
  | cons x l ih => rw [List.flatMap_cons, List.flatMap_cons, piB_append, ih, conP_B]
theorem claimP_B (d : Bool) (f : Nat → Tg) (l : List C3) : piB (claimP d f l) = claimB d f l := by
  unfold claimP claimB
  split
  · rfl
  · simp only [piB_append, regsP_B, slotsP_B, consP, consB, consP_B, List.append_assoc]
    simp [piB, pcB]
theorem loopP_B (x : Lp) : piB (loopP x) = loopB x := by simp [piB, loopP, pcB, loopB]
theorem loopsP_B (l : List Lp) : piB (loopsP l) = loopsB l := by
  induction l with
  | nil => rfl
  | cons x l ih =>
    unfold loopsP loopsB at *
    rw [List.flatMap_cons, List.flatMap_cons, piB_append, ih, loopP_B]
theorem claimsP_B (l : List Cl) : piB (claimsP l) = claimsB l := by
  induction l with
  | nil => rfl
  | cons x l ih =>
    unfold claimsP claimsB at *
    rw [List.flatMap_cons, List.flatMap_cons, piB_append, ih, claimP_B]
theorem deedP_B (d : Dd) : piB (deedP d) = bodyB d := by
  unfold deedP bodyB
  simp only [piB_append, loopsP_B, claimsP_B]
  simp [piB, pcB]

theorem tagP_in {t : Tg} (h : TgIn t) (s : Bool) : ∀ p ∈ tagP t s, PcIn p := by
  obtain ⟨h1, h2, h3⟩ := h
  intro p hp
  unfold tagP at hp
  rcases List.mem_cons.1 hp with rfl | hp
  · exact Or.inl ⟨rfl, h1.1, by simp only; omega⟩
  · split at hp
    · simp only [List.mem_cons, List.not_mem_nil, or_false] at hp
      subst hp
      exact Or.inl ⟨rfl, h2.1, by simp only; omega⟩
    · split at hp
      · simp only [List.mem_cons, List.not_mem_nil, or_false] at hp
        subst hp
        exact Or.inl ⟨rfl, h3.1, by simp only; omega⟩
      · cases hp
theorem claimP_in {d : Bool} {f : Nat → Tg} {l : List C3} (h : ClOk d f l) : ∀ p ∈ claimP d f l, PcIn p := by
  have ht := h.tags
  have hc := h.conIn
  have hl := h.len
  have htl := toldN_le f 32
  intro p hp
  unfold claimP at hp
  split at hp
  · simp only [List.mem_cons, List.not_mem_nil, or_false] at hp
    subst hp
    exact Or.inl ⟨rfl, by simp, by simp⟩
  · simp only [List.mem_append, List.mem_cons, List.not_mem_nil, or_false] at hp
    rcases hp with ((((rfl | hp) | rfl) | hp) | rfl) | hp
    · exact Or.inl ⟨rfl, by simp, by simp⟩
    · simp only [regsP, List.mem_flatMap, List.mem_range] at hp
      obtain ⟨i, hi, hp⟩ := hp
      exact tagP_in (ht i (by omega)) _ p hp
    · exact Or.inr (Or.inl ⟨rfl, by simp, by simp only; omega⟩)
    · simp only [slotsP, List.mem_flatMap, List.mem_range] at hp
      obtain ⟨i, hi, hp⟩ := hp
      unfold slotP at hp
      split at hp
      · cases hp
      · rcases List.mem_cons.1 hp with rfl | hp
        · exact Or.inl ⟨rfl, by simp, by simp only; omega⟩
        · exact tagP_in (ht (10 + i) (by omega)) _ p hp
    · exact Or.inr (Or.inl ⟨rfl, by simp, by simp only; omega⟩)
    · simp only [consP, List.mem_flatMap] at hp
      obtain ⟨x, hx, hp⟩ := hp
      have hx' := hc x (List.mem_of_mem_take hx)
      obtain ⟨h1, h2, h3⟩ := hx'
      simp only [conP, List.mem_cons, List.not_mem_nil, or_false] at hp
      rcases hp with rfl | rfl | rfl
      · exact Or.inl ⟨rfl, h1.1, by simp only; omega⟩
      · exact Or.inl ⟨rfl, h2.1, by simp only; omega⟩
      · exact Or.inr (Or.inr ⟨rfl, h3⟩)
theorem claimP_len (d : Bool) (f : Nat → Tg) (l : List C3) : (claimP d f l).length ≤ 200 + 3 * l.length := by
  unfold claimP
  split
  · simp only [List.length_cons, List.length_nil]; omega
  · have h1 := regsP_len f 10
    have h2 := slotsP_len f 32
    have h3 := consP_len l l.length
    simp only [List.length_append, List.length_cons, List.length_nil]
    omega
theorem loopsP_len (l : List Lp) : (loopsP l).length = 5 * l.length := by
  induction l with
  | nil => rfl
  | cons x l ih =>
    unfold loopsP at *
    rw [List.flatMap_cons, List.length_append, ih]
    simp only [loopP, List.length_cons, List.length_nil]
    omega
theorem claimsP_len (l : List Cl) (h : ∀ x ∈ l, x.l.length ≤ 3540) : (claimsP l).length ≤ 20000 * l.length := by
  induction l with
  | nil => simp [claimsP]
  | cons x l ih =>
    have h1 := claimP_len x.d x.f x.l
    have h2 := h x (by simp)
    have h3 := ih fun y hy => h y (by simp [hy])
    simp only [claimsP, List.flatMap_cons, List.length_append, List.length_cons] at h3 ⊢
    omega
theorem deedP_in {d : Dd} (h : plainD d = 0) : ∀ p ∈ deedP d, PcIn p := by
  obtain ⟨n8, n512, gl, gc⟩ := plainD_all h
  intro p hp
  unfold deedP at hp
  simp only [List.mem_append, List.mem_cons, List.not_mem_nil, or_false] at hp
  rcases hp with ((rfl | hp) | rfl) | hp
  · exact Or.inr (Or.inl ⟨rfl, by simp, by simp only; omega⟩)
  · simp only [loopsP, List.mem_flatMap] at hp
    obtain ⟨x, hx, hp⟩ := hp
    obtain ⟨h1, h2, h3, h4, h5⟩ := goodLoop_iff.1 (gl x hx)
    simp only [loopP, List.mem_cons, List.not_mem_nil, or_false] at hp
    rcases hp with rfl | rfl | rfl | rfl | rfl
    · exact Or.inr (Or.inl ⟨rfl, h1.1, by simp only; omega⟩)
    · exact Or.inr (Or.inl ⟨rfl, h2.1, by simp only; omega⟩)
    · exact Or.inr (Or.inl ⟨rfl, h3.1, by simp only; omega⟩)
    · exact Or.inr (Or.inr ⟨rfl, h4⟩)
    · exact Or.inr (Or.inl ⟨rfl, h5.1, by simp only; omega⟩)
  · exact Or.inr (Or.inl ⟨rfl, by simp, by simp only; omega⟩)
  · simp only [claimsP, List.mem_flatMap] at hp
    obtain ⟨x, hx, hp⟩ := hp
    exact claimP_in (goodClaim_iff.1 (gc x hx)) p hp
theorem deedP_len {d : Dd} (h : plainD d = 0) : (deedP d).length ≤ 20000000 := by
  obtain ⟨n8, n512, gl, gc⟩ := plainD_all h
  have h1 := loopsP_len d.ls
  have h2 := claimsP_len d.cs fun x hx => (goodClaim_iff.1 (gc x hx)).len
  unfold deedP
  simp only [List.length_append, List.length_cons, List.length_nil]
  omega
theorem pcB_len (p : Pc) : (pcB p).length ≤ 10 := by
  unfold pcB
  split
  · simp
  · split
    · exact leb_len 9 _
    · exact leb_len 9 _
theorem piB_len (l : List Pc) : (piB l).length ≤ 10 * l.length := by
  induction l with
  | nil => simp [piB]
  | cons x l ih =>
    rw [piB_cons, List.length_append, List.length_cons]
    have := pcB_len x
    omega
theorem loopsP_succ {l : List Lp} {k : Nat} {x : Lp} (h : l[k]? = some x) : loopsP (l.take (k + 1)) = loopsP (l.take k) ++ loopP x := by
  rw [List.take_add_one, h]
  simp [loopsP]
theorem claimsP_succ {l : List Cl} {k : Nat} {x : Cl} (h : l[k]? = some x) : claimsP (l.take (k + 1)) = claimsP (l.take k) ++ claimP x.d x.f x.l := by
  rw [List.take_add_one, h]
  simp [claimsP]
theorem piB_succ {l : List Pc} {k : Nat} {x : Pc} (h : l[k]? = some x) : piB (l.take (k + 1)) = piB (l.take k) ++ pcB x := by
  rw [List.take_add_one, h]
  simp [piB]
theorem pcC_get {l : List Pc} {k : Nat} {x : Pc} (h : l[k]? = some x) : (pcC l)[k * 2]? = some (.int .i64 x.k) ∧ (pcC l)[k * 2 + 1]? = some (.int .i64 x.x) := by
  induction l generalizing k with
  | nil => simp at h
  | cons y l ih =>
    have e : pcC (y :: l) = .int .i64 y.k :: .int .i64 y.x :: pcC l := rfl
    rw [e]
    cases k with
    | zero =>
      simp only [List.getElem?_cons_zero, Option.some.injEq] at h
      subst h
      exact ⟨rfl, rfl⟩
    | succ k =>
      rw [List.getElem?_cons_succ] at h
      have := ih h
      rw [show (k + 1) * 2 = k * 2 + 1 + 1 by omega]
      simpa using this
/-- A piece of a row, read in memory. -/
theorem OwP.get {B : Nat} {w : World} {v : Value} {l : List Pc} (h : OwP B w v l) {k : Nat} {x : Pc} (hx : l[k]? = some x) :
    ∃ g cap, v = .slice (some ⟨g, 0, none⟩) l.length cap ∧ B ≤ g ∧ g < w.heap.size ∧ w.cell? ⟨g, k * 2, none⟩ = some (.int .i64 x.k) ∧ w.cell? ⟨g, k * 2 + 1, none⟩ = some (.int .i64 x.x) := by
  rcases ownp_form h with ⟨rfl, rfl⟩ | ⟨g, cap, cur, rfl, hg, hb, htk⟩
  · simp at hx
  · obtain ⟨h1, h2⟩ := pcC_get hx
    have hk : k < l.length := (List.getElem?_eq_some_iff.1 hx).1
    rw [← htk, List.getElem?_take, if_pos (by omega), Array.getElem?_toList] at h1 h2
    exact ⟨g, cap, rfl, hg, lt_of_heap hb, (hb.cell _).trans h1, (hb.cell _).trans h2⟩
end Go.Proofs.Ytfdjdpbiccclfaa
