/- What the arguments of the laws of layer 5 hold: lists of bounds, of numbers, of bounds that may be missing, an operation; read out of the form's own reading. -/
import Derived.Test.YtfpbjjdlchplnaaRAwake
import Derived.ProofKit
import Derived.OpenShut
import Derived.ChangeOld
import Derived.Deep.Slices
import Derived.SizedLaws
namespace Go.Proofs.YtfpbjjdlchplnaaR
open Go Go.RowKit Go.Wr
open Go.ChangeShapes Go.WideShapes Go.ChangeAt Go.Deep
set_option maxHeartbeats 1000000

def I64 (n : Int) : Prop := -9223372036854775808 ≤ n ∧ n ≤ 9223372036854775807

theorem i64_of_wf {n : Int} (h : (Lit.int .i64 n).wf = true) : I64 n := by
  simp [Lit.wf, IntKind.min, IntKind.max, IntKind.signed, IntKind.bits] at h
  exact h

section
variable {H : Type} {enc : TypeId × Value → H} {w : World} {base : Nat} {spare : Nat → Bool} {held : Bool}

theorem trod_con {fuel : Nat} {cs : List Value} {x : DataW H × List MemPlace} (h : DataW.trod enc Try.prog w base spare held fuel 72 cs = some x) :
    ∃ a b c : Int, cs = [.int .i64 a, .int .i64 b, .int .i64 c] ∧ I64 a ∧ I64 b ∧ I64 c := by
  obtain ⟨xs, n, _, _, hl, hxl, hx⟩ := DataW.trod_struct Try.underlying72 h
  have hc : Try.prog.cellsOf 72 = 3 := by kernel_rfl
  have hc1 : Try.prog.cellsOf 3 = 1 := by kernel_rfl
  rw [hc] at hl
  match cs, hl with
  | [c0, c1, c2], _ =>
    have hx0 : DataW.trod enc Try.prog w base spare held n 3 (([c0, c1, c2].drop 0).take (Try.prog.cellsOf 3)) = xs[0]? := hx 0 _ rfl
    have hx1 : DataW.trod enc Try.prog w base spare held n 3 (([c0, c1, c2].drop 1).take (Try.prog.cellsOf 3)) = xs[1]? := hx 1 _ rfl
    have hx2 : DataW.trod enc Try.prog w base spare held n 3 (([c0, c1, c2].drop 2).take (Try.prog.cellsOf 3)) = xs[2]? := hx 2 _ rfl
    rw [hc1] at hx0 hx1 hx2
    have g0 : ∃ y, xs[0]? = some y := ⟨_, List.getElem?_eq_getElem (by rw [hxl]; decide)⟩
    have g1 : ∃ y, xs[1]? = some y := ⟨_, List.getElem?_eq_getElem (by rw [hxl]; decide)⟩
    have g2 : ∃ y, xs[2]? = some y := ⟨_, List.getElem?_eq_getElem (by rw [hxl]; decide)⟩
    obtain ⟨y0, g0⟩ := g0
    obtain ⟨y1, g1⟩ := g1
    obtain ⟨y2, g2⟩ := g2
    rw [g0] at hx0
    rw [g1] at hx1
    rw [g2] at hx2
    obtain ⟨a, e0, _, w0⟩ := DataW.trod_int Try.underlying3 hx0
    obtain ⟨b, e1, _, w1⟩ := DataW.trod_int Try.underlying3 hx1
    obtain ⟨c, e2, _, w2⟩ := DataW.trod_int Try.underlying3 hx2
    simp at e0 e1 e2
    subst e0 e1 e2
    exact ⟨a, b, c, rfl, i64_of_wf w0, i64_of_wf w1, i64_of_wf w2⟩

theorem cells3 {a : Addr} {c0 c1 c2 : Value} (h : w.cells? base a 3 = some [c0, c1, c2]) : w.cell? a = some c0 ∧ w.cell? (a.add 1) = some c1 ∧ w.cell? (a.add 2) = some c2 := by
  obtain ⟨_, _, hh⟩ := World.cells?_some h
  have h0 := hh 0 (by omega)
  have h1 := hh 1 (by omega)
  have h2 := hh 2 (by omega)
  simp at h0 h1 h2
  exact ⟨by simpa [Addr.add] using h0, h1, h2⟩
end


/-- The slice v has n elements, and room for them. -/
def Cap (v : Value) (n : Nat) : Prop := ∃ a c, v = .slice a n c ∧ n ≤ c ∧ c ≤ 9223372036854775807

theorem Cap.own {w : World} {B : Nat} {T : TypeId} {s : Nat} {v : Value} {n : Nat} {xs : List Value} (h : w.ownsRow B T s v n xs) : Cap v n := by
  rcases h.2 with ⟨rfl, rfl⟩ | ⟨g, cap, cur, rfl, _, _, hle, hcap, _⟩
  · exact ⟨none, 0, rfl, by omega, by omega⟩
  · exact ⟨_, cap, rfl, hle, by unfold maxLen at hcap; omega⟩

/-- A list of bounds that came in: readable, no longer than memory, its numbers within 64 bits. -/
def ArgC (w : World) (v : Value) (l : List Cn) : Prop := Sl3 w v l ∧ l.length * 24 ≤ 140737488351232 ∧ (∀ x ∈ l, I64 x.i ∧ I64 x.j ∧ I64 x.c) ∧ Cap v l.length

/-- The value v is a slice whose elements are the numbers l. -/
def SlI (w : World) (v : Value) (l : List Int) : Prop :=
  ∃ a0 cap, v = .slice a0 l.length cap ∧ l.length ≤ 9223372036854775807 ∧ ∀ k n, l[k]? = some n → ∃ b off, a0 = some ⟨b, off, none⟩ ∧ w.cell? ⟨b, off + k, none⟩ = some (.int .i64 n)
def ArgI (w : World) (v : Value) (l : List Int) : Prop := SlI w v l ∧ l.length * 8 ≤ 140737488351232 ∧ ∀ n ∈ l, I64 n

theorem SlI.below {w w' : World} {v : Value} {l : List Int} (h : SlI w v l) (hb : Below w.heap.size w w') : SlI w' v l := by
  obtain ⟨a0, cap, hv, hl, hc⟩ := h
  refine ⟨a0, cap, hv, hl, fun k n hn => ?_⟩
  obtain ⟨b, off, ha, h0⟩ := hc k n hn
  exact ⟨b, off, ha, (hb.cell (World.block_lt_of_cell? w _ h0)).trans h0⟩

/-- The value v is a slice whose elements are the bounds l, each there or not. -/
def SlB (w : World) (v : Value) (l : List (Bool × Int)) : Prop :=
  ∃ a0 cap, v = .slice a0 l.length cap ∧ l.length ≤ 9223372036854775807 ∧ ∀ k x, l[k]? = some x → ∃ b off, a0 = some ⟨b, off, none⟩ ∧ w.cell? ⟨b, off + k * 2, none⟩ = some (.bool x.1) ∧ w.cell? ⟨b, off + k * 2 + 1, none⟩ = some (.int .i64 x.2)
def ArgB (w : World) (v : Value) (l : List (Bool × Int)) : Prop := SlB w v l ∧ l.length * 16 ≤ 140737488351232 ∧ ∀ x ∈ l, I64 x.2

section
variable {H : Type} {enc : TypeId × Value → H} {w : World} {base : Nat} {held : Bool}

theorem addr_lit {a : Addr} (h : a.spot = none) : a = ⟨a.block, a.off, none⟩ := by cases a; simp_all

theorem open_rcons {a0 : Option Addr} {len cap : Nat} {fuel : Nat} {x : DataW H × List MemPlace} (h : DataW.trod enc Try.prog w base (fun _ => true) held fuel 35 [.slice a0 len cap] = some x) (hz : ∀ (e s : List (DataW H)), x.1 = .slice e s → (e.length + s.length) * 24 ≤ 140737488351232) :
    ∃ l, ArgC w (.slice a0 len cap) l := by
  rcases open_slice Try.underlying35 h with ⟨hcs, _⟩ | ⟨a, len', cap', m, n, D, Pl, hcs, _, hl, hm, hmm, hx, hel⟩
  · simp only [List.cons.injEq, Value.slice.injEq, and_true] at hcs
    obtain ⟨rfl, rfl, rfl⟩ := hcs
    exact ⟨[], ⟨none, 0, rfl, by simp, fun k x hx => by simp at hx⟩, by simp, (fun x hx => by cases hx), none, 0, rfl, by simp, by omega⟩
  · simp only [List.cons.injEq, Value.slice.injEq, and_true] at hcs
    obtain ⟨rfl, rfl, rfl⟩ := hcs
    have hmc : m = cap := by simpa using hmm
    have hc3 : Try.prog.cellsOf 72 = 3 := by kernel_rfl
    have hsz := hz _ _ (by rw [hx])
    simp only [List.length_map, List.length_range] at hsz
    have hex : ∀ i, i < len → ∃ y : Cn, (w.cell? (a.add (i * 3)) = some (.int .i64 y.i) ∧ w.cell? ((a.add (i * 3)).add 1) = some (.int .i64 y.j) ∧ w.cell? ((a.add (i * 3)).add 2) = some (.int .i64 y.c)) ∧ I64 y.i ∧ I64 y.j ∧ I64 y.c := fun i hi => by
      obtain ⟨cs', h1, h2⟩ := hel i (by omega)
      obtain ⟨p, q, r, rfl, w0, w1, w2⟩ := trod_con h2
      rw [hc3] at h1
      exact ⟨⟨p, q, r⟩, cells3 h1, w0, w1, w2⟩
    haveI : Inhabited Cn := ⟨⟨0, 0, 0⟩⟩
    obtain ⟨f, hf⟩ := choose_lt hex
    refine ⟨(List.range len).map f, ⟨some a, cap, by simp, by unfold maxLen at hm; simp; omega, fun k y hy => ?_⟩, by simp; omega, (fun y hy => ?_), some a, cap, by simp, by simpa using hl, by unfold maxLen at hm; omega⟩
    · obtain ⟨hk, rfl⟩ := List.getElem?_eq_some_iff.1 hy
      simp only [List.length_map, List.length_range] at hk
      simp only [List.getElem_map, List.getElem_range]
      have hsp : a.spot = none := by have := World.cell?_spot (hf 0 (by omega)).1.1; simpa [Addr.add] using this
      obtain ⟨⟨h0, h1, h2⟩, _⟩ := hf k hk
      rw [addr_lit hsp] at h0 h1 h2 ⊢
      simp only [Addr.add_lit] at h0 h1 h2
      exact ⟨a.block, a.off, rfl, h0, h1, h2⟩
    · obtain ⟨i, hi, rfl⟩ := List.mem_map.1 hy
      exact (hf i (List.mem_range.1 hi)).2

theorem open_ints {a0 : Option Addr} {len cap : Nat} {fuel : Nat} {x : DataW H × List MemPlace} (h : DataW.trod enc Try.prog w base (fun _ => true) held fuel 36 [.slice a0 len cap] = some x) (hz : ∀ (e s : List (DataW H)), x.1 = .slice e s → (e.length + s.length) * 8 ≤ 140737488351232) :
    ∃ l, ArgI w (.slice a0 len cap) l := by
  rcases open_slice Try.underlying36 h with ⟨hcs, _⟩ | ⟨a, len', cap', m, n, D, Pl, hcs, _, hl, hm, hmm, hx, hel⟩
  · simp only [List.cons.injEq, Value.slice.injEq, and_true] at hcs
    obtain ⟨rfl, rfl, rfl⟩ := hcs
    exact ⟨[], ⟨none, 0, rfl, by simp, fun k x hx => by simp at hx⟩, by simp, fun x hx => by cases hx⟩
  · simp only [List.cons.injEq, Value.slice.injEq, and_true] at hcs
    obtain ⟨rfl, rfl, rfl⟩ := hcs
    have hmc : m = cap := by simpa using hmm
    have hc1 : Try.prog.cellsOf 3 = 1 := by kernel_rfl
    have hsz := hz _ _ (by rw [hx])
    simp only [List.length_map, List.length_range] at hsz
    have hex : ∀ i, i < len → ∃ y : Int, w.cell? (a.add i) = some (.int .i64 y) ∧ I64 y := fun i hi => by
      obtain ⟨cs', h1, h2⟩ := hel i (by omega)
      obtain ⟨p, rfl, _, w0⟩ := DataW.trod_int Try.underlying3 h2
      rw [hc1, Nat.mul_one] at h1
      obtain ⟨_, _, hh⟩ := World.cells?_some h1
      exact ⟨p, by simpa [Addr.add] using hh 0 (by omega), i64_of_wf w0⟩
    obtain ⟨f, hf⟩ := choose_lt hex
    refine ⟨(List.range len).map f, ⟨some a, cap, by simp, by unfold maxLen at hm; simp; omega, fun k y hy => ?_⟩, by simp; omega, fun y hy => ?_⟩
    · obtain ⟨hk, rfl⟩ := List.getElem?_eq_some_iff.1 hy
      simp only [List.length_map, List.length_range] at hk
      simp only [List.getElem_map, List.getElem_range]
      have hsp : a.spot = none := by have := World.cell?_spot (hf 0 (by omega)).1; simpa [Addr.add] using this
      obtain ⟨h0, _⟩ := hf k hk
      rw [addr_lit hsp] at h0 ⊢
      simp only [Addr.add_lit] at h0
      exact ⟨a.block, a.off, rfl, h0⟩
    · obtain ⟨i, hi, rfl⟩ := List.mem_map.1 hy
      exact (hf i (List.mem_range.1 hi)).2
end

theorem reach_eq : reachBytes = 140737488351232 - 0 ∨ reachBytes ≤ 140737488351232 := by
  right; decide

end Go.Proofs.YtfpbjjdlchplnaaR
