/- What an operation of the laws of layer 5 holds, read out of the form's own reading: six numbers, four lists. -/
import Derived.Test.YtfpbjjdlchplnaaRArgs
namespace Go.Proofs.YtfpbjjdlchplnaaR
open Go Go.RowKit Go.Wr
open Go.ChangeShapes Go.WideShapes Go.ChangeAt Go.Deep
set_option maxHeartbeats 1000000

/-- A slice without an address has no room. -/
def NilZ (v : Value) : Prop := ∀ n c, v = .slice none n c → c = 0

structure OpA where
  kind : Int
  z : Int
  o : Int
  x : Int
  y : Int
  c : Int
  sv : Value
  sc : Value
  su : Value
  sd : Value
  vs : List Int
  cs : List Cn
  up : List (Bool × Int)
  dn : List (Bool × Int)

/-- The value v is the operation o. -/
def ArgO (w : World) (v : Value) (o : OpA) : Prop :=
  v = .agg #[.int .i64 o.kind, .int .i64 o.z, .int .i64 o.o, .int .i64 o.x, .int .i64 o.y, .int .i64 o.c, o.sv, o.sc, o.su, o.sd] ∧
  (I64 o.kind ∧ I64 o.z ∧ I64 o.o ∧ I64 o.x ∧ I64 o.y ∧ I64 o.c) ∧ ArgI w o.sv o.vs ∧ NilZ o.sv ∧ ArgC w o.sc o.cs ∧ ArgB w o.su o.up ∧ ArgB w o.sd o.dn

section
variable {H : Type} {enc : TypeId × Value → H} {w : World} {base : Nat} {held : Bool} {spare : Nat → Bool}

theorem slice_of_trod {t e : TypeId} {fuel : Nat} {c : Value} {x : DataW H × List MemPlace} (ht : Try.prog.underlying t = some (.slice e)) (h : DataW.trod enc Try.prog w base spare held fuel t [c] = some x) : (∃ a n cp, c = .slice a n cp) ∧ NilZ c := by
  rcases open_slice ht h with ⟨hcs, _⟩ | ⟨a, len', cap', m, n, D, Pl, hcs, _⟩
  · simp only [List.cons.injEq, and_true] at hcs
    subst hcs
    exact ⟨⟨_, _, _, rfl⟩, fun n c e => by injection e with _ _ e; exact e.symm⟩
  · simp only [List.cons.injEq, and_true] at hcs
    subst hcs
    exact ⟨⟨_, _, _, rfl⟩, fun n c e => by injection e with e; cases e⟩

theorem trod_rb {fuel : Nat} {cs : List Value} {x : DataW H × List MemPlace} (h : DataW.trod enc Try.prog w base spare held fuel 94 cs = some x) :
    ∃ (a : Bool) (b : Int), cs = [.bool a, .int .i64 b] ∧ I64 b := by
  obtain ⟨y0, y1, n, _, hl, h0, h1⟩ := trod_struct2 Try.underlying94 h
  have hc : Try.prog.cellsOf 94 = 2 := by kernel_rfl
  have hc1 : Try.prog.cellsOf 3 = 1 := by kernel_rfl
  have hc2 : Try.prog.cellsOf 4 = 1 := by kernel_rfl
  rw [hc] at hl
  match cs, hl with
  | [c0, c1], _ =>
    simp only [hc1, hc2] at h0 h1
    obtain ⟨a, e0, _⟩ := DataW.trod_bool Try.underlying4 h0
    obtain ⟨b, e1, _, w1⟩ := DataW.trod_int Try.underlying3 h1
    simp at e0 e1
    subst e0 e1
    exact ⟨a, b, rfl, i64_of_wf w1⟩

theorem cells2 {a : Addr} {c0 c1 : Value} (h : w.cells? base a 2 = some [c0, c1]) : w.cell? a = some c0 ∧ w.cell? (a.add 1) = some c1 := by
  obtain ⟨_, _, hh⟩ := World.cells?_some h
  have h0 := hh 0 (by omega)
  have h1 := hh 1 (by omega)
  simp at h0 h1
  exact ⟨by simpa [Addr.add] using h0, h1⟩

theorem open_bnds {a0 : Option Addr} {len cap : Nat} {fuel : Nat} {x : DataW H × List MemPlace} (h : DataW.trod enc Try.prog w base (fun _ => true) held fuel 54 [.slice a0 len cap] = some x) (hz : ∀ (e s : List (DataW H)), x.1 = .slice e s → (e.length + s.length) * 16 ≤ 140737488351232) :
    ∃ l, ArgB w (.slice a0 len cap) l := by
  rcases open_slice Try.underlying54 h with ⟨hcs, _⟩ | ⟨a, len', cap', m, n, D, Pl, hcs, _, hl, hm, hmm, hx, hel⟩
  · simp only [List.cons.injEq, Value.slice.injEq, and_true] at hcs
    obtain ⟨rfl, rfl, rfl⟩ := hcs
    exact ⟨[], ⟨none, 0, rfl, by simp, fun k x hx => by simp at hx⟩, by simp, fun x hx => by cases hx⟩
  · simp only [List.cons.injEq, Value.slice.injEq, and_true] at hcs
    obtain ⟨rfl, rfl, rfl⟩ := hcs
    have hmc : m = cap := by simpa using hmm
    have hc3 : Try.prog.cellsOf 94 = 2 := by kernel_rfl
    have hsz := hz _ _ (by rw [hx])
    simp only [List.length_map, List.length_range] at hsz
    have hex : ∀ i, i < len → ∃ y : Bool × Int, (w.cell? (a.add (i * 2)) = some (.bool y.1) ∧ w.cell? ((a.add (i * 2)).add 1) = some (.int .i64 y.2)) ∧ I64 y.2 := fun i hi => by
      obtain ⟨cs', h1, h2⟩ := hel i (by omega)
      obtain ⟨p, q, rfl, w0⟩ := trod_rb h2
      rw [hc3] at h1
      exact ⟨⟨p, q⟩, cells2 h1, w0⟩
    haveI : Inhabited (Bool × Int) := ⟨(false, 0)⟩
    obtain ⟨f, hf⟩ := choose_lt hex
    refine ⟨(List.range len).map f, ⟨some a, cap, by simp, by unfold maxLen at hm; simp; omega, fun k y hy => ?_⟩, by simp; omega, fun y hy => ?_⟩
    · obtain ⟨hk, rfl⟩ := List.getElem?_eq_some_iff.1 hy
      simp only [List.length_map, List.length_range] at hk
      simp only [List.getElem_map, List.getElem_range]
      have hsp : a.spot = none := by have := World.cell?_spot (hf 0 (by omega)).1.1; simpa [Addr.add] using this
      obtain ⟨⟨h0, h1⟩, _⟩ := hf k hk
      rw [addr_lit hsp] at h0 h1 ⊢
      simp only [Addr.add_lit] at h0 h1
      exact ⟨a.block, a.off, rfl, h0, h1⟩
    · obtain ⟨i, hi, rfl⟩ := List.mem_map.1 hy
      exact (hf i (List.mem_range.1 hi)).2

theorem open_op {v : Value} {d : DataW H} {p : List MemPlace} {W : World} {base : Nat} (hval : Value.okWide Try.prog W .any base 56 v) (h : ∃ fuel, DataW.trod enc Try.prog W 0 (fun _ => true) true fuel 56 v.cells.toList = some (d, p))
    (hw : ∀ n ∈ d.weights Try.prog 56, n ≤ 140737488351232) : ∃ o, ArgO W v o := by
  obtain ⟨cs, rfl, hsz⟩ := okWide_struct Try.underlying56 hval
  obtain ⟨fuel, hf⟩ := h
  obtain ⟨xs, n, _, hd, hl, hxl, hx⟩ := DataW.trod_struct Try.underlying56 hf
  have hc : Try.prog.cellsOf 56 = 10 := by kernel_rfl
  have hc1 : Try.prog.cellsOf 3 = 1 := by kernel_rfl
  have hc2 : Try.prog.cellsOf 36 = 1 := by kernel_rfl
  have hc3 : Try.prog.cellsOf 35 = 1 := by kernel_rfl
  have hc4 : Try.prog.cellsOf 54 = 1 := by kernel_rfl
  simp only [Prod.mk.injEq] at hd
  obtain ⟨rfl, _⟩ := hd
  rw [hc] at hl
  simp only [Value.cells] at hl hx
  have hwt : ∀ (j : Nat) t, [3, 3, 3, 3, 3, 3, 36, 35, 54, 54][j]? = some t → ∀ (y : DataW H × List MemPlace), xs[j]? = some y → ∀ n ∈ y.1.weights Try.prog t, n ≤ 140737488351232 := fun j t ht y hy n hn => by
    apply hw
    simp only [DataW.weights, Try.underlying56]
    exact DataW.weights_mem_each (j := j) (t := t) (d := y.1) ht (by rw [List.getElem?_map, hy]; rfl) n hn
  have gx : ∀ j : Nat, j < 10 → ∃ y, xs[j]? = some y := fun j hj => ⟨_, List.getElem?_eq_getElem (by rw [hxl]; exact hj)⟩
  obtain ⟨l⟩ := cs
  simp only at hl hx
  match l, hl with
  | [c0, c1, c2, c3, c4, c5, c6, c7, c8, c9], _ =>
    obtain ⟨y0, g0⟩ := gx 0 (by omega)
    obtain ⟨y1, g1⟩ := gx 1 (by omega)
    obtain ⟨y2, g2⟩ := gx 2 (by omega)
    obtain ⟨y3, g3⟩ := gx 3 (by omega)
    obtain ⟨y4, g4⟩ := gx 4 (by omega)
    obtain ⟨y5, g5⟩ := gx 5 (by omega)
    obtain ⟨y6, g6⟩ := gx 6 (by omega)
    obtain ⟨y7, g7⟩ := gx 7 (by omega)
    obtain ⟨y8, g8⟩ := gx 8 (by omega)
    obtain ⟨y9, g9⟩ := gx 9 (by omega)
    have x0 : DataW.trod enc Try.prog W 0 (fun _ => true) true n 3 [c0] = some y0 := by have := hx 0 _ rfl; rw [g0] at this; simpa [hc1] using this
    have x1 : DataW.trod enc Try.prog W 0 (fun _ => true) true n 3 [c1] = some y1 := by have := hx 1 _ rfl; rw [g1] at this; simpa [hc1] using this
    have x2 : DataW.trod enc Try.prog W 0 (fun _ => true) true n 3 [c2] = some y2 := by have := hx 2 _ rfl; rw [g2] at this; simpa [hc1] using this
    have x3 : DataW.trod enc Try.prog W 0 (fun _ => true) true n 3 [c3] = some y3 := by have := hx 3 _ rfl; rw [g3] at this; simpa [hc1] using this
    have x4 : DataW.trod enc Try.prog W 0 (fun _ => true) true n 3 [c4] = some y4 := by have := hx 4 _ rfl; rw [g4] at this; simpa [hc1] using this
    have x5 : DataW.trod enc Try.prog W 0 (fun _ => true) true n 3 [c5] = some y5 := by have := hx 5 _ rfl; rw [g5] at this; simpa [hc1] using this
    have x6 : DataW.trod enc Try.prog W 0 (fun _ => true) true n 36 [c6] = some y6 := by have := hx 6 _ rfl; rw [g6] at this; simpa [hc2] using this
    have x7 : DataW.trod enc Try.prog W 0 (fun _ => true) true n 35 [c7] = some y7 := by have := hx 7 _ rfl; rw [g7] at this; simpa [hc3] using this
    have x8 : DataW.trod enc Try.prog W 0 (fun _ => true) true n 54 [c8] = some y8 := by have := hx 8 _ rfl; rw [g8] at this; simpa [hc4] using this
    have x9 : DataW.trod enc Try.prog W 0 (fun _ => true) true n 54 [c9] = some y9 := by have := hx 9 _ rfl; rw [g9] at this; simpa [hc4] using this
    obtain ⟨n0, e0, _, w0⟩ := DataW.trod_int Try.underlying3 x0
    obtain ⟨n1, e1, _, w1⟩ := DataW.trod_int Try.underlying3 x1
    obtain ⟨n2, e2, _, w2⟩ := DataW.trod_int Try.underlying3 x2
    obtain ⟨n3, e3, _, w3⟩ := DataW.trod_int Try.underlying3 x3
    obtain ⟨n4, e4, _, w4⟩ := DataW.trod_int Try.underlying3 x4
    obtain ⟨n5, e5, _, w5⟩ := DataW.trod_int Try.underlying3 x5
    simp only [List.cons.injEq, and_true] at e0 e1 e2 e3 e4 e5
    subst e0 e1 e2 e3 e4 e5
    obtain ⟨⟨a6, l6, p6, rfl⟩, z6⟩ := slice_of_trod Try.underlying36 x6
    obtain ⟨⟨a7, l7, p7, rfl⟩, _⟩ := slice_of_trod Try.underlying35 x7
    obtain ⟨⟨a8, l8, p8, rfl⟩, _⟩ := slice_of_trod Try.underlying54 x8
    obtain ⟨⟨a9, l9, p9, rfl⟩, _⟩ := slice_of_trod Try.underlying54 x9
    have hwt6 := hwt 6 _ rfl y6 g6
    have hwt7 := hwt 7 _ rfl y7 g7
    have hwt8 := hwt 8 _ rfl y8 g8
    have hwt9 := hwt 9 _ rfl y9 g9
    obtain ⟨vs, hvs⟩ := open_ints x6 (fun e s hd => by
      have := hwt6 ((e.length + s.length) * Try.prog.bytesOf 3) (by rw [hd]; simp [DataW.weights, Try.underlying36])
      rwa [show Try.prog.bytesOf 3 = 8 by kernel_rfl] at this)
    obtain ⟨cl, hcl⟩ := open_rcons x7 (fun e s hd => by
      have := hwt7 ((e.length + s.length) * Try.prog.bytesOf 72) (by rw [hd]; simp [DataW.weights, Try.underlying35])
      rwa [show Try.prog.bytesOf 72 = 24 by kernel_rfl] at this)
    obtain ⟨up, hup⟩ := open_bnds x8 (fun e s hd => by
      have := hwt8 ((e.length + s.length) * Try.prog.bytesOf 94) (by rw [hd]; simp [DataW.weights, Try.underlying54])
      rwa [show Try.prog.bytesOf 94 = 16 by kernel_rfl] at this)
    obtain ⟨dn, hdn⟩ := open_bnds x9 (fun e s hd => by
      have := hwt9 ((e.length + s.length) * Try.prog.bytesOf 94) (by rw [hd]; simp [DataW.weights, Try.underlying54])
      rwa [show Try.prog.bytesOf 94 = 16 by kernel_rfl] at this)
    exact ⟨⟨n0, n1, n2, n3, n4, n5, _, _, _, _, vs, cl, up, dn⟩, rfl, ⟨i64_of_wf w0, i64_of_wf w1, i64_of_wf w2, i64_of_wf w3, i64_of_wf w4, i64_of_wf w5⟩, hvs, z6, hcl, hup, hdn⟩
end

end Go.Proofs.YtfpbjjdlchplnaaR
