
/- What the outright laws ask of taken, of a flow, and a list of instructions that came in. -/
import Derived.Test.YtpiiefdaaijgbaaProg
import Derived.Test.YtpiiefdaaijgbaaRows
import Derived.ProofKit
import Derived.OpenShut
import Derived.ChangeOld
import Derived.Test.YtpiiefdaaijgbaaLaws
import Derived.Deep.Slices
import Derived.SizedLaws
import Derived.Test.YtpiiefdaaijgbaaFTy
import Derived.Test.YtpiiefdaaijgbaaHAll
import Derived.Test.YtpiiefdaaijgbaaGMake
/- Closed facts of the rows' step. -/
namespace Go.Proofs.Ytpiiefdaaijgbaa
open Go Go.RowKit
theorem own : ownKnob Try.prog.godebug = none := by kernel_rfl
theorem laidOut : laidOutB Try.prog = true := by kernel_rfl
end Go.Proofs.Ytpiiefdaaijgbaa

/- What a list of numbers and a list of bytes that came in hold, read out of the form's own reading. -/
namespace Go.Proofs.Ytpiiefdaaijgbaa
open Go Go.RowKit Go.Wr
open Go.ChangeShapes Go.WideShapes Go.ChangeAt Go.Deep
set_option maxHeartbeats 1000000
set_option maxRecDepth 100000

def I64 (n : Int) : Prop := -9223372036854775808 ≤ n ∧ n ≤ 9223372036854775807

theorem i64_of_wf {n : Int} (h : (Lit.int .i64 n).wf = true) : I64 n := by
  simp [Lit.wf, IntKind.min, IntKind.max, IntKind.signed, IntKind.bits] at h
  exact h
theorem addr_lit {a : Addr} (h : a.spot = none) : a = ⟨a.block, a.off, none⟩ := by cases a; simp_all

/-- The value v is a slice whose elements are the numbers l of kind kd; one without an address has no room. -/
def ArgN (kd : IntKind) (w : World) (v : Value) (l : List Int) : Prop :=
  (∃ a0 cap, v = .slice a0 l.length cap ∧ (a0 = none → l = [] ∧ cap = 0) ∧ ∀ a, a0 = some a → ∀ (j : Nat) (u : Value), (l.map (Value.int kd))[j]? = some u → w.cell? (a.add j) = some u) ∧ l.length ≤ 140737488351232

theorem ArgN.below {kd : IntKind} {w w' : World} {v : Value} {l : List Int} (h : ArgN kd w v l) (hb : Below w.heap.size w w') : ArgN kd w' v l := by
  obtain ⟨⟨a0, cap, hv, hn, hc⟩, hl⟩ := h
  refine ⟨⟨a0, cap, hv, hn, fun a ha j u hu => ?_⟩, hl⟩
  have h0 := hc a ha j u hu
  exact (hb.cell (World.block_lt_of_cell? w _ h0)).trans h0

section
variable {H : Type} {enc : TypeId × Value → H} {w : World} {base : Nat} {held : Bool}
theorem open_nums {T E : TypeId} {kd : IntKind} (hT : Try.prog.underlying T = some (.slice E)) (hE : Try.prog.underlying E = some (.int kd)) (hc1 : Try.prog.cellsOf E = 1) {a0 : Option Addr} {len cap : Nat} {fuel : Nat} {x : DataW H × List MemPlace}
    (h : DataW.trod enc Try.prog w base (fun _ => true) held fuel T [.slice a0 len cap] = some x) (hz : ∀ (e s : List (DataW H)), x.1 = .slice e s → e.length + s.length ≤ 140737488351232) :
    ∃ l, ArgN kd w (.slice a0 len cap) l := by
  rcases open_slice hT h with ⟨hcs, _⟩ | ⟨a, len', cap', m, n, D, Pl, hcs, _, hl, hm, hmm, hx, hel⟩
  · simp only [List.cons.injEq, Value.slice.injEq, and_true] at hcs
    obtain ⟨rfl, rfl, rfl⟩ := hcs
    exact ⟨[], ⟨none, 0, rfl, (fun _ => ⟨rfl, rfl⟩), fun a ha => by cases ha⟩, by simp⟩
  · simp only [List.cons.injEq, Value.slice.injEq, and_true] at hcs
    obtain ⟨rfl, rfl, rfl⟩ := hcs
    have hmc : m = cap := by simpa using hmm
    have hsz := hz _ _ (by rw [hx])
    simp only [List.length_map, List.length_range] at hsz
    have hex : ∀ i, i < len → ∃ y : Int, w.cell? (a.add i) = some (.int kd y) := fun i hi => by
      obtain ⟨cs', h1, h2⟩ := hel i (by omega)
      obtain ⟨p, rfl, _, w0⟩ := DataW.trod_int hE h2
      rw [hc1, Nat.mul_one] at h1
      obtain ⟨_, _, hh⟩ := World.cells?_some h1
      exact ⟨p, by simpa [Addr.add] using hh 0 (by omega)⟩
    obtain ⟨f, hf⟩ := choose_lt hex
    refine ⟨(List.range len).map f, ⟨some a, cap, by simp, (fun h => by cases h), fun a' ha j u hu => ?_⟩, by simp; omega⟩
    injection ha with ha
    subst ha
    rw [List.getElem?_map, List.getElem?_map] at hu
    by_cases hj : j < len
    · rw [List.getElem?_range hj] at hu
      simp only [Option.map_some, Option.some.injEq] at hu
      subst hu
      exact hf j hj
    · rw [List.getElem?_eq_none (by simp; omega)] at hu
      cases hu
end
end Go.Proofs.Ytpiiefdaaijgbaa

/- A list of instructions that came in, read out of the form's own reading. -/
namespace Go.Proofs.Ytpiiefdaaijgbaa
open Go Go.RowKit Go.Wr Go.Fl
open Go.ChangeShapes Go.WideShapes Go.ChangeAt Go.Deep
set_option maxHeartbeats 2000000
set_option maxRecDepth 100000

instance : Inhabited In := ⟨⟨0, false, false, 0, 0, 0, 0, 0⟩⟩
section
variable {H : Type} {enc : TypeId × Value → H} {w : World} {base : Nat} {held : Bool}
theorem cells_range {base : Nat} {a : Addr} {n : Nat} {cs : List Value} (h : w.cells? base a n = some cs) (hs : a.spot = none) : ∀ j v, cs[j]? = some v → w.cell? ⟨a.block, a.off + j, none⟩ = some v := by
  obtain ⟨h1, h2, h3⟩ := World.cells?_some h
  intro j v hj
  have hjl : j < n := by
    have := (List.getElem?_eq_some_iff.1 hj).1
    omega
  have := h3 j hjl
  rw [addr_lit hs, Addr.add_lit] at this
  rw [this]
  exact hj
theorem trod_ins {fuel : Nat} {cs : List Value} {x : DataW H × List MemPlace} (h : DataW.trod enc Try.prog w base (fun _ => true) held fuel 57 cs = some x) :
    ∃ y : In, cs = tN.f y := by
  obtain ⟨xs, m, _, _, hl, hxl, hx⟩ := DataW.trod_struct Try.underlying57 h
  have hc : Try.prog.cellsOf 57 = 8 := by kernel_rfl
  have hc1 : Try.prog.cellsOf 3 = 1 := by kernel_rfl
  have hcb : Try.prog.cellsOf 4 = 1 := by kernel_rfl
  rw [hc] at hl
  have gi : ∀ i, i < 8 → ∃ y, xs[i]? = some y := fun i hi => ⟨_, List.getElem?_eq_getElem (by rw [hxl]; exact hi)⟩
  match cs, hl with
  | [c0, c1, c2, c3, c4, c5, c6, c7], _ =>
    have hI : ∀ i, i < 8 → ∀ c, DataW.trod enc Try.prog w base (fun _ => true) held m 3 [c] = xs[i]? → ∃ y : Int, c = .int .i64 y := fun i hi c hh => by
      obtain ⟨y, hy⟩ := gi i hi
      rw [hy] at hh
      obtain ⟨p, e, _, _⟩ := DataW.trod_int Try.underlying3 hh
      simp only [List.cons.injEq, and_true] at e
      exact ⟨p, e⟩
    have hB : ∀ i, i < 8 → ∀ c, DataW.trod enc Try.prog w base (fun _ => true) held m 4 [c] = xs[i]? → ∃ y : Bool, c = .bool y := fun i hi c hh => by
      obtain ⟨y, hy⟩ := gi i hi
      rw [hy] at hh
      obtain ⟨p, e, _⟩ := DataW.trod_bool Try.underlying4 hh
      simp only [List.cons.injEq, and_true] at e
      exact ⟨p, e⟩
    have h0 : DataW.trod enc Try.prog w base (fun _ => true) held m 3 (([c0, c1, c2, c3, c4, c5, c6, c7].drop 0).take (Try.prog.cellsOf 3)) = xs[0]? := hx 0 _ rfl
    have h1 : DataW.trod enc Try.prog w base (fun _ => true) held m 4 (([c0, c1, c2, c3, c4, c5, c6, c7].drop 1).take (Try.prog.cellsOf 4)) = xs[1]? := hx 1 _ rfl
    have h2 : DataW.trod enc Try.prog w base (fun _ => true) held m 4 (([c0, c1, c2, c3, c4, c5, c6, c7].drop 2).take (Try.prog.cellsOf 4)) = xs[2]? := hx 2 _ rfl
    have h3 : DataW.trod enc Try.prog w base (fun _ => true) held m 3 (([c0, c1, c2, c3, c4, c5, c6, c7].drop 3).take (Try.prog.cellsOf 3)) = xs[3]? := hx 3 _ rfl
    have h4 : DataW.trod enc Try.prog w base (fun _ => true) held m 3 (([c0, c1, c2, c3, c4, c5, c6, c7].drop 4).take (Try.prog.cellsOf 3)) = xs[4]? := hx 4 _ rfl
    have h5 : DataW.trod enc Try.prog w base (fun _ => true) held m 3 (([c0, c1, c2, c3, c4, c5, c6, c7].drop 5).take (Try.prog.cellsOf 3)) = xs[5]? := hx 5 _ rfl
    have h6 : DataW.trod enc Try.prog w base (fun _ => true) held m 3 (([c0, c1, c2, c3, c4, c5, c6, c7].drop 6).take (Try.prog.cellsOf 3)) = xs[6]? := hx 6 _ rfl
    have h7 : DataW.trod enc Try.prog w base (fun _ => true) held m 3 (([c0, c1, c2, c3, c4, c5, c6, c7].drop 7).take (Try.prog.cellsOf 3)) = xs[7]? := hx 7 _ rfl
    rw [hc1] at h0 h3 h4 h5 h6 h7
    rw [hcb] at h1 h2
    obtain ⟨y0, rfl⟩ := hI 0 (by omega) _ h0
    obtain ⟨y1, rfl⟩ := hB 1 (by omega) _ h1
    obtain ⟨y2, rfl⟩ := hB 2 (by omega) _ h2
    obtain ⟨y3, rfl⟩ := hI 3 (by omega) _ h3
    obtain ⟨y4, rfl⟩ := hI 4 (by omega) _ h4
    obtain ⟨y5, rfl⟩ := hI 5 (by omega) _ h5
    obtain ⟨y6, rfl⟩ := hI 6 (by omega) _ h6
    obtain ⟨y7, rfl⟩ := hI 7 (by omega) _ h7
    exact ⟨⟨y0, y1, y2, y3, y4, y5, y6, y7⟩, rfl⟩
theorem open_ins {a0 : Option Addr} {len cap : Nat} {fuel : Nat} {x : DataW H × List MemPlace} (h : DataW.trod enc Try.prog w base (fun _ => true) held fuel 23 [.slice a0 len cap] = some x) :
    ∃ l : List In, SlX tN w.heap.size w (.slice a0 len cap) l := by
  rcases open_slice Try.underlying23 h with ⟨hcs, _⟩ | ⟨a, len', cap', m, n, D, Pl, hcs, _, hl, hm, hmm, hx, hel⟩
  · simp only [List.cons.injEq, Value.slice.injEq, and_true] at hcs
    obtain ⟨rfl, rfl, rfl⟩ := hcs
    exact ⟨[], SlX.nil _ _⟩
  · simp only [List.cons.injEq, Value.slice.injEq, and_true] at hcs
    obtain ⟨rfl, rfl, rfl⟩ := hcs
    have hmc : m = cap := by simpa using hmm
    have hc8 : Try.prog.cellsOf 57 = 8 := by kernel_rfl
    have hex : ∀ i, i < len → ∃ y : In, w.cells? base (a.add (i * 8)) 8 = some (tN.f y) := fun i hi => by
      obtain ⟨cs', h1, h2⟩ := hel i (by omega)
      obtain ⟨y, rfl⟩ := trod_ins h2
      rw [hc8] at h1
      exact ⟨y, h1⟩
    obtain ⟨f, hf⟩ := choose_lt hex
    have hlen : ((List.range len).map f).length = len := by simp
    refine ⟨(List.range len).map f, some a, cap, by rw [hlen], by rw [hlen]; simpa using hl, by omega, fun k x hx => ?_⟩
    have hk : k < len := by have := (List.getElem?_eq_some_iff.1 hx).1; simpa using this
    rw [List.getElem?_map, List.getElem?_range hk] at hx
    simp only [Option.map_some, Option.some.injEq] at hx
    subst hx
    have hsp : a.spot = none := by
      obtain ⟨_, _, hh⟩ := World.cells?_some (hf 0 (by omega))
      have h0 : w.cell? (a.add (0 * 8)) = some (.int .i64 (f 0).op) := by
        have h0 := hh 0 (by omega)
        rw [show (tN.f (f 0))[0]? = some (.int .i64 (f 0).op) from rfl] at h0
        simpa [Addr.add] using h0
      have := World.cell?_spot h0
      simpa [Addr.add] using this
    have ea := addr_lit hsp
    have hr := hf k hk
    rw [ea, Addr.add_lit] at hr
    have hr2 := cells_range hr rfl
    have hlt := World.block_lt_of_cell? w ⟨a.block, _, none⟩ (hr2 0 _ rfl)
    exact ⟨a.block, a.off, by rw [← ea], by have : a.block < w.heap.size := hlt; omega, hlt, hr2⟩
end
end Go.Proofs.Ytpiiefdaaijgbaa

/- taken: the program's flow of a list, and that it is refused as the document says. -/
namespace Go.Proofs.Ytpiiefdaaijgbaa
open Go Go.RowKit Go.Wr Go.Fl
set_option maxHeartbeats 4000000
set_option maxRecDepth 100000

/-- What taken answers: nil and true, or a finished flow and true. -/
def TakenP (l : List In) (w : World) (e : Ending) (w' : World) : Prop :=
  Below w.heap.size w w' ∧ (e = .returned (.tuple #[.pointer none, .bool true]) ∨
    (G7 l ∧ ∃ p ab cb b4 o4 b5 o5 c4 c5 va vo vr vl bs ss E d, e = .returned (.tuple #[.pointer (some ⟨p, 0, none⟩), .bool true]) ∧ w.heap.size ≤ p ∧ Fin l p ab cb b4 o4 b5 o5 c4 c5 va vo vr vl bs ss E d w'))
end Go.Proofs.Ytpiiefdaaijgbaa

/- A finished flow's questions, as the laws ask them. -/
namespace Go.Proofs.Ytpiiefdaaijgbaa
open Go Go.RowKit Go.Wr Go.Fl
set_option maxHeartbeats 4000000
set_option maxRecDepth 100000

/-- The blocks, the loops of a list of instructions. -/
def dB (l : List In) : List (Int × Int × List Int) := (List.range (nB l)).map fun i => ((frF l i : Int), (twF l i : Int), nI (nxt l i))
noncomputable def dL (l : List In) : List (Int × Int × List Int) := (List.range (heads l).length).map fun i => ((((heads l).getD i 0 : Nat) : Int), parK l i (heads l).length, nI (ins (lpB l ((heads l).getD i 0)) (nB l)))
theorem dB_len (l : List In) : (dB l).length = nB l := by simp [dB]
theorem dL_len (l : List In) : (dL l).length = (heads l).length := by simp [dL]
theorem dB_get {l : List In} {i : Nat} (h : i < nB l) : (dB l)[i]? = some ((frF l i : Int), (twF l i : Int), nI (nxt l i)) := by
  unfold dB; rw [List.getElem?_map, List.getElem?_range h]; rfl
theorem dL_get {l : List In} {i : Nat} (h : i < (heads l).length) : (dL l)[i]? = some ((((heads l).getD i 0 : Nat) : Int), parK l i (heads l).length, nI (ins (lpB l ((heads l).getD i 0)) (nB l))) := by
  unfold dL; rw [List.getElem?_map, List.getElem?_range h]; rfl
/-- A finished flow at p. -/
def FinP (l : List In) (p : Nat) (w : World) : Prop := G7 l ∧ ∃ ab cb b4 o4 b5 o5 c4 c5 va vo vr vl bs ss E d, Fin l p ab cb b4 o4 b5 o5 c4 c5 va vo vr vl bs ss E d w
theorem FinP.below {l : List In} {p : Nat} {w w' : World} (h : FinP l p w) (b : Below w.heap.size w w') : FinP l p w' := by
  obtain ⟨g, ab, cb, b4, o4, b5, o5, c4, c5, va, vo, vr, vl, bs, ss, E, d, h⟩ := h
  exact ⟨g, ab, cb, b4, o4, b5, o5, c4, c5, va, vo, vr, vl, bs, ss, E, d, h.below b⟩
/-- A block ahead of the flow may be another one. -/
theorem FinP.old {l : List In} {p g : Nat} {w w' : World} (h : FinP l p w) (hg : g < p) (x : Ex g w w') : FinP l p w' := by
  obtain ⟨gg, ab, cb, b4, o4, b5, o5, c4, c5, va, vo, vr, vl, bs, ss, E, d, h⟩ := h
  exact ⟨gg, ab, cb, b4, o4, b5, o5, c4, c5, va, vo, vr, vl, bs, ss, E, d, h.old hg x⟩
theorem FinP.lt {l : List In} {p : Nat} {w : World} (h : FinP l p w) : p < w.heap.size := by
  obtain ⟨g, ab, cb, b4, o4, b5, o5, c4, c5, va, vo, vr, vl, bs, ss, E, d, h⟩ := h
  exact h.blk.lt
theorem TakenP.two {l : List In} {w w' : World} {e : Ending} (h : TakenP l w e w') : Below w.heap.size w w' ∧ (e = .returned (.tuple #[.pointer none, .bool true]) ∨ ∃ p, e = .returned (.tuple #[.pointer (some ⟨p, 0, none⟩), .bool true]) ∧ w.heap.size ≤ p ∧ FinP l p w') := by
  obtain ⟨b, h | ⟨g, p, ab, cb, b4, o4, b5, o5, c4, c5, va, vo, vr, vl, bs, ss, E, d, e, hp, h⟩⟩ := h
  · exact ⟨b, Or.inl h⟩
  · exact ⟨b, Or.inr ⟨p, e, hp, g, ab, cb, b4, o4, b5, o5, c4, c5, va, vo, vr, vl, bs, ss, E, d, h⟩⟩
theorem FinP.blocks {l : List In} {p : Nat} {w : World} (h : FinP l p w) : Calls Try.prog 26 #[.pointer (some ⟨p, 0, none⟩)] w fun e w' => Below w.heap.size w w' ∧ ∃ v, e = .returned v ∧ Bd p w' v (dB l) := by
  obtain ⟨g, ab, cb, b4, o4, b5, o5, c4, c5, va, vo, vr, vl, bs, ss, E, d, h⟩ := h
  refine (blocks_ok w p l _ va vo bs ss h.fw (h.blk.cell 0) g.pos (by have := g.n512; omega)).mono ?_
  rintro e w' ⟨b, v, rs, rfl, ho, hl, hr⟩
  refine ⟨b, v, rfl, rs, ho.sl (ne_low ho h.blk.lt), by rw [hl, dB_len], fun i k d hk hd => ?_⟩
  have hi : i < nB l := by rw [← hl]; exact (List.getElem?_eq_some_iff.1 hk).1
  rw [dB_get hi] at hd
  cases hd
  obtain ⟨h1, h2, h3⟩ := hr i k hk
  exact ⟨h1, h2, h3.sl (ne_low h3 h.blk.lt)⟩
theorem FinP.loops {l : List In} {p : Nat} {w : World} (h : FinP l p w) : Calls Try.prog 27 #[.pointer (some ⟨p, 0, none⟩)] w fun e w' => Below w.heap.size w w' ∧ ∃ v, e = .returned v ∧ Ld p w' v (dL l) := by
  obtain ⟨g, ab, cb, b4, o4, b5, o5, c4, c5, va, vo, vr, vl, bs, ss, E, d, h⟩ := h
  have hE : E.length = (heads l).length := by rw [← h.hd, List.length_map]
  have hhd : ∀ i e, E[i]? = some e → (heads l).getD i 0 = e.hd := fun i e he => by
    rw [← h.hd, List.getD_eq_getElem?_getD, List.getElem?_map, he]; rfl
  have hrow : arL E (fun i => parK l i (heads l).length) = arI (heads l).length (fun i => (((heads l).getD i 0 : Nat) : Int)) (fun i => parK l i (heads l).length) (fun i => ((E[i]?).map (·.bl)).getD ⟨none, 0, 0⟩) := by
    apply List.ext_getElem?
    intro i
    by_cases hi : i < (heads l).length
    · obtain ⟨e, he⟩ : ∃ e, E[i]? = some e := ⟨_, List.getElem?_eq_getElem (by rw [hE]; exact hi)⟩
      rw [arL_get he]
      unfold arI
      rw [List.getElem?_map, List.getElem?_range hi]
      simp only [Option.map_some]
      rw [hhd i e he, he]
      rfl
    · rw [List.getElem?_eq_none (by rw [arL_len, hE]; omega), List.getElem?_eq_none (by simp [arI]; omega)]
  have hla := h.la
  rw [hrow] at hla
  refine (loops_ok w p (heads l).length _ _ (fun i => nI (ins (lpB l ((heads l).getD i 0)) (nB l))) _ vl (h.blk.cell 6) hla (fun i hi => ?_) (fun i hi => ?_) (by have := g.hd8; omega)).mono ?_
  · obtain ⟨e, he⟩ : ∃ e, E[i]? = some e := ⟨_, List.getElem?_eq_getElem (by rw [hE]; exact hi)⟩
    simp only [he, Option.map_some, Option.getD_some]
    rw [hhd i e he]
    exact h.el e (List.mem_of_getElem? he)
  · rw [nI_len]
    unfold ins
    refine Nat.le_trans (List.length_filter_le _ _) ?_
    rw [List.length_range]
    have := g.n512
    omega
  · rintro e w' ⟨b, v, row', rfl, ho, hr⟩
    refine ⟨b, v, rfl, _, ho.sl (ne_low ho h.blk.lt), by rw [dL_len]; simp [arI], fun i k d hk hd => ?_⟩
    have hi : i < (heads l).length := by rw [← dL_len]; exact (List.getElem?_eq_some_iff.1 hd).1
    rw [dL_get hi] at hd
    cases hd
    unfold arI at hk
    rw [List.getElem?_map, List.getElem?_range hi] at hk
    cases hk
    exact ⟨rfl, rfl, (hr i hi).sl (ne_low (hr i hi) h.blk.lt)⟩
theorem FinP.order {l : List In} {p : Nat} {w : World} (h : FinP l p w) : Calls Try.prog 37 #[.pointer (some ⟨p, 0, none⟩)] w fun e w' => Below w.heap.size w w' ∧ ∃ v, e = .returned v ∧ SlX tI p w' v (nI (dfsL (nxt l)).reverse) := by
  obtain ⟨g, ab, cb, b4, o4, b5, o5, c4, c5, va, vo, vr, vl, bs, ss, E, d, h⟩ := h
  refine (order_ok w p p vr _ (h.blk.cell 3) h.ro (by rw [nI_len, List.length_reverse, g.len]; have := g.n512; omega)).mono ?_
  rintro e w' ⟨b, v, rfl, ho⟩
  exact ⟨b, v, rfl, ho.sl (ne_low ho h.blk.lt)⟩
theorem FinP.dom {l : List In} {p : Nat} {w : World} (h : FinP l p w) (a b : Int) : Calls Try.prog 28 #[.pointer (some ⟨p, 0, none⟩), .int .i64 a, .int .i64 b] w fun e w' => e = .returned (.bool (domB (nxt l) (nB l) a b)) ∧ ∃ k, w' = w.drewN k := by
  obtain ⟨g, ab, cb, b4, o4, b5, o5, c4, c5, va, vo, vr, vl, bs, ss, E, d, h⟩ := h
  exact dominates_ok w p (nB l) _ _ d _ h.nd.gr h.nd.id b4 o4 b5 o5 c4 c5 (h.nd.pd h.blk) ab cb (h.blk.cell 0) a b
theorem FinP.block {l : List In} {p : Nat} {w : World} (h : FinP l p w) (i : Int) : Calls Try.prog 62 #[.pointer (some ⟨p, 0, none⟩), .int .i64 i] w fun e w' => e = .returned (.int .i64 (blkOf (ofl l) i)) ∧ w' = w := by
  obtain ⟨g, ab, cb, b4, o4, b5, o5, c4, c5, va, vo, vr, vl, bs, ss, E, d, h⟩ := h
  exact block_ok w p p vo (ofl l) (h.blk.cell 2) h.fw.so i
end Go.Proofs.Ytpiiefdaaijgbaa
