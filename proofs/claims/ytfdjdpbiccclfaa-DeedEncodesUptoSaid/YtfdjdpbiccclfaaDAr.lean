/- Bytes and a deed that came in, read out of the form's own reading. -/
import Derived.Test.YtfdjdpbiccclfaaDKn
import Derived.Test.YtfdjdpbiccclfaaSFrame
import Derived.Test.YtfdjdpbiccclfaaSArgs
namespace Go.Proofs.Ytfdjdpbiccclfaa
open Go Go.RowKit Go.Wr
open Go.ChangeShapes Go.WideShapes Go.ChangeAt Go.Deep
set_option maxHeartbeats 2000000
set_option maxRecDepth 100000

instance : Inhabited Lp := ⟨⟨0, 0, 0, 0, 0⟩⟩
instance : Inhabited Tg := ⟨tz⟩
instance : Inhabited C3 := ⟨⟨0, 0, 0⟩⟩
instance : Inhabited (Cl × Value) := ⟨(⟨true, f0, []⟩, .bool true)⟩
theorem weights_all {H : Type} {P : Program} {e : TypeId} : ∀ {l : List (DataW H)} {j : Nat} {d : DataW H}, l[j]? = some d → ∀ n ∈ d.weights P e, n ∈ DataW.weightsAll P e l := by
  intro l
  induction l with
  | nil => intro j d h; simp at h
  | cons y l ih =>
    intro j d h n hn
    unfold DataW.weightsAll
    cases j with
    | zero =>
      simp only [List.getElem?_cons_zero, Option.some.injEq] at h
      subst h
      exact List.mem_append_left _ hn
    | succ j =>
      simp only [List.getElem?_cons_succ] at h
      exact List.mem_append_right _ (ih h n hn)
theorem seg_get {cs m : List Value} {o n : Nat} (h : (cs.drop o).take n = m) (r : Nat) (hr : r < n) : cs[o + r]? = m[r]? := by
  rw [← h, List.getElem?_take, if_pos hr, List.getElem?_drop]
theorem tgv_get (t : Tg) {j : Nat} (h : j < 3) : (tgv t).toList[j]? = some (.int .i64 (tcomp t j)) := by
  match j, h with
  | 0, _ => rfl
  | 1, _ => rfl
  | 2, _ => rfl
section
variable {H : Type} {enc : TypeId × Value → H} {w : World} {base : Nat} {held : Bool}
theorem cells_range {base : Nat} {a : Addr} {n : Nat} {cs : List Value} (h : w.cells? base a n = some cs) (hs : a.spot = none) : ∀ j v, cs[j]? = some v → w.cell? ⟨a.block, a.off + j, none⟩ = some v := by
  obtain ⟨h1, h2, h3⟩ := World.cells?_some h
  intro j v hj
  have hjl : j < n := by
    have := (List.getElem?_eq_some_iff.1 hj).1
    omega
  have := h3 j hjl
  rw [addr_lit hs, Addr.add_lit] at this
  rw [this]
  exact hj
theorem open_by {a0 : Option Addr} {len cap : Nat} {fuel : Nat} {x : DataW H × List MemPlace} (h : DataW.trod enc Try.prog w base (fun _ => true) held fuel 28 [.slice a0 len cap] = some x) :
    ∃ b, SlBy w.heap.size w (.slice a0 len cap) b := by
  rcases open_slice Try.underlying28 h with ⟨hcs, _⟩ | ⟨a, len', cap', m, n, D, Pl, hcs, _, hl, hm, hmm, hx, hel⟩
  · simp only [List.cons.injEq, Value.slice.injEq, and_true] at hcs
    obtain ⟨rfl, rfl, rfl⟩ := hcs
    exact ⟨[], none, 0, rfl, by simp, by decide, fun k x hx => by simp at hx⟩
  · simp only [List.cons.injEq, Value.slice.injEq, and_true] at hcs
    obtain ⟨rfl, rfl, rfl⟩ := hcs
    have hmc : m = cap := by simpa using hmm
    have hc1 : Try.prog.cellsOf 5 = 1 := by kernel_rfl
    have hex : ∀ i, i < len → ∃ y : Nat, y < 256 ∧ w.cell? (a.add i) = some (.int .u8 (y : Int)) := fun i hi => by
      obtain ⟨cs', h1, h2⟩ := hel i (by omega)
      obtain ⟨p, rfl, _, w0⟩ := DataW.trod_int Try.underlying5 h2
      rw [hc1, Nat.mul_one] at h1
      obtain ⟨_, _, hh⟩ := World.cells?_some h1
      have h0 : w.cell? (a.add i) = some (.int .u8 p) := by simpa [Addr.add] using hh 0 (by omega)
      simp [Lit.wf, IntKind.min, IntKind.max, IntKind.signed, IntKind.bits] at w0
      obtain ⟨q, rfl⟩ := Int.eq_ofNat_of_zero_le w0.1
      exact ⟨q, by omega, h0⟩
    obtain ⟨f, hf⟩ := choose_lt hex
    refine ⟨(List.range len).map f, some a, cap, by simp, by simpa using hl, hm, fun k x hx => ?_⟩
    have hk : k < len := by have := (List.getElem?_eq_some_iff.1 hx).1; simpa using this
    rw [List.getElem?_map, List.getElem?_range hk] at hx
    simp only [Option.map_some, Option.some.injEq] at hx
    subst hx
    obtain ⟨f1, f2⟩ := hf k hk
    have hsp : a.spot = none := by have := World.cell?_spot (hf 0 (by omega)).2; simpa [Addr.add] using this
    have ea := addr_lit hsp
    rw [ea, Addr.add_lit] at f2
    exact ⟨a.block, a.off, by rw [← ea], World.block_lt_of_cell? w ⟨a.block, _, none⟩ f2, f1, f2⟩

theorem trod_ints {n : Nat} {T : TypeId} {fs : Array Field} (hT : Try.prog.underlying T = some (.struct fs)) (hc : Try.prog.cellsOf T = n) (hfs : ∀ i, i < n → ∃ f, fs[i]? = some f ∧ f.type = 3 ∧ f.offset = i) {fuel : Nat} {cs : List Value} {x : DataW H × List MemPlace} (h : DataW.trod enc Try.prog w base (fun _ => true) held fuel T cs = some x) :
    cs.length = n ∧ ∀ i, i < n → ∃ y : Int, cs[i]? = some (.int .i64 y) := by
  obtain ⟨xs, m, _, _, hl, hxl, hx⟩ := DataW.trod_struct hT h
  have hc1 : Try.prog.cellsOf 3 = 1 := by kernel_rfl
  rw [hc] at hl
  refine ⟨hl, fun i hi => ?_⟩
  obtain ⟨f, hf, ht, ho⟩ := hfs i hi
  have h1 := hx i f hf
  rw [ht, ho, hc1] at h1
  have h2 : (cs.drop i).take 1 = [cs[i]'(by omega)] := by rw [List.drop_eq_getElem_cons (by omega)]; rfl
  rw [h2] at h1
  have hxi : ∃ y, xs[i]? = some y := ⟨_, List.getElem?_eq_getElem (by rw [hxl]; exact (Array.getElem?_eq_some_iff.1 hf).1)⟩
  obtain ⟨y, hy⟩ := hxi
  rw [hy] at h1
  obtain ⟨p, e, _, _⟩ := DataW.trod_int Try.underlying3 h1
  simp only [List.cons.injEq, and_true] at e
  exact ⟨p, by rw [List.getElem?_eq_getElem (by omega), e]⟩
theorem open_loops {a0 : Option Addr} {len cap : Nat} {fuel : Nat} {x : DataW H × List MemPlace} (h : DataW.trod enc Try.prog w base (fun _ => true) held fuel 23 [.slice a0 len cap] = some x) :
    ∃ l : List Lp, l.length = len ∧ SlL w.heap.size w (.slice a0 len cap) l := by
  rcases open_slice Try.underlying23 h with ⟨hcs, _⟩ | ⟨a, len', cap', m, n, D, Pl, hcs, _, hl, hm, hmm, hx, hel⟩
  · simp only [List.cons.injEq, Value.slice.injEq, and_true] at hcs
    obtain ⟨rfl, rfl, rfl⟩ := hcs
    exact ⟨[], rfl, none, 0, rfl, fun k x hx => by simp at hx⟩
  · simp only [List.cons.injEq, Value.slice.injEq, and_true] at hcs
    obtain ⟨rfl, rfl, rfl⟩ := hcs
    have hmc : m = cap := by simpa using hmm
    have hc5 : Try.prog.cellsOf 54 = 5 := by kernel_rfl
    have hex : ∀ i, i < len → ∃ y : Lp, w.cells? base (a.add (i * 5)) 5 = some (lpv y).toList := fun i hi => by
      obtain ⟨cs', h1, h2⟩ := hel i (by omega)
      obtain ⟨hl5, hint⟩ := trod_ints (n := 5) Try.underlying54 hc5 (fun j hj => by
        match j, hj with
        | 0, _ => exact ⟨_, rfl, rfl, rfl⟩
        | 1, _ => exact ⟨_, rfl, rfl, rfl⟩
        | 2, _ => exact ⟨_, rfl, rfl, rfl⟩
        | 3, _ => exact ⟨_, rfl, rfl, rfl⟩
        | 4, _ => exact ⟨_, rfl, rfl, rfl⟩) h2
      obtain ⟨c0, e0⟩ := hint 0 (by omega)
      obtain ⟨c1, e1⟩ := hint 1 (by omega)
      obtain ⟨c2, e2⟩ := hint 2 (by omega)
      obtain ⟨c3, e3⟩ := hint 3 (by omega)
      obtain ⟨c4, e4⟩ := hint 4 (by omega)
      rw [hc5] at h1
      match cs', hl5 with
      | [d0, d1, d2, d3, d4], _ =>
        simp only [List.getElem?_cons_zero, List.getElem?_cons_succ, Option.some.injEq] at e0 e1 e2 e3 e4
        subst e0 e1 e2 e3 e4
        exact ⟨⟨c0, c1, c2, c3, c4⟩, h1⟩
    obtain ⟨f, hf⟩ := choose_lt hex
    refine ⟨(List.range len).map f, by simp, some a, cap, by simp, fun k x hx => ?_⟩
    have hk : k < len := by have := (List.getElem?_eq_some_iff.1 hx).1; simpa using this
    rw [List.getElem?_map, List.getElem?_range hk] at hx
    simp only [Option.map_some, Option.some.injEq] at hx
    subst hx
    have hsp : a.spot = none := by
      obtain ⟨_, _, hh⟩ := World.cells?_some (hf 0 (by omega))
      have h0 : w.cell? (a.add (0 * 5)) = some (.int .i64 (f 0).h) := by simpa [Addr.add, lpv] using hh 0 (by omega)
      have := World.cell?_spot h0
      simpa [Addr.add] using this
    have ea := addr_lit hsp
    have hr := hf k hk
    rw [ea, Addr.add_lit] at hr
    have hr2 := cells_range hr rfl
    refine ⟨a.block, a.off, by rw [← ea], ?_, hr2⟩
    exact World.block_lt_of_cell? w ⟨a.block, _, none⟩ (hr2 0 _ rfl)
theorem trod_tag {fuel : Nat} {cs : List Value} {x : DataW H × List MemPlace} (h : DataW.trod enc Try.prog w base (fun _ => true) held fuel 56 cs = some x) : ∃ t : Tg, cs = (tgv t).toList := by
  have hc3 : Try.prog.cellsOf 56 = 3 := by kernel_rfl
  obtain ⟨hl3, hint⟩ := trod_ints (n := 3) Try.underlying56 hc3 (fun j hj => by
    match j, hj with
    | 0, _ => exact ⟨_, rfl, rfl, rfl⟩
    | 1, _ => exact ⟨_, rfl, rfl, rfl⟩
    | 2, _ => exact ⟨_, rfl, rfl, rfl⟩) h
  obtain ⟨c0, e0⟩ := hint 0 (by omega)
  obtain ⟨c1, e1⟩ := hint 1 (by omega)
  obtain ⟨c2, e2⟩ := hint 2 (by omega)
  match cs, hl3 with
  | [d0, d1, d2], _ =>
    simp only [List.getElem?_cons_zero, List.getElem?_cons_succ, Option.some.injEq] at e0 e1 e2
    subst e0 e1 e2
    exact ⟨⟨c0, c1, c2⟩, rfl⟩
theorem trod_tags {n : Nat} {T : TypeId} (hT : Try.prog.underlying T = some (.array n 56)) (hc : Try.prog.cellsOf T = n * 3) {fuel : Nat} {cs : List Value} {x : DataW H × List MemPlace} (h : DataW.trod enc Try.prog w base (fun _ => true) held fuel T cs = some x) :
    ∃ f : Nat → Tg, cs.length = n * 3 ∧ ∀ i, i < n → (cs.drop (i * 3)).take 3 = (tgv (f i)).toList := by
  obtain ⟨xs, m, _, _, hl, hxl, hx⟩ := DataW.trod_array hT h
  have hc3 : Try.prog.cellsOf 56 = 3 := by kernel_rfl
  rw [hc3] at hx
  have hex : ∀ i, i < n → ∃ t : Tg, (cs.drop (i * 3)).take 3 = (tgv t).toList := fun i hi => by
    have h1 := hx i hi
    obtain ⟨y, hy⟩ : ∃ y, xs[i]? = some y := ⟨_, List.getElem?_eq_getElem (by omega)⟩
    rw [hy] at h1
    exact trod_tag h1
  obtain ⟨f, hf⟩ := choose_lt hex
  exact ⟨f, by rw [hl, hc], hf⟩
theorem open_con3 {a0 : Option Addr} {len cap : Nat} {fuel : Nat} {x : DataW H × List MemPlace} (h : DataW.trod enc Try.prog w base (fun _ => true) held fuel 59 [.slice a0 len cap] = some x) :
    ∃ l : List C3, l.length = len ∧ SlC w.heap.size w (.slice a0 len cap) l := by
  rcases open_slice Try.underlying59 h with ⟨hcs, _⟩ | ⟨a, len', cap', m, n, D, Pl, hcs, _, hl, hm, hmm, hx, hel⟩
  · simp only [List.cons.injEq, Value.slice.injEq, and_true] at hcs
    obtain ⟨rfl, rfl, rfl⟩ := hcs
    exact ⟨[], rfl, none, 0, rfl, fun k x hx => by simp at hx⟩
  · simp only [List.cons.injEq, Value.slice.injEq, and_true] at hcs
    obtain ⟨rfl, rfl, rfl⟩ := hcs
    have hmc : m = cap := by simpa using hmm
    have hc3 : Try.prog.cellsOf 63 = 3 := by kernel_rfl
    have hex : ∀ i, i < len → ∃ y : C3, w.cells? base (a.add (i * 3)) 3 = some (c3v y).toList := fun i hi => by
      obtain ⟨cs', h1, h2⟩ := hel i (by omega)
      obtain ⟨hl3, hint⟩ := trod_ints (n := 3) Try.underlying63 hc3 (fun j hj => by
        match j, hj with
        | 0, _ => exact ⟨_, rfl, rfl, rfl⟩
        | 1, _ => exact ⟨_, rfl, rfl, rfl⟩
        | 2, _ => exact ⟨_, rfl, rfl, rfl⟩) h2
      obtain ⟨c0, e0⟩ := hint 0 (by omega)
      obtain ⟨c1, e1⟩ := hint 1 (by omega)
      obtain ⟨c2, e2⟩ := hint 2 (by omega)
      rw [hc3] at h1
      match cs', hl3 with
      | [d0, d1, d2], _ =>
        simp only [List.getElem?_cons_zero, List.getElem?_cons_succ, Option.some.injEq] at e0 e1 e2
        subst e0 e1 e2
        exact ⟨⟨c0, c1, c2⟩, h1⟩
    obtain ⟨f, hf⟩ := choose_lt hex
    refine ⟨(List.range len).map f, by simp, some a, cap, by simp, fun k x hx => ?_⟩
    have hk : k < len := by have := (List.getElem?_eq_some_iff.1 hx).1; simpa using this
    rw [List.getElem?_map, List.getElem?_range hk] at hx
    simp only [Option.map_some, Option.some.injEq] at hx
    subst hx
    have hsp : a.spot = none := by
      obtain ⟨_, _, hh⟩ := World.cells?_some (hf 0 (by omega))
      have h0 : w.cell? (a.add (0 * 3)) = some (.int .i64 (f 0).i) := by simpa [Addr.add, c3v] using hh 0 (by omega)
      have := World.cell?_spot h0
      simpa [Addr.add] using this
    have ea := addr_lit hsp
    have hr := hf k hk
    rw [ea, Addr.add_lit] at hr
    have hr2 := cells_range hr rfl
    exact ⟨a.block, a.off, by rw [← ea], World.block_lt_of_cell? w ⟨a.block, _, none⟩ (hr2 0 _ rfl), hr2 0 _ rfl, hr2 1 _ rfl, hr2 2 _ rfl⟩
/-- A claim's cells. -/
theorem trod_claim {fuel : Nat} {cs : List Value} {x : DataW H × List MemPlace} (h : DataW.trod enc Try.prog w base (fun _ => true) held fuel 61 cs = some x) (hz : ∀ n ∈ x.1.weights Try.prog 61, n ≤ reachBytes) :
    ∃ (c : Cl) (v : Value), cs = (bx (.bool c.d) c.f v).toList ∧ SlC w.heap.size w v c.l ∧ c.l.length ≤ 140737488351232 := by
  obtain ⟨xs, n, _, hxe, hl, hxl, hx⟩ := DataW.trod_struct Try.underlying61 h
  have hc : Try.prog.cellsOf 61 = 128 := by kernel_rfl
  have hcb : Try.prog.cellsOf 4 = 1 := by kernel_rfl
  have hcr : Try.prog.cellsOf 57 = 30 := by kernel_rfl
  have hcs : Try.prog.cellsOf 58 = 96 := by kernel_rfl
  have hcc : Try.prog.cellsOf 59 = 1 := by kernel_rfl
  rw [hc] at hl
  have gx : ∀ j : Nat, j < 4 → ∃ y, xs[j]? = some y := fun j hj => ⟨_, List.getElem?_eq_getElem (by rw [hxl]; exact hj)⟩
  obtain ⟨y0, g0⟩ := gx 0 (by omega)
  obtain ⟨y1, g1⟩ := gx 1 (by omega)
  obtain ⟨y2, g2⟩ := gx 2 (by omega)
  obtain ⟨y3, g3⟩ := gx 3 (by omega)
  have x0 : DataW.trod enc Try.prog w base (fun _ => true) held n 4 ((cs.drop 0).take (Try.prog.cellsOf 4)) = xs[0]? := hx 0 _ rfl
  have x1 : DataW.trod enc Try.prog w base (fun _ => true) held n 57 ((cs.drop 1).take (Try.prog.cellsOf 57)) = xs[1]? := hx 1 _ rfl
  have x2 : DataW.trod enc Try.prog w base (fun _ => true) held n 58 ((cs.drop 31).take (Try.prog.cellsOf 58)) = xs[2]? := hx 2 _ rfl
  have x3 : DataW.trod enc Try.prog w base (fun _ => true) held n 59 ((cs.drop 127).take (Try.prog.cellsOf 59)) = xs[3]? := hx 3 _ rfl
  rw [hcb, g0] at x0
  rw [hcr, g1] at x1
  rw [hcs, g2] at x2
  rw [hcc, g3] at x3
  obtain ⟨d, e0, _⟩ := DataW.trod_bool Try.underlying4 x0
  obtain ⟨f1, l1, e1⟩ := trod_tags Try.underlying57 (by rw [hcr]) x1
  obtain ⟨f2, l2, e2⟩ := trod_tags Try.underlying58 (by rw [hcs]) x2
  obtain ⟨v, ev⟩ : ∃ v, (cs.drop 127).take 1 = [v] := by
    rw [List.drop_eq_getElem_cons (by omega)]
    exact ⟨_, rfl⟩
  rw [ev] at x3
  obtain ⟨a0, len, cap, rfl⟩ : ∃ a n c, v = .slice a n c := by
    rcases open_slice Try.underlying59 x3 with ⟨hcs, _⟩ | ⟨a, len', cap', m, n, D, Pl, hcs, _⟩
    · simp only [List.cons.injEq, and_true] at hcs
      exact ⟨_, _, _, hcs⟩
    · simp only [List.cons.injEq, and_true] at hcs
      exact ⟨_, _, _, hcs⟩
  have hb : len ≤ 140737488351232 := by
    rcases open_slice Try.underlying59 x3 with ⟨hcs, _⟩ | ⟨a, len', cap', m, n', D, Pl, hcs, _, _, _, _, hd, _⟩
    · simp only [List.cons.injEq, Value.slice.injEq, and_true] at hcs
      omega
    · simp only [List.cons.injEq, Value.slice.injEq, and_true] at hcs
      have hw := hz ((len' + (m - len')) * Try.prog.bytesOf 63) (by
        rw [hxe]
        simp only [DataW.weights, Try.underlying61]
        refine DataW.weights_mem_each (j := 3) (t := 59) (d := y3.1) rfl (by rw [List.getElem?_map, g3]; rfl) _ ?_
        rw [hd]
        simp [DataW.weights, Try.underlying59])
      rw [show Try.prog.bytesOf 63 = 24 by kernel_rfl] at hw
      have hr : reachBytes = 140737488351232 := rfl
      rw [hr] at hw
      omega
  obtain ⟨l, hll, hsl⟩ := open_con3 x3
  refine ⟨⟨d, fun k => if k < 10 then f1 k else f2 (k - 10), l⟩, .slice a0 len cap, ?_, hsl, by show l.length ≤ _; omega⟩
  apply List.ext_getElem?
  intro j
  refine Eq.trans ?_ Array.getElem?_toList.symm
  rw [bx_at]
  by_cases h0 : j = 0
  · subst h0
    rw [if_pos rfl]
    exact seg_get e0 0 (by omega)
  · rw [if_neg h0]
    by_cases h1 : j < 31
    · rw [if_pos (by omega)]
      dsimp only
      rw [if_pos (by omega)]
      have h2 := seg_get (e1 ((j - 1) / 3) (by omega)) ((j - 1) % 3) (by omega)
      rw [List.getElem?_take, if_pos (by omega), List.getElem?_drop, show 1 + ((j - 1) / 3 * 3 + (j - 1) % 3) = j by omega] at h2
      rw [h2]
      exact tgv_get _ (by omega)
    · by_cases h2 : j < 127
      · rw [if_pos h2]
        dsimp only
        rw [if_neg (by omega)]
        have h3 := seg_get (e2 ((j - 31) / 3) (by omega)) ((j - 31) % 3) (by omega)
        rw [List.getElem?_take, if_pos (by omega), List.getElem?_drop, show 31 + ((j - 31) / 3 * 3 + (j - 31) % 3) = j by omega] at h3
        rw [h3, show (j - 1) / 3 - 10 = (j - 31) / 3 by omega, show (j - 1) % 3 = (j - 31) % 3 by omega]
        exact tgv_get _ (by omega)
      · rw [if_neg h2]
        by_cases h4 : j = 127
        · subst h4
          rw [if_pos rfl]
          exact seg_get ev 0 (by omega)
        · rw [if_neg h4, List.getElem?_eq_none (by omega)]
theorem open_claims {a0 : Option Addr} {len cap : Nat} {fuel : Nat} {x : DataW H × List MemPlace} (h : DataW.trod enc Try.prog w base (fun _ => true) held fuel 24 [.slice a0 len cap] = some x) (hz : ∀ n ∈ x.1.weights Try.prog 24, n ≤ reachBytes) :
    ∃ l : List Cl, l.length = len ∧ SlCl w.heap.size w (.slice a0 len cap) l ∧ ∀ c ∈ l, c.l.length ≤ 140737488351232 := by
  rcases open_slice Try.underlying24 h with ⟨hcs, _⟩ | ⟨a, len', cap', m, n, D, Pl, hcs, _, hl, hm, hmm, hx, hel⟩
  · simp only [List.cons.injEq, Value.slice.injEq, and_true] at hcs
    obtain ⟨rfl, rfl, rfl⟩ := hcs
    exact ⟨[], rfl, ⟨none, 0, rfl, fun k x hx => by simp at hx⟩, fun c hc => by cases hc⟩
  · simp only [List.cons.injEq, Value.slice.injEq, and_true] at hcs
    obtain ⟨rfl, rfl, rfl⟩ := hcs
    have hmc : m = cap := by simpa using hmm
    have hc5 : Try.prog.cellsOf 61 = 128 := by kernel_rfl
    have hex : ∀ i, i < len → ∃ y : Cl × Value, w.cells? base (a.add (i * 128)) 128 = some (bx (.bool y.1.d) y.1.f y.2).toList ∧ SlC w.heap.size w y.2 y.1.l ∧ y.1.l.length ≤ 140737488351232 := fun i hi => by
      obtain ⟨cs', h1, h2⟩ := hel i (by omega)
      obtain ⟨c, v, e, hs, hn⟩ := trod_claim h2 (fun k hk => hz k (by
        rw [hx]
        simp only [DataW.weights, Try.underlying24]
        refine List.mem_cons_of_mem _ (List.mem_append_left _ ?_)
        exact weights_all (j := i) (by rw [List.getElem?_map, List.getElem?_range hi]; rfl) k hk))
      rw [hc5] at h1
      subst e
      exact ⟨⟨c, v⟩, h1, hs, hn⟩
    obtain ⟨f, hf⟩ := choose_lt hex
    refine ⟨(List.range len).map fun i => (f i).1, by simp, ⟨some a, cap, by simp, fun k x hx => ?_⟩, fun c hc => ?_⟩
    · have hk : k < len := by have := (List.getElem?_eq_some_iff.1 hx).1; simpa using this
      rw [List.getElem?_map, List.getElem?_range hk] at hx
      simp only [Option.map_some, Option.some.injEq] at hx
      subst hx
      have hsp : a.spot = none := by
        obtain ⟨_, _, hh⟩ := World.cells?_some (hf 0 (by omega)).1
        have h1 : (bx (.bool (f 0).1.d) (f 0).1.f (f 0).2).toList[0]? = some (.bool (f 0).1.d) := by rw [Array.getElem?_toList]; exact bx_zero _ _ _
        have h0 : w.cell? (a.add (0 * 128)) = some (.bool (f 0).1.d) := by
          have := hh 0 (by omega)
          rw [h1] at this
          simpa [Addr.add] using this
        have := World.cell?_spot h0
        simpa [Addr.add] using this
      have ea := addr_lit hsp
      obtain ⟨hr, hs, _⟩ := hf k hk
      rw [ea, Addr.add_lit] at hr
      have hr2 := cells_range hr rfl
      refine ⟨a.block, a.off, (f k).2, by rw [← ea], ?_, hr2, hs⟩
      exact World.block_lt_of_cell? w ⟨a.block, _, none⟩ (hr2 0 (.bool (f k).1.d) (by rw [Array.getElem?_toList]; exact bx_zero _ _ _))
    · rw [List.mem_map] at hc
      obtain ⟨i, hi, rfl⟩ := hc
      exact (hf i (List.mem_range.1 hi)).2.2
/-- A deed that came in. -/
theorem open_deed {base' : Nat} {v : Value} {d : DataW H} {p : List MemPlace} (hv : ∃ fuel, DataW.trod enc Try.prog w base (fun _ => true) held fuel 26 v.cells.toList = some (d, p)) (hval : Value.okWide Try.prog w .any base' 26 v) (hz : ∀ n ∈ d.weights Try.prog 26, n ≤ reachBytes) :
    ∃ (al : Option Addr) (nl cl : Nat) (ac : Option Addr) (nc cc : Nat) (e : Dd), v = .agg #[.slice al nl cl, .slice ac nc cc] ∧ SlD w.heap.size w (.slice al nl cl) (.slice ac nc cc) e := by
  obtain ⟨cs, rfl, hsz⟩ := okWide_struct Try.underlying26 hval
  obtain ⟨fuel, hf⟩ := hv
  obtain ⟨y0, y1, n, hxe, hl, h0, h1⟩ := trod_struct2 Try.underlying26 hf
  have hc : Try.prog.cellsOf 26 = 2 := by kernel_rfl
  have hc1 : Try.prog.cellsOf 23 = 1 := by kernel_rfl
  have hc2 : Try.prog.cellsOf 24 = 1 := by kernel_rfl
  simp only [Value.cells] at hl h0 h1
  rw [hc] at hl
  obtain ⟨l⟩ := cs
  simp only at hl h0 h1
  match l, hl with
  | [c0, c1], _ =>
    simp only [hc1, hc2, List.drop_succ_cons, List.drop_zero, List.take_succ_cons, List.take_zero] at h0 h1
    obtain ⟨a, n0, p0, rfl⟩ : ∃ a n c, c0 = .slice a n c := by
      rcases open_slice Try.underlying23 h0 with ⟨hcs, _⟩ | ⟨a, len', cap', m, n, D, Pl, hcs, _⟩
      · simp only [List.cons.injEq, and_true] at hcs
        exact ⟨_, _, _, hcs⟩
      · simp only [List.cons.injEq, and_true] at hcs
        exact ⟨_, _, _, hcs⟩
    obtain ⟨a', n1, p1, rfl⟩ : ∃ a n c, c1 = .slice a n c := by
      rcases open_slice Try.underlying24 h1 with ⟨hcs, _⟩ | ⟨a, len', cap', m, n, D, Pl, hcs, _⟩
      · simp only [List.cons.injEq, and_true] at hcs
        exact ⟨_, _, _, hcs⟩
      · simp only [List.cons.injEq, and_true] at hcs
        exact ⟨_, _, _, hcs⟩
    simp only [Prod.mk.injEq] at hxe
    obtain ⟨rfl, _⟩ := hxe
    have hw0 : ∀ k ∈ y0.1.weights Try.prog 23, k ≤ reachBytes := fun k hk => hz k (by
      simp only [DataW.weights, Try.underlying26]
      exact DataW.weights_mem_each (j := 0) (t := 23) (d := y0.1) rfl rfl k hk)
    have hw1 : ∀ k ∈ y1.1.weights Try.prog 24, k ≤ reachBytes := fun k hk => hz k (by
      simp only [DataW.weights, Try.underlying26]
      exact DataW.weights_mem_each (j := 1) (t := 24) (d := y1.1) rfl rfl k hk)
    obtain ⟨ls, hln, hls⟩ := open_loops h0
    obtain ⟨cs, hcn, hcs, hnb⟩ := open_claims h1 hw1
    have b0 : n0 ≤ 140737488351232 := by
      rcases open_slice Try.underlying23 h0 with ⟨hcs, _⟩ | ⟨a, len', cap', m, n', D, Pl, hcs, _, _, _, _, hd, _⟩
      · simp only [List.cons.injEq, Value.slice.injEq, and_true] at hcs
        omega
      · simp only [List.cons.injEq, Value.slice.injEq, and_true] at hcs
        have hw := hw0 ((len' + (m - len')) * Try.prog.bytesOf 54) (by rw [hd]; simp [DataW.weights, Try.underlying23])
        rw [show Try.prog.bytesOf 54 = 40 by kernel_rfl] at hw
        have hr : reachBytes = 140737488351232 := rfl
        rw [hr] at hw
        omega
    have b1 : n1 ≤ 140737488351232 := by
      rcases open_slice Try.underlying24 h1 with ⟨hcs, _⟩ | ⟨a, len', cap', m, n', D, Pl, hcs, _, _, _, _, hd, _⟩
      · simp only [List.cons.injEq, Value.slice.injEq, and_true] at hcs
        omega
      · simp only [List.cons.injEq, Value.slice.injEq, and_true] at hcs
        have hw := hw1 ((len' + (m - len')) * Try.prog.bytesOf 61) (by rw [hd]; simp [DataW.weights, Try.underlying24])
        rw [show Try.prog.bytesOf 61 = 1040 by kernel_rfl] at hw
        have hr : reachBytes = 140737488351232 := rfl
        rw [hr] at hw
        omega
    exact ⟨a, n0, p0, a', n1, p1, ⟨ls, cs⟩, rfl, hls, hcs, by show ls.length ≤ _; omega, by show cs.length ≤ _; omega, hnb⟩
end
end Go.Proofs.Ytfdjdpbiccclfaa
