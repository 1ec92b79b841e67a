/- What the law needs, one part after another: walks of functions and plain laws. No conditions but those that each law names. -/
import Derived.Test.YtfdjdpbiccclfaaFrae
import Derived.Deep.RegionHeld3
import Derived.Laws.AppendOwnNone
import Derived.Deep.AppendLies
namespace Go.Proofs.Ytfdjdpbiccclfaa
open Go Go.RowKit Go.Wr
open Go.ChangeShapes Go.WideShapes Go.ChangeAt Go.Deep
set_option maxHeartbeats 2000000
set_option maxRecDepth 100000
instance : Inhabited Lp := ⟨⟨0, 0, 0, 0, 0⟩⟩
instance : Inhabited Tg := ⟨tz⟩
instance : Inhabited C3 := ⟨⟨0, 0, 0⟩⟩
instance : Inhabited (Cl × Value) := ⟨(⟨true, f0, []⟩, .bool true)⟩
theorem weights_all {H : Type} {P : Program} {e : TypeId} : ∀ {l : List (DataW H)} {j : Nat} {d : DataW H}, l[j]? = some d → ∀ n ∈ d.weights P e, n ∈ DataW.weightsAll P e l := by
  intro l
  induction l with
  | nil => intro j d h; simp at h
  | cons y l ih =>
    intro j d h n hn
    unfold DataW.weightsAll
    cases j with
    | zero =>
      simp only [List.getElem?_cons_zero, Option.some.injEq] at h
      subst h
      exact List.mem_append_left _ hn
    | succ j =>
      simp only [List.getElem?_cons_succ] at h
      exact List.mem_append_right _ (ih h n hn)
theorem seg_get {cs m : List Value} {o n : Nat} (h : (cs.drop o).take n = m) (r : Nat) (hr : r < n) : cs[o + r]? = m[r]? := by
  rw [← h, List.getElem?_take, if_pos hr, List.getElem?_drop]
theorem tgv_get (t : Tg) {j : Nat} (h : j < 3) : (tgv t).toList[j]? = some (.int .i64 (tcomp t j)) := by
  match j, h with
  | 0, _ => rfl
  | 1, _ => rfl
  | 2, _ => rfl
section
variable {H : Type} {enc : TypeId × Value → H} {w : World} {base : Nat} {held : Bool}
theorem cells_range {base : Nat} {a : Addr} {n : Nat} {cs : List Value} (h : w.cells? base a n = some cs) (hs : a.spot = none) : ∀ j v, cs[j]? = some v → w.cell? ⟨a.block, a.off + j, none⟩ = some v := by
  obtain ⟨h1, h2, h3⟩ := World.cells?_some h
  intro j v hj
  have hjl : j < n := by
    have := (List.getElem?_eq_some_iff.1 hj).1
    omega
  have := h3 j hjl
  rw [addr_lit hs, Addr.add_lit] at this
  rw [this]
  exact hj
theorem open_by {a0 : Option Addr} {len cap : Nat} {fuel : Nat} {x : DataW H × List MemPlace} (h : DataW.trod enc Try.prog w base (fun _ => true) held fuel 28 [.slice a0 len cap] = some x) :
    ∃ b, SlBy w.heap.size w (.slice a0 len cap) b := by
  rcases open_slice Try.underlying28 h with ⟨hcs, _⟩ | ⟨a, len', cap', m, n, D, Pl, hcs, _, hl, hm, hmm, hx, hel⟩
  · simp only [List.cons.injEq, Value.slice.injEq, and_true] at hcs
    obtain ⟨rfl, rfl, rfl⟩ := hcs
    exact ⟨[], none, 0, rfl, by simp, by decide, fun k x hx => by simp at hx⟩
  · simp only [List.cons.injEq, Value.slice.injEq, and_true] at hcs
    obtain ⟨rfl, rfl, rfl⟩ := hcs
    have hmc : m = cap := by simpa using hmm
    have hc1 : Try.prog.cellsOf 5 = 1 := by kernel_rfl
    have hex : ∀ i, i < len → ∃ y : Nat, y < 256 ∧ w.cell? (a.add i) = some (.int .u8 (y : Int)) := fun i hi => by
      obtain ⟨cs', h1, h2⟩ := hel i (by omega)
      obtain ⟨p, rfl, _, w0⟩ := DataW.trod_int Try.underlying5 h2
      rw [hc1, Nat.mul_one] at h1
      obtain ⟨_, _, hh⟩ := World.cells?_some h1
      have h0 : w.cell? (a.add i) = some (.int .u8 p) := by simpa [Addr.add] using hh 0 (by omega)
      simp [Lit.wf, IntKind.min, IntKind.max, IntKind.signed, IntKind.bits] at w0
      obtain ⟨q, rfl⟩ := Int.eq_ofNat_of_zero_le w0.1
      exact ⟨q, by omega, h0⟩
    obtain ⟨f, hf⟩ := choose_lt hex
    refine ⟨(List.range len).map f, some a, cap, by simp, by simpa using hl, hm, fun k x hx => ?_⟩
    have hk : k < len := by have := (List.getElem?_eq_some_iff.1 hx).1; simpa using this
    rw [List.getElem?_map, List.getElem?_range hk] at hx
    simp only [Option.map_some, Option.some.injEq] at hx
    subst hx
    obtain ⟨f1, f2⟩ := hf k hk
    have hsp : a.spot = none := by have := World.cell?_spot (hf 0 (by omega)).2; simpa [Addr.add] using this
    have ea := addr_lit hsp
    rw [ea, Addr.add_lit] at f2
    exact ⟨a.block, a.off, by rw [← ea], World.block_lt_of_cell? w ⟨a.block, _, none⟩ f2, f1, f2⟩
theorem trod_ints {n : Nat} {T : TypeId} {fs : Array Field} (hT : Try.prog.underlying T = some (.struct fs)) (hc : Try.prog.cellsOf T = n) (hfs : ∀ i, i < n → ∃ f, fs[i]? = some f ∧ f.type = 3 ∧ f.offset = i) {fuel : Nat} {cs : List Value} {x : DataW H × List MemPlace} (h : DataW.trod enc Try.prog w base (fun _ => true) held fuel T cs = some x) :
    cs.length = n ∧ ∀ i, i < n → ∃ y : Int, cs[i]? = some (.int .i64 y) := by
  obtain ⟨xs, m, _, _, hl, hxl, hx⟩ := DataW.trod_struct hT h
  have hc1 : Try.prog.cellsOf 3 = 1 := by kernel_rfl
  rw [hc] at hl
  refine ⟨hl, fun i hi => ?_⟩
  obtain ⟨f, hf, ht, ho⟩ := hfs i hi
  have h1 := hx i f hf
  rw [ht, ho, hc1] at h1
  have h2 : (cs.drop i).take 1 = [cs[i]'(by omega)] := by rw [List.drop_eq_getElem_cons (by omega)]; rfl
  rw [h2] at h1
  have hxi : ∃ y, xs[i]? = some y := ⟨_, List.getElem?_eq_getElem (by rw [hxl]; exact (Array.getElem?_eq_some_iff.1 hf).1)⟩
  obtain ⟨y, hy⟩ := hxi
  rw [hy] at h1
  obtain ⟨p, e, _, _⟩ := DataW.trod_int Try.underlying3 h1
  simp only [List.cons.injEq, and_true] at e
  exact ⟨p, by rw [List.getElem?_eq_getElem (by omega), e]⟩
theorem open_loops {a0 : Option Addr} {len cap : Nat} {fuel : Nat} {x : DataW H × List MemPlace} (h : DataW.trod enc Try.prog w base (fun _ => true) held fuel 23 [.slice a0 len cap] = some x) :
    ∃ l : List Lp, l.length = len ∧ SlL w.heap.size w (.slice a0 len cap) l := by
  rcases open_slice Try.underlying23 h with ⟨hcs, _⟩ | ⟨a, len', cap', m, n, D, Pl, hcs, _, hl, hm, hmm, hx, hel⟩
  · simp only [List.cons.injEq, Value.slice.injEq, and_true] at hcs
    obtain ⟨rfl, rfl, rfl⟩ := hcs
    exact ⟨[], rfl, none, 0, rfl, fun k x hx => by simp at hx⟩
  · simp only [List.cons.injEq, Value.slice.injEq, and_true] at hcs
    obtain ⟨rfl, rfl, rfl⟩ := hcs
    have hmc : m = cap := by simpa using hmm
    have hc5 : Try.prog.cellsOf 54 = 5 := by kernel_rfl
    have hex : ∀ i, i < len → ∃ y : Lp, w.cells? base (a.add (i * 5)) 5 = some (lpv y).toList := fun i hi => by
      obtain ⟨cs', h1, h2⟩ := hel i (by omega)
      obtain ⟨hl5, hint⟩ := trod_ints (n := 5) Try.underlying54 hc5 (fun j hj => by
        match j, hj with
        | 0, _ => exact ⟨_, rfl, rfl, rfl⟩
        | 1, _ => exact ⟨_, rfl, rfl, rfl⟩
        | 2, _ => exact ⟨_, rfl, rfl, rfl⟩
        | 3, _ => exact ⟨_, rfl, rfl, rfl⟩
        | 4, _ => exact ⟨_, rfl, rfl, rfl⟩) h2
      obtain ⟨c0, e0⟩ := hint 0 (by omega)
      obtain ⟨c1, e1⟩ := hint 1 (by omega)
      obtain ⟨c2, e2⟩ := hint 2 (by omega)
      obtain ⟨c3, e3⟩ := hint 3 (by omega)
      obtain ⟨c4, e4⟩ := hint 4 (by omega)
      rw [hc5] at h1
      match cs', hl5 with
      | [d0, d1, d2, d3, d4], _ =>
        simp only [List.getElem?_cons_zero, List.getElem?_cons_succ, Option.some.injEq] at e0 e1 e2 e3 e4
        subst e0 e1 e2 e3 e4
        exact ⟨⟨c0, c1, c2, c3, c4⟩, h1⟩
    obtain ⟨f, hf⟩ := choose_lt hex
    refine ⟨(List.range len).map f, by simp, some a, cap, by simp, fun k x hx => ?_⟩
    have hk : k < len := by have := (List.getElem?_eq_some_iff.1 hx).1; simpa using this
    rw [List.getElem?_map, List.getElem?_range hk] at hx
    simp only [Option.map_some, Option.some.injEq] at hx
    subst hx
    have hsp : a.spot = none := by
      obtain ⟨_, _, hh⟩ := World.cells?_some (hf 0 (by omega))
      have h0 : w.cell? (a.add (0 * 5)) = some (.int .i64 (f 0).h) := by simpa [Addr.add, lpv] using hh 0 (by omega)
      have := World.cell?_spot h0
      simpa [Addr.add] using this
    have ea := addr_lit hsp
    have hr := hf k hk
    rw [ea, Addr.add_lit] at hr
    have hr2 := cells_range hr rfl
    refine ⟨a.block, a.off, by rw [← ea], ?_, hr2⟩
    exact World.block_lt_of_cell? w ⟨a.block, _, none⟩ (hr2 0 _ rfl)
theorem trod_tag {fuel : Nat} {cs : List Value} {x : DataW H × List MemPlace} (h : DataW.trod enc Try.prog w base (fun _ => true) held fuel 56 cs = some x) : ∃ t : Tg, cs = (tgv t).toList := by
  have hc3 : Try.prog.cellsOf 56 = 3 := by kernel_rfl
  obtain ⟨hl3, hint⟩ := trod_ints (n := 3) Try.underlying56 hc3 (fun j hj => by
    match j, hj with
    | 0, _ => exact ⟨_, rfl, rfl, rfl⟩
    | 1, _ => exact ⟨_, rfl, rfl, rfl⟩
    | 2, _ => exact ⟨_, rfl, rfl, rfl⟩) h
  obtain ⟨c0, e0⟩ := hint 0 (by omega)
  obtain ⟨c1, e1⟩ := hint 1 (by omega)
  obtain ⟨c2, e2⟩ := hint 2 (by omega)
  match cs, hl3 with
  | [d0, d1, d2], _ =>
    simp only [List.getElem?_cons_zero, List.getElem?_cons_succ, Option.some.injEq] at e0 e1 e2
    subst e0 e1 e2
    exact ⟨⟨c0, c1, c2⟩, rfl⟩
theorem trod_tags {n : Nat} {T : TypeId} (hT : Try.prog.underlying T = some (.array n 56)) (hc : Try.prog.cellsOf T = n * 3) {fuel : Nat} {cs : List Value} {x : DataW H × List MemPlace} (h : DataW.trod enc Try.prog w base (fun _ => true) held fuel T cs = some x) :
    ∃ f : Nat → Tg, cs.length = n * 3 ∧ ∀ i, i < n → (cs.drop (i * 3)).take 3 = (tgv (f i)).toList := by
  obtain ⟨xs, m, _, _, hl, hxl, hx⟩ := DataW.trod_array hT h
  have hc3 : Try.prog.cellsOf 56 = 3 := by kernel_rfl
  rw [hc3] at hx
  have hex : ∀ i, i < n → ∃ t : Tg, (cs.drop (i * 3)).take 3 = (tgv t).toList := fun i hi => by
    have h1 := hx i hi
    obtain ⟨y, hy⟩ : ∃ y, xs[i]? = some y := ⟨_, List.getElem?_eq_getElem (by omega)⟩
    rw [hy] at h1
    exact trod_tag h1
  obtain ⟨f, hf⟩ := choose_lt hex
  exact ⟨f, by rw [hl, hc], hf⟩
theorem open_con3 {a0 : Option Addr} {len cap : Nat} {fuel : Nat} {x : DataW H × List MemPlace} (h : DataW.trod enc Try.prog w base (fun _ => true) held fuel 59 [.slice a0 len cap] = some x) :
    ∃ l : List C3, l.length = len ∧ SlC w.heap.size w (.slice a0 len cap) l := by
  rcases open_slice Try.underlying59 h with ⟨hcs, _⟩ | ⟨a, len', cap', m, n, D, Pl, hcs, _, hl, hm, hmm, hx, hel⟩
  · simp only [List.cons.injEq, Value.slice.injEq, and_true] at hcs
    obtain ⟨rfl, rfl, rfl⟩ := hcs
    exact ⟨[], rfl, none, 0, rfl, fun k x hx => by simp at hx⟩
  · simp only [List.cons.injEq, Value.slice.injEq, and_true] at hcs
    obtain ⟨rfl, rfl, rfl⟩ := hcs
    have hmc : m = cap := by simpa using hmm
    have hc3 : Try.prog.cellsOf 63 = 3 := by kernel_rfl
    have hex : ∀ i, i < len → ∃ y : C3, w.cells? base (a.add (i * 3)) 3 = some (c3v y).toList := fun i hi => by
      obtain ⟨cs', h1, h2⟩ := hel i (by omega)
      obtain ⟨hl3, hint⟩ := trod_ints (n := 3) Try.underlying63 hc3 (fun j hj => by
        match j, hj with
        | 0, _ => exact ⟨_, rfl, rfl, rfl⟩
        | 1, _ => exact ⟨_, rfl, rfl, rfl⟩
        | 2, _ => exact ⟨_, rfl, rfl, rfl⟩) h2
      obtain ⟨c0, e0⟩ := hint 0 (by omega)
      obtain ⟨c1, e1⟩ := hint 1 (by omega)
      obtain ⟨c2, e2⟩ := hint 2 (by omega)
      rw [hc3] at h1
      match cs', hl3 with
      | [d0, d1, d2], _ =>
        simp only [List.getElem?_cons_zero, List.getElem?_cons_succ, Option.some.injEq] at e0 e1 e2
        subst e0 e1 e2
        exact ⟨⟨c0, c1, c2⟩, h1⟩
    obtain ⟨f, hf⟩ := choose_lt hex
    refine ⟨(List.range len).map f, by simp, some a, cap, by simp, fun k x hx => ?_⟩
    have hk : k < len := by have := (List.getElem?_eq_some_iff.1 hx).1; simpa using this
    rw [List.getElem?_map, List.getElem?_range hk] at hx
    simp only [Option.map_some, Option.some.injEq] at hx
    subst hx
    have hsp : a.spot = none := by
      obtain ⟨_, _, hh⟩ := World.cells?_some (hf 0 (by omega))
      have h0 : w.cell? (a.add (0 * 3)) = some (.int .i64 (f 0).i) := by simpa [Addr.add, c3v] using hh 0 (by omega)
      have := World.cell?_spot h0
      simpa [Addr.add] using this
    have ea := addr_lit hsp
    have hr := hf k hk
    rw [ea, Addr.add_lit] at hr
    have hr2 := cells_range hr rfl
    exact ⟨a.block, a.off, by rw [← ea], World.block_lt_of_cell? w ⟨a.block, _, none⟩ (hr2 0 _ rfl), hr2 0 _ rfl, hr2 1 _ rfl, hr2 2 _ rfl⟩
theorem trod_claim {fuel : Nat} {cs : List Value} {x : DataW H × List MemPlace} (h : DataW.trod enc Try.prog w base (fun _ => true) held fuel 61 cs = some x) (hz : ∀ n ∈ x.1.weights Try.prog 61, n ≤ reachBytes) :
    ∃ (c : Cl) (v : Value), cs = (bx (.bool c.d) c.f v).toList ∧ SlC w.heap.size w v c.l ∧ c.l.length ≤ 140737488351232 := by
  obtain ⟨xs, n, _, hxe, hl, hxl, hx⟩ := DataW.trod_struct Try.underlying61 h
  have hc : Try.prog.cellsOf 61 = 128 := by kernel_rfl
  have hcb : Try.prog.cellsOf 4 = 1 := by kernel_rfl
  have hcr : Try.prog.cellsOf 57 = 30 := by kernel_rfl
  have hcs : Try.prog.cellsOf 58 = 96 := by kernel_rfl
  have hcc : Try.prog.cellsOf 59 = 1 := by kernel_rfl
  rw [hc] at hl
  have gx : ∀ j : Nat, j < 4 → ∃ y, xs[j]? = some y := fun j hj => ⟨_, List.getElem?_eq_getElem (by rw [hxl]; exact hj)⟩
  obtain ⟨y0, g0⟩ := gx 0 (by omega)
  obtain ⟨y1, g1⟩ := gx 1 (by omega)
  obtain ⟨y2, g2⟩ := gx 2 (by omega)
  obtain ⟨y3, g3⟩ := gx 3 (by omega)
  have x0 : DataW.trod enc Try.prog w base (fun _ => true) held n 4 ((cs.drop 0).take (Try.prog.cellsOf 4)) = xs[0]? := hx 0 _ rfl
  have x1 : DataW.trod enc Try.prog w base (fun _ => true) held n 57 ((cs.drop 1).take (Try.prog.cellsOf 57)) = xs[1]? := hx 1 _ rfl
  have x2 : DataW.trod enc Try.prog w base (fun _ => true) held n 58 ((cs.drop 31).take (Try.prog.cellsOf 58)) = xs[2]? := hx 2 _ rfl
  have x3 : DataW.trod enc Try.prog w base (fun _ => true) held n 59 ((cs.drop 127).take (Try.prog.cellsOf 59)) = xs[3]? := hx 3 _ rfl
  rw [hcb, g0] at x0
  rw [hcr, g1] at x1
  rw [hcs, g2] at x2
  rw [hcc, g3] at x3
  obtain ⟨d, e0, _⟩ := DataW.trod_bool Try.underlying4 x0
  obtain ⟨f1, l1, e1⟩ := trod_tags Try.underlying57 (by rw [hcr]) x1
  obtain ⟨f2, l2, e2⟩ := trod_tags Try.underlying58 (by rw [hcs]) x2
  obtain ⟨v, ev⟩ : ∃ v, (cs.drop 127).take 1 = [v] := by
    rw [List.drop_eq_getElem_cons (by omega)]
    exact ⟨_, rfl⟩
  rw [ev] at x3
  obtain ⟨a0, len, cap, rfl⟩ : ∃ a n c, v = .slice a n c := by
    rcases open_slice Try.underlying59 x3 with ⟨hcs, _⟩ | ⟨a, len', cap', m, n, D, Pl, hcs, _⟩
    · simp only [List.cons.injEq, and_true] at hcs
      exact ⟨_, _, _, hcs⟩
    · simp only [List.cons.injEq, and_true] at hcs
      exact ⟨_, _, _, hcs⟩
  have hb : len ≤ 140737488351232 := by
    rcases open_slice Try.underlying59 x3 with ⟨hcs, _⟩ | ⟨a, len', cap', m, n', D, Pl, hcs, _, _, _, _, hd, _⟩
    · simp only [List.cons.injEq, Value.slice.injEq, and_true] at hcs
      omega
    · simp only [List.cons.injEq, Value.slice.injEq, and_true] at hcs
      have hw := hz ((len' + (m - len')) * Try.prog.bytesOf 63) (by
        rw [hxe]
        simp only [DataW.weights, Try.underlying61]
        refine DataW.weights_mem_each (j := 3) (t := 59) (d := y3.1) rfl (by rw [List.getElem?_map, g3]; rfl) _ ?_
        rw [hd]
        simp [DataW.weights, Try.underlying59])
      rw [show Try.prog.bytesOf 63 = 24 by kernel_rfl] at hw
      have hr : reachBytes = 140737488351232 := rfl
      rw [hr] at hw
      omega
  obtain ⟨l, hll, hsl⟩ := open_con3 x3
  refine ⟨⟨d, fun k => if k < 10 then f1 k else f2 (k - 10), l⟩, .slice a0 len cap, ?_, hsl, by show l.length ≤ _; omega⟩
  apply List.ext_getElem?
  intro j
  refine Eq.trans ?_ Array.getElem?_toList.symm
  rw [bx_at]
  by_cases h0 : j = 0
  · subst h0
    rw [if_pos rfl]
    exact seg_get e0 0 (by omega)
  · rw [if_neg h0]
    by_cases h1 : j < 31
    · rw [if_pos (by omega)]
      dsimp only
      rw [if_pos (by omega)]
      have h2 := seg_get (e1 ((j - 1) / 3) (by omega)) ((j - 1) % 3) (by omega)
      rw [List.getElem?_take, if_pos (by omega), List.getElem?_drop, show 1 + ((j - 1) / 3 * 3 + (j - 1) % 3) = j by omega] at h2
      rw [h2]
      exact tgv_get _ (by omega)
    · by_cases h2 : j < 127
      · rw [if_pos h2]
        dsimp only
        rw [if_neg (by omega)]
        have h3 := seg_get (e2 ((j - 31) / 3) (by omega)) ((j - 31) % 3) (by omega)
        rw [List.getElem?_take, if_pos (by omega), List.getElem?_drop, show 31 + ((j - 31) / 3 * 3 + (j - 31) % 3) = j by omega] at h3
        rw [h3, show (j - 1) / 3 - 10 = (j - 31) / 3 by omega, show (j - 1) % 3 = (j - 31) % 3 by omega]
        exact tgv_get _ (by omega)
      · rw [if_neg h2]
        by_cases h4 : j = 127
        · subst h4
          rw [if_pos rfl]
          exact seg_get ev 0 (by omega)
        · rw [if_neg h4, List.getElem?_eq_none (by omega)]
theorem open_claims {a0 : Option Addr} {len cap : Nat} {fuel : Nat} {x : DataW H × List MemPlace} (h : DataW.trod enc Try.prog w base (fun _ => true) held fuel 24 [.slice a0 len cap] = some x) (hz : ∀ n ∈ x.1.weights Try.prog 24, n ≤ reachBytes) :
    ∃ l : List Cl, l.length = len ∧ SlCl w.heap.size w (.slice a0 len cap) l ∧ ∀ c ∈ l, c.l.length ≤ 140737488351232 := by
  rcases open_slice Try.underlying24 h with ⟨hcs, _⟩ | ⟨a, len', cap', m, n, D, Pl, hcs, _, hl, hm, hmm, hx, hel⟩
  · simp only [List.cons.injEq, Value.slice.injEq, and_true] at hcs
    obtain ⟨rfl, rfl, rfl⟩ := hcs
    exact ⟨[], rfl, ⟨none, 0, rfl, fun k x hx => by simp at hx⟩, fun c hc => by cases hc⟩
  · simp only [List.cons.injEq, Value.slice.injEq, and_true] at hcs
    obtain ⟨rfl, rfl, rfl⟩ := hcs
    have hmc : m = cap := by simpa using hmm
    have hc5 : Try.prog.cellsOf 61 = 128 := by kernel_rfl
    have hex : ∀ i, i < len → ∃ y : Cl × Value, w.cells? base (a.add (i * 128)) 128 = some (bx (.bool y.1.d) y.1.f y.2).toList ∧ SlC w.heap.size w y.2 y.1.l ∧ y.1.l.length ≤ 140737488351232 := fun i hi => by
      obtain ⟨cs', h1, h2⟩ := hel i (by omega)
      obtain ⟨c, v, e, hs, hn⟩ := trod_claim h2 (fun k hk => hz k (by
        rw [hx]
        simp only [DataW.weights, Try.underlying24]
        refine List.mem_cons_of_mem _ (List.mem_append_left _ ?_)
        exact weights_all (j := i) (by rw [List.getElem?_map, List.getElem?_range hi]; rfl) k hk))
      rw [hc5] at h1
      subst e
      exact ⟨⟨c, v⟩, h1, hs, hn⟩
    obtain ⟨f, hf⟩ := choose_lt hex
    refine ⟨(List.range len).map fun i => (f i).1, by simp, ⟨some a, cap, by simp, fun k x hx => ?_⟩, fun c hc => ?_⟩
    · have hk : k < len := by have := (List.getElem?_eq_some_iff.1 hx).1; simpa using this
      rw [List.getElem?_map, List.getElem?_range hk] at hx
      simp only [Option.map_some, Option.some.injEq] at hx
      subst hx
      have hsp : a.spot = none := by
        obtain ⟨_, _, hh⟩ := World.cells?_some (hf 0 (by omega)).1
        have h1 : (bx (.bool (f 0).1.d) (f 0).1.f (f 0).2).toList[0]? = some (.bool (f 0).1.d) := by rw [Array.getElem?_toList]; exact bx_zero _ _ _
        have h0 : w.cell? (a.add (0 * 128)) = some (.bool (f 0).1.d) := by
          have := hh 0 (by omega)
          rw [h1] at this
          simpa [Addr.add] using this
        have := World.cell?_spot h0
        simpa [Addr.add] using this
      have ea := addr_lit hsp
      obtain ⟨hr, hs, _⟩ := hf k hk
      rw [ea, Addr.add_lit] at hr
      have hr2 := cells_range hr rfl
      refine ⟨a.block, a.off, (f k).2, by rw [← ea], ?_, hr2, hs⟩
      exact World.block_lt_of_cell? w ⟨a.block, _, none⟩ (hr2 0 (.bool (f k).1.d) (by rw [Array.getElem?_toList]; exact bx_zero _ _ _))
    · rw [List.mem_map] at hc
      obtain ⟨i, hi, rfl⟩ := hc
      exact (hf i (List.mem_range.1 hi)).2.2
theorem open_deed {base' : Nat} {v : Value} {d : DataW H} {p : List MemPlace} (hv : ∃ fuel, DataW.trod enc Try.prog w base (fun _ => true) held fuel 26 v.cells.toList = some (d, p)) (hval : Value.okWide Try.prog w .any base' 26 v) (hz : ∀ n ∈ d.weights Try.prog 26, n ≤ reachBytes) :
    ∃ (al : Option Addr) (nl cl : Nat) (ac : Option Addr) (nc cc : Nat) (e : Dd), v = .agg #[.slice al nl cl, .slice ac nc cc] ∧ SlD w.heap.size w (.slice al nl cl) (.slice ac nc cc) e := by
  obtain ⟨cs, rfl, hsz⟩ := okWide_struct Try.underlying26 hval
  obtain ⟨fuel, hf⟩ := hv
  obtain ⟨y0, y1, n, hxe, hl, h0, h1⟩ := trod_struct2 Try.underlying26 hf
  have hc : Try.prog.cellsOf 26 = 2 := by kernel_rfl
  have hc1 : Try.prog.cellsOf 23 = 1 := by kernel_rfl
  have hc2 : Try.prog.cellsOf 24 = 1 := by kernel_rfl
  simp only [Value.cells] at hl h0 h1
  rw [hc] at hl
  obtain ⟨l⟩ := cs
  simp only at hl h0 h1
  match l, hl with
  | [c0, c1], _ =>
    simp only [hc1, hc2, List.drop_succ_cons, List.drop_zero, List.take_succ_cons, List.take_zero] at h0 h1
    obtain ⟨a, n0, p0, rfl⟩ : ∃ a n c, c0 = .slice a n c := by
      rcases open_slice Try.underlying23 h0 with ⟨hcs, _⟩ | ⟨a, len', cap', m, n, D, Pl, hcs, _⟩
      · simp only [List.cons.injEq, and_true] at hcs
        exact ⟨_, _, _, hcs⟩
      · simp only [List.cons.injEq, and_true] at hcs
        exact ⟨_, _, _, hcs⟩
    obtain ⟨a', n1, p1, rfl⟩ : ∃ a n c, c1 = .slice a n c := by
      rcases open_slice Try.underlying24 h1 with ⟨hcs, _⟩ | ⟨a, len', cap', m, n, D, Pl, hcs, _⟩
      · simp only [List.cons.injEq, and_true] at hcs
        exact ⟨_, _, _, hcs⟩
      · simp only [List.cons.injEq, and_true] at hcs
        exact ⟨_, _, _, hcs⟩
    simp only [Prod.mk.injEq] at hxe
    obtain ⟨rfl, _⟩ := hxe
    have hw0 : ∀ k ∈ y0.1.weights Try.prog 23, k ≤ reachBytes := fun k hk => hz k (by
      simp only [DataW.weights, Try.underlying26]
      exact DataW.weights_mem_each (j := 0) (t := 23) (d := y0.1) rfl rfl k hk)
    have hw1 : ∀ k ∈ y1.1.weights Try.prog 24, k ≤ reachBytes := fun k hk => hz k (by
      simp only [DataW.weights, Try.underlying26]
      exact DataW.weights_mem_each (j := 1) (t := 24) (d := y1.1) rfl rfl k hk)
    obtain ⟨ls, hln, hls⟩ := open_loops h0
    obtain ⟨cs, hcn, hcs, hnb⟩ := open_claims h1 hw1
    have b0 : n0 ≤ 140737488351232 := by
      rcases open_slice Try.underlying23 h0 with ⟨hcs, _⟩ | ⟨a, len', cap', m, n', D, Pl, hcs, _, _, _, _, hd, _⟩
      · simp only [List.cons.injEq, Value.slice.injEq, and_true] at hcs
        omega
      · simp only [List.cons.injEq, Value.slice.injEq, and_true] at hcs
        have hw := hw0 ((len' + (m - len')) * Try.prog.bytesOf 54) (by rw [hd]; simp [DataW.weights, Try.underlying23])
        rw [show Try.prog.bytesOf 54 = 40 by kernel_rfl] at hw
        have hr : reachBytes = 140737488351232 := rfl
        rw [hr] at hw
        omega
    have b1 : n1 ≤ 140737488351232 := by
      rcases open_slice Try.underlying24 h1 with ⟨hcs, _⟩ | ⟨a, len', cap', m, n', D, Pl, hcs, _, _, _, _, hd, _⟩
      · simp only [List.cons.injEq, Value.slice.injEq, and_true] at hcs
        omega
      · simp only [List.cons.injEq, Value.slice.injEq, and_true] at hcs
        have hw := hw1 ((len' + (m - len')) * Try.prog.bytesOf 61) (by rw [hd]; simp [DataW.weights, Try.underlying24])
        rw [show Try.prog.bytesOf 61 = 1040 by kernel_rfl] at hw
        have hr : reachBytes = 140737488351232 := rfl
        rw [hr] at hw
        omega
    exact ⟨a, n0, p0, a', n1, p1, ⟨ls, cs⟩, rfl, hls, hcs, by show ls.length ≤ _; omega, by show cs.length ≤ _; omega, hnb⟩
end
end Go.Proofs.Ytfdjdpbiccclfaa
namespace Go.Proofs.Ytfdjdpbiccclfaa
open Go Go.RowKit Go.Wr
open Go.ChangeShapes Go.WideShapes Go.ChangeAt Go.Deep
set_option maxHeartbeats 4000000
set_option maxRecDepth 100000
theorem EncP.out' {d : Dd} {w w' : World} {e : Ending} (h : EncP d w e w') : Below w.heap.size w w' ∧ ∃ v, e = .returned (.tuple #[v, .int .i64 (encE d)]) ∧ SlBy w'.heap.size w' v (encD d) := by
  obtain ⟨b, v, e, ho⟩ := h
  exact ⟨b, v, e, SlBy.of_own ho (encD_256 d)⟩
theorem SlBy.drew {w : World} {v : Value} {l : List Nat} (h : SlBy w.heap.size w v l) : SlBy w.drew.heap.size w.drew v l := h.up ⟨rfl, rfl, rfl, Nat.le_refl _, fun _ _ => rfl⟩
theorem SlD.drew {w : World} {v v' : Value} {d : Dd} (h : SlD w.heap.size w v v' d) : SlD w.drew.heap.size w.drew v v' d := h.up ⟨rfl, rfl, rfl, Nat.le_refl _, fun _ _ => rfl⟩
theorem unlike_ok (w : World) (vl vc : Value) (d : Dd) (h : SlD w.heap.size w vl vc d) (vl' vc' : Value) (x : Dd) (h' : SlD w.heap.size w vl' vc' x) :
    Calls Try.prog 9 #[.agg #[vl, vc], .agg #[vl', vc']] w fun e w' => e = .returned (.bool true) ∧ Below w.heap.size w w' := by
  obtain ⟨al, cl, hvl, _⟩ := h.ls
  obtain ⟨ac, cc, hvc, _⟩ := h.cs
  obtain ⟨al', cl', hvl', _⟩ := h'.ls
  obtain ⟨ac', cc', hvc', _⟩ := h'.cs
  subst hvl hvc hvl' hvc'
  have H := Lib.hid h
  have H' := Lib.hid h'
  clear h h'
  go_enter Try.func9, Try.ntmps9
  go_upto_region 1 with (fail)
  generalize hW : (w.alloc (.cells #[.slice al d.ls.length cl, .slice ac d.cs.length cc] 26)).alloc (.cells #[.slice al' x.ls.length cl', .slice ac' x.cs.length cc'] 26) = W
  have bW : Below w.heap.size w W := by rw [← hW]; exact bAl (bAl (bRefl w) _) _
  have P0 : Blk W w.heap.size 26 #[.slice al d.ls.length cl, .slice ac d.cs.length cc] := by rw [← hW]; exact (Blk.new _ _ _).alloc _
  have Q0 : Blk W (w.heap.size + 1) 26 #[.slice al' x.ls.length cl', .slice ac' x.cs.length cc'] := by rw [← hW]; exact Blk.new_at _ _ (by simp)
  have H0 := Lib.hid (H.out.up bW)
  have H0' := Lib.hid (H'.out.up bW)
  clear hW H H'
  go_wp2_with fail
  refine (known_ok _).mono ?_
  rintro e w1 ⟨rfl, b1⟩
  have H1 := Lib.hid (H0.out.up b1)
  have H1' := Lib.hid (H0'.out.up b1)
  have P1 := P0.below b1 P0.lt
  have Q1 := Q0.below b1 Q0.lt
  have t1 := bThen bW b1
  have c0 := P1.cell 0
  have c1 := P1.cell 1
  simp only [List.getElem?_toArray, List.getElem?_cons_zero, List.getElem?_cons_succ] at c0 c1
  have HP1 := Lib.hid P1
  have HQ1 := Lib.hid Q1
  clear H0 H0' P0 Q0 bW b1 P1 Q1
  go_wp2_with fail
  refine (encode_ok _ _ _ d H1.out).mono ?_
  rintro e w2 hr
  obtain ⟨b2, v1, rfl, hs1⟩ := hr.out'
  have H2 := Lib.hid (H1.out.up b2)
  have H2' := Lib.hid (H1'.out.up b2)
  have P2 := HP1.out.below b2 HP1.out.lt
  have Q2 := HQ1.out.below b2 HQ1.out.lt
  have t2 := bThen t1 b2
  have c0 := Q2.cell 0
  have c1 := Q2.cell 1
  simp only [List.getElem?_toArray, List.getElem?_cons_zero, List.getElem?_cons_succ] at c0 c1
  have HP2 := Lib.hid P2
  have HQ2 := Lib.hid Q2
  have HS1 := Lib.hid hs1
  clear hr H1 H1' HP1 HQ1 t1 b2 P2 Q2 hs1
  go_wp2_with fail
  refine (encode_ok _ _ _ x H2'.out).mono ?_
  rintro e w3 hr
  obtain ⟨b3, v2, rfl, hs2⟩ := hr.out'
  have H3 := Lib.hid (H2.out.up b3)
  have H3' := Lib.hid (H2'.out.up b3)
  have P3 := HP2.out.below b3 HP2.out.lt
  have Q3 := HQ2.out.below b3 HQ2.out.lt
  have t3 := bThen t2 b3
  have c0 := P3.cell 0
  have c1 := P3.cell 1
  have d0 := Q3.cell 0
  have d1 := Q3.cell 1
  simp only [List.getElem?_toArray, List.getElem?_cons_zero, List.getElem?_cons_succ] at c0 c1 d0 d1
  have HS1 := Lib.hid (HS1.out.up b3)
  have HS2 := Lib.hid hs2
  clear hr H2 H2' HP2 HQ2 t2 b3 hs2
  obtain ⟨e1, he1⟩ : ∃ n, n = encE d := ⟨_, rfl⟩
  obtain ⟨e2, he2⟩ : ∃ n, n = encE x := ⟨_, rfl⟩
  rw [← he1, ← he2]
  have HE1 := Lib.hid he1
  have HE2 := Lib.hid he2
  clear he1 he2
  by_cases h1 : e1 = 0
  · by_cases h2 : e2 = 0
    · subst h1 h2
      have hi := enc_iff HE1.out.symm HE2.out.symm
      have hI : Hid (decide (encD d = encD x) = sameD d x) := by
        show _ = _
        rw [Bool.eq_iff_iff, decide_eq_true_eq]
        exact hi
      clear hi
      go_upto_region 7 with (fail)
      have HP3 := Lib.hid P3
      have HQ3 := Lib.hid Q3
      obtain ⟨tb, htb⟩ : ∃ t, t = sameD d x := ⟨_, rfl⟩
      rw [← htb] at hI
      have HTB := Lib.hid htb
      clear P3 Q3 htb
      go_region_held3 (fun w' => w'.cell? ⟨w.heap.size, 0, none⟩ = some (.slice al d.ls.length cl) ∧ w'.cell? ⟨w.heap.size, 1, none⟩ = some (.slice ac d.cs.length cc) ∧ w'.cell? ⟨w.heap.size + 1, 0, none⟩ = some (.slice al' x.ls.length cl') ∧ w'.cell? ⟨w.heap.size + 1, 1, none⟩ = some (.slice ac' x.cs.length cc'))
        (go_keep)
        (first
          | (go_at_call 15
             (with_reducible refine (samebytes_ok _ _ _ _ _ (encD d) (encD x) (HS1.out.drew) (HS2.out.drew)).mono ?_)
             rintro e w5 ⟨rfl, rfl⟩
             rw [hI.out])
          | (go_at_call 22
             (with_reducible refine (samedeed_ok _ _ _ _ _ d x H3.out.drew H3'.out.drew).mono ?_)
             rintro e w6 ⟨rfl, b6⟩
             rw [← HTB.out]
             have t6 := bThen t3.drew b6
             have P6 := HP3.out.drew.below b6 HP3.out.drew.lt
             have Q6 := HQ3.out.drew.below b6 HQ3.out.drew.lt
             have c0 : w6.cell? ⟨w.heap.size, 0, none⟩ = some (.slice al d.ls.length cl) := P6.cell 0
             have c1 : w6.cell? ⟨w.heap.size, 1, none⟩ = some (.slice ac d.cs.length cc) := P6.cell 1
             have d0 : w6.cell? ⟨w.heap.size + 1, 0, none⟩ = some (.slice al' x.ls.length cl') := Q6.cell 0
             have d1 : w6.cell? ⟨w.heap.size + 1, 1, none⟩ = some (.slice ac' x.cs.length cc') := Q6.cell 1))
      go_wp2
      go_ret
      exact ⟨rfl, t6⟩
    · have h2' : (e2 != 0) = true := by rw [bne_iff_ne]; exact h2
      subst h1
      clear P3 Q3
      go_wp2_with fail
      (with_reducible refine (samedeed_ok _ _ _ _ _ d x H3.out H3'.out).mono ?_)
      rintro e w6 ⟨rfl, b6⟩
      have t6 := bThen t3 b6
      cases hs : sameD d x with
      | false =>
        go_wp2
        go_ret
        exact ⟨rfl, t6⟩
      | true => exact absurd (HE2.out.trans ((same_congr hs).1.symm.trans HE1.out.symm)) h2
  · have h1' : (e1 != 0) = true := by rw [bne_iff_ne]; exact h1
    clear P3 Q3
    go_wp2_with fail
    (with_reducible refine (samedeed_ok _ _ _ _ _ d x H3.out H3'.out).mono ?_)
    rintro e w6 ⟨rfl, b6⟩
    have t6 := bThen t3 b6
    cases hs : sameD d x with
    | false =>
      go_wp2
      go_ret
      exact ⟨rfl, t6⟩
    | true =>
      have hee : (e1 == e2) = true := by rw [beq_iff_eq]; exact HE1.out.trans ((same_congr hs).1.trans HE2.out.symm)
      go_wp2
      go_ret
      exact ⟨rfl, t6⟩
set_option maxRecDepth 100000 in
theorem deedUnlike_lifted (os : Os) (started : os.Started) (H : Type) (enc : TypeId × Value → H) :
    ReturnsInHanded {} Try.checked os 9 .any (Rows.deedUnlikeSpec.pre6 enc Try.prog Try.f9 Rows.deedUnlikeRow.domain false) (Rows.deedUnlikeSpec.post enc Try.prog Try.f9 false true false false) := by
  refine returnsInHanded_of_change_sized (C := Try.checked) own started (by kernel_rfl) Try.func9
    (ChangeSpec.witness6 (enc := enc) (C := Try.checked) false ⟨#[], #[.agg #[.slice none 0 0, .slice none 0 0], .agg #[.slice none 0 0, .slice none 0 0]], []⟩ 8 (by kernel_rfl) (by kernel_rfl) (by kernel_rfl) (by kernel_rfl)) ?_
  intro W base args ds gs before hval0 hW hcnd hsz _
  have hval : ∀ (j : Nat) t v, Try.f9.params[j]? = some t → args[j]? = some v → Value.okWide Try.prog W .any base t v := hval0
  have hW' := hW
  obtain ⟨p, q, hA0, hV, rfl, hfz, hnd⟩ := hW
  have hA : DataW.TrodAll enc Try.prog W 0 (fun _ => true) true Try.f9.params.toList args.toList ds p := hA0
  rw [Try.params9] at hA hval hsz
  obtain ⟨v0, vs0, d0, ds0, p0, q0, hargs, rfl, rfl, h0, r0⟩ := trodAll_cons hA
  obtain ⟨v1, vs1, d1, ds1, p1, q1, rfl, rfl, rfl, h1, r1⟩ := trodAll_cons r0
  obtain ⟨rfl, rfl, rfl⟩ := trodAll_nil r1
  obtain rfl : args = #[v0, v1] := by cases args; simp_all
  obtain ⟨rfl, rfl⟩ := trodVars_none hV
  have k0 := h0
  have lt0 : ∀ x ∈ p0, x.block < W.heap.size := by obtain ⟨m, hm⟩ := k0; exact DataW.trod_lt m _ _ _ hm
  obtain ⟨al0, nl0, cl0, ac0, nc0, cc0, o0, rfl, g0⟩ := open_deed h0 (hval 0 26 v0 rfl rfl) (fun n hn => of_decide_eq_true (List.all_eq_true.1 hsz n (DataW.weights_mem_each (j := 0) (t := 26) rfl rfl n hn)))
  have k1 := h1
  have lt1 : ∀ x ∈ p1, x.block < W.heap.size := by obtain ⟨m, hm⟩ := k1; exact DataW.trod_lt m _ _ _ hm
  obtain ⟨al1, nl1, cl1, ac1, nc1, cc1, o1, rfl, g1⟩ := open_deed h1 (hval 1 26 v1 rfl rfl) (fun n hn => of_decide_eq_true (List.all_eq_true.1 hsz n (DataW.weights_mem_each (j := 1) (t := 26) rfl rfl n hn)))
  clear hA0 hval0 hval hfz hnd hcnd hA
  refine (unlike_ok W _ _ o0 g0 _ _ o1 g1).mono fun e W' ⟨he, bel⟩ => ?_
  subst he
  exact ⟨_, rfl, _, _, _, [], _, [], hW', trodAll_mk1 (shut_bool Try.underlying4 _), (trodAll_cons_mk (Below.trod laidOut (by kernel_rfl) (of_decide_eq_true (by kernel_rfl)) k0 bel lt0) (trodAll_cons_mk (Below.trod laidOut (by kernel_rfl) (of_decide_eq_true (by kernel_rfl)) k1 bel lt1) trodAll_mk0)), rfl, bel.frame _, fun h => by cases h⟩
theorem DeedUnlike_holds : Rows.DeedUnlikeSaid :=
  OpenClaim.holds_of_wide 9 Try.f9 rfl rfl rfl rfl rfl rfl rfl ⟨rfl, rfl, rfl, rfl, rfl⟩ rfl rfl rfl rfl rfl (by kernel_rfl) Try.func9 (by kernel_rfl)
    (of_decide_eq_true (by kernel_rfl)) (by unfold Func.isWrapper; rw [if_neg (of_decide_eq_false (by kernel_rfl))]; exact ⟨rfl, rfl⟩)
    (fun os started H enc _ => deedUnlike_lifted os started H enc)
#print axioms DeedUnlike_holds
end Go.Proofs.Ytfdjdpbiccclfaa
namespace Go.Proofs.Ytfdjdpbiccclfaa
open Go Go.RowKit Go.Wr
open Go.ChangeShapes Go.WideShapes Go.ChangeAt Go.Deep
set_option maxHeartbeats 4000000
set_option maxRecDepth 100000
theorem encD_err {d : Dd} (h : encE d ≠ 0) : encD d = [] := by
  unfold encD
  rw [if_neg h]
theorem bcells_append (l m : List Nat) : bcells (l ++ m) = bcells l ++ bcells m := List.map_append
theorem bcells_set (l : List Nat) (k x : Nat) : bcells (l.set k x) = (bcells l).set k (.int .u8 (x : Int)) := List.map_set
theorem SlBy.some' {B : Nat} {w : World} {a0 : Option Addr} {n c : Nat} {b : List Nat} (h : SlBy B w (.slice a0 n c) b) (hb : b ≠ []) : ∃ ad, a0 = some ad := by
  obtain ⟨a1, cap, e, h1, h2, hc⟩ := h
  simp only [Value.slice.injEq] at e
  obtain ⟨rfl, rfl, rfl⟩ := e
  obtain ⟨x, hx⟩ : ∃ x, b[0]? = some x := ⟨_, List.getElem?_eq_getElem (List.length_pos_iff.2 hb)⟩
  obtain ⟨bb, off, e, _⟩ := hc 0 x hx
  exact ⟨_, e⟩
theorem tmod_k (a : Int) (L : Nat) (h6 : 6 ≤ L) (h4 : L ≤ 4194304) : ∃ k : Nat, k < L ∧ (wrap64 (a.tmod ↑L + ↑L)).tmod ↑L = (k : Int) := by
  have h1 := Int.tmod_lt_of_pos a (b := (L : Int)) (by omega)
  have h2 := Int.lt_tmod_of_pos a (b := (L : Int)) (by omega)
  have h3 : wrap64 (a.tmod ↑L + ↑L) = a.tmod ↑L + ↑L := by unfold wrap64; omega
  rw [h3]
  have h5 := Int.tmod_nonneg (↑L : Int) (a := a.tmod ↑L + ↑L) (by omega)
  have h7 := Int.tmod_lt_of_pos (a.tmod ↑L + ↑L) (b := (L : Int)) (by omega)
  exact ⟨((a.tmod ↑L + ↑L).tmod ↑L).toNat, by omega, by omega⟩
theorem mix_ne (b : List Nat) (k x y : Nat) (hx : b[k]? = some x) (hy : 0 < y ∧ y < 256) (_ : x < 256) : b.set k ((x + y) % 256) ≠ b := by
  intro e
  have hk := (List.getElem?_eq_some_iff.1 hx).1
  have := congrArg (fun l => l[k]?) e
  simp only [List.getElem?_set_self hk, hx, Option.some.injEq] at this
  omega
theorem set_256 {b : List Nat} (h : ∀ x ∈ b, x < 256) (k x : Nat) (hx : x < 256) : ∀ y ∈ b.set k x, y < 256 := fun y hy => by
  rcases List.mem_or_eq_of_mem_set hy with h1 | h1
  · exact h y h1
  · omega
theorem SlBy.take {B : Nat} {w : World} {a0 : Option Addr} {n c : Nat} {l : List Nat} (h : SlBy B w (.slice a0 n c) l) {k : Nat} (hk : k ≤ n) : SlBy B w (.slice a0 k c) (l.take k) := by
  obtain ⟨a1, c1, e, h1, h2, h3⟩ := h
  simp only [Value.slice.injEq] at e
  obtain ⟨rfl, rfl, rfl⟩ := e
  have hl : (l.take k).length = k := by rw [List.length_take]; omega
  refine ⟨a0, c, by rw [hl], by omega, h2, fun j x hj => ?_⟩
  rw [List.getElem?_take] at hj
  split at hj
  · exact h3 j x hj
  · cases hj
theorem cut_ok (w : World) (vl vc : Value) (d : Dd) (h : SlD w.heap.size w vl vc d) (a : Int) (_ : I64 a) (y : Int) (hy : 0 ≤ y ∧ y < 256) (vm : Value) (m : List Nat) (hm : SlBy w.heap.size w vm m) (hml : m.length ≤ 140737488351232) :
    Calls Try.prog 10 #[.agg #[vl, vc], .int .i64 a, .int .u8 y, vm] w fun e w' => e = .returned (.bool true) ∧ Below w.heap.size w w' := by
  obtain ⟨y, rfl⟩ := Int.eq_ofNat_of_zero_le hy.1
  obtain ⟨al, cl, hvl, _⟩ := h.ls
  obtain ⟨ac, cc, hvc, _⟩ := h.cs
  obtain ⟨am, cm, hvm, hm1, hm2, _⟩ := id hm
  subst hvl hvc hvm
  have H := Lib.hid h
  have HM := Lib.hid hm
  have HML := Lib.hid hml
  have HM1 := Lib.hid (And.intro hm1 hm2)
  clear h hm hml hm1 hm2
  go_enter Try.func10, Try.ntmps10
  go_upto_region 1 with (fail)
  generalize hW : (w.alloc (.cells #[.slice al d.ls.length cl, .slice ac d.cs.length cc] 26)) = W
  have bW : Below w.heap.size w W := by rw [← hW]; exact bAl (bRefl w) _
  have P0 : Blk W w.heap.size 26 #[.slice al d.ls.length cl, .slice ac d.cs.length cc] := by rw [← hW]; exact Blk.new _ _ _
  have H0 := Lib.hid (H.out.up bW)
  have M0 := Lib.hid (HM.out.up bW)
  clear hW H HM
  go_wp2_with fail
  refine (known_ok _).mono ?_
  rintro e w1 ⟨rfl, b1⟩
  have H1 := Lib.hid (H0.out.up b1)
  have M1 := Lib.hid (M0.out.up b1)
  have P1 := P0.below b1 P0.lt
  have t1 := bThen bW b1
  have c0 := P1.cell 0
  have c1 := P1.cell 1
  simp only [List.getElem?_toArray, List.getElem?_cons_zero, List.getElem?_cons_succ] at c0 c1
  have HP1 := Lib.hid P1
  clear H0 M0 P0 bW b1 P1
  go_wp2_with fail
  refine (encode_ok _ _ _ d H1.out).mono ?_
  rintro e w2 ⟨b2, v1, rfl, hown⟩
  have H2 := Lib.hid (H1.out.up b2)
  have M2 := Lib.hid (M1.out.up b2)
  have P2 := HP1.out.below b2 HP1.out.lt
  have t2 := bThen t1 b2
  have HP2 := Lib.hid P2
  clear H1 M1 HP1 t1 b2 P2 c0 c1
  obtain ⟨e1, he1⟩ : ∃ n, n = encE d := ⟨_, rfl⟩
  rw [← he1]
  by_cases h1 : e1 = 0
  · have h0 : encE d = 0 := by rw [← he1]; exact h1
    subst h1
    have h6 := enc_six h0
    have h4 : (encD d).length ≤ 4194304 := by rw [(enc_facts h0).2.1]; exact (enc_facts h0).2.2
    have h256 := encD_256 d
    obtain ⟨b, hb⟩ : ∃ b, b = encD d := ⟨_, rfl⟩
    rw [← hb] at hown h6 h4 h256
    obtain ⟨g, cb, hv1, _⟩ := hown.form (by omega)
    subst hv1
    have HO := Lib.hid hown
    have HS := Lib.hid (SlBy.of_own hown h256)
    have HB := Lib.hid hb
    have H00 := Lib.hid h0
    have H256 := Lib.hid h256
    have hone : ∀ u ∈ bcells m, u.oneCell' = true := fun u hu => by
      obtain ⟨n, _, rfl⟩ := List.mem_map.1 hu
      rfl
    have HONE := Lib.hid hone
    clear hown hb h0 h256 he1 hone
    go_upto_region 9 with (fail)
    obtain ⟨k, hkL, hk⟩ := tmod_k a b.length h6 h4
    rw [hk]
    clear hk
    have hk0 : (0 : Int) ≤ (k : Int) := by omega
    have hkb : (k : Int) ≤ (b.length : Int) := by omega
    have hkl : (k : Int) < (b.length : Int) := by omega
    have hkc : b.length ≤ cb := by
      obtain ⟨_, _, e, h1, _⟩ := HS.out
      simp only [Value.slice.injEq] at e
      omega
    go_wp2_with fail
    have hSk := HS.out.take (k := k) (by omega)
    refine (decode_ok _ _ _ hSk).mono ?_
    rintro e w3 hr
    have hdc : decD (List.take k b) = ((decD (List.take k b)).1, k, 110) := by
      have := dec_cut H00.out (k := k) (by rw [← HB.out]; exact hkL)
      rw [← HB.out] at this
      exact Prod.ext rfl this
    obtain ⟨b3, vd, rfl, hvd⟩ := hr.out' hdc
    obtain ⟨vl3, vc3, cs3, rfl, _, ho3⟩ := hvd
    obtain ⟨al3, cl3, rfl⟩ := own_slice ho3.lp
    obtain ⟨ac3, cc3, rfl⟩ := own_slice ho3.cl
    clear ho3
    have H3 := Lib.hid (H2.out.up b3)
    have M3 := Lib.hid (M2.out.up b3)
    have S3 := Lib.hid (HS.out.up b3)
    have P3 := HP2.out.below b3 HP2.out.lt
    have t3 := bThen t2 b3
    have hk0' : ((k : Int) != k) = false := by simp
    have HP3 := Lib.hid P3
    clear hr H2 M2 HS HO HP2 t2 b3 P3 hdc hSk
    go_upto_region 12 with (fail)
    generalize hW4 : w3.alloc _ = w4
    have b4 : Below w3.heap.size w3 w4 := by rw [← hW4]; exact bAl (bRefl w3) _
    have H4 := Lib.hid (H3.out.up b4)
    have M4 := Lib.hid (M3.out.up b4)
    have S4 := Lib.hid (S3.out.up b4)
    have P4 := HP3.out.below b4 HP3.out.lt
    have t4 := bThen t3 b4
    clear hW4 H3 M3 S3 HP3 t3 b4
    by_cases hy0 : y = 0
    · subst hy0
      clear P4 H4
      by_cases hm0 : m = []
      · have hml0 : ((m.length : Int) == 0) = true := by rw [hm0]; rfl
        go_wp2
        go_ret
        exact ⟨rfl, t4⟩
      · have hmp : 0 < m.length := List.length_pos_iff.2 hm0
        have hml0 : ((m.length : Int) == 0) = false := by rw [beq_eq_false_iff_ne]; omega
        obtain ⟨ad, rfl⟩ := M4.out.some' hm0
        have HM0 := Lib.hid hm0
        clear hm0
        go_wp2_with fail
        refine (copybytes_ok _ _ b S4.out (by omega)).mono ?_
        rintro e w5 ⟨b5, v5, rfl, hown, _⟩
        obtain ⟨g5, c5, rfl, hg5, _⟩ := hown.form (by omega)
        have M5 := Lib.hid (M4.out.up b5)
        obtain ⟨_, _, hnews⟩ := M5.out.news rfl HM0.out
        have HN := Lib.hid hnews
        have H256M := Lib.hid M5.out.lt256
        obtain ⟨i, hi, hz0, hz1, hz2⟩ := info_parts infoU8
        have Hi := Lib.hid hi
        have HO := Lib.hid hown
        have hsz : w4.heap.size ≤ w5.heap.size := b5.size
        have HB5 := Lib.hid b5
        clear hnews hi hown M4 S4 b5 M5
        go_wp2_with (at_builtin; refine wpList_append_own_wide _ rfl _ _ _ rfl w4.heap.size 5 i _ 1 1 Try.underlying28 Hi.out hz0 hz1 hz2 rfl (by omega) _ b.length (bcells b) rfl HO.out ad m.length cm (bcells m) rfl (by rw [bcells_len, Nat.mul_one]) HN.out HONE.out (by have := HML.out; unfold maxLen; omega) (by have := HML.out; omega) hsz ?_; intro v6 w6 hown hgrow hnil)
        have b6 : Below w4.heap.size w4 w6 := HB5.out.grown hgrow hsz (fun g hg => by
          cases hg
          exact hg5)
        rw [← bcells_append, ← List.length_append] at hown
        obtain ⟨g6, c6, rfl, _⟩ := hown.form (by rw [List.length_append]; omega)
        have h256n : ∀ x ∈ b ++ m, x < 256 := fun x hx => (List.mem_append.1 hx).elim (H256.out x) (H256M.out x)
        have S6 := Lib.hid (SlBy.of_own hown h256n)
        have t6 := bThen t4 b6
        clear hown hgrow hnil b6 HB5 t4 HO HN Hi h256n
        go_wp2_with fail
        refine (decode_ok _ _ _ S6.out).mono ?_
        rintro e w7 hr
        have hdm := dec_more H00.out HM0.out
        rw [← HB.out] at hdm
        have hmm := HML.out
        by_cases hbig : 4194304 < (b ++ m).length
        · rw [if_pos hbig] at hdm
          have hdm' : decD (b ++ m) = ((decD (b ++ m)).1, 0, 2) := Prod.ext rfl hdm
          obtain ⟨b7, v7, rfl, _⟩ := hr.out' hdm'
          have t7 := bThen t6 b7
          rw [List.length_append] at hbig
          have hbig' : (4194304 : Int) < (b.length : Int) + (m.length : Int) := by omega
          clear hr hdm hdm' S6 t6 b7 hbig
          go_wp2
          go_ret
          exact ⟨rfl, t7⟩
        · rw [if_neg hbig] at hdm
          have hdm' : decD (b ++ m) = ((decD (b ++ m)).1, b.length, 110) := Prod.ext rfl hdm
          obtain ⟨b7, v7, rfl, _⟩ := hr.out' hdm'
          have t7 := bThen t6 b7
          rw [List.length_append] at hbig
          have hbig' : ¬ (4194304 : Int) < (b.length : Int) + (m.length : Int) := by omega
          have hbb : ((b.length : Int) == (b.length : Int)) = true := by simp
          clear hr hdm hdm' S6 t6 b7 hbig
          go_wp2
          go_ret
          exact ⟨rfl, t7⟩
    · have hyb : ((y : Int) != 0) = true := by rw [bne_iff_ne]; omega
      go_wp2_with fail
      refine (copybytes_ok _ _ b S4.out (by omega)).mono ?_
      rintro e w5 ⟨b5, v5, rfl, hown, _⟩
      obtain ⟨g5, c5, rfl, hg5, _⟩ := hown.form (by omega)
      obtain ⟨x5, hx5⟩ : ∃ x, b[k]? = some x := ⟨_, List.getElem?_eq_getElem hkL⟩
      have hxm := H256.out x5 (List.mem_of_getElem? hx5)
      have hc5 := hown.cellAt k (by omega)
      have hf5 := hown.frozenAt k
      rw [show (bcells b)[k]? = some (.int .u8 (x5 : Int)) by simp [bcells, List.getElem?_map, hx5]] at hc5
      have HP4 := Lib.hid P4
      have HO5 := Lib.hid hown
      have HB5 := Lib.hid b5
      have hsz : w4.heap.size ≤ w5.heap.size := b5.size
      clear P4 b5 hown
      go_upto_region 15 with (fail)
      have hmix : ((x5 : Int) + (y : Int)) % 256 = (((x5 + y) % 256 : Nat) : Int) := by omega
      rw [hmix]
      obtain ⟨hs1, hs2⟩ := HO5.out.stored k (.int .u8 (((x5 + y) % 256 : Nat) : Int))
      rw [← bcells_set] at hs1
      generalize hW6 : w5.setCell _ _ = w6
      rw [hW6] at hs1 hs2
      have hl6 : (b.set k ((x5 + y) % 256)).length = b.length := List.length_set
      have hne := mix_ne b k x5 y hx5 (by omega) hxm
      have h256c := set_256 H256.out k ((x5 + y) % 256) (by omega)
      generalize b.set k ((x5 + y) % 256) = bc at hs1 hl6 hne h256c
      rw [← hl6] at hs1
      have b6 : Below w4.heap.size w4 w6 := HB5.out.grown hs2 hsz (fun g hg => by
          cases hg
          exact hg5)
      have C6 := SlBy.of_own hs1 h256c
      rw [hl6] at C6
      have HC6 := Lib.hid C6
      have H6 := Lib.hid (H4.out.up b6)
      have M6 := Lib.hid (M4.out.up b6)
      have S6 := Lib.hid (S4.out.up b6)
      have P6 := HP4.out.below b6 HP4.out.lt
      have t6 := bThen t4 b6
      have HP6 := Lib.hid P6
      have HNE := Lib.hid hne
      have HCC := Lib.hid h256c
      clear H4 M4 S4 HP4 P6 b6 hs1 hs2 hW6 hg5 hc5 hf5 HO5 HB5 hsz hmix C6 hne h256c t4 hl6
      go_wp2_with fail
      refine (decode_ok _ _ bc HC6.out).mono ?_
      rintro e w7 ⟨b7, vd, rfl, hd⟩
      have hn := dec_len bc HCC.out
      have hby := dec_byte (d := d) HCC.out (by rw [← HB.out]; exact HNE.out)
      obtain ⟨al7, nl7, cl7, ac7, nc7, cc7, rfl, hsd⟩ := isDd_sl hd hn.1 hn.2.1 hn.2.2
      obtain ⟨x, hx⟩ : ∃ x, x = (decD bc).1 := ⟨_, rfl⟩
      obtain ⟨p7, hp7⟩ : ∃ p, p = (decD bc).2.1 := ⟨_, rfl⟩
      obtain ⟨e7, he7⟩ : ∃ p, p = (decD bc).2.2 := ⟨_, rfl⟩
      rw [← hp7, ← he7]
      rw [← hx, ← he7] at hby
      rw [← hx] at hsd
      have H7 := Lib.hid (H6.out.up b7)
      have M7 := Lib.hid (M6.out.up b7)
      have S7 := Lib.hid (S6.out.up b7)
      have P7 := HP6.out.below b7 HP6.out.lt
      have t7 := bThen t6 b7
      have HP7 := Lib.hid P7
      have HSD := Lib.hid hsd
      have HBY := Lib.hid hby
      clear H6 M6 S6 HP6 P7 b7 hn hx hp7 he7 hd hsd hby t6 HC6
      go_upto_region 16 with (fail)
      have HQ8 := Lib.hid (show Blk (w7.alloc (.cells #[.slice al7 nl7 cl7, .slice ac7 nc7 cc7] 26)) w7.heap.size 26 #[.slice al7 nl7 cl7, .slice ac7 nc7 cc7] from Blk.new _ _ _)
      generalize hW8 : w7.alloc _ = w4
      rw [hW8] at HQ8
      have b8 : Below w7.heap.size w7 w4 := by rw [← hW8]; exact bAl (bRefl w7) _
      have H8 := Lib.hid (H7.out.up b8)
      have X8 := Lib.hid (HSD.out.up b8)
      have M8 := Lib.hid (M7.out.up b8)
      have S8 := Lib.hid (S7.out.up b8)
      have P8 := HP7.out.below b8 HP7.out.lt
      have t8 := bThen t7 b8
      have c0 := P8.cell 0
      have c1 := P8.cell 1
      have d0 := HQ8.out.cell 0
      have d1 := HQ8.out.cell 1
      simp only [List.getElem?_toArray, List.getElem?_cons_zero, List.getElem?_cons_succ] at c0 c1 d0 d1
      clear hW8 H7 M7 S7 HP7 t7 b8 P8 HSD HQ8
      by_cases h7 : e7 = 0
      · subst h7
        go_wp2_with fail
        (with_reducible refine (samedeed_ok _ _ _ _ _ d x H8.out X8.out).mono ?_)
        rintro e w4 ⟨rfl, b9⟩
        have hsf : sameD d x = false := by
          cases hs : sameD d x with
          | false => rfl
          | true => exact absurd (by simp [hs]) HBY.out
        rw [hsf]
        have M4 := Lib.hid (M8.out.up b9)
        have S4 := Lib.hid (S8.out.up b9)
        have t4 := bThen t8 b9
        clear M8 S8 H8 X8 t8 b9 c0 c1 d0 d1 hsf
        go_upto_region 18 with (fail)
        by_cases hm0 : m = []
        · have hml0 : ((m.length : Int) == 0) = true := by rw [hm0]; rfl
          go_wp2
          go_ret
          exact ⟨rfl, t4⟩
        · have hmp : 0 < m.length := List.length_pos_iff.2 hm0
          have hml0 : ((m.length : Int) == 0) = false := by rw [beq_eq_false_iff_ne]; omega
          obtain ⟨ad, rfl⟩ := M4.out.some' hm0
          have HM0 := Lib.hid hm0
          clear hm0
          go_wp2_with fail
          refine (copybytes_ok _ _ b S4.out (by omega)).mono ?_
          rintro e w5 ⟨b5, v5, rfl, hown, _⟩
          obtain ⟨g5, c5, rfl, hg5, _⟩ := hown.form (by omega)
          have M5 := Lib.hid (M4.out.up b5)
          obtain ⟨_, _, hnews⟩ := M5.out.news rfl HM0.out
          have HN := Lib.hid hnews
          have H256M := Lib.hid M5.out.lt256
          obtain ⟨i, hi, hz0, hz1, hz2⟩ := info_parts infoU8
          have Hi := Lib.hid hi
          have HO := Lib.hid hown
          have hsz : w4.heap.size ≤ w5.heap.size := b5.size
          have HB5 := Lib.hid b5
          clear hnews hi hown M4 S4 b5 M5
          go_wp2_with (at_builtin; refine wpList_append_own_wide _ rfl _ _ _ rfl w4.heap.size 5 i _ 1 1 Try.underlying28 Hi.out hz0 hz1 hz2 rfl (by omega) _ b.length (bcells b) rfl HO.out ad m.length cm (bcells m) rfl (by rw [bcells_len, Nat.mul_one]) HN.out HONE.out (by have := HML.out; unfold maxLen; omega) (by have := HML.out; omega) hsz ?_; intro v6 w6 hown hgrow hnil)
          have b6 : Below w4.heap.size w4 w6 := HB5.out.grown hgrow hsz (fun g hg => by
            cases hg
            exact hg5)
          rw [← bcells_append, ← List.length_append] at hown
          obtain ⟨g6, c6, rfl, _⟩ := hown.form (by rw [List.length_append]; omega)
          have h256n : ∀ x ∈ b ++ m, x < 256 := fun x hx => (List.mem_append.1 hx).elim (H256.out x) (H256M.out x)
          have S6 := Lib.hid (SlBy.of_own hown h256n)
          have t6 := bThen t4 b6
          clear hown hgrow hnil b6 HB5 t4 HO HN Hi h256n
          go_wp2_with fail
          refine (decode_ok _ _ _ S6.out).mono ?_
          rintro e w7 hr
          have hdm := dec_more H00.out HM0.out
          rw [← HB.out] at hdm
          have hmm := HML.out
          by_cases hbig : 4194304 < (b ++ m).length
          · rw [if_pos hbig] at hdm
            have hdm' : decD (b ++ m) = ((decD (b ++ m)).1, 0, 2) := Prod.ext rfl hdm
            obtain ⟨b7, v7, rfl, _⟩ := hr.out' hdm'
            have t7 := bThen t6 b7
            rw [List.length_append] at hbig
            have hbig' : (4194304 : Int) < (b.length : Int) + (m.length : Int) := by omega
            clear hr hdm hdm' S6 t6 b7 hbig
            go_wp2
            go_ret
            exact ⟨rfl, t7⟩
          · rw [if_neg hbig] at hdm
            have hdm' : decD (b ++ m) = ((decD (b ++ m)).1, b.length, 110) := Prod.ext rfl hdm
            obtain ⟨b7, v7, rfl, _⟩ := hr.out' hdm'
            have t7 := bThen t6 b7
            rw [List.length_append] at hbig
            have hbig' : ¬ (4194304 : Int) < (b.length : Int) + (m.length : Int) := by omega
            have hbb : ((b.length : Int) == (b.length : Int)) = true := by simp
            clear hr hdm hdm' S6 t6 b7 hbig
            go_wp2
            go_ret
            exact ⟨rfl, t7⟩
      · have h7' : (e7 == 0) = false := by rw [beq_eq_false_iff_ne]; exact h7
        have M4 := M8
        have S4 := S8
        have t4 := t8
        clear M8 S8 H8 X8 t8 c0 c1 d0 d1
        go_upto_region 18 with (fail)
        by_cases hm0 : m = []
        · have hml0 : ((m.length : Int) == 0) = true := by rw [hm0]; rfl
          go_wp2
          go_ret
          exact ⟨rfl, t4⟩
        · have hmp : 0 < m.length := List.length_pos_iff.2 hm0
          have hml0 : ((m.length : Int) == 0) = false := by rw [beq_eq_false_iff_ne]; omega
          obtain ⟨ad, rfl⟩ := M4.out.some' hm0
          have HM0 := Lib.hid hm0
          clear hm0
          go_wp2_with fail
          refine (copybytes_ok _ _ b S4.out (by omega)).mono ?_
          rintro e w5 ⟨b5, v5, rfl, hown, _⟩
          obtain ⟨g5, c5, rfl, hg5, _⟩ := hown.form (by omega)
          have M5 := Lib.hid (M4.out.up b5)
          obtain ⟨_, _, hnews⟩ := M5.out.news rfl HM0.out
          have HN := Lib.hid hnews
          have H256M := Lib.hid M5.out.lt256
          obtain ⟨i, hi, hz0, hz1, hz2⟩ := info_parts infoU8
          have Hi := Lib.hid hi
          have HO := Lib.hid hown
          have hsz : w4.heap.size ≤ w5.heap.size := b5.size
          have HB5 := Lib.hid b5
          clear hnews hi hown M4 S4 b5 M5
          go_wp2_with (at_builtin; refine wpList_append_own_wide _ rfl _ _ _ rfl w4.heap.size 5 i _ 1 1 Try.underlying28 Hi.out hz0 hz1 hz2 rfl (by omega) _ b.length (bcells b) rfl HO.out ad m.length cm (bcells m) rfl (by rw [bcells_len, Nat.mul_one]) HN.out HONE.out (by have := HML.out; unfold maxLen; omega) (by have := HML.out; omega) hsz ?_; intro v6 w6 hown hgrow hnil)
          have b6 : Below w4.heap.size w4 w6 := HB5.out.grown hgrow hsz (fun g hg => by
            cases hg
            exact hg5)
          rw [← bcells_append, ← List.length_append] at hown
          obtain ⟨g6, c6, rfl, _⟩ := hown.form (by rw [List.length_append]; omega)
          have h256n : ∀ x ∈ b ++ m, x < 256 := fun x hx => (List.mem_append.1 hx).elim (H256.out x) (H256M.out x)
          have S6 := Lib.hid (SlBy.of_own hown h256n)
          have t6 := bThen t4 b6
          clear hown hgrow hnil b6 HB5 t4 HO HN Hi h256n
          go_wp2_with fail
          refine (decode_ok _ _ _ S6.out).mono ?_
          rintro e w7 hr
          have hdm := dec_more H00.out HM0.out
          rw [← HB.out] at hdm
          have hmm := HML.out
          by_cases hbig : 4194304 < (b ++ m).length
          · rw [if_pos hbig] at hdm
            have hdm' : decD (b ++ m) = ((decD (b ++ m)).1, 0, 2) := Prod.ext rfl hdm
            obtain ⟨b7, v7, rfl, _⟩ := hr.out' hdm'
            have t7 := bThen t6 b7
            rw [List.length_append] at hbig
            have hbig' : (4194304 : Int) < (b.length : Int) + (m.length : Int) := by omega
            clear hr hdm hdm' S6 t6 b7 hbig
            go_wp2
            go_ret
            exact ⟨rfl, t7⟩
          · rw [if_neg hbig] at hdm
            have hdm' : decD (b ++ m) = ((decD (b ++ m)).1, b.length, 110) := Prod.ext rfl hdm
            obtain ⟨b7, v7, rfl, _⟩ := hr.out' hdm'
            have t7 := bThen t6 b7
            rw [List.length_append] at hbig
            have hbig' : ¬ (4194304 : Int) < (b.length : Int) + (m.length : Int) := by omega
            have hbb : ((b.length : Int) == (b.length : Int)) = true := by simp
            clear hr hdm hdm' S6 t6 b7 hbig
            go_wp2
            go_ret
            exact ⟨rfl, t7⟩
  · have hl : encD d = [] := encD_err (by rw [← he1]; exact h1)
    rw [hl] at hown
    obtain ⟨an, cn, hv1⟩ := own_slice hown
    subst hv1
    have hne : (e1 != 0) = true := by rw [bne_iff_ne]; exact h1
    clear he1 hown
    simp only [List.length_nil]
    go_wp2
    go_ret
    exact ⟨rfl, t2⟩
theorem u8_of_wf {n : Int} (h : (Lit.int .u8 n).wf = true) : 0 ≤ n ∧ n < 256 := by
  simp [Lit.wf, IntKind.min, IntKind.max, IntKind.signed, IntKind.bits] at h
  omega
theorem open_byz {H : Type} {enc : TypeId × Value → H} {w : World} {base : Nat} {held : Bool} {a0 : Option Addr} {len cap : Nat} {fuel : Nat} {x : DataW H × List MemPlace} (h : DataW.trod enc Try.prog w base (fun _ => true) held fuel 28 [.slice a0 len cap] = some x) (hz : ∀ n ∈ x.1.weights Try.prog 28, n ≤ reachBytes) :
    ∃ b, SlBy w.heap.size w (.slice a0 len cap) b ∧ b.length ≤ 140737488351232 := by
  obtain ⟨b, hb⟩ := open_by h
  refine ⟨b, hb, ?_⟩
  have hl : b.length = len := by
    obtain ⟨_, _, e, _⟩ := hb
    simp only [Value.slice.injEq] at e
    omega
  rw [hl]
  rcases open_slice Try.underlying28 h with ⟨hcs, _⟩ | ⟨a, len', cap', m, n', D, Pl, hcs, _, _, _, _, hd, _⟩
  · simp only [List.cons.injEq, Value.slice.injEq, and_true] at hcs
    omega
  · simp only [List.cons.injEq, Value.slice.injEq, and_true] at hcs
    have hw := hz ((len' + (m - len')) * Try.prog.bytesOf 5) (by rw [hd]; simp [DataW.weights, Try.underlying28])
    rw [show Try.prog.bytesOf 5 = 1 by kernel_rfl] at hw
    have hr : reachBytes = 140737488351232 := rfl
    rw [hr] at hw
    omega
set_option maxRecDepth 100000 in
theorem deedCut_lifted (os : Os) (started : os.Started) (H : Type) (enc : TypeId × Value → H) :
    ReturnsInHanded {} Try.checked os 10 .any (Rows.deedCutSpec.pre6 enc Try.prog Try.f10 Rows.deedCutRow.domain false) (Rows.deedCutSpec.post enc Try.prog Try.f10 false true false false) := by
  refine returnsInHanded_of_change_sized (C := Try.checked) own started (by kernel_rfl) Try.func10
    (ChangeSpec.witness6 (enc := enc) (C := Try.checked) false ⟨#[], #[.agg #[.slice none 0 0, .slice none 0 0], .int .i64 0, .int .u8 0, .slice none 0 0], []⟩ 8 (by kernel_rfl) (by kernel_rfl) (by kernel_rfl) (by kernel_rfl)) ?_
  intro W base args ds gs before hval0 hW hcnd hsz _
  have hval : ∀ (j : Nat) t v, Try.f10.params[j]? = some t → args[j]? = some v → Value.okWide Try.prog W .any base t v := hval0
  have hW' := hW
  obtain ⟨p, q, hA0, hV, rfl, hfz, hnd⟩ := hW
  have hA : DataW.TrodAll enc Try.prog W 0 (fun _ => true) true Try.f10.params.toList args.toList ds p := hA0
  rw [Try.params10] at hA hval hsz
  obtain ⟨v0, vs0, d0, ds0, p0, q0, hargs, rfl, rfl, h0, r0⟩ := trodAll_cons hA
  obtain ⟨v1, vs1, d1, ds1, p1, q1, rfl, rfl, rfl, h1, r1⟩ := trodAll_cons r0
  obtain ⟨v2, vs2, d2, ds2, p2, q2, rfl, rfl, rfl, h2, r2⟩ := trodAll_cons r1
  obtain ⟨v3, vs3, d3, ds3, p3, q3, rfl, rfl, rfl, h3, r3⟩ := trodAll_cons r2
  obtain ⟨rfl, rfl, rfl⟩ := trodAll_nil r3
  obtain rfl : args = #[v0, v1, v2, v3] := by cases args; simp_all
  obtain ⟨rfl, rfl⟩ := trodVars_none hV
  have k0 := h0
  have lt0 : ∀ x ∈ p0, x.block < W.heap.size := by obtain ⟨m, hm⟩ := k0; exact DataW.trod_lt m _ _ _ hm
  obtain ⟨al0, nl0, cl0, ac0, nc0, cc0, o0, rfl, g0⟩ := open_deed h0 (hval 0 26 v0 rfl rfl) (fun n hn => of_decide_eq_true (List.all_eq_true.1 hsz n (DataW.weights_mem_each (j := 0) (t := 26) rfl rfl n hn)))
  have k1 := h1
  have lt1 : ∀ x ∈ p1, x.block < W.heap.size := by obtain ⟨m, hm⟩ := k1; exact DataW.trod_lt m _ _ _ hm
  obtain ⟨n1, rfl, rfl, rfl, w1⟩ := open_int Try.underlying3 (hval 1 3 v1 rfl rfl) h1
  have k2 := h2
  have lt2 : ∀ x ∈ p2, x.block < W.heap.size := by obtain ⟨m, hm⟩ := k2; exact DataW.trod_lt m _ _ _ hm
  obtain ⟨n2, rfl, rfl, rfl, w2⟩ := open_int Try.underlying5 (hval 2 5 v2 rfl rfl) h2
  have k3 := h3
  have lt3 : ∀ x ∈ p3, x.block < W.heap.size := by obtain ⟨m, hm⟩ := k3; exact DataW.trod_lt m _ _ _ hm
  obtain ⟨a3, len3, cap3, rfl⟩ := okWide_slice Try.underlying28 (hval 3 28 v3 rfl rfl)
  obtain ⟨l3, g3, z3⟩ : ∃ l, SlBy W.heap.size W (.slice a3 len3 cap3) l ∧ l.length ≤ 140737488351232 := by
    obtain ⟨fuel, hf⟩ := h3
    exact open_byz (x := (d3, p3)) (by simpa [Value.cells] using hf) (fun n hn => of_decide_eq_true (List.all_eq_true.1 hsz n (DataW.weights_mem_each (j := 3) (t := 28) rfl rfl n hn)))
  clear hA0 hval0 hval hfz hnd hcnd hA
  refine (cut_ok W _ _ o0 g0 n1 (i64_of_wf w1) n2 (u8_of_wf w2) _ l3 g3 z3).mono fun e W' ⟨he, bel⟩ => ?_
  subst he
  exact ⟨_, rfl, _, _, _, [], _, [], hW', trodAll_mk1 (shut_bool Try.underlying4 _), (trodAll_cons_mk (Below.trod laidOut (by kernel_rfl) (of_decide_eq_true (by kernel_rfl)) k0 bel lt0) (trodAll_cons_mk (Below.trod laidOut (by kernel_rfl) (of_decide_eq_true (by kernel_rfl)) k1 bel lt1) (trodAll_cons_mk (Below.trod laidOut (by kernel_rfl) (of_decide_eq_true (by kernel_rfl)) k2 bel lt2) (trodAll_cons_mk (Below.trod laidOut (by kernel_rfl) (of_decide_eq_true (by kernel_rfl)) k3 bel lt3) trodAll_mk0)))), rfl, bel.frame _, fun h => by cases h⟩
theorem DeedCut_holds : Rows.DeedCutSaid :=
  OpenClaim.holds_of_wide 10 Try.f10 rfl rfl rfl rfl rfl rfl rfl ⟨rfl, rfl, rfl, rfl, rfl⟩ rfl rfl rfl rfl rfl (by kernel_rfl) Try.func10 (by kernel_rfl)
    (of_decide_eq_true (by kernel_rfl)) (by unfold Func.isWrapper; rw [if_neg (of_decide_eq_false (by kernel_rfl))]; exact ⟨rfl, rfl⟩)
    (fun os started H enc _ => deedCut_lifted os started H enc)
#print axioms DeedCut_holds
end Go.Proofs.Ytfdjdpbiccclfaa
namespace Go.Proofs.Ytfdjdpbiccclfaa
open Go Go.RowKit Go.Wr
set_option maxHeartbeats 4000000
set_option maxRecDepth 100000
structure Pc where
  k : Int
  x : Int
def pcv (p : Pc) : List Value := [.int .i64 p.k, .int .i64 p.x]
def pcC (l : List Pc) : List Value := l.flatMap pcv
theorem pcC_append (l m : List Pc) : pcC (l ++ m) = pcC l ++ pcC m := List.flatMap_append
theorem pcC_len (l : List Pc) : (pcC l).length = l.length * 2 := by
  induction l with
  | nil => rfl
  | cons x l ih =>
    rw [show pcC (x :: l) = pcv x ++ pcC l from rfl, List.length_append, ih]
    simp [pcv]
    omega
theorem pcC_one (l : List Pc) : ∀ u ∈ pcC l, u.oneCell' = true := fun u hu => by
  simp only [pcC, List.mem_flatMap, pcv] at hu
  obtain ⟨x, _, hu⟩ := hu
  simp at hu
  rcases hu with rfl | rfl <;> rfl
structure Ft (T : TypeId) (B : Nat) (w w' : World) : Prop where
  os : w'.os = w.os
  tape : w'.tape = w.tape
  output : w'.output = w.output
  size : w.heap.size ≤ w'.heap.size
  block : ∀ k o, w.heap[k]? = some o → (k < B ∨ ∀ C fz, o ≠ .cells C T fz) → w'.heap[k]? = some o
theorem Ft.refl (T : TypeId) (B : Nat) (w : World) : Ft T B w w := ⟨rfl, rfl, rfl, Nat.le_refl _, fun _ _ h _ => h⟩
theorem Ft.trans {T : TypeId} {B : Nat} {a b c : World} (h : Ft T B a b) (k : Ft T B b c) : Ft T B a c :=
  ⟨k.os.trans h.os, k.tape.trans h.tape, k.output.trans h.output, Nat.le_trans h.size k.size, fun i o h1 h2 => k.block i o (h.block i o h1 h2) h2⟩
theorem Ft.of_below {T : TypeId} {B : Nat} {w w' : World} (h : Below w.heap.size w w') : Ft T B w w' :=
  ⟨h.os, h.tape, h.output, h.size, fun k _ h1 _ => (h.block k (lt_of_heap h1)).trans h1⟩
theorem Ft.alloc {T : TypeId} {B : Nat} {a w : World} (h : Ft T B a w) (o : Obj) : Ft T B a (w.alloc o) := h.trans (Ft.of_below (bAl (bRefl w) o))
theorem Ft.below {T : TypeId} {B : Nat} {w w' : World} (h : Ft T B w w') (hB : B ≤ w.heap.size) : Below B w w' :=
  ⟨h.os, h.tape, h.output, h.size, fun k hk => by
    have hlt : k < w.heap.size := by omega
    rw [Array.getElem?_eq_getElem hlt]
    exact h.block k _ (Array.getElem?_eq_getElem hlt) (Or.inl hk)⟩
theorem Ft.blk {T T' : TypeId} {B b : Nat} {w w' : World} {C : Array Value} (h : Ft T B w w') (hb : Blk w b T' C) (hT : T' ≠ T) : Blk w' b T' C :=
  h.block b _ hb (Or.inr fun C' fz e => by
    injection e with _ e
    exact hT e)
theorem Ft.grown {T : TypeId} {B n size : Nat} {w w' : World} {v : Value} {xs : List Value} (ho : w.ownsRow B T size v n xs) (hg : w.grownBy w' v.ownBlock) : Ft T B w w' :=
  ⟨hg.os, hg.tape, hg.output, hg.size, fun k o h1 h2 => by
    rw [hg.block k (lt_of_heap h1) (fun e => ?_)]
    · exact h1
    · rcases ho.2 with ⟨rfl, _⟩ | ⟨g, cap, cur, rfl, hb, hh, _⟩
      · cases e
      · simp only [Value.ownBlock, Option.some.injEq] at e
        subst e
        rw [hh] at h1
        injection h1 with h1
        rcases h2 with h2 | h2
        · omega
        · exact h2 _ _ h1.symm⟩
def OwP (B : Nat) (w : World) (v : Value) (l : List Pc) : Prop := w.ownsRow B 80 2 v l.length (pcC l)
theorem OwP.alloc {B : Nat} {w : World} {v : Value} {l : List Pc} (h : OwP B w v l) (o : Obj) : OwP B (w.alloc o) v l := World.ownsRow.alloc h o
theorem OwP.nil (B : Nat) (w : World) : OwP B w (.slice none 0 0) [] := World.ownsRow_nil _ _ _ _
theorem infoP : (Try.prog.info? 80).map (fun i => (i.zero, i.size, i.bytes)) = some (some (.agg #[.int .i64 0, .int .i64 0]), 2, 16) := by kernel_rfl
theorem wpl_push {ops : Array Oper} {rest : List Oper} {op : Oper} {a : Act} {w : World} {Q : Exit → Act → World → Prop} (hgd : op.guard = none) (s x : Operand)
    (ho : op.op = .call { callee := .builtin .append, args := #[s, x], argTypes := #[78, 78] })
    (B : Nat) (v : Value) (l : List Pc) (hs : a.eval s = v) (hown : OwP B w v l)
    (g n c : Nat) (m : List Pc) (hx : a.eval x = .slice (some ⟨g, 0, none⟩) n c) (hn : n = m.length) (hnews : ∀ j u, (pcC m)[j]? = some u → w.cell? ⟨g, j, none⟩ = some u)
    (hl : l.length + m.length ≤ 1099511627776) (hB : B ≤ w.heap.size)
    (h : ∀ v' w', OwP B w' v' (l ++ m) → Ft 80 B w w' → wpList Try.prog ops Q rest (a.put op.dst v') w') : wpList Try.prog ops Q (op :: rest) a w := by
  obtain ⟨i, hi, hz0, hz1, hz2⟩ := info_parts infoP
  subst hn
  refine wpList_append_own w hgd s x _ ho B 80 i _ 2 16 Try.underlying78 hi hz0 hz1 hz2 rfl (by omega) v l.length (pcC l) hs hown ⟨g, 0, none⟩ m.length c (pcC m) hx (pcC_len m) (fun j u hj => by rw [Addr.add_lit, Nat.zero_add]; exact hnews j u hj) (pcC_one m) (by unfold maxLen; omega) (by omega) hB ?_
  intro v' w' h1 h2 _
  refine h v' w' ?_ (Ft.grown hown h2)
  unfold OwP
  rw [pcC_append, List.length_append]
  exact h1
theorem newsBlk {w : World} {b : Nat} {T : TypeId} {C : Array Value} {l : List Value} (h : Blk w b T C) (hl : C.toList = l) : ∀ (j : Nat) (u : Value), l[j]? = some u → w.cell? ⟨b, j, none⟩ = some u := by
  intro j u hu
  rw [h.cell j, ← hu, ← hl]
  simp
theorem newsAt {w : World} {n : Nat} {T : TypeId} {C : Array Value} {l : List Value} (h : n = w.heap.size) (hl : C.toList = l) : ∀ (j : Nat) (u : Value), l[j]? = some u → (w.alloc (.cells C T)).cell? ⟨n, j, none⟩ = some u :=
  newsBlk (Blk.new_at _ _ h) hl
def tagP (t : Tg) (slot : Bool) : List Pc := ⟨1, t.k⟩ :: (if t.k = 5 ∨ t.k = 6 then [⟨1, t.t⟩] else if slot = true ∧ t.k = 0 then [⟨1, t.m⟩] else [])
theorem tagP_len (t : Tg) (slot : Bool) : (tagP t slot).length ≤ 2 := by
  unfold tagP
  split
  · simp
  · split <;> simp
def PuP (B : Nat) (w : World) (l : List Pc) (e : Ending) (w' : World) : Prop := Ft 80 B w w' ∧ ∃ v, e = .returned v ∧ OwP B w' v l
theorem tagpieces_ok (w : World) (B : Nat) (v : Value) (l : List Pc) (h : OwP B w v l) (hB : B ≤ w.heap.size) (hl : l.length ≤ 1099511000000) (t : Tg) (slot : Bool) :
    Calls Try.prog 53 #[v, .agg (tgv t), .bool slot] w (PuP B w (l ++ tagP t slot)) := by
  have H := Lib.hid h
  clear h
  obtain ⟨R, hR⟩ : ∃ R, R = l ++ tagP t slot := ⟨_, rfl⟩
  rw [← hR]
  have HR := Lib.hid hR
  clear hR
  unfold tgv
  by_cases h5 : t.k = 5
  · have e5 : (t.k == 5) = true := by simp [h5]
    have HP := Lib.hid (show tagP t slot = [⟨1, t.k⟩, ⟨1, t.t⟩] by unfold tagP; rw [if_pos (Or.inl h5)])
    clear h5
    go_enter Try.func53, Try.ntmps53
    go_wp2_with (first | (at_builtin; refine wpl_push rfl _ _ rfl B v l rfl (((H.out.alloc _).alloc _)) _ _ _ [⟨1, t.k⟩] rfl rfl (newsAt (by simp) rfl) (by simp; omega) (by simp; omega) ?_; intro v1 w1 ho1 hb1; have t1 : Ft 80 B w w1 := (((Ft.refl _ B w).alloc _).alloc _).trans hb1; have H1 := Lib.hid ho1; have P1 := hb1.blk ((Blk.new w 56 #[.int .i64 t.k, .int .i64 t.t, .int .i64 t.m]).alloc _) (by decide); have c0 : w1.cell? ⟨w.heap.size, 0, none⟩ = some (.int .i64 t.k) := P1.cell 0; have c1 : w1.cell? ⟨w.heap.size, 1, none⟩ = some (.int .i64 t.t) := P1.cell 1; have c2 : w1.cell? ⟨w.heap.size, 2, none⟩ = some (.int .i64 t.m) := P1.cell 2; have h1l := t1.size; have hql := P1.lt; clear ho1 hb1 P1) | (at_builtin; refine wpl_push rfl _ _ rfl B v1 (l ++ [⟨1, t.k⟩]) rfl (H1.out.alloc _) _ _ _ [⟨1, t.t⟩] rfl rfl (newsAt rfl rfl) (by simp; omega) (by simp; omega) ?_; intro v2 w2 ho2 hb2))
    go_ret
    refine ⟨(t1.alloc _).trans hb2, v2, rfl, ?_⟩
    rw [HR.out, show tagP t slot = [⟨1, t.k⟩, ⟨1, t.t⟩] from HP.out]
    simpa using ho2
  by_cases h6 : t.k = 6
  · have e5 : (t.k == 5) = false := by simp [h6]
    have e6 : (t.k == 6) = true := by simp [h6]
    have HP := Lib.hid (show tagP t slot = [⟨1, t.k⟩, ⟨1, t.t⟩] by unfold tagP; rw [if_pos (Or.inr h6)])
    clear h5 h6
    go_enter Try.func53, Try.ntmps53
    go_wp2_with (first | (at_builtin; refine wpl_push rfl _ _ rfl B v l rfl (((H.out.alloc _).alloc _)) _ _ _ [⟨1, t.k⟩] rfl rfl (newsAt (by simp) rfl) (by simp; omega) (by simp; omega) ?_; intro v1 w1 ho1 hb1; have t1 : Ft 80 B w w1 := (((Ft.refl _ B w).alloc _).alloc _).trans hb1; have H1 := Lib.hid ho1; have P1 := hb1.blk ((Blk.new w 56 #[.int .i64 t.k, .int .i64 t.t, .int .i64 t.m]).alloc _) (by decide); have c0 : w1.cell? ⟨w.heap.size, 0, none⟩ = some (.int .i64 t.k) := P1.cell 0; have c1 : w1.cell? ⟨w.heap.size, 1, none⟩ = some (.int .i64 t.t) := P1.cell 1; have c2 : w1.cell? ⟨w.heap.size, 2, none⟩ = some (.int .i64 t.m) := P1.cell 2; have h1l := t1.size; have hql := P1.lt; clear ho1 hb1 P1) | (at_builtin; refine wpl_push rfl _ _ rfl B v1 (l ++ [⟨1, t.k⟩]) rfl (H1.out.alloc _) _ _ _ [⟨1, t.t⟩] rfl rfl (newsAt rfl rfl) (by simp; omega) (by simp; omega) ?_; intro v2 w2 ho2 hb2))
    go_ret
    refine ⟨(t1.alloc _).trans hb2, v2, rfl, ?_⟩
    rw [HR.out, show tagP t slot = [⟨1, t.k⟩, ⟨1, t.t⟩] from HP.out]
    simpa using ho2
  have e5 : (t.k == 5) = false := by simp [h5]
  have e6 : (t.k == 6) = false := by simp [h6]
  by_cases h0 : slot = true ∧ t.k = 0
  · have e0 : (t.k == 0) = true := by simp [h0.2]
    have HP := Lib.hid (show tagP t slot = [⟨1, t.k⟩, ⟨1, t.m⟩] by unfold tagP; rw [if_neg (by omega), if_pos h0])
    obtain ⟨h0, hk0⟩ := h0
    subst h0
    clear h5 h6 hk0
    go_enter Try.func53, Try.ntmps53
    go_wp2_with (first | (at_builtin; refine wpl_push rfl _ _ rfl B v l rfl (((H.out.alloc _).alloc _)) _ _ _ [⟨1, t.k⟩] rfl rfl (newsAt (by simp) rfl) (by simp; omega) (by simp; omega) ?_; intro v1 w1 ho1 hb1; have t1 : Ft 80 B w w1 := (((Ft.refl _ B w).alloc _).alloc _).trans hb1; have H1 := Lib.hid ho1; have P1 := hb1.blk ((Blk.new w 56 #[.int .i64 t.k, .int .i64 t.t, .int .i64 t.m]).alloc _) (by decide); have c0 : w1.cell? ⟨w.heap.size, 0, none⟩ = some (.int .i64 t.k) := P1.cell 0; have c1 : w1.cell? ⟨w.heap.size, 1, none⟩ = some (.int .i64 t.t) := P1.cell 1; have c2 : w1.cell? ⟨w.heap.size, 2, none⟩ = some (.int .i64 t.m) := P1.cell 2; have h1l := t1.size; have hql := P1.lt; clear ho1 hb1 P1) | (at_builtin; refine wpl_push rfl _ _ rfl B v1 (l ++ [⟨1, t.k⟩]) rfl (H1.out.alloc _) _ _ _ [⟨1, t.m⟩] rfl rfl (newsAt rfl rfl) (by simp; omega) (by simp; omega) ?_; intro v2 w2 ho2 hb2))
    go_ret
    refine ⟨(t1.alloc _).trans hb2, v2, rfl, ?_⟩
    rw [HR.out, show tagP t true = [⟨1, t.k⟩, ⟨1, t.m⟩] from HP.out]
    simpa using ho2
  · have HP := Lib.hid (show tagP t slot = [⟨1, t.k⟩] by unfold tagP; rw [if_neg (by omega), if_neg h0])
    have e0 : slot = false ∨ (t.k == 0) = false := by
      cases slot
      · exact Or.inl rfl
      · exact Or.inr (by simpa using h0)
    clear h5 h6 h0
    rcases e0 with rfl | e0
    · go_enter Try.func53, Try.ntmps53
      go_wp2_with (at_builtin; refine wpl_push rfl _ _ rfl B v l rfl (((H.out.alloc _).alloc _)) _ _ _ [⟨1, t.k⟩] rfl rfl (newsAt (by simp) rfl) (by simp; omega) (by simp; omega) ?_; intro v1 w1 ho1 hb1; have t1 : Ft 80 B w w1 := (((Ft.refl _ B w).alloc _).alloc _).trans hb1; have H1 := Lib.hid ho1; have P1 := hb1.blk ((Blk.new w 56 #[.int .i64 t.k, .int .i64 t.t, .int .i64 t.m]).alloc _) (by decide); have c0 : w1.cell? ⟨w.heap.size, 0, none⟩ = some (.int .i64 t.k) := P1.cell 0; have c1 : w1.cell? ⟨w.heap.size, 1, none⟩ = some (.int .i64 t.t) := P1.cell 1; have c2 : w1.cell? ⟨w.heap.size, 2, none⟩ = some (.int .i64 t.m) := P1.cell 2; have h1l := t1.size; have hql := P1.lt; clear ho1 hb1 P1)
      go_ret
      exact ⟨t1, v1, rfl, by rw [HR.out, HP.out]; exact H1.out⟩
    · cases slot
      all_goals
        go_enter Try.func53, Try.ntmps53
        go_wp2_with (at_builtin; refine wpl_push rfl _ _ rfl B v l rfl (((H.out.alloc _).alloc _)) _ _ _ [⟨1, t.k⟩] rfl rfl (newsAt (by simp) rfl) (by simp; omega) (by simp; omega) ?_; intro v1 w1 ho1 hb1; have t1 : Ft 80 B w w1 := (((Ft.refl _ B w).alloc _).alloc _).trans hb1; have H1 := Lib.hid ho1; have P1 := hb1.blk ((Blk.new w 56 #[.int .i64 t.k, .int .i64 t.t, .int .i64 t.m]).alloc _) (by decide); have c0 : w1.cell? ⟨w.heap.size, 0, none⟩ = some (.int .i64 t.k) := P1.cell 0; have c1 : w1.cell? ⟨w.heap.size, 1, none⟩ = some (.int .i64 t.t) := P1.cell 1; have c2 : w1.cell? ⟨w.heap.size, 2, none⟩ = some (.int .i64 t.m) := P1.cell 2; have h1l := t1.size; have hql := P1.lt; clear ho1 hb1 P1)
        go_ret
        exact ⟨t1, v1, rfl, by rw [HR.out, HP.out]; exact H1.out⟩
end Go.Proofs.Ytfdjdpbiccclfaa
namespace Go.Proofs.Ytfdjdpbiccclfaa
open Go Go.RowKit Go.Wr
set_option maxHeartbeats 4000000
set_option maxRecDepth 100000
def regsP (f : Nat → Tg) (k : Nat) : List Pc := (List.range k).flatMap fun i => tagP (f i) false
def slotP (f : Nat → Tg) (i : Nat) : List Pc := if f (10 + i) = tz then [] else ⟨1, i⟩ :: tagP (f (10 + i)) true
def slotsP (f : Nat → Tg) (k : Nat) : List Pc := (List.range k).flatMap (slotP f)
def conP (x : C3) : List Pc := [⟨1, x.i⟩, ⟨1, x.j⟩, ⟨3, x.c⟩]
def consP (l : List C3) (k : Nat) : List Pc := (l.take k).flatMap conP
def claimP (d : Bool) (f : Nat → Tg) (l : List C3) : List Pc :=
  if d = true then [⟨1, 0⟩] else [⟨1, 1⟩] ++ regsP f 10 ++ [⟨2, toldN f 32⟩] ++ slotsP f 32 ++ [⟨2, l.length⟩] ++ consP l l.length
theorem regsP_succ (f : Nat → Tg) (k : Nat) : regsP f (k + 1) = regsP f k ++ tagP (f k) false := by simp [regsP, List.range_succ]
theorem slotsP_succ (f : Nat → Tg) (k : Nat) : slotsP f (k + 1) = slotsP f k ++ slotP f k := by simp [slotsP, List.range_succ]
theorem consP_succ (l : List C3) (k : Nat) (x : C3) (h : l[k]? = some x) : consP l (k + 1) = consP l k ++ conP x := by
  unfold consP
  rw [List.take_add_one, h]
  simp
theorem regsP_len (f : Nat → Tg) (k : Nat) : (regsP f k).length ≤ 2 * k := by
  induction k with
  | zero => simp [regsP]
  | succ k ih =>
    rw [regsP_succ, List.length_append]
    have := tagP_len (f k) false
    omega
theorem slotP_len (f : Nat → Tg) (k : Nat) : (slotP f k).length ≤ 3 := by
  unfold slotP
  split
  · simp
  · have := tagP_len (f (10 + k)) true
    simp only [List.length_cons]
    omega
theorem slotsP_len (f : Nat → Tg) (k : Nat) : (slotsP f k).length ≤ 3 * k := by
  induction k with
  | zero => simp [slotsP]
  | succ k ih =>
    rw [slotsP_succ, List.length_append]
    have := slotP_len f k
    omega
theorem consP_len (l : List C3) (k : Nat) : (consP l k).length ≤ 3 * k := by
  induction k generalizing l with
  | zero => simp [consP]
  | succ k ih =>
    cases l with
    | nil => simp [consP]
    | cons x l =>
      have := ih l
      have e : consP (x :: l) (k + 1) = conP x ++ consP l k := by simp [consP]
      rw [e, List.length_append]
      simp only [conP, List.length_cons, List.length_nil]
      omega
theorem tagpieces_eq (w : World) (B : Nat) (v : Value) (l : List Pc) (h : OwP B w v l) (hB : B ≤ w.heap.size) (hl : l.length ≤ 1099511000000) (t : Tg) (slot : Bool) {a b c : Int} (ha : a = t.k) (hb : b = t.t) (hc : c = t.m) :
    Calls Try.prog 53 #[v, .agg #[.int .i64 a, .int .i64 b, .int .i64 c], .bool slot] w (PuP B w (l ++ tagP t slot)) := by
  subst ha hb hc
  exact tagpieces_ok w B v l h hB hl t slot
structure PW (B q : Nat) (w : World) (C : Array Value) (l : List Pc) (v : Value) (wr : World) : Prop where
  ow : OwP B wr v l
  fr : Ft 80 B w wr
  blk : Blk wr q 61 C
theorem PW.next {B q : Nat} {w wr w' : World} {C : Array Value} {l l' : List Pc} {v v' : Value} (h : PW B q w C l v wr) (hf : Ft 80 B wr w') (ho : OwP B w' v' l') : PW B q w C l' v' w' :=
  ⟨ho, h.fr.trans hf, hf.blk h.blk (by decide)⟩
theorem PW.size {B q : Nat} {w wr : World} {C : Array Value} {l : List Pc} {v : Value} (h : PW B q w C l v wr) (hB : B ≤ w.heap.size) : B ≤ wr.heap.size := Nat.le_trans hB h.fr.size
theorem OwP.keep {B B' : Nat} {w w' : World} {v : Value} {l : List Pc} (h : OwP B w v l) (hs : w.heap.size ≤ B') (hf : Ft 80 B' w w') : OwP B w' v l := by
  obtain ⟨h1, h2⟩ := h
  refine ⟨h1, ?_⟩
  rcases h2 with h2 | ⟨g, cap, cur, rfl, hb, hh, r⟩
  · exact Or.inl h2
  · exact Or.inr ⟨g, cap, cur, rfl, hb, hf.block g _ hh (Or.inl (by have := lt_of_heap hh; omega)), r⟩
theorem ownp_form {B : Nat} {w : World} {v : Value} {l : List Pc} (h : OwP B w v l) : (v = .slice none 0 0 ∧ l = []) ∨ ∃ g cap cur, v = .slice (some ⟨g, 0, none⟩) l.length cap ∧ B ≤ g ∧ Blk w g 80 cur ∧ cur.toList.take (l.length * 2) = pcC l := by
  obtain ⟨_, h2⟩ := h
  rcases h2 with ⟨rfl, h0⟩ | ⟨g, cap, cur, rfl, hg, hb, _, _, _, htk⟩
  · exact Or.inl ⟨rfl, List.eq_nil_of_length_eq_zero h0⟩
  · exact Or.inr ⟨g, cap, cur, rfl, hg, hb, htk⟩
theorem Ft.mono {T : TypeId} {B B' : Nat} {w w' : World} (h : Ft T B w w') (hB : B' ≤ B) : Ft T B' w w' :=
  ⟨h.os, h.tape, h.output, h.size, fun k o h1 h2 => h.block k o h1 (h2.imp (fun h => by omega) id)⟩
theorem Ft.drew {T : TypeId} {B : Nat} {w w' : World} (h : Ft T B w w') : Ft T B w w'.drew := ⟨h.os, h.tape, h.output, h.size, h.block⟩
theorem OwP.apart {B b : Nat} {w : World} {v : Value} {l : List Pc} {T : TypeId} {C : Array Value} (h : OwP B w v l) (hb : Blk w b T C) (hT : T ≠ 80) : v.ownBlock ≠ some b := fun e => by
  rcases ownp_form h with ⟨rfl, _⟩ | ⟨g, cap, cur, rfl, _, hg, _⟩
  · cases e
  · simp only [Value.ownBlock, Option.some.injEq] at e
    subst e
    have h1 : w.heap[g]? = _ := hb
    have h2 : w.heap[g]? = _ := hg
    rw [h1] at h2
    injection h2 with h2
    injection h2 with _ h2
    exact hT h2
theorem OwP.lowApart {B b : Nat} {w : World} {v : Value} {l : List Pc} (h : OwP B w v l) (hb : b < B) : v.ownBlock ≠ some b := fun e => by
  rcases ownp_form h with ⟨rfl, _⟩ | ⟨g, cap, cur, rfl, hg, _⟩
  · cases e
  · simp only [Value.ownBlock, Option.some.injEq] at e
    omega
theorem OwP.far {B : Nat} {w w' : World} {v : Value} {l : List Pc} {row : Option Nat} (h : OwP B w v l) (hg : w.grownBy w' row) (hne : ∀ g, v.ownBlock = some g → row ≠ some g) : OwP B w' v l := by
  obtain ⟨h1, h2⟩ := h
  refine ⟨h1, ?_⟩
  rcases h2 with h2 | ⟨g, cap, cur, rfl, hb, hh, r⟩
  · exact Or.inl h2
  · refine Or.inr ⟨g, cap, cur, rfl, hb, ?_, r⟩
    rw [hg.block g (lt_of_heap hh) (fun e => hne g rfl e.symm)]
    exact hh
theorem OwP.own_lt {B : Nat} {w : World} {v : Value} {l : List Pc} (h : OwP B w v l) {g : Nat} (e : v.ownBlock = some g) : B ≤ g ∧ g < w.heap.size := by
  rcases ownp_form h with ⟨rfl, _⟩ | ⟨g', cap, cur, rfl, hg, hb, _⟩
  · cases e
  · simp only [Value.ownBlock, Option.some.injEq] at e
    subst e
    exact ⟨hg, lt_of_heap hb⟩
theorem wpl_pushG {ops : Array Oper} {rest : List Oper} {op : Oper} {a : Act} {w : World} {Q : Exit → Act → World → Prop} (hgd : op.guard = none) (s x : Operand)
    (ho : op.op = .call { callee := .builtin .append, args := #[s, x], argTypes := #[78, 78] })
    (B : Nat) (v : Value) (l : List Pc) (hs : a.eval s = v) (hown : OwP B w v l)
    (g n c : Nat) (m : List Pc) (hx : a.eval x = .slice (some ⟨g, 0, none⟩) n c) (hn : n = m.length) (hnews : ∀ j u, (pcC m)[j]? = some u → w.cell? ⟨g, j, none⟩ = some u)
    (hl : l.length + m.length ≤ 1099511627776) (hB : B ≤ w.heap.size)
    (h : ∀ v' w', OwP B w' v' (l ++ m) → w.grownBy w' v.ownBlock → wpList Try.prog ops Q rest (a.put op.dst v') w') : wpList Try.prog ops Q (op :: rest) a w := by
  obtain ⟨i, hi, hz0, hz1, hz2⟩ := info_parts infoP
  subst hn
  refine wpList_append_own w hgd s x _ ho B 80 i _ 2 16 Try.underlying78 hi hz0 hz1 hz2 rfl (by omega) v l.length (pcC l) hs hown ⟨g, 0, none⟩ m.length c (pcC m) hx (pcC_len m) (fun j u hj => by rw [Addr.add_lit, Nat.zero_add]; exact hnews j u hj) (pcC_one m) (by unfold maxLen; omega) (by omega) hB ?_
  intro v' w' h1 h2 _
  refine h v' w' ?_ h2
  unfold OwP
  rw [pcC_append, List.length_append]
  exact h1
theorem wpl_pushAll {ops : Array Oper} {rest : List Oper} {op : Oper} {a : Act} {w : World} {Q : Exit → Act → World → Prop} (hgd : op.guard = none) (s x : Operand)
    (ho : op.op = .call { callee := .builtin .append, args := #[s, x], argTypes := #[78, 78] })
    (B B2 : Nat) (v : Value) (l : List Pc) (hs : a.eval s = v) (hown : OwP B w v l) (mv : Value) (m : List Pc) (hx : a.eval x = mv) (hm : OwP B2 w mv m)
    (hl : l.length + m.length ≤ 1099511627776) (hB : B ≤ w.heap.size)
    (h : ∀ v' w', OwP B w' v' (l ++ m) → Ft 80 B w w' → wpList Try.prog ops Q rest (a.put op.dst v') w') : wpList Try.prog ops Q (op :: rest) a w := by
  rcases ownp_form hm with ⟨rfl, rfl⟩ | ⟨g, cap, cur, rfl, hg, hb, htk⟩
  · obtain ⟨i, hi, hz0, hz1, hz2⟩ := info_parts infoP
    refine wpList_append_own_none hgd s x _ ho B 80 i 2 Try.underlying78 hi v l.length (pcC l) hs hown hx ?_
    exact h v w (by rw [List.append_nil]; exact hown) (Ft.refl _ _ _)
  · refine wpl_push hgd s x ho B v l hs hown g m.length cap m hx rfl (fun j u hu => ?_) hl hB h
    rw [hb.cell j]
    rw [← htk, List.getElem?_take] at hu
    split at hu
    · simpa using hu
    · cases hu
theorem claimpieces_dead (w : World) (B : Nat) (v : Value) (l : List Pc) (h : OwP B w v l) (hB : B ≤ w.heap.size) (hl : l.length ≤ 1099510000000) (f : Nat → Tg) (vc : Value) (c : List C3) :
    Calls Try.prog 34 #[v, .agg (bx (.bool true) f vc)] w (PuP B w (l ++ claimP true f c)) := by
  have H := Lib.hid h
  clear h
  obtain ⟨R, hR⟩ : ∃ R, R = l ++ claimP true f c := ⟨_, rfl⟩
  rw [← hR]
  have HR := Lib.hid hR
  clear hR
  go_enter Try.func34, Try.ntmps34
  go_upto_region 1 with (fail)
  generalize hW : (w.alloc (.cells (bx (.bool true) f vc) 61)) = W
  have hf : Ft 80 B w W := by rw [← hW]; exact (Ft.refl _ _ _).alloc _
  have QB : Blk W w.heap.size 61 (bx (.bool true) f vc) := by rw [← hW]; exact Blk.new _ _ _
  have HO : Hid (OwP B W v l) := by rw [← hW]; exact H.out.alloc _
  have c0 := (QB.cell 0).trans (bx_zero _ _ _)
  have hs := hf.size
  clear hW QB
  go_wp2_with (at_builtin; refine wpl_push rfl _ _ rfl B v l rfl (HO.out.alloc _) _ _ _ [⟨1, 0⟩] rfl rfl (newsAt rfl rfl) (by simp; omega) (by simp; omega) ?_; intro v1 w1 ho1 hb1)
  go_ret
  exact ⟨(hf.alloc _).trans hb1, v1, rfl, by rw [HR.out]; exact ho1⟩
theorem claimpieces_live (w : World) (B : Nat) (v : Value) (l : List Pc) (h : OwP B w v l) (hB : B ≤ w.heap.size) (hl : l.length ≤ 1099510000000) (f : Nat → Tg) (vc : Value) (c : List C3) (hc : SlC B w vc c) (hcl : c.length ≤ 3600) :
    Calls Try.prog 34 #[v, .agg (bx (.bool false) f vc)] w (PuP B w (l ++ claimP false f c)) := by
  obtain ⟨R, hR⟩ : ∃ R, R = l ++ claimP false f c := ⟨_, rfl⟩
  rw [← hR]
  have HR := Lib.hid hR
  clear hR
  have HV := Lib.hid hc
  obtain ⟨a0, cap, rfl, _⟩ := hc
  have H := Lib.hid h
  clear h
  go_enter Try.func34, Try.ntmps34
  go_upto_region 1 with (fail)
  generalize hW : (w.alloc (.cells (bx (.bool false) f (.slice a0 c.length cap)) 61)) = W
  have PW0 : PW B w.heap.size w (bx (.bool false) f (.slice a0 c.length cap)) l v W := by
    rw [← hW]
    exact ⟨H.out.alloc _, (Ft.refl _ _ _).alloc _, Blk.new _ _ _⟩
  have c0 := (PW0.blk.cell 0).trans (bx_zero _ _ _)
  have hBW := PW0.size hB
  have hql := PW0.blk.lt
  have H0 := Lib.hid PW0
  clear hW PW0 H
  go_wp2_with (at_builtin; refine wpl_push rfl _ _ rfl B v l rfl (H0.out.ow.alloc _) _ _ _ [⟨1, 1⟩] rfl rfl (newsAt rfl rfl) (by simp; omega) (by simp; omega) ?_; intro v1 w1 ho1 hb1)
  have H1 := Lib.hid (H0.out.next (((Ft.refl _ _ _).alloc _).trans hb1) ho1)
  clear H0 ho1 hb1 hBW hql c0
  go_loopw [0, 5] (fun v t wr => ∃ k : Nat, k ≤ 10 ∧ t = .int .i64 k ∧ PW B w.heap.size w (bx (.bool false) f (.slice a0 c.length cap)) (l ++ [⟨1, 1⟩] ++ regsP f k) v wr) (fun _ t _ => 10 - (intOf t).toNat)
  case atStart => exact ⟨0, by omega, rfl, by simpa [regsP] using H1.out⟩
  case round =>
    obtain ⟨k, hk, rfl, hpw⟩ := hrel
    by_cases hlt : k < 10
    · have hlt' : (k : Int) < 10 := by omega
      obtain ⟨b0, b1, b2⟩ := bx_tag (.bool false) f (.slice a0 c.length cap) (show k < 42 by omega)
      have d0 := (hpw.blk.cell (1 + k * 3)).trans b0
      have d1 := (hpw.blk.cell (1 + k * 3 + 1)).trans b1
      have d2 := (hpw.blk.cell (1 + k * 3 + 2)).trans b2
      have hql := hpw.blk.lt
      have hBr := hpw.size hB
      have hrl := regsP_len f k
      have HP := Lib.hid hpw
      clear hpw b0 b1 b2 H1
      go_wp2_with fail
      refine (tagpieces_ok wr B _ _ HP.out.ow hBr (by simp; omega) (f k) false).mono ?_
      rintro e w2 ⟨hf, v2, rfl, ho⟩
      have h2 := HP.out.next hf ho
      rw [List.append_assoc, ← regsP_succ] at h2
      have H2 := Lib.hid h2
      clear h2 hf ho HP d0 d1 d2
      go_wp2
      go_roundw
      case rel => exact ⟨k + 1, by omega, by go_num, H2.out⟩
      case measure => simp [intOf]; omega
    · obtain rfl : k = 10 := by omega
      have hBr := hpw.size hB
      have hrl := regsP_len f 10
      obtain ⟨l1, hl1⟩ : ∃ l1, l1 = l ++ [⟨1, 1⟩] ++ regsP f 10 := ⟨_, rfl⟩
      rw [← hl1] at hpw
      have hll : l1.length ≤ l.length + 21 := by rw [hl1]; simp; omega
      have HL1 := Lib.hid hl1
      have HP := Lib.hid hpw
      clear hpw hl1 hrl H1 hk hlt
      obtain ⟨W2, rfl⟩ : ∃ x : World, x = wr := ⟨_, rfl⟩
      go_wp2
      go_loopw [6, 7, 8] (fun s m t wr => ∃ k : Nat, k ≤ 32 ∧ t = .int .i64 k ∧ s = .int .i64 (toldN f k) ∧ OwP W2.heap.size wr m (slotsP f k) ∧ Ft 80 W2.heap.size W2 wr) (fun _ _ t _ => 32 - (intOf t).toNat)
      case atStart => exact ⟨0, by omega, rfl, rfl, OwP.nil _ _, Ft.refl _ _ _⟩
      case round =>
        obtain ⟨k, hk, rfl, rfl, hom, hfm⟩ := hrel
        have htl := toldN_le f k
        have hsl := slotsP_len f k
        have hqb := hfm.blk HP.out.blk (by decide)
        have hsz := hfm.size
        by_cases hlt : k < 32
        · have hlt' : (k : Int) < 32 := by omega
          obtain ⟨b0, b1, b2⟩ := bx_tag (.bool false) f (.slice a0 c.length cap) (show 10 + k < 42 by omega)
          have c0 := (hqb.cell (1 + (10 + k) * 3)).trans b0
          have c1 := (hqb.cell (1 + (10 + k) * 3 + 1)).trans b1
          have c2 := (hqb.cell (1 + (10 + k) * 3 + 2)).trans b2
          rw [show 1 + (10 + k) * 3 = 31 + k * 3 by omega] at c0 c1 c2
          have hql := hqb.lt
          have hs := toldN_succ f k
          have hS := slotsP_succ f k
          have HM := Lib.hid (And.intro hom hfm)
          have HQ := Lib.hid hqb
          have B0 := b0
          have B1 := b1
          have B2 := b2
          clear b0 b1 b2 hom hfm hqb
          by_cases he : f (10 + k) = tz
          · rw [he] at c0 c1 c2
            rw [if_pos he, Nat.add_zero] at hs
            have hS2 : slotsP f (k + 1) = slotsP f k := by rw [hS]; simp [slotP, he]
            have HS := Lib.hid hS2
            simp only [tz] at c0 c1 c2
            clear he hS hS2
            go_wp2
            go_roundw
            case rel => exact ⟨k + 1, by omega, by go_num, by rw [hs, Nat.add_zero], by rw [HS.out]; exact HM.out⟩
            case measure => simp [intOf]; omega
          · rw [if_neg he] at hs
            have HE := Lib.hid he
            have hne := eqTg_tz he
            have HNE := Lib.hid hne
            have hS2 : slotsP f (k + 1) = slotsP f k ++ [⟨1, (k : Int)⟩] ++ tagP (f (10 + k)) true := by rw [hS]; simp [slotP, he]
            have HS := Lib.hid hS2
            clear he hne hS hS2
            go_wp2_with (first
              | (exact absurd (tz_of (by assumption) (by assumption) (by assumption)) HE.out)
              | (at_builtin; refine wpl_push rfl _ _ rfl W2.heap.size _ (slotsP f k) rfl (HM.out.1.alloc _) _ _ _ [⟨1, (k : Int)⟩] rfl rfl (newsAt rfl rfl) (by simp; omega) (by simp; omega) ?_; intro v5 w5 ho5 hb5; have fm := (Ft.alloc (Ft.refl 80 W2.heap.size wr) (.cells #[.int .i64 1, .int .i64 (k : Int)] 80)).trans hb5; have q5 := fm.blk HQ.out (by decide); have c0 := (q5.cell (1 + (10 + k) * 3)).trans B0; have c1 := (q5.cell (1 + (10 + k) * 3 + 1)).trans B1; have c2 := (q5.cell (1 + (10 + k) * 3 + 2)).trans B2; rw [show 1 + (10 + k) * 3 = 31 + k * 3 by omega] at c0 c1 c2; have M5 := Lib.hid (And.intro ho5 (HM.out.2.trans fm)); have hs5 : W2.heap.size ≤ w5.heap.size := Nat.le_trans hsz fm.size; have hq5 := q5.lt; clear q5 fm ho5 hb5))
            all_goals
              refine (tagpieces_eq w5 W2.heap.size _ _ M5.out.1 hs5 (by simp; omega) (f (10 + k)) true (by omega) (by omega) (by omega)).mono ?_
              rintro e w6 ⟨hf6, v6, rfl, ho6⟩
              have h6 := And.intro ho6 (M5.out.2.trans hf6)
              rw [← HS.out] at h6
              have H6 := Lib.hid h6
              clear h6 hf6 ho6 M5 HM HQ HS HNE HE c0 c1 c2
              go_wp2
              go_roundw
            all_goals first
              | exact ⟨k + 1, by omega, by go_num, by rw [hs]; go_num, H6.out⟩
              | ((repeat apply Exists.intro); exact ⟨⟨k + 1, by omega, by go_num, by rw [hs]; go_num, H6.out⟩, rfl⟩)
              | (simp [intOf]; omega)
        · obtain rfl : k = 32 := by omega
          have hne : ∀ g, u7.ownBlock = some g → u0.ownBlock ≠ some g := fun g e e' => by
            have h1 := hom.own_lt e
            have h2 := HP.out.ow.own_lt e'
            omega
          have HNE := Lib.hid hne
          have HM := Lib.hid hom
          have H0 : Hid (PW B w.heap.size w (bx (.bool false) f (.slice a0 c.length cap)) l1 u0 wr) := ⟨HP.out.ow.keep (Nat.le_refl _) hfm, HP.out.fr.trans (hfm.mono (HP.out.size hB)), hqb⟩
          have hBw := H0.out.size hB
          clear hne hom hfm hqb HP hlt hk
          go_upto_region 18 with (at_builtin; refine wpl_pushG rfl _ _ rfl B u0 l1 rfl (H0.out.ow.alloc _) _ _ _ [⟨2, toldN f 32⟩] rfl rfl (newsAt rfl rfl) (by simp; omega) (by simp; omega) ?_; intro v3 w3 ho3 hg3)
          have f3 : Ft 80 B wr w3 := ((Ft.refl _ B wr).alloc _).trans (Ft.grown (H0.out.ow.alloc _) hg3)
          have M3 := Lib.hid ((HM.out.alloc _).far hg3 HNE.out)
          have H3 := Lib.hid (H0.out.next f3 ho3)
          have hB3 := H3.out.size hB
          have hsl := slotsP_len f 32
          clear H0 HM HNE f3 ho3 hg3 hBw
          go_upto_region 19 with (at_builtin; refine wpl_pushAll rfl _ _ rfl B W2.heap.size v3 _ rfl H3.out.ow u7 (slotsP f 32) rfl M3.out (by simp; omega) hB3 ?_; intro v4 w4 ho4 hb4)
          have h4 := H3.out.next hb4 ho4
          have cv := (h4.blk.cell 127).trans (bx_last _ _ _)
          have hB4 := h4.size hB
          have hql := h4.blk.lt
          have H4 := Lib.hid h4
          clear H3 M3 h4 hb4 ho4 hB3
          go_upto_region 20 with (at_builtin; refine wpl_push rfl _ _ rfl B v4 _ rfl (H4.out.ow.alloc _) _ _ _ [⟨2, c.length⟩] rfl rfl (newsAt rfl rfl) (by simp; omega) (by simp; omega) ?_; intro v5 w5 ho5 hb5)
          have h5 := H4.out.next (((Ft.refl _ B w4).alloc _).trans hb5) ho5
          obtain ⟨l5, hl5⟩ : ∃ l5, l5 = l1 ++ [⟨2, (toldN f 32 : Int)⟩] ++ slotsP f 32 ++ [⟨2, (c.length : Int)⟩] := ⟨_, rfl⟩
          rw [← hl5] at h5
          have hll5 : l5.length ≤ l.length + 200 := by rw [hl5]; simp; omega
          have HL5 := Lib.hid hl5
          have H5 := Lib.hid h5
          clear H4 h5 hb5 ho5 hB4 hl5 cv hql hsl
          go_wp2
          go_loopw [0, 9] (fun u t wr => ∃ k : Nat, k ≤ c.length ∧ t = .int .i64 k ∧ PW B w.heap.size w (bx (.bool false) f (.slice a0 c.length cap)) (l5 ++ consP c k) u wr) (fun _ t _ => c.length - (intOf t).toNat)
          case atStart => exact ⟨0, by omega, rfl, by simpa [consP] using H5.out⟩
          case round =>
            clear H5
            obtain ⟨k, hk, rfl, hpw⟩ := hrel
            have cv := (hpw.blk.cell 127).trans (bx_last _ _ _)
            have hbl := hpw.blk.lt
            have hBr := hpw.size hB
            have hrl := consP_len c k
            by_cases hlt : k < c.length
            · have hlt' : (k : Int) < (c.length : Int) := by omega
              have hk0 : (0 : Int) ≤ (k : Int) := Int.natCast_nonneg _
              obtain ⟨x, hx⟩ : ∃ x, c[k]? = some x := ⟨_, List.getElem?_eq_getElem hlt⟩
              obtain ⟨a1, cap1, ev, hcell⟩ := HV.out
              simp only [Value.slice.injEq, true_and] at ev
              obtain ⟨rfl, rfl⟩ := ev
              obtain ⟨bb, off, rfl, hbb, g0, g1, g2⟩ := hcell k x hx
              have hbel := hpw.fr.below hB
              rw [← hbel.cell (p := ⟨bb, _, none⟩) hbb] at g0 g1 g2
              have n1 := hpw.ow.lowApart hbb
              have n2 := hpw.ow.apart hpw.blk (by decide)
              have hs := consP_succ c k x hx
              rw [show conP x = [⟨1, x.i⟩, ⟨1, x.j⟩, ⟨3, x.c⟩] from rfl] at hs
              have HS := Lib.hid hs
              have H7 := Lib.hid hpw
              have HCell := Lib.hid hcell
              obtain ⟨i, hi, hz0, hz1, hz2⟩ := info_parts infoP
              clear hx hcell hs hpw hbel
              go_wp2_with fail
              go_region_held3 (fun w' => w'.cell? ⟨w.heap.size, 127, none⟩ = some (.slice (some ⟨bb, off, none⟩) c.length cap) ∧ w'.cell? ⟨bb, off + k * 3, none⟩ = some (.int .i64 x.i) ∧ w'.cell? ⟨bb, off + k * 3 + 1, none⟩ = some (.int .i64 x.j) ∧ w'.cell? ⟨bb, off + k * 3 + 2, none⟩ = some (.int .i64 x.c))
                (first
                  | go_keep
                  | (go_split_ands
                     refine ⟨?_, ?_, ?_, ?_⟩
                     · (rw [hgrow.cell_far _ (by simp; omega) (Ne.symm n2)]; assumption)
                     · (rw [hgrow.cell_far _ (by simp; omega) (Ne.symm n1)]; assumption)
                     · (rw [hgrow.cell_far _ (by simp; omega) (Ne.symm n1)]; assumption)
                     · (rw [hgrow.cell_far _ (by simp; omega) (Ne.symm n1)]; assumption)))
                ((refine step_append_lies _ (by rfl) _ _ _ (by rfl) B 80 i _ 2 16 Try.underlying78 hi hz0 hz1 hz2 rfl (by omega) u0 (l5 ++ consP c k).length (pcC (l5 ++ consP c k)) (by rfl) ((H7.out.ow.alloc _).drew)
                    ⟨wr.heap.size, 0, none⟩ 3 3 (pcC (conP x)) (by rfl) (by rfl) (World.news_of_block (cs := #[.int .i64 1, .int .i64 x.i, .int .i64 1, .int .i64 x.j, .int .i64 3, .int .i64 x.c]) (t := 80) (fr := (0, 0)) (heap_alloc_new wr _)) (pcC_one _)
                    (by omega) (by unfold maxLen; simp; omega) (by simp; omega) (by simp; omega) (wr.heap.size + 1) (by simp) ?_; intro g cap' w1 hown1 hgrow hat hlt1))
              have hn := H7.out.next ((((Ft.refl _ B wr).alloc _).drew).trans (Ft.grown ((H7.out.ow.alloc _).drew) hgrow)) (l' := l5 ++ consP c (k + 1)) (v' := .slice (some ⟨g, 0, none⟩) (l5.length + (consP c k).length + 3) cap') (by
                unfold OwP
                rw [HS.out, ← List.append_assoc, pcC_append (l5 ++ consP c k)]
                simp only [List.length_append] at hown1 ⊢
                exact hown1)
              have HN := Lib.hid hn
              clear hn hown1 hgrow hat H7 HS n1 n2
              go_wp2
              go_roundw
              all_goals first
                | exact ⟨k + 1, by omega, by go_num, HN.out⟩
                | ((repeat apply Exists.intro); exact ⟨⟨k + 1, by omega, by go_num, HN.out⟩, rfl⟩)
                | (simp [intOf]; omega)
            · obtain rfl : k = c.length := by omega
              have H7 := Lib.hid hpw
              clear hpw
              go_wp2
              go_ret
              refine ⟨H7.out.fr, _, rfl, ?_⟩
              have := H7.out.ow
              rw [HL5.out, HL1.out] at this
              rw [HR.out]
              unfold claimP
              simpa using this
end Go.Proofs.Ytfdjdpbiccclfaa
namespace Go.Proofs.Ytfdjdpbiccclfaa
open Go Go.RowKit Go.Wr
set_option maxHeartbeats 4000000
set_option maxRecDepth 100000
def OwY (B : Nat) (w : World) (v : Value) (l : List Nat) : Prop := w.ownsRow B 5 1 v l.length (bcells l)
theorem OwY.alloc {B : Nat} {w : World} {v : Value} {l : List Nat} (h : OwY B w v l) (o : Obj) : OwY B (w.alloc o) v l := World.ownsRow.alloc h o
theorem bcells_one (l : List Nat) : ∀ u ∈ bcells l, u.oneCell' = true := fun u hu => by
  simp only [bcells, List.mem_map] at hu
  obtain ⟨x, _, rfl⟩ := hu
  rfl
theorem wpl_bytes {ops : Array Oper} {rest : List Oper} {op : Oper} {a : Act} {w : World} {Q : Exit → Act → World → Prop} (hgd : op.guard = none) (s x : Operand)
    (ho : op.op = .call { callee := .builtin .append, args := #[s, x], argTypes := #[28, 28] })
    (B : Nat) (v : Value) (l : List Nat) (hs : a.eval s = v) (hown : OwY B w v l)
    (g n c : Nat) (m : List Nat) (hx : a.eval x = .slice (some ⟨g, 0, none⟩) n c) (hn : n = m.length) (hnews : ∀ j u, (bcells m)[j]? = some u → w.cell? ⟨g, j, none⟩ = some u)
    (hl : l.length + m.length ≤ 1099511627776) (hB : B ≤ w.heap.size)
    (h : ∀ v' w', OwY B w' v' (l ++ m) → Ft 5 B w w' → wpList Try.prog ops Q rest (a.put op.dst v') w') : wpList Try.prog ops Q (op :: rest) a w := by
  obtain ⟨i, hi, hz0, hz1, hz2⟩ := info_parts infoU8
  subst hn
  refine wpList_append_own w hgd s x _ ho B 5 i _ 1 1 Try.underlying28 hi hz0 hz1 hz2 rfl (by omega) v l.length (bcells l) hs hown ⟨g, 0, none⟩ m.length c (bcells m) hx (by rw [bcells_len, Nat.mul_one]) (fun j u hj => by rw [Addr.add_lit, Nat.zero_add]; exact hnews j u hj) (bcells_one m) (by unfold maxLen; omega) (by omega) hB ?_
  intro v' w' h1 h2 _
  refine h v' w' ?_ (Ft.grown hown h2)
  unfold OwY
  rw [bcells_app, List.length_append]
  exact h1
def PuY (B : Nat) (w : World) (l : List Nat) (e : Ending) (w' : World) : Prop := Ft 5 B w w' ∧ ∃ v, e = .returned v ∧ OwY B w' v l
theorem refnum_ok (w : World) (B : Nat) (v : Value) (l : List Nat) (h : OwY B w v l) (hB : B ≤ w.heap.size) (x : Nat) (hx : x < 9223372036854775808) (hl : l.length ≤ 1099511627000) :
    Calls Try.prog 35 #[v, .int .i64 (x : Int)] w (PuY B w (l ++ leb 9 x)) := by
  have H := Lib.hid h
  clear h
  obtain ⟨R, hR⟩ : ∃ R, R = l ++ leb 9 x := ⟨_, rfl⟩
  rw [← hR]
  have HR := Lib.hid hR
  clear hR
  go_enter Try.func35, Try.ntmps35
  go_wp2
  go_loopw [0, 1] (fun u t wr => ∃ k y : Nat, ∃ l' : List Nat, k ≤ 9 ∧ t = .int .i64 (y : Int) ∧ y < 2 ^ (7 * k) ∧ R = l' ++ leb k y ∧ l'.length ≤ l.length + 9 - k ∧ OwY B wr u l' ∧ Ft 5 B w wr) (fun _ t _ => (intOf t).toNat)
  case atStart => exact ⟨9, x, l, by omega, rfl, by omega, HR.out, by omega, H.out, Ft.refl _ _ _⟩
  case round =>
    obtain ⟨k, y, l', hk, rfl, hy, hle, hll, how, hfr⟩ := hrel
    have hy63 : y < 9223372036854775808 := by
      have : 2 ^ (7 * k) ≤ 2 ^ 63 := Nat.pow_le_pow_right (by omega) (by omega)
      omega
    have HF := Lib.hid hfr
    have H' := Lib.hid how
    have HL := Lib.hid hle
    have HY := Lib.hid hy
    have hB' : B ≤ wr.heap.size := Nat.le_trans hB hfr.size
    clear hfr how hle hy H
    by_cases hlt : 127 < y
    · have hlt' : (127 : Int) < (y : Int) := by omega
      have hor : bcells [y % 128 + 128] = [.int .u8 ((y : Int) % 128 + 128)] := by
        show [Value.int .u8 (Int.ofNat (y % 128 + 128))] = _
        congr 2
      have HO := Lib.hid hor
      clear hor
      go_upto_region 3 with (at_builtin; refine wpl_bytes rfl _ _ rfl B u0 l' rfl (H'.out.alloc _) _ _ _ [y % 128 + 128] rfl rfl (newsAt rfl HO.out.symm) (by simp; omega) (by simp; omega) ?_; intro v1 w1 ho1 hb1)
      have H1 := Lib.hid ho1
      have HF1 := Lib.hid (HF.out.trans (((Ft.refl _ B wr).alloc _).trans hb1))
      clear ho1 hb1 H' HF HO
      go_wp2
      have hy := HY.out
      have hle := HL.out
      obtain ⟨k', rfl⟩ : ∃ k', k = k' + 1 := ⟨k - 1, by
        cases k with
        | zero => simp at hy; omega
        | succ n => omega⟩
      have e : leb (k' + 1) y = (y % 128 + 128) :: leb k' (y / 128) := by
        show (if y < 128 then [y] else (y % 128 + 128) :: leb k' (y / 128)) = _
        rw [if_neg (by omega)]
      have hp : 2 ^ (7 * (k' + 1)) = 2 ^ (7 * k') * 128 := by rw [show 7 * (k' + 1) = 7 * k' + 7 by omega, Nat.pow_add]
      rw [hp] at hy
      go_roundw
      case rel => exact ⟨k', y / 128, l' ++ [y % 128 + 128], by omega, by first | rfl | simp, Nat.div_lt_of_lt_mul (by omega), by rw [hle, e]; simp, by simp; omega, H1.out, HF1.out⟩
      case measure =>
        have : y / 128 < y := Nat.div_lt_self (by omega) (by omega)
        simp only [intOf]
        omega
    · have hlt' : ¬ (127 : Int) < (y : Int) := by omega
      have hwr : IntKind.u8.wrap (y : Int) = y := IntWalk.u8_in _ (by omega)
      go_wp2_with (at_builtin; refine wpl_bytes rfl _ _ rfl B u0 l' rfl (H'.out.alloc _) _ _ _ [y] rfl rfl (newsAt rfl rfl) (by simp; omega) (by simp; omega) ?_; intro v1 w1 ho1 hb1)
      go_ret
      have e : leb k y = [y] := by
        cases k with
        | zero => show [y % 128] = [y]; rw [Nat.mod_eq_of_lt (by omega)]
        | succ k => show (if y < 128 then [y] else _) = [y]; rw [if_pos (by omega)]
      refine ⟨HF.out.trans (((Ft.refl _ B wr).alloc _).trans hb1), v1, rfl, ?_⟩
      rw [HL.out, e]
      exact ho1
end Go.Proofs.Ytfdjdpbiccclfaa
namespace Go.Proofs.Ytfdjdpbiccclfaa
open Go Go.RowKit Go.Wr
set_option maxHeartbeats 1000000
set_option maxRecDepth 100000
def pcB (p : Pc) : List Nat := if p.k = 1 then [p.x.toNat] else if p.k = 2 then leb 9 p.x.toNat else leb 9 (sg p.x)
def piB (l : List Pc) : List Nat := l.flatMap pcB
theorem piB_append (l m : List Pc) : piB (l ++ m) = piB l ++ piB m := List.flatMap_append
theorem piB_cons (x : Pc) (l : List Pc) : piB (x :: l) = pcB x ++ piB l := rfl
def PcIn (p : Pc) : Prop := (p.k = 1 ∧ 0 ≤ p.x ∧ p.x < 256) ∨ (p.k = 2 ∧ 0 ≤ p.x ∧ p.x ≤ 1099511627776) ∨ (p.k = 3 ∧ -1099511627776 ≤ p.x ∧ p.x ≤ 1099511627776)
def loopP (x : Lp) : List Pc := [⟨2, x.h⟩, ⟨2, x.a⟩, ⟨2, x.b⟩, ⟨3, x.k⟩, ⟨2, x.d⟩]
def loopsP (l : List Lp) : List Pc := l.flatMap loopP
def claimsP (l : List Cl) : List Pc := l.flatMap fun c => claimP c.d c.f c.l
def deedP (d : Dd) : List Pc := [⟨2, d.ls.length⟩] ++ loopsP d.ls ++ [⟨2, d.cs.length⟩] ++ claimsP d.cs
theorem tagP_B (t : Tg) (s : Bool) : piB (tagP t s) = tagB t s := by
  unfold tagP tagB
  split
  · rfl
  · split <;> rfl
theorem regsP_B (f : Nat → Tg) (k : Nat) : piB (regsP f k) = regB f k := by
  induction k with
  | zero => rfl
  | succ k ih => rw [regsP_succ, regB_succ, piB_append, ih, tagP_B]
theorem slotP_B (f : Nat → Tg) (k : Nat) : piB (slotP f k) = slotB f k := by
  unfold slotP slotB
  split
  · rfl
  · rw [piB_cons, tagP_B]
    simp [pcB]
theorem slotsP_B (f : Nat → Tg) (k : Nat) : piB (slotsP f k) = slotsB f k := by
  induction k with
  | zero => rfl
  | succ k ih => rw [slotsP_succ, slotsB_succ, piB_append, ih, slotP_B]
theorem conP_B (x : C3) : piB (conP x) = conB x := by simp [piB, conP, pcB, conB]
theorem consP_B (l : List C3) : piB (l.flatMap conP) = l.flatMap conB := by
  induction l with
  | nil => rfl
  | cons x l ih => rw [List.flatMap_cons, List.flatMap_cons, piB_append, ih, conP_B]
theorem claimP_B (d : Bool) (f : Nat → Tg) (l : List C3) : piB (claimP d f l) = claimB d f l := by
  unfold claimP claimB
  split
  · rfl
  · simp only [piB_append, regsP_B, slotsP_B, consP, consB, consP_B, List.append_assoc]
    simp [piB, pcB]
theorem loopP_B (x : Lp) : piB (loopP x) = loopB x := by simp [piB, loopP, pcB, loopB]
theorem loopsP_B (l : List Lp) : piB (loopsP l) = loopsB l := by
  induction l with
  | nil => rfl
  | cons x l ih =>
    unfold loopsP loopsB at *
    rw [List.flatMap_cons, List.flatMap_cons, piB_append, ih, loopP_B]
theorem claimsP_B (l : List Cl) : piB (claimsP l) = claimsB l := by
  induction l with
  | nil => rfl
  | cons x l ih =>
    unfold claimsP claimsB at *
    rw [List.flatMap_cons, List.flatMap_cons, piB_append, ih, claimP_B]
theorem deedP_B (d : Dd) : piB (deedP d) = bodyB d := by
  unfold deedP bodyB
  simp only [piB_append, loopsP_B, claimsP_B]
  simp [piB, pcB]
theorem tagP_in {t : Tg} (h : TgIn t) (s : Bool) : ∀ p ∈ tagP t s, PcIn p := by
  obtain ⟨h1, h2, h3⟩ := h
  intro p hp
  unfold tagP at hp
  rcases List.mem_cons.1 hp with rfl | hp
  · exact Or.inl ⟨rfl, h1.1, by simp only; omega⟩
  · split at hp
    · simp only [List.mem_cons, List.not_mem_nil, or_false] at hp
      subst hp
      exact Or.inl ⟨rfl, h2.1, by simp only; omega⟩
    · split at hp
      · simp only [List.mem_cons, List.not_mem_nil, or_false] at hp
        subst hp
        exact Or.inl ⟨rfl, h3.1, by simp only; omega⟩
      · cases hp
theorem claimP_in {d : Bool} {f : Nat → Tg} {l : List C3} (h : ClOk d f l) : ∀ p ∈ claimP d f l, PcIn p := by
  have ht := h.tags
  have hc := h.conIn
  have hl := h.len
  have htl := toldN_le f 32
  intro p hp
  unfold claimP at hp
  split at hp
  · simp only [List.mem_cons, List.not_mem_nil, or_false] at hp
    subst hp
    exact Or.inl ⟨rfl, by simp, by simp⟩
  · simp only [List.mem_append, List.mem_cons, List.not_mem_nil, or_false] at hp
    rcases hp with ((((rfl | hp) | rfl) | hp) | rfl) | hp
    · exact Or.inl ⟨rfl, by simp, by simp⟩
    · simp only [regsP, List.mem_flatMap, List.mem_range] at hp
      obtain ⟨i, hi, hp⟩ := hp
      exact tagP_in (ht i (by omega)) _ p hp
    · exact Or.inr (Or.inl ⟨rfl, by simp, by simp only; omega⟩)
    · simp only [slotsP, List.mem_flatMap, List.mem_range] at hp
      obtain ⟨i, hi, hp⟩ := hp
      unfold slotP at hp
      split at hp
      · cases hp
      · rcases List.mem_cons.1 hp with rfl | hp
        · exact Or.inl ⟨rfl, by simp, by simp only; omega⟩
        · exact tagP_in (ht (10 + i) (by omega)) _ p hp
    · exact Or.inr (Or.inl ⟨rfl, by simp, by simp only; omega⟩)
    · simp only [consP, List.mem_flatMap] at hp
      obtain ⟨x, hx, hp⟩ := hp
      have hx' := hc x (List.mem_of_mem_take hx)
      obtain ⟨h1, h2, h3⟩ := hx'
      simp only [conP, List.mem_cons, List.not_mem_nil, or_false] at hp
      rcases hp with rfl | rfl | rfl
      · exact Or.inl ⟨rfl, h1.1, by simp only; omega⟩
      · exact Or.inl ⟨rfl, h2.1, by simp only; omega⟩
      · exact Or.inr (Or.inr ⟨rfl, h3⟩)
theorem claimP_len (d : Bool) (f : Nat → Tg) (l : List C3) : (claimP d f l).length ≤ 200 + 3 * l.length := by
  unfold claimP
  split
  · simp only [List.length_cons, List.length_nil]; omega
  · have h1 := regsP_len f 10
    have h2 := slotsP_len f 32
    have h3 := consP_len l l.length
    simp only [List.length_append, List.length_cons, List.length_nil]
    omega
theorem loopsP_len (l : List Lp) : (loopsP l).length = 5 * l.length := by
  induction l with
  | nil => rfl
  | cons x l ih =>
    unfold loopsP at *
    rw [List.flatMap_cons, List.length_append, ih]
    simp only [loopP, List.length_cons, List.length_nil]
    omega
theorem claimsP_len (l : List Cl) (h : ∀ x ∈ l, x.l.length ≤ 3540) : (claimsP l).length ≤ 20000 * l.length := by
  induction l with
  | nil => simp [claimsP]
  | cons x l ih =>
    have h1 := claimP_len x.d x.f x.l
    have h2 := h x (by simp)
    have h3 := ih fun y hy => h y (by simp [hy])
    simp only [claimsP, List.flatMap_cons, List.length_append, List.length_cons] at h3 ⊢
    omega
theorem deedP_in {d : Dd} (h : plainD d = 0) : ∀ p ∈ deedP d, PcIn p := by
  obtain ⟨n8, n512, gl, gc⟩ := plainD_all h
  intro p hp
  unfold deedP at hp
  simp only [List.mem_append, List.mem_cons, List.not_mem_nil, or_false] at hp
  rcases hp with ((rfl | hp) | rfl) | hp
  · exact Or.inr (Or.inl ⟨rfl, by simp, by simp only; omega⟩)
  · simp only [loopsP, List.mem_flatMap] at hp
    obtain ⟨x, hx, hp⟩ := hp
    obtain ⟨h1, h2, h3, h4, h5⟩ := goodLoop_iff.1 (gl x hx)
    simp only [loopP, List.mem_cons, List.not_mem_nil, or_false] at hp
    rcases hp with rfl | rfl | rfl | rfl | rfl
    · exact Or.inr (Or.inl ⟨rfl, h1.1, by simp only; omega⟩)
    · exact Or.inr (Or.inl ⟨rfl, h2.1, by simp only; omega⟩)
    · exact Or.inr (Or.inl ⟨rfl, h3.1, by simp only; omega⟩)
    · exact Or.inr (Or.inr ⟨rfl, h4⟩)
    · exact Or.inr (Or.inl ⟨rfl, h5.1, by simp only; omega⟩)
  · exact Or.inr (Or.inl ⟨rfl, by simp, by simp only; omega⟩)
  · simp only [claimsP, List.mem_flatMap] at hp
    obtain ⟨x, hx, hp⟩ := hp
    exact claimP_in (goodClaim_iff.1 (gc x hx)) p hp
theorem deedP_len {d : Dd} (h : plainD d = 0) : (deedP d).length ≤ 20000000 := by
  obtain ⟨n8, n512, gl, gc⟩ := plainD_all h
  have h1 := loopsP_len d.ls
  have h2 := claimsP_len d.cs fun x hx => (goodClaim_iff.1 (gc x hx)).len
  unfold deedP
  simp only [List.length_append, List.length_cons, List.length_nil]
  omega
theorem pcB_len (p : Pc) : (pcB p).length ≤ 10 := by
  unfold pcB
  split
  · simp
  · split
    · exact leb_len 9 _
    · exact leb_len 9 _
theorem piB_len (l : List Pc) : (piB l).length ≤ 10 * l.length := by
  induction l with
  | nil => simp [piB]
  | cons x l ih =>
    rw [piB_cons, List.length_append, List.length_cons]
    have := pcB_len x
    omega
theorem loopsP_succ {l : List Lp} {k : Nat} {x : Lp} (h : l[k]? = some x) : loopsP (l.take (k + 1)) = loopsP (l.take k) ++ loopP x := by
  rw [List.take_add_one, h]
  simp [loopsP]
theorem claimsP_succ {l : List Cl} {k : Nat} {x : Cl} (h : l[k]? = some x) : claimsP (l.take (k + 1)) = claimsP (l.take k) ++ claimP x.d x.f x.l := by
  rw [List.take_add_one, h]
  simp [claimsP]
theorem piB_succ {l : List Pc} {k : Nat} {x : Pc} (h : l[k]? = some x) : piB (l.take (k + 1)) = piB (l.take k) ++ pcB x := by
  rw [List.take_add_one, h]
  simp [piB]
theorem pcC_get {l : List Pc} {k : Nat} {x : Pc} (h : l[k]? = some x) : (pcC l)[k * 2]? = some (.int .i64 x.k) ∧ (pcC l)[k * 2 + 1]? = some (.int .i64 x.x) := by
  induction l generalizing k with
  | nil => simp at h
  | cons y l ih =>
    have e : pcC (y :: l) = .int .i64 y.k :: .int .i64 y.x :: pcC l := rfl
    rw [e]
    cases k with
    | zero =>
      simp only [List.getElem?_cons_zero, Option.some.injEq] at h
      subst h
      exact ⟨rfl, rfl⟩
    | succ k =>
      rw [List.getElem?_cons_succ] at h
      have := ih h
      rw [show (k + 1) * 2 = k * 2 + 1 + 1 by omega]
      simpa using this
theorem OwP.get {B : Nat} {w : World} {v : Value} {l : List Pc} (h : OwP B w v l) {k : Nat} {x : Pc} (hx : l[k]? = some x) :
    ∃ g cap, v = .slice (some ⟨g, 0, none⟩) l.length cap ∧ B ≤ g ∧ g < w.heap.size ∧ w.cell? ⟨g, k * 2, none⟩ = some (.int .i64 x.k) ∧ w.cell? ⟨g, k * 2 + 1, none⟩ = some (.int .i64 x.x) := by
  rcases ownp_form h with ⟨rfl, rfl⟩ | ⟨g, cap, cur, rfl, hg, hb, htk⟩
  · simp at hx
  · obtain ⟨h1, h2⟩ := pcC_get hx
    have hk : k < l.length := (List.getElem?_eq_some_iff.1 hx).1
    rw [← htk, List.getElem?_take, if_pos (by omega), Array.getElem?_toList] at h1 h2
    exact ⟨g, cap, rfl, hg, lt_of_heap hb, (hb.cell _).trans h1, (hb.cell _).trans h2⟩
end Go.Proofs.Ytfdjdpbiccclfaa
namespace Go.Proofs.Ytfdjdpbiccclfaa
open Go Go.RowKit Go.Wr
set_option maxHeartbeats 4000000
set_option maxRecDepth 100000
theorem renc_bad (w : World) (vl vc : Value) (d : Dd) (h : SlD w.heap.size w vl vc d) (hp : plainD d ≠ 0) :
    Calls Try.prog 14 #[.agg #[vl, vc]] w (EncP d w) := by
  have H := Lib.hid h
  have he : encE d = plainD d := by unfold encE; rw [if_neg hp]
  have hd : encD d = [] := by unfold encD; rw [if_neg (by rw [he]; exact hp)]
  have HE := Lib.hid he
  have HD := Lib.hid hd
  clear h he hd
  go_enter Try.func14, Try.ntmps14
  go_wp2_with fail
  refine (rplain_ok _ vl vc d ((H.out.below (bAl (bRefl w) _)).mono (by simp))).mono ?_
  rintro e w1 ⟨rfl, b1⟩
  have t1 := bThen (bAl (bRefl w) _) b1
  clear b1
  go_wp2
  go_ret2
  refine ⟨t1, .slice none 0 0, ?_, ?_⟩
  · rw [HE.out]; rfl
  · rw [HD.out]; exact owns_nil _ _
structure PD (B q : Nat) (w : World) (C : Array Value) (l : List Pc) (v : Value) (wr : World) : Prop where
  ow : OwP B wr v l
  fr : Ft 80 B w wr
  blk : Blk wr q 26 C
theorem PD.next {B q : Nat} {w wr w' : World} {C : Array Value} {l l' : List Pc} {v v' : Value} (h : PD B q w C l v wr) (hf : Ft 80 B wr w') (ho : OwP B w' v' l') : PD B q w C l' v' w' :=
  ⟨ho, h.fr.trans hf, hf.blk h.blk (by decide)⟩
theorem PD.size {B q : Nat} {w wr : World} {C : Array Value} {l : List Pc} {v : Value} (h : PD B q w C l v wr) (hB : B ≤ w.heap.size) : B ≤ wr.heap.size := Nat.le_trans hB h.fr.size
theorem OwP.keepY {B B' : Nat} {w w' : World} {v : Value} {l : List Pc} (h : OwP B w v l) (hf : Ft 5 B' w w') : OwP B w' v l := by
  obtain ⟨h1, h2⟩ := h
  refine ⟨h1, ?_⟩
  rcases h2 with h2 | ⟨g, cap, cur, rfl, hb, hh, r⟩
  · exact Or.inl h2
  · refine Or.inr ⟨g, cap, cur, rfl, hb, hf.block g _ hh (Or.inr fun C fz e => ?_), r⟩
    injection e with _ e
    exact absurd e (by decide)
theorem claimpieces_any (w : World) (B : Nat) (v : Value) (l : List Pc) (h : OwP B w v l) (hB : B ≤ w.heap.size) (hl : l.length ≤ 1099510000000) (d : Bool) (f : Nat → Tg) (vc : Value) (c : List C3) (hc : SlC B w vc c) (hcl : c.length ≤ 3600) :
    Calls Try.prog 34 #[v, .agg (bx (.bool d) f vc)] w (PuP B w (l ++ claimP d f c)) := by
  cases d with
  | true => exact claimpieces_dead w B v l h hB hl f vc c
  | false => exact claimpieces_live w B v l h hB hl f vc c hc hcl
theorem refnum_eq (w : World) (B : Nat) (v : Value) (l : List Nat) (h : OwY B w v l) (hB : B ≤ w.heap.size) (x : Nat) (hx : x < 9223372036854775808) (hl : l.length ≤ 1099511627000) {a : Int} (ha : a = (x : Int)) :
    Calls Try.prog 35 #[v, .int .i64 a] w (PuY B w (l ++ leb 9 x)) := by
  subst ha
  exact refnum_ok w B v l h hB x hx hl
theorem own_form {B : Nat} {w : World} {v : Value} {l : List Nat} (h : OwY B w v l) : ∃ a c, v = .slice a l.length c := by
  rcases h.2 with ⟨rfl, h0⟩ | ⟨g, cap, cur, rfl, _⟩
  · exact ⟨none, 0, by rw [h0]⟩
  · exact ⟨_, _, rfl⟩
theorem renc_good (w : World) (vl vc : Value) (d : Dd) (h : SlD w.heap.size w vl vc d) (hp : plainD d = 0) :
    Calls Try.prog 14 #[.agg #[vl, vc]] w (EncP d w) := by
  have H := Lib.hid h
  have hall := deedP_in hp
  have HALL := Lib.hid hall
  obtain ⟨n8, n512, gl, gc⟩ := plainD_all hp
  obtain ⟨ls, cs⟩ := d
  obtain ⟨⟨al, capl, rfl, hl⟩, ⟨ac, capc, rfl, hcl⟩, nl, nc, nb⟩ := h
  simp only at n8 n512 gl gc hl hcl
  have HL := Lib.hid hl
  have HC := Lib.hid hcl
  have HP := Lib.hid hp
  have hll : Hid (∀ x ∈ cs, x.l.length ≤ 3540) := fun x hx => (goodClaim_iff.1 (gc x hx)).len
  clear hl hcl nl nc nb gl gc hp hall
  go_enter Try.func14, Try.ntmps14
  go_wp2_with fail
  refine (rplain_ok _ _ _ ⟨ls, cs⟩ ((H.out.below (bAl (bRefl w) _)).mono (by simp))).mono ?_
  rintro e w1 ⟨rfl, b1⟩
  have p0 : PD w.heap.size w.heap.size w #[.slice al ls.length capl, .slice ac cs.length capc] [] (.slice none 0 0) w1 :=
    ⟨OwP.nil _ _, Ft.of_below (bThen (bAl (bRefl w) _) b1), (Blk.new w _ _).below b1 (Blk.new w _ _).lt⟩
  rw [HP.out]
  have P0 := Lib.hid p0
  have hB0 := p0.size (Nat.le_refl _)
  have c0 := p0.blk.cell 0
  have hql := p0.blk.lt
  simp only [List.getElem?_toArray, List.getElem?_cons_zero] at c0
  clear b1 p0 H
  go_upto_region 6 with (at_builtin; refine wpl_push rfl _ _ rfl w.heap.size (.slice none 0 0) [] rfl (P0.out.ow.alloc _) _ _ _ [⟨2, ls.length⟩] rfl rfl (newsAt rfl rfl) (by simp) (by simp; omega) ?_; intro v2 w2 ho2 hb2)
  have P1 := Lib.hid (P0.out.next (((Ft.refl _ _ w1).alloc _).trans hb2) ho2)
  clear P0 ho2 hb2 hB0 c0 hql
  go_wp2
  go_loopw [5, 6] (fun u t wr => ∃ k : Nat, k ≤ ls.length ∧ t = .int .i64 k ∧ PD w.heap.size w.heap.size w #[.slice al ls.length capl, .slice ac cs.length capc] ([⟨2, ls.length⟩] ++ loopsP (ls.take k)) u wr) (fun _ t _ => ls.length - (intOf t).toNat)
  case atStart => exact ⟨0, by omega, rfl, by simpa [loopsP] using P1.out⟩
  case round =>
    clear P1
    obtain ⟨k, hk, rfl, hq⟩ := hrel
    have HQ := Lib.hid hq
    have hBr := hq.size (Nat.le_refl _)
    have c0 := hq.blk.cell 0
    have hql := hq.blk.lt
    simp only [List.getElem?_toArray, List.getElem?_cons_zero] at c0
    by_cases hlt : k < ls.length
    · have hlt' : (k : Int) < (ls.length : Int) := by omega
      obtain ⟨x, hx⟩ : ∃ x, ls[k]? = some x := ⟨_, List.getElem?_eq_getElem hlt⟩
      obtain ⟨bb, off, ea, hbb, hra⟩ := HL.out k x hx
      subst ea
      obtain ⟨g0, g1, g2, g3, g4⟩ := lpv_range (rangeAt_below hra (hq.fr.below (Nat.le_refl _)) hbb)
      have hs := loopsP_succ hx
      have hlp := loopsP_len (ls.take k)
      have htk : (ls.take k).length ≤ 8 := by simp; omega
      have HS := Lib.hid hs
      clear hx hra hs hq
      go_upto_region 10 with (fail)
      generalize hV : (wr.alloc (.cells #[.int .i64 x.h, .int .i64 x.a, .int .i64 x.b, .int .i64 x.k, .int .i64 x.d] 54)) = V
      have r0 : Blk V wr.heap.size 54 (lpv x) := by rw [← hV]; exact Blk.new _ _ _
      have hf0 : Ft 80 w.heap.size wr V := by rw [← hV]; exact (Ft.refl _ _ _).alloc _
      have HO : Hid (OwP w.heap.size V u5 ([⟨2, ls.length⟩] ++ loopsP (ls.take k))) := by rw [← hV]; exact HQ.out.ow.alloc _
      have d0 := r0.cell 0
      have d1 := r0.cell 1
      have d2 := r0.cell 2
      have d3 := r0.cell 3
      have d4 := r0.cell 4
      simp only [lpv, List.getElem?_toArray, List.getElem?_cons_zero, List.getElem?_cons_succ] at d0 d1 d2 d3 d4
      have hvl := hf0.size
      have hvl2 := r0.lt
      clear hV r0 g0 g1 g2 g3 g4
      go_upto_region 8 with (at_builtin; refine wpl_push rfl _ _ rfl w.heap.size u5 ([⟨2, ls.length⟩] ++ loopsP (ls.take k)) rfl (HO.out.alloc _) _ _ _ (loopP x) rfl rfl (newsAt rfl rfl) (by simp [loopP]; omega) (by simp; omega) ?_; intro v2 w2 ho2 hb2)
      have P2 := Lib.hid (HQ.out.next (hf0.trans (((Ft.refl _ _ V).alloc _).trans hb2)) ho2)
      clear HO ho2 hb2 HQ d0 d1 d2 d3 d4 hf0
      go_wp2
      go_roundw
      all_goals first
        | exact ⟨k + 1, by omega, by go_num, by rw [HS.out, ← List.append_assoc]; exact P2.out⟩
        | ((repeat apply Exists.intro); exact ⟨⟨k + 1, by omega, by go_num, by rw [HS.out, ← List.append_assoc]; exact P2.out⟩, rfl⟩)
        | (simp [intOf]; omega)
    · obtain rfl : k = ls.length := by omega
      rw [List.take_length] at HQ
      have hlp := loopsP_len ls
      have c1 := hq.blk.cell 1
      simp only [List.getElem?_toArray, List.getElem?_cons_zero, List.getElem?_cons_succ] at c1
      clear hq hlt hk
      go_upto_region 12 with (at_builtin; refine wpl_push rfl _ _ rfl w.heap.size u5 _ rfl (HQ.out.ow.alloc _) _ _ _ [⟨2, cs.length⟩] rfl rfl (newsAt rfl rfl) (by simp; omega) (by simp; omega) ?_; intro v2 w2 ho2 hb2)
      obtain ⟨l1, hl1⟩ : ∃ l1, l1 = [⟨2, (ls.length : Int)⟩] ++ loopsP ls ++ [⟨2, (cs.length : Int)⟩] := ⟨_, rfl⟩
      have hll1 : l1.length ≤ 100 := by rw [hl1]; simp; omega
      have p2 := HQ.out.next (((Ft.refl _ _ wr).alloc _).trans hb2) ho2
      rw [← hl1] at p2
      have P2 := Lib.hid p2
      have HL1 := Lib.hid hl1
      clear p2 hl1 ho2 hb2 HQ c0 c1 hql hBr hlp
      go_wp2
      go_loopw [5, 8] (fun u t wr => ∃ k : Nat, k ≤ cs.length ∧ t = .int .i64 k ∧ PD w.heap.size w.heap.size w #[.slice al ls.length capl, .slice ac cs.length capc] (l1 ++ claimsP (cs.take k)) u wr) (fun _ t _ => cs.length - (intOf t).toNat)
      case atStart => exact ⟨0, by omega, rfl, by simpa [claimsP] using P2.out⟩
      case round =>
        clear P2
        obtain ⟨k, hk, rfl, hq⟩ := hrel
        have HQ := Lib.hid hq
        have hBr := hq.size (Nat.le_refl _)
        have c1 := hq.blk.cell 1
        have hql := hq.blk.lt
        simp only [List.getElem?_toArray, List.getElem?_cons_zero, List.getElem?_cons_succ] at c1
        by_cases hlt : k < cs.length
        · have hlt' : (k : Int) < (cs.length : Int) := by omega
          obtain ⟨x, hx⟩ : ∃ x, cs[k]? = some x := ⟨_, List.getElem?_eq_getElem hlt⟩
          obtain ⟨bb, off, vx, ea, hbb, hra, hsl⟩ := HC.out k x hx
          subst ea
          have hbel := hq.fr.below (Nat.le_refl _)
          have HRA := Lib.hid (rangeAt_below hra hbel hbb)
          have HSL := Lib.hid (hsl.below hbel)
          have hxl := hll.out x (List.mem_of_getElem? hx)
          have hs := claimsP_succ hx
          have hcl := claimsP_len (cs.take k) (fun y hy => hll.out y (List.mem_of_mem_take hy))
          have htk : (cs.take k).length ≤ 512 := by simp; omega
          have HS := Lib.hid hs
          clear hx hra hsl hbel hs hq
          go_wp2_with (refine wpl_loadR rfl 61 (.tmp 72) rfl bb (off + k * 128) rfl HRA.out rowClaim (bx_size _ _ _) ?_)
          refine (claimpieces_any wr w.heap.size _ _ HQ.out.ow hBr (by simp; omega) x.d x.f vx x.l HSL.out (by omega)).mono ?_
          rintro e w4 ⟨hf4, v4, rfl, ho4⟩
          have h4 := HQ.out.next hf4 ho4
          rw [List.append_assoc, ← HS.out] at h4
          have H4 := Lib.hid h4
          clear h4 hf4 ho4 HQ HRA HSL c1
          go_wp2
          go_roundw
          all_goals first
            | exact ⟨k + 1, by omega, by go_num, H4.out⟩
            | ((repeat apply Exists.intro); exact ⟨⟨k + 1, by omega, by go_num, H4.out⟩, rfl⟩)
            | (simp [intOf]; omega)
        · obtain rfl : k = cs.length := by omega
          rw [List.take_length] at HQ
          have hdp : l1 ++ claimsP cs = deedP ⟨ls, cs⟩ := by
            rw [HL1.out]
            rfl
          rw [hdp] at HQ
          have hlen := deedP_len HP.out
          obtain ⟨l, hl⟩ : ∃ l, l = deedP ⟨ls, cs⟩ := ⟨_, rfl⟩
          rw [← hl] at HQ hlen
          have hpos : 0 < l.length := by rw [hl, ← hdp, HL1.out]; simp
          have hbb := deedP_B ⟨ls, cs⟩
          rw [← hl] at hbb
          have HBB := Lib.hid hbb
          have HIN : Hid (∀ p ∈ l, PcIn p) := by
            show ∀ p ∈ l, PcIn p
            rw [hl]
            exact HALL.out
          obtain ⟨W3, rfl⟩ : ∃ x : World, x = wr := ⟨_, rfl⟩
          clear hq hlt hk hdp hl hbb HALL HL1
          go_upto_region 17 with (fail)
          generalize hV : (W3.alloc (.cells #[.int .u8 87, .int .u8 65, .int .u8 82, .int .u8 49] 5)) = V
          have hf0 : Ft 80 w.heap.size w V := by rw [← hV]; exact HQ.out.fr.alloc _
          have HO : Hid (OwP w.heap.size V u5 l) := by rw [← hV]; exact HQ.out.ow.alloc _
          have hy0 : OwY w.heap.size V (.slice (some ⟨W3.heap.size, 0, none⟩) 4 4) [87, 65, 82, 49] := by
            rw [← hV]
            exact ⟨rfl, Or.inr ⟨W3.heap.size, 4, _, rfl, hBr, heap_alloc_new W3 _, by decide, by decide, rfl, rfl⟩⟩
          have HF0 := Lib.hid hf0
          have HY0 := Lib.hid hy0
          clear hV hf0 hy0 HQ c1 hql
          go_wp2
          go_loopw [9, 10] (fun u t wr => ∃ k : Nat, k ≤ l.length ∧ t = .int .i64 k ∧ OwY w.heap.size wr u ([87, 65, 82, 49] ++ piB (l.take k)) ∧ Ft 5 w.heap.size V wr) (fun _ t _ => l.length - (intOf t).toNat)
          case atStart => exact ⟨0, by omega, rfl, by simpa [piB] using HY0.out, Ft.refl _ _ _⟩
          case round =>
            clear HY0
            obtain ⟨k, hk, rfl, hy, hf⟩ := hrel
            have HY := Lib.hid hy
            have HF := Lib.hid hf
            obtain ⟨g, pcap, rfl, hg, _⟩ := HO.out.get (List.getElem?_eq_getElem (show 0 < l.length by omega))
            have hBr := Nat.le_trans (HF0.out.size) hf.size
            have hpl := piB_len (l.take k)
            have htk : (l.take k).length ≤ l.length := by simp; omega
            by_cases hlt : k < l.length
            · have hlt' : (k : Int) < (l.length : Int) := by omega
              obtain ⟨x, hx⟩ : ∃ x, l[k]? = some x := ⟨_, List.getElem?_eq_getElem hlt⟩
              obtain ⟨g', pcap', ev, _, hgl, d0, d1⟩ := (HO.out.keepY hf).get hx
              simp only [Value.slice.injEq, Option.some.injEq, Addr.mk.injEq, and_true, true_and] at ev
              obtain ⟨rfl, rfl⟩ := ev
              have hin := HIN.out x (List.mem_of_getElem? hx)
              have hs := piB_succ hx
              obtain ⟨xk, xx⟩ := x
              unfold PcIn at hin
              simp only at d0 d1 hin
              have HS := Lib.hid hs
              clear hx hy hf hs
              rcases hin with ⟨rfl, h0, h1⟩ | ⟨rfl, h0, h1⟩ | ⟨rfl, h0, h1⟩
              · obtain ⟨n, rfl⟩ := Int.eq_ofNat_of_zero_le h0
                have hwr : IntKind.u8.wrap (n : Int) = n := IntWalk.u8_in _ (by omega)
                go_upto_region 19 with (at_builtin; refine wpl_bytes rfl _ _ rfl w.heap.size u9 _ rfl (HY.out.alloc _) _ _ _ [n] rfl rfl (newsAt rfl rfl) (by simp; omega) (by simp; omega) ?_; intro v4 w4 ho4 hb4)
                have HN := Lib.hid (And.intro ho4 (HF.out.trans (((Ft.refl _ _ wr).alloc _).trans hb4)))
                have e5 : [87, 65, 82, 49] ++ piB (l.take k) ++ [n] = [87, 65, 82, 49] ++ piB (l.take (k + 1)) := by
                  rw [HS.out, List.append_assoc]
                  simp [pcB]
                rw [e5] at HN
                clear e5 ho4 hb4 HY HF HS d0 d1
                go_wp2
                go_roundw
                all_goals first
                  | exact ⟨k + 1, by omega, by go_num, HN.out⟩
                  | ((repeat apply Exists.intro); exact ⟨⟨k + 1, by omega, by go_num, HN.out⟩, rfl⟩)
                  | (simp [intOf]; omega)
              · obtain ⟨n, rfl⟩ := Int.eq_ofNat_of_zero_le h0
                go_wp2_with fail
                refine (refnum_eq wr w.heap.size _ _ HY.out hBr n (by omega) (by simp; omega) rfl).mono ?_
                rintro e w4 ⟨hb4, v4, rfl, ho4⟩
                have HN := Lib.hid (And.intro ho4 (HF.out.trans hb4))
                have e5 : [87, 65, 82, 49] ++ piB (l.take k) ++ leb 9 n = [87, 65, 82, 49] ++ piB (l.take (k + 1)) := by
                  rw [HS.out, List.append_assoc]
                  simp [pcB]
                rw [e5] at HN
                clear e5 ho4 hb4 HY HF HS d0 d1
                go_wp2
                go_roundw
                all_goals first
                  | exact ⟨k + 1, by omega, by go_num, HN.out⟩
                  | ((repeat apply Exists.intro); exact ⟨⟨k + 1, by omega, by go_num, HN.out⟩, rfl⟩)
                  | (simp [intOf]; omega)
              · have hsg := sg_lt ⟨h0, h1⟩
                by_cases hneg : 0 ≤ xx
                · have e2 : (2 * xx : Int) = (sg xx : Int) := by unfold sg; omega
                  have E2 := Lib.hid e2
                  have hw1 : wrap64 (2 * xx) = 2 * xx := by unfold wrap64; omega
                  clear e2
                  go_wp2_with fail
                  refine (refnum_eq wr w.heap.size _ _ HY.out hBr (sg xx) (by omega) (by simp; omega) (by first | exact E2.out | (have := E2.out; omega))).mono ?_
                  rintro e w4 ⟨hb4, v4, rfl, ho4⟩
                  have HN := Lib.hid (And.intro ho4 (HF.out.trans hb4))
                  have e5 : [87, 65, 82, 49] ++ piB (l.take k) ++ leb 9 (sg xx) = [87, 65, 82, 49] ++ piB (l.take (k + 1)) := by
                    rw [HS.out, List.append_assoc]
                    simp [pcB]
                  rw [e5] at HN
                  clear e5 ho4 hb4 HY HF HS d0 d1
                  go_wp2
                  go_roundw
                  all_goals first
                    | exact ⟨k + 1, by omega, by go_num, HN.out⟩
                    | ((repeat apply Exists.intro); exact ⟨⟨k + 1, by omega, by go_num, HN.out⟩, rfl⟩)
                    | (simp [intOf]; omega)
                · have e2 : (-2 * xx - 1 : Int) = (sg xx : Int) := by unfold sg; omega
                  have E2 := Lib.hid e2
                  have hw1 : wrap64 (-2 * xx) = -2 * xx := by unfold wrap64; omega
                  have hw2 : wrap64 (-2 * xx - 1) = -2 * xx - 1 := by unfold wrap64; omega
                  clear e2
                  go_wp2_with fail
                  refine (refnum_eq wr w.heap.size _ _ HY.out hBr (sg xx) (by omega) (by simp; omega) (by first | exact E2.out | (have := E2.out; omega))).mono ?_
                  rintro e w4 ⟨hb4, v4, rfl, ho4⟩
                  have HN := Lib.hid (And.intro ho4 (HF.out.trans hb4))
                  have e5 : [87, 65, 82, 49] ++ piB (l.take k) ++ leb 9 (sg xx) = [87, 65, 82, 49] ++ piB (l.take (k + 1)) := by
                    rw [HS.out, List.append_assoc]
                    simp [pcB]
                  rw [e5] at HN
                  clear e5 ho4 hb4 HY HF HS d0 d1
                  go_wp2
                  go_roundw
                  all_goals first
                    | exact ⟨k + 1, by omega, by go_num, HN.out⟩
                    | ((repeat apply Exists.intro); exact ⟨⟨k + 1, by omega, by go_num, HN.out⟩, rfl⟩)
                    | (simp [intOf]; omega)
            · obtain rfl : k = l.length := by omega
              rw [List.take_length, HBB.out] at HY
              obtain ⟨dl, hdl⟩ : ∃ dl, dl = deedB ⟨ls, cs⟩ := ⟨_, rfl⟩
              have hdb : [87, 65, 82, 49] ++ bodyB ⟨ls, cs⟩ = dl := by rw [hdl]; rfl
              rw [hdb] at HY
              rw [List.take_length, HBB.out] at hpl
              have hdll : dl.length ≤ 1000000000 := by rw [← hdb]; simp; omega
              obtain ⟨y, cy, rfl⟩ := own_form HY.out
              have HD := Lib.hid hdl
              have hbel : Below w.heap.size w wr := (HF0.out.below (Nat.le_refl _)).trans (hf.below HF0.out.size)
              have BEL := Lib.hid hbel
              clear hdb hdl hy hf HF hlt hk hpl hbel
              by_cases hbig : 4194304 < dl.length
              · have hbig' : (4194304 : Int) < (dl.length : Int) := by omega
                have e2 : Hid (encE ⟨ls, cs⟩ = 2) := by
                  show _ = _
                  unfold encE
                  rw [if_pos HP.out, if_pos (by rw [← HD.out]; exact hbig)]
                go_wp2
                go_ret2
                refine ⟨BEL.out, .slice none 0 0, by rw [e2.out]; rfl, ?_⟩
                rw [show encD ⟨ls, cs⟩ = [] by unfold encD; rw [e2.out]; rfl]
                exact owns_nil _ _
              · have hbig' : ¬ (4194304 : Int) < (dl.length : Int) := by omega
                have e2 : Hid (encE ⟨ls, cs⟩ = 0) := by
                  show _ = _
                  unfold encE
                  rw [if_pos HP.out, if_neg (by rw [← HD.out]; exact hbig)]
                go_wp2
                go_ret2
                refine ⟨BEL.out, _, by rw [e2.out]; rfl, ?_⟩
                rw [show encD ⟨ls, cs⟩ = dl by unfold encD; rw [e2.out, if_pos rfl, HD.out]]
                exact HY.out
theorem rencode_ok (w : World) (vl vc : Value) (d : Dd) (h : SlD w.heap.size w vl vc d) : Calls Try.prog 14 #[.agg #[vl, vc]] w (EncP d w) := by
  by_cases hp : plainD d = 0
  · exact renc_good w vl vc d h hp
  · exact renc_bad w vl vc d h hp
end Go.Proofs.Ytfdjdpbiccclfaa
