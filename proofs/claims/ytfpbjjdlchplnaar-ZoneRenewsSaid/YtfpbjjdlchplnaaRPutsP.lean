/- Plain facts of ZonePuts; sixty bounds in cells. No program but the make of such a row. -/
import Derived.Test.YtfpbjjdlchplnaaRSound
import Derived.Test.YtfpbjjdlchplnaaRPut
namespace Go.Proofs.YtfpbjjdlchplnaaR
open Go Go.RowKit Go.Wr

/-- Cells of sixty bounds, each there or not. -/
def pcells (r : Nat → Bool × Int) : Array Value := ((List.range 120).map fun k => if k % 2 = 0 then Value.bool (r (k / 2)).1 else Value.int .i64 (r (k / 2)).2).toArray
theorem pcells_size (r : Nat → Bool × Int) : (pcells r).size = 120 := by simp [pcells]
theorem pcells_at (r : Nat → Bool × Int) {k : Nat} (hk : k < 120) : (pcells r)[k]? = some (if k % 2 = 0 then Value.bool (r (k / 2)).1 else Value.int .i64 (r (k / 2)).2) := by
  simp only [pcells, List.getElem?_toArray, List.getElem?_map]
  rw [List.getElem?_range hk, Option.map_some]
theorem pcells_get (r : Nat → Bool × Int) {k : Nat} (hk : k < 60) : (pcells r)[k * 2]? = some (.bool (r k).1) ∧ (pcells r)[k * 2 + 1]? = some (.int .i64 (r k).2) := by
  constructor
  · rw [pcells_at _ (by omega), if_pos (by omega), show k * 2 / 2 = k by omega]
  · rw [pcells_at _ (by omega), if_neg (by omega), show (k * 2 + 1) / 2 = k by omega]
theorem pcells_congr {r s : Nat → Bool × Int} (h : ∀ k, k < 60 → r k = s k) : pcells r = pcells s := by
  apply Array.ext_getElem?
  intro i
  by_cases hi : i < 120
  · rw [pcells_at _ hi, pcells_at _ hi, h _ (by omega)]
  · rw [Array.getElem?_eq_none (by rw [pcells_size]; omega), Array.getElem?_eq_none (by rw [pcells_size]; omega)]
def putP (r : Nat → Bool × Int) (k : Nat) (y : Bool × Int) (q : Nat) : Bool × Int := if q = k then y else r q
theorem pcells_set (r : Nat → Bool × Int) {k : Nat} (hk : k < 60) (y : Bool × Int) : ((pcells r).setIfInBounds (k * 2) (.bool y.1)).setIfInBounds (k * 2 + 1) (.int .i64 y.2) = pcells (putP r k y) := by
  apply Array.ext_getElem?
  intro i
  rw [Array.getElem?_setIfInBounds, Array.getElem?_setIfInBounds, Array.size_setIfInBounds, pcells_size]
  by_cases hi : i < 120
  · rw [pcells_at _ hi, pcells_at _ hi]
    unfold putP
    by_cases e1 : k * 2 + 1 = i
    · subst e1
      rw [if_pos rfl, if_pos (by omega), if_neg (by omega), if_pos (by omega)]
    · rw [if_neg e1]
      by_cases e2 : k * 2 = i
      · subst e2
        rw [if_pos rfl, if_pos (by omega), if_pos (by omega), if_pos (by omega)]
      · have e3 : ¬ i / 2 = k := by omega
        rw [if_neg e2]
        simp only [e3, if_false]
  · rw [Array.getElem?_eq_none (by rw [pcells_size]; omega), Array.getElem?_eq_none (by rw [pcells_size]; omega)]
    rw [if_neg (by omega), if_neg (by omega)]
theorem makeP60 (w : World) : (Instr.makeSlice 68 (.int .i64 60) (.int .i64 60)).run Try.prog w = .ok (.slice (some ⟨w.heap.size, 0, none⟩) 60 60) (w.alloc (.cells (pcells fun _ => (false, 0)) 28)) := by kernel_rfl

def bndL (r : Nat → Bool × Int) : List (Bool × Int) := (List.range 60).map r
theorem bndL_len (r : Nat → Bool × Int) : (bndL r).length = 60 := by simp [bndL]
theorem bndL_get (r : Nat → Bool × Int) {k : Nat} (hk : k < 60) : (bndL r).getD k (false, 0) = r k := by
  unfold bndL
  rw [List.getD_eq_getElem?_getD, List.getElem?_map, List.getElem?_range hk]; rfl
theorem SlB.blk {w : World} {g : Nat} {T : TypeId} {r : Nat → Bool × Int} (h : Blk w g T (pcells r)) : SlB w (.slice (some ⟨g, 0, none⟩) 60 60) (bndL r) := by
  refine ⟨some ⟨g, 0, none⟩, 60, by rw [bndL_len], by rw [bndL_len]; omega, fun k x hx => ⟨g, 0, rfl, ?_⟩⟩
  have hk : k < 60 := by have := (List.getElem?_eq_some_iff.1 hx).1; rwa [bndL_len] at this
  have e : r k = x := by
    unfold bndL at hx
    rw [List.getElem?_map, List.getElem?_range hk] at hx
    simpa using hx
  have := pcells_get r hk
  rw [e] at this
  rw [Nat.zero_add]
  exact ⟨(h.cell _).trans this.1, (h.cell _).trans this.2⟩

/-- The bounds that are within the limits and that the numbers meet. -/
def upF (ul : List Int) (f : Nat → Int) (v : Int) (k : Nat) : Bool × Int := match ul[k]? with
  | some c => if (bd c && !decide (c < v - f k)) = true then (true, c) else (false, 0)
  | none => (false, 0)
def dnF (ul : List Int) (f : Nat → Int) (v : Int) (k : Nat) : Bool × Int := match ul[k]? with
  | some c => if (bd c && !decide (c < f k - v)) = true then (true, c) else (false, 0)
  | none => (false, 0)
def wayB (r : Nat → Bool × Int) (n q : Nat) : Bool × Int := if q < n then r q else (false, 0)

theorem upF_is {ul : List Int} {f : Nat → Int} {v : Int} {k : Nat} (h : (upF ul f v k).1 = true) : bd (upF ul f v k).2 = true ∧ v - f k ≤ (upF ul f v k).2 := by
  unfold upF at *
  cases e : ul[k]? with
  | none => rw [e] at h; cases h
  | some c =>
    rw [e] at h
    simp only at h ⊢
    split
    · rename_i hc
      simp only [Bool.and_eq_true, Bool.not_eq_true', decide_eq_false_iff_not] at hc
      exact ⟨hc.1, by simp only; omega⟩
    · rename_i hc; rw [if_neg hc] at h; cases h
theorem dnF_is {ul : List Int} {f : Nat → Int} {v : Int} {k : Nat} (h : (dnF ul f v k).1 = true) : bd (dnF ul f v k).2 = true ∧ f k - v ≤ (dnF ul f v k).2 := by
  unfold dnF at *
  cases e : ul[k]? with
  | none => rw [e] at h; cases h
  | some c =>
    rw [e] at h
    simp only at h ⊢
    split
    · rename_i hc
      simp only [Bool.and_eq_true, Bool.not_eq_true', decide_eq_false_iff_not] at hc
      exact ⟨hc.1, by simp only; omega⟩
    · rename_i hc; rw [if_neg hc] at h; cases h

theorem okTo_bnd {x : Nat} {r : Nat → Bool × Int} (h : ∀ k, k < 60 → k ≠ x → (r k).1 = true → bd (r k).2 = true) : okTo x (bndL r) 60 = true := by
  unfold okTo
  rw [List.all_eq_true]
  intro k hk
  have hk' := List.mem_range.1 hk
  unfold okE
  rw [bndL_get r hk']
  by_cases e : k = x
  · simp [e]
  · cases e2 : (r k).1 with
    | false => simp
    | true => rw [h k hk' e e2]; simp
theorem abv_bnd {x : Nat} {r : Nat → Bool × Int} {k : Nat} (hk : k < 60) : abv x (bndL r) k = if k ≠ x ∧ (r k).1 = true then (r k).2 else 2305843009213693952 := by
  unfold abv; rw [bndL_get r hk]

/-- What ZonePuts holds against the answer. -/
structure PutsFacts (m : Nat → Nat → Int) (f : Nat → Int) (x : Nat) (v : Int) (ru rd : Nat → Bool × Int) (z : Zn) : Prop where
  okU : okTo x (bndL ru) 60 = true
  okD : okTo x (bndL rd) 60 = true
  eq : zset (putT m x (bndL ru) (bndL rd)) = z
  e : z.e = false
  meets : meetsB z (putF f x v) = true
  up : ∀ k, k < 60 → k ≠ x → (ru k).1 = true → bndZ z (x : Int) (k : Int) = (true, z.m x k) ∧ z.m x k ≤ (ru k).2
  dn : ∀ k, k < 60 → k ≠ x → (rd k).1 = true → bndZ z (k : Int) (x : Int) = (true, z.m k x) ∧ z.m k x ≤ (rd k).2

theorem puts_facts {m : Nat → Nat → Int} {f : Nat → Int} {x : Nat} {v : Int} {ru rd : Nat → Bool × Int} (h : Mt m f) (hr : Rng m) (hd : ∀ p, p < 60 → m p p = 0) (hx1 : 1 ≤ x) (hx : x < 60)
    (hu : ∀ k, k < 60 → k ≠ x → (ru k).1 = true → bd (ru k).2 = true ∧ v - f k ≤ (ru k).2) (hl : ∀ k, k < 60 → k ≠ x → (rd k).1 = true → bd (rd k).2 = true ∧ f k - v ≤ (rd k).2) :
    ∃ z, PutsFacts m f x v ru rd z := by
  have okU : okTo x (bndL ru) 60 = true := okTo_bnd fun k hk hkx he => (hu k hk hkx he).1
  have okD : okTo x (bndL rd) 60 = true := okTo_bnd fun k hk hkx he => (hl k hk hkx he).1
  have hp : PutF f x v (bndL ru) (bndL rd) := ⟨fun k hk hb => by
    rw [abv_bnd hk] at hb ⊢
    by_cases c : k ≠ x ∧ (ru k).1 = true
    · rw [if_pos c]; exact (hu k hk c.1 c.2).2
    · rw [if_neg c] at hb; exact absurd rfl hb, fun k hk hb => by
    rw [abv_bnd hk] at hb ⊢
    by_cases c : k ≠ x ∧ (rd k).1 = true
    · rw [if_pos c]; exact (hl k hk c.1 c.2).2
    · rw [if_neg c] at hb; exact absurd rfl hb⟩
  have ht := mtz_set (mt_put h hr hp hx1 hx)
  have hm := mt_put h hr hp hx1 hx
  have hz : zset (putT m x (bndL ru) (bndL rd)) = ⟨false, putT m x (bndL ru) (bndL rd)⟩ := zset_zone fun p hpl => by
    by_cases e : putT m x (bndL ru) (bndL rd) p p = 2305843009213693952
    · omega
    · have := hm p p hpl hpl e; omega
  refine ⟨⟨false, putT m x (bndL ru) (bndL rd)⟩, okU, okD, hz, rfl, hm.meets, fun k hk hkx he => ?_, fun k hk hkx he => ?_⟩
  · have h1 := (put_own (x := x) hd okU okD hk hkx).1
    rw [abv_bnd hk, if_pos ⟨hkx, he⟩] at h1
    have h2 := (put_row (m := m) (lu := bndL ru) (ld := bndL rd) hk hkx).1
    have h3 := bd_iff.1 (hu k hk hkx he).1
    exact ⟨bndZ_some hx hk (by rw [h2]; omega), by show putT m x (bndL ru) (bndL rd) x k ≤ _; rw [h2]; exact h1⟩
  · have h1 := (put_own (x := x) hd okU okD hk hkx).2
    rw [abv_bnd hk, if_pos ⟨hkx, he⟩] at h1
    have h2 := (put_row (m := m) (lu := bndL ru) (ld := bndL rd) hk hkx).2
    have h3 := bd_iff.1 (hl k hk hkx he).1
    exact ⟨bndZ_some hk hx (by rw [h2]; omega), by show putT m x (bndL ru) (bndL rd) k x ≤ _; rw [h2]; exact h1⟩

end Go.Proofs.YtfpbjjdlchplnaaR
