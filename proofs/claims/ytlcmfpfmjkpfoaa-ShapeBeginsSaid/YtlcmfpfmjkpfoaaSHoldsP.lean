/- Leaves of Holds of shape; a state in cells; the assignment of a run's beginning. -/
import Derived.Test.YtlcmfpfmjkpfoaaSAsk
import Derived.Test.YtlcmfpfmjkpfoaaSStart
namespace Go.Proofs.Ytlcmfpfmjkpfoaa
open Go Go.RowKit Go.Wr
set_option maxHeartbeats 1000000
set_option maxRecDepth 100000

theorem held_none (w : World) (k t r x : Int) : Calls Try.prog 25 #[.agg #[.int .i64 0, .int .i64 0, .int .i64 0], .agg #[.int .i64 k, .int .i64 t, .int .i64 r, .int .i64 x]] w fun e w' => e = .returned (.tuple #[.int .i64 0, .bool true]) ∧ Below w.heap.size w w' := by
  go_enter Try.func25, Try.ntmps25
  go_wp2
  go_ret2
  exact ⟨rfl, bAl (bAl (bRefl w) _) _⟩
theorem held_ctx (w : World) (t r x : Int) : Calls Try.prog 25 #[.agg #[.int .i64 3, .int .i64 0, .int .i64 0], .agg #[.int .i64 3, .int .i64 t, .int .i64 r, .int .i64 x]] w fun e w' => e = .returned (.tuple #[.int .i64 x, .bool true]) ∧ Below w.heap.size w w' := by
  go_enter Try.func25, Try.ntmps25
  go_wp2
  refine wp_still mix (by kernel_rfl) ?_
  repeat still_step
  refine wpStill_nil ?_
  go_wp2
  go_ret2
  exact ⟨rfl, (bAl (bAl (bRefl w) _) _).drew⟩
theorem held_num (w : World) (t r x : Int) : Calls Try.prog 25 #[.agg #[.int .i64 1, .int .i64 0, .int .i64 0], .agg #[.int .i64 1, .int .i64 t, .int .i64 r, .int .i64 x]] w fun e w' => e = .returned (.tuple #[.int .i64 x, .bool true]) ∧ Below w.heap.size w w' := by
  go_enter Try.func25, Try.ntmps25
  go_wp2
  refine wp_still mix (by kernel_rfl) ?_
  repeat still_step
  refine wpStill_nil ?_
  go_wp2
  go_ret2
  exact ⟨rfl, (bAl (bAl (bRefl w) _) _).drew⟩
theorem kept_none (w : World) (S : Array Value) : Calls Try.prog 26 #[.agg #[.int .i64 0, .int .i64 0, .int .i64 0], .agg S] w fun e w' => e = .returned (.tuple #[.int .i64 0, .bool true]) ∧ Below w.heap.size w w' := by
  go_enter Try.func26, Try.ntmps26
  go_wp2
  go_ret2
  exact ⟨rfl, bAl (bAl (bRefl w) _) _⟩
theorem beyond_no (w : World) (a b c : Int) (ha : 0 ≤ a) (ha' : a ≤ 65535) (hb : 0 ≤ b) (hb' : b ≤ 65535) (hc : a - b ≤ c) : Calls Try.prog 28 #[.int .i64 a, .int .i64 b, .int .i64 c] w fun e w' => e = .returned (.bool false) ∧ w' = w := by
  have h1 : ¬ b < 0 := by omega
  have h2 : ¬ a < 0 := by omega
  have h3 : ¬ c < a - b := by omega
  go_enter Try.func28, Try.ntmps28
  go_wp2
  go_ret
  exact ⟨rfl, rfl⟩

/-- Cells told by a function. -/
def fc (n : Nat) (F : Nat → Value) : Array Value := ((List.range n).map F).toArray
theorem fc_size (n : Nat) (F : Nat → Value) : (fc n F).size = n := by simp [fc]
theorem fc_get (n : Nat) (F : Nat → Value) {i : Nat} (h : i < n) : (fc n F)[i]? = some (F i) := by
  simp only [fc, List.getElem?_toArray, List.getElem?_map]
  rw [List.getElem?_range h, Option.map_some]
theorem fc_none (n : Nat) (F : Nat → Value) {i : Nat} (h : n ≤ i) : (fc n F)[i]? = none := Array.getElem?_eq_none (by rw [fc_size]; exact h)
theorem fc_congr {n : Nat} {F G : Nat → Value} (h : ∀ i, i < n → F i = G i) : fc n F = fc n G := by
  apply Array.ext_getElem?
  intro i
  by_cases hi : i < n
  · rw [fc_get n F hi, fc_get n G hi, h i hi]
  · rw [fc_none n F (by omega), fc_none n G (by omega)]
theorem fc_set (n : Nat) (F : Nat → Value) {k : Nat} (v : Value) : (fc n F).setIfInBounds k v = fc n (fun i => if i = k then v else F i) := by
  apply Array.ext_getElem?
  intro i
  rw [Array.getElem?_setIfInBounds, fc_size]
  by_cases hi : i < n
  · rw [fc_get n (fun i => if i = k then v else F i) hi, fc_get n F hi]
    by_cases e : k = i
    · subst e; rw [if_pos rfl, if_pos hi, if_pos rfl]
    · rw [if_neg e, if_neg (Ne.symm e)]
  · rw [fc_none n (fun i => if i = k then v else F i) (by omega), fc_none n F (by omega)]
    by_cases e : k = i
    · subst e; rw [if_pos rfl, if_neg hi]
    · rw [if_neg e]
theorem fc_all (n : Nat) (F : Nat → Value) : (fc n F).extract 0 (0 + n) = fc n F := by
  apply Array.ext_getElem?
  intro i
  rw [Array.getElem?_extract]
  by_cases hi : i < n
  · rw [if_pos (by rw [fc_size]; omega), Nat.zero_add]
  · rw [if_neg (by rw [fc_size]; omega), fc_none n F (by omega)]
theorem fc_one {n : Nat} {F : Nat → Value} (h : ∀ i, (F i).oneCell' = true) : ∀ v ∈ (fc n F).toList, v.oneCell' = true := fun v hv => by
  simp only [fc, List.mem_map] at hv
  obtain ⟨i, _, rfl⟩ := hv
  exact h i

/-- The cells of a state without anything. -/
def st0 (i : Nat) : Value := if i < 44 then .int .i64 0 else if i < 460 then (if 4 ≤ (i - 44) % 13 ∧ (i - 44) % 13 < 12 then .int .u8 0 else .int .i64 0) else if i < 463 then .slice none 0 0 else if i < 465 then .int .i64 0 else .bool false
theorem zeroState : ∀ w, (zeroValue 66).run Try.prog w = .ok (.agg (fc 466 st0)) w := fun _ => by kernel_rfl
/-- A run's state at its beginning. -/
def stB (n : Int) (sl : Value) (i : Nat) : Value := if i = 43 then .int .i64 256 else if i = 40 then .int .i64 2 else if i = 11 then .int .i64 n else if i = 8 then .int .i64 1 else if i = 4 then .int .i64 3 else if i = 460 then sl else st0 i
theorem rowState : RowTy Try.prog 66 466 := ⟨_, Try.underlying66, rfl, by kernel_rfl⟩
theorem rowSlot : RowTy Try.prog 62 13 := ⟨_, Try.underlying62, rfl, by kernel_rfl⟩
theorem st0_one (i : Nat) : (st0 i).oneCell' = true := by
  unfold st0
  repeat' split
  all_goals rfl
theorem stB_one {n : Int} {sl : Value} (h : sl.oneCell' = true) (i : Nat) : (stB n sl i).oneCell' = true := by
  unfold stB
  repeat' split
  all_goals first | rfl | exact h | exact st0_one i
theorem stB_reg (n : Int) (sl : Value) {k : Nat} (h : k < 10) (h1 : k ≠ 1) (h2 : k ≠ 2) : ∀ j, j < 4 → stB n sl (k * 4 + j) = .int .i64 0 := fun j hj => by
  unfold stB
  rw [if_neg (by omega), if_neg (by omega), if_neg (by omega), if_neg (by omega), if_neg (by omega), if_neg (by omega)]
  unfold st0
  rw [if_pos (by omega)]

/-- The numbers of a run's beginning; the ghosts whatever. -/
def aB (n : Int) (G : Nat → Int) (k q : Nat) : Int := if q = 1 then n else if q = 4 then (if 3 ≤ k then n else 0) else if 44 ≤ q then G (q - 44) else 0
theorem aB_mt {lo hi n : Int} (h1 : lo ≤ n) (h2 : n ≤ hi) (f : Nat → Int) (f0 : f 0 = 0) (f1 : f 1 = n) (f3 : f 3 = 0) (f4 : f 4 = n) : Mt (mS lo hi) f := by
  have a := (mtz_with (l := [⟨0, 1, -lo⟩, ⟨1, 0, hi⟩]) (mtz_new f) (mtl_start h1 h2 f f0 f1)).2
  have b := mt_asg (x := 3) (y := 0) (c := 0) a (by omega)
  have e1 : putF f 3 (f 0 + 0) = f := by
    funext q
    unfold putF
    by_cases e : q = 3
    · subst e; rw [if_pos rfl, f0, f3]; rfl
    · rw [if_neg e]
  rw [e1] at b
  have c := mt_asg (x := 4) (y := 1) (c := 0) b (by omega)
  have e2 : putF f 4 (f 1 + 0) = f := by
    funext q
    unfold putF
    by_cases e : q = 4
    · subst e; rw [if_pos rfl, f1, f4]; omega
    · rw [if_neg e]
  rw [e2] at c
  exact c
def nb (lo : Int) (p : Nat) (B : Int) (i : Nat) : Int := if i = p then B else if i = 1 ∨ i = 4 then lo else 0
theorem nb_p (lo : Int) (p : Nat) (B : Int) : nb lo p B p = B := by unfold nb; rw [if_pos rfl]
theorem nb_o {lo B : Int} {p i : Nat} (h : i ≠ p) : nb lo p B i = if i = 1 ∨ i = 4 then lo else 0 := by unfold nb; rw [if_neg h]
theorem nb_mt {lo hi : Int} (h : lo ≤ hi) {p : Nat} (B : Int) (h0 : p ≠ 0) (h1 : p ≠ 1) (h3 : p ≠ 3) (h4 : p ≠ 4) : Mt (mS lo hi) (nb lo p B) :=
  aB_mt (Int.le_refl lo) h _ (by rw [nb_o (Ne.symm h0), if_neg (by omega)]) (by rw [nb_o (Ne.symm h1), if_pos (by omega)]) (by rw [nb_o (Ne.symm h3), if_neg (by omega)]) (by rw [nb_o (Ne.symm h4), if_pos (by omega)])
/-- Bounds stand between four variables alone. -/
theorem mS_only {lo hi : Int} (h0 : 0 ≤ lo) (h : lo ≤ hi) (h' : hi ≤ 65535) {p q : Nat} (hp : p < 60) (hq : q < 60) (hne : p ≠ q) (hb : mS lo hi p q ≠ 2305843009213693952) : (p = 0 ∨ p = 1 ∨ p = 3 ∨ p = 4) ∧ (q = 0 ∨ q = 1 ∨ q = 3 ∨ q = 4) := by
  have hr : Rng (mS lo hi) := asg_rng (asg_rng (zwith_rng topT_rng))
  have r := hr p q hp hq
  constructor
  · refine Classical.byContradiction fun hn => ?_
    have := nb_mt (p := p) h 4611686018427387904 (by omega) (by omega) (by omega) (by omega) p q hp hq hb
    rw [nb_p, nb_o (Ne.symm hne)] at this
    split at this <;> omega
  · refine Classical.byContradiction fun hn => ?_
    have := nb_mt (p := q) h (-4611686018427387904) (by omega) (by omega) (by omega) (by omega) p q hp hq hb
    rw [nb_p, nb_o hne] at this
    split at this <;> omega

theorem mem_consL {m : Nat → Nat → Int} {x : Cn} : x ∈ consL m 60 ↔ ∃ i j, i < 60 ∧ j < 60 ∧ i ≠ j ∧ m i j ≠ 2305843009213693952 ∧ x = ⟨i, j, m i j⟩ := by
  unfold consL rowL
  rw [List.mem_flatMap]
  constructor
  · rintro ⟨i, hi, hx⟩
    rw [List.mem_filterMap] at hx
    obtain ⟨j, hj, e⟩ := hx
    by_cases h : i ≠ j ∧ m i j ≠ 2305843009213693952
    · rw [if_pos h] at e
      exact ⟨i, j, List.mem_range.1 hi, List.mem_range.1 hj, h.1, h.2, by injection e with e; exact e.symm⟩
    · rw [if_neg h] at e; cases e
  · rintro ⟨i, j, hi, hj, h1, h2, rfl⟩
    refine ⟨i, List.mem_range.2 hi, ?_⟩
    rw [List.mem_filterMap]
    exact ⟨j, List.mem_range.2 hj, by rw [if_pos ⟨h1, h2⟩]⟩

end Go.Proofs.Ytlcmfpfmjkpfoaa
