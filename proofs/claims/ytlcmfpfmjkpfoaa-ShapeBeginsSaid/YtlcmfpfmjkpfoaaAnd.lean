/- and of zone: one bound added; nothing that was there is turned; the entries within range. -/
import Derived.Test.YtlcmfpfmjkpfoaaZone
import Derived.Deep.DeepCutAuto
namespace Go.Proofs.Ytlcmfpfmjkpfoaa
open Go Go.RowKit Go.Wr
set_option maxHeartbeats 1000000
set_option maxRecDepth 100000

/-- Each entry is a bound, or none. -/
def Rng (m : Nat → Nat → Int) : Prop := ∀ p q, p < 60 → q < 60 → -1152921504606846976 ≤ m p q ∧ (m p q ≤ 1152921504606846976 ∨ m p q = 2305843009213693952)

theorem sm_rng (a b : Int) : -1152921504606846976 ≤ sm a b ∧ (sm a b ≤ 1152921504606846976 ∨ sm a b = 2305843009213693952) := by
  unfold sm; split
  · omega
  · split <;> omega

theorem topT_rng : Rng topT := fun p q _ _ => by unfold topT; split <;> omega

/-- P5.2, 4: the table with a bound more. -/
def zadd (m : Nat → Nat → Int) (i j : Nat) (c : Int) (p q : Nat) : Int :=
  if sm (m p i) c = 2305843009213693952 then m p q else min (m p q) (sm (sm (m p i) c) (m j q))

theorem zadd_rng {m : Nat → Nat → Int} (h : Rng m) (i j : Nat) (c : Int) : Rng (zadd m i j c) := fun p q hp hq => by
  unfold zadd
  have h1 := h p q hp hq
  have h2 := sm_rng (sm (m p i) c) (m j q)
  split
  · exact h1
  · omega

def zand (z : Zn) (i j : Nat) (c : Int) : Zn :=
  if z.e then z else if i = j then (if 0 ≤ c then z else zvoid) else if z.m i j ≤ c then z else if sm (z.m j i) c < 0 then zvoid else zset (zadd z.m i j c)

/-- The table under way: rows below i done, and of row i the entries below j. -/
def wayP (m n : Nat → Nat → Int) (i j : Nat) (p q : Nat) : Int := if p < i ∨ (p = i ∧ q < j) then n p q else m p q

theorem wayP_zero (m n : Nat → Nat → Int) : tcells (wayP m n 0 0) = tcells m := tcells_congr fun p q _ _ => by unfold wayP; rw [if_neg (by omega)]
theorem wayP_all (m n : Nat → Nat → Int) : tcells (wayP m n 60 0) = tcells n := tcells_congr fun p q _ _ => by unfold wayP; rw [if_pos (by omega)]
theorem wayP_row (m n : Nat → Nat → Int) (i : Nat) : tcells (wayP m n i 60) = tcells (wayP m n (i + 1) 0) := tcells_congr fun p q _ _ => by
  unfold wayP
  by_cases h : p < i ∨ (p = i ∧ q < 60)
  · rw [if_pos h, if_pos (by omega)]
  · rw [if_neg h, if_neg (by omega)]
theorem wayP_skip (m n : Nat → Nat → Int) (i : Nat) (h : ∀ q, q < 60 → n i q = m i q) : tcells (wayP m n i 0) = tcells (wayP m n (i + 1) 0) := tcells_congr fun p q _ hq => by
  unfold wayP
  by_cases e : p = i
  · subst e; rw [if_neg (by omega), if_pos (by omega), h q hq]
  · by_cases h : p < i ∨ (p = i ∧ q < 0)
    · rw [if_pos h, if_pos (by omega)]
    · rw [if_neg h, if_neg (by omega)]
theorem wayP_set (m n : Nat → Nat → Int) (i j : Nat) : tcells (upd (wayP m n i j) i j (n i j)) = tcells (wayP m n i (j + 1)) := tcells_congr fun p q _ _ => by
  unfold upd wayP
  by_cases h1 : p = i ∧ q = j
  · obtain ⟨rfl, rfl⟩ := h1
    rw [if_pos ⟨rfl, rfl⟩, if_pos (by omega)]
  · rw [if_neg h1]
    by_cases h2 : p < i ∨ (p = i ∧ q < j)
    · rw [if_pos h2, if_pos (by omega)]
    · rw [if_neg h2, if_neg (by omega)]

theorem and_empty (w : World) (b : Nat) (m : Nat → Nat → Int) (hz : ZAt w b ⟨true, m⟩) (i j c : Int) :
    Calls Try.prog 32 #[.pointer (some ⟨b, 0, none⟩), .agg #[.int .i64 i, .int .i64 j, .int .i64 c]] w (RetZ w ⟨true, m⟩) := by
  have hc := hz.emp
  have hlt := hz.lt
  go_enter Try.func32, Try.ntmps32
  go_wp2
  go_ret
  exact ⟨b, rfl, Blk.alloc hz _, (Below.refl _ _).alloc (Nat.le_refl _) _⟩

theorem and_same (w : World) (b : Nat) (m : Nat → Nat → Int) (hz : ZAt w b ⟨false, m⟩) (i c : Int) (h0 : 0 ≤ c) :
    Calls Try.prog 32 #[.pointer (some ⟨b, 0, none⟩), .agg #[.int .i64 i, .int .i64 i, .int .i64 c]] w (RetZ w ⟨false, m⟩) := by
  have hc := hz.emp
  have hlt := hz.lt
  go_enter Try.func32, Try.ntmps32
  go_wp2
  go_ret
  exact ⟨b, rfl, Blk.alloc hz _, (Below.refl _ _).alloc (Nat.le_refl _) _⟩

theorem and_self (w : World) (b : Nat) (m : Nat → Nat → Int) (hz : ZAt w b ⟨false, m⟩) (i c : Int) (h0 : c < 0) :
    Calls Try.prog 32 #[.pointer (some ⟨b, 0, none⟩), .agg #[.int .i64 i, .int .i64 i, .int .i64 c]] w (RetZ w zvoid) := by
  have hc := hz.emp
  have hlt := hz.lt
  go_enter Try.func32, Try.ntmps32
  go_wp2_with (go_at_call 36; refine (void_any _).mono ?_; rintro e w1 ⟨b1, rfl, hz1, hbel1⟩)
  go_ret
  exact ⟨b1, rfl, hz1, ((Below.refl _ _).alloc (Nat.le_refl _) _).trans (hbel1.mono (by simp))⟩

theorem and_there (w : World) (b : Nat) (m : Nat → Nat → Int) (hz : ZAt w b ⟨false, m⟩) (i j : Nat) (c : Int) (hi : i < 60) (hj : j < 60) (hij : i ≠ j) (h0 : m i j ≤ c) :
    Calls Try.prog 32 #[.pointer (some ⟨b, 0, none⟩), .agg #[.int .i64 i, .int .i64 j, .int .i64 c]] w (RetZ w ⟨false, m⟩) := by
  have hc := hz.emp
  have hlt := hz.lt
  have hij' : ((i : Int) == (j : Int)) = false := by rw [beq_eq_false_iff_ne]; omega
  have hc1 := hz.entry hi hj
  have hi' : (i : Int) < 60 := by omega
  have hj' : (j : Int) < 60 := by omega
  go_enter Try.func32, Try.ntmps32
  go_wp2
  refine wp_still mix (by kernel_rfl) ?_
  repeat still_step
  refine wpStill_nil ?_
  go_wp2
  go_ret
  exact ⟨b, rfl, Blk.drew (Blk.alloc hz _), ((Below.refl _ _).alloc (Nat.le_refl _) _).drew⟩

theorem sum_eq (a b : Int) (w : World) (ha : -1152921504606846976 ≤ a) (ha' : a ≤ 2305843009213693952) (hb : -1152921504606846976 ≤ b) (hb' : b ≤ 2305843009213693952) :
    Calls Try.prog 34 #[.int .i64 a, .int .i64 b] w fun e w' => e = .returned (.int .i64 (sm a b)) ∧ w' = w :=
  (sum_any a b w ha ha' hb hb').mono fun _ _ ⟨h, k⟩ => ⟨h, k.symm⟩

theorem and_void (w : World) (b : Nat) (m : Nat → Nat → Int) (hz : ZAt w b ⟨false, m⟩) (hr : Rng m) (i j : Nat) (c : Int) (hi : i < 60) (hj : j < 60) (hij : i ≠ j) (hc1 : -1152921504606846976 ≤ c) (hc2 : c ≤ 1152921504606846976)
    (h0 : ¬ m i j ≤ c) (h1 : sm (m j i) c < 0) :
    Calls Try.prog 32 #[.pointer (some ⟨b, 0, none⟩), .agg #[.int .i64 i, .int .i64 j, .int .i64 c]] w (RetZ w zvoid) := by
  have hc := hz.emp
  have hlt := hz.lt
  have hij' : ((i : Int) == (j : Int)) = false := by rw [beq_eq_false_iff_ne]; omega
  have he1 := hz.entry hi hj
  have he2 := hz.entry hj hi
  have hi' : (i : Int) < 60 := by omega
  have hj' : (j : Int) < 60 := by omega
  have hr1 := hr j i hj hi
  go_enter Try.func32, Try.ntmps32
  go_wp2
  refine wp_still mix (by kernel_rfl) ?_
  repeat still_step
  refine wpStill_nil ?_
  go_wp2
  refine wp_still mix (by kernel_rfl) ?_
  repeat still_step
  still_call (sum_eq _ _ _ (by omega) (by omega) (by omega) (by omega))
  repeat still_step
  refine wpStill_nil ?_
  go_wp2_with (go_at_call 36; refine (void_any _).mono ?_; rintro e w1 ⟨b1, rfl, hz1, hbel1⟩)
  go_ret
  exact ⟨b1, rfl, hz1, (((Below.refl _ _).alloc (Nat.le_refl _) _).drew.drew).trans (hbel1.mono (by simp))⟩

end Go.Proofs.Ytlcmfpfmjkpfoaa
