/- Plain facts of ZoneHolds, and the law's far. -/
import Derived.Test.YtfpbjjdlchplnaaRSound
import Derived.Test.YtfpbjjdlchplnaaRClose
namespace Go.Proofs.YtfpbjjdlchplnaaR
open Go Go.RowKit Go.Wr
set_option maxHeartbeats 1000000

def farB (a c : Int) : Bool := decide (0 < c ∧ 9223372036854775807 - c < a) || decide (c < 0 ∧ a < -9223372036854775808 - c)

theorem far_any (a c : Int) (w : World) (ha : I64 a) (hc : I64 c) :
    Calls Try.prog 44 #[.int .i64 a, .int .i64 c] w fun e w' => e = .returned (.bool (farB a c)) ∧ w = w' := by
  obtain ⟨a1, a2⟩ := ha
  obtain ⟨c1, c2⟩ := hc
  rcases Int.lt_trichotomy c 0 with h | h | h
  · by_cases h2 : a < -9223372036854775808 - c
    · have e : farB a c = true := by unfold farB; rw [decide_eq_true (p := c < 0 ∧ _) ⟨h, h2⟩, Bool.or_true]
      rw [e]
      have h0 : ¬ 0 < c := by omega
      go_enter Try.func44, Try.ntmps44
      go_wp2
      go_ret
      exact ⟨rfl, rfl⟩
    · have e : farB a c = false := by unfold farB; rw [decide_eq_false (p := c < 0 ∧ _) (fun k => h2 k.2), decide_eq_false (fun k => by omega)]; rfl
      rw [e]
      have h0 : ¬ 0 < c := by omega
      go_enter Try.func44, Try.ntmps44
      go_wp2
      go_ret
      exact ⟨rfl, rfl⟩
  · have e : farB a c = false := by unfold farB; rw [decide_eq_false (fun k => by omega), decide_eq_false (fun k => by omega)]; rfl
    rw [e]
    have h0 : ¬ 0 < c := by omega
    have h1 : ¬ c < 0 := by omega
    clear h
    go_enter Try.func44, Try.ntmps44
    go_wp2
    go_ret
    exact ⟨rfl, rfl⟩
  · by_cases h2 : 9223372036854775807 - c < a
    · have e : farB a c = true := by unfold farB; rw [decide_eq_true (p := 0 < c ∧ _) ⟨h, h2⟩, Bool.true_or]
      rw [e]
      go_enter Try.func44, Try.ntmps44
      go_wp2
      go_ret
      exact ⟨rfl, rfl⟩
    · have e : farB a c = false := by unfold farB; rw [decide_eq_false (p := 0 < c ∧ _) (fun k => h2 k.2), decide_eq_false (fun k => by omega)]; rfl
      rw [e]
      have h0 : ¬ c < 0 := by omega
      go_enter Try.func44, Try.ntmps44
      go_wp2
      go_ret
      exact ⟨rfl, rfl⟩

theorem far_i64 {a c : Int} (ha : I64 a) (h : farB a c = false) : I64 (a + c) := by
  unfold farB at h
  rw [Bool.or_eq_false_iff, decide_eq_false_iff_not, decide_eq_false_iff_not] at h
  unfold I64 at *
  omega

/-- Numbers, each that a list names another. -/
def stF1 (c : Int) (h : Nat → Int) (v : Int) : Nat → Int := if 1 ≤ v ∧ v < 60 then putF h v.toNat c else h
def stF (f : Nat → Int) (c : Int) (l : List Int) : Nat → Int := l.foldl (stF1 c) f

theorem stF_take {f : Nat → Int} {c : Int} {l : List Int} {k : Nat} {x : Int} (h : l[k]? = some x) : stF f c (l.take (k + 1)) = stF1 c (stF f c (l.take k)) x := by
  rw [take_snoc h]
  unfold stF
  rw [List.foldl_append]
  rfl

theorem stF_i64 {c : Int} (hc : I64 c) {l : List Int} : ∀ {f : Nat → Int}, (∀ q, q < 60 → I64 (f q)) → ∀ q, q < 60 → I64 (stF f c l q) := by
  induction l with
  | nil => intro f h; exact h
  | cons v r ih =>
    intro f h
    refine ih (f := stF1 c f v) (fun q hq => ?_)
    unfold stF1
    split
    · unfold putF
      split
      · exact hc
      · exact h q hq
    · exact h q hq

theorem stF_keep {c : Int} {l : List Int} : ∀ {f : Nat → Int} {q : Nat}, opn l q = false → stF f c l q = f q := by
  induction l with
  | nil => intro f q _; rfl
  | cons v r ih =>
    intro f q h
    unfold opn at h
    rw [List.any_cons, Bool.or_eq_false_iff, decide_eq_false_iff_not] at h
    have e := ih (f := stF1 c f v) (q := q) h.2
    show stF (stF1 c f v) c r q = f q
    rw [e]
    unfold stF1
    split
    · rename_i hv
      unfold putF
      rw [if_neg (by omega)]
    · rfl

theorem max_rng {m n : Nat → Nat → Int} (h : Rng m) (k : Rng n) : Rng fun p q => max (m p q) (n p q) := fun p q hp hq => by
  have a := h p q hp hq
  have b := k p q hp hq
  show -1152921504606846976 ≤ max (m p q) (n p q) ∧ _
  simp only
  omega
theorem wid_rng {m n : Nat → Nat → Int} (h : Rng m) : Rng fun p q => wid (m p q) (n p q) := fun p q hp hq => by
  have a := h p q hp hq
  simp only
  unfold wid
  split
  · omega
  · exact a
theorem join_rng {z o : Zn} (h : Rng z.m) (k : Rng o.m) : Rng (joinZ max z o).m := by
  unfold joinZ
  split
  · exact k
  · split
    · exact h
    · exact max_rng h k
theorem widen_rng {z o : Zn} (h : Rng z.m) (k : Rng o.m) : Rng (joinZ wid z o).m := by
  unfold joinZ
  split
  · exact k
  · split
    · exact h
    · exact wid_rng h
theorem asg_rng {m : Nat → Nat → Int} (h : Rng m) (x y : Nat) (c : Int) : Rng (asgT m x y c) := fun p q hp hq => by
  unfold asgT asgW
  split
  · exact sm_rng _ _
  · split
    · exact sm_rng _ _
    · exact h p q hp hq
theorem fgtL_rng {l : List Int} : ∀ {m : Nat → Nat → Int}, Rng m → Rng (fgtL m l) := by
  induction l with
  | nil => intro m h; exact h
  | cons v r ih => intro m h; exact ih (fgt_rng h v)

theorem met_bd {l : List Cn} {f : Nat → Int} : ∀ x ∈ metL l f, -1152921504606846976 ≤ x.c ∧ x.c ≤ 1152921504606846976 := fun x hx => bd_iff.1 (wrongL_ok (met_wrong l f) x hx).2.2

end Go.Proofs.YtfpbjjdlchplnaaR
