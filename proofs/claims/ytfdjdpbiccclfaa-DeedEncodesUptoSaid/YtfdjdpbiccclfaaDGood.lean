/- The checks of deed on a loop, a tag, a bound: what they answer. -/
import Derived.Test.YtfdjdpbiccclfaaDPlain
import Derived.Test.YtfdjdpbiccclfaaDWc
import Derived.Deep.CutBlock
import Derived.Deep.DeepCutAuto
namespace Go.Proofs.Ytfdjdpbiccclfaa
open Go Go.RowKit Go.Wr
set_option maxHeartbeats 4000000
set_option maxRecDepth 100000

def inB (x lo hi : Int) : Bool := decide (lo ≤ x) && decide (x ≤ hi)
theorem inB_iff {x lo hi : Int} : inB x lo hi = true ↔ lo ≤ x ∧ x ≤ hi := by simp [inB]

theorem within_ok (w : World) (x lo hi : Int) : Calls Try.prog 67 #[.int .i64 x, .int .i64 lo, .int .i64 hi] w fun e w' => e = .returned (.bool (inB x lo hi)) ∧ w' = w := by
  unfold inB
  by_cases h1 : lo ≤ x
  · by_cases h2 : x ≤ hi
    · go_enter Try.func67, Try.ntmps67
      go_wp2
      go_ret
      exact ⟨by simp [h1, h2], rfl⟩
    · have h2' : hi < x := by omega
      go_enter Try.func67, Try.ntmps67
      go_wp2
      go_ret
      exact ⟨by simp [h2], rfl⟩
  · have h1' : x < lo := by omega
    go_enter Try.func67, Try.ntmps67
    go_wp2
    go_ret
    exact ⟨by simp; omega, rfl⟩

/-- A loop's numbers. -/
structure Lp where
  h : Int
  a : Int
  b : Int
  k : Int
  d : Int
deriving DecidableEq
def lpv (l : Lp) : Array Value := #[.int .i64 l.h, .int .i64 l.a, .int .i64 l.b, .int .i64 l.k, .int .i64 l.d]
def goodLoop (l : Lp) : Bool := inB l.h 0 511 && (inB l.a 0 59 && (inB l.b 0 59 && (inB l.k (-1099511627776) 1099511627776 && inB l.d 0 1099511627776)))

theorem goodloop_ok (w : World) (l : Lp) : Calls Try.prog 47 #[.agg (lpv l)] w fun e w' => e = .returned (.bool (goodLoop l)) ∧ Below w.heap.size w w' := by
  unfold goodLoop lpv
  go_enter Try.func47, Try.ntmps47
  go_wp2_with fail
  refine (within_ok _ _ _ _).mono ?_
  rintro e w1 ⟨rfl, rfl⟩
  cases h1 : inB l.h 0 511 with
  | false =>
    go_wp2
    go_ret
    exact ⟨by simp [*], bAl (bRefl w) _⟩
  | true =>
    go_wp2_with fail
    refine (within_ok _ _ _ _).mono ?_
    rintro e w1 ⟨rfl, rfl⟩
    cases h2 : inB l.a 0 59 with
    | false =>
      go_wp2
      go_ret
      exact ⟨by simp [*], bAl (bRefl w) _⟩
    | true =>
      go_wp2_with fail
      refine (within_ok _ _ _ _).mono ?_
      rintro e w1 ⟨rfl, rfl⟩
      cases h3 : inB l.b 0 59 with
      | false =>
        go_wp2
        go_ret
        exact ⟨by simp [*], bAl (bRefl w) _⟩
      | true =>
        go_wp2_with fail
        refine (within_ok _ _ _ _).mono ?_
        rintro e w1 ⟨rfl, rfl⟩
        cases h4 : inB l.k (-1099511627776) 1099511627776 with
        | false =>
          go_wp2
          go_ret
          exact ⟨by simp [*], bAl (bRefl w) _⟩
        | true =>
          go_wp2_with fail
          refine (within_ok _ _ _ _).mono ?_
          rintro e w1 ⟨rfl, rfl⟩
          go_wp2
          go_ret
          exact ⟨by simp [*], bAl (bRefl w) _⟩

def c3v (x : C3) : Array Value := #[.int .i64 x.i, .int .i64 x.j, .int .i64 x.c]
def goodCon (x : C3) : Bool := inB x.i 0 59 && (inB x.j 0 59 && (decide (x.i ≠ x.j) && inB x.c (-1099511627776) 1099511627776))
theorem goodcon_ok (w : World) (x : C3) : Calls Try.prog 69 #[.agg (c3v x)] w fun e w' => e = .returned (.bool (goodCon x)) ∧ Below w.heap.size w w' := by
  unfold goodCon c3v
  go_enter Try.func69, Try.ntmps69
  go_wp2_with fail
  refine (within_ok _ _ _ _).mono ?_
  rintro e w1 ⟨rfl, rfl⟩
  cases h1 : inB x.i 0 59 with
  | false =>
    go_wp2
    go_ret
    exact ⟨by simp [*], bAl (bRefl w) _⟩
  | true =>
    go_wp2_with fail
    refine (within_ok _ _ _ _).mono ?_
    rintro e w1 ⟨rfl, rfl⟩
    cases h2 : inB x.j 0 59 with
    | false =>
      go_wp2
      go_ret
      exact ⟨by simp [*], bAl (bRefl w) _⟩
    | true =>
      by_cases hne : x.i = x.j
      · go_wp2
        go_ret
        exact ⟨by simp [*], bAl (bRefl w) _⟩
      · go_wp2_with fail
        refine (within_ok _ _ _ _).mono ?_
        rintro e w1 ⟨rfl, rfl⟩
        go_wp2
        go_ret
        exact ⟨by simp [*], bAl (bRefl w) _⟩

def rises (a b : C3) : Bool := decide (a.i < b.i) || (decide (a.i = b.i) && decide (a.j < b.j))
theorem rises_ok (w : World) (a b : C3) : Calls Try.prog 70 #[.agg (c3v a), .agg (c3v b)] w fun e w' => e = .returned (.bool (rises a b)) ∧ Below w.heap.size w w' := by
  unfold rises c3v
  go_enter Try.func70, Try.ntmps70
  by_cases h1 : a.i < b.i
  · go_wp2
    go_ret
    exact ⟨by simp [h1], bAl (bAl (bRefl w) _) _⟩
  · by_cases h2 : a.i = b.i
    · rw [h2]
      go_wp2
      go_ret
      exact ⟨by simp, bAl (bAl (bRefl w) _) _⟩
    · go_wp2
      go_ret
      exact ⟨by simp; omega, bAl (bAl (bRefl w) _) _⟩

def goodTag (t : Tg) (masked : Int) : Bool := inB t.k 0 6 && (inB t.t 0 (if t.k = 5 ∨ t.k = 6 then 7 else 0) && inB t.m 0 (if t.k = 0 then masked else 0))
theorem goodtag_ok (w : World) (t : Tg) (masked : Int) : Calls Try.prog 68 #[.agg (tgv t), .int .i64 masked] w fun e w' => e = .returned (.bool (goodTag t masked)) ∧ Below w.heap.size w w' := by
  obtain ⟨R, hR⟩ : ∃ R, R = goodTag t masked := ⟨_, rfl⟩
  rw [← hR]
  have HRR := Lib.hid hR
  clear hR
  unfold tgv
  go_enter Try.func68, Try.ntmps68
  go_wp2_with fail
  refine (within_ok _ _ _ _).mono ?_
  rintro e w1 ⟨rfl, rfl⟩
  cases h1 : inB t.k 0 6 with
  | false =>
    go_wp2
    go_ret
    exact ⟨by rw [HRR.out]; simp [goodTag, h1], bAl (bRefl w) _⟩
  | true =>
    go_wp2_with fail
    refine (isrow_ok _ _).mono ?_
    rintro e w1 ⟨rfl, rfl⟩
    by_cases hr : t.k = 5 ∨ t.k = 6
    · have e1 : (t.k == 5 || t.k == 6) = true := by simpa using hr
      rw [e1]
      have HE : Hid (R = (inB t.t 0 7 && inB t.m 0 0)) := by
        show _ = _
        rw [HRR.out]
        unfold goodTag
        rw [h1, if_pos hr, if_neg (by omega), Bool.true_and]
      clear hr e1
      go_wp2_with fail
      refine (within_ok _ _ _ _).mono ?_
      rintro e w1 ⟨rfl, rfl⟩
      cases h2 : inB t.t 0 7 with
      | false =>
        go_wp2
        go_ret
        exact ⟨by rw [HE.out, h2]; rfl, bAl (bRefl w) _⟩
      | true =>
        go_wp2_with fail
        refine (within_ok _ _ _ _).mono ?_
        rintro e w1 ⟨rfl, rfl⟩
        go_wp2
        go_ret
        exact ⟨by rw [HE.out, h2]; rfl, bAl (bRefl w) _⟩
    · have e1 : (t.k == 5 || t.k == 6) = false := by simp; omega
      rw [e1]
      by_cases hz : t.k = 0
      · have HE : Hid (R = (inB t.t 0 0 && inB t.m 0 masked)) := by
          show _ = _
          rw [HRR.out]
          unfold goodTag
          rw [h1, if_neg hr, if_pos hz, Bool.true_and]
        clear hr e1
        go_wp2_with fail
        refine (within_ok _ _ _ _).mono ?_
        rintro e w1 ⟨rfl, rfl⟩
        cases h2 : inB t.t 0 0 with
        | false =>
          go_wp2
          go_ret
          exact ⟨by rw [HE.out, h2]; rfl, bAl (bRefl w) _⟩
        | true =>
          go_wp2_with fail
          refine (within_ok _ _ _ _).mono ?_
          rintro e w1 ⟨rfl, rfl⟩
          go_wp2
          go_ret
          exact ⟨by rw [HE.out, h2]; rfl, bAl (bRefl w) _⟩
      · have HE : Hid (R = (inB t.t 0 0 && inB t.m 0 0)) := by
          show _ = _
          rw [HRR.out]
          unfold goodTag
          rw [h1, if_neg hr, if_neg hz, Bool.true_and]
        clear hr e1
        go_wp2_with fail
        refine (within_ok _ _ _ _).mono ?_
        rintro e w1 ⟨rfl, rfl⟩
        cases h2 : inB t.t 0 0 with
        | false =>
          go_wp2
          go_ret
          exact ⟨by rw [HE.out, h2]; rfl, bAl (bRefl w) _⟩
        | true =>
          go_wp2_with fail
          refine (within_ok _ _ _ _).mono ?_
          rintro e w1 ⟨rfl, rfl⟩
          go_wp2
          go_ret
          exact ⟨by rw [HE.out, h2]; rfl, bAl (bRefl w) _⟩
end Go.Proofs.Ytfdjdpbiccclfaa
