/- The program's Dominates: does a dominate b? -/
import Derived.Test.YtpiiefdaaijgbaaFMeet
namespace Go.Proofs.Ytpiiefdaaijgbaa
open Go Go.RowKit Go.Wr Go.Fl
set_option maxHeartbeats 4000000
set_option maxRecDepth 100000
open Classical in
/-- a dominates b, both blocks. -/
noncomputable def domB (nx : Nat → List Nat) (n : Nat) (a b : Int) : Bool := decide (0 ≤ a ∧ a < n ∧ 0 ≤ b ∧ b < n ∧ Dom nx a.toNat b.toNat)
theorem domB_yes {nx : Nat → List Nat} {n : Nat} {a b : Nat} (ha : a < n) (hb : b < n) (h : Dom nx a b) : domB nx n a b = true := by
  unfold domB; exact @decide_eq_true _ (_) ⟨by omega, by omega, by omega, by omega, h⟩
theorem domB_no {nx : Nat → List Nat} {n : Nat} {a b : Nat} (h : ¬ Dom nx a b) : domB nx n a b = false := by
  unfold domB; exact @decide_eq_false _ (_) fun k => h k.2.2.2.2
theorem domB_out {nx : Nat → List Nat} {n : Nat} {a b : Int} (h : ¬ (0 ≤ a ∧ a < n ∧ 0 ≤ b ∧ b < n)) : domB nx n a b = false := by
  unfold domB; exact @decide_eq_false _ (_) fun k => h ⟨k.1, k.2.1, k.2.2.1, k.2.2.2.1⟩
theorem domB_iff {nx : Nat → List Nat} {n : Nat} {a b : Nat} (ha : a < n) (hb : b < n) : domB nx n a b = true ↔ Dom nx a b := by
  constructor
  · intro h
    unfold domB at h
    exact (@of_decide_eq_true _ (_) h).2.2.2.2
  · exact domB_yes ha hb
theorem dominates_ok (w : World) (p n : Nat) (nx : Nat → List Nat) (pl : Nat → Nat) (d : Nat → Option Nat) (ah : Nat → List Nat) (g : Gr nx pl n ah) (hI : Idom nx pl n d) (b4 o4 b5 o5 c4 c5 : Nat) (h : Pd p n pl d ⟨b4, o4, none⟩ ⟨b5, o5, none⟩ c4 c5 w)
    (ab : Option Addr) (cb : Nat) (hf : w.cell? ⟨p, 0, none⟩ = some (.slice ab n cb)) (a b : Int) :
    Calls Try.prog 28 #[.pointer (some ⟨p, 0, none⟩), .int .i64 a, .int .i64 b] w fun e w' => e = .returned (.bool (domB nx n a b)) ∧ ∃ k, w' = w.drewN k := by
  by_cases hin : 0 ≤ a ∧ a < n ∧ 0 ≤ b ∧ b < n
  · obtain ⟨h1, h2, h3, h4⟩ := hin
    obtain ⟨x, rfl⟩ := Int.eq_ofNat_of_zero_le h1
    obtain ⟨y0, rfl⟩ := Int.eq_ofNat_of_zero_le h3
    have hx : x < n := by omega
    have hy0 : y0 < n := by omega
    obtain ⟨r, hr⟩ : ∃ r, r = domB nx n (x : Int) (y0 : Int) := ⟨_, rfl⟩
    rw [← hr]
    have HR := Lib.hid hr
    have H := Lib.hid h
    have HI := Lib.hid hI
    have HG := Lib.hid g
    clear h hI g hr
    go_enter Try.func28, Try.ntmps28
    go_wp2
    go_loopw [2] (fun t2 wr => ∃ (y k : Nat), t2 = .int .i64 (y : Int) ∧ wr = w.drewN k ∧ y < n ∧ Hid (Dom nx x y ↔ Dom nx x y0)) (fun t2 _ => pl (intOf t2).toNat)
    case atStart => exact ⟨y0, 0, rfl, rfl, hy0, Iff.rfl⟩
    case round =>
      obtain ⟨y, k, rfl, hw, hy, hq⟩ := hrel
      have HK := Lib.hid (H.out.drewN k)
      rw [← hw] at HK
      have HW := Lib.hid hw
      clear hw
      have f4 := HK.out.f4
      have f5 := HK.out.f5
      have px := HK.out.p4 x hx
      have py := HK.out.p4 y hy
      have dy := HK.out.p5 y hy
      simp only at px py dy
      have hyi : (y : Int) < (n : Int) := by omega
      have hy0i : (0 : Int) ≤ (y : Int) := by omega
      by_cases hgt : pl x < pl y
      · have hgt' : decide ((pl x : Int) < (pl y : Int)) = true := decide_eq_true (by omega)
        have hgt2 : (pl x : Int) < (pl y : Int) := by omega
        obtain ⟨z, hz, _⟩ := HI.out.dm y hy
        rw [hz] at dy
        have dy2 : wr.cell? ⟨b5, o5 + y, none⟩ = some (.int .i64 (z : Int)) := dy
        have hy0' : y ≠ 0 := fun e => by subst e; have := HG.out.p0; omega
        have hzlt := HI.out.tb.lt y z hz hy0'
        have hzn := (HI.out.tb.bd y z hz).2.1
        have hqz : Hid (Dom nx x z ↔ Dom nx x y0) := (HI.out.climb_step hy hgt hz).trans hq.out
        clear dy hz hq
        go_upto_region 4 with (fail)
        go_quiet (fail)
        go_wp2
        go_roundw
        all_goals first
          | exact ⟨z, k + nq, rfl, by rw [HW.out]; simp, hzn, hqz⟩
          | ((repeat apply Exists.intro); exact ⟨⟨z, k + nq, rfl, by rw [HW.out]; simp, hzn, hqz⟩, rfl⟩)
          | (simp [intOf]; omega)
      · have hgt' : decide ((pl x : Int) < (pl y : Int)) = false := decide_eq_false (by omega)
        have hgt2 : (pl y : Int) ≤ (pl x : Int) := by omega
        have hc := HI.out.climb HG.out hx hy (by omega)
        have e1 : Hid (r = ((x : Int) == (y : Int))) := by
          show _ = _
          rw [HR.out, Bool.eq_iff_iff, domB_iff hx hy0, ← hq.out, ← hc, beq_iff_eq]
          omega
        clear hq hc
        go_upto_region 4 with (fail)
        go_quiet (fail)
        have HW5 := Lib.hid (show wr.drewN nq = w.drewN (k + nq) by rw [HW.out]; simp)
        go_wp2
        go_ret
        exact ⟨retB e1.out.symm, _, HW5.out⟩
  · have e1 := Lib.hid (domB_out (nx := nx) hin)
    generalize domB nx n a b = r at *
    clear h hI g
    by_cases h1 : a < 0
    · go_enter Try.func28, Try.ntmps28
      go_wp2
      go_ret
      exact ⟨retB e1.out.symm, 0, rfl⟩
    · by_cases h2 : (n : Int) ≤ a
      · have h1' : 0 ≤ a := by omega
        go_enter Try.func28, Try.ntmps28
        go_wp2
        go_ret
        exact ⟨retB e1.out.symm, 0, rfl⟩
      · have h1' : 0 ≤ a := by omega
        have h2' : a < (n : Int) := by omega
        by_cases h3 : b < 0
        · go_enter Try.func28, Try.ntmps28
          go_wp2
          go_ret
          exact ⟨retB e1.out.symm, 0, rfl⟩
        · have h3' : 0 ≤ b := by omega
          have h4' : (n : Int) ≤ b := by omega
          clear hin h1 h2 h3
          go_enter Try.func28, Try.ntmps28
          go_wp2
          go_ret
          exact ⟨retB e1.out.symm, 0, rfl⟩
end Go.Proofs.Ytpiiefdaaijgbaa
