/- The document's check of a list of instructions. -/
import Derived.Test.YtpiiefdaaijgbaaFRc
import Derived.Test.YtpiiefdaaijgbaaFRe
namespace Go.Proofs.Ytpiiefdaaijgbaa
open Go Go.RowKit Go.Wr Go.Fl
set_option maxHeartbeats 4000000
set_option maxRecDepth 100000

theorem rcheck_ok (w : World) (p : Nat) (v : Value) (l : List In) (h : SlX tN p w v l) :
    Calls Try.prog 71 #[v] w fun e w' => e = .returned (.tuple #[.int .i64 (chk 0 l).1, .int .i64 (chk 0 l).2]) ∧ Below w.heap.size w w' := by
  obtain ⟨r, hr⟩ : ∃ r, r = chk 0 l := ⟨_, rfl⟩
  rw [← hr]
  have HR := Lib.hid hr
  obtain ⟨a0, cap, rfl, h1, h2⟩ := h.form
  have H := Lib.hid h
  unfold maxLen at h2
  clear hr h
  go_enter Try.func71, Try.ntmps71
  go_wp2_with fail
  refine (rows_ok _).mono ?_
  rintro e w1 ⟨b1, vr, rfl, orr⟩
  obtain ⟨q, hq⟩ : ∃ q, vr.ownBlock ≠ some q := by
    cases hv : vr.ownBlock with
    | none => exact ⟨0, by simp⟩
    | some g => exact ⟨g + 1, by simp⟩
  have HV := Lib.hid (orr.sl hq)
  have H1 := Lib.hid (H.out.below b1)
  clear orr hq H
  go_wp2
  go_loopw [5] (fun t wr => ∃ k : Nat, k ≤ l.length ∧ t = .int .i64 (k : Int) ∧ Hid (r = chk k (l.drop k)) ∧ Below w1.heap.size w1 wr) (fun t _ => l.length - (intOf t).toNat)
  case atStart => exact ⟨0, by omega, rfl, HR.out, bRefl w1⟩
  case round =>
    clear HR
    obtain ⟨k, hk, rfl, hq, hb⟩ := hrel
    have htot := bThen b1 hb
    by_cases hlt : k < l.length
    · have hlt' : (k : Int) < (l.length : Int) := by omega
      obtain ⟨x, hx⟩ : ∃ x, l[k]? = some x := ⟨_, List.getElem?_eq_getElem hlt⟩
      have hd : l.drop k = x :: l.drop (k + 1) := by
        rw [List.drop_eq_getElem_cons hlt]
        rw [List.getElem?_eq_getElem hlt] at hx
        injection hx with hx
        rw [hx]
      have hq2 := hq.out
      rw [hd, chk_cons] at hq2
      obtain ⟨bb, off, rfl, hne, hat⟩ := (H1.out.below hb).get hx
      obtain ⟨c0, c1, c2, c3, c4, c5, c6, c7⟩ := at_ins hat
      have e8 : tN.n = 8 := rfl
      rw [e8] at c0 c1 c2 c3 c4 c5 c6 c7
      have HVk := Lib.hid (HV.out.below hb)
      clear hq hd hx hat e8
      have HQ := Lib.hid hq2
      clear hq2
      by_cases h4 : k = 4096
      · have e1 : Hid (r = (k, 25)) := by show _ = _; rw [HQ.out, if_pos h4]
        subst h4
        clear HQ
        go_wp2
        go_ret2
        exact ⟨retT (by rw [e1.out]) (by rw [e1.out]), htot⟩
      · have HQ2 := Lib.hid (HQ.out.trans (if_neg h4))
        have h4' : ((k : Int) == 4096) = false := by simp; omega
        clear HQ h4
        go_wp2_with fail
        refine (right2_ok _ q _ x HVk.out).mono ?_
        rintro e w2 ⟨rfl, b2⟩
        rw [right_eq]
        have t2 := bThen htot b2
        have t3 := bThen hb b2
        clear b2
        by_cases hr0 : right x = 0
        · have e1 : Hid (r = chk (k + 1) (l.drop (k + 1))) := by show _ = _; rw [HQ2.out, if_pos hr0]
          rw [hr0]
          clear HQ2 hr0 hb
          go_wp2
          go_roundw
          all_goals first
            | exact ⟨k + 1, by omega, by go_num, e1, t3⟩
            | ((repeat apply Exists.intro); exact ⟨⟨k + 1, by omega, by go_num, e1, t3⟩, rfl⟩)
            | (simp [intOf]; omega)
        · have e1 : Hid (r = (k, right x)) := by show _ = _; rw [HQ2.out, if_neg hr0]
          have hr0' : (right x != 0) = true := by simpa using hr0
          generalize right x = qq at *
          clear HQ2 hr0 hb
          go_wp2
          go_ret2
          exact ⟨retT (by rw [e1.out]) (by rw [e1.out]), t2⟩
    · obtain rfl : k = l.length := by omega
      have e1 : Hid (r = (0, 0)) := by show _ = _; rw [hq.out, List.drop_length]; rfl
      clear hlt hq
      go_wp2
      go_ret2
      exact ⟨retT (by rw [e1.out]; rfl) (by rw [e1.out]), htot⟩
end Go.Proofs.Ytpiiefdaaijgbaa
