/- The document's error of an instruction: Right. -/
import Derived.Test.YtpiiefdaaijgbaaFRb
namespace Go.Proofs.Ytpiiefdaaijgbaa
open Go Go.RowKit Go.Wr Go.Fl
set_option maxHeartbeats 4000000
set_option maxRecDepth 100000

def cC (x : In) (y : Rw) : Bool := (y.dst != -1 && x.dst != 0) || (y.src != -1 && x.src != 0) || (y.off != -1 && x.off != 0) || decide (x.off < -32768) || decide (32767 < x.off)
def cD (x : In) (y : Rw) : Bool := y.imm != -1 && y.second != -1 && x.imm != 0
def cE (y : Rw) : Bool := y.imm == -1 || y.second == -1
theorem rightR1_eq (x : In) (y : Rw) : rightR1 x y = if regsR y x.dst x.src x.imm = false then 22 else if cC x y = true then 23 else if cD x y = true then 24 else if (cE y && !goodR y x.imm) = true then 24 else 0 := by
  unfold rightR1 cC cD cE
  congr 1
  have e1 : ((y.dst ≠ -1 ∧ x.dst ≠ 0) ∨ (y.src ≠ -1 ∧ x.src ≠ 0) ∨ (y.off ≠ -1 ∧ x.off ≠ 0) ∨ x.off < -32768 ∨ 32767 < x.off) ↔ ((y.dst != -1 && x.dst != 0) || (y.src != -1 && x.src != 0) || (y.off != -1 && x.off != 0) || decide (x.off < -32768) || decide (32767 < x.off)) = true := by
    simp [or_assoc]
  have e2 : (y.imm ≠ -1 ∧ y.second ≠ -1 ∧ x.imm ≠ 0) ↔ (y.imm != -1 && y.second != -1 && x.imm != 0) = true := by simp [and_assoc]
  have e3 : ((y.imm = -1 ∨ y.second = -1) ∧ goodR y x.imm = false) ↔ ((y.imm == -1 || y.second == -1) && !goodR y x.imm) = true := by simp
  simp only [e1, e2, e3]
theorem right2_ok (w : World) (p : Nat) (v : Value) (x : In) (h : SlX tR p w v rows) : Calls Try.prog 108 #[v, .agg (inv x)] w fun e w' => e = .returned (.int .i64 (rightR x)) ∧ Below w.heap.size w w' := by
  obtain ⟨R, hR⟩ : ∃ R, R = rightR x := ⟨_, rfl⟩
  rw [← hR]
  unfold rightR at hR
  obtain ⟨L, hL⟩ : ∃ L, L = rows := ⟨_, rfl⟩
  rw [← hL] at h hR
  have HR := Lib.hid hR
  obtain ⟨a0, cap, rfl, _, _⟩ := h.form
  have H := Lib.hid h
  clear hR h hL
  have hv : inv x = #[.int .i64 x.op, .bool x.nar, .bool x.reg, .int .i64 x.sz, .int .i64 x.dst, .int .i64 x.src, .int .i64 x.off, .int .i64 x.imm] := rfl
  rw [hv]
  go_enter Try.func108, Try.ntmps108
  go_upto_region 1 with (fail)
  rw [← hv]
  generalize hW : w.alloc (.cells (inv x) 57) = W
  have PW : Blk W w.heap.size 57 (inv x) := by rw [← hW]; exact Blk.new _ _ _
  have bW : Below w.heap.size w W := by rw [← hW]; exact bAl (bRefl w) _
  obtain ⟨c0, c1, c2, c3, c4, c5, c6, c7⟩ := inv_cells PW
  have HP := Lib.hid PW
  have HB := Lib.hid (H.out.below bW)
  clear hW PW hv H
  go_wp2_with fail
  refine (find_ok _ p _ L x HB.out).mono ?_
  rintro e w1 ⟨he, b1⟩
  have P1 := HP.out.below b1 HP.out.lt
  have t1 := bThen bW b1
  obtain ⟨c0, c1, c2, c3, c4, c5, c6, c7⟩ := inv_cells P1
  have hpx := P1.lt
  have HP1 := Lib.hid P1
  clear HP bW b1 P1 HB
  cases hf : L.find? (fit x.op x.sz x.nar x.reg) with
  | none =>
    rw [hf] at he
    have e1 : Hid (R = 21) := by show _ = _; rw [HR.out, hf]
    obtain rfl := (show e = _ from he)
    clear HR hf
    unfold rwa zrw
    go_wp2
    go_ret
    exact ⟨retI e1.out.symm, t1.alloc t1.size _⟩
  | some y =>
    rw [hf] at he
    have e1 : Hid (R = rightR1 x y) := by show _ = _; rw [HR.out, hf]
    obtain rfl := (show e = _ from he)
    rw [rightR1_eq] at e1
    clear HR hf
    have hy : rwa y = #[.int .i64 y.code, .int .i64 y.op, .int .i64 y.sz, .bool y.nar, .bool y.reg, .int .i64 y.dst, .int .i64 y.src, .int .i64 y.off, .int .i64 y.imm, .int .i64 y.second, .bool y.wr] := rfl
    rw [hy]
    go_upto_region 4 with (fail)
    rw [← hy]
    generalize hV : w1.alloc (.cells (rwa y) 166) = V
    have PX : Blk V w.heap.size 57 (inv x) := by rw [← hV]; exact HP1.out.alloc _
    have PY : Blk V w1.heap.size 166 (rwa y) := by rw [← hV]; exact Blk.new _ _ _
    have tV : Below w.heap.size w V := by rw [← hV]; exact t1.alloc t1.size _
    obtain ⟨c0, c1, c2, c3, c4, c5, c6, c7⟩ := inv_cells PX
    have hpx := PX.lt
    have d0 := PY.cell 0
    have d1 := PY.cell 1
    have d2 := PY.cell 2
    have d3 := PY.cell 3
    have d4 := PY.cell 4
    have d5 := PY.cell 5
    have d6 := PY.cell 6
    have d7 := PY.cell 7
    have d8 := PY.cell 8
    have d9 := PY.cell 9
    have da := PY.cell 10
    unfold rwa at d0 d1 d2 d3 d4 d5 d6 d7 d8 d9 da
    simp only [List.getElem?_toArray, List.getElem?_cons_zero, List.getElem?_cons_succ] at d0 d1 d2 d3 d4 d5 d6 d7 d8 d9 da
    have HX := Lib.hid PX
    have HY := Lib.hid PY
    clear hV PX PY t1 HP1 hy he
    go_wp2_with fail
    refine (regs_ok _ y x.dst x.src x.imm).mono ?_
    rintro e w2 ⟨rfl, b2⟩
    have PX := HX.out.below b2 HX.out.lt
    have PY := HY.out.below b2 HY.out.lt
    have t2 := bThen tV b2
    obtain ⟨c0, c1, c2, c3, c4, c5, c6, c7⟩ := inv_cells PX
    have d5 := PY.cell 5
    have d6 := PY.cell 6
    have d7 := PY.cell 7
    have d8 := PY.cell 8
    have d9 := PY.cell 9
    unfold rwa at d5 d6 d7 d8 d9
    simp only [List.getElem?_toArray, List.getElem?_cons_zero, List.getElem?_cons_succ] at d5 d6 d7 d8 d9
    have HY2 := Lib.hid PY
    clear HX HY PX PY tV b2
    cases hq : regsR y x.dst x.src x.imm with
    | false =>
      have f1 : Hid (R = 22) := by show _ = _; rw [e1.out, if_pos hq]
      clear e1 hq
      go_wp2
      go_ret
      exact ⟨retI f1.out.symm, t2⟩
    | true =>
      have e2 := Lib.hid (e1.out.trans (if_neg (by rw [hq]; simp)))
      clear e1 hq
      go_upto_region 6 with (fail)
      obtain ⟨q, hqc⟩ : ∃ q, q = cC x y := ⟨_, rfl⟩
      rw [← hqc] at e2
      unfold cC at hqc
      have HQ := Lib.hid hqc
      clear hqc
      go_cut [61] (fun t wc => t = .bool q ∧ w2 = wc)
      case first =>
        clear e2
        by_cases p0 : y.dst = -1
        · have f0 : (y.dst != -1) = false := by simp [p0]
          by_cases p1 : y.src = -1
          · have f1 : (y.src != -1) = false := by simp [p1]
            by_cases p2 : y.off = -1
            · have f2 : (y.off != -1) = false := by simp [p2]
              by_cases r1 : x.off < -32768
              · have s1 : decide (x.off < -32768) = true := decide_eq_true r1
                clear p0 p1 p2
                go_wp2
                go_meet
                exact ⟨by rw [HQ.out]; simp [f0, f1, f2, s1], rfl⟩
              · have s1 : decide (x.off < -32768) = false := decide_eq_false r1
                have r1' : -32768 ≤ x.off := by omega
                clear r1
                clear p0 p1 p2
                go_wp2
                go_meet
                exact ⟨by rw [HQ.out]; simp [f0, f1, f2, s1], rfl⟩
            · have f2 : (y.off != -1) = true := by simp [p2]
              by_cases q2 : x.off = 0
              · have g2 : (x.off != 0) = false := by simp [q2]
                by_cases r1 : x.off < -32768
                · have s1 : decide (x.off < -32768) = true := decide_eq_true r1
                  clear p0 p1 p2 q2
                  go_wp2
                  go_meet
                  exact ⟨by rw [HQ.out]; simp [f0, f1, f2, g2, s1], rfl⟩
                · have s1 : decide (x.off < -32768) = false := decide_eq_false r1
                  have r1' : -32768 ≤ x.off := by omega
                  clear r1
                  clear p0 p1 p2 q2
                  go_wp2
                  go_meet
                  exact ⟨by rw [HQ.out]; simp [f0, f1, f2, g2, s1], rfl⟩
              · have g2 : (x.off != 0) = true := by simp [q2]
                clear p0 p1 p2 q2
                go_wp2
                go_meet
                exact ⟨by rw [HQ.out]; simp [f0, f1, f2, g2], rfl⟩
          · have f1 : (y.src != -1) = true := by simp [p1]
            by_cases q1 : x.src = 0
            · have g1 : (x.src != 0) = false := by simp [q1]
              by_cases p2 : y.off = -1
              · have f2 : (y.off != -1) = false := by simp [p2]
                by_cases r1 : x.off < -32768
                · have s1 : decide (x.off < -32768) = true := decide_eq_true r1
                  clear p0 p1 q1 p2
                  go_wp2
                  go_meet
                  exact ⟨by rw [HQ.out]; simp [f0, f1, g1, f2, s1], rfl⟩
                · have s1 : decide (x.off < -32768) = false := decide_eq_false r1
                  have r1' : -32768 ≤ x.off := by omega
                  clear r1
                  clear p0 p1 q1 p2
                  go_wp2
                  go_meet
                  exact ⟨by rw [HQ.out]; simp [f0, f1, g1, f2, s1], rfl⟩
              · have f2 : (y.off != -1) = true := by simp [p2]
                by_cases q2 : x.off = 0
                · have g2 : (x.off != 0) = false := by simp [q2]
                  by_cases r1 : x.off < -32768
                  · have s1 : decide (x.off < -32768) = true := decide_eq_true r1
                    clear p0 p1 q1 p2 q2
                    go_wp2
                    go_meet
                    exact ⟨by rw [HQ.out]; simp [f0, f1, g1, f2, g2, s1], rfl⟩
                  · have s1 : decide (x.off < -32768) = false := decide_eq_false r1
                    have r1' : -32768 ≤ x.off := by omega
                    clear r1
                    clear p0 p1 q1 p2 q2
                    go_wp2
                    go_meet
                    exact ⟨by rw [HQ.out]; simp [f0, f1, g1, f2, g2, s1], rfl⟩
                · have g2 : (x.off != 0) = true := by simp [q2]
                  clear p0 p1 q1 p2 q2
                  go_wp2
                  go_meet
                  exact ⟨by rw [HQ.out]; simp [f0, f1, g1, f2, g2], rfl⟩
            · have g1 : (x.src != 0) = true := by simp [q1]
              clear p0 p1 q1
              go_wp2
              go_meet
              exact ⟨by rw [HQ.out]; simp [f0, f1, g1], rfl⟩
        · have f0 : (y.dst != -1) = true := by simp [p0]
          by_cases q0 : x.dst = 0
          · have g0 : (x.dst != 0) = false := by simp [q0]
            by_cases p1 : y.src = -1
            · have f1 : (y.src != -1) = false := by simp [p1]
              by_cases p2 : y.off = -1
              · have f2 : (y.off != -1) = false := by simp [p2]
                by_cases r1 : x.off < -32768
                · have s1 : decide (x.off < -32768) = true := decide_eq_true r1
                  clear p0 q0 p1 p2
                  go_wp2
                  go_meet
                  exact ⟨by rw [HQ.out]; simp [f0, g0, f1, f2, s1], rfl⟩
                · have s1 : decide (x.off < -32768) = false := decide_eq_false r1
                  have r1' : -32768 ≤ x.off := by omega
                  clear r1
                  clear p0 q0 p1 p2
                  go_wp2
                  go_meet
                  exact ⟨by rw [HQ.out]; simp [f0, g0, f1, f2, s1], rfl⟩
              · have f2 : (y.off != -1) = true := by simp [p2]
                by_cases q2 : x.off = 0
                · have g2 : (x.off != 0) = false := by simp [q2]
                  by_cases r1 : x.off < -32768
                  · have s1 : decide (x.off < -32768) = true := decide_eq_true r1
                    clear p0 q0 p1 p2 q2
                    go_wp2
                    go_meet
                    exact ⟨by rw [HQ.out]; simp [f0, g0, f1, f2, g2, s1], rfl⟩
                  · have s1 : decide (x.off < -32768) = false := decide_eq_false r1
                    have r1' : -32768 ≤ x.off := by omega
                    clear r1
                    clear p0 q0 p1 p2 q2
                    go_wp2
                    go_meet
                    exact ⟨by rw [HQ.out]; simp [f0, g0, f1, f2, g2, s1], rfl⟩
                · have g2 : (x.off != 0) = true := by simp [q2]
                  clear p0 q0 p1 p2 q2
                  go_wp2
                  go_meet
                  exact ⟨by rw [HQ.out]; simp [f0, g0, f1, f2, g2], rfl⟩
            · have f1 : (y.src != -1) = true := by simp [p1]
              by_cases q1 : x.src = 0
              · have g1 : (x.src != 0) = false := by simp [q1]
                by_cases p2 : y.off = -1
                · have f2 : (y.off != -1) = false := by simp [p2]
                  by_cases r1 : x.off < -32768
                  · have s1 : decide (x.off < -32768) = true := decide_eq_true r1
                    clear p0 q0 p1 q1 p2
                    go_wp2
                    go_meet
                    exact ⟨by rw [HQ.out]; simp [f0, g0, f1, g1, f2, s1], rfl⟩
                  · have s1 : decide (x.off < -32768) = false := decide_eq_false r1
                    have r1' : -32768 ≤ x.off := by omega
                    clear r1
                    clear p0 q0 p1 q1 p2
                    go_wp2
                    go_meet
                    exact ⟨by rw [HQ.out]; simp [f0, g0, f1, g1, f2, s1], rfl⟩
                · have f2 : (y.off != -1) = true := by simp [p2]
                  by_cases q2 : x.off = 0
                  · have g2 : (x.off != 0) = false := by simp [q2]
                    by_cases r1 : x.off < -32768
                    · have s1 : decide (x.off < -32768) = true := decide_eq_true r1
                      clear p0 q0 p1 q1 p2 q2
                      go_wp2
                      go_meet
                      exact ⟨by rw [HQ.out]; simp [f0, g0, f1, g1, f2, g2, s1], rfl⟩
                    · have s1 : decide (x.off < -32768) = false := decide_eq_false r1
                      have r1' : -32768 ≤ x.off := by omega
                      clear r1
                      clear p0 q0 p1 q1 p2 q2
                      go_wp2
                      go_meet
                      exact ⟨by rw [HQ.out]; simp [f0, g0, f1, g1, f2, g2, s1], rfl⟩
                  · have g2 : (x.off != 0) = true := by simp [q2]
                    clear p0 q0 p1 q1 p2 q2
                    go_wp2
                    go_meet
                    exact ⟨by rw [HQ.out]; simp [f0, g0, f1, g1, f2, g2], rfl⟩
              · have g1 : (x.src != 0) = true := by simp [q1]
                clear p0 q0 p1 q1
                go_wp2
                go_meet
                exact ⟨by rw [HQ.out]; simp [f0, g0, f1, g1], rfl⟩
          · have g0 : (x.dst != 0) = true := by simp [q0]
            clear p0 q0
            go_wp2
            go_meet
            exact ⟨by rw [HQ.out]; simp [f0, g0], rfl⟩
      case rest =>
        obtain ⟨rfl, rfl⟩ := hcut
        clear HQ
        cases q with
        | true =>
          have f1 : Hid (R = 23) := by show _ = _; rw [e2.out, if_pos rfl]
          clear e2
          go_wp2
          go_ret
          exact ⟨retI f1.out.symm, t2⟩
        | false =>
          have e3 := Lib.hid (e2.out.trans (if_neg (by simp)))
          clear e2
          by_cases p1 : y.imm = -1
          · have n1 : (y.imm != -1) = false := by simp [p1]
            have n2 : (y.imm == -1) = true := by simp [p1]
            have e4 : Hid (R = if (!goodR y x.imm) = true then 24 else 0) := by show _ = _; rw [e3.out, cD, n1, cE, n2]; simp
            clear e3 p1
            go_upto_region 10 with (fail)
            have da := HY2.out.cell 10
            have d0 := HY2.out.cell 0
            have d1 := HY2.out.cell 1
            have d2 := HY2.out.cell 2
            have d3 := HY2.out.cell 3
            have d4 := HY2.out.cell 4
            unfold rwa at d0 d1 d2 d3 d4 da
            simp only [List.getElem?_toArray, List.getElem?_cons_zero, List.getElem?_cons_succ] at d0 d1 d2 d3 d4 da
            go_wp2_with fail
            refine (good_ok _ y x.imm).mono ?_
            rintro e w4 ⟨rfl, b4⟩
            have t4 := bThen t2 b4
            generalize goodR y x.imm = gq at *
            cases gq with
            | true =>
              have f1 : Hid (R = 0) := by show _ = _; rw [e4.out]; rfl
              clear e4 t2 b4
              go_wp2
              go_ret
              exact ⟨retI f1.out.symm, t4⟩
            | false =>
              have f1 : Hid (R = 24) := by show _ = _; rw [e4.out]; rfl
              clear e4 t2 b4
              go_wp2
              go_ret
              exact ⟨retI f1.out.symm, t4⟩
          · have n1 : (y.imm != -1) = true := by simp [p1]
            have n2 : (y.imm == -1) = false := by simp [p1]
            by_cases p2 : y.second = -1
            · have n3 : (y.second != -1) = false := by simp [p2]
              have n4 : (y.second == -1) = true := by simp [p2]
              have e4 : Hid (R = if (!goodR y x.imm) = true then 24 else 0) := by show _ = _; rw [e3.out, cD, n1, n3, cE, n2, n4]; simp
              clear e3 p1 p2
              go_upto_region 10 with (fail)
              have da := HY2.out.cell 10
              have d0 := HY2.out.cell 0
              have d1 := HY2.out.cell 1
              have d2 := HY2.out.cell 2
              have d3 := HY2.out.cell 3
              have d4 := HY2.out.cell 4
              unfold rwa at d0 d1 d2 d3 d4 da
              simp only [List.getElem?_toArray, List.getElem?_cons_zero, List.getElem?_cons_succ] at d0 d1 d2 d3 d4 da
              go_wp2_with fail
              refine (good_ok _ y x.imm).mono ?_
              rintro e w4 ⟨rfl, b4⟩
              have t4 := bThen t2 b4
              generalize goodR y x.imm = gq at *
              cases gq with
              | true =>
                have f1 : Hid (R = 0) := by show _ = _; rw [e4.out]; rfl
                clear e4 t2 b4
                go_wp2
                go_ret
                exact ⟨retI f1.out.symm, t4⟩
              | false =>
                have f1 : Hid (R = 24) := by show _ = _; rw [e4.out]; rfl
                clear e4 t2 b4
                go_wp2
                go_ret
                exact ⟨retI f1.out.symm, t4⟩
            · have n3 : (y.second != -1) = true := by simp [p2]
              have n4 : (y.second == -1) = false := by simp [p2]
              by_cases p3 : x.imm = 0
              · have n5 : (x.imm != 0) = false := by simp [p3]
                have f1 : Hid (R = 0) := by show _ = _; rw [e3.out, cD, n1, n3, n5, cE, n2, n4]; simp
                clear e3 p1 p2 p3
                go_wp2
                go_ret
                exact ⟨retI f1.out.symm, t2⟩
              · have n5 : (x.imm != 0) = true := by simp [p3]
                have f1 : Hid (R = 24) := by show _ = _; rw [e3.out, cD, n1, n3, n5]; simp
                clear e3 p1 p2 p3
                go_wp2
                go_ret
                exact ⟨retI f1.out.symm, t2⟩
end Go.Proofs.Ytpiiefdaaijgbaa
