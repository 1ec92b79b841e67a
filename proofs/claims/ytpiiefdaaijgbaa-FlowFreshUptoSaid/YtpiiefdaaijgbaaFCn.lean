/- The program's check of one instruction, and of a list: what is wrong, and where. -/
import Derived.Test.YtpiiefdaaijgbaaFCl
import Derived.Test.YtpiiefdaaijgbaaFCm
import Derived.Deep.QuietTactic
import Derived.BigQuiet
namespace Go.Proofs.Ytpiiefdaaijgbaa
open Go Go.RowKit Go.Wr Go.Fl
set_option maxHeartbeats 4000000
set_option maxRecDepth 100000

theorem inv_cells {W : World} {p : Nat} {T : TypeId} {x : In} (h : Blk W p T (inv x)) : W.cell? ⟨p, 0, none⟩ = some (.int .i64 x.op) ∧ W.cell? ⟨p, 1, none⟩ = some (.bool x.nar) ∧ W.cell? ⟨p, 2, none⟩ = some (.bool x.reg) ∧ W.cell? ⟨p, 3, none⟩ = some (.int .i64 x.sz) ∧
    W.cell? ⟨p, 4, none⟩ = some (.int .i64 x.dst) ∧ W.cell? ⟨p, 5, none⟩ = some (.int .i64 x.src) ∧ W.cell? ⟨p, 6, none⟩ = some (.int .i64 x.off) ∧ W.cell? ⟨p, 7, none⟩ = some (.int .i64 x.imm) :=
  ⟨h.cell 0, h.cell 1, h.cell 2, h.cell 3, h.cell 4, h.cell 5, h.cell 6, h.cell 7⟩
theorem retI {a b : Int} {k : IntKind} (h : a = b) : Ending.returned (.int k a) = .returned (.int k b) := by rw [h]
theorem right_ok (w : World) (x : In) : Calls Try.prog 92 #[.agg (inv x)] w fun e w' => e = .returned (.int .i64 (right x)) ∧ Below w.heap.size w w' := by
  obtain ⟨R, hR⟩ : ∃ R, R = right x := ⟨_, rfl⟩
  rw [← hR]
  unfold right at hR
  have HR := Lib.hid hR
  clear hR
  have hv : inv x = #[.int .i64 x.op, .bool x.nar, .bool x.reg, .int .i64 x.sz, .int .i64 x.dst, .int .i64 x.src, .int .i64 x.off, .int .i64 x.imm] := rfl
  rw [hv]
  go_enter Try.func92, Try.ntmps92
  go_upto_region 1 with (fail)
  rw [← hv]
  generalize hW : w.alloc (.cells (inv x) 57) = W
  have PW : Blk W w.heap.size 57 (inv x) := by rw [← hW]; exact Blk.new _ _ _
  have bW : Below w.heap.size w W := by rw [← hW]; exact bAl (bRefl w) _
  obtain ⟨c0, c1, c2, c3, c4, c5, c6, c7⟩ := inv_cells PW
  have HP := Lib.hid PW
  clear hW PW hv
  go_wp2_with fail
  refine (formed_ok _ x).mono ?_
  rintro e w1 ⟨rfl, b1⟩
  have P1 := HP.out.below b1 HP.out.lt
  have t1 := bThen bW b1
  obtain ⟨c0, c1, c2, c3, c4, c5, c6, c7⟩ := inv_cells P1
  have HP1 := Lib.hid P1
  clear HP bW b1 P1
  cases hf : formed x with
  | false =>
    have e1 : Hid (R = 21) := by show _ = _; rw [HR.out, if_pos hf]
    clear HR hf
    go_wp2
    go_ret
    exact ⟨retI e1.out.symm, t1⟩
  | true =>
    obtain ⟨hb, _⟩ := formed_sz hf
    have HR1 := Lib.hid (HR.out.trans (if_neg (by rw [hf]; simp)))
    clear HR hf
    go_wp2_with fail
    refine (uses_ok _ x hb.1 hb.2).mono ?_
    rintro e w2 ⟨he, b2⟩
    unfold usesR at he
    subst he
    have P2 := HP1.out.below b2 HP1.out.lt
    have t2 := bThen t1 b2
    obtain ⟨c0, c1, c2, c3, c4, c5, c6, c7⟩ := inv_cells P2
    have HP2 := Lib.hid P2
    obtain ⟨d, hd⟩ : ∃ d, d = uD x := ⟨_, rfl⟩
    obtain ⟨s, hs⟩ : ∃ s, s = uS x := ⟨_, rfl⟩
    obtain ⟨o, ho⟩ : ∃ o, o = uO x := ⟨_, rfl⟩
    obtain ⟨m, hm⟩ : ∃ m, m = uI x := ⟨_, rfl⟩
    rw [← hd, ← hs, ← ho, ← hm] at HR1 ⊢
    clear hd hs ho hm HP1 t1 b2 P2
    obtain ⟨bA, hA⟩ : ∃ b, b = isReg x.dst (wrD x.op) := ⟨_, rfl⟩
    obtain ⟨bB, hB⟩ : ∃ b, b = isReg x.src (wrS x.op x.imm) := ⟨_, rfl⟩
    rw [← hA, ← hB] at HR1
    have HA := Lib.hid hA
    have HB := Lib.hid hB
    clear hA hB hb
    go_upto_region 4 with (fail)
    go_cut [17] (fun t wc => t = .bool (d && !bA) ∧ ∃ n, w2.drewN n = wc)
    case first =>
      cases d with
      | false =>
        go_quiet (fail)
        go_wp2
        go_meet
        exact ⟨rfl, _, rfl⟩
      | true =>
        go_quiet ((first | (go_at_call 119; exact Calls.quiet_of_same (wrD_ok _ _)) | (go_at_call 118; exact Calls.quiet_of_same (isReg_ok _ _ _))))
        go_wp2
        go_meet
        exact ⟨by rw [HA.out]; rfl, _, rfl⟩
    case rest =>
      obtain ⟨rfl, n1, rfl⟩ := hcut
      have HP2' := Lib.hid (HP2.out.drewN n1)
      have t2' := bDraw t2 n1
      clear HP2 t2
      generalize w2.drewN n1 = w2 at HP2' t2' ⊢
      have HP2 := Lib.hid HP2'.out
      have t2 := t2'
      obtain ⟨c0, c1, c2, c3, c4, c5, c6, c7⟩ := inv_cells HP2.out
      clear HP2' t2'
      go_upto_if 17 with (fail)
      go_cut [17] (fun t wc => t = .bool ((d && !bA) || (s && !bB)) ∧ ∃ n, w2.drewN n = wc)
      case first =>
        cases hh : (d && !bA) with
        | true =>
          go_wp2
          go_meet
          exact ⟨by first | rfl | simp [hh], 0, by first | rfl | simp⟩
        | false =>
          have HH := Lib.hid hh
          clear hh
          cases s with
          | false =>
            go_upto_region 5 with (fail)
            go_quiet (fail)
            go_wp2
            go_meet
            refine ⟨?_, ?_⟩
            · first | rfl | (rw [HH.out]; rfl)
            · first | exact ⟨_, rfl⟩ | exact ⟨_, World.drewN_drewN _ _ _⟩
          | true =>
            go_upto_region 5 with (fail)
            go_quiet ((first | (go_at_call 120; exact Calls.quiet_of_same (wrS_ok _ _ _)) | (go_at_call 118; exact Calls.quiet_of_same (isReg_ok _ _ _))))
            go_wp2
            go_meet
            refine ⟨?_, ?_⟩
            · rw [HB.out]; first | rfl | (rw [HH.out]; rfl)
            · first | exact ⟨_, rfl⟩ | exact ⟨_, World.drewN_drewN _ _ _⟩
      case rest =>
        obtain ⟨rfl, n2, rfl⟩ := hcut
        obtain ⟨q1, hq1⟩ : ∃ q, q = ((d && !bA) || (s && !bB)) := ⟨_, rfl⟩
        rw [← hq1] at HR1 ⊢
        clear hq1 HA HB
        cases q1 with
        | true =>
          have e1 : Hid (R = 22) := by show _ = _; rw [HR1.out, if_pos rfl]
          clear HR1
          go_wp2
          go_ret
          exact ⟨retI e1.out.symm, bDraw t2 _⟩
        | false =>
          have HR2 := Lib.hid (HR1.out.trans (if_neg (by simp)))
          clear HR1
          have HP3 := Lib.hid (HP2.out.drewN n2)
          have t3 := bDraw t2 n2
          generalize w2.drewN n2 = w3 at HP3 t3 ⊢
          obtain ⟨c0, c1, c2, c3, c4, c5, c6, c7⟩ := inv_cells HP3.out
          obtain ⟨q0, hq0⟩ : ∃ q, q = (!d && x.dst != 0) := ⟨_, rfl⟩
          rw [← hq0] at HR2
          have HQ0 := Lib.hid hq0
          clear t2 HP2 hq0
          go_upto_region 7 with (fail)
          go_cut [40] (fun t wc => t = .bool q0 ∧ w3 = wc)
          case first =>
            cases d <;> go_wp2 <;> go_meet <;> exact ⟨by rw [HQ0.out]; rfl, rfl⟩
          case rest =>
            obtain ⟨rfl, rfl⟩ := hcut
            go_upto_if 40 with (fail)
            go_cut [40] (fun t wc => t = .bool (q0 || !s && x.src != 0 || !o && x.off != 0 || decide (x.off < -32768) || decide (32768 ≤ x.off)) ∧ w3 = wc)
            case first =>
              clear HR2 HQ0
              cases q0 with
              | true =>
                go_wp2
                go_meet
                exact ⟨by simp, rfl⟩
              | false =>
                cases s with
                | true =>
                  cases o with
                  | true =>
                    by_cases k1 : x.off < -32768
                    · have j1 : decide (x.off < -32768) = true := decide_eq_true k1
                      go_wp2
                      go_meet
                      exact ⟨by simp [j1], rfl⟩
                    · have j1 : decide (x.off < -32768) = false := decide_eq_false k1
                      have k1' : -32768 ≤ x.off := by omega
                      clear k1
                      go_wp2
                      go_meet
                      exact ⟨by simp [j1], rfl⟩
                  | false =>
                    by_cases ho : x.off = 0
                    · have fo : (x.off != 0) = false := by simp [ho]
                      have k1' : -32768 ≤ x.off := by omega
                      have k2' : x.off < 32768 := by omega
                      have j1 : decide (x.off < -32768) = false := decide_eq_false (by omega)
                      have j2 : decide (32768 ≤ x.off) = false := decide_eq_false (by omega)
                      clear ho
                      go_wp2
                      go_meet
                      exact ⟨by simp [fo, j1, j2], rfl⟩
                    · have fo : (x.off != 0) = true := by simp [ho]
                      go_wp2
                      go_meet
                      exact ⟨by simp [fo], rfl⟩
                | false =>
                  by_cases hs : x.src = 0
                  · have fs : (x.src != 0) = false := by simp [hs]
                    cases o with
                    | true =>
                      by_cases k1 : x.off < -32768
                      · have j1 : decide (x.off < -32768) = true := decide_eq_true k1
                        go_wp2
                        go_meet
                        exact ⟨by simp [fs, j1], rfl⟩
                      · have j1 : decide (x.off < -32768) = false := decide_eq_false k1
                        have k1' : -32768 ≤ x.off := by omega
                        clear k1
                        go_wp2
                        go_meet
                        exact ⟨by simp [fs, j1], rfl⟩
                    | false =>
                      by_cases ho : x.off = 0
                      · have fo : (x.off != 0) = false := by simp [ho]
                        have k1' : -32768 ≤ x.off := by omega
                        have k2' : x.off < 32768 := by omega
                        have j1 : decide (x.off < -32768) = false := decide_eq_false (by omega)
                        have j2 : decide (32768 ≤ x.off) = false := decide_eq_false (by omega)
                        clear ho
                        go_wp2
                        go_meet
                        exact ⟨by simp [fs, fo, j1, j2], rfl⟩
                      · have fo : (x.off != 0) = true := by simp [ho]
                        go_wp2
                        go_meet
                        exact ⟨by simp [fs, fo], rfl⟩
                  · have fs : (x.src != 0) = true := by simp [hs]
                    go_wp2
                    go_meet
                    exact ⟨by simp [fs], rfl⟩
            case rest =>
              obtain ⟨rfl, rfl⟩ := hcut
              obtain ⟨q2, hq2⟩ : ∃ q, q = (q0 || !s && x.src != 0 || !o && x.off != 0 || decide (x.off < -32768) || decide (32768 ≤ x.off)) := ⟨_, rfl⟩
              rw [← hq2] at HR2 ⊢
              clear hq2 HQ0
              cases q2 with
              | true =>
                have e1 : Hid (R = 23) := by show _ = _; rw [HR2.out, if_pos rfl]
                clear HR2
                go_wp2
                go_ret
                exact ⟨retI e1.out.symm, t3⟩
              | false =>
                have HR3 := Lib.hid (HR2.out.trans (if_neg (by simp)))
                clear HR2
                cases m with
                | false =>
                  by_cases hi : x.imm = 0
                  · have e1 : Hid (R = 0) := by show _ = _; rw [HR3.out]; simp [hi]
                    have hi' : (x.imm != 0) = false := by simp [hi]
                    clear HR3 hi
                    go_wp2
                    go_ret
                    exact ⟨retI e1.out.symm, t3⟩
                  · have e1 : Hid (R = 24) := by show _ = _; rw [HR3.out]; simp [hi]
                    have hi' : (x.imm != 0) = true := by simp [hi]
                    clear HR3 hi
                    go_wp2
                    go_ret
                    exact ⟨retI e1.out.symm, t3⟩
                | true =>
                  go_wp2_with fail
                  refine (immFits_ok _ x).mono ?_
                  rintro e w4 ⟨rfl, b4⟩
                  have t4 := bThen t3 b4
                  cases hi : immFits x with
                  | true =>
                    have e1 : Hid (R = 0) := by show _ = _; rw [HR3.out, hi]; rfl
                    clear HR3 hi
                    go_wp2
                    go_ret
                    exact ⟨retI e1.out.symm, t4⟩
                  | false =>
                    have e1 : Hid (R = 24) := by show _ = _; rw [HR3.out, hi]; rfl
                    clear HR3 hi
                    go_wp2
                    go_ret
                    exact ⟨retI e1.out.symm, t4⟩
end Go.Proofs.Ytpiiefdaaijgbaa
