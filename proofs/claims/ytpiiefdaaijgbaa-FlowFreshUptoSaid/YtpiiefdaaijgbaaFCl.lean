/- The program's check of one instruction, its shape: formed. -/
import Derived.Test.YtpiiefdaaijgbaaFCk
import Derived.Deep.CutBlock
import Derived.Deep.DeepCutAuto
namespace Go.Proofs.Ytpiiefdaaijgbaa
open Go Go.RowKit Go.Wr Go.Fl
set_option maxHeartbeats 4000000
set_option maxRecDepth 100000

theorem formed_ok (w : World) (x : In) : Calls Try.prog 116 #[.agg (inv x)] w fun e w' => e = .returned (.bool (formed x)) ∧ Below w.heap.size w w' := by
  obtain ⟨op, nar, reg, sz, dst, src, off, imm⟩ := x
  obtain ⟨R, hR⟩ : ∃ R, R = formed ⟨op, nar, reg, sz, dst, src, off, imm⟩ := ⟨_, rfl⟩
  rw [← hR]
  unfold formed at hR
  simp only at hR
  obtain ⟨sc, hs2⟩ : ∃ s2, s2 = snd2 op := ⟨_, rfl⟩
  rw [← hs2] at hR
  have HR := Lib.hid hR
  have HS2 := Lib.hid hs2
  clear hR hs2
  unfold inv
  go_enter Try.func116, Try.ntmps116
  go_upto_region 2 with (go_at_call 129; refine (snd2_ok _ _).mono ?_; rintro e w1 ⟨rfl, rfl⟩; rw [← HS2.out])
  clear HS2
  go_upto_block 0 with (fail)
  go_cut [3, 4, 5] (fun n r s wc => ∃ a b : Bool, n = .bool a ∧ r = .bool sc ∧ s = .bool b ∧ Hid (R = (b && (a || !nar) && (sc || !reg))) ∧ wc = w.alloc (.cells #[.int .i64 op, .bool nar, .bool reg, .int .i64 sz, .int .i64 dst, .int .i64 src, .int .i64 off, .int .i64 imm] 57))
  case first =>
    by_cases h1 : op < 1
    · have e1 : Hid (R = false) := by show _ = _; rw [HR.out, if_pos (Or.inl h1)]
      clear HR
      go_wp2
      go_ret
      exact ⟨retB e1.out.symm, bAl (bRefl w) _⟩
    · by_cases h2 : 39 < op
      · have e1 : Hid (R = false) := by show _ = _; rw [HR.out, if_pos (Or.inr h2)]
        clear HR
        go_wp2
        go_ret
        exact ⟨retB e1.out.symm, bAl (bRefl w) _⟩
      · have HR1 := Lib.hid (HR.out.trans (if_neg (fun h => h.elim h1 h2)))
        clear HR
        by_cases h3 : op = 16
        · subst h3
          have HR2 := Lib.hid (HR1.out.trans (if_pos rfl))
          clear HR1
          cases reg with
          | false =>
            go_wp2
            go_ret
            exact ⟨retB (by rw [HR2.out]; rfl), bAl (bRefl w) _⟩
          | true =>
            by_cases q1 : sz = 8
            · subst q1
              go_wp2
              go_ret
              exact ⟨retB (by rw [HR2.out]; rfl), bAl (bRefl w) _⟩
            · by_cases q2 : sz = 16
              · subst q2
                go_wp2
                go_ret
                exact ⟨retB (by rw [HR2.out]; rfl), bAl (bRefl w) _⟩
              · by_cases q3 : sz = 32
                · subst q3
                  go_wp2
                  go_ret
                  exact ⟨retB (by rw [HR2.out]; simp), bAl (bRefl w) _⟩
                · have p1 : (sz == 8) = false := by simpa using q1
                  have p2 : (sz == 16) = false := by simpa using q2
                  have p3 : (sz == 32) = false := by simpa using q3
                  go_wp2
                  go_ret
                  exact ⟨retB (by rw [HR2.out, p1, p2, p3]; rfl), bAl (bRefl w) _⟩
        · have p3 : (op == 16) = false := by simpa using h3
          have HR2 := Lib.hid (HR1.out.trans (if_neg h3))
          clear HR1 h3
          by_cases h4 : 17 ≤ op ∧ op ≤ 19
          · have HR3 := Lib.hid HR2.out
            rw [if_pos h4] at HR3
            have nx : (decide (op ≤ 15) || bw op 26 37) = false := by simp [bw]; omega
            rw [nx] at HR3
            obtain ⟨h5, h6⟩ := h4
            clear HR2 nx
            by_cases q0 : sz = 16
            · subst q0
              go_wp2
              go_meet
              exact ⟨false, true, rfl, rfl, rfl, HR3, rfl⟩
            · have s0 : (sz == 16) = false := by simpa using q0
              by_cases q1 : sz = 32
              · subst q1
                go_wp2
                go_meet
                exact ⟨false, true, rfl, rfl, rfl, HR3, rfl⟩
              · have s1 : (sz == 32) = false := by simpa using q1
                by_cases q2 : sz = 64
                · subst q2
                  go_wp2
                  go_meet
                  exact ⟨false, true, rfl, rfl, rfl, HR3, rfl⟩
                · have s2 : (sz == 64) = false := by simpa using q2
                  rw [s0, s1, s2] at HR3
                  clear q0 q1 q2
                  go_wp2
                  go_meet
                  exact ⟨false, false, rfl, rfl, rfl, HR3, rfl⟩
          · have HR3 := Lib.hid HR2.out
            rw [if_neg h4] at HR3
            clear HR2
            have g17 : 17 ≤ op → 19 < op := fun h => by omega
            by_cases h5 : op = 22 ∨ op = 24
            · rw [if_pos h5] at HR3
              rcases h5 with h5 | h5
              · subst h5
                by_cases q0 : sz = 1
                · subst q0
                  go_wp2
                  go_meet
                  exact ⟨false, true, rfl, rfl, rfl, HR3, rfl⟩
                · have s0 : (sz == 1) = false := by simpa using q0
                  by_cases q1 : sz = 2
                  · subst q1
                    go_wp2
                    go_meet
                    exact ⟨false, true, rfl, rfl, rfl, HR3, rfl⟩
                  · have s1 : (sz == 2) = false := by simpa using q1
                    by_cases q2 : sz = 4
                    · subst q2
                      go_wp2
                      go_meet
                      exact ⟨false, true, rfl, rfl, rfl, HR3, rfl⟩
                    · have s2 : (sz == 4) = false := by simpa using q2
                      by_cases q3 : sz = 8
                      · subst q3
                        go_wp2
                        go_meet
                        exact ⟨false, true, rfl, rfl, rfl, HR3, rfl⟩
                      · have s3 : (sz == 8) = false := by simpa using q3
                        rw [s0, s1, s2, s3] at HR3
                        clear q0 q1 q2 q3
                        go_wp2
                        go_meet
                        exact ⟨false, false, rfl, rfl, rfl, HR3, rfl⟩
              · subst h5
                by_cases q0 : sz = 1
                · subst q0
                  go_wp2
                  go_meet
                  exact ⟨false, true, rfl, rfl, rfl, HR3, rfl⟩
                · have s0 : (sz == 1) = false := by simpa using q0
                  by_cases q1 : sz = 2
                  · subst q1
                    go_wp2
                    go_meet
                    exact ⟨false, true, rfl, rfl, rfl, HR3, rfl⟩
                  · have s1 : (sz == 2) = false := by simpa using q1
                    by_cases q2 : sz = 4
                    · subst q2
                      go_wp2
                      go_meet
                      exact ⟨false, true, rfl, rfl, rfl, HR3, rfl⟩
                    · have s2 : (sz == 4) = false := by simpa using q2
                      by_cases q3 : sz = 8
                      · subst q3
                        go_wp2
                        go_meet
                        exact ⟨false, true, rfl, rfl, rfl, HR3, rfl⟩
                      · have s3 : (sz == 8) = false := by simpa using q3
                        rw [s0, s1, s2, s3] at HR3
                        clear q0 q1 q2 q3
                        go_wp2
                        go_meet
                        exact ⟨false, false, rfl, rfl, rfl, HR3, rfl⟩
            · rw [if_neg h5] at HR3
              have p22 : (op == 22) = false := by simp; omega
              have p24 : (op == 24) = false := by simp; omega
              clear h5
              by_cases h6 : op = 23
              · rw [if_pos h6] at HR3
                subst h6
                by_cases q0 : sz = 1
                · subst q0
                  go_wp2
                  go_meet
                  exact ⟨false, true, rfl, rfl, rfl, HR3, rfl⟩
                · have s0 : (sz == 1) = false := by simpa using q0
                  by_cases q1 : sz = 2
                  · subst q1
                    go_wp2
                    go_meet
                    exact ⟨false, true, rfl, rfl, rfl, HR3, rfl⟩
                  · have s1 : (sz == 2) = false := by simpa using q1
                    by_cases q2 : sz = 4
                    · subst q2
                      go_wp2
                      go_meet
                      exact ⟨false, true, rfl, rfl, rfl, HR3, rfl⟩
                    · have s2 : (sz == 4) = false := by simpa using q2
                      rw [s0, s1, s2] at HR3
                      clear q0 q1 q2
                      go_wp2
                      go_meet
                      exact ⟨false, false, rfl, rfl, rfl, HR3, rfl⟩
              · rw [if_neg h6] at HR3
                have p23 : (op == 23) = false := by simpa using h6
                clear h6
                by_cases h7 : op = 25
                · rw [if_pos h7] at HR3
                  subst h7
                  by_cases q0 : sz = 4
                  · subst q0
                    go_wp2
                    go_meet
                    exact ⟨false, true, rfl, rfl, rfl, HR3, rfl⟩
                  · have s0 : (sz == 4) = false := by simpa using q0
                    by_cases q1 : sz = 8
                    · subst q1
                      go_wp2
                      go_meet
                      exact ⟨false, true, rfl, rfl, rfl, HR3, rfl⟩
                    · have s1 : (sz == 8) = false := by simpa using q1
                      rw [s0, s1] at HR3
                      clear q0 q1
                      go_wp2
                      go_meet
                      exact ⟨false, false, rfl, rfl, rfl, HR3, rfl⟩
                · rw [if_neg h7] at HR3
                  have p25 : (op == 25) = false := by simpa using h7
                  clear h7 h4
                  by_cases h8 : op ≤ 15
                  · have e1 : Hid (R = ((sz == 0) && (true || !nar) && (sc || !reg))) := by show _ = _; rw [HR3.out]; simp [h8]
                    have g17' : op < 17 := by omega
                    clear HR3 g17
                    go_wp2
                    go_meet
                    exact ⟨true, sz == 0, rfl, rfl, rfl, e1, rfl⟩
                  · by_cases h9 : 26 ≤ op
                    · by_cases h10 : op ≤ 37
                      · have e1 : Hid (R = ((sz == 0) && (true || !nar) && (sc || !reg))) := by show _ = _; rw [HR3.out]; simp [bw, h9, h10]
                        have g17' : 19 < op := by omega
                        have g15 : 15 < op := by omega
                        clear HR3 g17 h8
                        go_wp2
                        go_meet
                        exact ⟨true, sz == 0, rfl, rfl, rfl, e1, rfl⟩
                      · have g10 : 37 < op := by omega
                        have e1 : Hid (R = ((sz == 0) && (false || !nar) && (sc || !reg))) := by show _ = _; rw [HR3.out]; simp [bw, h9, h10, h8]
                        have g17' : 19 < op := by omega
                        have g15 : 15 < op := by omega
                        clear HR3 g17 h8 h10
                        go_wp2
                        go_meet
                        exact ⟨false, sz == 0, rfl, rfl, rfl, e1, rfl⟩
                    · have g26 : op < 26 := by omega
                      have e1 : Hid (R = ((sz == 0) && (false || !nar) && (sc || !reg))) := by show _ = _; rw [HR3.out]; simp [bw, h9, h8]
                      have g15 : 15 < op := by omega
                      by_cases h17 : 17 ≤ op
                      · have g17' : 19 < op := by omega
                        clear HR3 g17 h8 h9
                        go_wp2
                        go_meet
                        exact ⟨false, sz == 0, rfl, rfl, rfl, e1, rfl⟩
                      · have g17' : op < 17 := by omega
                        clear HR3 g17 h8 h9 h17
                        go_wp2
                        go_meet
                        exact ⟨false, sz == 0, rfl, rfl, rfl, e1, rfl⟩
  case rest =>
    clear HR
    obtain ⟨a, b, rfl, rfl, rfl, hR, rfl⟩ := hcut
    cases b with
    | false =>
      go_wp2
      go_ret
      exact ⟨retB (by rw [hR.out]; rfl), bAl (bRefl w) _⟩
    | true =>
      cases a <;> cases nar <;> cases sc <;> cases reg
      all_goals
        go_wp2
        go_ret
        exact ⟨retB (by rw [hR.out]; rfl), bAl (bRefl w) _⟩
end Go.Proofs.Ytpiiefdaaijgbaa
