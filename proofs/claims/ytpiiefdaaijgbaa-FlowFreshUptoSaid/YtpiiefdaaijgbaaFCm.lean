/- The program's check of one instruction: which fields it uses, whether its number fits. -/
import Derived.Test.YtpiiefdaaijgbaaFCk
import Derived.Deep.CutBlock
import Derived.Deep.DeepCutAuto
namespace Go.Proofs.Ytpiiefdaaijgbaa
open Go Go.RowKit Go.Wr Go.Fl
set_option maxHeartbeats 4000000
set_option maxRecDepth 100000

theorem immFits_ok (w : World) (x : In) : Calls Try.prog 121 #[.agg (inv x)] w fun e w' => e = .returned (.bool (immFits x)) ∧ Below w.heap.size w w' := by
  obtain ⟨op, nar, reg, sz, dst, src, off, imm⟩ := x
  obtain ⟨R, hR⟩ : ∃ R, R = immFits ⟨op, nar, reg, sz, dst, src, off, imm⟩ := ⟨_, rfl⟩
  rw [← hR]
  unfold immFits at hR
  simp only at hR
  have HR := Lib.hid hR
  clear hR
  unfold inv
  go_enter Try.func121, Try.ntmps121
  by_cases h1 : op = 20
  · have e1 : Hid (R = true) := by show _ = _; rw [HR.out, if_pos h1]
    subst h1
    clear HR
    go_wp2
    go_ret
    exact ⟨retB e1.out.symm, bAl (bRefl w) _⟩
  · have HR1 := Lib.hid (HR.out.trans (if_neg h1))
    have p1 : (op == 20) = false := by simpa using h1
    clear HR h1
    by_cases h2 : imm < -2147483648 ∨ 2147483647 < imm
    · have e1 : Hid (R = false) := by show _ = _; rw [HR1.out, if_pos h2]
      clear HR1
      by_cases h3 : imm < -2147483648
      · go_wp2
        go_ret
        exact ⟨retB e1.out.symm, bAl (bRefl w) _⟩
      · have h4 : 2147483647 < imm := by omega
        have h3' : -2147483648 ≤ imm := by omega
        clear h2
        go_wp2
        go_ret
        exact ⟨retB e1.out.symm, bAl (bRefl w) _⟩
    · have HR2 := Lib.hid (HR1.out.trans (if_neg h2))
      have h3 : -2147483648 ≤ imm := by omega
      have h4 : imm ≤ 2147483647 := by omega
      clear HR1 h2
      by_cases h5 : op = 4 ∨ op = 5 ∨ op = 6 ∨ op = 7
      · have e1 : Hid (R = (imm != 0)) := by show _ = _; rw [HR2.out, if_pos h5]
        clear HR2
        rcases h5 with h5 | h5 | h5 | h5
        all_goals
          subst h5
          go_wp2
          go_ret
          exact ⟨retB e1.out.symm, bAl (bRefl w) _⟩
      · have HR3 := Lib.hid (HR2.out.trans (if_neg h5))
        have a4 : (op == 4) = false := by simp; omega
        have a5 : (op == 5) = false := by simp; omega
        have a6 : (op == 6) = false := by simp; omega
        have a7 : (op == 7) = false := by simp; omega
        clear HR2 h5
        by_cases h6 : op = 11 ∨ op = 12 ∨ op = 13
        · have e1 : Hid (R = (decide (0 ≤ imm) && decide (imm < 64) && !(nar && decide (32 ≤ imm)))) := by show _ = _; rw [HR3.out, if_pos h6]
          clear HR3
          have fin : ∀ b : Bool, (decide (0 ≤ imm) && decide (imm < 64) && !(nar && decide (32 ≤ imm))) = b → Hid (R = b) := fun b hb => by show _ = _; rw [e1.out, hb]
          by_cases g1 : 0 ≤ imm
          · by_cases g2 : imm < 64
            · cases nar with
              | false =>
                have f1 := fin true (by simp [g1, g2])
                clear fin e1
                rcases h6 with h6 | h6 | h6
                all_goals
                  subst h6
                  go_wp2
                  go_ret
                  exact ⟨retB f1.out.symm, bAl (bRefl w) _⟩
              | true =>
                have f1 := fin (!decide (32 ≤ imm)) (by simp [g1, g2])
                clear fin e1
                rcases h6 with h6 | h6 | h6
                all_goals
                  subst h6
                  go_wp2
                  go_ret
                  exact ⟨retB f1.out.symm, bAl (bRefl w) _⟩
            · have f1 := fin false (by simp [g2])
              have g2' : 64 ≤ imm := by omega
              clear fin e1 g2
              rcases h6 with h6 | h6 | h6
              all_goals
                subst h6
                go_wp2
                go_ret
                exact ⟨retB f1.out.symm, bAl (bRefl w) _⟩
          · have f1 := fin false (by simp [g1])
            have g1' : imm < 0 := by omega
            clear fin e1 g1
            rcases h6 with h6 | h6 | h6
            all_goals
              subst h6
              go_wp2
              go_ret
              exact ⟨retB f1.out.symm, bAl (bRefl w) _⟩
        · have HR4 := Lib.hid (HR3.out.trans (if_neg h6))
          have b1 : (op == 11) = false := by simp; omega
          have b2 : (op == 12) = false := by simp; omega
          have b3 : (op == 13) = false := by simp; omega
          clear HR3 h6
          by_cases h7 : op = 25
          · have e1 : Hid (R = atm imm) := by show _ = _; rw [HR4.out, if_pos h7]
            clear HR4
            subst h7
            go_wp2_with (go_at_call 130; refine (atm_ok _ _).mono ?_; rintro e w1 ⟨rfl, rfl⟩; rw [← e1.out])
            go_ret
            exact ⟨rfl, bAl (bRefl w) _⟩
          · have HR5 := Lib.hid (HR4.out.trans (if_neg h7))
            have b4 : (op == 25) = false := by simpa using h7
            clear HR4 h7
            by_cases h8 : op = 21
            · have e1 : Hid (R = decide (0 ≤ imm)) := by show _ = _; rw [HR5.out, if_pos h8]
              clear HR5
              subst h8
              go_wp2
              go_ret
              exact ⟨retB e1.out.symm, bAl (bRefl w) _⟩
            · have e1 : Hid (R = true) := by show _ = _; rw [HR5.out, if_neg h8]
              have b5 : (op == 21) = false := by simpa using h8
              clear HR5 h8
              go_wp2
              go_ret
              exact ⟨retB e1.out.symm, bAl (bRefl w) _⟩
theorem ret4 {a b c d a' b' c' d' : Bool} (h1 : a' = a) (h2 : b' = b) (h3 : c' = c) (h4 : d' = d) : Ending.returned (.tuple #[.bool a, .bool b, .bool c, .bool d]) = .returned (.tuple #[.bool a', .bool b', .bool c', .bool d']) := by rw [h1, h2, h3, h4]
def usesR (x : In) : Ending := .returned (.tuple #[.bool (uD x), .bool (uS x), .bool (uO x), .bool (uI x)])

theorem results_tmp4 {fn : Func} {t u v x : Tmp} (h : fn.results = #[.tmp t, .tmp u, .tmp v, .tmp x]) (tmps : Array Value) (P : Program) (w : World) :
    (results fn tmps).run P w = .ok (.tuple #[tmps.getD t undef, tmps.getD u undef, tmps.getD v undef, tmps.getD x undef]) w := by
  simp [results, h]
theorem uses_ok (w : World) (x : In) (h1 : 1 ≤ x.op) (h39 : x.op ≤ 39) : Calls Try.prog 117 #[.agg (inv x)] w fun e w' => e = usesR x ∧ Below w.heap.size w w' := by
  obtain ⟨op, nar, reg, sz, dst, src, off, imm⟩ := x
  simp only at h1 h39
  obtain ⟨R, hR⟩ : ∃ R, R = usesR ⟨op, nar, reg, sz, dst, src, off, imm⟩ := ⟨_, rfl⟩
  rw [← hR]
  unfold usesR uD uS uO uI at hR
  simp only at hR
  obtain ⟨sc, hs2⟩ : ∃ s2, s2 = snd2 op := ⟨_, rfl⟩
  have HS := Lib.hid hs2
  rw [← hs2] at hR
  have HR := Lib.hid hR
  clear hR hs2
  unfold inv
  go_enter Try.func117, Try.ntmps117
  by_cases c0 : op ≤ 15
  · have n16 : (op == 16) = false := by simp; omega
    have m16 : (op != 16) = true := by simp; omega
    have n20 : (op == 20) = false := by simp; omega
    have m20 : (op != 20) = true := by simp; omega
    have n21 : (op == 21) = false := by simp; omega
    have m21 : (op != 21) = true := by simp; omega
    have n24 : (op == 24) = false := by simp; omega
    have m24 : (op != 24) = true := by simp; omega
    have n25 : (op == 25) = false := by simp; omega
    have m25 : (op != 25) = true := by simp; omega
    have n26 : (op == 26) = false := by simp; omega
    have m26 : (op != 26) = true := by simp; omega
    have n38 : (op == 38) = false := by simp; omega
    have m38 : (op != 38) = true := by simp; omega
    have n39 : (op == 39) = false := by simp; omega
    have m39 : (op != 39) = true := by simp; omega
    have l22 : op < 22 := by omega
    have l27 : op < 27 := by omega
    have u25 : op ≤ 25 := by omega
    have u37 : op ≤ 37 := by omega
    have jb : bw op 27 37 = false := by simp [bw]; omega
    have mb : bw op 22 25 = false := by simp [bw]; omega
    have e1 : Hid (R = .returned (.tuple #[.bool (true), .bool (sc && reg), .bool (false), .bool (sc && !reg)])) := by
      show _ = _
      rw [HR.out]
      simp [n16, n20, n21, n25, n26, n38, m24, m26, m38, m39, jb, mb]
    clear jb mb
    clear HR
    cases sc <;> cases reg
    all_goals
      go_wp2_with (go_at_call 129; refine (snd2_ok _ _).mono ?_; rintro e w1 ⟨rfl, rfl⟩; rw [← HS.out])
      try simp only [Exit.inBlock, Exit.then]
      refine bodyPost_ret (results_tmp4 rfl _ _ _) rfl ?_
      exact ⟨e1.out.symm, bAl (bRefl w) _⟩
  · by_cases c1 : op ≤ 16
    · obtain rfl : op = 16 := by omega
      have hsc : sc = false := HS.out.trans (by decide)
      subst hsc
      have e1 : Hid (R = .returned (.tuple #[.bool (true), .bool (true), .bool (false), .bool (false)])) := by
        show _ = _
        rw [HR.out]
        exact ret4 (by simp) (by simp [bw]) (by simp [bw]) (by simp)
      clear HR h1 h39
      go_wp2_with (go_at_call 129; refine (snd2_ok _ _).mono ?_; rintro e w1 ⟨rfl, rfl⟩; rw [← HS.out])
      try simp only [Exit.inBlock, Exit.then]
      refine bodyPost_ret (results_tmp4 rfl _ _ _) rfl ?_
      exact ⟨e1.out.symm, bAl (bRefl w) _⟩
    · by_cases c2 : op ≤ 19
      · have hsc : sc = false := HS.out.trans (by simp [snd2, bw]; omega)
        subst hsc
        have n16 : (op == 16) = false := by simp; omega
        have m16 : (op != 16) = true := by simp; omega
        have n20 : (op == 20) = false := by simp; omega
        have m20 : (op != 20) = true := by simp; omega
        have n21 : (op == 21) = false := by simp; omega
        have m21 : (op != 21) = true := by simp; omega
        have n24 : (op == 24) = false := by simp; omega
        have m24 : (op != 24) = true := by simp; omega
        have n25 : (op == 25) = false := by simp; omega
        have m25 : (op != 25) = true := by simp; omega
        have n26 : (op == 26) = false := by simp; omega
        have m26 : (op != 26) = true := by simp; omega
        have n38 : (op == 38) = false := by simp; omega
        have m38 : (op != 38) = true := by simp; omega
        have n39 : (op == 39) = false := by simp; omega
        have m39 : (op != 39) = true := by simp; omega
        have l22 : op < 22 := by omega
        have l27 : op < 27 := by omega
        have u25 : op ≤ 25 := by omega
        have u37 : op ≤ 37 := by omega
        have jb : bw op 27 37 = false := by simp [bw]; omega
        have mb : bw op 22 25 = false := by simp [bw]; omega
        have e1 : Hid (R = .returned (.tuple #[.bool (true), .bool (false), .bool (false), .bool (false)])) := by
          show _ = _
          rw [HR.out]
          simp [n16, n20, n21, n25, n26, n38, m24, m26, m38, m39, jb, mb]
        clear jb mb
        clear HR
        go_wp2_with (go_at_call 129; refine (snd2_ok _ _).mono ?_; rintro e w1 ⟨rfl, rfl⟩; rw [← HS.out])
        try simp only [Exit.inBlock, Exit.then]
        refine bodyPost_ret (results_tmp4 rfl _ _ _) rfl ?_
        exact ⟨e1.out.symm, bAl (bRefl w) _⟩
      · by_cases c3 : op ≤ 20
        · obtain rfl : op = 20 := by omega
          have hsc : sc = false := HS.out.trans (by decide)
          subst hsc
          have e1 : Hid (R = .returned (.tuple #[.bool (true), .bool (false), .bool (false), .bool (true)])) := by
            show _ = _
            rw [HR.out]
            exact ret4 (by simp) (by simp [bw]) (by simp [bw]) (by simp)
          clear HR h1 h39
          go_wp2_with (go_at_call 129; refine (snd2_ok _ _).mono ?_; rintro e w1 ⟨rfl, rfl⟩; rw [← HS.out])
          try simp only [Exit.inBlock, Exit.then]
          refine bodyPost_ret (results_tmp4 rfl _ _ _) rfl ?_
          exact ⟨e1.out.symm, bAl (bRefl w) _⟩
        · by_cases c4 : op ≤ 21
          · obtain rfl : op = 21 := by omega
            have hsc : sc = false := HS.out.trans (by decide)
            subst hsc
            have e1 : Hid (R = .returned (.tuple #[.bool (true), .bool (false), .bool (false), .bool (true)])) := by
              show _ = _
              rw [HR.out]
              exact ret4 (by simp) (by simp [bw]) (by simp [bw]) (by simp)
            clear HR h1 h39
            go_wp2_with (go_at_call 129; refine (snd2_ok _ _).mono ?_; rintro e w1 ⟨rfl, rfl⟩; rw [← HS.out])
            try simp only [Exit.inBlock, Exit.then]
            refine bodyPost_ret (results_tmp4 rfl _ _ _) rfl ?_
            exact ⟨e1.out.symm, bAl (bRefl w) _⟩
          · by_cases c5 : op ≤ 23
            · have hsc : sc = false := HS.out.trans (by simp [snd2, bw]; omega)
              subst hsc
              have n16 : (op == 16) = false := by simp; omega
              have m16 : (op != 16) = true := by simp; omega
              have n20 : (op == 20) = false := by simp; omega
              have m20 : (op != 20) = true := by simp; omega
              have n21 : (op == 21) = false := by simp; omega
              have m21 : (op != 21) = true := by simp; omega
              have n24 : (op == 24) = false := by simp; omega
              have m24 : (op != 24) = true := by simp; omega
              have n25 : (op == 25) = false := by simp; omega
              have m25 : (op != 25) = true := by simp; omega
              have n26 : (op == 26) = false := by simp; omega
              have m26 : (op != 26) = true := by simp; omega
              have n38 : (op == 38) = false := by simp; omega
              have m38 : (op != 38) = true := by simp; omega
              have n39 : (op == 39) = false := by simp; omega
              have m39 : (op != 39) = true := by simp; omega
              have l22 : 22 ≤ op := by omega
              have l27 : op < 27 := by omega
              have u25 : op ≤ 25 := by omega
              have u37 : op ≤ 37 := by omega
              have jb : bw op 27 37 = false := by simp [bw]; omega
              have mb : bw op 22 25 = true := bw_iff.2 (by omega)
              have e1 : Hid (R = .returned (.tuple #[.bool (true), .bool (true), .bool (true), .bool (false)])) := by
                show _ = _
                rw [HR.out]
                simp [n16, n20, n21, n25, n26, n38, m24, m26, m38, m39, jb, mb]
              clear jb mb
              clear HR
              go_wp2_with (go_at_call 129; refine (snd2_ok _ _).mono ?_; rintro e w1 ⟨rfl, rfl⟩; rw [← HS.out])
              try simp only [Exit.inBlock, Exit.then]
              refine bodyPost_ret (results_tmp4 rfl _ _ _) rfl ?_
              exact ⟨e1.out.symm, bAl (bRefl w) _⟩
            · by_cases c6 : op ≤ 24
              · obtain rfl : op = 24 := by omega
                have hsc : sc = true := HS.out.trans (by decide)
                subst hsc
                have e1 : Hid (R = .returned (.tuple #[.bool (true), .bool (reg), .bool (true), .bool (!reg)])) := by
                  show _ = _
                  rw [HR.out]
                  exact ret4 (by simp) (by simp [bw]) (by simp [bw]) (by simp)
                clear HR h1 h39
                cases reg
                all_goals
                  go_wp2_with (go_at_call 129; refine (snd2_ok _ _).mono ?_; rintro e w1 ⟨rfl, rfl⟩; rw [← HS.out])
                  try simp only [Exit.inBlock, Exit.then]
                  refine bodyPost_ret (results_tmp4 rfl _ _ _) rfl ?_
                  exact ⟨e1.out.symm, bAl (bRefl w) _⟩
              · by_cases c7 : op ≤ 25
                · obtain rfl : op = 25 := by omega
                  have hsc : sc = false := HS.out.trans (by decide)
                  subst hsc
                  have e1 : Hid (R = .returned (.tuple #[.bool (true), .bool (true), .bool (true), .bool (true)])) := by
                    show _ = _
                    rw [HR.out]
                    exact ret4 (by simp) (by simp [bw]) (by simp [bw]) (by simp)
                  clear HR h1 h39
                  go_wp2_with (go_at_call 129; refine (snd2_ok _ _).mono ?_; rintro e w1 ⟨rfl, rfl⟩; rw [← HS.out])
                  try simp only [Exit.inBlock, Exit.then]
                  refine bodyPost_ret (results_tmp4 rfl _ _ _) rfl ?_
                  exact ⟨e1.out.symm, bAl (bRefl w) _⟩
                · by_cases c8 : op ≤ 26
                  · obtain rfl : op = 26 := by omega
                    have hsc : sc = false := HS.out.trans (by decide)
                    subst hsc
                    have e1 : Hid (R = .returned (.tuple #[.bool (false), .bool (false), .bool (!nar), .bool (nar)])) := by
                      show _ = _
                      rw [HR.out]
                      exact ret4 (by simp) (by simp [bw]) (by simp [bw]) (by simp)
                    clear HR h1 h39
                    go_wp2_with (go_at_call 129; refine (snd2_ok _ _).mono ?_; rintro e w1 ⟨rfl, rfl⟩; rw [← HS.out])
                    try simp only [Exit.inBlock, Exit.then]
                    refine bodyPost_ret (results_tmp4 rfl _ _ _) rfl ?_
                    exact ⟨e1.out.symm, bAl (bRefl w) _⟩
                  · by_cases c9 : op ≤ 37
                    · have hsc : sc = true := HS.out.trans (by simp [snd2, bw]; omega)
                      subst hsc
                      have n16 : (op == 16) = false := by simp; omega
                      have m16 : (op != 16) = true := by simp; omega
                      have n20 : (op == 20) = false := by simp; omega
                      have m20 : (op != 20) = true := by simp; omega
                      have n21 : (op == 21) = false := by simp; omega
                      have m21 : (op != 21) = true := by simp; omega
                      have n24 : (op == 24) = false := by simp; omega
                      have m24 : (op != 24) = true := by simp; omega
                      have n25 : (op == 25) = false := by simp; omega
                      have m25 : (op != 25) = true := by simp; omega
                      have n26 : (op == 26) = false := by simp; omega
                      have m26 : (op != 26) = true := by simp; omega
                      have n38 : (op == 38) = false := by simp; omega
                      have m38 : (op != 38) = true := by simp; omega
                      have n39 : (op == 39) = false := by simp; omega
                      have m39 : (op != 39) = true := by simp; omega
                      have l22 : 22 ≤ op := by omega
                      have l27 : 27 ≤ op := by omega
                      have u25 : 25 < op := by omega
                      have u37 : op ≤ 37 := by omega
                      have jb : bw op 27 37 = true := bw_iff.2 (by omega)
                      have mb : bw op 22 25 = false := by simp [bw]; omega
                      have e1 : Hid (R = .returned (.tuple #[.bool (true), .bool (reg), .bool (true), .bool (!reg)])) := by
                        show _ = _
                        rw [HR.out]
                        simp [n16, n20, n21, n25, n26, n38, m24, m26, m38, m39, jb, mb]
                      clear jb mb
                      clear HR
                      cases reg
                      all_goals
                        go_wp2_with (go_at_call 129; refine (snd2_ok _ _).mono ?_; rintro e w1 ⟨rfl, rfl⟩; rw [← HS.out])
                        try simp only [Exit.inBlock, Exit.then]
                        refine bodyPost_ret (results_tmp4 rfl _ _ _) rfl ?_
                        exact ⟨e1.out.symm, bAl (bRefl w) _⟩
                    · by_cases c10 : op ≤ 38
                      · obtain rfl : op = 38 := by omega
                        have hsc : sc = false := HS.out.trans (by decide)
                        subst hsc
                        have e1 : Hid (R = .returned (.tuple #[.bool (false), .bool (false), .bool (false), .bool (true)])) := by
                          show _ = _
                          rw [HR.out]
                          exact ret4 (by simp) (by simp [bw]) (by simp [bw]) (by simp)
                        clear HR h1 h39
                        go_wp2_with (go_at_call 129; refine (snd2_ok _ _).mono ?_; rintro e w1 ⟨rfl, rfl⟩; rw [← HS.out])
                        try simp only [Exit.inBlock, Exit.then]
                        refine bodyPost_ret (results_tmp4 rfl _ _ _) rfl ?_
                        exact ⟨e1.out.symm, bAl (bRefl w) _⟩
                      · obtain rfl : op = 39 := by omega
                        have hsc : sc = false := HS.out.trans (by decide)
                        subst hsc
                        have e1 : Hid (R = .returned (.tuple #[.bool (false), .bool (false), .bool (false), .bool (false)])) := by
                          show _ = _
                          rw [HR.out]
                          exact ret4 (by simp) (by simp [bw]) (by simp [bw]) (by simp)
                        clear HR h1 h39
                        go_wp2_with (go_at_call 129; refine (snd2_ok _ _).mono ?_; rintro e w1 ⟨rfl, rfl⟩; rw [← HS.out])
                        try simp only [Exit.inBlock, Exit.then]
                        refine bodyPost_ret (results_tmp4 rfl _ _ _) rfl ?_
                        exact ⟨e1.out.symm, bAl (bRefl w) _⟩
end Go.Proofs.Ytpiiefdaaijgbaa
