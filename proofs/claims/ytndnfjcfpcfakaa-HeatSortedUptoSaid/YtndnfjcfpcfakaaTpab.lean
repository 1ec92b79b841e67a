/- What the law needs, one part after another: walks of functions and plain laws. No conditions but those that each law names. -/
import Derived.Test.YtndnfjcfpcfakaaTpaa
import Derived.Deep.CutBlock
import Derived.Deep.DeepCutAuto
import Derived.Deep.QuietTactic
import Derived.BigQuiet
import Derived.Test.YtndnfjcfpcfakaaProg
import Derived.OrdersHeld
import Derived.Deep.RegionHeld
import Derived.StillTailTactics
import Derived.OwnWalk
import Derived.Deep.AppendLies
import Derived.Shelf.Slices.Reverse
import Derived.Lib.OwnBridge
namespace Go.Proofs.Ytndnfjcfpcfakaa
open Go Go.RowKit Go.Wr Go.Fl
set_option maxHeartbeats 4000000
set_option maxRecDepth 100000
theorem immFits_ok (w : World) (x : In) : Calls Try.prog 103 #[.agg (inv x)] w fun e w' => e = .returned (.bool (immFits x)) ∧ Below w.heap.size w w' := by
 obtain ⟨op, nar, reg, sz, dst, src, off, imm⟩ := x
 obtain ⟨R, hR⟩ : ∃ R, R = immFits ⟨op, nar, reg, sz, dst, src, off, imm⟩ := ⟨_, rfl⟩
 rw [← hR]
 unfold immFits at hR
 simp only at hR
 have HR := Lib.hid hR
 clear hR
 unfold inv
 go_enter Try.func103, Try.ntmps103
 by_cases h1 : op = 20
 ·have e1 : Hid (R = true) := by show _ = _; rw [HR.out, if_pos h1]
  subst h1
  clear HR
  go_wp2
  go_ret
  exact ⟨retB e1.out.symm, bAl (bRefl w) _⟩
 ·have HR1 := Lib.hid (HR.out.trans (if_neg h1))
  have p1 : (op == 20) = false := by simpa using h1
  clear HR h1
  by_cases h2 : imm < -2147483648 ∨ 2147483647 < imm
  ·have e1 : Hid (R = false) := by show _ = _; rw [HR1.out, if_pos h2]
   clear HR1
   by_cases h3 : imm < -2147483648
   ·go_wp2
    go_ret
    exact ⟨retB e1.out.symm, bAl (bRefl w) _⟩
   ·have h4 : 2147483647 < imm := by omega
    have h3' : -2147483648 ≤ imm := by omega
    clear h2
    go_wp2
    go_ret
    exact ⟨retB e1.out.symm, bAl (bRefl w) _⟩
  ·have HR2 := Lib.hid (HR1.out.trans (if_neg h2))
   have h3 : -2147483648 ≤ imm := by omega
   have h4 : imm ≤ 2147483647 := by omega
   clear HR1 h2
   by_cases h5 : op = 4 ∨ op = 5 ∨ op = 6 ∨ op = 7
   ·have e1 : Hid (R = (imm != 0)) := by show _ = _; rw [HR2.out, if_pos h5]
    clear HR2
    rcases h5 with h5 | h5 | h5 | h5
    all_goals
     subst h5
     go_wp2
     go_ret
     exact ⟨retB e1.out.symm, bAl (bRefl w) _⟩
   ·have HR3 := Lib.hid (HR2.out.trans (if_neg h5))
    have a4 : (op == 4) = false := by simp; omega
    have a5 : (op == 5) = false := by simp; omega
    have a6 : (op == 6) = false := by simp; omega
    have a7 : (op == 7) = false := by simp; omega
    clear HR2 h5
    by_cases h6 : op = 11 ∨ op = 12 ∨ op = 13
    ·have e1 : Hid (R = (decide (0 ≤ imm) && decide (imm < 64) && !(nar && decide (32 ≤ imm)))) := by show _ = _; rw [HR3.out, if_pos h6]
     clear HR3
     have fin : ∀ b : Bool, (decide (0 ≤ imm) && decide (imm < 64) && !(nar && decide (32 ≤ imm))) = b → Hid (R = b) := fun b hb => by show _ = _; rw [e1.out, hb]
     by_cases g1 : 0 ≤ imm
     ·by_cases g2 : imm < 64
      ·cases nar with
       | false =>
        have f1 := fin true (by simp [g1, g2])
        clear fin e1
        rcases h6 with h6 | h6 | h6
        all_goals
         subst h6
         go_wp2
         go_ret
         exact ⟨retB f1.out.symm, bAl (bRefl w) _⟩
       | true =>
        have f1 := fin (!decide (32 ≤ imm)) (by simp [g1, g2])
        clear fin e1
        rcases h6 with h6 | h6 | h6
        all_goals
         subst h6
         go_wp2
         go_ret
         exact ⟨retB f1.out.symm, bAl (bRefl w) _⟩
      ·have f1 := fin false (by simp [g2])
       have g2' : 64 ≤ imm := by omega
       clear fin e1 g2
       rcases h6 with h6 | h6 | h6
       all_goals
        subst h6
        go_wp2
        go_ret
        exact ⟨retB f1.out.symm, bAl (bRefl w) _⟩
     ·have f1 := fin false (by simp [g1])
      have g1' : imm < 0 := by omega
      clear fin e1 g1
      rcases h6 with h6 | h6 | h6
      all_goals
       subst h6
       go_wp2
       go_ret
       exact ⟨retB f1.out.symm, bAl (bRefl w) _⟩
    ·have HR4 := Lib.hid (HR3.out.trans (if_neg h6))
     have b1 : (op == 11) = false := by simp; omega
     have b2 : (op == 12) = false := by simp; omega
     have b3 : (op == 13) = false := by simp; omega
     clear HR3 h6
     by_cases h7 : op = 25
     ·have e1 : Hid (R = atm imm) := by show _ = _; rw [HR4.out, if_pos h7]
      clear HR4
      subst h7
      go_wp2_with (go_at_call 112; refine (atm_ok _ _).mono ?_; rintro e w1 ⟨rfl, rfl⟩; rw [← e1.out])
      go_ret
      exact ⟨rfl, bAl (bRefl w) _⟩
     ·have HR5 := Lib.hid (HR4.out.trans (if_neg h7))
      have b4 : (op == 25) = false := by simpa using h7
      clear HR4 h7
      by_cases h8 : op = 21
      ·have e1 : Hid (R = decide (0 ≤ imm)) := by show _ = _; rw [HR5.out, if_pos h8]
       clear HR5
       subst h8
       go_wp2
       go_ret
       exact ⟨retB e1.out.symm, bAl (bRefl w) _⟩
      ·have e1 : Hid (R = true) := by show _ = _; rw [HR5.out, if_neg h8]
       have b5 : (op == 21) = false := by simpa using h8
       clear HR5 h8
       go_wp2
       go_ret
       exact ⟨retB e1.out.symm, bAl (bRefl w) _⟩
theorem ret4 {a b c d a' b' c' d' : Bool} (h1 : a' = a) (h2 : b' = b) (h3 : c' = c) (h4 : d' = d) : Ending.returned (.tuple #[.bool a, .bool b, .bool c, .bool d]) = .returned (.tuple #[.bool a', .bool b', .bool c', .bool d']) := by rw [h1, h2, h3, h4]
def usesR (x : In) : Ending := .returned (.tuple #[.bool (uD x), .bool (uS x), .bool (uO x), .bool (uI x)])
theorem results_tmp4 {fn : Func} {t u v x : Tmp} (h : fn.results = #[.tmp t, .tmp u, .tmp v, .tmp x]) (tmps : Array Value) (P : Program) (w : World) :
  (results fn tmps).run P w = .ok (.tuple #[tmps.getD t undef, tmps.getD u undef, tmps.getD v undef, tmps.getD x undef]) w := by
 simp [results, h]
theorem uses_ok (w : World) (x : In) (h1 : 1 ≤ x.op) (h39 : x.op ≤ 39) : Calls Try.prog 99 #[.agg (inv x)] w fun e w' => e = usesR x ∧ Below w.heap.size w w' := by
 obtain ⟨op, nar, reg, sz, dst, src, off, imm⟩ := x
 simp only at h1 h39
 obtain ⟨R, hR⟩ : ∃ R, R = usesR ⟨op, nar, reg, sz, dst, src, off, imm⟩ := ⟨_, rfl⟩
 rw [← hR]
 unfold usesR uD uS uO uI at hR
 simp only at hR
 obtain ⟨sc, hs2⟩ : ∃ s2, s2 = snd2 op := ⟨_, rfl⟩
 have HS := Lib.hid hs2
 rw [← hs2] at hR
 have HR := Lib.hid hR
 clear hR hs2
 unfold inv
 go_enter Try.func99, Try.ntmps99
 by_cases c0 : op ≤ 15
 ·have n16 : (op == 16) = false := by simp; omega
  have m16 : (op != 16) = true := by simp; omega
  have n20 : (op == 20) = false := by simp; omega
  have m20 : (op != 20) = true := by simp; omega
  have n21 : (op == 21) = false := by simp; omega
  have m21 : (op != 21) = true := by simp; omega
  have n24 : (op == 24) = false := by simp; omega
  have m24 : (op != 24) = true := by simp; omega
  have n25 : (op == 25) = false := by simp; omega
  have m25 : (op != 25) = true := by simp; omega
  have n26 : (op == 26) = false := by simp; omega
  have m26 : (op != 26) = true := by simp; omega
  have n38 : (op == 38) = false := by simp; omega
  have m38 : (op != 38) = true := by simp; omega
  have n39 : (op == 39) = false := by simp; omega
  have m39 : (op != 39) = true := by simp; omega
  have l22 : op < 22 := by omega
  have l27 : op < 27 := by omega
  have u25 : op ≤ 25 := by omega
  have u37 : op ≤ 37 := by omega
  have jb : bw op 27 37 = false := by simp [bw]; omega
  have mb : bw op 22 25 = false := by simp [bw]; omega
  have e1 : Hid (R = .returned (.tuple #[.bool (true), .bool (sc && reg), .bool (false), .bool (sc && !reg)])) := by
   show _ = _
   rw [HR.out]
   simp [n16, n20, n21, n25, n26, n38, m24, m26, m38, m39, jb, mb]
  clear jb mb
  clear HR
  cases sc <;> cases reg
  all_goals
   go_wp2_with (go_at_call 111; refine (snd2_ok _ _).mono ?_; rintro e w1 ⟨rfl, rfl⟩; rw [← HS.out])
   try simp only [Exit.inBlock, Exit.then]
   refine bodyPost_ret (results_tmp4 rfl _ _ _) rfl ?_
   exact ⟨e1.out.symm, bAl (bRefl w) _⟩
 ·by_cases c1 : op ≤ 16
  ·obtain rfl : op = 16 := by omega
   have hsc : sc = false := HS.out.trans (by decide)
   subst hsc
   have e1 : Hid (R = .returned (.tuple #[.bool (true), .bool (true), .bool (false), .bool (false)])) := by
    show _ = _
    rw [HR.out]
    exact ret4 (by simp) (by simp [bw]) (by simp [bw]) (by simp)
   clear HR h1 h39
   go_wp2_with (go_at_call 111; refine (snd2_ok _ _).mono ?_; rintro e w1 ⟨rfl, rfl⟩; rw [← HS.out])
   try simp only [Exit.inBlock, Exit.then]
   refine bodyPost_ret (results_tmp4 rfl _ _ _) rfl ?_
   exact ⟨e1.out.symm, bAl (bRefl w) _⟩
  ·by_cases c2 : op ≤ 19
   ·have hsc : sc = false := HS.out.trans (by simp [snd2, bw]; omega)
    subst hsc
    have n16 : (op == 16) = false := by simp; omega
    have m16 : (op != 16) = true := by simp; omega
    have n20 : (op == 20) = false := by simp; omega
    have m20 : (op != 20) = true := by simp; omega
    have n21 : (op == 21) = false := by simp; omega
    have m21 : (op != 21) = true := by simp; omega
    have n24 : (op == 24) = false := by simp; omega
    have m24 : (op != 24) = true := by simp; omega
    have n25 : (op == 25) = false := by simp; omega
    have m25 : (op != 25) = true := by simp; omega
    have n26 : (op == 26) = false := by simp; omega
    have m26 : (op != 26) = true := by simp; omega
    have n38 : (op == 38) = false := by simp; omega
    have m38 : (op != 38) = true := by simp; omega
    have n39 : (op == 39) = false := by simp; omega
    have m39 : (op != 39) = true := by simp; omega
    have l22 : op < 22 := by omega
    have l27 : op < 27 := by omega
    have u25 : op ≤ 25 := by omega
    have u37 : op ≤ 37 := by omega
    have jb : bw op 27 37 = false := by simp [bw]; omega
    have mb : bw op 22 25 = false := by simp [bw]; omega
    have e1 : Hid (R = .returned (.tuple #[.bool (true), .bool (false), .bool (false), .bool (false)])) := by
     show _ = _
     rw [HR.out]
     simp [n16, n20, n21, n25, n26, n38, m24, m26, m38, m39, jb, mb]
    clear jb mb
    clear HR
    go_wp2_with (go_at_call 111; refine (snd2_ok _ _).mono ?_; rintro e w1 ⟨rfl, rfl⟩; rw [← HS.out])
    try simp only [Exit.inBlock, Exit.then]
    refine bodyPost_ret (results_tmp4 rfl _ _ _) rfl ?_
    exact ⟨e1.out.symm, bAl (bRefl w) _⟩
   ·by_cases c3 : op ≤ 20
    ·obtain rfl : op = 20 := by omega
     have hsc : sc = false := HS.out.trans (by decide)
     subst hsc
     have e1 : Hid (R = .returned (.tuple #[.bool (true), .bool (false), .bool (false), .bool (true)])) := by
      show _ = _
      rw [HR.out]
      exact ret4 (by simp) (by simp [bw]) (by simp [bw]) (by simp)
     clear HR h1 h39
     go_wp2_with (go_at_call 111; refine (snd2_ok _ _).mono ?_; rintro e w1 ⟨rfl, rfl⟩; rw [← HS.out])
     try simp only [Exit.inBlock, Exit.then]
     refine bodyPost_ret (results_tmp4 rfl _ _ _) rfl ?_
     exact ⟨e1.out.symm, bAl (bRefl w) _⟩
    ·by_cases c4 : op ≤ 21
     ·obtain rfl : op = 21 := by omega
      have hsc : sc = false := HS.out.trans (by decide)
      subst hsc
      have e1 : Hid (R = .returned (.tuple #[.bool (true), .bool (false), .bool (false), .bool (true)])) := by
       show _ = _
       rw [HR.out]
       exact ret4 (by simp) (by simp [bw]) (by simp [bw]) (by simp)
      clear HR h1 h39
      go_wp2_with (go_at_call 111; refine (snd2_ok _ _).mono ?_; rintro e w1 ⟨rfl, rfl⟩; rw [← HS.out])
      try simp only [Exit.inBlock, Exit.then]
      refine bodyPost_ret (results_tmp4 rfl _ _ _) rfl ?_
      exact ⟨e1.out.symm, bAl (bRefl w) _⟩
     ·by_cases c5 : op ≤ 23
      ·have hsc : sc = false := HS.out.trans (by simp [snd2, bw]; omega)
       subst hsc
       have n16 : (op == 16) = false := by simp; omega
       have m16 : (op != 16) = true := by simp; omega
       have n20 : (op == 20) = false := by simp; omega
       have m20 : (op != 20) = true := by simp; omega
       have n21 : (op == 21) = false := by simp; omega
       have m21 : (op != 21) = true := by simp; omega
       have n24 : (op == 24) = false := by simp; omega
       have m24 : (op != 24) = true := by simp; omega
       have n25 : (op == 25) = false := by simp; omega
       have m25 : (op != 25) = true := by simp; omega
       have n26 : (op == 26) = false := by simp; omega
       have m26 : (op != 26) = true := by simp; omega
       have n38 : (op == 38) = false := by simp; omega
       have m38 : (op != 38) = true := by simp; omega
       have n39 : (op == 39) = false := by simp; omega
       have m39 : (op != 39) = true := by simp; omega
       have l22 : 22 ≤ op := by omega
       have l27 : op < 27 := by omega
       have u25 : op ≤ 25 := by omega
       have u37 : op ≤ 37 := by omega
       have jb : bw op 27 37 = false := by simp [bw]; omega
       have mb : bw op 22 25 = true := bw_iff.2 (by omega)
       have e1 : Hid (R = .returned (.tuple #[.bool (true), .bool (true), .bool (true), .bool (false)])) := by
        show _ = _
        rw [HR.out]
        simp [n16, n20, n21, n25, n26, n38, m24, m26, m38, m39, jb, mb]
       clear jb mb
       clear HR
       go_wp2_with (go_at_call 111; refine (snd2_ok _ _).mono ?_; rintro e w1 ⟨rfl, rfl⟩; rw [← HS.out])
       try simp only [Exit.inBlock, Exit.then]
       refine bodyPost_ret (results_tmp4 rfl _ _ _) rfl ?_
       exact ⟨e1.out.symm, bAl (bRefl w) _⟩
      ·by_cases c6 : op ≤ 24
       ·obtain rfl : op = 24 := by omega
        have hsc : sc = true := HS.out.trans (by decide)
        subst hsc
        have e1 : Hid (R = .returned (.tuple #[.bool (true), .bool (reg), .bool (true), .bool (!reg)])) := by
         show _ = _
         rw [HR.out]
         exact ret4 (by simp) (by simp [bw]) (by simp [bw]) (by simp)
        clear HR h1 h39
        cases reg
        all_goals
         go_wp2_with (go_at_call 111; refine (snd2_ok _ _).mono ?_; rintro e w1 ⟨rfl, rfl⟩; rw [← HS.out])
         try simp only [Exit.inBlock, Exit.then]
         refine bodyPost_ret (results_tmp4 rfl _ _ _) rfl ?_
         exact ⟨e1.out.symm, bAl (bRefl w) _⟩
       ·by_cases c7 : op ≤ 25
        ·obtain rfl : op = 25 := by omega
         have hsc : sc = false := HS.out.trans (by decide)
         subst hsc
         have e1 : Hid (R = .returned (.tuple #[.bool (true), .bool (true), .bool (true), .bool (true)])) := by
          show _ = _
          rw [HR.out]
          exact ret4 (by simp) (by simp [bw]) (by simp [bw]) (by simp)
         clear HR h1 h39
         go_wp2_with (go_at_call 111; refine (snd2_ok _ _).mono ?_; rintro e w1 ⟨rfl, rfl⟩; rw [← HS.out])
         try simp only [Exit.inBlock, Exit.then]
         refine bodyPost_ret (results_tmp4 rfl _ _ _) rfl ?_
         exact ⟨e1.out.symm, bAl (bRefl w) _⟩
        ·by_cases c8 : op ≤ 26
         ·obtain rfl : op = 26 := by omega
          have hsc : sc = false := HS.out.trans (by decide)
          subst hsc
          have e1 : Hid (R = .returned (.tuple #[.bool (false), .bool (false), .bool (!nar), .bool (nar)])) := by
           show _ = _
           rw [HR.out]
           exact ret4 (by simp) (by simp [bw]) (by simp [bw]) (by simp)
          clear HR h1 h39
          go_wp2_with (go_at_call 111; refine (snd2_ok _ _).mono ?_; rintro e w1 ⟨rfl, rfl⟩; rw [← HS.out])
          try simp only [Exit.inBlock, Exit.then]
          refine bodyPost_ret (results_tmp4 rfl _ _ _) rfl ?_
          exact ⟨e1.out.symm, bAl (bRefl w) _⟩
         ·by_cases c9 : op ≤ 37
          ·have hsc : sc = true := HS.out.trans (by simp [snd2, bw]; omega)
           subst hsc
           have n16 : (op == 16) = false := by simp; omega
           have m16 : (op != 16) = true := by simp; omega
           have n20 : (op == 20) = false := by simp; omega
           have m20 : (op != 20) = true := by simp; omega
           have n21 : (op == 21) = false := by simp; omega
           have m21 : (op != 21) = true := by simp; omega
           have n24 : (op == 24) = false := by simp; omega
           have m24 : (op != 24) = true := by simp; omega
           have n25 : (op == 25) = false := by simp; omega
           have m25 : (op != 25) = true := by simp; omega
           have n26 : (op == 26) = false := by simp; omega
           have m26 : (op != 26) = true := by simp; omega
           have n38 : (op == 38) = false := by simp; omega
           have m38 : (op != 38) = true := by simp; omega
           have n39 : (op == 39) = false := by simp; omega
           have m39 : (op != 39) = true := by simp; omega
           have l22 : 22 ≤ op := by omega
           have l27 : 27 ≤ op := by omega
           have u25 : 25 < op := by omega
           have u37 : op ≤ 37 := by omega
           have jb : bw op 27 37 = true := bw_iff.2 (by omega)
           have mb : bw op 22 25 = false := by simp [bw]; omega
           have e1 : Hid (R = .returned (.tuple #[.bool (true), .bool (reg), .bool (true), .bool (!reg)])) := by
            show _ = _
            rw [HR.out]
            simp [n16, n20, n21, n25, n26, n38, m24, m26, m38, m39, jb, mb]
           clear jb mb
           clear HR
           cases reg
           all_goals
            go_wp2_with (go_at_call 111; refine (snd2_ok _ _).mono ?_; rintro e w1 ⟨rfl, rfl⟩; rw [← HS.out])
            try simp only [Exit.inBlock, Exit.then]
            refine bodyPost_ret (results_tmp4 rfl _ _ _) rfl ?_
            exact ⟨e1.out.symm, bAl (bRefl w) _⟩
          ·by_cases c10 : op ≤ 38
           ·obtain rfl : op = 38 := by omega
            have hsc : sc = false := HS.out.trans (by decide)
            subst hsc
            have e1 : Hid (R = .returned (.tuple #[.bool (false), .bool (false), .bool (false), .bool (true)])) := by
             show _ = _
             rw [HR.out]
             exact ret4 (by simp) (by simp [bw]) (by simp [bw]) (by simp)
            clear HR h1 h39
            go_wp2_with (go_at_call 111; refine (snd2_ok _ _).mono ?_; rintro e w1 ⟨rfl, rfl⟩; rw [← HS.out])
            try simp only [Exit.inBlock, Exit.then]
            refine bodyPost_ret (results_tmp4 rfl _ _ _) rfl ?_
            exact ⟨e1.out.symm, bAl (bRefl w) _⟩
           ·obtain rfl : op = 39 := by omega
            have hsc : sc = false := HS.out.trans (by decide)
            subst hsc
            have e1 : Hid (R = .returned (.tuple #[.bool (false), .bool (false), .bool (false), .bool (false)])) := by
             show _ = _
             rw [HR.out]
             exact ret4 (by simp) (by simp [bw]) (by simp [bw]) (by simp)
            clear HR h1 h39
            go_wp2_with (go_at_call 111; refine (snd2_ok _ _).mono ?_; rintro e w1 ⟨rfl, rfl⟩; rw [← HS.out])
            try simp only [Exit.inBlock, Exit.then]
            refine bodyPost_ret (results_tmp4 rfl _ _ _) rfl ?_
            exact ⟨e1.out.symm, bAl (bRefl w) _⟩
end Go.Proofs.Ytndnfjcfpcfakaa
namespace Go.Proofs.Ytndnfjcfpcfakaa
open Go Go.RowKit Go.Wr Go.Fl
set_option maxHeartbeats 4000000
set_option maxRecDepth 100000
theorem inv_cells {W : World} {p : Nat} {T : TypeId} {x : In} (h : Blk W p T (inv x)) : W.cell? ⟨p, 0, none⟩ = some (.int .i64 x.op) ∧ W.cell? ⟨p, 1, none⟩ = some (.bool x.nar) ∧ W.cell? ⟨p, 2, none⟩ = some (.bool x.reg) ∧ W.cell? ⟨p, 3, none⟩ = some (.int .i64 x.sz) ∧
  W.cell? ⟨p, 4, none⟩ = some (.int .i64 x.dst) ∧ W.cell? ⟨p, 5, none⟩ = some (.int .i64 x.src) ∧ W.cell? ⟨p, 6, none⟩ = some (.int .i64 x.off) ∧ W.cell? ⟨p, 7, none⟩ = some (.int .i64 x.imm) :=
 ⟨h.cell 0, h.cell 1, h.cell 2, h.cell 3, h.cell 4, h.cell 5, h.cell 6, h.cell 7⟩
theorem retI {a b : Int} {k : IntKind} (h : a = b) : Ending.returned (.int k a) = .returned (.int k b) := by rw [h]
theorem right_ok (w : World) (x : In) : Calls Try.prog 70 #[.agg (inv x)] w fun e w' => e = .returned (.int .i64 (right x)) ∧ Below w.heap.size w w' := by
 obtain ⟨R, hR⟩ : ∃ R, R = right x := ⟨_, rfl⟩
 rw [← hR]
 unfold right at hR
 have HR := Lib.hid hR
 clear hR
 have hv : inv x = #[.int .i64 x.op, .bool x.nar, .bool x.reg, .int .i64 x.sz, .int .i64 x.dst, .int .i64 x.src, .int .i64 x.off, .int .i64 x.imm] := rfl
 rw [hv]
 go_enter Try.func70, Try.ntmps70
 go_upto_region 1 with (fail)
 rw [← hv]
 generalize hW : w.alloc (.cells (inv x) 88) = W
 have PW : Blk W w.heap.size 88 (inv x) := by rw [← hW]; exact Blk.new _ _ _
 have bW : Below w.heap.size w W := by rw [← hW]; exact bAl (bRefl w) _
 obtain ⟨c0, c1, c2, c3, c4, c5, c6, c7⟩ := inv_cells PW
 have HP := Lib.hid PW
 clear hW PW hv
 go_wp2_with fail
 refine (formed_ok _ x).mono ?_
 rintro e w1 ⟨rfl, b1⟩
 have P1 := HP.out.below b1 HP.out.lt
 have t1 := bThen bW b1
 obtain ⟨c0, c1, c2, c3, c4, c5, c6, c7⟩ := inv_cells P1
 have HP1 := Lib.hid P1
 clear HP bW b1 P1
 cases hf : formed x with
 | false =>
  have e1 : Hid (R = 21) := by show _ = _; rw [HR.out, if_pos hf]
  clear HR hf
  go_wp2
  go_ret
  exact ⟨retI e1.out.symm, t1⟩
 | true =>
  obtain ⟨hb, _⟩ := formed_sz hf
  have HR1 := Lib.hid (HR.out.trans (if_neg (by rw [hf]; simp)))
  clear HR hf
  go_wp2_with fail
  refine (uses_ok _ x hb.1 hb.2).mono ?_
  rintro e w2 ⟨he, b2⟩
  unfold usesR at he
  subst he
  have P2 := HP1.out.below b2 HP1.out.lt
  have t2 := bThen t1 b2
  obtain ⟨c0, c1, c2, c3, c4, c5, c6, c7⟩ := inv_cells P2
  have HP2 := Lib.hid P2
  obtain ⟨d, hd⟩ : ∃ d, d = uD x := ⟨_, rfl⟩
  obtain ⟨s, hs⟩ : ∃ s, s = uS x := ⟨_, rfl⟩
  obtain ⟨o, ho⟩ : ∃ o, o = uO x := ⟨_, rfl⟩
  obtain ⟨m, hm⟩ : ∃ m, m = uI x := ⟨_, rfl⟩
  rw [← hd, ← hs, ← ho, ← hm] at HR1 ⊢
  clear hd hs ho hm HP1 t1 b2 P2
  obtain ⟨bA, hA⟩ : ∃ b, b = isReg x.dst (wrD x.op) := ⟨_, rfl⟩
  obtain ⟨bB, hB⟩ : ∃ b, b = isReg x.src (wrS x.op x.imm) := ⟨_, rfl⟩
  rw [← hA, ← hB] at HR1
  have HA := Lib.hid hA
  have HB := Lib.hid hB
  clear hA hB hb
  go_upto_region 4 with (fail)
  go_cut [17] (fun t wc => t = .bool (d && !bA) ∧ ∃ n, w2.drewN n = wc)
  case first =>
   cases d with
   | false =>
    go_quiet (fail)
    go_wp2
    go_meet
    exact ⟨rfl, _, rfl⟩
   | true =>
    go_quiet ((first | (go_at_call 101; exact Calls.quiet_of_same (wrD_ok _ _)) | (go_at_call 100; exact Calls.quiet_of_same (isReg_ok _ _ _))))
    go_wp2
    go_meet
    exact ⟨by rw [HA.out]; rfl, _, rfl⟩
  case rest =>
   obtain ⟨rfl, n1, rfl⟩ := hcut
   have HP2' := Lib.hid (HP2.out.drewN n1)
   have t2' := bDraw t2 n1
   clear HP2 t2
   generalize w2.drewN n1 = w2 at HP2' t2' ⊢
   have HP2 := Lib.hid HP2'.out
   have t2 := t2'
   obtain ⟨c0, c1, c2, c3, c4, c5, c6, c7⟩ := inv_cells HP2.out
   clear HP2' t2'
   go_upto_if 17 with (fail)
   go_cut [17] (fun t wc => t = .bool ((d && !bA) || (s && !bB)) ∧ ∃ n, w2.drewN n = wc)
   case first =>
    cases hh : (d && !bA) with
    | true =>
     go_wp2
     go_meet
     exact ⟨by first | rfl | simp [hh], 0, by first | rfl | simp⟩
    | false =>
     have HH := Lib.hid hh
     clear hh
     cases s with
     | false =>
      go_upto_region 5 with (fail)
      go_quiet (fail)
      go_wp2
      go_meet
      refine ⟨?_, ?_⟩
      ·first | rfl | (rw [HH.out]; rfl)
      ·first | exact ⟨_, rfl⟩ | exact ⟨_, World.drewN_drewN _ _ _⟩
     | true =>
      go_upto_region 5 with (fail)
      go_quiet ((first | (go_at_call 102; exact Calls.quiet_of_same (wrS_ok _ _ _)) | (go_at_call 100; exact Calls.quiet_of_same (isReg_ok _ _ _))))
      go_wp2
      go_meet
      refine ⟨?_, ?_⟩
      ·rw [HB.out]; first | rfl | (rw [HH.out]; rfl)
      ·first | exact ⟨_, rfl⟩ | exact ⟨_, World.drewN_drewN _ _ _⟩
   case rest =>
    obtain ⟨rfl, n2, rfl⟩ := hcut
    obtain ⟨q1, hq1⟩ : ∃ q, q = ((d && !bA) || (s && !bB)) := ⟨_, rfl⟩
    rw [← hq1] at HR1 ⊢
    clear hq1 HA HB
    cases q1 with
    | true =>
     have e1 : Hid (R = 22) := by show _ = _; rw [HR1.out, if_pos rfl]
     clear HR1
     go_wp2
     go_ret
     exact ⟨retI e1.out.symm, bDraw t2 _⟩
    | false =>
     have HR2 := Lib.hid (HR1.out.trans (if_neg (by simp)))
     clear HR1
     have HP3 := Lib.hid (HP2.out.drewN n2)
     have t3 := bDraw t2 n2
     generalize w2.drewN n2 = w3 at HP3 t3 ⊢
     obtain ⟨c0, c1, c2, c3, c4, c5, c6, c7⟩ := inv_cells HP3.out
     obtain ⟨q0, hq0⟩ : ∃ q, q = (!d && x.dst != 0) := ⟨_, rfl⟩
     rw [← hq0] at HR2
     have HQ0 := Lib.hid hq0
     clear t2 HP2 hq0
     go_upto_region 7 with (fail)
     go_cut [40] (fun t wc => t = .bool q0 ∧ w3 = wc)
     case first =>
      cases d <;> go_wp2 <;> go_meet <;> exact ⟨by rw [HQ0.out]; rfl, rfl⟩
     case rest =>
      obtain ⟨rfl, rfl⟩ := hcut
      go_upto_if 40 with (fail)
      go_cut [40] (fun t wc => t = .bool (q0 || !s && x.src != 0 || !o && x.off != 0 || decide (x.off < -32768) || decide (32768 ≤ x.off)) ∧ w3 = wc)
      case first =>
       clear HR2 HQ0
       cases q0 with
       | true =>
        go_wp2
        go_meet
        exact ⟨by simp, rfl⟩
       | false =>
        cases s with
        | true =>
         cases o with
         | true =>
          by_cases k1 : x.off < -32768
          ·have j1 : decide (x.off < -32768) = true := decide_eq_true k1
           go_wp2
           go_meet
           exact ⟨by simp [j1], rfl⟩
          ·have j1 : decide (x.off < -32768) = false := decide_eq_false k1
           have k1' : -32768 ≤ x.off := by omega
           clear k1
           go_wp2
           go_meet
           exact ⟨by simp [j1], rfl⟩
         | false =>
          by_cases ho : x.off = 0
          ·have fo : (x.off != 0) = false := by simp [ho]
           have k1' : -32768 ≤ x.off := by omega
           have k2' : x.off < 32768 := by omega
           have j1 : decide (x.off < -32768) = false := decide_eq_false (by omega)
           have j2 : decide (32768 ≤ x.off) = false := decide_eq_false (by omega)
           clear ho
           go_wp2
           go_meet
           exact ⟨by simp [fo, j1, j2], rfl⟩
          ·have fo : (x.off != 0) = true := by simp [ho]
           go_wp2
           go_meet
           exact ⟨by simp [fo], rfl⟩
        | false =>
         by_cases hs : x.src = 0
         ·have fs : (x.src != 0) = false := by simp [hs]
          cases o with
          | true =>
           by_cases k1 : x.off < -32768
           ·have j1 : decide (x.off < -32768) = true := decide_eq_true k1
            go_wp2
            go_meet
            exact ⟨by simp [fs, j1], rfl⟩
           ·have j1 : decide (x.off < -32768) = false := decide_eq_false k1
            have k1' : -32768 ≤ x.off := by omega
            clear k1
            go_wp2
            go_meet
            exact ⟨by simp [fs, j1], rfl⟩
          | false =>
           by_cases ho : x.off = 0
           ·have fo : (x.off != 0) = false := by simp [ho]
            have k1' : -32768 ≤ x.off := by omega
            have k2' : x.off < 32768 := by omega
            have j1 : decide (x.off < -32768) = false := decide_eq_false (by omega)
            have j2 : decide (32768 ≤ x.off) = false := decide_eq_false (by omega)
            clear ho
            go_wp2
            go_meet
            exact ⟨by simp [fs, fo, j1, j2], rfl⟩
           ·have fo : (x.off != 0) = true := by simp [ho]
            go_wp2
            go_meet
            exact ⟨by simp [fs, fo], rfl⟩
         ·have fs : (x.src != 0) = true := by simp [hs]
          go_wp2
          go_meet
          exact ⟨by simp [fs], rfl⟩
      case rest =>
       obtain ⟨rfl, rfl⟩ := hcut
       obtain ⟨q2, hq2⟩ : ∃ q, q = (q0 || !s && x.src != 0 || !o && x.off != 0 || decide (x.off < -32768) || decide (32768 ≤ x.off)) := ⟨_, rfl⟩
       rw [← hq2] at HR2 ⊢
       clear hq2 HQ0
       cases q2 with
       | true =>
        have e1 : Hid (R = 23) := by show _ = _; rw [HR2.out, if_pos rfl]
        clear HR2
        go_wp2
        go_ret
        exact ⟨retI e1.out.symm, t3⟩
       | false =>
        have HR3 := Lib.hid (HR2.out.trans (if_neg (by simp)))
        clear HR2
        cases m with
        | false =>
         by_cases hi : x.imm = 0
         ·have e1 : Hid (R = 0) := by show _ = _; rw [HR3.out]; simp [hi]
          have hi' : (x.imm != 0) = false := by simp [hi]
          clear HR3 hi
          go_wp2
          go_ret
          exact ⟨retI e1.out.symm, t3⟩
         ·have e1 : Hid (R = 24) := by show _ = _; rw [HR3.out]; simp [hi]
          have hi' : (x.imm != 0) = true := by simp [hi]
          clear HR3 hi
          go_wp2
          go_ret
          exact ⟨retI e1.out.symm, t3⟩
        | true =>
         go_wp2_with fail
         refine (immFits_ok _ x).mono ?_
         rintro e w4 ⟨rfl, b4⟩
         have t4 := bThen t3 b4
         cases hi : immFits x with
         | true =>
          have e1 : Hid (R = 0) := by show _ = _; rw [HR3.out, hi]; rfl
          clear HR3 hi
          go_wp2
          go_ret
          exact ⟨retI e1.out.symm, t4⟩
         | false =>
          have e1 : Hid (R = 24) := by show _ = _; rw [HR3.out, hi]; rfl
          clear HR3 hi
          go_wp2
          go_ret
          exact ⟨retI e1.out.symm, t4⟩
end Go.Proofs.Ytndnfjcfpcfakaa
namespace Go.Proofs.Ytndnfjcfpcfakaa
open Go Go.RowKit Go.Wr Go.Fl
set_option maxHeartbeats 4000000
set_option maxRecDepth 100000
theorem at_ins {w : World} {b o : Nat} {x : In} (h : At w b o (inv x).toList) : w.cell? ⟨b, o, none⟩ = some (.int .i64 x.op) ∧ w.cell? ⟨b, o + 1, none⟩ = some (.bool x.nar) ∧ w.cell? ⟨b, o + 2, none⟩ = some (.bool x.reg) ∧ w.cell? ⟨b, o + 3, none⟩ = some (.int .i64 x.sz) ∧
  w.cell? ⟨b, o + 4, none⟩ = some (.int .i64 x.dst) ∧ w.cell? ⟨b, o + 5, none⟩ = some (.int .i64 x.src) ∧ w.cell? ⟨b, o + 6, none⟩ = some (.int .i64 x.off) ∧ w.cell? ⟨b, o + 7, none⟩ = some (.int .i64 x.imm) :=
 ⟨h.cell 0 _ rfl, h.cell 1 _ rfl, h.cell 2 _ rfl, h.cell 3 _ rfl, h.cell 4 _ rfl, h.cell 5 _ rfl, h.cell 6 _ rfl, h.cell 7 _ rfl⟩
theorem retT {a a' b b' : Int} (h1 : a = a') (h2 : b = b') : Ending.returned (.tuple #[.int .i64 a, .int .i64 b]) = .returned (.tuple #[.int .i64 a', .int .i64 b']) := by rw [h1, h2]
theorem chk_cons (k : Nat) (x : In) (l : List In) : chk k (x :: l) = if k = 4096 then (k, 25) else if right x = 0 then chk (k + 1) l else (k, right x) := rfl
theorem check_ok (w : World) (p : Nat) (v : Value) (l : List In) (h : SlX tN p w v l) :
  Calls Try.prog 40 #[v] w fun e w' => e = .returned (.tuple #[.int .i64 (chk 0 l).1, .int .i64 (chk 0 l).2]) ∧ Below w.heap.size w w' := by
 obtain ⟨r, hr⟩ : ∃ r, r = chk 0 l := ⟨_, rfl⟩
 rw [← hr]
 have HR := Lib.hid hr
 obtain ⟨a0, cap, rfl, h1, h2⟩ := h.form
 have H := Lib.hid h
 unfold maxLen at h2
 clear hr h
 go_enter Try.func40, Try.ntmps40
 go_wp2
 go_loopw [9] (fun t wr => ∃ k : Nat, k ≤ l.length ∧ t = .int .i64 (k : Int) ∧ Hid (r = chk k (l.drop k)) ∧ Below w.heap.size w wr) (fun t _ => l.length - (intOf t).toNat)
 case atStart => exact ⟨0, by omega, rfl, HR.out, bRefl w⟩
 case round =>
  clear HR
  obtain ⟨k, hk, rfl, hq, hb⟩ := hrel
  by_cases hlt : k < l.length
  ·have hlt' : (k : Int) < (l.length : Int) := by omega
   obtain ⟨x, hx⟩ : ∃ x, l[k]? = some x := ⟨_, List.getElem?_eq_getElem hlt⟩
   have hd : l.drop k = x :: l.drop (k + 1) := by
    rw [List.drop_eq_getElem_cons hlt]
    rw [List.getElem?_eq_getElem hlt] at hx
    injection hx with hx
    rw [hx]
   have hq2 := hq.out
   rw [hd, chk_cons] at hq2
   obtain ⟨bb, off, rfl, hne, hat⟩ := (H.out.below hb).get hx
   obtain ⟨c0, c1, c2, c3, c4, c5, c6, c7⟩ := at_ins hat
   have e8 : tN.n = 8 := rfl
   rw [e8] at c0 c1 c2 c3 c4 c5 c6 c7
   clear hq hd hx hat e8
   have HQ := Lib.hid hq2
   clear hq2
   by_cases h4 : k = 4096
   ·have e1 : Hid (r = (k, 25)) := by show _ = _; rw [HQ.out, if_pos h4]
    subst h4
    clear HQ
    go_wp2
    go_ret2
    exact ⟨retT (by rw [e1.out]) (by rw [e1.out]), hb.alloc hb.size _⟩
   ·have HQ2 := Lib.hid (HQ.out.trans (if_neg h4))
    have h4' : ((k : Int) == 4096) = false := by simp; omega
    clear HQ h4
    go_wp2_with fail
    refine (right_ok _ x).mono ?_
    rintro e w2 ⟨rfl, b2⟩
    have t2 := bThen (hb.alloc hb.size _) b2
    clear b2
    by_cases hr0 : right x = 0
    ·have e1 : Hid (r = chk (k + 1) (l.drop (k + 1))) := by show _ = _; rw [HQ2.out, if_pos hr0]
     rw [hr0]
     clear HQ2 hr0 hb
     go_wp2
     go_roundw
     all_goals first
      | exact ⟨k + 1, by omega, by go_num, e1, t2⟩
      | ((repeat apply Exists.intro); exact ⟨⟨k + 1, by omega, by go_num, e1, t2⟩, rfl⟩)
      | (simp [intOf]; omega)
    ·have e1 : Hid (r = (k, right x)) := by show _ = _; rw [HQ2.out, if_neg hr0]
     have hr0' : (right x != 0) = true := by simpa using hr0
     generalize right x = q at *
     clear HQ2 hr0 hb
     go_wp2
     go_ret2
     exact ⟨retT (by rw [e1.out]) (by rw [e1.out]), t2⟩
  ·obtain rfl : k = l.length := by omega
   have e1 : Hid (r = (0, 0)) := by show _ = _; rw [hq.out, List.drop_length]; rfl
   clear hlt hq
   go_wp2
   go_ret2
   exact ⟨retT (by rw [e1.out]; rfl) (by rw [e1.out]), hb⟩
def wideB (op : Int) : Bool := op == 20 || op == 21
theorem wide_ok (w : World) (op : Int) : Calls Try.prog 104 #[.int .i64 op] w fun e w' => e = .returned (.bool (wideB op)) ∧ w' = w := by
 unfold wideB
 by_cases h1 : op = 20
 ·subst h1
  go_enter Try.func104, Try.ntmps104
  go_wp2
  go_ret
  exact ⟨rfl, rfl⟩
 ·have h1' : (op == 20) = false := by simpa using h1
  go_enter Try.func104, Try.ntmps104
  go_wp2
  go_ret
  exact ⟨retB (by rw [h1']; rfl), rfl⟩
theorem wd_wide (x : In) : wd x = if wideB x.op then 2 else 1 := by unfold wd wideB; simp
def unitsI (l : List In) (k : Nat) : List Int := (List.range (k + 1)).map fun i => ((unit l i : Nat) : Int)
theorem unitsI_len (l : List In) (k : Nat) : (unitsI l k).length = k + 1 := by simp [unitsI]
theorem unitsI_succ (l : List In) (k : Nat) : unitsI l (k + 1) = unitsI l k ++ [((unit l (k + 1) : Nat) : Int)] := by
 unfold unitsI; rw [List.range_succ, List.map_append]; rfl
theorem units_ok (w : World) (p : Nat) (v : Value) (l : List In) (h : SlX tN p w v l) (hl : l.length ≤ 1099511627776) :
  Calls Try.prog 71 #[v] w fun e w' => Below w.heap.size w w' ∧ ∃ g c, e = .returned (.slice (some ⟨g, 0, none⟩) (l.length + 1) c) ∧ OwR tI w.heap.size w' (.slice (some ⟨g, 0, none⟩) (l.length + 1) c) (unitsI l l.length) := by
 obtain ⟨a0, cap, rfl, h1, h2⟩ := h.form
 have H := Lib.hid h
 unfold maxLen at h2
 have HU0 := Lib.hid (show OwR tI w.heap.size (w.alloc (.cells #[.int .i64 0] 3)) (.slice (some ⟨w.heap.size, 0, none⟩) 1 1) (unitsI l 0) from OwR.new rfl rfl (by unfold maxLen; simp [unitsI]))
 clear h
 go_enter Try.func71, Try.ntmps71
 go_wp2
 go_loopw [3, 4, 10] (fun t3 t4 t wr => ∃ k g c : Nat, k ≤ l.length ∧ t3 = .slice (some ⟨g, 0, none⟩) (k + 1) c ∧ t4 = .int .i64 ((unit l k : Nat) : Int) ∧ t = .int .i64 (k : Int) ∧ Hid (OwR tI w.heap.size wr (.slice (some ⟨g, 0, none⟩) (k + 1) c) (unitsI l k)) ∧ Below w.heap.size w wr) (fun _ _ t _ => l.length - (intOf t).toNat)
 case atStart => exact ⟨0, w.heap.size, 1, by omega, rfl, rfl, rfl, HU0.out, bAl (bRefl w) _⟩
 case round =>
  clear HU0
  obtain ⟨k, g, c, hk, rfl, rfl, rfl, ho, hb⟩ := hrel
  by_cases hlt : k < l.length
  ·have hlt' : (k : Int) < (l.length : Int) := by omega
   obtain ⟨x, hx⟩ : ∃ x, l[k]? = some x := ⟨_, List.getElem?_eq_getElem hlt⟩
   have hu := unit_le (l := l) (i := k) hk
   have hs := unit_succ hx
   have hUS := unitsI_succ l k
   rw [hs] at hUS
   have HUS := Lib.hid hUS
   have hsz := hb.size
   obtain ⟨bb, off, rfl, hne, hat⟩ := (H.out.below hb).get hx
   obtain ⟨c0, c1, c2, c3, c4, c5, c6, c7⟩ := at_ins hat
   have e8 : tN.n = 8 := rfl
   rw [e8] at c0 c1 c2 c3 c4 c5 c6 c7
   have hw := wd_wide x
   generalize hun : unit l k = u at *
   have HS := Lib.hid hs
   have HUN := Lib.hid hun
   clear hs hun hUS hx hat e8
   cases hwb : wideB x.op with
   | true =>
    have HW := Lib.hid hwb
    have HWD := Lib.hid (show wd x = 2 by rw [hw, hwb]; rfl)
    clear hw hwb
    go_wp2_with (first | (go_at_call 104; refine (wide_ok _ _).mono ?_; rintro e w1 ⟨rfl, rfl⟩; rw [HW.out]) | (at_builtin; refine wpl_push tI rfl _ _ rfl w.heap.size _ (unitsI l k) rfl ((ho.out.alloc _).alloc _) _ 0 1 1 [((u : Int) + 1 + 1)] rfl rfl (rangeNew (by simp) (by rfl)) (by rw [unitsI_len]; unfold maxLen; simp; omega) (by rw [unitsI_len]; show _ * 8 ≤ _; simp; omega) (by simp; omega) ?_; intro v' w9 hown hgrow hform))
    obtain ⟨g', c', rfl, _⟩ := hform (by simp)
    rw [unitsI_len] at hown ⊢
    have b9 : Below w.heap.size w w9 := ((hb.alloc hsz _).alloc (by simp; omega) _).grown hgrow (by simp; omega) (fun q hq => by injection hq with hq; rw [← hq]; exact (ho.out.blk rfl).1)
    have ev : ((u : Int) + 1 + 1 : Int) = ((unit l (k + 1) : Nat) : Int) := by rw [HS.out, HWD.out]; omega
    have ho9 : Hid (OwR tI w.heap.size w9 (.slice (some ⟨g', 0, none⟩) (k + 1 + 1) c') (unitsI l (k + 1))) := by
     show OwR _ _ _ _ _
     rw [HUS.out, HWD.out]
     exact hown
    rw [ev]
    first
     | exact ⟨⟨k + 1, g', c', by omega, rfl, rfl, by go_num, ho9, b9⟩, by simp [intOf]; omega⟩
   | false =>
    have HW := Lib.hid hwb
    have HWD := Lib.hid (show wd x = 1 by rw [hw, hwb]; rfl)
    clear hw hwb
    go_wp2_with (first | (go_at_call 104; refine (wide_ok _ _).mono ?_; rintro e w1 ⟨rfl, rfl⟩; rw [HW.out]) | (at_builtin; refine wpl_push tI rfl _ _ rfl w.heap.size _ (unitsI l k) rfl ((ho.out.alloc _).alloc _) _ 0 1 1 [((u : Int) + 1)] rfl rfl (rangeNew (by simp) (by rfl)) (by rw [unitsI_len]; unfold maxLen; simp; omega) (by rw [unitsI_len]; show _ * 8 ≤ _; simp; omega) (by simp; omega) ?_; intro v' w9 hown hgrow hform))
    obtain ⟨g', c', rfl, _⟩ := hform (by simp)
    rw [unitsI_len] at hown ⊢
    have b9 : Below w.heap.size w w9 := ((hb.alloc hsz _).alloc (by simp; omega) _).grown hgrow (by simp; omega) (fun q hq => by injection hq with hq; rw [← hq]; exact (ho.out.blk rfl).1)
    have ev : ((u : Int) + 1 : Int) = ((unit l (k + 1) : Nat) : Int) := by rw [HS.out, HWD.out]; omega
    have ho9 : Hid (OwR tI w.heap.size w9 (.slice (some ⟨g', 0, none⟩) (k + 1 + 1) c') (unitsI l (k + 1))) := by
     show OwR _ _ _ _ _
     rw [HUS.out, HWD.out]
     exact hown
    rw [ev]
    first
     | exact ⟨⟨k + 1, g', c', by omega, rfl, rfl, by go_num, ho9, b9⟩, by simp [intOf]; omega⟩
  ·obtain rfl : k = l.length := by omega
   clear hlt
   go_wp2
   go_ret
   exact ⟨hb, g, c, rfl, ho.out⟩
end Go.Proofs.Ytndnfjcfpcfakaa
namespace Go.Wr
open Go
section
variable {P : Program} {ops : Array Oper} {Q : Exit → Act → World → Prop} {md : Region.Mode} {S : World → Prop} {last : Nat}
def wpAnyL (P : Program) (md : Region.Mode) (ops : Array Oper) (Q : Exit → Act → World → Prop) (S : World → Prop) (last : Nat) : Nat → Array Bool → Act → World → Prop
 | 0, listed, a, w => Region.ready md ops listed = [] ∧ Q .normal a w
 | fuel + 1, listed, a, w =>
  (Region.ready md ops listed = [] → Q .normal a w) ∧
  ∀ i ∈ Region.ready md ops listed, wpOp P ops Q i (fun a' w' => (i ≠ last → S w') ∧ wpAnyL P md ops Q S last fuel (listed.setIfInBounds i true) a' w') a w
theorem wpAny_of_last : ∀ (fuel : Nat) (listed : Array Bool) (a : Act) (w : World), wpAnyL P md ops Q S last fuel listed a w → wpAny P md ops Q fuel listed a w
 | 0, _, _, _, h => h
 | fuel + 1, _, _, _, h => ⟨h.1, fun i hi => wpOp_mono (fun a' w' h' => wpAny_of_last fuel _ a' w' h'.2) (h.2 i hi)⟩
theorem wpAnyL_first {i : Nat} {oi : Oper} {v : Value} (hi : ops[i]? = some oi) (hsel : ∀ (j : Nat) (o : Oper) cs b, ops[j]? = some o → o.op ≠ .select cs b)
  (hQ : ∀ c a w, Q (.panic c) (a.put oi.dst v) w → Q (.panic c) a w) {ol : Oper} (hl : ops[last]? = some ol) (hw : ∃ e ∈ ol.after, Region.binds md e = true ∧ e.on = i) :
  ∀ (fuel : Nat) (listed : Array Bool) (a : Act) (w : World),
   (∀ j oj, ops[j]? = some oj → j ≠ i → listed.getD j true = false → (∀ e ∈ oj.after, Region.binds md e = true → e.on ≠ i) → oi.apart ops oj = true) →
   i ∈ Region.ready md ops listed → YieldsIf P ops S oi v a → S w →
   wpAnyL P md ops Q S last fuel (listed.setIfInBounds i true) (a.put oi.dst v) w → wpAnyL P md ops Q S last (fuel + 1) listed a w := by
 intro fuel
 induction fuel with
 | zero =>
  intro listed a w _ hr hy hS H
  refine ⟨fun h => (by rw [h] at hr; cases hr), fun j hj => ?_⟩
  by_cases hji : j = i
  ·subst hji; exact hy.wpOp hi hS ⟨fun _ => hS, H⟩
  ·have := ready_mono hj hji
   rw [H.1] at this
   cases this
 | succ fuel ih =>
  intro listed a w hfree hr hy hS H
  refine ⟨fun h => (by rw [h] at hr; cases hr), fun j hj => ?_⟩
  by_cases hji : j = i
  ·subst hji; exact hy.wpOp hi hS ⟨fun _ => hS, H⟩
  ·have h1 := H.2 j (ready_mono hj hji)
   obtain ⟨hjun, oj, hoj, hall⟩ := mem_ready.1 hj
   have hnot : ∀ e ∈ oj.after, Region.binds md e = true → e.on ≠ i := fun e he hb heq => by
    have h1 := hall e he hb
    have h0 := (mem_ready.1 hr).1
    rw [heq] at h1
    rcases Nat.lt_or_ge i listed.size with h' | h'
    ·simp [h'] at h0 h1; rw [h0] at h1; cases h1
    ·simp [Array.getElem?_eq_none h'] at h1
   have hjl : j ≠ last := fun e => by
    subst e
    rw [hl] at hoj
    injection hoj with hoj
    subst hoj
    obtain ⟨e, he, hb, heq⟩ := hw
    exact hnot e he hb heq
   have h2 := wpOp_putIf hoj (hfree j oj hoj hji hjun hnot) (fun cs b => hsel i oi cs b hi) (fun cs b => hsel j oj cs b hoj) hQ hy h1
   have hfree' : ∀ k ok, ops[k]? = some ok → k ≠ i → (listed.setIfInBounds j true).getD k true = false →
     (∀ e ∈ ok.after, Region.binds md e = true → e.on ≠ i) → oi.apart ops ok = true := fun k ok hk hki hun hno => by
    refine hfree k ok hk hki ?_ hno
    by_cases hjk : j = k
    ·subst hjk; exact hjun
    ·rw [getD_set_ne true hjk] at hun; exact hun
   refine wpOp_mono (fun a' w' h3 => ⟨h3.2.1, ih (listed.setIfInBounds j true) a' w' hfree' (ready_mono hr (Ne.symm hji)) h3.1 (h3.2.1 hjl) ?_⟩) h2
   rw [Array.setIfInBounds_comm _ _ hji]
   exact h3.2.2
theorem wpAnyL_take {i : Nat} {oi : Oper} {v : Value} {fuel : Nat} {listed : Array Bool} {a : Act} {w : World} (hi : ops[i]? = some oi)
  (hs : Region.noSelect ops = true) (hf : Region.free md ops listed i = true) (hr : (Region.ready md ops listed).contains i = true)
  (hQ : ∀ c a w, Q (.panic c) (a.put oi.dst v) w → Q (.panic c) a w) {ol : Oper} (hl : ops[last]? = some ol) (hw : (ol.after.any fun e => Region.binds md e && e.on == i) = true) (hy : YieldsIf P ops S oi v a) (hS : S w)
  (h : wpAnyL P md ops Q S last fuel (listed.setIfInBounds i true) (a.put oi.dst v) w) : wpAnyL P md ops Q S last (fuel + 1) listed a w :=
 wpAnyL_first hi (Region.noSelect_spec hs) hQ hl (by
  obtain ⟨e, he, hb⟩ := Array.any_eq_true'.1 hw
  simp only [Bool.and_eq_true, beq_iff_eq] at hb
  exact ⟨e, he, hb.1, hb.2⟩) fuel listed a w (Region.free_spec hi hf) (by simpa using hr) hy hS h
theorem wpAnyL_one {i : Nat} {o : Oper} {fuel : Nat} {listed : Array Bool} {a : Act} {w : World} (hr : Region.ready md ops listed = [i]) (ho : ops[i]? = some o)
  (h : ∀ K' : Act → World → Prop, Shut (∀ a w, (i ≠ last → S w) → wpAnyL P md ops Q S last fuel (listed.setIfInBounds i true) a w → K' a w) → if Region.wanted o (yielded ops a.tmps) = true then Oper.wp P o a w K' Q else K' (a.put o.dst undef) w) :
  wpAnyL P md ops Q S last (fuel + 1) listed a w :=
 ⟨fun h0 => (by rw [h0] at hr; cases hr), fun j hj => by
  rw [hr] at hj
  rcases List.mem_singleton.1 hj with rfl
  exact wpOp_step ho (fun K' hK => h K' (fun a w hS hW => hK a w ⟨hS, hW⟩))⟩
theorem wpAnyL_done {listed : Array Bool} {a : Act} {w : World} (hr : Region.ready md ops listed = []) (h : Q .normal a w) : ∀ fuel, wpAnyL P md ops Q S last fuel listed a w
 | 0 => ⟨hr, h⟩
 | _ + 1 => ⟨fun _ => h, by rw [hr]; simp⟩
theorem wp_region_last {id : Nat} {a : Act} {w : World} (last : Nat) (S : World → Prop) (hm : P.follows .mixedOrders = true)
  (h : wpAnyL P .any ops Q S last ops.size (Array.replicate ops.size false) a w.drew) : (Code.region id ops true).wp P Q a w :=
 wp_region_any hm (wpAny_of_last _ _ _ _ h)
end
end Go.Wr
namespace Go.Proofs.Ytndnfjcfpcfakaa
open Go Go.RowKit Go.Wr Go.Fl
set_option maxHeartbeats 4000000
set_option maxRecDepth 100000
structure Fq (p : Nat) (T : TypeId) (B : Nat) (w w' : World) : Prop where
 os : w'.os = w.os
 tape : w'.tape = w.tape
 output : w'.output = w.output
 size : w.heap.size ≤ w'.heap.size
 block : ∀ k o, w.heap[k]? = some o → k ≠ p → (k < B ∨ ∀ C fz, o ≠ .cells C T fz) → w'.heap[k]? = some o
theorem Fq.refl (p : Nat) (T : TypeId) (B : Nat) (w : World) : Fq p T B w w := ⟨rfl, rfl, rfl, Nat.le_refl _, fun _ _ h _ _ => h⟩
theorem Fq.trans {p : Nat} {T : TypeId} {B : Nat} {a b c : World} (h : Fq p T B a b) (k : Fq p T B b c) : Fq p T B a c :=
 ⟨k.os.trans h.os, k.tape.trans h.tape, k.output.trans h.output, Nat.le_trans h.size k.size, fun i o h1 h2 h3 => k.block i o (h.block i o h1 h2 h3) h2 h3⟩
theorem Fq.of_below {p : Nat} {T : TypeId} {B : Nat} {w w' : World} (h : Below w.heap.size w w') : Fq p T B w w' :=
 ⟨h.os, h.tape, h.output, h.size, fun k _ h1 _ _ => (h.block k (Go.Wr.lt_of_heap h1)).trans h1⟩
theorem Fq.alloc {p : Nat} {T : TypeId} {B : Nat} {a w : World} (h : Fq p T B a w) (o : Obj) : Fq p T B a (w.alloc o) := h.trans (Fq.of_below (bAl (bRefl w) o))
theorem Fq.drew {p : Nat} {T : TypeId} {B : Nat} {a w : World} (h : Fq p T B a w) : Fq p T B a w.drew := ⟨h.os, h.tape, h.output, h.size, h.block⟩
theorem Fq.drewN {p : Nat} {T : TypeId} {B : Nat} {a w : World} (h : Fq p T B a w) (n : Nat) : Fq p T B a (w.drewN n) := ⟨h.os, h.tape, h.output, h.size, h.block⟩
theorem Fq.set {p : Nat} {T : TypeId} {B : Nat} {a w : World} (h : Fq p T B a w) (i : Nat) (v : Value) : Fq p T B a (w.setCell ⟨p, i, none⟩ v) := by
 have hb := (Below.refl 0 w).setCell (p := ⟨p, i, none⟩) (Nat.zero_le _) v
 exact ⟨hb.os.trans h.os, hb.tape.trans h.tape, hb.output.trans h.output, Nat.le_trans h.size hb.size, fun k o h1 h2 h3 => (Below.heap_setCell w ⟨p, i, none⟩ v k h2).trans (h.block k o h1 h2 h3)⟩
theorem Fq.set_new {p t : Nat} {T : TypeId} {B : Nat} {a w : World} (h : Fq p T B a w) (i : Nat) (v : Value) (ht : a.heap.size ≤ t) : Fq p T B a (w.setCell ⟨t, i, none⟩ v) := by
 have hb := (Below.refl 0 w).setCell (p := ⟨t, i, none⟩) (Nat.zero_le _) v
 exact ⟨hb.os.trans h.os, hb.tape.trans h.tape, hb.output.trans h.output, Nat.le_trans h.size hb.size, fun k o h1 h2 h3 => by
  have hk := Go.Wr.lt_of_heap h1
  exact (Below.heap_setCell w ⟨t, i, none⟩ v k (by show k ≠ t; omega)).trans (h.block k o h1 h2 h3)⟩
theorem Fq.below {p : Nat} {T : TypeId} {B B' : Nat} {w w' : World} (h : Fq p T B w w') (h1 : B' ≤ p) (h2 : B' ≤ B) (h3 : B' ≤ w.heap.size) : Below B' w w' :=
 ⟨h.os, h.tape, h.output, h.size, fun k hk => by
  have hlt : k < w.heap.size := by omega
  rw [Array.getElem?_eq_getElem hlt]
  exact h.block k _ (Array.getElem?_eq_getElem hlt) (by omega) (Or.inl (by omega))⟩
theorem Fq.blk {p : Nat} {T T' : TypeId} {B b : Nat} {w w' : World} {C : Array Value} (h : Fq p T B w w') (hb : Blk w b T' C) (hp : b ≠ p) (hT : b < B ∨ T' ≠ T) : Blk w' b T' C :=
 h.block b _ hb hp (hT.imp id fun hT C' fz e => by
  injection e with _ e
  exact hT e)
theorem Fq.own {α : Type} {R : RT Try.prog α} {p : Nat} {T : TypeId} {B B' : Nat} {w w' : World} {v : Value} {l : List α} (h : Fq p T B w w') (ho : OwR R B' w v l) (hp : v.ownBlock ≠ some p) (hT : (∀ g, v.ownBlock = some g → g < B) ∨ R.T ≠ T) : OwR R B' w' v l :=
 ho.keep fun g hg => by
  obtain ⟨_, C, hb⟩ := ho.blk hg
  have e : w.heap[g]? = some (.cells C R.T (0, 0)) := hb
  rw [e]
  exact h.blk hb (fun e => hp (e ▸ hg)) (hT.imp (fun k => k g hg) id)
theorem Fq.grown {α : Type} {R : RT Try.prog α} {p B : Nat} {a w w' : World} {v : Value} {l : List α} (h : Fq p R.T B a w) (ho : OwR R B w v l) (hg : w.grownBy w' v.ownBlock) : Fq p R.T B a w' :=
 ⟨hg.os.trans h.os, hg.tape.trans h.tape, hg.output.trans h.output, Nat.le_trans h.size hg.size, fun k o h1 h2 h3 => by
  have hk := h.block k o h1 h2 h3
  rw [hg.block k (Go.Wr.lt_of_heap hk) (fun e => ?_)]
  ·exact hk
  ·obtain ⟨hB, C, hb⟩ := ho.blk e.symm
   have e2 : w.heap[k]? = some (.cells C R.T (0, 0)) := hb
   rw [e2] at hk
   injection hk with hk
   rcases h3 with h3 | h3
   ·omega
   ·exact h3 _ _ hk.symm⟩
structure St (B p g n : Nat) (V : Nat → Bool) (w : World) : Prop where
 pb : Blk w p 152 #[.slice (some ⟨g, 0, none⟩) n n]
 gb : OwR tB B w (.slice (some ⟨g, 0, none⟩) n n) ((List.range n).map V)
 hp : B ≤ p
theorem St.ne {B p g n : Nat} {V : Nat → Bool} {w : World} (h : St B p g n V w) : p ≠ g := by
 obtain ⟨_, C, hb⟩ := h.gb.blk rfl
 exact blk_ne h.pb hb (by decide)
theorem St.hg {B p g n : Nat} {V : Nat → Bool} {w : World} (h : St B p g n V w) : B ≤ g := (h.gb.blk rfl).1
theorem St.keep {B p g n : Nat} {V : Nat → Bool} {w w' : World} (h : St B p g n V w) (h1 : w'.heap[p]? = w.heap[p]?) (h2 : w'.heap[g]? = w.heap[g]?) : St B p g n V w' :=
 ⟨h.pb.of_block h1, h.gb.keep fun k hk => by injection hk with hk; subst hk; exact h2, h.hp⟩
theorem St.below {B p g n : Nat} {V : Nat → Bool} {w w' : World} (h : St B p g n V w) (b : Below w.heap.size w w') : St B p g n V w' :=
 h.keep (b.block p h.pb.lt) (b.block g (h.gb.lt rfl))
theorem St.drew {B p g n : Nat} {V : Nat → Bool} {w : World} (h : St B p g n V w) : St B p g n V w.drew := ⟨h.pb, h.gb, h.hp⟩
theorem St.drewN {B p g n : Nat} {V : Nat → Bool} {w : World} (h : St B p g n V w) (k : Nat) : St B p g n V (w.drewN k) := ⟨h.pb, h.gb, h.hp⟩
theorem St.fq {B p g n q B' : Nat} {T : TypeId} {V : Nat → Bool} {w w' : World} (h : St B p g n V w) (hf : Fq q T B' w w') (h1 : p ≠ q) (h2 : g ≠ q) (hT : T ≠ 152) (hT' : T ≠ 4) : St B p g n V w' :=
 ⟨hf.blk h.pb h1 (Or.inr (Ne.symm hT)), hf.own h.gb (fun e => h2 (by injection e)) (Or.inr (Ne.symm hT')), h.hp⟩
theorem map_set (V : Nat → Bool) (n i : Nat) : ((List.range n).map V).set i true = (List.range n).map (Fl.mark V i) := by
 apply List.ext_getElem?
 intro k
 rw [List.getElem?_set]
 by_cases hk : k < n
 ·rw [List.getElem?_map, List.getElem?_map, List.getElem?_range hk]
  by_cases e : i = k
  ·subst e; simp [Fl.mark, hk]
  ·rw [if_neg e]; simp [Fl.mark, Ne.symm e]
 ·have h1 : ((List.range n).map V)[k]? = none := List.getElem?_eq_none (by simp; omega)
  have h2 : ((List.range n).map (Fl.mark V i))[k]? = none := List.getElem?_eq_none (by simp; omega)
  rw [h1, h2]
  split
  ·rw [if_neg (by simp; omega)]
  ·rfl
theorem St.cell {B p g n : Nat} {V : Nat → Bool} {w : World} (h : St B p g n V w) {i : Nat} (hi : i < n) : w.cell? ⟨g, i, none⟩ = some (.bool (V i)) := by
 have := (h.gb.at (k := i) (x := V i) (by rw [List.getElem?_map, List.getElem?_range hi]; rfl)).cell 0 _ rfl
 have e : 0 + i * tB.n + 0 = i := by show 0 + i * 1 + 0 = i; omega
 rw [e] at this
 exact this
theorem St.mark {B p g n : Nat} {V : Nat → Bool} {w : World} (h : St B p g n V w) {i : Nat} (hi : i < n) : St B p g n (Fl.mark V i) (w.setCell ⟨g, i, none⟩ (.bool true)) := by
 have hne := h.ne
 refine ⟨h.pb.set_other g i _ hne, ?_, h.hp⟩
 have := h.gb.set (k := i) (j := 0) (x := V i) (y := true) (v := .bool true) (by rw [List.getElem?_map, List.getElem?_range hi]; rfl) (by decide) rfl
 rw [map_set] at this
 have e : i * tB.n + 0 = i := by show i * 1 + 0 = i; omega
 rw [e] at this
 exact this
theorem newSet_ok (w : World) (n : Nat) (hn : n ≤ 1048576) : Calls Try.prog 73 #[.int .i64 (n : Int)] w fun e w' => Below w.heap.size w w' ∧ ∃ p g, e = .returned (.pointer (some ⟨p, 0, none⟩)) ∧ St w.heap.size p g n (fun _ => false) w' := by
 go_enter Try.func73, Try.ntmps73
 go_wp2_with (at_make; refine wpl_make tB false rfl rfl _ _ rfl .i64 .i64 (n : Int) (n : Int) n rfl rfl rfl rfl (by show 1 * n ≤ _; omega) (by unfold maxLen; omega) ?_; intro w1 ho hb hlt)
 go_ret
 refine ⟨hb.alloc hb.size _, w1.heap.size, w.heap.size, rfl, Blk.new _ _ _, ?_, by omega⟩
 have e : (List.range n).map (fun _ => false) = List.replicate n false := by
  apply List.ext_getElem?
  intro k
  by_cases hk : k < n <;> simp [hk]
 rw [e]
 exact ho.alloc _
theorem add_new (w : World) (B p g n : Nat) (V : Nat → Bool) (h : St B p g n V w) (i : Int) (h0 : 0 ≤ i) (hi : i < n) (hv : V i.toNat = false) :
  Calls Try.prog 74 #[.pointer (some ⟨p, 0, none⟩), .int .i64 i] w fun e w' => e = .returned (.bool true) ∧ w' = w.setCell ⟨g, i.toNat, none⟩ (.bool true) := by
 obtain ⟨k, rfl⟩ := Int.eq_ofNat_of_zero_le h0
 have hk : k < n := by omega
 have c := h.cell hk
 simp only [Int.toNat_natCast] at hv ⊢
 rw [hv] at c
 have cp := h.pb.cell 0
 simp only [List.getElem?_toArray, List.getElem?_cons_zero] at cp
 have f := h.gb.frozen k
 clear h hv
 go_enter Try.func74, Try.ntmps74
 go_wp2
 go_ret
 exact ⟨rfl, rfl⟩
theorem add_old (w : World) (B p g n : Nat) (V : Nat → Bool) (h : St B p g n V w) (i : Int) (h0 : 0 ≤ i) (hi : i < n) (hv : V i.toNat = true) :
  Calls Try.prog 74 #[.pointer (some ⟨p, 0, none⟩), .int .i64 i] w fun e w' => e = .returned (.bool false) ∧ w' = w := by
 obtain ⟨k, rfl⟩ := Int.eq_ofNat_of_zero_le h0
 have hk : k < n := by omega
 have c := h.cell hk
 simp only [Int.toNat_natCast] at hv
 rw [hv] at c
 have cp := h.pb.cell 0
 simp only [List.getElem?_toArray, List.getElem?_cons_zero] at cp
 clear h hv
 go_enter Try.func74, Try.ntmps74
 go_wp2
 go_ret
 exact ⟨rfl, rfl⟩
theorem has_ok (w : World) (B p g n : Nat) (V : Nat → Bool) (h : St B p g n V w) (i : Int) (h0 : 0 ≤ i) (hi : i < n) :
  Calls Try.prog 75 #[.pointer (some ⟨p, 0, none⟩), .int .i64 i] w fun e w' => e = .returned (.bool (V i.toNat)) ∧ w' = w := by
 obtain ⟨k, rfl⟩ := Int.eq_ofNat_of_zero_le h0
 have hk : k < n := by omega
 have c := h.cell hk
 simp only [Int.toNat_natCast]
 have cp := h.pb.cell 0
 simp only [List.getElem?_toArray, List.getElem?_cons_zero] at cp
 clear h
 go_enter Try.func75, Try.ntmps75
 go_wp2
 go_ret
 exact ⟨rfl, rfl⟩
def ins (V : Nat → Bool) (k : Nat) : List Nat := (List.range k).filter V
theorem ins_succ (V : Nat → Bool) (k : Nat) : ins V (k + 1) = if V k then ins V k ++ [k] else ins V k := by
 unfold ins
 rw [List.range_succ, List.filter_append]
 cases h : V k <;> simp [h]
theorem ins_len (V : Nat → Bool) (k : Nat) : (ins V k).length ≤ k := by
 have := List.length_filter_le V (List.range k)
 simpa [ins] using this
def nI (l : List Nat) : List Int := l.map fun (x : Nat) => (x : Int)
theorem nI_app (l m : List Nat) : nI (l ++ m) = nI l ++ nI m := List.map_append
theorem nI_len (l : List Nat) : (nI l).length = l.length := by simp [nI]
theorem list_ok (w : World) (B p g n : Nat) (V : Nat → Bool) (h : St B p g n V w) (hn : n ≤ 1048576) :
  Calls Try.prog 85 #[.pointer (some ⟨p, 0, none⟩)] w fun e w' => Below w.heap.size w w' ∧ ∃ v, e = .returned v ∧ OwR tI w.heap.size w' v (nI (ins V n)) := by
 have cp := h.pb.cell 0
 simp only [List.getElem?_toArray, List.getElem?_cons_zero] at cp
 have H := Lib.hid h
 clear h
 go_enter Try.func85, Try.ntmps85
 go_wp2
 go_loopw [3, 11] (fun v t wr => ∃ (k : Nat) (v0 : Value), k ≤ n ∧ v0 = v ∧ t = .int .i64 (k : Int) ∧ Hid (OwR tI w.heap.size wr v0 (nI (ins V k))) ∧ Below w.heap.size w wr) (fun _ t _ => n - (intOf t).toNat)
 case atStart => exact ⟨0, _, by omega, rfl, rfl, by show OwR _ _ _ _ _; exact OwR.nil _ _, bRefl w⟩
 case round =>
  obtain ⟨k, v0, hk, rfl, rfl, ho, hb⟩ := hrel
  have hsz := hb.size
  have hS := H.out.below hb
  by_cases hlt : k < n
  ·have hlt' : (k : Int) < (n : Int) := by omega
   have ck := hS.cell hlt
   have hle := ins_len V k
   have hs := ins_succ V k
   clear hS
   cases hv : V k with
   | true =>
    rw [hv] at ck hs
    have HS := Lib.hid hs
    clear hs hv
    go_wp2_with (at_builtin; refine wpl_push tI rfl _ _ rfl w.heap.size _ (nI (ins V k)) rfl (ho.out.alloc _) _ 0 1 1 [(k : Int)] rfl rfl (rangeNew (by rfl) (by rfl)) (by rw [nI_len]; unfold maxLen; simp; omega) (by rw [nI_len]; show _ * 8 ≤ _; simp; omega) (by simp; omega) ?_; intro v' w9 hown hgrow _)
    have b9 := (hb.alloc hsz _).grown hgrow (by simp; omega) (fun q hq => (ho.out.blk hq).1)
    have ho9 : Hid (OwR tI w.heap.size w9 v' (nI (ins V (k + 1)))) := by
     show OwR _ _ _ _ _
     rw [HS.out, if_pos rfl, nI_app]
     exact hown
    exact ⟨⟨k + 1, _, by omega, rfl, by go_num, ho9, b9⟩, by simp [intOf]; omega⟩
   | false =>
    rw [hv] at ck hs
    have ho9 : Hid (OwR tI w.heap.size wr v0 (nI (ins V (k + 1)))) := by
     show OwR _ _ _ _ _
     rw [hs, if_neg (by simp)]
     exact ho.out
    clear hs hv
    go_wp2
    go_roundw
    all_goals first
     | exact ⟨k + 1, _, by omega, rfl, by go_num, ho9, hb⟩
     | ((repeat apply Exists.intro); exact ⟨⟨k + 1, _, by omega, rfl, by go_num, ho9, hb⟩, rfl⟩)
     | (simp [intOf]; omega)
  ·obtain rfl : k = n := by omega
   clear hlt hS
   go_wp2
   go_ret
   exact ⟨hb, _, rfl, ho.out⟩
def Sk (B p : Nat) (l : List Nat) (w : World) : Prop := ∃ v, Blk w p 133 #[v] ∧ OwR tI B w v (nI l) ∧ B ≤ p
def nS (l : List (Nat × Nat)) : List (Int × Int) := l.map fun (x : Nat × Nat) => ((x.1 : Int), (x.2 : Int))
theorem nS_app (l m : List (Nat × Nat)) : nS (l ++ m) = nS l ++ nS m := List.map_append
theorem nS_len (l : List (Nat × Nat)) : (nS l).length = l.length := by simp [nS]
def Ss (B p : Nat) (l : List (Nat × Nat)) (w : World) : Prop := ∃ v, Blk w p 124 #[v] ∧ OwR tS B w v (nS l) ∧ B ≤ p
theorem Sk.lt {B p : Nat} {l : List Nat} {w : World} (h : Sk B p l w) : p < w.heap.size := by obtain ⟨v, h1, _⟩ := h; exact h1.lt
theorem Ss.lt {B p : Nat} {l : List (Nat × Nat)} {w : World} (h : Ss B p l w) : p < w.heap.size := by obtain ⟨v, h1, _⟩ := h; exact h1.lt
theorem Sk.keep {B p : Nat} {l : List Nat} {w w' : World} (h : Sk B p l w) (hk : ∀ k T C, (T = 133 ∨ T = 3) → Blk w k T C → w'.heap[k]? = w.heap[k]?) : Sk B p l w' := by
 obtain ⟨v, h1, h2, h3⟩ := h
 exact ⟨v, h1.of_block (hk p _ _ (Or.inl rfl) h1), h2.keep fun g hg => by obtain ⟨_, C, hb⟩ := h2.blk hg; exact hk g _ C (Or.inr rfl) hb, h3⟩
theorem Ss.keep {B p : Nat} {l : List (Nat × Nat)} {w w' : World} (h : Ss B p l w) (hk : ∀ k T C, (T = 124 ∨ T = 127) → Blk w k T C → w'.heap[k]? = w.heap[k]?) : Ss B p l w' := by
 obtain ⟨v, h1, h2, h3⟩ := h
 exact ⟨v, h1.of_block (hk p _ _ (Or.inl rfl) h1), h2.keep fun g hg => by obtain ⟨_, C, hb⟩ := h2.blk hg; exact hk g _ C (Or.inr rfl) hb, h3⟩
theorem Sk.below {B p : Nat} {l : List Nat} {w w' : World} (h : Sk B p l w) (b : Below w.heap.size w w') : Sk B p l w' := h.keep fun _ _ _ _ hb => b.block _ hb.lt
theorem Ss.below {B p : Nat} {l : List (Nat × Nat)} {w w' : World} (h : Ss B p l w) (b : Below w.heap.size w w') : Ss B p l w' := h.keep fun _ _ _ _ hb => b.block _ hb.lt
theorem Sk.setOther {B p g i : Nat} {l : List Nat} {w : World} {T : TypeId} {C : Array Value} {x : Value} (h : Sk B p l w) (hb : Blk w g T C) (h1 : 133 ≠ T) (h2 : 3 ≠ T) : Sk B p l (w.setCell ⟨g, i, none⟩ x) :=
 h.keep fun k _ _ hT hk => Below.heap_setCell w ⟨g, i, none⟩ x k (blk_ne hk hb (by rcases hT with rfl | rfl <;> assumption))
theorem Ss.setOther {B p g i : Nat} {l : List (Nat × Nat)} {w : World} {T : TypeId} {C : Array Value} {x : Value} (h : Ss B p l w) (hb : Blk w g T C) (h1 : 124 ≠ T) (h2 : 127 ≠ T) : Ss B p l (w.setCell ⟨g, i, none⟩ x) :=
 h.keep fun k _ _ hT hk => Below.heap_setCell w ⟨g, i, none⟩ x k (blk_ne hk hb (by rcases hT with rfl | rfl <;> assumption))
theorem pushI_ok (w : World) (B p : Nat) (l : List Nat) (h : Sk B p l w) (hB : B ≤ w.heap.size) (hl : l.length ≤ 1048576) (x : Nat) :
  Calls Try.prog 82 #[.pointer (some ⟨p, 0, none⟩), .int .i64 (x : Int)] w fun e w' => e = .returned (.tuple #[]) ∧ Sk B p (l ++ [x]) w' ∧ Fq p 3 B w w' := by
 obtain ⟨v, h1, h2, h3⟩ := h
 have cp := h1.cell 0
 simp only [List.getElem?_toArray, List.getElem?_cons_zero] at cp
 have H1 := Lib.hid h1
 have H2 := Lib.hid h2
 have hpl := h1.lt
 clear h1 h2
 go_enter Try.func82, Try.ntmps82
 go_wp2_with (at_builtin; refine wpl_push tI rfl _ _ rfl B _ (nI l) rfl (H2.out.alloc _) _ 0 1 1 [(x : Int)] rfl rfl (rangeNew (by rfl) (by rfl)) (by rw [nI_len]; unfold maxLen; simp; omega) (by rw [nI_len]; show _ * 8 ≤ _; simp; omega) (by simp; omega) ?_; intro v' w9 hown hgrow hform; obtain ⟨g', c', rfl, _⟩ := hform (by simp); have hp9 := (H1.out.alloc (.cells #[.int .i64 (x : Int)] 3)).of_block (hgrow.block p (by simp; omega) (fun e => (H2.out.alloc (.cells #[.int .i64 (x : Int)] 3)).ne (H1.out.alloc _) (by decide) e.symm)); have c9 := hp9.cell 0; have f9 := hp9.frozen 0; simp only [List.getElem?_toArray, List.getElem?_cons_zero] at c9)
 go_end0
 have hO : OwR tI B w9 (.slice (some ⟨g', 0, none⟩) ((nI l).length + 1) c') (nI (l ++ [x])) := by rw [nI_app]; exact hown
 have hne : (Value.slice (some ⟨g', 0, none⟩) ((nI l).length + 1) c').ownBlock ≠ some p := hO.ne hp9 (by decide)
 refine ⟨rfl, ⟨_, (hp9.set 0 _).eq rfl, hO.set_other hne, h3⟩, ?_⟩
 exact (((Fq.refl p 3 B w).alloc _).grown (R := tI) (H2.out.alloc _) hgrow).set 0 _
theorem mix : Try.prog.follows .mixedOrders = true := by kernel_rfl
theorem popI_none (w : World) (B p : Nat) (h : Sk B p [] w) :
  Calls Try.prog 83 #[.pointer (some ⟨p, 0, none⟩)] w fun e w' => e = .returned (.tuple #[.int .i64 0, .bool false]) ∧ w' = w := by
 obtain ⟨v, h1, h2, h3⟩ := h
 have cp := h1.cell 0
 simp only [List.getElem?_toArray, List.getElem?_cons_zero] at cp
 rcases h2.form with ⟨rfl, _⟩ | ⟨g, c, rfl, _⟩
 all_goals
  clear h1 h2
  try simp only [nI, List.map_nil, List.length_nil] at cp
  go_enter Try.func83, Try.ntmps83
  go_wp2
  go_ret2
  exact ⟨rfl, rfl⟩
theorem popI_some (w : World) (B p : Nat) (m : List Nat) (x : Nat) (h : Sk B p (m ++ [x]) w) :
  Calls Try.prog 83 #[.pointer (some ⟨p, 0, none⟩)] w fun e w' => e = .returned (.tuple #[.int .i64 (x : Int), .bool true]) ∧ Sk B p m w' ∧ Fq p 3 B w w' := by
 obtain ⟨v, h1, h2, h3⟩ := h
 rcases h2.form with ⟨_, e⟩ | ⟨g, c, rfl, hc1, hc2, hBg⟩
 ·have := congrArg List.length e
  simp [nI] at this
 ·have cp := h1.cell 0
  simp only [List.getElem?_toArray, List.getElem?_cons_zero] at cp
  have hl : (nI (m ++ [x])).length = m.length + 1 := by rw [nI_len]; simp
  rw [hl] at cp hc1
  rw [hl] at h1 h2
  have cx := (h2.at (k := m.length) (x := (x : Int)) (by rw [nI_app, List.getElem?_append_right (by rw [nI_len]; exact Nat.le_refl _), nI_len, Nat.sub_self]; rfl)).cell 0 _ rfl
  have e1 : 0 + m.length * tI.n + 0 = m.length := by show 0 + m.length * 1 + 0 = _; omega
  rw [e1] at cx
  have f0 := h1.frozen 0
  have H1 := Lib.hid h1
  have H2 := Lib.hid h2
  unfold maxLen at hc2
  have hidx : (m.length : Int) + 1 - 1 = (m.length : Int) := by omega
  have hn : ((m.length + 1 : Nat) : Int) - 1 = (m.length : Int) := by omega
  clear h1 h2 hl e1
  go_enter Try.func83, Try.ntmps83
  go_upto_region 4 with (fail)
  go_quiet (fail)
  rename_i nq _
  go_upto_region 5 with (fail)
  have hwr : IntKind.i64.wrap ((m.length : Int) + 1 - 1) = (m.length : Int) := (IntWalk.i64_in _ (by omega)).trans (by omega)
  have HA := Lib.hid (H1.out.drewN nq)
  have HB := Lib.hid (show OwR tI B (w.drewN nq) _ _ from H2.out)
  have HF := Lib.hid ((Fq.refl p 3 B w).drewN nq)
  generalize w.drewN nq = W at HA HB HF ⊢
  have cp := HA.out.cell 0
  simp only [List.getElem?_toArray, List.getElem?_cons_zero] at cp
  have f0 := HA.out.frozen 0
  clear H1 H2
  have hw2 : IntKind.i64.wrap (m.length : Int) = (m.length : Int) := IntWalk.i64_in _ (by omega)
  have hmc : m.length ≤ c := by omega
  have hmc2 : (m.length : Int) ≤ (c : Int) := by omega
  have htn : ((m.length : Nat) : Int).toNat = m.length := by omega
  have fd : W.drew.frozen? ⟨p, 0, none⟩ = false := f0
  have cd : W.drew.cell? ⟨p, 0, none⟩ = some (.slice (some ⟨g, 0, none⟩) (m.length + 1) c) := cp
  refine wp_tail 14 mix (by kernel_rfl) ?_
  simp only [List.take_succ_cons, List.take_zero, List.drop_succ_cons, List.drop_zero]
  iterate 14 still_step
  refine wpStill_nil ?_
  go_wp2
  go_ret2
  have hp9 := HA.out.drew.set 0 (.slice (some ⟨g, 0, none⟩) m.length c)
  have hO : OwR tI B W.drew (.slice (some ⟨g, 0, none⟩) m.length c) (nI m) := by
   have h := HB.out.take (k := m.length) (by rw [nI_len]; simp)
   have e : (nI (m ++ [x])).take m.length = nI m := by rw [nI_app, ← nI_len m, List.take_left]
   rw [e] at h
   exact h
  have hne : (Value.slice (some ⟨g, 0, none⟩) m.length c).ownBlock ≠ some p := hO.ne HA.out.drew (by decide)
  exact ⟨rfl, ⟨_, hp9.eq rfl, hO.set_other hne, h3⟩, HF.out.drew.set 0 _⟩
theorem pushS_ok (w : World) (B p : Nat) (l : List (Nat × Nat)) (h : Ss B p l w) (hl : l.length ≤ 1048576) (x y : Nat) :
  Calls Try.prog 77 #[.pointer (some ⟨p, 0, none⟩), .agg #[.int .i64 (x : Int), .int .i64 (y : Int)]] w fun e w' => e = .returned (.tuple #[]) ∧ Ss B p (l ++ [(x, y)]) w' ∧ Fq p 127 B w w' := by
 obtain ⟨v, h1, h2, h3⟩ := h
 have H1 := Lib.hid h1
 have H2 := Lib.hid h2
 have hpl := h1.lt
 clear h1 h2
 go_enter Try.func77, Try.ntmps77
 go_upto_region 1 with (fail)
 generalize hW : w.alloc (.cells #[.int .i64 (x : Int), .int .i64 (y : Int)] 127) = W
 have PX : Blk W w.heap.size 127 #[.int .i64 (x : Int), .int .i64 (y : Int)] := by rw [← hW]; exact Blk.new _ _ _
 have P1 : Blk W p 124 #[v] := by rw [← hW]; exact H1.out.alloc _
 have O1 : OwR tS B W v (nS l) := by rw [← hW]; exact H2.out.alloc _
 have F1 : Fq p 127 B w W := by rw [← hW]; exact (Fq.refl _ _ _ _).alloc _
 have hsz : w.heap.size < W.heap.size := PX.lt
 have x0 : W.cell? ⟨w.heap.size, 0, none⟩ = some (.int .i64 (x : Int)) := PX.cell 0
 have x1 : W.cell? ⟨w.heap.size, 1, none⟩ = some (.int .i64 (y : Int)) := PX.cell 1
 have cp : W.cell? ⟨p, 0, none⟩ = some v := P1.cell 0
 have HP := Lib.hid P1
 have HO := Lib.hid O1
 have HF := Lib.hid F1
 have hvq : v.ownBlock ≠ some w.heap.size := fun e => by have := H2.out.lt e; omega
 have HX := Lib.hid PX
 clear hW PX P1 O1 F1 H1 H2
 obtain ⟨q, hq⟩ : ∃ q, q = w.heap.size := ⟨_, rfl⟩
 rw [← hq] at x0 x1 hsz hpl hvq HX ⊢
 have hFw : Fq p 127 B w W := HF.out
 clear HF
 have HFw := Lib.hid hFw
 clear hFw hq
 have cv : W.drew.cell? ⟨p, 0, none⟩ = some v ∧ W.drew.cell? ⟨q, 0, none⟩ = some (.int .i64 (x : Int)) ∧ W.drew.cell? ⟨q, 1, none⟩ = some (.int .i64 (y : Int)) := ⟨cp, x0, x1⟩
 refine wp_region_last 10 (fun w' => w'.cell? ⟨p, 0, none⟩ = some v ∧ w'.cell? ⟨q, 0, none⟩ = some (.int .i64 (x : Int)) ∧ w'.cell? ⟨q, 1, none⟩ = some (.int .i64 (y : Int))) mix ?_
 refine wpAnyL_take (i := 0) (v := .pointer (some ⟨p, 0, none⟩)) rfl (by kernel_rfl) (by kernel_rfl) (by kernel_rfl) (fun _ _ _ h => h) rfl (by kernel_rfl) (Or.inl ⟨by rfl, fun w' hw' => by (try go_split_ands); go_simp⟩) cv ?_
 simp only [Act.put, List.getElem_toArray, List.getElem_cons_zero, List.setIfInBounds_toArray, List.set_cons_zero, List.set_cons_succ]
 refine wpAnyL_take (i := 1) (v := .pointer (some ⟨p, 0, none⟩)) rfl (by kernel_rfl) (by kernel_rfl) (by kernel_rfl) (fun _ _ _ h => h) rfl (by kernel_rfl) (Or.inl ⟨by rfl, fun w' hw' => by (try go_split_ands); go_simp⟩) cv ?_
 simp only [Act.put, List.getElem_toArray, List.getElem_cons_zero, List.getElem_cons_succ, List.setIfInBounds_toArray, List.set_cons_zero, List.set_cons_succ]
 refine wpAnyL_take (i := 2) (v := .pointer (some ⟨p, 0, none⟩)) rfl (by kernel_rfl) (by kernel_rfl) (by kernel_rfl) (fun _ _ _ h => h) rfl (by kernel_rfl) (Or.inl ⟨by rfl, fun w' hw' => by (try go_split_ands); go_simp⟩) cv ?_
 simp only [Act.put, List.getElem_toArray, List.getElem_cons_zero, List.getElem_cons_succ, List.setIfInBounds_toArray, List.set_cons_zero, List.set_cons_succ]
 refine wpAnyL_take (i := 3) (v := .pointer (some ⟨p, 0, none⟩)) rfl (by kernel_rfl) (by kernel_rfl) (by kernel_rfl) (fun _ _ _ h => h) rfl (by kernel_rfl) (Or.inl ⟨by rfl, fun w' hw' => by (try go_split_ands); go_simp⟩) cv ?_
 simp only [Act.put, List.getElem_toArray, List.getElem_cons_zero, List.getElem_cons_succ, List.setIfInBounds_toArray, List.set_cons_zero, List.set_cons_succ]
 refine wpAnyL_take (i := 4) (v := v) rfl (by kernel_rfl) (by kernel_rfl) (by kernel_rfl) (fun _ _ _ h => h) rfl (by kernel_rfl) (Or.inl ⟨by rfl, fun w' hw' => by (try go_split_ands); go_simp⟩) cv ?_
 simp only [Act.put, List.getElem_toArray, List.getElem_cons_zero, List.getElem_cons_succ, List.setIfInBounds_toArray, List.set_cons_zero, List.set_cons_succ]
 refine wpAnyL_take (i := 5) (v := .agg #[.int .i64 (x : Int), .int .i64 (y : Int)]) rfl (by kernel_rfl) (by kernel_rfl) (by kernel_rfl) (fun _ _ _ h => h) rfl (by kernel_rfl) (Or.inl ⟨by rfl, fun w' hw' => by (try go_split_ands); go_simp⟩) cv ?_
 simp only [Act.put, List.getElem_toArray, List.getElem_cons_zero, List.getElem_cons_succ, List.setIfInBounds_toArray, List.set_cons_zero, List.set_cons_succ]
 refine wpAnyL_one (i := 6) (by kernel_rfl) rfl (fun K hK => ?_)
 go_simp
 have HP6 := Lib.hid ((HP.out.alloc (.cells #[.int .i64 (x : Int), .int .i64 (y : Int)] 127)).drew)
 have HX6 := Lib.hid ((HX.out.alloc (.cells #[.int .i64 (x : Int), .int .i64 (y : Int)] 127)).drew)
 have HO6 := Lib.hid ((HO.out.alloc (.cells #[.int .i64 (x : Int), .int .i64 (y : Int)] 127)).drew)
 have HN6 := Lib.hid ((Blk.new W 127 #[.int .i64 (x : Int), .int .i64 (y : Int)]).drew)
 have HF6 := Lib.hid ((HFw.out.alloc (.cells #[.int .i64 (x : Int), .int .i64 (y : Int)] 127)).drew)
 have hz6 : W.heap.size < (W.alloc (.cells #[.int .i64 (x : Int), .int .i64 (y : Int)] 127)).drew.heap.size := HN6.out.lt
 generalize (W.alloc (.cells #[.int .i64 (x : Int), .int .i64 (y : Int)] 127)).drew = W6 at HP6 HX6 HO6 HN6 HF6 hz6 ⊢
 refine hK.out _ _ (fun _ => ⟨HP6.out.cell 0, HX6.out.cell 0, HX6.out.cell 1⟩) ?_
 clear hK K
 refine wpAnyL_one (i := 7) (by kernel_rfl) rfl (fun K hK => ?_)
 refine step_push tS rfl (.tmp 8) (.tmp 10) rfl B v (nS l) (by rfl) HO6.out W.heap.size 0 1 1 [((x : Int), (y : Int))] (by rfl) rfl (rangeBlk HN6.out (by rfl)) (by rw [nS_len]; unfold maxLen; simp; omega) (by rw [nS_len]; show _ * 16 ≤ _; simp; omega) (by omega) ?_
 intro v' w9 hown hgrow hform
 obtain ⟨g', c', rfl, _⟩ := hform (by simp)
 have hp9 := HP6.out.of_block (hgrow.block p HP6.out.lt (fun e => HO6.out.ne HP6.out (by decide) e.symm))
 have hx9 := HX6.out.of_block (hgrow.block q HX6.out.lt (fun e => hvq e.symm))
 simp only [Act.put, List.setIfInBounds_toArray]
 refine hK.out _ _ (fun _ => ⟨hp9.cell 0, hx9.cell 0, hx9.cell 1⟩) ?_
 clear hK K
 have c9 : w9.cell? ⟨p, 0, none⟩ = some v := hp9.cell 0
 have f9 := hp9.frozen 0
 have cv9 : w9.cell? ⟨p, 0, none⟩ = some v ∧ w9.cell? ⟨q, 0, none⟩ = some (.int .i64 (x : Int)) ∧ w9.cell? ⟨q, 1, none⟩ = some (.int .i64 (y : Int)) := ⟨hp9.cell 0, hx9.cell 0, hx9.cell 1⟩
 refine wpAnyL_one (i := 8) (by kernel_rfl) rfl (fun K hK => ?_)
 go_simp
 refine hK.out _ _ (fun _ => cv9) ?_
 clear hK K
 refine wpAnyL_one (i := 9) (by kernel_rfl) rfl (fun K hK => ?_)
 go_simp
 refine hK.out _ _ (fun _ => cv9) ?_
 clear hK K
 refine wpAnyL_one (i := 10) (by kernel_rfl) rfl (fun K hK => ?_)
 go_simp
 refine hK.out _ _ (fun h => absurd rfl h) ?_
 clear hK K
 refine wpAnyL_done (by kernel_rfl) ?_ _
 go_end0
 have hO : OwR tS B w9 (.slice (some ⟨g', 0, none⟩) ((nS l).length + 1) c') (nS (l ++ [(x, y)])) := by rw [nS_app]; exact hown
 have hne : (Value.slice (some ⟨g', 0, none⟩) ((nS l).length + 1) c').ownBlock ≠ some p := hO.ne hp9 (by decide)
 refine ⟨rfl, ⟨_, (hp9.set 0 _).eq rfl, hO.set_other hne, h3⟩, ?_⟩
 exact (HF6.out.grown (R := tS) HO6.out hgrow).set 0 _
theorem rowStep : RowTy Try.prog 127 2 := ⟨_, Try.underlying127, rfl, by kernel_rfl⟩
theorem results_cell_tmp {P : Program} {fn : Func} {p t : Tmp} {ty : TypeId} (h : fn.results = #[.cell p ty, .tmp t]) {tmps : Array Value} {w : World} {g : Nat} {T : TypeId} {C : Array Value}
  (hp : tmps.getD p undef = .pointer (some ⟨g, 0, none⟩)) (hg : Blk w g T C) (hr : RowTy P ty C.size) : (results fn tmps).run P w = .ok (.tuple #[.agg C, tmps.getD t undef]) w := by
 obtain ⟨d, hu, hd, hi⟩ := hr
 have hp' : tmps[p]?.getD undef = .pointer (some ⟨g, 0, none⟩) := by simpa using hp
 simp [results, h, hp', asAddr, run_loadVar_row w g T ty C (0, 0) d hg hu (by cases d <;> simp_all [TypeDesc.isRow]) hi]
theorem popS_none (w : World) (B p : Nat) (h : Ss B p [] w) :
  Calls Try.prog 78 #[.pointer (some ⟨p, 0, none⟩)] w fun e w' => e = .returned (.tuple #[.agg #[.int .i64 0, .int .i64 0], .bool false]) ∧ Below w.heap.size w w' := by
 obtain ⟨v, h1, h2, h3⟩ := h
 have cp := h1.cell 0
 have hpl := h1.lt
 simp only [List.getElem?_toArray, List.getElem?_cons_zero] at cp
 rcases h2.form with ⟨rfl, _⟩ | ⟨g, c, rfl, _⟩
 all_goals
  clear h1 h2
  try simp only [nS, List.map_nil, List.length_nil] at cp
  go_enter Try.func78, Try.ntmps78
  go_wp2
  try simp only [Exit.inBlock, Exit.then]
  refine bodyPost_ret (results_cell_tmp (w := _) rfl rfl ((Blk.new w 127 #[.int .i64 0, .int .i64 0]).alloc _) rowStep) rfl ?_
  exact ⟨rfl, bAl (bAl (bRefl w) _) _⟩
theorem popS_some (w : World) (B p : Nat) (m : List (Nat × Nat)) (x y : Nat) (h : Ss B p (m ++ [(x, y)]) w) :
  Calls Try.prog 78 #[.pointer (some ⟨p, 0, none⟩)] w fun e w' => e = .returned (.tuple #[.agg #[.int .i64 (x : Int), .int .i64 (y : Int)], .bool true]) ∧ Ss B p m w' ∧ Fq p 127 B w w' := by
 obtain ⟨v, h1, h2, h3⟩ := h
 rcases h2.form with ⟨_, e⟩ | ⟨g, c, rfl, hc1, hc2, hBg⟩
 ·have := congrArg List.length e
  simp [nS] at this
 ·have hl : (nS (m ++ [(x, y)])).length = m.length + 1 := by rw [nS_len]; simp
  rw [hl] at h1 h2 hc1
  have hpl := h1.lt
  have hgl : g < w.heap.size := h2.lt rfl
  have H1 := Lib.hid h1
  have H2 := Lib.hid h2
  have cp := h1.cell 0
  simp only [List.getElem?_toArray, List.getElem?_cons_zero] at cp
  unfold maxLen at hc2
  clear h1 h2 hl
  go_enter Try.func78, Try.ntmps78
  go_upto_region 4 with (fail)
  generalize hW : ((w.alloc _).alloc _) = W
  have PR : Blk W w.heap.size 127 #[.int .i64 0, .int .i64 0] := by rw [← hW]; exact (Blk.new _ _ _).alloc _
  have HR := Lib.hid PR
  have HA := Lib.hid (show Blk W p 124 #[.slice (some ⟨g, 0, none⟩) (m.length + 1) c] by rw [← hW]; exact (H1.out.alloc _).alloc _)
  have HB := Lib.hid (show OwR tS B W (.slice (some ⟨g, 0, none⟩) (m.length + 1) c) (nS (m ++ [(x, y)])) by rw [← hW]; exact (H2.out.alloc _).alloc _)
  have HF := Lib.hid (show Fq p 127 B w W by rw [← hW]; exact ((Fq.refl _ _ _ _).alloc _).alloc _)
  have hsz : w.heap.size < W.heap.size := PR.lt
  have hat := HB.out.at (k := m.length) (x := ((x : Int), (y : Int))) (by rw [nS_app, List.getElem?_append_right (by rw [nS_len]; exact Nat.le_refl _), nS_len, Nat.sub_self]; rfl)
  have kx : W.cell? ⟨g, m.length * 2, none⟩ = some (.int .i64 (x : Int)) := by
   have h := hat.cell 0 _ rfl
   have e1 : 0 + m.length * tS.n + 0 = m.length * 2 := by show 0 + m.length * 2 + 0 = _; omega
   rw [e1] at h
   exact h
  have ky : W.cell? ⟨g, m.length * 2 + 1, none⟩ = some (.int .i64 (y : Int)) := by
   have h := hat.cell 1 _ rfl
   have e1 : 0 + m.length * tS.n + 1 = m.length * 2 + 1 := by show 0 + m.length * 2 + 1 = _; omega
   rw [e1] at h
   exact h
  have kp : W.cell? ⟨p, 0, none⟩ = some (.slice (some ⟨g, 0, none⟩) (m.length + 1) c) := HA.out.cell 0
  have hgW := HB.out.lt (g := g) rfl
  have hpW := HA.out.lt
  clear hW PR H1 H2 cp hat
  obtain ⟨q, hq⟩ : ∃ q, q = w.heap.size := ⟨_, rfl⟩
  rw [← hq] at HR hsz hpl hgl ⊢
  have hgq : g ≠ q := by omega
  have HF2 := Lib.hid HF.out
  have hqw : w.heap.size ≤ q := by omega
  clear HF hq
  have hwr : IntKind.i64.wrap ((m.length : Int) + 1 - 1) = (m.length : Int) := (IntWalk.i64_in _ (by omega)).trans (by omega)
  have hw2 : IntKind.i64.wrap (m.length : Int) = (m.length : Int) := IntWalk.i64_in _ (by omega)
  have hmc : m.length ≤ c := by omega
  have hmc2 : (m.length : Int) ≤ (c : Int) := by omega
  have htn : ((m.length : Nat) : Int).toNat = m.length := by omega
  have hno : ¬ ((m.length : Int) + 1 ≤ (m.length : Int)) := by omega
  have cv : W.drew.cell? ⟨p, 0, none⟩ = some (.slice (some ⟨g, 0, none⟩) (m.length + 1) c) ∧ W.drew.cell? ⟨g, m.length * 2, none⟩ = some (.int .i64 (x : Int)) ∧ W.drew.cell? ⟨g, m.length * 2 + 1, none⟩ = some (.int .i64 (y : Int)) := ⟨kp, kx, ky⟩
  refine wp_region_last 13 (fun w' => w'.cell? ⟨p, 0, none⟩ = some (.slice (some ⟨g, 0, none⟩) (m.length + 1) c) ∧ w'.cell? ⟨g, m.length * 2, none⟩ = some (.int .i64 (x : Int)) ∧ w'.cell? ⟨g, m.length * 2 + 1, none⟩ = some (.int .i64 (y : Int))) mix ?_
  refine wpAnyL_take (i := 0) (v := .pointer (some ⟨p, 0, none⟩)) rfl (by kernel_rfl) (by kernel_rfl) (by kernel_rfl) (fun _ _ _ h => h) rfl (by kernel_rfl) (Or.inl ⟨by rfl, fun w' hw' => by (try go_split_ands); go_simp⟩) cv ?_
  simp only [Act.put, List.getElem_toArray, List.getElem_cons_zero, List.setIfInBounds_toArray, List.set_cons_zero, List.set_cons_succ]
  refine wpAnyL_take (i := 1) (v := .pointer (some ⟨p, 0, none⟩)) rfl (by kernel_rfl) (by kernel_rfl) (by kernel_rfl) (fun _ _ _ h => h) rfl (by kernel_rfl) (Or.inl ⟨by rfl, fun w' hw' => by (try go_split_ands); go_simp⟩) cv ?_
  simp only [Act.put, List.getElem_toArray, List.getElem_cons_zero, List.getElem_cons_succ, List.setIfInBounds_toArray, List.set_cons_zero, List.set_cons_succ]
  refine wpAnyL_take (i := 2) (v := .pointer (some ⟨p, 0, none⟩)) rfl (by kernel_rfl) (by kernel_rfl) (by kernel_rfl) (fun _ _ _ h => h) rfl (by kernel_rfl) (Or.inl ⟨by rfl, fun w' hw' => by (try go_split_ands); go_simp⟩) cv ?_
  simp only [Act.put, List.getElem_toArray, List.getElem_cons_zero, List.getElem_cons_succ, List.setIfInBounds_toArray, List.set_cons_zero, List.set_cons_succ]
  refine wpAnyL_take (i := 3) (v := .slice (some ⟨g, 0, none⟩) (m.length + 1) c) rfl (by kernel_rfl) (by kernel_rfl) (by kernel_rfl) (fun _ _ _ h => h) rfl (by kernel_rfl) (Or.inl ⟨by rfl, fun w' hw' => by (try go_split_ands); go_simp⟩) cv ?_
  simp only [Act.put, List.getElem_toArray, List.getElem_cons_zero, List.getElem_cons_succ, List.setIfInBounds_toArray, List.set_cons_zero, List.set_cons_succ]
  refine wpAnyL_take (i := 4) (v := .pointer (some ⟨p, 0, none⟩)) rfl (by kernel_rfl) (by kernel_rfl) (by kernel_rfl) (fun _ _ _ h => h) rfl (by kernel_rfl) (Or.inl ⟨by rfl, fun w' hw' => by (try go_split_ands); go_simp⟩) cv ?_
  simp only [Act.put, List.getElem_toArray, List.getElem_cons_zero, List.getElem_cons_succ, List.setIfInBounds_toArray, List.set_cons_zero, List.set_cons_succ]
  refine wpAnyL_take (i := 5) (v := .pointer (some ⟨p, 0, none⟩)) rfl (by kernel_rfl) (by kernel_rfl) (by kernel_rfl) (fun _ _ _ h => h) rfl (by kernel_rfl) (Or.inl ⟨by rfl, fun w' hw' => by (try go_split_ands); go_simp⟩) cv ?_
  simp only [Act.put, List.getElem_toArray, List.getElem_cons_zero, List.getElem_cons_succ, List.setIfInBounds_toArray, List.set_cons_zero, List.set_cons_succ]
  refine wpAnyL_take (i := 6) (v := .pointer (some ⟨p, 0, none⟩)) rfl (by kernel_rfl) (by kernel_rfl) (by kernel_rfl) (fun _ _ _ h => h) rfl (by kernel_rfl) (Or.inl ⟨by rfl, fun w' hw' => by (try go_split_ands); go_simp⟩) cv ?_
  simp only [Act.put, List.getElem_toArray, List.getElem_cons_zero, List.getElem_cons_succ, List.setIfInBounds_toArray, List.set_cons_zero, List.set_cons_succ]
  refine wpAnyL_take (i := 7) (v := .slice (some ⟨g, 0, none⟩) (m.length + 1) c) rfl (by kernel_rfl) (by kernel_rfl) (by kernel_rfl) (fun _ _ _ h => h) rfl (by kernel_rfl) (Or.inl ⟨by rfl, fun w' hw' => by (try go_split_ands); go_simp⟩) cv ?_
  simp only [Act.put, List.getElem_toArray, List.getElem_cons_zero, List.getElem_cons_succ, List.setIfInBounds_toArray, List.set_cons_zero, List.set_cons_succ]
  refine wpAnyL_take (i := 8) (v := .int .i64 ((m.length : Int) + 1)) rfl (by kernel_rfl) (by kernel_rfl) (by kernel_rfl) (fun _ _ _ h => h) rfl (by kernel_rfl) (Or.inl ⟨by rfl, fun w' hw' => by (try go_split_ands); go_simp⟩) cv ?_
  simp only [Act.put, List.getElem_toArray, List.getElem_cons_zero, List.getElem_cons_succ, List.setIfInBounds_toArray, List.set_cons_zero, List.set_cons_succ]
  refine wpAnyL_take (i := 9) (v := .int .i64 (m.length : Int)) rfl (by kernel_rfl) (by kernel_rfl) (by kernel_rfl) (fun _ _ _ h => h) rfl (by kernel_rfl) (Or.inl ⟨by rfl, fun w' hw' => by (try go_split_ands); go_simp⟩) cv ?_
  simp only [Act.put, List.getElem_toArray, List.getElem_cons_zero, List.getElem_cons_succ, List.setIfInBounds_toArray, List.set_cons_zero, List.set_cons_succ]
  refine wpAnyL_take (i := 10) (v := .pointer (some ⟨g, m.length * 2, none⟩)) rfl (by kernel_rfl) (by kernel_rfl) (by kernel_rfl) (fun _ _ _ h => h) rfl (by kernel_rfl) (Or.inl ⟨by rfl, fun w' hw' => by (try go_split_ands); go_simp⟩) cv ?_
  simp only [Act.put, List.getElem_toArray, List.getElem_cons_zero, List.getElem_cons_succ, List.setIfInBounds_toArray, List.set_cons_zero, List.set_cons_succ]
  refine wpAnyL_take (i := 11) (v := .agg #[.int .i64 (x : Int), .int .i64 (y : Int)]) rfl (by kernel_rfl) (by kernel_rfl) (by kernel_rfl) (fun _ _ _ h => h) rfl (by kernel_rfl) (Or.inl ⟨by rfl, fun w' hw' => by (try go_split_ands); go_simp⟩) cv ?_
  simp only [Act.put, List.getElem_toArray, List.getElem_cons_zero, List.getElem_cons_succ, List.setIfInBounds_toArray, List.set_cons_zero, List.set_cons_succ]
  refine wpAnyL_one (i := 12) (by kernel_rfl) rfl (fun K hK => ?_)
  go_simp
  have HA6 := Lib.hid ((HA.out.alloc (.cells #[.int .i64 0, .int .i64 0] 127)).drew)
  have HR6 := Lib.hid ((HR.out.alloc (.cells #[.int .i64 0, .int .i64 0] 127)).drew)
  have HB6 := Lib.hid ((HB.out.alloc (.cells #[.int .i64 0, .int .i64 0] 127)).drew)
  have HN6 := Lib.hid ((Blk.new W 127 #[.int .i64 0, .int .i64 0]).drew)
  have HF6 := Lib.hid ((HF2.out.alloc (.cells #[.int .i64 0, .int .i64 0] 127)).drew)
  have k6 : (W.alloc (.cells #[.int .i64 0, .int .i64 0] 127)).drew.cell? ⟨p, 0, none⟩ = some (.slice (some ⟨g, 0, none⟩) (m.length + 1) c) ∧ (W.alloc (.cells #[.int .i64 0, .int .i64 0] 127)).drew.cell? ⟨g, m.length * 2, none⟩ = some (.int .i64 (x : Int)) ∧ (W.alloc (.cells #[.int .i64 0, .int .i64 0] 127)).drew.cell? ⟨g, m.length * 2 + 1, none⟩ = some (.int .i64 (y : Int)) :=
   ⟨HA6.out.cell 0, (World.cell?_alloc_past _ _ _ hgW).trans kx, (World.cell?_alloc_past _ _ _ hgW).trans ky⟩
  obtain ⟨t, ht⟩ : ∃ t, t = W.heap.size := ⟨_, rfl⟩
  have hwt : w.heap.size ≤ t := by rw [ht]; exact HF2.out.size
  rw [← ht] at HN6 hsz hgW hpW ⊢
  generalize (W.alloc (.cells #[.int .i64 0, .int .i64 0] 127)).drew = W6 at HA6 HR6 HB6 HN6 HF6 k6 ⊢
  refine hK.out _ _ (fun _ => k6) ?_
  clear hK K ht kx ky kp cv
  have n0 := HN6.out.cell 0
  have n1 := HN6.out.cell 1
  have m0 := HN6.out.frozen 0
  have m1 := HN6.out.frozen 1
  simp only [List.getElem?_toArray, List.getElem?_cons_zero, List.getElem?_cons_succ] at n0 n1
  refine wpAnyL_one (i := 13) (by kernel_rfl) rfl (fun K hK => ?_)
  go_simp
  refine hK.out _ _ (fun h => absurd rfl h) ?_
  clear hK K
  refine wpAnyL_done (by kernel_rfl) ?_ _
  have HA7 := Lib.hid ((HA6.out.set_other t 0 (.int .i64 (x : Int)) (by omega)).set_other t 1 (.int .i64 (y : Int)) (by omega))
  have HN7 := Lib.hid (((HN6.out.set 0 (.int .i64 (x : Int))).set 1 (.int .i64 (y : Int))).eq (C' := #[.int .i64 (x : Int), .int .i64 (y : Int)]) rfl)
  have HR7 := Lib.hid ((HR6.out.set_other t 0 (.int .i64 (x : Int)) (by omega)).set_other t 1 (.int .i64 (y : Int)) (by omega))
  have hgt : (Value.slice (some ⟨g, 0, none⟩) (m.length + 1) c).ownBlock ≠ some t := fun e => by injection e with e; simp only at e; omega
  have HB7 := Lib.hid ((HB6.out.set_other (b := t) (i := 0) (x := .int .i64 (x : Int)) hgt).set_other (b := t) (i := 1) (x := .int .i64 (y : Int)) hgt)
  have hF7 := (HF6.out.set_new (t := t) 0 (.int .i64 (x : Int)) hwt).set_new (t := t) 1 (.int .i64 (y : Int)) hwt
  have HF7 := Lib.hid hF7
  generalize (W6.setCell ⟨t, 0, none⟩ (.int .i64 (x : Int))).setCell ⟨t, 1, none⟩ (.int .i64 (y : Int)) = W7 at HA7 HN7 HR7 HB7 HF7 ⊢
  clear HA6 HN6 HR6 HB6 HF6 k6 n0 n1 m0 m1 hF7 HA HR HB HF2
  have cp := HA7.out.cell 0
  simp only [List.getElem?_toArray, List.getElem?_cons_zero] at cp
  have f0 := HA7.out.frozen 0
  have fd : W7.drew.frozen? ⟨p, 0, none⟩ = false := f0
  have cd : W7.drew.cell? ⟨p, 0, none⟩ = some (.slice (some ⟨g, 0, none⟩) (m.length + 1) c) := cp
  go_upto_region 5 with (fail)
  refine wp_tail 14 mix (by kernel_rfl) ?_
  simp only [List.take_succ_cons, List.take_zero, List.drop_succ_cons, List.drop_zero]
  iterate 14 still_step
  refine wpStill_nil ?_
  go_upto_region 6 with (fail)
  have HA9 := Lib.hid (HA7.out.drew.set 0 (.slice (some ⟨g, 0, none⟩) m.length c))
  have HB9 : OwR tS B W7.drew (.slice (some ⟨g, 0, none⟩) m.length c) (nS m) := by
   have h := HB7.out.take (k := m.length) (by rw [nS_len]; simp)
   have e : (nS (m ++ [(x, y)])).take m.length = nS m := by rw [nS_app, ← nS_len m, List.take_left]
   rw [e] at h
   exact h
  have hne : (Value.slice (some ⟨g, 0, none⟩) m.length c).ownBlock ≠ some p := HB9.ne HA7.out.drew (by decide)
  have HB9' := Lib.hid (HB9.set_other (i := 0) (x := .slice (some ⟨g, 0, none⟩) m.length c) hne)
  have HN9 := Lib.hid (HN7.out.drew.set_other p 0 (.slice (some ⟨g, 0, none⟩) m.length c) (by omega))
  have HR9 := Lib.hid (HR7.out.drew.set_other p 0 (.slice (some ⟨g, 0, none⟩) m.length c) (by omega))
  have HF9 := Lib.hid (HF7.out.drew.set 0 (.slice (some ⟨g, 0, none⟩) m.length c))
  generalize hW9 : (W7.setCell ⟨p, 0, none⟩ (.slice (some ⟨g, 0, none⟩) m.length c)).drew = W9
  have A9 : Blk W9 p 124 #[.slice (some ⟨g, 0, none⟩) m.length c] := by rw [← hW9]; exact HA9.out.eq rfl
  have B9 : OwR tS B W9 (.slice (some ⟨g, 0, none⟩) m.length c) (nS m) := by rw [← hW9]; exact HB9'.out
  have N9 : Blk W9 t 127 #[.int .i64 (x : Int), .int .i64 (y : Int)] := by rw [← hW9]; exact HN9.out
  have R9 : Blk W9 q 127 #[.int .i64 0, .int .i64 0] := by rw [← hW9]; exact HR9.out
  have F9 : Fq p 127 B w W9 := by rw [← hW9]; exact HF9.out
  have t0 : W9.cell? ⟨t, 0, none⟩ = some (.int .i64 (x : Int)) := N9.cell 0
  have t1 : W9.cell? ⟨t, 1, none⟩ = some (.int .i64 (y : Int)) := N9.cell 1
  clear hW9 HA9 HB9' HN9 HR9 HF9 HA7 HN7 HR7 HB7 HF7 cp f0 fd cd HB9 hne
  have HA := Lib.hid A9
  have HB := Lib.hid B9
  have HF := Lib.hid F9
  have HR := Lib.hid R9
  clear A9 B9 F9 R9 N9
  go_wp2_with (refine wpl_store rfl 127 (.tmp 2) (.tmp 39) rfl q 0 rfl (D := #[.int .i64 (x : Int), .int .i64 (y : Int)]) rfl HR.out rowStep rfl (by decide) (oneSimp rfl) ?_; intro w9 on9 p9)
  have p9' : Blk w9 q 127 #[.int .i64 (x : Int), .int .i64 (y : Int)] := p9.eq (spl_all _ _ rfl)
  try simp only [Exit.inBlock, Exit.then]
  refine bodyPost_ret (results_cell_tmp rfl rfl p9' rowStep) rfl ?_
  have hpq : p ≠ q := by omega
  have hBq : (Value.slice (some ⟨g, 0, none⟩) m.length c).ownBlock ≠ some q := fun e => by injection e with e; exact hgq e
  refine ⟨rfl, ⟨_, on9.blk HA.out hpq, HB.out.keep fun k hk => on9.block k (fun e => hBq (e ▸ hk)), h3⟩, ?_⟩
  have h9 := HF.out
  exact ⟨on9.os.trans h9.os, on9.tape.trans h9.tape, on9.output.trans h9.output, by rw [on9.size]; exact h9.size, fun k o h1 h2 h3 => (on9.block k (by have := Go.Wr.lt_of_heap h1; omega)).trans (h9.block k o h1 h2 h3)⟩
end Go.Proofs.Ytndnfjcfpcfakaa
namespace Go.Proofs.Ytndnfjcfpcfakaa
open Go Go.RowKit Go.Wr Go.Fl
set_option maxHeartbeats 4000000
set_option maxRecDepth 100000
theorem SlX.int {p : Nat} {w : World} {a0 : Option Addr} {n cap : Nat} {l : List Int} (h : SlX tI p w (.slice a0 n cap) l) {k : Nat} {x : Int} (hk : l[k]? = some x) :
  ∃ b o, a0 = some ⟨b, o, none⟩ ∧ b ≠ p ∧ b < w.heap.size ∧ w.cell? ⟨b, o + k, none⟩ = some (.int .i64 x) := by
 obtain ⟨b, o, e, hne, hat⟩ := h.get hk
 refine ⟨b, o, e, hne, hat.1, ?_⟩
 have := hat.cell 0 _ rfl
 have e1 : o + k * tI.n + 0 = o + k := by show o + k * 1 + 0 = _; omega
 rw [e1] at this
 exact this
theorem SlX.bool {p : Nat} {w : World} {a0 : Option Addr} {n cap : Nat} {l : List Bool} (h : SlX tB p w (.slice a0 n cap) l) {k : Nat} {x : Bool} (hk : l[k]? = some x) :
  ∃ b o, a0 = some ⟨b, o, none⟩ ∧ b ≠ p ∧ b < w.heap.size ∧ w.cell? ⟨b, o + k, none⟩ = some (.bool x) := by
 obtain ⟨b, o, e, hne, hat⟩ := h.get hk
 refine ⟨b, o, e, hne, hat.1, ?_⟩
 have := hat.cell 0 _ rfl
 have e1 : o + k * tB.n + 0 = o + k := by show o + k * 1 + 0 = _; omega
 rw [e1] at this
 exact this
theorem unitsI_get {l : List In} {m k : Nat} (h : k ≤ m) : (unitsI l m)[k]? = some ((unit l k : Nat) : Int) := by
 unfold unitsI
 rw [List.getElem?_map, List.getElem?_range (by omega)]
 rfl
theorem isJump_ok (w : World) (op : Int) : Calls Try.prog 72 #[.int .i64 op] w fun e w' => e = .returned (.bool (bw op 26 37)) ∧ w' = w := by
 unfold bw
 by_cases h1 : 26 ≤ op
 ·go_enter Try.func72, Try.ntmps72
  go_wp2
  go_ret
  exact ⟨retB (by simp [h1]), rfl⟩
 ·have h1' : op < 26 := by omega
  go_enter Try.func72, Try.ntmps72
  go_wp2
  go_ret
  exact ⟨retB (by simp; omega), rfl⟩
theorem sameInts_ok (w : World) (p q : Nat) (v v' : Value) (l l' : List Int) (h : SlX tI p w v l) (h' : SlX tI q w v' l') :
  Calls Try.prog 13 #[v, v'] w fun e w' => e = .returned (.bool (decide (l = l'))) ∧ Below w.heap.size w w' := by
 obtain ⟨r, hr⟩ : ∃ r, r = decide (l = l') := ⟨_, rfl⟩
 rw [← hr]
 have HR := Lib.hid hr
 obtain ⟨a0, cap, rfl, h1, h2⟩ := h.form
 obtain ⟨a1, cap', rfl, h1', h2'⟩ := h'.form
 have H := Lib.hid h
 have H' := Lib.hid h'
 unfold maxLen at h2 h2'
 clear hr h h'
 by_cases hn : l.length = l'.length
 ·have hn1 : ((l.length : Int) != (l'.length : Int)) = false := by rw [bne_eq_false_iff_eq]; omega
  have HN := Lib.hid hn
  clear hn
  go_enter Try.func13, Try.ntmps13
  go_wp2
  go_loopw [5] (fun t wr => ∃ k : Nat, k ≤ l.length ∧ t = .int .i64 (k : Int) ∧ Hid (∀ i, i < k → l[i]? = l'[i]?) ∧ Below w.heap.size w wr) (fun t _ => l.length - (intOf t).toNat)
  case atStart => exact ⟨0, by omega, rfl, (fun i hi => by omega), bRefl w⟩
  case round =>
   obtain ⟨k, hk, rfl, hq, hb⟩ := hrel
   by_cases hlt : k < l.length
   ·have hlt' : (k : Int) < (l.length : Int) := by omega
    have hlt2 : (k : Int) < (l'.length : Int) := by have := HN.out; omega
    have hk0 : (0 : Int) ≤ (k : Int) := by omega
    obtain ⟨y, hy⟩ : ∃ y, l[k]? = some y := ⟨_, List.getElem?_eq_getElem hlt⟩
    obtain ⟨z, hz⟩ : ∃ y, l'[k]? = some y := ⟨_, List.getElem?_eq_getElem (by have := HN.out; omega)⟩
    obtain ⟨b, o, rfl, _, _, hc⟩ := SlX.int (H.out.below hb) hy
    obtain ⟨b', o', rfl, _, _, hc'⟩ := SlX.int (H'.out.below hb) hz
    have HYZ := Lib.hid (And.intro hy hz)
    clear hy hz
    go_upto_region 6 with (fail)
    go_quiet (fail)
    rename_i nq _
    have hb2 := bDraw hb nq
    by_cases e : y = z
    ·have e1 : Hid (∀ i, i < k + 1 → l[i]? = l'[i]?) := fun i hi => by
      by_cases hik : i < k
      ·exact hq.out i hik
      ·obtain rfl : i = k := by omega
       rw [HYZ.out.1, HYZ.out.2, e]
     have e2 : (y != z) = false := by simp [e]
     clear HYZ e hq
     go_wp2
     go_roundw
     all_goals first
      | exact ⟨k + 1, by omega, by go_num, e1, hb2⟩
      | ((repeat apply Exists.intro); exact ⟨⟨k + 1, by omega, by go_num, e1, hb2⟩, rfl⟩)
      | (simp [intOf]; omega)
    ·have e1 : Hid (r = false) := by
      show _ = _
      rw [HR.out, decide_eq_false_iff_not]
      rintro rfl
      have h3 := HYZ.out.1.symm.trans HYZ.out.2
      injection h3 with h3
      exact e h3
     have e2 : (y != z) = true := by simp [e]
     clear HYZ e hq
     go_wp2
     go_ret
     exact ⟨retB e1.out.symm, hb2⟩
   ·obtain rfl : k = l.length := by omega
    have e1 : Hid (r = true) := by
     show _ = _
     rw [HR.out, decide_eq_true_iff]
     refine List.ext_getElem? fun i => ?_
     by_cases hi : i < l.length
     ·exact hq.out i hi
     ·have := HN.out
      rw [List.getElem?_eq_none (by omega), List.getElem?_eq_none (by omega)]
    clear hlt hq
    go_wp2
    go_ret
    exact ⟨retB e1.out.symm, hb⟩
 ·have hn1 : ((l.length : Int) != (l'.length : Int)) = true := by rw [bne_iff_ne]; omega
  have e1 : Hid (r = false) := by show _ = _; rw [HR.out, decide_eq_false_iff_not]; exact fun e => hn (congrArg List.length e)
  clear hn
  go_enter Try.func13, Try.ntmps13
  go_wp2
  go_ret
  exact ⟨retB e1.out.symm, bRefl w⟩
end Go.Proofs.Ytndnfjcfpcfakaa
namespace Go.Proofs.Ytndnfjcfpcfakaa
open Go Go.RowKit Go.Wr Go.Fl
set_option maxHeartbeats 4000000
set_option maxRecDepth 100000
structure Pd (p n : Nat) (pl : Nat → Nat) (d : Nat → Option Nat) (a4 a5 : Addr) (c4 c5 : Nat) (w : World) : Prop where
 f4 : w.cell? ⟨p, 4, none⟩ = some (.slice (some a4) n c4)
 f5 : w.cell? ⟨p, 5, none⟩ = some (.slice (some a5) n c5)
 s4 : a4.spot = none
 s5 : a5.spot = none
 p4 : ∀ b, b < n → w.cell? ⟨a4.block, a4.off + b, none⟩ = some (.int .i64 (pl b : Int))
 p5 : ∀ b, b < n → w.cell? ⟨a5.block, a5.off + b, none⟩ = some (.int .i64 (oi (d b)))
theorem Pd.drewN {p n : Nat} {pl : Nat → Nat} {d : Nat → Option Nat} {a4 a5 : Addr} {c4 c5 : Nat} {w : World} (h : Pd p n pl d a4 a5 c4 c5 w) (k : Nat) : Pd p n pl d a4 a5 c4 c5 (w.drewN k) := ⟨h.f4, h.f5, h.s4, h.s5, h.p4, h.p5⟩
def MeetP (d : Nat → Option Nat) (a b : Nat) (w : World) (e : Ending) (w' : World) : Prop := ∃ m : Nat, e = .returned (.int .i64 (m : Int)) ∧ Meet d a b m ∧ ∃ k, w' = w.drewN k
theorem meet_ok (w : World) (p n : Nat) (nx : Nat → List Nat) (pl : Nat → Nat) (d : Nat → Option Nat) (ah : Nat → List Nat) (g : Gr nx pl n ah) (hT : Tb nx pl n d) (b4 o4 b5 o5 c4 c5 : Nat) (h : Pd p n pl d ⟨b4, o4, none⟩ ⟨b5, o5, none⟩ c4 c5 w)
  (a b : Nat) (ha : (d a).isSome) (hb : (d b).isSome) :
  Calls Try.prog 80 #[.pointer (some ⟨p, 0, none⟩), .int .i64 (a : Int), .int .i64 (b : Int)] w (MeetP d a b w) := by
 have H := Lib.hid h
 have HT := Lib.hid hT
 have HG := Lib.hid g
 have HA := Lib.hid ha
 have HB := Lib.hid hb
 clear h hT g ha hb
 go_enter Try.func80, Try.ntmps80
 go_wp2
 go_loopw [1, 2] (fun t1 t2 wr => ∃ (x y k : Nat), t1 = .int .i64 (x : Int) ∧ t2 = .int .i64 (y : Int) ∧ wr = w.drewN k ∧ Hid ((d x).isSome) ∧ Hid ((d y).isSome) ∧ Hid (∀ m, Meet d x y m → Meet d a b m)) (fun t1 t2 _ => pl (intOf t1).toNat + pl (intOf t2).toNat)
 case atStart => exact ⟨a, b, 0, rfl, rfl, rfl, HA.out, HB.out, fun _ h => h⟩
 case round =>
  obtain ⟨x, y, k, rfl, rfl, hw, hx, hy, hm⟩ := hrel
  have HK := Lib.hid (H.out.drewN k)
  rw [← hw] at HK
  have HW := Lib.hid hw
  clear hw
  by_cases exy : x = y
  ·subst exy
   go_wp2
   go_ret
   exact ⟨x, rfl, hm.out x (Meet.same d x), k, HW.out⟩
  ·have hne : ((x : Int) != (y : Int)) = true := by rw [bne_iff_ne]; omega
   obtain ⟨wo, rfl⟩ : ∃ wo : World, wo = wr := ⟨_, rfl⟩
   have hxn := HT.out.lt_n hx.out
   have hyn := HT.out.lt_n hy.out
   have hpne : pl x ≠ pl y := fun e => exy (HG.out.inj x y hxn hyn e)
   go_wp2
   go_loopw [1] (fun t1 wr => ∃ (x' k' : Nat), t1 = .int .i64 (x' : Int) ∧ wr = w.drewN k' ∧ Hid ((d x').isSome) ∧ Hid (∀ m, Meet d x' y m → Meet d x y m) ∧ pl x' ≤ pl x ∧ (x' = x ∨ pl x' < pl x) ∧ (pl y < pl x ∨ x' = x)) (fun t1 _ => pl (intOf t1).toNat)
   case atStart => exact ⟨x, k, rfl, HW.out, hx.out, (fun _ h => h), Nat.le_refl _, Or.inl rfl, Or.inr rfl⟩
   case round =>
    obtain ⟨x', k', rfl, hw', hx', hm', hle, hlt, hor⟩ := hrel
    have HK' := Lib.hid (H.out.drewN k')
    rw [← hw'] at HK'
    have HW' := Lib.hid hw'
    clear hw'
    have hx'n := HT.out.lt_n hx'.out
    have f4 := HK'.out.f4
    have f5 := HK'.out.f5
    have px := HK'.out.p4 x' hx'n
    have py := HK'.out.p4 y hyn
    have dx := HK'.out.p5 x' hx'n
    simp only at px py dx
    have hxi : (x' : Int) < (n : Int) := by omega
    have hyi : (y : Int) < (n : Int) := by omega
    have hx0 : (0 : Int) ≤ (x' : Int) := by omega
    have hy0 : (0 : Int) ≤ (y : Int) := by omega
    by_cases hgt : pl y < pl x'
    ·have hgt' : decide ((pl y : Int) < (pl x' : Int)) = true := decide_eq_true (by omega)
     have hgt2 : (pl y : Int) < (pl x' : Int) := by omega
     obtain ⟨z, hz⟩ := Option.isSome_iff_exists.1 hx'.out
     rw [hz] at dx
     have dx2 : wr.cell? ⟨b5, o5 + x', none⟩ = some (.int .i64 (z : Int)) := dx
     have hx0' : x' ≠ 0 := fun e => by subst e; have := HG.out.p0; omega
     have hzlt := HT.out.lt x' z hz hx0'
     have hzs := (HT.out.bd x' z hz).2.2
     have hmz : Hid (∀ m, Meet d z y m → Meet d x y m) := fun m h => hm'.out m (HT.out.stepL hz hgt h)
     clear dx hz hm' hlt
     go_upto_region 2 with (fail)
     go_quiet (fail)
     go_wp2
     go_roundw
     all_goals first
      | exact ⟨z, k' + nq, rfl, by rw [HW'.out]; simp, hzs, hmz, by omega, Or.inr (by omega), Or.inl (by omega)⟩
      | ((repeat apply Exists.intro); exact ⟨⟨z, k' + nq, rfl, by rw [HW'.out]; simp, hzs, hmz, by omega, Or.inr (by omega), Or.inl (by omega)⟩, rfl⟩)
      | (simp [intOf]; omega)
    ·have hgt' : decide ((pl y : Int) < (pl x' : Int)) = false := decide_eq_false (by omega)
     have hgt2 : (pl x' : Int) ≤ (pl y : Int) := by omega
     go_upto_region 2 with (fail)
     go_quiet (fail)
     have HW2 := Lib.hid (show wr.drewN nq = w.drewN (k' + nq) by rw [HW'.out]; simp)
     generalize wr.drewN nq = W2 at HW2 ⊢
     have hM : Hid (∀ m, Meet d x' y m → Meet d a b m) := fun m h => hm.out m (hm'.out m h)
     have hsum : ∀ y', pl y' ≤ pl x' → pl y' ≤ pl y → pl x' + pl y' < pl x + pl y := fun y' h1 h2 => by
      rcases hor with h | h
      ·omega
      ·subst h; omega
     have HSUM := Lib.hid hsum
     clear f4 f5 px py dx hm hm' HK' HW' hlt hle hor hsum HK HW hgt' hgt hpne
     obtain ⟨kk, hkk⟩ : ∃ kk, kk = k' + nq := ⟨_, rfl⟩
     rw [← hkk] at HW2
     clear hkk
     obtain ⟨wi, rfl⟩ : ∃ wi : World, wi = wr := ⟨_, rfl⟩
     go_wp2
     go_loopw [2] (fun t2 wr => ∃ (y' k2 : Nat), t2 = .int .i64 (y' : Int) ∧ wr = w.drewN k2 ∧ Hid ((d y').isSome) ∧ Hid (∀ m, Meet d x' y' m → Meet d x' y m) ∧ pl y' ≤ pl y) (fun t2 _ => pl (intOf t2).toNat)
     case atStart => exact ⟨y, kk, rfl, HW2.out, hy.out, (fun _ h => h), Nat.le_refl _⟩
     case round =>
      obtain ⟨y', k2, rfl, hw2, hy', hm2, hle2⟩ := hrel
      have HK2 := Lib.hid (H.out.drewN k2)
      rw [← hw2] at HK2
      have HW3 := Lib.hid hw2
      clear hw2 HW2 hgt2 hyi hy0
      have hy'n := HT.out.lt_n hy'.out
      have f4 := HK2.out.f4
      have f5 := HK2.out.f5
      have px := HK2.out.p4 x' hx'n
      have py := HK2.out.p4 y' hy'n
      have dy := HK2.out.p5 y' hy'n
      simp only at px py dy
      have hyi : (y' : Int) < (n : Int) := by omega
      have hy0 : (0 : Int) ≤ (y' : Int) := by omega
      by_cases hgt : pl x' < pl y'
      ·have hgt' : decide ((pl x' : Int) < (pl y' : Int)) = true := decide_eq_true (by omega)
       have hgt2 : (pl x' : Int) < (pl y' : Int) := by omega
       obtain ⟨z, hz⟩ := Option.isSome_iff_exists.1 hy'.out
       rw [hz] at dy
       have dy2 : wr.cell? ⟨b5, o5 + y', none⟩ = some (.int .i64 (z : Int)) := dy
       have hy0' : y' ≠ 0 := fun e => by subst e; have := HG.out.p0; omega
       have hzlt := HT.out.lt y' z hz hy0'
       have hzs := (HT.out.bd y' z hz).2.2
       have hmz : Hid (∀ m, Meet d x' z m → Meet d x' y m) := fun m h => hm2.out m (HT.out.stepR hz hgt h)
       clear dy hz hm2
       go_upto_region 4 with (fail)
       go_quiet (fail)
       go_wp2
       go_roundw
       all_goals first
        | exact ⟨z, k2 + nq, rfl, by rw [HW3.out]; simp, hzs, hmz, by omega⟩
        | ((repeat apply Exists.intro); exact ⟨⟨z, k2 + nq, rfl, by rw [HW3.out]; simp, hzs, hmz, by omega⟩, rfl⟩)
        | (simp [intOf]; omega)
      ·have hgt' : decide ((pl x' : Int) < (pl y' : Int)) = false := decide_eq_false (by omega)
       have hgt2 : (pl y' : Int) ≤ (pl x' : Int) := by omega
       have hend := HSUM.out y' (by omega) hle2
       have hMM : Hid (∀ m, Meet d x' y' m → Meet d a b m) := fun m h => hM.out m (hm2.out m h)
       go_upto_region 4 with (fail)
       go_quiet (fail)
       have HW5 := Lib.hid (show wr.drewN nq = w.drewN (k2 + nq) by rw [HW3.out]; simp)
       generalize wr.drewN nq = W5 at HW5 ⊢
       clear f4 f5 px py dy hm2 hM HK2 HW3 hgt' hgt HSUM
       go_wp2
       go_roundw
       all_goals first
        | exact ⟨x', y', _, rfl, rfl, HW5.out, hx'.out, hy'.out, hMM.out⟩
        | ((repeat apply Exists.intro); exact ⟨⟨x', y', _, rfl, rfl, HW5.out, hx'.out, hy'.out, hMM.out⟩, rfl⟩)
        | (simp [intOf]; omega)
end Go.Proofs.Ytndnfjcfpcfakaa
namespace Go.Proofs.Ytndnfjcfpcfakaa
open Go Go.RowKit Go.Wr Go.Fl
set_option maxHeartbeats 4000000
set_option maxRecDepth 100000
open Classical in
noncomputable def domB (nx : Nat → List Nat) (n : Nat) (a b : Int) : Bool := decide (0 ≤ a ∧ a < n ∧ 0 ≤ b ∧ b < n ∧ Dom nx a.toNat b.toNat)
theorem domB_yes {nx : Nat → List Nat} {n : Nat} {a b : Nat} (ha : a < n) (hb : b < n) (h : Dom nx a b) : domB nx n a b = true := by
 unfold domB; exact @decide_eq_true _ (_) ⟨by omega, by omega, by omega, by omega, h⟩
theorem domB_no {nx : Nat → List Nat} {n : Nat} {a b : Nat} (h : ¬ Dom nx a b) : domB nx n a b = false := by
 unfold domB; exact @decide_eq_false _ (_) fun k => h k.2.2.2.2
theorem domB_out {nx : Nat → List Nat} {n : Nat} {a b : Int} (h : ¬ (0 ≤ a ∧ a < n ∧ 0 ≤ b ∧ b < n)) : domB nx n a b = false := by
 unfold domB; exact @decide_eq_false _ (_) fun k => h ⟨k.1, k.2.1, k.2.2.1, k.2.2.2.1⟩
theorem domB_iff {nx : Nat → List Nat} {n : Nat} {a b : Nat} (ha : a < n) (hb : b < n) : domB nx n a b = true ↔ Dom nx a b := by
 constructor
 ·intro h
  unfold domB at h
  exact (@of_decide_eq_true _ (_) h).2.2.2.2
 ·exact domB_yes ha hb
theorem dominates_ok (w : World) (p n : Nat) (nx : Nat → List Nat) (pl : Nat → Nat) (d : Nat → Option Nat) (ah : Nat → List Nat) (g : Gr nx pl n ah) (hI : Idom nx pl n d) (b4 o4 b5 o5 c4 c5 : Nat) (h : Pd p n pl d ⟨b4, o4, none⟩ ⟨b5, o5, none⟩ c4 c5 w)
  (ab : Option Addr) (cb : Nat) (hf : w.cell? ⟨p, 0, none⟩ = some (.slice ab n cb)) (a b : Int) :
  Calls Try.prog 81 #[.pointer (some ⟨p, 0, none⟩), .int .i64 a, .int .i64 b] w fun e w' => e = .returned (.bool (domB nx n a b)) ∧ ∃ k, w' = w.drewN k := by
 by_cases hin : 0 ≤ a ∧ a < n ∧ 0 ≤ b ∧ b < n
 ·obtain ⟨h1, h2, h3, h4⟩ := hin
  obtain ⟨x, rfl⟩ := Int.eq_ofNat_of_zero_le h1
  obtain ⟨y0, rfl⟩ := Int.eq_ofNat_of_zero_le h3
  have hx : x < n := by omega
  have hy0 : y0 < n := by omega
  obtain ⟨r, hr⟩ : ∃ r, r = domB nx n (x : Int) (y0 : Int) := ⟨_, rfl⟩
  rw [← hr]
  have HR := Lib.hid hr
  have H := Lib.hid h
  have HI := Lib.hid hI
  have HG := Lib.hid g
  clear h hI g hr
  go_enter Try.func81, Try.ntmps81
  go_wp2
  go_loopw [2] (fun t2 wr => ∃ (y k : Nat), t2 = .int .i64 (y : Int) ∧ wr = w.drewN k ∧ y < n ∧ Hid (Dom nx x y ↔ Dom nx x y0)) (fun t2 _ => pl (intOf t2).toNat)
  case atStart => exact ⟨y0, 0, rfl, rfl, hy0, Iff.rfl⟩
  case round =>
   obtain ⟨y, k, rfl, hw, hy, hq⟩ := hrel
   have HK := Lib.hid (H.out.drewN k)
   rw [← hw] at HK
   have HW := Lib.hid hw
   clear hw
   have f4 := HK.out.f4
   have f5 := HK.out.f5
   have px := HK.out.p4 x hx
   have py := HK.out.p4 y hy
   have dy := HK.out.p5 y hy
   simp only at px py dy
   have hyi : (y : Int) < (n : Int) := by omega
   have hy0i : (0 : Int) ≤ (y : Int) := by omega
   by_cases hgt : pl x < pl y
   ·have hgt' : decide ((pl x : Int) < (pl y : Int)) = true := decide_eq_true (by omega)
    have hgt2 : (pl x : Int) < (pl y : Int) := by omega
    obtain ⟨z, hz, _⟩ := HI.out.dm y hy
    rw [hz] at dy
    have dy2 : wr.cell? ⟨b5, o5 + y, none⟩ = some (.int .i64 (z : Int)) := dy
    have hy0' : y ≠ 0 := fun e => by subst e; have := HG.out.p0; omega
    have hzlt := HI.out.tb.lt y z hz hy0'
    have hzn := (HI.out.tb.bd y z hz).2.1
    have hqz : Hid (Dom nx x z ↔ Dom nx x y0) := (HI.out.climb_step hy hgt hz).trans hq.out
    clear dy hz hq
    go_upto_region 4 with (fail)
    go_quiet (fail)
    go_wp2
    go_roundw
    all_goals first
     | exact ⟨z, k + nq, rfl, by rw [HW.out]; simp, hzn, hqz⟩
     | ((repeat apply Exists.intro); exact ⟨⟨z, k + nq, rfl, by rw [HW.out]; simp, hzn, hqz⟩, rfl⟩)
     | (simp [intOf]; omega)
   ·have hgt' : decide ((pl x : Int) < (pl y : Int)) = false := decide_eq_false (by omega)
    have hgt2 : (pl y : Int) ≤ (pl x : Int) := by omega
    have hc := HI.out.climb HG.out hx hy (by omega)
    have e1 : Hid (r = ((x : Int) == (y : Int))) := by
     show _ = _
     rw [HR.out, Bool.eq_iff_iff, domB_iff hx hy0, ← hq.out, ← hc, beq_iff_eq]
     omega
    clear hq hc
    go_upto_region 4 with (fail)
    go_quiet (fail)
    have HW5 := Lib.hid (show wr.drewN nq = w.drewN (k + nq) by rw [HW.out]; simp)
    go_wp2
    go_ret
    exact ⟨retB e1.out.symm, _, HW5.out⟩
 ·have e1 := Lib.hid (domB_out (nx := nx) hin)
  generalize domB nx n a b = r at *
  clear h hI g
  by_cases h1 : a < 0
  ·go_enter Try.func81, Try.ntmps81
   go_wp2
   go_ret
   exact ⟨retB e1.out.symm, 0, rfl⟩
  ·by_cases h2 : (n : Int) ≤ a
   ·have h1' : 0 ≤ a := by omega
    go_enter Try.func81, Try.ntmps81
    go_wp2
    go_ret
    exact ⟨retB e1.out.symm, 0, rfl⟩
   ·have h1' : 0 ≤ a := by omega
    have h2' : a < (n : Int) := by omega
    by_cases h3 : b < 0
    ·go_enter Try.func81, Try.ntmps81
     go_wp2
     go_ret
     exact ⟨retB e1.out.symm, 0, rfl⟩
    ·have h3' : 0 ≤ b := by omega
     have h4' : (n : Int) ≤ b := by omega
     clear hin h1 h2 h3
     go_enter Try.func81, Try.ntmps81
     go_wp2
     go_ret
     exact ⟨retB e1.out.symm, 0, rfl⟩
end Go.Proofs.Ytndnfjcfpcfakaa
namespace Go.Proofs.Ytndnfjcfpcfakaa
open Go Go.RowKit Go.Wr Go.Fl
set_option maxHeartbeats 4000000
set_option maxRecDepth 100000
structure FwR (p n : Nat) (nx : Nat → List Nat) (vb : Value) (bs : List Bk) (w : World) : Prop where
 f0 : w.cell? ⟨p, 0, none⟩ = some vb
 ln : bs.length = n
 sb : SlX tK p w vb bs
 nb : ∀ b k, bs[b]? = some k → SlX tI p w k.nx.v (nI (nx b))
theorem FwR.below {p n : Nat} {nx : Nat → List Nat} {vb : Value} {bs : List Bk} {w w' : World} (h : FwR p n nx vb bs w) (hp : p < w.heap.size) (b : Below w.heap.size w w') : FwR p n nx vb bs w' :=
 ⟨(b.cell (p := ⟨p, 0, none⟩) hp).trans h.f0, h.ln, h.sb.below b, fun i k hk => (h.nb i k hk).below b⟩
theorem at_bk {w : World} {b o : Nat} {k : Bk} (h : At w b o (tK.f k)) : w.cell? ⟨b, o, none⟩ = some (.int .i64 k.fr) ∧ w.cell? ⟨b, o + 1, none⟩ = some (.int .i64 k.2) ∧ w.cell? ⟨b, o + 2, none⟩ = some k.nx.v :=
 ⟨h.cell 0 _ rfl, h.cell 1 _ rfl, h.cell 2 _ rfl⟩
theorem Pd.below {p n : Nat} {pl : Nat → Nat} {d : Nat → Option Nat} {a4 a5 : Addr} {c4 c5 : Nat} {w w' : World} (h : Pd p n pl d a4 a5 c4 c5 w) (hp : p < w.heap.size) (h4 : a4.block < w.heap.size) (h5 : a5.block < w.heap.size) (b : Below w.heap.size w w') : Pd p n pl d a4 a5 c4 c5 w' :=
 ⟨(b.cell (p := ⟨p, 4, none⟩) hp).trans h.f4, (b.cell (p := ⟨p, 5, none⟩) hp).trans h.f5, h.s4, h.s5, fun i hi => (b.cell (p := ⟨a4.block, _, none⟩) h4).trans (h.p4 i hi), fun i hi => (b.cell (p := ⟨a5.block, _, none⟩) h5).trans (h.p5 i hi)⟩
theorem straight_ok (w : World) (p n : Nat) (nx : Nat → List Nat) (pl : Nat → Nat) (d : Nat → Option Nat) (ah : Nat → List Nat) (g : Gr nx pl n ah) (hI : Idom nx pl n d) (b4 o4 b5 o5 c4 c5 : Nat) (h : Pd p n pl d ⟨b4, o4, none⟩ ⟨b5, o5, none⟩ c4 c5 w)
  (vb : Value) (bs : List Bk) (hf : FwR p n nx vb bs w) (hp : p < w.heap.size) (h4 : b4 < w.heap.size) (h5 : b5 < w.heap.size) :
  Calls Try.prog 45 #[.pointer (some ⟨p, 0, none⟩)] w fun e w' => Below w.heap.size w w' ∧ ((e = .returned (.bool true) ∧ Str nx pl n) ∨ (e = .returned (.bool false) ∧ ∃ u v, u < n ∧ v ∈ nx u ∧ pl v ≤ pl u ∧ ¬ Dom nx v u)) := by
 obtain ⟨a0, cap, rfl, h1, h2⟩ := hf.sb.form
 have hln := hf.ln
 have f0 := hf.f0
 rw [hln] at f0 h1
 have H := Lib.hid h
 have HF := Lib.hid hf
 have HI := Lib.hid hI
 have HG := Lib.hid g
 have HLN := Lib.hid hln
 unfold maxLen at h2
 clear h hf hI g hln
 go_enter Try.func45, Try.ntmps45
 go_wp2
 go_loopw [12] (fun t wr => ∃ u : Nat, u ≤ n ∧ t = .int .i64 (u : Int) ∧ Hid (∀ x, x < u → ∀ v ∈ nx x, pl v ≤ pl x → Dom nx v x) ∧ Below w.heap.size w wr) (fun t _ => n - (intOf t).toNat)
 case atStart => exact ⟨0, by omega, rfl, (fun x hx => by omega), bRefl w⟩
 case round =>
  obtain ⟨u, hu, rfl, hq, hb⟩ := hrel
  by_cases hlt : u < n
  ·have hlt' : (u : Int) < (n : Int) := by omega
   obtain ⟨k, hk⟩ : ∃ k, bs[u]? = some k := ⟨_, List.getElem?_eq_getElem (by rw [HLN.out]; exact hlt)⟩
   have hFw := HF.out.below hp hb
   have hsb := hFw.sb
   rw [HLN.out] at hsb
   obtain ⟨bb, off, rfl, _, hat⟩ := hsb.get hk
   obtain ⟨c0, c1, c2⟩ := at_bk hat
   have e3 : tK.n = 3 := rfl
   rw [e3] at c0 c1 c2
   have hnx := hFw.nb u k hk
   obtain ⟨an, cn, en, hn1, hn2⟩ := hnx.form
   rw [nI_len] at en hn1
   rw [en] at c2 hnx
   unfold maxLen at hn2
   have HNX := Lib.hid hnx
   have HK := Lib.hid (H.out.below hp h4 h5 hb)
   clear hk hFw hsb hat e3 hnx en
   obtain ⟨wo, rfl⟩ : ∃ wo : World, wo = wr := ⟨_, rfl⟩
   have f0w : wo.cell? ⟨p, 0, none⟩ = some (.slice (some ⟨bb, off, none⟩) n cap) := (hb.cell (p := ⟨p, 0, none⟩) hp).trans f0
   have hpo : p < wo.heap.size := by have := hb.size; omega
   have h4o : b4 < wo.heap.size := by have := hb.size; omega
   have h5o : b5 < wo.heap.size := by have := hb.size; omega
   have HF0 := Lib.hid f0w
   clear f0w
   go_wp2
   go_loopw [20] (fun t wr => ∃ j : Nat, j ≤ (nx u).length ∧ t = .int .i64 (j : Int) ∧ Hid (∀ i, i < j → ∀ v, (nx u)[i]? = some v → pl v ≤ pl u → Dom nx v u) ∧ Below wo.heap.size wo wr) (fun t _ => (nx u).length - (intOf t).toNat)
   case atStart => exact ⟨0, by omega, rfl, (fun i hi => by omega), bAl (bRefl wo) _⟩
   case round =>
    obtain ⟨j, hj, rfl, hqj, hbo⟩ := hrel
    have htot := bThen hb hbo
    by_cases hlj : j < (nx u).length
    ·have hlj' : (j : Int) < ((nx u).length : Int) := by omega
     obtain ⟨v, hv⟩ : ∃ v, (nx u)[j]? = some v := ⟨_, List.getElem?_eq_getElem hlj⟩
     have hvm : v ∈ nx u := List.mem_of_getElem? hv
     have hvn := HG.out.nlt u hlt v hvm
     obtain ⟨bv, ov, rfl, _, _, cv⟩ := SlX.int (HNX.out.below hbo) (show (nI (nx u))[j]? = some (v : Int) by unfold nI; rw [List.getElem?_map, hv]; rfl)
     have HKr := Lib.hid (HK.out.below hpo h4o h5o hbo)
     have HF0r := Lib.hid ((hbo.cell (p := ⟨p, 0, none⟩) hpo).trans HF0.out)
     have q4 := HKr.out.f4
     have pv := HKr.out.p4 v hvn
     have pu := HKr.out.p4 u hlt
     simp only at pv pu
     have hvi : (v : Int) < (n : Int) := by omega
     have hv0 : (0 : Int) ≤ (v : Int) := by omega
     have hu0 : (0 : Int) ≤ (u : Int) := by omega
     have HV := Lib.hid hv
     clear hv c0 c1 c2
     by_cases hle : pl v ≤ pl u
     ·have hle' : decide ((pl v : Int) ≤ (pl u : Int)) = true := decide_eq_true (by omega)
      have hle2 : (pl v : Int) ≤ (pl u : Int) := by omega
      go_upto_region 7 with (fail)
      go_quiet ((go_at_call 81; exact Calls.quiet_of (dominates_ok _ p n nx pl d ah HG.out HI.out b4 o4 b5 o5 c4 c5 (HKr.out.drewN _) _ cap HF0r.out (v : Int) (u : Int))))
      have hkey := Lib.hid (domB_iff (nx := nx) hvn hlt)
      cases hd : domB nx n (v : Int) (u : Int) with
      | true =>
       have hD : Dom nx v u := hkey.out.mp hd
       have HD := Lib.hid hD
       clear hD hkey hd
       have hnew : Hid (∀ i, i < j + 1 → ∀ v, (nx u)[i]? = some v → pl v ≤ pl u → Dom nx v u) := fun i hi x hx hl => by
        by_cases e : i < j
        ·exact hqj.out i e x hx hl
        ·obtain rfl : i = j := by omega
         have := HV.out.symm.trans hx
         injection this with this; subst this; exact HD.out
       go_wp2
       go_roundw
       all_goals first
        | exact ⟨j + 1, by omega, by go_num, hnew, bDraw hbo _⟩
        | ((repeat apply Exists.intro); exact ⟨⟨j + 1, by omega, by go_num, hnew, bDraw hbo _⟩, rfl⟩)
        | (simp [intOf]; omega)
      | false =>
       have hnD : ¬ Dom nx v u := fun h => by have := hkey.out.mpr h; rw [hd] at this; cases this
       clear hkey hd
       have HN := Lib.hid hnD
       clear hnD
       go_wp2
       go_ret
       exact ⟨bDraw htot _, Or.inr ⟨rfl, u, v, hlt, hvm, hle, HN.out⟩⟩
     ·have hle' : decide ((pl v : Int) ≤ (pl u : Int)) = false := decide_eq_false (by omega)
      have hle2 : ¬ (pl v : Int) ≤ (pl u : Int) := by omega
      have hnew : Hid (∀ i, i < j + 1 → ∀ v, (nx u)[i]? = some v → pl v ≤ pl u → Dom nx v u) := fun i hi x hx hl => by
       by_cases e : i < j
       ·exact hqj.out i e x hx hl
       ·obtain rfl : i = j := by omega
        have := HV.out.symm.trans hx
        injection this with this; subst this; exact absurd hl hle
      clear hqj
      go_upto_region 7 with (fail)
      go_quiet (fail)
      go_wp2
      go_roundw
      all_goals first
       | exact ⟨j + 1, by omega, by go_num, hnew, bDraw hbo _⟩
       | ((repeat apply Exists.intro); exact ⟨⟨j + 1, by omega, by go_num, hnew, bDraw hbo _⟩, rfl⟩)
       | (simp [intOf]; omega)
    ·obtain rfl : j = (nx u).length := by omega
     have hnew : Hid (∀ x, x < u + 1 → ∀ v ∈ nx x, pl v ≤ pl x → Dom nx v x) := fun x hx v hv hle => by
      by_cases e : x < u
      ·exact hq.out x e v hv hle
      ·obtain rfl : x = u := by omega
       obtain ⟨i, hi, hiv⟩ := List.getElem_of_mem hv
       exact hqj.out i hi v (by rw [List.getElem?_eq_getElem hi, hiv]) hle
     clear hlj hqj hq HNX HK
     go_wp2
     go_roundw
     all_goals first
      | exact ⟨u + 1, by omega, by go_num, hnew, htot⟩
      | ((repeat apply Exists.intro); exact ⟨⟨u + 1, by omega, by go_num, hnew, htot⟩, rfl⟩)
      | (simp [intOf]; omega)
  ·obtain rfl : u = n := by omega
   clear hlt
   go_wp2
   go_ret
   exact ⟨hb, Or.inl ⟨rfl, hq.out⟩⟩
end Go.Proofs.Ytndnfjcfpcfakaa
namespace Go.Proofs.Ytndnfjcfpcfakaa
open Go Go.RowKit Go.Wr Go.Fl Go.Lib Go.Sort
set_option maxHeartbeats 1600000
set_option maxRecDepth 1000000
theorem reverse_arr (blk off cap : Nat) (d : Array Int) (w : World) (hH : Holds encI w blk off d) (hsz : d.size ≤ 9223372036854775807) :
  Calls Try.prog 79 #[.slice (some ⟨blk, off, none⟩) d.size cap] w fun e w' => e = .returned (.tuple #[]) ∧ ∃ n, w' = putRow encI (Sort.ahead w n) blk off d.reverse := by
 have mixed := mix
 go_enter Try.func79, Try.ntmps79
 go_wp2
 go_loopg [2, 3] d.size (fun k s2 s3 wr => ∃ (i jn : Nat) (jz : Int) (dk : Array Int) (n : Nat), s2 = .int .i64 i ∧ s3 = .int .i64 jz ∧ ((i : Int) < jz → jz = jn ∧ jn < d.size) ∧ (¬ (i : Int) < jz → ¬ i < jn) ∧ jn - i ≤ k ∧
  dk.size = d.size ∧ wr = putRow encI (Sort.ahead w n) blk off dk ∧ reverseLoop i jn dk = reverseLoop 0 (d.size - 1) d)
 case atStart => exact ⟨0, d.size - 1, (d.size : Int) - 1, d, 0, rfl, rfl, fun h => ⟨by omega, by omega⟩, fun h => by omega, by omega, rfl, (putRow_self encI w blk off d hH).symm, rfl⟩
 case round =>
  obtain ⟨i, jn, jz, dk, n, rfl, rfl, h1, h2, hk, hds, hwr, heq⟩ := hrel
  by_cases hlt : (i : Int) < jz
  ·obtain ⟨rfl, hjn⟩ := h1 hlt
   have hij : i < jn := by omega
   have hHk : Holds encI wr blk off dk := by rw [hwr]; exact holds_putRow encI _ blk off d dk (holds_ahead encI w n blk off d hH) hds
   obtain ⟨ci, fi⟩ := hHk i (by omega)
   obtain ⟨cj, fj⟩ := hHk jn (by omega)
   have A : Aside (wr = putRow encI (Sort.ahead w n) blk off dk) := hwr
   clear hwr hHk hH h1 h2
   go_wp2_with fail
   go_region_o
   go_wp2
   go_roundg (jn - 1 - (i + 1))
   case measure => omega
   case rel =>
    rw [reverseLoop, if_pos hij] at heq
    exact ⟨i + 1, jn - 1, (jn : Int) - 1, swp dk i jn, n + 1, by simp, rfl, fun h => ⟨by omega, by omega⟩, fun h => by omega, Nat.le_refl _, by rw [size_swp]; exact hds,
     swap_world encI (by omega) (by omega) A.out (by first | rfl | simp [encI, getElem!_pos, show jn < dk.size by omega]) (by first | rfl | simp [encI, getElem!_pos, show i < dk.size by omega]), heq⟩
  ·have hnot := h2 hlt
   go_wp2
   go_end0
   refine ⟨rfl, n, ?_⟩
   rw [reverseLoop, if_neg hnot] at heq
   rw [← Lib.reverseLoop_reverse, ← heq]
theorem reverse_nil (w : World) :
  Calls Try.prog 79 #[.slice none 0 0] w fun e w' => e = .returned (.tuple #[]) ∧ w' = w := by
 have mixed := mix
 go_enter Try.func79, Try.ntmps79
 go_wp2
 go_loopg [2, 3] 0 (fun _ s2 s3 wr => s2 = .int .i64 0 ∧ s3 = .int .i64 (-1) ∧ wr = w)
 case atStart => exact ⟨rfl, rfl, rfl⟩
 case round =>
  obtain ⟨rfl, rfl, rfl⟩ := hrel
  go_wp2
  go_end0
  exact ⟨rfl, rfl⟩
theorem tI_cs (l : List Int) : tI.cs l = l.map encI := by
 unfold RT.cs
 induction l with
 | nil => rfl
 | cons x l ih => rw [List.flatMap_cons, ih]; rfl
theorem reverse_ok (w : World) (B : Nat) (v : Value) (l : List Int) (h : OwR tI B w v l) (hl : l.length ≤ 1048576) :
  Calls Try.prog 79 #[v] w fun e w' => e = .returned (.tuple #[]) ∧ OwR tI B w' v l.reverse ∧ w.grownBy w' v.ownBlock := by
 have h0 : w.ownsRow B 3 1 v l.length (l.map encI) := by rw [← tI_cs]; exact h
 by_cases hv : v = .slice none 0 0
 ·subst hv
  rcases h.form with ⟨_, rfl⟩ | ⟨g, c, e, _⟩
  ·refine (reverse_nil w).mono ?_
   rintro e w' ⟨rfl, rfl⟩
   exact ⟨rfl, h, ⟨rfl, rfl, rfl, Nat.le_refl _, fun _ _ _ => rfl⟩⟩
  ·cases e
 ·obtain ⟨g, cap, rfl, hB, hg, hn, hm, hzl, hH⟩ := holds_of_ownsRow h0 hv
  have hA : Calls Try.prog 79 #[.slice (some ⟨g, 0, none⟩) l.length cap] w fun e w' => e = .returned (.tuple #[]) ∧ ∃ n, w' = putRow encI (Sort.ahead w n) g 0 l.toArray.reverse := by
   have := reverse_arr g 0 cap l.toArray w hH (by simp; omega)
   simpa using this
  refine hA.mono ?_
  rintro e w' ⟨rfl, n, rfl⟩
  refine ⟨rfl, ?_, ?_⟩
  ·have := ownsRow_putRow (q := n) (ys := l.reverse) h0 (by simp) (Nat.le_refl _)
   rw [List.take_of_length_le (by simp), ← tI_cs] at this
   unfold OwR
   rw [List.length_reverse]
   have e : l.reverse.toArray = l.toArray.reverse := by simp
   rw [e] at this
   exact this
  ·exact ⟨rfl, rfl, rfl, by simp [putRow, mapBlock, Sort.ahead], fun k hk hr => by
    have : g ≠ k := fun e => hr (by rw [← e]; rfl)
    simp [putRow, mapBlock, Sort.ahead, Array.getElem?_modify, this]⟩
end Go.Proofs.Ytndnfjcfpcfakaa
