/- The document's check of one instruction against a row. -/
import Derived.Test.YtpiiefdaaijgbaaFCn
import Derived.Test.YtpiiefdaaijgbaaFTy
namespace Go.Proofs.Ytpiiefdaaijgbaa
open Go Go.RowKit Go.Wr Go.Fl
set_option maxHeartbeats 4000000
set_option maxRecDepth 100000

theorem fetches_ok (w : World) (imm : Int) : Calls Try.prog 131 #[.int .i64 imm] w fun e w' => e = .returned (.bool (wrS5 imm)) ∧ w' = w := by
  unfold wrS5
  by_cases h1 : imm = 1
  · subst h1
    go_enter Try.func131, Try.ntmps131
    go_wp2
    go_ret
    exact ⟨rfl, rfl⟩
  · have n1 : (imm == 1) = false := by simpa using h1
    by_cases h2 : imm = 65
    · subst h2
      go_enter Try.func131, Try.ntmps131
      go_wp2
      go_ret
      exact ⟨rfl, rfl⟩
    · have n2 : (imm == 65) = false := by simpa using h2
      by_cases h3 : imm = 81
      · subst h3
        go_enter Try.func131, Try.ntmps131
        go_wp2
        go_ret
        exact ⟨rfl, rfl⟩
      · have n3 : (imm == 81) = false := by simpa using h3
        by_cases h4 : imm = 161
        · subst h4
          go_enter Try.func131, Try.ntmps131
          go_wp2
          go_ret
          exact ⟨rfl, rfl⟩
        · have n4 : (imm == 161) = false := by simpa using h4
          go_enter Try.func131, Try.ntmps131
          go_wp2
          go_ret
          exact ⟨retB (by simp [n1, n2, n3, n4]), rfl⟩
theorem atom_ok (w : World) (imm : Int) : Calls Try.prog 132 #[.int .i64 imm] w fun e w' => e = .returned (.bool (wrS5 imm || (imm == 0 || imm == 64 || imm == 80 || imm == 160 || imm == 241))) ∧ w' = w := by
  obtain ⟨q, hq⟩ : ∃ q, q = wrS5 imm := ⟨_, rfl⟩
  rw [← hq]
  have HQ := Lib.hid hq
  clear hq
  go_enter Try.func132, Try.ntmps132
  go_wp2_with fail
  refine (fetches_ok _ imm).mono ?_
  rintro e w1 ⟨rfl, rfl⟩
  rw [← HQ.out]
  clear HQ
  cases q with
  | true =>
    go_wp2
    go_ret
    exact ⟨rfl, rfl⟩
  | false =>
    by_cases h1 : imm = 0
    · subst h1
      go_wp2
      go_ret
      exact ⟨rfl, rfl⟩
    · have n1 : (imm == 0) = false := by simpa using h1
      by_cases h2 : imm = 64
      · subst h2
        go_wp2
        go_ret
        exact ⟨rfl, rfl⟩
      · have n2 : (imm == 64) = false := by simpa using h2
        by_cases h3 : imm = 80
        · subst h3
          go_wp2
          go_ret
          exact ⟨rfl, rfl⟩
        · have n3 : (imm == 80) = false := by simpa using h3
          by_cases h4 : imm = 160
          · subst h4
            go_wp2
            go_ret
            exact ⟨rfl, rfl⟩
          · have n4 : (imm == 160) = false := by simpa using h4
            go_wp2
            go_ret
            exact ⟨retB (by simp [n1, n2, n3, n4]), rfl⟩
def rwa (y : Rw) : Array Value := #[.int .i64 y.code, .int .i64 y.op, .int .i64 y.sz, .bool y.nar, .bool y.reg, .int .i64 y.dst, .int .i64 y.src, .int .i64 y.off, .int .i64 y.imm, .int .i64 y.second, .bool y.wr]
theorem good_ok (w : World) (y : Rw) (imm : Int) : Calls Try.prog 127 #[.agg (rwa y), .int .i64 imm] w fun e w' => e = .returned (.bool (goodR y imm)) ∧ Below w.heap.size w w' := by
  obtain ⟨code, op, sz, nar, reg, dst, src, off, im, second, wr⟩ := y
  obtain ⟨R, hR⟩ : ∃ R, R = goodR ⟨code, op, sz, nar, reg, dst, src, off, im, second, wr⟩ imm := ⟨_, rfl⟩
  rw [← hR]
  unfold goodR at hR
  simp only at hR
  have HR := Lib.hid hR
  clear hR
  unfold rwa
  go_enter Try.func127, Try.ntmps127
  by_cases h1 : op = 20
  · have e1 : Hid (R = true) := by show _ = _; rw [HR.out, if_pos h1]
    subst h1
    clear HR
    go_wp2
    go_ret
    exact ⟨retB e1.out.symm, bAl (bRefl w) _⟩
  · have HR1 := Lib.hid (HR.out.trans (if_neg h1))
    have p1 : (op == 20) = false := by simpa using h1
    clear HR h1
    by_cases h2 : imm < -2147483648 ∨ 2147483647 < imm
    · have e1 : Hid (R = false) := by show _ = _; rw [HR1.out, if_pos h2]
      clear HR1
      by_cases h3 : imm < -2147483648
      · go_wp2
        go_ret
        exact ⟨retB e1.out.symm, bAl (bRefl w) _⟩
      · have h4 : 2147483647 < imm := by omega
        have h3' : -2147483648 ≤ imm := by omega
        clear h2
        go_wp2
        go_ret
        exact ⟨retB e1.out.symm, bAl (bRefl w) _⟩
    · have HR2 := Lib.hid (HR1.out.trans (if_neg h2))
      have h3 : -2147483648 ≤ imm := by omega
      have h4 : imm ≤ 2147483647 := by omega
      clear HR1 h2
      by_cases h5 : op = 4 ∨ op = 5 ∨ op = 6 ∨ op = 7
      · have e1 : Hid (R = (imm != 0)) := by show _ = _; rw [HR2.out, if_pos h5]
        clear HR2
        rcases h5 with h5 | h5 | h5 | h5
        all_goals
          subst h5
          go_wp2
          go_ret
          exact ⟨retB e1.out.symm, bAl (bRefl w) _⟩
      · have HR3 := Lib.hid (HR2.out.trans (if_neg h5))
        have a4 : (op == 4) = false := by simp; omega
        have a5 : (op == 5) = false := by simp; omega
        have a6 : (op == 6) = false := by simp; omega
        have a7 : (op == 7) = false := by simp; omega
        clear HR2 h5
        by_cases h6 : op = 11 ∨ op = 12 ∨ op = 13
        · have e1 : Hid (R = ((decide (0 ≤ imm) && decide (imm < 32)) || (decide (0 ≤ imm) && decide (imm < 64) && !nar))) := by show _ = _; rw [HR3.out, if_pos h6]
          clear HR3
          have fin : ∀ b : Bool, ((decide (0 ≤ imm) && decide (imm < 32)) || (decide (0 ≤ imm) && decide (imm < 64) && !nar)) = b → Hid (R = b) := fun b hb => by show _ = _; rw [e1.out, hb]
          by_cases g1 : 0 ≤ imm
          · by_cases g2 : imm < 32
            · have f1 := fin true (by simp [g1, g2])
              clear fin e1
              rcases h6 with h6 | h6 | h6
              all_goals
                subst h6
                go_wp2
                go_ret
                exact ⟨retB f1.out.symm, bAl (bRefl w) _⟩
            · have g2' : 32 ≤ imm := by omega
              by_cases g3 : imm < 64
              · have f1 := fin (decide (imm < 32) || !nar) (by simp [g1, g2, g3])
                clear fin e1 g2
                rcases h6 with h6 | h6 | h6
                all_goals
                  subst h6
                  go_wp2
                  go_ret
                  exact ⟨retB f1.out.symm, bAl (bRefl w) _⟩
              · have f1 := fin (decide (imm < 32)) (by simp [g2, g3])
                have g3' : 64 ≤ imm := by omega
                clear fin e1 g2 g3
                rcases h6 with h6 | h6 | h6
                all_goals
                  subst h6
                  go_wp2
                  go_ret
                  exact ⟨retB f1.out.symm, bAl (bRefl w) _⟩
          · have f1 := fin false (by simp [g1])
            have g1' : imm < 0 := by omega
            clear fin e1 g1
            rcases h6 with h6 | h6 | h6
            all_goals
              subst h6
              go_wp2
              go_ret
              exact ⟨retB f1.out.symm, bAl (bRefl w) _⟩
        · have HR4 := Lib.hid (HR3.out.trans (if_neg h6))
          have b1 : (op == 11) = false := by simp; omega
          have b2 : (op == 12) = false := by simp; omega
          have b3 : (op == 13) = false := by simp; omega
          clear HR3 h6
          by_cases h7 : op = 25
          · have e1 : Hid (R = (wrS5 imm || (imm == 0 || imm == 64 || imm == 80 || imm == 160 || imm == 241))) := by show _ = _; rw [HR4.out, if_pos h7]
            clear HR4
            subst h7
            go_wp2_with (go_at_call 132; refine (atom_ok _ _).mono ?_; rintro e w1 ⟨rfl, rfl⟩; rw [← e1.out])
            go_ret
            exact ⟨rfl, bAl (bRefl w) _⟩
          · have HR5 := Lib.hid (HR4.out.trans (if_neg h7))
            have b4 : (op == 25) = false := by simpa using h7
            clear HR4 h7
            by_cases h8 : op = 21
            · have e1 : Hid (R = decide (0 ≤ imm)) := by show _ = _; rw [HR5.out, if_pos h8]
              clear HR5
              subst h8
              go_wp2
              go_ret
              exact ⟨retB e1.out.symm, bAl (bRefl w) _⟩
            · have e1 : Hid (R = true) := by show _ = _; rw [HR5.out, if_neg h8]
              have b5 : (op == 21) = false := by simpa using h8
              clear HR5 h8
              go_wp2
              go_ret
              exact ⟨retB e1.out.symm, bAl (bRefl w) _⟩
def reg1 (c dst : Int) (wr : Bool) : Bool := c == -1 && (decide (dst < 0) || decide (10 < dst) || (dst == 10 && wr))
def reg2 (c src op imm : Int) : Bool := c == -1 && (decide (src < 0) || decide (10 < src) || (src == 10 && op == 25 && wrS5 imm))
theorem regsR_eq (y : Rw) (dst src imm : Int) : regsR y dst src imm = (!(reg1 y.dst dst y.wr) && !(reg2 y.src src y.op imm)) := by
  unfold regsR reg1 reg2
  by_cases h1 : y.dst = -1 ∧ (dst < 0 ∨ 10 < dst ∨ (dst = 10 ∧ y.wr = true))
  · rw [if_pos h1]
    have : (y.dst == -1 && (decide (dst < 0) || decide (10 < dst) || (dst == 10 && y.wr))) = true := by simp; grind
    rw [this]; rfl
  · rw [if_neg h1]
    have : (y.dst == -1 && (decide (dst < 0) || decide (10 < dst) || (dst == 10 && y.wr))) = false := by simp; grind
    rw [this]
    by_cases h2 : y.src = -1 ∧ (src < 0 ∨ 10 < src ∨ (src = 10 ∧ y.op = 25 ∧ wrS5 imm = true))
    · rw [if_pos h2]
      have : (y.src == -1 && (decide (src < 0) || decide (10 < src) || (src == 10 && y.op == 25 && wrS5 imm))) = true := by simp; grind
      rw [this]; rfl
    · rw [if_neg h2]
      have : (y.src == -1 && (decide (src < 0) || decide (10 < src) || (src == 10 && y.op == 25 && wrS5 imm))) = false := by simp; grind
      rw [this]; rfl
theorem regs_ok (w : World) (y : Rw) (dst src imm : Int) : Calls Try.prog 126 #[.agg (rwa y), .int .i64 dst, .int .i64 src, .int .i64 imm] w fun e w' => e = .returned (.bool (regsR y dst src imm)) ∧ Below w.heap.size w w' := by
  rw [regsR_eq]
  obtain ⟨code, op, sz, nar, reg, cd, cs, off, im, second, wr⟩ := y
  simp only
  obtain ⟨q1, hq1⟩ : ∃ q, q = reg1 cd dst wr := ⟨_, rfl⟩
  obtain ⟨q2, hq2⟩ : ∃ q, q = reg2 cs src op imm := ⟨_, rfl⟩
  rw [← hq1, ← hq2]
  unfold reg1 at hq1
  unfold reg2 at hq2
  obtain ⟨q3, hq3⟩ : ∃ q, q = wrS5 imm := ⟨_, rfl⟩
  rw [← hq3] at hq2
  have HQ1 := Lib.hid hq1
  have HQ2 := Lib.hid hq2
  have HQ3 := Lib.hid hq3
  clear hq1 hq2 hq3
  unfold rwa
  go_enter Try.func126, Try.ntmps126
  go_upto_region 1 with (fail)
  generalize hW : w.alloc _ = W
  have c5 : W.cell? ⟨w.heap.size, 5, none⟩ = some (.int .i64 cd) := by rw [← hW]; exact (Blk.new _ _ _).cell 5
  have c6 : W.cell? ⟨w.heap.size, 6, none⟩ = some (.int .i64 cs) := by rw [← hW]; exact (Blk.new _ _ _).cell 6
  have c1 : W.cell? ⟨w.heap.size, 1, none⟩ = some (.int .i64 op) := by rw [← hW]; exact (Blk.new _ _ _).cell 1
  have ca : W.cell? ⟨w.heap.size, 10, none⟩ = some (.bool wr) := by rw [← hW]; exact (Blk.new _ _ _).cell 10
  have bW : Below w.heap.size w W := by rw [← hW]; exact bAl (bRefl w) _
  clear hW
  go_cut [27] (fun t wc => t = .bool q1 ∧ W = wc)
  case first =>
    have fin : ∀ b : Bool, (cd == -1 && (decide (dst < 0) || decide (10 < dst) || (dst == 10 && wr))) = b → Hid (q1 = b) := fun b hb => by show _ = _; rw [HQ1.out, hb]
    clear HQ1 HQ2 HQ3
    by_cases k1 : cd = -1
    · subst k1
      by_cases k2 : dst < 0
      · have f1 := fin true (by simp [k2])
        clear fin
        go_wp2
        go_meet
        exact ⟨by rw [f1.out], rfl⟩
      · have k2' : 0 ≤ dst := by omega
        by_cases k3 : 10 < dst
        · have f1 := fin true (by simp [k3])
          clear fin k2
          go_wp2
          go_meet
          exact ⟨by rw [f1.out], rfl⟩
        · have k3' : dst ≤ 10 := by omega
          by_cases k4 : dst = 10
          · subst k4
            have f1 := fin wr (by simp)
            clear fin k2 k3
            go_wp2
            go_meet
            exact ⟨by rw [f1.out], rfl⟩
          · have k4' : (dst == 10) = false := by simpa using k4
            have f1 := fin (decide (dst < 0) || decide (10 < dst)) (by simp [k4])
            clear fin k2 k3 k4
            go_wp2
            go_meet
            exact ⟨by rw [f1.out], rfl⟩
    · have k1' : (cd == -1) = false := by simpa using k1
      have f1 := fin false (by simp [k1])
      clear fin k1
      go_wp2
      go_meet
      exact ⟨by rw [f1.out], rfl⟩
  case rest =>
    obtain ⟨rfl, rfl⟩ := hcut
    clear HQ1
    cases q1 with
    | true =>
      go_wp2
      go_ret
      exact ⟨rfl, bW⟩
    | false =>
      go_upto_region 3 with (fail)
      go_cut [51] (fun t wc => t = .bool q2 ∧ W = wc)
      case first =>
        have fin : ∀ b : Bool, (cs == -1 && (decide (src < 0) || decide (10 < src) || (src == 10 && op == 25 && q3))) = b → Hid (q2 = b) := fun b hb => by show _ = _; rw [HQ2.out, hb]
        clear HQ2
        by_cases k1 : cs = -1
        · subst k1
          by_cases k2 : src < 0
          · have f1 := fin true (by simp [k2])
            clear fin
            go_wp2
            go_meet
            exact ⟨by rw [f1.out], rfl⟩
          · have k2' : 0 ≤ src := by omega
            by_cases k3 : 10 < src
            · have f1 := fin true (by simp [k3])
              clear fin k2
              go_wp2
              go_meet
              exact ⟨by rw [f1.out], rfl⟩
            · have k3' : src ≤ 10 := by omega
              by_cases k4 : src = 10
              · subst k4
                by_cases k5 : op = 25
                · subst k5
                  have f1 := fin q3 (by simp)
                  clear fin k2 k3
                  go_wp2_with (go_at_call 131; refine (fetches_ok _ _).mono ?_; rintro e w1 ⟨rfl, rfl⟩; rw [← HQ3.out])
                  go_meet
                  exact ⟨by rw [f1.out], rfl⟩
                · have k5' : (op == 25) = false := by simpa using k5
                  have f1 := fin false (by simp [k5])
                  clear fin k2 k3 k5
                  go_wp2
                  go_meet
                  exact ⟨by rw [f1.out], rfl⟩
              · have k4' : (src == 10) = false := by simpa using k4
                have f1 := fin (decide (src < 0) || decide (10 < src)) (by simp [k4])
                clear fin k2 k3 k4
                go_wp2
                go_meet
                exact ⟨by rw [f1.out], rfl⟩
        · have k1' : (cs == -1) = false := by simpa using k1
          have f1 := fin false (by simp [k1])
          clear fin k1
          go_wp2
          go_meet
          exact ⟨by rw [f1.out], rfl⟩
      case rest =>
        obtain ⟨rfl, rfl⟩ := hcut
        cases q2
        all_goals
          go_wp2
          go_ret
          exact ⟨rfl, bW⟩
end Go.Proofs.Ytpiiefdaaijgbaa
