/- The program's check of one instruction: what each of its functions answers. -/
import Derived.Test.YtpiiefdaaijgbaaProg
import Derived.Test.YtpiiefdaaijgbaaLaws
import Derived.Test.YtpiiefdaaijgbaaFPl
namespace Go.Proofs.Ytpiiefdaaijgbaa
open Go Go.RowKit Go.Wr Go.Fl
set_option maxHeartbeats 2000000
set_option maxRecDepth 100000

/-- An instruction as a value. -/
def inv (x : In) : Array Value := #[.int .i64 x.op, .bool x.nar, .bool x.reg, .int .i64 x.sz, .int .i64 x.dst, .int .i64 x.src, .int .i64 x.off, .int .i64 x.imm]
theorem retB {a b : Bool} (h : a = b) : Ending.returned (.bool a) = .returned (.bool b) := by rw [h]
theorem wrD_ok (w : World) (op : Int) : Calls Try.prog 119 #[.int .i64 op] w fun e w' => e = .returned (.bool (wrD op)) ∧ w' = w := by
  unfold wrD bw
  by_cases h1 : 1 ≤ op
  · by_cases h2 : op ≤ 23
    · go_enter Try.func119, Try.ntmps119
      go_wp2
      go_ret
      exact ⟨retB (by simp [h1, h2]), rfl⟩
    · have h2' : 23 < op := by omega
      go_enter Try.func119, Try.ntmps119
      go_wp2
      go_ret
      exact ⟨retB (by simp; omega), rfl⟩
  · have h1' : op < 1 := by omega
    go_enter Try.func119, Try.ntmps119
    go_wp2
    go_ret
    exact ⟨retB (by simp; omega), rfl⟩
theorem isReg_ok (w : World) (n : Int) (b : Bool) : Calls Try.prog 118 #[.int .i64 n, .bool b] w fun e w' => e = .returned (.bool (isReg n b)) ∧ w' = w := by
  unfold isReg
  by_cases h1 : 0 ≤ n
  · by_cases h2 : n ≤ 10
    · cases b with
      | true =>
        go_enter Try.func118, Try.ntmps118
        go_wp2
        go_ret
        exact ⟨retB (by simp [h1, h2]), rfl⟩
      | false =>
        go_enter Try.func118, Try.ntmps118
        go_wp2
        go_ret
        exact ⟨retB (by simp [h1, h2]), rfl⟩
    · have h2' : 10 < n := by omega
      go_enter Try.func118, Try.ntmps118
      go_wp2
      go_ret
      exact ⟨retB (by simp; omega), rfl⟩
  · have h1' : n < 0 := by omega
    go_enter Try.func118, Try.ntmps118
    go_wp2
    go_ret
    exact ⟨retB (by simp; omega), rfl⟩
theorem wrS_ok (w : World) (op imm : Int) : Calls Try.prog 120 #[.int .i64 op, .int .i64 imm] w fun e w' => e = .returned (.bool (wrS op imm)) ∧ w' = w := by
  unfold wrS wrS5
  by_cases h1 : op = 25
  · subst h1
    go_enter Try.func120, Try.ntmps120
    go_wp2
    all_goals
      go_ret
      exact ⟨retB (by simp_all), rfl⟩
  · have h1' : (op != 25) = true := by simpa using h1
    go_enter Try.func120, Try.ntmps120
    go_wp2
    go_ret
    exact ⟨retB (by simp [h1]), rfl⟩
theorem atm_ok (w : World) (imm : Int) : Calls Try.prog 130 #[.int .i64 imm] w fun e w' => e = .returned (.bool (atm imm)) ∧ w' = w := by
  unfold atm
  go_enter Try.func130, Try.ntmps130
  go_wp2_with (go_at_call 120; refine (wrS_ok _ _ _).mono ?_; rintro e w1 ⟨rfl, rfl⟩)
  all_goals
    go_ret
    exact ⟨retB (by simp_all), rfl⟩
theorem snd2_ok (w : World) (op : Int) : Calls Try.prog 129 #[.int .i64 op] w fun e w' => e = .returned (.bool (snd2 op)) ∧ w' = w := by
  unfold snd2 bw
  go_enter Try.func129, Try.ntmps129
  by_cases h1 : 1 ≤ op
  · by_cases h2 : op ≤ 15
    · by_cases h3 : op = 14
      · subst h3
        go_wp2
        go_ret
        exact ⟨retB (by simp), rfl⟩
      · have h3' : (op != 14) = true := by simpa using h3
        go_wp2
        go_ret
        exact ⟨retB (by simp [h1, h2, h3]), rfl⟩
    · have h2' : 15 < op := by omega
      by_cases h4 : op = 24
      · subst h4
        go_wp2
        go_ret
        exact ⟨retB (by simp), rfl⟩
      · have h4' : (op == 24) = false := by simpa using h4
        by_cases h5 : 27 ≤ op
        · go_wp2
          go_ret
          exact ⟨retB (by simp; omega), rfl⟩
        · have h5' : op < 27 := by omega
          go_wp2
          go_ret
          exact ⟨retB (by simp; omega), rfl⟩
  · have h1' : op < 1 := by omega
    have h4' : (op == 24) = false := by simp; omega
    have h5' : op < 27 := by omega
    go_wp2
    go_ret
    exact ⟨retB (by simp; omega), rfl⟩
end Go.Proofs.Ytpiiefdaaijgbaa
