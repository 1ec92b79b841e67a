/- goodClaim of deed: what it answers. -/
import Derived.Test.YtfdjdpbiccclfaaDEq
import Derived.Test.YtfdjdpbiccclfaaDLaws
namespace Go.Proofs.Ytfdjdpbiccclfaa
open Go Go.RowKit Go.Wr
set_option maxHeartbeats 4000000
set_option maxRecDepth 100000

def tagsOk (f : Nat → Tg) (masked : Int) (o n : Nat) : Bool := (List.range n).all fun i => goodTag (f (o + i)) masked
theorem tagsOk_succ {f : Nat → Tg} {masked : Int} {o n : Nat} : tagsOk f masked o (n + 1) = (tagsOk f masked o n && goodTag (f (o + n)) masked) := by
  simp [tagsOk, List.range_succ]
theorem tagsOk_false {f : Nat → Tg} {masked : Int} {o n k : Nat} (h : k < n) (hk : goodTag (f (o + k)) masked = false) : tagsOk f masked o n = false := by
  rw [Bool.eq_false_iff]
  intro e
  simp only [tagsOk, List.all_eq_true, List.mem_range] at e
  rw [e k h] at hk
  cases hk
def goC : Option C3 → List C3 → Int
  | _, [] => 0
  | p, x :: l => if goodCon x = false then 91 else if (match p with | some y => !rises y x | none => false) = true then 111 else goC (some x) l
def goodClaim (d : Bool) (f : Nat → Tg) (l : List C3) : Int :=
  if d = true then (if (eqTags f f0 0 10 && (eqTags f f0 10 32 && decide (l.length = 0))) = true then 0 else 93) else if tagsOk f 0 0 10 = false then 90 else if tagsOk f 255 10 32 = false then 90 else goC none l
theorem guardR : Try.prog.eqGuardType Try.prog.depth 57 = false := by kernel_rfl
theorem guardS : Try.prog.eqGuardType Try.prog.depth 58 = false := by kernel_rfl

theorem goodclaim_dead (w : World) (f : Nat → Tg) (v : Value) (l : List C3) (hv : SlC w.heap.size w v l) :
    Calls Try.prog 48 #[.agg (bx (.bool true) f v)] w fun e w' => e = .returned (.int .i64 (goodClaim true f l)) ∧ Below w.heap.size w w' := by
  obtain ⟨R, hR⟩ : ∃ R, R = goodClaim true f l := ⟨_, rfl⟩
  rw [← hR]
  have HR := Lib.hid hR
  obtain ⟨a0, cap, rfl, _⟩ := hv
  have hz := zeroClaim
  clear hR
  go_enter Try.func48, Try.ntmps48
  go_upto_region 2 with (fail)
  generalize hW : ((w.alloc (.cells (bx (.bool true) f (.slice a0 l.length cap)) 61)).alloc (.cells (bx (.bool false) f0 (.slice none 0 0)) 61)) = W
  have tW : Below w.heap.size w W := by rw [← hW]; exact bAl (bAl (bRefl w) _) _
  have QB : Blk W w.heap.size 61 (bx (.bool true) f (.slice a0 l.length cap)) := by rw [← hW]; exact Blk.alloc (Blk.new _ _ _) _
  have ZB : Blk W (w.heap.size + 1) 61 (bx (.bool false) f0 (.slice none 0 0)) := by rw [← hW]; exact Blk.new_at _ _ (by simp)
  have c0 := (QB.cell 0).trans (bx_zero _ _ _)
  have c9 := (QB.cell 127).trans (bx_last _ _ _)
  have HQ := Lib.hid QB
  have HZ := Lib.hid ZB
  clear hW QB ZB hz
  go_wp2_with (first
    | (refine wpl_load rfl 57 (.tmp 12) rfl w.heap.size 1 rfl HQ.out rowRegs (by rw [bx_size]; omega) (D := gr f) (bx_regs _ _ _) ?_)
    | (refine wpl_load rfl 57 (.tmp 14) rfl (w.heap.size + 1) 1 rfl HZ.out rowRegs (by rw [bx_size]; omega) (D := gr f0) (bx_regs _ _ _) ?_)
    | (refine wpl_val rfl (.bool (!eqTags f f0 0 10)) (exec_neq 57 (.tmp 13) (.tmp 15) 57 rfl rfl rfl guardR (run_eq_regs _ _ _)) ?_))
  · have HE := Lib.hid (show eqTags f f0 0 10 = true by assumption)
    refine wpo_val (.agg (gs f)) (exec_load 58 (.tmp 18) rfl w.heap.size 31 rfl HQ.out rowStk (by rw [bx_size]; omega) (bx_slots _ _ _)) ?_
    go_wp2_with fail
    refine wpo_val (.agg (gs f0)) (exec_load 58 (.tmp 20) rfl (w.heap.size + 1) 31 rfl HZ.out rowStk (by rw [bx_size]; omega) (bx_slots _ _ _)) ?_
    go_wp2_with fail
    rw [run_eq_stk]
    simp only [Result.andThen_ok]
    unfold Oper.upon
    try dsimp only
    cases hE2 : eqTags f f0 10 32 with
    | false =>
      go_wp2
      go_ret
      exact ⟨by rw [HR.out]; simp [goodClaim, HE.out, hE2], tW⟩
    | true =>
      by_cases hl : l.length = 0
      · go_wp2
        go_ret
        exact ⟨by rw [HR.out]; simp [goodClaim, HE.out, hE2, hl], tW⟩
      · have hl' : (0 : Int) < (l.length : Int) := by omega
        go_wp2
        go_ret
        exact ⟨by rw [HR.out]; simp only [goodClaim, HE.out, hE2, hl, decide_false, Bool.and_false, if_true]; rfl, tW⟩
  · have hE : eqTags f f0 0 10 = false := by simpa using (show ¬ eqTags f f0 0 10 = true by assumption)
    go_ret
    exact ⟨by rw [HR.out]; simp [goodClaim, hE], tW⟩
end Go.Proofs.Ytfdjdpbiccclfaa
