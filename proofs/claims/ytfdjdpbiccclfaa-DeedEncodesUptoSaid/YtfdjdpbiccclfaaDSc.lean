/- The law's SameClaim: what it answers. -/
import Derived.Test.YtfdjdpbiccclfaaDSb
namespace Go.Wr
open Go Go.RowKit
variable {P : Program}
/-- An operation whose guard is met. -/
theorem wpl_gval {ops : Array Oper} {rest : List Oper} {op : Oper} {a : Act} {w : World} {Q : Exit → Act → World → Prop} (hw : Region.wanted op (yielded ops a.tmps) = true) (v : Value) (hrun : (execOp a.eval op).run P w = .ok (.value v) w)
    (h : wpList P ops Q rest (a.put op.dst v) w) : wpList P ops Q (op :: rest) a w := by
  refine wpList_step fun K hK => ?_
  rw [if_pos hw]
  unfold Oper.wp
  rw [hrun]
  exact hK _ _ h
end Go.Wr
namespace Go.Proofs.Ytfdjdpbiccclfaa
open Go Go.RowKit Go.Wr
set_option maxHeartbeats 4000000
set_option maxRecDepth 100000

def sameC (x y : Cl) : Bool := x.d == y.d && (eqTags x.f y.f 0 10 && (eqTags x.f y.f 10 32 && decide (x.l = y.l)))

theorem sameclaim_ok (w : World) (x y : Cl) (v v' : Value) (h : SlC w.heap.size w v x.l) (h' : SlC w.heap.size w v' y.l) (hl : x.l.length ≤ 140737488351232) :
    Calls Try.prog 44 #[.agg (bx (.bool x.d) x.f v), .agg (bx (.bool y.d) y.f v')] w fun e w' => e = .returned (.bool (sameC x y)) ∧ Below w.heap.size w w' := by
  obtain ⟨d, f, l⟩ := x
  obtain ⟨d', f', l'⟩ := y
  simp only at h h' hl
  have H := Lib.hid h
  have H' := Lib.hid h'
  clear h h'
  obtain ⟨t, ht⟩ : ∃ t, t = sameC ⟨d, f, l⟩ ⟨d', f', l'⟩ := ⟨_, rfl⟩
  rw [← ht]
  unfold sameC at ht
  simp only at ht
  have HT := Lib.hid ht
  clear ht
  go_enter Try.func44, Try.ntmps44
  go_upto_region 1 with (fail)
  generalize hW : ((w.alloc (.cells (bx (.bool d) f v) 61)).alloc (.cells (bx (.bool d') f' v') 61)) = W
  have tW : Below w.heap.size w W := by rw [← hW]; exact bAl (bAl (bRefl w) _) _
  have QB : Blk W w.heap.size 61 (bx (.bool d) f v) := by rw [← hW]; exact Blk.alloc (Blk.new _ _ _) _
  have ZB : Blk W (w.heap.size + 1) 61 (bx (.bool d') f' v') := by rw [← hW]; exact Blk.new_at _ _ (by simp)
  have c0 := (QB.cell 0).trans (bx_zero _ _ _)
  have c9 := (QB.cell 127).trans (bx_last _ _ _)
  have k0 := (ZB.cell 0).trans (bx_zero _ _ _)
  have k9 := (ZB.cell 127).trans (bx_last _ _ _)
  have HQ := Lib.hid QB
  have HZ := Lib.hid ZB
  have HS := Lib.hid (H.out.below tW)
  have HS' := Lib.hid (H'.out.below tW)
  clear hW QB ZB H H'
  by_cases hd : d = d'
  · subst hd
    have hdd : (d == d) = true := by simp
    obtain ⟨b1, hb1⟩ : ∃ b, b = eqTags f f' 0 10 := ⟨_, rfl⟩
    obtain ⟨b2, hb2⟩ : ∃ b, b = eqTags f f' 10 32 := ⟨_, rfl⟩
    have kr : ∀ w, (Op.equalIn 10000 57 (.agg (gr f)) (.agg (gr f'))).run Try.prog w = .ok b1 w := fun w => hb1 ▸ run_eq_regs w f f'
    have ks : ∀ w, (Op.equalIn 10000 58 (.agg (gs f)) (.agg (gs f'))).run Try.prog w = .ok b2 w := fun w => hb2 ▸ run_eq_stk w f f'
    have HT2 : Hid (t = (b1 && (b2 && decide (l = l')))) := by show _ = _; rw [HT.out, hdd, ← hb1, ← hb2]; rfl
    have KR := Lib.hid kr
    have KS := Lib.hid ks
    clear kr ks hb1 hb2 HT
    cases b1 with
    | false =>
      have e1 : Hid (t = false) := HT2.out
      go_wp2_with (first
        | (refine wpl_gval (by rfl) (.agg (gr f)) (exec_load 57 (.tmp 11) rfl w.heap.size 1 rfl HQ.out rowRegs (by rw [bx_size]; omega) (bx_regs _ _ _)) ?_)
        | (refine wpl_gval (by rfl) (.agg (gr f')) (exec_load 57 (.tmp 13) rfl (w.heap.size + 1) 1 rfl HZ.out rowRegs (by rw [bx_size]; omega) (bx_regs _ _ _)) ?_)
        | (refine wpl_gval (by rfl) (.bool false) (exec_eql 57 (.tmp 12) (.tmp 14) 57 rfl rfl rfl guardR (KR.out _)) ?_))
      go_ret
      exact ⟨by rw [e1.out]; rfl, tW⟩
    | true =>
      cases b2 with
      | false =>
        have e1 : Hid (t = false) := HT2.out
        go_wp2_with (first
          | (refine wpl_gval (by rfl) (.agg (gr f)) (exec_load 57 (.tmp 11) rfl w.heap.size 1 rfl HQ.out rowRegs (by rw [bx_size]; omega) (bx_regs _ _ _)) ?_)
          | (refine wpl_gval (by rfl) (.agg (gr f')) (exec_load 57 (.tmp 13) rfl (w.heap.size + 1) 1 rfl HZ.out rowRegs (by rw [bx_size]; omega) (bx_regs _ _ _)) ?_)
          | (refine wpl_gval (by rfl) (.bool true) (exec_eql 57 (.tmp 12) (.tmp 14) 57 rfl rfl rfl guardR (KR.out _)) ?_)
          | (refine wpl_gval (by rfl) (.agg (gs f)) (exec_load 58 (.tmp 18) rfl w.heap.size 31 rfl HQ.out rowStk (by rw [bx_size]; omega) (bx_slots _ _ _)) ?_)
          | (refine wpl_gval (by rfl) (.agg (gs f')) (exec_load 58 (.tmp 20) rfl (w.heap.size + 1) 31 rfl HZ.out rowStk (by rw [bx_size]; omega) (bx_slots _ _ _)) ?_)
          | (refine wpl_gval (by rfl) (.bool false) (exec_eql 58 (.tmp 19) (.tmp 21) 58 rfl rfl rfl guardS (KS.out _)) ?_))
        go_ret
        exact ⟨by rw [e1.out]; rfl, tW⟩
      | true =>
        have e1 : Hid (t = decide (l = l')) := by show _ = _; rw [HT2.out, Bool.true_and, Bool.true_and]
        have hWs := tW.size
        go_wp2_with (first
          | (refine wpl_gval (by rfl) (.agg (gr f)) (exec_load 57 (.tmp 11) rfl w.heap.size 1 rfl HQ.out rowRegs (by rw [bx_size]; omega) (bx_regs _ _ _)) ?_)
          | (refine wpl_gval (by rfl) (.agg (gr f')) (exec_load 57 (.tmp 13) rfl (w.heap.size + 1) 1 rfl HZ.out rowRegs (by rw [bx_size]; omega) (bx_regs _ _ _)) ?_)
          | (refine wpl_gval (by rfl) (.bool true) (exec_eql 57 (.tmp 12) (.tmp 14) 57 rfl rfl rfl guardR (KR.out _)) ?_)
          | (refine wpl_gval (by rfl) (.agg (gs f)) (exec_load 58 (.tmp 18) rfl w.heap.size 31 rfl HQ.out rowStk (by rw [bx_size]; omega) (bx_slots _ _ _)) ?_)
          | (refine wpl_gval (by rfl) (.agg (gs f')) (exec_load 58 (.tmp 20) rfl (w.heap.size + 1) 31 rfl HZ.out rowStk (by rw [bx_size]; omega) (bx_slots _ _ _)) ?_)
          | (refine wpl_gval (by rfl) (.bool true) (exec_eql 58 (.tmp 19) (.tmp 21) 58 rfl rfl rfl guardS (KS.out _)) ?_)
          | fail)
        refine (samecons_ok W v v' l l' (HS.out.mono hWs) (HS'.out.mono hWs) hl).mono ?_
        rintro e w2 ⟨rfl, b2⟩
        rw [← e1.out]
        have t2 := bThen tW b2
        go_wp2
        go_ret
        exact ⟨rfl, t2⟩
  · have hdd : (d == d') = false := by simp [hd]
    have e1 : Hid (t = false) := by show _ = _; rw [HT.out, hdd]; rfl
    clear hd
    go_wp2
    go_ret
    exact ⟨by rw [e1.out]; rfl, tW⟩
end Go.Proofs.Ytfdjdpbiccclfaa
