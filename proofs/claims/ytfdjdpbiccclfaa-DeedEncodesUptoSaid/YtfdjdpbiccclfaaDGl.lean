/- goodClaim of deed, of a claim that is not dead: what it answers. -/
import Derived.Test.YtfdjdpbiccclfaaDGc
import Derived.BigQuiet
import Derived.Deep.QuietTactic
namespace Go.Proofs.Ytfdjdpbiccclfaa
open Go Go.RowKit Go.Wr
set_option maxHeartbeats 4000000
set_option maxRecDepth 100000

theorem mix : Try.prog.follows .mixedOrders = true := by kernel_rfl
theorem goodclaim_live (w : World) (f : Nat → Tg) (v : Value) (l : List C3) (hv : SlC w.heap.size w v l) (hll : l.length ≤ 140737488351232) :
    Calls Try.prog 48 #[.agg (bx (.bool false) f v)] w fun e w' => e = .returned (.int .i64 (goodClaim false f l)) ∧ Below w.heap.size w w' := by
  obtain ⟨R, hR⟩ : ∃ R, R = goodClaim false f l := ⟨_, rfl⟩
  rw [← hR]
  have HR := Lib.hid hR
  have HV := Lib.hid hv
  obtain ⟨a0, cap, rfl, _⟩ := hv
  have hz := zeroClaim
  clear hR
  go_enter Try.func48, Try.ntmps48
  go_upto_region 2 with (fail)
  generalize hW : ((w.alloc (.cells (bx (.bool false) f (.slice a0 l.length cap)) 61)).alloc (.cells (bx (.bool false) f0 (.slice none 0 0)) 61)) = W
  have tW : Below w.heap.size w W := by rw [← hW]; exact bAl (bAl (bRefl w) _) _
  have QB : Blk W w.heap.size 61 (bx (.bool false) f (.slice a0 l.length cap)) := by rw [← hW]; exact Blk.alloc (Blk.new _ _ _) _
  have c0 := (QB.cell 0).trans (bx_zero _ _ _)
  have HQ := Lib.hid QB
  have hql := QB.lt
  clear hW QB hz
  go_wp2_with (refine wpl_load rfl 57 (.tmp 30) rfl w.heap.size 1 rfl HQ.out rowRegs (by rw [bx_size]; omega) (D := gr f) (bx_regs _ _ _) ?_)
  go_loopw [32] (fun t wr => ∃ k : Nat, k ≤ 10 ∧ t = .int .i64 k ∧ tagsOk f 0 0 k = true ∧ Below W.heap.size W wr) (fun t _ => 10 - (intOf t).toNat)
  case atStart => exact ⟨0, by omega, rfl, rfl, bRefl _⟩
  case round =>
    obtain ⟨k, hk, rfl, hok, hbel⟩ := hrel
    by_cases hlt : k < 10
    · have hlt' : (k : Int) < 10 := by omega
      have HE : Hid ((gr f).extract (k * 3) (k * 3 + 3) = #[.int .i64 (f k).k, .int .i64 (f k).t, .int .i64 (f k).m]) := gr_elem f hlt
      go_wp2_with (refine wpl_indexA rfl 57 (.tmp 31) (.tmp 32) rfl (C := gr f) rfl .i64 k rfl Try.underlying57 aggTag sizeTag hlt (D := #[.int .i64 (f k).k, .int .i64 (f k).t, .int .i64 (f k).m]) HE.out ?_)
      have hs := tagsOk_succ (f := f) (masked := 0) (o := 0) (n := k)
      rw [hok, Bool.true_and, Nat.zero_add] at hs
      have HS := Lib.hid hs
      clear hs hok HE
      refine (goodtag_ok _ (f k) 0).mono ?_
      rintro e w1 ⟨rfl, b1⟩
      have t1 := bThen (bAl hbel _) b1
      cases hg : goodTag (f k) 0 with
      | false =>
        go_wp2
        go_ret
        exact ⟨by rw [HR.out]; simp only [goodClaim]; rw [tagsOk_false hlt (by rw [Nat.zero_add]; exact hg)]; rfl, bThen tW t1⟩
      | true =>
        go_wp2
        go_roundw
        case rel => first | exact ⟨k + 1, by omega, by go_num, HS.out.trans hg, t1⟩ | ((repeat apply Exists.intro); exact ⟨⟨k + 1, by omega, by go_num, HS.out.trans hg, t1⟩, rfl⟩)
        case measure => simp [intOf]; omega
    · obtain rfl : k = 10 := by omega
      have HOK := Lib.hid hok
      have QR := Lib.hid (HQ.out.below hbel HQ.out.lt)
      have tR := bThen tW hbel
      have hqr := QR.out.lt
      have hk10 : (10 : Nat) = 10 := rfl
      clear hok hbel HQ hlt hk c0
      go_wp2_with (refine wpl_load rfl 58 (.tmp 39) rfl w.heap.size 31 rfl QR.out rowStk (by rw [bx_size]; omega) (D := gs f) (bx_slots _ _ _) ?_)
      go_loopw [41] (fun t wq => ∃ k : Nat, k ≤ 32 ∧ t = .int .i64 k ∧ tagsOk f 255 10 k = true ∧ Below wr.heap.size wr wq) (fun t _ => 32 - (intOf t).toNat)
      case atStart => exact ⟨0, by omega, rfl, rfl, bRefl _⟩
      case round =>
        obtain ⟨k, hk, rfl, hok, hbel⟩ := hrel
        by_cases hlt : k < 32
        · have hlt' : (k : Int) < 32 := by omega
          have HE : Hid ((gs f).extract (k * 3) (k * 3 + 3) = #[.int .i64 (f (10 + k)).k, .int .i64 (f (10 + k)).t, .int .i64 (f (10 + k)).m]) := gs_elem f hlt
          go_wp2_with (refine wpl_indexA rfl 58 (.tmp 40) (.tmp 41) rfl (C := gs f) rfl .i64 k rfl Try.underlying58 aggTag sizeTag hlt (D := #[.int .i64 (f (10 + k)).k, .int .i64 (f (10 + k)).t, .int .i64 (f (10 + k)).m]) HE.out ?_)
          have hs := tagsOk_succ (f := f) (masked := 255) (o := 10) (n := k)
          rw [hok, Bool.true_and] at hs
          have HS := Lib.hid hs
          clear hs hok HE
          refine (goodtag_ok _ (f (10 + k)) 255).mono ?_
          rintro e w1 ⟨rfl, b1⟩
          have t1 := bThen (bAl hbel _) b1
          cases hg : goodTag (f (10 + k)) 255 with
          | false =>
            go_wp2
            go_ret
            exact ⟨by rw [HR.out]; simp only [goodClaim]; rw [HOK.out, tagsOk_false hlt hg]; rfl, bThen tR t1⟩
          | true =>
            go_wp2
            go_roundw
            case rel => first | exact ⟨k + 1, by omega, by go_num, HS.out.trans hg, t1⟩ | ((repeat apply Exists.intro); exact ⟨⟨k + 1, by omega, by go_num, HS.out.trans hg, t1⟩, rfl⟩)
            case measure => simp [intOf]; omega
        · obtain rfl : k = 32 := by omega
          have HOK2 := Lib.hid hok
          have QS := QR.out.below hbel QR.out.lt
          have cv := (QS.cell 127).trans (bx_last _ _ _)
          have hqs := QS.lt
          have HQS := Lib.hid QS
          have tS := bThen tR hbel
          have HE0 : Hid (R = goC none l) := by
            show _ = _
            rw [HR.out]
            simp only [goodClaim]
            rw [HOK.out, HOK2.out]
            rfl
          clear hok hbel QR QS hlt hk tR hqr
          go_wp2
          go_loopw [51] (fun t wr => ∃ k : Nat, k ≤ l.length ∧ t = .int .i64 k ∧ Hid (goC none l = goC (if k = 0 then none else l[k - 1]?) (l.drop k)) ∧ Below w.heap.size w wr ∧ Blk wr w.heap.size 61 (bx (.bool false) f (.slice a0 l.length cap))) (fun t _ => l.length - (intOf t).toNat)
          case atStart => exact ⟨0, by omega, rfl, rfl, tS, HQS.out⟩
          case round =>
            obtain ⟨k, hk, rfl, he, hbel, hblk⟩ := hrel
            have HB := Lib.hid hblk
            have hbl := hblk.lt
            have HE := Lib.hid he.out
            have cv := (hblk.cell 127).trans (bx_last _ _ _)
            by_cases hlt : k < l.length
            · have hlt' : (k : Int) < (l.length : Int) := by omega
              obtain ⟨x, hx⟩ : ∃ x, l[k]? = some x := ⟨_, List.getElem?_eq_getElem hlt⟩
              obtain ⟨a1, cap1, ev, hcell⟩ := HV.out
              simp only [Value.slice.injEq, true_and] at ev
              obtain ⟨rfl, rfl⟩ := ev
              obtain ⟨bb, off, rfl, hbb, g0, g1, g2⟩ := hcell k x hx
              rw [← hbel.cell (p := ⟨bb, _, none⟩) hbb] at g0 g1 g2
              have HX := Lib.hid hx
              have HCell := Lib.hid hcell
              clear hx hcell he hblk
              go_wp2_with fail
              have hd : l.drop k = x :: l.drop (k + 1) := by
                rw [List.drop_eq_getElem_cons hlt]
                congr 1
                have := HX.out
                rw [List.getElem?_eq_getElem hlt] at this
                injection this
              have HD := Lib.hid hd
              have t1 := bAl hbel (.cells #[.int .i64 x.i, .int .i64 x.j, .int .i64 x.c] 63)
              refine (goodcon_ok _ x).mono ?_
              rintro e w1 ⟨rfl, b1⟩
              have t2 := bThen t1 b1
              have B2 := Lib.hid ((HB.out.alloc (.cells #[.int .i64 x.i, .int .i64 x.j, .int .i64 x.c] 63)).below b1 (HB.out.alloc _).lt)
              have XB := Lib.hid ((Blk.new wr 63 #[.int .i64 x.i, .int .i64 x.j, .int .i64 x.c]).below b1 (Blk.new wr 63 #[.int .i64 x.i, .int .i64 x.j, .int .i64 x.c]).lt)
              clear hd
              cases hg : goodCon x with
              | false =>
                have e1 : Hid (R = 91) := by
                  show _ = _
                  rw [HE0.out, HE.out, HD.out]
                  unfold goC
                  rw [if_pos hg]
                go_wp2
                go_ret
                exact ⟨by rw [e1.out]; rfl, t2⟩
              | true =>
                have HG := Lib.hid hg
                clear hg b1
                by_cases hk0 : k = 0
                · subst hk0
                  go_wp2
                  go_quiet (fail)
                  go_wp2
                  go_roundw
                  have hn : Hid (goC none l = goC (if 0 + 1 = 0 then none else l[0 + 1 - 1]?) (l.drop (0 + 1))) := by
                    show _ = _
                    rw [HE.out, HD.out]
                    have := HX.out
                    simp only [Nat.zero_add, Nat.sub_self, this]
                    simp [goC, HG.out]
                  all_goals first
                    | exact ⟨1, by omega, by go_num, hn, ⟨t2.os, t2.tape, t2.output, t2.size, t2.block⟩, B2.out.drewN _⟩
                    | ((repeat apply Exists.intro); exact ⟨⟨1, by omega, by go_num, hn, ⟨t2.os, t2.tape, t2.output, t2.size, t2.block⟩, B2.out.drewN _⟩, rfl⟩)
                    | (simp [intOf]; omega)
                · obtain ⟨n, rfl⟩ : ∃ n, k = n + 1 := ⟨k - 1, by omega⟩
                  obtain ⟨y, hy⟩ : ∃ y, l[n]? = some y := ⟨_, List.getElem?_eq_getElem (by omega)⟩
                  obtain ⟨bb', off', ea, hbb', y0, y1, y2⟩ := HCell.out n y hy
                  simp only [Option.some.injEq, Addr.mk.injEq, and_true] at ea
                  obtain ⟨rfl, rfl⟩ := ea
                  have hb12 : Below w.heap.size w w1 := t2
                  rw [← hb12.cell (p := ⟨bb, _, none⟩) hbb'] at y0 y1 y2
                  have cv2 := (B2.out.cell 127).trans (bx_last _ _ _)
                  have HY := Lib.hid hy
                  have x0 := XB.out.cell 0
                  have x1 := XB.out.cell 1
                  have x2 := XB.out.cell 2
                  simp only [List.getElem?_toArray, List.getElem?_cons_zero, List.getElem?_cons_succ] at x0 x1 x2
                  have hwr : IntKind.i64.wrap (n : Int) = n := IntWalk.i64_in _ (by omega)
                  have hlt0 : (n : Int) < (l.length : Int) := by omega
                  clear hk0 hy hb12
                  go_upto_region 23 with (fail)
                  refine wp_tail 10 mix (by kernel_rfl) ?_
                  simp only [List.take_succ_cons, List.take_zero, List.drop_succ_cons, List.drop_zero]
                  iterate 10 still_step
                  refine wpStill_nil ?_
                  go_wp2_with fail
                  refine (rises_ok _ y x).mono ?_
                  rintro e w2 ⟨rfl, b2⟩
                  have t3 := bThen (show Below w.heap.size w w1.drew from ⟨t2.os, t2.tape, t2.output, t2.size, t2.block⟩) b2
                  have B3 := Lib.hid ((Blk.drew B2.out).below b2 B2.out.lt)
                  clear b2 x0 x1 x2 y0 y1 y2 g0 g1 g2 XB
                  have HE2 : Hid (goC none l = goC (some y) (l.drop (n + 1))) := by
                    show _ = _
                    rw [HE.out, if_neg (by omega), Nat.add_sub_cancel, HY.out]
                  cases hr : rises y x with
                  | false =>
                    have e1 : Hid (R = 111) := by
                      show _ = _
                      rw [HE0.out, HE2.out, HD.out]
                      simp [goC, HG.out, hr]
                    go_wp2
                    go_ret
                    exact ⟨by rw [e1.out]; rfl, t3⟩
                  | true =>
                    have hn : Hid (goC none l = goC (if n + 1 + 1 = 0 then none else l[n + 1 + 1 - 1]?) (l.drop (n + 1 + 1))) := by
                      show _ = _
                      rw [HE2.out, HD.out, if_neg (by omega), Nat.add_sub_cancel, HX.out]
                      simp [goC, HG.out, hr]
                    go_wp2
                    go_roundw
                    all_goals first
                      | exact ⟨n + 1 + 1, by omega, by go_num, hn, t3, B3.out⟩
                      | ((repeat apply Exists.intro); exact ⟨⟨n + 1 + 1, by omega, by go_num, hn, t3, B3.out⟩, rfl⟩)
                      | (simp [intOf]; omega)
            · obtain rfl : k = l.length := by omega
              have hd : l.drop l.length = [] := by simp
              have e0 : Hid (R = 0) := by
                show _ = _
                have hn : ∀ p, goC p [] = 0 := fun p => by cases p <;> rfl
                rw [HE0.out, HE.out, hd, hn]
              clear he
              go_wp2
              go_ret
              exact ⟨by rw [e0.out]; rfl, hbel⟩
end Go.Proofs.Ytfdjdpbiccclfaa
