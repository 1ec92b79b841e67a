/- The document's check on a claim: it answers as deed's. -/
import Derived.Test.YtfdjdpbiccclfaaDEa
import Derived.Test.YtfdjdpbiccclfaaDPn
namespace Go.Proofs.Ytfdjdpbiccclfaa
open Go Go.RowKit Go.Wr
set_option maxHeartbeats 4000000
set_option maxRecDepth 100000

theorem eqTags_succ {f g : Nat → Tg} {o n : Nat} : eqTags f g o (n + 1) = (eqTags f g o n && eqTg (f (o + n)) (g (o + n))) := by
  simp [eqTags, List.range_succ]
theorem eqTg_tz {t : Tg} (h : t ≠ tz) : eqTg t tz = false := by
  rw [Bool.eq_false_iff]
  intro e
  exact h (eqTg_iff.1 e)

theorem rclaim_dead (w : World) (f : Nat → Tg) (v : Value) (l : List C3) (hv : SlC w.heap.size w v l) :
    Calls Try.prog 52 #[.agg (bx (.bool true) f v)] w fun e w' => e = .returned (.int .i64 (goodClaim true f l)) ∧ Below w.heap.size w w' := by
  obtain ⟨R, hR⟩ : ∃ R, R = goodClaim true f l := ⟨_, rfl⟩
  rw [← hR]
  have HR := Lib.hid hR
  obtain ⟨a0, cap, rfl, _⟩ := hv
  clear hR
  go_enter Try.func52, Try.ntmps52
  go_upto_region 1 with (fail)
  generalize hW : (w.alloc (.cells (bx (.bool true) f (.slice a0 l.length cap)) 61)) = W
  have tW : Below w.heap.size w W := by rw [← hW]; exact bAl (bRefl w) _
  have QB : Blk W w.heap.size 61 (bx (.bool true) f (.slice a0 l.length cap)) := by rw [← hW]; exact Blk.new _ _ _
  have c0 := (QB.cell 0).trans (bx_zero _ _ _)
  have c9 := (QB.cell 127).trans (bx_last _ _ _)
  have HQ := Lib.hid QB
  have hql := QB.lt
  obtain ⟨z, hz⟩ : ∃ z, z = ((l.length : Int) == 0) := ⟨_, rfl⟩
  have HZ := Lib.hid hz
  clear hW QB hz
  go_upto_region 3 with (fail)
  rw [← HZ.out]
  go_wp2
  go_loopw [3, 4] (fun s t wr => ∃ k : Nat, k ≤ 10 ∧ t = .int .i64 k ∧ s = .bool (z && eqTags f f0 0 k) ∧ wr = W) (fun _ t _ => 10 - (intOf t).toNat)
  case atStart => exact ⟨0, by omega, rfl, by simp [eqTags], rfl⟩
  case round =>
    obtain ⟨k, hk, rfl, rfl, rfl⟩ := hrel
    by_cases hlt : k < 10
    · have hlt' : (k : Int) < 10 := by omega
      obtain ⟨b0, b1, b2⟩ := bx_tag (.bool true) f (.slice a0 l.length cap) (show k < 42 by omega)
      have d0 := (HQ.out.cell (1 + k * 3)).trans b0
      have d1 := (HQ.out.cell (1 + k * 3 + 1)).trans b1
      have d2 := (HQ.out.cell (1 + k * 3 + 2)).trans b2
      have hs := eqTags_succ (f := f) (g := f0) (o := 0) (n := k)
      rw [Nat.zero_add] at hs
      obtain ⟨c, hc⟩ : ∃ c, c = (z && eqTags f f0 0 k) := ⟨_, rfl⟩
      rw [← hc]
      have hn : (z && eqTags f f0 0 (k + 1)) = (c && eqTg (f k) (f0 k)) := by first | (rw [hs, hc, Bool.and_assoc]; done) | (rw [hs, hc, Bool.and_assoc]; rfl)
      have HN := Lib.hid hn
      clear hc hn hs b0 b1 b2
      cases c with
      | false =>
        go_wp2
        go_roundw
        case rel => exact ⟨k + 1, by omega, by go_num, by simp [HN.out], trivial⟩
        case measure => simp [intOf]; omega
      | true =>
        by_cases he : f k = tz
        · have hn : (z && eqTags f f0 0 (k + 1)) = true := by rw [HN.out, he]; rfl
          have HN := Lib.hid hn
          rw [he] at d0 d1 d2
          simp only [tz] at d0 d1 d2
          clear he hn
          go_wp2
          go_roundw
          case rel => exact ⟨k + 1, by omega, by go_num, by simp [HN.out], trivial⟩
          case measure => simp [intOf]; omega
        · have hn : (z && eqTags f f0 0 (k + 1)) = false := by rw [HN.out]; exact eqTg_tz he
          have HN := Lib.hid hn
          have HE := Lib.hid he
          clear he hn
          go_wp2
          all_goals go_roundw
          all_goals first
            | (exact absurd (tz_of (by assumption) (by assumption) (by assumption)) HE.out)
            | exact ⟨k + 1, by omega, by go_num, by simp [HN.out], trivial⟩
            | ((repeat apply Exists.intro); exact ⟨⟨k + 1, by omega, by go_num, by simp [HN.out], trivial⟩, rfl⟩)
            | (simp [intOf]; omega)
    · obtain rfl : k = 10 := by omega
      obtain ⟨z2, hz2⟩ : ∃ c, c = (z && eqTags f f0 0 10) := ⟨_, rfl⟩
      rw [← hz2]
      have HZ2 := Lib.hid hz2
      clear hz2 hk hlt
      go_wp2
      go_loopw [3, 5] (fun s t wq => ∃ k : Nat, k ≤ 32 ∧ t = .int .i64 k ∧ s = .bool (z2 && eqTags f f0 10 k) ∧ wq = wr) (fun _ t _ => 32 - (intOf t).toNat)
      case atStart => exact ⟨0, by omega, rfl, by simp [eqTags], rfl⟩
      case round =>
        obtain ⟨k, hk, rfl, rfl, rfl⟩ := hrel
        by_cases hlt : k < 32
        · have hlt' : (k : Int) < 32 := by omega
          obtain ⟨b0, b1, b2⟩ := bx_tag (.bool true) f (.slice a0 l.length cap) (show 10 + k < 42 by omega)
          have d0 := (HQ.out.cell (1 + (10 + k) * 3)).trans b0
          have d1 := (HQ.out.cell (1 + (10 + k) * 3 + 1)).trans b1
          have d2 := (HQ.out.cell (1 + (10 + k) * 3 + 2)).trans b2
          rw [show 1 + (10 + k) * 3 = 31 + k * 3 by omega] at d0 d1 d2
          have hs := eqTags_succ (f := f) (g := f0) (o := 10) (n := k)
          obtain ⟨c, hc⟩ : ∃ c, c = (z2 && eqTags f f0 10 k) := ⟨_, rfl⟩
          rw [← hc]
          have hn : (z2 && eqTags f f0 10 (k + 1)) = (c && eqTg (f (10 + k)) (f0 k)) := by first | (rw [hs, hc, Bool.and_assoc]; done) | (rw [hs, hc, Bool.and_assoc]; rfl)
          have HN := Lib.hid hn
          clear hc hn hs b0 b1 b2
          cases c with
          | false =>
            go_wp2
            go_roundw
            case rel => exact ⟨k + 1, by omega, by go_num, by simp [HN.out], trivial⟩
            case measure => simp [intOf]; omega
          | true =>
            by_cases he : f (10 + k) = tz
            · have hn : (z2 && eqTags f f0 10 (k + 1)) = true := by rw [HN.out, he]; rfl
              have HN := Lib.hid hn
              rw [he] at d0 d1 d2
              simp only [tz] at d0 d1 d2
              clear he hn
              go_wp2
              go_roundw
              case rel => exact ⟨k + 1, by omega, by go_num, by simp [HN.out], trivial⟩
              case measure => simp [intOf]; omega
            · have hn : (z2 && eqTags f f0 10 (k + 1)) = false := by rw [HN.out]; exact eqTg_tz he
              have HN := Lib.hid hn
              have HE := Lib.hid he
              clear he hn
              go_wp2
              all_goals go_roundw
              all_goals first
                | (exact absurd (tz_of (by assumption) (by assumption) (by assumption)) HE.out)
                | exact ⟨k + 1, by omega, by go_num, by simp [HN.out], trivial⟩
                | ((repeat apply Exists.intro); exact ⟨⟨k + 1, by omega, by go_num, by simp [HN.out], trivial⟩, rfl⟩)
                | (simp [intOf]; omega)
        · obtain rfl : k = 32 := by omega
          obtain ⟨c, hc⟩ : ∃ c, c = (z2 && eqTags f f0 10 32) := ⟨_, rfl⟩
          rw [← hc]
          have hR : R = if c = true then 0 else 93 := by
            rw [HR.out, hc, HZ2.out, HZ.out]
            simp only [goodClaim, if_true]
            by_cases hl : l.length = 0 <;> cases eqTags f f0 0 10 <;> cases eqTags f f0 10 32 <;> simp [hl]
          have HR2 := Lib.hid hR
          clear hc hR hk hlt
          cases c with
          | false =>
            go_wp2
            go_ret
            exact ⟨by rw [HR2.out]; rfl, tW⟩
          | true =>
            go_wp2
            go_ret
            exact ⟨by rw [HR2.out]; rfl, tW⟩
-- live
theorem rclaim_live (w : World) (f : Nat → Tg) (v : Value) (l : List C3) (hv : SlC w.heap.size w v l) (hll : l.length ≤ 140737488351232) :
    Calls Try.prog 52 #[.agg (bx (.bool false) f v)] w fun e w' => e = .returned (.int .i64 (goodClaim false f l)) ∧ Below w.heap.size w w' := by
  obtain ⟨R, hR⟩ : ∃ R, R = goodClaim false f l := ⟨_, rfl⟩
  rw [← hR]
  have HR := Lib.hid hR
  have HV := Lib.hid hv
  obtain ⟨a0, cap, rfl, _⟩ := hv
  clear hR
  go_enter Try.func52, Try.ntmps52
  go_upto_region 1 with (fail)
  generalize hW : (w.alloc (.cells (bx (.bool false) f (.slice a0 l.length cap)) 61)) = W
  have tW : Below w.heap.size w W := by rw [← hW]; exact bAl (bRefl w) _
  have QB : Blk W w.heap.size 61 (bx (.bool false) f (.slice a0 l.length cap)) := by rw [← hW]; exact Blk.new _ _ _
  have c0 := (QB.cell 0).trans (bx_zero _ _ _)
  have HQ := Lib.hid QB
  have hql := QB.lt
  clear hW QB
  go_wp2
  go_loopw [6] (fun t wr => ∃ k : Nat, k ≤ 10 ∧ t = .int .i64 k ∧ tagsOk f 0 0 k = true ∧ Below W.heap.size W wr) (fun t _ => 10 - (intOf t).toNat)
  case atStart => exact ⟨0, by omega, rfl, rfl, bRefl _⟩
  case round =>
    obtain ⟨k, hk, rfl, hok, hbel⟩ := hrel
    by_cases hlt : k < 10
    · have hlt' : (k : Int) < 10 := by omega
      have hqr := HQ.out.below hbel HQ.out.lt
      obtain ⟨b0, b1, b2⟩ := bx_tag (.bool false) f (.slice a0 l.length cap) (show k < 42 by omega)
      have d0 := (hqr.cell (1 + k * 3)).trans b0
      have d1 := (hqr.cell (1 + k * 3 + 1)).trans b1
      have d2 := (hqr.cell (1 + k * 3 + 2)).trans b2
      have hs := tagsOk_succ (f := f) (masked := 0) (o := 0) (n := k)
      rw [hok, Bool.true_and, Nat.zero_add] at hs
      have HS := Lib.hid hs
      clear hs hok b0 b1 b2 hqr
      go_wp2_with fail
      refine (rtag_ref _ (f k) false).mono ?_
      rintro e w1 ⟨rfl, b1⟩
      have t1 := bThen hbel b1
      rw [if_neg (by decide)]
      clear d0 d1 d2
      cases hg : goodTag (f k) 0 with
      | false =>
        go_wp2
        go_ret
        exact ⟨by rw [HR.out]; simp only [goodClaim]; rw [tagsOk_false hlt (by rw [Nat.zero_add]; exact hg)]; rfl, bThen tW t1⟩
      | true =>
        go_wp2
        go_roundw
        case rel => first | exact ⟨k + 1, by omega, by go_num, HS.out.trans hg, t1⟩ | ((repeat apply Exists.intro); exact ⟨⟨k + 1, by omega, by go_num, HS.out.trans hg, t1⟩, rfl⟩)
        case measure => simp [intOf]; omega
    · obtain rfl : k = 10 := by omega
      have HOK := Lib.hid hok
      have QR := Lib.hid (HQ.out.below hbel HQ.out.lt)
      have tR := bThen tW hbel
      have hqr := QR.out.lt
      clear hok hbel HQ hlt hk c0
      go_wp2
      go_loopw [7] (fun t wq => ∃ k : Nat, k ≤ 32 ∧ t = .int .i64 k ∧ tagsOk f 255 10 k = true ∧ Below wr.heap.size wr wq) (fun t _ => 32 - (intOf t).toNat)
      case atStart => exact ⟨0, by omega, rfl, rfl, bRefl _⟩
      case round =>
        obtain ⟨k, hk, rfl, hok, hbel⟩ := hrel
        by_cases hlt : k < 32
        · have hlt' : (k : Int) < 32 := by omega
          have hqs := QR.out.below hbel QR.out.lt
          obtain ⟨b0, b1, b2⟩ := bx_tag (.bool false) f (.slice a0 l.length cap) (show 10 + k < 42 by omega)
          have d0 := (hqs.cell (1 + (10 + k) * 3)).trans b0
          have d1 := (hqs.cell (1 + (10 + k) * 3 + 1)).trans b1
          have d2 := (hqs.cell (1 + (10 + k) * 3 + 2)).trans b2
          rw [show 1 + (10 + k) * 3 = 31 + k * 3 by omega] at d0 d1 d2
          have hs := tagsOk_succ (f := f) (masked := 255) (o := 10) (n := k)
          rw [hok, Bool.true_and] at hs
          have HS := Lib.hid hs
          clear hs hok b0 b1 b2 hqs
          go_wp2_with fail
          refine (rtag_ref _ (f (10 + k)) true).mono ?_
          rintro e w1 ⟨rfl, b1⟩
          have t1 := bThen hbel b1
          rw [if_pos rfl]
          clear d0 d1 d2
          cases hg : goodTag (f (10 + k)) 255 with
          | false =>
            go_wp2
            go_ret
            exact ⟨by rw [HR.out]; simp only [goodClaim]; rw [HOK.out, tagsOk_false hlt hg]; rfl, bThen tR t1⟩
          | true =>
            go_wp2
            go_roundw
            case rel => first | exact ⟨k + 1, by omega, by go_num, HS.out.trans hg, t1⟩ | ((repeat apply Exists.intro); exact ⟨⟨k + 1, by omega, by go_num, HS.out.trans hg, t1⟩, rfl⟩)
            case measure => simp [intOf]; omega
        · obtain rfl : k = 32 := by omega
          have HOK2 := Lib.hid hok
          have QS := QR.out.below hbel QR.out.lt
          have cv := (QS.cell 127).trans (bx_last _ _ _)
          have hqs := QS.lt
          have HQS := Lib.hid QS
          have tS := bThen tR hbel
          have HE0 : Hid (R = goC none l) := by
            show _ = _
            rw [HR.out]
            simp only [goodClaim]
            rw [HOK.out, HOK2.out]
            rfl
          clear hok hbel QR QS hlt hk tR hqr
          go_wp2
          go_loopw [8] (fun t wr => ∃ k : Nat, k ≤ l.length ∧ t = .int .i64 k ∧ Hid (goC none l = goC (if k = 0 then none else l[k - 1]?) (l.drop k)) ∧ Below w.heap.size w wr ∧ Blk wr w.heap.size 61 (bx (.bool false) f (.slice a0 l.length cap))) (fun t _ => l.length - (intOf t).toNat)
          case atStart => exact ⟨0, by omega, rfl, rfl, tS, HQS.out⟩
          case round =>
            obtain ⟨k, hk, rfl, he, hbel, hblk⟩ := hrel
            have HB := Lib.hid hblk
            have hbl := hblk.lt
            have HE := Lib.hid he.out
            have cv := (hblk.cell 127).trans (bx_last _ _ _)
            by_cases hlt : k < l.length
            · have hlt' : (k : Int) < (l.length : Int) := by omega
              obtain ⟨x, hx⟩ : ∃ x, l[k]? = some x := ⟨_, List.getElem?_eq_getElem hlt⟩
              obtain ⟨a1, cap1, ev, hcell⟩ := HV.out
              simp only [Value.slice.injEq, true_and] at ev
              obtain ⟨rfl, rfl⟩ := ev
              obtain ⟨bb, off, rfl, hbb, g0, g1, g2⟩ := hcell k x hx
              rw [← hbel.cell (p := ⟨bb, _, none⟩) hbb] at g0 g1 g2
              have HX := Lib.hid hx
              have HCell := Lib.hid hcell
              clear hx hcell he hblk
              go_wp2_with fail
              have hd : l.drop k = x :: l.drop (k + 1) := by
                rw [List.drop_eq_getElem_cons hlt]
                congr 1
                have := HX.out
                rw [List.getElem?_eq_getElem hlt] at this
                injection this
              have HD := Lib.hid hd
              refine (rcon_ref _ x).mono ?_
              rintro e w1 ⟨rfl, b1⟩
              have t2 := bThen hbel b1
              have B2 := Lib.hid (HB.out.below b1 hbl)
              have hbr : bb < wr.heap.size := Nat.lt_of_lt_of_le hbb hbel.size
              have x0 := (b1.cell (p := ⟨bb, _, none⟩) hbr).trans g0
              have x1 := (b1.cell (p := ⟨bb, _, none⟩) hbr).trans g1
              have x2 := (b1.cell (p := ⟨bb, _, none⟩) hbr).trans g2
              clear hd
              cases hg : goodCon x with
              | false =>
                have e1 : Hid (R = 91) := by
                  show _ = _
                  rw [HE0.out, HE.out, HD.out]
                  unfold goC
                  rw [if_pos hg]
                go_wp2
                go_ret
                exact ⟨by rw [e1.out]; rfl, t2⟩
              | true =>
                have HG := Lib.hid hg
                clear hg b1
                by_cases hk0 : k = 0
                · subst hk0
                  go_wp2
                  go_quiet (fail)
                  go_wp2
                  go_roundw
                  have hn : Hid (goC none l = goC (if 0 + 1 = 0 then none else l[0 + 1 - 1]?) (l.drop (0 + 1))) := by
                    show _ = _
                    rw [HE.out, HD.out]
                    have := HX.out
                    simp only [Nat.zero_add, Nat.sub_self, this]
                    simp [goC, HG.out]
                  all_goals first
                    | exact ⟨1, by omega, by go_num, hn, ⟨t2.os, t2.tape, t2.output, t2.size, t2.block⟩, B2.out.drewN _⟩
                    | ((repeat apply Exists.intro); exact ⟨⟨1, by omega, by go_num, hn, ⟨t2.os, t2.tape, t2.output, t2.size, t2.block⟩, B2.out.drewN _⟩, rfl⟩)
                    | (simp [intOf]; omega)
                · obtain ⟨n, rfl⟩ : ∃ n, k = n + 1 := ⟨k - 1, by omega⟩
                  obtain ⟨y, hy⟩ : ∃ y, l[n]? = some y := ⟨_, List.getElem?_eq_getElem (by omega)⟩
                  obtain ⟨bb', off', ea, hbb', y0, y1, y2⟩ := HCell.out n y hy
                  simp only [Option.some.injEq, Addr.mk.injEq, and_true] at ea
                  obtain ⟨rfl, rfl⟩ := ea
                  have hb12 : Below w.heap.size w w1 := t2
                  rw [← hb12.cell (p := ⟨bb, _, none⟩) hbb'] at y0 y1 y2
                  have cv2 := (B2.out.cell 127).trans (bx_last _ _ _)
                  have HY := Lib.hid hy
                  have hwr : IntKind.i64.wrap (n : Int) = n := IntWalk.i64_in _ (by omega)
                  have hlt0 : (n : Int) < (l.length : Int) := by omega
                  have hlt1 : (n : Int) + 1 < (l.length : Int) := by omega
                  have h01 : (0 : Int) ≤ (n : Int) + 1 := by omega
                  clear hk0 hy hb12
                  go_upto_region 29 with (fail)
                  refine wp_tail 14 mix (by kernel_rfl) ?_
                  simp only [List.take_succ_cons, List.take_zero, List.drop_succ_cons, List.drop_zero]
                  iterate 14 still_step
                  refine wpStill_nil ?_
                  go_wp2_with fail
                  refine (rrises_ok _ y x).mono ?_
                  rintro e w2 ⟨rfl, b2⟩
                  have t3 := bThen (show Below w.heap.size w w1.drew from ⟨t2.os, t2.tape, t2.output, t2.size, t2.block⟩) b2
                  have B3 := Lib.hid ((Blk.drew B2.out).below b2 B2.out.lt)
                  clear b2 x0 x1 x2 y0 y1 y2 g0 g1 g2
                  have HE2 : Hid (goC none l = goC (some y) (l.drop (n + 1))) := by
                    show _ = _
                    rw [HE.out, if_neg (by omega), Nat.add_sub_cancel, HY.out]
                  cases hr : rises y x with
                  | false =>
                    have e1 : Hid (R = 111) := by
                      show _ = _
                      rw [HE0.out, HE2.out, HD.out]
                      simp [goC, HG.out, hr]
                    go_wp2
                    go_ret
                    exact ⟨by rw [e1.out]; rfl, t3⟩
                  | true =>
                    have hn : Hid (goC none l = goC (if n + 1 + 1 = 0 then none else l[n + 1 + 1 - 1]?) (l.drop (n + 1 + 1))) := by
                      show _ = _
                      rw [HE2.out, HD.out, if_neg (by omega), Nat.add_sub_cancel, HX.out]
                      simp [goC, HG.out, hr]
                    go_wp2
                    go_roundw
                    all_goals first
                      | exact ⟨n + 1 + 1, by omega, by go_num, hn, t3, B3.out⟩
                      | ((repeat apply Exists.intro); exact ⟨⟨n + 1 + 1, by omega, by go_num, hn, t3, B3.out⟩, rfl⟩)
                      | (simp [intOf]; omega)
            · obtain rfl : k = l.length := by omega
              have hd : l.drop l.length = [] := by simp
              have e0 : Hid (R = 0) := by
                show _ = _
                have hn : ∀ p, goC p [] = 0 := fun p => by cases p <;> rfl
                rw [HE0.out, HE.out, hd, hn]
              clear he
              go_wp2
              go_ret
              exact ⟨by rw [e0.out]; rfl, hbel⟩
end Go.Proofs.Ytfdjdpbiccclfaa
