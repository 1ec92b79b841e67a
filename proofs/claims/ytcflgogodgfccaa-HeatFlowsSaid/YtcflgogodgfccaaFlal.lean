/- What the law needs, one part after another: walks of functions and plain laws. No conditions but those that each law names. -/
import Derived.Test.YtcflgogodgfccaaFlak
import Derived.Deep.OwnRows
namespace Go.Proofs.Ytcflgogodgfccaa
open Go Go.RowKit Go.Wr Go.Fl Go.Ht
set_option maxHeartbeats 2000000
set_option maxRecDepth 100000
theorem wweights_ok {l : List In} {p pw g0 : Nat} {wa : World} {vb vl vo vi va vn vh vt : Value} {w : World} (h : Wk l p pw g0 wa vb vl vo vi va vn vh vt w) (r : Nat) (tt : Nat → Nat) (loop : Int) (hT : SlX tF r w vt ((List.range (nL l)).map tt)) (hin : ∀ i, i < nL l → hol l loop (hdN l i) = true → (i : Int) ≠ loop → one ≤ tt i ∧ tt i ≤ f32) (hl2 : loop < (nL l : Int)) :
  Calls Try.prog 24 #[.pointer (some ⟨pw, 0, none⟩), .int .i64 loop] w fun e w' => Below w.heap.size w w' ∧ ∃ v, e = .returned v ∧ OwR tF w.heap.size w' v ((List.range (nB l)).map (wts l tt loop)) := by
 have HK := Lib.hid h
 have h512 := h.g7.n512
 have h8 : nL l ≤ 8 := h.g7.hd8
 have hpw := h.blk.lt
 have hbd := h.bd.below h.bel
 obtain ⟨ab, cb, rfl, -, -⟩ := hbd.form
 have c1 : w.cell? ⟨pw, 1, none⟩ = some (.slice ab (nB l) cb) := by have := h.blk.cell 1; rw [dB_len] at this; exact this
 have hro := h.ro.below h.bel
 obtain ⟨ra, rcap, hvr, hr1, hr2⟩ := hro.form
 rw [nI_len, ord_len h.g7] at hvr hr1
 subst hvr
 have c4 : w.cell? ⟨pw, 4, none⟩ = some (.slice ra (nB l) rcap) := h.blk.cell 4
 obtain ⟨ha, hcap, hvh, -, -⟩ := h.hdd.form
 rw [List.length_map, List.length_range] at hvh
 subst hvh
 have c7 : w.cell? ⟨pw, 7, none⟩ = some (.slice ha (nB l) hcap) := h.blk.cell 7
 obtain ⟨ta, tcap, hvt, -, -⟩ := hT.form
 rw [List.length_map, List.length_range] at hvt
 subst hvt
 have c8 : w.cell? ⟨pw, 8, none⟩ = some (.slice ta (nL l) tcap) := h.blk.cell 8
 have HT := Lib.hid (And.intro hT hin)
 have HR := Lib.hid (And.intro hro h.hdd)
 have HCs := Lib.hid (And.intro c4 (And.intro c7 c8))
 obtain ⟨hd, hhd⟩ : ∃ x, x = hd0 l loop := ⟨_, rfl⟩
 have HHd := Lib.hid hhd
 unfold maxLen at hr2
 clear h hbd hro hT hin hhd c7 c8
 go_enter Try.func24, Try.ntmps24
 go_upto_region 2 with (refine wpl_make tF 0 rfl rfl (.tmp 15) (.tmp 15) rfl .i64 .i64 _ _ (nB l) rfl rfl rfl rfl (by show 8 * _ ≤ _; omega) (by unfold maxLen; omega) ?_; intro w2 how hbw hsw)
 obtain ⟨g, hg⟩ : ∃ x, x = w.heap.size := ⟨_, rfl⟩
 have hO0 : OwR tF w.heap.size w2 (.slice (some ⟨g, 0, none⟩) (nB l) (nB l)) ((List.range (nB l)).map (wtK l tt loop hd [])) := by
  rw [hg]
  have e : (List.range (nB l)).map (wtK l tt loop hd []) = List.replicate (nB l) 0 := by
   apply List.ext_getElem?
   intro k
   by_cases hk : k < nB l
   ·rw [List.getElem?_map, List.getElem?_range hk, List.getElem?_replicate, if_pos hk]; rfl
   ·rw [List.getElem?_eq_none (by simp; omega), List.getElem?_eq_none (by simp; omega)]
  rw [e]
  exact how
 rw [← hg]
 have HO0 := Lib.hid hO0
 have HB0 := Lib.hid hbw
 have HG := Lib.hid hg
 have hgw : w.heap.size ≤ g := by omega
 have c42 : w2.cell? ⟨pw, 4, none⟩ = some (.slice ra (nB l) rcap) := (hbw.cell hpw).trans c4
 clear how hsw hO0 c1 c4 hg
 by_cases hneg : loop < 0
 ·have hgd : decide (loop ≥ 0) = false := decide_eq_false (by omega)
  have hng : ¬ (0 ≤ loop) := by omega
  have HHd0 := Lib.hid (show hd = 0 by rw [HHd.out]; unfold hd0; rw [if_pos hneg])
  go_wp2
  clear c42
  go_loopw [8, 9, 10, 32] (fun _ _ _ t wr => ∃ (i : Nat), i ≤ nB l ∧ t = .int .i64 (i : Int) ∧ Hid (OwR tF w.heap.size wr (.slice (some ⟨g, 0, none⟩) (nB l) (nB l)) ((List.range (nB l)).map (wtK l tt loop hd ((ordL l).take i)))) ∧ Hid (Below w.heap.size w wr)) (fun _ _ _ t _ => nB l - (intOf t).toNat)
  case atStart => exact ⟨0, by omega, rfl, HO0.out, HB0.out⟩
  case round =>
   clear HO0 HB0
   obtain ⟨i, hi, rfl, hO, hB⟩ := hrel
   obtain ⟨V, rfl⟩ : ∃ x : World, x = wr := ⟨_, rfl⟩
   by_cases hlt : i < nB l
   ·have hlt' : (i : Int) < (nB l : Int) := by omega
    obtain ⟨b, hb⟩ : ∃ b, (ordL l)[i]? = some b := ⟨_, List.getElem?_eq_getElem (by rw [ord_len HK.out.g7]; exact hlt)⟩
    have hbn : b < nB l := ord_lt HK.out.g7 (List.mem_of_getElem? hb)
    obtain ⟨go, oo, rfl, -, -, cow⟩ := SlX.int HR.out.1 (k := i) (x := (b : Int)) (by unfold nI; rw [List.getElem?_map, hb]; rfl)
    have co : V.cell? ⟨go, oo + i, none⟩ = some (.int .i64 (b : Int)) := (hB.out.cell (World.block_lt_of_cell? _ _ cow)).trans cow
    have hW1 : (ordL l).take (i + 1) = (ordL l).take i ++ [b] := by rw [List.take_add_one, hb]; rfl
    obtain ⟨W, hWd⟩ : ∃ W, W = wtK l tt loop hd ((ordL l).take i) := ⟨_, rfl⟩
    have hWle : ∀ c, W c ≤ inf := by rw [hWd]; exact wtK_le
    rw [← hWd] at hO
    have HWs := Lib.hid (show wtK l tt loop hd ((ordL l).take (i + 1)) = wst l tt loop hd W b by rw [hW1, wtK_succ, ← hWd])
    have HWle := Lib.hid hWle
    have HKV := Lib.hid (HK.out.below hB.out)
    clear hb hW1 hWd hWle cow
    go_wp2_with fail
    refine (holds19_ok HKV.out loop b hl2 hbn).mono ?_
    rintro e w5 ⟨rfl, rfl⟩
    obtain ⟨V, rfl⟩ : ∃ x : World, x = w5 := ⟨_, rfl⟩
    clear co
    cases hv : hol l loop b with
    | false =>
     have HO2 := Lib.hid (show OwR tF w.heap.size V (.slice (some ⟨g, 0, none⟩) (nB l) (nB l)) ((List.range (nB l)).map (wtK l tt loop hd ((ordL l).take (i + 1)))) by
      rw [HWs.out]
      unfold wst
      rw [if_neg (by rw [hv]; simp)]
      exact hO.out)
     clear hv HWs
     go_wp2
     go_roundw
     all_goals first
      | exact ⟨i + 1, by omega, by go_num, HO2.out, hB.out⟩
      | ((repeat apply Exists.intro); exact ⟨⟨i + 1, by omega, by go_num, HO2.out, hB.out⟩, rfl⟩)
      | (simp [intOf] <;> omega)
    | true =>
     have HHeld := Lib.hid hv
     have HWn := Lib.hid (show wtK l tt loop hd ((ordL l).take (i + 1)) = Ht.upd W b (wgt l tt loop hd W b) by rw [HWs.out]; unfold wst; rw [if_pos hv])
     clear hv HWs
     by_cases hbh : b = hd
     ·have hbhb : ((b : Int) != (hd : Int)) = false := by rw [hbh]; simp
      (try have hbz2 : ((b : Int) != 0) = false := by (rw [hbh, HHd0.out]; rfl))
      obtain ⟨x0, hx0⟩ : ∃ x, x = one := ⟨_, rfl⟩
      have HX := Lib.hid (show x0 = if b = hd then one else brg l W loop b false by rw [if_pos hbh]; exact hx0)
      clear hbh
      have hxle : x0 ≤ inf := by rw [hx0]; decide
      go_upto_region 12 with (fail)
      rw [show (4607182418800017408 : Nat) = x0 from hx0.symm]
      clear hx0
      obtain ⟨U, rfl⟩ : ∃ x : World, x = V := ⟨_, rfl⟩
      obtain ⟨z, hz⟩ : ∃ z, z = hdd l b (nL l) := ⟨_, rfl⟩
      have HZ := Lib.hid hz
      have hz1 := (@hdd_is l b (nL l)).2.1
      have hz2 := (@hdd_is l b (nL l)).2.2
      obtain ⟨gh, oh, ehh, -, -, chw⟩ := SlX.int HR.out.2 (k := b) (x := hdd l b (nL l)) (by rw [List.getElem?_map, List.getElem?_range hbn]; rfl)
      rw [← hz] at hz1 hz2 chw
      have chh : U.cell? ⟨gh, oh + b, none⟩ = some (.int .i64 z) := (hB.out.cell (World.block_lt_of_cell? _ _ chw)).trans chw
      have c7U : U.cell? ⟨pw, 7, none⟩ = some (.slice (some ⟨gh, oh, none⟩) (nB l) hcap) := by rw [← ehh]; exact (hB.out.cell hpw).trans HCs.out.2.1
      have hbi : (b : Int) < (nB l : Int) := by omega
      clear hz chw ehh
      by_cases hz0 : z < 0
      ·have hzd : decide (z ≥ 0) = false := decide_eq_false (by omega)
       have hz9 : ¬ (0 ≤ z) := by omega
       obtain ⟨y0, hy0⟩ : ∃ y, y = x0 := ⟨_, rfl⟩
       have HY := Lib.hid (show y0 = wgt l tt loop hd W b by rw [hy0, HX.out, wgt_no (fun k => by rw [← HZ.out] at k; omega)])
       rw [← hy0]
       clear hy0
       have hbi : (b : Int) < (nB l : Int) := by omega
       have ck : U.cell? ⟨g, b, none⟩ = some (.float .f64 (W b)) := by
        have h1 := (hO.out.at (k := b) (x := W b) (by rw [List.getElem?_map, List.getElem?_range hbn]; rfl)).cell 0 _ rfl
        have e1 : 0 + b * tF.n + 0 = b := by show 0 + b * 1 + 0 = b; omega
        rw [e1] at h1
        exact h1
       have fk := hO.out.frozen b
       have hset := hO.out.set (k := b) (j := 0) (x := W b) (y := y0) (v := .float .f64 y0) (by rw [List.getElem?_map, List.getElem?_range hbn]; rfl) (by decide) rfl
       have e2 : b * tF.n + 0 = b := by show b * 1 + 0 = b; omega
       have e3 : Ht.upd W b y0 = wtK l tt loop hd ((ordL l).take (i + 1)) := by rw [HWn.out, ← HY.out]
       rw [e2, upd_row W hbn, e3] at hset
       have HO2 := Lib.hid hset
       have HB2 := Lib.hid (hB.out.setCell (p := ⟨g, b, none⟩) hgw (.float .f64 y0))
       have hst : ∀ a m w, (store a (.float .f64 y0) m).run Try.prog w = stored Try.prog w a (.float .f64 y0) m := fun a m w => run_store Try.prog w a _ m rfl
       clear hset e2 e3 hO hB
       go_wp2
       go_roundw
       all_goals first
        | exact ⟨i + 1, by omega, by go_num, HO2.out, HB2.out⟩
        | ((repeat apply Exists.intro); exact ⟨⟨i + 1, by omega, by go_num, HO2.out, HB2.out⟩, rfl⟩)
        | (simp [intOf] <;> omega)
      ·by_cases hzl : z = loop
       ·have hzb : (z != loop) = false := by rw [hzl]; simp
        obtain ⟨y0, hy0⟩ : ∃ y, y = x0 := ⟨_, rfl⟩
        have HY := Lib.hid (show y0 = wgt l tt loop hd W b by rw [hy0, HX.out, wgt_no (fun k => by rw [← HZ.out] at k; exact k.2 hzl)])
        rw [← hy0]
        have hz3 : 0 ≤ z := by omega
        clear hy0 hzl
        have hbi : (b : Int) < (nB l : Int) := by omega
        have ck : U.cell? ⟨g, b, none⟩ = some (.float .f64 (W b)) := by
         have h1 := (hO.out.at (k := b) (x := W b) (by rw [List.getElem?_map, List.getElem?_range hbn]; rfl)).cell 0 _ rfl
         have e1 : 0 + b * tF.n + 0 = b := by show 0 + b * 1 + 0 = b; omega
         rw [e1] at h1
         exact h1
        have fk := hO.out.frozen b
        have hset := hO.out.set (k := b) (j := 0) (x := W b) (y := y0) (v := .float .f64 y0) (by rw [List.getElem?_map, List.getElem?_range hbn]; rfl) (by decide) rfl
        have e2 : b * tF.n + 0 = b := by show b * 1 + 0 = b; omega
        have e3 : Ht.upd W b y0 = wtK l tt loop hd ((ordL l).take (i + 1)) := by rw [HWn.out, ← HY.out]
        rw [e2, upd_row W hbn, e3] at hset
        have HO2 := Lib.hid hset
        have HB2 := Lib.hid (hB.out.setCell (p := ⟨g, b, none⟩) hgw (.float .f64 y0))
        have hst : ∀ a m w, (store a (.float .f64 y0) m).run Try.prog w = stored Try.prog w a (.float .f64 y0) m := fun a m w => run_store Try.prog w a _ m rfl
        clear hset e2 e3 hO hB
        go_wp2
        go_roundw
        all_goals first
         | exact ⟨i + 1, by omega, by go_num, HO2.out, HB2.out⟩
         | ((repeat apply Exists.intro); exact ⟨⟨i + 1, by omega, by go_num, HO2.out, HB2.out⟩, rfl⟩)
         | (simp [intOf] <;> omega)
       ·have hzb : (z != loop) = true := by simpa using hzl
        obtain ⟨t, rfl⟩ := Int.eq_ofNat_of_zero_le (show 0 ≤ z by omega)
        have hz3 : (0 : Int) ≤ (t : Int) := by omega
        obtain ⟨k1, k2⟩ := (@hdd_is l b (nL l)).1 (by rw [← HZ.out]; exact hz3)
        rw [← HZ.out, Int.toNat_natCast] at k1 k2
        have hti := HT.out.2 t k1 (by rw [k2]; exact HHeld.out) hzl
        have hop := hop_mul (show Ieee.double.mul x0 (tt t) = some (fmul x0 (tt t)) from mul_nn hxle (Nat.lt_of_le_of_lt hti.2 (by decide)) (Nat.lt_of_lt_of_le (by decide) hti.1))
        obtain ⟨gt, ot, ett, -, -, ctw⟩ := SlX.flo HT.out.1 (k := t) (x := tt t) (by rw [List.getElem?_map, List.getElem?_range k1]; rfl)
        have ctt : U.cell? ⟨gt, ot + t, none⟩ = some (.float .f64 (tt t)) := (hB.out.cell (World.block_lt_of_cell? _ _ ctw)).trans ctw
        have c8U : U.cell? ⟨pw, 8, none⟩ = some (.slice (some ⟨gt, ot, none⟩) (nL l) tcap) := by rw [← ett]; exact (hB.out.cell hpw).trans HCs.out.2.2
        have htn2 : (t : Int) < (nL l : Int) := by omega
        obtain ⟨y0, hy0⟩ : ∃ y, y = fmul x0 (tt t) := ⟨_, rfl⟩
        have HY := Lib.hid (show y0 = wgt l tt loop hd W b by rw [hy0, HX.out, wgt_yes (by rw [← HZ.out]; exact ⟨hz3, hzl⟩), ← HZ.out, Int.toNat_natCast])
        rw [← hy0] at hop
        clear hy0 k1 k2 hti ctw ett
        go_upto_region 15 with (fail)
        clear hop ctt c8U chh c7U
        have hbi : (b : Int) < (nB l : Int) := by omega
        have ck : U.cell? ⟨g, b, none⟩ = some (.float .f64 (W b)) := by
         have h1 := (hO.out.at (k := b) (x := W b) (by rw [List.getElem?_map, List.getElem?_range hbn]; rfl)).cell 0 _ rfl
         have e1 : 0 + b * tF.n + 0 = b := by show 0 + b * 1 + 0 = b; omega
         rw [e1] at h1
         exact h1
        have fk := hO.out.frozen b
        have hset := hO.out.set (k := b) (j := 0) (x := W b) (y := y0) (v := .float .f64 y0) (by rw [List.getElem?_map, List.getElem?_range hbn]; rfl) (by decide) rfl
        have e2 : b * tF.n + 0 = b := by show b * 1 + 0 = b; omega
        have e3 : Ht.upd W b y0 = wtK l tt loop hd ((ordL l).take (i + 1)) := by rw [HWn.out, ← HY.out]
        rw [e2, upd_row W hbn, e3] at hset
        have HO2 := Lib.hid hset
        have HB2 := Lib.hid (hB.out.setCell (p := ⟨g, b, none⟩) hgw (.float .f64 y0))
        have hst : ∀ a m w, (store a (.float .f64 y0) m).run Try.prog w = stored Try.prog w a (.float .f64 y0) m := fun a m w => run_store Try.prog w a _ m rfl
        clear hset e2 e3 hO hB
        go_wp2
        go_roundw
        all_goals first
         | exact ⟨i + 1, by omega, by go_num, HO2.out, HB2.out⟩
         | ((repeat apply Exists.intro); exact ⟨⟨i + 1, by omega, by go_num, HO2.out, HB2.out⟩, rfl⟩)
         | (simp [intOf] <;> omega)
     ·have hbh' : (b : Int) ≠ (hd : Int) := by omega
      have hbhb : ((b : Int) != (hd : Int)) = true := by simpa using hbh'
      (try have hbz : (b : Int) ≠ 0 := by (have := HHd0.out; omega))
      (try have hbz2 : ((b : Int) != 0) = true := by simpa using hbz)
      have HSu := Lib.hid (wsum_ok HKV.out V.heap.size _ W loop b false (hO.out.sl (fun e => by have := hO.out.lt e; omega)) HWle.out hl2 hbn)
      have HBn := Lib.hid hbh
      clear hbh hbh'
      (try clear hbz)
      go_wp2_with fail
      refine HSu.out.mono ?_
      rintro e U ⟨rfl, b6⟩
      obtain ⟨x0, hx0⟩ : ∃ x, x = brg l W loop b false := ⟨_, rfl⟩
      rw [← hx0]
      have HX := Lib.hid (show x0 = if b = hd then one else brg l W loop b false by rw [if_neg HBn.out]; exact hx0)
      have hxle : x0 ≤ inf := by rw [hx0]; exact brg_le
      have hO4 := Lib.hid (hO.out.below b6)
      have hB4 := Lib.hid (bThen hB.out b6)
      clear hx0 hO hB HSu b6
      have hO := hO4
      have hB := hB4
      clear hO4 hB4
      obtain ⟨z, hz⟩ : ∃ z, z = hdd l b (nL l) := ⟨_, rfl⟩
      have HZ := Lib.hid hz
      have hz1 := (@hdd_is l b (nL l)).2.1
      have hz2 := (@hdd_is l b (nL l)).2.2
      obtain ⟨gh, oh, ehh, -, -, chw⟩ := SlX.int HR.out.2 (k := b) (x := hdd l b (nL l)) (by rw [List.getElem?_map, List.getElem?_range hbn]; rfl)
      rw [← hz] at hz1 hz2 chw
      have chh : U.cell? ⟨gh, oh + b, none⟩ = some (.int .i64 z) := (hB.out.cell (World.block_lt_of_cell? _ _ chw)).trans chw
      have c7U : U.cell? ⟨pw, 7, none⟩ = some (.slice (some ⟨gh, oh, none⟩) (nB l) hcap) := by rw [← ehh]; exact (hB.out.cell hpw).trans HCs.out.2.1
      have hbi : (b : Int) < (nB l : Int) := by omega
      clear hz chw ehh
      by_cases hz0 : z < 0
      ·have hzd : decide (z ≥ 0) = false := decide_eq_false (by omega)
       have hz9 : ¬ (0 ≤ z) := by omega
       obtain ⟨y0, hy0⟩ : ∃ y, y = x0 := ⟨_, rfl⟩
       have HY := Lib.hid (show y0 = wgt l tt loop hd W b by rw [hy0, HX.out, wgt_no (fun k => by rw [← HZ.out] at k; omega)])
       rw [← hy0]
       clear hy0
       have hbi : (b : Int) < (nB l : Int) := by omega
       have ck : U.cell? ⟨g, b, none⟩ = some (.float .f64 (W b)) := by
        have h1 := (hO.out.at (k := b) (x := W b) (by rw [List.getElem?_map, List.getElem?_range hbn]; rfl)).cell 0 _ rfl
        have e1 : 0 + b * tF.n + 0 = b := by show 0 + b * 1 + 0 = b; omega
        rw [e1] at h1
        exact h1
       have fk := hO.out.frozen b
       have hset := hO.out.set (k := b) (j := 0) (x := W b) (y := y0) (v := .float .f64 y0) (by rw [List.getElem?_map, List.getElem?_range hbn]; rfl) (by decide) rfl
       have e2 : b * tF.n + 0 = b := by show b * 1 + 0 = b; omega
       have e3 : Ht.upd W b y0 = wtK l tt loop hd ((ordL l).take (i + 1)) := by rw [HWn.out, ← HY.out]
       rw [e2, upd_row W hbn, e3] at hset
       have HO2 := Lib.hid hset
       have HB2 := Lib.hid (hB.out.setCell (p := ⟨g, b, none⟩) hgw (.float .f64 y0))
       have hst : ∀ a m w, (store a (.float .f64 y0) m).run Try.prog w = stored Try.prog w a (.float .f64 y0) m := fun a m w => run_store Try.prog w a _ m rfl
       clear hset e2 e3 hO hB
       go_wp2
       go_roundw
       all_goals first
        | exact ⟨i + 1, by omega, by go_num, HO2.out, HB2.out⟩
        | ((repeat apply Exists.intro); exact ⟨⟨i + 1, by omega, by go_num, HO2.out, HB2.out⟩, rfl⟩)
        | (simp [intOf] <;> omega)
      ·by_cases hzl : z = loop
       ·have hzb : (z != loop) = false := by rw [hzl]; simp
        obtain ⟨y0, hy0⟩ : ∃ y, y = x0 := ⟨_, rfl⟩
        have HY := Lib.hid (show y0 = wgt l tt loop hd W b by rw [hy0, HX.out, wgt_no (fun k => by rw [← HZ.out] at k; exact k.2 hzl)])
        rw [← hy0]
        have hz3 : 0 ≤ z := by omega
        clear hy0 hzl
        have hbi : (b : Int) < (nB l : Int) := by omega
        have ck : U.cell? ⟨g, b, none⟩ = some (.float .f64 (W b)) := by
         have h1 := (hO.out.at (k := b) (x := W b) (by rw [List.getElem?_map, List.getElem?_range hbn]; rfl)).cell 0 _ rfl
         have e1 : 0 + b * tF.n + 0 = b := by show 0 + b * 1 + 0 = b; omega
         rw [e1] at h1
         exact h1
        have fk := hO.out.frozen b
        have hset := hO.out.set (k := b) (j := 0) (x := W b) (y := y0) (v := .float .f64 y0) (by rw [List.getElem?_map, List.getElem?_range hbn]; rfl) (by decide) rfl
        have e2 : b * tF.n + 0 = b := by show b * 1 + 0 = b; omega
        have e3 : Ht.upd W b y0 = wtK l tt loop hd ((ordL l).take (i + 1)) := by rw [HWn.out, ← HY.out]
        rw [e2, upd_row W hbn, e3] at hset
        have HO2 := Lib.hid hset
        have HB2 := Lib.hid (hB.out.setCell (p := ⟨g, b, none⟩) hgw (.float .f64 y0))
        have hst : ∀ a m w, (store a (.float .f64 y0) m).run Try.prog w = stored Try.prog w a (.float .f64 y0) m := fun a m w => run_store Try.prog w a _ m rfl
        clear hset e2 e3 hO hB
        go_wp2
        go_roundw
        all_goals first
         | exact ⟨i + 1, by omega, by go_num, HO2.out, HB2.out⟩
         | ((repeat apply Exists.intro); exact ⟨⟨i + 1, by omega, by go_num, HO2.out, HB2.out⟩, rfl⟩)
         | (simp [intOf] <;> omega)
       ·have hzb : (z != loop) = true := by simpa using hzl
        obtain ⟨t, rfl⟩ := Int.eq_ofNat_of_zero_le (show 0 ≤ z by omega)
        have hz3 : (0 : Int) ≤ (t : Int) := by omega
        obtain ⟨k1, k2⟩ := (@hdd_is l b (nL l)).1 (by rw [← HZ.out]; exact hz3)
        rw [← HZ.out, Int.toNat_natCast] at k1 k2
        have hti := HT.out.2 t k1 (by rw [k2]; exact HHeld.out) hzl
        have hop := hop_mul (show Ieee.double.mul x0 (tt t) = some (fmul x0 (tt t)) from mul_nn hxle (Nat.lt_of_le_of_lt hti.2 (by decide)) (Nat.lt_of_lt_of_le (by decide) hti.1))
        obtain ⟨gt, ot, ett, -, -, ctw⟩ := SlX.flo HT.out.1 (k := t) (x := tt t) (by rw [List.getElem?_map, List.getElem?_range k1]; rfl)
        have ctt : U.cell? ⟨gt, ot + t, none⟩ = some (.float .f64 (tt t)) := (hB.out.cell (World.block_lt_of_cell? _ _ ctw)).trans ctw
        have c8U : U.cell? ⟨pw, 8, none⟩ = some (.slice (some ⟨gt, ot, none⟩) (nL l) tcap) := by rw [← ett]; exact (hB.out.cell hpw).trans HCs.out.2.2
        have htn2 : (t : Int) < (nL l : Int) := by omega
        obtain ⟨y0, hy0⟩ : ∃ y, y = fmul x0 (tt t) := ⟨_, rfl⟩
        have HY := Lib.hid (show y0 = wgt l tt loop hd W b by rw [hy0, HX.out, wgt_yes (by rw [← HZ.out]; exact ⟨hz3, hzl⟩), ← HZ.out, Int.toNat_natCast])
        rw [← hy0] at hop
        clear hy0 k1 k2 hti ctw ett
        go_upto_region 15 with (fail)
        clear hop ctt c8U chh c7U
        have hbi : (b : Int) < (nB l : Int) := by omega
        have ck : U.cell? ⟨g, b, none⟩ = some (.float .f64 (W b)) := by
         have h1 := (hO.out.at (k := b) (x := W b) (by rw [List.getElem?_map, List.getElem?_range hbn]; rfl)).cell 0 _ rfl
         have e1 : 0 + b * tF.n + 0 = b := by show 0 + b * 1 + 0 = b; omega
         rw [e1] at h1
         exact h1
        have fk := hO.out.frozen b
        have hset := hO.out.set (k := b) (j := 0) (x := W b) (y := y0) (v := .float .f64 y0) (by rw [List.getElem?_map, List.getElem?_range hbn]; rfl) (by decide) rfl
        have e2 : b * tF.n + 0 = b := by show b * 1 + 0 = b; omega
        have e3 : Ht.upd W b y0 = wtK l tt loop hd ((ordL l).take (i + 1)) := by rw [HWn.out, ← HY.out]
        rw [e2, upd_row W hbn, e3] at hset
        have HO2 := Lib.hid hset
        have HB2 := Lib.hid (hB.out.setCell (p := ⟨g, b, none⟩) hgw (.float .f64 y0))
        have hst : ∀ a m w, (store a (.float .f64 y0) m).run Try.prog w = stored Try.prog w a (.float .f64 y0) m := fun a m w => run_store Try.prog w a _ m rfl
        clear hset e2 e3 hO hB
        go_wp2
        go_roundw
        all_goals first
         | exact ⟨i + 1, by omega, by go_num, HO2.out, HB2.out⟩
         | ((repeat apply Exists.intro); exact ⟨⟨i + 1, by omega, by go_num, HO2.out, HB2.out⟩, rfl⟩)
         | (simp [intOf] <;> omega)
   ·have hie : i = nB l := by omega
    have HF := Lib.hid (show OwR tF w.heap.size V (.slice (some ⟨g, 0, none⟩) (nB l) (nB l)) ((List.range (nB l)).map (wts l tt loop)) by
     have := hO.out
     rw [hie, List.take_of_length_le (by rw [ord_len HK.out.g7]; exact Nat.le_refl _)] at this
     unfold wts
     rw [← HHd.out]
     exact this)
    have hlt' : ¬ (i : Int) < (nB l : Int) := by omega
    clear hO hie
    go_wp2
    go_ret
    exact ⟨hB.out, _, rfl, HF.out⟩
 ·obtain ⟨t', ht'⟩ := Int.eq_ofNat_of_zero_le (show 0 ≤ loop by omega)
  have htn : t' < nL l := by omega
  have etn : loop.toNat = t' := by omega
  have hl0 : 0 ≤ loop := by omega
  have hgd : decide (loop ≥ 0) = true := decide_eq_true hl0
  have hld := HK.out.ld.below HK.out.bel
  obtain ⟨al, cl, hvl, -, -⟩ := hld.form
  rw [dL_len] at hvl
  subst hvl
  obtain ⟨gl, ol, ba, bn, bc, rfl, ch0w, -, -, -⟩ := hld.one htn
  have hhd1 : hd = hdN l t' := by rw [HHd.out]; unfold hd0; rw [if_neg hneg, etn]
  rw [← hhd1] at ch0w
  have ch0 : w2.cell? ⟨gl, ol + t' * 3, none⟩ = some (.int .i64 (hd : Int)) := (HB0.out.cell (World.block_lt_of_cell? _ _ ch0w)).trans ch0w
  have c22 : w2.cell? ⟨pw, 2, none⟩ = some (.slice (some ⟨gl, ol, none⟩) (nL l) cl) := (HB0.out.cell hpw).trans (HK.out.blk.cell 2)
  clear hld ch0w hhd1 ht'
  go_upto_region 5 with (fail)
  clear ch0 c22 etn
  go_wp2
  clear c42
  go_loopw [8, 9, 10, 32] (fun _ _ _ t wr => ∃ (i : Nat), i ≤ nB l ∧ t = .int .i64 (i : Int) ∧ Hid (OwR tF w.heap.size wr (.slice (some ⟨g, 0, none⟩) (nB l) (nB l)) ((List.range (nB l)).map (wtK l tt loop hd ((ordL l).take i)))) ∧ Hid (Below w.heap.size w wr)) (fun _ _ _ t _ => nB l - (intOf t).toNat)
  case atStart => exact ⟨0, by omega, rfl, HO0.out, HB0.out⟩
  case round =>
   clear HO0 HB0
   obtain ⟨i, hi, rfl, hO, hB⟩ := hrel
   obtain ⟨V, rfl⟩ : ∃ x : World, x = wr := ⟨_, rfl⟩
   by_cases hlt : i < nB l
   ·have hlt' : (i : Int) < (nB l : Int) := by omega
    obtain ⟨b, hb⟩ : ∃ b, (ordL l)[i]? = some b := ⟨_, List.getElem?_eq_getElem (by rw [ord_len HK.out.g7]; exact hlt)⟩
    have hbn : b < nB l := ord_lt HK.out.g7 (List.mem_of_getElem? hb)
    obtain ⟨go, oo, rfl, -, -, cow⟩ := SlX.int HR.out.1 (k := i) (x := (b : Int)) (by unfold nI; rw [List.getElem?_map, hb]; rfl)
    have co : V.cell? ⟨go, oo + i, none⟩ = some (.int .i64 (b : Int)) := (hB.out.cell (World.block_lt_of_cell? _ _ cow)).trans cow
    have hW1 : (ordL l).take (i + 1) = (ordL l).take i ++ [b] := by rw [List.take_add_one, hb]; rfl
    obtain ⟨W, hWd⟩ : ∃ W, W = wtK l tt loop hd ((ordL l).take i) := ⟨_, rfl⟩
    have hWle : ∀ c, W c ≤ inf := by rw [hWd]; exact wtK_le
    rw [← hWd] at hO
    have HWs := Lib.hid (show wtK l tt loop hd ((ordL l).take (i + 1)) = wst l tt loop hd W b by rw [hW1, wtK_succ, ← hWd])
    have HWle := Lib.hid hWle
    have HKV := Lib.hid (HK.out.below hB.out)
    clear hb hW1 hWd hWle cow
    go_wp2_with fail
    refine (holds19_ok HKV.out loop b hl2 hbn).mono ?_
    rintro e w5 ⟨rfl, rfl⟩
    obtain ⟨V, rfl⟩ : ∃ x : World, x = w5 := ⟨_, rfl⟩
    clear co
    cases hv : hol l loop b with
    | false =>
     have HO2 := Lib.hid (show OwR tF w.heap.size V (.slice (some ⟨g, 0, none⟩) (nB l) (nB l)) ((List.range (nB l)).map (wtK l tt loop hd ((ordL l).take (i + 1)))) by
      rw [HWs.out]
      unfold wst
      rw [if_neg (by rw [hv]; simp)]
      exact hO.out)
     clear hv HWs
     go_wp2
     go_roundw
     all_goals first
      | exact ⟨i + 1, by omega, by go_num, HO2.out, hB.out⟩
      | ((repeat apply Exists.intro); exact ⟨⟨i + 1, by omega, by go_num, HO2.out, hB.out⟩, rfl⟩)
      | (simp [intOf] <;> omega)
    | true =>
     have HHeld := Lib.hid hv
     have HWn := Lib.hid (show wtK l tt loop hd ((ordL l).take (i + 1)) = Ht.upd W b (wgt l tt loop hd W b) by rw [HWs.out]; unfold wst; rw [if_pos hv])
     clear hv HWs
     by_cases hbh : b = hd
     ·have hbhb : ((b : Int) != (hd : Int)) = false := by rw [hbh]; simp
      (try have hbz2 : ((b : Int) != 0) = false := by (rw [hbh, HHd0.out]; rfl))
      obtain ⟨x0, hx0⟩ : ∃ x, x = one := ⟨_, rfl⟩
      have HX := Lib.hid (show x0 = if b = hd then one else brg l W loop b false by rw [if_pos hbh]; exact hx0)
      clear hbh
      have hxle : x0 ≤ inf := by rw [hx0]; decide
      go_upto_region 12 with (fail)
      rw [show (4607182418800017408 : Nat) = x0 from hx0.symm]
      clear hx0
      obtain ⟨U, rfl⟩ : ∃ x : World, x = V := ⟨_, rfl⟩
      obtain ⟨z, hz⟩ : ∃ z, z = hdd l b (nL l) := ⟨_, rfl⟩
      have HZ := Lib.hid hz
      have hz1 := (@hdd_is l b (nL l)).2.1
      have hz2 := (@hdd_is l b (nL l)).2.2
      obtain ⟨gh, oh, ehh, -, -, chw⟩ := SlX.int HR.out.2 (k := b) (x := hdd l b (nL l)) (by rw [List.getElem?_map, List.getElem?_range hbn]; rfl)
      rw [← hz] at hz1 hz2 chw
      have chh : U.cell? ⟨gh, oh + b, none⟩ = some (.int .i64 z) := (hB.out.cell (World.block_lt_of_cell? _ _ chw)).trans chw
      have c7U : U.cell? ⟨pw, 7, none⟩ = some (.slice (some ⟨gh, oh, none⟩) (nB l) hcap) := by rw [← ehh]; exact (hB.out.cell hpw).trans HCs.out.2.1
      have hbi : (b : Int) < (nB l : Int) := by omega
      clear hz chw ehh
      by_cases hz0 : z < 0
      ·have hzd : decide (z ≥ 0) = false := decide_eq_false (by omega)
       have hz9 : ¬ (0 ≤ z) := by omega
       obtain ⟨y0, hy0⟩ : ∃ y, y = x0 := ⟨_, rfl⟩
       have HY := Lib.hid (show y0 = wgt l tt loop hd W b by rw [hy0, HX.out, wgt_no (fun k => by rw [← HZ.out] at k; omega)])
       rw [← hy0]
       clear hy0
       have hbi : (b : Int) < (nB l : Int) := by omega
       have ck : U.cell? ⟨g, b, none⟩ = some (.float .f64 (W b)) := by
        have h1 := (hO.out.at (k := b) (x := W b) (by rw [List.getElem?_map, List.getElem?_range hbn]; rfl)).cell 0 _ rfl
        have e1 : 0 + b * tF.n + 0 = b := by show 0 + b * 1 + 0 = b; omega
        rw [e1] at h1
        exact h1
       have fk := hO.out.frozen b
       have hset := hO.out.set (k := b) (j := 0) (x := W b) (y := y0) (v := .float .f64 y0) (by rw [List.getElem?_map, List.getElem?_range hbn]; rfl) (by decide) rfl
       have e2 : b * tF.n + 0 = b := by show b * 1 + 0 = b; omega
       have e3 : Ht.upd W b y0 = wtK l tt loop hd ((ordL l).take (i + 1)) := by rw [HWn.out, ← HY.out]
       rw [e2, upd_row W hbn, e3] at hset
       have HO2 := Lib.hid hset
       have HB2 := Lib.hid (hB.out.setCell (p := ⟨g, b, none⟩) hgw (.float .f64 y0))
       have hst : ∀ a m w, (store a (.float .f64 y0) m).run Try.prog w = stored Try.prog w a (.float .f64 y0) m := fun a m w => run_store Try.prog w a _ m rfl
       clear hset e2 e3 hO hB
       go_wp2
       go_roundw
       all_goals first
        | exact ⟨i + 1, by omega, by go_num, HO2.out, HB2.out⟩
        | ((repeat apply Exists.intro); exact ⟨⟨i + 1, by omega, by go_num, HO2.out, HB2.out⟩, rfl⟩)
        | (simp [intOf] <;> omega)
      ·by_cases hzl : z = loop
       ·have hzb : (z != loop) = false := by rw [hzl]; simp
        obtain ⟨y0, hy0⟩ : ∃ y, y = x0 := ⟨_, rfl⟩
        have HY := Lib.hid (show y0 = wgt l tt loop hd W b by rw [hy0, HX.out, wgt_no (fun k => by rw [← HZ.out] at k; exact k.2 hzl)])
        rw [← hy0]
        have hz3 : 0 ≤ z := by omega
        clear hy0 hzl
        have hbi : (b : Int) < (nB l : Int) := by omega
        have ck : U.cell? ⟨g, b, none⟩ = some (.float .f64 (W b)) := by
         have h1 := (hO.out.at (k := b) (x := W b) (by rw [List.getElem?_map, List.getElem?_range hbn]; rfl)).cell 0 _ rfl
         have e1 : 0 + b * tF.n + 0 = b := by show 0 + b * 1 + 0 = b; omega
         rw [e1] at h1
         exact h1
        have fk := hO.out.frozen b
        have hset := hO.out.set (k := b) (j := 0) (x := W b) (y := y0) (v := .float .f64 y0) (by rw [List.getElem?_map, List.getElem?_range hbn]; rfl) (by decide) rfl
        have e2 : b * tF.n + 0 = b := by show b * 1 + 0 = b; omega
        have e3 : Ht.upd W b y0 = wtK l tt loop hd ((ordL l).take (i + 1)) := by rw [HWn.out, ← HY.out]
        rw [e2, upd_row W hbn, e3] at hset
        have HO2 := Lib.hid hset
        have HB2 := Lib.hid (hB.out.setCell (p := ⟨g, b, none⟩) hgw (.float .f64 y0))
        have hst : ∀ a m w, (store a (.float .f64 y0) m).run Try.prog w = stored Try.prog w a (.float .f64 y0) m := fun a m w => run_store Try.prog w a _ m rfl
        clear hset e2 e3 hO hB
        go_wp2
        go_roundw
        all_goals first
         | exact ⟨i + 1, by omega, by go_num, HO2.out, HB2.out⟩
         | ((repeat apply Exists.intro); exact ⟨⟨i + 1, by omega, by go_num, HO2.out, HB2.out⟩, rfl⟩)
         | (simp [intOf] <;> omega)
       ·have hzb : (z != loop) = true := by simpa using hzl
        obtain ⟨t, rfl⟩ := Int.eq_ofNat_of_zero_le (show 0 ≤ z by omega)
        have hz3 : (0 : Int) ≤ (t : Int) := by omega
        obtain ⟨k1, k2⟩ := (@hdd_is l b (nL l)).1 (by rw [← HZ.out]; exact hz3)
        rw [← HZ.out, Int.toNat_natCast] at k1 k2
        have hti := HT.out.2 t k1 (by rw [k2]; exact HHeld.out) hzl
        have hop := hop_mul (show Ieee.double.mul x0 (tt t) = some (fmul x0 (tt t)) from mul_nn hxle (Nat.lt_of_le_of_lt hti.2 (by decide)) (Nat.lt_of_lt_of_le (by decide) hti.1))
        obtain ⟨gt, ot, ett, -, -, ctw⟩ := SlX.flo HT.out.1 (k := t) (x := tt t) (by rw [List.getElem?_map, List.getElem?_range k1]; rfl)
        have ctt : U.cell? ⟨gt, ot + t, none⟩ = some (.float .f64 (tt t)) := (hB.out.cell (World.block_lt_of_cell? _ _ ctw)).trans ctw
        have c8U : U.cell? ⟨pw, 8, none⟩ = some (.slice (some ⟨gt, ot, none⟩) (nL l) tcap) := by rw [← ett]; exact (hB.out.cell hpw).trans HCs.out.2.2
        have htn2 : (t : Int) < (nL l : Int) := by omega
        obtain ⟨y0, hy0⟩ : ∃ y, y = fmul x0 (tt t) := ⟨_, rfl⟩
        have HY := Lib.hid (show y0 = wgt l tt loop hd W b by rw [hy0, HX.out, wgt_yes (by rw [← HZ.out]; exact ⟨hz3, hzl⟩), ← HZ.out, Int.toNat_natCast])
        rw [← hy0] at hop
        clear hy0 k1 k2 hti ctw ett
        go_upto_region 15 with (fail)
        clear hop ctt c8U chh c7U
        have hbi : (b : Int) < (nB l : Int) := by omega
        have ck : U.cell? ⟨g, b, none⟩ = some (.float .f64 (W b)) := by
         have h1 := (hO.out.at (k := b) (x := W b) (by rw [List.getElem?_map, List.getElem?_range hbn]; rfl)).cell 0 _ rfl
         have e1 : 0 + b * tF.n + 0 = b := by show 0 + b * 1 + 0 = b; omega
         rw [e1] at h1
         exact h1
        have fk := hO.out.frozen b
        have hset := hO.out.set (k := b) (j := 0) (x := W b) (y := y0) (v := .float .f64 y0) (by rw [List.getElem?_map, List.getElem?_range hbn]; rfl) (by decide) rfl
        have e2 : b * tF.n + 0 = b := by show b * 1 + 0 = b; omega
        have e3 : Ht.upd W b y0 = wtK l tt loop hd ((ordL l).take (i + 1)) := by rw [HWn.out, ← HY.out]
        rw [e2, upd_row W hbn, e3] at hset
        have HO2 := Lib.hid hset
        have HB2 := Lib.hid (hB.out.setCell (p := ⟨g, b, none⟩) hgw (.float .f64 y0))
        have hst : ∀ a m w, (store a (.float .f64 y0) m).run Try.prog w = stored Try.prog w a (.float .f64 y0) m := fun a m w => run_store Try.prog w a _ m rfl
        clear hset e2 e3 hO hB
        go_wp2
        go_roundw
        all_goals first
         | exact ⟨i + 1, by omega, by go_num, HO2.out, HB2.out⟩
         | ((repeat apply Exists.intro); exact ⟨⟨i + 1, by omega, by go_num, HO2.out, HB2.out⟩, rfl⟩)
         | (simp [intOf] <;> omega)
     ·have hbh' : (b : Int) ≠ (hd : Int) := by omega
      have hbhb : ((b : Int) != (hd : Int)) = true := by simpa using hbh'
      (try have hbz : (b : Int) ≠ 0 := by (have := HHd0.out; omega))
      (try have hbz2 : ((b : Int) != 0) = true := by simpa using hbz)
      have HSu := Lib.hid (wsum_ok HKV.out V.heap.size _ W loop b false (hO.out.sl (fun e => by have := hO.out.lt e; omega)) HWle.out hl2 hbn)
      have HBn := Lib.hid hbh
      clear hbh hbh'
      (try clear hbz)
      go_wp2_with fail
      refine HSu.out.mono ?_
      rintro e U ⟨rfl, b6⟩
      obtain ⟨x0, hx0⟩ : ∃ x, x = brg l W loop b false := ⟨_, rfl⟩
      rw [← hx0]
      have HX := Lib.hid (show x0 = if b = hd then one else brg l W loop b false by rw [if_neg HBn.out]; exact hx0)
      have hxle : x0 ≤ inf := by rw [hx0]; exact brg_le
      have hO4 := Lib.hid (hO.out.below b6)
      have hB4 := Lib.hid (bThen hB.out b6)
      clear hx0 hO hB HSu b6
      have hO := hO4
      have hB := hB4
      clear hO4 hB4
      obtain ⟨z, hz⟩ : ∃ z, z = hdd l b (nL l) := ⟨_, rfl⟩
      have HZ := Lib.hid hz
      have hz1 := (@hdd_is l b (nL l)).2.1
      have hz2 := (@hdd_is l b (nL l)).2.2
      obtain ⟨gh, oh, ehh, -, -, chw⟩ := SlX.int HR.out.2 (k := b) (x := hdd l b (nL l)) (by rw [List.getElem?_map, List.getElem?_range hbn]; rfl)
      rw [← hz] at hz1 hz2 chw
      have chh : U.cell? ⟨gh, oh + b, none⟩ = some (.int .i64 z) := (hB.out.cell (World.block_lt_of_cell? _ _ chw)).trans chw
      have c7U : U.cell? ⟨pw, 7, none⟩ = some (.slice (some ⟨gh, oh, none⟩) (nB l) hcap) := by rw [← ehh]; exact (hB.out.cell hpw).trans HCs.out.2.1
      have hbi : (b : Int) < (nB l : Int) := by omega
      clear hz chw ehh
      by_cases hz0 : z < 0
      ·have hzd : decide (z ≥ 0) = false := decide_eq_false (by omega)
       have hz9 : ¬ (0 ≤ z) := by omega
       obtain ⟨y0, hy0⟩ : ∃ y, y = x0 := ⟨_, rfl⟩
       have HY := Lib.hid (show y0 = wgt l tt loop hd W b by rw [hy0, HX.out, wgt_no (fun k => by rw [← HZ.out] at k; omega)])
       rw [← hy0]
       clear hy0
       have hbi : (b : Int) < (nB l : Int) := by omega
       have ck : U.cell? ⟨g, b, none⟩ = some (.float .f64 (W b)) := by
        have h1 := (hO.out.at (k := b) (x := W b) (by rw [List.getElem?_map, List.getElem?_range hbn]; rfl)).cell 0 _ rfl
        have e1 : 0 + b * tF.n + 0 = b := by show 0 + b * 1 + 0 = b; omega
        rw [e1] at h1
        exact h1
       have fk := hO.out.frozen b
       have hset := hO.out.set (k := b) (j := 0) (x := W b) (y := y0) (v := .float .f64 y0) (by rw [List.getElem?_map, List.getElem?_range hbn]; rfl) (by decide) rfl
       have e2 : b * tF.n + 0 = b := by show b * 1 + 0 = b; omega
       have e3 : Ht.upd W b y0 = wtK l tt loop hd ((ordL l).take (i + 1)) := by rw [HWn.out, ← HY.out]
       rw [e2, upd_row W hbn, e3] at hset
       have HO2 := Lib.hid hset
       have HB2 := Lib.hid (hB.out.setCell (p := ⟨g, b, none⟩) hgw (.float .f64 y0))
       have hst : ∀ a m w, (store a (.float .f64 y0) m).run Try.prog w = stored Try.prog w a (.float .f64 y0) m := fun a m w => run_store Try.prog w a _ m rfl
       clear hset e2 e3 hO hB
       go_wp2
       go_roundw
       all_goals first
        | exact ⟨i + 1, by omega, by go_num, HO2.out, HB2.out⟩
        | ((repeat apply Exists.intro); exact ⟨⟨i + 1, by omega, by go_num, HO2.out, HB2.out⟩, rfl⟩)
        | (simp [intOf] <;> omega)
      ·by_cases hzl : z = loop
       ·have hzb : (z != loop) = false := by rw [hzl]; simp
        obtain ⟨y0, hy0⟩ : ∃ y, y = x0 := ⟨_, rfl⟩
        have HY := Lib.hid (show y0 = wgt l tt loop hd W b by rw [hy0, HX.out, wgt_no (fun k => by rw [← HZ.out] at k; exact k.2 hzl)])
        rw [← hy0]
        have hz3 : 0 ≤ z := by omega
        clear hy0 hzl
        have hbi : (b : Int) < (nB l : Int) := by omega
        have ck : U.cell? ⟨g, b, none⟩ = some (.float .f64 (W b)) := by
         have h1 := (hO.out.at (k := b) (x := W b) (by rw [List.getElem?_map, List.getElem?_range hbn]; rfl)).cell 0 _ rfl
         have e1 : 0 + b * tF.n + 0 = b := by show 0 + b * 1 + 0 = b; omega
         rw [e1] at h1
         exact h1
        have fk := hO.out.frozen b
        have hset := hO.out.set (k := b) (j := 0) (x := W b) (y := y0) (v := .float .f64 y0) (by rw [List.getElem?_map, List.getElem?_range hbn]; rfl) (by decide) rfl
        have e2 : b * tF.n + 0 = b := by show b * 1 + 0 = b; omega
        have e3 : Ht.upd W b y0 = wtK l tt loop hd ((ordL l).take (i + 1)) := by rw [HWn.out, ← HY.out]
        rw [e2, upd_row W hbn, e3] at hset
        have HO2 := Lib.hid hset
        have HB2 := Lib.hid (hB.out.setCell (p := ⟨g, b, none⟩) hgw (.float .f64 y0))
        have hst : ∀ a m w, (store a (.float .f64 y0) m).run Try.prog w = stored Try.prog w a (.float .f64 y0) m := fun a m w => run_store Try.prog w a _ m rfl
        clear hset e2 e3 hO hB
        go_wp2
        go_roundw
        all_goals first
         | exact ⟨i + 1, by omega, by go_num, HO2.out, HB2.out⟩
         | ((repeat apply Exists.intro); exact ⟨⟨i + 1, by omega, by go_num, HO2.out, HB2.out⟩, rfl⟩)
         | (simp [intOf] <;> omega)
       ·have hzb : (z != loop) = true := by simpa using hzl
        obtain ⟨t, rfl⟩ := Int.eq_ofNat_of_zero_le (show 0 ≤ z by omega)
        have hz3 : (0 : Int) ≤ (t : Int) := by omega
        obtain ⟨k1, k2⟩ := (@hdd_is l b (nL l)).1 (by rw [← HZ.out]; exact hz3)
        rw [← HZ.out, Int.toNat_natCast] at k1 k2
        have hti := HT.out.2 t k1 (by rw [k2]; exact HHeld.out) hzl
        have hop := hop_mul (show Ieee.double.mul x0 (tt t) = some (fmul x0 (tt t)) from mul_nn hxle (Nat.lt_of_le_of_lt hti.2 (by decide)) (Nat.lt_of_lt_of_le (by decide) hti.1))
        obtain ⟨gt, ot, ett, -, -, ctw⟩ := SlX.flo HT.out.1 (k := t) (x := tt t) (by rw [List.getElem?_map, List.getElem?_range k1]; rfl)
        have ctt : U.cell? ⟨gt, ot + t, none⟩ = some (.float .f64 (tt t)) := (hB.out.cell (World.block_lt_of_cell? _ _ ctw)).trans ctw
        have c8U : U.cell? ⟨pw, 8, none⟩ = some (.slice (some ⟨gt, ot, none⟩) (nL l) tcap) := by rw [← ett]; exact (hB.out.cell hpw).trans HCs.out.2.2
        have htn2 : (t : Int) < (nL l : Int) := by omega
        obtain ⟨y0, hy0⟩ : ∃ y, y = fmul x0 (tt t) := ⟨_, rfl⟩
        have HY := Lib.hid (show y0 = wgt l tt loop hd W b by rw [hy0, HX.out, wgt_yes (by rw [← HZ.out]; exact ⟨hz3, hzl⟩), ← HZ.out, Int.toNat_natCast])
        rw [← hy0] at hop
        clear hy0 k1 k2 hti ctw ett
        go_upto_region 15 with (fail)
        clear hop ctt c8U chh c7U
        have hbi : (b : Int) < (nB l : Int) := by omega
        have ck : U.cell? ⟨g, b, none⟩ = some (.float .f64 (W b)) := by
         have h1 := (hO.out.at (k := b) (x := W b) (by rw [List.getElem?_map, List.getElem?_range hbn]; rfl)).cell 0 _ rfl
         have e1 : 0 + b * tF.n + 0 = b := by show 0 + b * 1 + 0 = b; omega
         rw [e1] at h1
         exact h1
        have fk := hO.out.frozen b
        have hset := hO.out.set (k := b) (j := 0) (x := W b) (y := y0) (v := .float .f64 y0) (by rw [List.getElem?_map, List.getElem?_range hbn]; rfl) (by decide) rfl
        have e2 : b * tF.n + 0 = b := by show b * 1 + 0 = b; omega
        have e3 : Ht.upd W b y0 = wtK l tt loop hd ((ordL l).take (i + 1)) := by rw [HWn.out, ← HY.out]
        rw [e2, upd_row W hbn, e3] at hset
        have HO2 := Lib.hid hset
        have HB2 := Lib.hid (hB.out.setCell (p := ⟨g, b, none⟩) hgw (.float .f64 y0))
        have hst : ∀ a m w, (store a (.float .f64 y0) m).run Try.prog w = stored Try.prog w a (.float .f64 y0) m := fun a m w => run_store Try.prog w a _ m rfl
        clear hset e2 e3 hO hB
        go_wp2
        go_roundw
        all_goals first
         | exact ⟨i + 1, by omega, by go_num, HO2.out, HB2.out⟩
         | ((repeat apply Exists.intro); exact ⟨⟨i + 1, by omega, by go_num, HO2.out, HB2.out⟩, rfl⟩)
         | (simp [intOf] <;> omega)
   ·have hie : i = nB l := by omega
    have HF := Lib.hid (show OwR tF w.heap.size V (.slice (some ⟨g, 0, none⟩) (nB l) (nB l)) ((List.range (nB l)).map (wts l tt loop)) by
     have := hO.out
     rw [hie, List.take_of_length_le (by rw [ord_len HK.out.g7]; exact Nat.le_refl _)] at this
     unfold wts
     rw [← HHd.out]
     exact this)
    have hlt' : ¬ (i : Int) < (nB l : Int) := by omega
    clear hO hie
    go_wp2
    go_ret
    exact ⟨hB.out, _, rfl, HF.out⟩
end Go.Proofs.Ytcflgogodgfccaa
namespace Go.Proofs.Ytcflgogodgfccaa
open Go Go.RowKit Go.Wr Go.Fl Go.Ht
set_option maxHeartbeats 4000000
set_option maxRecDepth 100000
theorem SlX.exre {α : Type} {R : RT Try.prog α} {p q : Nat} {w w' : World} {v : Value} {l : List α} (h : SlX R q w v l) (x : Ex q w w') (hp : w.heap.size ≤ p) : SlX R p w' v l := by
 obtain ⟨a0, cap, e, h1, h2, hc⟩ := h
 exact ⟨a0, cap, e, h1, h2, fun k y hk => by
  obtain ⟨b, o, e1, e2, e3⟩ := hc k y hk
  exact ⟨b, o, e1, fun e => by have := e3.1; omega, e3.ex x e2⟩⟩
structure Wk0 (l : List In) (p pw : Nat) (wa : World) (vb vl vo vi va vn vh vt : Value) (w : World) : Prop where
 g7 : G7 l
 fin : FinP l p wa
 bd : Bd p wa vb (dB l)
 ld : Ld p wa vl (dL l)
 ro : SlX tI p wa vo (nI (ordL l))
 bel : Below wa.heap.size wa w
 blk : Blk w pw 69 #[.pointer (some ⟨p, 0, none⟩), vb, vl, vi, vo, va, vn, vh, vt]
 gz : wa.heap.size ≤ pw
 inr : ∃ rs : List Sv, SlX tBB pw w vi rs ∧ rs.length = nL l ∧ ∀ (i : Nat) (s : Sv), rs[i]? = some s → SlX tB pw w s.v ((List.range (nB l)).map (inB l i))
 inn : SlX tI pw w vn ((List.range (nB l)).map fun b => inn l b (nL l))
 hdd : SlX tI pw w vh ((List.range (nB l)).map fun b => hdd l b (nL l))
 ah : ∃ cs : List Sv, SlX tCC pw w va cs ∧ cs.length = nB l ∧ ∀ (b : Nat) (s : Sv), cs[b]? = some s → SlX tCm pw w s.v (egs l b (nB l))
theorem Wk0.wk {l : List In} {p pw g : Nat} {wa : World} {vb vl vo vi va vn vh vt vt' : Value} {w w' : World} (h : Wk0 l p pw wa vb vl vo vi va vn vh vt w) (x : Ex pw w w') (hb : Blk w' pw 69 #[.pointer (some ⟨p, 0, none⟩), vb, vl, vi, vo, va, vn, vh, vt']) (hg : w.heap.size ≤ g) : Wk l p pw g wa vb vl vo vi va vn vh vt' w' := by
 refine ⟨h.g7, h.fin, h.bd, h.ld, h.ro, h.bel.trans (x.below h.gz h.bel.size), hb, by have := h.blk.lt; omega, by have := h.bel.size; omega, ?_, SlX.exre h.inn x hg, SlX.exre h.hdd x hg, ?_⟩
 ·obtain ⟨rs, h1, h2, h3⟩ := h.inr
  exact ⟨rs, SlX.exre h1 x hg, h2, fun i s hs => SlX.exre (h3 i s hs) x hg⟩
 ·obtain ⟨cs, h1, h2, h3⟩ := h.ah
  exact ⟨cs, SlX.exre h1 x hg, h2, fun i s hs => SlX.exre (h3 i s hs) x hg⟩
def Rln (l : List In) (x y : Int) : Prop := lnB l x < lnB l y ∨ lnB l x = lnB l y ∧ x < y
theorem rln_ord (l : List In) : Ht.Ord (Rln l) (fun y x => decide (lnB l y - lnB l x < 0)) (fun x => 0 ≤ x ∧ x < (nL l : Int)) :=
 ⟨fun _ _ _ h1 h2 => by unfold Rln at *; omega, fun _ _ h1 h2 => by have := of_decide_eq_true h2; unfold Rln; omega, fun _ _ h1 h2 => by have := of_decide_eq_false h2; unfold Rln; omega⟩
theorem rln_prev {l : List In} {Z : List Int} {n i : Nat} {x y : Int} (hp : Z.Perm (iot n)) (hs : Z.Pairwise (Rln l)) (hx : Z[i]? = some x) (hy : y ∈ iot n) (hlt : lnB l y < lnB l x) : y ∈ Z.take i := by
 have hm : y ∈ Z := hp.symm.subset hy
 obtain ⟨m, hml, rfl⟩ := List.getElem_of_mem hm
 obtain ⟨hil, rfl⟩ := List.getElem?_eq_some_iff.1 hx
 have hmi : m < i := by
  rcases Nat.lt_trichotomy m i with h | h | h
  ·exact h
  ·subst h; omega
  ·have := List.pairwise_iff_getElem.1 hs i m hil hml h
   unfold Rln at this
   omega
 rw [List.mem_take_iff_getElem]
 exact ⟨m, by omega, rfl⟩
theorem run_min {c : Nat} (hc : c ≤ inf) (ats : Array TypeId) (t : TypeId) (w : World) : (Builtin.min_ ats t #[.float .f64 c, .float .f64 4606900943823306752]).run Try.prog w = .ok (.float .f64 (mn c)) w := by
 have ho : FloatKind.f64.format.order c f31 = some (compare c f31) := order_nn hc (by decide)
 have e : f31 = 4606900943823306752 := rfl
 rw [e] at ho
 unfold Builtin.min_ Builtin.min2
 simp only [List.foldlM, bind_pure]
 rw [ho]
 rcases Nat.lt_trichotomy c 4606900943823306752 with h | h | h
 ·have hm : mn c = c := by unfold mn; rw [e, if_neg (by omega)]
  rw [Nat.compare_eq_lt.2 h, hm]; rfl
 ·have hm : mn c = c := by unfold mn; rw [e, if_neg (by omega)]
  rw [Nat.compare_eq_eq.2 h, hm, h]; rfl
 ·have hm : mn c = 4606900943823306752 := by unfold mn; rw [e, if_pos h]
  rw [Nat.compare_eq_gt.2 h, hm]; rfl
theorem run_makeF (n : Nat) (hn : n ≤ 1048576) (w : World) : ∃ w5, (Instr.makeSlice 32 (.int .i64 (n : Int)) (.int .i64 (n : Int))).run Try.prog w = .ok (.slice (some ⟨w.heap.size, 0, none⟩) n n) w5 ∧ OwR tF w.heap.size w5 (.slice (some ⟨w.heap.size, 0, none⟩) n n) (List.replicate n 0) ∧ Below w.heap.size w w5 ∧ w.heap.size < w5.heap.size := by
 obtain ⟨i, hi, hz0, hz1, hz2⟩ := info_parts tF.info
 have hr := run_make_row 32 39 i (.float .f64 0) tF.und hi hz0 hz1 rfl .i64 .i64 n (by rw [hz2]; show 8 * n ≤ _; omega) (by omega) w
 have h1 : (madeCells #[Value.float .f64 0] n).toList = tF.cs (List.replicate n 0) := by
  have := tF.cs_rep 0 rfl n
  have e : n * tF.n = n := Nat.mul_one n
  rw [e] at this
  exact this
 refine ⟨_, hr, ?_, bAl (bRefl w) _, by simp⟩
 have := OwR.new (R := tF) (w := w) rfl h1 (by rw [List.length_replicate]; unfold maxLen; omega)
 rw [List.length_replicate] at this
 exact this
theorem turn_ok {l : List In} {p pw : Nat} {wa : World} {vb vl vo vi va vn vh vt : Value} {w : World} (h : Wk0 l p pw wa vb vl vo vi va vn vh vt w) :
  Calls Try.prog 46 #[.pointer (some ⟨pw, 0, none⟩)] w fun e w' => e = .returned (.tuple #[]) ∧ Ex pw w w' ∧ ∃ vt g, w.heap.size ≤ g ∧ Wk l p pw g wa vb vl vo vi va vn vh vt w' ∧ SlX tF w'.heap.size w' vt ((List.range (nL l)).map (tT l)) := by
 have HK := Lib.hid h
 have h8 : nL l ≤ 8 := h.g7.hd8
 have hpw := h.blk.lt
 have hld := h.ld.below h.bel
 obtain ⟨al, cl, rfl, -, -⟩ := hld.form
 rw [dL_len] at hld
 rw [dL_len] at HK ⊢
 have c2w : w.cell? ⟨pw, 2, none⟩ = some (.slice al (nL l) cl) := HK.out.blk.cell 2
 clear h hld
 go_enter Try.func46, Try.ntmps46
 go_upto_region 1 with (fail)
 obtain ⟨bx, hbx⟩ : ∃ x, x = w.heap.size := ⟨_, rfl⟩
 have hc0 : (w.alloc (.cells #[.pointer (some ⟨pw, 0, none⟩)] 63)).cell? ⟨bx, 0, none⟩ = some (.pointer (some ⟨pw, 0, none⟩)) := by rw [hbx]; exact (Blk.new w 63 #[.pointer (some ⟨pw, 0, none⟩)]).cell 0
 have hb0 : Below w.heap.size w (w.alloc (.cells #[.pointer (some ⟨pw, 0, none⟩)] 63)) := bAl (bRefl w) _
 have hz0 : (w.alloc (.cells #[.pointer (some ⟨pw, 0, none⟩)] 63)).heap.size = bx + 1 := by rw [hbx]; simp
 rw [← hbx]
 have HBX := Lib.hid hbx
 clear hbx
 generalize w.alloc (.cells #[.pointer (some ⟨pw, 0, none⟩)] 63) = w1 at hc0 hb0 hz0 ⊢
 have HB0 := Lib.hid hb0
 have HZ0 := Lib.hid hz0
 have c2 : w1.cell? ⟨pw, 2, none⟩ = some (.slice al (nL l) cl) := (hb0.cell hpw).trans c2w
 have HBlk := Lib.hid (HK.out.blk.below hb0 hpw)
 clear hb0 hz0 c2w
 refine wp_region_held_drew (S := fun w' => w'.cell? ⟨bx, 0, none⟩ = some (.pointer (some ⟨pw, 0, none⟩)) ∧ w'.cell? ⟨pw, 2, none⟩ = some (.slice al (nL l) cl)) mix ⟨hc0, c2⟩ (fun hS => ?_)
 refine wpAnyH_take (i := 0) (v := .pointer (some ⟨pw, 0, none⟩)) rfl (by kernel_rfl) (by kernel_rfl) (by kernel_rfl) (fun _ _ _ h => h) (Or.inl ⟨by rfl, fun w' hw' => by (try go_split_ands); go_simp <;> omega⟩) hS ?_
 simp only [Act.put, List.getElem_toArray, List.getElem_cons_zero, List.setIfInBounds_toArray, List.set_cons_zero, List.set_cons_succ]
 refine wpAnyH_take (i := 1) (v := .pointer (some ⟨pw, 0, none⟩)) rfl (by kernel_rfl) (by kernel_rfl) (by kernel_rfl) (fun _ _ _ h => h) (Or.inl ⟨by rfl, fun w' hw' => by (try go_split_ands); go_simp <;> omega⟩) hS ?_
 simp only [Act.put, List.getElem_toArray, List.getElem_cons_zero, List.getElem_cons_succ, List.setIfInBounds_toArray, List.set_cons_zero, List.set_cons_succ]
 refine wpAnyH_take (i := 2) (v := .pointer (some ⟨pw, 0, none⟩)) rfl (by kernel_rfl) (by kernel_rfl) (by kernel_rfl) (fun _ _ _ h => h) (Or.inl ⟨by rfl, fun w' hw' => by (try go_split_ands); go_simp <;> omega⟩) hS ?_
 simp only [Act.put, List.getElem_toArray, List.getElem_cons_zero, List.getElem_cons_succ, List.setIfInBounds_toArray, List.set_cons_zero, List.set_cons_succ]
 refine wpAnyH_take (i := 3) (v := .pointer (some ⟨pw, 2, none⟩)) rfl (by kernel_rfl) (by kernel_rfl) (by kernel_rfl) (fun _ _ _ h => h) (Or.inl ⟨by rfl, fun w' hw' => by (try go_split_ands); go_simp <;> omega⟩) hS ?_
 simp only [Act.put, List.getElem_toArray, List.getElem_cons_zero, List.getElem_cons_succ, List.setIfInBounds_toArray, List.set_cons_zero, List.set_cons_succ]
 refine wpAnyH_take (i := 4) (v := .slice al (nL l) cl) rfl (by kernel_rfl) (by kernel_rfl) (by kernel_rfl) (fun _ _ _ h => h) (Or.inl ⟨by rfl, fun w' hw' => by (try go_split_ands); go_simp <;> omega⟩) hS ?_
 simp only [Act.put, List.getElem_toArray, List.getElem_cons_zero, List.getElem_cons_succ, List.setIfInBounds_toArray, List.set_cons_zero, List.set_cons_succ]
 refine wpAnyH_take (i := 5) (v := .int .i64 (nL l : Int)) rfl (by kernel_rfl) (by kernel_rfl) (by kernel_rfl) (fun _ _ _ h => h) (Or.inl ⟨by rfl, fun w' hw' => by (try go_split_ands); go_simp <;> omega⟩) hS ?_
 simp only [Act.put, List.getElem_toArray, List.getElem_cons_zero, List.getElem_cons_succ, List.setIfInBounds_toArray, List.set_cons_zero, List.set_cons_succ]
 obtain ⟨w5, hmk, how, hbw, hsw⟩ := run_makeF (nL l) (by omega) w1.drew
 refine wpAnyH_ready (rs := [6]) (by kernel_rfl) (by simp) ?_
 refine AllReadyH.cons rfl (fun K hK => ?_) AllReadyH.nil
 go_simp
 have hS5 : w5.cell? ⟨bx, 0, none⟩ = some (.pointer (some ⟨pw, 0, none⟩)) ∧ w5.cell? ⟨pw, 2, none⟩ = some (.slice al (nL l) cl) := ⟨(hbw.cell (World.block_lt_of_cell? _ _ hc0)).trans hc0, (hbw.cell (World.block_lt_of_cell? _ _ c2)).trans c2⟩
 refine hK.out _ _ hS5 (fun hS => ?_)
 clear hK K
 have hb15 : Below w1.heap.size w1 w5 := ⟨hbw.os, hbw.tape, hbw.output, hbw.size, hbw.block⟩
 have hbl5 := HBlk.out.below hb15 HBlk.out.lt
 have f8 := hbl5.frozen 8
 have c8 := hbl5.cell 8
 obtain ⟨g, hg⟩ : ∃ x, x = w1.heap.size := ⟨_, rfl⟩
 have how1 : OwR tF g w5 (.slice (some ⟨g, 0, none⟩) (nL l) (nL l)) (List.replicate (nL l) 0) := by rw [hg]; exact how
 have hgz : g = bx + 1 := hg.trans HZ0.out
 clear how hbw hsw hmk
 refine wpAnyH_take (i := 7) (v := .pointer (some ⟨pw, 0, none⟩)) rfl (by kernel_rfl) (by kernel_rfl) (by kernel_rfl) (fun _ _ _ h => h) (Or.inl ⟨by rfl, fun w' hw' => by (try go_split_ands); go_simp <;> omega⟩) hS ?_
 simp only [Act.put, List.getElem_toArray, List.getElem_cons_zero, List.getElem_cons_succ, List.setIfInBounds_toArray, List.set_cons_zero, List.set_cons_succ]
 refine wpAnyH_take (i := 8) (v := .pointer (some ⟨pw, 8, none⟩)) rfl (by kernel_rfl) (by kernel_rfl) (by kernel_rfl) (fun _ _ _ h => h) (Or.inl ⟨by rfl, fun w' hw' => by (try go_split_ands); go_simp <;> omega⟩) hS ?_
 simp only [Act.put, List.getElem_toArray, List.getElem_cons_zero, List.getElem_cons_succ, List.setIfInBounds_toArray, List.set_cons_zero, List.set_cons_succ]
 refine wpAnyH_ready (rs := [9]) (by kernel_rfl) (by simp) ?_
 refine AllReadyH.cons rfl (fun K hK => ?_) AllReadyH.nil
 go_simp
 rw [← hg]
 obtain ⟨w6, hw6⟩ : ∃ x, x = w5.setCell ⟨pw, 8, none⟩ (.slice (some ⟨g, 0, none⟩) (nL l) (nL l)) := ⟨_, rfl⟩
 have hbp : bx ≠ pw := by have := HBX.out; omega
 have hcb6 : w6.cell? ⟨bx, 0, none⟩ = some (.pointer (some ⟨pw, 0, none⟩)) := by rw [hw6]; exact (World.cell?_of_block (Below.heap_setCell w5 ⟨pw, 8, none⟩ _ bx hbp)).trans hS.1
 have hbl6 : Blk w6 pw 69 #[.pointer (some ⟨p, 0, none⟩), vb, .slice al (nL l) cl, vi, vo, va, vn, vh, .slice (some ⟨g, 0, none⟩) (nL l) (nL l)] := by rw [hw6]; exact hbl5.set 8 _
 have how6 : OwR tF g w6 (.slice (some ⟨g, 0, none⟩) (nL l) (nL l)) (List.replicate (nL l) 0) := by rw [hw6]; exact how1.set_other (how1.ne hbl5 (by decide))
 have hx6 : Ex pw w w6 := by rw [hw6]; exact (Ex.of_below (bThen HB0.out hb15)).set 8 _
 rw [← hw6]
 refine hK.out _ _ ⟨hcb6, hbl6.cell 2⟩ (fun hS => ?_)
 refine wpAnyH_done (by kernel_rfl) ?_ _
 have c26 : w6.cell? ⟨pw, 2, none⟩ = some (.slice al (nL l) cl) := hbl6.cell 2
 have hwg : w.heap.size ≤ g := by have := HBX.out; omega
 have HP6 := Lib.hid (And.intro hx6 (And.intro hbl6 how6))
 have HGB := Lib.hid (And.intro hwg (And.intro (show bx < g by omega) hbp))
 clear hK K hw6 hS5 hbl5 hb15 f8 c8 hg how1 hgz hbp hbl6 how6 hx6 hwg HBlk c2 hc0
 clear hS
 go_upto_region 3 with (refine wpl_make tI 0 rfl rfl (.tmp 22) (.tmp 22) rfl .i64 .i64 _ _ (nL l) rfl rfl rfl rfl (by show 8 * _ ≤ _; omega) (by unfold maxLen; omega) ?_; intro w7 how7 hbw7 hsw7)
 obtain ⟨g2, hg2⟩ : ∃ x, x = w6.heap.size := ⟨_, rfl⟩
 rw [← hg2] at how7 hbw7 ⊢
 have hgg2 : g < g2 := by have := HP6.out.2.2.lt (g := g) rfl; omega
 have hwg2 : w.heap.size ≤ g2 := by have := HGB.out.1; omega
 have hcb7 : w7.cell? ⟨bx, 0, none⟩ = some (.pointer (some ⟨pw, 0, none⟩)) := (hbw7.cell (by show bx < g2; have := HGB.out.2.1; omega)).trans hcb6
 have hwk7 := (HK.out.wk HP6.out.1 HP6.out.2.1 hwg2).below (by rw [← hg2]; exact hbw7)
 have hS0 : SW g2 w7 g2 (nL l) (nL l) (flI (nL l) 0) w7 := ⟨Ex.refl _ _, by rw [flI_zero]; exact how7⟩
 have hgb : bx ≠ g2 := by have := HGB.out.2.1; omega
 have hbx7 : bx < w7.heap.size := by have := hbw7.size; have := HGB.out.2.1; omega
 have HC := Lib.hid (show Cmp 72 (.pointer (some ⟨bx, 0, none⟩)) (fun x y => lnB l x - lnB l y) (fun x => 0 ≤ x ∧ x < (nL l : Int)) w7 g2 from
  ⟨fun args w => call_enter Try.func72 (by kernel_rfl) (by kernel_rfl) args w, fun x y w' hx hy hex => turn_cmp (hwk7.ex hex) bx ((World.cell?_of_block (hex.block bx hbx7 hgb)).trans hcb7) x y hx hy⟩)
 have HS0 := Lib.hid hS0
 have HB7 := Lib.hid (And.intro hbw7 (And.intro hg2 (And.intro hcb7 hgg2)))
 clear how7 hbw7 hsw7 hg2 hgg2 hwg2 hcb7 hwk7 hS0 hgb hbx7 hcb6 c26
 go_wp2
 go_loopw [3, 26] (fun _ u wr => ∃ (i : Nat), i ≤ nL l ∧ u = .int .i64 (i : Int) ∧ Hid (SW g2 w7 g2 (nL l) (nL l) (flI (nL l) i) wr)) (fun _ u _ => nL l - (intOf u).toNat)
 case atStart => exact ⟨0, by omega, rfl, HS0.out⟩
 case round =>
  clear HS0
  obtain ⟨i, hi, rfl, hS⟩ := hrel
  obtain ⟨V, rfl⟩ : ∃ V : World, V = wr := ⟨_, rfl⟩
  by_cases hlt : i < nL l
  ·have hlt' : (i : Int) < (nL l : Int) := by omega
   have c1 := hS.out.cell (flI_get (i := i) hlt)
   have f1 := hS.out.frozen i
   have hS2 := hS.out.set (k := i) (x := (i : Int)) (by rw [flI_len]; exact hlt)
   rw [flI_set hlt] at hS2
   have HS2 := Lib.hid hS2
   clear hS hS2
   go_wp2
   go_roundw
   all_goals first
    | exact ⟨i + 1, by omega, by go_num, HS2.out⟩
    | ((repeat apply Exists.intro); exact ⟨⟨i + 1, by omega, by go_num, HS2.out⟩, rfl⟩)
    | (simp [intOf] <;> omega)
  ·have hil : i = nL l := by omega
   have hS' := hS.out
   rw [hil, flI_all] at hS'
   have hcall := sortStable_ok g2 w7 V g2 (nL l) (nL l) 72 _ _ _ (Rln l) HC.out (rln_ord l) (iot (nL l)) hS' (fun x hx => iot_mem.1 hx) (iot_asc _) (by omega)
   have HCl := Lib.hid hcall
   have hlt' : ¬ (i : Int) < (nL l : Int) := by omega
   clear hS' hcall hS hlt hil HC
   go_wp2_with fail
   refine HCl.out.mono ?_
   rintro e' w8 ⟨rfl, Z, z1, z2, z3⟩
   have hb8 : Below g2 w6 w8 := HB7.out.1.trans (z3.ex.below (Nat.le_refl _) (by have h1 := HB7.out.1.size; have h2 := HB7.out.2.1; omega))
   have hb8' : Below w6.heap.size w6 w8 := by rw [← HB7.out.2.1]; exact hb8
   have hzl : Z.length = nL l := by rw [z1.length_eq, iot_len]
   have hbl := HB7.out.1.size
   have hbg := HB7.out.2.2.2
   have hb1 := HGB.out.2.1
   have hw68 := HB7.out.2.1
   have hcb8 : w8.cell? ⟨bx, 0, none⟩ = some (.pointer (some ⟨pw, 0, none⟩)) := (World.cell?_of_block (z3.ex.block bx (by omega) (by omega))).trans HB7.out.2.2.1
   have HW8 := Lib.hid (And.intro ((HK.out.wk HP6.out.1 HP6.out.2.1 HGB.out.1).below hb8') (And.intro (HP6.out.2.2.below hb8') (And.intro hcb8 (Ex.new HP6.out.1 (Ex.of_below (p := g2) hb8') (by have := HGB.out.1; omega)))))
   have HZ := Lib.hid (And.intro z1 (And.intro z2 (And.intro z3 hzl)))
   have HG8 := Lib.hid (show g < g2 ∧ g2 < w8.heap.size ∧ bx < g ∧ bx < w8.heap.size from ⟨hbg, by have := z3.ow.lt (g := g2) rfl; exact this, hb1, by have := z3.ow.lt (g := g2) rfl; omega⟩)
   clear HCl z1 z2 z3 hb8 hb8' hzl hbl hbg hb1 hw68 hcb8
   go_wp2
   go_loopw [39] (fun u wr => ∃ (i : Nat) (tt : Nat → Nat), i ≤ nL l ∧ u = .int .i64 (i : Int) ∧ Hid (Ex g w8 wr ∧ OwR tF g wr (.slice (some ⟨g, 0, none⟩) (nL l) (nL l)) ((List.range (nL l)).map tt) ∧ ∀ x ∈ Z.take i, tt x.toNat = tT l x.toNat)) (fun u _ => nL l - (intOf u).toNat)
   case atStart => exact ⟨0, fun _ => 0, by omega, rfl, Ex.refl _ _, by
    have e : (List.range (nL l)).map (fun _ : Nat => (0 : Nat)) = List.replicate (nL l) 0 := by
     apply List.ext_getElem?
     intro k
     by_cases hk : k < nL l
     ·rw [List.getElem?_map, List.getElem?_range hk, List.getElem?_replicate, if_pos hk]; rfl
     ·rw [List.getElem?_eq_none (by simp; omega), List.getElem?_eq_none (by simp; omega)]
    rw [e]
    exact HW8.out.2.1, fun x hx => by simp at hx⟩
   case round =>
    obtain ⟨j, tt, hj, rfl, hR⟩ := hrel
    obtain ⟨V, rfl⟩ : ∃ V : World, V = wr := ⟨_, rfl⟩
    by_cases hjl : j < nL l
    ·have hjl' : (j : Int) < (nL l : Int) := by omega
     obtain ⟨x, hx⟩ : ∃ x, Z[j]? = some x := ⟨_, List.getElem?_eq_getElem (by rw [HZ.out.2.2.2]; exact hjl)⟩
     have hxm := iot_mem.1 (HZ.out.1.subset (List.mem_of_getElem? hx))
     obtain ⟨t, rfl⟩ := Int.eq_ofNat_of_zero_le hxm.1
     have htn : t < nL l := by omega
     have htn' : (t : Int) < (nL l : Int) := by omega
     have hg8 := HG8.out
     have cz : V.cell? ⟨g2, j, none⟩ = some (.int .i64 (t : Int)) := (World.cell?_of_block (hR.out.1.block g2 (by omega) (by omega))).trans (HZ.out.2.2.1.cell hx)
     have cb : V.cell? ⟨bx, 0, none⟩ = some (.pointer (some ⟨pw, 0, none⟩)) := (World.cell?_of_block (hR.out.1.block bx (by omega) (by omega))).trans HW8.out.2.2.1
     have hkV := HW8.out.1.ex hR.out.1
     have hprev : ∀ k, k < nL l → (blkL l k).length < (blkL l t).length → tt k = tT l k := fun k hk hl => by
      have := hR.out.2.2 (k : Int) (rln_prev HZ.out.1 HZ.out.2.1 hx (iot_mem.2 ⟨by omega, by omega⟩) (by unfold lnB; rw [Int.toNat_natCast, Int.toNat_natCast]; omega))
      rwa [Int.toNat_natCast] at this
     have HWt := Lib.hid (wweights_ok hkV V.heap.size tt (t : Int) (hR.out.2.1.sl (fun e => by have := hR.out.2.1.lt e; omega)) (fun k hk hh hne => by
      rw [hprev k hk (blk_lt HK.out.g7 htn hk (hol_in hh) (by omega))]
      exact tT_in) htn')
     have hld := hkV.ld.below hkV.bel
     obtain ⟨gl, ol, ba, bn, bc, e1, ch0, -, -, -⟩ := hld.one htn
     obtain rfl := e1
     have HTr := Lib.hid (show trn l tt t = tT l t by rw [tT_eq HK.out.g7 htn]; exact trn_congr HK.out.g7 htn hprev)
     have HKV := Lib.hid hkV
     have HX := Lib.hid hx
     clear hprev hld hkV hg8 hxm hx
     go_wp2_with fail
     refine HWt.out.mono ?_
     rintro e w2 ⟨b2, vw, rfl, hO⟩
     clear HWt cz
     have hE2 : Ex g w8 w2 := hR.out.1.trans (Ex.of_below b2)
     have hR2 := hR.out.2.1.below b2
     have hb2 : w2.cell? ⟨bx, 0, none⟩ = some (.pointer (some ⟨pw, 0, none⟩)) := (b2.cell (World.block_lt_of_cell? _ _ cb)).trans cb
     have hc2 : w2.cell? ⟨pw, 2, none⟩ = some (.slice (some ⟨gl, ol, none⟩) (nL l) cl) := (b2.cell (World.block_lt_of_cell? _ _ (HKV.out.blk.cell 2))).trans (HKV.out.blk.cell 2)
     have hh2 : w2.cell? ⟨gl, ol + t * 3, none⟩ = some (.int .i64 (hdN l t : Int)) := (b2.cell (World.block_lt_of_cell? _ _ ch0)).trans ch0
     have HR2 := Lib.hid (And.intro hE2 (And.intro hR2 (And.intro (HKV.out.below b2) hO)))
     have HOld := Lib.hid hR.out.2.2
     obtain ⟨hd, hhd⟩ : ∃ x, x = hdN l t := ⟨_, rfl⟩
     rw [← hhd] at hh2
     have hdn : hd < nB l := by rw [hhd]; exact (heads_of l htn).1
     have HHd := Lib.hid hhd
     clear hhd hE2 hR2 hO b2 hR HKV cb ch0
     go_upto_region 13 with (fail)
     refine wp_region_held_drew (S := fun w' => w'.cell? ⟨bx, 0, none⟩ = some (.pointer (some ⟨pw, 0, none⟩)) ∧ w'.cell? ⟨pw, 2, none⟩ = some (.slice (some ⟨gl, ol, none⟩) (nL l) cl) ∧ w'.cell? ⟨gl, ol + t * 3, none⟩ = some (.int .i64 (hd : Int))) mix ⟨hb2, hc2, hh2⟩ (fun hS => ?_)
     refine wpAnyH_take (i := 0) (v := .pointer (some ⟨pw, 0, none⟩)) rfl (by kernel_rfl) (by kernel_rfl) (by kernel_rfl) (fun _ _ _ h => h) (Or.inl ⟨by rfl, fun w' hw' => by (try go_split_ands); go_simp <;> omega⟩) hS ?_
     simp only [Act.put, List.getElem_toArray, List.getElem_cons_zero, List.setIfInBounds_toArray, List.set_cons_zero, List.set_cons_succ]
     refine wpAnyH_take (i := 1) (v := vw) rfl (by kernel_rfl) (by kernel_rfl) (by kernel_rfl) (fun _ _ _ h => h) (Or.inl ⟨by rfl, fun w' hw' => by (try go_split_ands); go_simp <;> omega⟩) hS ?_
     simp only [Act.put, List.getElem_toArray, List.getElem_cons_zero, List.getElem_cons_succ, List.setIfInBounds_toArray, List.set_cons_zero, List.set_cons_succ]
     refine wpAnyH_take (i := 2) (v := .int .i64 (t : Int)) rfl (by kernel_rfl) (by kernel_rfl) (by kernel_rfl) (fun _ _ _ h => h) (Or.inl ⟨by rfl, fun w' hw' => by (try go_split_ands); go_simp <;> omega⟩) hS ?_
     simp only [Act.put, List.getElem_toArray, List.getElem_cons_zero, List.getElem_cons_succ, List.setIfInBounds_toArray, List.set_cons_zero, List.set_cons_succ]
     refine wpAnyH_take (i := 3) (v := .pointer (some ⟨pw, 0, none⟩)) rfl (by kernel_rfl) (by kernel_rfl) (by kernel_rfl) (fun _ _ _ h => h) (Or.inl ⟨by rfl, fun w' hw' => by (try go_split_ands); go_simp <;> omega⟩) hS ?_
     simp only [Act.put, List.getElem_toArray, List.getElem_cons_zero, List.getElem_cons_succ, List.setIfInBounds_toArray, List.set_cons_zero, List.set_cons_succ]
     refine wpAnyH_take (i := 4) (v := .pointer (some ⟨pw, 0, none⟩)) rfl (by kernel_rfl) (by kernel_rfl) (by kernel_rfl) (fun _ _ _ h => h) (Or.inl ⟨by rfl, fun w' hw' => by (try go_split_ands); go_simp <;> omega⟩) hS ?_
     simp only [Act.put, List.getElem_toArray, List.getElem_cons_zero, List.getElem_cons_succ, List.setIfInBounds_toArray, List.set_cons_zero, List.set_cons_succ]
     refine wpAnyH_take (i := 5) (v := .pointer (some ⟨pw, 2, none⟩)) rfl (by kernel_rfl) (by kernel_rfl) (by kernel_rfl) (fun _ _ _ h => h) (Or.inl ⟨by rfl, fun w' hw' => by (try go_split_ands); go_simp <;> omega⟩) hS ?_
     simp only [Act.put, List.getElem_toArray, List.getElem_cons_zero, List.getElem_cons_succ, List.setIfInBounds_toArray, List.set_cons_zero, List.set_cons_succ]
     refine wpAnyH_take (i := 6) (v := .slice (some ⟨gl, ol, none⟩) (nL l) cl) rfl (by kernel_rfl) (by kernel_rfl) (by kernel_rfl) (fun _ _ _ h => h) (Or.inl ⟨by rfl, fun w' hw' => by (try go_split_ands); go_simp <;> omega⟩) hS ?_
     simp only [Act.put, List.getElem_toArray, List.getElem_cons_zero, List.getElem_cons_succ, List.setIfInBounds_toArray, List.set_cons_zero, List.set_cons_succ]
     refine wpAnyH_take (i := 7) (v := .int .i64 (t : Int)) rfl (by kernel_rfl) (by kernel_rfl) (by kernel_rfl) (fun _ _ _ h => h) (Or.inl ⟨by rfl, fun w' hw' => by (try go_split_ands); go_simp <;> omega⟩) hS ?_
     simp only [Act.put, List.getElem_toArray, List.getElem_cons_zero, List.getElem_cons_succ, List.setIfInBounds_toArray, List.set_cons_zero, List.set_cons_succ]
     refine wpAnyH_take (i := 8) (v := .pointer (some ⟨gl, ol + t * 3, none⟩)) rfl (by kernel_rfl) (by kernel_rfl) (by kernel_rfl) (fun _ _ _ h => h) (Or.inl ⟨by rfl, fun w' hw' => by (try go_split_ands); go_simp <;> omega⟩) hS ?_
     simp only [Act.put, List.getElem_toArray, List.getElem_cons_zero, List.getElem_cons_succ, List.setIfInBounds_toArray, List.set_cons_zero, List.set_cons_succ]
     refine wpAnyH_take (i := 9) (v := .pointer (some ⟨gl, ol + t * 3, none⟩)) rfl (by kernel_rfl) (by kernel_rfl) (by kernel_rfl) (fun _ _ _ h => h) (Or.inl ⟨by rfl, fun w' hw' => by (try go_split_ands); go_simp <;> omega⟩) hS ?_
     simp only [Act.put, List.getElem_toArray, List.getElem_cons_zero, List.getElem_cons_succ, List.setIfInBounds_toArray, List.set_cons_zero, List.set_cons_succ]
     refine wpAnyH_take (i := 10) (v := .int .i64 (hd : Int)) rfl (by kernel_rfl) (by kernel_rfl) (by kernel_rfl) (fun _ _ _ h => h) (Or.inl ⟨by rfl, fun w' hw' => by (try go_split_ands); go_simp <;> omega⟩) hS ?_
     simp only [Act.put, List.getElem_toArray, List.getElem_cons_zero, List.getElem_cons_succ, List.setIfInBounds_toArray, List.set_cons_zero, List.set_cons_succ]
     refine wpAnyH_ready (rs := [11]) (by kernel_rfl) (by simp) ?_
     refine AllReadyH.cons rfl (fun K hK => ?_) AllReadyH.nil
     go_simp
     go_wp2_with fail
     refine (wsum_ok (HR2.out.2.2.1.below (bRefl w2).drew) w2.heap.size vw (wts l tt (t : Int)) (t : Int) hd true (SlX.below (HR2.out.2.2.2.sl (fun e => by have := HR2.out.2.2.2.lt e; omega)) (bRefl w2).drew) wts_le htn' hdn).mono ?_
     rintro e w3 ⟨rfl, b3⟩
     have b3' : Below w2.heap.size w2 w3 := ⟨b3.os, b3.tape, b3.output, b3.size, b3.block⟩
     have hb3 : w3.cell? ⟨bx, 0, none⟩ = some (.pointer (some ⟨pw, 0, none⟩)) := (b3'.cell (World.block_lt_of_cell? _ _ hb2)).trans hb2
     have hc3 : w3.cell? ⟨pw, 2, none⟩ = some (.slice (some ⟨gl, ol, none⟩) (nL l) cl) := (b3'.cell (World.block_lt_of_cell? _ _ hc2)).trans hc2
     have hh3 : w3.cell? ⟨gl, ol + t * 3, none⟩ = some (.int .i64 (hd : Int)) := (b3'.cell (World.block_lt_of_cell? _ _ hh2)).trans hh2
     have c83 : w3.cell? ⟨pw, 8, none⟩ = some (.slice (some ⟨g, 0, none⟩) (nL l) (nL l)) := (b3'.cell (World.block_lt_of_cell? _ _ (HR2.out.2.2.1.blk.cell 8))).trans (HR2.out.2.2.1.blk.cell 8)
     have hE3 : Ex g w8 w3 := HR2.out.1.trans (Ex.of_below b3')
     have hO3 := HR2.out.2.1.below b3'
     obtain ⟨c, hc⟩ : ∃ c, c = brg l (wts l tt (t : Int)) (t : Int) hd true := ⟨_, rfl⟩
     have hcle : c ≤ inf := by rw [hc]; exact brg_le
     have hT : frec (fsub one (mn c)) = tT l t := by
      rw [hc, HHd.out, ← HTr.out]
      rfl
     rw [← hc]
     obtain ⟨o1, o2⟩ := trn_ops hcle
     have hmin := fun ats t w => run_min hcle ats t w
     obtain ⟨m, hm⟩ : ∃ m, m = mn c := ⟨_, rfl⟩
     rw [← hm] at o1 o2 hT hmin
     obtain ⟨y, hy⟩ : ∃ y, y = fsub one m := ⟨_, rfl⟩
     rw [← hy] at o1 o2 hT
     rw [hT] at o2
     obtain ⟨r, hr⟩ : ∃ r, r = tT l t := ⟨_, rfl⟩
     rw [← hr] at o2
     have hop1 := hop_sub o1
     have hop2 := hop_div o2
     rw [show one = 4607182418800017408 from rfl] at hop1 hop2
     have ck : w3.cell? ⟨g, t, none⟩ = some (.float .f64 (tt t)) := by
      have h1 := (hO3.at (k := t) (x := tt t) (by rw [List.getElem?_map, List.getElem?_range htn]; rfl)).cell 0 _ rfl
      have e1 : 0 + t * tF.n + 0 = t := by show 0 + t * 1 + 0 = t; omega
      rw [e1] at h1
      exact h1
     have fk := hO3.frozen t
     have hset := hO3.set (k := t) (j := 0) (x := tt t) (y := r) (v := .float .f64 r) (by rw [List.getElem?_map, List.getElem?_range htn]; rfl) (by decide) rfl
     have e2 : t * tF.n + 0 = t := by show t * 1 + 0 = t; omega
     rw [e2, upd_row tt htn] at hset
     have HO4 := Lib.hid hset
     have HE4 := Lib.hid (hE3.set t (.float .f64 r))
     have HNew := Lib.hid (show ∀ x ∈ Z.take (j + 1), Ht.upd tt t r x.toNat = tT l x.toNat from fun x hx => by
      rw [List.take_add_one, HX.out] at hx
      unfold Ht.upd
      by_cases e : x.toNat = t
      ·rw [if_pos e, e]; exact hr
      ·rw [if_neg e]
       rcases List.mem_append.1 hx with hx | hx
       ·exact HOld.out x hx
       ·have : x = (t : Int) := by simpa using hx
        exact absurd (by rw [this, Int.toNat_natCast]) e)
     have hst : ∀ a m w, (store a (.float .f64 r) m).run Try.prog w = stored Try.prog w a (.float .f64 r) m := fun a m w => run_store Try.prog w a _ m rfl
     clear hset e2 hE3 hO3 o1 o2 hT hy hm hc hcle hr b3 b3' HTr HHd HR2 HOld HX hS
     go_wp2_with fail
     refine hK.out _ _ ⟨hb3, hc3, hh3⟩ (fun hS => ?_)
     clear hK K
     refine wpAnyH_ready (rs := [12]) (by kernel_rfl) (by simp) ?_
     refine AllReadyH.cons rfl (fun K hK => ?_) AllReadyH.nil
     go_simp
     refine hK.out _ _ hS (fun _ => ?_)
     clear hK K
     refine wpAnyH_done (by kernel_rfl) ?_ _
     clear hS hb2 hc2 hh2 hc3 hh3
     go_wp2
     refine ⟨⟨j + 1, _, by omega, by go_num, HE4.out, HO4.out, HNew.out⟩, ?_⟩
     simp [intOf] <;> omega
    ·have hje : j = nL l := by omega
     have hjl' : ¬ (j : Int) < (nL l : Int) := by omega
     have HFin := Lib.hid (show SlX tF V.heap.size V (.slice (some ⟨g, 0, none⟩) (nL l) (nL l)) ((List.range (nL l)).map (tT l)) by
      have h1 := hR.out.2.1.sl (p := V.heap.size) (fun e => by have := hR.out.2.1.lt e; omega)
      rw [show (List.range (nL l)).map (tT l) = (List.range (nL l)).map tt from List.map_congr_left fun x hx => by
       have hx' : x < nL l := by simpa using hx
       have h2 := hR.out.2.2 (x : Int) (by
        rw [hje, List.take_of_length_le (by rw [HZ.out.2.2.2]; exact Nat.le_refl _)]
        exact HZ.out.1.symm.subset (iot_mem.2 ⟨by omega, by omega⟩))
       rw [Int.toNat_natCast] at h2
       exact h2.symm]
      exact h1)
     clear hje
     go_wp2
     go_end0
     exact ⟨rfl, HW8.out.2.2.2.new hR.out.1 HGB.out.1, _, g, HGB.out.1, HW8.out.1.ex hR.out.1, HFin.out⟩
end Go.Proofs.Ytcflgogodgfccaa
