/- What the law needs, one part after another: walks of functions and plain laws. No conditions but those that each law names. -/
import Derived.Test.YtpklmldempddhaaGuam
namespace Go.Proofs.Ytpklmldempddhaa
open Go Go.RowKit Go.Wr Go.Fl Go.Ht
set_option maxHeartbeats 4000000
set_option maxRecDepth 100000
theorem redges_ok (w : World) (q : Nat) (l : List In) (h : RFinP l q w) : Calls Try.prog 15 #[.pointer (some ⟨q, 0, none⟩)] w (EdP l w) := by
 obtain ⟨ab, ad, al, cb, cd, cl, vr, P⟩ := h.parts
 have HH := Lib.hid h
 have HP := Lib.hid P
 have h512 := P.g.n512
 have h8 : nL l ≤ 8 := P.g.hd8
 have mix : Try.prog.follows .mixedOrders = true := by kernel_rfl
 have HWt := Lib.hid (rweights w q l (-1) h (by omega) (by omega))
 clear h P
 unfold EdP
 go_enter Try.func15, Try.ntmps15
 go_wp2_with fail
 refine HWt.out.mono ?_
 rintro e w1 ⟨b1, vw, rfl, hO⟩
 obtain ⟨wva, wvc, hvw, hw1, hw2⟩ := (hO.sl (p := w1.heap.size) (fun e => by have := hO.lt e; omega)).form
 rw [List.length_map, List.length_range] at hvw hw1
 subst hvw
 have HB1 := Lib.hid b1
 have HW1 := Lib.hid hO
 clear b1 hO HWt hw1 hw2
 go_wp2
 go_loopw [4, 5] (fun t u wr => ∃ (b : Nat) (v : Sv) (rs : List Sv), b ≤ nB l ∧ u = .int .i64 (b : Int) ∧ t = .slice v.a v.n v.c ∧ Hid (rs.length = b ∧ OwR tFF w1.heap.size wr v.v rs ∧ Rws tF w1.heap.size rs (edR l) wr) ∧ Hid (Below w1.heap.size w1 wr)) (fun _ u _ => nB l - (intOf u).toNat)
 case atStart => exact ⟨0, ⟨none, 0, 0⟩, [], by omega, rfl, rfl, ⟨rfl, OwR.nil _ _, Rws.nil⟩, bRefl _⟩
 case round =>
  obtain ⟨b, v, rs, hbl, rfl, rfl, hR, hB⟩ := hrel
  obtain ⟨V, rfl⟩ : ∃ x : World, x = wr := ⟨_, rfl⟩
  have HBw := Lib.hid (show Below w.heap.size w V from bThen HB1.out hB.out)
  have c0 : V.cell? ⟨q, 0, none⟩ = some (.slice ab (nB l) cb) := (HBw.out.cell HP.out.lt).trans HP.out.c0
  by_cases hlt : b < nB l
  ·have hlt' : (b : Int) < (nB l : Int) := by omega
   obtain ⟨gb, ob, na, nn, nc, rfl, cnw, hnn, hsn⟩ := HP.out.bd.next hlt
   have hn2 : nn ≤ 2 := by rw [hnn]; exact nxt_two l b
   have HNN := Lib.hid (And.intro hnn (And.intro hsn cnw))
   clear hnn hsn cnw
   go_wp2
   clear c0
   go_loopw [6, 7] (fun t u wr => ∃ (k : Nat) (va : Sv), k ≤ nn ∧ u = .int .i64 (k : Int) ∧ t = .slice va.a va.n va.c ∧ Hid (OwR tF V.heap.size wr va.v ((List.range k).map (edg l b))) ∧ Hid (Below V.heap.size V wr)) (fun _ u _ => nn - (intOf u).toNat)
   case atStart => exact ⟨0, ⟨none, 0, 0⟩, by omega, rfl, rfl, OwR.nil _ _, bRefl _⟩
   case round =>
    obtain ⟨k, va, hk, rfl, rfl, hO, hBV⟩ := hrel
    obtain ⟨U, rfl⟩ : ∃ x : World, x = wr := ⟨_, rfl⟩
    have HBu := Lib.hid (show Below w.heap.size w U from bThen HBw.out hBV.out)
    have c0 : U.cell? ⟨q, 0, none⟩ = some (.slice (some ⟨gb, ob, none⟩) (nB l) cb) := (HBu.out.cell HP.out.lt).trans HP.out.c0
    have cn : U.cell? ⟨gb, ob + b * 3 + 2, none⟩ = some (.slice na nn nc) := (HBu.out.cell (World.block_lt_of_cell? _ _ HNN.out.2.2)).trans HNN.out.2.2
    by_cases hlk : k < nn
    ·have hlk' : (k : Int) < (nn : Int) := by omega
     obtain ⟨x, hx⟩ : ∃ x, x = wts l (tT l) (-1) b := ⟨_, rfl⟩
     obtain ⟨ch, hch⟩ : ∃ c, c = chn l b k := ⟨_, rfl⟩
     have hxle : x ≤ inf := by rw [hx]; exact wts_le b
     obtain ⟨y, hy⟩ : ∃ y, y = fmul x ch := ⟨_, rfl⟩
     have hop := hop_mul (show Ieee.double.mul x ch = some y by rw [hy]; exact mul_nn hxle (by rw [hch]; exact chn_in.2) (by rw [hch]; exact chn_in.1))
     have HY := Lib.hid (show edg l b k = y by unfold edg; rw [hy, hx, hch])
     obtain ⟨gw, ow, rfl, -, -, cww⟩ := SlX.flo (HW1.out.sl (p := w1.heap.size) (fun e => by have := HW1.out.lt e; omega)) (k := b) (x := x) (by rw [List.getElem?_map, List.getElem?_range hlt, hx]; rfl)
     have cw : U.cell? ⟨gw, ow + b, none⟩ = some (.float .f64 x) := ((bThen hB.out hBV.out).cell (World.block_lt_of_cell? _ _ cww)).trans cww
     have HcV := Lib.hid (show V.cell? ⟨gw, ow + b, none⟩ = some (.float .f64 x) from (hB.out.cell (World.block_lt_of_cell? _ _ cww)).trans cww)
     have HCh := Lib.hid (show ∀ W : World, Below U.heap.size U W → Calls Try.prog 29 #[.pointer (some ⟨q, 0, none⟩), .int .i64 (b : Int), .int .i64 (k : Int)] W fun e w'' => e = .returned (.float .f64 ch) ∧ ∃ m, w'' = W.drewN m from fun W hW => by
      rw [hch]
      exact rchance_ok _ q l b k (HH.out.below (bThen HBu.out hW)) hlt (by rw [← HNN.out.1]; exact hlk))
     clear hx hch hy cww hxle
     go_upto_region 10 with (fail)
     clear c0 cn
     refine wp_region_held_drew (S := fun w' => w'.cell? ⟨gw, ow + b, none⟩ = some (.float .f64 x)) mix cw (fun hS => ?_)
     refine wpAnyH_take (i := 0) (v := .slice va.a va.n va.c) rfl (by kernel_rfl) (by kernel_rfl) (by kernel_rfl) (fun _ _ _ h => h) (Or.inl ⟨by rfl, fun w' hw' => by (try go_split_ands); go_simp <;> omega⟩) hS ?_
     simp only [Act.put, List.getElem_toArray, List.getElem_cons_zero, List.setIfInBounds_toArray, List.set_cons_zero, List.set_cons_succ]
     refine wpAnyH_take (i := 1) (v := .slice (some ⟨gw, ow, none⟩) (nB l) wvc) rfl (by kernel_rfl) (by kernel_rfl) (by kernel_rfl) (fun _ _ _ h => h) (Or.inl ⟨by rfl, fun w' hw' => by (try go_split_ands); go_simp <;> omega⟩) hS ?_
     simp only [Act.put, List.getElem_toArray, List.getElem_cons_zero, List.getElem_cons_succ, List.setIfInBounds_toArray, List.set_cons_zero, List.set_cons_succ]
     refine wpAnyH_take (i := 2) (v := .int .i64 (b : Int)) rfl (by kernel_rfl) (by kernel_rfl) (by kernel_rfl) (fun _ _ _ h => h) (Or.inl ⟨by rfl, fun w' hw' => by (try go_split_ands); go_simp <;> omega⟩) hS ?_
     simp only [Act.put, List.getElem_toArray, List.getElem_cons_zero, List.getElem_cons_succ, List.setIfInBounds_toArray, List.set_cons_zero, List.set_cons_succ]
     refine wpAnyH_take (i := 3) (v := .pointer (some ⟨gw, ow + b, none⟩)) rfl (by kernel_rfl) (by kernel_rfl) (by kernel_rfl) (fun _ _ _ h => h) (Or.inl ⟨by rfl, fun w' hw' => by (try go_split_ands); go_simp <;> omega⟩) hS ?_
     simp only [Act.put, List.getElem_toArray, List.getElem_cons_zero, List.getElem_cons_succ, List.setIfInBounds_toArray, List.set_cons_zero, List.set_cons_succ]
     refine wpAnyH_take (i := 4) (v := .float .f64 x) rfl (by kernel_rfl) (by kernel_rfl) (by kernel_rfl) (fun _ _ _ h => h) (Or.inl ⟨by rfl, fun w' hw' => by (try go_split_ands); go_simp <;> omega⟩) hS ?_
     simp only [Act.put, List.getElem_toArray, List.getElem_cons_zero, List.getElem_cons_succ, List.setIfInBounds_toArray, List.set_cons_zero, List.set_cons_succ]
     refine wpAnyH_take (i := 5) (v := .pointer (some ⟨q, 0, none⟩)) rfl (by kernel_rfl) (by kernel_rfl) (by kernel_rfl) (fun _ _ _ h => h) (Or.inl ⟨by rfl, fun w' hw' => by (try go_split_ands); go_simp <;> omega⟩) hS ?_
     simp only [Act.put, List.getElem_toArray, List.getElem_cons_zero, List.getElem_cons_succ, List.setIfInBounds_toArray, List.set_cons_zero, List.set_cons_succ]
     refine wpAnyH_take (i := 6) (v := .int .i64 (b : Int)) rfl (by kernel_rfl) (by kernel_rfl) (by kernel_rfl) (fun _ _ _ h => h) (Or.inl ⟨by rfl, fun w' hw' => by (try go_split_ands); go_simp <;> omega⟩) hS ?_
     simp only [Act.put, List.getElem_toArray, List.getElem_cons_zero, List.getElem_cons_succ, List.setIfInBounds_toArray, List.set_cons_zero, List.set_cons_succ]
     refine wpAnyH_take (i := 7) (v := .int .i64 (k : Int)) rfl (by kernel_rfl) (by kernel_rfl) (by kernel_rfl) (fun _ _ _ h => h) (Or.inl ⟨by rfl, fun w' hw' => by (try go_split_ands); go_simp <;> omega⟩) hS ?_
     simp only [Act.put, List.getElem_toArray, List.getElem_cons_zero, List.getElem_cons_succ, List.setIfInBounds_toArray, List.set_cons_zero, List.set_cons_succ]
     refine wpAnyH_ready (rs := [8]) (by kernel_rfl) (by simp) ?_
     refine AllReadyH.cons rfl (fun K hK => ?_) AllReadyH.nil
     go_simp
     go_wp2_with fail
     refine (HCh.out _ (bRefl U).drew).mono ?_
     rintro e w8 ⟨rfl, m8, hw8⟩
     have hb8 : Below U.heap.size U w8 := by rw [hw8]; exact bDrewN (bRefl U).drew m8
     have cw8 : w8.cell? ⟨gw, ow + b, none⟩ = some (.float .f64 x) := (hb8.cell (World.block_lt_of_cell? _ _ cw)).trans cw
     clear hw8 HCh
     go_wp2_with fail
     refine hK.out _ _ cw8 (fun hS => ?_)
     clear hK K hS
     have hS := cw8
     refine wpAnyH_ready (rs := [9]) (by kernel_rfl) (by simp) ?_
     refine AllReadyH.cons rfl (fun K hK => ?_) AllReadyH.nil
     go_simp
     refine hK.out _ _ hS (fun _ => ?_)
     clear hK K
     refine wpAnyH_ready (rs := [10]) (by kernel_rfl) (by simp) ?_
     refine AllReadyH.cons rfl (fun K hK => ?_) AllReadyH.nil
     go_simp
     obtain ⟨W, hW⟩ : ∃ z, z = w8.alloc (.cells #[.float .f64 y] 43) := ⟨_, rfl⟩
     have hb8W : Below w8.heap.size w8 W := by rw [hW]; exact bAl (bRefl w8) _
     have hbW : Below U.heap.size U W := bThen hb8 hb8W
     have HN := Lib.hid (show Blk W w8.heap.size 43 #[.float .f64 y] by rw [hW]; exact Blk.new w8 43 _)
     rw [← hW]
     have cwW : W.cell? ⟨gw, ow + b, none⟩ = some (.float .f64 x) := (hbW.cell (World.block_lt_of_cell? _ _ cw)).trans cw
     refine hK.out _ _ cwW (fun hS => ?_)
     clear hK K hS hW
     have hzV := hBV.out.size
     have hzU := hbW.size
     have hlen : ((List.range k).map (edg l b)).length = k := by rw [List.length_map, List.length_range]
     refine wpAnyH_ready (rs := [11]) (by kernel_rfl) (by simp) ?_
     refine AllReadyH.cons rfl (fun K hK => ?_) AllReadyH.nil
     refine step_push tF rfl (.tmp 32) (.tmp 42) rfl V.heap.size (.slice va.a va.n va.c) ((List.range k).map (edg l b)) (by rfl) (hO.out.below hbW) w8.heap.size 0 1 1 [y] (by rfl) rfl (rangeBlk HN.out (by rfl)) (by rw [hlen]; unfold maxLen; simp; omega) (by rw [hlen]; show _ * 8 ≤ _; simp; omega) (by omega) ?_
     intro v' w9 hown hgrow hform
     obtain ⟨g9, c9, rfl, _⟩ := hform (by simp)
     have hb9 : Below V.heap.size V w9 := (bThen hBV.out hbW).grown hgrow (by omega) (fun g hg => ((hO.out.below hbW).blk hg).1)
     have hO9 := Lib.hid (show OwR tF V.heap.size w9 (Sv.v ⟨some ⟨g9, 0, none⟩, k + 1, c9⟩) ((List.range (k + 1)).map (edg l b)) by rw [ed_take, HY.out]; have h1 := hown; rw [hlen] at h1; exact h1)
     have HB9 := Lib.hid hb9
     have cw9 : w9.cell? ⟨gw, ow + b, none⟩ = some (.float .f64 x) := (hb9.cell (World.block_lt_of_cell? _ _ HcV.out)).trans HcV.out
     simp only [Act.put, List.setIfInBounds_toArray]
     refine hK.out _ _ cw9 (fun hS => ?_)
     clear hK K
     refine wpAnyH_ready (rs := [12]) (by kernel_rfl) (by simp) ?_
     refine AllReadyH.cons rfl (fun K hK => ?_) AllReadyH.nil
     go_simp
     refine hK.out _ _ hS (fun _ => ?_)
     clear hK K
     refine wpAnyH_done (by kernel_rfl) ?_ _
     clear hS cw9 hb9 hown hgrow hform hlen hzU hzV cwW hb8W hbW HN cw8 hb8 HcV cw hop
     go_wp2
     go_roundw
     all_goals first
      | exact ⟨k + 1, ⟨some ⟨g9, 0, none⟩, k + 1, c9⟩, by omega, by go_num, rfl, hO9.out, HB9.out⟩
      | (simp [intOf] <;> omega)
    ·have hke : k = nn := by omega
     have hlk' : ¬ (k : Int) < (nn : Int) := by omega
     have HO := Lib.hid (show OwR tF V.heap.size U va.v (edR l b) by have := hO.out; rw [hke, HNN.out.1] at this; exact this)
     clear hO hke
     have hOut := hR.out.2.1.below hBV.out
     have hzV := hB.out.size
     have hzU := hBV.out.size
     have hrl := hR.out.1
     go_upto_region 5 with (at_builtin; refine wpl_push tFF rfl (.tmp 44) (.tmp 46) rfl w1.heap.size (.slice v.a v.n v.c) rs rfl (hOut.alloc _) _ 0 1 1 [va] rfl rfl (rangeNew (by rfl) (by rfl)) (by rw [hrl]; unfold maxLen; simp; omega) (by rw [hrl]; show _ * 24 ≤ _; simp; omega) (by simp; omega) ?_; intro v' w9 hown hgrow hform)
     obtain ⟨g9, c9, rfl, _⟩ := hform (by simp)
     have hrw9 : Rws tF w1.heap.size rs (edR l) w9 := (hR.out.2.2.below hBV.out).keep fun g C _ hg => (hgrow.block g (by have := hg.lt; simp; omega) (fun e => hOut.ne hg (by decide) e.symm)).trans (Below.heap_alloc U _ g hg.lt)
     have hro9 : OwR tF V.heap.size w9 va.v (edR l rs.length) := by
      rw [hrl]
      exact HO.out.keep fun g hg => by
       obtain ⟨_, C, hb⟩ := HO.out.blk hg
       exact (hgrow.block g (by have := hb.lt; simp; omega) (fun e => hOut.ne hb (by decide) e.symm)).trans (Below.heap_alloc U _ g hb.lt)
     have HR9 := Lib.hid (Rws.snoc hR.out.2.2 hrw9 hro9 hzV)
     have HO9 := Lib.hid (show OwR tFF w1.heap.size w9 (Sv.v ⟨some ⟨g9, 0, none⟩, rs.length + [va].length, c9⟩) (rs ++ [va]) from hown)
     have HB9 := Lib.hid (show Below w1.heap.size w1 w9 from (bAl (bThen hB.out hBV.out) _).grown hgrow (by simp; omega) (fun g hg => (hOut.blk hg).1))
     have HL9 := Lib.hid (show (rs ++ [va]).length = b + 1 by rw [List.length_append, hrl]; rfl)
     clear hown hgrow hform hrw9 hro9 hOut hzU hzV HO hR
     go_wp2
     go_roundw
     all_goals first
      | exact ⟨b + 1, ⟨some ⟨g9, 0, none⟩, rs.length + [va].length, c9⟩, _, by omega, by go_num, rfl, ⟨HL9.out, HO9.out, HR9.out⟩, HB9.out⟩
      | ((repeat apply Exists.intro); exact ⟨⟨b + 1, ⟨some ⟨g9, 0, none⟩, rs.length + [va].length, c9⟩, _, by omega, by go_num, rfl, ⟨HL9.out, HO9.out, HR9.out⟩, HB9.out⟩, rfl⟩)
      | (simp [intOf] <;> omega)
  ·have hbe : b = nB l := by omega
   have hlt' : ¬ (b : Int) < (nB l : Int) := by omega
   have HF := Lib.hid (show rs.length = nB l by rw [← hbe]; exact hR.out.1)
   have hs1 := HB1.out.size
   clear hbe
   go_wp2
   go_ret
   exact ⟨HBw.out, _, rfl, rs, HF.out, hR.out.2.1.mono hs1, hR.out.2.2.mono hs1⟩
end Go.Proofs.Ytpklmldempddhaa
namespace Go.Proofs.Ytpklmldempddhaa
open Go Go.RowKit Go.Wr Go.Fl Go.Ht
set_option maxHeartbeats 4000000
set_option maxRecDepth 100000
theorem edR_in {l : List In} {b : Nat} : ∀ x ∈ edR l b, x ≤ inf := fun x hx => by
 obtain ⟨k, _, rfl⟩ := List.mem_map.1 hx
 exact fmul_le _ _
theorem edges_ok (w : World) (q : Nat) (v : Value) (l : List In) (h : SlX tN q w v l) : Calls Try.prog 5 #[v] w fun e w' => e = .returned (.bool true) ∧ Below w.heap.size w w' := by
 have HC := Lib.hid (flows19_ok w q v l h)
 clear h
 go_enter Try.func5, Try.ntmps5
 go_wp2_with fail
 refine HC.out.mono ?_
 rintro e w1 ⟨b1, rfl | ⟨p, q, rfl, -, -, hF, hR⟩⟩
 ·have HB1 := Lib.hid b1
  clear b1
  go_wp2
  go_ret
  exact ⟨rfl, HB1.out⟩
 ·have HB1 := Lib.hid b1
  clear b1
  have HF := Lib.hid hF
  have HR := Lib.hid hR
  have h512 := hF.1.n512
  clear hF hR
  go_wp2_with fail
  refine (hedges_ok w1 p l HF.out).mono ?_
  unfold EdP
  rintro e w2 ⟨b2, v2, rfl, rs, hl2, ho2, hr2⟩
  have HR2 := Lib.hid (HR.out.below b2)
  have HO2 := Lib.hid (And.intro hl2 (And.intro ho2 hr2))
  have HB2 := Lib.hid (bThen HB1.out b2)
  clear b2 ho2 hl2 hr2
  go_wp2_with fail
  refine (redges_ok w2 q l HR2.out).mono ?_
  unfold EdP
  rintro e w3 ⟨b3, v3, rfl, ts, hl3, ho3, hr3⟩
  have ha := OwR.slz (HO2.out.2.1.below b3)
  have hb := OwR.slz ho3
  obtain ⟨aa, ac, rfl, -, -⟩ := ha.form
  obtain ⟨ba, bc, rfl, -, -⟩ := hb.form
  rw [HO2.out.1] at ha
  rw [hl3] at hb
  have HA := Lib.hid (And.intro HO2.out.1 (And.intro ha (HO2.out.2.2.below b3)))
  have HB := Lib.hid (And.intro hl3 (And.intro hb hr3))
  rw [HO2.out.1, hl3]
  have HB3 := Lib.hid (bThen HB2.out b3)
  clear b3 ho3 hl3 hr3 ha hb HO2 HR2 HF HR
  go_wp2
  go_loopw [8] (fun t wr => ∃ (i m : Nat), i ≤ nB l ∧ t = .int .i64 (i : Int) ∧ Hid (wr = w3.drewN m)) (fun t _ => nB l - (intOf t).toNat)
  case atStart => exact ⟨0, 0, by omega, rfl, rfl⟩
  case round =>
   obtain ⟨i, m, hi, rfl, hwr⟩ := hrel
   obtain ⟨V, rfl⟩ : ∃ x : World, x = wr := ⟨_, rfl⟩
   by_cases hlt : i < nB l
   ·have hlt' : (i : Int) < (nB l : Int) := by omega
    have hbV : Below w3.heap.size w3 V := by rw [hwr.out]; exact bDrewN (bRefl w3) m
    obtain ⟨⟨sa, sn, sc⟩, hs⟩ : ∃ s, rs[i]? = some s := ⟨_, List.getElem?_eq_getElem (by rw [HA.out.1]; exact hlt)⟩
    obtain ⟨⟨ta, tn, tc⟩, ht⟩ : ∃ s, ts[i]? = some s := ⟨_, List.getElem?_eq_getElem (by rw [HB.out.1]; exact hlt)⟩
    obtain ⟨g1, o1, rfl, -, hat1⟩ := (HA.out.2.1.below hbV).get hs
    obtain ⟨g2, o2, rfl, -, hat2⟩ := (HB.out.2.1.below hbV).get ht
    have d1 := hat1.cell 0 _ rfl
    have d2 := hat2.cell 0 _ rfl
    have e1 : o1 + i * tFF.n + 0 = o1 + i := by show o1 + i * 1 + 0 = _; omega
    have e2 : o2 + i * tFF.n + 0 = o2 + i := by show o2 + i * 1 + 0 = _; omega
    rw [e1] at d1
    rw [e2] at d2
    have c1 : V.cell? ⟨g1, o1 + i, none⟩ = some (.slice sa sn sc) := d1
    have c2 : V.cell? ⟨g2, o2 + i, none⟩ = some (.slice ta tn tc) := d2
    have hsame : ∀ n, Calls Try.prog 11 #[.slice sa sn sc, .slice ta tn tc] (V.drewN n) fun e w'' => e = .returned (.bool true) ∧ ∃ m, w'' = (V.drewN n).drewN m := fun n => by
     have hbn := bThen hbV (bDrewN (bRefl V) n)
     exact sameF_ok (V.drewN n) _ _ _ _ _ (OwR.slz (OwR.below (HA.out.2.2.own i _ hs) hbn)) (OwR.slz (OwR.below (HB.out.2.2.own i _ ht) hbn)) edR_in
    clear hs ht hat1 hat2 d1 d2 e1 e2 hbV
    go_wp2_with fail
    go_quiet (first | (go_at_call 11; exact Calls.quiet_of (hsame _)))
    have HW := Lib.hid (show ∃ k, V.drewN nq = w3.drewN k from ⟨m + nq, by rw [hwr.out, World.drewN_drewN]⟩)
    clear hsame c1 c2 hwr
    generalize V.drewN nq = V2 at HW ⊢
    go_wp2
    go_roundw
    all_goals first
     | (obtain ⟨k, hk⟩ := HW.out; exact ⟨i + 1, k, by omega, by go_num, hk⟩)
     | (simp [intOf] <;> omega)
   ·have hlt' : ¬ (i : Int) < (nB l : Int) := by omega
    have HE := Lib.hid (show Below w.heap.size w V by rw [hwr.out]; exact bDrewN HB3.out m)
    clear hwr
    go_wp2
    go_ret
    exact ⟨rfl, HE.out⟩
end Go.Proofs.Ytpklmldempddhaa
namespace Go.Proofs.Ytpklmldempddhaa
open Go Go.RowKit Go.Wr Go.Fl
open Go.ChangeShapes Go.WideShapes Go.ChangeAt Go.Deep
set_option maxHeartbeats 4000000
set_option maxRecDepth 100000
set_option maxRecDepth 100000 in
theorem heatEdges_lifted (os : Os) (started : os.Started) (H : Type) (enc : TypeId × Value → H) :
  ReturnsInHanded {} Try.checked os 5 .any (Rows.heatEdgesSpec.pre6 enc Try.prog Try.f5 Rows.heatEdgesRow.domain false) (Rows.heatEdgesSpec.post enc Try.prog Try.f5 false true false false) := by
 refine returnsInHanded_of_change_sized (C := Try.checked) own started (by kernel_rfl) Try.func5
  (ChangeSpec.witness6 (enc := enc) (C := Try.checked) false ⟨#[], #[.slice none 0 0], []⟩ 8 (by kernel_rfl) (by kernel_rfl) (by kernel_rfl) (by kernel_rfl)) ?_
 intro W base args ds gs before hval0 hW hcnd hsz _
 have hval : ∀ (j : Nat) t v, Try.f5.params[j]? = some t → args[j]? = some v → Value.okWide Try.prog W .any base t v := hval0
 have hW' := hW
 obtain ⟨p, q, hA0, hV, rfl, hfz, hnd⟩ := hW
 have hA : DataW.TrodAll enc Try.prog W 0 (fun _ => true) true Try.f5.params.toList args.toList ds p := hA0
 rw [Try.params5] at hA hval hsz
 obtain ⟨v0, vs0, d0, ds0, p0, q0, hargs, rfl, rfl, h0, r0⟩ := trodAll_cons hA
 obtain ⟨rfl, rfl, rfl⟩ := trodAll_nil r0
 obtain rfl : args = #[v0] := by cases args; simp_all
 obtain ⟨rfl, rfl⟩ := trodVars_none hV
 have k0 := h0
 have lt0 : ∀ x ∈ p0, x.block < W.heap.size := by obtain ⟨m, hm⟩ := k0; exact DataW.trod_lt m _ _ _ hm
 obtain ⟨a0, len0, cap0, rfl⟩ := okWide_slice Try.underlying23 (hval 0 23 v0 rfl rfl)
 obtain ⟨l0, g0⟩ : ∃ l, SlX tN W.heap.size W (.slice a0 len0 cap0) l := by
  obtain ⟨fuel, hf⟩ := h0
  exact open_ins (x := (d0, p0)) (by simpa [Value.cells] using hf)
 clear hA0 hval0 hval hfz hnd hcnd hA
 refine (edges_ok W W.heap.size _ l0 g0).mono fun e W' ⟨he, bel⟩ => ?_
 subst he
 exact ⟨_, rfl, _, _, _, [], _, [], hW', trodAll_mk1 (shut_bool Try.underlying4 _), (trodAll_cons_mk (Below.trod laidOut (by kernel_rfl) (of_decide_eq_true (by kernel_rfl)) k0 bel lt0) trodAll_mk0), rfl, bel.frame _, fun h => by cases h⟩
theorem HeatEdges_holds : Rows.HeatEdgesSaid :=
 OpenClaim.holds_of_wide 5 Try.f5 rfl rfl rfl rfl rfl rfl rfl ⟨rfl, rfl, rfl, rfl, rfl⟩ rfl rfl rfl rfl rfl (by kernel_rfl) Try.func5 (by kernel_rfl)
  (of_decide_eq_true (by kernel_rfl)) (by unfold Func.isWrapper; rw [if_neg (of_decide_eq_false (by kernel_rfl))]; exact ⟨rfl, rfl⟩)
  (fun os started H enc _ => heatEdges_lifted os started H enc)
#print axioms HeatEdges_holds
end Go.Proofs.Ytpklmldempddhaa
