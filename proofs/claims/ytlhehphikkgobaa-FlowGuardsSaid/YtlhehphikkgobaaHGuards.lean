/- FlowGuards: true of every list of instructions. DRAFT: not built. -/
import Derived.Test.YtlhehphikkgobaaHHeads
import Derived.Deep.RegionHeld
namespace Go.Proofs.Ytlhehphikkgobaa
open Go Go.RowKit Go.Wr Go.Fl
set_option maxHeartbeats 4000000
set_option maxRecDepth 100000

theorem rem_in (a : Int) (n : Nat) (hn : 0 < n) (hn5 : n ≤ 512) : ∃ c : Nat, c < n ∧ (wrap64 (a.tmod (n : Int) + (n : Int))).tmod (n : Int) = (c : Int) := by
  have h1 : a.tmod (n : Int) < (n : Int) := Int.tmod_lt_of_pos a (by omega)
  have h2 : -(n : Int) < a.tmod (n : Int) := by
    have := Int.tmod_lt_of_pos (-a) (b := (n : Int)) (by omega)
    rw [Int.neg_tmod] at this
    omega
  have e : wrap64 (a.tmod (n : Int) + (n : Int)) = a.tmod (n : Int) + (n : Int) := by unfold wrap64; omega
  rw [e]
  obtain ⟨m, hm⟩ := Int.eq_ofNat_of_zero_le (show 0 ≤ a.tmod (n : Int) + (n : Int) by omega)
  rw [hm]
  exact ⟨m % n, Nat.mod_lt _ hn, by rw [← Int.ofNat_tmod]⟩
theorem guard_dom {l : List In} {c i : Nat} (hc : c < nB l) (hi : i < nB l) : domB (nxt l) (nB l) (c : Int) (i : Int) = !rcB (nxt l) (c : Int) i := by
  rw [Bool.eq_iff_iff, dom_iff hc hi, Bool.not_eq_true', Rc.dom, ← rcB_iff]
  simp
theorem guard_zero {l : List In} {i : Nat} (h0 : 0 < nB l) (hi : i < nB l) : domB (nxt l) (nB l) 0 (i : Int) = true := (dom_iff (a := 0) h0 hi).2 fun _ h => rw_has0 h
theorem guard_self {l : List In} {i : Nat} (hi : i < nB l) : domB (nxt l) (nB l) (i : Int) (i : Int) = true := (dom_iff hi hi).2 (Dom.refl _ _)
theorem slx_le {α : Type} {R : RT Try.prog α} {p : Nat} {w : World} {a : Option Addr} {n c : Nat} {l : List α} (h : SlX R p w (.slice a n c) l) : n ≤ c ∧ c ≤ maxLen := by
  obtain ⟨a1, c1, e, h1, h2⟩ := h.form
  injection e with _ e1 e2
  subst e2
  exact ⟨by omega, h2⟩
theorem flowguards_ok (w : World) (q : Nat) (v : Value) (l : List In) (h : SlX tN q w v l) (a : Int) (ha : I64 a) : Calls Try.prog 13 #[v, .int .i64 a] w fun e w' => e = .returned (.bool true) ∧ Below w.heap.size w w' := by
  obtain ⟨a0, cap, rfl, h1, h2⟩ := h.form
  have H := Lib.hid h
  unfold maxLen at h2
  unfold I64 at ha
  clear h
  go_enter Try.func13, Try.ntmps13
  go_wp2_with fail
  refine (taken_ok w q _ l H.out).mono ?_
  rintro e w1 hT
  obtain ⟨b1, rfl | ⟨p, rfl, _, hF⟩⟩ := hT.two
  · have HB1 := Lib.hid b1
    clear b1 hT
    go_wp2
    go_ret
    exact ⟨rfl, HB1.out⟩
  · have HB1 := Lib.hid b1
    have HF1 := Lib.hid hF
    clear b1 hF hT
    go_wp2_with fail
    refine HF1.out.blocks.mono ?_
    rintro e w2 ⟨b2, v2, rfl, hd2⟩
    have HB2 := Lib.hid (bThen HB1.out b2)
    have HF2 := Lib.hid (HF1.out.below b2)
    have HG := Lib.hid HF2.out.1
    obtain ⟨ab, cb, rfl, h5, h6⟩ := hd2.form
    have HD2 := Lib.hid hd2
    rw [dB_len] at h5 HD2
    rw [dB_len]
    clear b2 hd2 HF1 HB1
    have hpN : 0 < nB l := HG.out.pos
    have hpos : 0 < (nB l : Int) := by omega
    have hz9 : ((nB l : Int) == 0) = false := beq_eq_false_iff_ne.2 (by omega)
    have hn5 : nB l ≤ 512 := HG.out.n512
    unfold maxLen at h6
    go_upto_region 7 with (fail)
    go_upto_region 8 with (fail)
    obtain ⟨c, hc, ec⟩ := rem_in a (nB l) hpN hn5
    rw [ec]
    clear ec
    go_upto_region 10 with (at_make; refine wpl_make tB false rfl rfl _ _ rfl .i64 .i64 (nB l : Int) (nB l : Int) (nB l) rfl rfl rfl rfl (by show 1 * _ ≤ _; omega) (by unfold maxLen; omega) ?_; intro w3 ho3 hb3 hlt3)
    obtain ⟨gV, hgV⟩ : ∃ g, g = w2.heap.size := ⟨_, rfl⟩
    have e0 : (List.replicate (nB l) false) = (List.range (nB l)).map (fun _ => false) := by
      apply List.ext_getElem?
      intro k
      by_cases hk : k < nB l <;> simp [hk]
    rw [e0] at ho3
    have HO3 := Lib.hid ho3
    rw [← hgV] at HO3
    have HB3 := Lib.hid hb3
    have HGV := Lib.hid hgV
    clear ho3 hb3 hlt3 e0 hgV
    rw [← HGV.out]
    by_cases hc0 : c = 0
    · have hcz : ((c : Int) != 0) = false := by simp [hc0]
      have hall : (List.range (nB l)).map (fun _ => false) = (List.range (nB l)).map (rcB (nxt l) (c : Int)) := by
        subst hc0
        apply List.map_congr_left
        intro x _
        exact (rc_zero (nxt l) x).symm
      have HRv := HO3.out
      rw [hall] at HRv
      have HRv := Lib.hid HRv
      have HBW := Lib.hid HB3.out
      clear hall hc0 HO3
      obtain ⟨W, rfl⟩ : ∃ W : World, W = w3 := ⟨_, rfl⟩
      go_wp2
      go_loopw [9, 10] (fun t9 t10 wr => t9 = .slice none 0 0 ∧ t10 = .int .i64 0 ∧ wr = W) (fun _ _ _ => 0)
      case atStart => exact ⟨rfl, rfl, rfl⟩
      case round =>
        obtain ⟨rfl, rfl, rfl⟩ := hrel
        obtain ⟨W, rfl⟩ : ∃ W : World, W = wr := ⟨_, rfl⟩
        have HF5 := Lib.hid (HF2.out.below HBW.out)
        have HB5 := Lib.hid (bThen HB2.out HBW.out)
        clear HB2 HF2
        go_wp2
        go_loopw [13] (fun t wr => ∃ i : Nat, i ≤ nB l ∧ t = .int .i64 (i : Int) ∧ Hid (Below W.heap.size W wr)) (fun t _ => nB l - (intOf t).toNat)
        case atStart => exact ⟨0, by omega, rfl, bRefl W⟩
        case round =>
          obtain ⟨i, hi, rfl, hb⟩ := hrel
          by_cases hit : i < nB l
          · have hit' : (i : Int) < (nB l : Int) := by omega
            have hi0 : (0 : Int) ≤ (i : Int) := by omega
            have cs := OwB.cell (HRv.out.below hb.out) hit
            have hg1 := guard_dom hc hit
            obtain ⟨y, hy⟩ : ∃ y, y = rcB (nxt l) (c : Int) i := ⟨_, rfl⟩
            rw [← hy] at cs hg1
            have HG1 := Lib.hid hg1
            have HG2 := Lib.hid (guard_zero hpN hit)
            have HG3 := Lib.hid (guard_self hit)
            have hyn : ((!y) == y) = false := by cases y <;> rfl
            go_upto_region 26 with (fail)
            refine wp_region_held_drew (S := fun w' => w'.cell? ⟨gV, i, none⟩ = some (.bool y) ∧ Hid (Below W.heap.size W w')) mix ⟨cs, hb.out.drew⟩ (fun hS => ?_)
            clear cs hg1 hy hb
            refine wpAnyH_take (i := 0) (v := .pointer (some ⟨p, 0, none⟩)) rfl (by kernel_rfl) (by kernel_rfl) (by kernel_rfl) (fun _ _ _ h => h) (Or.inl ⟨by rfl, fun w' hw' => by (try go_split_ands); go_simp⟩) hS ?_
            simp only [Act.put, List.getElem_toArray, List.getElem_cons_zero, List.setIfInBounds_toArray, List.set_cons_zero, List.set_cons_succ]
            refine wpAnyH_take (i := 1) (v := .int .i64 (c : Int)) rfl (by kernel_rfl) (by kernel_rfl) (by kernel_rfl) (fun _ _ _ h => h) (Or.inl ⟨by rfl, fun w' hw' => by (try go_split_ands); go_simp⟩) hS ?_
            simp only [Act.put, List.getElem_toArray, List.getElem_cons_zero, List.getElem_cons_succ, List.setIfInBounds_toArray, List.set_cons_zero, List.set_cons_succ]
            refine wpAnyH_take (i := 2) (v := .int .i64 (i : Int)) rfl (by kernel_rfl) (by kernel_rfl) (by kernel_rfl) (fun _ _ _ h => h) (Or.inl ⟨by rfl, fun w' hw' => by (try go_split_ands); go_simp⟩) hS ?_
            simp only [Act.put, List.getElem_toArray, List.getElem_cons_zero, List.getElem_cons_succ, List.setIfInBounds_toArray, List.set_cons_zero, List.set_cons_succ]
            refine wpAnyH_take (i := 4) (v := .slice (some ⟨gV, 0, none⟩) (nB l) (nB l)) rfl (by kernel_rfl) (by kernel_rfl) (by kernel_rfl) (fun _ _ _ h => h) (Or.inl ⟨by rfl, fun w' hw' => by (try go_split_ands); go_simp⟩) hS ?_
            simp only [Act.put, List.getElem_toArray, List.getElem_cons_zero, List.getElem_cons_succ, List.setIfInBounds_toArray, List.set_cons_zero, List.set_cons_succ]
            refine wpAnyH_take (i := 5) (v := .int .i64 (i : Int)) rfl (by kernel_rfl) (by kernel_rfl) (by kernel_rfl) (fun _ _ _ h => h) (Or.inl ⟨by rfl, fun w' hw' => by (try go_split_ands); go_simp⟩) hS ?_
            simp only [Act.put, List.getElem_toArray, List.getElem_cons_zero, List.getElem_cons_succ, List.setIfInBounds_toArray, List.set_cons_zero, List.set_cons_succ]
            refine wpAnyH_take (i := 6) (v := .pointer (some ⟨gV, i, none⟩)) rfl (by kernel_rfl) (by kernel_rfl) (by kernel_rfl) (fun _ _ _ h => h) (Or.inl ⟨by rfl, fun w' hw' => by (try go_split_ands); go_simp⟩) hS ?_
            simp only [Act.put, List.getElem_toArray, List.getElem_cons_zero, List.getElem_cons_succ, List.setIfInBounds_toArray, List.set_cons_zero, List.set_cons_succ]
            refine wpAnyH_take (i := 7) (v := .bool y) rfl (by kernel_rfl) (by kernel_rfl) (by kernel_rfl) (fun _ _ _ h => h) (Or.inl ⟨by rfl, fun w' hw' => by (try go_split_ands); go_simp⟩) hS ?_
            simp only [Act.put, List.getElem_toArray, List.getElem_cons_zero, List.getElem_cons_succ, List.setIfInBounds_toArray, List.set_cons_zero, List.set_cons_succ]
            refine wpAnyH_ready (rs := [3]) (by kernel_rfl) (by simp) ?_
            refine AllReadyH.cons rfl (fun K hK => ?_) AllReadyH.nil
            go_simp
            go_wp2_with fail
            refine ((HF5.out.below hS.2.out).dom (c : Int) (i : Int)).mono ?_
            rintro e w9 ⟨rfl, k1, rfl⟩
            rw [HG1.out]
            obtain ⟨w6, hw6⟩ : ∃ x, x = wr.drew.drewN k1 := ⟨_, rfl⟩
            have hS6 : w6.cell? ⟨gV, i, none⟩ = some (.bool y) ∧ Hid (Below W.heap.size W w6) := by rw [hw6]; exact ⟨hS.1, bDrewN hS.2.out k1⟩
            rw [← hw6]
            clear hw6 hS
            go_wp2_with fail
            refine hK.out _ _ hS6 (fun hS => ?_)
            clear hK K hS6
            refine wpAnyH_ready (rs := [8]) (by kernel_rfl) (by simp) ?_
            refine AllReadyH.cons rfl (fun K hK => ?_) AllReadyH.nil
            go_simp
            refine hK.out _ _ hS (fun _ => ?_)
            clear hK K
            refine wpAnyH_take (i := 9) (v := .bool false) rfl (by kernel_rfl) (by kernel_rfl) (by kernel_rfl) (fun _ _ _ h => h) (Or.inl ⟨by rfl, fun w' hw' => by (try go_split_ands); go_simp⟩) hS ?_
            simp only [Act.put, List.getElem_toArray, List.getElem_cons_zero, List.getElem_cons_succ, List.setIfInBounds_toArray, List.set_cons_zero, List.set_cons_succ]
            refine wpAnyH_take (i := 10) (v := .pointer (some ⟨p, 0, none⟩)) rfl (by kernel_rfl) (by kernel_rfl) (by kernel_rfl) (fun _ _ _ h => h) (Or.inl ⟨by rfl, fun w' hw' => by (try go_split_ands); go_simp⟩) hS ?_
            simp only [Act.put, List.getElem_toArray, List.getElem_cons_zero, List.getElem_cons_succ, List.setIfInBounds_toArray, List.set_cons_zero, List.set_cons_succ]
            refine wpAnyH_take (i := 11) (v := .int .i64 (i : Int)) rfl (by kernel_rfl) (by kernel_rfl) (by kernel_rfl) (fun _ _ _ h => h) (Or.inl ⟨by rfl, fun w' hw' => by (try go_split_ands); go_simp⟩) hS ?_
            simp only [Act.put, List.getElem_toArray, List.getElem_cons_zero, List.getElem_cons_succ, List.setIfInBounds_toArray, List.set_cons_zero, List.set_cons_succ]
            refine wpAnyH_ready (rs := [12]) (by kernel_rfl) (by simp) ?_
            refine AllReadyH.cons rfl (fun K hK => ?_) AllReadyH.nil
            go_simp
            go_wp2_with fail
            refine ((HF5.out.below hS.2.out).dom 0 (i : Int)).mono ?_
            rintro e w9 ⟨rfl, k2, rfl⟩
            rw [HG2.out]
            obtain ⟨w7, hw7⟩ : ∃ x, x = w6.drewN k2 := ⟨_, rfl⟩
            have hS7 : w7.cell? ⟨gV, i, none⟩ = some (.bool y) ∧ Hid (Below W.heap.size W w7) := by rw [hw7]; exact ⟨hS.1, bDrewN hS.2.out k2⟩
            rw [← hw7]
            clear hw7 hS
            go_wp2_with fail
            refine hK.out _ _ hS7 (fun hS => ?_)
            clear hK K hS7
            refine wpAnyH_ready (rs := [13]) (by kernel_rfl) (by simp) ?_
            refine AllReadyH.cons rfl (fun K hK => ?_) AllReadyH.nil
            go_simp
            refine hK.out _ _ hS (fun _ => ?_)
            clear hK K
            refine wpAnyH_ready (rs := [14]) (by kernel_rfl) (by simp) ?_
            refine AllReadyH.cons rfl (fun K hK => ?_) AllReadyH.nil
            go_simp
            refine hK.out _ _ hS (fun _ => ?_)
            clear hK K
            refine wpAnyH_take (i := 15) (v := .bool false) rfl (by kernel_rfl) (by kernel_rfl) (by kernel_rfl) (fun _ _ _ h => h) (Or.inl ⟨by rfl, fun w' hw' => by (try go_split_ands); go_simp⟩) hS ?_
            simp only [Act.put, List.getElem_toArray, List.getElem_cons_zero, List.getElem_cons_succ, List.setIfInBounds_toArray, List.set_cons_zero, List.set_cons_succ]
            refine wpAnyH_take (i := 16) (v := .pointer (some ⟨p, 0, none⟩)) rfl (by kernel_rfl) (by kernel_rfl) (by kernel_rfl) (fun _ _ _ h => h) (Or.inl ⟨by rfl, fun w' hw' => by (try go_split_ands); go_simp⟩) hS ?_
            simp only [Act.put, List.getElem_toArray, List.getElem_cons_zero, List.getElem_cons_succ, List.setIfInBounds_toArray, List.set_cons_zero, List.set_cons_succ]
            refine wpAnyH_take (i := 17) (v := .int .i64 (i : Int)) rfl (by kernel_rfl) (by kernel_rfl) (by kernel_rfl) (fun _ _ _ h => h) (Or.inl ⟨by rfl, fun w' hw' => by (try go_split_ands); go_simp⟩) hS ?_
            simp only [Act.put, List.getElem_toArray, List.getElem_cons_zero, List.getElem_cons_succ, List.setIfInBounds_toArray, List.set_cons_zero, List.set_cons_succ]
            refine wpAnyH_take (i := 18) (v := .int .i64 (i : Int)) rfl (by kernel_rfl) (by kernel_rfl) (by kernel_rfl) (fun _ _ _ h => h) (Or.inl ⟨by rfl, fun w' hw' => by (try go_split_ands); go_simp⟩) hS ?_
            simp only [Act.put, List.getElem_toArray, List.getElem_cons_zero, List.getElem_cons_succ, List.setIfInBounds_toArray, List.set_cons_zero, List.set_cons_succ]
            refine wpAnyH_ready (rs := [19]) (by kernel_rfl) (by simp) ?_
            refine AllReadyH.cons rfl (fun K hK => ?_) AllReadyH.nil
            go_simp
            go_wp2_with fail
            refine ((HF5.out.below hS.2.out).dom (i : Int) (i : Int)).mono ?_
            rintro e w9 ⟨rfl, k3, rfl⟩
            rw [HG3.out]
            obtain ⟨w8, hw8⟩ : ∃ x, x = w7.drewN k3 := ⟨_, rfl⟩
            have hS8 : w8.cell? ⟨gV, i, none⟩ = some (.bool y) ∧ Hid (Below W.heap.size W w8) := by rw [hw8]; exact ⟨hS.1, bDrewN hS.2.out k3⟩
            rw [← hw8]
            clear hw8 hS
            go_wp2_with fail
            refine hK.out _ _ hS8 (fun hS => ?_)
            clear hK K hS8
            refine wpAnyH_ready (rs := [20]) (by kernel_rfl) (by simp) ?_
            refine AllReadyH.cons rfl (fun K hK => ?_) AllReadyH.nil
            go_simp
            refine hK.out _ _ hS (fun _ => ?_)
            clear hK K
            refine wpAnyH_ready (rs := [21]) (by kernel_rfl) (by simp) ?_
            refine AllReadyH.cons rfl (fun K hK => ?_) AllReadyH.nil
            go_simp
            refine hK.out _ _ hS (fun _ => ?_)
            clear hK K
            refine wpAnyH_done (by kernel_rfl) ?_ _
            have hb3 := hS.2
            clear hS
            go_wp2
            go_roundw
            all_goals first
              | exact ⟨i + 1, by omega, by go_num, hb3.out⟩
              | ((repeat apply Exists.intro); exact ⟨⟨i + 1, by omega, by go_num, hb3.out⟩, rfl⟩)
              | (simp [intOf] <;> omega)
          · obtain rfl : i = nB l := by omega
            clear hit
            go_wp2
            go_ret
            exact ⟨rfl, HB5.out.trans (hb.out.mono HB5.out.size)⟩
    · have hcz : ((c : Int) != 0) = true := by simp [hc0]
      have hw0 : (0 : Int) ≠ (c : Int) := fun e => hc0 (by omega)
      have HWO := Lib.hid hw0
      have cV := OwB.cell HO3.out hpN
      have fV := HO3.out.frozen 0
      have hov : OwR tB w2.heap.size (w3.setCell ⟨gV, 0, none⟩ (.bool true)) (.slice (some ⟨gV, 0, none⟩) (nB l) (nB l)) ((List.range (nB l)).map (Fl.mark (fun _ => false) 0)) := (OwB.mark HO3.out hpN).mono (by rw [HGV.out]; exact Nat.le_refl _)
      have hbl : Below w2.heap.size w2 (w3.setCell ⟨gV, 0, none⟩ (.bool true)) := HB3.out.setCell (p := ⟨gV, 0, none⟩) (by show _ ≤ gV; rw [HGV.out]; exact Nat.le_refl _) (.bool true)
      have HOV := Lib.hid hov
      have HBL := Lib.hid hbl
      clear hc0 hw0 HO3 HB3 hov hbl
      go_upto_region 12 with (fail)
      generalize w3.setCell ⟨gV, 0, none⟩ (.bool true) = w4 at HOV HBL ⊢
      have hsz4 := HBL.out.size
      clear cV fV
      go_upto_region 13 with (at_builtin; refine wpl_push tI rfl _ _ rfl w2.heap.size (.slice none 0 0) [] (by rfl) (OwR.nil _ _) _ 0 1 1 [(0 : Int)] (by rfl) rfl (rangeNew (by rfl) (by rfl)) (by unfold maxLen; simp) (by show _ * 8 ≤ _; simp) (by simp; omega) ?_; intro v2 w5 hown hgrow hform; obtain ⟨gT, cT, rfl, hc1, hc2, hgT⟩ := hform (by simp))
      have hR0 : Rs w2 (nB l) gV (Fl.mark (fun _ => false) 0) gT cT [0] w5 := by
        have hal := HOV.out.alloc (.cells #[.int .i64 0] 3)
        refine ⟨hal.keep fun g e => ?_, hown, (bAl HBL.out (.cells #[.int .i64 0] 3)).grown hgrow (by simp; omega) (fun g e => by cases e)⟩
        obtain ⟨_, C, hb⟩ := hal.blk e
        exact hgrow.block g hb.lt (fun e => by cases e)
      have HR0 := Lib.hid hR0
      have HK0 : Hid (Wk (nxt l) (fun _ y => (y : Int) ≠ (c : Int)) (Rc (nxt l) (c : Int)) (Fl.mark (fun _ => false) 0) [0] 0 0) :=
        ⟨fun x hx => (by
          rcases mark_iff.1 hx with rfl | hx
          · simp
          · cases hx), fun x hx => by simp at hx; subst hx; exact Rc.zero HWO.out, fun x hx => by simp at hx, fun x hx y hy => by simp at hy⟩
      clear hR0 hown hgrow hform HOV HBL hsz4 hc1 hc2 hgT
      go_wp2
      go_loopg [9, 10] (nB l) (fun m t9 t10 wr => ∃ (V : Nat → Bool) (gT cT i : Nat) (T : List Nat), t9 = .slice (some ⟨gT, 0, none⟩) T.length cT ∧ t10 = .int .i64 (i : Int) ∧ Hid (Rs w2 (nB l) gV V gT cT T wr) ∧ Hid (Wk (nxt l) (fun _ y => (y : Int) ≠ (c : Int)) (Rc (nxt l) (c : Int)) V T i 0) ∧ Hid (∀ x ∈ T, x < nB l) ∧ Hid (V 0 = true) ∧ i ≤ T.length ∧ free (nB l) V + T.length ≤ nB l ∧ m = nB l - i)
      case atStart => exact ⟨_, gT, cT, 0, [0], rfl, rfl, HR0.out, HK0.out, (fun x hx => by simp at hx; subst hx; exact hpN), mark_self _ _, by simp, by
        have h1 := free_mark (B := fun _ => false) hpN rfl
        have h2 := free_bound (nB l) (fun _ => false)
        simp
        omega, rfl⟩
      case round =>
        clear HR0 HK0
        obtain ⟨V, gT, cT, i, T, rfl, rfl, hR, hK, hT, hV0, hi, hfr, hm⟩ := hrel
        by_cases hli : i < T.length
        · have hli' : (i : Int) < (T.length : Int) := by omega
          have hi0 : (0 : Int) ≤ (i : Int) := by omega
          obtain ⟨x, hx⟩ : ∃ x, T[i]? = some x := ⟨_, List.getElem?_eq_getElem hli⟩
          have hxn : x < nB l := hT.out x (List.mem_of_getElem? hx)
          have hxi : (x : Int) < (nB l : Int) := by omega
          have hx0 : (0 : Int) ≤ (x : Int) := by omega
          have ct := OwR.int hR.out.ot (k := i) (x := (x : Int)) (by unfold nI; rw [List.getElem?_map, hx]; rfl)
          obtain ⟨bb, off, an, cn, rfl, _, _, c2, hnx, hbb⟩ := HD2.out.get (dB_get hxn)
          simp only at c2 hnx
          rw [nI_len] at c2 hnx
          have c2 : wr.cell? ⟨bb, off + x * 3 + 2, none⟩ = some (.slice an (nxt l x).length cn) := (hR.out.bl.cell (p := ⟨bb, off + x * 3 + 2, none⟩) hbb).trans c2
          obtain ⟨hn1, hn2⟩ := slx_le hnx
          unfold maxLen at hn2
          have hxl := nxt_two l x
          have HNX := Lib.hid hnx
          have HXT := Lib.hid hx
          have hR9 : Hid (Rs w2 (nB l) gV V gT cT T wr) := hR
          clear hnx hx
          go_upto_region 17 with (fail)
          clear hR ct c2
          go_wp2
          go_loopw [9, 12] (fun t9 t12 wr => ∃ (V : Nat → Bool) (gT cT j : Nat) (T : List Nat), t9 = .slice (some ⟨gT, 0, none⟩) T.length cT ∧ t12 = .int .i64 (j : Int) ∧ Hid (Rs w2 (nB l) gV V gT cT T wr) ∧ Hid (Wk (nxt l) (fun _ y => (y : Int) ≠ (c : Int)) (Rc (nxt l) (c : Int)) V T i j) ∧ Hid (∀ x ∈ T, x < nB l) ∧ Hid (V 0 = true) ∧ Hid (T[i]? = some x) ∧ i < T.length ∧ free (nB l) V + T.length ≤ nB l ∧ j ≤ (nxt l x).length) (fun _ t _ => (nxt l x).length - (intOf t).toNat)
          case atStart => exact ⟨V, gT, cT, 0, T, rfl, rfl, hR9.out, hK.out, hT.out, hV0.out, HXT.out, hli, hfr, by omega⟩
          case round =>
            clear hR9 hK hT hV0 HXT hli hfr hi hli'
            obtain ⟨V, gT, cT, j, T, rfl, rfl, hR, hK, hT, hV0, hXT, hli, hfr, hj⟩ := hrel
            by_cases hlj : j < (nxt l x).length
            · have hlj' : (j : Int) < ((nxt l x).length : Int) := by omega
              have hj0 : (0 : Int) ≤ (j : Int) := by omega
              obtain ⟨y, hy⟩ : ∃ y, (nxt l x)[j]? = some y := ⟨_, List.getElem?_eq_getElem hlj⟩
              have hyn := HG.out.nlt x hxn y (List.mem_of_getElem? hy)
              have hyi : (y : Int) < (nB l : Int) := by omega
              have hy0 : (0 : Int) ≤ (y : Int) := by omega
              obtain ⟨bv, ov, rfl, _, hbv, cv⟩ := SlX.int (HNX.out.below hR.out.bl) (show (nI (nxt l x))[j]? = some (y : Int) by unfold nI; rw [List.getElem?_map, hy]; rfl)
              have cV := OwB.cell hR.out.ov hyn
              have HY := Lib.hid hy
              have HYM := Lib.hid (List.mem_of_getElem? hy)
              clear hy
              by_cases hyw : (y : Int) = (c : Int)
              · have hyw' : ((y : Int) != (c : Int)) = false := by simp [hyw]
                have HK9 := Lib.hid (hK.out.skip hXT.out HY.out (fun h => absurd hyw h))
                clear hyw hK
                go_wp2
                go_roundw
                all_goals first
                  | exact ⟨V, gT, cT, j + 1, T, rfl, by go_num, hR.out, HK9.out, hT.out, hV0.out, hXT.out, hli, hfr, by omega⟩
                  | ((repeat apply Exists.intro); exact ⟨⟨V, gT, cT, j + 1, T, rfl, by go_num, hR.out, HK9.out, hT.out, hV0.out, hXT.out, hli, hfr, by omega⟩, rfl⟩)
                  | (simp [intOf] <;> omega)
              · have hyw' : ((y : Int) != (c : Int)) = true := by simp [hyw]
                have HYW := Lib.hid hyw
                clear hyw
                cases hVy : V y with
                | true =>
                  have HK9 := Lib.hid (hK.out.skip hXT.out HY.out (fun _ => hVy))
                  rw [hVy] at cV
                  clear hVy hK
                  go_wp2
                  go_roundw
                  all_goals first
                    | exact ⟨V, gT, cT, j + 1, T, rfl, by go_num, hR.out, HK9.out, hT.out, hV0.out, hXT.out, hli, hfr, by omega⟩
                    | ((repeat apply Exists.intro); exact ⟨⟨V, gT, cT, j + 1, T, rfl, by go_num, hR.out, HK9.out, hT.out, hV0.out, hXT.out, hli, hfr, by omega⟩, rfl⟩)
                    | (simp [intOf] <;> omega)
                | false =>
                  have hPx := hK.out.sound x (List.mem_of_getElem? hXT.out)
                  have HK9 := Lib.hid (hK.out.add hXT.out HY.out (hPx.step HYM.out HYW.out))
                  have hfm := free_mark hyn hVy
                  rw [hVy] at cV
                  have fV := hR.out.ov.frozen y
                  have HR7 := Lib.hid (hR.out.mark (i := y) hyn)
                  clear hVy hK hPx
                  go_upto_region 22 with (fail)
                  have cv7 : (wr.setCell ⟨gV, y, none⟩ (.bool true)).cell? ⟨bv, ov + j, none⟩ = some (.int .i64 (y : Int)) := by
                    obtain ⟨bv2, ov2, e2, _, _, cv2⟩ := SlX.int (HNX.out.below HR7.out.bl) (show (nI (nxt l x))[j]? = some (y : Int) by unfold nI; rw [List.getElem?_map, HY.out]; rfl)
                    injection e2 with e2
                    injection e2 with e21 e22
                    subst e21 e22
                    exact cv2
                  generalize wr.setCell ⟨gV, y, none⟩ (.bool true) = W7 at HR7 cv7 ⊢
                  have hsz7 := HR7.out.bl.size
                  clear hR cV fV cv
                  go_wp2_with (at_builtin; refine wpl_push tI rfl _ _ rfl w2.heap.size (.slice (some ⟨gT, 0, none⟩) T.length cT) (nI T) (by rfl) (HR7.out.ot.alloc _) _ 0 1 1 [(y : Int)] (by rfl) rfl (rangeNew (by rfl) (by rfl)) (by rw [nI_len]; unfold maxLen; simp; omega) (by rw [nI_len]; show _ * 8 ≤ _; simp; omega) (by simp; omega) ?_; intro v2 w10 hown2 hgrow2 hform2; obtain ⟨g2, c2', rfl, _⟩ := hform2 (by simp))
                  have hR10 := HR7.out.push (x := y) (g' := g2) (c' := c2') (by rw [nI_app, ← nI_len T]; exact hown2) hgrow2
                  have hT10 : ∀ z ∈ T ++ [y], z < nB l := fun z hz => by
                    rcases List.mem_append.1 hz with hz | hz
                    · exact hT.out z hz
                    · simp at hz; subst hz; exact hyn
                  have hV10 : Fl.mark V y 0 = true := mark_iff.2 (Or.inr hV0.out)
                  have hX10 : (T ++ [y])[i]? = some x := by rw [List.getElem?_append_left hli]; exact hXT.out
                  exact ⟨⟨_, g2, c2', j + 1, T ++ [y], by simp [nI_len], by go_num, hR10, HK9.out, hT10, hV10, hX10, by simp; omega, by simp; omega, by omega⟩, by simp [intOf]; omega⟩
            · have hjl : j = (nxt l x).length := by omega
              have hK2 := hK.out
              rw [hjl] at hK2
              have HK9 := Lib.hid (hK2.next hXT.out)
              clear hK2 hK hjl
              go_wp2
              go_roundg (nB l - (i + 1))
              case measure => omega
              case rel => exact ⟨V, gT, cT, i + 1, T, rfl, by go_num, hR.out, HK9.out, hT.out, hV0.out, by omega, hfr, rfl⟩
        · have hil : i = T.length := by omega
          have hK2 := hK.out
          rw [hil] at hK2
          have hcl : ∀ x, V x = true → ∀ y ∈ nxt l x, (y : Int) ≠ (c : Int) → V y = true := fun x hx => hK2.done x (hK2.mem x hx)
          have hfin : (List.range (nB l)).map V = (List.range (nB l)).map (rcB (nxt l) (c : Int)) := by
            apply List.map_congr_left
            intro x _
            rw [Bool.eq_iff_iff, rcB_iff]
            exact ⟨fun h => hK2.sound x (hK2.mem x h), Rc.sub (fun _ => hV0.out) hcl x⟩
          have hov := hR.out.ov
          rw [hfin] at hov
          have HRv := Lib.hid hov
          have HBW := Lib.hid hR.out.bl
          obtain ⟨W, rfl⟩ : ∃ x : World, x = wr := ⟨_, rfl⟩
          obtain rfl := hil
          clear hK2 hcl hK hfin hov hR hT hV0 hli hfr hm hi
          have HF5 := Lib.hid (HF2.out.below HBW.out)
          have HB5 := Lib.hid (bThen HB2.out HBW.out)
          clear HB2 HF2
          go_wp2
          go_loopw [13] (fun t wr => ∃ i : Nat, i ≤ nB l ∧ t = .int .i64 (i : Int) ∧ Hid (Below W.heap.size W wr)) (fun t _ => nB l - (intOf t).toNat)
          case atStart => exact ⟨0, by omega, rfl, bRefl W⟩
          case round =>
            obtain ⟨i, hi, rfl, hb⟩ := hrel
            by_cases hit : i < nB l
            · have hit' : (i : Int) < (nB l : Int) := by omega
              have hi0 : (0 : Int) ≤ (i : Int) := by omega
              have cs := OwB.cell (HRv.out.below hb.out) hit
              have hg1 := guard_dom hc hit
              obtain ⟨y, hy⟩ : ∃ y, y = rcB (nxt l) (c : Int) i := ⟨_, rfl⟩
              rw [← hy] at cs hg1
              have HG1 := Lib.hid hg1
              have HG2 := Lib.hid (guard_zero hpN hit)
              have HG3 := Lib.hid (guard_self hit)
              have hyn : ((!y) == y) = false := by cases y <;> rfl
              go_upto_region 26 with (fail)
              refine wp_region_held_drew (S := fun w' => w'.cell? ⟨gV, i, none⟩ = some (.bool y) ∧ Hid (Below W.heap.size W w')) mix ⟨cs, hb.out.drew⟩ (fun hS => ?_)
              clear cs hg1 hy hb
              refine wpAnyH_take (i := 0) (v := .pointer (some ⟨p, 0, none⟩)) rfl (by kernel_rfl) (by kernel_rfl) (by kernel_rfl) (fun _ _ _ h => h) (Or.inl ⟨by rfl, fun w' hw' => by (try go_split_ands); go_simp⟩) hS ?_
              simp only [Act.put, List.getElem_toArray, List.getElem_cons_zero, List.setIfInBounds_toArray, List.set_cons_zero, List.set_cons_succ]
              refine wpAnyH_take (i := 1) (v := .int .i64 (c : Int)) rfl (by kernel_rfl) (by kernel_rfl) (by kernel_rfl) (fun _ _ _ h => h) (Or.inl ⟨by rfl, fun w' hw' => by (try go_split_ands); go_simp⟩) hS ?_
              simp only [Act.put, List.getElem_toArray, List.getElem_cons_zero, List.getElem_cons_succ, List.setIfInBounds_toArray, List.set_cons_zero, List.set_cons_succ]
              refine wpAnyH_take (i := 2) (v := .int .i64 (i : Int)) rfl (by kernel_rfl) (by kernel_rfl) (by kernel_rfl) (fun _ _ _ h => h) (Or.inl ⟨by rfl, fun w' hw' => by (try go_split_ands); go_simp⟩) hS ?_
              simp only [Act.put, List.getElem_toArray, List.getElem_cons_zero, List.getElem_cons_succ, List.setIfInBounds_toArray, List.set_cons_zero, List.set_cons_succ]
              refine wpAnyH_take (i := 4) (v := .slice (some ⟨gV, 0, none⟩) (nB l) (nB l)) rfl (by kernel_rfl) (by kernel_rfl) (by kernel_rfl) (fun _ _ _ h => h) (Or.inl ⟨by rfl, fun w' hw' => by (try go_split_ands); go_simp⟩) hS ?_
              simp only [Act.put, List.getElem_toArray, List.getElem_cons_zero, List.getElem_cons_succ, List.setIfInBounds_toArray, List.set_cons_zero, List.set_cons_succ]
              refine wpAnyH_take (i := 5) (v := .int .i64 (i : Int)) rfl (by kernel_rfl) (by kernel_rfl) (by kernel_rfl) (fun _ _ _ h => h) (Or.inl ⟨by rfl, fun w' hw' => by (try go_split_ands); go_simp⟩) hS ?_
              simp only [Act.put, List.getElem_toArray, List.getElem_cons_zero, List.getElem_cons_succ, List.setIfInBounds_toArray, List.set_cons_zero, List.set_cons_succ]
              refine wpAnyH_take (i := 6) (v := .pointer (some ⟨gV, i, none⟩)) rfl (by kernel_rfl) (by kernel_rfl) (by kernel_rfl) (fun _ _ _ h => h) (Or.inl ⟨by rfl, fun w' hw' => by (try go_split_ands); go_simp⟩) hS ?_
              simp only [Act.put, List.getElem_toArray, List.getElem_cons_zero, List.getElem_cons_succ, List.setIfInBounds_toArray, List.set_cons_zero, List.set_cons_succ]
              refine wpAnyH_take (i := 7) (v := .bool y) rfl (by kernel_rfl) (by kernel_rfl) (by kernel_rfl) (fun _ _ _ h => h) (Or.inl ⟨by rfl, fun w' hw' => by (try go_split_ands); go_simp⟩) hS ?_
              simp only [Act.put, List.getElem_toArray, List.getElem_cons_zero, List.getElem_cons_succ, List.setIfInBounds_toArray, List.set_cons_zero, List.set_cons_succ]
              refine wpAnyH_ready (rs := [3]) (by kernel_rfl) (by simp) ?_
              refine AllReadyH.cons rfl (fun K hK => ?_) AllReadyH.nil
              go_simp
              go_wp2_with fail
              refine ((HF5.out.below hS.2.out).dom (c : Int) (i : Int)).mono ?_
              rintro e w9 ⟨rfl, k1, rfl⟩
              rw [HG1.out]
              obtain ⟨w6, hw6⟩ : ∃ x, x = wr.drew.drewN k1 := ⟨_, rfl⟩
              have hS6 : w6.cell? ⟨gV, i, none⟩ = some (.bool y) ∧ Hid (Below W.heap.size W w6) := by rw [hw6]; exact ⟨hS.1, bDrewN hS.2.out k1⟩
              rw [← hw6]
              clear hw6 hS
              go_wp2_with fail
              refine hK.out _ _ hS6 (fun hS => ?_)
              clear hK K hS6
              refine wpAnyH_ready (rs := [8]) (by kernel_rfl) (by simp) ?_
              refine AllReadyH.cons rfl (fun K hK => ?_) AllReadyH.nil
              go_simp
              refine hK.out _ _ hS (fun _ => ?_)
              clear hK K
              refine wpAnyH_take (i := 9) (v := .bool false) rfl (by kernel_rfl) (by kernel_rfl) (by kernel_rfl) (fun _ _ _ h => h) (Or.inl ⟨by rfl, fun w' hw' => by (try go_split_ands); go_simp⟩) hS ?_
              simp only [Act.put, List.getElem_toArray, List.getElem_cons_zero, List.getElem_cons_succ, List.setIfInBounds_toArray, List.set_cons_zero, List.set_cons_succ]
              refine wpAnyH_take (i := 10) (v := .pointer (some ⟨p, 0, none⟩)) rfl (by kernel_rfl) (by kernel_rfl) (by kernel_rfl) (fun _ _ _ h => h) (Or.inl ⟨by rfl, fun w' hw' => by (try go_split_ands); go_simp⟩) hS ?_
              simp only [Act.put, List.getElem_toArray, List.getElem_cons_zero, List.getElem_cons_succ, List.setIfInBounds_toArray, List.set_cons_zero, List.set_cons_succ]
              refine wpAnyH_take (i := 11) (v := .int .i64 (i : Int)) rfl (by kernel_rfl) (by kernel_rfl) (by kernel_rfl) (fun _ _ _ h => h) (Or.inl ⟨by rfl, fun w' hw' => by (try go_split_ands); go_simp⟩) hS ?_
              simp only [Act.put, List.getElem_toArray, List.getElem_cons_zero, List.getElem_cons_succ, List.setIfInBounds_toArray, List.set_cons_zero, List.set_cons_succ]
              refine wpAnyH_ready (rs := [12]) (by kernel_rfl) (by simp) ?_
              refine AllReadyH.cons rfl (fun K hK => ?_) AllReadyH.nil
              go_simp
              go_wp2_with fail
              refine ((HF5.out.below hS.2.out).dom 0 (i : Int)).mono ?_
              rintro e w9 ⟨rfl, k2, rfl⟩
              rw [HG2.out]
              obtain ⟨w7, hw7⟩ : ∃ x, x = w6.drewN k2 := ⟨_, rfl⟩
              have hS7 : w7.cell? ⟨gV, i, none⟩ = some (.bool y) ∧ Hid (Below W.heap.size W w7) := by rw [hw7]; exact ⟨hS.1, bDrewN hS.2.out k2⟩
              rw [← hw7]
              clear hw7 hS
              go_wp2_with fail
              refine hK.out _ _ hS7 (fun hS => ?_)
              clear hK K hS7
              refine wpAnyH_ready (rs := [13]) (by kernel_rfl) (by simp) ?_
              refine AllReadyH.cons rfl (fun K hK => ?_) AllReadyH.nil
              go_simp
              refine hK.out _ _ hS (fun _ => ?_)
              clear hK K
              refine wpAnyH_ready (rs := [14]) (by kernel_rfl) (by simp) ?_
              refine AllReadyH.cons rfl (fun K hK => ?_) AllReadyH.nil
              go_simp
              refine hK.out _ _ hS (fun _ => ?_)
              clear hK K
              refine wpAnyH_take (i := 15) (v := .bool false) rfl (by kernel_rfl) (by kernel_rfl) (by kernel_rfl) (fun _ _ _ h => h) (Or.inl ⟨by rfl, fun w' hw' => by (try go_split_ands); go_simp⟩) hS ?_
              simp only [Act.put, List.getElem_toArray, List.getElem_cons_zero, List.getElem_cons_succ, List.setIfInBounds_toArray, List.set_cons_zero, List.set_cons_succ]
              refine wpAnyH_take (i := 16) (v := .pointer (some ⟨p, 0, none⟩)) rfl (by kernel_rfl) (by kernel_rfl) (by kernel_rfl) (fun _ _ _ h => h) (Or.inl ⟨by rfl, fun w' hw' => by (try go_split_ands); go_simp⟩) hS ?_
              simp only [Act.put, List.getElem_toArray, List.getElem_cons_zero, List.getElem_cons_succ, List.setIfInBounds_toArray, List.set_cons_zero, List.set_cons_succ]
              refine wpAnyH_take (i := 17) (v := .int .i64 (i : Int)) rfl (by kernel_rfl) (by kernel_rfl) (by kernel_rfl) (fun _ _ _ h => h) (Or.inl ⟨by rfl, fun w' hw' => by (try go_split_ands); go_simp⟩) hS ?_
              simp only [Act.put, List.getElem_toArray, List.getElem_cons_zero, List.getElem_cons_succ, List.setIfInBounds_toArray, List.set_cons_zero, List.set_cons_succ]
              refine wpAnyH_take (i := 18) (v := .int .i64 (i : Int)) rfl (by kernel_rfl) (by kernel_rfl) (by kernel_rfl) (fun _ _ _ h => h) (Or.inl ⟨by rfl, fun w' hw' => by (try go_split_ands); go_simp⟩) hS ?_
              simp only [Act.put, List.getElem_toArray, List.getElem_cons_zero, List.getElem_cons_succ, List.setIfInBounds_toArray, List.set_cons_zero, List.set_cons_succ]
              refine wpAnyH_ready (rs := [19]) (by kernel_rfl) (by simp) ?_
              refine AllReadyH.cons rfl (fun K hK => ?_) AllReadyH.nil
              go_simp
              go_wp2_with fail
              refine ((HF5.out.below hS.2.out).dom (i : Int) (i : Int)).mono ?_
              rintro e w9 ⟨rfl, k3, rfl⟩
              rw [HG3.out]
              obtain ⟨w8, hw8⟩ : ∃ x, x = w7.drewN k3 := ⟨_, rfl⟩
              have hS8 : w8.cell? ⟨gV, i, none⟩ = some (.bool y) ∧ Hid (Below W.heap.size W w8) := by rw [hw8]; exact ⟨hS.1, bDrewN hS.2.out k3⟩
              rw [← hw8]
              clear hw8 hS
              go_wp2_with fail
              refine hK.out _ _ hS8 (fun hS => ?_)
              clear hK K hS8
              refine wpAnyH_ready (rs := [20]) (by kernel_rfl) (by simp) ?_
              refine AllReadyH.cons rfl (fun K hK => ?_) AllReadyH.nil
              go_simp
              refine hK.out _ _ hS (fun _ => ?_)
              clear hK K
              refine wpAnyH_ready (rs := [21]) (by kernel_rfl) (by simp) ?_
              refine AllReadyH.cons rfl (fun K hK => ?_) AllReadyH.nil
              go_simp
              refine hK.out _ _ hS (fun _ => ?_)
              clear hK K
              refine wpAnyH_done (by kernel_rfl) ?_ _
              have hb3 := hS.2
              clear hS
              go_wp2
              go_roundw
              all_goals first
                | exact ⟨i + 1, by omega, by go_num, hb3.out⟩
                | ((repeat apply Exists.intro); exact ⟨⟨i + 1, by omega, by go_num, hb3.out⟩, rfl⟩)
                | (simp [intOf] <;> omega)
            · obtain rfl : i = nB l := by omega
              clear hit
              go_wp2
              go_ret
              exact ⟨rfl, HB5.out.trans (hb.out.mono HB5.out.size)⟩
end Go.Proofs.Ytlhehphikkgobaa
