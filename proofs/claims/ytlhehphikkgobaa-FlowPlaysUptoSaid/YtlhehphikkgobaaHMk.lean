/- FlowMakes, FlowLoops, FlowOrder, FlowBlock, FlowDominates: true of every list of instructions that is no longer than memory lets it be. -/
import Derived.Test.YtlhehphikkgobaaHMade
namespace Go.Proofs.Ytlhehphikkgobaa
open Go Go.RowKit Go.Wr Go.Fl
set_option maxHeartbeats 4000000
set_option maxRecDepth 100000

theorem dB_le {l : List In} (g : G7 l) : (dB l).length ≤ 1048576 := by rw [dB_len]; have := g.n512; omega
theorem dL_le {l : List In} (g : G7 l) : (dL l).length ≤ 1048576 := by rw [dL_len]; have := g.hd8; omega
theorem flowmakes_ok (w : World) (q : Nat) (v : Value) (l : List In) (h : SlX tN q w v l) (hl : l.length ≤ 1099511627776) : Calls Try.prog 4 #[v] w fun e w' => e = .returned (.bool true) ∧ Below w.heap.size w w' := by
  obtain ⟨a0, cap, rfl, h1, h2⟩ := h.form
  have H := Lib.hid h
  unfold maxLen at h2
  clear h
  go_enter Try.func4, Try.ntmps4
  go_wp2_with fail
  refine (made_ok w q _ l H.out hl).mono ?_
  rintro e w1 ⟨b1, hM⟩
  have HB1 := Lib.hid b1
  clear b1
  rcases hM with rfl | ⟨p, q2, rfl, hp, hq, hF, hR⟩
  · go_wp2_with fail
    refine (known_ok _).mono ?_
    rintro e w2 ⟨rfl, b2⟩
    have HB2 := Lib.hid (bThen HB1.out b2)
    clear b2
    go_wp2
    go_ret
    exact ⟨rfl, HB2.out⟩
  · have HF1 := Lib.hid hF
    have HR1 := Lib.hid hR
    clear hp hq hF hR
    go_wp2_with fail
    refine (known_ok _).mono ?_
    rintro e w2 ⟨rfl, b2⟩
    have HB2 := Lib.hid (bThen HB1.out b2)
    have HF2 := Lib.hid (HF1.out.below b2)
    have HR2 := Lib.hid (HR1.out.below b2)
    clear b2 HF1 HR1
    go_upto_region 6 with (fail)
    obtain ⟨vb, vd, vl, vr, vo, hb, hbd, _, _⟩ := HR2.out.get
    have HD := Lib.hid hbd
    have cv : w2.drew.cell? ⟨q2, 0, none⟩ = some vb := hb.cell 0
    have HF3 := Lib.hid (HF2.out.below (bRefl w2).drew)
    have HD3 := Lib.hid (HD.out.below (bRefl w2).drew)
    have HB3 := Lib.hid (HB2.out.drew)
    have hg := HF2.out.1
    have HLE := Lib.hid (dB_le hg)
    have hql : q2 < w2.drew.heap.size := hb.lt
    clear hb hbd HD hg
    refine wp_region_last 16 (fun w' => w'.cell? ⟨q2, 0, none⟩ = some vb) mix ?_
    refine wpAnyL_take (i := 0) (v := .pointer (some ⟨p, 0, none⟩)) rfl (by kernel_rfl) (by kernel_rfl) (by kernel_rfl) (fun _ _ _ h => h) rfl (by kernel_rfl) (Or.inl ⟨by rfl, fun w' hw' => by (try go_split_ands); go_simp⟩) cv ?_
    simp only [Act.put, List.getElem_toArray, List.getElem_cons_zero, List.setIfInBounds_toArray, List.set_cons_zero, List.set_cons_succ]
    refine wpAnyL_take (i := 2) (v := .pointer (some ⟨q2, 0, none⟩)) rfl (by kernel_rfl) (by kernel_rfl) (by kernel_rfl) (fun _ _ _ h => h) rfl (by kernel_rfl) (Or.inl ⟨by rfl, fun w' hw' => by (try go_split_ands); go_simp⟩) cv ?_
    simp only [Act.put, List.getElem_toArray, List.getElem_cons_zero, List.getElem_cons_succ, List.setIfInBounds_toArray, List.set_cons_zero, List.set_cons_succ]
    refine wpAnyL_take (i := 3) (v := .pointer (some ⟨q2, 0, none⟩)) rfl (by kernel_rfl) (by kernel_rfl) (by kernel_rfl) (fun _ _ _ h => h) rfl (by kernel_rfl) (Or.inl ⟨by rfl, fun w' hw' => by (try go_split_ands); go_simp⟩) cv ?_
    simp only [Act.put, List.getElem_toArray, List.getElem_cons_zero, List.getElem_cons_succ, List.setIfInBounds_toArray, List.set_cons_zero, List.set_cons_succ]
    refine wpAnyL_take (i := 4) (v := .pointer (some ⟨q2, 0, none⟩)) rfl (by kernel_rfl) (by kernel_rfl) (by kernel_rfl) (fun _ _ _ h => h) rfl (by kernel_rfl) (Or.inl ⟨by rfl, fun w' hw' => by (try go_split_ands); go_simp⟩) cv ?_
    simp only [Act.put, List.getElem_toArray, List.getElem_cons_zero, List.getElem_cons_succ, List.setIfInBounds_toArray, List.set_cons_zero, List.set_cons_succ]
    refine wpAnyL_take (i := 5) (v := vb) rfl (by kernel_rfl) (by kernel_rfl) (by kernel_rfl) (fun _ _ _ h => h) rfl (by kernel_rfl) (Or.inl ⟨by rfl, fun w' hw' => by (try go_split_ands); go_simp⟩) cv ?_
    simp only [Act.put, List.getElem_toArray, List.getElem_cons_zero, List.getElem_cons_succ, List.setIfInBounds_toArray, List.set_cons_zero, List.set_cons_succ]
    refine wpAnyL_one (i := 1) (by kernel_rfl) rfl (fun K hK => ?_)
    go_simp
    go_wp2_with fail
    refine HF3.out.blocks.mono ?_
    rintro e w4 ⟨b4, v4, rfl, hd4⟩
    have cv4 : w4.cell? ⟨q2, 0, none⟩ = some vb := (b4.cell (p := ⟨q2, 0, none⟩) hql).trans cv
    have HF4 := Lib.hid (HF3.out.below b4)
    have HD4 := Lib.hid (HD3.out.below b4)
    have HB4 := Lib.hid (bThen HB3.out b4)
    have HV4 := Lib.hid hd4
    have hql4 := Nat.lt_of_lt_of_le hql b4.size
    clear b4 hd4 cv hql HF3 HD3 HB3
    go_wp2_with fail
    refine hK.out _ _ (fun _ => cv4) ?_
    clear hK K
    refine wpAnyL_one (i := 6) (by kernel_rfl) rfl (fun K hK => ?_)
    go_simp
    go_wp2_with fail
    refine (sameBlocks_ok w4 p q2 v4 vb _ HV4.out HD4.out HLE.out).mono ?_
    rintro e w5 ⟨rfl, b5⟩
    have cv5 : w5.cell? ⟨q2, 0, none⟩ = some vb := (b5.cell (p := ⟨q2, 0, none⟩) hql4).trans cv4
    have HF5 := Lib.hid (HF4.out.below b5)
    have HD5 := Lib.hid (HD4.out.below b5)
    have HB5 := Lib.hid (bThen HB4.out b5)
    have hql5 := Nat.lt_of_lt_of_le hql4 b5.size
    clear b5 cv4 hql4 HF4 HD4 HB4
    go_wp2_with fail
    refine hK.out _ _ (fun _ => cv5) ?_
    clear hK K
    refine wpAnyL_take (i := 7) (v := .bool true) rfl (by kernel_rfl) (by kernel_rfl) (by kernel_rfl) (fun _ _ _ h => h) rfl (by kernel_rfl) (Or.inl ⟨by rfl, fun w' hw' => by (try go_split_ands); go_simp⟩) cv5 ?_
    simp only [Act.put, List.getElem_toArray, List.getElem_cons_zero, List.getElem_cons_succ, List.setIfInBounds_toArray, List.set_cons_zero, List.set_cons_succ]
    refine wpAnyL_take (i := 8) (v := .pointer (some ⟨p, 0, none⟩)) rfl (by kernel_rfl) (by kernel_rfl) (by kernel_rfl) (fun _ _ _ h => h) rfl (by kernel_rfl) (Or.inl ⟨by rfl, fun w' hw' => by (try go_split_ands); go_simp⟩) cv5 ?_
    simp only [Act.put, List.getElem_toArray, List.getElem_cons_zero, List.getElem_cons_succ, List.setIfInBounds_toArray, List.set_cons_zero, List.set_cons_succ]
    refine wpAnyL_take (i := 10) (v := .pointer (some ⟨q2, 0, none⟩)) rfl (by kernel_rfl) (by kernel_rfl) (by kernel_rfl) (fun _ _ _ h => h) rfl (by kernel_rfl) (Or.inl ⟨by rfl, fun w' hw' => by (try go_split_ands); go_simp⟩) cv5 ?_
    simp only [Act.put, List.getElem_toArray, List.getElem_cons_zero, List.getElem_cons_succ, List.setIfInBounds_toArray, List.set_cons_zero, List.set_cons_succ]
    refine wpAnyL_take (i := 11) (v := .pointer (some ⟨q2, 0, none⟩)) rfl (by kernel_rfl) (by kernel_rfl) (by kernel_rfl) (fun _ _ _ h => h) rfl (by kernel_rfl) (Or.inl ⟨by rfl, fun w' hw' => by (try go_split_ands); go_simp⟩) cv5 ?_
    simp only [Act.put, List.getElem_toArray, List.getElem_cons_zero, List.getElem_cons_succ, List.setIfInBounds_toArray, List.set_cons_zero, List.set_cons_succ]
    refine wpAnyL_take (i := 12) (v := .pointer (some ⟨q2, 0, none⟩)) rfl (by kernel_rfl) (by kernel_rfl) (by kernel_rfl) (fun _ _ _ h => h) rfl (by kernel_rfl) (Or.inl ⟨by rfl, fun w' hw' => by (try go_split_ands); go_simp⟩) cv5 ?_
    simp only [Act.put, List.getElem_toArray, List.getElem_cons_zero, List.getElem_cons_succ, List.setIfInBounds_toArray, List.set_cons_zero, List.set_cons_succ]
    refine wpAnyL_take (i := 13) (v := vb) rfl (by kernel_rfl) (by kernel_rfl) (by kernel_rfl) (fun _ _ _ h => h) rfl (by kernel_rfl) (Or.inl ⟨by rfl, fun w' hw' => by (try go_split_ands); go_simp⟩) cv5 ?_
    simp only [Act.put, List.getElem_toArray, List.getElem_cons_zero, List.getElem_cons_succ, List.setIfInBounds_toArray, List.set_cons_zero, List.set_cons_succ]
    refine wpAnyL_one (i := 9) (by kernel_rfl) rfl (fun K hK => ?_)
    go_simp
    go_wp2_with fail
    refine HF5.out.blocks.mono ?_
    rintro e w6 ⟨b6, v6, rfl, hd6⟩
    have cv6 : w6.cell? ⟨q2, 0, none⟩ = some vb := (b6.cell (p := ⟨q2, 0, none⟩) hql5).trans cv5
    have HD6 := Lib.hid (HD5.out.below b6)
    have HB6 := Lib.hid (bThen HB5.out b6)
    have HV6 := Lib.hid hd6
    have hql6 := Nat.lt_of_lt_of_le hql5 b6.size
    clear b6 hd6 cv5 hql5 HF5 HD5 HB5
    go_wp2_with fail
    refine hK.out _ _ (fun _ => cv6) ?_
    clear hK K
    refine wpAnyL_one (i := 14) (by kernel_rfl) rfl (fun K hK => ?_)
    go_simp
    go_wp2_with fail
    refine (sameBlocks_ok w6 p q2 v6 vb _ HV6.out HD6.out HLE.out).mono ?_
    rintro e w7 ⟨rfl, b7⟩
    have cv7 : w7.cell? ⟨q2, 0, none⟩ = some vb := (b7.cell (p := ⟨q2, 0, none⟩) hql6).trans cv6
    have HB7 := Lib.hid (bThen HB6.out b7)
    clear b7 cv6 hql6 HD6 HB6
    go_wp2_with fail
    refine hK.out _ _ (fun _ => cv7) ?_
    clear hK K
    refine wpAnyL_one (i := 15) (by kernel_rfl) rfl (fun K hK => ?_)
    go_simp
    refine hK.out _ _ (fun _ => cv7) ?_
    clear hK K
    refine wpAnyL_one (i := 16) (by kernel_rfl) rfl (fun K hK => ?_)
    go_simp
    refine hK.out _ _ (fun h => absurd rfl h) ?_
    clear hK K
    refine wpAnyL_done (by kernel_rfl) ?_ _
    clear cv7
    go_wp2
    go_ret
    exact ⟨rfl, HB7.out⟩
theorem flowloops_ok (w : World) (q : Nat) (v : Value) (l : List In) (h : SlX tN q w v l) (hl : l.length ≤ 1099511627776) : Calls Try.prog 5 #[v] w fun e w' => e = .returned (.bool true) ∧ Below w.heap.size w w' := by
  obtain ⟨a0, cap, rfl, h1, h2⟩ := h.form
  have H := Lib.hid h
  unfold maxLen at h2
  clear h
  go_enter Try.func5, Try.ntmps5
  go_wp2_with fail
  refine (made_ok w q _ l H.out hl).mono ?_
  rintro e w1 ⟨b1, hM⟩
  have HB1 := Lib.hid b1
  clear b1
  rcases hM with rfl | ⟨p, q2, rfl, hp, hq, hF, hR⟩
  · go_wp2_with fail
    refine (known_ok _).mono ?_
    rintro e w2 ⟨rfl, b2⟩
    have HB2 := Lib.hid (bThen HB1.out b2)
    clear b2
    go_upto_region 4 with (fail)
    go_quiet (fail)
    rename_i nq
    have HBq := Lib.hid (bDraw HB2.out nq)
    go_wp2
    go_ret
    exact ⟨rfl, HBq.out⟩
  · have HF1 := Lib.hid hF
    have HR1 := Lib.hid hR
    clear hp hq hF hR
    go_wp2_with fail
    refine (known_ok _).mono ?_
    rintro e w2 ⟨rfl, b2⟩
    have HB2 := Lib.hid (bThen HB1.out b2)
    have HF2 := Lib.hid (HF1.out.below b2)
    have HR2 := Lib.hid (HR1.out.below b2)
    clear b2 HF1 HR1
    go_upto_region 4 with (fail)
    obtain ⟨vb, vd, vl, vr, vo, hb, hbd, hld, hro⟩ := HR2.out.get
    have cv : w2.drew.cell? ⟨q2, 2, none⟩ = some vl := hb.cell 2
    have HF3 := Lib.hid (HF2.out.below (bRefl w2).drew)
    have HD3 := Lib.hid (hld.below (bRefl w2).drew)
    have HB3 := Lib.hid (HB2.out.drew)
    have hg := HF2.out.1
    have HLE := Lib.hid (dL_le hg)
    have hql : q2 < w2.drew.heap.size := hb.lt
    clear hb hbd hld hro hg
    refine wp_region_last 11 (fun w' => w'.cell? ⟨q2, 2, none⟩ = some vl) mix ?_
    refine wpAnyL_take (i := 0) (v := .pointer (some ⟨p, 0, none⟩)) rfl (by kernel_rfl) (by kernel_rfl) (by kernel_rfl) (fun _ _ _ h => h) rfl (by kernel_rfl) (Or.inl ⟨by rfl, fun w' hw' => by (try go_split_ands); go_simp⟩) cv ?_
    simp only [Act.put, List.getElem_toArray, List.getElem_cons_zero, List.setIfInBounds_toArray, List.set_cons_zero, List.set_cons_succ]
    refine wpAnyL_take (i := 1) (v := .bool false) rfl (by kernel_rfl) (by kernel_rfl) (by kernel_rfl) (fun _ _ _ h => h) rfl (by kernel_rfl) (Or.inl ⟨by rfl, fun w' hw' => by (try go_split_ands); go_simp⟩) cv ?_
    simp only [Act.put, List.getElem_toArray, List.getElem_cons_zero, List.getElem_cons_succ, List.setIfInBounds_toArray, List.set_cons_zero, List.set_cons_succ]
    refine wpAnyL_take (i := 2) (v := .bool false) rfl (by kernel_rfl) (by kernel_rfl) (by kernel_rfl) (fun _ _ _ h => h) rfl (by kernel_rfl) (Or.inl ⟨by rfl, fun w' hw' => by (try go_split_ands); go_simp⟩) cv ?_
    simp only [Act.put, List.getElem_toArray, List.getElem_cons_zero, List.getElem_cons_succ, List.setIfInBounds_toArray, List.set_cons_zero, List.set_cons_succ]
    refine wpAnyL_take (i := 3) (v := .pointer (some ⟨p, 0, none⟩)) rfl (by kernel_rfl) (by kernel_rfl) (by kernel_rfl) (fun _ _ _ h => h) rfl (by kernel_rfl) (Or.inl ⟨by rfl, fun w' hw' => by (try go_split_ands); go_simp⟩) cv ?_
    simp only [Act.put, List.getElem_toArray, List.getElem_cons_zero, List.getElem_cons_succ, List.setIfInBounds_toArray, List.set_cons_zero, List.set_cons_succ]
    refine wpAnyL_take (i := 5) (v := .pointer (some ⟨q2, 0, none⟩)) rfl (by kernel_rfl) (by kernel_rfl) (by kernel_rfl) (fun _ _ _ h => h) rfl (by kernel_rfl) (Or.inl ⟨by rfl, fun w' hw' => by (try go_split_ands); go_simp⟩) cv ?_
    simp only [Act.put, List.getElem_toArray, List.getElem_cons_zero, List.getElem_cons_succ, List.setIfInBounds_toArray, List.set_cons_zero, List.set_cons_succ]
    refine wpAnyL_take (i := 6) (v := .pointer (some ⟨q2, 0, none⟩)) rfl (by kernel_rfl) (by kernel_rfl) (by kernel_rfl) (fun _ _ _ h => h) rfl (by kernel_rfl) (Or.inl ⟨by rfl, fun w' hw' => by (try go_split_ands); go_simp⟩) cv ?_
    simp only [Act.put, List.getElem_toArray, List.getElem_cons_zero, List.getElem_cons_succ, List.setIfInBounds_toArray, List.set_cons_zero, List.set_cons_succ]
    refine wpAnyL_take (i := 7) (v := .pointer (some ⟨q2, 2, none⟩)) rfl (by kernel_rfl) (by kernel_rfl) (by kernel_rfl) (fun _ _ _ h => h) rfl (by kernel_rfl) (Or.inl ⟨by rfl, fun w' hw' => by (try go_split_ands); go_simp⟩) cv ?_
    simp only [Act.put, List.getElem_toArray, List.getElem_cons_zero, List.getElem_cons_succ, List.setIfInBounds_toArray, List.set_cons_zero, List.set_cons_succ]
    refine wpAnyL_take (i := 8) (v := vl) rfl (by kernel_rfl) (by kernel_rfl) (by kernel_rfl) (fun _ _ _ h => h) rfl (by kernel_rfl) (Or.inl ⟨by rfl, fun w' hw' => by (try go_split_ands); go_simp⟩) cv ?_
    simp only [Act.put, List.getElem_toArray, List.getElem_cons_zero, List.getElem_cons_succ, List.setIfInBounds_toArray, List.set_cons_zero, List.set_cons_succ]
    refine wpAnyL_one (i := 4) (by kernel_rfl) rfl (fun K hK => ?_)
    go_simp
    go_wp2_with fail
    refine HF3.out.loops.mono ?_
    rintro e w4 ⟨b4, v4, rfl, hd4⟩
    have cv4 : w4.cell? ⟨q2, 2, none⟩ = some vl := (b4.cell (p := ⟨q2, 2, none⟩) hql).trans cv
    have HD4 := Lib.hid (HD3.out.below b4)
    have HB4 := Lib.hid (bThen HB3.out b4)
    have HV4 := Lib.hid hd4
    have hql4 := Nat.lt_of_lt_of_le hql b4.size
    clear b4 hd4 cv hql HF3 HD3 HB3
    go_wp2_with fail
    refine hK.out _ _ (fun _ => cv4) ?_
    clear hK K
    refine wpAnyL_one (i := 9) (by kernel_rfl) rfl (fun K hK => ?_)
    go_simp
    go_wp2_with fail
    refine (sameLoops_ok w4 p q2 v4 vl _ HV4.out HD4.out HLE.out).mono ?_
    rintro e w5 ⟨rfl, b5⟩
    have cv5 : w5.cell? ⟨q2, 2, none⟩ = some vl := (b5.cell (p := ⟨q2, 2, none⟩) hql4).trans cv4
    have HB5 := Lib.hid (bThen HB4.out b5)
    clear b5 cv4 hql4 HD4 HB4
    skip
    go_wp2_with fail
    refine hK.out _ _ (fun _ => cv5) ?_
    clear hK K
    refine wpAnyL_one (i := 10) (by kernel_rfl) rfl (fun K hK => ?_)
    go_simp
    refine hK.out _ _ (fun _ => cv5) ?_
    clear hK K
    refine wpAnyL_one (i := 11) (by kernel_rfl) rfl (fun K hK => ?_)
    go_simp
    refine hK.out _ _ (fun h => absurd rfl h) ?_
    clear hK K
    refine wpAnyL_done (by kernel_rfl) ?_ _
    clear cv5
    go_wp2
    go_ret
    exact ⟨rfl, HB5.out⟩
theorem floworder_ok (w : World) (q : Nat) (v : Value) (l : List In) (h : SlX tN q w v l) (hl : l.length ≤ 1099511627776) : Calls Try.prog 7 #[v] w fun e w' => e = .returned (.bool true) ∧ Below w.heap.size w w' := by
  obtain ⟨a0, cap, rfl, h1, h2⟩ := h.form
  have H := Lib.hid h
  unfold maxLen at h2
  clear h
  go_enter Try.func7, Try.ntmps7
  go_wp2_with fail
  refine (made_ok w q _ l H.out hl).mono ?_
  rintro e w1 ⟨b1, hM⟩
  have HB1 := Lib.hid b1
  clear b1
  rcases hM with rfl | ⟨p, q2, rfl, hp, hq, hF, hR⟩
  · go_wp2_with fail
    refine (known_ok _).mono ?_
    rintro e w2 ⟨rfl, b2⟩
    have HB2 := Lib.hid (bThen HB1.out b2)
    clear b2
    go_upto_region 4 with (fail)
    go_quiet (fail)
    rename_i nq
    have HBq := Lib.hid (bDraw HB2.out nq)
    go_wp2
    go_ret
    exact ⟨rfl, HBq.out⟩
  · have HF1 := Lib.hid hF
    have HR1 := Lib.hid hR
    clear hp hq hF hR
    go_wp2_with fail
    refine (known_ok _).mono ?_
    rintro e w2 ⟨rfl, b2⟩
    have HB2 := Lib.hid (bThen HB1.out b2)
    have HF2 := Lib.hid (HF1.out.below b2)
    have HR2 := Lib.hid (HR1.out.below b2)
    clear b2 HF1 HR1
    go_upto_region 4 with (fail)
    obtain ⟨vb, vd, vl, vr, vo, hb, hbd, hld, hro⟩ := HR2.out.get
    have cv : w2.drew.cell? ⟨q2, 3, none⟩ = some vr := hb.cell 3
    have HF3 := Lib.hid (HF2.out.below (bRefl w2).drew)
    have HD3 := Lib.hid (hro.below (bRefl w2).drew)
    have HB3 := Lib.hid (HB2.out.drew)
    have hg := HF2.out.1
    have HLE := Lib.hid (dB_le hg)
    have hql : q2 < w2.drew.heap.size := hb.lt
    clear hb hbd hld hro hg
    refine wp_region_last 11 (fun w' => w'.cell? ⟨q2, 3, none⟩ = some vr) mix ?_
    refine wpAnyL_take (i := 0) (v := .pointer (some ⟨p, 0, none⟩)) rfl (by kernel_rfl) (by kernel_rfl) (by kernel_rfl) (fun _ _ _ h => h) rfl (by kernel_rfl) (Or.inl ⟨by rfl, fun w' hw' => by (try go_split_ands); go_simp⟩) cv ?_
    simp only [Act.put, List.getElem_toArray, List.getElem_cons_zero, List.setIfInBounds_toArray, List.set_cons_zero, List.set_cons_succ]
    refine wpAnyL_take (i := 1) (v := .bool false) rfl (by kernel_rfl) (by kernel_rfl) (by kernel_rfl) (fun _ _ _ h => h) rfl (by kernel_rfl) (Or.inl ⟨by rfl, fun w' hw' => by (try go_split_ands); go_simp⟩) cv ?_
    simp only [Act.put, List.getElem_toArray, List.getElem_cons_zero, List.getElem_cons_succ, List.setIfInBounds_toArray, List.set_cons_zero, List.set_cons_succ]
    refine wpAnyL_take (i := 2) (v := .bool false) rfl (by kernel_rfl) (by kernel_rfl) (by kernel_rfl) (fun _ _ _ h => h) rfl (by kernel_rfl) (Or.inl ⟨by rfl, fun w' hw' => by (try go_split_ands); go_simp⟩) cv ?_
    simp only [Act.put, List.getElem_toArray, List.getElem_cons_zero, List.getElem_cons_succ, List.setIfInBounds_toArray, List.set_cons_zero, List.set_cons_succ]
    refine wpAnyL_take (i := 3) (v := .pointer (some ⟨p, 0, none⟩)) rfl (by kernel_rfl) (by kernel_rfl) (by kernel_rfl) (fun _ _ _ h => h) rfl (by kernel_rfl) (Or.inl ⟨by rfl, fun w' hw' => by (try go_split_ands); go_simp⟩) cv ?_
    simp only [Act.put, List.getElem_toArray, List.getElem_cons_zero, List.getElem_cons_succ, List.setIfInBounds_toArray, List.set_cons_zero, List.set_cons_succ]
    refine wpAnyL_take (i := 5) (v := .pointer (some ⟨q2, 0, none⟩)) rfl (by kernel_rfl) (by kernel_rfl) (by kernel_rfl) (fun _ _ _ h => h) rfl (by kernel_rfl) (Or.inl ⟨by rfl, fun w' hw' => by (try go_split_ands); go_simp⟩) cv ?_
    simp only [Act.put, List.getElem_toArray, List.getElem_cons_zero, List.getElem_cons_succ, List.setIfInBounds_toArray, List.set_cons_zero, List.set_cons_succ]
    refine wpAnyL_take (i := 6) (v := .pointer (some ⟨q2, 0, none⟩)) rfl (by kernel_rfl) (by kernel_rfl) (by kernel_rfl) (fun _ _ _ h => h) rfl (by kernel_rfl) (Or.inl ⟨by rfl, fun w' hw' => by (try go_split_ands); go_simp⟩) cv ?_
    simp only [Act.put, List.getElem_toArray, List.getElem_cons_zero, List.getElem_cons_succ, List.setIfInBounds_toArray, List.set_cons_zero, List.set_cons_succ]
    refine wpAnyL_take (i := 7) (v := .pointer (some ⟨q2, 3, none⟩)) rfl (by kernel_rfl) (by kernel_rfl) (by kernel_rfl) (fun _ _ _ h => h) rfl (by kernel_rfl) (Or.inl ⟨by rfl, fun w' hw' => by (try go_split_ands); go_simp⟩) cv ?_
    simp only [Act.put, List.getElem_toArray, List.getElem_cons_zero, List.getElem_cons_succ, List.setIfInBounds_toArray, List.set_cons_zero, List.set_cons_succ]
    refine wpAnyL_take (i := 8) (v := vr) rfl (by kernel_rfl) (by kernel_rfl) (by kernel_rfl) (fun _ _ _ h => h) rfl (by kernel_rfl) (Or.inl ⟨by rfl, fun w' hw' => by (try go_split_ands); go_simp⟩) cv ?_
    simp only [Act.put, List.getElem_toArray, List.getElem_cons_zero, List.getElem_cons_succ, List.setIfInBounds_toArray, List.set_cons_zero, List.set_cons_succ]
    refine wpAnyL_one (i := 4) (by kernel_rfl) rfl (fun K hK => ?_)
    go_simp
    go_wp2_with fail
    refine HF3.out.order.mono ?_
    rintro e w4 ⟨b4, v4, rfl, hd4⟩
    have cv4 : w4.cell? ⟨q2, 3, none⟩ = some vr := (b4.cell (p := ⟨q2, 3, none⟩) hql).trans cv
    have HD4 := Lib.hid (HD3.out.below b4)
    have HB4 := Lib.hid (bThen HB3.out b4)
    have HV4 := Lib.hid hd4
    have hql4 := Nat.lt_of_lt_of_le hql b4.size
    clear b4 hd4 cv hql HF3 HD3 HB3
    go_wp2_with fail
    refine hK.out _ _ (fun _ => cv4) ?_
    clear hK K
    refine wpAnyL_one (i := 9) (by kernel_rfl) rfl (fun K hK => ?_)
    go_simp
    go_wp2_with fail
    refine (lawSameInts_ok w4 p q2 v4 vr _ _ HV4.out HD4.out).mono ?_
    rintro e w5 ⟨rfl, b5⟩
    have cv5 : w5.cell? ⟨q2, 3, none⟩ = some vr := (b5.cell (p := ⟨q2, 3, none⟩) hql4).trans cv4
    have HB5 := Lib.hid (bThen HB4.out b5)
    clear b5 cv4 hql4 HD4 HB4
    rw [decide_eq_true rfl]
    go_wp2_with fail
    refine hK.out _ _ (fun _ => cv5) ?_
    clear hK K
    refine wpAnyL_one (i := 10) (by kernel_rfl) rfl (fun K hK => ?_)
    go_simp
    refine hK.out _ _ (fun _ => cv5) ?_
    clear hK K
    refine wpAnyL_one (i := 11) (by kernel_rfl) rfl (fun K hK => ?_)
    go_simp
    refine hK.out _ _ (fun h => absurd rfl h) ?_
    clear hK K
    refine wpAnyL_done (by kernel_rfl) ?_ _
    clear cv5
    go_wp2
    go_ret
    exact ⟨rfl, HB5.out⟩
theorem flowblock_ok (w : World) (q : Nat) (v : Value) (l : List In) (h : SlX tN q w v l) (hl : l.length ≤ 1099511627776) (a : Int) (_ha : I64 a) : Calls Try.prog 8 #[v, .int .i64 a] w fun e w' => e = .returned (.bool true) ∧ Below w.heap.size w w' := by
  obtain ⟨a0, cap, rfl, h1, h2⟩ := h.form
  have H := Lib.hid h
  unfold maxLen at h2
  clear h
  go_enter Try.func8, Try.ntmps8
  go_wp2_with fail
  refine (made_ok w q _ l H.out hl).mono ?_
  rintro e w1 ⟨b1, hM⟩
  have HB1 := Lib.hid b1
  clear b1
  rcases hM with rfl | ⟨p, q2, rfl, hp, hq, hF, hR⟩
  · go_wp2_with fail
    refine (known_ok _).mono ?_
    rintro e w2 ⟨rfl, b2⟩
    have HB2 := Lib.hid (bThen HB1.out b2)
    clear b2
    go_wp2
    go_ret
    exact ⟨rfl, HB2.out⟩
  · have HF1 := Lib.hid hF
    have HR1 := Lib.hid hR
    clear hp hq hF hR
    go_wp2_with fail
    refine (known_ok _).mono ?_
    rintro e w2 ⟨rfl, b2⟩
    have HB2 := Lib.hid (bThen HB1.out b2)
    have HF2 := Lib.hid (HF1.out.below b2)
    have HR2 := Lib.hid (HR1.out.below b2)
    clear b2 HF1 HR1
    go_wp2
    go_loopw [8] (fun t wr => ∃ k : Nat, k ≤ l.length + 2 ∧ t = .int .i64 ((k : Int) - 1) ∧ w2 = wr) (fun t _ => l.length + 2 - (intOf t + 1).toNat)
    case atStart => exact ⟨0, by omega, rfl, rfl⟩
    case round =>
      obtain ⟨k, hk, rfl, rfl⟩ := hrel
      by_cases hlt : k < l.length + 2
      · have hlt' : (k : Int) - 1 ≤ (l.length : Int) := by omega
        go_wp2_with fail
        refine (HF2.out.block ((k : Int) - 1)).mono ?_
        rintro e w3 ⟨rfl, rfl⟩
        go_wp2_with fail
        refine (HR2.out.block ((k : Int) - 1)).mono ?_
        rintro e w3 ⟨rfl, rfl⟩
        go_wp2
        go_roundw
        case rel => exact ⟨k + 1, by omega, by congr 1; omega, trivial⟩
        case measure => show l.length + 2 - ((k : Int) + 1).toNat < l.length + 2 - ((k : Int) - 1 + 1).toNat; omega
      · obtain rfl : k = l.length + 2 := by omega
        go_wp2_with fail
        refine (HF2.out.block a).mono ?_
        rintro e w3 ⟨rfl, rfl⟩
        go_wp2_with fail
        refine (HR2.out.block a).mono ?_
        rintro e w3 ⟨rfl, rfl⟩
        go_wp2
        go_ret
        exact ⟨rfl, HB2.out⟩
theorem flowdominates_ok (w : World) (q : Nat) (v : Value) (l : List In) (h : SlX tN q w v l) (hl : l.length ≤ 1099511627776) (a : Int) (_ha : I64 a) (a' : Int) (_ha' : I64 a') : Calls Try.prog 6 #[v, .int .i64 a, .int .i64 a'] w fun e w' => e = .returned (.bool true) ∧ Below w.heap.size w w' := by
  obtain ⟨a0, cap, rfl, h1, h2⟩ := h.form
  have H := Lib.hid h
  unfold maxLen at h2
  clear h
  go_enter Try.func6, Try.ntmps6
  go_wp2_with fail
  refine (made_ok w q _ l H.out hl).mono ?_
  rintro e w1 ⟨b1, hM⟩
  have HB1 := Lib.hid b1
  clear b1
  rcases hM with rfl | ⟨p, q2, rfl, hp, hq, hF, hR⟩
  · go_wp2_with fail
    refine (known_ok _).mono ?_
    rintro e w2 ⟨rfl, b2⟩
    have HB2 := Lib.hid (bThen HB1.out b2)
    clear b2
    go_wp2
    go_ret
    exact ⟨rfl, HB2.out⟩
  · have HF1 := Lib.hid hF
    have HR1 := Lib.hid hR
    clear hp hq hF hR
    go_wp2_with fail
    refine (known_ok _).mono ?_
    rintro e w2 ⟨rfl, b2⟩
    have HB2 := Lib.hid (bThen HB1.out b2)
    have HF2 := Lib.hid (HF1.out.below b2)
    have HR2 := Lib.hid (HR1.out.below b2)
    have hb : Hid (Below w2.heap.size w2 w2) := bRefl w2
    clear b2 HF1 HR1
    go_wp2_with fail
    refine ((HF2.out.below hb.out).dom _ _).mono ?_
    rintro e w3 ⟨rfl, kk, rfl⟩
    have hb3 := Lib.hid (bDrewN hb.out kk)
    clear hb
    go_wp2_with fail
    refine ((HR2.out.below hb3.out).dom _ _).mono ?_
    rintro e w3 ⟨b3, rfl⟩
    have hb := Lib.hid (bThen hb3.out b3)
    clear b3 hb3
    obtain ⟨wa, rfl⟩ : ∃ x : World, x = w3 := ⟨_, rfl⟩
    obtain ⟨vb, vd, vl, vr, vo, hbl, hbd, _, _⟩ := (HR2.out.below hb.out).get
    obtain ⟨ab, cb, rfl, h5, h6⟩ := hbd.form
    rw [dB_len] at h5 hbl
    have c0 := hbl.cell 0
    simp only [List.getElem?_toArray, List.getElem?_cons_zero] at c0
    have hpos : 0 < (nB l : Int) := by have := HF2.out.1.pos; omega
    have hn5 : nB l ≤ 512 := HF2.out.1.n512
    unfold maxLen at h6
    have HBa := Lib.hid hb.out
    clear hbl hbd hb
    go_wp2
    clear c0
    go_loopw [11] (fun t wr => ∃ i : Nat, i ≤ nB l ∧ t = .int .i64 (i : Int) ∧ Hid (Below w2.heap.size w2 wr)) (fun t _ => nB l - (intOf t).toNat)
    case atStart => exact ⟨0, by omega, rfl, HBa.out⟩
    case round =>
      clear HBa
      obtain ⟨i, hi, rfl, hb⟩ := hrel
      by_cases hlt : i < nB l ∧ i < 40
      · obtain ⟨hlt, h40⟩ := hlt
        have hlt' : (i : Int) < (nB l : Int) := by omega
        have h40' : (i : Int) < 40 := by omega
        go_wp2_with fail
        refine ((HF2.out.below hb.out).dom _ _).mono ?_
        rintro e w3 ⟨rfl, kk, rfl⟩
        have hb3 := Lib.hid (bDrewN hb.out kk)
        clear hb
        go_wp2_with fail
        refine ((HR2.out.below hb3.out).dom _ _).mono ?_
        rintro e w3 ⟨b3, rfl⟩
        have hb := Lib.hid (bThen hb3.out b3)
        clear b3 hb3
        generalize domB (nxt l) (nB l) _ _ = y
        obtain ⟨wb, rfl⟩ : ∃ x : World, x = w3 := ⟨_, rfl⟩
        go_wp2_with fail
        refine ((HF2.out.below hb.out).dom _ _).mono ?_
        rintro e w3 ⟨rfl, kk, rfl⟩
        have hb3 := Lib.hid (bDrewN hb.out kk)
        clear hb
        go_wp2_with fail
        refine ((HR2.out.below hb3.out).dom _ _).mono ?_
        rintro e w3 ⟨b3, rfl⟩
        have hb := Lib.hid (bThen hb3.out b3)
        clear b3 hb3
        generalize domB (nxt l) (nB l) _ _ = z
        go_wp2
        go_roundw
        all_goals first
          | exact ⟨i + 1, by omega, by go_num, hb.out⟩
          | ((repeat apply Exists.intro); exact ⟨⟨i + 1, by omega, by go_num, hb.out⟩, rfl⟩)
          | (simp [intOf] <;> omega)
      · have hd1 := Lib.hid (domB_out (nx := nxt l) (n := nB l) (a := -1) (b := 0) (by omega))
        have hd2 := Lib.hid (domB_out (nx := nxt l) (n := nB l) (a := 0) (b := (nB l : Int)) (by omega))
        by_cases h3 : i < nB l
        · have h3' : (i : Int) < (nB l : Int) := by omega
          have h4' : ¬ (i : Int) < 40 := by omega
          clear hlt
          go_wp2_with fail
          refine ((HF2.out.below hb.out).dom _ _).mono ?_
          rintro e w3 ⟨rfl, kk, rfl⟩
          rw [hd1.out]
          have hb3 := Lib.hid (bDrewN hb.out kk)
          clear hb
          generalize wr.drewN kk = wz at hb3 ⊢
          go_wp2_with fail
          refine ((HF2.out.below hb3.out).dom _ _).mono ?_
          rintro e w3 ⟨rfl, kk2, rfl⟩
          rw [hd2.out]
          have hb4 := Lib.hid (bDrewN hb3.out kk2)
          clear hb3
          go_wp2
          go_ret
          exact ⟨rfl, HB2.out.trans (hb4.out.mono HB2.out.size)⟩
        · have h3' : ¬ (i : Int) < (nB l : Int) := by omega
          clear hlt
          go_wp2_with fail
          refine ((HF2.out.below hb.out).dom _ _).mono ?_
          rintro e w3 ⟨rfl, kk, rfl⟩
          rw [hd1.out]
          have hb3 := Lib.hid (bDrewN hb.out kk)
          clear hb
          generalize wr.drewN kk = wz at hb3 ⊢
          go_wp2_with fail
          refine ((HF2.out.below hb3.out).dom _ _).mono ?_
          rintro e w3 ⟨rfl, kk2, rfl⟩
          rw [hd2.out]
          have hb4 := Lib.hid (bDrewN hb3.out kk2)
          clear hb3
          go_wp2
          go_ret
          exact ⟨rfl, HB2.out.trans (hb4.out.mono HB2.out.size)⟩
end Go.Proofs.Ytlhehphikkgobaa
