/- ShapeNames returns true whatever the memory; nothing that was there is turned. No conditions. (The law's awake, too.) -/
import Derived.Test.YtlcmfpfmjkpfoaaSAsk
import Derived.Test.YtlcmfpfmjkpfoaaSStart
import Derived.Test.YtlcmfpfmjkpfoaaSFrame
namespace Go.Proofs.Ytlcmfpfmjkpfoaa
open Go Go.RowKit Go.Wr
open Go.ChangeShapes Go.WideShapes Go.ChangeAt
set_option maxHeartbeats 2000000
set_option maxRecDepth 100000

theorem tagsN (d : Bool) (v : Value) : (((bx (.bool d) f0 v).setIfInBounds 10 (.int .i64 1)).setIfInBounds 11 (.int .i64 0)).setIfInBounds 12 (.int .i64 0) = bx (.bool d) fN v := by kernel_rfl
theorem bx_set (a b v : Value) (f : Nat → Tg) : (bx a f b).setIfInBounds 127 v = bx a f v := by
  apply Array.ext_getElem?
  intro i
  rw [Array.getElem?_setIfInBounds]
  by_cases h : 127 = i
  · subst h
    rw [if_pos rfl, if_pos (by rw [bx_size]; omega), bx_last]
  · rw [if_neg h]
    by_cases h2 : i = 0
    · subst h2; rw [bx_zero, bx_zero]
    · by_cases h3 : i < 127
      · obtain ⟨j, rfl⟩ : ∃ j, i = 1 + j := ⟨i - 1, by omega⟩
        rw [bx_succ _ _ _ (by omega), bx_succ _ _ _ (by omega)]
      · rw [Array.getElem?_eq_none (by rw [bx_size]; omega), Array.getElem?_eq_none (by rw [bx_size]; omega)]
theorem bx_setz (a b v : Value) (f : Nat → Tg) : (bx a f b).setIfInBounds 0 v = bx v f b := by
  unfold bx
  simp

theorem awake_any (w : World) : Calls Try.prog 8 #[] w fun e w' => e = .returned (.bool true) ∧ Below w.heap.size w w' := by
  have hz := zeroClaim
  have hs1 : Hid (bndZ ⟨false, mA⟩ 0 5 = (true, 0)) := by show _ = _; decide +kernel
  have hs2 : Hid (bndZ ⟨false, mA⟩ 5 0 = (true, 9)) := by show _ = _; decide +kernel
  have ht : Hid (tgv (tagOf fN 5) = #[.int .i64 1, .int .i64 0, .int .i64 0]) := by show _ = _; rfl
  go_enter Try.func8, Try.ntmps8
  go_upto_region 2 with (fail)
  generalize hW : (w.alloc (.cells (bx (.bool false) f0 (.slice none 0 0)) 28)) = W
  have tW : Below w.heap.size w W := by rw [← hW]; exact bAl (bRefl w) _
  have CB : Blk W w.heap.size 28 (bx (.bool false) f0 (.slice none 0 0)) := by rw [← hW]; exact Blk.new _ _ _
  clear hW hz
  go_wp2_with fail
  refine (ltag_any _ 1 0 0).mono ?_
  rintro e w1 ⟨rfl, b1⟩
  have t1 := bThen tW b1
  have C1 := CB.below b1 CB.lt
  have c0 := (C1.cell 10).trans ((bx_succ (.bool false) f0 (.slice none 0 0) (i := 9) (by omega)).trans (gc_get f0 (show 3 < 42 by omega)).1)
  have c1 := (C1.cell 11).trans ((bx_succ (.bool false) f0 (.slice none 0 0) (i := 10) (by omega)).trans (gc_get f0 (show 3 < 42 by omega)).2.1)
  have c2 := (C1.cell 12).trans ((bx_succ (.bool false) f0 (.slice none 0 0) (i := 11) (by omega)).trans (gc_get f0 (show 3 < 42 by omega)).2.2)
  have f10 := C1.frozen 10
  have f11 := C1.frozen 11
  have f12 := C1.frozen 12
  have hl := C1.lt
  have CH := Lib.hid C1
  clear b1 CB tW C1
  go_upto_region 3 with (fail)
  have hE : ∀ E, E = ((w1.setCell ⟨w.heap.size, 10, none⟩ (.int .i64 1)).setCell ⟨w.heap.size, 11, none⟩ (.int .i64 0)).setCell ⟨w.heap.size, 12, none⟩ (.int .i64 0) →
      Blk E w.heap.size 28 (bx (.bool false) fN (.slice none 0 0)) ∧ Below w.heap.size w E := fun E e => by
    subst e
    exact ⟨((CH.out.set 10 _).set 11 _ |>.set 12 _).eq (tagsN _ _), ((t1.setCell (p := ⟨w.heap.size, 10, none⟩) (Nat.le_refl _) _).setCell (p := ⟨w.heap.size, 11, none⟩) (Nat.le_refl _) _).setCell (p := ⟨w.heap.size, 12, none⟩) (Nat.le_refl _) _⟩
  have HE := Lib.hid hE
  clear c0 c1 c2 f10 f11 f12 CH t1 hE hl
  generalize hw : ((w1.setCell ⟨w.heap.size, 10, none⟩ (.int .i64 1)).setCell ⟨w.heap.size, 11, none⟩ (.int .i64 0)).setCell ⟨w.heap.size, 12, none⟩ (.int .i64 0) = wE
  obtain ⟨cE, tE⟩ := HE.out wE hw.symm
  clear hw HE
  have c0 := (cE.cell 127).trans (bx_last _ _ _)
  have f0' := cE.frozen 127
  have hl := cE.lt
  have CE := Lib.hid cE
  clear cE
  go_upto_region 4 with (fail)
  have hF : ∀ E, E = ((wE.setCell ⟨w.heap.size, 127, none⟩ (.slice (some ⟨wE.heap.size, 0, none⟩) 2 2)).alloc (.cells #[.int .i64 5, .int .i64 0, .int .i64 9, .int .i64 0, .int .i64 5, .int .i64 0] 30)) →
      Blk E w.heap.size 28 (bx (.bool false) fN (.slice (some ⟨wE.heap.size, 0, none⟩) 2 2)) ∧ Blk E wE.heap.size 30 #[.int .i64 5, .int .i64 0, .int .i64 9, .int .i64 0, .int .i64 5, .int .i64 0] ∧ Below w.heap.size w E := fun E e => by
    subst e
    exact ⟨((CE.out.set 127 _).eq (bx_set _ _ _ _)).alloc _, Blk.new_at _ _ (by simp), bAl (tE.setCell (p := ⟨w.heap.size, 127, none⟩) (Nat.le_refl _) _) _⟩
  have HF := Lib.hid hF
  clear c0 f0' CE tE hF hl
  obtain ⟨g, hg⟩ : ∃ g, g = wE.heap.size := ⟨_, rfl⟩
  generalize hw : ((wE.setCell ⟨w.heap.size, 127, none⟩ (.slice (some ⟨wE.heap.size, 0, none⟩) 2 2)).alloc (.cells #[.int .i64 5, .int .i64 0, .int .i64 9, .int .i64 0, .int .i64 5, .int .i64 0] 30)) = wF
  obtain ⟨cF, sF, tF⟩ := HF.out wF hw.symm
  rw [← hg] at cF sF ⊢
  clear hw HF hg
  have s0 : wF.cell? ⟨g, 0, none⟩ = some (.int .i64 5) := sF.cell 0
  have s1 : wF.cell? ⟨g, 1, none⟩ = some (.int .i64 0) := sF.cell 1
  have s2 : wF.cell? ⟨g, 2, none⟩ = some (.int .i64 9) := sF.cell 2
  have s3 : wF.cell? ⟨g, 3, none⟩ = some (.int .i64 0) := sF.cell 3
  have s4 : wF.cell? ⟨g, 4, none⟩ = some (.int .i64 5) := sF.cell 4
  have s5 : wF.cell? ⟨g, 5, none⟩ = some (.int .i64 0) := sF.cell 5
  have CF := Lib.hid cF
  clear cF sF
  go_wp2_with (refine wpl_load rfl 28 (.tmp 1) rfl w.heap.size 0 rfl CF.out rowClaim (by rw [bx_size]; omega) (D := bx (.bool false) fN (.slice (some ⟨g, 0, none⟩) 2 2)) (bx_all _ _ _) ?_)
  refine (from_two _ g 0 2 s0 s1 s2 s3 s4 s5).mono ?_
  rintro e w2 ⟨b, rfl, sh, b2⟩
  have t2 := bThen tF b2
  have SH := Lib.hid sh
  clear s0 s1 s2 s3 s4 s5 CF tF b2 sh
  go_wp2_with fail
  refine (span_both _ b fN false _ SH.out 5 0 9 hs1.out hs2.out (by omega) (by omega)).mono ?_
  rintro e w3 ⟨rfl, b3⟩
  have S3 := Lib.hid (SH.out.below b3)
  go_wp2_with fail
  refine (stag_any _ b fN false _ S3.out 5).mono ?_
  rintro e w4 ⟨rfl, b4⟩
  rw [ht.out]
  go_wp2_with fail
  refine (ltag_any _ 1 0 0).mono ?_
  rintro e w5 ⟨rfl, b5⟩
  go_wp2
  go_ret
  exact ⟨rfl, bThen (bThen (bThen t2 b3) b4) b5⟩

theorem bS1 : bndZ ⟨false, mS 4 100⟩ 0 1 = (true, -4) := by decide +kernel
theorem bS2 : bndZ ⟨false, mS 4 100⟩ 1 0 = (true, 100) := by decide +kernel
theorem bS3 : bndZ ⟨false, mS 4 100⟩ 0 3 = (true, 0) := by decide +kernel
theorem bS4 : bndZ ⟨false, mS 4 100⟩ 3 0 = (true, 0) := by decide +kernel
theorem bS5 : bndZ ⟨false, mS 4 100⟩ 4 1 = (true, 0) := by decide +kernel
theorem names_any (w : World) : Calls Try.prog 3 #[] w fun e w' => e = .returned (.bool true) ∧ Below w.heap.size w w' := by
  have hz := zeroClaim
  have hs1 := Lib.hid bS1
  have hs2 := Lib.hid bS2
  have hs3 := Lib.hid bS3
  have hs4 := Lib.hid bS4
  have hs5 := Lib.hid bS5
  have ht : Hid (tgv (tagOf fS 3) = #[.int .i64 3, .int .i64 0, .int .i64 0]) := by show _ = _; rfl
  go_enter Try.func3, Try.ntmps3
  go_upto_region 3 with (fail)
  generalize hW : (w.alloc (.cells (bx (.bool false) f0 (.slice none 0 0)) 28)) = W
  have tW : Below w.heap.size w W := by rw [← hW]; exact bAl (bRefl w) _
  have CB : Blk W w.heap.size 28 (bx (.bool false) f0 (.slice none 0 0)) := by rw [← hW]; exact Blk.new _ _ _
  have c0 := (CB.cell 127).trans (bx_last _ _ _)
  have f0' := CB.frozen 127
  have hl := CB.lt
  have CH := Lib.hid CB
  clear hW CB
  go_upto_region 4 with (fail)
  have hF : ∀ E, E = ((W.setCell ⟨w.heap.size, 127, none⟩ (.slice (some ⟨W.heap.size, 0, none⟩) 1 1)).alloc (.cells #[.int .i64 5, .int .i64 0, .int .i64 9] 30)) →
      Blk E w.heap.size 28 (bx (.bool false) f0 (.slice (some ⟨W.heap.size, 0, none⟩) 1 1)) ∧ Blk E W.heap.size 30 #[.int .i64 5, .int .i64 0, .int .i64 9] ∧ Below w.heap.size w E := fun E e => by
    subst e
    exact ⟨((CH.out.set 127 _).eq (bx_set _ _ _ _)).alloc _, Blk.new_at _ _ (by simp), bAl (tW.setCell (p := ⟨w.heap.size, 127, none⟩) (Nat.le_refl _) _) _⟩
  have HF := Lib.hid hF
  clear c0 f0' CH tW hF hl
  obtain ⟨g, hg⟩ : ∃ g, g = W.heap.size := ⟨_, rfl⟩
  generalize hw : ((W.setCell ⟨w.heap.size, 127, none⟩ (.slice (some ⟨W.heap.size, 0, none⟩) 1 1)).alloc (.cells #[.int .i64 5, .int .i64 0, .int .i64 9] 30)) = wF
  obtain ⟨cF, sF, tF⟩ := HF.out wF hw.symm
  rw [← hg] at cF sF ⊢
  clear hw HF hg
  have s0 : wF.cell? ⟨g, 0, none⟩ = some (.int .i64 5) := sF.cell 0
  have s1 : wF.cell? ⟨g, 1, none⟩ = some (.int .i64 0) := sF.cell 1
  have s2 : wF.cell? ⟨g, 2, none⟩ = some (.int .i64 9) := sF.cell 2
  have CF := Lib.hid cF
  clear cF sF hz
  go_wp2_with (refine wpl_load rfl 28 (.tmp 1) rfl w.heap.size 0 rfl CF.out rowClaim (by rw [bx_size]; omega) (D := bx (.bool false) f0 (.slice (some ⟨g, 0, none⟩) 1 1)) (bx_all _ _ _) ?_)
  refine (from_cons _ g 0 1 s0 s1 s2).mono ?_
  rintro e w2 ⟨rfl, b2⟩
  have t2 := bThen tF b2
  clear s0 s1 s2 CF tF b2
  have hz := zeroClaim
  go_upto_region 6 with (fail)
  generalize hV : (w2.alloc (.cells (bx (.bool false) f0 (.slice none 0 0)) 28)) = V
  have tV : Below w.heap.size w V := by rw [← hV]; exact bAl t2 _
  have CB : Blk V w2.heap.size 28 (bx (.bool false) f0 (.slice none 0 0)) := by rw [← hV]; exact Blk.new _ _ _
  have hw2 : w.heap.size ≤ w2.heap.size := t2.size
  have c0 := (CB.cell 0).trans (bx_zero _ _ _)
  have f0' := CB.frozen 0
  have hl := CB.lt
  have CH := Lib.hid CB
  clear hV CB hz t2
  obtain ⟨h, hh⟩ : ∃ h, h = w2.heap.size := ⟨_, rfl⟩
  rw [← hh] at c0 f0' hl CH hw2 ⊢
  clear hh
  go_wp2_with fail
  refine (ltag_any _ 1 0 0).mono ?_
  rintro e w3 ⟨rfl, b3⟩
  have t3 := bThen (tV.setCell (p := ⟨h, 0, none⟩) hw2 (.bool true)) b3
  have C3 := ((CH.out.set 0 (.bool true)).eq (bx_setz _ _ _ _)).below b3 (by simp; exact hl)
  have c10 := (C3.cell 10).trans ((bx_succ (.bool true) f0 (.slice none 0 0) (i := 9) (by omega)).trans (gc_get f0 (show 3 < 42 by omega)).1)
  have c11 := (C3.cell 11).trans ((bx_succ (.bool true) f0 (.slice none 0 0) (i := 10) (by omega)).trans (gc_get f0 (show 3 < 42 by omega)).2.1)
  have c12 := (C3.cell 12).trans ((bx_succ (.bool true) f0 (.slice none 0 0) (i := 11) (by omega)).trans (gc_get f0 (show 3 < 42 by omega)).2.2)
  have f10 := C3.frozen 10
  have f11 := C3.frozen 11
  have f12 := C3.frozen 12
  have hl3 := C3.lt
  have CH3 := Lib.hid C3
  clear b3 c0 f0' tV C3 CH
  go_upto_region 8 with (fail)
  have hE : ∀ E, E = ((w3.setCell ⟨h, 10, none⟩ (.int .i64 1)).setCell ⟨h, 11, none⟩ (.int .i64 0)).setCell ⟨h, 12, none⟩ (.int .i64 0) →
      Blk E h 28 (bx (.bool true) fN (.slice none 0 0)) ∧ Below w.heap.size w E := fun E e => by
    subst e
    exact ⟨((CH3.out.set 10 _).set 11 _ |>.set 12 _).eq (tagsN _ _), ((t3.setCell (p := ⟨h, 10, none⟩) hw2 _).setCell (p := ⟨h, 11, none⟩) hw2 _).setCell (p := ⟨h, 12, none⟩) hw2 _⟩
  have HE := Lib.hid hE
  clear c10 c11 c12 f10 f11 f12 CH3 t3 hE hl3
  generalize hw : ((w3.setCell ⟨h, 10, none⟩ (.int .i64 1)).setCell ⟨h, 11, none⟩ (.int .i64 0)).setCell ⟨h, 12, none⟩ (.int .i64 0) = wE
  obtain ⟨cE, tE⟩ := HE.out wE hw.symm
  have CE := Lib.hid cE
  clear hw HE cE
  go_wp2_with (refine wpl_load rfl 28 (.tmp 4) rfl h 0 rfl CE.out rowClaim (by rw [bx_size]; omega) (D := bx (.bool true) fN (.slice none 0 0)) (bx_all _ _ _) ?_)
  refine (from_dead _).mono ?_
  rintro e w4 ⟨rfl, b4⟩
  have t4 := bThen tE b4
  clear CE tE b4
  go_wp2_with fail
  refine (start_ok _ 4 100 (by omega) (by omega) (by omega)).mono ?_
  rintro e w5 ⟨b, rfl, sh, b5⟩
  have t5 := bThen (bAl t4 _) b5
  have SH := Lib.hid sh
  clear t4 b5 sh
  go_wp2_with fail
  refine (awake_any _).mono ?_
  rintro e w6 ⟨rfl, b6⟩
  have t6 := bThen t5 b6
  have S6 := Lib.hid (SH.out.below b6)
  clear t5 b6 SH
  go_wp2_with fail
  refine (span_both _ b fS false _ S6.out 1 (-4) 100 hs1.out hs2.out (by omega) (by omega)).mono ?_
  rintro e w7 ⟨rfl, b7⟩
  have t7 := bThen t6 b7
  have S7 := Lib.hid (S6.out.below b7)
  clear t6 b7 S6
  go_wp2_with fail
  refine (span_both _ b fS false _ S7.out 3 0 0 hs3.out hs4.out (by omega) (by omega)).mono ?_
  rintro e w8 ⟨rfl, b8⟩
  have t8 := bThen t7 b8
  have S8 := Lib.hid (S7.out.below b8)
  clear t7 b8 S7
  obtain ⟨p, hb, hz8⟩ := S8.out
  have e0 : w8.cell? ⟨b, 0, none⟩ = some (.pointer (some ⟨p, 0, none⟩)) := (hb.cell 0).trans (bx_zero _ _ _)
  have Z8 := Lib.hid hz8
  clear hb hz8
  go_wp2_with fail
  clear e0
  refine (bound_any _ p _ Z8.out 4 1).mono ?_
  rintro e w9 ⟨rfl, b9⟩
  rw [hs5.out]
  have t9 := bThen t8 b9
  have S9 := Lib.hid (S8.out.below b9)
  clear t8 b9 S8 Z8
  go_wp2_with fail
  refine (stag_any _ b fS false _ S9.out 3).mono ?_
  rintro e wa ⟨rfl, ba⟩
  rw [ht.out]
  have ta := bThen t9 ba
  have SA := Lib.hid (S9.out.below ba)
  clear t9 ba S9
  go_wp2_with fail
  refine (ltag_any _ 3 0 0).mono ?_
  rintro e wb ⟨rfl, bb⟩
  have tb := bThen ta bb
  have SB := Lib.hid (SA.out.below bb)
  clear ta bb SA
  go_wp2_with fail
  refine (dead_new _).mono ?_
  rintro e wc ⟨bd, rfl, sd, bc⟩
  have tc := bThen tb bc
  have SC := Lib.hid (SB.out.below bc)
  have SD := Lib.hid sd
  clear tb bc SB sd
  go_wp2_with fail
  refine (isdead_any _ bd f0 true _ SD.out).mono ?_
  rintro e wd ⟨rfl, rfl⟩
  go_wp2_with fail
  refine (isdead_any _ b fS false _ SC.out).mono ?_
  rintro e wd ⟨rfl, rfl⟩
  go_wp2
  go_ret
  exact ⟨rfl, tc⟩

set_option maxRecDepth 100000 in
theorem names_lifted (os : Os) (started : os.Started) (H : Type) (enc : TypeId × Value → H) :
    ReturnsInHanded {} Try.checked os 3 .any (Rows.shapeNamesSpec.pre6 enc Try.prog Try.f3 Rows.shapeNamesRow.domain false) (Rows.shapeNamesSpec.post enc Try.prog Try.f3 false true false false) := by
  refine returnsInHanded_of_change (C := Try.checked) own started (by kernel_rfl) Try.func3
    (ChangeSpec.witness6 (enc := enc) (C := Try.checked) false ⟨#[], #[], []⟩ 8 (by kernel_rfl) (by kernel_rfl) (by kernel_rfl) (by kernel_rfl)) ?_
  intro W base args ds gs before hval0 hW hcnd _
  have hval : ∀ (j : Nat) t v, Try.f3.params[j]? = some t → args[j]? = some v → Value.okWide Try.prog W .any base t v := hval0
  have hW' := hW
  obtain ⟨p, q, hA0, hV, rfl, hfz, hnd⟩ := hW
  have hA : DataW.TrodAll enc Try.prog W 0 (fun _ => true) true Try.f3.params.toList args.toList ds p := hA0
  rw [Try.params3] at hA hval
  obtain ⟨rfl, rfl, rfl⟩ := trodAll_none hA
  obtain ⟨rfl, rfl⟩ := trodVars_none hV
  clear hA0 hval0 hval hfz hnd hcnd
  refine (names_any W).mono fun e W' ⟨he, bel⟩ => ?_
  subst he
  exact ⟨_, rfl, _, _, _, [], [], [], hW', trodAll_mk1 (shut_bool Try.underlying4 _), trodAll_mk0, rfl, bel.frame _, fun h => by cases h⟩

theorem ShapeNames_holds : Rows.ShapeNamesSaid :=
  OpenClaim.holds_of_wide 3 Try.f3 rfl rfl rfl rfl rfl rfl rfl ⟨rfl, rfl, rfl, rfl, rfl⟩ rfl rfl rfl rfl rfl (by kernel_rfl) Try.func3 (by kernel_rfl)
    (of_decide_eq_true (by kernel_rfl)) (by unfold Func.isWrapper; rw [if_neg (of_decide_eq_false (by kernel_rfl))]; exact ⟨rfl, rfl⟩)
    (fun os started H enc _ => names_lifted os started H enc)
#print axioms ShapeNames_holds

end Go.Proofs.Ytlcmfpfmjkpfoaa
