/- The document's cursor: a tag. -/
import Derived.Test.YtfdjdpbiccclfaaDCv
import Derived.Test.YtfdjdpbiccclfaaDRt
namespace Go.Proofs.Ytfdjdpbiccclfaa
open Go Go.RowKit Go.Wr
set_option maxHeartbeats 4000000
set_option maxRecDepth 100000

theorem pTag_far {slot : Bool} {b : List Nat} {a k m : Nat} (h : pByte b a = .ok (k, m)) (hk : 6 < k) : pTag slot b a = .error (a, 90) :=
  pBind_err.2 (Or.inl (pChk_err.2 (Or.inr ⟨rfl, k, m, h, by simp; omega⟩)))
theorem pTag_near {slot : Bool} {b : List Nat} {a k m : Nat} (h : pByte b a = .ok (k, m)) (hk : k ≤ 6) :
    pTag slot b a = (if k = 5 ∨ k = 6 then pBind (pBnd 7 90) fun t => pPure ⟨k, t, 0⟩ else if slot = true ∧ k = 0 then pBind (pChk (fun m => decide (m ≠ 0)) 90 pByte) fun m => pPure ⟨k, 0, m⟩ else pPure ⟨k, 0, 0⟩) b m := by
  have hb : pBnd 6 90 b a = .ok (k, m) := pChk_ok.2 ⟨h, by simpa using hk⟩
  unfold pTag
  conv => lhs; unfold pBind
  rw [hb]
  rfl
theorem ctag_dead (w : World) (B p y : Nat) (er : Int) (b : List Nat) (vb : Value) (h : CuD B p b y er w vb) (slot : Bool) :
    Calls Try.prog 61 #[.pointer (some ⟨p, 0, none⟩), .bool slot] w (RC B p b vb (.error (y, er) : Except (Nat × Int) (Tg × Nat)) isTag w) := by
  have H := Lib.hid (h.alloc (.cells #[.int .i64 0, .int .i64 0, .int .i64 0] 56))
  have hpl := h.lt
  have hBp := h.hp
  obtain ⟨a, c1⟩ := H.out.cell1
  obtain ⟨R, hR⟩ : ∃ R, R = (Except.error (y, er) : Except (Nat × Int) (Tg × Nat)) := ⟨_, rfl⟩
  rw [← hR]
  have e1 := Lib.hid hR
  clear h hR
  go_enter Try.func61, Try.ntmps61
  go_wp2_with fail
  refine (cbyte_dead0 _ B p y er b vb H.out).mono ?_
  rintro e w1 ⟨rfl, hd1, hx1⟩
  have xA : Ex p w (w.alloc (.cells #[.int .i64 0, .int .i64 0, .int .i64 0] 56)) := (Ex.refl p w).alloc _
  have ZB : Blk (w.alloc (.cells #[.int .i64 0, .int .i64 0, .int .i64 0] 56)) w.heap.size 56 #[.int .i64 0, .int .i64 0, .int .i64 0] := Blk.new _ _ _
  have Z1 := hx1.blk ZB (by omega)
  have X1 := xA.trans hx1
  clear xA ZB hx1 H
  have hs1 := X1.size
  go_upto_region 3 with (fail)
  generalize hV : w1.alloc _ = V
  have HX := Lib.hid (show Ex p w V by rw [← hV]; exact X1.alloc _)
  have HZ := Lib.hid (show Blk V w.heap.size 56 #[.int .i64 0, .int .i64 0, .int .i64 0] by rw [← hV]; exact Z1.alloc _)
  have HN := Lib.hid (show Blk V w1.heap.size 56 #[.int .i64 0, .int .i64 0, .int .i64 0] by rw [← hV]; exact Blk.new _ _ _)
  have HD := Lib.hid (show CuD B p b y er V vb by rw [← hV]; exact hd1.alloc _)
  have n0 := HN.out.cell 0
  simp only [List.getElem?_toArray, List.getElem?_cons_zero] at n0
  have hl1 := Z1.lt
  clear X1 Z1 hd1 hV
  have hne := HD.out.ne
  have hne' := HD.out.ne'
  have c3 := HD.out.cell3
  obtain ⟨a2, c1⟩ := HD.out.cell1
  cases slot with
  | false =>
    go_upto_region 14 with (fail)
    have HC := HD
    have n0 := HN.out.cell 0
    have n1 := HN.out.cell 1
    have n2 := HN.out.cell 2
    have y0 := HZ.out.cell 0
    have y1 := HZ.out.cell 1
    have y2 := HZ.out.cell 2
    have z0 := HZ.out.frozen 0
    have z1 := HZ.out.frozen 1
    have z2 := HZ.out.frozen 2
    simp only [List.getElem?_toArray, List.getElem?_cons_zero, List.getElem?_cons_succ] at n0 n1 n2 y0 y1 y2
    have hzl := HZ.out.lt
    have hnl := HN.out.lt
    go_wp2
    refine ret_cell rfl rfl ((((HZ.out.set 0 _).set 1 _).set 2 _).eq rfl) rowTag rfl ?_
    refine RC.mk_err e1.out (x := ⟨_, _, _⟩) (by unfold isTag tgv; rfl) ?_ (((HX.out.set_new _ (Nat.le_refl _)).set_new _ (Nat.le_refl _)).set_new _ (Nat.le_refl _))
    exact ((HC.out.set_other _ (by omega) (by omega)).set_other _ (by omega) (by omega)).set_other _ (by omega) (by omega)
  | true =>
    go_wp2_with fail
    refine (cbyte_dead0 V B p y er b vb HD.out).mono ?_
    rintro e w2 ⟨rfl, hd2, hx2⟩
    have HX2 := Lib.hid (HX.out.trans hx2)
    have HZ2 := Lib.hid (hx2.blk HZ.out (by omega))
    have HN2 := Lib.hid (hx2.blk HN.out (by omega))
    have HD2 := Lib.hid hd2
    have n2 := HN2.out.cell 2
    have f2 := HN2.out.frozen 2
    simp only [List.getElem?_toArray, List.getElem?_cons_zero, List.getElem?_cons_succ] at n2
    clear HX HZ HN hx2 hd2
    go_upto_region 12 with (fail)
    generalize hV3 : w2.setCell _ _ = V3
    have HX := Lib.hid (show Ex p w V3 by rw [← hV3]; exact HX2.out.set_new _ (by omega))
    have HZ := Lib.hid (HZ2.out.set_other w1.heap.size 2 (.int .i64 0) (by omega))
    have HN := Lib.hid ((HN2.out.set 2 (.int .i64 0)).eq (C' := #[.int .i64 0, .int .i64 0, .int .i64 0]) rfl)
    rw [hV3] at HZ HN
    have hC := HD2.out.set_other (q := w1.heap.size) (i := 2) (.int .i64 0) (by omega) (by omega)
    have c3 := hC.cell3
    have HC := Lib.hid hC
    rw [hV3] at c3 HC
    go_upto_region 14 with (fail)
    have n0 := HN.out.cell 0
    have n1 := HN.out.cell 1
    have n2 := HN.out.cell 2
    have y0 := HZ.out.cell 0
    have y1 := HZ.out.cell 1
    have y2 := HZ.out.cell 2
    have z0 := HZ.out.frozen 0
    have z1 := HZ.out.frozen 1
    have z2 := HZ.out.frozen 2
    simp only [List.getElem?_toArray, List.getElem?_cons_zero, List.getElem?_cons_succ] at n0 n1 n2 y0 y1 y2
    have hzl := HZ.out.lt
    have hnl := HN.out.lt
    go_wp2
    refine ret_cell rfl rfl ((((HZ.out.set 0 _).set 1 _).set 2 _).eq rfl) rowTag rfl ?_
    refine RC.mk_err e1.out (x := ⟨_, _, _⟩) (by unfold isTag tgv; rfl) ?_ (((HX.out.set_new _ (Nat.le_refl _)).set_new _ (Nat.le_refl _)).set_new _ (Nat.le_refl _))
    exact ((HC.out.set_other _ (by omega) (by omega)).set_other _ (by omega) (by omega)).set_other _ (by omega) (by omega)

theorem ctag_ok (w : World) (B p a : Nat) (b : List Nat) (vb : Value) (h : CuL B p b a w vb) (slot : Bool) :
    Calls Try.prog 61 #[.pointer (some ⟨p, 0, none⟩), .bool slot] w (RC B p b vb (pTag slot b a) isTag w) := by
  have H := Lib.hid (h.alloc (.cells #[.int .i64 0, .int .i64 0, .int .i64 0] 56))
  have hpl := h.lt
  have hBp := h.hp
  have c1 := H.out.cell1
  obtain ⟨R, hR⟩ : ∃ R, R = pTag slot b a := ⟨_, rfl⟩
  rw [← hR]
  have HR := Lib.hid hR
  clear h hR
  go_enter Try.func61, Try.ntmps61
  go_wp2_with fail
  refine (cbyte_ok0 _ B p a b vb H.out).mono ?_
  rintro e w1 hr
  have xA : Ex p w (w.alloc (.cells #[.int .i64 0, .int .i64 0, .int .i64 0] 56)) := (Ex.refl p w).alloc _
  have ZB : Blk (w.alloc (.cells #[.int .i64 0, .int .i64 0, .int .i64 0] 56)) w.heap.size 56 #[.int .i64 0, .int .i64 0, .int .i64 0] := Blk.new _ _ _
  cases hb : pByte b a with
  | error v =>
    obtain ⟨y, er⟩ := v
    obtain ⟨rfl, hd1, hx1⟩ := hr.err hb
    have e1 : Hid (R = .error (y, er)) := by show _ = _; rw [HR.out]; unfold pTag pBind pBnd pChk; rw [hb]
    have Z1 := hx1.blk ZB (by omega)
    have X1 := xA.trans hx1
    clear xA ZB hx1 H HR hr hb
    have hs1 := X1.size
    go_upto_region 3 with (fail)
    generalize hV : w1.alloc _ = V
    have HX := Lib.hid (show Ex p w V by rw [← hV]; exact X1.alloc _)
    have HZ := Lib.hid (show Blk V w.heap.size 56 #[.int .i64 0, .int .i64 0, .int .i64 0] by rw [← hV]; exact Z1.alloc _)
    have HN := Lib.hid (show Blk V w1.heap.size 56 #[.int .i64 0, .int .i64 0, .int .i64 0] by rw [← hV]; exact Blk.new _ _ _)
    have HD := Lib.hid (show CuD B p b y er V vb by rw [← hV]; exact hd1.alloc _)
    have n0 := HN.out.cell 0
    simp only [List.getElem?_toArray, List.getElem?_cons_zero] at n0
    have hl1 := Z1.lt
    clear X1 Z1 hd1 hV
    have hne := HD.out.ne
    have hne' := HD.out.ne'
    have c3 := HD.out.cell3
    obtain ⟨a2, c1⟩ := HD.out.cell1
    cases slot with
    | false =>
      go_upto_region 14 with (fail)
      have HC := HD
      have n0 := HN.out.cell 0
      have n1 := HN.out.cell 1
      have n2 := HN.out.cell 2
      have y0 := HZ.out.cell 0
      have y1 := HZ.out.cell 1
      have y2 := HZ.out.cell 2
      have z0 := HZ.out.frozen 0
      have z1 := HZ.out.frozen 1
      have z2 := HZ.out.frozen 2
      simp only [List.getElem?_toArray, List.getElem?_cons_zero, List.getElem?_cons_succ] at n0 n1 n2 y0 y1 y2
      have hzl := HZ.out.lt
      have hnl := HN.out.lt
      go_wp2
      refine ret_cell rfl rfl ((((HZ.out.set 0 _).set 1 _).set 2 _).eq rfl) rowTag rfl ?_
      refine RC.mk_err e1.out (x := ⟨_, _, _⟩) (by unfold isTag tgv; rfl) ?_ (((HX.out.set_new _ (Nat.le_refl _)).set_new _ (Nat.le_refl _)).set_new _ (Nat.le_refl _))
      exact ((HC.out.set_other _ (by omega) (by omega)).set_other _ (by omega) (by omega)).set_other _ (by omega) (by omega)
    | true =>
      go_wp2_with fail
      refine (cbyte_dead0 V B p y er b vb HD.out).mono ?_
      rintro e w2 ⟨rfl, hd2, hx2⟩
      have HX2 := Lib.hid (HX.out.trans hx2)
      have HZ2 := Lib.hid (hx2.blk HZ.out (by omega))
      have HN2 := Lib.hid (hx2.blk HN.out (by omega))
      have HD2 := Lib.hid hd2
      have n2 := HN2.out.cell 2
      have f2 := HN2.out.frozen 2
      simp only [List.getElem?_toArray, List.getElem?_cons_zero, List.getElem?_cons_succ] at n2
      clear HX HZ HN hx2 hd2
      go_upto_region 12 with (fail)
      generalize hV3 : w2.setCell _ _ = V3
      have HX := Lib.hid (show Ex p w V3 by rw [← hV3]; exact HX2.out.set_new _ (by omega))
      have HZ := Lib.hid (HZ2.out.set_other w1.heap.size 2 (.int .i64 0) (by omega))
      have HN := Lib.hid ((HN2.out.set 2 (.int .i64 0)).eq (C' := #[.int .i64 0, .int .i64 0, .int .i64 0]) rfl)
      rw [hV3] at HZ HN
      have hC := HD2.out.set_other (q := w1.heap.size) (i := 2) (.int .i64 0) (by omega) (by omega)
      have c3 := hC.cell3
      have HC := Lib.hid hC
      rw [hV3] at c3 HC
      go_upto_region 14 with (fail)
      have n0 := HN.out.cell 0
      have n1 := HN.out.cell 1
      have n2 := HN.out.cell 2
      have y0 := HZ.out.cell 0
      have y1 := HZ.out.cell 1
      have y2 := HZ.out.cell 2
      have z0 := HZ.out.frozen 0
      have z1 := HZ.out.frozen 1
      have z2 := HZ.out.frozen 2
      simp only [List.getElem?_toArray, List.getElem?_cons_zero, List.getElem?_cons_succ] at n0 n1 n2 y0 y1 y2
      have hzl := HZ.out.lt
      have hnl := HN.out.lt
      go_wp2
      refine ret_cell rfl rfl ((((HZ.out.set 0 _).set 1 _).set 2 _).eq rfl) rowTag rfl ?_
      refine RC.mk_err e1.out (x := ⟨_, _, _⟩) (by unfold isTag tgv; rfl) ?_ (((HX.out.set_new _ (Nat.le_refl _)).set_new _ (Nat.le_refl _)).set_new _ (Nat.le_refl _))
      exact ((HC.out.set_other _ (by omega) (by omega)).set_other _ (by omega) (by omega)).set_other _ (by omega) (by omega)
  | ok v =>
    obtain ⟨k, m⟩ := v
    obtain ⟨rfl, hd1, hx1⟩ := hr.ok hb
    have Z1 := hx1.blk ZB (by omega)
    have X1 := xA.trans hx1
    have HB := Lib.hid hb
    clear xA ZB hx1 H hr hb
    have hs1 := X1.size
    go_upto_region 3 with (fail)
    generalize hV : w1.alloc _ = V
    have HX := Lib.hid (show Ex p w V by rw [← hV]; exact X1.alloc _)
    have HZ := Lib.hid (show Blk V w.heap.size 56 #[.int .i64 0, .int .i64 0, .int .i64 0] by rw [← hV]; exact Z1.alloc _)
    have HN := Lib.hid (show Blk V w1.heap.size 56 #[.int .i64 (k : Int), .int .i64 0, .int .i64 0] by rw [← hV]; exact Blk.new _ _ _)
    have HC := Lib.hid (show CuL B p b m V vb by rw [← hV]; exact hd1.alloc _)
    have n0 := HN.out.cell 0
    simp only [List.getElem?_toArray, List.getElem?_cons_zero] at n0
    have c3 := HC.out.cell3
    have c1 := HC.out.cell1
    have hl1 := Z1.lt
    clear X1 Z1 hd1 hV
    by_cases hk6 : 6 < k
    · have hk6' : (6 : Int) < (k : Int) := by omega
      have e1 : Hid (R = .error (a, 90)) := by show _ = _; rw [HR.out]; exact pTag_far HB.out hk6
      have hk5' : ((k : Int) == 5) = false := by rw [beq_eq_false_iff_ne]; omega
      have hk66' : ((k : Int) == 6) = false := by rw [beq_eq_false_iff_ne]; omega
      have hk0' : ((k : Int) == 0) = false := by rw [beq_eq_false_iff_ne]; omega
      clear HR HB
      go_wp2_with fail
      refine (cfault_ok _ B p _ b vb HC.out a 90 (by decide)).mono ?_
      rintro e w2 ⟨rfl, hd2, hx2⟩
      have hx3 := HX.out.trans hx2
      have hz3 := hx2.blk HZ.out (by omega)
      have hn3 := hx2.blk HN.out (by omega)
      have n0 := hn3.cell 0
      simp only [List.getElem?_toArray, List.getElem?_cons_zero] at n0
      clear HX HZ HN hx2
      have HX := Lib.hid hx3
      have HZ := Lib.hid hz3
      have HN := Lib.hid hn3
      have c3 := hd2.cell3
      have hne := hd2.ne
      have hne' := hd2.ne'
      clear hx3 hz3 hn3
      have HC := Lib.hid hd2
      obtain ⟨a2, c1⟩ := HC.out.cell1
      clear hd2
      cases slot with
      | false =>
        go_upto_region 14 with (fail)
        have n0 := HN.out.cell 0
        have n1 := HN.out.cell 1
        have n2 := HN.out.cell 2
        have y0 := HZ.out.cell 0
        have y1 := HZ.out.cell 1
        have y2 := HZ.out.cell 2
        have z0 := HZ.out.frozen 0
        have z1 := HZ.out.frozen 1
        have z2 := HZ.out.frozen 2
        simp only [List.getElem?_toArray, List.getElem?_cons_zero, List.getElem?_cons_succ] at n0 n1 n2 y0 y1 y2
        have hzl := HZ.out.lt
        have hnl := HN.out.lt
        go_wp2
        refine ret_cell rfl rfl ((((HZ.out.set 0 _).set 1 _).set 2 _).eq rfl) rowTag rfl ?_
        refine RC.mk_err e1.out (x := ⟨_, _, _⟩) (by unfold isTag tgv; rfl) ?_ (((HX.out.set_new _ (Nat.le_refl _)).set_new _ (Nat.le_refl _)).set_new _ (Nat.le_refl _))
        exact ((HC.out.set_other _ (by omega) (by omega)).set_other _ (by omega) (by omega)).set_other _ (by omega) (by omega)
      | true =>
        go_upto_region 14 with (fail)
        have n0 := HN.out.cell 0
        have n1 := HN.out.cell 1
        have n2 := HN.out.cell 2
        have y0 := HZ.out.cell 0
        have y1 := HZ.out.cell 1
        have y2 := HZ.out.cell 2
        have z0 := HZ.out.frozen 0
        have z1 := HZ.out.frozen 1
        have z2 := HZ.out.frozen 2
        simp only [List.getElem?_toArray, List.getElem?_cons_zero, List.getElem?_cons_succ] at n0 n1 n2 y0 y1 y2
        have hzl := HZ.out.lt
        have hnl := HN.out.lt
        go_wp2
        refine ret_cell rfl rfl ((((HZ.out.set 0 _).set 1 _).set 2 _).eq rfl) rowTag rfl ?_
        refine RC.mk_err e1.out (x := ⟨_, _, _⟩) (by unfold isTag tgv; rfl) ?_ (((HX.out.set_new _ (Nat.le_refl _)).set_new _ (Nat.le_refl _)).set_new _ (Nat.le_refl _))
        exact ((HC.out.set_other _ (by omega) (by omega)).set_other _ (by omega) (by omega)).set_other _ (by omega) (by omega)
    · have hk6' : ¬ (6 : Int) < (k : Int) := by omega
      have HR2 : Hid (R = (if k = 5 ∨ k = 6 then pBind (pBnd 7 90) fun t => pPure ⟨k, t, 0⟩ else if slot = true ∧ k = 0 then pBind (pChk (fun m => decide (m ≠ 0)) 90 pByte) fun m => pPure ⟨k, 0, m⟩ else pPure ⟨k, 0, 0⟩) b m) := by
        show _ = _
        rw [HR.out]
        exact pTag_near HB.out (by omega)
      clear HR HB
      by_cases hr : k = 5 ∨ k = 6
      · have HR3 : Hid (R = pBind (pBnd 7 90) (fun t => pPure ⟨k, t, 0⟩) b m) := by
          show _ = _
          rw [HR2.out, if_pos hr]
        have ek : ((k : Int) == 5) = true ∨ (((k : Int) == 5) = false ∧ ((k : Int) == 6) = true) := by
          rcases hr with rfl | rfl <;> simp
        clear HR2 hr
        rcases ek with ek | ⟨ek, ek2⟩
        · have c1 := HC.out.cell1
          go_wp2_with fail
          refine (cbyte_ok0 _ B p m b vb HC.out).mono ?_
          rintro e w2 hr
          cases hb : pByte b m with
          | error v =>
            obtain ⟨y, er⟩ := v
            obtain ⟨rfl, hd2, hx2⟩ := hr.err hb
            have e1 : Hid (R = .error (y, er)) := by show _ = _; rw [HR3.out]; unfold pBind pBnd pChk; rw [hb]
            clear hr hb HR3 HC
            have HX2 := Lib.hid (HX.out.trans hx2)
            have HZ2 := Lib.hid (hx2.blk HZ.out (by omega))
            have HN2 := Lib.hid (hx2.blk HN.out (by omega))
            have HD2 := Lib.hid hd2
            have n1 := HN2.out.cell 1
            have f1 := HN2.out.frozen 1
            simp only [List.getElem?_toArray, List.getElem?_cons_zero, List.getElem?_cons_succ] at n1
            clear HX HZ HN hx2 hd2
            go_upto_region 8 with (fail)
            generalize hV3 : w2.setCell _ _ = V3
            have HX := Lib.hid (show Ex p w V3 by rw [← hV3]; exact HX2.out.set_new _ (by omega))
            have HZ := Lib.hid (HZ2.out.set_other w1.heap.size 1 (.int .i64 0) (by omega))
            have HN := Lib.hid ((HN2.out.set 1 (.int .i64 0)).eq (C' := #[.int .i64 (k : Int), .int .i64 0, .int .i64 0]) rfl)
            have hC := HD2.out.set_other (q := w1.heap.size) (i := 1) (.int .i64 0) (by omega) (by omega)
            rw [hV3] at HZ HN hC
            have c3 := hC.cell3
            have hne := hC.ne
            have hne' := hC.ne'
            have HC := Lib.hid hC
            clear hC hV3
            go_upto_region 14 with (fail)
            have n0 := HN.out.cell 0
            have n1 := HN.out.cell 1
            have n2 := HN.out.cell 2
            have y0 := HZ.out.cell 0
            have y1 := HZ.out.cell 1
            have y2 := HZ.out.cell 2
            have z0 := HZ.out.frozen 0
            have z1 := HZ.out.frozen 1
            have z2 := HZ.out.frozen 2
            simp only [List.getElem?_toArray, List.getElem?_cons_zero, List.getElem?_cons_succ] at n0 n1 n2 y0 y1 y2
            have hzl := HZ.out.lt
            have hnl := HN.out.lt
            go_wp2
            refine ret_cell rfl rfl ((((HZ.out.set 0 _).set 1 _).set 2 _).eq rfl) rowTag rfl ?_
            refine RC.mk_err e1.out (x := ⟨_, _, _⟩) (by unfold isTag tgv; rfl) ?_ (((HX.out.set_new _ (Nat.le_refl _)).set_new _ (Nat.le_refl _)).set_new _ (Nat.le_refl _))
            exact ((HC.out.set_other _ (by omega) (by omega)).set_other _ (by omega) (by omega)).set_other _ (by omega) (by omega)
          | ok v =>
            obtain ⟨t, m2⟩ := v
            obtain ⟨rfl, hd2, hx2⟩ := hr.ok hb
            have HB := Lib.hid hb
            clear hr hb HC
            have HX2 := Lib.hid (HX.out.trans hx2)
            have HZ2 := Lib.hid (hx2.blk HZ.out (by omega))
            have HN2 := Lib.hid (hx2.blk HN.out (by omega))
            have HD2 := Lib.hid hd2
            have n1 := HN2.out.cell 1
            have f1 := HN2.out.frozen 1
            simp only [List.getElem?_toArray, List.getElem?_cons_zero, List.getElem?_cons_succ] at n1
            clear HX HZ HN hx2 hd2
            go_upto_region 8 with (fail)
            generalize hV3 : w2.setCell _ _ = V3
            have HX := Lib.hid (show Ex p w V3 by rw [← hV3]; exact HX2.out.set_new _ (by omega))
            have HZ := Lib.hid (HZ2.out.set_other w1.heap.size 1 (.int .i64 (t : Int)) (by omega))
            have HN := Lib.hid ((HN2.out.set 1 (.int .i64 (t : Int))).eq (C' := #[.int .i64 (k : Int), .int .i64 (t : Int), .int .i64 0]) rfl)
            have hC := HD2.out.set_other (q := w1.heap.size) (i := 1) (.int .i64 (t : Int)) (by omega) (by omega)
            rw [hV3] at HZ HN hC
            have c3 := hC.cell3
            have HC := Lib.hid hC
            have n1 := HN.out.cell 1
            simp only [List.getElem?_toArray, List.getElem?_cons_zero, List.getElem?_cons_succ] at n1
            clear hC hV3
            by_cases ht : 7 < t
            · have ht' : (7 : Int) < (t : Int) := by omega
              have e1 : Hid (R = .error (m, 90)) := by show _ = _; rw [HR3.out]; unfold pBind pBnd pChk; rw [HB.out]; simp [show ¬ t ≤ 7 by omega]
              clear HR3 HB
              go_wp2_with fail
              refine (cfault_ok _ B p _ b vb HC.out m 90 (by decide)).mono ?_
              rintro e w4 ⟨rfl, hd2, hx2⟩
              have hx3 := HX.out.trans hx2
              have hz3 := hx2.blk HZ.out (by omega)
              have hn3 := hx2.blk HN.out (by omega)
              have n0 := hn3.cell 0
              simp only [List.getElem?_toArray, List.getElem?_cons_zero] at n0
              clear HX HZ HN hx2
              have HX := Lib.hid hx3
              have HZ := Lib.hid hz3
              have HN := Lib.hid hn3
              have c3 := hd2.cell3
              have hne := hd2.ne
              have hne' := hd2.ne'
              clear hx3 hz3 hn3
              have HC := Lib.hid hd2
              clear hd2
              go_upto_region 14 with (fail)
              have n0 := HN.out.cell 0
              have n1 := HN.out.cell 1
              have n2 := HN.out.cell 2
              have y0 := HZ.out.cell 0
              have y1 := HZ.out.cell 1
              have y2 := HZ.out.cell 2
              have z0 := HZ.out.frozen 0
              have z1 := HZ.out.frozen 1
              have z2 := HZ.out.frozen 2
              simp only [List.getElem?_toArray, List.getElem?_cons_zero, List.getElem?_cons_succ] at n0 n1 n2 y0 y1 y2
              have hzl := HZ.out.lt
              have hnl := HN.out.lt
              go_wp2
              refine ret_cell rfl rfl ((((HZ.out.set 0 _).set 1 _).set 2 _).eq rfl) rowTag rfl ?_
              refine RC.mk_err e1.out (x := ⟨_, _, _⟩) (by unfold isTag tgv; rfl) ?_ (((HX.out.set_new _ (Nat.le_refl _)).set_new _ (Nat.le_refl _)).set_new _ (Nat.le_refl _))
              exact ((HC.out.set_other _ (by omega) (by omega)).set_other _ (by omega) (by omega)).set_other _ (by omega) (by omega)
            · have ht' : ¬ (7 : Int) < (t : Int) := by omega
              have e1 : Hid (R = .ok (⟨k, t, 0⟩, m2)) := by show _ = _; rw [HR3.out]; unfold pBind pBnd pChk; rw [HB.out]; simp [show t ≤ 7 by omega]; rfl
              clear HR3 HB
              go_upto_region 14 with (fail)
              have n0 := HN.out.cell 0
              have n1 := HN.out.cell 1
              have n2 := HN.out.cell 2
              have y0 := HZ.out.cell 0
              have y1 := HZ.out.cell 1
              have y2 := HZ.out.cell 2
              have z0 := HZ.out.frozen 0
              have z1 := HZ.out.frozen 1
              have z2 := HZ.out.frozen 2
              simp only [List.getElem?_toArray, List.getElem?_cons_zero, List.getElem?_cons_succ] at n0 n1 n2 y0 y1 y2
              have hzl := HZ.out.lt
              have hnl := HN.out.lt
              go_wp2
              refine ret_cell rfl rfl ((((HZ.out.set 0 _).set 1 _).set 2 _).eq rfl) rowTag rfl ?_
              refine RC.mk_ok e1.out rfl ?_ (((HX.out.set_new _ (Nat.le_refl _)).set_new _ (Nat.le_refl _)).set_new _ (Nat.le_refl _))
              exact ((HC.out.set_other _ (by omega) (by omega)).set_other _ (by omega) (by omega)).set_other _ (by omega) (by omega)
        · have c1 := HC.out.cell1
          go_wp2_with fail
          refine (cbyte_ok0 _ B p m b vb HC.out).mono ?_
          rintro e w2 hr
          cases hb : pByte b m with
          | error v =>
            obtain ⟨y, er⟩ := v
            obtain ⟨rfl, hd2, hx2⟩ := hr.err hb
            have e1 : Hid (R = .error (y, er)) := by show _ = _; rw [HR3.out]; unfold pBind pBnd pChk; rw [hb]
            clear hr hb HR3 HC
            have HX2 := Lib.hid (HX.out.trans hx2)
            have HZ2 := Lib.hid (hx2.blk HZ.out (by omega))
            have HN2 := Lib.hid (hx2.blk HN.out (by omega))
            have HD2 := Lib.hid hd2
            have n1 := HN2.out.cell 1
            have f1 := HN2.out.frozen 1
            simp only [List.getElem?_toArray, List.getElem?_cons_zero, List.getElem?_cons_succ] at n1
            clear HX HZ HN hx2 hd2
            go_upto_region 8 with (fail)
            generalize hV3 : w2.setCell _ _ = V3
            have HX := Lib.hid (show Ex p w V3 by rw [← hV3]; exact HX2.out.set_new _ (by omega))
            have HZ := Lib.hid (HZ2.out.set_other w1.heap.size 1 (.int .i64 0) (by omega))
            have HN := Lib.hid ((HN2.out.set 1 (.int .i64 0)).eq (C' := #[.int .i64 (k : Int), .int .i64 0, .int .i64 0]) rfl)
            have hC := HD2.out.set_other (q := w1.heap.size) (i := 1) (.int .i64 0) (by omega) (by omega)
            rw [hV3] at HZ HN hC
            have c3 := hC.cell3
            have hne := hC.ne
            have hne' := hC.ne'
            have HC := Lib.hid hC
            clear hC hV3
            go_upto_region 14 with (fail)
            have n0 := HN.out.cell 0
            have n1 := HN.out.cell 1
            have n2 := HN.out.cell 2
            have y0 := HZ.out.cell 0
            have y1 := HZ.out.cell 1
            have y2 := HZ.out.cell 2
            have z0 := HZ.out.frozen 0
            have z1 := HZ.out.frozen 1
            have z2 := HZ.out.frozen 2
            simp only [List.getElem?_toArray, List.getElem?_cons_zero, List.getElem?_cons_succ] at n0 n1 n2 y0 y1 y2
            have hzl := HZ.out.lt
            have hnl := HN.out.lt
            go_wp2
            refine ret_cell rfl rfl ((((HZ.out.set 0 _).set 1 _).set 2 _).eq rfl) rowTag rfl ?_
            refine RC.mk_err e1.out (x := ⟨_, _, _⟩) (by unfold isTag tgv; rfl) ?_ (((HX.out.set_new _ (Nat.le_refl _)).set_new _ (Nat.le_refl _)).set_new _ (Nat.le_refl _))
            exact ((HC.out.set_other _ (by omega) (by omega)).set_other _ (by omega) (by omega)).set_other _ (by omega) (by omega)
          | ok v =>
            obtain ⟨t, m2⟩ := v
            obtain ⟨rfl, hd2, hx2⟩ := hr.ok hb
            have HB := Lib.hid hb
            clear hr hb HC
            have HX2 := Lib.hid (HX.out.trans hx2)
            have HZ2 := Lib.hid (hx2.blk HZ.out (by omega))
            have HN2 := Lib.hid (hx2.blk HN.out (by omega))
            have HD2 := Lib.hid hd2
            have n1 := HN2.out.cell 1
            have f1 := HN2.out.frozen 1
            simp only [List.getElem?_toArray, List.getElem?_cons_zero, List.getElem?_cons_succ] at n1
            clear HX HZ HN hx2 hd2
            go_upto_region 8 with (fail)
            generalize hV3 : w2.setCell _ _ = V3
            have HX := Lib.hid (show Ex p w V3 by rw [← hV3]; exact HX2.out.set_new _ (by omega))
            have HZ := Lib.hid (HZ2.out.set_other w1.heap.size 1 (.int .i64 (t : Int)) (by omega))
            have HN := Lib.hid ((HN2.out.set 1 (.int .i64 (t : Int))).eq (C' := #[.int .i64 (k : Int), .int .i64 (t : Int), .int .i64 0]) rfl)
            have hC := HD2.out.set_other (q := w1.heap.size) (i := 1) (.int .i64 (t : Int)) (by omega) (by omega)
            rw [hV3] at HZ HN hC
            have c3 := hC.cell3
            have HC := Lib.hid hC
            have n1 := HN.out.cell 1
            simp only [List.getElem?_toArray, List.getElem?_cons_zero, List.getElem?_cons_succ] at n1
            clear hC hV3
            by_cases ht : 7 < t
            · have ht' : (7 : Int) < (t : Int) := by omega
              have e1 : Hid (R = .error (m, 90)) := by show _ = _; rw [HR3.out]; unfold pBind pBnd pChk; rw [HB.out]; simp [show ¬ t ≤ 7 by omega]
              clear HR3 HB
              go_wp2_with fail
              refine (cfault_ok _ B p _ b vb HC.out m 90 (by decide)).mono ?_
              rintro e w4 ⟨rfl, hd2, hx2⟩
              have hx3 := HX.out.trans hx2
              have hz3 := hx2.blk HZ.out (by omega)
              have hn3 := hx2.blk HN.out (by omega)
              have n0 := hn3.cell 0
              simp only [List.getElem?_toArray, List.getElem?_cons_zero] at n0
              clear HX HZ HN hx2
              have HX := Lib.hid hx3
              have HZ := Lib.hid hz3
              have HN := Lib.hid hn3
              have c3 := hd2.cell3
              have hne := hd2.ne
              have hne' := hd2.ne'
              clear hx3 hz3 hn3
              have HC := Lib.hid hd2
              clear hd2
              go_upto_region 14 with (fail)
              have n0 := HN.out.cell 0
              have n1 := HN.out.cell 1
              have n2 := HN.out.cell 2
              have y0 := HZ.out.cell 0
              have y1 := HZ.out.cell 1
              have y2 := HZ.out.cell 2
              have z0 := HZ.out.frozen 0
              have z1 := HZ.out.frozen 1
              have z2 := HZ.out.frozen 2
              simp only [List.getElem?_toArray, List.getElem?_cons_zero, List.getElem?_cons_succ] at n0 n1 n2 y0 y1 y2
              have hzl := HZ.out.lt
              have hnl := HN.out.lt
              go_wp2
              refine ret_cell rfl rfl ((((HZ.out.set 0 _).set 1 _).set 2 _).eq rfl) rowTag rfl ?_
              refine RC.mk_err e1.out (x := ⟨_, _, _⟩) (by unfold isTag tgv; rfl) ?_ (((HX.out.set_new _ (Nat.le_refl _)).set_new _ (Nat.le_refl _)).set_new _ (Nat.le_refl _))
              exact ((HC.out.set_other _ (by omega) (by omega)).set_other _ (by omega) (by omega)).set_other _ (by omega) (by omega)
            · have ht' : ¬ (7 : Int) < (t : Int) := by omega
              have e1 : Hid (R = .ok (⟨k, t, 0⟩, m2)) := by show _ = _; rw [HR3.out]; unfold pBind pBnd pChk; rw [HB.out]; simp [show t ≤ 7 by omega]; rfl
              clear HR3 HB
              go_upto_region 14 with (fail)
              have n0 := HN.out.cell 0
              have n1 := HN.out.cell 1
              have n2 := HN.out.cell 2
              have y0 := HZ.out.cell 0
              have y1 := HZ.out.cell 1
              have y2 := HZ.out.cell 2
              have z0 := HZ.out.frozen 0
              have z1 := HZ.out.frozen 1
              have z2 := HZ.out.frozen 2
              simp only [List.getElem?_toArray, List.getElem?_cons_zero, List.getElem?_cons_succ] at n0 n1 n2 y0 y1 y2
              have hzl := HZ.out.lt
              have hnl := HN.out.lt
              go_wp2
              refine ret_cell rfl rfl ((((HZ.out.set 0 _).set 1 _).set 2 _).eq rfl) rowTag rfl ?_
              refine RC.mk_ok e1.out rfl ?_ (((HX.out.set_new _ (Nat.le_refl _)).set_new _ (Nat.le_refl _)).set_new _ (Nat.le_refl _))
              exact ((HC.out.set_other _ (by omega) (by omega)).set_other _ (by omega) (by omega)).set_other _ (by omega) (by omega)
      · have hk5' : ((k : Int) == 5) = false := by rw [beq_eq_false_iff_ne]; omega
        have hk66' : ((k : Int) == 6) = false := by rw [beq_eq_false_iff_ne]; omega
        by_cases hs : slot = true ∧ k = 0
        · obtain ⟨rfl, rfl⟩ := hs
          have HR3 : Hid (R = pBind (pChk (fun m => decide (m ≠ 0)) 90 pByte) (fun m => pPure ⟨((0 : Nat) : Int), 0, m⟩) b m) := by
            show _ = _
            rw [HR2.out, if_neg hr, if_pos ⟨rfl, rfl⟩]
          rw [show ((0 : Nat) : Int) = 0 from rfl] at HR3 HN n0 hk5' hk66'
          clear HR2 hr hk6 hk6' hk5' hk66'
          have c1 := HC.out.cell1
          go_wp2_with fail
          refine (cbyte_ok0 _ B p m b vb HC.out).mono ?_
          rintro e w2 hr
          cases hb : pByte b m with
          | error v =>
            obtain ⟨y, er⟩ := v
            obtain ⟨rfl, hd2, hx2⟩ := hr.err hb
            have e1 : Hid (R = .error (y, er)) := by show _ = _; rw [HR3.out]; unfold pBind pChk; rw [hb]
            clear hr hb HR3 HC
            have HX2 := Lib.hid (HX.out.trans hx2)
            have HZ2 := Lib.hid (hx2.blk HZ.out (by omega))
            have HN2 := Lib.hid (hx2.blk HN.out (by omega))
            have HD2 := Lib.hid hd2
            have n2 := HN2.out.cell 2
            have f2 := HN2.out.frozen 2
            simp only [List.getElem?_toArray, List.getElem?_cons_zero, List.getElem?_cons_succ] at n2
            clear HX HZ HN hx2 hd2
            go_upto_region 12 with (fail)
            generalize hV3 : w2.setCell _ _ = V3
            have HX := Lib.hid (show Ex p w V3 by rw [← hV3]; exact HX2.out.set_new _ (by omega))
            have HZ := Lib.hid (HZ2.out.set_other w1.heap.size 2 (.int .i64 0) (by omega))
            have HN := Lib.hid ((HN2.out.set 2 (.int .i64 0)).eq (C' := #[.int .i64 0, .int .i64 0, .int .i64 0]) rfl)
            rw [hV3] at HZ HN
            have hC := HD2.out.set_other (q := w1.heap.size) (i := 2) (.int .i64 0) (by omega) (by omega)
            have c3 := hC.cell3
            have hne := hC.ne
            have hne' := hC.ne'
            have HC := Lib.hid hC
            rw [hV3] at c3 HC
            clear hV3 hC
            go_upto_region 14 with (fail)
            have n0 := HN.out.cell 0
            have n1 := HN.out.cell 1
            have n2 := HN.out.cell 2
            have y0 := HZ.out.cell 0
            have y1 := HZ.out.cell 1
            have y2 := HZ.out.cell 2
            have z0 := HZ.out.frozen 0
            have z1 := HZ.out.frozen 1
            have z2 := HZ.out.frozen 2
            simp only [List.getElem?_toArray, List.getElem?_cons_zero, List.getElem?_cons_succ] at n0 n1 n2 y0 y1 y2
            have hzl := HZ.out.lt
            have hnl := HN.out.lt
            go_wp2
            refine ret_cell rfl rfl ((((HZ.out.set 0 _).set 1 _).set 2 _).eq rfl) rowTag rfl ?_
            refine RC.mk_err e1.out (x := ⟨_, _, _⟩) (by unfold isTag tgv; rfl) ?_ (((HX.out.set_new _ (Nat.le_refl _)).set_new _ (Nat.le_refl _)).set_new _ (Nat.le_refl _))
            exact ((HC.out.set_other _ (by omega) (by omega)).set_other _ (by omega) (by omega)).set_other _ (by omega) (by omega)
          | ok v =>
            obtain ⟨t, m2⟩ := v
            obtain ⟨rfl, hd2, hx2⟩ := hr.ok hb
            have HB := Lib.hid hb
            clear hr hb HC
            have HX2 := Lib.hid (HX.out.trans hx2)
            have HZ2 := Lib.hid (hx2.blk HZ.out (by omega))
            have HN2 := Lib.hid (hx2.blk HN.out (by omega))
            have HD2 := Lib.hid hd2
            have n2 := HN2.out.cell 2
            have f2 := HN2.out.frozen 2
            simp only [List.getElem?_toArray, List.getElem?_cons_zero, List.getElem?_cons_succ] at n2
            clear HX HZ HN hx2 hd2
            go_upto_region 12 with (fail)
            generalize hV3 : w2.setCell _ _ = V3
            have HX := Lib.hid (show Ex p w V3 by rw [← hV3]; exact HX2.out.set_new _ (by omega))
            have HZ := Lib.hid (HZ2.out.set_other w1.heap.size 2 (.int .i64 (t : Int)) (by omega))
            have HN := Lib.hid ((HN2.out.set 2 (.int .i64 (t : Int))).eq (C' := #[.int .i64 0, .int .i64 0, .int .i64 (t : Int)]) rfl)
            rw [hV3] at HZ HN
            have hC := HD2.out.set_other (q := w1.heap.size) (i := 2) (.int .i64 (t : Int)) (by omega) (by omega)
            rw [hV3] at hC
            have c3 := hC.cell3
            have HC := Lib.hid hC
            have n2 := HN.out.cell 2
            simp only [List.getElem?_toArray, List.getElem?_cons_zero, List.getElem?_cons_succ] at n2
            clear hC hV3
            by_cases ht : t = 0
            · subst ht
              have e1 : Hid (R = .error (m, 90)) := by show _ = _; rw [HR3.out]; unfold pBind pChk; rw [HB.out]; simp
              rw [show ((0 : Nat) : Int) = 0 from rfl] at HN n2
              clear HR3 HB
              go_wp2_with fail
              refine (cfault_ok _ B p _ b vb HC.out m 90 (by decide)).mono ?_
              rintro e w4 ⟨rfl, hd2, hx2⟩
              have hx3 := HX.out.trans hx2
              have hz3 := hx2.blk HZ.out (by omega)
              have hn3 := hx2.blk HN.out (by omega)
              have n0 := hn3.cell 0
              simp only [List.getElem?_toArray, List.getElem?_cons_zero] at n0
              clear HX HZ HN hx2
              have HX := Lib.hid hx3
              have HZ := Lib.hid hz3
              have HN := Lib.hid hn3
              have c3 := hd2.cell3
              have hne := hd2.ne
              have hne' := hd2.ne'
              clear hx3 hz3 hn3
              have HC := Lib.hid hd2
              clear hd2
              go_upto_region 14 with (fail)
              have n0 := HN.out.cell 0
              have n1 := HN.out.cell 1
              have n2 := HN.out.cell 2
              have y0 := HZ.out.cell 0
              have y1 := HZ.out.cell 1
              have y2 := HZ.out.cell 2
              have z0 := HZ.out.frozen 0
              have z1 := HZ.out.frozen 1
              have z2 := HZ.out.frozen 2
              simp only [List.getElem?_toArray, List.getElem?_cons_zero, List.getElem?_cons_succ] at n0 n1 n2 y0 y1 y2
              have hzl := HZ.out.lt
              have hnl := HN.out.lt
              go_wp2
              refine ret_cell rfl rfl ((((HZ.out.set 0 _).set 1 _).set 2 _).eq rfl) rowTag rfl ?_
              refine RC.mk_err e1.out (x := ⟨_, _, _⟩) (by unfold isTag tgv; rfl) ?_ (((HX.out.set_new _ (Nat.le_refl _)).set_new _ (Nat.le_refl _)).set_new _ (Nat.le_refl _))
              exact ((HC.out.set_other _ (by omega) (by omega)).set_other _ (by omega) (by omega)).set_other _ (by omega) (by omega)
            · have ht' : ((t : Int) == 0) = false := by rw [beq_eq_false_iff_ne]; omega
              have e1 : Hid (R = .ok (⟨0, 0, t⟩, m2)) := by show _ = _; rw [HR3.out]; unfold pBind pChk; rw [HB.out]; simp [ht]; rfl
              clear HR3 HB
              go_upto_region 14 with (fail)
              have n0 := HN.out.cell 0
              have n1 := HN.out.cell 1
              have n2 := HN.out.cell 2
              have y0 := HZ.out.cell 0
              have y1 := HZ.out.cell 1
              have y2 := HZ.out.cell 2
              have z0 := HZ.out.frozen 0
              have z1 := HZ.out.frozen 1
              have z2 := HZ.out.frozen 2
              simp only [List.getElem?_toArray, List.getElem?_cons_zero, List.getElem?_cons_succ] at n0 n1 n2 y0 y1 y2
              have hzl := HZ.out.lt
              have hnl := HN.out.lt
              go_wp2
              refine ret_cell rfl rfl ((((HZ.out.set 0 _).set 1 _).set 2 _).eq rfl) rowTag rfl ?_
              refine RC.mk_ok e1.out rfl ?_ (((HX.out.set_new _ (Nat.le_refl _)).set_new _ (Nat.le_refl _)).set_new _ (Nat.le_refl _))
              exact ((HC.out.set_other _ (by omega) (by omega)).set_other _ (by omega) (by omega)).set_other _ (by omega) (by omega)
        · have e1 : Hid (R = .ok (⟨k, 0, 0⟩, m)) := by
            show _ = _
            rw [HR2.out, if_neg hr, if_neg hs]
            rfl
          clear HR2 hr
          cases slot with
          | false =>
            go_upto_region 14 with (fail)
            have n0 := HN.out.cell 0
            have n1 := HN.out.cell 1
            have n2 := HN.out.cell 2
            have y0 := HZ.out.cell 0
            have y1 := HZ.out.cell 1
            have y2 := HZ.out.cell 2
            have z0 := HZ.out.frozen 0
            have z1 := HZ.out.frozen 1
            have z2 := HZ.out.frozen 2
            simp only [List.getElem?_toArray, List.getElem?_cons_zero, List.getElem?_cons_succ] at n0 n1 n2 y0 y1 y2
            have hzl := HZ.out.lt
            have hnl := HN.out.lt
            go_wp2
            refine ret_cell rfl rfl ((((HZ.out.set 0 _).set 1 _).set 2 _).eq rfl) rowTag rfl ?_
            refine RC.mk_ok e1.out rfl ?_ (((HX.out.set_new _ (Nat.le_refl _)).set_new _ (Nat.le_refl _)).set_new _ (Nat.le_refl _))
            exact ((HC.out.set_other _ (by omega) (by omega)).set_other _ (by omega) (by omega)).set_other _ (by omega) (by omega)
          | true =>
            have hk0' : ((k : Int) == 0) = false := by rw [beq_eq_false_iff_ne]; exact fun e => hs ⟨rfl, by omega⟩
            clear hs
            go_upto_region 14 with (fail)
            have n0 := HN.out.cell 0
            have n1 := HN.out.cell 1
            have n2 := HN.out.cell 2
            have y0 := HZ.out.cell 0
            have y1 := HZ.out.cell 1
            have y2 := HZ.out.cell 2
            have z0 := HZ.out.frozen 0
            have z1 := HZ.out.frozen 1
            have z2 := HZ.out.frozen 2
            simp only [List.getElem?_toArray, List.getElem?_cons_zero, List.getElem?_cons_succ] at n0 n1 n2 y0 y1 y2
            have hzl := HZ.out.lt
            have hnl := HN.out.lt
            go_wp2
            refine ret_cell rfl rfl ((((HZ.out.set 0 _).set 1 _).set 2 _).eq rfl) rowTag rfl ?_
            refine RC.mk_ok e1.out rfl ?_ (((HX.out.set_new _ (Nat.le_refl _)).set_new _ (Nat.le_refl _)).set_new _ (Nat.le_refl _))
            exact ((HC.out.set_other _ (by omega) (by omega)).set_other _ (by omega) (by omega)).set_other _ (by omega) (by omega)
end Go.Proofs.Ytfdjdpbiccclfaa
