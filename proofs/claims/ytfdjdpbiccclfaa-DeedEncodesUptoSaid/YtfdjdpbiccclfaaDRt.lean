/- The reader of deed: a tag. -/
import Derived.Test.YtfdjdpbiccclfaaDRn
namespace Go.Proofs.Ytfdjdpbiccclfaa
open Go Go.RowKit Go.Wr
set_option maxHeartbeats 4000000
set_option maxRecDepth 100000

def isTag (t : Tg) (v : Value) (_ : World) : Prop := v = .agg (tgv t)
theorem isrow_yes (w : World) (k : Int) (h : k = 5 ∨ k = 6) : Calls Try.prog 71 #[.int .i64 k] w fun e w' => e = .returned (.bool true) ∧ w' = w := by
  refine (isrow_ok w k).mono fun e w' ⟨h1, h2⟩ => ⟨?_, h2⟩
  rw [h1]
  congr 2
  simpa using h
theorem isrow_no (w : World) (k : Int) (h : ¬ (k = 5 ∨ k = 6)) : Calls Try.prog 71 #[.int .i64 k] w fun e w' => e = .returned (.bool false) ∧ w' = w := by
  refine (isrow_ok w k).mono fun e w' ⟨h1, h2⟩ => ⟨?_, h2⟩
  rw [h1]
  congr 2
  simp
  omega
theorem rtag_ok (w : World) (B p a : Nat) (b : List Nat) (vb : Value) (h : Rdr B p b a w vb) (slot : Bool) :
    Calls Try.prog 77 #[.pointer (some ⟨p, 0, none⟩), .bool slot] w (RP B p b vb (pTag slot b a) isTag w) := by
  have H := Lib.hid h
  have hpl := h.lt
  obtain ⟨R, hR⟩ : ∃ R, R = pTag slot b a := ⟨_, rfl⟩
  rw [← hR]
  have HR := Lib.hid hR
  clear h hR
  go_enter Try.func77, Try.ntmps77
  go_wp2_with fail
  (with_reducible refine (rbounded_eq _ B p a b vb (H.out.below (bAl (bRefl w) _)) 6 90 (by omega)).mono ?_)
  rintro e w1 hr
  have xA : Ex p w (w.alloc (.cells #[.int .i64 0, .int .i64 0, .int .i64 0] 56)) := (Ex.refl p w).alloc _
  have ZB : Blk (w.alloc (.cells #[.int .i64 0, .int .i64 0, .int .i64 0] 56)) w.heap.size 56 #[.int .i64 0, .int .i64 0, .int .i64 0] := Blk.new _ _ _
  cases hb : pBnd 6 90 b a with
  | error y =>
    obtain ⟨y, ye⟩ := y
    obtain ⟨rfl, hx⟩ := hr.err hb
    have e1 : Hid (R = .error (y, ye)) := by show _ = _; rw [HR.out]; unfold pTag pBind; rw [hb]
    clear hr hb ZB
    go_wp2
    exact ⟨rfl, RP.mk_err e1.out (xA.trans hx)⟩
  | ok v =>
    obtain ⟨k, m⟩ := v
    obtain ⟨v, rfl, rfl, hd, hx⟩ := hr.ok hb
    have hk6 : k ≤ 6 := by have := (pChk_ok.1 hb).2; simpa using this
    have HX := Lib.hid (xA.trans hx)
    have HZ := Lib.hid (hx.blk ZB (by omega))
    have hzl := HZ.out.lt
    have HD := Lib.hid hd
    have HR2 : Hid (R = (if k = 5 ∨ k = 6 then pBind (pBnd 7 90) fun t => pPure ⟨k, t, 0⟩ else if slot = true ∧ k = 0 then pBind (pChk (fun m => decide (m ≠ 0)) 90 pByte) fun m => pPure ⟨k, 0, m⟩ else pPure ⟨k, 0, 0⟩) b m) := by
      show _ = _
      rw [HR.out]
      unfold pTag
      conv => lhs; unfold pBind
      rw [hb]
      rfl
    clear hr hb ZB hd hx xA HR H
    go_wp2_with fail
    have NB : Blk (w1.alloc (.cells #[.int .i64 (k : Int), .int .i64 0, .int .i64 0] 56)) w1.heap.size 56 #[.int .i64 (k : Int), .int .i64 0, .int .i64 0] := Blk.new _ _ _
    have HX1 := Lib.hid (HX.out.alloc (.cells #[.int .i64 (k : Int), .int .i64 0, .int .i64 0] 56))
    have HZ1 := Lib.hid (HZ.out.alloc (.cells #[.int .i64 (k : Int), .int .i64 0, .int .i64 0] 56))
    have HD1 := Lib.hid (HD.out.below (bAl (bRefl w1) (.cells #[.int .i64 (k : Int), .int .i64 0, .int .i64 0] 56)))
    by_cases hr : k = 5 ∨ k = 6
    · (with_reducible refine (isrow_yes _ _ (by omega)).mono ?_)
      rintro e w2 ⟨rfl, rfl⟩
      have HR3 : Hid (R = pBind (pBnd 7 90) (fun t => pPure ⟨k, t, 0⟩) b m) := by
        show _ = _
        rw [HR2.out, if_pos hr]
      clear HR2 hr
      have HNB := Lib.hid NB
      clear NB
      go_wp2_with fail
      (with_reducible refine (rbounded_eq _ B p m b vb HD1.out 7 90 (by omega)).mono ?_)
      rintro e w2 hr
      cases hb : pBnd 7 90 b m with
      | error y =>
        obtain ⟨y, ye⟩ := y
        obtain ⟨rfl, hx⟩ := hr.err hb
        have e1 : Hid (R = .error (y, ye)) := by show _ = _; rw [HR3.out]; unfold pBind; rw [hb]
        clear hr hb
        go_wp2
        exact ⟨rfl, RP.mk_err e1.out (HX1.out.trans hx)⟩
      | ok v =>
        obtain ⟨t, m2⟩ := v
        obtain ⟨v, rfl, rfl, hd, hx⟩ := hr.ok hb
        have e1 : Hid (R = .ok (⟨k, t, 0⟩, m2)) := by show _ = _; rw [HR3.out]; unfold pBind; rw [hb]; rfl
        have HX2 := Lib.hid (HX1.out.trans hx)
        have hz2 := hx.blk HZ1.out (by omega)
        have hn2 := hx.blk HNB.out (by omega)
        have n0 := hn2.cell 0
        have n1 := hn2.cell 1
        have n2 := hn2.cell 2
        have f1 := hn2.frozen 1
        have z0 := hz2.frozen 0
        have z1 := hz2.frozen 1
        have z2 := hz2.frozen 2
        have y0 := hz2.cell 0
        have y1 := hz2.cell 1
        have y2 := hz2.cell 2
        simp only [List.getElem?_toArray, List.getElem?_cons_zero, List.getElem?_cons_succ] at n0 n1 n2 y0 y1 y2
        have HZ2 := Lib.hid hz2
        have HD2 := Lib.hid hd
        have hl2 := hz2.lt
        clear hr hb hd hx hz2 hn2 HR3 HNB
        go_wp2
        refine ret_cell rfl rfl (((((HZ2.out.set_other w1.heap.size 1 _ (by omega)).set 0 _).set 1 _).set 2 _).eq rfl) rowTag rfl ?_
        refine RP.mk_ok e1.out rfl ?_ ?_
        · exact (((HD2.out.set_other _ (by omega) (by have := HD2.out.hp; omega)).set_other _ (by omega) (by have := HD2.out.hp; omega)).set_other _ (by omega) (by have := HD2.out.hp; omega)).set_other _ (by omega) (by have := HD2.out.hp; omega)
        · exact (((HX2.out.set_new _ (by omega)).set_new _ (by omega)).set_new _ (by omega)).set_new _ (by omega)
    · (with_reducible refine (isrow_no _ _ (by omega)).mono ?_)
      rintro e w2 ⟨rfl, rfl⟩
      by_cases hs : slot = true ∧ k = 0
      · obtain ⟨rfl, rfl⟩ := hs
        have HR3 : Hid (R = pBind (pChk (fun m => decide (m ≠ 0)) 90 pByte) (fun m => pPure ⟨((0 : Nat) : Int), 0, m⟩) b m) := by
          show _ = _
          rw [HR2.out, if_neg hr, if_pos ⟨rfl, rfl⟩]
        clear HR2 hr
        rw [show ((0 : Nat) : Int) = 0 from rfl] at HR3 HX1 HZ1 HD1 NB
        have n0 := NB.cell 0
        simp only [List.getElem?_toArray, List.getElem?_cons_zero] at n0
        have c1 := HD1.out.blk.cell 1
        simp only [List.getElem?_toArray, List.getElem?_cons_zero, List.getElem?_cons_succ] at c1
        have HNB := Lib.hid NB
        clear NB
        go_wp2_with fail
        (with_reducible refine (rbyte_ok _ B p m b vb HD1.out).mono ?_)
        rintro e w2 hr
        cases hb : pByte b m with
        | error y =>
          obtain ⟨y, ye⟩ := y
          obtain ⟨rfl, hx⟩ := hr.err hb
          have e1 : Hid (R = .error (y, ye)) := by show _ = _; rw [HR3.out]; unfold pBind pChk; rw [hb]
          clear hr hb
          go_wp2
          exact ⟨rfl, RP.mk_err e1.out (HX1.out.trans hx)⟩
        | ok v =>
          obtain ⟨x, m2⟩ := v
          obtain ⟨v, rfl, rfl, hd, hx⟩ := hr.ok hb
          have HX2 := Lib.hid (HX1.out.trans hx)
          have hz2 := hx.blk HZ1.out (by omega)
          have hn2 := hx.blk HNB.out (by omega)
          have n0 := hn2.cell 0
          have n1 := hn2.cell 1
          have n2 := hn2.cell 2
          have f2 := hn2.frozen 2
          have z0 := hz2.frozen 0
          have z1 := hz2.frozen 1
          have z2 := hz2.frozen 2
          have y0 := hz2.cell 0
          have y1 := hz2.cell 1
          have y2 := hz2.cell 2
          simp only [List.getElem?_toArray, List.getElem?_cons_zero, List.getElem?_cons_succ] at n0 n1 n2 y0 y1 y2
          have HZ2 := Lib.hid hz2
          have HD2 := Lib.hid hd
          have hl2 := hz2.lt
          have hxs := hx.size
          by_cases h0 : x = 0
          · subst h0
            have e1 : Hid (R = .error (m, 90)) := by show _ = _; rw [HR3.out]; unfold pBind pChk; rw [hb]; rfl
            clear hr hb hd hx hz2 hn2 HR3 HNB
            go_wp2_with fail
            refine (giveup_ok _ _ m 90).mono ?_
            rintro e w3 ⟨rfl, rfl⟩
            go_wp2
            refine ⟨rfl, RP.mk_err e1.out ?_⟩
            exact HX2.out.set_new _ (by omega)
          · have e1 : Hid (R = .ok (⟨0, 0, x⟩, m2)) := by show _ = _; rw [HR3.out]; unfold pBind pChk; rw [hb]; simp [h0, pPure]
            have h0' : ¬ (x : Int) = 0 := by omega
            clear hr hb hd hx hz2 hn2 HR3 HNB
            go_wp2
            refine ret_cell rfl rfl (((((HZ2.out.set_other w1.heap.size 2 _ (by omega)).set 0 _).set 1 _).set 2 _).eq rfl) rowTag rfl ?_
            refine RP.mk_ok e1.out rfl ?_ ?_
            · exact (((HD2.out.set_other _ (by omega) (by have := HD2.out.hp; omega)).set_other _ (by omega) (by have := HD2.out.hp; omega)).set_other _ (by omega) (by have := HD2.out.hp; omega)).set_other _ (by omega) (by have := HD2.out.hp; omega)
            · exact (((HX2.out.set_new _ (by omega)).set_new _ (by omega)).set_new _ (by omega)).set_new _ (by omega)
      · have e1 : Hid (R = .ok (⟨k, 0, 0⟩, m)) := by
          show _ = _
          rw [HR2.out, if_neg hr, if_neg hs]
          rfl
        have n0 := NB.cell 0
        have n1 := NB.cell 1
        have n2 := NB.cell 2
        have z0 := HZ.out.frozen 0
        have z1 := HZ.out.frozen 1
        have z2 := HZ.out.frozen 2
        have y0 := HZ.out.cell 0
        have y1 := HZ.out.cell 1
        have y2 := HZ.out.cell 2
        simp only [List.getElem?_toArray, List.getElem?_cons_zero, List.getElem?_cons_succ] at n0 n1 n2 y0 y1 y2
        clear HR2 NB
        cases slot with
        | false =>
          clear hs
          go_wp2
          refine ret_cell rfl rfl (((((HZ.out.set 0 _).set 1 _).set 2 _).alloc _).eq rfl) rowTag rfl ?_
          refine RP.mk_ok e1.out rfl ?_ ?_
          · exact (((HD.out.set_other _ (by omega) (by have := HD.out.hp; omega)).set_other _ (by omega) (by have := HD.out.hp; omega)).set_other _ (by omega) (by have := HD.out.hp; omega)).below (bAl (bRefl _) _)
          · exact (((HX.out.set_new _ (by omega)).set_new _ (by omega)).set_new _ (by omega)).alloc _
        | true =>
          have hk0 : ¬ (k : Int) = 0 := fun e => hs ⟨rfl, by omega⟩
          clear hs
          go_wp2
          refine ret_cell rfl rfl (((((HZ.out.set 0 _).set 1 _).set 2 _).alloc _).eq rfl) rowTag rfl ?_
          refine RP.mk_ok e1.out rfl ?_ ?_
          · exact (((HD.out.set_other _ (by omega) (by have := HD.out.hp; omega)).set_other _ (by omega) (by have := HD.out.hp; omega)).set_other _ (by omega) (by have := HD.out.hp; omega)).below (bAl (bRefl _) _)
          · exact (((HX.out.set_new _ (by omega)).set_new _ (by omega)).set_new _ (by omega)).alloc _
end Go.Proofs.Ytfdjdpbiccclfaa
