/- The reader of deed: a bound. -/
import Derived.Test.YtfdjdpbiccclfaaDRt
namespace Go.Proofs.Ytfdjdpbiccclfaa
open Go Go.RowKit Go.Wr
set_option maxHeartbeats 4000000
set_option maxRecDepth 100000

def isCon (x : C3) (v : Value) (_ : World) : Prop := v = .agg (c3v x)
theorem rowCon : RowTy Try.prog 63 3 := ⟨_, Try.underlying63, rfl, by kernel_rfl⟩
/-- The last of k bounds lies in the slice v. -/
def LastC (p : Nat) (w : World) (v : Value) (k : Nat) (prev : Option C3) : Prop :=
  (k = 0 ∧ prev = none) ∨ ∃ y n bb off cap, prev = some y ∧ k = n + 1 ∧ v = .slice (some ⟨bb, off, none⟩) k cap ∧ bb ≠ p ∧ bb < w.heap.size ∧ w.cell? ⟨bb, off + n * 3, none⟩ = some (.int .i64 y.i) ∧ w.cell? ⟨bb, off + n * 3 + 1, none⟩ = some (.int .i64 y.j) ∧ w.cell? ⟨bb, off + n * 3 + 2, none⟩ = some (.int .i64 y.c)
theorem Ex.cell {p : Nat} {w w' : World} (h : Ex p w w') {b o : Nat} (h1 : b < w.heap.size) (h2 : b ≠ p) : w'.cell? ⟨b, o, none⟩ = w.cell? ⟨b, o, none⟩ := World.cell?_of_block (a := ⟨b, o, none⟩) (h.block b h1 h2)

theorem rises_yes (w : World) (a b : C3) (v : Bool) (h : rises a b = v) {i j c i' j' c' : Int} (h1 : i = a.i) (h2 : j = a.j) (h3 : c = a.c) (h4 : i' = b.i) (h5 : j' = b.j) (h6 : c' = b.c) :
    Calls Try.prog 70 #[.agg #[.int .i64 i, .int .i64 j, .int .i64 c], .agg #[.int .i64 i', .int .i64 j', .int .i64 c']] w fun e w' => e = .returned (.bool v) ∧ Below w.heap.size w w' := by
  subst h1 h2 h3 h4 h5 h6 h
  exact rises_ok w a b

theorem pChk_at {α : Type} {c : α → Bool} {e : Int} {p : Ps α} {b : List Nat} {a a' : Nat} {x : α} (h : p b a = .ok (x, a')) : pChk c e p b a = if c x = true then .ok (x, a') else .error (a, e) := by unfold pChk; rw [h]
def ahd (prev : Option C3) (x : Nat × Nat) : Bool := match prev with | some y => rises y ⟨x.1, x.2, 0⟩ | none => true
theorem pPair_at {prev : Option C3} {b : List Nat} {a a' : Nat} {x : Nat × Nat} (h : pBind (pBnd 59 91) (fun i => pMap (fun j => (i, j)) (pChk (fun j => decide (j ≠ i)) 91 (pBnd 59 91))) b a = .ok (x, a')) : pPair prev b a = if ahd prev x = true then .ok (x, a') else .error (a, 111) := pChk_at h
theorem rcon_ok (w : World) (B p a : Nat) (b : List Nat) (vb : Value) (h : Rdr B p b a w vb) (va : Value) (k : Nat) (prev : Option C3) (hl : LastC p w va k prev) (hk : k ≤ 3600) :
    Calls Try.prog 78 #[.pointer (some ⟨p, 0, none⟩), va, .int .i64 (k : Int)] w (RP B p b vb (pCon prev b a) isCon w) := by
  have H := Lib.hid h
  have hpl := h.lt
  have hBp := h.hp
  have HL := Lib.hid hl
  have c1 := h.blk.cell 1
  simp only [List.getElem?_toArray, List.getElem?_cons_zero, List.getElem?_cons_succ] at c1
  obtain ⟨R, hR⟩ : ∃ R, R = pCon prev b a := ⟨_, rfl⟩
  rw [← hR]
  have HR := Lib.hid hR
  clear h hR hl
  go_enter Try.func78, Try.ntmps78
  go_wp2_with fail
  have xA : Ex p w (w.alloc (.cells #[.int .i64 0, .int .i64 0, .int .i64 0] 63)) := (Ex.refl p w).alloc _
  have ZB : Blk (w.alloc (.cells #[.int .i64 0, .int .i64 0, .int .i64 0] 63)) w.heap.size 63 #[.int .i64 0, .int .i64 0, .int .i64 0] := Blk.new _ _ _
  (with_reducible refine (rbounded_eq _ B p a b vb (H.out.below (bAl (bRefl w) _)) 59 91 (by omega)).mono ?_)
  rintro e w1 hr
  cases hb : pBnd 59 91 b a with
  | error y =>
    obtain ⟨y, ye⟩ := y
    obtain ⟨rfl, hx⟩ := hr.err hb
    have e1 : Hid (R = .error (y, ye)) := by show _ = _; rw [HR.out]; exact pBind_err.2 (Or.inl (pChk_err.2 (Or.inl (pBind_err.2 (Or.inl hb)))))
    clear hr hb ZB
    go_wp2
    exact ⟨rfl, RP.mk_err e1.out (xA.trans hx)⟩
  | ok v =>
    obtain ⟨i, m⟩ := v
    obtain ⟨v, rfl, rfl, hd, hx⟩ := hr.ok hb
    have hi := (pChk_ok.1 hb).2
    simp only [decide_eq_true_eq] at hi
    have HX := Lib.hid (xA.trans hx)
    have HZ := Lib.hid (hx.blk ZB (by omega))
    have hzl := HZ.out.lt
    have HD := Lib.hid hd
    have HB1 := Lib.hid hb
    have c1 := hd.blk.cell 1
    have hp1 := hd.lt
    simp only [List.getElem?_toArray, List.getElem?_cons_zero, List.getElem?_cons_succ] at c1
    clear hr hb ZB hd hx xA H
    go_wp2_with fail
    have NB : Blk (w1.alloc (.cells #[.int .i64 (i : Int), .int .i64 0, .int .i64 0] 63)) w1.heap.size 63 #[.int .i64 (i : Int), .int .i64 0, .int .i64 0] := Blk.new _ _ _
    have HX1 := Lib.hid (HX.out.alloc (.cells #[.int .i64 (i : Int), .int .i64 0, .int .i64 0] 63))
    have HZ1 := Lib.hid (HZ.out.alloc (.cells #[.int .i64 (i : Int), .int .i64 0, .int .i64 0] 63))
    have HD1 := Lib.hid (HD.out.below (bAl (bRefl w1) (.cells #[.int .i64 (i : Int), .int .i64 0, .int .i64 0] 63)))
    have HNB := Lib.hid NB
    clear NB
    (with_reducible refine (rbounded_eq _ B p m b vb HD1.out 59 91 (by omega)).mono ?_)
    rintro e w2 hr
    cases hb : pBnd 59 91 b m with
    | error y =>
      obtain ⟨y, ye⟩ := y
      obtain ⟨rfl, hx⟩ := hr.err hb
      have e1 : Hid (R = .error (y, ye)) := by show _ = _; rw [HR.out]; exact pBind_err.2 (Or.inl (pChk_err.2 (Or.inl (pBind_err.2 (Or.inr ⟨i, m, HB1.out, pMap_err.2 (pChk_err.2 (Or.inl hb))⟩)))))
      clear hr hb
      go_wp2
      exact ⟨rfl, RP.mk_err e1.out (HX1.out.trans hx)⟩
    | ok v =>
      obtain ⟨j, m2⟩ := v
      obtain ⟨v, rfl, rfl, hd, hx⟩ := hr.ok hb
      have hj := (pChk_ok.1 hb).2
      simp only [decide_eq_true_eq] at hj
      have HX2 := Lib.hid (HX1.out.trans hx)
      have hz2 := hx.blk HZ1.out (by omega)
      have hn2 := hx.blk HNB.out (by omega)
      have n0 := hn2.cell 0
      have n1 := hn2.cell 1
      have n2 := hn2.cell 2
      have f1 := hn2.frozen 1
      have f2 := hn2.frozen 2
      simp only [List.getElem?_toArray, List.getElem?_cons_zero, List.getElem?_cons_succ] at n0 n1 n2
      have HZ2 := Lib.hid hz2
      have HN2 := Lib.hid hn2
      have HD2 := Lib.hid hd
      have hl2 := hz2.lt
      have hn2l := hn2.lt
      have hxs := hx.size
      have HB2 := Lib.hid hb
      clear hr hb hd hx hz2 hn2 HNB HZ1 HX1 HD1
      by_cases hji : j = i
      · subst hji
        have e1 : Hid (R = .error (m, 91)) := by show _ = _; rw [HR.out]; exact pBind_err.2 (Or.inl (pChk_err.2 (Or.inl (pBind_err.2 (Or.inr ⟨j, m, HB1.out, pMap_err.2 (pChk_err.2 (Or.inr ⟨rfl, j, m2, HB2.out, by simp⟩))⟩)))))
        clear HR HB1 HB2
        go_wp2_with fail
        refine (giveup_ok _ _ m 91).mono ?_
        rintro e w3 ⟨rfl, rfl⟩
        go_wp2
        exact ⟨rfl, RP.mk_err e1.out (HX2.out.set_new _ (by omega))⟩
      · have hji' : ¬ (j : Int) = (i : Int) := by omega
        have e2 : pBind (pBnd 59 91) (fun i => pMap (fun j => (i, j)) (pChk (fun j => decide (j ≠ i)) 91 (pBnd 59 91))) b a = .ok ((i, j), m2) :=
          pBind_ok.2 ⟨i, m, HB1.out, pMap_ok.2 ⟨j, pChk_ok.2 ⟨HB2.out, by simpa using hji⟩, rfl⟩⟩
        have HP : Hid (pPair prev b a = if ahd prev (i, j) = true then .ok ((i, j), m2) else .error (a, 111)) := pPair_at e2
        clear HB1 HB2 hji e2
        go_upto_region 7 with (fail)
        generalize hV : w2.setCell ⟨w1.heap.size, 1, none⟩ (.int .i64 (j : Int)) = V
        have xV : Ex p w V := by rw [← hV]; exact HX2.out.set_new _ (by omega)
        have qV : Rdr B p b m2 V vb := by rw [← hV]; exact HD2.out.set_other _ (by omega) (by omega)
        have zV : Blk V w.heap.size 63 #[.int .i64 0, .int .i64 0, .int .i64 0] := by rw [← hV]; exact HZ2.out.set_other _ _ _ (by omega)
        have nV : Blk V w1.heap.size 63 #[.int .i64 (i : Int), .int .i64 (j : Int), .int .i64 0] := by rw [← hV]; exact (HN2.out.set 1 _).eq rfl
        have hVl := xV.size
        obtain ⟨q, hq⟩ : ∃ q, q = w1.heap.size := ⟨_, rfl⟩
        rw [← hq] at nV hzl ⊢
        have hqp : q ≠ p ∧ w.heap.size < q := by omega
        clear hV hq hn2l hl2 hxs HX2 HD2 HZ2 HN2 HX HZ HD n0 n1 n2 f1 f2
        have HXV := Lib.hid xV
        have HDV := Lib.hid qV
        have HZV := Lib.hid zV
        have HNV := Lib.hid nV
        have n0 := nV.cell 0
        have n1 := nV.cell 1
        have n2 := nV.cell 2
        simp only [List.getElem?_toArray, List.getElem?_cons_zero, List.getElem?_cons_succ] at n0 n1 n2
        clear xV qV zV nV
        rcases HL.out with ⟨rfl, rfl⟩ | ⟨y, n, bb, off, cap, rfl, rfl, rfl, hbp, hbl, y0, y1, y2⟩
        · have HP2 : Hid (pPair none b a = .ok ((i, j), m2)) := by show _ = _; rw [HP.out]; rfl
          clear HP HL c1
          go_quiet (fail)
          have HXD : Hid (Ex p w (V.drewN nq)) := HXV.out.drewN nq
          have HDD : Hid (Rdr B p b m2 (V.drewN nq) vb) := HDV.out.below ⟨rfl, rfl, rfl, Nat.le_refl _, fun _ _ => rfl⟩
          have HZD : Hid (Blk (V.drewN nq) w.heap.size 63 #[.int .i64 0, .int .i64 0, .int .i64 0]) := HZV.out.drewN nq
          have HND : Hid (Blk (V.drewN nq) q 63 #[.int .i64 (i : Int), .int .i64 (j : Int), .int .i64 0]) := HNV.out.drewN nq
          have c1 := HDD.out.blk.cell 1
          simp only [List.getElem?_toArray, List.getElem?_cons_zero, List.getElem?_cons_succ] at c1
          clear HXV HDV HZV HNV n0 n1 n2
          go_wp2_with fail
          refine (rsigned_ok _ B p m2 b vb HDD.out 91).mono ?_
          rintro e w4 hr
          cases hb : pSig 91 b m2 with
          | error y =>
            obtain ⟨y, ye⟩ := y
            obtain ⟨rfl, hx⟩ := hr.err hb
            have e1 : Hid (R = .error (y, ye)) := by show _ = _; rw [HR.out]; exact pBind_err.2 (Or.inr ⟨(i, j), m2, HP2.out, pMap_err.2 hb⟩)
            clear hr hb
            go_wp2
            exact ⟨rfl, RP.mk_err e1.out (HXD.out.trans hx)⟩
          | ok v =>
            obtain ⟨c, m3⟩ := v
            obtain ⟨v, rfl, rfl, hd, hx⟩ := hr.ok hb
            have e1 : Hid (R = .ok (⟨i, j, c⟩, m3)) := by show _ = _; rw [HR.out]; exact pBind_ok.2 ⟨(i, j), m2, HP2.out, pMap_ok.2 ⟨c, hb, rfl⟩⟩
            have HX4 := Lib.hid (HXD.out.trans hx)
            have zb := hx.blk HZD.out (by omega)
            have nb := hx.blk HND.out (by omega)
            have n0 := nb.cell 0
            have n1 := nb.cell 1
            have n2 := nb.cell 2
            have f2 := nb.frozen 2
            have z0 := zb.frozen 0
            have z1 := zb.frozen 1
            have z2 := zb.frozen 2
            have y0 := zb.cell 0
            have y1 := zb.cell 1
            have y2 := zb.cell 2
            simp only [List.getElem?_toArray, List.getElem?_cons_zero, List.getElem?_cons_succ] at n0 n1 n2 y0 y1 y2
            have HZ4 := Lib.hid zb
            have HD4 := Lib.hid hd
            have hzl4 := zb.lt
            have hql4 := nb.lt
            clear hr hb hd hx zb nb HXD HDD HZD HND HR HP2
            go_wp2
            refine ret_cell rfl rfl (((((HZ4.out.set_other q 2 _ (by omega)).set 0 _).set 1 _).set 2 _).eq rfl) rowCon rfl ?_
            refine RP.mk_ok e1.out rfl ?_ ?_
            · exact (((HD4.out.set_other _ (by omega) (by omega)).set_other _ (by omega) (by omega)).set_other _ (by omega) (by omega)).set_other _ (by omega) (by omega)
            · exact (((HX4.out.set_new _ (by omega)).set_new _ (by omega)).set_new _ (by omega)).set_new _ (by omega)
        · have hk0 : (0 : Int) < ((n + 1 : Nat) : Int) := by omega
          rw [← HXV.out.cell hbl hbp] at y0 y1 y2
          have hwr : IntKind.i64.wrap (n : Int) = n := IntWalk.i64_in _ (by omega)
          have hlt0 : (n : Int) < (n : Int) + 1 := by omega
          clear HL
          refine wp_tail 9 mix (by kernel_rfl) ?_
          simp only [List.take_succ_cons, List.take_zero, List.drop_succ_cons, List.drop_zero]
          iterate 9 still_step
          refine wpStill_nil ?_
          go_wp2_with fail
          (with_reducible refine (rises_yes _ y ⟨i, j, 0⟩ _ rfl rfl rfl rfl rfl rfl rfl).mono ?_)
          rintro e w3 ⟨rfl, b2⟩
          have HXD : Hid (Ex p w w3) := HXV.out.drew.trans (Ex.of_below b2)
          have HDD : Hid (Rdr B p b m2 w3 vb) := (HDV.out.drew).below b2
          have HZD : Hid (Blk w3 w.heap.size 63 #[.int .i64 0, .int .i64 0, .int .i64 0]) := (Blk.drew HZV.out).below b2 HZV.out.lt
          have HND : Hid (Blk w3 q 63 #[.int .i64 (i : Int), .int .i64 (j : Int), .int .i64 0]) := (Blk.drew HNV.out).below b2 HNV.out.lt
          have c1 := HDD.out.blk.cell 1
          simp only [List.getElem?_toArray, List.getElem?_cons_zero, List.getElem?_cons_succ] at c1
          clear b2 HXV HDV HZV HNV n0 n1 n2 y0 y1 y2
          cases hri : rises y ⟨i, j, 0⟩ with
          | false =>
            have e1 : Hid (R = .error (a, 111)) := by show _ = _; rw [HR.out]; exact pBind_err.2 (Or.inl (by rw [HP.out]; simp [ahd, hri]))
            clear hri HP HR
            go_wp2_with fail
            refine (giveup_ok _ _ a 111).mono ?_
            rintro e w4 ⟨rfl, rfl⟩
            go_wp2
            exact ⟨rfl, RP.mk_err e1.out HXD.out⟩
          | true =>
            have HP2 : Hid (pPair (some y) b a = .ok ((i, j), m2)) := by show _ = _; rw [HP.out]; simp [ahd, hri]
            clear hri HP
            go_wp2_with fail
            refine (rsigned_ok _ B p m2 b vb HDD.out 91).mono ?_
            rintro e w4 hr
            cases hb : pSig 91 b m2 with
            | error y =>
              obtain ⟨y, ye⟩ := y
              obtain ⟨rfl, hx⟩ := hr.err hb
              have e1 : Hid (R = .error (y, ye)) := by show _ = _; rw [HR.out]; exact pBind_err.2 (Or.inr ⟨(i, j), m2, HP2.out, pMap_err.2 hb⟩)
              clear hr hb
              go_wp2
              exact ⟨rfl, RP.mk_err e1.out (HXD.out.trans hx)⟩
            | ok v =>
              obtain ⟨c, m3⟩ := v
              obtain ⟨v, rfl, rfl, hd, hx⟩ := hr.ok hb
              have e1 : Hid (R = .ok (⟨i, j, c⟩, m3)) := by show _ = _; rw [HR.out]; exact pBind_ok.2 ⟨(i, j), m2, HP2.out, pMap_ok.2 ⟨c, hb, rfl⟩⟩
              have HX4 := Lib.hid (HXD.out.trans hx)
              have zb := hx.blk HZD.out (by omega)
              have nb := hx.blk HND.out (by omega)
              have n0 := nb.cell 0
              have n1 := nb.cell 1
              have n2 := nb.cell 2
              have f2 := nb.frozen 2
              have z0 := zb.frozen 0
              have z1 := zb.frozen 1
              have z2 := zb.frozen 2
              have y0 := zb.cell 0
              have y1 := zb.cell 1
              have y2 := zb.cell 2
              simp only [List.getElem?_toArray, List.getElem?_cons_zero, List.getElem?_cons_succ] at n0 n1 n2 y0 y1 y2
              have HZ4 := Lib.hid zb
              have HD4 := Lib.hid hd
              have hzl4 := zb.lt
              have hql4 := nb.lt
              clear hr hb hd hx zb nb HXD HDD HZD HND HR HP2
              go_wp2
              refine ret_cell rfl rfl (((((HZ4.out.set_other q 2 _ (by omega)).set 0 _).set 1 _).set 2 _).eq rfl) rowCon rfl ?_
              refine RP.mk_ok e1.out rfl ?_ ?_
              · exact (((HD4.out.set_other _ (by omega) (by omega)).set_other _ (by omega) (by omega)).set_other _ (by omega) (by omega)).set_other _ (by omega) (by omega)
              · exact (((HX4.out.set_new _ (by omega)).set_new _ (by omega)).set_new _ (by omega)).set_new _ (by omega)
end Go.Proofs.Ytfdjdpbiccclfaa
