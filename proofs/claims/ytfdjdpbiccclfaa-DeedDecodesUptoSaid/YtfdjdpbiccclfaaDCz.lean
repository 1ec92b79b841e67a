/- The document's cursor: a claim. -/
import Derived.Test.YtfdjdpbiccclfaaDCy
namespace Go.Proofs.Ytfdjdpbiccclfaa
open Go Go.RowKit Go.Wr
set_option maxHeartbeats 4000000
set_option maxRecDepth 100000

theorem pClB_cn (f : Nat → Tg) : pClB f = pMap (fun l => ⟨false, f, l⟩) pCnB := (pMap_bind _ _ _).symm
theorem pClS_sl (f : Nat → Tg) : pClS f = pBind (pSlB f) pClB := (pBind_assoc _ _ _).symm

/-- Where reading a claim stands. -/
structure CG (B p q : Nat) (b : List Nat) (vb : Value) (w : World) (s : Except (Nat × Int) Nat) (f : Nat → Tg) (wr : World) : Prop where
  cu : Cu B p b s wr vb
  ex : Ex p w wr
  zb : Blk wr w.heap.size 61 (bx (.bool false) f0 (.slice none 0 0))
  qb : Blk wr q 61 (bx (.bool false) f (.slice none 0 0))
section
variable {B p q : Nat} {b : List Nat} {vb : Value} {w : World} {s s' : Except (Nat × Int) Nat} {f : Nat → Tg} {wr w' : World}
theorem CG.next (h : CG B p q b vb w s f wr) (hx : Ex p wr w') (hd : Cu B p b s' w' vb) (h1 : w.heap.size ≠ p) (h2 : q ≠ p) : CG B p q b vb w s' f w' :=
  ⟨hd, h.ex.trans hx, hx.blk h.zb h1, hx.blk h.qb h2⟩
theorem CG.tag (h : CG B p q b vb w s f wr) (h1 : w.heap.size < q) (h2 : q ≠ p) (h3 : B ≤ q) {k : Nat} (hk : k < 42) (t : Tg) {o : Nat} (ho : o = 1 + k * 3) :
    CG B p q b vb w s (putT f k t) (((wr.setCell ⟨q, o, none⟩ (.int .i64 t.k)).setCell ⟨q, o + 1, none⟩ (.int .i64 t.t)).setCell ⟨q, o + 2, none⟩ (.int .i64 t.m)) :=
  ⟨((h.cu.set_other _ h2 h3).set_other _ h2 h3).set_other _ h2 h3, ((h.ex.set_new _ (by omega)).set_new _ (by omega)).set_new _ (by omega),
    ((h.zb.set_other q _ _ (by omega)).set_other q _ _ (by omega)).set_other q _ _ (by omega), (((h.qb.set o _).set (o + 1) _).set (o + 2) _).eq (bx_put _ _ _ hk t ho)⟩
end
theorem CuL.only {B p a g : Nat} {b : List Nat} {w w' : World} {vb : Value} (h : CuL B p b a w vb) (ho : Only g w w') (hg : g ≠ p) (hB : B ≤ g) : CuL B p b a w' vb :=
  ⟨ho.blk h.blk (Ne.symm hg), h.by'.below (ho.below hB), h.hp, h.at', h.len⟩
theorem CuD.only {B p y g : Nat} {er : Int} {b : List Nat} {w w' : World} {vb : Value} (h : CuD B p b y er w vb) (ho : Only g w w') (hg : g ≠ p) (hB : B ≤ g) : CuD B p b y er w' vb :=
  ⟨by obtain ⟨a, hk⟩ := h.blk; exact ⟨a, ho.blk hk (Ne.symm hg)⟩, h.by'.below (ho.below hB), h.hp, h.er', h.len⟩
theorem pClaim_far {b : List Nat} {a k m : Nat} (h : pByte b a = .ok (k, m)) (hk : 1 < k) : pClaim b a = .error (a, 110) :=
  pBind_err.2 (Or.inl (pChk_err.2 (Or.inr ⟨rfl, k, m, h, by simp; omega⟩)))
theorem pClaim_near {b : List Nat} {a k m : Nat} (h : pByte b a = .ok (k, m)) (hk : k ≤ 1) : pClaim b a = (if k = 0 then pPure ⟨true, f0, []⟩ else pBind (pRegs 10 0 f0) pClS) b m := by
  have hb : pBnd 1 110 b a = .ok (k, m) := pChk_ok.2 ⟨h, by simpa using hk⟩
  rw [pClaim_eq]
  exact pBind_at hb

theorem cclaim_ok (w : World) (B p a : Nat) (b : List Nat) (vb : Value) (h : CuL B p b a w vb) :
    Calls Try.prog 43 #[.pointer (some ⟨p, 0, none⟩)] w (RC B p b vb (pClaim b a) (isCl w.heap.size) w) := by
  have H := Lib.hid h
  have hpl := h.lt
  have hBp := h.hp
  obtain ⟨R, hR⟩ : ∃ R, R = pClaim b a := ⟨_, rfl⟩
  rw [← hR]
  have HR := Lib.hid hR
  have hz := zeroClaim
  clear h hR
  go_enter Try.func43, Try.ntmps43
  go_upto_region 2 with (fail)
  generalize hW : (w.alloc (.cells (bx (.bool false) f0 (.slice none 0 0)) 61)).alloc (.cells (bx (.bool false) f0 (.slice none 0 0)) 61) = W
  obtain ⟨q, hq⟩ : ∃ q, q = w.heap.size + 1 := ⟨_, rfl⟩
  have g0 : CG B p q b vb w (.ok a) f0 W := by
    rw [← hW]
    exact ⟨(H.out.alloc _).alloc _, ((Ex.refl p w).alloc _).alloc _, (Blk.new _ _ _).alloc _, Blk.new_at _ _ (by rw [hq]; simp)⟩
  rw [← hq]
  have hzp : w.heap.size ≠ p := by omega
  have hzq : w.heap.size < q := by omega
  have hqp : q ≠ p := by omega
  have hqB : B ≤ q := by omega
  have c1 : W.cell? ⟨p, 1, none⟩ = some (.int .i64 (a : Int)) := CuL.cell1 g0.cu
  have G0 := Lib.hid g0
  clear hW hq g0 H
  go_wp2_with fail
  refine (cbyte_ok0 _ B p a b vb G0.out.cu).mono ?_
  rintro e w1 hr
  cases hb : pByte b a with
  | error v =>
    obtain ⟨y, er⟩ := v
    obtain ⟨rfl, hd, hx⟩ := hr.err hb
    have e1 : Hid (R = .error (y, er)) := by show _ = _; rw [HR.out]; exact pBind_no (pChk_err.2 (Or.inl hb))
    have HG := Lib.hid (G0.out.next (s' := .error (y, er)) hx hd hzp hqp)
    have HQB := Lib.hid HG.out.qb
    have HZB := Lib.hid HG.out.zb
    have hv1 : (Value.slice none 0 0).oneCell' = true := rfl
    have c3 := hd.cell3
    have hne := hd.ne
    have hne' := hd.ne'
    clear hr hb hd hx G0 HR c1 hz
    go_wp2_with (first
      | (refine wpl_load rfl 61 (.tmp 3) rfl q 0 rfl HQB.out rowClaim (by rw [bx_size]; omega) (bx_all _ _ _) ?_)
      | (refine wpl_store rfl 61 (.tmp 2) (.tmp 48) rfl w.heap.size 0 rfl rfl HZB.out rowClaim (bx_size _ _ _) (of_decide_eq_true (by kernel_rfl)) (bx_one _ rfl hv1) ?_; intro wn hO hN)
      | (refine wpl_store rfl 61 (.tmp 2) (.tmp 30) rfl w.heap.size 0 rfl rfl HZB.out rowClaim (bx_size _ _ _) (of_decide_eq_true (by kernel_rfl)) (bx_one _ rfl hv1) ?_; intro wn hO hN)
      | (refine wpl_store rfl 61 (.tmp 2) (.tmp 34) rfl w.heap.size 0 rfl rfl HZB.out rowClaim (bx_size _ _ _) (of_decide_eq_true (by kernel_rfl)) (bx_one _ rfl hv1) ?_; intro wn hO hN))
    rw [spl_all _ _ (by simp only [bx_size])] at hN
    refine ret_cell rfl rfl hN (by rw [bx_size]; exact rowClaim) rfl ?_
    exact RC.mk_err e1.out (x := ⟨false, f0, []⟩) ⟨_, rfl, OwC.nil _ _⟩ (CuD.only HG.out.cu hO (by omega) (by omega)) (HG.out.ex.only hO (Nat.le_refl _))
  | ok v =>
    obtain ⟨live, m⟩ := v
    obtain ⟨rfl, hd, hx⟩ := hr.ok hb
    have HG := Lib.hid (G0.out.next (s' := .ok m) hx hd hzp hqp)
    have HB := Lib.hid hb
    have c3 := hd.cell3
    clear hr hb hd hx G0 c1
    by_cases hl1 : 1 < live
    · have hl1' : (1 : Int) < (live : Int) := by omega
      have e1 : Hid (R = .error (a, 110)) := by show _ = _; rw [HR.out]; exact pClaim_far HB.out hl1
      clear HR HB
      go_wp2_with fail
      refine (cfault_ok _ B p _ b vb HG.out.cu a 110 (by decide)).mono ?_
      rintro e w2 ⟨rfl, hd, hx⟩
      have HG := Lib.hid (HG.out.next (s' := .error (a, 110)) hx hd hzp hqp)
      have HQB := Lib.hid HG.out.qb
      have HZB := Lib.hid HG.out.zb
      have hv1 : (Value.slice none 0 0).oneCell' = true := rfl
      have c3 := hd.cell3
      clear hd hx hz
      go_wp2_with (first
        | (refine wpl_load rfl 61 (.tmp 3) rfl q 0 rfl HQB.out rowClaim (by rw [bx_size]; omega) (bx_all _ _ _) ?_)
        | (refine wpl_store rfl 61 (.tmp 2) (.tmp 48) rfl w.heap.size 0 rfl rfl HZB.out rowClaim (bx_size _ _ _) (of_decide_eq_true (by kernel_rfl)) (bx_one _ rfl hv1) ?_; intro wn hO hN)
        | (refine wpl_store rfl 61 (.tmp 2) (.tmp 30) rfl w.heap.size 0 rfl rfl HZB.out rowClaim (bx_size _ _ _) (of_decide_eq_true (by kernel_rfl)) (bx_one _ rfl hv1) ?_; intro wn hO hN)
        | (refine wpl_store rfl 61 (.tmp 2) (.tmp 34) rfl w.heap.size 0 rfl rfl HZB.out rowClaim (bx_size _ _ _) (of_decide_eq_true (by kernel_rfl)) (bx_one _ rfl hv1) ?_; intro wn hO hN))
      rw [spl_all _ _ (by simp only [bx_size])] at hN
      refine ret_cell rfl rfl hN (by rw [bx_size]; exact rowClaim) rfl ?_
      exact RC.mk_err e1.out (x := ⟨false, f0, []⟩) ⟨_, rfl, OwC.nil _ _⟩ (CuD.only HG.out.cu hO (by omega) (by omega)) (HG.out.ex.only hO (Nat.le_refl _))
    · have hl1' : ¬ (1 : Int) < (live : Int) := by omega
      have HR2 : Hid (R = (if live = 0 then pPure ⟨true, f0, []⟩ else pBind (pRegs 10 0 f0) pClS) b m) := by show _ = _; rw [HR.out]; exact pClaim_near HB.out (by omega)
      clear HR HB
      by_cases hl : live = 0
      · subst hl
        have e1 : Hid (R = .ok (⟨true, f0, []⟩, m)) := HR2.out
        have c0 := (HG.out.qb.cell 0).trans (bx_zero _ _ _)
        have fz := HG.out.qb.frozen 0
        have hql := HG.out.qb.lt
        clear HR2 hl1 hl1'
        go_upto_region 10 with (fail)
        generalize hV : w1.setCell _ _ = V
        have HQB := Lib.hid ((HG.out.qb.set 0 (.bool true)).eq bx_dead)
        have HZB := Lib.hid (HG.out.zb.set_other q 0 (.bool true) (by omega))
        have HC := Lib.hid (CuL.set_other (show CuL _ _ _ _ _ _ from HG.out.cu) (q := q) (i := 0) (.bool true) hqp hqB)
        have HX := Lib.hid (HG.out.ex.set_new (q := q) (i := 0) (.bool true) (by omega))
        rw [hV] at HQB HZB HC HX
        have hv1 : (Value.slice none 0 0).oneCell' = true := rfl
        clear hV HG c0 fz c3 hz
        go_wp2_with (first
          | (refine wpl_load rfl 61 (.tmp 3) rfl q 0 rfl HQB.out rowClaim (by rw [bx_size]; omega) (bx_all _ _ _) ?_)
          | (refine wpl_store rfl 61 (.tmp 2) (.tmp 48) rfl w.heap.size 0 rfl rfl HZB.out rowClaim (bx_size _ _ _) (of_decide_eq_true (by kernel_rfl)) (bx_one _ rfl hv1) ?_; intro wn hO hN)
          | (refine wpl_store rfl 61 (.tmp 2) (.tmp 30) rfl w.heap.size 0 rfl rfl HZB.out rowClaim (bx_size _ _ _) (of_decide_eq_true (by kernel_rfl)) (bx_one _ rfl hv1) ?_; intro wn hO hN)
          | (refine wpl_store rfl 61 (.tmp 2) (.tmp 34) rfl w.heap.size 0 rfl rfl HZB.out rowClaim (bx_size _ _ _) (of_decide_eq_true (by kernel_rfl)) (bx_one _ rfl hv1) ?_; intro wn hO hN))
        rw [spl_all _ _ (by simp only [bx_size])] at hN
        refine ret_cell rfl rfl hN (by rw [bx_size]; exact rowClaim) rfl ?_
        exact RC.mk_ok e1.out ⟨_, rfl, OwC.nil _ _⟩ (HC.out.only hO (by omega) (by omega)) (HX.out.only hO (Nat.le_refl _))
      · have hl2 : ((live : Int) == 0) = false := by rw [beq_eq_false_iff_ne]; omega
        have HR3 : Hid (R = stp (.ok m) fun m => pBind (pRegs (10 - 0) 0 f0) pClS b m) := by show _ = _; rw [HR2.out, if_neg hl]; rfl
        clear HR2 hl hl1
        go_wp2
        go_loopw [6] (fun t wr => ∃ (k : Nat) (f : Nat → Tg) (s : Except (Nat × Int) Nat), k ≤ 10 ∧ t = .int .i64 (k : Int) ∧ Hid (R = stp s fun m => pBind (pRegs (10 - k) k f) pClS b m) ∧ Hid (CG B p q b vb w s f wr)) (fun t _ => 10 - (intOf t).toNat)
        case atStart => exact ⟨0, f0, .ok m, by omega, rfl, HR3, HG⟩
        case round =>
          clear HR3 HG c3
          obtain ⟨k, f, s, hk, rfl, HE, HG⟩ := hrel
          by_cases hlt : k < 10
          · have hlt' : (k : Int) < 10 := by omega
            cases s with
            | error v =>
              obtain ⟨y, er⟩ := v
              go_wp2_with fail
              refine (ctag_dead wr B p y er b vb HG.out.cu false).mono ?_
              rintro e w2 hr
              obtain ⟨t, v, rfl, rfl, hd, hx⟩ := hr.err rfl
              have HE3 : Hid (R = stp (.error (y, er)) fun m => pBind (pRegs (10 - (k + 1)) (k + 1) (putT f k t)) pClS b m) := HE
              have HG2 := Lib.hid (HG.out.next (s' := .error (y, er)) hx hd hzp hqp)
              obtain ⟨b0, b1, b2⟩ := bx_tag (.bool false) f (.slice none 0 0) (show k < 42 by omega)
              have c0 := (HG2.out.qb.cell (1 + k * 3)).trans b0
              have c1 := (HG2.out.qb.cell (1 + k * 3 + 1)).trans b1
              have c2 := (HG2.out.qb.cell (1 + k * 3 + 2)).trans b2
              have g0 := HG2.out.qb.frozen (1 + k * 3)
              have g1 := HG2.out.qb.frozen (1 + k * 3 + 1)
              have g2 := HG2.out.qb.frozen (1 + k * 3 + 2)
              clear hr hd hx HE HG b0 b1 b2
              unfold tgv
              go_wp2
              go_roundw
              all_goals first
                | exact ⟨k + 1, putT f k t, _, by omega, by go_num, HE3, HG2.out.tag hzq hqp hqB (by omega) t (by omega)⟩
                | ((repeat apply Exists.intro); exact ⟨⟨k + 1, putT f k t, _, by omega, by go_num, HE3, HG2.out.tag hzq hqp hqB (by omega) t (by omega)⟩, rfl⟩)
                | (simp [intOf]; omega)
            | ok m =>
              go_wp2_with fail
              refine (ctag_ok wr B p m b vb HG.out.cu false).mono ?_
              rintro e w2 hr
              have HE2 : Hid (R = (pBind (pTag false) fun t => pBind (pRegs (9 - k) (k + 1) (putT f k t)) pClS) b m) := by
                show _ = _
                rw [HE.out, show 10 - k = (9 - k) + 1 by omega]
                show pBind (pRegs ((9 - k) + 1) k f) pClS b m = _
                rw [pRegs_succ]
              cases hb : pTag false b m with
              | error v =>
                obtain ⟨y, er⟩ := v
                obtain ⟨t, v, rfl, rfl, hd, hx⟩ := hr.err hb
                have HE3 : Hid (R = stp (.error (y, er)) fun m => pBind (pRegs (10 - (k + 1)) (k + 1) (putT f k t)) pClS b m) := by show _ = _; rw [HE2.out]; exact pBind_no hb
                have HG2 := Lib.hid (HG.out.next (s' := .error (y, er)) hx hd hzp hqp)
                clear HE2 hb
                obtain ⟨b0, b1, b2⟩ := bx_tag (.bool false) f (.slice none 0 0) (show k < 42 by omega)
                have c0 := (HG2.out.qb.cell (1 + k * 3)).trans b0
                have c1 := (HG2.out.qb.cell (1 + k * 3 + 1)).trans b1
                have c2 := (HG2.out.qb.cell (1 + k * 3 + 2)).trans b2
                have g0 := HG2.out.qb.frozen (1 + k * 3)
                have g1 := HG2.out.qb.frozen (1 + k * 3 + 1)
                have g2 := HG2.out.qb.frozen (1 + k * 3 + 2)
                clear hr hd hx HE HG b0 b1 b2
                unfold tgv
                go_wp2
                go_roundw
                all_goals first
                  | exact ⟨k + 1, putT f k t, _, by omega, by go_num, HE3, HG2.out.tag hzq hqp hqB (by omega) t (by omega)⟩
                  | ((repeat apply Exists.intro); exact ⟨⟨k + 1, putT f k t, _, by omega, by go_num, HE3, HG2.out.tag hzq hqp hqB (by omega) t (by omega)⟩, rfl⟩)
                  | (simp [intOf]; omega)
              | ok v =>
                obtain ⟨t, m2⟩ := v
                obtain ⟨v, rfl, rfl, hd, hx⟩ := hr.ok hb
                have HE3 : Hid (R = stp (.ok m2) fun m => pBind (pRegs (10 - (k + 1)) (k + 1) (putT f k t)) pClS b m) := by show _ = _; rw [HE2.out, show 10 - (k + 1) = 9 - k by omega]; exact pBind_at hb
                have HG2 := Lib.hid (HG.out.next (s' := .ok m2) hx hd hzp hqp)
                clear HE2 hb
                obtain ⟨b0, b1, b2⟩ := bx_tag (.bool false) f (.slice none 0 0) (show k < 42 by omega)
                have c0 := (HG2.out.qb.cell (1 + k * 3)).trans b0
                have c1 := (HG2.out.qb.cell (1 + k * 3 + 1)).trans b1
                have c2 := (HG2.out.qb.cell (1 + k * 3 + 2)).trans b2
                have g0 := HG2.out.qb.frozen (1 + k * 3)
                have g1 := HG2.out.qb.frozen (1 + k * 3 + 1)
                have g2 := HG2.out.qb.frozen (1 + k * 3 + 2)
                clear hr hd hx HE HG b0 b1 b2
                unfold tgv
                go_wp2
                go_roundw
                all_goals first
                  | exact ⟨k + 1, putT f k t, _, by omega, by go_num, HE3, HG2.out.tag hzq hqp hqB (by omega) t (by omega)⟩
                  | ((repeat apply Exists.intro); exact ⟨⟨k + 1, putT f k t, _, by omega, by go_num, HE3, HG2.out.tag hzq hqp hqB (by omega) t (by omega)⟩, rfl⟩)
                  | (simp [intOf]; omega)
          · obtain rfl : k = 10 := by omega
            have HE2 : Hid (R = stp s fun m => pBind (pSlB f) pClB b m) := by show _ = _; rw [HE.out, ← pClS_sl]; rfl
            clear HE hlt hk hz
            go_wp2_with fail
            have hsl : Calls Try.prog 62 #[.pointer (some ⟨p, 0, none⟩), .pointer (some ⟨q, 0, none⟩)] wr (CQP B p q b vb (stp s fun m => pSlB f b m) (.slice none 0 0) wr) := by
              cases s with
              | error v => exact cslots_dead wr B p q v.1 v.2 b vb HG.out.cu f _ HG.out.qb hqp
              | ok m => exact cslots_ok wr B p q m b vb HG.out.cu f _ HG.out.qb hqp hqB
            refine hsl.mono ?_
            clear hsl
            rintro e w2 ⟨rfl, s2, f2, hc, he2⟩
            have HE3 : Hid (R = stp s2 fun m => pMap (fun l => ⟨false, f2, l⟩) pCnB b m) := by
              show _ = _
              rw [HE2.out]
              cases s with
              | error v =>
                cases s2 with
                | error v2 => have h : (Except.error v : Except (Nat × Int) ((Nat → Tg) × Nat)) = .error v2 := he2; injection h with h; rw [h]; rfl
                | ok m2 => cases (show (Except.error v : Except (Nat × Int) ((Nat → Tg) × Nat)) = .ok _ from he2)
              | ok m =>
                have he2 : pSlB f b m = _ := he2
                cases s2 with
                | error v2 => exact pBind_no he2
                | ok m2 => exact (pBind_at he2).trans (by rw [pClB_cn]; rfl)
            have hx := Ex2.ex HG.out.ex hc.ex (by omega)
            have hzb := hc.ex.blk HG.out.zb hzp (by omega)
            have HC := Lib.hid hc
            have HX := Lib.hid hx
            have HZ := Lib.hid hzb
            clear hc he2 HE2 HG hx hzb
            go_wp2_with fail
            have hcn : Calls Try.prog 63 #[.pointer (some ⟨p, 0, none⟩), .pointer (some ⟨q, 0, none⟩)] w2 (CKP B p q b vb (stp s2 fun m => pCnB b m) f2 w2) := by
              cases s2 with
              | error v => exact ccons_dead w2 B p q v.1 v.2 b vb HC.out.cu f2 HC.out.qb hqp hqB
              | ok m => exact ccons_ok w2 B p q m b vb HC.out.cu f2 HC.out.qb hqp hqB
            refine hcn.mono ?_
            clear hcn
            rintro e w3 ⟨rfl, s3, vc, l, hk, he3⟩
            have HE4 : Hid (R = stp s3 fun m => .ok (⟨false, f2, l⟩, m)) := by
              show _ = _
              rw [HE3.out]
              cases s2 with
              | error v =>
                cases s3 with
                | error v2 => have h : (Except.error v : Except (Nat × Int) (List C3 × Nat)) = .error v2 := he3; injection h with h; rw [h]; rfl
                | ok m2 => cases (show (Except.error v : Except (Nat × Int) (List C3 × Nat)) = .ok _ from he3)
              | ok m =>
                have he3 : pCnB b m = _ := he3
                cases s3 with
                | error v2 => exact pMap_err.2 he3
                | ok m2 => exact pMap_ok.2 ⟨l, he3, rfl⟩
            have hx2 := Ex2.ex HX.out hk.ex (by omega)
            have HZB := Lib.hid (hk.ex.blk HZ.out hzp (by omega))
            have HQB := Lib.hid hk.qb
            have HK := Lib.hid hk
            have HX2 := Lib.hid hx2
            have hw2 := HX.out.size
            have hv1 : vc.oneCell' = true := by obtain ⟨a0, cap, e, _⟩ := hk.ow.cells; rw [e]; rfl
            clear hk he3 HE3 HC HX HZ hx2
            go_wp2_with (first
              | (refine wpl_load rfl 61 (.tmp 3) rfl q 0 rfl HQB.out rowClaim (by rw [bx_size]; omega) (bx_all _ _ _) ?_)
              | (refine wpl_store rfl 61 (.tmp 2) (.tmp 48) rfl w.heap.size 0 rfl rfl HZB.out rowClaim (bx_size _ _ _) (of_decide_eq_true (by kernel_rfl)) (bx_one _ rfl hv1) ?_; intro wn hO hN)
              | (refine wpl_store rfl 61 (.tmp 2) (.tmp 30) rfl w.heap.size 0 rfl rfl HZB.out rowClaim (bx_size _ _ _) (of_decide_eq_true (by kernel_rfl)) (bx_one _ rfl hv1) ?_; intro wn hO hN)
              | (refine wpl_store rfl 61 (.tmp 2) (.tmp 34) rfl w.heap.size 0 rfl rfl HZB.out rowClaim (bx_size _ _ _) (of_decide_eq_true (by kernel_rfl)) (bx_one _ rfl hv1) ?_; intro wn hO hN))
            rw [spl_all _ _ (by simp only [bx_size])] at hN
            refine ret_cell rfl rfl hN (by rw [bx_size]; exact rowClaim) rfl ?_
            have how : isCl w.heap.size ⟨false, f2, l⟩ (.agg (bx (.bool false) f2 vc)) wn := ⟨_, rfl, (HK.out.ow.mono hw2).of_block fun g _ hg => hO.block g (blk_ne hg HZB.out (by decide))⟩
            cases s3 with
            | error v =>
              obtain ⟨y, er⟩ := v
              exact RC.mk_err HE4.out how (CuD.only HK.out.cu hO (by omega) (by omega)) (HX2.out.only hO (Nat.le_refl _))
            | ok m => exact RC.mk_ok HE4.out how (CuL.only HK.out.cu hO (by omega) (by omega)) (HX2.out.only hO (Nat.le_refl _))
end Go.Proofs.Ytfdjdpbiccclfaa
