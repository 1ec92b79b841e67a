/- ZoneLoses returns true for every input; nothing that was there is turned. -/
import Derived.Test.YtfpbjjdlchplnaaRLosesP
import Derived.Test.YtfpbjjdlchplnaaRAssign
import Derived.Test.YtfpbjjdlchplnaaRCopy
import Derived.Test.YtfpbjjdlchplnaaRArgO
import Derived.Test.YtfpbjjdlchplnaaRFrame
import Derived.Deep.DeepCutAuto
import Derived.Deep.RegionHeld3
import Derived.IntWalk
namespace Go.Proofs.YtfpbjjdlchplnaaR
open Go Go.RowKit Go.Wr
open Go.ChangeShapes Go.WideShapes Go.ChangeAt
set_option maxHeartbeats 8000000
set_option maxRecDepth 100000

theorem ArgC.sl {w : World} {v : Value} {l : List Cn} (h : ArgC w v l) : Sl3 w v l := h.1
theorem ArgC.len {w : World} {v : Value} {l : List Cn} (h : ArgC w v l) : l.length * 24 ≤ 140737488355328 := by have := h.2.1; omega
theorem ArgC.cap {w : World} {v : Value} {l : List Cn} (h : ArgC w v l) : Cap v l.length := h.2.2.2
theorem emod_nat (i : Int) : ∃ p : Nat, p < 60 ∧ i % 60 = (p : Int) := by
  have h1 := Int.emod_nonneg i (show (60 : Int) ≠ 0 by omega)
  have h2 := Int.emod_lt_of_pos i (show (0 : Int) < 60 by omega)
  exact ⟨(i % 60).toNat, by omega, by omega⟩

theorem loses_void (w : World) (cs : Value) (l : List Cn) (hcs : ArgC w cs l) (ms : Value) (vo : Value) (o : OpA) (ho : ArgO w vo o) (i j : Int) (he : (zwith znew (smallL l)).e = true) :
    Calls Try.prog 7 #[cs, ms, vo, .int .i64 i, .int .i64 j] w fun e w' => e = .returned (.bool true) ∧ Below w.heap.size w w' := by
  have HC := Lib.hid hcs
  have HE := Lib.hid he
  have HW := Lib.hid (small_wrong l)
  have hln : (smallL l).length * 24 ≤ 140737488355328 := by
    have h1 := hcs.len
    have h2 : (smallL l).length ≤ l.length := List.length_filter_le _ _
    omega
  obtain ⟨L, HL⟩ : ∃ L, Hid (L = smallL l) := ⟨_, rfl⟩
  rw [← HL.out] at HE HW hln
  obtain ⟨rfl, _⟩ := ho
  clear hcs he
  go_enter Try.func7, Try.ntmps7
  go_wp2_with fail
  refine (new_any _).mono ?_
  rintro e w1 ⟨p1, rfl, z1, b1⟩
  have t1 := bThen (bAl (bRefl w) _) b1
  have Z1 := Lib.hid z1
  clear z1 b1
  go_wp2_with fail
  refine (small_any _ _ l (HC.out.sl.below t1) HC.out.cap HC.out.len).mono ?_
  rintro e w2 ⟨v2, rfl, o2, b2⟩
  rw [← HL.out] at o2
  have S2 := Lib.hid (Sl3.own (l := L) o2 rfl (by omega))
  have Z2 := Lib.hid (Z1.out.below b2 Z1.out.lt)
  have t2 := bThen t1 b2
  clear o2
  go_wp2_with fail
  refine (lcons_any _ _ L S2.out hln).mono ?_
  rintro e w3 ⟨v3, rfl, o3, b3⟩
  have t3 := bThen t2 b3
  have S3 := Lib.hid (Sl3.own o3 rfl (by omega))
  clear o3
  go_wp2_with fail
  refine (with_ok _ p1 znew (Z2.out.below b3 Z2.out.lt) topT_rng _ L S3.out HW.out).mono ?_
  rintro e w4 ⟨p4, rfl, z4, b4⟩
  have t4 := bThen t3 b4
  clear b2 b3 b4 t1 t2 t3
  go_wp2_with fail
  refine (empty_any _ p4 _ z4).mono ?_
  rintro e w5 ⟨rfl, rfl⟩
  rw [HE.out]
  go_wp2_with (go_at_call 13; refine (awake_any _).mono ?_; rintro e w8 ⟨rfl, b8⟩)
  go_ret
  exact ⟨rfl, bThen t4 b8⟩

theorem loses_zone (w : World) (cs : Value) (l : List Cn) (hcs : ArgC w cs l) (ms : Value) (l2 : List Cn) (hms : ArgC w ms l2) (vo : Value) (o : OpA) (ho : ArgO w vo o) (i : Int) (hi : I64 i) (j : Int) (hj : I64 j) (he : (zwith znew (smallL l)).e = false) :
    Calls Try.prog 7 #[cs, ms, vo, .int .i64 i, .int .i64 j] w fun e w' => e = .returned (.bool true) ∧ Below w.heap.size w w' := by
  have HC := Lib.hid hcs
  have HM := Lib.hid hms
  have HW := Lib.hid (small_wrong l)
  have HW2 := Lib.hid (small_wrong l2)
  have hln : (smallL l).length * 24 ≤ 140737488355328 := by
    have h1 := hcs.len
    have h2 : (smallL l).length ≤ l.length := List.length_filter_le _ _
    omega
  have hln2 : (smallL l2).length * 24 ≤ 140737488355328 := by
    have h1 := hms.len
    have h2 : (smallL l2).length ≤ l2.length := List.length_filter_le _ _
    omega
  have hzz : zwith znew (smallL l) = ⟨false, (zwith znew (smallL l)).m⟩ := by rw [← he]
  obtain ⟨p, hp, ep⟩ := emod_nat i
  obtain ⟨q, hq, eq⟩ := emod_nat j
  obtain ⟨m, Hmm⟩ : ∃ m, Hid (m = (zwith znew (smallL l)).m) := ⟨_, rfl⟩
  rw [← Hmm.out] at hzz
  have HCl := Lib.hid (loses_cl hzz)
  have HR : Hid (Rng m) := (loses_cl hzz).rng (by omega)
  have Hmore := Lib.hid (more_facts (l' := l2) hzz q)
  have HRn : Hid (Rng (zwith ⟨false, m⟩ (smallL l2)).m) := zwith_rng (HR.out)
  obtain ⟨L, HL⟩ : ∃ L, Hid (L = smallL l) := ⟨_, rfl⟩
  obtain ⟨M, HM2⟩ : ∃ M, Hid (M = smallL l2) := ⟨_, rfl⟩
  obtain ⟨N, HN⟩ : ∃ N, Hid (N = zwith ⟨false, m⟩ (smallL l2)) := ⟨_, rfl⟩
  rw [← HN.out] at Hmore HRn
  rw [← HM2.out] at Hmore HW2 hln2 HN
  rw [← HL.out] at HW hln hzz
  obtain ⟨ne, nm⟩ := N
  obtain ⟨ok, oz, oo, ox, oy, oc, sv, sc, su, sd, vs, ocs, up, dn⟩ := o
  have HZZ := Lib.hid hzz
  have EP := Lib.hid ep
  have EQ := Lib.hid eq
  obtain ⟨rfl, ⟨_, _, _, hox, hoy, hoc⟩, hvs, hnz, -⟩ := ho
  simp only at hox hoy hoc hvs hnz
  have HVS := Lib.hid hvs
  have HNZ := Lib.hid hnz
  clear hcs hms he hzz ep eq hvs hnz Hmm
  go_enter Try.func7, Try.ntmps7
  go_wp2_with fail
  refine (new_any _).mono ?_
  rintro e w1 ⟨p1, rfl, z1, b1⟩
  have t1 := bThen (bAl (bRefl w) _) b1
  have X1 := Lib.hid ((Blk.new w 56 _).below b1 (Blk.lt (Blk.new _ _ _)))
  have Z1 := Lib.hid z1
  clear z1 b1
  go_wp2_with fail
  refine (small_any _ _ l (HC.out.sl.below t1) HC.out.cap HC.out.len).mono ?_
  rintro e w2 ⟨v2, rfl, o2, b2⟩
  rw [← HL.out] at o2
  have S2 := Lib.hid (Sl3.own (l := L) o2 rfl (by omega))
  have Z2 := Lib.hid (Z1.out.below b2 Z1.out.lt)
  have X2 := Lib.hid (X1.out.below b2 X1.out.lt)
  have t2 := bThen t1 b2
  clear o2
  go_wp2_with fail
  refine (lcons_any _ _ L S2.out hln).mono ?_
  rintro e w3 ⟨v3, rfl, o3, b3⟩
  have t3 := bThen t2 b3
  have S3 := Lib.hid (Sl3.own o3 rfl (by omega))
  have X3 := Lib.hid (X2.out.below b3 X2.out.lt)
  clear o3
  go_wp2_with fail
  refine (with_ok _ p1 znew (Z2.out.below b3 Z2.out.lt) topT_rng _ L S3.out HW.out).mono ?_
  rintro e w4 ⟨p4, rfl, z4, b4⟩
  rw [HZZ.out] at z4
  have t4 := bThen t3 b4
  have X4 := Lib.hid (X3.out.below b4 X3.out.lt)
  have Z4 := Lib.hid z4
  clear b2 b3 b4 t1 t2 t3 z4 Z1 Z2 X1 X2 X3 S2 S3
  go_wp2_with fail
  refine (empty_any _ p4 _ Z4.out).mono ?_
  rintro e w5 ⟨rfl, rfl⟩
  go_wp2_with fail
  refine (place_any i 60 _ hi (by omega) (by omega)).mono ?_
  rintro e w5 ⟨rfl, rfl⟩
  rw [EP.out]
  go_wp2_with fail
  refine (place_any j 60 _ hj (by omega) (by omega)).mono ?_
  rintro e w5 ⟨rfl, rfl⟩
  rw [EQ.out]
  go_wp2_with fail
  refine (small_any _ _ l2 (HM.out.sl.below t4) HM.out.cap HM.out.len).mono ?_
  rintro e w5 ⟨v5, rfl, o5, b5⟩
  rw [← HM2.out] at o5
  have S5 := Lib.hid (Sl3.own (l := M) o5 rfl (by omega))
  have Z5 := Lib.hid (Z4.out.below b5 Z4.out.lt)
  have X5 := Lib.hid (X4.out.below b5 X4.out.lt)
  have t5 := bThen t4 b5
  clear o5
  go_wp2_with fail
  refine (lcons_any _ _ M S5.out hln2).mono ?_
  rintro e w6 ⟨v6, rfl, o6, b6⟩
  have t6 := bThen t5 b6
  have S6 := Lib.hid (Sl3.own o6 rfl (by omega))
  have Z6 := Lib.hid (Z5.out.below b6 Z5.out.lt)
  have X6 := Lib.hid (X5.out.below b6 X5.out.lt)
  clear o6
  go_wp2_with fail
  refine (with_ok _ p4 ⟨false, m⟩ Z6.out HR.out _ M S6.out HW2.out).mono ?_
  rintro e w7 ⟨p7, rfl, z7, b7⟩
  rw [← HN.out] at z7
  have t7 := bThen t6 b7
  have N7 := Lib.hid z7
  have Z7 := Lib.hid (Z6.out.below b7 Z6.out.lt)
  have X7 := Lib.hid (X6.out.below b7 X6.out.lt)
  clear b5 b6 b7 z7 t4 t5 t6 Z4 Z5 Z6 X4 X5 X6 S5 S6
  go_wp2_with fail
  refine (empty_any _ p7 _ N7.out).mono ?_
  rintro e w8 ⟨rfl, rfl⟩
  go_upto_if 59 with (fail)
  go_cut [16] (fun _ wc => Below w7.heap.size w7 wc)
  case first =>
    cases ne with
    | true =>
      go_wp2
      go_meet
      exact bRefl _
    | false =>
      have G1 := Lib.hid (Hmore.out rfl).1
      have G2 := Lib.hid (Hmore.out rfl).2.1
      have G3 := Lib.hid (Hmore.out rfl).2.2
      go_wp2_with fail
      refine (Reach_any _ p7 nm N7.out HRn.out p q).mono ?_
      rintro e wa ⟨g, rfl, hg, hgl, ba⟩
      have GA := Lib.hid hg
      clear hg
      go_wp2_with fail
      refine (meets_any _ p7 ⟨false, nm⟩ (N7.out.below ba N7.out.lt) HRn.out g _ GA.out (fun k hk => reachF_i64 HRn.out q _ (by omega) hk)).mono ?_
      rintro e wb ⟨rfl, bb⟩
      rw [G1.out]
      have ta := bThen ba bb
      have GB := Lib.hid (GA.out.below bb GA.out.lt)
      go_wp2_with fail
      refine (meets_any _ p4 ⟨false, m⟩ (Z7.out.below ta Z7.out.lt) HR.out g _ GB.out (fun k hk => reachF_i64 HRn.out q _ (by omega) hk)).mono ?_
      rintro e wd ⟨rfl, bd⟩
      rw [G2.out]
      have td := bThen ta bd
      have GD := Lib.hid (GB.out.below bd GB.out.lt)
      clear ba bb bd ta GA GB
      go_wp2_with fail
      refine (small_any _ _ l2 (HM.out.sl.below (bThen t7 td)) HM.out.cap HM.out.len).mono ?_
      rintro e we ⟨ve, rfl, oe, be⟩
      rw [← HM2.out] at oe
      have SE := Lib.hid (Sl3.own (l := M) oe rfl (by omega))
      have CE := Lib.hid (Cap.own oe)
      have te := bThen td be
      have GE := Lib.hid (GD.out.below be GD.out.lt)
      clear oe
      go_wp2_with fail
      refine (met_any _ _ M SE.out CE.out hln2 g _ GE.out (fun k hk => reachF_i64 HRn.out q _ (by omega) hk)).mono ?_
      rintro e wf ⟨vf, rfl, of, bf⟩
      rw [G3.out] at of
      obtain ⟨af, cf, rfl, _⟩ := Cap.own of
      have tf := bThen te bf
      clear of
      go_wp2_with fail
      refine (small_any _ _ l2 (HM.out.sl.below (bThen t7 tf)) HM.out.cap HM.out.len).mono ?_
      rintro e wg ⟨vg, rfl, og, bg⟩
      rw [← HM2.out] at og
      obtain ⟨ag, cg, rfl, _⟩ := Cap.own og
      have tg := bThen tf bg
      have hle : ((M.length : Int) != (M.length : Int)) = false := by simp
      clear og
      go_wp2
      go_meet
      exact tg
  case rest =>
    have t8 := bThen t7 hcut
    have Z8 := Lib.hid (Z7.out.below hcut Z7.out.lt)
    have X8 := Lib.hid (X7.out.below hcut X7.out.lt)
    have c6 : wc.cell? ⟨w.heap.size, 6, none⟩ = some sv := X8.out.cell 6
    have hvl := HVS.out.2.1
    have HS8 := Lib.hid (SlI.below HVS.out.1 t8)
    clear hcut t7 Z7 X7 N7
    go_wp2_with fail
    clear c6
    refine (copy_any _ _ vs HS8.out HNZ.out (by omega)).mono ?_
    rintro e w9 ⟨v9, rfl, s9, b9⟩
    have t9 := bThen t8 b9
    have Z9 := Lib.hid (Z8.out.below b9 Z8.out.lt)
    have X9 := Lib.hid (X8.out.below b9 X8.out.lt)
    have S9 := Lib.hid s9
    clear s9
    go_wp2_with fail
    refine (forget_any _ p4 ⟨false, m⟩ Z9.out v9 vs S9.out).mono ?_
    rintro e wa ⟨pa, rfl, za, ba⟩
    have HFZ : Hid (ZAt wa pa ⟨false, fgtL m vs⟩) := za
    have ta := bThen t9 ba
    have ZA := Lib.hid (Z9.out.below ba Z9.out.lt)
    have XA := Lib.hid (X9.out.below ba X9.out.lt)
    have HCG := Lib.hid (HCl.out.fgtL (l := vs))
    have HRG : Hid (Rng (fgtL m vs)) := HCG.out.rng (by omega)
    have HMG := Lib.hid (HCG.out.reach q)
    clear za b9 ba t8 t9 Z8 Z9 X8 X9 S9
    go_wp2_with fail
    refine (Reach_any _ pa _ HFZ.out HRG.out p q).mono ?_
    rintro e wb ⟨g, rfl, hg, hgl, bb⟩
    have tb := bThen ta bb
    have ZB := Lib.hid (ZA.out.below bb ZA.out.lt)
    have XB := Lib.hid (XA.out.below bb XA.out.lt)
    have FB := Lib.hid (HFZ.out.below bb HFZ.out.lt)
    have GB := Lib.hid hg
    have c6 : wb.cell? ⟨w.heap.size, 6, none⟩ = some sv := XB.out.cell 6
    clear hg ZA XA HFZ
    go_wp2_with fail
    clear c6
    refine (extend_any _ p4 m ZB.out (HCl.out.wide (by omega)) g _ GB.out (HCG.out.reachB (by omega) q) _ vs (SlI.below HVS.out.1 tb) HMG.out.open_).mono ?_
    rintro e wd ⟨ud, rfl, bd⟩
    have td := bThen tb bd
    have ZD := Lib.hid (ZB.out.below bd ZB.out.lt)
    have XD := Lib.hid (XB.out.below bd XB.out.lt)
    have FD := Lib.hid (FB.out.below bd FB.out.lt)
    have GD := Lib.hid (GB.out.below bd GB.out.lt)
    clear bb bd ta tb ZB XB FB GB
    go_wp2_with fail
    refine (meets_any _ pa ⟨false, _⟩ FD.out HRG.out g _ GD.out (fun k hk => reachF_i64 HRG.out q _ (by omega) hk)).mono ?_
    rintro e we ⟨rfl, be⟩
    rw [HMG.out.meets]
    have te := bThen td be
    have ZE := Lib.hid (ZD.out.below be ZD.out.lt)
    have XE := Lib.hid (XD.out.below be XD.out.lt)
    have e3 : we.cell? ⟨w.heap.size, 3, none⟩ = some (.int .i64 ox) := XE.out.cell 3
    have e4 : we.cell? ⟨w.heap.size, 4, none⟩ = some (.int .i64 oy) := XE.out.cell 4
    have e5 : we.cell? ⟨w.heap.size, 5, none⟩ = some (.int .i64 oc) := XE.out.cell 5
    clear be td ZD XD FD GD
    by_cases hin : 1 ≤ ox ∧ ox ≤ 59 ∧ 0 ≤ oy ∧ oy ≤ 59 ∧ -1099511627776 ≤ oc ∧ oc ≤ 1099511627776
    · obtain ⟨h1, h2, h3, h4, h5, h6⟩ := hin
      obtain ⟨x, rfl⟩ := Int.eq_ofNat_of_zero_le (show 0 ≤ ox by omega)
      obtain ⟨y, rfl⟩ := Int.eq_ofNat_of_zero_le h3
      have hx1 : 1 ≤ x := by omega
      have hxi : (x : Int) < 60 := by omega
      have hyi : (y : Int) < 60 := by omega
      have hx : x < 60 := by omega
      have hy : y < 60 := by omega
      have HCT := Lib.hid (HCl.out.asg (x := x) (y := y) (c := oc) (by omega) (by omega) hx hy h5 h6)
      have HRT : Hid (Rng (asgT m x y oc)) := HCT.out.rng (by omega)
      have HMT := Lib.hid (HCT.out.reach q)
      have HBT := Lib.hid (HCT.out.reachB (by omega) q)
      obtain ⟨T, HT⟩ : ∃ T, Hid (T = asgT m x y oc) := ⟨_, rfl⟩
      go_wp2_with fail
      clear e3 e4 e5
      refine (assign_ok _ p4 m ZE.out HR.out x y oc hx1 hx hy (by omega) (by omega)).mono ?_
      rintro e wf ⟨pf, rfl, zf, bf⟩
      rw [← HT.out] at zf HCT HRT HMT HBT
      have tf := bThen te bf
      have ZF := Lib.hid (ZE.out.below bf ZE.out.lt)
      have XF := Lib.hid (XE.out.below bf XE.out.lt)
      have TF := Lib.hid zf
      clear bf te ZE XE zf
      go_wp2_with fail
      refine (Reach_any _ pf T TF.out HRT.out p q).mono ?_
      rintro e wg ⟨g2, rfl, hg2, hgl2, bg⟩
      have tg := bThen tf bg
      have ZG := Lib.hid (ZF.out.below bg ZF.out.lt)
      have XG := Lib.hid (XF.out.below bg XF.out.lt)
      have TG := Lib.hid (TF.out.below bg TF.out.lt)
      obtain ⟨f, Hf⟩ : ∃ f, Hid (f = reachF T q 1125899906842624) := ⟨_, rfl⟩
      rw [← Hf.out] at hg2 HMT HBT
      have GG := Lib.hid hg2
      have e3 : wg.cell? ⟨w.heap.size, 3, none⟩ = some (.int .i64 x) := XG.out.cell 3
      have e4 : wg.cell? ⟨w.heap.size, 4, none⟩ = some (.int .i64 y) := XG.out.cell 4
      have e5 : wg.cell? ⟨w.heap.size, 5, none⟩ = some (.int .i64 oc) := XG.out.cell 5
      have fi : ∀ k, k < 60 → I64 (f k) := fun k hk => by have := HBT.out k hk; unfold I64; omega
      have FI := Lib.hid fi
      have fx := HBT.out x hx
      have fy := HBT.out y hy
      have fx1 := fx.1
      have fx2 := fx.2
      have fy1 := fy.1
      have fy2 := fy.2
      have ex : wg.cell? ⟨g2, x, none⟩ = some (.int .i64 (f x)) := (GG.out.cell x).trans (rcells_get f hx)
      have ey : wg.cell? ⟨g2, y, none⟩ = some (.int .i64 (f y)) := (GG.out.cell y).trans (rcells_get f hy)
      clear hg2 bg tf ZF XF TF fi fx fy
      by_cases hxy : x = y
      · subst hxy
        have HMB : Hid (meetsB ⟨false, m⟩ (putF f x (f x - oc)) = true) := (asg_back HCl.out (by omega) (by omega) hx h5 h6 (f := f) (by rw [← HT.out]; exact HMT.out)).meets
        have HIB := Lib.hid (putF_i64 (f := f) (x := x) (v := f x - oc) FI.out (by unfold I64; omega))
        have HMF := Lib.hid HMT.out.meets
        have hgl := GG.out.lt
        have hwr : IntKind.i64.wrap (f x - oc) = f x - oc := IntWalk.i64_in _ (by omega)
        go_upto_region 27 with (fail)
        go_region_held3 (fun w' => w'.cell? ⟨w.heap.size, 3, none⟩ = some (.int .i64 x) ∧ w'.cell? ⟨w.heap.size, 5, none⟩ = some (.int .i64 oc) ∧ w'.cell? ⟨g2, x, none⟩ = some (.int .i64 (f x))) (go_keep)
          (first
            | (go_at_call_of 33 (Value.pointer (some ⟨pf, 0, none⟩)); refine (meets_any wg.drew pf ⟨false, T⟩ TG.out HRT.out g2 f GG.out FI.out).mono ?_; rintro e v1 ⟨rfl, c1⟩; rw [HMF.out]; have Z1 := Lib.hid ((Blk.drew ZG.out).below c1 ZG.out.lt); have X1 := Lib.hid ((Blk.drew XG.out).below c1 XG.out.lt); have G1 := Lib.hid ((Blk.drew GG.out).below c1 GG.out.lt); have s3 : v1.cell? ⟨w.heap.size, 3, none⟩ = some (.int .i64 x) := X1.out.cell 3; have s5 : v1.cell? ⟨w.heap.size, 5, none⟩ = some (.int .i64 oc) := X1.out.cell 5; have sx : v1.cell? ⟨g2, x, none⟩ = some (.int .i64 (f x)) := (G1.out.cell x).trans (rcells_get f hx))
            | (go_at_call 38; refine (withA_any v1 g2 f G1.out x hx (f x - oc)).mono ?_; rintro e v2 ⟨g3, rfl, G3, hg3, c2⟩; have Z2 := Lib.hid (Z1.out.below c2 Z1.out.lt); have X2 := Lib.hid (X1.out.below c2 X1.out.lt); have G2 := Lib.hid (G1.out.below c2 G1.out.lt); have s3 : v2.cell? ⟨w.heap.size, 3, none⟩ = some (.int .i64 x) := X2.out.cell 3; have s5 : v2.cell? ⟨w.heap.size, 5, none⟩ = some (.int .i64 oc) := X2.out.cell 5; have sx : v2.cell? ⟨g2, x, none⟩ = some (.int .i64 (f x)) := (G2.out.cell x).trans (rcells_get f hx))
            | (go_at_call_of 33 (Value.pointer (some ⟨p4, 0, none⟩)); refine (meets_any v2 p4 ⟨false, m⟩ Z2.out HR.out g3 _ G3 HIB.out).mono ?_; rintro e v3 ⟨rfl, c3⟩; rw [HMB.out]; have X3 := Lib.hid (X2.out.below c3 X2.out.lt); have G3' := Lib.hid (G2.out.below c3 G2.out.lt); have s3 : v3.cell? ⟨w.heap.size, 3, none⟩ = some (.int .i64 x) := X3.out.cell 3; have s5 : v3.cell? ⟨w.heap.size, 5, none⟩ = some (.int .i64 oc) := X3.out.cell 5; have sx : v3.cell? ⟨g2, x, none⟩ = some (.int .i64 (f x)) := (G3'.out.cell x).trans (rcells_get f hx))
            | (go_at_call 13; refine (awake_any v3).mono ?_; rintro e v4 ⟨rfl, c4⟩; have s3 : v4.cell? ⟨w.heap.size, 3, none⟩ = some (.int .i64 x) := (X3.out.below c4 X3.out.lt).cell 3; have s5 : v4.cell? ⟨w.heap.size, 5, none⟩ = some (.int .i64 oc) := (X3.out.below c4 X3.out.lt).cell 5; have sx : v4.cell? ⟨g2, x, none⟩ = some (.int .i64 (f x)) := ((G3'.out.below c4 G3'.out.lt).cell x).trans (rcells_get f hx)))
        clear hwr
        go_wp2
        go_ret
        exact ⟨rfl, bThen (bThen (bThen (bThen tg.drew c1) c2) c3) c4⟩
      · have hq : ((x : Int) == (y : Int)) = false := by rw [beq_eq_false_iff_ne]; omega
        have HAT : Hid (f x = f y + oc) := asg_at HCl.out (by omega) hx hy hxy h5 h6 (by rw [← HT.out]; exact HMT.out)
        have HOP : Hid (MtO m f (opn [(x : Int)])) := asg_open HCl.out (by omega) hx1 hx hy h5 h6 (by rw [← HT.out]; exact HMT.out)
        have HMF := Lib.hid HMT.out.meets
        have hgl := GG.out.lt
        have HXY := Lib.hid hxy
        clear hxy
        go_wp2_with fail
        clear ex ey e3 e4 e5
        refine (extend_any _ p4 m (Blk.alloc ZG.out _) (HCl.out.wide (by omega)) g2 f (GG.out.alloc _) HBT.out _ [(x : Int)] (SlI.one ((Blk.new wg 3 #[.int .i64 x]).cell 0) 1) HOP.out).mono ?_
        rintro e wh ⟨ud, rfl, bh⟩
        have th := bThen (bAl tg _) bh
        have XH := Lib.hid ((XG.out.alloc _).below bh (XG.out.alloc _).lt)
        have TH := Lib.hid (ZAt.below (Blk.alloc TG.out _) bh (Blk.alloc TG.out _).lt)
        have GH := Lib.hid ((GG.out.alloc _).below bh (GG.out.alloc _).lt)
        have e3 : wh.cell? ⟨w.heap.size, 3, none⟩ = some (.int .i64 x) := XH.out.cell 3
        have e4 : wh.cell? ⟨w.heap.size, 4, none⟩ = some (.int .i64 y) := XH.out.cell 4
        have e5 : wh.cell? ⟨w.heap.size, 5, none⟩ = some (.int .i64 oc) := XH.out.cell 5
        have ex : wh.cell? ⟨g2, x, none⟩ = some (.int .i64 (f x)) := (GH.out.cell x).trans (rcells_get f hx)
        have ey : wh.cell? ⟨g2, y, none⟩ = some (.int .i64 (f y)) := (GH.out.cell y).trans (rcells_get f hy)
        have hwr : IntKind.i64.wrap (f y + oc) = f y + oc := IntWalk.i64_in _ (by omega)
        have hfe : (f x == f y + oc) = true := by rw [beq_iff_eq]; exact HAT.out
        clear bh tg ZG XG TG GG
        go_upto_region 29 with (fail)
        go_region_held3 (fun w' => w'.cell? ⟨w.heap.size, 3, none⟩ = some (.int .i64 x) ∧ w'.cell? ⟨w.heap.size, 4, none⟩ = some (.int .i64 y) ∧ w'.cell? ⟨w.heap.size, 5, none⟩ = some (.int .i64 oc) ∧ w'.cell? ⟨g2, x, none⟩ = some (.int .i64 (f x)) ∧ w'.cell? ⟨g2, y, none⟩ = some (.int .i64 (f y))) (go_keep)
          (first
            | (go_at_call 33; refine (meets_any wh.drew pf ⟨false, T⟩ TH.out HRT.out g2 f GH.out FI.out).mono ?_; rintro e v1 ⟨rfl, c1⟩; rw [HMF.out]; have X1 := Lib.hid ((Blk.drew XH.out).below c1 XH.out.lt); have G1 := Lib.hid ((Blk.drew GH.out).below c1 GH.out.lt); have s3 : v1.cell? ⟨w.heap.size, 3, none⟩ = some (.int .i64 x) := X1.out.cell 3; have s4 : v1.cell? ⟨w.heap.size, 4, none⟩ = some (.int .i64 y) := X1.out.cell 4; have s5 : v1.cell? ⟨w.heap.size, 5, none⟩ = some (.int .i64 oc) := X1.out.cell 5; have sx : v1.cell? ⟨g2, x, none⟩ = some (.int .i64 (f x)) := (G1.out.cell x).trans (rcells_get f hx); have sy : v1.cell? ⟨g2, y, none⟩ = some (.int .i64 (f y)) := (G1.out.cell y).trans (rcells_get f hy))
            | (go_at_call 13; refine (awake_any v1).mono ?_; rintro e v4 ⟨rfl, c4⟩; have X4 := X1.out.below c4 X1.out.lt; have G4 := G1.out.below c4 G1.out.lt; have s3 : v4.cell? ⟨w.heap.size, 3, none⟩ = some (.int .i64 x) := X4.cell 3; have s4 : v4.cell? ⟨w.heap.size, 4, none⟩ = some (.int .i64 y) := X4.cell 4; have s5 : v4.cell? ⟨w.heap.size, 5, none⟩ = some (.int .i64 oc) := X4.cell 5; have sx : v4.cell? ⟨g2, x, none⟩ = some (.int .i64 (f x)) := (G4.cell x).trans (rcells_get f hx); have sy : v4.cell? ⟨g2, y, none⟩ = some (.int .i64 (f y)) := (G4.cell y).trans (rcells_get f hy); clear X4 G4))
        clear hwr hfe
        go_wp2
        go_ret
        exact ⟨rfl, bThen (bThen th.drew c1) c4⟩
    · have hout : ox < 1 ∨ (1 ≤ ox ∧ 59 < ox) ∨ (1 ≤ ox ∧ ox ≤ 59 ∧ oy < 0) ∨ (1 ≤ ox ∧ ox ≤ 59 ∧ 0 ≤ oy ∧ 59 < oy) ∨ (1 ≤ ox ∧ ox ≤ 59 ∧ 0 ≤ oy ∧ oy ≤ 59 ∧ oc < -1099511627776) ∨ (1 ≤ ox ∧ ox ≤ 59 ∧ 0 ≤ oy ∧ oy ≤ 59 ∧ -1099511627776 ≤ oc ∧ 1099511627776 < oc) := by omega
      clear hin
      rcases hout with h1 | ⟨h1, h2⟩ | ⟨h1, h2, h3⟩ | ⟨h1, h2, h3, h4⟩ | ⟨h1, h2, h3, h4, h5⟩ | ⟨h1, h2, h3, h4, h5, h6⟩
      all_goals
        go_wp2_with (go_at_call 13; refine (awake_any _).mono ?_; rintro e w99 ⟨rfl, b99⟩)
        go_ret
        exact ⟨rfl, bThen te b99⟩

theorem loses_any (w : World) (cs : Value) (l : List Cn) (hcs : ArgC w cs l) (ms : Value) (l2 : List Cn) (hms : ArgC w ms l2) (vo : Value) (o : OpA) (ho : ArgO w vo o) (i : Int) (hi : I64 i) (j : Int) (hj : I64 j) :
    Calls Try.prog 7 #[cs, ms, vo, .int .i64 i, .int .i64 j] w fun e w' => e = .returned (.bool true) ∧ Below w.heap.size w w' := by
  cases he : (zwith znew (smallL l)).e with
  | true => exact loses_void w cs l hcs ms vo o ho i j he
  | false => exact loses_zone w cs l hcs ms l2 hms vo o ho i hi j hj he

set_option maxRecDepth 100000 in
theorem zoneLoses_lifted (os : Os) (started : os.Started) (H : Type) (enc : TypeId × Value → H) :
    ReturnsInHanded {} Try.checked os 7 .any (Rows.zoneLosesSpec.pre6 enc Try.prog Try.f7 Rows.zoneLosesRow.domain false) (Rows.zoneLosesSpec.post enc Try.prog Try.f7 false true false false) := by
  refine returnsInHanded_of_change_sized (C := Try.checked) own started (by kernel_rfl) Try.func7
    (ChangeSpec.witness6 (enc := enc) (C := Try.checked) false ⟨#[], #[.slice none 0 0, .slice none 0 0, .agg #[.int .i64 0, .int .i64 0, .int .i64 0, .int .i64 0, .int .i64 0, .int .i64 0, .slice none 0 0, .slice none 0 0, .slice none 0 0, .slice none 0 0], .int .i64 0, .int .i64 0], []⟩ 8 (by kernel_rfl) (by kernel_rfl) (by kernel_rfl) (by kernel_rfl)) ?_
  intro W base args ds gs before hval0 hW hcnd hsz _
  have hval : ∀ (j : Nat) t v, Try.f7.params[j]? = some t → args[j]? = some v → Value.okWide Try.prog W .any base t v := hval0
  have hW' := hW
  obtain ⟨p, q, hA0, hV, rfl, hfz, hnd⟩ := hW
  have hA : DataW.TrodAll enc Try.prog W 0 (fun _ => true) true Try.f7.params.toList args.toList ds p := hA0
  rw [Try.params7] at hA hval hsz
  obtain ⟨v0, vs0, d0, ds0, p0, q0, hargs, rfl, rfl, h0, r0⟩ := trodAll_cons hA
  obtain ⟨v1, vs1, d1, ds1, p1, q1, rfl, rfl, rfl, h1, r1⟩ := trodAll_cons r0
  obtain ⟨v2, vs2, d2, ds2, p2, q2, rfl, rfl, rfl, h2, r2⟩ := trodAll_cons r1
  obtain ⟨v3, vs3, d3, ds3, p3, q3, rfl, rfl, rfl, h3, r3⟩ := trodAll_cons r2
  obtain ⟨v4, vs4, d4, ds4, p4, q4, rfl, rfl, rfl, h4, r4⟩ := trodAll_cons r3
  obtain ⟨rfl, rfl, rfl⟩ := trodAll_nil r4
  obtain rfl : args = #[v0, v1, v2, v3, v4] := by cases args; simp_all
  obtain ⟨rfl, rfl⟩ := trodVars_none hV
  have k0 := h0
  have lt0 : ∀ x ∈ p0, x.block < W.heap.size := by obtain ⟨m, hm⟩ := k0; exact DataW.trod_lt m _ _ _ hm
  obtain ⟨a0, len0, cap0, rfl⟩ := okWide_slice Try.underlying35 (hval 0 35 v0 rfl rfl)
  obtain ⟨l0, g0⟩ : ∃ l, ArgC W (.slice a0 len0 cap0) l := by
    obtain ⟨fuel, hf⟩ := h0
    refine open_rcons (x := (d0, p0)) (by simpa [Value.cells] using hf) (fun e s hd => ?_)
    have hs := sized_slice hsz (j := 0) (t := 35) (elems := e) (spare := s) rfl (by simp only at hd; rw [hd]; rfl) Try.underlying35
    rw [show Try.checked.prog.bytesOf 72 = 24 by kernel_rfl] at hs
    exact Nat.le_trans hs (by decide)
  have k1 := h1
  have lt1 : ∀ x ∈ p1, x.block < W.heap.size := by obtain ⟨m, hm⟩ := k1; exact DataW.trod_lt m _ _ _ hm
  obtain ⟨a1, len1, cap1, rfl⟩ := okWide_slice Try.underlying35 (hval 1 35 v1 rfl rfl)
  obtain ⟨l1, g1⟩ : ∃ l, ArgC W (.slice a1 len1 cap1) l := by
    obtain ⟨fuel, hf⟩ := h1
    refine open_rcons (x := (d1, p1)) (by simpa [Value.cells] using hf) (fun e s hd => ?_)
    have hs := sized_slice hsz (j := 1) (t := 35) (elems := e) (spare := s) rfl (by simp only at hd; rw [hd]; rfl) Try.underlying35
    rw [show Try.checked.prog.bytesOf 72 = 24 by kernel_rfl] at hs
    exact Nat.le_trans hs (by decide)
  have k2 := h2
  have lt2 : ∀ x ∈ p2, x.block < W.heap.size := by obtain ⟨m, hm⟩ := k2; exact DataW.trod_lt m _ _ _ hm
  obtain ⟨o2, g2⟩ : ∃ o, ArgO W v2 o := open_op (hval 2 56 v2 rfl rfl) h2 (fun n hn => Nat.le_trans (of_decide_eq_true (List.all_eq_true.1 hsz n (DataW.weights_mem_each (j := 2) (t := 56) rfl rfl n hn))) (by decide))
  have k3 := h3
  have lt3 : ∀ x ∈ p3, x.block < W.heap.size := by obtain ⟨m, hm⟩ := k3; exact DataW.trod_lt m _ _ _ hm
  obtain ⟨n3, rfl, rfl, rfl, w3⟩ := open_int Try.underlying3 (hval 3 3 v3 rfl rfl) h3
  have k4 := h4
  have lt4 : ∀ x ∈ p4, x.block < W.heap.size := by obtain ⟨m, hm⟩ := k4; exact DataW.trod_lt m _ _ _ hm
  obtain ⟨n4, rfl, rfl, rfl, w4⟩ := open_int Try.underlying3 (hval 4 3 v4 rfl rfl) h4
  clear hA0 hval0 hval hfz hnd hcnd hA
  refine (loses_any W _ l0 g0 _ l1 g1 _ o2 g2 n3 (i64_of_wf w3) n4 (i64_of_wf w4)).mono fun e W' ⟨he, bel⟩ => ?_
  subst he
  exact ⟨_, rfl, _, _, _, [], _, [], hW', trodAll_mk1 (shut_bool Try.underlying4 _), (trodAll_cons_mk (Below.trod laidOut (by kernel_rfl) (of_decide_eq_true (by kernel_rfl)) k0 bel lt0) (trodAll_cons_mk (Below.trod laidOut (by kernel_rfl) (of_decide_eq_true (by kernel_rfl)) k1 bel lt1) (trodAll_cons_mk (Below.trod laidOut (by kernel_rfl) (of_decide_eq_true (by kernel_rfl)) k2 bel lt2) (trodAll_cons_mk (Below.trod laidOut (by kernel_rfl) (of_decide_eq_true (by kernel_rfl)) k3 bel lt3) (trodAll_cons_mk (Below.trod laidOut (by kernel_rfl) (of_decide_eq_true (by kernel_rfl)) k4 bel lt4) trodAll_mk0))))), rfl, bel.frame _, fun h => by cases h⟩

theorem ZoneLoses_holds : Rows.ZoneLosesSaid :=
  OpenClaim.holds_of_wide 7 Try.f7 rfl rfl rfl rfl rfl rfl rfl ⟨rfl, rfl, rfl, rfl, rfl⟩ rfl rfl rfl rfl rfl (by kernel_rfl) Try.func7 (by kernel_rfl)
    (of_decide_eq_true (by kernel_rfl)) (by unfold Func.isWrapper; rw [if_neg (of_decide_eq_false (by kernel_rfl))]; exact ⟨rfl, rfl⟩)
    (fun os started H enc _ => zoneLoses_lifted os started H enc)
#print axioms ZoneLoses_holds

end Go.Proofs.YtfpbjjdlchplnaaR
