/- ZoneKept returns true for every input; nothing that was there is turned. -/
import Derived.Test.YtfpbjjdlchplnaaRKeptP
import Derived.Test.YtfpbjjdlchplnaaRIs
import Derived.Test.YtfpbjjdlchplnaaRROne
import Derived.Test.YtfpbjjdlchplnaaRArgO
import Derived.Test.YtfpbjjdlchplnaaRAwake
import Derived.Test.YtfpbjjdlchplnaaRWrong
import Derived.Test.YtfpbjjdlchplnaaRJoin
import Derived.Test.YtfpbjjdlchplnaaRFrame
import Derived.Deep.DeepCutAuto
import Derived.Deep.CutBlock
import Derived.Deep.RegionHeld3
import Derived.IntWalk
import Derived.ArgAppend
namespace Go.Proofs.YtfpbjjdlchplnaaR
open Go Go.RowKit Go.Wr
open Go.ChangeShapes Go.WideShapes Go.ChangeAt
set_option maxHeartbeats 8000000
set_option maxRecDepth 100000

theorem kept_bad (w : World) (cs : Value) (l : List Cn) (hcs : ArgC w cs l) (vs : Value) (vo : Value) (o : OpA) (ho : ArgO w vo o) (hw : wrongL l ≠ 0) :
    Calls Try.prog 12 #[cs, vs, vo] w fun e w' => e = .returned (.bool true) ∧ Below w.heap.size w w' := by
  have HC := Lib.hid hcs
  have hln : l.length * 24 ≤ 140737488351232 := hcs.2.1
  obtain ⟨c, HCw⟩ : ∃ c, Hid (c = wrongL l) := ⟨_, rfl⟩
  have HW : Hid (wrongL l ≠ 0) := hw
  have hq : (c != 0) = true := by rw [HCw.out, bne_iff_ne]; exact hw
  obtain ⟨rfl, _⟩ := ho
  clear hcs hw
  go_enter Try.func12, Try.ntmps12
  go_wp2_with fail
  have t0 : Below w.heap.size w _ := bAl (bRefl w) (.cells #[.int .i64 o.kind, .int .i64 o.z, .int .i64 o.o, .int .i64 o.x, .int .i64 o.y, .int .i64 o.c, o.sv, o.sc, o.su, o.sd] 56)
  refine (rwrong_any _ _ l (Sl3.below HC.out.1 t0)).mono ?_
  rintro e w1 ⟨rfl, b1⟩
  rw [← HCw.out]
  have t1 := bThen t0 b1
  clear b1 t0
  go_wp2_with fail
  refine (roomy_any _ _ l (Sl3.below HC.out.1 t1) hln).mono ?_
  rintro e w2 ⟨g, cap, rfl, o2, b2⟩
  have t2 := bThen t1 b2
  have O2 := Lib.hid o2
  have HP2 := Lib.hid (Sl3.pre o2 (by rw [marks_len]) (by omega))
  clear o2
  go_wp2_with fail
  refine (new_any _).mono ?_
  rintro e w3 ⟨p3, rfl, z3, b3⟩
  clear z3
  go_wp2_with fail
  refine (with_bad _ _ _ l (Sl3.below HP2.out b3) HW.out).mono ?_
  rintro e w4 ⟨rfl, b4⟩
  rw [← HCw.out]
  have t4 := bThen b3 b4
  go_wp2_with fail
  refine (close_bad _ _ l (Sl3.below HP2.out t4) HW.out).mono ?_
  rintro e w5 ⟨rfl, b5⟩
  rw [← HCw.out]
  have t5 := bThen t4 b5
  go_wp2_with fail
  refine (left_any _ w1.heap.size g cap _ l (Sl3.below HC.out.1 (bThen t2 t5)) hln (ownsRow_below O2.out t5)).mono ?_
  rintro e w6 ⟨rfl, b6⟩
  go_wp2_with (go_at_call 13; refine (awake_any _).mono ?_; rintro e w99 ⟨rfl, b99⟩)
  go_ret
  exact ⟨rfl, bThen (bThen (bThen t2 t5) b6) b99⟩

theorem kept_ok (w : World) (cs : Value) (l : List Cn) (hcs : ArgC w cs l) (vs : Value) (zs : List Int) (hvs : ArgI w vs zs) (hnz : NilZ vs) (vo : Value) (o : OpA) (ho : ArgO w vo o) (hw : wrongL l = 0) :
    Calls Try.prog 12 #[cs, vs, vo] w fun e w' => e = .returned (.bool true) ∧ Below w.heap.size w w' := by
  have HC := Lib.hid hcs
  have hln : l.length * 24 ≤ 140737488351232 := hcs.2.1
  have HW := Lib.hid hw
  obtain ⟨Z, HZ⟩ : ∃ Z, Hid (Z = zwith znew l) := ⟨_, rfl⟩
  have HR : Hid (Rng Z.m) := by show Rng Z.m; rw [HZ.out]; exact zwith_rng topT_rng
  have HD : Hid (Dg Z) := by show Dg Z; rw [HZ.out]; exact zwith_dg dg_new
  have HV : Hid (Vd Z) := by show Vd Z; rw [HZ.out]; exact zwith_vd vd_new
  have HVS := Lib.hid hvs
  have HNZ := Lib.hid hnz
  have hzl : zs.length * 8 ≤ 140737488351232 := hvs.2.1
  obtain ⟨av, cv, rfl, hzm, _⟩ := hvs.1
  obtain ⟨ok, oz, oo, ox, oy, oc, sv, sc, su, sd, ovs, ocs, up, dn⟩ := o
  obtain ⟨rfl, _, _, _, _, hup, hdn⟩ := ho
  simp only at hup hdn
  have HUP := Lib.hid hup
  have HDN := Lib.hid hdn
  clear hcs hw hvs hnz hup hdn
  go_enter Try.func12, Try.ntmps12
  go_wp2_with fail
  have t0 : Below w.heap.size w _ := bAl (bRefl w) (.cells #[.int .i64 ok, .int .i64 oz, .int .i64 oo, .int .i64 ox, .int .i64 oy, .int .i64 oc, sv, sc, su, sd] 56)
  have X0 := Lib.hid (Blk.new w 56 #[.int .i64 ok, .int .i64 oz, .int .i64 oo, .int .i64 ox, .int .i64 oy, .int .i64 oc, sv, sc, su, sd])
  refine (rwrong_any _ _ l (Sl3.below HC.out.1 t0)).mono ?_
  rintro e w1 ⟨rfl, b1⟩
  rw [HW.out]
  have t1 := bThen t0 b1
  have X1 := Lib.hid (X0.out.below b1 X0.out.lt)
  clear b1 t0 X0
  go_wp2_with fail
  refine (roomy_any _ _ l (Sl3.below HC.out.1 t1) hln).mono ?_
  rintro e w2 ⟨g, cap, rfl, o2, b2⟩
  have t2 := bThen t1 b2
  have O2 := Lib.hid o2
  have HP2 := Lib.hid (Sl3.pre o2 (by rw [marks_len]) (by omega))
  have X2 := Lib.hid (X1.out.below b2 X1.out.lt)
  have hg1 : w.heap.size ≤ g := by
    have := (o2.lt g rfl).1
    have := t1.size
    omega
  clear o2 b2 t1 X1
  go_wp2_with fail
  refine (new_any _).mono ?_
  rintro e w3 ⟨p3, rfl, z3, b3⟩
  go_wp2_with fail
  refine (with_ok _ p3 znew z3 topT_rng _ l (Sl3.below HP2.out b3) HW.out).mono ?_
  rintro e w4 ⟨p4, rfl, z4, b4⟩
  rw [← HZ.out] at z4
  have t4 := bThen b3 b4
  have Z4 := Lib.hid z4
  clear z3 z4 b3 b4
  go_wp2_with fail
  refine (close_ok _ _ l (Sl3.below HP2.out t4) HW.out).mono ?_
  rintro e w5 ⟨p5, rfl, y5, b5⟩
  have t5 := bThen t4 b5
  have Z5 := Lib.hid (Z4.out.below b5 Z4.out.lt)
  have Y5 := Lib.hid y5
  have O5 := Lib.hid (ownsRow_below O2.out t5)
  clear y5 b5 t4 Z4
  go_wp2_with fail
  refine (left_any _ w1.heap.size g cap _ l (Sl3.below HC.out.1 (bThen t2 t5)) hln O5.out).mono ?_
  rintro e w6 ⟨rfl, b6⟩
  have t6 := bThen (bThen t2 t5) b6
  have Z6 := Lib.hid (Z5.out.below b6 Z5.out.lt)
  have Y6 := Lib.hid (Y5.out.below b6 Y5.out.lt)
  have X6 := Lib.hid (X2.out.below (bThen t5 b6) X2.out.lt)
  have O6 := Lib.hid (ownsRow_below O5.out b6)
  clear t5 b6 t2 Z5 Y5 O2 O5 HP2 X2
  go_wp2_with fail
  refine (rtop_any _).mono ?_
  rintro e w7 ⟨rfl, b7⟩
  have t7 := bThen t6 b7
  have Z7 := Lib.hid (Z6.out.below b7 Z6.out.lt)
  have Y7 := Lib.hid (Y6.out.below b7 Y6.out.lt)
  have X7 := Lib.hid (X6.out.below b7 X6.out.lt)
  have O7 := Lib.hid (ownsRow_below O6.out b7)
  clear t6 b7 Z6 Y6 O6 X6
  go_wp2_with fail
  refine (rwith_ok _ znew topT_rng dg_new _ l (Sl3.below HC.out.1 t7) HW.out).mono ?_
  rintro e w8 ⟨rfl, b8⟩
  rw [← HZ.out]
  have t8 := bThen t7 b8
  have Z8 := Lib.hid (Z7.out.below b8 Z7.out.lt)
  have Y8 := Lib.hid (Y7.out.below b8 Y7.out.lt)
  have X8 := Lib.hid (X7.out.below b8 X7.out.lt)
  have O8 := Lib.hid (ownsRow_below O7.out b8)
  have hz := zeroRZ
  clear t7 b8 Z7 Y7 O7 X7
  go_upto_region 10 with (refine wpl_store rfl 50 (.tmp 14) (.tmp 68) rfl w8.heap.size 0 rfl (D := zcells Z.e Z.m) rfl (Blk.new_at 50 (zcells false fun _ _ => 0) (by simp)) rowRZ (zcells_size _ _) (by rw [zcells_size]; omega) (zcells_one _ _) ?_; intro w9 ho9 hb9)
  have s8 := t8.size
  have q1 := Z8.out.lt
  have q2 := Y8.out.lt
  have q3 := X8.out.lt
  have t9 := (bAl t8 _).trans (ho9.below s8)
  have Z9 : Hid (ZAt w9 p4 Z) := ho9.blk (Blk.alloc Z8.out _) (by omega)
  have Y9 : Hid (ZAt w9 p5 (closeZ l)) := ho9.blk (Blk.alloc Y8.out _) (by omega)
  have X9 := Lib.hid (ho9.blk (Blk.alloc X8.out _) (by omega))
  have R9 := Lib.hid (hb9.eq (spl_all _ _ (by rw [zcells_size, zcells_size])))
  have O9 : Hid (w9.ownsRow w1.heap.size 34 3 (.slice (some ⟨g, 0, none⟩) (l.length + 70) cap) (l.length + 70) (conCells (l ++ marks 70))) := by
    have hlt := (O8.out.lt g rfl).2
    refine ⟨O8.out.1, ?_⟩
    rcases O8.out.2 with h | ⟨g', cap', cur, e, hg, hh, r⟩
    · exact Or.inl h
    · injection e with e1 e2 e3
      injection e1 with e1
      injection e1 with e1
      subst e1
      have hb : Blk w8 g 34 cur := hh
      exact Or.inr ⟨g, cap', cur, by rw [e3], hg, ho9.blk (Blk.alloc hb _) (by omega), r⟩
  obtain ⟨r, HRr⟩ : ∃ r, Hid (r = w8.heap.size) := ⟨_, rfl⟩
  have R9' : Hid (Blk w9 r 50 (zcells Z.e Z.m)) := by show Blk w9 r _ _; rw [HRr.out]; exact R9.out
  rw [← HRr.out]
  clear ho9 hb9 hz t8 Z8 Y8 X8 O8 s8 q1 q2 q3 R9 HRr
  obtain ⟨cur, hcur, hle, hcap, hsz⟩ : ∃ cur, Blk w9 g 34 cur ∧ l.length + 70 ≤ cap ∧ cap ≤ 9223372036854775807 ∧ cur.size = cap * 3 := by
    rcases O9.out.2 with ⟨h, _⟩ | ⟨g', cap', cur, e, hg, hh, h1, h2, h3, _⟩
    · cases h
    · injection e with e1 e2 e3
      injection e1 with e1
      injection e1 with e1
      subst e1 e3
      unfold maxLen at h2
      exact ⟨cur, hh, h1, by omega, h3⟩
  go_upto_block 0 with (fail)
  go_cut [15] (fun _ wc => Only g w9 wc)
  case first =>
    as_aux_lemma =>
    go_wp2
    go_loopw [15] (fun t wr => ∃ (k : Nat) (C : Array Value), k ≤ l.length + 70 ∧ t = .int .i64 k ∧ Blk wr g 34 C ∧ C.size = cap * 3 ∧ Only g w9 wr) (fun t _ => l.length + 70 - (intOf t).toNat)
    case atStart => exact ⟨0, cur, by omega, rfl, hcur, hsz, Only.refl _ _⟩
    case round =>
      obtain ⟨k, C, hk, rfl, hb, hC, hon⟩ := hrel
      by_cases hlt : k < l.length + 70
      · have hlt' : (k : Int) < ((l.length + 70 : Nat) : Int) := by omega
        obtain ⟨v0, e0⟩ : ∃ v, C[k * 3]? = some v := ⟨_, Array.getElem?_eq_getElem (by omega)⟩
        obtain ⟨v1, e1⟩ : ∃ v, C[k * 3 + 1]? = some v := ⟨_, Array.getElem?_eq_getElem (by omega)⟩
        obtain ⟨v2, e2⟩ : ∃ v, C[k * 3 + 2]? = some v := ⟨_, Array.getElem?_eq_getElem (by omega)⟩
        have c0 := (hb.cell (k * 3)).trans e0
        have c1 := (hb.cell (k * 3 + 1)).trans e1
        have c2 := (hb.cell (k * 3 + 2)).trans e2
        have f0 := hb.frozen (k * 3)
        have f1 := hb.frozen (k * 3 + 1)
        have f2 := hb.frozen (k * 3 + 2)
        have hlb := hb.lt
        have Hb := Lib.hid hb
        have HCs := Lib.hid hC
        clear hb hC e0 e1 e2
        go_wp2
        go_roundw
        case rel => exact ⟨k + 1, _, by omega, by go_num, ((Hb.out.set _ _).set _ _).set _ _, by simp only [Array.size_setIfInBounds]; exact HCs.out, ((hon.trans (Only.setCell _ _ _ _)).trans (Only.setCell _ _ _ _)).trans (Only.setCell _ _ _ _)⟩
        case measure => simp [intOf]; omega
      · obtain rfl : k = l.length + 70 := by omega
        go_wp2
        go_meet
        exact hon
  case rest =>
    as_aux_lemma =>
    have ta := t9.trans (hcut.below hg1)
    have nz : p4 ≠ g := Blk.ne Z9.out hcur (by decide)
    have ny : p5 ≠ g := Blk.ne Y9.out hcur (by decide)
    have nx : w.heap.size ≠ g := Blk.ne X9.out hcur (by decide)
    have nr : r ≠ g := Blk.ne R9'.out hcur (by decide)
    have ZA : Hid (ZAt wc p4 Z) := hcut.blk Z9.out nz
    have YA : Hid (ZAt wc p5 (closeZ l)) := hcut.blk Y9.out ny
    have XA := Lib.hid (hcut.blk X9.out nx)
    have RA := Lib.hid (hcut.blk R9'.out nr)
    clear hcut t9 Z9 Y9 X9 R9' O9 hcur hsz nz ny nx nr
    go_wp2_with fail
    refine (copy_own _ _ zs (SlI.below HVS.out.1 ta) HNZ.out (by omega)).mono ?_
    rintro e wb ⟨vb, rfl, ob, bb⟩
    have OB := Lib.hid ob
    obtain ⟨i, hi, hz0, hz1, hz2⟩ := info_parts infoI
    have sa := ta.size
    have sb := bb.size
    clear ob
    go_upto_region 15 with (at_builtin; refine wpList_append_own _ rfl _ _ _ rfl wc.heap.size 3 i _ 1 8 Try.underlying36 hi hz0 hz1 hz2 rfl (by omega) vb zs.length (intCells zs) rfl (OB.out.alloc _) ⟨wb.heap.size, 0, none⟩ 1 1 [.int .i64 (-3)] rfl rfl (newsBlk (Blk.new wb 3 #[.int .i64 (-3)])) (by simp [Value.oneCell']) (by unfold maxLen; omega) (by omega) (by simp; omega) ?_; intro ve we owne growe nile)
    have be : Below wc.heap.size wc we := (bb.alloc sb _).grown growe (by simp; omega) (fun g hg => (OB.out.lt g hg).1)
    have te := bThen ta be
    have ZE := Lib.hid (ZA.out.below be ZA.out.lt)
    have YE := Lib.hid (YA.out.below be YA.out.lt)
    have XE := Lib.hid (XA.out.below be XA.out.lt)
    have RE := Lib.hid (RA.out.below be RA.out.lt)
    obtain ⟨g2, cap2, rfl, hle2, hcap2⟩ : ∃ g2 cap2, ve = .slice (some ⟨g2, 0, none⟩) (zs.length + 1) cap2 ∧ zs.length + 1 ≤ cap2 ∧ cap2 ≤ 9223372036854775807 := by
      rcases owne.2 with ⟨_, h0⟩ | ⟨g', cap', cur', e, hg, hh, h1, h2, _⟩
      · omega
      · unfold maxLen at h2
        exact ⟨g', cap', e, h1, by omega⟩
    have SE := Lib.hid (SlI.pre (l := zs) (r := [-3]) owne rfl (by omega))
    have HG : Hid (we.cell? ⟨g2, zs.length, none⟩ = some (.int .i64 (-3))) := (owne.cellAt zs.length (by omega)).trans (by
      have hlen : (intCells zs).length = zs.length := by unfold intCells; simp
      rw [List.getElem?_append_right (by omega), hlen, Nat.sub_self]
      rfl)
    have HG2 := Lib.hid (owne.lt g2 rfl).2
    clear owne growe nile be bb OB ta ZA YA XA RA hi hz0 hz1 hz2 sa sb
    go_wp2_with fail
    refine (forget_any _ p4 Z ZE.out _ zs SE.out).mono ?_
    rintro e wf ⟨pf, rfl, _, bf⟩
    have XF := Lib.hid (XE.out.below bf XE.out.lt)
    have e3 : wf.cell? ⟨w.heap.size, 3, none⟩ = some (.int .i64 ox) := XF.out.cell 3
    have e4 : wf.cell? ⟨w.heap.size, 4, none⟩ = some (.int .i64 oy) := XF.out.cell 4
    have e5 : wf.cell? ⟨w.heap.size, 5, none⟩ = some (.int .i64 oc) := XF.out.cell 5
    go_wp2_with fail
    clear e3 e4 e5
    refine ((assign_any _ p4 Z (ZE.out.below bf ZE.out.lt) HR.out ox oy oc).mono fun _ _ h => h.any).mono ?_
    rintro e wg ⟨v', rfl, bg⟩
    have bG := bThen bf bg
    have tg := bThen te bG
    have XG := Lib.hid (XE.out.below bG XE.out.lt)
    have ZG := Lib.hid (ZE.out.below bG ZE.out.lt)
    have e3 : wg.cell? ⟨w.heap.size, 3, none⟩ = some (.int .i64 ox) := XG.out.cell 3
    have e8 : wg.cell? ⟨w.heap.size, 8, none⟩ = some su := XG.out.cell 8
    have e9 : wg.cell? ⟨w.heap.size, 9, none⟩ = some sd := XG.out.cell 9
    have hu16 : up.length * 16 ≤ 140737488355328 := by have := HUP.out.2.1; omega
    have hd16 : dn.length * 16 ≤ 140737488355328 := by have := HDN.out.2.1; omega
    clear bf bg XF
    go_upto_region 17 with (fail)
    go_region_held3 (fun w' => w'.cell? ⟨w.heap.size, 3, none⟩ = some (.int .i64 ox) ∧ w'.cell? ⟨w.heap.size, 8, none⟩ = some su ∧ w'.cell? ⟨w.heap.size, 9, none⟩ = some sd) (go_keep)
      (first
        | (go_at_call_of 50 su; refine (lbounds_any wg.drew _ up (SlB.below HUP.out.1 tg.drew) hu16).mono ?_; rintro e y1 ⟨u1, rfl, S1, c1⟩; have X1 := Lib.hid ((Blk.drew XG.out).below c1 XG.out.lt); have s3 : y1.cell? ⟨w.heap.size, 3, none⟩ = some (.int .i64 ox) := X1.out.cell 3; have s8 : y1.cell? ⟨w.heap.size, 8, none⟩ = some su := X1.out.cell 8; have s9 : y1.cell? ⟨w.heap.size, 9, none⟩ = some sd := X1.out.cell 9)
        | (go_at_call_of 50 sd; refine (lbounds_any y1 _ dn (SlB.below HDN.out.1 (bThen tg.drew c1)) hd16).mono ?_; rintro e y2 ⟨u2, rfl, S2, c2⟩; have X2 := Lib.hid (X1.out.below c2 X1.out.lt); have s3 : y2.cell? ⟨w.heap.size, 3, none⟩ = some (.int .i64 ox) := X2.out.cell 3; have s8 : y2.cell? ⟨w.heap.size, 8, none⟩ = some su := X2.out.cell 8; have s9 : y2.cell? ⟨w.heap.size, 9, none⟩ = some sd := X2.out.cell 9)
        | (go_at_call 43; refine ((put_any y2 p4 Z (ZAt.below (Blk.drew ZG.out) (bThen c1 c2) ZG.out.lt) HR.out ox u1 up (SlB.below S1 c2) u2 dn S2).mono fun _ _ h => h.any).mono ?_; rintro e y3 ⟨v3, rfl, c3⟩; have X3 := Lib.hid (X2.out.below c3 X2.out.lt); have s3 : y3.cell? ⟨w.heap.size, 3, none⟩ = some (.int .i64 ox) := X3.out.cell 3; have s8 : y3.cell? ⟨w.heap.size, 8, none⟩ = some su := X3.out.cell 8; have s9 : y3.cell? ⟨w.heap.size, 9, none⟩ = some sd := X3.out.cell 9))
    have bH := bThen (bThen bG.drew c1) (bThen c2 c3)
    clear c1 c2 c3 S1 S2 X1 X2 X3 XG ZG bG tg XE e3 e8 e9
    go_wp2_with fail
    refine (join_any _ p4 p5 Z (closeZ l) (ZE.out.below bH ZE.out.lt) (YE.out.below bH YE.out.lt)).mono ?_
    rintro e wi ⟨pi, rfl, _, bi⟩
    have bI := bThen bH bi
    go_wp2_with fail
    refine (widen_any _ p4 p5 Z (closeZ l) (ZE.out.below bI ZE.out.lt) (YE.out.below bI YE.out.lt)).mono ?_
    rintro e wj ⟨pj, rfl, _, bj⟩
    have bJ := bThen bI bj
    have ZJ := Lib.hid (ZE.out.below bJ ZE.out.lt)
    go_wp2_with fail
    refine (with_ok _ p4 Z (Blk.alloc ZJ.out _) HR.out _ [⟨3, 0, 1⟩] (Sl3.lit (Blk.new _ _ _) [⟨3, 0, 1⟩] 1 1 rfl rfl (by simp)) (by decide +kernel)).mono ?_
    rintro e wk ⟨pk, rfl, _, bk⟩
    have bK := bThen (bAl bJ _) bk
    have tK := bThen te bK
    have ZK := Lib.hid (ZE.out.below bK ZE.out.lt)
    have RK := Lib.hid (RE.out.below bK RE.out.lt)
    have eg : wk.cell? ⟨g2, zs.length, none⟩ = some (.int .i64 (-3)) := (bK.cell (p := ⟨g2, zs.length, none⟩) HG2.out).trans HG.out
    have hlg : (zs.length : Int) < ((zs.length + 1 : Nat) : Int) := by omega
    clear bi bj bk bI bJ bH ZJ
    go_wp2_with fail
    clear eg hlg bK te ZE YE RE SE HG HG2
    obtain ⟨L, HL⟩ : ∃ L, Hid (L = consL Z.m 60) := ⟨_, rfl⟩
    have hln2 : L.length ≤ 3600 := by rw [HL.out]; exact consL_len Z.m 60
    have HE : Hid (eqL L (rconsL Z.e Z.m) = true) := by show eqL L _ = true; rw [HL.out]; exact HV.out.same
    obtain ⟨n, HN⟩ : ∃ n, Hid (n = L.length) := ⟨_, rfl⟩
    have hn : n ≤ 3600 := by rw [HN.out]; exact hln2
    have hrc : (rconsL Z.e Z.m).length ≤ 3600 := by
      have := consL_len Z.m 60
      unfold rconsL
      split
      · exact Nat.zero_le _
      · omega
    refine (cons_any _ p4 Z ZK.out).mono ?_
    rintro e wl ⟨v17, rfl, n17, bl⟩
    rw [← HL.out] at n17
    have N17 := Lib.hid n17
    obtain ⟨a0, ga, hva, hBa, hnla, hlta, hcla⟩ := newCons_open n17 bl.size
    have RA : Hid (RowOf wl a0 ga n) := by show RowOf _ _ _ n; rw [HN.out]; exact ⟨hnla, hcla⟩
    rw [← HN.out] at hlta hva
    subst hva
    have HLTA := Lib.hid hlta
    have ZL := Lib.hid (ZK.out.below bl ZK.out.lt)
    have RL := Lib.hid (RK.out.below bl RK.out.lt)
    clear n17 hnla hcla hlta
    go_wp2_with fail
    refine (cons_any _ p4 Z ZL.out).mono ?_
    rintro e wm ⟨v18, rfl, n18, bm⟩
    rw [← HL.out] at n18
    have N18 := Lib.hid n18
    obtain ⟨b0, gb, hvb, hBb, hnlb, hltb, hclb⟩ := newCons_open n18 bm.size
    have RBb : Hid (RowOf wm b0 gb n) := by show RowOf _ _ _ n; rw [HN.out]; exact ⟨hnlb, hclb⟩
    rw [← HN.out] at hltb hvb
    subst hvb
    have HLTB := Lib.hid hltb
    have ZM := Lib.hid (ZL.out.below bm ZL.out.lt)
    have RM := Lib.hid (RL.out.below bm RL.out.lt)
    have hrlt := RM.out.lt
    clear n18 hnlb hclb hltb ZL RL ZK RK
    go_wp2_with (refine wpl_load rfl 50 (.tmp 14) rfl r 0 rfl RM.out rowRZ (by rw [zcells_size]; omega) (D := zcells Z.e Z.m) (zcells_extract _ _) ?_)
    refine (rcons_any _ Z.e Z.m HR.out).mono ?_
    rintro e wn ⟨v19, rfl, o19, bn⟩
    have O19 := Lib.hid o19
    have S19 := Lib.hid (Sl3.own o19 rfl (by omega))
    have bmn := bThen bm bn
    clear o19
    go_wp2_with fail
    refine (same_any _ _ v19 L _ ((N17.out.sl3 (by omega)).below bmn) S19.out).mono ?_
    rintro e wo ⟨rfl, bo⟩
    rw [HE.out]
    have bno := bThen bn bo
    go_wp2_with fail
    refine (same_any _ _ v19 L _ ((N18.out.sl3 (by omega)).below bno) (S19.out.below bo)).mono ?_
    rintro e wp ⟨rfl, bp⟩
    rw [HE.out]
    have bnp := bThen bno bp
    have tp := bThen tK (bThen bl (bThen bm bnp))
    have bwp := bThen bm bnp
    have ZP := Lib.hid (ZM.out.below bnp ZM.out.lt)
    have RP := Lib.hid (RM.out.below bnp RM.out.lt)
    have AP := Lib.hid (RA.out.below bwp)
    have BP := Lib.hid (RBb.out.below bnp)
    have NP := Lib.hid (newCons_below N18.out bnp (Nat.le_refl _))
    have OP := Lib.hid (ownsRow_below O19.out (bThen bo bp))
    have hs1 := bl.size
    have hs2 := bm.size
    have hs3 := tK.size
    have hga : 0 < n → ga < wl.heap.size := HLTA.out
    have HGA := Lib.hid hga
    clear bl bm bn bo bp bmn bno bnp bwp tK ZM RM RA RBb N17 N18 O19 S19 hga hrlt HLTA
    go_upto_block 2 with (fail)
    go_cut [20] (fun _ wq => Kp n ga wp wq ∧ RowOf wq a0 ga n)
    case first =>
      as_aux_lemma =>
      go_wp2
      go_loopw [20] (fun t wr => ∃ k : Nat, k ≤ n ∧ t = .int .i64 k ∧ Kp n ga wp wr ∧ RowOf wr a0 ga n) (fun t _ => n - (intOf t).toNat)
      case atStart => exact ⟨0, by omega, rfl, Kp.refl _ _ _, AP.out⟩
      case round =>
        obtain ⟨k, hk, rfl, hkp, hro⟩ := hrel
        by_cases hlt : k < n
        · have hlt' : (k : Int) < (n : Int) := by omega
          obtain rfl := hro.isSome (by omega)
          obtain ⟨_, C, hb, hC⟩ := hro.2 _ rfl
          obtain ⟨v0, e0⟩ : ∃ v, C[k * 3]? = some v := ⟨_, Array.getElem?_eq_getElem (by omega)⟩
          obtain ⟨v1, e1⟩ : ∃ v, C[k * 3 + 1]? = some v := ⟨_, Array.getElem?_eq_getElem (by omega)⟩
          obtain ⟨v2, e2⟩ : ∃ v, C[k * 3 + 2]? = some v := ⟨_, Array.getElem?_eq_getElem (by omega)⟩
          have c0 := (hb.cell (k * 3)).trans e0
          have c1 := (hb.cell (k * 3 + 1)).trans e1
          have c2 := (hb.cell (k * 3 + 2)).trans e2
          have f0 := hb.frozen (k * 3)
          have f1 := hb.frozen (k * 3 + 1)
          have f2 := hb.frozen (k * 3 + 2)
          have hlb := hb.lt
          have Hb := Lib.hid hb
          have HCs := Lib.hid hC
          clear hb hC e0 e1 e2 hro
          go_wp2
          go_roundw
          case rel => exact ⟨k + 1, by omega, by go_num, hkp.trans (Kp.of (by omega) (((Only.setCell _ _ _ _).trans (Only.setCell _ _ _ _)).trans (Only.setCell _ _ _ _))), (fun h => by cases h), fun a ha => ⟨(Option.some.inj ha).symm, _, ((Hb.out.set _ _).set _ _).set _ _, by simp only [Array.size_setIfInBounds]; exact HCs.out⟩⟩
          case measure => simp [intOf]; omega
        · obtain rfl : k = n := by omega
          go_wp2
          go_meet
          exact ⟨hkp, hro⟩
    case rest =>
      as_aux_lemma =>
      obtain ⟨wq, rfl⟩ : ∃ x : World, x = wc := ⟨_, rfl⟩
      obtain ⟨hk1, hr1⟩ := hcut
      have nz := AP.out.ne ZP.out (by decide)
      have nr := AP.out.ne RP.out (by decide)
      have nb : 0 < n → gb ≠ ga := fun h => by have := HGA.out h; omega
      have no : 0 < n → ga < wm.heap.size := fun h => by have := HGA.out h; omega
      have no2 : 0 < n → ga < wl.heap.size := HGA.out
      have ZQ : Hid (ZAt wq p4 Z) := hk1.blk ZP.out nz
      have RQ := Lib.hid (hk1.blk RP.out nr)
      have AQ := Lib.hid hr1
      have BQ := Lib.hid (BP.out.kp hk1 nb)
      have NQ := Lib.hid (newCons_kp NP.out hk1 no2)
      have OQ := Lib.hid (ownsRow_kp OP.out hk1 no)
      have tq := tp.trans (hk1.below (show w.heap.size ≤ ga by omega))
      clear hk1 hr1 nz nr nb no no2 ZP RP AP BP NP OP tp
      go_upto_block 4 with (fail)
      go_cut [17, 21] (fun u _ wr => Below wq.heap.size wq wr ∧ AppR wq.heap.size wr u a0 n 70)
      case first =>
        as_aux_lemma =>
        go_wp2
        go_loopw [17, 21] (fun u t wr => ∃ k : Nat, k ≤ 70 ∧ t = .int .i64 k ∧ Below wq.heap.size wq wr ∧ AppR wq.heap.size wr u a0 n k) (fun _ t _ => 70 - (intOf t).toNat)
        case atStart => exact ⟨0, by omega, rfl, bRefl _, Or.inl ⟨rfl, rfl⟩⟩
        case round =>
          obtain ⟨k, hk, rfl, hbel, happ⟩ := hrel
          by_cases hlt : k < 70
          · have hlt' : (k : Int) < 70 := by omega
            obtain ⟨i, hi, hz0, hz1, hz2⟩ := info_parts infoC
            have hsz := hbel.size
            rcases happ with ⟨rfl, rfl⟩ | ⟨xs, hown⟩
            · obtain ⟨olds, ho1, ho2⟩ := ((AQ.out.below hbel).alloc (.cells #[.int .i64 1, .int .i64 2, .int .i64 3] 34)).olds
              have HO := Lib.hid ho2
              have HN0 : Hid (a0 = none → n = 0 ∧ n = 0) := fun h => ⟨AQ.out.1 h, AQ.out.1 h⟩
              clear ho2
              go_wp2_with (at_builtin; refine wpList_append_grows _ rfl _ _ _ rfl 34 i _ 3 24 Try.underlying23 hi hz0 hz1 hz2 rfl (by omega) a0 n n olds rfl HN0.out ho1 HO.out ⟨wr.heap.size, 0, none⟩ 1 1 [.int .i64 1, .int .i64 2, .int .i64 3] rfl rfl (newsBlk (Blk.new wr 34 #[.int .i64 1, .int .i64 2, .int .i64 3])) (by simp [Value.oneCell']) (by omega) (by unfold maxLen; omega) (by omega) ?_; intro v' w' hown' hgrow)
              go_roundw
              case rel => exact ⟨0 + 1, by omega, by go_num, (hbel.alloc hsz _).grown hgrow (by simp; omega) (fun g hg => by cases hg), Or.inr ⟨_, own_mono (by simp; omega) hown'⟩⟩
              case measure => simp [intOf]
            · have Hown := Lib.hid hown
              clear hown
              go_wp2_with (at_builtin; refine wpList_append_own _ rfl _ _ _ rfl wq.heap.size 34 i _ 3 24 Try.underlying23 hi hz0 hz1 hz2 rfl (by omega) u17 (n + k) xs rfl (Hown.out.alloc _) ⟨wr.heap.size, 0, none⟩ 1 1 [.int .i64 1, .int .i64 2, .int .i64 3] rfl rfl (newsBlk (Blk.new wr 34 #[.int .i64 1, .int .i64 2, .int .i64 3])) (by simp [Value.oneCell']) (by unfold maxLen; omega) (by omega) (by simp; omega) ?_; intro v' w' hown' hgrow hnil)
              go_roundw
              case rel => exact ⟨k + 1, by omega, by go_num, (hbel.alloc hsz _).grown hgrow (by simp; omega) (fun g hg => (Hown.out.lt g hg).1), Or.inr ⟨_, by rw [← Nat.add_assoc]; exact hown'⟩⟩
              case measure => simp [intOf]; omega
          · obtain rfl : k = 70 := by omega
            go_wp2
            go_meet
            exact ⟨hbel, happ⟩
      case rest =>
        as_aux_lemma =>
        obtain ⟨wr, rfl⟩ : ∃ x : World, x = wc := ⟨_, rfl⟩
        obtain ⟨hbel2, happ⟩ := hcut
        obtain ⟨g9, cap9, rfl⟩ : ∃ g9 cap9, u17 = .slice (some ⟨g9, 0, none⟩) (n + 70) cap9 := by
          rcases happ with ⟨h, _⟩ | ⟨xs, _, ⟨_, h⟩ | ⟨g, cap, cur, e, _⟩⟩
          · omega
          · omega
          · exact ⟨g, cap, e⟩
        have ZR := Lib.hid (ZQ.out.below hbel2 ZQ.out.lt)
        have RR := Lib.hid (RQ.out.below hbel2 RQ.out.lt)
        have BR := Lib.hid (BQ.out.below hbel2)
        have NR := Lib.hid (newCons_below NQ.out hbel2 (Nat.le_refl _))
        have OR := Lib.hid (ownsRow_below OQ.out hbel2)
        have tr := bThen tq hbel2
        have hq : (((n + 70 : Nat) : Int) != (n : Int) + 70) = false := by rw [bne_eq_false_iff_eq]; omega
        clear hbel2 happ ZQ RQ BQ NQ OQ tq AQ
        go_wp2_with fail
        refine (same_any _ _ v19 L _ (NR.out.sl3 (by omega)) (Sl3.own OR.out rfl (by omega))).mono ?_
        rintro e ws ⟨rfl, bs⟩
        rw [HE.out]
        have ZS := Lib.hid (ZR.out.below bs ZR.out.lt)
        have RS := Lib.hid (RR.out.below bs RR.out.lt)
        have BS := Lib.hid (BR.out.below bs)
        have ts := bThen tr bs
        clear bs ZR RR BR NR OR tr
        go_upto_block 6 with (fail)
        go_cut [22] (fun _ wt => Kp n gb ws wt ∧ RowOf wt b0 gb n)
        case first =>
          as_aux_lemma =>
          go_wp2
          go_loopw [22] (fun t wr => ∃ k : Nat, k ≤ n ∧ t = .int .i64 k ∧ Kp n gb ws wr ∧ RowOf wr b0 gb n) (fun t _ => n - (intOf t).toNat)
          case atStart => exact ⟨0, by omega, rfl, Kp.refl _ _ _, BS.out⟩
          case round =>
            obtain ⟨k, hk, rfl, hkp, hro⟩ := hrel
            by_cases hlt : k < n
            · have hlt' : (k : Int) < (n : Int) := by omega
              obtain rfl := hro.isSome (by omega)
              obtain ⟨_, C, hb, hC⟩ := hro.2 _ rfl
              obtain ⟨v0, e0⟩ : ∃ v, C[k * 3]? = some v := ⟨_, Array.getElem?_eq_getElem (by omega)⟩
              obtain ⟨v1, e1⟩ : ∃ v, C[k * 3 + 1]? = some v := ⟨_, Array.getElem?_eq_getElem (by omega)⟩
              obtain ⟨v2, e2⟩ : ∃ v, C[k * 3 + 2]? = some v := ⟨_, Array.getElem?_eq_getElem (by omega)⟩
              have c0 := (hb.cell (k * 3)).trans e0
              have c1 := (hb.cell (k * 3 + 1)).trans e1
              have c2 := (hb.cell (k * 3 + 2)).trans e2
              have f0 := hb.frozen (k * 3)
              have f1 := hb.frozen (k * 3 + 1)
              have f2 := hb.frozen (k * 3 + 2)
              have hlb := hb.lt
              have Hb := Lib.hid hb
              have HCs := Lib.hid hC
              clear hb hC e0 e1 e2 hro
              go_wp2
              go_roundw
              case rel => exact ⟨k + 1, by omega, by go_num, hkp.trans (Kp.of (by omega) (((Only.setCell _ _ _ _).trans (Only.setCell _ _ _ _)).trans (Only.setCell _ _ _ _))), (fun h => by cases h), fun a ha => ⟨(Option.some.inj ha).symm, _, ((Hb.out.set _ _).set _ _).set _ _, by simp only [Array.size_setIfInBounds]; exact HCs.out⟩⟩
              case measure => simp [intOf]; omega
            · obtain rfl : k = n := by omega
              go_wp2
              go_meet
              exact ⟨hkp, hro⟩
        case rest =>
          obtain ⟨wt, rfl⟩ : ∃ x : World, x = wc := ⟨_, rfl⟩
          obtain ⟨hk2, hr2⟩ := hcut
          have nz := BS.out.ne ZS.out (by decide)
          have nr := BS.out.ne RS.out (by decide)
          have ZT : Hid (ZAt wt p4 Z) := hk2.blk ZS.out nz
          have RT := Lib.hid (hk2.blk RS.out nr)
          have tt := ts.trans (hk2.below (show w.heap.size ≤ gb by omega))
          clear hk2 hr2 nz nr ZS RS BS ts
          go_wp2_with (refine wpl_load rfl 50 (.tmp 14) rfl r 0 rfl RT.out rowRZ (by rw [zcells_size]; omega) (D := zcells Z.e Z.m) (zcells_extract _ _) ?_)
          refine (is_any _ p4 Z ZT.out HR.out HV.out).mono ?_
          rintro e wu ⟨rfl, bu⟩
          go_wp2_with (go_at_call 13; refine (awake_any _).mono ?_; rintro e w99 ⟨rfl, b99⟩)
          go_ret
          exact ⟨rfl, bThen (bThen tt bu) b99⟩

theorem kept_any (w : World) (cs : Value) (l : List Cn) (hcs : ArgC w cs l) (vs : Value) (zs : List Int) (hvs : ArgI w vs zs) (hnz : NilZ vs) (vo : Value) (o : OpA) (ho : ArgO w vo o) :
    Calls Try.prog 12 #[cs, vs, vo] w fun e w' => e = .returned (.bool true) ∧ Below w.heap.size w w' := by
  by_cases hw : wrongL l = 0
  · exact kept_ok w cs l hcs vs zs hvs hnz vo o ho hw
  · exact kept_bad w cs l hcs vs vo o ho hw

set_option maxRecDepth 100000 in
theorem zoneKept_lifted (os : Os) (started : os.Started) (H : Type) (enc : TypeId × Value → H) :
    ReturnsInHanded {} Try.checked os 12 .any (Rows.zoneKeptSpec.pre6 enc Try.prog Try.f12 Rows.zoneKeptRow.domain false) (Rows.zoneKeptSpec.post enc Try.prog Try.f12 false true false false) := by
  refine returnsInHanded_of_change_sized (C := Try.checked) own started (by kernel_rfl) Try.func12
    (ChangeSpec.witness6 (enc := enc) (C := Try.checked) false ⟨#[], #[.slice none 0 0, .slice none 0 0, .agg #[.int .i64 0, .int .i64 0, .int .i64 0, .int .i64 0, .int .i64 0, .int .i64 0, .slice none 0 0, .slice none 0 0, .slice none 0 0, .slice none 0 0]], []⟩ 8 (by kernel_rfl) (by kernel_rfl) (by kernel_rfl) (by kernel_rfl)) ?_
  intro W base args ds gs before hval0 hW hcnd hsz _
  have hval : ∀ (j : Nat) t v, Try.f12.params[j]? = some t → args[j]? = some v → Value.okWide Try.prog W .any base t v := hval0
  have hW' := hW
  obtain ⟨p, q, hA0, hV, rfl, hfz, hnd⟩ := hW
  have hA : DataW.TrodAll enc Try.prog W 0 (fun _ => true) true Try.f12.params.toList args.toList ds p := hA0
  rw [Try.params12] at hA hval hsz
  obtain ⟨v0, vs0, d0, ds0, p0, q0, hargs, rfl, rfl, h0, r0⟩ := trodAll_cons hA
  obtain ⟨v1, vs1, d1, ds1, p1, q1, rfl, rfl, rfl, h1, r1⟩ := trodAll_cons r0
  obtain ⟨v2, vs2, d2, ds2, p2, q2, rfl, rfl, rfl, h2, r2⟩ := trodAll_cons r1
  obtain ⟨rfl, rfl, rfl⟩ := trodAll_nil r2
  obtain rfl : args = #[v0, v1, v2] := by cases args; simp_all
  obtain ⟨rfl, rfl⟩ := trodVars_none hV
  have k0 := h0
  have lt0 : ∀ x ∈ p0, x.block < W.heap.size := by obtain ⟨m, hm⟩ := k0; exact DataW.trod_lt m _ _ _ hm
  obtain ⟨a0, len0, cap0, rfl⟩ := okWide_slice Try.underlying35 (hval 0 35 v0 rfl rfl)
  obtain ⟨l0, g0⟩ : ∃ l, ArgC W (.slice a0 len0 cap0) l := by
    obtain ⟨fuel, hf⟩ := h0
    refine open_rcons (x := (d0, p0)) (by simpa [Value.cells] using hf) (fun e s hd => ?_)
    have hs := sized_slice hsz (j := 0) (t := 35) (elems := e) (spare := s) rfl (by simp only at hd; rw [hd]; rfl) Try.underlying35
    rw [show Try.checked.prog.bytesOf 72 = 24 by kernel_rfl] at hs
    exact Nat.le_trans hs (by decide)
  have k1 := h1
  have lt1 : ∀ x ∈ p1, x.block < W.heap.size := by obtain ⟨m, hm⟩ := k1; exact DataW.trod_lt m _ _ _ hm
  obtain ⟨a1, len1, cap1, rfl⟩ := okWide_slice Try.underlying36 (hval 1 36 v1 rfl rfl)
  obtain ⟨l1, g1⟩ : ∃ l, ArgI W (.slice a1 len1 cap1) l := by
    obtain ⟨fuel, hf⟩ := h1
    refine open_ints (x := (d1, p1)) (by simpa [Value.cells] using hf) (fun e s hd => ?_)
    have hs := sized_slice hsz (j := 1) (t := 36) (elems := e) (spare := s) rfl (by simp only at hd; rw [hd]; rfl) Try.underlying36
    rw [show Try.checked.prog.bytesOf 3 = 8 by kernel_rfl] at hs
    exact Nat.le_trans hs (by decide)
  have z1 : NilZ (.slice a1 len1 cap1) := by obtain ⟨fuel, hf⟩ := k1; exact (slice_of_trod Try.underlying36 (by simpa [Value.cells] using hf)).2
  have k2 := h2
  have lt2 : ∀ x ∈ p2, x.block < W.heap.size := by obtain ⟨m, hm⟩ := k2; exact DataW.trod_lt m _ _ _ hm
  obtain ⟨o2, g2⟩ : ∃ o, ArgO W v2 o := open_op (hval 2 56 v2 rfl rfl) h2 (fun n hn => Nat.le_trans (of_decide_eq_true (List.all_eq_true.1 hsz n (DataW.weights_mem_each (j := 2) (t := 56) rfl rfl n hn))) (by decide))
  clear hA0 hval0 hval hfz hnd hcnd hA
  refine (kept_any W _ l0 g0 _ l1 g1 z1 _ o2 g2).mono fun e W' ⟨he, bel⟩ => ?_
  subst he
  exact ⟨_, rfl, _, _, _, [], _, [], hW', trodAll_mk1 (shut_bool Try.underlying4 _), (trodAll_cons_mk (Below.trod laidOut (by kernel_rfl) (of_decide_eq_true (by kernel_rfl)) k0 bel lt0) (trodAll_cons_mk (Below.trod laidOut (by kernel_rfl) (of_decide_eq_true (by kernel_rfl)) k1 bel lt1) (trodAll_cons_mk (Below.trod laidOut (by kernel_rfl) (of_decide_eq_true (by kernel_rfl)) k2 bel lt2) trodAll_mk0))), rfl, bel.frame _, fun h => by cases h⟩

theorem ZoneKept_holds : Rows.ZoneKeptSaid :=
  OpenClaim.holds_of_wide 12 Try.f12 rfl rfl rfl rfl rfl rfl rfl ⟨rfl, rfl, rfl, rfl, rfl⟩ rfl rfl rfl rfl rfl (by kernel_rfl) Try.func12 (by kernel_rfl)
    (of_decide_eq_true (by kernel_rfl)) (by unfold Func.isWrapper; rw [if_neg (of_decide_eq_false (by kernel_rfl))]; exact ⟨rfl, rfl⟩)
    (fun os started H enc _ => zoneKept_lifted os started H enc)
#print axioms ZoneKept_holds

end Go.Proofs.YtfpbjjdlchplnaaR
