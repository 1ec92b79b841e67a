/- ZoneHolds returns true for every input; nothing that was there is turned. -/
import Derived.Test.YtfpbjjdlchplnaaRHoldsP
import Derived.Test.YtfpbjjdlchplnaaRFloat
import Derived.Test.YtfpbjjdlchplnaaRAssign
import Derived.Test.YtfpbjjdlchplnaaRCopy
import Derived.Test.YtfpbjjdlchplnaaRArgO
import Derived.Test.YtfpbjjdlchplnaaRFrame
import Derived.Deep.RegionHeld3
import Derived.IntWalk
namespace Go.Proofs.YtfpbjjdlchplnaaR
open Go Go.RowKit Go.Wr
open Go.ChangeShapes Go.WideShapes Go.ChangeAt
set_option maxHeartbeats 8000000
set_option maxRecDepth 100000

theorem ArgC.sl {w : World} {v : Value} {l : List Cn} (h : ArgC w v l) : Sl3 w v l := h.1
theorem ArgC.len {w : World} {v : Value} {l : List Cn} (h : ArgC w v l) : l.length * 24 ≤ 140737488355328 := by have := h.2.1; omega
theorem ArgC.cap {w : World} {v : Value} {l : List Cn} (h : ArgC w v l) : Cap v l.length := h.2.2.2

theorem mtz_form {z : Zn} {f : Nat → Int} (h : MtZ z f) : z = ⟨false, z.m⟩ := by rw [← h.1]

/-- The rest of a region that only reads, behind a name that nothing opens. -/
structure StillIn (P : Program) (ops : Array Oper) (w : World) (Q : Act → Prop) (l : List Oper) (a : Act) : Prop where
  out : wpStill P ops w Q l a

theorem StillIn.step {P : Program} {ops : Array Oper} {w : World} {Q : Act → Prop} {a : Act} {o : Oper} {rest : List Oper}
    (h : ∀ K : Act → Prop, (∀ a, StillIn P ops w Q rest a → K a) → if Region.wanted o (yielded ops a.tmps) then o.still P a w K else K (a.put o.dst undef)) : StillIn P ops w Q (o :: rest) a :=
  ⟨wpStill_step fun K hK => h K fun a ha => hK a ha.out⟩
theorem StillIn.skip {P : Program} {ops : Array Oper} {w : World} {Q : Act → Prop} {a : Act} {o : Oper} {rest : List Oper} (hw : Region.wanted o (yielded ops a.tmps) = false) (h : StillIn P ops w Q rest (a.put o.dst undef)) : StillIn P ops w Q (o :: rest) a := by
  constructor
  unfold wpStill
  rw [if_neg (by rw [hw]; decide)]
  exact h.out
theorem StillIn.nil {P : Program} {ops : Array Oper} {w : World} {Q : Act → Prop} {a : Act} (h : Q a) : StillIn P ops w Q [] a := ⟨wpStill_nil h⟩

theorem wrong_one (w : World) (a b c v : Int) (h : wrongL [⟨a, b, c⟩] = v) :
    Calls Try.prog 39 #[.slice (some ⟨w.heap.size, 0, none⟩) 1 1] (w.alloc (.cells #[.int .i64 a, .int .i64 b, .int .i64 c] 72)).drew fun e w'' => e = .returned (.int .i64 v) ∧ w'' = (w.alloc (.cells #[.int .i64 a, .int .i64 b, .int .i64 c] 72)).drew := by
  subst h
  have sl : Sl3 (w.alloc (.cells #[.int .i64 a, .int .i64 b, .int .i64 c] 72)).drew (.slice (some ⟨w.heap.size, 0, none⟩) 1 1) [⟨a, b, c⟩] := Sl3.lit (Blk.drew (Blk.new w 72 #[.int .i64 a, .int .i64 b, .int .i64 c])) [⟨a, b, c⟩] 1 1 rfl rfl (by simp)
  exact rwrong_eq _ _ _ sl

theorem holds_any (w : World) (ns : Value) (zs : List Int) (hzs : ArgI w ns zs) (cs : Value) (l : List Cn) (hcs : ArgC w cs l) (ms : Value) (l2 : List Cn) (hms : ArgC w ms l2) (vo : Value) (o : OpA) (ho : ArgO w vo o) :
    Calls Try.prog 10 #[ns, cs, ms, vo] w fun e w' => e = .returned (.bool true) ∧ Below w.heap.size w w' := by
  have HC := Lib.hid hcs
  have HM := Lib.hid hms
  have HZS := Lib.hid hzs
  have fi : ∀ q, q < 60 → I64 (fullF zs q) := fun q _ => fullF_i64 hzs.2.2 q
  obtain ⟨f, HF⟩ : ∃ f, Hid (f = fullF zs) := ⟨_, rfl⟩
  rw [← HF.out] at fi
  have FI := Lib.hid fi
  have h1 : MtZ (zwith znew (metL l f)) f := mtz_with (mtz_new f) (met_mtl l f)
  have h2 : MtZ (closeZ (metL l2 f)) f := mtz_close (met_mtl l2 f)
  have h3 : MtZ (zwith (zwith znew (metL l f)) (metL l2 f)) f := mtz_with h1 (met_mtl l2 f)
  have r1 : Rng (zwith znew (metL l f)).m := zwith_rng topT_rng
  have r2 : Rng (closeZ (metL l2 f)).m := zset_rng (fwT_rng met_bd 60)
  have r3 : Rng (zwith (zwith znew (metL l f)) (metL l2 f)).m := zwith_rng r1
  have hwi := zwith_within (metL l2 f) (zwith znew (metL l f))
  have e1 := mtz_form h1
  obtain ⟨m1, Hm1⟩ : ∃ m1, Hid (m1 = (zwith znew (metL l f)).m) := ⟨_, rfl⟩
  rw [← Hm1.out] at e1 r1
  rw [e1] at h1 h3 r3 hwi
  have e2 : closeZ (metL l2 f) = ⟨false, (closeZ (metL l2 f)).m⟩ := mtz_form h2
  have e3 : zwith ⟨false, m1⟩ (metL l2 f) = ⟨false, (zwith ⟨false, m1⟩ (metL l2 f)).m⟩ := mtz_form h3
  obtain ⟨m2, Hm2⟩ : ∃ m2, Hid (m2 = (closeZ (metL l2 f)).m) := ⟨_, rfl⟩
  rw [← Hm2.out] at e2 r2
  obtain ⟨m3, Hm3⟩ : ∃ m3, Hid (m3 = (zwith ⟨false, m1⟩ (metL l2 f)).m) := ⟨_, rfl⟩
  rw [← Hm3.out] at e3 r3
  rw [e2] at h2
  rw [e3] at h3 hwi
  have R1 := Lib.hid r1
  have R2 := Lib.hid r2
  have R3 := Lib.hid r3
  have T1 := Lib.hid h1
  have M1 := Lib.hid h1.meets
  have M2 := Lib.hid h2.meets
  have M3 := Lib.hid h3.meets
  have MW := Lib.hid hwi
  have MJ1 := Lib.hid (mtz_join h1 h2).meets
  have MJ2 := Lib.hid (mtz_join h2 h1).meets
  have MW1 := Lib.hid (mtz_widen h1 h2).meets
  have MW2 := Lib.hid (mtz_widen h2 h1).meets
  have RJ1 : Hid (Rng (joinZ max ⟨false, m1⟩ ⟨false, m2⟩).m) := join_rng r1 r2
  have RJ2 : Hid (Rng (joinZ max ⟨false, m2⟩ ⟨false, m1⟩).m) := join_rng r2 r1
  have RW1 : Hid (Rng (joinZ wid ⟨false, m1⟩ ⟨false, m2⟩).m) := widen_rng r1 r2
  have RW2 : Hid (Rng (joinZ wid ⟨false, m2⟩ ⟨false, m1⟩).m) := widen_rng r2 r1
  have W1 := Lib.hid (met_wrong l f)
  have W2 := Lib.hid (met_wrong l2 f)
  have hln : (metL l f).length * 24 ≤ 140737488355328 := by
    have h1 := hcs.len
    have h2 : (metL l f).length ≤ l.length := List.length_filter_le _ _
    omega
  have hln2 : (metL l2 f).length * 24 ≤ 140737488355328 := by
    have h1 := hms.len
    have h2 : (metL l2 f).length ≤ l2.length := List.length_filter_le _ _
    omega
  obtain ⟨L, HL⟩ : ∃ L, Hid (L = metL l f) := ⟨_, rfl⟩
  obtain ⟨N, HN⟩ : ∃ N, Hid (N = metL l2 f) := ⟨_, rfl⟩
  rw [← HL.out] at W1 hln e1
  rw [← HN.out] at W2 hln2 e2 e3
  have E1 := Lib.hid e1
  have E2 := Lib.hid e2
  have E3 := Lib.hid e3
  obtain ⟨ok, oz, oo, ox, oy, oc, sv, sc, su, sd, vs, ocs, up, dn⟩ := o
  obtain ⟨rfl, ⟨_, _, _, hox, hoy, hoc⟩, hvs, hnz, -⟩ := ho
  simp only at hox hoy hoc hvs hnz
  have HVS := Lib.hid hvs
  have HNZ := Lib.hid hnz
  have HOC := Lib.hid hoc
  clear hcs hms hzs fi h1 h2 h3 r1 r2 r3 hwi e1 e2 e3 hvs hnz hoc Hm1 Hm2 Hm3
  go_enter Try.func10, Try.ntmps10
  go_wp2_with fail
  refine (full_any _ _ zs (SlI.below HZS.out.1 (bAl (bRefl w) _))).mono ?_
  rintro e w1 ⟨g, rfl, hg, hgl, b1⟩
  rw [← HF.out] at hg
  have t1 := bThen (bAl (bRefl w) _) b1
  have X1 := Lib.hid ((Blk.new w 56 _).below b1 (Blk.lt (Blk.new _ _ _)))
  have G1 := Lib.hid hg
  clear hg b1
  go_wp2_with fail
  refine (new_any _).mono ?_
  rintro e w2 ⟨p2, rfl, z2, b2⟩
  have t2 := bThen t1 b2
  have G2 := Lib.hid (G1.out.below b2 G1.out.lt)
  have X2 := Lib.hid (X1.out.below b2 X1.out.lt)
  have Z2 := Lib.hid z2
  clear z2 b2 t1 G1 X1
  go_wp2_with fail
  refine (met_any _ _ l (HC.out.sl.below t2) HC.out.cap HC.out.len g f G2.out FI.out).mono ?_
  rintro e w3 ⟨v3, rfl, o3, b3⟩
  rw [← HL.out] at o3
  have S3 := Lib.hid (Sl3.own (l := L) o3 rfl (by omega))
  have t3 := bThen t2 b3
  have G3 := Lib.hid (G2.out.below b3 G2.out.lt)
  have X3 := Lib.hid (X2.out.below b3 X2.out.lt)
  have Z3 := Lib.hid (Z2.out.below b3 Z2.out.lt)
  clear o3 b3 t2 G2 X2 Z2
  go_wp2_with fail
  refine (lcons_any _ _ L S3.out hln).mono ?_
  rintro e w4 ⟨v4, rfl, o4, b4⟩
  have S4 := Lib.hid (Sl3.own o4 rfl (by omega))
  have t4 := bThen t3 b4
  have G4 := Lib.hid (G3.out.below b4 G3.out.lt)
  have X4 := Lib.hid (X3.out.below b4 X3.out.lt)
  have Z4 := Lib.hid (Z3.out.below b4 Z3.out.lt)
  clear o4 b4 t3 G3 X3 Z3 S3
  go_wp2_with fail
  refine (with_ok _ p2 znew Z4.out topT_rng _ L S4.out W1.out).mono ?_
  rintro e w5 ⟨p1, rfl, z5, b5⟩
  rw [E1.out] at z5
  have t5 := bThen t4 b5
  have G5 := Lib.hid (G4.out.below b5 G4.out.lt)
  have X5 := Lib.hid (X4.out.below b5 X4.out.lt)
  have O5 := Lib.hid z5
  clear z5 b5 t4 G4 X4 Z4 S4
  go_wp2_with fail
  refine (met_any _ _ l2 (HM.out.sl.below t5) HM.out.cap HM.out.len g f G5.out FI.out).mono ?_
  rintro e w6 ⟨v6, rfl, o6, b6⟩
  rw [← HN.out] at o6
  have S6 := Lib.hid (Sl3.own (l := N) o6 rfl (by omega))
  have t6 := bThen t5 b6
  have G6 := Lib.hid (G5.out.below b6 G5.out.lt)
  have X6 := Lib.hid (X5.out.below b6 X5.out.lt)
  have O6 := Lib.hid (O5.out.below b6 O5.out.lt)
  clear o6 b6 t5 G5 X5 O5
  go_wp2_with fail
  refine (lcons_any _ _ N S6.out hln2).mono ?_
  rintro e w7 ⟨v7, rfl, o7, b7⟩
  have S7 := Lib.hid (Sl3.own o7 rfl (by omega))
  have t7 := bThen t6 b7
  have G7 := Lib.hid (G6.out.below b7 G6.out.lt)
  have X7 := Lib.hid (X6.out.below b7 X6.out.lt)
  have O7 := Lib.hid (O6.out.below b7 O6.out.lt)
  clear o7 b7 t6 G6 X6 O6 S6
  go_wp2_with fail
  refine (close_ok _ _ N S7.out W2.out).mono ?_
  rintro e w8 ⟨pc, rfl, z8, b8⟩
  rw [E2.out] at z8
  have t8 := bThen t7 b8
  have G8 := Lib.hid (G7.out.below b8 G7.out.lt)
  have X8 := Lib.hid (X7.out.below b8 X7.out.lt)
  have O8 := Lib.hid (O7.out.below b8 O7.out.lt)
  have C8 := Lib.hid z8
  clear z8 b8 t7 G7 X7 O7 S7
  go_wp2_with fail
  refine (meets_any _ p1 ⟨false, m1⟩ O8.out R1.out g f G8.out FI.out).mono ?_
  rintro e w9 ⟨rfl, b9⟩
  rw [M1.out]
  have t9 := bThen t8 b9
  have G9 := Lib.hid (G8.out.below b9 G8.out.lt)
  have X9 := Lib.hid (X8.out.below b9 X8.out.lt)
  have O9 := Lib.hid (O8.out.below b9 O8.out.lt)
  have C9 := Lib.hid (C8.out.below b9 C8.out.lt)
  clear b9 t8 G8 X8 O8 C8
  go_wp2_with fail
  refine (meets_any _ pc ⟨false, m2⟩ C9.out R2.out g f G9.out FI.out).mono ?_
  rintro e wa ⟨rfl, ba⟩
  rw [M2.out]
  have ta := bThen t9 ba
  have GA := Lib.hid (G9.out.below ba G9.out.lt)
  have XA := Lib.hid (X9.out.below ba X9.out.lt)
  have OA := Lib.hid (O9.out.below ba O9.out.lt)
  have CA := Lib.hid (C9.out.below ba C9.out.lt)
  clear ba t9 G9 X9 O9 C9
  go_wp2_with fail
  refine (met_any _ _ l2 (HM.out.sl.below ta) HM.out.cap HM.out.len g f GA.out FI.out).mono ?_
  rintro e wb ⟨vb, rfl, ob, bb⟩
  rw [← HN.out] at ob
  have SB := Lib.hid (Sl3.own (l := N) ob rfl (by omega))
  have tb := bThen ta bb
  have GB := Lib.hid (GA.out.below bb GA.out.lt)
  have XB := Lib.hid (XA.out.below bb XA.out.lt)
  have OB := Lib.hid (OA.out.below bb OA.out.lt)
  have CB := Lib.hid (CA.out.below bb CA.out.lt)
  clear ob bb ta GA XA OA CA
  go_wp2_with fail
  refine (lcons_any _ _ N SB.out hln2).mono ?_
  rintro e wd ⟨vd, rfl, od, bd⟩
  have SD := Lib.hid (Sl3.own od rfl (by omega))
  have td := bThen tb bd
  have GD := Lib.hid (GB.out.below bd GB.out.lt)
  have XD := Lib.hid (XB.out.below bd XB.out.lt)
  have OD := Lib.hid (OB.out.below bd OB.out.lt)
  have CD := Lib.hid (CB.out.below bd CB.out.lt)
  clear od bd tb GB XB OB CB SB
  go_wp2_with fail
  refine (with_ok _ p1 ⟨false, m1⟩ OD.out R1.out _ N SD.out W2.out).mono ?_
  rintro e we ⟨p3, rfl, ze, be⟩
  rw [E3.out] at ze
  have te := bThen td be
  have GE := Lib.hid (GD.out.below be GD.out.lt)
  have XE := Lib.hid (XD.out.below be XD.out.lt)
  have OE := Lib.hid (OD.out.below be OD.out.lt)
  have CE := Lib.hid (CD.out.below be CD.out.lt)
  have BE := Lib.hid ze
  clear ze be td GD XD OD CD SD
  go_wp2_with fail
  refine (meets_any _ p3 ⟨false, m3⟩ BE.out R3.out g f GE.out FI.out).mono ?_
  rintro e wf ⟨rfl, bf⟩
  rw [M3.out]
  have tf := bThen te bf
  have GF := Lib.hid (GE.out.below bf GE.out.lt)
  have XF := Lib.hid (XE.out.below bf XE.out.lt)
  have OF := Lib.hid (OE.out.below bf OE.out.lt)
  have CF := Lib.hid (CE.out.below bf CE.out.lt)
  have BF := Lib.hid (BE.out.below bf BE.out.lt)
  clear bf te GE XE OE CE BE
  go_wp2_with fail
  refine (within_any _ p3 p1 ⟨false, m3⟩ ⟨false, m1⟩ BF.out OF.out).mono ?_
  rintro e wg ⟨rfl, bg⟩
  rw [MW.out]
  have tg := bThen tf bg
  have GG := Lib.hid (GF.out.below bg GF.out.lt)
  have XG := Lib.hid (XF.out.below bg XF.out.lt)
  have OG := Lib.hid (OF.out.below bg OF.out.lt)
  have CG := Lib.hid (CF.out.below bg CF.out.lt)
  clear bg tf GF XF OF CF BF
  go_wp2_with fail
  refine (join_any _ p1 pc ⟨false, m1⟩ ⟨false, m2⟩ OG.out CG.out).mono ?_
  rintro e wJ1 ⟨qJ1, rfl, zqJ1, bJ1⟩
  have tJ1 := bThen tg bJ1
  have GJ1 := Lib.hid (GG.out.below bJ1 GG.out.lt)
  have XJ1 := Lib.hid (XG.out.below bJ1 XG.out.lt)
  have OJ1 := Lib.hid (OG.out.below bJ1 OG.out.lt)
  have CJ1 := Lib.hid (CG.out.below bJ1 CG.out.lt)
  clear bJ1 GG XG OG CG
  go_wp2_with fail
  refine (meets_any _ qJ1 (joinZ max ⟨false, m1⟩ ⟨false, m2⟩) zqJ1 RJ1.out g f GJ1.out FI.out).mono ?_
  rintro e wK1 ⟨rfl, bK1⟩
  rw [MJ1.out]
  have tK1 := bThen tJ1 bK1
  have GK1 := Lib.hid (GJ1.out.below bK1 GJ1.out.lt)
  have XK1 := Lib.hid (XJ1.out.below bK1 XJ1.out.lt)
  have OK1 := Lib.hid (OJ1.out.below bK1 OJ1.out.lt)
  have CK1 := Lib.hid (CJ1.out.below bK1 CJ1.out.lt)
  clear bK1 zqJ1 GJ1 XJ1 OJ1 CJ1
  go_wp2_with fail
  refine (join_any _ pc p1 ⟨false, m2⟩ ⟨false, m1⟩ CK1.out OK1.out).mono ?_
  rintro e wJ2 ⟨qJ2, rfl, zqJ2, bJ2⟩
  have tJ2 := bThen tK1 bJ2
  have GJ2 := Lib.hid (GK1.out.below bJ2 GK1.out.lt)
  have XJ2 := Lib.hid (XK1.out.below bJ2 XK1.out.lt)
  have OJ2 := Lib.hid (OK1.out.below bJ2 OK1.out.lt)
  have CJ2 := Lib.hid (CK1.out.below bJ2 CK1.out.lt)
  clear bJ2 GK1 XK1 OK1 CK1
  go_wp2_with fail
  refine (meets_any _ qJ2 (joinZ max ⟨false, m2⟩ ⟨false, m1⟩) zqJ2 RJ2.out g f GJ2.out FI.out).mono ?_
  rintro e wK2 ⟨rfl, bK2⟩
  rw [MJ2.out]
  have tK2 := bThen tJ2 bK2
  have GK2 := Lib.hid (GJ2.out.below bK2 GJ2.out.lt)
  have XK2 := Lib.hid (XJ2.out.below bK2 XJ2.out.lt)
  have OK2 := Lib.hid (OJ2.out.below bK2 OJ2.out.lt)
  have CK2 := Lib.hid (CJ2.out.below bK2 CJ2.out.lt)
  clear bK2 zqJ2 GJ2 XJ2 OJ2 CJ2
  go_wp2_with fail
  refine (widen_any _ p1 pc ⟨false, m1⟩ ⟨false, m2⟩ OK2.out CK2.out).mono ?_
  rintro e wJ3 ⟨qJ3, rfl, zqJ3, bJ3⟩
  have tJ3 := bThen tK2 bJ3
  have GJ3 := Lib.hid (GK2.out.below bJ3 GK2.out.lt)
  have XJ3 := Lib.hid (XK2.out.below bJ3 XK2.out.lt)
  have OJ3 := Lib.hid (OK2.out.below bJ3 OK2.out.lt)
  have CJ3 := Lib.hid (CK2.out.below bJ3 CK2.out.lt)
  clear bJ3 GK2 XK2 OK2 CK2
  go_wp2_with fail
  refine (meets_any _ qJ3 (joinZ wid ⟨false, m1⟩ ⟨false, m2⟩) zqJ3 RW1.out g f GJ3.out FI.out).mono ?_
  rintro e wK3 ⟨rfl, bK3⟩
  rw [MW1.out]
  have tK3 := bThen tJ3 bK3
  have GK3 := Lib.hid (GJ3.out.below bK3 GJ3.out.lt)
  have XK3 := Lib.hid (XJ3.out.below bK3 XJ3.out.lt)
  have OK3 := Lib.hid (OJ3.out.below bK3 OJ3.out.lt)
  have CK3 := Lib.hid (CJ3.out.below bK3 CJ3.out.lt)
  clear bK3 zqJ3 GJ3 XJ3 OJ3 CJ3
  go_wp2_with fail
  refine (widen_any _ pc p1 ⟨false, m2⟩ ⟨false, m1⟩ CK3.out OK3.out).mono ?_
  rintro e wJ4 ⟨qJ4, rfl, zqJ4, bJ4⟩
  have tJ4 := bThen tK3 bJ4
  have GJ4 := Lib.hid (GK3.out.below bJ4 GK3.out.lt)
  have XJ4 := Lib.hid (XK3.out.below bJ4 XK3.out.lt)
  have OJ4 := Lib.hid (OK3.out.below bJ4 OK3.out.lt)
  have CJ4 := Lib.hid (CK3.out.below bJ4 CK3.out.lt)
  clear bJ4 GK3 XK3 OK3 CK3
  go_wp2_with fail
  refine (meets_any _ qJ4 (joinZ wid ⟨false, m2⟩ ⟨false, m1⟩) zqJ4 RW2.out g f GJ4.out FI.out).mono ?_
  rintro e wK4 ⟨rfl, bK4⟩
  rw [MW2.out]
  have tK4 := bThen tJ4 bK4
  have GK4 := Lib.hid (GJ4.out.below bK4 GJ4.out.lt)
  have XK4 := Lib.hid (XJ4.out.below bK4 XJ4.out.lt)
  have OK4 := Lib.hid (OJ4.out.below bK4 OJ4.out.lt)
  have CK4 := Lib.hid (CJ4.out.below bK4 CJ4.out.lt)
  clear bK4 zqJ4 GJ4 XJ4 OJ4 CJ4
  obtain ⟨a0, cap, esv, hvl, hcv⟩ := HVS.out.1
  subst esv
  have HCV := Lib.hid hcv
  have hvb := HVS.out.2.1
  clear hcv
  have c6 : wK4.cell? ⟨w.heap.size, 6, none⟩ = some (.slice a0 vs.length cap) := XK4.out.cell 6
  go_wp2_with fail
  clear c6
  refine (copy_any _ _ vs (SlI.below HVS.out.1 tK4) HNZ.out (by omega)).mono ?_
  rintro e wL ⟨vL, rfl, sL, bL⟩
  have tL := bThen tK4 bL
  have GL := Lib.hid (GK4.out.below bL GK4.out.lt)
  have XL := Lib.hid (XK4.out.below bL XK4.out.lt)
  have OL := Lib.hid (OK4.out.below bL OK4.out.lt)
  clear bL tK4 GK4 XK4 OK4 CK4
  go_wp2_with fail
  refine (forget_any _ p1 ⟨false, m1⟩ OL.out vL vs sL).mono ?_
  rintro e wM ⟨pM, rfl, zM, bM⟩
  have HFZ : Hid (ZAt wM pM ⟨false, fgtL m1 vs⟩) := zM
  have tM := bThen tL bM
  have GM := Lib.hid (GL.out.below bM GL.out.lt)
  have XM := Lib.hid (XL.out.below bM XL.out.lt)
  have OM := Lib.hid (OL.out.below bM OL.out.lt)
  clear bM tL GL XL OL zM sL
  have MG : Hid (meetsB ⟨false, fgtL m1 vs⟩ (stF f oc vs) = true) := (mt_fgt (l := vs) T1.out.2 (fun q _ h => stF_keep h)).meets
  have RG : Hid (Rng (fgtL m1 vs)) := fgtL_rng R1.out
  go_wp2
  go_loopw [16, 17] (fun b t wr => ∃ k g' : Nat, k ≤ vs.length ∧ t = .int .i64 k ∧ b = .slice (some ⟨g', 0, none⟩) 60 60 ∧ Blk wr g' 3 (rcells (stF f oc (vs.take k))) ∧ Below wM.heap.size wM wr) (fun _ t _ => vs.length - (intOf t).toNat)
  case atStart => exact ⟨0, g, by omega, rfl, rfl, GM.out, bRefl _⟩
  case round =>
    obtain ⟨k, g', hk, rfl, rfl, hb, hbel⟩ := hrel
    have xr := XM.out.below hbel XM.out.lt
    have c6 : wr.cell? ⟨w.heap.size, 6, none⟩ = some (.slice a0 vs.length cap) := xr.cell 6
    by_cases hlt : k < vs.length
    · have hlt' : (k : Int) < (vs.length : Int) := by omega
      obtain ⟨c, hc⟩ : ∃ c, vs[k]? = some c := ⟨_, List.getElem?_eq_getElem hlt⟩
      obtain ⟨bb, off, rfl, h0⟩ := HCV.out k c hc
      have tw := bThen tM hbel
      rw [← tw.cell (World.block_lt_of_cell? w _ h0)] at h0
      have HT := Lib.hid (stF_take (f := f) (c := oc) hc)
      have Hb := Lib.hid hb
      clear hc hb
      by_cases hin : 1 ≤ c ∧ c < 60
      · obtain ⟨h1, h2⟩ := hin
        obtain ⟨p, rfl⟩ := Int.eq_ofNat_of_zero_le (show 0 ≤ c by omega)
        have hp : p < 60 := by omega
        have c5 : wr.cell? ⟨w.heap.size, 5, none⟩ = some (.int .i64 oc) := xr.cell 5
        clear xr
        go_wp2
        refine wp_tail 8 mix (by kernel_rfl) ?_
        simp only [List.take_succ_cons, List.take_zero, List.drop_succ_cons, List.drop_zero]
        repeat still_step
        refine wpStill_nil ?_
        go_wp2_with fail
        refine (withA_any _ g' _ (Blk.drew Hb.out) p hp oc).mono ?_
        rintro e w1a ⟨g2, rfl, hg2, hgl2, b2a⟩
        go_wp2
        go_roundw
        case measure => simp [intOf]; omega
        case rel =>
          have R0 : Blk w1a g2 3 (rcells (stF f oc (vs.take (k + 1)))) := hg2.eq (rcells_congr fun q _ => by rw [HT.out]; unfold stF1; rw [if_pos ⟨h1, h2⟩]; rfl)
          first
            | exact ⟨k + 1, g2, by omega, by go_num, rfl, R0, bThen hbel.drew b2a⟩
            | ((repeat apply Exists.intro); exact ⟨⟨k + 1, g2, by omega, by go_num, rfl, R0, bThen hbel.drew b2a⟩, rfl⟩)
      · have R0 : Hid (Blk wr g' 3 (rcells (stF f oc (vs.take (k + 1))))) := Hb.out.eq (rcells_congr fun q _ => by rw [HT.out]; unfold stF1; rw [if_neg hin])
        have hout : c < 1 ∨ (1 ≤ c ∧ 60 ≤ c) := by omega
        clear hin xr
        rcases hout with h1 | ⟨h1, h2⟩
        all_goals
          go_wp2
          go_roundw
          case measure => simp [intOf]; omega
          case rel => first | exact ⟨k + 1, g', by omega, by go_num, rfl, R0.out, hbel⟩ | ((repeat apply Exists.intro); exact ⟨⟨k + 1, g', by omega, by go_num, rfl, R0.out, hbel⟩, rfl⟩)
    · obtain rfl : k = vs.length := by omega
      rw [List.take_length] at hb
      have Hb := Lib.hid hb
      clear hb xr
      go_wp2_with fail
      clear c6
      refine (meets_any _ pM ⟨false, fgtL m1 vs⟩ (ZAt.below HFZ.out hbel HFZ.out.lt) RG.out g' _ Hb.out (stF_i64 HOC.out FI.out)).mono ?_
      rintro e wN ⟨rfl, bN⟩
      rw [MG.out]
      have tN := bThen (bThen tM hbel) bN
      have ba := bThen hbel bN
      have GN := Lib.hid (GM.out.below ba GM.out.lt)
      have XN := Lib.hid (XM.out.below ba XM.out.lt)
      have ON := Lib.hid (OM.out.below ba OM.out.lt)
      clear bN ba hbel Hb
      have e3 : wN.cell? ⟨w.heap.size, 3, none⟩ = some (.int .i64 ox) := XN.out.cell 3
      have e4 : wN.cell? ⟨w.heap.size, 4, none⟩ = some (.int .i64 oy) := XN.out.cell 4
      have e5 : wN.cell? ⟨w.heap.size, 5, none⟩ = some (.int .i64 oc) := XN.out.cell 5
      have xl := XN.out.lt
      have gl := GN.out.lt
      have h3w : wrongL [⟨ox, oy, oc⟩] = 0 ∨ wrongL [⟨ox, oy, oc⟩] = 50 ∨ wrongL [⟨ox, oy, oc⟩] = 51 := by
        unfold wrongL
        split
        · split
          · exact Or.inl rfl
          · exact Or.inr (Or.inr rfl)
        · exact Or.inr (Or.inl rfl)
      rcases h3w with hw | hw | hw
      · obtain ⟨⟨hx1, hx2⟩, ⟨hy1, hy2⟩, hc1, hc2⟩ := fine_of_wrong hw
        obtain ⟨y, rfl⟩ := Int.eq_ofNat_of_zero_le hy1
        have hy : y < 60 := by omega
        have HW := Lib.hid hw
        clear hw
        by_cases hx0 : ox = 0
        · subst hx0
          clear hx1 hx2
          go_upto_region 20 with (fail)
          refine wp_mid 7 1 mix (by kernel_rfl) (fun _ _ _ _ _ h => h) ?_
          simp only [List.take_succ_cons, List.take_zero, List.drop_succ_cons, List.drop_zero]
          repeat still_step
          refine wpStill_nil ?_
          go_wp2
          refine midQ_normal ?_
          refine StillIn.out ?_
          refine StillIn.step (fun K hK => ?_)
          go_simp
          refine ⟨_, wrong_one wN 0 y oc 0 HW.out, hK _ ?_⟩
          clear hK K
          (refine StillIn.step (fun K hK => ?_); have HK := Lib.hid hK; clear hK; go_simp; refine HK.out _ ?_; clear HK K)
          (refine StillIn.step (fun K hK => ?_); have HK := Lib.hid hK; clear hK; go_simp; refine HK.out _ ?_; clear HK K)
          (refine StillIn.step (fun K hK => ?_); have HK := Lib.hid hK; clear hK; go_simp; refine HK.out _ ?_; clear HK K)
          (refine StillIn.step (fun K hK => ?_); have HK := Lib.hid hK; clear hK; go_simp; refine HK.out _ ?_; clear HK K)
          (refine StillIn.step (fun K hK => ?_); have HK := Lib.hid hK; clear hK; go_simp; refine HK.out _ ?_; clear HK K)
          (refine StillIn.step (fun K hK => ?_); have HK := Lib.hid hK; clear hK; go_simp; refine HK.out _ ?_; clear HK K)
          (refine StillIn.step (fun K hK => ?_); have HK := Lib.hid hK; clear hK; go_simp; refine HK.out _ ?_; clear HK K)
          (refine StillIn.skip (by rfl) ?_; simp only [Act.put, List.setIfInBounds_toArray, List.set_cons_zero, List.set_cons_succ])
          (refine StillIn.skip (by rfl) ?_; simp only [Act.put, List.setIfInBounds_toArray, List.set_cons_zero, List.set_cons_succ])
          (refine StillIn.skip (by rfl) ?_; simp only [Act.put, List.setIfInBounds_toArray, List.set_cons_zero, List.set_cons_succ])
          (refine StillIn.skip (by rfl) ?_; simp only [Act.put, List.setIfInBounds_toArray, List.set_cons_zero, List.set_cons_succ])
          (refine StillIn.skip (by rfl) ?_; simp only [Act.put, List.setIfInBounds_toArray, List.set_cons_zero, List.set_cons_succ])
          (refine StillIn.skip (by rfl) ?_; simp only [Act.put, List.setIfInBounds_toArray, List.set_cons_zero, List.set_cons_succ])
          (refine StillIn.skip (by rfl) ?_; simp only [Act.put, List.setIfInBounds_toArray, List.set_cons_zero, List.set_cons_succ])
          (refine StillIn.skip (by rfl) ?_; simp only [Act.put, List.setIfInBounds_toArray, List.set_cons_zero, List.set_cons_succ])
          (refine StillIn.step (fun K hK => ?_); have HK := Lib.hid hK; clear hK; go_simp; refine HK.out _ ?_; clear HK K)
          refine StillIn.nil ?_
          go_wp2_with (go_at_call 13; refine (awake_any _).mono ?_; rintro e w99 ⟨rfl, b99⟩)
          go_ret
          exact ⟨rfl, bThen (bAl tN _).drew b99⟩
        · have hxz : (ox == 0) = false := by rw [beq_eq_false_iff_ne]; exact hx0
          have ey : wN.cell? ⟨g, y, none⟩ = some (.int .i64 (f y)) := (GN.out.cell y).trans (rcells_get f hy)
          have fy := FI.out y hy
          have FY := Lib.hid fy
          have hx : 1 ≤ ox := by omega
          clear hx0 fy
          cases hfar : farB (f y) oc with
          | true =>
            have HFAR := Lib.hid hfar
            clear hfar
            go_upto_region 20 with (fail)
            refine wp_mid 7 1 mix (by kernel_rfl) (fun _ _ _ _ _ h => h) ?_
            simp only [List.take_succ_cons, List.take_zero, List.drop_succ_cons, List.drop_zero]
            repeat still_step
            refine wpStill_nil ?_
            go_wp2
            refine midQ_normal ?_
            refine StillIn.out ?_
            refine StillIn.step (fun K hK => ?_)
            go_simp
            refine ⟨_, wrong_one wN ox y oc 0 HW.out, hK _ ?_⟩
            clear hK K
            (refine StillIn.step (fun K hK => ?_); have HK := Lib.hid hK; clear hK; go_simp; refine HK.out _ ?_; clear HK K)
            (refine StillIn.step (fun K hK => ?_); have HK := Lib.hid hK; clear hK; go_simp; refine HK.out _ ?_; clear HK K)
            (refine StillIn.step (fun K hK => ?_); have HK := Lib.hid hK; clear hK; go_simp; refine HK.out _ ?_; clear HK K)
            (refine StillIn.step (fun K hK => ?_); have HK := Lib.hid hK; clear hK; go_simp; refine HK.out _ ?_; clear HK K)
            (refine StillIn.step (fun K hK => ?_); have HK := Lib.hid hK; clear hK; go_simp; refine HK.out _ ?_; clear HK K)
            (refine StillIn.step (fun K hK => ?_); have HK := Lib.hid hK; clear hK; go_simp; refine HK.out _ ?_; clear HK K)
            (refine StillIn.step (fun K hK => ?_); have HK := Lib.hid hK; clear hK; go_simp; refine HK.out _ ?_; clear HK K)
            (refine StillIn.step (fun K hK => ?_); have HK := Lib.hid hK; clear hK; go_simp; refine HK.out _ ?_; clear HK K)
            (refine StillIn.step (fun K hK => ?_); have HK := Lib.hid hK; clear hK; go_simp; refine HK.out _ ?_; clear HK K)
            (refine StillIn.step (fun K hK => ?_); have HK := Lib.hid hK; clear hK; go_simp; refine HK.out _ ?_; clear HK K)
            (refine StillIn.step (fun K hK => ?_); have HK := Lib.hid hK; clear hK; go_simp; refine HK.out _ ?_; clear HK K)
            (refine StillIn.step (fun K hK => ?_); have HK := Lib.hid hK; clear hK; go_simp; refine HK.out _ ?_; clear HK K)
            (refine StillIn.step (fun K hK => ?_); have HK := Lib.hid hK; clear hK; go_simp; refine HK.out _ ?_; clear HK K)
            (refine StillIn.step (fun K hK => ?_); have HK := Lib.hid hK; clear hK; go_simp; refine HK.out _ ?_; clear HK K)
            (refine StillIn.step (fun K hK => ?_); have HK := Lib.hid hK; clear hK; go_simp; refine ⟨_, (far_any (f y) oc _ FY.out HOC.out).mono fun _ _ h => ⟨h.1.trans (by rw [HFAR.out]), h.2.symm⟩, HK.out _ ?_⟩; clear HK K)
            repeat (refine StillIn.step (fun K hK => ?_); have HK := Lib.hid hK; clear hK; go_simp; refine HK.out _ ?_; clear HK K)
            refine StillIn.nil ?_
            go_wp2_with (go_at_call 13; refine (awake_any _).mono ?_; rintro e w99 ⟨rfl, b99⟩)
            go_ret
            exact ⟨rfl, bThen (bAl tN _).drew b99⟩
          | false =>
            have HFAR := Lib.hid hfar
            clear hfar
            go_upto_region 20 with (fail)
            refine wp_mid 7 1 mix (by kernel_rfl) (fun _ _ _ _ _ h => h) ?_
            simp only [List.take_succ_cons, List.take_zero, List.drop_succ_cons, List.drop_zero]
            repeat still_step
            refine wpStill_nil ?_
            go_wp2
            refine midQ_normal ?_
            refine StillIn.out ?_
            refine StillIn.step (fun K hK => ?_)
            go_simp
            refine ⟨_, wrong_one wN ox y oc 0 HW.out, hK _ ?_⟩
            clear hK K
            (refine StillIn.step (fun K hK => ?_); have HK := Lib.hid hK; clear hK; go_simp; refine HK.out _ ?_; clear HK K)
            (refine StillIn.step (fun K hK => ?_); have HK := Lib.hid hK; clear hK; go_simp; refine HK.out _ ?_; clear HK K)
            (refine StillIn.step (fun K hK => ?_); have HK := Lib.hid hK; clear hK; go_simp; refine HK.out _ ?_; clear HK K)
            (refine StillIn.step (fun K hK => ?_); have HK := Lib.hid hK; clear hK; go_simp; refine HK.out _ ?_; clear HK K)
            (refine StillIn.step (fun K hK => ?_); have HK := Lib.hid hK; clear hK; go_simp; refine HK.out _ ?_; clear HK K)
            (refine StillIn.step (fun K hK => ?_); have HK := Lib.hid hK; clear hK; go_simp; refine HK.out _ ?_; clear HK K)
            (refine StillIn.step (fun K hK => ?_); have HK := Lib.hid hK; clear hK; go_simp; refine HK.out _ ?_; clear HK K)
            (refine StillIn.step (fun K hK => ?_); have HK := Lib.hid hK; clear hK; go_simp; refine HK.out _ ?_; clear HK K)
            (refine StillIn.step (fun K hK => ?_); have HK := Lib.hid hK; clear hK; go_simp; refine HK.out _ ?_; clear HK K)
            (refine StillIn.step (fun K hK => ?_); have HK := Lib.hid hK; clear hK; go_simp; refine HK.out _ ?_; clear HK K)
            (refine StillIn.step (fun K hK => ?_); have HK := Lib.hid hK; clear hK; go_simp; refine HK.out _ ?_; clear HK K)
            (refine StillIn.step (fun K hK => ?_); have HK := Lib.hid hK; clear hK; go_simp; refine HK.out _ ?_; clear HK K)
            (refine StillIn.step (fun K hK => ?_); have HK := Lib.hid hK; clear hK; go_simp; refine HK.out _ ?_; clear HK K)
            (refine StillIn.step (fun K hK => ?_); have HK := Lib.hid hK; clear hK; go_simp; refine HK.out _ ?_; clear HK K)
            (refine StillIn.step (fun K hK => ?_); have HK := Lib.hid hK; clear hK; go_simp; refine ⟨_, (far_any (f y) oc _ FY.out HOC.out).mono fun _ _ h => ⟨h.1.trans (by rw [HFAR.out]), h.2.symm⟩, HK.out _ ?_⟩; clear HK K)
            repeat (refine StillIn.step (fun K hK => ?_); have HK := Lib.hid hK; clear hK; go_simp; refine HK.out _ ?_; clear HK K)
            refine StillIn.nil ?_
            go_wp2_with fail
            obtain ⟨x, rfl⟩ := Int.eq_ofNat_of_zero_le hx1
            have hxn : x < 60 := by omega
            refine (assign_ok _ p1 m1 (Blk.drew (Blk.alloc ON.out _)) R1.out x y oc (by omega) (by omega) hy hc1 hc2).mono ?_
            rintro e wO ⟨pO, rfl, zO, bO⟩
            have tO := bThen (bAl tN _).drew bO
            have XO := Lib.hid ((Blk.drew (XN.out.alloc _)).below bO (Blk.drew (XN.out.alloc _)).lt)
            have GO := Lib.hid ((Blk.drew (GN.out.alloc _)).below bO (Blk.drew (GN.out.alloc _)).lt)
            have TO := Lib.hid zO
            clear e3 e4 e5 ey zO bO
            have e3 : wO.cell? ⟨w.heap.size, 3, none⟩ = some (.int .i64 x) := XO.out.cell 3
            have e4 : wO.cell? ⟨w.heap.size, 4, none⟩ = some (.int .i64 y) := XO.out.cell 4
            have e5 : wO.cell? ⟨w.heap.size, 5, none⟩ = some (.int .i64 oc) := XO.out.cell 5
            have ey : wO.cell? ⟨g, y, none⟩ = some (.int .i64 (f y)) := (GO.out.cell y).trans (rcells_get f hy)
            have hiv : I64 (f y + oc) := far_i64 FY.out HFAR.out
            have hwr : IntKind.i64.wrap (f y + oc) = f y + oc := IntWalk.i64_in _ (by unfold I64 at hiv; omega)
            have MA := Lib.hid (mt_asg (x := x) (y := y) (c := oc) T1.out.2 hy).meets
            have RA : Hid (Rng (asgT m1 x y oc)) := asg_rng R1.out _ _ _
            have IA := Lib.hid (putF_i64 (f := f) (x := x) (v := f y + oc) FI.out hiv)
            have gol := GO.out.lt
            have xol := XO.out.lt
            clear hiv
            go_upto_region 23 with (fail)
            go_region_held3 (fun w' => w'.cell? ⟨w.heap.size, 3, none⟩ = some (.int .i64 x) ∧ w'.cell? ⟨w.heap.size, 4, none⟩ = some (.int .i64 y) ∧ w'.cell? ⟨w.heap.size, 5, none⟩ = some (.int .i64 oc) ∧ w'.cell? ⟨g, y, none⟩ = some (.int .i64 (f y))) (go_keep)
              (first
                | (go_at_call 38; refine (withA_any wO.drew g f GO.out x hxn (f y + oc)).mono ?_; rintro e v2 ⟨g3, rfl, G3, hg3, c2⟩; have X2 := Lib.hid ((Blk.drew XO.out).below c2 XO.out.lt); have G2 := Lib.hid ((Blk.drew GO.out).below c2 GO.out.lt); have T2 := Lib.hid ((Blk.drew TO.out).below c2 TO.out.lt); have s3 : v2.cell? ⟨w.heap.size, 3, none⟩ = some (.int .i64 x) := X2.out.cell 3; have s4 : v2.cell? ⟨w.heap.size, 4, none⟩ = some (.int .i64 y) := X2.out.cell 4; have s5 : v2.cell? ⟨w.heap.size, 5, none⟩ = some (.int .i64 oc) := X2.out.cell 5; have sy : v2.cell? ⟨g, y, none⟩ = some (.int .i64 (f y)) := (G2.out.cell y).trans (rcells_get f hy))
                | (go_at_call 33; refine (meets_any v2 pO ⟨false, asgT m1 x y oc⟩ T2.out RA.out g3 _ G3 IA.out).mono ?_; rintro e v3 ⟨rfl, c3⟩; rw [MA.out]; have X3 := Lib.hid (X2.out.below c3 X2.out.lt); have G3' := Lib.hid (G2.out.below c3 G2.out.lt); have s3 : v3.cell? ⟨w.heap.size, 3, none⟩ = some (.int .i64 x) := X3.out.cell 3; have s4 : v3.cell? ⟨w.heap.size, 4, none⟩ = some (.int .i64 y) := X3.out.cell 4; have s5 : v3.cell? ⟨w.heap.size, 5, none⟩ = some (.int .i64 oc) := X3.out.cell 5; have sy : v3.cell? ⟨g, y, none⟩ = some (.int .i64 (f y)) := (G3'.out.cell y).trans (rcells_get f hy))
                | (go_at_call 13; refine (awake_any v3).mono ?_; rintro e v4 ⟨rfl, c4⟩; have X4 := Lib.hid (X3.out.below c4 X3.out.lt); have G4 := Lib.hid (G3'.out.below c4 G3'.out.lt); have s3 : v4.cell? ⟨w.heap.size, 3, none⟩ = some (.int .i64 x) := X4.out.cell 3; have s4 : v4.cell? ⟨w.heap.size, 4, none⟩ = some (.int .i64 y) := X4.out.cell 4; have s5 : v4.cell? ⟨w.heap.size, 5, none⟩ = some (.int .i64 oc) := X4.out.cell 5; have sy : v4.cell? ⟨g, y, none⟩ = some (.int .i64 (f y)) := (G4.out.cell y).trans (rcells_get f hy)))
            clear hwr
            go_wp2
            go_ret
            exact ⟨rfl, bThen (bThen (bThen tO.drew c2) c3) c4⟩
      · have HW := Lib.hid hw
        clear hw
        go_upto_region 20 with (fail)
        refine wp_mid 7 1 mix (by kernel_rfl) (fun _ _ _ _ _ h => h) ?_
        simp only [List.take_succ_cons, List.take_zero, List.drop_succ_cons, List.drop_zero]
        repeat still_step
        refine wpStill_nil ?_
        go_wp2
        refine midQ_normal ?_
        refine StillIn.out ?_
        refine StillIn.step (fun K hK => ?_)
        go_simp
        refine ⟨_, wrong_one wN ox oy oc 50 HW.out, hK _ ?_⟩
        clear hK K
        (refine StillIn.step (fun K hK => ?_); have HK := Lib.hid hK; clear hK; go_simp; refine HK.out _ ?_; clear HK K)
        (refine StillIn.step (fun K hK => ?_); have HK := Lib.hid hK; clear hK; go_simp; refine HK.out _ ?_; clear HK K)
        (refine StillIn.skip (by rfl) ?_; simp only [Act.put, List.setIfInBounds_toArray, List.set_cons_zero, List.set_cons_succ])
        (refine StillIn.skip (by rfl) ?_; simp only [Act.put, List.setIfInBounds_toArray, List.set_cons_zero, List.set_cons_succ])
        (refine StillIn.skip (by rfl) ?_; simp only [Act.put, List.setIfInBounds_toArray, List.set_cons_zero, List.set_cons_succ])
        (refine StillIn.step (fun K hK => ?_); have HK := Lib.hid hK; clear hK; go_simp; refine HK.out _ ?_; clear HK K)
        (refine StillIn.step (fun K hK => ?_); have HK := Lib.hid hK; clear hK; go_simp; refine HK.out _ ?_; clear HK K)
        (refine StillIn.skip (by rfl) ?_; simp only [Act.put, List.setIfInBounds_toArray, List.set_cons_zero, List.set_cons_succ])
        (refine StillIn.skip (by rfl) ?_; simp only [Act.put, List.setIfInBounds_toArray, List.set_cons_zero, List.set_cons_succ])
        (refine StillIn.skip (by rfl) ?_; simp only [Act.put, List.setIfInBounds_toArray, List.set_cons_zero, List.set_cons_succ])
        (refine StillIn.skip (by rfl) ?_; simp only [Act.put, List.setIfInBounds_toArray, List.set_cons_zero, List.set_cons_succ])
        (refine StillIn.skip (by rfl) ?_; simp only [Act.put, List.setIfInBounds_toArray, List.set_cons_zero, List.set_cons_succ])
        (refine StillIn.skip (by rfl) ?_; simp only [Act.put, List.setIfInBounds_toArray, List.set_cons_zero, List.set_cons_succ])
        (refine StillIn.skip (by rfl) ?_; simp only [Act.put, List.setIfInBounds_toArray, List.set_cons_zero, List.set_cons_succ])
        (refine StillIn.skip (by rfl) ?_; simp only [Act.put, List.setIfInBounds_toArray, List.set_cons_zero, List.set_cons_succ])
        (refine StillIn.step (fun K hK => ?_); have HK := Lib.hid hK; clear hK; go_simp; refine HK.out _ ?_; clear HK K)
        refine StillIn.nil ?_
        go_wp2_with (go_at_call 13; refine (awake_any _).mono ?_; rintro e w99 ⟨rfl, b99⟩)
        go_ret
        exact ⟨rfl, bThen (bAl tN _).drew b99⟩
      · have HW := Lib.hid hw
        clear hw
        go_upto_region 20 with (fail)
        refine wp_mid 7 1 mix (by kernel_rfl) (fun _ _ _ _ _ h => h) ?_
        simp only [List.take_succ_cons, List.take_zero, List.drop_succ_cons, List.drop_zero]
        repeat still_step
        refine wpStill_nil ?_
        go_wp2
        refine midQ_normal ?_
        refine StillIn.out ?_
        refine StillIn.step (fun K hK => ?_)
        go_simp
        refine ⟨_, wrong_one wN ox oy oc 51 HW.out, hK _ ?_⟩
        clear hK K
        (refine StillIn.step (fun K hK => ?_); have HK := Lib.hid hK; clear hK; go_simp; refine HK.out _ ?_; clear HK K)
        (refine StillIn.step (fun K hK => ?_); have HK := Lib.hid hK; clear hK; go_simp; refine HK.out _ ?_; clear HK K)
        (refine StillIn.skip (by rfl) ?_; simp only [Act.put, List.setIfInBounds_toArray, List.set_cons_zero, List.set_cons_succ])
        (refine StillIn.skip (by rfl) ?_; simp only [Act.put, List.setIfInBounds_toArray, List.set_cons_zero, List.set_cons_succ])
        (refine StillIn.skip (by rfl) ?_; simp only [Act.put, List.setIfInBounds_toArray, List.set_cons_zero, List.set_cons_succ])
        (refine StillIn.step (fun K hK => ?_); have HK := Lib.hid hK; clear hK; go_simp; refine HK.out _ ?_; clear HK K)
        (refine StillIn.step (fun K hK => ?_); have HK := Lib.hid hK; clear hK; go_simp; refine HK.out _ ?_; clear HK K)
        (refine StillIn.skip (by rfl) ?_; simp only [Act.put, List.setIfInBounds_toArray, List.set_cons_zero, List.set_cons_succ])
        (refine StillIn.skip (by rfl) ?_; simp only [Act.put, List.setIfInBounds_toArray, List.set_cons_zero, List.set_cons_succ])
        (refine StillIn.skip (by rfl) ?_; simp only [Act.put, List.setIfInBounds_toArray, List.set_cons_zero, List.set_cons_succ])
        (refine StillIn.skip (by rfl) ?_; simp only [Act.put, List.setIfInBounds_toArray, List.set_cons_zero, List.set_cons_succ])
        (refine StillIn.skip (by rfl) ?_; simp only [Act.put, List.setIfInBounds_toArray, List.set_cons_zero, List.set_cons_succ])
        (refine StillIn.skip (by rfl) ?_; simp only [Act.put, List.setIfInBounds_toArray, List.set_cons_zero, List.set_cons_succ])
        (refine StillIn.skip (by rfl) ?_; simp only [Act.put, List.setIfInBounds_toArray, List.set_cons_zero, List.set_cons_succ])
        (refine StillIn.skip (by rfl) ?_; simp only [Act.put, List.setIfInBounds_toArray, List.set_cons_zero, List.set_cons_succ])
        (refine StillIn.step (fun K hK => ?_); have HK := Lib.hid hK; clear hK; go_simp; refine HK.out _ ?_; clear HK K)
        refine StillIn.nil ?_
        go_wp2_with (go_at_call 13; refine (awake_any _).mono ?_; rintro e w99 ⟨rfl, b99⟩)
        go_ret
        exact ⟨rfl, bThen (bAl tN _).drew b99⟩

set_option maxRecDepth 100000 in
theorem zoneHolds_lifted (os : Os) (started : os.Started) (H : Type) (enc : TypeId × Value → H) :
    ReturnsInHanded {} Try.checked os 10 .any (Rows.zoneHoldsSpec.pre6 enc Try.prog Try.f10 Rows.zoneHoldsRow.domain false) (Rows.zoneHoldsSpec.post enc Try.prog Try.f10 false true false false) := by
  refine returnsInHanded_of_change_sized (C := Try.checked) own started (by kernel_rfl) Try.func10
    (ChangeSpec.witness6 (enc := enc) (C := Try.checked) false ⟨#[], #[.slice none 0 0, .slice none 0 0, .slice none 0 0, .agg #[.int .i64 0, .int .i64 0, .int .i64 0, .int .i64 0, .int .i64 0, .int .i64 0, .slice none 0 0, .slice none 0 0, .slice none 0 0, .slice none 0 0]], []⟩ 8 (by kernel_rfl) (by kernel_rfl) (by kernel_rfl) (by kernel_rfl)) ?_
  intro W base args ds gs before hval0 hW hcnd hsz _
  have hval : ∀ (j : Nat) t v, Try.f10.params[j]? = some t → args[j]? = some v → Value.okWide Try.prog W .any base t v := hval0
  have hW' := hW
  obtain ⟨p, q, hA0, hV, rfl, hfz, hnd⟩ := hW
  have hA : DataW.TrodAll enc Try.prog W 0 (fun _ => true) true Try.f10.params.toList args.toList ds p := hA0
  rw [Try.params10] at hA hval hsz
  obtain ⟨v0, vs0, d0, ds0, p0, q0, hargs, rfl, rfl, h0, r0⟩ := trodAll_cons hA
  obtain ⟨v1, vs1, d1, ds1, p1, q1, rfl, rfl, rfl, h1, r1⟩ := trodAll_cons r0
  obtain ⟨v2, vs2, d2, ds2, p2, q2, rfl, rfl, rfl, h2, r2⟩ := trodAll_cons r1
  obtain ⟨v3, vs3, d3, ds3, p3, q3, rfl, rfl, rfl, h3, r3⟩ := trodAll_cons r2
  obtain ⟨rfl, rfl, rfl⟩ := trodAll_nil r3
  obtain rfl : args = #[v0, v1, v2, v3] := by cases args; simp_all
  obtain ⟨rfl, rfl⟩ := trodVars_none hV
  have k0 := h0
  have lt0 : ∀ x ∈ p0, x.block < W.heap.size := by obtain ⟨m, hm⟩ := k0; exact DataW.trod_lt m _ _ _ hm
  obtain ⟨a0, len0, cap0, rfl⟩ := okWide_slice Try.underlying36 (hval 0 36 v0 rfl rfl)
  obtain ⟨l0, g0⟩ : ∃ l, ArgI W (.slice a0 len0 cap0) l := by
    obtain ⟨fuel, hf⟩ := h0
    refine open_ints (x := (d0, p0)) (by simpa [Value.cells] using hf) (fun e s hd => ?_)
    have hs := sized_slice hsz (j := 0) (t := 36) (elems := e) (spare := s) rfl (by simp only at hd; rw [hd]; rfl) Try.underlying36
    rw [show Try.checked.prog.bytesOf 3 = 8 by kernel_rfl] at hs
    exact Nat.le_trans hs (by decide)
  have k1 := h1
  have lt1 : ∀ x ∈ p1, x.block < W.heap.size := by obtain ⟨m, hm⟩ := k1; exact DataW.trod_lt m _ _ _ hm
  obtain ⟨a1, len1, cap1, rfl⟩ := okWide_slice Try.underlying35 (hval 1 35 v1 rfl rfl)
  obtain ⟨l1, g1⟩ : ∃ l, ArgC W (.slice a1 len1 cap1) l := by
    obtain ⟨fuel, hf⟩ := h1
    refine open_rcons (x := (d1, p1)) (by simpa [Value.cells] using hf) (fun e s hd => ?_)
    have hs := sized_slice hsz (j := 1) (t := 35) (elems := e) (spare := s) rfl (by simp only at hd; rw [hd]; rfl) Try.underlying35
    rw [show Try.checked.prog.bytesOf 72 = 24 by kernel_rfl] at hs
    exact Nat.le_trans hs (by decide)
  have k2 := h2
  have lt2 : ∀ x ∈ p2, x.block < W.heap.size := by obtain ⟨m, hm⟩ := k2; exact DataW.trod_lt m _ _ _ hm
  obtain ⟨a2, len2, cap2, rfl⟩ := okWide_slice Try.underlying35 (hval 2 35 v2 rfl rfl)
  obtain ⟨l2, g2⟩ : ∃ l, ArgC W (.slice a2 len2 cap2) l := by
    obtain ⟨fuel, hf⟩ := h2
    refine open_rcons (x := (d2, p2)) (by simpa [Value.cells] using hf) (fun e s hd => ?_)
    have hs := sized_slice hsz (j := 2) (t := 35) (elems := e) (spare := s) rfl (by simp only at hd; rw [hd]; rfl) Try.underlying35
    rw [show Try.checked.prog.bytesOf 72 = 24 by kernel_rfl] at hs
    exact Nat.le_trans hs (by decide)
  have k3 := h3
  have lt3 : ∀ x ∈ p3, x.block < W.heap.size := by obtain ⟨m, hm⟩ := k3; exact DataW.trod_lt m _ _ _ hm
  obtain ⟨o3, g3⟩ : ∃ o, ArgO W v3 o := open_op (hval 3 56 v3 rfl rfl) h3 (fun n hn => Nat.le_trans (of_decide_eq_true (List.all_eq_true.1 hsz n (DataW.weights_mem_each (j := 3) (t := 56) rfl rfl n hn))) (by decide))
  clear hA0 hval0 hval hfz hnd hcnd hA
  refine (holds_any W _ l0 g0 _ l1 g1 _ l2 g2 _ o3 g3).mono fun e W' ⟨he, bel⟩ => ?_
  subst he
  exact ⟨_, rfl, _, _, _, [], _, [], hW', trodAll_mk1 (shut_bool Try.underlying4 _), (trodAll_cons_mk (Below.trod laidOut (by kernel_rfl) (of_decide_eq_true (by kernel_rfl)) k0 bel lt0) (trodAll_cons_mk (Below.trod laidOut (by kernel_rfl) (of_decide_eq_true (by kernel_rfl)) k1 bel lt1) (trodAll_cons_mk (Below.trod laidOut (by kernel_rfl) (of_decide_eq_true (by kernel_rfl)) k2 bel lt2) (trodAll_cons_mk (Below.trod laidOut (by kernel_rfl) (of_decide_eq_true (by kernel_rfl)) k3 bel lt3) trodAll_mk0)))), rfl, bel.frame _, fun h => by cases h⟩

theorem ZoneHolds_holds : Rows.ZoneHoldsSaid :=
  OpenClaim.holds_of_wide 10 Try.f10 rfl rfl rfl rfl rfl rfl rfl ⟨rfl, rfl, rfl, rfl, rfl⟩ rfl rfl rfl rfl rfl (by kernel_rfl) Try.func10 (by kernel_rfl)
    (of_decide_eq_true (by kernel_rfl)) (by unfold Func.isWrapper; rw [if_neg (of_decide_eq_false (by kernel_rfl))]; exact ⟨rfl, rfl⟩)
    (fun os started H enc _ => zoneHolds_lifted os started H enc)
#print axioms ZoneHolds_holds

end Go.Proofs.YtfpbjjdlchplnaaR
