/- ZoneOrdered returns true for every input; nothing that was there is turned. -/
import Derived.Test.YtfpbjjdlchplnaaROrdP
import Derived.Test.YtfpbjjdlchplnaaRWrong
import Derived.Test.YtfpbjjdlchplnaaRFrame
namespace Go.Proofs.YtfpbjjdlchplnaaR
open Go Go.RowKit Go.Wr
open Go.ChangeShapes Go.WideShapes Go.ChangeAt
set_option maxHeartbeats 4000000
set_option maxRecDepth 100000

theorem ArgC.sl {w : World} {v : Value} {l : List Cn} (h : ArgC w v l) : Sl3 w v l := h.1
theorem ArgC.len {w : World} {v : Value} {l : List Cn} (h : ArgC w v l) : l.length * 24 ≤ 140737488355328 := by have := h.2.1; omega
theorem ArgC.small {w : World} {v : Value} {l : List Cn} (h : ArgC w v l) : l.length ≤ 9223372036854775807 := by have := h.2.1; omega

theorem ordered_main (w : World) (c1 : Value) (l1 : List Cn) (h1 : ArgC w c1 l1) (c2 : Value) (l2 : List Cn) (h2 : ArgC w c2 l2) (c3 : Value) (l3 : List Cn) (h3 : ArgC w c3 l3)
    (q1 : wrongL l1 = 0) (q2 : wrongL l2 = 0) (q3 : wrongL l3 = 0) :
    Calls Try.prog 8 #[c1, c2, c3] w fun e w' => e = .returned (.bool true) ∧ Below w.heap.size w w' := by
  have H1 := Lib.hid h1
  have H2 := Lib.hid h2
  have H3 := Lib.hid h3
  have Q1 := Lib.hid q1
  have Q2 := Lib.hid q2
  have Q3 := Lib.hid q3
  clear h1 h2 h3 q1 q2 q3
  have hra : Rng (zwith znew l1).m := zwith_rng topT_rng
  have hrb : Rng (zwith (zwith znew l1) l2).m := zwith_rng hra
  have hrc : Rng (zwith znew l3).m := zwith_rng topT_rng
  have W1 := Lib.hid (within_refl (zwith znew l1))
  have W2 := Lib.hid (zwith_within l2 (zwith znew l1))
  have W3 := Lib.hid (join_left (zwith (zwith znew l1) l2) (zwith znew l3))
  have W4 := Lib.hid (join_right (zwith (zwith znew l1) l2) (zwith znew l3))
  have W7 := Lib.hid (widen_join hrb hrc)
  have W5 := Lib.hid (within_trans W3.out W7.out)
  have W6 := Lib.hid (within_trans W4.out W7.out)
  have W8 : Hid (withinZ (zwith znew l3) (zwith znew l1) = true → withinZ (joinZ max (zwith (zwith znew l1) l2) (zwith znew l3)) (zwith znew l1) = true) := fun h => join_least W2.out h
  have W9 : Hid (withinZ (zwith (zwith znew l1) l2) (zwith znew l3) = true → sameZ (joinZ max (zwith (zwith znew l1) l2) (zwith znew l3)) (zwith znew l3) = true) := fun h => join_same h
  have W10 : Hid (withinZ (zwith znew l1) (zwith (zwith znew l1) l2) = true → sameZ (zwith znew l1) (zwith (zwith znew l1) l2) = true) := fun h => same_of_within h W2.out
  have HRA := Lib.hid hra
  have HRC := Lib.hid hrc
  obtain ⟨A, HA⟩ : ∃ A, Hid (A = zwith znew l1) := ⟨_, rfl⟩
  obtain ⟨B, HB⟩ : ∃ B, Hid (B = zwith (zwith znew l1) l2) := ⟨_, rfl⟩
  obtain ⟨C, HC⟩ : ∃ C, Hid (C = zwith znew l3) := ⟨_, rfl⟩
  rw [← HC.out] at W3 W4 W5 W6 W7 W8 W9 HRC
  rw [← HB.out] at W2 W3 W4 W5 W6 W7 W8 W9 W10
  rw [← HA.out] at W1 W2 W8 W10 HRA
  clear hra hrb hrc
  have hB' : Hid (B = zwith A l2) := by show _ = _; rw [HA.out]; exact HB.out
  go_enter Try.func8, Try.ntmps8
  go_wp2_with fail
  refine (rwrong_any _ _ l1 H1.out.sl).mono ?_
  rintro e w1 ⟨rfl, b1⟩
  rw [Q1.out]
  go_wp2_with fail
  refine (rwrong_any _ _ l2 (H2.out.sl.below b1)).mono ?_
  rintro e w2 ⟨rfl, b2⟩
  rw [Q2.out]
  have t2 := bThen b1 b2
  go_wp2_with fail
  refine (rwrong_any _ _ l3 (H3.out.sl.below t2)).mono ?_
  rintro e w3 ⟨rfl, b3⟩
  rw [Q3.out]
  have t3 := bThen t2 b3
  clear b1 b2 b3 t2
  go_wp2_with fail
  refine (new_any _).mono ?_
  rintro e w4 ⟨p4, rfl, z4, b4⟩
  have t4 := bThen t3 b4
  go_wp2_with fail
  refine (lcons_any _ _ l1 (H1.out.sl.below t4) H1.out.len).mono ?_
  rintro e w5 ⟨v5, rfl, o5, b5⟩
  have t5 := bThen t4 b5
  go_wp2_with fail
  refine (with_ok _ p4 znew (z4.below b5 z4.lt) topT_rng _ l1 (Sl3.own o5 rfl H1.out.small) Q1.out).mono ?_
  rintro e w6 ⟨pa, rfl, za, b6⟩
  rw [← HA.out] at za
  have t6 := bThen t5 b6
  clear b4 b5 b6 t3 t4 t5 z4 o5
  go_wp2_with fail
  refine (lcons_any _ _ l2 (H2.out.sl.below t6) H2.out.len).mono ?_
  rintro e w7 ⟨v7, rfl, o7, b7⟩
  have t7 := bThen t6 b7
  go_wp2_with fail
  refine (with_ok _ pa A (za.below b7 za.lt) HRA.out _ l2 (Sl3.own o7 rfl H2.out.small) Q2.out).mono ?_
  rintro e w8 ⟨pb, rfl, zb, b8⟩
  rw [← hB'.out] at zb
  have t8 := bThen t7 b8
  have za8 := za.below (bThen b7 b8) za.lt
  clear b7 b8 t6 t7 o7 za
  go_wp2_with fail
  refine (new_any _).mono ?_
  rintro e w9 ⟨p9, rfl, z9, b9⟩
  have t9 := bThen t8 b9
  go_wp2_with fail
  refine (lcons_any _ _ l3 (H3.out.sl.below t9) H3.out.len).mono ?_
  rintro e w10 ⟨v10, rfl, o10, b10⟩
  have t10 := bThen t9 b10
  go_wp2_with fail
  refine (with_ok _ p9 znew (z9.below b10 z9.lt) topT_rng _ l3 (Sl3.own o10 rfl H3.out.small) Q3.out).mono ?_
  rintro e w11 ⟨pc, rfl, zc, b11⟩
  rw [← HC.out] at zc
  have t11 := bThen t10 b11
  have s11 := bThen (bThen b9 b10) b11
  have za11 := za8.below s11 za8.lt
  have zb11 := zb.below s11 zb.lt
  clear b9 b10 b11 t8 t9 t10 z9 o10 za8 zb s11
  go_wp2_with fail
  refine (within_any _ pa pa A A za11 za11).mono ?_
  rintro e w12 ⟨rfl, b12⟩
  rw [W1.out]
  go_wp2_with fail
  refine (within_any _ pb pa B A (zb11.below b12 zb11.lt) (za11.below b12 za11.lt)).mono ?_
  rintro e w13 ⟨rfl, b13⟩
  rw [W2.out]
  have s13 := bThen b12 b13
  have t13 := bThen t11 s13
  have za13 := za11.below s13 za11.lt
  have zb13 := zb11.below s13 zb11.lt
  have zc13 := zc.below s13 zc.lt
  clear b12 b13 t11 s13 za11 zb11 zc
  go_wp2_with fail
  refine (within_any _ pa pb A B za13 zb13).mono ?_
  rintro e w14 ⟨rfl, b14⟩
  cases hab : withinZ A B with
  | true =>
    have HAB := Lib.hid hab
    clear hab
    have t14 := bThen t13 b14
    have za14 := za13.below b14 za13.lt
    have zb14 := zb13.below b14 zb13.lt
    have zc14 := zc13.below b14 zc13.lt
    clear b14 t13 za13 zb13 zc13
    go_wp2_with fail
    refine (sameZ_any _ pa pb A B za14 zb14).mono ?_
    rintro e w15 ⟨rfl, b15⟩
    rw [W10.out HAB.out]
    have t15 := bThen t14 b15
    have za15 := za14.below b15 za14.lt
    have zb15 := zb14.below b15 zb14.lt
    have zc15 := zc14.below b15 zc14.lt
    clear b15 t14 za14 zb14 zc14
    go_wp2_with fail
    have HS := Lib.hid (same_comm A B)
    refine (sameZ_any _ pa pb A B za15 zb15).mono ?_
    rintro e w16 ⟨rfl, b16⟩
    rw [W10.out HAB.out]
    have t16 := bThen t15 b16
    have za16 := za15.below b16 za15.lt
    have zb16 := zb15.below b16 zb15.lt
    have zc16 := zc15.below b16 zc15.lt
    clear b16 t15 za15 zb15 zc15
    go_wp2_with fail
    refine (sameZ_any _ pb pa B A zb16 za16).mono ?_
    rintro e w17 ⟨rfl, b17⟩
    rw [← HS.out, W10.out HAB.out]
    have t17 := bThen t16 b17
    have za17 := za16.below b17 za16.lt
    have zb17 := zb16.below b17 zb16.lt
    have zc17 := zc16.below b17 zc16.lt
    clear b17 t16 za16 zb16 zc16
    go_wp2_with fail
    refine (join_any _ pb pc B C zb17 zc17).mono ?_
    rintro e w18 ⟨pj, rfl, zj18, b18⟩
    have t18 := bThen t17 b18
    have za18 := za17.below b18 za17.lt
    have zb18 := zb17.below b18 zb17.lt
    have zc18 := zc17.below b18 zc17.lt
    clear b18 t17 za17 zb17 zc17
    go_wp2_with fail
    refine (widen_any _ pb pc B C zb18 zc18).mono ?_
    rintro e w19 ⟨pw, rfl, zw19, b19⟩
    have t19 := bThen t18 b19
    have za19 := za18.below b19 za18.lt
    have zb19 := zb18.below b19 zb18.lt
    have zc19 := zc18.below b19 zc18.lt
    have zj19 := zj18.below b19 zj18.lt
    clear b19 t18 za18 zb18 zc18 zj18
    go_wp2_with fail
    refine (within_any _ pb pj B (joinZ max B C) zb19 zj19).mono ?_
    rintro e w20 ⟨rfl, b20⟩
    rw [W3.out]
    have t20 := bThen t19 b20
    have za20 := za19.below b20 za19.lt
    have zb20 := zb19.below b20 zb19.lt
    have zc20 := zc19.below b20 zc19.lt
    have zj20 := zj19.below b20 zj19.lt
    have zw20 := zw19.below b20 zw19.lt
    clear b20 t19 za19 zb19 zc19 zj19 zw19
    go_wp2_with fail
    refine (within_any _ pc pj C (joinZ max B C) zc20 zj20).mono ?_
    rintro e w21 ⟨rfl, b21⟩
    rw [W4.out]
    have t21 := bThen t20 b21
    have za21 := za20.below b21 za20.lt
    have zb21 := zb20.below b21 zb20.lt
    have zc21 := zc20.below b21 zc20.lt
    have zj21 := zj20.below b21 zj20.lt
    have zw21 := zw20.below b21 zw20.lt
    clear b21 t20 za20 zb20 zc20 zj20 zw20
    go_wp2_with fail
    refine (within_any _ pb pw B (joinZ wid B C) zb21 zw21).mono ?_
    rintro e w22 ⟨rfl, b22⟩
    rw [W5.out]
    have t22 := bThen t21 b22
    have za22 := za21.below b22 za21.lt
    have zb22 := zb21.below b22 zb21.lt
    have zc22 := zc21.below b22 zc21.lt
    have zj22 := zj21.below b22 zj21.lt
    have zw22 := zw21.below b22 zw21.lt
    clear b22 t21 za21 zb21 zc21 zj21 zw21
    go_wp2_with fail
    refine (within_any _ pc pw C (joinZ wid B C) zc22 zw22).mono ?_
    rintro e w23 ⟨rfl, b23⟩
    rw [W6.out]
    have t23 := bThen t22 b23
    have za23 := za22.below b23 za22.lt
    have zb23 := zb22.below b23 zb22.lt
    have zc23 := zc22.below b23 zc22.lt
    have zj23 := zj22.below b23 zj22.lt
    have zw23 := zw22.below b23 zw22.lt
    clear b23 t22 za22 zb22 zc22 zj22 zw22
    go_wp2_with fail
    refine (within_any _ pj pw (joinZ max B C) (joinZ wid B C) zj23 zw23).mono ?_
    rintro e w24 ⟨rfl, b24⟩
    rw [W7.out]
    have t24 := bThen t23 b24
    have za24 := za23.below b24 za23.lt
    have zb24 := zb23.below b24 zb23.lt
    have zc24 := zc23.below b24 zc23.lt
    have zj24 := zj23.below b24 zj23.lt
    have zw24 := zw23.below b24 zw23.lt
    clear b24 t23 za23 zb23 zc23 zj23 zw23
    go_wp2_with fail
    refine (within_any _ pc pa C A zc24 za24).mono ?_
    rintro e w25 ⟨rfl, b25⟩
    cases hca : withinZ C A with
    | true =>
      have HCA := Lib.hid hca
      clear hca
      have t25 := bThen t24 b25
      have za25 := za24.below b25 za24.lt
      have zb25 := zb24.below b25 zb24.lt
      have zc25 := zc24.below b25 zc24.lt
      have zj25 := zj24.below b25 zj24.lt
      clear b25 t24 za24 zb24 zc24 zj24
      go_wp2_with fail
      refine (within_any _ pj pa (joinZ max B C) A zj25 za25).mono ?_
      rintro e w26 ⟨rfl, b26⟩
      rw [W8.out HCA.out]
      have t26 := bThen t25 b26
      have za26 := za25.below b26 za25.lt
      have zb26 := zb25.below b26 zb25.lt
      have zc26 := zc25.below b26 zc25.lt
      have zj26 := zj25.below b26 zj25.lt
      clear b26 t25 za25 zb25 zc25 zj25
      go_wp2_with fail
      refine (within_any _ pb pc B C zb26 zc26).mono ?_
      rintro e w27 ⟨rfl, b27⟩
      cases hbc : withinZ B C with
      | true =>
        have HBC := Lib.hid hbc
        clear hbc
        have t27 := bThen t26 b27
        have za27 := za26.below b27 za26.lt
        have zb27 := zb26.below b27 zb26.lt
        have zc27 := zc26.below b27 zc26.lt
        have zj27 := zj26.below b27 zj26.lt
        clear b27 t26 za26 zb26 zc26 zj26
        go_wp2_with fail
        refine (sameZ_any _ pj pc (joinZ max B C) C zj27 zc27).mono ?_
        rintro e w28 ⟨rfl, b28⟩
        rw [W9.out HBC.out]
        have t28 := bThen t27 b28
        have za28 := za27.below b28 za27.lt
        have zb28 := zb27.below b28 zb27.lt
        have zc28 := zc27.below b28 zc27.lt
        have zj28 := zj27.below b28 zj27.lt
        clear b28 t27 za27 zb27 zc27 zj27
        go_wp2_with fail
        refine (awake_any _).mono ?_
        rintro e w29 ⟨rfl, b29⟩
        go_wp2
        go_ret
        exact ⟨rfl, bThen t28 b29⟩
      | false =>
        have HBC := Lib.hid hbc
        clear hbc
        have t27 := bThen t26 b27
        have za27 := za26.below b27 za26.lt
        have zb27 := zb26.below b27 zb26.lt
        have zc27 := zc26.below b27 zc26.lt
        have zj27 := zj26.below b27 zj26.lt
        clear b27 t26 za26 zb26 zc26 zj26
        go_wp2_with fail
        refine (awake_any _).mono ?_
        rintro e w28 ⟨rfl, b28⟩
        go_wp2
        go_ret
        exact ⟨rfl, bThen t27 b28⟩
    | false =>
      have HCA := Lib.hid hca
      clear hca
      have t25 := bThen t24 b25
      have za25 := za24.below b25 za24.lt
      have zb25 := zb24.below b25 zb24.lt
      have zc25 := zc24.below b25 zc24.lt
      have zj25 := zj24.below b25 zj24.lt
      clear b25 t24 za24 zb24 zc24 zj24
      go_wp2_with fail
      refine (within_any _ pb pc B C zb25 zc25).mono ?_
      rintro e w26 ⟨rfl, b26⟩
      cases hbc : withinZ B C with
      | true =>
        have HBC := Lib.hid hbc
        clear hbc
        have t26 := bThen t25 b26
        have za26 := za25.below b26 za25.lt
        have zb26 := zb25.below b26 zb25.lt
        have zc26 := zc25.below b26 zc25.lt
        have zj26 := zj25.below b26 zj25.lt
        clear b26 t25 za25 zb25 zc25 zj25
        go_wp2_with fail
        refine (sameZ_any _ pj pc (joinZ max B C) C zj26 zc26).mono ?_
        rintro e w27 ⟨rfl, b27⟩
        rw [W9.out HBC.out]
        have t27 := bThen t26 b27
        have za27 := za26.below b27 za26.lt
        have zb27 := zb26.below b27 zb26.lt
        have zc27 := zc26.below b27 zc26.lt
        have zj27 := zj26.below b27 zj26.lt
        clear b27 t26 za26 zb26 zc26 zj26
        go_wp2_with fail
        refine (awake_any _).mono ?_
        rintro e w28 ⟨rfl, b28⟩
        go_wp2
        go_ret
        exact ⟨rfl, bThen t27 b28⟩
      | false =>
        have HBC := Lib.hid hbc
        clear hbc
        have t26 := bThen t25 b26
        have za26 := za25.below b26 za25.lt
        have zb26 := zb25.below b26 zb25.lt
        have zc26 := zc25.below b26 zc25.lt
        have zj26 := zj25.below b26 zj25.lt
        clear b26 t25 za25 zb25 zc25 zj25
        go_wp2_with fail
        refine (awake_any _).mono ?_
        rintro e w27 ⟨rfl, b27⟩
        go_wp2
        go_ret
        exact ⟨rfl, bThen t26 b27⟩
  | false =>
    have HAB := Lib.hid hab
    clear hab
    have t14 := bThen t13 b14
    have za14 := za13.below b14 za13.lt
    have zb14 := zb13.below b14 zb13.lt
    have zc14 := zc13.below b14 zc13.lt
    clear b14 t13 za13 zb13 zc13
    go_wp2_with fail
    have HS := Lib.hid (same_comm A B)
    refine (sameZ_any _ pa pb A B za14 zb14).mono ?_
    rintro e w15 ⟨rfl, b15⟩
    cases hsm : sameZ A B with
    | true =>
      have HSM := Lib.hid hsm
      clear hsm
      have t15 := bThen t14 b15
      have za15 := za14.below b15 za14.lt
      have zb15 := zb14.below b15 zb14.lt
      have zc15 := zc14.below b15 zc14.lt
      clear b15 t14 za14 zb14 zc14
      go_wp2_with fail
      refine (sameZ_any _ pb pa B A zb15 za15).mono ?_
      rintro e w16 ⟨rfl, b16⟩
      rw [← HS.out, HSM.out]
      have t16 := bThen t15 b16
      have za16 := za15.below b16 za15.lt
      have zb16 := zb15.below b16 zb15.lt
      have zc16 := zc15.below b16 zc15.lt
      clear b16 t15 za15 zb15 zc15
      go_wp2_with fail
      refine (join_any _ pb pc B C zb16 zc16).mono ?_
      rintro e w17 ⟨pj, rfl, zj17, b17⟩
      have t17 := bThen t16 b17
      have za17 := za16.below b17 za16.lt
      have zb17 := zb16.below b17 zb16.lt
      have zc17 := zc16.below b17 zc16.lt
      clear b17 t16 za16 zb16 zc16
      go_wp2_with fail
      refine (widen_any _ pb pc B C zb17 zc17).mono ?_
      rintro e w18 ⟨pw, rfl, zw18, b18⟩
      have t18 := bThen t17 b18
      have za18 := za17.below b18 za17.lt
      have zb18 := zb17.below b18 zb17.lt
      have zc18 := zc17.below b18 zc17.lt
      have zj18 := zj17.below b18 zj17.lt
      clear b18 t17 za17 zb17 zc17 zj17
      go_wp2_with fail
      refine (within_any _ pb pj B (joinZ max B C) zb18 zj18).mono ?_
      rintro e w19 ⟨rfl, b19⟩
      rw [W3.out]
      have t19 := bThen t18 b19
      have za19 := za18.below b19 za18.lt
      have zb19 := zb18.below b19 zb18.lt
      have zc19 := zc18.below b19 zc18.lt
      have zj19 := zj18.below b19 zj18.lt
      have zw19 := zw18.below b19 zw18.lt
      clear b19 t18 za18 zb18 zc18 zj18 zw18
      go_wp2_with fail
      refine (within_any _ pc pj C (joinZ max B C) zc19 zj19).mono ?_
      rintro e w20 ⟨rfl, b20⟩
      rw [W4.out]
      have t20 := bThen t19 b20
      have za20 := za19.below b20 za19.lt
      have zb20 := zb19.below b20 zb19.lt
      have zc20 := zc19.below b20 zc19.lt
      have zj20 := zj19.below b20 zj19.lt
      have zw20 := zw19.below b20 zw19.lt
      clear b20 t19 za19 zb19 zc19 zj19 zw19
      go_wp2_with fail
      refine (within_any _ pb pw B (joinZ wid B C) zb20 zw20).mono ?_
      rintro e w21 ⟨rfl, b21⟩
      rw [W5.out]
      have t21 := bThen t20 b21
      have za21 := za20.below b21 za20.lt
      have zb21 := zb20.below b21 zb20.lt
      have zc21 := zc20.below b21 zc20.lt
      have zj21 := zj20.below b21 zj20.lt
      have zw21 := zw20.below b21 zw20.lt
      clear b21 t20 za20 zb20 zc20 zj20 zw20
      go_wp2_with fail
      refine (within_any _ pc pw C (joinZ wid B C) zc21 zw21).mono ?_
      rintro e w22 ⟨rfl, b22⟩
      rw [W6.out]
      have t22 := bThen t21 b22
      have za22 := za21.below b22 za21.lt
      have zb22 := zb21.below b22 zb21.lt
      have zc22 := zc21.below b22 zc21.lt
      have zj22 := zj21.below b22 zj21.lt
      have zw22 := zw21.below b22 zw21.lt
      clear b22 t21 za21 zb21 zc21 zj21 zw21
      go_wp2_with fail
      refine (within_any _ pj pw (joinZ max B C) (joinZ wid B C) zj22 zw22).mono ?_
      rintro e w23 ⟨rfl, b23⟩
      rw [W7.out]
      have t23 := bThen t22 b23
      have za23 := za22.below b23 za22.lt
      have zb23 := zb22.below b23 zb22.lt
      have zc23 := zc22.below b23 zc22.lt
      have zj23 := zj22.below b23 zj22.lt
      have zw23 := zw22.below b23 zw22.lt
      clear b23 t22 za22 zb22 zc22 zj22 zw22
      go_wp2_with fail
      refine (within_any _ pc pa C A zc23 za23).mono ?_
      rintro e w24 ⟨rfl, b24⟩
      cases hca : withinZ C A with
      | true =>
        have HCA := Lib.hid hca
        clear hca
        have t24 := bThen t23 b24
        have za24 := za23.below b24 za23.lt
        have zb24 := zb23.below b24 zb23.lt
        have zc24 := zc23.below b24 zc23.lt
        have zj24 := zj23.below b24 zj23.lt
        clear b24 t23 za23 zb23 zc23 zj23
        go_wp2_with fail
        refine (within_any _ pj pa (joinZ max B C) A zj24 za24).mono ?_
        rintro e w25 ⟨rfl, b25⟩
        rw [W8.out HCA.out]
        have t25 := bThen t24 b25
        have za25 := za24.below b25 za24.lt
        have zb25 := zb24.below b25 zb24.lt
        have zc25 := zc24.below b25 zc24.lt
        have zj25 := zj24.below b25 zj24.lt
        clear b25 t24 za24 zb24 zc24 zj24
        go_wp2_with fail
        refine (within_any _ pb pc B C zb25 zc25).mono ?_
        rintro e w26 ⟨rfl, b26⟩
        cases hbc : withinZ B C with
        | true =>
          have HBC := Lib.hid hbc
          clear hbc
          have t26 := bThen t25 b26
          have za26 := za25.below b26 za25.lt
          have zb26 := zb25.below b26 zb25.lt
          have zc26 := zc25.below b26 zc25.lt
          have zj26 := zj25.below b26 zj25.lt
          clear b26 t25 za25 zb25 zc25 zj25
          go_wp2_with fail
          refine (sameZ_any _ pj pc (joinZ max B C) C zj26 zc26).mono ?_
          rintro e w27 ⟨rfl, b27⟩
          rw [W9.out HBC.out]
          have t27 := bThen t26 b27
          have za27 := za26.below b27 za26.lt
          have zb27 := zb26.below b27 zb26.lt
          have zc27 := zc26.below b27 zc26.lt
          have zj27 := zj26.below b27 zj26.lt
          clear b27 t26 za26 zb26 zc26 zj26
          go_wp2_with fail
          refine (awake_any _).mono ?_
          rintro e w28 ⟨rfl, b28⟩
          go_wp2
          go_ret
          exact ⟨rfl, bThen t27 b28⟩
        | false =>
          have HBC := Lib.hid hbc
          clear hbc
          have t26 := bThen t25 b26
          have za26 := za25.below b26 za25.lt
          have zb26 := zb25.below b26 zb25.lt
          have zc26 := zc25.below b26 zc25.lt
          have zj26 := zj25.below b26 zj25.lt
          clear b26 t25 za25 zb25 zc25 zj25
          go_wp2_with fail
          refine (awake_any _).mono ?_
          rintro e w27 ⟨rfl, b27⟩
          go_wp2
          go_ret
          exact ⟨rfl, bThen t26 b27⟩
      | false =>
        have HCA := Lib.hid hca
        clear hca
        have t24 := bThen t23 b24
        have za24 := za23.below b24 za23.lt
        have zb24 := zb23.below b24 zb23.lt
        have zc24 := zc23.below b24 zc23.lt
        have zj24 := zj23.below b24 zj23.lt
        clear b24 t23 za23 zb23 zc23 zj23
        go_wp2_with fail
        refine (within_any _ pb pc B C zb24 zc24).mono ?_
        rintro e w25 ⟨rfl, b25⟩
        cases hbc : withinZ B C with
        | true =>
          have HBC := Lib.hid hbc
          clear hbc
          have t25 := bThen t24 b25
          have za25 := za24.below b25 za24.lt
          have zb25 := zb24.below b25 zb24.lt
          have zc25 := zc24.below b25 zc24.lt
          have zj25 := zj24.below b25 zj24.lt
          clear b25 t24 za24 zb24 zc24 zj24
          go_wp2_with fail
          refine (sameZ_any _ pj pc (joinZ max B C) C zj25 zc25).mono ?_
          rintro e w26 ⟨rfl, b26⟩
          rw [W9.out HBC.out]
          have t26 := bThen t25 b26
          have za26 := za25.below b26 za25.lt
          have zb26 := zb25.below b26 zb25.lt
          have zc26 := zc25.below b26 zc25.lt
          have zj26 := zj25.below b26 zj25.lt
          clear b26 t25 za25 zb25 zc25 zj25
          go_wp2_with fail
          refine (awake_any _).mono ?_
          rintro e w27 ⟨rfl, b27⟩
          go_wp2
          go_ret
          exact ⟨rfl, bThen t26 b27⟩
        | false =>
          have HBC := Lib.hid hbc
          clear hbc
          have t25 := bThen t24 b25
          have za25 := za24.below b25 za24.lt
          have zb25 := zb24.below b25 zb24.lt
          have zc25 := zc24.below b25 zc24.lt
          have zj25 := zj24.below b25 zj24.lt
          clear b25 t24 za24 zb24 zc24 zj24
          go_wp2_with fail
          refine (awake_any _).mono ?_
          rintro e w26 ⟨rfl, b26⟩
          go_wp2
          go_ret
          exact ⟨rfl, bThen t25 b26⟩
    | false =>
      have HSM := Lib.hid hsm
      clear hsm
      have t15 := bThen t14 b15
      have za15 := za14.below b15 za14.lt
      have zb15 := zb14.below b15 zb14.lt
      have zc15 := zc14.below b15 zc14.lt
      clear b15 t14 za14 zb14 zc14
      go_wp2_with fail
      refine (sameZ_any _ pb pa B A zb15 za15).mono ?_
      rintro e w16 ⟨rfl, b16⟩
      rw [← HS.out, HSM.out]
      have t16 := bThen t15 b16
      have za16 := za15.below b16 za15.lt
      have zb16 := zb15.below b16 zb15.lt
      have zc16 := zc15.below b16 zc15.lt
      clear b16 t15 za15 zb15 zc15
      go_wp2_with fail
      refine (join_any _ pb pc B C zb16 zc16).mono ?_
      rintro e w17 ⟨pj, rfl, zj17, b17⟩
      have t17 := bThen t16 b17
      have za17 := za16.below b17 za16.lt
      have zb17 := zb16.below b17 zb16.lt
      have zc17 := zc16.below b17 zc16.lt
      clear b17 t16 za16 zb16 zc16
      go_wp2_with fail
      refine (widen_any _ pb pc B C zb17 zc17).mono ?_
      rintro e w18 ⟨pw, rfl, zw18, b18⟩
      have t18 := bThen t17 b18
      have za18 := za17.below b18 za17.lt
      have zb18 := zb17.below b18 zb17.lt
      have zc18 := zc17.below b18 zc17.lt
      have zj18 := zj17.below b18 zj17.lt
      clear b18 t17 za17 zb17 zc17 zj17
      go_wp2_with fail
      refine (within_any _ pb pj B (joinZ max B C) zb18 zj18).mono ?_
      rintro e w19 ⟨rfl, b19⟩
      rw [W3.out]
      have t19 := bThen t18 b19
      have za19 := za18.below b19 za18.lt
      have zb19 := zb18.below b19 zb18.lt
      have zc19 := zc18.below b19 zc18.lt
      have zj19 := zj18.below b19 zj18.lt
      have zw19 := zw18.below b19 zw18.lt
      clear b19 t18 za18 zb18 zc18 zj18 zw18
      go_wp2_with fail
      refine (within_any _ pc pj C (joinZ max B C) zc19 zj19).mono ?_
      rintro e w20 ⟨rfl, b20⟩
      rw [W4.out]
      have t20 := bThen t19 b20
      have za20 := za19.below b20 za19.lt
      have zb20 := zb19.below b20 zb19.lt
      have zc20 := zc19.below b20 zc19.lt
      have zj20 := zj19.below b20 zj19.lt
      have zw20 := zw19.below b20 zw19.lt
      clear b20 t19 za19 zb19 zc19 zj19 zw19
      go_wp2_with fail
      refine (within_any _ pb pw B (joinZ wid B C) zb20 zw20).mono ?_
      rintro e w21 ⟨rfl, b21⟩
      rw [W5.out]
      have t21 := bThen t20 b21
      have za21 := za20.below b21 za20.lt
      have zb21 := zb20.below b21 zb20.lt
      have zc21 := zc20.below b21 zc20.lt
      have zj21 := zj20.below b21 zj20.lt
      have zw21 := zw20.below b21 zw20.lt
      clear b21 t20 za20 zb20 zc20 zj20 zw20
      go_wp2_with fail
      refine (within_any _ pc pw C (joinZ wid B C) zc21 zw21).mono ?_
      rintro e w22 ⟨rfl, b22⟩
      rw [W6.out]
      have t22 := bThen t21 b22
      have za22 := za21.below b22 za21.lt
      have zb22 := zb21.below b22 zb21.lt
      have zc22 := zc21.below b22 zc21.lt
      have zj22 := zj21.below b22 zj21.lt
      have zw22 := zw21.below b22 zw21.lt
      clear b22 t21 za21 zb21 zc21 zj21 zw21
      go_wp2_with fail
      refine (within_any _ pj pw (joinZ max B C) (joinZ wid B C) zj22 zw22).mono ?_
      rintro e w23 ⟨rfl, b23⟩
      rw [W7.out]
      have t23 := bThen t22 b23
      have za23 := za22.below b23 za22.lt
      have zb23 := zb22.below b23 zb22.lt
      have zc23 := zc22.below b23 zc22.lt
      have zj23 := zj22.below b23 zj22.lt
      have zw23 := zw22.below b23 zw22.lt
      clear b23 t22 za22 zb22 zc22 zj22 zw22
      go_wp2_with fail
      refine (within_any _ pc pa C A zc23 za23).mono ?_
      rintro e w24 ⟨rfl, b24⟩
      cases hca : withinZ C A with
      | true =>
        have HCA := Lib.hid hca
        clear hca
        have t24 := bThen t23 b24
        have za24 := za23.below b24 za23.lt
        have zb24 := zb23.below b24 zb23.lt
        have zc24 := zc23.below b24 zc23.lt
        have zj24 := zj23.below b24 zj23.lt
        clear b24 t23 za23 zb23 zc23 zj23
        go_wp2_with fail
        refine (within_any _ pj pa (joinZ max B C) A zj24 za24).mono ?_
        rintro e w25 ⟨rfl, b25⟩
        rw [W8.out HCA.out]
        have t25 := bThen t24 b25
        have za25 := za24.below b25 za24.lt
        have zb25 := zb24.below b25 zb24.lt
        have zc25 := zc24.below b25 zc24.lt
        have zj25 := zj24.below b25 zj24.lt
        clear b25 t24 za24 zb24 zc24 zj24
        go_wp2_with fail
        refine (within_any _ pb pc B C zb25 zc25).mono ?_
        rintro e w26 ⟨rfl, b26⟩
        cases hbc : withinZ B C with
        | true =>
          have HBC := Lib.hid hbc
          clear hbc
          have t26 := bThen t25 b26
          have za26 := za25.below b26 za25.lt
          have zb26 := zb25.below b26 zb25.lt
          have zc26 := zc25.below b26 zc25.lt
          have zj26 := zj25.below b26 zj25.lt
          clear b26 t25 za25 zb25 zc25 zj25
          go_wp2_with fail
          refine (sameZ_any _ pj pc (joinZ max B C) C zj26 zc26).mono ?_
          rintro e w27 ⟨rfl, b27⟩
          rw [W9.out HBC.out]
          have t27 := bThen t26 b27
          have za27 := za26.below b27 za26.lt
          have zb27 := zb26.below b27 zb26.lt
          have zc27 := zc26.below b27 zc26.lt
          have zj27 := zj26.below b27 zj26.lt
          clear b27 t26 za26 zb26 zc26 zj26
          go_wp2_with fail
          refine (awake_any _).mono ?_
          rintro e w28 ⟨rfl, b28⟩
          go_wp2
          go_ret
          exact ⟨rfl, bThen t27 b28⟩
        | false =>
          have HBC := Lib.hid hbc
          clear hbc
          have t26 := bThen t25 b26
          have za26 := za25.below b26 za25.lt
          have zb26 := zb25.below b26 zb25.lt
          have zc26 := zc25.below b26 zc25.lt
          have zj26 := zj25.below b26 zj25.lt
          clear b26 t25 za25 zb25 zc25 zj25
          go_wp2_with fail
          refine (awake_any _).mono ?_
          rintro e w27 ⟨rfl, b27⟩
          go_wp2
          go_ret
          exact ⟨rfl, bThen t26 b27⟩
      | false =>
        have HCA := Lib.hid hca
        clear hca
        have t24 := bThen t23 b24
        have za24 := za23.below b24 za23.lt
        have zb24 := zb23.below b24 zb23.lt
        have zc24 := zc23.below b24 zc23.lt
        have zj24 := zj23.below b24 zj23.lt
        clear b24 t23 za23 zb23 zc23 zj23
        go_wp2_with fail
        refine (within_any _ pb pc B C zb24 zc24).mono ?_
        rintro e w25 ⟨rfl, b25⟩
        cases hbc : withinZ B C with
        | true =>
          have HBC := Lib.hid hbc
          clear hbc
          have t25 := bThen t24 b25
          have za25 := za24.below b25 za24.lt
          have zb25 := zb24.below b25 zb24.lt
          have zc25 := zc24.below b25 zc24.lt
          have zj25 := zj24.below b25 zj24.lt
          clear b25 t24 za24 zb24 zc24 zj24
          go_wp2_with fail
          refine (sameZ_any _ pj pc (joinZ max B C) C zj25 zc25).mono ?_
          rintro e w26 ⟨rfl, b26⟩
          rw [W9.out HBC.out]
          have t26 := bThen t25 b26
          have za26 := za25.below b26 za25.lt
          have zb26 := zb25.below b26 zb25.lt
          have zc26 := zc25.below b26 zc25.lt
          have zj26 := zj25.below b26 zj25.lt
          clear b26 t25 za25 zb25 zc25 zj25
          go_wp2_with fail
          refine (awake_any _).mono ?_
          rintro e w27 ⟨rfl, b27⟩
          go_wp2
          go_ret
          exact ⟨rfl, bThen t26 b27⟩
        | false =>
          have HBC := Lib.hid hbc
          clear hbc
          have t25 := bThen t24 b25
          have za25 := za24.below b25 za24.lt
          have zb25 := zb24.below b25 zb24.lt
          have zc25 := zc24.below b25 zc24.lt
          have zj25 := zj24.below b25 zj24.lt
          clear b25 t24 za24 zb24 zc24 zj24
          go_wp2_with fail
          refine (awake_any _).mono ?_
          rintro e w26 ⟨rfl, b26⟩
          go_wp2
          go_ret
          exact ⟨rfl, bThen t25 b26⟩

end Go.Proofs.YtfpbjjdlchplnaaR
