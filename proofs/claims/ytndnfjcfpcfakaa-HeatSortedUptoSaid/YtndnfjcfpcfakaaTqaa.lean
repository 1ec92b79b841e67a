/- What the law needs, one part after another: walks of functions and plain laws. No conditions but those that each law names. -/
import Derived.Test.YtndnfjcfpcfakaaTpak
namespace Go.Proofs.Ytndnfjcfpcfakaa
open Go Go.RowKit Go.Wr Go.Fl
set_option maxHeartbeats 4000000
set_option maxRecDepth 100000
theorem bmap_congr {n : Nat} {V V' : Nat → Bool} (h : ∀ j, j < n → V j = V' j) : (List.range n).map V = (List.range n).map V' := by
 apply List.map_congr_left
 intro j hj
 exact h j (by simpa using hj)
end Go.Proofs.Ytndnfjcfpcfakaa
namespace Go.Proofs.Ytndnfjcfpcfakaa
open Go Go.RowKit Go.Wr Go.Fl Go.Ht
set_option maxHeartbeats 40000000
set_option maxRecDepth 100000
theorem gt_no {x y : Nat} (h : ky y ≤ ky x) : (FloatKind.f64.format.order y x == some .gt) = false := by
 refine (gt_ky y x).trans ?_
 rw [decide_eq_false (by omega), Bool.and_false]
theorem nan_le {x y : Nat} (h : ky y ≤ ky x) (hx : nanB x = true) : nanB y = true := by
 cases hy : nanB y with
 | true => rfl
 | false => have := nan_low hx hy; omega
theorem self_ne {x : Nat} : (FloatKind.f64.format.order x x != some .eq) = nanB x := by
 have e : (FloatKind.f64.format.order x x == some .eq) = !nanB x := eq_self x
 unfold bne
 rw [e, Bool.not_not]
theorem self_eq {x : Nat} : (FloatKind.f64.format.order x x == some .eq) = !nanB x := eq_self x
theorem eq_nan {x y : Nat} (hx : nanB x = true) : (FloatKind.f64.format.order y x == some .eq) = false := by
 refine (eq_ky y x).trans ?_
 rw [hx, Bool.not_true, Bool.and_false, Bool.false_and]
theorem cut_le (n : Int) (m : Nat) : cutN n m ≤ m := by unfold cutN; omega
theorem in_iot {F : List Nat} {Z T : List Int} {n : Int} (h : Z.Perm (iot F.length) ∧ Z.Pairwise (Ht.Rk (kOf F)) ∧ T = Z.take (cutN n F.length) ∧ T.length = cutN n F.length) {i : Nat} {c : Int} (hc : T[i]? = some c) : 0 ≤ c ∧ c < F.length := by
 have hm : c ∈ T := List.mem_of_getElem? hc
 rw [h.2.2.1] at hm
 exact iot_mem.1 (h.1.mem_iff.1 (List.mem_of_mem_take hm))
theorem rk_at {F : List Nat} {Z T : List Int} {n : Int} (h : Z.Perm (iot F.length) ∧ Z.Pairwise (Ht.Rk (kOf F)) ∧ T = Z.take (cutN n F.length) ∧ T.length = cutN n F.length) {i j : Nat} {a b : Int} (hij : i < j) (ha : T[i]? = some a) (hb : T[j]? = some b) : Ht.Rk (kOf F) a b := by
 have hs : T.Pairwise (Ht.Rk (kOf F)) := by rw [h.2.2.1]; exact h.2.1.sublist (List.take_sublist _ _)
 obtain ⟨h1, rfl⟩ := List.getElem?_eq_some_iff.1 ha
 obtain ⟨h2, rfl⟩ := List.getElem?_eq_some_iff.1 hb
 exact List.pairwise_iff_getElem.1 hs i j h1 h2 hij
theorem not_take {F : List Nat} {Z T : List Int} {n : Int} (h : Z.Perm (iot F.length) ∧ Z.Pairwise (Ht.Rk (kOf F)) ∧ T = Z.take (cutN n F.length) ∧ T.length = cutN n F.length) {i : Nat} {c : Int} (hc : T[i]? = some c) : c ∉ T.take i := fun hm => by
 obtain ⟨k, hk, he⟩ := List.mem_iff_getElem.1 hm
 rw [List.length_take] at hk
 have hk2 : T[k]? = some c := by rw [List.getElem_take] at he; rw [← he]; exact List.getElem?_eq_getElem (by omega)
 have := rk_at h (show k < i by omega) hk2 hc
 unfold Ht.Rk at this
 omega
theorem rk_out {F : List Nat} {Z T : List Int} {n : Int} (h : Z.Perm (iot F.length) ∧ Z.Pairwise (Ht.Rk (kOf F)) ∧ T = Z.take (cutN n F.length) ∧ T.length = cutN n F.length) {x y : Int} (hx0 : 0 ≤ x) (hx1 : x < F.length) (hx : x ∉ T) (hy : y ∈ T) : Ht.Rk (kOf F) y x := by
 have hxz : x ∈ Z := h.1.mem_iff.2 (iot_mem.2 ⟨hx0, hx1⟩)
 rw [h.2.2.1] at hx hy
 have hsp : (Z.take (cutN n F.length) ++ Z.drop (cutN n F.length)).Pairwise (Ht.Rk (kOf F)) := by rw [List.take_append_drop]; exact h.2.1
 have hxd : x ∈ Z.drop (cutN n F.length) := by
  rw [← List.take_append_drop (cutN n F.length) Z] at hxz
  exact (List.mem_append.1 hxz).resolve_left hx
 exact (List.pairwise_append.1 hsp).2.2 y hy x hxd
theorem sorted_ok (w : World) (q : Nat) (v : Value) (l : List Int) (h : SlX tU q w v l) (hl : l.length ≤ 1048576) (n : Int) : Calls Try.prog 6 #[v, .int .i64 n] w fun e w' => e = .returned (.bool true) ∧ Below w.heap.size w w' := by
 obtain ⟨a0, cap, rfl, h1, h2⟩ := h.form
 have H := Lib.hid h
 unfold maxLen at h2
 clear h
 obtain ⟨F, hF⟩ : ∃ F, F = l.map Int.toNat := ⟨_, rfl⟩
 have hFn : F.length ≤ 1048576 := by rw [hF, List.length_map]; exact hl
 have HF := Lib.hid hF
 go_enter Try.func6, Try.ntmps6
 go_wp2_with fail
 refine (known19_ok _).mono ?_
 rintro e w1 ⟨rfl, b1⟩
 have HB1 := Lib.hid b1
 clear b1
 go_wp2_with fail
 refine (floats_ok w1 q _ l (H.out.below HB1.out) (by omega)).mono ?_
 rintro e w2 ⟨b2, v2, rfl, ho2⟩
 rw [← hF] at ho2
 obtain ⟨fa, fc, rfl, hfc1, hfc2⟩ := (OwR.slz ho2).form
 have HB2 := Lib.hid (bThen HB1.out b2)
 have HO2 := Lib.hid ho2
 clear b2 ho2 hF H h1 h2 hl HB1 HF
 go_wp2_with fail
 refine (htop_ok w2 w2.heap.size _ F n (OwR.slz HO2.out) (by omega)).mono ?_
 rintro e w3 ⟨b3, va, Z, rfl, hp, hs, oa⟩
 obtain ⟨T, hT⟩ : ∃ T, T = Z.take (cutN n F.length) := ⟨_, rfl⟩
 rw [← hT] at oa
 have hZl : Z.length = F.length := by rw [hp.length_eq, iot_len]
 have hTl : T.length = cutN n F.length := by have := cut_le n F.length; rw [hT, List.length_take]; omega
 obtain ⟨ta, tc, rfl, htc1, htc2⟩ := (OwR.slz oa).form
 have HZ := Lib.hid (And.intro hp (And.intro hs (And.intro hT hTl)))
 have HTF := Lib.hid (show T.length ≤ F.length by have := cut_le n F.length; omega)
 have HA := Lib.hid oa
 have HB3 := Lib.hid (bThen HB2.out b3)
 have HO3 := Lib.hid (HO2.out.below b3)
 clear b3 hp hs hT hZl hTl oa HB2 HO2
 obtain ⟨m0, hm0⟩ : ∃ m : Int, m = if n < 0 then 0 else n := ⟨_, rfl⟩
 have HM0 := Lib.hid hm0
 clear hm0
 go_upto_if 21 with (fail)
 go_cut [7] (fun t wc => t = .int .i64 m0 ∧ w3 = wc)
 case first =>
  by_cases hn0 : n < 0
  ·have hv := HM0.out
   rw [if_pos hn0] at hv
   subst hv
   go_wp2
   go_meet
   exact ⟨rfl, rfl⟩
  ·have hv := HM0.out
   rw [if_neg hn0] at hv
   subst hv
   go_wp2
   go_meet
   exact ⟨rfl, rfl⟩
 case rest =>
 obtain ⟨rfl, rfl⟩ := hcut
 go_upto_if 25 with (fail)
 go_cut [7] (fun t wc => t = .int .i64 (T.length : Int) ∧ w3 = wc)
 case first =>
  by_cases hn1 : (F.length : Int) < n
  ·have hv : F.length = T.length := by have := HZ.out.2.2.2; unfold cutN at this; omega
   have HV := Lib.hid hv
   clear hv
   go_wp2
   go_meet
   exact ⟨by rw [HV.out], rfl⟩
  ·have hv : m0 = (T.length : Int) := by have h1 := HZ.out.2.2.2; have h2 := HM0.out; unfold cutN at h1; split at h2 <;> omega
   have HV := Lib.hid hv
   clear hv
   go_wp2
   go_meet
   exact ⟨by rw [HV.out], rfl⟩
 case rest =>
 obtain ⟨rfl, rfl⟩ := hcut
 go_upto_region 13 with (at_make; refine wpl_make tB false rfl rfl _ _ rfl .i64 .i64 (F.length : Int) (F.length : Int) F.length rfl rfl rfl rfl (by show 1 * _ ≤ _; omega) (by unfold maxLen; omega) ?_; intro w4 ho4 hb4 hlt4)
 obtain ⟨gB, hgB⟩ : ∃ g, g = w3.heap.size := ⟨_, rfl⟩
 have e0 : (List.replicate F.length false) = (List.range F.length).map (fun j : Nat => decide ((j : Int) ∈ T.take 0)) := by
  apply List.ext_getElem?
  intro k
  by_cases hk : k < F.length <;> simp [hk]
 rw [e0, ← hgB] at ho4
 rw [← hgB] at hb4 ⊢
 have HGB := Lib.hid hgB
 have HS4 := Lib.hid (show OwR tB gB w4 (.slice (some ⟨gB, 0, none⟩) F.length F.length) ((List.range F.length).map (fun j : Nat => decide ((j : Int) ∈ T.take 0))) ∧ Below gB w3 w4 from ⟨ho4, hb4⟩)
 clear ho4 hb4 hlt4 e0 hgB
 go_wp2
 go_loopw [9] (fun t wr => ∃ (i : Nat), i ≤ T.length ∧ t = .int .i64 (i : Int) ∧ Hid (OwR tB gB wr (.slice (some ⟨gB, 0, none⟩) F.length F.length) ((List.range F.length).map (fun j : Nat => decide ((j : Int) ∈ T.take i))) ∧ Below gB w3 wr)) (fun t _ => T.length - (intOf t).toNat)
 case atStart => exact ⟨0, by omega, rfl, HS4.out⟩
 case round =>
  clear HS4
  obtain ⟨i, hi, rfl, hS⟩ := hrel
  obtain ⟨V, rfl⟩ : ∃ x : World, x = wr := ⟨_, rfl⟩
  by_cases hlt : i < T.length
  ·have hlt' : (i : Int) < (T.length : Int) := by omega
   obtain ⟨c, hc⟩ : ∃ c, T[i]? = some c := ⟨_, List.getElem?_eq_getElem hlt⟩
   obtain ⟨hc0, hc1⟩ := in_iot HZ.out hc
   obtain ⟨j, rfl⟩ := Int.eq_ofNat_of_zero_le hc0
   have hj : j < F.length := by omega
   obtain ⟨gt, rfl⟩ : ∃ g, ta = some ⟨g, 0, none⟩ := by
    rcases HA.out.form with ⟨_, e⟩ | ⟨g, c, e, _⟩
    ·rw [e] at hlt; simp at hlt
    ·injection e with e1; exact ⟨g, e1⟩
   have hgt : gt < gB := by rw [HGB.out]; exact OwR.lt HA.out rfl
   have hBV : Below w3.heap.size w3 V := by rw [← HGB.out]; exact hS.out.2
   have cT : V.cell? ⟨gt, i, none⟩ = some (.int .i64 (j : Int)) := OwR.int (HA.out.below hBV) hc
   have cM : V.cell? ⟨gB, j, none⟩ = some (.bool false) := by
    have := OwB.cell hS.out.1 hj
    rw [decide_eq_false (not_take HZ.out hc)] at this
    exact this
   have fM : V.frozen? ⟨gB, j, none⟩ = false := OwR.frozen hS.out.1 j
   have HC := Lib.hid hc
   clear hc hBV
   go_upto_region 19 with (fail)
   have HS2 := Lib.hid (show OwR tB gB (V.setCell ⟨gB, j, none⟩ (.bool true)) (.slice (some ⟨gB, 0, none⟩) F.length F.length) ((List.range F.length).map (fun k : Nat => decide ((k : Int) ∈ T.take (i + 1)))) ∧ Below gB w3 (V.setCell ⟨gB, j, none⟩ (.bool true)) from by
    refine ⟨?_, hS.out.2.setCell (p := ⟨gB, j, none⟩) (Nat.le_refl _) (.bool true)⟩
    have := OwB.mark hS.out.1 hj
    rw [bmap_congr (V' := fun k : Nat => decide ((k : Int) ∈ T.take (i + 1)))] at this
    ·exact this
    ·intro k _
     rw [List.take_add_one, HC.out]
     unfold Fl.mark
     by_cases hkj : k = j
     ·subst hkj; simp
     ·have hkj2 : ¬ (k : Int) = (j : Int) := by omega
      simp [hkj, hkj2])
   obtain ⟨V1, hV1⟩ : ∃ x, x = V.setCell ⟨gB, j, none⟩ (.bool true) := ⟨_, rfl⟩
   rw [← hV1] at HS2 ⊢
   clear hV1 cT cM fM hS
   dsimp only [List.append]
   obtain ⟨gf, rfl⟩ : ∃ g, fa = some ⟨g, 0, none⟩ := by
    rcases HO3.out.form with ⟨_, e⟩ | ⟨g, c, e, _⟩
    ·rw [e] at hj; simp at hj
    ·injection e with e1; exact ⟨g, e1⟩
   have hB1 : Below w3.heap.size w3 V1 := by rw [← HGB.out]; exact HS2.out.2
   obtain ⟨y, hy⟩ : ∃ y, F[j]? = some y := ⟨_, List.getElem?_eq_getElem hj⟩
   have c6 : V1.cell? ⟨gt, i, none⟩ = some (.int .i64 (j : Int)) := OwR.int (HA.out.below hB1) HC.out
   have d6 : V1.cell? ⟨gf, j, none⟩ = some (.float .f64 y) := own_flo (HO3.out.below hB1) hy
   have HBA := Lib.hid hB1
   have HWN := Lib.hid (fun n => ⟨HS2.out.1.below (bDrewN (bRefl V1) n), bDrewN HS2.out.2 n⟩ : ∀ n, OwR tB gB (V1.drewN n) (.slice (some ⟨gB, 0, none⟩) F.length F.length) ((List.range F.length).map (fun k : Nat => decide ((k : Int) ∈ T.take (i + 1)))) ∧ Below gB w3 (V1.drewN n))
   have HY := Lib.hid hy
   clear hB1 HS2 hy
   have hTF := HTF.out
   by_cases hi0 : i = 0
   ·have hi0' : decide ((i : Int) > 0) = false := decide_eq_false (by omega)
    have hi1 : ¬ (0 : Int) < (i : Int) := by omega
    have hi2 : ¬ 0 < i := by omega
    clear hi0
    as_aux_lemma =>
     go_quiet (fail)
     have HW := Lib.hid (HWN.out nq)
     generalize V1.drewN nq = V2 at HW ⊢
     go_wp2
     go_roundw
     all_goals first
      | exact ⟨i + 1, by omega, by go_num, HW.out⟩
      | ((repeat apply Exists.intro); exact ⟨⟨i + 1, by omega, by go_num, HW.out⟩, rfl⟩)
      | (simp [intOf] <;> omega)
   ·obtain ⟨k, hki⟩ : ∃ k, i = k + 1 := ⟨i - 1, by omega⟩
    obtain ⟨a, ha⟩ : ∃ a, T[k]? = some a := ⟨_, List.getElem?_eq_getElem (by omega)⟩
    obtain ⟨ha0, ha1⟩ := in_iot HZ.out ha
    obtain ⟨u, rfl⟩ := Int.eq_ofNat_of_zero_le ha0
    obtain ⟨x, hx⟩ : ∃ x, F[u]? = some x := ⟨_, List.getElem?_eq_getElem (by omega)⟩
    have hrk := rk_at HZ.out (show k < i by omega) ha HC.out
    have e1 : kOf F (u : Int) = ky x := by unfold kOf; rw [Int.toNat_natCast, List.getD_eq_getElem?_getD, hx]; rfl
    have e2 : kOf F (j : Int) = ky y := by unfold kOf; rw [Int.toNat_natCast, List.getD_eq_getElem?_getD, HY.out]; rfl
    unfold Ht.Rk at hrk
    rw [e1, e2] at hrk
    have c7 : V1.cell? ⟨gt, k, none⟩ = some (.int .i64 (u : Int)) := OwR.int (HA.out.below HBA.out) ha
    have d7 : V1.cell? ⟨gf, u, none⟩ = some (.float .f64 x) := own_flo (HO3.out.below HBA.out) hx
    have hu : u < F.length := by omega
    have hi0' : decide ((i : Int) > 0) = true := decide_eq_true (by omega)
    have hi3 : (0 : Int) < (i : Int) := by omega
    have hi4 : 0 < i := by omega
    have hki1 : (i : Int) - 1 = (k : Int) := by omega
    have hkT : (k : Int) < (T.length : Int) := by omega
    have huF : (u : Int) < (F.length : Int) := by omega
    have t1 := gt_no (x := x) (y := y) (by omega)
    have HR := Lib.hid hrk
    clear e1 e2 ha hx hrk ha0 ha1 hi0 hki
    cases hnx : nanB x with
    | true =>
     have hny := nan_le (x := x) (y := y) (by have := HR.out; omega) hnx
     have t2 := (self_ne (x := x)).trans hnx
     have t3 := (self_eq (x := y)).trans (by rw [hny]; rfl : (!nanB y) = false)
     have t4 := eq_nan (x := x) (y := y) hnx
     clear hnx hny
     as_aux_lemma =>
      go_quiet (fail)
      have HW := Lib.hid (HWN.out nq)
      generalize V1.drewN nq = V2 at HW ⊢
      go_wp2
      go_roundw
      all_goals first
       | exact ⟨i + 1, by omega, by go_num, HW.out⟩
       | ((repeat apply Exists.intro); exact ⟨⟨i + 1, by omega, by go_num, HW.out⟩, rfl⟩)
       | (simp [intOf] <;> omega)
    | false =>
     have t2 := (self_ne (x := x)).trans hnx
     clear hnx
     cases t4 : (FloatKind.f64.format.order y x == some .eq) with
     | true =>
      have hke : ky y = ky x := by
       have := (eq_ky y x).symm.trans t4
       simp only [Bool.and_eq_true, decide_eq_true_eq] at this
       exact this.2
      have hju : ¬ (j : Int) < (u : Int) := by have := HR.out; omega
      clear hke
      as_aux_lemma =>
       go_quiet (fail)
       have HW := Lib.hid (HWN.out nq)
       generalize V1.drewN nq = V2 at HW ⊢
       go_wp2
       go_roundw
       all_goals first
        | exact ⟨i + 1, by omega, by go_num, HW.out⟩
        | ((repeat apply Exists.intro); exact ⟨⟨i + 1, by omega, by go_num, HW.out⟩, rfl⟩)
        | (simp [intOf] <;> omega)
     | false =>
      as_aux_lemma =>
       go_quiet (fail)
       have HW := Lib.hid (HWN.out nq)
       generalize V1.drewN nq = V2 at HW ⊢
       go_wp2
       go_roundw
       all_goals first
        | exact ⟨i + 1, by omega, by go_num, HW.out⟩
        | ((repeat apply Exists.intro); exact ⟨⟨i + 1, by omega, by go_num, HW.out⟩, rfl⟩)
        | (simp [intOf] <;> omega)
  ·have hie : i = T.length := by omega
   have hlt' : ¬ (i : Int) < (T.length : Int) := by omega
   subst hie
   have hM := hS.out.1
   rw [List.take_length] at hM
   have HM := Lib.hid hM
   have hB : Below w3.heap.size w3 V := by rw [← HGB.out]; exact hS.out.2
   have HBV := Lib.hid hB
   have hTF := HTF.out
   clear hM hB hS hi hlt
   have hcut : cutN (F.length : Int) F.length = F.length := by unfold cutN; omega
   have HCUT := Lib.hid hcut
   clear hcut
   go_wp2
   go_loopw [10] (fun t wr => ∃ (j m : Nat), j ≤ F.length ∧ t = .int .i64 (j : Int) ∧ Hid (wr = V.drewN m)) (fun t _ => F.length - (intOf t).toNat)
   case atStart => exact ⟨0, 0, by omega, rfl, rfl⟩
   case round =>
    obtain ⟨j, m, hj, rfl, hwr⟩ := hrel
    obtain ⟨U, rfl⟩ : ∃ x : World, x = wr := ⟨_, rfl⟩
    by_cases hgo : j < F.length ∧ 0 < T.length
    ·obtain ⟨hlt, hpos⟩ := hgo
     have hlt' : (j : Int) < (F.length : Int) := by omega
     have hpos' : (0 : Int) < (T.length : Int) := by omega
     obtain ⟨gt, rfl⟩ : ∃ g, ta = some ⟨g, 0, none⟩ := by
      rcases HA.out.form with ⟨_, e⟩ | ⟨g, c, e, _⟩
      ·rw [e] at hpos; simp at hpos
      ·injection e with e1; exact ⟨g, e1⟩
     obtain ⟨gf, rfl⟩ : ∃ g, fa = some ⟨g, 0, none⟩ := by
      rcases HO3.out.form with ⟨_, e⟩ | ⟨g, c, e, _⟩
      ·rw [e] at hlt; simp at hlt
      ·injection e with e1; exact ⟨g, e1⟩
     have bU : Below w3.heap.size w3 U := by rw [hwr.out]; exact bDrewN HBV.out m
     obtain ⟨a, ha⟩ : ∃ a, T[T.length - 1]? = some a := ⟨_, List.getElem?_eq_getElem (by omega)⟩
     obtain ⟨ha0, ha1⟩ := in_iot HZ.out ha
     obtain ⟨u, rfl⟩ := Int.eq_ofNat_of_zero_le ha0
     obtain ⟨x, hx⟩ : ∃ x, F[u]? = some x := ⟨_, List.getElem?_eq_getElem (by omega)⟩
     obtain ⟨y, hy⟩ : ∃ y, F[j]? = some y := ⟨_, List.getElem?_eq_getElem hlt⟩
     have c7 : U.cell? ⟨gt, T.length - 1, none⟩ = some (.int .i64 (u : Int)) := OwR.int (HA.out.below bU) ha
     have d7 : U.cell? ⟨gf, u, none⟩ = some (.float .f64 x) := own_flo (HO3.out.below bU) hx
     have d8 : U.cell? ⟨gf, j, none⟩ = some (.float .f64 y) := own_flo (HO3.out.below bU) hy
     have cm0 := OwB.cell HM.out hlt
     have cm : U.cell? ⟨gB, j, none⟩ = some (.bool (decide ((j : Int) ∈ T))) := by rw [hwr.out]; exact cm0
     obtain ⟨nl, hnl⟩ : ∃ nl : Nat, nl = T.length - 1 := ⟨_, rfl⟩
     have hsub : (T.length : Int) - 1 = (nl : Int) := by omega
     have hnlt : (nl : Int) < (T.length : Int) := by omega
     have hu : u < F.length := by omega
     have huF : (u : Int) < (F.length : Int) := by omega
     rw [← hnl] at c7
     have HWN := Lib.hid (fun n => by rw [hwr.out, World.drewN_drewN] : ∀ n, U.drewN n = V.drewN (m + n))
     have hmem : (u : Int) ∈ T := List.mem_of_getElem? ha
     clear bU hwr cm0 hnl ha0 ha1
     cases hin : decide ((j : Int) ∈ T) with
     | true =>
      rw [hin] at cm
      clear hx hy ha hmem
      as_aux_lemma =>
       go_upto_region 25 with (fail)
       go_quiet (fail)
       have HW := Lib.hid (HWN.out nq)
       generalize U.drewN nq = V2 at HW ⊢
       go_wp2
       go_roundw
       all_goals first
        | exact ⟨j + 1, _, by omega, by go_num, HW.out⟩
        | ((repeat apply Exists.intro); exact ⟨⟨j + 1, _, by omega, by go_num, HW.out⟩, rfl⟩)
        | (simp [intOf] <;> omega)
     | false =>
      rw [hin] at cm
      have hrk := rk_out HZ.out (x := (j : Int)) (by omega) (by omega) (of_decide_eq_false hin) hmem
      have e1 : kOf F (u : Int) = ky x := by unfold kOf; rw [Int.toNat_natCast, List.getD_eq_getElem?_getD, hx]; rfl
      have e2 : kOf F (j : Int) = ky y := by unfold kOf; rw [Int.toNat_natCast, List.getD_eq_getElem?_getD, hy]; rfl
      unfold Ht.Rk at hrk
      rw [e1, e2] at hrk
      have t1 := gt_no (x := x) (y := y) (by omega)
      clear e1 e2 hx hy ha hmem
      cases hnx : nanB x with
      | true =>
       have hny := nan_le (x := x) (y := y) (by omega) hnx
       have t2 := (self_ne (x := x)).trans hnx
       have t3 := (self_eq (x := y)).trans (by rw [hny]; rfl : (!nanB y) = false)
       clear hnx hny hrk
       as_aux_lemma =>
        go_upto_region 25 with (fail)
        go_quiet (fail)
        have HW := Lib.hid (HWN.out nq)
        generalize U.drewN nq = V2 at HW ⊢
        go_wp2
        go_roundw
        all_goals first
         | exact ⟨j + 1, _, by omega, by go_num, HW.out⟩
         | ((repeat apply Exists.intro); exact ⟨⟨j + 1, _, by omega, by go_num, HW.out⟩, rfl⟩)
         | (simp [intOf] <;> omega)
      | false =>
       have t2 := (self_ne (x := x)).trans hnx
       clear hnx hrk
       as_aux_lemma =>
        go_upto_region 25 with (fail)
        go_quiet (fail)
        have HW := Lib.hid (HWN.out nq)
        generalize U.drewN nq = V2 at HW ⊢
        go_wp2
        go_roundw
        all_goals first
         | exact ⟨j + 1, _, by omega, by go_num, HW.out⟩
         | ((repeat apply Exists.intro); exact ⟨⟨j + 1, _, by omega, by go_num, HW.out⟩, rfl⟩)
         | (simp [intOf] <;> omega)
    ·have bU : Below w3.heap.size w3 U := by rw [hwr.out]; exact bDrewN HBV.out m
     have HBU := Lib.hid bU
     clear bU hwr
     by_cases hlt : j < F.length
     ·have hlt' : (j : Int) < (F.length : Int) := by omega
      have hz0 : ¬ (0 : Int) < (T.length : Int) := by omega
      have hz1 : ¬ 0 < T.length := by omega
      clear hgo
      go_wp2_with fail
      refine (htopZ_ok U U.heap.size _ F (F.length : Int) (OwR.slz (HO3.out.below HBU.out)) (by omega) Z HZ.out.1 HZ.out.2.1).mono ?_
      rintro e w5 ⟨b5, ⟨sa, sn, sc⟩, he5, o5⟩
      subst he5
      rw [HCUT.out, List.take_of_length_le (by rw [HZ.out.1.length_eq, iot_len]; exact Nat.le_refl _)] at o5
      have HT5 := Lib.hid (OwR.slz ((HA.out.below HBU.out).below b5))
      have HB5 := Lib.hid (show Below w.heap.size w w5 from bThen (bThen HB3.out HBU.out) b5)
      have hZF : Z.length = F.length := by rw [HZ.out.1.length_eq, iot_len]
      have o6 : SlX tI w5.heap.size w5 (.slice sa T.length sc) T ∧ T.length ≤ sc ∧ sc ≤ 9223372036854775807 ∧ sn = F.length := by
       have hTz : T = Z.take T.length := by have h1 := HZ.out.2.2.1; have h2 := HZ.out.2.2.2; rw [← h2] at h1; exact h1
       have o7 : OwR tI U.heap.size w5 (.slice sa sn sc) Z := o5
       rcases o7.form with ⟨e5, eZ⟩ | ⟨g5, c5, e5, hc1, hc2, _⟩
       ·have hF0 : F.length = 0 := by rw [← hZF, eZ]; rfl
        have hT0 : T = [] := List.eq_nil_of_length_eq_zero (by omega)
        injection e5 with e1 e2 e3
        subst e1; subst e2; subst e3
        rw [hT0]
        exact ⟨SlX.nil _ _, Nat.le_refl _, by omega, hF0.symm⟩
       ·injection e5 with e1 e2 e3
        subst e1; subst e3
        unfold maxLen at hc2
        refine ⟨?_, by omega, by omega, by omega⟩
        have := OwR.slz (OwR.take o7 (k := T.length) (by omega))
        rwa [← hTz] at this
      obtain ⟨hs6, k1, k2, k3⟩ := o6
      subst k3
      have HS6 := Lib.hid hs6
      clear hs6 b5 o5 hZF
      go_wp2_with fail
      refine (sameInts_ok w5 w5.heap.size w5.heap.size _ _ T T HS6.out HT5.out).mono ?_
      rintro e w6 ⟨rfl, b6⟩
      rw [decide_eq_true (rfl : T = T)]
      have HB6 := Lib.hid (bThen HB5.out b6)
      clear b6
      go_wp2
      go_ret
      exact ⟨rfl, HB6.out⟩
     ·have hlt' : ¬ (j : Int) < (F.length : Int) := by omega
      clear hgo
      go_wp2_with fail
      refine (htopZ_ok U U.heap.size _ F (F.length : Int) (OwR.slz (HO3.out.below HBU.out)) (by omega) Z HZ.out.1 HZ.out.2.1).mono ?_
      rintro e w5 ⟨b5, ⟨sa, sn, sc⟩, he5, o5⟩
      subst he5
      rw [HCUT.out, List.take_of_length_le (by rw [HZ.out.1.length_eq, iot_len]; exact Nat.le_refl _)] at o5
      have HT5 := Lib.hid (OwR.slz ((HA.out.below HBU.out).below b5))
      have HB5 := Lib.hid (show Below w.heap.size w w5 from bThen (bThen HB3.out HBU.out) b5)
      have hZF : Z.length = F.length := by rw [HZ.out.1.length_eq, iot_len]
      have o6 : SlX tI w5.heap.size w5 (.slice sa T.length sc) T ∧ T.length ≤ sc ∧ sc ≤ 9223372036854775807 ∧ sn = F.length := by
       have hTz : T = Z.take T.length := by have h1 := HZ.out.2.2.1; have h2 := HZ.out.2.2.2; rw [← h2] at h1; exact h1
       have o7 : OwR tI U.heap.size w5 (.slice sa sn sc) Z := o5
       rcases o7.form with ⟨e5, eZ⟩ | ⟨g5, c5, e5, hc1, hc2, _⟩
       ·have hF0 : F.length = 0 := by rw [← hZF, eZ]; rfl
        have hT0 : T = [] := List.eq_nil_of_length_eq_zero (by omega)
        injection e5 with e1 e2 e3
        subst e1; subst e2; subst e3
        rw [hT0]
        exact ⟨SlX.nil _ _, Nat.le_refl _, by omega, hF0.symm⟩
       ·injection e5 with e1 e2 e3
        subst e1; subst e3
        unfold maxLen at hc2
        refine ⟨?_, by omega, by omega, by omega⟩
        have := OwR.slz (OwR.take o7 (k := T.length) (by omega))
        rwa [← hTz] at this
      obtain ⟨hs6, k1, k2, k3⟩ := o6
      subst k3
      have HS6 := Lib.hid hs6
      clear hs6 b5 o5 hZF
      go_wp2_with fail
      refine (sameInts_ok w5 w5.heap.size w5.heap.size _ _ T T HS6.out HT5.out).mono ?_
      rintro e w6 ⟨rfl, b6⟩
      rw [decide_eq_true (rfl : T = T)]
      have HB6 := Lib.hid (bThen HB5.out b6)
      clear b6
      go_wp2
      go_ret
      exact ⟨rfl, HB6.out⟩
end Go.Proofs.Ytndnfjcfpcfakaa
namespace Go.Proofs.Ytndnfjcfpcfakaa
open Go Go.RowKit Go.Wr Go.Fl
open Go.ChangeShapes Go.WideShapes Go.ChangeAt Go.Deep
set_option maxHeartbeats 4000000
set_option maxRecDepth 100000
set_option maxRecDepth 100000 in
theorem heatSorted_lifted (os : Os) (started : os.Started) (H : Type) (enc : TypeId × Value → H) (F : Stop.Interp) :
  ReturnsInHanded {} Try.checked os 6 .any ((Rows.OpenSpec.upto Rows.heatSortedSpec).pre6 enc Try.prog Try.f6 Rows.heatSortedUptoRow.domain false) (((Rows.OpenSpec.upto Rows.heatSortedSpec).at F).post enc Try.prog Try.f6 false true false false) := by
 refine returnsInHanded_of_cond (C := Try.checked) (s := Rows.OpenSpec.upto Rows.heatSortedSpec) (k := Rows.uptoSmall) rfl own started (by kernel_rfl) Try.func6
  (OpenSpec.witness (enc := enc) (C := Try.checked) (s := Rows.OpenSpec.upto Rows.heatSortedSpec) (k := Rows.uptoSmall) rfl false ⟨#[], #[.slice none 0 0, .int .i64 0], []⟩ 8 (by kernel_rfl) (by kernel_rfl) (by kernel_rfl)
   (x := ([.nil, .lit (.int .i64 0)], [], [])) (by kernel_rfl) rfl (by kernel_rfl)) ?_
 intro W base args ds gs before hval0 hW _ hk _
 have hval : ∀ (j : Nat) t v, Try.f6.params[j]? = some t → args[j]? = some v → Value.okWide Try.prog W .any base t v := hval0
 have hW' := hW
 obtain ⟨p, q, hA0, hV, rfl, hfz, hnd⟩ := hW
 have hA : DataW.TrodAll enc Try.prog W 0 (fun _ => true) true Try.f6.params.toList args.toList ds p := hA0
 rw [Try.params6] at hA hval
 obtain ⟨v0, vs0, d0, ds0, p0, q0, hargs, rfl, rfl, h0, r0⟩ := trodAll_cons hA
 obtain ⟨v1, vs1, d1, ds1, p1, q1, rfl, rfl, rfl, h1, r1⟩ := trodAll_cons r0
 obtain ⟨rfl, rfl, rfl⟩ := trodAll_nil r1
 obtain rfl : args = #[v0, v1] := by cases args; simp_all
 obtain ⟨rfl, rfl⟩ := trodVars_none hV
 have hz : Rows.uptoBulkAll ([d0, d1] ++ []) ≤ 1048576 := by simpa [Rows.uptoSmall] using hk
 simp only [List.append_nil, Rows.uptoBulkAll] at hz
 have k0 := h0
 have lt0 : ∀ x ∈ p0, x.block < W.heap.size := by obtain ⟨m, hm⟩ := k0; exact DataW.trod_lt m _ _ _ hm
 obtain ⟨a0, len0, cap0, rfl⟩ := okWide_slice Try.underlying46 (hval 0 46 v0 rfl rfl)
 obtain ⟨l0, g0, z0, y0⟩ : ∃ l, SlX tU W.heap.size W (.slice a0 len0 cap0) l ∧ l.length ≤ 1048576 ∧ ∀ y ∈ l, (Lit.int .u64 y).wf = true := by
  obtain ⟨fuel, hf⟩ := h0
  exact open_u64sz (x := (d0, p0)) (by simpa [Value.cells] using hf) (by show Rows.uptoBulk d0 ≤ _; omega)
 have k1 := h1
 have lt1 : ∀ x ∈ p1, x.block < W.heap.size := by obtain ⟨m, hm⟩ := k1; exact DataW.trod_lt m _ _ _ hm
 obtain ⟨n1, rfl, rfl, rfl, w1⟩ := open_int Try.underlying3 (hval 1 3 v1 rfl rfl) h1
 clear hA0 hval0 hval hfz hnd hk hA
 refine (sorted_ok W W.heap.size _ l0 g0 z0 n1).mono fun e W' ⟨he, bel⟩ => ?_
 subst he
 exact ⟨_, rfl, _, _, _, [], _, [], hW', trodAll_mk1 (shut_bool Try.underlying4 _), (trodAll_cons_mk (Below.trod laidOut (by kernel_rfl) (of_decide_eq_true (by kernel_rfl)) k0 bel lt0) (trodAll_cons_mk (Below.trod laidOut (by kernel_rfl) (of_decide_eq_true (by kernel_rfl)) k1 bel lt1) trodAll_mk0)), rfl, bel.frame _, fun h => by cases h⟩
theorem HeatSortedUpto_holds : Rows.HeatSortedUptoSaid :=
 OpenClaim.holds_of_cond 6 Try.f6 rfl rfl rfl rfl rfl rfl rfl ⟨rfl, rfl, rfl, rfl, rfl⟩ rfl rfl rfl rfl rfl (by kernel_rfl) Try.func6 (by kernel_rfl)
  (of_decide_eq_true (by kernel_rfl)) (by unfold Func.isWrapper; rw [if_neg (of_decide_eq_false (by kernel_rfl))]; exact ⟨rfl, rfl⟩)
  (fun os started H enc _ F => heatSorted_lifted os started H enc F)
#print axioms HeatSortedUpto_holds
end Go.Proofs.Ytndnfjcfpcfakaa
