/- ZoneOrdered: its row: for every input it returns true. -/
import Derived.Test.YtfpbjjdlchplnaaROrd
namespace Go.Proofs.YtfpbjjdlchplnaaR
open Go Go.RowKit Go.Wr
open Go.ChangeShapes Go.WideShapes Go.ChangeAt
set_option maxHeartbeats 2000000
set_option maxRecDepth 100000

theorem ordered_any (w : World) (c1 : Value) (l1 : List Cn) (h1 : ArgC w c1 l1) (c2 : Value) (l2 : List Cn) (h2 : ArgC w c2 l2) (c3 : Value) (l3 : List Cn) (h3 : ArgC w c3 l3) :
    Calls Try.prog 8 #[c1, c2, c3] w fun e w' => e = .returned (.bool true) ∧ Below w.heap.size w w' := by
  by_cases q1 : wrongL l1 = 0
  · by_cases q2 : wrongL l2 = 0
    · by_cases q3 : wrongL l3 = 0
      · exact ordered_main w c1 l1 h1 c2 l2 h2 c3 l3 h3 q1 q2 q3
      · have k3 : (wrongL l3 != 0) = true := by rw [bne_iff_ne]; exact q3
        have H1 := Lib.hid h1
        have H2 := Lib.hid h2
        have H3 := Lib.hid h3
        have Q1 := Lib.hid q1
        have Q2 := Lib.hid q2
        clear h1 h2 h3 q1 q2 q3
        go_enter Try.func8, Try.ntmps8
        go_wp2_with fail
        refine (rwrong_any _ _ l1 H1.out.sl).mono ?_
        rintro e w1 ⟨rfl, b1⟩
        rw [Q1.out]
        go_wp2_with fail
        refine (rwrong_any _ _ l2 (H2.out.sl.below b1)).mono ?_
        rintro e w2 ⟨rfl, b2⟩
        rw [Q2.out]
        have t2 := bThen b1 b2
        go_wp2_with fail
        refine (rwrong_any _ _ l3 (H3.out.sl.below t2)).mono ?_
        rintro e w3 ⟨rfl, b3⟩
        go_wp2_with fail
        refine (awake_any _).mono ?_
        rintro e w4 ⟨rfl, b4⟩
        go_wp2
        go_ret
        exact ⟨rfl, bThen (bThen t2 b3) b4⟩
    · have k2 : (wrongL l2 != 0) = true := by rw [bne_iff_ne]; exact q2
      have H1 := Lib.hid h1
      have H2 := Lib.hid h2
      have Q1 := Lib.hid q1
      clear h1 h2 h3 q1 q2
      go_enter Try.func8, Try.ntmps8
      go_wp2_with fail
      refine (rwrong_any _ _ l1 H1.out.sl).mono ?_
      rintro e w1 ⟨rfl, b1⟩
      rw [Q1.out]
      go_wp2_with fail
      refine (rwrong_any _ _ l2 (H2.out.sl.below b1)).mono ?_
      rintro e w2 ⟨rfl, b2⟩
      go_wp2_with fail
      refine (awake_any _).mono ?_
      rintro e w4 ⟨rfl, b4⟩
      go_wp2
      go_ret
      exact ⟨rfl, bThen (bThen b1 b2) b4⟩
  · have k1 : (wrongL l1 != 0) = true := by rw [bne_iff_ne]; exact q1
    have H1 := Lib.hid h1
    clear h1 h2 h3 q1
    go_enter Try.func8, Try.ntmps8
    go_wp2_with fail
    refine (rwrong_any _ _ l1 H1.out.sl).mono ?_
    rintro e w1 ⟨rfl, b1⟩
    go_wp2_with fail
    refine (awake_any _).mono ?_
    rintro e w4 ⟨rfl, b4⟩
    go_wp2
    go_ret
    exact ⟨rfl, bThen b1 b4⟩

set_option maxRecDepth 100000 in
theorem zoneOrdered_lifted (os : Os) (started : os.Started) (H : Type) (enc : TypeId × Value → H) :
    ReturnsInHanded {} Try.checked os 8 .any (Rows.zoneOrderedSpec.pre6 enc Try.prog Try.f8 Rows.zoneOrderedRow.domain false) (Rows.zoneOrderedSpec.post enc Try.prog Try.f8 false true false false) := by
  refine returnsInHanded_of_change_sized (C := Try.checked) own started (by kernel_rfl) Try.func8
    (ChangeSpec.witness6 (enc := enc) (C := Try.checked) false ⟨#[], #[.slice none 0 0, .slice none 0 0, .slice none 0 0], []⟩ 8 (by kernel_rfl) (by kernel_rfl) (by kernel_rfl) (by kernel_rfl)) ?_
  intro W base args ds gs before hval0 hW hcnd hsz _
  have hval : ∀ (j : Nat) t v, Try.f8.params[j]? = some t → args[j]? = some v → Value.okWide Try.prog W .any base t v := hval0
  have hW' := hW
  obtain ⟨p, q, hA0, hV, rfl, hfz, hnd⟩ := hW
  have hA : DataW.TrodAll enc Try.prog W 0 (fun _ => true) true Try.f8.params.toList args.toList ds p := hA0
  rw [Try.params8] at hA hval hsz
  obtain ⟨v0, vs0, d0, ds0, p0, q0, hargs, rfl, rfl, h0, r0⟩ := trodAll_cons hA
  obtain ⟨v1, vs1, d1, ds1, p1, q1, rfl, rfl, rfl, h1, r1⟩ := trodAll_cons r0
  obtain ⟨v2, vs2, d2, ds2, p2, q2, rfl, rfl, rfl, h2, r2⟩ := trodAll_cons r1
  obtain ⟨rfl, rfl, rfl⟩ := trodAll_nil r2
  obtain rfl : args = #[v0, v1, v2] := by cases args; simp_all
  obtain ⟨rfl, rfl⟩ := trodVars_none hV
  have k0 := h0
  have lt0 : ∀ x ∈ p0, x.block < W.heap.size := by obtain ⟨m, hm⟩ := k0; exact DataW.trod_lt m _ _ _ hm
  obtain ⟨a0, len0, cap0, rfl⟩ := okWide_slice Try.underlying35 (hval 0 35 v0 rfl rfl)
  obtain ⟨l0, g0⟩ : ∃ l, ArgC W (.slice a0 len0 cap0) l := by
    obtain ⟨fuel, hf⟩ := h0
    refine open_rcons (x := (d0, p0)) (by simpa [Value.cells] using hf) (fun e s hd => ?_)
    have hs := sized_slice hsz (j := 0) (t := 35) (elems := e) (spare := s) rfl (by simp only at hd; rw [hd]; rfl) Try.underlying35
    rw [show Try.checked.prog.bytesOf 72 = 24 by kernel_rfl] at hs
    exact Nat.le_trans hs (by decide)
  have k1 := h1
  have lt1 : ∀ x ∈ p1, x.block < W.heap.size := by obtain ⟨m, hm⟩ := k1; exact DataW.trod_lt m _ _ _ hm
  obtain ⟨a1, len1, cap1, rfl⟩ := okWide_slice Try.underlying35 (hval 1 35 v1 rfl rfl)
  obtain ⟨l1, g1⟩ : ∃ l, ArgC W (.slice a1 len1 cap1) l := by
    obtain ⟨fuel, hf⟩ := h1
    refine open_rcons (x := (d1, p1)) (by simpa [Value.cells] using hf) (fun e s hd => ?_)
    have hs := sized_slice hsz (j := 1) (t := 35) (elems := e) (spare := s) rfl (by simp only at hd; rw [hd]; rfl) Try.underlying35
    rw [show Try.checked.prog.bytesOf 72 = 24 by kernel_rfl] at hs
    exact Nat.le_trans hs (by decide)
  have k2 := h2
  have lt2 : ∀ x ∈ p2, x.block < W.heap.size := by obtain ⟨m, hm⟩ := k2; exact DataW.trod_lt m _ _ _ hm
  obtain ⟨a2, len2, cap2, rfl⟩ := okWide_slice Try.underlying35 (hval 2 35 v2 rfl rfl)
  obtain ⟨l2, g2⟩ : ∃ l, ArgC W (.slice a2 len2 cap2) l := by
    obtain ⟨fuel, hf⟩ := h2
    refine open_rcons (x := (d2, p2)) (by simpa [Value.cells] using hf) (fun e s hd => ?_)
    have hs := sized_slice hsz (j := 2) (t := 35) (elems := e) (spare := s) rfl (by simp only at hd; rw [hd]; rfl) Try.underlying35
    rw [show Try.checked.prog.bytesOf 72 = 24 by kernel_rfl] at hs
    exact Nat.le_trans hs (by decide)
  clear hA0 hval0 hval hfz hnd hcnd hA
  refine (ordered_any W _ l0 g0 _ l1 g1 _ l2 g2).mono fun e W' ⟨he, bel⟩ => ?_
  subst he
  exact ⟨_, rfl, _, _, _, [], _, [], hW', trodAll_mk1 (shut_bool Try.underlying4 _), (trodAll_cons_mk (Below.trod laidOut (by kernel_rfl) (of_decide_eq_true (by kernel_rfl)) k0 bel lt0) (trodAll_cons_mk (Below.trod laidOut (by kernel_rfl) (of_decide_eq_true (by kernel_rfl)) k1 bel lt1) (trodAll_cons_mk (Below.trod laidOut (by kernel_rfl) (of_decide_eq_true (by kernel_rfl)) k2 bel lt2) trodAll_mk0))), rfl, bel.frame _, fun h => by cases h⟩

theorem ZoneOrdered_holds : Rows.ZoneOrderedSaid :=
  OpenClaim.holds_of_wide 8 Try.f8 rfl rfl rfl rfl rfl rfl rfl ⟨rfl, rfl, rfl, rfl, rfl⟩ rfl rfl rfl rfl rfl (by kernel_rfl) Try.func8 (by kernel_rfl)
    (of_decide_eq_true (by kernel_rfl)) (by unfold Func.isWrapper; rw [if_neg (of_decide_eq_false (by kernel_rfl))]; exact ⟨rfl, rfl⟩)
    (fun os started H enc _ => zoneOrdered_lifted os started H enc)
#print axioms ZoneOrdered_holds

end Go.Proofs.YtfpbjjdlchplnaaR
