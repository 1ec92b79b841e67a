/- DeedUnlike returns true for every input; nothing that was there is turned. -/
import Derived.Test.YtfdjdpbiccclfaaDPl
import Derived.Test.YtfdjdpbiccclfaaDAr
import Derived.Deep.RegionHeld3
namespace Go.Proofs.Ytfdjdpbiccclfaa
open Go Go.RowKit Go.Wr
open Go.ChangeShapes Go.WideShapes Go.ChangeAt Go.Deep
set_option maxHeartbeats 4000000
set_option maxRecDepth 100000

theorem EncP.out' {d : Dd} {w w' : World} {e : Ending} (h : EncP d w e w') : Below w.heap.size w w' ∧ ∃ v, e = .returned (.tuple #[v, .int .i64 (encE d)]) ∧ SlBy w'.heap.size w' v (encD d) := by
  obtain ⟨b, v, e, ho⟩ := h
  exact ⟨b, v, e, SlBy.of_own ho (encD_256 d)⟩

theorem SlBy.drew {w : World} {v : Value} {l : List Nat} (h : SlBy w.heap.size w v l) : SlBy w.drew.heap.size w.drew v l := h.up ⟨rfl, rfl, rfl, Nat.le_refl _, fun _ _ => rfl⟩
theorem SlD.drew {w : World} {v v' : Value} {d : Dd} (h : SlD w.heap.size w v v' d) : SlD w.drew.heap.size w.drew v v' d := h.up ⟨rfl, rfl, rfl, Nat.le_refl _, fun _ _ => rfl⟩
theorem unlike_ok (w : World) (vl vc : Value) (d : Dd) (h : SlD w.heap.size w vl vc d) (vl' vc' : Value) (x : Dd) (h' : SlD w.heap.size w vl' vc' x) :
    Calls Try.prog 9 #[.agg #[vl, vc], .agg #[vl', vc']] w fun e w' => e = .returned (.bool true) ∧ Below w.heap.size w w' := by
  obtain ⟨al, cl, hvl, _⟩ := h.ls
  obtain ⟨ac, cc, hvc, _⟩ := h.cs
  obtain ⟨al', cl', hvl', _⟩ := h'.ls
  obtain ⟨ac', cc', hvc', _⟩ := h'.cs
  subst hvl hvc hvl' hvc'
  have H := Lib.hid h
  have H' := Lib.hid h'
  clear h h'
  go_enter Try.func9, Try.ntmps9
  go_upto_region 1 with (fail)
  generalize hW : (w.alloc (.cells #[.slice al d.ls.length cl, .slice ac d.cs.length cc] 26)).alloc (.cells #[.slice al' x.ls.length cl', .slice ac' x.cs.length cc'] 26) = W
  have bW : Below w.heap.size w W := by rw [← hW]; exact bAl (bAl (bRefl w) _) _
  have P0 : Blk W w.heap.size 26 #[.slice al d.ls.length cl, .slice ac d.cs.length cc] := by rw [← hW]; exact (Blk.new _ _ _).alloc _
  have Q0 : Blk W (w.heap.size + 1) 26 #[.slice al' x.ls.length cl', .slice ac' x.cs.length cc'] := by rw [← hW]; exact Blk.new_at _ _ (by simp)
  have H0 := Lib.hid (H.out.up bW)
  have H0' := Lib.hid (H'.out.up bW)
  clear hW H H'
  go_wp2_with fail
  refine (known_ok _).mono ?_
  rintro e w1 ⟨rfl, b1⟩
  have H1 := Lib.hid (H0.out.up b1)
  have H1' := Lib.hid (H0'.out.up b1)
  have P1 := P0.below b1 P0.lt
  have Q1 := Q0.below b1 Q0.lt
  have t1 := bThen bW b1
  have c0 := P1.cell 0
  have c1 := P1.cell 1
  simp only [List.getElem?_toArray, List.getElem?_cons_zero, List.getElem?_cons_succ] at c0 c1
  have HP1 := Lib.hid P1
  have HQ1 := Lib.hid Q1
  clear H0 H0' P0 Q0 bW b1 P1 Q1
  go_wp2_with fail
  refine (encode_ok _ _ _ d H1.out).mono ?_
  rintro e w2 hr
  obtain ⟨b2, v1, rfl, hs1⟩ := hr.out'
  have H2 := Lib.hid (H1.out.up b2)
  have H2' := Lib.hid (H1'.out.up b2)
  have P2 := HP1.out.below b2 HP1.out.lt
  have Q2 := HQ1.out.below b2 HQ1.out.lt
  have t2 := bThen t1 b2
  have c0 := Q2.cell 0
  have c1 := Q2.cell 1
  simp only [List.getElem?_toArray, List.getElem?_cons_zero, List.getElem?_cons_succ] at c0 c1
  have HP2 := Lib.hid P2
  have HQ2 := Lib.hid Q2
  have HS1 := Lib.hid hs1
  clear hr H1 H1' HP1 HQ1 t1 b2 P2 Q2 hs1
  go_wp2_with fail
  refine (encode_ok _ _ _ x H2'.out).mono ?_
  rintro e w3 hr
  obtain ⟨b3, v2, rfl, hs2⟩ := hr.out'
  have H3 := Lib.hid (H2.out.up b3)
  have H3' := Lib.hid (H2'.out.up b3)
  have P3 := HP2.out.below b3 HP2.out.lt
  have Q3 := HQ2.out.below b3 HQ2.out.lt
  have t3 := bThen t2 b3
  have c0 := P3.cell 0
  have c1 := P3.cell 1
  have d0 := Q3.cell 0
  have d1 := Q3.cell 1
  simp only [List.getElem?_toArray, List.getElem?_cons_zero, List.getElem?_cons_succ] at c0 c1 d0 d1
  have HS1 := Lib.hid (HS1.out.up b3)
  have HS2 := Lib.hid hs2
  clear hr H2 H2' HP2 HQ2 t2 b3 hs2
  obtain ⟨e1, he1⟩ : ∃ n, n = encE d := ⟨_, rfl⟩
  obtain ⟨e2, he2⟩ : ∃ n, n = encE x := ⟨_, rfl⟩
  rw [← he1, ← he2]
  have HE1 := Lib.hid he1
  have HE2 := Lib.hid he2
  clear he1 he2
  by_cases h1 : e1 = 0
  · by_cases h2 : e2 = 0
    · subst h1 h2
      have hi := enc_iff HE1.out.symm HE2.out.symm
      have hI : Hid (decide (encD d = encD x) = sameD d x) := by
        show _ = _
        rw [Bool.eq_iff_iff, decide_eq_true_eq]
        exact hi
      clear hi
      go_upto_region 7 with (fail)
      have HP3 := Lib.hid P3
      have HQ3 := Lib.hid Q3
      obtain ⟨tb, htb⟩ : ∃ t, t = sameD d x := ⟨_, rfl⟩
      rw [← htb] at hI
      have HTB := Lib.hid htb
      clear P3 Q3 htb
      go_region_held3 (fun w' => w'.cell? ⟨w.heap.size, 0, none⟩ = some (.slice al d.ls.length cl) ∧ w'.cell? ⟨w.heap.size, 1, none⟩ = some (.slice ac d.cs.length cc) ∧ w'.cell? ⟨w.heap.size + 1, 0, none⟩ = some (.slice al' x.ls.length cl') ∧ w'.cell? ⟨w.heap.size + 1, 1, none⟩ = some (.slice ac' x.cs.length cc'))
        (go_keep)
        (first
          | (go_at_call 15
             (with_reducible refine (samebytes_ok _ _ _ _ _ (encD d) (encD x) (HS1.out.drew) (HS2.out.drew)).mono ?_)
             rintro e w5 ⟨rfl, rfl⟩
             rw [hI.out])
          | (go_at_call 22
             (with_reducible refine (samedeed_ok _ _ _ _ _ d x H3.out.drew H3'.out.drew).mono ?_)
             rintro e w6 ⟨rfl, b6⟩
             rw [← HTB.out]
             have t6 := bThen t3.drew b6
             have P6 := HP3.out.drew.below b6 HP3.out.drew.lt
             have Q6 := HQ3.out.drew.below b6 HQ3.out.drew.lt
             have c0 : w6.cell? ⟨w.heap.size, 0, none⟩ = some (.slice al d.ls.length cl) := P6.cell 0
             have c1 : w6.cell? ⟨w.heap.size, 1, none⟩ = some (.slice ac d.cs.length cc) := P6.cell 1
             have d0 : w6.cell? ⟨w.heap.size + 1, 0, none⟩ = some (.slice al' x.ls.length cl') := Q6.cell 0
             have d1 : w6.cell? ⟨w.heap.size + 1, 1, none⟩ = some (.slice ac' x.cs.length cc') := Q6.cell 1))
      go_wp2
      go_ret
      exact ⟨rfl, t6⟩
    · have h2' : (e2 != 0) = true := by rw [bne_iff_ne]; exact h2
      subst h1
      clear P3 Q3
      go_wp2_with fail
      (with_reducible refine (samedeed_ok _ _ _ _ _ d x H3.out H3'.out).mono ?_)
      rintro e w6 ⟨rfl, b6⟩
      have t6 := bThen t3 b6
      cases hs : sameD d x with
      | false =>
        go_wp2
        go_ret
        exact ⟨rfl, t6⟩
      | true => exact absurd (HE2.out.trans ((same_congr hs).1.symm.trans HE1.out.symm)) h2
  · have h1' : (e1 != 0) = true := by rw [bne_iff_ne]; exact h1
    clear P3 Q3
    go_wp2_with fail
    (with_reducible refine (samedeed_ok _ _ _ _ _ d x H3.out H3'.out).mono ?_)
    rintro e w6 ⟨rfl, b6⟩
    have t6 := bThen t3 b6
    cases hs : sameD d x with
    | false =>
      go_wp2
      go_ret
      exact ⟨rfl, t6⟩
    | true =>
      have hee : (e1 == e2) = true := by rw [beq_iff_eq]; exact HE1.out.trans ((same_congr hs).1.trans HE2.out.symm)
      go_wp2
      go_ret
      exact ⟨rfl, t6⟩

-- The row's step.
set_option maxRecDepth 100000 in
theorem deedUnlike_lifted (os : Os) (started : os.Started) (H : Type) (enc : TypeId × Value → H) :
    ReturnsInHanded {} Try.checked os 9 .any (Rows.deedUnlikeSpec.pre6 enc Try.prog Try.f9 Rows.deedUnlikeRow.domain false) (Rows.deedUnlikeSpec.post enc Try.prog Try.f9 false true false false) := by
  refine returnsInHanded_of_change_sized (C := Try.checked) own started (by kernel_rfl) Try.func9
    (ChangeSpec.witness6 (enc := enc) (C := Try.checked) false ⟨#[], #[.agg #[.slice none 0 0, .slice none 0 0], .agg #[.slice none 0 0, .slice none 0 0]], []⟩ 8 (by kernel_rfl) (by kernel_rfl) (by kernel_rfl) (by kernel_rfl)) ?_
  intro W base args ds gs before hval0 hW hcnd hsz _
  have hval : ∀ (j : Nat) t v, Try.f9.params[j]? = some t → args[j]? = some v → Value.okWide Try.prog W .any base t v := hval0
  have hW' := hW
  obtain ⟨p, q, hA0, hV, rfl, hfz, hnd⟩ := hW
  have hA : DataW.TrodAll enc Try.prog W 0 (fun _ => true) true Try.f9.params.toList args.toList ds p := hA0
  rw [Try.params9] at hA hval hsz
  obtain ⟨v0, vs0, d0, ds0, p0, q0, hargs, rfl, rfl, h0, r0⟩ := trodAll_cons hA
  obtain ⟨v1, vs1, d1, ds1, p1, q1, rfl, rfl, rfl, h1, r1⟩ := trodAll_cons r0
  obtain ⟨rfl, rfl, rfl⟩ := trodAll_nil r1
  obtain rfl : args = #[v0, v1] := by cases args; simp_all
  obtain ⟨rfl, rfl⟩ := trodVars_none hV
  have k0 := h0
  have lt0 : ∀ x ∈ p0, x.block < W.heap.size := by obtain ⟨m, hm⟩ := k0; exact DataW.trod_lt m _ _ _ hm
  obtain ⟨al0, nl0, cl0, ac0, nc0, cc0, o0, rfl, g0⟩ := open_deed h0 (hval 0 26 v0 rfl rfl) (fun n hn => of_decide_eq_true (List.all_eq_true.1 hsz n (DataW.weights_mem_each (j := 0) (t := 26) rfl rfl n hn)))
  have k1 := h1
  have lt1 : ∀ x ∈ p1, x.block < W.heap.size := by obtain ⟨m, hm⟩ := k1; exact DataW.trod_lt m _ _ _ hm
  obtain ⟨al1, nl1, cl1, ac1, nc1, cc1, o1, rfl, g1⟩ := open_deed h1 (hval 1 26 v1 rfl rfl) (fun n hn => of_decide_eq_true (List.all_eq_true.1 hsz n (DataW.weights_mem_each (j := 1) (t := 26) rfl rfl n hn)))
  clear hA0 hval0 hval hfz hnd hcnd hA
  refine (unlike_ok W _ _ o0 g0 _ _ o1 g1).mono fun e W' ⟨he, bel⟩ => ?_
  subst he
  exact ⟨_, rfl, _, _, _, [], _, [], hW', trodAll_mk1 (shut_bool Try.underlying4 _), (trodAll_cons_mk (Below.trod laidOut (by kernel_rfl) (of_decide_eq_true (by kernel_rfl)) k0 bel lt0) (trodAll_cons_mk (Below.trod laidOut (by kernel_rfl) (of_decide_eq_true (by kernel_rfl)) k1 bel lt1) trodAll_mk0)), rfl, bel.frame _, fun h => by cases h⟩

theorem DeedUnlike_holds : Rows.DeedUnlikeSaid :=
  OpenClaim.holds_of_wide 9 Try.f9 rfl rfl rfl rfl rfl rfl rfl ⟨rfl, rfl, rfl, rfl, rfl⟩ rfl rfl rfl rfl rfl (by kernel_rfl) Try.func9 (by kernel_rfl)
    (of_decide_eq_true (by kernel_rfl)) (by unfold Func.isWrapper; rw [if_neg (of_decide_eq_false (by kernel_rfl))]; exact ⟨rfl, rfl⟩)
    (fun os started H enc _ => deedUnlike_lifted os started H enc)
#print axioms DeedUnlike_holds

end Go.Proofs.Ytfdjdpbiccclfaa
