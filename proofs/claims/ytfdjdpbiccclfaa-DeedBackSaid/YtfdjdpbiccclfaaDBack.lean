/- DeedBack returns true for every input; nothing that was there is turned. -/
import Derived.Test.YtfdjdpbiccclfaaDEk
import Derived.Test.YtfdjdpbiccclfaaDUnlike
namespace Go.Proofs.Ytfdjdpbiccclfaa
open Go Go.RowKit Go.Wr
open Go.ChangeShapes Go.WideShapes Go.ChangeAt Go.Deep
set_option maxHeartbeats 4000000
set_option maxRecDepth 100000

theorem enc_len {d : Dd} (h : encE d = 0) : (encD d).length ≤ 4194304 := by
  unfold encD
  rw [if_pos h]
  unfold encE at h
  by_cases hp : plainD d = 0
  · rw [if_pos hp] at h
    by_cases hl : 4194304 < (deedB d).length
    · rw [if_pos hl] at h; cases h
    · omega
  · rw [if_neg hp] at h; exact absurd h hp
theorem back_ok (w : World) (vl vc : Value) (d : Dd) (h : SlD w.heap.size w vl vc d) :
    Calls Try.prog 7 #[.agg #[vl, vc]] w fun e w' => e = .returned (.bool true) ∧ Below w.heap.size w w' := by
  obtain ⟨al, cl, hvl, _⟩ := h.ls
  obtain ⟨ac, cc, hvc, _⟩ := h.cs
  subst hvl hvc
  have H := Lib.hid h
  clear h
  go_enter Try.func7, Try.ntmps7
  go_upto_region 1 with (fail)
  generalize hW : w.alloc (.cells #[.slice al d.ls.length cl, .slice ac d.cs.length cc] 26) = W
  have bW : Below w.heap.size w W := by rw [← hW]; exact bAl (bRefl w) _
  have P0 : Blk W w.heap.size 26 #[.slice al d.ls.length cl, .slice ac d.cs.length cc] := by rw [← hW]; exact Blk.new _ _ _
  have H0 := Lib.hid (H.out.up bW)
  clear hW H
  go_wp2_with fail
  refine (known_ok _).mono ?_
  rintro e w1 ⟨rfl, b1⟩
  have H1 := Lib.hid (H0.out.up b1)
  have P1 := P0.below b1 P0.lt
  have t1 := bThen bW b1
  have c0 := P1.cell 0
  have c1 := P1.cell 1
  simp only [List.getElem?_toArray, List.getElem?_cons_zero, List.getElem?_cons_succ] at c0 c1
  have HP1 := Lib.hid P1
  clear H0 P0 bW b1 P1
  go_wp2_with fail
  refine (encode_ok _ _ _ d H1.out).mono ?_
  rintro e w2 hr
  obtain ⟨b2, v1, rfl, ho1⟩ := hr
  have hs1 := SlBy.of_own ho1 (encD_256 d)
  obtain ⟨a1, k1, rfl⟩ := own_form (show OwY w1.heap.size w2 v1 (encD d) from ho1)
  have H2 := Lib.hid (H1.out.up b2)
  have P2 := HP1.out.below b2 HP1.out.lt
  have t2 := bThen t1 b2
  have c0 := P2.cell 0
  have c1 := P2.cell 1
  simp only [List.getElem?_toArray, List.getElem?_cons_zero, List.getElem?_cons_succ] at c0 c1
  have HP2 := Lib.hid P2
  have HS1 := Lib.hid hs1
  clear H1 HP1 t1 b2 P2 hs1 ho1
  obtain ⟨e1, he1⟩ : ∃ n, n = encE d := ⟨_, rfl⟩
  rw [← he1]
  by_cases h1 : e1 = 0
  · subst h1
    obtain ⟨d', hd1, hd2⟩ := dec_enc he1.symm
    have hln := enc_len he1.symm
    obtain ⟨b, hb⟩ : ∃ b, b = encD d := ⟨_, rfl⟩
    have h256 := encD_256 d
    rw [← hb] at HS1 hd1 hln h256 ⊢
    have HD1 := Lib.hid hd1
    have HD2 := Lib.hid hd2
    have H256 := Lib.hid h256
    clear hd1 hd2 he1 h256 hb
    go_wp2_with fail
    refine (decode_ok _ _ b HS1.out).mono ?_
    rintro e w3 ⟨b3, vd, rfl, hd⟩
    have hn := dec_len b H256.out
    obtain ⟨al7, nl7, cl7, ac7, nc7, cc7, rfl, hsd⟩ := isDd_sl hd hn.1 hn.2.1 hn.2.2
    rw [HD1.out] at hsd ⊢
    have H3 := Lib.hid (H2.out.up b3)
    have P3 := HP2.out.below b3 HP2.out.lt
    have t3 := bThen t2 b3
    have HSD := Lib.hid hsd
    have HP3 := Lib.hid P3
    clear H2 HP2 t2 b3 P3 hn hd hsd c0 c1 HS1
    go_upto_region 8 with (fail)
    have HQ8 := Lib.hid (show Blk (w3.alloc (.cells #[.slice al7 nl7 cl7, .slice ac7 nc7 cc7] 26)) w3.heap.size 26 #[.slice al7 nl7 cl7, .slice ac7 nc7 cc7] from Blk.new _ _ _)
    generalize hW8 : w3.alloc _ = w4
    rw [hW8] at HQ8
    have b8 : Below w3.heap.size w3 w4 := by rw [← hW8]; exact bAl (bRefl w3) _
    have H8 := Lib.hid (H3.out.up b8)
    have X8 := Lib.hid (HSD.out.up b8)
    have P8 := HP3.out.below b8 HP3.out.lt
    have t8 := bThen t3 b8
    have c0 := P8.cell 0
    have c1 := P8.cell 1
    have d0 := HQ8.out.cell 0
    have d1 := HQ8.out.cell 1
    simp only [List.getElem?_toArray, List.getElem?_cons_zero, List.getElem?_cons_succ] at c0 c1 d0 d1
    have hle : (b.length : Int) ≤ 4194304 := by omega
    clear hW8 H3 HP3 t3 b8 P8 HSD HQ8
    go_wp2_with fail
    (with_reducible refine (samedeed_ok _ _ _ _ _ d d' H8.out X8.out).mono ?_)
    rintro e w5 ⟨rfl, b9⟩
    rw [HD2.out]
    have t4 := bThen t8 b9
    clear H8 X8 t8 b9 c0 c1 d0 d1
    go_wp2
    go_ret
    exact ⟨rfl, t4⟩
  · have h1' : (e1 != 0) = true := by rw [bne_iff_ne]; exact h1
    have hl : encD d = [] := encD_err (by rw [← he1]; exact h1)
    rw [hl]
    have HE := Lib.hid he1
    clear he1 hl HS1
    go_wp2_with fail
    refine (rencode_ok _ _ _ d H2.out).mono ?_
    rintro e w3 hr
    obtain ⟨b3, v3, rfl, _⟩ := hr
    rw [← HE.out]
    have t3 := bThen t2 b3
    clear H2 HP2 t2 b3 c0 c1
    go_wp2
    go_ret
    exact ⟨rfl, t3⟩

-- The row's step.
set_option maxRecDepth 100000 in
theorem deedBack_lifted (os : Os) (started : os.Started) (H : Type) (enc : TypeId × Value → H) :
    ReturnsInHanded {} Try.checked os 7 .any (Rows.deedBackSpec.pre6 enc Try.prog Try.f7 Rows.deedBackRow.domain false) (Rows.deedBackSpec.post enc Try.prog Try.f7 false true false false) := by
  refine returnsInHanded_of_change_sized (C := Try.checked) own started (by kernel_rfl) Try.func7
    (ChangeSpec.witness6 (enc := enc) (C := Try.checked) false ⟨#[], #[.agg #[.slice none 0 0, .slice none 0 0]], []⟩ 8 (by kernel_rfl) (by kernel_rfl) (by kernel_rfl) (by kernel_rfl)) ?_
  intro W base args ds gs before hval0 hW hcnd hsz _
  have hval : ∀ (j : Nat) t v, Try.f7.params[j]? = some t → args[j]? = some v → Value.okWide Try.prog W .any base t v := hval0
  have hW' := hW
  obtain ⟨p, q, hA0, hV, rfl, hfz, hnd⟩ := hW
  have hA : DataW.TrodAll enc Try.prog W 0 (fun _ => true) true Try.f7.params.toList args.toList ds p := hA0
  rw [Try.params7] at hA hval hsz
  obtain ⟨v0, vs0, d0, ds0, p0, q0, hargs, rfl, rfl, h0, r0⟩ := trodAll_cons hA
  obtain ⟨rfl, rfl, rfl⟩ := trodAll_nil r0
  obtain rfl : args = #[v0] := by cases args; simp_all
  obtain ⟨rfl, rfl⟩ := trodVars_none hV
  have k0 := h0
  have lt0 : ∀ x ∈ p0, x.block < W.heap.size := by obtain ⟨m, hm⟩ := k0; exact DataW.trod_lt m _ _ _ hm
  obtain ⟨al0, nl0, cl0, ac0, nc0, cc0, o0, rfl, g0⟩ := open_deed h0 (hval 0 26 v0 rfl rfl) (fun n hn => of_decide_eq_true (List.all_eq_true.1 hsz n (DataW.weights_mem_each (j := 0) (t := 26) rfl rfl n hn)))
  clear hA0 hval0 hval hfz hnd hcnd hA
  refine (back_ok W _ _ o0 g0).mono fun e W' ⟨he, bel⟩ => ?_
  subst he
  exact ⟨_, rfl, _, _, _, [], _, [], hW', trodAll_mk1 (shut_bool Try.underlying4 _), (trodAll_cons_mk (Below.trod laidOut (by kernel_rfl) (of_decide_eq_true (by kernel_rfl)) k0 bel lt0) trodAll_mk0), rfl, bel.frame _, fun h => by cases h⟩

theorem DeedBack_holds : Rows.DeedBackSaid :=
  OpenClaim.holds_of_wide 7 Try.f7 rfl rfl rfl rfl rfl rfl rfl ⟨rfl, rfl, rfl, rfl, rfl⟩ rfl rfl rfl rfl rfl (by kernel_rfl) Try.func7 (by kernel_rfl)
    (of_decide_eq_true (by kernel_rfl)) (by unfold Func.isWrapper; rw [if_neg (of_decide_eq_false (by kernel_rfl))]; exact ⟨rfl, rfl⟩)
    (fun os started H enc _ => deedBack_lifted os started H enc)
#print axioms DeedBack_holds

end Go.Proofs.Ytfdjdpbiccclfaa
