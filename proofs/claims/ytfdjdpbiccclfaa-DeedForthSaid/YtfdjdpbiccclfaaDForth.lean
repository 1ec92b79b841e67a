/- DeedForth returns true for every input; nothing that was there is turned. -/
import Derived.Test.YtfdjdpbiccclfaaDPl
import Derived.Test.YtfdjdpbiccclfaaDAr
namespace Go.Proofs.Ytfdjdpbiccclfaa
open Go Go.RowKit Go.Wr
open Go.ChangeShapes Go.WideShapes Go.ChangeAt Go.Deep
set_option maxHeartbeats 4000000
set_option maxRecDepth 100000

theorem forth_ok (w : World) (v : Value) (b : List Nat) (h : SlBy w.heap.size w v b) : Calls Try.prog 8 #[v] w fun e w' => e = .returned (.bool true) ∧ Below w.heap.size w w' := by
  have H := Lib.hid h
  have h256 := h.lt256
  obtain ⟨a0, cap, hv, hc1, hc2, _⟩ := h
  subst hv
  unfold maxLen at hc2
  have H256 := Lib.hid h256
  clear h256
  go_enter Try.func8, Try.ntmps8
  go_wp2_with fail
  refine (known_ok _).mono ?_
  rintro e w1 ⟨rfl, b1⟩
  have H1 := Lib.hid (H.out.up b1)
  go_wp2_with fail
  refine (decode_ok _ _ b H1.out).mono ?_
  rintro e w2 ⟨b2, vd, rfl, hd⟩
  have hn := dec_len b H256.out
  have t2 := bThen b1 b2
  have H2 := Lib.hid (H1.out.up b2)
  clear H H1 b1 b2
  by_cases he : (decD b).2.2 = 0
  · obtain ⟨e1, e2, e3⟩ := enc_dec H256.out he
    obtain ⟨al, nl, cl, ac, nc, cc, rfl, hsd⟩ := isDd_sl hd hn.1 hn.2.1 hn.2.2
    have HS := Lib.hid hsd
    have HE := Lib.hid (And.intro e1 e2)
    rw [he, e3]
    clear hd hn hsd e1 e2 e3 he
    go_wp2_with fail
    have bA : Below w2.heap.size w2 (w2.alloc (.cells #[.slice al nl cl, .slice ac nc cc] 26)) := bAl (bRefl w2) _
    refine (encode_ok _ _ _ _ (HS.out.up bA)).mono ?_
    rintro e w3 ⟨b3, vx, rfl, hown⟩
    rw [HE.out.1]
    rw [HE.out.2] at hown
    have HX := Lib.hid (SlBy.of_own hown H256.out)
    have H3 := Lib.hid ((H2.out.up bA).up b3)
    have t3 := bThen (bThen t2 bA) b3
    clear hown bA b3 t2
    go_wp2_with fail
    (with_reducible refine (samebytes_ok _ _ _ _ vx b b H3.out HX.out).mono ?_)
    rintro e w5 ⟨rfl, rfl⟩
    rw [show decide (b = b) = true from decide_eq_true rfl]
    go_wp2
    go_ret
    exact ⟨rfl, t3⟩
  · obtain ⟨p1, p2⟩ := dec_place b he
    obtain ⟨vl, vc, cs, rfl, hcs, ho⟩ := hd
    rw [p2] at ho hcs
    have hc0 : cs = [] := by simpa using hcs
    subst hc0
    obtain ⟨al, cl, rfl⟩ := own_slice ho.lp
    obtain ⟨ac, cc, rfl⟩ := own_slice ho.cl
    obtain ⟨pl, hpl⟩ : ∃ n, n = (decD b).2.1 := ⟨_, rfl⟩
    obtain ⟨er, her⟩ : ∃ n, n = (decD b).2.2 := ⟨_, rfl⟩
    rw [← hpl] at p1 ⊢
    rw [← her] at he ⊢
    have p1' : (pl : Int) ≤ (b.length : Int) := by omega
    have hne : (er != 0) = true := by rw [bne_iff_ne]; exact he
    have hp0 : (0 : Int) ≤ (pl : Int) := by omega
    clear hpl her ho hcs hn he
    simp only [List.length_nil]
    go_wp2
    go_ret
    exact ⟨rfl, bAl t2 _⟩

set_option maxRecDepth 100000 in
theorem deedForth_lifted (os : Os) (started : os.Started) (H : Type) (enc : TypeId × Value → H) :
    ReturnsInHanded {} Try.checked os 8 .any (Rows.deedForthSpec.pre6 enc Try.prog Try.f8 Rows.deedForthRow.domain false) (Rows.deedForthSpec.post enc Try.prog Try.f8 false true false false) := by
  refine returnsInHanded_of_change_sized (C := Try.checked) own started (by kernel_rfl) Try.func8
    (ChangeSpec.witness6 (enc := enc) (C := Try.checked) false ⟨#[], #[.slice none 0 0], []⟩ 8 (by kernel_rfl) (by kernel_rfl) (by kernel_rfl) (by kernel_rfl)) ?_
  intro W base args ds gs before hval0 hW hcnd hsz _
  have hval : ∀ (j : Nat) t v, Try.f8.params[j]? = some t → args[j]? = some v → Value.okWide Try.prog W .any base t v := hval0
  have hW' := hW
  obtain ⟨p, q, hA0, hV, rfl, hfz, hnd⟩ := hW
  have hA : DataW.TrodAll enc Try.prog W 0 (fun _ => true) true Try.f8.params.toList args.toList ds p := hA0
  rw [Try.params8] at hA hval hsz
  obtain ⟨v0, vs0, d0, ds0, p0, q0, hargs, rfl, rfl, h0, r0⟩ := trodAll_cons hA
  obtain ⟨rfl, rfl, rfl⟩ := trodAll_nil r0
  obtain rfl : args = #[v0] := by cases args; simp_all
  obtain ⟨rfl, rfl⟩ := trodVars_none hV
  have k0 := h0
  have lt0 : ∀ x ∈ p0, x.block < W.heap.size := by obtain ⟨m, hm⟩ := k0; exact DataW.trod_lt m _ _ _ hm
  obtain ⟨a0, len0, cap0, rfl⟩ := okWide_slice Try.underlying28 (hval 0 28 v0 rfl rfl)
  obtain ⟨l0, g0⟩ : ∃ l, SlBy W.heap.size W (.slice a0 len0 cap0) l := by
    obtain ⟨fuel, hf⟩ := h0
    exact open_by (x := (d0, p0)) (by simpa [Value.cells] using hf)
  clear hA0 hval0 hval hfz hnd hcnd hA
  refine (forth_ok W _ l0 g0).mono fun e W' ⟨he, bel⟩ => ?_
  subst he
  exact ⟨_, rfl, _, _, _, [], _, [], hW', trodAll_mk1 (shut_bool Try.underlying4 _), (trodAll_cons_mk (Below.trod laidOut (by kernel_rfl) (of_decide_eq_true (by kernel_rfl)) k0 bel lt0) trodAll_mk0), rfl, bel.frame _, fun h => by cases h⟩

theorem DeedForth_holds : Rows.DeedForthSaid :=
  OpenClaim.holds_of_wide 8 Try.f8 rfl rfl rfl rfl rfl rfl rfl ⟨rfl, rfl, rfl, rfl, rfl⟩ rfl rfl rfl rfl rfl (by kernel_rfl) Try.func8 (by kernel_rfl)
    (of_decide_eq_true (by kernel_rfl)) (by unfold Func.isWrapper; rw [if_neg (of_decide_eq_false (by kernel_rfl))]; exact ⟨rfl, rfl⟩)
    (fun os started H enc _ => deedForth_lifted os started H enc)
#print axioms DeedForth_holds

end Go.Proofs.Ytfdjdpbiccclfaa
