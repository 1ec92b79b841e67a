/- DeedEncodes, and its statement for inputs of small bulk. -/
import Derived.Test.YtfdjdpbiccclfaaDLts
import Derived.Test.YtfdjdpbiccclfaaDEk
import Derived.Test.YtfdjdpbiccclfaaDKn
import Derived.Test.YtfdjdpbiccclfaaDPl
import Derived.Test.YtfdjdpbiccclfaaDAr
import Derived.Deep.CondSized
/- DeedEncodes: every Encode of a deed of small bulk; the deed stays, spare room too. No conditions but those that each law names. -/
namespace Go.Proofs.Ytfdjdpbiccclfaa
open Go Go.RowKit Go.Wr
set_option maxHeartbeats 4000000
set_option maxRecDepth 100000

/-- What Encode leaves, in a form that stays. -/
theorem EncP.by' {d : Dd} {w w' : World} {e : Ending} (h : EncP d w e w') : Below w.heap.size w w' ∧ ∃ a n c, e = .returned (.tuple #[.slice a n c, .int .i64 (encE d)]) ∧ SlBy w'.heap.size w' (.slice a n c) (encD d) := by
  obtain ⟨b, v, rfl, ho⟩ := h
  have hs := SlBy.of_own ho (encD_256 d)
  obtain ⟨a, c, rfl, _⟩ := hs
  exact ⟨b, a, _, c, rfl, SlBy.of_own ho (encD_256 d)⟩
theorem encodes_ok (w : World) (vl vc : Value) (d : Dd) (h : SlD w.heap.size w vl vc d) (hn : Sml d) :
    Calls Try.prog 4 #[.agg #[vl, vc]] w fun e w' => e = .returned (.bool true) ∧ Below w.heap.size w w' := by
  have H := Lib.hid h
  have HN := Lib.hid hn
  obtain ⟨⟨al, capl, rfl, -⟩, ⟨ac, capc, rfl, -⟩, -, -, -⟩ := h
  have HNl := hn.n1
  have HNc := hn.n2
  clear hn
  go_enter Try.func4, Try.ntmps4
  go_upto_region 1 with (fail)
  generalize hW : w.alloc (.cells #[.slice al d.ls.length capl, .slice ac d.cs.length capc] 26) = W
  obtain ⟨p, hp⟩ : ∃ p, p = w.heap.size := ⟨_, rfl⟩
  have bW : Below w.heap.size w W := by rw [← hW]; exact bAl (bRefl w) _
  have P0 : Blk W p 26 #[.slice al d.ls.length capl, .slice ac d.cs.length capc] := by rw [← hW, hp]; exact Blk.new _ _ _
  have H0 := Lib.hid (H.out.up bW)
  rw [← hp]
  clear hW H hp
  go_wp2_with fail
  refine (known_ok _).mono ?_
  rintro e w1 ⟨rfl, b1⟩
  have H1 := Lib.hid (H0.out.up b1)
  have HP1 := Lib.hid (P0.below b1 P0.lt)
  have HB1 := Lib.hid (bThen bW b1)
  clear H0 P0 bW b1
  have c0 := HP1.out.cell 0
  have c1 := HP1.out.cell 1
  simp only [List.getElem?_toArray, List.getElem?_cons_zero, List.getElem?_cons_succ] at c0 c1
  go_wp2_with fail
  refine (lent_ok w1 _ _ d H1.out HN.out).mono ?_
  rintro e w2 ⟨b2, la, ka, lc, kc, cs, rfl, hcm, hlt⟩
  have H2 := Lib.hid (H1.out.up b2)
  have HP2 := Lib.hid (HP1.out.below b2 HP1.out.lt)
  have HB2 := Lib.hid (bThen HB1.out b2)
  have HL2 := Lib.hid hlt
  have hs2 := b2.size
  have hs1 := HB1.out.size
  clear b2 hlt HP1 H1 HB1 c0 c1
  go_upto_region 4 with (fail)
  generalize hW : w2.alloc (.cells #[.slice la d.ls.length lc, .slice ka d.cs.length kc] 26) = W3
  obtain ⟨q, hq⟩ : ∃ q, q = w2.heap.size := ⟨_, rfl⟩
  rw [← hq]
  have bW : Below w2.heap.size w2 W3 := by rw [← hW]; exact bAl (bRefl w2) _
  have HQ3 := Lib.hid (show Blk W3 q 26 #[.slice la d.ls.length lc, .slice ka d.cs.length kc] by rw [← hW, hq]; exact Blk.new _ _ _)
  have H3 := Lib.hid (H2.out.up bW)
  have HP3 := Lib.hid (HP2.out.below bW HP2.out.lt)
  have HB3 := Lib.hid (bThen HB2.out bW)
  have HL3 := Lib.hid (HL2.out.below bW)
  obtain ⟨ls, ds⟩ := d
  simp only at hcm HNl HNc H3 HP3 HQ3 HL3 HN ⊢
  subst hcm
  simp only [List.length_map] at HNl HNc HP3 HQ3 ⊢
  have HS3 := Lib.hid (HL3.out.sl HN.out)
  have c0 := HQ3.out.cell 0
  have c1 := HQ3.out.cell 1
  simp only [List.getElem?_toArray, List.getElem?_cons_zero, List.getElem?_cons_succ] at c0 c1
  have hb3 := bW.size
  clear hW hq bW H2 HP2 HB2 HL2
  go_wp2_with fail
  refine (encode_ok W3 _ _ _ HS3.out).mono ?_
  intro e w4 hr
  obtain ⟨b4, va, vn, vd, he, hv⟩ := hr.by'
  subst he
  have HV4 := Lib.hid hv
  have H4 := Lib.hid (H3.out.up b4)
  have HP4 := Lib.hid (HP3.out.below b4 HP3.out.lt)
  have HQ4 := Lib.hid (HQ3.out.below b4 HQ3.out.lt)
  have HB4 := Lib.hid (bThen HB3.out b4)
  have HL4 := Lib.hid (HL3.out.below b4)
  have hb4 := b4.size
  obtain ⟨er, her⟩ : ∃ n, n = encE ⟨ls, cs.map (·.1)⟩ := ⟨_, rfl⟩
  have HER := Lib.hid her
  rw [← her]
  clear hr hv b4 H3 HP3 HQ3 HB3 HL3 HS3 c0 c1 her
  have c0 := HP4.out.cell 0
  have c1 := HP4.out.cell 1
  simp only [List.getElem?_toArray, List.getElem?_cons_zero, List.getElem?_cons_succ] at c0 c1
  go_wp2_with fail
  refine (rencode_ok w4 _ _ ⟨ls, cs.map (·.1)⟩ (by have := H4.out; simp only [List.length_map] at this; exact this)).mono ?_
  intro e w5 hr
  obtain ⟨b5, ua, un, ud, he, hv⟩ := hr.by'
  subst he
  rw [← HER.out]
  have HU5 := Lib.hid hv
  have HV5 := Lib.hid (HV4.out.up b5)
  have H5 := Lib.hid (H4.out.up b5)
  have HP5 := Lib.hid (HP4.out.below b5 HP4.out.lt)
  have HQ5 := Lib.hid (HQ4.out.below b5 HQ4.out.lt)
  have HB5 := Lib.hid (bThen HB4.out b5)
  have HL5 := Lib.hid (HL4.out.below b5)
  have hb5 := b5.size
  clear hr hv b5 H4 HP4 HQ4 HB4 HL4 HV4 c0 c1
  have c0 := HP5.out.cell 0
  have c1 := HP5.out.cell 1
  have d0 := HQ5.out.cell 0
  have d1 := HQ5.out.cell 1
  simp only [List.getElem?_toArray, List.getElem?_cons_zero, List.getElem?_cons_succ] at c0 c1 d0 d1
  go_wp2_with fail
  refine (samebytes_ok w5 _ _ _ _ _ _ HV5.out HU5.out).mono ?_
  rintro e w6 ⟨rfl, rfl⟩
  rw [decide_eq_true (rfl : encD ⟨ls, cs.map (·.1)⟩ = _)]
  go_wp2_with fail
  refine (back_ok2 w6 _ _ _ _ _ _ _ _ _ HL5.out (by have := H5.out; simp only [List.length_map] at this; exact this) HN.out).mono ?_
  rintro e w7 ⟨rfl, b7⟩
  have HP7 := Lib.hid (HP5.out.below b7 HP5.out.lt)
  have HQ7 := Lib.hid (HQ5.out.below b7 HQ5.out.lt)
  have HB7 := Lib.hid (bThen HB5.out b7)
  have HL7 := Lib.hid (HL5.out.below b7)
  have hb7 := b7.size
  clear b7 H5 HP5 HQ5 HB5 HL5 HV5 HU5 c0 c1 d0 d1
  have d0 := HQ7.out.cell 0
  have d1 := HQ7.out.cell 1
  simp only [List.getElem?_toArray, List.getElem?_cons_zero, List.getElem?_cons_succ] at d0 d1
  go_wp2_with fail
  refine (turned_ok w7 w1.heap.size _ _ _ _ _ _ HL7.out HN.out (by omega)).mono ?_
  rintro e w8 ⟨rfl, b8, hl8, hk8⟩
  have HQ8 := Lib.hid (hk8 _ _ HQ7.out)
  have HB8 := Lib.hid (HB7.out.trans (b8.mono hs1))
  obtain ⟨D, hs8, hn8⟩ := turned_sl hl8 HN.out
  have HS8 := Lib.hid hs8
  clear b8 hl8 hk8 HP7 HQ7 HB7 HL7 hs8 d0 d1
  have d0 := HQ8.out.cell 0
  have d1 := HQ8.out.cell 1
  simp only [List.getElem?_toArray, List.getElem?_cons_zero, List.getElem?_cons_succ] at d0 d1
  go_wp2_with fail
  refine (copydeed_ok w8 _ _ D HS8.out hn8).mono ?_
  rintro e w9 ⟨b9, x1, x2, rfl, hs9⟩
  obtain ⟨xa, xn, rfl⟩ : ∃ a c, x1 = .slice a D.ls.length c := by obtain ⟨a, c, e, _⟩ := hs9.ls; exact ⟨a, c, e⟩
  obtain ⟨ya, yn, rfl⟩ : ∃ a c, x2 = .slice a D.cs.length c := by obtain ⟨a, c, e, _⟩ := hs9.cs; exact ⟨a, c, e⟩
  have HS9 := Lib.hid hs9
  have HT9 := Lib.hid (HS8.out.up b9)
  have HQ9 := Lib.hid (HQ8.out.below b9 HQ8.out.lt)
  have HB9 := Lib.hid (bThen HB8.out b9)
  clear b9 hs9 HQ8 HB8 HS8 d0 d1
  go_wp2_with fail
  refine (rencode_ok w9 _ _ D HS9.out).mono ?_
  intro e w10 hr
  obtain ⟨b10, ua, un, ud, he, hv⟩ := hr.by'
  subst he
  have HU10 := Lib.hid hv
  have HT10 := Lib.hid (HT9.out.up b10)
  have HQ10 := Lib.hid (HQ9.out.below b10 HQ9.out.lt)
  have HB10 := Lib.hid (bThen HB9.out b10)
  obtain ⟨er2, her2⟩ : ∃ n, n = encE D := ⟨_, rfl⟩
  have HER2 := Lib.hid her2
  rw [← her2]
  clear hr hv b10 HS9 HT9 HQ9 HB9 her2
  have d0 := HQ10.out.cell 0
  have d1 := HQ10.out.cell 1
  simp only [List.getElem?_toArray, List.getElem?_cons_zero, List.getElem?_cons_succ] at d0 d1
  go_wp2_with fail
  refine (encode_ok w10 _ _ D HT10.out).mono ?_
  intro e w11 hr
  obtain ⟨b11, va, vn, vd, he, hv⟩ := hr.by'
  subst he
  rw [← HER2.out]
  have HV11 := Lib.hid hv
  have HU11 := Lib.hid (HU10.out.up b11)
  have HB11 := Lib.hid (bThen HB10.out b11)
  clear hr hv b11 HT10 HQ10 HB10 HU10 d0 d1
  go_wp2_with fail
  refine (samebytes_ok w11 _ _ _ _ _ _ HV11.out HU11.out).mono ?_
  rintro e w12 ⟨rfl, rfl⟩
  rw [decide_eq_true (rfl : encD D = _)]
  go_wp2
  go_ret
  exact ⟨rfl, HB11.out⟩
end Go.Proofs.Ytfdjdpbiccclfaa

/- DeedEncodes: the statement for inputs of small bulk. No further conditions. -/
namespace Go.Proofs.Ytfdjdpbiccclfaa
open Go Go.RowKit Go.Wr
open Go.ChangeShapes Go.WideShapes Go.ChangeAt Go.Deep
set_option maxHeartbeats 4000000
set_option maxRecDepth 100000

theorem bulk_one {H : Type} (d : DataW H) : 1 ≤ Rows.uptoBulk d := by
  cases d with
  | lit l => cases l <;> simp [Rows.uptoBulk]
  | _ => simp [Rows.uptoBulk]
theorem bulk_len {H : Type} (l : List (DataW H)) : l.length ≤ Rows.uptoBulkAll l := by
  induction l with
  | nil => simp
  | cons x r ih => have := bulk_one x; simp only [Rows.uptoBulkAll, List.length_cons]; omega
theorem bulk_mem {H : Type} {d : DataW H} : ∀ {l : List (DataW H)}, d ∈ l → Rows.uptoBulk d ≤ Rows.uptoBulkAll l
  | x :: r, h => by
    rcases List.mem_cons.1 h with rfl | h
    · simp only [Rows.uptoBulkAll]; omega
    · have := bulk_mem h
      simp only [Rows.uptoBulkAll]; omega
section
variable {H : Type} {enc : TypeId × Value → H} {w : World} {base : Nat} {held : Bool}
/-- A row is no longer than the bulk of its reading. -/
theorem bulk_slice {T e : TypeId} (hT : Try.prog.underlying T = some (.slice e)) {a0 : Option Addr} {len cap fuel : Nat} {x : DataW H × List MemPlace} (h : DataW.trod enc Try.prog w base (fun _ => true) held fuel T [.slice a0 len cap] = some x) : len ≤ Rows.uptoBulk x.1 := by
  rcases open_slice hT h with ⟨hcs, _⟩ | ⟨a, len', cap', m, n', D, Pl, hcs, _, _, _, _, hd, _⟩
  · simp only [List.cons.injEq, Value.slice.injEq, and_true] at hcs
    omega
  · simp only [List.cons.injEq, Value.slice.injEq, and_true] at hcs
    rw [hd]
    simp only [Rows.uptoBulk]
    have := bulk_len ((List.range len').map D)
    simp only [List.length_map, List.length_range] at this
    omega
theorem bulk_claim {fuel : Nat} {cs : List Value} {x : DataW H × List MemPlace} (h : DataW.trod enc Try.prog w base (fun _ => true) held fuel 61 cs = some x) : ∃ a n c, cs[127]? = some (.slice a n c) ∧ n ≤ Rows.uptoBulk x.1 := by
  obtain ⟨xs, n, _, hxe, hl, hxl, hx⟩ := DataW.trod_struct Try.underlying61 h
  have hc : Try.prog.cellsOf 61 = 128 := by kernel_rfl
  have hcc : Try.prog.cellsOf 59 = 1 := by kernel_rfl
  rw [hc] at hl
  obtain ⟨y3, g3⟩ : ∃ y, xs[3]? = some y := ⟨_, List.getElem?_eq_getElem (by rw [hxl]; decide)⟩
  have x3 : DataW.trod enc Try.prog w base (fun _ => true) held n 59 ((cs.drop 127).take (Try.prog.cellsOf 59)) = xs[3]? := hx 3 _ rfl
  rw [hcc, g3] at x3
  obtain ⟨v, ev⟩ : ∃ v, (cs.drop 127).take 1 = [v] := by
    rw [List.drop_eq_getElem_cons (by omega)]
    exact ⟨_, rfl⟩
  rw [ev] at x3
  obtain ⟨a0, len, cap, rfl⟩ : ∃ a n c, v = .slice a n c := by
    rcases open_slice Try.underlying59 x3 with ⟨hcs, _⟩ | ⟨a, len', cap', m, n, D, Pl, hcs, _⟩
    · simp only [List.cons.injEq, and_true] at hcs
      exact ⟨_, _, _, hcs⟩
    · simp only [List.cons.injEq, and_true] at hcs
      exact ⟨_, _, _, hcs⟩
  refine ⟨a0, len, cap, seg_get ev 0 (by omega), ?_⟩
  have hb := bulk_slice Try.underlying59 x3
  rw [hxe]
  have hm := bulk_mem (l := xs.map (·.1)) (List.mem_map.2 ⟨y3, List.mem_of_getElem? g3, rfl⟩)
  simp only [Rows.uptoBulk]
  omega
/-- A deed of small bulk has small lists. -/
theorem small_deed {al ac : Option Addr} {nl cl nc cc : Nat} {d : DataW H} {p : List MemPlace} {e : Dd} (hv : ∃ fuel, DataW.trod enc Try.prog w base (fun _ => true) held fuel 26 (Value.agg #[.slice al nl cl, .slice ac nc cc]).cells.toList = some (d, p))
    (hz : Rows.uptoBulk d ≤ 1048576) (hs : SlD w.heap.size w (.slice al nl cl) (.slice ac nc cc) e) : Sml e := by
  obtain ⟨fuel, hf⟩ := hv
  obtain ⟨y0, y1, n, hxe, hl, h0, h1⟩ := trod_struct2 Try.underlying26 hf
  have hc1 : Try.prog.cellsOf 23 = 1 := by kernel_rfl
  have hc2 : Try.prog.cellsOf 24 = 1 := by kernel_rfl
  simp only [Value.cells, hc1, hc2, List.drop_succ_cons, List.drop_zero, List.take_succ_cons, List.take_zero] at h0 h1
  simp only [Prod.mk.injEq] at hxe
  obtain ⟨rfl, _⟩ := hxe
  simp only [Rows.uptoBulk, Rows.uptoBulkAll] at hz
  have b0 := bulk_slice Try.underlying23 h0
  have b1 := bulk_slice Try.underlying24 h1
  obtain ⟨⟨a1, k1, e1, _⟩, ⟨a2, k2, e2, hcl⟩, _⟩ := hs
  injection e1 with _ e1 _
  injection e2 with e2a e2 _
  refine ⟨by omega, by omega, fun c hc => ?_⟩
  obtain ⟨k, hk⟩ := List.mem_iff_getElem?.1 hc
  have hkl := (List.getElem?_eq_some_iff.1 hk).1
  obtain ⟨bb, off, vc, ea, hbb, hra, a3, k3, e3, _⟩ := hcl k c hk
  rcases open_slice Try.underlying24 h1 with ⟨hcs, _⟩ | ⟨a, len', cap', m, n', D, Pl, hcs, _, hl1, hm, hmm, hd, hel⟩
  · simp only [List.cons.injEq, Value.slice.injEq, and_true] at hcs
    omega
  · simp only [List.cons.injEq, Value.slice.injEq, and_true] at hcs
    obtain ⟨rfl, rfl, rfl⟩ := hcs
    have hmc : m = nc ∨ nc ≤ m := by right; split at hmm <;> omega
    have hc5 : Try.prog.cellsOf 61 = 128 := by kernel_rfl
    obtain ⟨cs', g1, g2⟩ := hel k (by omega)
    rw [hc5] at g1
    obtain ⟨x1, x2, x3, hx, hxb⟩ := bulk_claim g2
    rw [← e2a] at ea
    injection ea with ea
    subst ea
    rw [Addr.add_lit] at g1
    have hcell := cells_range g1 rfl 127 _ hx
    have h2 := hra 127 vc (by rw [Array.getElem?_toList]; exact bx_last _ _ _)
    have h3 : some (Value.slice x1 x2 x3) = some vc := hcell.symm.trans h2
    rw [e3] at h3
    injection h3 with h3
    injection h3 with _ h3 _
    rw [hd] at b1 hz
    have hm2 := bulk_mem (l := (List.range nc).map D) (d := D k) (List.mem_map.2 ⟨k, List.mem_range.2 (by omega), rfl⟩)
    simp only [Rows.uptoBulk] at hz
    simp only at hxb
    omega
end
-- The row's step.
set_option maxRecDepth 100000 in
theorem deedEncodes_lifted (os : Os) (started : os.Started) (H : Type) (enc : TypeId × Value → H) (F : Stop.Interp) :
    ReturnsInHanded {} Try.checked os 4 .any ((Rows.OpenSpec.upto Rows.deedEncodesSpec).pre6 enc Try.prog Try.f4 Rows.deedEncodesUptoRow.domain false) (((Rows.OpenSpec.upto Rows.deedEncodesSpec).at F).post enc Try.prog Try.f4 false true false false) := by
  refine returnsInHanded_of_cond_sized (C := Try.checked) (s := Rows.OpenSpec.upto Rows.deedEncodesSpec) (k := Rows.uptoSmall) rfl own started (by kernel_rfl) Try.func4
    (OpenSpec.witness (enc := enc) (C := Try.checked) (s := Rows.OpenSpec.upto Rows.deedEncodesSpec) (k := Rows.uptoSmall) rfl false ⟨#[], #[.agg #[.slice none 0 0, .slice none 0 0]], []⟩ 8 (by kernel_rfl) (by kernel_rfl) (by kernel_rfl)
      (x := ([.agg [.nil, .nil]], [], [])) (by kernel_rfl) rfl (by kernel_rfl)) ?_
  intro W base args ds gs before hval0 hW hcnd hk hsz _
  have hval : ∀ (j : Nat) t v, Try.f4.params[j]? = some t → args[j]? = some v → Value.okWide Try.prog W .any base t v := hval0
  have hW' := hW
  obtain ⟨p, q, hA0, hV, rfl, hfz, hnd⟩ := hW
  have hA : DataW.TrodAll enc Try.prog W 0 (fun _ => true) true Try.f4.params.toList args.toList ds p := hA0
  rw [Try.params4] at hA hval hsz
  obtain ⟨v0, vs0, d0, ds0, p0, q0, hargs, rfl, rfl, h0, r0⟩ := trodAll_cons hA
  obtain ⟨rfl, rfl, rfl⟩ := trodAll_nil r0
  obtain rfl : args = #[v0] := by cases args; simp_all
  obtain ⟨rfl, rfl⟩ := trodVars_none hV
  have k0 := h0
  have lt0 : ∀ x ∈ p0, x.block < W.heap.size := by obtain ⟨m, hm⟩ := k0; exact DataW.trod_lt m _ _ _ hm
  have hb0 : Rows.uptoBulk d0 ≤ 1048576 := by
    have : Rows.uptoBulkAll ([d0] ++ []) ≤ 1048576 := by simpa [Rows.uptoSmall] using hk
    simp only [List.append_nil, Rows.uptoBulkAll] at this
    omega
  obtain ⟨al0, nl0, cl0, ac0, nc0, cc0, o0, rfl, g0⟩ := open_deed h0 (hval 0 26 v0 rfl rfl) (fun n hn => of_decide_eq_true (List.all_eq_true.1 hsz n (DataW.weights_mem_each (j := 0) (t := 26) rfl rfl n hn)))
  have z0 := small_deed h0 hb0 g0
  clear hA0 hval0 hval hfz hnd hcnd hA
  refine (encodes_ok W _ _ o0 g0 z0).mono fun e W' ⟨he, bel⟩ => ?_
  subst he
  exact ⟨_, rfl, _, _, _, [], _, [], hW', trodAll_mk1 (shut_bool Try.underlying4 _), (trodAll_cons_mk (Below.trod laidOut (by kernel_rfl) (of_decide_eq_true (by kernel_rfl)) k0 bel lt0) trodAll_mk0), rfl, bel.frame _, fun h => by cases h⟩

theorem DeedEncodesUpto_holds : Rows.DeedEncodesUptoSaid :=
  OpenClaim.holds_of_cond 4 Try.f4 rfl rfl rfl rfl rfl rfl rfl ⟨rfl, rfl, rfl, rfl, rfl⟩ rfl rfl rfl rfl rfl (by kernel_rfl) Try.func4 (by kernel_rfl)
    (of_decide_eq_true (by kernel_rfl)) (by unfold Func.isWrapper; rw [if_neg (of_decide_eq_false (by kernel_rfl))]; exact ⟨rfl, rfl⟩)
    (fun os started H enc _ F => deedEncodes_lifted os started H enc F)
#print axioms DeedEncodesUpto_holds

end Go.Proofs.Ytfdjdpbiccclfaa
