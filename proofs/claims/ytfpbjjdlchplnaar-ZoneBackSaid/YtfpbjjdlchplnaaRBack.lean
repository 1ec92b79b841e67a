/- ZoneBack returns true for every input; nothing that was there is turned. -/
import Derived.Test.YtfpbjjdlchplnaaRBackP
import Derived.Test.YtfpbjjdlchplnaaRFrame
import Derived.Test.YtfpbjjdlchplnaaRAwake
namespace Go.Proofs.YtfpbjjdlchplnaaR
open Go Go.RowKit Go.Wr
open Go.ChangeShapes Go.WideShapes Go.ChangeAt
set_option maxHeartbeats 4000000
set_option maxRecDepth 100000

theorem ArgC.sl {w : World} {v : Value} {l : List Cn} (h : ArgC w v l) : Sl3 w v l := h.1
theorem ArgC.len {w : World} {v : Value} {l : List Cn} (h : ArgC w v l) : l.length * 24 ≤ 140737488355328 := by have := h.2.1; omega
theorem ArgC.cap {w : World} {v : Value} {l : List Cn} (h : ArgC w v l) : Cap v l.length := h.2.2.2

/-- What ZoneBack needs of a list of bounds, said plainly. -/
structure BackFacts (L : List Cn) (m a : Nat → Nat → Int) (ae : Bool) (b : Zn) : Prop where
  one : zwith znew L = ⟨false, m⟩
  two : zwith znew (consL m 60) = ⟨ae, a⟩
  three : closeZ (consL m 60) = b
  rng : Rng m
  wrong : wrongL L = 0
  wrong2 : wrongL (consL m 60) = 0
  s1 : sameZ ⟨ae, a⟩ ⟨false, m⟩ = true
  s2 : sameZ b ⟨false, m⟩ = true
  w1 : withinZ ⟨false, m⟩ ⟨ae, a⟩ = true
  w2 : withinZ ⟨ae, a⟩ ⟨false, m⟩ = true

theorem back_facts {L : List Cn} {m : Nat → Nat → Int} (hw : wrongL L = 0) (hf : Fine 1099511627776 L) (hm : zwith znew L = ⟨false, m⟩) : ∃ a ae b, BackFacts L m a ae b := by
  have hg := good_with (K := 1099511627776) (by omega) (by omega) hf
  rw [hm] at hg
  rcases hg with ⟨h, _⟩ | ⟨_, ht⟩
  · cases h
  have ht : Tight L m := ht
  have hr : Rng m := by have := zwith_rng (l := L) (z := znew) topT_rng; rw [hm] at this; exact this
  have hcf := cons_fine ht hf (by omega)
  have g2 := good_with (K := 59 * 1099511627776) (by omega) (by omega) hcf
  have g3 := good_close (K := 59 * 1099511627776) (by omega) (by omega) hcf
  obtain ⟨e2, f2⟩ := good_same ht g2
  obtain ⟨e3, f3⟩ := good_same ht g3
  refine ⟨_, _, _, ⟨hm, rfl, rfl, hr, hw, cons_wrong hr, ?_, ?_, ?_, ?_⟩⟩
  · exact sameZ_of e2 fun _ p q hp hq => f2 p q hp hq
  · exact sameZ_of e3 fun _ p q hp hq => f3 p q hp hq
  · exact within_of e2.symm fun _ p q hp hq => (f2 p q hp hq).symm
  · exact within_of e2 fun _ p q hp hq => f2 p q hp hq

theorem back_void (w : World) (cs : Value) (l : List Cn) (hcs : ArgC w cs l) (he : (zwith znew (smallL l)).e = true) :
    Calls Try.prog 6 #[cs] w fun e w' => e = .returned (.bool true) ∧ Below w.heap.size w w' := by
  have HC := Lib.hid hcs
  have HE := Lib.hid he
  have HW := Lib.hid (small_wrong l)
  have hln : (smallL l).length * 24 ≤ 140737488355328 := by
    have h1 := hcs.len
    have h2 : (smallL l).length ≤ l.length := List.length_filter_le _ _
    omega
  obtain ⟨L, HL⟩ : ∃ L, Hid (L = smallL l) := ⟨_, rfl⟩
  rw [← HL.out] at HE HW hln
  clear hcs he
  go_enter Try.func6, Try.ntmps6
  go_wp2_with fail
  refine (small_any _ _ l HC.out.sl HC.out.cap HC.out.len).mono ?_
  rintro e w1 ⟨v1, rfl, o1, b1⟩
  rw [← HL.out] at o1
  have sl1 := Sl3.own (l := L) o1 rfl (by omega)
  have cp1 := Cap.own o1
  obtain ⟨a1, c1, rfl, _⟩ := cp1
  have S1 := Lib.hid sl1
  clear o1 sl1
  go_wp2_with fail
  refine (new_any _).mono ?_
  rintro e w2 ⟨p2, rfl, z2, b2⟩
  have t2 := bThen b1 b2
  have S2 := Lib.hid (S1.out.below b2)
  go_wp2_with fail
  refine (lcons_any _ _ L S2.out hln).mono ?_
  rintro e w3 ⟨v3, rfl, o3, b3⟩
  have t3 := bThen t2 b3
  go_wp2_with fail
  refine (with_ok _ p2 znew (z2.below b3 z2.lt) topT_rng _ L (Sl3.own o3 rfl (by omega)) HW.out).mono ?_
  rintro e w4 ⟨p4, rfl, z4, b4⟩
  have t4 := bThen t3 b4
  clear b1 b2 b3 b4 t2 t3 z2 o3 S1 S2
  go_wp2_with fail
  refine (empty_any _ p4 _ z4).mono ?_
  rintro e w5 ⟨rfl, rfl⟩
  rw [HE.out]
  clear z4
  go_wp2_with (go_at_call 13; refine (awake_any _).mono ?_; rintro e w8 ⟨rfl, b8⟩)
  go_ret
  exact ⟨rfl, bThen t4 b8⟩

theorem back_zone (w : World) (cs : Value) (l : List Cn) (hcs : ArgC w cs l) (he : (zwith znew (smallL l)).e = false) :
    Calls Try.prog 6 #[cs] w fun e w' => e = .returned (.bool true) ∧ Below w.heap.size w w' := by
  have HC := Lib.hid hcs
  obtain ⟨m, Hm⟩ : ∃ m, Hid (zwith znew (smallL l) = ⟨false, m⟩) := ⟨(zwith znew (smallL l)).m, by show _ = _; rw [← he]⟩
  obtain ⟨a, ae, zb, hF⟩ := back_facts (small_wrong l) (small_fine l) Hm.out
  have hln : (smallL l).length * 24 ≤ 140737488355328 := by
    have h1 := hcs.len
    have h2 : (smallL l).length ≤ l.length := List.length_filter_le _ _
    omega
  obtain ⟨L, HL⟩ : ∃ L, Hid (L = smallL l) := ⟨_, rfl⟩
  rw [← HL.out] at hF hln
  have F := Lib.hid hF
  clear hcs he Hm hF
  have hcl := consL_len m 60
  go_enter Try.func6, Try.ntmps6
  go_wp2_with fail
  refine (small_any _ _ l HC.out.sl HC.out.cap HC.out.len).mono ?_
  rintro e w1 ⟨v1, rfl, o1, b1⟩
  rw [← HL.out] at o1
  have sl1 := Sl3.own (l := L) o1 rfl (by omega)
  have cp1 := Cap.own o1
  obtain ⟨a1, c1, rfl, _⟩ := cp1
  have S1 := Lib.hid sl1
  clear o1 sl1
  go_wp2_with fail
  refine (new_any _).mono ?_
  rintro e w2 ⟨p2, rfl, z2, b2⟩
  have t2 := bThen b1 b2
  have S2 := Lib.hid (S1.out.below b2)
  go_wp2_with fail
  refine (lcons_any _ _ L S2.out hln).mono ?_
  rintro e w3 ⟨v3, rfl, o3, b3⟩
  have t3 := bThen t2 b3
  go_wp2_with fail
  refine (with_ok _ p2 znew (z2.below b3 z2.lt) topT_rng _ L (Sl3.own o3 rfl (by omega)) F.out.wrong).mono ?_
  rintro e w4 ⟨p4, rfl, z4, b4⟩
  rw [F.out.one] at z4
  have t4 := bThen t3 b4
  clear b1 b2 b3 b4 t2 t3 z2 o3 S1 S2
  go_wp2_with fail
  refine (empty_any _ p4 _ z4).mono ?_
  rintro e w5 ⟨rfl, rfl⟩
  have Z4 := Lib.hid z4
  clear z4
  go_wp2_with fail
  refine (new_any _).mono ?_
  rintro e w5 ⟨p5, rfl, z5, b5⟩
  have t5 := bThen t4 b5
  have Z5 := Lib.hid (ZAt.below Z4.out b5 Z4.out.lt)
  go_wp2_with fail
  refine (cons_any _ p4 _ Z5.out).mono ?_
  rintro e w6 ⟨v6, rfl, n6, b6⟩
  have t6 := bThen t5 b6
  have Z6 := Lib.hid (ZAt.below Z5.out b6 Z5.out.lt)
  go_wp2_with fail
  refine (with_ok _ p5 znew (z5.below b6 z5.lt) topT_rng _ (consL m 60) (n6.sl3 (by omega)) F.out.wrong2).mono ?_
  rintro e w7 ⟨p7, rfl, z7, b7⟩
  rw [F.out.two] at z7
  have t7 := bThen t6 b7
  have Z7 := Lib.hid (ZAt.below Z6.out b7 Z6.out.lt)
  clear t4 t5 t6 b5 b6 b7 z5 n6 Z4 Z5 Z6
  go_wp2_with fail
  refine (cons_any _ p4 _ Z7.out).mono ?_
  rintro e w8 ⟨v8, rfl, n8, b8⟩
  have t8 := bThen t7 b8
  have Z8 := Lib.hid (ZAt.below Z7.out b8 Z7.out.lt)
  have A8 := Lib.hid (ZAt.below z7 b8 z7.lt)
  go_wp2_with fail
  refine (close_ok _ _ (consL m 60) (n8.sl3 (by omega)) F.out.wrong2).mono ?_
  rintro e w9 ⟨p9, rfl, z9, b9⟩
  rw [F.out.three] at z9
  have t9 := bThen t8 b9
  have Z9 := Lib.hid (ZAt.below Z8.out b9 Z8.out.lt)
  have A9 := Lib.hid (ZAt.below A8.out b9 A8.out.lt)
  have B9 := Lib.hid z9
  clear t7 t8 b8 b9 z7 z9 n8 Z7 Z8 A8
  go_wp2_with fail
  refine (sameZ_any _ p7 p4 _ _ A9.out Z9.out).mono ?_
  rintro e w10 ⟨rfl, b10⟩
  rw [F.out.s1]
  have t10 := bThen t9 b10
  have Z10 := Lib.hid (ZAt.below Z9.out b10 Z9.out.lt)
  have A10 := Lib.hid (ZAt.below A9.out b10 A9.out.lt)
  have B10 := Lib.hid (ZAt.below B9.out b10 B9.out.lt)
  clear t9 b10 Z9 A9 B9
  go_wp2_with fail
  refine (sameZ_any _ p9 p4 _ _ B10.out Z10.out).mono ?_
  rintro e w11 ⟨rfl, b11⟩
  rw [F.out.s2]
  have t11 := bThen t10 b11
  have Z11 := Lib.hid (ZAt.below Z10.out b11 Z10.out.lt)
  have A11 := Lib.hid (ZAt.below A10.out b11 A10.out.lt)
  clear t10 b11 Z10 A10 B10
  go_wp2_with fail
  refine (within_any _ p4 p7 _ _ Z11.out A11.out).mono ?_
  rintro e w12 ⟨rfl, b12⟩
  rw [F.out.w1]
  have t12 := bThen t11 b12
  have Z12 := Lib.hid (ZAt.below Z11.out b12 Z11.out.lt)
  have A12 := Lib.hid (ZAt.below A11.out b12 A11.out.lt)
  clear t11 b12 Z11 A11
  go_wp2_with fail
  refine (within_any _ p7 p4 _ _ A12.out Z12.out).mono ?_
  rintro e w13 ⟨rfl, b13⟩
  rw [F.out.w2]
  have t13 := bThen t12 b13
  go_wp2_with (go_at_call 13; refine (awake_any _).mono ?_; rintro e w14 ⟨rfl, b14⟩)
  go_ret
  exact ⟨rfl, bThen t13 b14⟩

theorem back_any (w : World) (cs : Value) (l : List Cn) (hcs : ArgC w cs l) :
    Calls Try.prog 6 #[cs] w fun e w' => e = .returned (.bool true) ∧ Below w.heap.size w w' := by
  cases he : (zwith znew (smallL l)).e with
  | true => exact back_void w cs l hcs he
  | false => exact back_zone w cs l hcs he

set_option maxRecDepth 100000 in
theorem zoneBack_lifted (os : Os) (started : os.Started) (H : Type) (enc : TypeId × Value → H) :
    ReturnsInHanded {} Try.checked os 6 .any (Rows.zoneBackSpec.pre6 enc Try.prog Try.f6 Rows.zoneBackRow.domain false) (Rows.zoneBackSpec.post enc Try.prog Try.f6 false true false false) := by
  refine returnsInHanded_of_change_sized (C := Try.checked) own started (by kernel_rfl) Try.func6
    (ChangeSpec.witness6 (enc := enc) (C := Try.checked) false ⟨#[], #[.slice none 0 0], []⟩ 8 (by kernel_rfl) (by kernel_rfl) (by kernel_rfl) (by kernel_rfl)) ?_
  intro W base args ds gs before hval0 hW hcnd hsz _
  have hval : ∀ (j : Nat) t v, Try.f6.params[j]? = some t → args[j]? = some v → Value.okWide Try.prog W .any base t v := hval0
  have hW' := hW
  obtain ⟨p, q, hA0, hV, rfl, hfz, hnd⟩ := hW
  have hA : DataW.TrodAll enc Try.prog W 0 (fun _ => true) true Try.f6.params.toList args.toList ds p := hA0
  rw [Try.params6] at hA hval hsz
  obtain ⟨v0, vs0, d0, ds0, p0, q0, hargs, rfl, rfl, h0, r0⟩ := trodAll_cons hA
  obtain ⟨rfl, rfl, rfl⟩ := trodAll_nil r0
  obtain rfl : args = #[v0] := by cases args; simp_all
  obtain ⟨rfl, rfl⟩ := trodVars_none hV
  have k0 := h0
  have lt0 : ∀ x ∈ p0, x.block < W.heap.size := by obtain ⟨m, hm⟩ := k0; exact DataW.trod_lt m _ _ _ hm
  obtain ⟨a0, len0, cap0, rfl⟩ := okWide_slice Try.underlying35 (hval 0 35 v0 rfl rfl)
  obtain ⟨l0, g0⟩ : ∃ l, ArgC W (.slice a0 len0 cap0) l := by
    obtain ⟨fuel, hf⟩ := h0
    refine open_rcons (x := (d0, p0)) (by simpa [Value.cells] using hf) (fun e s hd => ?_)
    have hs := sized_slice hsz (j := 0) (t := 35) (elems := e) (spare := s) rfl (by simp only at hd; rw [hd]; rfl) Try.underlying35
    rw [show Try.checked.prog.bytesOf 72 = 24 by kernel_rfl] at hs
    exact Nat.le_trans hs (by decide)
  clear hA0 hval0 hval hfz hnd hcnd hA
  refine (back_any W _ l0 g0).mono fun e W' ⟨he, bel⟩ => ?_
  subst he
  exact ⟨_, rfl, _, _, _, [], _, [], hW', trodAll_mk1 (shut_bool Try.underlying4 _), (trodAll_cons_mk (Below.trod laidOut (by kernel_rfl) (of_decide_eq_true (by kernel_rfl)) k0 bel lt0) trodAll_mk0), rfl, bel.frame _, fun h => by cases h⟩

theorem ZoneBack_holds : Rows.ZoneBackSaid :=
  OpenClaim.holds_of_wide 6 Try.f6 rfl rfl rfl rfl rfl rfl rfl ⟨rfl, rfl, rfl, rfl, rfl⟩ rfl rfl rfl rfl rfl (by kernel_rfl) Try.func6 (by kernel_rfl)
    (of_decide_eq_true (by kernel_rfl)) (by unfold Func.isWrapper; rw [if_neg (of_decide_eq_false (by kernel_rfl))]; exact ⟨rfl, rfl⟩)
    (fun os started H enc _ => zoneBack_lifted os started H enc)
#print axioms ZoneBack_holds

end Go.Proofs.YtfpbjjdlchplnaaR
