/- ZoneTight returns true for every input; nothing that was there is turned. -/
import Derived.Test.YtfpbjjdlchplnaaRTightP
import Derived.Test.YtfpbjjdlchplnaaRFrame
namespace Go.Proofs.YtfpbjjdlchplnaaR
open Go Go.RowKit Go.Wr
open Go.ChangeShapes Go.WideShapes Go.ChangeAt
set_option maxHeartbeats 4000000
set_option maxRecDepth 100000

theorem ArgC.sl {w : World} {v : Value} {l : List Cn} (h : ArgC w v l) : Sl3 w v l := h.1
theorem ArgC.len {w : World} {v : Value} {l : List Cn} (h : ArgC w v l) : l.length * 24 ≤ 140737488355328 := by have := h.2.1; omega
theorem ArgC.cap {w : World} {v : Value} {l : List Cn} (h : ArgC w v l) : Cap v l.length := h.2.2.2

theorem tight_void (w : World) (cs : Value) (l : List Cn) (hcs : ArgC w cs l) (i j : Int) (ns : Value) (zs : List Int) (hz : ArgI w ns zs) (he : (zwith znew (smallL l)).e = true) :
    Calls Try.prog 4 #[cs, .int .i64 i, .int .i64 j, ns] w fun e w' => e = .returned (.bool true) ∧ Below w.heap.size w w' := by
  have HC := Lib.hid hcs
  have HZ := Lib.hid hz
  have hneg : NegC (smallL l) := by
    rcases good_with (K := 1099511627776) (by omega) (by omega) (small_fine l) with ⟨_, h⟩ | ⟨h, _⟩
    · exact h
    · rw [he] at h; cases h
  have Hm := Lib.hid (met_some hneg (fullF zs))
  have HE := Lib.hid he
  have HW := Lib.hid (small_wrong l)
  have hln : (smallL l).length * 24 ≤ 140737488355328 := by
    have h1 := hcs.len
    have h2 : (smallL l).length ≤ l.length := List.length_filter_le _ _
    omega
  obtain ⟨L, HL⟩ : ∃ L, Hid (L = smallL l) := ⟨_, rfl⟩
  rw [← HL.out] at Hm HE HW hln
  clear hcs hz hneg he
  go_enter Try.func4, Try.ntmps4
  go_wp2_with fail
  refine (small_any _ _ l HC.out.sl HC.out.cap HC.out.len).mono ?_
  rintro e w1 ⟨v1, rfl, o1, b1⟩
  rw [← HL.out] at o1
  have sl1 := Sl3.own (l := L) o1 rfl (by omega)
  have cp1 := Cap.own o1
  obtain ⟨a1, c1, rfl, _⟩ := cp1
  have O1 := Lib.hid (Cap.own o1)
  have S1 := Lib.hid sl1
  clear o1 sl1
  go_wp2_with fail
  refine (new_any _).mono ?_
  rintro e w2 ⟨p2, rfl, z2, b2⟩
  have t2 := bThen b1 b2
  have S2 := Lib.hid (S1.out.below b2)
  go_wp2_with fail
  refine (lcons_any _ _ L S2.out hln).mono ?_
  rintro e w3 ⟨v3, rfl, o3, b3⟩
  have t3 := bThen t2 b3
  have S3 := Lib.hid (S2.out.below b3)
  go_wp2_with fail
  refine (with_ok _ p2 znew (z2.below b3 z2.lt) topT_rng _ L (Sl3.own o3 rfl (by omega)) HW.out).mono ?_
  rintro e w4 ⟨p4, rfl, z4, b4⟩
  have t4 := bThen t3 b4
  have S4 := Lib.hid (S3.out.below b4)
  clear b1 b2 b3 b4 t2 t3 z2 o3 S1 S2 S3
  go_wp2_with fail
  refine (empty_any _ p4 _ z4).mono ?_
  rintro e w5 ⟨rfl, rfl⟩
  rw [HE.out]
  clear z4
  go_wp2_with fail
  have hzs : SlI w ns zs := HZ.out.1
  have hzs4 : SlI w4 ns zs := SlI.below hzs t4
  refine (full_any _ _ zs hzs4).mono ?_
  rintro e w6 ⟨g, rfl, hg, hgl, b6⟩
  have t6 := bThen t4 b6
  have S6 := Lib.hid (S4.out.below b6)
  clear hzs hzs4
  go_wp2_with fail
  refine (met_any _ _ L S6.out O1.out hln g (fullF zs) hg (fun q _ => fullF_i64 HZ.out.2.2 q)).mono ?_
  rintro e w7 ⟨v7, rfl, o7, b7⟩
  have t7 := bThen t6 b7
  obtain ⟨a7, c7, rfl, _⟩ := Cap.own o7
  clear o7 hg
  have hlt : ((metL L (fullF zs)).length : Int) < (L.length : Int) := by have := Hm.out; omega
  go_wp2_with (go_at_call 13; refine (awake_any _).mono ?_; rintro e w8 ⟨rfl, b8⟩)
  go_ret
  exact ⟨rfl, bThen t7 b8⟩


theorem emod_nat (i : Int) : ∃ p : Nat, p < 60 ∧ i % 60 = (p : Int) := by
  have h1 := Int.emod_nonneg i (show (60 : Int) ≠ 0 by omega)
  have h2 := Int.emod_lt_of_pos i (show (0 : Int) < 60 by omega)
  exact ⟨(i % 60).toNat, by omega, by omega⟩

theorem tight_zone (w : World) (cs : Value) (l : List Cn) (hcs : ArgC w cs l) (i j : Int) (hi : I64 i) (hj : I64 j) (ns : Value) (he : (zwith znew (smallL l)).e = false) :
    Calls Try.prog 4 #[cs, .int .i64 i, .int .i64 j, ns] w fun e w' => e = .returned (.bool true) ∧ Below w.heap.size w w' := by
  have HC := Lib.hid hcs
  have ht : Tight (smallL l) (zwith znew (smallL l)).m := by
    rcases good_with (K := 1099511627776) (by omega) (by omega) (small_fine l) with ⟨h, _⟩ | ⟨_, h⟩
    · rw [he] at h; cases h
    · exact h
  have hr : Rng (zwith znew (smallL l)).m := zwith_rng topT_rng
  have hzz : zwith znew (smallL l) = ⟨false, (zwith znew (smallL l)).m⟩ := by rw [← he]
  have HI := Lib.hid (emod_nat i)
  have HJ := Lib.hid (emod_nat j)
  obtain ⟨p, hp, ep⟩ := emod_nat i
  obtain ⟨q, hq, eq⟩ := emod_nat j
  have hv : ∀ x ∈ smallL l, x.i.toNat < 60 ∧ x.j.toNat < 60 := fun x hx => (small_fine l x hx).1
  obtain ⟨m, Hmm⟩ : ∃ m, Hid (m = (zwith znew (smallL l)).m) := ⟨_, rfl⟩
  rw [← Hmm.out] at ht hr hzz
  have Hmet := Lib.hid (met_all (l := smallL l) (f := reachF m q 1125899906842624) (fun x hx => (small_mem hx).1) (fun x hx => reach_edge ht hv q (by omega) (by omega) hx))
  have HW := Lib.hid (small_wrong l)
  have Hfin : Hid ((m p q ≠ 2305843009213693952 ∧ reachF m q 1125899906842624 p - reachF m q 1125899906842624 q = m p q) ∨ (m p q = 2305843009213693952 ∧ 281474976710656 < reachF m q 1125899906842624 p - reachF m q 1125899906842624 q)) := by
    by_cases hb : m p q = 2305843009213693952
    · exact Or.inr ⟨hb, reach_far ht (small_fine l) (by omega) (by omega) hp hq hb⟩
    · exact Or.inl ⟨hb, reach_bound ht (small_fine l) (by omega) (by omega) hp hq hb⟩
  have hln : (smallL l).length * 24 ≤ 140737488355328 := by
    have h1 := hcs.len
    have h2 : (smallL l).length ≤ l.length := List.length_filter_le _ _
    omega
  obtain ⟨L, HL⟩ : ∃ L, Hid (L = smallL l) := ⟨_, rfl⟩
  rw [← HL.out] at Hmet HW hln hzz
  have HZZ := Lib.hid hzz
  have HR := Lib.hid hr
  have EP := Lib.hid ep
  have EQ := Lib.hid eq
  have h00 : reachF m q 1125899906842624 0 = 0 := by unfold reachF; omega
  have H00 := Lib.hid h00
  clear hcs he ht hv hzz hr ep eq h00 HI HJ Hmm
  go_enter Try.func4, Try.ntmps4
  go_wp2_with fail
  refine (small_any _ _ l HC.out.sl HC.out.cap HC.out.len).mono ?_
  rintro e w1 ⟨v1, rfl, o1, b1⟩
  rw [← HL.out] at o1
  have sl1 := Sl3.own (l := L) o1 rfl (by omega)
  have cp1 := Cap.own o1
  obtain ⟨a1, c1, rfl, _⟩ := cp1
  have O1 := Lib.hid (Cap.own o1)
  have S1 := Lib.hid sl1
  clear o1 sl1
  go_wp2_with fail
  refine (new_any _).mono ?_
  rintro e w2 ⟨p2, rfl, z2, b2⟩
  have t2 := bThen b1 b2
  have S2 := Lib.hid (S1.out.below b2)
  go_wp2_with fail
  refine (lcons_any _ _ L S2.out hln).mono ?_
  rintro e w3 ⟨v3, rfl, o3, b3⟩
  have t3 := bThen t2 b3
  have S3 := Lib.hid (S2.out.below b3)
  go_wp2_with fail
  refine (with_ok _ p2 znew (z2.below b3 z2.lt) topT_rng _ L (Sl3.own o3 rfl (by omega)) HW.out).mono ?_
  rintro e w4 ⟨p4, rfl, z4, b4⟩
  rw [HZZ.out] at z4
  have t4 := bThen t3 b4
  have S4 := Lib.hid (S3.out.below b4)
  clear b1 b2 b3 b4 t2 t3 z2 o3 S1 S2 S3
  go_wp2_with fail
  refine (empty_any _ p4 _ z4).mono ?_
  rintro e w5 ⟨rfl, rfl⟩
  have Z4 := Lib.hid z4
  clear z4
  go_wp2_with fail
  refine (place_any i 60 _ hi (by omega) (by omega)).mono ?_
  rintro e w5 ⟨rfl, rfl⟩
  rw [EP.out]
  go_wp2_with fail
  refine (place_any j 60 _ hj (by omega) (by omega)).mono ?_
  rintro e w5 ⟨rfl, rfl⟩
  rw [EQ.out]
  go_wp2_with fail
  refine (reach_any _ p4 m Z4.out HR.out p q 1125899906842624 (by omega) (by omega)).mono ?_
  rintro e w6 ⟨g, rfl, hg, hgl, b6⟩
  have t6 := bThen t4 b6
  have S6 := Lib.hid (S4.out.below b6)
  have Z6 := Lib.hid (ZAt.below Z4.out b6 Z4.out.lt)
  have G6 := Lib.hid hg
  clear t4 b6 S4 Z4 hg
  go_wp2_with fail
  refine (met_any _ _ L S6.out O1.out hln g _ G6.out (fun k hk => reachF_i64 HR.out q _ (by omega) hk)).mono ?_
  rintro e w7 ⟨v7, rfl, o7, b7⟩
  have t7 := bThen t6 b7
  have G7 := Lib.hid (Blk.below G6.out b7 G6.out.lt)
  have Z7 := Lib.hid (ZAt.below Z6.out b7 Z6.out.lt)
  rw [Hmet.out] at o7
  obtain ⟨a7, c7, rfl, _⟩ := Cap.own o7
  have r0 := (Blk.cell G7.out 0).trans (rcells_get _ (by omega))
  rw [H00.out] at r0
  have hle : ((L.length : Int) != (L.length : Int)) = false := by simp
  clear o7 t6 b7 S6 Z6 G6
  go_wp2_with fail
  refine (bound_any _ p4 ⟨false, m⟩ Z7.out p q).mono ?_
  rintro e w8 ⟨rfl, b8⟩
  have t8 := bThen t7 b8
  have G8 := Lib.hid (Blk.below G7.out b8 G7.out.lt)
  have rp := (Blk.cell G8.out p).trans (rcells_get _ hp)
  have rq := (Blk.cell G8.out q).trans (rcells_get _ hq)
  have bp := reachF_i64 HR.out q 1125899906842624 (by omega) hp
  have bq := reachF_i64 HR.out q 1125899906842624 (by omega) hq
  have gl := G8.out.lt
  unfold I64 at bp bq
  have hp' : (p : Int) < 60 := by omega
  have hq' : (q : Int) < 60 := by omega
  clear r0 b8 t7 G7 Z7
  rcases Hfin.out with ⟨hb, hd⟩ | ⟨hb, hd⟩
  · rw [bndZ_some hp hq hb]
    have HD := Lib.hid hd
    have hrm := HR.out p q hp hq
    have hbnd : -1152921504606846976 ≤ reachF m q 1125899906842624 p - reachF m q 1125899906842624 q ∧ reachF m q 1125899906842624 p - reachF m q 1125899906842624 q ≤ 1152921504606846976 := by omega
    obtain ⟨A, HA⟩ : ∃ A, Hid (A = reachF m q 1125899906842624 p) := ⟨_, rfl⟩
    obtain ⟨B, HB⟩ : ∃ B, Hid (B = reachF m q 1125899906842624 q) := ⟨_, rfl⟩
    rw [← HA.out] at rp bp HD hbnd
    rw [← HB.out] at rq bq HD hbnd
    obtain ⟨hb1, hb2⟩ := hbnd
    have heq : (A - B == m p q) = true := by rw [beq_iff_eq]; exact HD.out
    clear hb hd hrm
    go_wp2
    refine wp_tail 13 mix (by kernel_rfl) ?_
    simp only [List.take_succ_cons, List.take_zero, List.drop_succ_cons, List.drop_zero]
    repeat still_step
    refine wpStill_nil ?_
    go_wp2_with (go_at_call 13; refine (awake_any _).mono ?_; rintro e w9 ⟨rfl, b9⟩)
    go_ret
    exact ⟨rfl, bThen (bAl t8 _).drew b9⟩
  · rw [bndZ_none hp hq hb]
    have HD := Lib.hid hd
    obtain ⟨A, HA⟩ : ∃ A, Hid (A = reachF m q 1125899906842624 p) := ⟨_, rfl⟩
    obtain ⟨B, HB⟩ : ∃ B, Hid (B = reachF m q 1125899906842624 q) := ⟨_, rfl⟩
    have ba := reachA_rng HR.out q 1125899906842624 (by omega) hp 60 (Nat.le_refl _)
    have bb := reachA_rng HR.out q 1125899906842624 (by omega) hq 60 (Nat.le_refl _)
    have hbnd : -9223372036854775808 ≤ reachF m q 1125899906842624 p - reachF m q 1125899906842624 q ∧ reachF m q 1125899906842624 p - reachF m q 1125899906842624 q ≤ 9223372036854775807 := by unfold reachF; omega
    rw [← HA.out] at rp bp HD hbnd
    rw [← HB.out] at rq bq HD hbnd
    obtain ⟨hb1, hb2⟩ := hbnd
    have hgt := HD.out
    clear hb hd ba bb
    go_wp2
    refine wp_tail 11 mix (by kernel_rfl) ?_
    simp only [List.take_succ_cons, List.take_zero, List.drop_succ_cons, List.drop_zero]
    repeat still_step
    refine wpStill_nil ?_
    go_wp2_with (go_at_call 13; refine (awake_any _).mono ?_; rintro e w9 ⟨rfl, b9⟩)
    go_ret
    exact ⟨rfl, bThen (bAl t8 _).drew b9⟩

theorem tight_any (w : World) (cs : Value) (l : List Cn) (hcs : ArgC w cs l) (i : Int) (hi : I64 i) (j : Int) (hj : I64 j) (ns : Value) (zs : List Int) (hz : ArgI w ns zs) :
    Calls Try.prog 4 #[cs, .int .i64 i, .int .i64 j, ns] w fun e w' => e = .returned (.bool true) ∧ Below w.heap.size w w' := by
  cases he : (zwith znew (smallL l)).e with
  | true => exact tight_void w cs l hcs i j ns zs hz he
  | false => exact tight_zone w cs l hcs i j hi hj ns he

set_option maxRecDepth 100000 in
theorem zoneTight_lifted (os : Os) (started : os.Started) (H : Type) (enc : TypeId × Value → H) :
    ReturnsInHanded {} Try.checked os 4 .any (Rows.zoneTightSpec.pre6 enc Try.prog Try.f4 Rows.zoneTightRow.domain false) (Rows.zoneTightSpec.post enc Try.prog Try.f4 false true false false) := by
  refine returnsInHanded_of_change_sized (C := Try.checked) own started (by kernel_rfl) Try.func4
    (ChangeSpec.witness6 (enc := enc) (C := Try.checked) false ⟨#[], #[.slice none 0 0, .int .i64 0, .int .i64 0, .slice none 0 0], []⟩ 8 (by kernel_rfl) (by kernel_rfl) (by kernel_rfl) (by kernel_rfl)) ?_
  intro W base args ds gs before hval0 hW hcnd hsz _
  have hval : ∀ (j : Nat) t v, Try.f4.params[j]? = some t → args[j]? = some v → Value.okWide Try.prog W .any base t v := hval0
  have hW' := hW
  obtain ⟨p, q, hA0, hV, rfl, hfz, hnd⟩ := hW
  have hA : DataW.TrodAll enc Try.prog W 0 (fun _ => true) true Try.f4.params.toList args.toList ds p := hA0
  rw [Try.params4] at hA hval hsz
  obtain ⟨v0, vs0, d0, ds0, p0, q0, hargs, rfl, rfl, h0, r0⟩ := trodAll_cons hA
  obtain ⟨v1, vs1, d1, ds1, p1, q1, rfl, rfl, rfl, h1, r1⟩ := trodAll_cons r0
  obtain ⟨v2, vs2, d2, ds2, p2, q2, rfl, rfl, rfl, h2, r2⟩ := trodAll_cons r1
  obtain ⟨v3, vs3, d3, ds3, p3, q3, rfl, rfl, rfl, h3, r3⟩ := trodAll_cons r2
  obtain ⟨rfl, rfl, rfl⟩ := trodAll_nil r3
  obtain rfl : args = #[v0, v1, v2, v3] := by cases args; simp_all
  obtain ⟨rfl, rfl⟩ := trodVars_none hV
  have k0 := h0
  have lt0 : ∀ x ∈ p0, x.block < W.heap.size := by obtain ⟨m, hm⟩ := k0; exact DataW.trod_lt m _ _ _ hm
  obtain ⟨a0, len0, cap0, rfl⟩ := okWide_slice Try.underlying35 (hval 0 35 v0 rfl rfl)
  obtain ⟨l0, g0⟩ : ∃ l, ArgC W (.slice a0 len0 cap0) l := by
    obtain ⟨fuel, hf⟩ := h0
    refine open_rcons (x := (d0, p0)) (by simpa [Value.cells] using hf) (fun e s hd => ?_)
    have hs := sized_slice hsz (j := 0) (t := 35) (elems := e) (spare := s) rfl (by simp only at hd; rw [hd]; rfl) Try.underlying35
    rw [show Try.checked.prog.bytesOf 72 = 24 by kernel_rfl] at hs
    exact Nat.le_trans hs (by decide)
  have k1 := h1
  have lt1 : ∀ x ∈ p1, x.block < W.heap.size := by obtain ⟨m, hm⟩ := k1; exact DataW.trod_lt m _ _ _ hm
  obtain ⟨n1, rfl, rfl, rfl, w1⟩ := open_int Try.underlying3 (hval 1 3 v1 rfl rfl) h1
  have k2 := h2
  have lt2 : ∀ x ∈ p2, x.block < W.heap.size := by obtain ⟨m, hm⟩ := k2; exact DataW.trod_lt m _ _ _ hm
  obtain ⟨n2, rfl, rfl, rfl, w2⟩ := open_int Try.underlying3 (hval 2 3 v2 rfl rfl) h2
  have k3 := h3
  have lt3 : ∀ x ∈ p3, x.block < W.heap.size := by obtain ⟨m, hm⟩ := k3; exact DataW.trod_lt m _ _ _ hm
  obtain ⟨a3, len3, cap3, rfl⟩ := okWide_slice Try.underlying36 (hval 3 36 v3 rfl rfl)
  obtain ⟨l3, g3⟩ : ∃ l, ArgI W (.slice a3 len3 cap3) l := by
    obtain ⟨fuel, hf⟩ := h3
    refine open_ints (x := (d3, p3)) (by simpa [Value.cells] using hf) (fun e s hd => ?_)
    have hs := sized_slice hsz (j := 3) (t := 36) (elems := e) (spare := s) rfl (by simp only at hd; rw [hd]; rfl) Try.underlying36
    rw [show Try.checked.prog.bytesOf 3 = 8 by kernel_rfl] at hs
    exact Nat.le_trans hs (by decide)
  clear hA0 hval0 hval hfz hnd hcnd hA
  refine (tight_any W _ l0 g0 n1 (i64_of_wf w1) n2 (i64_of_wf w2) _ l3 g3).mono fun e W' ⟨he, bel⟩ => ?_
  subst he
  exact ⟨_, rfl, _, _, _, [], _, [], hW', trodAll_mk1 (shut_bool Try.underlying4 _), (trodAll_cons_mk (Below.trod laidOut (by kernel_rfl) (of_decide_eq_true (by kernel_rfl)) k0 bel lt0) (trodAll_cons_mk (Below.trod laidOut (by kernel_rfl) (of_decide_eq_true (by kernel_rfl)) k1 bel lt1) (trodAll_cons_mk (Below.trod laidOut (by kernel_rfl) (of_decide_eq_true (by kernel_rfl)) k2 bel lt2) (trodAll_cons_mk (Below.trod laidOut (by kernel_rfl) (of_decide_eq_true (by kernel_rfl)) k3 bel lt3) trodAll_mk0)))), rfl, bel.frame _, fun h => by cases h⟩

theorem ZoneTight_holds : Rows.ZoneTightSaid :=
  OpenClaim.holds_of_wide 4 Try.f4 rfl rfl rfl rfl rfl rfl rfl ⟨rfl, rfl, rfl, rfl, rfl⟩ rfl rfl rfl rfl rfl (by kernel_rfl) Try.func4 (by kernel_rfl)
    (of_decide_eq_true (by kernel_rfl)) (by unfold Func.isWrapper; rw [if_neg (of_decide_eq_false (by kernel_rfl))]; exact ⟨rfl, rfl⟩)
    (fun os started H enc _ => zoneTight_lifted os started H enc)
#print axioms ZoneTight_holds

end Go.Proofs.YtfpbjjdlchplnaaR
