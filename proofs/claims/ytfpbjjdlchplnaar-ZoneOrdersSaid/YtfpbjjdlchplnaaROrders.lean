/- ZoneOrders returns true for every input; nothing that was there is turned. -/
import Derived.Test.YtfpbjjdlchplnaaROrderP
import Derived.Test.YtfpbjjdlchplnaaRRClose
import Derived.Test.YtfpbjjdlchplnaaRFrame
import Derived.Test.YtfpbjjdlchplnaaRAwake
import Derived.Deep.RegionWith
namespace Go.Proofs.YtfpbjjdlchplnaaR
open Go Go.RowKit Go.Wr
open Go.ChangeShapes Go.WideShapes Go.ChangeAt
set_option maxHeartbeats 4000000
set_option maxRecDepth 100000

theorem ArgC.sl {w : World} {v : Value} {l : List Cn} (h : ArgC w v l) : Sl3 w v l := h.1
theorem ArgC.len {w : World} {v : Value} {l : List Cn} (h : ArgC w v l) : l.length * 24 ≤ 140737488355328 := by have := h.2.1; omega
theorem ArgC.cap {w : World} {v : Value} {l : List Cn} (h : ArgC w v l) : Cap v l.length := h.2.2.2

theorem place_big (v n : Int) (w : World) (hv : I64 v) (h0 : 0 < n) (h1 : n ≤ 1000000000000000) :
    Calls Try.prog 23 #[.int .i64 v, .int .i64 n] w fun e w' => e = .returned (.int .i64 (v % n)) ∧ w = w' := by
  obtain ⟨a, b⟩ := hv
  have hn : (n == 0) = false := by rw [beq_eq_false_iff_ne]; omega
  have he := Lib.hid (emod_of_tmod v n h0)
  obtain ⟨t1, t2⟩ := tmod_bounds v n h0
  have t3 : -1000000000000000 ≤ v.tmod n := by omega
  have t4 : v.tmod n ≤ 1000000000000000 := by omega
  by_cases hneg : v.tmod n < 0
  · go_enter Try.func23, Try.ntmps23
    go_wp2
    go_ret
    exact ⟨ret_int (by rw [he.out, if_pos hneg]), rfl⟩
  · go_enter Try.func23, Try.ntmps23
    go_wp2
    go_ret
    exact ⟨ret_int (by rw [he.out, if_neg (by omega)]), rfl⟩

theorem emod_of (i : Int) (n : Nat) (h : 0 < n) : ∃ p : Nat, p < n ∧ i % (n : Int) = (p : Int) := by
  have h1 := Int.emod_nonneg i (show (n : Int) ≠ 0 by omega)
  have h2 := Int.emod_lt_of_pos i (show (0 : Int) < n by omega)
  exact ⟨(i % (n : Int)).toNat, by omega, by omega⟩

theorem Sl3.nil {w : World} {a : Option Addr} {n c : Nat} (h : n = 0) : Sl3 w (.slice a n c) [] := by
  subst h
  exact ⟨a, c, rfl, by simp, fun k x h => by simp at h⟩

/-- The walk from the place of the cut on, its slice given. -/
theorem orders_any (w : World) (cs : Value) (l : List Cn) (hcs : ArgC w cs l) (cut : Int) (hcut : I64 cut) :
    Calls Try.prog 5 #[cs, .int .i64 cut] w fun e w' => e = .returned (.bool true) ∧ Below w.heap.size w w' := by
  have HC := Lib.hid hcs
  have hln : (smallL l).length * 24 ≤ 140737488355328 := by
    have h1 := hcs.len
    have h2 : (smallL l).length ≤ l.length := List.length_filter_le _ _
    omega
  obtain ⟨k, hk, ek⟩ := emod_of cut ((smallL l).length + 1) (by omega)
  obtain ⟨z1, z2, z3, z0, z4, hF⟩ := order_facts k (small_wrong l) (small_fine l)
  obtain ⟨kk, hkk, ekk⟩ := emod_of cut 60 (by omega)
  obtain ⟨L, HL⟩ : ∃ L, Hid (L = smallL l) := ⟨_, rfl⟩
  rw [← HL.out] at hF hln hk ek
  have F := Lib.hid hF
  have EK := Lib.hid ek
  have EKK := Lib.hid ekk
  clear hcs hF ek ekk
  go_enter Try.func5, Try.ntmps5
  go_wp2_with fail
  refine (small_any _ _ l HC.out.sl HC.out.cap HC.out.len).mono ?_
  rintro e w1 ⟨v1, rfl, o1, b1⟩
  rw [← HL.out] at o1
  have sl1 := Sl3.own (l := L) o1 rfl (by omega)
  have cp1 := Cap.own o1
  have sh1 : v1 = .slice none 0 0 ∧ L.length = 0 ∨ ∃ g cap, v1 = .slice (some ⟨g, 0, none⟩) L.length cap := by
    rcases o1.2 with ⟨e, h0⟩ | ⟨g, cap, cur, e, _⟩
    · exact Or.inl ⟨e, h0⟩
    · exact Or.inr ⟨g, cap, e⟩
  obtain ⟨a1, c1, rfl, hc1, hc2⟩ := cp1
  have S1 := Lib.hid sl1
  have SH := Lib.hid sh1
  clear o1 sl1 sh1
  go_wp2_with fail
  refine (new_any _).mono ?_
  rintro e w2 ⟨p2, rfl, z2', b2⟩
  have t2 := bThen b1 b2
  have S2 := Lib.hid (S1.out.below b2)
  go_wp2_with fail
  refine (lcons_any _ _ L S2.out hln).mono ?_
  rintro e w3 ⟨v3, rfl, o3, b3⟩
  have t3 := bThen t2 b3
  have S3 := Lib.hid (S2.out.below b3)
  go_wp2_with fail
  refine (with_ok _ p2 znew (z2'.below b3 z2'.lt) topT_rng _ L (Sl3.own o3 rfl (by omega)) F.out.wrong).mono ?_
  rintro e w4 ⟨p4, rfl, z4', b4⟩
  rw [F.out.one] at z4'
  have t4 := bThen t3 b4
  have S4 := Lib.hid (S3.out.below b4)
  have A4 := Lib.hid z4'
  clear b1 b2 b3 b4 t2 t3 z2' z4' o3 S1 S2 S3
  go_wp2_with fail
  refine (new_any _).mono ?_
  rintro e w5 ⟨p5, rfl, z5', b5⟩
  have t5 := bThen t4 b5
  have S5 := Lib.hid (S4.out.below b5)
  have A5 := Lib.hid (ZAt.below A4.out b5 A4.out.lt)
  go_wp2_with fail
  refine (turned_any _ _ L S5.out hln).mono ?_
  rintro e w6 ⟨v6, rfl, o6, b6⟩
  have t6 := bThen t5 b6
  have S6 := Lib.hid (S5.out.below b6)
  have A6 := Lib.hid (ZAt.below A5.out b6 A5.out.lt)
  have hlr : L.reverse.length = L.length := by simp
  have z6' := z5'.below b6 z5'.lt
  clear t4 t5 b5 b6 z5' S4 S5 A4 A5
  go_wp2_with fail
  refine (lcons_any _ _ L.reverse (Sl3.own o6 rfl (by omega)) (by omega)).mono ?_
  rintro e w7 ⟨v7, rfl, o7, b7⟩
  have t7 := bThen t6 b7
  have S7 := Lib.hid (S6.out.below b7)
  have A7 := Lib.hid (ZAt.below A6.out b7 A6.out.lt)
  go_wp2_with fail
  refine (with_ok _ p5 znew (z6'.below b7 z6'.lt) topT_rng _ L.reverse (Sl3.own o7 rfl (by omega)) F.out.wrong2).mono ?_
  rintro e w8 ⟨p8, rfl, z8', b8⟩
  rw [F.out.two] at z8'
  have t8 := bThen t7 b8
  have S8 := Lib.hid (S7.out.below b8)
  have A8 := Lib.hid (ZAt.below A7.out b8 A7.out.lt)
  have B8 := Lib.hid z8'
  clear t6 t7 b7 b8 z6' z8' o6 o7 S6 S7 A6 A7
  go_wp2_with fail
  refine (lcons_any _ _ L S8.out hln).mono ?_
  rintro e w9 ⟨v9, rfl, o9, b9⟩
  have t9 := bThen t8 b9
  have S9 := Lib.hid (S8.out.below b9)
  have A9 := Lib.hid (ZAt.below A8.out b9 A8.out.lt)
  have B9 := Lib.hid (ZAt.below B8.out b9 B8.out.lt)
  go_wp2_with fail
  refine (close_ok _ _ L (Sl3.own o9 rfl (by omega)) F.out.wrong).mono ?_
  rintro e w10 ⟨p10, rfl, z10', b10⟩
  rw [F.out.three] at z10'
  have t10 := bThen t9 b10
  have S10 := Lib.hid (S9.out.below b10)
  have A10 := Lib.hid (ZAt.below A9.out b10 A9.out.lt)
  have B10 := Lib.hid (ZAt.below B9.out b10 B9.out.lt)
  have C10 := Lib.hid z10'
  clear t8 t9 b9 b10 z10' o9 S8 S9 A8 A9 B8 B9
  go_wp2_with fail
  refine (place_big cut _ _ hcut (by omega) (by omega)).mono ?_
  rintro e w11 ⟨rfl, rfl⟩
  have ek' : cut % ((L.length : Int) + 1) = (k : Int) := by have := EK.out; simpa using this
  rw [ek']
  clear ek'
  go_upto_region 6 with (fail)
  have hkl : k ≤ L.length := by omega
  have T10 := Lib.hid t10
  have Hcut := Lib.hid hcut
  clear t10 HC hcut
  go_cut [13, 14] from 48 to 56 (fun s13 s14 wx => ∃ pc, s13 = .pointer (some ⟨pc, 0, none⟩) ∧ s14 = .int .i64 0 ∧ ZAt wx pc z0 ∧ Hid (ZAt wx p4 z1) ∧ Hid (ZAt wx p8 z2) ∧ Hid (ZAt wx p10 z3) ∧ Hid (Sl3 wx (.slice a1 L.length c1) L) ∧ Hid (Below w.heap.size w wx))
  case first =>
    have hld : (L.drop k).length * 24 ≤ 140737488355328 := by simp; omega
    have fin : ∀ (wa wb wc : World) (ba : Below w10.drew.heap.size w10.drew wa) (bb : Below wa.heap.size wa wb) (bc : Below wb.heap.size wb wc), Hid (ZAt wc p4 z1) ∧ Hid (ZAt wc p8 z2) ∧ Hid (ZAt wc p10 z3) ∧ Hid (Sl3 wc (.slice a1 L.length c1) L) ∧ Hid (Below w.heap.size w wc) := fun wa wb wc ba bb bc => by
      have bx : Below w10.heap.size w10 wc := (((Below.refl w10.heap.size w10).drew.trans ba).trans (bb.mono ba.size)).trans (bc.mono (Nat.le_trans ba.size bb.size))
      exact ⟨ZAt.below A10.out bx A10.out.lt, ZAt.below B10.out bx B10.out.lt, ZAt.below C10.out bx C10.out.lt, S10.out.below bx, bThen T10.out bx⟩
    have Fin := Lib.hid fin
    clear fin
    rcases SH.out with ⟨hv, h0⟩ | ⟨g, cap, hv⟩
    · simp only [Value.slice.injEq] at hv
      obtain ⟨ha, hl0, hc0⟩ := hv
      subst ha
      have hk1 : (k : Int) ≤ (L.length : Int) := by omega
      have hk2 : (k : Int) ≤ (c1 : Int) := by omega
      have hk3 : k ≤ c1 := by omega
      have H0 := Lib.hid h0
      have hz0 : zwith znew [] = z0 := by
        have := F.out.zero
        rwa [List.drop_eq_nil_of_le (by omega)] at this
      clear h0 hl0 hc0
      go_region_with (first
        | (go_at_call 14; refine (new_any _).mono ?_; rintro e wa ⟨pa, rfl, za, ba⟩)
        | (go_at_call 20; refine (lcons_any _ _ [] (Sl3.nil (by have := H0.out; omega)) (by simp)).mono ?_; rintro e wb ⟨vb, rfl, ob, bb⟩)
        | (go_at_call 17; refine (with_ok _ pa znew (za.below bb za.lt) topT_rng _ [] (Sl3.own ob rfl (by simp)) rfl).mono ?_; rintro e wc ⟨pc, rfl, zc, bc⟩; rw [hz0] at zc))
      all_goals (go_wp2_with fail; go_meet; exact ⟨pc, rfl, rfl, zc, Fin.out wa wb wc ba bb bc⟩)
    · simp only [Value.slice.injEq, true_and] at hv
      obtain ⟨rfl, rfl⟩ := hv
      have hk1 : (k : Int) ≤ (L.length : Int) := by omega
      have hk2 : (k : Int) ≤ (c1 : Int) := by omega
      have hk3 : k ≤ c1 := by omega
      by_cases hck : c1 = k
      · have hLk : L.length - k = 0 := by omega
        subst hck
        have H0 := Lib.hid hLk
        have hz0 : zwith znew [] = z0 := by
          have := F.out.zero
          rwa [List.drop_eq_nil_of_le (by omega)] at this
        clear hLk
        go_region_with (first
          | (go_at_call 14; refine (new_any _).mono ?_; rintro e wa ⟨pa, rfl, za, ba⟩)
          | (go_at_call 20; refine (lcons_any _ _ [] (Sl3.nil (by have := H0.out; omega)) (by simp)).mono ?_; rintro e wb ⟨vb, rfl, ob, bb⟩)
          | (go_at_call 17; refine (with_ok _ pa znew (za.below bb za.lt) topT_rng _ [] (Sl3.own ob rfl (by simp)) rfl).mono ?_; rintro e wc ⟨pc, rfl, zc, bc⟩; rw [hz0] at zc))
        all_goals (go_wp2_with fail; go_meet; exact ⟨pc, rfl, rfl, zc, Fin.out wa wb wc ba bb bc⟩)
      · have D10 := Lib.hid (Sl3.drop S10.out hkl (c1 - k))
        go_region_with (first
          | (go_at_call 14; refine (new_any _).mono ?_; rintro e wa ⟨pa, rfl, za, ba⟩; have Sa := Lib.hid ((show Sl3 w10.drew _ _ from D10.out).below ba))
          | (go_at_call 20; refine (lcons_any _ _ (L.drop k) (by simpa using Sa.out) hld).mono ?_; rintro e wb ⟨vb, rfl, ob, bb⟩)
          | (go_at_call 17; refine (with_ok _ pa znew (za.below bb za.lt) topT_rng _ (L.drop k) (Sl3.own ob rfl (by omega)) F.out.wrong3).mono ?_; rintro e wc ⟨pc, rfl, zc, bc⟩; rw [F.out.zero] at zc))
        all_goals (go_wp2_with fail; go_meet; exact ⟨pc, rfl, rfl, zc, Fin.out wa wb wc ba bb bc⟩)
  case rest =>
  obtain ⟨pc, rfl, rfl, zc, A11, B11, C11, S11, T11⟩ := hcut
  clear A10 B10 C10 S10 T10
  have D11 := Lib.hid zc
  clear zc
  have TK := Lib.hid (Sl3.take S11.out hkl c1)
  have hk1 : (k : Int) ≤ (L.length : Int) := by omega
  have hk2 : (k : Int) ≤ (c1 : Int) := by omega
  have hk3 : k ≤ c1 := by omega
  have htl : (L.take k).length * 24 ≤ 140737488355328 := by simp; omega
  go_wp2_with fail
  refine (lcons_any _ _ (L.take k) (by simpa using TK.out) htl).mono ?_
  rintro e w12 ⟨v12, rfl, o12, b12⟩
  have t12 := bThen T11.out b12
  have A12 := Lib.hid (ZAt.below A11.out b12 A11.out.lt)
  have B12 := Lib.hid (ZAt.below B11.out b12 B11.out.lt)
  have C12 := Lib.hid (ZAt.below C11.out b12 C11.out.lt)
  have D12 := ZAt.below D11.out b12 D11.out.lt
  have S12 := Lib.hid (S11.out.below b12)
  go_wp2_with fail
  refine (with_ok _ pc z0 D12 F.out.rng0 _ (L.take k) (Sl3.own o12 rfl (by omega)) F.out.wrong4).mono ?_
  rintro e w13 ⟨p13, rfl, z13', b13⟩
  rw [F.out.four] at z13'
  have t13 := bThen t12 b13
  have A13 := Lib.hid (ZAt.below A12.out b13 A12.out.lt)
  have B13 := Lib.hid (ZAt.below B12.out b13 B12.out.lt)
  have C13 := Lib.hid (ZAt.below C12.out b13 C12.out.lt)
  have S13 := Lib.hid (S12.out.below b13)
  have D13 := Lib.hid z13'
  clear A11 B11 C11 D11 S11 T11 TK A12 B12 C12 D12 S12 t12 b12 b13 o12 z13'
  go_wp2_with fail
  refine (sameZ_any _ p4 p8 _ _ A13.out B13.out).mono ?_
  rintro e w14 ⟨rfl, b14⟩
  rw [F.out.s2]
  have t14 := bThen t13 b14
  have A14 := Lib.hid (ZAt.below A13.out b14 A13.out.lt)
  have C14 := Lib.hid (ZAt.below C13.out b14 C13.out.lt)
  have D14 := Lib.hid (ZAt.below D13.out b14 D13.out.lt)
  have S14 := Lib.hid (S13.out.below b14)
  clear A13 B13 C13 D13 S13 t13 b14
  go_wp2_with fail
  refine (sameZ_any _ p4 p10 _ _ A14.out C14.out).mono ?_
  rintro e w15 ⟨rfl, b15⟩
  rw [F.out.s3]
  have t15 := bThen t14 b15
  have A15 := Lib.hid (ZAt.below A14.out b15 A14.out.lt)
  have C15 := Lib.hid (ZAt.below C14.out b15 C14.out.lt)
  have D15 := Lib.hid (ZAt.below D14.out b15 D14.out.lt)
  have S15 := Lib.hid (S14.out.below b15)
  clear A14 C14 D14 S14 t14 b15
  go_wp2_with fail
  refine (sameZ_any _ p4 p13 _ _ A15.out D15.out).mono ?_
  rintro e w16 ⟨rfl, b16⟩
  rw [F.out.s4]
  have t16 := bThen t15 b16
  have A16 := Lib.hid (ZAt.below A15.out b16 A15.out.lt)
  have C16 := Lib.hid (ZAt.below C15.out b16 C15.out.lt)
  have S16 := Lib.hid (S15.out.below b16)
  clear A15 C15 D15 S15 t15 b16
  obtain ⟨eb, HEB⟩ : ∃ eb, Hid (z1.e = eb) := ⟨_, rfl⟩
  have HE3 := Lib.hid (F.out.e3.trans HEB.out)
  go_wp2_with fail
  refine (empty_any _ p4 _ A16.out).mono ?_
  rintro e w17 ⟨rfl, rfl⟩
  rw [HEB.out]
  go_wp2_with fail
  refine (empty_any _ p10 _ C16.out).mono ?_
  rintro e w17 ⟨rfl, rfl⟩
  rw [HE3.out]
  go_wp2_with fail
  refine (cons_any _ p10 _ C16.out).mono ?_
  rintro e w17 ⟨v17, rfl, n17, b17⟩
  have t17 := bThen t16 b17
  have A17 := Lib.hid (ZAt.below A16.out b17 A16.out.lt)
  have S17 := Lib.hid (S16.out.below b17)
  clear A16 C16 S16 t16 b17
  have hcl := consL_len z3.m 60
  have N17 := Lib.hid (n17.sl3 (by omega))
  clear n17
  go_wp2_with fail
  refine (rclose_ok _ _ L S17.out F.out.wrong).mono ?_
  rintro e w18 ⟨rfl, b18⟩
  rw [F.out.three]
  have t18 := bThen t17 b18
  have A18 := Lib.hid (ZAt.below A17.out b18 A17.out.lt)
  have N18 := Lib.hid (N17.out.below b18)
  clear A17 N17 S17 t17 b18
  go_wp2_with fail
  refine (rcons_any _ z3.e z3.m F.out.rng3).mono ?_
  rintro e w19 ⟨v19, rfl, o19, b19⟩
  have t19 := bThen t18 b19
  have A19 := Lib.hid (ZAt.below A18.out b19 A18.out.lt)
  have N19 := Lib.hid (N18.out.below b19)
  have hrl : (rconsL z3.e z3.m).length ≤ 3600 := by
    unfold rconsL; split
    · simp
    · omega
  clear A18 N18 t18 b19
  go_wp2_with fail
  refine (same_any _ _ _ _ _ N19.out (Sl3.own o19 rfl (by omega))).mono ?_
  rintro e w20 ⟨rfl, b20⟩
  rw [F.out.c3]
  have t20 := bThen t19 b20
  have A20 := Lib.hid (ZAt.below A19.out b20 A19.out.lt)
  clear A19 N19 t19 b20 o19 hrl hcl
  go_wp2_with fail
  refine (empty_any _ p4 _ A20.out).mono ?_
  rintro e w21 ⟨rfl, rfl⟩
  rw [HEB.out]
  cases eb with
  | true =>
    have hv1 := F.out.v1 HEB.out
    go_wp2_with fail
    refine (cons_any _ p4 _ A20.out).mono ?_
    rintro e w21 ⟨v21, rfl, n21, b21⟩
    have t21 := bThen t20 b21
    rw [hv1] at n21
    have e21 : ∃ a c, v21 = .slice a 0 c := by
      rcases n21 with ⟨h, _⟩ | ⟨g, C, h, _⟩
      · exact ⟨_, _, h⟩
      · exact ⟨_, _, h⟩
    obtain ⟨a21, c21, rfl⟩ := e21
    clear n21 hv1
    go_wp2_with (go_at_call 13; refine (awake_any _).mono ?_; rintro e w22 ⟨rfl, b22⟩)
    go_ret
    exact ⟨rfl, bThen t21 b22⟩
  | false =>
    have TRI := Lib.hid (F.out.tri HEB.out)
    have RNG := Lib.hid F.out.rng1
    obtain ⟨m, Hm⟩ : ∃ m, Hid (z1 = ⟨false, m⟩) := by
      obtain ⟨e1, m1⟩ := z1
      exact ⟨m1, by show _ = _; rw [show e1 = false from HEB.out]⟩
    rw [Hm.out] at A20 TRI RNG
    have z20 := A20.out
    have hkk' : (kk : Int) < 60 := by omega
    clear A20 HE3 HEB F Hm EK hk hkl hln hk1 hk2 hk3 htl
    go_wp2
    go_loopw [15] (fun t wr => ∃ i : Nat, i ≤ 60 ∧ t = .int .i64 i ∧ ZAt wr p4 ⟨false, m⟩ ∧ Below w.heap.size w wr) (fun t _ => 60 - (intOf t).toNat)
    case atStart => exact ⟨0, by omega, rfl, z20, t20⟩
    case round =>
      clear z20 t20
      obtain ⟨i, hi, rfl, hz, hbel⟩ := hrel
      by_cases hli : i < 60
      · have hli' : (i : Int) < 60 := by omega
        go_wp2_with fail
        refine (place_any cut 60 _ Hcut.out (by omega) (by omega)).mono ?_
        rintro e w31 ⟨rfl, rfl⟩
        rw [show cut % 60 = (kk : Int) from EKK.out]
        go_wp2_with fail
        refine (bound_any _ p4 ⟨false, m⟩ hz i kk).mono ?_
        rintro e w31 ⟨rfl, b31⟩
        have t31 := bThen hbel b31
        have z31 := ZAt.below hz b31 hz.lt
        obtain ⟨g, hg⟩ : ∃ g, Hid (g = w31.heap.size) := ⟨_, rfl⟩
        obtain ⟨pb, hpb⟩ : ∃ pb, Hid (pb = bndZ ⟨false, m⟩ (i : Int) (kk : Int)) := ⟨_, rfl⟩
        rw [← hpb.out]
        clear hbel b31 hz
        go_wp2
        have hgb : Blk (w31.alloc (.cells #[.bool pb.1, .int .i64 pb.2] 28)) g 28 #[.bool pb.1, .int .i64 pb.2] := Blk.new_at _ _ hg.out
        rw [← hg.out]
        go_loopw [17] (fun t wr => ∃ j : Nat, j ≤ 60 ∧ t = .int .i64 j ∧ ZAt wr p4 ⟨false, m⟩ ∧ Blk wr g 28 #[.bool pb.1, .int .i64 pb.2] ∧ Below w.heap.size w wr) (fun t _ => 60 - (intOf t).toNat)
        case atStart => exact ⟨0, by omega, rfl, Blk.alloc z31 _, hgb, t31.alloc t31.size _⟩
        case round =>
          clear z31 hgb t31
          obtain ⟨j, hj, rfl, hz, hgb, hbel⟩ := hrel
          by_cases hlj : j < 60
          · have hlj' : (j : Int) < 60 := by omega
            go_wp2_with fail
            refine (place_any cut 60 _ Hcut.out (by omega) (by omega)).mono ?_
            rintro e w41 ⟨rfl, rfl⟩
            rw [show cut % 60 = (kk : Int) from EKK.out]
            go_wp2_with fail
            refine (bound_any _ p4 ⟨false, m⟩ hz kk j).mono ?_
            rintro e w41 ⟨rfl, b41⟩
            have t41 := bThen hbel b41
            have z41 := ZAt.below hz b41 hz.lt
            have g41 := Blk.below hgb b41 hgb.lt
            obtain ⟨ab, hab⟩ : ∃ ab, Hid (ab = bndZ ⟨false, m⟩ (kk : Int) (j : Int)) := ⟨_, rfl⟩
            rw [← hab.out]
            clear hbel b41 hz hgb
            go_wp2_with fail
            refine (bound_any _ p4 ⟨false, m⟩ (Blk.alloc z41 _) i j).mono ?_
            rintro e w42 ⟨rfl, b42⟩
            have t42 : Below w.heap.size w w42 := (t41.alloc t41.size _).trans (b42.mono (by simp; have := t41.size; omega))
            have hsz : w41.heap.size < w42.heap.size := by have := b42.size; simp at this; omega
            have z42 : ZAt w42 p4 ⟨false, m⟩ := ZAt.below (Blk.alloc z41 _) b42 (by have := Blk.lt z41; simp; omega)
            have g42 := Blk.below (Blk.alloc g41 _) b42 (by have := g41.lt; simp; omega)
            have a42 := Blk.below (Blk.new w41 28 #[.bool ab.1, .int .i64 ab.2]) b42 (by simp)
            obtain ⟨bb, hbb⟩ : ∃ bb, Hid (bb = bndZ ⟨false, m⟩ (i : Int) (j : Int)) := ⟨_, rfl⟩
            rw [← hbb.out]
            have hgl := g42.lt
            have c1' := g42.cell 0
            have c2' := g42.cell 1
            have c3' := a42.cell 0
            have c4' := a42.cell 1
            simp only [List.getElem?_toArray, List.getElem?_cons_zero, List.getElem?_cons_succ] at c1' c2' c3' c4'
            clear t41 z41 g41 b42
            by_cases h1 : m i kk = 2305843009213693952
            · have hp : pb = (false, 0) := by rw [hpb.out]; exact bndZ_none hli hkk h1
              subst hp
              have H1 := Lib.hid h1
              clear h1
              go_wp2
              go_roundw
              case rel => exact ⟨j + 1, by omega, by go_num, Blk.alloc z42 _, Blk.alloc g42 _, t42.alloc t42.size _⟩
              case measure => simp [intOf]; omega
            · have hp : pb = (true, m i kk) := by rw [hpb.out]; exact bndZ_some hli hkk h1
              subst hp
              by_cases h2 : m kk j = 2305843009213693952
              · have hq : ab = (false, 0) := by rw [hab.out]; exact bndZ_none hkk hlj h2
                subst hq
                have H1 := Lib.hid h1
                have H2 := Lib.hid h2
                clear h1 h2
                go_wp2
                go_roundw
                case rel => exact ⟨j + 1, by omega, by go_num, Blk.alloc z42 _, Blk.alloc g42 _, t42.alloc t42.size _⟩
                case measure => simp [intOf]; omega
              · have hq : ab = (true, m kk j) := by rw [hab.out]; exact bndZ_some hkk hlj h2
                subst hq
                obtain ⟨h3, h4⟩ := TRI.out i kk j hli hkk hlj h1 h2
                have hr : bb = (true, m i j) := by rw [hbb.out]; exact bndZ_some hli hlj h3
                subst hr
                have r1 := RNG.out i kk hli hkk
                have r2 := RNG.out kk j hkk hlj
                have q1 : -1152921504606846976 ≤ m i kk ∧ m i kk ≤ 1152921504606846976 := by omega
                have q2 : -1152921504606846976 ≤ m kk j ∧ m kk j ≤ 1152921504606846976 := by omega
                obtain ⟨q1a, q1b⟩ := q1
                obtain ⟨q2a, q2b⟩ := q2
                have H1 := Lib.hid h1
                have H2 := Lib.hid h2
                have H3 := Lib.hid h3
                have h5 : ¬ m i kk + m kk j < m i j := by omega
                clear h1 h2 h3 r1 r2
                go_wp2
                go_roundw
                case rel => exact ⟨j + 1, by omega, by go_num, Blk.alloc z42 _, Blk.alloc g42 _, t42.alloc t42.size _⟩
                case measure => simp [intOf]; omega
          · obtain rfl : j = 60 := by omega
            go_wp2
            go_roundw
            case rel => exact ⟨i + 1, by omega, by go_num, hz, hbel⟩
            case measure => simp [intOf]; omega
      · obtain rfl : i = 60 := by omega
        go_wp2_with (go_at_call 13; refine (awake_any _).mono ?_; rintro e w22 ⟨rfl, b22⟩)
        go_ret
        exact ⟨rfl, bThen hbel b22⟩

set_option maxRecDepth 100000 in
theorem zoneOrders_lifted (os : Os) (started : os.Started) (H : Type) (enc : TypeId × Value → H) :
    ReturnsInHanded {} Try.checked os 5 .any (Rows.zoneOrdersSpec.pre6 enc Try.prog Try.f5 Rows.zoneOrdersRow.domain false) (Rows.zoneOrdersSpec.post enc Try.prog Try.f5 false true false false) := by
  refine returnsInHanded_of_change_sized (C := Try.checked) own started (by kernel_rfl) Try.func5
    (ChangeSpec.witness6 (enc := enc) (C := Try.checked) false ⟨#[], #[.slice none 0 0, .int .i64 0], []⟩ 8 (by kernel_rfl) (by kernel_rfl) (by kernel_rfl) (by kernel_rfl)) ?_
  intro W base args ds gs before hval0 hW hcnd hsz _
  have hval : ∀ (j : Nat) t v, Try.f5.params[j]? = some t → args[j]? = some v → Value.okWide Try.prog W .any base t v := hval0
  have hW' := hW
  obtain ⟨p, q, hA0, hV, rfl, hfz, hnd⟩ := hW
  have hA : DataW.TrodAll enc Try.prog W 0 (fun _ => true) true Try.f5.params.toList args.toList ds p := hA0
  rw [Try.params5] at hA hval hsz
  obtain ⟨v0, vs0, d0, ds0, p0, q0, hargs, rfl, rfl, h0, r0⟩ := trodAll_cons hA
  obtain ⟨v1, vs1, d1, ds1, p1, q1, rfl, rfl, rfl, h1, r1⟩ := trodAll_cons r0
  obtain ⟨rfl, rfl, rfl⟩ := trodAll_nil r1
  obtain rfl : args = #[v0, v1] := by cases args; simp_all
  obtain ⟨rfl, rfl⟩ := trodVars_none hV
  have k0 := h0
  have lt0 : ∀ x ∈ p0, x.block < W.heap.size := by obtain ⟨m, hm⟩ := k0; exact DataW.trod_lt m _ _ _ hm
  obtain ⟨a0, len0, cap0, rfl⟩ := okWide_slice Try.underlying35 (hval 0 35 v0 rfl rfl)
  obtain ⟨l0, g0⟩ : ∃ l, ArgC W (.slice a0 len0 cap0) l := by
    obtain ⟨fuel, hf⟩ := h0
    refine open_rcons (x := (d0, p0)) (by simpa [Value.cells] using hf) (fun e s hd => ?_)
    have hs := sized_slice hsz (j := 0) (t := 35) (elems := e) (spare := s) rfl (by simp only at hd; rw [hd]; rfl) Try.underlying35
    rw [show Try.checked.prog.bytesOf 72 = 24 by kernel_rfl] at hs
    exact Nat.le_trans hs (by decide)
  have k1 := h1
  have lt1 : ∀ x ∈ p1, x.block < W.heap.size := by obtain ⟨m, hm⟩ := k1; exact DataW.trod_lt m _ _ _ hm
  obtain ⟨n1, rfl, rfl, rfl, w1⟩ := open_int Try.underlying3 (hval 1 3 v1 rfl rfl) h1
  clear hA0 hval0 hval hfz hnd hcnd hA
  refine (orders_any W _ l0 g0 n1 (i64_of_wf w1)).mono fun e W' ⟨he, bel⟩ => ?_
  subst he
  exact ⟨_, rfl, _, _, _, [], _, [], hW', trodAll_mk1 (shut_bool Try.underlying4 _), (trodAll_cons_mk (Below.trod laidOut (by kernel_rfl) (of_decide_eq_true (by kernel_rfl)) k0 bel lt0) (trodAll_cons_mk (Below.trod laidOut (by kernel_rfl) (of_decide_eq_true (by kernel_rfl)) k1 bel lt1) trodAll_mk0)), rfl, bel.frame _, fun h => by cases h⟩

theorem ZoneOrders_holds : Rows.ZoneOrdersSaid :=
  OpenClaim.holds_of_wide 5 Try.f5 rfl rfl rfl rfl rfl rfl rfl ⟨rfl, rfl, rfl, rfl, rfl⟩ rfl rfl rfl rfl rfl (by kernel_rfl) Try.func5 (by kernel_rfl)
    (of_decide_eq_true (by kernel_rfl)) (by unfold Func.isWrapper; rw [if_neg (of_decide_eq_false (by kernel_rfl))]; exact ⟨rfl, rfl⟩)
    (fun os started H enc _ => zoneOrders_lifted os started H enc)
#print axioms ZoneOrders_holds

end Go.Proofs.YtfpbjjdlchplnaaR
