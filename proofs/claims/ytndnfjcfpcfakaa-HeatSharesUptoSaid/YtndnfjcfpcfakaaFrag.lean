/- What the law needs, one part after another: walks of functions and plain laws. No conditions but those that each law names. -/
import Derived.Test.YtndnfjcfpcfakaaFraf
import Derived.Deep.CutBlock
import Derived.Deep.DeepCutAuto
namespace Go.Proofs.Ytndnfjcfpcfakaa
open Go Go.RowKit Go.Wr Go.Fl
set_option maxHeartbeats 8000000
set_option maxRecDepth 100000
def szB (i : Int) : List Rw := if i = 8 then [] else if i = 16 then rowsB.take 2 else if i = 32 then rowsB.take 4 else rowsB
def szD (i : Int) : List Rw := if i = 16 then [] else if i = 32 then swpR 16 else if i = 64 then swpR 16 ++ swpR 32 else rowsD
def szF (i : Int) : List Rw := if i = 0 then [] else if i = 1 then memR 1 0x10 true false else if i = 2 then memR 1 0x10 true false ++ memR 2 0x08 true false else if i = 3 then memR 1 0x10 true false ++ memR 2 0x08 true false ++ memR 4 0 true true else rowsF
theorem rows_ok (w : World) : Calls Try.prog 86 #[] w (PuR w.heap.size w rows) := by
 obtain ⟨L0, l0⟩ : ∃ L : List Rw, L = [] := ⟨_, rfl⟩
 have O0 := Lib.hid (show OwR tR w.heap.size w (.slice none 0 0) L0 by rw [l0]; exact OwR.nil _ _)
 have n0 : L0.length ≤ 0 := by rw [l0]; simp
 have E0 := Lib.hid l0
 have b0 := bRefl w
 have z0 : w.heap.size ≤ w.heap.size := Nat.le_refl _
 clear l0
 go_enter Try.func86, Try.ntmps86
 go_wp2_with fail
 refine (alu_ok _ w.heap.size _ L0 O0.out z0 (by omega) 1 0 0 (by omega) (by omega)).mono ?_
 rintro e w1 ⟨c1, v1, rfl, o1⟩
 have b1 := b0.trans c1
 clear c1
 obtain ⟨L1, l1⟩ : ∃ L : List Rw, L = L0 ++ aluR 1 0 0 := ⟨_, rfl⟩
 rw [← l1] at o1
 have n1 : L1.length ≤ 4 := by rw [l1, List.length_append]; have h : (aluR 1 0 0).length ≤ 4 := (by first | exact Nat.le_refl _ | decide); omega
 have E1 := Lib.hid l1
 have O1 := Lib.hid o1
 have z1 := b1.size
 clear l1 o1 O0 n0 b0 z0
 go_wp2_with fail
 refine (alu_ok _ w.heap.size _ L1 O1.out z1 (by omega) 2 1 0 (by omega) (by omega)).mono ?_
 rintro e w2 ⟨c2, v2, rfl, o2⟩
 have b2 := b1.trans c2
 clear c2
 obtain ⟨L2, l2⟩ : ∃ L : List Rw, L = L1 ++ aluR 2 1 0 := ⟨_, rfl⟩
 rw [← l2] at o2
 have n2 : L2.length ≤ 8 := by rw [l2, List.length_append]; have h : (aluR 2 1 0).length ≤ 4 := (by first | exact Nat.le_refl _ | decide); omega
 have E2 := Lib.hid l2
 have O2 := Lib.hid o2
 have z2 := b2.size
 clear l2 o2 O1 n1 b1 z1
 go_wp2_with fail
 refine (alu_ok _ w.heap.size _ L2 O2.out z2 (by omega) 3 2 0 (by omega) (by omega)).mono ?_
 rintro e w3 ⟨c3, v3, rfl, o3⟩
 have b3 := b2.trans c3
 clear c3
 obtain ⟨L3, l3⟩ : ∃ L : List Rw, L = L2 ++ aluR 3 2 0 := ⟨_, rfl⟩
 rw [← l3] at o3
 have n3 : L3.length ≤ 12 := by rw [l3, List.length_append]; have h : (aluR 3 2 0).length ≤ 4 := (by first | exact Nat.le_refl _ | decide); omega
 have E3 := Lib.hid l3
 have O3 := Lib.hid o3
 have z3 := b3.size
 clear l3 o3 O2 n2 b2 z2
 go_wp2_with fail
 refine (alu_ok _ w.heap.size _ L3 O3.out z3 (by omega) 4 3 0 (by omega) (by omega)).mono ?_
 rintro e w4 ⟨c4, v4, rfl, o4⟩
 have b4 := b3.trans c4
 clear c4
 obtain ⟨L4, l4⟩ : ∃ L : List Rw, L = L3 ++ aluR 4 3 0 := ⟨_, rfl⟩
 rw [← l4] at o4
 have n4 : L4.length ≤ 16 := by rw [l4, List.length_append]; have h : (aluR 4 3 0).length ≤ 4 := (by first | exact Nat.le_refl _ | decide); omega
 have E4 := Lib.hid l4
 have O4 := Lib.hid o4
 have z4 := b4.size
 clear l4 o4 O3 n3 b3 z3
 go_wp2_with fail
 refine (alu_ok _ w.heap.size _ L4 O4.out z4 (by omega) 6 3 1 (by omega) (by omega)).mono ?_
 rintro e w5 ⟨c5, v5, rfl, o5⟩
 have b5 := b4.trans c5
 clear c5
 obtain ⟨L5, l5⟩ : ∃ L : List Rw, L = L4 ++ aluR 6 3 1 := ⟨_, rfl⟩
 rw [← l5] at o5
 have n5 : L5.length ≤ 20 := by rw [l5, List.length_append]; have h : (aluR 6 3 1).length ≤ 4 := (by first | exact Nat.le_refl _ | decide); omega
 have E5 := Lib.hid l5
 have O5 := Lib.hid o5
 have z5 := b5.size
 clear l5 o5 O4 n4 b4 z4
 go_wp2_with fail
 refine (alu_ok _ w.heap.size _ L5 O5.out z5 (by omega) 8 4 0 (by omega) (by omega)).mono ?_
 rintro e w6 ⟨c6, v6, rfl, o6⟩
 have b6 := b5.trans c6
 clear c6
 obtain ⟨L6, l6⟩ : ∃ L : List Rw, L = L5 ++ aluR 8 4 0 := ⟨_, rfl⟩
 rw [← l6] at o6
 have n6 : L6.length ≤ 24 := by rw [l6, List.length_append]; have h : (aluR 8 4 0).length ≤ 4 := (by first | exact Nat.le_refl _ | decide); omega
 have E6 := Lib.hid l6
 have O6 := Lib.hid o6
 have z6 := b6.size
 clear l6 o6 O5 n5 b5 z5
 go_wp2_with fail
 refine (alu_ok _ w.heap.size _ L6 O6.out z6 (by omega) 9 5 0 (by omega) (by omega)).mono ?_
 rintro e w7 ⟨c7, v7, rfl, o7⟩
 have b7 := b6.trans c7
 clear c7
 obtain ⟨L7, l7⟩ : ∃ L : List Rw, L = L6 ++ aluR 9 5 0 := ⟨_, rfl⟩
 rw [← l7] at o7
 have n7 : L7.length ≤ 28 := by rw [l7, List.length_append]; have h : (aluR 9 5 0).length ≤ 4 := (by first | exact Nat.le_refl _ | decide); omega
 have E7 := Lib.hid l7
 have O7 := Lib.hid o7
 have z7 := b7.size
 clear l7 o7 O6 n6 b6 z6
 go_wp2_with fail
 refine (alu_ok _ w.heap.size _ L7 O7.out z7 (by omega) 11 6 0 (by omega) (by omega)).mono ?_
 rintro e w8 ⟨c8, v8, rfl, o8⟩
 have b8 := b7.trans c8
 clear c8
 obtain ⟨L8, l8⟩ : ∃ L : List Rw, L = L7 ++ aluR 11 6 0 := ⟨_, rfl⟩
 rw [← l8] at o8
 have n8 : L8.length ≤ 32 := by rw [l8, List.length_append]; have h : (aluR 11 6 0).length ≤ 4 := (by first | exact Nat.le_refl _ | decide); omega
 have E8 := Lib.hid l8
 have O8 := Lib.hid o8
 have z8 := b8.size
 clear l8 o8 O7 n7 b7 z7
 go_wp2_with fail
 refine (alu_ok _ w.heap.size _ L8 O8.out z8 (by omega) 12 7 0 (by omega) (by omega)).mono ?_
 rintro e w9 ⟨c9, v9, rfl, o9⟩
 have b9 := b8.trans c9
 clear c9
 obtain ⟨L9, l9⟩ : ∃ L : List Rw, L = L8 ++ aluR 12 7 0 := ⟨_, rfl⟩
 rw [← l9] at o9
 have n9 : L9.length ≤ 36 := by rw [l9, List.length_append]; have h : (aluR 12 7 0).length ≤ 4 := (by first | exact Nat.le_refl _ | decide); omega
 have E9 := Lib.hid l9
 have O9 := Lib.hid o9
 have z9 := b9.size
 clear l9 o9 O8 n8 b8 z8
 go_wp2_with fail
 refine (alu_ok _ w.heap.size _ L9 O9.out z9 (by omega) 5 9 0 (by omega) (by omega)).mono ?_
 rintro e w10 ⟨c10, v10, rfl, o10⟩
 have b10 := b9.trans c10
 clear c10
 obtain ⟨L10, l10⟩ : ∃ L : List Rw, L = L9 ++ aluR 5 9 0 := ⟨_, rfl⟩
 rw [← l10] at o10
 have n10 : L10.length ≤ 40 := by rw [l10, List.length_append]; have h : (aluR 5 9 0).length ≤ 4 := (by first | exact Nat.le_refl _ | decide); omega
 have E10 := Lib.hid l10
 have O10 := Lib.hid o10
 have z10 := b10.size
 clear l10 o10 O9 n9 b9 z9
 go_wp2_with fail
 refine (alu_ok _ w.heap.size _ L10 O10.out z10 (by omega) 7 9 1 (by omega) (by omega)).mono ?_
 rintro e w11 ⟨c11, v11, rfl, o11⟩
 have b11 := b10.trans c11
 clear c11
 obtain ⟨L11, l11⟩ : ∃ L : List Rw, L = L10 ++ aluR 7 9 1 := ⟨_, rfl⟩
 rw [← l11] at o11
 have n11 : L11.length ≤ 44 := by rw [l11, List.length_append]; have h : (aluR 7 9 1).length ≤ 4 := (by first | exact Nat.le_refl _ | decide); omega
 have E11 := Lib.hid l11
 have O11 := Lib.hid o11
 have z11 := b11.size
 clear l11 o11 O10 n10 b10 z10
 go_wp2_with fail
 refine (alu_ok _ w.heap.size _ L11 O11.out z11 (by omega) 10 10 0 (by omega) (by omega)).mono ?_
 rintro e w12 ⟨c12, v12, rfl, o12⟩
 have b12 := b11.trans c12
 clear c12
 obtain ⟨L12, l12⟩ : ∃ L : List Rw, L = L11 ++ aluR 10 10 0 := ⟨_, rfl⟩
 rw [← l12] at o12
 have n12 : L12.length ≤ 48 := by rw [l12, List.length_append]; have h : (aluR 10 10 0).length ≤ 4 := (by first | exact Nat.le_refl _ | decide); omega
 have E12 := Lib.hid l12
 have O12 := Lib.hid o12
 have z12 := b12.size
 clear l12 o12 O11 n11 b11 z11
 go_wp2_with fail
 refine (alu_ok _ w.heap.size _ L12 O12.out z12 (by omega) 15 11 0 (by omega) (by omega)).mono ?_
 rintro e w13 ⟨c13, v13, rfl, o13⟩
 have b13 := b12.trans c13
 clear c13
 obtain ⟨L13, l13⟩ : ∃ L : List Rw, L = L12 ++ aluR 15 11 0 := ⟨_, rfl⟩
 rw [← l13] at o13
 have n13 : L13.length ≤ 52 := by rw [l13, List.length_append]; have h : (aluR 15 11 0).length ≤ 4 := (by first | exact Nat.le_refl _ | decide); omega
 have E13 := Lib.hid l13
 have O13 := Lib.hid o13
 have z13 := b13.size
 clear l13 o13 O12 n12 b12 z12
 go_wp2_with fail
 refine (alu_ok _ w.heap.size _ L13 O13.out z13 (by omega) 13 12 0 (by omega) (by omega)).mono ?_
 rintro e w14 ⟨c14, v14, rfl, o14⟩
 have b14 := b13.trans c14
 clear c14
 obtain ⟨L14, l14⟩ : ∃ L : List Rw, L = L13 ++ aluR 13 12 0 := ⟨_, rfl⟩
 rw [← l14] at o14
 have n14 : L14.length ≤ 56 := by rw [l14, List.length_append]; have h : (aluR 13 12 0).length ≤ 4 := (by first | exact Nat.le_refl _ | decide); omega
 have E14 := Lib.hid l14
 have O14 := Lib.hid o14
 have z14 := b14.size
 clear l14 o14 O13 n13 b13 z13
 go_upto_block 0 with (fail)
 go_cut [1, 2] (fun t1 _ wr => ∃ v : Value, t1 = v ∧ Hid (OwR tR w.heap.size wr v (L14 ++ szB 64)) ∧ Below w.heap.size w wr)
 case first =>
  go_wp2
  go_loopw [1, 2] (fun t1 t wr => ∃ (v : Value) (i : Int), (i = 8 ∨ i = 16 ∨ i = 32 ∨ i = 64) ∧ t1 = v ∧ t = .int .i64 i ∧ Hid (OwR tR w.heap.size wr v (L14 ++ szB i)) ∧ Below w.heap.size w wr) (fun _ t _ => 64 - (intOf t).toNat)
  case atStart => exact ⟨_, 8, Or.inl rfl, rfl, rfl, by show OwR _ _ _ _ _; simpa [szB] using O14.out, b14⟩
  case round =>
   clear O14 b14 z14
   obtain ⟨v, i, hi, rfl, rfl, O14, b14⟩ := hrel
   have z14 := b14.size
   rcases hi with rfl | rfl | rfl | rfl
   ·obtain ⟨L15, l15⟩ : ∃ L, L = L14 ++ szB 8 := ⟨_, rfl⟩
    have O15 := Lib.hid (show OwR tR w.heap.size wr _ L15 by rw [l15]; exact O14.out)
    have n15 : L15.length ≤ 61 := by rw [l15, List.length_append]; have h : (szB 8).length ≤ 5 := (by decide); omega
    have E15 := Lib.hid l15
    have b15 := b14
    have z15 := z14
    clear l15 O14 b14 z14
    go_upto_region 21 with (at_builtin; refine wpl_push tR rfl _ _ rfl w.heap.size _ L15 rfl (O15.out.alloc _) _ 0 1 1 [⟨191, 16, 8, false, true, -1, -1, 8, 0, 0, true⟩] rfl rfl (rangeNew (by rfl) (by rfl)) (by simp; unfold maxLen; omega) (by show _ * 80 ≤ _; simp; omega) (by simp; omega) ?_; intro v16 w16 o16 g16 _)
    have b16 := (b15.alloc z15 _).grown g16 (by simp; omega) (fun q hq => (O15.out.blk hq).1)
    clear g16
    obtain ⟨L16, l16⟩ : ∃ L : List Rw, L = L15 ++ ([⟨191, 16, 8, false, true, -1, -1, 8, 0, 0, true⟩] : List Rw) := ⟨_, rfl⟩
    rw [← l16] at o16
    have n16 : L16.length ≤ 62 := by rw [l16, List.length_append]; have h : (([⟨191, 16, 8, false, true, -1, -1, 8, 0, 0, true⟩] : List Rw)).length ≤ 1 := (by first | exact Nat.le_refl _ | decide); omega
    have E16 := Lib.hid l16
    have O16 := Lib.hid o16
    have z16 := b16.size
    clear l16 o16 O15 n15 b15 z15
    go_wp2_with (at_builtin; refine wpl_push tR rfl _ _ rfl w.heap.size _ L16 rfl (O16.out.alloc _) _ 0 1 1 [⟨188, 16, 8, true, true, -1, -1, 8, 0, 0, true⟩] rfl rfl (rangeNew (by rfl) (by rfl)) (by simp; unfold maxLen; omega) (by show _ * 80 ≤ _; simp; omega) (by simp; omega) ?_; intro v17 w17 o17 g17 _)
    have b17 := (b16.alloc z16 _).grown g17 (by simp; omega) (fun q hq => (O16.out.blk hq).1)
    clear g17
    obtain ⟨L17, l17⟩ : ∃ L : List Rw, L = L16 ++ ([⟨188, 16, 8, true, true, -1, -1, 8, 0, 0, true⟩] : List Rw) := ⟨_, rfl⟩
    rw [← l17] at o17
    have n17 : L17.length ≤ 63 := by rw [l17, List.length_append]; have h : (([⟨188, 16, 8, true, true, -1, -1, 8, 0, 0, true⟩] : List Rw)).length ≤ 1 := (by first | exact Nat.le_refl _ | decide); omega
    have E17 := Lib.hid l17
    have O17 := Lib.hid o17
    have z17 := b17.size
    clear l17 o17 O16 n16 b16 z16
    have OF : Hid (OwR tR w.heap.size w17 v17 (L14 ++ szB 16)) := by
     show OwR _ _ _ _ _
     have h := O17.out
     rw [E17.out, E16.out, E15.out] at h
     simp only [List.append_assoc] at h
     exact h
    go_wp2
    go_roundw
    all_goals first
     | exact ⟨_, 16, by decide, rfl, by first | rfl | go_num, OF, b17⟩
     | ((repeat apply Exists.intro); exact ⟨⟨_, 16, by decide, rfl, by first | rfl | go_num, OF, b17⟩, rfl⟩)
     | (simp [intOf])
   ·obtain ⟨L15, l15⟩ : ∃ L, L = L14 ++ szB 16 := ⟨_, rfl⟩
    have O15 := Lib.hid (show OwR tR w.heap.size wr _ L15 by rw [l15]; exact O14.out)
    have n15 : L15.length ≤ 61 := by rw [l15, List.length_append]; have h : (szB 16).length ≤ 5 := (by decide); omega
    have E15 := Lib.hid l15
    have b15 := b14
    have z15 := z14
    clear l15 O14 b14 z14
    go_upto_region 21 with (at_builtin; refine wpl_push tR rfl _ _ rfl w.heap.size _ L15 rfl (O15.out.alloc _) _ 0 1 1 [⟨191, 16, 16, false, true, -1, -1, 16, 0, 0, true⟩] rfl rfl (rangeNew (by rfl) (by rfl)) (by simp; unfold maxLen; omega) (by show _ * 80 ≤ _; simp; omega) (by simp; omega) ?_; intro v16 w16 o16 g16 _)
    have b16 := (b15.alloc z15 _).grown g16 (by simp; omega) (fun q hq => (O15.out.blk hq).1)
    clear g16
    obtain ⟨L16, l16⟩ : ∃ L : List Rw, L = L15 ++ ([⟨191, 16, 16, false, true, -1, -1, 16, 0, 0, true⟩] : List Rw) := ⟨_, rfl⟩
    rw [← l16] at o16
    have n16 : L16.length ≤ 62 := by rw [l16, List.length_append]; have h : (([⟨191, 16, 16, false, true, -1, -1, 16, 0, 0, true⟩] : List Rw)).length ≤ 1 := (by first | exact Nat.le_refl _ | decide); omega
    have E16 := Lib.hid l16
    have O16 := Lib.hid o16
    have z16 := b16.size
    clear l16 o16 O15 n15 b15 z15
    go_wp2_with (at_builtin; refine wpl_push tR rfl _ _ rfl w.heap.size _ L16 rfl (O16.out.alloc _) _ 0 1 1 [⟨188, 16, 16, true, true, -1, -1, 16, 0, 0, true⟩] rfl rfl (rangeNew (by rfl) (by rfl)) (by simp; unfold maxLen; omega) (by show _ * 80 ≤ _; simp; omega) (by simp; omega) ?_; intro v17 w17 o17 g17 _)
    have b17 := (b16.alloc z16 _).grown g17 (by simp; omega) (fun q hq => (O16.out.blk hq).1)
    clear g17
    obtain ⟨L17, l17⟩ : ∃ L : List Rw, L = L16 ++ ([⟨188, 16, 16, true, true, -1, -1, 16, 0, 0, true⟩] : List Rw) := ⟨_, rfl⟩
    rw [← l17] at o17
    have n17 : L17.length ≤ 63 := by rw [l17, List.length_append]; have h : (([⟨188, 16, 16, true, true, -1, -1, 16, 0, 0, true⟩] : List Rw)).length ≤ 1 := (by first | exact Nat.le_refl _ | decide); omega
    have E17 := Lib.hid l17
    have O17 := Lib.hid o17
    have z17 := b17.size
    clear l17 o17 O16 n16 b16 z16
    have OF : Hid (OwR tR w.heap.size w17 v17 (L14 ++ szB 32)) := by
     show OwR _ _ _ _ _
     have h := O17.out
     rw [E17.out, E16.out, E15.out] at h
     simp only [List.append_assoc] at h
     exact h
    go_wp2
    go_roundw
    all_goals first
     | exact ⟨_, 32, by decide, rfl, by first | rfl | go_num, OF, b17⟩
     | ((repeat apply Exists.intro); exact ⟨⟨_, 32, by decide, rfl, by first | rfl | go_num, OF, b17⟩, rfl⟩)
     | (simp [intOf])
   ·obtain ⟨L15, l15⟩ : ∃ L, L = L14 ++ szB 32 := ⟨_, rfl⟩
    have O15 := Lib.hid (show OwR tR w.heap.size wr _ L15 by rw [l15]; exact O14.out)
    have n15 : L15.length ≤ 61 := by rw [l15, List.length_append]; have h : (szB 32).length ≤ 5 := (by decide); omega
    have E15 := Lib.hid l15
    have b15 := b14
    have z15 := z14
    clear l15 O14 b14 z14
    go_wp2_with (at_builtin; refine wpl_push tR rfl _ _ rfl w.heap.size _ L15 rfl (O15.out.alloc _) _ 0 1 1 [⟨191, 16, 32, false, true, -1, -1, 32, 0, 0, true⟩] rfl rfl (rangeNew (by rfl) (by rfl)) (by simp; unfold maxLen; omega) (by show _ * 80 ≤ _; simp; omega) (by simp; omega) ?_; intro v16 w16 o16 g16 _)
    have b16 := (b15.alloc z15 _).grown g16 (by simp; omega) (fun q hq => (O15.out.blk hq).1)
    clear g16
    obtain ⟨L16, l16⟩ : ∃ L : List Rw, L = L15 ++ ([⟨191, 16, 32, false, true, -1, -1, 32, 0, 0, true⟩] : List Rw) := ⟨_, rfl⟩
    rw [← l16] at o16
    have n16 : L16.length ≤ 62 := by rw [l16, List.length_append]; have h : (([⟨191, 16, 32, false, true, -1, -1, 32, 0, 0, true⟩] : List Rw)).length ≤ 1 := (by first | exact Nat.le_refl _ | decide); omega
    have E16 := Lib.hid l16
    have O16 := Lib.hid o16
    have z16 := b16.size
    clear l16 o16 O15 n15 b15 z15
    have OF : Hid (OwR tR w.heap.size w16 v16 (L14 ++ szB 64)) := by
     show OwR _ _ _ _ _
     have h := O16.out
     rw [E16.out, E15.out] at h
     simp only [List.append_assoc] at h
     exact h
    go_wp2
    go_roundw
    all_goals first
     | exact ⟨_, 64, by decide, rfl, by first | rfl | go_num, OF, b16⟩
     | ((repeat apply Exists.intro); exact ⟨⟨_, 64, by decide, rfl, by first | rfl | go_num, OF, b16⟩, rfl⟩)
     | (simp [intOf])
   ·go_wp2
    go_meet
    exact ⟨_, rfl, O14, b14⟩
 case rest =>
  obtain ⟨v15, rfl, o15, b15⟩ := hcut
  have o15 := o15.out
  obtain ⟨w15, hw15⟩ : ∃ W, W = wc := ⟨_, rfl⟩
  rw [← hw15] at o15 b15 ⊢
  clear hw15
  obtain ⟨L15, l15⟩ : ∃ L, L = L14 ++ szB 64 := ⟨_, rfl⟩
  rw [← l15] at o15
  have n15 : L15.length ≤ 61 := by rw [l15, List.length_append]; have h : (szB 64).length ≤ 5 := (by decide); omega
  have E15 := Lib.hid l15
  have O15 := Lib.hid o15
  have z15 := b15.size
  clear l15 o15 O14 n14 b14 z14
  go_upto_region 23 with (at_builtin; refine wpl_push tR rfl _ _ rfl w.heap.size _ L15 rfl (O15.out.alloc _) _ 0 1 1 [⟨135, 14, 0, false, false, -1, 0, 0, 0, 0, true⟩] rfl rfl (rangeNew (by rfl) (by rfl)) (by simp; unfold maxLen; omega) (by show _ * 80 ≤ _; simp; omega) (by simp; omega) ?_; intro v16 w16 o16 g16 _)
  have b16 := (b15.alloc z15 _).grown g16 (by simp; omega) (fun q hq => (O15.out.blk hq).1)
  clear g16
  obtain ⟨L16, l16⟩ : ∃ L : List Rw, L = L15 ++ ([⟨135, 14, 0, false, false, -1, 0, 0, 0, 0, true⟩] : List Rw) := ⟨_, rfl⟩
  rw [← l16] at o16
  have n16 : L16.length ≤ 62 := by rw [l16, List.length_append]; have h : (([⟨135, 14, 0, false, false, -1, 0, 0, 0, 0, true⟩] : List Rw)).length ≤ 1 := (by first | exact Nat.le_refl _ | decide); omega
  have E16 := Lib.hid l16
  have O16 := Lib.hid o16
  have z16 := b16.size
  clear l16 o16 O15 n15 b15 z15
  go_upto_region 24 with (at_builtin; refine wpl_push tR rfl _ _ rfl w.heap.size _ L16 rfl (O16.out.alloc _) _ 0 1 1 [⟨132, 14, 0, true, false, -1, 0, 0, 0, 0, true⟩] rfl rfl (rangeNew (by rfl) (by rfl)) (by simp; unfold maxLen; omega) (by show _ * 80 ≤ _; simp; omega) (by simp; omega) ?_; intro v17 w17 o17 g17 _)
  have b17 := (b16.alloc z16 _).grown g17 (by simp; omega) (fun q hq => (O16.out.blk hq).1)
  clear g17
  obtain ⟨L17, l17⟩ : ∃ L : List Rw, L = L16 ++ ([⟨132, 14, 0, true, false, -1, 0, 0, 0, 0, true⟩] : List Rw) := ⟨_, rfl⟩
  rw [← l17] at o17
  have n17 : L17.length ≤ 63 := by rw [l17, List.length_append]; have h : (([⟨132, 14, 0, true, false, -1, 0, 0, 0, 0, true⟩] : List Rw)).length ≤ 1 := (by first | exact Nat.le_refl _ | decide); omega
  have E17 := Lib.hid l17
  have O17 := Lib.hid o17
  have z17 := b17.size
  clear l17 o17 O16 n16 b16 z16
  go_upto_block 2 with (fail)
  go_cut [1, 3] (fun t1 _ wr => ∃ v : Value, t1 = v ∧ Hid (OwR tR w.heap.size wr v (L17 ++ szD 128)) ∧ Below w.heap.size w wr)
  case first =>
   go_wp2
   go_loopw [1, 3] (fun t1 t wr => ∃ (v : Value) (i : Int), (i = 16 ∨ i = 32 ∨ i = 64 ∨ i = 128) ∧ t1 = v ∧ t = .int .i64 i ∧ Hid (OwR tR w.heap.size wr v (L17 ++ szD i)) ∧ Below w.heap.size w wr) (fun _ t _ => 128 - (intOf t).toNat)
   case atStart => exact ⟨_, 16, Or.inl rfl, rfl, rfl, by show OwR _ _ _ _ _; simpa [szD] using O17.out, b17⟩
   case round =>
    clear O17 b17 z17
    obtain ⟨v, i, hi, rfl, rfl, O17, b17⟩ := hrel
    have z17 := b17.size
    rcases hi with rfl | rfl | rfl | rfl
    ·obtain ⟨L18, l18⟩ : ∃ L, L = L17 ++ szD 16 := ⟨_, rfl⟩
     have O18 := Lib.hid (show OwR tR w.heap.size wr _ L18 by rw [l18]; exact O17.out)
     have n18 : L18.length ≤ 72 := by rw [l18, List.length_append]; have h : (szD 16).length ≤ 9 := (by decide); omega
     have E18 := Lib.hid l18
     have b18 := b17
     have z18 := z17
     clear l18 O17 b17 z17
     go_upto_region 28 with (at_builtin; refine wpl_push tR rfl _ _ rfl w.heap.size _ L18 rfl (O18.out.alloc _) _ 0 1 1 [⟨212, 17, 16, false, false, -1, 0, 0, 16, 0, true⟩] rfl rfl (rangeNew (by rfl) (by rfl)) (by simp; unfold maxLen; omega) (by show _ * 80 ≤ _; simp; omega) (by simp; omega) ?_; intro v19 w19 o19 g19 _)
     have b19 := (b18.alloc z18 _).grown g19 (by simp; omega) (fun q hq => (O18.out.blk hq).1)
     clear g19
     obtain ⟨L19, l19⟩ : ∃ L : List Rw, L = L18 ++ ([⟨212, 17, 16, false, false, -1, 0, 0, 16, 0, true⟩] : List Rw) := ⟨_, rfl⟩
     rw [← l19] at o19
     have n19 : L19.length ≤ 73 := by rw [l19, List.length_append]; have h : (([⟨212, 17, 16, false, false, -1, 0, 0, 16, 0, true⟩] : List Rw)).length ≤ 1 := (by first | exact Nat.le_refl _ | decide); omega
     have E19 := Lib.hid l19
     have O19 := Lib.hid o19
     have z19 := b19.size
     clear l19 o19 O18 n18 b18 z18
     go_upto_region 29 with (at_builtin; refine wpl_push tR rfl _ _ rfl w.heap.size _ L19 rfl (O19.out.alloc _) _ 0 1 1 [⟨220, 18, 16, false, false, -1, 0, 0, 16, 0, true⟩] rfl rfl (rangeNew (by rfl) (by rfl)) (by simp; unfold maxLen; omega) (by show _ * 80 ≤ _; simp; omega) (by simp; omega) ?_; intro v20 w20 o20 g20 _)
     have b20 := (b19.alloc z19 _).grown g20 (by simp; omega) (fun q hq => (O19.out.blk hq).1)
     clear g20
     obtain ⟨L20, l20⟩ : ∃ L : List Rw, L = L19 ++ ([⟨220, 18, 16, false, false, -1, 0, 0, 16, 0, true⟩] : List Rw) := ⟨_, rfl⟩
     rw [← l20] at o20
     have n20 : L20.length ≤ 74 := by rw [l20, List.length_append]; have h : (([⟨220, 18, 16, false, false, -1, 0, 0, 16, 0, true⟩] : List Rw)).length ≤ 1 := (by first | exact Nat.le_refl _ | decide); omega
     have E20 := Lib.hid l20
     have O20 := Lib.hid o20
     have z20 := b20.size
     clear l20 o20 O19 n19 b19 z19
     go_wp2_with (at_builtin; refine wpl_push tR rfl _ _ rfl w.heap.size _ L20 rfl (O20.out.alloc _) _ 0 1 1 [⟨215, 19, 16, false, false, -1, 0, 0, 16, 0, true⟩] rfl rfl (rangeNew (by rfl) (by rfl)) (by simp; unfold maxLen; omega) (by show _ * 80 ≤ _; simp; omega) (by simp; omega) ?_; intro v21 w21 o21 g21 _)
     have b21 := (b20.alloc z20 _).grown g21 (by simp; omega) (fun q hq => (O20.out.blk hq).1)
     clear g21
     obtain ⟨L21, l21⟩ : ∃ L : List Rw, L = L20 ++ ([⟨215, 19, 16, false, false, -1, 0, 0, 16, 0, true⟩] : List Rw) := ⟨_, rfl⟩
     rw [← l21] at o21
     have n21 : L21.length ≤ 75 := by rw [l21, List.length_append]; have h : (([⟨215, 19, 16, false, false, -1, 0, 0, 16, 0, true⟩] : List Rw)).length ≤ 1 := (by first | exact Nat.le_refl _ | decide); omega
     have E21 := Lib.hid l21
     have O21 := Lib.hid o21
     have z21 := b21.size
     clear l21 o21 O20 n20 b20 z20
     have OF : Hid (OwR tR w.heap.size w21 v21 (L17 ++ szD 32)) := by
      show OwR _ _ _ _ _
      have h := O21.out
      rw [E21.out, E20.out, E19.out, E18.out] at h
      simp only [List.append_assoc] at h
      exact h
     go_wp2
     go_roundw
     all_goals first
      | exact ⟨_, 32, by decide, rfl, by first | rfl | go_num, OF, b21⟩
      | ((repeat apply Exists.intro); exact ⟨⟨_, 32, by decide, rfl, by first | rfl | go_num, OF, b21⟩, rfl⟩)
      | (simp [intOf])
    ·obtain ⟨L18, l18⟩ : ∃ L, L = L17 ++ szD 32 := ⟨_, rfl⟩
     have O18 := Lib.hid (show OwR tR w.heap.size wr _ L18 by rw [l18]; exact O17.out)
     have n18 : L18.length ≤ 72 := by rw [l18, List.length_append]; have h : (szD 32).length ≤ 9 := (by decide); omega
     have E18 := Lib.hid l18
     have b18 := b17
     have z18 := z17
     clear l18 O17 b17 z17
     go_upto_region 28 with (at_builtin; refine wpl_push tR rfl _ _ rfl w.heap.size _ L18 rfl (O18.out.alloc _) _ 0 1 1 [⟨212, 17, 32, false, false, -1, 0, 0, 32, 0, true⟩] rfl rfl (rangeNew (by rfl) (by rfl)) (by simp; unfold maxLen; omega) (by show _ * 80 ≤ _; simp; omega) (by simp; omega) ?_; intro v19 w19 o19 g19 _)
     have b19 := (b18.alloc z18 _).grown g19 (by simp; omega) (fun q hq => (O18.out.blk hq).1)
     clear g19
     obtain ⟨L19, l19⟩ : ∃ L : List Rw, L = L18 ++ ([⟨212, 17, 32, false, false, -1, 0, 0, 32, 0, true⟩] : List Rw) := ⟨_, rfl⟩
     rw [← l19] at o19
     have n19 : L19.length ≤ 73 := by rw [l19, List.length_append]; have h : (([⟨212, 17, 32, false, false, -1, 0, 0, 32, 0, true⟩] : List Rw)).length ≤ 1 := (by first | exact Nat.le_refl _ | decide); omega
     have E19 := Lib.hid l19
     have O19 := Lib.hid o19
     have z19 := b19.size
     clear l19 o19 O18 n18 b18 z18
     go_upto_region 29 with (at_builtin; refine wpl_push tR rfl _ _ rfl w.heap.size _ L19 rfl (O19.out.alloc _) _ 0 1 1 [⟨220, 18, 32, false, false, -1, 0, 0, 32, 0, true⟩] rfl rfl (rangeNew (by rfl) (by rfl)) (by simp; unfold maxLen; omega) (by show _ * 80 ≤ _; simp; omega) (by simp; omega) ?_; intro v20 w20 o20 g20 _)
     have b20 := (b19.alloc z19 _).grown g20 (by simp; omega) (fun q hq => (O19.out.blk hq).1)
     clear g20
     obtain ⟨L20, l20⟩ : ∃ L : List Rw, L = L19 ++ ([⟨220, 18, 32, false, false, -1, 0, 0, 32, 0, true⟩] : List Rw) := ⟨_, rfl⟩
     rw [← l20] at o20
     have n20 : L20.length ≤ 74 := by rw [l20, List.length_append]; have h : (([⟨220, 18, 32, false, false, -1, 0, 0, 32, 0, true⟩] : List Rw)).length ≤ 1 := (by first | exact Nat.le_refl _ | decide); omega
     have E20 := Lib.hid l20
     have O20 := Lib.hid o20
     have z20 := b20.size
     clear l20 o20 O19 n19 b19 z19
     go_wp2_with (at_builtin; refine wpl_push tR rfl _ _ rfl w.heap.size _ L20 rfl (O20.out.alloc _) _ 0 1 1 [⟨215, 19, 32, false, false, -1, 0, 0, 32, 0, true⟩] rfl rfl (rangeNew (by rfl) (by rfl)) (by simp; unfold maxLen; omega) (by show _ * 80 ≤ _; simp; omega) (by simp; omega) ?_; intro v21 w21 o21 g21 _)
     have b21 := (b20.alloc z20 _).grown g21 (by simp; omega) (fun q hq => (O20.out.blk hq).1)
     clear g21
     obtain ⟨L21, l21⟩ : ∃ L : List Rw, L = L20 ++ ([⟨215, 19, 32, false, false, -1, 0, 0, 32, 0, true⟩] : List Rw) := ⟨_, rfl⟩
     rw [← l21] at o21
     have n21 : L21.length ≤ 75 := by rw [l21, List.length_append]; have h : (([⟨215, 19, 32, false, false, -1, 0, 0, 32, 0, true⟩] : List Rw)).length ≤ 1 := (by first | exact Nat.le_refl _ | decide); omega
     have E21 := Lib.hid l21
     have O21 := Lib.hid o21
     have z21 := b21.size
     clear l21 o21 O20 n20 b20 z20
     have OF : Hid (OwR tR w.heap.size w21 v21 (L17 ++ szD 64)) := by
      show OwR _ _ _ _ _
      have h := O21.out
      rw [E21.out, E20.out, E19.out, E18.out] at h
      simp only [List.append_assoc] at h
      exact h
     go_wp2
     go_roundw
     all_goals first
      | exact ⟨_, 64, by decide, rfl, by first | rfl | go_num, OF, b21⟩
      | ((repeat apply Exists.intro); exact ⟨⟨_, 64, by decide, rfl, by first | rfl | go_num, OF, b21⟩, rfl⟩)
      | (simp [intOf])
    ·obtain ⟨L18, l18⟩ : ∃ L, L = L17 ++ szD 64 := ⟨_, rfl⟩
     have O18 := Lib.hid (show OwR tR w.heap.size wr _ L18 by rw [l18]; exact O17.out)
     have n18 : L18.length ≤ 72 := by rw [l18, List.length_append]; have h : (szD 64).length ≤ 9 := (by decide); omega
     have E18 := Lib.hid l18
     have b18 := b17
     have z18 := z17
     clear l18 O17 b17 z17
     go_upto_region 28 with (at_builtin; refine wpl_push tR rfl _ _ rfl w.heap.size _ L18 rfl (O18.out.alloc _) _ 0 1 1 [⟨212, 17, 64, false, false, -1, 0, 0, 64, 0, true⟩] rfl rfl (rangeNew (by rfl) (by rfl)) (by simp; unfold maxLen; omega) (by show _ * 80 ≤ _; simp; omega) (by simp; omega) ?_; intro v19 w19 o19 g19 _)
     have b19 := (b18.alloc z18 _).grown g19 (by simp; omega) (fun q hq => (O18.out.blk hq).1)
     clear g19
     obtain ⟨L19, l19⟩ : ∃ L : List Rw, L = L18 ++ ([⟨212, 17, 64, false, false, -1, 0, 0, 64, 0, true⟩] : List Rw) := ⟨_, rfl⟩
     rw [← l19] at o19
     have n19 : L19.length ≤ 73 := by rw [l19, List.length_append]; have h : (([⟨212, 17, 64, false, false, -1, 0, 0, 64, 0, true⟩] : List Rw)).length ≤ 1 := (by first | exact Nat.le_refl _ | decide); omega
     have E19 := Lib.hid l19
     have O19 := Lib.hid o19
     have z19 := b19.size
     clear l19 o19 O18 n18 b18 z18
     go_upto_region 29 with (at_builtin; refine wpl_push tR rfl _ _ rfl w.heap.size _ L19 rfl (O19.out.alloc _) _ 0 1 1 [⟨220, 18, 64, false, false, -1, 0, 0, 64, 0, true⟩] rfl rfl (rangeNew (by rfl) (by rfl)) (by simp; unfold maxLen; omega) (by show _ * 80 ≤ _; simp; omega) (by simp; omega) ?_; intro v20 w20 o20 g20 _)
     have b20 := (b19.alloc z19 _).grown g20 (by simp; omega) (fun q hq => (O19.out.blk hq).1)
     clear g20
     obtain ⟨L20, l20⟩ : ∃ L : List Rw, L = L19 ++ ([⟨220, 18, 64, false, false, -1, 0, 0, 64, 0, true⟩] : List Rw) := ⟨_, rfl⟩
     rw [← l20] at o20
     have n20 : L20.length ≤ 74 := by rw [l20, List.length_append]; have h : (([⟨220, 18, 64, false, false, -1, 0, 0, 64, 0, true⟩] : List Rw)).length ≤ 1 := (by first | exact Nat.le_refl _ | decide); omega
     have E20 := Lib.hid l20
     have O20 := Lib.hid o20
     have z20 := b20.size
     clear l20 o20 O19 n19 b19 z19
     go_wp2_with (at_builtin; refine wpl_push tR rfl _ _ rfl w.heap.size _ L20 rfl (O20.out.alloc _) _ 0 1 1 [⟨215, 19, 64, false, false, -1, 0, 0, 64, 0, true⟩] rfl rfl (rangeNew (by rfl) (by rfl)) (by simp; unfold maxLen; omega) (by show _ * 80 ≤ _; simp; omega) (by simp; omega) ?_; intro v21 w21 o21 g21 _)
     have b21 := (b20.alloc z20 _).grown g21 (by simp; omega) (fun q hq => (O20.out.blk hq).1)
     clear g21
     obtain ⟨L21, l21⟩ : ∃ L : List Rw, L = L20 ++ ([⟨215, 19, 64, false, false, -1, 0, 0, 64, 0, true⟩] : List Rw) := ⟨_, rfl⟩
     rw [← l21] at o21
     have n21 : L21.length ≤ 75 := by rw [l21, List.length_append]; have h : (([⟨215, 19, 64, false, false, -1, 0, 0, 64, 0, true⟩] : List Rw)).length ≤ 1 := (by first | exact Nat.le_refl _ | decide); omega
     have E21 := Lib.hid l21
     have O21 := Lib.hid o21
     have z21 := b21.size
     clear l21 o21 O20 n20 b20 z20
     have OF : Hid (OwR tR w.heap.size w21 v21 (L17 ++ szD 128)) := by
      show OwR _ _ _ _ _
      have h := O21.out
      rw [E21.out, E20.out, E19.out, E18.out] at h
      simp only [List.append_assoc] at h
      exact h
     go_wp2
     go_roundw
     all_goals first
      | exact ⟨_, 128, by decide, rfl, by first | rfl | go_num, OF, b21⟩
      | ((repeat apply Exists.intro); exact ⟨⟨_, 128, by decide, rfl, by first | rfl | go_num, OF, b21⟩, rfl⟩)
      | (simp [intOf])
    ·go_wp2
     go_meet
     exact ⟨_, rfl, O17, b17⟩
  case rest =>
   obtain ⟨v18, rfl, o18, b18⟩ := hcut
   have o18 := o18.out
   obtain ⟨w18, hw18⟩ : ∃ W, W = wc := ⟨_, rfl⟩
   rw [← hw18] at o18 b18 ⊢
   clear hw18
   obtain ⟨L18, l18⟩ : ∃ L, L = L17 ++ szD 128 := ⟨_, rfl⟩
   rw [← l18] at o18
   have n18 : L18.length ≤ 72 := by rw [l18, List.length_append]; have h : (szD 128).length ≤ 9 := (by decide); omega
   have E18 := Lib.hid l18
   have O18 := Lib.hid o18
   have z18 := b18.size
   clear l18 o18 O17 n17 b17 z17
   go_upto_region 31 with (at_builtin; refine wpl_push tR rfl _ _ rfl w.heap.size _ L18 rfl (O18.out.alloc _) _ 0 1 1 [⟨24, 20, 0, false, false, -1, 0, 0, -1, -1, true⟩] rfl rfl (rangeNew (by rfl) (by rfl)) (by simp; unfold maxLen; omega) (by show _ * 80 ≤ _; simp; omega) (by simp; omega) ?_; intro v19 w19 o19 g19 _)
   have b19 := (b18.alloc z18 _).grown g19 (by simp; omega) (fun q hq => (O18.out.blk hq).1)
   clear g19
   obtain ⟨L19, l19⟩ : ∃ L : List Rw, L = L18 ++ ([⟨24, 20, 0, false, false, -1, 0, 0, -1, -1, true⟩] : List Rw) := ⟨_, rfl⟩
   rw [← l19] at o19
   have n19 : L19.length ≤ 73 := by rw [l19, List.length_append]; have h : (([⟨24, 20, 0, false, false, -1, 0, 0, -1, -1, true⟩] : List Rw)).length ≤ 1 := (by first | exact Nat.le_refl _ | decide); omega
   have E19 := Lib.hid l19
   have O19 := Lib.hid o19
   have z19 := b19.size
   clear l19 o19 O18 n18 b18 z18
   go_upto_region 32 with (at_builtin; refine wpl_push tR rfl _ _ rfl w.heap.size _ L19 rfl (O19.out.alloc _) _ 0 1 1 [⟨24, 21, 0, false, false, -1, 6, 0, 0, -1, true⟩] rfl rfl (rangeNew (by rfl) (by rfl)) (by simp; unfold maxLen; omega) (by show _ * 80 ≤ _; simp; omega) (by simp; omega) ?_; intro v20 w20 o20 g20 _)
   have b20 := (b19.alloc z19 _).grown g20 (by simp; omega) (fun q hq => (O19.out.blk hq).1)
   clear g20
   obtain ⟨L20, l20⟩ : ∃ L : List Rw, L = L19 ++ ([⟨24, 21, 0, false, false, -1, 6, 0, 0, -1, true⟩] : List Rw) := ⟨_, rfl⟩
   rw [← l20] at o20
   have n20 : L20.length ≤ 74 := by rw [l20, List.length_append]; have h : (([⟨24, 21, 0, false, false, -1, 6, 0, 0, -1, true⟩] : List Rw)).length ≤ 1 := (by first | exact Nat.le_refl _ | decide); omega
   have E20 := Lib.hid l20
   have O20 := Lib.hid o20
   have z20 := b20.size
   clear l20 o20 O19 n19 b19 z19
   go_upto_block 4 with (fail)
   obtain ⟨gd, hgd⟩ : ∃ g, g = w20.heap.size := ⟨_, rfl⟩
   have HD := Lib.hid (show Blk (w20.alloc (.cells #[.int .i64 16, .int .i64 8, .int .i64 0, .int .i64 24] 3)) gd 3 #[.int .i64 16, .int .i64 8, .int .i64 0, .int .i64 24] from Blk.new_at _ _ hgd)
   have HO := Lib.hid (O20.out.alloc (.cells #[.int .i64 16, .int .i64 8, .int .i64 0, .int .i64 24] 3))
   have hb := b20.alloc z20 (.cells #[.int .i64 16, .int .i64 8, .int .i64 0, .int .i64 24] 3)
   rw [← hgd]
   generalize w20.alloc (.cells #[.int .i64 16, .int .i64 8, .int .i64 0, .int .i64 24] 3) = w20 at HD HO hb ⊢
   clear O20 b20 z20 hgd
   go_cut [1, 5] (fun t1 _ wr => ∃ v : Value, t1 = v ∧ Hid (OwR tR w.heap.size wr v (L20 ++ szF 4)) ∧ Below w.heap.size w wr)
   case first =>
    go_wp2
    go_loopw [1, 5] (fun t1 t wr => ∃ (v : Value) (i : Int), (i = 0 ∨ i = 1 ∨ i = 2 ∨ i = 3 ∨ i = 4) ∧ t1 = v ∧ t = .int .i64 i ∧ Hid (OwR tR w.heap.size wr v (L20 ++ szF i)) ∧ Below w.heap.size w wr ∧ Hid (Blk wr gd 3 #[.int .i64 16, .int .i64 8, .int .i64 0, .int .i64 24])) (fun _ t _ => 4 - (intOf t).toNat)
    case atStart => exact ⟨_, 0, Or.inl rfl, rfl, rfl, by show OwR _ _ _ _ _; simpa [szF] using HO.out, hb, HD.out⟩
    case round =>
     clear HO hb HD
     obtain ⟨v, i, hi, rfl, rfl, O20, b20, HD⟩ := hrel
     have z20 := b20.size
     rcases hi with rfl | rfl | rfl | rfl | rfl
     ·obtain ⟨L21, l21⟩ : ∃ L, L = L20 ++ szF 0 := ⟨_, rfl⟩
      have O21 := Lib.hid (show OwR tR w.heap.size wr _ L21 by rw [l21]; exact O20.out)
      have n21 : L21.length ≤ 91 := by rw [l21, List.length_append]; have h : (szF 0).length ≤ 17 := (by decide); omega
      have E21 := Lib.hid l21
      have b21 := b20
      have z21 := z20
      have D21 := Lib.hid HD.out
      have d210 := HD.out.cell 0
      have d211 := HD.out.cell 1
      have d212 := HD.out.cell 2
      have d213 := HD.out.cell 3
      simp only [List.getElem?_toArray, List.getElem?_cons_zero, List.getElem?_cons_succ] at d210 d211 d212 d213
      clear l21 O20 b20 z20 HD
      go_upto_region 39 with (at_builtin; refine wpl_push tR rfl _ _ rfl w.heap.size _ L21 rfl (O21.out.alloc _) _ 0 1 1 [⟨113, 22, 1, false, false, -1, -1, -1, 0, 0, true⟩] rfl rfl (rangeNew (by rfl) (by rfl)) (by simp; unfold maxLen; omega) (by show _ * 80 ≤ _; simp; omega) (by simp; omega) ?_; intro v22 w22 o22 g22 _)
      have b22 := (b21.alloc z21 _).grown g22 (by simp; omega) (fun q hq => (O21.out.blk hq).1)
      have D22 := Lib.hid ((D21.out.alloc (.cells (rwa ⟨113, 22, 1, false, false, -1, -1, -1, 0, 0, true⟩) 155)).of_block (g22.block gd (by simp; have := D21.out.lt; omega) (fun e => (O21.out.alloc (.cells (rwa ⟨113, 22, 1, false, false, -1, -1, -1, 0, 0, true⟩) 155)).ne (D21.out.alloc _) (by decide) e.symm)))
      have d220 := D22.out.cell 0
      have d221 := D22.out.cell 1
      have d222 := D22.out.cell 2
      have d223 := D22.out.cell 3
      simp only [List.getElem?_toArray, List.getElem?_cons_zero, List.getElem?_cons_succ] at d220 d221 d222 d223
      clear D21 d210 d211 d212 d213
      clear g22
      obtain ⟨L22, l22⟩ : ∃ L : List Rw, L = L21 ++ ([⟨113, 22, 1, false, false, -1, -1, -1, 0, 0, true⟩] : List Rw) := ⟨_, rfl⟩
      rw [← l22] at o22
      have n22 : L22.length ≤ 92 := by rw [l22, List.length_append]; have h : (([⟨113, 22, 1, false, false, -1, -1, -1, 0, 0, true⟩] : List Rw)).length ≤ 1 := (by first | exact Nat.le_refl _ | decide); omega
      have E22 := Lib.hid l22
      have O22 := Lib.hid o22
      have z22 := b22.size
      clear l22 o22 O21 n21 b21 z21
      go_upto_region 40 with (at_builtin; refine wpl_push tR rfl _ _ rfl w.heap.size _ L22 rfl (O22.out.alloc _) _ 0 1 1 [⟨145, 23, 1, false, false, -1, -1, -1, 0, 0, true⟩] rfl rfl (rangeNew (by rfl) (by rfl)) (by simp; unfold maxLen; omega) (by show _ * 80 ≤ _; simp; omega) (by simp; omega) ?_; intro v23 w23 o23 g23 _)
      have b23 := (b22.alloc z22 _).grown g23 (by simp; omega) (fun q hq => (O22.out.blk hq).1)
      have D23 := Lib.hid ((D22.out.alloc (.cells (rwa ⟨145, 23, 1, false, false, -1, -1, -1, 0, 0, true⟩) 155)).of_block (g23.block gd (by simp; have := D22.out.lt; omega) (fun e => (O22.out.alloc (.cells (rwa ⟨145, 23, 1, false, false, -1, -1, -1, 0, 0, true⟩) 155)).ne (D22.out.alloc _) (by decide) e.symm)))
      have d230 := D23.out.cell 0
      have d231 := D23.out.cell 1
      have d232 := D23.out.cell 2
      have d233 := D23.out.cell 3
      simp only [List.getElem?_toArray, List.getElem?_cons_zero, List.getElem?_cons_succ] at d230 d231 d232 d233
      clear D22 d220 d221 d222 d223
      clear g23
      obtain ⟨L23, l23⟩ : ∃ L : List Rw, L = L22 ++ ([⟨145, 23, 1, false, false, -1, -1, -1, 0, 0, true⟩] : List Rw) := ⟨_, rfl⟩
      rw [← l23] at o23
      have n23 : L23.length ≤ 93 := by rw [l23, List.length_append]; have h : (([⟨145, 23, 1, false, false, -1, -1, -1, 0, 0, true⟩] : List Rw)).length ≤ 1 := (by first | exact Nat.le_refl _ | decide); omega
      have E23 := Lib.hid l23
      have O23 := Lib.hid o23
      have z23 := b23.size
      clear l23 o23 O22 n22 b22 z22
      go_upto_region 41 with (at_builtin; refine wpl_push tR rfl _ _ rfl w.heap.size _ L23 rfl (O23.out.alloc _) _ 0 1 1 [⟨115, 24, 1, false, true, -1, -1, -1, 0, 0, false⟩] rfl rfl (rangeNew (by rfl) (by rfl)) (by simp; unfold maxLen; omega) (by show _ * 80 ≤ _; simp; omega) (by simp; omega) ?_; intro v24 w24 o24 g24 _)
      have b24 := (b23.alloc z23 _).grown g24 (by simp; omega) (fun q hq => (O23.out.blk hq).1)
      have D24 := Lib.hid ((D23.out.alloc (.cells (rwa ⟨115, 24, 1, false, true, -1, -1, -1, 0, 0, false⟩) 155)).of_block (g24.block gd (by simp; have := D23.out.lt; omega) (fun e => (O23.out.alloc (.cells (rwa ⟨115, 24, 1, false, true, -1, -1, -1, 0, 0, false⟩) 155)).ne (D23.out.alloc _) (by decide) e.symm)))
      have d240 := D24.out.cell 0
      have d241 := D24.out.cell 1
      have d242 := D24.out.cell 2
      have d243 := D24.out.cell 3
      simp only [List.getElem?_toArray, List.getElem?_cons_zero, List.getElem?_cons_succ] at d240 d241 d242 d243
      clear D23 d230 d231 d232 d233
      clear g24
      obtain ⟨L24, l24⟩ : ∃ L : List Rw, L = L23 ++ ([⟨115, 24, 1, false, true, -1, -1, -1, 0, 0, false⟩] : List Rw) := ⟨_, rfl⟩
      rw [← l24] at o24
      have n24 : L24.length ≤ 94 := by rw [l24, List.length_append]; have h : (([⟨115, 24, 1, false, true, -1, -1, -1, 0, 0, false⟩] : List Rw)).length ≤ 1 := (by first | exact Nat.le_refl _ | decide); omega
      have E24 := Lib.hid l24
      have O24 := Lib.hid o24
      have z24 := b24.size
      clear l24 o24 O23 n23 b23 z23
      go_wp2_with (at_builtin; refine wpl_push tR rfl _ _ rfl w.heap.size _ L24 rfl (O24.out.alloc _) _ 0 1 1 [⟨114, 24, 1, false, false, -1, 0, -1, -1, 0, false⟩] rfl rfl (rangeNew (by rfl) (by rfl)) (by simp; unfold maxLen; omega) (by show _ * 80 ≤ _; simp; omega) (by simp; omega) ?_; intro v25 w25 o25 g25 _)
      have b25 := (b24.alloc z24 _).grown g25 (by simp; omega) (fun q hq => (O24.out.blk hq).1)
      have D25 := Lib.hid ((D24.out.alloc (.cells (rwa ⟨114, 24, 1, false, false, -1, 0, -1, -1, 0, false⟩) 155)).of_block (g25.block gd (by simp; have := D24.out.lt; omega) (fun e => (O24.out.alloc (.cells (rwa ⟨114, 24, 1, false, false, -1, 0, -1, -1, 0, false⟩) 155)).ne (D24.out.alloc _) (by decide) e.symm)))
      have d250 := D25.out.cell 0
      have d251 := D25.out.cell 1
      have d252 := D25.out.cell 2
      have d253 := D25.out.cell 3
      simp only [List.getElem?_toArray, List.getElem?_cons_zero, List.getElem?_cons_succ] at d250 d251 d252 d253
      clear D24 d240 d241 d242 d243
      clear g25
      obtain ⟨L25, l25⟩ : ∃ L : List Rw, L = L24 ++ ([⟨114, 24, 1, false, false, -1, 0, -1, -1, 0, false⟩] : List Rw) := ⟨_, rfl⟩
      rw [← l25] at o25
      have n25 : L25.length ≤ 95 := by rw [l25, List.length_append]; have h : (([⟨114, 24, 1, false, false, -1, 0, -1, -1, 0, false⟩] : List Rw)).length ≤ 1 := (by first | exact Nat.le_refl _ | decide); omega
      have E25 := Lib.hid l25
      have O25 := Lib.hid o25
      have z25 := b25.size
      clear l25 o25 O24 n24 b24 z24
      have OF : Hid (OwR tR w.heap.size w25 v25 (L20 ++ szF 1)) := by
       show OwR _ _ _ _ _
       have h := O25.out
       rw [E25.out, E24.out, E23.out, E22.out, E21.out] at h
       simp only [List.append_assoc] at h
       exact h
      go_wp2
      go_roundw
      all_goals first
       | exact ⟨_, 1, by decide, rfl, by first | rfl | go_num, OF, b25, D25.out⟩
       | ((repeat apply Exists.intro); exact ⟨⟨_, 1, by decide, rfl, by first | rfl | go_num, OF, b25, D25.out⟩, rfl⟩)
       | (simp [intOf])
     ·obtain ⟨L21, l21⟩ : ∃ L, L = L20 ++ szF 1 := ⟨_, rfl⟩
      have O21 := Lib.hid (show OwR tR w.heap.size wr _ L21 by rw [l21]; exact O20.out)
      have n21 : L21.length ≤ 91 := by rw [l21, List.length_append]; have h : (szF 1).length ≤ 17 := (by decide); omega
      have E21 := Lib.hid l21
      have b21 := b20
      have z21 := z20
      have D21 := Lib.hid HD.out
      have d210 := HD.out.cell 0
      have d211 := HD.out.cell 1
      have d212 := HD.out.cell 2
      have d213 := HD.out.cell 3
      simp only [List.getElem?_toArray, List.getElem?_cons_zero, List.getElem?_cons_succ] at d210 d211 d212 d213
      clear l21 O20 b20 z20 HD
      go_upto_region 39 with (at_builtin; refine wpl_push tR rfl _ _ rfl w.heap.size _ L21 rfl (O21.out.alloc _) _ 0 1 1 [⟨105, 22, 2, false, false, -1, -1, -1, 0, 0, true⟩] rfl rfl (rangeNew (by rfl) (by rfl)) (by simp; unfold maxLen; omega) (by show _ * 80 ≤ _; simp; omega) (by simp; omega) ?_; intro v22 w22 o22 g22 _)
      have b22 := (b21.alloc z21 _).grown g22 (by simp; omega) (fun q hq => (O21.out.blk hq).1)
      have D22 := Lib.hid ((D21.out.alloc (.cells (rwa ⟨105, 22, 2, false, false, -1, -1, -1, 0, 0, true⟩) 155)).of_block (g22.block gd (by simp; have := D21.out.lt; omega) (fun e => (O21.out.alloc (.cells (rwa ⟨105, 22, 2, false, false, -1, -1, -1, 0, 0, true⟩) 155)).ne (D21.out.alloc _) (by decide) e.symm)))
      have d220 := D22.out.cell 0
      have d221 := D22.out.cell 1
      have d222 := D22.out.cell 2
      have d223 := D22.out.cell 3
      simp only [List.getElem?_toArray, List.getElem?_cons_zero, List.getElem?_cons_succ] at d220 d221 d222 d223
      clear D21 d210 d211 d212 d213
      clear g22
      obtain ⟨L22, l22⟩ : ∃ L : List Rw, L = L21 ++ ([⟨105, 22, 2, false, false, -1, -1, -1, 0, 0, true⟩] : List Rw) := ⟨_, rfl⟩
      rw [← l22] at o22
      have n22 : L22.length ≤ 92 := by rw [l22, List.length_append]; have h : (([⟨105, 22, 2, false, false, -1, -1, -1, 0, 0, true⟩] : List Rw)).length ≤ 1 := (by first | exact Nat.le_refl _ | decide); omega
      have E22 := Lib.hid l22
      have O22 := Lib.hid o22
      have z22 := b22.size
      clear l22 o22 O21 n21 b21 z21
      go_upto_region 40 with (at_builtin; refine wpl_push tR rfl _ _ rfl w.heap.size _ L22 rfl (O22.out.alloc _) _ 0 1 1 [⟨137, 23, 2, false, false, -1, -1, -1, 0, 0, true⟩] rfl rfl (rangeNew (by rfl) (by rfl)) (by simp; unfold maxLen; omega) (by show _ * 80 ≤ _; simp; omega) (by simp; omega) ?_; intro v23 w23 o23 g23 _)
      have b23 := (b22.alloc z22 _).grown g23 (by simp; omega) (fun q hq => (O22.out.blk hq).1)
      have D23 := Lib.hid ((D22.out.alloc (.cells (rwa ⟨137, 23, 2, false, false, -1, -1, -1, 0, 0, true⟩) 155)).of_block (g23.block gd (by simp; have := D22.out.lt; omega) (fun e => (O22.out.alloc (.cells (rwa ⟨137, 23, 2, false, false, -1, -1, -1, 0, 0, true⟩) 155)).ne (D22.out.alloc _) (by decide) e.symm)))
      have d230 := D23.out.cell 0
      have d231 := D23.out.cell 1
      have d232 := D23.out.cell 2
      have d233 := D23.out.cell 3
      simp only [List.getElem?_toArray, List.getElem?_cons_zero, List.getElem?_cons_succ] at d230 d231 d232 d233
      clear D22 d220 d221 d222 d223
      clear g23
      obtain ⟨L23, l23⟩ : ∃ L : List Rw, L = L22 ++ ([⟨137, 23, 2, false, false, -1, -1, -1, 0, 0, true⟩] : List Rw) := ⟨_, rfl⟩
      rw [← l23] at o23
      have n23 : L23.length ≤ 93 := by rw [l23, List.length_append]; have h : (([⟨137, 23, 2, false, false, -1, -1, -1, 0, 0, true⟩] : List Rw)).length ≤ 1 := (by first | exact Nat.le_refl _ | decide); omega
      have E23 := Lib.hid l23
      have O23 := Lib.hid o23
      have z23 := b23.size
      clear l23 o23 O22 n22 b22 z22
      go_upto_region 41 with (at_builtin; refine wpl_push tR rfl _ _ rfl w.heap.size _ L23 rfl (O23.out.alloc _) _ 0 1 1 [⟨107, 24, 2, false, true, -1, -1, -1, 0, 0, false⟩] rfl rfl (rangeNew (by rfl) (by rfl)) (by simp; unfold maxLen; omega) (by show _ * 80 ≤ _; simp; omega) (by simp; omega) ?_; intro v24 w24 o24 g24 _)
      have b24 := (b23.alloc z23 _).grown g24 (by simp; omega) (fun q hq => (O23.out.blk hq).1)
      have D24 := Lib.hid ((D23.out.alloc (.cells (rwa ⟨107, 24, 2, false, true, -1, -1, -1, 0, 0, false⟩) 155)).of_block (g24.block gd (by simp; have := D23.out.lt; omega) (fun e => (O23.out.alloc (.cells (rwa ⟨107, 24, 2, false, true, -1, -1, -1, 0, 0, false⟩) 155)).ne (D23.out.alloc _) (by decide) e.symm)))
      have d240 := D24.out.cell 0
      have d241 := D24.out.cell 1
      have d242 := D24.out.cell 2
      have d243 := D24.out.cell 3
      simp only [List.getElem?_toArray, List.getElem?_cons_zero, List.getElem?_cons_succ] at d240 d241 d242 d243
      clear D23 d230 d231 d232 d233
      clear g24
      obtain ⟨L24, l24⟩ : ∃ L : List Rw, L = L23 ++ ([⟨107, 24, 2, false, true, -1, -1, -1, 0, 0, false⟩] : List Rw) := ⟨_, rfl⟩
      rw [← l24] at o24
      have n24 : L24.length ≤ 94 := by rw [l24, List.length_append]; have h : (([⟨107, 24, 2, false, true, -1, -1, -1, 0, 0, false⟩] : List Rw)).length ≤ 1 := (by first | exact Nat.le_refl _ | decide); omega
      have E24 := Lib.hid l24
      have O24 := Lib.hid o24
      have z24 := b24.size
      clear l24 o24 O23 n23 b23 z23
      go_wp2_with (at_builtin; refine wpl_push tR rfl _ _ rfl w.heap.size _ L24 rfl (O24.out.alloc _) _ 0 1 1 [⟨106, 24, 2, false, false, -1, 0, -1, -1, 0, false⟩] rfl rfl (rangeNew (by rfl) (by rfl)) (by simp; unfold maxLen; omega) (by show _ * 80 ≤ _; simp; omega) (by simp; omega) ?_; intro v25 w25 o25 g25 _)
      have b25 := (b24.alloc z24 _).grown g25 (by simp; omega) (fun q hq => (O24.out.blk hq).1)
      have D25 := Lib.hid ((D24.out.alloc (.cells (rwa ⟨106, 24, 2, false, false, -1, 0, -1, -1, 0, false⟩) 155)).of_block (g25.block gd (by simp; have := D24.out.lt; omega) (fun e => (O24.out.alloc (.cells (rwa ⟨106, 24, 2, false, false, -1, 0, -1, -1, 0, false⟩) 155)).ne (D24.out.alloc _) (by decide) e.symm)))
      have d250 := D25.out.cell 0
      have d251 := D25.out.cell 1
      have d252 := D25.out.cell 2
      have d253 := D25.out.cell 3
      simp only [List.getElem?_toArray, List.getElem?_cons_zero, List.getElem?_cons_succ] at d250 d251 d252 d253
      clear D24 d240 d241 d242 d243
      clear g25
      obtain ⟨L25, l25⟩ : ∃ L : List Rw, L = L24 ++ ([⟨106, 24, 2, false, false, -1, 0, -1, -1, 0, false⟩] : List Rw) := ⟨_, rfl⟩
      rw [← l25] at o25
      have n25 : L25.length ≤ 95 := by rw [l25, List.length_append]; have h : (([⟨106, 24, 2, false, false, -1, 0, -1, -1, 0, false⟩] : List Rw)).length ≤ 1 := (by first | exact Nat.le_refl _ | decide); omega
      have E25 := Lib.hid l25
      have O25 := Lib.hid o25
      have z25 := b25.size
      clear l25 o25 O24 n24 b24 z24
      have OF : Hid (OwR tR w.heap.size w25 v25 (L20 ++ szF 2)) := by
       show OwR _ _ _ _ _
       have h := O25.out
       rw [E25.out, E24.out, E23.out, E22.out, E21.out] at h
       simp only [List.append_assoc] at h
       exact h
      go_wp2
      go_roundw
      all_goals first
       | exact ⟨_, 2, by decide, rfl, by first | rfl | go_num, OF, b25, D25.out⟩
       | ((repeat apply Exists.intro); exact ⟨⟨_, 2, by decide, rfl, by first | rfl | go_num, OF, b25, D25.out⟩, rfl⟩)
       | (simp [intOf])
     ·obtain ⟨L21, l21⟩ : ∃ L, L = L20 ++ szF 2 := ⟨_, rfl⟩
      have O21 := Lib.hid (show OwR tR w.heap.size wr _ L21 by rw [l21]; exact O20.out)
      have n21 : L21.length ≤ 91 := by rw [l21, List.length_append]; have h : (szF 2).length ≤ 17 := (by decide); omega
      have E21 := Lib.hid l21
      have b21 := b20
      have z21 := z20
      have D21 := Lib.hid HD.out
      have d210 := HD.out.cell 0
      have d211 := HD.out.cell 1
      have d212 := HD.out.cell 2
      have d213 := HD.out.cell 3
      simp only [List.getElem?_toArray, List.getElem?_cons_zero, List.getElem?_cons_succ] at d210 d211 d212 d213
      clear l21 O20 b20 z20 HD
      go_upto_region 39 with (at_builtin; refine wpl_push tR rfl _ _ rfl w.heap.size _ L21 rfl (O21.out.alloc _) _ 0 1 1 [⟨97, 22, 4, false, false, -1, -1, -1, 0, 0, true⟩] rfl rfl (rangeNew (by rfl) (by rfl)) (by simp; unfold maxLen; omega) (by show _ * 80 ≤ _; simp; omega) (by simp; omega) ?_; intro v22 w22 o22 g22 _)
      have b22 := (b21.alloc z21 _).grown g22 (by simp; omega) (fun q hq => (O21.out.blk hq).1)
      have D22 := Lib.hid ((D21.out.alloc (.cells (rwa ⟨97, 22, 4, false, false, -1, -1, -1, 0, 0, true⟩) 155)).of_block (g22.block gd (by simp; have := D21.out.lt; omega) (fun e => (O21.out.alloc (.cells (rwa ⟨97, 22, 4, false, false, -1, -1, -1, 0, 0, true⟩) 155)).ne (D21.out.alloc _) (by decide) e.symm)))
      have d220 := D22.out.cell 0
      have d221 := D22.out.cell 1
      have d222 := D22.out.cell 2
      have d223 := D22.out.cell 3
      simp only [List.getElem?_toArray, List.getElem?_cons_zero, List.getElem?_cons_succ] at d220 d221 d222 d223
      clear D21 d210 d211 d212 d213
      clear g22
      obtain ⟨L22, l22⟩ : ∃ L : List Rw, L = L21 ++ ([⟨97, 22, 4, false, false, -1, -1, -1, 0, 0, true⟩] : List Rw) := ⟨_, rfl⟩
      rw [← l22] at o22
      have n22 : L22.length ≤ 92 := by rw [l22, List.length_append]; have h : (([⟨97, 22, 4, false, false, -1, -1, -1, 0, 0, true⟩] : List Rw)).length ≤ 1 := (by first | exact Nat.le_refl _ | decide); omega
      have E22 := Lib.hid l22
      have O22 := Lib.hid o22
      have z22 := b22.size
      clear l22 o22 O21 n21 b21 z21
      go_upto_region 40 with (at_builtin; refine wpl_push tR rfl _ _ rfl w.heap.size _ L22 rfl (O22.out.alloc _) _ 0 1 1 [⟨129, 23, 4, false, false, -1, -1, -1, 0, 0, true⟩] rfl rfl (rangeNew (by rfl) (by rfl)) (by simp; unfold maxLen; omega) (by show _ * 80 ≤ _; simp; omega) (by simp; omega) ?_; intro v23 w23 o23 g23 _)
      have b23 := (b22.alloc z22 _).grown g23 (by simp; omega) (fun q hq => (O22.out.blk hq).1)
      have D23 := Lib.hid ((D22.out.alloc (.cells (rwa ⟨129, 23, 4, false, false, -1, -1, -1, 0, 0, true⟩) 155)).of_block (g23.block gd (by simp; have := D22.out.lt; omega) (fun e => (O22.out.alloc (.cells (rwa ⟨129, 23, 4, false, false, -1, -1, -1, 0, 0, true⟩) 155)).ne (D22.out.alloc _) (by decide) e.symm)))
      have d230 := D23.out.cell 0
      have d231 := D23.out.cell 1
      have d232 := D23.out.cell 2
      have d233 := D23.out.cell 3
      simp only [List.getElem?_toArray, List.getElem?_cons_zero, List.getElem?_cons_succ] at d230 d231 d232 d233
      clear D22 d220 d221 d222 d223
      clear g23
      obtain ⟨L23, l23⟩ : ∃ L : List Rw, L = L22 ++ ([⟨129, 23, 4, false, false, -1, -1, -1, 0, 0, true⟩] : List Rw) := ⟨_, rfl⟩
      rw [← l23] at o23
      have n23 : L23.length ≤ 93 := by rw [l23, List.length_append]; have h : (([⟨129, 23, 4, false, false, -1, -1, -1, 0, 0, true⟩] : List Rw)).length ≤ 1 := (by first | exact Nat.le_refl _ | decide); omega
      have E23 := Lib.hid l23
      have O23 := Lib.hid o23
      have z23 := b23.size
      clear l23 o23 O22 n22 b22 z22
      go_upto_region 41 with (at_builtin; refine wpl_push tR rfl _ _ rfl w.heap.size _ L23 rfl (O23.out.alloc _) _ 0 1 1 [⟨99, 24, 4, false, true, -1, -1, -1, 0, 0, false⟩] rfl rfl (rangeNew (by rfl) (by rfl)) (by simp; unfold maxLen; omega) (by show _ * 80 ≤ _; simp; omega) (by simp; omega) ?_; intro v24 w24 o24 g24 _)
      have b24 := (b23.alloc z23 _).grown g24 (by simp; omega) (fun q hq => (O23.out.blk hq).1)
      have D24 := Lib.hid ((D23.out.alloc (.cells (rwa ⟨99, 24, 4, false, true, -1, -1, -1, 0, 0, false⟩) 155)).of_block (g24.block gd (by simp; have := D23.out.lt; omega) (fun e => (O23.out.alloc (.cells (rwa ⟨99, 24, 4, false, true, -1, -1, -1, 0, 0, false⟩) 155)).ne (D23.out.alloc _) (by decide) e.symm)))
      have d240 := D24.out.cell 0
      have d241 := D24.out.cell 1
      have d242 := D24.out.cell 2
      have d243 := D24.out.cell 3
      simp only [List.getElem?_toArray, List.getElem?_cons_zero, List.getElem?_cons_succ] at d240 d241 d242 d243
      clear D23 d230 d231 d232 d233
      clear g24
      obtain ⟨L24, l24⟩ : ∃ L : List Rw, L = L23 ++ ([⟨99, 24, 4, false, true, -1, -1, -1, 0, 0, false⟩] : List Rw) := ⟨_, rfl⟩
      rw [← l24] at o24
      have n24 : L24.length ≤ 94 := by rw [l24, List.length_append]; have h : (([⟨99, 24, 4, false, true, -1, -1, -1, 0, 0, false⟩] : List Rw)).length ≤ 1 := (by first | exact Nat.le_refl _ | decide); omega
      have E24 := Lib.hid l24
      have O24 := Lib.hid o24
      have z24 := b24.size
      clear l24 o24 O23 n23 b23 z23
      go_upto_region 43 with (at_builtin; refine wpl_push tR rfl _ _ rfl w.heap.size _ L24 rfl (O24.out.alloc _) _ 0 1 1 [⟨98, 24, 4, false, false, -1, 0, -1, -1, 0, false⟩] rfl rfl (rangeNew (by rfl) (by rfl)) (by simp; unfold maxLen; omega) (by show _ * 80 ≤ _; simp; omega) (by simp; omega) ?_; intro v25 w25 o25 g25 _)
      have b25 := (b24.alloc z24 _).grown g25 (by simp; omega) (fun q hq => (O24.out.blk hq).1)
      have D25 := Lib.hid ((D24.out.alloc (.cells (rwa ⟨98, 24, 4, false, false, -1, 0, -1, -1, 0, false⟩) 155)).of_block (g25.block gd (by simp; have := D24.out.lt; omega) (fun e => (O24.out.alloc (.cells (rwa ⟨98, 24, 4, false, false, -1, 0, -1, -1, 0, false⟩) 155)).ne (D24.out.alloc _) (by decide) e.symm)))
      have d250 := D25.out.cell 0
      have d251 := D25.out.cell 1
      have d252 := D25.out.cell 2
      have d253 := D25.out.cell 3
      simp only [List.getElem?_toArray, List.getElem?_cons_zero, List.getElem?_cons_succ] at d250 d251 d252 d253
      clear D24 d240 d241 d242 d243
      clear g25
      obtain ⟨L25, l25⟩ : ∃ L : List Rw, L = L24 ++ ([⟨98, 24, 4, false, false, -1, 0, -1, -1, 0, false⟩] : List Rw) := ⟨_, rfl⟩
      rw [← l25] at o25
      have n25 : L25.length ≤ 95 := by rw [l25, List.length_append]; have h : (([⟨98, 24, 4, false, false, -1, 0, -1, -1, 0, false⟩] : List Rw)).length ≤ 1 := (by first | exact Nat.le_refl _ | decide); omega
      have E25 := Lib.hid l25
      have O25 := Lib.hid o25
      have z25 := b25.size
      clear l25 o25 O24 n24 b24 z24
      go_wp2_with (at_builtin; refine wpl_push tR rfl _ _ rfl w.heap.size _ L25 rfl (O25.out.alloc _) _ 0 1 1 [⟨195, 25, 4, false, false, -1, -1, -1, -1, 0, false⟩] rfl rfl (rangeNew (by rfl) (by rfl)) (by simp; unfold maxLen; omega) (by show _ * 80 ≤ _; simp; omega) (by simp; omega) ?_; intro v26 w26 o26 g26 _)
      have b26 := (b25.alloc z25 _).grown g26 (by simp; omega) (fun q hq => (O25.out.blk hq).1)
      have D26 := Lib.hid ((D25.out.alloc (.cells (rwa ⟨195, 25, 4, false, false, -1, -1, -1, -1, 0, false⟩) 155)).of_block (g26.block gd (by simp; have := D25.out.lt; omega) (fun e => (O25.out.alloc (.cells (rwa ⟨195, 25, 4, false, false, -1, -1, -1, -1, 0, false⟩) 155)).ne (D25.out.alloc _) (by decide) e.symm)))
      have d260 := D26.out.cell 0
      have d261 := D26.out.cell 1
      have d262 := D26.out.cell 2
      have d263 := D26.out.cell 3
      simp only [List.getElem?_toArray, List.getElem?_cons_zero, List.getElem?_cons_succ] at d260 d261 d262 d263
      clear D25 d250 d251 d252 d253
      clear g26
      obtain ⟨L26, l26⟩ : ∃ L : List Rw, L = L25 ++ ([⟨195, 25, 4, false, false, -1, -1, -1, -1, 0, false⟩] : List Rw) := ⟨_, rfl⟩
      rw [← l26] at o26
      have n26 : L26.length ≤ 96 := by rw [l26, List.length_append]; have h : (([⟨195, 25, 4, false, false, -1, -1, -1, -1, 0, false⟩] : List Rw)).length ≤ 1 := (by first | exact Nat.le_refl _ | decide); omega
      have E26 := Lib.hid l26
      have O26 := Lib.hid o26
      have z26 := b26.size
      clear l26 o26 O25 n25 b25 z25
      have OF : Hid (OwR tR w.heap.size w26 v26 (L20 ++ szF 3)) := by
       show OwR _ _ _ _ _
       have h := O26.out
       rw [E26.out, E25.out, E24.out, E23.out, E22.out, E21.out] at h
       simp only [List.append_assoc] at h
       exact h
      go_wp2
      go_roundw
      all_goals first
       | exact ⟨_, 3, by decide, rfl, by first | rfl | go_num, OF, b26, D26.out⟩
       | ((repeat apply Exists.intro); exact ⟨⟨_, 3, by decide, rfl, by first | rfl | go_num, OF, b26, D26.out⟩, rfl⟩)
       | (simp [intOf])
     ·obtain ⟨L21, l21⟩ : ∃ L, L = L20 ++ szF 3 := ⟨_, rfl⟩
      have O21 := Lib.hid (show OwR tR w.heap.size wr _ L21 by rw [l21]; exact O20.out)
      have n21 : L21.length ≤ 91 := by rw [l21, List.length_append]; have h : (szF 3).length ≤ 17 := (by decide); omega
      have E21 := Lib.hid l21
      have b21 := b20
      have z21 := z20
      have D21 := Lib.hid HD.out
      have d210 := HD.out.cell 0
      have d211 := HD.out.cell 1
      have d212 := HD.out.cell 2
      have d213 := HD.out.cell 3
      simp only [List.getElem?_toArray, List.getElem?_cons_zero, List.getElem?_cons_succ] at d210 d211 d212 d213
      clear l21 O20 b20 z20 HD
      go_upto_region 40 with (at_builtin; refine wpl_push tR rfl _ _ rfl w.heap.size _ L21 rfl (O21.out.alloc _) _ 0 1 1 [⟨121, 22, 8, false, false, -1, -1, -1, 0, 0, true⟩] rfl rfl (rangeNew (by rfl) (by rfl)) (by simp; unfold maxLen; omega) (by show _ * 80 ≤ _; simp; omega) (by simp; omega) ?_; intro v22 w22 o22 g22 _)
      have b22 := (b21.alloc z21 _).grown g22 (by simp; omega) (fun q hq => (O21.out.blk hq).1)
      have D22 := Lib.hid ((D21.out.alloc (.cells (rwa ⟨121, 22, 8, false, false, -1, -1, -1, 0, 0, true⟩) 155)).of_block (g22.block gd (by simp; have := D21.out.lt; omega) (fun e => (O21.out.alloc (.cells (rwa ⟨121, 22, 8, false, false, -1, -1, -1, 0, 0, true⟩) 155)).ne (D21.out.alloc _) (by decide) e.symm)))
      have d220 := D22.out.cell 0
      have d221 := D22.out.cell 1
      have d222 := D22.out.cell 2
      have d223 := D22.out.cell 3
      simp only [List.getElem?_toArray, List.getElem?_cons_zero, List.getElem?_cons_succ] at d220 d221 d222 d223
      clear D21 d210 d211 d212 d213
      clear g22
      obtain ⟨L22, l22⟩ : ∃ L : List Rw, L = L21 ++ ([⟨121, 22, 8, false, false, -1, -1, -1, 0, 0, true⟩] : List Rw) := ⟨_, rfl⟩
      rw [← l22] at o22
      have n22 : L22.length ≤ 92 := by rw [l22, List.length_append]; have h : (([⟨121, 22, 8, false, false, -1, -1, -1, 0, 0, true⟩] : List Rw)).length ≤ 1 := (by first | exact Nat.le_refl _ | decide); omega
      have E22 := Lib.hid l22
      have O22 := Lib.hid o22
      have z22 := b22.size
      clear l22 o22 O21 n21 b21 z21
      go_upto_region 41 with (at_builtin; refine wpl_push tR rfl _ _ rfl w.heap.size _ L22 rfl (O22.out.alloc _) _ 0 1 1 [⟨123, 24, 8, false, true, -1, -1, -1, 0, 0, false⟩] rfl rfl (rangeNew (by rfl) (by rfl)) (by simp; unfold maxLen; omega) (by show _ * 80 ≤ _; simp; omega) (by simp; omega) ?_; intro v23 w23 o23 g23 _)
      have b23 := (b22.alloc z22 _).grown g23 (by simp; omega) (fun q hq => (O22.out.blk hq).1)
      have D23 := Lib.hid ((D22.out.alloc (.cells (rwa ⟨123, 24, 8, false, true, -1, -1, -1, 0, 0, false⟩) 155)).of_block (g23.block gd (by simp; have := D22.out.lt; omega) (fun e => (O22.out.alloc (.cells (rwa ⟨123, 24, 8, false, true, -1, -1, -1, 0, 0, false⟩) 155)).ne (D22.out.alloc _) (by decide) e.symm)))
      have d230 := D23.out.cell 0
      have d231 := D23.out.cell 1
      have d232 := D23.out.cell 2
      have d233 := D23.out.cell 3
      simp only [List.getElem?_toArray, List.getElem?_cons_zero, List.getElem?_cons_succ] at d230 d231 d232 d233
      clear D22 d220 d221 d222 d223
      clear g23
      obtain ⟨L23, l23⟩ : ∃ L : List Rw, L = L22 ++ ([⟨123, 24, 8, false, true, -1, -1, -1, 0, 0, false⟩] : List Rw) := ⟨_, rfl⟩
      rw [← l23] at o23
      have n23 : L23.length ≤ 93 := by rw [l23, List.length_append]; have h : (([⟨123, 24, 8, false, true, -1, -1, -1, 0, 0, false⟩] : List Rw)).length ≤ 1 := (by first | exact Nat.le_refl _ | decide); omega
      have E23 := Lib.hid l23
      have O23 := Lib.hid o23
      have z23 := b23.size
      clear l23 o23 O22 n22 b22 z22
      go_upto_region 43 with (at_builtin; refine wpl_push tR rfl _ _ rfl w.heap.size _ L23 rfl (O23.out.alloc _) _ 0 1 1 [⟨122, 24, 8, false, false, -1, 0, -1, -1, 0, false⟩] rfl rfl (rangeNew (by rfl) (by rfl)) (by simp; unfold maxLen; omega) (by show _ * 80 ≤ _; simp; omega) (by simp; omega) ?_; intro v24 w24 o24 g24 _)
      have b24 := (b23.alloc z23 _).grown g24 (by simp; omega) (fun q hq => (O23.out.blk hq).1)
      have D24 := Lib.hid ((D23.out.alloc (.cells (rwa ⟨122, 24, 8, false, false, -1, 0, -1, -1, 0, false⟩) 155)).of_block (g24.block gd (by simp; have := D23.out.lt; omega) (fun e => (O23.out.alloc (.cells (rwa ⟨122, 24, 8, false, false, -1, 0, -1, -1, 0, false⟩) 155)).ne (D23.out.alloc _) (by decide) e.symm)))
      have d240 := D24.out.cell 0
      have d241 := D24.out.cell 1
      have d242 := D24.out.cell 2
      have d243 := D24.out.cell 3
      simp only [List.getElem?_toArray, List.getElem?_cons_zero, List.getElem?_cons_succ] at d240 d241 d242 d243
      clear D23 d230 d231 d232 d233
      clear g24
      obtain ⟨L24, l24⟩ : ∃ L : List Rw, L = L23 ++ ([⟨122, 24, 8, false, false, -1, 0, -1, -1, 0, false⟩] : List Rw) := ⟨_, rfl⟩
      rw [← l24] at o24
      have n24 : L24.length ≤ 94 := by rw [l24, List.length_append]; have h : (([⟨122, 24, 8, false, false, -1, 0, -1, -1, 0, false⟩] : List Rw)).length ≤ 1 := (by first | exact Nat.le_refl _ | decide); omega
      have E24 := Lib.hid l24
      have O24 := Lib.hid o24
      have z24 := b24.size
      clear l24 o24 O23 n23 b23 z23
      go_wp2_with (at_builtin; refine wpl_push tR rfl _ _ rfl w.heap.size _ L24 rfl (O24.out.alloc _) _ 0 1 1 [⟨219, 25, 8, false, false, -1, -1, -1, -1, 0, false⟩] rfl rfl (rangeNew (by rfl) (by rfl)) (by simp; unfold maxLen; omega) (by show _ * 80 ≤ _; simp; omega) (by simp; omega) ?_; intro v25 w25 o25 g25 _)
      have b25 := (b24.alloc z24 _).grown g25 (by simp; omega) (fun q hq => (O24.out.blk hq).1)
      have D25 := Lib.hid ((D24.out.alloc (.cells (rwa ⟨219, 25, 8, false, false, -1, -1, -1, -1, 0, false⟩) 155)).of_block (g25.block gd (by simp; have := D24.out.lt; omega) (fun e => (O24.out.alloc (.cells (rwa ⟨219, 25, 8, false, false, -1, -1, -1, -1, 0, false⟩) 155)).ne (D24.out.alloc _) (by decide) e.symm)))
      have d250 := D25.out.cell 0
      have d251 := D25.out.cell 1
      have d252 := D25.out.cell 2
      have d253 := D25.out.cell 3
      simp only [List.getElem?_toArray, List.getElem?_cons_zero, List.getElem?_cons_succ] at d250 d251 d252 d253
      clear D24 d240 d241 d242 d243
      clear g25
      obtain ⟨L25, l25⟩ : ∃ L : List Rw, L = L24 ++ ([⟨219, 25, 8, false, false, -1, -1, -1, -1, 0, false⟩] : List Rw) := ⟨_, rfl⟩
      rw [← l25] at o25
      have n25 : L25.length ≤ 95 := by rw [l25, List.length_append]; have h : (([⟨219, 25, 8, false, false, -1, -1, -1, -1, 0, false⟩] : List Rw)).length ≤ 1 := (by first | exact Nat.le_refl _ | decide); omega
      have E25 := Lib.hid l25
      have O25 := Lib.hid o25
      have z25 := b25.size
      clear l25 o25 O24 n24 b24 z24
      have OF : Hid (OwR tR w.heap.size w25 v25 (L20 ++ szF 4)) := by
       show OwR _ _ _ _ _
       have h := O25.out
       rw [E25.out, E24.out, E23.out, E22.out, E21.out] at h
       simp only [List.append_assoc] at h
       exact h
      go_wp2
      go_roundw
      all_goals first
       | exact ⟨_, 4, by decide, rfl, by first | rfl | go_num, OF, b25, D25.out⟩
       | ((repeat apply Exists.intro); exact ⟨⟨_, 4, by decide, rfl, by first | rfl | go_num, OF, b25, D25.out⟩, rfl⟩)
       | (simp [intOf])
     ·clear HD
      go_wp2
      go_meet
      exact ⟨_, rfl, O20, b20⟩
   case rest =>
    clear HO hb HD
    obtain ⟨v21, rfl, o21, b21⟩ := hcut
    have o21 := o21.out
    obtain ⟨w21, hw21⟩ : ∃ W, W = wc := ⟨_, rfl⟩
    rw [← hw21] at o21 b21 ⊢
    clear hw21
    obtain ⟨L21, l21⟩ : ∃ L, L = L20 ++ szF 4 := ⟨_, rfl⟩
    rw [← l21] at o21
    have n21 : L21.length ≤ 91 := by rw [l21, List.length_append]; have h : (szF 4).length ≤ 17 := (by decide); omega
    have E21 := Lib.hid l21
    have O21 := Lib.hid o21
    have z21 := b21.size
    clear l21 o21 n20
    go_upto_region 45 with (at_builtin; refine wpl_push tR rfl _ _ rfl w.heap.size _ L21 rfl (O21.out.alloc _) _ 0 1 1 [⟨5, 26, 0, false, false, 0, 0, -1, 0, 0, false⟩] rfl rfl (rangeNew (by rfl) (by rfl)) (by simp; unfold maxLen; omega) (by show _ * 80 ≤ _; simp; omega) (by simp; omega) ?_; intro v22 w22 o22 g22 _)
    have b22 := (b21.alloc z21 _).grown g22 (by simp; omega) (fun q hq => (O21.out.blk hq).1)
    clear g22
    obtain ⟨L22, l22⟩ : ∃ L : List Rw, L = L21 ++ ([⟨5, 26, 0, false, false, 0, 0, -1, 0, 0, false⟩] : List Rw) := ⟨_, rfl⟩
    rw [← l22] at o22
    have n22 : L22.length ≤ 92 := by rw [l22, List.length_append]; have h : (([⟨5, 26, 0, false, false, 0, 0, -1, 0, 0, false⟩] : List Rw)).length ≤ 1 := (by first | exact Nat.le_refl _ | decide); omega
    have E22 := Lib.hid l22
    have O22 := Lib.hid o22
    have z22 := b22.size
    clear l22 o22 O21 n21 b21 z21
    go_upto_region 46 with (at_builtin; refine wpl_push tR rfl _ _ rfl w.heap.size _ L22 rfl (O22.out.alloc _) _ 0 1 1 [⟨6, 26, 0, true, false, 0, 0, 0, -1, 0, false⟩] rfl rfl (rangeNew (by rfl) (by rfl)) (by simp; unfold maxLen; omega) (by show _ * 80 ≤ _; simp; omega) (by simp; omega) ?_; intro v23 w23 o23 g23 _)
    have b23 := (b22.alloc z22 _).grown g23 (by simp; omega) (fun q hq => (O22.out.blk hq).1)
    clear g23
    obtain ⟨L23, l23⟩ : ∃ L : List Rw, L = L22 ++ ([⟨6, 26, 0, true, false, 0, 0, 0, -1, 0, false⟩] : List Rw) := ⟨_, rfl⟩
    rw [← l23] at o23
    have n23 : L23.length ≤ 93 := by rw [l23, List.length_append]; have h : (([⟨6, 26, 0, true, false, 0, 0, 0, -1, 0, false⟩] : List Rw)).length ≤ 1 := (by first | exact Nat.le_refl _ | decide); omega
    have E23 := Lib.hid l23
    have O23 := Lib.hid o23
    have z23 := b23.size
    clear l23 o23 O22 n22 b22 z22
    go_wp2_with fail
    refine (jmp_ok _ w.heap.size _ L23 O23.out z23 (by omega) 27 1 (by omega) (by omega)).mono ?_
    rintro e w24 ⟨c24, v24, rfl, o24⟩
    have b24 := b23.trans c24
    clear c24
    obtain ⟨L24, l24⟩ : ∃ L : List Rw, L = L23 ++ jmpR 27 1 := ⟨_, rfl⟩
    rw [← l24] at o24
    have n24 : L24.length ≤ 97 := by rw [l24, List.length_append]; have h : (jmpR 27 1).length ≤ 4 := (by first | exact Nat.le_refl _ | decide); omega
    have E24 := Lib.hid l24
    have O24 := Lib.hid o24
    have z24 := b24.size
    clear l24 o24 O23 n23 b23 z23
    go_wp2_with fail
    refine (jmp_ok _ w.heap.size _ L24 O24.out z24 (by omega) 29 2 (by omega) (by omega)).mono ?_
    rintro e w25 ⟨c25, v25, rfl, o25⟩
    have b25 := b24.trans c25
    clear c25
    obtain ⟨L25, l25⟩ : ∃ L : List Rw, L = L24 ++ jmpR 29 2 := ⟨_, rfl⟩
    rw [← l25] at o25
    have n25 : L25.length ≤ 101 := by rw [l25, List.length_append]; have h : (jmpR 29 2).length ≤ 4 := (by first | exact Nat.le_refl _ | decide); omega
    have E25 := Lib.hid l25
    have O25 := Lib.hid o25
    have z25 := b25.size
    clear l25 o25 O24 n24 b24 z24
    go_wp2_with fail
    refine (jmp_ok _ w.heap.size _ L25 O25.out z25 (by omega) 30 3 (by omega) (by omega)).mono ?_
    rintro e w26 ⟨c26, v26, rfl, o26⟩
    have b26 := b25.trans c26
    clear c26
    obtain ⟨L26, l26⟩ : ∃ L : List Rw, L = L25 ++ jmpR 30 3 := ⟨_, rfl⟩
    rw [← l26] at o26
    have n26 : L26.length ≤ 105 := by rw [l26, List.length_append]; have h : (jmpR 30 3).length ≤ 4 := (by first | exact Nat.le_refl _ | decide); omega
    have E26 := Lib.hid l26
    have O26 := Lib.hid o26
    have z26 := b26.size
    clear l26 o26 O25 n25 b25 z25
    go_wp2_with fail
    refine (jmp_ok _ w.heap.size _ L26 O26.out z26 (by omega) 37 4 (by omega) (by omega)).mono ?_
    rintro e w27 ⟨c27, v27, rfl, o27⟩
    have b27 := b26.trans c27
    clear c27
    obtain ⟨L27, l27⟩ : ∃ L : List Rw, L = L26 ++ jmpR 37 4 := ⟨_, rfl⟩
    rw [← l27] at o27
    have n27 : L27.length ≤ 109 := by rw [l27, List.length_append]; have h : (jmpR 37 4).length ≤ 4 := (by first | exact Nat.le_refl _ | decide); omega
    have E27 := Lib.hid l27
    have O27 := Lib.hid o27
    have z27 := b27.size
    clear l27 o27 O26 n26 b26 z26
    go_wp2_with fail
    refine (jmp_ok _ w.heap.size _ L27 O27.out z27 (by omega) 28 5 (by omega) (by omega)).mono ?_
    rintro e w28 ⟨c28, v28, rfl, o28⟩
    have b28 := b27.trans c28
    clear c28
    obtain ⟨L28, l28⟩ : ∃ L : List Rw, L = L27 ++ jmpR 28 5 := ⟨_, rfl⟩
    rw [← l28] at o28
    have n28 : L28.length ≤ 113 := by rw [l28, List.length_append]; have h : (jmpR 28 5).length ≤ 4 := (by first | exact Nat.le_refl _ | decide); omega
    have E28 := Lib.hid l28
    have O28 := Lib.hid o28
    have z28 := b28.size
    clear l28 o28 O27 n27 b27 z27
    go_wp2_with fail
    refine (jmp_ok _ w.heap.size _ L28 O28.out z28 (by omega) 33 6 (by omega) (by omega)).mono ?_
    rintro e w29 ⟨c29, v29, rfl, o29⟩
    have b29 := b28.trans c29
    clear c29
    obtain ⟨L29, l29⟩ : ∃ L : List Rw, L = L28 ++ jmpR 33 6 := ⟨_, rfl⟩
    rw [← l29] at o29
    have n29 : L29.length ≤ 117 := by rw [l29, List.length_append]; have h : (jmpR 33 6).length ≤ 4 := (by first | exact Nat.le_refl _ | decide); omega
    have E29 := Lib.hid l29
    have O29 := Lib.hid o29
    have z29 := b29.size
    clear l29 o29 O28 n28 b28 z28
    go_wp2_with fail
    refine (jmp_ok _ w.heap.size _ L29 O29.out z29 (by omega) 34 7 (by omega) (by omega)).mono ?_
    rintro e w30 ⟨c30, v30, rfl, o30⟩
    have b30 := b29.trans c30
    clear c30
    obtain ⟨L30, l30⟩ : ∃ L : List Rw, L = L29 ++ jmpR 34 7 := ⟨_, rfl⟩
    rw [← l30] at o30
    have n30 : L30.length ≤ 121 := by rw [l30, List.length_append]; have h : (jmpR 34 7).length ≤ 4 := (by first | exact Nat.le_refl _ | decide); omega
    have E30 := Lib.hid l30
    have O30 := Lib.hid o30
    have z30 := b30.size
    clear l30 o30 O29 n29 b29 z29
    go_wp2_with fail
    refine (jmp_ok _ w.heap.size _ L30 O30.out z30 (by omega) 31 10 (by omega) (by omega)).mono ?_
    rintro e w31 ⟨c31, v31, rfl, o31⟩
    have b31 := b30.trans c31
    clear c31
    obtain ⟨L31, l31⟩ : ∃ L : List Rw, L = L30 ++ jmpR 31 10 := ⟨_, rfl⟩
    rw [← l31] at o31
    have n31 : L31.length ≤ 125 := by rw [l31, List.length_append]; have h : (jmpR 31 10).length ≤ 4 := (by first | exact Nat.le_refl _ | decide); omega
    have E31 := Lib.hid l31
    have O31 := Lib.hid o31
    have z31 := b31.size
    clear l31 o31 O30 n30 b30 z30
    go_wp2_with fail
    refine (jmp_ok _ w.heap.size _ L31 O31.out z31 (by omega) 32 11 (by omega) (by omega)).mono ?_
    rintro e w32 ⟨c32, v32, rfl, o32⟩
    have b32 := b31.trans c32
    clear c32
    obtain ⟨L32, l32⟩ : ∃ L : List Rw, L = L31 ++ jmpR 32 11 := ⟨_, rfl⟩
    rw [← l32] at o32
    have n32 : L32.length ≤ 129 := by rw [l32, List.length_append]; have h : (jmpR 32 11).length ≤ 4 := (by first | exact Nat.le_refl _ | decide); omega
    have E32 := Lib.hid l32
    have O32 := Lib.hid o32
    have z32 := b32.size
    clear l32 o32 O31 n31 b31 z31
    go_wp2_with fail
    refine (jmp_ok _ w.heap.size _ L32 O32.out z32 (by omega) 35 12 (by omega) (by omega)).mono ?_
    rintro e w33 ⟨c33, v33, rfl, o33⟩
    have b33 := b32.trans c33
    clear c33
    obtain ⟨L33, l33⟩ : ∃ L : List Rw, L = L32 ++ jmpR 35 12 := ⟨_, rfl⟩
    rw [← l33] at o33
    have n33 : L33.length ≤ 133 := by rw [l33, List.length_append]; have h : (jmpR 35 12).length ≤ 4 := (by first | exact Nat.le_refl _ | decide); omega
    have E33 := Lib.hid l33
    have O33 := Lib.hid o33
    have z33 := b33.size
    clear l33 o33 O32 n32 b32 z32
    go_wp2_with fail
    refine (jmp_ok _ w.heap.size _ L33 O33.out z33 (by omega) 36 13 (by omega) (by omega)).mono ?_
    rintro e w34 ⟨c34, v34, rfl, o34⟩
    have b34 := b33.trans c34
    clear c34
    obtain ⟨L34, l34⟩ : ∃ L : List Rw, L = L33 ++ jmpR 36 13 := ⟨_, rfl⟩
    rw [← l34] at o34
    have n34 : L34.length ≤ 137 := by rw [l34, List.length_append]; have h : (jmpR 36 13).length ≤ 4 := (by first | exact Nat.le_refl _ | decide); omega
    have E34 := Lib.hid l34
    have O34 := Lib.hid o34
    have z34 := b34.size
    clear l34 o34 O33 n33 b33 z33
    go_upto_region 57 with (fail)
    go_upto_region 58 with (at_builtin; refine wpl_push tR rfl _ _ rfl w.heap.size _ L34 rfl (O34.out.alloc _) _ 0 1 1 [⟨133, 38, 0, false, false, 0, 0, 0, -1, 0, false⟩] rfl rfl (rangeNew (by rfl) (by rfl)) (by simp; unfold maxLen; omega) (by show _ * 80 ≤ _; simp; omega) (by simp; omega) ?_; intro v35 w35 o35 g35 _)
    have b35 := (b34.alloc z34 _).grown g35 (by simp; omega) (fun q hq => (O34.out.blk hq).1)
    clear g35
    obtain ⟨L35, l35⟩ : ∃ L : List Rw, L = L34 ++ ([⟨133, 38, 0, false, false, 0, 0, 0, -1, 0, false⟩] : List Rw) := ⟨_, rfl⟩
    rw [← l35] at o35
    have n35 : L35.length ≤ 138 := by rw [l35, List.length_append]; have h : (([⟨133, 38, 0, false, false, 0, 0, 0, -1, 0, false⟩] : List Rw)).length ≤ 1 := (by first | exact Nat.le_refl _ | decide); omega
    have E35 := Lib.hid l35
    have O35 := Lib.hid o35
    have z35 := b35.size
    clear l35 o35 O34 n34 b34 z34
    go_wp2_with (at_builtin; refine wpl_push tR rfl _ _ rfl w.heap.size _ L35 rfl (O35.out.alloc _) _ 0 1 1 [⟨149, 39, 0, false, false, 0, 0, 0, 0, 0, false⟩] rfl rfl (rangeNew (by rfl) (by rfl)) (by simp; unfold maxLen; omega) (by show _ * 80 ≤ _; simp; omega) (by simp; omega) ?_; intro v36 w36 o36 g36 _)
    have b36 := (b35.alloc z35 _).grown g36 (by simp; omega) (fun q hq => (O35.out.blk hq).1)
    clear g36
    obtain ⟨L36, l36⟩ : ∃ L : List Rw, L = L35 ++ ([⟨149, 39, 0, false, false, 0, 0, 0, 0, 0, false⟩] : List Rw) := ⟨_, rfl⟩
    rw [← l36] at o36
    have n36 : L36.length ≤ 139 := by rw [l36, List.length_append]; have h : (([⟨149, 39, 0, false, false, 0, 0, 0, 0, 0, false⟩] : List Rw)).length ≤ 1 := (by first | exact Nat.le_refl _ | decide); omega
    have E36 := Lib.hid l36
    have O36 := Lib.hid o36
    have z36 := b36.size
    clear l36 o36 O35 n35 b35 z35
    go_wp2
    go_ret
    refine ⟨b36, _, rfl, ?_⟩
    have e : L36 = rows := by
     rw [E36.out, E35.out, E34.out, E33.out, E32.out, E31.out, E30.out, E29.out, E28.out, E27.out, E26.out, E25.out, E24.out, E23.out, E22.out, E21.out, E20.out, E19.out, E18.out, E17.out, E16.out, E15.out, E14.out, E13.out, E12.out, E11.out, E10.out, E9.out, E8.out, E7.out, E6.out, E5.out, E4.out, E3.out, E2.out, E1.out, E0.out]
     decide +kernel
    rw [← e]
    exact O36.out
end Go.Proofs.Ytndnfjcfpcfakaa
namespace Go.Proofs.Ytndnfjcfpcfakaa
open Go Go.RowKit Go.Wr Go.Fl
set_option maxHeartbeats 4000000
set_option maxRecDepth 100000
theorem rcheck_ok (w : World) (p : Nat) (v : Value) (l : List In) (h : SlX tN p w v l) :
  Calls Try.prog 48 #[v] w fun e w' => e = .returned (.tuple #[.int .i64 (chk 0 l).1, .int .i64 (chk 0 l).2]) ∧ Below w.heap.size w w' := by
 obtain ⟨r, hr⟩ : ∃ r, r = chk 0 l := ⟨_, rfl⟩
 rw [← hr]
 have HR := Lib.hid hr
 obtain ⟨a0, cap, rfl, h1, h2⟩ := h.form
 have H := Lib.hid h
 unfold maxLen at h2
 clear hr h
 go_enter Try.func48, Try.ntmps48
 go_wp2_with fail
 refine (rows_ok _).mono ?_
 rintro e w1 ⟨b1, vr, rfl, orr⟩
 obtain ⟨q, hq⟩ : ∃ q, vr.ownBlock ≠ some q := by
  cases hv : vr.ownBlock with
  | none => exact ⟨0, by simp⟩
  | some g => exact ⟨g + 1, by simp⟩
 have HV := Lib.hid (orr.sl hq)
 have H1 := Lib.hid (H.out.below b1)
 clear orr hq H
 go_wp2
 go_loopw [5] (fun t wr => ∃ k : Nat, k ≤ l.length ∧ t = .int .i64 (k : Int) ∧ Hid (r = chk k (l.drop k)) ∧ Below w1.heap.size w1 wr) (fun t _ => l.length - (intOf t).toNat)
 case atStart => exact ⟨0, by omega, rfl, HR.out, bRefl w1⟩
 case round =>
  clear HR
  obtain ⟨k, hk, rfl, hq, hb⟩ := hrel
  have htot := bThen b1 hb
  by_cases hlt : k < l.length
  ·have hlt' : (k : Int) < (l.length : Int) := by omega
   obtain ⟨x, hx⟩ : ∃ x, l[k]? = some x := ⟨_, List.getElem?_eq_getElem hlt⟩
   have hd : l.drop k = x :: l.drop (k + 1) := by
    rw [List.drop_eq_getElem_cons hlt]
    rw [List.getElem?_eq_getElem hlt] at hx
    injection hx with hx
    rw [hx]
   have hq2 := hq.out
   rw [hd, chk_cons] at hq2
   obtain ⟨bb, off, rfl, hne, hat⟩ := (H1.out.below hb).get hx
   obtain ⟨c0, c1, c2, c3, c4, c5, c6, c7⟩ := at_ins hat
   have e8 : tN.n = 8 := rfl
   rw [e8] at c0 c1 c2 c3 c4 c5 c6 c7
   have HVk := Lib.hid (HV.out.below hb)
   clear hq hd hx hat e8
   have HQ := Lib.hid hq2
   clear hq2
   by_cases h4 : k = 4096
   ·have e1 : Hid (r = (k, 25)) := by show _ = _; rw [HQ.out, if_pos h4]
    subst h4
    clear HQ
    go_wp2
    go_ret2
    exact ⟨retT (by rw [e1.out]) (by rw [e1.out]), htot⟩
   ·have HQ2 := Lib.hid (HQ.out.trans (if_neg h4))
    have h4' : ((k : Int) == 4096) = false := by simp; omega
    clear HQ h4
    go_wp2_with fail
    refine (right2_ok _ q _ x HVk.out).mono ?_
    rintro e w2 ⟨rfl, b2⟩
    rw [right_eq]
    have t2 := bThen htot b2
    have t3 := bThen hb b2
    clear b2
    by_cases hr0 : right x = 0
    ·have e1 : Hid (r = chk (k + 1) (l.drop (k + 1))) := by show _ = _; rw [HQ2.out, if_pos hr0]
     rw [hr0]
     clear HQ2 hr0 hb
     go_wp2
     go_roundw
     all_goals first
      | exact ⟨k + 1, by omega, by go_num, e1, t3⟩
      | ((repeat apply Exists.intro); exact ⟨⟨k + 1, by omega, by go_num, e1, t3⟩, rfl⟩)
      | (simp [intOf]; omega)
    ·have e1 : Hid (r = (k, right x)) := by show _ = _; rw [HQ2.out, if_neg hr0]
     have hr0' : (right x != 0) = true := by simpa using hr0
     generalize right x = qq at *
     clear HQ2 hr0 hb
     go_wp2
     go_ret2
     exact ⟨retT (by rw [e1.out]) (by rw [e1.out]), t2⟩
  ·obtain rfl : k = l.length := by omega
   have e1 : Hid (r = (0, 0)) := by show _ = _; rw [hq.out, List.drop_length]; rfl
   clear hlt hq
   go_wp2
   go_ret2
   exact ⟨retT (by rw [e1.out]; rfl) (by rw [e1.out]), htot⟩
end Go.Proofs.Ytndnfjcfpcfakaa
namespace Go.Proofs.Ytndnfjcfpcfakaa
open Go Go.RowKit Go.Wr Go.Fl
set_option maxHeartbeats 4000000
set_option maxRecDepth 100000
theorem runits_ok (w : World) (p : Nat) (v : Value) (l : List In) (h : SlX tN p w v l) (hl : l.length ≤ 1099511627776) :
  Calls Try.prog 49 #[v] w fun e w' => Below w.heap.size w w' ∧ ∃ g c, e = .returned (.slice (some ⟨g, 0, none⟩) (l.length + 1) c) ∧ OwR tI w.heap.size w' (.slice (some ⟨g, 0, none⟩) (l.length + 1) c) (unitsI l l.length) := by
 obtain ⟨a0, cap, rfl, h1, h2⟩ := h.form
 have H := Lib.hid h
 unfold maxLen at h2
 have HU0 := Lib.hid (show OwR tI w.heap.size (w.alloc (.cells #[.int .i64 0] 3)) (.slice (some ⟨w.heap.size, 0, none⟩) 1 1) (unitsI l 0) from OwR.new rfl rfl (by unfold maxLen; simp [unitsI]))
 clear h
 go_enter Try.func49, Try.ntmps49
 go_wp2
 go_loopw [3, 4, 5] (fun t4 t3 t wr => ∃ k g c : Nat, k ≤ l.length ∧ t3 = .slice (some ⟨g, 0, none⟩) (k + 1) c ∧ t4 = .int .i64 ((unit l k : Nat) : Int) ∧ t = .int .i64 (k : Int) ∧ Hid (OwR tI w.heap.size wr (.slice (some ⟨g, 0, none⟩) (k + 1) c) (unitsI l k)) ∧ Below w.heap.size w wr) (fun _ _ t _ => l.length - (intOf t).toNat)
 case atStart => exact ⟨0, w.heap.size, 1, by omega, rfl, rfl, rfl, HU0.out, bAl (bRefl w) _⟩
 case round =>
  clear HU0
  obtain ⟨k, g, c, hk, rfl, rfl, rfl, ho, hb⟩ := hrel
  by_cases hlt : k < l.length
  ·have hlt' : (k : Int) < (l.length : Int) := by omega
   obtain ⟨x, hx⟩ : ∃ x, l[k]? = some x := ⟨_, List.getElem?_eq_getElem hlt⟩
   have hu := unit_le (l := l) (i := k) hk
   have hs := unit_succ hx
   have hUS := unitsI_succ l k
   rw [hs] at hUS
   have HUS := Lib.hid hUS
   have hsz := hb.size
   obtain ⟨bb, off, rfl, hne, hat⟩ := (H.out.below hb).get hx
   obtain ⟨c0, c1, c2, c3, c4, c5, c6, c7⟩ := at_ins hat
   have e8 : tN.n = 8 := rfl
   rw [e8] at c0 c1 c2 c3 c4 c5 c6 c7
   have hw : wd x = if x.op = 20 ∨ x.op = 21 then 2 else 1 := rfl
   generalize hun : unit l k = u at *
   have HS := Lib.hid hs
   clear hs hun hUS hx hat e8
   by_cases w1 : x.op = 20
   ·have n1 : (x.op == 20) = true := by simp [w1]
    have HWD := Lib.hid (show wd x = 2 by rw [hw, if_pos (Or.inl w1)])
    clear hw w1
    go_wp2_with (at_builtin; refine wpl_push tI rfl _ _ rfl w.heap.size _ (unitsI l k) rfl (ho.out.alloc _) _ 0 1 1 [((u : Int) + 1 + 1)] rfl rfl (rangeNew (by rfl) (by rfl)) (by rw [unitsI_len]; unfold maxLen; simp; omega) (by rw [unitsI_len]; show _ * 8 ≤ _; simp; omega) (by simp; omega) ?_; intro v' w9 hown hgrow hform)
    obtain ⟨g', c', rfl, _⟩ := hform (by simp)
    rw [unitsI_len] at hown ⊢
    have b9 : Below w.heap.size w w9 := (hb.alloc hsz _).grown hgrow (by simp; omega) (fun q hq => by injection hq with hq; rw [← hq]; exact (ho.out.blk rfl).1)
    have ev : ((u : Int) + 1 + 1 : Int) = ((unit l (k + 1) : Nat) : Int) := by rw [HS.out, HWD.out]; omega
    have ho9 : Hid (OwR tI w.heap.size w9 (.slice (some ⟨g', 0, none⟩) (k + 1 + 1) c') (unitsI l (k + 1))) := by
     show OwR _ _ _ _ _
     rw [HUS.out, HWD.out]
     exact hown
    rw [ev]
    exact ⟨⟨k + 1, g', c', by omega, rfl, rfl, by go_num, ho9, b9⟩, by simp [intOf]; omega⟩
   ·have n1 : (x.op == 20) = false := by simpa using w1
    by_cases w2 : x.op = 21
    ·have n2 : (x.op == 21) = true := by simp [w2]
     have HWD := Lib.hid (show wd x = 2 by rw [hw, if_pos (Or.inr w2)])
     clear hw w1 w2
     go_wp2_with (at_builtin; refine wpl_push tI rfl _ _ rfl w.heap.size _ (unitsI l k) rfl (ho.out.alloc _) _ 0 1 1 [((u : Int) + 1 + 1)] rfl rfl (rangeNew (by rfl) (by rfl)) (by rw [unitsI_len]; unfold maxLen; simp; omega) (by rw [unitsI_len]; show _ * 8 ≤ _; simp; omega) (by simp; omega) ?_; intro v' w9 hown hgrow hform)
     obtain ⟨g', c', rfl, _⟩ := hform (by simp)
     rw [unitsI_len] at hown ⊢
     have b9 : Below w.heap.size w w9 := (hb.alloc hsz _).grown hgrow (by simp; omega) (fun q hq => by injection hq with hq; rw [← hq]; exact (ho.out.blk rfl).1)
     have ev : ((u : Int) + 1 + 1 : Int) = ((unit l (k + 1) : Nat) : Int) := by rw [HS.out, HWD.out]; omega
     have ho9 : Hid (OwR tI w.heap.size w9 (.slice (some ⟨g', 0, none⟩) (k + 1 + 1) c') (unitsI l (k + 1))) := by
      show OwR _ _ _ _ _
      rw [HUS.out, HWD.out]
      exact hown
     rw [ev]
     exact ⟨⟨k + 1, g', c', by omega, rfl, rfl, by go_num, ho9, b9⟩, by simp [intOf]; omega⟩
    ·have n2 : (x.op == 21) = false := by simpa using w2
     have HWD := Lib.hid (show wd x = 1 by rw [hw, if_neg (fun h => h.elim w1 w2)])
     clear hw w1 w2
     go_wp2_with (at_builtin; refine wpl_push tI rfl _ _ rfl w.heap.size _ (unitsI l k) rfl (ho.out.alloc _) _ 0 1 1 [((u : Int) + 1)] rfl rfl (rangeNew (by rfl) (by rfl)) (by rw [unitsI_len]; unfold maxLen; simp; omega) (by rw [unitsI_len]; show _ * 8 ≤ _; simp; omega) (by simp; omega) ?_; intro v' w9 hown hgrow hform)
     obtain ⟨g', c', rfl, _⟩ := hform (by simp)
     rw [unitsI_len] at hown ⊢
     have b9 : Below w.heap.size w w9 := (hb.alloc hsz _).grown hgrow (by simp; omega) (fun q hq => by injection hq with hq; rw [← hq]; exact (ho.out.blk rfl).1)
     have ev : ((u : Int) + 1 : Int) = ((unit l (k + 1) : Nat) : Int) := by rw [HS.out, HWD.out]; omega
     have ho9 : Hid (OwR tI w.heap.size w9 (.slice (some ⟨g', 0, none⟩) (k + 1 + 1) c') (unitsI l (k + 1))) := by
      show OwR _ _ _ _ _
      rw [HUS.out, HWD.out]
      exact hown
     rw [ev]
     exact ⟨⟨k + 1, g', c', by omega, rfl, rfl, by go_num, ho9, b9⟩, by simp [intOf]; omega⟩
  ·obtain rfl : k = l.length := by omega
   clear hlt
   go_wp2
   go_ret
   exact ⟨hb, g, c, rfl, ho.out⟩
end Go.Proofs.Ytndnfjcfpcfakaa
