/- Span, Tag, Dead of a shape; the law's tag; nothing that was there is turned. -/
import Derived.Test.YtlcmfpfmjkpfoaaSFrom
import Derived.Test.YtlcmfpfmjkpfoaaSBound
import Derived.RegionTactic
import Derived.Deep.RegionHeld3
import Derived.IntWalk
import Derived.Deep.QuietTactic
import Derived.BigQuiet
namespace Go.Proofs.Ytlcmfpfmjkpfoaa
open Go Go.RowKit Go.Wr
set_option maxHeartbeats 2000000
set_option maxRecDepth 100000

theorem ltag_any (w : World) (k t m : Int) : Calls Try.prog 6 #[.int .i64 k, .int .i64 t, .int .i64 m] w fun e w' => e = .returned (.agg #[.int .i64 k, .int .i64 t, .int .i64 m]) ∧ Below w.heap.size w w' := by
  go_enter Try.func6, Try.ntmps6
  go_wp2
  exact ret_cell Try.results6 rfl (Blk.new _ _ _) rowTag rfl ⟨rfl, bAl (bRefl w) _⟩

theorem rowSpan : RowTy Try.prog 44 4 := ⟨_, Try.underlying44, rfl, by kernel_rfl⟩
theorem full_any (w : World) : Calls Try.prog 22 #[] w fun e w' => e = .returned (.agg #[.int .i64 0, .int .i64 0, .bool true, .bool true]) ∧ Below w.heap.size w w' := by
  go_enter Try.func22, Try.ntmps22
  go_wp2
  exact ret_cell Try.results22 rfl (Blk.new _ _ _) rowSpan rfl ⟨rfl, bAl (bRefl w) _⟩

theorem isdead_any (w : World) (b : Nat) (f : Nat → Tg) (d : Bool) (z : Zn) (h : ShAt w b f d z) : Calls Try.prog 13 #[.pointer (some ⟨b, 0, none⟩)] w fun e w' => e = .returned (.bool d) ∧ w = w' := by
  obtain ⟨p, hb, _⟩ := h
  have e := (hb.cell 127).trans (bx_last _ _ _)
  have hl := hb.lt
  clear hb
  go_enter Try.func13, Try.ntmps13
  go_wp2
  go_ret
  exact ⟨rfl, rfl⟩

theorem stag_any (w : World) (b : Nat) (f : Nat → Tg) (d : Bool) (z : Zn) (h : ShAt w b f d z) (v : Int) : Calls Try.prog 11 #[.pointer (some ⟨b, 0, none⟩), .int .i64 v] w fun e w' => e = .returned (.agg (tgv (tagOf f v))) ∧ Below w.heap.size w w' := by
  obtain ⟨p, hb, _⟩ := h
  have HB := Lib.hid hb
  have hl := hb.lt
  clear hb
  go_enter Try.func11, Try.ntmps11
  go_wp2_with (refine wpl_load rfl 51 (.tmp 7) rfl b 1 rfl (Blk.alloc HB.out _) rowTags (by rw [bx_size]; omega) (D := gc f) (bx_mid _ _ _) ?_)
  refine (tag_any _ f v).mono ?_
  rintro e w1 ⟨rfl, b1⟩
  have RB := (Blk.new w 23 #[.int .i64 0, .int .i64 0, .int .i64 0]).below b1 (Blk.lt (Blk.new _ _ _))
  go_wp2_with (refine wpl_store rfl 23 (.tmp 4) (.tmp 10) rfl w.heap.size 0 rfl (D := tgv (tagOf f v)) rfl RB rowTag rfl (Nat.le_refl _) (by simp [tgv, Value.oneCell']) ?_; intro w6 ho6 hb6)
  exact ret_cell Try.results11 rfl (hb6.eq (spl_all _ _ rfl)) rowTag rfl ⟨rfl, (bThen (bAl (bRefl w) _) b1).trans (ho6.below (Nat.le_refl _))⟩

theorem span_both (w : World) (b : Nat) (f : Nat → Tg) (d : Bool) (z : Zn) (h : ShAt w b f d z) (v c1 c2 : Int) (h1 : bndZ z 0 v = (true, c1)) (h2 : bndZ z v 0 = (true, c2)) (hc : -1152921504606846976 ≤ c1) (hc' : c1 ≤ 1152921504606846976) :
    Calls Try.prog 9 #[.pointer (some ⟨b, 0, none⟩), .int .i64 v] w fun e w' => e = .returned (.agg #[.int .i64 (-c1), .int .i64 c2, .bool false, .bool false]) ∧ Below w.heap.size w w' := by
  obtain ⟨p, hb, hz⟩ := h
  have H1 := Lib.hid h1
  have H2 := Lib.hid h2
  have HB := Lib.hid hb
  have HZ := Lib.hid hz
  have hl := hb.lt
  have wn : IntKind.i64.wrap (-c1) = -c1 := IntWalk.i64_in _ (by omega)
  clear hb hz h1 h2
  go_enter Try.func9, Try.ntmps9
  go_wp2_with fail
  refine (full_any _).mono ?_
  rintro e w1 ⟨rfl, b1⟩
  have B1 := Lib.hid ((HB.out.alloc _).below b1 (HB.out.alloc _).lt)
  have Z1 := Lib.hid (ZAt.below (Blk.alloc HZ.out _) b1 (Blk.alloc HZ.out _).lt)
  have R1 := Lib.hid ((Blk.new w 44 #[.int .i64 0, .int .i64 0, .bool false, .bool false]).below b1 (Blk.lt (Blk.new _ _ _)))
  have t1 := bThen (bAl (bRefl w) _) b1
  have e0 : w1.cell? ⟨b, 0, none⟩ = some (.pointer (some ⟨p, 0, none⟩)) := (B1.out.cell 0).trans (bx_zero _ _ _)
  have hl1 := B1.out.lt
  clear b1
  go_wp2_with fail
  refine (bound_any _ p z (Blk.alloc Z1.out _) 0 v).mono ?_
  rintro e w2 ⟨rfl, b2⟩
  rw [H1.out]
  have t2 := bThen (bAl t1 _) b2
  have B2 := Lib.hid ((B1.out.alloc _).below b2 (B1.out.alloc _).lt)
  have Z2 := Lib.hid (ZAt.below (Blk.alloc Z1.out _) b2 (Blk.alloc Z1.out _).lt)
  have R2 := Lib.hid ((R1.out.alloc _).below b2 (R1.out.alloc _).lt)
  have S2 := (Blk.new w1 44 #[.int .i64 0, .int .i64 0, .bool true, .bool true]).below b2 (Blk.lt (Blk.new _ _ _))
  have hne : w1.heap.size ≠ w2.heap.size := by have := S2.lt; omega
  have hzp := Z1.out.lt
  have hrl := R1.out.lt
  have hpz : p ≠ w1.heap.size := by omega
  have hbz : b ≠ w1.heap.size := by omega
  have hwz : w.heap.size ≠ w1.heap.size := by omega
  have s1 : w.heap.size ≤ w1.heap.size := t1.size
  clear e0 b2
  go_upto_region 4 with (fail)
  generalize hA : (w2.alloc (.cells #[.bool true, .int .i64 c1] 47)) = wA
  have tA : Below w.heap.size w wA := by rw [← hA]; exact bAl t2 _
  have BA := Lib.hid (B2.out.alloc (.cells #[.bool true, .int .i64 c1] 47))
  have RA := Lib.hid (R2.out.alloc (.cells #[.bool true, .int .i64 c1] 47))
  have ZA : Hid (ZAt wA p z) := by rw [← hA]; exact Blk.alloc Z2.out _
  have SA := S2.alloc (.cells #[.bool true, .int .i64 c1] 47)
  have UA := Blk.new w2 47 #[.bool true, .int .i64 c1]
  rw [hA] at BA RA SA UA
  obtain ⟨n, hn⟩ : ∃ n, n = w2.heap.size := ⟨_, rfl⟩
  rw [← hn] at UA hne ⊢
  have u1 : wA.cell? ⟨n, 1, none⟩ = some (.int .i64 c1) := UA.cell 1
  have s0 : wA.cell? ⟨w1.heap.size, 0, none⟩ = some (.int .i64 0) := SA.cell 0
  have s2 : wA.cell? ⟨w1.heap.size, 2, none⟩ = some (.bool true) := SA.cell 2
  have g0 := SA.frozen 0
  have g2 := SA.frozen 2
  have HS := Lib.hid SA
  have hne' : n ≠ w1.heap.size := Ne.symm hne
  clear hA hn SA UA S2 t2 B2 R2 Z2
  go_region_held3 (fun w' => w'.cell? ⟨n, 1, none⟩ = some (.int .i64 c1)) (go_keep) (fail)
  have hE : ∀ E, E = ((wA.setCell ⟨w1.heap.size, 2, none⟩ (.bool false)).setCell ⟨w1.heap.size, 0, none⟩ (.int .i64 (-c1))).drew →
      Blk E b 53 (bx (.pointer (some ⟨p, 0, none⟩)) f (.bool d)) ∧ Blk E w.heap.size 44 #[.int .i64 0, .int .i64 0, .bool false, .bool false] ∧ ZAt E p z ∧ Blk E w1.heap.size 44 #[.int .i64 (-c1), .int .i64 0, .bool false, .bool true] ∧ Below w.heap.size w E := fun E e => by
    subst e
    exact ⟨Blk.drew (Blk.set_other (Blk.set_other BA.out _ _ _ hbz) _ _ _ hbz), Blk.drew (Blk.set_other (Blk.set_other RA.out _ _ _ hwz) _ _ _ hwz), Blk.drew (Blk.set_other (Blk.set_other ZA.out _ _ _ hpz) _ _ _ hpz),
      Blk.drew (Blk.set (Blk.set HS.out 2 (.bool false)) 0 (.int .i64 (-c1))), ((tA.setCell (p := ⟨w1.heap.size, 2, none⟩) s1 (.bool false)).setCell (p := ⟨w1.heap.size, 0, none⟩) s1 (.int .i64 (-c1))).drew⟩
  have HE := Lib.hid hE
  clear s0 s2 g0 g2 HS ZA RA BA tA u1 hE
  generalize hw3 : ((wA.setCell ⟨w1.heap.size, 2, none⟩ (.bool false)).setCell ⟨w1.heap.size, 0, none⟩ (.int .i64 (-c1))).drew = w3
  obtain ⟨b3, r3, z3, S3, t3⟩ := HE.out w3 hw3.symm
  have B3 := Lib.hid b3
  have R3 := Lib.hid r3
  have Z3 := Lib.hid z3
  clear hw3 HE b3 r3 z3
  have e0 : w3.cell? ⟨b, 0, none⟩ = some (.pointer (some ⟨p, 0, none⟩)) := (B3.out.cell 0).trans (bx_zero _ _ _)
  have hl3 := B3.out.lt
  go_wp2_with fail
  refine (bound_any _ p z Z3.out v 0).mono ?_
  rintro e w4 ⟨rfl, b4⟩
  rw [H2.out]
  have t4 := bThen t3 b4
  have R4 := Lib.hid (R3.out.below b4 R3.out.lt)
  have S4 := S3.below b4 S3.lt
  clear e0 b4 S3 R3 hne hne' hrl hzp hl3
  have hne : w1.heap.size ≠ w4.heap.size := by have := S4.lt; omega
  go_upto_region 7 with (fail)
  generalize hA : (w4.alloc (.cells #[.bool true, .int .i64 c2] 47)) = wB
  have tA : Below w.heap.size w wB := by rw [← hA]; exact bAl t4 _
  have RA := Lib.hid (R4.out.alloc (.cells #[.bool true, .int .i64 c2] 47))
  have SA := S4.alloc (.cells #[.bool true, .int .i64 c2] 47)
  have UA := Blk.new w4 47 #[.bool true, .int .i64 c2]
  rw [hA] at RA SA UA
  obtain ⟨m, hm⟩ : ∃ m, m = w4.heap.size := ⟨_, rfl⟩
  rw [← hm] at UA hne ⊢
  have u1 : wB.cell? ⟨m, 1, none⟩ = some (.int .i64 c2) := UA.cell 1
  have s1' : wB.cell? ⟨w1.heap.size, 1, none⟩ = some (.int .i64 0) := SA.cell 1
  have s3 : wB.cell? ⟨w1.heap.size, 3, none⟩ = some (.bool true) := SA.cell 3
  have g1 := SA.frozen 1
  have g3 := SA.frozen 3
  have HS := Lib.hid SA
  have hne' : m ≠ w1.heap.size := Ne.symm hne
  clear hA hm SA UA S4 t4 R4
  go_region_held3 (fun w' => w'.cell? ⟨m, 1, none⟩ = some (.int .i64 c2)) (go_keep) (fail)
  have hE : ∀ E, E = ((wB.setCell ⟨w1.heap.size, 3, none⟩ (.bool false)).setCell ⟨w1.heap.size, 1, none⟩ (.int .i64 c2)).drew →
      Blk E w.heap.size 44 #[.int .i64 0, .int .i64 0, .bool false, .bool false] ∧ Blk E w1.heap.size 44 #[.int .i64 (-c1), .int .i64 c2, .bool false, .bool false] ∧ Below w.heap.size w E := fun E e => by
    subst e
    exact ⟨Blk.drew (Blk.set_other (Blk.set_other RA.out _ _ _ hwz) _ _ _ hwz),
      Blk.drew (Blk.set (Blk.set HS.out 3 (.bool false)) 1 (.int .i64 c2)), ((tA.setCell (p := ⟨w1.heap.size, 3, none⟩) s1 (.bool false)).setCell (p := ⟨w1.heap.size, 1, none⟩) s1 (.int .i64 c2)).drew⟩
  have HE := Lib.hid hE
  clear s1' s3 g1 g3 HS RA tA u1 hE
  generalize hw5 : ((wB.setCell ⟨w1.heap.size, 3, none⟩ (.bool false)).setCell ⟨w1.heap.size, 1, none⟩ (.int .i64 c2)).drew = w5
  obtain ⟨r5, S6, t5⟩ := HE.out w5 hw5.symm
  clear hw5 HE
  go_wp2_with (first
    | (refine wpl_load rfl 44 (.tmp 5) rfl w1.heap.size 0 rfl S6 rowSpan (Nat.le_refl _) (D := #[.int .i64 (-c1), .int .i64 c2, .bool false, .bool false]) rfl ?_)
    | (refine wpl_store rfl 44 (.tmp 4) (.tmp 34) rfl w.heap.size 0 rfl (D := #[.int .i64 (-c1), .int .i64 c2, .bool false, .bool false]) rfl r5 rowSpan rfl (Nat.le_refl _) (by simp [Value.oneCell']) ?_; intro w6 ho6 hb6))
  exact ret_cell Try.results9 rfl (hb6.eq (spl_all _ _ rfl)) rowSpan rfl ⟨rfl, t5.trans (ho6.below (Nat.le_refl _))⟩

end Go.Proofs.Ytlcmfpfmjkpfoaa
