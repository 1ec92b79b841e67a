/- Start of shape: where the lengths are fine; nothing that was there is turned. -/
import Derived.Test.YtlcmfpfmjkpfoaaSFrom
import Derived.Test.YtlcmfpfmjkpfoaaSAsg
import Derived.Test.YtlcmfpfmjkpfoaaSSound
namespace Go.Proofs.Ytlcmfpfmjkpfoaa
open Go Go.RowKit Go.Wr
set_option maxHeartbeats 2000000
set_option maxRecDepth 100000

/-- The table of Start. -/
def mL (lo hi : Int) : Nat → Nat → Int := (zwith znew [⟨0, 1, -lo⟩, ⟨1, 0, hi⟩]).m
def mS (lo hi : Int) : Nat → Nat → Int := asgT (asgT (mL lo hi) 3 0 0) 4 1 0
def numsL (n : Int) (q : Nat) : Int := if q = 1 then n else 0
theorem mtl_start {lo hi n : Int} (h1 : lo ≤ n) (h2 : n ≤ hi) (f : Nat → Int) (h0 : f 0 = 0) (hf : f 1 = n) : MtL [⟨0, 1, -lo⟩, ⟨1, 0, hi⟩] f := fun x hx => by
  rcases List.mem_cons.1 hx with rfl | hx
  · refine ⟨show Int.toNat 0 < 60 by decide, show Int.toNat 1 < 60 by decide, ?_⟩
    show f 0 - f 1 ≤ -lo
    omega
  · obtain rfl := List.mem_singleton.1 hx
    refine ⟨show Int.toNat 1 < 60 by decide, show Int.toNat 0 < 60 by decide, ?_⟩
    show f 1 - f 0 ≤ hi
    omega
theorem start_zone {lo hi : Int} (h : lo ≤ hi) : zwith znew [⟨0, 1, -lo⟩, ⟨1, 0, hi⟩] = ⟨false, mL lo hi⟩ := by
  have := (mtz_with (l := [⟨0, 1, -lo⟩, ⟨1, 0, hi⟩]) (mtz_new (numsL lo)) (mtl_start (Int.le_refl lo) h _ rfl rfl)).1
  unfold mL
  rw [← this]
theorem asg_rng {m : Nat → Nat → Int} (h : Rng m) {x y : Nat} {c : Int} : Rng (asgT m x y c) := fun p q hp hq => by
  unfold asgT asgW
  split
  · exact sm_rng _ _
  · split
    · exact sm_rng _ _
    · exact h p q hp hq
theorem tagsS : ((gc f0).setIfInBounds 3 (.int .i64 3)).setIfInBounds 6 (.int .i64 1) = gc fS := by kernel_rfl

theorem ZAt.alloc {w : World} {b : Nat} {z : Zn} (h : ZAt w b z) (o : Obj) : ZAt (w.alloc o) b z := Blk.alloc h o

theorem start_ok (w : World) (lo hi : Int) (h1 : 0 ≤ lo) (h2 : lo ≤ hi) (h3 : hi ≤ 65535) :
    Calls Try.prog 7 #[.agg #[.int .i64 lo, .int .i64 hi, .slice none 0 0, .slice none 0 0, .slice none 0 0]] w (RetSE w fS false ⟨false, mS lo hi⟩) := by
  have hz := zeroTags
  have HZ := Lib.hid (start_zone h2)
  have HW : Hid (wrongL [⟨0, 1, -lo⟩, ⟨1, 0, hi⟩] = 0) := by
    show wrongL _ = 0
    unfold wrongL
    rw [if_pos (by rfl), if_pos (bd_iff.2 (by simp only; omega))]
    unfold wrongL
    rw [if_pos (by rfl), if_pos (bd_iff.2 (by simp only; omega))]
    rfl
  have HR : Hid (Rng (mL lo hi)) := zwith_rng topT_rng
  have wn : IntKind.i64.wrap (-lo) = -lo := IntWalk.i64_in _ (by omega)
  have WN := Lib.hid wn
  clear wn
  go_enter Try.func7, Try.ntmps7
  go_upto_region 4 with (fail)
  generalize hW : ((w.alloc (.cells #[.int .i64 lo, .int .i64 hi, .slice none 0 0, .slice none 0 0, .slice none 0 0] 40)).alloc (.cells (gc f0) 51)) = W
  have tW : Below w.heap.size w W := by rw [← hW]; exact bAl (bAl (bRefl w) _) _
  have PB : Blk W w.heap.size 40 #[.int .i64 lo, .int .i64 hi, .slice none 0 0, .slice none 0 0, .slice none 0 0] := by rw [← hW]; exact Blk.alloc (Blk.new _ _ _) _
  have GB : Blk W (w.heap.size + 1) 51 (gc f0) := by rw [← hW]; exact Blk.new_at _ _ (by simp)
  have c3 := (GB.cell 3).trans (gc_get f0 (show 1 < 42 by omega)).1
  have c6 := (GB.cell 6).trans (gc_get f0 (show 2 < 42 by omega)).1
  have r3 := GB.frozen 3
  have r6 := GB.frozen 6
  clear hW hz
  go_upto_region 5 with (fail)
  have hE : ∀ E, E = (W.setCell ⟨w.heap.size + 1, 3, none⟩ (.int .i64 3)).setCell ⟨w.heap.size + 1, 6, none⟩ (.int .i64 1) →
      Blk E w.heap.size 40 #[.int .i64 lo, .int .i64 hi, .slice none 0 0, .slice none 0 0, .slice none 0 0] ∧ Blk E (w.heap.size + 1) 51 (gc fS) ∧ Below w.heap.size w E := fun E e => by
    subst e
    exact ⟨Blk.set_other (Blk.set_other PB _ _ _ (by omega)) _ _ _ (by omega), ((Blk.set (Blk.set GB 3 _) 6 _).eq tagsS), (tW.setCell (p := ⟨w.heap.size + 1, 3, none⟩) (by simp) _).setCell (p := ⟨w.heap.size + 1, 6, none⟩) (by simp) _⟩
  have HE := Lib.hid hE
  clear c3 c6 r3 r6 PB GB tW hE
  generalize hw : (W.setCell ⟨w.heap.size + 1, 3, none⟩ (.int .i64 3)).setCell ⟨w.heap.size + 1, 6, none⟩ (.int .i64 1) = wE
  obtain ⟨pb, gb, tE⟩ := HE.out wE hw.symm
  clear hw HE
  have PE := Lib.hid pb
  have GE := Lib.hid gb
  have p0 : wE.cell? ⟨w.heap.size, 0, none⟩ = some (.int .i64 lo) := pb.cell 0
  have p1 : wE.cell? ⟨w.heap.size, 1, none⟩ = some (.int .i64 hi) := pb.cell 1
  have hpl := pb.lt
  clear pb gb
  have HSl : Hid (∀ (g : Nat) (V : World), Blk V g 30 #[.int .i64 0, .int .i64 1, .int .i64 (-lo), .int .i64 1, .int .i64 0, .int .i64 hi] → Sl3 V (.slice (some ⟨g, 0, none⟩) 2 2) [⟨0, 1, -lo⟩, ⟨1, 0, hi⟩]) := fun g V h => Sl3.lit h [⟨0, 1, -lo⟩, ⟨1, 0, hi⟩] 2 2 rfl rfl (by simp)
  have HLt : Hid (wE.heap.size < (wE.alloc (.cells #[.int .i64 0, .int .i64 1, .int .i64 (-lo), .int .i64 1, .int .i64 0, .int .i64 hi] 30)).drew.heap.size) := by show _ < _; simp
  have HRn : Hid (Rng znew.m) := topT_rng
  have wn := WN.out
  go_region_held3 (fun w' => w'.cell? ⟨w.heap.size, 0, none⟩ = some (.int .i64 lo) ∧ w'.cell? ⟨w.heap.size, 1, none⟩ = some (.int .i64 hi)) (go_keep)
    (first
      | (go_at_call 18; refine (new_any _).mono ?_; rintro e y1 ⟨n1, rfl, z1, d1⟩; have P1 := Lib.hid (by first | exact (Blk.drew PE.out).below d1 PE.out.lt | exact (Blk.drew (Blk.alloc PE.out _)).below d1 (Blk.alloc PE.out _).lt); have q0 : y1.cell? ⟨w.heap.size, 0, none⟩ = some (.int .i64 lo) := P1.out.cell 0; have q1 : y1.cell? ⟨w.heap.size, 1, none⟩ = some (.int .i64 hi) := P1.out.cell 1)
      | (go_at_call 19; (first | ((with_reducible refine (with_ok _ n1 znew (ZAt.alloc z1 _) HRn.out _ [⟨0, 1, -lo⟩, ⟨1, 0, hi⟩] (HSl.out _ _ (Blk.new _ _ _)) HW.out).mono ?_); rintro e y2 ⟨n2, rfl, z2, d2⟩; have bb : Below wE.heap.size wE y2 := bThen (bAl (bThen (bRefl wE).drew d1) _) d2) | ((with_reducible refine (with_ok _ n1 znew z1 HRn.out _ [⟨0, 1, -lo⟩, ⟨1, 0, hi⟩] (HSl.out _ _ (Blk.below (Blk.drew (Blk.new wE 30 #[.int .i64 0, .int .i64 1, .int .i64 (-lo), .int .i64 1, .int .i64 0, .int .i64 hi])) d1 HLt.out)) HW.out).mono ?_); rintro e y2 ⟨n2, rfl, z2, d2⟩; have bb : Below wE.heap.size wE y2 := bThen (bThen (bAl (bRefl wE) (.cells #[.int .i64 0, .int .i64 1, .int .i64 (-lo), .int .i64 1, .int .i64 0, .int .i64 hi] 30)).drew d1) d2)); have P2 := Lib.hid (PE.out.below bb hpl); have q0 : y2.cell? ⟨w.heap.size, 0, none⟩ = some (.int .i64 lo) := P2.out.cell 0; have q1 : y2.cell? ⟨w.heap.size, 1, none⟩ = some (.int .i64 hi) := P2.out.cell 1))
  all_goals
    rw [HZ.out] at z2
    have t2 := bThen tE bb
    have G2 := Lib.hid (GE.out.below bb GE.out.lt)
    have Z2 := Lib.hid z2
    clear z2 bb P2 q0 q1 p0 p1
    go_wp2_with fail
    refine (assign_ok _ n2 (mL lo hi) Z2.out HR.out 3 0 0 (by omega) (by omega) (by omega) (by omega) (by omega)).mono ?_
    rintro e y3 ⟨n3, rfl, z3, d3⟩
    have t3 := bThen t2 d3
    have G3 := Lib.hid (G2.out.below d3 G2.out.lt)
    have Z3 := Lib.hid z3
    have HR3 : Hid (Rng (asgT (mL lo hi) 3 0 0)) := asg_rng HR.out
    clear z3 d3 t2 G2 Z2
    go_wp2_with fail
    refine (assign_ok _ n3 (asgT (mL lo hi) 3 0 0) Z3.out HR3.out 4 1 0 (by omega) (by omega) (by omega) (by omega) (by omega)).mono ?_
    rintro e y4 ⟨n4, rfl, z4, d4⟩
    have t4 := bThen t3 d4
    have G4 := Lib.hid (G3.out.below d4 G3.out.lt)
    have Z4 := Lib.hid z4
    clear z4 d4 t3 G3 Z3
    go_wp2_with (first
      | (refine wpl_load rfl 51 (.tmp 4) rfl (w.heap.size + 1) 0 rfl G4.out rowTags (by rw [gc_size]; omega) (D := gc fS) (gc_all _) ?_)
      | (refine wpl_build rfl 53 [(0, .tmp 51), (1, .tmp 52)] rfl [(0, .pointer (some ⟨n4, 0, none⟩)), (1, .agg (gc fS))] rfl (builtS1 _ _) ?_))
    go_ret2
    exact ⟨y4.heap.size, rfl, ⟨n4, Blk.new _ _ _, Blk.alloc Z4.out _⟩, bAl t4 _⟩

end Go.Proofs.Ytlcmfpfmjkpfoaa
