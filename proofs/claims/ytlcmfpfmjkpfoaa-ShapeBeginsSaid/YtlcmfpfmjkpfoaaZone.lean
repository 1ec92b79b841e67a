/- New, void, Empty, settled of zone: what each call returns; nothing that was there is turned. -/
import Derived.Test.YtlcmfpfmjkpfoaaTop
import Derived.StillTailTactics
namespace Go.Proofs.Ytlcmfpfmjkpfoaa
open Go Go.RowKit Go.Wr
set_option maxHeartbeats 400000

/-- A zone: whether it is the empty one, its table. -/
structure Zn where
  e : Bool
  m : Nat → Nat → Int

def znew : Zn := ⟨false, topT⟩
def zvoid : Zn := ⟨true, topT⟩
/-- The zone z lies in block b. -/
def ZAt (w : World) (b : Nat) (z : Zn) : Prop := Blk w b 80 (zcells z.e z.m)
/-- A call has handed back a pointer to the zone z, and turned nothing that was there. -/
def RetZ (w : World) (z : Zn) (e : Ending) (w' : World) : Prop := ∃ b, e = .returned (.pointer (some ⟨b, 0, none⟩)) ∧ ZAt w' b z ∧ Below w.heap.size w w'

theorem ZAt.entry {w : World} {b : Nat} {z : Zn} (h : ZAt w b z) {i j : Nat} (hi : i < 60) (hj : j < 60) : w.cell? ⟨b, 1 + i * 60 + j, none⟩ = some (.int .i64 (z.m i j)) := by
  rw [Nat.add_assoc]; exact (Blk.cell h _).trans (zcells_get? _ _ hi hj)
theorem ZAt.emp {w : World} {b : Nat} {z : Zn} (h : ZAt w b z) : w.cell? ⟨b, 0, none⟩ = some (.bool z.e) := (Blk.cell h 0).trans (zcells_zero _ _)
theorem ZAt.below {w w' : World} {b B : Nat} {z : Zn} (h : ZAt w b z) (hb : Below B w w') (hlt : b < B) : ZAt w' b z := Blk.below h hb hlt

theorem mix : Try.prog.follows .mixedOrders = true := by kernel_rfl

theorem new_any (w : World) : Calls Try.prog 18 #[] w (RetZ w znew) := by
  go_enter Try.func18, Try.ntmps18
  go_wp2_with (first
    | (go_at_call 30; refine (top_any _).mono ?_; rintro e w1 ⟨rfl, hb⟩)
    | (refine wpl_build rfl 80 [(1, .tmp 1)] rfl [(1, .agg (tcells topT))] rfl (builtZ1 topT) ?_))
  go_ret
  exact ⟨w1.heap.size, rfl, Blk.new _ _ _, hb.alloc hb.size _⟩

theorem void_any (w : World) : Calls Try.prog 36 #[] w (RetZ w zvoid) := by
  go_enter Try.func36, Try.ntmps36
  go_wp2_with (first
    | (go_at_call 30; refine (top_any _).mono ?_; rintro e w1 ⟨rfl, hb⟩)
    | (refine wpl_build rfl 80 [(0, .const (.bool true)), (1, .tmp 1)] rfl [(0, .bool true), (1, .agg (tcells topT))] rfl (builtZ2 true topT) ?_))
  go_ret
  exact ⟨w1.heap.size, rfl, Blk.new _ _ _, hb.alloc hb.size _⟩

theorem empty_any (w : World) (b : Nat) (z : Zn) (hz : ZAt w b z) :
    Calls Try.prog 20 #[.pointer (some ⟨b, 0, none⟩)] w fun e w' => e = .returned (.bool z.e) ∧ w = w' := by
  have hc := (Blk.cell hz 0).trans (zcells_zero _ _)
  go_enter Try.func20, Try.ntmps20
  go_wp2
  go_ret
  exact ⟨rfl, rfl⟩

/-- The zone of a table. -/
def zset (m : Nat → Nat → Int) : Zn := if (List.range 60).any (fun p => decide (m p p < 0)) then zvoid else ⟨false, m⟩

theorem zset_void {m : Nat → Nat → Int} {p : Nat} (hp : p < 60) (h : m p p < 0) : zset m = zvoid := by
  unfold zset; rw [if_pos (List.any_eq_true.2 ⟨p, List.mem_range.2 hp, by simpa using h⟩)]

theorem zset_zone {m : Nat → Nat → Int} (h : ∀ p, p < 60 → 0 ≤ m p p) : zset m = ⟨false, m⟩ := by
  unfold zset; rw [if_neg]
  intro ha
  obtain ⟨p, hp, h0⟩ := List.any_eq_true.1 ha
  have := h p (List.mem_range.1 hp)
  simp at h0; omega

theorem settled_any (w : World) (m : Nat → Nat → Int) : Calls Try.prog 37 #[.agg (tcells m)] w (RetZ w (zset m)) := by
  go_enter Try.func37, Try.ntmps37
  go_wp2
  go_loopw [4] (fun i wr => ∃ n : Nat, n ≤ 60 ∧ i = .int .i64 n ∧ (∀ p, p < n → 0 ≤ m p p) ∧ Blk wr w.heap.size 78 (tcells m) ∧ Below w.heap.size w wr) (fun i _ => 60 - (intOf i).toNat)
  case atStart => exact ⟨0, by omega, rfl, fun p hp => by omega, Blk.new _ _ _, (Below.refl _ _).alloc (Nat.le_refl _) _⟩
  case round =>
    obtain ⟨n, hn, rfl, hp, hb, hbel⟩ := hrel
    have Hp := Lib.hid hp
    clear hp
    by_cases hlt : n < 60
    · have hc := (hb.cell (n * 60 + n)).trans (tcells_get? _ hlt hlt)
      have hlt' : (n : Int) < 60 := by omega
      by_cases hneg : m n n < 0
      · go_wp2_with (go_at_call 36; refine (void_any _).mono ?_; rintro e w1 ⟨b1, rfl, hz1, hbel1⟩)
        go_ret
        refine ⟨b1, rfl, ?_, hbel.trans (hbel1.mono hbel.size)⟩
        rw [zset_void hlt hneg]; exact hz1
      · go_wp2
        go_roundw
        case rel => exact ⟨n + 1, by omega, by go_num, fun p hp => by
          by_cases e : p = n
          · subst e; omega
          · exact Hp.out p (by omega), hb, hbel⟩
        case measure => simp [intOf]; omega
    · obtain rfl : n = 60 := by omega
      go_wp2_with (first
        | (refine wpl_load rfl 78 (.tmp 1) rfl w.heap.size 0 rfl hb rowT (by rw [tcells_size]; omega) (D := tcells m) (tcells_extract _) ?_)
        | (refine wpl_build rfl 80 [(1, .tmp 15)] rfl [(1, .agg (tcells m))] rfl (builtZ1 m) ?_))
      go_ret
      refine ⟨wr.heap.size, rfl, ?_, hbel.alloc hbel.size _⟩
      rw [zset_zone Hp.out]; exact Blk.new _ _ _

end Go.Proofs.Ytlcmfpfmjkpfoaa
