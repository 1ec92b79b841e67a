/- roomy and left of the law: bounds with seventy marks behind them, and whether they still are; nothing that was there is turned. -/
import Derived.Test.YtfpbjjdlchplnaaRTurn
import Derived.Test.YtfpbjjdlchplnaaRLcons
namespace Go.Proofs.YtfpbjjdlchplnaaR
open Go Go.RowKit Go.Wr
set_option maxHeartbeats 2000000
set_option maxRecDepth 100000

def mark : Cn := ⟨-7, -8, 9⟩
def marks (k : Nat) : List Cn := List.replicate k mark
theorem marks_len (k : Nat) : (marks k).length = k := by simp [marks]
theorem marks_succ (k : Nat) : marks (k + 1) = marks k ++ [mark] := by unfold marks; rw [List.replicate_succ']
theorem marks_at {l : List Cn} {k : Nat} (h : k < 70) : (l ++ marks 70)[l.length + k]? = some mark := by
  rw [List.getElem?_append_right (by omega), Nat.add_sub_cancel_left]
  unfold marks
  rw [List.getElem?_replicate, if_pos h]

/-- The rows of a slice that fills its block from the head on. -/
theorem Sl3.pre {w : World} {B : Nat} {g n cap : Nat} {l r : List Cn} (h : w.ownsRow B 34 3 (.slice (some ⟨g, 0, none⟩) n cap) n (conCells (l ++ r))) (hn : n = l.length + r.length) (hl : n ≤ 9223372036854775807) : Sl3 w (.slice (some ⟨g, 0, none⟩) l.length cap) l := by
  refine ⟨some ⟨g, 0, none⟩, cap, rfl, by omega, fun k x hx => ⟨g, 0, rfl, ?_⟩⟩
  have hk : k < l.length := (List.getElem?_eq_some_iff.1 hx).1
  have hx' : (l ++ r)[k]? = some x := by rw [List.getElem?_append_left hk]; exact hx
  obtain ⟨h0, h1, h2⟩ := conCells_get (l ++ r) k x hx'
  simp only [Nat.zero_add]
  exact ⟨(h.cellAt _ (by omega)).trans h0, (h.cellAt _ (by omega)).trans h1, (h.cellAt _ (by omega)).trans h2⟩

theorem roomy_any (w : World) (v : Value) (l : List Cn) (hs : Sl3 w v l) (hlen : l.length * 24 ≤ 140737488351232) :
    Calls Try.prog 46 #[v] w fun e w' => ∃ g cap, e = .returned (.tuple #[.slice (some ⟨g, 0, none⟩) l.length cap, .slice (some ⟨g, 0, none⟩) (l.length + 70 : Nat) cap]) ∧ w'.ownsRow w.heap.size 34 3 (.slice (some ⟨g, 0, none⟩) (l.length + 70) cap) (l.length + 70) (conCells (l ++ marks 70)) ∧ Below w.heap.size w w' := by
  have HS := Lib.hid hs
  have hs' := hs
  obtain ⟨a0, cap0, rfl, hl, _⟩ := hs'
  clear hs
  go_enter Try.func46, Try.ntmps46
  go_wp2_with fail
  refine (lcons_any _ _ l HS.out (by omega)).mono ?_
  rintro e w1 ⟨v1, rfl, o1, b1⟩
  have o1' : w1.ownsRow w.heap.size 34 3 v1 (l.length + 0) (conCells (l ++ marks 0)) := by
    have : l ++ marks 0 = l := by simp [marks]
    rw [this]; exact o1
  clear o1
  go_wp2
  go_loopw [4, 5] (fun u t wr => ∃ k : Nat, k ≤ 70 ∧ t = .int .i64 k ∧ wr.ownsRow w.heap.size 34 3 u (l.length + k) (conCells (l ++ marks k)) ∧ Below w.heap.size w wr) (fun _ t _ => 70 - (intOf t).toNat)
  case atStart => exact ⟨0, by omega, rfl, o1', b1⟩
  case round =>
    clear o1' b1
    obtain ⟨k, hk, rfl, hown, hbel⟩ := hrel
    by_cases hlt : k < 70
    · have hlt' : (k : Int) < 70 := by omega
      obtain ⟨i, hi, hz0, hz1, hz2⟩ := info_parts infoC
      have Hown := Lib.hid hown
      have Hm := Lib.hid (marks_succ k)
      have hsz := hbel.size
      clear hown
      go_wp2_with (at_builtin; refine wpList_append_own _ rfl _ _ _ rfl w.heap.size 34 i _ 3 24 Try.underlying23 hi hz0 hz1 hz2 rfl (by omega) u4 (l.length + k) (conCells (l ++ marks k)) rfl (Hown.out.alloc _) ⟨wr.heap.size, 0, none⟩ 1 1 [.int .i64 (-7), .int .i64 (-8), .int .i64 9] rfl rfl (newsBlk (Blk.new wr 34 #[.int .i64 (-7), .int .i64 (-8), .int .i64 9])) (by simp [Value.oneCell']) (by unfold maxLen; omega) (by omega) (by simp; omega) ?_; intro v' w' hown' hgrow hnil)
      go_roundw
      case rel =>
        refine ⟨k + 1, by omega, by go_num, ?_, (hbel.alloc hsz _).grown hgrow (by simp; omega) (fun g hg => (Hown.out.lt g hg).1)⟩
        rw [Hm.out, ← List.append_assoc, conCells_append]
        exact hown'
      case measure => simp [intOf]; omega
    · obtain rfl : k = 70 := by omega
      have Hown := Lib.hid hown
      rcases hown.2 with ⟨_, h0⟩ | ⟨g, cap, cur, rfl, _, _, hle, hcap, _⟩
      · omega
      · unfold maxLen at hcap
        clear hown
        go_wp2
        go_ret2
        exact ⟨g, cap, rfl, Hown.out, hbel⟩

theorem left_any (w : World) (B g cap : Nat) (v : Value) (l : List Cn) (hs : Sl3 w v l) (hlen : l.length * 24 ≤ 140737488351232) (hown : w.ownsRow B 34 3 (.slice (some ⟨g, 0, none⟩) (l.length + 70) cap) (l.length + 70) (conCells (l ++ marks 70))) :
    Calls Try.prog 47 #[.slice (some ⟨g, 0, none⟩) (l.length + 70 : Nat) cap, v] w fun e w' => e = .returned (.bool true) ∧ Below w.heap.size w w' := by
  have HS := Lib.hid hs
  have hs' := hs
  obtain ⟨a0, cap0, rfl, hl, _⟩ := hs'
  have HP := Lib.hid (Sl3.pre hown (by rw [marks_len]) (by omega))
  have HE : Hid (eqL l l = true) := eqL_iff.2 rfl
  have Hown := Lib.hid hown
  have hcp : l.length + 70 ≤ cap ∧ cap ≤ 9223372036854775807 := by
    rcases hown.2 with ⟨h, _⟩ | ⟨g, cap', cur, e, _, _, hle, hcap, _⟩
    · cases h
    · injection e with _ _ e; subst e
      unfold maxLen at hcap; omega
  obtain ⟨hcp1, hcp2⟩ := hcp
  clear hs hown
  go_enter Try.func47, Try.ntmps47
  go_wp2
  go_loop [5] (fun t => ∃ k : Nat, k ≤ 70 ∧ t = .int .i64 ((l.length + k : Nat) : Int)) (fun t => l.length + 70 - (intOf t).toNat)
  case atStart => exact ⟨0, by omega, rfl⟩
  case round =>
    obtain ⟨k, hk, rfl⟩ := hrel
    by_cases hlt : k < 70
    · have hm := marks_at (l := l) hlt
      obtain ⟨h0, h1, h2⟩ := conCells_get _ _ _ hm
      have c0 := (Hown.out.cellAt ((l.length + k) * 3) (by omega)).trans h0
      have c1 := (Hown.out.cellAt ((l.length + k) * 3 + 1) (by omega)).trans h1
      have c2 := (Hown.out.cellAt ((l.length + k) * 3 + 2) (by omega)).trans h2
      clear hm h0 h1 h2
      simp only [mark] at c0 c1 c2
      obtain ⟨j, hj⟩ : ∃ j, j = l.length + k := ⟨_, rfl⟩
      rw [← hj] at c0 c1 c2 ⊢
      have hlt' : (j : Int) < ((l.length + 70 : Nat) : Int) := by omega
      have Hj := Lib.hid hj
      clear hj
      go_wp2
      go_round
      case rel => exact ⟨k + 1, by omega, by rw [Hj.out]; go_num⟩
      case measure => simp [intOf]; have := Hj.out; omega
    · obtain rfl : k = 70 := by omega
      go_wp2_with (go_at_call 28; refine (same_any _ _ _ l l HP.out HS.out).mono ?_; rintro e w1 ⟨rfl, b1⟩; rw [HE.out])
      go_ret
      exact ⟨rfl, b1⟩

end Go.Proofs.YtfpbjjdlchplnaaR
