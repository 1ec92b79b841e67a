/- The law's cons: bounds in new memory; nothing that was there is turned; the list is no longer than memory. -/
import Derived.Test.YtfpbjjdlchplnaaRBound
import Derived.Deep.RegionHeld3
import Derived.Deep.AppendLies
namespace Go.Proofs.YtfpbjjdlchplnaaR
open Go Go.RowKit Go.Wr
set_option maxHeartbeats 3000000
set_option maxRecDepth 100000

theorem take_snoc {α : Type} {l : List α} {k : Nat} {x : α} (h : l[k]? = some x) : l.take (k + 1) = l.take k ++ [x] := by
  obtain ⟨hk, rfl⟩ := List.getElem?_eq_some_iff.1 h
  exact List.take_succ_eq_append_getElem hk

theorem Sl3.own {w : World} {B : Nat} {T : TypeId} {v : Value} {n : Nat} {l : List Cn} (h : w.ownsRow B T 3 v n (conCells l)) (hn : n = l.length) (hl : l.length ≤ 9223372036854775807) : Sl3 w v l := by
  subst hn
  obtain ⟨h1, h2⟩ := h
  rcases h2 with ⟨rfl, h0⟩ | ⟨g, cap, cur, rfl, hg, hb, hle, hcap, hsz, htk⟩
  · have := List.eq_nil_of_length_eq_zero h0
    subst this
    exact ⟨none, 0, rfl, by simp, fun k x hx => by simp at hx⟩
  · refine ⟨some ⟨g, 0, none⟩, cap, rfl, hl, fun k x hx => ⟨g, 0, rfl, ?_⟩⟩
    have hb' : Blk w g T cur := hb
    have hk : k < l.length := (List.getElem?_eq_some_iff.1 hx).1
    obtain ⟨h0, h1, h2⟩ := conCells_get l k x hx
    rw [← htk] at h0 h1 h2
    rw [List.getElem?_take, if_pos (by omega), Array.getElem?_toList] at h0 h1 h2
    simp only [Nat.zero_add]
    exact ⟨(hb'.cell _).trans h0, (hb'.cell _).trans h1, (hb'.cell _).trans h2⟩

theorem lcons_any (w : World) (v : Value) (l : List Cn) (hs : Sl3 w v l) (hlen : l.length * 24 ≤ 140737488355328) :
    Calls Try.prog 20 #[v] w fun e w' => ∃ v', e = .returned v' ∧ w'.ownsRow w.heap.size 34 3 v' l.length (conCells l) ∧ Below w.heap.size w w' := by
  obtain ⟨a0, cap, rfl, hl, hc⟩ := hs
  have Hc := Lib.hid hc
  clear hc
  go_enter Try.func20, Try.ntmps20
  go_wp2
  go_loopw [3, 4] (fun u t wr => ∃ k : Nat, k ≤ l.length ∧ t = .int .i64 k ∧ wr.ownsRow w.heap.size 34 3 u k (conCells (l.take k)) ∧ Below w.heap.size w wr) (fun _ t _ => l.length - (intOf t).toNat)
  case atStart => exact ⟨0, by omega, rfl, World.ownsRow_nil _ _ _ _, Below.refl _ _⟩
  case round =>
    obtain ⟨k, hk, rfl, hown, hbel⟩ := hrel
    by_cases hlt : k < l.length
    · obtain ⟨b, off, xi, xj, xc, hx, rfl, hbl, h0, h1, h2⟩ := Sl3.at Hc.out hbel hlt
      have hk0 : (0 : Int) ≤ (k : Int) := Int.natCast_nonneg _
      have hk1 : (k : Int) < (l.length : Int) := by omega
      obtain ⟨i, hi, hz0, hz1, hz2⟩ := info_parts infoC
      have Ht := Lib.hid (take_snoc hx)
      have Hown := Lib.hid hown
      have hsz := hbel.size
      have hne : u3.ownBlock ≠ some b := fun e => by have := (Hown.out.lt b e).1; omega
      clear hx hown
      go_wp2_with fail
      go_region_held3 (fun w' => w'.cell? ⟨b, off + k * 3, none⟩ = some (.int .i64 xi) ∧ w'.cell? ⟨b, off + k * 3 + 1, none⟩ = some (.int .i64 xj) ∧ w'.cell? ⟨b, off + k * 3 + 2, none⟩ = some (.int .i64 xc))
        (first
          | go_keep
          | (go_split_ands
             refine ⟨?_, ?_, ?_⟩
             · (rw [hgrow.cell_far _ (by simp; omega) (Ne.symm hne)]; assumption)
             · (rw [hgrow.cell_far _ (by simp; omega) (Ne.symm hne)]; assumption)
             · (rw [hgrow.cell_far _ (by simp; omega) (Ne.symm hne)]; assumption)))
        ((refine step_append_lies _ (by rfl) _ _ _ (by rfl) w.heap.size 34 i _ 3 24 Try.underlying23 hi hz0 hz1 hz2 rfl (by omega) u3 k (conCells (l.take k)) (by rfl) ((Hown.out.alloc _).drew)
            ⟨wr.heap.size, 0, none⟩ 1 1 [.int .i64 xi, .int .i64 xj, .int .i64 xc] (by rfl) (by rfl) (World.news_of_block (cs := #[.int .i64 xi, .int .i64 xj, .int .i64 xc]) (t := 34) (fr := (0, 0)) (heap_alloc_new wr _)) (by simp [Value.oneCell'])
            (by omega) (by unfold maxLen; omega) (by omega) (by simp; omega) (wr.heap.size + 1) (by simp) ?_; intro g cap' w1 hown1 hgrow hat hlt1))
      go_wp2
      go_roundw
      case rel =>
        refine ⟨k + 1, by omega, by go_num, ?_, ((hbel.alloc hsz _).drew).grown hgrow (by simp; omega) (fun g hg => (Hown.out.lt g hg).1)⟩
        rw [Ht.out, conCells_append]
        exact hown1
      case measure => simp [intOf]; omega
    · obtain rfl : k = l.length := by omega
      rw [List.take_length] at hown
      have Hown := Lib.hid hown
      clear hown
      go_wp2
      go_ret
      exact ⟨u3, rfl, Hown.out, hbel⟩

end Go.Proofs.YtfpbjjdlchplnaaR
