/- The law's bounds: bounds as the program's, in new memory; nothing that was there is turned; the list is no longer than memory. -/
import Derived.Test.YtfpbjjdlchplnaaRLcons
import Derived.Test.YtfpbjjdlchplnaaRArgs
namespace Go.Proofs.YtfpbjjdlchplnaaR
open Go Go.RowKit Go.Wr
set_option maxHeartbeats 3000000
set_option maxRecDepth 100000

def bdCells (l : List (Bool × Int)) : List Value := l.flatMap fun x => [.bool x.1, .int .i64 x.2]
theorem bdCells_append (l : List (Bool × Int)) (x : Bool × Int) : bdCells (l ++ [x]) = bdCells l ++ [.bool x.1, .int .i64 x.2] := by simp [bdCells]
theorem bdCells_get (l : List (Bool × Int)) : ∀ (k : Nat) (x : Bool × Int), l[k]? = some x → (bdCells l)[k * 2]? = some (.bool x.1) ∧ (bdCells l)[k * 2 + 1]? = some (.int .i64 x.2) := by
  induction l with
  | nil => intro k x h; simp at h
  | cons y r ih =>
    intro k x h
    have e : bdCells (y :: r) = .bool y.1 :: .int .i64 y.2 :: bdCells r := rfl
    rw [e]
    cases k with
    | zero =>
      simp at h
      subst h
      exact ⟨rfl, rfl⟩
    | succ k =>
      simp at h
      obtain ⟨h0, h1⟩ := ih k x h
      rw [show (k + 1) * 2 = k * 2 + 1 + 1 by omega]
      simp only [List.getElem?_cons_succ]
      exact ⟨h0, h1⟩

theorem infoBd : (Try.prog.info? 28).map (fun i => (i.zero, i.size, i.bytes)) = some (some (.agg #[.bool false, .int .i64 0]), 2, 16) := by kernel_rfl

theorem SlB.own {w : World} {B : Nat} {T : TypeId} {v : Value} {n : Nat} {l : List (Bool × Int)} (h : w.ownsRow B T 2 v n (bdCells l)) (hn : n = l.length) (hl : l.length ≤ 9223372036854775807) : SlB w v l := by
  subst hn
  obtain ⟨h1, h2⟩ := h
  rcases h2 with ⟨rfl, h0⟩ | ⟨g, cap, cur, rfl, hg, hb, hle, hcap, hsz, htk⟩
  · have := List.eq_nil_of_length_eq_zero h0
    subst this
    exact ⟨none, 0, rfl, by simp, fun k x hx => by simp at hx⟩
  · refine ⟨some ⟨g, 0, none⟩, cap, rfl, hl, fun k x hx => ⟨g, 0, rfl, ?_⟩⟩
    have hb' : Blk w g T cur := hb
    have hk : k < l.length := (List.getElem?_eq_some_iff.1 hx).1
    obtain ⟨h0, h1⟩ := bdCells_get l k x hx
    rw [← htk] at h0 h1
    rw [List.getElem?_take, if_pos (by omega), Array.getElem?_toList] at h0 h1
    simp only [Nat.zero_add]
    exact ⟨(hb'.cell _).trans h0, (hb'.cell _).trans h1⟩

theorem SlB.at {w w' : World} {a0 : Option Addr} {l : List (Bool × Int)} (hc : ∀ k x, l[k]? = some x → ∃ b off, a0 = some ⟨b, off, none⟩ ∧ w.cell? ⟨b, off + k * 2, none⟩ = some (.bool x.1) ∧ w.cell? ⟨b, off + k * 2 + 1, none⟩ = some (.int .i64 x.2))
    (hb : Below w.heap.size w w') {k : Nat} (hk : k < l.length) : ∃ b off xi xc, l[k]? = some (xi, xc) ∧ a0 = some ⟨b, off, none⟩ ∧ b < w.heap.size ∧ w'.cell? ⟨b, off + k * 2, none⟩ = some (.bool xi) ∧ w'.cell? ⟨b, off + k * 2 + 1, none⟩ = some (.int .i64 xc) := by
  obtain ⟨⟨xi, xc⟩, hx⟩ : ∃ x, l[k]? = some x := ⟨_, List.getElem?_eq_getElem hk⟩
  obtain ⟨b, off, rfl, h0, h1⟩ := hc k _ hx
  have hblt := World.block_lt_of_cell? w _ h0
  exact ⟨b, off, xi, xc, hx, rfl, hblt, (hb.cell hblt).trans h0, (hb.cell (p := ⟨b, off + k * 2 + 1, none⟩) hblt).trans h1⟩

theorem lbounds_any (w : World) (v : Value) (l : List (Bool × Int)) (hs : SlB w v l) (hlen : l.length * 16 ≤ 140737488355328) :
    Calls Try.prog 50 #[v] w fun e w' => ∃ v', e = .returned v' ∧ SlB w' v' l ∧ Below w.heap.size w w' := by
  obtain ⟨a0, cap, rfl, hl, hc⟩ := hs
  have Hc := Lib.hid hc
  clear hc
  go_enter Try.func50, Try.ntmps50
  go_wp2
  go_loopw [3, 4] (fun u t wr => ∃ k : Nat, k ≤ l.length ∧ t = .int .i64 k ∧ wr.ownsRow w.heap.size 28 2 u k (bdCells (l.take k)) ∧ Below w.heap.size w wr) (fun _ t _ => l.length - (intOf t).toNat)
  case atStart => exact ⟨0, by omega, rfl, World.ownsRow_nil _ _ _ _, Below.refl _ _⟩
  case round =>
    obtain ⟨k, hk, rfl, hown, hbel⟩ := hrel
    by_cases hlt : k < l.length
    · obtain ⟨b, off, xi, xc, hx, rfl, hbl, h0, h1⟩ := SlB.at Hc.out hbel hlt
      have hk0 : (0 : Int) ≤ (k : Int) := Int.natCast_nonneg _
      have hk1 : (k : Int) < (l.length : Int) := by omega
      obtain ⟨i, hi, hz0, hz1, hz2⟩ := info_parts infoBd
      have Ht := Lib.hid (take_snoc hx)
      have Hown := Lib.hid hown
      have hsz := hbel.size
      have hne : u3.ownBlock ≠ some b := fun e => by have := (Hown.out.lt b e).1; omega
      clear hx hown
      go_wp2_with fail
      go_region_held3 (fun w' => w'.cell? ⟨b, off + k * 2, none⟩ = some (.bool xi) ∧ w'.cell? ⟨b, off + k * 2 + 1, none⟩ = some (.int .i64 xc))
        (first
          | go_keep
          | (go_split_ands
             refine ⟨?_, ?_⟩
             · (rw [hgrow.cell_far _ (by simp; omega) (Ne.symm hne)]; assumption)
             · (rw [hgrow.cell_far _ (by simp; omega) (Ne.symm hne)]; assumption)))
        ((refine step_append_lies _ (by rfl) _ _ _ (by rfl) w.heap.size 28 i _ 2 16 Try.underlying68 hi hz0 hz1 hz2 rfl (by omega) u3 k (bdCells (l.take k)) (by rfl) ((Hown.out.alloc _).drew)
            ⟨wr.heap.size, 0, none⟩ 1 1 [.bool xi, .int .i64 xc] (by rfl) (by rfl) (World.news_of_block (cs := #[.bool xi, .int .i64 xc]) (t := 28) (fr := (0, 0)) (heap_alloc_new wr _)) (by simp [Value.oneCell'])
            (by omega) (by unfold maxLen; omega) (by omega) (by simp; omega) (wr.heap.size + 1) (by simp) ?_; intro g cap' w1 hown1 hgrow hat hlt1))
      go_wp2
      go_roundw
      case rel =>
        refine ⟨k + 1, by omega, by go_num, ?_, ((hbel.alloc hsz _).drew).grown hgrow (by simp; omega) (fun g hg => (Hown.out.lt g hg).1)⟩
        rw [Ht.out, bdCells_append]
        exact hown1
      case measure => simp [intOf]; omega
    · obtain rfl : k = l.length := by omega
      rw [List.take_length] at hown
      have Hown := Lib.hid (SlB.own hown rfl hl)
      clear hown
      go_wp2
      go_ret
      exact ⟨u3, rfl, Hown.out, hbel⟩

end Go.Proofs.YtfpbjjdlchplnaaR
