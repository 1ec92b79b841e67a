/- CopyInts of the plain law page: a copy that can be read; nothing that was there is turned. -/
import Derived.Test.YtfpbjjdlchplnaaRArgs
import Derived.Laws.AppendOwnNone
namespace Go.Proofs.YtfpbjjdlchplnaaR
open Go Go.RowKit Go.Wr
set_option maxHeartbeats 1000000
set_option maxRecDepth 100000

def intCells (l : List Int) : List Value := l.map (Value.int .i64)
theorem infoI : (Try.prog.info? 3).map (fun i => (i.zero, i.size, i.bytes)) = some (some (.int .i64 0), 1, 8) := by kernel_rfl

theorem SlI.own {w : World} {B : Nat} {T : TypeId} {v : Value} {n : Nat} {l : List Int} (h : w.ownsRow B T 1 v n (intCells l)) (hn : n = l.length) (hl : l.length ≤ 9223372036854775807) : SlI w v l := by
  subst hn
  obtain ⟨h1, h2⟩ := h
  rcases h2 with ⟨rfl, h0⟩ | ⟨g, cap, cur, rfl, hg, hh, hle, hcap, hsz, htk⟩
  · have : l = [] := List.eq_nil_of_length_eq_zero h0
    subst this
    exact ⟨none, 0, rfl, by simp, fun k n h => by simp at h⟩
  · refine ⟨some ⟨g, 0, none⟩, cap, rfl, hl, fun k n hk => ⟨g, 0, rfl, ?_⟩⟩
    have hb : Blk w g T cur := hh
    have hkl : k < l.length := (List.getElem?_eq_some_iff.1 hk).1
    rw [Nat.zero_add]
    refine (hb.cell k).trans ?_
    have e : (intCells l)[k]? = some (.int .i64 n) := by unfold intCells; rw [List.getElem?_map, hk]; rfl
    rw [← htk, List.getElem?_take, if_pos (by omega), Array.getElem?_toList] at e
    exact e

theorem copy_any (w : World) (v : Value) (l : List Int) (hs : SlI w v l) (hnn : ∀ n c, v = .slice none n c → c = 0) (hlen : l.length * 8 ≤ 140737488355328) :
    Calls Try.prog 35 #[v] w fun e w' => ∃ v', e = .returned v' ∧ SlI w' v' l ∧ Below w.heap.size w w' := by
  obtain ⟨a0, cap, rfl, hl, hc⟩ := hs
  obtain ⟨i, hi, hz0, hz1, hz2⟩ := info_parts infoI
  cases a0 with
  | none =>
    have hl0 : l = [] := by
      cases l with
      | nil => rfl
      | cons x r => obtain ⟨b, off, h, _⟩ := hc 0 x rfl; cases h
    subst hl0
    obtain rfl : cap = 0 := hnn _ _ rfl
    clear hc hnn
    go_enter Try.func35, Try.ntmps35
    go_wp2_with (at_builtin; refine wpList_append_own_none rfl _ _ _ rfl w.heap.size 3 i 1 Try.underlying36 hi (.slice none 0 0) 0 [] rfl (World.ownsRow_nil _ _ _ _) rfl ?_)
    go_ret
    exact ⟨_, rfl, ⟨none, 0, rfl, by simp, fun k n h => by simp at h⟩, Below.refl _ _⟩
  | some ad =>
    clear hnn
    have hn : ∀ j u, (intCells l)[j]? = some u → w.cell? (ad.add j) = some u := fun j u h => by
      unfold intCells at h
      rw [List.getElem?_map] at h
      cases hx : l[j]? with
      | none => rw [hx] at h; cases h
      | some n =>
        rw [hx] at h
        obtain ⟨b, off, ha, h0⟩ := hc j n hx
        injection ha with ha
        subst ha
        rw [Addr.add_lit, h0]
        exact h
    have Hn := Lib.hid hn
    have ho : ∀ u ∈ intCells l, u.oneCell' = true := fun u hu => by
      unfold intCells at hu
      obtain ⟨n, _, rfl⟩ := List.mem_map.1 hu
      rfl
    have Ho := Lib.hid ho
    have hlc : (intCells l).length = l.length * 1 := by unfold intCells; simp
    clear hn ho hc
    go_enter Try.func35, Try.ntmps35
    go_wp2_with (at_builtin; refine wpList_append_own _ rfl _ _ _ rfl w.heap.size 3 i _ 1 8 Try.underlying36 hi hz0 hz1 hz2 rfl (by omega) (.slice none 0 0) 0 [] rfl (World.ownsRow_nil _ _ _ _) ad l.length cap (intCells l) rfl hlc Hn.out Ho.out (by unfold maxLen; omega) (by omega) (Nat.le_refl _) ?_; intro v' w' hown' hgrow hnil)
    go_ret
    rw [List.nil_append, Nat.zero_add] at hown'
    exact ⟨v', rfl, SlI.own hown' rfl hl, (Below.refl _ _).grown hgrow (Nat.le_refl _) (fun g hg => by cases hg)⟩

end Go.Proofs.YtfpbjjdlchplnaaR
