/- The law's CopyBytes: the bytes in new memory. -/
import Derived.Test.YtfdjdpbiccclfaaDKn
import Derived.Deep.DeepAppendWide
namespace Go.Proofs.Ytfdjdpbiccclfaa
open Go Go.RowKit Go.Wr
set_option maxHeartbeats 4000000
set_option maxRecDepth 100000

theorem SlBy.news {B : Nat} {w : World} {v : Value} {b : List Nat} (h : SlBy B w v b) {ad : Addr} {n c : Nat} (hv : v = .slice (some ad) n c) (hb : b ≠ []) : n = b.length ∧ ad.spot = none ∧ ∀ (j : Nat) (u : Value), (bcells b)[j]? = some u → w.cell? (ad.add j) = some u := by
  obtain ⟨a0, cap, rfl, h1, h2, hc⟩ := h
  simp only [Value.slice.injEq] at hv
  obtain ⟨rfl, rfl, rfl⟩ := hv
  obtain ⟨x, hx⟩ : ∃ x, b[0]? = some x := ⟨_, List.getElem?_eq_getElem (List.length_pos_iff.2 hb)⟩
  obtain ⟨bb, off, e, _⟩ := hc 0 x hx
  injection e with e
  subst e
  refine ⟨rfl, rfl, fun j u hj => ?_⟩
  simp only [bcells, List.getElem?_map, Option.map_eq_some_iff] at hj
  obtain ⟨y, hy, rfl⟩ := hj
  obtain ⟨bb', off', e, _, _, h4⟩ := hc j y hy
  simp only [Option.some.injEq, Addr.mk.injEq, and_true] at e
  obtain ⟨rfl, rfl⟩ := e
  rw [Addr.add_lit]
  exact h4

theorem copybytes_ok (w : World) (v : Value) (b : List Nat) (h : SlBy w.heap.size w v b) (hl : b.length ≤ 140737488351232) :
    Calls Try.prog 24 #[v] w fun e w' => Below w.heap.size w w' ∧ ∃ v', e = .returned v' ∧ w'.ownsRow w.heap.size 5 1 v' b.length (bcells b) ∧ (b ≠ [] → ∃ g c, v' = .slice (some ⟨g, 0, none⟩) b.length c) := by
  have H := Lib.hid h
  obtain ⟨a0, cap, hv, hc1, hc2, hcell⟩ := h
  subst hv
  cases a0 with
  | none =>
    have hb : b = [] := by
      cases b with
      | nil => rfl
      | cons x l => obtain ⟨_, _, e, _⟩ := hcell 0 x rfl; cases e
    subst hb
    clear hcell
    go_enter Try.func24, Try.ntmps24
    go_wp2
    go_ret
    exact ⟨bRefl w, .slice none 0 0, rfl, World.ownsRow_nil _ _ _ _, fun h => absurd rfl h⟩
  | some ad =>
    by_cases hb : b = []
    · subst hb
      clear hcell
      go_enter Try.func24, Try.ntmps24
      go_wp2
      go_ret
      exact ⟨bRefl w, .slice none 0 0, rfl, World.ownsRow_nil _ _ _ _, fun h => absurd rfl h⟩
    · obtain ⟨_, _, hnews⟩ := H.out.news rfl hb
      have HN := Lib.hid hnews
      obtain ⟨i, hi, hz0, hz1, hz2⟩ := info_parts infoU8
      have Hi := Lib.hid hi
      have hone : ∀ u ∈ bcells b, u.oneCell' = true := fun u hu => by
        obtain ⟨n, _, rfl⟩ := List.mem_map.1 hu
        rfl
      have HO := Lib.hid hone
      have hpos : 0 < b.length := List.length_pos_iff.2 hb
      clear hcell hnews hi hone
      go_enter Try.func24, Try.ntmps24
      go_wp2_with (at_builtin; refine wpList_append_own _ rfl _ _ _ rfl w.heap.size 5 i _ 1 1 Try.underlying28 Hi.out hz0 hz1 hz2 rfl (by omega) (.slice none 0 0) 0 [] rfl (World.ownsRow_nil _ _ _ _) ad b.length cap (bcells b) rfl (by rw [bcells_len, Nat.mul_one]) HN.out HO.out (by unfold maxLen; omega) (by omega) (by omega) ?_; intro v' w9 hown hgrow hnil)
      rw [Nat.zero_add, List.nil_append] at hown
      have hb9 := (bRefl w).grown hgrow (Nat.le_refl _) (fun k hk => by cases hk)
      obtain ⟨g, c', rfl, _⟩ := hown.form hpos
      have HW := Lib.hid hown
      clear hown hgrow hnil
      go_wp2
      go_ret
      exact ⟨hb9, .slice (some ⟨g, 0, none⟩) b.length c', rfl, HW.out, ⟨g, c', rfl⟩⟩
end Go.Proofs.Ytfdjdpbiccclfaa
