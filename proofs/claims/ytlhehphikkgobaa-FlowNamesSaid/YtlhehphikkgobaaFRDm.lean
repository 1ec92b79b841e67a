/- The reference's Dominates. -/
import Derived.Test.YtlhehphikkgobaaFBack
namespace Go.Proofs.Ytlhehphikkgobaa
open Go Go.RowKit Go.Wr Go.Fl
set_option maxHeartbeats 4000000
set_option maxRecDepth 100000

theorem rdominates_ok (w : World) (q p n : Nat) (nx : Nat → List Nat) (vo : Value) (rows : List Sv) (ab : Option Addr) (cb : Nat) (hf : w.cell? ⟨q, 0, none⟩ = some (.slice ab n cb)) (hc : w.cell? ⟨q, 1, none⟩ = some vo) (h : SlX tBB p w vo rows) (hn : rows.length = n)
    (hr : ∀ (x : Nat) (s : Sv), rows[x]? = some s → ∃ l : List Bool, l.length = n ∧ SlX tB p w s.v l ∧ ∀ y : Nat, y < n → l[y]? = some (domB nx n x y)) (a b : Int) :
    Calls Try.prog 24 #[.pointer (some ⟨q, 0, none⟩), .int .i64 a, .int .i64 b] w fun e w' => Below w.heap.size w w' ∧ e = .returned (.bool (domB nx n a b)) := by
  by_cases h0 : 0 ≤ a
  · by_cases h1 : a < n
    · by_cases h2 : 0 ≤ b
      · by_cases h3 : b < n
        · obtain ⟨x, rfl⟩ := Int.eq_ofNat_of_zero_le h0
          obtain ⟨y, rfl⟩ := Int.eq_ofNat_of_zero_le h2
          have hx : x < n := by omega
          have hy : y < n := by omega
          obtain ⟨s, hs⟩ : ∃ s, rows[x]? = some s := ⟨_, List.getElem?_eq_getElem (by omega)⟩
          obtain ⟨l, hln, hl, hly⟩ := hr x s hs
          have hly := hly y hy
          generalize domB nx n (x : Int) (y : Int) = B at hly ⊢
          obtain ⟨a0, cap, rfl, k1, k2⟩ := h.form
          obtain ⟨bb, o, rfl, _, hat⟩ := h.get hs
          have c0 := hat.cell 0 _ rfl
          have e0 : o + x * tBB.n + 0 = o + x := by show o + x * 1 + 0 = _; omega
          rw [e0] at c0
          obtain ⟨a1, cap1, e1, h5, h6⟩ := hl.form
          rw [e1] at c0 hl
          obtain ⟨b1, o1, rfl, _, _, c1⟩ := SlX.bool hl hly
          rw [hn] at hc
          rw [hln] at c0
          unfold maxLen at k2 h6
          clear h hl hat hs hly e0 e1 hr
          go_enter Try.func24, Try.ntmps24
          go_wp2
          go_ret
          exact ⟨bRefl w, rfl⟩
        · rw [domB_out (by omega)]
          clear h hr hc
          go_enter Try.func24, Try.ntmps24
          go_wp2
          go_ret
          exact ⟨bRefl w, rfl⟩
      · rw [domB_out (by omega)]
        clear h hr hc
        go_enter Try.func24, Try.ntmps24
        go_wp2
        go_ret
        exact ⟨bRefl w, rfl⟩
    · rw [domB_out (by omega)]
      clear h hr hc
      go_enter Try.func24, Try.ntmps24
      go_wp2
      go_ret
      exact ⟨bRefl w, rfl⟩
  · rw [domB_out (by omega)]
    clear h hr hc
    go_enter Try.func24, Try.ntmps24
    go_wp2
    go_ret
    exact ⟨bRefl w, rfl⟩
end Go.Proofs.Ytlhehphikkgobaa
