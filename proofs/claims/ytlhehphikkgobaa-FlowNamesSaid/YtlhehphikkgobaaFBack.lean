/- The reference's back: does an edge lead to a block that dominates? -/
import Derived.Test.YtlhehphikkgobaaFCq
namespace Go.Proofs.Ytlhehphikkgobaa
open Go Go.RowKit Go.Wr Go.Fl
set_option maxHeartbeats 4000000
set_option maxRecDepth 100000

theorem back_ok (w : World) (q p : Nat) (vo : Value) (rows : List Sv) (hc : w.cell? ⟨q, 1, none⟩ = some vo) (h : SlX tBB p w vo rows) (u v : Nat) (s : Sv) (hs : rows[v]? = some s) (l : List Bool) (hl : SlX tB p w s.v l) (x : Bool) (hx : l[u]? = some x) :
    Calls Try.prog 91 #[.pointer (some ⟨q, 0, none⟩), .int .i64 u, .int .i64 v] w fun e w' => Below w.heap.size w w' ∧ e = .returned (.bool x) := by
  obtain ⟨a0, cap, rfl, h1, h2⟩ := h.form
  have hv : v < rows.length := by
    rcases Nat.lt_or_ge v rows.length with k | k
    · exact k
    · rw [List.getElem?_eq_none k] at hs; cases hs
  obtain ⟨b, o, rfl, _, hat⟩ := h.get hs
  have c0 := hat.cell 0 _ rfl
  have e0 : o + v * tBB.n + 0 = o + v := by show o + v * 1 + 0 = _; omega
  rw [e0] at c0
  obtain ⟨a1, cap1, e1, h3, h4⟩ := hl.form
  rw [e1] at c0 hl
  have hu : u < l.length := by
    rcases Nat.lt_or_ge u l.length with k | k
    · exact k
    · rw [List.getElem?_eq_none k] at hx; cases hx
  obtain ⟨b1, o1, rfl, _, _, c1⟩ := SlX.bool hl hx
  have hvi : (v : Int) < (rows.length : Int) := by omega
  have hui : (u : Int) < (l.length : Int) := by omega
  unfold maxLen at h2 h4
  clear h hl hat hs hx e0 e1
  go_enter Try.func91, Try.ntmps91
  go_wp2
  go_ret
  exact ⟨bRefl w, rfl⟩
end Go.Proofs.Ytlhehphikkgobaa
