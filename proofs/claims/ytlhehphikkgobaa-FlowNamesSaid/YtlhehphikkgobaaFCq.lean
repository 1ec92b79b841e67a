/- Copies of rows of blocks and of loops. -/
import Derived.Test.YtlhehphikkgobaaFCp
namespace Go.Proofs.Ytlhehphikkgobaa
open Go Go.RowKit Go.Wr Go.Fl
set_option maxHeartbeats 4000000
set_option maxRecDepth 100000

theorem slx_range {α : Type} (R : RT Try.prog α) {p : Nat} {w : World} {b o n cap : Nat} {l : List α} (h : SlX R p w (.slice (some ⟨b, o, none⟩) n cap) l) : w.rangeAt b o (R.cs l) := by
  intro j v hj
  have hn := R.npos
  have hjl : j < (R.cs l).length := by
    rcases Nat.lt_or_ge j (R.cs l).length with h1 | h1
    · exact h1
    · rw [List.getElem?_eq_none h1] at hj; cases hj
  rw [R.cs_len] at hjl
  have hk : j / R.n < l.length := Nat.div_lt_of_lt_mul (by rw [Nat.mul_comm]; exact hjl)
  have hr : j % R.n < R.n := Nat.mod_lt _ hn
  have hx : l[j / R.n]? = some l[j / R.n] := List.getElem?_eq_getElem hk
  have e : j / R.n * R.n + j % R.n = j := by rw [Nat.mul_comm]; exact Nat.div_add_mod j R.n
  obtain ⟨b', o', e1, _, c⟩ := h.get hx
  injection e1 with e1
  injection e1 with e1 e2
  subst e1; subst e2
  have g := R.cs_get l (j / R.n) (j % R.n) _ hx hr
  rw [e, hj] at g
  have := c.cell (j % R.n) v g.symm
  rw [Nat.add_assoc, e] at this
  exact this
theorem own_emptyR {α : Type} (R : RT Try.prog α) (w : World) : OwR R w.heap.size (w.alloc (.cells #[] R.T)) (.slice (some ⟨w.heap.size, 0, none⟩) 0 0) [] :=
  ⟨(Nat.zero_mul _).symm, Or.inr ⟨w.heap.size, 0, #[], rfl, Nat.le_refl _, Array.getElem?_push_size, Nat.le_refl _, by unfold maxLen; omega, (Nat.zero_mul _).symm, by simp [RT.cs]⟩⟩
theorem cloneB_ok (w : World) (p : Nat) (v : Value) (l : List Bk) (h : SlX tK p w v l) (hl : l.length ≤ 1099511627776) :
    Calls Try.prog 46 #[v] w fun e w' => Below w.heap.size w w' ∧ ∃ v', e = .returned v' ∧ OwR tK w.heap.size w' v' l := by
  obtain ⟨a0, cap, rfl, h1, h2⟩ := h.form
  unfold maxLen at h2
  by_cases hb : l = []
  · subst hb
    cases a0 with
    | none =>
      clear h
      go_enter Try.func46, Try.ntmps46
      go_wp2
      rw [Go.Lib.run_eql_slice_nil _ _ _ _ _ _ _ _ Try.underlying29]
      go_wp2
      go_ret
      exact ⟨bRefl w, .slice none 0 0, rfl, World.ownsRow_nil _ _ _ _⟩
    | some ad =>
      clear h
      go_enter Try.func46, Try.ntmps46
      go_wp2
      rw [Go.Lib.run_eql_slice_nil _ _ _ _ _ _ _ _ Try.underlying29]
      go_wp2
      go_ret
      exact ⟨bAl (bRefl w) _, _, rfl, own_emptyR tK w⟩
  · have hpos : 0 < l.length := List.length_pos_iff.2 hb
    obtain ⟨b, o, rfl, _, hat⟩ := h.get (List.getElem?_eq_getElem hpos)
    have hlt : b < w.heap.size := hat.1
    have HN := Lib.hid (fun j v hj => (World.cell?_of_block ((bAl (bRefl w) (.cells #[] 58)).block b hlt)).trans (slx_range tK h j v hj) : (w.alloc (.cells #[] 58)).rangeAt b o (tK.cs l))
    have HE := Lib.hid (own_emptyR tK w)
    clear h hat
    go_enter Try.func46, Try.ntmps46
    go_wp2
    rw [Go.Lib.run_eql_slice_nil _ _ _ _ _ _ _ _ Try.underlying29]
    go_wp2_with (at_builtin; refine wpl_push tK rfl _ _ rfl w.heap.size _ [] rfl HE.out b o l.length cap l rfl rfl HN.out (by unfold maxLen; simp; omega) (by show _ * 40 ≤ _; simp; omega) (by simp) ?_; intro v' w9 hown hgrow hform)
    have hb9 := (bAl (bRefl w) (.cells #[] 58)).grown hgrow (by simp) (fun k hk => by injection hk with hk; simp at hk; omega)
    obtain ⟨g, c', rfl, _⟩ := hform hb
    have HW := Lib.hid hown
    clear hown hgrow hform
    go_wp2
    go_ret
    exact ⟨hb9, _, rfl, HW.out⟩

theorem cloneA_ok (w : World) (p : Nat) (v : Value) (l : List Ar) (h : SlX tA p w v l) (hl : l.length ≤ 1099511627776) :
    Calls Try.prog 48 #[v] w fun e w' => Below w.heap.size w w' ∧ ∃ v', e = .returned v' ∧ OwR tA w.heap.size w' v' l := by
  obtain ⟨a0, cap, rfl, h1, h2⟩ := h.form
  unfold maxLen at h2
  by_cases hb : l = []
  · subst hb
    cases a0 with
    | none =>
      clear h
      go_enter Try.func48, Try.ntmps48
      go_wp2
      rw [Go.Lib.run_eql_slice_nil _ _ _ _ _ _ _ _ Try.underlying32]
      go_wp2
      go_ret
      exact ⟨bRefl w, .slice none 0 0, rfl, World.ownsRow_nil _ _ _ _⟩
    | some ad =>
      clear h
      go_enter Try.func48, Try.ntmps48
      go_wp2
      rw [Go.Lib.run_eql_slice_nil _ _ _ _ _ _ _ _ Try.underlying32]
      go_wp2
      go_ret
      exact ⟨bAl (bRefl w) _, _, rfl, own_emptyR tA w⟩
  · have hpos : 0 < l.length := List.length_pos_iff.2 hb
    obtain ⟨b, o, rfl, _, hat⟩ := h.get (List.getElem?_eq_getElem hpos)
    have hlt : b < w.heap.size := hat.1
    have HN := Lib.hid (fun j v hj => (World.cell?_of_block ((bAl (bRefl w) (.cells #[] 60)).block b hlt)).trans (slx_range tA h j v hj) : (w.alloc (.cells #[] 60)).rangeAt b o (tA.cs l))
    have HE := Lib.hid (own_emptyR tA w)
    clear h hat
    go_enter Try.func48, Try.ntmps48
    go_wp2
    rw [Go.Lib.run_eql_slice_nil _ _ _ _ _ _ _ _ Try.underlying32]
    go_wp2_with (at_builtin; refine wpl_push tA rfl _ _ rfl w.heap.size _ [] rfl HE.out b o l.length cap l rfl rfl HN.out (by unfold maxLen; simp; omega) (by show _ * 40 ≤ _; simp; omega) (by simp) ?_; intro v' w9 hown hgrow hform)
    have hb9 := (bAl (bRefl w) (.cells #[] 60)).grown hgrow (by simp) (fun k hk => by injection hk with hk; simp at hk; omega)
    obtain ⟨g, c', rfl, _⟩ := hform hb
    have HW := Lib.hid hown
    clear hown hgrow hform
    go_wp2
    go_ret
    exact ⟨hb9, _, rfl, HW.out⟩

end Go.Proofs.Ytlhehphikkgobaa
