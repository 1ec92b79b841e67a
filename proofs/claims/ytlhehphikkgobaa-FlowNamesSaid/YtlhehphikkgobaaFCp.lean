/- Copies of rows of numbers: the law's CopyInts, and the slices' Clone. -/
import Derived.Test.YtlhehphikkgobaaFStr
import Derived.Lib.SliceRun
namespace Go.Proofs.Ytlhehphikkgobaa
open Go Go.RowKit Go.Wr Go.Fl
set_option maxHeartbeats 4000000
set_option maxRecDepth 100000

theorem slx_ints {p : Nat} {w : World} {b o n cap : Nat} {l : List Int} (h : SlX tI p w (.slice (some ⟨b, o, none⟩) n cap) l) : w.rangeAt b o (tI.cs l) := by
  intro j v hj
  have e : tI.cs l = l.map (fun x => Value.int .i64 x) := by
    clear hj h
    induction l with
    | nil => rfl
    | cons x l ih => show tI.f x ++ tI.cs l = _; rw [ih]; rfl
  rw [e, List.getElem?_map] at hj
  match hx : l[j]?, hj with
  | some x, hj =>
    obtain ⟨b', o', e1, _, _, c⟩ := SlX.int h hx
    injection e1 with e1
    injection e1 with e1 e2
    subst e1; subst e2
    injection hj with hj
    subst hj
    exact c

theorem copyInts_ok (w : World) (p : Nat) (v : Value) (l : List Int) (h : SlX tI p w v l) (hl : l.length ≤ 1099511627776) :
    Calls Try.prog 50 #[v] w fun e w' => Below w.heap.size w w' ∧ ∃ v', e = .returned v' ∧ OwR tI w.heap.size w' v' l := by
  obtain ⟨a0, cap, rfl, h1, h2⟩ := h.form
  unfold maxLen at h2
  by_cases hb : l = []
  · subst hb
    cases a0 with
    | none =>
      clear h
      go_enter Try.func50, Try.ntmps50
      go_wp2
      go_ret
      exact ⟨bRefl w, .slice none 0 0, rfl, World.ownsRow_nil _ _ _ _⟩
    | some ad =>
      clear h
      go_enter Try.func50, Try.ntmps50
      go_wp2
      go_ret
      exact ⟨bRefl w, .slice none 0 0, rfl, World.ownsRow_nil _ _ _ _⟩
  · have hpos : 0 < l.length := List.length_pos_iff.2 hb
    obtain ⟨b, o, rfl, _⟩ := h.get (List.getElem?_eq_getElem hpos)
    have HN := Lib.hid (slx_ints h)
    clear h
    go_enter Try.func50, Try.ntmps50
    go_wp2_with (at_builtin; refine wpl_push tI rfl _ _ rfl w.heap.size (.slice none 0 0) [] rfl (World.ownsRow_nil _ _ _ _) b o l.length cap l rfl rfl HN.out (by unfold maxLen; simp; omega) (by show _ * 8 ≤ _; simp; omega) (by omega) ?_; intro v' w9 hown hgrow hform)
    have hb9 := (bRefl w).grown hgrow (Nat.le_refl _) (fun k hk => by cases hk)
    obtain ⟨g, c', rfl, _⟩ := hform hb
    have HW := Lib.hid hown
    clear hown hgrow hform
    go_wp2
    go_ret
    exact ⟨hb9, _, rfl, HW.out⟩

theorem own_empty (w : World) : OwR tI w.heap.size (w.alloc (.cells #[] 3)) (.slice (some ⟨w.heap.size, 0, none⟩) 0 0) [] :=
  ⟨rfl, Or.inr ⟨w.heap.size, 0, #[], rfl, Nat.le_refl _, Array.getElem?_push_size, Nat.le_refl _, by unfold maxLen; omega, rfl, rfl⟩⟩
theorem cloneI_ok (w : World) (p : Nat) (v : Value) (l : List Int) (h : SlX tI p w v l) (hl : l.length ≤ 1099511627776) :
    Calls Try.prog 47 #[v] w fun e w' => Below w.heap.size w w' ∧ ∃ v', e = .returned v' ∧ OwR tI w.heap.size w' v' l := by
  obtain ⟨a0, cap, rfl, h1, h2⟩ := h.form
  unfold maxLen at h2
  by_cases hb : l = []
  · subst hb
    cases a0 with
    | none =>
      clear h
      go_enter Try.func47, Try.ntmps47
      go_wp2
      rw [Go.Lib.run_eql_slice_nil _ _ _ _ _ _ _ _ Try.underlying33]
      go_wp2
      go_ret
      exact ⟨bRefl w, .slice none 0 0, rfl, World.ownsRow_nil _ _ _ _⟩
    | some ad =>
      clear h
      go_enter Try.func47, Try.ntmps47
      go_wp2
      rw [Go.Lib.run_eql_slice_nil _ _ _ _ _ _ _ _ Try.underlying33]
      go_wp2
      go_ret
      exact ⟨bAl (bRefl w) _, _, rfl, own_empty w⟩
  · have hpos : 0 < l.length := List.length_pos_iff.2 hb
    obtain ⟨b, o, rfl, _, hat⟩ := h.get (List.getElem?_eq_getElem hpos)
    have hlt : b < w.heap.size := hat.1
    have HN := Lib.hid (fun j v hj => (World.cell?_of_block ((bAl (bRefl w) (.cells #[] 3)).block b hlt)).trans (slx_ints h j v hj) : (w.alloc (.cells #[] 3)).rangeAt b o (tI.cs l))
    have HE := Lib.hid (own_empty w)
    clear h hat
    go_enter Try.func47, Try.ntmps47
    go_wp2
    rw [Go.Lib.run_eql_slice_nil _ _ _ _ _ _ _ _ Try.underlying33]
    go_wp2_with (at_builtin; refine wpl_push tI rfl _ _ rfl w.heap.size _ [] rfl HE.out b o l.length cap l rfl rfl HN.out (by unfold maxLen; simp; omega) (by show _ * 8 ≤ _; simp; omega) (by simp) ?_; intro v' w9 hown hgrow hform)
    have hb9 := (bAl (bRefl w) (.cells #[] 3)).grown hgrow (by simp) (fun k hk => by injection hk with hk; simp at hk; omega)
    obtain ⟨g, c', rfl, _⟩ := hform hb
    have HW := Lib.hid hown
    clear hown hgrow hform
    go_wp2
    go_ret
    exact ⟨hb9, _, rfl, HW.out⟩

/-- Order: a copy of the flow's order. -/
theorem order_ok (w : World) (q p : Nat) (v : Value) (l : List Int) (hc : w.cell? ⟨q, 3, none⟩ = some v) (h : SlX tI p w v l) (hl : l.length ≤ 1099511627776) :
    Calls Try.prog 26 #[.pointer (some ⟨q, 0, none⟩)] w fun e w' => Below w.heap.size w w' ∧ ∃ v', e = .returned v' ∧ OwR tI w.heap.size w' v' l := by
  obtain ⟨a0, cap, rfl, h1, h2⟩ := h.form
  have H := Lib.hid h
  clear h
  go_enter Try.func26, Try.ntmps26
  go_wp2_with (go_at_call 47; refine (cloneI_ok w p _ l H.out hl).mono ?_; rintro e w9 ⟨hb, v', rfl, ho⟩)
  have HO := Lib.hid ho
  clear ho
  go_wp2
  go_ret
  exact ⟨hb, v', rfl, HO.out⟩
end Go.Proofs.Ytlhehphikkgobaa
