/- The document's units. -/
import Derived.Test.YtpiiefdaaijgbaaFGoes
namespace Go.Proofs.Ytpiiefdaaijgbaa
open Go Go.RowKit Go.Wr Go.Fl
set_option maxHeartbeats 4000000
set_option maxRecDepth 100000

theorem runits_ok (w : World) (p : Nat) (v : Value) (l : List In) (h : SlX tN p w v l) (hl : l.length ≤ 1099511627776) :
    Calls Try.prog 72 #[v] w fun e w' => Below w.heap.size w w' ∧ ∃ g c, e = .returned (.slice (some ⟨g, 0, none⟩) (l.length + 1) c) ∧ OwR tI w.heap.size w' (.slice (some ⟨g, 0, none⟩) (l.length + 1) c) (unitsI l l.length) := by
  obtain ⟨a0, cap, rfl, h1, h2⟩ := h.form
  have H := Lib.hid h
  unfold maxLen at h2
  have HU0 := Lib.hid (show OwR tI w.heap.size (w.alloc (.cells #[.int .i64 0] 3)) (.slice (some ⟨w.heap.size, 0, none⟩) 1 1) (unitsI l 0) from OwR.new rfl rfl (by unfold maxLen; simp [unitsI]))
  clear h
  go_enter Try.func72, Try.ntmps72
  go_wp2
  go_loopw [3, 4, 5] (fun t4 t3 t wr => ∃ k g c : Nat, k ≤ l.length ∧ t3 = .slice (some ⟨g, 0, none⟩) (k + 1) c ∧ t4 = .int .i64 ((unit l k : Nat) : Int) ∧ t = .int .i64 (k : Int) ∧ Hid (OwR tI w.heap.size wr (.slice (some ⟨g, 0, none⟩) (k + 1) c) (unitsI l k)) ∧ Below w.heap.size w wr) (fun _ _ t _ => l.length - (intOf t).toNat)
  case atStart => exact ⟨0, w.heap.size, 1, by omega, rfl, rfl, rfl, HU0.out, bAl (bRefl w) _⟩
  case round =>
    clear HU0
    obtain ⟨k, g, c, hk, rfl, rfl, rfl, ho, hb⟩ := hrel
    by_cases hlt : k < l.length
    · have hlt' : (k : Int) < (l.length : Int) := by omega
      obtain ⟨x, hx⟩ : ∃ x, l[k]? = some x := ⟨_, List.getElem?_eq_getElem hlt⟩
      have hu := unit_le (l := l) (i := k) hk
      have hs := unit_succ hx
      have hUS := unitsI_succ l k
      rw [hs] at hUS
      have HUS := Lib.hid hUS
      have hsz := hb.size
      obtain ⟨bb, off, rfl, hne, hat⟩ := (H.out.below hb).get hx
      obtain ⟨c0, c1, c2, c3, c4, c5, c6, c7⟩ := at_ins hat
      have e8 : tN.n = 8 := rfl
      rw [e8] at c0 c1 c2 c3 c4 c5 c6 c7
      have hw : wd x = if x.op = 20 ∨ x.op = 21 then 2 else 1 := rfl
      generalize hun : unit l k = u at *
      have HS := Lib.hid hs
      clear hs hun hUS hx hat e8
      by_cases w1 : x.op = 20
      · have n1 : (x.op == 20) = true := by simp [w1]
        have HWD := Lib.hid (show wd x = 2 by rw [hw, if_pos (Or.inl w1)])
        clear hw w1
        go_wp2_with (at_builtin; refine wpl_push tI rfl _ _ rfl w.heap.size _ (unitsI l k) rfl (ho.out.alloc _) _ 0 1 1 [((u : Int) + 1 + 1)] rfl rfl (rangeNew (by rfl) (by rfl)) (by rw [unitsI_len]; unfold maxLen; simp; omega) (by rw [unitsI_len]; show _ * 8 ≤ _; simp; omega) (by simp; omega) ?_; intro v' w9 hown hgrow hform)
        obtain ⟨g', c', rfl, _⟩ := hform (by simp)
        rw [unitsI_len] at hown ⊢
        have b9 : Below w.heap.size w w9 := (hb.alloc hsz _).grown hgrow (by simp; omega) (fun q hq => by injection hq with hq; rw [← hq]; exact (ho.out.blk rfl).1)
        have ev : ((u : Int) + 1 + 1 : Int) = ((unit l (k + 1) : Nat) : Int) := by rw [HS.out, HWD.out]; omega
        have ho9 : Hid (OwR tI w.heap.size w9 (.slice (some ⟨g', 0, none⟩) (k + 1 + 1) c') (unitsI l (k + 1))) := by
          show OwR _ _ _ _ _
          rw [HUS.out, HWD.out]
          exact hown
        rw [ev]
        exact ⟨⟨k + 1, g', c', by omega, rfl, rfl, by go_num, ho9, b9⟩, by simp [intOf]; omega⟩
      · have n1 : (x.op == 20) = false := by simpa using w1
        by_cases w2 : x.op = 21
        · have n2 : (x.op == 21) = true := by simp [w2]
          have HWD := Lib.hid (show wd x = 2 by rw [hw, if_pos (Or.inr w2)])
          clear hw w1 w2
          go_wp2_with (at_builtin; refine wpl_push tI rfl _ _ rfl w.heap.size _ (unitsI l k) rfl (ho.out.alloc _) _ 0 1 1 [((u : Int) + 1 + 1)] rfl rfl (rangeNew (by rfl) (by rfl)) (by rw [unitsI_len]; unfold maxLen; simp; omega) (by rw [unitsI_len]; show _ * 8 ≤ _; simp; omega) (by simp; omega) ?_; intro v' w9 hown hgrow hform)
          obtain ⟨g', c', rfl, _⟩ := hform (by simp)
          rw [unitsI_len] at hown ⊢
          have b9 : Below w.heap.size w w9 := (hb.alloc hsz _).grown hgrow (by simp; omega) (fun q hq => by injection hq with hq; rw [← hq]; exact (ho.out.blk rfl).1)
          have ev : ((u : Int) + 1 + 1 : Int) = ((unit l (k + 1) : Nat) : Int) := by rw [HS.out, HWD.out]; omega
          have ho9 : Hid (OwR tI w.heap.size w9 (.slice (some ⟨g', 0, none⟩) (k + 1 + 1) c') (unitsI l (k + 1))) := by
            show OwR _ _ _ _ _
            rw [HUS.out, HWD.out]
            exact hown
          rw [ev]
          exact ⟨⟨k + 1, g', c', by omega, rfl, rfl, by go_num, ho9, b9⟩, by simp [intOf]; omega⟩
        · have n2 : (x.op == 21) = false := by simpa using w2
          have HWD := Lib.hid (show wd x = 1 by rw [hw, if_neg (fun h => h.elim w1 w2)])
          clear hw w1 w2
          go_wp2_with (at_builtin; refine wpl_push tI rfl _ _ rfl w.heap.size _ (unitsI l k) rfl (ho.out.alloc _) _ 0 1 1 [((u : Int) + 1)] rfl rfl (rangeNew (by rfl) (by rfl)) (by rw [unitsI_len]; unfold maxLen; simp; omega) (by rw [unitsI_len]; show _ * 8 ≤ _; simp; omega) (by simp; omega) ?_; intro v' w9 hown hgrow hform)
          obtain ⟨g', c', rfl, _⟩ := hform (by simp)
          rw [unitsI_len] at hown ⊢
          have b9 : Below w.heap.size w w9 := (hb.alloc hsz _).grown hgrow (by simp; omega) (fun q hq => by injection hq with hq; rw [← hq]; exact (ho.out.blk rfl).1)
          have ev : ((u : Int) + 1 : Int) = ((unit l (k + 1) : Nat) : Int) := by rw [HS.out, HWD.out]; omega
          have ho9 : Hid (OwR tI w.heap.size w9 (.slice (some ⟨g', 0, none⟩) (k + 1 + 1) c') (unitsI l (k + 1))) := by
            show OwR _ _ _ _ _
            rw [HUS.out, HWD.out]
            exact hown
          rw [ev]
          exact ⟨⟨k + 1, g', c', by omega, rfl, rfl, by go_num, ho9, b9⟩, by simp [intOf]; omega⟩
    · obtain rfl : k = l.length := by omega
      clear hlt
      go_wp2
      go_ret
      exact ⟨hb, g, c, rfl, ho.out⟩
end Go.Proofs.Ytpiiefdaaijgbaa
