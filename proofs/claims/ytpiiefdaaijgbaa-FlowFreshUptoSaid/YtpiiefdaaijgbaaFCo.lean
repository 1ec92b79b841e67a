/- The program's check of a list of instructions; its units. -/
import Derived.Test.YtpiiefdaaijgbaaFCn
import Derived.Test.YtpiiefdaaijgbaaFTy
namespace Go.Proofs.Ytpiiefdaaijgbaa
open Go Go.RowKit Go.Wr Go.Fl
set_option maxHeartbeats 4000000
set_option maxRecDepth 100000

theorem at_ins {w : World} {b o : Nat} {x : In} (h : At w b o (inv x).toList) : w.cell? ⟨b, o, none⟩ = some (.int .i64 x.op) ∧ w.cell? ⟨b, o + 1, none⟩ = some (.bool x.nar) ∧ w.cell? ⟨b, o + 2, none⟩ = some (.bool x.reg) ∧ w.cell? ⟨b, o + 3, none⟩ = some (.int .i64 x.sz) ∧
    w.cell? ⟨b, o + 4, none⟩ = some (.int .i64 x.dst) ∧ w.cell? ⟨b, o + 5, none⟩ = some (.int .i64 x.src) ∧ w.cell? ⟨b, o + 6, none⟩ = some (.int .i64 x.off) ∧ w.cell? ⟨b, o + 7, none⟩ = some (.int .i64 x.imm) :=
  ⟨h.cell 0 _ rfl, h.cell 1 _ rfl, h.cell 2 _ rfl, h.cell 3 _ rfl, h.cell 4 _ rfl, h.cell 5 _ rfl, h.cell 6 _ rfl, h.cell 7 _ rfl⟩
theorem retT {a a' b b' : Int} (h1 : a = a') (h2 : b = b') : Ending.returned (.tuple #[.int .i64 a, .int .i64 b]) = .returned (.tuple #[.int .i64 a', .int .i64 b']) := by rw [h1, h2]
theorem chk_cons (k : Nat) (x : In) (l : List In) : chk k (x :: l) = if k = 4096 then (k, 25) else if right x = 0 then chk (k + 1) l else (k, right x) := rfl
theorem check_ok (w : World) (p : Nat) (v : Value) (l : List In) (h : SlX tN p w v l) :
    Calls Try.prog 63 #[v] w fun e w' => e = .returned (.tuple #[.int .i64 (chk 0 l).1, .int .i64 (chk 0 l).2]) ∧ Below w.heap.size w w' := by
  obtain ⟨r, hr⟩ : ∃ r, r = chk 0 l := ⟨_, rfl⟩
  rw [← hr]
  have HR := Lib.hid hr
  obtain ⟨a0, cap, rfl, h1, h2⟩ := h.form
  have H := Lib.hid h
  unfold maxLen at h2
  clear hr h
  go_enter Try.func63, Try.ntmps63
  go_wp2
  go_loopw [9] (fun t wr => ∃ k : Nat, k ≤ l.length ∧ t = .int .i64 (k : Int) ∧ Hid (r = chk k (l.drop k)) ∧ Below w.heap.size w wr) (fun t _ => l.length - (intOf t).toNat)
  case atStart => exact ⟨0, by omega, rfl, HR.out, bRefl w⟩
  case round =>
    clear HR
    obtain ⟨k, hk, rfl, hq, hb⟩ := hrel
    by_cases hlt : k < l.length
    · have hlt' : (k : Int) < (l.length : Int) := by omega
      obtain ⟨x, hx⟩ : ∃ x, l[k]? = some x := ⟨_, List.getElem?_eq_getElem hlt⟩
      have hd : l.drop k = x :: l.drop (k + 1) := by
        rw [List.drop_eq_getElem_cons hlt]
        rw [List.getElem?_eq_getElem hlt] at hx
        injection hx with hx
        rw [hx]
      have hq2 := hq.out
      rw [hd, chk_cons] at hq2
      obtain ⟨bb, off, rfl, hne, hat⟩ := (H.out.below hb).get hx
      obtain ⟨c0, c1, c2, c3, c4, c5, c6, c7⟩ := at_ins hat
      have e8 : tN.n = 8 := rfl
      rw [e8] at c0 c1 c2 c3 c4 c5 c6 c7
      clear hq hd hx hat e8
      have HQ := Lib.hid hq2
      clear hq2
      by_cases h4 : k = 4096
      · have e1 : Hid (r = (k, 25)) := by show _ = _; rw [HQ.out, if_pos h4]
        subst h4
        clear HQ
        go_wp2
        go_ret2
        exact ⟨retT (by rw [e1.out]) (by rw [e1.out]), hb.alloc hb.size _⟩
      · have HQ2 := Lib.hid (HQ.out.trans (if_neg h4))
        have h4' : ((k : Int) == 4096) = false := by simp; omega
        clear HQ h4
        go_wp2_with fail
        refine (right_ok _ x).mono ?_
        rintro e w2 ⟨rfl, b2⟩
        have t2 := bThen (hb.alloc hb.size _) b2
        clear b2
        by_cases hr0 : right x = 0
        · have e1 : Hid (r = chk (k + 1) (l.drop (k + 1))) := by show _ = _; rw [HQ2.out, if_pos hr0]
          rw [hr0]
          clear HQ2 hr0 hb
          go_wp2
          go_roundw
          all_goals first
            | exact ⟨k + 1, by omega, by go_num, e1, t2⟩
            | ((repeat apply Exists.intro); exact ⟨⟨k + 1, by omega, by go_num, e1, t2⟩, rfl⟩)
            | (simp [intOf]; omega)
        · have e1 : Hid (r = (k, right x)) := by show _ = _; rw [HQ2.out, if_neg hr0]
          have hr0' : (right x != 0) = true := by simpa using hr0
          generalize right x = q at *
          clear HQ2 hr0 hb
          go_wp2
          go_ret2
          exact ⟨retT (by rw [e1.out]) (by rw [e1.out]), t2⟩
    · obtain rfl : k = l.length := by omega
      have e1 : Hid (r = (0, 0)) := by show _ = _; rw [hq.out, List.drop_length]; rfl
      clear hlt hq
      go_wp2
      go_ret2
      exact ⟨retT (by rw [e1.out]; rfl) (by rw [e1.out]), hb⟩

def wideB (op : Int) : Bool := op == 20 || op == 21
theorem wide_ok (w : World) (op : Int) : Calls Try.prog 122 #[.int .i64 op] w fun e w' => e = .returned (.bool (wideB op)) ∧ w' = w := by
  unfold wideB
  by_cases h1 : op = 20
  · subst h1
    go_enter Try.func122, Try.ntmps122
    go_wp2
    go_ret
    exact ⟨rfl, rfl⟩
  · have h1' : (op == 20) = false := by simpa using h1
    go_enter Try.func122, Try.ntmps122
    go_wp2
    go_ret
    exact ⟨retB (by rw [h1']; rfl), rfl⟩
theorem wd_wide (x : In) : wd x = if wideB x.op then 2 else 1 := by unfold wd wideB; simp
/-- Units, so far. -/
def unitsI (l : List In) (k : Nat) : List Int := (List.range (k + 1)).map fun i => ((unit l i : Nat) : Int)
theorem unitsI_len (l : List In) (k : Nat) : (unitsI l k).length = k + 1 := by simp [unitsI]
theorem unitsI_succ (l : List In) (k : Nat) : unitsI l (k + 1) = unitsI l k ++ [((unit l (k + 1) : Nat) : Int)] := by
  unfold unitsI; rw [List.range_succ, List.map_append]; rfl
theorem units_ok (w : World) (p : Nat) (v : Value) (l : List In) (h : SlX tN p w v l) (hl : l.length ≤ 1099511627776) :
    Calls Try.prog 93 #[v] w fun e w' => Below w.heap.size w w' ∧ ∃ g c, e = .returned (.slice (some ⟨g, 0, none⟩) (l.length + 1) c) ∧ OwR tI w.heap.size w' (.slice (some ⟨g, 0, none⟩) (l.length + 1) c) (unitsI l l.length) := by
  obtain ⟨a0, cap, rfl, h1, h2⟩ := h.form
  have H := Lib.hid h
  unfold maxLen at h2
  have HU0 := Lib.hid (show OwR tI w.heap.size (w.alloc (.cells #[.int .i64 0] 3)) (.slice (some ⟨w.heap.size, 0, none⟩) 1 1) (unitsI l 0) from OwR.new rfl rfl (by unfold maxLen; simp [unitsI]))
  clear h
  go_enter Try.func93, Try.ntmps93
  go_wp2
  go_loopw [3, 4, 10] (fun t3 t4 t wr => ∃ k g c : Nat, k ≤ l.length ∧ t3 = .slice (some ⟨g, 0, none⟩) (k + 1) c ∧ t4 = .int .i64 ((unit l k : Nat) : Int) ∧ t = .int .i64 (k : Int) ∧ Hid (OwR tI w.heap.size wr (.slice (some ⟨g, 0, none⟩) (k + 1) c) (unitsI l k)) ∧ Below w.heap.size w wr) (fun _ _ t _ => l.length - (intOf t).toNat)
  case atStart => exact ⟨0, w.heap.size, 1, by omega, rfl, rfl, rfl, HU0.out, bAl (bRefl w) _⟩
  case round =>
    clear HU0
    obtain ⟨k, g, c, hk, rfl, rfl, rfl, ho, hb⟩ := hrel
    by_cases hlt : k < l.length
    · have hlt' : (k : Int) < (l.length : Int) := by omega
      obtain ⟨x, hx⟩ : ∃ x, l[k]? = some x := ⟨_, List.getElem?_eq_getElem hlt⟩
      have hu := unit_le (l := l) (i := k) hk
      have hs := unit_succ hx
      have hUS := unitsI_succ l k
      rw [hs] at hUS
      have HUS := Lib.hid hUS
      have hsz := hb.size
      obtain ⟨bb, off, rfl, hne, hat⟩ := (H.out.below hb).get hx
      obtain ⟨c0, c1, c2, c3, c4, c5, c6, c7⟩ := at_ins hat
      have e8 : tN.n = 8 := rfl
      rw [e8] at c0 c1 c2 c3 c4 c5 c6 c7
      have hw := wd_wide x
      generalize hun : unit l k = u at *
      have HS := Lib.hid hs
      have HUN := Lib.hid hun
      clear hs hun hUS hx hat e8
      cases hwb : wideB x.op with
      | true =>
        have HW := Lib.hid hwb
        have HWD := Lib.hid (show wd x = 2 by rw [hw, hwb]; rfl)
        clear hw hwb
        go_wp2_with (first | (go_at_call 122; refine (wide_ok _ _).mono ?_; rintro e w1 ⟨rfl, rfl⟩; rw [HW.out]) | (at_builtin; refine wpl_push tI rfl _ _ rfl w.heap.size _ (unitsI l k) rfl ((ho.out.alloc _).alloc _) _ 0 1 1 [((u : Int) + 1 + 1)] rfl rfl (rangeNew (by simp) (by rfl)) (by rw [unitsI_len]; unfold maxLen; simp; omega) (by rw [unitsI_len]; show _ * 8 ≤ _; simp; omega) (by simp; omega) ?_; intro v' w9 hown hgrow hform))
        obtain ⟨g', c', rfl, _⟩ := hform (by simp)
        rw [unitsI_len] at hown ⊢
        have b9 : Below w.heap.size w w9 := ((hb.alloc hsz _).alloc (by simp; omega) _).grown hgrow (by simp; omega) (fun q hq => by injection hq with hq; rw [← hq]; exact (ho.out.blk rfl).1)
        have ev : ((u : Int) + 1 + 1 : Int) = ((unit l (k + 1) : Nat) : Int) := by rw [HS.out, HWD.out]; omega
        have ho9 : Hid (OwR tI w.heap.size w9 (.slice (some ⟨g', 0, none⟩) (k + 1 + 1) c') (unitsI l (k + 1))) := by
          show OwR _ _ _ _ _
          rw [HUS.out, HWD.out]
          exact hown
        rw [ev]
        first
          | exact ⟨⟨k + 1, g', c', by omega, rfl, rfl, by go_num, ho9, b9⟩, by simp [intOf]; omega⟩
      | false =>
        have HW := Lib.hid hwb
        have HWD := Lib.hid (show wd x = 1 by rw [hw, hwb]; rfl)
        clear hw hwb
        go_wp2_with (first | (go_at_call 122; refine (wide_ok _ _).mono ?_; rintro e w1 ⟨rfl, rfl⟩; rw [HW.out]) | (at_builtin; refine wpl_push tI rfl _ _ rfl w.heap.size _ (unitsI l k) rfl ((ho.out.alloc _).alloc _) _ 0 1 1 [((u : Int) + 1)] rfl rfl (rangeNew (by simp) (by rfl)) (by rw [unitsI_len]; unfold maxLen; simp; omega) (by rw [unitsI_len]; show _ * 8 ≤ _; simp; omega) (by simp; omega) ?_; intro v' w9 hown hgrow hform))
        obtain ⟨g', c', rfl, _⟩ := hform (by simp)
        rw [unitsI_len] at hown ⊢
        have b9 : Below w.heap.size w w9 := ((hb.alloc hsz _).alloc (by simp; omega) _).grown hgrow (by simp; omega) (fun q hq => by injection hq with hq; rw [← hq]; exact (ho.out.blk rfl).1)
        have ev : ((u : Int) + 1 : Int) = ((unit l (k + 1) : Nat) : Int) := by rw [HS.out, HWD.out]; omega
        have ho9 : Hid (OwR tI w.heap.size w9 (.slice (some ⟨g', 0, none⟩) (k + 1 + 1) c') (unitsI l (k + 1))) := by
          show OwR _ _ _ _ _
          rw [HUS.out, HWD.out]
          exact hown
        rw [ev]
        first
          | exact ⟨⟨k + 1, g', c', by omega, rfl, rfl, by go_num, ho9, b9⟩, by simp [intOf]; omega⟩
    · obtain rfl : k = l.length := by omega
      clear hlt
      go_wp2
      go_ret
      exact ⟨hb, g, c, rfl, ho.out⟩
end Go.Proofs.Ytpiiefdaaijgbaa
