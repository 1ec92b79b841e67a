/- The program's targets: where each jump goes, or the first that goes nowhere. -/
import Derived.Test.YtpiiefdaaijgbaaFGoes
import Derived.Maps.Own
import Derived.Maps.OwnOps
import Derived.Maps.OwnSet
import Derived.Maps.Views
import Derived.OwnWalk
namespace Go.Proofs.Ytpiiefdaaijgbaa
open Go Go.RowKit Go.Wr Go.Fl Go.Maps
set_option maxHeartbeats 4000000
set_option maxRecDepth 100000

/-- The units behind k rounds, as a map. -/
def mapU (l : List In) : Nat → DataW Unit
  | 0 => .map []
  | k + 1 => (mapU l k).put (.int .i64 ((unit l k : Nat) : Int)) (.lit (.int .i64 (k : Int)))
theorem mapU_is (l : List In) : ∀ k, IsMap (mapU l k)
  | 0 => isMap_empty
  | k + 1 => (mapU_is l k).put _ _
theorem mapU_has (l : List In) (u : Int) : ∀ k, k ≤ l.length → ((∀ j, j < k → (unit l j : Int) ≠ u) → Maps.has (mapU l k) (.int .i64 u) = false) ∧ (∀ j, j < k → (unit l j : Int) = u → Maps.has (mapU l k) (.int .i64 u) = true ∧ ∀ z, (mapU l k).atKey (.int .i64 u) z = .lit (.int .i64 (j : Int)))
  | 0, _ => ⟨fun _ => rfl, fun j hj => by omega⟩
  | k + 1, hk => by
    obtain ⟨h1, h2⟩ := mapU_has l u k (by omega)
    have hi := mapU_is l k
    refine ⟨fun h => ?_, fun j hj hu => ?_⟩
    · show Maps.has ((mapU l k).put _ _) _ = false
      rw [has_put_other (fun e => by injection e with _ e; exact h k (by omega) e.symm)]
      exact h1 fun j hj => h j (by omega)
    · by_cases e : j = k
      · subst e
        subst hu
        exact ⟨has_put_same hi (show WideAt.IsKeyLit (.int .i64 _) from trivial) _, fun z => atKey_put_same hi (show WideAt.IsKeyLit (.int .i64 _) from trivial) _ z⟩
      · have hne : (unit l j : Int) ≠ (unit l k : Int) := by
          have := unit_lt (l := l) (i := j) (j := k) (by omega) (by omega)
          omega
        obtain ⟨k1, k2⟩ := h2 j (by omega) hu
        have hn : Lit.int .i64 u ≠ Lit.int .i64 ((unit l k : Nat) : Int) := fun e => by injection e with _ e; exact hne (hu.trans e)
        exact ⟨(has_put_other hn _).trans k1, fun z => (atKey_put_other hn _ z).trans (k2 z)⟩
theorem mapU_some {l : List In} {u : Int} {j : Nat} (h : atU l u = some j) : Maps.has (mapU l l.length) (.int .i64 u) = true ∧ ∀ z, (mapU l l.length).atKey (.int .i64 u) z = .lit (.int .i64 (j : Int)) := by
  obtain ⟨h1, h2⟩ := atU_some h
  exact (mapU_has l u l.length (Nat.le_refl _)).2 j h1 h2
theorem mapU_none {l : List In} {u : Int} (h : atU l u = none) : Maps.has (mapU l l.length) (.int .i64 u) = false := (mapU_has l u l.length (Nat.le_refl _)).1 (atU_none h)
def tosI (l : List In) (k : Nat) : List Int := (List.range k).map fun i => oi (tgt l i)
theorem tosI_len (l : List In) (k : Nat) : (tosI l k).length = k := by simp [tosI]
theorem tosI_succ (l : List In) (k : Nat) : tosI l (k + 1) = tosI l k ++ [oi (tgt l k)] := by unfold tosI; rw [List.range_succ, List.map_append]; rfl
/-- What targets answers. -/
def TgtP (B : Nat) (l : List In) (e : Ending) (w' : World) : Prop :=
  (∃ i, i < l.length ∧ lost l i = true ∧ (∀ j, j < i → lost l j = false) ∧ e = .returned (.tuple #[.slice none 0 0, .int .i64 (i : Int), .bool false])) ∨
  ((∀ j, j < l.length → lost l j = false) ∧ ∃ v, e = .returned (.tuple #[v, .int .i64 0, .bool true]) ∧ OwR tI B w' v (tosI l l.length))
theorem OwR.int {B g n c : Nat} {w : World} {l : List Int} (h : OwR tI B w (.slice (some ⟨g, 0, none⟩) n c) l) {k : Nat} {x : Int} (hk : l[k]? = some x) : w.cell? ⟨g, k, none⟩ = some (.int .i64 x) := by
  have := (h.at hk).cell 0 _ rfl
  have e1 : 0 + k * tI.n + 0 = k := by show 0 + k * 1 + 0 = _; omega
  rw [e1] at this
  exact this
theorem ownsMap_below {P : Program} {k : TypeId} {R : Value → Option (DataW Unit × List MemPlace)} {b n : Nat} {D : DataW Unit} {w w' : World} (h : w.ownsMap P k R b n D) (hb : Below w.heap.size w w') : w'.ownsMap P k R b n D := by
  obtain ⟨es, clock, h1, h2⟩ := h
  exact ⟨es, clock, (hb.block b (Go.Wr.lt_of_heap h1)).trans h1, h2⟩
theorem ownsMap_lt {P : Program} {k : TypeId} {R : Value → Option (DataW Unit × List MemPlace)} {b n : Nat} {D : DataW Unit} {w : World} (h : w.ownsMap P k R b n D) : b < w.heap.size := by
  obtain ⟨es, clock, h1, _⟩ := h
  exact Go.Wr.lt_of_heap h1
theorem lawI : Keyed Try.prog 3 := int_keyed Try.underlying3
theorem zeroI (w : World) : (zeroValue 3).run Try.prog w = .ok (.int .i64 0) w := by kernel_rfl
theorem wfI {a : Int} (h : -9223372036854775808 ≤ a ∧ a ≤ 9223372036854775807) : (Lit.int .i64 a).wf = true := WalkArith.wf_i64 h

theorem targets_ok (w : World) (p : Nat) (v : Value) (l : List In) (h : SlX tN p w v l) (hl : l.length ≤ 1048576)
    (hoff : ∀ x ∈ l, -1099511627776 ≤ x.off ∧ x.off ≤ 1099511627776) (himm : ∀ x ∈ l, x.op = 26 → x.nar = true → -1099511627776 ≤ x.imm ∧ x.imm ≤ 1099511627776) :
    Calls Try.prog 64 #[v] w fun e w' => TgtP w.heap.size l e w' ∧ Below w.heap.size w w' := by
  obtain ⟨a0, cap, rfl, h1, h2⟩ := h.form
  have H := Lib.hid h
  unfold maxLen at h2
  have HO := Lib.hid hoff
  have HI := Lib.hid himm
  clear h hoff himm
  have hmm := @run_makeMap Try.prog
  go_enter Try.func64, Try.ntmps64
  go_wp2_with fail
  refine (units_ok _ p _ l H.out (by omega)).mono ?_
  rintro e w1 ⟨b1, gu, cu, rfl, ou⟩
  have H1 := Lib.hid (H.out.below b1)
  have HOU := Lib.hid ou
  have hgu := ou.lt (g := gu) rfl
  clear ou H
  go_wp2
  go_loopw [19] (fun t wr => ∃ k : Nat, k ≤ l.length ∧ t = .int .i64 (k : Int) ∧ Hid (wr.ownsMap Try.prog 3 (plainElem Try.prog 3) w1.heap.size k (mapU l k)) ∧ Below w1.heap.size w1 wr) (fun t _ => l.length - (intOf t).toNat)
  case atStart => exact ⟨0, by omega, rfl, World.ownsMap_made _ _ _ _, bAl (bRefl w1) _⟩
  case round =>
    obtain ⟨k, hk, rfl, hm, hb⟩ := hrel
    have HU2 := Lib.hid (HOU.out.below hb)
    have hul : (unitsI l l.length)[k]? = some ((unit l k : Nat) : Int) := unitsI_get hk
    have cU := OwR.int HU2.out hul
    have hunit := unit_le (l := l) (i := k) hk
    by_cases hlt : k < l.length
    · have hlt' : (k : Int) < (l.length : Int) := by omega
      have hlt2 : (k : Int) < (l.length : Int) + 1 := by omega
      obtain ⟨u, hu⟩ : ∃ u : Int, u = ((unit l k : Nat) : Int) := ⟨_, rfl⟩
      rw [← hu] at cU
      have hwu : (Lit.int .i64 u).wf = true := wfI (by omega)
      have HUU := Lib.hid hu
      clear hu hul hunit HU2
      go_wp2_with (at_mapUpdate; refine wpList_mapUpdate_own _ rfl _ _ _ 128 rfl 3 3 lawI Try.underlying128 _ w1.heap.size k _ rfl hm.out (by unfold maxLen; omega) _ _ _ rfl rfl (keyOf_int_mk Try.underlying3 hwu) _ [] (plainElem_int Try.underlying3 (wfI (by omega))) ?_; intro w9 hown hgrow)
      have hm9 : Hid (w9.ownsMap Try.prog 3 (plainElem Try.prog 3) w1.heap.size (k + 1) (mapU l (k + 1))) := by
        show World.ownsMap _ _ _ _ _ _ _
        have h := hown
        rw [HUU.out] at h
        exact h
      have b9 := hb.grown hgrow hb.size (fun q hq => by injection hq with hq; omega)
      exact ⟨⟨k + 1, by omega, by go_num, hm9, b9⟩, by simp [intOf]; omega⟩
    · obtain rfl : k = l.length := by omega
      have hUl := HU2.out.lt (g := gu) rfl
      have hml := ownsMap_lt hm.out
      have t1 := bThen b1 hb
      have H2 := Lib.hid (H1.out.below hb)
      have HM := Lib.hid hm.out
      obtain ⟨mb, hmb⟩ : ∃ mb, mb = w1.heap.size := ⟨_, rfl⟩
      rw [← hmb] at HM hml ⊢
      obtain ⟨W, rfl⟩ : ∃ W : World, W = wr := ⟨_, rfl⟩
      have hWw := t1.size
      clear hlt hm hb H1 HOU hul cU hunit hmm hmb b1 hgu
      go_wp2
      go_loopw [2, 31] (fun v t wr => ∃ (k : Nat) (v0 : Value), k ≤ l.length ∧ v0 = v ∧ t = .int .i64 (k : Int) ∧ Hid (OwR tI W.heap.size wr v0 (tosI l k)) ∧ Hid (∀ j, j < k → lost l j = false) ∧ Below W.heap.size W wr) (fun _ t _ => l.length - (intOf t).toNat)
      case atStart => exact ⟨0, _, by omega, rfl, rfl, by show OwR _ _ _ _ _; exact OwR.nil _ _, (fun j hj => by omega), bRefl W⟩
      case round =>
        obtain ⟨k, v0, hk, rfl, rfl, ho, hq, hb⟩ := hrel
        have hsz := hb.size
        by_cases hlt : k < l.length
        · have hlt' : (k : Int) < (l.length : Int) := by omega
          have hlt2 : (k : Int) < (l.length : Int) + 1 := by omega
          obtain ⟨x, hx⟩ : ∃ x, l[k]? = some x := ⟨_, List.getElem?_eq_getElem hlt⟩
          have hxm : x ∈ l := List.mem_of_getElem? hx
          have hof := HO.out x hxm
          have him := HI.out x hxm
          obtain ⟨bb, off, rfl, hne, hat⟩ := (H2.out.below hb).get hx
          obtain ⟨c0, c1, c2, c3, c4, c5, c6, c7⟩ := at_ins hat
          have e8 : tN.n = 8 := rfl
          rw [e8] at c0 c1 c2 c3 c4 c5 c6 c7
          have hunit := unit_le (l := l) (i := k) hk
          have cU := OwR.int (HU2.out.below hb) (unitsI_get (l := l) (m := l.length) hk)
          obtain ⟨u, hu⟩ : ∃ u : Int, u = ((unit l k : Nat) : Int) := ⟨_, rfl⟩
          rw [← hu] at cU
          have hu1 : 0 ≤ u ∧ u ≤ 2097152 := by omega
          have HT := Lib.hid (tosI_succ l k)
          have HX := Lib.hid hx
          have HUU := Lib.hid hu
          have HMk := Lib.hid (ownsMap_below HM.out hb)
          have hbb := hat.1
          clear hx hxm hat e8 hunit hu
          have hgl : gu < wr.heap.size := (HU2.out.below hb).lt (g := gu) rfl
          cases hj : jump x with
          | false =>
            have HJ := Lib.hid (show bw x.op 26 37 = false from hj)
            have HTG : Hid (oi (tgt l k) = -1) := by show _ = _; unfold tgt; rw [HX.out]; simp only; rw [if_neg (by rw [hj]; simp)]; rfl
            have HLO : Hid (lost l k = false) := by show _ = _; unfold lost; rw [HX.out]; simp only; rw [hj]; rfl
            clear hj
            go_wp2_with (first | (go_at_call 94; refine (isJump_ok _ _).mono ?_; rintro e w1 ⟨rfl, rfl⟩; rw [HJ.out]) | (at_builtin; refine wpl_push tI rfl _ _ rfl W.heap.size _ (tosI l k) rfl ((ho.out.alloc _).alloc _) _ 0 1 1 [(-1 : Int)] rfl rfl (rangeNew (by simp) (by rfl)) (by rw [tosI_len]; unfold maxLen; simp; omega) (by rw [tosI_len]; show _ * 8 ≤ _; simp; omega) (by simp; omega) ?_; intro v' w9 hown hgrow _))
            have b9 := ((hb.alloc hsz _).alloc (by simp; omega) _).grown hgrow (by simp; omega) (fun q hq => (ho.out.blk hq).1)
            have ho9 : Hid (OwR tI W.heap.size w9 v' (tosI l (k + 1))) := by
              show OwR _ _ _ _ _
              rw [HT.out, HTG.out]
              exact hown
            have hq9 : Hid (∀ j, j < k + 1 → lost l j = false) := fun j hj => by
              by_cases hjk : j < k
              · exact hq.out j hjk
              · obtain rfl : j = k := by omega
                exact HLO.out
            exact ⟨⟨k + 1, v', by omega, rfl, by go_num, ho9, hq9, b9⟩, by simp [intOf]; omega⟩
          | true =>
            have HJ := Lib.hid (show bw x.op 26 37 = true from hj)
            by_cases hop : x.op = 26
            · have hop' : (x.op == 26) = true := by simp [hop]
              cases hnar : x.nar with
              | true =>
                have him2 := him hop hnar
                rw [hnar] at c1
                have hgg : goal l k x = u + 1 + x.imm := by unfold goal; rw [← HUU.out, if_pos ⟨hop, hnar⟩]
                cases ha : atU l (u + 1 + x.imm) with
                | some j =>
                  have HH := Lib.hid (mapU_some ha).1
                  have HAT := Lib.hid (mapU_some ha).2
                  have HTG : Hid (oi (tgt l k) = (j : Int)) := by show _ = _; unfold tgt; rw [HX.out]; simp only; rw [if_pos hj, hgg, ha]; rfl
                  have HLO : Hid (lost l k = false) := by show _ = _; unfold lost; rw [HX.out]; simp only; rw [hgg, ha]; simp
                  clear ha hgg hj hop hnar him
                  go_upto_region 17 with (first | (go_at_call 94; refine (isJump_ok _ _).mono ?_; rintro e w1 ⟨rfl, rfl⟩; rw [HJ.out]) | (at_lookup; refine wpList_lookup_own_ok_int _ rfl _ _ 128 rfl 3 3 .i64 lawI Try.underlying128 Try.underlying3 (zeroI _) mb l.length _ rfl (ownsMap_below HMk.out (bAl (bRefl wr) _)) _ _ rfl (keyOf_int_mk Try.underlying3 (wfI (by omega))) ?_; intro c hat hwc; rw [HH.out]))
                  have hc : c = (j : Int) := by
                    have h := hat.symm.trans (HAT.out _)
                    injection h with h
                    injection h
                  subst hc
                  clear hat hwc HAT
                  go_wp2_with (at_builtin; refine wpl_push tI rfl _ _ rfl W.heap.size _ (tosI l k) rfl ((ho.out.alloc _).alloc _) _ 0 1 1 [((j : Int))] rfl rfl (rangeNew (by simp) (by rfl)) (by rw [tosI_len]; unfold maxLen; simp; omega) (by rw [tosI_len]; show _ * 8 ≤ _; simp; omega) (by simp; omega) ?_; intro v' w9 hown hgrow _)
                  have b9 := ((hb.alloc hsz _).alloc (by simp; omega) _).grown hgrow (by simp; omega) (fun q hq => (ho.out.blk hq).1)
                  have ho9 : Hid (OwR tI W.heap.size w9 v' (tosI l (k + 1))) := by
                    show OwR _ _ _ _ _
                    rw [HT.out, HTG.out]
                    exact hown
                  have hq9 : Hid (∀ j, j < k + 1 → lost l j = false) := fun j hj => by
                    by_cases hjk : j < k
                    · exact hq.out j hjk
                    · obtain rfl : j = k := by omega
                      exact HLO.out
                  exact ⟨⟨k + 1, v', by omega, rfl, by go_num, ho9, hq9, b9⟩, by simp [intOf]; omega⟩
                | none =>
                  have HH := Lib.hid (mapU_none ha)
                  have HLO : Hid (lost l k = true) := by show _ = _; unfold lost; rw [HX.out]; simp only; rw [hgg, ha, hj]; rfl
                  clear ha hgg hj hop hnar him
                  go_wp2_with (first | (go_at_call 94; refine (isJump_ok _ _).mono ?_; rintro e w1 ⟨rfl, rfl⟩; rw [HJ.out]) | (at_lookup; refine wpList_lookup_own_ok_int _ rfl _ _ 128 rfl 3 3 .i64 lawI Try.underlying128 Try.underlying3 (zeroI _) mb l.length _ rfl (ownsMap_below HMk.out (bAl (bRefl wr) _)) _ _ rfl (keyOf_int_mk Try.underlying3 (wfI (by omega))) ?_; intro c hat hwc; rw [HH.out]))
                  go_ret3
                  exact ⟨Or.inl ⟨k, hlt, HLO.out, hq.out, rfl⟩, t1.trans ((hb.alloc hsz _).mono hWw)⟩
              | false =>
                rw [hnar] at c1
                have hgg : goal l k x = u + 1 + x.off := by unfold goal; rw [← HUU.out, if_neg (fun h => by rw [hnar] at h; cases h.2)]
                cases ha : atU l (u + 1 + x.off) with
                | some j =>
                  have HH := Lib.hid (mapU_some ha).1
                  have HAT := Lib.hid (mapU_some ha).2
                  have HTG : Hid (oi (tgt l k) = (j : Int)) := by show _ = _; unfold tgt; rw [HX.out]; simp only; rw [if_pos hj, hgg, ha]; rfl
                  have HLO : Hid (lost l k = false) := by show _ = _; unfold lost; rw [HX.out]; simp only; rw [hgg, ha]; simp
                  clear ha hgg hj hop hnar him
                  go_upto_region 17 with (first | (go_at_call 94; refine (isJump_ok _ _).mono ?_; rintro e w1 ⟨rfl, rfl⟩; rw [HJ.out]) | (at_lookup; refine wpList_lookup_own_ok_int _ rfl _ _ 128 rfl 3 3 .i64 lawI Try.underlying128 Try.underlying3 (zeroI _) mb l.length _ rfl (ownsMap_below HMk.out (bAl (bRefl wr) _)) _ _ rfl (keyOf_int_mk Try.underlying3 (wfI (by omega))) ?_; intro c hat hwc; rw [HH.out]))
                  have hc : c = (j : Int) := by
                    have h := hat.symm.trans (HAT.out _)
                    injection h with h
                    injection h
                  subst hc
                  clear hat hwc HAT
                  go_wp2_with (at_builtin; refine wpl_push tI rfl _ _ rfl W.heap.size _ (tosI l k) rfl ((ho.out.alloc _).alloc _) _ 0 1 1 [((j : Int))] rfl rfl (rangeNew (by simp) (by rfl)) (by rw [tosI_len]; unfold maxLen; simp; omega) (by rw [tosI_len]; show _ * 8 ≤ _; simp; omega) (by simp; omega) ?_; intro v' w9 hown hgrow _)
                  have b9 := ((hb.alloc hsz _).alloc (by simp; omega) _).grown hgrow (by simp; omega) (fun q hq => (ho.out.blk hq).1)
                  have ho9 : Hid (OwR tI W.heap.size w9 v' (tosI l (k + 1))) := by
                    show OwR _ _ _ _ _
                    rw [HT.out, HTG.out]
                    exact hown
                  have hq9 : Hid (∀ j, j < k + 1 → lost l j = false) := fun j hj => by
                    by_cases hjk : j < k
                    · exact hq.out j hjk
                    · obtain rfl : j = k := by omega
                      exact HLO.out
                  exact ⟨⟨k + 1, v', by omega, rfl, by go_num, ho9, hq9, b9⟩, by simp [intOf]; omega⟩
                | none =>
                  have HH := Lib.hid (mapU_none ha)
                  have HLO : Hid (lost l k = true) := by show _ = _; unfold lost; rw [HX.out]; simp only; rw [hgg, ha, hj]; rfl
                  clear ha hgg hj hop hnar him
                  go_wp2_with (first | (go_at_call 94; refine (isJump_ok _ _).mono ?_; rintro e w1 ⟨rfl, rfl⟩; rw [HJ.out]) | (at_lookup; refine wpList_lookup_own_ok_int _ rfl _ _ 128 rfl 3 3 .i64 lawI Try.underlying128 Try.underlying3 (zeroI _) mb l.length _ rfl (ownsMap_below HMk.out (bAl (bRefl wr) _)) _ _ rfl (keyOf_int_mk Try.underlying3 (wfI (by omega))) ?_; intro c hat hwc; rw [HH.out]))
                  go_ret3
                  exact ⟨Or.inl ⟨k, hlt, HLO.out, hq.out, rfl⟩, t1.trans ((hb.alloc hsz _).mono hWw)⟩
            · have hop' : (x.op == 26) = false := by simpa using hop
              have hgg : goal l k x = u + 1 + x.off := by unfold goal; rw [← HUU.out, if_neg (fun h => hop h.1)]
              cases ha : atU l (u + 1 + x.off) with
              | some j =>
                have HH := Lib.hid (mapU_some ha).1
                have HAT := Lib.hid (mapU_some ha).2
                have HTG : Hid (oi (tgt l k) = (j : Int)) := by show _ = _; unfold tgt; rw [HX.out]; simp only; rw [if_pos hj, hgg, ha]; rfl
                have HLO : Hid (lost l k = false) := by show _ = _; unfold lost; rw [HX.out]; simp only; rw [hgg, ha]; simp
                clear ha hgg hj hop him
                go_upto_region 17 with (first | (go_at_call 94; refine (isJump_ok _ _).mono ?_; rintro e w1 ⟨rfl, rfl⟩; rw [HJ.out]) | (at_lookup; refine wpList_lookup_own_ok_int _ rfl _ _ 128 rfl 3 3 .i64 lawI Try.underlying128 Try.underlying3 (zeroI _) mb l.length _ rfl (ownsMap_below HMk.out (bAl (bRefl wr) _)) _ _ rfl (keyOf_int_mk Try.underlying3 (wfI (by omega))) ?_; intro c hat hwc; rw [HH.out]))
                have hc : c = (j : Int) := by
                  have h := hat.symm.trans (HAT.out _)
                  injection h with h
                  injection h
                subst hc
                clear hat hwc HAT
                go_wp2_with (at_builtin; refine wpl_push tI rfl _ _ rfl W.heap.size _ (tosI l k) rfl ((ho.out.alloc _).alloc _) _ 0 1 1 [((j : Int))] rfl rfl (rangeNew (by simp) (by rfl)) (by rw [tosI_len]; unfold maxLen; simp; omega) (by rw [tosI_len]; show _ * 8 ≤ _; simp; omega) (by simp; omega) ?_; intro v' w9 hown hgrow _)
                have b9 := ((hb.alloc hsz _).alloc (by simp; omega) _).grown hgrow (by simp; omega) (fun q hq => (ho.out.blk hq).1)
                have ho9 : Hid (OwR tI W.heap.size w9 v' (tosI l (k + 1))) := by
                  show OwR _ _ _ _ _
                  rw [HT.out, HTG.out]
                  exact hown
                have hq9 : Hid (∀ j, j < k + 1 → lost l j = false) := fun j hj => by
                  by_cases hjk : j < k
                  · exact hq.out j hjk
                  · obtain rfl : j = k := by omega
                    exact HLO.out
                exact ⟨⟨k + 1, v', by omega, rfl, by go_num, ho9, hq9, b9⟩, by simp [intOf]; omega⟩
              | none =>
                have HH := Lib.hid (mapU_none ha)
                have HLO : Hid (lost l k = true) := by show _ = _; unfold lost; rw [HX.out]; simp only; rw [hgg, ha, hj]; rfl
                clear ha hgg hj hop him
                go_wp2_with (first | (go_at_call 94; refine (isJump_ok _ _).mono ?_; rintro e w1 ⟨rfl, rfl⟩; rw [HJ.out]) | (at_lookup; refine wpList_lookup_own_ok_int _ rfl _ _ 128 rfl 3 3 .i64 lawI Try.underlying128 Try.underlying3 (zeroI _) mb l.length _ rfl (ownsMap_below HMk.out (bAl (bRefl wr) _)) _ _ rfl (keyOf_int_mk Try.underlying3 (wfI (by omega))) ?_; intro c hat hwc; rw [HH.out]))
                go_ret3
                exact ⟨Or.inl ⟨k, hlt, HLO.out, hq.out, rfl⟩, t1.trans ((hb.alloc hsz _).mono hWw)⟩
        · obtain rfl : k = l.length := by omega
          have htot := t1.trans (hb.mono (by omega))
          clear hlt
          go_wp2
          go_ret3
          exact ⟨Or.inr ⟨hq.out, _, rfl, ho.out.mono hWw⟩, htot⟩
end Go.Proofs.Ytpiiefdaaijgbaa
