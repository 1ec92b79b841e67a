/- What the law needs, one part after another: walks of functions and plain laws. No conditions but those that each law names. -/
import Derived.Test.YtpklmldempddhaaGuam
namespace Go.Fl
def exI : In := ⟨39, false, false, 0, 0, 0, 0, 0⟩
section
variable {A : List In} (h : ∀ x ∈ A, x.op < 26)
theorem ln_get {A : List In} {i : Nat} {x : In} (h : ∀ x ∈ A, x.op < 26) (hx : (A ++ [exI])[i]? = some x) : (i < A.length ∧ x.op < 26) ∨ (i = A.length ∧ x = exI) := by
 by_cases hi : i < A.length
 ·rw [List.getElem?_append_left hi] at hx
  exact Or.inl ⟨hi, h x (List.mem_of_getElem? hx)⟩
 ·rw [List.getElem?_append_right (by omega)] at hx
  have h1 := (List.getElem?_eq_some_iff.1 hx).1
  simp at h1
  have e : i = A.length := by omega
  subst e
  simp at hx
  exact Or.inr ⟨rfl, hx.symm⟩
include h
theorem ln_jump {i : Nat} {x : In} (hx : (A ++ [exI])[i]? = some x) : jump x = false := by
 rcases ln_get h hx with ⟨_, h1⟩ | ⟨_, rfl⟩
 ·unfold jump bw
  simp only [Bool.and_eq_false_imp, decide_eq_true_eq, decide_eq_false_iff_not]
  omega
 ·decide
theorem ln_tgt (i : Nat) : tgt (A ++ [exI]) i = none := by
 unfold tgt
 cases hx : (A ++ [exI])[i]? with
 | none => rfl
 | some x => simp only; rw [ln_jump h hx]; rfl
theorem ln_lead {i : Nat} (h0 : 0 < i) (hi : i < (A ++ [exI]).length) : lead (A ++ [exI]) i = false := by
 unfold lead
 have h1 : ((List.range (A ++ [exI]).length).any fun j => tgt (A ++ [exI]) j == some i) = false := by
  rw [List.any_eq_false]
  intro j _
  rw [ln_tgt h j]
  simp
 rw [h1]
 obtain ⟨k, rfl⟩ : ∃ k, i = k + 1 := ⟨i - 1, by omega⟩
 obtain ⟨x, hx⟩ : ∃ x, (A ++ [exI])[k]? = some x := ⟨_, List.getElem?_eq_getElem (by omega)⟩
 simp only [hx]
 have he : ends x = false := by
  unfold ends
  rw [ln_jump h hx]
  rcases ln_get h hx with ⟨_, h1⟩ | ⟨e, _⟩
  ·rw [Bool.false_or]
   exact beq_eq_false_iff_ne.2 (by omega)
  ·rw [List.length_append, List.length_singleton] at hi
   omega
 rw [he]
 rfl
theorem ln_nB : nB (A ++ [exI]) = 1 := by
 unfold nB bl
 rw [blks_len]
 have hl : (A ++ [exI]).length = A.length + 1 := by rw [List.length_append]; rfl
 rw [hl, List.range_succ_eq_map, List.filter_cons, lead0, if_pos rfl, List.length_cons]
 have : ((List.range A.length).map Nat.succ).filter (lead (A ++ [exI])) = [] := by
  rw [List.filter_eq_nil_iff]
  intro x hx
  obtain ⟨k, hk, rfl⟩ := List.mem_map.1 hx
  rw [List.mem_range] at hk
  rw [ln_lead h (Nat.succ_pos k) (by rw [hl]; omega)]
  simp
 rw [this]
 rfl
theorem ln_nxt (b : Nat) : nxt (A ++ [exI]) b = [] := by
 have hn := ln_nB h
 unfold nB at hn
 unfold nxt
 cases hb : (bl (A ++ [exI]))[b]? with
 | none => rfl
 | some p =>
  have hb0 := (List.getElem?_eq_some_iff.1 hb).1
  have e : b = 0 := by omega
  subst e
  have hl : (bl (A ++ [exI])).getLast? = some p := by
   rw [List.getLast?_eq_getElem?, hn]
   exact hb
  have hp := (lay (A ++ [exI])).lst p hl
  simp only
  rw [ln_tgt h]
  have hl2 : (A ++ [exI]).length = A.length + 1 := by rw [List.length_append]; rfl
  have hx : (A ++ [exI])[p.2 - 1]? = some exI := by
   rw [hp, hl2, Nat.add_sub_cancel, List.getElem?_append_right (Nat.le_refl _)]
   simp
  rw [hx]
  rfl
theorem ln_heads : heads (A ++ [exI]) = [] := by
 unfold heads
 rw [List.filter_eq_nil_iff]
 intro x _ hx
 rw [headB_iff] at hx
 obtain ⟨u, _, hm, _⟩ := hx
 rw [ln_nxt h] at hm
 cases hm
end
end Go.Fl
namespace Go.Proofs.Ytpklmldempddhaa
open Go Go.RowKit Go.Wr Go.Fl Go.Ht
set_option maxHeartbeats 4000000
set_option maxRecDepth 100000
theorem ln_gs {A : List In} (h : ∀ x ∈ A, x.op < 26) (g : G7 (A ++ [exI])) : (List.range (nB (A ++ [exI]))).map (wts (A ++ [exI]) (tT (A ++ [exI])) (-1)) = [one] := by
 rw [ln_nB h]
 show [wts (A ++ [exI]) (tT (A ++ [exI])) (-1) 0] = _
 have ho : ordL (A ++ [exI]) = [0] := by
  have h1 : (ordL (A ++ [exI])).length = 1 := (ord_len g).trans (ln_nB h)
  match hq : ordL (A ++ [exI]), h1 with
  | [x], _ =>
   have : x < nB (A ++ [exI]) := ord_lt g (by rw [hq]; exact List.mem_singleton.2 rfl)
   rw [ln_nB h] at this
   obtain rfl : x = 0 := by omega
   rfl
 have hn : nL (A ++ [exI]) = 0 := by unfold nL; rw [ln_heads h]; rfl
 unfold wts wtK
 rw [ho]
 simp only [List.foldl_cons, List.foldl_nil]
 unfold wst
 rw [if_pos (by unfold hol; rfl)]
 unfold Ht.upd
 rw [if_pos rfl, wgt_no (by rw [hn]; unfold hdd; omega)]
 rw [if_pos (by unfold hd0; rfl)]
theorem ln_ed {A : List In} (h : ∀ x ∈ A, x.op < 26) (b : Nat) : edR (A ++ [exI]) b = [] := by
 unfold edR
 rw [ln_nxt h]
 rfl
def kp (l : List In) (i : Nat) : List In := (l.take i).filter fun x => decide (x.op < 26)
theorem kp_succ {l : List In} {i : Nat} {x : In} (hx : l[i]? = some x) : kp l (i + 1) = kp l i ++ (if x.op < 26 then [x] else []) := by
 unfold kp
 rw [List.take_add_one, hx, List.filter_append]
 by_cases h : x.op < 26
 ·rw [if_pos h]; simp [h]
 ·rw [if_neg h]; simp [h]
theorem kp_len (l : List In) (i : Nat) : (kp l i).length ≤ i := by
 unfold kp
 exact Nat.le_trans (List.length_filter_le _ _) (by rw [List.length_take]; omega)
theorem kp_in {l : List In} {i : Nat} : ∀ x ∈ kp l i, x.op < 26 := fun x hx => by
 unfold kp at hx
 exact of_decide_eq_true (List.mem_filter.1 hx).2
theorem line_ok (w : World) (q : Nat) (v : Value) (l : List In) (h : SlX tN q w v l) : Calls Try.prog 8 #[v] w fun e w' => e = .returned (.bool true) ∧ Below w.heap.size w w' := by
 obtain ⟨a0, cap, rfl, h1, h2⟩ := h.form
 have H := Lib.hid h
 unfold maxLen at h2
 clear h
 go_enter Try.func8, Try.ntmps8
 go_wp2_with fail
 refine (known19_ok _).mono ?_
 rintro e w1 ⟨rfl, b1⟩
 have HB1 := Lib.hid b1
 clear b1
 go_wp2
 go_loopw [3, 4] (fun t u wr => ∃ (i : Nat) (va : Sv), i ≤ l.length ∧ i ≤ 100 ∧ u = .int .i64 (i : Int) ∧ t = .slice va.a va.n va.c ∧ Hid (OwR tN w1.heap.size wr va.v (kp l i)) ∧ Hid (Below w1.heap.size w1 wr)) (fun _ u _ => 100 - (intOf u).toNat)
 case atStart => exact ⟨0, ⟨none, 0, 0⟩, by omega, by omega, rfl, rfl, OwR.nil _ _, bRefl _⟩
 case round =>
  obtain ⟨i, va, hi, hi2, rfl, rfl, hO, hB⟩ := hrel
  obtain ⟨V, rfl⟩ : ∃ x : World, x = wr := ⟨_, rfl⟩
  by_cases hlt : i < l.length ∧ i < 100
  ·have hlt1 : (i : Int) < (l.length : Int) := by omega
   have hlt2 : (i : Int) < 100 := by omega
   obtain ⟨x, hx⟩ : ∃ x, l[i]? = some x := ⟨_, List.getElem?_eq_getElem hlt.1⟩
   obtain ⟨b, o, rfl, -, hat⟩ := (H.out.below (bThen HB1.out hB.out)).get hx
   have y0 := hat.cell 0 _ rfl
   have y1 := hat.cell 1 _ rfl
   have y2 := hat.cell 2 _ rfl
   have y3 := hat.cell 3 _ rfl
   have y4 := hat.cell 4 _ rfl
   have y5 := hat.cell 5 _ rfl
   have y6 := hat.cell 6 _ rfl
   have y7 := hat.cell 7 _ rfl
   have x0 : V.cell? ⟨b, o + i * 8, none⟩ = some (.int .i64 x.op) := y0
   have x1 : V.cell? ⟨b, o + i * 8 + 1, none⟩ = some (.bool x.nar) := y1
   have x2 : V.cell? ⟨b, o + i * 8 + 2, none⟩ = some (.bool x.reg) := y2
   have x3 : V.cell? ⟨b, o + i * 8 + 3, none⟩ = some (.int .i64 x.sz) := y3
   have x4 : V.cell? ⟨b, o + i * 8 + 4, none⟩ = some (.int .i64 x.dst) := y4
   have x5 : V.cell? ⟨b, o + i * 8 + 5, none⟩ = some (.int .i64 x.src) := y5
   have x6 : V.cell? ⟨b, o + i * 8 + 6, none⟩ = some (.int .i64 x.off) := y6
   have x7 : V.cell? ⟨b, o + i * 8 + 7, none⟩ = some (.int .i64 x.imm) := y7
   have HS := Lib.hid (kp_succ hx)
   have hkl := kp_len l i
   have hz := hB.out.size
   clear y0 y1 y2 y3 y4 y5 y6 y7 hat hx
   by_cases hj : x.op < 26
   ·go_wp2_with (at_builtin; refine wpl_push tN rfl (.tmp 27) (.tmp 32) rfl w1.heap.size (.slice va.a va.n va.c) (kp l i) rfl (hO.out.alloc _) _ 0 1 1 [x] rfl rfl (rangeNew (by rfl) (by rfl)) (by unfold maxLen; simp; omega) (by show _ * 56 ≤ _; simp; omega) (by simp; omega) ?_; intro v' w9 hown hgrow hform)
    obtain ⟨g9, c9, rfl, _⟩ := hform (by simp)
    have HO := Lib.hid (show OwR tN w1.heap.size w9 (Sv.v ⟨some ⟨g9, 0, none⟩, (kp l i).length + [x].length, c9⟩) (kp l (i + 1)) by rw [HS.out, if_pos hj]; exact hown)
    have HB9 := Lib.hid (show Below w1.heap.size w1 w9 from (bAl hB.out _).grown hgrow (by simp; omega) (fun g hg => (hO.out.blk hg).1))
    refine ⟨⟨i + 1, ⟨some ⟨g9, 0, none⟩, (kp l i).length + [x].length, c9⟩, by omega, by omega, by go_num, rfl, HO.out, HB9.out⟩, ?_⟩
    simp [intOf] <;> omega
   ·have HO := Lib.hid (show OwR tN w1.heap.size V va.v (kp l (i + 1)) by rw [HS.out, if_neg hj, List.append_nil]; exact hO.out)
    clear hO HS
    go_wp2
    go_roundw
    all_goals first
     | exact ⟨i + 1, va, by omega, by omega, by go_num, rfl, HO.out, hB.out⟩
     | (simp [intOf] <;> omega)
  ·have hkl := kp_len l i
   have hz := hB.out.size
   by_cases hlt1 : i < l.length
   ·have hlt2 : ¬ (i : Int) < 100 := by omega
    have hlt3 : (i : Int) < (l.length : Int) := by omega
    have hd : decide ((i : Int) < 100) = false := decide_eq_false hlt2
    go_upto_region 10 with (at_builtin; refine wpl_push tN rfl (.tmp 34) (.tmp 36) rfl w1.heap.size (.slice va.a va.n va.c) (kp l i) rfl (hO.out.alloc _) _ 0 1 1 [exI] rfl rfl (rangeNew (by rfl) (by rfl)) (by unfold maxLen; simp; omega) (by show _ * 56 ≤ _; simp; omega) (by simp; omega) ?_; intro v' w9 hown hgrow hform)
    have HO9 := Lib.hid hown
    have HB9 := Lib.hid (show Below w.heap.size w w9 from bThen HB1.out ((bAl hB.out _).grown hgrow (by simp; omega) (fun g hg => (hO.out.blk hg).1)))
    clear hown hgrow hform hO hB hkl hz
    go_wp2_with fail
    refine (flows19_ok w9 _ _ _ (OwR.slz HO9.out)).mono ?_
    rintro e wA ⟨bA, rfl | ⟨p, q', rfl, -, -, hF, -⟩⟩
    ·have HBA := Lib.hid (bThen HB9.out bA)
     clear bA
     go_wp2
     go_ret
     exact ⟨rfl, HBA.out⟩
    ·have HBA := Lib.hid (bThen HB9.out bA)
     have HF := Lib.hid hF
     clear bA hF HB9 HO9
     go_wp2_with fail
     refine (hedges_ok wA p _ HF.out).mono ?_
     unfold EdP
     rintro e wB ⟨bB, vB, rfl, rs, hl5, ho5, hr5⟩
     rw [ln_nB kp_in] at hl5
     obtain ⟨r0, rfl⟩ : ∃ r0, rs = [r0] := by
      match rs, hl5 with
      | [r0], _ => exact ⟨r0, rfl⟩
     have e0 := hr5.own 0 r0 rfl
     rw [ln_ed kp_in] at e0
     have hn0 : r0.n = 0 := by
      rcases e0.form with ⟨e, _⟩ | ⟨g, c, e, _⟩
      ·unfold Sv.v at e; injection e
      ·unfold Sv.v at e; injection e
     rcases ho5.form with ⟨_, e⟩ | ⟨g5, k5, rfl, hk5, hk5', -⟩
     ·cases e
     have HBB := Lib.hid (bThen HBA.out bB)
     have HFB := Lib.hid (HF.out.below bB)
     have hcell : ∀ W : World, Below wB.heap.size wB W → W.cell? ⟨g5, 0, none⟩ = some (.slice r0.a 0 r0.c) := fun W hW => by
      have h1 := ((ho5.below hW).at (k := 0) (x := r0) rfl).cell 0 _ rfl
      have e1 : 0 + 0 * tFF.n + 0 = 0 := rfl
      rw [e1] at h1
      have h2 : W.cell? ⟨g5, 0, none⟩ = some (.slice r0.a r0.n r0.c) := h1
      rw [hn0] at h2
      exact h2
     have HC := Lib.hid hcell
     clear bB ho5 hr5 e0 hn0 hcell hk5 hk5' HF HBA hl5
     go_wp2_with fail
     refine (hguess_ok wB p _ HFB.out).mono ?_
     rintro e wC ⟨bC, vC, rfl, hoC⟩
     rw [ln_gs kp_in HFB.out.1] at hoC
     have HBC := Lib.hid bC
     have HOC := Lib.hid hoC
     clear bC hoC HFB
     go_wp2_with fail
     refine (sameF_ok _ _ _ _ _ [one] (OwR.slz (HOC.out.below (bAl (bRefl wC) _))) (OwR.slz (litF wC [one] _ rfl (by decide))) (by decide)).mono ?_
     rintro e wD ⟨rfl, mD, hwD⟩
     have hbD : Below wB.heap.size wB wD := by rw [hwD]; exact bDrewN (bThen HBC.out (bAl (bRefl wC) _)) mD
     have c0 := HC.out wD hbD
     have HBD := Lib.hid (bThen HBB.out hbD)
     clear hwD hbD HC HOC HBC HBB
     go_wp2
     go_ret
     exact ⟨rfl, HBD.out⟩
   ·have hlt3 : ¬ (i : Int) < (l.length : Int) := by omega
    go_upto_region 10 with (at_builtin; refine wpl_push tN rfl (.tmp 34) (.tmp 36) rfl w1.heap.size (.slice va.a va.n va.c) (kp l i) rfl (hO.out.alloc _) _ 0 1 1 [exI] rfl rfl (rangeNew (by rfl) (by rfl)) (by unfold maxLen; simp; omega) (by show _ * 56 ≤ _; simp; omega) (by simp; omega) ?_; intro v' w9 hown hgrow hform)
    have HO9 := Lib.hid hown
    have HB9 := Lib.hid (show Below w.heap.size w w9 from bThen HB1.out ((bAl hB.out _).grown hgrow (by simp; omega) (fun g hg => (hO.out.blk hg).1)))
    clear hown hgrow hform hO hB hkl hz
    go_wp2_with fail
    refine (flows19_ok w9 _ _ _ (OwR.slz HO9.out)).mono ?_
    rintro e wA ⟨bA, rfl | ⟨p, q', rfl, -, -, hF, -⟩⟩
    ·have HBA := Lib.hid (bThen HB9.out bA)
     clear bA
     go_wp2
     go_ret
     exact ⟨rfl, HBA.out⟩
    ·have HBA := Lib.hid (bThen HB9.out bA)
     have HF := Lib.hid hF
     clear bA hF HB9 HO9
     go_wp2_with fail
     refine (hedges_ok wA p _ HF.out).mono ?_
     unfold EdP
     rintro e wB ⟨bB, vB, rfl, rs, hl5, ho5, hr5⟩
     rw [ln_nB kp_in] at hl5
     obtain ⟨r0, rfl⟩ : ∃ r0, rs = [r0] := by
      match rs, hl5 with
      | [r0], _ => exact ⟨r0, rfl⟩
     have e0 := hr5.own 0 r0 rfl
     rw [ln_ed kp_in] at e0
     have hn0 : r0.n = 0 := by
      rcases e0.form with ⟨e, _⟩ | ⟨g, c, e, _⟩
      ·unfold Sv.v at e; injection e
      ·unfold Sv.v at e; injection e
     rcases ho5.form with ⟨_, e⟩ | ⟨g5, k5, rfl, hk5, hk5', -⟩
     ·cases e
     have HBB := Lib.hid (bThen HBA.out bB)
     have HFB := Lib.hid (HF.out.below bB)
     have hcell : ∀ W : World, Below wB.heap.size wB W → W.cell? ⟨g5, 0, none⟩ = some (.slice r0.a 0 r0.c) := fun W hW => by
      have h1 := ((ho5.below hW).at (k := 0) (x := r0) rfl).cell 0 _ rfl
      have e1 : 0 + 0 * tFF.n + 0 = 0 := rfl
      rw [e1] at h1
      have h2 : W.cell? ⟨g5, 0, none⟩ = some (.slice r0.a r0.n r0.c) := h1
      rw [hn0] at h2
      exact h2
     have HC := Lib.hid hcell
     clear bB ho5 hr5 e0 hn0 hcell hk5 hk5' HF HBA hl5
     go_wp2_with fail
     refine (hguess_ok wB p _ HFB.out).mono ?_
     rintro e wC ⟨bC, vC, rfl, hoC⟩
     rw [ln_gs kp_in HFB.out.1] at hoC
     have HBC := Lib.hid bC
     have HOC := Lib.hid hoC
     clear bC hoC HFB
     go_wp2_with fail
     refine (sameF_ok _ _ _ _ _ [one] (OwR.slz (HOC.out.below (bAl (bRefl wC) _))) (OwR.slz (litF wC [one] _ rfl (by decide))) (by decide)).mono ?_
     rintro e wD ⟨rfl, mD, hwD⟩
     have hbD : Below wB.heap.size wB wD := by rw [hwD]; exact bDrewN (bThen HBC.out (bAl (bRefl wC) _)) mD
     have c0 := HC.out wD hbD
     have HBD := Lib.hid (bThen HBB.out hbD)
     clear hwD hbD HC HOC HBC HBB
     go_wp2
     go_ret
     exact ⟨rfl, HBD.out⟩
end Go.Proofs.Ytpklmldempddhaa
namespace Go.Proofs.Ytpklmldempddhaa
open Go Go.RowKit Go.Wr Go.Fl
open Go.ChangeShapes Go.WideShapes Go.ChangeAt Go.Deep
set_option maxHeartbeats 4000000
set_option maxRecDepth 100000
set_option maxRecDepth 100000 in
theorem heatLine_lifted (os : Os) (started : os.Started) (H : Type) (enc : TypeId × Value → H) :
  ReturnsInHanded {} Try.checked os 8 .any (Rows.heatLineSpec.pre6 enc Try.prog Try.f8 Rows.heatLineRow.domain false) (Rows.heatLineSpec.post enc Try.prog Try.f8 false true false false) := by
 refine returnsInHanded_of_change_sized (C := Try.checked) own started (by kernel_rfl) Try.func8
  (ChangeSpec.witness6 (enc := enc) (C := Try.checked) false ⟨#[], #[.slice none 0 0], []⟩ 8 (by kernel_rfl) (by kernel_rfl) (by kernel_rfl) (by kernel_rfl)) ?_
 intro W base args ds gs before hval0 hW hcnd hsz _
 have hval : ∀ (j : Nat) t v, Try.f8.params[j]? = some t → args[j]? = some v → Value.okWide Try.prog W .any base t v := hval0
 have hW' := hW
 obtain ⟨p, q, hA0, hV, rfl, hfz, hnd⟩ := hW
 have hA : DataW.TrodAll enc Try.prog W 0 (fun _ => true) true Try.f8.params.toList args.toList ds p := hA0
 rw [Try.params8] at hA hval hsz
 obtain ⟨v0, vs0, d0, ds0, p0, q0, hargs, rfl, rfl, h0, r0⟩ := trodAll_cons hA
 obtain ⟨rfl, rfl, rfl⟩ := trodAll_nil r0
 obtain rfl : args = #[v0] := by cases args; simp_all
 obtain ⟨rfl, rfl⟩ := trodVars_none hV
 have k0 := h0
 have lt0 : ∀ x ∈ p0, x.block < W.heap.size := by obtain ⟨m, hm⟩ := k0; exact DataW.trod_lt m _ _ _ hm
 obtain ⟨a0, len0, cap0, rfl⟩ := okWide_slice Try.underlying23 (hval 0 23 v0 rfl rfl)
 obtain ⟨l0, g0⟩ : ∃ l, SlX tN W.heap.size W (.slice a0 len0 cap0) l := by
  obtain ⟨fuel, hf⟩ := h0
  exact open_ins (x := (d0, p0)) (by simpa [Value.cells] using hf)
 clear hA0 hval0 hval hfz hnd hcnd hA
 refine (line_ok W W.heap.size _ l0 g0).mono fun e W' ⟨he, bel⟩ => ?_
 subst he
 exact ⟨_, rfl, _, _, _, [], _, [], hW', trodAll_mk1 (shut_bool Try.underlying4 _), (trodAll_cons_mk (Below.trod laidOut (by kernel_rfl) (of_decide_eq_true (by kernel_rfl)) k0 bel lt0) trodAll_mk0), rfl, bel.frame _, fun h => by cases h⟩
theorem HeatLine_holds : Rows.HeatLineSaid :=
 OpenClaim.holds_of_wide 8 Try.f8 rfl rfl rfl rfl rfl rfl rfl ⟨rfl, rfl, rfl, rfl, rfl⟩ rfl rfl rfl rfl rfl (by kernel_rfl) Try.func8 (by kernel_rfl)
  (of_decide_eq_true (by kernel_rfl)) (by unfold Func.isWrapper; rw [if_neg (of_decide_eq_false (by kernel_rfl))]; exact ⟨rfl, rfl⟩)
  (fun os started H enc _ => heatLine_lifted os started H enc)
#print axioms HeatLine_holds
end Go.Proofs.Ytpklmldempddhaa
