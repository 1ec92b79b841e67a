/- What the law needs, one part after another: walks of functions and plain laws. No conditions but those that each law names. -/
import Derived.Test.YtndnfjcfpcfakaaFrag
namespace Go.Proofs.Ytndnfjcfpcfakaa
open Go Go.RowKit Go.Wr Go.Fl
set_option maxHeartbeats 4000000
set_option maxRecDepth 100000
open Classical in
noncomputable def rcB (nx : Nat → List Nat) (wo : Int) (x : Nat) : Bool := decide (Rc nx wo x)
theorem rcB_iff {nx : Nat → List Nat} {wo : Int} {x : Nat} : rcB nx wo x = true ↔ Rc nx wo x := by unfold rcB; exact @decide_eq_true_iff _ (_)
theorem rw_has0 {nx : Nat → List Nat} {l : List Nat} {b : Nat} (h : RW nx l b) : 0 ∈ l := by
 induction h with
 | root => simp
 | step _ _ ih => exact List.mem_cons_of_mem _ ih
theorem rc_zero (nx : Nat → List Nat) (x : Nat) : rcB nx 0 x = false := by
 cases h : rcB nx 0 x with
 | false => rfl
 | true =>
  obtain ⟨l, h1, h2⟩ := rcB_iff.1 h
  exact absurd rfl (h2 0 (rw_has0 h1))
structure Rs (w : World) (n gV : Nat) (V : Nat → Bool) (gT cT : Nat) (T : List Nat) (wr : World) : Prop where
 ov : OwR tB w.heap.size wr (.slice (some ⟨gV, 0, none⟩) n n) ((List.range n).map V)
 ot : OwR tI w.heap.size wr (.slice (some ⟨gT, 0, none⟩) T.length cT) (nI T)
 bl : Below w.heap.size w wr
section
variable {w wr w' : World} {n gV : Nat} {V : Nat → Bool} {gT cT : Nat} {T : List Nat}
theorem Rs.below (h : Rs w n gV V gT cT T wr) (b : Below wr.heap.size wr w') : Rs w n gV V gT cT T w' := ⟨h.ov.below b, h.ot.below b, bThen h.bl b⟩
theorem Rs.mark (h : Rs w n gV V gT cT T wr) {i : Nat} (hi : i < n) : Rs w n gV (Fl.mark V i) gT cT T (wr.setCell ⟨gV, i, none⟩ (.bool true)) := by
 obtain ⟨hB, C, hg⟩ := h.ov.blk (g := gV) rfl
 exact ⟨OwB.mark h.ov hi, h.ot.set_other (h.ot.ne hg (by decide)), h.bl.setCell hB _⟩
theorem Rs.push (h : Rs w n gV V gT cT T wr) {x g' c' : Nat} {o : Obj} (ho : OwR tI w.heap.size w' (.slice (some ⟨g', 0, none⟩) (T.length + 1) c') (nI (T ++ [x]))) (hg : (wr.alloc o).grownBy w' (Value.slice (some ⟨gT, 0, none⟩) T.length cT).ownBlock) : Rs w n gV V g' c' (T ++ [x]) w' := by
 have hA : Rs w n gV V gT cT T (wr.alloc o) := h.below (bAl (bRefl wr) o)
 refine ⟨hA.ov.keep fun g e => ?_, by rw [List.length_append]; exact ho, hA.bl.grown hg hA.bl.size fun g e => (hA.ot.blk e).1⟩
 obtain ⟨_, C, hb⟩ := hA.ov.blk e
 exact hg.block g hb.lt (fun e => hA.ot.ne hb (by decide) e.symm)
end
theorem reached_ok (w : World) (q n : Nat) (nx : Nat → List Nat) (hnl : ∀ u, u < n → ∀ v ∈ nx u, v < n) (h0 : 0 < n) (hn : n ≤ 4096) (hx2 : ∀ u, (nx u).length ≤ 1048576) (vb : Value) (bs : List Bk) (hf : FwR q n nx vb bs w) (hq : q < w.heap.size) (wo : Int) :
  Calls Try.prog 53 #[.pointer (some ⟨q, 0, none⟩), .int .i64 0, .int .i64 wo] w fun e w' => Below w.heap.size w w' ∧ ∃ g, e = .returned (.slice (some ⟨g, 0, none⟩) n n) ∧ OwR tB w.heap.size w' (.slice (some ⟨g, 0, none⟩) n n) ((List.range n).map (rcB nx wo)) := by
 obtain ⟨a0, cap, rfl, h1, h2⟩ := hf.sb.form
 have hln := hf.ln
 have f0 := hf.f0
 rw [hln] at f0 h1
 have HF := Lib.hid hf
 have HX := Lib.hid hx2
 have HLN := Lib.hid hln
 have HNL := Lib.hid hnl
 have HF0 := Lib.hid f0
 unfold maxLen at h2
 clear hf hx2 hln hnl
 by_cases hw0 : wo = 0
 ·subst hw0
  have hall : Hid (List.replicate n false = (List.range n).map (rcB nx 0)) := by
   show _ = _
   apply List.ext_getElem?
   intro k
   by_cases hk : k < n <;> simp [hk, rc_zero]
  go_enter Try.func53, Try.ntmps53
  go_wp2_with (at_make; refine wpl_make tB false rfl rfl _ _ rfl .i64 .i64 (n : Int) (n : Int) n rfl rfl rfl rfl (by show 1 * n ≤ _; omega) (by unfold maxLen; omega) ?_; intro w1 ho hb hlt)
  go_ret
  refine ⟨hb, _, rfl, ?_⟩
  rw [← hall.out]
  exact ho
 ·have hw0' : ((0 : Int) == wo) = false := beq_eq_false_iff_ne.2 (fun e => hw0 e.symm)
  have HWO := Lib.hid (show (0 : Int) ≠ wo from fun e => hw0 e.symm)
  have h0' : (0 : Int) < (n : Int) := by omega
  clear hw0
  go_enter Try.func53, Try.ntmps53
  go_upto_region 2 with (at_make; refine wpl_make tB false rfl rfl _ _ rfl .i64 .i64 (n : Int) (n : Int) n rfl rfl rfl rfl (by show 1 * n ≤ _; omega) (by unfold maxLen; omega) ?_; intro w1 ho hb hlt)
  have e0 : (List.replicate n false) = (List.range n).map (fun _ => false) := by
   apply List.ext_getElem?
   intro k
   by_cases hk : k < n <;> simp [hk]
  rw [e0] at ho
  obtain ⟨gV, hgV⟩ : ∃ g, g = w.heap.size := ⟨_, rfl⟩
  have hR0 : Rs w n gV (fun _ => false) w1.heap.size 1 [0] (w1.alloc (.cells #[.int .i64 0] 3)) := by
   rw [hgV]
   exact ⟨ho.alloc _, (OwR.new (R := tI) (l := [0]) rfl rfl (by unfold maxLen; simp)).mono (by omega), bAl hb _⟩
  have HR0 := Lib.hid (hR0.mark (i := 0) h0)
  obtain ⟨gT, hgT⟩ : ∃ g, g = w1.heap.size := ⟨_, rfl⟩
  rw [← hgT] at HR0 hR0
  have HGV := Lib.hid hgV
  have HGT := Lib.hid hgT
  clear hgV hgT
  have cV : (w1.alloc (.cells #[.int .i64 0] 3)).cell? ⟨gV, 0, none⟩ = some (.bool false) := OwB.cell hR0.ov h0
  have fV := hR0.ov.frozen 0
  clear hR0 ho e0
  rw [← HGV.out]
  go_upto_region 5 with (fail)
  rw [← HGT.out]
  go_upto_region 6 with (fail)
  generalize (w1.alloc (.cells #[.int .i64 0] 3)).setCell ⟨gV, 0, none⟩ (.bool true) = W1 at HR0 ⊢
  clear cV fV hb hlt
  have HK0 : Hid (Wk nx (fun _ y => (y : Int) ≠ wo) (Rc nx wo) (Fl.mark (fun _ => false) 0) [0] 0 0) :=
   ⟨fun x hx => (by
    rcases mark_iff.1 hx with rfl | hx
    ·simp
    ·cases hx), fun x hx => by simp at hx; subst hx; exact Rc.zero HWO.out, fun x hx => by simp at hx, fun x hx y hy => by simp at hy⟩
  go_wp2
  go_loopg [8, 9] n (fun m t8 t9 wr => ∃ (V : Nat → Bool) (gT cT i : Nat) (T : List Nat), t8 = .slice (some ⟨gT, 0, none⟩) T.length cT ∧ t9 = .int .i64 (i : Int) ∧ Hid (Rs w n gV V gT cT T wr) ∧ Hid (Wk nx (fun _ y => (y : Int) ≠ wo) (Rc nx wo) V T i 0) ∧ Hid (∀ x ∈ T, x < n) ∧ Hid (V 0 = true) ∧ i ≤ T.length ∧ free n V + T.length ≤ n ∧ m = n - i)
  case atStart => exact ⟨_, gT, 1, 0, [0], rfl, rfl, HR0.out, HK0.out, (fun x hx => by simp at hx; subst hx; exact h0), mark_self _ _, by simp, by
   have h1 := free_mark (B := fun _ => false) h0 rfl
   have h2 := free_bound n (fun _ => false)
   simp
   omega, rfl⟩
  case round =>
   clear HR0 HK0
   obtain ⟨V, gT, cT, i, T, rfl, rfl, hR, hK, hT, hV0, hi, hfr, hm⟩ := hrel
   by_cases hli : i < T.length
   ·have hli' : (i : Int) < (T.length : Int) := by omega
    have hi0 : (0 : Int) ≤ (i : Int) := by omega
    obtain ⟨x, hx⟩ : ∃ x, T[i]? = some x := ⟨_, List.getElem?_eq_getElem hli⟩
    have hxn : x < n := hT.out x (List.mem_of_getElem? hx)
    have hxi : (x : Int) < (n : Int) := by omega
    have hx0 : (0 : Int) ≤ (x : Int) := by omega
    have ct := OwR.int hR.out.ot (k := i) (x := (x : Int)) (by unfold nI; rw [List.getElem?_map, hx]; rfl)
    obtain ⟨kb, hkb⟩ : ∃ kb, bs[x]? = some kb := ⟨_, List.getElem?_eq_getElem (by rw [HLN.out]; exact hxn)⟩
    have hFw := HF.out.below hq hR.out.bl
    have hsb := hFw.sb
    rw [HLN.out] at hsb
    obtain ⟨bb, off, rfl, _, hat⟩ := hsb.get hkb
    obtain ⟨_, _, c2⟩ := at_bk hat
    have e3 : tK.n = 3 := rfl
    rw [e3] at c2
    have hnx := HF.out.nb x kb hkb
    obtain ⟨an, cn, en, hn1, hn2⟩ := hnx.form
    rw [nI_len] at en hn1
    rw [en] at c2 hnx
    unfold maxLen at hn2
    have hxl := HX.out x
    have HNX := Lib.hid hnx
    have HXT := Lib.hid hx
    have kp : wr.cell? ⟨q, 0, none⟩ = some (.slice (some ⟨bb, off, none⟩) n cap) := (hR.out.bl.cell (p := ⟨q, 0, none⟩) hq).trans HF0.out
    clear hkb hFw hsb hat e3 hnx en hx f0
    go_upto_region 9 with (fail)
    go_quiet (fail)
    have HR9 := Lib.hid (hR.out.below (bDraw (bRefl wr) nq))
    generalize wr.drewN nq = W9 at HR9 ⊢
    clear hR ct c2 kp
    go_wp2
    go_loopw [8, 11] (fun t8 t11 wr => ∃ (V : Nat → Bool) (gT cT j : Nat) (T : List Nat), t8 = .slice (some ⟨gT, 0, none⟩) T.length cT ∧ t11 = .int .i64 (j : Int) ∧ Hid (Rs w n gV V gT cT T wr) ∧ Hid (Wk nx (fun _ y => (y : Int) ≠ wo) (Rc nx wo) V T i j) ∧ Hid (∀ x ∈ T, x < n) ∧ Hid (V 0 = true) ∧ Hid (T[i]? = some x) ∧ i < T.length ∧ free n V + T.length ≤ n ∧ j ≤ (nx x).length) (fun _ t _ => (nx x).length - (intOf t).toNat)
    case atStart => exact ⟨V, gT, cT, 0, T, rfl, rfl, HR9.out, hK.out, hT.out, hV0.out, HXT.out, hli, hfr, by omega⟩
    case round =>
     clear HR9 hK hT hV0 HXT hli hfr hi hli'
     obtain ⟨V, gT, cT, j, T, rfl, rfl, hR, hK, hT, hV0, hXT, hli, hfr, hj⟩ := hrel
     by_cases hlj : j < (nx x).length
     ·have hlj' : (j : Int) < ((nx x).length : Int) := by omega
      have hj0 : (0 : Int) ≤ (j : Int) := by omega
      obtain ⟨y, hy⟩ : ∃ y, (nx x)[j]? = some y := ⟨_, List.getElem?_eq_getElem hlj⟩
      have hyn := HNL.out x hxn y (List.mem_of_getElem? hy)
      have hyi : (y : Int) < (n : Int) := by omega
      have hy0 : (0 : Int) ≤ (y : Int) := by omega
      obtain ⟨bv, ov, rfl, _, hbv, cv⟩ := SlX.int (HNX.out.below hR.out.bl) (show (nI (nx x))[j]? = some (y : Int) by unfold nI; rw [List.getElem?_map, hy]; rfl)
      have cV := OwB.cell hR.out.ov hyn
      have HY := Lib.hid hy
      have HYM := Lib.hid (List.mem_of_getElem? hy)
      clear hy
      by_cases hyw : (y : Int) = wo
      ·have hyw' : ((y : Int) != wo) = false := by simp [hyw]
       have HK9 := Lib.hid (hK.out.skip hXT.out HY.out (fun h => absurd hyw h))
       clear hyw hK
       go_wp2
       go_roundw
       all_goals first
        | exact ⟨V, gT, cT, j + 1, T, rfl, by go_num, hR.out, HK9.out, hT.out, hV0.out, hXT.out, hli, hfr, by omega⟩
        | ((repeat apply Exists.intro); exact ⟨⟨V, gT, cT, j + 1, T, rfl, by go_num, hR.out, HK9.out, hT.out, hV0.out, hXT.out, hli, hfr, by omega⟩, rfl⟩)
        | (simp [intOf]; omega)
      ·have hyw' : ((y : Int) != wo) = true := by simp [hyw]
       have HYW := Lib.hid hyw
       clear hyw
       cases hVy : V y with
       | true =>
        have HK9 := Lib.hid (hK.out.skip hXT.out HY.out (fun _ => hVy))
        rw [hVy] at cV
        clear hVy hK
        go_wp2
        go_roundw
        all_goals first
         | exact ⟨V, gT, cT, j + 1, T, rfl, by go_num, hR.out, HK9.out, hT.out, hV0.out, hXT.out, hli, hfr, by omega⟩
         | ((repeat apply Exists.intro); exact ⟨⟨V, gT, cT, j + 1, T, rfl, by go_num, hR.out, HK9.out, hT.out, hV0.out, hXT.out, hli, hfr, by omega⟩, rfl⟩)
         | (simp [intOf]; omega)
       | false =>
        have hPx := hK.out.sound x (List.mem_of_getElem? hXT.out)
        have HK9 := Lib.hid (hK.out.add hXT.out HY.out (hPx.step HYM.out HYW.out))
        have hfm := free_mark hyn hVy
        rw [hVy] at cV
        have fV := hR.out.ov.frozen y
        have HR7 := Lib.hid (hR.out.mark (i := y) hyn)
        clear hVy hK hPx
        go_upto_region 15 with (fail)
        have cv7 : (wr.setCell ⟨gV, y, none⟩ (.bool true)).cell? ⟨bv, ov + j, none⟩ = some (.int .i64 (y : Int)) := by
         obtain ⟨bv2, ov2, e2, _, _, cv2⟩ := SlX.int (HNX.out.below HR7.out.bl) (show (nI (nx x))[j]? = some (y : Int) by unfold nI; rw [List.getElem?_map, HY.out]; rfl)
         injection e2 with e2
         injection e2 with e21 e22
         subst e21 e22
         exact cv2
        generalize wr.setCell ⟨gV, y, none⟩ (.bool true) = W7 at HR7 cv7 ⊢
        have hsz7 := HR7.out.bl.size
        clear hR cV fV cv
        go_wp2_with (at_builtin; refine wpl_push tI rfl _ _ rfl w.heap.size (.slice (some ⟨gT, 0, none⟩) T.length cT) (nI T) (by rfl) (HR7.out.ot.alloc _) _ 0 1 1 [(y : Int)] (by rfl) rfl (rangeNew (by rfl) (by rfl)) (by rw [nI_len]; unfold maxLen; simp; omega) (by rw [nI_len]; show _ * 8 ≤ _; simp; omega) (by simp; omega) ?_; intro v2 w10 hown2 hgrow2 hform2; obtain ⟨g2, c2', rfl, _⟩ := hform2 (by simp))
        have hR10 := HR7.out.push (x := y) (g' := g2) (c' := c2') (by rw [nI_app, ← nI_len T]; exact hown2) hgrow2
        have hT10 : ∀ z ∈ T ++ [y], z < n := fun z hz => by
         rcases List.mem_append.1 hz with hz | hz
         ·exact hT.out z hz
         ·simp at hz; subst hz; exact hyn
        have hV10 : Fl.mark V y 0 = true := mark_iff.2 (Or.inr hV0.out)
        have hX10 : (T ++ [y])[i]? = some x := by rw [List.getElem?_append_left hli]; exact hXT.out
        exact ⟨⟨_, g2, c2', j + 1, T ++ [y], by simp [nI_len], by go_num, hR10, HK9.out, hT10, hV10, hX10, by simp; omega, by simp; omega, by omega⟩, by simp [intOf]; omega⟩
     ·have hjl : j = (nx x).length := by omega
      have hK2 := hK.out
      rw [hjl] at hK2
      have HK9 := Lib.hid (hK2.next hXT.out)
      clear hK2 hK hjl
      go_wp2
      go_roundg (n - (i + 1))
      case measure => omega
      case rel => exact ⟨V, gT, cT, i + 1, T, rfl, by go_num, hR.out, HK9.out, hT.out, hV0.out, by omega, hfr, rfl⟩
   ·have hil : i = T.length := by omega
    have hK2 := hK.out
    rw [hil] at hK2
    have hcl : ∀ x, V x = true → ∀ y ∈ nx x, (y : Int) ≠ wo → V y = true := fun x hx => hK2.done x (hK2.mem x hx)
    have hfin : Hid ((List.range n).map V = (List.range n).map (rcB nx wo)) := by
     show _ = _
     apply List.map_congr_left
     intro x _
     rw [Bool.eq_iff_iff, rcB_iff]
     exact ⟨fun h => hK2.sound x (hK2.mem x h), Rc.sub (fun _ => hV0.out) hcl x⟩
    clear hK2 hcl hK
    go_wp2
    go_ret
    refine ⟨hR.out.bl, gV, rfl, ?_⟩
    rw [← hfin.out]
    exact hR.out.ov
end Go.Proofs.Ytndnfjcfpcfakaa
namespace Go.Proofs.Ytndnfjcfpcfakaa
open Go Go.RowKit Go.Wr Go.Fl
set_option maxHeartbeats 4000000
set_option maxRecDepth 100000
structure Dt (q n : Nat) (nx : Nat → List Nat) (vd : Value) (rows : List Sv) (w : World) : Prop where
 c1 : w.cell? ⟨q, 1, none⟩ = some vd
 sd : SlX tBB q w vd rows
 ln : rows.length = n
 rw : ∀ (v : Nat) (s : Sv), rows[v]? = some s → SlX tB q w s.v ((List.range n).map fun (u : Nat) => domB nx n (v : Int) (u : Int))
theorem Dt.below {q n : Nat} {nx : Nat → List Nat} {vd : Value} {rows : List Sv} {w w' : World} (h : Dt q n nx vd rows w) (hq : q < w.heap.size) (b : Below w.heap.size w w') : Dt q n nx vd rows w' :=
 ⟨(b.cell (p := ⟨q, 1, none⟩) hq).trans h.c1, h.sd.below b, h.ln, fun v s hs => (h.rw v s hs).below b⟩
theorem Dt.back {q n : Nat} {nx : Nat → List Nat} {vd : Value} {rows : List Sv} {w : World} (h : Dt q n nx vd rows w) {u v : Nat} (hu : u < n) (hv : v < n) :
  Calls Try.prog 89 #[.pointer (some ⟨q, 0, none⟩), .int .i64 (u : Int), .int .i64 (v : Int)] w fun e w' => Below w.heap.size w w' ∧ e = .returned (.bool (domB nx n (v : Int) (u : Int))) := by
 obtain ⟨s, hs⟩ : ∃ s, rows[v]? = some s := ⟨_, List.getElem?_eq_getElem (by rw [h.ln]; exact hv)⟩
 exact back_ok w q q vd rows h.c1 h.sd u v s hs _ (h.rw v s hs) _ (by rw [List.getElem?_map, List.getElem?_range hu]; rfl)
theorem rturns_ok (w : World) (q n : Nat) (nx : Nat → List Nat) (hnl : ∀ u, u < n → ∀ v ∈ nx u, v < n) (hn : n ≤ 4096) (hx2 : ∀ u, (nx u).length ≤ 1048576) (vb : Value) (bs : List Bk) (hf : FwR q n nx vb bs w) (vd : Value) (rows : List Sv) (hd : Dt q n nx vd rows w) (hq : q < w.heap.size) :
  Calls Try.prog 54 #[.pointer (some ⟨q, 0, none⟩)] w fun e w' => Below w.heap.size w w' ∧ ((∃ b, b < n ∧ e = .returned (.int .i64 (b : Int)) ∧ Nbr nx b b ∧ ∀ x, x < b → ¬ Nbr nx x x) ∨ (e = .returned (.int .i64 (-1)) ∧ ∀ x, x < n → ¬ Nbr nx x x)) := by
 obtain ⟨a0, cap, rfl, h1, h2⟩ := hf.sb.form
 have hln := hf.ln
 have f0 := hf.f0
 rw [hln] at f0 h1
 have HF := Lib.hid hf
 have HD := Lib.hid hd
 have HX := Lib.hid hx2
 have HLN := Lib.hid hln
 have HNL := Lib.hid hnl
 have HF0 := Lib.hid f0
 unfold maxLen at h2
 clear hf hx2 hln hnl hd
 go_enter Try.func54, Try.ntmps54
 go_wp2
 go_loopw [3] (fun t wr => ∃ b : Nat, b ≤ n ∧ t = .int .i64 (b : Int) ∧ Hid (∀ x, x < b → ¬ Nbr nx x x) ∧ Hid (Below w.heap.size w wr)) (fun t _ => n - (intOf t).toNat)
 case atStart => exact ⟨0, by omega, rfl, (fun x hx => by omega), bRefl w⟩
 case round =>
  clear f0
  obtain ⟨b, hb, rfl, hq0, hbl⟩ := hrel
  have kp : wr.cell? ⟨q, 0, none⟩ = some (.slice a0 n cap) := (hbl.out.cell (p := ⟨q, 0, none⟩) hq).trans HF0.out
  by_cases hlt : b < n
  ·have hlt' : (b : Int) < (n : Int) := by omega
   have hb0 : (0 : Int) ≤ (b : Int) := by omega
   go_upto_region 5 with (at_make; refine wpl_make tB false rfl rfl _ _ rfl .i64 .i64 (n : Int) (n : Int) n rfl rfl rfl rfl (by show 1 * n ≤ _; omega) (by unfold maxLen; omega) ?_; intro w1 ho hb1 hlt1)
   have e0 : (List.replicate n false) = (List.range n).map (fun _ => false) := by
    apply List.ext_getElem?
    intro k
    by_cases hk : k < n <;> simp [hk]
   rw [e0] at ho
   have hsz := hbl.out.size
   have hB1 := bThen hbl.out hb1
   have HR0 := Lib.hid (show Rs w n wr.heap.size (fun _ => false) w1.heap.size 1 [b] (w1.alloc (.cells #[.int .i64 (b : Int)] 3)) from
    ⟨(ho.mono hsz).alloc _, (OwR.new (R := tI) (l := [(b : Int)]) rfl rfl (by unfold maxLen; simp)).mono hB1.size, bAl hB1 _⟩)
   obtain ⟨gV, hgV⟩ : ∃ g, g = wr.heap.size := ⟨_, rfl⟩
   rw [← hgV] at HR0 ⊢
   clear ho e0 hb1 hlt1 hB1 kp hgV
   go_upto_region 6 with (fail)
   obtain ⟨gT, hgT⟩ : ∃ g, g = w1.heap.size := ⟨_, rfl⟩
   rw [← hgT] at HR0 ⊢
   generalize (w1.alloc (.cells #[.int .i64 (b : Int)] 3)) = W1 at HR0 ⊢
   clear hgT
   have HK0 : Hid (Wk nx (fun x y => ¬ Dom nx y x) (fun x => x = b ∨ Nbr nx b x) (fun _ => false) [b] 0 0) :=
    ⟨fun x hx => (by cases hx), fun x hx => Or.inl (by simpa using hx), fun x hx => by simp at hx, fun x hx y hy => by simp at hy⟩
   go_wp2
   go_loopg [5, 6] (n + 1) (fun m t5 t6 wr => ∃ (V : Nat → Bool) (gT cT i : Nat) (T : List Nat), t5 = .slice (some ⟨gT, 0, none⟩) T.length cT ∧ t6 = .int .i64 (i : Int) ∧ Hid (Rs w n gV V gT cT T wr) ∧ Hid (Wk nx (fun x y => ¬ Dom nx y x) (fun x => x = b ∨ Nbr nx b x) V T i 0) ∧ Hid (∀ x ∈ T, x < n) ∧ Hid ((∀ x, V x = true → Nbr nx b x) ∧ b ∈ T) ∧ i ≤ T.length ∧ free n V + T.length ≤ n + 1 ∧ m = n + 1 - i)
   case atStart => exact ⟨_, gT, 1, 0, [b], rfl, rfl, HR0.out, HK0.out, (fun x hx => by simp at hx; subst hx; exact hlt), ⟨fun x hx => (by cases hx), by simp⟩, by simp, by
    have h2 := free_bound n (fun _ => false)
    simp
    omega, rfl⟩
   case round =>
    clear HR0 HK0 hbl
    obtain ⟨V, gT, cT, i, T, rfl, rfl, hR, hK, hT, hV0, hi, hfr, hm⟩ := hrel
    by_cases hli : i < T.length
    ·have hli' : (i : Int) < (T.length : Int) := by omega
     have hi0 : (0 : Int) ≤ (i : Int) := by omega
     obtain ⟨x, hx⟩ : ∃ x, T[i]? = some x := ⟨_, List.getElem?_eq_getElem hli⟩
     have hxn : x < n := hT.out x (List.mem_of_getElem? hx)
     have hxi : (x : Int) < (n : Int) := by omega
     have hx0 : (0 : Int) ≤ (x : Int) := by omega
     have ct := OwR.int hR.out.ot (k := i) (x := (x : Int)) (by unfold nI; rw [List.getElem?_map, hx]; rfl)
     obtain ⟨kb, hkb⟩ : ∃ kb, bs[x]? = some kb := ⟨_, List.getElem?_eq_getElem (by rw [HLN.out]; exact hxn)⟩
     have hFw := HF.out.below hq hR.out.bl
     have hsb := hFw.sb
     rw [HLN.out] at hsb
     obtain ⟨bb, off, rfl, _, hat⟩ := hsb.get hkb
     obtain ⟨_, _, c2⟩ := at_bk hat
     have e3 : tK.n = 3 := rfl
     rw [e3] at c2
     have hnx := HF.out.nb x kb hkb
     obtain ⟨an, cn, en, hn1, hn2⟩ := hnx.form
     rw [nI_len] at en hn1
     rw [en] at c2 hnx
     unfold maxLen at hn2
     have hxl := HX.out x
     have HNX := Lib.hid hnx
     have HXT := Lib.hid hx
     have kp : wr.cell? ⟨q, 0, none⟩ = some (.slice (some ⟨bb, off, none⟩) n cap) := (hR.out.bl.cell (p := ⟨q, 0, none⟩) hq).trans HF0.out
     clear hkb hFw hsb hat e3 hnx en hx
     go_wp2
     go_loopw [5, 9] (fun t5 t9 wr => ∃ (V : Nat → Bool) (gT cT j : Nat) (T : List Nat), t5 = .slice (some ⟨gT, 0, none⟩) T.length cT ∧ t9 = .int .i64 (j : Int) ∧ Hid (Rs w n gV V gT cT T wr) ∧ Hid (Wk nx (fun x y => ¬ Dom nx y x) (fun x => x = b ∨ Nbr nx b x) V T i j) ∧ Hid (∀ x ∈ T, x < n) ∧ Hid ((∀ x, V x = true → Nbr nx b x) ∧ b ∈ T) ∧ Hid (T[i]? = some x) ∧ i < T.length ∧ free n V + T.length ≤ n + 1 ∧ j ≤ (nx x).length) (fun _ t _ => (nx x).length - (intOf t).toNat)
     case atStart => exact ⟨V, gT, cT, 0, T, rfl, rfl, hR.out, hK.out, hT.out, hV0.out, HXT.out, hli, hfr, by omega⟩
     case round =>
      clear hR hK hT hV0 HXT hli hfr hi hli' ct c2 kp
      obtain ⟨V, gT, cT, j, T, rfl, rfl, hR, hK, hT, hV0, hXT, hli, hfr, hj⟩ := hrel
      by_cases hlj : j < (nx x).length
      ·have hlj' : (j : Int) < ((nx x).length : Int) := by omega
       have hj0 : (0 : Int) ≤ (j : Int) := by omega
       obtain ⟨y, hy⟩ : ∃ y, (nx x)[j]? = some y := ⟨_, List.getElem?_eq_getElem hlj⟩
       have hyn := HNL.out x hxn y (List.mem_of_getElem? hy)
       have hyi : (y : Int) < (n : Int) := by omega
       have hy0 : (0 : Int) ≤ (y : Int) := by omega
       obtain ⟨bv, ov, rfl, _, hbv, cv⟩ := SlX.int (HNX.out.below hR.out.bl) (show (nI (nx x))[j]? = some (y : Int) by unfold nI; rw [List.getElem?_map, hy]; rfl)
       have HY := Lib.hid hy
       have HYM := Lib.hid (List.mem_of_getElem? hy)
       have hkey := Lib.hid (domB_iff (nx := nx) hyn hxn)
       clear hy
       go_wp2_with fail
       refine (Dt.back (HD.out.below hq hR.out.bl) hxn hyn).mono ?_
       rintro e w5 ⟨b5, rfl⟩
       have HR5 := Lib.hid (hR.out.below b5)
       have cv5 : w5.cell? ⟨bv, ov + j, none⟩ = some (.int .i64 (y : Int)) := (b5.cell (p := ⟨bv, ov + j, none⟩) hbv).trans cv
       have cV := OwB.cell HR5.out.ov hyn
       clear hR b5 cv
       cases hdb : domB nx n (y : Int) (x : Int) with
       | true =>
        have HK9 := Lib.hid (hK.out.skip hXT.out HY.out (fun h => absurd (hkey.out.1 hdb) h))
        clear hdb hkey hK
        go_wp2
        go_roundw
        all_goals first
         | exact ⟨V, gT, cT, j + 1, T, rfl, by go_num, HR5.out, HK9.out, hT.out, hV0.out, hXT.out, hli, hfr, by omega⟩
         | ((repeat apply Exists.intro); exact ⟨⟨V, gT, cT, j + 1, T, rfl, by go_num, HR5.out, HK9.out, hT.out, hV0.out, hXT.out, hli, hfr, by omega⟩, rfl⟩)
         | (simp [intOf]; omega)
       | false =>
        have hnd : ¬ Dom nx y x := fun h => by have := hkey.out.2 h; rw [hdb] at this; cases this
        have HND := Lib.hid hnd
        clear hdb hkey hnd
        cases hVy : V y with
        | true =>
         have HK9 := Lib.hid (hK.out.skip hXT.out HY.out (fun _ => hVy))
         rw [hVy] at cV
         clear hVy hK
         go_wp2
         go_roundw
         all_goals first
          | exact ⟨V, gT, cT, j + 1, T, rfl, by go_num, HR5.out, HK9.out, hT.out, hV0.out, hXT.out, hli, hfr, by omega⟩
          | ((repeat apply Exists.intro); exact ⟨⟨V, gT, cT, j + 1, T, rfl, by go_num, HR5.out, HK9.out, hT.out, hV0.out, hXT.out, hli, hfr, by omega⟩, rfl⟩)
          | (simp [intOf]; omega)
        | false =>
         have hNb : Nbr nx b y := by
          rcases hK.out.sound x (List.mem_of_getElem? hXT.out) with h | h
          ·subst h; exact Nbr.one ⟨HYM.out, HND.out⟩
          ·exact Nbr.more h ⟨HYM.out, HND.out⟩
         have HNB := Lib.hid hNb
         have HK9 := Lib.hid (hK.out.add hXT.out HY.out (Or.inr hNb))
         have hfm := free_mark hyn hVy
         rw [hVy] at cV
         have fV := HR5.out.ov.frozen y
         have HR7 := Lib.hid (HR5.out.mark (i := y) hyn)
         clear hVy hK hNb
         go_upto_region 16 with (fail)
         have cv7 : (w5.setCell ⟨gV, y, none⟩ (.bool true)).cell? ⟨bv, ov + j, none⟩ = some (.int .i64 (y : Int)) := by
          obtain ⟨bv2, ov2, e2, _, _, cv2⟩ := SlX.int (HNX.out.below HR7.out.bl) (show (nI (nx x))[j]? = some (y : Int) by unfold nI; rw [List.getElem?_map, HY.out]; rfl)
          injection e2 with e2
          injection e2 with e21 e22
          subst e21 e22
          exact cv2
         generalize w5.setCell ⟨gV, y, none⟩ (.bool true) = W7 at HR7 cv7 ⊢
         have hsz7 := HR7.out.bl.size
         clear HR5 cV fV cv5
         go_wp2_with (at_builtin; refine wpl_push tI rfl _ _ rfl w.heap.size (.slice (some ⟨gT, 0, none⟩) T.length cT) (nI T) (by rfl) (HR7.out.ot.alloc _) _ 0 1 1 [(y : Int)] (by rfl) rfl (rangeNew (by rfl) (by rfl)) (by rw [nI_len]; unfold maxLen; simp; omega) (by rw [nI_len]; show _ * 8 ≤ _; simp; omega) (by simp; omega) ?_; intro v2 w10 hown2 hgrow2 hform2; obtain ⟨g2, c2', rfl, _⟩ := hform2 (by simp))
         have hR10 := HR7.out.push (x := y) (g' := g2) (c' := c2') (by rw [nI_app, ← nI_len T]; exact hown2) hgrow2
         have hT10 : ∀ z ∈ T ++ [y], z < n := fun z hz => by
          rcases List.mem_append.1 hz with hz | hz
          ·exact hT.out z hz
          ·simp at hz; subst hz; exact hyn
         have hV10 : (∀ z, Fl.mark V y z = true → Nbr nx b z) ∧ b ∈ T ++ [y] := ⟨fun z hz => by
          rcases mark_iff.1 hz with rfl | hz
          ·exact HNB.out
          ·exact hV0.out.1 z hz, List.mem_append_left _ hV0.out.2⟩
         have hX10 : (T ++ [y])[i]? = some x := by rw [List.getElem?_append_left hli]; exact hXT.out
         exact ⟨⟨_, g2, c2', j + 1, T ++ [y], by simp [nI_len], by go_num, hR10, HK9.out, hT10, hV10, hX10, by simp; omega, by simp; omega, by omega⟩, by simp [intOf]; omega⟩
      ·have hjl : j = (nx x).length := by omega
       have hK2 := hK.out
       rw [hjl] at hK2
       have HK9 := Lib.hid (hK2.next hXT.out)
       clear hK2 hK hjl
       go_wp2
       go_roundg (n + 1 - (i + 1))
       case measure => omega
       case rel => exact ⟨V, gT, cT, i + 1, T, rfl, by go_num, hR.out, HK9.out, hT.out, hV0.out, by omega, hfr, rfl⟩
    ·have hil : i = T.length := by omega
     have hK2 := hK.out
     rw [hil] at hK2
     have hcl := hK2.done
     have hVb : Hid (V b = true ↔ Nbr nx b b) := ⟨hV0.out.1 b, Nbr.sub (fun y hy => hcl b hV0.out.2 y hy.1 hy.2) (fun x hx y hy => hcl x (hK2.mem x hx) y hy.1 hy.2) b⟩
     have cb := OwB.cell hR.out.ov hlt
     clear hK2 hcl hK hil
     cases hVV : V b with
     | true =>
      rw [hVV] at cb
      have hNb := Lib.hid (hVb.out.1 hVV)
      clear hVV hVb
      go_wp2
      go_ret
      exact ⟨hR.out.bl, Or.inl ⟨b, hlt, rfl, hNb.out, hq0.out⟩⟩
     | false =>
      rw [hVV] at cb
      have hnew : Hid (∀ x, x < b + 1 → ¬ Nbr nx x x) := fun x hx => by
       by_cases e : x < b
       ·exact hq0.out x e
       ·obtain rfl : x = b := by omega
        intro h
        have := hVb.out.2 h
        rw [hVV] at this
        cases this
      have HB := Lib.hid hR.out.bl
      clear hVV hVb hq0
      go_wp2
      go_roundw
      all_goals first
       | exact ⟨b + 1, by omega, by go_num, hnew.out, HB.out⟩
       | ((repeat apply Exists.intro); exact ⟨⟨b + 1, by omega, by go_num, hnew.out, HB.out⟩, rfl⟩)
       | (simp [intOf]; omega)
  ·obtain rfl : n = b := by omega
   go_wp2
   go_ret
   exact ⟨hbl.out, Or.inr ⟨rfl, hq0.out⟩⟩
end Go.Proofs.Ytndnfjcfpcfakaa
namespace Go.Fl
section
variable {nx : Nat → List Nat} {n h : Nat}
structure Q1 (nx : Nat → List Nat) (n h u k : Nat) (V : Nat → Bool) (is : Bool) : Prop where
 v : ∀ x, V x = true → x < n ∧ h ∈ nx x ∧ Dom nx h x
 c : ∀ x, x < u → h ∈ nx x → Dom nx h x → V x = true
 cu : h ∈ (nx u).take k → Dom nx h u → V u = true
 i : is = true ↔ ∃ x, V x = true
theorem Q1.start : Q1 nx n h 0 0 (fun _ => false) false := ⟨fun x hx => (by cases hx), fun x hx => by omega, fun hx => by simp at hx, by simp⟩
variable {u k y : Nat} {V : Nat → Bool} {is : Bool}
theorem Q1.skip (c : Q1 nx n h u k V is) (hy : (nx u)[k]? = some y) (hn : y = h → ¬ Dom nx h u) : Q1 nx n h u (k + 1) V is :=
 ⟨c.v, c.c, fun hx hd => by
  rw [List.take_add_one, hy] at hx
  rcases List.mem_append.1 hx with hx | hx
  ·exact c.cu hx hd
  ·simp at hx; exact absurd hd (hn hx.symm), c.i⟩
theorem Q1.add (c : Q1 nx n h u k V is) (hu : u < n) (hy : (nx u)[k]? = some h) (hd : Dom nx h u) : Q1 nx n h u (k + 1) (mark V u) true :=
 ⟨fun x hx => by
  rcases mark_iff.1 hx with rfl | hx
  ·exact ⟨hu, List.mem_of_getElem? hy, hd⟩
  ·exact c.v x hx, fun x hx h1 h2 => mark_iff.2 (Or.inr (c.c x hx h1 h2)), fun _ _ => mark_self _ _, ⟨fun _ => ⟨u, mark_self _ _⟩, fun _ => rfl⟩⟩
theorem Q1.next (c : Q1 nx n h u (nx u).length V is) : Q1 nx n h (u + 1) 0 V is :=
 ⟨c.v, fun x hx h1 h2 => by
  by_cases e : x < u
  ·exact c.c x e h1 h2
  ·obtain rfl : x = u := by omega
   exact c.cu (by rw [List.take_length]; exact h1) h2, fun hx => by simp at hx, c.i⟩
theorem Q1.hd (c : Q1 nx n h n 0 V is) : is = true ↔ Hd nx n h := by
 rw [c.i]
 constructor
 ·rintro ⟨x, hx⟩; obtain ⟨h1, h2, h3⟩ := c.v x hx; exact ⟨x, h1, h2, h3⟩
 ·rintro ⟨x, h1, h2, h3⟩; exact ⟨x, c.c x h1 h2 h3⟩
structure Q2 (nx : Nat → List Nat) (n h f u k : Nat) (V : Nat → Bool) (more : Bool) : Prop where
 v : ∀ x, V x = true → Lp nx n h x
 hh : V h = true
 lat : ∀ x, x < n → h ∈ nx x → Dom nx h x → V x = true
 c : more = false → ∀ x, x < u → ∀ y ∈ nx x, V y = true → y ≠ h → V x = true
 cu : more = false → ∀ y ∈ (nx u).take k, V y = true → y ≠ h → V u = true
 fr : free n V ≤ f
 m : more = true → free n V < f
theorem Q1.pass (c : Q1 nx n h n 0 V is) : Q2 nx n h (free n (mark V h)) 0 0 (mark V h) false :=
 ⟨fun x hx => by
  rcases mark_iff.1 hx with rfl | hx
  ·exact Lp.head
  ·obtain ⟨h1, h2, h3⟩ := c.v x hx
   exact Lp.latch h1 h2 h3, mark_self _ _, fun x h1 h2 h3 => mark_iff.2 (Or.inr (c.c x h1 h2 h3)), fun _ x hx => by omega, fun _ y hy => by simp at hy, Nat.le_refl _, fun h => by cases h⟩
variable {f : Nat} {more : Bool}
theorem Q2.skip (c : Q2 nx n h f u k V more) (hy : (nx u)[k]? = some y) (hn : V y = true → y ≠ h → V u = true) : Q2 nx n h f u (k + 1) V more :=
 ⟨c.v, c.hh, c.lat, c.c, fun hm z hz h1 h2 => by
  rw [List.take_add_one, hy] at hz
  rcases List.mem_append.1 hz with hz | hz
  ·exact c.cu hm z hz h1 h2
  ·simp at hz; subst hz; exact hn h1 h2, c.fr, c.m⟩
theorem Q2.add (c : Q2 nx n h f u k V more) (hu : u < n) (hy : (nx u)[k]? = some y) (h1 : V y = true) (h2 : y ≠ h) (h3 : V u = false) : Q2 nx n h f u (k + 1) (mark V u) true := by
 have hfr := free_mark hu h3
 have hf := c.fr
 refine ⟨fun x hx => ?_, mark_iff.2 (Or.inr c.hh), fun x a b d => mark_iff.2 (Or.inr (c.lat x a b d)), fun hm => ?_, fun hm => ?_, by omega, fun _ => by omega⟩
 ·rcases mark_iff.1 hx with rfl | hx
  ·exact Lp.back (c.v y h1) h2 hu (List.mem_of_getElem? hy)
  ·exact c.v x hx
 ·cases hm
 ·cases hm
theorem Q2.next (c : Q2 nx n h f u (nx u).length V more) : Q2 nx n h f (u + 1) 0 V more :=
 ⟨c.v, c.hh, c.lat, fun hm x hx y hy h1 h2 => by
  by_cases e : x < u
  ·exact c.c hm x e y hy h1 h2
  ·obtain rfl : x = u := by omega
   exact c.cu hm y (by rw [List.take_length]; exact hy) h1 h2, fun _ y hy => by simp at hy, c.fr, c.m⟩
theorem Q2.again (c : Q2 nx n h f n 0 V more) : Q2 nx n h (free n V) 0 0 V false :=
 ⟨c.v, c.hh, c.lat, fun _ x hx => by omega, fun _ y hy => by simp at hy, Nat.le_refl _, fun h => by cases h⟩
theorem Q2.done (c : Q2 nx n h f n 0 V false) : ∀ x, V x = true ↔ Lp nx n h x := fun x =>
 ⟨c.v x, Lp.sub (V := fun x => V x = true) c.hh c.lat (fun v hv hne u hu he => c.c rfl u hu v he hv hne) x⟩
end
end Go.Fl
namespace Go.Proofs.Ytndnfjcfpcfakaa
open Go Go.RowKit Go.Wr Go.Fl
set_option maxHeartbeats 4000000
set_option maxRecDepth 100000
structure Ov (w : World) (n gV : Nat) (V : Nat → Bool) (wr : World) : Prop where
 ov : OwR tB w.heap.size wr (.slice (some ⟨gV, 0, none⟩) n n) ((List.range n).map V)
 bl : Below w.heap.size w wr
theorem Ov.below {w wr w' : World} {n gV : Nat} {V : Nat → Bool} (h : Ov w n gV V wr) (b : Below wr.heap.size wr w') : Ov w n gV V w' := ⟨h.ov.below b, bThen h.bl b⟩
theorem Ov.mark {w wr : World} {n gV : Nat} {V : Nat → Bool} (h : Ov w n gV V wr) {i : Nat} (hi : i < n) : Ov w n gV (Fl.mark V i) (wr.setCell ⟨gV, i, none⟩ (.bool true)) := by
 obtain ⟨hB, C, hg⟩ := h.ov.blk (g := gV) rfl
 exact ⟨OwB.mark h.ov hi, h.bl.setCell hB _⟩
theorem FwR.row {q n : Nat} {nx : Nat → List Nat} {bb : Option Addr} {cap : Nat} {bs : List Bk} {w : World} (h : FwR q n nx (.slice bb n cap) bs w) {u : Nat} (hu : u < n) :
  ∃ b o an cn, bb = some ⟨b, o, none⟩ ∧ w.cell? ⟨b, o + u * 3 + 2, none⟩ = some (.slice an (nx u).length cn) ∧ (nx u).length ≤ cn ∧ cn ≤ maxLen ∧ SlX tI q w (.slice an (nx u).length cn) (nI (nx u)) ∧ b < w.heap.size := by
 obtain ⟨kb, hkb⟩ : ∃ kb, bs[u]? = some kb := ⟨_, List.getElem?_eq_getElem (by rw [h.ln]; exact hu)⟩
 obtain ⟨b, o, e, _, hat⟩ := h.sb.get hkb
 obtain ⟨_, _, c2⟩ := at_bk hat
 have e3 : tK.n = 3 := rfl
 rw [e3] at c2
 have hnx := h.nb u kb hkb
 obtain ⟨an, cn, en, hn1, hn2⟩ := hnx.form
 rw [nI_len] at en hn1
 rw [en] at c2 hnx
 exact ⟨b, o, an, cn, e, c2, hn1, hn2, hnx, hat.1⟩
theorem rloop_ok (w : World) (q n : Nat) (nx : Nat → List Nat) (hnl : ∀ u, u < n → ∀ v ∈ nx u, v < n) (hn : n ≤ 4096) (hx2 : ∀ u, (nx u).length ≤ 1048576) (vb : Value) (bs : List Bk) (hf : FwR q n nx vb bs w) (vd : Value) (rows : List Sv) (hd : Dt q n nx vd rows w) (hq : q < w.heap.size) (h : Nat) (hh : h < n) :
  Calls Try.prog 90 #[.pointer (some ⟨q, 0, none⟩), .int .i64 (h : Int)] w fun e w' => Below w.heap.size w w' ∧ ((e = .returned sn ∧ ¬ Hd nx n h) ∨ (Hd nx n h ∧ ∃ (v : Value) (V : Nat → Bool), e = .returned v ∧ OwR tI w.heap.size w' v (nI (ins V n)) ∧ ∀ x, V x = true ↔ Lp nx n h x)) := by
 obtain ⟨a0, cap, rfl, h1, h2⟩ := hf.sb.form
 have hln := hf.ln
 have f0 := hf.f0
 rw [hln] at f0 h1 hf
 have HF := Lib.hid hf
 have HD := Lib.hid hd
 have HX := Lib.hid hx2
 have HNL := Lib.hid hnl
 have HF0 := Lib.hid f0
 have hhi : (h : Int) < (n : Int) := by omega
 have hh0 : (0 : Int) ≤ (h : Int) := by omega
 unfold maxLen at h2
 clear hf hx2 hln hnl hd
 go_enter Try.func90, Try.ntmps90
 go_upto_region 2 with (at_make; refine wpl_make tB false rfl rfl _ _ rfl .i64 .i64 (n : Int) (n : Int) n rfl rfl rfl rfl (by show 1 * n ≤ _; omega) (by unfold maxLen; omega) ?_; intro w1 ho hb1 hlt1)
 have e0 : (List.replicate n false) = (List.range n).map (fun _ => false) := by
  apply List.ext_getElem?
  intro k
  by_cases hk : k < n <;> simp [hk]
 rw [e0] at ho
 have HO := Lib.hid (show Ov w n w.heap.size (fun _ => false) w1 from ⟨ho, hb1⟩)
 obtain ⟨gV, hgV⟩ : ∃ g, g = w.heap.size := ⟨_, rfl⟩
 have HGV := Lib.hid hgV
 rw [← hgV] at HO
 clear ho e0 hb1 hlt1 hgV f0
 rw [← HGV.out]
 have kp : w1.cell? ⟨q, 0, none⟩ = some (.slice a0 n cap) := (HO.out.bl.cell (p := ⟨q, 0, none⟩) hq).trans HF0.out
 go_wp2
 go_loopw [6, 7] (fun t6 t7 wr => ∃ (is : Bool) (u : Nat) (V : Nat → Bool), t6 = .bool is ∧ t7 = .int .i64 (u : Int) ∧ u ≤ n ∧ Hid (Ov w n gV V wr) ∧ Hid (Q1 nx n h u 0 V is)) (fun _ t _ => n - (intOf t).toNat)
 case atStart => exact ⟨false, 0, _, rfl, rfl, by omega, HO.out, Q1.start⟩
 case round =>
  clear HO kp
  obtain ⟨is, u, V, rfl, rfl, hu, hO, hQ⟩ := hrel
  have kp : wr.cell? ⟨q, 0, none⟩ = some (.slice a0 n cap) := (hO.out.bl.cell (p := ⟨q, 0, none⟩) hq).trans HF0.out
  by_cases hlu : u < n
  ·have hlu' : (u : Int) < (n : Int) := by omega
   have hu0 : (0 : Int) ≤ (u : Int) := by omega
   obtain ⟨bb, off, an, cn, rfl, c2w, hn1, hn2, hnx, hbb⟩ := HF.out.row hlu
   have c2 : wr.cell? ⟨bb, off + u * 3 + 2, none⟩ = some (.slice an (nx u).length cn) := (hO.out.bl.cell (p := ⟨bb, _, none⟩) hbb).trans c2w
   have HNX := Lib.hid hnx
   have hxl := HX.out u
   unfold maxLen at hn2
   clear hnx c2w
   go_wp2
   go_loopw [6, 9] (fun t6 t9 wr => ∃ (is : Bool) (k : Nat) (V : Nat → Bool), t6 = .bool is ∧ t9 = .int .i64 (k : Int) ∧ k ≤ (nx u).length ∧ Hid (Ov w n gV V wr) ∧ Hid (Q1 nx n h u k V is)) (fun _ t _ => (nx u).length - (intOf t).toNat)
   case atStart => exact ⟨is, 0, V, rfl, rfl, by omega, hO.out, hQ.out⟩
   case round =>
    clear hO hQ kp c2
    obtain ⟨is, k, V, rfl, rfl, hk, hO, hQ⟩ := hrel
    by_cases hlk : k < (nx u).length
    ·have hlk' : (k : Int) < ((nx u).length : Int) := by omega
     have hk0 : (0 : Int) ≤ (k : Int) := by omega
     obtain ⟨y, hy⟩ : ∃ y, (nx u)[k]? = some y := ⟨_, List.getElem?_eq_getElem hlk⟩
     obtain ⟨bv, ov, rfl, _, hbv, cv⟩ := SlX.int (HNX.out.below hO.out.bl) (show (nI (nx u))[k]? = some (y : Int) by unfold nI; rw [List.getElem?_map, hy]; rfl)
     have HY := Lib.hid hy
     clear hy
     by_cases hyh : y = h
     ·have hyh' : ((y : Int) == (h : Int)) = true := by simp [hyh]
      have HYH := Lib.hid hyh
      have hkey := Lib.hid (domB_iff (nx := nx) hh hlu)
      clear hyh
      go_wp2_with fail
      refine (Dt.back (HD.out.below hq hO.out.bl) hlu hh).mono ?_
      rintro e w5 ⟨b5, rfl⟩
      have HO5 := Lib.hid (hO.out.below b5)
      clear hO b5 cv
      cases hdb : domB nx n (h : Int) (u : Int) with
      | true =>
       have hHY : Hid ((nx u)[k]? = some h) := by show _ = _; rw [← HYH.out]; exact HY.out
       have HQ9 := Lib.hid (hQ.out.add hlu hHY.out (hkey.out.1 hdb))
       have cV := OwB.cell HO5.out.ov hlu
       have fV := HO5.out.ov.frozen u
       have HO9 := Lib.hid (HO5.out.mark (i := u) hlu)
       clear hdb hkey hQ HO5
       go_wp2
       go_roundw
       all_goals first
        | exact ⟨true, k + 1, _, rfl, by go_num, by omega, HO9.out, HQ9.out⟩
        | ((repeat apply Exists.intro); exact ⟨⟨true, k + 1, _, rfl, by go_num, by omega, HO9.out, HQ9.out⟩, rfl⟩)
        | (simp [intOf]; omega)
      | false =>
       have HQ9 := Lib.hid (hQ.out.skip HY.out (fun _ hd => by have := hkey.out.2 hd; rw [hdb] at this; cases this))
       clear hdb hkey hQ
       go_wp2
       go_roundw
       all_goals first
        | exact ⟨is, k + 1, V, rfl, by go_num, by omega, HO5.out, HQ9.out⟩
        | ((repeat apply Exists.intro); exact ⟨⟨is, k + 1, V, rfl, by go_num, by omega, HO5.out, HQ9.out⟩, rfl⟩)
        | (simp [intOf]; omega)
     ·have hyh' : ((y : Int) == (h : Int)) = false := beq_eq_false_iff_ne.2 (by omega)
      have HQ9 := Lib.hid (hQ.out.skip HY.out (fun e => absurd e hyh))
      clear hyh hQ
      go_wp2
      go_roundw
      all_goals first
       | exact ⟨is, k + 1, V, rfl, by go_num, by omega, hO.out, HQ9.out⟩
       | ((repeat apply Exists.intro); exact ⟨⟨is, k + 1, V, rfl, by go_num, by omega, hO.out, HQ9.out⟩, rfl⟩)
       | (simp [intOf]; omega)
    ·have hkl : k = (nx u).length := by omega
     have hQ2 := hQ.out
     rw [hkl] at hQ2
     have HQ9 := Lib.hid hQ2.next
     clear hQ2 hQ hkl
     go_wp2
     go_roundw
     all_goals first
      | exact ⟨is, u + 1, V, rfl, by go_num, by omega, hO.out, HQ9.out⟩
      | ((repeat apply Exists.intro); exact ⟨⟨is, u + 1, V, rfl, by go_num, by omega, hO.out, HQ9.out⟩, rfl⟩)
      | (simp [intOf]; omega)
  ·obtain rfl : n = u := by omega
   have HHD := Lib.hid hQ.out.hd
   cases is with
   | false =>
    have hno := Lib.hid (show ¬ Hd nx n h from fun k => by have := HHD.out.2 k; cases this)
    clear hQ HHD
    go_wp2
    go_ret
    exact ⟨hO.out.bl, Or.inl ⟨rfl, hno.out⟩⟩
   | true =>
    have hyes := Lib.hid (HHD.out.1 rfl)
    have HP := Lib.hid hQ.out.pass
    have cV := OwB.cell hO.out.ov hh
    have fV := hO.out.ov.frozen h
    have HO9 := Lib.hid (hO.out.mark (i := h) hh)
    clear hQ HHD hO
    go_upto_region 16 with (fail)
    generalize wr.setCell ⟨gV, h, none⟩ (.bool true) = W1 at HO9 ⊢
    clear cV fV kp
    go_wp2
    go_loopg [10] (n + 1) (fun m t10 wr => ∃ (more : Bool) (V : Nat → Bool), t10 = .bool more ∧ Hid (Ov w n gV V wr) ∧ Hid (Q2 nx n h (free n V) 0 0 V false) ∧ Hid (more = false → ∀ x, V x = true ↔ Lp nx n h x) ∧ m ≤ n + 1 ∧ (more = true → free n V + 1 ≤ m))
    case atStart => exact ⟨true, _, rfl, HO9.out, HP.out, (fun h => by cases h), by omega, fun _ => by have := free_bound n (Fl.mark V h); omega⟩
    case round =>
     clear HO9 HP
     obtain ⟨more, V, rfl, hO, hQ, hF, hm1, hm2⟩ := hrel
     cases more with
     | true =>
      have hm := hm2 rfl
      have kp : wr.cell? ⟨q, 0, none⟩ = some (.slice a0 n cap) := (hO.out.bl.cell (p := ⟨q, 0, none⟩) hq).trans HF0.out
      obtain ⟨fr, hfr⟩ : ∃ f, f = free n V := ⟨_, rfl⟩
      rw [← hfr] at hQ hm
      clear hm2 hF hfr
      go_wp2
      go_loopw [10, 11] (fun t10 t11 wr => ∃ (more : Bool) (u : Nat) (V : Nat → Bool), t10 = .bool more ∧ t11 = .int .i64 (u : Int) ∧ u ≤ n ∧ Hid (Ov w n gV V wr) ∧ Hid (Q2 nx n h fr u 0 V more)) (fun _ t _ => n - (intOf t).toNat)
      case atStart => exact ⟨false, 0, V, rfl, rfl, by omega, hO.out, hQ.out⟩
      case round =>
       clear hO hQ kp
       obtain ⟨more, u, V, rfl, rfl, hu, hO, hQ⟩ := hrel
       have kp : wr.cell? ⟨q, 0, none⟩ = some (.slice a0 n cap) := (hO.out.bl.cell (p := ⟨q, 0, none⟩) hq).trans HF0.out
       by_cases hlu : u < n
       ·have hlu' : (u : Int) < (n : Int) := by omega
        have hu0 : (0 : Int) ≤ (u : Int) := by omega
        obtain ⟨bb, off, an, cn, rfl, c2w, hn1, hn2, hnx, hbb⟩ := HF.out.row hlu
        have c2 : wr.cell? ⟨bb, off + u * 3 + 2, none⟩ = some (.slice an (nx u).length cn) := (hO.out.bl.cell (p := ⟨bb, _, none⟩) hbb).trans c2w
        have HNX := Lib.hid hnx
        have hxl := HX.out u
        unfold maxLen at hn2
        clear hnx c2w
        go_wp2
        go_loopw [10, 13] (fun t10 t13 wr => ∃ (more : Bool) (k : Nat) (V : Nat → Bool), t10 = .bool more ∧ t13 = .int .i64 (k : Int) ∧ k ≤ (nx u).length ∧ Hid (Ov w n gV V wr) ∧ Hid (Q2 nx n h fr u k V more)) (fun _ t _ => (nx u).length - (intOf t).toNat)
        case atStart => exact ⟨more, 0, V, rfl, rfl, by omega, hO.out, hQ.out⟩
        case round =>
         clear hO hQ kp c2
         obtain ⟨more, k, V, rfl, rfl, hk, hO, hQ⟩ := hrel
         by_cases hlk : k < (nx u).length
         ·have hlk' : (k : Int) < ((nx u).length : Int) := by omega
          have hk0 : (0 : Int) ≤ (k : Int) := by omega
          obtain ⟨y, hy⟩ : ∃ y, (nx u)[k]? = some y := ⟨_, List.getElem?_eq_getElem hlk⟩
          have hyn := HNL.out u hlu y (List.mem_of_getElem? hy)
          have hyi : (y : Int) < (n : Int) := by omega
          have hy0 : (0 : Int) ≤ (y : Int) := by omega
          obtain ⟨bv, ov, rfl, _, hbv, cv⟩ := SlX.int (HNX.out.below hO.out.bl) (show (nI (nx u))[k]? = some (y : Int) by unfold nI; rw [List.getElem?_map, hy]; rfl)
          have cVy := OwB.cell hO.out.ov hyn
          have cVu := OwB.cell hO.out.ov hlu
          have HY := Lib.hid hy
          clear hy
          cases hVy : V y with
          | false =>
           have HQ9 := Lib.hid (hQ.out.skip HY.out (fun h1 => by rw [hVy] at h1; cases h1))
           rw [hVy] at cVy
           clear hVy hQ
           go_wp2
           go_roundw
           all_goals first
            | exact ⟨more, k + 1, V, rfl, by go_num, by omega, hO.out, HQ9.out⟩
            | ((repeat apply Exists.intro); exact ⟨⟨more, k + 1, V, rfl, by go_num, by omega, hO.out, HQ9.out⟩, rfl⟩)
            | (simp [intOf]; omega)
          | true =>
           rw [hVy] at cVy
           by_cases hyh : y = h
           ·have hyh' : ((y : Int) != (h : Int)) = false := by simp [hyh]
            have HQ9 := Lib.hid (hQ.out.skip HY.out (fun _ h2 => absurd hyh h2))
            clear hVy hyh hQ
            go_wp2
            go_roundw
            all_goals first
             | exact ⟨more, k + 1, V, rfl, by go_num, by omega, hO.out, HQ9.out⟩
             | ((repeat apply Exists.intro); exact ⟨⟨more, k + 1, V, rfl, by go_num, by omega, hO.out, HQ9.out⟩, rfl⟩)
             | (simp [intOf]; omega)
           ·have hyh' : ((y : Int) != (h : Int)) = true := by simp; omega
            cases hVu : V u with
            | true =>
             have HQ9 := Lib.hid (hQ.out.skip HY.out (fun _ _ => hVu))
             rw [hVu] at cVu
             clear hVy hVu hyh hQ
             go_wp2
             go_roundw
             all_goals first
              | exact ⟨more, k + 1, V, rfl, by go_num, by omega, hO.out, HQ9.out⟩
              | ((repeat apply Exists.intro); exact ⟨⟨more, k + 1, V, rfl, by go_num, by omega, hO.out, HQ9.out⟩, rfl⟩)
              | (simp [intOf]; omega)
            | false =>
             have HQ9 := Lib.hid (hQ.out.add hlu HY.out hVy hyh hVu)
             rw [hVu] at cVu
             have fV := hO.out.ov.frozen u
             have HO9 := Lib.hid (hO.out.mark (i := u) hlu)
             clear hVy hVu hyh hQ hO
             go_wp2
             go_roundw
             all_goals first
              | exact ⟨true, k + 1, _, rfl, by go_num, by omega, HO9.out, HQ9.out⟩
              | ((repeat apply Exists.intro); exact ⟨⟨true, k + 1, _, rfl, by go_num, by omega, HO9.out, HQ9.out⟩, rfl⟩)
              | (simp [intOf]; omega)
         ·have hkl : k = (nx u).length := by omega
          have hQ2 := hQ.out
          rw [hkl] at hQ2
          have HQ9 := Lib.hid hQ2.next
          clear hQ2 hQ hkl
          go_wp2
          go_roundw
          all_goals first
           | exact ⟨more, u + 1, V, rfl, by go_num, by omega, hO.out, HQ9.out⟩
           | ((repeat apply Exists.intro); exact ⟨⟨more, u + 1, V, rfl, by go_num, by omega, hO.out, HQ9.out⟩, rfl⟩)
           | (simp [intOf]; omega)
       ·obtain rfl : n = u := by omega
        have HQA := Lib.hid hQ.out.again
        cases more with
        | true =>
         have hlt := hQ.out.m rfl
         clear hQ
         go_wp2
         go_roundg (free n V + 1)
         case measure => omega
         case rel => exact ⟨true, V, rfl, hO.out, HQA.out, (fun h => by cases h), by omega, fun _ => Nat.le_refl _⟩
        | false =>
         have HDN := Lib.hid hQ.out.done
         clear hQ
         go_wp2
         go_roundg 0
         case measure => omega
         case rel => exact ⟨false, V, rfl, hO.out, HQA.out, (fun _ => HDN.out), by omega, fun h => by cases h⟩
     | false =>
      have HFN := Lib.hid (hF.out rfl)
      clear hF hQ hm2
      obtain ⟨WW, rfl⟩ : ∃ x : World, x = wr := ⟨_, rfl⟩
      go_wp2
      go_loopw [14, 15] (fun t14 t15 wr => ∃ (k : Nat) (v0 : Value), v0 = t14 ∧ t15 = .int .i64 (k : Int) ∧ k ≤ n ∧ Hid (Ov w n gV V wr) ∧ Hid (OwR tI w.heap.size wr v0 (nI (ins V k)))) (fun _ t _ => n - (intOf t).toNat)
      case atStart => exact ⟨0, _, rfl, rfl, by omega, hO.out, by show OwR _ _ _ _ _; exact OwR.nil _ _⟩
      case round =>
       clear hO
       obtain ⟨k, v0, rfl, rfl, hk, hO, hL⟩ := hrel
       have hsz := hO.out.bl.size
       by_cases hlk : k < n
       ·have hlk' : (k : Int) < (n : Int) := by omega
        have hk0 : (0 : Int) ≤ (k : Int) := by omega
        have ck := OwB.cell hO.out.ov hlk
        have hle := ins_len V k
        have hs := ins_succ V k
        cases hv : V k with
        | true =>
         rw [hv] at ck hs
         have HS := Lib.hid hs
         clear hs hv
         go_wp2_with (at_builtin; refine wpl_push tI rfl _ _ rfl w.heap.size _ (nI (ins V k)) (by rfl) (hL.out.alloc _) _ 0 1 1 [(k : Int)] (by rfl) rfl (rangeNew (by rfl) (by rfl)) (by rw [nI_len]; unfold maxLen; simp; omega) (by rw [nI_len]; show _ * 8 ≤ _; simp; omega) (by simp; omega) ?_; intro v' w9 hown hgrow _)
         have hO9 : Ov w n gV V w9 := by
          have hA := hO.out.below (bAl (bRefl wr) (.cells #[.int .i64 (k : Int)] 3))
          have hLA := hL.out.alloc (.cells #[.int .i64 (k : Int)] 3)
          refine ⟨hA.ov.keep fun g e => ?_, hA.bl.grown hgrow hA.bl.size fun g e => (hLA.blk e).1⟩
          obtain ⟨_, C, hb⟩ := hA.ov.blk e
          exact hgrow.block g hb.lt (fun e => hLA.ne hb (by decide) e.symm)
         have ho9 : OwR tI w.heap.size w9 v' (nI (ins V (k + 1))) := by
          rw [HS.out, if_pos rfl, nI_app]
          exact hown
         exact ⟨⟨k + 1, v', rfl, by go_num, by omega, hO9, ho9⟩, by simp [intOf]; omega⟩
        | false =>
         rw [hv] at ck hs
         have ho9 : Hid (OwR tI w.heap.size wr v0 (nI (ins V (k + 1)))) := by
          show OwR _ _ _ _ _
          rw [hs, if_neg (by simp)]
          exact hL.out
         clear hs hv
         go_wp2
         go_roundw
         all_goals first
          | exact ⟨k + 1, _, rfl, by go_num, by omega, hO.out, ho9.out⟩
          | ((repeat apply Exists.intro); exact ⟨⟨k + 1, _, rfl, by go_num, by omega, hO.out, ho9.out⟩, rfl⟩)
          | (simp [intOf]; omega)
       ·obtain rfl : n = k := by omega
        go_wp2
        go_ret
        exact ⟨hO.out.bl, Or.inr ⟨hyes.out, _, V, rfl, hL.out, HFN.out⟩⟩
end Go.Proofs.Ytndnfjcfpcfakaa
namespace Go.Proofs.Ytndnfjcfpcfakaa
open Go Go.RowKit Go.Wr Go.Fl
set_option maxHeartbeats 4000000
set_option maxRecDepth 100000
structure Nr (w : World) (q n : Nat) (l : List In) (vb vd vo : Value) (E : List Lq) (pa : Nat → Int) (vl : Value) (wr : World) : Prop where
 ex : Ex q w wr
 pb : Blk wr q 76 #[vb, vd, vl, sn, vo]
 la : OwR tA w.heap.size wr vl (arL E pa)
 el : ∀ e ∈ E, OwR tI w.heap.size wr e.bl.v (nI (ins (lpB l e.hd) n))
section
variable {w wr w' : World} {q n : Nat} {l : List In} {vb vd vo vl v' : Value} {E : List Lq} {pa pa' : Nat → Int}
theorem Nr.below (h : Nr w q n l vb vd vo E pa vl wr) (b : Below wr.heap.size wr w') : Nr w q n l vb vd vo E pa vl w' :=
 ⟨h.ex.trans (Ex.of_below b), h.pb.below b h.pb.lt, h.la.below b, fun e he => (h.el e he).below b⟩
theorem Nr.put (h : Nr w q n l vb vd vo E pa vl wr) {e : Lq} (he : OwR tI w.heap.size wr e.bl.v (nI (ins (lpB l e.hd) n))) (ho : OwR tA w.heap.size w' v' (arL (E ++ [e]) pa)) (hg : wr.grownBy w' vl.ownBlock) : Nr w q n l vb vd vo (E ++ [e]) pa v' (w'.setCell ⟨q, 2, none⟩ v') := by
 have hpb : Blk w' q 76 #[vb, vd, vl, sn, vo] := h.pb.of_block (hg.block q h.pb.lt (fun e => h.la.ne h.pb (by decide) e.symm))
 have hel : ∀ x ∈ E ++ [e], OwR tI w.heap.size w' x.bl.v (nI (ins (lpB l x.hd) n)) := fun x hx => by
  have h0 : OwR tI w.heap.size wr x.bl.v (nI (ins (lpB l x.hd) n)) := by
   rcases List.mem_append.1 hx with hx | hx
   ·exact h.el x hx
   ·simp at hx; subst hx; exact he
  exact h0.keep fun g e => by
   obtain ⟨_, C, hb⟩ := h0.blk e
   exact hg.block g hb.lt (fun e => h.la.ne hb (by decide) e.symm)
 exact ⟨(h.ex.grown hg fun g e => (h.la.blk e).1).set 2 v', (hpb.set 2 v').eq rfl, ho.set_other (ho.ne hpb (by decide)), fun x hx => (hel x hx).set_other ((hel x hx).ne hpb (by decide))⟩
theorem Nr.par {g m c : Nat} (h : Nr w q n l vb vd vo E pa (.slice (some ⟨g, 0, none⟩) m c) wr) {i : Nat} {e : Lq} (hi : E[i]? = some e) (hp : ∀ x, x ≠ i → pa' x = pa x) (z : Int) (hz : z = pa' i) :
  Nr w q n l vb vd vo E pa' (.slice (some ⟨g, 0, none⟩) m c) (wr.setCell ⟨g, i * 3 + 2, none⟩ (.int .i64 z)) := by
 subst hz
 obtain ⟨hB, C, hg⟩ := h.la.blk (g := g) rfl
 have hs := h.la.set (k := i) (j := 2) (x := ⟨(e.hd : Int), e.bl, pa i⟩) (y := ⟨(e.hd : Int), e.bl, pa' i⟩) (v := .int .i64 (pa' i)) (arL_get hi) (by decide) rfl
 rw [arL_set hi hp] at hs
 exact ⟨h.ex.set_new _ _ hB, h.pb.set_other g _ _ (blk_ne h.pb hg (by decide)), hs, fun x hx => (h.el x hx).set_other ((h.el x hx).ne hg (by decide))⟩
end
theorem ins_contains (V : Nat → Bool) (n h : Nat) (hh : h < n) : (nI (ins V n)).contains (h : Int) = V h := by
 rw [Bool.eq_iff_iff, List.contains_iff_mem]
 unfold nI ins
 simp only [List.mem_map, List.mem_filter, List.mem_range]
 constructor
 ·rintro ⟨x, ⟨_, h2⟩, h3⟩
  have : x = h := by omega
  rw [← this]; exact h2
 ·exact fun h2 => ⟨h, ⟨hh, h2⟩, rfl⟩
theorem hasR_val (w : World) (p : Nat) (v : Value) (V : Nat → Bool) (n h : Nat) (hh : h < n) (hs : SlX tI p w v (nI (ins V n))) (x : Bool) (hx : V h = x) :
  Calls Try.prog 91 #[v, .int .i64 (h : Int)] w fun e w' => e = .returned (.bool x) ∧ w' = w := by
 have := hasR_ok w p v _ (h : Int) hs
 rw [ins_contains V n h hh, hx] at this
 exact this
theorem Er_len {B n : Nat} {l : List In} {e : Lq} {w : World} (h : OwR tI B w e.bl.v (nI (ins (lpB l e.hd) n))) : e.bl.n = ((List.range n).filter (lpB l e.hd)).length := by
 rcases h.form with ⟨e1, e2⟩ | ⟨g, c, e1, _⟩
 ·have h2 := congrArg List.length e2
  rw [nI_len] at h2
  unfold Sv.v at e1
  injection e1 with _ e1 _
  rw [e1]
  exact h2.symm
 ·unfold Sv.v at e1
  injection e1 with _ e1 _
  rw [e1, nI_len]
  rfl
theorem rloops_ok (w : World) (q : Nat) (l : List In) (hnl : ∀ u, u < nB l → ∀ v ∈ nxt l u, v < nB l) (hn : nB l ≤ 4096) (vb vd vo : Value) (bs : List Bk) (hf : FwR q (nB l) (nxt l) vb bs w) (rows : List Sv) (hd : Dt q (nB l) (nxt l) vd rows w)
  (hb : Blk w q 76 #[vb, vd, sn, sn, vo]) :
  Calls Try.prog 55 #[.pointer (some ⟨q, 0, none⟩)] w fun e w' => e = .returned (.tuple #[]) ∧ ∃ E vl, Nr w q (nB l) l vb vd vo E (fun i => parK l i (heads l).length) vl w' ∧ E.map (·.hd) = heads l := by
 obtain ⟨a0, cap, rfl, h1, h2⟩ := hf.sb.form
 have hln := hf.ln
 rw [hln] at h1 hf hb
 rw [hln]
 have hpl := hb.lt
 have HF := Lib.hid hf
 have HD := Lib.hid hd
 have HNL := Lib.hid hnl
 unfold maxLen at h2
 have HN0 := Lib.hid (show Nr w q (nB l) l (.slice a0 (nB l) cap) vd vo [] (fun _ => -1) sn w from ⟨Ex.refl q w, hb, OwR.nil _ _, fun e he => by cases he⟩)
 have k0 : w.cell? ⟨q, 0, none⟩ = some (.slice a0 (nB l) cap) := hb.cell 0
 clear hb hf hd hnl hln
 go_enter Try.func55, Try.ntmps55
 go_wp2
 go_loopw [2] (fun t wr => ∃ (h : Nat) (E : List Lq) (vl : Value), h ≤ nB l ∧ t = .int .i64 (h : Int) ∧ Hid (Nr w q (nB l) l (.slice a0 (nB l) cap) vd vo E (fun _ => -1) vl wr) ∧ Hid (E.map (·.hd) = hdK l h)) (fun t _ => nB l - (intOf t).toNat)
 case atStart => exact ⟨0, [], sn, by omega, rfl, HN0.out, rfl⟩
 case round =>
  clear HN0 k0
  obtain ⟨h, E, vl, hh, rfl, hN, hE⟩ := hrel
  have k0 : wr.cell? ⟨q, 0, none⟩ = some (.slice a0 (nB l) cap) := hN.out.pb.cell 0
  have hEl : E.length ≤ h := by
   have e := congrArg List.length hE.out
   have := hdK_len l h
   simp at e
   omega
  by_cases hlt : h < nB l
  ·have hlt' : (h : Int) < (nB l : Int) := by omega
   have hfR : FwR q (nB l) (nxt l) (.slice a0 (nB l) cap) bs wr := ⟨hN.out.pb.cell 0, HF.out.ln, HF.out.sb.ex hN.out.ex, fun b k hk => (HF.out.nb b k hk).ex hN.out.ex⟩
   have hdR : Dt q (nB l) (nxt l) vd rows wr := ⟨hN.out.pb.cell 1, HD.out.sd.ex hN.out.ex, HD.out.ln, fun v s hs => (HD.out.rw v s hs).ex hN.out.ex⟩
   go_wp2_with fail
   refine (rloop_ok _ q (nB l) (nxt l) HNL.out hn (fun u => by have := nxt_two l u; omega) _ bs hfR vd rows hdR hN.out.pb.lt h hlt).mono ?_
   rintro e w2 ⟨b2, hres⟩
   have HN2 := Lib.hid (hN.out.below b2)
   have HHD := Lib.hid (hdK_succ l h)
   have hsz := hN.out.ex.size
   clear hN b2 hfR hdR k0
   rcases hres with ⟨rfl, hno⟩ | ⟨hyes, v3, V, rfl, hov, hV⟩
   ·have HE9 : Hid (E.map (·.hd) = hdK l (h + 1)) := by
     show _ = _
     have e : headB l h = false := by
      cases e : headB l h with
      | false => rfl
      | true => exact absurd (headB_iff.1 e) hno
     rw [HHD.out, e, if_neg (by simp)]
     exact hE.out
    clear hno
    go_wp2
    go_roundw
    all_goals first
     | exact ⟨h + 1, E, vl, by omega, by go_num, HN2.out, HE9.out⟩
     | ((repeat apply Exists.intro); exact ⟨⟨h + 1, E, vl, by omega, by go_num, HN2.out, HE9.out⟩, rfl⟩)
     | (simp [intOf]; omega)
   ·have hVl : V = lpB l h := by
     funext x
     rw [Bool.eq_iff_iff, hV x, lpB_iff]
    subst hVl
    have HE1 : Hid (hdK l (h + 1) = hdK l h ++ [h]) := by
     show _ = _
     rw [HHD.out, headB_iff.2 hyes, if_pos rfl]
    have hpos : 0 < (ins (lpB l h) (nB l)).length := by
     apply List.length_pos_of_mem (a := h)
     unfold ins
     exact List.mem_filter.2 ⟨by simpa using hlt, lpB_iff.2 Lp.head⟩
    obtain ⟨as3, ns3, cs3, rfl, hns⟩ : ∃ a n c, v3 = .slice a n c ∧ 0 < n := by
     rcases hov.form with ⟨e, e2⟩ | ⟨g, c, e, _⟩
     ·have := congrArg List.length e2
      rw [nI_len] at this
      simp only [List.length_nil] at this
      omega
     ·exact ⟨_, _, _, e, by rw [nI_len]; exact hpos⟩
    have hns' : (0 : Int) < (ns3 : Int) := by omega
    have HEL := Lib.hid (show OwR tI w.heap.size w2 (Lq.bl ⟨h, ⟨as3, ns3, cs3⟩, 0, 0⟩).v (nI (ins (lpB l (Lq.hd ⟨h, ⟨as3, ns3, cs3⟩, 0, 0⟩)) (nB l))) from hov.mono hsz)
    have k2 : w2.cell? ⟨q, 2, none⟩ = some vl := HN2.out.pb.cell 2
    have hsz2 := HN2.out.ex.size
    clear hV hov hyes HHD hpos
    go_upto_region 2 with (at_builtin; refine wpl_push tA rfl _ _ rfl w.heap.size vl (arL E fun _ => -1) (by rfl) (HN2.out.la.alloc _) _ 0 1 1 [⟨(h : Int), ⟨as3, ns3, cs3⟩, -1⟩] (by rfl) rfl (rangeNew (by rfl) (by rfl)) (by rw [arL_len]; unfold maxLen; simp; omega) (by rw [arL_len]; show _ * 40 ≤ _; simp; omega) (by simp; omega) ?_; intro v' w9 hown hgrow hform; obtain ⟨g', c', rfl, _⟩ := hform (by simp); have hp9 := (HN2.out.pb.alloc (.cells #[.int .i64 (h : Int), .slice as3 ns3 cs3, .int .i64 (-1)] 94)).of_block (hgrow.block q (HN2.out.pb.alloc (.cells #[.int .i64 (h : Int), .slice as3 ns3 cs3, .int .i64 (-1)] 94)).lt (fun e => (HN2.out.la.alloc (.cells #[.int .i64 (h : Int), .slice as3 ns3 cs3, .int .i64 (-1)] 94)).ne (HN2.out.pb.alloc (.cells #[.int .i64 (h : Int), .slice as3 ns3 cs3, .int .i64 (-1)] 94)) (by decide) e.symm)); have c9 := hp9.cell 2; have f9 := hp9.frozen 2; simp only [List.getElem?_toArray, List.getElem?_cons_zero, List.getElem?_cons_succ] at c9)
    have hN10 := (HN2.out.below (bAl (bRefl w2) (.cells #[.int .i64 (h : Int), .slice as3 ns3 cs3, .int .i64 (-1)] 94))).put (e := ⟨h, ⟨as3, ns3, cs3⟩, 0, 0⟩) (HEL.out.below (bAl (bRefl w2) _)) (by rw [arL_snoc]; exact hown) hgrow
    have HN10 := Lib.hid hN10
    have hE10 : Hid ((E ++ [(⟨h, ⟨as3, ns3, cs3⟩, 0, 0⟩ : Lq)]).map (·.hd) = hdK l (h + 1)) := by show _ = _; rw [List.map_append, hE.out, HE1.out]; rfl
    clear hN10 hown hgrow hform hp9 c9 f9 HN2 HEL k2 HE1 hE
    go_wp2
    go_roundw
    all_goals first
     | exact ⟨h + 1, _, _, by omega, by go_num, HN10.out, hE10.out⟩
     | ((repeat apply Exists.intro); exact ⟨⟨h + 1, _, _, by omega, by go_num, HN10.out, hE10.out⟩, rfl⟩)
     | (simp [intOf]; omega)
  ·obtain rfl : h = nB l := by omega
   have hEh : E.map (·.hd) = heads l := hE.out
   have HEH := Lib.hid hEh
   have HEHL := Lib.hid (show (heads l).length = E.length by rw [← hEh]; simp)
   have HGD : Hid (∀ i e, E[i]? = some e → (heads l).getD i 0 = e.hd) := fun i e he => by
    rw [← hEh, List.getD_eq_getElem?_getD, List.getElem?_map, he]
    rfl
   obtain ⟨av, cl, hvl, hcl1, hcl2⟩ : ∃ a c, vl = .slice a E.length c ∧ E.length ≤ c ∧ c ≤ maxLen := by
    rcases hN.out.la.form with ⟨e1, e2⟩ | ⟨g, c, e, k1, k2, _⟩
    ·have := congrArg List.length e2
     rw [arL_len] at this
     simp at this
     subst this
     exact ⟨none, 0, e1, by simp, by unfold maxLen; omega⟩
    ·rw [arL_len] at e k1
     exact ⟨_, c, e, k1, k2⟩
   subst hvl
   have hN2 := hN.out
   rw [← paF_zero l E.length] at hN2
   have HN := Lib.hid hN2
   have k6 : wr.cell? ⟨q, 2, none⟩ = some (.slice av E.length cl) := hN2.pb.cell 2
   unfold maxLen at hcl2
   clear hN2 hN hE hEh hlt hh
   obtain ⟨WW, rfl⟩ : ∃ x : World, x = wr := ⟨_, rfl⟩
   go_wp2
   go_loopw [4] (fun t wr => ∃ i : Nat, i ≤ E.length ∧ t = .int .i64 (i : Int) ∧ Hid (Nr w q (nB l) l (.slice a0 (nB l) cap) vd vo E (paF l E.length i 0) (.slice av E.length cl) wr)) (fun t _ => E.length - (intOf t).toNat)
   case atStart => exact ⟨0, by omega, rfl, HN.out⟩
   case round =>
    clear HN k6
    obtain ⟨i, hi, rfl, hN⟩ := hrel
    have k6 : wr.cell? ⟨q, 2, none⟩ = some (.slice av E.length cl) := hN.out.pb.cell 2
    by_cases hli : i < E.length
    ·have hli' : (i : Int) < (E.length : Int) := by omega
     have hi0 : (0 : Int) ≤ (i : Int) := by omega
     obtain ⟨ei, hei⟩ : ∃ e, E[i]? = some e := ⟨_, List.getElem?_eq_getElem hli⟩
     have HEI := Lib.hid hei
     obtain ⟨gl, eav⟩ : ∃ g, av = some ⟨g, 0, none⟩ := by
      rcases hN.out.la.form with ⟨_, e⟩ | ⟨g, c, e, _⟩
      ·have := congrArg List.length e
       rw [arL_len] at this
       simp only [List.length_nil] at this
       omega
      ·injection e with e _ _
       exact ⟨g, e⟩
     subst eav
     have hein : ei.hd < nB l := by
      have hm : ei.hd ∈ heads l := by
       rw [← HEH.out]
       exact List.mem_map_of_mem (List.mem_of_getElem? hei)
      unfold heads at hm
      simpa using (List.mem_filter.1 hm).1
     have HGI := Lib.hid (HGD.out i ei hei)
     clear hei
     obtain ⟨wo, rfl⟩ : ∃ x : World, x = wr := ⟨_, rfl⟩
     go_wp2
     go_loopw [5] (fun t wr => ∃ k : Nat, k ≤ E.length ∧ t = .int .i64 (k : Int) ∧ Hid (Nr w q (nB l) l (.slice a0 (nB l) cap) vd vo E (paF l E.length i k) (.slice (some ⟨gl, 0, none⟩) E.length cl) wr)) (fun t _ => E.length - (intOf t).toNat)
     case atStart => exact ⟨0, by omega, rfl, hN.out⟩
     case round =>
      clear hN k6
      obtain ⟨k, hk, rfl, hN⟩ := hrel
      have k6 : wr.cell? ⟨q, 2, none⟩ = some (.slice (some ⟨gl, 0, none⟩) E.length cl) := hN.out.pb.cell 2
      by_cases hlk : k < E.length
      ·have hlk' : (k : Int) < (E.length : Int) := by omega
       have hk0 : (0 : Int) ≤ (k : Int) := by omega
       by_cases hki : k = i
       ·have hki' : ((k : Int) == (i : Int)) = true := by simp [hki]
        have hN9 := hN.out
        rw [← paF_same (parK_skip (Or.inl hki))] at hN9
        have HN9 := Lib.hid (hN9)
        clear hN9 hN hki
        go_upto_region 12 with (fail)
        go_quiet (fail)
        have HN10 := Lib.hid (HN9.out.below (bDraw (bRefl wr) nq))
        generalize wr.drewN nq = W5 at HN10 ⊢
        clear HN9
        go_wp2
        go_roundw
        all_goals first
         | exact ⟨k + 1, by omega, by go_num, HN10.out⟩
         | ((repeat apply Exists.intro); exact ⟨⟨k + 1, by omega, by go_num, HN10.out⟩, rfl⟩)
         | (simp [intOf]; omega)
       ·have hki' : ((k : Int) == (i : Int)) = false := by simp; omega
        obtain ⟨ek, hek⟩ : ∃ e, E[k]? = some e := ⟨_, List.getElem?_eq_getElem hlk⟩
        have hSk := Lib.hid (hN.out.el ek (List.mem_of_getElem? hek))
        have hatk := hN.out.la.at (arL_get (pa := paF l E.length i k) hek)
        have ckb := hatk.cell 1 _ rfl
        rw [show 0 + k * tA.n + 1 = k * 3 + 1 by show 0 + k * 3 + 1 = _; omega] at ckb
        simp only [Sv.v] at ckb
        have hSL := Lib.hid (show ∀ z, SlX tI q (wr.drewN z) (.slice ek.bl.a ek.bl.n ek.bl.c) (nI (ins (lpB l ek.hd) (nB l))) from fun z => (hSk.out.sl (hSk.out.ne hN.out.pb (by decide))).below (bDraw (bRefl wr) z))
        have hati := hN.out.la.at (arL_get (pa := paF l E.length i k) HEI.out)
        have ch := hati.cell 0 _ rfl
        have cpa := hati.cell 2 _ rfl
        rw [show 0 + i * tA.n + 0 = i * 3 by show 0 + i * 3 + 0 = _; omega] at ch
        rw [show 0 + i * tA.n + 2 = i * 3 + 2 by show 0 + i * 3 + 2 = _; omega, paF_self] at cpa
        have HEK := Lib.hid hek
        have HGK := Lib.hid (HGD.out k ek hek)
        clear hek hati hatk
        cases hlp : lpB l ek.hd ei.hd with
        | false =>
         have hN9 := hN.out
         rw [← paF_same (parK_skip (Or.inr (by rw [HGK.out, HGI.out]; exact hlp)))] at hN9
         have HN9 := Lib.hid hN9
         clear hN9 hN hki cpa
         have HLP := Lib.hid hlp
         clear hlp
         go_upto_region 12 with (fail)
         go_quiet ((go_at_call 91; exact Calls.quiet_of_same (hasR_val _ q _ (lpB l ek.hd) (nB l) ei.hd hein (hSL.out _) false HLP.out)))
         have HN10 := Lib.hid (HN9.out.below (bDraw (bRefl wr) nq))
         generalize wr.drewN nq = W5 at HN10 ⊢
         clear HN9 hSk hSL ckb ch k6
         go_wp2
         go_roundw
         all_goals first
          | exact ⟨k + 1, by omega, by go_num, HN10.out⟩
          | ((repeat apply Exists.intro); exact ⟨⟨k + 1, by omega, by go_num, HN10.out⟩, rfl⟩)
          | (simp [intOf]; omega)
        | true =>
         have HPI := Lib.hid (parK_in hki (l := l) (by rw [HGK.out, HGI.out]; exact hlp))
         have hplt := parK_lt l i k
         obtain ⟨P, hP⟩ : ∃ P, P = parK l i k := ⟨_, rfl⟩
         rw [← hP] at hplt cpa HPI
         have HP := Lib.hid hP
         have HLP := Lib.hid hlp
         clear hlp hki hP
         go_upto_region 12 with (fail)
         go_quiet ((go_at_call 91; exact Calls.quiet_of_same (hasR_val _ q _ (lpB l ek.hd) (nB l) ei.hd hein (hSL.out _) true HLP.out)))
         have HN10 := Lib.hid (hN.out.below (bDraw (bRefl wr) nq))
         have cpa2 : (wr.drewN nq).cell? ⟨gl, i * 3 + 2, none⟩ = some (.int .i64 P) := cpa
         generalize wr.drewN nq = W5 at HN10 cpa2 ⊢
         clear hN hSk hSL ckb ch k6 cpa
         have k6 : W5.cell? ⟨q, 2, none⟩ = some (.slice (some ⟨gl, 0, none⟩) E.length cl) := HN10.out.pb.cell 2
         have kf := HN10.out.la.frozen (i * 3 + 2)
         by_cases hP0 : P < 0
         ·have HK : Hid (parK l i (k + 1) = (k : Int)) := by show _ = _; rw [HPI.out, if_pos (Or.inl hP0)]
          have HS := Lib.hid (HN10.out.par (pa' := paF l E.length i (k + 1)) HEI.out (fun x hx => paF_ne l E.length i k (k + 1) x hx) (k : Int) (by rw [paF_self, HK.out]))
          go_upto_region 14 with (fail)
          go_quiet (fail)
          have HN11 := Lib.hid (HN10.out.below (bDraw (bRefl W5) nq))
          have HS2 := Lib.hid ((HN10.out.below (bDraw (bRefl W5) nq)).par (pa' := paF l E.length i (k + 1)) HEI.out (fun x hx => paF_ne l E.length i k (k + 1) x hx) (k : Int) (by rw [paF_self, HK.out]))
          have cpa3 : (W5.drewN nq).cell? ⟨gl, i * 3 + 2, none⟩ = some (.int .i64 P) := cpa2
          generalize W5.drewN nq = W6 at HN11 HS2 cpa3 ⊢
          clear HN10 HS k6 kf cpa2
          have k6 : W6.cell? ⟨q, 2, none⟩ = some (.slice (some ⟨gl, 0, none⟩) E.length cl) := HN11.out.pb.cell 2
          have kf := HN11.out.la.frozen (i * 3 + 2)
          clear HN11
          go_wp2
          go_roundw
          all_goals first
           | exact ⟨k + 1, by omega, by go_num, HS2.out⟩
           | ((repeat apply Exists.intro); exact ⟨⟨k + 1, by omega, by go_num, HS2.out⟩, rfl⟩)
           | (simp [intOf]; omega)
         ·obtain ⟨m, rfl⟩ := Int.eq_ofNat_of_zero_le (show 0 ≤ P by omega)
          have hmk : m < k := by omega
          have hml : (m : Int) < (E.length : Int) := by omega
          have hm0 : (0 : Int) ≤ (m : Int) := by omega
          obtain ⟨em, hem⟩ : ∃ e, E[m]? = some e := ⟨_, List.getElem?_eq_getElem (by omega)⟩
          have HGM := Lib.hid (HGD.out m em hem)
          have hlk2 := Er_len (HN10.out.el ek (List.mem_of_getElem? HEK.out))
          have hlm2 := Er_len (HN10.out.el em (List.mem_of_getElem? hem))
          have ck := (HN10.out.la.at (arL_get (pa := paF l E.length i k) HEK.out)).cell 1 _ rfl
          have cm := (HN10.out.la.at (arL_get (pa := paF l E.length i k) hem)).cell 1 _ rfl
          rw [show 0 + k * tA.n + 1 = k * 3 + 1 by show 0 + k * 3 + 1 = _; omega] at ck
          rw [show 0 + m * tA.n + 1 = m * 3 + 1 by show 0 + m * 3 + 1 = _; omega] at cm
          simp only [Sv.v] at ck cm
          have HPJ : Hid (parK l i (k + 1) = if ek.bl.n < em.bl.n then (k : Int) else (m : Int)) := by
           show _ = _
           rw [HPI.out, Int.toNat_natCast, HGK.out, HGM.out, ← hlk2, ← hlm2]
           by_cases h : ek.bl.n < em.bl.n
           ·rw [if_pos (Or.inr h), if_pos h]
           ·rw [if_neg (by omega), if_neg h]
          obtain ⟨nk, hnk⟩ : ∃ x, x = ek.bl.n := ⟨_, rfl⟩
          obtain ⟨nm, hnm⟩ : ∃ x, x = em.bl.n := ⟨_, rfl⟩
          rw [← hnk] at ck HPJ
          rw [← hnm] at cm HPJ
          clear hlk2 hlm2 hnk hnm hem HPI
          by_cases hnn : nk < nm
          ·have hnn' : decide (nk < nm) = true := decide_eq_true hnn
           have HK : Hid (parK l i (k + 1) = (k : Int)) := by show _ = _; rw [HPJ.out, if_pos hnn]
           go_upto_region 14 with (fail)
           go_quiet (fail)
           have HN11 := Lib.hid (HN10.out.below (bDraw (bRefl W5) nq))
           have HS2 := Lib.hid ((HN10.out.below (bDraw (bRefl W5) nq)).par (pa' := paF l E.length i (k + 1)) HEI.out (fun x hx => paF_ne l E.length i k (k + 1) x hx) (k : Int) (by rw [paF_self, HK.out]))
           have cpa3 : (W5.drewN nq).cell? ⟨gl, i * 3 + 2, none⟩ = some (.int .i64 (m : Int)) := cpa2
           generalize W5.drewN nq = W6 at HN11 HS2 cpa3 ⊢
           clear HN10 k6 kf cpa2 ck cm
           have k6 : W6.cell? ⟨q, 2, none⟩ = some (.slice (some ⟨gl, 0, none⟩) E.length cl) := HN11.out.pb.cell 2
           have kf := HN11.out.la.frozen (i * 3 + 2)
           clear HN11
           go_wp2
           go_roundw
           all_goals first
            | exact ⟨k + 1, by omega, by go_num, HS2.out⟩
            | ((repeat apply Exists.intro); exact ⟨⟨k + 1, by omega, by go_num, HS2.out⟩, rfl⟩)
            | (simp [intOf]; omega)
          ·have hnn' : decide (nk < nm) = false := decide_eq_false hnn
           have hK : parK l i (k + 1) = parK l i k := by rw [HPJ.out, if_neg hnn]; exact HP.out
           have HPS := Lib.hid (paF_same (H := E.length) hK)
           clear hK
           go_upto_region 14 with (fail)
           go_quiet (fail)
           have HN11 := Lib.hid (HN10.out.below (bDraw (bRefl W5) nq))
           generalize W5.drewN nq = W6 at HN11 ⊢
           clear HN10 k6 kf cpa2 ck cm
           have HN12 : Hid (Nr w q (nB l) l (.slice a0 (nB l) cap) vd vo E (paF l E.length i (k + 1)) (.slice (some ⟨gl, 0, none⟩) E.length cl) W6) := by
            show Nr _ _ _ _ _ _ _ _ _ _ _
            rw [HPS.out]
            exact HN11.out
           clear HN11
           go_wp2
           go_roundw
           all_goals first
            | exact ⟨k + 1, by omega, by go_num, HN12.out⟩
            | ((repeat apply Exists.intro); exact ⟨⟨k + 1, by omega, by go_num, HN12.out⟩, rfl⟩)
            | (simp [intOf]; omega)
      ·obtain rfl : k = E.length := by omega
       have hN9 := hN.out
       rw [paF_next] at hN9
       have HN9 := Lib.hid hN9
       clear hN9 hN
       go_wp2
       go_roundw
       all_goals first
        | exact ⟨i + 1, by omega, by go_num, HN9.out⟩
        | ((repeat apply Exists.intro); exact ⟨⟨i + 1, by omega, by go_num, HN9.out⟩, rfl⟩)
        | (simp [intOf]; omega)
    ·obtain rfl : i = E.length := by omega
     have hN9 := hN.out
     have e9 : arL E (paF l E.length E.length 0) = arL E fun i => parK l i (heads l).length := arL_congr fun x hx => by
      unfold paF
      rw [if_pos hx, HEHL.out]
     have HN9 : Hid (Nr w q (nB l) l (.slice a0 (nB l) cap) vd vo E (fun i => parK l i (heads l).length) (.slice av E.length cl) wr) := ⟨hN9.ex, hN9.pb, by rw [← e9]; exact hN9.la, hN9.el⟩
     clear hN9 hN e9
     go_wp2
     go_end0
     exact ⟨rfl, E, _, HN9.out, HEH.out⟩
end Go.Proofs.Ytndnfjcfpcfakaa
namespace Go.Proofs.Ytndnfjcfpcfakaa
open Go Go.RowKit Go.Wr Go.Fl
set_option maxHeartbeats 4000000
set_option maxRecDepth 100000
structure Rk (w0 : World) (n gV : Nat) (V : Nat → Bool) (v : Value) (left : List Nat) (w : World) : Prop where
 ov : OwR tB w0.heap.size w (.slice (some ⟨gV, 0, none⟩) n n) ((List.range n).map V)
 ol : OwR tI w0.heap.size w v (nI left)
 bl : Below w0.heap.size w0 w
theorem Rk.below {w0 w w' : World} {n gV : Nat} {V : Nat → Bool} {v : Value} {left : List Nat} (h : Rk w0 n gV V v left w) (b : Below w.heap.size w w') : Rk w0 n gV V v left w' := ⟨h.ov.below b, h.ol.below b, bThen h.bl b⟩
theorem Rk.mark {w0 w : World} {n gV : Nat} {V : Nat → Bool} {v : Value} {left : List Nat} (h : Rk w0 n gV V v left w) {i : Nat} (hi : i < n) : Rk w0 n gV (Fl.mark V i) v left (w.setCell ⟨gV, i, none⟩ (.bool true)) := by
 obtain ⟨hB, C, hg⟩ := h.ov.blk (g := gV) rfl
 exact ⟨OwB.mark h.ov hi, h.ol.set_other (h.ol.ne hg (by decide)), h.bl.setCell hB _⟩
def WalkP (w0 : World) (n gV : Nat) (s : Sg) (e : Ending) (w' : World) : Prop := ∃ v', e = .returned v' ∧ Rk w0 n gV s.1 v' s.2 w'
theorem vs_cases {nx : Nat → List Nat} {m b k : Nat} {s s' : Sg} (h : Vs nx m b k s s') :
  (k = (nx b).length ∧ s' = (s.1, s.2 ++ [b])) ∨ ∃ c, (nx b)[k]? = some c ∧ ((s.1 c = true ∧ ∃ j, j < m ∧ Vs nx j b (k + 1) s s') ∨ (s.1 c = false ∧ ∃ i j s1, i < m ∧ j < m ∧ Vs nx j c 0 (Fl.mark s.1 c, s.2) s1 ∧ Vs nx i b (k + 1) s1 s')) := by
 cases h with
 | fin => exact Or.inl ⟨rfl, rfl⟩
 | skip hc hB h => exact Or.inr ⟨_, hc, Or.inl ⟨hB, _, by omega, h⟩⟩
 | down hc hB hj h => exact Or.inr ⟨_, hc, Or.inr ⟨hB, _, _, _, by omega, by omega, hj, h⟩⟩
theorem rwalk_ok (w0 : World) (q n : Nat) (nx : Nat → List Nat) (hnl : ∀ u, u < n → ∀ v ∈ nx u, v < n) (hx2 : ∀ u, (nx u).length ≤ 1048576) (vb : Value) (bs : List Bk) (hf : FwR q n nx vb bs w0) (hq : q < w0.heap.size) (gV : Nat) :
  ∀ (m : Nat) (w : World) (b : Nat) (V : Nat → Bool) (v : Value) (left : List Nat) (s' : Sg), b < n → n ≤ 4096 → s'.2.length ≤ 4096 → Rk w0 n gV V v left w → Vs nx m b 0 (Fl.mark V b, left) s' →
   Calls Try.prog 56 #[.pointer (some ⟨q, 0, none⟩), .int .i64 (b : Int), .slice (some ⟨gV, 0, none⟩) n n, v] w (WalkP w0 n gV s') := by
 obtain ⟨a0, cap, rfl, h1, h2⟩ := hf.sb.form
 have hln := hf.ln
 rw [hln] at h1 hf
 unfold maxLen at h2
 have HF := Lib.hid hf
 have HX := Lib.hid hx2
 have HNL := Lib.hid hnl
 have HF0 := Lib.hid hf.f0
 clear hf hx2 hnl hln
 intro m
 induction m using Nat.strongRecOn with
 | ind m ih =>
  intro w b V v left s' hb hn hl hR hV
  have HIH := Lib.hid ih
  have HR := Lib.hid hR
  have HV := Lib.hid hV
  clear ih hR hV
  have hbi : (b : Int) < (n : Int) := by omega
  have hb0 : (0 : Int) ≤ (b : Int) := by omega
  have cV := OwB.cell HR.out.ov hb
  have fV := HR.out.ov.frozen b
  have HR1 := Lib.hid (HR.out.mark (i := b) hb)
  go_enter Try.func56, Try.ntmps56
  go_upto_region 2 with (fail)
  generalize w.setCell ⟨gV, b, none⟩ (.bool true) = W1 at HR1 ⊢
  clear cV fV HR
  have kp : W1.cell? ⟨q, 0, none⟩ = some (.slice a0 n cap) := (HR1.out.bl.cell (p := ⟨q, 0, none⟩) hq).trans HF0.out
  obtain ⟨bb, off, an, cn, rfl, c2w, hn1, hn2, hnx, hbb⟩ := HF.out.row hb
  have c2 : W1.cell? ⟨bb, off + b * 3 + 2, none⟩ = some (.slice an (nx b).length cn) := (HR1.out.bl.cell (p := ⟨bb, _, none⟩) hbb).trans c2w
  have HNX := Lib.hid hnx
  have hxl := HX.out b
  unfold maxLen at hn2
  clear hnx c2w
  go_wp2
  go_loopw [3, 10] (fun t3 t10 wr => ∃ (v : Value) (k i : Nat) (V : Nat → Bool) (left : List Nat), v = t3 ∧ t10 = .int .i64 (k : Int) ∧ k ≤ (nx b).length ∧ Hid (Rk w0 n gV V v left wr) ∧ Hid (Vs nx i b k (V, left) s' ∧ i ≤ m)) (fun _ t _ => (nx b).length - (intOf t).toNat)
  case atStart => exact ⟨v, 0, m, _, left, rfl, rfl, by omega, HR1.out, HV.out, Nat.le_refl _⟩
  case round =>
   clear HR1 HV kp c2
   obtain ⟨v, k, i, V, left, rfl, rfl, hk, hR, hVi⟩ := hrel
   have hlen := Vs.len hVi.out.1
   simp only at hlen
   rcases vs_cases hVi.out.1 with ⟨hkl, hs⟩ | ⟨c, hc, hcase⟩
   ·have hnk : ¬ (k : Int) < ((nx b).length : Int) := by omega
    have HS := Lib.hid hs
    have hsz := hR.out.bl.size
    clear hs hVi hkl
    go_wp2_with (at_builtin; refine wpl_push tI rfl _ _ rfl w0.heap.size v (nI left) (by rfl) (hR.out.ol.alloc _) _ 0 1 1 [(b : Int)] (by rfl) rfl (rangeNew (by rfl) (by rfl)) (by rw [nI_len]; unfold maxLen; simp; omega) (by rw [nI_len]; show _ * 8 ≤ _; simp; omega) (by simp; omega) ?_; intro v' w9 hown hgrow _)
    go_ret
    have hA := hR.out.below (bAl (bRefl wr) (.cells #[.int .i64 (b : Int)] 3))
    refine ⟨v', rfl, ?_⟩
    rw [HS.out]
    refine ⟨hA.ov.keep fun g e => ?_, ?_, hA.bl.grown hgrow hA.bl.size fun g e => (hA.ol.blk e).1⟩
    ·obtain ⟨_, C, hb⟩ := hA.ov.blk e
     exact hgrow.block g hb.lt (fun e => hA.ol.ne hb (by decide) e.symm)
    ·simp only
     rw [nI_app]
     exact hown
   ·have hlk : k < (nx b).length := (List.getElem?_eq_some_iff.1 hc).1
    have hlk' : (k : Int) < ((nx b).length : Int) := by omega
    have hk0 : (0 : Int) ≤ (k : Int) := by omega
    have hcn := HNL.out b hb c (List.mem_of_getElem? hc)
    have hci : (c : Int) < (n : Int) := by omega
    have hc0 : (0 : Int) ≤ (c : Int) := by omega
    obtain ⟨bv, ov, rfl, _, hbv, cv⟩ := SlX.int (HNX.out.below hR.out.bl) (show (nI (nx b))[k]? = some (c : Int) by unfold nI; rw [List.getElem?_map, hc]; rfl)
    have cVc := OwB.cell hR.out.ov hcn
    have hi := hVi.out.2
    clear hc hVi
    rcases hcase with ⟨hB, j, hj, hr⟩ | ⟨hB, i2, j, s1, hi2, hj, hd, hr⟩
    ·simp only at hB
     rw [hB] at cVc
     have HR9 := Lib.hid (And.intro hr (show j ≤ m by omega))
     clear hr hB
     go_wp2
     go_roundw
     all_goals first
      | exact ⟨v, k + 1, j, V, left, rfl, by go_num, by omega, hR.out, HR9.out⟩
      | ((repeat apply Exists.intro); exact ⟨⟨v, k + 1, j, V, left, rfl, by go_num, by omega, hR.out, HR9.out⟩, rfl⟩)
      | (simp [intOf]; omega)
    ·simp only at hB
     rw [hB] at cVc
     obtain ⟨V1, left1⟩ := s1
     have hlen1 := Vs.len hr
     simp only at hlen1
     have HD := Lib.hid hd
     have HR9 := Lib.hid (And.intro hr (show i2 ≤ m by omega))
     clear hr hd hB
     go_wp2_with fail
     refine (HIH.out j (by omega) _ c V v left (V1, left1) hcn hn (by simp only; omega) hR.out HD.out).mono ?_
     rintro e w6 ⟨v6, rfl, hR6⟩
     have HRR := Lib.hid hR6
     clear hR6 hR cv cVc
     go_wp2
     go_roundw
     all_goals first
      | exact ⟨v6, k + 1, i2, V1, left1, rfl, by go_num, by omega, HRR.out, HR9.out⟩
      | ((repeat apply Exists.intro); exact ⟨⟨v6, k + 1, i2, V1, left1, rfl, by go_num, by omega, HRR.out, HR9.out⟩, rfl⟩)
      | (simp [intOf]; omega)
end Go.Proofs.Ytndnfjcfpcfakaa
namespace Go.Proofs.Ytndnfjcfpcfakaa
open Go Go.RowKit Go.Wr Go.Fl
set_option maxHeartbeats 4000000
set_option maxRecDepth 100000
structure RFin (l : List In) (q : Nat) (vb vd vl vr vo : Value) (bs : List Bk) (rows : List Sv) (E : List Lq) (w : World) : Prop where
 blk : Blk w q 76 #[vb, vd, vl, vr, vo]
 rw : Rw2 q l vb vo bs w
 dt : Dt q (nB l) (nxt l) vd rows w
 la : SlX tA q w vl (arL E fun i => parK l i (heads l).length)
 el : ∀ e ∈ E, SlX tI q w e.bl.v (nI (ins (lpB l e.hd) (nB l)))
 hd : E.map (·.hd) = heads l
 ro : SlX tI q w vr (nI (dfsL (nxt l)).reverse)
theorem RFin.below {l : List In} {q : Nat} {vb vd vl vr vo : Value} {bs : List Bk} {rows : List Sv} {E : List Lq} {w w' : World} (h : RFin l q vb vd vl vr vo bs rows E w) (b : Below w.heap.size w w') : RFin l q vb vd vl vr vo bs rows E w' :=
 ⟨h.blk.below b h.blk.lt, h.rw.ex (Ex.of_below b), h.dt.below h.blk.lt b, h.la.below b, fun e he => (h.el e he).below b, h.hd, h.ro.below b⟩
def RMakeP (l : List In) (w : World) (e : Ending) (w' : World) : Prop :=
 Below w.heap.size w w' ∧ ((e = .returned (.tuple #[.pointer none, .int .i64 (mkE l).1, .int .i64 (mkE l).2]) ∧ (mkE l).2 ≠ 0) ∨
  (G7 l ∧ ∃ q vb vd vl vr vo bs rows E, e = .returned (.tuple #[.pointer (some ⟨q, 0, none⟩), .int .i64 0, .int .i64 0]) ∧ w.heap.size ≤ q ∧ RFin l q vb vd vl vr vo bs rows E w'))
theorem RMakeP.no {l : List In} {w w' : World} {at' : Nat} {c : Int} (h : mkE l = (at', c)) (hc : c ≠ 0) (hb : Below w.heap.size w w') (x y : Int) (hx : x = (at' : Int)) (hy : y = c) : RMakeP l w (.returned (.tuple #[.pointer none, .int .i64 x, .int .i64 y])) w' := by
 subst hx hy
 exact ⟨hb, Or.inl ⟨by rw [h], by rw [h]; exact hc⟩⟩
structure Dk (w : World) (q n : Nat) (nx : Nat → List Nat) (vb vo vd : Value) (rows : List Sv) (wr : World) : Prop where
 ex : Ex q w wr
 pb : Blk wr q 76 #[vb, vd, sn, sn, vo]
 od : OwR tBB w.heap.size wr vd rows
 rs : ∀ (i : Nat) (s : Sv), rows[i]? = some s → OwR tB w.heap.size wr s.v ((List.range n).map fun (u : Nat) => domB nx n (i : Int) (u : Int))
theorem Dk.below {w wr w' : World} {q n : Nat} {nx : Nat → List Nat} {vb vo vd : Value} {rows : List Sv} (h : Dk w q n nx vb vo vd rows wr) (b : Below wr.heap.size wr w') : Dk w q n nx vb vo vd rows w' :=
 ⟨h.ex.trans (Ex.of_below b), h.pb.below b h.pb.lt, h.od.below b, fun i s hs => (h.rs i s hs).below b⟩
theorem Dk.put {w wr w' : World} {q n : Nat} {nx : Nat → List Nat} {vb vo vd v' : Value} {rows : List Sv} (h : Dk w q n nx vb vo vd rows wr) {s : Sv} (hs : OwR tB w.heap.size wr s.v ((List.range n).map fun (u : Nat) => domB nx n (rows.length : Int) (u : Int))) (ho : OwR tBB w.heap.size w' v' (rows ++ [s])) (hg : wr.grownBy w' vd.ownBlock) : Dk w q n nx vb vo v' (rows ++ [s]) (w'.setCell ⟨q, 1, none⟩ v') := by
 have hpb : Blk w' q 76 #[vb, vd, sn, sn, vo] := h.pb.of_block (hg.block q h.pb.lt (fun e => h.od.ne h.pb (by decide) e.symm))
 refine ⟨(h.ex.grown hg fun g e => (h.od.blk e).1).set 1 v', (hpb.set 1 v').eq rfl, ho.set_other (ho.ne hpb (by decide)), fun i x hx => ?_⟩
 have h0 : OwR tB w.heap.size wr x.v ((List.range n).map fun (u : Nat) => domB nx n (i : Int) (u : Int)) := by
  by_cases hi : i < rows.length
  ·rw [List.getElem?_append_left hi] at hx
   exact h.rs i x hx
  ·have hi2 : i < (rows ++ [s]).length := (List.getElem?_eq_some_iff.1 hx).1
   have e : i = rows.length := by simp at hi2; omega
   subst e
   rw [List.getElem?_append_right (Nat.le_refl _), Nat.sub_self] at hx
   simp at hx
   subst hx
   exact hs
 have h1 : OwR tB w.heap.size w' x.v ((List.range n).map fun (u : Nat) => domB nx n (i : Int) (u : Int)) := h0.keep fun g e => by
  obtain ⟨_, C, hb⟩ := h0.blk e
  exact hg.block g hb.lt (fun e => h.od.ne hb (by decide) e.symm)
 exact h1.set_other (h1.ne hpb (by decide))
def ngK (V : Nat → Bool) (n k : Nat) : List Bool := (List.range n).map fun y => if y < k then !V y else V y
theorem ngK_zero (V : Nat → Bool) (n : Nat) : ngK V n 0 = (List.range n).map V := by simp [ngK]
theorem ngK_len (V : Nat → Bool) (n k : Nat) : (ngK V n k).length = n := by simp [ngK]
theorem ngK_get (V : Nat → Bool) {n k : Nat} (h : k < n) : (ngK V n k)[k]? = some (V k) := by
 unfold ngK
 rw [List.getElem?_map, List.getElem?_range h]
 simp
theorem ngK_set (V : Nat → Bool) (n k : Nat) : (ngK V n k).set k (!V k) = ngK V n (k + 1) := by
 apply List.ext_getElem?
 intro i
 rw [List.getElem?_set, ngK_len]
 unfold ngK
 by_cases hi : i < n
 ·rw [List.getElem?_map, List.getElem?_map, List.getElem?_range hi]
  by_cases e : k = i
  ·subst e; simp [hi]
  ·have : (i < k + 1) ↔ i < k := by omega
   simp [e, this]
 ·have h1 : ((List.range n).map fun y => if y < k then !V y else V y)[i]? = none := List.getElem?_eq_none (by simp; omega)
  have h2 : ((List.range n).map fun y => if y < k + 1 then !V y else V y)[i]? = none := List.getElem?_eq_none (by simp; omega)
  rw [h1, h2]
  split
  ·rw [if_neg (by omega)]
  ·rfl
theorem ngK_dom (nx : Nat → List Nat) {n a : Nat} (ha : a < n) : ngK (rcB nx (a : Int)) n n = (List.range n).map fun (u : Nat) => domB nx n (a : Int) (u : Int) := by
 unfold ngK
 apply List.map_congr_left
 intro x hx
 have hx' : x < n := by simpa using hx
 rw [if_pos hx', Bool.eq_iff_iff, domB_iff ha hx', Rc.dom, ← rcB_iff]
 simp
end Go.Proofs.Ytndnfjcfpcfakaa
