/- What the law needs, one part after another: walks of functions and plain laws. No conditions but those that each law names. -/
import Derived.Test.YtndnfjcfpcfakaaTpag
namespace Go.Proofs.Ytndnfjcfpcfakaa
open Go Go.RowKit Go.Wr Go.Fl Go.Ht
set_option maxHeartbeats 4000000
set_option maxRecDepth 100000
theorem has19_ok (w : World) (p : Nat) (v : Value) (l : List Int) (x : Int) (h : SlX tI p w v l) : Calls Try.prog 36 #[v, .int .i64 x] w fun e w' => e = .returned (.bool (l.contains x)) ∧ w' = w := by
 obtain ⟨r, hr⟩ : ∃ r, r = l.contains x := ⟨_, rfl⟩
 rw [← hr]
 have HR := Lib.hid hr
 obtain ⟨a0, cap, rfl, h1, h2⟩ := h.form
 have H := Lib.hid h
 unfold maxLen at h2
 clear hr h
 go_enter Try.func36, Try.ntmps36
 go_wp2
 go_loop [5] (fun t => ∃ k : Nat, k ≤ l.length ∧ t = .int .i64 (k : Int) ∧ Hid (r = (l.drop k).contains x)) (fun t => l.length - (intOf t).toNat)
 case atStart => exact ⟨0, by omega, rfl, HR.out⟩
 case round =>
  clear HR
  obtain ⟨k, hk, rfl, hq⟩ := hrel
  by_cases hlt : k < l.length
  ·have hlt' : (k : Int) < (l.length : Int) := by omega
   obtain ⟨y, hy⟩ : ∃ y, l[k]? = some y := ⟨_, List.getElem?_eq_getElem hlt⟩
   have hd : l.drop k = y :: l.drop (k + 1) := by
    rw [List.drop_eq_getElem_cons hlt]
    rw [List.getElem?_eq_getElem hlt] at hy
    injection hy with hy
    rw [hy]
   have hq2 := hq.out
   rw [hd, List.contains_cons] at hq2
   obtain ⟨b, o, rfl, _, _, hc⟩ := SlX.int H.out hy
   have HQ := Lib.hid hq2
   clear hq hq2 hd hy
   by_cases e : y = x
   ·have e1 : Hid (r = true) := by show _ = _; rw [HQ.out, e]; simp
    subst e
    clear HQ
    go_wp2
    go_ret
    exact ⟨retB e1.out.symm, rfl⟩
   ·have e1 : Hid (r = (l.drop (k + 1)).contains x) := by
     show _ = _
     have hb : (x == y) = false := by simpa using fun h => e h.symm
     rw [HQ.out, hb, Bool.false_or]
    have e2 : (y == x) = false := by simpa using e
    clear HQ e
    go_wp2
    go_round
    case rel => exact ⟨k + 1, by omega, by go_num, e1⟩
    case measure => simp [intOf]; omega
  ·obtain rfl : k = l.length := by omega
   have e1 : Hid (r = false) := by show _ = _; rw [hq.out, List.drop_length]; rfl
   clear hlt hq
   go_wp2
   go_ret
   exact ⟨retB e1.out.symm, rfl⟩
theorem ahead_ok (w : World) (p : Nat) (v : Value) (l : List Nat) (h : SlX tF p w v l) (x y : Int) (hx : 0 ≤ x ∧ x < l.length) (hy : 0 ≤ y ∧ y < l.length) :
  Calls Try.prog 37 #[v, .int .i64 x, .int .i64 y] w fun e w' => e = .returned (.bool (decide (kOf l y < kOf l x ∨ (kOf l x = kOf l y ∧ x < y)))) ∧ w' = w := by
 obtain ⟨i, rfl⟩ := Int.eq_ofNat_of_zero_le hx.1
 obtain ⟨j, rfl⟩ := Int.eq_ofNat_of_zero_le hy.1
 obtain ⟨a, ha⟩ : ∃ a, l[i]? = some a := ⟨_, List.getElem?_eq_getElem (by omega)⟩
 obtain ⟨b, hb'⟩ : ∃ a, l[j]? = some a := ⟨_, List.getElem?_eq_getElem (by omega)⟩
 have ea : kOf l (i : Int) = ky a := by unfold kOf; rw [Int.toNat_natCast, List.getD_eq_getElem?_getD, ha]; rfl
 have eb : kOf l (j : Int) = ky b := by unfold kOf; rw [Int.toNat_natCast, List.getD_eq_getElem?_getD, hb']; rfl
 rw [ea, eb]
 obtain ⟨a0, cap, rfl, k1, k2⟩ := h.form
 obtain ⟨b1, o1, e1, _, _, c1⟩ := SlX.flo h ha
 obtain ⟨b2, o2, e2, _, _, c2⟩ := SlX.flo h hb'
 rw [e1] at e2
 injection e2 with e2
 injection e2 with e21 e22
 subst e21 e22 e1
 have hcv := ahead_rk a b (i : Int) (j : Int)
 have hin : (i : Int) < (l.length : Int) := by omega
 have hjn : (j : Int) < (l.length : Int) := by omega
 unfold maxLen at k2
 obtain ⟨C, hC⟩ : ∃ c, c = decide (ky b < ky a ∨ (ky a = ky b ∧ (i : Int) < (j : Int))) := ⟨_, rfl⟩
 rw [← hC] at hcv ⊢
 clear ha hb' ea eb h hx hy hC
 obtain ⟨d, hd⟩ : ∃ d, d = decide ((i : Int) < (j : Int)) := ⟨_, rfl⟩
 rw [← hd] at hcv
 have hd' : decide (i < j) = d := by rw [hd]; by_cases h : i < j <;> simp [h]
 have HD := Lib.hid (And.intro hd hd')
 clear hd hd'
 go_enter Try.func37, Try.ntmps37
 generalize hg1 : (Ieee.double.order a b == some .gt) = g1 at hcv
 generalize hg2 : (Ieee.double.order a b == some .eq) = g2 at hcv
 generalize hs1 : (Ieee.double.order a a == some .eq) = s1 at hcv
 generalize hs2 : (Ieee.double.order b b == some .eq) = s2 at hcv
 have hs1' : (Ieee.double.order a a != some .eq) = !s1 := by rw [← hs1]; rfl
 have hs2' : (Ieee.double.order b b != some .eq) = !s2 := by rw [← hs2]; rfl
 change (FloatKind.f64.format.order a b == some .gt) = g1 at hg1
 change (FloatKind.f64.format.order a b == some .eq) = g2 at hg2
 change (FloatKind.f64.format.order a a == some .eq) = s1 at hs1
 change (FloatKind.f64.format.order b b == some .eq) = s2 at hs2
 change (FloatKind.f64.format.order a a != some .eq) = !s1 at hs1'
 change (FloatKind.f64.format.order b b != some .eq) = !s2 at hs2'
 cases g1 <;> cases g2 <;> cases s1 <;> cases s2 <;> simp only [Bool.not_true, Bool.not_false, Bool.true_and, Bool.false_and, Bool.or_false, Bool.or_true, Bool.true_or, Bool.false_or, Bool.or_self, if_true, if_false, Bool.false_eq_true] at hcv hs1' hs2' <;> subst hcv
 all_goals
  obtain ⟨hd1, hd2⟩ := HD.out
  cases hd3 : decide ((i : Int) < (j : Int)) <;> rw [hd3] at hd1 <;> subst hd1
  all_goals
   first
    | (have hij : ¬ (i : Int) < (j : Int) := of_decide_eq_false hd3)
    | (have hij : (i : Int) < (j : Int) := of_decide_eq_true hd3)
   clear hd3 hd2 HD
   go_wp2
   go_ret
   exact ⟨rfl, rfl⟩
def sliceN : Value → Nat
 | .slice _ n _ => n
 | _ => 0
theorem rtop_ok (w : World) (q : Nat) (v : Value) (l : List Nat) (n : Int) (h : SlX tF q w v l) (hl : l.length ≤ 1099511627776) : Calls Try.prog 21 #[v, .int .i64 n] w fun e w' => Below w.heap.size w w' ∧ ∃ (v' : Value) (T : List Int), e = .returned v' ∧ TP (kOf l) l.length T ∧ T.length = cutN n l.length ∧ OwR tI w.heap.size w' v' T := by
 obtain ⟨a0, cap, rfl, h1, h2⟩ := h.form
 have H := Lib.hid h
 unfold maxLen at h2
 clear h
 obtain ⟨cut, hcut⟩ : ∃ c, c = cutN n l.length := ⟨_, rfl⟩
 rw [← hcut]
 have hc1 : cut ≤ l.length := by rw [hcut]; unfold cutN; omega
 have hc2 : ∀ k : Nat, k < cut ↔ ((k : Int) < n ∧ k < l.length) := fun k => by rw [hcut]; unfold cutN; omega
 have HC := Lib.hid hc2
 clear hc2 hcut
 go_enter Try.func21, Try.ntmps21
 go_wp2
 go_loopw [5, 6, 7] (fun t _ _ wr => ∃ (T : List Int) (va : Option Addr) (vn vc : Nat), t = .slice va vn vc ∧ vn ≤ cut ∧ Hid (OwR tI w.heap.size wr (.slice va vn vc) T ∧ TP (kOf l) l.length T ∧ T.length = vn) ∧ Hid (Below w.heap.size w wr)) (fun t _ _ _ => l.length - (sliceN t))
 case atStart => exact ⟨[], none, 0, 0, rfl, by omega, ⟨OwR.nil _ _, ⟨List.Pairwise.nil, fun x hx => (by cases hx), fun x _ _ y hy => (by cases hy)⟩, rfl⟩, bRefl _⟩
 case round =>
  obtain ⟨T, va, vn, vc, rfl, hk, hE, hb⟩ := hrel
  obtain ⟨W, rfl⟩ : ∃ V : World, V = wr := ⟨_, rfl⟩
  by_cases hlt : vn < cut
  ·obtain ⟨hn1, hn2⟩ := (HC.out vn).1 hlt
   have hn2' : (vn : Int) < (l.length : Int) := by omega
   go_wp2
   go_loopw [6, 7] (fun t u wr' => ∃ (i : Nat) (b : Int), i ≤ l.length ∧ t = .int .i64 b ∧ u = .int .i64 (i : Int) ∧ -1 ≤ b ∧ b < (l.length : Int) ∧ Hid (Bst (kOf l) T i b) ∧ wr' = W) (fun _ u _ => l.length - (intOf u).toNat)
   case atStart => exact ⟨0, -1, by omega, rfl, rfl, by omega, by omega, Or.inl ⟨rfl, fun x hx => by omega⟩, rfl⟩
   case round =>
    obtain ⟨i, b, hi, rfl, rfl, hb1, hb2, hB, rfl⟩ := hrel
    by_cases hil : i < l.length
    ·have hil' : (i : Int) < (l.length : Int) := by omega
     have hsT : SlX tI wr.heap.size wr (.slice va vn vc) T := hE.out.1.sl fun e => by have := hE.out.1.lt e; omega
     have hlF : SlX tF wr.heap.size wr (.slice a0 l.length cap) l := SlX.re (SlX.below H.out hb.out) (Nat.le_refl _)
     have HsT := Lib.hid hsT
     have HlF := Lib.hid hlF
     clear hsT hlF
     go_wp2_with fail
     refine (has19_ok wr _ _ T (i : Int) HsT.out).mono ?_
     rintro e w5 ⟨rfl, rfl⟩
     cases hT : T.contains (i : Int) with
     | true =>
      have HB := Lib.hid (hB.out.had (List.contains_iff_mem.1 hT))
      clear hB HsT HlF hT
      go_wp2
      go_roundw
      all_goals first
       | exact ⟨i + 1, b, by omega, rfl, by go_num, hb1, hb2, HB.out, rfl⟩
       | exact ⟨i + 1, b, by omega, rfl, by go_num, hb1, hb2, HB.out, trivial⟩
       | ((repeat apply Exists.intro); exact ⟨⟨i + 1, b, by omega, rfl, by go_num, hb1, hb2, HB.out, rfl⟩, rfl⟩)
       | ((repeat apply Exists.intro); exact ⟨⟨i + 1, b, by omega, rfl, by go_num, hb1, hb2, HB.out, trivial⟩, rfl⟩)
       | (simp [intOf] <;> omega)
     | false =>
      have hni : (i : Int) ∉ T := fun h => by rw [List.contains_iff_mem.2 h] at hT; cases hT
      by_cases hneg : b < 0
      ·have HB := Lib.hid (hB.out.first hni hneg)
       clear hB HsT HlF hT hni
       go_wp2
       go_roundw
       all_goals first
        | exact ⟨i + 1, (i : Int), by omega, rfl, by go_num, by omega, by omega, HB.out, rfl⟩
        | exact ⟨i + 1, (i : Int), by omega, rfl, by go_num, by omega, by omega, HB.out, trivial⟩
        | ((repeat apply Exists.intro); exact ⟨⟨i + 1, (i : Int), by omega, rfl, by go_num, by omega, by omega, HB.out, rfl⟩, rfl⟩)
        | ((repeat apply Exists.intro); exact ⟨⟨i + 1, (i : Int), by omega, rfl, by go_num, by omega, by omega, HB.out, trivial⟩, rfl⟩)
        | (simp [intOf] <;> omega)
      ·have hb0 : 0 ≤ b := by omega
       have HNI := Lib.hid hni
       clear hni hT
       go_wp2_with fail
       refine (ahead_ok _ _ _ l HlF.out (i : Int) b ⟨by omega, hil'⟩ ⟨hb0, hb2⟩).mono ?_
       rintro e w6 ⟨rfl, rfl⟩
       by_cases hr : Ht.Rk (kOf l) (i : Int) b
       ·have hd : decide (kOf l b < kOf l (i : Int) ∨ (kOf l (i : Int) = kOf l b ∧ (i : Int) < b)) = true := decide_eq_true hr
        rw [hd]
        have HB := Lib.hid (hB.out.next HNI.out hb0 hr)
        clear hB HsT HlF hd hr HNI
        go_wp2
        go_roundw
        all_goals first
         | exact ⟨i + 1, (i : Int), by omega, rfl, by go_num, by omega, by omega, HB.out, rfl⟩
         | exact ⟨i + 1, (i : Int), by omega, rfl, by go_num, by omega, by omega, HB.out, trivial⟩
         | ((repeat apply Exists.intro); exact ⟨⟨i + 1, (i : Int), by omega, rfl, by go_num, by omega, by omega, HB.out, rfl⟩, rfl⟩)
         | ((repeat apply Exists.intro); exact ⟨⟨i + 1, (i : Int), by omega, rfl, by go_num, by omega, by omega, HB.out, trivial⟩, rfl⟩)
         | (simp [intOf] <;> omega)
       ·have hd : decide (kOf l b < kOf l (i : Int) ∨ (kOf l (i : Int) = kOf l b ∧ (i : Int) < b)) = false := decide_eq_false hr
        rw [hd]
        have HB := Lib.hid (hB.out.stay hb0 hr)
        clear hB HsT HlF hd hr HNI
        go_wp2
        go_roundw
        all_goals first
         | exact ⟨i + 1, b, by omega, rfl, by go_num, hb1, hb2, HB.out, rfl⟩
         | exact ⟨i + 1, b, by omega, rfl, by go_num, hb1, hb2, HB.out, trivial⟩
         | ((repeat apply Exists.intro); exact ⟨⟨i + 1, b, by omega, rfl, by go_num, hb1, hb2, HB.out, rfl⟩, rfl⟩)
         | ((repeat apply Exists.intro); exact ⟨⟨i + 1, b, by omega, rfl, by go_num, hb1, hb2, HB.out, trivial⟩, rfl⟩)
         | (simp [intOf] <;> omega)
    ·have hie : i = l.length := by omega
     have hB' := hB.out
     rw [hie] at hB'
     have hbT : b ∈ iot l.length ∧ b ∉ T ∧ ∀ x, x ∈ iot l.length → x ∉ T → x = b ∨ Ht.Rk (kOf l) b x := by
      obtain ⟨x0, y1, y2⟩ := some_out (T := T) (n := l.length) (by rw [hE.out.2.2]; exact hn2)
      rcases hB' with ⟨_, z2⟩ | ⟨z1, z2, z3, z4⟩
      ·obtain ⟨y3, y4⟩ := iot_mem.1 y1
       exact absurd (by have := z2 x0.toNat (by omega); rw [Int.toNat_of_nonneg y3] at this; exact this) y2
      ·refine ⟨iot_mem.2 ⟨z1, z2⟩, z3, fun x hx hn => ?_⟩
       obtain ⟨y3, y4⟩ := iot_mem.1 hx
       have := z4 x.toNat (by omega) (by rw [Int.toNat_of_nonneg y3]; exact hn)
       rw [Int.toNat_of_nonneg y3] at this
       exact this
     have HT := Lib.hid (hE.out.2.1.more hbT.1 hbT.2.1 hbT.2.2)
     have HTl := Lib.hid hE.out.2.2
     have hwz := hb.out.size
     clear hB' hbT hB hie
     go_wp2_with (at_builtin; refine wpl_push tI rfl (.tmp 40) (.tmp 42) rfl w.heap.size (.slice va vn vc) T rfl (hE.out.1.alloc _) _ 0 1 1 [b] rfl rfl (rangeNew (by rfl) (by rfl)) (by have := HTl.out; unfold maxLen; simp; omega) (by have := HTl.out; show _ * 8 ≤ _; simp; omega) (by simp; omega) ?_; intro v' w9 hown hgrow hform)
     obtain ⟨g9, c9, rfl, _⟩ := hform (by simp)
     have HO := Lib.hid (show OwR tI w.heap.size w9 (.slice (some ⟨g9, 0, none⟩) (T.length + 1) c9) (T ++ [b]) ∧ TP (kOf l) l.length (T ++ [b]) ∧ (T ++ [b]).length = T.length + 1 from ⟨hown, HT.out, by simp⟩)
     have HB := Lib.hid (below_grow hb.out hgrow (fun g hg => (hE.out.1.blk hg).1))
     have hTv : T.length + 1 ≤ cut := by have := HTl.out; omega
     have hms : l.length - (T.length + 1) < l.length - vn := by have := HTl.out; omega
     clear hown hgrow hform hE hb
     go_wp2
     go_roundw
     all_goals first
      | exact ⟨_, _, _, _, rfl, hTv, HO.out, HB.out⟩
      | ((repeat apply Exists.intro); exact ⟨⟨_, _, _, _, rfl, hTv, HO.out, HB.out⟩, rfl⟩)
      | exact hms
  ·have hve : vn = cut := by omega
   have hcc := (HC.out vn)
   have HF := Lib.hid (And.intro hE.out.2.1 (And.intro (hE.out.2.2.trans hve) hE.out.1))
   by_cases hn1 : (vn : Int) < n
   ·have hn2 : ¬ (vn : Int) < (l.length : Int) := fun h => hlt (hcc.2 ⟨hn1, by omega⟩)
    clear hcc hE hve
    go_wp2
    go_ret
    exact ⟨hb.out, _, rfl, T, HF.out.1, HF.out.2.1, HF.out.2.2⟩
   ·clear hcc hE hve
    go_wp2
    go_ret
    exact ⟨hb.out, _, rfl, T, HF.out.1, HF.out.2.1, HF.out.2.2⟩
end Go.Proofs.Ytndnfjcfpcfakaa
namespace Go.Proofs.Ytndnfjcfpcfakaa
open Go Go.RowKit Go.Wr Go.Fl Go.Ht
set_option maxHeartbeats 4000000
set_option maxRecDepth 100000
end Go.Proofs.Ytndnfjcfpcfakaa
namespace Go.Ht
open Go.Fl Go.Proofs.Ytndnfjcfpcfakaa
section
variable {l : List In} {W : Nat → Nat} {loop : Int} {b u : Nat} {bk : Bool}
end
end Go.Ht
namespace Go.Proofs.Ytndnfjcfpcfakaa
open Go Go.RowKit Go.Wr Go.Fl Go.Ht
set_option maxHeartbeats 4000000
set_option maxRecDepth 100000
end Go.Proofs.Ytndnfjcfpcfakaa
namespace Go.Proofs.Ytndnfjcfpcfakaa
open Go Go.RowKit Go.Wr Go.Fl Go.Ht
set_option maxHeartbeats 4000000
set_option maxRecDepth 100000
theorem upd_row (W : Nat → Nat) {n b x : Nat} (hb : b < n) : ((List.range n).map W).set b x = (List.range n).map (Ht.upd W b x) := by
 apply List.ext_getElem?
 intro k
 rw [List.getElem?_set, List.length_map, List.length_range]
 by_cases hk : k < n
 ·rw [List.getElem?_map, List.getElem?_map, List.getElem?_range hk]
  by_cases e : b = k
  ·subst e
   rw [if_pos rfl, if_pos hb]
   simp [Ht.upd]
  ·rw [if_neg e]
   simp only [Option.map_some, Ht.upd]
   rw [if_neg (fun h => e h.symm)]
 ·rw [if_neg (by omega), List.getElem?_eq_none (by simp; omega), List.getElem?_eq_none (by simp; omega)]
theorem wtK_succ {l : List In} {t : Nat → Nat} {loop : Int} {hd b : Nat} {bs : List Nat} : wtK l t loop hd (bs ++ [b]) = wst l t loop hd (wtK l t loop hd bs) b := by
 unfold wtK
 rw [List.foldl_append]
 rfl
theorem ord_len {l : List In} (g : G7 l) : (ordL l).length = nB l := by unfold ordL; rw [List.length_reverse, g.len]
theorem ord_lt {l : List In} (g : G7 l) {b : Nat} (h : b ∈ ordL l) : b < nB l := g.dlt b (List.mem_reverse.1 h)
theorem wgt_no {l : List In} {t : Nat → Nat} {loop : Int} {hd b : Nat} {W : Nat → Nat} (h : ¬ (0 ≤ hdd l b (nL l) ∧ hdd l b (nL l) ≠ loop)) : wgt l t loop hd W b = if b = hd then one else brg l W loop b false := by
 unfold wgt
 dsimp only
 rw [if_neg h]
theorem wgt_yes {l : List In} {t : Nat → Nat} {loop : Int} {hd b : Nat} {W : Nat → Nat} (h : 0 ≤ hdd l b (nL l) ∧ hdd l b (nL l) ≠ loop) : wgt l t loop hd W b = fmul (if b = hd then one else brg l W loop b false) (t (hdd l b (nL l)).toNat) := by
 unfold wgt
 dsimp only
 rw [if_pos h]
end Go.Proofs.Ytndnfjcfpcfakaa
namespace Go.Proofs.Ytndnfjcfpcfakaa
open Go Go.RowKit Go.Wr Go.Fl Go.Ht
set_option maxHeartbeats 4000000
set_option maxRecDepth 100000
end Go.Proofs.Ytndnfjcfpcfakaa
namespace Go.Proofs.Ytndnfjcfpcfakaa
open Go Go.RowKit Go.Wr Go.Fl
structure Rws {α : Type} (R : RT Try.prog α) (B : Nat) (rs : List Sv) (F : Nat → List α) (w : World) : Prop where
 own : ∀ (b : Nat) (s : Sv), rs[b]? = some s → OwR R B w s.v (F b)
 ap : ∀ (i j : Nat) (s t : Sv), rs[i]? = some s → rs[j]? = some t → i ≠ j → ∀ g, s.v.ownBlock = some g → t.v.ownBlock ≠ some g
section
variable {α : Type} {R : RT Try.prog α} {B : Nat} {rs : List Sv} {F : Nat → List α} {w w' : World}
theorem Rws.keep (h : Rws R B rs F w) (hk : ∀ g C, B ≤ g → Blk w g R.T C → w'.heap[g]? = w.heap[g]?) : Rws R B rs F w' :=
 ⟨fun b s hs => (h.own b s hs).keep fun g hg => by obtain ⟨h1, C, hb⟩ := (h.own b s hs).blk hg; exact hk g C h1 hb, h.ap⟩
theorem Rws.below (h : Rws R B rs F w) (b : Below w.heap.size w w') : Rws R B rs F w' := h.keep fun g _ _ hb => b.block g hb.lt
theorem Rws.nil : Rws R B [] F w := ⟨fun _ _ h => by simp at h, fun _ _ _ _ h => by simp at h⟩
theorem Rws.mono {B' : Nat} (h : Rws R B rs F w) (hB : B' ≤ B) : Rws R B' rs F w := ⟨fun b s hs => (h.own b s hs).mono hB, h.ap⟩
theorem Rws.snoc {s : Sv} {V : World} (h0 : Rws R B rs F V) (h : Rws R B rs F w) (hs : OwR R V.heap.size w s.v (F rs.length)) (hB : B ≤ V.heap.size) : Rws R B (rs ++ [s]) F w := by
 have cut : ∀ (i : Nat) (t : Sv), (rs ++ [s])[i]? = some t → rs[i]? = some t ∨ i = rs.length ∧ t = s := fun i t ht => by
  by_cases hi : i < rs.length
  ·rw [List.getElem?_append_left hi] at ht; exact Or.inl ht
  ·rw [List.getElem?_append_right (by omega)] at ht
   have h0 := (List.getElem?_eq_some_iff.1 ht).1
   simp at h0
   have e : i = rs.length := by omega
   subst e
   simp at ht
   exact Or.inr ⟨rfl, ht.symm⟩
 refine ⟨fun b t ht => ?_, fun i j t u ht hu hij g hg hg' => ?_⟩
 ·rcases cut b t ht with h1 | ⟨rfl, rfl⟩
  ·exact h.own b t h1
  ·exact hs.mono hB
 ·rcases cut i t ht with h1 | ⟨rfl, rfl⟩
  ·rcases cut j u hu with h2 | ⟨rfl, rfl⟩
   ·exact h.ap i j t u h1 h2 hij g hg hg'
   ·have a := (hs.blk hg').1
    have b := (h0.own i t h1).lt hg
    omega
  ·rcases cut j u hu with h2 | ⟨rfl, rfl⟩
   ·have a := (hs.blk hg).1
    have b := (h0.own j u h2).lt hg'
    omega
   ·exact hij rfl
theorem Rws.grow {W : World} {F' : Nat → List α} {k g n c : Nat} {s : Sv} {l : List α} (h : Rws R B rs F w) (hk : rs[k]? = some s) (hb : Below w.heap.size w W) (hg : W.grownBy w' s.v.ownBlock) (ho : OwR R B w' (.slice (some ⟨g, 0, none⟩) n c) l) (hl : s.v.ownBlock = some g ∨ g = W.heap.size) (h1 : F' k = l) (h2 : ∀ j, j ≠ k → F' j = F j) : Rws R B (rs.set k ⟨some ⟨g, 0, none⟩, n, c⟩) F' w' := by
 have hz := hb.size
 have cut : ∀ (i : Nat) (t : Sv), (rs.set k ⟨some ⟨g, 0, none⟩, n, c⟩)[i]? = some t → (i = k ∧ t = ⟨some ⟨g, 0, none⟩, n, c⟩) ∨ (i ≠ k ∧ rs[i]? = some t) := fun i t ht => by
  by_cases e : i = k
  ·subst e
   rw [List.getElem?_set_self (List.getElem?_eq_some_iff.1 hk).1] at ht
   injection ht with ht
   exact Or.inl ⟨rfl, ht.symm⟩
  ·rw [List.getElem?_set_ne (Ne.symm e)] at ht
   exact Or.inr ⟨e, ht⟩
 refine ⟨fun i t ht => ?_, fun i j t u ht hu hij q hq hq' => ?_⟩
 ·rcases cut i t ht with ⟨rfl, rfl⟩ | ⟨e, ht⟩
  ·rw [h1]; exact ho
  ·rw [h2 i e]
   refine (h.own i t ht).keep fun q hq => ?_
   have hlt := (h.own i t ht).lt hq
   exact (hg.block q (by omega) (fun e' => h.ap k i s t hk ht (Ne.symm e) q e'.symm hq)).trans (hb.block q hlt)
 ·rcases cut i t ht with ⟨rfl, rfl⟩ | ⟨ei, h3⟩
  ·injection hq with hq
   simp only at hq
   subst hq
   rcases cut j u hu with ⟨rfl, rfl⟩ | ⟨ej, h4⟩
   ·exact hij rfl
   ·rcases hl with hl | hl
    ·exact h.ap i j s u hk h4 hij g hl hq'
    ·have := (h.own j u h4).lt hq'; omega
  ·rcases cut j u hu with ⟨rfl, rfl⟩ | ⟨ej, h4⟩
   ·injection hq' with hq'
    simp only at hq'
    subst hq'
    rcases hl with hl | hl
    ·exact h.ap j i s t hk h3 (Ne.symm hij) g hl hq
    ·have := (h.own i t h3).lt hq; omega
   ·exact h.ap i j t u h3 h4 hij q hq hq'
end
end Go.Proofs.Ytndnfjcfpcfakaa
namespace Go.Proofs.Ytndnfjcfpcfakaa
open Go Go.RowKit Go.Wr Go.Fl Go.Ht
set_option maxHeartbeats 4000000
set_option maxRecDepth 100000
def tFF : RT Try.prog Sv := ⟨25, 40, 1, 24, .slice none 0 0, fun s => [s.v], fun _ => rfl, fun _ => oneSimp rfl, by kernel_rfl, by kernel_rfl, by decide, by decide⟩
noncomputable def edg (l : List In) (b k : Nat) : Nat := fmul (wts l (tT l) (-1) b) (chn l b k)
noncomputable def edR (l : List In) (b : Nat) : List Nat := (List.range (nxt l b).length).map (edg l b)
def EdP (l : List In) (w : World) (e : Ending) (w' : World) : Prop :=
 Below w.heap.size w w' ∧ ∃ v, e = .returned v ∧ ∃ rs : List Sv, rs.length = nB l ∧ OwR tFF w.heap.size w' v rs ∧ Rws tF w.heap.size rs (edR l) w'
theorem ed_take {α : Type} (f : Nat → α) (k : Nat) : (List.range (k + 1)).map f = (List.range k).map f ++ [f k] := by rw [List.range_succ, List.map_append]; rfl
end Go.Proofs.Ytndnfjcfpcfakaa
namespace Go.Proofs.Ytndnfjcfpcfakaa
open Go Go.RowKit Go.Wr Go.Fl Go.Ht
set_option maxRecDepth 100000
def f8 : Nat := 4620693217682128896
def f7 : Nat := 4619567317775286272
theorem v1 : fmul one one = one := by kernel_rfl
theorem v2 : fadd 0 one = one := by kernel_rfl
theorem v3 : fmul one c78 = c78 := by kernel_rfl
theorem v4 : fadd 0 c78 = c78 := by kernel_rfl
theorem v5 : frec (fsub one (mn c78)) = f8 := by kernel_rfl
theorem v6 : fmul one f8 = f8 := by kernel_rfl
theorem v7 : fmul f8 c18 = one := by kernel_rfl
theorem v8 : fmul f8 c78 = f7 := by kernel_rfl
theorem brS_yes {l : List In} {W : Nat → Nat} {loop : Int} {b s u k : Nat} {bk : Bool} (h1 : hol l loop u = true) (h2 : dm l b u = bk) : brS l W loop b bk s (u, k) = fadd s (fmul (W u) (chn l u k)) := by
 unfold brS
 rw [if_pos ⟨h1, h2⟩]
theorem brS_no {l : List In} {W : Nat → Nat} {loop : Int} {b s u k : Nat} {bk : Bool} (h : ¬ (hol l loop u = true ∧ dm l b u = bk)) : brS l W loop b bk s (u, k) = s := by
 unfold brS
 rw [if_neg h]
theorem sm_ord : ordL smallL = [0, 1, 2] := by unfold ordL; rw [sm_dfs]; rfl
theorem sm_nL : nL smallL = 1 := by unfold nL; rw [sm_heads]; rfl
theorem sm_hdN : hdN smallL 0 = 1 := by unfold hdN; rw [sm_heads]; rfl
theorem sm_inB (b : Nat) : inB smallL 0 b = decide (b = 1) := by
 unfold inB
 rw [sm_hdN]
 have h0 : lpB smallL 1 b = true ↔ b = 1 := by rw [lpB_iff, sm_nxt, sm_n, sN_lp]
 by_cases e : b = 1
 ·rw [decide_eq_true e]; exact h0.2 e
 ·rw [decide_eq_false e]
  cases h : lpB smallL 1 b with
  | true => exact absurd (h0.1 h) e
  | false => rfl
theorem sm_hdd (b : Nat) : hdd smallL b (nL smallL) = if b = 1 then 0 else -1 := by
 rw [sm_nL]
 unfold hdd
 rw [sm_hdN]
 by_cases e : b = 1
 ·rw [if_pos e.symm, if_pos e]; rfl
 ·rw [if_neg (fun h => e h.symm), if_neg e]; rfl
theorem sm_d11 : dm smallL 1 1 = true := by
 unfold dm
 rw [sm_nxt, sm_n]
 exact domB_yes (a := 1) (b := 1) (by omega) (by omega) (Dom.refl _ _)
theorem sm_d21 : dm smallL 2 1 = false := by
 unfold dm
 rw [sm_nxt, sm_n]
 exact domB_no (a := 2) (b := 1) sN_21
theorem sm_d10 : dm smallL 1 0 = false := by
 unfold dm
 rw [sm_nxt, sm_n]
 exact domB_no (a := 1) (b := 0) (fun h => by have := h [0] RW.root; simp at this)
theorem sm_c00 : chn smallL 0 0 = one := by unfold chn; rw [sm_nxt]; rfl
theorem sm_c10 : chn smallL 1 0 = c78 := by
 unfold chn
 rw [sm_nxt, if_neg (by decide)]
 exact chT_d1 (b := 1) (k := 0) (mine := 1) (oth := 2) sm_d11 sm_d21
theorem sm_c11 : chn smallL 1 1 = c18 := by
 unfold chn
 rw [sm_nxt, if_neg (by decide)]
 exact chT_d2 (b := 1) (k := 1) (mine := 2) (oth := 1) sm_d21 sm_d11
theorem sm_e1 : egs smallL 1 3 = [(0, 0), (1, 0)] := by simp [egs, egU, sm_nxt, sN]
theorem sm_e2 : egs smallL 2 3 = [(1, 1)] := by simp [egs, egU, sm_nxt, sN]
theorem sm_hm (b : Nat) : hol smallL (-1) b = true := by unfold hol; rfl
theorem sm_h0 (b : Nat) : hol smallL ((0 : Nat) : Int) b = decide (b = 1) := by
 unfold hol
 rw [decide_eq_false (by omega), Bool.false_or, Int.toNat_natCast, sm_inB]
theorem sm_w0 (t : Nat → Nat) : wts smallL t ((0 : Nat) : Int) 1 = one := by
 have hd : hd0 smallL ((0 : Nat) : Int) = 1 := by unfold hd0; rw [if_neg (by omega), Int.toNat_natCast, sm_hdN]
 unfold wts wtK
 rw [sm_ord, hd]
 simp only [List.foldl_cons, List.foldl_nil]
 unfold wst
 rw [sm_h0, sm_h0, sm_h0]
 rw [if_neg (by decide), if_pos (by decide), if_neg (by decide)]
 unfold Ht.upd
 rw [if_pos rfl, wgt_no (by rw [sm_hdd]; simp), if_pos rfl]
theorem sm_t0 : tT smallL 0 = f8 := by
 rw [tT_eq sm_g7 (by rw [sm_nL]; omega)]
 unfold trn brg
 rw [sm_hdN, sm_n, sm_e1]
 simp only [List.foldl_cons, List.foldl_nil]
 rw [brS_no (u := 0) (fun h => by rw [sm_h0] at h; exact absurd h.1 (by decide)), brS_yes (u := 1) (by rw [sm_h0]; rfl) sm_d11]
 rw [sm_w0, sm_c10, v3, v4, v5]
theorem sm_wt : wts smallL (tT smallL) (-1) 0 = one ∧ wts smallL (tT smallL) (-1) 1 = f8 ∧ wts smallL (tT smallL) (-1) 2 = one := by
 have hd : hd0 smallL (-1) = 0 := by unfold hd0; rfl
 obtain ⟨W0, h0⟩ : ∃ W, W = wst smallL (tT smallL) (-1) 0 (fun _ => 0) 0 := ⟨_, rfl⟩
 obtain ⟨W1, h1⟩ : ∃ W, W = wst smallL (tT smallL) (-1) 0 W0 1 := ⟨_, rfl⟩
 obtain ⟨W2, h2⟩ : ∃ W, W = wst smallL (tT smallL) (-1) 0 W1 2 := ⟨_, rfl⟩
 have hw : wts smallL (tT smallL) (-1) = W2 := by
  unfold wts wtK
  rw [sm_ord, hd, h2, h1, h0]
  rfl
 have a0 : W0 0 = one := by
  rw [h0]
  unfold wst
  rw [if_pos (sm_hm 0)]
  unfold Ht.upd
  rw [if_pos rfl, wgt_no (by rw [sm_hdd]; simp), if_pos rfl]
 have a1 : W1 1 = f8 := by
  rw [h1]
  unfold wst
  rw [if_pos (sm_hm 1)]
  unfold Ht.upd
  rw [if_pos rfl, wgt_yes (by rw [sm_hdd]; simp), if_neg (by omega), sm_hdd, if_pos rfl]
  unfold brg
  rw [sm_n, sm_e1]
  simp only [List.foldl_cons, List.foldl_nil]
  rw [brS_yes (u := 0) (sm_hm 0) sm_d10, brS_no (u := 1) (fun h => by have := h.2; rw [sm_d11] at this; cases this)]
  rw [show (0 : Int).toNat = 0 from rfl, a0, sm_c00, v1, v2, sm_t0, v6]
 have b0 : W1 0 = one := by
  rw [h1]
  unfold wst
  rw [if_pos (sm_hm 1)]
  unfold Ht.upd
  rw [if_neg (by omega), a0]
 have c2 : W2 2 = one := by
  rw [h2]
  unfold wst
  rw [if_pos (sm_hm 2)]
  unfold Ht.upd
  rw [if_pos rfl, wgt_no (by rw [sm_hdd]; simp), if_neg (by omega)]
  unfold brg
  rw [sm_n, sm_e2]
  simp only [List.foldl_cons, List.foldl_nil]
  rw [brS_yes (u := 1) (sm_hm 1) sm_d21]
  rw [a1, sm_c11, v7, v2]
 rw [hw]
 refine ⟨?_, ?_, c2⟩
 ·rw [h2]
  unfold wst
  rw [if_pos (sm_hm 2)]
  unfold Ht.upd
  rw [if_neg (by omega), b0]
 ·rw [h2]
  unfold wst
  rw [if_pos (sm_hm 2)]
  unfold Ht.upd
  rw [if_neg (by omega), a1]
theorem sm_gs : (List.range (nB smallL)).map (wts smallL (tT smallL) (-1)) = [one, f8, one] := by
 rw [sm_n]
 show [wts smallL (tT smallL) (-1) 0, wts smallL (tT smallL) (-1) 1, wts smallL (tT smallL) (-1) 2] = _
 rw [sm_wt.1, sm_wt.2.1, sm_wt.2.2]
theorem sm_ed0 : edR smallL 0 = [one] := by
 unfold edR
 rw [sm_nxt]
 show [edg smallL 0 0] = _
 unfold edg
 rw [sm_wt.1, sm_c00, v1]
theorem sm_ed1 : edR smallL 1 = [f7, one] := by
 unfold edR
 rw [sm_nxt]
 show [edg smallL 1 0, edg smallL 1 1] = _
 unfold edg
 rw [sm_wt.2.1, sm_c10, sm_c11, v7, v8]
theorem sm_ed2 : edR smallL 2 = [] := by
 unfold edR
 rw [sm_nxt]
 rfl
end Go.Proofs.Ytndnfjcfpcfakaa
namespace Go.Proofs.Ytndnfjcfpcfakaa
open Go Go.RowKit Go.Wr Go.Fl Go.Ht
set_option maxHeartbeats 4000000
set_option maxRecDepth 100000
def tCm : RT Try.prog (Nat × Nat) := ⟨107, 105, 2, 16, .agg #[.int .i64 0, .int .i64 0], fun x => [.int .i64 (x.1 : Int), .int .i64 (x.2 : Int)], fun _ => rfl, fun _ => oneSimp rfl, by kernel_rfl, by kernel_rfl, by decide, by decide⟩
def tCC : RT Try.prog Sv := ⟨105, 68, 1, 24, .slice none 0 0, fun s => [s.v], fun _ => rfl, fun _ => oneSimp rfl, by kernel_rfl, by kernel_rfl, by decide, by decide⟩
structure Wk (l : List In) (p pw g : Nat) (wa : World) (vb vl vo vi va vn vh vt : Value) (w : World) : Prop where
 g7 : G7 l
 fin : FinP l p wa
 bd : Bd p wa vb (dB l)
 ld : Ld p wa vl (dL l)
 ro : SlX tI p wa vo (nI (ordL l))
 bel : Below wa.heap.size wa w
 blk : Blk w pw 70 #[.pointer (some ⟨p, 0, none⟩), vb, vl, vi, vo, va, vn, vh, vt]
 pg : pw ≠ g
 gz : wa.heap.size ≤ g
 inr : ∃ rs : List Sv, SlX tBB g w vi rs ∧ rs.length = nL l ∧ ∀ (i : Nat) (s : Sv), rs[i]? = some s → SlX tB g w s.v ((List.range (nB l)).map (inB l i))
 inn : SlX tI g w vn ((List.range (nB l)).map fun b => inn l b (nL l))
 hdd : SlX tI g w vh ((List.range (nB l)).map fun b => hdd l b (nL l))
 ah : ∃ cs : List Sv, SlX tCC g w va cs ∧ cs.length = nB l ∧ ∀ (b : Nat) (s : Sv), cs[b]? = some s → SlX tCm g w s.v (egs l b (nB l))
section
variable {l : List In} {p pw g : Nat} {wa : World} {vb vl vo vi va vn vh vt : Value} {w w' : World}
theorem Wk.ex (h : Wk l p pw g wa vb vl vo vi va vn vh vt w) (x : Ex g w w') : Wk l p pw g wa vb vl vo vi va vn vh vt w' := by
 refine ⟨h.g7, h.fin, h.bd, h.ld, h.ro, h.bel.trans (x.below h.gz h.bel.size), x.blk h.blk h.pg, h.pg, h.gz, ?_, h.inn.ex x, h.hdd.ex x, ?_⟩
 ·obtain ⟨rs, h1, h2, h3⟩ := h.inr
  exact ⟨rs, h1.ex x, h2, fun i s hs => (h3 i s hs).ex x⟩
 ·obtain ⟨cs, h1, h2, h3⟩ := h.ah
  exact ⟨cs, h1.ex x, h2, fun i s hs => (h3 i s hs).ex x⟩
theorem Wk.below (h : Wk l p pw g wa vb vl vo vi va vn vh vt w) (b : Below w.heap.size w w') : Wk l p pw g wa vb vl vo vi va vn vh vt w' := h.ex (Ex.of_below b)
theorem Wk.finw (h : Wk l p pw g wa vb vl vo vi va vn vh vt w) : FinP l p w := h.fin.below h.bel
theorem back19_ok (h : Wk l p pw g wa vb vl vo vi va vn vh vt w) (a b : Nat) : Calls Try.prog 63 #[.pointer (some ⟨pw, 0, none⟩), .int .i64 (a : Int), .int .i64 (b : Int)] w fun e w' => e = .returned (.bool (dm l b a)) ∧ ∃ k, w' = w.drewN k := by
 have c0 : w.cell? ⟨pw, 0, none⟩ = some (.pointer (some ⟨p, 0, none⟩)) := h.blk.cell 0
 have HF := Lib.hid h.finw
 clear h
 go_enter Try.func63, Try.ntmps63
 go_wp2_with fail
 refine (HF.out.dom (b : Int) (a : Int)).mono ?_
 rintro e w1 ⟨rfl, k, rfl⟩
 obtain ⟨d, hd⟩ : ∃ d, d = domB (nxt l) (nB l) (b : Int) (a : Int) := ⟨_, rfl⟩
 have HD := Lib.hid (show dm l b a = d from hd.symm)
 rw [← hd]
 clear hd
 go_wp2
 go_ret
 exact ⟨by rw [HD.out]; rfl, k, rfl⟩
theorem holds19_ok (h : Wk l p pw g wa vb vl vo vi va vn vh vt w) (loop : Int) (b : Nat) (hl : loop < (nL l : Int)) (hb : b < nB l) : Calls Try.prog 61 #[.pointer (some ⟨pw, 0, none⟩), .int .i64 loop, .int .i64 (b : Int)] w fun e w' => e = .returned (.bool (hol l loop b)) ∧ w' = w := by
 have c3 : w.cell? ⟨pw, 3, none⟩ = some vi := h.blk.cell 3
 obtain ⟨rs, h1, h2, h3⟩ := h.inr
 have h512 := h.g7.n512
 have h8 : nL l ≤ 8 := h.g7.hd8
 by_cases hneg : loop < 0
 ·have HV := Lib.hid (show hol l loop b = true by unfold hol; rw [decide_eq_true hneg]; rfl)
  clear h h1 h2 h3
  go_enter Try.func61, Try.ntmps61
  go_wp2
  go_ret
  exact ⟨by rw [HV.out]; rfl, rfl⟩
 ·obtain ⟨t, rfl⟩ := Int.eq_ofNat_of_zero_le (show 0 ≤ loop by omega)
  have htn : t < nL l := by omega
  have HV := Lib.hid (show hol l (t : Int) b = inB l t b by unfold hol; rw [decide_eq_false (by omega), Bool.false_or, Int.toNat_natCast])
  obtain ⟨vic, vcap, rfl, v1, v2⟩ := h1.form
  rw [h2] at c3
  obtain ⟨s, hs⟩ : ∃ s, rs[t]? = some s := ⟨_, List.getElem?_eq_getElem (by rw [h2]; exact htn)⟩
  have hrow := h3 t s hs
  obtain ⟨gb, ob, e1, -, hat⟩ := h1.get hs
  subst e1
  have c4 := hat.cell 0 _ rfl
  obtain ⟨sa, sn, sc⟩ := s
  have hlen := SlX.len hrow
  rw [List.length_map, List.length_range] at hlen
  subst hlen
  have e2 : ob + t * tBB.n + 0 = ob + t := by show ob + t * 1 + 0 = _; omega
  rw [e2] at c4
  have c4' : w.cell? ⟨gb, ob + t, none⟩ = some (.slice sa (nB l) sc) := c4
  clear c4
  obtain ⟨b', o', rfl, -, -, c5⟩ := SlX.bool hrow (k := b) (x := inB l t b) (by rw [List.getElem?_map, List.getElem?_range hb]; rfl)
  obtain ⟨d, hd⟩ : ∃ d, d = inB l t b := ⟨_, rfl⟩
  rw [← hd] at c5
  have HD := Lib.hid hd
  have hti : (t : Int) < (nL l : Int) := by omega
  have hbi : (b : Int) < (nB l : Int) := by omega
  clear h h1 h2 h3 hs hrow hat hd e2
  go_enter Try.func61, Try.ntmps61
  go_wp2
  go_ret
  exact ⟨by rw [HV.out, ← HD.out]; rfl, rfl⟩
end
end Go.Proofs.Ytndnfjcfpcfakaa
namespace Go.Wr
open Go Go.RowKit
structure Chg (w w' : World) (S : Nat → Prop) : Prop where
 os : w'.os = w.os
 tape : w'.tape = w.tape
 output : w'.output = w.output
 size : w.heap.size ≤ w'.heap.size
 block : ∀ k, k < w.heap.size → ¬ S k → w'.heap[k]? = w.heap[k]?
section
variable {w w' w2 W a : World} {S : Nat → Prop}
theorem Chg.below {B : Nat} (h : Chg w w' S) (hb : Below B a w) (hS : ∀ k, S k → B ≤ k) (hB : B ≤ w.heap.size) : Below B a w' :=
 ⟨h.os.trans hb.os, h.tape.trans hb.tape, h.output.trans hb.output, Nat.le_trans hb.size h.size, fun k hk => (h.block k (by omega) (fun s => by have := hS k s; omega)).trans (hb.block k hk)⟩
theorem chg_set (hb : Below w.heap.size w W) (q i : Nat) (v : Value) : Chg w (W.setCell ⟨q, i, none⟩ v) (fun k => k = q) := by
 have h := (Below.refl 0 W).setCell (p := ⟨q, i, none⟩) (Nat.zero_le _) v
 exact ⟨h.os.trans hb.os, h.tape.trans hb.tape, h.output.trans hb.output, Nat.le_trans hb.size h.size, fun k hk hn => (Below.heap_setCell W ⟨q, i, none⟩ v k hn).trans (hb.block k hk)⟩
theorem chg_push {r : Option Nat} (hb : Below w.heap.size w W) (hg : W.grownBy w2 r) (q i : Nat) (v : Value) : Chg w (w2.setCell ⟨q, i, none⟩ v) (fun k => k = q ∨ r = some k) := by
 have h := (Below.refl 0 w2).setCell (p := ⟨q, i, none⟩) (Nat.zero_le _) v
 have hz := hb.size
 have hz2 := hg.size
 exact ⟨h.os.trans (hg.os.trans hb.os), h.tape.trans (hg.tape.trans hb.tape), h.output.trans (hg.output.trans hb.output), Nat.le_trans hz (Nat.le_trans hz2 h.size), fun k hk hn =>
  (Below.heap_setCell w2 ⟨q, i, none⟩ v k (fun e => hn (Or.inl e))).trans ((hg.block k (by omega) (fun e => hn (Or.inr e.symm))).trans (hb.block k hk))⟩
theorem OwR.chg {P : Program} {α : Type} {R : RT P α} {B : Nat} {v : Value} {l : List α} (h : OwR R B w v l) (c : Chg w w' S) (hn : ∀ g, v.ownBlock = some g → ¬ S g) : OwR R B w' v l := h.keep fun g hg => c.block g (h.lt hg) (hn g hg)
theorem blk_chg {b : Nat} {T : TypeId} {C : Array Value} (h : Blk w b T C) (c : Chg w w' S) (hn : ¬ S b) : Blk w' b T C := h.of_block (c.block b h.lt hn)
end
end Go.Wr
namespace Go.Proofs.Ytndnfjcfpcfakaa
open Go Go.RowKit Go.Wr Go.Fl Go.Ht
set_option maxHeartbeats 4000000
set_option maxRecDepth 100000
theorem Rws.chg {α : Type} {R : RT Try.prog α} {B : Nat} {rs : List Sv} {F : Nat → List α} {w w' : World} {S : Nat → Prop} (h : Rws R B rs F w) (c : Chg w w' S) (hn : ∀ g C, Blk w g R.T C → ¬ S g) : Rws R B rs F w' := h.keep fun g C _ hb => c.block g hb.lt (hn g C hb)
structure Rd1 (l : List In) (p pw ga : Nat) (wa : World) (vb vl vo : Value) (m m' : Nat) (vn vh : Sv) (cs : List Sv) (E : Nat → List (Nat × Nat)) (w : World) : Prop where
 bel : Below wa.heap.size wa w
 gz : wa.heap.size ≤ pw
 blk : Blk w pw 70 #[.pointer (some ⟨p, 0, none⟩), vb, vl, .slice none 0 0, vo, .slice (some ⟨ga, 0, none⟩) (nB l) (nB l), vn.v, vh.v, .slice none 0 0]
 ah : OwR tCC wa.heap.size w (.slice (some ⟨ga, 0, none⟩) (nB l) (nB l)) cs
 rw : Rws tCm wa.heap.size cs E w
 on : OwR tI wa.heap.size w vn.v (List.replicate m (-1))
 oh : OwR tI wa.heap.size w vh.v (List.replicate m' (-1))
 ap : ∀ g, vn.v.ownBlock = some g → vh.v.ownBlock ≠ some g
section
variable {l : List In} {p pw ga m m' : Nat} {wa w w2 W w' : World} {vb vl vo : Value} {vn vh : Sv} {cs : List Sv} {E E' : Nat → List (Nat × Nat)}
theorem Rd1.below (h : Rd1 l p pw ga wa vb vl vo m m' vn vh cs E w) (b : Below w.heap.size w w') : Rd1 l p pw ga wa vb vl vo m m' vn vh cs E w' :=
 ⟨bThen h.bel b, h.gz, h.blk.below b h.blk.lt, h.ah.below b, h.rw.below b, h.on.below b, h.oh.below b, h.ap⟩
theorem Rd1.len (h : Rd1 l p pw ga wa vb vl vo m m' vn vh cs E w) : cs.length = nB l := by
 rcases h.ah.form with ⟨e, _⟩ | ⟨g, c, e, _⟩
 ·cases e
 ·injection e with _ e _; exact e.symm
theorem Rd1.pushN {o : Obj} {g n c : Nat} (h : Rd1 l p pw ga wa vb vl vo m m' vn vh cs E w) (hg : (w.alloc o).grownBy w2 vn.v.ownBlock) (ho : OwR tI wa.heap.size w2 (.slice (some ⟨g, 0, none⟩) n c) (List.replicate (m + 1) (-1))) (hl : vn.v.ownBlock = some g ∨ g = (w.alloc o).heap.size) :
  Rd1 l p pw ga wa vb vl vo (m + 1) m' ⟨some ⟨g, 0, none⟩, n, c⟩ vh cs E (w2.setCell ⟨pw, 6, none⟩ (.slice (some ⟨g, 0, none⟩) n c)) := by
 have hb : Below w.heap.size w (w.alloc o) := bAl (bRefl w) o
 have hc := chg_push hb hg pw 6 (.slice (some ⟨g, 0, none⟩) n c)
 have hpn : vn.v.ownBlock ≠ some pw := h.on.ne h.blk (by decide)
 have hp2 : Blk w2 pw 70 _ := (h.blk.below hb h.blk.lt).of_block (hg.block pw (by have := h.blk.lt; have := hb.size; omega) (fun e => hpn e.symm))
 refine ⟨hc.below h.bel (fun k hk => ?_) h.bel.size, h.gz, ?_, h.ah.chg hc (fun q hq => ?_), h.rw.chg hc (fun q C hq => ?_), ho.set_other (ho.ne hp2 (by decide)), h.oh.chg hc (fun q hq => ?_), fun q hq => ?_⟩
 ·rcases hk with rfl | hk
  ·exact h.gz
  ·exact (h.on.blk hk).1
 ·exact hp2.set _ _
 ·obtain ⟨_, C, hq⟩ := h.ah.blk hq
  rintro (rfl | hk)
  ·exact blk_ne hq h.blk (by decide) rfl
  ·exact h.on.ne hq (by decide) hk
 ·rintro (rfl | hk)
  ·exact blk_ne hq h.blk (by decide) rfl
  ·exact h.on.ne hq (by decide) hk
 ·rintro (rfl | hk)
  ·exact h.oh.ne h.blk (by decide) hq
  ·exact h.ap q hk hq
 ·injection hq with hq
  simp only at hq
  subst hq
  rcases hl with hl | hl
  ·exact h.ap _ hl
  ·intro hq'
   have := h.oh.lt hq'
   simp at hl
   omega
theorem Rd1.pushH {o : Obj} {g n c : Nat} (h : Rd1 l p pw ga wa vb vl vo m m' vn vh cs E w) (hg : (w.alloc o).grownBy w2 vh.v.ownBlock) (ho : OwR tI wa.heap.size w2 (.slice (some ⟨g, 0, none⟩) n c) (List.replicate (m' + 1) (-1))) (hl : vh.v.ownBlock = some g ∨ g = (w.alloc o).heap.size) :
  Rd1 l p pw ga wa vb vl vo m (m' + 1) vn ⟨some ⟨g, 0, none⟩, n, c⟩ cs E (w2.setCell ⟨pw, 7, none⟩ (.slice (some ⟨g, 0, none⟩) n c)) := by
 have hb : Below w.heap.size w (w.alloc o) := bAl (bRefl w) o
 have hc := chg_push hb hg pw 7 (.slice (some ⟨g, 0, none⟩) n c)
 have hpn : vh.v.ownBlock ≠ some pw := h.oh.ne h.blk (by decide)
 have hp2 : Blk w2 pw 70 _ := (h.blk.below hb h.blk.lt).of_block (hg.block pw (by have := h.blk.lt; have := hb.size; omega) (fun e => hpn e.symm))
 refine ⟨hc.below h.bel (fun k hk => ?_) h.bel.size, h.gz, ?_, h.ah.chg hc (fun q hq => ?_), h.rw.chg hc (fun q C hq => ?_), h.on.chg hc (fun q hq => ?_), ho.set_other (ho.ne hp2 (by decide)), fun q hq hq' => ?_⟩
 ·rcases hk with rfl | hk
  ·exact h.gz
  ·exact (h.oh.blk hk).1
 ·exact hp2.set _ _
 ·obtain ⟨_, C, hq⟩ := h.ah.blk hq
  rintro (rfl | hk)
  ·exact blk_ne hq h.blk (by decide) rfl
  ·exact h.oh.ne hq (by decide) hk
 ·rintro (rfl | hk)
  ·exact blk_ne hq h.blk (by decide) rfl
  ·exact h.oh.ne hq (by decide) hk
 ·rintro (rfl | hk)
  ·exact h.on.ne h.blk (by decide) hq
  ·exact h.ap q hq hk
 ·injection hq' with hq'
  simp only at hq'
  subst hq'
  rcases hl with hl | hl
  ·exact h.ap _ hq hl
  ·have := h.on.lt hq
   simp at hl
   omega
theorem Rd1.pushE {g n c t : Nat} {s : Sv} {L : List (Nat × Nat)} (h : Rd1 l p pw ga wa vb vl vo m m' vn vh cs E w) (hb : Below w.heap.size w W) (hs : cs[t]? = some s) (hg : W.grownBy w2 s.v.ownBlock) (ho : OwR tCm wa.heap.size w2 (.slice (some ⟨g, 0, none⟩) n c) L) (hl : s.v.ownBlock = some g ∨ g = W.heap.size) (h1 : E' t = L) (h2 : ∀ j, j ≠ t → E' j = E j) :
  Rd1 l p pw ga wa vb vl vo m m' vn vh (cs.set t ⟨some ⟨g, 0, none⟩, n, c⟩) E' (w2.setCell ⟨ga, t, none⟩ (.slice (some ⟨g, 0, none⟩) n c)) := by
 have hc := chg_push hb hg ga t (.slice (some ⟨g, 0, none⟩) n c)
 have hso := h.rw.own t s hs
 obtain ⟨hga, Cg, hgb⟩ := h.ah.blk (g := ga) rfl
 have hz := hb.size
 have kp : ∀ q T C, Blk w q T C → tCm.T ≠ T → w2.heap[q]? = w.heap[q]? := fun q T C hq hT => (hg.block q (by have := hq.lt; omega) (fun e => hso.ne hq hT e.symm)).trans (hb.block q hq.lt)
 have hah2 : OwR tCC wa.heap.size w2 (.slice (some ⟨ga, 0, none⟩) (nB l) (nB l)) cs := h.ah.keep fun q hq => by obtain ⟨_, C, hq⟩ := h.ah.blk hq; exact kp q _ C hq (by decide)
 have hset := hah2.set (k := t) (j := 0) (x := s) (y := ⟨some ⟨g, 0, none⟩, n, c⟩) (v := .slice (some ⟨g, 0, none⟩) n c) hs (by decide) rfl
 have e2 : t * tCC.n + 0 = t := by show t * 1 + 0 = t; omega
 rw [e2] at hset
 have hrw := h.rw.grow (F' := E') hs hb hg ho hl h1 h2
 have ne : ∀ q T C, Blk w q T C → tCC.T ≠ T → tCm.T ≠ T → ¬ (q = ga ∨ s.v.ownBlock = some q) := fun q T C hq h1 h2 => by
  rintro (rfl | hk)
  ·exact blk_ne hgb hq h1 rfl
  ·exact hso.ne hq h2 hk
 refine ⟨hc.below h.bel (fun k hk => ?_) h.bel.size, h.gz, blk_chg h.blk hc (ne _ _ _ h.blk (by decide) (by decide)), hset, ?_, h.on.chg hc (fun q hq => ?_), h.oh.chg hc (fun q hq => ?_), h.ap⟩
 ·rcases hk with rfl | hk
  ·exact hga
  ·exact (hso.blk hk).1
 ·refine hrw.keep fun q C _ hq => Below.heap_setCell w2 ⟨ga, t, none⟩ _ q (fun e => ?_)
  subst e
  exact blk_ne (hgb.of_block (kp _ _ _ hgb (by decide))) hq (by decide) rfl
 ·obtain ⟨_, C, hq⟩ := h.on.blk hq
  exact ne _ _ _ hq (by decide) (by decide)
 ·obtain ⟨_, C, hq⟩ := h.oh.blk hq
  exact ne _ _ _ hq (by decide) (by decide)
end
structure Rd2 (l : List In) (p pw gn cn gh ch Z : Nat) (wa : World) (vb vl vo vi va : Value) (cs rs : List Sv) (N H : Nat → Int) (w : World) : Prop where
 bel : Below wa.heap.size wa w
 gz : wa.heap.size ≤ pw
 blk : Blk w pw 70 #[.pointer (some ⟨p, 0, none⟩), vb, vl, vi, vo, va, .slice (some ⟨gn, 0, none⟩) (nB l) cn, .slice (some ⟨gh, 0, none⟩) (nB l) ch, .slice none 0 0]
 ah : OwR tCC wa.heap.size w va cs
 cl : cs.length = nB l
 rw : Rws tCm wa.heap.size cs (fun c => egs l c (nB l)) w
 on : OwR tI wa.heap.size w (.slice (some ⟨gn, 0, none⟩) (nB l) cn) ((List.range (nB l)).map N)
 oh : OwR tI wa.heap.size w (.slice (some ⟨gh, 0, none⟩) (nB l) ch) ((List.range (nB l)).map H)
 ne : gn ≠ gh
 ri : OwR tBB wa.heap.size w vi rs
 rr : Rws tB wa.heap.size rs (fun i => (List.range (nB l)).map (inB l i)) w
 rb : ∀ (i : Nat) (s : Sv), rs[i]? = some s → ∀ g, s.v.ownBlock = some g → g < Z
section
variable {l : List In} {p pw gn cn gh ch Z : Nat} {wa w w2 W w' : World} {vb vl vo vi va : Value} {cs rs : List Sv} {N H : Nat → Int}
theorem Rd2.below (h : Rd2 l p pw gn cn gh ch Z wa vb vl vo vi va cs rs N H w) (b : Below w.heap.size w w') : Rd2 l p pw gn cn gh ch Z wa vb vl vo vi va cs rs N H w' :=
 ⟨bThen h.bel b, h.gz, h.blk.below b h.blk.lt, h.ah.below b, h.cl, h.rw.below b, h.on.below b, h.oh.below b, h.ne, h.ri.below b, h.rr.below b, h.rb⟩
theorem Rd2.top (h : Rd2 l p pw gn cn gh ch Z wa vb vl vo vi va cs rs N H w) {Z' : Nat} (hZ : w.heap.size ≤ Z') : Rd2 l p pw gn cn gh ch Z' wa vb vl vo vi va cs rs N H w :=
 ⟨h.bel, h.gz, h.blk, h.ah, h.cl, h.rw, h.on, h.oh, h.ne, h.ri, h.rr, fun i s hs g hg => by have := (h.rr.own i s hs).lt hg; omega⟩
theorem upd_int (W : Nat → Int) {n b : Nat} {x : Int} (hb : b < n) : ((List.range n).map W).set b x = (List.range n).map (setF W b x) := by
 apply List.ext_getElem?
 intro k
 rw [List.getElem?_set, List.length_map, List.length_range]
 by_cases hk : k < n
 ·rw [List.getElem?_map, List.getElem?_map, List.getElem?_range hk]
  by_cases e : b = k
  ·subst e
   rw [if_pos rfl, if_pos hb]
   simp [setF_self]
  ·rw [if_neg e]
   simp only [Option.map_some]
   rw [setF_ne (Ne.symm e)]
 ·rw [if_neg (by omega), List.getElem?_eq_none (by simp; omega), List.getElem?_eq_none (by simp; omega)]
theorem Rd2.setH (h : Rd2 l p pw gn cn gh ch Z wa vb vl vo vi va cs rs N H w) {b : Nat} {x : Int} (hb : b < nB l) : Rd2 l p pw gn cn gh ch Z wa vb vl vo vi va cs rs N (setF H b x) (w.setCell ⟨gh, b, none⟩ (.int .i64 x)) := by
 have hc := chg_set (bRefl w) gh b (.int .i64 x)
 obtain ⟨hg, Cg, hgb⟩ := h.oh.blk (g := gh) rfl
 have ne : ∀ q T C, Blk w q T C → tI.T ≠ T → ¬ (q = gh) := fun q T C hq hT e => by subst e; exact blk_ne hgb hq hT rfl
 have hset := h.oh.set (k := b) (j := 0) (x := H b) (y := x) (v := .int .i64 x) (by rw [List.getElem?_map, List.getElem?_range hb]; rfl) (by decide) rfl
 have e2 : b * tI.n + 0 = b := by show b * 1 + 0 = b; omega
 rw [e2, upd_int H hb] at hset
 refine ⟨hc.below h.bel (fun k hk => by rw [hk]; exact hg) h.bel.size, h.gz, blk_chg h.blk hc (ne _ _ _ h.blk (by decide)), h.ah.chg hc (fun q hq => ?_), h.cl, h.rw.chg hc (fun q C hq => ne _ _ _ hq (by decide)), h.on.chg hc (fun q hq e => ?_), hset, h.ne, h.ri.chg hc (fun q hq => ?_), h.rr.chg hc (fun q C hq => ne _ _ _ hq (by decide)), h.rb⟩
 ·obtain ⟨_, C, hq⟩ := h.ah.blk hq; exact ne _ _ _ hq (by decide)
 ·injection hq with hq; simp only at hq; exact h.ne (by omega)
 ·obtain ⟨_, C, hq⟩ := h.ri.blk hq; exact ne _ _ _ hq (by decide)
theorem Rd2.setN (h : Rd2 l p pw gn cn gh ch Z wa vb vl vo vi va cs rs N H w) {b : Nat} {x : Int} (hb : b < nB l) : Rd2 l p pw gn cn gh ch Z wa vb vl vo vi va cs rs (setF N b x) H (w.setCell ⟨gn, b, none⟩ (.int .i64 x)) := by
 have hc := chg_set (bRefl w) gn b (.int .i64 x)
 obtain ⟨hg, Cg, hgb⟩ := h.on.blk (g := gn) rfl
 have ne : ∀ q T C, Blk w q T C → tI.T ≠ T → ¬ (q = gn) := fun q T C hq hT e => by subst e; exact blk_ne hgb hq hT rfl
 have hset := h.on.set (k := b) (j := 0) (x := N b) (y := x) (v := .int .i64 x) (by rw [List.getElem?_map, List.getElem?_range hb]; rfl) (by decide) rfl
 have e2 : b * tI.n + 0 = b := by show b * 1 + 0 = b; omega
 rw [e2, upd_int N hb] at hset
 refine ⟨hc.below h.bel (fun k hk => by rw [hk]; exact hg) h.bel.size, h.gz, blk_chg h.blk hc (ne _ _ _ h.blk (by decide)), h.ah.chg hc (fun q hq => ?_), h.cl, h.rw.chg hc (fun q C hq => ne _ _ _ hq (by decide)), hset, h.oh.chg hc (fun q hq e => ?_), h.ne, h.ri.chg hc (fun q hq => ?_), h.rr.chg hc (fun q C hq => ne _ _ _ hq (by decide)), h.rb⟩
 ·obtain ⟨_, C, hq⟩ := h.ah.blk hq; exact ne _ _ _ hq (by decide)
 ·injection hq with hq; simp only at hq; exact h.ne (by omega)
 ·obtain ⟨_, C, hq⟩ := h.ri.blk hq; exact ne _ _ _ hq (by decide)
theorem Rd2.setM (h : Rd2 l p pw gn cn gh ch Z wa vb vl vo vi va cs rs N H w) {gi ci b : Nat} {M : Nat → Bool} (hm : OwR tB wa.heap.size w (.slice (some ⟨gi, 0, none⟩) (nB l) ci) ((List.range (nB l)).map M)) (hZ : Z ≤ gi) (v : Value) : Rd2 l p pw gn cn gh ch Z wa vb vl vo vi va cs rs N H (w.setCell ⟨gi, b, none⟩ v) := by
 have hc := chg_set (bRefl w) gi b v
 obtain ⟨hg, Cg, hgb⟩ := hm.blk (g := gi) rfl
 have ne : ∀ q T C, Blk w q T C → tB.T ≠ T → ¬ (q = gi) := fun q T C hq hT e => by subst e; exact blk_ne hgb hq hT rfl
 refine ⟨hc.below h.bel (fun k hk => by rw [hk]; exact hg) h.bel.size, h.gz, blk_chg h.blk hc (ne _ _ _ h.blk (by decide)), h.ah.chg hc (fun q hq => ?_), h.cl, h.rw.chg hc (fun q C hq => ne _ _ _ hq (by decide)), h.on.chg hc (fun q hq => ?_), h.oh.chg hc (fun q hq => ?_), h.ne, h.ri.chg hc (fun q hq => ?_), ⟨fun i s hs => (h.rr.own i s hs).chg hc (fun q hq e => ?_), h.rr.ap⟩, h.rb⟩
 ·obtain ⟨_, C, hq⟩ := h.ah.blk hq; exact ne _ _ _ hq (by decide)
 ·obtain ⟨_, C, hq⟩ := h.on.blk hq; exact ne _ _ _ hq (by decide)
 ·obtain ⟨_, C, hq⟩ := h.oh.blk hq; exact ne _ _ _ hq (by decide)
 ·obtain ⟨_, C, hq⟩ := h.ri.blk hq; exact ne _ _ _ hq (by decide)
 ·have := h.rb i s hs q hq; omega
theorem Rd2.pushI {g n c : Nat} {s : Sv} {V : World} (h : Rd2 l p pw gn cn gh ch V.heap.size wa vb vl vo vi va cs rs N H w) (hV : Rws tB wa.heap.size rs (fun i => (List.range (nB l)).map (inB l i)) V) (hVB : wa.heap.size ≤ V.heap.size) (hb : Below w.heap.size w W) (hg : W.grownBy w2 vi.ownBlock) (ho : OwR tBB wa.heap.size w2 (.slice (some ⟨g, 0, none⟩) n c) (rs ++ [s])) (hs : OwR tB V.heap.size w s.v ((List.range (nB l)).map (inB l rs.length))) :
  Rd2 l p pw gn cn gh ch (w2.heap.size) wa vb vl vo (.slice (some ⟨g, 0, none⟩) n c) va cs (rs ++ [s]) N H (w2.setCell ⟨pw, 3, none⟩ (.slice (some ⟨g, 0, none⟩) n c)) := by
 have hc := chg_push hb hg pw 3 (.slice (some ⟨g, 0, none⟩) n c)
 have hpn : vi.ownBlock ≠ some pw := h.ri.ne h.blk (by decide)
 have hz := hb.size
 have hp2 : Blk w2 pw 70 _ := (h.blk.below hb h.blk.lt).of_block (hg.block pw (by have := h.blk.lt; omega) (fun e => hpn e.symm))
 have ne : ∀ q T C, Blk w q T C → tBB.T ≠ T → 70 ≠ T → ¬ (q = pw ∨ vi.ownBlock = some q) := fun q T C hq h1 h2 => by
  rintro (rfl | hk)
  ·exact blk_ne h.blk hq h2 rfl
  ·exact h.ri.ne hq h1 hk
 have hrr : Rws tB wa.heap.size (rs ++ [s]) (fun i => (List.range (nB l)).map (inB l i)) (w2.setCell ⟨pw, 3, none⟩ (.slice (some ⟨g, 0, none⟩) n c)) :=
  Rws.snoc hV (h.rr.chg hc (fun q C hq => ne _ _ _ hq (by decide) (by decide))) (hs.chg hc (fun q hq => by obtain ⟨_, C, hq⟩ := hs.blk hq; exact ne _ _ _ hq (by decide) (by decide))) hVB
 refine ⟨hc.below h.bel (fun k hk => ?_) h.bel.size, h.gz, hp2.set _ _, h.ah.chg hc (fun q hq => ?_), h.cl, h.rw.chg hc (fun q C hq => ne _ _ _ hq (by decide) (by decide)), h.on.chg hc (fun q hq => ?_), h.oh.chg hc (fun q hq => ?_), h.ne, ho.set_other (ho.ne hp2 (by decide)), hrr, fun i t ht q hq => ?_⟩
 ·rcases hk with rfl | hk
  ·exact h.gz
  ·exact (h.ri.blk hk).1
 ·obtain ⟨_, C, hq⟩ := h.ah.blk hq; exact ne _ _ _ hq (by decide) (by decide)
 ·obtain ⟨_, C, hq⟩ := h.on.blk hq; exact ne _ _ _ hq (by decide) (by decide)
 ·obtain ⟨_, C, hq⟩ := h.oh.blk hq; exact ne _ _ _ hq (by decide) (by decide)
 ·have := (hrr.own i t ht).lt hq
  simpa using this
end
end Go.Proofs.Ytndnfjcfpcfakaa
namespace Go.Proofs.Ytndnfjcfpcfakaa
open Go Go.RowKit Go.Wr Go.Fl Go.Ht
set_option maxHeartbeats 4000000
set_option maxRecDepth 100000
theorem Wk.inAt {l : List In} {p pw g : Nat} {wa : World} {vb vl vo vi va vn vh vt : Value} {w : World} (h : Wk l p pw g wa vb vl vo vi va vn vh vt w) {t : Nat} (ht : t < nL l) : ∃ gi oi vic sa sc, vi = .slice (some ⟨gi, oi, none⟩) (nL l) vic ∧ w.cell? ⟨gi, oi + t, none⟩ = some (.slice sa (nB l) sc) ∧ ∀ b, b < nB l → ∃ g' o', sa = some ⟨g', o', none⟩ ∧ w.cell? ⟨g', o' + b, none⟩ = some (.bool (inB l t b)) := by
 obtain ⟨rs, h1, h2, h3⟩ := h.inr
 obtain ⟨via, vcap, e, v1, v2⟩ := h1.form
 rw [h2] at e
 subst e
 obtain ⟨s, hs⟩ : ∃ s, rs[t]? = some s := ⟨_, List.getElem?_eq_getElem (by rw [h2]; exact ht)⟩
 have hrow := h3 t s hs
 have h1' : SlX tBB g w (.slice via rs.length vcap) rs := by rw [h2]; exact h1
 obtain ⟨gb, ob, e1, -, hat⟩ := h1'.get hs
 subst e1
 have c4 := hat.cell 0 _ rfl
 obtain ⟨sa, sn, sc⟩ := s
 have hlen := SlX.len hrow
 rw [List.length_map, List.length_range] at hlen
 subst hlen
 have e2 : ob + t * tBB.n + 0 = ob + t := by show ob + t * 1 + 0 = _; omega
 rw [e2] at c4
 refine ⟨gb, ob, vcap, sa, sc, rfl, c4, fun b hb => ?_⟩
 obtain ⟨b', o', e3, _, _, c5⟩ := SlX.bool hrow (k := b) (x := inB l t b) (by rw [List.getElem?_map, List.getElem?_range hb]; rfl)
 exact ⟨b', o', e3, c5⟩
theorem wchance_ok {l : List In} {p pw g : Nat} {wa : World} {vb vl vo vi va vn vh vt : Value} {w : World} (h : Wk l p pw g wa vb vl vo vi va vn vh vt w) (b k : Nat) (hb : b < nB l) (hk : k < (nxt l b).length) : Calls Try.prog 30 #[.pointer (some ⟨pw, 0, none⟩), .int .i64 (b : Int), .int .i64 (k : Int)] w fun e w' => e = .returned (.float .f64 (chn l b k)) ∧ ∃ m, w' = w.drewN m := by
 have HK := Lib.hid h
 have h512 := h.g7.n512
 have h8 : nL l ≤ 8 := h.g7.hd8
 have hbd := h.bd.below h.bel
 obtain ⟨ab, cb, rfl, hcb1, hcb2⟩ := hbd.form
 rw [dB_len] at hbd hcb1
 have c1 : w.cell? ⟨pw, 1, none⟩ = some (.slice ab (nB l) cb) := by have := h.blk.cell 1; rw [dB_len] at this; exact this
 have c6 : w.cell? ⟨pw, 6, none⟩ = some vn := h.blk.cell 6
 have c3 : w.cell? ⟨pw, 3, none⟩ = some vi := h.blk.cell 3
 obtain ⟨gb, ob, na, nn, nc, rfl, cn, hnn, hsn⟩ := hbd.next hb
 obtain ⟨C, hC⟩ : ∃ c, c = chn l b k := ⟨_, rfl⟩
 rw [← hC]
 have h2 := nxt_two l b
 have hbi : (b : Int) < (nB l : Int) := by omega
 have hkn : k < nn := by rw [hnn]; exact hk
 have hn2 : nn ≤ 2 := by rw [hnn]; exact h2
 by_cases h1 : nn = 1
 ·have hCv : C = one := by rw [hC]; unfold chn; rw [if_pos (by rw [← hnn]; exact h1)]
  subst h1 hCv
  clear hC hnn hsn h hb hk h2 hkn hn2 hbd c6 c3
  go_enter Try.func30, Try.ntmps30
  go_wp2
  go_ret
  exact ⟨rfl, 0, rfl⟩
 ·have hnn2 : nn = 2 := by omega
  have hCv : C = chT l b k ((nxt l b).getD k 0) ((nxt l b).getD (1 - k) 0) := by rw [hC]; unfold chn; rw [if_neg (by rw [← hnn]; exact h1)]
  subst hnn2
  obtain ⟨j, hj⟩ : ∃ j, j = 1 - k := ⟨_, rfl⟩
  have hjl : j < (nxt l b).length := by omega
  have ej : (1 : Int) - (k : Int) = (j : Int) := by omega
  rw [← hj] at hCv
  obtain ⟨x, hx⟩ : ∃ x, x = (nxt l b).getD k 0 := ⟨_, rfl⟩
  obtain ⟨y, hy⟩ : ∃ x, x = (nxt l b).getD j 0 := ⟨_, rfl⟩
  have hxn : x < nB l := by rw [hx]; exact nx_lt h.g7 hb hk
  have hyn : y < nB l := by rw [hy]; exact nx_lt h.g7 hb hjl
  obtain ⟨gn, on, rfl, -, -, cx⟩ := SlX.int hsn (nI_at hk)
  obtain ⟨gn', on', e1, -, -, cy⟩ := SlX.int hsn (nI_at hjl)
  injection e1 with e1
  injection e1 with e11 e12
  subst e11 e12
  rw [← hx] at cx hCv
  rw [← hy] at cy hCv
  have HC := Lib.hid hCv
  have HXY := Lib.hid (And.intro hxn (And.intro hyn hb))
  have hki : (k : Int) < 2 := by omega
  have hji : (j : Int) < 2 := by omega
  have hxi : (x : Int) < (nB l : Int) := by omega
  have hyi : (y : Int) < (nB l : Int) := by omega
  -- the innermost loop's number
  obtain ⟨nva, nvc, rfl, nv1, nv2⟩ := h.inn.form
  rw [List.length_map, List.length_range] at nv1
  have c6' : w.cell? ⟨pw, 6, none⟩ = some (.slice nva (nB l) nvc) := by have := c6; rw [List.length_map, List.length_range] at this; exact this
  obtain ⟨gi, oi, rfl, -, -, cinn⟩ := SlX.int h.inn (k := b) (x := inn l b (nL l)) (by rw [List.getElem?_map, List.getElem?_range hb]; rfl)
  have HCells := Lib.hid (And.intro c6' (And.intro cinn c3))
  clear hC hnn hsn h hb hk h2 hkn hn2 h1 hj hjl hx hy hxn hyn hCv hbd c6 c6' cinn c3 nv1 nv2
  go_enter Try.func30, Try.ntmps30
  go_wp2_with fail
  go_quiet (fail)
  clear cx cy c1 cn
  obtain ⟨w1, hw1⟩ : ∃ v, v = w.drewN nq := ⟨_, rfl⟩
  rw [← hw1]
  have HW1 := Lib.hid (show ∃ m, w1 = w.drewN m from ⟨nq, hw1⟩)
  have HK1 := Lib.hid (show Wk l p pw g wa _ vl vo vi va _ vh vt w1 by rw [hw1]; exact HK.out.below (bDrewN (bRefl w) nq))
  clear hw1
  obtain ⟨p1, hp1⟩ : ∃ v, v = dm l x b := ⟨_, rfl⟩
  obtain ⟨p2, hp2⟩ : ∃ v, v = dm l y b := ⟨_, rfl⟩
  have HX := Lib.hid (And.intro hp1 hp2)
  clear hp1 hp2
  go_wp2_with fail
  refine (back19_ok HK1.out b x).mono ?_
  rintro e w2 ⟨rfl, m2, hw2⟩
  rw [← HX.out.1]
  have HW2 := Lib.hid (show ∃ m, w2 = w.drewN m by obtain ⟨m, hm⟩ := HW1.out; exact ⟨m + m2, by rw [hw2, hm, World.drewN_drewN]⟩)
  have HK2 := Lib.hid (HK1.out.below (by rw [hw2]; exact bDrewN (bRefl w1) m2) : Wk l p pw g wa _ vl vo vi va _ vh vt w2)
  clear hw2 HW1 HK1
  go_wp2_with fail
  refine (back19_ok HK2.out b y).mono ?_
  rintro e w3 ⟨rfl, m3, hw3⟩
  rw [← HX.out.2]
  have HW3 := Lib.hid (show ∃ m, w3 = w.drewN m by obtain ⟨m, hm⟩ := HW2.out; exact ⟨m + m3, by rw [hw3, hm, World.drewN_drewN]⟩)
  clear hw3 HW2 HK2
  cases p1 <;> cases p2
  ·have hdm : dm l x b = dm l y b := HX.out.1.symm.trans HX.out.2
   have HD := Lib.hid hdm
   clear hdm HX
   obtain ⟨z, hz⟩ : ∃ z, z = inn l b (nL l) := ⟨_, rfl⟩
   have HZ := Lib.hid hz.symm
   have hz1 : -1 ≤ z := by rw [hz]; exact (@inn_is l b (nL l)).1
   have hz2 : z < (nL l : Int) := by rw [hz]; exact (@inn_is l b (nL l)).2
   obtain ⟨m4, hm4⟩ := HW3.out
   have c6 := HCells.out.1
   have ci := HCells.out.2.1
   have c3 := HCells.out.2.2
   rw [← hz] at ci
   have c63 : w3.cell? ⟨pw, 6, none⟩ = some (.slice (some ⟨gi, oi, none⟩) (nB l) nvc) := by rw [hm4]; exact c6
   have ci3 : w3.cell? ⟨gi, oi + b, none⟩ = some (.int .i64 z) := by rw [hm4]; exact ci
   have c33 : w3.cell? ⟨pw, 3, none⟩ = some vi := by rw [hm4]; exact c3
   have HM4 := Lib.hid hm4
   clear hz c6 ci c3 hm4
   by_cases hz0 : z < 0
   ·have hzn : ¬ (0 ≤ z) := by omega
    have hzd : decide (z ≥ 0) = false := decide_eq_false (by omega)
    have HV := Lib.hid (HC.out.trans (chT_n HD.out (by rw [HZ.out]; exact hz0)))
    clear HC HZ HD
    by_cases hk0 : k = 0
    ·have hkb : ((k : Int) == 0) = true := by rw [hk0]; rfl
     have HV2 := Lib.hid (show C = c38 by rw [HV.out, if_pos hk0])
     clear HV hk0
     go_wp2
     go_ret
     exact ⟨by rw [HV2.out]; rfl, HW3.out⟩
    ·have hkv : (k : Int) ≠ 0 := by omega
     have hkb : ((k : Int) == 0) = false := beq_eq_false_iff_ne.2 hkv
     have HV2 := Lib.hid (show C = c58 by rw [HV.out, if_neg hk0])
     clear HV
     go_wp2
     go_ret
     exact ⟨by rw [HV2.out]; rfl, HW3.out⟩
   ·obtain ⟨t, rfl⟩ := Int.eq_ofNat_of_zero_le (show 0 ≤ z by omega)
    have htm : t < nL l := by omega
    obtain ⟨g2, o2, vic, sa, sc, rfl, cv, hrow⟩ := HK.out.inAt htm
    obtain ⟨g3, o3, rfl, cr1⟩ := hrow x HXY.out.1
    obtain ⟨g4, o4, e4, cr2⟩ := hrow y HXY.out.2.1
    injection e4 with e4
    injection e4 with e41 e42
    subst e41 e42
    obtain ⟨i1, hi1⟩ : ∃ v, v = inB l t x := ⟨_, rfl⟩
    obtain ⟨i2, hi2⟩ : ∃ v, v = inB l t y := ⟨_, rfl⟩
    rw [← hi1] at cr1
    rw [← hi2] at cr2
    have cv3 : w3.cell? ⟨g2, o2 + t, none⟩ = some (.slice (some ⟨g3, o3, none⟩) (nB l) sc) := by rw [HM4.out]; exact cv
    have cr13 : w3.cell? ⟨g3, o3 + x, none⟩ = some (.bool i1) := by rw [HM4.out]; exact cr1
    have cr23 : w3.cell? ⟨g3, o3 + y, none⟩ = some (.bool i2) := by rw [HM4.out]; exact cr2
    have hti : (t : Int) < (nL l : Int) := by omega
    have hz3 : (0 : Int) ≤ (t : Int) := by omega
    have hsame : i1 = i2 → C = if k = 0 then c38 else c58 := fun e => HC.out.trans (chT_s HD.out HZ.out (hi1.symm.trans (e.trans hi2)))
    have HSame := Lib.hid hsame
    have HI := Lib.hid (And.intro hi1 hi2)
    clear cv cr1 cr2 hrow hi1 hi2 hsame hz0
    go_wp2_with fail
    go_quiet (fail)
    have HW5 := Lib.hid (show ∃ m, w3.drewN nq = w.drewN m from ⟨m4 + nq, by rw [HM4.out, World.drewN_drewN]⟩)
    clear c63 ci3 c33 cv3 cr13 cr23
    generalize w3.drewN nq = w5 at HW5 ⊢
    cases i1 <;> cases i2
    ·by_cases hk0 : k = 0
     ·have hkb : ((k : Int) == 0) = true := by rw [hk0]; rfl
      have HV2 := Lib.hid (show C = c38 by rw [HSame.out rfl, if_pos hk0])
      clear hk0
      go_wp2
      go_ret
      exact ⟨by rw [HV2.out]; rfl, HW5.out⟩
     ·have hkv : (k : Int) ≠ 0 := by omega
      have hkb : ((k : Int) == 0) = false := beq_eq_false_iff_ne.2 hkv
      have HV2 := Lib.hid (show C = c58 by rw [HSame.out rfl, if_neg hk0])
      go_wp2
      go_ret
      exact ⟨by rw [HV2.out]; rfl, HW5.out⟩
    ·have HV := Lib.hid (HC.out.trans (chT_i2 HD.out HZ.out HI.out.1.symm HI.out.2.symm))
     go_wp2
     go_ret
     exact ⟨by rw [HV.out]; rfl, HW5.out⟩
    ·have HV := Lib.hid (HC.out.trans (chT_i1 HD.out HZ.out HI.out.1.symm HI.out.2.symm))
     go_wp2
     go_ret
     exact ⟨by rw [HV.out]; rfl, HW5.out⟩
    ·by_cases hk0 : k = 0
     ·have hkb : ((k : Int) == 0) = true := by rw [hk0]; rfl
      have HV2 := Lib.hid (show C = c38 by rw [HSame.out rfl, if_pos hk0])
      clear hk0
      go_wp2
      go_ret
      exact ⟨by rw [HV2.out]; rfl, HW5.out⟩
     ·have hkv : (k : Int) ≠ 0 := by omega
      have hkb : ((k : Int) == 0) = false := beq_eq_false_iff_ne.2 hkv
      have HV2 := Lib.hid (show C = c58 by rw [HSame.out rfl, if_neg hk0])
      go_wp2
      go_ret
      exact ⟨by rw [HV2.out]; rfl, HW5.out⟩
  ·have HV := Lib.hid (HC.out.trans (chT_d2 HX.out.1.symm HX.out.2.symm))
   go_wp2
   go_ret
   exact ⟨by rw [HV.out]; rfl, HW3.out⟩
  ·have HV := Lib.hid (HC.out.trans (chT_d1 HX.out.1.symm HX.out.2.symm))
   go_wp2
   go_ret
   exact ⟨by rw [HV.out]; rfl, HW3.out⟩
  ·have hdm : dm l x b = dm l y b := HX.out.1.symm.trans HX.out.2
   have HD := Lib.hid hdm
   clear hdm HX
   obtain ⟨z, hz⟩ : ∃ z, z = inn l b (nL l) := ⟨_, rfl⟩
   have HZ := Lib.hid hz.symm
   have hz1 : -1 ≤ z := by rw [hz]; exact (@inn_is l b (nL l)).1
   have hz2 : z < (nL l : Int) := by rw [hz]; exact (@inn_is l b (nL l)).2
   obtain ⟨m4, hm4⟩ := HW3.out
   have c6 := HCells.out.1
   have ci := HCells.out.2.1
   have c3 := HCells.out.2.2
   rw [← hz] at ci
   have c63 : w3.cell? ⟨pw, 6, none⟩ = some (.slice (some ⟨gi, oi, none⟩) (nB l) nvc) := by rw [hm4]; exact c6
   have ci3 : w3.cell? ⟨gi, oi + b, none⟩ = some (.int .i64 z) := by rw [hm4]; exact ci
   have c33 : w3.cell? ⟨pw, 3, none⟩ = some vi := by rw [hm4]; exact c3
   have HM4 := Lib.hid hm4
   clear hz c6 ci c3 hm4
   by_cases hz0 : z < 0
   ·have hzn : ¬ (0 ≤ z) := by omega
    have hzd : decide (z ≥ 0) = false := decide_eq_false (by omega)
    have HV := Lib.hid (HC.out.trans (chT_n HD.out (by rw [HZ.out]; exact hz0)))
    clear HC HZ HD
    by_cases hk0 : k = 0
    ·have hkb : ((k : Int) == 0) = true := by rw [hk0]; rfl
     have HV2 := Lib.hid (show C = c38 by rw [HV.out, if_pos hk0])
     clear HV hk0
     go_wp2
     go_ret
     exact ⟨by rw [HV2.out]; rfl, HW3.out⟩
    ·have hkv : (k : Int) ≠ 0 := by omega
     have hkb : ((k : Int) == 0) = false := beq_eq_false_iff_ne.2 hkv
     have HV2 := Lib.hid (show C = c58 by rw [HV.out, if_neg hk0])
     clear HV
     go_wp2
     go_ret
     exact ⟨by rw [HV2.out]; rfl, HW3.out⟩
   ·obtain ⟨t, rfl⟩ := Int.eq_ofNat_of_zero_le (show 0 ≤ z by omega)
    have htm : t < nL l := by omega
    obtain ⟨g2, o2, vic, sa, sc, rfl, cv, hrow⟩ := HK.out.inAt htm
    obtain ⟨g3, o3, rfl, cr1⟩ := hrow x HXY.out.1
    obtain ⟨g4, o4, e4, cr2⟩ := hrow y HXY.out.2.1
    injection e4 with e4
    injection e4 with e41 e42
    subst e41 e42
    obtain ⟨i1, hi1⟩ : ∃ v, v = inB l t x := ⟨_, rfl⟩
    obtain ⟨i2, hi2⟩ : ∃ v, v = inB l t y := ⟨_, rfl⟩
    rw [← hi1] at cr1
    rw [← hi2] at cr2
    have cv3 : w3.cell? ⟨g2, o2 + t, none⟩ = some (.slice (some ⟨g3, o3, none⟩) (nB l) sc) := by rw [HM4.out]; exact cv
    have cr13 : w3.cell? ⟨g3, o3 + x, none⟩ = some (.bool i1) := by rw [HM4.out]; exact cr1
    have cr23 : w3.cell? ⟨g3, o3 + y, none⟩ = some (.bool i2) := by rw [HM4.out]; exact cr2
    have hti : (t : Int) < (nL l : Int) := by omega
    have hz3 : (0 : Int) ≤ (t : Int) := by omega
    have hsame : i1 = i2 → C = if k = 0 then c38 else c58 := fun e => HC.out.trans (chT_s HD.out HZ.out (hi1.symm.trans (e.trans hi2)))
    have HSame := Lib.hid hsame
    have HI := Lib.hid (And.intro hi1 hi2)
    clear cv cr1 cr2 hrow hi1 hi2 hsame hz0
    go_wp2_with fail
    go_quiet (fail)
    have HW5 := Lib.hid (show ∃ m, w3.drewN nq = w.drewN m from ⟨m4 + nq, by rw [HM4.out, World.drewN_drewN]⟩)
    clear c63 ci3 c33 cv3 cr13 cr23
    generalize w3.drewN nq = w5 at HW5 ⊢
    cases i1 <;> cases i2
    ·by_cases hk0 : k = 0
     ·have hkb : ((k : Int) == 0) = true := by rw [hk0]; rfl
      have HV2 := Lib.hid (show C = c38 by rw [HSame.out rfl, if_pos hk0])
      clear hk0
      go_wp2
      go_ret
      exact ⟨by rw [HV2.out]; rfl, HW5.out⟩
     ·have hkv : (k : Int) ≠ 0 := by omega
      have hkb : ((k : Int) == 0) = false := beq_eq_false_iff_ne.2 hkv
      have HV2 := Lib.hid (show C = c58 by rw [HSame.out rfl, if_neg hk0])
      go_wp2
      go_ret
      exact ⟨by rw [HV2.out]; rfl, HW5.out⟩
    ·have HV := Lib.hid (HC.out.trans (chT_i2 HD.out HZ.out HI.out.1.symm HI.out.2.symm))
     go_wp2
     go_ret
     exact ⟨by rw [HV.out]; rfl, HW5.out⟩
    ·have HV := Lib.hid (HC.out.trans (chT_i1 HD.out HZ.out HI.out.1.symm HI.out.2.symm))
     go_wp2
     go_ret
     exact ⟨by rw [HV.out]; rfl, HW5.out⟩
    ·by_cases hk0 : k = 0
     ·have hkb : ((k : Int) == 0) = true := by rw [hk0]; rfl
      have HV2 := Lib.hid (show C = c38 by rw [HSame.out rfl, if_pos hk0])
      clear hk0
      go_wp2
      go_ret
      exact ⟨by rw [HV2.out]; rfl, HW5.out⟩
     ·have hkv : (k : Int) ≠ 0 := by omega
      have hkb : ((k : Int) == 0) = false := beq_eq_false_iff_ne.2 hkv
      have HV2 := Lib.hid (show C = c58 by rw [HSame.out rfl, if_neg hk0])
      go_wp2
      go_ret
      exact ⟨by rw [HV2.out]; rfl, HW5.out⟩
end Go.Proofs.Ytndnfjcfpcfakaa
namespace Go.Proofs.Ytndnfjcfpcfakaa
open Go Go.RowKit Go.Wr Go.Fl Go.Ht
set_option maxHeartbeats 4000000
set_option maxRecDepth 100000
theorem egU_in {l : List In} {u b : Nat} : ∀ {k : Nat} {e : Nat × Nat}, e ∈ egU l u b k → e.1 = u ∧ e.2 < k ∧ (nxt l u).getD e.2 0 = b
 | 0, e, h => by cases h
 | k + 1, e, h => by
  unfold egU at h
  split at h
  ·rename_i hh
   rcases List.mem_append.1 h with h | h
   ·obtain ⟨h1, h2, h3⟩ := egU_in h
    exact ⟨h1, by omega, h3⟩
   ·rw [List.mem_singleton] at h
    subst h
    exact ⟨rfl, by simp, hh⟩
  ·obtain ⟨h1, h2, h3⟩ := egU_in h
   exact ⟨h1, by omega, h3⟩
theorem egs_in {l : List In} {b : Nat} : ∀ {n : Nat} {e : Nat × Nat}, e ∈ egs l b n → e.1 < n ∧ e.2 < (nxt l e.1).length ∧ (nxt l e.1).getD e.2 0 = b
 | 0, e, h => by cases h
 | n + 1, e, h => by
  rcases List.mem_append.1 (show e ∈ egs l b n ++ egU l n b (nxt l n).length from h) with h | h
  ·obtain ⟨h1, h2, h3⟩ := egs_in h
   exact ⟨by omega, h2, h3⟩
  ·obtain ⟨h1, h2, h3⟩ := egU_in h
   rw [h1]
   exact ⟨by omega, h2, h3⟩
theorem wsum_ok {l : List In} {p pw g : Nat} {wa : World} {vb vl vo vi va vn vh vt : Value} {w : World} (h : Wk l p pw g wa vb vl vo vi va vn vh vt w) (r : Nat) (vw : Value) (W : Nat → Nat) (loop : Int) (b : Nat) (bk : Bool) (hW : SlX tF r w vw ((List.range (nB l)).map W)) (hle : ∀ c, W c ≤ inf) (hl2 : loop < (nL l : Int)) (hb : b < nB l) :
  Calls Try.prog 62 #[.pointer (some ⟨pw, 0, none⟩), vw, .int .i64 loop, .int .i64 (b : Int), .bool bk] w fun e w' => e = .returned (.float .f64 (brg l W loop b bk)) ∧ Below w.heap.size w w' := by
 have HK := Lib.hid h
 have h512 := h.g7.n512
 have h8 : nL l ≤ 8 := h.g7.hd8
 have c5 : w.cell? ⟨pw, 5, none⟩ = some va := h.blk.cell 5
 obtain ⟨cs, a1, a2, a3⟩ := h.ah
 obtain ⟨vaa, vac, rfl, va1, va2⟩ := a1.form
 rw [a2] at c5 va1
 obtain ⟨s, hs⟩ : ∃ s, cs[b]? = some s := ⟨_, List.getElem?_eq_getElem (by rw [a2]; exact hb)⟩
 have hrow := a3 b s hs
 obtain ⟨gb, ob, e1, -, hat⟩ := a1.get hs
 subst e1
 have c4 := hat.cell 0 _ rfl
 obtain ⟨sa, sn, sc⟩ := s
 have hsn : sn = (egs l b (nB l)).length := SlX.len hrow
 have e2 : ob + b * tCC.n + 0 = ob + b := by show ob + b * 1 + 0 = _; omega
 rw [e2] at c4
 have c4' : w.cell? ⟨gb, ob + b, none⟩ = some (.slice sa sn sc) := c4
 have HR := Lib.hid (And.intro hrow hsn)
 obtain ⟨wv, wc, rfl, hw1, hw2⟩ := hW.form
 have HW := Lib.hid hW
 have HL := Lib.hid (And.intro hle hb)
 have hbi : (b : Int) < (nB l : Int) := by omega
 obtain ⟨C, hC⟩ : ∃ c, c = brg l W loop b bk := ⟨_, rfl⟩
 rw [← hC]
 have HC := Lib.hid hC
 have hsb : sn ≤ 9223372036854775807 := by obtain ⟨_, _, e, k1, k2⟩ := hrow.form; unfold maxLen at k2; omega
 clear h a1 a2 a3 hs hrow hat c4 hsn e2 hW hle hb hC hw1 hw2 va1 va2
 rw [List.length_map, List.length_range]
 go_enter Try.func62, Try.ntmps62
 go_wp2
 go_loopw [11, 13, 14, 23] (fun t _ _ u wr => ∃ (i s : Nat), i ≤ sn ∧ u = .int .i64 (i : Int) ∧ t = .float .f64 s ∧ s ≤ inf ∧ Hid (s = ((egs l b (nB l)).take i).foldl (brS l W loop b bk) 0) ∧ Hid (Below w.heap.size w wr)) (fun _ _ _ u _ => sn - (intOf u).toNat)
 case atStart => exact ⟨0, 0, by omega, rfl, rfl, Nat.zero_le _, rfl, bRefl _⟩
 case round =>
  obtain ⟨i, s, hi, rfl, rfl, hs, hq, hB⟩ := hrel
  obtain ⟨V, rfl⟩ : ∃ x : World, x = wr := ⟨_, rfl⟩
  by_cases hlt : i < sn
  ·have hlt' : (i : Int) < (sn : Int) := by omega
   obtain ⟨⟨u, k⟩, he⟩ : ∃ e, (egs l b (nB l))[i]? = some e := ⟨_, List.getElem?_eq_getElem (by rw [← HR.out.2]; exact hlt)⟩
   obtain ⟨ga, oa, rfl, -, hat⟩ := (HR.out.1.below hB.out).get he
   have cu := hat.cell 0 _ rfl
   have ck := hat.cell 1 _ rfl
   have cu' : V.cell? ⟨ga, oa + i * 2, none⟩ = some (.int .i64 (u : Int)) := cu
   have ck' : V.cell? ⟨ga, oa + i * 2 + 1, none⟩ = some (.int .i64 (k : Int)) := ck
   clear cu ck hat
   obtain ⟨hun, hkn, hnx⟩ := egs_in (List.mem_of_getElem? he)
   have hT1 : (egs l b (nB l)).take (i + 1) = (egs l b (nB l)).take i ++ [(u, k)] := by rw [List.take_add_one, he]; rfl
   have hstep : ∀ y, y = brS l W loop b bk s (u, k) → Hid (y = ((egs l b (nB l)).take (i + 1)).foldl (brS l W loop b bk) 0) := fun y hy => by
    show _ = _
    rw [hT1, List.foldl_append, ← hq.out, hy]
    rfl
   have HStep := Lib.hid hstep
   have HU := Lib.hid (And.intro hun hkn)
   clear he hT1 hstep hq hnx hun hkn
   go_upto_region 5 with (fail)
   obtain ⟨n1, hn1⟩ : ∃ x, x = V.heap.size := ⟨_, rfl⟩
   rw [← hn1]
   obtain ⟨V1, hV1⟩ : ∃ x, x = V.alloc (.cells #[.int .i64 (u : Int), .int .i64 (k : Int)] 107) := ⟨_, rfl⟩
   rw [← hV1]
   have cb := Blk.new_at (w := V) 107 #[.int .i64 (u : Int), .int .i64 (k : Int)] hn1
   rw [← hV1] at cb
   have c0 : V1.cell? ⟨n1, 0, none⟩ = some (.int .i64 (u : Int)) := cb.cell 0
   have c1 : V1.cell? ⟨n1, 1, none⟩ = some (.int .i64 (k : Int)) := cb.cell 1
   have HB1 := Lib.hid (show Below w.heap.size w V1 by rw [hV1]; exact bAl hB.out _)
   have HK1 := Lib.hid (HK.out.below HB1.out)
   clear hV1 hn1 cb hB cu' ck'
   obtain ⟨hv, hhv⟩ : ∃ v, v = hol l loop u := ⟨_, rfl⟩
   have HHv := Lib.hid hhv
   clear hhv
   go_wp2_with fail
   refine (holds19_ok HK1.out loop u hl2 HU.out.1).mono ?_
   rintro e w5 ⟨rfl, rfl⟩
   rw [← HHv.out]
   obtain ⟨V1, rfl⟩ : ∃ x : World, x = w5 := ⟨_, rfl⟩
   cases hv with
   | false =>
    have HQ := HStep.out s (by unfold brS; rw [if_neg (fun h => by rw [← HHv.out] at h; exact absurd h.1 (by simp))])
    clear HStep c0 c1
    go_wp2
    go_roundw
    all_goals first
     | exact ⟨i + 1, s, by omega, by go_num, rfl, hs, HQ, HB1.out⟩
     | ((repeat apply Exists.intro); exact ⟨⟨i + 1, s, by omega, by go_num, rfl, hs, HQ, HB1.out⟩, rfl⟩)
     | (simp [intOf] <;> omega)
   | true =>
    obtain ⟨d, hd⟩ : ∃ v, v = dm l b u := ⟨_, rfl⟩
    have HD := Lib.hid hd
    clear hd
    go_wp2_with fail
    refine (back19_ok HK1.out u b).mono ?_
    rintro e w6 ⟨rfl, m6, hw6⟩
    rw [← HD.out]
    have c06 : w6.cell? ⟨n1, 0, none⟩ = some (.int .i64 (u : Int)) := by rw [hw6]; exact c0
    have c16 : w6.cell? ⟨n1, 1, none⟩ = some (.int .i64 (k : Int)) := by rw [hw6]; exact c1
    have HB6 := Lib.hid (show Below w.heap.size w w6 by rw [hw6]; exact bDrewN HB1.out m6)
    have HK6 := Lib.hid (HK.out.below HB6.out)
    clear hw6 c0 c1 HB1 HK1
    by_cases hdb : d = bk
    ·have hdb' : (d == bk) = true := by rw [hdb]; simp
     obtain ⟨ch, hch⟩ : ∃ c, c = chn l u k := ⟨_, rfl⟩
     have hop1 := hop_mul (show Ieee.double.mul (W u) ch = some (fmul (W u) ch) from mul_nn (HL.out.1 u) (by rw [hch]; exact chn_in.2) (by rw [hch]; exact chn_in.1))
     have hop2 := hop_add (show Ieee.double.add s (fmul (W u) ch) = some (fadd s (fmul (W u) ch)) from add_nn hs (fmul_le _ _))
     have HQ := HStep.out (fadd s (fmul (W u) ch)) (by unfold brS; rw [if_pos ⟨HHv.out.symm, HD.out.symm.trans hdb⟩, hch])
     obtain ⟨gw, ow, rfl, -, -, cww⟩ := SlX.flo HW.out (k := u) (x := W u) (by rw [List.getElem?_map, List.getElem?_range HU.out.1]; rfl)
     have cw6 : w6.cell? ⟨gw, ow + u, none⟩ = some (.float .f64 (W u)) := (HB6.out.cell (World.block_lt_of_cell? _ _ cww)).trans cww
     have hchn : ∀ n, Calls Try.prog 30 #[.pointer (some ⟨pw, 0, none⟩), .int .i64 (u : Int), .int .i64 (k : Int)] (w6.drewN n) fun e w'' => e = .returned (.float .f64 ch) ∧ ∃ m, w'' = (w6.drewN n).drewN m := fun n => by
      rw [hch]
      exact wchance_ok (HK6.out.below (bDrewN (bRefl w6) n)) u k HU.out.1 HU.out.2
     have hui : (u : Int) < (nB l : Int) := by have := HU.out.1; omega
     have hfl := fadd_le s (fmul (W u) ch)
     have hBd : ∀ n, Hid (Below w.heap.size w (w6.drewN n)) := fun n => bDrewN HB6.out n
     clear hch cww HStep HD hdb
     go_wp2_with fail
     go_quiet (first | (go_at_call 30; exact Calls.quiet_of (hchn _)))
     have HB9 := hBd nq
     clear hchn hBd c06 c16 cw6 HB6 HK6
     generalize w6.drewN nq = U9 at HB9 ⊢
     go_wp2
     go_roundw
     all_goals first
      | exact ⟨i + 1, _, by omega, by go_num, rfl, hfl, HQ, HB9.out⟩
      | ((repeat apply Exists.intro); exact ⟨⟨i + 1, _, by omega, by go_num, rfl, hfl, HQ, HB9.out⟩, rfl⟩)
      | (simp [intOf] <;> omega)
    ·have hdb' : (d == bk) = false := beq_eq_false_iff_ne.2 hdb
     have HQ := HStep.out s (by unfold brS; rw [if_neg (fun h => hdb (HD.out.trans h.2))])
     clear HStep c06 c16 HD
     go_wp2
     go_roundw
     all_goals first
      | exact ⟨i + 1, s, by omega, by go_num, rfl, hs, HQ, HB6.out⟩
      | ((repeat apply Exists.intro); exact ⟨⟨i + 1, s, by omega, by go_num, rfl, hs, HQ, HB6.out⟩, rfl⟩)
      | (simp [intOf] <;> omega)
  ·have hie : i = sn := by omega
   have HV := Lib.hid (show C = s by rw [HC.out, hq.out, hie, HR.out.2, List.take_length]; rfl)
   have hlt' : ¬ (i : Int) < (sn : Int) := by omega
   clear hq hie
   go_wp2
   go_ret
   exact ⟨by rw [HV.out]; rfl, hB.out⟩
end Go.Proofs.Ytndnfjcfpcfakaa
namespace Go.Proofs.Ytndnfjcfpcfakaa
open Go Go.RowKit Go.Wr Go.Fl Go.Ht
set_option maxHeartbeats 4000000
set_option maxRecDepth 100000
noncomputable def lnB (l : List In) (x : Int) : Int := ((blkL l x.toNat).length : Int)
theorem turn_cmp {l : List In} {p pw g : Nat} {wa : World} {vb vl vo vi va vn vh vt : Value} {w : World} (h : Wk l p pw g wa vb vl vo vi va vn vh vt w) (bx : Nat) (hb : w.cell? ⟨bx, 0, none⟩ = some (.pointer (some ⟨pw, 0, none⟩))) (x y : Int) (hx : 0 ≤ x ∧ x < nL l) (hy : 0 ≤ y ∧ y < nL l) :
  Calls Try.prog 95 #[.int .i64 x, .int .i64 y, .pointer (some ⟨bx, 0, none⟩)] w fun e w' => e = .returned (.int .i64 (lnB l x - lnB l y)) ∧ ∃ m, w' = w.drewN m := by
 obtain ⟨i, rfl⟩ := Int.eq_ofNat_of_zero_le hx.1
 obtain ⟨j, rfl⟩ := Int.eq_ofNat_of_zero_le hy.1
 have h8 : nL l ≤ 8 := h.g7.hd8
 have h512 := h.g7.n512
 have hld := h.ld.below h.bel
 obtain ⟨al, cl, rfl, v1, v2⟩ := hld.form
 rw [dL_len] at hld v1
 have c2 : w.cell? ⟨pw, 2, none⟩ = some (.slice al (nL l) cl) := by have := h.blk.cell 2; rw [dL_len] at this; exact this
 obtain ⟨g1, o1, ba, bn, bc, rfl, -, cx, hbn, -⟩ := hld.one (i := i) (by omega)
 obtain ⟨g2, o2, da, dn, dc, e2, -, cy, hdn, -⟩ := hld.one (i := j) (by omega)
 injection e2 with e2
 injection e2 with e21 e22
 subst e21 e22
 have ex : lnB l (i : Int) = (bn : Int) := by unfold lnB; rw [Int.toNat_natCast, hbn]
 have ey : lnB l (j : Int) = (dn : Int) := by unfold lnB; rw [Int.toNat_natCast, hdn]
 have hb1 : bn ≤ 512 := by rw [hbn]; unfold blkL; exact Nat.le_trans (ins_len _ _) h512
 have hb2 : dn ≤ 512 := by rw [hdn]; unfold blkL; exact Nat.le_trans (ins_len _ _) h512
 rw [ex, ey]
 have hin : (i : Int) < (nL l : Int) := hx.2
 have hjn : (j : Int) < (nL l : Int) := hy.2
 clear hbn hdn ex ey h hld hx hy v1 v2
 go_enter Try.func95, Try.ntmps95
 go_wp2_with fail
 go_quiet (fail)
 go_wp2
 go_ret
 exact ⟨rfl, _, rfl⟩
end Go.Proofs.Ytndnfjcfpcfakaa
namespace Go.Proofs.Ytndnfjcfpcfakaa
open Go Go.RowKit Go.Wr Go.Fl Go.Ht
set_option maxHeartbeats 2000000
set_option maxRecDepth 100000
theorem wweights_ok {l : List In} {p pw g0 : Nat} {wa : World} {vb vl vo vi va vn vh vt : Value} {w : World} (h : Wk l p pw g0 wa vb vl vo vi va vn vh vt w) (r : Nat) (tt : Nat → Nat) (loop : Int) (hT : SlX tF r w vt ((List.range (nL l)).map tt)) (hin : ∀ i, i < nL l → hol l loop (hdN l i) = true → (i : Int) ≠ loop → one ≤ tt i ∧ tt i ≤ f32) (hl2 : loop < (nL l : Int)) :
  Calls Try.prog 29 #[.pointer (some ⟨pw, 0, none⟩), .int .i64 loop] w fun e w' => Below w.heap.size w w' ∧ ∃ v, e = .returned v ∧ OwR tF w.heap.size w' v ((List.range (nB l)).map (wts l tt loop)) := by
 have HK := Lib.hid h
 have h512 := h.g7.n512
 have h8 : nL l ≤ 8 := h.g7.hd8
 have hpw := h.blk.lt
 have hbd := h.bd.below h.bel
 obtain ⟨ab, cb, rfl, -, -⟩ := hbd.form
 have c1 : w.cell? ⟨pw, 1, none⟩ = some (.slice ab (nB l) cb) := by have := h.blk.cell 1; rw [dB_len] at this; exact this
 have hro := h.ro.below h.bel
 obtain ⟨ra, rcap, hvr, hr1, hr2⟩ := hro.form
 rw [nI_len, ord_len h.g7] at hvr hr1
 subst hvr
 have c4 : w.cell? ⟨pw, 4, none⟩ = some (.slice ra (nB l) rcap) := h.blk.cell 4
 obtain ⟨ha, hcap, hvh, -, -⟩ := h.hdd.form
 rw [List.length_map, List.length_range] at hvh
 subst hvh
 have c7 : w.cell? ⟨pw, 7, none⟩ = some (.slice ha (nB l) hcap) := h.blk.cell 7
 obtain ⟨ta, tcap, hvt, -, -⟩ := hT.form
 rw [List.length_map, List.length_range] at hvt
 subst hvt
 have c8 : w.cell? ⟨pw, 8, none⟩ = some (.slice ta (nL l) tcap) := h.blk.cell 8
 have HT := Lib.hid (And.intro hT hin)
 have HR := Lib.hid (And.intro hro h.hdd)
 have HCs := Lib.hid (And.intro c4 (And.intro c7 c8))
 obtain ⟨hd, hhd⟩ : ∃ x, x = hd0 l loop := ⟨_, rfl⟩
 have HHd := Lib.hid hhd
 unfold maxLen at hr2
 clear h hbd hro hT hin hhd c7 c8
 go_enter Try.func29, Try.ntmps29
 go_upto_region 2 with (refine wpl_make tF 0 rfl rfl (.tmp 15) (.tmp 15) rfl .i64 .i64 _ _ (nB l) rfl rfl rfl rfl (by show 8 * _ ≤ _; omega) (by unfold maxLen; omega) ?_; intro w2 how hbw hsw)
 obtain ⟨g, hg⟩ : ∃ x, x = w.heap.size := ⟨_, rfl⟩
 have hO0 : OwR tF w.heap.size w2 (.slice (some ⟨g, 0, none⟩) (nB l) (nB l)) ((List.range (nB l)).map (wtK l tt loop hd [])) := by
  rw [hg]
  have e : (List.range (nB l)).map (wtK l tt loop hd []) = List.replicate (nB l) 0 := by
   apply List.ext_getElem?
   intro k
   by_cases hk : k < nB l
   ·rw [List.getElem?_map, List.getElem?_range hk, List.getElem?_replicate, if_pos hk]; rfl
   ·rw [List.getElem?_eq_none (by simp; omega), List.getElem?_eq_none (by simp; omega)]
  rw [e]
  exact how
 rw [← hg]
 have HO0 := Lib.hid hO0
 have HB0 := Lib.hid hbw
 have HG := Lib.hid hg
 have hgw : w.heap.size ≤ g := by omega
 have c42 : w2.cell? ⟨pw, 4, none⟩ = some (.slice ra (nB l) rcap) := (hbw.cell hpw).trans c4
 clear how hsw hO0 c1 c4 hg
 by_cases hneg : loop < 0
 ·have hgd : decide (loop ≥ 0) = false := decide_eq_false (by omega)
  have hng : ¬ (0 ≤ loop) := by omega
  have HHd0 := Lib.hid (show hd = 0 by rw [HHd.out]; unfold hd0; rw [if_pos hneg])
  go_wp2
  clear c42
  go_loopw [8, 9, 10, 32] (fun _ _ _ t wr => ∃ (i : Nat), i ≤ nB l ∧ t = .int .i64 (i : Int) ∧ Hid (OwR tF w.heap.size wr (.slice (some ⟨g, 0, none⟩) (nB l) (nB l)) ((List.range (nB l)).map (wtK l tt loop hd ((ordL l).take i)))) ∧ Hid (Below w.heap.size w wr)) (fun _ _ _ t _ => nB l - (intOf t).toNat)
  case atStart => exact ⟨0, by omega, rfl, HO0.out, HB0.out⟩
  case round =>
   clear HO0 HB0
   obtain ⟨i, hi, rfl, hO, hB⟩ := hrel
   obtain ⟨V, rfl⟩ : ∃ x : World, x = wr := ⟨_, rfl⟩
   by_cases hlt : i < nB l
   ·have hlt' : (i : Int) < (nB l : Int) := by omega
    obtain ⟨b, hb⟩ : ∃ b, (ordL l)[i]? = some b := ⟨_, List.getElem?_eq_getElem (by rw [ord_len HK.out.g7]; exact hlt)⟩
    have hbn : b < nB l := ord_lt HK.out.g7 (List.mem_of_getElem? hb)
    obtain ⟨go, oo, rfl, -, -, cow⟩ := SlX.int HR.out.1 (k := i) (x := (b : Int)) (by unfold nI; rw [List.getElem?_map, hb]; rfl)
    have co : V.cell? ⟨go, oo + i, none⟩ = some (.int .i64 (b : Int)) := (hB.out.cell (World.block_lt_of_cell? _ _ cow)).trans cow
    have hW1 : (ordL l).take (i + 1) = (ordL l).take i ++ [b] := by rw [List.take_add_one, hb]; rfl
    obtain ⟨W, hWd⟩ : ∃ W, W = wtK l tt loop hd ((ordL l).take i) := ⟨_, rfl⟩
    have hWle : ∀ c, W c ≤ inf := by rw [hWd]; exact wtK_le
    rw [← hWd] at hO
    have HWs := Lib.hid (show wtK l tt loop hd ((ordL l).take (i + 1)) = wst l tt loop hd W b by rw [hW1, wtK_succ, ← hWd])
    have HWle := Lib.hid hWle
    have HKV := Lib.hid (HK.out.below hB.out)
    clear hb hW1 hWd hWle cow
    go_wp2_with fail
    refine (holds19_ok HKV.out loop b hl2 hbn).mono ?_
    rintro e w5 ⟨rfl, rfl⟩
    obtain ⟨V, rfl⟩ : ∃ x : World, x = w5 := ⟨_, rfl⟩
    clear co
    cases hv : hol l loop b with
    | false =>
     have HO2 := Lib.hid (show OwR tF w.heap.size V (.slice (some ⟨g, 0, none⟩) (nB l) (nB l)) ((List.range (nB l)).map (wtK l tt loop hd ((ordL l).take (i + 1)))) by
      rw [HWs.out]
      unfold wst
      rw [if_neg (by rw [hv]; simp)]
      exact hO.out)
     clear hv HWs
     go_wp2
     go_roundw
     all_goals first
      | exact ⟨i + 1, by omega, by go_num, HO2.out, hB.out⟩
      | ((repeat apply Exists.intro); exact ⟨⟨i + 1, by omega, by go_num, HO2.out, hB.out⟩, rfl⟩)
      | (simp [intOf] <;> omega)
    | true =>
     have HHeld := Lib.hid hv
     have HWn := Lib.hid (show wtK l tt loop hd ((ordL l).take (i + 1)) = Ht.upd W b (wgt l tt loop hd W b) by rw [HWs.out]; unfold wst; rw [if_pos hv])
     clear hv HWs
     by_cases hbh : b = hd
     ·have hbhb : ((b : Int) != (hd : Int)) = false := by rw [hbh]; simp
      (try have hbz2 : ((b : Int) != 0) = false := by (rw [hbh, HHd0.out]; rfl))
      obtain ⟨x0, hx0⟩ : ∃ x, x = one := ⟨_, rfl⟩
      have HX := Lib.hid (show x0 = if b = hd then one else brg l W loop b false by rw [if_pos hbh]; exact hx0)
      clear hbh
      have hxle : x0 ≤ inf := by rw [hx0]; decide
      go_upto_region 12 with (fail)
      rw [show (4607182418800017408 : Nat) = x0 from hx0.symm]
      clear hx0
      obtain ⟨U, rfl⟩ : ∃ x : World, x = V := ⟨_, rfl⟩
      obtain ⟨z, hz⟩ : ∃ z, z = hdd l b (nL l) := ⟨_, rfl⟩
      have HZ := Lib.hid hz
      have hz1 := (@hdd_is l b (nL l)).2.1
      have hz2 := (@hdd_is l b (nL l)).2.2
      obtain ⟨gh, oh, ehh, -, -, chw⟩ := SlX.int HR.out.2 (k := b) (x := hdd l b (nL l)) (by rw [List.getElem?_map, List.getElem?_range hbn]; rfl)
      rw [← hz] at hz1 hz2 chw
      have chh : U.cell? ⟨gh, oh + b, none⟩ = some (.int .i64 z) := (hB.out.cell (World.block_lt_of_cell? _ _ chw)).trans chw
      have c7U : U.cell? ⟨pw, 7, none⟩ = some (.slice (some ⟨gh, oh, none⟩) (nB l) hcap) := by rw [← ehh]; exact (hB.out.cell hpw).trans HCs.out.2.1
      have hbi : (b : Int) < (nB l : Int) := by omega
      clear hz chw ehh
      by_cases hz0 : z < 0
      ·have hzd : decide (z ≥ 0) = false := decide_eq_false (by omega)
       have hz9 : ¬ (0 ≤ z) := by omega
       obtain ⟨y0, hy0⟩ : ∃ y, y = x0 := ⟨_, rfl⟩
       have HY := Lib.hid (show y0 = wgt l tt loop hd W b by rw [hy0, HX.out, wgt_no (fun k => by rw [← HZ.out] at k; omega)])
       rw [← hy0]
       clear hy0
       have hbi : (b : Int) < (nB l : Int) := by omega
       have ck : U.cell? ⟨g, b, none⟩ = some (.float .f64 (W b)) := by
        have h1 := (hO.out.at (k := b) (x := W b) (by rw [List.getElem?_map, List.getElem?_range hbn]; rfl)).cell 0 _ rfl
        have e1 : 0 + b * tF.n + 0 = b := by show 0 + b * 1 + 0 = b; omega
        rw [e1] at h1
        exact h1
       have fk := hO.out.frozen b
       have hset := hO.out.set (k := b) (j := 0) (x := W b) (y := y0) (v := .float .f64 y0) (by rw [List.getElem?_map, List.getElem?_range hbn]; rfl) (by decide) rfl
       have e2 : b * tF.n + 0 = b := by show b * 1 + 0 = b; omega
       have e3 : Ht.upd W b y0 = wtK l tt loop hd ((ordL l).take (i + 1)) := by rw [HWn.out, ← HY.out]
       rw [e2, upd_row W hbn, e3] at hset
       have HO2 := Lib.hid hset
       have HB2 := Lib.hid (hB.out.setCell (p := ⟨g, b, none⟩) hgw (.float .f64 y0))
       have hst : ∀ a m w, (store a (.float .f64 y0) m).run Try.prog w = stored Try.prog w a (.float .f64 y0) m := fun a m w => run_store Try.prog w a _ m rfl
       clear hset e2 e3 hO hB
       go_wp2
       go_roundw
       all_goals first
        | exact ⟨i + 1, by omega, by go_num, HO2.out, HB2.out⟩
        | ((repeat apply Exists.intro); exact ⟨⟨i + 1, by omega, by go_num, HO2.out, HB2.out⟩, rfl⟩)
        | (simp [intOf] <;> omega)
      ·by_cases hzl : z = loop
       ·have hzb : (z != loop) = false := by rw [hzl]; simp
        obtain ⟨y0, hy0⟩ : ∃ y, y = x0 := ⟨_, rfl⟩
        have HY := Lib.hid (show y0 = wgt l tt loop hd W b by rw [hy0, HX.out, wgt_no (fun k => by rw [← HZ.out] at k; exact k.2 hzl)])
        rw [← hy0]
        have hz3 : 0 ≤ z := by omega
        clear hy0 hzl
        have hbi : (b : Int) < (nB l : Int) := by omega
        have ck : U.cell? ⟨g, b, none⟩ = some (.float .f64 (W b)) := by
         have h1 := (hO.out.at (k := b) (x := W b) (by rw [List.getElem?_map, List.getElem?_range hbn]; rfl)).cell 0 _ rfl
         have e1 : 0 + b * tF.n + 0 = b := by show 0 + b * 1 + 0 = b; omega
         rw [e1] at h1
         exact h1
        have fk := hO.out.frozen b
        have hset := hO.out.set (k := b) (j := 0) (x := W b) (y := y0) (v := .float .f64 y0) (by rw [List.getElem?_map, List.getElem?_range hbn]; rfl) (by decide) rfl
        have e2 : b * tF.n + 0 = b := by show b * 1 + 0 = b; omega
        have e3 : Ht.upd W b y0 = wtK l tt loop hd ((ordL l).take (i + 1)) := by rw [HWn.out, ← HY.out]
        rw [e2, upd_row W hbn, e3] at hset
        have HO2 := Lib.hid hset
        have HB2 := Lib.hid (hB.out.setCell (p := ⟨g, b, none⟩) hgw (.float .f64 y0))
        have hst : ∀ a m w, (store a (.float .f64 y0) m).run Try.prog w = stored Try.prog w a (.float .f64 y0) m := fun a m w => run_store Try.prog w a _ m rfl
        clear hset e2 e3 hO hB
        go_wp2
        go_roundw
        all_goals first
         | exact ⟨i + 1, by omega, by go_num, HO2.out, HB2.out⟩
         | ((repeat apply Exists.intro); exact ⟨⟨i + 1, by omega, by go_num, HO2.out, HB2.out⟩, rfl⟩)
         | (simp [intOf] <;> omega)
       ·have hzb : (z != loop) = true := by simpa using hzl
        obtain ⟨t, rfl⟩ := Int.eq_ofNat_of_zero_le (show 0 ≤ z by omega)
        have hz3 : (0 : Int) ≤ (t : Int) := by omega
        obtain ⟨k1, k2⟩ := (@hdd_is l b (nL l)).1 (by rw [← HZ.out]; exact hz3)
        rw [← HZ.out, Int.toNat_natCast] at k1 k2
        have hti := HT.out.2 t k1 (by rw [k2]; exact HHeld.out) hzl
        have hop := hop_mul (show Ieee.double.mul x0 (tt t) = some (fmul x0 (tt t)) from mul_nn hxle (Nat.lt_of_le_of_lt hti.2 (by decide)) (Nat.lt_of_lt_of_le (by decide) hti.1))
        obtain ⟨gt, ot, ett, -, -, ctw⟩ := SlX.flo HT.out.1 (k := t) (x := tt t) (by rw [List.getElem?_map, List.getElem?_range k1]; rfl)
        have ctt : U.cell? ⟨gt, ot + t, none⟩ = some (.float .f64 (tt t)) := (hB.out.cell (World.block_lt_of_cell? _ _ ctw)).trans ctw
        have c8U : U.cell? ⟨pw, 8, none⟩ = some (.slice (some ⟨gt, ot, none⟩) (nL l) tcap) := by rw [← ett]; exact (hB.out.cell hpw).trans HCs.out.2.2
        have htn2 : (t : Int) < (nL l : Int) := by omega
        obtain ⟨y0, hy0⟩ : ∃ y, y = fmul x0 (tt t) := ⟨_, rfl⟩
        have HY := Lib.hid (show y0 = wgt l tt loop hd W b by rw [hy0, HX.out, wgt_yes (by rw [← HZ.out]; exact ⟨hz3, hzl⟩), ← HZ.out, Int.toNat_natCast])
        rw [← hy0] at hop
        clear hy0 k1 k2 hti ctw ett
        go_upto_region 15 with (fail)
        clear hop ctt c8U chh c7U
        have hbi : (b : Int) < (nB l : Int) := by omega
        have ck : U.cell? ⟨g, b, none⟩ = some (.float .f64 (W b)) := by
         have h1 := (hO.out.at (k := b) (x := W b) (by rw [List.getElem?_map, List.getElem?_range hbn]; rfl)).cell 0 _ rfl
         have e1 : 0 + b * tF.n + 0 = b := by show 0 + b * 1 + 0 = b; omega
         rw [e1] at h1
         exact h1
        have fk := hO.out.frozen b
        have hset := hO.out.set (k := b) (j := 0) (x := W b) (y := y0) (v := .float .f64 y0) (by rw [List.getElem?_map, List.getElem?_range hbn]; rfl) (by decide) rfl
        have e2 : b * tF.n + 0 = b := by show b * 1 + 0 = b; omega
        have e3 : Ht.upd W b y0 = wtK l tt loop hd ((ordL l).take (i + 1)) := by rw [HWn.out, ← HY.out]
        rw [e2, upd_row W hbn, e3] at hset
        have HO2 := Lib.hid hset
        have HB2 := Lib.hid (hB.out.setCell (p := ⟨g, b, none⟩) hgw (.float .f64 y0))
        have hst : ∀ a m w, (store a (.float .f64 y0) m).run Try.prog w = stored Try.prog w a (.float .f64 y0) m := fun a m w => run_store Try.prog w a _ m rfl
        clear hset e2 e3 hO hB
        go_wp2
        go_roundw
        all_goals first
         | exact ⟨i + 1, by omega, by go_num, HO2.out, HB2.out⟩
         | ((repeat apply Exists.intro); exact ⟨⟨i + 1, by omega, by go_num, HO2.out, HB2.out⟩, rfl⟩)
         | (simp [intOf] <;> omega)
     ·have hbh' : (b : Int) ≠ (hd : Int) := by omega
      have hbhb : ((b : Int) != (hd : Int)) = true := by simpa using hbh'
      (try have hbz : (b : Int) ≠ 0 := by (have := HHd0.out; omega))
      (try have hbz2 : ((b : Int) != 0) = true := by simpa using hbz)
      have HSu := Lib.hid (wsum_ok HKV.out V.heap.size _ W loop b false (hO.out.sl (fun e => by have := hO.out.lt e; omega)) HWle.out hl2 hbn)
      have HBn := Lib.hid hbh
      clear hbh hbh'
      (try clear hbz)
      go_wp2_with fail
      refine HSu.out.mono ?_
      rintro e U ⟨rfl, b6⟩
      obtain ⟨x0, hx0⟩ : ∃ x, x = brg l W loop b false := ⟨_, rfl⟩
      rw [← hx0]
      have HX := Lib.hid (show x0 = if b = hd then one else brg l W loop b false by rw [if_neg HBn.out]; exact hx0)
      have hxle : x0 ≤ inf := by rw [hx0]; exact brg_le
      have hO4 := Lib.hid (hO.out.below b6)
      have hB4 := Lib.hid (bThen hB.out b6)
      clear hx0 hO hB HSu b6
      have hO := hO4
      have hB := hB4
      clear hO4 hB4
      obtain ⟨z, hz⟩ : ∃ z, z = hdd l b (nL l) := ⟨_, rfl⟩
      have HZ := Lib.hid hz
      have hz1 := (@hdd_is l b (nL l)).2.1
      have hz2 := (@hdd_is l b (nL l)).2.2
      obtain ⟨gh, oh, ehh, -, -, chw⟩ := SlX.int HR.out.2 (k := b) (x := hdd l b (nL l)) (by rw [List.getElem?_map, List.getElem?_range hbn]; rfl)
      rw [← hz] at hz1 hz2 chw
      have chh : U.cell? ⟨gh, oh + b, none⟩ = some (.int .i64 z) := (hB.out.cell (World.block_lt_of_cell? _ _ chw)).trans chw
      have c7U : U.cell? ⟨pw, 7, none⟩ = some (.slice (some ⟨gh, oh, none⟩) (nB l) hcap) := by rw [← ehh]; exact (hB.out.cell hpw).trans HCs.out.2.1
      have hbi : (b : Int) < (nB l : Int) := by omega
      clear hz chw ehh
      by_cases hz0 : z < 0
      ·have hzd : decide (z ≥ 0) = false := decide_eq_false (by omega)
       have hz9 : ¬ (0 ≤ z) := by omega
       obtain ⟨y0, hy0⟩ : ∃ y, y = x0 := ⟨_, rfl⟩
       have HY := Lib.hid (show y0 = wgt l tt loop hd W b by rw [hy0, HX.out, wgt_no (fun k => by rw [← HZ.out] at k; omega)])
       rw [← hy0]
       clear hy0
       have hbi : (b : Int) < (nB l : Int) := by omega
       have ck : U.cell? ⟨g, b, none⟩ = some (.float .f64 (W b)) := by
        have h1 := (hO.out.at (k := b) (x := W b) (by rw [List.getElem?_map, List.getElem?_range hbn]; rfl)).cell 0 _ rfl
        have e1 : 0 + b * tF.n + 0 = b := by show 0 + b * 1 + 0 = b; omega
        rw [e1] at h1
        exact h1
       have fk := hO.out.frozen b
       have hset := hO.out.set (k := b) (j := 0) (x := W b) (y := y0) (v := .float .f64 y0) (by rw [List.getElem?_map, List.getElem?_range hbn]; rfl) (by decide) rfl
       have e2 : b * tF.n + 0 = b := by show b * 1 + 0 = b; omega
       have e3 : Ht.upd W b y0 = wtK l tt loop hd ((ordL l).take (i + 1)) := by rw [HWn.out, ← HY.out]
       rw [e2, upd_row W hbn, e3] at hset
       have HO2 := Lib.hid hset
       have HB2 := Lib.hid (hB.out.setCell (p := ⟨g, b, none⟩) hgw (.float .f64 y0))
       have hst : ∀ a m w, (store a (.float .f64 y0) m).run Try.prog w = stored Try.prog w a (.float .f64 y0) m := fun a m w => run_store Try.prog w a _ m rfl
       clear hset e2 e3 hO hB
       go_wp2
       go_roundw
       all_goals first
        | exact ⟨i + 1, by omega, by go_num, HO2.out, HB2.out⟩
        | ((repeat apply Exists.intro); exact ⟨⟨i + 1, by omega, by go_num, HO2.out, HB2.out⟩, rfl⟩)
        | (simp [intOf] <;> omega)
      ·by_cases hzl : z = loop
       ·have hzb : (z != loop) = false := by rw [hzl]; simp
        obtain ⟨y0, hy0⟩ : ∃ y, y = x0 := ⟨_, rfl⟩
        have HY := Lib.hid (show y0 = wgt l tt loop hd W b by rw [hy0, HX.out, wgt_no (fun k => by rw [← HZ.out] at k; exact k.2 hzl)])
        rw [← hy0]
        have hz3 : 0 ≤ z := by omega
        clear hy0 hzl
        have hbi : (b : Int) < (nB l : Int) := by omega
        have ck : U.cell? ⟨g, b, none⟩ = some (.float .f64 (W b)) := by
         have h1 := (hO.out.at (k := b) (x := W b) (by rw [List.getElem?_map, List.getElem?_range hbn]; rfl)).cell 0 _ rfl
         have e1 : 0 + b * tF.n + 0 = b := by show 0 + b * 1 + 0 = b; omega
         rw [e1] at h1
         exact h1
        have fk := hO.out.frozen b
        have hset := hO.out.set (k := b) (j := 0) (x := W b) (y := y0) (v := .float .f64 y0) (by rw [List.getElem?_map, List.getElem?_range hbn]; rfl) (by decide) rfl
        have e2 : b * tF.n + 0 = b := by show b * 1 + 0 = b; omega
        have e3 : Ht.upd W b y0 = wtK l tt loop hd ((ordL l).take (i + 1)) := by rw [HWn.out, ← HY.out]
        rw [e2, upd_row W hbn, e3] at hset
        have HO2 := Lib.hid hset
        have HB2 := Lib.hid (hB.out.setCell (p := ⟨g, b, none⟩) hgw (.float .f64 y0))
        have hst : ∀ a m w, (store a (.float .f64 y0) m).run Try.prog w = stored Try.prog w a (.float .f64 y0) m := fun a m w => run_store Try.prog w a _ m rfl
        clear hset e2 e3 hO hB
        go_wp2
        go_roundw
        all_goals first
         | exact ⟨i + 1, by omega, by go_num, HO2.out, HB2.out⟩
         | ((repeat apply Exists.intro); exact ⟨⟨i + 1, by omega, by go_num, HO2.out, HB2.out⟩, rfl⟩)
         | (simp [intOf] <;> omega)
       ·have hzb : (z != loop) = true := by simpa using hzl
        obtain ⟨t, rfl⟩ := Int.eq_ofNat_of_zero_le (show 0 ≤ z by omega)
        have hz3 : (0 : Int) ≤ (t : Int) := by omega
        obtain ⟨k1, k2⟩ := (@hdd_is l b (nL l)).1 (by rw [← HZ.out]; exact hz3)
        rw [← HZ.out, Int.toNat_natCast] at k1 k2
        have hti := HT.out.2 t k1 (by rw [k2]; exact HHeld.out) hzl
        have hop := hop_mul (show Ieee.double.mul x0 (tt t) = some (fmul x0 (tt t)) from mul_nn hxle (Nat.lt_of_le_of_lt hti.2 (by decide)) (Nat.lt_of_lt_of_le (by decide) hti.1))
        obtain ⟨gt, ot, ett, -, -, ctw⟩ := SlX.flo HT.out.1 (k := t) (x := tt t) (by rw [List.getElem?_map, List.getElem?_range k1]; rfl)
        have ctt : U.cell? ⟨gt, ot + t, none⟩ = some (.float .f64 (tt t)) := (hB.out.cell (World.block_lt_of_cell? _ _ ctw)).trans ctw
        have c8U : U.cell? ⟨pw, 8, none⟩ = some (.slice (some ⟨gt, ot, none⟩) (nL l) tcap) := by rw [← ett]; exact (hB.out.cell hpw).trans HCs.out.2.2
        have htn2 : (t : Int) < (nL l : Int) := by omega
        obtain ⟨y0, hy0⟩ : ∃ y, y = fmul x0 (tt t) := ⟨_, rfl⟩
        have HY := Lib.hid (show y0 = wgt l tt loop hd W b by rw [hy0, HX.out, wgt_yes (by rw [← HZ.out]; exact ⟨hz3, hzl⟩), ← HZ.out, Int.toNat_natCast])
        rw [← hy0] at hop
        clear hy0 k1 k2 hti ctw ett
        go_upto_region 15 with (fail)
        clear hop ctt c8U chh c7U
        have hbi : (b : Int) < (nB l : Int) := by omega
        have ck : U.cell? ⟨g, b, none⟩ = some (.float .f64 (W b)) := by
         have h1 := (hO.out.at (k := b) (x := W b) (by rw [List.getElem?_map, List.getElem?_range hbn]; rfl)).cell 0 _ rfl
         have e1 : 0 + b * tF.n + 0 = b := by show 0 + b * 1 + 0 = b; omega
         rw [e1] at h1
         exact h1
        have fk := hO.out.frozen b
        have hset := hO.out.set (k := b) (j := 0) (x := W b) (y := y0) (v := .float .f64 y0) (by rw [List.getElem?_map, List.getElem?_range hbn]; rfl) (by decide) rfl
        have e2 : b * tF.n + 0 = b := by show b * 1 + 0 = b; omega
        have e3 : Ht.upd W b y0 = wtK l tt loop hd ((ordL l).take (i + 1)) := by rw [HWn.out, ← HY.out]
        rw [e2, upd_row W hbn, e3] at hset
        have HO2 := Lib.hid hset
        have HB2 := Lib.hid (hB.out.setCell (p := ⟨g, b, none⟩) hgw (.float .f64 y0))
        have hst : ∀ a m w, (store a (.float .f64 y0) m).run Try.prog w = stored Try.prog w a (.float .f64 y0) m := fun a m w => run_store Try.prog w a _ m rfl
        clear hset e2 e3 hO hB
        go_wp2
        go_roundw
        all_goals first
         | exact ⟨i + 1, by omega, by go_num, HO2.out, HB2.out⟩
         | ((repeat apply Exists.intro); exact ⟨⟨i + 1, by omega, by go_num, HO2.out, HB2.out⟩, rfl⟩)
         | (simp [intOf] <;> omega)
   ·have hie : i = nB l := by omega
    have HF := Lib.hid (show OwR tF w.heap.size V (.slice (some ⟨g, 0, none⟩) (nB l) (nB l)) ((List.range (nB l)).map (wts l tt loop)) by
     have := hO.out
     rw [hie, List.take_of_length_le (by rw [ord_len HK.out.g7]; exact Nat.le_refl _)] at this
     unfold wts
     rw [← HHd.out]
     exact this)
    have hlt' : ¬ (i : Int) < (nB l : Int) := by omega
    clear hO hie
    go_wp2
    go_ret
    exact ⟨hB.out, _, rfl, HF.out⟩
 ·obtain ⟨t', ht'⟩ := Int.eq_ofNat_of_zero_le (show 0 ≤ loop by omega)
  have htn : t' < nL l := by omega
  have etn : loop.toNat = t' := by omega
  have hl0 : 0 ≤ loop := by omega
  have hgd : decide (loop ≥ 0) = true := decide_eq_true hl0
  have hld := HK.out.ld.below HK.out.bel
  obtain ⟨al, cl, hvl, -, -⟩ := hld.form
  rw [dL_len] at hvl
  subst hvl
  obtain ⟨gl, ol, ba, bn, bc, rfl, ch0w, -, -, -⟩ := hld.one htn
  have hhd1 : hd = hdN l t' := by rw [HHd.out]; unfold hd0; rw [if_neg hneg, etn]
  rw [← hhd1] at ch0w
  have ch0 : w2.cell? ⟨gl, ol + t' * 3, none⟩ = some (.int .i64 (hd : Int)) := (HB0.out.cell (World.block_lt_of_cell? _ _ ch0w)).trans ch0w
  have c22 : w2.cell? ⟨pw, 2, none⟩ = some (.slice (some ⟨gl, ol, none⟩) (nL l) cl) := (HB0.out.cell hpw).trans (HK.out.blk.cell 2)
  clear hld ch0w hhd1 ht'
  go_upto_region 5 with (fail)
  clear ch0 c22 etn
  go_wp2
  clear c42
  go_loopw [8, 9, 10, 32] (fun _ _ _ t wr => ∃ (i : Nat), i ≤ nB l ∧ t = .int .i64 (i : Int) ∧ Hid (OwR tF w.heap.size wr (.slice (some ⟨g, 0, none⟩) (nB l) (nB l)) ((List.range (nB l)).map (wtK l tt loop hd ((ordL l).take i)))) ∧ Hid (Below w.heap.size w wr)) (fun _ _ _ t _ => nB l - (intOf t).toNat)
  case atStart => exact ⟨0, by omega, rfl, HO0.out, HB0.out⟩
  case round =>
   clear HO0 HB0
   obtain ⟨i, hi, rfl, hO, hB⟩ := hrel
   obtain ⟨V, rfl⟩ : ∃ x : World, x = wr := ⟨_, rfl⟩
   by_cases hlt : i < nB l
   ·have hlt' : (i : Int) < (nB l : Int) := by omega
    obtain ⟨b, hb⟩ : ∃ b, (ordL l)[i]? = some b := ⟨_, List.getElem?_eq_getElem (by rw [ord_len HK.out.g7]; exact hlt)⟩
    have hbn : b < nB l := ord_lt HK.out.g7 (List.mem_of_getElem? hb)
    obtain ⟨go, oo, rfl, -, -, cow⟩ := SlX.int HR.out.1 (k := i) (x := (b : Int)) (by unfold nI; rw [List.getElem?_map, hb]; rfl)
    have co : V.cell? ⟨go, oo + i, none⟩ = some (.int .i64 (b : Int)) := (hB.out.cell (World.block_lt_of_cell? _ _ cow)).trans cow
    have hW1 : (ordL l).take (i + 1) = (ordL l).take i ++ [b] := by rw [List.take_add_one, hb]; rfl
    obtain ⟨W, hWd⟩ : ∃ W, W = wtK l tt loop hd ((ordL l).take i) := ⟨_, rfl⟩
    have hWle : ∀ c, W c ≤ inf := by rw [hWd]; exact wtK_le
    rw [← hWd] at hO
    have HWs := Lib.hid (show wtK l tt loop hd ((ordL l).take (i + 1)) = wst l tt loop hd W b by rw [hW1, wtK_succ, ← hWd])
    have HWle := Lib.hid hWle
    have HKV := Lib.hid (HK.out.below hB.out)
    clear hb hW1 hWd hWle cow
    go_wp2_with fail
    refine (holds19_ok HKV.out loop b hl2 hbn).mono ?_
    rintro e w5 ⟨rfl, rfl⟩
    obtain ⟨V, rfl⟩ : ∃ x : World, x = w5 := ⟨_, rfl⟩
    clear co
    cases hv : hol l loop b with
    | false =>
     have HO2 := Lib.hid (show OwR tF w.heap.size V (.slice (some ⟨g, 0, none⟩) (nB l) (nB l)) ((List.range (nB l)).map (wtK l tt loop hd ((ordL l).take (i + 1)))) by
      rw [HWs.out]
      unfold wst
      rw [if_neg (by rw [hv]; simp)]
      exact hO.out)
     clear hv HWs
     go_wp2
     go_roundw
     all_goals first
      | exact ⟨i + 1, by omega, by go_num, HO2.out, hB.out⟩
      | ((repeat apply Exists.intro); exact ⟨⟨i + 1, by omega, by go_num, HO2.out, hB.out⟩, rfl⟩)
      | (simp [intOf] <;> omega)
    | true =>
     have HHeld := Lib.hid hv
     have HWn := Lib.hid (show wtK l tt loop hd ((ordL l).take (i + 1)) = Ht.upd W b (wgt l tt loop hd W b) by rw [HWs.out]; unfold wst; rw [if_pos hv])
     clear hv HWs
     by_cases hbh : b = hd
     ·have hbhb : ((b : Int) != (hd : Int)) = false := by rw [hbh]; simp
      (try have hbz2 : ((b : Int) != 0) = false := by (rw [hbh, HHd0.out]; rfl))
      obtain ⟨x0, hx0⟩ : ∃ x, x = one := ⟨_, rfl⟩
      have HX := Lib.hid (show x0 = if b = hd then one else brg l W loop b false by rw [if_pos hbh]; exact hx0)
      clear hbh
      have hxle : x0 ≤ inf := by rw [hx0]; decide
      go_upto_region 12 with (fail)
      rw [show (4607182418800017408 : Nat) = x0 from hx0.symm]
      clear hx0
      obtain ⟨U, rfl⟩ : ∃ x : World, x = V := ⟨_, rfl⟩
      obtain ⟨z, hz⟩ : ∃ z, z = hdd l b (nL l) := ⟨_, rfl⟩
      have HZ := Lib.hid hz
      have hz1 := (@hdd_is l b (nL l)).2.1
      have hz2 := (@hdd_is l b (nL l)).2.2
      obtain ⟨gh, oh, ehh, -, -, chw⟩ := SlX.int HR.out.2 (k := b) (x := hdd l b (nL l)) (by rw [List.getElem?_map, List.getElem?_range hbn]; rfl)
      rw [← hz] at hz1 hz2 chw
      have chh : U.cell? ⟨gh, oh + b, none⟩ = some (.int .i64 z) := (hB.out.cell (World.block_lt_of_cell? _ _ chw)).trans chw
      have c7U : U.cell? ⟨pw, 7, none⟩ = some (.slice (some ⟨gh, oh, none⟩) (nB l) hcap) := by rw [← ehh]; exact (hB.out.cell hpw).trans HCs.out.2.1
      have hbi : (b : Int) < (nB l : Int) := by omega
      clear hz chw ehh
      by_cases hz0 : z < 0
      ·have hzd : decide (z ≥ 0) = false := decide_eq_false (by omega)
       have hz9 : ¬ (0 ≤ z) := by omega
       obtain ⟨y0, hy0⟩ : ∃ y, y = x0 := ⟨_, rfl⟩
       have HY := Lib.hid (show y0 = wgt l tt loop hd W b by rw [hy0, HX.out, wgt_no (fun k => by rw [← HZ.out] at k; omega)])
       rw [← hy0]
       clear hy0
       have hbi : (b : Int) < (nB l : Int) := by omega
       have ck : U.cell? ⟨g, b, none⟩ = some (.float .f64 (W b)) := by
        have h1 := (hO.out.at (k := b) (x := W b) (by rw [List.getElem?_map, List.getElem?_range hbn]; rfl)).cell 0 _ rfl
        have e1 : 0 + b * tF.n + 0 = b := by show 0 + b * 1 + 0 = b; omega
        rw [e1] at h1
        exact h1
       have fk := hO.out.frozen b
       have hset := hO.out.set (k := b) (j := 0) (x := W b) (y := y0) (v := .float .f64 y0) (by rw [List.getElem?_map, List.getElem?_range hbn]; rfl) (by decide) rfl
       have e2 : b * tF.n + 0 = b := by show b * 1 + 0 = b; omega
       have e3 : Ht.upd W b y0 = wtK l tt loop hd ((ordL l).take (i + 1)) := by rw [HWn.out, ← HY.out]
       rw [e2, upd_row W hbn, e3] at hset
       have HO2 := Lib.hid hset
       have HB2 := Lib.hid (hB.out.setCell (p := ⟨g, b, none⟩) hgw (.float .f64 y0))
       have hst : ∀ a m w, (store a (.float .f64 y0) m).run Try.prog w = stored Try.prog w a (.float .f64 y0) m := fun a m w => run_store Try.prog w a _ m rfl
       clear hset e2 e3 hO hB
       go_wp2
       go_roundw
       all_goals first
        | exact ⟨i + 1, by omega, by go_num, HO2.out, HB2.out⟩
        | ((repeat apply Exists.intro); exact ⟨⟨i + 1, by omega, by go_num, HO2.out, HB2.out⟩, rfl⟩)
        | (simp [intOf] <;> omega)
      ·by_cases hzl : z = loop
       ·have hzb : (z != loop) = false := by rw [hzl]; simp
        obtain ⟨y0, hy0⟩ : ∃ y, y = x0 := ⟨_, rfl⟩
        have HY := Lib.hid (show y0 = wgt l tt loop hd W b by rw [hy0, HX.out, wgt_no (fun k => by rw [← HZ.out] at k; exact k.2 hzl)])
        rw [← hy0]
        have hz3 : 0 ≤ z := by omega
        clear hy0 hzl
        have hbi : (b : Int) < (nB l : Int) := by omega
        have ck : U.cell? ⟨g, b, none⟩ = some (.float .f64 (W b)) := by
         have h1 := (hO.out.at (k := b) (x := W b) (by rw [List.getElem?_map, List.getElem?_range hbn]; rfl)).cell 0 _ rfl
         have e1 : 0 + b * tF.n + 0 = b := by show 0 + b * 1 + 0 = b; omega
         rw [e1] at h1
         exact h1
        have fk := hO.out.frozen b
        have hset := hO.out.set (k := b) (j := 0) (x := W b) (y := y0) (v := .float .f64 y0) (by rw [List.getElem?_map, List.getElem?_range hbn]; rfl) (by decide) rfl
        have e2 : b * tF.n + 0 = b := by show b * 1 + 0 = b; omega
        have e3 : Ht.upd W b y0 = wtK l tt loop hd ((ordL l).take (i + 1)) := by rw [HWn.out, ← HY.out]
        rw [e2, upd_row W hbn, e3] at hset
        have HO2 := Lib.hid hset
        have HB2 := Lib.hid (hB.out.setCell (p := ⟨g, b, none⟩) hgw (.float .f64 y0))
        have hst : ∀ a m w, (store a (.float .f64 y0) m).run Try.prog w = stored Try.prog w a (.float .f64 y0) m := fun a m w => run_store Try.prog w a _ m rfl
        clear hset e2 e3 hO hB
        go_wp2
        go_roundw
        all_goals first
         | exact ⟨i + 1, by omega, by go_num, HO2.out, HB2.out⟩
         | ((repeat apply Exists.intro); exact ⟨⟨i + 1, by omega, by go_num, HO2.out, HB2.out⟩, rfl⟩)
         | (simp [intOf] <;> omega)
       ·have hzb : (z != loop) = true := by simpa using hzl
        obtain ⟨t, rfl⟩ := Int.eq_ofNat_of_zero_le (show 0 ≤ z by omega)
        have hz3 : (0 : Int) ≤ (t : Int) := by omega
        obtain ⟨k1, k2⟩ := (@hdd_is l b (nL l)).1 (by rw [← HZ.out]; exact hz3)
        rw [← HZ.out, Int.toNat_natCast] at k1 k2
        have hti := HT.out.2 t k1 (by rw [k2]; exact HHeld.out) hzl
        have hop := hop_mul (show Ieee.double.mul x0 (tt t) = some (fmul x0 (tt t)) from mul_nn hxle (Nat.lt_of_le_of_lt hti.2 (by decide)) (Nat.lt_of_lt_of_le (by decide) hti.1))
        obtain ⟨gt, ot, ett, -, -, ctw⟩ := SlX.flo HT.out.1 (k := t) (x := tt t) (by rw [List.getElem?_map, List.getElem?_range k1]; rfl)
        have ctt : U.cell? ⟨gt, ot + t, none⟩ = some (.float .f64 (tt t)) := (hB.out.cell (World.block_lt_of_cell? _ _ ctw)).trans ctw
        have c8U : U.cell? ⟨pw, 8, none⟩ = some (.slice (some ⟨gt, ot, none⟩) (nL l) tcap) := by rw [← ett]; exact (hB.out.cell hpw).trans HCs.out.2.2
        have htn2 : (t : Int) < (nL l : Int) := by omega
        obtain ⟨y0, hy0⟩ : ∃ y, y = fmul x0 (tt t) := ⟨_, rfl⟩
        have HY := Lib.hid (show y0 = wgt l tt loop hd W b by rw [hy0, HX.out, wgt_yes (by rw [← HZ.out]; exact ⟨hz3, hzl⟩), ← HZ.out, Int.toNat_natCast])
        rw [← hy0] at hop
        clear hy0 k1 k2 hti ctw ett
        go_upto_region 15 with (fail)
        clear hop ctt c8U chh c7U
        have hbi : (b : Int) < (nB l : Int) := by omega
        have ck : U.cell? ⟨g, b, none⟩ = some (.float .f64 (W b)) := by
         have h1 := (hO.out.at (k := b) (x := W b) (by rw [List.getElem?_map, List.getElem?_range hbn]; rfl)).cell 0 _ rfl
         have e1 : 0 + b * tF.n + 0 = b := by show 0 + b * 1 + 0 = b; omega
         rw [e1] at h1
         exact h1
        have fk := hO.out.frozen b
        have hset := hO.out.set (k := b) (j := 0) (x := W b) (y := y0) (v := .float .f64 y0) (by rw [List.getElem?_map, List.getElem?_range hbn]; rfl) (by decide) rfl
        have e2 : b * tF.n + 0 = b := by show b * 1 + 0 = b; omega
        have e3 : Ht.upd W b y0 = wtK l tt loop hd ((ordL l).take (i + 1)) := by rw [HWn.out, ← HY.out]
        rw [e2, upd_row W hbn, e3] at hset
        have HO2 := Lib.hid hset
        have HB2 := Lib.hid (hB.out.setCell (p := ⟨g, b, none⟩) hgw (.float .f64 y0))
        have hst : ∀ a m w, (store a (.float .f64 y0) m).run Try.prog w = stored Try.prog w a (.float .f64 y0) m := fun a m w => run_store Try.prog w a _ m rfl
        clear hset e2 e3 hO hB
        go_wp2
        go_roundw
        all_goals first
         | exact ⟨i + 1, by omega, by go_num, HO2.out, HB2.out⟩
         | ((repeat apply Exists.intro); exact ⟨⟨i + 1, by omega, by go_num, HO2.out, HB2.out⟩, rfl⟩)
         | (simp [intOf] <;> omega)
     ·have hbh' : (b : Int) ≠ (hd : Int) := by omega
      have hbhb : ((b : Int) != (hd : Int)) = true := by simpa using hbh'
      (try have hbz : (b : Int) ≠ 0 := by (have := HHd0.out; omega))
      (try have hbz2 : ((b : Int) != 0) = true := by simpa using hbz)
      have HSu := Lib.hid (wsum_ok HKV.out V.heap.size _ W loop b false (hO.out.sl (fun e => by have := hO.out.lt e; omega)) HWle.out hl2 hbn)
      have HBn := Lib.hid hbh
      clear hbh hbh'
      (try clear hbz)
      go_wp2_with fail
      refine HSu.out.mono ?_
      rintro e U ⟨rfl, b6⟩
      obtain ⟨x0, hx0⟩ : ∃ x, x = brg l W loop b false := ⟨_, rfl⟩
      rw [← hx0]
      have HX := Lib.hid (show x0 = if b = hd then one else brg l W loop b false by rw [if_neg HBn.out]; exact hx0)
      have hxle : x0 ≤ inf := by rw [hx0]; exact brg_le
      have hO4 := Lib.hid (hO.out.below b6)
      have hB4 := Lib.hid (bThen hB.out b6)
      clear hx0 hO hB HSu b6
      have hO := hO4
      have hB := hB4
      clear hO4 hB4
      obtain ⟨z, hz⟩ : ∃ z, z = hdd l b (nL l) := ⟨_, rfl⟩
      have HZ := Lib.hid hz
      have hz1 := (@hdd_is l b (nL l)).2.1
      have hz2 := (@hdd_is l b (nL l)).2.2
      obtain ⟨gh, oh, ehh, -, -, chw⟩ := SlX.int HR.out.2 (k := b) (x := hdd l b (nL l)) (by rw [List.getElem?_map, List.getElem?_range hbn]; rfl)
      rw [← hz] at hz1 hz2 chw
      have chh : U.cell? ⟨gh, oh + b, none⟩ = some (.int .i64 z) := (hB.out.cell (World.block_lt_of_cell? _ _ chw)).trans chw
      have c7U : U.cell? ⟨pw, 7, none⟩ = some (.slice (some ⟨gh, oh, none⟩) (nB l) hcap) := by rw [← ehh]; exact (hB.out.cell hpw).trans HCs.out.2.1
      have hbi : (b : Int) < (nB l : Int) := by omega
      clear hz chw ehh
      by_cases hz0 : z < 0
      ·have hzd : decide (z ≥ 0) = false := decide_eq_false (by omega)
       have hz9 : ¬ (0 ≤ z) := by omega
       obtain ⟨y0, hy0⟩ : ∃ y, y = x0 := ⟨_, rfl⟩
       have HY := Lib.hid (show y0 = wgt l tt loop hd W b by rw [hy0, HX.out, wgt_no (fun k => by rw [← HZ.out] at k; omega)])
       rw [← hy0]
       clear hy0
       have hbi : (b : Int) < (nB l : Int) := by omega
       have ck : U.cell? ⟨g, b, none⟩ = some (.float .f64 (W b)) := by
        have h1 := (hO.out.at (k := b) (x := W b) (by rw [List.getElem?_map, List.getElem?_range hbn]; rfl)).cell 0 _ rfl
        have e1 : 0 + b * tF.n + 0 = b := by show 0 + b * 1 + 0 = b; omega
        rw [e1] at h1
        exact h1
       have fk := hO.out.frozen b
       have hset := hO.out.set (k := b) (j := 0) (x := W b) (y := y0) (v := .float .f64 y0) (by rw [List.getElem?_map, List.getElem?_range hbn]; rfl) (by decide) rfl
       have e2 : b * tF.n + 0 = b := by show b * 1 + 0 = b; omega
       have e3 : Ht.upd W b y0 = wtK l tt loop hd ((ordL l).take (i + 1)) := by rw [HWn.out, ← HY.out]
       rw [e2, upd_row W hbn, e3] at hset
       have HO2 := Lib.hid hset
       have HB2 := Lib.hid (hB.out.setCell (p := ⟨g, b, none⟩) hgw (.float .f64 y0))
       have hst : ∀ a m w, (store a (.float .f64 y0) m).run Try.prog w = stored Try.prog w a (.float .f64 y0) m := fun a m w => run_store Try.prog w a _ m rfl
       clear hset e2 e3 hO hB
       go_wp2
       go_roundw
       all_goals first
        | exact ⟨i + 1, by omega, by go_num, HO2.out, HB2.out⟩
        | ((repeat apply Exists.intro); exact ⟨⟨i + 1, by omega, by go_num, HO2.out, HB2.out⟩, rfl⟩)
        | (simp [intOf] <;> omega)
      ·by_cases hzl : z = loop
       ·have hzb : (z != loop) = false := by rw [hzl]; simp
        obtain ⟨y0, hy0⟩ : ∃ y, y = x0 := ⟨_, rfl⟩
        have HY := Lib.hid (show y0 = wgt l tt loop hd W b by rw [hy0, HX.out, wgt_no (fun k => by rw [← HZ.out] at k; exact k.2 hzl)])
        rw [← hy0]
        have hz3 : 0 ≤ z := by omega
        clear hy0 hzl
        have hbi : (b : Int) < (nB l : Int) := by omega
        have ck : U.cell? ⟨g, b, none⟩ = some (.float .f64 (W b)) := by
         have h1 := (hO.out.at (k := b) (x := W b) (by rw [List.getElem?_map, List.getElem?_range hbn]; rfl)).cell 0 _ rfl
         have e1 : 0 + b * tF.n + 0 = b := by show 0 + b * 1 + 0 = b; omega
         rw [e1] at h1
         exact h1
        have fk := hO.out.frozen b
        have hset := hO.out.set (k := b) (j := 0) (x := W b) (y := y0) (v := .float .f64 y0) (by rw [List.getElem?_map, List.getElem?_range hbn]; rfl) (by decide) rfl
        have e2 : b * tF.n + 0 = b := by show b * 1 + 0 = b; omega
        have e3 : Ht.upd W b y0 = wtK l tt loop hd ((ordL l).take (i + 1)) := by rw [HWn.out, ← HY.out]
        rw [e2, upd_row W hbn, e3] at hset
        have HO2 := Lib.hid hset
        have HB2 := Lib.hid (hB.out.setCell (p := ⟨g, b, none⟩) hgw (.float .f64 y0))
        have hst : ∀ a m w, (store a (.float .f64 y0) m).run Try.prog w = stored Try.prog w a (.float .f64 y0) m := fun a m w => run_store Try.prog w a _ m rfl
        clear hset e2 e3 hO hB
        go_wp2
        go_roundw
        all_goals first
         | exact ⟨i + 1, by omega, by go_num, HO2.out, HB2.out⟩
         | ((repeat apply Exists.intro); exact ⟨⟨i + 1, by omega, by go_num, HO2.out, HB2.out⟩, rfl⟩)
         | (simp [intOf] <;> omega)
       ·have hzb : (z != loop) = true := by simpa using hzl
        obtain ⟨t, rfl⟩ := Int.eq_ofNat_of_zero_le (show 0 ≤ z by omega)
        have hz3 : (0 : Int) ≤ (t : Int) := by omega
        obtain ⟨k1, k2⟩ := (@hdd_is l b (nL l)).1 (by rw [← HZ.out]; exact hz3)
        rw [← HZ.out, Int.toNat_natCast] at k1 k2
        have hti := HT.out.2 t k1 (by rw [k2]; exact HHeld.out) hzl
        have hop := hop_mul (show Ieee.double.mul x0 (tt t) = some (fmul x0 (tt t)) from mul_nn hxle (Nat.lt_of_le_of_lt hti.2 (by decide)) (Nat.lt_of_lt_of_le (by decide) hti.1))
        obtain ⟨gt, ot, ett, -, -, ctw⟩ := SlX.flo HT.out.1 (k := t) (x := tt t) (by rw [List.getElem?_map, List.getElem?_range k1]; rfl)
        have ctt : U.cell? ⟨gt, ot + t, none⟩ = some (.float .f64 (tt t)) := (hB.out.cell (World.block_lt_of_cell? _ _ ctw)).trans ctw
        have c8U : U.cell? ⟨pw, 8, none⟩ = some (.slice (some ⟨gt, ot, none⟩) (nL l) tcap) := by rw [← ett]; exact (hB.out.cell hpw).trans HCs.out.2.2
        have htn2 : (t : Int) < (nL l : Int) := by omega
        obtain ⟨y0, hy0⟩ : ∃ y, y = fmul x0 (tt t) := ⟨_, rfl⟩
        have HY := Lib.hid (show y0 = wgt l tt loop hd W b by rw [hy0, HX.out, wgt_yes (by rw [← HZ.out]; exact ⟨hz3, hzl⟩), ← HZ.out, Int.toNat_natCast])
        rw [← hy0] at hop
        clear hy0 k1 k2 hti ctw ett
        go_upto_region 15 with (fail)
        clear hop ctt c8U chh c7U
        have hbi : (b : Int) < (nB l : Int) := by omega
        have ck : U.cell? ⟨g, b, none⟩ = some (.float .f64 (W b)) := by
         have h1 := (hO.out.at (k := b) (x := W b) (by rw [List.getElem?_map, List.getElem?_range hbn]; rfl)).cell 0 _ rfl
         have e1 : 0 + b * tF.n + 0 = b := by show 0 + b * 1 + 0 = b; omega
         rw [e1] at h1
         exact h1
        have fk := hO.out.frozen b
        have hset := hO.out.set (k := b) (j := 0) (x := W b) (y := y0) (v := .float .f64 y0) (by rw [List.getElem?_map, List.getElem?_range hbn]; rfl) (by decide) rfl
        have e2 : b * tF.n + 0 = b := by show b * 1 + 0 = b; omega
        have e3 : Ht.upd W b y0 = wtK l tt loop hd ((ordL l).take (i + 1)) := by rw [HWn.out, ← HY.out]
        rw [e2, upd_row W hbn, e3] at hset
        have HO2 := Lib.hid hset
        have HB2 := Lib.hid (hB.out.setCell (p := ⟨g, b, none⟩) hgw (.float .f64 y0))
        have hst : ∀ a m w, (store a (.float .f64 y0) m).run Try.prog w = stored Try.prog w a (.float .f64 y0) m := fun a m w => run_store Try.prog w a _ m rfl
        clear hset e2 e3 hO hB
        go_wp2
        go_roundw
        all_goals first
         | exact ⟨i + 1, by omega, by go_num, HO2.out, HB2.out⟩
         | ((repeat apply Exists.intro); exact ⟨⟨i + 1, by omega, by go_num, HO2.out, HB2.out⟩, rfl⟩)
         | (simp [intOf] <;> omega)
   ·have hie : i = nB l := by omega
    have HF := Lib.hid (show OwR tF w.heap.size V (.slice (some ⟨g, 0, none⟩) (nB l) (nB l)) ((List.range (nB l)).map (wts l tt loop)) by
     have := hO.out
     rw [hie, List.take_of_length_le (by rw [ord_len HK.out.g7]; exact Nat.le_refl _)] at this
     unfold wts
     rw [← HHd.out]
     exact this)
    have hlt' : ¬ (i : Int) < (nB l : Int) := by omega
    clear hO hie
    go_wp2
    go_ret
    exact ⟨hB.out, _, rfl, HF.out⟩
end Go.Proofs.Ytndnfjcfpcfakaa
