/- What the law needs, one part after another: walks of functions and plain laws. No conditions but those that each law names. -/
import Derived.Test.YtpklmldempddhaaGuam
namespace Go.Proofs.Ytpklmldempddhaa
open Go Go.RowKit Go.Wr Go.Fl Go.Ht
set_option maxHeartbeats 4000000
set_option maxRecDepth 100000
theorem ne_nn {x y : Nat} (hx : x ≤ inf) (hy : y ≤ inf) : (FloatKind.f64.format.order x y != some .eq) = !decide (x = y) := by
 have h := eq_nn hx hy
 show (!(FloatKind.f64.format.order x y == some .eq)) = _
 exact congrArg (!·) h
theorem fmul_one {x : Nat} (hx : x ≤ inf) : fmul x one = x := by
 unfold fmul
 by_cases h : x = inf
 ·rw [if_pos h, h]
 ·rw [if_neg h, vl_one]
  exact rd_vl hx e74
theorem edR_at {l : List In} {b k : Nat} (h : k < (nxt l b).length) : (edR l b)[k]? = some (edg l b k) := by
 unfold edR
 rw [List.getElem?_map, List.getElem?_range h]
 rfl
theorem edR_len {l : List In} {b : Nat} : (edR l b).length = (nxt l b).length := by unfold edR; rw [List.length_map, List.length_range]
theorem chn_two {l : List In} {b : Nat} (h : (nxt l b).length = 2) :
  (dm l ((nxt l b).getD 0 0) b = true ∧ dm l ((nxt l b).getD 1 0) b = false → chn l b 0 = c78 ∧ chn l b 1 = c18) ∧
  (dm l ((nxt l b).getD 0 0) b = false ∧ dm l ((nxt l b).getD 1 0) b = true → chn l b 0 = c18 ∧ chn l b 1 = c78) ∧
  (dm l ((nxt l b).getD 0 0) b = dm l ((nxt l b).getD 1 0) b → chn l b 0 = c38 ∨ chn l b 0 = c78 ∨ chn l b 0 = c18) := by
 have h0 : chn l b 0 = chT l b 0 ((nxt l b).getD 0 0) ((nxt l b).getD 1 0) := by unfold chn; rw [if_neg (by omega)]
 have h1 : chn l b 1 = chT l b 1 ((nxt l b).getD 1 0) ((nxt l b).getD 0 0) := by unfold chn; rw [if_neg (by omega)]
 rw [h0, h1]
 refine ⟨fun ⟨a, b⟩ => ⟨chT_d1 a b, chT_d2 b a⟩, fun ⟨a, b⟩ => ⟨chT_d2 a b, chT_d1 b a⟩, fun e => ?_⟩
 rw [chT_nd e]
 split
 ·exact Or.inr (Or.inl rfl)
 ·split
  ·exact Or.inr (Or.inr rfl)
  ·exact Or.inl rfl
theorem chances_ok (w : World) (q : Nat) (v : Value) (l : List In) (h : SlX tN q w v l) : Calls Try.prog 7 #[v] w fun e w' => e = .returned (.bool true) ∧ Below w.heap.size w w' := by
 have HC := Lib.hid (flows19_ok w q v l h)
 clear h
 go_enter Try.func7, Try.ntmps7
 go_wp2_with fail
 refine HC.out.mono ?_
 rintro e w1 ⟨b1, rfl | ⟨p, q, rfl, -, -, hF, -⟩⟩
 ·have HB1 := Lib.hid b1
  clear b1
  go_wp2
  go_ret
  exact ⟨rfl, HB1.out⟩
 ·have HB1 := Lib.hid b1
  have HF1 := Lib.hid hF
  have h512 := hF.1.n512
  have HG := Lib.hid hF.1
  clear b1 hF
  go_wp2_with fail
  refine (FinP.blocks HF1.out).mono ?_
  rintro e w2 ⟨b2, vb, rfl, hbd⟩
  have HB2 := Lib.hid (bThen HB1.out b2)
  have HBd := Lib.hid hbd
  have HF2 := Lib.hid (HF1.out.below b2)
  clear b2 hbd HF1
  go_wp2_with fail
  refine (hguess_ok w2 p l HF2.out).mono ?_
  rintro e w3 ⟨b3, vw, rfl, how⟩
  have HB3 := Lib.hid (bThen HB2.out b3)
  have HBd3 := Lib.hid (HBd.out.below b3)
  have HF3 := Lib.hid (HF2.out.below b3)
  have HW3 := Lib.hid how
  clear b3 how HBd HF2
  go_wp2_with fail
  refine (hedges_ok w3 p l HF3.out).mono ?_
  unfold EdP
  rintro e w4 ⟨b4, vx, rfl, rs, hl4, ho4, hr4⟩
  have HB4 := Lib.hid (bThen HB3.out b4)
  have hbd4 := HBd3.out.below b4
  have hw4 := OwR.slz (HW3.out.below b4)
  have hx4 := OwR.slz ho4
  obtain ⟨ab, cb, rfl, -, -⟩ := hbd4.form
  obtain ⟨aw, cw, rfl, -, -⟩ := hw4.form
  obtain ⟨ax, cx, rfl, -, -⟩ := hx4.form
  rw [dB_len] at hbd4
  rw [List.length_map, List.length_range] at hw4
  rw [hl4] at hx4
  have HD := Lib.hid (And.intro hbd4 (And.intro hw4 (And.intro hx4 (And.intro hr4 (And.intro hl4 (HF3.out.below b4))))))
  rw [dB_len, List.length_map, List.length_range, hl4]
  clear b4 hl4 ho4 hr4 hbd4 hw4 hx4 HBd3 HW3 HF3
  go_wp2
  go_loopw [9] (fun t wr => ∃ (i m : Nat), i ≤ nB l ∧ t = .int .i64 (i : Int) ∧ Hid (wr = w4.drewN m)) (fun t _ => nB l - (intOf t).toNat)
  case atStart => exact ⟨0, 0, by omega, rfl, rfl⟩
  case round =>
   obtain ⟨b, m, hb, rfl, hwr⟩ := hrel
   obtain ⟨V, rfl⟩ : ∃ x : World, x = wr := ⟨_, rfl⟩
   by_cases hlt : b < nB l
   ·have hlt' : (b : Int) < (nB l : Int) := by omega
    have hbV : Below w4.heap.size w4 V := by rw [hwr.out]; exact bDrewN (bRefl w4) m
    obtain ⟨gb, ob, na, nn, nc, rfl, cn, hnn, hsn⟩ := (HD.out.1.below hbV).next hlt
    obtain ⟨⟨sa, sn, sc⟩, hs⟩ : ∃ s, rs[b]? = some s := ⟨_, List.getElem?_eq_getElem (by rw [HD.out.2.2.2.2.1]; exact hlt)⟩
    obtain ⟨g1, o1, rfl, -, hat1⟩ := (HD.out.2.2.1.below hbV).get hs
    have d1 := hat1.cell 0 _ rfl
    have e1 : o1 + b * tFF.n + 0 = o1 + b := by show o1 + b * 1 + 0 = _; omega
    rw [e1] at d1
    have c1 : V.cell? ⟨g1, o1 + b, none⟩ = some (.slice sa sn sc) := d1
    have hrow := OwR.slz (OwR.below (HD.out.2.2.2.1.own b _ hs) hbV)
    obtain rfl : nn = sn := by
     have h1 : sn = (edR l b).length := SlX.len hrow
     rw [edR_len, ← hnn] at h1
     exact h1.symm
    obtain ⟨x, hx⟩ : ∃ x, x = wts l (tT l) (-1) b := ⟨_, rfl⟩
    have hxle : x ≤ inf := by rw [hx]; exact wts_le b
    obtain ⟨gw, ow, rfl, -, -, cww⟩ := SlX.flo (HD.out.2.1.below hbV) (k := b) (x := x) (by rw [List.getElem?_map, List.getElem?_range hlt, hx]; rfl)
    have HW0 := Lib.hid (show ∀ n, ∃ k, V.drewN n = w4.drewN k from fun n => ⟨m + n, by rw [hwr.out, World.drewN_drewN]⟩)
    have HFV := Lib.hid (HD.out.2.2.2.2.2.below hbV)
    have hn2 : nn ≤ 2 := by rw [hnn]; exact nxt_two l b
    clear hs hat1 d1 e1 hbV hwr
    have HNN := Lib.hid hnn
    clear hnn
    rcases (show nn = 0 ∨ nn = 1 ∨ nn = 2 by omega) with rfl | rfl | rfl
    ·go_wp2_with fail
     go_quiet (fail)
     have HW := Lib.hid (HW0.out nq)
     clear c1 cn cww HW0
     generalize V.drewN nq = V2 at HW ⊢
     have HE := Lib.hid (show ∃ k, V2 = w4.drewN k from HW.out)
     go_wp2
     go_roundw
     all_goals first
      | (obtain ⟨k, hk⟩ := HE.out; exact ⟨b + 1, k, by omega, by go_num, hk⟩)
      | (simp [intOf] <;> omega)
    ·obtain ⟨ga, oa, rfl, -, -, c2⟩ := SlX.flo hrow (edR_at (k := 0) (by have := HNN.out; omega))
     have hex : edg l b 0 = x := by
      unfold edg chn
      rw [if_pos HNN.out.symm, ← hx]
      exact fmul_one hxle
     rw [hex] at c2
     have hne := ne_nn hxle hxle
     rw [decide_eq_true rfl, Bool.not_true] at hne
     have c2' : V.cell? ⟨ga, oa, none⟩ = some (.float .f64 x) := c2
     clear c2 hex hx hrow hsn
     go_wp2_with fail
     go_quiet (fail)
     have HW := Lib.hid (HW0.out nq)
     clear c1 cn cww HW0 c2' hne
     generalize V.drewN nq = V2 at HW ⊢
     have HE := Lib.hid (show ∃ k, V2 = w4.drewN k from HW.out)
     go_wp2
     go_roundw
     all_goals first
      | (obtain ⟨k, hk⟩ := HE.out; exact ⟨b + 1, k, by omega, by go_num, hk⟩)
      | (simp [intOf] <;> omega)
    ·obtain ⟨ga, oa, rfl, -, -, d20⟩ := SlX.flo hrow (edR_at (k := 0) (by have := HNN.out; omega))
     obtain ⟨ga', oa', e2, -, -, d21⟩ := SlX.flo hrow (edR_at (k := 1) (by have := HNN.out; omega))
     injection e2 with e2
     injection e2 with e21 e22
     subst e21 e22
     obtain ⟨y0, hy0⟩ : ∃ y, y = edg l b 0 := ⟨_, rfl⟩
     obtain ⟨y1, hy1⟩ : ∃ y, y = edg l b 1 := ⟨_, rfl⟩
     rw [← hy0] at d20
     rw [← hy1] at d21
     have c20 : V.cell? ⟨ga, oa, none⟩ = some (.float .f64 y0) := d20
     have c21 : V.cell? ⟨ga, oa + 1, none⟩ = some (.float .f64 y1) := d21
     obtain ⟨n0, hn0⟩ : ∃ n, n = (nxt l b).getD 0 0 := ⟨_, rfl⟩
     obtain ⟨n1, hn1⟩ : ∃ n, n = (nxt l b).getD 1 0 := ⟨_, rfl⟩
     obtain ⟨gn, on, rfl, -, -, cn0⟩ := SlX.int hsn (nI_at (show 0 < (nxt l b).length by have := HNN.out; omega))
     obtain ⟨gn', on', e2, -, -, cn1⟩ := SlX.int hsn (nI_at (show 1 < (nxt l b).length by have := HNN.out; omega))
     injection e2 with e2
     injection e2 with e21 e22
     subst e21 e22
     rw [← hn0] at cn0
     rw [← hn1] at cn1
     have cn0' : V.cell? ⟨gn, on, none⟩ = some (.int .i64 (n0 : Int)) := cn0
     have cn1' : V.cell? ⟨gn, on + 1, none⟩ = some (.int .i64 (n1 : Int)) := cn1
     obtain ⟨i, hi⟩ : ∃ d, d = dm l n0 b := ⟨_, rfl⟩
     obtain ⟨k, hk⟩ : ∃ d, d = dm l n1 b := ⟨_, rfl⟩
     obtain ⟨z38, hz38⟩ : ∃ z, z = fmul x c38 := ⟨_, rfl⟩
     obtain ⟨z78, hz78⟩ : ∃ z, z = fmul x c78 := ⟨_, rfl⟩
     obtain ⟨z18, hz18⟩ : ∃ z, z = fmul x c18 := ⟨_, rfl⟩
     have hop38 := hop_mul (show Ieee.double.mul x c38 = some z38 by rw [hz38]; exact mul_nn hxle (by decide) (by decide))
     have hop78 := hop_mul (show Ieee.double.mul x c78 = some z78 by rw [hz78]; exact mul_nn hxle (by decide) (by decide))
     have hop18 := hop_mul (show Ieee.double.mul x c18 = some z18 by rw [hz18]; exact mul_nn hxle (by decide) (by decide))
     rw [show c38 = 4600427019358961664 from rfl] at hop38
     rw [show c78 = 4606056518893174784 from rfl] at hop78
     rw [show c18 = 4593671619917905920 from rfl] at hop18
     have HCh := Lib.hid (show (i = true ∧ k = false → y0 = z78 ∧ y1 = z18) ∧ (i = false ∧ k = true → y0 = z18 ∧ y1 = z78) ∧ (i = k → y0 = z38 ∨ y0 = z78 ∨ y0 = z18) by
      obtain ⟨t1, t2, t3⟩ := chn_two (l := l) (b := b) HNN.out.symm
      rw [← hn0, ← hn1, ← hi, ← hk] at t1 t2 t3
      rw [hy0, hy1, hz38, hz78, hz18]
      unfold edg
      rw [← hx]
      refine ⟨fun h => ?_, fun h => ?_, fun h => ?_⟩
      ·rw [(t1 h).1, (t1 h).2]; exact ⟨rfl, rfl⟩
      ·rw [(t2 h).1, (t2 h).2]; exact ⟨rfl, rfl⟩
      ·rcases t3 h with t | t | t
       ·rw [t]; exact Or.inl rfl
       ·rw [t]; exact Or.inr (Or.inl rfl)
       ·rw [t]; exact Or.inr (Or.inr rfl))
     have HLe := Lib.hid (show y0 ≤ inf ∧ y1 ≤ inf ∧ z38 ≤ inf ∧ z78 ≤ inf ∧ z18 ≤ inf by rw [hy0, hy1, hz38, hz78, hz18]; exact ⟨fmul_le _ _, fmul_le _ _, fmul_le _ _, fmul_le _ _, fmul_le _ _⟩)
     have HDm := Lib.hid (show domB (nxt l) (nB l) (n0 : Int) (b : Int) = i ∧ domB (nxt l) (nB l) (n1 : Int) (b : Int) = k from ⟨hi.symm, hk.symm⟩)
     have HQ := Lib.hid (show ∀ n, (V.drewN n).cell? ⟨g1, o1 + b, none⟩ = some (.slice (some ⟨ga, oa, none⟩) 2 sc) ∧ (V.drewN n).cell? ⟨gw, ow + b, none⟩ = some (.float .f64 x) ∧ (V.drewN n).cell? ⟨ga, oa, none⟩ = some (.float .f64 y0) ∧ (V.drewN n).cell? ⟨ga, oa + 1, none⟩ = some (.float .f64 y1) ∧ (V.drewN n).cell? ⟨gn, on, none⟩ = some (.int .i64 (n0 : Int)) ∧ (V.drewN n).cell? ⟨gn, on + 1, none⟩ = some (.int .i64 (n1 : Int)) from fun n => ⟨c1, cww, c20, c21, cn0', cn1'⟩)
     clear d20 d21 cn0 cn1 hy0 hy1 hn0 hn1 hi hk hz38 hz78 hz18 hx hrow hsn
     go_wp2_with fail
     go_quiet (fail)
     obtain ⟨W1, hw1⟩ : ∃ W, W = V.drewN nq := ⟨_, rfl⟩
     rw [← hw1]
     have HF1 := Lib.hid (show FinP l p W1 by rw [hw1]; exact HFV.out.below (bDrewN (bRefl V) nq))
     have HE1 := Lib.hid (show ∃ n, W1 = V.drewN n from ⟨_, hw1⟩)
     have hq1 := HQ.out nq
     rw [← hw1] at hq1
     obtain ⟨f1, f2, f3, f4, f5, f6⟩ := hq1
     have hdom : ∀ (x n : Nat), Calls Try.prog 18 #[.pointer (some ⟨p, 0, none⟩), .int .i64 (x : Int), .int .i64 (b : Int)] (W1.drewN n) fun e w' => e = .returned (.bool (domB (nxt l) (nB l) (x : Int) (b : Int))) ∧ ∃ k, w' = (W1.drewN n).drewN k := fun x n => (HF1.out.below (bDrewN (bRefl W1) n)).dom _ _
     clear hw1 c1 cn cww c20 c21 cn0' cn1'
     go_wp2_with fail
     go_quiet (first | (go_at_call 18; exact Calls.quiet_of (hdom _ _)))
     rw [HDm.out.1, HDm.out.2]
     clear f5 f6 hdom HF1
     obtain ⟨W2, hw2⟩ : ∃ W, W = W1.drewN nq := ⟨_, rfl⟩
     rw [← hw2]
     have HE2 := Lib.hid (show ∃ n, W2 = V.drewN n by obtain ⟨n, hn⟩ := HE1.out; exact ⟨n + nq, by rw [hw2, hn, World.drewN_drewN]⟩)
     have hq2 := HQ.out
     obtain ⟨f1, f2, f3, f4, -, -⟩ : W2.cell? ⟨g1, o1 + b, none⟩ = some (.slice (some ⟨ga, oa, none⟩) 2 sc) ∧ W2.cell? ⟨gw, ow + b, none⟩ = some (.float .f64 x) ∧ W2.cell? ⟨ga, oa, none⟩ = some (.float .f64 y0) ∧ W2.cell? ⟨ga, oa + 1, none⟩ = some (.float .f64 y1) ∧ W2.cell? ⟨gn, on, none⟩ = some (.int .i64 (n0 : Int)) ∧ W2.cell? ⟨gn, on + 1, none⟩ = some (.int .i64 (n1 : Int)) := by
      obtain ⟨n, hn⟩ := HE2.out
      rw [hn]
      exact hq2 n
     clear hw2 HE1 hq2
     obtain ⟨W1, rfl⟩ : ∃ W, W = W2 := ⟨_, rfl⟩
     have HE1 := HE2
     clear HE2
     cases i <;> cases k
     ·as_aux_lemma =>
      have hy := HCh.out.2.2 rfl
      have q1 := ne_nn HLe.out.1 HLe.out.2.2.1
      have q2 := ne_nn HLe.out.1 HLe.out.2.2.2.1
      have q3 := ne_nn HLe.out.1 HLe.out.2.2.2.2
      have HB := Lib.hid (show (!decide (y0 = z38)) = false ∨ (!decide (y0 = z78)) = false ∨ (!decide (y0 = z18)) = false by
       rcases hy with h | h | h
       ·exact Or.inl (by rw [decide_eq_true h]; rfl)
       ·exact Or.inr (Or.inl (by rw [decide_eq_true h]; rfl))
       ·exact Or.inr (Or.inr (by rw [decide_eq_true h]; rfl)))
      generalize (!decide (y0 = z38)) = r1 at q1 HB
      generalize (!decide (y0 = z78)) = r2 at q2 HB
      generalize (!decide (y0 = z18)) = r3 at q3 HB
      clear hy
      go_wp2_with fail
      go_quiet (fail)
      obtain ⟨W2, hw2⟩ : ∃ W, W = W1.drewN nq := ⟨_, rfl⟩
      rw [← hw2]
      have HE2 := Lib.hid (show ∃ n, W2 = V.drewN n by obtain ⟨n, hn⟩ := HE1.out; exact ⟨n + nq, by rw [hw2, hn, World.drewN_drewN]⟩)
      have hq2 := HQ.out
      obtain ⟨f1, f2, f3, f4, -, -⟩ : W2.cell? ⟨g1, o1 + b, none⟩ = some (.slice (some ⟨ga, oa, none⟩) 2 sc) ∧ W2.cell? ⟨gw, ow + b, none⟩ = some (.float .f64 x) ∧ W2.cell? ⟨ga, oa, none⟩ = some (.float .f64 y0) ∧ W2.cell? ⟨ga, oa + 1, none⟩ = some (.float .f64 y1) ∧ W2.cell? ⟨gn, on, none⟩ = some (.int .i64 (n0 : Int)) ∧ W2.cell? ⟨gn, on + 1, none⟩ = some (.int .i64 (n1 : Int)) := by
       obtain ⟨n, hn⟩ := HE2.out
       rw [hn]
       exact hq2 n
      clear hw2 HE1 hq2
      obtain ⟨W1, rfl⟩ : ∃ W, W = W2 := ⟨_, rfl⟩
      have HE1 := HE2
      clear HE2
      go_wp2_with fail
      go_quiet (fail)
      obtain ⟨W2, hw2⟩ : ∃ W, W = W1.drewN nq := ⟨_, rfl⟩
      rw [← hw2]
      have HE2 := Lib.hid (show ∃ n, W2 = V.drewN n by obtain ⟨n, hn⟩ := HE1.out; exact ⟨n + nq, by rw [hw2, hn, World.drewN_drewN]⟩)
      have hq2 := HQ.out
      obtain ⟨f1, f2, f3, f4, -, -⟩ : W2.cell? ⟨g1, o1 + b, none⟩ = some (.slice (some ⟨ga, oa, none⟩) 2 sc) ∧ W2.cell? ⟨gw, ow + b, none⟩ = some (.float .f64 x) ∧ W2.cell? ⟨ga, oa, none⟩ = some (.float .f64 y0) ∧ W2.cell? ⟨ga, oa + 1, none⟩ = some (.float .f64 y1) ∧ W2.cell? ⟨gn, on, none⟩ = some (.int .i64 (n0 : Int)) ∧ W2.cell? ⟨gn, on + 1, none⟩ = some (.int .i64 (n1 : Int)) := by
       obtain ⟨n, hn⟩ := HE2.out
       rw [hn]
       exact hq2 n
      clear hw2 HE1 hq2
      obtain ⟨W1, rfl⟩ : ∃ W, W = W2 := ⟨_, rfl⟩
      have HE1 := HE2
      clear HE2
      cases r1
      ·go_wp2_with fail
       go_quiet (fail)
       have HW := Lib.hid (show ∃ k, W1.drewN nq = w4.drewN k by
        obtain ⟨n, hn⟩ := HE1.out
        obtain ⟨k, hk⟩ := HW0.out (n + nq)
        exact ⟨k, by rw [← hk, hn, World.drewN_drewN]⟩)
       clear HE1 HW0 HQ f1 f2 f3 f4
       generalize W1.drewN nq = V2 at HW ⊢
       have HE := Lib.hid (show ∃ k, V2 = w4.drewN k from HW.out)
       go_wp2
       go_roundw
       all_goals first
        | (obtain ⟨k, hk⟩ := HE.out; exact ⟨b + 1, k, by omega, by go_num, hk⟩)
        | (simp [intOf] <;> omega)
      ·cases r2
       ·go_wp2_with fail
        go_quiet (fail)
        have HW := Lib.hid (show ∃ k, W1.drewN nq = w4.drewN k by
         obtain ⟨n, hn⟩ := HE1.out
         obtain ⟨k, hk⟩ := HW0.out (n + nq)
         exact ⟨k, by rw [← hk, hn, World.drewN_drewN]⟩)
        clear HE1 HW0 HQ f1 f2 f3 f4
        generalize W1.drewN nq = V2 at HW ⊢
        have HE := Lib.hid (show ∃ k, V2 = w4.drewN k from HW.out)
        go_wp2
        go_roundw
        all_goals first
         | (obtain ⟨k, hk⟩ := HE.out; exact ⟨b + 1, k, by omega, by go_num, hk⟩)
         | (simp [intOf] <;> omega)
       ·cases r3
        ·go_wp2_with fail
         go_quiet (fail)
         have HW := Lib.hid (show ∃ k, W1.drewN nq = w4.drewN k by
          obtain ⟨n, hn⟩ := HE1.out
          obtain ⟨k, hk⟩ := HW0.out (n + nq)
          exact ⟨k, by rw [← hk, hn, World.drewN_drewN]⟩)
         clear HE1 HW0 HQ f1 f2 f3 f4
         generalize W1.drewN nq = V2 at HW ⊢
         have HE := Lib.hid (show ∃ k, V2 = w4.drewN k from HW.out)
         go_wp2
         go_roundw
         all_goals first
          | (obtain ⟨k, hk⟩ := HE.out; exact ⟨b + 1, k, by omega, by go_num, hk⟩)
          | (simp [intOf] <;> omega)
        ·exfalso
         rcases HB.out with h | h | h <;> cases h
     ·as_aux_lemma =>
      obtain ⟨rfl, rfl⟩ := HCh.out.2.1 ⟨rfl, rfl⟩
      have hneA := ne_nn HLe.out.1 HLe.out.1
      have hneB := ne_nn HLe.out.2.1 HLe.out.2.1
      rw [decide_eq_true rfl, Bool.not_true] at hneA hneB
      go_wp2_with fail
      go_quiet (fail)
      obtain ⟨W2, hw2⟩ : ∃ W, W = W1.drewN nq := ⟨_, rfl⟩
      rw [← hw2]
      have HE2 := Lib.hid (show ∃ n, W2 = V.drewN n by obtain ⟨n, hn⟩ := HE1.out; exact ⟨n + nq, by rw [hw2, hn, World.drewN_drewN]⟩)
      have hq2 := HQ.out
      obtain ⟨f1, f2, f3, f4, -, -⟩ : W2.cell? ⟨g1, o1 + b, none⟩ = some (.slice (some ⟨ga, oa, none⟩) 2 sc) ∧ W2.cell? ⟨gw, ow + b, none⟩ = some (.float .f64 x) ∧ W2.cell? ⟨ga, oa, none⟩ = some (.float .f64 y0) ∧ W2.cell? ⟨ga, oa + 1, none⟩ = some (.float .f64 y1) ∧ W2.cell? ⟨gn, on, none⟩ = some (.int .i64 (n0 : Int)) ∧ W2.cell? ⟨gn, on + 1, none⟩ = some (.int .i64 (n1 : Int)) := by
       obtain ⟨n, hn⟩ := HE2.out
       rw [hn]
       exact hq2 n
      clear hw2 HE1 hq2
      obtain ⟨W1, rfl⟩ : ∃ W, W = W2 := ⟨_, rfl⟩
      have HE1 := HE2
      clear HE2
      go_wp2_with fail
      go_quiet (fail)
      obtain ⟨W2, hw2⟩ : ∃ W, W = W1.drewN nq := ⟨_, rfl⟩
      rw [← hw2]
      have HE2 := Lib.hid (show ∃ n, W2 = V.drewN n by obtain ⟨n, hn⟩ := HE1.out; exact ⟨n + nq, by rw [hw2, hn, World.drewN_drewN]⟩)
      have hq2 := HQ.out
      obtain ⟨f1, f2, f3, f4, -, -⟩ : W2.cell? ⟨g1, o1 + b, none⟩ = some (.slice (some ⟨ga, oa, none⟩) 2 sc) ∧ W2.cell? ⟨gw, ow + b, none⟩ = some (.float .f64 x) ∧ W2.cell? ⟨ga, oa, none⟩ = some (.float .f64 y0) ∧ W2.cell? ⟨ga, oa + 1, none⟩ = some (.float .f64 y1) ∧ W2.cell? ⟨gn, on, none⟩ = some (.int .i64 (n0 : Int)) ∧ W2.cell? ⟨gn, on + 1, none⟩ = some (.int .i64 (n1 : Int)) := by
       obtain ⟨n, hn⟩ := HE2.out
       rw [hn]
       exact hq2 n
      clear hw2 HE1 hq2
      obtain ⟨W1, rfl⟩ : ∃ W, W = W2 := ⟨_, rfl⟩
      have HE1 := HE2
      clear HE2
      go_wp2_with fail
      go_quiet (fail)
      have HW := Lib.hid (show ∃ k, W1.drewN nq = w4.drewN k by
       obtain ⟨n, hn⟩ := HE1.out
       obtain ⟨k, hk⟩ := HW0.out (n + nq)
       exact ⟨k, by rw [← hk, hn, World.drewN_drewN]⟩)
      clear HE1 HW0 HQ f1 f2 f3 f4
      generalize W1.drewN nq = V2 at HW ⊢
      have HE := Lib.hid (show ∃ k, V2 = w4.drewN k from HW.out)
      go_wp2
      go_roundw
      all_goals first
       | (obtain ⟨k, hk⟩ := HE.out; exact ⟨b + 1, k, by omega, by go_num, hk⟩)
       | (simp [intOf] <;> omega)
     ·as_aux_lemma =>
      obtain ⟨rfl, rfl⟩ := HCh.out.1 ⟨rfl, rfl⟩
      have hneA := ne_nn HLe.out.1 HLe.out.1
      have hneB := ne_nn HLe.out.2.1 HLe.out.2.1
      rw [decide_eq_true rfl, Bool.not_true] at hneA hneB
      go_wp2_with fail
      go_quiet (fail)
      obtain ⟨W2, hw2⟩ : ∃ W, W = W1.drewN nq := ⟨_, rfl⟩
      rw [← hw2]
      have HE2 := Lib.hid (show ∃ n, W2 = V.drewN n by obtain ⟨n, hn⟩ := HE1.out; exact ⟨n + nq, by rw [hw2, hn, World.drewN_drewN]⟩)
      have hq2 := HQ.out
      obtain ⟨f1, f2, f3, f4, -, -⟩ : W2.cell? ⟨g1, o1 + b, none⟩ = some (.slice (some ⟨ga, oa, none⟩) 2 sc) ∧ W2.cell? ⟨gw, ow + b, none⟩ = some (.float .f64 x) ∧ W2.cell? ⟨ga, oa, none⟩ = some (.float .f64 y0) ∧ W2.cell? ⟨ga, oa + 1, none⟩ = some (.float .f64 y1) ∧ W2.cell? ⟨gn, on, none⟩ = some (.int .i64 (n0 : Int)) ∧ W2.cell? ⟨gn, on + 1, none⟩ = some (.int .i64 (n1 : Int)) := by
       obtain ⟨n, hn⟩ := HE2.out
       rw [hn]
       exact hq2 n
      clear hw2 HE1 hq2
      obtain ⟨W1, rfl⟩ : ∃ W, W = W2 := ⟨_, rfl⟩
      have HE1 := HE2
      clear HE2
      go_wp2_with fail
      go_quiet (fail)
      obtain ⟨W2, hw2⟩ : ∃ W, W = W1.drewN nq := ⟨_, rfl⟩
      rw [← hw2]
      have HE2 := Lib.hid (show ∃ n, W2 = V.drewN n by obtain ⟨n, hn⟩ := HE1.out; exact ⟨n + nq, by rw [hw2, hn, World.drewN_drewN]⟩)
      have hq2 := HQ.out
      obtain ⟨f1, f2, f3, f4, -, -⟩ : W2.cell? ⟨g1, o1 + b, none⟩ = some (.slice (some ⟨ga, oa, none⟩) 2 sc) ∧ W2.cell? ⟨gw, ow + b, none⟩ = some (.float .f64 x) ∧ W2.cell? ⟨ga, oa, none⟩ = some (.float .f64 y0) ∧ W2.cell? ⟨ga, oa + 1, none⟩ = some (.float .f64 y1) ∧ W2.cell? ⟨gn, on, none⟩ = some (.int .i64 (n0 : Int)) ∧ W2.cell? ⟨gn, on + 1, none⟩ = some (.int .i64 (n1 : Int)) := by
       obtain ⟨n, hn⟩ := HE2.out
       rw [hn]
       exact hq2 n
      clear hw2 HE1 hq2
      obtain ⟨W1, rfl⟩ : ∃ W, W = W2 := ⟨_, rfl⟩
      have HE1 := HE2
      clear HE2
      go_wp2_with fail
      go_quiet (fail)
      have HW := Lib.hid (show ∃ k, W1.drewN nq = w4.drewN k by
       obtain ⟨n, hn⟩ := HE1.out
       obtain ⟨k, hk⟩ := HW0.out (n + nq)
       exact ⟨k, by rw [← hk, hn, World.drewN_drewN]⟩)
      clear HE1 HW0 HQ f1 f2 f3 f4
      generalize W1.drewN nq = V2 at HW ⊢
      have HE := Lib.hid (show ∃ k, V2 = w4.drewN k from HW.out)
      go_wp2
      go_roundw
      all_goals first
       | (obtain ⟨k, hk⟩ := HE.out; exact ⟨b + 1, k, by omega, by go_num, hk⟩)
       | (simp [intOf] <;> omega)
     ·as_aux_lemma =>
      have hy := HCh.out.2.2 rfl
      have q1 := ne_nn HLe.out.1 HLe.out.2.2.1
      have q2 := ne_nn HLe.out.1 HLe.out.2.2.2.1
      have q3 := ne_nn HLe.out.1 HLe.out.2.2.2.2
      have HB := Lib.hid (show (!decide (y0 = z38)) = false ∨ (!decide (y0 = z78)) = false ∨ (!decide (y0 = z18)) = false by
       rcases hy with h | h | h
       ·exact Or.inl (by rw [decide_eq_true h]; rfl)
       ·exact Or.inr (Or.inl (by rw [decide_eq_true h]; rfl))
       ·exact Or.inr (Or.inr (by rw [decide_eq_true h]; rfl)))
      generalize (!decide (y0 = z38)) = r1 at q1 HB
      generalize (!decide (y0 = z78)) = r2 at q2 HB
      generalize (!decide (y0 = z18)) = r3 at q3 HB
      clear hy
      go_wp2_with fail
      go_quiet (fail)
      obtain ⟨W2, hw2⟩ : ∃ W, W = W1.drewN nq := ⟨_, rfl⟩
      rw [← hw2]
      have HE2 := Lib.hid (show ∃ n, W2 = V.drewN n by obtain ⟨n, hn⟩ := HE1.out; exact ⟨n + nq, by rw [hw2, hn, World.drewN_drewN]⟩)
      have hq2 := HQ.out
      obtain ⟨f1, f2, f3, f4, -, -⟩ : W2.cell? ⟨g1, o1 + b, none⟩ = some (.slice (some ⟨ga, oa, none⟩) 2 sc) ∧ W2.cell? ⟨gw, ow + b, none⟩ = some (.float .f64 x) ∧ W2.cell? ⟨ga, oa, none⟩ = some (.float .f64 y0) ∧ W2.cell? ⟨ga, oa + 1, none⟩ = some (.float .f64 y1) ∧ W2.cell? ⟨gn, on, none⟩ = some (.int .i64 (n0 : Int)) ∧ W2.cell? ⟨gn, on + 1, none⟩ = some (.int .i64 (n1 : Int)) := by
       obtain ⟨n, hn⟩ := HE2.out
       rw [hn]
       exact hq2 n
      clear hw2 HE1 hq2
      obtain ⟨W1, rfl⟩ : ∃ W, W = W2 := ⟨_, rfl⟩
      have HE1 := HE2
      clear HE2
      go_wp2_with fail
      go_quiet (fail)
      obtain ⟨W2, hw2⟩ : ∃ W, W = W1.drewN nq := ⟨_, rfl⟩
      rw [← hw2]
      have HE2 := Lib.hid (show ∃ n, W2 = V.drewN n by obtain ⟨n, hn⟩ := HE1.out; exact ⟨n + nq, by rw [hw2, hn, World.drewN_drewN]⟩)
      have hq2 := HQ.out
      obtain ⟨f1, f2, f3, f4, -, -⟩ : W2.cell? ⟨g1, o1 + b, none⟩ = some (.slice (some ⟨ga, oa, none⟩) 2 sc) ∧ W2.cell? ⟨gw, ow + b, none⟩ = some (.float .f64 x) ∧ W2.cell? ⟨ga, oa, none⟩ = some (.float .f64 y0) ∧ W2.cell? ⟨ga, oa + 1, none⟩ = some (.float .f64 y1) ∧ W2.cell? ⟨gn, on, none⟩ = some (.int .i64 (n0 : Int)) ∧ W2.cell? ⟨gn, on + 1, none⟩ = some (.int .i64 (n1 : Int)) := by
       obtain ⟨n, hn⟩ := HE2.out
       rw [hn]
       exact hq2 n
      clear hw2 HE1 hq2
      obtain ⟨W1, rfl⟩ : ∃ W, W = W2 := ⟨_, rfl⟩
      have HE1 := HE2
      clear HE2
      cases r1
      ·go_wp2_with fail
       go_quiet (fail)
       have HW := Lib.hid (show ∃ k, W1.drewN nq = w4.drewN k by
        obtain ⟨n, hn⟩ := HE1.out
        obtain ⟨k, hk⟩ := HW0.out (n + nq)
        exact ⟨k, by rw [← hk, hn, World.drewN_drewN]⟩)
       clear HE1 HW0 HQ f1 f2 f3 f4
       generalize W1.drewN nq = V2 at HW ⊢
       have HE := Lib.hid (show ∃ k, V2 = w4.drewN k from HW.out)
       go_wp2
       go_roundw
       all_goals first
        | (obtain ⟨k, hk⟩ := HE.out; exact ⟨b + 1, k, by omega, by go_num, hk⟩)
        | (simp [intOf] <;> omega)
      ·cases r2
       ·go_wp2_with fail
        go_quiet (fail)
        have HW := Lib.hid (show ∃ k, W1.drewN nq = w4.drewN k by
         obtain ⟨n, hn⟩ := HE1.out
         obtain ⟨k, hk⟩ := HW0.out (n + nq)
         exact ⟨k, by rw [← hk, hn, World.drewN_drewN]⟩)
        clear HE1 HW0 HQ f1 f2 f3 f4
        generalize W1.drewN nq = V2 at HW ⊢
        have HE := Lib.hid (show ∃ k, V2 = w4.drewN k from HW.out)
        go_wp2
        go_roundw
        all_goals first
         | (obtain ⟨k, hk⟩ := HE.out; exact ⟨b + 1, k, by omega, by go_num, hk⟩)
         | (simp [intOf] <;> omega)
       ·cases r3
        ·go_wp2_with fail
         go_quiet (fail)
         have HW := Lib.hid (show ∃ k, W1.drewN nq = w4.drewN k by
          obtain ⟨n, hn⟩ := HE1.out
          obtain ⟨k, hk⟩ := HW0.out (n + nq)
          exact ⟨k, by rw [← hk, hn, World.drewN_drewN]⟩)
         clear HE1 HW0 HQ f1 f2 f3 f4
         generalize W1.drewN nq = V2 at HW ⊢
         have HE := Lib.hid (show ∃ k, V2 = w4.drewN k from HW.out)
         go_wp2
         go_roundw
         all_goals first
          | (obtain ⟨k, hk⟩ := HE.out; exact ⟨b + 1, k, by omega, by go_num, hk⟩)
          | (simp [intOf] <;> omega)
        ·exfalso
         rcases HB.out with h | h | h <;> cases h
   ·have hlt' : ¬ (b : Int) < (nB l : Int) := by omega
    have HE := Lib.hid (show Below w.heap.size w V by rw [hwr.out]; exact bDrewN HB4.out m)
    clear hwr
    go_wp2
    go_ret
    exact ⟨rfl, HE.out⟩
end Go.Proofs.Ytpklmldempddhaa
namespace Go.Proofs.Ytpklmldempddhaa
open Go Go.RowKit Go.Wr Go.Fl
open Go.ChangeShapes Go.WideShapes Go.ChangeAt Go.Deep
set_option maxHeartbeats 4000000
set_option maxRecDepth 100000
set_option maxRecDepth 100000 in
theorem heatChances_lifted (os : Os) (started : os.Started) (H : Type) (enc : TypeId × Value → H) :
  ReturnsInHanded {} Try.checked os 7 .any (Rows.heatChancesSpec.pre6 enc Try.prog Try.f7 Rows.heatChancesRow.domain false) (Rows.heatChancesSpec.post enc Try.prog Try.f7 false true false false) := by
 refine returnsInHanded_of_change_sized (C := Try.checked) own started (by kernel_rfl) Try.func7
  (ChangeSpec.witness6 (enc := enc) (C := Try.checked) false ⟨#[], #[.slice none 0 0], []⟩ 8 (by kernel_rfl) (by kernel_rfl) (by kernel_rfl) (by kernel_rfl)) ?_
 intro W base args ds gs before hval0 hW hcnd hsz _
 have hval : ∀ (j : Nat) t v, Try.f7.params[j]? = some t → args[j]? = some v → Value.okWide Try.prog W .any base t v := hval0
 have hW' := hW
 obtain ⟨p, q, hA0, hV, rfl, hfz, hnd⟩ := hW
 have hA : DataW.TrodAll enc Try.prog W 0 (fun _ => true) true Try.f7.params.toList args.toList ds p := hA0
 rw [Try.params7] at hA hval hsz
 obtain ⟨v0, vs0, d0, ds0, p0, q0, hargs, rfl, rfl, h0, r0⟩ := trodAll_cons hA
 obtain ⟨rfl, rfl, rfl⟩ := trodAll_nil r0
 obtain rfl : args = #[v0] := by cases args; simp_all
 obtain ⟨rfl, rfl⟩ := trodVars_none hV
 have k0 := h0
 have lt0 : ∀ x ∈ p0, x.block < W.heap.size := by obtain ⟨m, hm⟩ := k0; exact DataW.trod_lt m _ _ _ hm
 obtain ⟨a0, len0, cap0, rfl⟩ := okWide_slice Try.underlying23 (hval 0 23 v0 rfl rfl)
 obtain ⟨l0, g0⟩ : ∃ l, SlX tN W.heap.size W (.slice a0 len0 cap0) l := by
  obtain ⟨fuel, hf⟩ := h0
  exact open_ins (x := (d0, p0)) (by simpa [Value.cells] using hf)
 clear hA0 hval0 hval hfz hnd hcnd hA
 refine (chances_ok W W.heap.size _ l0 g0).mono fun e W' ⟨he, bel⟩ => ?_
 subst he
 exact ⟨_, rfl, _, _, _, [], _, [], hW', trodAll_mk1 (shut_bool Try.underlying4 _), (trodAll_cons_mk (Below.trod laidOut (by kernel_rfl) (of_decide_eq_true (by kernel_rfl)) k0 bel lt0) trodAll_mk0), rfl, bel.frame _, fun h => by cases h⟩
theorem HeatChances_holds : Rows.HeatChancesSaid :=
 OpenClaim.holds_of_wide 7 Try.f7 rfl rfl rfl rfl rfl rfl rfl ⟨rfl, rfl, rfl, rfl, rfl⟩ rfl rfl rfl rfl rfl (by kernel_rfl) Try.func7 (by kernel_rfl)
  (of_decide_eq_true (by kernel_rfl)) (by unfold Func.isWrapper; rw [if_neg (of_decide_eq_false (by kernel_rfl))]; exact ⟨rfl, rfl⟩)
  (fun os started H enc _ => heatChances_lifted os started H enc)
#print axioms HeatChances_holds
end Go.Proofs.Ytpklmldempddhaa
