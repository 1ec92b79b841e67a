/- What the law needs, one part after another: walks of functions and plain laws. No conditions but those that each law names. -/
import Derived.Test.YtcflgogodgfccaaFlam
namespace Go.Proofs.Ytcflgogodgfccaa
open Go Go.RowKit Go.Wr Go.Fl Go.Ht
set_option maxHeartbeats 40000000
set_option maxRecDepth 100000
theorem hdd_or {l : List In} {b i : Nat} : decide (0 ≤ hdd l b (i + 1)) = (decide (0 ≤ hdd l b i) || ((hdN l i : Int) == (b : Int))) := by
 rw [hdd]
 by_cases e : hdN l i = b
 ·rw [if_pos e, e]
  simp
 ·rw [if_neg e, beq_eq_false_iff_ne.2 (by omega : (hdN l i : Int) ≠ (b : Int)), Bool.or_false]
theorem lsum_succ {l : List In} {b u : Nat} : lsum l b (u + 1) = (egU l u b (nxt l u).length).foldl (brS l (wts l (tT l) (-1)) (-1) b false) (lsum l b u) := by
 unfold lsum
 show (egs l b u ++ egU l u b (nxt l u).length).foldl _ _ = _
 rw [List.foldl_append]
theorem lf_nn {x y : Nat} (hx : x ≤ inf) (hy : y ≤ inf) : (FloatKind.f64.format.order x y == some .lt) = decide (x < y) := lt_nn hx hy
theorem gf_nn {x y : Nat} (hx : x ≤ inf) (hy : y ≤ inf) : (FloatKind.f64.format.order x y == some .gt) = decide (y < x) := gt_nn hx hy
theorem flowsl_ok (w : World) (q : Nat) (v : Value) (l : List In) (h : SlX tN q w v l) : Calls Try.prog 4 #[v] w fun e w' => e = .returned (.bool true) ∧ Below w.heap.size w w' := by
 have HC := Lib.hid (flows19_ok w q v l h)
 clear h
 go_enter Try.func4, Try.ntmps4
 go_wp2_with fail
 refine HC.out.mono ?_
 rintro e w1 ⟨b1, rfl | ⟨p, q, rfl, -, -, hF, -⟩⟩
 ·have HB1 := Lib.hid b1
  clear b1
  go_wp2
  go_ret
  exact ⟨rfl, HB1.out⟩
 ·have HB1 := Lib.hid b1
  have HF1 := Lib.hid hF
  have h512 := hF.1.n512
  have h8 : nL l ≤ 8 := hF.1.hd8
  have hpos : 0 < nB l := hF.1.pos
  have HG := Lib.hid hF.1
  clear b1 hF
  go_wp2_with fail
  refine (FinP.blocks HF1.out).mono ?_
  rintro e w2 ⟨b2, vb, rfl, hbd⟩
  have HB2 := Lib.hid (bThen HB1.out b2)
  have HBd := Lib.hid hbd
  have HF2 := Lib.hid (HF1.out.below b2)
  clear b2 hbd HF1
  go_wp2_with fail
  refine (FinP.loops HF2.out).mono ?_
  rintro e w3 ⟨b3, vl, rfl, hld⟩
  have HB3 := Lib.hid (bThen HB2.out b3)
  have HLd := Lib.hid hld
  have HBd3 := Lib.hid (HBd.out.below b3)
  have HF3 := Lib.hid (HF2.out.below b3)
  clear b3 hld HF2 HBd
  go_wp2_with fail
  refine (hguess_ok w3 p l HF3.out).mono ?_
  rintro e w4 ⟨b4, vw, rfl, how⟩
  have HB4 := Lib.hid (bThen HB3.out b4)
  have HBd4 := Lib.hid (HBd3.out.below b4)
  have HLd4 := Lib.hid (HLd.out.below b4)
  have HF4 := Lib.hid (HF3.out.below b4)
  have HW4 := Lib.hid how
  clear b4 how HBd3 HLd HF3
  go_wp2_with fail
  refine (hedges_ok w4 p l HF4.out).mono ?_
  unfold EdP
  rintro e w5 ⟨b5, vx, rfl, rs, hl5, ho5, hr5⟩
  have HB5 := Lib.hid (bThen HB4.out b5)
  have hbd5 := HBd4.out.below b5
  have hld5 := HLd4.out.below b5
  have hw5 := OwR.slz (HW4.out.below b5)
  have hx5 := OwR.slz ho5
  obtain ⟨ab, cb, rfl, -, -⟩ := hbd5.form
  obtain ⟨al, cl, rfl, -, -⟩ := hld5.form
  obtain ⟨aw, cw, rfl, -, -⟩ := hw5.form
  obtain ⟨ax, cx, rfl, -, -⟩ := hx5.form
  rw [dB_len] at hbd5
  rw [dL_len] at hld5
  rw [List.length_map, List.length_range] at hw5
  rw [hl5] at hx5
  have HD := Lib.hid (And.intro hbd5 (And.intro hw5 (And.intro hx5 (And.intro hr5 (And.intro hl5 (HF4.out.below b5))))))
  have HL := Lib.hid (show Ld p w5 (.slice al (nL l) cl) (dL l) from hld5)
  rw [dB_len, List.length_map, List.length_range, hl5, dL_len, show (heads l).length = nL l from rfl]
  have HDm := Lib.hid (show ∀ u, u < nB l → ∀ v ∈ nxt l u, dm l v u = decide (pO l v ≤ pO l u) from fun u hu v hv => (HF4.out).dm hu hv)
  clear b5 hl5 ho5 hr5 hbd5 hld5 hw5 hx5 HBd4 HLd4 HW4 HF4
  have hnb : ((nB l : Int) == 0) = false := beq_eq_false_iff_ne.2 (by omega)
  go_wp2
  go_loopw [10] (fun t wr => ∃ (i m : Nat), i ≤ nB l ∧ t = .int .i64 (i : Int) ∧ Hid (wr = w5.drewN m)) (fun t _ => nB l - (intOf t).toNat)
  case atStart => exact ⟨0, 0, by omega, rfl, rfl⟩
  case round =>
   obtain ⟨b, m, hb, rfl, hwr⟩ := hrel
   obtain ⟨V, rfl⟩ : ∃ x : World, x = wr := ⟨_, rfl⟩
   by_cases hlt : b < nB l
   ·have hlt' : (b : Int) < (nB l : Int) := by omega
    go_wp2
    go_loopw [11, 12] (fun t u wr => ∃ (i : Nat), i ≤ nL l ∧ u = .int .i64 (i : Int) ∧ t = .bool (decide (0 ≤ hdd l b i)) ∧ wr = V) (fun _ u _ => nL l - (intOf u).toNat)
    case atStart => exact ⟨0, by omega, rfl, rfl, rfl⟩
    case round =>
     obtain ⟨i, hi, rfl, rfl, rfl⟩ := hrel
     obtain ⟨V, rfl⟩ : ∃ x : World, x = wr := ⟨_, rfl⟩
     by_cases hil : i < nL l
     ·have hil' : (i : Int) < (nL l : Int) := by omega
      obtain ⟨gl, ol, ba, bn, bc, rfl, ch0w, -, -, -⟩ := HL.out.one hil
      have ch0 : V.cell? ⟨gl, ol + i * 3, none⟩ = some (.int .i64 (hdN l i : Int)) := by rw [hwr.out]; exact ch0w
      have HS := Lib.hid (@hdd_or l b i)
      obtain ⟨r, hr⟩ : ∃ r, r = decide (0 ≤ hdd l b i) := ⟨_, rfl⟩
      rw [← hr] at HS ⊢
      obtain ⟨x, hx⟩ : ∃ x, x = hdN l i := ⟨_, rfl⟩
      rw [← hx] at HS ch0
      clear ch0w hr hx
      cases r with
      | true =>
       have HS1 := Lib.hid (show decide (0 ≤ hdd l b (i + 1)) = true by rw [HS.out]; rfl)
       clear HS
       go_wp2
       go_roundw
       all_goals first
        | exact ⟨i + 1, by omega, by go_num, by rw [HS1.out], rfl⟩
        | exact ⟨i + 1, by omega, by go_num, by rw [HS1.out], trivial⟩
        | (simp [intOf] <;> omega)
      | false =>
       obtain ⟨d, hd⟩ : ∃ d, d = ((x : Int) == (b : Int)) := ⟨_, rfl⟩
       have HS1 := Lib.hid (show decide (0 ≤ hdd l b (i + 1)) = d by rw [HS.out, hd]; rfl)
       have hd' : ((x : Int) == (b : Int)) = d := hd.symm
       clear HS hd
       go_wp2
       go_roundw
       all_goals first
        | exact ⟨i + 1, by omega, by go_num, by rw [HS1.out], rfl⟩
        | exact ⟨i + 1, by omega, by go_num, by rw [HS1.out], trivial⟩
        | (simp [intOf] <;> omega)
     ·have hie : i = nL l := by omega
      have hil' : ¬ (i : Int) < (nL l : Int) := by omega
      subst hie
      obtain ⟨hf, hhf⟩ : ∃ d, d = decide (0 ≤ hdd l b (nL l)) := ⟨_, rfl⟩
      rw [← hhf]
      have HHf := Lib.hid hhf
      clear hhf hil hi
      by_cases hb0 : b = 0
      ·have hb0' : ((b : Int) == 0) = true := by rw [hb0]; rfl
       have HS0 := Lib.hid (show lsum l b 0 = 4607182418800017408 by unfold lsum ins0; rw [if_pos hb0]; rfl)
       clear hb0
       go_upto_region 21 with (fail)
       as_aux_lemma =>
       go_wp2
       go_loopw [13, 14] (fun t u wr => ∃ (i m : Nat), i ≤ nB l ∧ u = .int .i64 (i : Int) ∧ t = .float .f64 (lsum l b i) ∧ Hid (wr = w5.drewN m)) (fun _ u _ => nB l - (intOf u).toNat)
       case atStart => exact ⟨0, _, by omega, rfl, by rw [HS0.out], hwr.out⟩
       case round =>
        clear hwr HS0
        obtain ⟨u, m, hu, rfl, rfl, hwr⟩ := hrel
        obtain ⟨V, rfl⟩ : ∃ x : World, x = wr := ⟨_, rfl⟩
        by_cases hlu : u < nB l
        ·have hlu' : (u : Int) < (nB l : Int) := by omega
         obtain ⟨gb, ob, na, nn, nc, rfl, cn5, hnn, hsn⟩ := HD.out.1.next hlu
         obtain ⟨⟨sa, sn, sc⟩, hs⟩ : ∃ s, rs[u]? = some s := ⟨_, List.getElem?_eq_getElem (by rw [HD.out.2.2.2.2.1]; exact hlu)⟩
         obtain ⟨g1, o1, rfl, -, hat1⟩ := HD.out.2.2.1.get hs
         have d1 := hat1.cell 0 _ rfl
         have e1 : o1 + u * tFF.n + 0 = o1 + u := by show o1 + u * 1 + 0 = _; omega
         rw [e1] at d1
         have c15 : w5.cell? ⟨g1, o1 + u, none⟩ = some (.slice sa sn sc) := d1
         have hrow := OwR.slz (HD.out.2.2.2.1.own u _ hs)
         obtain rfl : nn = sn := by
          have h1 : sn = (edR l u).length := SlX.len hrow
          rw [edR_len, ← hnn] at h1
          exact h1.symm
         have hn2 : nn ≤ 2 := by rw [hnn]; exact nxt_two l u
         have HNN := Lib.hid (And.intro hnn (And.intro hrow hsn))
         have HCl := Lib.hid (show ∀ m, (w5.drewN m).cell? ⟨gb, ob + u * 3 + 2, none⟩ = some (.slice na nn nc) ∧ (w5.drewN m).cell? ⟨g1, o1 + u, none⟩ = some (.slice sa nn sc) from fun m => ⟨cn5, c15⟩)
         obtain ⟨s0, hs0⟩ : ∃ s, s = lsum l b u := ⟨_, rfl⟩
         have HSu := Lib.hid (show lsum l b (u + 1) = (egU l u b nn).foldl (brS l (wts l (tT l) (-1)) (-1) b false) s0 by rw [lsum_succ, ← hnn, hs0])
         have hs0le : s0 ≤ inf := by rw [hs0]; exact lsum_le
         rw [← hs0]
         have hcl := HCl.out m
         rw [← hwr.out] at hcl
         obtain ⟨cn, c1⟩ := hcl
         have HW0 := Lib.hid (show ∀ n, ∃ k, V.drewN n = w5.drewN k from fun n => ⟨m + n, by rw [hwr.out, World.drewN_drewN]⟩)
         clear hs hat1 d1 e1 hwr hnn hrow hsn hs0 cn5 c15
         go_wp2_with fail
         go_quiet (fail)
         have HW1 := Lib.hid (HW0.out nq)
         clear cn c1 HW0
         generalize V.drewN nq = V1 at HW1 ⊢
         go_wp2
         go_loopw [13, 15] (fun t u' wr => ∃ (k s m : Nat), k ≤ nn ∧ u' = .int .i64 (k : Int) ∧ t = .float .f64 s ∧ s ≤ inf ∧ Hid (s = (egU l u b k).foldl (brS l (wts l (tT l) (-1)) (-1) b false) s0) ∧ Hid (wr = w5.drewN m)) (fun _ u' _ => nn - (intOf u').toNat)
         case atStart =>
          obtain ⟨m', hm'⟩ := HW1.out
          exact ⟨0, s0, m', by omega, rfl, rfl, hs0le, rfl, hm'⟩
         case round =>
          clear HW1
          obtain ⟨k, s, m', hk, rfl, rfl, hsl, hq, hwr⟩ := hrel
          obtain ⟨U, rfl⟩ : ∃ x : World, x = wr := ⟨_, rfl⟩
          have hcl := HCl.out m'
          rw [← hwr.out] at hcl
          obtain ⟨cn, c1⟩ := hcl
          by_cases hlk : k < nn
          ·have hlk' : (k : Int) < (nn : Int) := by omega
           obtain ⟨tg, htg⟩ : ∃ x, x = (nxt l u).getD k 0 := ⟨_, rfl⟩
           obtain ⟨gn, on, rfl, -, -, cxw⟩ := SlX.int HNN.out.2.2 (nI_at (show k < (nxt l u).length by rw [← HNN.out.1]; exact hlk))
           rw [← htg] at cxw
           have cx : U.cell? ⟨gn, on + k, none⟩ = some (.int .i64 (tg : Int)) := by rw [hwr.out]; exact cxw
           by_cases htb : tg = b
           ·have htb' : ((tg : Int) == (b : Int)) = true := by rw [htb]; simp
            obtain ⟨d, hd⟩ : ∃ d, d = dm l b u := ⟨_, rfl⟩
            have HDom := Lib.hid (show Calls Try.prog 12 #[.pointer (some ⟨p, 0, none⟩), .int .i64 (b : Int), .int .i64 (u : Int)] U fun e w' => e = .returned (.bool d) ∧ ∃ k, w' = U.drewN k by
             rw [hd]
             exact (HD.out.2.2.2.2.2.below (show Below w5.heap.size w5 U by rw [hwr.out]; exact bDrewN (bRefl w5) m')).dom _ _)
            have HEg := Lib.hid (show (egU l u b (k + 1)).foldl (brS l (wts l (tT l) (-1)) (-1) b false) s0 = if d = false then fadd s (edg l u k) else s by
             rw [egU, if_pos (htg.symm.trans htb), List.foldl_append, ← hq.out, List.foldl_cons, List.foldl_nil]
             cases d with
             | false => rw [if_pos rfl, edg_brS hd.symm]
             | true => rw [if_neg (by decide), edg_no hd.symm])
            have HWU := Lib.hid (show ∀ n, ∃ k, U.drewN n = w5.drewN k from fun n => ⟨m' + n, by rw [hwr.out, World.drewN_drewN]⟩)
            obtain ⟨y, hy⟩ : ∃ y, y = edg l u k := ⟨_, rfl⟩
            obtain ⟨ga, oa, rfl, -, -, c2w⟩ := SlX.flo HNN.out.2.1 (edR_at (k := k) (by rw [← HNN.out.1]; exact hlk))
            rw [← hy] at c2w
            have c2 : U.cell? ⟨ga, oa + k, none⟩ = some (.float .f64 y) := by rw [hwr.out]; exact c2w
            have hyle : y ≤ inf := by rw [hy]; exact fmul_le _ _
            have hop := hop_add (show Ieee.double.add s y = some (fadd s y) from add_nn hsl hyle)
            rw [← hy] at HEg
            clear hd hq hwr htg cxw c2w hy
            go_wp2_with fail
            refine HDom.out.mono ?_
            rintro e wD ⟨rfl, mD, hwD⟩
            have HWD := Lib.hid (show ∃ k, wD = w5.drewN k by rw [hwD]; exact HWU.out mD)
            have c1D : wD.cell? ⟨g1, o1 + u, none⟩ = some (.slice (some ⟨ga, oa, none⟩) nn sc) := by rw [hwD]; exact c1
            have c2D : wD.cell? ⟨ga, oa + k, none⟩ = some (.float .f64 y) := by rw [hwD]; exact c2
            clear hwD HDom HWU cn c1 c2 cx
            cases d with
            | true =>
             have HE := Lib.hid (show s = (egU l u b (k + 1)).foldl (brS l (wts l (tT l) (-1)) (-1) b false) s0 by rw [HEg.out, if_neg (by decide)])
             clear HEg c1D c2D
             go_wp2
             go_roundw
             all_goals first
              | (obtain ⟨mm, hm⟩ := HWD.out; exact ⟨k + 1, s, mm, by omega, by go_num, rfl, hsl, HE.out, hm⟩)
              | (simp [intOf] <;> omega)
            | false =>
             have HE := Lib.hid (show fadd s y = (egU l u b (k + 1)).foldl (brS l (wts l (tT l) (-1)) (-1) b false) s0 by rw [HEg.out, if_pos rfl])
             have hfl := fadd_le s y
             clear HEg
             go_wp2
             clear c1D c2D
             go_roundw
             all_goals first
              | (obtain ⟨mm, hm⟩ := HWD.out; exact ⟨k + 1, _, mm, by omega, by go_num, rfl, hfl, HE.out, hm⟩)
              | (simp [intOf] <;> omega)
           ·have htb' : ((tg : Int) == (b : Int)) = false := beq_eq_false_iff_ne.2 (by omega)
            have HE := Lib.hid (show s = (egU l u b (k + 1)).foldl (brS l (wts l (tT l) (-1)) (-1) b false) s0 by
             rw [egU, if_neg (fun e => htb (htg.trans e))]
             exact hq.out)
            clear hq htg cxw
            go_wp2
            go_roundw
            all_goals first
             | exact ⟨k + 1, s, m', by omega, by go_num, rfl, hsl, HE.out, hwr.out⟩
             | (simp [intOf] <;> omega)
          ·have hke : k = nn := by omega
           have hlk' : ¬ (k : Int) < (nn : Int) := by omega
           have HE := Lib.hid (show lsum l b (u + 1) = s by rw [HSu.out, hq.out, hke])
           clear hq hke
           go_wp2
           go_roundw
           all_goals first
            | exact ⟨u + 1, m', by omega, by go_num, by rw [HE.out], hwr.out⟩
            | (simp [intOf] <;> omega)
        ·as_aux_lemma =>
         have hue : u = nB l := by omega
         have hlu' : ¬ (u : Int) < (nB l : Int) := by omega
         subst hue
         obtain ⟨S, hS⟩ : ∃ s, s = lsum l b (nB l) := ⟨_, rfl⟩
         obtain ⟨x, hx⟩ : ∃ x, x = wts l (tT l) (-1) b := ⟨_, rfl⟩
         have hxle : x ≤ inf := by rw [hx]; exact wts_le b
         have hSle : S ≤ inf := by rw [hS]; exact lsum_le
         obtain ⟨gb, ob, na, nn, nc, rfl, cn5, hnn, hsn⟩ := HD.out.1.next hlt
         obtain ⟨⟨sa, sn, sc⟩, hs⟩ : ∃ s, rs[b]? = some s := ⟨_, List.getElem?_eq_getElem (by rw [HD.out.2.2.2.2.1]; exact hlt)⟩
         obtain ⟨g1, o1, rfl, -, hat1⟩ := HD.out.2.2.1.get hs
         have d1 := hat1.cell 0 _ rfl
         have e1 : o1 + b * tFF.n + 0 = o1 + b := by show o1 + b * 1 + 0 = _; omega
         rw [e1] at d1
         have c15 : w5.cell? ⟨g1, o1 + b, none⟩ = some (.slice sa sn sc) := d1
         have hrow := OwR.slz (HD.out.2.2.2.1.own b _ hs)
         obtain rfl : nn = sn := by
          have h1 : sn = (edR l b).length := SlX.len hrow
          rw [edR_len, ← hnn] at h1
          exact h1.symm
         have hn2 : nn ≤ 2 := by rw [hnn]; exact nxt_two l b
         obtain ⟨gw, ow, rfl, -, -, cw5⟩ := SlX.flo HD.out.2.1 (k := b) (x := x) (by rw [List.getElem?_map, List.getElem?_range hlt, hx]; rfl)
         have hws := wts_sum HG.out HDm.out hlt
         rw [← hx, ← hS] at hws
         have HOut := Lib.hid (show 0 < nn → outF l b nn ≤ fmul x k9 ∧ (k300 < x → fmul x k8 ≤ outF l b nn) from fun h0 => by rw [hx]; exact out_w hnn h0 hn2)
         have HRow := Lib.hid (And.intro hrow hnn)
         rw [← hS]
         have hcw : V.cell? ⟨gw, ow + b, none⟩ = some (.float .f64 x) := by rw [hwr.out]; exact cw5
         have HW0 := Lib.hid (show ∀ n, ∃ k, V.drewN n = w5.drewN k from fun n => ⟨m + n, by rw [hwr.out, World.drewN_drewN]⟩)
         have HC5 := Lib.hid (show ∀ k, (w5.drewN k).cell? ⟨g1, o1 + b, none⟩ = some (.slice sa nn sc) ∧ (w5.drewN k).cell? ⟨gw, ow + b, none⟩ = some (.float .f64 x) from fun k => ⟨c15, cw5⟩)
         have hne := ne_nn hxle hxle
         rw [decide_eq_true rfl, Bool.not_true] at hne
         have hl0 := lf_nn hxle (Nat.zero_le inf)
         rw [decide_eq_false (Nat.not_lt_zero x)] at hl0
         clear hS hx hs hat1 d1 e1 hrow hnn hsn cn5 c15 cw5 hwr hlu hu
         cases hf with
         | false =>
          have hxS : x = S := by
           rw [hws, if_neg]
           have := HHf.out
           intro h
           rw [decide_eq_true h] at this
           cases this
          subst hxS
          clear hws
          go_wp2_with fail
          go_quiet (fail)
          have HW1 := Lib.hid (HW0.out nq)
          clear hcw hne hl0 HW0
          generalize V.drewN nq = V1 at HW1 ⊢
          go_wp2
          go_loopw [16, 17] (fun t u' wr => ∃ (k m : Nat), k ≤ nn ∧ u' = .int .i64 (k : Int) ∧ t = .float .f64 (outF l b k) ∧ Hid (wr = w5.drewN m)) (fun _ u' _ => nn - (intOf u').toNat)
          case atStart =>
           obtain ⟨m', hm'⟩ := HW1.out
           exact ⟨0, m', by omega, rfl, rfl, hm'⟩
          case round =>
           clear HW1
           obtain ⟨k, m', hk, rfl, rfl, hwr⟩ := hrel
           obtain ⟨U, rfl⟩ : ∃ x : World, x = wr := ⟨_, rfl⟩
           have hcl := HC5.out m'
           rw [← hwr.out] at hcl
           obtain ⟨c1, c2⟩ := hcl
           by_cases hlk : k < nn
           ·have hlk' : (k : Int) < (nn : Int) := by omega
            obtain ⟨ga, oa, rfl, -, -, c3w⟩ := SlX.flo HRow.out.1 (edR_at (k := k) (by rw [← HRow.out.2]; exact hlk))
            obtain ⟨y, hy⟩ : ∃ y, y = edg l b k := ⟨_, rfl⟩
            rw [← hy] at c3w
            have c3 : U.cell? ⟨ga, oa + k, none⟩ = some (.float .f64 y) := by rw [hwr.out]; exact c3w
            have hyle : y ≤ inf := by rw [hy]; exact fmul_le _ _
            obtain ⟨s, hs⟩ : ∃ s, s = outF l b k := ⟨_, rfl⟩
            have hsl : s ≤ inf := by rw [hs]; exact outF_le
            have hop := hop_add (show Ieee.double.add s y = some (fadd s y) from add_nn hsl hyle)
            have HE := Lib.hid (show outF l b (k + 1) = fadd s y by rw [hs, hy]; rfl)
            rw [← hs]
            clear hy hs c3w
            go_wp2
            go_roundw
            all_goals first
             | exact ⟨k + 1, m', by omega, by go_num, by rw [HE.out], hwr.out⟩
             | (simp [intOf] <;> omega)
           ·have hke : k = nn := by omega
            have hlk' : ¬ (k : Int) < (nn : Int) := by omega
            subst hke
            by_cases h0 : k = 0
            ·subst h0
             go_wp2
             go_roundw
             all_goals first
              | exact ⟨b + 1, m', by omega, by go_num, hwr.out⟩
              | ((repeat apply Exists.intro); exact ⟨⟨b + 1, m', by omega, by go_num, hwr.out⟩, rfl⟩)
              | (show nB l - (intOf (.int .i64 ((b : Int) + 1))).toNat < nB l - (intOf (.int .i64 (b : Int))).toNat; simp [intOf]; omega)
            ·have hk0 : (0 : Int) < (k : Int) := by omega
             obtain ⟨t1, t2⟩ := HOut.out (by omega)
             obtain ⟨o, ho⟩ : ∃ o, o = outF l b k := ⟨_, rfl⟩
             rw [← ho] at t1 t2 ⊢
             have hole : o ≤ inf := by rw [ho]; exact outF_le
             obtain ⟨z9, hz9⟩ : ∃ z, z = fmul x k9 := ⟨_, rfl⟩
             obtain ⟨z8, hz8⟩ : ∃ z, z = fmul x k8 := ⟨_, rfl⟩
             have hop9 := hop_mul (show Ieee.double.mul x k9 = some z9 by rw [hz9]; exact mul_nn hxle (by decide) (by decide))
             have hop8 := hop_mul (show Ieee.double.mul x k8 = some z8 by rw [hz8]; exact mul_nn hxle (by decide) (by decide))
             rw [show k9 = 4607182418804521008 from rfl] at hop9
             rw [show k8 = 4607182418791010209 from rfl] at hop8
             rw [← hz9] at t1
             rw [← hz8] at t2
             have hgt9 := gf_nn hole (show z9 ≤ inf by rw [hz9]; exact fmul_le _ _)
             have hlt8 := lf_nn hole (show z8 ≤ inf by rw [hz8]; exact fmul_le _ _)
             have hg3 := gf_nn hxle (show k300 ≤ inf by decide)
             rw [decide_eq_false (Nat.not_lt.2 t1)] at hgt9
             rw [show k300 = 118622047889322841 from rfl] at hg3 t2
             clear ho hz9 hz8 t1
             by_cases hk3 : 118622047889322841 < x
             ·rw [decide_eq_false (Nat.not_lt.2 (t2 hk3))] at hlt8
              clear t2 hg3 hk3
              go_wp2
              go_roundw
              all_goals first
               | exact ⟨b + 1, m', by omega, by go_num, hwr.out⟩
               | ((repeat apply Exists.intro); exact ⟨⟨b + 1, m', by omega, by go_num, hwr.out⟩, rfl⟩)
               | (show nB l - (intOf (.int .i64 ((b : Int) + 1))).toNat < nB l - (intOf (.int .i64 (b : Int))).toNat; simp [intOf]; omega)
             ·rw [decide_eq_false hk3] at hg3
              generalize decide (o < z8) = r at hlt8
              clear t2 hk3
              cases r
              ·go_wp2
               go_roundw
               all_goals first
                | exact ⟨b + 1, m', by omega, by go_num, hwr.out⟩
                | ((repeat apply Exists.intro); exact ⟨⟨b + 1, m', by omega, by go_num, hwr.out⟩, rfl⟩)
                | (show nB l - (intOf (.int .i64 ((b : Int) + 1))).toNat < nB l - (intOf (.int .i64 (b : Int))).toNat; simp [intOf]; omega)
              ·go_wp2
               go_roundw
               all_goals first
                | exact ⟨b + 1, m', by omega, by go_num, hwr.out⟩
                | ((repeat apply Exists.intro); exact ⟨⟨b + 1, m', by omega, by go_num, hwr.out⟩, rfl⟩)
                | (show nB l - (intOf (.int .i64 ((b : Int) + 1))).toNat < nB l - (intOf (.int .i64 (b : Int))).toNat; simp [intOf]; omega)
         | true =>
          have hh : 0 ≤ hdd l b (nL l) := of_decide_eq_true HHf.out.symm
          rw [if_pos hh] at hws
          have hge : S ≤ x := by rw [hws]; exact le_fmul hSle tT_in.1 (Nat.le_trans tT_in.2 (by decide))
          have hle32 : x ≤ fmul S f32 := by rw [hws]; exact fmul_mono tT_in.2 (by decide)
          obtain ⟨z32, hz32⟩ : ∃ z, z = fmul S f32 := ⟨_, rfl⟩
          have hop32 := hop_mul (show Ieee.double.mul f32 S = some z32 by rw [hz32]; exact mul_nn' (by decide) (by decide) hSle)
          rw [show f32 = 4629700416936869888 from rfl] at hop32
          rw [← hz32] at hle32
          have hz32le : z32 ≤ inf := by rw [hz32]; exact fmul_le _ _
          have hltS := lf_nn hxle hSle
          rw [decide_eq_false (by omega : ¬ x < S)] at hltS
          have hgt32 := gf_nn hxle hz32le
          rw [decide_eq_false (by omega : ¬ z32 < x)] at hgt32
          clear hws hh hz32 hge hle32 hz32le
          go_wp2_with fail
          go_quiet (fail)
          have HW1 := Lib.hid (HW0.out nq)
          clear hcw hne hl0 HW0
          generalize V.drewN nq = V1 at HW1 ⊢
          go_wp2
          go_loopw [16, 17] (fun t u' wr => ∃ (k m : Nat), k ≤ nn ∧ u' = .int .i64 (k : Int) ∧ t = .float .f64 (outF l b k) ∧ Hid (wr = w5.drewN m)) (fun _ u' _ => nn - (intOf u').toNat)
          case atStart =>
           obtain ⟨m', hm'⟩ := HW1.out
           exact ⟨0, m', by omega, rfl, rfl, hm'⟩
          case round =>
           clear HW1
           obtain ⟨k, m', hk, rfl, rfl, hwr⟩ := hrel
           obtain ⟨U, rfl⟩ : ∃ x : World, x = wr := ⟨_, rfl⟩
           have hcl := HC5.out m'
           rw [← hwr.out] at hcl
           obtain ⟨c1, c2⟩ := hcl
           by_cases hlk : k < nn
           ·have hlk' : (k : Int) < (nn : Int) := by omega
            obtain ⟨ga, oa, rfl, -, -, c3w⟩ := SlX.flo HRow.out.1 (edR_at (k := k) (by rw [← HRow.out.2]; exact hlk))
            obtain ⟨y, hy⟩ : ∃ y, y = edg l b k := ⟨_, rfl⟩
            rw [← hy] at c3w
            have c3 : U.cell? ⟨ga, oa + k, none⟩ = some (.float .f64 y) := by rw [hwr.out]; exact c3w
            have hyle : y ≤ inf := by rw [hy]; exact fmul_le _ _
            obtain ⟨s, hs⟩ : ∃ s, s = outF l b k := ⟨_, rfl⟩
            have hsl : s ≤ inf := by rw [hs]; exact outF_le
            have hop := hop_add (show Ieee.double.add s y = some (fadd s y) from add_nn hsl hyle)
            have HE := Lib.hid (show outF l b (k + 1) = fadd s y by rw [hs, hy]; rfl)
            rw [← hs]
            clear hy hs c3w
            go_wp2
            go_roundw
            all_goals first
             | exact ⟨k + 1, m', by omega, by go_num, by rw [HE.out], hwr.out⟩
             | (simp [intOf] <;> omega)
           ·have hke : k = nn := by omega
            have hlk' : ¬ (k : Int) < (nn : Int) := by omega
            subst hke
            by_cases h0 : k = 0
            ·subst h0
             go_wp2
             go_roundw
             all_goals first
              | exact ⟨b + 1, m', by omega, by go_num, hwr.out⟩
              | ((repeat apply Exists.intro); exact ⟨⟨b + 1, m', by omega, by go_num, hwr.out⟩, rfl⟩)
              | (show nB l - (intOf (.int .i64 ((b : Int) + 1))).toNat < nB l - (intOf (.int .i64 (b : Int))).toNat; simp [intOf]; omega)
            ·have hk0 : (0 : Int) < (k : Int) := by omega
             obtain ⟨t1, t2⟩ := HOut.out (by omega)
             obtain ⟨o, ho⟩ : ∃ o, o = outF l b k := ⟨_, rfl⟩
             rw [← ho] at t1 t2 ⊢
             have hole : o ≤ inf := by rw [ho]; exact outF_le
             obtain ⟨z9, hz9⟩ : ∃ z, z = fmul x k9 := ⟨_, rfl⟩
             obtain ⟨z8, hz8⟩ : ∃ z, z = fmul x k8 := ⟨_, rfl⟩
             have hop9 := hop_mul (show Ieee.double.mul x k9 = some z9 by rw [hz9]; exact mul_nn hxle (by decide) (by decide))
             have hop8 := hop_mul (show Ieee.double.mul x k8 = some z8 by rw [hz8]; exact mul_nn hxle (by decide) (by decide))
             rw [show k9 = 4607182418804521008 from rfl] at hop9
             rw [show k8 = 4607182418791010209 from rfl] at hop8
             rw [← hz9] at t1
             rw [← hz8] at t2
             have hgt9 := gf_nn hole (show z9 ≤ inf by rw [hz9]; exact fmul_le _ _)
             have hlt8 := lf_nn hole (show z8 ≤ inf by rw [hz8]; exact fmul_le _ _)
             have hg3 := gf_nn hxle (show k300 ≤ inf by decide)
             rw [decide_eq_false (Nat.not_lt.2 t1)] at hgt9
             rw [show k300 = 118622047889322841 from rfl] at hg3 t2
             clear ho hz9 hz8 t1
             by_cases hk3 : 118622047889322841 < x
             ·rw [decide_eq_false (Nat.not_lt.2 (t2 hk3))] at hlt8
              clear t2 hg3 hk3
              go_wp2
              go_roundw
              all_goals first
               | exact ⟨b + 1, m', by omega, by go_num, hwr.out⟩
               | ((repeat apply Exists.intro); exact ⟨⟨b + 1, m', by omega, by go_num, hwr.out⟩, rfl⟩)
               | (show nB l - (intOf (.int .i64 ((b : Int) + 1))).toNat < nB l - (intOf (.int .i64 (b : Int))).toNat; simp [intOf]; omega)
             ·rw [decide_eq_false hk3] at hg3
              generalize decide (o < z8) = r at hlt8
              clear t2 hk3
              cases r
              ·go_wp2
               go_roundw
               all_goals first
                | exact ⟨b + 1, m', by omega, by go_num, hwr.out⟩
                | ((repeat apply Exists.intro); exact ⟨⟨b + 1, m', by omega, by go_num, hwr.out⟩, rfl⟩)
                | (show nB l - (intOf (.int .i64 ((b : Int) + 1))).toNat < nB l - (intOf (.int .i64 (b : Int))).toNat; simp [intOf]; omega)
              ·go_wp2
               go_roundw
               all_goals first
                | exact ⟨b + 1, m', by omega, by go_num, hwr.out⟩
                | ((repeat apply Exists.intro); exact ⟨⟨b + 1, m', by omega, by go_num, hwr.out⟩, rfl⟩)
                | (show nB l - (intOf (.int .i64 ((b : Int) + 1))).toNat < nB l - (intOf (.int .i64 (b : Int))).toNat; simp [intOf]; omega)
      ·have hb0' : ((b : Int) == 0) = false := beq_eq_false_iff_ne.2 (by omega)
       have HS0 := Lib.hid (show lsum l b 0 = 0 by unfold lsum ins0; rw [if_neg hb0]; rfl)
       clear hb0
       go_upto_region 21 with (fail)
       as_aux_lemma =>
       go_wp2
       go_loopw [13, 14] (fun t u wr => ∃ (i m : Nat), i ≤ nB l ∧ u = .int .i64 (i : Int) ∧ t = .float .f64 (lsum l b i) ∧ Hid (wr = w5.drewN m)) (fun _ u _ => nB l - (intOf u).toNat)
       case atStart => exact ⟨0, _, by omega, rfl, by rw [HS0.out], hwr.out⟩
       case round =>
        clear hwr HS0
        obtain ⟨u, m, hu, rfl, rfl, hwr⟩ := hrel
        obtain ⟨V, rfl⟩ : ∃ x : World, x = wr := ⟨_, rfl⟩
        by_cases hlu : u < nB l
        ·have hlu' : (u : Int) < (nB l : Int) := by omega
         obtain ⟨gb, ob, na, nn, nc, rfl, cn5, hnn, hsn⟩ := HD.out.1.next hlu
         obtain ⟨⟨sa, sn, sc⟩, hs⟩ : ∃ s, rs[u]? = some s := ⟨_, List.getElem?_eq_getElem (by rw [HD.out.2.2.2.2.1]; exact hlu)⟩
         obtain ⟨g1, o1, rfl, -, hat1⟩ := HD.out.2.2.1.get hs
         have d1 := hat1.cell 0 _ rfl
         have e1 : o1 + u * tFF.n + 0 = o1 + u := by show o1 + u * 1 + 0 = _; omega
         rw [e1] at d1
         have c15 : w5.cell? ⟨g1, o1 + u, none⟩ = some (.slice sa sn sc) := d1
         have hrow := OwR.slz (HD.out.2.2.2.1.own u _ hs)
         obtain rfl : nn = sn := by
          have h1 : sn = (edR l u).length := SlX.len hrow
          rw [edR_len, ← hnn] at h1
          exact h1.symm
         have hn2 : nn ≤ 2 := by rw [hnn]; exact nxt_two l u
         have HNN := Lib.hid (And.intro hnn (And.intro hrow hsn))
         have HCl := Lib.hid (show ∀ m, (w5.drewN m).cell? ⟨gb, ob + u * 3 + 2, none⟩ = some (.slice na nn nc) ∧ (w5.drewN m).cell? ⟨g1, o1 + u, none⟩ = some (.slice sa nn sc) from fun m => ⟨cn5, c15⟩)
         obtain ⟨s0, hs0⟩ : ∃ s, s = lsum l b u := ⟨_, rfl⟩
         have HSu := Lib.hid (show lsum l b (u + 1) = (egU l u b nn).foldl (brS l (wts l (tT l) (-1)) (-1) b false) s0 by rw [lsum_succ, ← hnn, hs0])
         have hs0le : s0 ≤ inf := by rw [hs0]; exact lsum_le
         rw [← hs0]
         have hcl := HCl.out m
         rw [← hwr.out] at hcl
         obtain ⟨cn, c1⟩ := hcl
         have HW0 := Lib.hid (show ∀ n, ∃ k, V.drewN n = w5.drewN k from fun n => ⟨m + n, by rw [hwr.out, World.drewN_drewN]⟩)
         clear hs hat1 d1 e1 hwr hnn hrow hsn hs0 cn5 c15
         go_wp2_with fail
         go_quiet (fail)
         have HW1 := Lib.hid (HW0.out nq)
         clear cn c1 HW0
         generalize V.drewN nq = V1 at HW1 ⊢
         go_wp2
         go_loopw [13, 15] (fun t u' wr => ∃ (k s m : Nat), k ≤ nn ∧ u' = .int .i64 (k : Int) ∧ t = .float .f64 s ∧ s ≤ inf ∧ Hid (s = (egU l u b k).foldl (brS l (wts l (tT l) (-1)) (-1) b false) s0) ∧ Hid (wr = w5.drewN m)) (fun _ u' _ => nn - (intOf u').toNat)
         case atStart =>
          obtain ⟨m', hm'⟩ := HW1.out
          exact ⟨0, s0, m', by omega, rfl, rfl, hs0le, rfl, hm'⟩
         case round =>
          clear HW1
          obtain ⟨k, s, m', hk, rfl, rfl, hsl, hq, hwr⟩ := hrel
          obtain ⟨U, rfl⟩ : ∃ x : World, x = wr := ⟨_, rfl⟩
          have hcl := HCl.out m'
          rw [← hwr.out] at hcl
          obtain ⟨cn, c1⟩ := hcl
          by_cases hlk : k < nn
          ·have hlk' : (k : Int) < (nn : Int) := by omega
           obtain ⟨tg, htg⟩ : ∃ x, x = (nxt l u).getD k 0 := ⟨_, rfl⟩
           obtain ⟨gn, on, rfl, -, -, cxw⟩ := SlX.int HNN.out.2.2 (nI_at (show k < (nxt l u).length by rw [← HNN.out.1]; exact hlk))
           rw [← htg] at cxw
           have cx : U.cell? ⟨gn, on + k, none⟩ = some (.int .i64 (tg : Int)) := by rw [hwr.out]; exact cxw
           by_cases htb : tg = b
           ·have htb' : ((tg : Int) == (b : Int)) = true := by rw [htb]; simp
            obtain ⟨d, hd⟩ : ∃ d, d = dm l b u := ⟨_, rfl⟩
            have HDom := Lib.hid (show Calls Try.prog 12 #[.pointer (some ⟨p, 0, none⟩), .int .i64 (b : Int), .int .i64 (u : Int)] U fun e w' => e = .returned (.bool d) ∧ ∃ k, w' = U.drewN k by
             rw [hd]
             exact (HD.out.2.2.2.2.2.below (show Below w5.heap.size w5 U by rw [hwr.out]; exact bDrewN (bRefl w5) m')).dom _ _)
            have HEg := Lib.hid (show (egU l u b (k + 1)).foldl (brS l (wts l (tT l) (-1)) (-1) b false) s0 = if d = false then fadd s (edg l u k) else s by
             rw [egU, if_pos (htg.symm.trans htb), List.foldl_append, ← hq.out, List.foldl_cons, List.foldl_nil]
             cases d with
             | false => rw [if_pos rfl, edg_brS hd.symm]
             | true => rw [if_neg (by decide), edg_no hd.symm])
            have HWU := Lib.hid (show ∀ n, ∃ k, U.drewN n = w5.drewN k from fun n => ⟨m' + n, by rw [hwr.out, World.drewN_drewN]⟩)
            obtain ⟨y, hy⟩ : ∃ y, y = edg l u k := ⟨_, rfl⟩
            obtain ⟨ga, oa, rfl, -, -, c2w⟩ := SlX.flo HNN.out.2.1 (edR_at (k := k) (by rw [← HNN.out.1]; exact hlk))
            rw [← hy] at c2w
            have c2 : U.cell? ⟨ga, oa + k, none⟩ = some (.float .f64 y) := by rw [hwr.out]; exact c2w
            have hyle : y ≤ inf := by rw [hy]; exact fmul_le _ _
            have hop := hop_add (show Ieee.double.add s y = some (fadd s y) from add_nn hsl hyle)
            rw [← hy] at HEg
            clear hd hq hwr htg cxw c2w hy
            go_wp2_with fail
            refine HDom.out.mono ?_
            rintro e wD ⟨rfl, mD, hwD⟩
            have HWD := Lib.hid (show ∃ k, wD = w5.drewN k by rw [hwD]; exact HWU.out mD)
            have c1D : wD.cell? ⟨g1, o1 + u, none⟩ = some (.slice (some ⟨ga, oa, none⟩) nn sc) := by rw [hwD]; exact c1
            have c2D : wD.cell? ⟨ga, oa + k, none⟩ = some (.float .f64 y) := by rw [hwD]; exact c2
            clear hwD HDom HWU cn c1 c2 cx
            cases d with
            | true =>
             have HE := Lib.hid (show s = (egU l u b (k + 1)).foldl (brS l (wts l (tT l) (-1)) (-1) b false) s0 by rw [HEg.out, if_neg (by decide)])
             clear HEg c1D c2D
             go_wp2
             go_roundw
             all_goals first
              | (obtain ⟨mm, hm⟩ := HWD.out; exact ⟨k + 1, s, mm, by omega, by go_num, rfl, hsl, HE.out, hm⟩)
              | (simp [intOf] <;> omega)
            | false =>
             have HE := Lib.hid (show fadd s y = (egU l u b (k + 1)).foldl (brS l (wts l (tT l) (-1)) (-1) b false) s0 by rw [HEg.out, if_pos rfl])
             have hfl := fadd_le s y
             clear HEg
             go_wp2
             clear c1D c2D
             go_roundw
             all_goals first
              | (obtain ⟨mm, hm⟩ := HWD.out; exact ⟨k + 1, _, mm, by omega, by go_num, rfl, hfl, HE.out, hm⟩)
              | (simp [intOf] <;> omega)
           ·have htb' : ((tg : Int) == (b : Int)) = false := beq_eq_false_iff_ne.2 (by omega)
            have HE := Lib.hid (show s = (egU l u b (k + 1)).foldl (brS l (wts l (tT l) (-1)) (-1) b false) s0 by
             rw [egU, if_neg (fun e => htb (htg.trans e))]
             exact hq.out)
            clear hq htg cxw
            go_wp2
            go_roundw
            all_goals first
             | exact ⟨k + 1, s, m', by omega, by go_num, rfl, hsl, HE.out, hwr.out⟩
             | (simp [intOf] <;> omega)
          ·have hke : k = nn := by omega
           have hlk' : ¬ (k : Int) < (nn : Int) := by omega
           have HE := Lib.hid (show lsum l b (u + 1) = s by rw [HSu.out, hq.out, hke])
           clear hq hke
           go_wp2
           go_roundw
           all_goals first
            | exact ⟨u + 1, m', by omega, by go_num, by rw [HE.out], hwr.out⟩
            | (simp [intOf] <;> omega)
        ·as_aux_lemma =>
         have hue : u = nB l := by omega
         have hlu' : ¬ (u : Int) < (nB l : Int) := by omega
         subst hue
         obtain ⟨S, hS⟩ : ∃ s, s = lsum l b (nB l) := ⟨_, rfl⟩
         obtain ⟨x, hx⟩ : ∃ x, x = wts l (tT l) (-1) b := ⟨_, rfl⟩
         have hxle : x ≤ inf := by rw [hx]; exact wts_le b
         have hSle : S ≤ inf := by rw [hS]; exact lsum_le
         obtain ⟨gb, ob, na, nn, nc, rfl, cn5, hnn, hsn⟩ := HD.out.1.next hlt
         obtain ⟨⟨sa, sn, sc⟩, hs⟩ : ∃ s, rs[b]? = some s := ⟨_, List.getElem?_eq_getElem (by rw [HD.out.2.2.2.2.1]; exact hlt)⟩
         obtain ⟨g1, o1, rfl, -, hat1⟩ := HD.out.2.2.1.get hs
         have d1 := hat1.cell 0 _ rfl
         have e1 : o1 + b * tFF.n + 0 = o1 + b := by show o1 + b * 1 + 0 = _; omega
         rw [e1] at d1
         have c15 : w5.cell? ⟨g1, o1 + b, none⟩ = some (.slice sa sn sc) := d1
         have hrow := OwR.slz (HD.out.2.2.2.1.own b _ hs)
         obtain rfl : nn = sn := by
          have h1 : sn = (edR l b).length := SlX.len hrow
          rw [edR_len, ← hnn] at h1
          exact h1.symm
         have hn2 : nn ≤ 2 := by rw [hnn]; exact nxt_two l b
         obtain ⟨gw, ow, rfl, -, -, cw5⟩ := SlX.flo HD.out.2.1 (k := b) (x := x) (by rw [List.getElem?_map, List.getElem?_range hlt, hx]; rfl)
         have hws := wts_sum HG.out HDm.out hlt
         rw [← hx, ← hS] at hws
         have HOut := Lib.hid (show 0 < nn → outF l b nn ≤ fmul x k9 ∧ (k300 < x → fmul x k8 ≤ outF l b nn) from fun h0 => by rw [hx]; exact out_w hnn h0 hn2)
         have HRow := Lib.hid (And.intro hrow hnn)
         rw [← hS]
         have hcw : V.cell? ⟨gw, ow + b, none⟩ = some (.float .f64 x) := by rw [hwr.out]; exact cw5
         have HW0 := Lib.hid (show ∀ n, ∃ k, V.drewN n = w5.drewN k from fun n => ⟨m + n, by rw [hwr.out, World.drewN_drewN]⟩)
         have HC5 := Lib.hid (show ∀ k, (w5.drewN k).cell? ⟨g1, o1 + b, none⟩ = some (.slice sa nn sc) ∧ (w5.drewN k).cell? ⟨gw, ow + b, none⟩ = some (.float .f64 x) from fun k => ⟨c15, cw5⟩)
         have hne := ne_nn hxle hxle
         rw [decide_eq_true rfl, Bool.not_true] at hne
         have hl0 := lf_nn hxle (Nat.zero_le inf)
         rw [decide_eq_false (Nat.not_lt_zero x)] at hl0
         clear hS hx hs hat1 d1 e1 hrow hnn hsn cn5 c15 cw5 hwr hlu hu
         cases hf with
         | false =>
          have hxS : x = S := by
           rw [hws, if_neg]
           have := HHf.out
           intro h
           rw [decide_eq_true h] at this
           cases this
          subst hxS
          clear hws
          go_wp2_with fail
          go_quiet (fail)
          have HW1 := Lib.hid (HW0.out nq)
          clear hcw hne hl0 HW0
          generalize V.drewN nq = V1 at HW1 ⊢
          go_wp2
          go_loopw [16, 17] (fun t u' wr => ∃ (k m : Nat), k ≤ nn ∧ u' = .int .i64 (k : Int) ∧ t = .float .f64 (outF l b k) ∧ Hid (wr = w5.drewN m)) (fun _ u' _ => nn - (intOf u').toNat)
          case atStart =>
           obtain ⟨m', hm'⟩ := HW1.out
           exact ⟨0, m', by omega, rfl, rfl, hm'⟩
          case round =>
           clear HW1
           obtain ⟨k, m', hk, rfl, rfl, hwr⟩ := hrel
           obtain ⟨U, rfl⟩ : ∃ x : World, x = wr := ⟨_, rfl⟩
           have hcl := HC5.out m'
           rw [← hwr.out] at hcl
           obtain ⟨c1, c2⟩ := hcl
           by_cases hlk : k < nn
           ·have hlk' : (k : Int) < (nn : Int) := by omega
            obtain ⟨ga, oa, rfl, -, -, c3w⟩ := SlX.flo HRow.out.1 (edR_at (k := k) (by rw [← HRow.out.2]; exact hlk))
            obtain ⟨y, hy⟩ : ∃ y, y = edg l b k := ⟨_, rfl⟩
            rw [← hy] at c3w
            have c3 : U.cell? ⟨ga, oa + k, none⟩ = some (.float .f64 y) := by rw [hwr.out]; exact c3w
            have hyle : y ≤ inf := by rw [hy]; exact fmul_le _ _
            obtain ⟨s, hs⟩ : ∃ s, s = outF l b k := ⟨_, rfl⟩
            have hsl : s ≤ inf := by rw [hs]; exact outF_le
            have hop := hop_add (show Ieee.double.add s y = some (fadd s y) from add_nn hsl hyle)
            have HE := Lib.hid (show outF l b (k + 1) = fadd s y by rw [hs, hy]; rfl)
            rw [← hs]
            clear hy hs c3w
            go_wp2
            go_roundw
            all_goals first
             | exact ⟨k + 1, m', by omega, by go_num, by rw [HE.out], hwr.out⟩
             | (simp [intOf] <;> omega)
           ·have hke : k = nn := by omega
            have hlk' : ¬ (k : Int) < (nn : Int) := by omega
            subst hke
            by_cases h0 : k = 0
            ·subst h0
             go_wp2
             go_roundw
             all_goals first
              | exact ⟨b + 1, m', by omega, by go_num, hwr.out⟩
              | ((repeat apply Exists.intro); exact ⟨⟨b + 1, m', by omega, by go_num, hwr.out⟩, rfl⟩)
              | (show nB l - (intOf (.int .i64 ((b : Int) + 1))).toNat < nB l - (intOf (.int .i64 (b : Int))).toNat; simp [intOf]; omega)
            ·have hk0 : (0 : Int) < (k : Int) := by omega
             obtain ⟨t1, t2⟩ := HOut.out (by omega)
             obtain ⟨o, ho⟩ : ∃ o, o = outF l b k := ⟨_, rfl⟩
             rw [← ho] at t1 t2 ⊢
             have hole : o ≤ inf := by rw [ho]; exact outF_le
             obtain ⟨z9, hz9⟩ : ∃ z, z = fmul x k9 := ⟨_, rfl⟩
             obtain ⟨z8, hz8⟩ : ∃ z, z = fmul x k8 := ⟨_, rfl⟩
             have hop9 := hop_mul (show Ieee.double.mul x k9 = some z9 by rw [hz9]; exact mul_nn hxle (by decide) (by decide))
             have hop8 := hop_mul (show Ieee.double.mul x k8 = some z8 by rw [hz8]; exact mul_nn hxle (by decide) (by decide))
             rw [show k9 = 4607182418804521008 from rfl] at hop9
             rw [show k8 = 4607182418791010209 from rfl] at hop8
             rw [← hz9] at t1
             rw [← hz8] at t2
             have hgt9 := gf_nn hole (show z9 ≤ inf by rw [hz9]; exact fmul_le _ _)
             have hlt8 := lf_nn hole (show z8 ≤ inf by rw [hz8]; exact fmul_le _ _)
             have hg3 := gf_nn hxle (show k300 ≤ inf by decide)
             rw [decide_eq_false (Nat.not_lt.2 t1)] at hgt9
             rw [show k300 = 118622047889322841 from rfl] at hg3 t2
             clear ho hz9 hz8 t1
             by_cases hk3 : 118622047889322841 < x
             ·rw [decide_eq_false (Nat.not_lt.2 (t2 hk3))] at hlt8
              clear t2 hg3 hk3
              go_wp2
              go_roundw
              all_goals first
               | exact ⟨b + 1, m', by omega, by go_num, hwr.out⟩
               | ((repeat apply Exists.intro); exact ⟨⟨b + 1, m', by omega, by go_num, hwr.out⟩, rfl⟩)
               | (show nB l - (intOf (.int .i64 ((b : Int) + 1))).toNat < nB l - (intOf (.int .i64 (b : Int))).toNat; simp [intOf]; omega)
             ·rw [decide_eq_false hk3] at hg3
              generalize decide (o < z8) = r at hlt8
              clear t2 hk3
              cases r
              ·go_wp2
               go_roundw
               all_goals first
                | exact ⟨b + 1, m', by omega, by go_num, hwr.out⟩
                | ((repeat apply Exists.intro); exact ⟨⟨b + 1, m', by omega, by go_num, hwr.out⟩, rfl⟩)
                | (show nB l - (intOf (.int .i64 ((b : Int) + 1))).toNat < nB l - (intOf (.int .i64 (b : Int))).toNat; simp [intOf]; omega)
              ·go_wp2
               go_roundw
               all_goals first
                | exact ⟨b + 1, m', by omega, by go_num, hwr.out⟩
                | ((repeat apply Exists.intro); exact ⟨⟨b + 1, m', by omega, by go_num, hwr.out⟩, rfl⟩)
                | (show nB l - (intOf (.int .i64 ((b : Int) + 1))).toNat < nB l - (intOf (.int .i64 (b : Int))).toNat; simp [intOf]; omega)
         | true =>
          have hh : 0 ≤ hdd l b (nL l) := of_decide_eq_true HHf.out.symm
          rw [if_pos hh] at hws
          have hge : S ≤ x := by rw [hws]; exact le_fmul hSle tT_in.1 (Nat.le_trans tT_in.2 (by decide))
          have hle32 : x ≤ fmul S f32 := by rw [hws]; exact fmul_mono tT_in.2 (by decide)
          obtain ⟨z32, hz32⟩ : ∃ z, z = fmul S f32 := ⟨_, rfl⟩
          have hop32 := hop_mul (show Ieee.double.mul f32 S = some z32 by rw [hz32]; exact mul_nn' (by decide) (by decide) hSle)
          rw [show f32 = 4629700416936869888 from rfl] at hop32
          rw [← hz32] at hle32
          have hz32le : z32 ≤ inf := by rw [hz32]; exact fmul_le _ _
          have hltS := lf_nn hxle hSle
          rw [decide_eq_false (by omega : ¬ x < S)] at hltS
          have hgt32 := gf_nn hxle hz32le
          rw [decide_eq_false (by omega : ¬ z32 < x)] at hgt32
          clear hws hh hz32 hge hle32 hz32le
          go_wp2_with fail
          go_quiet (fail)
          have HW1 := Lib.hid (HW0.out nq)
          clear hcw hne hl0 HW0
          generalize V.drewN nq = V1 at HW1 ⊢
          go_wp2
          go_loopw [16, 17] (fun t u' wr => ∃ (k m : Nat), k ≤ nn ∧ u' = .int .i64 (k : Int) ∧ t = .float .f64 (outF l b k) ∧ Hid (wr = w5.drewN m)) (fun _ u' _ => nn - (intOf u').toNat)
          case atStart =>
           obtain ⟨m', hm'⟩ := HW1.out
           exact ⟨0, m', by omega, rfl, rfl, hm'⟩
          case round =>
           clear HW1
           obtain ⟨k, m', hk, rfl, rfl, hwr⟩ := hrel
           obtain ⟨U, rfl⟩ : ∃ x : World, x = wr := ⟨_, rfl⟩
           have hcl := HC5.out m'
           rw [← hwr.out] at hcl
           obtain ⟨c1, c2⟩ := hcl
           by_cases hlk : k < nn
           ·have hlk' : (k : Int) < (nn : Int) := by omega
            obtain ⟨ga, oa, rfl, -, -, c3w⟩ := SlX.flo HRow.out.1 (edR_at (k := k) (by rw [← HRow.out.2]; exact hlk))
            obtain ⟨y, hy⟩ : ∃ y, y = edg l b k := ⟨_, rfl⟩
            rw [← hy] at c3w
            have c3 : U.cell? ⟨ga, oa + k, none⟩ = some (.float .f64 y) := by rw [hwr.out]; exact c3w
            have hyle : y ≤ inf := by rw [hy]; exact fmul_le _ _
            obtain ⟨s, hs⟩ : ∃ s, s = outF l b k := ⟨_, rfl⟩
            have hsl : s ≤ inf := by rw [hs]; exact outF_le
            have hop := hop_add (show Ieee.double.add s y = some (fadd s y) from add_nn hsl hyle)
            have HE := Lib.hid (show outF l b (k + 1) = fadd s y by rw [hs, hy]; rfl)
            rw [← hs]
            clear hy hs c3w
            go_wp2
            go_roundw
            all_goals first
             | exact ⟨k + 1, m', by omega, by go_num, by rw [HE.out], hwr.out⟩
             | (simp [intOf] <;> omega)
           ·have hke : k = nn := by omega
            have hlk' : ¬ (k : Int) < (nn : Int) := by omega
            subst hke
            by_cases h0 : k = 0
            ·subst h0
             go_wp2
             go_roundw
             all_goals first
              | exact ⟨b + 1, m', by omega, by go_num, hwr.out⟩
              | ((repeat apply Exists.intro); exact ⟨⟨b + 1, m', by omega, by go_num, hwr.out⟩, rfl⟩)
              | (show nB l - (intOf (.int .i64 ((b : Int) + 1))).toNat < nB l - (intOf (.int .i64 (b : Int))).toNat; simp [intOf]; omega)
            ·have hk0 : (0 : Int) < (k : Int) := by omega
             obtain ⟨t1, t2⟩ := HOut.out (by omega)
             obtain ⟨o, ho⟩ : ∃ o, o = outF l b k := ⟨_, rfl⟩
             rw [← ho] at t1 t2 ⊢
             have hole : o ≤ inf := by rw [ho]; exact outF_le
             obtain ⟨z9, hz9⟩ : ∃ z, z = fmul x k9 := ⟨_, rfl⟩
             obtain ⟨z8, hz8⟩ : ∃ z, z = fmul x k8 := ⟨_, rfl⟩
             have hop9 := hop_mul (show Ieee.double.mul x k9 = some z9 by rw [hz9]; exact mul_nn hxle (by decide) (by decide))
             have hop8 := hop_mul (show Ieee.double.mul x k8 = some z8 by rw [hz8]; exact mul_nn hxle (by decide) (by decide))
             rw [show k9 = 4607182418804521008 from rfl] at hop9
             rw [show k8 = 4607182418791010209 from rfl] at hop8
             rw [← hz9] at t1
             rw [← hz8] at t2
             have hgt9 := gf_nn hole (show z9 ≤ inf by rw [hz9]; exact fmul_le _ _)
             have hlt8 := lf_nn hole (show z8 ≤ inf by rw [hz8]; exact fmul_le _ _)
             have hg3 := gf_nn hxle (show k300 ≤ inf by decide)
             rw [decide_eq_false (Nat.not_lt.2 t1)] at hgt9
             rw [show k300 = 118622047889322841 from rfl] at hg3 t2
             clear ho hz9 hz8 t1
             by_cases hk3 : 118622047889322841 < x
             ·rw [decide_eq_false (Nat.not_lt.2 (t2 hk3))] at hlt8
              clear t2 hg3 hk3
              go_wp2
              go_roundw
              all_goals first
               | exact ⟨b + 1, m', by omega, by go_num, hwr.out⟩
               | ((repeat apply Exists.intro); exact ⟨⟨b + 1, m', by omega, by go_num, hwr.out⟩, rfl⟩)
               | (show nB l - (intOf (.int .i64 ((b : Int) + 1))).toNat < nB l - (intOf (.int .i64 (b : Int))).toNat; simp [intOf]; omega)
             ·rw [decide_eq_false hk3] at hg3
              generalize decide (o < z8) = r at hlt8
              clear t2 hk3
              cases r
              ·go_wp2
               go_roundw
               all_goals first
                | exact ⟨b + 1, m', by omega, by go_num, hwr.out⟩
                | ((repeat apply Exists.intro); exact ⟨⟨b + 1, m', by omega, by go_num, hwr.out⟩, rfl⟩)
                | (show nB l - (intOf (.int .i64 ((b : Int) + 1))).toNat < nB l - (intOf (.int .i64 (b : Int))).toNat; simp [intOf]; omega)
              ·go_wp2
               go_roundw
               all_goals first
                | exact ⟨b + 1, m', by omega, by go_num, hwr.out⟩
                | ((repeat apply Exists.intro); exact ⟨⟨b + 1, m', by omega, by go_num, hwr.out⟩, rfl⟩)
                | (show nB l - (intOf (.int .i64 ((b : Int) + 1))).toNat < nB l - (intOf (.int .i64 (b : Int))).toNat; simp [intOf]; omega)
   ·have hlt' : ¬ (b : Int) < (nB l : Int) := by omega
    have HE := Lib.hid (show Below w.heap.size w V by rw [hwr.out]; exact bDrewN HB5.out m)
    clear hwr
    go_wp2
    go_ret
    exact ⟨rfl, HE.out⟩
end Go.Proofs.Ytcflgogodgfccaa
namespace Go.Proofs.Ytcflgogodgfccaa
open Go Go.RowKit Go.Wr Go.Fl
open Go.ChangeShapes Go.WideShapes Go.ChangeAt Go.Deep
set_option maxHeartbeats 4000000
set_option maxRecDepth 100000
set_option maxRecDepth 100000 in
theorem heatFlows_lifted (os : Os) (started : os.Started) (H : Type) (enc : TypeId × Value → H) :
  ReturnsInHanded {} Try.checked os 4 .any (Rows.heatFlowsSpec.pre6 enc Try.prog Try.f4 Rows.heatFlowsRow.domain false) (Rows.heatFlowsSpec.post enc Try.prog Try.f4 false true false false) := by
 refine returnsInHanded_of_change_sized (C := Try.checked) own started (by kernel_rfl) Try.func4
  (ChangeSpec.witness6 (enc := enc) (C := Try.checked) false ⟨#[], #[.slice none 0 0], []⟩ 8 (by kernel_rfl) (by kernel_rfl) (by kernel_rfl) (by kernel_rfl)) ?_
 intro W base args ds gs before hval0 hW hcnd hsz _
 have hval : ∀ (j : Nat) t v, Try.f4.params[j]? = some t → args[j]? = some v → Value.okWide Try.prog W .any base t v := hval0
 have hW' := hW
 obtain ⟨p, q, hA0, hV, rfl, hfz, hnd⟩ := hW
 have hA : DataW.TrodAll enc Try.prog W 0 (fun _ => true) true Try.f4.params.toList args.toList ds p := hA0
 rw [Try.params4] at hA hval hsz
 obtain ⟨v0, vs0, d0, ds0, p0, q0, hargs, rfl, rfl, h0, r0⟩ := trodAll_cons hA
 obtain ⟨rfl, rfl, rfl⟩ := trodAll_nil r0
 obtain rfl : args = #[v0] := by cases args; simp_all
 obtain ⟨rfl, rfl⟩ := trodVars_none hV
 have k0 := h0
 have lt0 : ∀ x ∈ p0, x.block < W.heap.size := by obtain ⟨m, hm⟩ := k0; exact DataW.trod_lt m _ _ _ hm
 obtain ⟨a0, len0, cap0, rfl⟩ := okWide_slice Try.underlying23 (hval 0 23 v0 rfl rfl)
 obtain ⟨l0, g0⟩ : ∃ l, SlX tN W.heap.size W (.slice a0 len0 cap0) l := by
  obtain ⟨fuel, hf⟩ := h0
  exact open_ins (x := (d0, p0)) (by simpa [Value.cells] using hf)
 clear hA0 hval0 hval hfz hnd hcnd hA
 refine (flowsl_ok W W.heap.size _ l0 g0).mono fun e W' ⟨he, bel⟩ => ?_
 subst he
 exact ⟨_, rfl, _, _, _, [], _, [], hW', trodAll_mk1 (shut_bool Try.underlying4 _), (trodAll_cons_mk (Below.trod laidOut (by kernel_rfl) (of_decide_eq_true (by kernel_rfl)) k0 bel lt0) trodAll_mk0), rfl, bel.frame _, fun h => by cases h⟩
theorem HeatFlows_holds : Rows.HeatFlowsSaid :=
 OpenClaim.holds_of_wide 4 Try.f4 rfl rfl rfl rfl rfl rfl rfl ⟨rfl, rfl, rfl, rfl, rfl⟩ rfl rfl rfl rfl rfl (by kernel_rfl) Try.func4 (by kernel_rfl)
  (of_decide_eq_true (by kernel_rfl)) (by unfold Func.isWrapper; rw [if_neg (of_decide_eq_false (by kernel_rfl))]; exact ⟨rfl, rfl⟩)
  (fun os started H enc _ => heatFlows_lifted os started H enc)
#print axioms HeatFlows_holds
end Go.Proofs.Ytcflgogodgfccaa
