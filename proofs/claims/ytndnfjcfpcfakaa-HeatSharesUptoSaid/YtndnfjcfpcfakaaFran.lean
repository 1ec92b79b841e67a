/- What the law needs, one part after another: walks of functions and plain laws. No conditions but those that each law names. -/
import Derived.Test.YtndnfjcfpcfakaaFram
namespace Go.Proofs.Ytndnfjcfpcfakaa
open Go Go.RowKit Go.Wr Go.Fl Go.Ht
set_option maxHeartbeats 40000000
set_option maxRecDepth 100000
def m8 : Nat := 13844065254536904704
theorem m8_ne : (FloatKind.f64.format.order 13844065254536904704 13844065254536904704 != some .eq) = false := by kernel_rfl
structure Fh (w2 : World) (n3 n4 : Nat) (vb : Value) (Wl : List Nat) (vx : Value) (rs : List Sv) (F : Nat → List Nat) (w : World) : Prop where
 bel : Below w2.heap.size w2 w
 l3 : w2.heap.size ≤ n3
 l4 : n3 ≤ n4
 b : OwR tF n3 w vb Wl
 blt : ∀ g, vb.ownBlock = some g → g < n4
 x : OwR tFF n4 w vx rs
 r : Rws tF n4 rs F w
section
variable {w2 w w' W : World} {n3 n4 : Nat} {vb vx : Value} {Wl : List Nat} {rs : List Sv} {F F' : Nat → List Nat}
theorem Fh.below (h : Fh w2 n3 n4 vb Wl vx rs F w) (b : Below w.heap.size w w') : Fh w2 n3 n4 vb Wl vx rs F w' :=
 ⟨bThen h.bel b, h.l3, h.l4, h.b.below b, h.blt, h.x.below b, h.r.below b⟩
theorem Fh.low {g : Nat} (h : Fh w2 n3 n4 vb Wl vx rs F w) (c : Chg w w' (fun k => k = g)) (h2 : w2.heap.size ≤ g) (h3 : g < n3) : Fh w2 n3 n4 vb Wl vx rs F w' := by
 have l4 := h.l4
 refine ⟨c.below h.bel (fun k hk => by omega) h.bel.size, h.l3, h.l4, h.b.chg c (fun k hk e => ?_), h.blt, h.x.chg c (fun k hk e => ?_), ⟨fun i s hs => (h.r.own i s hs).chg c (fun k hk e => ?_), h.r.ap⟩⟩
 ·have := (h.b.blk hk).1; omega
 ·have := (h.x.blk hk).1; omega
 ·have := ((h.r.own i s hs).blk hk).1; omega
theorem Fh.setR {k j g n c y z : Nat} (h : Fh w2 n3 n4 vb Wl vx rs F w) (hk : rs[k]? = some ⟨some ⟨g, 0, none⟩, n, c⟩) (hj : (F k)[j]? = some z) : Fh w2 n3 n4 vb Wl vx rs (setF F k ((F k).set j y)) (w.setCell ⟨g, j, none⟩ (.float .f64 y)) := by
 have hc := chg_set (bRefl w) g j (.float .f64 y)
 have hrow := h.r.own k _ hk
 obtain ⟨hg, Cg, hgb⟩ := hrow.blk (g := g) rfl
 have hset := OwR.set (k := j) (j := 0) (x := z) (y := y) (v := .float .f64 y) hrow hj (by decide) rfl
 have e2 : j * tF.n + 0 = j := by show j * 1 + 0 = j; omega
 rw [e2] at hset
 have l3 := h.l3
 have l4 := h.l4
 refine ⟨hc.below h.bel (fun q hq => by omega) h.bel.size, h.l3, h.l4, h.b.chg hc (fun q hq e => ?_), h.blt, h.x.chg hc (fun q hq e => ?_), ⟨fun i s hs => ?_, h.r.ap⟩⟩
 ·have := h.blt q hq; omega
 ·obtain ⟨_, C, hq⟩ := h.x.blk hq
  subst e
  exact blk_ne hgb hq (by decide) rfl
 ·by_cases e : i = k
  ·subst e
   rw [hk] at hs
   injection hs with hs
   subst hs
   rw [setF_self]
   exact hset
  ·rw [setF_ne e]
   exact (h.r.own i s hs).chg hc (fun q hq e' => by subst e'; exact h.r.ap k i _ s hk hs (Ne.symm e) q rfl hq)
theorem Fh.pushR {k g n c gx nx cx : Nat} {s : Sv} {L : List Nat} (h : Fh w2 n3 n4 vb Wl (.slice (some ⟨gx, 0, none⟩) nx cx) rs F w) (hk : rs[k]? = some s) (hb : Below w.heap.size w W) (hg : W.grownBy w' s.v.ownBlock) (ho : OwR tF n4 w' (.slice (some ⟨g, 0, none⟩) n c) L) (hl : s.v.ownBlock = some g ∨ g = W.heap.size) :
  Fh w2 n3 n4 vb Wl (.slice (some ⟨gx, 0, none⟩) nx cx) (rs.set k ⟨some ⟨g, 0, none⟩, n, c⟩) (setF F k L) (w'.setCell ⟨gx, k, none⟩ (.slice (some ⟨g, 0, none⟩) n c)) := by
 have hc := chg_push hb hg gx k (.slice (some ⟨g, 0, none⟩) n c)
 have hrow := h.r.own k s hk
 obtain ⟨hgx, Cx, hxb⟩ := h.x.blk (g := gx) rfl
 have hz := hb.size
 have l3 := h.l3
 have l4 := h.l4
 have kp : ∀ q T C, Blk w q T C → tF.T ≠ T → w'.heap[q]? = w.heap[q]? := fun q T C hq hT => (hg.block q (by have := hq.lt; omega) (fun e => hrow.ne hq hT e.symm)).trans (hb.block q hq.lt)
 have hx2 : OwR tFF n4 w' (.slice (some ⟨gx, 0, none⟩) nx cx) rs := h.x.keep fun q hq => by obtain ⟨_, C, hq⟩ := h.x.blk hq; exact kp q _ C hq (by decide)
 have hset := hx2.set (k := k) (j := 0) (x := s) (y := ⟨some ⟨g, 0, none⟩, n, c⟩) (v := .slice (some ⟨g, 0, none⟩) n c) hk (by decide) rfl
 have e2 : k * tFF.n + 0 = k := by show k * 1 + 0 = k; omega
 rw [e2] at hset
 have hrw := h.r.grow (F' := setF F k L) hk hb hg ho hl (setF_self _ _ _) (fun j hj => setF_ne hj)
 refine ⟨hc.below h.bel (fun q hq => ?_) h.bel.size, h.l3, h.l4, h.b.chg hc (fun q hq e => ?_), h.blt, hset, hrw.keep fun q C _ hq => Below.heap_setCell w' ⟨gx, k, none⟩ _ q (fun e => ?_)⟩
 ·rcases hq with rfl | hq
  ·omega
  ·have := (hrow.blk hq).1; omega
 ·have h1 := h.blt q hq
  rcases e with rfl | e
  ·omega
  ·have := (hrow.blk e).1; omega
 ·subst e
  exact blk_ne (hxb.of_block (kp _ _ _ hxb (by decide))) hq (by decide) rfl
end
section
variable {w2 w w' W : World} {n3 n4 : Nat} {vb : Value} {Wl : List Nat} {rs : List Sv} {F : Nat → List Nat}
theorem chg_grow {r : Option Nat} (hb : Below w.heap.size w W) (hg : W.grownBy w' r) : Chg w w' (fun k => r = some k) :=
 ⟨hg.os.trans hb.os, hg.tape.trans hb.tape, hg.output.trans hb.output, Nat.le_trans hb.size hg.size, fun k hk hn => (hg.block k (by have := hb.size; omega) (fun e => hn e.symm)).trans (hb.block k hk)⟩
theorem chg_imp {S S' : Nat → Prop} (h : Chg w w' S) (hi : ∀ k, S k → S' k) : Chg w w' S' :=
 ⟨h.os, h.tape, h.output, h.size, fun k hk hn => h.block k hk (fun s => hn (hi k s))⟩
theorem Fh.atX {k gx nx cx : Nat} {s : Sv} (h : Fh w2 n3 n4 vb Wl (.slice (some ⟨gx, 0, none⟩) nx cx) rs F w) (hk : rs[k]? = some s) : w.cell? ⟨gx, k, none⟩ = some (.slice s.a s.n s.c) ∧ w.frozen? ⟨gx, k, none⟩ = false := by
 refine ⟨?_, h.x.frozen k⟩
 have h1 := (h.x.at hk).cell 0 _ rfl
 have e1 : 0 + k * tFF.n + 0 = k := by show 0 + k * 1 + 0 = k; omega
 rw [e1] at h1
 exact h1
theorem Fh.atX2 {k gx nx cx : Nat} {s : Sv} (h : Fh w2 n3 n4 vb Wl (.slice (some ⟨gx, 0, none⟩) nx cx) rs F w) (hk : rs[k]? = some s) (hb : Below w.heap.size w W) (hg : W.grownBy w' s.v.ownBlock) : w'.cell? ⟨gx, k, none⟩ = some (.slice s.a s.n s.c) ∧ w'.frozen? ⟨gx, k, none⟩ = false := by
 have hrow := h.r.own k s hk
 have hz := hb.size
 have hx2 : OwR tFF n4 w' (.slice (some ⟨gx, 0, none⟩) nx cx) rs := h.x.keep fun q hq => by
  obtain ⟨_, C, hq⟩ := h.x.blk hq
  exact (hg.block q (by have := hq.lt; omega) (fun e => hrow.ne hq (by decide) e.symm)).trans (hb.block q hq.lt)
 refine ⟨?_, hx2.frozen k⟩
 have h1 := (hx2.at hk).cell 0 _ rfl
 have e1 : 0 + k * tFF.n + 0 = k := by show 0 + k * 1 + 0 = k; omega
 rw [e1] at h1
 exact h1
end
theorem fresh_ok (w : World) (q : Nat) (v v' : Value) (l m : List In) (h : SlX tN q w v l) (h' : SlX tN q w v' m) : Calls Try.prog 4 #[v, v'] w fun e w' => e = .returned (.bool true) ∧ Below w.heap.size w w' := by
 have HC := Lib.hid (flows19_ok w q v l h)
 have H' := Lib.hid h'
 clear h h'
 go_enter Try.func4, Try.ntmps4
 go_wp2_with fail
 refine HC.out.mono ?_
 rintro e w1 ⟨b1, hm1⟩
 have HC2 := Lib.hid (flows19_ok w1 q v' m (H'.out.below b1))
 have HB1 := Lib.hid b1
 clear b1 HC
 rcases hm1 with rfl | ⟨p, pr, rfl, -, -, hF, hR⟩
 ·go_wp2_with fail
  refine HC2.out.mono ?_
  rintro e w2 ⟨b2, hm2⟩
  have HB2 := Lib.hid (bThen HB1.out b2)
  clear b2 HC2
  rcases hm2 with rfl | ⟨p2, q2, rfl, -, -, -, -⟩
  ·go_wp2
   go_ret
   exact ⟨rfl, HB2.out⟩
  ·go_wp2
   go_ret
   exact ⟨rfl, HB2.out⟩
 ·have HF1 := Lib.hid (And.intro hF hR)
  clear hF hR
  go_wp2_with fail
  refine HC2.out.mono ?_
  rintro e w2 ⟨b2, hm2⟩
  have HB2 := Lib.hid (bThen HB1.out b2)
  have HF2 := Lib.hid (And.intro (HF1.out.1.below b2) (HF1.out.2.below b2))
  clear b2 HC2 HF1
  rcases hm2 with rfl | ⟨p2, q2, rfl, -, -, hF2, hR2⟩
  ·go_wp2
   go_ret
   exact ⟨rfl, HB2.out⟩
  ·have HM := Lib.hid (And.intro hF2 hR2)
   have h512 := HF2.out.1.1.n512
   have hpos : 0 < nB l := HF2.out.1.1.pos
   clear hF2 hR2
   go_wp2_with fail
   refine (hguess_ok w2 p l HF2.out.1).mono ?_
   rintro e w3 ⟨b3, va, rfl, hoa⟩
   have HB3 := Lib.hid b3
   have HOa := Lib.hid hoa
   clear b3 hoa
   go_wp2_with fail
   refine (hguess_ok w3 p l (HF2.out.1.below HB3.out)).mono ?_
   rintro e w4 ⟨b4, vb, rfl, hob⟩
   have HB4 := Lib.hid (bThen HB3.out b4)
   have HOa4 := Lib.hid (HOa.out.below b4)
   have HOb := Lib.hid hob
   have HZ3 := Lib.hid (And.intro HB3.out.size b4.size)
   have HL3 := Lib.hid (show ∀ g, va.ownBlock = some g → g < w3.heap.size from fun g hg => HOa.out.lt hg)
   clear b4 hob HOa
   go_wp2_with fail
   refine (hedges_ok w4 p l (HF2.out.1.below HB4.out)).mono ?_
   unfold EdP
   rintro e w5 ⟨b5, vx, rfl, rs, hl5, ho5, hr5⟩
   have HFh := Lib.hid (show Fh w2 w3.heap.size w4.heap.size vb _ vx rs (edR l) w5 from ⟨bThen HB4.out b5, HZ3.out.1, HZ3.out.2, HOb.out.below b5, fun g hg => HOb.out.lt hg, ho5, hr5⟩)
   have hoa5 := HOa4.out.below b5
   rcases hoa5.form with ⟨_, e⟩ | ⟨ga, ca, rfl, hca, hca2, hga⟩
   ·exact absurd (congrArg List.length e) (by simp; omega)
   rw [List.length_map, List.length_range] at hoa5 hca
   have hga3 : ga < w3.heap.size := HL3.out ga rfl
   have HGa := Lib.hid (And.intro hga hga3)
   have HOa5 := Lib.hid hoa5
   have HL5 := Lib.hid hl5
   rw [List.length_map, List.length_range]
   clear b5 hl5 ho5 hr5 hoa5 hga hga3 HOa4 HOb HL3 HB3 HB4 hca hca2
   go_wp2
   go_loopw [14] (fun t wr => ∃ (i : Nat) (L : List Nat), i ≤ nB l ∧ t = .int .i64 (i : Int) ∧ Hid (L.length = nB l ∧ OwR tF w2.heap.size wr (.slice (some ⟨ga, 0, none⟩) (nB l) ca) L) ∧ Hid (Fh w2 w3.heap.size w4.heap.size vb ((List.range (nB l)).map (wts l (tT l) (-1))) vx rs (edR l) wr)) (fun t _ => nB l - (intOf t).toNat)
   case atStart => exact ⟨0, _, by omega, rfl, ⟨by rw [List.length_map, List.length_range], HOa5.out⟩, HFh.out⟩
   case round =>
    clear HOa5 HFh
    obtain ⟨i, L, hi, rfl, hA, hR⟩ := hrel
    obtain ⟨V, rfl⟩ : ∃ x : World, x = wr := ⟨_, rfl⟩
    by_cases hlt : i < nB l
    ·have hlt' : (i : Int) < (nB l : Int) := by omega
     obtain ⟨z, hz⟩ : ∃ z, L[i]? = some z := ⟨_, List.getElem?_eq_getElem (by rw [hA.out.1]; exact hlt)⟩
     have ca0 : V.cell? ⟨ga, i, none⟩ = some (.float .f64 z) := by
      have h1 := (hA.out.2.at hz).cell 0 _ rfl
      have e1 : 0 + i * tF.n + 0 = i := by show 0 + i * 1 + 0 = i; omega
      rw [e1] at h1
      exact h1
     have fa := hA.out.2.frozen i
     have hset := hA.out.2.set (k := i) (j := 0) (x := z) (y := 13840687554816376832) (v := .float .f64 13840687554816376832) hz (by decide) rfl
     have e2 : i * tF.n + 0 = i := by show i * 1 + 0 = i; omega
     rw [e2] at hset
     have HA2 := Lib.hid (show (L.set i 13840687554816376832).length = nB l ∧ _ from ⟨by rw [List.length_set]; exact hA.out.1, hset⟩)
     have HR2 := Lib.hid (hR.out.low (chg_set (bRefl V) ga i (.float .f64 13840687554816376832)) HGa.out.1 HGa.out.2)
     have hst : ∀ a m w, (store a (.float .f64 13840687554816376832) m).run Try.prog w = stored Try.prog w a (.float .f64 13840687554816376832) m := fun a m w => run_store Try.prog w a _ m rfl
     clear hset e2 hz hA hR
     go_wp2
     go_roundw
     all_goals first
      | exact ⟨i + 1, _, by omega, by go_num, HA2.out, HR2.out⟩
      | (simp [intOf] <;> omega)
    ·have hie : i = nB l := by omega
     have hlt' : ¬ (i : Int) < (nB l : Int) := by omega
     subst hie
     have hLl := hA.out.1
     have hzV := hR.out.bel.size
     go_upto_region 15 with (at_builtin; refine wpl_push tF rfl (.tmp 59) (.tmp 60) rfl w2.heap.size (.slice (some ⟨ga, 0, none⟩) (nB l) ca) L rfl (hA.out.2.alloc _) _ 0 2 2 [13841813454723219456, 13841813454723219456] rfl rfl (rangeNew (by rfl) (by rfl)) (by rw [hLl]; unfold maxLen; simp; omega) (by rw [hLl]; show _ * 8 ≤ _; simp; omega) (by simp; omega) ?_; intro v9 w9 hown hgrow hform)
     obtain ⟨g9, c9, rfl, _⟩ := hform (by simp)
     have HR9 := Lib.hid (hR.out.low (chg_imp (chg_grow (bAl (bRefl V) _) hgrow) (fun k hk => by injection hk with hk; exact hk.symm)) HGa.out.1 HGa.out.2)
     have hna : L.length + [13841813454723219456, 13841813454723219456].length = nB l + 2 := by rw [hLl]; rfl
     rw [hna] at hform ⊢
     rcases HR9.out.x.form with ⟨_, e⟩ | ⟨gx, cx, rfl, -, -, -⟩
     ·exact absurd (congrArg List.length e) (by rw [HL5.out]; simp; omega)
     rw [HL5.out] at HR9 ⊢
     clear hown hgrow hform hA hR hLl hzV hna
     go_wp2
     go_loopw [15] (fun t wr => ∃ (i : Nat) (rs : List Sv) (F : Nat → List Nat), i ≤ nB l ∧ t = .int .i64 (i : Int) ∧ Hid (rs.length = nB l ∧ (∀ k, k < i → ∃ L, F k = L ++ [m8] ∧ L.length ≤ 2) ∧ ∀ k, i ≤ k → (F k).length ≤ 2) ∧ Hid (Fh w2 w3.heap.size w4.heap.size vb ((List.range (nB l)).map (wts l (tT l) (-1))) (.slice (some ⟨gx, 0, none⟩) (nB l) cx) rs F wr)) (fun t _ => nB l - (intOf t).toNat)
     case atStart => exact ⟨0, _, _, by omega, rfl, ⟨HL5.out, fun k hk => by omega, fun k _ => by unfold edR; rw [List.length_map, List.length_range]; exact nxt_two l k⟩, HR9.out⟩
     case round =>
      clear HR9 HL5
      obtain ⟨i, rs, F, hi, rfl, hP, hR⟩ := hrel
      obtain ⟨V, rfl⟩ : ∃ x : World, x = wr := ⟨_, rfl⟩
      by_cases hlt : i < nB l
      ·have hlt' : (i : Int) < (nB l : Int) := by omega
       obtain ⟨⟨sa, sn, sc⟩, hs⟩ : ∃ s, rs[i]? = some s := ⟨_, List.getElem?_eq_getElem (by rw [hP.out.1]; exact hlt)⟩
       have hsn : sn = (F i).length := SlX.len (OwR.slz (hR.out.r.own i _ hs))
       have HS := Lib.hid (And.intro hs (And.intro hP.out.1 (hP.out.2.1)))
       have HP0 := Lib.hid (show (∀ k, k < i → ∃ L, F k = L ++ [m8] ∧ L.length ≤ 2) ∧ (∀ k, i ≤ k → (F k).length ≤ 2) ∧ (F i).length = sn from ⟨hP.out.2.1, hP.out.2.2, hsn.symm⟩)
       have hsn2 : sn ≤ 2 := by rw [hsn]; exact hP.out.2.2 i (Nat.le_refl _)
       clear hsn hP hs
       go_wp2
       go_loopw [16] (fun t wr => ∃ (j : Nat) (F : Nat → List Nat), j ≤ sn ∧ t = .int .i64 (j : Int) ∧ Hid ((∀ k, k < i → ∃ L, F k = L ++ [m8] ∧ L.length ≤ 2) ∧ (∀ k, i ≤ k → (F k).length ≤ 2) ∧ (F i).length = sn) ∧ Hid (Fh w2 w3.heap.size w4.heap.size vb ((List.range (nB l)).map (wts l (tT l) (-1))) (.slice (some ⟨gx, 0, none⟩) (nB l) cx) rs F wr)) (fun t _ => sn - (intOf t).toNat)
       case atStart => exact ⟨0, _, by omega, rfl, HP0.out, hR.out⟩
       case round =>
        clear HP0 hR
        obtain ⟨j, F, hj, rfl, hP, hR⟩ := hrel
        obtain ⟨U, rfl⟩ : ∃ x : World, x = wr := ⟨_, rfl⟩
        obtain ⟨cx0, fx0⟩ := hR.out.atX HS.out.1
        by_cases hlj : j < sn
        ·have hlj' : (j : Int) < (sn : Int) := by omega
         have hrow := hR.out.r.own i _ HS.out.1
         rcases hrow.form with ⟨e, _⟩ | ⟨gr, cr, e, -, -, -⟩
         ·unfold Sv.v at e
          injection e with _ e _
          have e' : sn = 0 := e
          omega
         unfold Sv.v at e
         injection e with e1 e2 e3
         simp only at e1 e3
         subst e1 e3
         obtain ⟨z, hz⟩ : ∃ z, (F i)[j]? = some z := ⟨_, List.getElem?_eq_getElem (by rw [hP.out.2.2]; exact hlj)⟩
         have c1 : U.cell? ⟨gr, j, none⟩ = some (.float .f64 z) := by
          have h1 := (OwR.at hrow hz).cell 0 _ rfl
          have e1 : 0 + j * tF.n + 0 = j := by show 0 + j * 1 + 0 = j; omega
          rw [e1] at h1
          exact h1
         have f1 := OwR.frozen hrow j
         have HR2 := Lib.hid (hR.out.setR (y := 13842939354630062080) HS.out.1 hz)
         have HP2 := Lib.hid (show (∀ k, k < i → ∃ L, setF F i ((F i).set j 13842939354630062080) k = L ++ [m8] ∧ L.length ≤ 2) ∧ (∀ k, i ≤ k → (setF F i ((F i).set j 13842939354630062080) k).length ≤ 2) ∧ (setF F i ((F i).set j 13842939354630062080) i).length = sn from
          ⟨fun k hk => by rw [setF_ne (by omega)]; exact hP.out.1 k hk, fun k hk => by
           by_cases e : k = i
           ·subst e; rw [setF_self, List.length_set]; exact hP.out.2.1 k hk
           ·rw [setF_ne e]; exact hP.out.2.1 k hk, by rw [setF_self, List.length_set]; exact hP.out.2.2⟩)
         have hst : ∀ a m w, (store a (.float .f64 13842939354630062080) m).run Try.prog w = stored Try.prog w a (.float .f64 13842939354630062080) m := fun a m w => run_store Try.prog w a _ m rfl
         clear hz hrow hP hR e2
         go_wp2
         go_roundw
         all_goals first
          | exact ⟨j + 1, _, by omega, by go_num, HP2.out, HR2.out⟩
          | (simp [intOf] <;> omega)
        ·have hje : j = sn := by omega
         have hlj' : ¬ (j : Int) < (sn : Int) := by omega
         have hfl := hP.out.2.2
         have hrow : OwR tF w4.heap.size U (.slice sa sn sc) (F i) := hR.out.r.own i _ HS.out.1
         have hz4 : w4.heap.size ≤ U.heap.size := by
          rcases hR.out.x.form with ⟨e, _⟩ | ⟨g, c, e, -, -, h1⟩
          ·cases e
          ·have := hR.out.x.lt (g := gx) rfl
           injection e with e1 _ _
           injection e1 with e1
           injection e1 with e1
           omega
         go_upto_region 17 with (at_builtin; refine wpl_pushL tF rfl (.tmp 88) (.tmp 89) rfl w4.heap.size (.slice sa sn sc) (F i) rfl (hrow.alloc _) _ 0 1 1 [13844065254536904704] rfl rfl (Nat.succ_pos _) (rangeNew (by rfl) (by rfl)) (by rw [hfl]; unfold maxLen; simp; omega) (by rw [hfl]; show _ * 8 ≤ _; simp; omega) (by simp; omega) ?_; intro g9 c9 w9 hown hgrow hlies; obtain ⟨cx9, fx9⟩ := hR.out.atX2 HS.out.1 (bAl (bRefl U) _) hgrow)
         obtain ⟨U9, hU9⟩ : ∃ x, x = w9.setCell ⟨gx, i, none⟩ (.slice (some ⟨g9, 0, none⟩) (sn + 1) c9) := ⟨_, rfl⟩
         have hown' : OwR tF w4.heap.size w9 (.slice (some ⟨g9, 0, none⟩) (sn + 1) c9) (F i ++ [m8]) := by
          have h1 := hown
          rw [hfl] at h1
          exact h1
         have HR2 := Lib.hid (show Fh w2 w3.heap.size w4.heap.size vb ((List.range (nB l)).map (wts l (tT l) (-1))) (.slice (some ⟨gx, 0, none⟩) (nB l) cx) (rs.set i ⟨some ⟨g9, 0, none⟩, sn + 1, c9⟩) (setF F i (F i ++ [m8])) U9 by rw [hU9]; exact hR.out.pushR HS.out.1 (bAl (bRefl U) _) hgrow hown' hlies)
         have HP2 := Lib.hid (show (rs.set i ⟨some ⟨g9, 0, none⟩, sn + 1, c9⟩).length = nB l ∧ (∀ k, k < i + 1 → ∃ L, setF F i (F i ++ [m8]) k = L ++ [m8] ∧ L.length ≤ 2) ∧ ∀ k, i + 1 ≤ k → (setF F i (F i ++ [m8]) k).length ≤ 2 from
          ⟨by rw [List.length_set]; exact HS.out.2.1, fun k hk => by
           by_cases e : k = i
           ·subst e; exact ⟨F k, setF_self _ _ _, by rw [hfl]; exact hsn2⟩
           ·rw [setF_ne e]; exact hP.out.1 k (by omega), fun k hk => by
           rw [setF_ne (by omega)]; exact hP.out.2.1 k (by omega)⟩)
         rw [← hU9]
         clear hU9 hown hown' hgrow hlies cx9 fx9 hrow hz4 hfl hP hR
         go_wp2
         go_roundw
         all_goals first
          | exact ⟨i + 1, _, _, by omega, by go_num, HP2.out, HR2.out⟩
          | ((repeat apply Exists.intro); exact ⟨⟨i + 1, _, _, by omega, by go_num, HP2.out, HR2.out⟩, rfl⟩)
          | (show nB l - (intOf (.int .i64 ((i : Int) + 1))).toNat < nB l - (intOf (.int .i64 (i : Int))).toNat; simp [intOf]; omega)
      ·have hie : i = nB l := by omega
       have hlt' : ¬ (i : Int) < (nB l : Int) := by omega
       subst hie
       have HFV := Lib.hid (HF2.out.1.below hR.out.bel)
       have HGV := Lib.hid (HF2.out.2.below hR.out.bel)
       clear hlt hi
       go_wp2_with fail
       refine (hedges_ok V p l HFV.out).mono ?_
       unfold EdP
       rintro e wA ⟨bA, vy, rfl, ys, hly, hoy, hry⟩
       have HA := Lib.hid (And.intro hly (And.intro hoy hry))
       have HBA := Lib.hid bA
       clear bA hly hoy hry
       go_wp2_with fail
       refine (redges_ok wA pr l (HGV.out.below HBA.out)).mono ?_
       unfold EdP
       rintro e wB ⟨bB, vz, rfl, zs, hlz, hoz, hrz⟩
       have HBB := Lib.hid (bThen HBA.out bB)
       have HY := Lib.hid (And.intro HA.out.1 (And.intro (HA.out.2.1.below bB) (HA.out.2.2.below bB)))
       have HZ := Lib.hid (And.intro hlz (And.intro hoz hrz))
       clear bB hlz hoz hrz HA
       go_wp2_with fail
       refine (rguess_ok wB pr l (HGV.out.below HBB.out)).mono ?_
       rintro e wC ⟨bC, vc, rfl, hoc⟩
       have HBC := Lib.hid bC
       have HOC := Lib.hid hoc
       clear bC hoc
       go_wp2_with fail
       refine (sameF_ok wC wC.heap.size wC.heap.size vb vc _ (OwR.slz (hR.out.b.below (bThen HBB.out HBC.out))) (OwR.slz HOC.out) wts_in).mono ?_
       rintro e wD ⟨rfl, mD, hwD⟩
       have HBD := Lib.hid (show Below wB.heap.size wB wD by rw [hwD]; exact bDrewN HBC.out mD)
       clear hwD HOC
       have HM2 := Lib.hid (show FinP m p2 wD ∧ RFinP m q2 wD from ⟨HM.out.1.below (bThen hR.out.bel (bThen HBB.out HBD.out)), HM.out.2.below (bThen hR.out.bel (bThen HBB.out HBD.out))⟩)
       go_wp2_with fail
       refine (hguess_ok wD p2 m HM2.out.1).mono ?_
       rintro e wE ⟨bE, ve, rfl, hoe⟩
       have HBE := Lib.hid (bThen HBD.out bE)
       have HOE := Lib.hid hoe
       have HME := Lib.hid (HM2.out.2.below bE)
       clear bE hoe
       go_wp2_with fail
       refine (rguess_ok wE q2 m HME.out).mono ?_
       rintro e wG ⟨bG, vg, rfl, hog⟩
       have HBG := Lib.hid (bThen HBE.out bG)
       have HOG := Lib.hid hog
       have HOE2 := Lib.hid (HOE.out.below bG)
       clear bG hog HOE HME
       go_wp2_with fail
       refine (sameF_ok wG wG.heap.size wG.heap.size ve vg _ (OwR.slz HOE2.out) (OwR.slz HOG.out) wts_in).mono ?_
       rintro e wH ⟨rfl, mH, hwH⟩
       have HBH := Lib.hid (show Below wB.heap.size wB wH by rw [hwH]; exact bDrewN HBG.out mH)
       clear hwH HOE2 HOG
       go_wp2_with fail
       refine (hguess_ok wH p l (HFV.out.below (bThen HBB.out HBH.out))).mono ?_
       rintro e wI ⟨bI, vi, rfl, hoi⟩
       have HBI := Lib.hid (bThen HBH.out bI)
       have HOI := Lib.hid hoi
       clear bI hoi
       go_wp2_with fail
       refine (rguess_ok wI pr l (HGV.out.below (bThen HBB.out HBI.out))).mono ?_
       rintro e wJ ⟨bJ, vj, rfl, hoj⟩
       have HBJ := Lib.hid (bThen HBI.out bJ)
       have HOJ := Lib.hid hoj
       have HOI2 := Lib.hid (HOI.out.below bJ)
       clear bJ hoj HOI
       go_wp2_with fail
       refine (sameF_ok wJ wJ.heap.size wJ.heap.size vi vj _ (OwR.slz HOI2.out) (OwR.slz HOJ.out) wts_in).mono ?_
       rintro e wK ⟨rfl, mK, hwK⟩
       have HBK := Lib.hid (show Below wB.heap.size wB wK by rw [hwK]; exact bDrewN HBJ.out mK)
       clear hwK HOI2 HOJ
       have hyk := OwR.slz (HY.out.2.1.below HBK.out)
       have hzk := OwR.slz (HZ.out.2.1.below HBK.out)
       have hbk := OwR.slz (hR.out.b.below (bThen HBB.out HBK.out))
       have hxk := OwR.slz (hR.out.x.below (bThen HBB.out HBK.out))
       obtain ⟨ay, cy, rfl, -, -⟩ := hyk.form
       obtain ⟨az, cz, rfl, -, -⟩ := hzk.form
       obtain ⟨ab, cb, rfl, -, -⟩ := hbk.form
       rw [HY.out.1] at hyk
       rw [HZ.out.1] at hzk
       rw [HY.out.1, HZ.out.1, List.length_map, List.length_range]
       have HS := Lib.hid (And.intro hyk (And.intro hzk (And.intro hxk (And.intro (HY.out.2.2.below HBK.out) (And.intro (HZ.out.2.2.below HBK.out) (hR.out.r.below (bThen HBB.out HBK.out)))))))
       have HEnd := Lib.hid (show Below w.heap.size w wK from bThen HB2.out (bThen hR.out.bel (bThen HBB.out HBK.out)))
       have HLn := Lib.hid (And.intro HY.out.1 (And.intro HZ.out.1 (And.intro hP.out.1 hP.out.2.1)))
       clear hyk hzk hbk hxk HY HZ hR hP HBK HBJ HBI HBH HBG HBE HBD HBC HM2
       go_wp2
       go_loopw [19] (fun t wr => ∃ (i m : Nat), i ≤ nB l ∧ t = .int .i64 (i : Int) ∧ Hid (wr = wK.drewN m)) (fun t _ => nB l - (intOf t).toNat)
       case atStart => exact ⟨0, 0, by omega, rfl, rfl⟩
       case round =>
        obtain ⟨i, m', hi, rfl, hwr⟩ := hrel
        obtain ⟨U, rfl⟩ : ∃ x : World, x = wr := ⟨_, rfl⟩
        by_cases hlt : i < nB l
        ·have hlt' : (i : Int) < (nB l : Int) := by omega
         have hbV : Below wK.heap.size wK U := by rw [hwr.out]; exact bDrewN (bRefl wK) m'
         obtain ⟨⟨sa, sn, sc⟩, hs⟩ : ∃ s, ys[i]? = some s := ⟨_, List.getElem?_eq_getElem (by rw [HLn.out.1]; exact hlt)⟩
         obtain ⟨⟨ta, tn, tc⟩, ht⟩ : ∃ s, zs[i]? = some s := ⟨_, List.getElem?_eq_getElem (by rw [HLn.out.2.1]; exact hlt)⟩
         obtain ⟨⟨ra, rn, rc⟩, hr⟩ : ∃ s, rs[i]? = some s := ⟨_, List.getElem?_eq_getElem (by rw [HLn.out.2.2.1]; exact hlt)⟩
         obtain ⟨g1, o1, rfl, -, hat1⟩ := (HS.out.1.below hbV).get hs
         obtain ⟨g2, o2, rfl, -, hat2⟩ := (HS.out.2.1.below hbV).get ht
         obtain ⟨g3, o3, e3, -, hat3⟩ := (HS.out.2.2.1.below hbV).get hr
         injection e3 with e3
         injection e3 with e31 e32
         subst e31 e32
         have d1 := hat1.cell 0 _ rfl
         have d2 := hat2.cell 0 _ rfl
         have d3 := hat3.cell 0 _ rfl
         rw [show o1 + i * tFF.n + 0 = o1 + i by show o1 + i * 1 + 0 = _; omega] at d1
         rw [show o2 + i * tFF.n + 0 = o2 + i by show o2 + i * 1 + 0 = _; omega] at d2
         rw [show 0 + i * tFF.n + 0 = i by show 0 + i * 1 + 0 = _; omega] at d3
         have c1 : U.cell? ⟨g1, o1 + i, none⟩ = some (.slice sa sn sc) := d1
         have c2 : U.cell? ⟨g2, o2 + i, none⟩ = some (.slice ta tn tc) := d2
         have c3 : U.cell? ⟨gx, i, none⟩ = some (.slice ra rn rc) := d3
         obtain ⟨L, hL, hL2⟩ := HLn.out.2.2.2 i hlt
         have hrow := OwR.slz (OwR.below (HS.out.2.2.2.2.2.own i _ hr) hbV)
         have hrn : rn = (F i).length := SlX.len hrow
         rw [hL] at hrow hrn
         rw [List.length_append, List.length_singleton] at hrn
         obtain ⟨k, hk⟩ : ∃ k, k = L.length := ⟨_, rfl⟩
         obtain ⟨gr, or, rfl, -, -, d4⟩ := SlX.flo hrow (k := L.length) (x := m8) (by rw [List.getElem?_append_right (Nat.le_refl _)]; simp)
         rw [← hk] at hrn d4 hL2
         obtain rfl : rn = k + 1 := hrn
         have c4 : U.cell? ⟨gr, or + k, none⟩ = some (.float .f64 13844065254536904704) := d4
         have hsame : ∀ n, Calls Try.prog 12 #[.slice sa sn sc, .slice ta tn tc] (U.drewN n) fun e w'' => e = .returned (.bool true) ∧ ∃ m, w'' = (U.drewN n).drewN m := fun n => by
          have hbn := bThen hbV (bDrewN (bRefl U) n)
          exact sameF_ok (U.drewN n) _ _ _ _ _ (OwR.slz (OwR.below (HS.out.2.2.2.1.own i _ hs) hbn)) (OwR.slz (OwR.below (HS.out.2.2.2.2.1.own i _ ht) hbn)) edR_in
         have hne := m8_ne
         clear hs ht hr hat1 hat2 hat3 d1 d2 d3 d4 hbV hrow hL hk
         go_wp2_with fail
         go_quiet (first | (go_at_call 12; exact Calls.quiet_of (hsame _)))
         have HW := Lib.hid (show ∃ k, U.drewN nq = wK.drewN k from ⟨m' + nq, by rw [hwr.out, World.drewN_drewN]⟩)
         clear hsame c1 c2 c3 c4 hne hwr
         generalize U.drewN nq = V2 at HW ⊢
         go_wp2
         go_roundw
         all_goals first
          | (obtain ⟨k, hk⟩ := HW.out; exact ⟨i + 1, k, by omega, by go_num, hk⟩)
          | (simp [intOf] <;> omega)
        ·have hlt' : ¬ (i : Int) < (nB l : Int) := by omega
         have HE := Lib.hid (show Below w.heap.size w U by rw [hwr.out]; exact bDrewN HEnd.out m')
         clear hwr
         go_wp2
         go_ret
         exact ⟨rfl, HE.out⟩
end Go.Proofs.Ytndnfjcfpcfakaa
namespace Go.Proofs.Ytndnfjcfpcfakaa
open Go Go.RowKit Go.Wr Go.Fl
open Go.ChangeShapes Go.WideShapes Go.ChangeAt Go.Deep
set_option maxHeartbeats 4000000
set_option maxRecDepth 100000
set_option maxRecDepth 100000 in
theorem heatFresh_lifted (os : Os) (started : os.Started) (H : Type) (enc : TypeId × Value → H) :
  ReturnsInHanded {} Try.checked os 4 .any (Rows.heatFreshSpec.pre6 enc Try.prog Try.f4 Rows.heatFreshRow.domain false) (Rows.heatFreshSpec.post enc Try.prog Try.f4 false true false false) := by
 refine returnsInHanded_of_change_sized (C := Try.checked) own started (by kernel_rfl) Try.func4
  (ChangeSpec.witness6 (enc := enc) (C := Try.checked) false ⟨#[], #[.slice none 0 0, .slice none 0 0], []⟩ 8 (by kernel_rfl) (by kernel_rfl) (by kernel_rfl) (by kernel_rfl)) ?_
 intro W base args ds gs before hval0 hW hcnd hsz _
 have hval : ∀ (j : Nat) t v, Try.f4.params[j]? = some t → args[j]? = some v → Value.okWide Try.prog W .any base t v := hval0
 have hW' := hW
 obtain ⟨p, q, hA0, hV, rfl, hfz, hnd⟩ := hW
 have hA : DataW.TrodAll enc Try.prog W 0 (fun _ => true) true Try.f4.params.toList args.toList ds p := hA0
 rw [Try.params4] at hA hval hsz
 obtain ⟨v0, vs0, d0, ds0, p0, q0, hargs, rfl, rfl, h0, r0⟩ := trodAll_cons hA
 obtain ⟨v1, vs1, d1, ds1, p1, q1, rfl, rfl, rfl, h1, r1⟩ := trodAll_cons r0
 obtain ⟨rfl, rfl, rfl⟩ := trodAll_nil r1
 obtain rfl : args = #[v0, v1] := by cases args; simp_all
 obtain ⟨rfl, rfl⟩ := trodVars_none hV
 have k0 := h0
 have lt0 : ∀ x ∈ p0, x.block < W.heap.size := by obtain ⟨m, hm⟩ := k0; exact DataW.trod_lt m _ _ _ hm
 obtain ⟨a0, len0, cap0, rfl⟩ := okWide_slice Try.underlying34 (hval 0 34 v0 rfl rfl)
 obtain ⟨l0, g0⟩ : ∃ l, SlX tN W.heap.size W (.slice a0 len0 cap0) l := by
  obtain ⟨fuel, hf⟩ := h0
  exact open_ins (x := (d0, p0)) (by simpa [Value.cells] using hf)
 have k1 := h1
 have lt1 : ∀ x ∈ p1, x.block < W.heap.size := by obtain ⟨m, hm⟩ := k1; exact DataW.trod_lt m _ _ _ hm
 obtain ⟨a1, len1, cap1, rfl⟩ := okWide_slice Try.underlying34 (hval 1 34 v1 rfl rfl)
 obtain ⟨l1, g1⟩ : ∃ l, SlX tN W.heap.size W (.slice a1 len1 cap1) l := by
  obtain ⟨fuel, hf⟩ := h1
  exact open_ins (x := (d1, p1)) (by simpa [Value.cells] using hf)
 clear hA0 hval0 hval hfz hnd hcnd hA
 refine (fresh_ok W W.heap.size _ _ l0 l1 g0 g1).mono fun e W' ⟨he, bel⟩ => ?_
 subst he
 exact ⟨_, rfl, _, _, _, [], _, [], hW', trodAll_mk1 (shut_bool Try.underlying4 _), (trodAll_cons_mk (Below.trod laidOut (by kernel_rfl) (of_decide_eq_true (by kernel_rfl)) k0 bel lt0) (trodAll_cons_mk (Below.trod laidOut (by kernel_rfl) (of_decide_eq_true (by kernel_rfl)) k1 bel lt1) trodAll_mk0)), rfl, bel.frame _, fun h => by cases h⟩
theorem HeatFresh_holds : Rows.HeatFreshSaid :=
 OpenClaim.holds_of_wide 4 Try.f4 rfl rfl rfl rfl rfl rfl rfl ⟨rfl, rfl, rfl, rfl, rfl⟩ rfl rfl rfl rfl rfl (by kernel_rfl) Try.func4 (by kernel_rfl)
  (of_decide_eq_true (by kernel_rfl)) (by unfold Func.isWrapper; rw [if_neg (of_decide_eq_false (by kernel_rfl))]; exact ⟨rfl, rfl⟩)
  (fun os started H enc _ => heatFresh_lifted os started H enc)
#print axioms HeatFresh_holds
end Go.Proofs.Ytndnfjcfpcfakaa
