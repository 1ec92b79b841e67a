/- Encode of the document: the same bytes, or the same error, as deed's. -/
import Derived.Test.YtfdjdpbiccclfaaDEj
namespace Go.Proofs.Ytfdjdpbiccclfaa
open Go Go.RowKit Go.Wr
set_option maxHeartbeats 4000000
set_option maxRecDepth 100000

theorem renc_bad (w : World) (vl vc : Value) (d : Dd) (h : SlD w.heap.size w vl vc d) (hp : plainD d ≠ 0) :
    Calls Try.prog 14 #[.agg #[vl, vc]] w (EncP d w) := by
  have H := Lib.hid h
  have he : encE d = plainD d := by unfold encE; rw [if_neg hp]
  have hd : encD d = [] := by unfold encD; rw [if_neg (by rw [he]; exact hp)]
  have HE := Lib.hid he
  have HD := Lib.hid hd
  clear h he hd
  go_enter Try.func14, Try.ntmps14
  go_wp2_with fail
  refine (rplain_ok _ vl vc d ((H.out.below (bAl (bRefl w) _)).mono (by simp))).mono ?_
  rintro e w1 ⟨rfl, b1⟩
  have t1 := bThen (bAl (bRefl w) _) b1
  clear b1
  go_wp2
  go_ret2
  refine ⟨t1, .slice none 0 0, ?_, ?_⟩
  · rw [HE.out]; rfl
  · rw [HD.out]; exact owns_nil _ _

/-- Pieces in a row of its own; the deed's block. -/
structure PD (B q : Nat) (w : World) (C : Array Value) (l : List Pc) (v : Value) (wr : World) : Prop where
  ow : OwP B wr v l
  fr : Ft 80 B w wr
  blk : Blk wr q 26 C
theorem PD.next {B q : Nat} {w wr w' : World} {C : Array Value} {l l' : List Pc} {v v' : Value} (h : PD B q w C l v wr) (hf : Ft 80 B wr w') (ho : OwP B w' v' l') : PD B q w C l' v' w' :=
  ⟨ho, h.fr.trans hf, hf.blk h.blk (by decide)⟩
theorem PD.size {B q : Nat} {w wr : World} {C : Array Value} {l : List Pc} {v : Value} (h : PD B q w C l v wr) (hB : B ≤ w.heap.size) : B ≤ wr.heap.size := Nat.le_trans hB h.fr.size
theorem OwP.keepY {B B' : Nat} {w w' : World} {v : Value} {l : List Pc} (h : OwP B w v l) (hf : Ft 5 B' w w') : OwP B w' v l := by
  obtain ⟨h1, h2⟩ := h
  refine ⟨h1, ?_⟩
  rcases h2 with h2 | ⟨g, cap, cur, rfl, hb, hh, r⟩
  · exact Or.inl h2
  · refine Or.inr ⟨g, cap, cur, rfl, hb, hf.block g _ hh (Or.inr fun C fz e => ?_), r⟩
    injection e with _ e
    exact absurd e (by decide)
theorem claimpieces_any (w : World) (B : Nat) (v : Value) (l : List Pc) (h : OwP B w v l) (hB : B ≤ w.heap.size) (hl : l.length ≤ 1099510000000) (d : Bool) (f : Nat → Tg) (vc : Value) (c : List C3) (hc : SlC B w vc c) (hcl : c.length ≤ 3600) :
    Calls Try.prog 34 #[v, .agg (bx (.bool d) f vc)] w (PuP B w (l ++ claimP d f c)) := by
  cases d with
  | true => exact claimpieces_dead w B v l h hB hl f vc c
  | false => exact claimpieces_live w B v l h hB hl f vc c hc hcl

theorem refnum_eq (w : World) (B : Nat) (v : Value) (l : List Nat) (h : OwY B w v l) (hB : B ≤ w.heap.size) (x : Nat) (hx : x < 9223372036854775808) (hl : l.length ≤ 1099511627000) {a : Int} (ha : a = (x : Int)) :
    Calls Try.prog 35 #[v, .int .i64 a] w (PuY B w (l ++ leb 9 x)) := by
  subst ha
  exact refnum_ok w B v l h hB x hx hl
theorem own_form {B : Nat} {w : World} {v : Value} {l : List Nat} (h : OwY B w v l) : ∃ a c, v = .slice a l.length c := by
  rcases h.2 with ⟨rfl, h0⟩ | ⟨g, cap, cur, rfl, _⟩
  · exact ⟨none, 0, by rw [h0]⟩
  · exact ⟨_, _, rfl⟩

theorem renc_good (w : World) (vl vc : Value) (d : Dd) (h : SlD w.heap.size w vl vc d) (hp : plainD d = 0) :
    Calls Try.prog 14 #[.agg #[vl, vc]] w (EncP d w) := by
  have H := Lib.hid h
  have hall := deedP_in hp
  have HALL := Lib.hid hall
  obtain ⟨n8, n512, gl, gc⟩ := plainD_all hp
  obtain ⟨ls, cs⟩ := d
  obtain ⟨⟨al, capl, rfl, hl⟩, ⟨ac, capc, rfl, hcl⟩, nl, nc, nb⟩ := h
  simp only at n8 n512 gl gc hl hcl
  have HL := Lib.hid hl
  have HC := Lib.hid hcl
  have HP := Lib.hid hp
  have hll : Hid (∀ x ∈ cs, x.l.length ≤ 3540) := fun x hx => (goodClaim_iff.1 (gc x hx)).len
  clear hl hcl nl nc nb gl gc hp hall
  go_enter Try.func14, Try.ntmps14
  go_wp2_with fail
  refine (rplain_ok _ _ _ ⟨ls, cs⟩ ((H.out.below (bAl (bRefl w) _)).mono (by simp))).mono ?_
  rintro e w1 ⟨rfl, b1⟩
  have p0 : PD w.heap.size w.heap.size w #[.slice al ls.length capl, .slice ac cs.length capc] [] (.slice none 0 0) w1 :=
    ⟨OwP.nil _ _, Ft.of_below (bThen (bAl (bRefl w) _) b1), (Blk.new w _ _).below b1 (Blk.new w _ _).lt⟩
  rw [HP.out]
  have P0 := Lib.hid p0
  have hB0 := p0.size (Nat.le_refl _)
  have c0 := p0.blk.cell 0
  have hql := p0.blk.lt
  simp only [List.getElem?_toArray, List.getElem?_cons_zero] at c0
  clear b1 p0 H
  go_upto_region 6 with (at_builtin; refine wpl_push rfl _ _ rfl w.heap.size (.slice none 0 0) [] rfl (P0.out.ow.alloc _) _ _ _ [⟨2, ls.length⟩] rfl rfl (newsAt rfl rfl) (by simp) (by simp; omega) ?_; intro v2 w2 ho2 hb2)
  have P1 := Lib.hid (P0.out.next (((Ft.refl _ _ w1).alloc _).trans hb2) ho2)
  clear P0 ho2 hb2 hB0 c0 hql
  go_wp2
  go_loopw [5, 6] (fun u t wr => ∃ k : Nat, k ≤ ls.length ∧ t = .int .i64 k ∧ PD w.heap.size w.heap.size w #[.slice al ls.length capl, .slice ac cs.length capc] ([⟨2, ls.length⟩] ++ loopsP (ls.take k)) u wr) (fun _ t _ => ls.length - (intOf t).toNat)
  case atStart => exact ⟨0, by omega, rfl, by simpa [loopsP] using P1.out⟩
  case round =>
    clear P1
    obtain ⟨k, hk, rfl, hq⟩ := hrel
    have HQ := Lib.hid hq
    have hBr := hq.size (Nat.le_refl _)
    have c0 := hq.blk.cell 0
    have hql := hq.blk.lt
    simp only [List.getElem?_toArray, List.getElem?_cons_zero] at c0
    by_cases hlt : k < ls.length
    · have hlt' : (k : Int) < (ls.length : Int) := by omega
      obtain ⟨x, hx⟩ : ∃ x, ls[k]? = some x := ⟨_, List.getElem?_eq_getElem hlt⟩
      obtain ⟨bb, off, ea, hbb, hra⟩ := HL.out k x hx
      subst ea
      obtain ⟨g0, g1, g2, g3, g4⟩ := lpv_range (rangeAt_below hra (hq.fr.below (Nat.le_refl _)) hbb)
      have hs := loopsP_succ hx
      have hlp := loopsP_len (ls.take k)
      have htk : (ls.take k).length ≤ 8 := by simp; omega
      have HS := Lib.hid hs
      clear hx hra hs hq
      go_upto_region 10 with (fail)
      generalize hV : (wr.alloc (.cells #[.int .i64 x.h, .int .i64 x.a, .int .i64 x.b, .int .i64 x.k, .int .i64 x.d] 54)) = V
      have r0 : Blk V wr.heap.size 54 (lpv x) := by rw [← hV]; exact Blk.new _ _ _
      have hf0 : Ft 80 w.heap.size wr V := by rw [← hV]; exact (Ft.refl _ _ _).alloc _
      have HO : Hid (OwP w.heap.size V u5 ([⟨2, ls.length⟩] ++ loopsP (ls.take k))) := by rw [← hV]; exact HQ.out.ow.alloc _
      have d0 := r0.cell 0
      have d1 := r0.cell 1
      have d2 := r0.cell 2
      have d3 := r0.cell 3
      have d4 := r0.cell 4
      simp only [lpv, List.getElem?_toArray, List.getElem?_cons_zero, List.getElem?_cons_succ] at d0 d1 d2 d3 d4
      have hvl := hf0.size
      have hvl2 := r0.lt
      clear hV r0 g0 g1 g2 g3 g4
      go_upto_region 8 with (at_builtin; refine wpl_push rfl _ _ rfl w.heap.size u5 ([⟨2, ls.length⟩] ++ loopsP (ls.take k)) rfl (HO.out.alloc _) _ _ _ (loopP x) rfl rfl (newsAt rfl rfl) (by simp [loopP]; omega) (by simp; omega) ?_; intro v2 w2 ho2 hb2)
      have P2 := Lib.hid (HQ.out.next (hf0.trans (((Ft.refl _ _ V).alloc _).trans hb2)) ho2)
      clear HO ho2 hb2 HQ d0 d1 d2 d3 d4 hf0
      go_wp2
      go_roundw
      all_goals first
        | exact ⟨k + 1, by omega, by go_num, by rw [HS.out, ← List.append_assoc]; exact P2.out⟩
        | ((repeat apply Exists.intro); exact ⟨⟨k + 1, by omega, by go_num, by rw [HS.out, ← List.append_assoc]; exact P2.out⟩, rfl⟩)
        | (simp [intOf]; omega)
    · obtain rfl : k = ls.length := by omega
      rw [List.take_length] at HQ
      have hlp := loopsP_len ls
      have c1 := hq.blk.cell 1
      simp only [List.getElem?_toArray, List.getElem?_cons_zero, List.getElem?_cons_succ] at c1
      clear hq hlt hk
      go_upto_region 12 with (at_builtin; refine wpl_push rfl _ _ rfl w.heap.size u5 _ rfl (HQ.out.ow.alloc _) _ _ _ [⟨2, cs.length⟩] rfl rfl (newsAt rfl rfl) (by simp; omega) (by simp; omega) ?_; intro v2 w2 ho2 hb2)
      obtain ⟨l1, hl1⟩ : ∃ l1, l1 = [⟨2, (ls.length : Int)⟩] ++ loopsP ls ++ [⟨2, (cs.length : Int)⟩] := ⟨_, rfl⟩
      have hll1 : l1.length ≤ 100 := by rw [hl1]; simp; omega
      have p2 := HQ.out.next (((Ft.refl _ _ wr).alloc _).trans hb2) ho2
      rw [← hl1] at p2
      have P2 := Lib.hid p2
      have HL1 := Lib.hid hl1
      clear p2 hl1 ho2 hb2 HQ c0 c1 hql hBr hlp
      go_wp2
      go_loopw [5, 8] (fun u t wr => ∃ k : Nat, k ≤ cs.length ∧ t = .int .i64 k ∧ PD w.heap.size w.heap.size w #[.slice al ls.length capl, .slice ac cs.length capc] (l1 ++ claimsP (cs.take k)) u wr) (fun _ t _ => cs.length - (intOf t).toNat)
      case atStart => exact ⟨0, by omega, rfl, by simpa [claimsP] using P2.out⟩
      case round =>
        clear P2
        obtain ⟨k, hk, rfl, hq⟩ := hrel
        have HQ := Lib.hid hq
        have hBr := hq.size (Nat.le_refl _)
        have c1 := hq.blk.cell 1
        have hql := hq.blk.lt
        simp only [List.getElem?_toArray, List.getElem?_cons_zero, List.getElem?_cons_succ] at c1
        by_cases hlt : k < cs.length
        · have hlt' : (k : Int) < (cs.length : Int) := by omega
          obtain ⟨x, hx⟩ : ∃ x, cs[k]? = some x := ⟨_, List.getElem?_eq_getElem hlt⟩
          obtain ⟨bb, off, vx, ea, hbb, hra, hsl⟩ := HC.out k x hx
          subst ea
          have hbel := hq.fr.below (Nat.le_refl _)
          have HRA := Lib.hid (rangeAt_below hra hbel hbb)
          have HSL := Lib.hid (hsl.below hbel)
          have hxl := hll.out x (List.mem_of_getElem? hx)
          have hs := claimsP_succ hx
          have hcl := claimsP_len (cs.take k) (fun y hy => hll.out y (List.mem_of_mem_take hy))
          have htk : (cs.take k).length ≤ 512 := by simp; omega
          have HS := Lib.hid hs
          clear hx hra hsl hbel hs hq
          go_wp2_with (refine wpl_loadR rfl 61 (.tmp 72) rfl bb (off + k * 128) rfl HRA.out rowClaim (bx_size _ _ _) ?_)
          refine (claimpieces_any wr w.heap.size _ _ HQ.out.ow hBr (by simp; omega) x.d x.f vx x.l HSL.out (by omega)).mono ?_
          rintro e w4 ⟨hf4, v4, rfl, ho4⟩
          have h4 := HQ.out.next hf4 ho4
          rw [List.append_assoc, ← HS.out] at h4
          have H4 := Lib.hid h4
          clear h4 hf4 ho4 HQ HRA HSL c1
          go_wp2
          go_roundw
          all_goals first
            | exact ⟨k + 1, by omega, by go_num, H4.out⟩
            | ((repeat apply Exists.intro); exact ⟨⟨k + 1, by omega, by go_num, H4.out⟩, rfl⟩)
            | (simp [intOf]; omega)
        · obtain rfl : k = cs.length := by omega
          rw [List.take_length] at HQ
          have hdp : l1 ++ claimsP cs = deedP ⟨ls, cs⟩ := by
            rw [HL1.out]
            rfl
          rw [hdp] at HQ
          have hlen := deedP_len HP.out
          obtain ⟨l, hl⟩ : ∃ l, l = deedP ⟨ls, cs⟩ := ⟨_, rfl⟩
          rw [← hl] at HQ hlen
          have hpos : 0 < l.length := by rw [hl, ← hdp, HL1.out]; simp
          have hbb := deedP_B ⟨ls, cs⟩
          rw [← hl] at hbb
          have HBB := Lib.hid hbb
          have HIN : Hid (∀ p ∈ l, PcIn p) := by
            show ∀ p ∈ l, PcIn p
            rw [hl]
            exact HALL.out
          obtain ⟨W3, rfl⟩ : ∃ x : World, x = wr := ⟨_, rfl⟩
          clear hq hlt hk hdp hl hbb HALL HL1
          go_upto_region 17 with (fail)
          generalize hV : (W3.alloc (.cells #[.int .u8 87, .int .u8 65, .int .u8 82, .int .u8 49] 5)) = V
          have hf0 : Ft 80 w.heap.size w V := by rw [← hV]; exact HQ.out.fr.alloc _
          have HO : Hid (OwP w.heap.size V u5 l) := by rw [← hV]; exact HQ.out.ow.alloc _
          have hy0 : OwY w.heap.size V (.slice (some ⟨W3.heap.size, 0, none⟩) 4 4) [87, 65, 82, 49] := by
            rw [← hV]
            exact ⟨rfl, Or.inr ⟨W3.heap.size, 4, _, rfl, hBr, heap_alloc_new W3 _, by decide, by decide, rfl, rfl⟩⟩
          have HF0 := Lib.hid hf0
          have HY0 := Lib.hid hy0
          clear hV hf0 hy0 HQ c1 hql
          go_wp2
          go_loopw [9, 10] (fun u t wr => ∃ k : Nat, k ≤ l.length ∧ t = .int .i64 k ∧ OwY w.heap.size wr u ([87, 65, 82, 49] ++ piB (l.take k)) ∧ Ft 5 w.heap.size V wr) (fun _ t _ => l.length - (intOf t).toNat)
          case atStart => exact ⟨0, by omega, rfl, by simpa [piB] using HY0.out, Ft.refl _ _ _⟩
          case round =>
            clear HY0
            obtain ⟨k, hk, rfl, hy, hf⟩ := hrel
            have HY := Lib.hid hy
            have HF := Lib.hid hf
            obtain ⟨g, pcap, rfl, hg, _⟩ := HO.out.get (List.getElem?_eq_getElem (show 0 < l.length by omega))
            have hBr := Nat.le_trans (HF0.out.size) hf.size
            have hpl := piB_len (l.take k)
            have htk : (l.take k).length ≤ l.length := by simp; omega
            by_cases hlt : k < l.length
            · have hlt' : (k : Int) < (l.length : Int) := by omega
              obtain ⟨x, hx⟩ : ∃ x, l[k]? = some x := ⟨_, List.getElem?_eq_getElem hlt⟩
              obtain ⟨g', pcap', ev, _, hgl, d0, d1⟩ := (HO.out.keepY hf).get hx
              simp only [Value.slice.injEq, Option.some.injEq, Addr.mk.injEq, and_true, true_and] at ev
              obtain ⟨rfl, rfl⟩ := ev
              have hin := HIN.out x (List.mem_of_getElem? hx)
              have hs := piB_succ hx
              obtain ⟨xk, xx⟩ := x
              unfold PcIn at hin
              simp only at d0 d1 hin
              have HS := Lib.hid hs
              clear hx hy hf hs
              rcases hin with ⟨rfl, h0, h1⟩ | ⟨rfl, h0, h1⟩ | ⟨rfl, h0, h1⟩
              · obtain ⟨n, rfl⟩ := Int.eq_ofNat_of_zero_le h0
                have hwr : IntKind.u8.wrap (n : Int) = n := IntWalk.u8_in _ (by omega)
                go_upto_region 19 with (at_builtin; refine wpl_bytes rfl _ _ rfl w.heap.size u9 _ rfl (HY.out.alloc _) _ _ _ [n] rfl rfl (newsAt rfl rfl) (by simp; omega) (by simp; omega) ?_; intro v4 w4 ho4 hb4)
                have HN := Lib.hid (And.intro ho4 (HF.out.trans (((Ft.refl _ _ wr).alloc _).trans hb4)))
                have e5 : [87, 65, 82, 49] ++ piB (l.take k) ++ [n] = [87, 65, 82, 49] ++ piB (l.take (k + 1)) := by
                  rw [HS.out, List.append_assoc]
                  simp [pcB]
                rw [e5] at HN
                clear e5 ho4 hb4 HY HF HS d0 d1
                go_wp2
                go_roundw
                all_goals first
                  | exact ⟨k + 1, by omega, by go_num, HN.out⟩
                  | ((repeat apply Exists.intro); exact ⟨⟨k + 1, by omega, by go_num, HN.out⟩, rfl⟩)
                  | (simp [intOf]; omega)
              · obtain ⟨n, rfl⟩ := Int.eq_ofNat_of_zero_le h0
                go_wp2_with fail
                refine (refnum_eq wr w.heap.size _ _ HY.out hBr n (by omega) (by simp; omega) rfl).mono ?_
                rintro e w4 ⟨hb4, v4, rfl, ho4⟩
                have HN := Lib.hid (And.intro ho4 (HF.out.trans hb4))
                have e5 : [87, 65, 82, 49] ++ piB (l.take k) ++ leb 9 n = [87, 65, 82, 49] ++ piB (l.take (k + 1)) := by
                  rw [HS.out, List.append_assoc]
                  simp [pcB]
                rw [e5] at HN
                clear e5 ho4 hb4 HY HF HS d0 d1
                go_wp2
                go_roundw
                all_goals first
                  | exact ⟨k + 1, by omega, by go_num, HN.out⟩
                  | ((repeat apply Exists.intro); exact ⟨⟨k + 1, by omega, by go_num, HN.out⟩, rfl⟩)
                  | (simp [intOf]; omega)
              · have hsg := sg_lt ⟨h0, h1⟩
                by_cases hneg : 0 ≤ xx
                · have e2 : (2 * xx : Int) = (sg xx : Int) := by unfold sg; omega
                  have E2 := Lib.hid e2
                  have hw1 : wrap64 (2 * xx) = 2 * xx := by unfold wrap64; omega
                  clear e2
                  go_wp2_with fail
                  refine (refnum_eq wr w.heap.size _ _ HY.out hBr (sg xx) (by omega) (by simp; omega) (by first | exact E2.out | (have := E2.out; omega))).mono ?_
                  rintro e w4 ⟨hb4, v4, rfl, ho4⟩
                  have HN := Lib.hid (And.intro ho4 (HF.out.trans hb4))
                  have e5 : [87, 65, 82, 49] ++ piB (l.take k) ++ leb 9 (sg xx) = [87, 65, 82, 49] ++ piB (l.take (k + 1)) := by
                    rw [HS.out, List.append_assoc]
                    simp [pcB]
                  rw [e5] at HN
                  clear e5 ho4 hb4 HY HF HS d0 d1
                  go_wp2
                  go_roundw
                  all_goals first
                    | exact ⟨k + 1, by omega, by go_num, HN.out⟩
                    | ((repeat apply Exists.intro); exact ⟨⟨k + 1, by omega, by go_num, HN.out⟩, rfl⟩)
                    | (simp [intOf]; omega)
                · have e2 : (-2 * xx - 1 : Int) = (sg xx : Int) := by unfold sg; omega
                  have E2 := Lib.hid e2
                  have hw1 : wrap64 (-2 * xx) = -2 * xx := by unfold wrap64; omega
                  have hw2 : wrap64 (-2 * xx - 1) = -2 * xx - 1 := by unfold wrap64; omega
                  clear e2
                  go_wp2_with fail
                  refine (refnum_eq wr w.heap.size _ _ HY.out hBr (sg xx) (by omega) (by simp; omega) (by first | exact E2.out | (have := E2.out; omega))).mono ?_
                  rintro e w4 ⟨hb4, v4, rfl, ho4⟩
                  have HN := Lib.hid (And.intro ho4 (HF.out.trans hb4))
                  have e5 : [87, 65, 82, 49] ++ piB (l.take k) ++ leb 9 (sg xx) = [87, 65, 82, 49] ++ piB (l.take (k + 1)) := by
                    rw [HS.out, List.append_assoc]
                    simp [pcB]
                  rw [e5] at HN
                  clear e5 ho4 hb4 HY HF HS d0 d1
                  go_wp2
                  go_roundw
                  all_goals first
                    | exact ⟨k + 1, by omega, by go_num, HN.out⟩
                    | ((repeat apply Exists.intro); exact ⟨⟨k + 1, by omega, by go_num, HN.out⟩, rfl⟩)
                    | (simp [intOf]; omega)
            · obtain rfl : k = l.length := by omega
              rw [List.take_length, HBB.out] at HY
              obtain ⟨dl, hdl⟩ : ∃ dl, dl = deedB ⟨ls, cs⟩ := ⟨_, rfl⟩
              have hdb : [87, 65, 82, 49] ++ bodyB ⟨ls, cs⟩ = dl := by rw [hdl]; rfl
              rw [hdb] at HY
              rw [List.take_length, HBB.out] at hpl
              have hdll : dl.length ≤ 1000000000 := by rw [← hdb]; simp; omega
              obtain ⟨y, cy, rfl⟩ := own_form HY.out
              have HD := Lib.hid hdl
              have hbel : Below w.heap.size w wr := (HF0.out.below (Nat.le_refl _)).trans (hf.below HF0.out.size)
              have BEL := Lib.hid hbel
              clear hdb hdl hy hf HF hlt hk hpl hbel
              by_cases hbig : 4194304 < dl.length
              · have hbig' : (4194304 : Int) < (dl.length : Int) := by omega
                have e2 : Hid (encE ⟨ls, cs⟩ = 2) := by
                  show _ = _
                  unfold encE
                  rw [if_pos HP.out, if_pos (by rw [← HD.out]; exact hbig)]
                go_wp2
                go_ret2
                refine ⟨BEL.out, .slice none 0 0, by rw [e2.out]; rfl, ?_⟩
                rw [show encD ⟨ls, cs⟩ = [] by unfold encD; rw [e2.out]; rfl]
                exact owns_nil _ _
              · have hbig' : ¬ (4194304 : Int) < (dl.length : Int) := by omega
                have e2 : Hid (encE ⟨ls, cs⟩ = 0) := by
                  show _ = _
                  unfold encE
                  rw [if_pos HP.out, if_neg (by rw [← HD.out]; exact hbig)]
                go_wp2
                go_ret2
                refine ⟨BEL.out, _, by rw [e2.out]; rfl, ?_⟩
                rw [show encD ⟨ls, cs⟩ = dl by unfold encD; rw [e2.out, if_pos rfl, HD.out]]
                exact HY.out

theorem rencode_ok (w : World) (vl vc : Value) (d : Dd) (h : SlD w.heap.size w vl vc d) : Calls Try.prog 14 #[.agg #[vl, vc]] w (EncP d w) := by
  by_cases hp : plainD d = 0
  · exact renc_good w vl vc d h hp
  · exact renc_bad w vl vc d h hp
end Go.Proofs.Ytfdjdpbiccclfaa
