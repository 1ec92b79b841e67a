/- The reference's Make. -/
import Derived.Test.YtpiiefdaaijgbaaGAll
namespace Go.Proofs.Ytpiiefdaaijgbaa
open Go Go.RowKit Go.Wr Go.Fl
set_option maxHeartbeats 4000000
set_option maxRecDepth 100000

theorem lost_no {l : List In} {k : Nat} {x : In} (hx : l[k]? = some x) (hj : jump x = false) : lost l k = false ∧ tgt l k = none := by
  unfold lost tgt
  rw [hx]
  simp [hj]
theorem lost_at {l : List In} {k : Nat} {x : In} (hx : l[k]? = some x) (hj : jump x = true) {o : Option Nat} (ho : o = atU l (goal l k x)) : lost l k = o.isNone ∧ tgt l k = o := by
  unfold lost tgt
  rw [hx]
  subst ho
  simp [hj]
/-- The first instruction of a block, as it lies. -/
theorem Rw2.from {q : Nat} {l : List In} {bb off cb : Nat} {vo : Value} {bs : List Bk} {w : World} (h : Rw2 q l (.slice (some ⟨bb, off, none⟩) (nB l) cb) vo bs w) {b : Nat} (hb : b < nB l) : w.cell? ⟨bb, off + b * 3, none⟩ = some (.int .i64 (frF l b : Int)) := by
  obtain ⟨k, hk⟩ : ∃ k, bs[b]? = some k := ⟨_, List.getElem?_eq_getElem (by rw [h.lb]; exact hb)⟩
  obtain ⟨b', o', e, _, hat⟩ := h.sb.get hk
  injection e with e
  injection e with e1 e2
  subst e1 e2
  have := (at_bk hat).1
  rw [(h.nb b k hk).1] at this
  exact this
theorem Rw2.fwr {q : Nat} {l : List In} {vb vo : Value} {bs : List Bk} {w : World} (h : Rw2 q l vb vo bs w) (h0 : w.cell? ⟨q, 0, none⟩ = some vb) : FwR q (nB l) (nxt l) vb bs w :=
  ⟨h0, h.lb, h.sb, fun b k hk => (h.nb b k hk).2.2⟩
/-- While the order is turned round. -/
structure Oo (WX : World) (q : Nat) (vb vd vl vo vr : Value) (R : List Nat) (wr : World) : Prop where
  ex : Ex q WX wr
  pb : Blk wr q 75 #[vb, vd, vl, vr, vo]
  od : OwR tI WX.heap.size wr vr (nI R)
theorem Oo.below {WX wr w' : World} {q : Nat} {vb vd vl vo vr : Value} {R : List Nat} (h : Oo WX q vb vd vl vo vr R wr) (b : Below wr.heap.size wr w') : Oo WX q vb vd vl vo vr R w' :=
  ⟨h.ex.trans (Ex.of_below b), h.pb.below b h.pb.lt, h.od.below b⟩
theorem Oo.put {WX wr w' : World} {q : Nat} {vb vd vl vo vr v' : Value} {R : List Nat} {x : Nat} (h : Oo WX q vb vd vl vo vr R wr) (ho : OwR tI WX.heap.size w' v' (nI (R ++ [x]))) (hg : wr.grownBy w' vr.ownBlock) : Oo WX q vb vd vl vo v' (R ++ [x]) (w'.setCell ⟨q, 3, none⟩ v') := by
  have hpb : Blk w' q 75 #[vb, vd, vl, vr, vo] := h.pb.of_block (hg.block q h.pb.lt (fun e => h.od.ne h.pb (by decide) e.symm))
  exact ⟨(h.ex.grown hg fun g e => (h.od.blk e).1).set 3 v', (hpb.set 3 v').eq rfl, ho.set_other (ho.ne hpb (by decide))⟩
theorem rmake_ok (w : World) (q0 : Nat) (v : Value) (l : List In) (h : SlX tN q0 w v l) : Calls Try.prog 43 #[v] w (RMakeP l w) := by
  obtain ⟨a0, cap, rfl, h1, h2⟩ := h.form
  have H := Lib.hid h
  unfold maxLen at h2
  obtain ⟨c1, hc1⟩ : ∃ c, c = (chk 0 l).1 := ⟨_, rfl⟩
  obtain ⟨c2, hc2⟩ : ∃ c, c = (chk 0 l).2 := ⟨_, rfl⟩
  have HC1 := Lib.hid hc1
  have HC2 := Lib.hid hc2
  clear h hc1 hc2
  go_enter Try.func43, Try.ntmps43
  go_wp2_with fail
  refine (rcheck_ok _ q0 _ l H.out).mono ?_
  rintro e w1 ⟨rfl, b1⟩
  rw [← HC1.out, ← HC2.out]
  have HB1 := Lib.hid b1
  clear b1
  by_cases hce : c2 = 0
  · have hce' : (c2 != 0) = false := by simp [hce]
    have HCE := Lib.hid (show (chk 0 l).2 = 0 by rw [← HC2.out]; exact hce)
    clear hce
    by_cases hl0 : l.length = 0
    · have hl0' : ((l.length : Int) == 0) = true := by simp [hl0]
      have HL0 := Lib.hid (show l = [] from List.length_eq_zero_iff.1 hl0)
      clear hl0
      go_wp2
      go_ret3
      exact RMakeP.no (mk_nil HL0.out) (by decide) HB1.out _ _ rfl rfl
    · have hl0' : ((l.length : Int) == 0) = false := beq_eq_false_iff_ne.2 (by omega)
      have hlp : 0 < l.length := by omega
      have HG1 := Lib.hid (show G1 l from ⟨HCE.out, fun e => hl0 (by rw [e]; rfl)⟩)
      have hlen := HG1.out.len
      have HR := Lib.hid (chk_ok (k := 0) (Nat.zero_le _) HCE.out).1
      clear hl0 HCE
      go_wp2_with fail
      refine (runits_ok _ q0 _ l (H.out.below HB1.out) (by omega)).mono ?_
      rintro e w2 ⟨b2, gu, cu, rfl, hu⟩
      have HB2 := Lib.hid (bThen HB1.out b2)
      have HU := Lib.hid (show SlX tI gu.succ w2 (.slice (some ⟨gu, 0, none⟩) (l.length + 1) cu) (unitsI l l.length) from hu.sl (fun e => by injection e with e; simp only at e; omega))
      clear b2 hu
      go_wp2
      go_loopw [8, 9] (fun t8 t9 wr => ∃ (v0 : Value) (k : Nat), v0 = t8 ∧ t9 = .int .i64 (k : Int) ∧ k ≤ l.length ∧ Hid (OwR tI w2.heap.size wr v0 (tosI l k)) ∧ Hid (∀ j, j < k → lost l j = false) ∧ Hid (Below w2.heap.size w2 wr)) (fun _ t _ => l.length - (intOf t).toNat)
      case atStart => exact ⟨_, 0, rfl, rfl, by omega, by show OwR _ _ _ _ _; exact OwR.nil _ _, (fun j hj => by omega), bRefl w2⟩
      case round =>
        obtain ⟨v0, k, rfl, rfl, hk, ho, hq, hb⟩ := hrel
        have hbw := Lib.hid (bThen HB2.out hb.out)
        by_cases hlt : k < l.length
        · have hlt' : (k : Int) < (l.length : Int) := by omega
          have hk0 : (0 : Int) ≤ (k : Int) := by omega
          obtain ⟨x, hx⟩ : ∃ x, l[k]? = some x := ⟨_, List.getElem?_eq_getElem hlt⟩
          have hxm : x ∈ l := List.mem_of_getElem? hx
          have hof := right_off (HR.out x hxm)
          have HIM := Lib.hid (right_imm (HR.out x hxm))
          obtain ⟨bb, off, rfl, hne, hat⟩ := (H.out.below hbw.out).get hx
          obtain ⟨c0, c1', c2', c3, c4, c5, c6, c7⟩ := at_ins hat
          have e8 : tN.n = 8 := rfl
          rw [e8] at c0 c1' c2' c3 c4 c5 c6 c7
          have HT := Lib.hid (tosI_succ l k)
          have HX := Lib.hid hx
          clear hx hxm hat e8
          go_wp2_with fail
          refine (jumpsR_ok _ x).mono ?_
          rintro e w3 ⟨rfl, b3⟩
          have HB3 := Lib.hid (bThen hb.out b3)
          have HO3 := Lib.hid (ho.out.below b3)
          have HBW3 := Lib.hid (bThen hbw.out b3)
          clear ho b3 c0 c1' c2' c3 c4 c5 c6 c7
          cases hj : jump x with
          | false =>
            have HTG : Hid (oi (tgt l k) = -1) := by show _ = _; rw [(lost_no HX.out hj).2]; rfl
            have HLO := Lib.hid (lost_no HX.out hj).1
            clear hj
            go_wp2_with (at_builtin; refine wpl_push tI rfl _ _ rfl w2.heap.size v0 (tosI l k) (by rfl) (HO3.out.alloc _) _ 0 1 1 [(-1 : Int)] (by rfl) rfl (rangeNew (by rfl) (by rfl)) (by rw [tosI_len]; unfold maxLen; simp; omega) (by rw [tosI_len]; show _ * 8 ≤ _; simp; omega) (Nat.le_trans HB3.out.size (by simp)) ?_; intro v' w9 hown hgrow _)
            have b9 := (HB3.out.alloc HB3.out.size _).grown hgrow (Nat.le_trans HB3.out.size (by simp)) (fun q hq => (HO3.out.blk hq).1)
            have ho9 : OwR tI w2.heap.size w9 v' (tosI l (k + 1)) := by
              rw [HT.out, HTG.out]
              exact hown
            have hq9 : ∀ j, j < k + 1 → lost l j = false := fun j hj => by
              by_cases hjk : j < k
              · exact hq.out j hjk
              · obtain rfl : j = k := by omega
                exact HLO.out
            exact ⟨⟨v', k + 1, rfl, by go_num, by omega, ho9, hq9, b9⟩, by simp [intOf]; omega⟩
          | true =>
            go_wp2_with fail
            refine (goes_ok _ q0 gu.succ _ _ l (H.out.below HBW3.out) (HU.out.below HB3.out) (by omega) k x HX.out (by omega) (fun h1 h2 => by have := HIM.out h1 h2; omega)).mono ?_
            rintro e w4 ⟨rfl, b4⟩
            have HB4 := Lib.hid (bThen HB3.out b4)
            have HO4 := Lib.hid (HO3.out.below b4)
            have HBW4 := Lib.hid (bThen HBW3.out b4)
            clear b4 HO3 HB3 HBW3
            cases ha : atU l (goal l k x) with
            | none =>
              have HM := Lib.hid (mk_lost HG1.out hlt (show lost l k = true by rw [(lost_at HX.out hj ha.symm).1]; rfl) hq.out)
              clear hj ha
              simp only [oi]
              go_wp2
              go_ret3
              exact RMakeP.no HM.out (by decide) HBW4.out _ _ rfl rfl
            | some j =>
              have HTG : Hid (oi (tgt l k) = (j : Int)) := by show _ = _; rw [(lost_at HX.out hj ha.symm).2]; rfl
              have HLO := Lib.hid (show lost l k = false by rw [(lost_at HX.out hj ha.symm).1]; rfl)
              have hjn : ¬ (j : Int) < 0 := by omega
              clear hj ha
              simp only [oi]
              go_wp2_with (at_builtin; refine wpl_push tI rfl _ _ rfl w2.heap.size v0 (tosI l k) (by rfl) (HO4.out.alloc _) _ 0 1 1 [(j : Int)] (by rfl) rfl (rangeNew (by rfl) (by rfl)) (by rw [tosI_len]; unfold maxLen; simp; omega) (by rw [tosI_len]; show _ * 8 ≤ _; simp; omega) (Nat.le_trans HB4.out.size (by simp)) ?_; intro v' w9 hown hgrow _)
              have b9 := (HB4.out.alloc HB4.out.size _).grown hgrow (Nat.le_trans HB4.out.size (by simp)) (fun q hq => (HO4.out.blk hq).1)
              have ho9 : OwR tI w2.heap.size w9 v' (tosI l (k + 1)) := by
                rw [HT.out, HTG.out]
                exact hown
              have hq9 : ∀ j, j < k + 1 → lost l j = false := fun j hj => by
                by_cases hjk : j < k
                · exact hq.out j hjk
                · obtain rfl : j = k := by omega
                  exact HLO.out
              exact ⟨⟨v', k + 1, rfl, by go_num, by omega, ho9, hq9, b9⟩, by simp [intOf]; omega⟩
        · obtain rfl : k = l.length := by omega
          have HG2 := Lib.hid (show G2 l from ⟨HG1.out, hq.out⟩)
          have HOT := Lib.hid ho.out
          obtain ⟨x, hx⟩ : ∃ x, l[l.length - 1]? = some x := ⟨_, List.getElem?_eq_getElem (by omega)⟩
          have HEN := Lib.hid (endOk_iff hx)
          obtain ⟨bb, off, rfl, _, hat⟩ := (H.out.below hbw.out).get hx
          obtain ⟨c0, _⟩ := at_ins hat
          have e8 : tN.n = 8 := rfl
          rw [e8] at c0
          have hsub : ((l.length : Int) - 1) = ((l.length - 1 : Nat) : Int) := by omega
          have hl1 : (0 : Int) ≤ (l.length : Int) - 1 := by omega
          have hl2 : (l.length : Int) - 1 < (l.length : Int) := by omega
          have hl3 : ((l.length : Int) - 1).toNat = l.length - 1 := by omega
          obtain ⟨ww, rfl⟩ : ∃ x : World, x = wr := ⟨_, rfl⟩
          clear hat e8 hx hq ho hk HR HU
          by_cases hend : endOk l
          · have hg3 : G3 l := ⟨HG2.out, hend⟩
            have HG3 := Lib.hid hg3
            go_upto_region 18 with (fail)
            go_cut [69] (fun t wc => t = .bool false ∧ ww = wc)
            case first =>
              rcases HEN.out.1 hend with hop | hop
              · have hz1 : (x.op != 26) = false := by simp [hop]
                clear hop
                go_wp2
                go_meet
                exact ⟨rfl, rfl⟩
              · have hz1 : (x.op != 26) = true := by simp [hop]
                have hz2 : (x.op != 39) = false := by simp [hop]
                clear hop
                go_wp2
                go_meet
                exact ⟨rfl, rfl⟩
            case rest =>
              obtain ⟨rfl, rfl⟩ := hcut
              clear hend c0 hsub hl1 hl2 hl3 hlt
              have hnl := nB_le l
              have hn0 : 0 < nB l := hg3.pos
              clear hg3
              go_wp2_with fail
              generalize hW3 : ww.alloc (.cells #[sn, sn, sn, sn, sn] 75) = W3
              obtain ⟨q, hq⟩ : ∃ q, q = ww.heap.size := ⟨_, rfl⟩
              have b3 : Blk W3 q 75 #[sn, sn, sn, sn, sn] := by rw [← hW3, hq]; exact Blk.new _ _ _
              have hs3 : SlX tN q W3 (.slice (some ⟨bb, off, none⟩) l.length cap) l := by rw [← hW3]; exact (SlX.re (H.out.below hbw.out) (by omega)).below (bAl (bRefl ww) _)
              have ht3 : SlX tI q W3 v0 (tosI l l.length) := by rw [← hW3]; exact (HOT.out.sl (p := q) (fun e => by have := HOT.out.lt e; omega)).below (bAl (bRefl ww) _)
              have HBW := Lib.hid (show Below w.heap.size w W3 by rw [← hW3]; exact bAl hbw.out _)
              have hwq : w.heap.size ≤ q := by rw [hq]; exact hbw.out.size
              rw [← hq]
              refine (rblocks_ok _ q l _ _ hs3 ht3 hlen hlp b3).mono ?_
              rintro e w4 ⟨rfl, ex4, vb, vo, bs, b4, rw4⟩
              clear hs3 ht3 b3 hW3 hq
              obtain ⟨ab, cb, rfl, hab1, hab2⟩ := rw4.sb.form
              rw [rw4.lb] at b4 rw4 hab1
              unfold maxLen at hab2
              obtain ⟨ob, hob⟩ : ∃ k, bs[0]? = some k := ⟨_, List.getElem?_eq_getElem (by rw [rw4.lb]; exact hn0)⟩
              obtain ⟨gb, fb, rfl, _, hat0⟩ := rw4.sb.get hob
              have HP4 := Lib.hid b4
              have HW4 := Lib.hid rw4
              have HBT := Lib.hid (show Below w.heap.size w w4 from HBW.out.trans (ex4.below hwq HBW.out.size))
              have k0 : w4.cell? ⟨q, 0, none⟩ = some (.slice (some ⟨gb, fb, none⟩) (nB l) cb) := b4.cell 0
              have hq4 : q < w4.heap.size := b4.lt
              clear hat0 hob ex4 b4 rw4 hbw hb HOT HB2 HB1
              by_cases hbig : 512 < nB l
              · have hbig' : (512 : Int) < (nB l : Int) := by omega
                have HM := Lib.hid (mk_many HG3.out hbig)
                have hfrm := Lib.hid (frm_frF hbig)
                have cf := HW4.out.from hbig
                go_upto_region 23 with (fail)
                go_quiet (fail)
                go_wp2
                go_ret3
                exact RMakeP.no HM.out (by decide) (bDraw HBT.out _) _ _ (by rw [hfrm.out]) rfl
              · have hbig' : ¬ (512 : Int) < (nB l : Int) := by omega
                have HG4 := Lib.hid (show G4 l from ⟨HG3.out, by omega⟩)
                have hn4 : nB l ≤ 4096 := by omega
                go_wp2_with fail
                refine (reached_ok _ q (nB l) (nxt l) HG3.out.nlt hn0 hn4 (fun u => by have := nxt_two l u; omega) _ bs (HW4.out.fwr k0) hq4 (-1)).mono ?_
                rintro e w5 ⟨b5, gR, rfl, hor⟩
                have HOR := Lib.hid hor
                have HP5 := Lib.hid (HP4.out.below b5 HP4.out.lt)
                have HW5 := Lib.hid (HW4.out.ex (Ex.of_below b5))
                have HBT5 := Lib.hid (bThen HBT.out b5)
                clear hor b5 HP4 HW4 HBT k0 hq4
                go_wp2
                go_loopw [14] (fun t14 wr => ∃ b : Nat, b ≤ nB l ∧ t14 = .int .i64 (b : Int) ∧ w5 = wr ∧ Hid (∀ x, x < b → ∃ w, RW (nxt l) w x)) (fun t _ => nB l - (intOf t).toNat)
                case atStart => exact ⟨0, by omega, rfl, rfl, fun x hx => by omega⟩
                case round =>
                  obtain ⟨b, hb, rfl, rfl, hq⟩ := hrel
                  by_cases hlb : b < nB l
                  · have hlb' : (b : Int) < (nB l : Int) := by omega
                    have hb0 : (0 : Int) ≤ (b : Int) := by omega
                    have cb1 := OwB.cell HOR.out hlb
                    cases hrc : rcB (nxt l) (-1) b with
                    | true =>
                      rw [hrc] at cb1
                      have hq9 : Hid (∀ x, x < b + 1 → ∃ w, RW (nxt l) w x) := fun x hx => by
                        by_cases e : x < b
                        · exact hq.out x e
                        · obtain rfl : x = b := by omega
                          exact Rc.any.1 (rcB_iff.1 hrc)
                      clear hq hrc
                      go_wp2
                      go_roundw
                      all_goals first
                        | exact ⟨b + 1, by omega, by go_num, trivial, hq9.out⟩
                        | ((repeat apply Exists.intro); exact ⟨⟨b + 1, by omega, by go_num, trivial, hq9.out⟩, rfl⟩)
                        | (simp [intOf]; omega)
                    | false =>
                      rw [hrc] at cb1
                      have HM := Lib.hid (mk_reach HG4.out hlb (fun h => by have := rcB_iff.2 (Rc.any.2 h); rw [hrc] at this; cases this) hq.out)
                      have hfrm := Lib.hid (frm_frF hlb)
                      have cf := HW5.out.from hlb
                      have k0 : w5.cell? ⟨q, 0, none⟩ = some (.slice (some ⟨gb, fb, none⟩) (nB l) cb) := HP5.out.cell 0
                      clear hq hrc
                      go_upto_region 29 with (fail)
                      go_quiet (fail)
                      go_wp2
                      go_ret3
                      exact RMakeP.no HM.out (by decide) (bDraw HBT5.out _) _ _ (by rw [hfrm.out]) rfl
                  · obtain rfl : b = nB l := by omega
                    have HG5 := Lib.hid (show G5 l from ⟨HG4.out, hq.out⟩)
                    have HDK := Lib.hid (show Dk w5 q (nB l) (nxt l) (.slice (some ⟨gb, fb, none⟩) (nB l) cb) vo sn [] w5 from ⟨Ex.refl _ _, HP5.out, OwR.nil _ _, fun i s hs => by simp at hs⟩)
                    have k0 : w5.cell? ⟨q, 0, none⟩ = some (.slice (some ⟨gb, fb, none⟩) (nB l) cb) := HP5.out.cell 0
                    clear hlb hq
                    go_wp2
                    go_loopw [15] (fun t15 wr => ∃ (a : Nat) (vd : Value) (rows : List Sv), a ≤ nB l ∧ t15 = .int .i64 (a : Int) ∧ Hid (Dk w5 q (nB l) (nxt l) (.slice (some ⟨gb, fb, none⟩) (nB l) cb) vo vd rows wr) ∧ Hid (rows.length = a)) (fun t _ => nB l - (intOf t).toNat)
                    case atStart => exact ⟨0, sn, [], by omega, rfl, HDK.out, rfl⟩
                    case round =>
                      clear HDK k0
                      obtain ⟨a, vd, rows, ha, rfl, hD, hrl⟩ := hrel
                      have k0 : wr.cell? ⟨q, 0, none⟩ = some (.slice (some ⟨gb, fb, none⟩) (nB l) cb) := hD.out.pb.cell 0
                      by_cases hla : a < nB l
                      · have hla' : (a : Int) < (nB l : Int) := by omega
                        go_wp2_with fail
                        refine (reached_ok _ q (nB l) (nxt l) HG3.out.nlt hn0 hn4 (fun u => by have := nxt_two l u; omega) _ bs ((HW5.out.ex hD.out.ex).fwr k0) hD.out.pb.lt (a : Int)).mono ?_
                        rintro e w6 ⟨b6, gA, rfl, hoa⟩
                        rw [← ngK_zero] at hoa
                        have HD6 := Lib.hid (hD.out.below b6)
                        have HOA := Lib.hid hoa
                        have HLW := Lib.hid (show ∀ wz, Below wr.heap.size wr wz → Dk w5 q (nB l) (nxt l) (.slice (some ⟨gb, fb, none⟩) (nB l) cb) vo vd rows wz from fun wz hb => hD.out.below hb)
                        have HB6 := Lib.hid b6
                        have hszD := hD.out.ex.size
                        clear hD hoa b6 k0
                        obtain ⟨wo, hwo⟩ : ∃ x : World, x = wr := ⟨_, rfl⟩
                        rw [← hwo] at HOA HLW HB6 hszD
                        clear hwo
                        go_wp2
                        go_loopw [17] (fun t17 wr => ∃ j : Nat, j ≤ nB l ∧ t17 = .int .i64 (j : Int) ∧ Hid (OwR tB wo.heap.size wr (.slice (some ⟨gA, 0, none⟩) (nB l) (nB l)) (ngK (rcB (nxt l) (a : Int)) (nB l) j)) ∧ Hid (Below wo.heap.size wo wr)) (fun t _ => nB l - (intOf t).toNat)
                        case atStart => exact ⟨0, by omega, rfl, HOA.out, HB6.out⟩
                        case round =>
                          clear HOA HD6
                          obtain ⟨j, hj, rfl, hO, hB⟩ := hrel
                          by_cases hlj : j < nB l
                          · have hlj' : (j : Int) < (nB l : Int) := by omega
                            have hj0 : (0 : Int) ≤ (j : Int) := by omega
                            have cj := (hO.out.at (ngK_get (rcB (nxt l) (a : Int)) hlj)).cell 0 _ rfl
                            rw [show 0 + j * tB.n + 0 = j by show 0 + j * 1 + 0 = j; omega] at cj
                            have fj := hO.out.frozen j
                            have hset := hO.out.set (k := j) (j := 0) (y := !(rcB (nxt l) (a : Int) j)) (v := .bool (!(rcB (nxt l) (a : Int) j))) (ngK_get (rcB (nxt l) (a : Int)) hlj) (by decide) rfl
                            rw [ngK_set, show j * tB.n + 0 = j by show j * 1 + 0 = j; omega] at hset
                            have HO9 := Lib.hid hset
                            have HB9 := Lib.hid (hB.out.setCell (p := ⟨gA, j, none⟩) (hO.out.blk rfl).1 (.bool (!(rcB (nxt l) (a : Int) j))))
                            generalize rcB (nxt l) (a : Int) j = xb at cj HO9 HB9
                            clear hset hO hB
                            go_wp2
                            go_roundw
                            all_goals first
                              | exact ⟨j + 1, by omega, by go_num, HO9.out, HB9.out⟩
                              | ((repeat apply Exists.intro); exact ⟨⟨j + 1, by omega, by go_num, HO9.out, HB9.out⟩, rfl⟩)
                              | (simp [intOf]; omega)
                          · obtain rfl : j = nB l := by omega
                            have hrow := hO.out
                            rw [ngK_dom (nxt l) hla, ← hrl.out] at hrow
                            have HDW := Lib.hid (HLW.out wr hB.out)
                            have HROW := Lib.hid (show OwR tB w5.heap.size wr (Sv.v ⟨some ⟨gA, 0, none⟩, nB l, nB l⟩) ((List.range (nB l)).map fun (u : Nat) => domB (nxt l) (nB l) (rows.length : Int) (u : Int)) from hrow.mono hszD)
                            have hrl2 : rows.length ≤ nB l := by rw [hrl.out]; exact ha
                            have k1 : wr.cell? ⟨q, 1, none⟩ = some vd := HDW.out.pb.cell 1
                            have hszw := HDW.out.ex.size
                            obtain ⟨WD, rfl⟩ : ∃ x : World, x = wr := ⟨_, rfl⟩
                            clear hrow hO hB HLW HB6 hszD
                            go_upto_region 32 with (at_builtin; refine wpl_push tBB rfl _ _ rfl w5.heap.size vd rows (by rfl) (HDW.out.od.alloc _) _ 0 1 1 [⟨some ⟨gA, 0, none⟩, nB l, nB l⟩] (by rfl) rfl (rangeNew (by rfl) (by rfl)) (by unfold maxLen; simp; omega) (by show _ * 24 ≤ _; simp; omega) (Nat.le_trans hszw (by simp)) ?_; intro v' w9 hown hgrow hform; obtain ⟨g', c', rfl, _⟩ := hform (by simp); have hp9 := (HDW.out.pb.alloc (.cells #[.slice (some ⟨gA, 0, none⟩) (nB l) (nB l)] 61)).of_block (hgrow.block q (HDW.out.pb.alloc (.cells #[.slice (some ⟨gA, 0, none⟩) (nB l) (nB l)] 61)).lt (fun e => (HDW.out.od.alloc (.cells #[.slice (some ⟨gA, 0, none⟩) (nB l) (nB l)] 61)).ne (HDW.out.pb.alloc (.cells #[.slice (some ⟨gA, 0, none⟩) (nB l) (nB l)] 61)) (by decide) e.symm)); have c9 := hp9.cell 1; have f9 := hp9.frozen 1; simp only [List.getElem?_toArray, List.getElem?_cons_zero, List.getElem?_cons_succ] at c9)
                            have hD9 := (HDW.out.below (bAl (bRefl WD) (.cells #[.slice (some ⟨gA, 0, none⟩) (nB l) (nB l)] 61))).put (s := ⟨some ⟨gA, 0, none⟩, nB l, nB l⟩) (HROW.out.below (bAl (bRefl WD) _)) (by exact hown) hgrow
                            have HD9 := Lib.hid hD9
                            have HL9 : Hid ((rows ++ [(⟨some ⟨gA, 0, none⟩, nB l, nB l⟩ : Sv)]).length = a + 1) := by show _ = _; rw [List.length_append, hrl.out]; rfl
                            clear hD9 hown hgrow hform hp9 c9 f9 HDW HROW k1 hrl
                            go_wp2
                            go_roundw
                            all_goals first
                              | exact ⟨a + 1, _, _, by omega, by go_num, HD9.out, HL9.out⟩
                              | ((repeat apply Exists.intro); exact ⟨⟨a + 1, _, _, by omega, by go_num, HD9.out, HL9.out⟩, rfl⟩)
                              | (simp [intOf]; omega)
                      · obtain rfl : a = nB l := by omega
                        have hD := hD.out
                        have HP6 := Lib.hid hD.pb
                        have HW6 := Lib.hid (HW5.out.ex hD.ex)
                        have HBT6 := Lib.hid (HBT5.out.trans (hD.ex.below hwq HBT5.out.size))
                        have HDT := Lib.hid (show Dt q (nB l) (nxt l) vd rows wr from ⟨hD.pb.cell 1, hD.od.sl (hD.od.ne hD.pb (by decide)), hrl.out, fun v s hs => (hD.rs v s hs).sl ((hD.rs v s hs).ne hD.pb (by decide))⟩)
                        obtain ⟨WD, rfl⟩ : ∃ x : World, x = wr := ⟨_, rfl⟩
                        clear hD hrl hla HP5 HW5 HBT5 HOR
                        go_wp2_with fail
                        refine (rturns_ok _ q (nB l) (nxt l) HG3.out.nlt hn4 (fun u => by have := nxt_two l u; omega) _ bs (HW6.out.fwr k0) vd rows HDT.out HP6.out.lt).mono ?_
                        rintro e w7 ⟨b7, ht⟩
                        have HP7 := Lib.hid (HP6.out.below b7 HP6.out.lt)
                        have HW7 := Lib.hid (HW6.out.ex (Ex.of_below b7))
                        have HBT7 := Lib.hid (bThen HBT6.out b7)
                        have HDT7 := Lib.hid (HDT.out.below HP6.out.lt b7)
                        clear b7 HP6 HW6 HBT6 HDT k0
                        have k0 : w7.cell? ⟨q, 0, none⟩ = some (.slice (some ⟨gb, fb, none⟩) (nB l) cb) := HP7.out.cell 0
                        rcases ht with ⟨tb, htb, rfl, hnb, hfb⟩ | ⟨rfl, hall⟩
                        · have HM := Lib.hid (mk_turn HG5.out htb hnb hfb)
                          have hfrm := Lib.hid (frm_frF htb)
                          have htb' : (tb : Int) < (nB l : Int) := by omega
                          have htb0 : (0 : Int) ≤ (tb : Int) := by omega
                          have cf := HW7.out.from htb
                          clear hnb hfb
                          go_upto_region 41 with (fail)
                          go_quiet (fail)
                          go_wp2
                          go_ret3
                          exact RMakeP.no HM.out (by decide) (bDraw HBT7.out _) _ _ (by rw [hfrm.out]) rfl
                        · have HG6 := Lib.hid (show G6 l from ⟨HG5.out, hall⟩)
                          clear hall
                          go_wp2_with fail
                          refine (rloops_ok _ q l HG3.out.nlt hn4 _ vd vo bs (HW7.out.fwr k0) rows HDT7.out HP7.out).mono ?_
                          rintro e w8 ⟨rfl, E, vl, hNr, hEh⟩
                          have HNR := Lib.hid hNr
                          have HEH := Lib.hid hEh
                          have HW8 := Lib.hid (HW7.out.ex hNr.ex)
                          have HBT8 := Lib.hid (HBT7.out.trans (hNr.ex.below hwq HBT7.out.size))
                          have HDT8 := Lib.hid (show Dt q (nB l) (nxt l) vd rows w8 from ⟨hNr.pb.cell 1, HDT7.out.sd.ex hNr.ex, HDT7.out.ln, fun v s hs => (HDT7.out.rw v s hs).ex hNr.ex⟩)
                          have HEL := Lib.hid (show E.length = (heads l).length by rw [← hEh]; simp)
                          obtain ⟨av, cl, hvl, hcl1, hcl2⟩ : ∃ a c, vl = .slice a E.length c ∧ E.length ≤ c ∧ c ≤ maxLen := by
                            rcases hNr.la.form with ⟨e1, e2⟩ | ⟨g, c, e, k1, k2, _⟩
                            · have := congrArg List.length e2
                              rw [arL_len] at this
                              simp at this
                              subst this
                              exact ⟨none, 0, e1, by simp, by unfold maxLen; omega⟩
                            · rw [arL_len] at e k1
                              exact ⟨_, c, e, k1, k2⟩
                          subst hvl
                          have k2 : w8.cell? ⟨q, 2, none⟩ = some (.slice av E.length cl) := hNr.pb.cell 2
                          unfold maxLen at hcl2
                          clear hNr hEh HW7 HBT7 HDT7 HP7 k0
                          have k0 : w8.cell? ⟨q, 0, none⟩ = some (.slice (some ⟨gb, fb, none⟩) (nB l) cb) := HNR.out.pb.cell 0
                          by_cases h8 : 8 < E.length
                          · have h8' : (8 : Int) < (E.length : Int) := by omega
                            have HM := Lib.hid (mk_loops HG6.out (by rw [← HEL.out]; exact h8))
                            obtain ⟨e8, he8⟩ : ∃ e, E[8]? = some e := ⟨_, List.getElem?_eq_getElem h8⟩
                            have hg8 : (heads l).getD 8 0 = e8.hd := by rw [← HEH.out, List.getD_eq_getElem?_getD, List.getElem?_map, he8]; rfl
                            have hhn : e8.hd < nB l := by
                              have hm : e8.hd ∈ heads l := by
                                rw [← HEH.out]
                                exact List.mem_map_of_mem (List.mem_of_getElem? he8)
                              unfold heads at hm
                              simpa using (List.mem_filter.1 hm).1
                            have hhn' : (e8.hd : Int) < (nB l : Int) := by omega
                            have hhn0 : (0 : Int) ≤ (e8.hd : Int) := by omega
                            have hfrm := Lib.hid (frm_frF hhn)
                            have HG8 := Lib.hid hg8
                            have cf := HW8.out.from hhn
                            have hsl := HNR.out.la.sl (HNR.out.la.ne HNR.out.pb (by decide))
                            obtain ⟨gl, fl, rfl, _, hat⟩ := hsl.get (arL_get he8)
                            have ch := hat.cell 0 _ rfl
                            rw [show fl + 8 * tA.n + 0 = fl + 24 by show fl + 8 * 3 + 0 = _; omega] at ch
                            clear hsl hat he8 hg8
                            go_upto_region 44 with (fail)
                            go_quiet (fail)
                            go_wp2
                            go_ret3
                            exact RMakeP.no HM.out (by decide) (bDraw HBT8.out _) _ _ (by rw [HG8.out, hfrm.out]) rfl
                          · have h8' : ¬ (8 : Int) < (E.length : Int) := by omega
                            have HG7 := Lib.hid (show G7 l from ⟨HG6.out, by rw [← HEL.out]; omega⟩)
                            obtain ⟨m0, B0, hv0⟩ := HG3.out.dfs
                            obtain ⟨D, hDD⟩ : ∃ D, D = dfsL (nxt l) := ⟨_, rfl⟩
                            have hDl := HG5.out.len
                            have hDne : dfsL (nxt l) ≠ [] := fun e => by rw [e] at hDl; simp at hDl; omega
                            rw [← hDD] at hv0 hDl hDne
                            have HDD := Lib.hid hDD
                            have HDL := Lib.hid hDl
                            have HV0 := Lib.hid hv0
                            have hDn : D.length ≤ 4096 := by omega
                            have hDp : 0 < D.length := by omega
                            clear hDD hDl hDne hv0
                            go_wp2_with (at_make; refine wpl_make tB false rfl rfl _ _ rfl .i64 .i64 (nB l : Int) (nB l : Int) (nB l) rfl rfl rfl rfl (by show 1 * _ ≤ _; omega) (by unfold maxLen; omega) ?_; intro w9 ho9 hb9 hlt9)
                            have e0 : (List.replicate (nB l) false) = (List.range (nB l)).map (fun _ => false) := by
                              apply List.ext_getElem?
                              intro k
                              by_cases hk : k < nB l <;> simp [hk]
                            rw [e0] at ho9
                            refine (rwalk_ok w8 q (nB l) (nxt l) HG3.out.nlt (fun u => by have := nxt_two l u; omega) _ bs (HW8.out.fwr k0) HNR.out.pb.lt w8.heap.size m0 w9 0 _ sn [] (B0, D) hn0 hn4 hDn ⟨ho9, OwR.nil _ _, hb9⟩ HV0.out).mono ?_
                            rintro e WX ⟨vD, rfl, hRk⟩
                            have HRK := Lib.hid hRk
                            have HO0 := Lib.hid (show Oo WX q (.slice (some ⟨gb, fb, none⟩) (nB l) cb) vd (.slice av E.length cl) vo sn (D.reverse.take 0) WX from ⟨Ex.refl _ _, HNR.out.pb.below hRk.bl HNR.out.pb.lt, OwR.nil _ _⟩)
                            rcases hRk.ol.form with ⟨_, e⟩ | ⟨gD, cD, rfl, hcD1, hcD2, _⟩
                            · exfalso
                              have := congrArg List.length e
                              rw [nI_len] at this
                              simp only [List.length_nil] at this
                              omega
                            · rw [nI_len] at HRK hcD1 ⊢
                              have hgD : gD < WX.heap.size := hRk.ol.lt rfl
                              have hgDq : gD ≠ q := by
                                obtain ⟨_, C, hg⟩ := hRk.ol.blk (g := gD) rfl
                                exact blk_ne hg HO0.out.pb (by decide)
                              unfold maxLen at hcD2
                              clear hRk ho9 hb9 hlt9 e0 k0 k2
                              go_wp2
                              go_loopw [20] (fun t20 wr => ∃ (z : Int) (k : Nat) (vr : Value), t20 = .int .i64 z ∧ Hid (z = (D.length : Int) - 1 - k) ∧ k ≤ D.length ∧ Hid (Oo WX q (.slice (some ⟨gb, fb, none⟩) (nB l) cb) vd (.slice av E.length cl) vo vr (D.reverse.take k) wr)) (fun t _ => (intOf t + 1).toNat)
                              case atStart => exact ⟨_, 0, sn, rfl, by show _ = _; omega, by omega, HO0.out⟩
                              case round =>
                                clear HO0
                                obtain ⟨z, k, vr, rfl, hz, hk, hO⟩ := hrel
                                by_cases hkl : k < D.length
                                · have hz0 : 0 ≤ z := by have := hz.out; omega
                                  obtain ⟨i, rfl⟩ := Int.eq_ofNat_of_zero_le hz0
                                  have hil : i < D.length := by have := hz.out; omega
                                  have hie : i = D.length - 1 - k := by have := hz.out; omega
                                  have hil' : (i : Int) < (D.length : Int) := by omega
                                  obtain ⟨x, hx⟩ : ∃ x, D[i]? = some x := ⟨_, List.getElem?_eq_getElem hil⟩
                                  have hxr : D.reverse[k]? = some x := by
                                    rw [List.getElem?_reverse (by omega), ← hie]
                                    exact hx
                                  have hsn := Lib.hid (show D.reverse.take (k + 1) = D.reverse.take k ++ [x] by rw [List.take_add_one, hxr]; rfl)
                                  have hZ9 : Hid ((i : Int) - 1 = (D.length : Int) - 1 - ((k + 1 : Nat) : Int)) := by show _ = _; have := hz.out; omega
                                  have cD := OwR.int HRK.out.ol (k := i) (x := (x : Int)) (by unfold nI; rw [List.getElem?_map, hx]; rfl)
                                  have cDw : wr.cell? ⟨gD, i, none⟩ = some (.int .i64 (x : Int)) := (World.cell?_of_block (hO.out.ex.block gD hgD hgDq)).trans cD
                                  have k3 : wr.cell? ⟨q, 3, none⟩ = some vr := hO.out.pb.cell 3
                                  have htl : (D.reverse.take k).length ≤ 4096 := by rw [List.length_take]; omega
                                  clear hie hx hxr cD hz
                                  have hng : ¬ (i : Int) < 0 := by omega
                                  go_upto_region 49 with (fail)
                                  have cv : wr.drew.cell? ⟨q, 3, none⟩ = some vr ∧ wr.drew.cell? ⟨gD, i, none⟩ = some (.int .i64 (x : Int)) := ⟨k3, cDw⟩
                                  refine wp_region_last 13 (fun w' => w'.cell? ⟨q, 3, none⟩ = some vr ∧ w'.cell? ⟨gD, i, none⟩ = some (.int .i64 (x : Int))) mix ?_
                                  refine wpAnyL_take (i := 0) (v := .pointer (some ⟨q, 0, none⟩)) rfl (by kernel_rfl) (by kernel_rfl) (by kernel_rfl) (fun _ _ _ h => h) rfl (by kernel_rfl) (Or.inl ⟨by rfl, fun w' hw' => by (try go_split_ands); go_simp⟩) cv ?_
                                  simp only [Act.put, List.getElem_toArray, List.getElem_cons_zero, List.setIfInBounds_toArray, List.set_cons_zero, List.set_cons_succ]
                                  refine wpAnyL_take (i := 1) (v := .pointer (some ⟨q, 0, none⟩)) rfl (by kernel_rfl) (by kernel_rfl) (by kernel_rfl) (fun _ _ _ h => h) rfl (by kernel_rfl) (Or.inl ⟨by rfl, fun w' hw' => by (try go_split_ands); go_simp⟩) cv ?_
                                  simp only [Act.put, List.getElem_toArray, List.getElem_cons_zero, List.getElem_cons_succ, List.setIfInBounds_toArray, List.set_cons_zero, List.set_cons_succ]
                                  refine wpAnyL_take (i := 2) (v := .pointer (some ⟨q, 0, none⟩)) rfl (by kernel_rfl) (by kernel_rfl) (by kernel_rfl) (fun _ _ _ h => h) rfl (by kernel_rfl) (Or.inl ⟨by rfl, fun w' hw' => by (try go_split_ands); go_simp⟩) cv ?_
                                  simp only [Act.put, List.getElem_toArray, List.getElem_cons_zero, List.getElem_cons_succ, List.setIfInBounds_toArray, List.set_cons_zero, List.set_cons_succ]
                                  refine wpAnyL_take (i := 3) (v := .pointer (some ⟨q, 3, none⟩)) rfl (by kernel_rfl) (by kernel_rfl) (by kernel_rfl) (fun _ _ _ h => h) rfl (by kernel_rfl) (Or.inl ⟨by rfl, fun w' hw' => by (try go_split_ands); go_simp⟩) cv ?_
                                  simp only [Act.put, List.getElem_toArray, List.getElem_cons_zero, List.getElem_cons_succ, List.setIfInBounds_toArray, List.set_cons_zero, List.set_cons_succ]
                                  refine wpAnyL_take (i := 4) (v := vr) rfl (by kernel_rfl) (by kernel_rfl) (by kernel_rfl) (fun _ _ _ h => h) rfl (by kernel_rfl) (Or.inl ⟨by rfl, fun w' hw' => by (try go_split_ands); go_simp⟩) cv ?_
                                  simp only [Act.put, List.getElem_toArray, List.getElem_cons_zero, List.getElem_cons_succ, List.setIfInBounds_toArray, List.set_cons_zero, List.set_cons_succ]
                                  refine wpAnyL_take (i := 5) (v := .slice (some ⟨gD, 0, none⟩) D.length cD) rfl (by kernel_rfl) (by kernel_rfl) (by kernel_rfl) (fun _ _ _ h => h) rfl (by kernel_rfl) (Or.inl ⟨by rfl, fun w' hw' => by (try go_split_ands); go_simp⟩) cv ?_
                                  simp only [Act.put, List.getElem_toArray, List.getElem_cons_zero, List.getElem_cons_succ, List.setIfInBounds_toArray, List.set_cons_zero, List.set_cons_succ]
                                  refine wpAnyL_take (i := 6) (v := .int .i64 (i : Int)) rfl (by kernel_rfl) (by kernel_rfl) (by kernel_rfl) (fun _ _ _ h => h) rfl (by kernel_rfl) (Or.inl ⟨by rfl, fun w' hw' => by (try go_split_ands); go_simp⟩) cv ?_
                                  simp only [Act.put, List.getElem_toArray, List.getElem_cons_zero, List.getElem_cons_succ, List.setIfInBounds_toArray, List.set_cons_zero, List.set_cons_succ]
                                  refine wpAnyL_take (i := 7) (v := .pointer (some ⟨gD, i, none⟩)) rfl (by kernel_rfl) (by kernel_rfl) (by kernel_rfl) (fun _ _ _ h => h) rfl (by kernel_rfl) (Or.inl ⟨by rfl, fun w' hw' => by (try go_split_ands); go_simp⟩) cv ?_
                                  simp only [Act.put, List.getElem_toArray, List.getElem_cons_zero, List.getElem_cons_succ, List.setIfInBounds_toArray, List.set_cons_zero, List.set_cons_succ]
                                  refine wpAnyL_take (i := 8) (v := .int .i64 (x : Int)) rfl (by kernel_rfl) (by kernel_rfl) (by kernel_rfl) (fun _ _ _ h => h) rfl (by kernel_rfl) (Or.inl ⟨by rfl, fun w' hw' => by (try go_split_ands); go_simp⟩) cv ?_
                                  simp only [Act.put, List.getElem_toArray, List.getElem_cons_zero, List.getElem_cons_succ, List.setIfInBounds_toArray, List.set_cons_zero, List.set_cons_succ]
                                  refine wpAnyL_one (i := 9) (by kernel_rfl) rfl (fun K hK => ?_)
                                  go_simp
                                  have HO6 := Lib.hid (hO.out.below (show Below wr.heap.size wr (wr.alloc (.cells #[.int .i64 (x : Int)] 3)).drew from (bAl (bRefl wr) _).drew))
                                  have HN6 := Lib.hid ((Blk.new wr 3 #[.int .i64 (x : Int)]).drew)
                                  have hz6 : wr.heap.size < (wr.alloc (.cells #[.int .i64 (x : Int)] 3)).drew.heap.size := HN6.out.lt
                                  have hB6 := HO6.out.ex.size
                                  have c6 : (wr.alloc (.cells #[.int .i64 (x : Int)] 3)).drew.cell? ⟨gD, i, none⟩ = some (.int .i64 (x : Int)) := (World.cell?_of_block (HO6.out.ex.block gD hgD hgDq)).trans ((World.cell?_of_block (hO.out.ex.block gD hgD hgDq)).symm.trans cDw)
                                  generalize (wr.alloc (.cells #[.int .i64 (x : Int)] 3)).drew = W6 at HO6 HN6 hz6 hB6 c6 ⊢
                                  refine hK.out _ _ (fun _ => ⟨HO6.out.pb.cell 3, c6⟩) ?_
                                  clear hK K
                                  refine wpAnyL_one (i := 10) (by kernel_rfl) rfl (fun K hK => ?_)
                                  refine step_push tI rfl (.tmp 202) (.tmp 207) rfl WX.heap.size vr (nI (D.reverse.take k)) (by rfl) HO6.out.od wr.heap.size 0 1 1 [((x : Int))] (by rfl) rfl (rangeBlk HN6.out (by rfl)) (by rw [nI_len]; unfold maxLen; simp only [List.length_cons, List.length_nil]; omega) (by rw [nI_len]; show _ * 8 ≤ _; simp only [List.length_cons, List.length_nil]; omega) hB6 ?_
                                  intro v' w9 hown hgrow hform
                                  obtain ⟨g', c', rfl, _⟩ := hform (by simp)
                                  have hO9 : OwR tI WX.heap.size w9 (.slice (some ⟨g', 0, none⟩) ((nI (D.reverse.take k)).length + 1) c') (nI (D.reverse.take k ++ [x])) := by rw [nI_app]; exact hown
                                  have hp9 := HO6.out.pb.of_block (hgrow.block q HO6.out.pb.lt (fun e => HO6.out.od.ne HO6.out.pb (by decide) e.symm))
                                  have c9D : w9.cell? ⟨gD, i, none⟩ = some (.int .i64 (x : Int)) := (World.cell?_of_block ((HO6.out.ex.grown hgrow fun g e => (HO6.out.od.blk e).1).block gD hgD hgDq)).trans ((World.cell?_of_block (HO6.out.ex.block gD hgD hgDq)).symm.trans c6)
                                  have cv9 : w9.cell? ⟨q, 3, none⟩ = some vr ∧ w9.cell? ⟨gD, i, none⟩ = some (.int .i64 (x : Int)) := ⟨hp9.cell 3, c9D⟩
                                  have f9 := hp9.frozen 3
                                  have c9 : w9.cell? ⟨q, 3, none⟩ = some vr := hp9.cell 3
                                  simp only [Act.put, List.setIfInBounds_toArray]
                                  refine hK.out _ _ (fun _ => cv9) ?_
                                  clear hK K
                                  refine wpAnyL_one (i := 11) (by kernel_rfl) rfl (fun K hK => ?_)
                                  go_simp
                                  refine hK.out _ _ (fun _ => cv9) ?_
                                  clear hK K
                                  refine wpAnyL_one (i := 12) (by kernel_rfl) rfl (fun K hK => ?_)
                                  go_simp
                                  refine hK.out _ _ (fun _ => cv9) ?_
                                  clear hK K
                                  refine wpAnyL_one (i := 13) (by kernel_rfl) rfl (fun K hK => ?_)
                                  go_simp
                                  refine hK.out _ _ (fun h => absurd rfl h) ?_
                                  clear hK K
                                  refine wpAnyL_done (by kernel_rfl) ?_ _
                                  have hP9 := HO6.out.put hO9 hgrow
                                  rw [← hsn.out] at hP9
                                  have HP9 := Lib.hid hP9
                                  generalize w9.setCell ⟨q, 3, none⟩ (.slice (some ⟨g', 0, none⟩) ((nI (D.reverse.take k)).length + 1) c') = W9 at HP9 ⊢
                                  clear hP9 hO9 hown hgrow hform hp9 c9D cv9 f9 c9 HO6 HN6 hz6 hB6 c6 cv k3 cDw hO htl hsn
                                  go_wp2
                                  go_roundw
                                  all_goals first
                                    | exact ⟨_, k + 1, _, rfl, hZ9.out, by omega, HP9.out⟩
                                    | ((repeat apply Exists.intro); exact ⟨⟨_, k + 1, _, rfl, hZ9.out, by omega, HP9.out⟩, rfl⟩)
                                    | (simp [intOf] <;> omega)
                                · have hzn : z < 0 := by have := hz.out; omega
                                  have hkD : k = D.length := by omega
                                  clear hz
                                  go_wp2
                                  go_ret3
                                  have hO := hO.out
                                  have hxX : Ex q w8 wr := (Ex.of_below HRK.out.bl).trans hO.ex
                                  have hN := HNR.out
                                  refine ⟨HBT8.out.trans (hxX.below hwq HBT8.out.size), Or.inr ⟨HG7.out, q, _, vd, _, vr, vo, bs, rows, E, rfl, hwq, hO.pb, HW8.out.ex hxX, ⟨hO.pb.cell 1, HDT8.out.sd.ex hxX, HDT8.out.ln, fun v s hs => (HDT8.out.rw v s hs).ex hxX⟩, (hN.la.sl (hN.la.ne hN.pb (by decide))).ex hxX, fun e he => ((hN.el e he).sl ((hN.el e he).ne hN.pb (by decide))).ex hxX, HEH.out, ?_⟩⟩
                                  have h9 := hO.od.sl (hO.od.ne hO.pb (by decide))
                                  rw [hkD, List.take_of_length_le (Nat.le_of_eq List.length_reverse), HDD.out] at h9
                                  exact h9
          · have hno := fun h => hend (HEN.out.2 h)
            have hz1 : (x.op != 26) = true := by simp; exact fun e => hno (Or.inl e)
            have hz2 : (x.op != 39) = true := by simp; exact fun e => hno (Or.inr e)
            have HM := Lib.hid (mk_end HG2.out hend)
            clear hend hno
            go_wp2
            go_ret3
            exact RMakeP.no HM.out (by decide) hbw.out _ _ rfl rfl
  · have hce' : (c2 != 0) = true := by simp [hce]
    have HM := Lib.hid (mk_chk (l := l) (by rw [← HC2.out]; exact hce))
    have HNE := Lib.hid hce
    clear hce
    go_wp2
    go_ret3
    exact RMakeP.no (at' := (chk 0 l).1) (c := (chk 0 l).2) HM.out (by rw [← HC2.out]; exact HNE.out) HB1.out _ _ (by rw [HC1.out]) HC2.out
end Go.Proofs.Ytpiiefdaaijgbaa
