/- The program's Make. -/
import Derived.Test.YtpiiefdaaijgbaaFMkP
namespace Go.Proofs.Ytpiiefdaaijgbaa
open Go Go.RowKit Go.Wr Go.Fl
set_option maxHeartbeats 4000000
set_option maxRecDepth 100000

theorem endOk_iff {l : List In} {x : In} (hx : l[l.length - 1]? = some x) : endOk l ↔ (x.op = 26 ∨ x.op = 39) := by
  unfold endOk
  rw [List.getLast?_eq_getElem?, hx]
  constructor
  · rintro ⟨y, e, h⟩; injection e with e; subst e; exact h
  · exact fun h => ⟨x, rfl, h⟩
theorem frm_frF {l : List In} {b : Nat} (h : b < nB l) : frm l b = frF l b := by
  have he : (bl l)[b]? = some ((bl l)[b]'h) := List.getElem?_eq_getElem h
  rw [frm_of he, (frF_of he).1]
/-- The first instruction of a block, as it lies. -/
theorem Fw.from {p : Nat} {l : List In} {bb off cb : Nat} {va vo : Value} {bs : List Bk} {ss : List Sv} {w : World} (h : Fw p l (.slice (some ⟨bb, off, none⟩) (nB l) cb) va vo bs ss w) {b : Nat} (hb : b < nB l) : w.cell? ⟨bb, off + b * 3, none⟩ = some (.int .i64 (frF l b : Int)) := by
  obtain ⟨k, hk⟩ : ∃ k, bs[b]? = some k := ⟨_, List.getElem?_eq_getElem (by rw [h.lb]; exact hb)⟩
  obtain ⟨b', o', e, _, hat⟩ := h.sb.get hk
  injection e with e
  injection e with e1 e2
  subst e1 e2
  have := (at_bk hat).1
  rw [(h.nb b k hk).1] at this
  exact this
theorem ahd_len (l : List In) (u : Nat) : (ahd l u).length ≤ 2 * (nB l + 1) := by
  have e : ahP l (nB l) 0 u = ahd l u := by simp [ahP, ahd, nB]
  rw [← e]
  exact ahP_len l 0 u (nB l)
theorem make_ok (w : World) (q : Nat) (v : Value) (l : List In) (h : SlX tN q w v l) : Calls Try.prog 41 #[v] w (MakeP l w) := by
  obtain ⟨a0, cap, rfl, h1, h2⟩ := h.form
  have H := Lib.hid h
  unfold maxLen at h2
  obtain ⟨c1, hc1⟩ : ∃ c, c = (chk 0 l).1 := ⟨_, rfl⟩
  obtain ⟨c2, hc2⟩ : ∃ c, c = (chk 0 l).2 := ⟨_, rfl⟩
  have HC1 := Lib.hid hc1
  have HC2 := Lib.hid hc2
  clear h hc1 hc2
  go_enter Try.func41, Try.ntmps41
  go_wp2_with fail
  refine (check_ok _ q _ l H.out).mono ?_
  rintro e w1 ⟨rfl, b1⟩
  rw [← HC1.out, ← HC2.out]
  have HB1 := Lib.hid b1
  clear b1
  by_cases hce : c2 = 0
  · have hce' : (c2 != 0) = false := by simp [hce]
    have HCE := Lib.hid (show (chk 0 l).2 = 0 by rw [← HC2.out]; exact hce)
    clear hce
    by_cases hl0 : l.length = 0
    · have hl0' : ((l.length : Int) == 0) = true := by simp [hl0]
      have HL0 := Lib.hid (show l = [] from List.length_eq_zero_iff.1 hl0)
      clear hl0
      go_wp2
      go_ret3
      exact MakeP.no (mk_nil HL0.out) (by decide) HB1.out _ _ rfl rfl
    · have hl0' : ((l.length : Int) == 0) = false := beq_eq_false_iff_ne.2 (by omega)
      have hlp : 0 < l.length := by omega
      have HG1 := Lib.hid (show G1 l from ⟨HCE.out, fun e => hl0 (by rw [e]; rfl)⟩)
      have hlen := HG1.out.len
      have HR := Lib.hid (chk_ok (k := 0) (Nat.zero_le _) HCE.out).1
      clear hl0 HCE
      go_wp2_with fail
      refine (targets_ok _ q _ l (H.out.below HB1.out) (by omega) (fun x hx => by have := right_off (HR.out x hx); omega) (fun x hx h1 h2 => by have := right_imm (HR.out x hx) h1 h2; omega)).mono ?_
      rintro e w2 ⟨ht, b2⟩
      have HB2 := Lib.hid (bThen HB1.out b2)
      clear b2
      rcases ht with ⟨i, hi, hlo, hfi, rfl⟩ | ⟨hlo, vt, rfl, hot⟩
      · have HM := Lib.hid (mk_lost HG1.out hi hlo hfi)
        clear hlo hfi
        go_wp2
        go_ret3
        exact MakeP.no HM.out (by decide) HB2.out _ _ rfl rfl
      · have HG2 := Lib.hid (show G2 l from ⟨HG1.out, hlo⟩)
        have HOT := Lib.hid hot
        clear hlo hot
        obtain ⟨x, hx⟩ : ∃ x, l[l.length - 1]? = some x := ⟨_, List.getElem?_eq_getElem (by omega)⟩
        have HEN := Lib.hid (endOk_iff hx)
        obtain ⟨bb, off, rfl, _, hat⟩ := (H.out.below HB2.out).get hx
        obtain ⟨c0, _⟩ := at_ins hat
        have e8 : tN.n = 8 := rfl
        rw [e8] at c0
        have hsub : ((l.length : Int) - 1) = ((l.length - 1 : Nat) : Int) := by omega
        have hl1 : (0 : Int) ≤ (l.length : Int) - 1 := by omega
        have hl2 : (l.length : Int) - 1 < (l.length : Int) := by omega
        have hl3 : ((l.length : Int) - 1).toNat = l.length - 1 := by omega
        clear hat e8 hx
        by_cases hend : endOk l
        · have hg3 : G3 l := ⟨HG2.out, hend⟩
          have HG3 := Lib.hid hg3
          go_upto_region 10 with (fail)
          go_cut [45] (fun t wc => t = .bool false ∧ w2 = wc)
          case first =>
            rcases HEN.out.1 hend with hop | hop
            · have hz1 : (x.op != 26) = false := by simp [hop]
              clear hop
              go_wp2
              go_meet
              exact ⟨rfl, rfl⟩
            · have hz1 : (x.op != 26) = true := by simp [hop]
              have hz2 : (x.op != 39) = false := by simp [hop]
              clear hop
              go_wp2
              go_meet
              exact ⟨rfl, rfl⟩
          case rest =>
            obtain ⟨rfl, rfl⟩ := hcut
            clear hend c0 hsub hl1 hl2 hl3
            have hnl := nB_le l
            have hn0 : 0 < nB l := hg3.pos
            clear hg3
            go_wp2_with fail
            generalize hW3 : w2.alloc (.cells #[sn, sn, sn, sn, sn, sn, sn] 93) = W3
            obtain ⟨p, hp⟩ : ∃ q, q = w2.heap.size := ⟨_, rfl⟩
            have b3 : Blk W3 p 93 #[sn, sn, sn, sn, sn, sn, sn] := by rw [← hW3, hp]; exact Blk.new _ _ _
            have hs3 : SlX tN p W3 (.slice (some ⟨bb, off, none⟩) l.length cap) l := by rw [← hW3]; exact (SlX.re (H.out.below HB2.out) (by omega)).below (bAl (bRefl w2) _)
            have ht3 : SlX tI p W3 vt (tosI l l.length) := by rw [← hW3]; exact (HOT.out.sl (p := p) (fun e => by have := HOT.out.lt e; omega)).below (bAl (bRefl w2) _)
            have HBW := Lib.hid (show Below w.heap.size w W3 by rw [← hW3]; exact bAl HB2.out _)
            have hwp : w.heap.size ≤ p := by rw [hp]; exact HB2.out.size
            rw [← hp]
            refine (split_ok _ p l _ _ hs3 ht3 hlen hlp HG3.out.en b3).mono ?_
            rintro e w4 ⟨rfl, ex4, vb, va, vo, bs, ss, b4, fw4⟩
            clear hs3 ht3 b3 hW3 hp
            obtain ⟨ab, cb, rfl, hab1, hab2⟩ := fw4.sb.form
            rw [fw4.lb] at b4 fw4 hab1
            unfold maxLen at hab2
            obtain ⟨ob, hob⟩ : ∃ k, bs[0]? = some k := ⟨_, List.getElem?_eq_getElem (by rw [fw4.lb]; exact hn0)⟩
            obtain ⟨gb, fb, rfl, _, hat0⟩ := fw4.sb.get hob
            have HE4 := Lib.hid ex4
            have HP4 := Lib.hid b4
            have HF4 := Lib.hid fw4
            have k0 := b4.cell 0
            simp only [List.getElem?_toArray, List.getElem?_cons_zero] at k0
            clear hat0 hob ex4 b4 fw4
            by_cases hbig : 512 < nB l
            · have hbig' : (512 : Int) < (nB l : Int) := by omega
              have HM := Lib.hid (mk_many HG3.out hbig)
              have hfrm := Lib.hid (frm_frF hbig)
              have cf := HF4.out.from hbig
              have hsz : Below w.heap.size w w4 := HBW.out.trans (HE4.out.below hwp HBW.out.size)
              go_upto_region 15 with (fail)
              go_quiet (fail)
              go_wp2
              go_ret3
              exact MakeP.no HM.out (by decide) (bDraw hsz _) _ _ (by rw [hfrm.out]) rfl
            · have hbig' : ¬ (512 : Int) < (nB l : Int) := by omega
              have HG4 := Lib.hid (show G4 l from ⟨HG3.out, by omega⟩)
              have HD := Lib.hid HG3.out.dfs
              have HDL := Lib.hid HG3.out.dlt
              obtain ⟨D, hDD⟩ : ∃ D, D = dfsL (nxt l) := ⟨_, rfl⟩
              rw [← hDD] at HD HDL
              have HDD := Lib.hid hDD
              clear hDD
              go_wp2_with fail
              refine (walk_ok _ p (nB l) (nxt l) HG3.out.nlt hn0 (by omega) (fun u => by have := nxt_two l u; omega) D HD.out (nodup_len (nB l) D HD.out.po.nd HDL.out) HDL.out (.slice (some ⟨gb, fb, none⟩) (nB l) cb) va vo bs ⟨HP4.out.cell 0, HF4.out.lb, HF4.out.sb, fun b k hk => (HF4.out.nb b k hk).2.2⟩ HP4.out).mono ?_
              rintro e w5 ⟨rfl, ex5, vr, vp, b5, or5, op5⟩
              have HPL := Lib.hid (Nat.le_of_lt HP4.out.lt)
              have HLR := Lib.hid (or5.lo HPL.out)
              have HE5 := Lib.hid (HE4.out.trans ex5)
              have HF5 := Lib.hid (HF4.out.ex ex5)
              clear HE4 HP4 HF4 k0 ex5
              rcases op5.form with ⟨_, e⟩ | ⟨gp, cp, rfl, hcp1, hcp2, hgp⟩
              · have := congrArg List.length e
                simp at this
                omega
              · rw [show ((List.range (nB l)).map fun b => if b ∈ D then (plc D b : Int) else -1).length = nB l by simp] at b5 op5 hcp1
                have HP5 := Lib.hid b5
                have HR5 := Lib.hid (or5.sl (or5.ne b5 (by decide)))
                have HO5 := Lib.hid op5
                have hngp : gp ≠ p := by
                  obtain ⟨_, C, hg⟩ := op5.blk (g := gp) rfl
                  exact blk_ne hg b5 (by decide)
                have hlgp : gp < w5.heap.size := op5.lt rfl
                have HL4 := Lib.hid (Nat.le_trans HPL.out hgp)
                have HL5 := Lib.hid (Nat.le_of_lt b5.lt)
                unfold maxLen at hcp2
                clear b5 or5 op5
                have k4 := HP5.out.cell 4
                simp only [List.getElem?_toArray, List.getElem?_cons_zero, List.getElem?_cons_succ] at k4
                have HBT := Lib.hid (show Below w.heap.size w w5 from HBW.out.trans (HE5.out.below hwp HBW.out.size))
                go_wp2
                go_loopw [2, 75] (fun t2 t wr => ∃ b : Nat, b ≤ nB l ∧ t = .int .i64 (b : Int) ∧ t2 = .pointer (some ⟨p, 0, none⟩) ∧ w5 = wr ∧ Hid (∀ x, x < b → x ∈ D)) (fun _ t _ => nB l - (intOf t).toNat)
                case atStart => exact ⟨0, by omega, rfl, rfl, rfl, fun x hx => by omega⟩
                case round =>
                  obtain ⟨b, hb, rfl, rfl, rfl, hq⟩ := hrel
                  by_cases hlb : b < nB l
                  · have hlb' : (b : Int) < (nB l : Int) := by omega
                    have hb0 : (0 : Int) ≤ (b : Int) := by omega
                    have hgb : ((List.range (nB l)).map fun b => if b ∈ D then (plc D b : Int) else -1)[b]? = some (if b ∈ D then (plc D b : Int) else -1) := by rw [List.getElem?_map, List.getElem?_range hlb]; rfl
                    have cb1 := OwR.int HO5.out hgb
                    clear hgb
                    by_cases hbD : b ∈ D
                    · rw [if_pos hbD] at cb1
                      have hneg : ¬ (plc D b : Int) < 0 := by omega
                      have hq9 : Hid (∀ x, x < b + 1 → x ∈ D) := fun x hx => by
                        by_cases e : x < b
                        · exact hq.out x e
                        · obtain rfl : x = b := by omega
                          exact hbD
                      clear hq hbD
                      go_wp2
                      go_roundw
                      all_goals first
                        | exact ⟨b + 1, by omega, by go_num, rfl, trivial, hq9.out⟩
                        | ((repeat apply Exists.intro); exact ⟨⟨b + 1, by omega, by go_num, trivial, trivial, hq9.out⟩, rfl⟩)
                        | (simp [intOf]; omega)
                    · rw [if_neg hbD] at cb1
                      have HM := Lib.hid (mk_reach HG4.out hlb (fun h => hbD ((HD.out.po.rw b).2 h)) (fun x hx => (HD.out.po.rw x).1 (hq.out x hx)))
                      have hfrm := Lib.hid (frm_frF hlb)
                      have cf := HF5.out.from hlb
                      have k0 : w5.cell? ⟨p, 0, none⟩ = some (.slice (some ⟨gb, fb, none⟩) (nB l) cb) := HP5.out.cell 0
                      clear hq hbD
                      go_upto_region 21 with (fail)
                      go_quiet (fail)
                      go_wp2
                      go_ret3
                      exact MakeP.no HM.out (by decide) (bDraw HBT.out _) _ _ (by rw [hfrm.out]) rfl
                  · obtain rfl : b = nB l := by omega
                    have hg5 : G5 l := ⟨HG4.out, fun b hb => (HD.out.po.rw b).1 (hq.out b hb)⟩
                    have HG5 := Lib.hid hg5
                    have hgr := hg5.gr
                    have hlen5 := hg5.len
                    have hplt := fun c (hc : c < nB l) => hg5.plt hc
                    rw [← HDD.out] at hgr hlen5 hplt
                    have HGR := Lib.hid hgr
                    have HPLT := Lib.hid hplt
                    have hDi : Di p (nB l) (plc D) (ahd l) D.reverse va vr gp 0 cp ss w5 := by
                      refine ⟨HF5.out.sa, HF5.out.la, HF5.out.na, HR5.out, by rw [List.length_reverse]; exact hlen5, fun i x hx => ⟨HDL.out x (List.mem_reverse.1 (List.mem_of_getElem? hx)), ?_⟩, fun b hb => ?_, ⟨hngp, hlgp⟩⟩
                      · have hi : i < D.reverse.length := (List.getElem?_eq_some_iff.1 hx).1
                        have e := (List.getElem?_eq_some_iff.1 hx).2
                        unfold plc
                        rw [← e]
                        exact List.Nodup.idxOf_getElem (nd_rev HD.out.po.nd) i hi
                      · have := OwR.int HO5.out (k := b) (x := (plc D b : Int)) (by rw [List.getElem?_map, List.getElem?_range hb]; simp [hq.out b hb])
                        rw [Nat.zero_add]
                        exact this
                    have HDI := Lib.hid hDi
                    clear hDi hg5 hgr hlen5 hplt hq hlb k4
                    go_wp2_with fail
                    refine (dominators_ok _ p (nB l) (nxt l) (plc D) (ahd l) HGR.out (by omega) (fun b => by have := ahd_len l b; omega) HPLT.out D.reverse (some ⟨gb, fb, none⟩) cb gp 0 cp va vo vr ss HDI.out HP5.out).mono ?_
                    rintro e w6 ⟨rfl, gi, d, hDw, hId⟩
                    have HDW := Lib.hid hDw
                    have HID := Lib.hid hId
                    have HLI := Lib.hid (Nat.le_trans HL5.out (hDw.pi.blk (g := gi) rfl).1)
                    clear hDw hId
                    have hgi : gi ≠ p ∧ gi < w6.heap.size := by
                      obtain ⟨_, C, hg⟩ := HDW.out.pi.blk (g := gi) rfl
                      exact ⟨blk_ne hg HDW.out.pb (by decide), hg.lt⟩
                    have hnd : Nd p (nB l) l (plc D) d (some ⟨gb, fb, none⟩) cb va ss gp 0 gi 0 cp (nB l) w6 :=
                      ⟨HGR.out, HID.out, HF5.out.sa.ex HDW.out.ex, HF5.out.la, fun b s hs => (HF5.out.na b s hs).ex HDW.out.ex, fun b hb => (World.cell?_of_block (HDW.out.ex.block gp hlgp hngp)).trans (HDI.out.pp b hb), fun b hb => by
                        rw [Nat.zero_add]
                        exact OwR.int HDW.out.pi (dI_get d hb), ⟨hngp, Nat.lt_of_lt_of_le hlgp HDW.out.ex.size⟩, hgi⟩
                    have HF6 := Lib.hid (HF5.out.ex HDW.out.ex)
                    have HR6 := Lib.hid (HR5.out.ex HDW.out.ex)
                    have HP6 := Lib.hid HDW.out.pb
                    have HND := Lib.hid hnd
                    have HBT6 := Lib.hid (HBT.out.trans (HDW.out.ex.below hwp HBT.out.size))
                    clear hnd HDW HF5 HR5 HP5 HO5 HDI HBT HE5 hgi
                    go_wp2_with fail
                    refine (straight_ok _ p (nB l) (nxt l) (plc D) d (ahd l) HGR.out HID.out gp 0 gi 0 cp (nB l) (HND.out.pd HP6.out) (.slice (some ⟨gb, fb, none⟩) (nB l) cb) bs ⟨HP6.out.cell 0, HF6.out.lb, HF6.out.sb, fun b k hk => (HF6.out.nb b k hk).2.2⟩ HP6.out.lt HND.out.n4.2 HND.out.n5.2).mono ?_
                    rintro e w7 ⟨b7, hst⟩
                    have HF7 := Lib.hid (HF6.out.ex (Ex.of_below b7))
                    have HR7 := Lib.hid (HR6.out.below b7)
                    have HP7 := Lib.hid (HP6.out.below b7 HP6.out.lt)
                    have HND7 := Lib.hid (HND.out.ex (Ex.of_below b7))
                    have HBT7 := Lib.hid (bThen HBT6.out b7)
                    clear HF6 HR6 HP6 HND HBT6 b7
                    rcases hst with ⟨rfl, hstr⟩ | ⟨rfl, hno⟩
                    · have HG6 := Lib.hid (show G6 l from HG5.out.no_of (by rw [← HDD.out]; exact hstr))
                      clear hstr
                      have hnB4 : nB l ≤ 4096 := by omega
                      go_wp2_with fail
                      refine (nest_ok _ p l (plc D) d (some ⟨gb, fb, none⟩) cb va vo vr ss gp 0 gi 0 cp (nB l) HND7.out hnB4 (fun u => by have := ahd_len l u; omega) HP7.out).mono ?_
                      rintro e w8 ⟨rfl, E, vl, vs, hNe, hEh⟩
                      have HF8 := Lib.hid (HF7.out.ex hNe.ex)
                      have HR8 := Lib.hid (HR7.out.ex hNe.ex)
                      have HND8 := Lib.hid (HND7.out.ex hNe.ex)
                      have HBT8 := Lib.hid (HBT7.out.trans (hNe.ex.below hwp HBT7.out.size))
                      have HNE := Lib.hid hNe
                      have HEH := Lib.hid hEh
                      have hEl : E.length = (heads l).length := by rw [← hEh]; simp
                      have HL7 := Lib.hid (Nat.le_of_lt HP7.out.lt)
                      obtain ⟨av, cl, hvl, hcl1, hcl2⟩ : ∃ a c, vl = .slice a E.length c ∧ E.length ≤ c ∧ c ≤ maxLen := by
                        rcases hNe.la.form with ⟨e1, e2⟩ | ⟨g, c, e, k1, k2, _⟩
                        · have := congrArg List.length e2
                          rw [arL_len] at this
                          simp at this
                          subst this
                          exact ⟨none, 0, e1, by simp, by unfold maxLen; omega⟩
                        · rw [arL_len] at e k1
                          exact ⟨_, c, e, k1, k2⟩
                      subst hvl
                      have k6 : w8.cell? ⟨p, 6, none⟩ = some (.slice av E.length cl) := hNe.pb.cell 6
                      have HEL := Lib.hid hEl
                      unfold maxLen at hcl2
                      clear hNe hEh hEl HF7 HR7 HND7 HP7 HBT7
                      by_cases h8 : 8 < E.length
                      · have h8' : (8 : Int) < (E.length : Int) := by omega
                        have HM := Lib.hid (mk_loops HG6.out (by rw [← HEL.out]; exact h8))
                        obtain ⟨e8, he8⟩ : ∃ e, E[8]? = some e := ⟨_, List.getElem?_eq_getElem h8⟩
                        have hg8 : (heads l).getD 8 0 = e8.hd := by rw [← HEH.out, List.getD_eq_getElem?_getD, List.getElem?_map, he8]; rfl
                        have hhn : e8.hd < nB l := by
                          have hm : e8.hd ∈ heads l := by
                            rw [← HEH.out]
                            exact List.mem_map_of_mem (List.mem_of_getElem? he8)
                          unfold heads at hm
                          simpa using (List.mem_filter.1 hm).1
                        have hhn' : (e8.hd : Int) < (nB l : Int) := by omega
                        have hhn0 : (0 : Int) ≤ (e8.hd : Int) := by omega
                        have hfrm := Lib.hid (frm_frF hhn)
                        have HG8 := Lib.hid hg8
                        have cf := HF8.out.from hhn
                        have k0 : w8.cell? ⟨p, 0, none⟩ = some (.slice (some ⟨gb, fb, none⟩) (nB l) cb) := HNE.out.pb.cell 0
                        have hsl := HNE.out.la.sl (HNE.out.la.ne HNE.out.pb (by decide))
                        obtain ⟨gl, fl, rfl, _, hat⟩ := hsl.get (arL_get he8)
                        have ch := hat.cell 0 _ rfl
                        rw [show fl + 8 * tA.n + 0 = fl + 24 by show fl + 8 * 3 + 0 = _; omega] at ch
                        clear hsl hat he8 hg8
                        go_upto_region 28 with (fail)
                        go_quiet (fail)
                        go_wp2
                        go_ret3
                        exact MakeP.no HM.out (by decide) (bDraw HBT8.out _) _ _ (by rw [HG8.out, hfrm.out]) rfl
                      · have h8' : ¬ (8 : Int) < (E.length : Int) := by omega
                        have HG7 := Lib.hid (show G7 l from ⟨HG6.out, by rw [← HEL.out]; omega⟩)
                        go_wp2
                        go_ret3
                        have hN := HNE.out
                        refine ⟨HBT8.out, Or.inr ⟨HG7.out, p, some ⟨gb, fb, none⟩, cb, gp, 0, gi, 0, cp, nB l, va, vo, vr, .slice av E.length cl, bs, ss, E, d, rfl, hwp, hN.pb, HF8.out, ?_, ?_, hN.la.sl (hN.la.ne hN.pb (by decide)), fun e he => (hN.el e he).1.sl ((hN.el e he).1.ne hN.pb (by decide)), HEH.out, HL4.out, HLI.out, HLR.out, hN.la.lo HL7.out, fun e he => (hN.el e he).1.lo HL7.out⟩⟩
                        · rw [← HDD.out]; exact HND8.out
                        · rw [← HDD.out]; exact HR8.out
                    · have HRO := Lib.hid (HG5.out.round (by rw [← HDD.out]; exact HID.out) (by rw [← HDD.out]; exact hno))
                      clear hno
                      go_upto_region 25 with (fail)
                      have k0 : w7.cell? ⟨p, 0, none⟩ = some (.slice (some ⟨gb, fb, none⟩) (nB l) cb) := HP7.out.cell 0
                      have cv : w7.drew.cell? ⟨p, 0, none⟩ = some (.slice (some ⟨gb, fb, none⟩) (nB l) cb) ∧ ∀ b, b < nB l → w7.drew.cell? ⟨gb, fb + b * 3, none⟩ = some (.int .i64 (frF l b : Int)) := ⟨k0, fun b hb => HF7.out.from hb⟩
                      refine wp_region_last 11 (fun w' => w'.cell? ⟨p, 0, none⟩ = some (.slice (some ⟨gb, fb, none⟩) (nB l) cb) ∧ ∀ b, b < nB l → w'.cell? ⟨gb, fb + b * 3, none⟩ = some (.int .i64 (frF l b : Int))) mix ?_
                      refine wpAnyL_take (i := 0) (v := .pointer (some ⟨p, 0, none⟩)) rfl (by kernel_rfl) (by kernel_rfl) (by kernel_rfl) (fun _ _ _ h => h) rfl (by kernel_rfl) (Or.inl ⟨by rfl, fun w' hw' => by (try go_split_ands); go_simp⟩) cv ?_
                      simp only [Act.put, List.getElem_toArray, List.getElem_cons_zero, List.setIfInBounds_toArray, List.set_cons_zero, List.set_cons_succ]
                      refine wpAnyL_take (i := 1) (v := .pointer (some ⟨p, 0, none⟩)) rfl (by kernel_rfl) (by kernel_rfl) (by kernel_rfl) (fun _ _ _ h => h) rfl (by kernel_rfl) (Or.inl ⟨by rfl, fun w' hw' => by (try go_split_ands); go_simp⟩) cv ?_
                      simp only [Act.put, List.getElem_toArray, List.getElem_cons_zero, List.getElem_cons_succ, List.setIfInBounds_toArray, List.set_cons_zero, List.set_cons_succ]
                      refine wpAnyL_take (i := 2) (v := .pointer (some ⟨p, 0, none⟩)) rfl (by kernel_rfl) (by kernel_rfl) (by kernel_rfl) (fun _ _ _ h => h) rfl (by kernel_rfl) (Or.inl ⟨by rfl, fun w' hw' => by (try go_split_ands); go_simp⟩) cv ?_
                      simp only [Act.put, List.getElem_toArray, List.getElem_cons_zero, List.getElem_cons_succ, List.setIfInBounds_toArray, List.set_cons_zero, List.set_cons_succ]
                      refine wpAnyL_take (i := 3) (v := .slice (some ⟨gb, fb, none⟩) (nB l) cb) rfl (by kernel_rfl) (by kernel_rfl) (by kernel_rfl) (fun _ _ _ h => h) rfl (by kernel_rfl) (Or.inl ⟨by rfl, fun w' hw' => by (try go_split_ands); go_simp⟩) cv ?_
                      simp only [Act.put, List.getElem_toArray, List.getElem_cons_zero, List.getElem_cons_succ, List.setIfInBounds_toArray, List.set_cons_zero, List.set_cons_succ]
                      refine wpAnyL_take (i := 4) (v := .pointer (some ⟨p, 0, none⟩)) rfl (by kernel_rfl) (by kernel_rfl) (by kernel_rfl) (fun _ _ _ h => h) rfl (by kernel_rfl) (Or.inl ⟨by rfl, fun w' hw' => by (try go_split_ands); go_simp⟩) cv ?_
                      simp only [Act.put, List.getElem_toArray, List.getElem_cons_zero, List.getElem_cons_succ, List.setIfInBounds_toArray, List.set_cons_zero, List.set_cons_succ]
                      refine wpAnyL_one (i := 5) (by kernel_rfl) rfl (fun K hK => ?_)
                      go_simp
                      go_wp2_with fail
                      have hb8 : Below w7.heap.size w7 w7.drew := (bRefl w7).drew
                      refine (turning_ok _ p (nB l) (nxt l) (plc D) d (ahd l) HGR.out HID.out gp 0 gi 0 cp (nB l) ((HND7.out.ex (Ex.of_below hb8)).pd HP7.out.drew) (.slice (some ⟨gb, fb, none⟩) (nB l) cb) bs ⟨HP7.out.drew.cell 0, HF7.out.lb, HF7.out.sb.below hb8, fun b k hk => (HF7.out.nb b k hk).2.2.below hb8⟩ HP7.out.lt HND7.out.n4.2 HND7.out.n5.2 (by omega) (fun u => by have := nxt_two l u; omega)).mono ?_
                      rintro e w8 ⟨b8, ht⟩
                      have HF8 := Lib.hid ((HF7.out.ex (Ex.of_below hb8)).ex (Ex.of_below b8))
                      have HP8 := Lib.hid (HP7.out.drew.below b8 HP7.out.drew.lt)
                      have HBT8 := Lib.hid (bThen (bThen HBT7.out hb8) b8)
                      rcases ht with ⟨tb, htb, rfl, hnb, hfb⟩ | ⟨rfl, hall⟩
                      · have HM := Lib.hid (mk_turn HG5.out htb hnb hfb)
                        have hfrm := Lib.hid (frm_frF htb)
                        have htb' : (tb : Int) < (nB l : Int) := by omega
                        have htb0 : (0 : Int) ≤ (tb : Int) := by omega
                        have cf := HF8.out.from htb
                        have cv8 : w8.cell? ⟨p, 0, none⟩ = some (.slice (some ⟨gb, fb, none⟩) (nB l) cb) ∧ ∀ b, b < nB l → w8.cell? ⟨gb, fb + b * 3, none⟩ = some (.int .i64 (frF l b : Int)) := ⟨HP8.out.cell 0, fun b hb => HF8.out.from hb⟩
                        clear hnb hfb b8 hb8 cv k0
                        go_wp2_with fail
                        refine hK.out _ _ (fun _ => cv8) ?_
                        clear hK K
                        refine wpAnyL_take (i := 6) (v := .pointer (some ⟨gb, fb + tb * 3, none⟩)) rfl (by kernel_rfl) (by kernel_rfl) (by kernel_rfl) (fun _ _ _ h => h) rfl (by kernel_rfl) (Or.inl ⟨by rfl, fun w' hw' => by have hx0 := hw'.1; have hx1 := hw'.2 tb htb; clear hw'; go_simp⟩) cv8 ?_
                        simp only [Act.put, List.getElem_toArray, List.getElem_cons_zero, List.getElem_cons_succ, List.setIfInBounds_toArray, List.set_cons_zero, List.set_cons_succ]
                        refine wpAnyL_take (i := 7) (v := .pointer (some ⟨gb, fb + tb * 3, none⟩)) rfl (by kernel_rfl) (by kernel_rfl) (by kernel_rfl) (fun _ _ _ h => h) rfl (by kernel_rfl) (Or.inl ⟨by rfl, fun w' hw' => by have hx0 := hw'.1; have hx1 := hw'.2 tb htb; clear hw'; go_simp⟩) cv8 ?_
                        simp only [Act.put, List.getElem_toArray, List.getElem_cons_zero, List.getElem_cons_succ, List.setIfInBounds_toArray, List.set_cons_zero, List.set_cons_succ]
                        refine wpAnyL_take (i := 8) (v := .int .i64 (frF l tb : Int)) rfl (by kernel_rfl) (by kernel_rfl) (by kernel_rfl) (fun _ _ _ h => h) rfl (by kernel_rfl) (Or.inl ⟨by rfl, fun w' hw' => by have hx0 := hw'.1; have hx1 := hw'.2 tb htb; clear hw'; go_simp⟩) cv8 ?_
                        simp only [Act.put, List.getElem_toArray, List.getElem_cons_zero, List.getElem_cons_succ, List.setIfInBounds_toArray, List.set_cons_zero, List.set_cons_succ]
                        refine wpAnyL_one (i := 9) (by kernel_rfl) rfl (fun K hK => ?_)
                        go_simp
                        refine hK.out _ _ (fun _ => cv8) ?_
                        clear hK K
                        refine wpAnyL_one (i := 10) (by kernel_rfl) rfl (fun K hK => ?_)
                        go_simp
                        refine hK.out _ _ (fun _ => cv8) ?_
                        clear hK K
                        refine wpAnyL_one (i := 11) (by kernel_rfl) rfl (fun K hK => ?_)
                        go_simp
                        refine hK.out _ _ (fun h => absurd rfl h) ?_
                        clear hK K
                        refine wpAnyL_done (by kernel_rfl) ?_ _
                        go_wp2
                        go_ret3
                        exact MakeP.no HM.out (by decide) HBT8.out _ _ (by rw [hfrm.out]) rfl
                      · exfalso
                        obtain ⟨b, hb1, hb2⟩ := HRO.out
                        exact hall b hb1 hb2
        · have hno := fun h => hend (HEN.out.2 h)
          have hz1 : (x.op != 26) = true := by simp; exact fun e => hno (Or.inl e)
          have hz2 : (x.op != 39) = true := by simp; exact fun e => hno (Or.inr e)
          have HM := Lib.hid (mk_end HG2.out hend)
          clear hend hno
          go_wp2
          go_ret3
          exact MakeP.no HM.out (by decide) HB2.out _ _ rfl rfl
  · have hce' : (c2 != 0) = true := by simp [hce]
    have HM := Lib.hid (mk_chk (l := l) (by rw [← HC2.out]; exact hce))
    have HNE := Lib.hid hce
    clear hce
    go_wp2
    go_ret3
    exact MakeP.no (at' := (chk 0 l).1) (c := (chk 0 l).2) HM.out (by rw [← HC2.out]; exact HNE.out) HB1.out _ _ (by rw [HC1.out]) HC2.out
end Go.Proofs.Ytpiiefdaaijgbaa
