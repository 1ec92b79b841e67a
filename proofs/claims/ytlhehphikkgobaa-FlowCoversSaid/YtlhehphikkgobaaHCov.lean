/- FlowCovers: true of every list of instructions. -/
import Derived.Test.YtlhehphikkgobaaHHeads
import Derived.Test.YtlhehphikkgobaaHCovP
namespace Go.Proofs.Ytlhehphikkgobaa
open Go Go.RowKit Go.Wr Go.Fl
set_option maxHeartbeats 4000000
set_option maxRecDepth 100000

/-- Where the block i begins, or the end. -/
def atB (l : List In) (i : Nat) : Nat := if i = 0 then 0 else twF l (i - 1)
theorem atB_fr {l : List In} {i : Nat} (hi : i < nB l) : frF l i = atB l i := by
  unfold atB
  by_cases h : i = 0
  · rw [if_pos h]; exact (cov_blk hi).2.2.1 h
  · rw [if_neg h]
    have := (cov_blk (l := l) (i := i - 1) (by omega)).2.2.2.1 (by omega)
    rw [show i - 1 + 1 = i by omega] at this
    exact this
theorem atB_succ (l : List In) (i : Nat) : atB l (i + 1) = twF l i := by unfold atB; rw [if_neg (by omega)]; rfl
theorem atB_end {l : List In} (h : 0 < nB l) : atB l (nB l) = l.length := by
  unfold atB
  rw [if_neg (by omega)]
  exact (cov_blk (l := l) (i := nB l - 1) (by omega)).2.2.2.2 (by omega)
theorem blkOf_get {m : List Nat} {k i : Nat} (h : m[k]? = some i) : blkOf m (k : Int) = (i : Int) := by
  unfold blkOf
  have := (List.getElem?_eq_some_iff.1 h).1
  rw [if_neg (by omega), Int.toNat_natCast, List.getD_eq_getElem?_getD, h]
  rfl
/-- The cells of a block whose row's place is known. -/
theorem bd_at {p : Nat} {w : World} {bb off n cap : Nat} {l : List In} (h : Bd p w (.slice (some ⟨bb, off, none⟩) n cap) (dB l)) {i : Nat} (hi : i < nB l) :
    ∃ an cn, w.cell? ⟨bb, off + i * 3, none⟩ = some (.int .i64 (frF l i : Int)) ∧ w.cell? ⟨bb, off + i * 3 + 1, none⟩ = some (.int .i64 (twF l i : Int)) ∧ w.cell? ⟨bb, off + i * 3 + 2, none⟩ = some (.slice an (nxt l i).length cn) ∧ SlX tI p w (.slice an (nxt l i).length cn) (nI (nxt l i)) := by
  obtain ⟨b, o, an, cn, e, c0, c1, c2, hs, _⟩ := h.get (dB_get hi)
  injection e with e
  injection e with e1 e2
  subst e1 e2
  simp only at c0 c1 c2 hs
  rw [nI_len] at c2 hs
  exact ⟨an, cn, c0, c1, c2, hs⟩
theorem ins_at {p : Nat} {w : World} {b o n cap : Nat} {l : List In} (h : SlX tN p w (.slice (some ⟨b, o, none⟩) n cap) l) {k : Nat} {x : In} (hx : l[k]? = some x) : At w b (o + k * 8) (inv x).toList := by
  obtain ⟨b', o', e, _, hat⟩ := h.get hx
  injection e with e
  injection e with e1 e2
  subst e1 e2
  exact hat
theorem flowcovers_ok (w : World) (q : Nat) (v : Value) (l : List In) (h : SlX tN q w v l) : Calls Try.prog 11 #[v] w fun e w' => e = .returned (.bool true) ∧ Below w.heap.size w w' := by
  obtain ⟨a0, cap, rfl, h1, h2⟩ := h.form
  have H := Lib.hid h
  unfold maxLen at h2
  clear h
  go_enter Try.func11, Try.ntmps11
  go_wp2_with fail
  refine (taken_ok w q _ l H.out).mono ?_
  rintro e w1 hT
  obtain ⟨b1, rfl | ⟨p, rfl, hpw, hF⟩⟩ := hT.two
  · have HB1 := Lib.hid b1
    clear b1 hT
    go_wp2
    go_ret
    exact ⟨rfl, HB1.out⟩
  · have HB1 := Lib.hid b1
    have HF1 := Lib.hid hF
    clear b1 hF hT
    go_wp2_with fail
    refine HF1.out.blocks.mono ?_
    rintro e w2 ⟨b2, v2, rfl, hd2⟩
    have HB2 := Lib.hid (bThen HB1.out b2)
    have HF2 := Lib.hid (HF1.out.below b2)
    have HG := Lib.hid HF2.out.1
    obtain ⟨ab, cb, rfl, h5, h6⟩ := hd2.form
    have HD2 := Lib.hid hd2
    rw [dB_len] at h5 HD2
    rw [dB_len]
    clear b2 hd2 HF1 HB1
    have hpN : 0 < nB l := HG.out.pos
    have hpos : 0 < (nB l : Int) := by omega
    have hz9 : ((nB l : Int) == 0) = false := beq_eq_false_iff_ne.2 (by omega)
    have hn5 : nB l ≤ 512 := HG.out.n512
    have hlen : l.length ≤ 4096 := HG.out.toG6.toG5.toG4.toG3.toG2.toG1.len
    have hlp : 0 < l.length := List.length_pos_iff.2 HG.out.ne
    have HR := Lib.hid (chk_ok (k := 0) (Nat.zero_le _) HG.out.ck).1
    unfold maxLen at h6
    obtain ⟨bb, off, j1, j2, rfl, j3⟩ := HD2.out.get (dB_get hpN)
    obtain ⟨bi, oi, rfl, j4⟩ := H.out.get (List.getElem?_eq_getElem hlp)
    clear j3 j4 j1 j2
    go_wp2_with fail
    refine (units_ok w2 q _ l (H.out.below HB2.out) (by omega)).mono ?_
    rintro e w3 ⟨b3, gu, cu, rfl, hou⟩
    have HB3 := Lib.hid (bThen HB2.out b3)
    have HF3 := Lib.hid (HF2.out.below b3)
    have HD3 := Lib.hid (HD2.out.below b3)
    have HU := Lib.hid hou
    have hne1 : ((l.length : Int) + 1 != (l.length : Int) + 1) = false := by simp
    have hgt : ¬ (512 : Int) < (nB l : Int) := by omega
    clear b3 hou HF2 HB2 HD2
    have HA0 := Lib.hid (show (0 : Nat) = atB l 0 from rfl)
    go_wp2
    go_loopw [7, 8] (fun t7 t8 wr => ∃ i A : Nat, i ≤ nB l ∧ t8 = .int .i64 (i : Int) ∧ t7 = .int .i64 (A : Int) ∧ Hid (A = atB l i) ∧ Hid (Below w3.heap.size w3 wr) ∧ Hid (Below w.heap.size w wr)) (fun _ t _ => nB l - (intOf t).toNat)
    case atStart => exact ⟨0, 0, by omega, rfl, rfl, HA0.out, bRefl w3, HB3.out⟩
    case round =>
      obtain ⟨i, A, hi, rfl, rfl, hA, hb, hbw⟩ := hrel
      by_cases hit : i < nB l
      · have hit' : (i : Int) < (nB l : Int) := by omega
        have hi0 : (0 : Int) ≤ (i : Int) := by omega
        obtain ⟨hc1, hc2, j1, j2, j3⟩ := cov_blk hit
        clear j1 j2 j3
        have HOF := Lib.hid (fun k => cov_of (k := k) hit)
        obtain ⟨an, cn, c0, c1, c2, hnx⟩ := bd_at (HD3.out.below hb.out) hit
        rw [show frF l i = A by rw [hA.out]; exact atB_fr hit] at hc1 HOF c0
        have HT := Lib.hid (atB_succ l i)
        obtain ⟨T, hT⟩ : ∃ T, T = twF l i := ⟨_, rfl⟩
        have HTW := Lib.hid hT
        rw [← hT] at hc1 hc2 HOF c1 HT
        have hAT : (A : Int) < (T : Int) := by omega
        have hTL : (T : Int) ≤ (l.length : Int) := by omega
        have hne0 : ((A : Int) != (A : Int)) = false := by simp
        have HC1 := Lib.hid c1
        have HNX := Lib.hid hnx
        clear hT hnx
        have C2 := Lib.hid c2
        have HB5 := Lib.hid hbw.out
        have HB3x := Lib.hid hb.out
        have HF5 := Lib.hid (HF3.out.below hb.out)
        have HU5 := Lib.hid (HU.out.below hb.out)
        have HD5 := Lib.hid (HD3.out.below hb.out)
        obtain ⟨wo, rfl⟩ : ∃ x : World, x = wr := ⟨_, rfl⟩
        have hAT2 : ¬ (T : Int) ≤ (A : Int) := by omega
        have hTL2 : ¬ (l.length : Int) < (T : Int) := by omega
        clear hc1 hc2 hb c2
        go_upto_region 15 with (fail)
        go_wp2
        clear c0 hne0
        go_loopw [9] (fun t9 wr => ∃ k : Nat, A ≤ k ∧ k ≤ T ∧ t9 = .int .i64 (k : Int) ∧ wo = wr) (fun t _ => T - (intOf t).toNat)
        case atStart => exact ⟨A, by omega, by omega, rfl, rfl⟩
        case round =>
          obtain ⟨k, hAk, hkT, rfl, rfl⟩ := hrel
          by_cases hlt : k < T
          · as_aux_lemma =>
            have hlt' : (k : Int) < (T : Int) := by omega
            have hk0 : (0 : Int) ≤ (k : Int) := by omega
            have hkl : (k : Int) < (l.length : Int) := by omega
            obtain ⟨x, hx⟩ : ∃ x, l[k]? = some x := ⟨_, List.getElem?_eq_getElem (by omega)⟩
            have hof := HOF.out k hAk hlt
            have HBK := Lib.hid (blkOf_get hof.1)
            have HE := Lib.hid (hof.2 x hx)
            have hat := ins_at (H.out.below HB5.out) hx
            obtain ⟨x0, j1, j2, j3, j4, j5, j6, j7⟩ := at_ins hat
            clear j1 j2 j3 j4 j5 j6 j7 hat hof hx
            go_wp2_with fail
            refine (HF5.out.block (k : Int)).mono ?_
            rintro e w6 ⟨rfl, rfl⟩
            rw [HBK.out]
            by_cases hk1 : k + 1 < T
            · as_aux_lemma =>
              have hk1' : (k : Int) + 1 < (T : Int) := by omega
              have hen := HE.out hk1
              unfold ends at hen
              simp only [Bool.or_eq_false_iff] at hen
              have HJ := Lib.hid (show bw x.op 26 37 = false from hen.1)
              have h39 := hen.2
              clear hen
              go_wp2_with fail
              refine (lawjumps_ok _ x.op).mono ?_
              rintro e w7 ⟨rfl, rfl⟩
              rw [HJ.out]
              go_wp2
              go_roundw
              all_goals first
                | exact ⟨k + 1, by omega, by omega, by go_num, by first | rfl | trivial⟩
                | ((repeat apply Exists.intro); exact ⟨⟨k + 1, by omega, by omega, by go_num, by first | rfl | trivial⟩, rfl⟩)
                | (simp [intOf] <;> omega)
            · have hk1' : ¬ (k : Int) + 1 < (T : Int) := by omega
              go_wp2
              go_roundw
              all_goals first
                | exact ⟨k + 1, by omega, by omega, by go_num, by first | rfl | trivial⟩
                | ((repeat apply Exists.intro); exact ⟨⟨k + 1, by omega, by omega, by go_num, by first | rfl | trivial⟩, rfl⟩)
                | (simp [intOf] <;> omega)
          · obtain rfl : k = T := by omega
            obtain ⟨K, hK⟩ : ∃ K, k = K + 1 := ⟨k - 1, by omega⟩
            subst hK
            obtain ⟨x, hx⟩ : ∃ x, l[K]? = some x := ⟨_, List.getElem?_eq_getElem (by omega)⟩
            have hxm := List.mem_of_getElem? hx
            have hat := ins_at (H.out.below HB5.out) hx
            obtain ⟨x0, x1, x2, x3, x4, x5, x6, x7⟩ := at_ins hat
            have hoff := right_off (HR.out x hxm)
            have HIM := Lib.hid (fun h1 h2 => right_imm (HR.out x hxm) h1 h2)
            have HN := Lib.hid (cov_next HG.out.toG6.toG5.toG4.toG3.toG2 hit (x := x) (by rw [← HTW.out]; exact hx))
            have hul := (unit_le (l := l) (i := K) (by omega)).2
            obtain ⟨U, hU⟩ : ∃ U, U = unit l K := ⟨_, rfl⟩
            have uc := OwR.int HU5.out (k := K) (x := (unit l K : Int)) (by unfold unitsI; rw [List.getElem?_map, List.getElem?_range (by omega)]; rfl)
            rw [← hU] at hul uc
            have HUU := Lib.hid hU
            have hKl : (K : Int) < (l.length : Int) := by omega
            have hK0 : (0 : Int) ≤ (K : Int) := by omega
            have hKs : ((K + 1 : Nat) : Int) - 1 = (K : Int) := by omega
            have hKs2 : (K : Int) + 1 - 1 = (K : Int) := by omega
            have hKl1 : (K : Int) < (l.length : Int) + 1 := by omega
            have hU0 : (U : Int) ≤ 8192 := by omega
            have hU1 : (0 : Int) ≤ (U : Int) := by omega
            clear hlt hAk hkT hx hxm hat hU hul HOF hA HA0
            go_upto_region 21 with (fail)
            generalize hW : wo.alloc (.cells #[.int .i64 x.op, .bool x.nar, .bool x.reg, .int .i64 x.sz, .int .i64 x.dst, .int .i64 x.src, .int .i64 x.off, .int .i64 x.imm] 66) = W
            obtain ⟨z, hz⟩ : ∃ z, z = wo.heap.size := ⟨_, rfl⟩
            rw [← hz]
            have bW : Below wo.heap.size wo W := by rw [← hW]; exact bAl (bRefl wo) _
            have pW : Blk W z 66 (inv x) := by rw [← hW, hz]; exact Blk.new _ _ _
            have HPW := Lib.hid pW
            have HBW := Lib.hid bW
            have d0 : W.cell? ⟨z, 0, none⟩ = some (.int .i64 x.op) := pW.cell 0
            have d1 : W.cell? ⟨z, 1, none⟩ = some (.bool x.nar) := pW.cell 1
            have d6 : W.cell? ⟨z, 6, none⟩ = some (.int .i64 x.off) := pW.cell 6
            have d7 : W.cell? ⟨z, 7, none⟩ = some (.int .i64 x.imm) := pW.cell 7
            have uW : W.cell? ⟨gu, K, none⟩ = some (.int .i64 (U : Int)) := (bW.cell (p := ⟨gu, K, none⟩) (World.block_lt_of_cell? _ _ uc)).trans uc
            have cW : W.cell? ⟨bb, off + i * 3 + 1, none⟩ = some (.int .i64 ((K + 1 : Nat) : Int)) := (bW.cell (World.block_lt_of_cell? _ _ HC1.out)).trans HC1.out
            have fU := Lib.hid (show At W gu 0 [] from ⟨Nat.lt_of_lt_of_le (HU5.out.lt (g := gu) rfl) bW.size, fun j u hj => by simp at hj⟩)
            clear hW hz bW pW x0 x1 x2 x3 x4 x5 x6 x7 uc c1
            go_quiet (fail)
            rename_i nq
            have HB6 := Lib.hid (bDraw HBW.out nq)
            have e0 : (W.drewN nq).cell? ⟨z, 0, none⟩ = some (.int .i64 x.op) := d0
            have e1 : (W.drewN nq).cell? ⟨z, 1, none⟩ = some (.bool x.nar) := d1
            have e7 : (W.drewN nq).cell? ⟨z, 7, none⟩ = some (.int .i64 x.imm) := d7
            have eU : (W.drewN nq).cell? ⟨gu, K, none⟩ = some (.int .i64 (U : Int)) := uW
            have eW : (W.drewN nq).cell? ⟨bb, off + i * 3 + 1, none⟩ = some (.int .i64 ((K + 1 : Nat) : Int)) := cW
            clear d0 d1 d6 d7 uW cW
            generalize W.drewN nq = W at HB6 e0 e1 e7 eU eW ⊢
            have cW : W.cell? ⟨bb, off + i * 3 + 2, none⟩ = some (.slice an (nxt l i).length cn) := (HB6.out.cell (World.block_lt_of_cell? _ _ C2.out)).trans C2.out
            have hS6 := HNX.out.below HB6.out
            have HB7 := Lib.hid (bThen HB5.out HB6.out)
            have HBx := Lib.hid (bThen HB3x.out HB6.out)
            by_cases h39 : x.op = 39
            · as_aux_lemma =>
              have hl0 : (nxt l i).length = 0 := by rw [HN.out.1 h39]; rfl
              rw [hl0] at cW
              rw [h39] at e0
              clear h39 hl0 hS6 eU eW
              generalize x.nar = nr at e1
              cases nr <;>
              · go_wp2
                go_roundw
                all_goals first
                  | exact ⟨i + 1, K + 1, by omega, by go_num, rfl, HT.out.symm, HBx.out, HB7.out⟩
                  | ((repeat apply Exists.intro); exact ⟨⟨i + 1, K + 1, by omega, by go_num, rfl, HT.out.symm, HBx.out, HB7.out⟩, rfl⟩)
                  | (simp [intOf] <;> omega)
            · by_cases hj : jump x = true
              · obtain ⟨j, hjn, hgl, hfl, hnx⟩ := HN.out.2.1 hj
                have hj1 := hj
                unfold jump at hj1
                have HJ := Lib.hid hj1
                rw [← HTW.out, Nat.add_sub_cancel] at hgl
                unfold goal at hgl
                rw [← HUU.out] at hgl
                obtain ⟨_, _, cj, _⟩ := bd_at (HD5.out.below HB6.out) hjn
                have hug := OwR.int (HU5.out.below HB6.out) (k := frF l j) (x := (unit l (frF l j) : Int)) (by unfold unitsI; rw [List.getElem?_map, List.getElem?_range (by omega)]; rfl)
                rw [hgl] at hug
                obtain ⟨J, hJ⟩ : ∃ J, J = frF l j := ⟨_, rfl⟩
                rw [← hJ] at cj hug hfl
                have hjn' : (j : Int) < (nB l : Int) := by omega
                have hj0 : (0 : Int) ≤ (j : Int) := by omega
                have hJ0 : (0 : Int) ≤ (J : Int) := by omega
                have hJl : (J : Int) < (l.length : Int) + 1 := by omega
                clear hj hj1 hgl hJ
                by_cases h26 : x.op = 26
                · as_aux_lemma =>
                  rw [if_pos h26] at hnx
                  rw [hnx] at cW hS6
                  obtain ⟨bn, on, rfl, _, _, cn0⟩ := SlX.int hS6 (show (nI ([j] ++ []))[0]? = some (j : Int) from rfl)
                  simp only [Nat.add_zero] at cn0
                  have hl1 : ([j] ++ [] : List Nat).length = 1 := rfl
                  rw [hl1] at cW
                  have HIM2 := Lib.hid (HIM.out h26)
                  cases hnr : x.nar with
                  | true =>
                    rw [if_pos ⟨h26, hnr⟩] at hug
                    have hib := HIM2.out hnr
                    rw [h26] at e0
                    rw [hnr] at e1
                    clear h26 hnr hnx hS6 hl1 h39
                    go_upto_region 23 with (fail)
                    go_quiet (fail)
                    rename Nat => nq2
                    have HB8 := Lib.hid (bDraw HB7.out nq2)
                    have HBy := Lib.hid (bDraw HBx.out nq2)
                    have f0 : (W.drewN nq2).cell? ⟨z, 0, none⟩ = some (.int .i64 26) := e0
                    have f1 : (W.drewN nq2).cell? ⟨bb, off + i * 3 + 2, none⟩ = some (.slice (some ⟨bn, on, none⟩) 1 cn) := cW
                    have f2 : (W.drewN nq2).cell? ⟨bn, on, none⟩ = some (.int .i64 (j : Int)) := cn0
                    have f3 : (W.drewN nq2).cell? ⟨bb, off + j * 3, none⟩ = some (.int .i64 (J : Int)) := cj
                    have f4 : (W.drewN nq2).cell? ⟨gu, J, none⟩ = some (.int .i64 ((U : Int) + 1 + x.imm)) := hug
                    clear e0 e1 e7 eU eW cW cn0 cj hug HB7 HBx
                    generalize W.drewN nq2 = W at HB8 HBy f0 f1 f2 f3 f4 ⊢
                    have HB7 := HB8
                    have HBx := HBy
                    go_wp2
                    go_roundw
                    all_goals first
                      | exact ⟨i + 1, K + 1, by omega, by go_num, rfl, HT.out.symm, HBx.out, HB7.out⟩
                      | ((repeat apply Exists.intro); exact ⟨⟨i + 1, K + 1, by omega, by go_num, rfl, HT.out.symm, HBx.out, HB7.out⟩, rfl⟩)
                      | (simp [intOf] <;> omega)
                  | false =>
                    rw [if_neg (by rw [hnr]; simp)] at hug
                    rw [h26] at e0
                    rw [hnr] at e1
                    clear h26 hnr hnx hS6 hl1 h39 eU eW e7
                    go_wp2
                    go_roundw
                    all_goals first
                      | exact ⟨i + 1, K + 1, by omega, by go_num, rfl, HT.out.symm, HBx.out, HB7.out⟩
                      | ((repeat apply Exists.intro); exact ⟨⟨i + 1, K + 1, by omega, by go_num, rfl, HT.out.symm, HBx.out, HB7.out⟩, rfl⟩)
                      | (simp [intOf] <;> omega)
                · as_aux_lemma =>
                  have h26' : (x.op == 26) = false := by simpa using h26
                  have h39' : (x.op == 39) = false := by simpa using h39
                  rw [if_neg h26] at hnx
                  rw [if_neg (fun h => h26 h.1)] at hug
                  rw [hnx] at cW hS6
                  obtain ⟨bn, on, rfl, _, _, cn0⟩ := SlX.int hS6 (show (nI ([j] ++ [i + 1]))[0]? = some (j : Int) from rfl)
                  obtain ⟨bn2, on2, e2, _, _, cn1⟩ := SlX.int hS6 (show (nI ([j] ++ [i + 1]))[1]? = some ((i + 1 : Nat) : Int) from rfl)
                  injection e2 with e2
                  injection e2 with e21 e22
                  subst e21 e22
                  simp only [Nat.add_zero] at cn0
                  have hl1 : ([j] ++ [i + 1] : List Nat).length = 2 := rfl
                  rw [hl1] at cW
                  clear h26 h39 hnx hS6 hl1 eU eW e7
                  generalize x.nar = nr at e1
                  cases nr <;>
                  · go_wp2_with fail
                    refine (lawjumps_ok _ x.op).mono ?_
                    rintro e w7 ⟨rfl, rfl⟩
                    rw [HJ.out]
                    go_wp2
                    go_roundw
                    all_goals first
                      | exact ⟨i + 1, K + 1, by omega, by go_num, rfl, HT.out.symm, HBx.out, HB7.out⟩
                      | ((repeat apply Exists.intro); exact ⟨⟨i + 1, K + 1, by omega, by go_num, rfl, HT.out.symm, HBx.out, HB7.out⟩, rfl⟩)
                      | (simp [intOf] <;> omega)
              · as_aux_lemma =>
                have hj : jump x = false := by simpa using hj
                have hnx := HN.out.2.2 hj h39
                have hj1 := hj
                unfold jump at hj1
                have HJ := Lib.hid hj1
                have h26' : (x.op == 26) = false := by
                  rw [beq_eq_false_iff_ne]
                  intro e
                  rw [e] at hj1
                  revert hj1
                  decide
                have h39' : (x.op == 39) = false := by simpa using h39
                rw [hnx] at cW hS6
                obtain ⟨bn, on, rfl, _, _, cn0⟩ := SlX.int hS6 (show (nI [i + 1])[0]? = some ((i + 1 : Nat) : Int) from rfl)
                simp only [Nat.add_zero] at cn0
                have hl1 : ([i + 1] : List Nat).length = 1 := rfl
                rw [hl1] at cW
                clear h39 hnx hS6 hl1 eU eW e7 hj hj1
                generalize x.nar = nr at e1
                cases nr <;>
                · go_wp2_with fail
                  refine (lawjumps_ok _ x.op).mono ?_
                  rintro e w7 ⟨rfl, rfl⟩
                  rw [HJ.out]
                  go_wp2
                  go_roundw
                  all_goals first
                    | exact ⟨i + 1, K + 1, by omega, by go_num, rfl, HT.out.symm, HBx.out, HB7.out⟩
                    | ((repeat apply Exists.intro); exact ⟨⟨i + 1, K + 1, by omega, by go_num, rfl, HT.out.symm, HBx.out, HB7.out⟩, rfl⟩)
                    | (simp [intOf] <;> omega)
      · obtain rfl : i = nB l := by omega
        have hAL : A = l.length := by rw [hA.out]; exact atB_end hpN
        subst hAL
        clear hit
        go_wp2
        go_ret
        exact ⟨rfl, hbw.out⟩
end Go.Proofs.Ytlhehphikkgobaa
