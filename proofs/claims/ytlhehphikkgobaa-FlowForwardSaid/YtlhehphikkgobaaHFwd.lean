/- FlowForward: true of every list of instructions. -/
import Derived.Test.YtlhehphikkgobaaHHeads
namespace Go.Proofs.Ytlhehphikkgobaa
open Go Go.RowKit Go.Wr Go.Fl
set_option maxHeartbeats 4000000
set_option maxRecDepth 100000

theorem down_way {nx : Nat → List Nat} {pl : Nat → Nat} {n : Nat} {ah : Nat → List Nat} (g : Gr nx pl n ah) : ∀ k u, pl u ≤ k → u < n → ∃ w, RW nx w u ∧ ∀ x ∈ w, pl x ≤ pl u := by
  intro k
  induction k with
  | zero =>
    intro u hk hu
    by_cases h0 : u = 0
    · subst h0
      exact ⟨[0], RW.root, fun x hx => by simp at hx; subst hx; omega⟩
    · have := g.pos u hu h0; omega
  | succ k ih =>
    intro u hk hu
    by_cases h0 : u = 0
    · subst h0
      exact ⟨[0], RW.root, fun x hx => by simp at hx; subst hx; omega⟩
    · obtain ⟨p, hp, hlt⟩ := g.par u hu h0
      obtain ⟨hpn, hup⟩ := (g.mem p u hu).1 hp
      obtain ⟨w, hw, hx⟩ := ih p (by omega) hpn
      refine ⟨u :: w, RW.step hw hup, fun x hx' => ?_⟩
      rcases List.mem_cons.1 hx' with rfl | hx'
      · omega
      · have := hx x hx'; omega
theorem dom_le {nx : Nat → List Nat} {pl : Nat → Nat} {n : Nat} {ah : Nat → List Nat} (g : Gr nx pl n ah) {u v : Nat} (hu : u < n) (h : Dom nx v u) : pl v ≤ pl u := by
  obtain ⟨w, hw, hx⟩ := down_way g (pl u) u (by omega) hu
  exact hx v (h w hw)
/-- Where a block is told in the order. -/
noncomputable def pO (l : List In) (b : Nat) : Nat := plc (dfsL (nxt l)) b
theorem FinP.gr {l : List In} {p : Nat} {w : World} (h : FinP l p w) : Gr (nxt l) (pO l) (nB l) (ahd l) := h.1.gr
theorem FinP.dm {l : List In} {p : Nat} {w : World} (h : FinP l p w) {u v : Nat} (hu : u < nB l) (hv : v ∈ nxt l u) : domB (nxt l) (nB l) (v : Int) (u : Int) = decide (pO l v ≤ pO l u) := by
  have hg := h.gr
  have hvn := hg.nlt u hu v hv
  obtain ⟨g, ab, cb, b4, o4, b5, o5, c4, c5, va, vo, vr, vl, bs, ss, E, d, h⟩ := h
  rw [Bool.eq_iff_iff, dom_iff hvn hu, decide_eq_true_iff]
  constructor
  · exact fun hd => dom_le hg hu hd
  · intro hle
    apply Classical.byContradiction
    intro hnd
    obtain ⟨b, hb, hr⟩ := g.toG5.round h.nd.id ⟨u, v, hu, hv, hle, hnd⟩
    exact g.no b hb hr
/-- The order's blocks. -/
noncomputable def oO (l : List In) : List Nat := (dfsL (nxt l)).reverse
theorem oO_len {l : List In} (g : G7 l) : (oO l).length = nB l := by unfold oO; rw [List.length_reverse]; exact g.len
theorem oO_lt {l : List In} (g : G7 l) {i x : Nat} (h : (oO l)[i]? = some x) : x < nB l := g.dlt x (by have := List.mem_of_getElem? h; unfold oO at this; simpa using this)
theorem oO_pl {l : List In} (g : G7 l) {i x : Nat} (h : (oO l)[i]? = some x) : pO l x = i := by
  unfold pO plc
  have hn : (oO l).Nodup := nd_rev g.dfs.po.nd
  obtain ⟨hi, e⟩ := List.getElem?_eq_some_iff.1 h
  show (oO l).idxOf x = i
  rw [← e]
  exact hn.idxOf_getElem i hi
theorem oO_0 {l : List In} (g : G7 l) : (oO l)[0]? = some 0 := by
  have h0 := g.gr.p0
  have hm : 0 ∈ oO l := by unfold oO; simpa using g.mem 0 g.pos
  have hi : (oO l).idxOf 0 < (oO l).length := List.idxOf_lt_length_iff.2 hm
  have e := List.getElem_idxOf hi
  have h0 : (oO l).idxOf 0 = 0 := h0
  have : (oO l)[(oO l).idxOf 0]? = some 0 := by rw [List.getElem?_eq_getElem hi, e]
  rwa [h0] at this
/-- Where the blocks are told, of the first i told. -/
noncomputable def atK (l : List In) (i b : Nat) : Int := if pO l b < i then (pO l b : Int) + 1 else 0
theorem atK_zero (l : List In) : List.replicate (nB l) (0 : Int) = (List.range (nB l)).map (atK l 0) := by
  apply List.ext_getElem?
  intro i
  by_cases hi : i < nB l
  · rw [List.getElem?_map, List.getElem?_range hi, List.getElem?_replicate, if_pos hi]
    simp [atK]
  · rw [List.getElem?_eq_none (by simp; omega), List.getElem?_eq_none (by simp; omega)]
theorem atK_set {l : List In} (g : G7 l) {i x : Nat} (h : (oO l)[i]? = some x) : ((List.range (nB l)).map (atK l i)).set x ((i : Int) + 1) = (List.range (nB l)).map (atK l (i + 1)) := by
  have hx := oO_lt g h
  have hp := oO_pl g h
  apply List.ext_getElem?
  intro k
  rw [List.getElem?_set]
  simp only [List.length_map, List.length_range, List.getElem?_map]
  by_cases e : x = k
  · subst e
    rw [if_pos rfl, if_pos hx, List.getElem?_range hx]
    simp [atK, hp]
  · rw [if_neg e]
    by_cases hk : k < nB l
    · rw [List.getElem?_range hk]
      simp only [Option.map_some, Option.some.injEq]
      unfold atK
      have hne : pO l k ≠ i := fun e2 => e (g.gr.inj x k hx hk (by show pO l x = pO l k; rw [hp, e2]))
      by_cases h2 : pO l k < i
      · rw [if_pos h2, if_pos (by omega)]
      · rw [if_neg h2, if_neg (by omega)]
    · rw [List.getElem?_eq_none (by simp; omega)]
      rfl
theorem atK_full {l : List In} (g : G7 l) {b : Nat} (hb : b < nB l) : atK l (nB l) b = (pO l b : Int) + 1 := by
  unfold atK
  rw [if_pos (show pO l b < nB l from g.plt hb)]
theorem OwI.put {l : List In} (gg : G7 l) {B g i x : Nat} {w : World} (h : OwR tI B w (.slice (some ⟨g, 0, none⟩) (nB l) (nB l)) ((List.range (nB l)).map (atK l i))) (hx : (oO l)[i]? = some x) : OwR tI B (w.setCell ⟨g, x, none⟩ (.int .i64 ((i : Int) + 1))) (.slice (some ⟨g, 0, none⟩) (nB l) (nB l)) ((List.range (nB l)).map (atK l (i + 1))) := by
  have hxn := oO_lt gg hx
  have := h.set (k := x) (j := 0) (x := atK l i x) (y := (i : Int) + 1) (v := .int .i64 ((i : Int) + 1)) (by rw [List.getElem?_map, List.getElem?_range hxn]; rfl) (by decide) rfl
  rw [atK_set gg hx] at this
  have e : x * tI.n + 0 = x := by show x * 1 + 0 = x; omega
  rw [e] at this
  exact this
theorem OwI.cell {l : List In} {B g i x : Nat} {w : World} (h : OwR tI B w (.slice (some ⟨g, 0, none⟩) (nB l) (nB l)) ((List.range (nB l)).map (atK l i))) (hx : x < nB l) : w.cell? ⟨g, x, none⟩ = some (.int .i64 (atK l i x)) := by
  have := (h.at (k := x) (x := atK l i x) (by rw [List.getElem?_map, List.getElem?_range hx]; rfl)).cell 0 _ rfl
  rw [show 0 + x * tI.n + 0 = x by show 0 + x * 1 + 0 = x; omega] at this
  exact this
theorem flowforward_ok (w : World) (q : Nat) (v : Value) (l : List In) (h : SlX tN q w v l) : Calls Try.prog 15 #[v] w fun e w' => e = .returned (.bool true) ∧ Below w.heap.size w w' := by
  obtain ⟨a0, cap, rfl, h1, h2⟩ := h.form
  have H := Lib.hid h
  unfold maxLen at h2
  clear h
  go_enter Try.func15, Try.ntmps15
  go_wp2_with fail
  refine (taken_ok w q _ l H.out).mono ?_
  rintro e w1 hT
  obtain ⟨b1, rfl | ⟨p, rfl, _, hF⟩⟩ := hT.two
  · have HB1 := Lib.hid b1
    clear b1 hT
    go_wp2
    go_ret
    exact ⟨rfl, HB1.out⟩
  · have HB1 := Lib.hid b1
    have HF1 := Lib.hid hF
    clear b1 hF hT
    go_wp2_with fail
    refine HF1.out.blocks.mono ?_
    rintro e w2 ⟨b2, v2, rfl, hd2⟩
    have HB2 := Lib.hid (bThen HB1.out b2)
    have HF2 := Lib.hid (HF1.out.below b2)
    obtain ⟨ab, cb, rfl, h5, h6⟩ := hd2.form
    have HD2 := Lib.hid hd2
    rw [dB_len] at h5 HD2
    rw [dB_len]
    clear b2 hd2 HF1 HB1
    go_wp2_with fail
    refine HF2.out.order.mono ?_
    rintro e w3 ⟨b3, v3, rfl, ho3⟩
    have HB3 := Lib.hid (bThen HB2.out b3)
    have HF3 := Lib.hid (HF2.out.below b3)
    have HD3 := Lib.hid (HD2.out.below b3)
    have HG := Lib.hid HF3.out.1
    obtain ⟨ao, co, rfl, h7, h8⟩ := ho3.form
    have ho3 : SlX tI p w3 (.slice ao (nI (oO l)).length co) (nI (oO l)) := ho3
    have h7 : (nI (oO l)).length ≤ co := h7
    rw [nI_len, oO_len HG.out] at ho3 h7
    rw [show (nI (dfsL (nxt l)).reverse).length = nB l by rw [nI_len]; exact oO_len HG.out]
    have HO3 := Lib.hid ho3
    clear b3 ho3 HF2 HB2 HD2
    have hpN : 0 < nB l := HG.out.pos
    have hpos : 0 < (nB l : Int) := by omega
    have hz9 : ((nB l : Int) == 0) = false := beq_eq_false_iff_ne.2 (by omega)
    have hn5 : nB l ≤ 512 := HG.out.n512
    have hp3 := Lib.hid HF3.out.lt
    have hO0 : (nI (oO l))[0]? = some ((0 : Nat) : Int) := by unfold nI; rw [List.getElem?_map, oO_0 HG.out]; rfl
    obtain ⟨bo, oo, rfl, _, hbo, c00⟩ := SlX.int HO3.out hO0
    simp only [Nat.add_zero] at c00
    have c00 : w3.cell? ⟨bo, oo, none⟩ = some (.int .i64 0) := c00
    unfold maxLen at h6 h8
    clear hO0
    go_wp2_with (at_make; refine wpl_make tI 0 rfl rfl _ _ rfl .i64 .i64 (nB l : Int) (nB l : Int) (nB l) rfl rfl rfl rfl (by show 8 * _ ≤ _; omega) (by unfold maxLen; omega) ?_; intro w4 ho4 hb4 hlt4)
    obtain ⟨g, hg⟩ : ∃ g, g = w3.heap.size := ⟨_, rfl⟩
    rw [← hg] at ho4 ⊢
    rw [atK_zero] at ho4
    have HA4 := Lib.hid ho4
    have HB4 := Lib.hid hb4
    have HGS := Lib.hid hg
    clear ho4 hb4 hlt4 hg c00
    go_loopw [8] (fun t wr => ∃ i : Nat, i ≤ nB l ∧ t = .int .i64 (i : Int) ∧ Hid (Below w3.heap.size w3 wr) ∧ Hid (OwR tI g wr (.slice (some ⟨g, 0, none⟩) (nB l) (nB l)) ((List.range (nB l)).map (atK l i)))) (fun t _ => nB l - (intOf t).toNat)
    case atStart => exact ⟨0, by omega, rfl, HB4.out, HA4.out⟩
    case round =>
      clear HA4 HB4
      obtain ⟨i, hi, rfl, hb, hA⟩ := hrel
      by_cases hit : i < nB l
      · have hit' : (i : Int) < (nB l : Int) := by omega
        have hi0 : (0 : Int) ≤ (i : Int) := by omega
        obtain ⟨x, hx⟩ : ∃ x, (oO l)[i]? = some x := ⟨_, List.getElem?_eq_getElem (by rw [oO_len HG.out]; exact hit)⟩
        obtain ⟨b9, o9, e9, _, _, ci⟩ := SlX.int (HO3.out.below hb.out) (show (nI (oO l))[i]? = some (x : Int) by unfold nI; rw [List.getElem?_map, hx]; rfl)
        injection e9 with e9
        injection e9 with e8 e7
        subst e8 e7
        have hxn := oO_lt HG.out hx
        have hxn' : (x : Int) < (nB l : Int) := by omega
        have hx0 : (0 : Int) ≤ (x : Int) := by omega
        have cx := OwI.cell hA.out hxn
        rw [show atK l i x = 0 by unfold atK; rw [oO_pl HG.out hx, if_neg (by omega)]] at cx
        have fx := hA.out.frozen x
        have HAn := Lib.hid (OwI.put HG.out hA.out hx)
        have HBn := Lib.hid (hb.out.setCell (p := ⟨g, x, none⟩) (Nat.le_of_eq HGS.out.symm) (.int .i64 ((i : Int) + 1)))
        clear hx hA hb
        go_wp2
        go_roundw
        all_goals first
          | exact ⟨i + 1, by omega, by go_num, HBn.out, HAn.out⟩
          | ((repeat apply Exists.intro); exact ⟨⟨i + 1, by omega, by go_num, HBn.out, HAn.out⟩, rfl⟩)
          | (simp [intOf] <;> omega)
      · obtain rfl : i = nB l := by omega
        obtain ⟨w5, rfl⟩ : ∃ w5 : World, w5 = wr := ⟨_, rfl⟩
        have HF5 := Lib.hid (HF3.out.below hb.out)
        have HD5 := Lib.hid (HD3.out.below hb.out)
        have HB5 := Lib.hid (HB3.out.trans (hb.out.mono HB3.out.size))
        clear hit HF3 HD3 HB3 hb HO3
        go_wp2
        go_loopw [9] (fun t wr => ∃ u : Nat, u ≤ nB l ∧ t = .int .i64 (u : Int) ∧ Hid (Below w5.heap.size w5 wr)) (fun t _ => nB l - (intOf t).toNat)
        case atStart => exact ⟨0, by omega, rfl, bRefl w5⟩
        case round =>
          obtain ⟨u, hu, rfl, hb⟩ := hrel
          by_cases hut : u < nB l
          · have hut' : (u : Int) < (nB l : Int) := by omega
            have hu0 : (0 : Int) ≤ (u : Int) := by omega
            obtain ⟨wo, rfl⟩ : ∃ wo : World, wo = wr := ⟨_, rfl⟩
            obtain ⟨b, o, a, c, rfl, _, _, c2, hs, hblt⟩ := (HD5.out.below hb.out).get (dB_get hut)
            simp only at c2 hs
            rw [nI_len] at c2 hs
            have HS := Lib.hid hs
            have HC2 := Lib.hid c2
            have hx2 := nxt_two l u
            have HBL := Lib.hid hblt
            clear hs hblt
            go_wp2
            go_loopw [10] (fun t wr => ∃ k : Nat, k ≤ (nxt l u).length ∧ t = .int .i64 (k : Int) ∧ Hid (Below wo.heap.size wo wr)) (fun t _ => (nxt l u).length - (intOf t).toNat)
            case atStart => exact ⟨0, by omega, rfl, bRefl wo⟩
            case round =>
              clear c2
              obtain ⟨k, hk, rfl, hbi⟩ := hrel
              have c2 : wr.cell? ⟨b, o + u * 3 + 2, none⟩ = some (.slice a (nxt l u).length c) := (hbi.out.cell (p := ⟨b, o + u * 3 + 2, none⟩) HBL.out).trans HC2.out
              by_cases hkt : k < (nxt l u).length
              · have hkt' : (k : Int) < ((nxt l u).length : Int) := by omega
                have hk0 : (0 : Int) ≤ (k : Int) := by omega
                obtain ⟨v, hv⟩ : ∃ v, (nxt l u)[k]? = some v := ⟨_, List.getElem?_eq_getElem hkt⟩
                have hvm : v ∈ nxt l u := List.mem_of_getElem? hv
                have hvn := HF5.out.gr.nlt u hut v hvm
                have hvn' : (v : Int) < (nB l : Int) := by omega
                have hv0 : (0 : Int) ≤ (v : Int) := by omega
                obtain ⟨bv, ov, rfl, _, _, cv⟩ := SlX.int (HS.out.below hbi.out) (show (nI (nxt l u))[k]? = some (v : Int) by unfold nI; rw [List.getElem?_map, hv]; rfl)
                have HT := Lib.hid (hb.out.trans (hbi.out.mono hb.out.size))
                have HFr := Lib.hid (HF5.out.below HT.out)
                have hAr := hA.out.below HT.out
                have av := OwI.cell hAr hvn
                have au := OwI.cell hAr hut
                rw [atK_full HG.out hvn] at av
                rw [atK_full HG.out hut] at au
                have hdm := HFr.out.dm hut hvm
                obtain ⟨X, hX⟩ : ∃ X : Int, X = (pO l v : Int) + 1 := ⟨_, rfl⟩
                obtain ⟨Y, hY⟩ : ∃ Y : Int, Y = (pO l u : Int) + 1 := ⟨_, rfl⟩
                rw [← hX] at av
                rw [← hY] at au
                clear hv hvm hAr
                by_cases hle : pO l v ≤ pO l u
                · rw [decide_eq_true hle] at hdm
                  have hXY : X ≤ Y := by omega
                  have hdc : decide (Y < X) = false := decide_eq_false (by omega)
                  have HDm := Lib.hid hdm
                  clear hX hY hle hdm
                  go_upto_region 22 with (fail)
                  go_quiet ((go_at_call 23; exact Calls.quiet_of ((HFr.out.below (bDrewN (bRefl _) _)).dom (v : Int) (u : Int))))
                  rw [HDm.out]
                  go_wp2
                  · exfalso
                    rename_i h9
                    rcases h9 with (h9 | h9) | h9
                    · omega
                    · omega
                    · exact absurd h9 (by decide)
                  go_roundw
                  all_goals first
                    | exact ⟨k + 1, by omega, by go_num, bDraw hbi.out _⟩
                    | ((repeat apply Exists.intro); exact ⟨⟨k + 1, by omega, by go_num, bDraw hbi.out _⟩, rfl⟩)
                    | (simp [intOf] <;> omega)
                · rw [decide_eq_false hle] at hdm
                  have hXY : Y < X := by omega
                  have hdc : decide (Y < X) = true := decide_eq_true (by omega)
                  have HDm := Lib.hid hdm
                  clear hX hY hle hdm
                  go_upto_region 22 with (fail)
                  go_quiet ((go_at_call 23; exact Calls.quiet_of ((HFr.out.below (bDrewN (bRefl _) _)).dom (v : Int) (u : Int))))
                  rw [HDm.out]
                  go_wp2
                  · exfalso
                    rename_i h9
                    rcases h9 with (h9 | h9) | h9
                    · omega
                    · omega
                    · exact absurd h9 (by decide)
                  go_roundw
                  all_goals first
                    | exact ⟨k + 1, by omega, by go_num, bDraw hbi.out _⟩
                    | ((repeat apply Exists.intro); exact ⟨⟨k + 1, by omega, by go_num, bDraw hbi.out _⟩, rfl⟩)
                    | (simp [intOf] <;> omega)
              · obtain rfl : k = (nxt l u).length := by omega
                have HT := Lib.hid (hb.out.trans (hbi.out.mono hb.out.size))
                clear hkt
                go_wp2
                go_roundw
                all_goals first
                  | exact ⟨u + 1, by omega, by go_num, HT.out⟩
                  | ((repeat apply Exists.intro); exact ⟨⟨u + 1, by omega, by go_num, HT.out⟩, rfl⟩)
                  | (simp [intOf] <;> omega)
          · obtain rfl : u = nB l := by omega
            clear hut
            go_wp2
            go_ret
            exact ⟨rfl, HB5.out.trans (hb.out.mono HB5.out.size)⟩
end Go.Proofs.Ytlhehphikkgobaa
