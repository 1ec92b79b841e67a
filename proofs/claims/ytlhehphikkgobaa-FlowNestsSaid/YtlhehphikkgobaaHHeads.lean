/- FlowHeads: true of every list of instructions. -/
import Derived.Test.YtlhehphikkgobaaHBase
namespace Go.Proofs.Ytlhehphikkgobaa
open Go Go.RowKit Go.Wr Go.Fl
set_option maxHeartbeats 4000000
set_option maxRecDepth 100000

/-- Has one of the first k blocks an edge to h, and h dominates it? -/
noncomputable def anyU (l : List In) (h k : Nat) : Bool := (List.range k).any fun u => domB (nxt l) (nB l) (h : Int) (u : Int) && (nI (nxt l u)).contains (h : Int)
theorem anyU_succ (l : List In) (h k : Nat) : anyU l h (k + 1) = (anyU l h k || (domB (nxt l) (nB l) (h : Int) (k : Int) && (nI (nxt l k)).contains (h : Int))) := by
  unfold anyU; rw [List.range_succ, List.any_append]; simp
/-- Is one of the first k loops' heads h? -/
noncomputable def anyL (l : List In) (h k : Nat) : Bool := (List.range k).any fun i => (((heads l).getD i 0 : Nat) : Int) == (h : Int)
theorem anyL_succ (l : List In) (h k : Nat) : anyL l h (k + 1) = (anyL l h k || ((((heads l).getD k 0 : Nat) : Int) == (h : Int))) := by
  unfold anyL; rw [List.range_succ, List.any_append]; simp
theorem nI_has {m : List Nat} {x : Nat} : (nI m).contains (x : Int) = true ↔ x ∈ m := by
  rw [List.contains_iff_mem]
  unfold nI
  rw [List.mem_map]
  constructor
  · rintro ⟨y, hy, e⟩
    have : y = x := by omega
    rwa [this] at hy
  · exact fun h => ⟨x, h, rfl⟩
theorem dom_iff {nx : Nat → List Nat} {n a b : Nat} (ha : a < n) (hb : b < n) : domB nx n (a : Int) (b : Int) = true ↔ Dom nx a b := by
  by_cases h : Dom nx a b
  · exact ⟨fun _ => h, fun _ => domB_yes ha hb h⟩
  · exact ⟨fun e => absurd e (by rw [domB_no h]; decide), fun e => absurd e h⟩
theorem anyU_head {l : List In} {h : Nat} (hh : h < nB l) : anyU l h (nB l) = headB l h := by
  rw [Bool.eq_iff_iff, headB_iff]
  unfold anyU
  rw [List.any_eq_true]
  constructor
  · rintro ⟨u, hu, e⟩
    rw [Bool.and_eq_true] at e
    have hu : u < nB l := by simpa using hu
    exact ⟨u, hu, nI_has.1 e.2, (dom_iff hh hu).1 e.1⟩
  · rintro ⟨u, hu, hm, hd⟩
    exact ⟨u, by simpa using hu, by rw [Bool.and_eq_true]; exact ⟨(dom_iff hh hu).2 hd, nI_has.2 hm⟩⟩
theorem anyL_head {l : List In} {h : Nat} (hh : h < nB l) : anyL l h (heads l).length = headB l h := by
  rw [Bool.eq_iff_iff]
  unfold anyL
  rw [List.any_eq_true]
  have hm : h ∈ heads l ↔ headB l h = true := by
    unfold heads
    rw [List.mem_filter]
    exact ⟨fun k => k.2, fun k => ⟨by simpa using hh, k⟩⟩
  rw [← hm]
  constructor
  · rintro ⟨i, hi, e⟩
    have hi : i < (heads l).length := by simpa using hi
    have e : (heads l).getD i 0 = h := by have := beq_iff_eq.1 e; omega
    rw [← e, List.getD_eq_getElem?_getD, List.getElem?_eq_getElem hi]
    exact List.getElem_mem hi
  · intro k
    obtain ⟨i, hi, e⟩ := List.mem_iff_getElem.1 k
    exact ⟨i, by simpa using hi, by rw [beq_iff_eq, List.getD_eq_getElem?_getD, List.getElem?_eq_getElem hi, e]; rfl⟩
theorem flowheads_ok (w : World) (q : Nat) (v : Value) (l : List In) (h : SlX tN q w v l) : Calls Try.prog 16 #[v] w fun e w' => e = .returned (.bool true) ∧ Below w.heap.size w w' := by
  obtain ⟨a0, cap, rfl, h1, h2⟩ := h.form
  have H := Lib.hid h
  unfold maxLen at h2
  clear h
  go_enter Try.func16, Try.ntmps16
  go_wp2_with fail
  refine (taken_ok w q _ l H.out).mono ?_
  rintro e w1 hT
  obtain ⟨b1, rfl | ⟨p, rfl, _, hF⟩⟩ := hT.two
  · have HB1 := Lib.hid b1
    clear b1 hT
    go_wp2
    go_ret
    exact ⟨rfl, HB1.out⟩
  · have HB1 := Lib.hid b1
    have HF1 := Lib.hid hF
    clear b1 hF hT
    go_wp2_with fail
    refine HF1.out.blocks.mono ?_
    rintro e w2 ⟨b2, v2, rfl, hd2⟩
    have HB2 := Lib.hid (bThen HB1.out b2)
    have HF2 := Lib.hid (HF1.out.below b2)
    obtain ⟨ab, cb, rfl, h5, h6⟩ := hd2.form
    have HD2 := Lib.hid hd2
    rw [dB_len] at h5 HD2
    rw [dB_len]
    clear b2 hd2 HF1 HB1
    go_wp2_with fail
    refine HF2.out.loops.mono ?_
    rintro e w3 ⟨b3, v3, rfl, hd3⟩
    have HB3 := Lib.hid (bThen HB2.out b3)
    have HF3 := Lib.hid (HF2.out.below b3)
    have HD3 := Lib.hid (HD2.out.below b3)
    obtain ⟨al, cl, rfl, h7, h8⟩ := hd3.form
    have HL3 := Lib.hid hd3
    rw [dL_len] at h7 HL3
    rw [dL_len]
    clear b3 hd3 HF2 HB2 HD2
    have hpN : 0 < nB l := HF3.out.1.pos
    have hpos : 0 < (nB l : Int) := by have := HF3.out.1.pos; omega
    have hn5 : nB l ≤ 512 := HF3.out.1.n512
    have hm8 : (heads l).length ≤ 8 := HF3.out.1.hd8
    unfold maxLen at h6 h8
    go_wp2
    go_loopw [7] (fun t wr => ∃ h : Nat, h ≤ nB l ∧ t = .int .i64 (h : Int) ∧ Hid (Below w3.heap.size w3 wr)) (fun t _ => nB l - (intOf t).toNat)
    case atStart => exact ⟨0, by omega, rfl, bRefl w3⟩
    case round =>
      obtain ⟨h, hh, rfl, hb⟩ := hrel
      by_cases hlt : h < nB l
      · have hlt' : (h : Int) < (nB l : Int) := by omega
        have hh0 : (0 : Int) ≤ (h : Int) := by omega
        have EU := Lib.hid (anyU_head hlt)
        have EL := Lib.hid (anyL_head hlt)
        obtain ⟨wo, rfl⟩ : ∃ wo : World, wo = wr := ⟨_, rfl⟩
        go_wp2
        go_loopw [8, 9] (fun t8 t9 wr => ∃ u : Nat, u ≤ nB l ∧ t8 = .bool (anyU l h u) ∧ t9 = .int .i64 (u : Int) ∧ Hid (Below w3.heap.size w3 wr)) (fun _ t _ => nB l - (intOf t).toNat)
        case atStart => exact ⟨0, by omega, rfl, rfl, hb⟩
        case round =>
          clear hb
          obtain ⟨u, hu, rfl, rfl, hb⟩ := hrel
          by_cases hut : u < nB l
          · have hut' : (u : Int) < (nB l : Int) := by omega
            have hu0 : (0 : Int) ≤ (u : Int) := by omega
            have ES := Lib.hid (anyU_succ l h u)
            obtain ⟨x, hx⟩ : ∃ x, x = anyU l h u := ⟨_, rfl⟩
            rw [← hx] at ES ⊢
            have HX := Lib.hid hx
            clear hx
            cases x with
            | true =>
              have EE := Lib.hid (show anyU l h (u + 1) = true by rw [ES.out]; rfl)
              go_wp2
              go_roundw
              all_goals first
                | exact ⟨u + 1, by omega, by rw [EE.out], by go_num, hb⟩
                | ((repeat apply Exists.intro); exact ⟨⟨u + 1, by omega, by rw [EE.out], by go_num, hb⟩, rfl⟩)
                | (simp [intOf] <;> omega)
            | false =>
              go_wp2_with fail
              refine ((HF3.out.below hb.out).dom (h : Int) (u : Int)).mono ?_
              rintro e wk ⟨rfl, kk, rfl⟩
              have hbk := Lib.hid (bDrewN hb.out kk)
              clear hb
              generalize wr.drewN kk = wk at hbk ⊢
              obtain ⟨y, hy⟩ : ∃ y, y = domB (nxt l) (nB l) (h : Int) (u : Int) := ⟨_, rfl⟩
              rw [← hy] at ES ⊢
              clear hy
              cases y with
              | false =>
                have EE := Lib.hid (show anyU l h (u + 1) = false by rw [ES.out]; rfl)
                go_wp2
                go_roundw
                all_goals first
                  | exact ⟨u + 1, by omega, by rw [EE.out], by go_num, hbk⟩
                  | ((repeat apply Exists.intro); exact ⟨⟨u + 1, by omega, by rw [EE.out], by go_num, hbk⟩, rfl⟩)
                  | (simp [intOf] <;> omega)
              | true =>
                obtain ⟨b, o, a, c, rfl, _, _, c2, hs, _⟩ := (HD3.out.below hbk.out).get (dB_get hut)
                simp only at c2 hs
                have HS := Lib.hid hs
                clear hs
                go_wp2_with fail
                refine (hasL_ok wk p _ _ (h : Int) HS.out).mono ?_
                rintro e wk' ⟨rfl, rfl⟩
                obtain ⟨r, hr⟩ : ∃ r, r = (nI (nxt l u)).contains (h : Int) := ⟨_, rfl⟩
                rw [← hr] at ES ⊢
                clear hr
                have EE := Lib.hid (show anyU l h (u + 1) = r by rw [ES.out]; cases r <;> rfl)
                go_wp2
                go_roundw
                all_goals first
                  | exact ⟨u + 1, by omega, by rw [EE.out], by go_num, hbk⟩
                  | ((repeat apply Exists.intro); exact ⟨⟨u + 1, by omega, by rw [EE.out], by go_num, hbk⟩, rfl⟩)
                  | (simp [intOf] <;> omega)
          · obtain rfl : u = nB l := by omega
            rw [EU.out]
            obtain ⟨B, hB⟩ : ∃ B, B = headB l h := ⟨_, rfl⟩
            rw [← hB] at EL ⊢
            clear hut hB EU
            go_wp2
            go_loopw [10, 11] (fun t10 t11 wr => ∃ i : Nat, i ≤ (heads l).length ∧ t10 = .bool (anyL l h i) ∧ t11 = .int .i64 (i : Int) ∧ Hid (Below w3.heap.size w3 wr)) (fun _ t _ => (heads l).length - (intOf t).toNat)
            case atStart => exact ⟨0, by omega, rfl, rfl, hb⟩
            case round =>
              clear hb
              obtain ⟨i, hi, rfl, rfl, hb⟩ := hrel
              by_cases hit : i < (heads l).length
              · have hit' : (i : Int) < ((heads l).length : Int) := by omega
                have hi0 : (0 : Int) ≤ (i : Int) := by omega
                have ES := Lib.hid (anyL_succ l h i)
                obtain ⟨x, hx⟩ : ∃ x, x = anyL l h i := ⟨_, rfl⟩
                rw [← hx] at ES ⊢
                clear hx
                cases x with
                | true =>
                  have EE := Lib.hid (show anyL l h (i + 1) = true by rw [ES.out]; rfl)
                  go_wp2
                  go_roundw
                  all_goals first
                    | exact ⟨i + 1, by omega, by rw [EE.out], by go_num, hb⟩
                    | ((repeat apply Exists.intro); exact ⟨⟨i + 1, by omega, by rw [EE.out], by go_num, hb⟩, rfl⟩)
                    | (simp [intOf] <;> omega)
                | false =>
                  obtain ⟨b, o, a, c, rfl, c0, _, _, _, _⟩ := (HL3.out.below hb.out).get (dL_get hit)
                  simp only at c0
                  obtain ⟨z, hz⟩ : ∃ z, z = (heads l).getD i 0 := ⟨_, rfl⟩
                  rw [← hz] at c0 ES
                  clear hz
                  have EE := Lib.hid (show anyL l h (i + 1) = ((z : Int) == (h : Int)) by rw [ES.out]; rfl)
                  go_wp2
                  go_roundw
                  all_goals first
                    | exact ⟨i + 1, by omega, by rw [EE.out], by go_num, hb⟩
                    | ((repeat apply Exists.intro); exact ⟨⟨i + 1, by omega, by rw [EE.out], by go_num, hb⟩, rfl⟩)
                    | (simp [intOf] <;> omega)
              · obtain rfl : i = (heads l).length := by omega
                rw [EL.out]
                clear hit
                go_wp2
                go_roundw
                all_goals first
                  | exact ⟨h + 1, by omega, by go_num, hb⟩
                  | ((repeat apply Exists.intro); exact ⟨⟨h + 1, by omega, by go_num, hb⟩, rfl⟩)
                  | (simp [intOf] <;> omega)
      · obtain rfl : h = nB l := by omega
        clear hlt
        go_wp2
        go_ret
        exact ⟨rfl, HB3.out.trans (hb.out.mono HB3.out.size)⟩
end Go.Proofs.Ytlhehphikkgobaa
