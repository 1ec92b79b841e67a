/- The document's leaders. -/
import Derived.Test.YtpiiefdaaijgbaaFTgt
namespace Go.Proofs.Ytpiiefdaaijgbaa
open Go Go.RowKit Go.Wr Go.Fl
set_option maxHeartbeats 4000000
set_option maxRecDepth 100000

/-- What i rounds have found of where blocks begin. -/
def endAt (l : List In) (k : Nat) : Bool := match l[k]? with
  | none => false
  | some x => ends x
def leadK (l : List In) (i j : Nat) : Bool := j == 0 || ((List.range i).any fun a => tgt l a == some j) || (decide (0 < j ∧ j - 1 < i) && endAt l (j - 1))
theorem leadK_all (l : List In) (j : Nat) : leadK l l.length j = lead l j := by
  unfold leadK lead endAt
  cases j with
  | zero => rfl
  | succ k =>
    simp only [Nat.add_sub_cancel]
    cases hx : l[k]? with
    | none => simp
    | some x =>
      have := (List.getElem?_eq_some_iff.1 hx).1
      simp [this]
theorem leadK_zero (l : List In) : leadK l 0 = Fl.mark (fun _ => false) 0 := by
  funext j
  unfold leadK Fl.mark
  by_cases h : j = 0 <;> simp [h]
theorem leadK_succ (l : List In) (i j : Nat) : leadK l (i + 1) j = (leadK l i j || (tgt l i == some j) || (j == i + 1 && endAt l i)) := by
  unfold leadK
  rw [List.range_succ, List.any_append]
  by_cases hj : j = i + 1
  · subst hj
    simp
  · have e1 : (j == i + 1) = false := by simpa using hj
    have e2 : decide (0 < j ∧ j - 1 < i + 1) = decide (0 < j ∧ j - 1 < i) := by
      congr 1
      apply propext
      constructor <;> rintro ⟨h1, h2⟩ <;> exact ⟨h1, by omega⟩
    rw [e1, e2]
    simp only [List.any_cons, List.any_nil, Bool.or_false, Bool.false_and]
    cases (j == 0) <;> cases ((List.range i).any fun a => tgt l a == some j) <;> cases (tgt l i == some j) <;> cases (decide (0 < j ∧ j - 1 < i) && endAt l (j - 1)) <;> rfl
/-- One round's marks. -/
theorem leadK_step (l : List In) (i : Nat) : leadK l (i + 1) = (if endAt l i = true then (fun V => Fl.mark V (i + 1)) else id) ((match tgt l i with | some t => (fun V => Fl.mark V t) | none => id) (leadK l i)) := by
  funext j
  rw [leadK_succ]
  have hs : ∀ (o : Option Nat), (leadK l i j || o == some j) = (match o with | some t => (fun V => Fl.mark V t) | none => id) (leadK l i) j := fun o => by
    cases o with
    | none => simp
    | some t =>
      simp only [Fl.mark]
      by_cases e : j = t
      · subst e; simp
      · rw [if_neg e]; simp [Ne.symm e]
  rw [hs]
  generalize (match tgt l i with | some t => (fun V => Fl.mark V t) | none => id) (leadK l i) = V
  cases he : endAt l i with
  | false => simp
  | true =>
    rw [if_pos rfl]
    simp only [Fl.mark]
    by_cases e : j = i + 1
    · subst e; simp
    · rw [if_neg e]; simp [e]
theorem OwB.cell {B g n : Nat} {V : Nat → Bool} {w : World} (h : OwR tB B w (.slice (some ⟨g, 0, none⟩) n n) ((List.range n).map V)) {i : Nat} (hi : i < n) : w.cell? ⟨g, i, none⟩ = some (.bool (V i)) := by
  have := (h.at (k := i) (x := V i) (by rw [List.getElem?_map, List.getElem?_range hi]; rfl)).cell 0 _ rfl
  have e : 0 + i * tB.n + 0 = i := by show 0 + i * 1 + 0 = i; omega
  rw [e] at this
  exact this
theorem OwB.mark {B g n : Nat} {V : Nat → Bool} {w : World} (h : OwR tB B w (.slice (some ⟨g, 0, none⟩) n n) ((List.range n).map V)) {i : Nat} (hi : i < n) : OwR tB B (w.setCell ⟨g, i, none⟩ (.bool true)) (.slice (some ⟨g, 0, none⟩) n n) ((List.range n).map (Fl.mark V i)) := by
  have := h.set (k := i) (j := 0) (x := V i) (y := true) (v := .bool true) (by rw [List.getElem?_map, List.getElem?_range hi]; rfl) (by decide) rfl
  rw [map_set] at this
  have e : i * tB.n + 0 = i := by show i * 1 + 0 = i; omega
  rw [e] at this
  exact this
theorem tosI_get {l : List In} {m k : Nat} (h : k < m) : (tosI l m)[k]? = some (oi (tgt l k)) := by
  unfold tosI
  rw [List.getElem?_map, List.getElem?_range h]
  rfl
theorem tgt_lt {l : List In} {i t : Nat} (h : tgt l i = some t) : t < l.length := by
  unfold tgt at h
  split at h
  · cases h
  · split at h
    · exact (atU_some h).1
    · cases h
theorem bmap_congr {n : Nat} {V V' : Nat → Bool} (h : ∀ j, j < n → V j = V' j) : (List.range n).map V = (List.range n).map V' := by
  apply List.map_congr_left
  intro j hj
  exact h j (by simpa using hj)
theorem leaders_ok (w : World) (p q : Nat) (v vt : Value) (l : List In) (h : SlX tN p w v l) (ht : SlX tI q w vt (tosI l l.length)) (hl : l.length ≤ 1048576) (hne : 0 < l.length) :
    Calls Try.prog 109 #[v, vt] w fun e w' => Below w.heap.size w w' ∧ ∃ g, e = .returned (.slice (some ⟨g, 0, none⟩) l.length l.length) ∧ OwR tB w.heap.size w' (.slice (some ⟨g, 0, none⟩) l.length l.length) ((List.range l.length).map (lead l)) := by
  obtain ⟨a0, cap, rfl, h1, h2⟩ := h.form
  obtain ⟨a1, capt, rfl, h1t, h2t⟩ := ht.form
  have H := Lib.hid h
  have HT := Lib.hid ht
  unfold maxLen at h2 h2t
  rw [tosI_len] at h1t HT ⊢
  clear h ht
  go_enter Try.func109, Try.ntmps109
  go_upto_region 2 with (at_make; refine wpl_make tB false rfl rfl _ _ rfl .i64 .i64 (l.length : Int) (l.length : Int) l.length rfl rfl rfl rfl (by show 1 * _ ≤ _; omega) (by unfold maxLen; omega) ?_; intro w1 ho hb hlt1)
  have e0 : (List.replicate l.length false) = (List.range l.length).map (fun _ => false) := by
    apply List.ext_getElem?
    intro k
    by_cases hk : k < l.length <;> simp [hk]
  rw [e0] at ho
  have c0 := OwB.cell ho (i := 0) hne
  have f0 := ho.frozen 0
  have hne' : (0 : Int) < (l.length : Int) := by omega
  have HO := Lib.hid (OwB.mark ho (i := 0) hne)
  have HB := Lib.hid hb
  clear ho e0
  go_upto_region 3 with (fail)
  have hb1 : Below w.heap.size w (w1.setCell ⟨w.heap.size, 0, none⟩ (.bool true)) := HB.out.setCell (Nat.le_refl _) _
  generalize w1.setCell ⟨w.heap.size, 0, none⟩ (.bool true) = W at HO hb1 ⊢
  rw [← leadK_zero l] at HO
  clear c0 f0 HB hb
  obtain ⟨g, hg⟩ : ∃ g, g = w.heap.size := ⟨_, rfl⟩
  have HBW := Lib.hid hb1
  clear hb1
  go_wp2
  go_loopw [6] (fun t wr => ∃ k : Nat, k ≤ l.length ∧ t = .int .i64 (k : Int) ∧ Hid (OwR tB w.heap.size wr (.slice (some ⟨w.heap.size, 0, none⟩) l.length l.length) ((List.range l.length).map (leadK l k))) ∧ Below w.heap.size w wr) (fun t _ => l.length - (intOf t).toNat)
  case atStart => exact ⟨0, by omega, rfl, HO.out, HBW.out⟩
  case round =>
    clear HO HBW
    obtain ⟨k, hk, rfl, ho, hb⟩ := hrel
    by_cases hlt : k < l.length
    · have hlt' : (k : Int) < (l.length : Int) := by omega
      obtain ⟨x, hx⟩ : ∃ x, l[k]? = some x := ⟨_, List.getElem?_eq_getElem hlt⟩
      obtain ⟨bt, ot, rfl, _, hbt, ct⟩ := SlX.int (HT.out.below hb) (tosI_get hlt)
      have HS := Lib.hid (leadK_step l k)
      have HE := Lib.hid (show endAt l k = ends x by unfold endAt; rw [hx])
      have HX := Lib.hid hx
      clear hx
      obtain ⟨V1, hV1⟩ : ∃ V1, V1 = (match tgt l k with | some t => (fun V => Fl.mark V t) | none => id) (leadK l k) := ⟨_, rfl⟩
      have HV1 := Lib.hid hV1
      clear hV1
      cases htg : tgt l k with
      | none =>
        have HG := Lib.hid (show V1 = leadK l k by rw [HV1.out, htg]; rfl)
        rw [htg] at ct
        have ho1 : Hid (OwR tB w.heap.size wr (.slice (some ⟨w.heap.size, 0, none⟩) l.length l.length) ((List.range l.length).map V1)) := by show OwR _ _ _ _ _; rw [HG.out]; exact ho.out
        have ct2 : wr.cell? ⟨bt, ot + k, none⟩ = some (.int .i64 (-1)) := ct
        clear htg ct ho
        go_upto_region 8 with (fail)
        obtain ⟨bb, off, ebb, hne2, hat⟩ := (H.out.below hb).get HX.out
        subst ebb
        obtain ⟨c0, c1, c2, c3, c4, c5, c6, c7⟩ := at_ins hat
        have e8 : tN.n = 8 := rfl
        rw [e8] at c0 c1 c2 c3 c4 c5 c6 c7
        have hbb := hat.1
        have fin : ∀ V2 : Nat → Bool, (∀ j, j < l.length → leadK l (k + 1) j = V2 j) → ∀ w2 : World, OwR tB w.heap.size w2 (.slice (some ⟨w.heap.size, 0, none⟩) l.length l.length) ((List.range l.length).map V2) → OwR tB w.heap.size w2 (.slice (some ⟨w.heap.size, 0, none⟩) l.length l.length) ((List.range l.length).map (leadK l (k + 1))) := fun V2 h w2 h2 => by rw [bmap_congr h]; exact h2
        have hno : endAt l k = false → ∀ j, j < l.length → leadK l (k + 1) j = V1 j := fun e j _ => by rw [HS.out, ← HV1.out, if_neg (by rw [e]; simp)]; rfl
        have hyes : endAt l k = true → ∀ j, j < l.length → leadK l (k + 1) j = Fl.mark V1 (k + 1) j := fun e j _ => by rw [HS.out, ← HV1.out, if_pos e]
        have HF := Lib.hid fin
        have HN := Lib.hid hno
        have HY := Lib.hid hyes
        clear fin hno hyes hat e8
        go_wp2_with fail
        refine (jumpsR_ok _ x).mono ?_
        rintro e w2 ⟨rfl, b2⟩
        have hb2 : Below w.heap.size w w2 := hb.trans (b2.mono hb.size)
        have HO2 := Lib.hid (ho1.out.below b2)
        obtain ⟨bb2, off2, ebb2, hne3, hat2⟩ := (H.out.below hb2).get HX.out
        injection ebb2 with ebb2
        injection ebb2 with e21 e22
        subst e21 e22
        obtain ⟨d0, d1, d2, d3, d4, d5, d6, d7⟩ := at_ins hat2
        have e8 : tN.n = 8 := rfl
        rw [e8] at d0 d1 d2 d3 d4 d5 d6 d7
        clear hat2 e8 c0 c1 c2 c3 c4 c5 c6 c7 b2 hbb
        cases hj : jump x with
        | true =>
          have HEE : Hid (endAt l k = true) := by show _ = _; rw [HE.out]; unfold ends; rw [hj]; rfl
          clear hj
          by_cases hk1 : k + 1 < l.length
          · have hk1' : (k : Int) + 1 < (l.length : Int) := by omega
            have cg2 := OwB.cell HO2.out (i := k + 1) hk1
            have fg2 := HO2.out.frozen (k + 1)
            have e9 := Lib.hid (HF.out (Fl.mark V1 (k + 1)) (HY.out HEE.out) _ (OwB.mark HO2.out (i := k + 1) hk1))
            have hb9 : Below w.heap.size w (w2.setCell ⟨w.heap.size, k + 1, none⟩ (.bool true)) := hb2.setCell (Nat.le_refl _) _
            go_wp2
            go_roundw
            all_goals first
              | exact ⟨k + 1, by omega, by go_num, e9.out, hb9⟩
              | ((repeat apply Exists.intro); exact ⟨⟨k + 1, by omega, by go_num, e9.out, hb9⟩, rfl⟩)
              | (simp [intOf]; omega)
          · have hk1' : ¬ (k : Int) + 1 < (l.length : Int) := by omega
            have e9 : Hid (OwR tB w.heap.size w2 (.slice (some ⟨w.heap.size, 0, none⟩) l.length l.length) ((List.range l.length).map (leadK l (k + 1)))) := HF.out V1 (fun j hj => by rw [HY.out HEE.out j hj]; exact Fl.mark_ne (by omega)) w2 HO2.out
            go_wp2
            go_roundw
            all_goals first
              | exact ⟨k + 1, by omega, by go_num, e9, hb2⟩
              | ((repeat apply Exists.intro); exact ⟨⟨k + 1, by omega, by go_num, e9, hb2⟩, rfl⟩)
              | (simp [intOf]; omega)
        | false =>
          have HJ := Lib.hid hj
          clear hj
          by_cases hop : x.op = 39
          · have HEE : Hid (endAt l k = true) := by show _ = _; rw [HE.out]; unfold ends; rw [HJ.out, hop]; rfl
            have h39' : (x.op == 39) = true := by simp [hop]
            clear hop
            by_cases hk1 : k + 1 < l.length
            · have hk1' : (k : Int) + 1 < (l.length : Int) := by omega
              have cg2 := OwB.cell HO2.out (i := k + 1) hk1
              have fg2 := HO2.out.frozen (k + 1)
              have e9 := Lib.hid (HF.out (Fl.mark V1 (k + 1)) (HY.out HEE.out) _ (OwB.mark HO2.out (i := k + 1) hk1))
              have hb9 : Below w.heap.size w (w2.setCell ⟨w.heap.size, k + 1, none⟩ (.bool true)) := hb2.setCell (Nat.le_refl _) _
              go_wp2
              go_roundw
              all_goals first
                | exact ⟨k + 1, by omega, by go_num, e9.out, hb9⟩
                | ((repeat apply Exists.intro); exact ⟨⟨k + 1, by omega, by go_num, e9.out, hb9⟩, rfl⟩)
                | (simp [intOf]; omega)
            · have hk1' : ¬ (k : Int) + 1 < (l.length : Int) := by omega
              have e9 : Hid (OwR tB w.heap.size w2 (.slice (some ⟨w.heap.size, 0, none⟩) l.length l.length) ((List.range l.length).map (leadK l (k + 1)))) := HF.out V1 (fun j hj => by rw [HY.out HEE.out j hj]; exact Fl.mark_ne (by omega)) w2 HO2.out
              go_wp2
              go_roundw
              all_goals first
                | exact ⟨k + 1, by omega, by go_num, e9, hb2⟩
                | ((repeat apply Exists.intro); exact ⟨⟨k + 1, by omega, by go_num, e9, hb2⟩, rfl⟩)
                | (simp [intOf]; omega)
          · have h39 : (x.op == 39) = false := by simpa using hop
            clear hop
            have e9 : Hid (OwR tB w.heap.size w2 (.slice (some ⟨w.heap.size, 0, none⟩) l.length l.length) ((List.range l.length).map (leadK l (k + 1)))) := HF.out V1 (HN.out (by rw [HE.out]; unfold ends; rw [HJ.out, h39]; rfl)) w2 HO2.out
            go_wp2
            go_roundw
            all_goals first
              | exact ⟨k + 1, by omega, by go_num, e9, hb2⟩
              | ((repeat apply Exists.intro); exact ⟨⟨k + 1, by omega, by go_num, e9, hb2⟩, rfl⟩)
              | (simp [intOf]; omega)
      | some t =>
        have HG := Lib.hid (show V1 = Fl.mark (leadK l k) t by rw [HV1.out, htg])
        rw [htg] at ct
        have ct2 : wr.cell? ⟨bt, ot + k, none⟩ = some (.int .i64 (t : Int)) := ct
        have htl := tgt_lt htg
        have htl' : (t : Int) < (l.length : Int) := by omega
        have cg := OwB.cell ho.out (i := t) htl
        have fg := ho.out.frozen t
        have HO1 := Lib.hid (OwB.mark ho.out (i := t) htl)
        clear htg ct ho
        go_upto_region 8 with (fail)
        have hb1 : Below w.heap.size w (wr.setCell ⟨w.heap.size, t, none⟩ (.bool true)) := hb.setCell (Nat.le_refl _) _
        rw [← HG.out] at HO1
        have ho1 := Lib.hid HO1.out
        clear HO1 cg fg ct2 hb
        generalize wr.setCell ⟨w.heap.size, t, none⟩ (.bool true) = wr at ho1 hb1 ⊢
        have hb := hb1
        clear hb1
        obtain ⟨bb, off, ebb, hne2, hat⟩ := (H.out.below hb).get HX.out
        subst ebb
        obtain ⟨c0, c1, c2, c3, c4, c5, c6, c7⟩ := at_ins hat
        have e8 : tN.n = 8 := rfl
        rw [e8] at c0 c1 c2 c3 c4 c5 c6 c7
        have hbb := hat.1
        have fin : ∀ V2 : Nat → Bool, (∀ j, j < l.length → leadK l (k + 1) j = V2 j) → ∀ w2 : World, OwR tB w.heap.size w2 (.slice (some ⟨w.heap.size, 0, none⟩) l.length l.length) ((List.range l.length).map V2) → OwR tB w.heap.size w2 (.slice (some ⟨w.heap.size, 0, none⟩) l.length l.length) ((List.range l.length).map (leadK l (k + 1))) := fun V2 h w2 h2 => by rw [bmap_congr h]; exact h2
        have hno : endAt l k = false → ∀ j, j < l.length → leadK l (k + 1) j = V1 j := fun e j _ => by rw [HS.out, ← HV1.out, if_neg (by rw [e]; simp)]; rfl
        have hyes : endAt l k = true → ∀ j, j < l.length → leadK l (k + 1) j = Fl.mark V1 (k + 1) j := fun e j _ => by rw [HS.out, ← HV1.out, if_pos e]
        have HF := Lib.hid fin
        have HN := Lib.hid hno
        have HY := Lib.hid hyes
        clear fin hno hyes hat e8
        go_wp2_with fail
        refine (jumpsR_ok _ x).mono ?_
        rintro e w2 ⟨rfl, b2⟩
        have hb2 : Below w.heap.size w w2 := hb.trans (b2.mono hb.size)
        have HO2 := Lib.hid (ho1.out.below b2)
        obtain ⟨bb2, off2, ebb2, hne3, hat2⟩ := (H.out.below hb2).get HX.out
        injection ebb2 with ebb2
        injection ebb2 with e21 e22
        subst e21 e22
        obtain ⟨d0, d1, d2, d3, d4, d5, d6, d7⟩ := at_ins hat2
        have e8 : tN.n = 8 := rfl
        rw [e8] at d0 d1 d2 d3 d4 d5 d6 d7
        clear hat2 e8 c0 c1 c2 c3 c4 c5 c6 c7 b2 hbb
        cases hj : jump x with
        | true =>
          have HEE : Hid (endAt l k = true) := by show _ = _; rw [HE.out]; unfold ends; rw [hj]; rfl
          clear hj
          by_cases hk1 : k + 1 < l.length
          · have hk1' : (k : Int) + 1 < (l.length : Int) := by omega
            have cg2 := OwB.cell HO2.out (i := k + 1) hk1
            have fg2 := HO2.out.frozen (k + 1)
            have e9 := Lib.hid (HF.out (Fl.mark V1 (k + 1)) (HY.out HEE.out) _ (OwB.mark HO2.out (i := k + 1) hk1))
            have hb9 : Below w.heap.size w (w2.setCell ⟨w.heap.size, k + 1, none⟩ (.bool true)) := hb2.setCell (Nat.le_refl _) _
            go_wp2
            go_roundw
            all_goals first
              | exact ⟨k + 1, by omega, by go_num, e9.out, hb9⟩
              | ((repeat apply Exists.intro); exact ⟨⟨k + 1, by omega, by go_num, e9.out, hb9⟩, rfl⟩)
              | (simp [intOf]; omega)
          · have hk1' : ¬ (k : Int) + 1 < (l.length : Int) := by omega
            have e9 : Hid (OwR tB w.heap.size w2 (.slice (some ⟨w.heap.size, 0, none⟩) l.length l.length) ((List.range l.length).map (leadK l (k + 1)))) := HF.out V1 (fun j hj => by rw [HY.out HEE.out j hj]; exact Fl.mark_ne (by omega)) w2 HO2.out
            go_wp2
            go_roundw
            all_goals first
              | exact ⟨k + 1, by omega, by go_num, e9, hb2⟩
              | ((repeat apply Exists.intro); exact ⟨⟨k + 1, by omega, by go_num, e9, hb2⟩, rfl⟩)
              | (simp [intOf]; omega)
        | false =>
          have HJ := Lib.hid hj
          clear hj
          by_cases hop : x.op = 39
          · have HEE : Hid (endAt l k = true) := by show _ = _; rw [HE.out]; unfold ends; rw [HJ.out, hop]; rfl
            have h39' : (x.op == 39) = true := by simp [hop]
            clear hop
            by_cases hk1 : k + 1 < l.length
            · have hk1' : (k : Int) + 1 < (l.length : Int) := by omega
              have cg2 := OwB.cell HO2.out (i := k + 1) hk1
              have fg2 := HO2.out.frozen (k + 1)
              have e9 := Lib.hid (HF.out (Fl.mark V1 (k + 1)) (HY.out HEE.out) _ (OwB.mark HO2.out (i := k + 1) hk1))
              have hb9 : Below w.heap.size w (w2.setCell ⟨w.heap.size, k + 1, none⟩ (.bool true)) := hb2.setCell (Nat.le_refl _) _
              go_wp2
              go_roundw
              all_goals first
                | exact ⟨k + 1, by omega, by go_num, e9.out, hb9⟩
                | ((repeat apply Exists.intro); exact ⟨⟨k + 1, by omega, by go_num, e9.out, hb9⟩, rfl⟩)
                | (simp [intOf]; omega)
            · have hk1' : ¬ (k : Int) + 1 < (l.length : Int) := by omega
              have e9 : Hid (OwR tB w.heap.size w2 (.slice (some ⟨w.heap.size, 0, none⟩) l.length l.length) ((List.range l.length).map (leadK l (k + 1)))) := HF.out V1 (fun j hj => by rw [HY.out HEE.out j hj]; exact Fl.mark_ne (by omega)) w2 HO2.out
              go_wp2
              go_roundw
              all_goals first
                | exact ⟨k + 1, by omega, by go_num, e9, hb2⟩
                | ((repeat apply Exists.intro); exact ⟨⟨k + 1, by omega, by go_num, e9, hb2⟩, rfl⟩)
                | (simp [intOf]; omega)
          · have h39 : (x.op == 39) = false := by simpa using hop
            clear hop
            have e9 : Hid (OwR tB w.heap.size w2 (.slice (some ⟨w.heap.size, 0, none⟩) l.length l.length) ((List.range l.length).map (leadK l (k + 1)))) := HF.out V1 (HN.out (by rw [HE.out]; unfold ends; rw [HJ.out, h39]; rfl)) w2 HO2.out
            go_wp2
            go_roundw
            all_goals first
              | exact ⟨k + 1, by omega, by go_num, e9, hb2⟩
              | ((repeat apply Exists.intro); exact ⟨⟨k + 1, by omega, by go_num, e9, hb2⟩, rfl⟩)
              | (simp [intOf]; omega)
    · obtain rfl : k = l.length := by omega
      have e1 : (List.range l.length).map (leadK l l.length) = (List.range l.length).map (lead l) := bmap_congr fun j _ => leadK_all l j
      have ho2 := Lib.hid ho.out
      rw [e1] at ho2
      clear hlt ho e1
      go_wp2
      go_ret
      exact ⟨hb, _, rfl, ho2.out⟩
end Go.Proofs.Ytpiiefdaaijgbaa
