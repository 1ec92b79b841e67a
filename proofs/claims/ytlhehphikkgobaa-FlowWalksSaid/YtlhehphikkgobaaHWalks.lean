/- FlowWalks: true of every list of instructions, whichever way is gone. -/
import Derived.Test.YtlhehphikkgobaaHHeads
import Derived.Test.YtlhehphikkgobaaHLpP
import Derived.Deep.RegionHeld
namespace Go.Proofs.Ytlhehphikkgobaa
open Go Go.RowKit Go.Wr Go.Fl
open Go.ChangeShapes Go.WideShapes Go.ChangeAt Go.Deep
set_option maxHeartbeats 4000000
set_option maxRecDepth 100000

/-- Does the loop hold the first k of these blocks, and is its head among all of them? -/
def okW (d : Int × Int × List Int) (m : List Int) (k : Nat) : Bool := m.contains d.1 && (m.take k).all fun x => d.2.2.contains x
theorem okW_zero (d : Int × Int × List Int) (m : List Int) : okW d m 0 = m.contains d.1 := by simp [okW]
theorem okW_succ (d : Int × Int × List Int) {m : List Int} {k : Nat} {x : Int} (h : m[k]? = some x) : okW d m (k + 1) = (okW d m k && d.2.2.contains x) := by
  unfold okW
  rw [List.take_add_one, h, List.all_append, ← Bool.and_assoc]
  simp
def heldB (D : List (Int × Int × List Int)) (m : List Int) : Bool := D.any fun d => okW d m m.length
theorem heldB_yes {D : List (Int × Int × List Int)} {m : List Int} {i : Nat} {d : Int × Int × List Int} (h : D[i]? = some d) (k : okW d m m.length = true) : heldB D m = true := by
  unfold heldB
  exact List.any_eq_true.2 ⟨d, List.mem_of_getElem? h, k⟩
theorem heldB_no {D : List (Int × Int × List Int)} {m : List Int} (h : ∀ (i : Nat) (d : Int × Int × List Int), D[i]? = some d → okW d m m.length = false) : heldB D m = false := by
  cases e : heldB D m with
  | false => rfl
  | true =>
    obtain ⟨d, hd, hk⟩ := List.any_eq_true.1 e
    obtain ⟨i, hi, e2⟩ := List.mem_iff_getElem.1 hd
    rw [h i d (by rw [List.getElem?_eq_getElem hi, e2])] at hk
    cases hk
theorem held_ok (w : World) (p p' : Nat) (v v' : Value) (D : List (Int × Int × List Int)) (m : List Int) (h : Ld p w v D) (h' : SlX tI p' w v' m) :
    Calls Try.prog 35 #[v, v'] w fun e w' => e = .returned (.bool (heldB D m)) ∧ Below w.heap.size w w' := by
  obtain ⟨a0, cap, rfl, h1, h2⟩ := h.form
  obtain ⟨a1, cap', rfl, h1', h2'⟩ := h'.form
  have H := Lib.hid h
  have H' := Lib.hid h'
  unfold maxLen at h2 h2'
  clear h h'
  go_enter Try.func35, Try.ntmps35
  go_wp2
  go_loopw [5, 6, 7] (fun t _ _ wr => ∃ i : Nat, i ≤ D.length ∧ t = .int .i64 (i : Int) ∧ Hid (∀ j d, j < i → D[j]? = some d → okW d m m.length = false) ∧ Hid (Below w.heap.size w wr)) (fun t _ _ _ => D.length - (intOf t).toNat)
  case atStart => exact ⟨0, by omega, rfl, (fun j d hj => by omega), bRefl w⟩
  case round =>
    obtain ⟨i, hi, rfl, hq, hb⟩ := hrel
    by_cases hlt : i < D.length
    · have hlt' : (i : Int) < (D.length : Int) := by omega
      have hi0 : (0 : Int) ≤ (i : Int) := by omega
      obtain ⟨d, hd⟩ : ∃ d, D[i]? = some d := ⟨_, List.getElem?_eq_getElem hlt⟩
      obtain ⟨bb, off, an, cn, rfl, c0, _, c2, hbl, hbb⟩ := (H.out.below hb.out).get hd
      obtain ⟨wo, rfl⟩ : ∃ x : World, x = wr := ⟨_, rfl⟩
      have HBL := Lib.hid hbl
      have HM := Lib.hid (H'.out.below hb.out)
      have HD := Lib.hid hd
      clear hbl hd
      go_wp2_with fail
      refine (hasL_ok wo p' _ _ d.1 HM.out).mono ?_
      rintro e w1 ⟨rfl, rfl⟩
      rw [← okW_zero]
      obtain ⟨wo, rfl⟩ : ∃ x : World, x = w1 := ⟨_, rfl⟩
      have HC2 := Lib.hid c2
      have HBB := Lib.hid hbb
      clear c0 c2 hbb
      go_wp2
      go_loopw [6, 7] (fun t6 t7 wr => ∃ k : Nat, k ≤ m.length ∧ t7 = .int .i64 (k : Int) ∧ t6 = .bool (okW d m k) ∧ Hid (Below wo.heap.size wo wr)) (fun _ t _ => m.length - (intOf t).toNat)
      case atStart => exact ⟨0, by omega, rfl, rfl, bRefl wo⟩
      case round =>
        obtain ⟨k, hk, rfl, rfl, hbi⟩ := hrel
        by_cases hkt : k < m.length
        · have hkt' : (k : Int) < (m.length : Int) := by omega
          have hk0 : (0 : Int) ≤ (k : Int) := by omega
          obtain ⟨x, hx⟩ : ∃ x, m[k]? = some x := ⟨_, List.getElem?_eq_getElem hkt⟩
          have ES := Lib.hid (okW_succ d hx)
          obtain ⟨bm, om, rfl, _, hbm, cm⟩ := SlX.int (HM.out.below hbi.out) hx
          have c2 : wr.cell? ⟨bb, off + i * 3 + 1, none⟩ = some (.slice an d.2.2.length cn) := (hbi.out.cell (p := ⟨bb, off + i * 3 + 1, none⟩) HBB.out).trans HC2.out
          clear hx
          obtain ⟨y, hy⟩ : ∃ y, y = okW d m k := ⟨_, rfl⟩
          rw [← hy] at ES ⊢
          clear hy
          cases y with
          | false =>
            have EE := Lib.hid (show okW d m (k + 1) = false by rw [ES.out]; rfl)
            clear c2 cm hbm
            go_upto_region 8 with (fail)
            go_quiet (fail)
            rename_i nq
            have hb9 := Lib.hid (bDraw hbi.out nq)
            go_wp2
            go_roundw
            all_goals first
              | exact ⟨k + 1, by omega, by go_num, by rw [EE.out], hb9⟩
              | ((repeat apply Exists.intro); exact ⟨⟨k + 1, by omega, by go_num, by rw [EE.out], hb9⟩, rfl⟩)
              | (simp [intOf] <;> omega)
          | true =>
            have hSx := Lib.hid (HBL.out.below hbi.out)
            go_upto_region 8 with (fail)
            have cv : wr.drew.cell? ⟨bb, off + i * 3 + 1, none⟩ = some (.slice an d.2.2.length cn) ∧ wr.drew.cell? ⟨bm, om + k, none⟩ = some (.int .i64 x) := ⟨c2, cm⟩
            clear c2 cm
            refine wp_region_last 13 (fun w' => w'.cell? ⟨bb, off + i * 3 + 1, none⟩ = some (.slice an d.2.2.length cn) ∧ w'.cell? ⟨bm, om + k, none⟩ = some (.int .i64 x)) mix ?_
            refine wpAnyL_take (i := 0) (v := .bool true) rfl (by kernel_rfl) (by kernel_rfl) (by kernel_rfl) (fun _ _ _ h => h) rfl (by kernel_rfl) (Or.inl ⟨by rfl, fun w' hw' => by (try go_split_ands); go_simp⟩) cv ?_
            simp only [Act.put, List.getElem_toArray, List.getElem_cons_zero, List.setIfInBounds_toArray, List.set_cons_zero, List.set_cons_succ]
            refine wpAnyL_take (i := 1) (v := .bool true) rfl (by kernel_rfl) (by kernel_rfl) (by kernel_rfl) (fun _ _ _ h => h) rfl (by kernel_rfl) (Or.inl ⟨by rfl, fun w' hw' => by (try go_split_ands); go_simp⟩) cv ?_
            simp only [Act.put, List.getElem_toArray, List.getElem_cons_zero, List.getElem_cons_succ, List.setIfInBounds_toArray, List.set_cons_zero, List.set_cons_succ]
            refine wpAnyL_take (i := 2) (v := .slice (some ⟨bb, off, none⟩) D.length cap) rfl (by kernel_rfl) (by kernel_rfl) (by kernel_rfl) (fun _ _ _ h => h) rfl (by kernel_rfl) (Or.inl ⟨by rfl, fun w' hw' => by (try go_split_ands); go_simp⟩) cv ?_
            simp only [Act.put, List.getElem_toArray, List.getElem_cons_zero, List.getElem_cons_succ, List.setIfInBounds_toArray, List.set_cons_zero, List.set_cons_succ]
            refine wpAnyL_take (i := 3) (v := .int .i64 (i : Int)) rfl (by kernel_rfl) (by kernel_rfl) (by kernel_rfl) (fun _ _ _ h => h) rfl (by kernel_rfl) (Or.inl ⟨by rfl, fun w' hw' => by (try go_split_ands); go_simp⟩) cv ?_
            simp only [Act.put, List.getElem_toArray, List.getElem_cons_zero, List.getElem_cons_succ, List.setIfInBounds_toArray, List.set_cons_zero, List.set_cons_succ]
            refine wpAnyL_take (i := 4) (v := .pointer (some ⟨bb, off + i * 3, none⟩)) rfl (by kernel_rfl) (by kernel_rfl) (by kernel_rfl) (fun _ _ _ h => h) rfl (by kernel_rfl) (Or.inl ⟨by rfl, fun w' hw' => by (try go_split_ands); go_simp⟩) cv ?_
            simp only [Act.put, List.getElem_toArray, List.getElem_cons_zero, List.getElem_cons_succ, List.setIfInBounds_toArray, List.set_cons_zero, List.set_cons_succ]
            refine wpAnyL_take (i := 5) (v := .pointer (some ⟨bb, off + i * 3 + 1, none⟩)) rfl (by kernel_rfl) (by kernel_rfl) (by kernel_rfl) (fun _ _ _ h => h) rfl (by kernel_rfl) (Or.inl ⟨by rfl, fun w' hw' => by (try go_split_ands); go_simp⟩) cv ?_
            simp only [Act.put, List.getElem_toArray, List.getElem_cons_zero, List.getElem_cons_succ, List.setIfInBounds_toArray, List.set_cons_zero, List.set_cons_succ]
            refine wpAnyL_take (i := 6) (v := .slice an d.2.2.length cn) rfl (by kernel_rfl) (by kernel_rfl) (by kernel_rfl) (fun _ _ _ h => h) rfl (by kernel_rfl) (Or.inl ⟨by rfl, fun w' hw' => by (try go_split_ands); go_simp⟩) cv ?_
            simp only [Act.put, List.getElem_toArray, List.getElem_cons_zero, List.getElem_cons_succ, List.setIfInBounds_toArray, List.set_cons_zero, List.set_cons_succ]
            refine wpAnyL_take (i := 7) (v := .slice (some ⟨bm, om, none⟩) m.length cap') rfl (by kernel_rfl) (by kernel_rfl) (by kernel_rfl) (fun _ _ _ h => h) rfl (by kernel_rfl) (Or.inl ⟨by rfl, fun w' hw' => by (try go_split_ands); go_simp⟩) cv ?_
            simp only [Act.put, List.getElem_toArray, List.getElem_cons_zero, List.getElem_cons_succ, List.setIfInBounds_toArray, List.set_cons_zero, List.set_cons_succ]
            refine wpAnyL_take (i := 8) (v := .int .i64 (k : Int)) rfl (by kernel_rfl) (by kernel_rfl) (by kernel_rfl) (fun _ _ _ h => h) rfl (by kernel_rfl) (Or.inl ⟨by rfl, fun w' hw' => by (try go_split_ands); go_simp⟩) cv ?_
            simp only [Act.put, List.getElem_toArray, List.getElem_cons_zero, List.getElem_cons_succ, List.setIfInBounds_toArray, List.set_cons_zero, List.set_cons_succ]
            refine wpAnyL_take (i := 9) (v := .pointer (some ⟨bm, om + k, none⟩)) rfl (by kernel_rfl) (by kernel_rfl) (by kernel_rfl) (fun _ _ _ h => h) rfl (by kernel_rfl) (Or.inl ⟨by rfl, fun w' hw' => by (try go_split_ands); go_simp⟩) cv ?_
            simp only [Act.put, List.getElem_toArray, List.getElem_cons_zero, List.getElem_cons_succ, List.setIfInBounds_toArray, List.set_cons_zero, List.set_cons_succ]
            refine wpAnyL_take (i := 10) (v := .int .i64 x) rfl (by kernel_rfl) (by kernel_rfl) (by kernel_rfl) (fun _ _ _ h => h) rfl (by kernel_rfl) (Or.inl ⟨by rfl, fun w' hw' => by (try go_split_ands); go_simp⟩) cv ?_
            simp only [Act.put, List.getElem_toArray, List.getElem_cons_zero, List.getElem_cons_succ, List.setIfInBounds_toArray, List.set_cons_zero, List.set_cons_succ]
            refine wpAnyL_one (i := 11) (by kernel_rfl) rfl (fun K hK => ?_)
            go_simp
            go_wp2_with fail
            refine (hasL_ok wr.drew p _ _ x (hSx.out.below (bRefl wr).drew)).mono ?_
            rintro e w5 ⟨rfl, rfl⟩
            have hb9 : Hid (Below wo.heap.size wo wr.drew) := hbi.out.drew
            obtain ⟨r, hr⟩ : ∃ r, r = d.2.2.contains x := ⟨_, rfl⟩
            rw [← hr] at ES ⊢
            have EE := Lib.hid (show okW d m (k + 1) = r by rw [ES.out, Bool.true_and])
            clear hr
            go_wp2_with fail
            refine hK.out _ _ (fun _ => cv) ?_
            clear hK K
            refine wpAnyL_one (i := 12) (by kernel_rfl) rfl (fun K hK => ?_)
            go_simp
            refine hK.out _ _ (fun _ => cv) ?_
            clear hK K
            refine wpAnyL_one (i := 13) (by kernel_rfl) rfl (fun K hK => ?_)
            go_simp
            refine hK.out _ _ (fun h => absurd rfl h) ?_
            clear hK K
            refine wpAnyL_done (by kernel_rfl) ?_ _
            clear cv
            go_wp2
            go_roundw
            all_goals first
              | exact ⟨k + 1, by omega, by go_num, by rw [EE.out], hb9⟩
              | ((repeat apply Exists.intro); exact ⟨⟨k + 1, by omega, by go_num, by rw [EE.out], hb9⟩, rfl⟩)
              | (simp [intOf] <;> omega)
        · obtain rfl : k = m.length := by omega
          have HB9 := Lib.hid (bThen hb.out hbi.out)
          clear hkt
          obtain ⟨y, hy⟩ : ∃ y, y = okW d m m.length := ⟨_, rfl⟩
          rw [← hy]
          cases y with
          | true =>
            have HR := Lib.hid (heldB_yes HD.out hy.symm)
            clear hy
            go_wp2
            go_ret
            exact ⟨by rw [HR.out]; rfl, HB9.out⟩
          | false =>
            have HQ : Hid (∀ j d, j < i + 1 → D[j]? = some d → okW d m m.length = false) := fun j d' hj hd' => by
              by_cases e : j < i
              · exact hq.out j d' e hd'
              · obtain rfl : j = i := by omega
                rw [HD.out] at hd'
                injection hd' with hd'
                subst hd'
                exact hy.symm
            clear hy hq
            go_wp2
            go_roundw
            all_goals first
              | exact ⟨i + 1, by omega, by go_num, HQ, HB9.out⟩
              | ((repeat apply Exists.intro); exact ⟨⟨i + 1, by omega, by go_num, HQ, HB9.out⟩, rfl⟩)
              | (simp [intOf] <;> omega)
    · obtain rfl : i = D.length := by omega
      have HR := Lib.hid (heldB_no fun j d hd => hq.out j d (List.getElem?_eq_some_iff.1 hd).1 hd)
      clear hlt hq
      go_wp2
      go_ret
      exact ⟨by rw [HR.out]; rfl, hb.out⟩

/-- A walk along edges, the newest block last. -/
structure Way (l : List In) (T : List Nat) : Prop where
  lt : ∀ x ∈ T, x < nB l
  ed : ∀ (j y z : Nat), T[j]? = some y → T[j + 1]? = some z → z ∈ nxt l y
theorem Way.start {l : List In} (h : 0 < nB l) : Way l [0] := ⟨fun x hx => by simp at hx; subst hx; exact h, fun j y z h1 h2 => by
  have := (List.getElem?_eq_some_iff.1 h2).1
  simp at this⟩
theorem Way.push {l : List In} {T : List Nat} (h : Way l T) {i x y : Nat} (hl : T.length = i + 1) (hx : T[i]? = some x) (hy : y ∈ nxt l x) (hn : y < nB l) : Way l (T ++ [y]) := by
  refine ⟨fun z hz => ?_, fun j a b h1 h2 => ?_⟩
  · rcases List.mem_append.1 hz with hz | hz
    · exact h.lt z hz
    · simp at hz; subst hz; exact hn
  · have hj := (List.getElem?_eq_some_iff.1 h2).1
    simp only [List.length_append, List.length_cons, List.length_nil] at hj
    by_cases e : j + 1 < T.length
    · rw [List.getElem?_append_left (by omega)] at h1
      rw [List.getElem?_append_left e] at h2
      exact h.ed j a b h1 h2
    · obtain rfl : j = i := by omega
      rw [List.getElem?_append_left (by omega), hx] at h1
      rw [List.getElem?_append_right (by omega), show j + 1 - T.length = 0 by omega] at h2
      simp at h2
      injection h1 with h1
      subst h1 h2
      exact hy
/-- A part of it that comes back is held by a loop. -/
theorem Way.held {l : List In} {T : List Nat} (h : Way l T) {D : List Nat} (hs : Str (nxt l) (plc D) (nB l)) {i k x : Nat} (hi : T[i]? = some x) (hk : T[k]? = some x) (hik : i < k) : heldB (dL l) (((nI T).take k).drop i) = true := by
  have hkl := (List.getElem?_eq_some_iff.1 hk).1
  obtain ⟨m, rfl⟩ : ∃ m, k = i + m + 1 := ⟨k - i - 1, by omega⟩
  have hget : ∀ j, j < T.length → T[j]? = some (T.getD j 0) := fun j hj => by rw [List.getD_eq_getElem?_getD, List.getElem?_eq_getElem hj]; rfl
  obtain ⟨hd, h1, ⟨t, h2, h3, h4⟩, h5⟩ := walk_held (f := fun j => T.getD j 0) (i := i) (m := m) hs
    (fun j _ hj => h.lt _ (List.mem_of_getElem? (hget j (by omega))))
    (fun j _ hj => h.ed j _ _ (hget j (by omega)) (hget (j + 1) (by omega)))
    (by
      show T.getD _ 0 = T.getD _ 0
      rw [List.getD_eq_getElem?_getD, List.getD_eq_getElem?_getD, hi, hk])
  have hdn : hd < nB l := by rw [← h4]; exact h.lt _ (List.mem_of_getElem? (hget t (by omega)))
  obtain ⟨a, ha, ea⟩ := heads_ex l hdn h1
  have hsub : ∀ y ∈ ((nI T).take (i + m + 1)).drop i, ∃ j, i ≤ j ∧ j < i + m + 1 ∧ y = ((T.getD j 0 : Nat) : Int) := fun y hy => by
    obtain ⟨j, hj, e⟩ := List.mem_iff_getElem.1 hy
    simp only [List.length_drop, List.length_take, nI_len] at hj
    refine ⟨i + j, by omega, by omega, ?_⟩
    rw [← e, List.getElem_drop, List.getElem_take]
    unfold nI
    rw [List.getElem_map, List.getD_eq_getElem?_getD, List.getElem?_eq_getElem (by omega)]
    rfl
  refine heldB_yes (i := a) (dL_get ha) ?_
  unfold okW
  rw [Bool.and_eq_true, List.all_eq_true]
  constructor
  · rw [List.contains_iff_mem, ea]
    refine List.mem_iff_getElem.2 ⟨t - i, by simp only [List.length_drop, List.length_take, nI_len]; omega, ?_⟩
    rw [List.getElem_drop, List.getElem_take]
    unfold nI
    rw [List.getElem_map]
    have e1 := hget t (by omega)
    rw [List.getElem?_eq_getElem (by omega)] at e1
    injection e1 with e1
    have e2 : i + (t - i) = t := by omega
    simp only [e2]
    rw [e1]
    have h4 : T.getD t 0 = hd := h4
    rw [h4]
  · intro y hy
    obtain ⟨j, hj1, hj2, rfl⟩ := hsub y (List.mem_of_mem_take hy)
    rw [ea, ins_contains _ _ _ (h.lt _ (List.mem_of_getElem? (hget j (by omega)))), lpB_iff]
    exact h5 j hj1 hj2
theorem FinP.str {l : List In} {p : Nat} {w : World} (h : FinP l p w) : Str (nxt l) (plc (dfsL (nxt l))) (nB l) := fun u hu v hv hle => by
  obtain ⟨g, ab, cb, b4, o4, b5, o5, c4, c5, va, vo, vr, vl, bs, ss, E, d, h⟩ := h
  apply Classical.byContradiction
  intro hnd
  obtain ⟨b, hb, hr⟩ := g.toG5.round h.nd.id ⟨u, v, hu, hv, hle, hnd⟩
  exact g.no b hb hr
theorem slx_le {α : Type} {R : RT Try.prog α} {p : Nat} {w : World} {a : Option Addr} {n c : Nat} {l : List α} (h : SlX R p w (.slice a n c) l) : n ≤ c ∧ c ≤ maxLen := by
  obtain ⟨a1, c1, e, h1, h2⟩ := h.form
  injection e with _ e1 e2
  subst e2
  exact ⟨by omega, h2⟩
theorem slx_cut {α : Type} {R : RT Try.prog α} {p : Nat} {w : World} {b o n c : Nat} {l : List α} (h : SlX R p w (.slice (some ⟨b, o, none⟩) n c) l) {i k : Nat} (hik : i ≤ k) (hk : k ≤ l.length) : SlX R p w (.slice (some ⟨b, o + i * R.n, none⟩) (k - i) (c - i)) ((l.take k).drop i) := by
  obtain ⟨h1, h2⟩ := slx_le h
  have hl := h.len
  refine ⟨_, c - i, by rw [List.length_drop, List.length_take, Nat.min_eq_left hk], by rw [List.length_drop, List.length_take, Nat.min_eq_left hk]; omega, by omega, fun j x hx => ?_⟩
  have hj : j < k - i := by
    have := (List.getElem?_eq_some_iff.1 hx).1
    rw [List.length_drop, List.length_take, Nat.min_eq_left hk] at this
    exact this
  rw [List.getElem?_drop, List.getElem?_take, if_pos (by omega)] at hx
  obtain ⟨b', o', e, hne, hat⟩ := h.get hx
  injection e with e
  injection e with e1 e2
  subst e1 e2
  refine ⟨b, _, rfl, hne, ?_⟩
  have e : o + i * R.n + j * R.n = o + (i + j) * R.n := by rw [Nat.add_mul]; omega
  rw [e]
  exact hat
theorem flowwalks_ok (w : World) (q : Nat) (v : Value) (l : List In) (h : SlX tN q w v l) (q' : Nat) (v' : Value) (pk : List Bool) (h' : SlX tB q' w v' pk) : Calls Try.prog 12 #[v, v'] w fun e w' => e = .returned (.bool true) ∧ Below w.heap.size w w' := by
  obtain ⟨a0, cap, rfl, h1, h2⟩ := h.form
  obtain ⟨a1, cap1, rfl, h1', h2'⟩ := h'.form
  have H := Lib.hid h
  have H' := Lib.hid h'
  unfold maxLen at h2 h2'
  clear h h'
  go_enter Try.func12, Try.ntmps12
  go_wp2_with fail
  refine (taken_ok w q _ l H.out).mono ?_
  rintro e w1 hT
  obtain ⟨b1, rfl | ⟨p, rfl, _, hF⟩⟩ := hT.two
  · have HB1 := Lib.hid b1
    clear b1 hT
    go_wp2
    go_ret
    exact ⟨rfl, HB1.out⟩
  · have HB1 := Lib.hid b1
    have HF1 := Lib.hid hF
    clear b1 hF hT
    go_wp2_with fail
    refine HF1.out.blocks.mono ?_
    rintro e w2 ⟨b2, v2, rfl, hd2⟩
    have HB2 := Lib.hid (bThen HB1.out b2)
    have HF2 := Lib.hid (HF1.out.below b2)
    have HG := Lib.hid HF2.out.1
    have HST := Lib.hid HF2.out.str
    obtain ⟨ab, cb, rfl, h5, h6⟩ := hd2.form
    have HD2 := Lib.hid hd2
    rw [dB_len] at h5 HD2
    rw [dB_len]
    clear b2 hd2 HF1 HB1
    go_wp2_with fail
    refine HF2.out.loops.mono ?_
    rintro e w3 ⟨b3, v3, rfl, hd3⟩
    have HB3 := Lib.hid (bThen HB2.out b3)
    have HD3 := Lib.hid (HD2.out.below b3)
    have HL3 := Lib.hid hd3
    have HPL := Lib.hid (Nat.lt_of_lt_of_le HF2.out.lt b3.size)
    obtain ⟨al, cl, rfl, h7, h8⟩ := hd3.form
    rw [dL_len] at h7 HL3
    rw [dL_len]
    clear b3 hd3 HF2 HB2 HD2
    have hpN : 0 < nB l := HG.out.pos
    have hpos : 0 < (nB l : Int) := by omega
    have hz9 : ((nB l : Int) == 0) = false := beq_eq_false_iff_ne.2 (by omega)
    have hn5 : nB l ≤ 512 := HG.out.n512
    unfold maxLen at h6 h8
    obtain ⟨g0, hg0⟩ : ∃ g, g = w3.heap.size := ⟨_, rfl⟩
    have HO0 := Lib.hid (show OwR tI w3.heap.size (w3.alloc (.cells #[.int .i64 0] 3)) (.slice (some ⟨g0, 0, none⟩) 1 1) (nI [0]) by rw [hg0]; exact OwR.new (R := tI) (l := [0]) rfl rfl (by unfold maxLen; simp))
    have HA0 := Lib.hid (show Below w3.heap.size w3 (w3.alloc (.cells #[.int .i64 0] 3)) from bAl (bRefl w3) _)
    have HW0 := Lib.hid (Way.start hpN)
    have HG0 := Lib.hid hg0
    clear hg0
    go_upto_region 9 with (fail)
    rw [← HG0.out]
    generalize w3.alloc (.cells #[.int .i64 0] 3) = w4 at HO0 HA0 ⊢
    go_upto_block 0 with (fail)
    go_cut [9] (fun t9 wc => ∃ (gT cT : Nat) (T : List Nat), t9 = .slice (some ⟨gT, 0, none⟩) T.length cT ∧ Hid (OwR tI w3.heap.size wc (.slice (some ⟨gT, 0, none⟩) T.length cT) (nI T)) ∧ Hid (Below w3.heap.size w3 wc) ∧ Hid (Way l T) ∧ T.length ≤ 401)
    case first =>
      go_wp2
      go_loopw [9, 10] (fun t9 t10 wr => ∃ (gT cT i : Nat) (T : List Nat), t9 = .slice (some ⟨gT, 0, none⟩) (i + 1) cT ∧ t10 = .int .i64 (i : Int) ∧ i ≤ 400 ∧ i ≤ pk.length ∧ Hid (T.length = i + 1) ∧ Hid (OwR tI w3.heap.size wr (.slice (some ⟨gT, 0, none⟩) (i + 1) cT) (nI T)) ∧ Hid (Below w3.heap.size w3 wr) ∧ Hid (Way l T)) (fun _ t _ => 400 - (intOf t).toNat)
      case atStart => exact ⟨g0, 1, 0, [0], rfl, rfl, by omega, by omega, rfl, HO0.out, HA0.out, HW0.out⟩
      case round =>
        clear HO0 HA0 HW0
        obtain ⟨gT, cT, i, T, rfl, rfl, hi4, hip, hTl, hO, hB, hW⟩ := hrel
        by_cases hlt : i < pk.length ∧ i < 400
        · obtain ⟨hlp, hl4⟩ := hlt
          have hlp' : (i : Int) < (pk.length : Int) := by omega
          have hl4' : (i : Int) < 400 := by omega
          have hi0 : (0 : Int) ≤ (i : Int) := by omega
          obtain ⟨x, hx⟩ : ∃ x, T[i]? = some x := ⟨_, List.getElem?_eq_getElem (by rw [hTl.out]; omega)⟩
          have hxn := hW.out.lt x (List.mem_of_getElem? hx)
          have hxi : (x : Int) < (nB l : Int) := by omega
          have hx0 : (0 : Int) ≤ (x : Int) := by omega
          have ct := OwR.int hO.out (k := i) (x := (x : Int)) (by unfold nI; rw [List.getElem?_map, hx]; rfl)
          obtain ⟨bb, off, an, cn, rfl, _, _, c2, hnx, hbb⟩ := HD3.out.get (dB_get hxn)
          simp only at c2 hnx
          rw [nI_len] at c2 hnx
          obtain ⟨hn1, hn2⟩ := slx_le hnx
          unfold maxLen at hn2
          have c2 : wr.cell? ⟨bb, off + x * 3 + 2, none⟩ = some (.slice an (nxt l x).length cn) := (hB.out.cell (p := ⟨bb, off + x * 3 + 2, none⟩) hbb).trans c2
          have hx2 := nxt_two l x
          have hsub : (i : Int) + 1 - 1 = (i : Int) := by omega
          have hlti : (i : Int) < (i : Int) + 1 := by omega
          have HNX := Lib.hid (hnx.below hB.out)
          have HX := Lib.hid hx
          clear hnx hx
          by_cases hz : (nxt l x).length = 0
          · have hz' : (((nxt l x).length : Int) == 0) = true := by simp [hz]
            have hT9 : T.length = i + 1 := hTl.out
            clear hz
            go_wp2
            go_meet
            exact ⟨gT, cT, T, by rw [hT9], by rw [hT9]; exact hO, hB, hW, by omega⟩
          · have hz' : (((nxt l x).length : Int) == 0) = false := beq_eq_false_iff_ne.2 (by omega)
            obtain ⟨m, hm⟩ : ∃ m, (nxt l x).length = m + 1 := ⟨(nxt l x).length - 1, by omega⟩
            obtain ⟨b, hb⟩ : ∃ b, pk[i]? = some b := ⟨_, List.getElem?_eq_getElem hlp⟩
            obtain ⟨bp, op, rfl, _, _, cp⟩ := SlX.bool (H'.out.below (HB3.out.trans (hB.out.mono HB3.out.size))) hb
            go_upto_region 13 with (fail)
            have hS := HNX.out
            rw [hm] at hz' hS c2 hx2 hn1
            have HS := Lib.hid hS
            have HM := Lib.hid hm
            have hm1 : (m : Int) + 1 - 1 = (m : Int) := by omega
            have hm2 : ((m + 1 : Nat) : Int) - 1 = (m : Int) := by omega
            have hm3 : (m : Int) < (m : Int) + 1 := by omega
            have hm0 : (0 : Int) < (m : Int) + 1 := by omega
            have hm4 : (0 : Int) ≤ (m : Int) := by omega
            clear hz hm hS HNX hb c2
            cases b with
            | false =>
              obtain ⟨y, hy⟩ : ∃ y, (nxt l x)[0]? = some y := ⟨_, List.getElem?_eq_getElem (by rw [HM.out]; omega)⟩
              obtain ⟨bv, ov, rfl, _, _, cv⟩ := SlX.int HS.out (show (nI (nxt l x))[0]? = some (y : Int) by unfold nI; rw [List.getElem?_map, hy]; rfl)
              simp only [Nat.add_zero] at cv
              have hym := List.mem_of_getElem? hy
              have hyn := HG.out.nlt x hxn y hym
              have hyi : (y : Int) < (nB l : Int) := by omega
              have hy0 : (0 : Int) ≤ (y : Int) := by omega
              have HW9 := Lib.hid (hW.out.push hTl.out HX.out hym hyn)
              have hsz := hB.out.size
              clear hy hym
              go_wp2_with (at_builtin; refine wpl_push tI rfl _ _ rfl w3.heap.size (.slice (some ⟨gT, 0, none⟩) (i + 1) cT) (nI T) (by rfl) (hO.out.alloc _) _ 0 1 1 [(y : Int)] (by rfl) rfl (rangeNew (by rfl) (by rfl)) (by rw [nI_len, hTl.out]; unfold maxLen; simp; omega) (by rw [nI_len, hTl.out]; show _ * 8 ≤ _; simp; omega) (by simp; omega) ?_; intro v2 w10 hown2 hgrow2 hform2; obtain ⟨g2, c2', rfl, _⟩ := hform2 (by simp))
              have hl9 : (nI T).length + [(y : Int)].length = i + 1 + 1 := by rw [nI_len, hTl.out]; rfl
              have hT9 : Hid ((T ++ [y]).length = i + 1 + 1) := by show _ = _; rw [List.length_append, hTl.out]; rfl
              have hB9 := (bAl hB.out (.cells #[.int .i64 (y : Int)] 3)).grown hgrow2 (by simp; omega) (fun g e => (hO.out.blk e).1)
              rw [hl9] at hown2
              exact ⟨⟨g2, c2', i + 1, T ++ [y], by rw [nI_len, hTl.out], by go_num, by omega, by omega, hT9, by rw [nI_app]; exact hown2, hB9, HW9.out⟩, by simp [intOf]; omega⟩
            | true =>
              obtain ⟨y, hy⟩ : ∃ y, (nxt l x)[m]? = some y := ⟨_, List.getElem?_eq_getElem (by rw [HM.out]; omega)⟩
              obtain ⟨bv, ov, rfl, _, _, cv⟩ := SlX.int HS.out (show (nI (nxt l x))[m]? = some (y : Int) by unfold nI; rw [List.getElem?_map, hy]; rfl)
              have hym := List.mem_of_getElem? hy
              have hyn := HG.out.nlt x hxn y hym
              have hyi : (y : Int) < (nB l : Int) := by omega
              have hy0 : (0 : Int) ≤ (y : Int) := by omega
              have HW9 := Lib.hid (hW.out.push hTl.out HX.out hym hyn)
              have hsz := hB.out.size
              clear hy hym
              go_wp2_with (at_builtin; refine wpl_push tI rfl _ _ rfl w3.heap.size (.slice (some ⟨gT, 0, none⟩) (i + 1) cT) (nI T) (by rfl) (hO.out.alloc _) _ 0 1 1 [(y : Int)] (by rfl) rfl (rangeNew (by rfl) (by rfl)) (by rw [nI_len, hTl.out]; unfold maxLen; simp; omega) (by rw [nI_len, hTl.out]; show _ * 8 ≤ _; simp; omega) (by simp; omega) ?_; intro v2 w10 hown2 hgrow2 hform2; obtain ⟨g2, c2', rfl, _⟩ := hform2 (by simp))
              have hl9 : (nI T).length + [(y : Int)].length = i + 1 + 1 := by rw [nI_len, hTl.out]; rfl
              have hT9 : Hid ((T ++ [y]).length = i + 1 + 1) := by show _ = _; rw [List.length_append, hTl.out]; rfl
              have hB9 := (bAl hB.out (.cells #[.int .i64 (y : Int)] 3)).grown hgrow2 (by simp; omega) (fun g e => (hO.out.blk e).1)
              rw [hl9] at hown2
              exact ⟨⟨g2, c2', i + 1, T ++ [y], by rw [nI_len, hTl.out], by go_num, by omega, by omega, hT9, by rw [nI_app]; exact hown2, hB9, HW9.out⟩, by simp [intOf]; omega⟩
        · have hT9 : T.length = i + 1 := hTl.out
          by_cases h3 : i < pk.length
          · have h3' : (i : Int) < (pk.length : Int) := by omega
            have h4' : ¬ (i : Int) < 400 := by omega
            clear hlt
            go_wp2
            go_meet
            exact ⟨gT, cT, T, by rw [hT9], by rw [hT9]; exact hO, hB, hW, by omega⟩
          · have h3' : ¬ (i : Int) < (pk.length : Int) := by omega
            clear hlt
            go_wp2
            go_meet
            exact ⟨gT, cT, T, by rw [hT9], by rw [hT9]; exact hO, hB, hW, by omega⟩
    case rest =>
      obtain ⟨gT, cT, T, rfl, hO, hB, hW, hT4⟩ := hcut
      obtain ⟨w5, rfl⟩ : ∃ x : World, x = wc := ⟨_, rfl⟩
      have HS5 := Lib.hid (hO.out.sl (p := p) (ne_low hO.out HPL.out))
      have HL5 := Lib.hid (HL3.out.below hB.out)
      have HB5 := Lib.hid (HB3.out.trans (hB.out.mono HB3.out.size))
      have hTc : T.length ≤ cT := by have := slx_le HS5.out; omega
      have hTc2 : cT ≤ 9223372036854775807 := by have := (slx_le HS5.out).2; unfold maxLen at this; omega
      clear hO hB
      go_wp2
      go_loopw [13, 14] (fun t13 _ wr => ∃ i : Nat, i ≤ T.length ∧ t13 = .int .i64 (i : Int) ∧ Hid (Below w5.heap.size w5 wr)) (fun t _ _ => T.length - (intOf t).toNat)
      case atStart => exact ⟨0, by omega, rfl, bRefl w5⟩
      case round =>
        obtain ⟨i, hi, rfl, hb⟩ := hrel
        by_cases hit : i < T.length
        · have hit' : (i : Int) < (T.length : Int) := by omega
          have hi0 : (0 : Int) ≤ (i : Int) := by omega
          obtain ⟨x, hx⟩ : ∃ x, T[i]? = some x := ⟨_, List.getElem?_eq_getElem hit⟩
          have HX := Lib.hid hx
          obtain ⟨wo, rfl⟩ : ∃ x : World, x = wr := ⟨_, rfl⟩
          clear hx
          go_wp2
          go_loopw [14] (fun t14 wr => ∃ k : Nat, i < k ∧ k ≤ T.length ∧ t14 = .int .i64 (k : Int) ∧ Hid (Below wo.heap.size wo wr)) (fun t _ => T.length - (intOf t).toNat)
          case atStart => exact ⟨i + 1, by omega, by omega, by go_num, bRefl wo⟩
          case round =>
            obtain ⟨k, hik, hk, rfl, hbi⟩ := hrel
            by_cases hkt : k < T.length
            · have hkt' : (k : Int) < (T.length : Int) := by omega
              have hk0 : (0 : Int) ≤ (k : Int) := by omega
              obtain ⟨z, hz⟩ : ∃ z, T[k]? = some z := ⟨_, List.getElem?_eq_getElem hkt⟩
              have hSr := (HS5.out.below hb.out).below hbi.out
              obtain ⟨b1, o1, e1, _, _, c1⟩ := SlX.int hSr (show (nI T)[k]? = some (z : Int) by unfold nI; rw [List.getElem?_map, hz]; rfl)
              obtain ⟨b2, o2, e2, _, _, c2⟩ := SlX.int hSr (show (nI T)[i]? = some (x : Int) by unfold nI; rw [List.getElem?_map, HX.out]; rfl)
              injection e1 with e1
              injection e1 with e11 e12
              injection e2 with e2
              injection e2 with e21 e22
              subst e11 e12 e21 e22
              simp only [Nat.zero_add] at c1 c2
              have HZ := Lib.hid hz
              clear hSr hz
              by_cases hzx : z = x
              · have hzb : ((z : Int) != (x : Int)) = false := by simp [hzx]
                have hHel := Lib.hid (hW.out.held HST.out HX.out (by rw [HZ.out, hzx]) hik)
                clear hzx
                go_upto_region 26 with (fail)
                go_quiet (fail)
                rename_i nq
                have hb9 := Lib.hid (bDraw hbi.out nq)
                generalize wr.drewN nq = W9 at hb9 ⊢
                clear c1 c2 hbi
                have hik' : (i : Int) ≤ (k : Int) := by omega
                have hikn : i ≤ k := by omega
                have hkc : (k : Int) ≤ (cT : Int) := by omega
                have hkcn : k ≤ cT := by omega
                have hc := slx_cut ((HS5.out.below hb.out).below hb9.out) hikn (by rw [nI_len]; exact hk)
                rw [show 0 + i * tI.n = i by show 0 + i * 1 = i; omega] at hc
                have HC := Lib.hid hc
                clear hc
                go_wp2_with fail
                refine (held_ok W9 p p _ _ _ _ ((HL5.out.below hb.out).below hb9.out) HC.out).mono ?_
                rintro e W8 ⟨rfl, b8⟩
                rw [hHel.out]
                have hb8 := Lib.hid (bThen (bThen hb.out hb9.out) b8)
                clear b8 hb9 HC
                go_wp2
                go_roundw
                all_goals first
                  | exact ⟨i + 1, by omega, by go_num, hb8.out⟩
                  | ((repeat apply Exists.intro); exact ⟨⟨i + 1, by omega, by go_num, hb8.out⟩, rfl⟩)
                  | (simp [intOf] <;> omega)
              · have hzb : ((z : Int) != (x : Int)) = true := by simp; omega
                clear hzx
                go_upto_region 26 with (fail)
                go_quiet (fail)
                rename_i nq
                have hb9 := Lib.hid (bDraw hbi.out nq)
                clear c1 c2 hbi
                go_wp2
                go_roundw
                all_goals first
                  | exact ⟨k + 1, by omega, by omega, by go_num, hb9⟩
                  | ((repeat apply Exists.intro); exact ⟨⟨k + 1, by omega, by omega, by go_num, hb9⟩, rfl⟩)
                  | (simp [intOf] <;> omega)
            · obtain rfl : k = T.length := by omega
              have hb9 := Lib.hid (bThen hb.out hbi.out)
              clear hkt
              go_wp2
              go_roundw
              all_goals first
                | exact ⟨i + 1, by omega, by go_num, hb9.out⟩
                | ((repeat apply Exists.intro); exact ⟨⟨i + 1, by omega, by go_num, hb9.out⟩, rfl⟩)
                | (simp [intOf] <;> omega)
        · obtain rfl : i = T.length := by omega
          clear hit
          go_wp2
          go_ret
          exact ⟨rfl, HB5.out.trans (hb.out.mono HB5.out.size)⟩

section
variable {H : Type} {enc : TypeId × Value → H} {w : World} {base : Nat} {held : Bool}
theorem open_bools {a0 : Option Addr} {len cap : Nat} {fuel : Nat} {x : DataW H × List MemPlace} (h : DataW.trod enc Try.prog w base (fun _ => true) held fuel 67 [.slice a0 len cap] = some x) :
    ∃ l : List Bool, SlX tB w.heap.size w (.slice a0 len cap) l := by
  rcases open_slice Try.underlying67 h with ⟨hcs, _⟩ | ⟨a, len', cap', m, n, D, Pl, hcs, _, hl, hm, hmm, hx, hel⟩
  · simp only [List.cons.injEq, Value.slice.injEq, and_true] at hcs
    obtain ⟨rfl, rfl, rfl⟩ := hcs
    exact ⟨[], SlX.nil _ _⟩
  · simp only [List.cons.injEq, Value.slice.injEq, and_true] at hcs
    obtain ⟨rfl, rfl, rfl⟩ := hcs
    have hmc : m = cap := by simpa using hmm
    have hc1 : Try.prog.cellsOf 4 = 1 := by kernel_rfl
    have hex : ∀ i, i < len → ∃ y : Bool, w.cells? base (a.add (i * 1)) 1 = some (tB.f y) := fun i hi => by
      obtain ⟨cs', h1, h2⟩ := hel i (by omega)
      obtain ⟨p, rfl, _⟩ := DataW.trod_bool Try.underlying4 h2
      rw [hc1] at h1
      exact ⟨p, h1⟩
    obtain ⟨f, hf⟩ := choose_lt hex
    have hlen : ((List.range len).map f).length = len := by simp
    refine ⟨(List.range len).map f, some a, cap, by rw [hlen], by rw [hlen]; simpa using hl, by omega, fun k x hx => ?_⟩
    have hk : k < len := by have := (List.getElem?_eq_some_iff.1 hx).1; simpa using this
    rw [List.getElem?_map, List.getElem?_range hk] at hx
    simp only [Option.map_some, Option.some.injEq] at hx
    subst hx
    have hsp : a.spot = none := by
      obtain ⟨_, _, hh⟩ := World.cells?_some (hf 0 (by omega))
      have h0 : w.cell? (a.add (0 * 1)) = some (.bool (f 0)) := by
        have h0 := hh 0 (by omega)
        rw [show (tB.f (f 0))[0]? = some (.bool (f 0)) from rfl] at h0
        simpa [Addr.add] using h0
      have := World.cell?_spot h0
      simpa [Addr.add] using this
    have ea := addr_lit hsp
    have hr := hf k hk
    rw [ea, Addr.add_lit] at hr
    have hr2 := cells_range hr rfl
    have hlt := World.block_lt_of_cell? w ⟨a.block, _, none⟩ (hr2 0 _ rfl)
    exact ⟨a.block, a.off, by rw [← ea], by have : a.block < w.heap.size := hlt; omega, hlt, hr2⟩
end
end Go.Proofs.Ytlhehphikkgobaa
