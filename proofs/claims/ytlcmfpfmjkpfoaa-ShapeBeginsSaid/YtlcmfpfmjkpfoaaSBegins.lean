/- ShapeBegins returns true for every input; nothing that was there is turned. -/
import Derived.Test.YtlcmfpfmjkpfoaaSHolds
import Derived.Test.YtlcmfpfmjkpfoaaSNames
import Derived.Test.YtlcmfpfmjkpfoaaSArgs
namespace Go.Proofs.Ytlcmfpfmjkpfoaa
open Go Go.RowKit Go.Wr
open Go.ChangeShapes Go.WideShapes Go.ChangeAt Go.Deep
set_option maxHeartbeats 4000000
set_option maxRecDepth 100000

theorem infoU8 : (Try.prog.info? 5).map (fun i => (i.zero, i.size, i.bytes)) = some (some (.int .u8 0), 1, 1) := by kernel_rfl
theorem copyb_any (w : World) (v : Value) (l : List Int) (h : ArgN .u8 w v l) :
    Calls Try.prog 14 #[v] w fun e w' => ∃ a c, e = .returned (.slice a l.length c) ∧ Below w.heap.size w w' := by
  obtain ⟨⟨a0, cap, rfl, hn, hc⟩, hlen⟩ := h
  obtain ⟨i, hi, hz0, hz1, hz2⟩ := info_parts infoU8
  cases a0 with
  | none =>
    obtain ⟨rfl, rfl⟩ := hn rfl
    clear hc hn
    go_enter Try.func14, Try.ntmps14
    go_wp2_with (at_builtin; refine wpList_append_own_none rfl _ _ _ rfl w.heap.size 5 i 1 Try.underlying36 hi (.slice none 0 0) 0 [] rfl (World.ownsRow_nil _ _ _ _) rfl ?_)
    go_ret
    exact ⟨_, _, rfl, Below.refl _ _⟩
  | some ad =>
    have Hc := Lib.hid (hc ad rfl)
    have ho : ∀ u ∈ l.map (Value.int .u8), u.oneCell' = true := fun u hu => by
      obtain ⟨n, _, rfl⟩ := List.mem_map.1 hu
      rfl
    have Ho := Lib.hid ho
    have hlc : (l.map (Value.int .u8)).length = l.length * 1 := by simp
    clear hn ho hc
    go_enter Try.func14, Try.ntmps14
    go_wp2_with (at_builtin; refine wpList_append_own _ rfl _ _ _ rfl w.heap.size 5 i _ 1 1 Try.underlying36 hi hz0 hz1 hz2 rfl (by omega) (.slice none 0 0) 0 [] rfl (World.ownsRow_nil _ _ _ _) ad l.length cap (l.map (Value.int .u8)) rfl hlc Hc.out Ho.out (by unfold maxLen; omega) (by omega) (by simp) ?_; intro v' w' hown' hgrow hnil)
    go_ret
    rw [Nat.zero_add] at hown'
    have hb : Below w.heap.size w w' := (Below.refl _ _).grown hgrow (Nat.le_refl _) (fun g hg => by cases hg)
    rcases hown'.2 with ⟨rfl, h0⟩ | ⟨g, c, cur, rfl, _⟩
    · exact ⟨⟨none, 0, by rw [h0]; rfl⟩, hb⟩
    · exact ⟨⟨_, c, rfl⟩, hb⟩

theorem stB_eq (n : Int) (sl : Value) : ((((((((((fc 466 st0).setIfInBounds 460 sl).setIfInBounds 4 (.int .i64 3)).setIfInBounds 8 (.int .i64 1)).setIfInBounds 9 (.int .i64 0)).setIfInBounds 10 (.int .i64 0)).setIfInBounds 11 (.int .i64 n)).setIfInBounds 40 (.int .i64 2)).setIfInBounds 41 (.int .i64 0)).setIfInBounds 42 (.int .i64 0)).setIfInBounds 43 (.int .i64 256) = fc 466 (stB n sl) := by
  simp only [fc_set]
  refine fc_congr fun i _ => ?_
  unfold stB
  by_cases e43 : i = 43
  · subst e43; rfl
  by_cases e42 : i = 42
  · subst e42; rfl
  by_cases e41 : i = 41
  · subst e41; rfl
  by_cases e40 : i = 40
  · subst e40; rfl
  by_cases e11 : i = 11
  · subst e11; rfl
  by_cases e10 : i = 10
  · subst e10; rfl
  by_cases e9 : i = 9
  · subst e9; rfl
  by_cases e8 : i = 8
  · subst e8; rfl
  by_cases e4 : i = 4
  · subst e4; rfl
  by_cases e460 : i = 460
  · subst e460; rfl
  simp only [if_neg e43, if_neg e42, if_neg e41, if_neg e40, if_neg e11, if_neg e10, if_neg e9, if_neg e8, if_neg e4, if_neg e460]

theorem make16 : ∀ w, (Instr.makeSlice 56 (.int .i64 16) (.int .i64 16)).run Try.prog w = .ok (.slice (some ⟨w.heap.size, 0, none⟩) 16 16) (w.alloc (.cells (fc 16 fun _ => .int .i64 0) 3)) := fun _ => by kernel_rfl

/-- Sixteen numbers out of a list. -/
theorem ghosts_eq (l : List Int) : (splice (fc 16 fun _ => Value.int .i64 0).toList 0 ((l.map (Value.int .i64)).take (Nat.min l.length 16))).toArray = fc 16 (fun i => .int .i64 (l.getD i 0)) := by
  apply Array.ext_getElem?
  intro i
  unfold splice
  have l1 : (fc 16 fun _ => Value.int .i64 0).toList.length = 16 := by simp [fc_size]
  have hmn : Nat.min l.length 16 = min l.length 16 := rfl
  have l2 : ((l.map (Value.int .i64)).take (Nat.min l.length 16)).length = min l.length 16 := by rw [List.length_take, List.length_map, hmn]; omega
  simp only [List.getElem?_toArray, List.take_zero, List.nil_append, Nat.zero_add]
  by_cases h1 : i < min l.length 16
  · rw [List.getElem?_append_left (by omega), List.getElem?_take, if_pos (by rw [hmn]; exact h1), List.getElem?_map, List.getElem?_eq_getElem (by omega), Option.map_some, fc_get 16 _ (by omega), List.getD_eq_getElem?_getD, List.getElem?_eq_getElem (by omega)]
    rfl
  · rw [List.getElem?_append_right (by omega), l2]
    by_cases h2 : i < 16
    · rw [List.getElem?_drop, Array.getElem?_toList, fc_get 16 _ (by omega), fc_get 16 _ h2, List.getD_eq_getElem?_getD, List.getElem?_eq_none (by omega)]
      rfl
    · rw [List.getElem?_drop, Array.getElem?_toList, fc_none 16 _ (by omega), fc_none 16 _ (by omega)]

theorem begins_out (w : World) (lo hi : Int) (vc : Value) (nn : Nat) (ac : Option Addr) (cc : Nat) (hv : vc = .slice ac nn cc) (vg : Value) (h : lo < 0 ∨ (0 ≤ lo ∧ 65535 < hi) ∨ (0 ≤ lo ∧ hi ≤ 65535 ∧ (nn : Int) < lo) ∨ (0 ≤ lo ∧ hi ≤ 65535 ∧ lo ≤ (nn : Int) ∧ hi < (nn : Int))) :
    Calls Try.prog 4 #[.int .i64 lo, .int .i64 hi, vc, vg] w fun e w' => e = .returned (.bool true) ∧ Below w.heap.size w w' := by
  subst hv
  rcases h with h | ⟨h, h2⟩ | ⟨h, h2, h3⟩ | ⟨h, h2, h3, h4⟩
  all_goals
    go_enter Try.func4, Try.ntmps4
    go_wp2_with (go_at_call 8; refine (awake_any _).mono ?_; rintro e w99 ⟨rfl, b99⟩)
    go_ret
    exact ⟨rfl, b99⟩

theorem begins_in (w : World) (lo hi : Int) (vc : Value) (lc : List Int) (hc : ArgN .u8 w vc lc) (vg : Value) (lg : List Int) (hg : ArgN .i64 w vg lg) (h0 : 0 ≤ lo) (h1 : lo ≤ (lc.length : Int)) (h2 : (lc.length : Int) ≤ hi) (h3 : hi ≤ 65535) :
    Calls Try.prog 4 #[.int .i64 lo, .int .i64 hi, vc, vg] w fun e w' => e = .returned (.bool true) ∧ Below w.heap.size w w' := by
  have HC := Lib.hid hc
  have HG := Lib.hid hg
  obtain ⟨⟨ac, cc, rfl, _, _⟩, _⟩ := hc
  obtain ⟨⟨ag, cg, rfl, _, _⟩, hgl⟩ := hg
  have hz := zeroState
  go_enter Try.func4, Try.ntmps4
  go_upto_region 4 with (fail)
  generalize hW : (w.alloc (.cells (fc 466 st0) 66)) = W
  have tW : Below w.heap.size w W := by rw [← hW]; exact bAl (bRefl w) _
  have SW : Blk W w.heap.size 66 (fc 466 st0) := by rw [← hW]; exact Blk.new _ _ _
  clear hW hz
  go_wp2_with fail
  refine (copyb_any _ _ lc (HC.out.below tW)).mono ?_
  rintro e w1 ⟨a1, c1, rfl, b1⟩
  have t1 := bThen tW b1
  have S1 := SW.below b1 SW.lt
  have q460 := (S1.cell 460).trans (fc_get 466 st0 (by omega))
  have q4 := (S1.cell 4).trans (fc_get 466 st0 (by omega))
  have q8 := (S1.cell 8).trans (fc_get 466 st0 (by omega))
  have q9 := (S1.cell 9).trans (fc_get 466 st0 (by omega))
  have q10 := (S1.cell 10).trans (fc_get 466 st0 (by omega))
  have q11 := (S1.cell 11).trans (fc_get 466 st0 (by omega))
  have q40 := (S1.cell 40).trans (fc_get 466 st0 (by omega))
  have q41 := (S1.cell 41).trans (fc_get 466 st0 (by omega))
  have q42 := (S1.cell 42).trans (fc_get 466 st0 (by omega))
  have q43 := (S1.cell 43).trans (fc_get 466 st0 (by omega))
  have p460 := S1.frozen 460
  have p4 := S1.frozen 4
  have p8 := S1.frozen 8
  have p9 := S1.frozen 9
  have p10 := S1.frozen 10
  have p11 := S1.frozen 11
  have p40 := S1.frozen 40
  have p41 := S1.frozen 41
  have p42 := S1.frozen 42
  have p43 := S1.frozen 43
  have hl := S1.lt
  have SH := Lib.hid S1
  clear b1 SW S1 tW
  go_upto_region 8 with (fail)
  have hE : ∀ E, E = ((((((((((w1.setCell ⟨w.heap.size, 460, none⟩ (.slice a1 lc.length c1)).setCell ⟨w.heap.size, 4, none⟩ (.int .i64 3)).setCell ⟨w.heap.size, 8, none⟩ (.int .i64 1)).setCell ⟨w.heap.size, 9, none⟩ (.int .i64 0)).setCell ⟨w.heap.size, 10, none⟩ (.int .i64 0)).setCell ⟨w.heap.size, 11, none⟩ (.int .i64 lc.length)).setCell ⟨w.heap.size, 40, none⟩ (.int .i64 2)).setCell ⟨w.heap.size, 41, none⟩ (.int .i64 0)).setCell ⟨w.heap.size, 42, none⟩ (.int .i64 0)).setCell ⟨w.heap.size, 43, none⟩ (.int .i64 256)) →
      Blk E w.heap.size 66 (fc 466 (stB lc.length (.slice a1 lc.length c1))) ∧ Below w.heap.size w E := fun E e => by
    subst e
    refine ⟨(((((((((((SH.out.set 460 _).set 4 _).set 8 _).set 9 _).set 10 _).set 11 _).set 40 _).set 41 _).set 42 _).set 43 _).eq (stB_eq _ _)), ?_⟩
    repeat (refine Below.setCell ?_ (by simp) _)
    exact t1
  have HE := Lib.hid hE
  clear hE q460 q4 q8 q9 q10 q11 q40 q41 q42 q43 p460 p4 p8 p9 p10 p11 p40 p41 p42 p43 hl SH t1
  generalize hw : ((((((((((w1.setCell ⟨w.heap.size, 460, none⟩ (.slice a1 lc.length c1)).setCell ⟨w.heap.size, 4, none⟩ (.int .i64 3)).setCell ⟨w.heap.size, 8, none⟩ (.int .i64 1)).setCell ⟨w.heap.size, 9, none⟩ (.int .i64 0)).setCell ⟨w.heap.size, 10, none⟩ (.int .i64 0)).setCell ⟨w.heap.size, 11, none⟩ (.int .i64 lc.length)).setCell ⟨w.heap.size, 40, none⟩ (.int .i64 2)).setCell ⟨w.heap.size, 41, none⟩ (.int .i64 0)).setCell ⟨w.heap.size, 42, none⟩ (.int .i64 0)).setCell ⟨w.heap.size, 43, none⟩ (.int .i64 256)) = wE
  obtain ⟨SE, tE⟩ := HE.out wE hw.symm
  clear hw HE
  go_wp2_with fail
  refine (start_ok _ lo hi h0 (by omega) h3).mono ?_
  rintro e w2 ⟨b, rfl, SA, b2⟩
  have S2 := SE.below b2 SE.lt
  have t2 := bThen tE b2
  have SAH := Lib.hid SA
  have S2H := Lib.hid S2
  have hl2 := t2.size
  have hmk := make16
  clear SE tE SA S2 b2
  go_upto_region 10 with (fail)
  have GB := Blk.new w2 3 (fc 16 fun _ => Value.int .i64 0)
  obtain ⟨g, hg'⟩ : ∃ g, g = w2.heap.size := ⟨_, rfl⟩
  have tG : Below w.heap.size w (w2.alloc (.cells (fc 16 fun _ => .int .i64 0) 3)) := bAl t2 _
  have tG2 : Below g w2 (w2.alloc (.cells (fc 16 fun _ => .int .i64 0) 3)) := by rw [hg']; exact bAl (bRefl w2) _
  have HGG := HG.out.below tG
  rw [← hg'] at GB ⊢
  generalize (w2.alloc (.cells (fc 16 fun _ => .int .i64 0) 3)) = wG at *
  obtain ⟨C, hC⟩ : ∃ C, C = (lg.map (Value.int .i64)).take (Nat.min lg.length 16) := ⟨_, rfl⟩
  have hCl : C.length = Nat.min lg.length 16 := by
    have hmn : Nat.min lg.length 16 = min lg.length 16 := rfl
    rw [hC, List.length_take, List.length_map, hmn]; omega
  have l16 : (fc 16 fun _ => Value.int .i64 0).toList.length = 16 := by simp [fc_size]
  have hCp : 0 < C.length → ∃ ad, ag = some ad ∧ ∀ j v, C[j]? = some v → wG.cell? (ad.add j) = some v := fun hp => by
    obtain ⟨⟨a0, cap, hv, hn, hcl⟩, _⟩ := HGG
    simp only [Value.slice.injEq] at hv
    obtain ⟨rfl, _, rfl⟩ := hv
    cases ag with
    | none =>
      obtain ⟨rfl, _⟩ := hn rfl
      rw [hC] at hp
      simp at hp
    | some ad =>
      refine ⟨ad, rfl, fun j v hj => hcl ad rfl j v ?_⟩
      rw [hC, List.getElem?_take] at hj
      split at hj
      · exact hj
      · cases hj
  have hC1 : ∀ v ∈ C, v.oneCell' = true := fun v hv => by
    rw [hC] at hv
    obtain ⟨n, _, rfl⟩ := List.mem_map.1 (List.mem_of_mem_take hv)
    rfl
  have HFit : Hid (0 + C.length ≤ (fc 16 fun _ => Value.int .i64 0).toList.length) := by
    show _ ≤ _
    rw [hCl, l16, Nat.zero_add]
    exact Nat.min_le_right _ _
  have HCl := Lib.hid hCl
  have HCp := Lib.hid hCp
  have HC1 := Lib.hid hC1
  have HCe : Hid ((splice (fc 16 fun _ => Value.int .i64 0).toList 0 C).toArray = fc 16 (fun i => .int .i64 (lg.getD i 0))) := by show _ = _; rw [hC]; exact ghosts_eq lg
  have GBH := Lib.hid GB
  have HG2 := Lib.hid hg'
  have hgw : w.heap.size ≤ g := by omega
  have hgne : w.heap.size < g := by
    have := S2H.out.lt
    omega
  clear hC hCl l16 hCp hC1 GB HGG hg'
  go_upto_region 11 with (refine wpList_copy_splice rfl (.tmp 54) (.tmp 55) 56 56 rfl 3 Try.underlying56 sizeInt (some ⟨g, 0, none⟩) ag 16 16 lg.length cg rfl rfl g 0 (fc 16 fun _ => Value.int .i64 0).toList 3 GBH.out C HCl.out (fun hp => ⟨rfl, HCp.out hp⟩) HFit.out HC1.out g wG (Below.refl _ _) (Nat.le_refl _) ?_; intro w3 G3 hB3)
  have GB3 : Blk w3 g 3 (fc 16 (fun i => .int .i64 (lg.getD i 0))) := by
    have e : w3.heap[g]? = _ := G3.out
    rw [HCe.out] at e
    exact e
  have bb : Below g w2 w3 := tG2.trans hB3
  have SA3 : ShAt w3 b fS false ⟨false, mS lo hi⟩ := SAH.out.below (HG2.out ▸ bb)
  have S3 := S2H.out.below bb hgne
  have tE := t2.trans (bb.mono hgw)
  have GH3 := Lib.hid GB3
  have SAH3 := Lib.hid SA3
  have SH3 := Lib.hid S3
  clear GB3 SA3 S3 G3 GBH SAH S2H HCl HFit HCp HC1 HCe tG2 HG2 t2 tG hB3 bb hmk HC HG
  go_wp2_with fail
  refine wpo_val (.agg (fc 466 (stB lc.length (.slice a1 lc.length c1)))) (exec_load 66 (.tmp 9) rfl w.heap.size 0 rfl SH3.out rowState (by rw [fc_size]; omega) (fc_all _ _)) ?_
  go_wp2_with fail
  refine (holds_any w3 b lo hi lc.length h0 h1 h2 h3 SAH3.out a1 c1 g (fun i => lg.getD i 0) GH3.out).mono ?_
  rintro e w4 ⟨rfl, b4⟩
  have t4 := bThen tE b4
  clear SAH3 SH3 GH3 b4 tE
  go_wp2_with fail
  refine (awake_any _).mono ?_
  rintro e w5 ⟨rfl, b5⟩
  have t5 := bThen t4 b5
  clear t4 b5
  go_wp2_with fail
  go_ret
  exact ⟨rfl, t5⟩

theorem begins_any (w : World) (lo hi : Int) (vc : Value) (lc : List Int) (hc : ArgN .u8 w vc lc) (vg : Value) (lg : List Int) (hg : ArgN .i64 w vg lg) :
    Calls Try.prog 4 #[.int .i64 lo, .int .i64 hi, vc, vg] w fun e w' => e = .returned (.bool true) ∧ Below w.heap.size w w' := by
  by_cases h : 0 ≤ lo ∧ hi ≤ 65535 ∧ lo ≤ (lc.length : Int) ∧ (lc.length : Int) ≤ hi
  · exact begins_in w lo hi vc lc hc vg lg hg h.1 h.2.2.1 h.2.2.2 h.2.1
  · have hc' := hc
    obtain ⟨⟨ac, cc, hv, _, _⟩, _⟩ := hc'
    exact begins_out w lo hi vc lc.length ac cc hv vg (by omega)

set_option maxRecDepth 100000 in
theorem shapeBegins_lifted (os : Os) (started : os.Started) (H : Type) (enc : TypeId × Value → H) :
    ReturnsInHanded {} Try.checked os 4 .any (Rows.shapeBeginsSpec.pre6 enc Try.prog Try.f4 Rows.shapeBeginsRow.domain false) (Rows.shapeBeginsSpec.post enc Try.prog Try.f4 false true false false) := by
  refine returnsInHanded_of_change_sized (C := Try.checked) own started (by kernel_rfl) Try.func4
    (ChangeSpec.witness6 (enc := enc) (C := Try.checked) false ⟨#[], #[.int .i64 0, .int .i64 0, .slice none 0 0, .slice none 0 0], []⟩ 8 (by kernel_rfl) (by kernel_rfl) (by kernel_rfl) (by kernel_rfl)) ?_
  intro W base args ds gs before hval0 hW hcnd hsz _
  have hval : ∀ (j : Nat) t v, Try.f4.params[j]? = some t → args[j]? = some v → Value.okWide Try.prog W .any base t v := hval0
  have hW' := hW
  obtain ⟨p, q, hA0, hV, rfl, hfz, hnd⟩ := hW
  have hA : DataW.TrodAll enc Try.prog W 0 (fun _ => true) true Try.f4.params.toList args.toList ds p := hA0
  rw [Try.params4] at hA hval hsz
  obtain ⟨v0, vs0, d0, ds0, p0, q0, hargs, rfl, rfl, h0, r0⟩ := trodAll_cons hA
  obtain ⟨v1, vs1, d1, ds1, p1, q1, rfl, rfl, rfl, h1, r1⟩ := trodAll_cons r0
  obtain ⟨v2, vs2, d2, ds2, p2, q2, rfl, rfl, rfl, h2, r2⟩ := trodAll_cons r1
  obtain ⟨v3, vs3, d3, ds3, p3, q3, rfl, rfl, rfl, h3, r3⟩ := trodAll_cons r2
  obtain ⟨rfl, rfl, rfl⟩ := trodAll_nil r3
  obtain rfl : args = #[v0, v1, v2, v3] := by cases args; simp_all
  obtain ⟨rfl, rfl⟩ := trodVars_none hV
  have k0 := h0
  have lt0 : ∀ x ∈ p0, x.block < W.heap.size := by obtain ⟨m, hm⟩ := k0; exact DataW.trod_lt m _ _ _ hm
  obtain ⟨n0, rfl, rfl, rfl, w0⟩ := open_int Try.underlying3 (hval 0 3 v0 rfl rfl) h0
  have k1 := h1
  have lt1 : ∀ x ∈ p1, x.block < W.heap.size := by obtain ⟨m, hm⟩ := k1; exact DataW.trod_lt m _ _ _ hm
  obtain ⟨n1, rfl, rfl, rfl, w1⟩ := open_int Try.underlying3 (hval 1 3 v1 rfl rfl) h1
  have k2 := h2
  have lt2 : ∀ x ∈ p2, x.block < W.heap.size := by obtain ⟨m, hm⟩ := k2; exact DataW.trod_lt m _ _ _ hm
  obtain ⟨a2, len2, cap2, rfl⟩ := okWide_slice Try.underlying36 (hval 2 36 v2 rfl rfl)
  obtain ⟨l2, g2⟩ : ∃ l, ArgN .u8 W (.slice a2 len2 cap2) l := by
    obtain ⟨fuel, hf⟩ := h2
    refine open_nums (kd := .u8) Try.underlying36 Try.underlying5 (by kernel_rfl) (x := (d2, p2)) (by simpa [Value.cells] using hf) (fun e s hd => ?_)
    have hs := sized_slice hsz (j := 2) (t := 36) (elems := e) (spare := s) rfl (by simp only at hd; rw [hd]; rfl) Try.underlying36
    rw [show Try.checked.prog.bytesOf 5 = 1 by kernel_rfl] at hs
    have hr : reachBytes ≤ 140737488351232 := by decide
    omega
  have k3 := h3
  have lt3 : ∀ x ∈ p3, x.block < W.heap.size := by obtain ⟨m, hm⟩ := k3; exact DataW.trod_lt m _ _ _ hm
  obtain ⟨a3, len3, cap3, rfl⟩ := okWide_slice Try.underlying56 (hval 3 56 v3 rfl rfl)
  obtain ⟨l3, g3⟩ : ∃ l, ArgN .i64 W (.slice a3 len3 cap3) l := by
    obtain ⟨fuel, hf⟩ := h3
    refine open_nums (kd := .i64) Try.underlying56 Try.underlying3 (by kernel_rfl) (x := (d3, p3)) (by simpa [Value.cells] using hf) (fun e s hd => ?_)
    have hs := sized_slice hsz (j := 3) (t := 56) (elems := e) (spare := s) rfl (by simp only at hd; rw [hd]; rfl) Try.underlying56
    rw [show Try.checked.prog.bytesOf 3 = 8 by kernel_rfl] at hs
    have hr : reachBytes ≤ 140737488351232 := by decide
    omega
  clear hA0 hval0 hval hfz hnd hcnd hA
  refine (begins_any W n0 n1 _ l2 g2 _ l3 g3).mono fun e W' ⟨he, bel⟩ => ?_
  subst he
  exact ⟨_, rfl, _, _, _, [], _, [], hW', trodAll_mk1 (shut_bool Try.underlying4 _), (trodAll_cons_mk (Below.trod laidOut (by kernel_rfl) (of_decide_eq_true (by kernel_rfl)) k0 bel lt0) (trodAll_cons_mk (Below.trod laidOut (by kernel_rfl) (of_decide_eq_true (by kernel_rfl)) k1 bel lt1) (trodAll_cons_mk (Below.trod laidOut (by kernel_rfl) (of_decide_eq_true (by kernel_rfl)) k2 bel lt2) (trodAll_cons_mk (Below.trod laidOut (by kernel_rfl) (of_decide_eq_true (by kernel_rfl)) k3 bel lt3) trodAll_mk0)))), rfl, bel.frame _, fun h => by cases h⟩

theorem ShapeBegins_holds : Rows.ShapeBeginsSaid :=
  OpenClaim.holds_of_wide 4 Try.f4 rfl rfl rfl rfl rfl rfl rfl ⟨rfl, rfl, rfl, rfl, rfl⟩ rfl rfl rfl rfl rfl (by kernel_rfl) Try.func4 (by kernel_rfl)
    (of_decide_eq_true (by kernel_rfl)) (by unfold Func.isWrapper; rw [if_neg (of_decide_eq_false (by kernel_rfl))]; exact ⟨rfl, rfl⟩)
    (fun os started H enc _ => shapeBegins_lifted os started H enc)
#print axioms ShapeBegins_holds

end Go.Proofs.Ytlcmfpfmjkpfoaa
