/- FlowPlays: true of any two lists of instructions that are no longer than memory lets them be, and every script. -/
import Derived.Test.YtlhehphikkgobaaHMk
namespace Go.Proofs.Ytlhehphikkgobaa
open Go Go.RowKit Go.Wr Go.Fl
open Go.ChangeShapes Go.WideShapes Go.ChangeAt Go.Deep
set_option maxHeartbeats 4000000
set_option maxRecDepth 100000

/-- A question of the law's script. -/
structure Qn where
  k : Int
  a : Int
  b : Int
  s : Bool
instance : Inhabited Qn := ⟨⟨0, 0, 0, false⟩⟩
def tO : RT Try.prog Qn := ⟨47, 45, 4, 32, .agg #[.int .i64 0, .int .i64 0, .int .i64 0, .bool false], fun x => [.int .i64 x.k, .int .i64 x.a, .int .i64 x.b, .bool x.s], fun _ => rfl, fun _ => oneSimp rfl, by kernel_rfl, by kernel_rfl, by decide, by decide⟩
theorem plays_ok (w : World) (p q2 : Nat) (l : List In) (hF : FinP l p w) (hR : RFinP l q2 w) (k a b : Int) (s : Bool) :
    Calls Try.prog 29 #[.pointer (some ⟨p, 0, none⟩), .pointer (some ⟨q2, 0, none⟩), .agg #[.int .i64 k, .int .i64 a, .int .i64 b, .bool s]] w fun e w' => e = .returned (.bool true) ∧ Below w.heap.size w w' := by
  have HF0 := Lib.hid hF
  have HR0 := Lib.hid hR
  clear hF hR
  go_enter Try.func29, Try.ntmps29
  go_upto_region 2 with (fail)
  generalize hW : w.alloc (.cells #[.int .i64 k, .int .i64 a, .int .i64 b, .bool s] 47) = W
  obtain ⟨z, hz⟩ : ∃ z, z = w.heap.size := ⟨_, rfl⟩
  rw [← hz]
  have bW : Below w.heap.size w W := by rw [← hW]; exact bAl (bRefl w) _
  have pW : Blk W z 47 #[.int .i64 k, .int .i64 a, .int .i64 b, .bool s] := by rw [← hW, hz]; exact Blk.new _ _ _
  have HF := Lib.hid (HF0.out.below bW)
  have HR := Lib.hid (HR0.out.below bW)
  have HBW := Lib.hid bW
  have HPW := Lib.hid pW
  clear hW hz bW pW HF0 HR0
  obtain ⟨vb, vd, vl, vr, vo, hb, hbd, hld, hro⟩ := HR.out.get
  have HB := Lib.hid hb
  have HBD := Lib.hid hbd
  have HLD := Lib.hid hld
  have HRO := Lib.hid hro
  have HLE := Lib.hid (dB_le HF.out.1)
  have HLL := Lib.hid (dL_le HF.out.1)
  clear hb hbd hld hro
  by_cases k1 : k = 1
  · subst k1
    go_upto_region 3 with (fail)
    have cv : W.drew.cell? ⟨q2, 0, none⟩ = some vb := HB.out.cell 0
    have HF3 := Lib.hid (HF.out.below (bRefl W).drew)
    have HD3 := Lib.hid (HBD.out.below (bRefl W).drew)
    have HB3 := Lib.hid (HBW.out.drew)
    have hql : q2 < W.drew.heap.size := HB.out.lt
    refine wp_region_last 7 (fun w' => w'.cell? ⟨q2, 0, none⟩ = some vb) mix ?_
    refine wpAnyL_take (i := 0) (v := .pointer (some ⟨p, 0, none⟩)) rfl (by kernel_rfl) (by kernel_rfl) (by kernel_rfl) (fun _ _ _ h => h) rfl (by kernel_rfl) (Or.inl ⟨by rfl, fun w' hw' => by (try go_split_ands); go_simp⟩) cv ?_
    simp only [Act.put, List.getElem_toArray, List.getElem_cons_zero, List.setIfInBounds_toArray, List.set_cons_zero, List.set_cons_succ]
    refine wpAnyL_take (i := 2) (v := .pointer (some ⟨q2, 0, none⟩)) rfl (by kernel_rfl) (by kernel_rfl) (by kernel_rfl) (fun _ _ _ h => h) rfl (by kernel_rfl) (Or.inl ⟨by rfl, fun w' hw' => by (try go_split_ands); go_simp⟩) cv ?_
    simp only [Act.put, List.getElem_toArray, List.getElem_cons_zero, List.getElem_cons_succ, List.setIfInBounds_toArray, List.set_cons_zero, List.set_cons_succ]
    refine wpAnyL_take (i := 3) (v := .pointer (some ⟨q2, 0, none⟩)) rfl (by kernel_rfl) (by kernel_rfl) (by kernel_rfl) (fun _ _ _ h => h) rfl (by kernel_rfl) (Or.inl ⟨by rfl, fun w' hw' => by (try go_split_ands); go_simp⟩) cv ?_
    simp only [Act.put, List.getElem_toArray, List.getElem_cons_zero, List.getElem_cons_succ, List.setIfInBounds_toArray, List.set_cons_zero, List.set_cons_succ]
    refine wpAnyL_take (i := 4) (v := .pointer (some ⟨q2, 0, none⟩)) rfl (by kernel_rfl) (by kernel_rfl) (by kernel_rfl) (fun _ _ _ h => h) rfl (by kernel_rfl) (Or.inl ⟨by rfl, fun w' hw' => by (try go_split_ands); go_simp⟩) cv ?_
    simp only [Act.put, List.getElem_toArray, List.getElem_cons_zero, List.getElem_cons_succ, List.setIfInBounds_toArray, List.set_cons_zero, List.set_cons_succ]
    refine wpAnyL_take (i := 5) (v := vb) rfl (by kernel_rfl) (by kernel_rfl) (by kernel_rfl) (fun _ _ _ h => h) rfl (by kernel_rfl) (Or.inl ⟨by rfl, fun w' hw' => by (try go_split_ands); go_simp⟩) cv ?_
    simp only [Act.put, List.getElem_toArray, List.getElem_cons_zero, List.getElem_cons_succ, List.setIfInBounds_toArray, List.set_cons_zero, List.set_cons_succ]
    refine wpAnyL_one (i := 1) (by kernel_rfl) rfl (fun K hK => ?_)
    go_simp
    go_wp2_with fail
    refine HF3.out.blocks.mono ?_
    rintro e w4 ⟨b4, v4, rfl, hd4⟩
    have cv4 : w4.cell? ⟨q2, 0, none⟩ = some vb := (b4.cell (p := ⟨q2, 0, none⟩) hql).trans cv
    have HD4 := Lib.hid (HD3.out.below b4)
    have HB4 := Lib.hid (bThen HB3.out b4)
    have HV4 := Lib.hid hd4
    have hql4 := Nat.lt_of_lt_of_le hql b4.size
    clear b4 hd4 cv hql HF3 HD3 HB3
    go_wp2_with fail
    refine hK.out _ _ (fun _ => cv4) ?_
    clear hK K
    refine wpAnyL_one (i := 6) (by kernel_rfl) rfl (fun K hK => ?_)
    go_simp
    go_wp2_with fail
    refine (sameBlocks_ok w4 p q2 v4 vb _ HV4.out HD4.out HLE.out).mono ?_
    rintro e w5 ⟨rfl, b5⟩
    have HB5 := Lib.hid (bThen HB4.out b5)
    have cv5 : w5.cell? ⟨q2, 0, none⟩ = some vb := (b5.cell (p := ⟨q2, 0, none⟩) hql4).trans cv4
    clear b5 cv4 hql4 HD4 HB4
    skip
    go_wp2_with fail
    refine hK.out _ _ (fun _ => cv5) ?_
    clear hK K
    refine wpAnyL_one (i := 7) (by kernel_rfl) rfl (fun K hK => ?_)
    go_simp
    refine hK.out _ _ (fun h => absurd rfl h) ?_
    clear hK K
    refine wpAnyL_done (by kernel_rfl) ?_ _
    go_wp2
    go_ret
    exact ⟨rfl, HB5.out⟩
  by_cases k2 : k = 2
  · subst k2
    go_upto_region 5 with (fail)
    have cv : W.drew.cell? ⟨q2, 2, none⟩ = some vl := HB.out.cell 2
    have HF3 := Lib.hid (HF.out.below (bRefl W).drew)
    have HD3 := Lib.hid (HLD.out.below (bRefl W).drew)
    have HB3 := Lib.hid (HBW.out.drew)
    have hql : q2 < W.drew.heap.size := HB.out.lt
    refine wp_region_last 7 (fun w' => w'.cell? ⟨q2, 2, none⟩ = some vl) mix ?_
    refine wpAnyL_take (i := 0) (v := .pointer (some ⟨p, 0, none⟩)) rfl (by kernel_rfl) (by kernel_rfl) (by kernel_rfl) (fun _ _ _ h => h) rfl (by kernel_rfl) (Or.inl ⟨by rfl, fun w' hw' => by (try go_split_ands); go_simp⟩) cv ?_
    simp only [Act.put, List.getElem_toArray, List.getElem_cons_zero, List.setIfInBounds_toArray, List.set_cons_zero, List.set_cons_succ]
    refine wpAnyL_take (i := 2) (v := .pointer (some ⟨q2, 0, none⟩)) rfl (by kernel_rfl) (by kernel_rfl) (by kernel_rfl) (fun _ _ _ h => h) rfl (by kernel_rfl) (Or.inl ⟨by rfl, fun w' hw' => by (try go_split_ands); go_simp⟩) cv ?_
    simp only [Act.put, List.getElem_toArray, List.getElem_cons_zero, List.getElem_cons_succ, List.setIfInBounds_toArray, List.set_cons_zero, List.set_cons_succ]
    refine wpAnyL_take (i := 3) (v := .pointer (some ⟨q2, 0, none⟩)) rfl (by kernel_rfl) (by kernel_rfl) (by kernel_rfl) (fun _ _ _ h => h) rfl (by kernel_rfl) (Or.inl ⟨by rfl, fun w' hw' => by (try go_split_ands); go_simp⟩) cv ?_
    simp only [Act.put, List.getElem_toArray, List.getElem_cons_zero, List.getElem_cons_succ, List.setIfInBounds_toArray, List.set_cons_zero, List.set_cons_succ]
    refine wpAnyL_take (i := 4) (v := .pointer (some ⟨q2, 2, none⟩)) rfl (by kernel_rfl) (by kernel_rfl) (by kernel_rfl) (fun _ _ _ h => h) rfl (by kernel_rfl) (Or.inl ⟨by rfl, fun w' hw' => by (try go_split_ands); go_simp⟩) cv ?_
    simp only [Act.put, List.getElem_toArray, List.getElem_cons_zero, List.getElem_cons_succ, List.setIfInBounds_toArray, List.set_cons_zero, List.set_cons_succ]
    refine wpAnyL_take (i := 5) (v := vl) rfl (by kernel_rfl) (by kernel_rfl) (by kernel_rfl) (fun _ _ _ h => h) rfl (by kernel_rfl) (Or.inl ⟨by rfl, fun w' hw' => by (try go_split_ands); go_simp⟩) cv ?_
    simp only [Act.put, List.getElem_toArray, List.getElem_cons_zero, List.getElem_cons_succ, List.setIfInBounds_toArray, List.set_cons_zero, List.set_cons_succ]
    refine wpAnyL_one (i := 1) (by kernel_rfl) rfl (fun K hK => ?_)
    go_simp
    go_wp2_with fail
    refine HF3.out.loops.mono ?_
    rintro e w4 ⟨b4, v4, rfl, hd4⟩
    have cv4 : w4.cell? ⟨q2, 2, none⟩ = some vl := (b4.cell (p := ⟨q2, 2, none⟩) hql).trans cv
    have HD4 := Lib.hid (HD3.out.below b4)
    have HB4 := Lib.hid (bThen HB3.out b4)
    have HV4 := Lib.hid hd4
    have hql4 := Nat.lt_of_lt_of_le hql b4.size
    clear b4 hd4 cv hql HF3 HD3 HB3
    go_wp2_with fail
    refine hK.out _ _ (fun _ => cv4) ?_
    clear hK K
    refine wpAnyL_one (i := 6) (by kernel_rfl) rfl (fun K hK => ?_)
    go_simp
    go_wp2_with fail
    refine (sameLoops_ok w4 p q2 v4 vl _ HV4.out HD4.out HLL.out).mono ?_
    rintro e w5 ⟨rfl, b5⟩
    have HB5 := Lib.hid (bThen HB4.out b5)
    have cv5 : w5.cell? ⟨q2, 2, none⟩ = some vl := (b5.cell (p := ⟨q2, 2, none⟩) hql4).trans cv4
    clear b5 cv4 hql4 HD4 HB4
    skip
    go_wp2_with fail
    refine hK.out _ _ (fun _ => cv5) ?_
    clear hK K
    refine wpAnyL_one (i := 7) (by kernel_rfl) rfl (fun K hK => ?_)
    go_simp
    refine hK.out _ _ (fun h => absurd rfl h) ?_
    clear hK K
    refine wpAnyL_done (by kernel_rfl) ?_ _
    go_wp2
    go_ret
    exact ⟨rfl, HB5.out⟩
  by_cases k3 : k = 3
  · subst k3
    go_upto_region 7 with (fail)
    have cv : W.drew.cell? ⟨z, 1, none⟩ = some (.int .i64 a) ∧ W.drew.cell? ⟨z, 2, none⟩ = some (.int .i64 b) := ⟨HPW.out.cell 1, HPW.out.cell 2⟩
    have HF3 := Lib.hid (HF.out.below (bRefl W).drew)
    have HR3 := Lib.hid (HR.out.below (bRefl W).drew)
    have HB3 := Lib.hid (HBW.out.drew)
    refine wp_region_last 13 (fun w' => w'.cell? ⟨z, 1, none⟩ = some (.int .i64 a) ∧ w'.cell? ⟨z, 2, none⟩ = some (.int .i64 b)) mix ?_
    refine wpAnyL_take (i := 0) (v := .pointer (some ⟨p, 0, none⟩)) rfl (by kernel_rfl) (by kernel_rfl) (by kernel_rfl) (fun _ _ _ h => h) rfl (by kernel_rfl) (Or.inl ⟨by rfl, fun w' hw' => by (try go_split_ands); go_simp⟩) cv ?_
    simp only [Act.put, List.getElem_toArray, List.getElem_cons_zero, List.setIfInBounds_toArray, List.set_cons_zero, List.set_cons_succ]
    refine wpAnyL_take (i := 1) (v := .pointer (some ⟨z, 1, none⟩)) rfl (by kernel_rfl) (by kernel_rfl) (by kernel_rfl) (fun _ _ _ h => h) rfl (by kernel_rfl) (Or.inl ⟨by rfl, fun w' hw' => by (try go_split_ands); go_simp⟩) cv ?_
    simp only [Act.put, List.getElem_toArray, List.getElem_cons_zero, List.getElem_cons_succ, List.setIfInBounds_toArray, List.set_cons_zero, List.set_cons_succ]
    refine wpAnyL_take (i := 2) (v := .int .i64 a) rfl (by kernel_rfl) (by kernel_rfl) (by kernel_rfl) (fun _ _ _ h => h) rfl (by kernel_rfl) (Or.inl ⟨by rfl, fun w' hw' => by (try go_split_ands); go_simp⟩) cv ?_
    simp only [Act.put, List.getElem_toArray, List.getElem_cons_zero, List.getElem_cons_succ, List.setIfInBounds_toArray, List.set_cons_zero, List.set_cons_succ]
    refine wpAnyL_take (i := 3) (v := .pointer (some ⟨z, 2, none⟩)) rfl (by kernel_rfl) (by kernel_rfl) (by kernel_rfl) (fun _ _ _ h => h) rfl (by kernel_rfl) (Or.inl ⟨by rfl, fun w' hw' => by (try go_split_ands); go_simp⟩) cv ?_
    simp only [Act.put, List.getElem_toArray, List.getElem_cons_zero, List.getElem_cons_succ, List.setIfInBounds_toArray, List.set_cons_zero, List.set_cons_succ]
    refine wpAnyL_take (i := 4) (v := .int .i64 b) rfl (by kernel_rfl) (by kernel_rfl) (by kernel_rfl) (fun _ _ _ h => h) rfl (by kernel_rfl) (Or.inl ⟨by rfl, fun w' hw' => by (try go_split_ands); go_simp⟩) cv ?_
    simp only [Act.put, List.getElem_toArray, List.getElem_cons_zero, List.getElem_cons_succ, List.setIfInBounds_toArray, List.set_cons_zero, List.set_cons_succ]
    refine wpAnyL_take (i := 6) (v := .pointer (some ⟨q2, 0, none⟩)) rfl (by kernel_rfl) (by kernel_rfl) (by kernel_rfl) (fun _ _ _ h => h) rfl (by kernel_rfl) (Or.inl ⟨by rfl, fun w' hw' => by (try go_split_ands); go_simp⟩) cv ?_
    simp only [Act.put, List.getElem_toArray, List.getElem_cons_zero, List.getElem_cons_succ, List.setIfInBounds_toArray, List.set_cons_zero, List.set_cons_succ]
    refine wpAnyL_take (i := 7) (v := .pointer (some ⟨z, 1, none⟩)) rfl (by kernel_rfl) (by kernel_rfl) (by kernel_rfl) (fun _ _ _ h => h) rfl (by kernel_rfl) (Or.inl ⟨by rfl, fun w' hw' => by (try go_split_ands); go_simp⟩) cv ?_
    simp only [Act.put, List.getElem_toArray, List.getElem_cons_zero, List.getElem_cons_succ, List.setIfInBounds_toArray, List.set_cons_zero, List.set_cons_succ]
    refine wpAnyL_take (i := 8) (v := .int .i64 a) rfl (by kernel_rfl) (by kernel_rfl) (by kernel_rfl) (fun _ _ _ h => h) rfl (by kernel_rfl) (Or.inl ⟨by rfl, fun w' hw' => by (try go_split_ands); go_simp⟩) cv ?_
    simp only [Act.put, List.getElem_toArray, List.getElem_cons_zero, List.getElem_cons_succ, List.setIfInBounds_toArray, List.set_cons_zero, List.set_cons_succ]
    refine wpAnyL_take (i := 9) (v := .pointer (some ⟨z, 2, none⟩)) rfl (by kernel_rfl) (by kernel_rfl) (by kernel_rfl) (fun _ _ _ h => h) rfl (by kernel_rfl) (Or.inl ⟨by rfl, fun w' hw' => by (try go_split_ands); go_simp⟩) cv ?_
    simp only [Act.put, List.getElem_toArray, List.getElem_cons_zero, List.getElem_cons_succ, List.setIfInBounds_toArray, List.set_cons_zero, List.set_cons_succ]
    refine wpAnyL_take (i := 10) (v := .int .i64 b) rfl (by kernel_rfl) (by kernel_rfl) (by kernel_rfl) (fun _ _ _ h => h) rfl (by kernel_rfl) (Or.inl ⟨by rfl, fun w' hw' => by (try go_split_ands); go_simp⟩) cv ?_
    simp only [Act.put, List.getElem_toArray, List.getElem_cons_zero, List.getElem_cons_succ, List.setIfInBounds_toArray, List.set_cons_zero, List.set_cons_succ]
    refine wpAnyL_one (i := 5) (by kernel_rfl) rfl (fun K hK => ?_)
    go_simp
    go_wp2_with fail
    refine (HF3.out.dom a b).mono ?_
    rintro e w4 ⟨rfl, kk, rfl⟩
    have cv4 : (W.drew.drewN kk).cell? ⟨z, 1, none⟩ = some (.int .i64 a) ∧ (W.drew.drewN kk).cell? ⟨z, 2, none⟩ = some (.int .i64 b) := cv
    have HR4 := Lib.hid (HR3.out.below (bDrewN (bRefl _) kk))
    have HB4 := Lib.hid (bDrewN HB3.out kk)
    clear cv HF3 HR3 HB3
    generalize W.drew.drewN kk = w4 at cv4 HR4 HB4 ⊢
    go_wp2_with fail
    refine hK.out _ _ (fun _ => cv4) ?_
    clear hK K
    refine wpAnyL_one (i := 11) (by kernel_rfl) rfl (fun K hK => ?_)
    go_simp
    go_wp2_with fail
    refine (HR4.out.dom a b).mono ?_
    rintro e w5 ⟨b5, rfl⟩
    have cv5 : w5.cell? ⟨z, 1, none⟩ = some (.int .i64 a) ∧ w5.cell? ⟨z, 2, none⟩ = some (.int .i64 b) := ⟨(b5.cell (World.block_lt_of_cell? _ _ cv4.1)).trans cv4.1, (b5.cell (World.block_lt_of_cell? _ _ cv4.2)).trans cv4.2⟩
    have HB5 := Lib.hid (bThen HB4.out b5)
    clear b5 cv4 HR4 HB4
    generalize domB (nxt l) (nB l) a b = y
    go_wp2_with fail
    refine hK.out _ _ (fun _ => cv5) ?_
    clear hK K
    refine wpAnyL_one (i := 12) (by kernel_rfl) rfl (fun K hK => ?_)
    go_simp
    refine hK.out _ _ (fun _ => cv5) ?_
    clear hK K
    refine wpAnyL_one (i := 13) (by kernel_rfl) rfl (fun K hK => ?_)
    go_simp
    refine hK.out _ _ (fun h => absurd rfl h) ?_
    clear hK K
    refine wpAnyL_done (by kernel_rfl) ?_ _
    go_wp2
    go_ret
    exact ⟨rfl, HB5.out⟩
  by_cases k4 : k = 4
  · subst k4
    go_upto_region 9 with (fail)
    have cv : W.drew.cell? ⟨q2, 3, none⟩ = some vr := HB.out.cell 3
    have HF3 := Lib.hid (HF.out.below (bRefl W).drew)
    have HD3 := Lib.hid (HRO.out.below (bRefl W).drew)
    have HB3 := Lib.hid (HBW.out.drew)
    have hql : q2 < W.drew.heap.size := HB.out.lt
    refine wp_region_last 7 (fun w' => w'.cell? ⟨q2, 3, none⟩ = some vr) mix ?_
    refine wpAnyL_take (i := 0) (v := .pointer (some ⟨p, 0, none⟩)) rfl (by kernel_rfl) (by kernel_rfl) (by kernel_rfl) (fun _ _ _ h => h) rfl (by kernel_rfl) (Or.inl ⟨by rfl, fun w' hw' => by (try go_split_ands); go_simp⟩) cv ?_
    simp only [Act.put, List.getElem_toArray, List.getElem_cons_zero, List.setIfInBounds_toArray, List.set_cons_zero, List.set_cons_succ]
    refine wpAnyL_take (i := 2) (v := .pointer (some ⟨q2, 0, none⟩)) rfl (by kernel_rfl) (by kernel_rfl) (by kernel_rfl) (fun _ _ _ h => h) rfl (by kernel_rfl) (Or.inl ⟨by rfl, fun w' hw' => by (try go_split_ands); go_simp⟩) cv ?_
    simp only [Act.put, List.getElem_toArray, List.getElem_cons_zero, List.getElem_cons_succ, List.setIfInBounds_toArray, List.set_cons_zero, List.set_cons_succ]
    refine wpAnyL_take (i := 3) (v := .pointer (some ⟨q2, 0, none⟩)) rfl (by kernel_rfl) (by kernel_rfl) (by kernel_rfl) (fun _ _ _ h => h) rfl (by kernel_rfl) (Or.inl ⟨by rfl, fun w' hw' => by (try go_split_ands); go_simp⟩) cv ?_
    simp only [Act.put, List.getElem_toArray, List.getElem_cons_zero, List.getElem_cons_succ, List.setIfInBounds_toArray, List.set_cons_zero, List.set_cons_succ]
    refine wpAnyL_take (i := 4) (v := .pointer (some ⟨q2, 3, none⟩)) rfl (by kernel_rfl) (by kernel_rfl) (by kernel_rfl) (fun _ _ _ h => h) rfl (by kernel_rfl) (Or.inl ⟨by rfl, fun w' hw' => by (try go_split_ands); go_simp⟩) cv ?_
    simp only [Act.put, List.getElem_toArray, List.getElem_cons_zero, List.getElem_cons_succ, List.setIfInBounds_toArray, List.set_cons_zero, List.set_cons_succ]
    refine wpAnyL_take (i := 5) (v := vr) rfl (by kernel_rfl) (by kernel_rfl) (by kernel_rfl) (fun _ _ _ h => h) rfl (by kernel_rfl) (Or.inl ⟨by rfl, fun w' hw' => by (try go_split_ands); go_simp⟩) cv ?_
    simp only [Act.put, List.getElem_toArray, List.getElem_cons_zero, List.getElem_cons_succ, List.setIfInBounds_toArray, List.set_cons_zero, List.set_cons_succ]
    refine wpAnyL_one (i := 1) (by kernel_rfl) rfl (fun K hK => ?_)
    go_simp
    go_wp2_with fail
    refine HF3.out.order.mono ?_
    rintro e w4 ⟨b4, v4, rfl, hd4⟩
    have cv4 : w4.cell? ⟨q2, 3, none⟩ = some vr := (b4.cell (p := ⟨q2, 3, none⟩) hql).trans cv
    have HD4 := Lib.hid (HD3.out.below b4)
    have HB4 := Lib.hid (bThen HB3.out b4)
    have HV4 := Lib.hid hd4
    have hql4 := Nat.lt_of_lt_of_le hql b4.size
    clear b4 hd4 cv hql HF3 HD3 HB3
    go_wp2_with fail
    refine hK.out _ _ (fun _ => cv4) ?_
    clear hK K
    refine wpAnyL_one (i := 6) (by kernel_rfl) rfl (fun K hK => ?_)
    go_simp
    go_wp2_with fail
    refine (lawSameInts_ok w4 p q2 v4 vr _ _ HV4.out HD4.out).mono ?_
    rintro e w5 ⟨rfl, b5⟩
    have HB5 := Lib.hid (bThen HB4.out b5)
    have cv5 : w5.cell? ⟨q2, 3, none⟩ = some vr := (b5.cell (p := ⟨q2, 3, none⟩) hql4).trans cv4
    clear b5 cv4 hql4 HD4 HB4
    rw [decide_eq_true rfl]
    go_wp2_with fail
    refine hK.out _ _ (fun _ => cv5) ?_
    clear hK K
    refine wpAnyL_one (i := 7) (by kernel_rfl) rfl (fun K hK => ?_)
    go_simp
    refine hK.out _ _ (fun h => absurd rfl h) ?_
    clear hK K
    refine wpAnyL_done (by kernel_rfl) ?_ _
    go_wp2
    go_ret
    exact ⟨rfl, HB5.out⟩
  by_cases k5 : k = 5
  · subst k5
    go_upto_region 11 with (fail)
    have cv : W.drew.cell? ⟨z, 1, none⟩ = some (.int .i64 a) := HPW.out.cell 1
    have HF3 := Lib.hid (HF.out.below (bRefl W).drew)
    have HR3 := Lib.hid (HR.out.below (bRefl W).drew)
    have HB3 := Lib.hid (HBW.out.drew)
    refine wp_region_last 9 (fun w' => w'.cell? ⟨z, 1, none⟩ = some (.int .i64 a)) mix ?_
    refine wpAnyL_take (i := 0) (v := .pointer (some ⟨p, 0, none⟩)) rfl (by kernel_rfl) (by kernel_rfl) (by kernel_rfl) (fun _ _ _ h => h) rfl (by kernel_rfl) (Or.inl ⟨by rfl, fun w' hw' => by (try go_split_ands); go_simp⟩) cv ?_
    simp only [Act.put, List.getElem_toArray, List.getElem_cons_zero, List.setIfInBounds_toArray, List.set_cons_zero, List.set_cons_succ]
    refine wpAnyL_take (i := 1) (v := .pointer (some ⟨z, 1, none⟩)) rfl (by kernel_rfl) (by kernel_rfl) (by kernel_rfl) (fun _ _ _ h => h) rfl (by kernel_rfl) (Or.inl ⟨by rfl, fun w' hw' => by (try go_split_ands); go_simp⟩) cv ?_
    simp only [Act.put, List.getElem_toArray, List.getElem_cons_zero, List.getElem_cons_succ, List.setIfInBounds_toArray, List.set_cons_zero, List.set_cons_succ]
    refine wpAnyL_take (i := 2) (v := .int .i64 a) rfl (by kernel_rfl) (by kernel_rfl) (by kernel_rfl) (fun _ _ _ h => h) rfl (by kernel_rfl) (Or.inl ⟨by rfl, fun w' hw' => by (try go_split_ands); go_simp⟩) cv ?_
    simp only [Act.put, List.getElem_toArray, List.getElem_cons_zero, List.getElem_cons_succ, List.setIfInBounds_toArray, List.set_cons_zero, List.set_cons_succ]
    refine wpAnyL_take (i := 4) (v := .pointer (some ⟨q2, 0, none⟩)) rfl (by kernel_rfl) (by kernel_rfl) (by kernel_rfl) (fun _ _ _ h => h) rfl (by kernel_rfl) (Or.inl ⟨by rfl, fun w' hw' => by (try go_split_ands); go_simp⟩) cv ?_
    simp only [Act.put, List.getElem_toArray, List.getElem_cons_zero, List.getElem_cons_succ, List.setIfInBounds_toArray, List.set_cons_zero, List.set_cons_succ]
    refine wpAnyL_take (i := 5) (v := .pointer (some ⟨z, 1, none⟩)) rfl (by kernel_rfl) (by kernel_rfl) (by kernel_rfl) (fun _ _ _ h => h) rfl (by kernel_rfl) (Or.inl ⟨by rfl, fun w' hw' => by (try go_split_ands); go_simp⟩) cv ?_
    simp only [Act.put, List.getElem_toArray, List.getElem_cons_zero, List.getElem_cons_succ, List.setIfInBounds_toArray, List.set_cons_zero, List.set_cons_succ]
    refine wpAnyL_take (i := 6) (v := .int .i64 a) rfl (by kernel_rfl) (by kernel_rfl) (by kernel_rfl) (fun _ _ _ h => h) rfl (by kernel_rfl) (Or.inl ⟨by rfl, fun w' hw' => by (try go_split_ands); go_simp⟩) cv ?_
    simp only [Act.put, List.getElem_toArray, List.getElem_cons_zero, List.getElem_cons_succ, List.setIfInBounds_toArray, List.set_cons_zero, List.set_cons_succ]
    refine wpAnyL_one (i := 3) (by kernel_rfl) rfl (fun K hK => ?_)
    go_simp
    go_wp2_with fail
    refine (HF3.out.block a).mono ?_
    rintro e w4 ⟨rfl, rfl⟩
    go_wp2_with fail
    refine hK.out _ _ (fun _ => cv) ?_
    clear hK K
    refine wpAnyL_one (i := 7) (by kernel_rfl) rfl (fun K hK => ?_)
    go_simp
    go_wp2_with fail
    refine (HR3.out.block a).mono ?_
    rintro e w5 ⟨rfl, rfl⟩
    generalize blkOf (ofl l) a = y
    go_wp2_with fail
    refine hK.out _ _ (fun _ => cv) ?_
    clear hK K
    refine wpAnyL_one (i := 8) (by kernel_rfl) rfl (fun K hK => ?_)
    go_simp
    refine hK.out _ _ (fun _ => cv) ?_
    clear hK K
    refine wpAnyL_one (i := 9) (by kernel_rfl) rfl (fun K hK => ?_)
    go_simp
    refine hK.out _ _ (fun h => absurd rfl h) ?_
    clear hK K
    refine wpAnyL_done (by kernel_rfl) ?_ _
    go_wp2
    go_ret
    exact ⟨rfl, HB3.out⟩
  go_wp2
  go_ret
  exact ⟨rfl, HBW.out⟩

section
variable {H : Type} {enc : TypeId × Value → H} {w : World} {base : Nat} {held : Bool}
theorem trod_op {fuel : Nat} {cs : List Value} {x : DataW H × List MemPlace} (h : DataW.trod enc Try.prog w base (fun _ => true) held fuel 47 cs = some x) :
    ∃ y : Qn, cs = tO.f y := by
  obtain ⟨xs, m, _, _, hl, hxl, hx⟩ := DataW.trod_struct Try.underlying47 h
  have hc : Try.prog.cellsOf 47 = 4 := by kernel_rfl
  have hc1 : Try.prog.cellsOf 3 = 1 := by kernel_rfl
  have hcb : Try.prog.cellsOf 4 = 1 := by kernel_rfl
  rw [hc] at hl
  have gi : ∀ i, i < 4 → ∃ y, xs[i]? = some y := fun i hi => ⟨_, List.getElem?_eq_getElem (by rw [hxl]; exact hi)⟩
  match cs, hl with
  | [c0, c1, c2, c3], _ =>
    have hI : ∀ i, i < 4 → ∀ c, DataW.trod enc Try.prog w base (fun _ => true) held m 3 [c] = xs[i]? → ∃ y : Int, c = .int .i64 y := fun i hi c hh => by
      obtain ⟨y, hy⟩ := gi i hi
      rw [hy] at hh
      obtain ⟨p, e, _, _⟩ := DataW.trod_int Try.underlying3 hh
      simp only [List.cons.injEq, and_true] at e
      exact ⟨p, e⟩
    have hB : ∀ i, i < 4 → ∀ c, DataW.trod enc Try.prog w base (fun _ => true) held m 4 [c] = xs[i]? → ∃ y : Bool, c = .bool y := fun i hi c hh => by
      obtain ⟨y, hy⟩ := gi i hi
      rw [hy] at hh
      obtain ⟨p, e, _⟩ := DataW.trod_bool Try.underlying4 hh
      simp only [List.cons.injEq, and_true] at e
      exact ⟨p, e⟩
    have h0 : DataW.trod enc Try.prog w base (fun _ => true) held m 3 (([c0, c1, c2, c3].drop 0).take (Try.prog.cellsOf 3)) = xs[0]? := hx 0 _ rfl
    have h1 : DataW.trod enc Try.prog w base (fun _ => true) held m 3 (([c0, c1, c2, c3].drop 1).take (Try.prog.cellsOf 3)) = xs[1]? := hx 1 _ rfl
    have h2 : DataW.trod enc Try.prog w base (fun _ => true) held m 3 (([c0, c1, c2, c3].drop 2).take (Try.prog.cellsOf 3)) = xs[2]? := hx 2 _ rfl
    have h3 : DataW.trod enc Try.prog w base (fun _ => true) held m 4 (([c0, c1, c2, c3].drop 3).take (Try.prog.cellsOf 4)) = xs[3]? := hx 3 _ rfl
    rw [hc1] at h0 h1 h2
    rw [hcb] at h3
    obtain ⟨y0, rfl⟩ := hI 0 (by omega) _ h0
    obtain ⟨y1, rfl⟩ := hI 1 (by omega) _ h1
    obtain ⟨y2, rfl⟩ := hI 2 (by omega) _ h2
    obtain ⟨y3, rfl⟩ := hB 3 (by omega) _ h3
    exact ⟨⟨y0, y1, y2, y3⟩, rfl⟩
theorem open_ops {a0 : Option Addr} {len cap : Nat} {fuel : Nat} {x : DataW H × List MemPlace} (h : DataW.trod enc Try.prog w base (fun _ => true) held fuel 45 [.slice a0 len cap] = some x) :
    ∃ l : List Qn, SlX tO w.heap.size w (.slice a0 len cap) l := by
  rcases open_slice Try.underlying45 h with ⟨hcs, _⟩ | ⟨a, len', cap', m, n, D, Pl, hcs, _, hl, hm, hmm, hx, hel⟩
  · simp only [List.cons.injEq, Value.slice.injEq, and_true] at hcs
    obtain ⟨rfl, rfl, rfl⟩ := hcs
    exact ⟨[], SlX.nil _ _⟩
  · simp only [List.cons.injEq, Value.slice.injEq, and_true] at hcs
    obtain ⟨rfl, rfl, rfl⟩ := hcs
    have hmc : m = cap := by simpa using hmm
    have hc8 : Try.prog.cellsOf 47 = 4 := by kernel_rfl
    have hex : ∀ i, i < len → ∃ y : Qn, w.cells? base (a.add (i * 4)) 4 = some (tO.f y) := fun i hi => by
      obtain ⟨cs', h1, h2⟩ := hel i (by omega)
      obtain ⟨y, rfl⟩ := trod_op h2
      rw [hc8] at h1
      exact ⟨y, h1⟩
    obtain ⟨f, hf⟩ := choose_lt hex
    have hlen : ((List.range len).map f).length = len := by simp
    refine ⟨(List.range len).map f, some a, cap, by rw [hlen], by rw [hlen]; simpa using hl, by omega, fun k x hx => ?_⟩
    have hk : k < len := by have := (List.getElem?_eq_some_iff.1 hx).1; simpa using this
    rw [List.getElem?_map, List.getElem?_range hk] at hx
    simp only [Option.map_some, Option.some.injEq] at hx
    subst hx
    have hsp : a.spot = none := by
      obtain ⟨_, _, hh⟩ := World.cells?_some (hf 0 (by omega))
      have h0 : w.cell? (a.add (0 * 4)) = some (.int .i64 (f 0).k) := by
        have h0 := hh 0 (by omega)
        rw [show (tO.f (f 0))[0]? = some (.int .i64 (f 0).k) from rfl] at h0
        simpa [Addr.add] using h0
      have := World.cell?_spot h0
      simpa [Addr.add] using this
    have ea := addr_lit hsp
    have hr := hf k hk
    rw [ea, Addr.add_lit] at hr
    have hr2 := cells_range hr rfl
    have hlt := World.block_lt_of_cell? w ⟨a.block, _, none⟩ (hr2 0 _ rfl)
    exact ⟨a.block, a.off, by rw [← ea], by have : a.block < w.heap.size := hlt; omega, hlt, hr2⟩
end
/-- Two flows' pointers, or nil. -/
def pf (o : Option (Nat × Nat)) : Value := .pointer (o.map fun x => ⟨x.1, 0, none⟩)
def pg (o : Option (Nat × Nat)) : Value := .pointer (o.map fun x => ⟨x.2, 0, none⟩)
def FG (l : List In) (o : Option (Nat × Nat)) (w : World) : Prop := ∀ p q, o = some (p, q) → FinP l p w ∧ RFinP l q w
theorem FG.below {l : List In} {o : Option (Nat × Nat)} {w w' : World} (h : FG l o w) (b : Below w.heap.size w w') : FG l o w' := fun p q e => ⟨(h p q e).1.below b, (h p q e).2.below b⟩
theorem MadeP.one {l : List In} {w w' : World} {e : Ending} (h : MadeP l w e w') : Below w.heap.size w w' ∧ ∃ o, e = .returned (.tuple #[pf o, pg o, .bool true]) ∧ FG l o w' := by
  obtain ⟨b, rfl | ⟨p, q, rfl, _, _, h1, h2⟩⟩ := h
  · exact ⟨b, none, rfl, fun _ _ e => by cases e⟩
  · exact ⟨b, some (p, q), rfl, fun p' q' e => by
      injection e with e
      injection e with e1 e2
      subst e1 e2
      exact ⟨h1, h2⟩⟩
theorem flowplays_ok (w : World) (q : Nat) (v : Value) (l : List In) (h : SlX tN q w v l) (hl : l.length ≤ 1099511627776) (q' : Nat) (v' : Value) (l' : List In) (h' : SlX tN q' w v' l') (hl' : l'.length ≤ 1099511627776) (r : Nat) (u : Value) (sc : List Qn) (hs : SlX tO r w u sc) :
    Calls Try.prog 9 #[v, v', u] w fun e w' => e = .returned (.bool true) ∧ Below w.heap.size w w' := by
  obtain ⟨a0, cap, rfl, _, _⟩ := h.form
  obtain ⟨a1, cap1, rfl, _, _⟩ := h'.form
  obtain ⟨a2, cap2, rfl, hs1, hs2⟩ := hs.form
  have H := Lib.hid h
  have H' := Lib.hid h'
  have HS := Lib.hid hs
  unfold maxLen at hs2
  clear h h' hs
  go_enter Try.func9, Try.ntmps9
  go_wp2_with fail
  refine (made_ok w q _ l H.out hl).mono ?_
  rintro e w1 hM
  obtain ⟨b1, o1, rfl, hfg1⟩ := hM.one
  have HB1 := Lib.hid b1
  have HF1 := Lib.hid hfg1
  clear b1 hfg1 hM
  go_wp2_with fail
  refine (made_ok w1 q' _ l' (H'.out.below HB1.out) hl').mono ?_
  rintro e w2 hM
  obtain ⟨b2, o2, rfl, hfg2⟩ := hM.one
  have HB2 := Lib.hid (bThen HB1.out b2)
  have HF1' := Lib.hid (HF1.out.below b2)
  have HF2 := Lib.hid hfg2
  clear b2 hfg2 hM HF1 HB1
  go_wp2_with fail
  refine (known_ok _).mono ?_
  rintro e w3 ⟨rfl, b3⟩
  have HB3 := Lib.hid (bThen HB2.out b3)
  have HG1 := Lib.hid (HF1'.out.below b3)
  have HG2 := Lib.hid (HF2.out.below b3)
  clear b3 HF1' HF2 HB2
  rcases o1 with _ | ⟨p1, r1⟩ <;> rcases o2 with _ | ⟨p2, r2⟩
  · simp only [pf, pg, Option.map_none]
    go_wp2
    go_loopw [13, 14] (fun t _ wr => ∃ k : Nat, k ≤ sc.length ∧ t = .int .i64 (k : Int) ∧ Hid (Below w3.heap.size w3 wr)) (fun t _ _ => sc.length - (intOf t).toNat)
    case atStart => exact ⟨0, by omega, rfl, bRefl w3⟩
    case round =>
      obtain ⟨k, hk, rfl, hb⟩ := hrel
      by_cases hlt : k < sc.length
      · have hlt' : (k : Int) < (sc.length : Int) := by omega
        have hk0 : (0 : Int) ≤ (k : Int) := by omega
        obtain ⟨x, hx⟩ : ∃ y, sc[k]? = some y := ⟨_, List.getElem?_eq_getElem hlt⟩
        obtain ⟨xk, xa, xb, xs⟩ := x
        obtain ⟨b, o, rfl, _, hat⟩ := (HS.out.below (HB3.out.trans (hb.out.mono HB3.out.size))).get hx
        have c0 := hat.cell 0 _ rfl
        have c1 := hat.cell 1 _ rfl
        have c2 := hat.cell 2 _ rfl
        have c3 := hat.cell 3 _ rfl
        have e4 : tO.n = 4 := rfl
        rw [e4] at c0 c1 c2 c3
        rw [Nat.add_zero] at c0
        clear hat hx e4
        go_upto_region 9 with (fail)
        simp only at c0 c1 c2 c3
        generalize hW : wr.alloc (.cells #[.int .i64 xk, .int .i64 xa, .int .i64 xb, .bool xs] 47) = W
        obtain ⟨z, hz⟩ : ∃ z, z = wr.heap.size := ⟨_, rfl⟩
        rw [← hz]
        have HBW := Lib.hid (show Below w3.heap.size w3 W by rw [← hW]; exact bAl hb.out _)
        have pW : Blk W z 47 #[.int .i64 xk, .int .i64 xa, .int .i64 xb, .bool xs] := by rw [← hW, hz]; exact Blk.new _ _ _
        have d0 := pW.cell 0
        have d1 := pW.cell 1
        have d2 := pW.cell 2
        have d3 := pW.cell 3
        have HPW := Lib.hid pW
        simp only [List.getElem?_toArray, List.getElem?_cons_zero, List.getElem?_cons_succ] at d0 d1 d2 d3
        clear hW hz hb pW c0 c1 c2 c3
        cases xs with
        | true =>
          have HB9 := HBW
          go_wp2
          go_roundw
          all_goals first
            | exact ⟨k + 1, by omega, by go_num, HB9.out⟩
            | ((repeat apply Exists.intro); exact ⟨⟨k + 1, by omega, by go_num, HB9.out⟩, rfl⟩)
            | (simp [intOf] <;> omega)
        | false =>
          have HB9 := HBW
          go_wp2
          go_roundw
          all_goals first
            | exact ⟨k + 1, by omega, by go_num, HB9.out⟩
            | ((repeat apply Exists.intro); exact ⟨⟨k + 1, by omega, by go_num, HB9.out⟩, rfl⟩)
            | (simp [intOf] <;> omega)
      · obtain rfl : k = sc.length := by omega
        go_wp2
        go_ret
        exact ⟨rfl, HB3.out.trans (hb.out.mono HB3.out.size)⟩
  · simp only [pf, pg, Option.map_none, Option.map_some]
    go_wp2
    go_loopw [13, 14] (fun t _ wr => ∃ k : Nat, k ≤ sc.length ∧ t = .int .i64 (k : Int) ∧ Hid (Below w3.heap.size w3 wr)) (fun t _ _ => sc.length - (intOf t).toNat)
    case atStart => exact ⟨0, by omega, rfl, bRefl w3⟩
    case round =>
      obtain ⟨k, hk, rfl, hb⟩ := hrel
      by_cases hlt : k < sc.length
      · have hlt' : (k : Int) < (sc.length : Int) := by omega
        have hk0 : (0 : Int) ≤ (k : Int) := by omega
        obtain ⟨x, hx⟩ : ∃ y, sc[k]? = some y := ⟨_, List.getElem?_eq_getElem hlt⟩
        obtain ⟨xk, xa, xb, xs⟩ := x
        obtain ⟨b, o, rfl, _, hat⟩ := (HS.out.below (HB3.out.trans (hb.out.mono HB3.out.size))).get hx
        have c0 := hat.cell 0 _ rfl
        have c1 := hat.cell 1 _ rfl
        have c2 := hat.cell 2 _ rfl
        have c3 := hat.cell 3 _ rfl
        have e4 : tO.n = 4 := rfl
        rw [e4] at c0 c1 c2 c3
        rw [Nat.add_zero] at c0
        clear hat hx e4
        go_upto_region 9 with (fail)
        simp only at c0 c1 c2 c3
        generalize hW : wr.alloc (.cells #[.int .i64 xk, .int .i64 xa, .int .i64 xb, .bool xs] 47) = W
        obtain ⟨z, hz⟩ : ∃ z, z = wr.heap.size := ⟨_, rfl⟩
        rw [← hz]
        have HBW := Lib.hid (show Below w3.heap.size w3 W by rw [← hW]; exact bAl hb.out _)
        have pW : Blk W z 47 #[.int .i64 xk, .int .i64 xa, .int .i64 xb, .bool xs] := by rw [← hW, hz]; exact Blk.new _ _ _
        have d0 := pW.cell 0
        have d1 := pW.cell 1
        have d2 := pW.cell 2
        have d3 := pW.cell 3
        have HPW := Lib.hid pW
        simp only [List.getElem?_toArray, List.getElem?_cons_zero, List.getElem?_cons_succ] at d0 d1 d2 d3
        clear hW hz hb pW c0 c1 c2 c3
        cases xs with
        | true =>
          have hfr := HG2.out p2 r2 rfl
          have HC := Lib.hid (plays_ok W p2 r2 l' (hfr.1.below HBW.out) (hfr.2.below HBW.out) xk xa xb true)
          clear hfr
          go_wp2_with fail
          refine HC.out.mono ?_
          rintro e w9 ⟨rfl, b9⟩
          have HB9 := Lib.hid (bThen HBW.out b9)
          have e3 := (HPW.out.below b9 HPW.out.lt).cell 3
          simp only [List.getElem?_toArray, List.getElem?_cons_zero, List.getElem?_cons_succ] at e3
          clear b9 d0 d1 d2 d3
          go_wp2
          go_roundw
          all_goals first
            | exact ⟨k + 1, by omega, by go_num, HB9.out⟩
            | ((repeat apply Exists.intro); exact ⟨⟨k + 1, by omega, by go_num, HB9.out⟩, rfl⟩)
            | (simp [intOf] <;> omega)
        | false =>
          have HB9 := HBW
          go_wp2
          go_roundw
          all_goals first
            | exact ⟨k + 1, by omega, by go_num, HB9.out⟩
            | ((repeat apply Exists.intro); exact ⟨⟨k + 1, by omega, by go_num, HB9.out⟩, rfl⟩)
            | (simp [intOf] <;> omega)
      · obtain rfl : k = sc.length := by omega
        go_wp2
        go_ret
        exact ⟨rfl, HB3.out.trans (hb.out.mono HB3.out.size)⟩
  · simp only [pf, pg, Option.map_none, Option.map_some]
    go_wp2
    go_loopw [13, 14] (fun t _ wr => ∃ k : Nat, k ≤ sc.length ∧ t = .int .i64 (k : Int) ∧ Hid (Below w3.heap.size w3 wr)) (fun t _ _ => sc.length - (intOf t).toNat)
    case atStart => exact ⟨0, by omega, rfl, bRefl w3⟩
    case round =>
      obtain ⟨k, hk, rfl, hb⟩ := hrel
      by_cases hlt : k < sc.length
      · have hlt' : (k : Int) < (sc.length : Int) := by omega
        have hk0 : (0 : Int) ≤ (k : Int) := by omega
        obtain ⟨x, hx⟩ : ∃ y, sc[k]? = some y := ⟨_, List.getElem?_eq_getElem hlt⟩
        obtain ⟨xk, xa, xb, xs⟩ := x
        obtain ⟨b, o, rfl, _, hat⟩ := (HS.out.below (HB3.out.trans (hb.out.mono HB3.out.size))).get hx
        have c0 := hat.cell 0 _ rfl
        have c1 := hat.cell 1 _ rfl
        have c2 := hat.cell 2 _ rfl
        have c3 := hat.cell 3 _ rfl
        have e4 : tO.n = 4 := rfl
        rw [e4] at c0 c1 c2 c3
        rw [Nat.add_zero] at c0
        clear hat hx e4
        go_upto_region 9 with (fail)
        simp only at c0 c1 c2 c3
        generalize hW : wr.alloc (.cells #[.int .i64 xk, .int .i64 xa, .int .i64 xb, .bool xs] 47) = W
        obtain ⟨z, hz⟩ : ∃ z, z = wr.heap.size := ⟨_, rfl⟩
        rw [← hz]
        have HBW := Lib.hid (show Below w3.heap.size w3 W by rw [← hW]; exact bAl hb.out _)
        have pW : Blk W z 47 #[.int .i64 xk, .int .i64 xa, .int .i64 xb, .bool xs] := by rw [← hW, hz]; exact Blk.new _ _ _
        have d0 := pW.cell 0
        have d1 := pW.cell 1
        have d2 := pW.cell 2
        have d3 := pW.cell 3
        have HPW := Lib.hid pW
        simp only [List.getElem?_toArray, List.getElem?_cons_zero, List.getElem?_cons_succ] at d0 d1 d2 d3
        clear hW hz hb pW c0 c1 c2 c3
        cases xs with
        | true =>
          have HB9 := HBW
          go_wp2
          go_roundw
          all_goals first
            | exact ⟨k + 1, by omega, by go_num, HB9.out⟩
            | ((repeat apply Exists.intro); exact ⟨⟨k + 1, by omega, by go_num, HB9.out⟩, rfl⟩)
            | (simp [intOf] <;> omega)
        | false =>
          have hfr := HG1.out p1 r1 rfl
          have HC := Lib.hid (plays_ok W p1 r1 l (hfr.1.below HBW.out) (hfr.2.below HBW.out) xk xa xb false)
          clear hfr
          go_wp2_with fail
          refine HC.out.mono ?_
          rintro e w9 ⟨rfl, b9⟩
          have HB9 := Lib.hid (bThen HBW.out b9)
          clear b9 d0 d1 d2 d3
          go_wp2
          go_roundw
          all_goals first
            | exact ⟨k + 1, by omega, by go_num, HB9.out⟩
            | ((repeat apply Exists.intro); exact ⟨⟨k + 1, by omega, by go_num, HB9.out⟩, rfl⟩)
            | (simp [intOf] <;> omega)
      · obtain rfl : k = sc.length := by omega
        go_wp2
        go_ret
        exact ⟨rfl, HB3.out.trans (hb.out.mono HB3.out.size)⟩
  · simp only [pf, pg, Option.map_some]
    go_wp2
    go_loopw [13, 14] (fun t _ wr => ∃ k : Nat, k ≤ sc.length ∧ t = .int .i64 (k : Int) ∧ Hid (Below w3.heap.size w3 wr)) (fun t _ _ => sc.length - (intOf t).toNat)
    case atStart => exact ⟨0, by omega, rfl, bRefl w3⟩
    case round =>
      obtain ⟨k, hk, rfl, hb⟩ := hrel
      by_cases hlt : k < sc.length
      · have hlt' : (k : Int) < (sc.length : Int) := by omega
        have hk0 : (0 : Int) ≤ (k : Int) := by omega
        obtain ⟨x, hx⟩ : ∃ y, sc[k]? = some y := ⟨_, List.getElem?_eq_getElem hlt⟩
        obtain ⟨xk, xa, xb, xs⟩ := x
        obtain ⟨b, o, rfl, _, hat⟩ := (HS.out.below (HB3.out.trans (hb.out.mono HB3.out.size))).get hx
        have c0 := hat.cell 0 _ rfl
        have c1 := hat.cell 1 _ rfl
        have c2 := hat.cell 2 _ rfl
        have c3 := hat.cell 3 _ rfl
        have e4 : tO.n = 4 := rfl
        rw [e4] at c0 c1 c2 c3
        rw [Nat.add_zero] at c0
        clear hat hx e4
        go_upto_region 9 with (fail)
        simp only at c0 c1 c2 c3
        generalize hW : wr.alloc (.cells #[.int .i64 xk, .int .i64 xa, .int .i64 xb, .bool xs] 47) = W
        obtain ⟨z, hz⟩ : ∃ z, z = wr.heap.size := ⟨_, rfl⟩
        rw [← hz]
        have HBW := Lib.hid (show Below w3.heap.size w3 W by rw [← hW]; exact bAl hb.out _)
        have pW : Blk W z 47 #[.int .i64 xk, .int .i64 xa, .int .i64 xb, .bool xs] := by rw [← hW, hz]; exact Blk.new _ _ _
        have d0 := pW.cell 0
        have d1 := pW.cell 1
        have d2 := pW.cell 2
        have d3 := pW.cell 3
        have HPW := Lib.hid pW
        simp only [List.getElem?_toArray, List.getElem?_cons_zero, List.getElem?_cons_succ] at d0 d1 d2 d3
        clear hW hz hb pW c0 c1 c2 c3
        cases xs with
        | true =>
          have hfr := HG2.out p2 r2 rfl
          have HC := Lib.hid (plays_ok W p2 r2 l' (hfr.1.below HBW.out) (hfr.2.below HBW.out) xk xa xb true)
          clear hfr
          go_wp2_with fail
          refine HC.out.mono ?_
          rintro e w9 ⟨rfl, b9⟩
          have HB9 := Lib.hid (bThen HBW.out b9)
          have e3 := (HPW.out.below b9 HPW.out.lt).cell 3
          simp only [List.getElem?_toArray, List.getElem?_cons_zero, List.getElem?_cons_succ] at e3
          clear b9 d0 d1 d2 d3
          go_wp2
          go_roundw
          all_goals first
            | exact ⟨k + 1, by omega, by go_num, HB9.out⟩
            | ((repeat apply Exists.intro); exact ⟨⟨k + 1, by omega, by go_num, HB9.out⟩, rfl⟩)
            | (simp [intOf] <;> omega)
        | false =>
          have hfr := HG1.out p1 r1 rfl
          have HC := Lib.hid (plays_ok W p1 r1 l (hfr.1.below HBW.out) (hfr.2.below HBW.out) xk xa xb false)
          clear hfr
          go_wp2_with fail
          refine HC.out.mono ?_
          rintro e w9 ⟨rfl, b9⟩
          have HB9 := Lib.hid (bThen HBW.out b9)
          clear b9 d0 d1 d2 d3
          go_wp2
          go_roundw
          all_goals first
            | exact ⟨k + 1, by omega, by go_num, HB9.out⟩
            | ((repeat apply Exists.intro); exact ⟨⟨k + 1, by omega, by go_num, HB9.out⟩, rfl⟩)
            | (simp [intOf] <;> omega)
      · obtain rfl : k = sc.length := by omega
        go_wp2
        go_ret
        exact ⟨rfl, HB3.out.trans (hb.out.mono HB3.out.size)⟩
end Go.Proofs.Ytlhehphikkgobaa
