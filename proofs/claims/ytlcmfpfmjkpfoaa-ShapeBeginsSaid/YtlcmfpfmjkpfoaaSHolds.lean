/- Holds of shape, of a run's beginning: true; nothing that was there is turned. -/
import Derived.Test.YtlcmfpfmjkpfoaaSHoldsP
import Derived.Laws.CopyOwn
namespace Go.Proofs.Ytlcmfpfmjkpfoaa
open Go Go.RowKit Go.Wr
set_option maxHeartbeats 4000000
set_option maxRecDepth 100000

theorem row60 : #[.int .i64 0, .int .i64 0, .int .i64 0, .int .i64 0, .int .i64 0, .int .i64 0, .int .i64 0, .int .i64 0, .int .i64 0, .int .i64 0, .int .i64 0, .int .i64 0, .int .i64 0, .int .i64 0, .int .i64 0, .int .i64 0, .int .i64 0, .int .i64 0, .int .i64 0, .int .i64 0, .int .i64 0, .int .i64 0, .int .i64 0, .int .i64 0, .int .i64 0, .int .i64 0, .int .i64 0, .int .i64 0, .int .i64 0, .int .i64 0, .int .i64 0, .int .i64 0, .int .i64 0, .int .i64 0, .int .i64 0, .int .i64 0, .int .i64 0, .int .i64 0, .int .i64 0, .int .i64 0, .int .i64 0, .int .i64 0, .int .i64 0, .int .i64 0, .int .i64 0, .int .i64 0, .int .i64 0, .int .i64 0, .int .i64 0, .int .i64 0, .int .i64 0, .int .i64 0, .int .i64 0, .int .i64 0, .int .i64 0, .int .i64 0, .int .i64 0, .int .i64 0, .int .i64 0, .int .i64 0] = fc 60 (fun _ => Value.int .i64 0) := by rfl
theorem sizeInt : (Try.prog.info? 3).map (·.size) = some 1 := by kernel_rfl
/-- The numbers in cells, before any register is read. -/
theorem aB_first (n : Int) (G : Nat → Int) : (splice ((fc 60 fun _ => Value.int .i64 0).setIfInBounds 1 (.int .i64 n)).toList 44 (fc 16 fun i => Value.int .i64 (G i)).toList).toArray = fc 60 (fun q => .int .i64 (aB n G 0 q)) := by
  rw [fc_set]
  apply Array.ext_getElem?
  intro i
  unfold splice
  have l1 : (fc 60 fun i => if i = 1 then Value.int .i64 n else .int .i64 0).toList.length = 60 := by simp [fc_size]
  have l2 : (fc 16 fun i => Value.int .i64 (G i)).toList.length = 16 := by simp [fc_size]
  simp only [List.getElem?_toArray]
  by_cases h1 : i < 44
  · rw [List.getElem?_append_left (by rw [List.length_take]; omega), List.getElem?_take, if_pos h1, Array.getElem?_toList, fc_get 60 _ (by omega), fc_get 60 _ (by omega)]
    unfold aB
    by_cases e : i = 1
    · rw [if_pos e, if_pos e]
    · rw [if_neg e, if_neg e, if_neg (show ¬ 3 ≤ 0 by omega), if_neg (show ¬ 44 ≤ i by omega)]
      split <;> rfl
  · rw [List.getElem?_append_right (by rw [List.length_take]; omega), List.length_take, l1, show min 44 60 = 44 from rfl]
    by_cases h2 : i < 60
    · rw [List.getElem?_append_left (by omega), Array.getElem?_toList, fc_get 16 _ (by omega), fc_get 60 _ h2]
      unfold aB
      rw [if_neg (by omega), if_neg (by omega), if_pos (by omega)]
    · rw [List.getElem?_append_right (by omega), l2, List.drop_of_length_le (by omega), fc_none 60 _ (by omega)]
      rfl
theorem aB_step (n : Int) (G : Nat → Int) {k : Nat} (_h : k < 10) {x : Int} (hx : x = if k = 2 then n else 0) : (fc 60 (fun q => Value.int .i64 (aB n G k q))).setIfInBounds (2 + k) (.int .i64 x) = fc 60 (fun q => .int .i64 (aB n G (k + 1) q)) := by
  rw [fc_set]
  refine fc_congr fun i hi => ?_
  unfold aB
  by_cases e : i = 2 + k
  · subst e hx
    rw [if_pos rfl, if_neg (show ¬ 2 + k = 1 by omega)]
    by_cases e2 : k = 2
    · subst e2; rfl
    · rw [if_neg e2, if_neg (by omega), if_neg (by omega)]
  · rw [if_neg e]
    by_cases e1 : i = 1
    · rw [if_pos e1, if_pos e1]
    · rw [if_neg e1, if_neg e1]
      by_cases e4 : i = 4
      · rw [if_pos e4, if_pos e4]
        by_cases h3 : 3 ≤ k
        · rw [if_pos h3, if_pos (by omega)]
        · rw [if_neg h3, if_neg (by omega)]
      · rw [if_neg e4, if_neg e4]
theorem aB_same (n : Int) (G : Nat → Int) {k : Nat} (h : k < 32) : (fc 60 (fun q => Value.int .i64 (aB n G 10 q))).setIfInBounds (12 + k) (.int .i64 0) = fc 60 (fun q => .int .i64 (aB n G 10 q)) := by
  rw [fc_set]
  refine fc_congr fun i hi => ?_
  by_cases e : i = 12 + k
  · subst e
    rw [if_pos rfl]
    unfold aB
    rw [if_neg (by omega), if_neg (by omega), if_neg (by omega)]
  · rw [if_neg e]

theorem bRefl' (B : Nat) (w : World) : Below B w w := Below.refl _ _

theorem holds_any (w : World) (b : Nat) (lo hi : Int) (nn : Nat) (h0 : 0 ≤ lo) (h1 : lo ≤ nn) (h2 : (nn : Int) ≤ hi) (h3 : hi ≤ 65535) (sh : ShAt w b fS false ⟨false, mS lo hi⟩) (ac : Option Addr) (cp : Nat) (g : Nat) (G : Nat → Int) (hg : Blk w g 3 (fc 16 fun i => .int .i64 (G i))) :
    Calls Try.prog 15 #[.pointer (some ⟨b, 0, none⟩), .agg (fc 466 (stB nn (.slice ac nn cp))), .slice (some ⟨g, 0, none⟩) 16 16] w fun e w' => e = .returned (.bool true) ∧ Below w.heap.size w w' := by
  obtain ⟨p, hb, hz⟩ := sh
  have HB := Lib.hid hb
  have HZ := Lib.hid hz
  have HG := Lib.hid hg
  have hbl := hb.lt
  have hgl := hg.lt
  obtain ⟨F, HF⟩ : ∃ F, Hid (F = stB nn (.slice ac nn cp)) := ⟨_, rfl⟩
  rw [← HF.out]
  clear hb hz hg
  go_enter Try.func15, Try.ntmps15
  go_upto_region 1 with (fail)
  generalize hW : (w.alloc (.cells (fc 466 F) 66)) = W
  have tW : Below w.heap.size w W := by rw [← hW]; exact bAl (bRefl w) _
  have SW : Blk W w.heap.size 66 (fc 466 F) := by rw [← hW]; exact Blk.new _ _ _
  have hsz : W.heap.size = w.heap.size + 1 := by rw [← hW]; simp
  have BW := Lib.hid (HB.out.below tW hbl)
  have GW := Lib.hid (HG.out.below tW hgl)
  have SH := Lib.hid SW
  have e127 := (BW.out.cell 127).trans (bx_last _ _ _)
  have hbl2 := BW.out.lt
  have HSZ := Lib.hid hsz
  clear hW SW hsz
  go_upto_region 4 with (fail)
  rw [row60]
  generalize hV : (W.alloc (.cells (fc 60 fun _ => .int .i64 0) 76)) = V
  have tV : Below w.heap.size w V := by rw [← hV]; exact bAl tW _
  have AV : Blk V W.heap.size 76 (fc 60 fun _ => .int .i64 0) := by rw [← hV]; exact Blk.new _ _ _
  have SV : Blk V w.heap.size 66 (fc 466 F) := by rw [← hV]; exact SH.out.alloc _
  have GV : Blk V g 3 (fc 16 fun i => .int .i64 (G i)) := by rw [← hV]; exact GW.out.alloc _
  obtain ⟨A, hA⟩ : ∃ A, A = W.heap.size := ⟨_, rfl⟩
  have hA1 : A = w.heap.size + 1 := by rw [hA, HSZ.out]
  rw [← hA] at AV ⊢
  have HA1 := Lib.hid hA1
  have c1 := (AV.cell 1).trans (fc_get 60 _ (by omega))
  have f1 := AV.frozen 1
  have c460 : V.cell? ⟨w.heap.size, 460, none⟩ = some (.slice ac nn cp) := (SV.cell 460).trans ((fc_get 466 F (by omega)).trans (by rw [HF.out]; rfl))
  have hAl := AV.lt
  have hSl := SV.lt
  have AH := Lib.hid AV
  have SH2 := Lib.hid SV
  have GH := Lib.hid GV
  clear hV hA hA1 AV SV GV tW e127 hbl2 BW GW SH HSZ
  go_upto_region 5 with (fail)
  have hcs : ∀ j v, (fc 16 fun i => Value.int .i64 (G i)).toList[j]? = some v → (V.setCell ⟨A, 1, none⟩ (.int .i64 nn)).cell? ((⟨g, 0, none⟩ : Addr).add j) = some v := fun j v hv => by
    rw [Array.getElem?_toList] at hv
    rw [Addr.add_lit, Nat.zero_add]
    have hne : g ≠ A := by have := HA1.out; omega
    exact ((GH.out.set_other A 1 (.int .i64 nn) hne).cell j).trans hv
  have HCS := Lib.hid hcs
  have hA' : A = w.heap.size + 1 := HA1.out
  have hbk : Blk (V.setCell ⟨A, 1, none⟩ (.int .i64 nn)) A 76 (((fc 60 fun _ => Value.int .i64 0).setIfInBounds 1 (.int .i64 nn)).toList.toArray) := by
    rw [Array.toArray_toList]
    exact AH.out.set 1 (.int .i64 nn)
  have HBK := Lib.hid hbk
  have l60 : ((fc 60 fun _ => Value.int .i64 0).setIfInBounds 1 (.int .i64 nn)).toList.length = 60 := by simp [fc_size]
  have l16 : (fc 16 fun i => Value.int .i64 (G i)).toList.length = 16 := by simp [fc_size]
  have L60 := Lib.hid l60
  have L16 := Lib.hid l16
  have ho : ∀ v ∈ (fc 16 fun i => Value.int .i64 (G i)).toList, v.oneCell' = true := fc_one (fun _ => rfl)
  have HO := Lib.hid ho
  have tE : Below w.heap.size w (V.setCell ⟨A, 1, none⟩ (.int .i64 nn)) := tV.setCell (p := ⟨A, 1, none⟩) (by show _ ≤ A; omega) _
  have SE : Blk (V.setCell ⟨A, 1, none⟩ (.int .i64 nn)) w.heap.size 66 (fc 466 F) := SH2.out.set_other _ _ _ (by omega)
  have HSE := Lib.hid SE
  clear hcs hbk l60 l16 ho c1 f1 c460 AH SH2 GH SE hA'
  go_upto_region 6 with (refine wpList_copy_splice rfl (.tmp 31) (.tmp 32) 56 56 rfl 3 Try.underlying56 sizeInt (some ⟨A, 44, none⟩) (some ⟨g, 0, none⟩) 16 16 16 16 rfl rfl A 44 _ 76 HBK.out (fc 16 fun i => Value.int .i64 (G i)).toList (by rw [L16.out]; rfl) (fun _ => ⟨rfl, _, rfl, HCS.out⟩) (by rw [L16.out, L60.out]; omega) HO.out A (V.setCell ⟨A, 1, none⟩ (.int .i64 nn)) (bRefl' _ _) (Nat.le_refl _) ?_; intro wE hE bE)
  have hA' : A = w.heap.size + 1 := HA1.out
  have AE : Blk wE A 76 (fc 60 fun q => .int .i64 (aB nn G 0 q)) := by
    have e : wE.heap[A]? = _ := hE.out
    rw [aB_first] at e
    exact e
  have SE := HSE.out.below bE (by omega)
  have tE2 := tE.trans (bE.mono (by omega))
  have BE := Lib.hid (HB.out.below tE2 hbl)
  have ZE := Lib.hid (ZAt.below HZ.out tE2 HZ.out.lt)
  clear HCS HBK L60 L16 HO hE bE HSE tE tV
  have hblE := BE.out.lt
  have hAA : w.heap.size ≤ A := by omega
  have hAw : A ≠ w.heap.size := by omega
  clear hA' hAl hSl
  go_wp2_with (refine wpl_load rfl 24 (.tmp 37) rfl b 1 rfl BE.out rowRegs (by rw [bx_size]; omega) (D := gr fS) (bx_regs _ _ _) ?_)
  go_loopw [39] (fun t wr => ∃ k : Nat, k ≤ 10 ∧ t = .int .i64 k ∧ Blk wr A 76 (fc 60 fun q => .int .i64 (aB nn G k q)) ∧ Blk wr w.heap.size 66 (fc 466 F) ∧ Below w.heap.size w wr) (fun t _ => 10 - (intOf t).toNat)
  case atStart => exact ⟨0, by omega, rfl, AE, SE, tE2⟩
  case round =>
    clear AE SE tE2 hblE BE ZE
    obtain ⟨k, hk, rfl, har, hsr, hbel⟩ := hrel
    have HAr := Lib.hid har
    have HSr := Lib.hid hsr
    have hal := har.lt
    have hsl := hsr.lt
    by_cases hlt : k < 10
    · have hlt' : (k : Int) < 10 := by omega
      have hlt11 : (k : Int) < 11 := by omega
      have hk0 : (0 : Int) ≤ (k : Int) := Int.natCast_nonneg _
      have v0 := (hsr.cell (k * 4)).trans (fc_get 466 F (by omega))
      have v1 := (hsr.cell (k * 4 + 1)).trans (fc_get 466 F (by omega))
      have v2 := (hsr.cell (k * 4 + 2)).trans (fc_get 466 F (by omega))
      have v3 := (hsr.cell (k * 4 + 3)).trans (fc_get 466 F (by omega))
      have he := gr_elem fS hlt
      clear har hsr
      have hc : (k = 1) ∨ (k = 2) ∨ (k ≠ 1 ∧ k ≠ 2) := by omega
      rcases hc with rfl | rfl | ⟨hk1, hk2⟩
      · have HE : Hid ((gr fS).extract (1 * 3) (1 * 3 + 3) = #[.int .i64 3, .int .i64 0, .int .i64 0]) := he
        clear v0 v1 v2 v3 he
        have y0 : (fc 466 F)[4]? = some (.int .i64 3) := (fc_get 466 F (by omega)).trans (by rw [HF.out]; rfl)
        have y1 : (fc 466 F)[5]? = some (.int .i64 0) := (fc_get 466 F (by omega)).trans (by rw [HF.out]; rfl)
        have y2 : (fc 466 F)[6]? = some (.int .i64 0) := (fc_get 466 F (by omega)).trans (by rw [HF.out]; rfl)
        have y3 : (fc 466 F)[7]? = some (.int .i64 0) := (fc_get 466 F (by omega)).trans (by rw [HF.out]; rfl)
        go_upto_region 9 with (refine wpl_indexA rfl 24 (.tmp 38) (.tmp 39) rfl (C := gr fS) rfl .i64 1 rfl Try.underlying24 aggTag sizeTag hlt (D := #[.int .i64 3, .int .i64 0, .int .i64 0]) HE.out ?_)
        generalize hX : (wr.alloc (.cells #[.int .i64 3, .int .i64 0, .int .i64 0] 23)) = wX
        have tX : Below w.heap.size w wX := by rw [← hX]; exact bAl hbel _
        have TX : Blk wX wr.heap.size 23 #[.int .i64 3, .int .i64 0, .int .i64 0] := by rw [← hX]; exact Blk.new _ _ _
        have AX : Blk wX A 76 (fc 60 fun q => .int .i64 (aB nn G 1 q)) := by rw [← hX]; exact HAr.out.alloc _
        have SX : Blk wX w.heap.size 66 (fc 466 F) := by rw [← hX]; exact HSr.out.alloc _
        obtain ⟨T, hT⟩ : ∃ T, T = wr.heap.size := ⟨_, rfl⟩
        rw [← hT] at TX ⊢
        have HTX := Lib.hid TX
        have HAX := Lib.hid AX
        have HSX := Lib.hid SX
        have z0 : wX.cell? ⟨T, 0, none⟩ = some (.int .i64 3) := TX.cell 0
        have z1 : wX.cell? ⟨T, 1, none⟩ = some (.int .i64 0) := TX.cell 1
        have z2 : wX.cell? ⟨T, 2, none⟩ = some (.int .i64 0) := TX.cell 2
        have q0 : wX.cell? ⟨w.heap.size, 4, none⟩ = some (.int .i64 3) := (SX.cell _).trans y0
        have q1 : wX.cell? ⟨w.heap.size, 5, none⟩ = some (.int .i64 0) := (SX.cell _).trans y1
        have q2 : wX.cell? ⟨w.heap.size, 6, none⟩ = some (.int .i64 0) := (SX.cell _).trans y2
        have q3 : wX.cell? ⟨w.heap.size, 7, none⟩ = some (.int .i64 0) := (SX.cell _).trans y3
        have hTl := TX.lt
        have hSl := SX.lt
        clear hX hT TX AX SX HAr HSr hal hsl y0 y1 y2 y3
        go_region_held3 (fun w' => w'.cell? ⟨T, 0, none⟩ = some (.int .i64 3) ∧ w'.cell? ⟨T, 1, none⟩ = some (.int .i64 0) ∧ w'.cell? ⟨T, 2, none⟩ = some (.int .i64 0) ∧ w'.cell? ⟨w.heap.size, 4, none⟩ = some (.int .i64 3) ∧ w'.cell? ⟨w.heap.size, 5, none⟩ = some (.int .i64 0) ∧ w'.cell? ⟨w.heap.size, 6, none⟩ = some (.int .i64 0) ∧ w'.cell? ⟨w.heap.size, 7, none⟩ = some (.int .i64 0)) (go_keep)
          ((go_at_call 25; refine (held_ctx _ 0 0 0).mono ?_; rintro e w1 ⟨rfl, b1⟩; have T1 := Lib.hid ((Blk.drew HTX.out).below b1 hTl); have r0 : w1.cell? ⟨T, 0, none⟩ = some (.int .i64 3) := T1.out.cell 0; have r1 : w1.cell? ⟨T, 1, none⟩ = some (.int .i64 0) := T1.out.cell 1; have r2 : w1.cell? ⟨T, 2, none⟩ = some (.int .i64 0) := T1.out.cell 2; have p0 : w1.cell? ⟨w.heap.size, 4, none⟩ = some (.int .i64 3) := (b1.cell (p := ⟨w.heap.size, 4, none⟩) hSl).trans q0; have p1 : w1.cell? ⟨w.heap.size, 5, none⟩ = some (.int .i64 0) := (b1.cell (p := ⟨w.heap.size, 5, none⟩) hSl).trans q1; have p2 : w1.cell? ⟨w.heap.size, 6, none⟩ = some (.int .i64 0) := (b1.cell (p := ⟨w.heap.size, 6, none⟩) hSl).trans q2; have p3 : w1.cell? ⟨w.heap.size, 7, none⟩ = some (.int .i64 0) := (b1.cell (p := ⟨w.heap.size, 7, none⟩) hSl).trans q3))
        have t1 := bThen tX.drew b1
        have A1 := (Blk.drew HAX.out).below b1 HAX.out.lt
        have S1 := (Blk.drew HSX.out).below b1 hSl
        have x2 := (A1.cell (2 + 1)).trans (fc_get 60 _ (by omega))
        have f2 := A1.frozen (2 + 1)
        have hl1 := A1.lt
        have HA2 := Lib.hid A1
        have HS2 := Lib.hid S1
        clear A1 S1 b1 T1 r0 r1 r2 p0 p1 p2 p3 z0 z1 z2 q0 q1 q2 q3 HTX HAX HSX
        go_wp2
        go_roundw
        case rel => exact ⟨1 + 1, by omega, by go_num, (HA2.out.set _ _).eq (aB_step _ _ (k := 1) hlt rfl), HS2.out.set_other _ _ _ (by omega), t1.setCell (p := ⟨A, _, none⟩) hAA _⟩
        case measure => first | (simp [intOf]; done) | (simp [intOf]; omega)
      · have HE : Hid ((gr fS).extract (2 * 3) (2 * 3 + 3) = #[.int .i64 1, .int .i64 0, .int .i64 0]) := he
        clear v0 v1 v2 v3 he
        have y0 : (fc 466 F)[8]? = some (.int .i64 1) := (fc_get 466 F (by omega)).trans (by rw [HF.out]; rfl)
        have y1 : (fc 466 F)[9]? = some (.int .i64 0) := (fc_get 466 F (by omega)).trans (by rw [HF.out]; rfl)
        have y2 : (fc 466 F)[10]? = some (.int .i64 0) := (fc_get 466 F (by omega)).trans (by rw [HF.out]; rfl)
        have y3 : (fc 466 F)[11]? = some (.int .i64 nn) := (fc_get 466 F (by omega)).trans (by rw [HF.out]; rfl)
        go_upto_region 9 with (refine wpl_indexA rfl 24 (.tmp 38) (.tmp 39) rfl (C := gr fS) rfl .i64 2 rfl Try.underlying24 aggTag sizeTag hlt (D := #[.int .i64 1, .int .i64 0, .int .i64 0]) HE.out ?_)
        generalize hX : (wr.alloc (.cells #[.int .i64 1, .int .i64 0, .int .i64 0] 23)) = wX
        have tX : Below w.heap.size w wX := by rw [← hX]; exact bAl hbel _
        have TX : Blk wX wr.heap.size 23 #[.int .i64 1, .int .i64 0, .int .i64 0] := by rw [← hX]; exact Blk.new _ _ _
        have AX : Blk wX A 76 (fc 60 fun q => .int .i64 (aB nn G 2 q)) := by rw [← hX]; exact HAr.out.alloc _
        have SX : Blk wX w.heap.size 66 (fc 466 F) := by rw [← hX]; exact HSr.out.alloc _
        obtain ⟨T, hT⟩ : ∃ T, T = wr.heap.size := ⟨_, rfl⟩
        rw [← hT] at TX ⊢
        have HTX := Lib.hid TX
        have HAX := Lib.hid AX
        have HSX := Lib.hid SX
        have z0 : wX.cell? ⟨T, 0, none⟩ = some (.int .i64 1) := TX.cell 0
        have z1 : wX.cell? ⟨T, 1, none⟩ = some (.int .i64 0) := TX.cell 1
        have z2 : wX.cell? ⟨T, 2, none⟩ = some (.int .i64 0) := TX.cell 2
        have q0 : wX.cell? ⟨w.heap.size, 8, none⟩ = some (.int .i64 1) := (SX.cell _).trans y0
        have q1 : wX.cell? ⟨w.heap.size, 9, none⟩ = some (.int .i64 0) := (SX.cell _).trans y1
        have q2 : wX.cell? ⟨w.heap.size, 10, none⟩ = some (.int .i64 0) := (SX.cell _).trans y2
        have q3 : wX.cell? ⟨w.heap.size, 11, none⟩ = some (.int .i64 nn) := (SX.cell _).trans y3
        have hTl := TX.lt
        have hSl := SX.lt
        clear hX hT TX AX SX HAr HSr hal hsl y0 y1 y2 y3
        go_region_held3 (fun w' => w'.cell? ⟨T, 0, none⟩ = some (.int .i64 1) ∧ w'.cell? ⟨T, 1, none⟩ = some (.int .i64 0) ∧ w'.cell? ⟨T, 2, none⟩ = some (.int .i64 0) ∧ w'.cell? ⟨w.heap.size, 8, none⟩ = some (.int .i64 1) ∧ w'.cell? ⟨w.heap.size, 9, none⟩ = some (.int .i64 0) ∧ w'.cell? ⟨w.heap.size, 10, none⟩ = some (.int .i64 0) ∧ w'.cell? ⟨w.heap.size, 11, none⟩ = some (.int .i64 nn)) (go_keep)
          ((go_at_call 25; refine (held_num _ 0 0 nn).mono ?_; rintro e w1 ⟨rfl, b1⟩; have T1 := Lib.hid ((Blk.drew HTX.out).below b1 hTl); have r0 : w1.cell? ⟨T, 0, none⟩ = some (.int .i64 1) := T1.out.cell 0; have r1 : w1.cell? ⟨T, 1, none⟩ = some (.int .i64 0) := T1.out.cell 1; have r2 : w1.cell? ⟨T, 2, none⟩ = some (.int .i64 0) := T1.out.cell 2; have p0 : w1.cell? ⟨w.heap.size, 8, none⟩ = some (.int .i64 1) := (b1.cell (p := ⟨w.heap.size, 8, none⟩) hSl).trans q0; have p1 : w1.cell? ⟨w.heap.size, 9, none⟩ = some (.int .i64 0) := (b1.cell (p := ⟨w.heap.size, 9, none⟩) hSl).trans q1; have p2 : w1.cell? ⟨w.heap.size, 10, none⟩ = some (.int .i64 0) := (b1.cell (p := ⟨w.heap.size, 10, none⟩) hSl).trans q2; have p3 : w1.cell? ⟨w.heap.size, 11, none⟩ = some (.int .i64 nn) := (b1.cell (p := ⟨w.heap.size, 11, none⟩) hSl).trans q3))
        have t1 := bThen tX.drew b1
        have A1 := (Blk.drew HAX.out).below b1 HAX.out.lt
        have S1 := (Blk.drew HSX.out).below b1 hSl
        have x2 := (A1.cell (2 + 2)).trans (fc_get 60 _ (by omega))
        have f2 := A1.frozen (2 + 2)
        have hl1 := A1.lt
        have HA2 := Lib.hid A1
        have HS2 := Lib.hid S1
        clear A1 S1 b1 T1 r0 r1 r2 p0 p1 p2 p3 z0 z1 z2 q0 q1 q2 q3 HTX HAX HSX
        go_wp2
        go_roundw
        case rel => exact ⟨2 + 1, by omega, by go_num, (HA2.out.set _ _).eq (aB_step _ _ (k := 2) hlt rfl), HS2.out.set_other _ _ _ (by omega), t1.setCell (p := ⟨A, _, none⟩) hAA _⟩
        case measure => first | (simp [intOf]; done) | (simp [intOf]; omega)
      · have HE : Hid ((gr fS).extract (k * 3) (k * 3 + 3) = #[.int .i64 0, .int .i64 0, .int .i64 0]) := by
          show _ = _
          rw [he]
          have e : fS k = ⟨0, 0, 0⟩ := by unfold fS; rw [if_neg hk1, if_neg hk2]
          rw [e]
          rfl
        clear v0 v1 v2 v3 he
        have y0 : (fc 466 F)[k * 4]? = some (.int .i64 0) := (fc_get 466 F (by omega)).trans (by rw [HF.out]; exact congrArg some (stB_reg _ _ hlt hk1 hk2 0 (by omega)))
        have y1 : (fc 466 F)[k * 4 + 1]? = some (.int .i64 0) := (fc_get 466 F (by omega)).trans (by rw [HF.out]; exact congrArg some (stB_reg _ _ hlt hk1 hk2 1 (by omega)))
        have y2 : (fc 466 F)[k * 4 + 2]? = some (.int .i64 0) := (fc_get 466 F (by omega)).trans (by rw [HF.out]; exact congrArg some (stB_reg _ _ hlt hk1 hk2 2 (by omega)))
        have y3 : (fc 466 F)[k * 4 + 3]? = some (.int .i64 0) := (fc_get 466 F (by omega)).trans (by rw [HF.out]; exact congrArg some (stB_reg _ _ hlt hk1 hk2 3 (by omega)))
        have Hk1 := Lib.hid hk1
        have Hk2 := Lib.hid hk2
        clear hk1 hk2
        go_upto_region 9 with (refine wpl_indexA rfl 24 (.tmp 38) (.tmp 39) rfl (C := gr fS) rfl .i64 k rfl Try.underlying24 aggTag sizeTag hlt (D := #[.int .i64 0, .int .i64 0, .int .i64 0]) HE.out ?_)
        generalize hX : (wr.alloc (.cells #[.int .i64 0, .int .i64 0, .int .i64 0] 23)) = wX
        have tX : Below w.heap.size w wX := by rw [← hX]; exact bAl hbel _
        have TX : Blk wX wr.heap.size 23 #[.int .i64 0, .int .i64 0, .int .i64 0] := by rw [← hX]; exact Blk.new _ _ _
        have AX : Blk wX A 76 (fc 60 fun q => .int .i64 (aB nn G k q)) := by rw [← hX]; exact HAr.out.alloc _
        have SX : Blk wX w.heap.size 66 (fc 466 F) := by rw [← hX]; exact HSr.out.alloc _
        obtain ⟨T, hT⟩ : ∃ T, T = wr.heap.size := ⟨_, rfl⟩
        rw [← hT] at TX ⊢
        have HTX := Lib.hid TX
        have HAX := Lib.hid AX
        have HSX := Lib.hid SX
        have z0 : wX.cell? ⟨T, 0, none⟩ = some (.int .i64 0) := TX.cell 0
        have z1 : wX.cell? ⟨T, 1, none⟩ = some (.int .i64 0) := TX.cell 1
        have z2 : wX.cell? ⟨T, 2, none⟩ = some (.int .i64 0) := TX.cell 2
        have q0 : wX.cell? ⟨w.heap.size, k * 4, none⟩ = some (.int .i64 0) := (SX.cell _).trans y0
        have q1 : wX.cell? ⟨w.heap.size, k * 4 + 1, none⟩ = some (.int .i64 0) := (SX.cell _).trans y1
        have q2 : wX.cell? ⟨w.heap.size, k * 4 + 2, none⟩ = some (.int .i64 0) := (SX.cell _).trans y2
        have q3 : wX.cell? ⟨w.heap.size, k * 4 + 3, none⟩ = some (.int .i64 0) := (SX.cell _).trans y3
        have hTl := TX.lt
        have hSl := SX.lt
        clear hX hT TX AX SX HAr HSr hal hsl y0 y1 y2 y3
        go_region_held3 (fun w' => w'.cell? ⟨T, 0, none⟩ = some (.int .i64 0) ∧ w'.cell? ⟨T, 1, none⟩ = some (.int .i64 0) ∧ w'.cell? ⟨T, 2, none⟩ = some (.int .i64 0) ∧ w'.cell? ⟨w.heap.size, k * 4, none⟩ = some (.int .i64 0) ∧ w'.cell? ⟨w.heap.size, k * 4 + 1, none⟩ = some (.int .i64 0) ∧ w'.cell? ⟨w.heap.size, k * 4 + 2, none⟩ = some (.int .i64 0) ∧ w'.cell? ⟨w.heap.size, k * 4 + 3, none⟩ = some (.int .i64 0)) (go_keep)
          ((go_at_call 25; refine (held_none _ 0 0 0 0).mono ?_; rintro e w1 ⟨rfl, b1⟩; have T1 := Lib.hid ((Blk.drew HTX.out).below b1 hTl); have r0 : w1.cell? ⟨T, 0, none⟩ = some (.int .i64 0) := T1.out.cell 0; have r1 : w1.cell? ⟨T, 1, none⟩ = some (.int .i64 0) := T1.out.cell 1; have r2 : w1.cell? ⟨T, 2, none⟩ = some (.int .i64 0) := T1.out.cell 2; have p0 : w1.cell? ⟨w.heap.size, k * 4, none⟩ = some (.int .i64 0) := (b1.cell (p := ⟨w.heap.size, k * 4, none⟩) hSl).trans q0; have p1 : w1.cell? ⟨w.heap.size, k * 4 + 1, none⟩ = some (.int .i64 0) := (b1.cell (p := ⟨w.heap.size, k * 4 + 1, none⟩) hSl).trans q1; have p2 : w1.cell? ⟨w.heap.size, k * 4 + 2, none⟩ = some (.int .i64 0) := (b1.cell (p := ⟨w.heap.size, k * 4 + 2, none⟩) hSl).trans q2; have p3 : w1.cell? ⟨w.heap.size, k * 4 + 3, none⟩ = some (.int .i64 0) := (b1.cell (p := ⟨w.heap.size, k * 4 + 3, none⟩) hSl).trans q3))
        have t1 := bThen tX.drew b1
        have A1 := (Blk.drew HAX.out).below b1 HAX.out.lt
        have S1 := (Blk.drew HSX.out).below b1 hSl
        have x2 := (A1.cell (2 + k)).trans (fc_get 60 _ (by omega))
        have f2 := A1.frozen (2 + k)
        have hl1 := A1.lt
        have HA2 := Lib.hid A1
        have HS2 := Lib.hid S1
        clear A1 S1 b1 T1 r0 r1 r2 p0 p1 p2 p3 z0 z1 z2 q0 q1 q2 q3 HTX HAX HSX
        go_wp2
        go_roundw
        case rel => exact ⟨k + 1, by omega, by go_num, (HA2.out.set _ _).eq (aB_step _ _ (k := k) hlt (by rw [if_neg Hk2.out])), HS2.out.set_other _ _ _ (by omega), t1.setCell (p := ⟨A, _, none⟩) hAA _⟩
        case measure => first | (simp [intOf]; done) | (simp [intOf]; omega)
    · obtain rfl : k = 10 := by omega
      clear hlt
      have BE := Lib.hid (HB.out.below hbel hbl)
      have hblE := BE.out.lt
      go_wp2_with (refine wpl_load rfl 25 (.tmp 62) rfl b 31 rfl BE.out rowStk (by rw [bx_size]; omega) (D := gs fS) (bx_slots _ _ _) ?_)
      go_loopw [64] (fun t wr => ∃ k : Nat, k ≤ 32 ∧ t = .int .i64 k ∧ Blk wr A 76 (fc 60 fun q => .int .i64 (aB nn G 10 q)) ∧ Blk wr w.heap.size 66 (fc 466 F) ∧ Below w.heap.size w wr) (fun t _ => 32 - (intOf t).toNat)
      case atStart => exact ⟨0, by omega, rfl, HAr.out, HSr.out, hbel⟩
      case round =>
        clear HAr HSr har hsr hal hsl hbel hblE BE
        obtain ⟨k, hk, rfl, har, hsr, hbel⟩ := hrel
        have HAr := Lib.hid har
        have HSr := Lib.hid hsr
        have hal := har.lt
        have hsl := hsr.lt
        by_cases hlt : k < 32
        · have hlt' : (k : Int) < 32 := by omega
          have hk0 : (0 : Int) ≤ (k : Int) := Int.natCast_nonneg _
          have he := gs_elem fS hlt
          have HE : Hid ((gs fS).extract (k * 3) (k * 3 + 3) = #[.int .i64 0, .int .i64 0, .int .i64 0]) := by
            show _ = _
            rw [he]
            have e : fS (10 + k) = ⟨0, 0, 0⟩ := by unfold fS; rw [if_neg (by omega), if_neg (by omega)]
            rw [e]
            rfl
          clear har hsr he
          go_upto_region 17 with (refine wpl_indexA rfl 25 (.tmp 63) (.tmp 64) rfl (C := gs fS) rfl .i64 k rfl Try.underlying25 aggTag sizeTag hlt (D := #[.int .i64 0, .int .i64 0, .int .i64 0]) HE.out ?_)
          generalize hX : (wr.alloc (.cells #[.int .i64 0, .int .i64 0, .int .i64 0] 23)) = wX
          have tX : Below w.heap.size w wX := by rw [← hX]; exact bAl hbel _
          have TX : Blk wX wr.heap.size 23 #[.int .i64 0, .int .i64 0, .int .i64 0] := by rw [← hX]; exact Blk.new _ _ _
          have AX : Blk wX A 76 (fc 60 fun q => .int .i64 (aB nn G 10 q)) := by rw [← hX]; exact HAr.out.alloc _
          have SX : Blk wX w.heap.size 66 (fc 466 F) := by rw [← hX]; exact HSr.out.alloc _
          obtain ⟨T, hT⟩ : ∃ T, T = wr.heap.size := ⟨_, rfl⟩
          rw [← hT] at TX ⊢
          have HTX := Lib.hid TX
          have HAX := Lib.hid AX
          have HSX := Lib.hid SX
          have hTl := TX.lt
          have hSl := SX.lt
          clear hX hT TX AX SX HAr HSr hal hsl
          refine wp_region_held_drew (S := fun w' => Blk w' T 23 #[.int .i64 0, .int .i64 0, .int .i64 0] ∧ Blk w' w.heap.size 66 (fc 466 F) ∧ Blk w' A 76 (fc 60 fun q => .int .i64 (aB nn G 10 q)) ∧ Below w.heap.size w w') mix ⟨Blk.drew HTX.out, Blk.drew HSX.out, Blk.drew HAX.out, tX.drew⟩ (fun hS => ?_)
          refine wpAnyH_take (i := 0) (v := .agg #[.int .i64 0, .int .i64 0, .int .i64 0]) rfl (by kernel_rfl) (by kernel_rfl) (by kernel_rfl) (fun _ _ _ h => h) (Or.inl ⟨by rfl, fun w' hw' => exec_load 23 (.tmp 13) rfl T 0 rfl hw'.1 rowTag (Nat.le_refl _) rfl⟩) hS ?_
          simp only [Act.put, List.getElem_toArray, List.getElem_cons_zero, List.setIfInBounds_toArray, List.set_cons_zero, List.set_cons_succ]
          refine wpAnyH_take (i := 1) (v := .int .i64 k) rfl (by kernel_rfl) (by kernel_rfl) (by kernel_rfl) (fun _ _ _ h => h) (Or.inl ⟨by rfl, fun w' hw' => by go_simp⟩) hS ?_
          simp only [Act.put, List.getElem_toArray, List.getElem_cons_zero, List.getElem_cons_succ, List.setIfInBounds_toArray, List.set_cons_zero, List.set_cons_succ]
          refine wpAnyH_take (i := 2) (v := .pointer (some ⟨w.heap.size, 44, none⟩)) rfl (by kernel_rfl) (by kernel_rfl) (by kernel_rfl) (fun _ _ _ h => h) (Or.inl ⟨by rfl, fun w' hw' => by go_simp⟩) hS ?_
          simp only [Act.put, List.getElem_toArray, List.getElem_cons_zero, List.getElem_cons_succ, List.setIfInBounds_toArray, List.set_cons_zero, List.set_cons_succ]
          refine wpAnyH_take (i := 3) (v := .pointer (some ⟨w.heap.size, 44 + k * 13, none⟩)) rfl (by kernel_rfl) (by kernel_rfl) (by kernel_rfl) (fun _ _ _ h => h) (Or.inl ⟨by rfl, fun w' hw' => by go_simp⟩) hS ?_
          simp only [Act.put, List.getElem_toArray, List.getElem_cons_zero, List.getElem_cons_succ, List.setIfInBounds_toArray, List.set_cons_zero, List.set_cons_succ]
          refine wpAnyH_take (i := 4) (v := .agg ((fc 466 F).extract (44 + k * 13) (44 + k * 13 + 13))) rfl (by kernel_rfl) (by kernel_rfl) (by kernel_rfl) (fun _ _ _ h => h) (Or.inl ⟨by rfl, fun w' hw' => exec_load 62 (.tmp 72) rfl w.heap.size (44 + k * 13) rfl hw'.2.1 rowSlot (by rw [fc_size]; omega) rfl⟩) hS ?_
          simp only [Act.put, List.getElem_toArray, List.getElem_cons_zero, List.getElem_cons_succ, List.setIfInBounds_toArray, List.set_cons_zero, List.set_cons_succ]
          refine wpAnyH_ready (rs := [5]) (by kernel_rfl) (by simp) ?_
          refine AllReadyH.cons rfl (fun K hK => ?_) AllReadyH.nil
          go_simp
          go_wp2_with fail
          refine (kept_none _ _).mono ?_
          rintro e w1 ⟨rfl, b1⟩
          have k1 := hS.1.lt
          have k2 := hS.2.1.lt
          have k3 := hS.2.2.1.lt
          go_wp2_with fail
          refine hK.out _ _ ?_ (fun hS2 => ?_)
          · exact ⟨hS.1.below b1 k1, hS.2.1.below b1 k2, hS.2.2.1.below b1 k3, bThen hS.2.2.2 b1⟩
          clear hK K hS
          refine wpAnyH_take (i := 6) (v := .tuple #[.int .i64 0, .bool true]) rfl (by kernel_rfl) (by kernel_rfl) (by kernel_rfl) (fun _ _ _ h => h) (Or.inl ⟨by rfl, fun w' hw' => by go_simp⟩) hS2 ?_
          simp only [Act.put, List.getElem_toArray, List.getElem_cons_zero, List.getElem_cons_succ, List.setIfInBounds_toArray, List.set_cons_zero, List.set_cons_succ]
          refine wpAnyH_take (i := 7) (v := .int .i64 0) rfl (by kernel_rfl) (by kernel_rfl) (by kernel_rfl) (fun _ _ _ h => h) (Or.inl ⟨by rfl, fun w' hw' => by go_simp⟩) hS2 ?_
          simp only [Act.put, List.getElem_toArray, List.getElem_cons_zero, List.getElem_cons_succ, List.setIfInBounds_toArray, List.set_cons_zero, List.set_cons_succ]
          refine wpAnyH_take (i := 8) (v := .bool true) rfl (by kernel_rfl) (by kernel_rfl) (by kernel_rfl) (fun _ _ _ h => h) (Or.inl ⟨by rfl, fun w' hw' => by go_simp⟩) hS2 ?_
          simp only [Act.put, List.getElem_toArray, List.getElem_cons_zero, List.getElem_cons_succ, List.setIfInBounds_toArray, List.set_cons_zero, List.set_cons_succ]
          refine wpAnyH_take (i := 9) (v := .int .i64 0) rfl (by kernel_rfl) (by kernel_rfl) (by kernel_rfl) (fun _ _ _ h => h) (Or.inl ⟨by rfl, fun w' hw' => by go_simp⟩) hS2 ?_
          simp only [Act.put, List.getElem_toArray, List.getElem_cons_zero, List.getElem_cons_succ, List.setIfInBounds_toArray, List.set_cons_zero, List.set_cons_succ]
          refine wpAnyH_take (i := 10) (v := .bool true) rfl (by kernel_rfl) (by kernel_rfl) (by kernel_rfl) (fun _ _ _ h => h) (Or.inl ⟨by rfl, fun w' hw' => by go_simp⟩) hS2 ?_
          simp only [Act.put, List.getElem_toArray, List.getElem_cons_zero, List.getElem_cons_succ, List.setIfInBounds_toArray, List.set_cons_zero, List.set_cons_succ]
          refine wpAnyH_done (by kernel_rfl) ?_ _
          have x2 := (hS2.2.2.1.cell (12 + k)).trans (fc_get 60 _ (by omega))
          have f2 := hS2.2.2.1.frozen (12 + k)
          have hl1 := hS2.2.2.1.lt
          have HS3 := Lib.hid hS2
          clear hS2 HTX HAX HSX k1 k2 k3 b1
          rw [show aB nn G 10 (12 + k) = 0 by unfold aB; rw [if_neg (by omega), if_neg (by omega), if_neg (by omega)]] at x2
          go_wp2
          go_roundw
          case rel => exact ⟨k + 1, by omega, by go_num, (HS3.out.2.2.1.set _ _).eq (aB_same _ _ hlt), HS3.out.2.1.set_other _ _ _ (Ne.symm hAw), HS3.out.2.2.2.setCell (p := ⟨A, _, none⟩) hAA _⟩
          case measure => simp [intOf]; omega
        · obtain rfl : k = 32 := by omega
          have BE := HB.out.below hbel hbl
          have ZE := Lib.hid (ZAt.below HZ.out hbel HZ.out.lt)
          have e0 : wr.cell? ⟨b, 0, none⟩ = some (.pointer (some ⟨p, 0, none⟩)) := (BE.cell 0).trans (bx_zero _ _ _)
          have hblE := BE.lt
          have hlL := consL_len (mS lo hi) 60
          have hmem : ∀ x ∈ consL (mS lo hi) 60, ∃ P Q : Nat, P < 60 ∧ Q < 60 ∧ x = ⟨P, Q, mS lo hi P Q⟩ ∧ 0 ≤ aB nn G 10 P ∧ aB nn G 10 P ≤ 65535 ∧ 0 ≤ aB nn G 10 Q ∧ aB nn G 10 Q ≤ 65535 ∧ aB nn G 10 P - aB nn G 10 Q ≤ mS lo hi P Q := fun x hx => by
            obtain ⟨P, Q, hP, hQ, hne, hb, e⟩ := mem_consL.1 hx
            obtain ⟨c1, c2⟩ := mS_only h0 (by omega) h3 hP hQ hne hb
            have hv : ∀ q : Nat, (q = 0 ∨ q = 1 ∨ q = 3 ∨ q = 4) → 0 ≤ aB nn G 10 q ∧ aB nn G 10 q ≤ 65535 := fun q hq => by
              rcases hq with rfl | rfl | rfl | rfl <;> unfold aB <;> simp <;> omega
            have hm := aB_mt h1 h2 (aB nn G 10) rfl rfl rfl rfl P Q hP hQ hb
            exact ⟨P, Q, hP, hQ, e, (hv P c1).1, (hv P c1).2, (hv Q c2).1, (hv Q c2).2, hm⟩
          have HM := Lib.hid hmem
          clear BE hmem
          go_wp2_with fail
          refine (cons_any _ p _ ZE.out).mono ?_
          rintro e w1 ⟨v1, rfl, n1, b1⟩
          have S1 : Sl3 w1 v1 (consL (mS lo hi) 60) := NewCons.sl3 n1 (by show (consL (mS lo hi) 60).length ≤ _; omega)
          obtain ⟨L, HL⟩ : ∃ L, Hid (L = consL (mS lo hi) 60) := ⟨_, rfl⟩
          have S2 : Sl3 w1 v1 L := by rw [HL.out]; exact S1
          rw [← HL.out] at HM
          obtain ⟨a0, cap0, rfl, hll, hcell⟩ := S2
          have Hc := Lib.hid hcell
          have A1 := Lib.hid (HAr.out.below b1 hal)
          have t1 := bThen hbel b1
          clear e0 ZE n1 S1 HL HAr HSr har hsr hal hsl hbel b1 hcell hblE hlL
          go_wp2
          go_loopw [90] (fun t wr => ∃ k : Nat, k ≤ L.length ∧ t = .int .i64 k ∧ Below w1.heap.size w1 wr) (fun t _ => L.length - (intOf t).toNat)
          case atStart => exact ⟨0, by omega, rfl, bRefl _⟩
          case round =>
            obtain ⟨k, hk, rfl, hbel⟩ := hrel
            by_cases hlt : k < L.length
            · obtain ⟨x, hx⟩ : ∃ x, L[k]? = some x := ⟨_, List.getElem?_eq_getElem hlt⟩
              obtain ⟨bb, off, rfl, g0, g1, g2⟩ := Hc.out k x hx
              have hblt := World.block_lt_of_cell? w1 _ g0
              rw [← hbel.cell hblt] at g0
              rw [← hbel.cell (p := ⟨bb, off + k * 3 + 1, none⟩) hblt] at g1
              rw [← hbel.cell (p := ⟨bb, off + k * 3 + 2, none⟩) hblt] at g2
              obtain ⟨P, Q, hP, hQ, rfl, v1, v2, v3, v4, v5⟩ := HM.out x (List.mem_of_getElem? hx)
              have hk1 : (k : Int) < (L.length : Int) := by omega
              have aP := ((A1.out.below hbel A1.out.lt).cell P).trans (fc_get 60 _ hP)
              have aQ := ((A1.out.below hbel A1.out.lt).cell Q).trans (fc_get 60 _ hQ)
              have hal := (A1.out.below hbel A1.out.lt).lt
              obtain ⟨fp, hfp⟩ : ∃ fp, fp = aB nn G 10 P := ⟨_, rfl⟩
              obtain ⟨fq, hfq⟩ : ∃ fq, fq = aB nn G 10 Q := ⟨_, rfl⟩
              obtain ⟨c, hcc⟩ : ∃ c, c = mS lo hi P Q := ⟨_, rfl⟩
              rw [← hfp] at aP v1 v2 v5
              rw [← hfq] at aQ v3 v4 v5
              simp only at g0 g1 g2
              rw [← hcc] at g2 v5
              have hPi : (P : Int) < 60 := by omega
              have hQi : (Q : Int) < 60 := by omega
              clear hfp hfq hcc hx
              go_wp2
              refine wp_still mix (by kernel_rfl) ?_
              repeat still_step
              still_call (beyond_no _ _ _ _ v1 v2 v3 v4 v5)
              repeat still_step
              refine wpStill_nil ?_
              go_wp2
              go_roundw
              case rel => first | exact ⟨k + 1, by omega, by go_num, (bAl hbel _).drew⟩ | ((repeat apply Exists.intro); exact ⟨⟨k + 1, by omega, by go_num, (bAl hbel _).drew⟩, rfl⟩)
              case measure => simp [intOf]; omega
            · obtain rfl : k = L.length := by omega
              clear Hc
              go_wp2
              go_ret
              exact ⟨rfl, bThen t1 hbel⟩

end Go.Proofs.Ytlcmfpfmjkpfoaa
