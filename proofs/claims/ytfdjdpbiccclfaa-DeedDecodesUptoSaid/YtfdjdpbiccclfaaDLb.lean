/- The law's Lender: are the bytes back? -/
import Derived.Test.YtfdjdpbiccclfaaDLd
namespace Go.Proofs.Ytfdjdpbiccclfaa
open Go Go.RowKit Go.Wr
set_option maxHeartbeats 4000000
set_option maxRecDepth 100000

/-- Bytes of a block, from its beginning. -/
theorem SlBy.of_blk {B g n k : Nat} {w : World} {L : List Nat} (hb : Blk w g 5 (bcells L).toArray) (hg : g < B) (h256 : ∀ x ∈ L, x < 256) (hk : k ≤ L.length) (hn : k ≤ n) (hm : n ≤ maxLen) : SlBy B w (.slice (some ⟨g, 0, none⟩) k n) (L.take k) := by
  refine ⟨some ⟨g, 0, none⟩, n, by rw [List.length_take, Nat.min_eq_left hk], by rw [List.length_take, Nat.min_eq_left hk]; exact hn, hm, fun i x hx => ?_⟩
  rw [List.getElem?_take] at hx
  split at hx
  · refine ⟨g, 0, rfl, hg, h256 x (List.mem_of_getElem? hx), ?_⟩
    rw [hb.cell, Nat.zero_add, List.getElem?_toArray]
    simp [bcells, hx]
  · cases hx
theorem room_get {b : List Nat} {i j n : Nat} (hj : j < i) : (room b i n)[b.length + j]? = some (bh j) := by
  unfold room
  rw [List.append_assoc, List.getElem?_append_right (by omega), Nat.add_sub_cancel_left, List.getElem?_append_left (by simp; omega), List.getElem?_map, List.getElem?_range hj]
  rfl
theorem room_take {b : List Nat} {i n : Nat} : (room b i n).take b.length = b := by
  unfold room
  rw [List.append_assoc, List.take_left]
theorem room_256 {b : List Nat} {i n : Nat} (h : ∀ x ∈ b, x < 256) : ∀ x ∈ room b i n, x < 256 := fun x hx => by
  simp only [room, List.mem_append, List.mem_map, List.mem_range, List.mem_replicate] at hx
  rcases hx with (hx | ⟨j, _, rfl⟩) | ⟨_, rfl⟩
  · exact h x hx
  · exact Nat.mod_lt _ (by omega)
  · omega

theorem xor90 : ∀ z : Fin 256, bits BinOp.xor IntKind.u8 ((z.val : Nat) : Int) 90 = ((z.val ^^^ 90 : Nat) : Int) := by decide +kernel
theorem xor90_lt : ∀ z : Fin 256, z.val ^^^ 90 < 256 := by decide +kernel
theorem back_ok' (w : World) (p g : Nat) (w0 : World) (b : List Nat) (hL : Ldr p g w0 b (b.length + 70) (4 * b.length + 200) w) (v : Value) (B : Nat) (h : SlBy B w v b) (hl : b.length ≤ 1099511627776) :
    Calls Try.prog 23 #[.pointer (some ⟨p, 0, none⟩), v] w fun e w' => e = .returned (.bool true) ∧ Ex g w w' ∧ ∃ L : List Nat, L.length = 4 * b.length + 200 ∧ Blk w' g 5 (bcells L).toArray := by
  have H := Lib.hid h
  have h256 := h.lt256
  obtain ⟨a0, cap, hv, hc1, hc2, hcell⟩ := h
  subst hv
  have HL := Lib.hid hL
  have cp := hL.pb.cell 0
  have hpl := hL.pb.lt
  have hgl := hL.gb.lt
  simp only [List.getElem?_toArray, List.getElem?_cons_zero] at cp
  have hcap : (b.length : Int) ≤ 4 * (b.length : Int) + 200 := by omega
  have hcap2 : b.length ≤ 4 * b.length + 200 := by omega
  have HS : Hid (SlBy (g + 1) w (.slice (some ⟨g, 0, none⟩) b.length (4 * b.length + 200)) b) := by
    have := SlBy.of_blk (B := g + 1) (n := 4 * b.length + 200) (k := b.length) hL.gb (by omega) (room_256 h256) (by rw [room_len (by omega)]; omega) (by omega) (by unfold maxLen; omega)
    rw [room_take] at this
    exact this
  have H256 := Lib.hid h256
  clear hL hcell h256
  go_enter Try.func23, Try.ntmps23
  go_wp2_with fail
  (with_reducible refine (samebytes_ok _ _ _ _ _ b b HS.out H.out).mono ?_)
  rintro e w1 ⟨rfl, rfl⟩
  rw [show decide (b = b) = true from decide_eq_true rfl]
  obtain ⟨W, rfl⟩ : ∃ x : World, x = w1 := ⟨_, rfl⟩
  clear HS cp
  go_wp2
  go_loopw [6, 7] (fun o t wr => ∃ i : Nat, i ≤ b.length + 70 ∧ t = .int .i64 (i : Int) ∧ o = .bool true ∧ Ex g W wr ∧ Blk wr p 40 #[.slice (some ⟨g, 0, none⟩) (4 * b.length + 200) (4 * b.length + 200)] ∧ Blk wr g 5 (bcells (room b (b.length + 70) (4 * b.length + 200))).toArray) (fun _ t _ => b.length + 70 - (intOf t).toNat)
  case atStart => exact ⟨0, by omega, rfl, rfl, Ex.refl _ _, HL.out.pb, HL.out.gb⟩
  case round =>
    obtain ⟨i, hi, rfl, rfl, hx, hp, hg⟩ := hrel
    have cp := hp.cell 0
    simp only [List.getElem?_toArray, List.getElem?_cons_zero] at cp
    have hpl2 := hp.lt
    have hgl2 := hg.lt
    have HX := Lib.hid hx
    have HP := Lib.hid hp
    have HG := Lib.hid hg
    by_cases hlt : i < b.length + 70
    · have hlt' : (i : Int) < (b.length : Int) + 70 := by omega
      have cg : wr.cell? ⟨g, b.length + i, none⟩ = some (.int .u8 (bh i : Int)) := by
        rw [hg.cell, List.getElem?_toArray]
        simp [bcells, room_get hlt]
      have hidx : (b.length : Int) + (i : Int) < 4 * (b.length : Int) + 200 := by omega
      have hidx2 : b.length + i < 4 * b.length + 200 := by omega
      have htn : ((b.length : Int) + (i : Int)).toNat = b.length + i := by omega
      have hidx0 : (0 : Int) ≤ (b.length : Int) + (i : Int) := by omega
      have hib : i ≤ 4398046511104 := by omega
      have hwr : IntKind.i64.wrap ((b.length : Int) + (i : Int)) = (b.length : Int) + (i : Int) := IntWalk.i64_in _ (by omega)
      clear hx hp hg
      go_wp2_with fail
      have cv : wr.drew.cell? ⟨p, 0, none⟩ = some (.slice (some ⟨g, 0, none⟩) (4 * b.length + 200) (4 * b.length + 200)) ∧ wr.drew.cell? ⟨g, b.length + i, none⟩ = some (.int .u8 (bh i : Int)) := ⟨cp, cg⟩
      refine wp_region_last 15 (fun w' => w'.cell? ⟨p, 0, none⟩ = some (.slice (some ⟨g, 0, none⟩) (4 * b.length + 200) (4 * b.length + 200)) ∧ w'.cell? ⟨g, b.length + i, none⟩ = some (.int .u8 (bh i : Int))) mix ?_
      refine wpAnyL_take (i := 0) (v := .bool true) rfl (by kernel_rfl) (by kernel_rfl) (by kernel_rfl) (fun _ _ _ h => h) rfl (by kernel_rfl) (Or.inl ⟨by rfl, fun w' hw' => by obtain ⟨hw1, hw2⟩ := hw'; go_simp⟩) cv ?_
      simp only [Act.put, List.getElem_toArray, List.getElem_cons_zero, List.setIfInBounds_toArray, List.set_cons_zero, List.set_cons_succ]
      refine wpAnyL_take (i := 1) (v := .bool true) rfl (by kernel_rfl) (by kernel_rfl) (by kernel_rfl) (fun _ _ _ h => h) rfl (by kernel_rfl) (Or.inl ⟨by rfl, fun w' hw' => by obtain ⟨hw1, hw2⟩ := hw'; go_simp⟩) cv ?_
      simp only [Act.put, List.getElem_toArray, List.getElem_cons_zero, List.getElem_cons_succ, List.setIfInBounds_toArray, List.set_cons_zero, List.set_cons_succ]
      refine wpAnyL_take (i := 2) (v := .pointer (some ⟨p, 0, none⟩)) rfl (by kernel_rfl) (by kernel_rfl) (by kernel_rfl) (fun _ _ _ h => h) rfl (by kernel_rfl) (Or.inl ⟨by rfl, fun w' hw' => by obtain ⟨hw1, hw2⟩ := hw'; go_simp⟩) cv ?_
      simp only [Act.put, List.getElem_toArray, List.getElem_cons_zero, List.getElem_cons_succ, List.setIfInBounds_toArray, List.set_cons_zero, List.set_cons_succ]
      refine wpAnyL_take (i := 3) (v := .pointer (some ⟨p, 0, none⟩)) rfl (by kernel_rfl) (by kernel_rfl) (by kernel_rfl) (fun _ _ _ h => h) rfl (by kernel_rfl) (Or.inl ⟨by rfl, fun w' hw' => by obtain ⟨hw1, hw2⟩ := hw'; go_simp⟩) cv ?_
      simp only [Act.put, List.getElem_toArray, List.getElem_cons_zero, List.getElem_cons_succ, List.setIfInBounds_toArray, List.set_cons_zero, List.set_cons_succ]
      refine wpAnyL_take (i := 4) (v := .pointer (some ⟨p, 0, none⟩)) rfl (by kernel_rfl) (by kernel_rfl) (by kernel_rfl) (fun _ _ _ h => h) rfl (by kernel_rfl) (Or.inl ⟨by rfl, fun w' hw' => by obtain ⟨hw1, hw2⟩ := hw'; go_simp⟩) cv ?_
      simp only [Act.put, List.getElem_toArray, List.getElem_cons_zero, List.getElem_cons_succ, List.setIfInBounds_toArray, List.set_cons_zero, List.set_cons_succ]
      refine wpAnyL_take (i := 5) (v := .slice (some ⟨g, 0, none⟩) (4 * b.length + 200) (4 * b.length + 200)) rfl (by kernel_rfl) (by kernel_rfl) (by kernel_rfl) (fun _ _ _ h => h) rfl (by kernel_rfl) (Or.inl ⟨by rfl, fun w' hw' => by obtain ⟨hw1, hw2⟩ := hw'; go_simp⟩) cv ?_
      simp only [Act.put, List.getElem_toArray, List.getElem_cons_zero, List.getElem_cons_succ, List.setIfInBounds_toArray, List.set_cons_zero, List.set_cons_succ]
      refine wpAnyL_take (i := 6) (v := .int .i64 (b.length : Int)) rfl (by kernel_rfl) (by kernel_rfl) (by kernel_rfl) (fun _ _ _ h => h) rfl (by kernel_rfl) (Or.inl ⟨by rfl, fun w' hw' => by obtain ⟨hw1, hw2⟩ := hw'; go_simp⟩) cv ?_
      simp only [Act.put, List.getElem_toArray, List.getElem_cons_zero, List.getElem_cons_succ, List.setIfInBounds_toArray, List.set_cons_zero, List.set_cons_succ]
      refine wpAnyL_take (i := 7) (v := .int .i64 (i : Int)) rfl (by kernel_rfl) (by kernel_rfl) (by kernel_rfl) (fun _ _ _ h => h) rfl (by kernel_rfl) (Or.inl ⟨by rfl, fun w' hw' => by obtain ⟨hw1, hw2⟩ := hw'; go_simp⟩) cv ?_
      simp only [Act.put, List.getElem_toArray, List.getElem_cons_zero, List.getElem_cons_succ, List.setIfInBounds_toArray, List.set_cons_zero, List.set_cons_succ]
      refine wpAnyL_take (i := 8) (v := .int .i64 ((b.length : Int) + (i : Int))) rfl (by kernel_rfl) (by kernel_rfl) (by kernel_rfl) (fun _ _ _ h => h) rfl (by kernel_rfl) (Or.inl ⟨by rfl, fun w' hw' => by obtain ⟨hw1, hw2⟩ := hw'; go_simp⟩) cv ?_
      simp only [Act.put, List.getElem_toArray, List.getElem_cons_zero, List.getElem_cons_succ, List.setIfInBounds_toArray, List.set_cons_zero, List.set_cons_succ]
      refine wpAnyL_take (i := 9) (v := .pointer (some ⟨g, b.length + i, none⟩)) rfl (by kernel_rfl) (by kernel_rfl) (by kernel_rfl) (fun _ _ _ h => h) rfl (by kernel_rfl) (Or.inl ⟨by rfl, fun w' hw' => by obtain ⟨hw1, hw2⟩ := hw'; go_simp⟩) cv ?_
      simp only [Act.put, List.getElem_toArray, List.getElem_cons_zero, List.getElem_cons_succ, List.setIfInBounds_toArray, List.set_cons_zero, List.set_cons_succ]
      refine wpAnyL_take (i := 10) (v := .int .u8 (bh i : Int)) rfl (by kernel_rfl) (by kernel_rfl) (by kernel_rfl) (fun _ _ _ h => h) rfl (by kernel_rfl) (Or.inl ⟨by rfl, fun w' hw' => by obtain ⟨hw1, hw2⟩ := hw'; go_simp⟩) cv ?_
      simp only [Act.put, List.getElem_toArray, List.getElem_cons_zero, List.getElem_cons_succ, List.setIfInBounds_toArray, List.set_cons_zero, List.set_cons_succ]
      refine wpAnyL_take (i := 11) (v := .int .i64 (i : Int)) rfl (by kernel_rfl) (by kernel_rfl) (by kernel_rfl) (fun _ _ _ h => h) rfl (by kernel_rfl) (Or.inl ⟨by rfl, fun w' hw' => by obtain ⟨hw1, hw2⟩ := hw'; go_simp⟩) cv ?_
      simp only [Act.put, List.getElem_toArray, List.getElem_cons_zero, List.getElem_cons_succ, List.setIfInBounds_toArray, List.set_cons_zero, List.set_cons_succ]
      refine wpAnyL_one (i := 12) (by kernel_rfl) rfl (fun K hK => ?_)
      go_simp
      go_wp2_with fail
      (with_reducible refine (behind_ok _ i hib).mono ?_)
      rintro e w5 ⟨rfl, rfl⟩
      go_wp2_with fail
      refine hK.out _ _ (fun _ => cv) ?_
      clear hK K
      refine wpAnyL_one (i := 13) (by kernel_rfl) rfl (fun K hK => ?_)
      go_simp
      refine hK.out _ _ (fun _ => cv) ?_
      clear hK K
      refine wpAnyL_one (i := 14) (by kernel_rfl) rfl (fun K hK => ?_)
      go_simp
      refine hK.out _ _ (fun _ => cv) ?_
      clear hK K
      refine wpAnyL_one (i := 15) (by kernel_rfl) rfl (fun K hK => ?_)
      go_simp
      refine hK.out _ _ (fun h => absurd rfl h) ?_
      clear hK K
      refine wpAnyL_done (by kernel_rfl) ?_ _
      clear cv cg cp
      go_wp2
      go_roundw
      all_goals first
        | exact ⟨i + 1, by omega, by go_num, rfl, HX.out.drew, Blk.drew HP.out, Blk.drew HG.out⟩
        | ((repeat apply Exists.intro); exact ⟨⟨i + 1, by omega, by go_num, rfl, HX.out.drew, Blk.drew HP.out, Blk.drew HG.out⟩, rfl⟩)
        | (simp [intOf]; omega)
    · have hlt' : ¬ (i : Int) < (b.length : Int) + 70 := by omega
      clear hx hp hg hlt hi cp
      obtain ⟨W2, rfl⟩ : ∃ x : World, x = wr := ⟨_, rfl⟩
      have hroom : (room b (b.length + 70) (4 * b.length + 200)).length = 4 * b.length + 200 := room_len (by omega)
      have h256r := room_256 (i := b.length + 70) (n := 4 * b.length + 200) H256.out
      obtain ⟨L0, hL0⟩ : ∃ L, L = room b (b.length + 70) (4 * b.length + 200) := ⟨_, rfl⟩
      rw [← hL0] at HG hroom h256r
      have HR0 := Lib.hid hroom
      have HR1 := Lib.hid h256r
      clear hL0 hroom h256r
      go_wp2
      go_loopw [8] (fun t wr => ∃ (j : Nat) (L : List Nat), j ≤ b.length ∧ t = .int .i64 (j : Int) ∧ Hid (L.length = 4 * b.length + 200) ∧ Hid (∀ x ∈ L, x < 256) ∧ Ex g W wr ∧ Blk wr p 40 #[.slice (some ⟨g, 0, none⟩) (4 * b.length + 200) (4 * b.length + 200)] ∧ Blk wr g 5 (bcells L).toArray) (fun t _ => b.length - (intOf t).toNat)
      case atStart => exact ⟨0, L0, by omega, rfl, HR0, HR1, HX.out, HP.out, HG.out⟩
      case round =>
        clear HR0 HR1 HX HP HG
        obtain ⟨j, L, hj, rfl, hLl, hL256, hx, hp, hg⟩ := hrel
        have cp := hp.cell 0
        simp only [List.getElem?_toArray, List.getElem?_cons_zero] at cp
        have hpl2 := hp.lt
        have hgl2 := hg.lt
        have HX := Lib.hid hx
        have HP := Lib.hid hp
        have HG := Lib.hid hg
        by_cases hlt : j < b.length
        · have hlt' : (j : Int) < (b.length : Int) := by omega
          obtain ⟨x, hxj⟩ : ∃ x, L[j]? = some x := ⟨_, List.getElem?_eq_getElem (by rw [hLl.out]; omega)⟩
          have hx256 := hL256.out x (List.mem_of_getElem? hxj)
          have cg : wr.cell? ⟨g, j, none⟩ = some (.int .u8 (x : Int)) := by
            rw [hg.cell, List.getElem?_toArray]
            simp [bcells, hxj]
          have fg := hg.frozen j
          have hxor := xor90 ⟨x, hx256⟩
          simp only at hxor
          obtain ⟨y, hy⟩ : ∃ y, y = x ^^^ 90 := ⟨_, rfl⟩
          rw [← hy] at hxor
          have hy256 : y < 256 := by rw [hy]; exact xor90_lt ⟨x, hx256⟩
          have HY := Lib.hid hy256
          have hidx : (j : Int) < 4 * (b.length : Int) + 200 := by omega
          have hidx2 : j < 4 * b.length + 200 := by omega
          have hidx0 : (0 : Int) ≤ (j : Int) := by omega
          clear hx hp hg hxj hy hy256 hx256
          go_wp2_with fail
          have cv : wr.drew.cell? ⟨p, 0, none⟩ = some (.slice (some ⟨g, 0, none⟩) (4 * b.length + 200) (4 * b.length + 200)) ∧ wr.drew.cell? ⟨g, j, none⟩ = some (.int .u8 (x : Int)) := ⟨cp, cg⟩
          refine wp_region_last 14 (fun w' => w'.cell? ⟨p, 0, none⟩ = some (.slice (some ⟨g, 0, none⟩) (4 * b.length + 200) (4 * b.length + 200)) ∧ w'.cell? ⟨g, j, none⟩ = some (.int .u8 (x : Int))) mix ?_
          refine wpAnyL_take (i := 0) (v := .pointer (some ⟨p, 0, none⟩)) rfl (by kernel_rfl) (by kernel_rfl) (by kernel_rfl) (fun _ _ _ h => h) rfl (by kernel_rfl) (Or.inl ⟨by rfl, fun w' hw' => by obtain ⟨hw1, hw2⟩ := hw'; go_simp⟩) cv ?_
          simp only [Act.put, List.getElem_toArray, List.getElem_cons_zero, List.setIfInBounds_toArray, List.set_cons_zero, List.set_cons_succ]
          refine wpAnyL_take (i := 1) (v := .pointer (some ⟨p, 0, none⟩)) rfl (by kernel_rfl) (by kernel_rfl) (by kernel_rfl) (fun _ _ _ h => h) rfl (by kernel_rfl) (Or.inl ⟨by rfl, fun w' hw' => by obtain ⟨hw1, hw2⟩ := hw'; go_simp⟩) cv ?_
          simp only [Act.put, List.getElem_toArray, List.getElem_cons_zero, List.getElem_cons_succ, List.setIfInBounds_toArray, List.set_cons_zero, List.set_cons_succ]
          refine wpAnyL_take (i := 2) (v := .pointer (some ⟨p, 0, none⟩)) rfl (by kernel_rfl) (by kernel_rfl) (by kernel_rfl) (fun _ _ _ h => h) rfl (by kernel_rfl) (Or.inl ⟨by rfl, fun w' hw' => by obtain ⟨hw1, hw2⟩ := hw'; go_simp⟩) cv ?_
          simp only [Act.put, List.getElem_toArray, List.getElem_cons_zero, List.getElem_cons_succ, List.setIfInBounds_toArray, List.set_cons_zero, List.set_cons_succ]
          refine wpAnyL_take (i := 3) (v := .slice (some ⟨g, 0, none⟩) (4 * b.length + 200) (4 * b.length + 200)) rfl (by kernel_rfl) (by kernel_rfl) (by kernel_rfl) (fun _ _ _ h => h) rfl (by kernel_rfl) (Or.inl ⟨by rfl, fun w' hw' => by obtain ⟨hw1, hw2⟩ := hw'; go_simp⟩) cv ?_
          simp only [Act.put, List.getElem_toArray, List.getElem_cons_zero, List.getElem_cons_succ, List.setIfInBounds_toArray, List.set_cons_zero, List.set_cons_succ]
          refine wpAnyL_take (i := 4) (v := .int .i64 (j : Int)) rfl (by kernel_rfl) (by kernel_rfl) (by kernel_rfl) (fun _ _ _ h => h) rfl (by kernel_rfl) (Or.inl ⟨by rfl, fun w' hw' => by obtain ⟨hw1, hw2⟩ := hw'; go_simp⟩) cv ?_
          simp only [Act.put, List.getElem_toArray, List.getElem_cons_zero, List.getElem_cons_succ, List.setIfInBounds_toArray, List.set_cons_zero, List.set_cons_succ]
          refine wpAnyL_take (i := 5) (v := .pointer (some ⟨p, 0, none⟩)) rfl (by kernel_rfl) (by kernel_rfl) (by kernel_rfl) (fun _ _ _ h => h) rfl (by kernel_rfl) (Or.inl ⟨by rfl, fun w' hw' => by obtain ⟨hw1, hw2⟩ := hw'; go_simp⟩) cv ?_
          simp only [Act.put, List.getElem_toArray, List.getElem_cons_zero, List.getElem_cons_succ, List.setIfInBounds_toArray, List.set_cons_zero, List.set_cons_succ]
          refine wpAnyL_take (i := 6) (v := .pointer (some ⟨p, 0, none⟩)) rfl (by kernel_rfl) (by kernel_rfl) (by kernel_rfl) (fun _ _ _ h => h) rfl (by kernel_rfl) (Or.inl ⟨by rfl, fun w' hw' => by obtain ⟨hw1, hw2⟩ := hw'; go_simp⟩) cv ?_
          simp only [Act.put, List.getElem_toArray, List.getElem_cons_zero, List.getElem_cons_succ, List.setIfInBounds_toArray, List.set_cons_zero, List.set_cons_succ]
          refine wpAnyL_take (i := 7) (v := .pointer (some ⟨p, 0, none⟩)) rfl (by kernel_rfl) (by kernel_rfl) (by kernel_rfl) (fun _ _ _ h => h) rfl (by kernel_rfl) (Or.inl ⟨by rfl, fun w' hw' => by obtain ⟨hw1, hw2⟩ := hw'; go_simp⟩) cv ?_
          simp only [Act.put, List.getElem_toArray, List.getElem_cons_zero, List.getElem_cons_succ, List.setIfInBounds_toArray, List.set_cons_zero, List.set_cons_succ]
          refine wpAnyL_take (i := 8) (v := .slice (some ⟨g, 0, none⟩) (4 * b.length + 200) (4 * b.length + 200)) rfl (by kernel_rfl) (by kernel_rfl) (by kernel_rfl) (fun _ _ _ h => h) rfl (by kernel_rfl) (Or.inl ⟨by rfl, fun w' hw' => by obtain ⟨hw1, hw2⟩ := hw'; go_simp⟩) cv ?_
          simp only [Act.put, List.getElem_toArray, List.getElem_cons_zero, List.getElem_cons_succ, List.setIfInBounds_toArray, List.set_cons_zero, List.set_cons_succ]
          refine wpAnyL_take (i := 9) (v := .int .i64 (j : Int)) rfl (by kernel_rfl) (by kernel_rfl) (by kernel_rfl) (fun _ _ _ h => h) rfl (by kernel_rfl) (Or.inl ⟨by rfl, fun w' hw' => by obtain ⟨hw1, hw2⟩ := hw'; go_simp⟩) cv ?_
          simp only [Act.put, List.getElem_toArray, List.getElem_cons_zero, List.getElem_cons_succ, List.setIfInBounds_toArray, List.set_cons_zero, List.set_cons_succ]
          refine wpAnyL_take (i := 10) (v := .pointer (some ⟨g, j, none⟩)) rfl (by kernel_rfl) (by kernel_rfl) (by kernel_rfl) (fun _ _ _ h => h) rfl (by kernel_rfl) (Or.inl ⟨by rfl, fun w' hw' => by obtain ⟨hw1, hw2⟩ := hw'; go_simp⟩) cv ?_
          simp only [Act.put, List.getElem_toArray, List.getElem_cons_zero, List.getElem_cons_succ, List.setIfInBounds_toArray, List.set_cons_zero, List.set_cons_succ]
          refine wpAnyL_take (i := 11) (v := .int .u8 (x : Int)) rfl (by kernel_rfl) (by kernel_rfl) (by kernel_rfl) (fun _ _ _ h => h) rfl (by kernel_rfl) (Or.inl ⟨by rfl, fun w' hw' => by obtain ⟨hw1, hw2⟩ := hw'; go_simp⟩) cv ?_
          simp only [Act.put, List.getElem_toArray, List.getElem_cons_zero, List.getElem_cons_succ, List.setIfInBounds_toArray, List.set_cons_zero, List.set_cons_succ]
          refine wpAnyL_take (i := 12) (v := .int .u8 (y : Int)) rfl (by kernel_rfl) (by kernel_rfl) (by kernel_rfl) (fun _ _ _ h => h) rfl (by kernel_rfl) (Or.inl ⟨by rfl, fun w' hw' => by obtain ⟨hw1, hw2⟩ := hw'; go_simp⟩) cv ?_
          simp only [Act.put, List.getElem_toArray, List.getElem_cons_zero, List.getElem_cons_succ, List.setIfInBounds_toArray, List.set_cons_zero, List.set_cons_succ]
          refine wpAnyL_one (i := 13) (by kernel_rfl) rfl (fun K hK => ?_)
          go_simp
          refine hK.out _ _ (fun _ => cv) ?_
          clear hK K
          refine wpAnyL_one (i := 14) (by kernel_rfl) rfl (fun K hK => ?_)
          go_simp
          refine hK.out _ _ (fun h => absurd rfl h) ?_
          clear hK K
          refine wpAnyL_done (by kernel_rfl) ?_ _
          have hgp : g ≠ p := by have h1 := HL.out.hg; have h2 := HL.out.hp; omega
          have hg2 : Blk (wr.setCell ⟨g, j, none⟩ (.int .u8 (y : Int))).drew g 5 (bcells (L.set j y)).toArray := Blk.drew ((HG.out.set j (.int .u8 (y : Int))).eq (by simp [bcells]))
          have hp2 : Blk (wr.setCell ⟨g, j, none⟩ (.int .u8 (y : Int))).drew p 40 #[.slice (some ⟨g, 0, none⟩) (4 * b.length + 200) (4 * b.length + 200)] := Blk.drew (HP.out.set_other g _ _ (fun e => hgp e.symm))
          have hx2 : Ex g W (wr.setCell ⟨g, j, none⟩ (.int .u8 (y : Int))).drew := (HX.out.set _ _).drew
          have hl2 : Hid ((L.set j y).length = 4 * b.length + 200) := by show _ = _; rw [List.length_set]; exact hLl.out
          have h2562 : Hid (∀ z ∈ L.set j y, z < 256) := set_256 hL256.out j y HY.out
          have HG2 := Lib.hid hg2
          have HP2 := Lib.hid hp2
          have HX2 := Lib.hid hx2
          clear cv cg cp fg hg2 hp2 hx2 hxor
          go_wp2
          go_roundw
          all_goals first
            | exact ⟨j + 1, L.set j y, by omega, by go_num, hl2, h2562, HX2.out, HP2.out, HG2.out⟩
            | ((repeat apply Exists.intro); exact ⟨⟨j + 1, L.set j y, by omega, by go_num, hl2, h2562, HX2.out, HP2.out, HG2.out⟩, rfl⟩)
            | (simp [intOf]; omega)
        · have hlt' : ¬ (j : Int) < (b.length : Int) := by omega
          clear hx hp hg
          go_wp2
          go_ret
          exact ⟨rfl, HX.out, L, hLl.out, HG.out⟩
end Go.Proofs.Ytfdjdpbiccclfaa
