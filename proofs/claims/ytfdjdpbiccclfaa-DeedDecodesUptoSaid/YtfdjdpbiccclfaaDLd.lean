/- The law's Lender: bytes lent with marks behind them, and are they back? -/
import Derived.Test.YtfdjdpbiccclfaaDCut
import Derived.Test.YtfdjdpbiccclfaaDHeld
import Derived.Laws.CopyOwn
import Derived.OwnWalk
import Derived.Deep.RegionHeld3
namespace Go.Proofs.Ytfdjdpbiccclfaa
open Go Go.RowKit Go.Wr
set_option maxHeartbeats 4000000
set_option maxRecDepth 100000

def bh (i : Nat) : Nat := (151 + 7 * i) % 256
theorem behind_ok (w : World) (i : Nat) (hi : i ≤ 4398046511104) : Calls Try.prog 37 #[.int .i64 (i : Int)] w fun e w' => e = .returned (.int .u8 (bh i : Int)) ∧ w' = w := by
  have h1 : wrap64 (7 * (i : Int)) = 7 * (i : Int) := by unfold wrap64; omega
  have h2 : wrap64 (151 + 7 * (i : Int)) = 151 + 7 * (i : Int) := by unfold wrap64; omega
  have h3 : IntKind.u8.wrap (151 + 7 * (i : Int)) = (bh i : Int) := by rw [IntKind.wrap_u8]; unfold bh; omega
  go_enter Try.func37, Try.ntmps37
  go_wp2
  go_ret
  exact ⟨by first | rfl | (rw [← h3]; rfl) | (unfold bh; simp), rfl⟩
/-- The room: what is lent, marks behind it, zeros. -/
def room (b : List Nat) (i n : Nat) : List Nat := b ++ (List.range i).map bh ++ List.replicate (n - b.length - i) 0
theorem room_len {b : List Nat} {i n : Nat} (h : b.length + i ≤ n) : (room b i n).length = n := by
  simp only [room, List.length_append, List.length_map, List.length_range, List.length_replicate]
  omega
theorem room_set {b : List Nat} {i n : Nat} (h : b.length + i < n) : (room b i n).set (b.length + i) (bh i) = room b (i + 1) n := by
  unfold room
  have e : n - b.length - i = (n - b.length - (i + 1)) + 1 := by omega
  rw [e, List.replicate_succ, List.range_succ, List.map_append]
  have hl : (b ++ (List.range i).map bh).length = b.length + i := by simp
  rw [List.set_append_right _ _ (by omega), hl, Nat.sub_self, List.set_cons_zero]
  simp
/-- A lender at p whose room is the block g. -/
structure Ldr (p g : Nat) (w0 : World) (b : List Nat) (i n : Nat) (wr : World) : Prop where
  pb : Blk wr p 40 #[.slice (some ⟨g, 0, none⟩) n n]
  gb : Blk wr g 5 (bcells (room b i n)).toArray
  ex : Ex p w0 wr
  hg : w0.heap.size ≤ g
  hp : p < w0.heap.size
theorem bcells_zero (n : Nat) : (madeCells (Value.int .u8 0).cells (n * 1)).toList = bcells (List.replicate n 0) := by
  have e : (Value.int IntKind.u8 0).cells = #[.int .u8 0] := rfl
  rw [e, Nat.mul_one]
  apply List.ext_getElem?
  intro i
  unfold madeCells bcells
  by_cases hi : i < n
  · rw [Array.getElem?_toList, Array.getElem?_map, Array.getElem?_range, if_pos hi, List.getElem?_map, List.getElem?_replicate, if_pos hi]
    simp [Nat.mod_one]
  · rw [List.getElem?_eq_none (by simp; omega), List.getElem?_eq_none (by simp; omega)]
theorem wrap_small {x : Int} (h0 : 0 ≤ x) (h1 : x ≤ 4611686018427387904) : wrap64 x = x := by unfold wrap64; omega
theorem sizeU8 : (Try.prog.info? 5).map (·.size) = some 1 := by kernel_rfl
theorem bcells_ones (l : List Nat) : ∀ v ∈ bcells l, v.oneCell' = true := fun v hv => by
  obtain ⟨n, _, rfl⟩ := List.mem_map.1 hv
  rfl
theorem lend_wrap {k i : Nat} (hl : k ≤ 1099511627776) (hi : i ≤ k + 70) : wrap64 ((k : Int) + (i : Int)) = (k : Int) + (i : Int) := wrap_small (by omega) (by omega)
theorem lend_wrap2 {k : Nat} (hl : k ≤ 1099511627776) : wrap64 ((k : Int) + 70) = (k : Int) + 70 := wrap_small (by omega) (by omega)
theorem lend_ok (w : World) (p : Nat) (hp : Blk w p 40 #[.slice none 0 0]) (v : Value) (b : List Nat) (B : Nat) (h : SlBy B w v b) (hB : B ≤ p) (hl : b.length ≤ 1099511627776) :
    Calls Try.prog 19 #[.pointer (some ⟨p, 0, none⟩), v] w fun e w' => ∃ g, e = .returned (.slice (some ⟨g, 0, none⟩) b.length (4 * b.length + 200)) ∧ Ldr p g w b (b.length + 70) (4 * b.length + 200) w' := by
  have H := Lib.hid h
  obtain ⟨a0, cap, hv, hc1, hc2, hcell⟩ := h
  subst hv
  have HC := Lib.hid hcell
  have HP := Lib.hid hp
  have hpl := hp.lt
  have c0 := hp.cell 0
  have f0 := hp.frozen 0
  simp only [List.getElem?_toArray, List.getElem?_cons_zero] at c0
  obtain ⟨i0, hi, hz0, hz1, hz2⟩ := info_parts infoU8
  have Hi := Lib.hid hi
  have hm1 : wrap64 (2 * (b.length : Int)) = 2 * (b.length : Int) := wrap_small (by omega) (by omega)
  have hm2 : wrap64 (4 * (b.length : Int)) = 4 * (b.length : Int) := wrap_small (by omega) (by omega)
  clear hcell hp hi
  go_enter Try.func19, Try.ntmps19
  go_upto_region 4 with (at_make; refine wpList_make_full _ rfl _ _ _ rfl w.heap.size 5 i0 _ 1 Try.underlying28 Hi.out hz0 hz1 _ _ _ _ (4 * b.length + 200) rfl rfl (by omega) (by omega) (by rw [hz2]; omega) (by unfold maxLen; omega) (Nat.le_refl _) ?_; intro w1 hown hgrow; have hP1 := HP.out.of_block (hgrow.block p hpl (fun e => by cases e)); have c0 := hP1.cell 0; have f0 := hP1.frozen 0; simp only [List.getElem?_toArray, List.getElem?_cons_zero] at c0)
  obtain ⟨g, hg⟩ : ∃ g, g = w.heap.size := ⟨_, rfl⟩
  have G1 : Blk w1 w.heap.size 5 (bcells (List.replicate (4 * b.length + 200) 0)).toArray := by
    rcases hown.2 with ⟨e, _⟩ | ⟨g', c', cur, e, _, hb, h5, h6, h7, h8⟩
    · cases e
    · injection e with e1 e2 e3
      injection e1 with e1
      injection e1 with e1
      subst e1
      subst e3
      have hcur : cur = (bcells (List.replicate (4 * b.length + 200) 0)).toArray := by
        rw [List.take_of_length_le (by rw [Array.length_toList, h7]; omega)] at h8
        rw [← bcells_zero, ← h8]
      rw [hcur] at hb
      exact hb
  have x1 : Ex p w w1 := ⟨hgrow.os, hgrow.tape, hgrow.output, hgrow.size, fun k hk _ => hgrow.block k hk (fun e => by cases e)⟩
  rw [← hg] at G1 ⊢
  generalize hV : w1.setCell _ _ = V
  have hgp : g ≠ p := by omega
  have PV : Blk V p 40 #[.slice (some ⟨g, 0, none⟩) (4 * b.length + 200) (4 * b.length + 200)] := by rw [← hV]; exact (hP1.set 0 _).eq rfl
  have GV : Blk V g 5 (bcells (List.replicate (4 * b.length + 200) 0)).toArray := by rw [← hV]; exact G1.set_other p 0 _ hgp
  have xV : Ex p w V := by rw [← hV]; exact x1.set 0 _
  have HPV := Lib.hid PV
  have HGV := Lib.hid GV
  have HXV := Lib.hid xV
  have cp := PV.cell 0
  simp only [List.getElem?_toArray, List.getElem?_cons_zero] at cp
  have hwg : w.heap.size ≤ g := by omega
  clear hV hown hgrow hP1 c0 f0 G1 x1 PV GV xV hg
  have hn : (bcells b).length = Nat.min b.length (4 * b.length + 200) := by rw [bcells_len]; exact (Nat.min_eq_left (by omega)).symm
  have hpos : 0 < (bcells b).length → ∃ ad, a0 = some ad ∧ ∀ (j : Nat) (u : Value), (bcells b)[j]? = some u → V.cell? (ad.add j) = some u := fun hp => by
    rw [bcells_len] at hp
    have hne : b ≠ [] := List.length_pos_iff.1 hp
    obtain ⟨x, hx⟩ : ∃ x, b[0]? = some x := ⟨_, List.getElem?_eq_getElem hp⟩
    obtain ⟨bb, off, e, _⟩ := HC.out 0 x hx
    subst e
    have hS : SlBy B V _ b := H.out.below (HXV.out.below hB (by omega))
    exact ⟨_, rfl, (hS.news rfl hne).2.2⟩
  have hfit : 0 + (bcells b).length ≤ (bcells (List.replicate (4 * b.length + 200) 0)).length := by rw [bcells_len, bcells_len, List.length_replicate]; omega
  have HNn := Lib.hid hn
  have HPos := Lib.hid hpos
  have HFit := Lib.hid hfit
  have HOne := Lib.hid (bcells_ones b)
  clear hn hpos hfit
  go_upto_region 5 with (refine wpList_copy_splice rfl (.tmp 28) (.tmp 29) 28 28 rfl 5 Try.underlying28 sizeU8 (some ⟨g, 0, none⟩) a0 (4 * b.length + 200) (4 * b.length + 200) b.length cap rfl rfl g 0 (bcells (List.replicate (4 * b.length + 200) 0)) 5 HGV.out (bcells b) HNn.out (fun hp => ⟨rfl, HPos.out hp⟩) HFit.out HOne.out g V (Below.refl _ _) (Nat.le_refl _) ?_; intro w3 G3 hB3)
  have hspl : splice (bcells (List.replicate (4 * b.length + 200) 0)) 0 (bcells b) = bcells (room b 0 (4 * b.length + 200)) := by
    unfold splice room bcells
    simp
  have hg3 := G3.out
  rw [hspl] at hg3
  have hwV := HXV.out.size
  have L3 : Ldr p g w b 0 (4 * b.length + 200) w3 := by
    refine ⟨HPV.out.of_block (hB3.block p (by omega)), hg3, ⟨hB3.os.trans HXV.out.os, hB3.tape.trans HXV.out.tape, hB3.output.trans HXV.out.output, Nat.le_trans HXV.out.size hB3.size, fun k hk hkp => (hB3.block k (by omega)).trans (HXV.out.block k hk hkp)⟩, hwg, hpl⟩
  have HL3 := Lib.hid L3
  clear hm1 hm2 hspl hg3 L3 G3 hB3 HGV HPV HXV HNn HPos HFit HOne cp
  go_wp2
  go_loopw [6] (fun t wr => ∃ i : Nat, i ≤ b.length + 70 ∧ t = .int .i64 (i : Int) ∧ Ldr p g w b i (4 * b.length + 200) wr) (fun t _ => b.length + 70 - (intOf t).toNat)
  case atStart => exact ⟨0, by omega, rfl, HL3.out⟩
  case round =>
    clear HL3
    obtain ⟨i, hi, rfl, hL⟩ := hrel
    have cp := hL.pb.cell 0
    simp only [List.getElem?_toArray, List.getElem?_cons_zero] at cp
    have hpl2 := hL.pb.lt
    have hgl2 := hL.gb.lt
    have HL := Lib.hid hL
    by_cases hlt : i < b.length + 70
    · have hlt' : (i : Int) < (b.length : Int) + 70 := by omega
      have hxo : ∃ u, (bcells (room b i (4 * b.length + 200))).toArray[b.length + i]? = some u := ⟨_, Array.getElem?_eq_getElem (by simp [bcells_len]; rw [room_len (by omega)]; omega)⟩
      obtain ⟨u, hu⟩ := hxo
      have cg := (hL.gb.cell (b.length + i)).trans hu
      have fg := hL.gb.frozen (b.length + i)
      clear hL hu
      have hidx : (b.length : Int) + (i : Int) < 4 * (b.length : Int) + 200 := by omega
      have hidx2 : b.length + i < 4 * b.length + 200 := by omega
      have htn : ((b.length : Int) + (i : Int)).toNat = b.length + i := by omega
      have hidx0 : (0 : Int) ≤ (b.length : Int) + (i : Int) := by omega
      have hidx3 : (b.length : Int) + (i : Int) < ((4 * b.length + 200 : Nat) : Int) := by omega
      have hib : i ≤ 4398046511104 := by omega
      have hwr : IntKind.i64.wrap ((b.length : Int) + (i : Int)) = (b.length : Int) + (i : Int) := IntWalk.i64_in _ (by omega)
      go_wp2_with fail
      have cv : wr.drew.cell? ⟨p, 0, none⟩ = some (.slice (some ⟨g, 0, none⟩) (4 * b.length + 200) (4 * b.length + 200)) := cp
      refine wp_region_last 10 (fun w' => w'.cell? ⟨p, 0, none⟩ = some (.slice (some ⟨g, 0, none⟩) (4 * b.length + 200) (4 * b.length + 200))) mix ?_
      refine wpAnyL_take (i := 0) (v := .pointer (some ⟨p, 0, none⟩)) rfl (by kernel_rfl) (by kernel_rfl) (by kernel_rfl) (fun _ _ _ h => h) rfl (by kernel_rfl) (Or.inl ⟨by rfl, fun w' hw' => by go_simp⟩) cv ?_
      simp only [Act.put, List.getElem_toArray, List.getElem_cons_zero, List.setIfInBounds_toArray, List.set_cons_zero, List.set_cons_succ]
      refine wpAnyL_take (i := 1) (v := .pointer (some ⟨p, 0, none⟩)) rfl (by kernel_rfl) (by kernel_rfl) (by kernel_rfl) (fun _ _ _ h => h) rfl (by kernel_rfl) (Or.inl ⟨by rfl, fun w' hw' => by go_simp⟩) cv ?_
      simp only [Act.put, List.getElem_toArray, List.getElem_cons_zero, List.getElem_cons_succ, List.setIfInBounds_toArray, List.set_cons_zero, List.set_cons_succ]
      refine wpAnyL_take (i := 2) (v := .pointer (some ⟨p, 0, none⟩)) rfl (by kernel_rfl) (by kernel_rfl) (by kernel_rfl) (fun _ _ _ h => h) rfl (by kernel_rfl) (Or.inl ⟨by rfl, fun w' hw' => by go_simp⟩) cv ?_
      simp only [Act.put, List.getElem_toArray, List.getElem_cons_zero, List.getElem_cons_succ, List.setIfInBounds_toArray, List.set_cons_zero, List.set_cons_succ]
      refine wpAnyL_take (i := 3) (v := .slice (some ⟨g, 0, none⟩) (4 * b.length + 200) (4 * b.length + 200)) rfl (by kernel_rfl) (by kernel_rfl) (by kernel_rfl) (fun _ _ _ h => h) rfl (by kernel_rfl) (Or.inl ⟨by rfl, fun w' hw' => by go_simp⟩) cv ?_
      simp only [Act.put, List.getElem_toArray, List.getElem_cons_zero, List.getElem_cons_succ, List.setIfInBounds_toArray, List.set_cons_zero, List.set_cons_succ]
      refine wpAnyL_take (i := 4) (v := .int .i64 (b.length : Int)) rfl (by kernel_rfl) (by kernel_rfl) (by kernel_rfl) (fun _ _ _ h => h) rfl (by kernel_rfl) (Or.inl ⟨by rfl, fun w' hw' => by go_simp⟩) cv ?_
      simp only [Act.put, List.getElem_toArray, List.getElem_cons_zero, List.getElem_cons_succ, List.setIfInBounds_toArray, List.set_cons_zero, List.set_cons_succ]
      refine wpAnyL_take (i := 5) (v := .int .i64 (i : Int)) rfl (by kernel_rfl) (by kernel_rfl) (by kernel_rfl) (fun _ _ _ h => h) rfl (by kernel_rfl) (Or.inl ⟨by rfl, fun w' hw' => by go_simp⟩) cv ?_
      simp only [Act.put, List.getElem_toArray, List.getElem_cons_zero, List.getElem_cons_succ, List.setIfInBounds_toArray, List.set_cons_zero, List.set_cons_succ]
      refine wpAnyL_take (i := 6) (v := .int .i64 ((b.length : Int) + (i : Int))) rfl (by kernel_rfl) (by kernel_rfl) (by kernel_rfl) (fun _ _ _ h => h) rfl (by kernel_rfl) (Or.inl ⟨by rfl, fun w' hw' => by go_simp⟩) cv ?_
      simp only [Act.put, List.getElem_toArray, List.getElem_cons_zero, List.getElem_cons_succ, List.setIfInBounds_toArray, List.set_cons_zero, List.set_cons_succ]
      refine wpAnyL_take (i := 7) (v := .int .i64 (i : Int)) rfl (by kernel_rfl) (by kernel_rfl) (by kernel_rfl) (fun _ _ _ h => h) rfl (by kernel_rfl) (Or.inl ⟨by rfl, fun w' hw' => by go_simp⟩) cv ?_
      simp only [Act.put, List.getElem_toArray, List.getElem_cons_zero, List.getElem_cons_succ, List.setIfInBounds_toArray, List.set_cons_zero, List.set_cons_succ]
      refine wpAnyL_one (i := 8) (by kernel_rfl) rfl (fun K hK => ?_)
      go_simp
      go_wp2_with fail
      (with_reducible refine (behind_ok _ i hib).mono ?_)
      rintro e w5 ⟨rfl, rfl⟩
      go_wp2_with fail
      refine hK.out _ _ (fun _ => cv) ?_
      clear hK K
      refine wpAnyL_one (i := 9) (by kernel_rfl) rfl (fun K hK => ?_)
      go_simp
      refine hK.out _ _ (fun _ => cv) ?_
      clear hK K
      refine wpAnyL_one (i := 10) (by kernel_rfl) rfl (fun K hK => ?_)
      go_simp
      refine hK.out _ _ (fun h => absurd rfl h) ?_
      clear hK K
      refine wpAnyL_done (by kernel_rfl) ?_ _
      have hL2 : Ldr p g w b (i + 1) (4 * b.length + 200) (wr.setCell ⟨g, b.length + i, none⟩ (.int .u8 (bh i : Int))).drew := by
        have hgp : g ≠ p := by omega
        refine ⟨Blk.drew (HL.out.pb.set_other g _ _ (fun e => hgp e.symm)), Blk.drew ((HL.out.gb.set (b.length + i) (.int .u8 (bh i : Int))).eq ?_), (HL.out.ex.set_new _ hwg).drew, hwg, hpl⟩
        rw [← room_set hidx2]
        simp [bcells]
      have HL2 := Lib.hid hL2
      clear hL2 HL cg fg cp
      go_wp2
      go_roundw
      all_goals first
        | exact ⟨i + 1, by omega, by go_num, HL2.out⟩
        | ((repeat apply Exists.intro); exact ⟨⟨i + 1, by omega, by go_num, HL2.out⟩, rfl⟩)
        | (simp [intOf]; omega)
    · have hlt' : ¬ (i : Int) < (b.length : Int) + 70 := by omega
      have hie : i = b.length + 70 := by omega
      rw [hie] at HL
      clear hL hie hlt
      clear hi
      have hcap : (b.length : Int) ≤ 4 * (b.length : Int) + 200 := by omega
      have hcap2 : b.length ≤ 4 * b.length + 200 := by omega
      go_wp2
      go_ret
      exact ⟨g, rfl, HL.out⟩
end Go.Proofs.Ytfdjdpbiccclfaa
