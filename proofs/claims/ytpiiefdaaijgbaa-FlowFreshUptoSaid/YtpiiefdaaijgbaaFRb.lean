/- The document's row of an instruction: find; its error: Right. -/
import Derived.Test.YtpiiefdaaijgbaaFRa
import Derived.Test.YtpiiefdaaijgbaaFCo
namespace Go.Proofs.Ytpiiefdaaijgbaa
open Go Go.RowKit Go.Wr Go.Fl
set_option maxHeartbeats 4000000
set_option maxRecDepth 100000

theorem results_cell_tmp {P : Program} {fn : Func} {p t : Tmp} {ty : TypeId} (h : fn.results = #[.cell p ty, .tmp t]) {tmps : Array Value} {w : World} {g : Nat} {T : TypeId} {C : Array Value}
    (hp : tmps.getD p undef = .pointer (some ⟨g, 0, none⟩)) (hg : Blk w g T C) (hr : RowTy P ty C.size) : (results fn tmps).run P w = .ok (.tuple #[.agg C, tmps.getD t undef]) w := by
  obtain ⟨d, hu, hd, hi⟩ := hr
  have hp' : tmps[p]?.getD undef = .pointer (some ⟨g, 0, none⟩) := by simpa using hp
  simp [results, h, hp', asAddr, run_loadVar_row w g T ty C (0, 0) d hg hu (by cases d <;> simp_all [TypeDesc.isRow]) hi]
theorem rowRow : RowTy Try.prog 166 11 := ⟨_, Try.underlying166, rfl, by kernel_rfl⟩
theorem at_row {w : World} {b o : Nat} {y : Rw} (h : At w b o (rwv y)) : w.cell? ⟨b, o, none⟩ = some (.int .i64 y.code) ∧ w.cell? ⟨b, o + 1, none⟩ = some (.int .i64 y.op) ∧ w.cell? ⟨b, o + 2, none⟩ = some (.int .i64 y.sz) ∧ w.cell? ⟨b, o + 3, none⟩ = some (.bool y.nar) ∧
    w.cell? ⟨b, o + 4, none⟩ = some (.bool y.reg) ∧ w.cell? ⟨b, o + 5, none⟩ = some (.int .i64 y.dst) ∧ w.cell? ⟨b, o + 6, none⟩ = some (.int .i64 y.src) ∧ w.cell? ⟨b, o + 7, none⟩ = some (.int .i64 y.off) ∧ w.cell? ⟨b, o + 8, none⟩ = some (.int .i64 y.imm) ∧
    w.cell? ⟨b, o + 9, none⟩ = some (.int .i64 y.second) ∧ w.cell? ⟨b, o + 10, none⟩ = some (.bool y.wr) :=
  ⟨h.cell 0 _ rfl, h.cell 1 _ rfl, h.cell 2 _ rfl, h.cell 3 _ rfl, h.cell 4 _ rfl, h.cell 5 _ rfl, h.cell 6 _ rfl, h.cell 7 _ rfl, h.cell 8 _ rfl, h.cell 9 _ rfl, h.cell 10 _ rfl⟩
def zrw : Rw := ⟨0, 0, 0, false, false, 0, 0, 0, 0, 0, false⟩
/-- What find answers. -/
def FindP (o : Option Rw) (e : Ending) : Prop := match o with
  | some y => e = .returned (.tuple #[.agg (rwa y), .bool true])
  | none => e = .returned (.tuple #[.agg (rwa zrw), .bool false])
theorem find_ok (w : World) (p : Nat) (v : Value) (l : List Rw) (x : In) (h : SlX tR p w v l) :
    Calls Try.prog 125 #[v, .agg (inv x)] w fun e w' => FindP (l.find? (fit x.op x.sz x.nar x.reg)) e ∧ Below w.heap.size w w' := by
  obtain ⟨r, hr⟩ : ∃ r, r = l.find? (fit x.op x.sz x.nar x.reg) := ⟨_, rfl⟩
  rw [← hr]
  have HR := Lib.hid hr
  obtain ⟨a0, cap, rfl, h1, h2⟩ := h.form
  have H := Lib.hid h
  unfold maxLen at h2
  clear hr h
  have hv : inv x = #[.int .i64 x.op, .bool x.nar, .bool x.reg, .int .i64 x.sz, .int .i64 x.dst, .int .i64 x.src, .int .i64 x.off, .int .i64 x.imm] := rfl
  rw [hv]
  go_enter Try.func125, Try.ntmps125
  go_upto_region 1 with (fail)
  rw [← hv]
  generalize hW : ((w.alloc (.cells (inv x) 57)).alloc _) = W
  have PX : Blk W w.heap.size 57 (inv x) := by rw [← hW]; exact (Blk.new _ _ _).alloc _
  have PZ : Blk W (w.heap.size + 1) 166 (rwa zrw) := by rw [← hW]; exact Blk.new_at _ _ (by simp)
  have bW : Below w.heap.size w W := by rw [← hW]; exact bAl (bAl (bRefl w) _) _
  have HX := Lib.hid PX
  have HZ := Lib.hid PZ
  clear hW PX PZ hv
  go_wp2
  go_loopw [6] (fun t wr => ∃ k : Nat, k ≤ l.length ∧ t = .int .i64 (k : Int) ∧ Hid (r = (l.drop k).find? (fit x.op x.sz x.nar x.reg)) ∧ Below w.heap.size w wr ∧ Below W.heap.size W wr) (fun t _ => l.length - (intOf t).toNat)
  case atStart => exact ⟨0, by omega, rfl, HR.out, bW, bRefl W⟩
  case round =>
    clear HR bW
    obtain ⟨k, hk, rfl, hq, hb, hbW⟩ := hrel
    have PX := HX.out.below hbW HX.out.lt
    have PZ := HZ.out.below hbW HZ.out.lt
    by_cases hlt : k < l.length
    · have hlt' : (k : Int) < (l.length : Int) := by omega
      obtain ⟨y, hy⟩ : ∃ y, l[k]? = some y := ⟨_, List.getElem?_eq_getElem hlt⟩
      have hd : l.drop k = y :: l.drop (k + 1) := by
        rw [List.drop_eq_getElem_cons hlt]
        rw [List.getElem?_eq_getElem hlt] at hy
        injection hy with hy
        rw [hy]
      have hq2 := hq.out
      rw [hd, List.find?_cons] at hq2
      obtain ⟨bb, off, rfl, hne, hat⟩ := (H.out.below hb).get hy
      obtain ⟨c0, c1, c2, c3, c4, c5, c6, c7, c8, c9, ca⟩ := at_row hat
      have e8 : tR.n = 11 := rfl
      rw [e8] at c0 c1 c2 c3 c4 c5 c6 c7 c8 c9 ca
      obtain ⟨x0, x1, x2, x3, _⟩ := inv_cells PX
      have z0 := PZ.frozen
      have hpz := PZ.lt
      have hpx := PX.lt
      clear hq hd hy hat e8
      have HQ := Lib.hid hq2
      have HPZ := Lib.hid PZ
      clear hq2 PX PZ
      have no : fit x.op x.sz x.nar x.reg y = false → Hid (r = (l.drop (k + 1)).find? (fit x.op x.sz x.nar x.reg)) := fun e => by show _ = _; rw [HQ.out, e]
      have hfit : fit x.op x.sz x.nar x.reg y = (y.op == x.op && (y.nar == x.nar && (y.reg == x.reg && y.sz == x.sz))) := rfl
      by_cases k1 : y.op = x.op
      · by_cases k2 : y.nar = x.nar
        · by_cases k3 : y.reg = x.reg
          · by_cases k4 : y.sz = x.sz
            · have e1 : Hid (r = some y) := by show _ = _; rw [HQ.out, hfit]; simp [k1, k2, k3, k4]
              have m1 : (y.op == x.op) = true := by simp [k1]
              have m2 : (y.nar == x.nar) = true := by simp [k2]
              have m3 : (y.reg == x.reg) = true := by simp [k3]
              have m4 : (y.sz == x.sz) = true := by simp [k4]
              clear HQ no hfit k1 k2 k3 k4
              go_upto_region 6 with (fail)
              have HA := Lib.hid (HPZ.out.alloc (.cells (rwa y) 166))
              have hbA := hb.alloc hb.size (.cells (rwa y) 166)
              clear c0 c1 c2 c3 c4 c5 c6 c7 c8 c9 ca x0 x1 x2 x3 z0
              go_wp2_with (refine wpl_store rfl 166 (.tmp 4) (.tmp 44) rfl (w.heap.size + 1) 0 rfl (D := rwa y) rfl HA.out rowRow rfl (by decide) (oneSimp rfl) ?_; intro w9 on9 p9)
              have p9' : Blk w9 (w.heap.size + 1) 166 (rwa y) := p9.eq (spl_all _ _ rfl)
              try simp only [Exit.inBlock, Exit.then]
              refine bodyPost_ret (results_cell_tmp rfl rfl p9' rowRow) rfl ?_
              exact ⟨by rw [e1.out]; exact rfl, hbA.trans (on9.below (by omega))⟩
            · have m1 : (y.op == x.op) = true := by simp [k1]
              have m2 : (y.nar == x.nar) = true := by simp [k2]
              have m3 : (y.reg == x.reg) = true := by simp [k3]
              have m4 : (y.sz == x.sz) = false := by simp [k4]
              have e1 := no (by rw [hfit]; simp [k1, k2, k3, k4])
              have b9 := hb.alloc hb.size (.cells (rwa y) 166)
              have b9W := hbW.alloc hbW.size (.cells (rwa y) 166)
              clear HQ no hfit k1 k2 k3 k4 HPZ
              go_wp2
              go_roundw
              all_goals first
                | exact ⟨k + 1, by omega, by go_num, e1, b9, b9W⟩
                | ((repeat apply Exists.intro); exact ⟨⟨k + 1, by omega, by go_num, e1, b9, b9W⟩, rfl⟩)
                | (simp [intOf]; omega)
          · have m1 : (y.op == x.op) = true := by simp [k1]
            have m2 : (y.nar == x.nar) = true := by simp [k2]
            have m3 : (y.reg == x.reg) = false := by simp [k3]
            have e1 := no (by rw [hfit]; simp [k1, k2, k3])
            have b9 := hb.alloc hb.size (.cells (rwa y) 166)
            have b9W := hbW.alloc hbW.size (.cells (rwa y) 166)
            clear HQ no hfit k1 k2 k3 HPZ
            go_wp2
            go_roundw
            all_goals first
              | exact ⟨k + 1, by omega, by go_num, e1, b9, b9W⟩
              | ((repeat apply Exists.intro); exact ⟨⟨k + 1, by omega, by go_num, e1, b9, b9W⟩, rfl⟩)
              | (simp [intOf]; omega)
        · have m1 : (y.op == x.op) = true := by simp [k1]
          have m2 : (y.nar == x.nar) = false := by simp [k2]
          have e1 := no (by rw [hfit]; simp [k1, k2])
          have b9 := hb.alloc hb.size (.cells (rwa y) 166)
          have b9W := hbW.alloc hbW.size (.cells (rwa y) 166)
          clear HQ no hfit k1 k2 HPZ
          go_wp2
          go_roundw
          all_goals first
            | exact ⟨k + 1, by omega, by go_num, e1, b9, b9W⟩
            | ((repeat apply Exists.intro); exact ⟨⟨k + 1, by omega, by go_num, e1, b9, b9W⟩, rfl⟩)
            | (simp [intOf]; omega)
      · have m1 : (y.op == x.op) = false := by simp [k1]
        have e1 := no (by rw [hfit]; simp [k1])
        have b9 := hb.alloc hb.size (.cells (rwa y) 166)
        have b9W := hbW.alloc hbW.size (.cells (rwa y) 166)
        clear HQ no hfit k1 HPZ
        go_wp2
        go_roundw
        all_goals first
          | exact ⟨k + 1, by omega, by go_num, e1, b9, b9W⟩
          | ((repeat apply Exists.intro); exact ⟨⟨k + 1, by omega, by go_num, e1, b9, b9W⟩, rfl⟩)
          | (simp [intOf]; omega)
    · obtain rfl : k = l.length := by omega
      have e1 : Hid (r = none) := by show _ = _; rw [hq.out, List.drop_length]; rfl
      have HPZ := Lib.hid PZ
      clear hlt hq PX PZ
      go_upto_region 7 with (fail)
      go_wp2_with (refine wpl_store rfl 166 (.tmp 4) (.tmp 45) rfl (w.heap.size + 1) 0 rfl (D := rwa zrw) rfl HPZ.out rowRow rfl (by decide) (oneSimp rfl) ?_; intro w9 on9 p9)
      have p9' : Blk w9 (w.heap.size + 1) 166 (rwa zrw) := p9.eq (spl_all _ _ rfl)
      try simp only [Exit.inBlock, Exit.then]
      refine bodyPost_ret (results_cell_tmp rfl rfl p9' rowRow) rfl ?_
      exact ⟨by rw [e1.out]; exact rfl, hb.trans (on9.below (by omega))⟩
end Go.Proofs.Ytpiiefdaaijgbaa
