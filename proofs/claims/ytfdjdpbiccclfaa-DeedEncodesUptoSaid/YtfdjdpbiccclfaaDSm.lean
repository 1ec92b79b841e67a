/- The law's small deed and its bytes. -/
import Derived.Test.YtfdjdpbiccclfaaDSd
namespace Go.Wr
open Go Go.RowKit
variable {P : Program}
theorem wpl_run {ops : Array Oper} {rest : List Oper} {op : Oper} {a : Act} {w w' : World} {Q : Exit → Act → World → Prop} (hgd : op.guard = none) (v : Value) (hrun : (execOp a.eval op).run P w = .ok (.value v) w')
    (h : wpList P ops Q rest (a.put op.dst v) w') : wpList P ops Q (op :: rest) a w := by
  refine wpList_plain hgd fun K hK => ?_
  unfold Oper.wp
  rw [hrun]
  exact hK _ _ h
end Go.Wr
namespace Go.Proofs.Ytfdjdpbiccclfaa
open Go Go.RowKit Go.Wr
set_option maxHeartbeats 4000000
set_option maxRecDepth 100000

def fS : Nat → Tg := fun k => if k = 1 then ⟨3, 0, 0⟩ else if k = 2 then ⟨1, 0, 0⟩ else if k = 41 then ⟨1, 0, 0⟩ else if k = 40 then ⟨0, 0, 15⟩ else ⟨0, 0, 0⟩
def dS : Dd := ⟨[], [⟨false, fS, [⟨3, 0, 100⟩]⟩]⟩
def bS : List Nat := [87, 65, 82, 49, 0, 1, 1, 0, 3, 1, 0, 0, 0, 0, 0, 0, 0, 2, 30, 0, 15, 31, 1, 1, 3, 0, 200, 1]
theorem cellsS (v : Value) : (((((bx (.bool false) f0 (.slice none 0 0)).setIfInBounds 4 (.int .i64 3)).setIfInBounds 7 (.int .i64 1)).setIfInBounds 124 (.int .i64 1)).setIfInBounds 123 (.int .i64 15)).setIfInBounds 127 v = bx (.bool false) fS v := by kernel_rfl

theorem SlBy.of_own {B : Nat} {w : World} {v : Value} {l : List Nat} (h : w.ownsRow B 5 1 v l.length (bcells l)) (h256 : ∀ x ∈ l, x < 256) : SlBy w.heap.size w v l := by
  obtain ⟨h1, h2⟩ := h
  rcases h2 with ⟨rfl, h0⟩ | ⟨g, cap, cur, rfl, hg, hb, hle, hcap, hsz, htk⟩
  · have := List.eq_nil_of_length_eq_zero h0
    subst this
    exact ⟨none, 0, rfl, by simp, by decide, fun k x hx => by simp at hx⟩
  · have hb' : Blk w g 5 cur := hb
    refine ⟨some ⟨g, 0, none⟩, cap, rfl, hle, hcap, fun k x hx => ⟨g, 0, rfl, hb'.lt, h256 x (List.mem_of_getElem? hx), ?_⟩⟩
    have hk : k < l.length := (List.getElem?_eq_some_iff.1 hx).1
    have h0 : (bcells l)[k]? = some (.int .u8 (x : Int)) := by simp only [bcells, List.getElem?_map, hx]; rfl
    rw [← htk] at h0
    rw [List.getElem?_take, if_pos (by omega), Array.getElem?_toList] at h0
    rw [Nat.zero_add]
    exact (hb'.cell _).trans h0
theorem SlBy.lit {w : World} {g : Nat} {l : List Nat} {C : Array Value} (h : Blk w g 5 C) (hC : C.toList = bcells l) (h256 : ∀ x ∈ l, x < 256) (hl : l.length ≤ maxLen) : SlBy w.heap.size w (.slice (some ⟨g, 0, none⟩) l.length l.length) l := by
  refine ⟨_, _, rfl, Nat.le_refl _, hl, fun k x hx => ⟨g, 0, rfl, h.lt, h256 x (List.mem_of_getElem? hx), ?_⟩⟩
  rw [Nat.zero_add, h.cell k, ← Array.getElem?_toList, hC]
  simp only [bcells, List.getElem?_map, hx]
  rfl

theorem World.rangeAt_of_blk {w : World} {b : Nat} {T : TypeId} {C : Array Value} (h : Blk w b T C) : w.rangeAt b (0 + 0 * 128) C.toList := fun j v hj => by
  rw [Nat.zero_mul, Nat.zero_add, h.cell j, ← Array.getElem?_toList]
  exact hj
theorem small_res (w : World) (tmps : Array Value) (p : Nat) (al ac : Option Addr) (nl cl nc cc : Nat) (v : Value) (h0 : tmps.getD 0 undef = .pointer (some ⟨p, 0, none⟩)) (h1 : tmps.getD 1 undef = v)
    (c0 : w.cell? ⟨p, 0, none⟩ = some (.slice al nl cl)) (c1 : w.cell? ⟨p, 1, none⟩ = some (.slice ac nc cc)) :
    (results Try.f27 tmps).run Try.prog w = .ok (.tuple #[.agg #[.slice al nl cl, .slice ac nc cc], v]) w := by
  simp only [Array.getD_eq_getD_getElem?] at h0 h1
  simp [results, Try.results27, go_sem, h0, h1, c0, c1]
theorem small_ok (w : World) : Calls Try.prog 27 #[] w fun e w' => ∃ vl vc vb, e = .returned (.tuple #[.agg #[vl, vc], vb]) ∧ SlD w'.heap.size w' vl vc dS ∧ SlBy w'.heap.size w' vb bS ∧ Below w.heap.size w w' := by
  have hz := zeroClaim
  go_enter Try.func27, Try.ntmps27
  go_upto_region 2 with (fail)
  generalize hW : (w.alloc (.cells #[.slice none 0 0, .slice none 0 0] 26)).alloc (.cells (bx (.bool false) f0 (.slice none 0 0)) 61) = W
  have tW : Below w.heap.size w W := by rw [← hW]; exact bAl (bAl (bRefl w) _) _
  have hP : Blk W w.heap.size 26 #[.slice none 0 0, .slice none 0 0] := by rw [← hW]; exact (Blk.new _ _ _).alloc _
  have hQ : Blk W (w.heap.size + 1) 61 (bx (.bool false) f0 (.slice none 0 0)) := by rw [← hW]; exact Blk.new_at _ _ (by simp)
  have s4 : W.cell? ⟨w.heap.size + 1, 4, none⟩ = some (.int .i64 0) := hQ.cell 4
  have s7 : W.cell? ⟨w.heap.size + 1, 7, none⟩ = some (.int .i64 0) := hQ.cell 7
  have s124 : W.cell? ⟨w.heap.size + 1, 124, none⟩ = some (.int .i64 0) := hQ.cell 124
  have s123 : W.cell? ⟨w.heap.size + 1, 123, none⟩ = some (.int .i64 0) := hQ.cell 123
  have s127 : W.cell? ⟨w.heap.size + 1, 127, none⟩ = some (.slice none 0 0) := hQ.cell 127
  have f4 := hQ.frozen 4
  have f7 := hQ.frozen 7
  have f124 := hQ.frozen 124
  have f123 := hQ.frozen 123
  have f127 := hQ.frozen 127
  have hql := hQ.lt
  have HP := Lib.hid hP
  have HQ := Lib.hid hQ
  clear hW hP hQ hz
  go_upto_region 7 with (fail)
  generalize hV : (((((W.setCell ⟨w.heap.size + 1, 4, none⟩ (.int .i64 3)).setCell ⟨w.heap.size + 1, 7, none⟩ (.int .i64 1)).setCell ⟨w.heap.size + 1, 124, none⟩ (.int .i64 1)).setCell ⟨w.heap.size + 1, 123, none⟩ (.int .i64 15)).setCell ⟨w.heap.size + 1, 127, none⟩ (.slice (some ⟨W.heap.size, 0, none⟩) 1 1)).alloc (.cells #[.int .i64 3, .int .i64 0, .int .i64 100] 63) = V
  have bP : Blk V w.heap.size 26 #[.slice none 0 0, .slice none 0 0] := by rw [← hV]; exact (((((HP.out.set_other _ _ _ (by omega)).set_other _ _ _ (by omega)).set_other _ _ _ (by omega)).set_other _ _ _ (by omega)).set_other _ _ _ (by omega)).alloc _
  have bQ : Blk V (w.heap.size + 1) 61 (bx (.bool false) fS (.slice (some ⟨W.heap.size, 0, none⟩) 1 1)) := by rw [← hV]; exact ((((((HQ.out.set 4 _).set 7 _).set 124 _).set 123 _).set 127 _).eq (cellsS _)).alloc _
  have bC : Blk V W.heap.size 63 #[.int .i64 3, .int .i64 0, .int .i64 100] := by rw [← hV]; exact Blk.new_at _ _ (by simp)
  have tV : Below w.heap.size w V := by
    rw [← hV]
    have t5 := ((((tW.setCell (p := ⟨w.heap.size + 1, 4, none⟩) (Nat.le_succ _) (.int .i64 3)).setCell (p := ⟨w.heap.size + 1, 7, none⟩) (Nat.le_succ _) (.int .i64 1)).setCell (p := ⟨w.heap.size + 1, 124, none⟩) (Nat.le_succ _) (.int .i64 1)).setCell (p := ⟨w.heap.size + 1, 123, none⟩) (Nat.le_succ _) (.int .i64 15)).setCell (p := ⟨w.heap.size + 1, 127, none⟩) (Nat.le_succ _) (.slice (some ⟨W.heap.size, 0, none⟩) 1 1)
    exact bAl t5 _
  have HBP := Lib.hid bP
  have HBQ := Lib.hid bQ
  have HBC := Lib.hid bC
  have p0 := bP.cell 0
  have p1 := bP.cell 1
  have g0 := bP.frozen 0
  have g1 := bP.frozen 1
  simp only [List.getElem?_toArray, List.getElem?_cons_zero, List.getElem?_cons_succ] at p0 p1
  have hpl := bP.lt
  have hcl := bC.lt
  have hwl := tV.size
  clear hV HP HQ bP bQ bC f4 f7 f124 f123 f127 s4 s7 s124 s123 s127
  go_wp2_with (first
    | (refine wpl_load rfl 61 (.tmp 2) rfl (w.heap.size + 1) 0 rfl HBQ.out rowClaim (by rw [bx_size]; omega) (bx_all _ _ _) ?_)
    | (refine wpl_run rfl _ (exec_one rfl (D := bx (.bool false) fS (.slice (some ⟨W.heap.size, 0, none⟩) 1 1)) rfl Try.underlying24 sizeClaim zeroClaim (bx_size _ _ _) (by omega) (by omega)) ?_))
  generalize hU : (((V.setCell ⟨w.heap.size, 0, none⟩ (.slice none 0 0)).setCell ⟨w.heap.size, 1, none⟩ (.slice (some ⟨V.heap.size, 0, none⟩) 1 1)).alloc (.cells (bx (.bool false) fS (.slice (some ⟨W.heap.size, 0, none⟩) 1 1)) 61)).alloc (.cells #[.int .u8 87, .int .u8 65, .int .u8 82, .int .u8 49, .int .u8 0, .int .u8 1, .int .u8 1, .int .u8 0, .int .u8 3, .int .u8 1, .int .u8 0, .int .u8 0, .int .u8 0, .int .u8 0, .int .u8 0, .int .u8 0, .int .u8 0, .int .u8 2, .int .u8 30, .int .u8 0, .int .u8 15, .int .u8 31, .int .u8 1, .int .u8 1, .int .u8 3, .int .u8 0, .int .u8 200, .int .u8 1] 5) = U
  have uP : Blk U w.heap.size 26 #[.slice none 0 0, .slice (some ⟨V.heap.size, 0, none⟩) 1 1] := by rw [← hU]; exact (((HBP.out.set 0 _).set 1 _).alloc _).alloc _
  have uK : Blk U V.heap.size 61 (bx (.bool false) fS (.slice (some ⟨W.heap.size, 0, none⟩) 1 1)) := by rw [← hU]; exact (Blk.new_at _ _ (by simp)).alloc _
  have uC : Blk U W.heap.size 63 #[.int .i64 3, .int .i64 0, .int .i64 100] := by
    rw [← hU]
    have hcw : W.heap.size ≠ w.heap.size := by have := tW.size; omega
    exact (((HBC.out.set_other _ _ _ hcw).set_other _ _ _ hcw).alloc _).alloc _
  have uB : Blk U (V.heap.size + 1) 5 #[.int .u8 87, .int .u8 65, .int .u8 82, .int .u8 49, .int .u8 0, .int .u8 1, .int .u8 1, .int .u8 0, .int .u8 3, .int .u8 1, .int .u8 0, .int .u8 0, .int .u8 0, .int .u8 0, .int .u8 0, .int .u8 0, .int .u8 0, .int .u8 2, .int .u8 30, .int .u8 0, .int .u8 15, .int .u8 31, .int .u8 1, .int .u8 1, .int .u8 3, .int .u8 0, .int .u8 200, .int .u8 1] := by rw [← hU]; exact Blk.new_at _ _ (by simp)
  have tU : Below w.heap.size w U := by
    rw [← hU]
    exact bAl (bAl ((tV.setCell (p := ⟨w.heap.size, 0, none⟩) (Nat.le_refl _) _).setCell (p := ⟨w.heap.size, 1, none⟩) (Nat.le_refl _) _) _) _
  refine bodyPost_ret (small_res U _ w.heap.size none (some ⟨V.heap.size, 0, none⟩) 0 0 1 1 (.slice (some ⟨V.heap.size + 1, 0, none⟩) 28 28) rfl rfl (uP.cell 0) (uP.cell 1)) rfl ?_
  refine ⟨_, _, _, rfl, ⟨⟨none, 0, rfl, fun k x hx => by simp [dS] at hx⟩, ⟨some ⟨V.heap.size, 0, none⟩, 1, rfl, fun k x hx => ?_⟩, by decide, by decide, ?_⟩, SlBy.lit (l := bS) uB (by kernel_rfl) (by decide) (by decide), tU⟩
  · have hk : k = 0 := by
      have := (List.getElem?_eq_some_iff.1 hx).1
      simp [dS] at this
      exact this
    subst hk
    simp only [dS, List.getElem?_cons_zero, Option.some.injEq] at hx
    subst hx
    refine ⟨V.heap.size, 0, .slice (some ⟨W.heap.size, 0, none⟩) 1 1, rfl, uK.lt, World.rangeAt_of_blk uK, some ⟨W.heap.size, 0, none⟩, 1, rfl, fun k x hx => ?_⟩
    have hk : k = 0 := by
      have := (List.getElem?_eq_some_iff.1 hx).1
      simp at this
      exact this
    subst hk
    simp only [List.getElem?_cons_zero, Option.some.injEq] at hx
    subst hx
    exact ⟨W.heap.size, 0, rfl, uC.lt, uC.cell 0, uC.cell 1, uC.cell 2⟩
  · intro c hc
    simp only [dS, List.mem_singleton] at hc
    subst hc
    decide
end Go.Proofs.Ytfdjdpbiccclfaa
