/- Dead and From of shape, for the claims that the laws name; nothing that was there is turned. -/
import Derived.Test.YtlcmfpfmjkpfoaaSTags
import Derived.Test.YtlcmfpfmjkpfoaaCons
import Derived.Deep.RegionHeld3
namespace Go.Wr
open Go Go.RowKit
variable {P : Program}
theorem exec_neq {op : Oper} {a : Act} {w : World} (t : TypeId) (x y : Operand) (yt : TypeId) (ho : op.op = .binOp .neq t x y yt) {xs ys : Array Value} (hx : a.eval x = .agg xs) (hy : a.eval y = .agg ys)
    (hg : P.eqGuardType P.depth t = false) {b : Bool} (hb : (Op.equalIn 10000 t (.agg xs) (.agg ys)).run P w = .ok b w) :
    (execOp a.eval op).run P w = .ok (.value (.bool (!b))) w := by
  unfold execOp
  simp only [ho, hx, hy, Sem.run_bind, run_eqGuard_agg _ _ _ _ _ _ _ hg, run_neq_struct, hb, Result.andThen_ok, Sem.run_pure]
/-- An operation by its run. -/
theorem wpl_val {ops : Array Oper} {rest : List Oper} {op : Oper} {a : Act} {w : World} {Q : Exit → Act → World → Prop} (hgd : op.guard = none) (v : Value) (hrun : (execOp a.eval op).run P w = .ok (.value v) w)
    (h : wpList P ops Q rest (a.put op.dst v) w) : wpList P ops Q (op :: rest) a w := by
  refine wpList_plain hgd fun K hK => ?_
  unfold Oper.wp
  rw [hrun]
  exact hK _ _ h
/-- The same where the operation's guard has been asked. -/
theorem wpo_val {op : Oper} {a : Act} {w : World} {K : Act → World → Prop} {Q : Exit → Act → World → Prop} (v : Value) (hrun : (execOp a.eval op).run P w = .ok (.value v) w) (h : K (a.put op.dst v) w) : Oper.wp P op a w K Q := by
  unfold Oper.wp
  rw [hrun]
  exact h
end Go.Wr

namespace Go.Proofs.Ytlcmfpfmjkpfoaa
open Go Go.RowKit Go.Wr
set_option maxHeartbeats 2000000
set_option maxRecDepth 100000

theorem spl_first (a a' b : Value) (f : Nat → Tg) : spl (bx a f b) 0 #[a'] = bx a' f b := by
  unfold spl bx
  simp
theorem spl_midT (a b : Value) (f f' : Nat → Tg) : spl (bx a f b) 1 (gc f') = bx a f' b := by
  unfold spl bx
  simp only [List.take_succ_cons, List.take_zero, gc_size, List.drop_succ_cons]
  rw [List.drop_append_of_le_length (by simp [gc_size]), List.drop_of_length_le (by simp [gc_size])]
  simp
theorem spl_lastT (a b b' : Value) (f : Nat → Tg) : spl (bx a f b) 127 #[b'] = bx a f b' := by
  have hs : (gc f).toList.length = 126 := by simp [gc_size]
  unfold spl bx
  rw [show (127 : Nat) = 126 + 1 from rfl, List.take_succ_cons, List.take_append_of_le_length (by omega), List.take_of_length_le (by omega)]
  rw [List.drop_of_length_le (by simp [gc_size])]
  simp
theorem spl_gr (f : Nat → Tg) : spl (spl (gc f0) 0 (gr f)) 30 (gs f) = gc f := by
  have h1 : (gr f).toList.length = 30 := by simp [gr_size]
  have h2 : (gs f).toList.length = 96 := by simp [gs_size]
  have h3 : (gc f0).toList.length = 126 := by simp [gc_size]
  apply Array.ext_getElem?
  intro i
  unfold spl
  simp only [List.take_zero, List.nil_append, gr_size, gs_size, Nat.zero_add, List.getElem?_toArray]
  rw [List.take_append_of_le_length (by omega), List.take_of_length_le (by omega)]
  rw [List.drop_of_length_le (by simp [gr_size, gc_size]), List.append_nil]
  by_cases hi : i < 30
  · rw [List.getElem?_append_left (by omega), Array.getElem?_toList]
    unfold gr
    rw [Array.getElem?_extract, if_pos (by rw [gc_size]; omega), Nat.zero_add]
  · rw [List.getElem?_append_right (by omega), h1, Array.getElem?_toList]
    unfold gs
    by_cases h : i < 126
    · rw [Array.getElem?_extract, if_pos (by rw [gc_size]; omega), show 30 + (i - 30) = i by omega]
    · rw [Array.getElem?_extract, if_neg (by rw [gc_size]; omega), gc_none f (by omega)]

theorem builtS (parts : List (Nat × Value)) : Try.prog.built 53 parts = Instr.fill (#[(0, 1), (1, 126), (127, 1)][·]?) (bx (.pointer none) f0 (.bool false)) parts := by kernel_rfl
theorem builtT (parts : List (Nat × Value)) : Try.prog.built 51 parts = Instr.fill (#[(0, 30), (30, 96)][·]?) (gc f0) parts := by kernel_rfl
theorem builtT0 : Try.prog.built 51 [] = some (gc f0) := by rw [builtT]; rfl
theorem builtT2 (f : Nat → Tg) : Try.prog.built 51 [(0, .agg (gr f)), (1, .agg (gs f))] = some (gc f) := by
  have h := gc_size f0
  have hs : (spl (gc f0) 0 (gr f)).size = 126 := by
    unfold spl
    simp [gr_size, gc_size]
  rw [builtT, fill_agg _ _ 0 (gr f) _ 0 30 (by rfl) (gr_size f) (by omega), fill_agg _ _ 1 (gs f) [] 30 96 (by rfl) (gs_size f) (by omega), spl_gr]
  rfl
theorem builtS2 (p : Option Addr) : Try.prog.built 53 [(0, .pointer p), (2, .bool true)] = some (bx (.pointer p) f0 (.bool true)) := by
  have h1 := bx_size (.pointer none) f0 (.bool false)
  have h2 := bx_size (.pointer p) f0 (.bool false)
  rw [builtS, fill_cons _ _ 0 (.pointer p) _ 0 1 (by rfl) rfl (by omega), show (Value.pointer p).cells = #[.pointer p] from rfl, spl_first, fill_bool _ _ 2 true [] 127 (by rfl) (by omega), spl_lastT]
  rfl
theorem builtS1 (p : Option Addr) (f : Nat → Tg) : Try.prog.built 53 [(0, .pointer p), (1, .agg (gc f))] = some (bx (.pointer p) f (.bool false)) := by
  have h1 := bx_size (.pointer none) f0 (.bool false)
  have h2 := bx_size (.pointer p) f0 (.bool false)
  rw [builtS, fill_cons _ _ 0 (.pointer p) _ 0 1 (by rfl) rfl (by omega), show (Value.pointer p).cells = #[.pointer p] from rfl, spl_first, fill_agg _ _ 1 (gc f) [] 1 126 (by rfl) (gc_size f) (by omega), spl_midT]
  rfl

/-- The shape of tags f and the zone z lies in block b. -/
def ShAt (w : World) (b : Nat) (f : Nat → Tg) (d : Bool) (z : Zn) : Prop := ∃ p, Blk w b 53 (bx (.pointer (some ⟨p, 0, none⟩)) f (.bool d)) ∧ ZAt w p z
theorem ShAt.below {w w' : World} {b : Nat} {f : Nat → Tg} {d : Bool} {z : Zn} (h : ShAt w b f d z) (hb : Below w.heap.size w w') : ShAt w' b f d z := by
  obtain ⟨p, h1, h2⟩ := h
  exact ⟨p, h1.below hb h1.lt, ZAt.below h2 hb h2.lt⟩
def RetS (w : World) (f : Nat → Tg) (d : Bool) (z : Zn) (e : Ending) (w' : World) : Prop := ∃ b, e = .returned (.pointer (some ⟨b, 0, none⟩)) ∧ ShAt w' b f d z ∧ Below w.heap.size w w'
def RetSE (w : World) (f : Nat → Tg) (d : Bool) (z : Zn) (e : Ending) (w' : World) : Prop := ∃ b, e = .returned (.tuple #[.pointer (some ⟨b, 0, none⟩), .int .i64 0]) ∧ ShAt w' b f d z ∧ Below w.heap.size w w'

theorem Sl3.lit {w : World} {g : Nat} {T : TypeId} {C : Array Value} (h : Blk w g T C) (l : List Cn) (n cap : Nat) (hn : n = l.length) (hC : C.toList = conCells l) (hl : l.length ≤ 9223372036854775807) : Sl3 w (.slice (some ⟨g, 0, none⟩) n cap) l := by
  subst hn
  refine ⟨_, cap, rfl, hl, fun k x hx => ⟨g, 0, rfl, ?_⟩⟩
  obtain ⟨h0, h1, h2⟩ := conCells_get l k x hx
  rw [← hC, Array.getElem?_toList] at h0 h1 h2
  simp only [Nat.zero_add]
  exact ⟨(h.cell _).trans h0, (h.cell _).trans h1, (h.cell _).trans h2⟩

theorem dead_new (w : World) : Calls Try.prog 12 #[] w (RetS w f0 true zvoid) := by
  go_enter Try.func12, Try.ntmps12
  go_wp2_with fail
  refine (new_any _).mono ?_
  rintro e w1 ⟨p1, rfl, z1, b1⟩
  go_wp2_with fail
  refine (with_ok _ p1 znew (Blk.alloc z1 _) topT_rng _ [⟨1, 1, -1⟩] (Sl3.lit (Blk.new _ _ _) [⟨1, 1, -1⟩] 1 1 rfl rfl (by simp)) (by decide +kernel)).mono ?_
  rintro e w2 ⟨p2, rfl, z2, b2⟩
  have hv : zwith znew [⟨1, 1, -1⟩] = zvoid := by
    unfold zwith
    simp only [List.foldl_cons, List.foldl_nil]
    unfold zand znew
    simp
  rw [hv] at z2
  have t2 := bThen (bAl b1 _) b2
  have Z2 := Lib.hid z2
  clear hv z1 b1 b2 z2
  go_wp2_with (refine wpl_build rfl 53 [(0, .tmp 10), (2, .const (.bool true))] rfl [(0, .pointer (some ⟨p2, 0, none⟩)), (2, .bool true)] rfl (builtS2 _) ?_)
  go_ret
  exact ⟨w2.heap.size, rfl, ⟨p2, Blk.new _ _ _, Blk.alloc Z2.out _⟩, bAl t2 _⟩

theorem neqND : ∀ w, (Op.equalIn 10000 51 (.agg (gc fN)) (.agg (gc f0))).run Try.prog w = .ok false w := fun _ => by kernel_rfl
theorem guardT : Try.prog.eqGuardType Try.prog.depth 51 = false := by kernel_rfl

/-- A dead claim with a tag is refused. -/
theorem from_dead (w : World) : Calls Try.prog 5 #[.agg (bx (.bool true) fN (.slice none 0 0))] w fun e w' => e = .returned (.tuple #[.pointer none, .int .i64 93]) ∧ Below w.heap.size w w' := by
  have hz := zeroTags
  go_enter Try.func5, Try.ntmps5
  go_upto_region 1 with (fail)
  generalize hW : (w.alloc (.cells (bx (.bool true) fN (.slice none 0 0)) 28)) = W
  have tW : Below w.heap.size w W := by rw [← hW]; exact bAl (bRefl w) _
  have CB : Blk W w.heap.size 28 (bx (.bool true) fN (.slice none 0 0)) := by rw [← hW]; exact Blk.new _ _ _
  have CH := Lib.hid CB
  clear hW CB
  go_upto_region 2 with (first
    | (refine wpl_load rfl 24 (.tmp 9) rfl w.heap.size 1 rfl CH.out rowRegs (by rw [bx_size]; omega) (D := gr fN) (bx_regs _ _ _) ?_)
    | (refine wpl_load rfl 25 (.tmp 11) rfl w.heap.size 31 rfl CH.out rowStk (by rw [bx_size]; omega) (D := gs fN) (bx_slots _ _ _) ?_)
    | (refine wpl_build rfl 51 [(0, .tmp 10), (1, .tmp 12)] rfl [(0, .agg (gr fN)), (1, .agg (gs fN))] rfl (builtT2 fN) ?_)
    | (refine wpl_store rfl 51 (.tmp 4) (.tmp 13) rfl W.heap.size 0 rfl (D := gc fN) rfl (Blk.new_at 51 (gc f0) (by simp)) rowTags (gc_size _) (by rw [gc_size]; omega) (gc_one _) ?_; intro w2 ho hb))
  have GB := Lib.hid (hb.eq (spl_all _ _ (by simp [gc_size])))
  have hl := CH.out.lt
  have C2 := Lib.hid (ho.blk (Blk.alloc CH.out _) (by omega))
  have s := tW.size
  have t2 : Below w.heap.size w w2 := (bAl tW _).trans (ho.below s)
  have e0 := (C2.out.cell 0).trans (bx_zero _ _ _)
  clear ho hb hz CH
  go_wp2_with (first
    | (refine wpl_load rfl 51 (.tmp 4) rfl W.heap.size 0 rfl GB.out rowTags (by rw [gc_size]; omega) (D := gc fN) (gc_all _) ?_)
    | (refine wpl_build rfl 51 [] rfl [] rfl builtT0 ?_)
    | (refine wpl_val rfl (.bool true) (exec_neq 51 (.tmp 16) (.tmp 17) 51 rfl rfl rfl guardT (neqND _)) ?_))
  go_ret2
  exact ⟨rfl, t2⟩

theorem from_cons (w : World) (bb off cap : Nat) (h0 : w.cell? ⟨bb, off, none⟩ = some (.int .i64 5)) (h1 : w.cell? ⟨bb, off + 1, none⟩ = some (.int .i64 0)) (h2 : w.cell? ⟨bb, off + 2, none⟩ = some (.int .i64 9)) : Calls Try.prog 5 #[.agg (bx (.bool false) f0 (.slice (some ⟨bb, off, none⟩) 1 cap))] w fun e w' => e = .returned (.tuple #[.pointer none, .int .i64 91]) ∧ Below w.heap.size w w' := by
  have hz := zeroTags
  have hbl : bb < w.heap.size := World.block_lt_of_cell? w _ h0
  go_enter Try.func5, Try.ntmps5
  go_upto_region 1 with (fail)
  generalize hW : (w.alloc (.cells (bx (.bool false) f0 (.slice (some ⟨bb, off, none⟩) 1 cap)) 28)) = W
  have tW : Below w.heap.size w W := by rw [← hW]; exact bAl (bRefl w) _
  have CB : Blk W w.heap.size 28 (bx (.bool false) f0 (.slice (some ⟨bb, off, none⟩) 1 cap)) := by rw [← hW]; exact Blk.new _ _ _
  have CH := Lib.hid CB
  clear hW CB
  go_upto_region 2 with (first
    | (refine wpl_load rfl 24 (.tmp 9) rfl w.heap.size 1 rfl CH.out rowRegs (by rw [bx_size]; omega) (D := gr f0) (bx_regs _ _ _) ?_)
    | (refine wpl_load rfl 25 (.tmp 11) rfl w.heap.size 31 rfl CH.out rowStk (by rw [bx_size]; omega) (D := gs f0) (bx_slots _ _ _) ?_)
    | (refine wpl_build rfl 51 [(0, .tmp 10), (1, .tmp 12)] rfl [(0, .agg (gr f0)), (1, .agg (gs f0))] rfl (builtT2 f0) ?_)
    | (refine wpl_store rfl 51 (.tmp 4) (.tmp 13) rfl W.heap.size 0 rfl (D := gc f0) rfl (Blk.new_at 51 (gc f0) (by simp)) rowTags (gc_size _) (by rw [gc_size]; omega) (gc_one _) ?_; intro w2 ho hb))
  have gb := hb.eq (spl_all _ _ (by simp [gc_size]))
  have hl := CH.out.lt
  have c2 := ho.blk (Blk.alloc CH.out _) (by omega)
  have s := tW.size
  have t2 : Below w.heap.size w w2 := (bAl tW _).trans (ho.below s)
  have e0 := (c2.cell 0).trans (bx_zero _ _ _)
  obtain ⟨B, HB⟩ : ∃ B, Hid (B = W.heap.size) := ⟨_, rfl⟩
  rw [← HB.out] at gb ⊢
  have GB := Lib.hid gb
  have C2 := Lib.hid c2
  clear ho hb hz CH gb c2 hl s tW HB
  go_wp2_with (refine wpl_load rfl 51 (.tmp 4) rfl B 0 rfl GB.out rowTags (by rw [gc_size]; omega) (D := gc f0) (gc_all _) ?_)
  refine (goods_any _ f0 (fun i => by unfold isGood f0; first | exact Or.inl rfl | (split; exact Or.inr rfl; exact Or.inl rfl))).mono ?_
  rintro e w3 ⟨rfl, b3⟩
  have t3 := bThen t2 b3
  have G3 := Lib.hid (GB.out.below b3 GB.out.lt)
  have C3 := Lib.hid (C2.out.below b3 C2.out.lt)
  have e3 := (C3.out.cell 127).trans (bx_last _ _ _)
  clear GB C2 b3 t2 e0
  go_wp2
  clear e3
  go_loopw [32] (fun t wr => t = .int .i64 0 ∧ Hid (wr = w3)) (fun t _ => 0)
  case atStart => exact ⟨rfl, rfl⟩
  case round =>
    obtain ⟨rfl, hw⟩ := hrel
    obtain rfl := hw.out
    clear hw
    rw [← t3.cell hbl] at h0
    rw [← t3.cell (p := ⟨bb, off + 1, none⟩) hbl] at h1
    rw [← t3.cell (p := ⟨bb, off + 2, none⟩) hbl] at h2
    go_wp2_with (refine wpl_load rfl 51 (.tmp 4) rfl B 0 rfl (Blk.alloc G3.out _) rowTags (by rw [gc_size]; omega) (D := gc f0) (gc_all _) ?_)
    refine (valued_any _ f0 5 false (by decide)).mono ?_
    rintro e w4 ⟨rfl, b4⟩
    go_wp2
    go_ret2
    exact ⟨rfl, bThen (bAl t3 _) b4⟩

/-- The table of the law's one shape. -/
def mA : Nat → Nat → Int := zadd (zadd topT 5 0 9) 0 5 0
theorem awake_plain : zwith znew [⟨5, 0, 9⟩, ⟨0, 5, 0⟩] = ⟨false, mA⟩ := by
  have h1 : zand znew 5 0 9 = ⟨false, zadd topT 5 0 9⟩ := by
    unfold zand znew
    simp only [Bool.false_eq_true, if_false]
    rw [if_neg (by omega), if_neg (by decide), if_neg (by decide), zset_zone (by decide)]
  have h2 : zand ⟨false, zadd topT 5 0 9⟩ 0 5 0 = ⟨false, mA⟩ := by
    unfold zand
    simp only [Bool.false_eq_true, if_false]
    rw [if_neg (by omega), if_neg (by decide), if_neg (by decide), zset_zone (by decide)]
    rfl
  show zand (zand znew 5 0 9) 0 5 0 = _
  rw [h1, h2]

theorem from_two (w : World) (bb off cap : Nat) (h0 : w.cell? ⟨bb, off, none⟩ = some (.int .i64 5)) (h1 : w.cell? ⟨bb, off + 1, none⟩ = some (.int .i64 0)) (h2 : w.cell? ⟨bb, off + 2, none⟩ = some (.int .i64 9)) (g0 : w.cell? ⟨bb, off + 3, none⟩ = some (.int .i64 0)) (g1 : w.cell? ⟨bb, off + 4, none⟩ = some (.int .i64 5)) (g2 : w.cell? ⟨bb, off + 5, none⟩ = some (.int .i64 0)) : Calls Try.prog 5 #[.agg (bx (.bool false) fN (.slice (some ⟨bb, off, none⟩) 2 cap))] w (RetSE w fN false ⟨false, mA⟩) := by
  have hz := zeroTags
  have hbl : bb < w.heap.size := World.block_lt_of_cell? w _ h0
  have HSL : Hid (Sl3 w (.slice (some ⟨bb, off, none⟩) 2 cap) [⟨5, 0, 9⟩, ⟨0, 5, 0⟩]) := ⟨_, cap, rfl, by simp, fun k x hx => by
    match k, hx with
    | 0, hx => simp at hx; subst hx; exact ⟨bb, off, rfl, h0, h1, h2⟩
    | 1, hx => simp at hx; subst hx; exact ⟨bb, off, rfl, g0, g1, g2⟩⟩
  go_enter Try.func5, Try.ntmps5
  go_upto_region 1 with (fail)
  generalize hW : (w.alloc (.cells (bx (.bool false) fN (.slice (some ⟨bb, off, none⟩) 2 cap)) 28)) = W
  have tW : Below w.heap.size w W := by rw [← hW]; exact bAl (bRefl w) _
  have CB : Blk W w.heap.size 28 (bx (.bool false) fN (.slice (some ⟨bb, off, none⟩) 2 cap)) := by rw [← hW]; exact Blk.new _ _ _
  have CH := Lib.hid CB
  clear hW CB
  go_upto_region 2 with (first
    | (refine wpl_load rfl 24 (.tmp 9) rfl w.heap.size 1 rfl CH.out rowRegs (by rw [bx_size]; omega) (D := gr fN) (bx_regs _ _ _) ?_)
    | (refine wpl_load rfl 25 (.tmp 11) rfl w.heap.size 31 rfl CH.out rowStk (by rw [bx_size]; omega) (D := gs fN) (bx_slots _ _ _) ?_)
    | (refine wpl_build rfl 51 [(0, .tmp 10), (1, .tmp 12)] rfl [(0, .agg (gr fN)), (1, .agg (gs fN))] rfl (builtT2 fN) ?_)
    | (refine wpl_store rfl 51 (.tmp 4) (.tmp 13) rfl W.heap.size 0 rfl (D := gc fN) rfl (Blk.new_at 51 (gc f0) (by simp)) rowTags (gc_size _) (by rw [gc_size]; omega) (gc_one _) ?_; intro w2 ho hb))
  have gb := hb.eq (spl_all _ _ (by simp [gc_size]))
  have hl := CH.out.lt
  have c2 := ho.blk (Blk.alloc CH.out _) (by omega)
  have s := tW.size
  have t2 : Below w.heap.size w w2 := (bAl tW _).trans (ho.below s)
  have e0 := (c2.cell 0).trans (bx_zero _ _ _)
  obtain ⟨B, HB⟩ : ∃ B, Hid (B = W.heap.size) := ⟨_, rfl⟩
  rw [← HB.out] at gb ⊢
  have GB := Lib.hid gb
  have C2 := Lib.hid c2
  clear ho hb hz CH gb c2 hl s tW HB
  go_wp2_with (refine wpl_load rfl 51 (.tmp 4) rfl B 0 rfl GB.out rowTags (by rw [gc_size]; omega) (D := gc fN) (gc_all _) ?_)
  refine (goods_any _ fN (fun i => by unfold isGood fN; first | exact Or.inl rfl | (split; exact Or.inr rfl; exact Or.inl rfl))).mono ?_
  rintro e w3 ⟨rfl, b3⟩
  have t3 := bThen t2 b3
  have G3 := Lib.hid (GB.out.below b3 GB.out.lt)
  have C3 := Lib.hid (C2.out.below b3 C2.out.lt)
  have e3 := (C3.out.cell 127).trans (bx_last _ _ _)
  clear GB C2 b3 t2 e0
  have hlt := C3.out.lt
  go_wp2
  clear e3
  go_loopw [32] (fun t wr => ∃ k : Nat, k ≤ 2 ∧ t = .int .i64 k ∧ Below w.heap.size w wr ∧ Blk wr B 51 (gc fN) ∧ Blk wr w.heap.size 28 (bx (.bool false) fN (.slice (some ⟨bb, off, none⟩) 2 cap))) (fun t _ => 2 - (intOf t).toNat)
  case atStart => exact ⟨0, by omega, rfl, t3, G3.out, C3.out⟩
  case round =>
    clear t3 G3 C3
    obtain ⟨k, hk, rfl, hbel, hg, hc⟩ := hrel
    have G4 := Lib.hid hg
    have C4 := Lib.hid hc
    clear hg hc
    have hk3 : k = 0 ∨ k = 1 ∨ k = 2 := by omega
    rcases hk3 with rfl | rfl | rfl
    · rw [← hbel.cell hbl] at h0
      rw [← hbel.cell (p := ⟨bb, off + 1, none⟩) hbl] at h1
      rw [← hbel.cell (p := ⟨bb, off + 2, none⟩) hbl] at h2
      go_wp2_with (refine wpl_load rfl 51 (.tmp 4) rfl B 0 rfl (Blk.alloc G4.out _) rowTags (by rw [gc_size]; omega) (D := gc fN) (gc_all _) ?_)
      refine (valued_any _ fN 5 true (by decide)).mono ?_
      rintro e w4 ⟨rfl, b4⟩
      have t4 := bThen (bAl hbel _) b4
      have G5 := Lib.hid ((G4.out.alloc _).below b4 (G4.out.alloc _).lt)
      have C5 := Lib.hid ((C4.out.alloc _).below b4 (C4.out.alloc _).lt)
      have X5 := (Blk.new wr 30 #[.int .i64 5, .int .i64 0, .int .i64 9]).below b4 (Blk.lt (Blk.new _ _ _))
      have x0 : w4.cell? ⟨wr.heap.size, 0, none⟩ = some (.int .i64 5) := X5.cell 0
      have x1 : w4.cell? ⟨wr.heap.size, 1, none⟩ = some (.int .i64 0) := X5.cell 1
      have x2 : w4.cell? ⟨wr.heap.size, 2, none⟩ = some (.int .i64 9) := X5.cell 2
      clear X5 G4 C4 h0 h1 h2
      go_wp2_with fail
      refine wpo_val (.agg (gc fN)) (exec_load 51 (.tmp 4) rfl B 0 rfl G5.out rowTags (by rw [gc_size]; omega) (gc_all _)) ?_
      go_wp2_with fail
      refine (valued_any _ fN 0 true (by decide)).mono ?_
      rintro e w5 ⟨rfl, b5⟩
      have t5 := bThen t4 b5
      have g6 := G5.out.below b5 G5.out.lt
      have c6 := C5.out.below b5 C5.out.lt
      have l4 := b4.size
      have y2 := (b5.cell (p := ⟨wr.heap.size, 2, none⟩) (World.block_lt_of_cell? w4 _ x2)).trans x2
      clear x0 x1 x2 G5 C5 b5 b4
      go_wp2
      go_roundw
      case rel => exact ⟨0 + 1, by omega, by go_num, t5, g6, c6⟩
      case measure => simp [intOf]
    · rw [← hbel.cell (p := ⟨bb, off + 3, none⟩) hbl] at g0
      rw [← hbel.cell (p := ⟨bb, off + 4, none⟩) hbl] at g1
      rw [← hbel.cell (p := ⟨bb, off + 5, none⟩) hbl] at g2
      go_wp2_with (refine wpl_load rfl 51 (.tmp 4) rfl B 0 rfl (Blk.alloc G4.out _) rowTags (by rw [gc_size]; omega) (D := gc fN) (gc_all _) ?_)
      refine (valued_any _ fN 0 true (by decide)).mono ?_
      rintro e w4 ⟨rfl, b4⟩
      have t4 := bThen (bAl hbel _) b4
      have G5 := Lib.hid ((G4.out.alloc _).below b4 (G4.out.alloc _).lt)
      have C5 := Lib.hid ((C4.out.alloc _).below b4 (C4.out.alloc _).lt)
      have X5 := (Blk.new wr 30 #[.int .i64 0, .int .i64 5, .int .i64 0]).below b4 (Blk.lt (Blk.new _ _ _))
      have x0 : w4.cell? ⟨wr.heap.size, 0, none⟩ = some (.int .i64 0) := X5.cell 0
      have x1 : w4.cell? ⟨wr.heap.size, 1, none⟩ = some (.int .i64 5) := X5.cell 1
      have x2 : w4.cell? ⟨wr.heap.size, 2, none⟩ = some (.int .i64 0) := X5.cell 2
      clear X5 G4 C4 g0 g1 g2
      go_wp2_with fail
      refine wpo_val (.agg (gc fN)) (exec_load 51 (.tmp 4) rfl B 0 rfl G5.out rowTags (by rw [gc_size]; omega) (gc_all _)) ?_
      go_wp2_with fail
      refine (valued_any _ fN 5 true (by decide)).mono ?_
      rintro e w5 ⟨rfl, b5⟩
      have t5 := bThen t4 b5
      have g6 := G5.out.below b5 G5.out.lt
      have c6 := C5.out.below b5 C5.out.lt
      have l4 := b4.size
      have y2 := (b5.cell (p := ⟨wr.heap.size, 2, none⟩) (World.block_lt_of_cell? w4 _ x2)).trans x2
      clear x0 x1 x2 G5 C5 b5 b4
      go_wp2
      go_roundw
      case rel => exact ⟨1 + 1, by omega, by go_num, t5, g6, c6⟩
      case measure => simp [intOf]
    · have e7 := (C4.out.cell 127).trans (bx_last _ _ _)
      have hclt := C4.out.lt
      go_upto_region 18 with (fail)
      go_region_held3 (fun w' => w'.cell? ⟨w.heap.size, 127, none⟩ = some (.slice (some ⟨bb, off, none⟩) 2 cap)) (go_keep)
        (first
          | (go_at_call 18; refine (new_any wr.drew).mono ?_; rintro e y1 ⟨p1, rfl, z1, c1⟩; have D1 := Lib.hid ((Blk.drew C4.out).below c1 C4.out.lt); have G1 := Lib.hid ((Blk.drew G4.out).below c1 G4.out.lt); have s1 : y1.cell? ⟨w.heap.size, 127, none⟩ = some (.slice (some ⟨bb, off, none⟩) 2 cap) := (D1.out.cell 127).trans (bx_last _ _ _))
          | (go_at_call 19; refine (with_ok y1 p1 znew z1 topT_rng _ [⟨5, 0, 9⟩, ⟨0, 5, 0⟩] (HSL.out.below (bThen hbel.drew c1)) (by decide +kernel)).mono ?_; rintro e y2 ⟨p2, rfl, z2, c2⟩; have D2 := Lib.hid (D1.out.below c2 D1.out.lt); have G2 := Lib.hid (G1.out.below c2 G1.out.lt); have s2 : y2.cell? ⟨w.heap.size, 127, none⟩ = some (.slice (some ⟨bb, off, none⟩) 2 cap) := (D2.out.cell 127).trans (bx_last _ _ _)))
      rw [awake_plain] at z2
      have Z2 := Lib.hid z2
      have t7 := bThen (bThen hbel.drew c1) c2
      clear z1 z2 c1 c2 D1 D2 G1 e7 s1 s2
      go_wp2_with fail
      refine (empty_any _ p2 _ Z2.out).mono ?_
      rintro e w9 ⟨rfl, rfl⟩
      go_wp2_with (first
        | (refine wpl_load rfl 51 (.tmp 4) rfl B 0 rfl G2.out rowTags (by rw [gc_size]; omega) (D := gc fN) (gc_all _) ?_)
        | (refine wpl_build rfl 53 [(0, .tmp 93), (1, .tmp 94)] rfl [(0, .pointer (some ⟨p2, 0, none⟩)), (1, .agg (gc fN))] rfl (builtS1 _ _) ?_))
      go_ret2
      exact ⟨y2.heap.size, rfl, ⟨p2, Blk.new _ _ _, Blk.alloc Z2.out _⟩, bAl t7 _⟩

end Go.Proofs.Ytlcmfpfmjkpfoaa
