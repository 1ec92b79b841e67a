
/- CodeLender; made; a list of instructions that came in, in the second form. No conditions but those that each names. -/
import Derived.Test.YtpiiefdaaijgbaaHBase
/- The law's CodeLender: instructions lent with marks behind them, and are they back? -/
namespace Go.Wr
open Go Go.RowKit
section
variable {P : Program} {α : Type} {R : RT P α}
theorem RT.cs_drop (R : RT P α) (l : List α) (k : Nat) : (R.cs l).drop (k * R.n) = R.cs (l.drop k) := by
  induction l generalizing k with
  | nil => simp [RT.cs]
  | cons x l ih =>
    cases k with
    | zero => simp
    | succ k =>
      rw [R.cs_cons, List.drop_succ_cons, List.drop_append, R.len, List.drop_of_length_le (by rw [R.len, Nat.succ_mul]; omega)]
      have e : (k + 1) * R.n - R.n = k * R.n := by rw [Nat.succ_mul]; omega
      rw [e, ih]
      rfl
theorem OwR.el {B g n c : Nat} {w : World} {l : List α} (h : OwR R B w (.slice (some ⟨g, 0, none⟩) n c) l) : ∃ cur rest, Blk w g R.T cur ∧ B ≤ g ∧ n = l.length ∧ l.length ≤ c ∧ c ≤ maxLen ∧ cur.size = c * R.n ∧ cur.toList = R.cs l ++ rest := by
  obtain ⟨_, h2⟩ := h
  rcases h2 with ⟨e, _⟩ | ⟨g', cap', cur, e, hB, hb, h3, h4, hsz, ht⟩
  · cases e
  · injection e with e1 e2 e3
    injection e1 with e1
    injection e1 with e1
    subst e1 e3
    refine ⟨cur, cur.toList.drop (l.length * R.n), hb, hB, e2, h3, h4, hsz, ?_⟩
    rw [← ht, List.take_append_drop]
theorem OwR.le {B g c : Nat} {w : World} {l : List α} {cur : Array Value} {rest : List Value} (hb : Blk w g R.T cur) (hB : B ≤ g) (h1 : l.length ≤ c) (h2 : c ≤ maxLen) (hs : cur.size = c * R.n) (e : cur.toList = R.cs l ++ rest) : OwR R B w (.slice (some ⟨g, 0, none⟩) l.length c) l := by
  refine ⟨by rw [R.cs_len], Or.inr ⟨g, c, cur, rfl, hB, hb, h1, h2, hs, ?_⟩⟩
  rw [e, ← R.cs_len l, List.take_append_of_le_length (Nat.le_refl _), List.take_length]
theorem OwR.putRow {B g n c : Nat} {w : World} {l : List α} (h0 : OwR R B w (.slice (some ⟨g, 0, none⟩) n c) l) (k : Nat) (hk : k < l.length) (z : α) (hr : RowTy P R.T R.n) :
    ∃ w', (Instr.storeAt R.T (.pointer (some ⟨g, k * R.n, none⟩)) (.agg (R.f z).toArray)).run P w = .ok () w' ∧ Only g w w' ∧ OwR R B w' (.slice (some ⟨g, 0, none⟩) n c) (l.set k z) := by
  obtain ⟨cur, rs, hb, hB, hn, h1, h2, hsz, he⟩ := h0.el
  have hkc : k * R.n + R.n ≤ c * R.n := by rw [← Nat.succ_mul]; exact Nat.mul_le_mul_right _ (by omega)
  have hst := run_storeCells_at P g (k * R.n) R.T (R.f z) 0 cur w hb (by rw [R.len, hsz]; omega) (R.one z)
  have hrun : (Instr.storeAt R.T (.pointer (some ⟨g, k * R.n, none⟩)) (.agg (R.f z).toArray)).run P w = .ok () (w.setRow g (spl cur (k * R.n) (R.f z).toArray)) := by
    obtain ⟨d, hu, hd, hi⟩ := hr
    cases hq : P.info? R.T with
    | none => simp [hq] at hi
    | some i =>
      have hs : i.size = R.n := by simp [hq] at hi; exact hi
      simp only [Nat.add_zero] at hst
      simp [Instr.storeAt, Instr.sureAddr, storeVar, sizeOf, typeInfo, hq, Value.cells, hs, R.len, hst, spl]
  refine ⟨_, hrun, Only.setRow w g _, ?_⟩
  have hb' : Blk (w.setRow g (spl cur (k * R.n) (R.f z).toArray)) g R.T (spl cur (k * R.n) (R.f z).toArray) := setRow_heap w g cur _ _ _ hb
  have e : (spl cur (k * R.n) (R.f z).toArray).toList = R.cs (l.set k z) ++ rs := by
    unfold spl
    have hl1 : k * R.n ≤ (R.cs l).length := by rw [R.cs_len]; exact Nat.mul_le_mul_right _ (by omega)
    have hl2 : k * R.n + R.n ≤ (R.cs l).length := by rw [R.cs_len, ← Nat.succ_mul]; exact Nat.mul_le_mul_right _ hk
    simp only [List.size_toArray, R.len]
    rw [he, List.take_append_of_le_length hl1, List.drop_append_of_le_length hl2, R.cs_take, ← Nat.succ_mul, R.cs_drop, List.set_eq_take_append_cons_drop, if_pos hk, R.cs_app, R.cs_cons]
    simp
  have hset : l.length = (l.set k z).length := by rw [List.length_set]
  rw [hn, hset]
  refine OwR.le hb' hB (by rw [← hset]; exact h1) h2 ?_ e
  have h3 := congrArg List.length e
  rw [Array.length_toList] at h3
  rw [h3, List.length_append, R.cs_len, ← hset, ← R.cs_len, ← List.length_append, ← he, Array.length_toList, hsz]
/-- A whole element is written. -/
theorem wpl_put (R : RT P α) {ops : Array Oper} {rest : List Oper} {op : Oper} {a : Act} {w : World} {Q : Exit → Act → World → Prop} (hgd : op.guard = none) (x y : Operand) (ho : op.op = .store R.T x y) (B g n c : Nat) (l : List α)
    (h0 : OwR R B w (.slice (some ⟨g, 0, none⟩) n c) l) (k : Nat) (hk : k < l.length) (o : Nat) (hx : a.eval x = .pointer (some ⟨g, o, none⟩)) (hok : o = k * R.n) (z : α) (hy : a.eval y = .agg (R.f z).toArray) (hr : RowTy P R.T R.n)
    (h : ∀ w', Only g w w' → OwR R B w' (.slice (some ⟨g, 0, none⟩) n c) (l.set k z) → wpList P ops Q rest (a.put op.dst undef) w') : wpList P ops Q (op :: rest) a w := by
  subst hok
  obtain ⟨w', hrun, h1, h2⟩ := h0.putRow k hk z hr
  refine wpList_plain hgd fun K hK => ?_
  unfold Oper.wp execOp
  simp only [ho, hx, hy, Sem.run_bind, hrun, Result.andThen_ok]
  exact hK _ _ (h w' h1 h2)
/-- The same at an operation of a region that draws its order. -/
theorem step_put (R : RT P α) {ops : Array Oper} {op : Oper} {a : Act} {w : World} {K : Act → World → Prop} {Q : Exit → Act → World → Prop} {E : Prop} (hgd : op.guard = none) (x y : Operand) (ho : op.op = .store R.T x y) (B g n c : Nat) (l : List α)
    (h0 : OwR R B w (.slice (some ⟨g, 0, none⟩) n c) l) (k : Nat) (hk : k < l.length) (o : Nat) (hx : a.eval x = .pointer (some ⟨g, o, none⟩)) (hok : o = k * R.n) (z : α) (hy : a.eval y = .agg (R.f z).toArray) (hr : RowTy P R.T R.n)
    (h : ∀ w', Only g w w' → OwR R B w' (.slice (some ⟨g, 0, none⟩) n c) (l.set k z) → K (a.put op.dst undef) w') :
    if Region.wanted op (yielded ops a.tmps) = true then Oper.wp P op a w K Q else E := by
  subst hok
  obtain ⟨w', hrun, h1, h2⟩ := h0.putRow k hk z hr
  have hw : Region.wanted op (yielded ops a.tmps) = true := by simp [Region.wanted, hgd]
  rw [if_pos hw]
  unfold Oper.wp execOp
  simp only [ho, hx, hy, Sem.run_bind, hrun, Result.andThen_ok]
  exact h w' h1 h2
theorem run_copy_el (R : RT P α) (w : World) (ty : TypeId) {g n c : Nat} {ad : Addr} {c' : Nat} {cur : Array Value} {l : List α} (hb : Blk w g R.T cur) (hln : l.length ≤ n) (hfit : l.length * R.n ≤ cur.size) (hs : ∀ j v, (R.cs l)[j]? = some v → w.cell? (ad.add j) = some v) :
    (Builtin.copy_ #[R.S, R.S] ty #[.slice (some ⟨g, 0, none⟩) n c, .slice (some ad) l.length c']).run P w = .ok (goInt l.length) (w.setRow g (spl cur 0 (R.cs l).toArray)) := by
  obtain ⟨i, hi, _, hz1, _⟩ := info_parts R.info
  have hl := run_loadCells_list (P := P) w ad (R.cs l) hs
  have hst := run_storeCells_at P g 0 R.T (R.cs l) 0 cur w hb (by rw [R.cs_len]; omega) (R.cs_ones l)
  have hm : Nat.min l.length n = l.length := Nat.min_eq_left hln
  rw [R.cs_len] at hl
  simp [Builtin.copy_, run_underlying R.und, Builtin.lenOf, Builtin.firstCells, sizeOf, typeInfo, hi, hz1, hm, hl, hst, spl]
/-- Elements are copied over the beginning of a row. -/
theorem wpl_copy (R : RT P α) {ops : Array Oper} {rest : List Oper} {op : Oper} {a : Act} {w : World} {Q : Exit → Act → World → Prop} (hgd : op.guard = none) (d s : Operand)
    (ho : op.op = .call { callee := .builtin .copy, args := #[d, s], argTypes := #[R.S, R.S] }) (B g n c : Nat) (L : List α) (h0 : OwR R B w (.slice (some ⟨g, 0, none⟩) n c) L) (hd : a.eval d = .slice (some ⟨g, 0, none⟩) n c)
    (sp : Option Addr) (c' : Nat) (l : List α) (hs : a.eval s = .slice sp l.length c') (hln : l.length ≤ L.length) (hsrc : l ≠ [] → ∃ b o, sp = some ⟨b, o, none⟩ ∧ w.rangeAt b o (R.cs l))
    (h : ∀ w', Only g w w' → OwR R B w' (.slice (some ⟨g, 0, none⟩) n c) (l ++ L.drop l.length) → wpList P ops Q rest (a.put op.dst (goInt l.length)) w') : wpList P ops Q (op :: rest) a w := by
  obtain ⟨cur, rs, hb, hB, hn, h1, h2, hsz, he⟩ := h0.el
  have hfit : l.length * R.n ≤ cur.size := by rw [hsz]; exact Nat.mul_le_mul_right _ (by omega)
  have hfin : ∀ {w' : World}, Blk w' g R.T (spl cur 0 (R.cs l).toArray) → OwR R B w' (.slice (some ⟨g, 0, none⟩) n c) (l ++ L.drop l.length) := fun hb' => by
    have e : (spl cur 0 (R.cs l).toArray).toList = R.cs (l ++ L.drop l.length) ++ rs := by
      unfold spl
      have hl2 : l.length * R.n ≤ (R.cs L).length := by rw [R.cs_len]; exact Nat.mul_le_mul_right _ hln
      simp only [List.size_toArray, R.cs_len, Nat.zero_add, List.take_zero, List.nil_append]
      rw [he, List.drop_append_of_le_length hl2, R.cs_drop, R.cs_app]
      simp
    have hlen : n = (l ++ L.drop l.length).length := by rw [List.length_append, List.length_drop]; omega
    rw [hlen]
    refine OwR.le hb' hB (by omega) h2 ?_ e
    have h3 := congrArg List.length e
    rw [Array.length_toList] at h3
    rw [h3, List.length_append, R.cs_len, ← hlen, hn, ← R.cs_len, ← List.length_append, ← he, Array.length_toList, hsz]
  by_cases hl : l = []
  · subst hl
    obtain ⟨i, hi, _, _, _⟩ := info_parts R.info
    have hrun : (Builtin.copy_ #[R.S, R.S] op.type #[.slice (some ⟨g, 0, none⟩) n c, .slice sp 0 c']).run P w = .ok (goInt 0) w := by
      have hl : ∀ (x : Addr), (loadCells x 0).run P w = .ok #[] w := fun x => by simpa using run_loadCells_list (P := P) w x [] (by simp)
      cases sp <;> simp [Builtin.copy_, run_underlying R.und, Builtin.lenOf, Builtin.firstCells, sizeOf, typeInfo, hi, hl, storeCells]
    refine wpList_plain hgd fun K hK => ?_
    unfold Oper.wp
    simp [execOp, ho, resolve, invoke, builtin, hd, hs, hrun, Result.andThen]
    exact hK _ _ (h w (Only.refl _ _) (by simpa using h0))
  · obtain ⟨b, o, rfl, hr⟩ := hsrc hl
    have hrun := run_copy_el R w op.type (g := g) (n := n) (c := c) (ad := ⟨b, o, none⟩) (c' := c') hb (by omega : l.length ≤ n) hfit (fun j v hj => by rw [Addr.add_lit]; exact hr j v hj)
    refine wpList_plain hgd fun K hK => ?_
    unfold Oper.wp
    simp [execOp, ho, resolve, invoke, builtin, hd, hs, hrun, Result.andThen]
    exact hK _ _ (h _ (Only.setRow w g _) (hfin (setRow_heap w g cur _ _ _ hb)))
/-- A whole element is read. -/
theorem exec_loadEl (R : RT P α) {op : Oper} {a : Act} {w : World} (x : Operand) (ho : op.op = .load R.T x) (b o : Nat) (hx : a.eval x = .pointer (some ⟨b, o, none⟩)) (z : α) (h : w.rangeAt b o (R.f z)) (hr : RowTy P R.T R.n) :
    (execOp a.eval op).run P w = .ok (.value (.agg (R.f z).toArray)) w := by
  obtain ⟨d, hu, hd, hi⟩ := hr
  have := run_loadAt_mid (P := P) w b o R.T (R.f z) d h hu hd (by rw [hi, R.len])
  unfold execOp
  simp only [ho, hx, Sem.run_bind, this, Result.andThen_ok, Sem.run_pure]
theorem Only.ex {g p : Nat} {a w w' : World} (h : Only g w w') (e : Ex p a w) (hg : a.heap.size ≤ g ∨ g = p) : Ex p a w' :=
  ⟨h.os.trans e.os, h.tape.trans e.tape, h.output.trans e.output, by rw [h.size]; exact e.size, fun k hk hp => (h.block k (by rcases hg with hg | hg <;> omega)).trans (e.block k hk hp)⟩
end
end Go.Wr
namespace Go.Proofs.Ytpiiefdaaijgbaa
open Go Go.RowKit Go.Wr Go.Fl
set_option maxHeartbeats 4000000
set_option maxRecDepth 100000

theorem rowIns : RowTy Try.prog tN.T tN.n := ⟨_, Try.underlying57, by kernel_rfl, by kernel_rfl⟩
theorem guardIns : Try.prog.eqGuardType Try.prog.depth 57 = false := by kernel_rfl
theorem eq_ins (w : World) (x : In) : (Op.equalIn 10000 57 (.agg (tN.f x).toArray) (.agg (tN.f x).toArray)).run Try.prog w = .ok true w := by
  have hS : Try.prog.underlying 57 = some (.struct (Try.prog.fieldsOf 57)) := by kernel_rfl
  have hp : Try.prog.stoodInHeld 57 = false := by kernel_rfl
  have ui := Try.underlying3
  have ai := Try.isAgg3
  have si := Try.sizeOf3
  have ub := Try.underlying4
  have ab := Try.isAgg4
  have sb := Try.sizeOf4
  rw [run_equalIn_agg w 9999 57 _ _ hS hp]
  simp only [Program.fieldsOf, Try.underlying57, tN, inv]
  go_simp
/-- The mark at a place behind what is lent. -/
def mkI (i : Nat) : In := ⟨-7 - (i : Int), false, false, 0, 0, 0, 0, (i : Int)⟩
def z0 : In := ⟨0, false, false, 0, 0, 0, 0, 0⟩
theorem mark_ok (w : World) (i : Nat) (hi : i ≤ 4398046511104) : Calls Try.prog 90 #[.int .i64 (i : Int)] w fun e w' => e = .returned (.agg (tN.f (mkI i)).toArray) ∧ Below w.heap.size w w' := by
  have h1 : IntKind.i64.wrap (-7 - (i : Int)) = -7 - (i : Int) := IntWalk.i64_in _ (by omega)
  go_enter Try.func90, Try.ntmps90
  go_wp2
  refine ret_cell rfl rfl (Blk.new _ _ _) rowIns rfl ?_
  exact ⟨rfl, bAl (bRefl w) _⟩
/-- The room: what is lent, marks behind it, zeros. -/
def rooN (l : List In) (i n : Nat) : List In := l ++ ((List.range i).map mkI ++ List.replicate (n - l.length - i) z0)
theorem rooN_len {l : List In} {i n : Nat} (h : l.length + i ≤ n) : (rooN l i n).length = n := by
  simp only [rooN, List.length_append, List.length_map, List.length_range, List.length_replicate]
  omega
theorem rooN_set {l : List In} {i n : Nat} (h : l.length + i < n) : (rooN l i n).set (l.length + i) (mkI i) = rooN l (i + 1) n := by
  unfold rooN
  have e : n - l.length - i = (n - l.length - (i + 1)) + 1 := by omega
  rw [e, List.replicate_succ, List.range_succ, List.map_append, List.set_append_right _ _ (by omega)]
  rw [show l.length + i - l.length = ((List.range i).map mkI).length by simp]
  rw [List.set_append_right _ _ (by omega), Nat.sub_self, List.set_cons_zero]
  simp
theorem rooN_take (l : List In) (i n : Nat) : (rooN l i n).take l.length = l := by unfold rooN; simp
theorem rooN_mark {l : List In} {i j n : Nat} (h : i < j) : (rooN l j n)[l.length + i]? = some (mkI i) := by
  unfold rooN
  rw [List.getElem?_append_right (by omega), show l.length + i - l.length = i by omega, List.getElem?_append_left (by simp; omega), List.getElem?_map, List.getElem?_range h]
  rfl
/-- A lender at p whose room is the block g. -/
structure LdN (p g : Nat) (w0 : World) (l : List In) (i n : Nat) (wr : World) : Prop where
  pb : Blk wr p 102 #[.slice (some ⟨g, 0, none⟩) n n]
  gb : OwR tN w0.heap.size wr (.slice (some ⟨g, 0, none⟩) n n) (rooN l i n)
  ex : Ex p w0 wr
theorem LdN.ne {p g : Nat} {w0 : World} {l : List In} {i n : Nat} {wr : World} (h : LdN p g w0 l i n wr) : g ≠ p := by
  obtain ⟨_, C, hb⟩ := h.gb.blk (g := g) rfl
  exact blk_ne hb h.pb (by decide)
theorem LdN.hg {p g : Nat} {w0 : World} {l : List In} {i n : Nat} {wr : World} (h : LdN p g w0 l i n wr) : w0.heap.size ≤ g := (h.gb.blk rfl).1
theorem LdN.below {p g : Nat} {w0 : World} {l : List In} {i n : Nat} {wr w' : World} (h : LdN p g w0 l i n wr) (b : Below wr.heap.size wr w') : LdN p g w0 l i n w' := ⟨h.pb.below b h.pb.lt, h.gb.below b, h.ex.trans (Ex.of_below b)⟩
theorem LdN.put {p g : Nat} {w0 : World} {l : List In} {i n : Nat} {wr w' : World} (h : LdN p g w0 l i n wr) (hi : l.length + i < n) (o : Only g wr w') (hg : OwR tN w0.heap.size w' (.slice (some ⟨g, 0, none⟩) n n) ((rooN l i n).set (l.length + i) (mkI i))) : LdN p g w0 l (i + 1) n w' := by
  rw [rooN_set hi] at hg
  exact ⟨o.blk h.pb (Ne.symm h.ne), hg, o.ex h.ex (Or.inl h.hg)⟩
theorem lend_ok (w : World) (p : Nat) (hp : Blk w p 102 #[.slice none 0 0]) (v : Value) (l : List In) (h : SlX tN p w v l) (hl : l.length ≤ 1099511627776) :
    Calls Try.prog 59 #[.pointer (some ⟨p, 0, none⟩), v] w fun e w' => ∃ g, e = .returned (.slice (some ⟨g, 0, none⟩) l.length (4 * l.length + 200)) ∧ LdN p g w l (l.length + 70) (4 * l.length + 200) w' := by
  obtain ⟨a0, cap, rfl, hc1, hc2⟩ := h.form
  have H := Lib.hid h
  have HP := Lib.hid hp
  have hpl := hp.lt
  have c0 := hp.cell 0
  have f0 := hp.frozen 0
  simp only [List.getElem?_toArray, List.getElem?_cons_zero] at c0
  clear h hp
  go_enter Try.func59, Try.ntmps59
  go_upto_region 4 with (at_make; refine wpl_make tN z0 rfl rfl _ _ rfl .i64 .i64 _ _ (4 * l.length + 200) rfl rfl (by omega) (by omega) (by show 56 * _ ≤ _; omega) (by unfold maxLen; omega) ?_; intro w1 ho1 hb1 hlt1; have hP1 := HP.out.below hb1 hpl; have c0 := hP1.cell 0; have f0 := hP1.frozen 0; simp only [List.getElem?_toArray, List.getElem?_cons_zero] at c0)
  obtain ⟨g, hg⟩ : ∃ g, g = w.heap.size := ⟨_, rfl⟩
  obtain ⟨n, hn⟩ : ∃ n, n = 4 * l.length + 200 := ⟨_, rfl⟩
  have hroom : List.replicate (4 * l.length + 200) z0 = List.replicate n z0 := by rw [hn]
  rw [hroom, ← hn, ← hg] at ho1
  rw [← hn, ← hg]
  have hnI : (n : Int) = 4 * (l.length : Int) + 200 := by omega
  have h2 : SlX tN p w1 (.slice a0 l.length cap) l := H.out.below hb1
  have x1 : Ex p w w1 := Ex.of_below hb1
  generalize hV : w1.setCell ⟨p, 0, none⟩ (.slice (some ⟨g, 0, none⟩) n n) = V
  have hgw : w.heap.size ≤ g := by omega
  have PV : Blk V p 102 #[.slice (some ⟨g, 0, none⟩) n n] := by rw [← hV]; exact (hP1.set 0 _).eq rfl
  have GV : OwR tN w.heap.size V (.slice (some ⟨g, 0, none⟩) n n) (List.replicate n z0) := by rw [← hV]; exact (ho1.mono (by omega)).set_other (ho1.ne hP1 (by decide))
  have HXV := Lib.hid (show Ex p w V by rw [← hV]; exact x1.set 0 _)
  have HSV := Lib.hid (show SlX tN p V (.slice a0 l.length cap) l by rw [← hV]; exact h2.ex ((Ex.refl p w1).set 0 _))
  have HPV := Lib.hid PV
  have HGV := Lib.hid GV
  have c1 := PV.cell 0
  simp only [List.getElem?_toArray, List.getElem?_cons_zero] at c1
  have HW := Lib.hid hgw
  have HN := Lib.hid hn
  have HNI := Lib.hid hnI
  clear hV ho1 hb1 hlt1 hP1 c0 f0 x1 h2 PV GV hg hgw hroom hn
  have hsrc : l ≠ [] → ∃ b o, a0 = some ⟨b, o, none⟩ ∧ V.rangeAt b o (tN.cs l) := fun hne => by
    obtain ⟨b, o, e, _⟩ := HSV.out.get (List.getElem?_eq_getElem (List.length_pos_iff.2 hne))
    subst e
    exact ⟨b, o, rfl, slx_range tN HSV.out⟩
  have HSR := Lib.hid hsrc
  have hlr : l.length ≤ (List.replicate n z0).length := by rw [List.length_replicate]; omega
  have HLR := Lib.hid hlr
  clear hsrc hlr hnI
  go_upto_region 5 with (refine wpl_copy tN rfl (.tmp 28) (.tmp 29) rfl w.heap.size g n n (List.replicate n z0) HGV.out rfl a0 cap l rfl HLR.out (fun hne => HSR.out hne) ?_; intro w3 ho3 hg3)
  have e0 : l ++ (List.replicate n z0).drop l.length = rooN l 0 n := by unfold rooN; simp
  rw [e0] at hg3
  have hL : LdN p g w l 0 n w3 := ⟨ho3.blk HPV.out (by rintro rfl; have := HW.out; omega), hg3, ho3.ex HXV.out (Or.inl HW.out)⟩
  have HL := Lib.hid hL
  clear hL hg3 ho3 e0 HSR HLR HGV HPV HXV HSV c1
  go_wp2
  go_loopw [6] (fun t wr => ∃ i : Nat, i ≤ l.length + 70 ∧ t = .int .i64 (i : Int) ∧ Hid (LdN p g w l i n wr)) (fun t _ => l.length + 70 - (intOf t).toNat)
  case atStart => exact ⟨0, by omega, rfl, HL.out⟩
  case round =>
    clear HL
    obtain ⟨i, hi, rfl, hL⟩ := hrel
    have cp := hL.out.pb.cell 0
    simp only [List.getElem?_toArray, List.getElem?_cons_zero] at cp
    have hnI := HNI.out
    by_cases hlt : i < l.length + 70
    · have hlt' : (i : Int) < (l.length : Int) + 70 := by omega
      have hidx3 : (l.length : Int) + (i : Int) < (n : Int) := by omega
      have hidx0 : (0 : Int) ≤ (l.length : Int) + (i : Int) := by omega
      have htn : ((l.length : Int) + (i : Int)).toNat = l.length + i := by omega
      have hln : l.length + i < n := by omega
      have hib : i ≤ 4398046511104 := by omega
      have hwr : IntKind.i64.wrap ((l.length : Int) + (i : Int)) = (l.length : Int) + (i : Int) := IntWalk.i64_in _ (by omega)
      have hkk := Lib.hid (show l.length + i < (rooN l i n).length by rw [rooN_len (by omega)]; exact hln)
      clear hnI
      go_wp2_with fail
      have cv : wr.drew.cell? ⟨p, 0, none⟩ = some (.slice (some ⟨g, 0, none⟩) n n) := cp
      refine wp_region_last 10 (fun w' => w'.cell? ⟨p, 0, none⟩ = some (.slice (some ⟨g, 0, none⟩) n n)) mix ?_
      refine wpAnyL_take (i := 0) (v := .pointer (some ⟨p, 0, none⟩)) rfl (by kernel_rfl) (by kernel_rfl) (by kernel_rfl) (fun _ _ _ h => h) rfl (by kernel_rfl) (Or.inl ⟨by rfl, fun w' hw' => by (try go_split_ands); go_simp⟩) cv ?_
      simp only [Act.put, List.getElem_toArray, List.getElem_cons_zero, List.setIfInBounds_toArray, List.set_cons_zero, List.set_cons_succ]
      refine wpAnyL_take (i := 1) (v := .pointer (some ⟨p, 0, none⟩)) rfl (by kernel_rfl) (by kernel_rfl) (by kernel_rfl) (fun _ _ _ h => h) rfl (by kernel_rfl) (Or.inl ⟨by rfl, fun w' hw' => by (try go_split_ands); go_simp⟩) cv ?_
      simp only [Act.put, List.getElem_toArray, List.getElem_cons_zero, List.getElem_cons_succ, List.setIfInBounds_toArray, List.set_cons_zero, List.set_cons_succ]
      refine wpAnyL_take (i := 2) (v := .pointer (some ⟨p, 0, none⟩)) rfl (by kernel_rfl) (by kernel_rfl) (by kernel_rfl) (fun _ _ _ h => h) rfl (by kernel_rfl) (Or.inl ⟨by rfl, fun w' hw' => by (try go_split_ands); go_simp⟩) cv ?_
      simp only [Act.put, List.getElem_toArray, List.getElem_cons_zero, List.getElem_cons_succ, List.setIfInBounds_toArray, List.set_cons_zero, List.set_cons_succ]
      refine wpAnyL_take (i := 3) (v := .slice (some ⟨g, 0, none⟩) n n) rfl (by kernel_rfl) (by kernel_rfl) (by kernel_rfl) (fun _ _ _ h => h) rfl (by kernel_rfl) (Or.inl ⟨by rfl, fun w' hw' => by (try go_split_ands); go_simp⟩) cv ?_
      simp only [Act.put, List.getElem_toArray, List.getElem_cons_zero, List.getElem_cons_succ, List.setIfInBounds_toArray, List.set_cons_zero, List.set_cons_succ]
      refine wpAnyL_take (i := 4) (v := .int .i64 (l.length : Int)) rfl (by kernel_rfl) (by kernel_rfl) (by kernel_rfl) (fun _ _ _ h => h) rfl (by kernel_rfl) (Or.inl ⟨by rfl, fun w' hw' => by (try go_split_ands); go_simp⟩) cv ?_
      simp only [Act.put, List.getElem_toArray, List.getElem_cons_zero, List.getElem_cons_succ, List.setIfInBounds_toArray, List.set_cons_zero, List.set_cons_succ]
      refine wpAnyL_take (i := 5) (v := .int .i64 (i : Int)) rfl (by kernel_rfl) (by kernel_rfl) (by kernel_rfl) (fun _ _ _ h => h) rfl (by kernel_rfl) (Or.inl ⟨by rfl, fun w' hw' => by (try go_split_ands); go_simp⟩) cv ?_
      simp only [Act.put, List.getElem_toArray, List.getElem_cons_zero, List.getElem_cons_succ, List.setIfInBounds_toArray, List.set_cons_zero, List.set_cons_succ]
      refine wpAnyL_take (i := 6) (v := .int .i64 ((l.length : Int) + (i : Int))) rfl (by kernel_rfl) (by kernel_rfl) (by kernel_rfl) (fun _ _ _ h => h) rfl (by kernel_rfl) (Or.inl ⟨by rfl, fun w' hw' => by (try go_split_ands); go_simp⟩) cv ?_
      simp only [Act.put, List.getElem_toArray, List.getElem_cons_zero, List.getElem_cons_succ, List.setIfInBounds_toArray, List.set_cons_zero, List.set_cons_succ]
      refine wpAnyL_take (i := 7) (v := .int .i64 (i : Int)) rfl (by kernel_rfl) (by kernel_rfl) (by kernel_rfl) (fun _ _ _ h => h) rfl (by kernel_rfl) (Or.inl ⟨by rfl, fun w' hw' => by (try go_split_ands); go_simp⟩) cv ?_
      simp only [Act.put, List.getElem_toArray, List.getElem_cons_zero, List.getElem_cons_succ, List.setIfInBounds_toArray, List.set_cons_zero, List.set_cons_succ]
      refine wpAnyL_one (i := 8) (by kernel_rfl) rfl (fun K hK => ?_)
      go_simp
      go_wp2_with fail
      (with_reducible refine (mark_ok _ i hib).mono ?_)
      rintro e w5 ⟨rfl, b5⟩
      have HL5 := Lib.hid (LdN.below (hL.out.below (bRefl wr).drew) b5)
      have cv5 : w5.cell? ⟨p, 0, none⟩ = some (.slice (some ⟨g, 0, none⟩) n n) := HL5.out.pb.cell 0
      clear b5 cv cp hL
      go_wp2_with fail
      refine hK.out _ _ (fun _ => cv5) ?_
      clear hK K
      refine wpAnyL_one (i := 9) (by kernel_rfl) rfl (fun K hK => ?_)
      go_simp
      refine hK.out _ _ (fun _ => cv5) ?_
      clear hK K
      refine wpAnyL_one (i := 10) (by kernel_rfl) rfl (fun K hK => ?_)
      refine step_put tN rfl (.tmp 46) (.tmp 45) rfl w.heap.size g n n (rooN l i n) HL5.out.gb (l.length + i) hkk.out _ rfl (by show _ = _ * 8; omega) (mkI i) rfl rowIns (fun w6 ho6 hg6 => ?_)
      have HL6 := Lib.hid (HL5.out.put hln ho6 hg6)
      refine hK.out _ _ (fun h => absurd rfl h) ?_
      clear hK K ho6 hg6 HL5 cv5
      refine wpAnyL_done (by kernel_rfl) ?_ _
      go_wp2
      go_roundw
      all_goals first
        | exact ⟨i + 1, by omega, by go_num, HL6.out⟩
        | ((repeat apply Exists.intro); exact ⟨⟨i + 1, by omega, by go_num, HL6.out⟩, rfl⟩)
        | (simp [intOf] <;> omega)
    · obtain rfl : i = l.length + 70 := by omega
      have hcap : (l.length : Int) ≤ (n : Int) := by omega
      have hcap2 : l.length ≤ n := by omega
      have hL9 := hL.out
      rw [HN.out] at hL9
      have HL9 := Lib.hid hL9
      clear hlt hi hL9 hL hnI
      go_wp2
      go_ret
      exact ⟨g, by first | rfl | (rw [HN.out]; rfl), HL9.out⟩
theorem sameCode_ok (w : World) (p q : Nat) (v v' : Value) (l : List In) (h : SlX tN p w v l) (h' : SlX tN q w v' l) :
    Calls Try.prog 91 #[v, v'] w fun e w' => e = .returned (.bool true) ∧ Below w.heap.size w w' := by
  obtain ⟨a0, cap, rfl, h1, h2⟩ := h.form
  obtain ⟨a1, cap', rfl, h1', h2'⟩ := h'.form
  have H := Lib.hid h
  have H' := Lib.hid h'
  unfold maxLen at h2 h2'
  clear h h'
  go_enter Try.func91, Try.ntmps91
  go_wp2
  go_loopw [5] (fun t wr => ∃ k : Nat, k ≤ l.length ∧ t = .int .i64 (k : Int) ∧ Below w.heap.size w wr) (fun t _ => l.length - (intOf t).toNat)
  case atStart => exact ⟨0, by omega, rfl, bRefl w⟩
  case round =>
    obtain ⟨k, hk, rfl, hb⟩ := hrel
    by_cases hlt : k < l.length
    · have hlt' : (k : Int) < (l.length : Int) := by omega
      have hk0 : (0 : Int) ≤ (k : Int) := by omega
      obtain ⟨x, hx⟩ : ∃ y, l[k]? = some y := ⟨_, List.getElem?_eq_getElem hlt⟩
      obtain ⟨b, o, rfl, _, hat⟩ := (H.out.below hb).get hx
      obtain ⟨b', o', rfl, _, hat'⟩ := (H'.out.below hb).get hx
      obtain ⟨c0, c1, c2, c3, c4, c5, c6, c7⟩ := at_ins hat
      obtain ⟨d0, d1, d2, d3, d4, d5, d6, d7⟩ := at_ins hat'
      have e8 : tN.n = 8 := rfl
      rw [e8] at c0 c1 c2 c3 c4 c5 c6 c7 d0 d1 d2 d3 d4 d5 d6 d7
      clear hat hat' hx e8
      go_upto_region 6 with (fail)
      go_quiet (fail)
      rename_i nq
      have hb2 := bDraw hb nq
      clear c0 c1 c2 c3 c4 c5 c6 c7 d0 d1 d2 d3 d4 d5 d6 d7
      go_wp2
      go_roundw
      all_goals first
        | exact ⟨k + 1, by omega, by go_num, hb2⟩
        | ((repeat apply Exists.intro); exact ⟨⟨k + 1, by omega, by go_num, hb2⟩, rfl⟩)
        | (simp [intOf] <;> omega)
    · obtain rfl : k = l.length := by omega
      go_wp2
      go_ret
      exact ⟨rfl, hb⟩
theorem cback_ok (w : World) (p g B n : Nat) (l : List In) (hp : Blk w p 102 #[.slice (some ⟨g, 0, none⟩) n n]) (hg : OwR tN B w (.slice (some ⟨g, 0, none⟩) n n) (rooN l (l.length + 70) n)) (hn : n = 4 * l.length + 200) (v : Value) (h : SlX tN g w v l) (hl : l.length ≤ 1099511627776) :
    Calls Try.prog 60 #[.pointer (some ⟨p, 0, none⟩), v] w fun e w' => e = .returned (.bool true) ∧ Ex g w w' := by
  obtain ⟨a0, cap, rfl, hc1, hc2⟩ := h.form
  have hgp : g ≠ p := by
    obtain ⟨_, C, hb⟩ := hg.blk (g := g) rfl
    exact blk_ne hb hp (by decide)
  have H := Lib.hid h
  have HP := Lib.hid hp
  have HG := Lib.hid hg
  have hpl := hp.lt
  have cp := hp.cell 0
  simp only [List.getElem?_toArray, List.getElem?_cons_zero] at cp
  have HNI := Lib.hid (show (n : Int) = 4 * (l.length : Int) + 200 by omega)
  have hcap : (l.length : Int) ≤ (n : Int) := by omega
  have hcap2 : l.length ≤ n := by omega
  have HS : Hid (SlX tN p w (.slice (some ⟨g, 0, none⟩) l.length n) l) := by
    have := hg.take (k := l.length) (by rw [rooN_len (by omega)]; omega)
    rw [rooN_take] at this
    exact this.sl (fun e => hgp (by injection e))
  have HLR := Lib.hid (show (rooN l (l.length + 70) n).length = n from rooN_len (by omega))
  clear h hp hg hn
  go_enter Try.func60, Try.ntmps60
  go_wp2_with fail
  (with_reducible refine (sameCode_ok _ _ _ _ _ l HS.out H.out).mono ?_)
  rintro e w1 ⟨rfl, b1⟩
  obtain ⟨W, rfl⟩ : ∃ x : World, x = w1 := ⟨_, rfl⟩
  have HP1 := Lib.hid (HP.out.below b1 hpl)
  have HG1 := Lib.hid (HG.out.below b1)
  have HX1 := Lib.hid (Ex.of_below (p := g) b1)
  clear HS cp HP HG b1
  go_wp2
  go_loopw [6, 7] (fun o t wr => ∃ i : Nat, i ≤ l.length + 70 ∧ t = .int .i64 (i : Int) ∧ o = .bool true ∧ Hid (Below W.heap.size W wr)) (fun _ t _ => l.length + 70 - (intOf t).toNat)
  case atStart => exact ⟨0, by omega, rfl, rfl, bRefl W⟩
  case round =>
    obtain ⟨i, hi, rfl, rfl, hb⟩ := hrel
    by_cases hlt : i < l.length + 70
    · have hlt' : (i : Int) < (l.length : Int) + 70 := by omega
      have hnI := HNI.out
      have hidx3 : (l.length : Int) + (i : Int) < (n : Int) := by omega
      have hidx0 : (0 : Int) ≤ (l.length : Int) + (i : Int) := by omega
      have htn : ((l.length : Int) + (i : Int)).toNat = l.length + i := by omega
      have hib : i ≤ 4398046511104 := by omega
      have hwr : IntKind.i64.wrap ((l.length : Int) + (i : Int)) = (l.length : Int) + (i : Int) := IntWalk.i64_in _ (by omega)
      have hat := ((HG1.out.below hb.out).at (k := l.length + i) (x := mkI i) (rooN_mark hlt)).2
      have e8 : 0 + (l.length + i) * tN.n = (l.length + i) * 8 := by show 0 + _ * 8 = _; omega
      rw [e8] at hat
      have hcp : wr.cell? ⟨p, 0, none⟩ = some (.slice (some ⟨g, 0, none⟩) n n) := (HP1.out.below hb.out HP1.out.lt).cell 0
      clear hnI e8
      go_wp2_with fail
      have cv : wr.drew.cell? ⟨p, 0, none⟩ = some (.slice (some ⟨g, 0, none⟩) n n) ∧ wr.drew.rangeAt g ((l.length + i) * 8) (tN.f (mkI i)) := ⟨hcp, hat⟩
      have hb1 : Hid (Below W.heap.size W wr.drew) := hb.out.drew
      clear hcp hat hb
      refine wp_region_last 15 (fun w' => w'.cell? ⟨p, 0, none⟩ = some (.slice (some ⟨g, 0, none⟩) n n) ∧ w'.rangeAt g ((l.length + i) * 8) (tN.f (mkI i))) mix ?_
      refine wpAnyL_take (i := 0) (v := .bool true) rfl (by kernel_rfl) (by kernel_rfl) (by kernel_rfl) (fun _ _ _ h => h) rfl (by kernel_rfl) (Or.inl ⟨by rfl, fun w' hw' => by (try go_split_ands); go_simp⟩) cv ?_
      simp only [Act.put, List.getElem_toArray, List.getElem_cons_zero, List.setIfInBounds_toArray, List.set_cons_zero, List.set_cons_succ]
      refine wpAnyL_take (i := 1) (v := .bool true) rfl (by kernel_rfl) (by kernel_rfl) (by kernel_rfl) (fun _ _ _ h => h) rfl (by kernel_rfl) (Or.inl ⟨by rfl, fun w' hw' => by (try go_split_ands); go_simp⟩) cv ?_
      simp only [Act.put, List.getElem_toArray, List.getElem_cons_zero, List.getElem_cons_succ, List.setIfInBounds_toArray, List.set_cons_zero, List.set_cons_succ]
      refine wpAnyL_take (i := 2) (v := .pointer (some ⟨p, 0, none⟩)) rfl (by kernel_rfl) (by kernel_rfl) (by kernel_rfl) (fun _ _ _ h => h) rfl (by kernel_rfl) (Or.inl ⟨by rfl, fun w' hw' => by (try go_split_ands); go_simp⟩) cv ?_
      simp only [Act.put, List.getElem_toArray, List.getElem_cons_zero, List.getElem_cons_succ, List.setIfInBounds_toArray, List.set_cons_zero, List.set_cons_succ]
      refine wpAnyL_take (i := 3) (v := .pointer (some ⟨p, 0, none⟩)) rfl (by kernel_rfl) (by kernel_rfl) (by kernel_rfl) (fun _ _ _ h => h) rfl (by kernel_rfl) (Or.inl ⟨by rfl, fun w' hw' => by (try go_split_ands); go_simp⟩) cv ?_
      simp only [Act.put, List.getElem_toArray, List.getElem_cons_zero, List.getElem_cons_succ, List.setIfInBounds_toArray, List.set_cons_zero, List.set_cons_succ]
      refine wpAnyL_take (i := 4) (v := .pointer (some ⟨p, 0, none⟩)) rfl (by kernel_rfl) (by kernel_rfl) (by kernel_rfl) (fun _ _ _ h => h) rfl (by kernel_rfl) (Or.inl ⟨by rfl, fun w' hw' => by (try go_split_ands); go_simp⟩) cv ?_
      simp only [Act.put, List.getElem_toArray, List.getElem_cons_zero, List.getElem_cons_succ, List.setIfInBounds_toArray, List.set_cons_zero, List.set_cons_succ]
      refine wpAnyL_take (i := 5) (v := .slice (some ⟨g, 0, none⟩) n n) rfl (by kernel_rfl) (by kernel_rfl) (by kernel_rfl) (fun _ _ _ h => h) rfl (by kernel_rfl) (Or.inl ⟨by rfl, fun w' hw' => by (try go_split_ands); go_simp⟩) cv ?_
      simp only [Act.put, List.getElem_toArray, List.getElem_cons_zero, List.getElem_cons_succ, List.setIfInBounds_toArray, List.set_cons_zero, List.set_cons_succ]
      refine wpAnyL_take (i := 6) (v := .int .i64 (l.length : Int)) rfl (by kernel_rfl) (by kernel_rfl) (by kernel_rfl) (fun _ _ _ h => h) rfl (by kernel_rfl) (Or.inl ⟨by rfl, fun w' hw' => by (try go_split_ands); go_simp⟩) cv ?_
      simp only [Act.put, List.getElem_toArray, List.getElem_cons_zero, List.getElem_cons_succ, List.setIfInBounds_toArray, List.set_cons_zero, List.set_cons_succ]
      refine wpAnyL_take (i := 7) (v := .int .i64 (i : Int)) rfl (by kernel_rfl) (by kernel_rfl) (by kernel_rfl) (fun _ _ _ h => h) rfl (by kernel_rfl) (Or.inl ⟨by rfl, fun w' hw' => by (try go_split_ands); go_simp⟩) cv ?_
      simp only [Act.put, List.getElem_toArray, List.getElem_cons_zero, List.getElem_cons_succ, List.setIfInBounds_toArray, List.set_cons_zero, List.set_cons_succ]
      refine wpAnyL_take (i := 8) (v := .int .i64 ((l.length : Int) + (i : Int))) rfl (by kernel_rfl) (by kernel_rfl) (by kernel_rfl) (fun _ _ _ h => h) rfl (by kernel_rfl) (Or.inl ⟨by rfl, fun w' hw' => by (try go_split_ands); go_simp⟩) cv ?_
      simp only [Act.put, List.getElem_toArray, List.getElem_cons_zero, List.getElem_cons_succ, List.setIfInBounds_toArray, List.set_cons_zero, List.set_cons_succ]
      refine wpAnyL_take (i := 9) (v := .pointer (some ⟨g, (l.length + i) * 8, none⟩)) rfl (by kernel_rfl) (by kernel_rfl) (by kernel_rfl) (fun _ _ _ h => h) rfl (by kernel_rfl) (Or.inl ⟨by rfl, fun w' hw' => by (try go_split_ands); go_simp⟩) cv ?_
      simp only [Act.put, List.getElem_toArray, List.getElem_cons_zero, List.getElem_cons_succ, List.setIfInBounds_toArray, List.set_cons_zero, List.set_cons_succ]
      refine wpAnyL_take (i := 10) (v := .agg (tN.f (mkI i)).toArray) rfl (by kernel_rfl) (by kernel_rfl) (by kernel_rfl) (fun _ _ _ h => h) rfl (by kernel_rfl) (Or.inl ⟨by rfl, fun w' hw' => exec_loadEl tN (.tmp 34) rfl g ((l.length + i) * 8) rfl (mkI i) hw'.2 rowIns⟩) cv ?_
      simp only [Act.put, List.getElem_toArray, List.getElem_cons_zero, List.getElem_cons_succ, List.setIfInBounds_toArray, List.set_cons_zero, List.set_cons_succ]
      refine wpAnyL_take (i := 11) (v := .int .i64 (i : Int)) rfl (by kernel_rfl) (by kernel_rfl) (by kernel_rfl) (fun _ _ _ h => h) rfl (by kernel_rfl) (Or.inl ⟨by rfl, fun w' hw' => by (try go_split_ands); go_simp⟩) cv ?_
      simp only [Act.put, List.getElem_toArray, List.getElem_cons_zero, List.getElem_cons_succ, List.setIfInBounds_toArray, List.set_cons_zero, List.set_cons_succ]
      refine wpAnyL_one (i := 12) (by kernel_rfl) rfl (fun K hK => ?_)
      go_simp
      go_wp2_with fail
      (with_reducible refine (mark_ok _ i hib).mono ?_)
      rintro e w5 ⟨rfl, b5⟩
      have HB5 := Lib.hid (bThen hb1.out b5)
      have cv5 : w5.cell? ⟨p, 0, none⟩ = some (.slice (some ⟨g, 0, none⟩) n n) ∧ w5.rangeAt g ((l.length + i) * 8) (tN.f (mkI i)) := ⟨(b5.cell (p := ⟨p, 0, none⟩) (World.block_lt_of_cell? _ _ cv.1)).trans cv.1, fun j u hj => by
        have h9 := cv.2 j u hj
        exact (b5.cell (World.block_lt_of_cell? _ _ h9)).trans h9⟩
      clear b5 cv hb1
      go_wp2_with fail
      refine hK.out _ _ (fun _ => cv5) ?_
      clear hK K
      refine wpAnyL_take (i := 13) (v := .bool true) rfl (by kernel_rfl) (by kernel_rfl) (by kernel_rfl) (fun _ _ _ h => h) rfl (by kernel_rfl) (Or.inl ⟨by rfl, fun w' hw' => exec_eql 57 (.tmp 35) (.tmp 37) 57 rfl rfl rfl guardIns (eq_ins w' (mkI i))⟩) cv5 ?_
      simp only [Act.put, List.getElem_toArray, List.getElem_cons_zero, List.getElem_cons_succ, List.setIfInBounds_toArray, List.set_cons_zero, List.set_cons_succ]
      refine wpAnyL_one (i := 14) (by kernel_rfl) rfl (fun K hK => ?_)
      go_simp
      refine hK.out _ _ (fun _ => cv5) ?_
      clear hK K
      refine wpAnyL_one (i := 15) (by kernel_rfl) rfl (fun K hK => ?_)
      go_simp
      refine hK.out _ _ (fun h => absurd rfl h) ?_
      clear hK K
      refine wpAnyL_done (by kernel_rfl) ?_ _
      clear cv5
      go_wp2
      go_roundw
      all_goals first
        | exact ⟨i + 1, by omega, by go_num, rfl, HB5.out⟩
        | ((repeat apply Exists.intro); exact ⟨⟨i + 1, by omega, by go_num, rfl, HB5.out⟩, rfl⟩)
        | (simp [intOf] <;> omega)
    · obtain rfl : i = l.length + 70 := by omega
      have HX2 := Lib.hid (HX1.out.trans (Ex.of_below hb.out))
      have HP2 := Lib.hid (HP1.out.below hb.out HP1.out.lt)
      have HG2 := Lib.hid (HG1.out.below hb.out)
      obtain ⟨V, rfl⟩ : ∃ V : World, V = wr := ⟨_, rfl⟩
      clear hlt hi hb
      go_wp2
      go_loopw [8] (fun t wr => ∃ (j : Nat) (L : List In), j ≤ l.length ∧ t = .int .i64 (j : Int) ∧ Hid (L.length = n) ∧ Hid (OwR tN B wr (.slice (some ⟨g, 0, none⟩) n n) L) ∧ Hid (Ex g w wr) ∧ Hid (Blk wr p 102 #[.slice (some ⟨g, 0, none⟩) n n])) (fun t _ => l.length - (intOf t).toNat)
      case atStart => exact ⟨0, _, by omega, rfl, HLR.out, HG2.out, HX2.out, HP2.out⟩
      case round =>
        clear HG2 HX2 HP2
        obtain ⟨j, L, hj, rfl, hLl, hG, hX, hP⟩ := hrel
        have cp := hP.out.cell 0
        simp only [List.getElem?_toArray, List.getElem?_cons_zero] at cp
        by_cases hlt : j < l.length
        · have hlt' : (j : Int) < (l.length : Int) := by omega
          have hj0 : (0 : Int) ≤ (j : Int) := by omega
          have hjn : (j : Int) < (n : Int) := by omega
          have hjL := Lib.hid (show j < L.length by rw [hLl.out]; omega)
          go_upto_region 9 with (refine wpl_put tN rfl (.tmp 51) (.tmp 50) rfl B g n n L hG.out j hjL.out _ rfl rfl ⟨-3, false, false, 0, 0, 0, 0, 0⟩ rfl rowIns ?_; intro w6 ho6 hg6)
          have HG6 := Lib.hid hg6
          have HX6 := Lib.hid (ho6.ex hX.out (Or.inr rfl))
          have HP6 := Lib.hid (ho6.blk hP.out (Ne.symm hgp))
          have HL6 : Hid ((L.set j ⟨-3, false, false, 0, 0, 0, 0, 0⟩).length = n) := by show _ = _; rw [List.length_set]; exact hLl.out
          clear hg6 ho6 hG hX hP cp hjL
          go_wp2
          go_roundw
          all_goals first
            | exact ⟨j + 1, _, by omega, by go_num, HL6, HG6.out, HX6.out, HP6.out⟩
            | ((repeat apply Exists.intro); exact ⟨⟨j + 1, _, by omega, by go_num, HL6, HG6.out, HX6.out, HP6.out⟩, rfl⟩)
            | (simp [intOf] <;> omega)
        · obtain rfl : j = l.length := by omega
          clear hlt
          go_wp2
          go_ret
          exact ⟨rfl, hX.out⟩
end Go.Proofs.Ytpiiefdaaijgbaa

/- made: the program's flow of a list that is lent, and the document's. -/
namespace Go.Proofs.Ytpiiefdaaijgbaa
open Go Go.RowKit Go.Wr Go.Fl
set_option maxHeartbeats 4000000
set_option maxRecDepth 100000

/-- The document's finished flow at q. -/
def RFinP (l : List In) (q : Nat) (w : World) : Prop := G7 l ∧ ∃ vb vd vl vr vo bs rows E, RFin l q vb vd vl vr vo bs rows E w
theorem RFinP.below {l : List In} {q : Nat} {w w' : World} (h : RFinP l q w) (b : Below w.heap.size w w') : RFinP l q w' := by
  obtain ⟨g, vb, vd, vl, vr, vo, bs, rows, E, h⟩ := h
  exact ⟨g, vb, vd, vl, vr, vo, bs, rows, E, h.below b⟩
/-- What its fields hold. -/
theorem RFinP.get {l : List In} {q : Nat} {w : World} (h : RFinP l q w) : ∃ vb vd vl vr vo, Blk w q 75 #[vb, vd, vl, vr, vo] ∧ Bd q w vb (dB l) ∧ Ld q w vl (dL l) ∧ SlX tI q w vr (nI (dfsL (nxt l)).reverse) := by
  obtain ⟨g, vb, vd, vl, vr, vo, bs, rows, E, h⟩ := h
  refine ⟨vb, vd, vl, vr, vo, h.blk, ⟨bs, h.rw.sb, by rw [dB_len]; exact h.rw.lb, fun i k d hk hd => ?_⟩, ⟨_, h.la, ?_, fun i k d hk hd => ?_⟩, h.ro⟩
  · have hi : i < nB l := by rw [← dB_len]; exact (List.getElem?_eq_some_iff.1 hd).1
    rw [dB_get hi] at hd
    cases hd
    exact h.rw.nb i k hk
  · rw [arL_len, dL_len, ← h.hd, List.length_map]
  · have hi : i < (heads l).length := by rw [← dL_len]; exact (List.getElem?_eq_some_iff.1 hd).1
    rw [dL_get hi] at hd
    cases hd
    have hE : i < E.length := by rw [← h.hd, List.length_map] at hi; exact hi
    obtain ⟨e, he⟩ : ∃ e, E[i]? = some e := ⟨_, List.getElem?_eq_getElem hE⟩
    rw [arL_get he] at hk
    cases hk
    have hh : (heads l).getD i 0 = e.hd := by
      rw [← h.hd, List.getD_eq_getElem?_getD, List.getElem?_map, he]; rfl
    rw [hh]
    exact ⟨rfl, rfl, h.el e (List.mem_of_getElem? he)⟩
/-- What made answers. -/
def MadeP (l : List In) (w : World) (e : Ending) (w' : World) : Prop :=
  Below w.heap.size w w' ∧ (e = .returned (.tuple #[.pointer none, .pointer none, .bool true]) ∨
    ∃ p q, e = .returned (.tuple #[.pointer (some ⟨p, 0, none⟩), .pointer (some ⟨q, 0, none⟩), .bool true]) ∧ w.heap.size ≤ p ∧ w.heap.size ≤ q ∧ FinP l p w' ∧ RFinP l q w')
theorem made_ok (w : World) (q : Nat) (v : Value) (l : List In) (h : SlX tN q w v l) (hl : l.length ≤ 1099511627776) : Calls Try.prog 35 #[v] w (MadeP l w) := by
  obtain ⟨a0, cap, rfl, h1, h2⟩ := h.form
  have H := Lib.hid h
  unfold maxLen at h2
  clear h
  obtain ⟨c, hc⟩ : ∃ c, c = (mkE l).2 := ⟨_, rfl⟩
  obtain ⟨x, hx⟩ : ∃ x, x = (mkE l).1 := ⟨_, rfl⟩
  have HC := Lib.hid hc
  have HX := Lib.hid hx
  clear hc hx
  go_enter Try.func35, Try.ntmps35
  go_wp2_with fail
  generalize hW : w.alloc (.cells #[.slice none 0 0] 102) = W
  obtain ⟨r, hr⟩ : ∃ r, r = w.heap.size := ⟨_, rfl⟩
  rw [← hr]
  have bW : Below w.heap.size w W := by rw [← hW]; exact bAl (bRefl w) _
  have pW : Blk W r 102 #[.slice none 0 0] := by rw [← hW, hr]; exact Blk.new _ _ _
  have HHr : Hid (r = w.heap.size) := hr
  clear hW hr
  refine (lend_ok W r pW _ l ((SlX.re H.out (by rw [HHr.out]; exact Nat.le_refl _)).below bW) hl).mono ?_
  rintro e w2 ⟨g, rfl, hL⟩
  have hrW : r < W.heap.size := pW.lt
  have B2 := Lib.hid (show Below w.heap.size w w2 from bW.trans (hL.ex.below (by rw [HHr.out]; exact Nat.le_refl _) bW.size))
  have hgr := hL.ne
  have HgW := Lib.hid (Nat.le_trans bW.size hL.hg)
  have HSL : Hid (SlX tN r w2 (.slice (some ⟨g, 0, none⟩) l.length (4 * l.length + 200)) l) := by
    have := hL.gb.take (k := l.length) (by rw [rooN_len (by omega)]; omega)
    rw [rooN_take] at this
    exact this.sl (fun e => hgr (by injection e))
  have HL := Lib.hid hL
  have Hg2 := Lib.hid (hL.gb.lt (g := g) rfl)
  clear hL bW pW
  go_wp2_with fail
  refine (make_ok w2 r _ l HSL.out).mono ?_
  rintro e w3 ⟨b3, hM⟩
  rw [← HC.out, ← HX.out] at hM
  have HB3 := Lib.hid (bThen B2.out b3)
  have HLp := Lib.hid (HL.out.pb.below b3 HL.out.pb.lt)
  have HLg := Lib.hid (HL.out.gb.below b3)
  clear b3 HL HSL
  have hback := cback_ok w3 r g W.heap.size (4 * l.length + 200) l HLp.out HLg.out rfl _ ((SlX.re H.out HgW.out).below HB3.out) hl
  rcases hM with ⟨rfl, hne⟩ | ⟨hg, p, ab, cb, b4, o4, b5, o5, c4, c5, va, vo, vr, vl, bs, ss, E, d, rfl, hp, hF⟩
  · have HNE := Lib.hid hne
    have HBK := Lib.hid hback
    clear hne hback
    go_wp2_with fail
    refine HBK.out.mono ?_
    rintro e w4 ⟨rfl, x4⟩
    have HB4 := Lib.hid (HB3.out.trans (x4.below HgW.out HB3.out.size))
    clear x4
    go_wp2_with fail
    refine (rmake_ok w4 q _ l (H.out.below HB4.out)).mono ?_
    rintro e w5 ⟨b5, hM⟩
    rw [← HC.out, ← HX.out] at hM
    have HB5 := Lib.hid (bThen HB4.out b5)
    clear b5
    rcases hM with ⟨rfl, _⟩ | ⟨hg, _⟩
    rotate_left
    · exact absurd (by rw [HC.out, mk_fine hg]) HNE.out
    go_wp2
    go_ret3
    exact ⟨HB5.out, Or.inl rfl⟩
  · have HG := Lib.hid hg
    have HF1 := Lib.hid hF
    have HP := Lib.hid hp
    have HBK := Lib.hid hback
    clear hg hF hp hback
    go_wp2_with fail
    refine HBK.out.mono ?_
    rintro e w4 ⟨rfl, x4⟩
    have HB4 := Lib.hid (HB3.out.trans (x4.below HgW.out HB3.out.size))
    have HF4 := Lib.hid (HF1.out.old (by have h1 := HP.out; have h2 := Hg2.out; omega) x4)
    clear x4 HF1
    go_wp2_with fail
    refine (rmake_ok w4 q _ l (H.out.below HB4.out)).mono ?_
    rintro e w5 ⟨b5, hM⟩
    have HB5 := Lib.hid (bThen HB4.out b5)
    have HF5 := Lib.hid (HF4.out.below b5)
    clear b5 HF4
    rcases hM with ⟨_, hne⟩ | ⟨_, q2, vb2, vd2, vl2, vr2, vo2, bs2, rows2, E2, rfl, hq2, hR⟩
    · exact absurd (by rw [mk_fine HG.out]) hne
    have HR5 := Lib.hid hR
    have HQ := Lib.hid hq2
    clear hR hq2
    go_wp2
    go_ret3
    exact ⟨HB5.out, Or.inr ⟨p, q2, rfl, Nat.le_trans B2.out.size HP.out, Nat.le_trans HB4.out.size HQ.out, ⟨HG.out, _, _, _, _, _, _, _, _, _, _, _, _, _, _, _, _, HF5.out⟩, ⟨HG.out, _, _, _, _, _, _, _, _, HR5.out⟩⟩⟩
end Go.Proofs.Ytpiiefdaaijgbaa

/- A list of instructions that came in, in the second form: no longer than its reading's bulk. -/
namespace Go.Proofs.Ytpiiefdaaijgbaa
open Go Go.RowKit Go.Wr Go.Fl
open Go.ChangeShapes Go.WideShapes Go.ChangeAt Go.Deep
set_option maxHeartbeats 2000000
set_option maxRecDepth 100000

theorem up_one {H : Type} (d : DataW H) : 1 ≤ Rows.uptoBulk d := by
  cases d with
  | lit l => cases l <;> simp [Rows.uptoBulk]
  | _ => simp [Rows.uptoBulk]
theorem up_len {H : Type} (l : List (DataW H)) : l.length ≤ Rows.uptoBulkAll l := by
  induction l with
  | nil => simp
  | cons x r ih => have := up_one x; simp only [Rows.uptoBulkAll, List.length_cons]; omega
theorem up_slice {H : Type} {enc : TypeId × Value → H} {w : World} {base : Nat} {held : Bool} {T E : TypeId} (hT : Try.prog.underlying T = some (.slice E)) {a0 : Option Addr} {len cap : Nat} {fuel : Nat} {x : DataW H × List MemPlace} (h : DataW.trod enc Try.prog w base (fun _ => true) held fuel T [.slice a0 len cap] = some x) (hz : Rows.uptoBulk x.1 ≤ 1048576) : len ≤ 1048576 := by
  rcases open_slice hT h with ⟨hcs, _⟩ | ⟨a, len', cap', m, n', D, Pl, hcs, _, _, _, _, hd, _⟩
  · simp only [List.cons.injEq, Value.slice.injEq, and_true] at hcs
    omega
  · simp only [List.cons.injEq, Value.slice.injEq, and_true] at hcs
    rw [hd] at hz
    simp only [Rows.uptoBulk] at hz
    have := up_len ((List.range len').map D)
    simp only [List.length_map, List.length_range] at this
    omega
theorem open_insz {H : Type} {enc : TypeId × Value → H} {w : World} {base : Nat} {held : Bool} {a0 : Option Addr} {len cap : Nat} {fuel : Nat} {x : DataW H × List MemPlace} (h : DataW.trod enc Try.prog w base (fun _ => true) held fuel 23 [.slice a0 len cap] = some x) (hz : Rows.uptoBulk x.1 ≤ 1048576) :
    ∃ l : List In, SlX tN w.heap.size w (.slice a0 len cap) l ∧ l.length ≤ 1099511627776 := by
  obtain ⟨l, hl⟩ := open_ins h
  have h1 := up_slice Try.underlying23 h hz
  obtain ⟨_, _, e, _⟩ := hl.form
  simp only [Value.slice.injEq] at e
  exact ⟨l, hl, by omega⟩
end Go.Proofs.Ytpiiefdaaijgbaa
