/- The document's pieces of a tag and a claim. -/
import Derived.Test.YtfdjdpbiccclfaaDEf
import Derived.Test.YtfdjdpbiccclfaaDCut
namespace Go.Proofs.Ytfdjdpbiccclfaa
open Go Go.RowKit Go.Wr
set_option maxHeartbeats 4000000
set_option maxRecDepth 100000

/-- A piece: its kind, its number. -/
structure Pc where
  k : Int
  x : Int
def pcv (p : Pc) : List Value := [.int .i64 p.k, .int .i64 p.x]
def pcC (l : List Pc) : List Value := l.flatMap pcv
theorem pcC_append (l m : List Pc) : pcC (l ++ m) = pcC l ++ pcC m := List.flatMap_append
theorem pcC_len (l : List Pc) : (pcC l).length = l.length * 2 := by
  induction l with
  | nil => rfl
  | cons x l ih =>
    rw [show pcC (x :: l) = pcv x ++ pcC l from rfl, List.length_append, ih]
    simp [pcv]
    omega
theorem pcC_one (l : List Pc) : ∀ u ∈ pcC l, u.oneCell' = true := fun u hu => by
  simp only [pcC, List.mem_flatMap, pcv] at hu
  obtain ⟨x, _, hu⟩ := hu
  simp at hu
  rcases hu with rfl | rfl <;> rfl
/-- Only rows of one type from B on may turn. -/
structure Ft (T : TypeId) (B : Nat) (w w' : World) : Prop where
  os : w'.os = w.os
  tape : w'.tape = w.tape
  output : w'.output = w.output
  size : w.heap.size ≤ w'.heap.size
  block : ∀ k o, w.heap[k]? = some o → (k < B ∨ ∀ C fz, o ≠ .cells C T fz) → w'.heap[k]? = some o
theorem Ft.refl (T : TypeId) (B : Nat) (w : World) : Ft T B w w := ⟨rfl, rfl, rfl, Nat.le_refl _, fun _ _ h _ => h⟩
theorem Ft.trans {T : TypeId} {B : Nat} {a b c : World} (h : Ft T B a b) (k : Ft T B b c) : Ft T B a c :=
  ⟨k.os.trans h.os, k.tape.trans h.tape, k.output.trans h.output, Nat.le_trans h.size k.size, fun i o h1 h2 => k.block i o (h.block i o h1 h2) h2⟩
theorem Ft.of_below {T : TypeId} {B : Nat} {w w' : World} (h : Below w.heap.size w w') : Ft T B w w' :=
  ⟨h.os, h.tape, h.output, h.size, fun k _ h1 _ => (h.block k (lt_of_heap h1)).trans h1⟩
theorem Ft.alloc {T : TypeId} {B : Nat} {a w : World} (h : Ft T B a w) (o : Obj) : Ft T B a (w.alloc o) := h.trans (Ft.of_below (bAl (bRefl w) o))
theorem Ft.below {T : TypeId} {B : Nat} {w w' : World} (h : Ft T B w w') (hB : B ≤ w.heap.size) : Below B w w' :=
  ⟨h.os, h.tape, h.output, h.size, fun k hk => by
    have hlt : k < w.heap.size := by omega
    rw [Array.getElem?_eq_getElem hlt]
    exact h.block k _ (Array.getElem?_eq_getElem hlt) (Or.inl hk)⟩
theorem Ft.blk {T T' : TypeId} {B b : Nat} {w w' : World} {C : Array Value} (h : Ft T B w w') (hb : Blk w b T' C) (hT : T' ≠ T) : Blk w' b T' C :=
  h.block b _ hb (Or.inr fun C' fz e => by
    injection e with _ e
    exact hT e)
theorem Ft.grown {T : TypeId} {B n size : Nat} {w w' : World} {v : Value} {xs : List Value} (ho : w.ownsRow B T size v n xs) (hg : w.grownBy w' v.ownBlock) : Ft T B w w' :=
  ⟨hg.os, hg.tape, hg.output, hg.size, fun k o h1 h2 => by
    rw [hg.block k (lt_of_heap h1) (fun e => ?_)]
    · exact h1
    · rcases ho.2 with ⟨rfl, _⟩ | ⟨g, cap, cur, rfl, hb, hh, _⟩
      · cases e
      · simp only [Value.ownBlock, Option.some.injEq] at e
        subst e
        rw [hh] at h1
        injection h1 with h1
        rcases h2 with h2 | h2
        · omega
        · exact h2 _ _ h1.symm⟩
/-- A row of pieces of its own. -/
def OwP (B : Nat) (w : World) (v : Value) (l : List Pc) : Prop := w.ownsRow B 80 2 v l.length (pcC l)
theorem OwP.alloc {B : Nat} {w : World} {v : Value} {l : List Pc} (h : OwP B w v l) (o : Obj) : OwP B (w.alloc o) v l := World.ownsRow.alloc h o
theorem OwP.nil (B : Nat) (w : World) : OwP B w (.slice none 0 0) [] := World.ownsRow_nil _ _ _ _
theorem infoP : (Try.prog.info? 80).map (fun i => (i.zero, i.size, i.bytes)) = some (some (.agg #[.int .i64 0, .int .i64 0]), 2, 16) := by kernel_rfl

/-- Pieces are put behind a row of its own. -/
theorem wpl_push {ops : Array Oper} {rest : List Oper} {op : Oper} {a : Act} {w : World} {Q : Exit → Act → World → Prop} (hgd : op.guard = none) (s x : Operand)
    (ho : op.op = .call { callee := .builtin .append, args := #[s, x], argTypes := #[78, 78] })
    (B : Nat) (v : Value) (l : List Pc) (hs : a.eval s = v) (hown : OwP B w v l)
    (g n c : Nat) (m : List Pc) (hx : a.eval x = .slice (some ⟨g, 0, none⟩) n c) (hn : n = m.length) (hnews : ∀ j u, (pcC m)[j]? = some u → w.cell? ⟨g, j, none⟩ = some u)
    (hl : l.length + m.length ≤ 1099511627776) (hB : B ≤ w.heap.size)
    (h : ∀ v' w', OwP B w' v' (l ++ m) → Ft 80 B w w' → wpList Try.prog ops Q rest (a.put op.dst v') w') : wpList Try.prog ops Q (op :: rest) a w := by
  obtain ⟨i, hi, hz0, hz1, hz2⟩ := info_parts infoP
  subst hn
  refine wpList_append_own w hgd s x _ ho B 80 i _ 2 16 Try.underlying78 hi hz0 hz1 hz2 rfl (by omega) v l.length (pcC l) hs hown ⟨g, 0, none⟩ m.length c (pcC m) hx (pcC_len m) (fun j u hj => by rw [Addr.add_lit, Nat.zero_add]; exact hnews j u hj) (pcC_one m) (by unfold maxLen; omega) (by omega) hB ?_
  intro v' w' h1 h2 _
  refine h v' w' ?_ (Ft.grown hown h2)
  unfold OwP
  rw [pcC_append, List.length_append]
  exact h1
theorem newsBlk {w : World} {b : Nat} {T : TypeId} {C : Array Value} {l : List Value} (h : Blk w b T C) (hl : C.toList = l) : ∀ (j : Nat) (u : Value), l[j]? = some u → w.cell? ⟨b, j, none⟩ = some u := by
  intro j u hu
  rw [h.cell j, ← hu, ← hl]
  simp

theorem newsAt {w : World} {n : Nat} {T : TypeId} {C : Array Value} {l : List Value} (h : n = w.heap.size) (hl : C.toList = l) : ∀ (j : Nat) (u : Value), l[j]? = some u → (w.alloc (.cells C T)).cell? ⟨n, j, none⟩ = some u :=
  newsBlk (Blk.new_at _ _ h) hl

def tagP (t : Tg) (slot : Bool) : List Pc := ⟨1, t.k⟩ :: (if t.k = 5 ∨ t.k = 6 then [⟨1, t.t⟩] else if slot = true ∧ t.k = 0 then [⟨1, t.m⟩] else [])
theorem tagP_len (t : Tg) (slot : Bool) : (tagP t slot).length ≤ 2 := by
  unfold tagP
  split
  · simp
  · split <;> simp
/-- What a function that puts pieces behind a row leaves. -/
def PuP (B : Nat) (w : World) (l : List Pc) (e : Ending) (w' : World) : Prop := Ft 80 B w w' ∧ ∃ v, e = .returned v ∧ OwP B w' v l

theorem tagpieces_ok (w : World) (B : Nat) (v : Value) (l : List Pc) (h : OwP B w v l) (hB : B ≤ w.heap.size) (hl : l.length ≤ 1099511000000) (t : Tg) (slot : Bool) :
    Calls Try.prog 53 #[v, .agg (tgv t), .bool slot] w (PuP B w (l ++ tagP t slot)) := by
  have H := Lib.hid h
  clear h
  obtain ⟨R, hR⟩ : ∃ R, R = l ++ tagP t slot := ⟨_, rfl⟩
  rw [← hR]
  have HR := Lib.hid hR
  clear hR
  unfold tgv
  by_cases h5 : t.k = 5
  · have e5 : (t.k == 5) = true := by simp [h5]
    have HP := Lib.hid (show tagP t slot = [⟨1, t.k⟩, ⟨1, t.t⟩] by unfold tagP; rw [if_pos (Or.inl h5)])
    clear h5
    go_enter Try.func53, Try.ntmps53
    go_wp2_with (first | (at_builtin; refine wpl_push rfl _ _ rfl B v l rfl (((H.out.alloc _).alloc _)) _ _ _ [⟨1, t.k⟩] rfl rfl (newsAt (by simp) rfl) (by simp; omega) (by simp; omega) ?_; intro v1 w1 ho1 hb1; have t1 : Ft 80 B w w1 := (((Ft.refl _ B w).alloc _).alloc _).trans hb1; have H1 := Lib.hid ho1; have P1 := hb1.blk ((Blk.new w 56 #[.int .i64 t.k, .int .i64 t.t, .int .i64 t.m]).alloc _) (by decide); have c0 : w1.cell? ⟨w.heap.size, 0, none⟩ = some (.int .i64 t.k) := P1.cell 0; have c1 : w1.cell? ⟨w.heap.size, 1, none⟩ = some (.int .i64 t.t) := P1.cell 1; have c2 : w1.cell? ⟨w.heap.size, 2, none⟩ = some (.int .i64 t.m) := P1.cell 2; have h1l := t1.size; have hql := P1.lt; clear ho1 hb1 P1) | (at_builtin; refine wpl_push rfl _ _ rfl B v1 (l ++ [⟨1, t.k⟩]) rfl (H1.out.alloc _) _ _ _ [⟨1, t.t⟩] rfl rfl (newsAt rfl rfl) (by simp; omega) (by simp; omega) ?_; intro v2 w2 ho2 hb2))
    go_ret
    refine ⟨(t1.alloc _).trans hb2, v2, rfl, ?_⟩
    rw [HR.out, show tagP t slot = [⟨1, t.k⟩, ⟨1, t.t⟩] from HP.out]
    simpa using ho2
  by_cases h6 : t.k = 6
  · have e5 : (t.k == 5) = false := by simp [h6]
    have e6 : (t.k == 6) = true := by simp [h6]
    have HP := Lib.hid (show tagP t slot = [⟨1, t.k⟩, ⟨1, t.t⟩] by unfold tagP; rw [if_pos (Or.inr h6)])
    clear h5 h6
    go_enter Try.func53, Try.ntmps53
    go_wp2_with (first | (at_builtin; refine wpl_push rfl _ _ rfl B v l rfl (((H.out.alloc _).alloc _)) _ _ _ [⟨1, t.k⟩] rfl rfl (newsAt (by simp) rfl) (by simp; omega) (by simp; omega) ?_; intro v1 w1 ho1 hb1; have t1 : Ft 80 B w w1 := (((Ft.refl _ B w).alloc _).alloc _).trans hb1; have H1 := Lib.hid ho1; have P1 := hb1.blk ((Blk.new w 56 #[.int .i64 t.k, .int .i64 t.t, .int .i64 t.m]).alloc _) (by decide); have c0 : w1.cell? ⟨w.heap.size, 0, none⟩ = some (.int .i64 t.k) := P1.cell 0; have c1 : w1.cell? ⟨w.heap.size, 1, none⟩ = some (.int .i64 t.t) := P1.cell 1; have c2 : w1.cell? ⟨w.heap.size, 2, none⟩ = some (.int .i64 t.m) := P1.cell 2; have h1l := t1.size; have hql := P1.lt; clear ho1 hb1 P1) | (at_builtin; refine wpl_push rfl _ _ rfl B v1 (l ++ [⟨1, t.k⟩]) rfl (H1.out.alloc _) _ _ _ [⟨1, t.t⟩] rfl rfl (newsAt rfl rfl) (by simp; omega) (by simp; omega) ?_; intro v2 w2 ho2 hb2))
    go_ret
    refine ⟨(t1.alloc _).trans hb2, v2, rfl, ?_⟩
    rw [HR.out, show tagP t slot = [⟨1, t.k⟩, ⟨1, t.t⟩] from HP.out]
    simpa using ho2
  have e5 : (t.k == 5) = false := by simp [h5]
  have e6 : (t.k == 6) = false := by simp [h6]
  by_cases h0 : slot = true ∧ t.k = 0
  · have e0 : (t.k == 0) = true := by simp [h0.2]
    have HP := Lib.hid (show tagP t slot = [⟨1, t.k⟩, ⟨1, t.m⟩] by unfold tagP; rw [if_neg (by omega), if_pos h0])
    obtain ⟨h0, hk0⟩ := h0
    subst h0
    clear h5 h6 hk0
    go_enter Try.func53, Try.ntmps53
    go_wp2_with (first | (at_builtin; refine wpl_push rfl _ _ rfl B v l rfl (((H.out.alloc _).alloc _)) _ _ _ [⟨1, t.k⟩] rfl rfl (newsAt (by simp) rfl) (by simp; omega) (by simp; omega) ?_; intro v1 w1 ho1 hb1; have t1 : Ft 80 B w w1 := (((Ft.refl _ B w).alloc _).alloc _).trans hb1; have H1 := Lib.hid ho1; have P1 := hb1.blk ((Blk.new w 56 #[.int .i64 t.k, .int .i64 t.t, .int .i64 t.m]).alloc _) (by decide); have c0 : w1.cell? ⟨w.heap.size, 0, none⟩ = some (.int .i64 t.k) := P1.cell 0; have c1 : w1.cell? ⟨w.heap.size, 1, none⟩ = some (.int .i64 t.t) := P1.cell 1; have c2 : w1.cell? ⟨w.heap.size, 2, none⟩ = some (.int .i64 t.m) := P1.cell 2; have h1l := t1.size; have hql := P1.lt; clear ho1 hb1 P1) | (at_builtin; refine wpl_push rfl _ _ rfl B v1 (l ++ [⟨1, t.k⟩]) rfl (H1.out.alloc _) _ _ _ [⟨1, t.m⟩] rfl rfl (newsAt rfl rfl) (by simp; omega) (by simp; omega) ?_; intro v2 w2 ho2 hb2))
    go_ret
    refine ⟨(t1.alloc _).trans hb2, v2, rfl, ?_⟩
    rw [HR.out, show tagP t true = [⟨1, t.k⟩, ⟨1, t.m⟩] from HP.out]
    simpa using ho2
  · have HP := Lib.hid (show tagP t slot = [⟨1, t.k⟩] by unfold tagP; rw [if_neg (by omega), if_neg h0])
    have e0 : slot = false ∨ (t.k == 0) = false := by
      cases slot
      · exact Or.inl rfl
      · exact Or.inr (by simpa using h0)
    clear h5 h6 h0
    rcases e0 with rfl | e0
    · go_enter Try.func53, Try.ntmps53
      go_wp2_with (at_builtin; refine wpl_push rfl _ _ rfl B v l rfl (((H.out.alloc _).alloc _)) _ _ _ [⟨1, t.k⟩] rfl rfl (newsAt (by simp) rfl) (by simp; omega) (by simp; omega) ?_; intro v1 w1 ho1 hb1; have t1 : Ft 80 B w w1 := (((Ft.refl _ B w).alloc _).alloc _).trans hb1; have H1 := Lib.hid ho1; have P1 := hb1.blk ((Blk.new w 56 #[.int .i64 t.k, .int .i64 t.t, .int .i64 t.m]).alloc _) (by decide); have c0 : w1.cell? ⟨w.heap.size, 0, none⟩ = some (.int .i64 t.k) := P1.cell 0; have c1 : w1.cell? ⟨w.heap.size, 1, none⟩ = some (.int .i64 t.t) := P1.cell 1; have c2 : w1.cell? ⟨w.heap.size, 2, none⟩ = some (.int .i64 t.m) := P1.cell 2; have h1l := t1.size; have hql := P1.lt; clear ho1 hb1 P1)
      go_ret
      exact ⟨t1, v1, rfl, by rw [HR.out, HP.out]; exact H1.out⟩
    · cases slot
      all_goals
        go_enter Try.func53, Try.ntmps53
        go_wp2_with (at_builtin; refine wpl_push rfl _ _ rfl B v l rfl (((H.out.alloc _).alloc _)) _ _ _ [⟨1, t.k⟩] rfl rfl (newsAt (by simp) rfl) (by simp; omega) (by simp; omega) ?_; intro v1 w1 ho1 hb1; have t1 : Ft 80 B w w1 := (((Ft.refl _ B w).alloc _).alloc _).trans hb1; have H1 := Lib.hid ho1; have P1 := hb1.blk ((Blk.new w 56 #[.int .i64 t.k, .int .i64 t.t, .int .i64 t.m]).alloc _) (by decide); have c0 : w1.cell? ⟨w.heap.size, 0, none⟩ = some (.int .i64 t.k) := P1.cell 0; have c1 : w1.cell? ⟨w.heap.size, 1, none⟩ = some (.int .i64 t.t) := P1.cell 1; have c2 : w1.cell? ⟨w.heap.size, 2, none⟩ = some (.int .i64 t.m) := P1.cell 2; have h1l := t1.size; have hql := P1.lt; clear ho1 hb1 P1)
        go_ret
        exact ⟨t1, v1, rfl, by rw [HR.out, HP.out]; exact H1.out⟩
end Go.Proofs.Ytfdjdpbiccclfaa
