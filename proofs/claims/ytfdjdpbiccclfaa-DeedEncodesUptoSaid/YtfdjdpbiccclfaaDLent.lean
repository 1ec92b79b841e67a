/- lent: a deed in new memory, each list with marks behind it. No conditions but those that each law names. -/
import Derived.Test.YtfdjdpbiccclfaaDLr
import Derived.Test.YtfdjdpbiccclfaaDHeld
import Derived.Test.YtfdjdpbiccclfaaDPn
import Derived.Test.YtfdjdpbiccclfaaDSd
namespace Go.Wr
open Go Go.RowKit
theorem wpl_one {P : Program} {ops : Array Oper} {rest : List Oper} {op : Oper} {a : Act} {w : World} {Q : Exit → Act → World → Prop} (hgd : op.guard = none) {t e : TypeId} {x : Operand} (ho : op.op = .buildSlice t 1 #[(0, x)]) {size : Nat} {z : Value} {D : Array Value} (hx : a.eval x = .agg D) (ht : P.underlying t = some (.slice e)) (hsz : ∀ w, (sizeOf e).run P w = .ok size w) (hz : ∀ w, (zeroValue e).run P w = .ok z w)
    (hD : D.size = size) (h0 : 0 < size) (hle : size ≤ 16777216)
    (h : wpList P ops Q rest (a.put op.dst (.slice (some ⟨w.heap.size, 0, none⟩) 1 1)) (w.alloc (.cells D e))) : wpList P ops Q (op :: rest) a w :=
  wpList_plain hgd fun _ hK => wpo_run _ (exec_one ho hx ht hsz hz hD h0 hle) (hK _ _ h)
/-- Two operations may come up, either one first. -/
theorem wpAnyL_two {P : Program} {ops : Array Oper} {Q : Exit → Act → World → Prop} {md : Region.Mode} {S : World → Prop} {last i j : Nat} {o p : Oper} {fuel : Nat} {listed : Array Bool} {a : Act} {w : World} (hr : Region.ready md ops listed = [i, j]) (ho : ops[i]? = some o) (hp : ops[j]? = some p)
    (h : ∀ K' : Act → World → Prop, Shut (∀ a w, (i ≠ last → S w) → wpAnyL P md ops Q S last fuel (listed.setIfInBounds i true) a w → K' a w) → if Region.wanted o (yielded ops a.tmps) = true then Oper.wp P o a w K' Q else K' (a.put o.dst undef) w)
    (h' : ∀ K' : Act → World → Prop, Shut (∀ a w, (j ≠ last → S w) → wpAnyL P md ops Q S last fuel (listed.setIfInBounds j true) a w → K' a w) → if Region.wanted p (yielded ops a.tmps) = true then Oper.wp P p a w K' Q else K' (a.put p.dst undef) w) :
    wpAnyL P md ops Q S last (fuel + 1) listed a w :=
  ⟨fun h0 => (by rw [h0] at hr; cases hr), fun k hk => by
    rw [hr] at hk
    rcases List.mem_cons.1 hk with rfl | hk
    · exact wpOp_step ho (fun K' hK => h K' (fun a w hS hW => hK a w ⟨hS, hW⟩))
    · rcases List.mem_singleton.1 hk with rfl
      exact wpOp_step hp (fun K' hK => h' K' (fun a w hS hW => hK a w ⟨hS, hW⟩))⟩
/-- Two ways meet: what is left is shown once. -/
theorem merge4 {A B C D : Type} {F : A → B → C → D → Prop} {R : A → B → C → D → Prop} {G : Prop} (h1 : Hid (∀ a b c d, F a b c d → R a b c d) → G) (h2 : ∀ a b c d, F a b c d → R a b c d) : G := h1 (Lib.hid h2)
end Go.Wr
namespace Go.Proofs.Ytfdjdpbiccclfaa
open Go Go.RowKit Go.Wr
set_option maxHeartbeats 4000000
set_option maxRecDepth 100000

def m7 : Lp := ⟨-7, 0, 0, 0, 0⟩
def m8 : Lp := ⟨-8, 0, 0, 0, 0⟩
def c7 : C3 := ⟨-7, 0, 0⟩
def c8 : C3 := ⟨-8, 0, 0⟩
def dm : Cl × Sn := (⟨true, f0, []⟩, ⟨none, 0, 0⟩)
def dz : Cl × Sn := (⟨false, f0, []⟩, ⟨none, 0, 0⟩)
/-- The bounds of claims, each row with its marks, and apart. -/
structure LtC (B : Nat) (w : World) (cs : List (Cl × Sn)) : Prop where
  co : ∀ x ∈ cs, x.2.n = x.1.l.length ∧ OwR tC3 B w (.slice x.2.a (x.1.l.length + 2) x.2.c) (x.1.l ++ [c7, c8])
  dj : cs.Pairwise fun x y => x.2.a ≠ y.2.a
/-- A lent deed. -/
structure Lt (B : Nat) (w : World) (la : Option Addr) (lc : Nat) (ka : Option Addr) (kc : Nat) (ls : List Lp) (cs : List (Cl × Sn)) : Prop where
  lp : OwR tLp B w (.slice la (ls.length + 2) lc) (ls ++ [m7, m8])
  cl : OwR tCl B w (.slice ka (cs.length + 2) kc) (cs ++ [dm, dz])
  cc : LtC B w cs
theorem owr_of_block {α : Type} {R : RT Try.prog α} {B : Nat} {w w' : World} {v : Value} {l : List α} (h : OwR R B w v l) (hb : ∀ g C, Blk w g R.T C → w'.heap[g]? = w.heap[g]?) : OwR R B w' v l :=
  h.keep fun g hg => (h.blk hg).2.elim fun C hC => hb g C hC
theorem below_grown {V W w' : World} {o : Obj} {r : Option Nat} (hb : Below V.heap.size V W) (hg : (W.alloc o).grownBy w' r) (hr : ∀ g, r = some g → V.heap.size ≤ g) : Below V.heap.size V w' :=
  ⟨hg.os.trans hb.os, hg.tape.trans hb.tape, hg.output.trans hb.output, by have := hg.size; have := hb.size; simp at *; omega, fun b hlt => by
    have h1 : b < W.heap.size := Nat.lt_of_lt_of_le hlt hb.size
    exact ((hg.block b (by simp; omega) (fun e => by have := hr b e.symm; omega)).trans (Below.heap_alloc W o b h1)).trans (hb.block b hlt)⟩
theorem LtC.of_block {B : Nat} {w w' : World} {cs : List (Cl × Sn)} (h : LtC B w cs) (hb : ∀ g C, Blk w g 63 C → w'.heap[g]? = w.heap[g]?) : LtC B w' cs :=
  ⟨fun x hx => ⟨(h.co x hx).1, owr_of_block (h.co x hx).2 hb⟩, h.dj⟩
theorem LtC.below {B : Nat} {w w' : World} {cs : List (Cl × Sn)} (h : LtC B w cs) (b : Below w.heap.size w w') : LtC B w' cs := h.of_block fun g _ hg => b.block g hg.lt
theorem Lt.of_block {B : Nat} {w w' : World} {la ka : Option Addr} {lc kc : Nat} {ls : List Lp} {cs : List (Cl × Sn)} (h : Lt B w la lc ka kc ls cs) (hb : ∀ g T C, (T = 54 ∨ T = 61 ∨ T = 63) → Blk w g T C → w'.heap[g]? = w.heap[g]?) : Lt B w' la lc ka kc ls cs :=
  ⟨owr_of_block h.lp fun g C => hb g _ C (Or.inl rfl), owr_of_block h.cl fun g C => hb g _ C (Or.inr (Or.inl rfl)), h.cc.of_block fun g C => hb g _ C (Or.inr (Or.inr rfl))⟩
theorem Lt.below {B : Nat} {w w' : World} {la ka : Option Addr} {lc kc : Nat} {ls : List Lp} {cs : List (Cl × Sn)} (h : Lt B w la lc ka kc ls cs) (b : Below w.heap.size w w') : Lt B w' la lc ka kc ls cs := h.of_block fun g _ _ _ hg => b.block g hg.lt
/-- The state of lent behind i claims. -/
structure Lq (w : World) (z q : Nat) (vl vc : Value) (ls : List Lp) (ds : List Cl) (la : Option Addr) (lc : Nat) (k : Nat) (ka : Option Addr) (kc : Nat) (cs : List (Cl × Sn)) (wr : World) : Prop where
  bel : Below w.heap.size w wr
  b1 : Blk wr w.heap.size 26 #[vl, vc]
  zb : Blk wr z 26 #[.slice none 0 0, .slice none 0 0]
  qb : Blk wr q 26 #[.slice la ls.length lc, .slice ka k kc]
  lp : OwR tLp w.heap.size wr (.slice la (ls.length + 2) lc) (ls ++ [m7, m8])
  cl : OwR tCl w.heap.size wr (.slice ka k kc) cs
  cm : cs.map (·.1) = ds.take k
  cc : LtC w.heap.size wr cs
theorem Lq.below {w : World} {z q : Nat} {vl vc : Value} {ls : List Lp} {ds : List Cl} {la : Option Addr} {lc k : Nat} {ka : Option Addr} {kc : Nat} {cs : List (Cl × Sn)} {wr w' : World} (h : Lq w z q vl vc ls ds la lc k ka kc cs wr) (b : Below wr.heap.size wr w') : Lq w z q vl vc ls ds la lc k ka kc cs w' :=
  ⟨bThen h.bel b, h.b1.below b h.b1.lt, h.zb.below b h.zb.lt, h.qb.below b h.qb.lt, h.lp.below b, h.cl.below b, h.cm, h.cc.below b⟩
/-- A claim is put behind. -/
theorem Lq.put {w : World} {z q : Nat} {vl vc : Value} {ls : List Lp} {ds : List Cl} {la : Option Addr} {lc k : Nat} {ka : Option Addr} {kc : Nat} {cs : List (Cl × Sn)} {wr w' : World} (h : Lq w z q vl vc ls ds la lc k ka kc cs wr) (hzq : w.heap.size < z ∧ z < q) {o : Obj} {g c : Nat} {x : Cl} {s : Sn} {n : Nat}
    (hx : ds[k]? = some x) (hown : OwR tCl w.heap.size w' (.slice (some ⟨g, 0, none⟩) (k + 1) c) (cs ++ [(x, s)])) (hg : (wr.alloc o).grownBy w' (Value.slice ka k kc).ownBlock)
    (hs : s.n = x.l.length) (ho : OwR tC3 n wr (.slice s.a (x.l.length + 2) s.c) (x.l ++ [c7, c8])) (hn : ∀ y ∈ cs, ∀ b, y.2.a = some ⟨b, 0, none⟩ → b < n) (hn0 : w.heap.size ≤ n) :
    Lq w z q vl vc ls ds la lc (k + 1) (some ⟨g, 0, none⟩) c (cs ++ [(x, s)]) (w'.setCell ⟨q, 1, none⟩ (.slice (some ⟨g, 0, none⟩) (k + 1) c)) := by
  have hA := h.below (bAl (bRefl wr) o)
  have hoA := ho.alloc o
  have hb : Below w.heap.size w w' := below_grown h.bel hg (fun b hb => (h.cl.blk hb).1)
  have hne : ∀ g T C, T ≠ 61 → Blk (wr.alloc o) g T C → w'.heap[g]? = (wr.alloc o).heap[g]? := fun g T C hT hbk => hg.block _ hbk.lt (fun e => hA.cl.ne hbk (Ne.symm hT) e.symm)
  have hq := hA.qb.of_block (hne _ _ _ (by decide) hA.qb)
  have hset : ∀ g T C, T ≠ 26 → Blk w' g T C → (w'.setCell ⟨q, 1, none⟩ (.slice (some ⟨g, 0, none⟩) (k + 1) c)).heap[g]? = w'.heap[g]? := fun g T C hT hbk => Below.heap_setCell w' ⟨q, 1, none⟩ _ g (blk_ne hbk hq hT)
  have hset2 : ∀ (v : Value) (g : Nat) (T : TypeId) (C : Array Value), T ≠ 26 → Blk w' g T C → (w'.setCell ⟨q, 1, none⟩ v).heap[g]? = w'.heap[g]? := fun v g T C hT hbk => Below.heap_setCell w' ⟨q, 1, none⟩ v g (blk_ne hbk hq hT)
  have hcc := hA.cc.of_block fun g C => hne g _ C (by decide)
  refine ⟨hb.setCell (p := ⟨q, 1, none⟩) (by show w.heap.size ≤ q; omega) _, (hA.b1.of_block (hne _ _ _ (by decide) hA.b1)).set_other q 1 _ (by omega), (hA.zb.of_block (hne _ _ _ (by decide) hA.zb)).set_other q 1 _ (by omega), (hq.set 1 _).eq rfl,
    owr_of_block (owr_of_block hA.lp fun g C => hne g _ C (by decide)) fun g C => hset2 _ g _ C (by decide), owr_of_block hown fun g C => hset2 _ g _ C (by decide), ?_, ?_⟩
  · rw [List.map_append, h.cm, List.take_add_one, hx]
    rfl
  · refine LtC.of_block ?_ fun g C => hset2 _ g _ C (by decide)
    refine ⟨fun y hy => ?_, ?_⟩
    · rcases List.mem_append.1 hy with hy | hy
      · exact hcc.co y hy
      · rw [List.mem_singleton.1 hy]
        exact ⟨hs, (owr_of_block hoA fun g C => hne g _ C (by decide)).mono hn0⟩
    · refine List.pairwise_append.2 ⟨hcc.dj, List.pairwise_singleton _ _, fun y hy t ht e => ?_⟩
      rw [List.mem_singleton.1 ht] at e
      rcases ho.form with ⟨_, e2⟩ | ⟨b, cap, e2, _, _, hb2⟩
      · simp at e2
      · injection e2 with e2
        have := hn y hy b (e.trans e2)
        omega
/-- A deed of small lists. -/
structure Sml (d : Dd) : Prop where
  n1 : d.ls.length ≤ 1048576
  n2 : d.cs.length ≤ 1048576
  n3 : ∀ c ∈ d.cs, c.l.length ≤ 1048576
theorem lent_ok (w : World) (vl vc : Value) (d : Dd) (h : SlD w.heap.size w vl vc d) (hn : Sml d) : Calls Try.prog 12 #[.agg #[vl, vc]] w fun e w' =>
    Below w.heap.size w w' ∧ ∃ (la ka : Option Addr) (lc kc : Nat) (cs : List (Cl × Sn)), e = .returned (.agg #[.slice la d.ls.length lc, .slice ka d.cs.length kc]) ∧ cs.map (·.1) = d.cs ∧ Lt w.heap.size w' la lc ka kc d.ls cs := by
  have mix : Try.prog.follows .mixedOrders = true := by kernel_rfl
  obtain ⟨ls, ds⟩ := d
  obtain ⟨⟨al, capl, rfl, hl⟩, ⟨ac, capc, rfl, hcl⟩, -, -, -⟩ := h
  obtain ⟨n1, n2, n3⟩ := hn
  simp only at hl hcl n1 n2 n3 ⊢
  have HL := Lib.hid (show Rds tLp w.heap.size w al ls from hl)
  have HC := Lib.hid hcl
  have HN := Lib.hid n3
  clear hl hcl n3
  go_enter Try.func12, Try.ntmps12
  go_upto_region 2 with (fail)
  generalize hW : ((w.alloc (.cells #[.slice al ls.length capl, .slice ac ds.length capc] 26)).alloc _).alloc _ = W
  obtain ⟨q, hq⟩ : ∃ q, q = w.heap.size + 1 + 1 := ⟨_, rfl⟩
  obtain ⟨z, hz⟩ : ∃ z, z = w.heap.size + 1 := ⟨_, rfl⟩
  have b1 : Blk W w.heap.size 26 #[.slice al ls.length capl, .slice ac ds.length capc] := by rw [← hW]; exact ((Blk.new _ _ _).alloc _).alloc _
  have z1 : Blk W z 26 #[.slice none 0 0, .slice none 0 0] := by rw [← hW, hz]; exact (Blk.new_at _ _ (by simp)).alloc _
  have q1 : Blk W q 26 #[.slice none 0 0, .slice none 0 0] := by rw [← hW, hq]; exact Blk.new_at _ _ (by simp)
  have bW : Below w.heap.size w W := by rw [← hW]; exact bAl (bAl (bAl (bRefl w) _) _) _
  rw [← hq, ← hz]
  have hzq : w.heap.size < z ∧ z < q := by omega
  clear hW hq hz
  have c0 := b1.cell 0
  have c1 := q1.cell 0
  simp only [List.getElem?_toArray, List.getElem?_cons_zero] at c0 c1
  have HB := Lib.hid (And.intro b1 (And.intro z1 q1))
  have HW := Lib.hid bW
  clear b1 z1 q1 bW
  go_upto_region 3 with (at_builtin; refine wpl_copyNil tLp rfl _ _ rfl rfl w.heap.size al ls.length capl ls rfl rfl (HL.out.below HW.out) (by unfold maxLen; omega) (by show _ * 40 ≤ _; omega) ?_; intro v' w4 hown hb4; obtain ⟨a4, d4, rfl⟩ := owr_form hown; have c4 := (HB.out.2.2.below hb4 HB.out.2.2.lt).cell 0; simp only [List.getElem?_toArray, List.getElem?_cons_zero] at c4; have HO := Lib.hid hown; have HB4 := Lib.hid hb4; have f1 := (HB.out.2.2.below hb4 HB.out.2.2.lt).frozen 0; clear hown hb4)
  have HQ := Lib.hid (show Blk (w4.setCell ⟨q, 0, none⟩ (.slice a4 ls.length d4)) q 26 #[.slice a4 ls.length d4, .slice none 0 0] from ((HB.out.2.2.below HB4.out HB.out.2.2.lt).set 0 _).eq rfl)
  have HZ := Lib.hid (show Blk (w4.setCell ⟨q, 0, none⟩ (.slice a4 ls.length d4)) z 26 #[.slice none 0 0, .slice none 0 0] from (HB.out.2.1.below HB4.out HB.out.2.1.lt).set_other q 0 _ (by omega))
  have H1 := Lib.hid (show Blk (w4.setCell ⟨q, 0, none⟩ (.slice a4 ls.length d4)) w.heap.size 26 #[.slice al ls.length capl, .slice ac ds.length capc] from (HB.out.1.below HB4.out HB.out.1.lt).set_other q 0 _ (by omega))
  have HBW := Lib.hid (show Below w.heap.size w (w4.setCell ⟨q, 0, none⟩ (.slice a4 ls.length d4)) from (bThen HW.out HB4.out).setCell (p := ⟨q, 0, none⟩) (by show w.heap.size ≤ q; omega) _)
  have HO5 := Lib.hid (show OwR tLp w.heap.size (w4.setCell ⟨q, 0, none⟩ (.slice a4 ls.length d4)) (.slice a4 ls.length d4) ls from (HO.out.mono HW.out.size).set_other (HO.out.ne (HB.out.2.2.below HB4.out HB.out.2.2.lt) (by decide)))
  generalize w4.setCell ⟨q, 0, none⟩ (.slice a4 ls.length d4) = V at HQ HZ H1 HBW HO5 ⊢
  clear HB HW HB4 HO f1 c4 c0 c1
  have c0 := H1.out.cell 0
  have c1 := HQ.out.cell 0
  simp only [List.getElem?_toArray, List.getElem?_cons_zero] at c0 c1
  have cv : V.drew.cell? ⟨q, 0, none⟩ = some (.slice a4 ls.length d4) ∧ V.drew.cell? ⟨w.heap.size, 0, none⟩ = some (.slice al ls.length capl) := ⟨c1, c0⟩
  refine wp_region_last 11 (fun w' => w'.cell? ⟨q, 0, none⟩ = some (.slice a4 ls.length d4) ∧ w'.cell? ⟨w.heap.size, 0, none⟩ = some (.slice al ls.length capl)) mix ?_
  refine wpAnyL_take (i := 0) (v := .pointer (some ⟨q, 0, none⟩)) rfl (by kernel_rfl) (by kernel_rfl) (by kernel_rfl) (fun _ _ _ h => h) rfl (by kernel_rfl) (Or.inl ⟨by rfl, fun w' hw' => by (try go_split_ands); go_simp⟩) cv ?_
  simp only [Act.put, List.getElem_toArray, List.getElem_cons_zero, List.setIfInBounds_toArray, List.set_cons_zero, List.set_cons_succ]
  refine wpAnyL_take (i := 1) (v := .slice a4 ls.length d4) rfl (by kernel_rfl) (by kernel_rfl) (by kernel_rfl) (fun _ _ _ h => h) rfl (by kernel_rfl) (Or.inl ⟨by rfl, fun w' hw' => by (try go_split_ands); go_simp⟩) cv ?_
  simp only [Act.put, List.getElem_toArray, List.getElem_cons_zero, List.getElem_cons_succ, List.setIfInBounds_toArray, List.set_cons_zero, List.set_cons_succ]
  refine wpAnyL_take (i := 6) (v := .pointer (some ⟨w.heap.size, 0, none⟩)) rfl (by kernel_rfl) (by kernel_rfl) (by kernel_rfl) (fun _ _ _ h => h) rfl (by kernel_rfl) (Or.inl ⟨by rfl, fun w' hw' => by (try go_split_ands); go_simp⟩) cv ?_
  simp only [Act.put, List.getElem_toArray, List.getElem_cons_zero, List.getElem_cons_succ, List.setIfInBounds_toArray, List.set_cons_zero, List.set_cons_succ]
  refine wpAnyL_take (i := 7) (v := .slice al ls.length capl) rfl (by kernel_rfl) (by kernel_rfl) (by kernel_rfl) (fun _ _ _ h => h) rfl (by kernel_rfl) (Or.inl ⟨by rfl, fun w' hw' => by (try go_split_ands); go_simp⟩) cv ?_
  simp only [Act.put, List.getElem_toArray, List.getElem_cons_zero, List.getElem_cons_succ, List.setIfInBounds_toArray, List.set_cons_zero, List.set_cons_succ]
  refine wpAnyL_take (i := 8) (v := .int .i64 (ls.length : Int)) rfl (by kernel_rfl) (by kernel_rfl) (by kernel_rfl) (fun _ _ _ h => h) rfl (by kernel_rfl) (Or.inl ⟨by rfl, fun w' hw' => by (try go_split_ands); go_simp⟩) cv ?_
  simp only [Act.put, List.getElem_toArray, List.getElem_cons_zero, List.getElem_cons_succ, List.setIfInBounds_toArray, List.set_cons_zero, List.set_cons_succ]
  refine wpAnyL_take (i := 2) (v := .agg #[.int .i64 (-7), .int .i64 0, .int .i64 0, .int .i64 0, .int .i64 0]) rfl (by kernel_rfl) (by kernel_rfl) (by kernel_rfl) (fun _ _ _ h => h) rfl (by kernel_rfl) (Or.inl ⟨by rfl, fun w' hw' => by (try go_split_ands); go_simp⟩) cv ?_
  simp only [Act.put, List.getElem_toArray, List.getElem_cons_zero, List.getElem_cons_succ, List.setIfInBounds_toArray, List.set_cons_zero, List.set_cons_succ]
  refine wpAnyL_take (i := 3) (v := .agg #[.int .i64 (-8), .int .i64 0, .int .i64 0, .int .i64 0, .int .i64 0]) rfl (by kernel_rfl) (by kernel_rfl) (by kernel_rfl) (fun _ _ _ h => h) rfl (by kernel_rfl) (Or.inl ⟨by rfl, fun w' hw' => by (try go_split_ands); go_simp⟩) cv ?_
  simp only [Act.put, List.getElem_toArray, List.getElem_cons_zero, List.getElem_cons_succ, List.setIfInBounds_toArray, List.set_cons_zero, List.set_cons_succ]
  refine wpAnyL_one (i := 4) (by kernel_rfl) rfl (fun K hK => ?_)
  rw [if_pos (by rfl)]
  refine wpo_run _ (exec_two rfl (D := lpv m7) (E := lpv m8) (by rfl) (by rfl) Try.underlying23 sizeLoop zeroLoop rfl rfl (by omega) (by omega)) ?_
  have hN6 : Blk (V.drew.alloc (.cells ((lpv m7).toList ++ (lpv m8).toList).toArray 54)) V.drew.heap.size 54 ((lpv m7).toList ++ (lpv m8).toList).toArray := Blk.new _ _ _
  have bV : Below V.heap.size V (V.drew.alloc (.cells ((lpv m7).toList ++ (lpv m8).toList).toArray 54)) := bAl (bRefl V).drew _
  obtain ⟨t6, ht6⟩ : ∃ t, t = V.drew.heap.size := ⟨_, rfl⟩
  rw [← ht6] at hN6 ⊢
  generalize V.drew.alloc (.cells ((lpv m7).toList ++ (lpv m8).toList).toArray 54) = V6 at hN6 bV ⊢
  have HN6 := Lib.hid hN6
  have HB6 := Lib.hid bV
  have HQ6 := Lib.hid (HQ.out.below bV HQ.out.lt)
  have H16 := Lib.hid (H1.out.below bV H1.out.lt)
  clear cv c0 c1
  have cv : V6.cell? ⟨q, 0, none⟩ = some (.slice a4 ls.length d4) ∧ V6.cell? ⟨w.heap.size, 0, none⟩ = some (.slice al ls.length capl) := ⟨HQ6.out.cell 0, H16.out.cell 0⟩
  have hw6 := bV.size
  have hwv := HBW.out.size
  clear bV hN6 ht6
  refine hK.out _ _ (fun _ => cv) ?_
  clear hK K
  simp only [Act.put, List.getElem_toArray, List.getElem_cons_zero, List.getElem_cons_succ, List.setIfInBounds_toArray, List.set_cons_zero, List.set_cons_succ]
  refine wpAnyL_one (i := 5) (by kernel_rfl) rfl (fun K hK => ?_)
  refine step_push tLp rfl (.tmp 13) (.tmp 16) rfl w.heap.size (.slice a4 ls.length d4) ls (by rfl) (HO5.out.below HB6.out) t6 0 2 2 [m7, m8] (by rfl) rfl (rangeBlk HN6.out (by rfl)) (by unfold maxLen; simp; omega) (by show _ * 40 ≤ _; simp; omega) (by omega) ?_
  intro v' w9 hown hgrow hform
  obtain ⟨g, c, e9, hc1, hc2, hBg⟩ := hform (by simp)
  obtain rfl : v' = .slice (some ⟨g, 0, none⟩) (ls.length + 2) c := e9
  have hc3 : ls.length + 2 ≤ c := hc1
  have hc4 : ls.length ≤ c := by omega
  unfold maxLen at hc2
  have hne : ∀ b T C, T ≠ 54 → Blk V6 b T C → w9.heap[b]? = V6.heap[b]? := fun b T C hT hb => hgrow.block b hb.lt (fun e => (HO5.out.below HB6.out).ne hb (Ne.symm hT) e.symm)
  have HQ9 := Lib.hid (HQ6.out.of_block (hne _ _ _ (by decide) HQ6.out))
  have H19 := Lib.hid (H16.out.of_block (hne _ _ _ (by decide) H16.out))
  have HZ9 := Lib.hid ((HZ.out.below HB6.out HZ.out.lt).of_block (hne _ _ _ (by decide) (HZ.out.below HB6.out HZ.out.lt)))
  have HB9 := Lib.hid (show Below w.heap.size w w9 from (bThen HBW.out HB6.out).grown hgrow (by omega) (fun b hb => (HO5.out.blk hb).1))
  have HO9 := Lib.hid (show OwR tLp w.heap.size w9 (.slice (some ⟨g, 0, none⟩) (ls.length + 2) c) (ls ++ [m7, m8]) from hown)
  clear cv
  have cv : w9.cell? ⟨q, 0, none⟩ = some (.slice a4 ls.length d4) ∧ w9.cell? ⟨w.heap.size, 0, none⟩ = some (.slice al ls.length capl) := ⟨HQ9.out.cell 0, H19.out.cell 0⟩
  have f9 := HQ9.out.frozen 0
  have c9 : w9.cell? ⟨q, 0, none⟩ = some (.slice a4 ls.length d4) := cv.1
  clear hown hgrow hform hc1 hne HQ6 H16 HB6 HN6 HBW HZ H1 HQ HO5 hw6 hwv
  refine hK.out _ _ (fun _ => cv) ?_
  clear hK K
  simp only [Act.put, List.getElem_toArray, List.getElem_cons_zero, List.getElem_cons_succ, List.setIfInBounds_toArray, List.set_cons_zero, List.set_cons_succ]
  refine wpAnyL_one (i := 9) (by kernel_rfl) rfl (fun K hK => ?_)
  go_simp
  refine hK.out _ _ (fun _ => cv) ?_
  clear hK K
  refine wpAnyL_one (i := 10) (by kernel_rfl) rfl (fun K hK => ?_)
  go_simp
  refine hK.out _ _ (fun _ => cv) ?_
  clear hK K
  refine wpAnyL_one (i := 11) (by kernel_rfl) rfl (fun K hK => ?_)
  go_simp
  refine hK.out _ _ (fun h => absurd rfl h) ?_
  clear hK K
  refine wpAnyL_done (by kernel_rfl) ?_ _
  have hL : Hid (Lq w z q (.slice al ls.length capl) (.slice ac ds.length capc) ls ds (some ⟨g, 0, none⟩) c 0 none 0 [] (w9.setCell ⟨q, 0, none⟩ (.slice (some ⟨g, 0, none⟩) ls.length c))) :=
    ⟨HB9.out.setCell (p := ⟨q, 0, none⟩) (by show w.heap.size ≤ q; omega) _, H19.out.set_other q 0 _ (by omega), HZ9.out.set_other q 0 _ (by omega), (HQ9.out.set 0 _).eq rfl, HO9.out.set_other (HO9.out.ne HQ9.out (by decide)), OwR.nil _ _, by simp, ⟨(fun x hx => by cases hx), List.Pairwise.nil⟩⟩
  generalize w9.setCell ⟨q, 0, none⟩ (.slice (some ⟨g, 0, none⟩) ls.length c) = W at hL ⊢
  clear cv f9 c9 HQ9 H19 HZ9 HB9 HO9
  obtain ⟨la, hla⟩ : ∃ la : Option Addr, la = some ⟨g, 0, none⟩ := ⟨_, rfl⟩
  rw [← hla] at hL
  clear hla hc2 hc3 hBg
  go_wp2
  go_loopw [4] (fun t wr => ∃ (k : Nat) (ka : Option Addr) (kc : Nat) (cs : List (Cl × Sn)), k ≤ ds.length ∧ t = .int .i64 (k : Int) ∧ Hid (cs.length = k) ∧ Hid (Lq w z q (.slice al ls.length capl) (.slice ac ds.length capc) ls ds la c k ka kc cs wr)) (fun t _ => ds.length - (intOf t).toNat)
  case atStart => exact ⟨0, none, 0, [], by omega, rfl, rfl, hL⟩
  case round =>
    clear hL
    obtain ⟨k, ka, kc, cs, hk, rfl, hck, hq⟩ := hrel
    obtain ⟨V, rfl⟩ : ∃ x : World, x = wr := ⟨_, rfl⟩
    have d1 := hq.out.b1.cell 1
    simp only [List.getElem?_toArray, List.getElem?_cons_zero, List.getElem?_cons_succ] at d1
    by_cases hlt : k < ds.length
    · have hlt' : (k : Int) < (ds.length : Int) := by omega
      obtain ⟨x, hx⟩ : ∃ x, ds[k]? = some x := ⟨_, List.getElem?_eq_getElem hlt⟩
      have hnx := HN.out x (List.mem_of_getElem? hx)
      obtain ⟨bb, off, vx, ea, hbb, hra, hsl⟩ := HC.out k x hx
      obtain ⟨xa, xc, rfl, -⟩ := hsl.rds
      have HRA := Lib.hid (rangeAt_below hra hq.out.bel hbb)
      have HSL := Lib.hid (hsl.below hq.out.bel)
      have HX := Lib.hid hx
      subst ea
      clear hx hra hsl
      go_upto_region 8 with (first
        | (refine wpl_loadR rfl 61 (.tmp 33) rfl bb (off + k * 128) rfl HRA.out rowClaim (bx_size _ _ _) ?_)
        | (refine wpl_store rfl 61 (.tmp 5) (.tmp 34) rfl V.heap.size 0 rfl rfl (Blk.new V _ _) rowClaim (bx_size _ _ _) (of_decide_eq_true (by kernel_rfl)) (bx_one _ rfl rfl) ?_; intro wn hO hN))
      rw [spl_all _ _ (by rw [bx_size]; kernel_rfl)] at hN
      have bN : Below V.heap.size V wn := ((Below.refl _ _).alloc (Nat.le_refl _) _).trans (hO.below (Nat.le_refl _))
      obtain ⟨t, ht⟩ : ∃ t, t = V.heap.size := ⟨_, rfl⟩
      rw [← ht] at hN ⊢
      have HQ := Lib.hid hq.out
      have HBN := Lib.hid bN
      have HT := Lib.hid hN
      have HSL2 := Lib.hid (HSL.out.below (bN.mono hq.out.bel.size))
      have htq : q < t ∧ w.heap.size ≤ t ∧ V.heap.size ≤ t := by have := hq.out.qb.lt; omega
      have e0 : wn.cell? ⟨t, 127, none⟩ = some (.slice xa x.l.length xc) := (hN.cell 127).trans (bx_last _ _ _)
      have e1 : wn.cell? ⟨w.heap.size, 1, none⟩ = some (.slice (some ⟨bb, off, none⟩) ds.length capc) := (hq.out.b1.below bN hq.out.b1.lt).cell 1
      have e2 : wn.cell? ⟨bb, off + k * 128 + 127, none⟩ = some (.slice xa x.l.length xc) := rangeAt_below HRA.out (bN.mono hq.out.bel.size) hbb 127 _ (by rw [Array.getElem?_toList]; exact bx_last _ _ _)
      have hcv : ∀ w', Below wn.heap.size wn w' → w'.cell? ⟨t, 127, none⟩ = some (.slice xa x.l.length xc) ∧ w'.cell? ⟨w.heap.size, 1, none⟩ = some (.slice (some ⟨bb, off, none⟩) ds.length capc) ∧ w'.cell? ⟨bb, off + k * 128 + 127, none⟩ = some (.slice xa x.l.length xc) := fun w' b =>
        ⟨(b.cell (p := ⟨t, 127, none⟩) hN.lt).trans e0, (b.cell (p := ⟨w.heap.size, 1, none⟩) (hq.out.b1.below bN hq.out.b1.lt).lt).trans e1, (b.cell (p := ⟨bb, off + k * 128 + 127, none⟩) (World.block_lt_of_cell? _ _ e2)).trans e2⟩
      have HCV := Lib.hid hcv
      have cv := hcv _ (bRefl wn).drew
      clear hcv hN hO bN hq HRA HSL d1 ht e0 e1 e2
      refine wp_region_last 16 (fun w' => w'.cell? ⟨t, 127, none⟩ = some (.slice xa x.l.length xc) ∧ w'.cell? ⟨w.heap.size, 1, none⟩ = some (.slice (some ⟨bb, off, none⟩) ds.length capc) ∧ w'.cell? ⟨bb, off + k * 128 + 127, none⟩ = some (.slice xa x.l.length xc)) mix ?_
      refine wpAnyL_take (i := 0) (v := .pointer (some ⟨t, 127, none⟩)) rfl (by kernel_rfl) (by kernel_rfl) (by kernel_rfl) (fun _ _ _ h => h) rfl (by kernel_rfl) (Or.inl ⟨by rfl, fun w' hw' => by (try go_split_ands); go_simp⟩) cv ?_
      simp only [Act.put, List.getElem_toArray, List.getElem_cons_zero, List.setIfInBounds_toArray, List.set_cons_zero, List.set_cons_succ]
      refine wpAnyL_take (i := 1) (v := .slice xa x.l.length xc) rfl (by kernel_rfl) (by kernel_rfl) (by kernel_rfl) (fun _ _ _ h => h) rfl (by kernel_rfl) (Or.inl ⟨by rfl, fun w' hw' => by (try go_split_ands); go_simp⟩) cv ?_
      simp only [Act.put, List.getElem_toArray, List.getElem_cons_zero, List.getElem_cons_succ, List.setIfInBounds_toArray, List.set_cons_zero, List.set_cons_succ]
      refine wpAnyL_take (i := 3) (v := .agg #[.int .i64 (-7), .int .i64 0, .int .i64 0]) rfl (by kernel_rfl) (by kernel_rfl) (by kernel_rfl) (fun _ _ _ h => h) rfl (by kernel_rfl) (Or.inl ⟨by rfl, fun w' hw' => by (try go_split_ands); go_simp⟩) cv ?_
      simp only [Act.put, List.getElem_toArray, List.getElem_cons_zero, List.getElem_cons_succ, List.setIfInBounds_toArray, List.set_cons_zero, List.set_cons_succ]
      refine wpAnyL_take (i := 4) (v := .agg #[.int .i64 (-8), .int .i64 0, .int .i64 0]) rfl (by kernel_rfl) (by kernel_rfl) (by kernel_rfl) (fun _ _ _ h => h) rfl (by kernel_rfl) (Or.inl ⟨by rfl, fun w' hw' => by (try go_split_ands); go_simp⟩) cv ?_
      simp only [Act.put, List.getElem_toArray, List.getElem_cons_zero, List.getElem_cons_succ, List.setIfInBounds_toArray, List.set_cons_zero, List.set_cons_succ]
      refine wpAnyL_take (i := 7) (v := .pointer (some ⟨w.heap.size, 1, none⟩)) rfl (by kernel_rfl) (by kernel_rfl) (by kernel_rfl) (fun _ _ _ h => h) rfl (by kernel_rfl) (Or.inl ⟨by rfl, fun w' hw' => by (try go_split_ands); go_simp⟩) cv ?_
      simp only [Act.put, List.getElem_toArray, List.getElem_cons_zero, List.getElem_cons_succ, List.setIfInBounds_toArray, List.set_cons_zero, List.set_cons_succ]
      refine wpAnyL_take (i := 8) (v := .slice (some ⟨bb, off, none⟩) ds.length capc) rfl (by kernel_rfl) (by kernel_rfl) (by kernel_rfl) (fun _ _ _ h => h) rfl (by kernel_rfl) (Or.inl ⟨by rfl, fun w' hw' => by (try go_split_ands); go_simp⟩) cv ?_
      simp only [Act.put, List.getElem_toArray, List.getElem_cons_zero, List.getElem_cons_succ, List.setIfInBounds_toArray, List.set_cons_zero, List.set_cons_succ]
      refine wpAnyL_take (i := 9) (v := .int .i64 (k : Int)) rfl (by kernel_rfl) (by kernel_rfl) (by kernel_rfl) (fun _ _ _ h => h) rfl (by kernel_rfl) (Or.inl ⟨by rfl, fun w' hw' => by (try go_split_ands); go_simp⟩) cv ?_
      simp only [Act.put, List.getElem_toArray, List.getElem_cons_zero, List.getElem_cons_succ, List.setIfInBounds_toArray, List.set_cons_zero, List.set_cons_succ]
      refine wpAnyL_take (i := 10) (v := .pointer (some ⟨bb, off + k * 128, none⟩)) rfl (by kernel_rfl) (by kernel_rfl) (by kernel_rfl) (fun _ _ _ h => h) rfl (by kernel_rfl) (Or.inl ⟨by rfl, fun w' hw' => by (try go_split_ands); go_simp⟩) cv ?_
      simp only [Act.put, List.getElem_toArray, List.getElem_cons_zero, List.getElem_cons_succ, List.setIfInBounds_toArray, List.set_cons_zero, List.set_cons_succ]
      refine wpAnyL_take (i := 11) (v := .pointer (some ⟨bb, off + k * 128 + 127, none⟩)) rfl (by kernel_rfl) (by kernel_rfl) (by kernel_rfl) (fun _ _ _ h => h) rfl (by kernel_rfl) (Or.inl ⟨by rfl, fun w' hw' => by (try go_split_ands); go_simp⟩) cv ?_
      simp only [Act.put, List.getElem_toArray, List.getElem_cons_zero, List.getElem_cons_succ, List.setIfInBounds_toArray, List.set_cons_zero, List.set_cons_succ]
      refine wpAnyL_take (i := 12) (v := .slice xa x.l.length xc) rfl (by kernel_rfl) (by kernel_rfl) (by kernel_rfl) (fun _ _ _ h => h) rfl (by kernel_rfl) (Or.inl ⟨by rfl, fun w' hw' => by (try go_split_ands); go_simp⟩) cv ?_
      simp only [Act.put, List.getElem_toArray, List.getElem_cons_zero, List.getElem_cons_succ, List.setIfInBounds_toArray, List.set_cons_zero, List.set_cons_succ]
      refine wpAnyL_take (i := 13) (v := .int .i64 (x.l.length : Int)) rfl (by kernel_rfl) (by kernel_rfl) (by kernel_rfl) (fun _ _ _ h => h) rfl (by kernel_rfl) (Or.inl ⟨by rfl, fun w' hw' => by (try go_split_ands); go_simp⟩) cv ?_
      simp only [Act.put, List.getElem_toArray, List.getElem_cons_zero, List.getElem_cons_succ, List.setIfInBounds_toArray, List.set_cons_zero, List.set_cons_succ]
      apply merge4 (F := fun (V6 : World) (t6 : Nat) (a2 : Option Addr) (d2 : Nat) => Blk V6 t6 63 ((c3v c7).toList ++ (c3v c8).toList).toArray ∧ OwR tC3 wn.heap.size V6 (.slice a2 x.l.length d2) x.l ∧ Below wn.heap.size wn V6)
      case h1 =>
        intro HR
        refine wpAnyL_two (i := 2) (j := 5) (by kernel_rfl) rfl rfl (fun K hK => ?_) (fun K hK => ?_)
        · go_simp
          go_wp2_with fail
          refine (copycons_ok wn.drew w.heap.size _ x.l HSL2.out (by omega)).mono ?_
          rintro e w2 ⟨b2, a2, d2, rfl, o2⟩
          have b6 : Below wn.heap.size wn w2 := (bRefl wn).drew.trans b2
          have o6 : OwR tC3 wn.heap.size w2 (.slice a2 x.l.length d2) x.l := o2
          clear b2 o2
          go_wp2_with fail
          refine hK.out _ _ (fun _ => HCV.out _ b6) ?_
          clear hK K
          refine wpAnyL_one (i := 5) (by kernel_rfl) rfl (fun K hK => ?_)
          rw [if_pos (by rfl)]
          refine wpo_run _ (exec_two rfl (D := c3v c7) (E := c3v c8) (by rfl) (by rfl) Try.underlying59 sizeCon zeroCon rfl rfl (by omega) (by omega)) ?_
          have hN6 : Blk (w2.alloc (.cells ((c3v c7).toList ++ (c3v c8).toList).toArray 63)) w2.heap.size 63 ((c3v c7).toList ++ (c3v c8).toList).toArray := Blk.new _ _ _
          have HO6 := Lib.hid (o6.alloc (.cells ((c3v c7).toList ++ (c3v c8).toList).toArray 63))
          have HB6 := Lib.hid (bAl b6 (.cells ((c3v c7).toList ++ (c3v c8).toList).toArray 63))
          obtain ⟨t6, ht6⟩ : ∃ t, t = w2.heap.size := ⟨_, rfl⟩
          rw [← ht6] at hN6 ⊢
          clear b6 o6 ht6
          generalize w2.alloc (.cells ((c3v c7).toList ++ (c3v c8).toList).toArray 63) = V6 at hN6 HO6 HB6 ⊢
          have HN6 := Lib.hid hN6
          clear hN6
          refine hK.out _ _ (fun _ => HCV.out _ HB6.out) ?_
          clear hK K
          simp only [Act.put, List.getElem_toArray, List.getElem_cons_zero, List.getElem_cons_succ, List.setIfInBounds_toArray, List.set_cons_zero, List.set_cons_succ]
          exact HR.out V6 t6 a2 d2 ⟨HN6.out, HO6.out, HB6.out⟩
        · rw [if_pos (by rfl)]
          refine wpo_run _ (exec_two rfl (D := c3v c7) (E := c3v c8) (by rfl) (by rfl) Try.underlying59 sizeCon zeroCon rfl rfl (by omega) (by omega)) ?_
          have hN6 : Blk (wn.drew.alloc (.cells ((c3v c7).toList ++ (c3v c8).toList).toArray 63)) wn.heap.size 63 ((c3v c7).toList ++ (c3v c8).toList).toArray := Blk.new _ _ _
          have b6 : Below wn.heap.size wn (wn.drew.alloc (.cells ((c3v c7).toList ++ (c3v c8).toList).toArray 63)) := bAl (bRefl wn).drew _
          obtain ⟨t6, ht6⟩ : ∃ t, t = wn.heap.size := ⟨_, rfl⟩
          have e6 : wn.drew.heap.size = t6 := ht6.symm
          rw [← ht6] at hN6
          rw [e6]
          clear ht6 e6
          generalize wn.drew.alloc (.cells ((c3v c7).toList ++ (c3v c8).toList).toArray 63) = V5 at hN6 b6 ⊢
          refine hK.out _ _ (fun _ => HCV.out _ b6) ?_
          clear hK K
          simp only [Act.put, List.getElem_toArray, List.getElem_cons_zero, List.getElem_cons_succ, List.setIfInBounds_toArray, List.set_cons_zero, List.set_cons_succ]
          refine wpAnyL_one (i := 2) (by kernel_rfl) rfl (fun K hK => ?_)
          go_simp
          go_wp2_with fail
          refine (copycons_ok V5 w.heap.size _ x.l (HSL2.out.below (b6.mono (by have := HQ.out.bel.size; have := HBN.out.size; omega))) (by omega)).mono ?_
          rintro e V6 ⟨b2, a2, d2, rfl, o2⟩
          have HN6 := Lib.hid (hN6.below b2 hN6.lt)
          have HO6 := Lib.hid (show OwR tC3 wn.heap.size V6 (.slice a2 x.l.length d2) x.l from o2.mono b6.size)
          have HB6 := Lib.hid (bThen b6 b2)
          clear b2 o2 b6 hN6
          go_wp2_with fail
          refine hK.out _ _ (fun _ => HCV.out _ HB6.out) ?_
          clear hK K
          exact HR.out V6 t6 a2 d2 ⟨HN6.out, HO6.out, HB6.out⟩
      case h2 =>
        rintro V6 t6 a2 d2 ⟨hN6, hO6, hB6⟩
        have HN6 := Lib.hid hN6
        have HO6 := Lib.hid hO6
        have HB6 := Lib.hid hB6
        clear hN6 hO6 hB6
        refine wpAnyL_one (i := 6) (by kernel_rfl) rfl (fun K hK => ?_)
        refine step_push tC3 rfl (.tmp 37) (.tmp 40) rfl wn.heap.size (.slice a2 x.l.length d2) x.l (by rfl) HO6.out t6 0 2 2 [c7, c8] (by rfl) rfl (rangeBlk HN6.out (by rfl)) (by unfold maxLen; simp; omega) (by show _ * 24 ≤ _; simp; omega) HB6.out.size ?_
        intro v' w9 hown hgrow hform
        obtain ⟨g2, d9, e9, hc1, hc2, hBg⟩ := hform (by simp)
        obtain rfl : v' = .slice (some ⟨g2, 0, none⟩) (x.l.length + 2) d9 := e9
        have hc3 : x.l.length + 2 ≤ d9 := hc1
        have hc4 : x.l.length ≤ d9 := by omega
        unfold maxLen at hc2
        have HB9 := Lib.hid (show Below wn.heap.size wn w9 from HB6.out.grown hgrow HB6.out.size (fun b hb => (HO6.out.blk hb).1))
        have HO9 := Lib.hid (show OwR tC3 wn.heap.size w9 (.slice (some ⟨g2, 0, none⟩) (x.l.length + 2) d9) (x.l ++ [c7, c8]) from hown)
        have HT9 := Lib.hid (HT.out.below HB9.out HT.out.lt)
        have cv := HCV.out _ HB9.out
        have f9 := HT9.out.frozen 127
        have c9 := cv.1
        clear hown hgrow hform hc1 HO6 HN6 HB6
        refine hK.out _ _ (fun _ => cv) ?_
        clear hK K
        simp only [Act.put, List.getElem_toArray, List.getElem_cons_zero, List.getElem_cons_succ, List.setIfInBounds_toArray, List.set_cons_zero, List.set_cons_succ]
        refine wpAnyL_one (i := 14) (by kernel_rfl) rfl (fun K hK => ?_)
        go_simp
        refine hK.out _ _ (fun _ => cv) ?_
        clear hK K
        refine wpAnyL_one (i := 15) (by kernel_rfl) rfl (fun K hK => ?_)
        go_simp
        refine hK.out _ _ (fun _ => cv) ?_
        clear hK K
        refine wpAnyL_one (i := 16) (by kernel_rfl) rfl (fun K hK => ?_)
        go_simp
        refine hK.out _ _ (fun h => absurd rfl h) ?_
        clear hK K
        refine wpAnyL_done (by kernel_rfl) ?_ _
        have HT10 := Lib.hid (show Blk (w9.setCell ⟨t, 127, none⟩ (.slice (some ⟨g2, 0, none⟩) x.l.length d9)) t 61 (bx (.bool x.d) x.f (.slice (some ⟨g2, 0, none⟩) x.l.length d9)) from (HT9.out.set 127 _).eq (bx_setlast _ _ _ _))
        have HB10 := Lib.hid (show Below V.heap.size V (w9.setCell ⟨t, 127, none⟩ (.slice (some ⟨g2, 0, none⟩) x.l.length d9)) from (HBN.out.trans (HB9.out.mono HBN.out.size)).setCell (p := ⟨t, 127, none⟩) htq.2.2 _)
        have HO10 := Lib.hid (HO9.out.set_other (i := 127) (x := .slice (some ⟨g2, 0, none⟩) x.l.length d9) (HO9.out.ne HT9.out (by decide)))
        generalize w9.setCell ⟨t, 127, none⟩ (.slice (some ⟨g2, 0, none⟩) x.l.length d9) = W10 at HT10 HB10 HO10 ⊢
        clear cv f9 c9 HT9 HO9 HB9
        have HQ10 := Lib.hid (HQ.out.below HB10.out)
        have k1 : W10.cell? ⟨q, 1, none⟩ = some (.slice ka k kc) := HQ10.out.qb.cell 1
        have kf := HQ10.out.qb.frozen 1
        have HH := Lib.hid (show k + 1 ≤ 1048576 by omega)
        have hs10 := HQ10.out.bel.size
        go_upto_region 6 with (first
          | (refine wpl_load rfl 61 (.tmp 5) rfl t 0 rfl HT10.out rowClaim (by rw [bx_size]; omega) (bx_all _ _ _) ?_)
          | (refine wpl_one rfl rfl (D := bx (.bool x.d) x.f (.slice (some ⟨g2, 0, none⟩) x.l.length d9)) rfl Try.underlying24 sizeClaim zeroClaim (bx_size _ _ _) (by omega) (by omega) ?_)
          | (at_builtin; refine wpl_push tCl rfl (.tmp 52) (.tmp 54) rfl w.heap.size (.slice ka k kc) cs rfl (HQ10.out.cl.alloc _) _ 0 1 1 [(x, ⟨some ⟨g2, 0, none⟩, x.l.length, d9⟩)] rfl rfl (rangeNew (by rfl) (by rw [RT.cs_one]; rfl)) (by rw [hck.out]; unfold maxLen; simp; omega) (by rw [hck.out]; show _ * 1040 ≤ _; simp; omega) (by simp; omega) ?_; intro v11 w11 hown hgrow hform; obtain ⟨g11, d11, e11, hd1, _⟩ := hform (by simp); obtain rfl : v11 = .slice (some ⟨g11, 0, none⟩) (k + 1) d11 := (by rw [e11, hck.out]; rfl); have q11 := (HQ10.out.below (bAl (bRefl W10) (.cells (bx (.bool x.d) x.f (.slice (some ⟨g2, 0, none⟩) x.l.length d9)) 61))).qb; have q12 := q11.of_block (hgrow.block q q11.lt (fun e => HQ10.out.cl.ne HQ10.out.qb (by decide) e.symm)); have k12 : w11.cell? ⟨q, 1, none⟩ = some (.slice ka k kc) := q12.cell 1; have kf12 := q12.frozen 1))
        have HQ11 := HQ10.out.put hzq HX.out hown hgrow rfl HO10.out (fun y hy b hb => by have h1 := ((HQ.out.cc.co y hy).2).lt (g := b) (by rw [hb]; rfl); have := HBN.out.size; omega) (by have := HQ.out.bel.size; have := HBN.out.size; omega)
        have hck2 : (cs ++ [(x, (⟨some ⟨g2, 0, none⟩, x.l.length, d9⟩ : Sn))]).length = cs.length + 1 := by simp
        go_wp2
        go_roundw
        all_goals first
          | exact ⟨cs.length + 1, _, _, _, by omega, by go_num, hck2, HQ11⟩
          | ((repeat apply Exists.intro); exact ⟨⟨cs.length + 1, _, _, _, by omega, by go_num, hck2, HQ11⟩, rfl⟩)
          | (simp [intOf] <;> omega)
    · obtain rfl : k = ds.length := by omega
      have d2 := hq.out.qb.cell 1
      simp only [List.getElem?_toArray, List.getElem?_cons_zero, List.getElem?_cons_succ] at d2
      have HQ := Lib.hid hq.out
      clear hq
      have cv : V.drew.cell? ⟨q, 1, none⟩ = some (.slice ka ds.length kc) ∧ V.drew.cell? ⟨w.heap.size, 1, none⟩ = some (.slice ac ds.length capc) := ⟨d2, d1⟩
      go_upto_region 10 with (fail)
      refine wp_region_last 11 (fun w' => w'.cell? ⟨q, 1, none⟩ = some (.slice ka ds.length kc) ∧ w'.cell? ⟨w.heap.size, 1, none⟩ = some (.slice ac ds.length capc)) mix ?_
      refine wpAnyL_take (i := 0) (v := .pointer (some ⟨q, 1, none⟩)) rfl (by kernel_rfl) (by kernel_rfl) (by kernel_rfl) (fun _ _ _ h => h) rfl (by kernel_rfl) (Or.inl ⟨by rfl, fun w' hw' => by (try go_split_ands); go_simp⟩) cv ?_
      simp only [Act.put, List.getElem_toArray, List.getElem_cons_zero, List.setIfInBounds_toArray, List.set_cons_zero, List.set_cons_succ]
      refine wpAnyL_take (i := 1) (v := .slice ka ds.length kc) rfl (by kernel_rfl) (by kernel_rfl) (by kernel_rfl) (fun _ _ _ h => h) rfl (by kernel_rfl) (Or.inl ⟨by rfl, fun w' hw' => by (try go_split_ands); go_simp⟩) cv ?_
      simp only [Act.put, List.getElem_toArray, List.getElem_cons_zero, List.getElem_cons_succ, List.setIfInBounds_toArray, List.set_cons_zero, List.set_cons_succ]
      refine wpAnyL_take (i := 6) (v := .pointer (some ⟨w.heap.size, 1, none⟩)) rfl (by kernel_rfl) (by kernel_rfl) (by kernel_rfl) (fun _ _ _ h => h) rfl (by kernel_rfl) (Or.inl ⟨by rfl, fun w' hw' => by (try go_split_ands); go_simp⟩) cv ?_
      simp only [Act.put, List.getElem_toArray, List.getElem_cons_zero, List.getElem_cons_succ, List.setIfInBounds_toArray, List.set_cons_zero, List.set_cons_succ]
      refine wpAnyL_take (i := 7) (v := .slice ac ds.length capc) rfl (by kernel_rfl) (by kernel_rfl) (by kernel_rfl) (fun _ _ _ h => h) rfl (by kernel_rfl) (Or.inl ⟨by rfl, fun w' hw' => by (try go_split_ands); go_simp⟩) cv ?_
      simp only [Act.put, List.getElem_toArray, List.getElem_cons_zero, List.getElem_cons_succ, List.setIfInBounds_toArray, List.set_cons_zero, List.set_cons_succ]
      refine wpAnyL_take (i := 8) (v := .int .i64 (ds.length : Int)) rfl (by kernel_rfl) (by kernel_rfl) (by kernel_rfl) (fun _ _ _ h => h) rfl (by kernel_rfl) (Or.inl ⟨by rfl, fun w' hw' => by (try go_split_ands); go_simp⟩) cv ?_
      simp only [Act.put, List.getElem_toArray, List.getElem_cons_zero, List.getElem_cons_succ, List.setIfInBounds_toArray, List.set_cons_zero, List.set_cons_succ]
      refine wpAnyL_take (i := 2) (v := .agg (bx (.bool true) f0 (.slice none 0 0))) rfl (by kernel_rfl) (by kernel_rfl) (by kernel_rfl) (fun _ _ _ h => h) rfl (by kernel_rfl) (Or.inl ⟨by rfl, fun w' _ => exec_build 61 [(0, .const (.bool true))] rfl builtDead⟩) cv ?_
      simp only [Act.put, List.getElem_toArray, List.getElem_cons_zero, List.getElem_cons_succ, List.setIfInBounds_toArray, List.set_cons_zero, List.set_cons_succ]
      refine wpAnyL_take (i := 3) (v := .agg (bx (.bool false) f0 (.slice none 0 0))) rfl (by kernel_rfl) (by kernel_rfl) (by kernel_rfl) (fun _ _ _ h => h) rfl (by kernel_rfl) (Or.inl ⟨by rfl, fun w' _ => exec_build 61 [] rfl builtZero⟩) cv ?_
      simp only [Act.put, List.getElem_toArray, List.getElem_cons_zero, List.getElem_cons_succ, List.setIfInBounds_toArray, List.set_cons_zero, List.set_cons_succ]
      refine wpAnyL_one (i := 4) (by kernel_rfl) rfl (fun K hK => ?_)
      rw [if_pos (by rfl)]
      refine wpo_run _ (exec_two rfl (D := bx (.bool true) f0 (.slice none 0 0)) (E := bx (.bool false) f0 (.slice none 0 0)) (by rfl) (by rfl) Try.underlying24 sizeClaim zeroClaim (bx_size _ _ _) (bx_size _ _ _) (by omega) (by omega)) ?_
      obtain ⟨C6, hC6⟩ : ∃ C, C = ((bx (.bool true) f0 (.slice none 0 0)).toList ++ (bx (.bool false) f0 (.slice none 0 0)).toList).toArray := ⟨_, rfl⟩
      rw [← hC6]
      have hN6 : Blk (V.drew.alloc (.cells C6 61)) V.drew.heap.size 61 C6 := Blk.new _ _ _
      have bV : Below V.heap.size V (V.drew.alloc (.cells C6 61)) := bAl (bRefl V).drew _
      obtain ⟨t6, ht6⟩ : ∃ t, t = V.drew.heap.size := ⟨_, rfl⟩
      rw [← ht6] at hN6 ⊢
      generalize V.drew.alloc (.cells C6 61) = V6 at hN6 bV ⊢
      have HN6 := Lib.hid hN6
      have HQ6 := Lib.hid (HQ.out.below bV)
      have HC6 := Lib.hid hC6
      clear bV hN6 ht6 HQ d1 d2 cv hC6
      have cv : V6.cell? ⟨q, 1, none⟩ = some (.slice ka ds.length kc) ∧ V6.cell? ⟨w.heap.size, 1, none⟩ = some (.slice ac ds.length capc) := ⟨HQ6.out.qb.cell 1, HQ6.out.b1.cell 1⟩
      refine hK.out _ _ (fun _ => cv) ?_
      clear hK K
      simp only [Act.put, List.getElem_toArray, List.getElem_cons_zero, List.getElem_cons_succ, List.setIfInBounds_toArray, List.set_cons_zero, List.set_cons_succ]
      refine wpAnyL_one (i := 5) (by kernel_rfl) rfl (fun K hK => ?_)
      refine step_push tCl rfl (.tmp 58) (.tmp 61) rfl w.heap.size (.slice ka ds.length kc) cs (by rfl) HQ6.out.cl t6 0 2 2 [dm, dz] (by rfl) rfl (rangeBlk HN6.out (by rw [HC6.out]; rfl)) (by rw [hck.out]; unfold maxLen; simp; omega) (by rw [hck.out]; show _ * 1040 ≤ _; simp; omega) HQ6.out.bel.size ?_
      intro v' w9 hown hgrow hform
      obtain ⟨g2, d9, e9, hc1, hc2, hBg⟩ := hform (by simp)
      have e10 : v' = .slice (some ⟨g2, 0, none⟩) (ds.length + 2) d9 := by rw [e9, hck.out]; rfl
      rw [e10] at hown ⊢
      have hc3 : ds.length + 2 ≤ d9 := by rw [hck.out] at hc1; exact hc1
      have hc5 : ds.length ≤ d9 := by omega
      unfold maxLen at hc2
      have hne : ∀ g T C, T ≠ 61 → Blk V6 g T C → w9.heap[g]? = V6.heap[g]? := fun g T C hT hbk => hgrow.block _ hbk.lt (fun e => HQ6.out.cl.ne hbk (Ne.symm hT) e.symm)
      have HQ9 := Lib.hid (HQ6.out.qb.of_block (hne _ _ _ (by decide) HQ6.out.qb))
      have HZ9 := Lib.hid (HQ6.out.zb.of_block (hne _ _ _ (by decide) HQ6.out.zb))
      have H19 := Lib.hid (HQ6.out.b1.of_block (hne _ _ _ (by decide) HQ6.out.b1))
      have HB9 := Lib.hid (show Below w.heap.size w w9 from HQ6.out.bel.grown hgrow HQ6.out.bel.size (fun b hb => (HQ6.out.cl.blk hb).1))
      have HL9 := Lib.hid (show Lt w.heap.size w9 la c (some ⟨g2, 0, none⟩) d9 ls cs from ⟨owr_of_block HQ6.out.lp fun g C => hne g _ C (by decide), by rw [hck.out]; exact hown, HQ6.out.cc.of_block fun g C => hne g _ C (by decide)⟩)
      have HCM := Lib.hid (show cs.map (·.1) = ds by rw [HQ6.out.cm, List.take_length])
      have cv9 : w9.cell? ⟨q, 1, none⟩ = some (.slice ka ds.length kc) ∧ w9.cell? ⟨w.heap.size, 1, none⟩ = some (.slice ac ds.length capc) := ⟨HQ9.out.cell 1, H19.out.cell 1⟩
      have f9 := HQ9.out.frozen 1
      have c9 := cv9.1
      clear hown hgrow hform hc1 hne e9 e10 HQ6 HN6 HC6 cv hBg
      refine hK.out _ _ (fun _ => cv9) ?_
      clear hK K
      simp only [Act.put, List.getElem_toArray, List.getElem_cons_zero, List.getElem_cons_succ, List.setIfInBounds_toArray, List.set_cons_zero, List.set_cons_succ]
      refine wpAnyL_one (i := 9) (by kernel_rfl) rfl (fun K hK => ?_)
      go_simp
      refine hK.out _ _ (fun _ => cv9) ?_
      clear hK K
      refine wpAnyL_one (i := 10) (by kernel_rfl) rfl (fun K hK => ?_)
      go_simp
      refine hK.out _ _ (fun _ => cv9) ?_
      clear hK K
      refine wpAnyL_one (i := 11) (by kernel_rfl) rfl (fun K hK => ?_)
      go_simp
      refine hK.out _ _ (fun h => absurd rfl h) ?_
      clear hK K
      refine wpAnyL_done (by kernel_rfl) ?_ _
      have HQ10 := Lib.hid (show Blk (w9.setCell ⟨q, 1, none⟩ (.slice (some ⟨g2, 0, none⟩) ds.length d9)) q 26 #[.slice la ls.length c, .slice (some ⟨g2, 0, none⟩) ds.length d9] from (HQ9.out.set 1 _).eq rfl)
      have HZ10 := Lib.hid (HZ9.out.set_other q 1 (.slice (some ⟨g2, 0, none⟩) ds.length d9) (by omega))
      have HB10 := Lib.hid (HB9.out.setCell (p := ⟨q, 1, none⟩) (by show w.heap.size ≤ q; omega) (.slice (some ⟨g2, 0, none⟩) ds.length d9))
      have HL10 := Lib.hid (show Lt w.heap.size (w9.setCell ⟨q, 1, none⟩ (.slice (some ⟨g2, 0, none⟩) ds.length d9)) la c (some ⟨g2, 0, none⟩) d9 ls cs from HL9.out.of_block fun g T C hT hbk => Below.heap_setCell w9 ⟨q, 1, none⟩ _ g (blk_ne hbk HQ9.out (by rcases hT with rfl | rfl | rfl <;> decide)))
      generalize w9.setCell ⟨q, 1, none⟩ (.slice (some ⟨g2, 0, none⟩) ds.length d9) = W10 at HQ10 HZ10 HB10 HL10 ⊢
      clear cv9 f9 c9 HQ9 HZ9 H19 HB9 HL9
      have c0 := HQ10.out.cell 0
      have c1 := HQ10.out.cell 1
      have z0 := HZ10.out.cell 0
      have z1 := HZ10.out.cell 1
      have y0 := HZ10.out.frozen 0
      have y1 := HZ10.out.frozen 1
      simp only [List.getElem?_toArray, List.getElem?_cons_zero, List.getElem?_cons_succ] at c0 c1 z0 z1
      go_wp2
      refine ret_cell rfl rfl (((HZ10.out.set 0 _).set 1 _).eq (C' := #[.slice la ls.length c, .slice (some ⟨g2, 0, none⟩) ds.length d9]) rfl) rowDeed rfl ?_
      refine ⟨(HB10.out.setCell (p := ⟨z, 0, none⟩) (by show w.heap.size ≤ z; omega) _).setCell (p := ⟨z, 1, none⟩) (by show w.heap.size ≤ z; omega) _, la, some ⟨g2, 0, none⟩, c, d9, cs, rfl, HCM.out, ?_⟩
      have hl0 := HL10.out.of_block (w' := W10.setCell ⟨z, 0, none⟩ (.slice la ls.length c)) fun g T C hT hbk => Below.heap_setCell W10 ⟨z, 0, none⟩ _ g (blk_ne hbk HZ10.out (by rcases hT with rfl | rfl | rfl <;> decide))
      exact hl0.of_block fun g T C hT hbk => Below.heap_setCell _ ⟨z, 1, none⟩ _ g (blk_ne hbk (HZ10.out.set 0 _) (by rcases hT with rfl | rfl | rfl <;> decide))
end Go.Proofs.Ytfdjdpbiccclfaa
