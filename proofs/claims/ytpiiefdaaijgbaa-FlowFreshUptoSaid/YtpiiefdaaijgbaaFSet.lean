/- The program's sets and stacks: what each function leaves. -/
import Derived.Test.YtpiiefdaaijgbaaFTy
import Derived.StillTailTactics
import Derived.Deep.QuietTactic
import Derived.BigQuiet
import Derived.OwnWalk
import Derived.Deep.CutBlock
import Derived.Deep.DeepCutAuto
import Derived.Test.YtpiiefdaaijgbaaDHeld
import Derived.Deep.AppendLies
namespace Go.Proofs.Ytpiiefdaaijgbaa
open Go Go.RowKit Go.Wr Go.Fl
set_option maxHeartbeats 4000000
set_option maxRecDepth 100000

/-- Only block p and rows of one type from B on may turn. -/
structure Fq (p : Nat) (T : TypeId) (B : Nat) (w w' : World) : Prop where
  os : w'.os = w.os
  tape : w'.tape = w.tape
  output : w'.output = w.output
  size : w.heap.size ≤ w'.heap.size
  block : ∀ k o, w.heap[k]? = some o → k ≠ p → (k < B ∨ ∀ C fz, o ≠ .cells C T fz) → w'.heap[k]? = some o
theorem Fq.refl (p : Nat) (T : TypeId) (B : Nat) (w : World) : Fq p T B w w := ⟨rfl, rfl, rfl, Nat.le_refl _, fun _ _ h _ _ => h⟩
theorem Fq.trans {p : Nat} {T : TypeId} {B : Nat} {a b c : World} (h : Fq p T B a b) (k : Fq p T B b c) : Fq p T B a c :=
  ⟨k.os.trans h.os, k.tape.trans h.tape, k.output.trans h.output, Nat.le_trans h.size k.size, fun i o h1 h2 h3 => k.block i o (h.block i o h1 h2 h3) h2 h3⟩
theorem Fq.of_below {p : Nat} {T : TypeId} {B : Nat} {w w' : World} (h : Below w.heap.size w w') : Fq p T B w w' :=
  ⟨h.os, h.tape, h.output, h.size, fun k _ h1 _ _ => (h.block k (Go.Wr.lt_of_heap h1)).trans h1⟩
theorem Fq.alloc {p : Nat} {T : TypeId} {B : Nat} {a w : World} (h : Fq p T B a w) (o : Obj) : Fq p T B a (w.alloc o) := h.trans (Fq.of_below (bAl (bRefl w) o))
theorem Fq.drew {p : Nat} {T : TypeId} {B : Nat} {a w : World} (h : Fq p T B a w) : Fq p T B a w.drew := ⟨h.os, h.tape, h.output, h.size, h.block⟩
theorem Fq.drewN {p : Nat} {T : TypeId} {B : Nat} {a w : World} (h : Fq p T B a w) (n : Nat) : Fq p T B a (w.drewN n) := ⟨h.os, h.tape, h.output, h.size, h.block⟩
theorem Fq.set {p : Nat} {T : TypeId} {B : Nat} {a w : World} (h : Fq p T B a w) (i : Nat) (v : Value) : Fq p T B a (w.setCell ⟨p, i, none⟩ v) := by
  have hb := (Below.refl 0 w).setCell (p := ⟨p, i, none⟩) (Nat.zero_le _) v
  exact ⟨hb.os.trans h.os, hb.tape.trans h.tape, hb.output.trans h.output, Nat.le_trans h.size hb.size, fun k o h1 h2 h3 => (Below.heap_setCell w ⟨p, i, none⟩ v k h2).trans (h.block k o h1 h2 h3)⟩
theorem Fq.set_new {p t : Nat} {T : TypeId} {B : Nat} {a w : World} (h : Fq p T B a w) (i : Nat) (v : Value) (ht : a.heap.size ≤ t) : Fq p T B a (w.setCell ⟨t, i, none⟩ v) := by
  have hb := (Below.refl 0 w).setCell (p := ⟨t, i, none⟩) (Nat.zero_le _) v
  exact ⟨hb.os.trans h.os, hb.tape.trans h.tape, hb.output.trans h.output, Nat.le_trans h.size hb.size, fun k o h1 h2 h3 => by
    have hk := Go.Wr.lt_of_heap h1
    exact (Below.heap_setCell w ⟨t, i, none⟩ v k (by show k ≠ t; omega)).trans (h.block k o h1 h2 h3)⟩
theorem Fq.below {p : Nat} {T : TypeId} {B B' : Nat} {w w' : World} (h : Fq p T B w w') (h1 : B' ≤ p) (h2 : B' ≤ B) (h3 : B' ≤ w.heap.size) : Below B' w w' :=
  ⟨h.os, h.tape, h.output, h.size, fun k hk => by
    have hlt : k < w.heap.size := by omega
    rw [Array.getElem?_eq_getElem hlt]
    exact h.block k _ (Array.getElem?_eq_getElem hlt) (by omega) (Or.inl (by omega))⟩
theorem Fq.blk {p : Nat} {T T' : TypeId} {B b : Nat} {w w' : World} {C : Array Value} (h : Fq p T B w w') (hb : Blk w b T' C) (hp : b ≠ p) (hT : b < B ∨ T' ≠ T) : Blk w' b T' C :=
  h.block b _ hb hp (hT.imp id fun hT C' fz e => by
    injection e with _ e
    exact hT e)
theorem Fq.own {α : Type} {R : RT Try.prog α} {p : Nat} {T : TypeId} {B B' : Nat} {w w' : World} {v : Value} {l : List α} (h : Fq p T B w w') (ho : OwR R B' w v l) (hp : v.ownBlock ≠ some p) (hT : (∀ g, v.ownBlock = some g → g < B) ∨ R.T ≠ T) : OwR R B' w' v l :=
  ho.keep fun g hg => by
    obtain ⟨_, C, hb⟩ := ho.blk hg
    have e : w.heap[g]? = some (.cells C R.T (0, 0)) := hb
    rw [e]
    exact h.blk hb (fun e => hp (e ▸ hg)) (hT.imp (fun k => k g hg) id)
theorem Fq.grown {α : Type} {R : RT Try.prog α} {p B : Nat} {a w w' : World} {v : Value} {l : List α} (h : Fq p R.T B a w) (ho : OwR R B w v l) (hg : w.grownBy w' v.ownBlock) : Fq p R.T B a w' :=
  ⟨hg.os.trans h.os, hg.tape.trans h.tape, hg.output.trans h.output, Nat.le_trans h.size hg.size, fun k o h1 h2 h3 => by
    have hk := h.block k o h1 h2 h3
    rw [hg.block k (Go.Wr.lt_of_heap hk) (fun e => ?_)]
    · exact hk
    · obtain ⟨hB, C, hb⟩ := ho.blk e.symm
      have e2 : w.heap[k]? = some (.cells C R.T (0, 0)) := hb
      rw [e2] at hk
      injection hk with hk
      rcases h3 with h3 | h3
      · omega
      · exact h3 _ _ hk.symm⟩

/-- A set at p, its marks in the block g. -/
structure St (B p g n : Nat) (V : Nat → Bool) (w : World) : Prop where
  pb : Blk w p 163 #[.slice (some ⟨g, 0, none⟩) n n]
  gb : OwR tB B w (.slice (some ⟨g, 0, none⟩) n n) ((List.range n).map V)
  hp : B ≤ p
theorem St.ne {B p g n : Nat} {V : Nat → Bool} {w : World} (h : St B p g n V w) : p ≠ g := by
  obtain ⟨_, C, hb⟩ := h.gb.blk rfl
  exact blk_ne h.pb hb (by decide)
theorem St.hg {B p g n : Nat} {V : Nat → Bool} {w : World} (h : St B p g n V w) : B ≤ g := (h.gb.blk rfl).1
theorem St.keep {B p g n : Nat} {V : Nat → Bool} {w w' : World} (h : St B p g n V w) (h1 : w'.heap[p]? = w.heap[p]?) (h2 : w'.heap[g]? = w.heap[g]?) : St B p g n V w' :=
  ⟨h.pb.of_block h1, h.gb.keep fun k hk => by injection hk with hk; subst hk; exact h2, h.hp⟩
theorem St.below {B p g n : Nat} {V : Nat → Bool} {w w' : World} (h : St B p g n V w) (b : Below w.heap.size w w') : St B p g n V w' :=
  h.keep (b.block p h.pb.lt) (b.block g (h.gb.lt rfl))
theorem St.drew {B p g n : Nat} {V : Nat → Bool} {w : World} (h : St B p g n V w) : St B p g n V w.drew := ⟨h.pb, h.gb, h.hp⟩
theorem St.drewN {B p g n : Nat} {V : Nat → Bool} {w : World} (h : St B p g n V w) (k : Nat) : St B p g n V (w.drewN k) := ⟨h.pb, h.gb, h.hp⟩
theorem St.fq {B p g n q B' : Nat} {T : TypeId} {V : Nat → Bool} {w w' : World} (h : St B p g n V w) (hf : Fq q T B' w w') (h1 : p ≠ q) (h2 : g ≠ q) (hT : T ≠ 163) (hT' : T ≠ 4) : St B p g n V w' :=
  ⟨hf.blk h.pb h1 (Or.inr (Ne.symm hT)), hf.own h.gb (fun e => h2 (by injection e)) (Or.inr (Ne.symm hT')), h.hp⟩
theorem map_set (V : Nat → Bool) (n i : Nat) : ((List.range n).map V).set i true = (List.range n).map (Fl.mark V i) := by
  apply List.ext_getElem?
  intro k
  rw [List.getElem?_set]
  by_cases hk : k < n
  · rw [List.getElem?_map, List.getElem?_map, List.getElem?_range hk]
    by_cases e : i = k
    · subst e; simp [Fl.mark, hk]
    · rw [if_neg e]; simp [Fl.mark, Ne.symm e]
  · have h1 : ((List.range n).map V)[k]? = none := List.getElem?_eq_none (by simp; omega)
    have h2 : ((List.range n).map (Fl.mark V i))[k]? = none := List.getElem?_eq_none (by simp; omega)
    rw [h1, h2]
    split
    · rw [if_neg (by simp; omega)]
    · rfl
theorem St.cell {B p g n : Nat} {V : Nat → Bool} {w : World} (h : St B p g n V w) {i : Nat} (hi : i < n) : w.cell? ⟨g, i, none⟩ = some (.bool (V i)) := by
  have := (h.gb.at (k := i) (x := V i) (by rw [List.getElem?_map, List.getElem?_range hi]; rfl)).cell 0 _ rfl
  have e : 0 + i * tB.n + 0 = i := by show 0 + i * 1 + 0 = i; omega
  rw [e] at this
  exact this
theorem St.mark {B p g n : Nat} {V : Nat → Bool} {w : World} (h : St B p g n V w) {i : Nat} (hi : i < n) : St B p g n (Fl.mark V i) (w.setCell ⟨g, i, none⟩ (.bool true)) := by
  have hne := h.ne
  refine ⟨h.pb.set_other g i _ hne, ?_, h.hp⟩
  have := h.gb.set (k := i) (j := 0) (x := V i) (y := true) (v := .bool true) (by rw [List.getElem?_map, List.getElem?_range hi]; rfl) (by decide) rfl
  rw [map_set] at this
  have e : i * tB.n + 0 = i := by show i * 1 + 0 = i; omega
  rw [e] at this
  exact this
theorem newSet_ok (w : World) (n : Nat) (hn : n ≤ 1048576) : Calls Try.prog 95 #[.int .i64 (n : Int)] w fun e w' => Below w.heap.size w w' ∧ ∃ p g, e = .returned (.pointer (some ⟨p, 0, none⟩)) ∧ St w.heap.size p g n (fun _ => false) w' := by
  go_enter Try.func95, Try.ntmps95
  go_wp2_with (at_make; refine wpl_make tB false rfl rfl _ _ rfl .i64 .i64 (n : Int) (n : Int) n rfl rfl rfl rfl (by show 1 * n ≤ _; omega) (by unfold maxLen; omega) ?_; intro w1 ho hb hlt)
  go_ret
  refine ⟨hb.alloc hb.size _, w1.heap.size, w.heap.size, rfl, Blk.new _ _ _, ?_, by omega⟩
  have e : (List.range n).map (fun _ => false) = List.replicate n false := by
    apply List.ext_getElem?
    intro k
    by_cases hk : k < n <;> simp [hk]
  rw [e]
  exact ho.alloc _
theorem add_new (w : World) (B p g n : Nat) (V : Nat → Bool) (h : St B p g n V w) (i : Int) (h0 : 0 ≤ i) (hi : i < n) (hv : V i.toNat = false) :
    Calls Try.prog 96 #[.pointer (some ⟨p, 0, none⟩), .int .i64 i] w fun e w' => e = .returned (.bool true) ∧ w' = w.setCell ⟨g, i.toNat, none⟩ (.bool true) := by
  obtain ⟨k, rfl⟩ := Int.eq_ofNat_of_zero_le h0
  have hk : k < n := by omega
  have c := h.cell hk
  simp only [Int.toNat_natCast] at hv ⊢
  rw [hv] at c
  have cp := h.pb.cell 0
  simp only [List.getElem?_toArray, List.getElem?_cons_zero] at cp
  have f := h.gb.frozen k
  clear h hv
  go_enter Try.func96, Try.ntmps96
  go_wp2
  go_ret
  exact ⟨rfl, rfl⟩
theorem add_old (w : World) (B p g n : Nat) (V : Nat → Bool) (h : St B p g n V w) (i : Int) (h0 : 0 ≤ i) (hi : i < n) (hv : V i.toNat = true) :
    Calls Try.prog 96 #[.pointer (some ⟨p, 0, none⟩), .int .i64 i] w fun e w' => e = .returned (.bool false) ∧ w' = w := by
  obtain ⟨k, rfl⟩ := Int.eq_ofNat_of_zero_le h0
  have hk : k < n := by omega
  have c := h.cell hk
  simp only [Int.toNat_natCast] at hv
  rw [hv] at c
  have cp := h.pb.cell 0
  simp only [List.getElem?_toArray, List.getElem?_cons_zero] at cp
  clear h hv
  go_enter Try.func96, Try.ntmps96
  go_wp2
  go_ret
  exact ⟨rfl, rfl⟩
theorem has_ok (w : World) (B p g n : Nat) (V : Nat → Bool) (h : St B p g n V w) (i : Int) (h0 : 0 ≤ i) (hi : i < n) :
    Calls Try.prog 97 #[.pointer (some ⟨p, 0, none⟩), .int .i64 i] w fun e w' => e = .returned (.bool (V i.toNat)) ∧ w' = w := by
  obtain ⟨k, rfl⟩ := Int.eq_ofNat_of_zero_le h0
  have hk : k < n := by omega
  have c := h.cell hk
  simp only [Int.toNat_natCast]
  have cp := h.pb.cell 0
  simp only [List.getElem?_toArray, List.getElem?_cons_zero] at cp
  clear h
  go_enter Try.func97, Try.ntmps97
  go_wp2
  go_ret
  exact ⟨rfl, rfl⟩
/-- The numbers that are in, below k. -/
def ins (V : Nat → Bool) (k : Nat) : List Nat := (List.range k).filter V
theorem ins_succ (V : Nat → Bool) (k : Nat) : ins V (k + 1) = if V k then ins V k ++ [k] else ins V k := by
  unfold ins
  rw [List.range_succ, List.filter_append]
  cases h : V k <;> simp [h]
theorem ins_len (V : Nat → Bool) (k : Nat) : (ins V k).length ≤ k := by
  have := List.length_filter_le V (List.range k)
  simpa [ins] using this
def nI (l : List Nat) : List Int := l.map fun (x : Nat) => (x : Int)
theorem nI_app (l m : List Nat) : nI (l ++ m) = nI l ++ nI m := List.map_append
theorem nI_len (l : List Nat) : (nI l).length = l.length := by simp [nI]
theorem list_ok (w : World) (B p g n : Nat) (V : Nat → Bool) (h : St B p g n V w) (hn : n ≤ 1048576) :
    Calls Try.prog 106 #[.pointer (some ⟨p, 0, none⟩)] w fun e w' => Below w.heap.size w w' ∧ ∃ v, e = .returned v ∧ OwR tI w.heap.size w' v (nI (ins V n)) := by
  have cp := h.pb.cell 0
  simp only [List.getElem?_toArray, List.getElem?_cons_zero] at cp
  have H := Lib.hid h
  clear h
  go_enter Try.func106, Try.ntmps106
  go_wp2
  go_loopw [3, 11] (fun v t wr => ∃ (k : Nat) (v0 : Value), k ≤ n ∧ v0 = v ∧ t = .int .i64 (k : Int) ∧ Hid (OwR tI w.heap.size wr v0 (nI (ins V k))) ∧ Below w.heap.size w wr) (fun _ t _ => n - (intOf t).toNat)
  case atStart => exact ⟨0, _, by omega, rfl, rfl, by show OwR _ _ _ _ _; exact OwR.nil _ _, bRefl w⟩
  case round =>
    obtain ⟨k, v0, hk, rfl, rfl, ho, hb⟩ := hrel
    have hsz := hb.size
    have hS := H.out.below hb
    by_cases hlt : k < n
    · have hlt' : (k : Int) < (n : Int) := by omega
      have ck := hS.cell hlt
      have hle := ins_len V k
      have hs := ins_succ V k
      clear hS
      cases hv : V k with
      | true =>
        rw [hv] at ck hs
        have HS := Lib.hid hs
        clear hs hv
        go_wp2_with (at_builtin; refine wpl_push tI rfl _ _ rfl w.heap.size _ (nI (ins V k)) rfl (ho.out.alloc _) _ 0 1 1 [(k : Int)] rfl rfl (rangeNew (by rfl) (by rfl)) (by rw [nI_len]; unfold maxLen; simp; omega) (by rw [nI_len]; show _ * 8 ≤ _; simp; omega) (by simp; omega) ?_; intro v' w9 hown hgrow _)
        have b9 := (hb.alloc hsz _).grown hgrow (by simp; omega) (fun q hq => (ho.out.blk hq).1)
        have ho9 : Hid (OwR tI w.heap.size w9 v' (nI (ins V (k + 1)))) := by
          show OwR _ _ _ _ _
          rw [HS.out, if_pos rfl, nI_app]
          exact hown
        exact ⟨⟨k + 1, _, by omega, rfl, by go_num, ho9, b9⟩, by simp [intOf]; omega⟩
      | false =>
        rw [hv] at ck hs
        have ho9 : Hid (OwR tI w.heap.size wr v0 (nI (ins V (k + 1)))) := by
          show OwR _ _ _ _ _
          rw [hs, if_neg (by simp)]
          exact ho.out
        clear hs hv
        go_wp2
        go_roundw
        all_goals first
          | exact ⟨k + 1, _, by omega, rfl, by go_num, ho9, hb⟩
          | ((repeat apply Exists.intro); exact ⟨⟨k + 1, _, by omega, rfl, by go_num, ho9, hb⟩, rfl⟩)
          | (simp [intOf]; omega)
    · obtain rfl : k = n := by omega
      clear hlt hS
      go_wp2
      go_ret
      exact ⟨hb, _, rfl, ho.out⟩

/-- A stack of numbers at p. -/
def Sk (B p : Nat) (l : List Nat) (w : World) : Prop := ∃ v, Blk w p 146 #[v] ∧ OwR tI B w v (nI l) ∧ B ≤ p
/-- A stack of steps at p. -/
def nS (l : List (Nat × Nat)) : List (Int × Int) := l.map fun (x : Nat × Nat) => ((x.1 : Int), (x.2 : Int))
theorem nS_app (l m : List (Nat × Nat)) : nS (l ++ m) = nS l ++ nS m := List.map_append
theorem nS_len (l : List (Nat × Nat)) : (nS l).length = l.length := by simp [nS]
def Ss (B p : Nat) (l : List (Nat × Nat)) (w : World) : Prop := ∃ v, Blk w p 137 #[v] ∧ OwR tS B w v (nS l) ∧ B ≤ p
theorem Sk.lt {B p : Nat} {l : List Nat} {w : World} (h : Sk B p l w) : p < w.heap.size := by obtain ⟨v, h1, _⟩ := h; exact h1.lt
theorem Ss.lt {B p : Nat} {l : List (Nat × Nat)} {w : World} (h : Ss B p l w) : p < w.heap.size := by obtain ⟨v, h1, _⟩ := h; exact h1.lt
theorem Sk.keep {B p : Nat} {l : List Nat} {w w' : World} (h : Sk B p l w) (hk : ∀ k T C, (T = 146 ∨ T = 3) → Blk w k T C → w'.heap[k]? = w.heap[k]?) : Sk B p l w' := by
  obtain ⟨v, h1, h2, h3⟩ := h
  exact ⟨v, h1.of_block (hk p _ _ (Or.inl rfl) h1), h2.keep fun g hg => by obtain ⟨_, C, hb⟩ := h2.blk hg; exact hk g _ C (Or.inr rfl) hb, h3⟩
theorem Ss.keep {B p : Nat} {l : List (Nat × Nat)} {w w' : World} (h : Ss B p l w) (hk : ∀ k T C, (T = 137 ∨ T = 140) → Blk w k T C → w'.heap[k]? = w.heap[k]?) : Ss B p l w' := by
  obtain ⟨v, h1, h2, h3⟩ := h
  exact ⟨v, h1.of_block (hk p _ _ (Or.inl rfl) h1), h2.keep fun g hg => by obtain ⟨_, C, hb⟩ := h2.blk hg; exact hk g _ C (Or.inr rfl) hb, h3⟩
theorem Sk.below {B p : Nat} {l : List Nat} {w w' : World} (h : Sk B p l w) (b : Below w.heap.size w w') : Sk B p l w' := h.keep fun _ _ _ _ hb => b.block _ hb.lt
theorem Ss.below {B p : Nat} {l : List (Nat × Nat)} {w w' : World} (h : Ss B p l w) (b : Below w.heap.size w w') : Ss B p l w' := h.keep fun _ _ _ _ hb => b.block _ hb.lt
/-- A cell of a block of another type. -/
theorem Sk.setOther {B p g i : Nat} {l : List Nat} {w : World} {T : TypeId} {C : Array Value} {x : Value} (h : Sk B p l w) (hb : Blk w g T C) (h1 : 146 ≠ T) (h2 : 3 ≠ T) : Sk B p l (w.setCell ⟨g, i, none⟩ x) :=
  h.keep fun k _ _ hT hk => Below.heap_setCell w ⟨g, i, none⟩ x k (blk_ne hk hb (by rcases hT with rfl | rfl <;> assumption))
theorem Ss.setOther {B p g i : Nat} {l : List (Nat × Nat)} {w : World} {T : TypeId} {C : Array Value} {x : Value} (h : Ss B p l w) (hb : Blk w g T C) (h1 : 137 ≠ T) (h2 : 140 ≠ T) : Ss B p l (w.setCell ⟨g, i, none⟩ x) :=
  h.keep fun k _ _ hT hk => Below.heap_setCell w ⟨g, i, none⟩ x k (blk_ne hk hb (by rcases hT with rfl | rfl <;> assumption))
theorem pushI_ok (w : World) (B p : Nat) (l : List Nat) (h : Sk B p l w) (hB : B ≤ w.heap.size) (hl : l.length ≤ 1048576) (x : Nat) :
    Calls Try.prog 103 #[.pointer (some ⟨p, 0, none⟩), .int .i64 (x : Int)] w fun e w' => e = .returned (.tuple #[]) ∧ Sk B p (l ++ [x]) w' ∧ Fq p 3 B w w' := by
  obtain ⟨v, h1, h2, h3⟩ := h
  have cp := h1.cell 0
  simp only [List.getElem?_toArray, List.getElem?_cons_zero] at cp
  have H1 := Lib.hid h1
  have H2 := Lib.hid h2
  have hpl := h1.lt
  clear h1 h2
  go_enter Try.func103, Try.ntmps103
  go_wp2_with (at_builtin; refine wpl_push tI rfl _ _ rfl B _ (nI l) rfl (H2.out.alloc _) _ 0 1 1 [(x : Int)] rfl rfl (rangeNew (by rfl) (by rfl)) (by rw [nI_len]; unfold maxLen; simp; omega) (by rw [nI_len]; show _ * 8 ≤ _; simp; omega) (by simp; omega) ?_; intro v' w9 hown hgrow hform; obtain ⟨g', c', rfl, _⟩ := hform (by simp); have hp9 := (H1.out.alloc (.cells #[.int .i64 (x : Int)] 3)).of_block (hgrow.block p (by simp; omega) (fun e => (H2.out.alloc (.cells #[.int .i64 (x : Int)] 3)).ne (H1.out.alloc _) (by decide) e.symm)); have c9 := hp9.cell 0; have f9 := hp9.frozen 0; simp only [List.getElem?_toArray, List.getElem?_cons_zero] at c9)
  go_end0
  have hO : OwR tI B w9 (.slice (some ⟨g', 0, none⟩) ((nI l).length + 1) c') (nI (l ++ [x])) := by rw [nI_app]; exact hown
  have hne : (Value.slice (some ⟨g', 0, none⟩) ((nI l).length + 1) c').ownBlock ≠ some p := hO.ne hp9 (by decide)
  refine ⟨rfl, ⟨_, (hp9.set 0 _).eq rfl, hO.set_other hne, h3⟩, ?_⟩
  exact (((Fq.refl p 3 B w).alloc _).grown (R := tI) (H2.out.alloc _) hgrow).set 0 _
theorem mix : Try.prog.follows .mixedOrders = true := by kernel_rfl
theorem popI_none (w : World) (B p : Nat) (h : Sk B p [] w) :
    Calls Try.prog 104 #[.pointer (some ⟨p, 0, none⟩)] w fun e w' => e = .returned (.tuple #[.int .i64 0, .bool false]) ∧ w' = w := by
  obtain ⟨v, h1, h2, h3⟩ := h
  have cp := h1.cell 0
  simp only [List.getElem?_toArray, List.getElem?_cons_zero] at cp
  rcases h2.form with ⟨rfl, _⟩ | ⟨g, c, rfl, _⟩
  all_goals
    clear h1 h2
    try simp only [nI, List.map_nil, List.length_nil] at cp
    go_enter Try.func104, Try.ntmps104
    go_wp2
    go_ret2
    exact ⟨rfl, rfl⟩
theorem popI_some (w : World) (B p : Nat) (m : List Nat) (x : Nat) (h : Sk B p (m ++ [x]) w) :
    Calls Try.prog 104 #[.pointer (some ⟨p, 0, none⟩)] w fun e w' => e = .returned (.tuple #[.int .i64 (x : Int), .bool true]) ∧ Sk B p m w' ∧ Fq p 3 B w w' := by
  obtain ⟨v, h1, h2, h3⟩ := h
  rcases h2.form with ⟨_, e⟩ | ⟨g, c, rfl, hc1, hc2, hBg⟩
  · have := congrArg List.length e
    simp [nI] at this
  · have cp := h1.cell 0
    simp only [List.getElem?_toArray, List.getElem?_cons_zero] at cp
    have hl : (nI (m ++ [x])).length = m.length + 1 := by rw [nI_len]; simp
    rw [hl] at cp hc1
    rw [hl] at h1 h2
    have cx := (h2.at (k := m.length) (x := (x : Int)) (by rw [nI_app, List.getElem?_append_right (by rw [nI_len]; exact Nat.le_refl _), nI_len, Nat.sub_self]; rfl)).cell 0 _ rfl
    have e1 : 0 + m.length * tI.n + 0 = m.length := by show 0 + m.length * 1 + 0 = _; omega
    rw [e1] at cx
    have f0 := h1.frozen 0
    have H1 := Lib.hid h1
    have H2 := Lib.hid h2
    unfold maxLen at hc2
    have hidx : (m.length : Int) + 1 - 1 = (m.length : Int) := by omega
    have hn : ((m.length + 1 : Nat) : Int) - 1 = (m.length : Int) := by omega
    clear h1 h2 hl e1
    go_enter Try.func104, Try.ntmps104
    go_upto_region 4 with (fail)
    go_quiet (fail)
    rename_i nq _
    go_upto_region 5 with (fail)
    have hwr : IntKind.i64.wrap ((m.length : Int) + 1 - 1) = (m.length : Int) := (IntWalk.i64_in _ (by omega)).trans (by omega)
    have HA := Lib.hid (H1.out.drewN nq)
    have HB := Lib.hid (show OwR tI B (w.drewN nq) _ _ from H2.out)
    have HF := Lib.hid ((Fq.refl p 3 B w).drewN nq)
    generalize w.drewN nq = W at HA HB HF ⊢
    have cp := HA.out.cell 0
    simp only [List.getElem?_toArray, List.getElem?_cons_zero] at cp
    have f0 := HA.out.frozen 0
    clear H1 H2
    have hw2 : IntKind.i64.wrap (m.length : Int) = (m.length : Int) := IntWalk.i64_in _ (by omega)
    have hmc : m.length ≤ c := by omega
    have hmc2 : (m.length : Int) ≤ (c : Int) := by omega
    have htn : ((m.length : Nat) : Int).toNat = m.length := by omega
    have fd : W.drew.frozen? ⟨p, 0, none⟩ = false := f0
    have cd : W.drew.cell? ⟨p, 0, none⟩ = some (.slice (some ⟨g, 0, none⟩) (m.length + 1) c) := cp
    refine wp_tail 14 mix (by kernel_rfl) ?_
    simp only [List.take_succ_cons, List.take_zero, List.drop_succ_cons, List.drop_zero]
    iterate 14 still_step
    refine wpStill_nil ?_
    go_wp2
    go_ret2
    have hp9 := HA.out.drew.set 0 (.slice (some ⟨g, 0, none⟩) m.length c)
    have hO : OwR tI B W.drew (.slice (some ⟨g, 0, none⟩) m.length c) (nI m) := by
      have h := HB.out.take (k := m.length) (by rw [nI_len]; simp)
      have e : (nI (m ++ [x])).take m.length = nI m := by rw [nI_app, ← nI_len m, List.take_left]
      rw [e] at h
      exact h
    have hne : (Value.slice (some ⟨g, 0, none⟩) m.length c).ownBlock ≠ some p := hO.ne HA.out.drew (by decide)
    exact ⟨rfl, ⟨_, hp9.eq rfl, hO.set_other hne, h3⟩, HF.out.drew.set 0 _⟩
theorem pushS_ok (w : World) (B p : Nat) (l : List (Nat × Nat)) (h : Ss B p l w) (hl : l.length ≤ 1048576) (x y : Nat) :
    Calls Try.prog 99 #[.pointer (some ⟨p, 0, none⟩), .agg #[.int .i64 (x : Int), .int .i64 (y : Int)]] w fun e w' => e = .returned (.tuple #[]) ∧ Ss B p (l ++ [(x, y)]) w' ∧ Fq p 140 B w w' := by
  obtain ⟨v, h1, h2, h3⟩ := h
  have H1 := Lib.hid h1
  have H2 := Lib.hid h2
  have hpl := h1.lt
  clear h1 h2
  go_enter Try.func99, Try.ntmps99
  go_upto_region 1 with (fail)
  generalize hW : w.alloc (.cells #[.int .i64 (x : Int), .int .i64 (y : Int)] 140) = W
  have PX : Blk W w.heap.size 140 #[.int .i64 (x : Int), .int .i64 (y : Int)] := by rw [← hW]; exact Blk.new _ _ _
  have P1 : Blk W p 137 #[v] := by rw [← hW]; exact H1.out.alloc _
  have O1 : OwR tS B W v (nS l) := by rw [← hW]; exact H2.out.alloc _
  have F1 : Fq p 140 B w W := by rw [← hW]; exact (Fq.refl _ _ _ _).alloc _
  have hsz : w.heap.size < W.heap.size := PX.lt
  have x0 : W.cell? ⟨w.heap.size, 0, none⟩ = some (.int .i64 (x : Int)) := PX.cell 0
  have x1 : W.cell? ⟨w.heap.size, 1, none⟩ = some (.int .i64 (y : Int)) := PX.cell 1
  have cp : W.cell? ⟨p, 0, none⟩ = some v := P1.cell 0
  have HP := Lib.hid P1
  have HO := Lib.hid O1
  have HF := Lib.hid F1
  have hvq : v.ownBlock ≠ some w.heap.size := fun e => by have := H2.out.lt e; omega
  have HX := Lib.hid PX
  clear hW PX P1 O1 F1 H1 H2
  obtain ⟨q, hq⟩ : ∃ q, q = w.heap.size := ⟨_, rfl⟩
  rw [← hq] at x0 x1 hsz hpl hvq HX ⊢
  have hFw : Fq p 140 B w W := HF.out
  clear HF
  have HFw := Lib.hid hFw
  clear hFw hq
  have cv : W.drew.cell? ⟨p, 0, none⟩ = some v ∧ W.drew.cell? ⟨q, 0, none⟩ = some (.int .i64 (x : Int)) ∧ W.drew.cell? ⟨q, 1, none⟩ = some (.int .i64 (y : Int)) := ⟨cp, x0, x1⟩
  refine wp_region_last 10 (fun w' => w'.cell? ⟨p, 0, none⟩ = some v ∧ w'.cell? ⟨q, 0, none⟩ = some (.int .i64 (x : Int)) ∧ w'.cell? ⟨q, 1, none⟩ = some (.int .i64 (y : Int))) mix ?_
  refine wpAnyL_take (i := 0) (v := .pointer (some ⟨p, 0, none⟩)) rfl (by kernel_rfl) (by kernel_rfl) (by kernel_rfl) (fun _ _ _ h => h) rfl (by kernel_rfl) (Or.inl ⟨by rfl, fun w' hw' => by (try go_split_ands); go_simp⟩) cv ?_
  simp only [Act.put, List.getElem_toArray, List.getElem_cons_zero, List.setIfInBounds_toArray, List.set_cons_zero, List.set_cons_succ]
  refine wpAnyL_take (i := 1) (v := .pointer (some ⟨p, 0, none⟩)) rfl (by kernel_rfl) (by kernel_rfl) (by kernel_rfl) (fun _ _ _ h => h) rfl (by kernel_rfl) (Or.inl ⟨by rfl, fun w' hw' => by (try go_split_ands); go_simp⟩) cv ?_
  simp only [Act.put, List.getElem_toArray, List.getElem_cons_zero, List.getElem_cons_succ, List.setIfInBounds_toArray, List.set_cons_zero, List.set_cons_succ]
  refine wpAnyL_take (i := 2) (v := .pointer (some ⟨p, 0, none⟩)) rfl (by kernel_rfl) (by kernel_rfl) (by kernel_rfl) (fun _ _ _ h => h) rfl (by kernel_rfl) (Or.inl ⟨by rfl, fun w' hw' => by (try go_split_ands); go_simp⟩) cv ?_
  simp only [Act.put, List.getElem_toArray, List.getElem_cons_zero, List.getElem_cons_succ, List.setIfInBounds_toArray, List.set_cons_zero, List.set_cons_succ]
  refine wpAnyL_take (i := 3) (v := .pointer (some ⟨p, 0, none⟩)) rfl (by kernel_rfl) (by kernel_rfl) (by kernel_rfl) (fun _ _ _ h => h) rfl (by kernel_rfl) (Or.inl ⟨by rfl, fun w' hw' => by (try go_split_ands); go_simp⟩) cv ?_
  simp only [Act.put, List.getElem_toArray, List.getElem_cons_zero, List.getElem_cons_succ, List.setIfInBounds_toArray, List.set_cons_zero, List.set_cons_succ]
  refine wpAnyL_take (i := 4) (v := v) rfl (by kernel_rfl) (by kernel_rfl) (by kernel_rfl) (fun _ _ _ h => h) rfl (by kernel_rfl) (Or.inl ⟨by rfl, fun w' hw' => by (try go_split_ands); go_simp⟩) cv ?_
  simp only [Act.put, List.getElem_toArray, List.getElem_cons_zero, List.getElem_cons_succ, List.setIfInBounds_toArray, List.set_cons_zero, List.set_cons_succ]
  refine wpAnyL_take (i := 5) (v := .agg #[.int .i64 (x : Int), .int .i64 (y : Int)]) rfl (by kernel_rfl) (by kernel_rfl) (by kernel_rfl) (fun _ _ _ h => h) rfl (by kernel_rfl) (Or.inl ⟨by rfl, fun w' hw' => by (try go_split_ands); go_simp⟩) cv ?_
  simp only [Act.put, List.getElem_toArray, List.getElem_cons_zero, List.getElem_cons_succ, List.setIfInBounds_toArray, List.set_cons_zero, List.set_cons_succ]
  refine wpAnyL_one (i := 6) (by kernel_rfl) rfl (fun K hK => ?_)
  go_simp
  have HP6 := Lib.hid ((HP.out.alloc (.cells #[.int .i64 (x : Int), .int .i64 (y : Int)] 140)).drew)
  have HX6 := Lib.hid ((HX.out.alloc (.cells #[.int .i64 (x : Int), .int .i64 (y : Int)] 140)).drew)
  have HO6 := Lib.hid ((HO.out.alloc (.cells #[.int .i64 (x : Int), .int .i64 (y : Int)] 140)).drew)
  have HN6 := Lib.hid ((Blk.new W 140 #[.int .i64 (x : Int), .int .i64 (y : Int)]).drew)
  have HF6 := Lib.hid ((HFw.out.alloc (.cells #[.int .i64 (x : Int), .int .i64 (y : Int)] 140)).drew)
  have hz6 : W.heap.size < (W.alloc (.cells #[.int .i64 (x : Int), .int .i64 (y : Int)] 140)).drew.heap.size := HN6.out.lt
  generalize (W.alloc (.cells #[.int .i64 (x : Int), .int .i64 (y : Int)] 140)).drew = W6 at HP6 HX6 HO6 HN6 HF6 hz6 ⊢
  refine hK.out _ _ (fun _ => ⟨HP6.out.cell 0, HX6.out.cell 0, HX6.out.cell 1⟩) ?_
  clear hK K
  refine wpAnyL_one (i := 7) (by kernel_rfl) rfl (fun K hK => ?_)
  refine step_push tS rfl (.tmp 8) (.tmp 10) rfl B v (nS l) (by rfl) HO6.out W.heap.size 0 1 1 [((x : Int), (y : Int))] (by rfl) rfl (rangeBlk HN6.out (by rfl)) (by rw [nS_len]; unfold maxLen; simp; omega) (by rw [nS_len]; show _ * 16 ≤ _; simp; omega) (by omega) ?_
  intro v' w9 hown hgrow hform
  obtain ⟨g', c', rfl, _⟩ := hform (by simp)
  have hp9 := HP6.out.of_block (hgrow.block p HP6.out.lt (fun e => HO6.out.ne HP6.out (by decide) e.symm))
  have hx9 := HX6.out.of_block (hgrow.block q HX6.out.lt (fun e => hvq e.symm))
  simp only [Act.put, List.setIfInBounds_toArray]
  refine hK.out _ _ (fun _ => ⟨hp9.cell 0, hx9.cell 0, hx9.cell 1⟩) ?_
  clear hK K
  have c9 : w9.cell? ⟨p, 0, none⟩ = some v := hp9.cell 0
  have f9 := hp9.frozen 0
  have cv9 : w9.cell? ⟨p, 0, none⟩ = some v ∧ w9.cell? ⟨q, 0, none⟩ = some (.int .i64 (x : Int)) ∧ w9.cell? ⟨q, 1, none⟩ = some (.int .i64 (y : Int)) := ⟨hp9.cell 0, hx9.cell 0, hx9.cell 1⟩
  refine wpAnyL_one (i := 8) (by kernel_rfl) rfl (fun K hK => ?_)
  go_simp
  refine hK.out _ _ (fun _ => cv9) ?_
  clear hK K
  refine wpAnyL_one (i := 9) (by kernel_rfl) rfl (fun K hK => ?_)
  go_simp
  refine hK.out _ _ (fun _ => cv9) ?_
  clear hK K
  refine wpAnyL_one (i := 10) (by kernel_rfl) rfl (fun K hK => ?_)
  go_simp
  refine hK.out _ _ (fun h => absurd rfl h) ?_
  clear hK K
  refine wpAnyL_done (by kernel_rfl) ?_ _
  go_end0
  have hO : OwR tS B w9 (.slice (some ⟨g', 0, none⟩) ((nS l).length + 1) c') (nS (l ++ [(x, y)])) := by rw [nS_app]; exact hown
  have hne : (Value.slice (some ⟨g', 0, none⟩) ((nS l).length + 1) c').ownBlock ≠ some p := hO.ne hp9 (by decide)
  refine ⟨rfl, ⟨_, (hp9.set 0 _).eq rfl, hO.set_other hne, h3⟩, ?_⟩
  exact (HF6.out.grown (R := tS) HO6.out hgrow).set 0 _
theorem rowStep : RowTy Try.prog 140 2 := ⟨_, Try.underlying140, rfl, by kernel_rfl⟩
theorem results_cell_tmp {P : Program} {fn : Func} {p t : Tmp} {ty : TypeId} (h : fn.results = #[.cell p ty, .tmp t]) {tmps : Array Value} {w : World} {g : Nat} {T : TypeId} {C : Array Value}
    (hp : tmps.getD p undef = .pointer (some ⟨g, 0, none⟩)) (hg : Blk w g T C) (hr : RowTy P ty C.size) : (results fn tmps).run P w = .ok (.tuple #[.agg C, tmps.getD t undef]) w := by
  obtain ⟨d, hu, hd, hi⟩ := hr
  have hp' : tmps[p]?.getD undef = .pointer (some ⟨g, 0, none⟩) := by simpa using hp
  simp [results, h, hp', asAddr, run_loadVar_row w g T ty C (0, 0) d hg hu (by cases d <;> simp_all [TypeDesc.isRow]) hi]
theorem popS_none (w : World) (B p : Nat) (h : Ss B p [] w) :
    Calls Try.prog 100 #[.pointer (some ⟨p, 0, none⟩)] w fun e w' => e = .returned (.tuple #[.agg #[.int .i64 0, .int .i64 0], .bool false]) ∧ Below w.heap.size w w' := by
  obtain ⟨v, h1, h2, h3⟩ := h
  have cp := h1.cell 0
  have hpl := h1.lt
  simp only [List.getElem?_toArray, List.getElem?_cons_zero] at cp
  rcases h2.form with ⟨rfl, _⟩ | ⟨g, c, rfl, _⟩
  all_goals
    clear h1 h2
    try simp only [nS, List.map_nil, List.length_nil] at cp
    go_enter Try.func100, Try.ntmps100
    go_wp2
    try simp only [Exit.inBlock, Exit.then]
    refine bodyPost_ret (results_cell_tmp (w := _) rfl rfl ((Blk.new w 140 #[.int .i64 0, .int .i64 0]).alloc _) rowStep) rfl ?_
    exact ⟨rfl, bAl (bAl (bRefl w) _) _⟩
theorem popS_some (w : World) (B p : Nat) (m : List (Nat × Nat)) (x y : Nat) (h : Ss B p (m ++ [(x, y)]) w) :
    Calls Try.prog 100 #[.pointer (some ⟨p, 0, none⟩)] w fun e w' => e = .returned (.tuple #[.agg #[.int .i64 (x : Int), .int .i64 (y : Int)], .bool true]) ∧ Ss B p m w' ∧ Fq p 140 B w w' := by
  obtain ⟨v, h1, h2, h3⟩ := h
  rcases h2.form with ⟨_, e⟩ | ⟨g, c, rfl, hc1, hc2, hBg⟩
  · have := congrArg List.length e
    simp [nS] at this
  · have hl : (nS (m ++ [(x, y)])).length = m.length + 1 := by rw [nS_len]; simp
    rw [hl] at h1 h2 hc1
    have hpl := h1.lt
    have hgl : g < w.heap.size := h2.lt rfl
    have H1 := Lib.hid h1
    have H2 := Lib.hid h2
    have cp := h1.cell 0
    simp only [List.getElem?_toArray, List.getElem?_cons_zero] at cp
    unfold maxLen at hc2
    clear h1 h2 hl
    go_enter Try.func100, Try.ntmps100
    go_upto_region 4 with (fail)
    generalize hW : ((w.alloc _).alloc _) = W
    have PR : Blk W w.heap.size 140 #[.int .i64 0, .int .i64 0] := by rw [← hW]; exact (Blk.new _ _ _).alloc _
    have HR := Lib.hid PR
    have HA := Lib.hid (show Blk W p 137 #[.slice (some ⟨g, 0, none⟩) (m.length + 1) c] by rw [← hW]; exact (H1.out.alloc _).alloc _)
    have HB := Lib.hid (show OwR tS B W (.slice (some ⟨g, 0, none⟩) (m.length + 1) c) (nS (m ++ [(x, y)])) by rw [← hW]; exact (H2.out.alloc _).alloc _)
    have HF := Lib.hid (show Fq p 140 B w W by rw [← hW]; exact ((Fq.refl _ _ _ _).alloc _).alloc _)
    have hsz : w.heap.size < W.heap.size := PR.lt
    have hat := HB.out.at (k := m.length) (x := ((x : Int), (y : Int))) (by rw [nS_app, List.getElem?_append_right (by rw [nS_len]; exact Nat.le_refl _), nS_len, Nat.sub_self]; rfl)
    have kx : W.cell? ⟨g, m.length * 2, none⟩ = some (.int .i64 (x : Int)) := by
      have h := hat.cell 0 _ rfl
      have e1 : 0 + m.length * tS.n + 0 = m.length * 2 := by show 0 + m.length * 2 + 0 = _; omega
      rw [e1] at h
      exact h
    have ky : W.cell? ⟨g, m.length * 2 + 1, none⟩ = some (.int .i64 (y : Int)) := by
      have h := hat.cell 1 _ rfl
      have e1 : 0 + m.length * tS.n + 1 = m.length * 2 + 1 := by show 0 + m.length * 2 + 1 = _; omega
      rw [e1] at h
      exact h
    have kp : W.cell? ⟨p, 0, none⟩ = some (.slice (some ⟨g, 0, none⟩) (m.length + 1) c) := HA.out.cell 0
    have hgW := HB.out.lt (g := g) rfl
    have hpW := HA.out.lt
    clear hW PR H1 H2 cp hat
    obtain ⟨q, hq⟩ : ∃ q, q = w.heap.size := ⟨_, rfl⟩
    rw [← hq] at HR hsz hpl hgl ⊢
    have hgq : g ≠ q := by omega
    have HF2 := Lib.hid HF.out
    have hqw : w.heap.size ≤ q := by omega
    clear HF hq
    have hwr : IntKind.i64.wrap ((m.length : Int) + 1 - 1) = (m.length : Int) := (IntWalk.i64_in _ (by omega)).trans (by omega)
    have hw2 : IntKind.i64.wrap (m.length : Int) = (m.length : Int) := IntWalk.i64_in _ (by omega)
    have hmc : m.length ≤ c := by omega
    have hmc2 : (m.length : Int) ≤ (c : Int) := by omega
    have htn : ((m.length : Nat) : Int).toNat = m.length := by omega
    have hno : ¬ ((m.length : Int) + 1 ≤ (m.length : Int)) := by omega
    have cv : W.drew.cell? ⟨p, 0, none⟩ = some (.slice (some ⟨g, 0, none⟩) (m.length + 1) c) ∧ W.drew.cell? ⟨g, m.length * 2, none⟩ = some (.int .i64 (x : Int)) ∧ W.drew.cell? ⟨g, m.length * 2 + 1, none⟩ = some (.int .i64 (y : Int)) := ⟨kp, kx, ky⟩
    refine wp_region_last 13 (fun w' => w'.cell? ⟨p, 0, none⟩ = some (.slice (some ⟨g, 0, none⟩) (m.length + 1) c) ∧ w'.cell? ⟨g, m.length * 2, none⟩ = some (.int .i64 (x : Int)) ∧ w'.cell? ⟨g, m.length * 2 + 1, none⟩ = some (.int .i64 (y : Int))) mix ?_
    refine wpAnyL_take (i := 0) (v := .pointer (some ⟨p, 0, none⟩)) rfl (by kernel_rfl) (by kernel_rfl) (by kernel_rfl) (fun _ _ _ h => h) rfl (by kernel_rfl) (Or.inl ⟨by rfl, fun w' hw' => by (try go_split_ands); go_simp⟩) cv ?_
    simp only [Act.put, List.getElem_toArray, List.getElem_cons_zero, List.setIfInBounds_toArray, List.set_cons_zero, List.set_cons_succ]
    refine wpAnyL_take (i := 1) (v := .pointer (some ⟨p, 0, none⟩)) rfl (by kernel_rfl) (by kernel_rfl) (by kernel_rfl) (fun _ _ _ h => h) rfl (by kernel_rfl) (Or.inl ⟨by rfl, fun w' hw' => by (try go_split_ands); go_simp⟩) cv ?_
    simp only [Act.put, List.getElem_toArray, List.getElem_cons_zero, List.getElem_cons_succ, List.setIfInBounds_toArray, List.set_cons_zero, List.set_cons_succ]
    refine wpAnyL_take (i := 2) (v := .pointer (some ⟨p, 0, none⟩)) rfl (by kernel_rfl) (by kernel_rfl) (by kernel_rfl) (fun _ _ _ h => h) rfl (by kernel_rfl) (Or.inl ⟨by rfl, fun w' hw' => by (try go_split_ands); go_simp⟩) cv ?_
    simp only [Act.put, List.getElem_toArray, List.getElem_cons_zero, List.getElem_cons_succ, List.setIfInBounds_toArray, List.set_cons_zero, List.set_cons_succ]
    refine wpAnyL_take (i := 3) (v := .slice (some ⟨g, 0, none⟩) (m.length + 1) c) rfl (by kernel_rfl) (by kernel_rfl) (by kernel_rfl) (fun _ _ _ h => h) rfl (by kernel_rfl) (Or.inl ⟨by rfl, fun w' hw' => by (try go_split_ands); go_simp⟩) cv ?_
    simp only [Act.put, List.getElem_toArray, List.getElem_cons_zero, List.getElem_cons_succ, List.setIfInBounds_toArray, List.set_cons_zero, List.set_cons_succ]
    refine wpAnyL_take (i := 4) (v := .pointer (some ⟨p, 0, none⟩)) rfl (by kernel_rfl) (by kernel_rfl) (by kernel_rfl) (fun _ _ _ h => h) rfl (by kernel_rfl) (Or.inl ⟨by rfl, fun w' hw' => by (try go_split_ands); go_simp⟩) cv ?_
    simp only [Act.put, List.getElem_toArray, List.getElem_cons_zero, List.getElem_cons_succ, List.setIfInBounds_toArray, List.set_cons_zero, List.set_cons_succ]
    refine wpAnyL_take (i := 5) (v := .pointer (some ⟨p, 0, none⟩)) rfl (by kernel_rfl) (by kernel_rfl) (by kernel_rfl) (fun _ _ _ h => h) rfl (by kernel_rfl) (Or.inl ⟨by rfl, fun w' hw' => by (try go_split_ands); go_simp⟩) cv ?_
    simp only [Act.put, List.getElem_toArray, List.getElem_cons_zero, List.getElem_cons_succ, List.setIfInBounds_toArray, List.set_cons_zero, List.set_cons_succ]
    refine wpAnyL_take (i := 6) (v := .pointer (some ⟨p, 0, none⟩)) rfl (by kernel_rfl) (by kernel_rfl) (by kernel_rfl) (fun _ _ _ h => h) rfl (by kernel_rfl) (Or.inl ⟨by rfl, fun w' hw' => by (try go_split_ands); go_simp⟩) cv ?_
    simp only [Act.put, List.getElem_toArray, List.getElem_cons_zero, List.getElem_cons_succ, List.setIfInBounds_toArray, List.set_cons_zero, List.set_cons_succ]
    refine wpAnyL_take (i := 7) (v := .slice (some ⟨g, 0, none⟩) (m.length + 1) c) rfl (by kernel_rfl) (by kernel_rfl) (by kernel_rfl) (fun _ _ _ h => h) rfl (by kernel_rfl) (Or.inl ⟨by rfl, fun w' hw' => by (try go_split_ands); go_simp⟩) cv ?_
    simp only [Act.put, List.getElem_toArray, List.getElem_cons_zero, List.getElem_cons_succ, List.setIfInBounds_toArray, List.set_cons_zero, List.set_cons_succ]
    refine wpAnyL_take (i := 8) (v := .int .i64 ((m.length : Int) + 1)) rfl (by kernel_rfl) (by kernel_rfl) (by kernel_rfl) (fun _ _ _ h => h) rfl (by kernel_rfl) (Or.inl ⟨by rfl, fun w' hw' => by (try go_split_ands); go_simp⟩) cv ?_
    simp only [Act.put, List.getElem_toArray, List.getElem_cons_zero, List.getElem_cons_succ, List.setIfInBounds_toArray, List.set_cons_zero, List.set_cons_succ]
    refine wpAnyL_take (i := 9) (v := .int .i64 (m.length : Int)) rfl (by kernel_rfl) (by kernel_rfl) (by kernel_rfl) (fun _ _ _ h => h) rfl (by kernel_rfl) (Or.inl ⟨by rfl, fun w' hw' => by (try go_split_ands); go_simp⟩) cv ?_
    simp only [Act.put, List.getElem_toArray, List.getElem_cons_zero, List.getElem_cons_succ, List.setIfInBounds_toArray, List.set_cons_zero, List.set_cons_succ]
    refine wpAnyL_take (i := 10) (v := .pointer (some ⟨g, m.length * 2, none⟩)) rfl (by kernel_rfl) (by kernel_rfl) (by kernel_rfl) (fun _ _ _ h => h) rfl (by kernel_rfl) (Or.inl ⟨by rfl, fun w' hw' => by (try go_split_ands); go_simp⟩) cv ?_
    simp only [Act.put, List.getElem_toArray, List.getElem_cons_zero, List.getElem_cons_succ, List.setIfInBounds_toArray, List.set_cons_zero, List.set_cons_succ]
    refine wpAnyL_take (i := 11) (v := .agg #[.int .i64 (x : Int), .int .i64 (y : Int)]) rfl (by kernel_rfl) (by kernel_rfl) (by kernel_rfl) (fun _ _ _ h => h) rfl (by kernel_rfl) (Or.inl ⟨by rfl, fun w' hw' => by (try go_split_ands); go_simp⟩) cv ?_
    simp only [Act.put, List.getElem_toArray, List.getElem_cons_zero, List.getElem_cons_succ, List.setIfInBounds_toArray, List.set_cons_zero, List.set_cons_succ]
    refine wpAnyL_one (i := 12) (by kernel_rfl) rfl (fun K hK => ?_)
    go_simp
    have HA6 := Lib.hid ((HA.out.alloc (.cells #[.int .i64 0, .int .i64 0] 140)).drew)
    have HR6 := Lib.hid ((HR.out.alloc (.cells #[.int .i64 0, .int .i64 0] 140)).drew)
    have HB6 := Lib.hid ((HB.out.alloc (.cells #[.int .i64 0, .int .i64 0] 140)).drew)
    have HN6 := Lib.hid ((Blk.new W 140 #[.int .i64 0, .int .i64 0]).drew)
    have HF6 := Lib.hid ((HF2.out.alloc (.cells #[.int .i64 0, .int .i64 0] 140)).drew)
    have k6 : (W.alloc (.cells #[.int .i64 0, .int .i64 0] 140)).drew.cell? ⟨p, 0, none⟩ = some (.slice (some ⟨g, 0, none⟩) (m.length + 1) c) ∧ (W.alloc (.cells #[.int .i64 0, .int .i64 0] 140)).drew.cell? ⟨g, m.length * 2, none⟩ = some (.int .i64 (x : Int)) ∧ (W.alloc (.cells #[.int .i64 0, .int .i64 0] 140)).drew.cell? ⟨g, m.length * 2 + 1, none⟩ = some (.int .i64 (y : Int)) :=
      ⟨HA6.out.cell 0, (World.cell?_alloc_past _ _ _ hgW).trans kx, (World.cell?_alloc_past _ _ _ hgW).trans ky⟩
    obtain ⟨t, ht⟩ : ∃ t, t = W.heap.size := ⟨_, rfl⟩
    have hwt : w.heap.size ≤ t := by rw [ht]; exact HF2.out.size
    rw [← ht] at HN6 hsz hgW hpW ⊢
    generalize (W.alloc (.cells #[.int .i64 0, .int .i64 0] 140)).drew = W6 at HA6 HR6 HB6 HN6 HF6 k6 ⊢
    refine hK.out _ _ (fun _ => k6) ?_
    clear hK K ht kx ky kp cv
    have n0 := HN6.out.cell 0
    have n1 := HN6.out.cell 1
    have m0 := HN6.out.frozen 0
    have m1 := HN6.out.frozen 1
    simp only [List.getElem?_toArray, List.getElem?_cons_zero, List.getElem?_cons_succ] at n0 n1
    refine wpAnyL_one (i := 13) (by kernel_rfl) rfl (fun K hK => ?_)
    go_simp
    refine hK.out _ _ (fun h => absurd rfl h) ?_
    clear hK K
    refine wpAnyL_done (by kernel_rfl) ?_ _
    have HA7 := Lib.hid ((HA6.out.set_other t 0 (.int .i64 (x : Int)) (by omega)).set_other t 1 (.int .i64 (y : Int)) (by omega))
    have HN7 := Lib.hid (((HN6.out.set 0 (.int .i64 (x : Int))).set 1 (.int .i64 (y : Int))).eq (C' := #[.int .i64 (x : Int), .int .i64 (y : Int)]) rfl)
    have HR7 := Lib.hid ((HR6.out.set_other t 0 (.int .i64 (x : Int)) (by omega)).set_other t 1 (.int .i64 (y : Int)) (by omega))
    have hgt : (Value.slice (some ⟨g, 0, none⟩) (m.length + 1) c).ownBlock ≠ some t := fun e => by injection e with e; simp only at e; omega
    have HB7 := Lib.hid ((HB6.out.set_other (b := t) (i := 0) (x := .int .i64 (x : Int)) hgt).set_other (b := t) (i := 1) (x := .int .i64 (y : Int)) hgt)
    have hF7 := (HF6.out.set_new (t := t) 0 (.int .i64 (x : Int)) hwt).set_new (t := t) 1 (.int .i64 (y : Int)) hwt
    have HF7 := Lib.hid hF7
    generalize (W6.setCell ⟨t, 0, none⟩ (.int .i64 (x : Int))).setCell ⟨t, 1, none⟩ (.int .i64 (y : Int)) = W7 at HA7 HN7 HR7 HB7 HF7 ⊢
    clear HA6 HN6 HR6 HB6 HF6 k6 n0 n1 m0 m1 hF7 HA HR HB HF2
    have cp := HA7.out.cell 0
    simp only [List.getElem?_toArray, List.getElem?_cons_zero] at cp
    have f0 := HA7.out.frozen 0
    have fd : W7.drew.frozen? ⟨p, 0, none⟩ = false := f0
    have cd : W7.drew.cell? ⟨p, 0, none⟩ = some (.slice (some ⟨g, 0, none⟩) (m.length + 1) c) := cp
    go_upto_region 5 with (fail)
    refine wp_tail 14 mix (by kernel_rfl) ?_
    simp only [List.take_succ_cons, List.take_zero, List.drop_succ_cons, List.drop_zero]
    iterate 14 still_step
    refine wpStill_nil ?_
    go_upto_region 6 with (fail)
    have HA9 := Lib.hid (HA7.out.drew.set 0 (.slice (some ⟨g, 0, none⟩) m.length c))
    have HB9 : OwR tS B W7.drew (.slice (some ⟨g, 0, none⟩) m.length c) (nS m) := by
      have h := HB7.out.take (k := m.length) (by rw [nS_len]; simp)
      have e : (nS (m ++ [(x, y)])).take m.length = nS m := by rw [nS_app, ← nS_len m, List.take_left]
      rw [e] at h
      exact h
    have hne : (Value.slice (some ⟨g, 0, none⟩) m.length c).ownBlock ≠ some p := HB9.ne HA7.out.drew (by decide)
    have HB9' := Lib.hid (HB9.set_other (i := 0) (x := .slice (some ⟨g, 0, none⟩) m.length c) hne)
    have HN9 := Lib.hid (HN7.out.drew.set_other p 0 (.slice (some ⟨g, 0, none⟩) m.length c) (by omega))
    have HR9 := Lib.hid (HR7.out.drew.set_other p 0 (.slice (some ⟨g, 0, none⟩) m.length c) (by omega))
    have HF9 := Lib.hid (HF7.out.drew.set 0 (.slice (some ⟨g, 0, none⟩) m.length c))
    generalize hW9 : (W7.setCell ⟨p, 0, none⟩ (.slice (some ⟨g, 0, none⟩) m.length c)).drew = W9
    have A9 : Blk W9 p 137 #[.slice (some ⟨g, 0, none⟩) m.length c] := by rw [← hW9]; exact HA9.out.eq rfl
    have B9 : OwR tS B W9 (.slice (some ⟨g, 0, none⟩) m.length c) (nS m) := by rw [← hW9]; exact HB9'.out
    have N9 : Blk W9 t 140 #[.int .i64 (x : Int), .int .i64 (y : Int)] := by rw [← hW9]; exact HN9.out
    have R9 : Blk W9 q 140 #[.int .i64 0, .int .i64 0] := by rw [← hW9]; exact HR9.out
    have F9 : Fq p 140 B w W9 := by rw [← hW9]; exact HF9.out
    have t0 : W9.cell? ⟨t, 0, none⟩ = some (.int .i64 (x : Int)) := N9.cell 0
    have t1 : W9.cell? ⟨t, 1, none⟩ = some (.int .i64 (y : Int)) := N9.cell 1
    clear hW9 HA9 HB9' HN9 HR9 HF9 HA7 HN7 HR7 HB7 HF7 cp f0 fd cd HB9 hne
    have HA := Lib.hid A9
    have HB := Lib.hid B9
    have HF := Lib.hid F9
    have HR := Lib.hid R9
    clear A9 B9 F9 R9 N9
    go_wp2_with (refine wpl_store rfl 140 (.tmp 2) (.tmp 39) rfl q 0 rfl (D := #[.int .i64 (x : Int), .int .i64 (y : Int)]) rfl HR.out rowStep rfl (by decide) (oneSimp rfl) ?_; intro w9 on9 p9)
    have p9' : Blk w9 q 140 #[.int .i64 (x : Int), .int .i64 (y : Int)] := p9.eq (spl_all _ _ rfl)
    try simp only [Exit.inBlock, Exit.then]
    refine bodyPost_ret (results_cell_tmp rfl rfl p9' rowStep) rfl ?_
    have hpq : p ≠ q := by omega
    have hBq : (Value.slice (some ⟨g, 0, none⟩) m.length c).ownBlock ≠ some q := fun e => by injection e with e; exact hgq e
    refine ⟨rfl, ⟨_, on9.blk HA.out hpq, HB.out.keep fun k hk => on9.block k (fun e => hBq (e ▸ hk)), h3⟩, ?_⟩
    have h9 := HF.out
    exact ⟨on9.os.trans h9.os, on9.tape.trans h9.tape, on9.output.trans h9.output, by rw [on9.size]; exact h9.size, fun k o h1 h2 h3 => (on9.block k (by have := Go.Wr.lt_of_heap h1; omega)).trans (h9.block k o h1 h2 h3)⟩
end Go.Proofs.Ytpiiefdaaijgbaa
