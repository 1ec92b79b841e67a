/- A writer of bytes: its own block and the block of its bytes; what of the memory stays. -/
import Derived.Test.YtfdjdpbiccclfaaProg
import Derived.Test.YtfdjdpbiccclfaaLaws
namespace Go.Proofs.Ytfdjdpbiccclfaa
open Go Go.RowKit Go.Wr
set_option maxHeartbeats 1000000

/-- Bytes as cells. -/
def bcells (l : List Nat) : List Value := l.map fun n => .int .u8 (Int.ofNat n)
theorem bcells_len (l : List Nat) : (bcells l).length = l.length := by simp [bcells]
theorem bcells_app (l k : List Nat) : bcells (l ++ k) = bcells l ++ bcells k := by simp [bcells]

def isU8 (w : World) (k : Nat) : Prop := ∃ C f, w.heap[k]? = some (.cells C 5 f)
/-- Of what was there only block p and rows of bytes from B on may be other ones. -/
structure Fr (B p : Nat) (w w' : World) : Prop where
  os : w'.os = w.os
  tape : w'.tape = w.tape
  output : w'.output = w.output
  size : w.heap.size ≤ w'.heap.size
  block : ∀ k, k < w.heap.size → k ≠ p → (k < B ∨ ¬ isU8 w k) → w'.heap[k]? = w.heap[k]?

theorem Fr.refl (B p : Nat) (w : World) : Fr B p w w := ⟨rfl, rfl, rfl, Nat.le_refl _, fun _ _ _ _ => rfl⟩
theorem Fr.trans {B p : Nat} {a b c : World} (h : Fr B p a b) (k : Fr B p b c) : Fr B p a c :=
  ⟨k.os.trans h.os, k.tape.trans h.tape, k.output.trans h.output, Nat.le_trans h.size k.size, fun i hi h1 h2 => by
    have hs := h.size
    have e := h.block i hi h1 h2
    refine (k.block i (by omega) h1 ?_).trans e
    rcases h2 with h2 | h2
    · exact Or.inl h2
    · exact Or.inr (by unfold isU8; rw [e]; exact h2)⟩
theorem Fr.below {B p : Nat} {w w' : World} (h : Fr B p w w') (h1 : B ≤ p) (h3 : B ≤ w.heap.size) : Below B w w' :=
  ⟨h.os, h.tape, h.output, h.size, fun k hk => h.block k (by omega) (by omega) (Or.inl hk)⟩
theorem Fr.of_below {B p : Nat} {w w' : World} (h : Below w.heap.size w w') : Fr B p w w' :=
  ⟨h.os, h.tape, h.output, h.size, fun k hk _ _ => h.block k hk⟩
theorem Fr.blk {B p b : Nat} {w w' : World} {T : TypeId} {C : Array Value} (h : Fr B p w w') (hb : Blk w b T C) (h1 : b ≠ p) (h2 : b < B ∨ T ≠ 5) : Blk w' b T C :=
  hb.of_block (h.block b hb.lt h1 (h2.imp id fun hT => fun ⟨C', f, e⟩ => by
    have e2 : w.heap[b]? = some (.cells C T (0, 0)) := hb
    rw [e2] at e
    injection e with e
    injection e with _ e
    exact hT e))
theorem Fr.set {B p : Nat} {w w' : World} (h : Fr B p w w') (i : Nat) (v : Value) : Fr B p w (w'.setCell ⟨p, i, none⟩ v) := by
  have hb := (Below.refl 0 w').setCell (p := ⟨p, i, none⟩) (Nat.zero_le _) v
  exact ⟨hb.os.trans h.os, hb.tape.trans h.tape, hb.output.trans h.output, Nat.le_trans h.size hb.size, fun k hk h1 h2 => (Below.heap_setCell w' ⟨p, i, none⟩ v k h1).trans (h.block k hk h1 h2)⟩
theorem Fr.drew {B p : Nat} {w w' : World} (h : Fr B p w w') : Fr B p w w'.drew := ⟨h.os, h.tape, h.output, h.size, h.block⟩
theorem Fr.alloc {B p : Nat} {w w' : World} (h : Fr B p w w') (x : Obj) : Fr B p w (w'.alloc x) :=
  h.trans (Fr.of_below ((Below.refl w'.heap.size w').alloc (Nat.le_refl _) x))
/-- From a later world on: what was laid since is no matter. -/
theorem Fr.from {B p : Nat} {w w1 w' : World} (b : Below w.heap.size w w1) (h : Fr B p w1 w') : Fr B p w w' :=
  (Fr.of_below b).trans h

/-- A writer at p whose bytes are l; its first row may bear the run-time's mark. -/
def Wt (B p : Nat) (w : World) (l : List Nat) : Prop :=
  ∃ o cap cur fz, Blk w p 72 #[.slice (some ⟨o, 0, none⟩) l.length cap] ∧ w.heap[o]? = some (.cells cur 5 fz) ∧ B ≤ o ∧ B ≤ p ∧ l.length ≤ cap ∧ cap ≤ maxLen ∧ cur.size = cap ∧ cur.toList.take l.length = bcells l ∧ (fz = (0, 0) ∨ (l.length = cap ∧ cap = 4))
theorem blk_ne {w : World} {b b' : Nat} {T T' : TypeId} {C C' : Array Value} (h : Blk w b T C) (h' : Blk w b' T' C') (hT : T ≠ T') : b ≠ b' := fun e => by
  subst e
  have e1 : w.heap[b]? = some (.cells C T (0, 0)) := h
  have e2 : w.heap[b]? = some (.cells C' T' (0, 0)) := h'
  rw [e1] at e2
  injection e2 with e2
  injection e2 with _ e2
  exact hT e2
theorem blk_neF {w : World} {b b' : Nat} {T T' : TypeId} {C C' : Array Value} {fz : Nat × Nat} (h : Blk w b T C) (h' : w.heap[b']? = some (.cells C' T' fz)) (hT : T ≠ T') : b ≠ b' := fun e => by
  subst e
  have e1 : w.heap[b]? = some (.cells C T (0, 0)) := h
  rw [e1] at h'
  injection h' with e2
  injection e2 with _ e2
  exact hT e2
theorem cell_of_any {w : World} {b : Nat} {T : TypeId} {C : Array Value} {fz : Nat × Nat} (h : w.heap[b]? = some (.cells C T fz)) (i : Nat) : w.cell? ⟨b, i, none⟩ = C[i]? := cell_of_row w b i C T fz h
theorem Wt.cell {B p : Nat} {w : World} {l : List Nat} (h : Wt B p w l) : ∃ o cap, w.cell? ⟨p, 0, none⟩ = some (.slice (some ⟨o, 0, none⟩) l.length cap) ∧ (w.ownsRow B 5 1 (.slice (some ⟨o, 0, none⟩) l.length cap) l.length (bcells l) ∨ (l.length = cap ∧ cap = 4 ∧ ∃ cur fz, w.heap[o]? = some (.cells cur 5 fz) ∧ cur.toList.take l.length = bcells l)) := by
  obtain ⟨o, cap, cur, fz, h1, h2, h3, h4, h5, h6, h7, h8, h9⟩ := h
  refine ⟨o, cap, (h1.cell 0), ?_⟩
  rcases h9 with rfl | ⟨e1, e2⟩
  · exact Or.inl ⟨by rw [bcells_len, Nat.mul_one], Or.inr ⟨o, cap, cur, rfl, h3, h2, h5, h6, by rw [h7, Nat.mul_one], by rw [Nat.mul_one]; exact h8⟩⟩
  · exact Or.inr ⟨e1, e2, cur, fz, h2, h8⟩
/-- More than four bytes: a row of the writer's own, unmarked. -/
theorem Wt.own {B p : Nat} {w : World} {l : List Nat} (h : Wt B p w l) (hl : 4 < l.length) : ∃ v, w.cell? ⟨p, 0, none⟩ = some v ∧ w.ownsRow B 5 1 v l.length (bcells l) ∧ ∃ o cap, v = .slice (some ⟨o, 0, none⟩) l.length cap := by
  obtain ⟨o, cap, h1, h2⟩ := h.cell
  rcases h2 with h2 | ⟨e1, e2, _⟩
  · exact ⟨_, h1, h2, o, cap, rfl⟩
  · omega
theorem Wt.lt {B p : Nat} {w : World} {l : List Nat} (h : Wt B p w l) : p < w.heap.size ∧ B ≤ p := by
  obtain ⟨o, cap, cur, fz, h1, h2, h3, h4, h5, h6, h7, h8⟩ := h
  exact ⟨h1.lt, h4⟩
theorem Wt.frozen {B p : Nat} {w : World} {l : List Nat} (h : Wt B p w l) : w.frozen? ⟨p, 0, none⟩ = false := by
  obtain ⟨o, cap, cur, fz, h1, _⟩ := h
  exact h1.frozen 0
theorem Wt.ne {B p b : Nat} {w : World} {l : List Nat} {T : TypeId} {C : Array Value} (h : Wt B p w l) (hb : Blk w b T C) (hT : T ≠ 72) : b ≠ p := by
  obtain ⟨o, cap, cur, fz, h1, _⟩ := h
  exact blk_ne hb h1 hT
theorem lt_of_heap {w : World} {o : Nat} {x : Obj} (h : w.heap[o]? = some x) : o < w.heap.size := (Array.getElem?_eq_some_iff.1 h).1
theorem Wt.below {B p : Nat} {w w' : World} {l : List Nat} (h : Wt B p w l) (b : Below w.heap.size w w') : Wt B p w' l := by
  obtain ⟨o, cap, cur, fz, h1, h2, r⟩ := h
  exact ⟨o, cap, cur, fz, h1.below b h1.lt, (b.block o (lt_of_heap h2)).trans h2, r⟩

/-- More bytes: behind append and the store. -/
theorem Wt.grown {B p : Nat} {w w1 w' : World} {l k : List Nat} {v v' : Value} {o cap : Nat} (h : Wt B p w l) (hc : w.cell? ⟨p, 0, none⟩ = some v) (hv : v = .slice (some ⟨o, 0, none⟩) l.length cap) (hb : Below w.heap.size w w1)
    (ho : w'.ownsRow B 5 1 v' (l.length + k.length) (bcells l ++ bcells k)) (hg : w1.grownBy w' v.ownBlock) (hn : v' ≠ .slice none 0 0) :
    Wt B p (w'.setCell ⟨p, 0, none⟩ v') (l ++ k) ∧ Fr B p w (w'.setCell ⟨p, 0, none⟩ v') := by
  obtain ⟨hp, hBp⟩ := h.lt
  rcases ho.2 with ⟨e, _⟩ | ⟨g, c, cur, rfl, hg1, hb1, h1, h2, h3, h4⟩
  · exact absurd e hn
  · obtain ⟨o0, cap0, cur0, fz0, k1, k2, k3, k4, _⟩ := h
    have e0 := (k1.cell 0).symm.trans hc
    simp only [List.getElem?_toArray, List.getElem?_cons_zero, Option.some.injEq] at e0
    rw [hv] at e0 hg
    simp only [Value.slice.injEq, Option.some.injEq, Addr.mk.injEq, and_true, true_and] at e0
    obtain ⟨rfl, rfl⟩ := e0
    have hs := hb.size
    have hne : p ≠ o0 := blk_neF k1 k2 (by decide)
    have hb' : Blk w' g 5 cur := hb1
    have hp' : Blk w' p 72 #[.slice (some ⟨o0, 0, none⟩) l.length cap0] := (k1.below hb k1.lt).of_block (hg.block p (by omega) (fun e => hne (by injection e)))
    have hpg : g ≠ p := blk_ne hb' hp' (by decide)
    refine ⟨⟨g, c, cur, (0, 0), ?_, hb'.set_other _ _ _ hpg, hg1, hBp, by simpa using h1, h2, by simpa using h3, by rw [bcells_app, List.length_append]; simpa using h4, Or.inl rfl⟩, ?_⟩
    · have := hp'.set 0 (.slice (some ⟨g, 0, none⟩) (l.length + k.length) c)
      rw [List.length_append]
      exact this
    · refine Fr.set (Fr.from hb ⟨hg.os, hg.tape, hg.output, hg.size, fun i hi h1 h2 => hg.block i hi (fun e => ?_)⟩) 0 _
      injection e with e
      subst e
      rcases h2 with h2 | h2
      · omega
      · exact h2 ⟨_, _, (hb.block i (lt_of_heap k2)).trans k2⟩

/-- What a writer's function leaves. -/
def WrP (B p : Nat) (w : World) (l : List Nat) (e : Ending) (w' : World) : Prop := e = .returned (.tuple #[]) ∧ Wt B p w' l ∧ Fr B p w w'
end Go.Proofs.Ytfdjdpbiccclfaa
