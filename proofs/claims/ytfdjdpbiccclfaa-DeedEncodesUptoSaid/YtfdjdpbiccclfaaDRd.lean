/- The reader of deed: its state, what stays of the memory, giving up, a byte. -/
import Derived.Test.YtfdjdpbiccclfaaDParse
import Derived.Deep.QuietTactic
import Derived.BigQuiet
namespace Go.Proofs.Ytfdjdpbiccclfaa
open Go Go.RowKit Go.Wr
set_option maxHeartbeats 4000000
set_option maxRecDepth 100000

/-- Of what was there only block p may be another one. -/
structure Ex (p : Nat) (w w' : World) : Prop where
  os : w'.os = w.os
  tape : w'.tape = w.tape
  output : w'.output = w.output
  size : w.heap.size ≤ w'.heap.size
  block : ∀ k, k < w.heap.size → k ≠ p → w'.heap[k]? = w.heap[k]?
theorem Ex.refl (p : Nat) (w : World) : Ex p w w := ⟨rfl, rfl, rfl, Nat.le_refl _, fun _ _ _ => rfl⟩
theorem Ex.trans {p : Nat} {a b c : World} (h : Ex p a b) (k : Ex p b c) : Ex p a c :=
  ⟨k.os.trans h.os, k.tape.trans h.tape, k.output.trans h.output, Nat.le_trans h.size k.size, fun i hi h1 => (k.block i (Nat.lt_of_lt_of_le hi h.size) h1).trans (h.block i hi h1)⟩
theorem Ex.of_below {p : Nat} {w w' : World} (h : Below w.heap.size w w') : Ex p w w' := ⟨h.os, h.tape, h.output, h.size, fun k hk _ => h.block k hk⟩
theorem Ex.below {p B : Nat} {w w' : World} (h : Ex p w w') (h1 : B ≤ p) (h2 : B ≤ w.heap.size) : Below B w w' := ⟨h.os, h.tape, h.output, h.size, fun k hk => h.block k (by omega) (by omega)⟩
theorem Ex.blk {p b : Nat} {w w' : World} {T : TypeId} {C : Array Value} (h : Ex p w w') (hb : Blk w b T C) (hne : b ≠ p) : Blk w' b T C := hb.of_block (h.block b hb.lt hne)
theorem Ex.set {p : Nat} {w w' : World} (h : Ex p w w') (i : Nat) (v : Value) : Ex p w (w'.setCell ⟨p, i, none⟩ v) := by
  have hb := (Below.refl 0 w').setCell (p := ⟨p, i, none⟩) (Nat.zero_le _) v
  exact ⟨hb.os.trans h.os, hb.tape.trans h.tape, hb.output.trans h.output, Nat.le_trans h.size hb.size, fun k hk h1 => (Below.heap_setCell w' ⟨p, i, none⟩ v k h1).trans (h.block k hk h1)⟩
theorem Ex.drew {p : Nat} {w w' : World} (h : Ex p w w') : Ex p w w'.drew := ⟨h.os, h.tape, h.output, h.size, h.block⟩
theorem Ex.drewN {p : Nat} {w w' : World} (h : Ex p w w') (n : Nat) : Ex p w (w'.drewN n) := ⟨h.os, h.tape, h.output, h.size, h.block⟩
theorem Ex.alloc {p : Nat} {w w' : World} (h : Ex p w w') (x : Obj) : Ex p w (w'.alloc x) := h.trans (Ex.of_below (bAl (bRefl w') _))
theorem Ex.from {p : Nat} {w w1 w' : World} (b : Below w.heap.size w w1) (h : Ex p w1 w') : Ex p w w' := (Ex.of_below b).trans h

/-- A readable row of bytes below B. -/
def SlBy (B : Nat) (w : World) (v : Value) (b : List Nat) : Prop :=
  ∃ a0 cap, v = .slice a0 b.length cap ∧ b.length ≤ cap ∧ cap ≤ maxLen ∧ ∀ (k x : Nat), b[k]? = some x → ∃ bb off, a0 = some ⟨bb, off, none⟩ ∧ bb < B ∧ x < 256 ∧ w.cell? ⟨bb, off + k, none⟩ = some (.int .u8 (x : Int))
theorem SlBy.below {B : Nat} {w w' : World} {v : Value} {l : List Nat} (h : SlBy B w v l) (b : Below B w w') : SlBy B w' v l := by
  obtain ⟨a0, cap, e, h1, h2, hc⟩ := h
  refine ⟨a0, cap, e, h1, h2, fun k x hx => ?_⟩
  obtain ⟨bb, off, h1, h2, h3, h4⟩ := hc k x hx
  exact ⟨bb, off, h1, h2, h3, (b.cell (p := ⟨bb, _, none⟩) h2).trans h4⟩
theorem SlBy.mono {B B' : Nat} {w : World} {v : Value} {l : List Nat} (h : SlBy B w v l) (hB : B ≤ B') : SlBy B' w v l := by
  obtain ⟨a0, cap, e, h1, h2, hc⟩ := h
  refine ⟨a0, cap, e, h1, h2, fun k x hx => ?_⟩
  obtain ⟨bb, off, h1, h2, h3⟩ := hc k x hx
  exact ⟨bb, off, h1, by omega, h3⟩

/-- A reader at p over the bytes b, at a. -/
structure Rdr (B p : Nat) (b : List Nat) (a : Nat) (w : World) (vb : Value) : Prop where
  blk : Blk w p 89 #[vb, .int .i64 (a : Int)]
  by' : SlBy B w vb b
  hp : B ≤ p
  at' : a ≤ b.length
  len : b.length ≤ 4194304

theorem Rdr.below {B p a : Nat} {b : List Nat} {w w' : World} {vb : Value} (h : Rdr B p b a w vb) (hb : Below w.heap.size w w') : Rdr B p b a w' vb :=
  ⟨h.blk.below hb h.blk.lt, h.by'.below ((Ex.of_below (p := p) hb).below h.hp (Nat.le_trans h.hp (Nat.le_of_lt h.blk.lt))), h.hp, h.at', h.len⟩
theorem Rdr.set_other {B p a : Nat} {b : List Nat} {w : World} {vb : Value} (h : Rdr B p b a w vb) {q i : Nat} (v : Value) (hq : q ≠ p) (hB : B ≤ q) : Rdr B p b a (w.setCell ⟨q, i, none⟩ v) vb :=
  ⟨h.blk.set_other q i v (fun e => hq e.symm), h.by'.below ((Below.refl B w).setCell (p := ⟨q, i, none⟩) hB v), h.hp, h.at', h.len⟩
theorem Ex.set_new {p q i : Nat} {w w' : World} (h : Ex p w w') (v : Value) (hq : w.heap.size ≤ q) : Ex p w (w'.setCell ⟨q, i, none⟩ v) := by
  have hb := (Below.refl 0 w').setCell (p := ⟨q, i, none⟩) (Nat.zero_le _) v
  exact ⟨hb.os.trans h.os, hb.tape.trans h.tape, hb.output.trans h.output, Nat.le_trans h.size hb.size, fun k hk h1 => (Below.heap_setCell w' ⟨q, i, none⟩ v k (by simp; omega)).trans (h.block k hk h1)⟩
theorem Rdr.lt {B p a : Nat} {b : List Nat} {w : World} {vb : Value} (h : Rdr B p b a w vb) : p < w.heap.size := h.blk.lt
theorem Rdr.drew {B p a : Nat} {b : List Nat} {w : World} {vb : Value} (h : Rdr B p b a w vb) : Rdr B p b a w.drew vb := h.below ⟨rfl, rfl, rfl, Nat.le_refl _, fun _ _ => rfl⟩

def stopV (a : Nat) (e : Int) : PanicEntry := { v := .iface 86 (.agg #[.int .i64 (a : Int), .int .i64 e]), recovered := false }
/-- What a reader's function leaves: a value and the reader further on; or it gave up. -/
def RP {α : Type} (B p : Nat) (b : List Nat) (vb : Value) (r : Except (Nat × Int) (α × Nat)) (out : α → Value → World → Prop) (w : World) (e : Ending) (w' : World) : Prop :=
  match r with
  | .ok (x, a) => ∃ v, e = .returned v ∧ out x v w' ∧ Rdr B p b a w' vb ∧ Ex p w w'
  | .error (a, er) => e = .panicked [stopV a er] ∧ Ex p w w'
section
variable {α : Type} {B p : Nat} {b : List Nat} {vb : Value} {r : Except (Nat × Int) (α × Nat)} {out : α → Value → World → Prop} {w w' : World} {e : Ending}
theorem RP.err (h : RP B p b vb r out w e w') {y : Nat} {er : Int} (hr : r = .error (y, er)) : e = .panicked [stopV y er] ∧ Ex p w w' := by subst hr; exact h
theorem RP.ok (h : RP B p b vb r out w e w') {x : α} {a : Nat} (hr : r = .ok (x, a)) : ∃ v, e = .returned v ∧ out x v w' ∧ Rdr B p b a w' vb ∧ Ex p w w' := by subst hr; exact h
theorem RP.mk_err {y : Nat} {er : Int} (hr : r = .error (y, er)) (hx : Ex p w w') : RP B p b vb r out w (.panicked [stopV y er]) w' := by subst hr; exact ⟨rfl, hx⟩
theorem RP.mk_ok {x : α} {a : Nat} {v : Value} (hr : r = .ok (x, a)) (ho : out x v w') (hd : Rdr B p b a w' vb) (hx : Ex p w w') : RP B p b vb r out w (.returned v) w' := by subst hr; exact ⟨v, rfl, ho, hd, hx⟩
theorem Rdr.byte_lt {a x m : Nat} (h : Rdr B p b a w vb) (hx : pByte b a = .ok (x, m)) : x < 256 ∧ m = a + 1 ∧ a < b.length := by
  unfold pByte at hx
  cases hb : b[a]? with
  | none => rw [hb] at hx; cases hx
  | some y =>
    rw [hb] at hx
    simp only [Except.ok.injEq, Prod.mk.injEq] at hx
    obtain ⟨rfl, rfl⟩ := hx
    obtain ⟨_, _, _, _, _, hc⟩ := h.by'
    obtain ⟨_, _, _, _, h3, _⟩ := hc a y hb
    exact ⟨h3, rfl, (List.getElem?_eq_some_iff.1 hb).1⟩
end
def isNat (x : Nat) (v : Value) (_ : World) : Prop := v = .int .i64 (x : Int)
def isInt (x : Int) (v : Value) (_ : World) : Prop := v = .int .i64 x

theorem giveup_ok (w : World) (q : Value) (a : Nat) (e : Int) : Calls Try.prog 54 #[q, .int .i64 (a : Int), .int .i64 e] w fun e' w' => e' = .panicked [stopV a e] ∧ w' = w := by
  go_enter Try.func54, Try.ntmps54
  go_wp2
  exact ⟨rfl, rfl, rfl⟩

theorem rbyte_ok (w : World) (B p a : Nat) (b : List Nat) (vb : Value) (h : Rdr B p b a w vb) :
    Calls Try.prog 79 #[.pointer (some ⟨p, 0, none⟩)] w (RP B p b vb (pByte b a) isNat w) := by
  have H := Lib.hid h
  obtain ⟨hblk, ⟨a0, cap, rfl, hc1, hc2, hcell⟩, hp, hat, hlen⟩ := h
  have c0 := hblk.cell 0
  have c1 := hblk.cell 1
  have f1 := hblk.frozen 1
  simp only [List.getElem?_toArray, List.getElem?_cons_zero, List.getElem?_cons_succ] at c0 c1
  have HC := Lib.hid hcell
  unfold maxLen at hc2
  clear hblk hcell
  cases hx : b[a]? with
  | none =>
    have hge : b.length ≤ a := by simpa using hx
    have hge' : (b.length : Int) ≤ (a : Int) := by omega
    have e1 : Hid (pByte b a = .error (b.length, 110)) := by show _ = _; unfold pByte; rw [hx]
    clear hx
    go_enter Try.func79, Try.ntmps79
    go_upto_region 1 with (fail)
    go_quiet (fail)
    go_wp2_with fail
    refine (giveup_ok _ _ b.length 110).mono ?_
    rintro e w1 ⟨rfl, rfl⟩
    go_wp2
    refine ⟨rfl, ?_⟩
    rw [e1.out]
    exact ⟨rfl, (Ex.refl p w).drewN _⟩
  | some x =>
    have hlt : a < b.length := (List.getElem?_eq_some_iff.1 hx).1
    have hlt' : ¬ (b.length : Int) ≤ (a : Int) := by omega
    obtain ⟨bb, off, rfl, hbb, hx256, hcx⟩ := HC.out a x hx
    have e1 : Hid (pByte b a = .ok (x, a + 1)) := by show _ = _; unfold pByte; rw [hx]
    have hw1 : IntKind.i64.wrap ((a : Int) + 1) = (a : Int) + 1 := IntWalk.i64_in _ (by omega)
    clear hx
    go_enter Try.func79, Try.ntmps79
    go_upto_region 1 with (fail)
    go_quiet (fail)
    go_upto_region 4 with (fail)
    generalize hV : (w.drewN nq).setCell ⟨p, 1, none⟩ (.int .i64 ((a : Int) + 1)) = V
    have xV : Ex p w V := by rw [← hV]; exact ((Ex.refl p w).drewN _).set _ _
    have qV : Rdr B p b (a + 1) V (.slice (some ⟨bb, off, none⟩) b.length cap) := by
      have hpl := H.out.lt
      refine ⟨?_, H.out.by'.below (xV.below hp (by omega)), hp, by omega, hlen⟩
      rw [← hV]
      exact (H.out.blk.drewN nq).set 1 _
    have c0 := qV.blk.cell 0
    have c1 := qV.blk.cell 1
    simp only [List.getElem?_toArray, List.getElem?_cons_zero, List.getElem?_cons_succ] at c0 c1
    have hcx := ((xV.below hp (by have := H.out.lt; omega)).cell (p := ⟨bb, off + a, none⟩) hbb).trans hcx
    have QV := Lib.hid qV
    have hwa : IntKind.i64.wrap (a : Int) = a := IntWalk.i64_in _ (by omega)
    clear hV qV f1
    go_quiet (fail)
    go_wp2
    go_ret
    rw [e1.out]
    exact ⟨_, rfl, rfl, QV.out.below ⟨rfl, rfl, rfl, Nat.le_refl _, fun _ _ => rfl⟩, xV.drewN _⟩
end Go.Proofs.Ytfdjdpbiccclfaa
