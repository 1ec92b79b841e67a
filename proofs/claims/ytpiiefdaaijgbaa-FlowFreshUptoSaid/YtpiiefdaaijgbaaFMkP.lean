/- What a list that Check takes is like; a finished flow, to be read. -/
import Derived.Test.YtpiiefdaaijgbaaFNest
import Derived.Test.YtpiiefdaaijgbaaFIdom
namespace Go.Fl
theorem chk_ok {l : List In} : ∀ {k : Nat}, k ≤ 4096 → (chk k l).2 = 0 → (∀ x ∈ l, right x = 0) ∧ k + l.length ≤ 4096 := by
  induction l with
  | nil => intro k hk _; exact ⟨fun x hx => (by cases hx), by simpa using hk⟩
  | cons x l ih =>
    intro k hk h
    unfold chk at h
    by_cases h1 : k = 4096
    · rw [if_pos h1] at h; simp at h
    · rw [if_neg h1] at h
      by_cases h2 : right x = 0
      · rw [if_pos h2] at h
        obtain ⟨h3, h4⟩ := ih (by omega) h
        refine ⟨fun y hy => ?_, by simp; omega⟩
        rcases List.mem_cons.1 hy with rfl | hy
        · exact h2
        · exact h3 y hy
      · rw [if_neg h2] at h; exact absurd h h2
theorem right_off {x : In} (h : right x = 0) : -32768 ≤ x.off ∧ x.off < 32768 := by
  unfold right at h
  split at h
  · cases h
  · split at h
    · cases h
    · split at h
      · cases h
      · rename_i h3
        simp only [Bool.or_eq_true, decide_eq_true_eq, not_or] at h3
        omega
theorem right_imm {x : In} (h : right x = 0) (h1 : x.op = 26) (h2 : x.nar = true) : -2147483648 ≤ x.imm ∧ x.imm ≤ 2147483647 := by
  unfold right at h
  split at h
  · cases h
  · split at h
    · cases h
    · split at h
      · cases h
      · split at h
        · cases h
        · rename_i h4
          have hu : uI x = true := by unfold uI; simp [h1, h2]
          have hf : immFits x = true := by
            cases hf : immFits x with
            | true => rfl
            | false => rw [hu, hf] at h4; simp at h4
          unfold immFits at hf
          rw [if_neg (by omega)] at hf
          split at hf
          · cases hf
          · omega
theorem G1.len {l : List In} (g : G1 l) : l.length ≤ 4096 := by have := (chk_ok (by omega) g.ck).2; omega
end Go.Fl
namespace Go.Proofs.Ytpiiefdaaijgbaa
open Go Go.RowKit Go.Wr Go.Fl

theorem SlX.re {α : Type} {R : RT Try.prog α} {p q : Nat} {w : World} {v : Value} {l : List α} (h : SlX R q w v l) (hp : w.heap.size ≤ p) : SlX R p w v l := by
  obtain ⟨a0, cap, e, h1, h2, hc⟩ := h
  exact ⟨a0, cap, e, h1, h2, fun k x hk => by
    obtain ⟨b, o, e1, e2, e3⟩ := hc k x hk
    exact ⟨b, o, e1, fun e => by have := e3.1; omega, e3⟩⟩
/-- A finished flow at p, to be read. -/
structure Fin (l : List In) (p : Nat) (ab : Option Addr) (cb b4 o4 b5 o5 c4 c5 : Nat) (va vo vr vl : Value) (bs : List Bk) (ss : List Sv) (E : List Lq) (d : Nat → Option Nat) (w : World) : Prop where
  blk : Blk w p 93 #[.slice ab (nB l) cb, va, vo, vr, .slice (some ⟨b4, o4, none⟩) (nB l) c4, .slice (some ⟨b5, o5, none⟩) (nB l) c5, vl]
  fw : Fw p l (.slice ab (nB l) cb) va vo bs ss w
  nd : Nd p (nB l) l (plc (dfsL (nxt l))) d ab cb va ss b4 o4 b5 o5 c4 c5 w
  ro : SlX tI p w vr (nI (dfsL (nxt l)).reverse)
  la : SlX tA p w vl (arL E fun i => parK l i (heads l).length)
  el : ∀ e ∈ E, SlX tI p w e.bl.v (nI (ins (lpB l e.hd) (nB l)))
  hd : E.map (·.hd) = heads l
  lo : p ≤ b4 ∧ p ≤ b5 ∧ Lo p vr ∧ Lo p vl ∧ ∀ e ∈ E, Lo p e.bl.v
theorem Fin.below {l : List In} {p : Nat} {ab : Option Addr} {cb b4 o4 b5 o5 c4 c5 : Nat} {va vo vr vl : Value} {bs : List Bk} {ss : List Sv} {E : List Lq} {d : Nat → Option Nat} {w w' : World} (h : Fin l p ab cb b4 o4 b5 o5 c4 c5 va vo vr vl bs ss E d w) (b : Below w.heap.size w w') : Fin l p ab cb b4 o4 b5 o5 c4 c5 va vo vr vl bs ss E d w' :=
  ⟨h.blk.below b h.blk.lt, h.fw.ex (Ex.of_below b), h.nd.ex (Ex.of_below b), h.ro.below b, h.la.below b, fun e he => (h.el e he).below b, h.hd, h.lo⟩
/-- A block ahead of the flow may be another one. -/
theorem Fin.old {l : List In} {p g : Nat} {ab : Option Addr} {cb b4 o4 b5 o5 c4 c5 : Nat} {va vo vr vl : Value} {bs : List Bk} {ss : List Sv} {E : List Lq} {d : Nat → Option Nat} {w w' : World} (h : Fin l p ab cb b4 o4 b5 o5 c4 c5 va vo vr vl bs ss E d w) (hg : g < p) (x : Ex g w w') : Fin l p ab cb b4 o4 b5 o5 c4 c5 va vo vr vl bs ss E d w' := by
  obtain ⟨l1, l2, l3, l4, l5⟩ := h.fw.lo
  obtain ⟨m1, m2, m3, m4, m5⟩ := h.lo
  refine ⟨x.blk h.blk (by omega), ⟨h.fw.lb, h.fw.sb.old l1 hg x, fun b k hk => ⟨(h.fw.nb b k hk).1, (h.fw.nb b k hk).2.1, (h.fw.nb b k hk).2.2.old (l4 k (List.mem_of_getElem? hk)) hg x⟩, h.fw.la, h.fw.sa.old l2 hg x, fun b s hs => (h.fw.na b s hs).old (l5 s (List.mem_of_getElem? hs)) hg x, h.fw.so.old l3 hg x, h.fw.lo⟩,
    ⟨h.nd.gr, h.nd.id, h.nd.sa.old l2 hg x, h.nd.ls, fun b s hs => (h.nd.na b s hs).old (l5 s (List.mem_of_getElem? hs)) hg x, fun b hb => (World.cell?_of_block (x.block b4 h.nd.n4.2 (by omega))).trans (h.nd.p4 b hb), fun b hb => (World.cell?_of_block (x.block b5 h.nd.n5.2 (by omega))).trans (h.nd.p5 b hb), ⟨h.nd.n4.1, Nat.lt_of_lt_of_le h.nd.n4.2 x.size⟩, ⟨h.nd.n5.1, Nat.lt_of_lt_of_le h.nd.n5.2 x.size⟩⟩,
    h.ro.old m3 hg x, h.la.old m4 hg x, fun e he => (h.el e he).old (m5 e he) hg x, h.hd, h.lo⟩
/-- What Make answers. -/
def MakeP (l : List In) (w : World) (e : Ending) (w' : World) : Prop :=
  Below w.heap.size w w' ∧ ((e = .returned (.tuple #[.pointer none, .int .i64 (mkE l).1, .int .i64 (mkE l).2]) ∧ (mkE l).2 ≠ 0) ∨
    (G7 l ∧ ∃ p ab cb b4 o4 b5 o5 c4 c5 va vo vr vl bs ss E d, e = .returned (.tuple #[.pointer (some ⟨p, 0, none⟩), .int .i64 0, .int .i64 0]) ∧ w.heap.size ≤ p ∧ Fin l p ab cb b4 o4 b5 o5 c4 c5 va vo vr vl bs ss E d w'))
theorem MakeP.no {l : List In} {w w' : World} {at' : Nat} {c : Int} (h : mkE l = (at', c)) (hc : c ≠ 0) (hb : Below w.heap.size w w') (x y : Int) (hx : x = (at' : Int)) (hy : y = c) : MakeP l w (.returned (.tuple #[.pointer none, .int .i64 x, .int .i64 y])) w' := by
  subst hx hy
  exact ⟨hb, Or.inl ⟨by rw [h], by rw [h]; exact hc⟩⟩
end Go.Proofs.Ytpiiefdaaijgbaa
