/- Bound of zone, and the law's same: two lists of bounds compared; nothing that was there is turned. -/
import Derived.Test.YtfpbjjdlchplnaaRCons
namespace Go.Proofs.YtfpbjjdlchplnaaR
open Go Go.RowKit Go.Wr
set_option maxHeartbeats 1000000
set_option maxRecDepth 10000

def cnEq (x y : Cn) : Bool := x.i == y.i && (x.j == y.j && x.c == y.c)
def eqL : List Cn → List Cn → Bool
  | [], [] => true
  | x :: r, y :: s => cnEq x y && eqL r s
  | _, _ => false

theorem cnEq_iff {x y : Cn} : cnEq x y = true ↔ x = y := by
  obtain ⟨a, b, c⟩ := x
  obtain ⟨d, e, f⟩ := y
  simp [cnEq]

theorem eqL_iff : ∀ {l s : List Cn}, eqL l s = true ↔ l = s
  | [], [] => by simp [eqL]
  | [], _ :: _ => by simp [eqL]
  | _ :: _, [] => by simp [eqL]
  | x :: r, y :: s => by simp [eqL, cnEq_iff, eqL_iff]

theorem eqL_len {l s : List Cn} (h : l.length ≠ s.length) : eqL l s = false := by
  cases hq : eqL l s with
  | false => rfl
  | true => rw [eqL_iff] at hq; subst hq; exact absurd rfl h

theorem eqL_drop {l s : List Cn} {k : Nat} {x y : Cn} (h : l[k]? = some x) (h' : s[k]? = some y) : eqL (l.drop k) (s.drop k) = (cnEq x y && eqL (l.drop (k + 1)) (s.drop (k + 1))) := by
  obtain ⟨hk, rfl⟩ := List.getElem?_eq_some_iff.1 h
  obtain ⟨hk', rfl⟩ := List.getElem?_eq_some_iff.1 h'
  rw [List.drop_eq_getElem_cons hk, List.drop_eq_getElem_cons hk']
  rfl

/-- The cells of a slice's element in a later world. -/
theorem Sl3.at {w w' : World} {a0 : Option Addr} {l : List Cn} (hc : ∀ k x, l[k]? = some x → ∃ b off, a0 = some ⟨b, off, none⟩ ∧ w.cell? ⟨b, off + k * 3, none⟩ = some (.int .i64 x.i) ∧ w.cell? ⟨b, off + k * 3 + 1, none⟩ = some (.int .i64 x.j) ∧ w.cell? ⟨b, off + k * 3 + 2, none⟩ = some (.int .i64 x.c))
    (hb : Below w.heap.size w w') {k : Nat} (hk : k < l.length) : ∃ b off xi xj xc, l[k]? = some ⟨xi, xj, xc⟩ ∧ a0 = some ⟨b, off, none⟩ ∧ b < w.heap.size ∧ w'.cell? ⟨b, off + k * 3, none⟩ = some (.int .i64 xi) ∧ w'.cell? ⟨b, off + k * 3 + 1, none⟩ = some (.int .i64 xj) ∧ w'.cell? ⟨b, off + k * 3 + 2, none⟩ = some (.int .i64 xc) := by
  obtain ⟨⟨xi, xj, xc⟩, hx⟩ : ∃ x, l[k]? = some x := ⟨_, List.getElem?_eq_getElem hk⟩
  obtain ⟨b, off, rfl, h0, h1, h2⟩ := hc k _ hx
  have hblt := World.block_lt_of_cell? w _ h0
  exact ⟨b, off, xi, xj, xc, hx, rfl, hblt, (hb.cell hblt).trans h0, (hb.cell (p := ⟨b, off + k * 3 + 1, none⟩) hblt).trans h1, (hb.cell (p := ⟨b, off + k * 3 + 2, none⟩) hblt).trans h2⟩

theorem belowN {B : Nat} {a w : World} (h : Below B a w) {n : Nat} : Below B a (w.drewN n) := ⟨h.os, h.tape, h.output, h.size, h.block⟩

theorem same_any (w : World) (v u : Value) (l s : List Cn) (hv : Sl3 w v l) (hu : Sl3 w u s) :
    Calls Try.prog 28 #[v, u] w fun e w' => e = .returned (.bool (eqL l s)) ∧ Below w.heap.size w w' := by
  obtain ⟨a0, cap, rfl, hl, hc⟩ := hv
  obtain ⟨a1, cap1, rfl, hl1, hc1⟩ := hu
  have Hc := Lib.hid hc
  have Hc1 := Lib.hid hc1
  clear hc hc1
  by_cases hlen : l.length = s.length
  · have hq : ((l.length : Int) != (s.length : Int)) = false := by rw [bne_eq_false_iff_eq]; omega
    have Hlen := Lib.hid hlen
    clear hlen
    go_enter Try.func28, Try.ntmps28
    go_wp2
    go_loopw [5] (fun t wr => ∃ k : Nat, k ≤ s.length ∧ t = .int .i64 k ∧ Hid (eqL l s = eqL (l.drop k) (s.drop k)) ∧ Below w.heap.size w wr) (fun t _ => s.length - (intOf t).toNat)
    case atStart => exact ⟨0, by omega, rfl, rfl, Below.refl _ _⟩
    case round =>
      obtain ⟨k, hk, rfl, hw, hbel⟩ := hrel
      by_cases hlt : k < s.length
      · have hltl : k < l.length := by have := Hlen.out; omega
        obtain ⟨b, off, xi, xj, xc, hx, rfl, hbl, h0, h1, h2⟩ := Sl3.at Hc.out hbel hltl
        obtain ⟨b', off', yi, yj, yc, hy, rfl, hbl', k0, k1, k2⟩ := Sl3.at Hc1.out hbel hlt
        have Hd := Lib.hid (eqL_drop hx hy)
        clear hx hy
        have hklt : (k : Int) < (l.length : Int) := by omega
        have hklt' : (k : Int) < (s.length : Int) := by omega
        cases qi : (xi != yi) with
        | true =>
          go_wp2
          go_quiet (fail)
          go_wp2
          go_ret
          refine ⟨?_, belowN hbel⟩
          rw [hw.out, Hd.out, show cnEq ⟨xi, xj, xc⟩ ⟨yi, yj, yc⟩ = false by simp only [cnEq]; simp at qi; simp [qi]]
          rfl
        | false =>
          cases qj : (xj != yj) with
          | true =>
            go_wp2
            go_quiet (fail)
            go_wp2
            go_ret
            refine ⟨?_, belowN hbel⟩
            rw [hw.out, Hd.out, show cnEq ⟨xi, xj, xc⟩ ⟨yi, yj, yc⟩ = false by simp only [cnEq]; simp at qj; simp [qj]]
            rfl
          | false =>
            cases qc : (xc != yc) with
            | true =>
              go_wp2
              go_quiet (fail)
              go_wp2
              go_ret
              refine ⟨?_, belowN hbel⟩
              rw [hw.out, Hd.out, show cnEq ⟨xi, xj, xc⟩ ⟨yi, yj, yc⟩ = false by simp only [cnEq]; simp at qc; simp [qc]]
              rfl
            | false =>
              go_wp2
              go_quiet (fail)
              go_wp2
              go_roundw
              case rel =>
                refine ⟨k + 1, by omega, by go_num, ?_, belowN hbel⟩
                show _ = _
                rw [hw.out, Hd.out, show cnEq ⟨xi, xj, xc⟩ ⟨yi, yj, yc⟩ = true by simp only [cnEq]; simp at qi qj qc; simp [qi, qj, qc]]
                rfl
              case measure => simp [intOf]; omega
      · obtain rfl : k = s.length := by omega
        have hkl : l.drop s.length = [] := by rw [← Hlen.out]; exact List.drop_length
        have Hkl := Lib.hid hkl
        clear hkl
        go_wp2
        go_ret
        refine ⟨?_, hbel⟩
        rw [hw.out, List.drop_length, Hkl.out]
        rfl
  · have hq : ((l.length : Int) != (s.length : Int)) = true := by rw [bne_iff_ne]; omega
    rw [eqL_len hlen]
    go_enter Try.func28, Try.ntmps28
    go_wp2
    go_ret
    exact ⟨rfl, Below.refl _ _⟩

end Go.Proofs.YtfpbjjdlchplnaaR
