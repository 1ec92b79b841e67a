/- The document's number, written behind bytes; pieces as bytes. -/
import Derived.Test.YtfdjdpbiccclfaaDEh
namespace Go.Proofs.Ytfdjdpbiccclfaa
open Go Go.RowKit Go.Wr
set_option maxHeartbeats 4000000
set_option maxRecDepth 100000

/-- A row of bytes of its own. -/
def OwY (B : Nat) (w : World) (v : Value) (l : List Nat) : Prop := w.ownsRow B 5 1 v l.length (bcells l)
theorem OwY.alloc {B : Nat} {w : World} {v : Value} {l : List Nat} (h : OwY B w v l) (o : Obj) : OwY B (w.alloc o) v l := World.ownsRow.alloc h o
theorem bcells_one (l : List Nat) : ∀ u ∈ bcells l, u.oneCell' = true := fun u hu => by
  simp only [bcells, List.mem_map] at hu
  obtain ⟨x, _, rfl⟩ := hu
  rfl
/-- Bytes are put behind a row of its own. -/
theorem wpl_bytes {ops : Array Oper} {rest : List Oper} {op : Oper} {a : Act} {w : World} {Q : Exit → Act → World → Prop} (hgd : op.guard = none) (s x : Operand)
    (ho : op.op = .call { callee := .builtin .append, args := #[s, x], argTypes := #[28, 28] })
    (B : Nat) (v : Value) (l : List Nat) (hs : a.eval s = v) (hown : OwY B w v l)
    (g n c : Nat) (m : List Nat) (hx : a.eval x = .slice (some ⟨g, 0, none⟩) n c) (hn : n = m.length) (hnews : ∀ j u, (bcells m)[j]? = some u → w.cell? ⟨g, j, none⟩ = some u)
    (hl : l.length + m.length ≤ 1099511627776) (hB : B ≤ w.heap.size)
    (h : ∀ v' w', OwY B w' v' (l ++ m) → Ft 5 B w w' → wpList Try.prog ops Q rest (a.put op.dst v') w') : wpList Try.prog ops Q (op :: rest) a w := by
  obtain ⟨i, hi, hz0, hz1, hz2⟩ := info_parts infoU8
  subst hn
  refine wpList_append_own w hgd s x _ ho B 5 i _ 1 1 Try.underlying28 hi hz0 hz1 hz2 rfl (by omega) v l.length (bcells l) hs hown ⟨g, 0, none⟩ m.length c (bcells m) hx (by rw [bcells_len, Nat.mul_one]) (fun j u hj => by rw [Addr.add_lit, Nat.zero_add]; exact hnews j u hj) (bcells_one m) (by unfold maxLen; omega) (by omega) hB ?_
  intro v' w' h1 h2 _
  refine h v' w' ?_ (Ft.grown hown h2)
  unfold OwY
  rw [bcells_app, List.length_append]
  exact h1
def PuY (B : Nat) (w : World) (l : List Nat) (e : Ending) (w' : World) : Prop := Ft 5 B w w' ∧ ∃ v, e = .returned v ∧ OwY B w' v l

theorem refnum_ok (w : World) (B : Nat) (v : Value) (l : List Nat) (h : OwY B w v l) (hB : B ≤ w.heap.size) (x : Nat) (hx : x < 9223372036854775808) (hl : l.length ≤ 1099511627000) :
    Calls Try.prog 35 #[v, .int .i64 (x : Int)] w (PuY B w (l ++ leb 9 x)) := by
  have H := Lib.hid h
  clear h
  obtain ⟨R, hR⟩ : ∃ R, R = l ++ leb 9 x := ⟨_, rfl⟩
  rw [← hR]
  have HR := Lib.hid hR
  clear hR
  go_enter Try.func35, Try.ntmps35
  go_wp2
  go_loopw [0, 1] (fun u t wr => ∃ k y : Nat, ∃ l' : List Nat, k ≤ 9 ∧ t = .int .i64 (y : Int) ∧ y < 2 ^ (7 * k) ∧ R = l' ++ leb k y ∧ l'.length ≤ l.length + 9 - k ∧ OwY B wr u l' ∧ Ft 5 B w wr) (fun _ t _ => (intOf t).toNat)
  case atStart => exact ⟨9, x, l, by omega, rfl, by omega, HR.out, by omega, H.out, Ft.refl _ _ _⟩
  case round =>
    obtain ⟨k, y, l', hk, rfl, hy, hle, hll, how, hfr⟩ := hrel
    have hy63 : y < 9223372036854775808 := by
      have : 2 ^ (7 * k) ≤ 2 ^ 63 := Nat.pow_le_pow_right (by omega) (by omega)
      omega
    have HF := Lib.hid hfr
    have H' := Lib.hid how
    have HL := Lib.hid hle
    have HY := Lib.hid hy
    have hB' : B ≤ wr.heap.size := Nat.le_trans hB hfr.size
    clear hfr how hle hy H
    by_cases hlt : 127 < y
    · have hlt' : (127 : Int) < (y : Int) := by omega
      have hor : bcells [y % 128 + 128] = [.int .u8 ((y : Int) % 128 + 128)] := by
        show [Value.int .u8 (Int.ofNat (y % 128 + 128))] = _
        congr 2
      have HO := Lib.hid hor
      clear hor
      go_upto_region 3 with (at_builtin; refine wpl_bytes rfl _ _ rfl B u0 l' rfl (H'.out.alloc _) _ _ _ [y % 128 + 128] rfl rfl (newsAt rfl HO.out.symm) (by simp; omega) (by simp; omega) ?_; intro v1 w1 ho1 hb1)
      have H1 := Lib.hid ho1
      have HF1 := Lib.hid (HF.out.trans (((Ft.refl _ B wr).alloc _).trans hb1))
      clear ho1 hb1 H' HF HO
      go_wp2
      have hy := HY.out
      have hle := HL.out
      obtain ⟨k', rfl⟩ : ∃ k', k = k' + 1 := ⟨k - 1, by
        cases k with
        | zero => simp at hy; omega
        | succ n => omega⟩
      have e : leb (k' + 1) y = (y % 128 + 128) :: leb k' (y / 128) := by
        show (if y < 128 then [y] else (y % 128 + 128) :: leb k' (y / 128)) = _
        rw [if_neg (by omega)]
      have hp : 2 ^ (7 * (k' + 1)) = 2 ^ (7 * k') * 128 := by rw [show 7 * (k' + 1) = 7 * k' + 7 by omega, Nat.pow_add]
      rw [hp] at hy
      go_roundw
      case rel => exact ⟨k', y / 128, l' ++ [y % 128 + 128], by omega, by first | rfl | simp, Nat.div_lt_of_lt_mul (by omega), by rw [hle, e]; simp, by simp; omega, H1.out, HF1.out⟩
      case measure =>
        have : y / 128 < y := Nat.div_lt_self (by omega) (by omega)
        simp only [intOf]
        omega
    · have hlt' : ¬ (127 : Int) < (y : Int) := by omega
      have hwr : IntKind.u8.wrap (y : Int) = y := IntWalk.u8_in _ (by omega)
      go_wp2_with (at_builtin; refine wpl_bytes rfl _ _ rfl B u0 l' rfl (H'.out.alloc _) _ _ _ [y] rfl rfl (newsAt rfl rfl) (by simp; omega) (by simp; omega) ?_; intro v1 w1 ho1 hb1)
      go_ret
      have e : leb k y = [y] := by
        cases k with
        | zero => show [y % 128] = [y]; rw [Nat.mod_eq_of_lt (by omega)]
        | succ k => show (if y < 128 then [y] else _) = [y]; rw [if_pos (by omega)]
      refine ⟨HF.out.trans (((Ft.refl _ B wr).alloc _).trans hb1), v1, rfl, ?_⟩
      rw [HL.out, e]
      exact ho1
end Go.Proofs.Ytfdjdpbiccclfaa
