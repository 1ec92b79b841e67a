/- The writer of deed: byte, number, signed, tag. -/
import Derived.Test.YtfdjdpbiccclfaaDMem
import Derived.Test.YtfdjdpbiccclfaaDCells
namespace Go.Proofs.Ytfdjdpbiccclfaa
open Go Go.RowKit Go.Wr
set_option maxHeartbeats 1000000
set_option maxRecDepth 100000

theorem infoU8 : (Try.prog.info? 5).map (fun i => (i.zero, i.size, i.bytes)) = some (some (.int .u8 0), 1, 1) := by kernel_rfl

theorem one_news {w : World} {x : Nat} : ∀ (j : Nat) (u : Value), (bcells [x])[j]? = some u → (w.alloc (.cells #[.int .u8 (x : Int)] 5)).cell? ((⟨w.heap.size, 0, none⟩ : Addr).add j) = some u := fun j u hj => by
  match j, hj with
  | 0, hj =>
    simp only [bcells, List.map_cons, List.map_nil, List.getElem?_cons_zero, Option.some.injEq] at hj
    subst hj
    exact (Blk.new w 5 #[.int .u8 (x : Int)]).cell 0
  | (j + 1), hj => simp [bcells] at hj

/-- 'w.b = append(w.b, ..)': the append. -/
theorem wpl_wput {ops : Array Oper} {rest : List Oper} {op : Oper} {a : Act} {Q : Exit → Act → World → Prop} {w w1 : World} (hgd : op.guard = none) (s x : Operand)
    (ho : op.op = .call { callee := .builtin .append, args := #[s, x], argTypes := #[28, 28] }) {B p : Nat} {l : List Nat} (h : Wt B p w l) {o cap : Nat} (hc : w.cell? ⟨p, 0, none⟩ = some (.slice (some ⟨o, 0, none⟩) l.length cap))
    (hb : Below w.heap.size w w1) (hB : B ≤ w.heap.size) (hs : a.eval s = .slice (some ⟨o, 0, none⟩) l.length cap) (k : List Nat) (ad : Addr) (c : Nat) (hx : a.eval x = .slice (some ad) k.length c)
    (hnews : ∀ (j : Nat) (u : Value), (bcells k)[j]? = some u → w1.cell? (ad.add j) = some u) (hl : l.length + k.length ≤ 140737488355328) (hkn : k ≠ [])
    (hq : ∀ (g c' : Nat) (v' : Value) (w' : World), v' = .slice (some ⟨g, 0, none⟩) (l.length + k.length) c' → w'.cell? ⟨p, 0, none⟩ = some (.slice (some ⟨o, 0, none⟩) l.length cap) → w'.frozen? ⟨p, 0, none⟩ = false → Hid (Wt B p (w'.setCell ⟨p, 0, none⟩ v') (l ++ k) ∧ Fr B p w (w'.setCell ⟨p, 0, none⟩ v')) → wpList Try.prog ops Q rest (a.put op.dst v') w') : wpList Try.prog ops Q (op :: rest) a w1 := by
  obtain ⟨i, hi, hz0, hz1, hz2⟩ := info_parts infoU8
  obtain ⟨o', cap', hc', hown⟩ := h.cell
  have e := hc'.symm.trans hc
  simp only [Option.some.injEq, Value.slice.injEq, Addr.mk.injEq, and_true, true_and] at e
  obtain ⟨rfl, rfl⟩ := e
  have hnl : (bcells k).length = k.length * 1 := by rw [bcells_len, Nat.mul_one]
  have hone : ∀ u ∈ bcells k, u.oneCell' = true := fun u hu => by
    obtain ⟨n, _, rfl⟩ := List.mem_map.1 hu
    rfl
  have hml : l.length + k.length ≤ maxLen := by unfold maxLen; omega
  have hp : p ≠ o' := by
    obtain ⟨o2, cap2, cur2, fz2, k1, k2, _⟩ := h
    have e0 := (k1.cell 0).symm.trans hc
    simp only [List.getElem?_toArray, List.getElem?_cons_zero, Option.some.injEq, Value.slice.injEq, Addr.mk.injEq, and_true, true_and] at e0
    obtain ⟨rfl, _⟩ := e0
    exact blk_neF k1 k2 (by decide)
  have hpl := h.lt.1
  have fin : ∀ (v' : Value) (w' : World), w'.ownsRow B 5 1 v' (l.length + k.length) (bcells l ++ bcells k) → w1.grownBy w' (Value.slice (some ⟨o', 0, none⟩) l.length cap').ownBlock → v' ≠ .slice none 0 0 → wpList Try.prog ops Q rest (a.put op.dst v') w' := fun v' w' ho' hg hn => by
    have ep : w'.heap[p]? = w.heap[p]? := (hg.block p (by have := hb.size; omega) (fun e => hp (by injection e))).trans (hb.block p hpl)
    obtain ⟨g, c', ev⟩ : ∃ g c', v' = .slice (some ⟨g, 0, none⟩) (l.length + k.length) c' := by
      rcases ho'.2 with ⟨e, _⟩ | ⟨g, c', _, e, _⟩
      · exact absurd e hn
      · exact ⟨g, c', e⟩
    refine hq g c' v' w' ev ((World.cell?_of_block (a := ⟨p, 0, none⟩) ep).trans hc) ((World.frozen?_of_block (a := ⟨p, 0, none⟩) ep).trans h.frozen) ?_
    exact h.grown hc rfl hb ho' hg hn
  rcases hown with hown | ⟨e1, e2, cur, fz, k2, k3⟩
  · have hown1 : w1.ownsRow B 5 1 (.slice (some ⟨o', 0, none⟩) l.length cap') l.length (bcells l) := by
      refine ⟨hown.1, ?_⟩
      rcases hown.2 with h | ⟨g', cap, cur, e, hg, hh, r⟩
      · exact Or.inl h
      · have hb' : Blk w g' 5 cur := hh
        exact Or.inr ⟨g', cap, cur, e, hg, (hb.block g' hb'.lt).trans hh, r⟩
    refine wpList_append_own w1 hgd s x 28 ho B 5 i _ 1 1 Try.underlying28 hi hz0 hz1 hz2 rfl (by omega) _ l.length (bcells l) hs hown1 ad k.length c (bcells k) hx hnl hnews hone hml (by omega) (Nat.le_trans hB hb.size) ?_
    intro v' w' ho' hg hn
    exact fin v' w' ho' hg (fun e => by have := (hn.1 e).1; cases this)
  · have hk2 : w1.heap[o']? = some (.cells cur 5 fz) := (hb.block o' (lt_of_heap k2)).trans k2
    have hol : ∀ b, some (⟨o', 0, none⟩ : Addr) = some b → ∀ (j : Nat) (u : Value), (bcells l)[j]? = some u → w1.cell? (b.add j) = some u := fun b eb j u hj => by
      injection eb with eb
      subst eb
      rw [Addr.add_mid, Nat.zero_add, cell_of_any hk2]
      rw [← k3] at hj
      rw [List.getElem?_take] at hj
      split at hj
      · rw [← hj, Array.getElem?_toList]
      · cases hj
    by_cases hk0 : k.length = 0
    · have hk : k = [] := List.eq_nil_of_length_eq_zero hk0
      subst hk
      exact absurd rfl hkn
    · refine wpList_append_grows w1 hgd s x 28 ho 5 i _ 1 1 Try.underlying28 hi hz0 hz1 hz2 rfl (by omega) (some ⟨o', 0, none⟩) l.length cap' (bcells l) hs (fun e => by cases e) (by rw [bcells_len, Nat.mul_one]) hol ad k.length c (bcells k) hx hnl hnews hone (by omega) hml (by omega) ?_
      intro v' w' ho' hg
      have hsz := hb.size
      refine fin v' w' ⟨ho'.1, ?_⟩ ⟨hg.os, hg.tape, hg.output, hg.size, fun i hi _ => hg.block i hi (by simp)⟩ ?_
      · rcases ho'.2 with ⟨_, h0⟩ | ⟨g, c', cur, e, hge, r⟩
        · omega
        · exact Or.inr ⟨g, c', cur, e, by omega, r⟩
      · rcases ho'.2 with ⟨_, h0⟩ | ⟨g, c', cur, e, hge, r⟩
        · omega
        · rw [e]; intro h; cases h

theorem wbyte_ok (w : World) (B p : Nat) (l : List Nat) (h : Wt B p w l) (hB : B ≤ w.heap.size) (x : Nat) (hx : x < 256) (hl : l.length ≤ 1099511627776) :
    Calls Try.prog 49 #[.pointer (some ⟨p, 0, none⟩), .int .i64 (x : Int)] w (WrP B p w (l ++ [x])) := by
  obtain ⟨o, cap, hc, _⟩ := h.cell
  have H := Lib.hid h
  have hwr : IntKind.u8.wrap (x : Int) = x := IntWalk.u8_in _ (by omega)
  have HC := Lib.hid hc
  clear h
  go_enter Try.func49, Try.ntmps49
  go_wp2_with (refine wpl_wput rfl _ _ rfl H.out HC.out (bAl (bRefl w) _) hB rfl [x] ⟨w.heap.size, 0, none⟩ 1 rfl one_news (by simp; omega) (by simp) ?_; clear hc; intro g c' v' w' ev hc hfz hf; subst ev)
  go_end0
  exact ⟨rfl, hf.out⟩

theorem or128 : ∀ z : Fin 256, bits BinOp.or IntKind.u8 ((z.val : Nat) : Int) 128 = ((z.val % 128 + 128 : Nat) : Int) := by decide +kernel
theorem or128_of (y : Nat) : bits BinOp.or IntKind.u8 ((y : Int) % 256) 128 = ((y % 128 + 128 : Nat) : Int) := by
  have h := or128 ⟨y % 256, Nat.mod_lt _ (by omega)⟩
  simp only at h
  rw [Nat.mod_mod_of_dvd y (show 128 ∣ 256 by decide)] at h
  rw [← h]
  rfl

/-- A number in groups of seven bits, k of them at most. -/
def leb : Nat → Nat → List Nat
  | 0, x => [x % 128]
  | k + 1, x => if x < 128 then [x] else (x % 128 + 128) :: leb k (x / 128)

theorem wnumber_ok (w : World) (B p : Nat) (l : List Nat) (h : Wt B p w l) (hB : B ≤ w.heap.size) (x : Nat) (hx : x < 9223372036854775808) (hl : l.length ≤ 1099511627000) :
    Calls Try.prog 30 #[.pointer (some ⟨p, 0, none⟩), .int .u64 (x : Int)] w (WrP B p w (l ++ leb 9 x)) := by
  have H := Lib.hid h
  clear h
  go_enter Try.func30, Try.ntmps30
  go_wp2
  go_loopw [1] (fun t wr => ∃ k y : Nat, ∃ l' : List Nat, k ≤ 9 ∧ t = .int .u64 (y : Int) ∧ y < 2 ^ (7 * k) ∧ l ++ leb 9 x = l' ++ leb k y ∧ l'.length ≤ l.length + 9 - k ∧ Wt B p wr l' ∧ Fr B p w wr) (fun t _ => (intOf t).toNat)
  case atStart => exact ⟨9, x, l, by omega, rfl, by omega, rfl, by omega, H.out, Fr.refl _ _ _⟩
  case round =>
    obtain ⟨k, y, l', hk, rfl, hy, hle, hll, hwt, hfr⟩ := hrel
    have HF := Lib.hid hfr
    have H' := Lib.hid hwt
    have HL := Lib.hid hle
    have HY := Lib.hid hy
    obtain ⟨o, cap, hc, _⟩ := hwt.cell
    have HC := Lib.hid hc
    have hB' : B ≤ wr.heap.size := Nat.le_trans hB hfr.size
    clear hfr hwt hle hy
    by_cases hlt : y < 128
    · have hlt' : (y : Int) < 128 := by omega
      have hwr : IntKind.u8.wrap (y : Int) = y := IntWalk.u8_in _ (by omega)
      go_wp2_with (refine wpl_wput rfl _ _ rfl H'.out HC.out (bAl (bRefl wr) _) hB' rfl [y] ⟨wr.heap.size, 0, none⟩ 1 rfl one_news (by simp; omega) (by simp) ?_; clear hc; intro g c' v' w' ev hc hfz hf; subst ev)
      go_end0
      have e : leb k y = [y] := by
        cases k with
        | zero => show [y % 128] = [y]; rw [Nat.mod_eq_of_lt hlt]
        | succ k => show (if y < 128 then [y] else _) = [y]; rw [if_pos hlt]
      refine ⟨rfl, ?_, HF.out.trans hf.out.2⟩
      rw [HL.out, e]
      exact hf.out.1
    · have hlt' : ¬ (y : Int) < 128 := by omega
      obtain ⟨z, hz⟩ : ∃ z, z = y % 128 + 128 := ⟨_, rfl⟩
      have hor := or128_of y
      rw [← hz] at hor
      have HZ := Lib.hid hz
      clear hz
      go_wp2_with (refine wpl_wput rfl _ _ rfl H'.out HC.out (bAl (bRefl wr) _) hB' rfl [z] ⟨wr.heap.size, 0, none⟩ 1 rfl one_news (by simp; omega) (by simp) ?_; clear hc; intro g c' v' w' ev hc hfz hf; subst ev)
      have hy := HY.out
      have hle := HL.out
      have hz := HZ.out
      obtain ⟨k', rfl⟩ : ∃ k', k = k' + 1 := ⟨k - 1, by
        cases k with
        | zero => simp at hy; omega
        | succ n => omega⟩
      have e : leb (k' + 1) y = z :: leb k' (y / 128) := by
        show (if y < 128 then [y] else (y % 128 + 128) :: leb k' (y / 128)) = _
        rw [if_neg hlt, hz]
      have hp : 2 ^ (7 * (k' + 1)) = 2 ^ (7 * k') * 128 := by rw [show 7 * (k' + 1) = 7 * k' + 7 by omega, Nat.pow_add]
      rw [hp] at hy
      refine ⟨⟨k', y / 128, l' ++ [z], by omega, rfl, Nat.div_lt_of_lt_mul (by omega), by rw [hle, e]; simp, by simp; omega, hf.out.1, HF.out.trans hf.out.2⟩, ?_⟩
      have : y / 128 < y := Nat.div_lt_self (by omega) (by omega)
      simp only [intOf]
      omega

/-- A signed number as one that is none: twice it, or what lies between. -/
def sg (x : Int) : Nat := (if 0 ≤ x then 2 * x else -2 * x - 1).toNat
theorem sign_bits (x : Int) (h : -1099511627776 ≤ x ∧ x ≤ 1099511627776) : bits BinOp.xor .u64 (IntKind.u64.wrap (x * 2)) (IntKind.u64.wrap (x / 9223372036854775808)) = (sg x : Int) := by
  rw [IntKind.wrap_u64, IntKind.wrap_u64]
  by_cases h0 : 0 ≤ x
  · obtain ⟨n, rfl⟩ := Int.eq_ofNat_of_zero_le h0
    have e1 : ((n : Int) * 2) % 18446744073709551616 = ((n * 2 : Nat) : Int) := by omega
    have e2 : ((n : Int) / 9223372036854775808) % 18446744073709551616 = ((0 : Nat) : Int) := by omega
    rw [e1, e2, bits_xor_u64_nat _ _ (by omega) (by omega), Nat.xor_zero]
    unfold sg
    rw [if_pos h0]
    omega
  · obtain ⟨n, hn⟩ : ∃ n : Nat, x = -(n : Int) := ⟨(-x).toNat, by omega⟩
    subst hn
    have e1 : (-(n : Int) * 2) % 18446744073709551616 = ((18446744073709551616 - 2 * n : Nat) : Int) := by omega
    have e2 : (-(n : Int) / 9223372036854775808) % 18446744073709551616 = 18446744073709551615 := by omega
    rw [e1, e2]
    have h2 : BitVec.ofInt 64 18446744073709551615 = BitVec.allOnes 64 := by decide
    show IntKind.u64.wrap ((BitVec.ofInt 64 ((18446744073709551616 - 2 * n : Nat) : Int) ^^^ BitVec.ofInt 64 18446744073709551615).toNat : Int) = _
    rw [h2, BitVec.xor_allOnes, BitVec.toNat_not, BitVec.ofInt_natCast, BitVec.toNat_ofNat, IntKind.wrap_u64]
    unfold sg
    rw [if_neg h0]
    have e3 : (18446744073709551616 - 2 * n) % 2 ^ 64 = 18446744073709551616 - 2 * n := Nat.mod_eq_of_lt (by omega)
    rw [e3]
    omega

theorem sg_lt {x : Int} (h : -1099511627776 ≤ x ∧ x ≤ 1099511627776) : sg x ≤ 2199023255552 := by
  unfold sg
  split <;> omega

theorem wsigned_ok (w : World) (B p : Nat) (l : List Nat) (h : Wt B p w l) (hB : B ≤ w.heap.size) (x : Int) (hx : -1099511627776 ≤ x ∧ x ≤ 1099511627776) (hl : l.length ≤ 1099511627000) :
    Calls Try.prog 31 #[.pointer (some ⟨p, 0, none⟩), .int .i64 x] w (WrP B p w (l ++ leb 9 (sg x))) := by
  have H := Lib.hid h
  have hs := sign_bits x hx
  have hlt := sg_lt hx
  clear h
  go_enter Try.func31, Try.ntmps31
  go_wp2_with fail
  refine (wnumber_ok w B p l H.out hB (sg x) (by omega) hl).mono ?_
  rintro e w1 ⟨rfl, hw, hf⟩
  go_wp2
  go_end0
  exact ⟨rfl, hw, hf⟩

theorem isrow_ok (w : World) (k : Int) : Calls Try.prog 71 #[.int .i64 k] w fun e w' => e = .returned (.bool (k == 5 || k == 6)) ∧ w' = w := by
  go_enter Try.func71, Try.ntmps71
  go_wp2
  all_goals
    go_ret
    exact ⟨by first | rfl | (simp; done) | (simp_all; done), rfl⟩

def tagB (t : Tg) (slot : Bool) : List Nat := t.k.toNat :: (if t.k = 5 ∨ t.k = 6 then [t.t.toNat] else if slot = true ∧ t.k = 0 then [t.m.toNat] else [])
def TgIn (t : Tg) : Prop := (0 ≤ t.k ∧ t.k ≤ 6) ∧ (0 ≤ t.t ∧ t.t ≤ 255) ∧ (0 ≤ t.m ∧ t.m ≤ 255)

theorem wtag_ok (w : World) (B p : Nat) (l : List Nat) (h : Wt B p w l) (hB : B ≤ w.heap.size) (t : Tg) (ht : TgIn t) (slot : Bool) (hl : l.length ≤ 1099511627000) :
    Calls Try.prog 50 #[.pointer (some ⟨p, 0, none⟩), .agg #[.int .i64 t.k, .int .i64 t.t, .int .i64 t.m], .bool slot] w (WrP B p w (l ++ tagB t slot)) := by
  have H := Lib.hid h
  obtain ⟨k, tt, m⟩ := t
  obtain ⟨⟨k0, k1⟩, ⟨t0, t1⟩, ⟨m0, m1⟩⟩ := ht
  simp only at k0 k1 t0 t1 m0 m1 ⊢
  obtain ⟨k, rfl⟩ := Int.eq_ofNat_of_zero_le k0
  obtain ⟨tt, rfl⟩ := Int.eq_ofNat_of_zero_le t0
  obtain ⟨m, rfl⟩ := Int.eq_ofNat_of_zero_le m0
  obtain ⟨L, hL⟩ : ∃ L, L = l ++ tagB ⟨(k : Int), tt, m⟩ slot := ⟨_, rfl⟩
  rw [← hL]
  unfold tagB at hL
  simp only [Int.toNat_natCast] at hL
  have HLL := Lib.hid hL
  have hne : w.heap.size ≠ p := by have := h.lt; omega
  clear h hL
  go_enter Try.func50, Try.ntmps50
  go_wp2_with fail
  have TB : Blk (w.alloc (.cells #[.int .i64 (k : Int), .int .i64 (tt : Int), .int .i64 (m : Int)] 56)) w.heap.size 56 #[.int .i64 (k : Int), .int .i64 (tt : Int), .int .i64 (m : Int)] := Blk.new _ _ _
  refine (wbyte_ok _ B p l (H.out.below (bAl (bRefl w) _)) (by simp; omega) k (by omega) (by omega)).mono ?_
  rintro e w1 ⟨rfl, hw, hf⟩
  have T1 := hf.blk TB hne (Or.inr (by decide))
  have hf1 := Fr.from (bAl (bRefl w) _) hf
  have HW1 := Lib.hid hw
  have HF1 := Lib.hid hf1
  have HT1 := Lib.hid T1
  have c0 := T1.cell 0
  have c1 := T1.cell 1
  have c2 := T1.cell 2
  have hsz := hf1.size
  clear TB hf hw hf1 T1
  go_wp2_with fail
  refine (isrow_ok _ _).mono ?_
  rintro e w2 ⟨rfl, rfl⟩
  have hB1 : B ≤ w2.heap.size := by omega
  have hl1 : (l ++ [k]).length ≤ 1099511627776 := by simp; omega
  by_cases hr : k = 5 ∨ k = 6
  · have eb : ((k : Int) == 5 || (k : Int) == 6) = true := by simp; omega
    rw [eb]
    have HE : Hid (L = (l ++ [k]) ++ [tt]) := by
      show L = _
      rw [HLL.out, if_pos (by omega)]
      simp
    go_wp2_with fail
    refine (wbyte_ok _ B p _ HW1.out hB1 tt (by omega) hl1).mono ?_
    rintro e w3 ⟨rfl, hw, hf⟩
    go_wp2
    go_end0
    exact ⟨rfl, HE.out ▸ hw, HF1.out.trans hf⟩
  · have eb : ((k : Int) == 5 || (k : Int) == 6) = false := by simp; omega
    rw [eb]
    by_cases hs : slot = true ∧ k = 0
    · obtain ⟨rfl, rfl⟩ := hs
      have HE : Hid (L = (l ++ [0]) ++ [m]) := by
        show L = _
        rw [HLL.out, if_neg (by omega), if_pos ⟨rfl, rfl⟩]
        simp
      go_wp2_with fail
      refine (wbyte_ok _ B p _ HW1.out hB1 m (by omega) hl1).mono ?_
      rintro e w3 ⟨rfl, hw, hf⟩
      go_wp2
      go_end0
      exact ⟨rfl, HE.out ▸ hw, HF1.out.trans hf⟩
    · have HE : Hid (L = l ++ [k]) := by
        show L = _
        rw [HLL.out, if_neg (by omega), if_neg (fun e => hs ⟨e.1, by omega⟩)]
      cases slot with
      | false =>
        go_wp2
        go_end0
        exact ⟨rfl, HE.out ▸ HW1.out, HF1.out⟩
      | true =>
        have hk0 : ¬ (k : Int) = 0 := fun e => hs ⟨rfl, by omega⟩
        go_wp2
        go_end0
        exact ⟨rfl, HE.out ▸ HW1.out, HF1.out⟩
end Go.Proofs.Ytfdjdpbiccclfaa
