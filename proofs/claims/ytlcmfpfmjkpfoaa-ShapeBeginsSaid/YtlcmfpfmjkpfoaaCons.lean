/- Cons of zone: all bounds of unlike variables, in new memory; nothing that was there is turned. -/
import Derived.Test.YtlcmfpfmjkpfoaaWith
namespace Go.Proofs.Ytlcmfpfmjkpfoaa
open Go Go.RowKit Go.Wr
set_option maxHeartbeats 1000000

def rowL (m : Nat → Nat → Int) (i n : Nat) : List Cn := (List.range n).filterMap fun j => if i ≠ j ∧ m i j ≠ 2305843009213693952 then some ⟨i, j, m i j⟩ else none
/-- P5.1: all bounds of unlike variables, rising. -/
def consL (m : Nat → Nat → Int) (n : Nat) : List Cn := (List.range n).flatMap fun i => rowL m i 60
def consW (m : Nat → Nat → Int) (i j : Nat) : List Cn := consL m i ++ rowL m i j
def conCells (l : List Cn) : List Value := l.flatMap fun x => [.int .i64 x.i, .int .i64 x.j, .int .i64 x.c]

theorem consW_row (m : Nat → Nat → Int) (i : Nat) : consW m i 60 = consW m (i + 1) 0 := by
  simp [consW, consL, rowL, List.range_succ]

theorem rowL_succ (m : Nat → Nat → Int) (i j : Nat) : rowL m i (j + 1) = rowL m i j ++ if i ≠ j ∧ m i j ≠ 2305843009213693952 then [⟨i, j, m i j⟩] else [] := by
  unfold rowL
  rw [List.range_succ, List.filterMap_append]
  congr 1
  by_cases h : i ≠ j ∧ m i j ≠ 2305843009213693952
  · simp only [List.filterMap_cons, List.filterMap_nil, if_pos h]
  · simp only [List.filterMap_cons, List.filterMap_nil, if_neg h]

theorem rowL_len (m : Nat → Nat → Int) (i n : Nat) : (rowL m i n).length ≤ n := by
  unfold rowL
  exact Nat.le_trans (List.length_filterMap_le _ _) (by simp)

theorem consL_len (m : Nat → Nat → Int) (n : Nat) : (consL m n).length ≤ n * 60 := by
  induction n with
  | zero => simp [consL]
  | succ n ih =>
    have : consL m (n + 1) = consL m n ++ rowL m n 60 := by simp [consL, List.range_succ]
    rw [this, List.length_append]
    have := rowL_len m n 60
    omega

theorem consW_len (m : Nat → Nat → Int) (i j : Nat) : (consW m i j).length ≤ i * 60 + j := by
  unfold consW
  rw [List.length_append]
  have h1 := consL_len m i
  have h2 := rowL_len m i j
  omega

theorem conCells_append (l : List Cn) (x : Cn) : conCells (l ++ [x]) = conCells l ++ [.int .i64 x.i, .int .i64 x.j, .int .i64 x.c] := by simp [conCells]
theorem conCells_len (l : List Cn) : (conCells l).length = l.length * 3 := by
  induction l with
  | nil => rfl
  | cons x r ih => simp only [conCells, List.flatMap_cons, List.length_append, List.length_cons, List.length_nil] at *; omega

theorem conCells_get (l : List Cn) : ∀ (k : Nat) (x : Cn), l[k]? = some x → (conCells l)[k * 3]? = some (.int .i64 x.i) ∧ (conCells l)[k * 3 + 1]? = some (.int .i64 x.j) ∧ (conCells l)[k * 3 + 2]? = some (.int .i64 x.c) := by
  induction l with
  | nil => intro k x h; simp at h
  | cons y r ih =>
    intro k x h
    have e : conCells (y :: r) = .int .i64 y.i :: .int .i64 y.j :: .int .i64 y.c :: conCells r := rfl
    cases k with
    | zero => simp at h; subst h; rw [e]; simp
    | succ k =>
      have h' : r[k]? = some x := by simpa using h
      obtain ⟨h0, h1, h2⟩ := ih k x h'
      rw [e, show (k + 1) * 3 = k * 3 + 3 by omega]
      exact ⟨by simpa using h0, by simpa using h1, by simpa using h2⟩

/-- Cells of a row of a table. -/
def rcells (r : Nat → Int) : Array Value := ((List.range 60).map fun k => Value.int .i64 (r k)).toArray
theorem rcells_size (r : Nat → Int) : (rcells r).size = 60 := by simp [rcells]
theorem rcells_get (r : Nat → Int) {k : Nat} (hk : k < 60) : (rcells r)[k]? = some (.int .i64 (r k)) := by
  simp only [rcells, List.getElem?_toArray, List.getElem?_map]
  rw [List.getElem?_range hk, Option.map_some]
theorem zrow_extract (e : Bool) (m : Nat → Nat → Int) {i : Nat} (hi : i < 60) : (zcells e m).extract (1 + i * 60) (1 + i * 60 + 60) = rcells (m i) := by
  apply Array.ext_getElem?
  intro k
  rw [Array.getElem?_extract, zcells_size]
  by_cases hk : k < 60
  · rw [if_pos (by omega), Nat.add_assoc, zcells_get? e m hi hk, rcells_get _ hk]
  · rw [if_neg (by omega), Array.getElem?_eq_none (by rw [rcells_size]; omega)]

/-- A slice of bounds in memory from B on, with no spare room. -/
def NewCons (B : Nat) (w : World) (v : Value) (l : List Cn) : Prop :=
  (v = .slice none 0 0 ∧ l = []) ∨ ∃ g C, v = .slice (some ⟨g, 0, none⟩) l.length l.length ∧ B ≤ g ∧ Blk w g 30 C ∧ C.toList.take (l.length * 3) = conCells l

theorem NewCons.sl3 {B : Nat} {w : World} {v : Value} {l : List Cn} (h : NewCons B w v l) (hl : l.length ≤ 9223372036854775807) : Sl3 w v l := by
  rcases h with ⟨rfl, rfl⟩ | ⟨g, C, rfl, _, hb, ht⟩
  · exact ⟨none, 0, rfl, by simp, fun k x h => by simp at h⟩
  · refine ⟨some ⟨g, 0, none⟩, l.length, rfl, hl, fun k x hx => ⟨g, 0, rfl, ?_⟩⟩
    have hk : k < l.length := (List.getElem?_eq_some_iff.1 hx).1
    obtain ⟨h0, h1, h2⟩ := conCells_get l k x hx
    rw [← ht] at h0 h1 h2
    rw [List.getElem?_take, if_pos (by omega), Array.getElem?_toList] at h0 h1 h2
    simp only [Nat.zero_add]
    exact ⟨(hb.cell _).trans h0, (hb.cell _).trans h1, (hb.cell _).trans h2⟩

theorem newsBlk {w : World} {b : Nat} {T : TypeId} {C : Array Value} (h : Blk w b T C) : ∀ (j : Nat) (u : Value), C.toList[j]? = some u → w.cell? ((⟨b, 0, none⟩ : Addr).add j) = some u := by
  intro j u hu
  rw [Addr.add_lit, Nat.zero_add, h.cell j]
  simpa using hu

theorem infoC : (Try.prog.info? 30).map (fun i => (i.zero, i.size, i.bytes)) = some (some (.agg #[.int .i64 0, .int .i64 0, .int .i64 0]), 3, 24) := by kernel_rfl

theorem cons_any (w : World) (b : Nat) (z : Zn) (hz : ZAt w b z) :
    Calls Try.prog 27 #[.pointer (some ⟨b, 0, none⟩)] w fun e w' => ∃ v, e = .returned v ∧ NewCons w.heap.size w' v (consL z.m 60) ∧ Below w.heap.size w w' := by
  obtain ⟨e, m⟩ := z
  have hlt := hz.lt
  have Hz := Lib.hid hz
  clear hz
  go_enter Try.func27, Try.ntmps27
  go_wp2
  go_loopw [3, 7] (fun v t wr => ∃ n : Nat, n ≤ 60 ∧ t = .int .i64 n ∧ wr.ownsRow w.heap.size 30 3 v (consW m n 0).length (conCells (consW m n 0)) ∧ Below w.heap.size w wr) (fun _ t _ => 60 - (intOf t).toNat)
  case atStart => exact ⟨0, by omega, rfl, World.ownsRow_nil _ _ _ _, Below.refl _ _⟩
  case round =>
    obtain ⟨n, hn, rfl, hown, hbel⟩ := hrel
    have hzr := ZAt.below Hz.out hbel hlt
    by_cases hlt2 : n < 60
    · have hn' : (n : Int) < 60 := by omega
      go_wp2_with (refine wpl_load rfl 76 (.tmp 14) rfl b (1 + n * 60) rfl hzr rowR (by rw [zcells_size]; omega) (D := rcells (m n)) (zrow_extract _ _ hlt2) ?_)
      go_loopw [3, 16] (fun v t wr => ∃ k : Nat, k ≤ 60 ∧ t = .int .i64 k ∧ wr.ownsRow w.heap.size 30 3 v (consW m n k).length (conCells (consW m n k)) ∧ Below w.heap.size w wr) (fun _ t _ => 60 - (intOf t).toNat)
      case atStart => exact ⟨0, by omega, rfl, hown, hbel⟩
      case round =>
        obtain ⟨k, hk, rfl, hown, hbel⟩ := hrel
        by_cases hlk : k < 60
        · have hk' : (k : Int) < 60 := by omega
          have hg := rcells_get (m n) hlk
          by_cases hnk : n = k
          · have hq : ((n : Int) != (k : Int)) = false := by rw [bne_eq_false_iff_eq]; omega
            have hown' : wr.ownsRow w.heap.size 30 3 u3 (consW m n (k + 1)).length (conCells (consW m n (k + 1))) := by
              have : consW m n (k + 1) = consW m n k := by unfold consW; rw [rowL_succ, if_neg (by omega), List.append_nil]
              rw [this]; exact hown
            have H := Lib.hid hnk
            clear hnk
            go_wp2_with (refine wpl_index rfl 76 (.tmp 15) (.tmp 16) rfl rfl .i64 k rfl Try.underlying76 Try.isAgg3 Try.sizeOf3 hlk hg ?_)
            go_roundw
            case rel => exact ⟨k + 1, by omega, by go_num, hown', hbel⟩
            case measure => simp [intOf]; omega
          · have hq : ((n : Int) != (k : Int)) = true := by rw [bne_iff_ne]; omega
            by_cases hno : m n k = 2305843009213693952
            · have hq2 : (m n k != 2305843009213693952) = false := by rw [bne_eq_false_iff_eq]; exact hno
              have hown' : wr.ownsRow w.heap.size 30 3 u3 (consW m n (k + 1)).length (conCells (consW m n (k + 1))) := by
                have : consW m n (k + 1) = consW m n k := by unfold consW; rw [rowL_succ, if_neg (by omega), List.append_nil]
                rw [this]; exact hown
              have H := Lib.hid hno
              clear hno
              go_wp2_with (refine wpl_index rfl 76 (.tmp 15) (.tmp 16) rfl rfl .i64 k rfl Try.underlying76 Try.isAgg3 Try.sizeOf3 hlk hg ?_)
              go_roundw
              case rel => exact ⟨k + 1, by omega, by go_num, hown', hbel⟩
              case measure => simp [intOf]; omega
            · have hq2 : (m n k != 2305843009213693952) = true := by rw [bne_iff_ne]; exact hno
              have hstep : consW m n (k + 1) = consW m n k ++ [⟨n, k, m n k⟩] := by unfold consW; rw [rowL_succ, if_pos ⟨hnk, hno⟩, List.append_assoc]
              have hlen := consW_len m n k
              obtain ⟨i, hi, hz0, hz1, hz2⟩ := info_parts infoC
              have Hs := Lib.hid hstep
              have Hown := Lib.hid hown
              clear hstep hno hown hzr
              go_wp2_with (first
                | (refine wpl_index rfl 76 (.tmp 15) (.tmp 16) rfl rfl .i64 k rfl Try.underlying76 Try.isAgg3 Try.sizeOf3 hlk hg ?_)
                | (at_builtin; refine wpList_append_own _ rfl _ _ _ rfl w.heap.size 30 i _ 3 24 Try.underlying26 hi hz0 hz1 hz2 rfl (by omega) u3 (consW m n k).length (conCells (consW m n k)) rfl (Hown.out.alloc _) ⟨wr.heap.size, 0, none⟩ 1 1 [.int .i64 n, .int .i64 k, .int .i64 (m n k)] rfl rfl (newsBlk (Blk.new wr 30 #[.int .i64 n, .int .i64 k, .int .i64 (m n k)])) (by simp [Value.oneCell']) (by unfold maxLen; omega) (by omega) (by simp; exact Nat.le_succ_of_le hbel.size) ?_; intro v' w' hown' hgrow hnil))
              go_roundw
              case rel =>
                refine ⟨k + 1, by omega, by go_num, ?_, (hbel.alloc hbel.size _).grown hgrow (by simp; exact Nat.le_succ_of_le hbel.size) (fun g hg => (Hown.out.lt g hg).1)⟩
                rw [Hs.out, conCells_append, List.length_append]
                exact hown'
              case measure => simp [intOf]; omega
        · obtain rfl : k = 60 := by omega
          rw [consW_row] at hown
          go_wp2
          go_roundw
          case rel => exact ⟨n + 1, by omega, by go_num, hown, hbel⟩
          case measure => simp [intOf]; omega
    · obtain rfl : n = 60 := by omega
      have hL : consW m 60 0 = consL m 60 := by simp [consW, rowL]
      have hlen := consL_len m 60
      rw [hL] at hown
      obtain ⟨L, HL⟩ : ∃ L, Hid (L = consL m 60) := ⟨_, rfl⟩
      rw [← HL.out] at hown hlen
      clear hL hzr
      obtain ⟨ho1, ho2⟩ := hown
      rcases ho2 with ⟨rfl, h0⟩ | ⟨g, cap, cur, rfl, hg, hb, hle, hcap, hsz, htk⟩
      · have hL : L = [] := List.eq_nil_of_length_eq_zero h0
        have HL2 := Lib.hid hL
        clear ho1 h0 hL
        go_wp2
        go_ret
        exact ⟨_, rfl, Or.inl ⟨rfl, HL.out.symm.trans HL2.out⟩, hbel⟩
      · have Ht := Lib.hid htk
        have Ho := Lib.hid ho1
        have Hz := Lib.hid hsz
        have Hb := Lib.hid hb
        clear htk ho1 hsz hb
        unfold maxLen at hcap
        go_wp2
        go_ret
        refine ⟨_, rfl, ?_, hbel⟩
        show NewCons _ _ _ (consL m 60)
        rw [← HL.out]
        exact Or.inr ⟨g, cur, rfl, hg, Hb.out, Ht.out⟩

end Go.Proofs.Ytlcmfpfmjkpfoaa
