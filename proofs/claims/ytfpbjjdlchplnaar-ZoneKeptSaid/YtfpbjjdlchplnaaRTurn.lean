/- turned of the law: a list the other way round; Cons of the reference; nothing that was there is turned. -/
import Derived.Test.YtfpbjjdlchplnaaRSml
import Derived.Test.YtfpbjjdlchplnaaRRTop
namespace Go.Proofs.YtfpbjjdlchplnaaR
open Go Go.RowKit Go.Wr
set_option maxHeartbeats 1000000
set_option maxRecDepth 100000

theorem rev_step {l : List Cn} {k : Nat} {x : Cn} (h : l[k]? = some x) : (l.drop k).reverse = (l.drop (k + 1)).reverse ++ [x] := by
  obtain ⟨hk, rfl⟩ := List.getElem?_eq_some_iff.1 h
  rw [List.drop_eq_getElem_cons hk, List.reverse_cons]

theorem turned_any (w : World) (v : Value) (l : List Cn) (hs : Sl3 w v l) (hlen : l.length * 24 ≤ 140737488355328) :
    Calls Try.prog 25 #[v] w fun e w' => ∃ v', e = .returned v' ∧ w'.ownsRow w.heap.size 72 3 v' l.reverse.length (conCells l.reverse) ∧ Below w.heap.size w w' := by
  obtain ⟨a0, cap, rfl, hl, hc⟩ := hs
  have Hc := Lib.hid hc
  clear hc
  go_enter Try.func25, Try.ntmps25
  go_wp2
  go_loopw [3, 4] (fun u t wr => ∃ k : Nat, k ≤ l.length ∧ t = .int .i64 ((k : Int) - 1) ∧ wr.ownsRow w.heap.size 72 3 u ((l.drop k).reverse).length (conCells ((l.drop k).reverse)) ∧ Below w.heap.size w wr) (fun _ t _ => (intOf t + 1).toNat)
  case atStart => exact ⟨l.length, by omega, rfl, by rw [List.drop_length]; exact World.ownsRow_nil _ _ _ _, Below.refl _ _⟩
  case round =>
    obtain ⟨k, hk, rfl, hown, hbel⟩ := hrel
    cases k with
    | succ k =>
      have hkk : ((k + 1 : Nat) : Int) - 1 = (k : Int) := by omega
      rw [hkk]
      clear hkk
      obtain ⟨b, off, xi, xj, xc, hx, rfl, hbl, h0, h1, h2⟩ := Sl3.at Hc.out hbel (k := k) (by omega)
      have hk1 : (k : Int) < (l.length : Int) := by omega
      have hk0 : (0 : Int) ≤ (k : Int) := by omega
      have Hf := Lib.hid (rev_step hx)
      have Hown := Lib.hid hown
      clear hx hown
      obtain ⟨i, hi, hz0, hz1, hz2⟩ := info_parts infoR
      have hlen2 : ((l.drop (k + 1)).reverse).length + 1 ≤ l.length := by simp; omega
      have hsz := hbel.size
      go_wp2_with (at_builtin; refine wpList_append_own _ rfl _ _ _ rfl w.heap.size 72 i _ 3 24 Try.underlying35 hi hz0 hz1 hz2 rfl (by omega) u3 ((l.drop (k + 1)).reverse).length (conCells ((l.drop (k + 1)).reverse)) rfl (Hown.out.alloc _) ⟨wr.heap.size, 0, none⟩ 1 1 [.int .i64 xi, .int .i64 xj, .int .i64 xc] rfl rfl (newsBlk (Blk.new wr 72 #[.int .i64 xi, .int .i64 xj, .int .i64 xc])) (by simp [Value.oneCell']) (by unfold maxLen; omega) (by omega) (by simp; omega) ?_; intro v' w' hown' hgrow hnil)
      go_roundw
      case rel =>
        refine ⟨k, by omega, by go_num, ?_, (hbel.alloc hsz _).grown hgrow (by simp; omega) (fun g hg => (Hown.out.lt g hg).1)⟩
        rw [Hf.out, conCells_append, List.length_append]
        exact hown'
      case measure => simp [intOf]
    | zero =>
      have hkk : ((0 : Nat) : Int) - 1 = -1 := by omega
      rw [hkk]
      rw [List.drop_zero] at hown
      have Hown := Lib.hid hown
      clear hown hkk
      go_wp2
      go_ret
      exact ⟨u3, rfl, Hown.out, hbel⟩

/-- What Cons of the reference returns. -/
def rconsL (e : Bool) (m : Nat → Nat → Int) : List Cn := if e then [] else consL m 60

theorem own_mono {w : World} {B B' : Nat} {T : TypeId} {s n : Nat} {v : Value} {xs : List Value} (hB : B ≤ B') (h : w.ownsRow B' T s v n xs) : w.ownsRow B T s v n xs := by
  obtain ⟨h1, h2⟩ := h
  exact ⟨h1, h2.imp id (fun ⟨g, cap, cur, e, hg, r⟩ => ⟨g, cap, cur, e, Nat.le_trans hB hg, r⟩)⟩

theorem rcons_any (w : World) (e : Bool) (m : Nat → Nat → Int) (hr : Rng m) :
    Calls Try.prog 29 #[.agg (zcells e m)] w fun en w' => ∃ v', en = .returned v' ∧ w'.ownsRow w.heap.size 72 3 v' (rconsL e m).length (conCells (rconsL e m)) ∧ Below w.heap.size w w' := by
  have hb := Blk.new w 50 (zcells e m)
  have hc0 := (hb.cell 0).trans (zcells_zero e m)
  cases e with
  | true =>
    go_enter Try.func29, Try.ntmps29
    go_wp2
    go_ret
    exact ⟨_, rfl, World.ownsRow_nil _ _ _ _, (Below.refl _ _).alloc (Nat.le_refl _) _⟩
  | false =>
    have hrl : rconsL false m = consL m 60 := rfl
    rw [hrl]
    have Hb := Lib.hid hb
    clear hrl hb
    have HR := Lib.hid hr
    clear hr
    go_enter Try.func29, Try.ntmps29
    go_wp2
    clear hc0
    go_loopw [3, 4] (fun v t wr => ∃ n : Nat, n ≤ 60 ∧ t = .int .i64 n ∧ wr.ownsRow (w.heap.size + 1) 72 3 v (consW m n 0).length (conCells (consW m n 0)) ∧ Below (w.heap.size + 1) (w.alloc (.cells (zcells false m) 50)) wr) (fun _ t _ => 60 - (intOf t).toNat)
    case atStart => exact ⟨0, by omega, rfl, World.ownsRow_nil _ _ _ _, Below.refl _ _⟩
    case round =>
      obtain ⟨n, hn, rfl, hown, hbel⟩ := hrel
      by_cases hlt2 : n < 60
      · have hn' : (n : Int) < 60 := by omega
        go_wp2
        go_loopw [3, 5] (fun v t wr => ∃ k : Nat, k ≤ 60 ∧ t = .int .i64 k ∧ wr.ownsRow (w.heap.size + 1) 72 3 v (consW m n k).length (conCells (consW m n k)) ∧ Below (w.heap.size + 1) (w.alloc (.cells (zcells false m) 50)) wr) (fun _ t _ => 60 - (intOf t).toNat)
        case atStart => exact ⟨0, by omega, rfl, hown, hbel⟩
        case round =>
          clear hown hbel
          obtain ⟨k, hk, rfl, hown, hbel⟩ := hrel
          by_cases hlk : k < 60
          · have hk' : (k : Int) < 60 := by omega
            have hb := Blk.below Hb.out hbel (by omega)
            have hg := (hb.cell (1 + (n * 60 + k))).trans (zcells_get? false m hlt2 hlk)
            rw [← Nat.add_assoc] at hg
            have hrk := HR.out n k hlt2 hlk
            by_cases hnk : n = k
            · have hq : ((n : Int) != (k : Int)) = false := by rw [bne_eq_false_iff_eq]; omega
              have hown' : wr.ownsRow (w.heap.size + 1) 72 3 u3 (consW m n (k + 1)).length (conCells (consW m n (k + 1))) := by
                have : consW m n (k + 1) = consW m n k := by unfold consW; rw [rowL_succ, if_neg (by omega), List.append_nil]
                rw [this]; exact hown
              have H := Lib.hid hnk
              clear hnk hg hrk hown hb
              go_wp2
              go_roundw
              case rel => exact ⟨k + 1, by omega, by go_num, hown', hbel⟩
              case measure => simp [intOf]; omega
            · have hq : ((n : Int) != (k : Int)) = true := by rw [bne_iff_ne]; omega
              by_cases hno : m n k = 2305843009213693952
              · have hq2 : ¬ m n k < 2305843009213693952 := by omega
                have hown' : wr.ownsRow (w.heap.size + 1) 72 3 u3 (consW m n (k + 1)).length (conCells (consW m n (k + 1))) := by
                  have : consW m n (k + 1) = consW m n k := by unfold consW; rw [rowL_succ, if_neg (by omega), List.append_nil]
                  rw [this]; exact hown
                have H := Lib.hid hno
                clear hno hrk hown
                go_wp2
                go_roundw
                case rel => exact ⟨k + 1, by omega, by go_num, hown', hbel⟩
                case measure => simp [intOf]; omega
              · have hq2 : m n k < 2305843009213693952 := by omega
                have hstep : consW m n (k + 1) = consW m n k ++ [⟨n, k, m n k⟩] := by unfold consW; rw [rowL_succ, if_pos ⟨hnk, hno⟩, List.append_assoc]
                have hlen := consW_len m n k
                obtain ⟨i, hi, hz0, hz1, hz2⟩ := info_parts infoR
                have Hs := Lib.hid hstep
                have Hown := Lib.hid hown
                have hszr : w.heap.size + 1 ≤ wr.heap.size := by have := hbel.size; simp at this; omega
                clear hstep hno hown hrk hb
                go_wp2_with (at_builtin; refine wpList_append_own _ rfl _ _ _ rfl (w.heap.size + 1) 72 i _ 3 24 Try.underlying35 hi hz0 hz1 hz2 rfl (by omega) u3 (consW m n k).length (conCells (consW m n k)) rfl (Hown.out.alloc _) ⟨wr.heap.size, 0, none⟩ 1 1 [.int .i64 n, .int .i64 k, .int .i64 (m n k)] rfl rfl (newsBlk (Blk.new wr 72 #[.int .i64 n, .int .i64 k, .int .i64 (m n k)])) (by simp [Value.oneCell']) (by unfold maxLen; omega) (by omega) (by simp; omega) ?_; intro v' w' hown' hgrow hnil)
                go_roundw
                case rel =>
                  refine ⟨k + 1, by omega, by go_num, ?_, (hbel.alloc hszr _).grown hgrow (by simp; omega) (fun g hg => (Hown.out.lt g hg).1)⟩
                  rw [Hs.out, conCells_append, List.length_append]
                  exact hown'
                case measure => simp [intOf]; omega
          · obtain rfl : k = 60 := by omega
            rw [consW_row] at hown
            go_wp2
            go_roundw
            case rel => exact ⟨n + 1, by omega, by go_num, hown, hbel⟩
            case measure => simp [intOf]; omega
      · obtain rfl : n = 60 := by omega
        have hL : consW m 60 0 = consL m 60 := by simp [consW, rowL]
        rw [hL] at hown
        have Hown := Lib.hid hown
        clear hown hL
        go_wp2
        go_ret
        exact ⟨u3, rfl, own_mono (Nat.le_succ _) Hown.out, ((Below.refl _ _).alloc (Nat.le_refl _) _).trans (hbel.mono (Nat.le_succ _))⟩

end Go.Proofs.YtfpbjjdlchplnaaR
