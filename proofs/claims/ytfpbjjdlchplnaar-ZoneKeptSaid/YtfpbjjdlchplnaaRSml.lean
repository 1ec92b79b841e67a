/- The law's small: the bounds that are not wrong and lie within 2^40, in new memory. -/
import Derived.Test.YtfpbjjdlchplnaaRNum
import Derived.Test.YtfpbjjdlchplnaaRWrong
namespace Go.Proofs.YtfpbjjdlchplnaaR
open Go Go.RowKit Go.Wr
set_option maxHeartbeats 2000000
set_option maxRecDepth 10000

def smallC (x : Cn) : Bool := wrongL [x] == 0 && (decide (-1099511627776 ≤ x.c) && decide (x.c ≤ 1099511627776))
def smallL (l : List Cn) : List Cn := l.filter smallC

theorem filter_take {l : List Cn} {p : Cn → Bool} {k : Nat} {x : Cn} (h : l[k]? = some x) : (l.take (k + 1)).filter p = (l.take k).filter p ++ if p x then [x] else [] := by
  rw [take_snoc h, List.filter_append]
  congr 1
  cases hp : p x <;> simp [hp]

theorem infoR : (Try.prog.info? 72).map (fun i => (i.zero, i.size, i.bytes)) = some (some (.agg #[.int .i64 0, .int .i64 0, .int .i64 0]), 3, 24) := by kernel_rfl

theorem Sl3.single {w : World} {b o cap : Nat} {xi xj xc : Int} (h0 : w.cell? ⟨b, o, none⟩ = some (.int .i64 xi)) (h1 : w.cell? ⟨b, o + 1, none⟩ = some (.int .i64 xj)) (h2 : w.cell? ⟨b, o + 2, none⟩ = some (.int .i64 xc)) :
    Sl3 w (.slice (some ⟨b, o, none⟩) 1 cap) [⟨xi, xj, xc⟩] := by
  refine ⟨_, cap, rfl, by simp, fun k x hx => ?_⟩
  cases k with
  | zero => simp at hx; subst hx; exact ⟨b, o, rfl, by simpa using h0, by simpa using h1, by simpa using h2⟩
  | succ k => simp at hx

theorem ownB {w w' : World} {B : Nat} {T : TypeId} {s n : Nat} {v : Value} {xs : List Value} (h : w.ownsRow B T s v n xs) (hb : Below w.heap.size w w') : w'.ownsRow B T s v n xs := by
  obtain ⟨h1, h2⟩ := h
  refine ⟨h1, ?_⟩
  rcases h2 with h2 | ⟨g, cap, cur, rfl, hg, hh, r⟩
  · exact Or.inl h2
  · exact Or.inr ⟨g, cap, cur, rfl, hg, (hb.block g (Array.getElem?_eq_some_iff.1 hh).1).trans hh, r⟩

theorem small_any (w : World) (v : Value) (l : List Cn) (hs : Sl3 w v l) (hcap : Cap v l.length) (hlen : l.length * 24 ≤ 140737488355328) :
    Calls Try.prog 19 #[v] w fun e w' => ∃ v', e = .returned v' ∧ w'.ownsRow w.heap.size 72 3 v' (smallL l).length (conCells (smallL l)) ∧ Below w.heap.size w w' := by
  obtain ⟨a0, cap, rfl, hl, hc⟩ := hs
  obtain ⟨a0', cap', hv, hle, hcm⟩ := hcap
  simp only [Value.slice.injEq, true_and] at hv
  obtain ⟨ha, rfl⟩ := hv
  clear ha
  have Hc := Lib.hid hc
  clear hc
  go_enter Try.func19, Try.ntmps19
  go_wp2
  go_loopw [3, 4] (fun u t wr => ∃ k : Nat, k ≤ l.length ∧ t = .int .i64 k ∧ wr.ownsRow w.heap.size 72 3 u (smallL (l.take k)).length (conCells (smallL (l.take k))) ∧ Below w.heap.size w wr) (fun _ t _ => l.length - (intOf t).toNat)
  case atStart => exact ⟨0, by omega, rfl, World.ownsRow_nil _ _ _ _, Below.refl _ _⟩
  case round =>
    obtain ⟨k, hk, rfl, hown, hbel⟩ := hrel
    by_cases hlt : k < l.length
    · obtain ⟨b, off, xi, xj, xc, hx, rfl, hbl, h0, h1, h2⟩ := Sl3.at Hc.out hbel hlt
      have hk1 : (k : Int) < (l.length : Int) := by omega
      have Hf := Lib.hid (filter_take (p := smallC) hx)
      have Hown := Lib.hid hown
      have hkc : ¬ cap = k := by omega
      clear hx hown
      go_wp2_with fail
      refine (rwrong_any _ _ [⟨xi, xj, xc⟩] (Sl3.single h0 h1 h2)).mono ?_
      rintro e w1 ⟨rfl, b1⟩
      have hbel1 := hbel.trans (b1.mono hbel.size)
      have Hown1 : Hid (w1.ownsRow w.heap.size 72 3 u3 (smallL (l.take k)).length (conCells (smallL (l.take k)))) := ownB Hown.out b1
      rw [← b1.cell (show (⟨b, off + k * 3, none⟩ : Addr).block < wr.heap.size from Nat.lt_of_lt_of_le hbl hbel.size)] at h0
      rw [← b1.cell (show (⟨b, off + k * 3 + 1, none⟩ : Addr).block < wr.heap.size from Nat.lt_of_lt_of_le hbl hbel.size)] at h1
      rw [← b1.cell (show (⟨b, off + k * 3 + 2, none⟩ : Addr).block < wr.heap.size from Nat.lt_of_lt_of_le hbl hbel.size)] at h2
      clear b1 hbel Hown
      have Hd : Hid (smallC ⟨xi, xj, xc⟩ = (wrongL [⟨xi, xj, xc⟩] == 0 && (decide (-1099511627776 ≤ xc) && decide (xc ≤ 1099511627776)))) := rfl
      cases hw : (wrongL [⟨xi, xj, xc⟩] == 0) with
      | false =>
        rw [hw] at Hd
        go_wp2
        go_roundw
        case rel =>
          refine ⟨k + 1, by omega, by go_num, ?_, hbel1⟩
          have : smallL (l.take (k + 1)) = smallL (l.take k) := by unfold smallL; rw [Hf.out, Hd.out]; simp
          rw [this]; exact Hown1.out
        case measure => simp [intOf]; omega
      | true =>
        rw [hw] at Hd
        by_cases hlo : -1099511627776 ≤ xc
        · by_cases hhi : xc ≤ 1099511627776
          · obtain ⟨i, hi, hz0, hz1, hz2⟩ := info_parts infoR
            have Hstep : Hid (smallL (l.take (k + 1)) = smallL (l.take k) ++ [⟨xi, xj, xc⟩]) := by
              show _ = _
              unfold smallL; rw [Hf.out, Hd.out]; simp [hlo, hhi]
            have hlen2 : (smallL (l.take k)).length ≤ k := Nat.le_trans (List.length_filter_le _ _) (by simp; omega)
            have hsz := hbel1.size
            go_wp2_with (at_builtin; refine wpList_append_own _ rfl _ _ _ rfl w.heap.size 72 i _ 3 24 Try.underlying35 hi hz0 hz1 hz2 rfl (by omega) u3 (smallL (l.take k)).length (conCells (smallL (l.take k))) rfl (Hown1.out.alloc _) ⟨w1.heap.size, 0, none⟩ 1 1 [.int .i64 xi, .int .i64 xj, .int .i64 xc] rfl rfl (newsBlk (Blk.new w1 72 #[.int .i64 xi, .int .i64 xj, .int .i64 xc])) (by simp [Value.oneCell']) (by unfold maxLen; omega) (by omega) (by simp; omega) ?_; intro v' w' hown' hgrow hnil)
            go_roundw
            case rel =>
              refine ⟨k + 1, by omega, by go_num, ?_, (hbel1.alloc hsz _).grown hgrow (by simp; omega) (fun g hg => (Hown1.out.lt g hg).1)⟩
              rw [Hstep.out, conCells_append, List.length_append]
              exact hown'
            case measure => simp [intOf]; omega
          · go_wp2
            go_roundw
            case rel =>
              refine ⟨k + 1, by omega, by go_num, ?_, hbel1⟩
              have : smallL (l.take (k + 1)) = smallL (l.take k) := by unfold smallL; rw [Hf.out, Hd.out]; simp; omega
              rw [this]; exact Hown1.out
            case measure => simp [intOf]; omega
        · go_wp2
          go_roundw
          case rel =>
            refine ⟨k + 1, by omega, by go_num, ?_, hbel1⟩
            have : smallL (l.take (k + 1)) = smallL (l.take k) := by unfold smallL; rw [Hf.out, Hd.out]; simp; omega
            rw [this]; exact Hown1.out
          case measure => simp [intOf]; omega
    · obtain rfl : k = l.length := by omega
      rw [List.take_length] at hown
      have Hown := Lib.hid hown
      clear hown
      go_wp2
      go_ret
      exact ⟨u3, rfl, Hown.out, hbel⟩

end Go.Proofs.YtfpbjjdlchplnaaR
