/- The law's met and full. -/
import Derived.Test.YtfpbjjdlchplnaaRSml
namespace Go.Proofs.YtfpbjjdlchplnaaR
open Go Go.RowKit Go.Wr
set_option maxHeartbeats 3000000
set_option maxRecDepth 10000

theorem rcells_set (r : Nat → Int) {k : Nat} (hk : k < 60) (v : Int) : (rcells r).setIfInBounds k (.int .i64 v) = rcells (fun q => if q = k then v else r q) := by
  apply Array.ext_getElem?
  intro i
  rw [Array.getElem?_setIfInBounds, rcells_size]
  by_cases hi : i < 60
  · rw [rcells_get _ hi, rcells_get _ hi]
    by_cases e : k = i
    · subst e; simp [hk]
    · rw [if_neg e, if_neg (fun h => e h.symm)]
  · rw [Array.getElem?_eq_none (by rw [rcells_size]; omega), Array.getElem?_eq_none (by rw [rcells_size]; omega)]
    have : k ≠ i := by omega
    simp [this]

theorem rcells_congr {r s : Nat → Int} (h : ∀ k, k < 60 → r k = s k) : rcells r = rcells s := by
  apply Array.ext_getElem?
  intro i
  by_cases hi : i < 60
  · rw [rcells_get _ hi, rcells_get _ hi, h i hi]
  · rw [Array.getElem?_eq_none (by rw [rcells_size]; omega), Array.getElem?_eq_none (by rw [rcells_size]; omega)]

theorem make60 (w : World) : (Instr.makeSlice 36 (.int .i64 60) (.int .i64 60)).run Try.prog w = .ok (.slice (some ⟨w.heap.size, 0, none⟩) 60 60) (w.alloc (.cells (rcells fun _ => 0) 3)) := by kernel_rfl

def metC (f : Nat → Int) (x : Cn) : Bool := wrongL [x] == 0 && !decide (x.c < f x.i.toNat - f x.j.toNat)
def metL (l : List Cn) (f : Nat → Int) : List Cn := l.filter (metC f)

theorem fine_of_wrong {xi xj xc : Int} (h : wrongL [⟨xi, xj, xc⟩] = 0) : (0 ≤ xi ∧ xi < 60) ∧ (0 ≤ xj ∧ xj < 60) ∧ -1152921504606846976 ≤ xc ∧ xc ≤ 1152921504606846976 := by
  obtain ⟨a, b, c⟩ := wrongL_ok h ⟨xi, xj, xc⟩ (by simp)
  exact ⟨vr_iff.1 a, vr_iff.1 b, bd_iff.1 c⟩

theorem beyond_eq (a b c : Int) (w : World) (ha : I64 a) (hb : I64 b) (hc1 : -2305843009213693952 ≤ c) (hc2 : c ≤ 2305843009213693952) :
    Calls Try.prog 42 #[.int .i64 a, .int .i64 b, .int .i64 c] w fun e w' => e = .returned (.bool (decide (c < a - b))) ∧ w' = w :=
  (beyond_any a b c w ha hb hc1 hc2).mono fun _ _ ⟨h, k⟩ => ⟨h, k.symm⟩

theorem met_any (w : World) (v : Value) (l : List Cn) (hs : Sl3 w v l) (hcap : Cap v l.length) (hlen : l.length * 24 ≤ 140737488355328) (g : Nat) (f : Nat → Int) (hg : Blk w g 3 (rcells f)) (hf : ∀ q, q < 60 → I64 (f q)) :
    Calls Try.prog 22 #[v, .slice (some ⟨g, 0, none⟩) 60 60] w fun e w' => ∃ v', e = .returned v' ∧ w'.ownsRow w.heap.size 72 3 v' (metL l f).length (conCells (metL l f)) ∧ Below w.heap.size w w' := by
  obtain ⟨a0, cap, rfl, hl, hc⟩ := hs
  obtain ⟨a0', cap', hv, hle, hcm⟩ := hcap
  simp only [Value.slice.injEq, true_and] at hv
  obtain ⟨ha, rfl⟩ := hv
  clear ha
  have Hc := Lib.hid hc
  have Hg := Lib.hid hg
  have hgl := hg.lt
  clear hc hg
  go_enter Try.func22, Try.ntmps22
  go_wp2
  go_loopw [5, 6] (fun u t wr => ∃ k : Nat, k ≤ l.length ∧ t = .int .i64 k ∧ wr.ownsRow w.heap.size 72 3 u (metL (l.take k) f).length (conCells (metL (l.take k) f)) ∧ Below w.heap.size w wr) (fun _ t _ => l.length - (intOf t).toNat)
  case atStart => exact ⟨0, by omega, rfl, World.ownsRow_nil _ _ _ _, Below.refl _ _⟩
  case round =>
    obtain ⟨k, hk, rfl, hown, hbel⟩ := hrel
    by_cases hlt : k < l.length
    · obtain ⟨b, off, xi, xj, xc, hx, rfl, hbl, h0, h1, h2⟩ := Sl3.at Hc.out hbel hlt
      have hk1 : (k : Int) < (l.length : Int) := by omega
      have Hf := Lib.hid (filter_take (p := metC f) hx)
      have Hown := Lib.hid hown
      have hkc : ¬ cap = k := by omega
      have Hd : Hid (metC f ⟨xi, xj, xc⟩ = (wrongL [⟨xi, xj, xc⟩] == 0 && !decide (xc < f xi.toNat - f xj.toNat))) := rfl
      clear hx hown
      have hgr := Blk.below Hg.out hbel hgl
      cases hw : (wrongL [⟨xi, xj, xc⟩] == 0) with
      | false =>
        rw [hw] at Hd
        go_wp2
        go_quiet ((go_at_call 39; exact Calls.quiet_of_same (rwrong_eq _ _ [⟨xi, xj, xc⟩] (Sl3.single (by exact h0) (by exact h1) (by exact h2)))))
        go_wp2
        go_roundw
        case rel =>
          refine ⟨k + 1, by omega, by go_num, ?_, bDraw hbel _⟩
          have : metL (l.take (k + 1)) f = metL (l.take k) f := by unfold metL; rw [Hf.out, Hd.out]; simp
          rw [this]; exact Hown.out
        case measure => simp [intOf]; omega
      | true =>
        rw [hw] at Hd
        obtain ⟨hxi, hxj, hxc1, hxc2⟩ := fine_of_wrong (by simpa using hw)
        obtain ⟨ni, rfl⟩ := Int.eq_ofNat_of_zero_le hxi.1
        obtain ⟨nj, rfl⟩ := Int.eq_ofNat_of_zero_le hxj.1
        have hi60 : (ni : Int) < 60 := hxi.2
        have hj60 : (nj : Int) < 60 := hxj.2
        have ci := (hgr.cell ni).trans (rcells_get f (by omega))
        have cj := (hgr.cell nj).trans (rcells_get f (by omega))
        have fi := hf ni (by omega)
        have fj := hf nj (by omega)
        simp only [Int.toNat_natCast] at Hd
        clear hgr hxi hxj
        cases hq : decide (xc < f ni - f nj) with
        | true =>
          rw [hq] at Hd
          go_wp2
          go_quiet (first
            | (go_at_call 39; exact Calls.quiet_of_same (rwrong_eq _ _ [⟨ni, nj, xc⟩] (Sl3.single (by exact h0) (by exact h1) (by exact h2))))
            | (go_at_call 42; exact Calls.quiet_of_same (beyond_eq _ _ _ _ fi fj (by omega) (by omega))))
          go_wp2
          go_roundw
          case rel =>
            refine ⟨k + 1, by omega, by go_num, ?_, bDraw hbel _⟩
            have : metL (l.take (k + 1)) f = metL (l.take k) f := by unfold metL; rw [Hf.out, Hd.out]; simp
            rw [this]; exact Hown.out
          case measure => simp [intOf]; omega
        | false =>
          rw [hq] at Hd
          obtain ⟨i, hi, hz0, hz1, hz2⟩ := info_parts infoR
          have Hstep : Hid (metL (l.take (k + 1)) f = metL (l.take k) f ++ [⟨ni, nj, xc⟩]) := by
            show _ = _
            unfold metL; rw [Hf.out, Hd.out]; simp
          have hlen2 : (metL (l.take k) f).length ≤ k := Nat.le_trans (List.length_filter_le _ _) (by simp; omega)
          have hsz := hbel.size
          go_wp2
          go_quiet (first
            | (go_at_call 39; exact Calls.quiet_of_same (rwrong_eq _ _ [⟨ni, nj, xc⟩] (Sl3.single (by exact h0) (by exact h1) (by exact h2))))
            | (go_at_call 42; exact Calls.quiet_of_same (beyond_eq _ _ _ _ fi fj (by omega) (by omega))))
          go_wp2_with (at_builtin; refine wpList_append_own _ rfl _ _ _ rfl w.heap.size 72 i _ 3 24 Try.underlying35 hi hz0 hz1 hz2 rfl (by omega) u5 (metL (l.take k) f).length (conCells (metL (l.take k) f)) rfl (Hown.out.alloc _) ⟨wr.heap.size, 0, none⟩ 1 1 [.int .i64 ni, .int .i64 nj, .int .i64 xc] rfl rfl (newsBlk (Blk.new wr 72 #[.int .i64 ni, .int .i64 nj, .int .i64 xc])) (by simp [Value.oneCell']) (by unfold maxLen; omega) (by omega) (by simp; omega) ?_; intro v' w' hown' hgrow hnil)
          go_roundw
          case rel =>
            refine ⟨k + 1, by omega, by go_num, ?_, (bDraw (hbel.alloc hsz _) nq).grown hgrow (by simp; omega) (fun g hg => (Hown.out.lt g hg).1)⟩
            rw [Hstep.out, conCells_append, List.length_append]
            exact hown'
          case measure => simp [intOf]; omega
    · obtain rfl : k = l.length := by omega
      rw [List.take_length] at hown
      have Hown := Lib.hid hown
      clear hown
      go_wp2
      go_ret
      exact ⟨u5, rfl, Hown.out, hbel⟩


/-- Sixty numbers, the first one 0, out of a list. -/
def fullF (l : List Int) (q : Nat) : Int := if q = 0 then 0 else l.getD q 0

theorem fullF_i64 {l : List Int} (h : ∀ n ∈ l, I64 n) (q : Nat) : I64 (fullF l q) := by
  unfold fullF
  split
  · unfold I64; omega
  · by_cases hq : q < l.length
    · rw [show l.getD q 0 = l[q] by simp [List.getD, hq]]
      exact h _ (List.getElem_mem hq)
    · rw [show l.getD q 0 = 0 by simp [List.getD, List.getElem?_eq_none (Nat.le_of_not_lt hq)]]
      unfold I64; omega

def wayF (l : List Int) (n q : Nat) : Int := if q < n then fullF l q else 0

theorem full_any (w : World) (v : Value) (l : List Int) (hs : SlI w v l) :
    Calls Try.prog 21 #[v] w fun e w' => ∃ g, e = .returned (.slice (some ⟨g, 0, none⟩) 60 60) ∧ Blk w' g 3 (rcells (fullF l)) ∧ w.heap.size ≤ g ∧ Below w.heap.size w w' := by
  obtain ⟨a0, cap, rfl, hl, hc⟩ := hs
  have Hc := Lib.hid hc
  clear hc
  have hmk := make60
  go_enter Try.func21, Try.ntmps21
  go_wp2
  clear hmk
  go_loopw [4] (fun t wr => ∃ k : Nat, 1 ≤ k ∧ k ≤ 60 ∧ (k ≤ 1 ∨ k ≤ l.length) ∧ t = .int .i64 k ∧ Blk wr w.heap.size 3 (rcells (wayF l k)) ∧ Below w.heap.size w wr) (fun t _ => 60 - (intOf t).toNat)
  case atStart =>
    refine ⟨1, by omega, by omega, Or.inl (by omega), rfl, (Blk.new _ _ _).eq (rcells_congr fun q _ => ?_), bAl (bRefl _) _⟩
    unfold wayF fullF
    split
    · rw [if_pos (by omega)]
    · rfl
  case round =>
    obtain ⟨k, hk1, hk, hkl, rfl, hb, hbel⟩ := hrel
    have fin : k = 60 ∨ l.length ≤ k → Blk wr w.heap.size 3 (rcells (fullF l)) := fun h => by
      refine hb.eq (rcells_congr fun q hq => ?_)
      unfold wayF
      split
      · rfl
      · rename_i hn
        unfold fullF
        rw [if_neg (by omega)]
        have : l.length ≤ q := by omega
        simp [List.getD, List.getElem?_eq_none this]
    have Fin := Lib.hid fin
    have Hkl := Lib.hid hkl
    clear fin hkl
    by_cases h60 : k < 60
    · by_cases hlt : k < l.length
      · obtain ⟨n, hn⟩ : ∃ n, l[k]? = some n := ⟨_, List.getElem?_eq_getElem hlt⟩
        obtain ⟨b, off, rfl, h0⟩ := Hc.out k n hn
        have hbl := World.block_lt_of_cell? w _ h0
        rw [← hbel.cell (p := ⟨b, off + k, none⟩) hbl] at h0
        have hk' : (k : Int) < 60 := by omega
        have hkl' : (k : Int) < (l.length : Int) := by omega
        have f1 := hb.frozen k
        have c1 := (hb.cell k).trans (rcells_get _ h60)
        have Hn := Lib.hid hn
        have Hb := Lib.hid hb
        clear hn hb
        go_wp2
        go_roundw
        case rel =>
          refine ⟨k + 1, by omega, by omega, Or.inr (by omega), by go_num, ((Hb.out.set k _).eq ((rcells_set _ h60 _).trans (rcells_congr fun q hq => ?_))), hbel.setCell (by simp) _⟩
          unfold wayF
          by_cases e : q = k
          · subst e
            rw [if_pos rfl, if_pos (by omega)]
            unfold fullF
            rw [if_neg (by omega)]
            simp [List.getD, Hn.out]
          · rw [if_neg e]
            by_cases h2 : q < k
            · rw [if_pos h2, if_pos (by omega)]
            · rw [if_neg h2, if_neg (by omega)]
        case measure => simp [intOf]; omega
      · go_wp2
        go_ret
        exact ⟨_, rfl, Fin.out (Or.inr (by omega)), Nat.le_refl _, hbel⟩
    · go_wp2
      go_ret
      exact ⟨_, rfl, Fin.out (Or.inl (by omega)), Nat.le_refl _, hbel⟩

end Go.Proofs.YtfpbjjdlchplnaaR
