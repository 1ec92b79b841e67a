/- The law's SameBytes and SameCons: what they answer. -/
import Derived.Test.YtfdjdpbiccclfaaDDe
namespace Go.Proofs.Ytfdjdpbiccclfaa
open Go Go.RowKit Go.Wr
set_option maxHeartbeats 4000000
set_option maxRecDepth 100000

theorem conv_by {B : Nat} {w : World} {v : Value} {b : List Nat} (h : SlBy B w v b) : (convert 28 9 v).run Try.prog w = .ok (.string (strOfNums (b.map Int.ofNat))) w := by
  obtain ⟨a0, cap, rfl, hc1, hc2, hcell⟩ := h
  cases a0 with
  | none =>
    have hb : b = [] := by
      cases b with
      | nil => rfl
      | cons x l => obtain ⟨_, _, e, _⟩ := hcell 0 x rfl; cases e
    subst hb
    exact run_convert_bytes_nil w 28 5 Try.underlying28 Try.underlying5 _ _ 9 Try.underlying9
  | some ad =>
    by_cases hb : b = []
    · subst hb
      obtain ⟨bb, off, sp⟩ := ad
      rw [run_convert_bytes_string w 28 9 5 _ _ _ Try.underlying28 Try.underlying5 Try.underlying9]
      simp [Conv.bytesToString, loadCells, strOfNums, Sem.run_bind]
      rfl
    · obtain ⟨y, hy⟩ : ∃ y, b[0]? = some y := ⟨_, List.getElem?_eq_getElem (List.length_pos_iff.2 hb)⟩
      obtain ⟨bb, off, e, _⟩ := hcell 0 y hy
      injection e with e
      subst e
      refine run_convert_bytes_arg w 28 5 Try.underlying28 Try.underlying5 bb off b.length cap _ (by simp) (fun i hi => ?_) 9 Try.underlying9
      obtain ⟨yi, hyi⟩ : ∃ y, b[i]? = some y := ⟨_, List.getElem?_eq_getElem hi⟩
      obtain ⟨bb', off', ea, _, _, hci⟩ := hcell i yi hyi
      simp only [Option.some.injEq, Addr.mk.injEq, and_true] at ea
      obtain ⟨rfl, rfl⟩ := ea
      rw [hci, List.getD_eq_getElem?_getD, List.getElem?_map, hyi]
      rfl
theorem SlBy.lt256 {B : Nat} {w : World} {v : Value} {b : List Nat} (h : SlBy B w v b) : ∀ x ∈ b, x < 256 := fun x hx => by
  obtain ⟨i, hi⟩ := List.mem_iff_getElem?.1 hx
  obtain ⟨_, _, _, _, _, hc⟩ := h
  obtain ⟨_, _, _, _, h3, _⟩ := hc i x hi
  exact h3
theorem strOf_iff {l m : List Nat} (h : ∀ x ∈ l, x < 256) (h' : ∀ x ∈ m, x < 256) : (strOfNums (l.map Int.ofNat)).toList = (strOfNums (m.map Int.ofNat)).toList ↔ l = m := by
  rw [ByteArray.toList_eq, ByteArray.toList_eq, strOfNums_data, strOfNums_data, List.map_map, List.map_map]
  constructor
  · intro e
    have e2 := congrArg (List.map UInt8.toNat) e
    have e3 := back256 h
    have e4 := back256 h'
    rw [show (l.map fun x => UInt8.ofNat (Int.ofNat x).toNat) = l.map ((fun n : Int => UInt8.ofNat n.toNat) ∘ Int.ofNat) from rfl] at e3
    rw [show (m.map fun x => UInt8.ofNat (Int.ofNat x).toNat) = m.map ((fun n : Int => UInt8.ofNat n.toNat) ∘ Int.ofNat) from rfl] at e4
    rw [← e3, ← e4, e2]
  · rintro rfl; rfl

theorem samebytes_ok (w : World) (B B' : Nat) (v v' : Value) (b b' : List Nat) (h : SlBy B w v b) (h' : SlBy B' w v' b') :
    Calls Try.prog 15 #[v, v'] w fun e w' => e = .returned (.bool (decide (b = b'))) ∧ w' = w := by
  have k1 := conv_by h
  have k2 := conv_by h'
  have hi := strOf_iff h.lt256 h'.lt256
  obtain ⟨S, hS⟩ : ∃ S, S = strOfNums (b.map Int.ofNat) := ⟨_, rfl⟩
  obtain ⟨S', hS'⟩ : ∃ S, S = strOfNums (b'.map Int.ofNat) := ⟨_, rfl⟩
  rw [← hS] at k1 hi
  rw [← hS'] at k2 hi
  clear hS hS' h h'
  obtain ⟨t, ht⟩ : ∃ t, t = decide (b = b') := ⟨_, rfl⟩
  have hst : (S.toList == S'.toList) = t := by rw [ht, Bool.eq_iff_iff, beq_iff_eq, decide_eq_true_eq]; exact hi
  rw [← ht]
  clear ht hi
  go_enter Try.func15, Try.ntmps15
  go_wp2
  go_ret
  exact ⟨rfl, rfl⟩

def eqC3 (a b : C3) : Bool := a.i == b.i && (a.j == b.j && a.c == b.c)
theorem eqC3_iff {a b : C3} : eqC3 a b = true ↔ a = b := by
  cases a; cases b; simp [eqC3]
theorem guardC : Try.prog.eqGuardType Try.prog.depth 63 = false := by kernel_rfl
theorem run_eq_con (w : World) (d : Nat) (a b : C3) : (Op.equalIn (d + 2) 63 (.agg (c3v a)) (.agg (c3v b))).run Try.prog w = .ok (eqC3 a b) w := by
  have hS : Try.prog.underlying 63 = some (.struct (Try.prog.fieldsOf 63)) := by kernel_rfl
  have hp : Try.prog.stoodInHeld 63 = false := by kernel_rfl
  have ui := Try.underlying3
  have ai := Try.isAgg3
  have si := Try.sizeOf3
  rw [run_equalIn_agg w (d + 1) 63 _ _ hS hp]
  simp only [Program.fieldsOf, Try.underlying63, c3v]
  go_simp
  by_cases h1 : a.i = b.i <;> by_cases h2 : a.j = b.j <;> by_cases h3 : a.c = b.c <;> simp [h1, h2, h3, eqC3]

theorem samecons_ok (w : World) (v v' : Value) (l l' : List C3) (h : SlC w.heap.size w v l) (h' : SlC w.heap.size w v' l') (hl : l.length ≤ 140737488351232) :
    Calls Try.prog 64 #[v, v'] w fun e w' => e = .returned (.bool (decide (l = l'))) ∧ Below w.heap.size w w' := by
  obtain ⟨a0, cap, rfl, hc⟩ := h
  obtain ⟨a0', cap', rfl, hc'⟩ := h'
  have HC := Lib.hid hc
  have HC' := Lib.hid hc'
  obtain ⟨t, ht⟩ : ∃ t, t = decide (l = l') := ⟨_, rfl⟩
  rw [← ht]
  have HT := Lib.hid ht
  clear hc hc' ht
  by_cases hn : l.length = l'.length
  · have hn' : ((l.length : Int) != (l'.length : Int)) = false := by rw [bne_eq_false_iff_eq]; omega
    have HN := Lib.hid hn
    clear hn
    go_enter Try.func64, Try.ntmps64
    go_wp2
    go_loopw [5] (fun u wr => ∃ k : Nat, k ≤ l.length ∧ u = .int .i64 (k : Int) ∧ Hid (∀ i, i < k → l[i]? = l'[i]?) ∧ Below w.heap.size w wr) (fun u _ => l.length - (intOf u).toNat)
    case atStart => exact ⟨0, by omega, rfl, (fun i hi => by omega), bRefl _⟩
    case round =>
      obtain ⟨k, hk, rfl, he, hbel⟩ := hrel
      by_cases hlt : k < l.length
      · have hlt' : (k : Int) < (l.length : Int) := by omega
        have hlt2 : (k : Int) < (l'.length : Int) := by have := HN.out; omega
        obtain ⟨x, hx⟩ : ∃ x, l[k]? = some x := ⟨_, List.getElem?_eq_getElem hlt⟩
        obtain ⟨y, hy⟩ : ∃ x, l'[k]? = some x := ⟨_, List.getElem?_eq_getElem (by have := HN.out; omega)⟩
        obtain ⟨bb, off, rfl, hbb, g0, g1, g2⟩ := HC.out k x hx
        obtain ⟨bc, off', rfl, hbc, k0, k1, k2⟩ := HC'.out k y hy
        rw [← hbel.cell (p := ⟨bb, _, none⟩) hbb] at g0 g1 g2
        rw [← hbel.cell (p := ⟨bc, _, none⟩) hbc] at k0 k1 k2
        have HXY := Lib.hid (And.intro hx hy)
        clear hx hy
        go_upto_region 6 with (fail)
        refine wp_still mix (by kernel_rfl) ?_
        iterate 8 still_step
        refine wpStill_val (by rfl) (.bool (!eqC3 x y)) (exec_neq 63 (.tmp 20) (.tmp 24) 63 rfl rfl rfl guardC (run_eq_con _ 9998 x y)) ?_
        refine wpStill_nil ?_
        cases hq : eqC3 x y with
        | false =>
          have e1 : Hid (t = false) := by
            show _ = _
            rw [HT.out, decide_eq_false_iff_not]
            rintro rfl
            have h2 := HXY.out.1.symm.trans HXY.out.2
            injection h2 with h2
            rw [eqC3_iff.2 h2] at hq
            cases hq
          clear hq he HXY
          go_wp2
          go_ret
          exact ⟨by rw [e1.out]; rfl, hbel.drew⟩
        | true =>
          have he2 : Hid (∀ i, i < k + 1 → l[i]? = l'[i]?) := fun i hi => by
            by_cases hik : i < k
            · exact he.out i hik
            · obtain rfl : i = k := by omega
              rw [HXY.out.1, HXY.out.2, eqC3_iff.1 hq]
          clear hq he HXY
          go_wp2
          go_roundw
          all_goals first
            | exact ⟨k + 1, by omega, by go_num, he2, hbel.drew⟩
            | ((repeat apply Exists.intro); exact ⟨⟨k + 1, by omega, by go_num, he2, hbel.drew⟩, rfl⟩)
            | (simp [intOf]; omega)
      · obtain rfl : k = l.length := by omega
        have e1 : Hid (t = true) := by
          show _ = _
          rw [HT.out, decide_eq_true_eq]
          exact List.ext_getElem? fun i => by
            by_cases hi : i < l.length
            · exact he.out i hi
            · have := HN.out
              rw [List.getElem?_eq_none (by omega), List.getElem?_eq_none (by omega)]
        clear he hlt hk
        go_wp2
        go_ret
        exact ⟨by rw [e1.out]; rfl, hbel⟩
  · have hn' : ((l.length : Int) != (l'.length : Int)) = true := by rw [bne_iff_ne]; omega
    have e1 : Hid (t = false) := by show _ = _; rw [HT.out, decide_eq_false_iff_not]; rintro rfl; exact hn rfl
    go_enter Try.func64, Try.ntmps64
    go_wp2
    go_ret
    exact ⟨by rw [e1.out]; rfl, bRefl _⟩
end Go.Proofs.Ytfdjdpbiccclfaa
