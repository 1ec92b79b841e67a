
/- Small functions of both programs: is it a jump, where it goes, is a number in a list, are two lists the same. -/
import Derived.Test.YtpiiefdaaijgbaaFCo
import Derived.Test.YtpiiefdaaijgbaaFSet
namespace Go.Proofs.Ytpiiefdaaijgbaa
open Go Go.RowKit Go.Wr Go.Fl
set_option maxHeartbeats 4000000
set_option maxRecDepth 100000

theorem SlX.int {p : Nat} {w : World} {a0 : Option Addr} {n cap : Nat} {l : List Int} (h : SlX tI p w (.slice a0 n cap) l) {k : Nat} {x : Int} (hk : l[k]? = some x) :
    ∃ b o, a0 = some ⟨b, o, none⟩ ∧ b ≠ p ∧ b < w.heap.size ∧ w.cell? ⟨b, o + k, none⟩ = some (.int .i64 x) := by
  obtain ⟨b, o, e, hne, hat⟩ := h.get hk
  refine ⟨b, o, e, hne, hat.1, ?_⟩
  have := hat.cell 0 _ rfl
  have e1 : o + k * tI.n + 0 = o + k := by show o + k * 1 + 0 = _; omega
  rw [e1] at this
  exact this
theorem SlX.bool {p : Nat} {w : World} {a0 : Option Addr} {n cap : Nat} {l : List Bool} (h : SlX tB p w (.slice a0 n cap) l) {k : Nat} {x : Bool} (hk : l[k]? = some x) :
    ∃ b o, a0 = some ⟨b, o, none⟩ ∧ b ≠ p ∧ b < w.heap.size ∧ w.cell? ⟨b, o + k, none⟩ = some (.bool x) := by
  obtain ⟨b, o, e, hne, hat⟩ := h.get hk
  refine ⟨b, o, e, hne, hat.1, ?_⟩
  have := hat.cell 0 _ rfl
  have e1 : o + k * tB.n + 0 = o + k := by show o + k * 1 + 0 = _; omega
  rw [e1] at this
  exact this
theorem unitsI_get {l : List In} {m k : Nat} (h : k ≤ m) : (unitsI l m)[k]? = some ((unit l k : Nat) : Int) := by
  unfold unitsI
  rw [List.getElem?_map, List.getElem?_range (by omega)]
  rfl
theorem isJump_ok (w : World) (op : Int) : Calls Try.prog 94 #[.int .i64 op] w fun e w' => e = .returned (.bool (bw op 26 37)) ∧ w' = w := by
  unfold bw
  by_cases h1 : 26 ≤ op
  · go_enter Try.func94, Try.ntmps94
    go_wp2
    go_ret
    exact ⟨retB (by simp [h1]), rfl⟩
  · have h1' : op < 26 := by omega
    go_enter Try.func94, Try.ntmps94
    go_wp2
    go_ret
    exact ⟨retB (by simp; omega), rfl⟩
theorem jumpsR_ok (w : World) (x : In) : Calls Try.prog 73 #[.agg (inv x)] w fun e w' => e = .returned (.bool (jump x)) ∧ Below w.heap.size w w' := by
  obtain ⟨op, nar, reg, sz, dst, src, off, imm⟩ := x
  unfold jump bw inv
  simp only
  by_cases h1 : 26 ≤ op
  · go_enter Try.func73, Try.ntmps73
    go_wp2
    go_ret
    exact ⟨retB (by simp [h1]), bAl (bRefl w) _⟩
  · have h1' : op < 26 := by omega
    go_enter Try.func73, Try.ntmps73
    go_wp2
    go_ret
    exact ⟨retB (by simp; omega), bAl (bRefl w) _⟩
theorem hasR_ok (w : World) (p : Nat) (v : Value) (l : List Int) (x : Int) (h : SlX tI p w v l) : Calls Try.prog 112 #[v, .int .i64 x] w fun e w' => e = .returned (.bool (l.contains x)) ∧ w' = w := by
  obtain ⟨r, hr⟩ : ∃ r, r = l.contains x := ⟨_, rfl⟩
  rw [← hr]
  have HR := Lib.hid hr
  obtain ⟨a0, cap, rfl, h1, h2⟩ := h.form
  have H := Lib.hid h
  unfold maxLen at h2
  clear hr h
  go_enter Try.func112, Try.ntmps112
  go_wp2
  go_loop [5] (fun t => ∃ k : Nat, k ≤ l.length ∧ t = .int .i64 (k : Int) ∧ Hid (r = (l.drop k).contains x)) (fun t => l.length - (intOf t).toNat)
  case atStart => exact ⟨0, by omega, rfl, HR.out⟩
  case round =>
    clear HR
    obtain ⟨k, hk, rfl, hq⟩ := hrel
    by_cases hlt : k < l.length
    · have hlt' : (k : Int) < (l.length : Int) := by omega
      obtain ⟨y, hy⟩ : ∃ y, l[k]? = some y := ⟨_, List.getElem?_eq_getElem hlt⟩
      have hd : l.drop k = y :: l.drop (k + 1) := by
        rw [List.drop_eq_getElem_cons hlt]
        rw [List.getElem?_eq_getElem hlt] at hy
        injection hy with hy
        rw [hy]
      have hq2 := hq.out
      rw [hd, List.contains_cons] at hq2
      obtain ⟨b, o, rfl, _, _, hc⟩ := SlX.int H.out hy
      have HQ := Lib.hid hq2
      clear hq hq2 hd hy
      by_cases e : y = x
      · have e1 : Hid (r = true) := by show _ = _; rw [HQ.out, e]; simp
        subst e
        clear HQ
        go_wp2
        go_ret
        exact ⟨retB e1.out.symm, rfl⟩
      · have e1 : Hid (r = (l.drop (k + 1)).contains x) := by
          show _ = _
          have hb : (x == y) = false := by simpa using fun h => e h.symm
          rw [HQ.out, hb, Bool.false_or]
        have e2 : (y == x) = false := by simpa using e
        clear HQ e
        go_wp2
        go_round
        case rel => exact ⟨k + 1, by omega, by go_num, e1⟩
        case measure => simp [intOf]; omega
    · obtain rfl : k = l.length := by omega
      have e1 : Hid (r = false) := by show _ = _; rw [hq.out, List.drop_length]; rfl
      clear hlt hq
      go_wp2
      go_ret
      exact ⟨retB e1.out.symm, rfl⟩
theorem sameInts_ok (w : World) (p q : Nat) (v v' : Value) (l l' : List Int) (h : SlX tI p w v l) (h' : SlX tI q w v' l') :
    Calls Try.prog 25 #[v, v'] w fun e w' => e = .returned (.bool (decide (l = l'))) ∧ Below w.heap.size w w' := by
  obtain ⟨r, hr⟩ : ∃ r, r = decide (l = l') := ⟨_, rfl⟩
  rw [← hr]
  have HR := Lib.hid hr
  obtain ⟨a0, cap, rfl, h1, h2⟩ := h.form
  obtain ⟨a1, cap', rfl, h1', h2'⟩ := h'.form
  have H := Lib.hid h
  have H' := Lib.hid h'
  unfold maxLen at h2 h2'
  clear hr h h'
  by_cases hn : l.length = l'.length
  · have hn1 : ((l.length : Int) != (l'.length : Int)) = false := by rw [bne_eq_false_iff_eq]; omega
    have HN := Lib.hid hn
    clear hn
    go_enter Try.func25, Try.ntmps25
    go_wp2
    go_loopw [5] (fun t wr => ∃ k : Nat, k ≤ l.length ∧ t = .int .i64 (k : Int) ∧ Hid (∀ i, i < k → l[i]? = l'[i]?) ∧ Below w.heap.size w wr) (fun t _ => l.length - (intOf t).toNat)
    case atStart => exact ⟨0, by omega, rfl, (fun i hi => by omega), bRefl w⟩
    case round =>
      obtain ⟨k, hk, rfl, hq, hb⟩ := hrel
      by_cases hlt : k < l.length
      · have hlt' : (k : Int) < (l.length : Int) := by omega
        have hlt2 : (k : Int) < (l'.length : Int) := by have := HN.out; omega
        have hk0 : (0 : Int) ≤ (k : Int) := by omega
        obtain ⟨y, hy⟩ : ∃ y, l[k]? = some y := ⟨_, List.getElem?_eq_getElem hlt⟩
        obtain ⟨z, hz⟩ : ∃ y, l'[k]? = some y := ⟨_, List.getElem?_eq_getElem (by have := HN.out; omega)⟩
        obtain ⟨b, o, rfl, _, _, hc⟩ := SlX.int (H.out.below hb) hy
        obtain ⟨b', o', rfl, _, _, hc'⟩ := SlX.int (H'.out.below hb) hz
        have HYZ := Lib.hid (And.intro hy hz)
        clear hy hz
        go_upto_region 6 with (fail)
        go_quiet (fail)
        rename_i nq _
        have hb2 := bDraw hb nq
        by_cases e : y = z
        · have e1 : Hid (∀ i, i < k + 1 → l[i]? = l'[i]?) := fun i hi => by
            by_cases hik : i < k
            · exact hq.out i hik
            · obtain rfl : i = k := by omega
              rw [HYZ.out.1, HYZ.out.2, e]
          have e2 : (y != z) = false := by simp [e]
          clear HYZ e hq
          go_wp2
          go_roundw
          all_goals first
            | exact ⟨k + 1, by omega, by go_num, e1, hb2⟩
            | ((repeat apply Exists.intro); exact ⟨⟨k + 1, by omega, by go_num, e1, hb2⟩, rfl⟩)
            | (simp [intOf]; omega)
        · have e1 : Hid (r = false) := by
            show _ = _
            rw [HR.out, decide_eq_false_iff_not]
            rintro rfl
            have h3 := HYZ.out.1.symm.trans HYZ.out.2
            injection h3 with h3
            exact e h3
          have e2 : (y != z) = true := by simp [e]
          clear HYZ e hq
          go_wp2
          go_ret
          exact ⟨retB e1.out.symm, hb2⟩
      · obtain rfl : k = l.length := by omega
        have e1 : Hid (r = true) := by
          show _ = _
          rw [HR.out, decide_eq_true_iff]
          refine List.ext_getElem? fun i => ?_
          by_cases hi : i < l.length
          · exact hq.out i hi
          · have := HN.out
            rw [List.getElem?_eq_none (by omega), List.getElem?_eq_none (by omega)]
        clear hlt hq
        go_wp2
        go_ret
        exact ⟨retB e1.out.symm, hb⟩
  · have hn1 : ((l.length : Int) != (l'.length : Int)) = true := by rw [bne_iff_ne]; omega
    have e1 : Hid (r = false) := by show _ = _; rw [HR.out, decide_eq_false_iff_not]; exact fun e => hn (congrArg List.length e)
    clear hn
    go_enter Try.func25, Try.ntmps25
    go_wp2
    go_ret
    exact ⟨retB e1.out.symm, bRefl w⟩
theorem lawSameInts_ok (w : World) (p q : Nat) (v v' : Value) (l l' : List Int) (h : SlX tI p w v l) (h' : SlX tI q w v' l') :
    Calls Try.prog 40 #[v, v'] w fun e w' => e = .returned (.bool (decide (l = l'))) ∧ Below w.heap.size w w' := by
  have H := Lib.hid (And.intro h h')
  clear h h'
  go_enter Try.func40, Try.ntmps40
  go_wp2_with fail
  refine (sameInts_ok _ p q v v' l l' H.out.1 H.out.2).mono ?_
  rintro e w1 ⟨rfl, b1⟩
  go_wp2
  go_ret
  exact ⟨rfl, b1⟩
end Go.Proofs.Ytpiiefdaaijgbaa
