/- The program's Loops: a copy in new memory. -/
import Derived.Test.YtlhehphikkgobaaHBlks
namespace Go.Proofs.Ytlhehphikkgobaa
open Go Go.RowKit Go.Wr Go.Fl
set_option maxHeartbeats 4000000
set_option maxRecDepth 100000

def arI (n : Nat) (hd pa : Nat → Int) (row : Nat → Sv) : List Ar := (List.range n).map fun i => ⟨hd i, row i, pa i⟩
theorem arI_set {n : Nat} {hd pa : Nat → Int} {row : Nat → Sv} {k : Nat} (hk : k < n) (s : Sv) : (arI n hd pa row).set k ⟨hd k, s, pa k⟩ = arI n hd pa (setF row k s) := by
  apply List.ext_getElem?
  intro i
  rw [List.getElem?_set]
  unfold arI
  simp only [List.length_map, List.length_range, List.getElem?_map]
  by_cases h : k = i
  · subst h
    rw [if_pos rfl, if_pos hk, List.getElem?_range hk]
    simp [setF_self]
  · rw [if_neg h]
    by_cases hi : i < n
    · rw [List.getElem?_range hi]
      simp only [Option.map_some]
      rw [setF_ne (fun e => h e.symm)]
    · rw [List.getElem?_eq_none (by simp; omega)]
      rfl
/-- While the rows of blocks are copied. -/
structure Lc (w : World) (p n : Nat) (hd pa : Nat → Int) (D : Nat → List Int) (a : Option Addr) (c k : Nat) (row : Nat → Sv) (wr : World) : Prop where
  kb : OwR tA w.heap.size wr (.slice a n c) (arI n hd pa row)
  nw : ∀ i, i < k → OwR tI w.heap.size wr (row i).v (D i)
  od : ∀ i, k ≤ i → i < n → SlX tI p w (row i).v (D i)
  bl : Below w.heap.size w wr
theorem Lc.put {w wr w' : World} {p n : Nat} {hd pa : Nat → Int} {D : Nat → List Int} {g c k : Nat} {row : Nat → Sv} (h : Lc w p n hd pa D (some ⟨g, 0, none⟩) c k row wr) (hk : k < n) (b : Below wr.heap.size wr w') {s : Sv} (hs : OwR tI w.heap.size w' s.v (D k)) : Lc w p n hd pa D (some ⟨g, 0, none⟩) c (k + 1) (setF row k s) (w'.setCell ⟨g, k * 3 + 1, none⟩ s.v) := by
  have hkb := h.kb.below b
  obtain ⟨hB, C, hg⟩ := hkb.blk (g := g) rfl
  have h1 := hkb.set (k := k) (j := 1) (x := ⟨hd k, row k, pa k⟩) (y := ⟨hd k, s, pa k⟩) (v := s.v) (by unfold arI; rw [List.getElem?_map, List.getElem?_range hk]; rfl) (by decide) rfl
  rw [arI_set hk] at h1
  refine ⟨h1, fun i hi => ?_, fun i hi hn => ?_, (bThen h.bl b).setCell hB _⟩
  · by_cases e : i = k
    · subst e
      rw [setF_self]
      exact hs.set_other (hs.ne hg (by decide))
    · rw [setF_ne e]
      have := (h.nw i (by omega)).below b
      exact this.set_other (this.ne hg (by decide))
  · rw [setF_ne (by omega)]
    exact h.od i (by omega) hn
theorem loops_ok (w : World) (p n : Nat) (hd pa : Nat → Int) (D : Nat → List Int) (row : Nat → Sv) (vl : Value) (hc : w.cell? ⟨p, 6, none⟩ = some vl) (hl : SlX tA p w vl (arI n hd pa row)) (hr : ∀ i, i < n → SlX tI p w (row i).v (D i)) (hD : ∀ i, i < n → (D i).length ≤ 1048576) (hn : n ≤ 4096) :
    Calls Try.prog 22 #[.pointer (some ⟨p, 0, none⟩)] w fun e w' => Below w.heap.size w w' ∧ ∃ v row', e = .returned v ∧ OwR tA w.heap.size w' v (arI n hd pa row') ∧ ∀ (i : Nat), i < n → OwR tI w.heap.size w' (row' i).v (D i) := by
  obtain ⟨a0, cap, rfl, h1, h2⟩ := hl.form
  have hlen : (arI n hd pa row).length = n := by simp [arI]
  rw [hlen] at hc hl h1
  unfold maxLen at h2
  have HL := Lib.hid hl
  have HR := Lib.hid hr
  have HDD := Lib.hid hD
  clear hl hr hD
  go_enter Try.func22, Try.ntmps22
  go_wp2_with fail
  refine (cloneA_ok _ p _ _ HL.out (by rw [hlen]; omega)).mono ?_
  rintro e w1 ⟨b1, v1, rfl, ho⟩
  obtain ⟨a1, c1, rfl, hc2⟩ : ∃ a c, v1 = .slice a n c ∧ c ≤ maxLen := by
    rcases ho.form with ⟨e, e0⟩ | ⟨g, c, e, _, h3, _⟩
    · rw [e0] at hlen
      simp only [List.length_nil] at hlen
      subst hlen
      exact ⟨_, _, e, by unfold maxLen; omega⟩
    · rw [hlen] at e
      exact ⟨_, _, e, h3⟩
  unfold maxLen at hc2
  have HB := Lib.hid (show Lc w p n hd pa D a1 c1 0 row w1 from ⟨ho, fun i hi => by omega, fun i _ hi => HR.out i hi, b1⟩)
  clear ho b1 hlen
  go_wp2
  go_loopw [12] (fun t wr => ∃ (k : Nat) (row : Nat → Sv), k ≤ n ∧ t = .int .i64 (k : Int) ∧ Hid (Lc w p n hd pa D a1 c1 k row wr)) (fun t _ => n - (intOf t).toNat)
  case atStart => exact ⟨0, _, by omega, rfl, HB.out⟩
  case round =>
    clear HB
    obtain ⟨k, row, hk, rfl, hB⟩ := hrel
    by_cases hlk : k < n
    · have hlk' : (k : Int) < (n : Int) := by omega
      have hk0 : (0 : Int) ≤ (k : Int) := by omega
      obtain ⟨g, rfl⟩ : ∃ g, a1 = some ⟨g, 0, none⟩ := by
        rcases hB.out.kb.form with ⟨e, _⟩ | ⟨g, c, e, _⟩
        · injection e with e1 e2
          omega
        · injection e with e1
          exact ⟨g, e1⟩
      have hat := hB.out.kb.at (k := k) (x := ⟨hd k, row k, pa k⟩) (by unfold arI; rw [List.getElem?_map, List.getElem?_range hlk]; rfl)
      have kn := hat.cell 1 _ rfl
      rw [show 0 + k * tA.n + 1 = k * 3 + 1 by show 0 + k * 3 + 1 = _; omega] at kn
      simp only [Sv.v] at kn
      have hod := hB.out.od k (Nat.le_refl _) hlk
      have hx2 := HDD.out k hlk
      clear hat
      go_wp2_with fail
      refine (cloneI_ok _ p _ _ (hod.below hB.out.bl) (by omega)).mono ?_
      rintro e w2 ⟨b2, v2, rfl, ho2⟩
      obtain ⟨a2, n2, c2, rfl⟩ : ∃ a n c, v2 = .slice a n c := by
        rcases ho2.form with ⟨e, _⟩ | ⟨g, c, e, _⟩
        · exact ⟨_, _, _, e⟩
        · exact ⟨_, _, _, e⟩
      have HP := Lib.hid (hB.out.put hlk b2 (s := ⟨a2, n2, c2⟩) (ho2.mono hB.out.bl.size))
      have kf := (hB.out.kb.below b2).frozen (k * 3 + 1)
      have kn2 : w2.cell? ⟨g, k * 3 + 1, none⟩ = some (.slice (row k).a (row k).n (row k).c) := (b2.cell (p := ⟨g, k * 3 + 1, none⟩) (hB.out.kb.lt rfl)).trans kn
      clear kn b2 ho2 hod hB
      go_wp2
      go_roundw
      all_goals first
        | exact ⟨k + 1, _, by omega, by go_num, HP.out⟩
        | ((repeat apply Exists.intro); exact ⟨⟨k + 1, _, by omega, by go_num, HP.out⟩, rfl⟩)
        | (simp [intOf]; omega)
    · obtain rfl : k = n := by omega
      clear hlk
      go_wp2
      go_ret
      have hB := hB.out
      exact ⟨hB.bl, _, row, rfl, hB.kb, hB.nw⟩
end Go.Proofs.Ytlhehphikkgobaa
