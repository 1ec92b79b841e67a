/- FlowFresh: the flow's answers as rows that lie apart; what the law's rounds keep in memory. No conditions but those that each names. -/
import Derived.Test.YtpiiefdaaijgbaaHAll
import Derived.Test.YtpiiefdaaijgbaaHBase
import Derived.Test.YtpiiefdaaijgbaaHMade
import Derived.Test.YtpiiefdaaijgbaaHLed
/- Blocks and Loops once more: the copies' rows lie apart (printed by gen_apart.py out of our own XHAll). -/
namespace Go.Proofs.Ytpiiefdaaijgbaa
open Go Go.RowKit Go.Wr Go.Fl
set_option maxHeartbeats 4000000
set_option maxRecDepth 100000

/-- While the rows of edges are copied. -/
structure Bc2 (w : World) (p : Nat) (l : List In) (g c k : Nat) (row : Nat → Sv) (wr : World) : Prop where
  kb : OwR tK w.heap.size wr (.slice (some ⟨g, 0, none⟩) (nB l) c) (bkI (nB l) (frF l) (twF l) row)
  nw : ∀ i, i < k → OwR tI w.heap.size wr (row i).v (nI (nxt l i))
  od : ∀ i, k ≤ i → i < nB l → SlX tI p w (row i).v (nI (nxt l i))
  bl : Below w.heap.size w wr
  ap : ∀ i j, i < j → j < k → ∀ q, (row i).v.ownBlock = some q → (row j).v.ownBlock ≠ some q
theorem Bc2.put {w wr w' : World} {p : Nat} {l : List In} {g c k : Nat} {row : Nat → Sv} (h : Bc2 w p l g c k row wr) (hk : k < nB l) (b : Below wr.heap.size wr w') {s : Sv} (hs : OwR tI w.heap.size w' s.v (nI (nxt l k))) (hq : ∀ q, s.v.ownBlock = some q → wr.heap.size ≤ q) : Bc2 w p l g c (k + 1) (setF row k s) (w'.setCell ⟨g, k * 3 + 2, none⟩ s.v) := by
  have hkb := h.kb.below b
  obtain ⟨hB, C, hg⟩ := hkb.blk (g := g) rfl
  have h1 := hkb.set (k := k) (j := 2) (x := ⟨frF l k, twF l k, row k⟩) (y := ⟨frF l k, twF l k, s⟩) (v := s.v) (by unfold bkI; rw [List.getElem?_map, List.getElem?_range hk]; rfl) (by decide) rfl
  rw [bkI_set hk] at h1
  refine ⟨h1, fun i hi => ?_, fun i hi hn => ?_, (bThen h.bl b).setCell hB _, fun i j hij hj q hqi hqj => ?_⟩
  · by_cases e : i = k
    · subst e
      rw [setF_self]
      exact hs.set_other (hs.ne hg (by decide))
    · rw [setF_ne e]
      have := (h.nw i (by omega)).below b
      exact this.set_other (this.ne hg (by decide))
  · rw [setF_ne (by omega)]
    exact h.od i (by omega) hn
  · by_cases e : j = k
    · subst e
      rw [setF_ne (by omega)] at hqi
      rw [setF_self] at hqj
      have h2 := (h.nw i (by omega)).lt hqi
      have h3 := hq q hqj
      omega
    · rw [setF_ne (by omega)] at hqi
      rw [setF_ne e] at hqj
      exact h.ap i j hij (by omega) q hqi hqj
theorem blocks_ap (w : World) (p : Nat) (l : List In) (vb va vo : Value) (bs : List Bk) (ss : List Sv) (h : Fw p l vb va vo bs ss w) (hc : w.cell? ⟨p, 0, none⟩ = some vb) (hn0 : 0 < nB l) (hn : nB l ≤ 4096) :
    Calls Try.prog 26 #[.pointer (some ⟨p, 0, none⟩)] w fun e w' => Below w.heap.size w w' ∧ ∃ v row, e = .returned v ∧ OwR tK w.heap.size w' v (bkI (nB l) (frF l) (twF l) row) ∧ (∀ i, i < nB l → OwR tI w.heap.size w' (row i).v (nI (nxt l i))) ∧ ∀ i j, i < j → j < nB l → ∀ q, (row i).v.ownBlock = some q → (row j).v.ownBlock ≠ some q := by
  obtain ⟨a0, cap, rfl, h1, h2⟩ := h.sb.form
  rw [h.lb] at hc h h1
  unfold maxLen at h2
  have H := Lib.hid h
  have hrow : bs = bkI (nB l) (frF l) (twF l) (fun i => ((bs[i]?).map (·.nx)).getD ⟨none, 0, 0⟩) := by
    apply List.ext_getElem?
    intro i
    unfold bkI
    by_cases hi : i < nB l
    · obtain ⟨k, hk⟩ : ∃ k, bs[i]? = some k := ⟨_, List.getElem?_eq_getElem (by rw [h.lb]; exact hi)⟩
      obtain ⟨e1, e2, _⟩ := h.nb i k hk
      rw [List.getElem?_map, List.getElem?_range hi]
      simp only [Option.map_some]
      rw [← e1, ← e2, hk]
      rfl
    · rw [List.getElem?_eq_none (by rw [h.lb]; omega), List.getElem?_eq_none (by simp; omega)]
  have HROW := Lib.hid hrow
  have HLB := Lib.hid h.lb
  clear h hrow
  go_enter Try.func26, Try.ntmps26
  go_wp2_with fail
  refine (cloneB_ok _ p _ bs H.out.sb (by rw [HLB.out]; omega)).mono ?_
  rintro e w1 ⟨b1, v1, rfl, ho⟩
  rcases ho.form with ⟨_, e⟩ | ⟨g, c, rfl, hc1, hc2, _⟩
  · exfalso
    have := congrArg List.length e
    rw [HLB.out] at this
    simp only [List.length_nil] at this
    omega
  · rw [HLB.out] at ho hc1 ⊢
    rw [HROW.out] at ho
    have HB := Lib.hid (show Bc2 w p l g c 0 (fun i => ((bs[i]?).map (·.nx)).getD ⟨none, 0, 0⟩) w1 from ⟨ho, fun i hi => by omega, fun i _ hi => by
      obtain ⟨k, hk⟩ : ∃ k, bs[i]? = some k := ⟨_, List.getElem?_eq_getElem (by rw [HLB.out]; exact hi)⟩
      rw [hk]
      exact (H.out.nb i k hk).2.2, b1, fun i j _ hj => by omega⟩)
    unfold maxLen at hc2
    clear ho b1
    go_wp2
    go_loopw [12] (fun t wr => ∃ (k : Nat) (row : Nat → Sv), k ≤ nB l ∧ t = .int .i64 (k : Int) ∧ Hid (Bc2 w p l g c k row wr)) (fun t _ => nB l - (intOf t).toNat)
    case atStart => exact ⟨0, _, by omega, rfl, HB.out⟩
    case round =>
      clear HB
      obtain ⟨k, row, hk, rfl, hB⟩ := hrel
      by_cases hlk : k < nB l
      · have hlk' : (k : Int) < (nB l : Int) := by omega
        have hk0 : (0 : Int) ≤ (k : Int) := by omega
        have hat := hB.out.kb.at (k := k) (x := ⟨frF l k, twF l k, row k⟩) (by unfold bkI; rw [List.getElem?_map, List.getElem?_range hlk]; rfl)
        have kn := hat.cell 2 _ rfl
        rw [show 0 + k * tK.n + 2 = k * 3 + 2 by show 0 + k * 3 + 2 = _; omega] at kn
        simp only [Sv.v] at kn
        have hod := hB.out.od k (Nat.le_refl _) hlk
        have hx2 := nxt_two l k
        clear hat
        go_wp2_with fail
        refine (cloneI_ok _ p _ _ (hod.below hB.out.bl) (by rw [nI_len]; omega)).mono ?_
        rintro e w2 ⟨b2, v2, rfl, ho2⟩
        obtain ⟨a2, n2, c2, rfl⟩ : ∃ a n c, v2 = .slice a n c := by
          rcases ho2.form with ⟨e, _⟩ | ⟨g, c, e, _⟩
          · exact ⟨_, _, _, e⟩
          · exact ⟨_, _, _, e⟩
        have HP := Lib.hid (hB.out.put hlk b2 (s := ⟨a2, n2, c2⟩) (ho2.mono hB.out.bl.size) (fun q hq => (ho2.blk hq).1))
        have kf := (hB.out.kb.below b2).frozen (k * 3 + 2)
        have kn2 : w2.cell? ⟨g, k * 3 + 2, none⟩ = some (.slice (row k).a (row k).n (row k).c) := (b2.cell (p := ⟨g, k * 3 + 2, none⟩) (hB.out.kb.lt rfl)).trans kn
        clear kn b2 ho2 hod hB
        go_wp2
        go_roundw
        all_goals first
          | exact ⟨k + 1, _, by omega, by go_num, HP.out⟩
          | ((repeat apply Exists.intro); exact ⟨⟨k + 1, _, by omega, by go_num, HP.out⟩, rfl⟩)
          | (simp [intOf]; omega)
      · obtain rfl : k = nB l := by omega
        clear hlk
        go_wp2
        go_ret
        have hB := hB.out
        exact ⟨hB.bl, _, row, rfl, hB.kb, hB.nw, hB.ap⟩
/-- While the rows of blocks are copied. -/
structure Lc2 (w : World) (p n : Nat) (hd pa : Nat → Int) (D : Nat → List Int) (a : Option Addr) (c k : Nat) (row : Nat → Sv) (wr : World) : Prop where
  kb : OwR tA w.heap.size wr (.slice a n c) (arI n hd pa row)
  nw : ∀ i, i < k → OwR tI w.heap.size wr (row i).v (D i)
  od : ∀ i, k ≤ i → i < n → SlX tI p w (row i).v (D i)
  bl : Below w.heap.size w wr
  ap : ∀ i j, i < j → j < k → ∀ q, (row i).v.ownBlock = some q → (row j).v.ownBlock ≠ some q
theorem Lc2.put {w wr w' : World} {p n : Nat} {hd pa : Nat → Int} {D : Nat → List Int} {g c k : Nat} {row : Nat → Sv} (h : Lc2 w p n hd pa D (some ⟨g, 0, none⟩) c k row wr) (hk : k < n) (b : Below wr.heap.size wr w') {s : Sv} (hs : OwR tI w.heap.size w' s.v (D k)) (hq : ∀ q, s.v.ownBlock = some q → wr.heap.size ≤ q) : Lc2 w p n hd pa D (some ⟨g, 0, none⟩) c (k + 1) (setF row k s) (w'.setCell ⟨g, k * 3 + 1, none⟩ s.v) := by
  have hkb := h.kb.below b
  obtain ⟨hB, C, hg⟩ := hkb.blk (g := g) rfl
  have h1 := hkb.set (k := k) (j := 1) (x := ⟨hd k, row k, pa k⟩) (y := ⟨hd k, s, pa k⟩) (v := s.v) (by unfold arI; rw [List.getElem?_map, List.getElem?_range hk]; rfl) (by decide) rfl
  rw [arI_set hk] at h1
  refine ⟨h1, fun i hi => ?_, fun i hi hn => ?_, (bThen h.bl b).setCell hB _, fun i j hij hj q hqi hqj => ?_⟩
  · by_cases e : i = k
    · subst e
      rw [setF_self]
      exact hs.set_other (hs.ne hg (by decide))
    · rw [setF_ne e]
      have := (h.nw i (by omega)).below b
      exact this.set_other (this.ne hg (by decide))
  · rw [setF_ne (by omega)]
    exact h.od i (by omega) hn
  · by_cases e : j = k
    · subst e
      rw [setF_ne (by omega)] at hqi
      rw [setF_self] at hqj
      have h2 := (h.nw i (by omega)).lt hqi
      have h3 := hq q hqj
      omega
    · rw [setF_ne (by omega)] at hqi
      rw [setF_ne e] at hqj
      exact h.ap i j hij (by omega) q hqi hqj
theorem loops_ap (w : World) (p n : Nat) (hd pa : Nat → Int) (D : Nat → List Int) (row : Nat → Sv) (vl : Value) (hc : w.cell? ⟨p, 6, none⟩ = some vl) (hl : SlX tA p w vl (arI n hd pa row)) (hr : ∀ i, i < n → SlX tI p w (row i).v (D i)) (hD : ∀ i, i < n → (D i).length ≤ 1048576) (hn : n ≤ 4096) :
    Calls Try.prog 27 #[.pointer (some ⟨p, 0, none⟩)] w fun e w' => Below w.heap.size w w' ∧ ∃ v row', e = .returned v ∧ OwR tA w.heap.size w' v (arI n hd pa row') ∧ (∀ (i : Nat), i < n → OwR tI w.heap.size w' (row' i).v (D i)) ∧ ∀ i j, i < j → j < n → ∀ q, (row' i).v.ownBlock = some q → (row' j).v.ownBlock ≠ some q := by
  obtain ⟨a0, cap, rfl, h1, h2⟩ := hl.form
  have hlen : (arI n hd pa row).length = n := by simp [arI]
  rw [hlen] at hc hl h1
  unfold maxLen at h2
  have HL := Lib.hid hl
  have HR := Lib.hid hr
  have HDD := Lib.hid hD
  clear hl hr hD
  go_enter Try.func27, Try.ntmps27
  go_wp2_with fail
  refine (cloneA_ok _ p _ _ HL.out (by rw [hlen]; omega)).mono ?_
  rintro e w1 ⟨b1, v1, rfl, ho⟩
  obtain ⟨a1, c1, rfl, hc2⟩ : ∃ a c, v1 = .slice a n c ∧ c ≤ maxLen := by
    rcases ho.form with ⟨e, e0⟩ | ⟨g, c, e, _, h3, _⟩
    · rw [e0] at hlen
      simp only [List.length_nil] at hlen
      subst hlen
      exact ⟨_, _, e, by unfold maxLen; omega⟩
    · rw [hlen] at e
      exact ⟨_, _, e, h3⟩
  unfold maxLen at hc2
  have HB := Lib.hid (show Lc2 w p n hd pa D a1 c1 0 row w1 from ⟨ho, fun i hi => by omega, fun i _ hi => HR.out i hi, b1, fun i j _ hj => by omega⟩)
  clear ho b1 hlen
  go_wp2
  go_loopw [12] (fun t wr => ∃ (k : Nat) (row : Nat → Sv), k ≤ n ∧ t = .int .i64 (k : Int) ∧ Hid (Lc2 w p n hd pa D a1 c1 k row wr)) (fun t _ => n - (intOf t).toNat)
  case atStart => exact ⟨0, _, by omega, rfl, HB.out⟩
  case round =>
    clear HB
    obtain ⟨k, row, hk, rfl, hB⟩ := hrel
    by_cases hlk : k < n
    · have hlk' : (k : Int) < (n : Int) := by omega
      have hk0 : (0 : Int) ≤ (k : Int) := by omega
      obtain ⟨g, rfl⟩ : ∃ g, a1 = some ⟨g, 0, none⟩ := by
        rcases hB.out.kb.form with ⟨e, _⟩ | ⟨g, c, e, _⟩
        · injection e with e1 e2
          omega
        · injection e with e1
          exact ⟨g, e1⟩
      have hat := hB.out.kb.at (k := k) (x := ⟨hd k, row k, pa k⟩) (by unfold arI; rw [List.getElem?_map, List.getElem?_range hlk]; rfl)
      have kn := hat.cell 1 _ rfl
      rw [show 0 + k * tA.n + 1 = k * 3 + 1 by show 0 + k * 3 + 1 = _; omega] at kn
      simp only [Sv.v] at kn
      have hod := hB.out.od k (Nat.le_refl _) hlk
      have hx2 := HDD.out k hlk
      clear hat
      go_wp2_with fail
      refine (cloneI_ok _ p _ _ (hod.below hB.out.bl) (by omega)).mono ?_
      rintro e w2 ⟨b2, v2, rfl, ho2⟩
      obtain ⟨a2, n2, c2, rfl⟩ : ∃ a n c, v2 = .slice a n c := by
        rcases ho2.form with ⟨e, _⟩ | ⟨g, c, e, _⟩
        · exact ⟨_, _, _, e⟩
        · exact ⟨_, _, _, e⟩
      have HP := Lib.hid (hB.out.put hlk b2 (s := ⟨a2, n2, c2⟩) (ho2.mono hB.out.bl.size) (fun q hq => (ho2.blk hq).1))
      have kf := (hB.out.kb.below b2).frozen (k * 3 + 1)
      have kn2 : w2.cell? ⟨g, k * 3 + 1, none⟩ = some (.slice (row k).a (row k).n (row k).c) := (b2.cell (p := ⟨g, k * 3 + 1, none⟩) (hB.out.kb.lt rfl)).trans kn
      clear kn b2 ho2 hod hB
      go_wp2
      go_roundw
      all_goals first
        | exact ⟨k + 1, _, by omega, by go_num, HP.out⟩
        | ((repeat apply Exists.intro); exact ⟨⟨k + 1, _, by omega, by go_num, HP.out⟩, rfl⟩)
        | (simp [intOf]; omega)
    · obtain rfl : k = n := by omega
      clear hlk
      go_wp2
      go_ret
      have hB := hB.out
      exact ⟨hB.bl, _, row, rfl, hB.kb, hB.nw, hB.ap⟩
end Go.Proofs.Ytpiiefdaaijgbaa

/- FlowFresh: the flow's answers as rows of the caller's own, which lie apart. -/
namespace Go.Proofs.Ytpiiefdaaijgbaa
open Go Go.RowKit Go.Wr Go.Fl
set_option maxHeartbeats 4000000
set_option maxRecDepth 100000

def tKK : RT Try.prog Sv := ⟨47, 69, 1, 24, .slice none 0 0, fun s => [s.v], fun _ => rfl, fun _ => oneSimp rfl, by kernel_rfl, by kernel_rfl, by decide, by decide⟩
def tAA : RT Try.prog Sv := ⟨49, 70, 1, 24, .slice none 0 0, fun s => [s.v], fun _ => rfl, fun _ => oneSimp rfl, by kernel_rfl, by kernel_rfl, by decide, by decide⟩
theorem bkI_get {n : Nat} {f t : Nat → Nat} {row : Nat → Sv} {i : Nat} (hi : i < n) : (bkI n f t row)[i]? = some ⟨f i, t i, row i⟩ := by
  unfold bkI
  rw [List.getElem?_map, List.getElem?_range hi]
  rfl
theorem FinP.blocksO {l : List In} {p : Nat} {w : World} (h : FinP l p w) : Calls Try.prog 26 #[.pointer (some ⟨p, 0, none⟩)] w fun e w' => Below w.heap.size w w' ∧ ∃ v row, e = .returned v ∧ OwR tK w.heap.size w' v (bkI (nB l) (frF l) (twF l) row) ∧ (∀ i, i < nB l → OwR tI w.heap.size w' (row i).v (nI (nxt l i))) ∧ (∀ i j, i < j → j < nB l → ∀ q, (row i).v.ownBlock = some q → (row j).v.ownBlock ≠ some q) ∧ Bd p w' v (dB l) := by
  obtain ⟨g, ab, cb, b4, o4, b5, o5, c4, c5, va, vo, vr, vl, bs, ss, E, d, h⟩ := h
  refine (blocks_ap w p l _ va vo bs ss h.fw (h.blk.cell 0) g.pos (by have := g.n512; omega)).mono ?_
  rintro e w' ⟨b, v, row, rfl, ho, hr, hap⟩
  refine ⟨b, v, row, rfl, ho, hr, hap, _, ho.sl (ne_low ho h.blk.lt), by rw [dB_len]; simp [bkI], fun i k d hk hd => ?_⟩
  have hi : i < nB l := by have := (List.getElem?_eq_some_iff.1 hd).1; rw [dB_len] at this; exact this
  rw [dB_get hi] at hd
  cases hd
  rw [bkI_get hi] at hk
  injection hk with hk
  subst hk
  exact ⟨rfl, rfl, (hr i hi).sl (ne_low (hr i hi) h.blk.lt)⟩
theorem FinP.loopsO {l : List In} {p : Nat} {w : World} (h : FinP l p w) : Calls Try.prog 27 #[.pointer (some ⟨p, 0, none⟩)] w fun e w' => Below w.heap.size w w' ∧ ∃ v row, e = .returned v ∧ OwR tA w.heap.size w' v (arI (heads l).length (fun i => (((heads l).getD i 0 : Nat) : Int)) (fun i => parK l i (heads l).length) row) ∧ (∀ i, i < (heads l).length → OwR tI w.heap.size w' (row i).v (nI (ins (lpB l ((heads l).getD i 0)) (nB l)))) ∧ (∀ i j, i < j → j < (heads l).length → ∀ q, (row i).v.ownBlock = some q → (row j).v.ownBlock ≠ some q) ∧ Ld p w' v (dL l) := by
  obtain ⟨g, ab, cb, b4, o4, b5, o5, c4, c5, va, vo, vr, vl, bs, ss, E, d, h⟩ := h
  have hE : E.length = (heads l).length := by rw [← h.hd, List.length_map]
  have hhd : ∀ i e, E[i]? = some e → (heads l).getD i 0 = e.hd := fun i e he => by
    rw [← h.hd, List.getD_eq_getElem?_getD, List.getElem?_map, he]; rfl
  have hrow : arL E (fun i => parK l i (heads l).length) = arI (heads l).length (fun i => (((heads l).getD i 0 : Nat) : Int)) (fun i => parK l i (heads l).length) (fun i => ((E[i]?).map (·.bl)).getD ⟨none, 0, 0⟩) := by
    apply List.ext_getElem?
    intro i
    by_cases hi : i < (heads l).length
    · obtain ⟨e, he⟩ : ∃ e, E[i]? = some e := ⟨_, List.getElem?_eq_getElem (by rw [hE]; exact hi)⟩
      rw [arL_get he]
      unfold arI
      rw [List.getElem?_map, List.getElem?_range hi]
      simp only [Option.map_some]
      rw [hhd i e he, he]
      rfl
    · rw [List.getElem?_eq_none (by rw [arL_len, hE]; omega), List.getElem?_eq_none (by simp [arI]; omega)]
  have hla := h.la
  rw [hrow] at hla
  refine (loops_ap w p (heads l).length _ _ (fun i => nI (ins (lpB l ((heads l).getD i 0)) (nB l))) _ vl (h.blk.cell 6) hla (fun i hi => ?_) (fun i hi => ?_) (by have := g.hd8; omega)).mono ?_
  · obtain ⟨e, he⟩ : ∃ e, E[i]? = some e := ⟨_, List.getElem?_eq_getElem (by rw [hE]; exact hi)⟩
    simp only [he, Option.map_some, Option.getD_some]
    rw [hhd i e he]
    exact h.el e (List.mem_of_getElem? he)
  · rw [nI_len]
    unfold ins
    refine Nat.le_trans (List.length_filter_le _ _) ?_
    rw [List.length_range]
    have := g.n512
    omega
  · rintro e w' ⟨b, v, row', rfl, ho, hr, hap⟩
    refine ⟨b, v, row', rfl, ho, hr, hap, _, ho.sl (ne_low ho h.blk.lt), by rw [dL_len]; simp [arI], fun i k d hk hd => ?_⟩
    have hi : i < (heads l).length := by rw [← dL_len]; exact (List.getElem?_eq_some_iff.1 hd).1
    rw [dL_get hi] at hd
    cases hd
    unfold arI at hk
    rw [List.getElem?_map, List.getElem?_range hi] at hk
    cases hk
    exact ⟨rfl, rfl, (hr i hi).sl (ne_low (hr i hi) h.blk.lt)⟩
theorem FinP.orderO {l : List In} {p : Nat} {w : World} (h : FinP l p w) : Calls Try.prog 37 #[.pointer (some ⟨p, 0, none⟩)] w fun e w' => Below w.heap.size w w' ∧ ∃ v, e = .returned v ∧ OwR tI w.heap.size w' v (nI (dfsL (nxt l)).reverse) ∧ p < w.heap.size := by
  obtain ⟨g, ab, cb, b4, o4, b5, o5, c4, c5, va, vo, vr, vl, bs, ss, E, d, h⟩ := h
  refine (order_ok w p p vr _ (h.blk.cell 3) h.ro (by rw [nI_len, List.length_reverse, g.len]; have := g.n512; omega)).mono ?_
  rintro e w' ⟨b, v, rfl, ho⟩
  exact ⟨b, v, rfl, ho, h.blk.lt⟩
end Go.Proofs.Ytpiiefdaaijgbaa

/- FlowFresh: what the law's rounds keep in memory. No conditions. -/
namespace Go.Proofs.Ytpiiefdaaijgbaa
open Go Go.RowKit Go.Wr Go.Fl
set_option maxHeartbeats 4000000
set_option maxRecDepth 100000

/-- What the caller made of the blocks at round m, of the loops. -/
def clK (nb m : Nat) : List Bk := (List.range nb).map (fun i : Nat => ⟨-1000 * (m : Int) - (i : Int), 0, ⟨none, 0, 0⟩⟩) ++ [⟨-7 - (m : Int), 0, ⟨none, 0, 0⟩⟩]
def clA (nl m : Nat) : List Ar := (List.range nl).map (fun i : Nat => ⟨-1000 * (m : Int) - (i : Int), ⟨none, 0, 0⟩, 0⟩) ++ [⟨-7 - (m : Int), ⟨none, 0, 0⟩, 0⟩]
/-- The state at round k. -/
structure Fs (w2 : World) (nb nl pl k k2 n : Nat) (U : Nat → Prop) (kv lv : Sv) (ks ls : List Sv) (w : World) : Prop where
  bel : Below w2.heap.size w2 w
  led : Led U pl n w
  up : ∀ b, U b → w2.heap.size ≤ b
  dn : ∀ b, U b → b < w.heap.size
  ko : OwR tKK w2.heap.size w kv.v ks
  kc : ∀ g, kv.v.ownBlock = some g → ¬ U g
  kr : ∀ (m : Nat) (s : Sv), ks[m]? = some s → OwR tK w2.heap.size w s.v (clK nb m) ∧ ∀ g, s.v.ownBlock = some g → ¬ U g
  kn : ks.length = k
  lo : OwR tAA w2.heap.size w lv.v ls
  lc : ∀ g, lv.v.ownBlock = some g → ¬ U g
  lr : ∀ (m : Nat) (s : Sv), ls[m]? = some s → OwR tA w2.heap.size w s.v (clA nl m) ∧ ∀ g, s.v.ownBlock = some g → ¬ U g
  ln : ls.length = k2
theorem own_ne {α β : Type} {R : RT Try.prog α} {R' : RT Try.prog β} {B B' : Nat} {w : World} {v v' : Value} {l : List α} {l' : List β} (h : OwR R B w v l) (h' : OwR R' B' w v' l') (hT : R.T ≠ R'.T) {g : Nat} (hg : v.ownBlock = some g) : v'.ownBlock ≠ some g := fun e => by
  obtain ⟨_, C, hb⟩ := h.blk hg
  exact h'.ne hb (Ne.symm hT) e
theorem Fs.below {w2 w w' : World} {nb nl pl k k2 n : Nat} {U : Nat → Prop} {kv lv : Sv} {ks ls : List Sv} (h : Fs w2 nb nl pl k k2 n U kv lv ks ls w) (b : Below w.heap.size w w') : Fs w2 nb nl pl k k2 n U kv lv ks ls w' :=
  ⟨⟨b.os.trans h.bel.os, b.tape.trans h.bel.tape, b.output.trans h.bel.output, Nat.le_trans h.bel.size b.size, fun q hq => (b.block q (Nat.lt_of_lt_of_le hq h.bel.size)).trans (h.bel.block q hq)⟩,
    h.led.keep b.os b.tape b.output b.size (fun q hq _ => b.block q hq), h.up, fun q hq => Nat.lt_of_lt_of_le (h.dn q hq) b.size, h.ko.below b, h.kc, fun m s hm => ⟨(h.kr m s hm).1.below b, (h.kr m s hm).2⟩, h.kn, h.lo.below b, h.lc, fun m s hm => ⟨(h.lr m s hm).1.below b, (h.lr m s hm).2⟩, h.ln⟩
/-- A row was handed to the ledger. -/
theorem Fs.own {w2 w w' : World} {nb nl pl k k2 n : Nat} {U : Nat → Prop} {kv lv : Sv} {ks ls : List Sv} (h : Fs w2 nb nl pl k k2 n U kv lv ks ls w) {v : Value} {l : List Int} (hv : OwR tI w2.heap.size w v l) (fu : Fu (fun b => U b ∨ v.ownBlock = some b) w w') (led : Led (fun b => U b ∨ v.ownBlock = some b ∨ (w.heap.size ≤ b ∧ b < w'.heap.size)) pl (n + 1) w') :
    Fs w2 nb nl pl k k2 (n + 1) (fun b => U b ∨ v.ownBlock = some b ∨ (w.heap.size ≤ b ∧ b < w'.heap.size)) kv lv ks ls w' := by
  have keep : ∀ {α : Type} {R : RT Try.prog α} {u : Value} {m : List α}, OwR R w2.heap.size w u m → R.T ≠ 3 → (∀ g, u.ownBlock = some g → ¬ U g) → OwR R w2.heap.size w' u m ∧ ∀ g, u.ownBlock = some g → ¬ (U g ∨ v.ownBlock = some g ∨ (w.heap.size ≤ g ∧ g < w'.heap.size)) := fun ho hT hu =>
    ⟨ho.keep fun g hg => fu.block g (ho.lt hg) (fun e => e.elim (hu g hg) (own_ne ho hv hT hg)), fun g hg e => by
      rcases e with e | e | e
      · exact hu g hg e
      · exact own_ne ho hv hT hg e
      · have := ho.lt hg; omega⟩
  obtain ⟨k1, k2⟩ := keep h.ko (by decide) h.kc
  obtain ⟨l1, l2⟩ := keep h.lo (by decide) h.lc
  refine ⟨⟨fu.os.trans h.bel.os, fu.tape.trans h.bel.tape, fu.output.trans h.bel.output, Nat.le_trans h.bel.size fu.size, fun b hb => ?_⟩, led, fun b hb => ?_, fun b hb => ?_, k1, k2, fun m s hm => keep (h.kr m s hm).1 (by decide) (h.kr m s hm).2, h.kn, l1, l2, fun m s hm => keep (h.lr m s hm).1 (by decide) (h.lr m s hm).2, h.ln⟩
  · refine (fu.block b (Nat.lt_of_lt_of_le hb h.bel.size) (fun e => ?_)).trans (h.bel.block b hb)
    rcases e with e | e
    · have := h.up b e; omega
    · have := (hv.blk e).1; omega
  · rcases hb with e | e | e
    · exact h.up b e
    · exact (hv.blk e).1
    · have := h.bel.size; omega
  · rcases hb with e | e | e
    · exact Nat.lt_of_lt_of_le (h.dn b e) fu.size
    · exact Nat.lt_of_lt_of_le (hv.lt e) fu.size
    · exact e.2
/-- What this round's calls answered: blocks, loops, the order, as rows of the caller's own. -/
structure Fr3 (l : List In) (p B : Nat) (U : Nat → Prop) (vb vo vr : Value) (rb ro : Nat → Sv) (w : World) : Prop where
  b : OwR tK B w vb (bkI (nB l) (frF l) (twF l) rb)
  br : ∀ i, i < nB l → OwR tI B w (rb i).v (nI (nxt l i))
  ba : ∀ i j, i < j → j < nB l → ∀ q, (rb i).v.ownBlock = some q → (rb j).v.ownBlock ≠ some q
  bd : Bd p w vb (dB l)
  o : OwR tA B w vo (arI (heads l).length (fun i => (((heads l).getD i 0 : Nat) : Int)) (fun i => parK l i (heads l).length) ro)
  orr : ∀ i, i < (heads l).length → OwR tI B w (ro i).v (nI (ins (lpB l ((heads l).getD i 0)) (nB l)))
  oa : ∀ i j, i < j → j < (heads l).length → ∀ q, (ro i).v.ownBlock = some q → (ro j).v.ownBlock ≠ some q
  od : Ld p w vo (dL l)
  r : OwR tI B w vr (nI (dfsL (nxt l)).reverse)
theorem Fr3.below {l : List In} {p B : Nat} {U : Nat → Prop} {vb vo vr : Value} {rb ro : Nat → Sv} {w w' : World} (h : Fr3 l p B U vb vo vr rb ro w) (k : Below w.heap.size w w') : Fr3 l p B U vb vo vr rb ro w' :=
  ⟨h.b.below k, fun i hi => (h.br i hi).below k, h.ba, h.bd.below k, h.o.below k, fun i hi => (h.orr i hi).below k, h.oa, h.od.below k, h.r.below k⟩
/-- The same while rows are handed to the ledger: those from i on (of the blocks), from j on (of the loops) are still the caller's. -/
structure Fr4 (nb nl B i j : Nat) (U : Nat → Prop) (vb vo : Value) (bs : List Bk) (os : List Ar) (rb ro : Nat → Sv) (w : World) : Prop where
  b : OwR tK B w vb bs
  bn : ∀ g, vb.ownBlock = some g → ¬ U g
  br : ∀ k, i ≤ k → k < nb → ∃ m : List Int, m.length ≤ 1073741824 ∧ OwR tI B w (rb k).v m ∧ ∀ g, (rb k).v.ownBlock = some g → ¬ U g
  o : OwR tA B w vo os
  on : ∀ g, vo.ownBlock = some g → ¬ U g
  orr : ∀ k, j ≤ k → k < nl → ∃ m : List Int, m.length ≤ 1073741824 ∧ OwR tI B w (ro k).v m ∧ ∀ g, (ro k).v.ownBlock = some g → ¬ U g
theorem Fr4.own {nb nl B i j i' j' : Nat} {U : Nat → Prop} {vb vo : Value} {bs : List Bk} {os : List Ar} {rb ro : Nat → Sv} {w w' : World} (h : Fr4 nb nl B i j U vb vo bs os rb ro w) {v : Value} {l : List Int} (hv : OwR tI B w v l) (hi : i ≤ i') (hj : j ≤ j')
    (hb : ∀ k, i' ≤ k → k < nb → ∀ g, (rb k).v.ownBlock = some g → v.ownBlock ≠ some g) (ho : ∀ k, j' ≤ k → k < nl → ∀ g, (ro k).v.ownBlock = some g → v.ownBlock ≠ some g) (fu : Fu (fun b => U b ∨ v.ownBlock = some b) w w') :
    Fr4 nb nl B i' j' (fun b => U b ∨ v.ownBlock = some b ∨ (w.heap.size ≤ b ∧ b < w'.heap.size)) vb vo bs os rb ro w' := by
  have keep : ∀ {α : Type} {R : RT Try.prog α} {u : Value} {m : List α}, OwR R B w u m → (∀ g, u.ownBlock = some g → v.ownBlock ≠ some g) → (∀ g, u.ownBlock = some g → ¬ U g) → OwR R B w' u m ∧ ∀ g, u.ownBlock = some g → ¬ (U g ∨ v.ownBlock = some g ∨ (w.heap.size ≤ g ∧ g < w'.heap.size)) := fun ho hT hu =>
    ⟨ho.keep fun g hg => fu.block g (ho.lt hg) (fun e => e.elim (hu g hg) (hT g hg)), fun g hg e => by
      rcases e with e | e | e
      · exact hu g hg e
      · exact hT g hg e
      · have := ho.lt hg; omega⟩
  obtain ⟨b1, b2⟩ := keep h.b (fun g hg => own_ne h.b hv (by decide) hg) h.bn
  obtain ⟨o1, o2⟩ := keep h.o (fun g hg => own_ne h.o hv (by decide) hg) h.on
  exact ⟨b1, b2, fun k hk hn => by obtain ⟨m, m1, m2, m3⟩ := h.br k (by omega) hn; exact ⟨m, m1, keep m2 (hb k hk hn) m3⟩, o1, o2, fun k hk hn => by obtain ⟨m, m1, m2, m3⟩ := h.orr k (by omega) hn; exact ⟨m, m1, keep m2 (ho k hk hn) m3⟩⟩
/-- An element of the caller's own was written. -/
theorem Fs.only {w2 w w' : World} {nb nl pl k k2 n : Nat} {U : Nat → Prop} {kv lv : Sv} {ks ls : List Sv} (h : Fs w2 nb nl pl k k2 n U kv lv ks ls w) {g : Nat} (o : Only g w w') (hg : w2.heap.size ≤ g) (hU : ¬ U g) (hk : kv.v.ownBlock ≠ some g) (hl : lv.v.ownBlock ≠ some g)
    (hks : ∀ (m : Nat) (s : Sv), ks[m]? = some s → s.v.ownBlock ≠ some g) (hls : ∀ (m : Nat) (s : Sv), ls[m]? = some s → s.v.ownBlock ≠ some g) : Fs w2 nb nl pl k k2 n U kv lv ks ls w' := by
  have keep : ∀ {α : Type} {R : RT Try.prog α} {u : Value} {m : List α}, OwR R w2.heap.size w u m → u.ownBlock ≠ some g → OwR R w2.heap.size w' u m := fun ho hu => ho.keep fun q hq => o.block q (fun e => hu (e ▸ hq))
  exact ⟨⟨o.os.trans h.bel.os, o.tape.trans h.bel.tape, o.output.trans h.bel.output, by rw [o.size]; exact h.bel.size, fun b hb => (o.block b (by omega)).trans (h.bel.block b hb)⟩,
    h.led.keep o.os o.tape o.output (Nat.le_of_eq o.size.symm) (fun b _ hu => o.block b (fun e => hU (e ▸ hu))), h.up, fun b hb => by rw [o.size]; exact h.dn b hb, keep h.ko hk, h.kc, fun m s hm => ⟨keep (h.kr m s hm).1 (hks m s hm), (h.kr m s hm).2⟩, h.kn, keep h.lo hl, h.lc, fun m s hm => ⟨keep (h.lr m s hm).1 (hls m s hm), (h.lr m s hm).2⟩, h.ln⟩
theorem Fr4.putB {nb nl B i j : Nat} {U : Nat → Prop} {vb vo : Value} {bs bs' : List Bk} {os : List Ar} {rb ro : Nat → Sv} {w w' : World} (h : Fr4 nb nl B i j U vb vo bs os rb ro w) {g : Nat} (o : Only g w w') (hg : vb.ownBlock = some g) (hb : OwR tK B w' vb bs') : Fr4 nb nl B i j U vb vo bs' os rb ro w' := by
  have keep : ∀ {α : Type} {R : RT Try.prog α} {u : Value} {m : List α}, OwR R B w u m → u.ownBlock ≠ some g → OwR R B w' u m := fun ho hu => ho.keep fun q hq => o.block q (fun e => hu (e ▸ hq))
  exact ⟨hb, h.bn, fun k hk hn => by obtain ⟨m, m1, m2, m3⟩ := h.br k hk hn; exact ⟨m, m1, keep m2 (own_ne h.b m2 (by decide) hg), m3⟩, keep h.o (own_ne h.b h.o (by decide) hg), h.on, fun k hk hn => by obtain ⟨m, m1, m2, m3⟩ := h.orr k hk hn; exact ⟨m, m1, keep m2 (own_ne h.b m2 (by decide) hg), m3⟩⟩
theorem Fr4.putO {nb nl B i j : Nat} {U : Nat → Prop} {vb vo : Value} {bs : List Bk} {os os' : List Ar} {rb ro : Nat → Sv} {w w' : World} (h : Fr4 nb nl B i j U vb vo bs os rb ro w) {g : Nat} (o : Only g w w') (hg : vo.ownBlock = some g) (ho : OwR tA B w' vo os') : Fr4 nb nl B i j U vb vo bs os' rb ro w' := by
  have keep : ∀ {α : Type} {R : RT Try.prog α} {u : Value} {m : List α}, OwR R B w u m → u.ownBlock ≠ some g → OwR R B w' u m := fun ho hu => ho.keep fun q hq => o.block q (fun e => hu (e ▸ hq))
  exact ⟨keep h.b (own_ne h.o h.b (by decide) hg), h.bn, fun k hk hn => by obtain ⟨m, m1, m2, m3⟩ := h.br k hk hn; exact ⟨m, m1, keep m2 (own_ne h.o m2 (by decide) hg), m3⟩, ho, h.on, fun k hk hn => by obtain ⟨m, m1, m2, m3⟩ := h.orr k hk hn; exact ⟨m, m1, keep m2 (own_ne h.o m2 (by decide) hg), m3⟩⟩
/-- The blocks when i of them are written over. -/
def bsI (l : List In) (k i : Nat) (rb : Nat → Sv) : List Bk := (List.range (nB l)).map fun x : Nat => if x < i then ⟨-1000 * (k : Int) - (x : Int), 0, ⟨none, 0, 0⟩⟩ else ⟨frF l x, twF l x, rb x⟩
theorem bsI_zero (l : List In) (k : Nat) (rb : Nat → Sv) : bsI l k 0 rb = bkI (nB l) (frF l) (twF l) rb := by
  unfold bsI bkI
  simp
theorem bsI_len (l : List In) (k i : Nat) (rb : Nat → Sv) : (bsI l k i rb).length = nB l := by simp [bsI]
theorem bsI_get {l : List In} {k i x : Nat} {rb : Nat → Sv} (hx : x < nB l) : (bsI l k i rb)[x]? = some (if x < i then ⟨-1000 * (k : Int) - (x : Int), 0, ⟨none, 0, 0⟩⟩ else ⟨frF l x, twF l x, rb x⟩) := by
  unfold bsI
  rw [List.getElem?_map, List.getElem?_range hx]
  rfl
theorem bsI_set {l : List In} {k i : Nat} {rb : Nat → Sv} (hi : i < nB l) : (bsI l k i rb).set i ⟨-1000 * (k : Int) - (i : Int), 0, ⟨none, 0, 0⟩⟩ = bsI l k (i + 1) rb := by
  apply List.ext_getElem?
  intro x
  rw [List.getElem?_set, bsI_len]
  by_cases hx : x < nB l
  · rw [bsI_get hx, bsI_get hx]
    by_cases e : i = x
    · subst e
      rw [if_pos rfl, if_pos hx, if_pos (by omega)]
    · rw [if_neg e]
      by_cases h : x < i
      · rw [if_pos h, if_pos (by omega)]
      · rw [if_neg h, if_neg (by omega)]
  · rw [if_neg (by omega), List.getElem?_eq_none (by rw [bsI_len]; omega), List.getElem?_eq_none (by rw [bsI_len]; omega)]
theorem rowK : RowTy Try.prog tK.T tK.n := ⟨_, Try.underlying54, by kernel_rfl, by kernel_rfl⟩
theorem rowA : RowTy Try.prog tA.T tA.n := ⟨_, Try.underlying52, by kernel_rfl, by kernel_rfl⟩
/-- What the ledger's lists, the kept rows and this round's rows say of one another. -/
structure Ap (BB nb nl : Nat) (ks ls : List Sv) (rb ro : Nat → Sv) : Prop where
  bb : ∀ i j, i < j → j < nb → ∀ q, (rb i).v.ownBlock = some q → (rb j).v.ownBlock ≠ some q
  oo : ∀ i j, i < j → j < nl → ∀ q, (ro i).v.ownBlock = some q → (ro j).v.ownBlock ≠ some q
  bo : ∀ i j, i < nb → j < nl → ∀ q, (rb i).v.ownBlock = some q → (ro j).v.ownBlock ≠ some q
  ks : ∀ (m : Nat) (s : Sv), ks[m]? = some s → ∀ g, s.v.ownBlock = some g → g < BB
  ls : ∀ (m : Nat) (s : Sv), ls[m]? = some s → ∀ g, s.v.ownBlock = some g → g < BB
/-- A whole block is written over, a whole loop. -/
theorem st_b {w2 w w' : World} {nb nl pl k k2 n BB i j g : Nat} {U : Nat → Prop} {kv lv : Sv} {ks ls : List Sv} {vb vo : Value} {bs bs' : List Bk} {os : List Ar} {rb ro : Nat → Sv}
    (hs : Fs w2 nb nl pl k k2 n U kv lv ks ls w) (hf : Fr4 nb nl BB i j U vb vo bs os rb ro w) (ha : Ap BB nb nl ks ls rb ro) (hB : w2.heap.size ≤ BB) (o : Only g w w') (hg : vb.ownBlock = some g) (hb : OwR tK BB w' vb bs') :
    Fs w2 nb nl pl k k2 n U kv lv ks ls w' ∧ Fr4 nb nl BB i j U vb vo bs' os rb ro w' := by
  have h1 := (hf.b.blk hg).1
  exact ⟨hs.only o (by omega) (hf.bn g hg) (own_ne hf.b hs.ko (by decide) hg) (own_ne hf.b hs.lo (by decide) hg) (fun m s hm e => by have := ha.ks m s hm g e; omega) (fun m s hm => own_ne hf.b (hs.lr m s hm).1 (by decide) hg), hf.putB o hg hb⟩
theorem st_o {w2 w w' : World} {nb nl pl k k2 n BB i j g : Nat} {U : Nat → Prop} {kv lv : Sv} {ks ls : List Sv} {vb vo : Value} {bs : List Bk} {os os' : List Ar} {rb ro : Nat → Sv}
    (hs : Fs w2 nb nl pl k k2 n U kv lv ks ls w) (hf : Fr4 nb nl BB i j U vb vo bs os rb ro w) (ha : Ap BB nb nl ks ls rb ro) (hB : w2.heap.size ≤ BB) (o : Only g w w') (hg : vo.ownBlock = some g) (hb : OwR tA BB w' vo os') :
    Fs w2 nb nl pl k k2 n U kv lv ks ls w' ∧ Fr4 nb nl BB i j U vb vo bs os' rb ro w' := by
  have h1 := (hf.o.blk hg).1
  exact ⟨hs.only o (by omega) (hf.on g hg) (own_ne hf.o hs.ko (by decide) hg) (own_ne hf.o hs.lo (by decide) hg) (fun m s hm => own_ne hf.o (hs.kr m s hm).1 (by decide) hg) (fun m s hm e => by have := ha.ls m s hm g e; omega), hf.putO o hg hb⟩
/-- The loops when i of them are written over. -/
def osI (nl : Nat) (hd pa : Nat → Int) (k i : Nat) (ro : Nat → Sv) : List Ar := (List.range nl).map fun x : Nat => if x < i then ⟨-1000 * (k : Int) - (x : Int), ⟨none, 0, 0⟩, 0⟩ else ⟨hd x, ro x, pa x⟩
theorem osI_zero (nl : Nat) (hd pa : Nat → Int) (k : Nat) (ro : Nat → Sv) : osI nl hd pa k 0 ro = arI nl hd pa ro := by
  unfold osI arI
  simp
theorem osI_len (nl : Nat) (hd pa : Nat → Int) (k i : Nat) (ro : Nat → Sv) : (osI nl hd pa k i ro).length = nl := by simp [osI]
theorem osI_get {nl : Nat} {hd pa : Nat → Int} {k i x : Nat} {ro : Nat → Sv} (hx : x < nl) : (osI nl hd pa k i ro)[x]? = some (if x < i then ⟨-1000 * (k : Int) - (x : Int), ⟨none, 0, 0⟩, 0⟩ else ⟨hd x, ro x, pa x⟩) := by
  unfold osI
  rw [List.getElem?_map, List.getElem?_range hx]
  rfl
theorem osI_set {nl : Nat} {hd pa : Nat → Int} {k i : Nat} {ro : Nat → Sv} (hi : i < nl) : (osI nl hd pa k i ro).set i ⟨-1000 * (k : Int) - (i : Int), ⟨none, 0, 0⟩, 0⟩ = osI nl hd pa k (i + 1) ro := by
  apply List.ext_getElem?
  intro x
  rw [List.getElem?_set, osI_len]
  by_cases hx : x < nl
  · rw [osI_get hx, osI_get hx]
    by_cases e : i = x
    · subst e
      rw [if_pos rfl, if_pos hx, if_pos (by omega)]
    · rw [if_neg e]
      by_cases h : x < i
      · rw [if_pos h, if_pos (by omega)]
      · rw [if_neg h, if_neg (by omega)]
  · rw [if_neg (by omega), List.getElem?_eq_none (by rw [osI_len]; omega), List.getElem?_eq_none (by rw [osI_len]; omega)]
theorem bsI_all (l : List In) (k : Nat) (rb : Nat → Sv) : bsI l k (nB l) rb ++ [⟨-7 - (k : Int), 0, ⟨none, 0, 0⟩⟩] = clK (nB l) k := by
  unfold bsI clK
  congr 1
  apply List.map_congr_left
  intro x hx
  rw [if_pos (by simpa using hx)]
theorem osI_all (nl : Nat) (hd pa : Nat → Int) (k : Nat) (ro : Nat → Sv) : osI nl hd pa k nl ro ++ [⟨-7 - (k : Int), ⟨none, 0, 0⟩, 0⟩] = clA nl k := by
  unfold osI clA
  congr 1
  apply List.map_congr_left
  intro x hx
  rw [if_pos (by simpa using hx)]
/-- A row in another block than the one that grows. -/
theorem gk {α : Type} {R : RT Try.prog α} {B : Nat} {w w' : World} {o : Obj} {r : Option Nat} {v : Value} {l : List α} (hg : (w.alloc o).grownBy w' r) (h : OwR R B w v l) (hne : ∀ q, v.ownBlock = some q → r ≠ some q) : OwR R B w' v l :=
  h.keep fun g hv => (hg.block g (by have := h.lt hv; simp; omega) (fun e => hne g hv e.symm)).trans (Below.heap_alloc w o g (h.lt hv))
section
variable {w2 w w' : World} {nb nl pl k k2 n : Nat} {U : Nat → Prop} {kv lv : Sv} {ks ls : List Sv} {o : Obj}
/-- What Fs says of the memory but for its rows. -/
theorem Fs.base (h : Fs w2 nb nl pl k k2 n U kv lv ks ls w) {r : Option Nat} (hg : (w.alloc o).grownBy w' r) (hr : ∀ q, r = some q → ¬ U q ∧ w2.heap.size ≤ q) : Below w2.heap.size w2 w' ∧ Led U pl n w' ∧ ∀ b, U b → b < w'.heap.size := by
  have hz : w.heap.size ≤ w'.heap.size := by have := hg.size; simp at this; omega
  refine ⟨⟨hg.os.trans h.bel.os, hg.tape.trans h.bel.tape, hg.output.trans h.bel.output, Nat.le_trans h.bel.size hz, fun b hb => ?_⟩, h.led.keep hg.os hg.tape hg.output hz (fun b hb hu => ?_), fun b hb => Nat.lt_of_lt_of_le (h.dn b hb) hz⟩
  · have h1 : b < w.heap.size := Nat.lt_of_lt_of_le hb h.bel.size
    exact ((hg.block b (by simp; omega) (fun e => by have := (hr b e.symm).2; omega)).trans (Below.heap_alloc w o b h1)).trans (h.bel.block b hb)
  · exact (hg.block b (by simp; omega) (fun e => (hr b e.symm).1 hu)).trans (Below.heap_alloc w o b hb)
/-- The blocks' row grows. -/
theorem Fs.ap_b {BB i j g : Nat} {vb vo : Value} {bs : List Bk} {os : List Ar} {rb ro : Nat → Sv} (hs : Fs w2 nb nl pl k k2 n U kv lv ks ls w) (hf : Fr4 nb nl BB i j U vb vo bs os rb ro w) (ha : Ap BB nb nl ks ls rb ro) (hB : w2.heap.size ≤ BB)
    (hg : (w.alloc o).grownBy w' vb.ownBlock) (hl : vb.ownBlock = some g ∨ g = (w.alloc o).heap.size) :
    Fs w2 nb nl pl k k2 n U kv lv ks ls w' ∧ ¬ U g ∧ OwR tA BB w' vo os ∧ ∀ q, vo.ownBlock = some q → ¬ U q := by
  obtain ⟨a, b, c⟩ := hs.base hg (fun q hq => ⟨hf.bn q hq, by have := (hf.b.blk hq).1; omega⟩)
  refine ⟨⟨a, b, hs.up, c, gk hg hs.ko (fun q hq e => own_ne hs.ko hf.b (by decide) hq e), hs.kc, fun m s hm => ⟨gk hg (hs.kr m s hm).1 (fun q hq e => by have h1 := ha.ks m s hm q hq; have h2 := (hf.b.blk e).1; omega), (hs.kr m s hm).2⟩, hs.kn, gk hg hs.lo (fun q hq e => own_ne hs.lo hf.b (by decide) hq e), hs.lc, fun m s hm => ⟨gk hg (hs.lr m s hm).1 (fun q hq e => own_ne (hs.lr m s hm).1 hf.b (by decide) hq e), (hs.lr m s hm).2⟩, hs.ln⟩, ?_, gk hg hf.o (fun q hq e => own_ne hf.o hf.b (by decide) hq e), hf.on⟩
  rcases hl with e | e
  · exact hf.bn g e
  · intro hu
    have := hs.dn g hu
    simp at e
    omega
/-- A row more is kept. -/
theorem Fs.ap_k {B g m c : Nat} {s : Sv} {vo : Value} {os : List Ar} (hs : Fs w2 nb nl pl k k2 n U kv lv ks ls w) (hr : OwR tK w2.heap.size w s.v (clK nb k)) (hu : ∀ q, s.v.ownBlock = some q → ¬ U q) (hvo : OwR tA B w vo os)
    (ho : OwR tKK w2.heap.size w' (.slice (some ⟨g, 0, none⟩) m c) (ks ++ [s])) (hg : (w.alloc o).grownBy w' kv.v.ownBlock) (hl : kv.v.ownBlock = some g ∨ g = (w.alloc o).heap.size) :
    Fs w2 nb nl pl (k + 1) k2 n U ⟨some ⟨g, 0, none⟩, m, c⟩ lv (ks ++ [s]) ls w' ∧ OwR tA B w' vo os := by
  obtain ⟨a, b, c⟩ := hs.base hg (fun q hq => ⟨hs.kc q hq, (hs.ko.blk hq).1⟩)
  refine ⟨⟨a, b, hs.up, c, ho, fun q hq hU => ?_, fun m' t hm => ?_, by rw [List.length_append, hs.kn]; rfl, gk hg hs.lo (fun q hq e => own_ne hs.lo hs.ko (by decide) hq e), hs.lc, fun m s hm => ⟨gk hg (hs.lr m s hm).1 (fun q hq e => own_ne (hs.lr m s hm).1 hs.ko (by decide) hq e), (hs.lr m s hm).2⟩, hs.ln⟩, gk hg hvo (fun q hq e => own_ne hvo hs.ko (by decide) hq e)⟩
  · injection hq with hq
    have hq : g = q := hq
    subst hq
    rcases hl with e | e
    · exact hs.kc _ e hU
    · have := hs.dn _ hU
      simp at e
      omega
  · by_cases hlt : m' < ks.length
    · rw [List.getElem?_append_left hlt] at hm
      exact ⟨gk hg (hs.kr m' t hm).1 (fun q hq e => own_ne (hs.kr m' t hm).1 hs.ko (by decide) hq e), (hs.kr m' t hm).2⟩
    · have hlt2 := (List.getElem?_eq_some_iff.1 hm).1
      rw [List.length_append] at hlt2
      have e2 : m' = ks.length := by simp at hlt2; omega
      subst e2
      rw [List.getElem?_append_right (Nat.le_refl _), Nat.sub_self] at hm
      injection hm with hm
      subst hm
      rw [hs.kn]
      exact ⟨gk hg hr (fun q hq e => own_ne hr hs.ko (by decide) hq e), hu⟩
theorem Fs.ap_o {BB g : Nat} {vo : Value} {os : List Ar} (hs : Fs w2 nb nl pl k k2 n U kv lv ks ls w) (hvo : OwR tA BB w vo os) (hvu : ∀ q, vo.ownBlock = some q → ¬ U q) (hls : ∀ (m : Nat) (s : Sv), ls[m]? = some s → ∀ g, s.v.ownBlock = some g → g < BB) (hB : w2.heap.size ≤ BB)
    (hg : (w.alloc o).grownBy w' vo.ownBlock) (hl : vo.ownBlock = some g ∨ g = (w.alloc o).heap.size) :
    Fs w2 nb nl pl k k2 n U kv lv ks ls w' ∧ ¬ U g := by
  obtain ⟨a, b, c⟩ := hs.base hg (fun q hq => ⟨hvu q hq, by have := (hvo.blk hq).1; omega⟩)
  refine ⟨⟨a, b, hs.up, c, gk hg hs.ko (fun q hq e => own_ne hs.ko hvo (by decide) hq e), hs.kc, fun m s hm => ⟨gk hg (hs.kr m s hm).1 (fun q hq e => own_ne (hs.kr m s hm).1 hvo (by decide) hq e), (hs.kr m s hm).2⟩, hs.kn, gk hg hs.lo (fun q hq e => own_ne hs.lo hvo (by decide) hq e), hs.lc, fun m s hm => ⟨gk hg (hs.lr m s hm).1 (fun q hq e => by have h1 := hls m s hm q hq; have h2 := (hvo.blk e).1; omega), (hs.lr m s hm).2⟩, hs.ln⟩, ?_⟩
  rcases hl with e | e
  · exact hvu g e
  · intro hu
    have := hs.dn g hu
    simp at e
    omega
theorem Fs.ap_l {g m c : Nat} {s : Sv} (hs : Fs w2 nb nl pl k k2 n U kv lv ks ls w) (hr : OwR tA w2.heap.size w s.v (clA nl k2)) (hu : ∀ q, s.v.ownBlock = some q → ¬ U q)
    (ho : OwR tAA w2.heap.size w' (.slice (some ⟨g, 0, none⟩) m c) (ls ++ [s])) (hg : (w.alloc o).grownBy w' lv.v.ownBlock) (hl : lv.v.ownBlock = some g ∨ g = (w.alloc o).heap.size) :
    Fs w2 nb nl pl k (k2 + 1) n U kv ⟨some ⟨g, 0, none⟩, m, c⟩ ks (ls ++ [s]) w' := by
  obtain ⟨a, b, c⟩ := hs.base hg (fun q hq => ⟨hs.lc q hq, (hs.lo.blk hq).1⟩)
  refine ⟨a, b, hs.up, c, gk hg hs.ko (fun q hq e => own_ne hs.ko hs.lo (by decide) hq e), hs.kc, fun m s hm => ⟨gk hg (hs.kr m s hm).1 (fun q hq e => own_ne (hs.kr m s hm).1 hs.lo (by decide) hq e), (hs.kr m s hm).2⟩, hs.kn, ho, fun q hq hU => ?_, fun m' t hm => ?_, by rw [List.length_append, hs.ln]; rfl⟩
  · injection hq with hq
    have hq : g = q := hq
    subst hq
    rcases hl with e | e
    · exact hs.lc _ e hU
    · have := hs.dn _ hU
      simp at e
      omega
  · by_cases hlt : m' < ls.length
    · rw [List.getElem?_append_left hlt] at hm
      exact ⟨gk hg (hs.lr m' t hm).1 (fun q hq e => own_ne (hs.lr m' t hm).1 hs.lo (by decide) hq e), (hs.lr m' t hm).2⟩
    · have hlt2 := (List.getElem?_eq_some_iff.1 hm).1
      rw [List.length_append] at hlt2
      have e2 : m' = ls.length := by simp at hlt2; omega
      subst e2
      rw [List.getElem?_append_right (Nat.le_refl _), Nat.sub_self] at hm
      injection hm with hm
      subst hm
      rw [hs.ln]
      exact ⟨gk hg hr (fun q hq e => own_ne hr hs.lo (by decide) hq e), hu⟩
end
theorem clK_len (nb m : Nat) : (clK nb m).length = nb + 1 := by simp [clK]
theorem clA_len (nl m : Nat) : (clA nl m).length = nl + 1 := by simp [clA]
theorem clK_get {nb m j : Nat} (h : j < nb) : (clK nb m)[j]? = some ⟨-1000 * (m : Int) - (j : Int), 0, ⟨none, 0, 0⟩⟩ := by
  unfold clK
  rw [List.getElem?_append_left (by simpa using h), List.getElem?_map, List.getElem?_range h]
  rfl
theorem clA_get {nl m j : Nat} (h : j < nl) : (clA nl m)[j]? = some ⟨-1000 * (m : Int) - (j : Int), ⟨none, 0, 0⟩, 0⟩ := by
  unfold clA
  rw [List.getElem?_append_left (by simpa using h), List.getElem?_map, List.getElem?_range h]
  rfl
theorem clK_last (nb m : Nat) : (clK nb m)[nb]? = some ⟨-7 - (m : Int), 0, ⟨none, 0, 0⟩⟩ := by
  unfold clK
  rw [List.getElem?_append_right (by simp)]
  simp
theorem clA_last (nl m : Nat) : (clA nl m)[nl]? = some ⟨-7 - (m : Int), ⟨none, 0, 0⟩, 0⟩ := by
  unfold clA
  rw [List.getElem?_append_right (by simp)]
  simp
theorem below_trans {a b c : World} (h : Below a.heap.size a b) (k : Below b.heap.size b c) : Below a.heap.size a c :=
  ⟨k.os.trans h.os, k.tape.trans h.tape, k.output.trans h.output, Nat.le_trans h.size k.size, fun i hi => (k.block i (Nat.lt_of_lt_of_le hi h.size)).trans (h.block i hi)⟩
end Go.Proofs.Ytpiiefdaaijgbaa
