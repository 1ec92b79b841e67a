/- The program's Blocks and Loops: copies in new memory. -/
import Derived.Test.YtlhehphikkgobaaHSame
namespace Go.Proofs.Ytlhehphikkgobaa
open Go Go.RowKit Go.Wr Go.Fl
set_option maxHeartbeats 4000000
set_option maxRecDepth 100000

/-- While the rows of edges are copied. -/
structure Bc (w : World) (p : Nat) (l : List In) (g c k : Nat) (row : Nat → Sv) (wr : World) : Prop where
  kb : OwR tK w.heap.size wr (.slice (some ⟨g, 0, none⟩) (nB l) c) (bkI (nB l) (frF l) (twF l) row)
  nw : ∀ i, i < k → OwR tI w.heap.size wr (row i).v (nI (nxt l i))
  od : ∀ i, k ≤ i → i < nB l → SlX tI p w (row i).v (nI (nxt l i))
  bl : Below w.heap.size w wr
theorem Bc.put {w wr w' : World} {p : Nat} {l : List In} {g c k : Nat} {row : Nat → Sv} (h : Bc w p l g c k row wr) (hk : k < nB l) (b : Below wr.heap.size wr w') {s : Sv} (hs : OwR tI w.heap.size w' s.v (nI (nxt l k))) : Bc w p l g c (k + 1) (setF row k s) (w'.setCell ⟨g, k * 3 + 2, none⟩ s.v) := by
  have hkb := h.kb.below b
  obtain ⟨hB, C, hg⟩ := hkb.blk (g := g) rfl
  have h1 := hkb.set (k := k) (j := 2) (x := ⟨frF l k, twF l k, row k⟩) (y := ⟨frF l k, twF l k, s⟩) (v := s.v) (by unfold bkI; rw [List.getElem?_map, List.getElem?_range hk]; rfl) (by decide) rfl
  rw [bkI_set hk] at h1
  refine ⟨h1, fun i hi => ?_, fun i hi hn => ?_, (bThen h.bl b).setCell hB _⟩
  · by_cases e : i = k
    · subst e
      rw [setF_self]
      exact hs.set_other (hs.ne hg (by decide))
    · rw [setF_ne e]
      have := (h.nw i (by omega)).below b
      exact this.set_other (this.ne hg (by decide))
  · rw [setF_ne (by omega)]
    exact h.od i (by omega) hn
theorem blocks_ok (w : World) (p : Nat) (l : List In) (vb va vo : Value) (bs : List Bk) (ss : List Sv) (h : Fw p l vb va vo bs ss w) (hc : w.cell? ⟨p, 0, none⟩ = some vb) (hn0 : 0 < nB l) (hn : nB l ≤ 4096) :
    Calls Try.prog 20 #[.pointer (some ⟨p, 0, none⟩)] w fun e w' => Below w.heap.size w w' ∧ ∃ v rs, e = .returned v ∧ OwR tK w.heap.size w' v rs ∧ rs.length = nB l ∧ ∀ (i : Nat) (k : Bk), rs[i]? = some k → k.fr = (frF l i : Int) ∧ k.2 = (twF l i : Int) ∧ OwR tI w.heap.size w' k.nx.v (nI (nxt l i)) := by
  obtain ⟨a0, cap, rfl, h1, h2⟩ := h.sb.form
  rw [h.lb] at hc h h1
  unfold maxLen at h2
  have H := Lib.hid h
  have hrow : bs = bkI (nB l) (frF l) (twF l) (fun i => ((bs[i]?).map (·.nx)).getD ⟨none, 0, 0⟩) := by
    apply List.ext_getElem?
    intro i
    unfold bkI
    by_cases hi : i < nB l
    · obtain ⟨k, hk⟩ : ∃ k, bs[i]? = some k := ⟨_, List.getElem?_eq_getElem (by rw [h.lb]; exact hi)⟩
      obtain ⟨e1, e2, _⟩ := h.nb i k hk
      rw [List.getElem?_map, List.getElem?_range hi]
      simp only [Option.map_some]
      rw [← e1, ← e2, hk]
      rfl
    · rw [List.getElem?_eq_none (by rw [h.lb]; omega), List.getElem?_eq_none (by simp; omega)]
  have HROW := Lib.hid hrow
  have HLB := Lib.hid h.lb
  clear h hrow
  go_enter Try.func20, Try.ntmps20
  go_wp2_with fail
  refine (cloneB_ok _ p _ bs H.out.sb (by rw [HLB.out]; omega)).mono ?_
  rintro e w1 ⟨b1, v1, rfl, ho⟩
  rcases ho.form with ⟨_, e⟩ | ⟨g, c, rfl, hc1, hc2, _⟩
  · exfalso
    have := congrArg List.length e
    rw [HLB.out] at this
    simp only [List.length_nil] at this
    omega
  · rw [HLB.out] at ho hc1 ⊢
    rw [HROW.out] at ho
    have HB := Lib.hid (show Bc w p l g c 0 (fun i => ((bs[i]?).map (·.nx)).getD ⟨none, 0, 0⟩) w1 from ⟨ho, fun i hi => by omega, fun i _ hi => by
      obtain ⟨k, hk⟩ : ∃ k, bs[i]? = some k := ⟨_, List.getElem?_eq_getElem (by rw [HLB.out]; exact hi)⟩
      rw [hk]
      exact (H.out.nb i k hk).2.2, b1⟩)
    unfold maxLen at hc2
    clear ho b1
    go_wp2
    go_loopw [12] (fun t wr => ∃ (k : Nat) (row : Nat → Sv), k ≤ nB l ∧ t = .int .i64 (k : Int) ∧ Hid (Bc w p l g c k row wr)) (fun t _ => nB l - (intOf t).toNat)
    case atStart => exact ⟨0, _, by omega, rfl, HB.out⟩
    case round =>
      clear HB
      obtain ⟨k, row, hk, rfl, hB⟩ := hrel
      by_cases hlk : k < nB l
      · have hlk' : (k : Int) < (nB l : Int) := by omega
        have hk0 : (0 : Int) ≤ (k : Int) := by omega
        have hat := hB.out.kb.at (k := k) (x := ⟨frF l k, twF l k, row k⟩) (by unfold bkI; rw [List.getElem?_map, List.getElem?_range hlk]; rfl)
        have kn := hat.cell 2 _ rfl
        rw [show 0 + k * tK.n + 2 = k * 3 + 2 by show 0 + k * 3 + 2 = _; omega] at kn
        simp only [Sv.v] at kn
        have hod := hB.out.od k (Nat.le_refl _) hlk
        have hx2 := nxt_two l k
        clear hat
        go_wp2_with fail
        refine (cloneI_ok _ p _ _ (hod.below hB.out.bl) (by rw [nI_len]; omega)).mono ?_
        rintro e w2 ⟨b2, v2, rfl, ho2⟩
        obtain ⟨a2, n2, c2, rfl⟩ : ∃ a n c, v2 = .slice a n c := by
          rcases ho2.form with ⟨e, _⟩ | ⟨g, c, e, _⟩
          · exact ⟨_, _, _, e⟩
          · exact ⟨_, _, _, e⟩
        have HP := Lib.hid (hB.out.put hlk b2 (s := ⟨a2, n2, c2⟩) (ho2.mono hB.out.bl.size))
        have kf := (hB.out.kb.below b2).frozen (k * 3 + 2)
        have kn2 : w2.cell? ⟨g, k * 3 + 2, none⟩ = some (.slice (row k).a (row k).n (row k).c) := (b2.cell (p := ⟨g, k * 3 + 2, none⟩) (hB.out.kb.lt rfl)).trans kn
        clear kn b2 ho2 hod hB
        go_wp2
        go_roundw
        all_goals first
          | exact ⟨k + 1, _, by omega, by go_num, HP.out⟩
          | ((repeat apply Exists.intro); exact ⟨⟨k + 1, _, by omega, by go_num, HP.out⟩, rfl⟩)
          | (simp [intOf]; omega)
      · obtain rfl : k = nB l := by omega
        clear hlk
        go_wp2
        go_ret
        have hB := hB.out
        refine ⟨hB.bl, _, _, rfl, hB.kb, by simp [bkI], fun i x hx => ?_⟩
        unfold bkI at hx
        by_cases hi : i < nB l
        · rw [List.getElem?_map, List.getElem?_range hi] at hx
          simp only [Option.map_some, Option.some.injEq] at hx
          subst hx
          exact ⟨rfl, rfl, hB.nw i hi⟩
        · rw [List.getElem?_eq_none (by simp; omega)] at hx
          cases hx
end Go.Proofs.Ytlhehphikkgobaa
