/- The document's units, and where a jump goes. -/
import Derived.Test.YtpiiefdaaijgbaaFJmp
namespace Go.Proofs.Ytpiiefdaaijgbaa
open Go Go.RowKit Go.Wr Go.Fl
set_option maxHeartbeats 4000000
set_option maxRecDepth 100000

theorem atU_no {l : List In} {u : Int} (h : ∀ j, j < l.length → (unit l j : Int) ≠ u) : atU l u = none := by
  cases hr : atU l u with
  | none => rfl
  | some k =>
    obtain ⟨h1, h2⟩ := atU_some hr
    exact absurd h2 (h k h1)
theorem goes_ok (w : World) (p q : Nat) (v vu : Value) (l : List In) (h : SlX tN p w v l) (hu : SlX tI q w vu (unitsI l l.length)) (hl : l.length ≤ 1048576) (k : Nat) (x : In) (hx : l[k]? = some x)
    (hoff : -1099511627776 ≤ x.off ∧ x.off ≤ 1099511627776) (himm : x.op = 26 → x.nar = true → -1099511627776 ≤ x.imm ∧ x.imm ≤ 1099511627776) :
    Calls Try.prog 74 #[v, vu, .int .i64 (k : Int)] w fun e w' => e = .returned (.int .i64 (oi (atU l (goal l k x)))) ∧ Below w.heap.size w w' := by
  obtain ⟨r, hr⟩ : ∃ r, r = atU l (goal l k x) := ⟨_, rfl⟩
  rw [← hr]
  have HR := Lib.hid hr
  have hkl : k < l.length := (List.getElem?_eq_some_iff.1 hx).1
  obtain ⟨a0, cap, rfl, h1, h2⟩ := h.form
  obtain ⟨a1, capu, rfl, h1u, h2u⟩ := hu.form
  have H := Lib.hid h
  have HU := Lib.hid hu
  unfold maxLen at h2 h2u
  obtain ⟨b, o, rfl, _, hat⟩ := h.get hx
  obtain ⟨bu, ou, rfl, _, _, cu⟩ := SlX.int hu (unitsI_get (l := l) (m := l.length) (k := k) (by omega))
  obtain ⟨c0, c1, c2, c3, c4, c5, c6, c7⟩ := at_ins hat
  have e8 : tN.n = 8 := rfl
  rw [e8] at c0 c1 c2 c3 c4 c5 c6 c7
  have hul : (unitsI l l.length).length = l.length + 1 := unitsI_len l _
  rw [hul] at h1u ⊢
  have hunit := unit_le (l := l) (i := k) (by omega)
  unfold goal at HR
  generalize hug : unit l k = u at *
  have HUG := Lib.hid hug
  have hlt : (k : Int) < (l.length : Int) := by omega
  have hk0 : (0 : Int) ≤ (k : Int) := by omega
  have hltu : (k : Int) < ((l.length + 1 : Nat) : Int) := by omega
  have hltu2 : (k : Int) < (l.length : Int) + 1 := by omega
  clear hr h hu hat e8 hul hug hx
  obtain ⟨g, hg⟩ : ∃ g : Int, g = (u : Int) + 1 + (if x.op = 26 ∧ x.nar = true then x.imm else x.off) := ⟨_, rfl⟩
  rw [← hg] at HR
  have HG := Lib.hid hg
  clear hg
  have hw1 : IntKind.i64.wrap ((u : Int) + 1) = (u : Int) + 1 := IntWalk.i64_in _ (by omega)
  have hw2 : IntKind.i64.wrap ((u : Int) + 1 + x.off) = (u : Int) + 1 + x.off := IntWalk.i64_in _ (by omega)
  go_enter Try.func74, Try.ntmps74
  go_upto_region 1 with (fail)
  go_quiet (fail)
  obtain ⟨n1, hn1⟩ : ∃ n, n = nq := ⟨_, rfl⟩
  rw [← hn1]
  clear hn1
  have HN := Lib.hid (H.out.below (show Below w.heap.size w (w.drewN n1) from bDraw (bRefl w) n1))
  have HNU := Lib.hid (HU.out.below (show Below w.heap.size w (w.drewN n1) from bDraw (bRefl w) n1))
  have hbW : Below w.heap.size w (w.drewN n1) := bDraw (bRefl w) n1
  have d0 : (w.drewN n1).cell? ⟨b, o + k * 8, none⟩ = some (.int .i64 x.op) := c0
  have d1 : (w.drewN n1).cell? ⟨b, o + k * 8 + 1, none⟩ = some (.bool x.nar) := c1
  have d7 : (w.drewN n1).cell? ⟨b, o + k * 8 + 7, none⟩ = some (.int .i64 x.imm) := c7
  have du : (w.drewN n1).cell? ⟨bu, ou + k, none⟩ = some (.int .i64 (u : Int)) := cu
  generalize w.drewN n1 = W at HN HNU hbW d0 d1 d7 du ⊢
  clear H HU c0 c1 c2 c3 c4 c5 c6 c7 cu
  go_upto_region 2 with (fail)
  go_cut [32] (fun t wc => t = .bool (x.op == 26 && x.nar) ∧ W = wc)
  case first =>
    by_cases e : x.op = 26
    · have e' : (x.op == 26) = true := by simp [e]
      clear e
      go_wp2
      go_meet
      exact ⟨by simp [e'], rfl⟩
    · have e' : (x.op == 26) = false := by simpa using e
      clear e
      go_wp2
      go_meet
      exact ⟨by simp [e'], rfl⟩
  case rest =>
    obtain ⟨rfl, rfl⟩ := hcut
    go_upto_if 32 with (fail)
    go_cut [7] (fun t wc => t = .int .i64 g ∧ ∃ n, W.drewN n = wc)
    case first =>
      cases e : (x.op == 26 && x.nar) with
      | true =>
        obtain ⟨e1, e2⟩ : x.op = 26 ∧ x.nar = true := by simpa using e
        have hi := himm e1 e2
        have hw3 : IntKind.i64.wrap ((u : Int) + 1 + x.imm) = (u : Int) + 1 + x.imm := IntWalk.i64_in _ (by omega)
        have hgg : Hid ((u : Int) + 1 + x.imm = g) := by show _ = _; rw [HG.out, if_pos ⟨e1, e2⟩]
        clear e1 e2 e
        go_upto_region 3 with (fail)
        go_quiet (fail)
        go_wp2
        go_meet
        exact ⟨by rw [hgg.out], _, rfl⟩
      | false =>
        have hgg : Hid ((u : Int) + 1 + x.off = g) := by
          show _ = _
          rw [HG.out, if_neg (fun h => by rw [h.1, h.2] at e; cases e)]
        clear e
        go_wp2
        go_meet
        exact ⟨by rw [hgg.out], 0, rfl⟩
    case rest =>
      obtain ⟨rfl, n2, rfl⟩ := hcut
      have HN2 := Lib.hid (HN.out.below (show Below W.heap.size W (W.drewN n2) from bDraw (bRefl W) n2))
      have HU2 := Lib.hid (HNU.out.below (show Below W.heap.size W (W.drewN n2) from bDraw (bRefl W) n2))
      have hb2 := bDraw hbW n2
      generalize W.drewN n2 = V at HN2 HU2 hb2 ⊢
      clear HN HNU hbW d0 d1 d7 du hw1 hw2
      go_wp2
      go_loop [8] (fun t => ∃ j : Nat, j ≤ l.length ∧ t = .int .i64 (j : Int) ∧ Hid (∀ i, i < j → (unit l i : Int) ≠ g)) (fun t => l.length - (intOf t).toNat)
      case atStart => exact ⟨0, by omega, rfl, fun i hi => by omega⟩
      case round =>
        obtain ⟨j, hj, rfl, hq⟩ := hrel
        by_cases hlj : j < l.length
        · have hlj' : (j : Int) < (l.length : Int) := by omega
          obtain ⟨bj, oj, ej, _, _, cj⟩ := SlX.int HU2.out (unitsI_get (l := l) (m := l.length) (k := j) (by omega))
          injection ej with ej
          injection ej with ej1 ej2
          subst ej1 ej2
          obtain ⟨uj, huj⟩ : ∃ y : Int, y = (unit l j : Int) := ⟨_, rfl⟩
          rw [← huj] at cj
          have HUJ := Lib.hid huj
          clear huj
          by_cases e : uj = g
          · have e1 : Hid (r = some j) := by show _ = _; rw [HR.out]; exact atU_of hlj (HUJ.out ▸ e)
            have e2 : (uj == g) = true := by simp [e]
            clear e hq
            go_wp2
            go_ret
            exact ⟨by rw [e1.out]; rfl, hb2⟩
          · have e1 : Hid (∀ i, i < j + 1 → (unit l i : Int) ≠ g) := fun i hi => by
              by_cases hij : i < j
              · exact hq.out i hij
              · obtain rfl : i = j := by omega
                rw [← HUJ.out]
                exact e
            have e2 : (uj == g) = false := by simpa using e
            clear e hq
            go_wp2
            go_round
            case rel => exact ⟨j + 1, by omega, by go_num, e1⟩
            case measure => simp [intOf]; omega
        · obtain rfl : j = l.length := by omega
          have e1 : Hid (r = none) := by show _ = _; rw [HR.out]; exact atU_no hq.out
          clear hlj hq
          go_wp2
          go_ret
          exact ⟨by rw [e1.out]; rfl, hb2⟩
end Go.Proofs.Ytpiiefdaaijgbaa
