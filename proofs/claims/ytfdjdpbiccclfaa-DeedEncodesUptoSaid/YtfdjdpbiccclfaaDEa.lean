/- The document's checks on a loop, a tag, a bound: they answer as deed's. (rwithin, rloop, rcon_ref, rrises cut by hand out of XDGood.) -/
import Derived.Test.YtfdjdpbiccclfaaDGl
namespace Go.Proofs.Ytfdjdpbiccclfaa
open Go Go.RowKit Go.Wr
set_option maxHeartbeats 4000000
set_option maxRecDepth 100000

theorem rwithin_ok (w : World) (x lo hi : Int) : Calls Try.prog 59 #[.int .i64 x, .int .i64 lo, .int .i64 hi] w fun e w' => e = .returned (.bool (inB x lo hi)) ∧ w' = w := by
  unfold inB
  by_cases h1 : lo ≤ x
  · by_cases h2 : x ≤ hi
    · go_enter Try.func59, Try.ntmps59
      go_wp2
      go_ret
      exact ⟨by simp [h1, h2], rfl⟩
    · have h2' : hi < x := by omega
      go_enter Try.func59, Try.ntmps59
      go_wp2
      go_ret
      exact ⟨by simp [h2], rfl⟩
  · have h1' : x < lo := by omega
    go_enter Try.func59, Try.ntmps59
    go_wp2
    go_ret
    exact ⟨by simp; omega, rfl⟩

theorem rloop_ok (w : World) (l : Lp) : Calls Try.prog 51 #[.agg (lpv l)] w fun e w' => e = .returned (.bool (goodLoop l)) ∧ Below w.heap.size w w' := by
  unfold goodLoop lpv
  go_enter Try.func51, Try.ntmps51
  go_wp2_with fail
  refine (rwithin_ok _ _ _ _).mono ?_
  rintro e w1 ⟨rfl, rfl⟩
  cases h1 : inB l.h 0 511 with
  | false =>
    go_wp2
    go_ret
    exact ⟨by simp [*], bAl (bRefl w) _⟩
  | true =>
    go_wp2_with fail
    refine (rwithin_ok _ _ _ _).mono ?_
    rintro e w1 ⟨rfl, rfl⟩
    cases h2 : inB l.a 0 59 with
    | false =>
      go_wp2
      go_ret
      exact ⟨by simp [*], bAl (bRefl w) _⟩
    | true =>
      go_wp2_with fail
      refine (rwithin_ok _ _ _ _).mono ?_
      rintro e w1 ⟨rfl, rfl⟩
      cases h3 : inB l.b 0 59 with
      | false =>
        go_wp2
        go_ret
        exact ⟨by simp [*], bAl (bRefl w) _⟩
      | true =>
        go_wp2_with fail
        refine (rwithin_ok _ _ _ _).mono ?_
        rintro e w1 ⟨rfl, rfl⟩
        cases h4 : inB l.k (-1099511627776) 1099511627776 with
        | false =>
          go_wp2
          go_ret
          exact ⟨by simp [*], bAl (bRefl w) _⟩
        | true =>
          go_wp2_with fail
          refine (rwithin_ok _ _ _ _).mono ?_
          rintro e w1 ⟨rfl, rfl⟩
          go_wp2
          go_ret
          exact ⟨by simp [*], bAl (bRefl w) _⟩

theorem rcon_ref (w : World) (x : C3) : Calls Try.prog 73 #[.agg (c3v x)] w fun e w' => e = .returned (.bool (goodCon x)) ∧ Below w.heap.size w w' := by
  unfold goodCon c3v
  go_enter Try.func73, Try.ntmps73
  go_wp2_with fail
  refine (rwithin_ok _ _ _ _).mono ?_
  rintro e w1 ⟨rfl, rfl⟩
  cases h1 : inB x.i 0 59 with
  | false =>
    go_wp2
    go_ret
    exact ⟨by simp [*], bAl (bRefl w) _⟩
  | true =>
    go_wp2_with fail
    refine (rwithin_ok _ _ _ _).mono ?_
    rintro e w1 ⟨rfl, rfl⟩
    cases h2 : inB x.j 0 59 with
    | false =>
      go_wp2
      go_ret
      exact ⟨by simp [*], bAl (bRefl w) _⟩
    | true =>
      by_cases hne : x.i = x.j
      · go_wp2
        go_ret
        exact ⟨by simp [*], bAl (bRefl w) _⟩
      · go_wp2_with fail
        refine (rwithin_ok _ _ _ _).mono ?_
        rintro e w1 ⟨rfl, rfl⟩
        go_wp2
        go_ret
        exact ⟨by simp [*], bAl (bRefl w) _⟩

theorem rrises_ok (w : World) (a b : C3) : Calls Try.prog 74 #[.agg (c3v a), .agg (c3v b)] w fun e w' => e = .returned (.bool (rises a b)) ∧ Below w.heap.size w w' := by
  unfold rises c3v
  go_enter Try.func74, Try.ntmps74
  by_cases h1 : a.i < b.i
  · go_wp2
    go_ret
    exact ⟨by simp [h1], bAl (bAl (bRefl w) _) _⟩
  · by_cases h2 : a.i = b.i
    · rw [h2]
      go_wp2
      go_ret
      exact ⟨by simp, bAl (bAl (bRefl w) _) _⟩
    · go_wp2
      go_ret
      exact ⟨by simp; omega, bAl (bAl (bRefl w) _) _⟩

theorem rtag_ref (w : World) (t : Tg) (slot : Bool) : Calls Try.prog 72 #[.agg (tgv t), .bool slot] w fun e w' => e = .returned (.bool (goodTag t (if slot = true then 255 else 0))) ∧ Below w.heap.size w w' := by
  obtain ⟨R, hR⟩ : ∃ R, R = goodTag t (if slot = true then 255 else 0) := ⟨_, rfl⟩
  rw [← hR]
  have HRR := Lib.hid hR
  clear hR
  have h00 : ∀ x : Int, inB x 0 0 = decide (x = 0) := fun x => by
    rw [Bool.eq_iff_iff, inB_iff, decide_eq_true_eq]
    omega
  unfold tgv
  go_enter Try.func72, Try.ntmps72
  go_wp2_with fail
  refine (rwithin_ok _ _ _ _).mono ?_
  rintro e w1 ⟨rfl, rfl⟩
  cases h1 : inB t.k 0 6 with
  | false =>
    go_wp2
    go_ret
    exact ⟨by rw [HRR.out]; simp [goodTag, h1], bAl (bRefl w) _⟩
  | true =>
    by_cases hr : t.k = 5 ∨ t.k = 6
    · have HE : Hid (R = (inB t.t 0 7 && decide (t.m = 0))) := by
        show _ = _
        rw [HRR.out]
        unfold goodTag
        rw [h1, if_pos hr, if_neg (by omega), Bool.true_and, h00]
      have e1 : (t.k == 5) = true ∨ ((t.k == 5) = false ∧ (t.k == 6) = true) := by
        rcases hr with h | h <;> simp [h]
      clear hr
      rcases e1 with e1 | ⟨e1, e2⟩
      all_goals
        go_wp2_with fail
        refine (rwithin_ok _ _ _ _).mono ?_
        rintro e w1 ⟨rfl, rfl⟩
        cases h2 : inB t.t 0 7 with
        | false =>
          go_wp2
          go_ret
          exact ⟨by rw [HE.out, h2]; rfl, bAl (bRefl w) _⟩
        | true =>
          go_wp2
          go_ret
          exact ⟨by rw [HE.out, h2, Bool.true_and]; simp; rfl, bAl (bRefl w) _⟩
    · have e1 : (t.k == 5) = false := by simp; omega
      have e2 : (t.k == 6) = false := by simp; omega
      by_cases ht : t.t = 0
      · by_cases hm : t.m = 0
        · have HE : Hid (R = true) := by
            show _ = _
            rw [HRR.out]
            unfold goodTag
            rw [h1, if_neg hr, h00, ht, hm]
            simp only [decide_true, Bool.true_and]
            split
            · cases slot <;> rfl
            · rfl
          have ht' : (t.t != 0) = false := by simp [ht]
          have hm' : (t.m == 0) = true := by simp [hm]
          clear hr
          go_wp2
          go_ret
          exact ⟨by rw [HE.out]; rfl, bAl (bRefl w) _⟩
        · have ht' : (t.t != 0) = false := by simp [ht]
          have hm' : (t.m == 0) = false := by simp [hm]
          cases slot with
          | false =>
            have HE : Hid (R = false) := by
              show _ = _
              rw [HRR.out]
              unfold goodTag
              have : inB t.m 0 (if t.k = 0 then (if false = true then 255 else 0) else 0) = false := by
                rw [show (if t.k = 0 then (if false = true then (255 : Int) else 0) else 0) = 0 by simp, h00]
                simp [hm]
              rw [this]
              simp
            clear hr
            go_wp2
            go_ret
            exact ⟨by rw [HE.out]; rfl, bAl (bRefl w) _⟩
          | true =>
            by_cases hk : t.k = 0
            · have HE : Hid (R = inB t.m 0 255) := by
                show _ = _
                rw [HRR.out]
                unfold goodTag
                rw [h1, if_neg hr, if_pos hk, h00, ht]
                simp
              have hk' : (t.k == 0) = true := by simp [hk]
              clear hr
              go_wp2_with fail
              refine (rwithin_ok _ _ _ _).mono ?_
              rintro e w1 ⟨rfl, rfl⟩
              go_wp2
              go_ret
              exact ⟨by rw [HE.out]; rfl, bAl (bRefl w) _⟩
            · have HE : Hid (R = false) := by
                show _ = _
                rw [HRR.out]
                unfold goodTag
                rw [if_neg hk, h00 t.m]
                simp [hm]
              have hk' : (t.k == 0) = false := by simp [hk]
              clear hr
              go_wp2
              go_ret
              exact ⟨by rw [HE.out]; rfl, bAl (bRefl w) _⟩
      · have HE : Hid (R = false) := by
          show _ = _
          rw [HRR.out]
          unfold goodTag
          rw [if_neg hr, h00 t.t]
          simp [ht]
        have ht' : (t.t != 0) = true := by simp [ht]
        clear hr
        go_wp2
        go_ret
        exact ⟨by rw [HE.out]; rfl, bAl (bRefl w) _⟩
end Go.Proofs.Ytfdjdpbiccclfaa
