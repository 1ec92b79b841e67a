/- The document's cursor: a number, a bounded one, a signed one. -/
import Derived.Test.YtfdjdpbiccclfaaDCu
namespace Go.Proofs.Ytfdjdpbiccclfaa
open Go Go.RowKit Go.Wr
set_option maxHeartbeats 4000000
set_option maxRecDepth 100000

theorem CuD.cell3 {B p y : Nat} {er : Int} {b : List Nat} {w : World} {vb : Value} (h : CuD B p b y er w vb) : w.cell? ⟨p, 3, none⟩ = some (.int .i64 er) := by
  obtain ⟨a, hb⟩ := h.blk
  exact hb.cell 3
theorem CuD.cell1 {B p y : Nat} {er : Int} {b : List Nat} {w : World} {vb : Value} (h : CuD B p b y er w vb) : ∃ a : Nat, w.cell? ⟨p, 1, none⟩ = some (.int .i64 (a : Int)) := by
  obtain ⟨a, hb⟩ := h.blk
  exact ⟨a, hb.cell 1⟩
theorem CuL.cell3 {B p a : Nat} {b : List Nat} {w : World} {vb : Value} (h : CuL B p b a w vb) : w.cell? ⟨p, 3, none⟩ = some (.int .i64 0) := h.blk.cell 3
theorem CuL.cell1 {B p a : Nat} {b : List Nat} {w : World} {vb : Value} (h : CuL B p b a w vb) : w.cell? ⟨p, 1, none⟩ = some (.int .i64 (a : Int)) := h.blk.cell 1
theorem CuD.ne {B p y : Nat} {er : Int} {b : List Nat} {w : World} {vb : Value} (h : CuD B p b y er w vb) : (er != 0) = true := by rw [bne_iff_ne]; exact h.er'
theorem CuD.ne' {B p y : Nat} {er : Int} {b : List Nat} {w : World} {vb : Value} (h : CuD B p b y er w vb) : (er == 0) = false := by rw [beq_eq_false_iff_ne]; exact h.er'

theorem grp_add {acc g k : Nat} (hk : k < 9) (hacc : acc < 2 ^ (7 * k)) {U : Int} (hU : U = ((2 ^ (7 * k) : Nat) : Int)) :
    wrap64 (U * ((g : Int) % 128)) = ((g % 128 * 2 ^ (7 * k) : Nat) : Int) ∧ wrap64 ((acc : Int) + ((g % 128 * 2 ^ (7 * k) : Nat) : Int)) = ((acc + g % 128 * 2 ^ (7 * k) : Nat) : Int) := by
  have hn := grp_next (g := g) hk hacc
  have e1 : (g : Int) % 128 = ((g % 128 : Nat) : Int) := by omega
  subst hU
  rw [e1, ← Int.natCast_mul, Nat.mul_comm (2 ^ (7 * k))]
  constructor
  · unfold wrap64; omega
  · unfold wrap64; omega

theorem cnumber_dead (w : World) (B p y : Nat) (er : Int) (b : List Nat) (vb : Value) (h : CuD B p b y er w vb) :
    Calls Try.prog 58 #[.pointer (some ⟨p, 0, none⟩)] w (RC B p b vb (.error (y, er) : Except (Nat × Int) (Nat × Nat)) isNat w) := by
  have H := Lib.hid h
  obtain ⟨a, c1⟩ := h.cell1
  clear h
  go_enter Try.func58, Try.ntmps58
  go_wp2
  go_loopw [6] (fun c wr => c = .int .i64 0 ∧ CuD B p b y er wr vb ∧ Ex p w wr) (fun _ _ => 0)
  case atStart => exact ⟨rfl, H.out, Ex.refl _ _⟩
  case round =>
    obtain ⟨rfl, hd, hx⟩ := hrel
    have HD := Lib.hid hd
    clear hd H c1
    go_wp2_with fail
    refine (cbyte_dead wr B p y er b vb HD.out).mono ?_
    rintro e w1 hr
    obtain ⟨x, v, rfl, rfl, hd1, hx1⟩ := hr.err rfl
    have c3 := hd1.cell3
    have hne := hd1.ne
    have HD1 := Lib.hid hd1
    clear hd1 hr
    go_wp2
    go_ret
    exact RC.mk_err rfl (x := 0) rfl HD1.out (hx.trans hx1)

theorem cnumber_ok (w : World) (B p a : Nat) (b : List Nat) (vb : Value) (h : CuL B p b a w vb) :
    Calls Try.prog 58 #[.pointer (some ⟨p, 0, none⟩)] w (RC B p b vb (pNum b a) isNat w) := by
  have H := Lib.hid h
  have c1 := h.cell1
  clear h
  obtain ⟨R, hR⟩ : ∃ R, R = pNum b a := ⟨_, rfl⟩
  rw [← hR]
  have HR := Lib.hid hR
  clear hR
  go_enter Try.func58, Try.ntmps58
  go_wp2
  go_loopw [4, 5, 6] (fun t u c wr => ∃ k acc m : Nat, ∃ U : Int, k ≤ 9 ∧ c = .int .i64 (k : Int) ∧ t = .int .i64 (acc : Int) ∧ u = .int .i64 U ∧ Hid (k ≤ 8 → U = ((2 ^ (7 * k) : Nat) : Int)) ∧ acc < 2 ^ (7 * k) ∧ Hid (R = pGrp a (9 - k) k acc b m) ∧ CuL B p b m wr vb ∧ Ex p w wr) (fun _ _ c _ => 9 - (intOf c).toNat)
  case atStart => exact ⟨0, 0, a, 1, by omega, rfl, rfl, rfl, fun _ => by simp, by simp, HR.out, H.out, Ex.refl _ _⟩
  case round =>
    obtain ⟨k, acc, m, U, hk, rfl, rfl, rfl, hU, hacc, he, hd, hx⟩ := hrel
    by_cases hlt : k < 9
    · have hlt' : (k : Int) < 9 := by omega
      have HD := Lib.hid hd
      have HA := Lib.hid hacc
      clear hd hacc H c1
      go_wp2_with fail
      refine (cbyte_ok wr B p m b vb HD.out).mono ?_
      rintro e w1 hr
      cases hb : pByte b m with
      | error y =>
        obtain ⟨y, ye⟩ := y
        obtain ⟨x, v, rfl, rfl, hd1, hx2⟩ := hr.err hb
        have e1 : Hid (R = .error (y, ye)) := by
          show _ = _
          rw [he.out, show 9 - k = (8 - k) + 1 by omega]
          simp only [pGrp, pBind, hb]
        have c3 := hd1.cell3
        have hne := hd1.ne
        have HD1 := Lib.hid hd1
        clear hr hb he hd1
        go_wp2
        go_ret
        exact RC.mk_err e1.out (x := 0) rfl HD1.out (hx.trans hx2)
      | ok v =>
        obtain ⟨g, m'⟩ := v
        obtain ⟨v, rfl, rfl, hd2, hx2⟩ := hr.ok hb
        obtain ⟨x256, rfl, _⟩ := HD.out.byte_lt hb
        have hX := hx.trans hx2
        have c3 := hd2.cell3
        have HD2 := Lib.hid hd2
        have HB := Lib.hid hb
        clear hr hb hd2 hx hx2
        obtain ⟨q1, q2⟩ := grp_add (g := g) hlt HA.out (hU.out (by omega))
        obtain ⟨P, hP⟩ : ∃ P : Int, P = ((g % 128 * 2 ^ (7 * k) : Nat) : Int) := ⟨_, rfl⟩
        rw [← hP] at q1 q2
        obtain ⟨ac2, hac⟩ : ∃ n, n = acc + g % 128 * 2 ^ (7 * k) := ⟨_, rfl⟩
        have hnx := (grp_next (g := g) hlt HA.out).1
        rw [← hac] at q2 hnx
        have HU2 : Hid (k + 1 ≤ 8 → wrap64 (U * 128) = ((2 ^ (7 * (k + 1)) : Nat) : Int)) := by
          show _ → _
          intro hk8
          have e : 2 ^ (7 * (k + 1)) = 128 * 2 ^ (7 * k) := by rw [show 7 * (k + 1) = 7 + 7 * k by omega, Nat.pow_add]
          have h2 : 2 ^ (7 * k) ≤ 2 ^ 49 := Nat.pow_le_pow_right (by decide) (by omega)
          have h4 : (2 : Nat) ^ 49 = 562949953421312 := by decide
          rw [hU.out (by omega), e]
          unfold wrap64
          omega
        have HN := Lib.hid hnx
        have he2 : Hid (R = if g < 128 then (if g = 0 ∧ 0 < k then .error (a, 110) else .ok (ac2, m + 1)) else pGrp a (8 - k) (k + 1) ac2 b (m + 1)) := by
          show _ = _
          rw [he.out, show 9 - k = (8 - k) + 1 by omega]
          simp only [pGrp, pBind, HB.out, ← hac]
          by_cases h1 : g < 128
          · rw [if_pos h1, if_pos h1]
            by_cases h2 : g = 0 ∧ 0 < k
            · rw [if_pos h2, if_pos h2]; rfl
            · rw [if_neg h2, if_neg h2]; rfl
          · rw [if_neg h1, if_neg h1]
        clear hnx hac he HB hP
        by_cases h1 : g < 128
        · have h1' : (g : Int) < 128 := by omega
          by_cases h3 : g = 0
          · subst h3
            obtain rfl : P = 0 := by rw [← q1]; unfold wrap64; simp
            obtain rfl : ac2 = acc := by
              have : wrap64 ((acc : Int) + 0) = acc := by
                have := (grp_next (g := 0) hlt HA.out)
                unfold wrap64
                omega
              omega
            have hwa : wrap64 (ac2 : Int) = ac2 := by
              have := (grp_next (g := 0) hlt HA.out)
              unfold wrap64
              omega
            clear q1 q2
            by_cases h2 : 0 < k
            · have hk0' : (0 : Int) < (k : Int) := by omega
              have e1 : Hid (R = .error (a, 110)) := by
                show _ = _
                rw [he2.out, if_pos (by omega), if_pos ⟨rfl, h2⟩]
              clear he2
              go_wp2_with fail
              refine (cfault_ok _ B p _ b vb HD2.out a 110 (by decide)).mono ?_
              rintro e w2 ⟨rfl, hd3, hx3⟩
              have HD3 := Lib.hid hd3
              clear hd3
              go_wp2
              go_ret
              exact RC.mk_err e1.out (x := ac2) rfl HD3.out (hX.trans hx3)
            · obtain rfl : k = 0 := by omega
              have e1 : Hid (R = .ok (ac2, m + 1)) := by
                show _ = _
                rw [he2.out, if_pos h1, if_neg (by omega)]
              clear he2
              go_wp2
              go_ret
              refine RC.mk_ok e1.out ?_ HD2.out hX
              show Value.int IntKind.i64 (wrap64 (ac2 : Int)) = _
              rw [hwa]
          · have e1 : Hid (R = .ok (ac2, m + 1)) := by
              show _ = _
              rw [he2.out, if_pos h1, if_neg (by omega)]
            clear he2
            have h3' : ¬ (g : Int) = 0 := by omega
            go_wp2
            go_ret
            exact RC.mk_ok e1.out rfl HD2.out hX
        · have h1' : ¬ (g : Int) < 128 := by omega
          have e1 : Hid (R = pGrp a (9 - (k + 1)) (k + 1) ac2 b (m + 1)) := by
            show _ = _
            rw [he2.out, if_neg h1, show 9 - (k + 1) = 8 - k by omega]
          clear he2
          go_wp2
          refine ⟨⟨k + 1, ac2, m + 1, wrap64 (U * 128), by omega, by go_num, congrArg (Value.int IntKind.i64) q2, rfl, HU2, HN.out, e1, HD2.out, hX⟩, ?_⟩
          simp only [intOf]
          omega
    · obtain rfl : k = 9 := by omega
      have e1 : Hid (R = .error (a, 110)) := by
        show _ = _
        rw [he.out]
        rfl
      have HD := Lib.hid hd
      clear he hd
      go_wp2_with fail
      refine (cfault_ok _ B p _ b vb HD.out a 110 (by decide)).mono ?_
      rintro e w2 ⟨rfl, hd3, hx3⟩
      have HD3 := Lib.hid hd3
      clear hd3
      go_wp2
      go_ret
      exact RC.mk_err e1.out (x := 0) rfl HD3.out (hx.trans hx3)

theorem cmost_dead (w : World) (B p y : Nat) (er : Int) (b : List Nat) (vb : Value) (h : CuD B p b y er w vb) (hi ex : Int) :
    Calls Try.prog 41 #[.pointer (some ⟨p, 0, none⟩), .int .i64 hi, .int .i64 ex] w (RC B p b vb (.error (y, er) : Except (Nat × Int) (Nat × Nat)) isNat w) := by
  have H := Lib.hid h
  obtain ⟨a, c1⟩ := h.cell1
  clear h
  go_enter Try.func41, Try.ntmps41
  go_wp2_with fail
  refine (cnumber_dead w B p y er b vb H.out).mono ?_
  rintro e w1 hr
  obtain ⟨x, v, rfl, rfl, hd1, hx1⟩ := hr.err rfl
  have c3 := hd1.cell3
  have hne := hd1.ne
  have hne' := hd1.ne'
  have HD1 := Lib.hid hd1
  clear hd1 hr c1
  go_wp2
  go_ret
  exact RC.mk_err rfl (x := 0) rfl HD1.out hx1

theorem cmost_ok (w : World) (B p a : Nat) (b : List Nat) (vb : Value) (h : CuL B p b a w vb) (high : Nat) (er : Int) (her : er ≠ 0) {hi : Int} (hh : hi = (high : Int)) :
    Calls Try.prog 41 #[.pointer (some ⟨p, 0, none⟩), .int .i64 hi, .int .i64 er] w (RC B p b vb (pMost high er b a) isNat w) := by
  subst hh
  have H := Lib.hid h
  have c1 := h.cell1
  have HER := Lib.hid her
  clear h her
  go_enter Try.func41, Try.ntmps41
  go_wp2_with fail
  refine (cnumber_ok w B p a b vb H.out).mono ?_
  rintro e w1 hr
  cases hb : pNum b a with
  | error y =>
    obtain ⟨y, ye⟩ := y
    obtain ⟨x, v, rfl, rfl, hd1, hx1⟩ := hr.err hb
    have e1 : Hid (pMost high er b a = .error (y, ye)) := by show _ = _; unfold pMost pChk; rw [hb]
    have c3 := hd1.cell3
    have hne := hd1.ne
    have hne' := hd1.ne'
    have HD1 := Lib.hid hd1
    clear hd1 hr hb c1
    go_wp2
    go_ret
    exact RC.mk_err e1.out (x := 0) rfl HD1.out hx1
  | ok v =>
    obtain ⟨x, m⟩ := v
    obtain ⟨v, rfl, rfl, hd, hx⟩ := hr.ok hb
    have c3 := hd.cell3
    have HD := Lib.hid hd
    by_cases hlt : x ≤ high
    · have hlt' : ¬ (high : Int) < (x : Int) := by omega
      have e1 : Hid (pMost high er b a = .ok (x, m)) := by show _ = _; unfold pMost pChk; rw [hb]; simp [hlt]
      clear hr hb hd c1
      go_wp2
      go_ret
      exact RC.mk_ok e1.out rfl HD.out hx
    · have hlt' : (high : Int) < (x : Int) := by omega
      have e1 : Hid (pMost high er b a = .error (a, er)) := by show _ = _; unfold pMost pChk; rw [hb]; simp [hlt]
      clear hr hb hd c1
      go_wp2_with fail
      refine (cfault_ok _ B p _ b vb HD.out a er HER.out).mono ?_
      rintro e w2 ⟨rfl, hd3, hx3⟩
      have c3 := hd3.cell3
      have hne := hd3.ne
      have HD3 := Lib.hid hd3
      clear hd3
      go_wp2
      go_ret
      exact RC.mk_err e1.out (x := 0) rfl HD3.out (hx.trans hx3)

theorem unz_even {x : Nat} (hx : x % 2 = 0) : unz x = (x : Int) / 2 := by unfold unz; rw [if_pos hx]; omega
theorem unz_odd {x : Nat} (hx : ¬ x % 2 = 0) : unz x = -((x : Int) / 2) - 1 := by
  unfold unz
  rw [if_neg hx]
  omega

theorem csigned_dead (w : World) (B p y : Nat) (er : Int) (b : List Nat) (vb : Value) (h : CuD B p b y er w vb) (ex : Int) :
    Calls Try.prog 42 #[.pointer (some ⟨p, 0, none⟩), .int .i64 ex] w (RC B p b vb (.error (y, er) : Except (Nat × Int) (Int × Nat)) isInt w) := by
  have H := Lib.hid h
  obtain ⟨a, c1⟩ := h.cell1
  clear h
  go_enter Try.func42, Try.ntmps42
  go_wp2_with fail
  refine (cnumber_dead w B p y er b vb H.out).mono ?_
  rintro e w1 hr
  obtain ⟨x, v, rfl, rfl, hd1, hx1⟩ := hr.err rfl
  have c3 := hd1.cell3
  have hne := hd1.ne
  have hne' := hd1.ne'
  have HD1 := Lib.hid hd1
  clear hd1 hr c1
  go_wp2
  all_goals
    go_ret
    exact RC.mk_err rfl (x := _) rfl HD1.out hx1

theorem csigned_ok (w : World) (B p a : Nat) (b : List Nat) (vb : Value) (h : CuL B p b a w vb) (er : Int) (her : er ≠ 0) :
    Calls Try.prog 42 #[.pointer (some ⟨p, 0, none⟩), .int .i64 er] w (RC B p b vb (pSig er b a) isInt w) := by
  have H := Lib.hid h
  have c1 := h.cell1
  have HER := Lib.hid her
  clear h her
  go_enter Try.func42, Try.ntmps42
  go_wp2_with fail
  refine (cnumber_ok w B p a b vb H.out).mono ?_
  rintro e w1 hr
  cases hb : pNum b a with
  | error y =>
    obtain ⟨y, ye⟩ := y
    obtain ⟨x, v, rfl, rfl, hd1, hx1⟩ := hr.err hb
    have e1 : Hid (pSig er b a = .error (y, ye)) := by show _ = _; unfold pSig pChk pMap; rw [hb]
    have c3 := hd1.cell3
    have hne := hd1.ne
    have hne' := hd1.ne'
    have HD1 := Lib.hid hd1
    clear hd1 hr hb c1
    go_wp2
    all_goals
      go_ret
      exact RC.mk_err e1.out (x := _) rfl HD1.out hx1
  | ok v =>
    obtain ⟨x, m⟩ := v
    obtain ⟨v, rfl, rfl, hd, hx⟩ := hr.ok hb
    have c3 := hd.cell3
    have HD := Lib.hid hd
    have hxl := pNum_lt hb
    have HB := Lib.hid hb
    clear hr hb hd c1
    by_cases hp : x % 2 = 0
    · have hu := unz_even hp
      have hp' : ((x : Int) % 2 == 1) = false := by rw [beq_eq_false_iff_ne]; omega
      have hw : wrap64 ((x : Int) / 2) = (x : Int) / 2 := by unfold wrap64; omega
      have HU := Lib.hid hu
      clear hu hp
      go_wp2_with fail
      rw [← HU.out]
      refine (rwithin_ok _ _ _ _).mono ?_
      rintro e w2 ⟨rfl, rfl⟩
      cases hi : inB (unz x) (-1099511627776) 1099511627776 with
      | false =>
        have e1 : Hid (pSig er b a = .error (a, er)) := by show _ = _; unfold pSig pChk pMap; rw [HB.out]; simp [hi]
        clear hi
        go_wp2_with fail
        refine (cfault_ok _ B p _ b vb HD.out a er HER.out).mono ?_
        rintro e w3 ⟨rfl, hd3, hx3⟩
        have HD3 := Lib.hid hd3
        clear hd3
        go_wp2
        go_ret
        exact RC.mk_err e1.out (x := _) rfl HD3.out (hx.trans hx3)
      | true =>
        have e1 : Hid (pSig er b a = .ok (unz x, m)) := by show _ = _; unfold pSig pChk pMap; rw [HB.out]; simp [hi]
        clear hi
        go_wp2
        go_ret
        exact RC.mk_ok e1.out rfl HD.out hx
    · have hu := unz_odd hp
      have hp' : ((x : Int) % 2 == 1) = true := by rw [beq_iff_eq]; omega
      have hw1 : wrap64 ((x : Int) / 2) = (x : Int) / 2 := by unfold wrap64; omega
      have hw2 : wrap64 (-(x : Int)) = -(x : Int) := by unfold wrap64; omega
      have hw3 : wrap64 (-((x : Int) / 2)) = -((x : Int) / 2) := by unfold wrap64; omega
      have hw5 : wrap64 (-((x : Int) / 2) - 1) = -((x : Int) / 2) - 1 := by unfold wrap64; omega
      have HU := Lib.hid hu
      clear hu hp
      go_wp2_with fail
      rw [← HU.out]
      refine (rwithin_ok _ _ _ _).mono ?_
      rintro e w2 ⟨rfl, rfl⟩
      cases hi : inB (unz x) (-1099511627776) 1099511627776 with
      | false =>
        have e1 : Hid (pSig er b a = .error (a, er)) := by show _ = _; unfold pSig pChk pMap; rw [HB.out]; simp [hi]
        clear hi
        go_wp2_with fail
        refine (cfault_ok _ B p _ b vb HD.out a er HER.out).mono ?_
        rintro e w3 ⟨rfl, hd3, hx3⟩
        have HD3 := Lib.hid hd3
        clear hd3
        go_wp2
        go_ret
        exact RC.mk_err e1.out (x := _) rfl HD3.out (hx.trans hx3)
      | true =>
        have e1 : Hid (pSig er b a = .ok (unz x, m)) := by show _ = _; unfold pSig pChk pMap; rw [HB.out]; simp [hi]
        clear hi
        go_wp2
        go_ret
        exact RC.mk_ok e1.out rfl HD.out hx
end Go.Proofs.Ytfdjdpbiccclfaa
