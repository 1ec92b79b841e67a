/- The reader of deed: a number, a bounded one, a signed one, a bounded byte. -/
import Derived.Test.YtfdjdpbiccclfaaDRd
import Derived.Test.YtfdjdpbiccclfaaDFine
import Derived.Laws.BitsLemmas
namespace Go.Proofs.Ytfdjdpbiccclfaa
open Go Go.RowKit Go.Wr
set_option maxHeartbeats 4000000
set_option maxRecDepth 100000

theorem rbounded_ok (w : World) (B p a : Nat) (b : List Nat) (vb : Value) (h : Rdr B p b a w vb) (high : Nat) (er : Int) :
    Calls Try.prog 76 #[.pointer (some ⟨p, 0, none⟩), .int .i64 (high : Int), .int .i64 er] w (RP B p b vb (pBnd high er b a) isNat w) := by
  have H := Lib.hid h
  have c1 := h.blk.cell 1
  simp only [List.getElem?_toArray, List.getElem?_cons_zero, List.getElem?_cons_succ] at c1
  clear h
  go_enter Try.func76, Try.ntmps76
  go_wp2_with fail
  refine (rbyte_ok w B p a b vb H.out).mono ?_
  rintro e w1 hr
  cases hb : pByte b a with
  | error y =>
    obtain ⟨y, ye⟩ := y
    obtain ⟨rfl, hx⟩ := hr.err hb
    have e1 : Hid (pBnd high er b a = .error (y, ye)) := by show _ = _; unfold pBnd pChk; rw [hb]
    clear hr hb
    go_wp2
    exact ⟨rfl, RP.mk_err e1.out hx⟩
  | ok v =>
    obtain ⟨x, m⟩ := v
    obtain ⟨v, rfl, rfl, hd, hx⟩ := hr.ok hb
    obtain ⟨x256, rfl, _⟩ := H.out.byte_lt hb
    have HD := Lib.hid hd
    by_cases hlt : x ≤ high
    · have hlt' : ¬ (high : Int) < (x : Int) := by omega
      have e1 : Hid (pBnd high er b a = .ok (x, a + 1)) := by show _ = _; unfold pBnd pChk; rw [hb]; simp [hlt]
      clear hr hb hd
      go_wp2
      go_ret
      exact RP.mk_ok e1.out rfl HD.out hx
    · have hlt' : (high : Int) < (x : Int) := by omega
      have e1 : Hid (pBnd high er b a = .error (a, er)) := by show _ = _; unfold pBnd pChk; rw [hb]; simp [hlt]
      clear hr hb hd
      go_wp2_with fail
      refine (giveup_ok _ _ a er).mono ?_
      rintro e w2 ⟨rfl, rfl⟩
      go_wp2
      exact ⟨rfl, RP.mk_err e1.out hx⟩

theorem grp_next {acc g k : Nat} (hk : k < 9) (hacc : acc < 2 ^ (7 * k)) : acc + g % 128 * 2 ^ (7 * k) < 2 ^ (7 * (k + 1)) ∧ 2 ^ (7 * (k + 1)) ≤ 9223372036854775808 := by
  have e : 2 ^ (7 * (k + 1)) = 128 * 2 ^ (7 * k) := by rw [show 7 * (k + 1) = 7 + 7 * k by omega, Nat.pow_add]
  have h2 : 2 ^ (7 * k) ≤ 2 ^ 56 := Nat.pow_le_pow_right (by decide) (by omega)
  have h3 : g % 128 * 2 ^ (7 * k) ≤ 127 * 2 ^ (7 * k) := Nat.mul_le_mul_right _ (by omega)
  have h4 : (2 : Nat) ^ 56 = 72057594037927936 := by decide
  rw [e]
  constructor
  · omega
  · omega
theorem grp_or {acc g k : Nat} (hk : k < 9) (hg : g < 256) (hacc : acc < 2 ^ (7 * k)) : bits BinOp.or IntKind.i64 (acc : Int) (wrap64 (bits BinOp.and IntKind.i64 (g : Int) 127 * 2 ^ (7 * k))) = ((acc + g % 128 * 2 ^ (7 * k) : Nat) : Int) := by
  have hn := grp_next (g := g) hk hacc
  have wr : ∀ n : Int, 0 ≤ n → n < 2 ^ 63 → IntKind.i64.wrap n = n := fun n h0 h1 => by rw [IntKind.wrap_i64]; omega
  have e1 : bits BinOp.and IntKind.i64 (g : Int) 127 = ((g % 128 : Nat) : Int) := by
    have := (bits_nat .i64 63 (by decide) wr g 127 (by omega) (by omega)).1
    have h2 : g &&& 127 = g % 128 := Nat.and_two_pow_sub_one_eq_mod g 7
    rw [h2] at this
    exact this
  have hp : (2 : Int) ^ (7 * k) = ((2 ^ (7 * k) : Nat) : Int) := by simp
  have e2 : wrap64 (bits BinOp.and IntKind.i64 (g : Int) 127 * 2 ^ (7 * k)) = ((g % 128 * 2 ^ (7 * k) : Nat) : Int) := by
    rw [e1, hp, ← Int.natCast_mul]
    unfold wrap64
    omega
  rw [e2, (bits_nat .i64 63 (by decide) wr acc _ (by omega) (by omega)).2]
  have h3 := Nat.shiftLeft_add_eq_or_of_lt hacc (g % 128)
  rw [Nat.shiftLeft_eq] at h3
  rw [Nat.or_comm, ← h3, Nat.add_comm]

theorem rnumber_ok (w : World) (B p a : Nat) (b : List Nat) (vb : Value) (h : Rdr B p b a w vb) :
    Calls Try.prog 75 #[.pointer (some ⟨p, 0, none⟩)] w (RP B p b vb (pNum b a) isNat w) := by
  have H := Lib.hid h
  have c1 := h.blk.cell 1
  simp only [List.getElem?_toArray, List.getElem?_cons_zero, List.getElem?_cons_succ] at c1
  clear h
  obtain ⟨R, hR⟩ : ∃ R, R = pNum b a := ⟨_, rfl⟩
  rw [← hR]
  have HR := Lib.hid hR
  clear hR
  go_enter Try.func75, Try.ntmps75
  go_wp2
  go_loopw [4, 11] (fun t c wr => ∃ k acc m : Nat, k ≤ 9 ∧ c = .int .i64 (k : Int) ∧ t = .int .i64 (acc : Int) ∧ acc < 2 ^ (7 * k) ∧ Hid (R = pGrp a (9 - k) k acc b m) ∧ Rdr B p b m wr vb ∧ Ex p w wr) (fun _ c _ => 9 - (intOf c).toNat)
  case atStart => exact ⟨0, 0, a, by omega, rfl, rfl, by simp, HR.out, H.out, Ex.refl _ _⟩
  case round =>
    obtain ⟨k, acc, m, hk, rfl, rfl, hacc, he, hd, hx⟩ := hrel
    by_cases hlt : k < 9
    · have hlt' : (k : Int) < 9 := by omega
      have HD := Lib.hid hd
      have HA := Lib.hid hacc
      clear hd hacc
      go_wp2_with fail
      refine (rbyte_ok wr B p m b vb HD.out).mono ?_
      rintro e w1 hr
      cases hb : pByte b m with
      | error y =>
        obtain ⟨y, ye⟩ := y
        obtain ⟨rfl, hx2⟩ := hr.err hb
        have e1 : Hid (R = .error (y, ye)) := by
          show _ = _
          rw [he.out, show 9 - k = (8 - k) + 1 by omega]
          simp only [pGrp, pBind, hb]
        clear hr hb he
        go_wp2
        exact ⟨rfl, RP.mk_err e1.out (hx.trans hx2)⟩
      | ok v =>
        obtain ⟨g, m'⟩ := v
        obtain ⟨v, rfl, rfl, hd2, hx2⟩ := hr.ok hb
        obtain ⟨x256, rfl, _⟩ := HD.out.byte_lt hb
        have hX := hx.trans hx2
        have HD2 := Lib.hid hd2
        have HB := Lib.hid hb
        clear hr hb hd2 hx hx2
        have hor := grp_or (g := g) hlt x256 HA.out
        obtain ⟨ac2, hac⟩ : ∃ n, n = acc + g % 128 * 2 ^ (7 * k) := ⟨_, rfl⟩
        have hnx := (grp_next (g := g) hlt HA.out).1
        rw [← hac] at hor hnx
        have HN := Lib.hid hnx
        have he2 : Hid (R = if g < 128 then (if g = 0 ∧ 0 < k then .error (a, 110) else .ok (ac2, m + 1)) else pGrp a (8 - k) (k + 1) ac2 b (m + 1)) := by
          show _ = _
          rw [he.out, show 9 - k = (8 - k) + 1 by omega]
          simp only [pGrp, pBind, HB.out, ← hac]
          by_cases h1 : g < 128
          · rw [if_pos h1, if_pos h1]
            by_cases h2 : g = 0 ∧ 0 < k
            · rw [if_pos h2, if_pos h2]; rfl
            · rw [if_neg h2, if_neg h2]; rfl
          · rw [if_neg h1, if_neg h1]
        clear hnx hac he HB
        by_cases h1 : g < 128
        · have h1' : (g : Int) < 128 := by omega
          by_cases h2 : g = 0 ∧ 0 < k
          · obtain ⟨rfl, hk0⟩ := h2
            have hk0' : (0 : Int) < (k : Int) := by omega
            have e1 : Hid (R = .error (a, 110)) := by
              show _ = _
              rw [he2.out, if_pos (by omega), if_pos ⟨rfl, hk0⟩]
            clear he2
            go_wp2_with fail
            refine (giveup_ok _ _ a 110).mono ?_
            rintro e w2 ⟨rfl, rfl⟩
            go_wp2
            exact ⟨rfl, RP.mk_err e1.out hX⟩
          · have e1 : Hid (R = .ok (ac2, m + 1)) := by
              show _ = _
              rw [he2.out, if_pos h1, if_neg h2]
            clear he2
            by_cases h3 : g = 0
            · obtain rfl : k = 0 := by omega
              subst h3
              have hor2 : bits BinOp.or IntKind.i64 (acc : Int) (wrap64 (bits BinOp.and IntKind.i64 0 127)) = (ac2 : Int) := by simpa using hor
              clear hor
              go_wp2
              go_ret
              exact RP.mk_ok e1.out rfl HD2.out hX
            · go_wp2
              go_ret
              exact RP.mk_ok e1.out rfl HD2.out hX
        · have h1' : ¬ (g : Int) < 128 := by omega
          have e1 : Hid (R = pGrp a (9 - (k + 1)) (k + 1) ac2 b (m + 1)) := by
            show _ = _
            rw [he2.out, if_neg h1, show 9 - (k + 1) = 8 - k by omega]
          clear he2
          go_wp2
          refine ⟨⟨k + 1, ac2, m + 1, by omega, by go_num, rfl, HN.out, e1, HD2.out, hX⟩, ?_⟩
          simp only [intOf]
          omega
    · obtain rfl : k = 9 := by omega
      have e1 : Hid (R = .error (a, 110)) := by
        show _ = _
        rw [he.out]
        rfl
      clear he
      go_wp2_with fail
      refine (giveup_ok _ _ a 110).mono ?_
      rintro e w2 ⟨rfl, rfl⟩
      go_wp2
      exact ⟨rfl, RP.mk_err e1.out hx⟩

theorem pGrp_lt {from' : Nat} {b : List Nat} : ∀ (f k acc m x m' : Nat), f + k = 9 → acc < 2 ^ (7 * k) → pGrp from' f k acc b m = .ok (x, m') → x < 9223372036854775808 := by
  intro f
  induction f with
  | zero => intro k acc m x m' _ _ h; cases h
  | succ f ih =>
    intro k acc m x m' hf ha h
    obtain ⟨g, n, h1, h2⟩ := pBind_ok.1 h
    have hn := grp_next (g := g) (by omega) ha
    by_cases h3 : g < 128
    · rw [if_pos h3] at h2
      by_cases h4 : g = 0 ∧ 0 < k
      · rw [if_pos h4] at h2; cases h2
      · rw [if_neg h4] at h2
        simp only [pPure, Except.ok.injEq, Prod.mk.injEq] at h2
        omega
    · rw [if_neg h3] at h2
      exact ih (k + 1) _ n x m' (by omega) hn.1 h2
theorem pNum_lt {b : List Nat} {a x m : Nat} (h : pNum b a = .ok (x, m)) : x < 9223372036854775808 := pGrp_lt 9 0 0 a x m rfl (by decide) h

theorem rmost_ok (w : World) (B p a : Nat) (b : List Nat) (vb : Value) (h : Rdr B p b a w vb) (high : Nat) (er : Int) :
    Calls Try.prog 55 #[.pointer (some ⟨p, 0, none⟩), .int .i64 (high : Int), .int .i64 er] w (RP B p b vb (pMost high er b a) isNat w) := by
  have H := Lib.hid h
  have c1 := h.blk.cell 1
  simp only [List.getElem?_toArray, List.getElem?_cons_zero, List.getElem?_cons_succ] at c1
  clear h
  go_enter Try.func55, Try.ntmps55
  go_wp2_with fail
  refine (rnumber_ok w B p a b vb H.out).mono ?_
  rintro e w1 hr
  cases hb : pNum b a with
  | error y =>
    obtain ⟨y, ye⟩ := y
    obtain ⟨rfl, hx⟩ := hr.err hb
    have e1 : Hid (pMost high er b a = .error (y, ye)) := by show _ = _; unfold pMost pChk; rw [hb]
    clear hr hb
    go_wp2
    exact ⟨rfl, RP.mk_err e1.out hx⟩
  | ok v =>
    obtain ⟨x, m⟩ := v
    obtain ⟨v, rfl, rfl, hd, hx⟩ := hr.ok hb
    have HD := Lib.hid hd
    by_cases hlt : x ≤ high
    · have hlt' : ¬ (high : Int) < (x : Int) := by omega
      have e1 : Hid (pMost high er b a = .ok (x, m)) := by show _ = _; unfold pMost pChk; rw [hb]; simp [hlt]
      clear hr hb hd
      go_wp2
      go_ret
      exact RP.mk_ok e1.out rfl HD.out hx
    · have hlt' : (high : Int) < (x : Int) := by omega
      have e1 : Hid (pMost high er b a = .error (a, er)) := by show _ = _; unfold pMost pChk; rw [hb]; simp [hlt]
      clear hr hb hd
      go_wp2_with fail
      refine (giveup_ok _ _ a er).mono ?_
      rintro e w2 ⟨rfl, rfl⟩
      go_wp2
      exact ⟨rfl, RP.mk_err e1.out hx⟩

theorem unz_bits {x : Nat} (h : x < 9223372036854775808) : bits BinOp.xor IntKind.i64 ((x : Int) / 2) (wrap64 (-bits BinOp.and IntKind.i64 (x : Int) 1)) = unz x := by
  have wr : ∀ n : Int, 0 ≤ n → n < 2 ^ 63 → IntKind.i64.wrap n = n := fun n h0 h1 => by rw [IntKind.wrap_i64]; omega
  have e1 : bits BinOp.and IntKind.i64 (x : Int) 1 = ((x % 2 : Nat) : Int) := by
    have := (bits_nat .i64 63 (by decide) wr x 1 (by omega) (by omega)).1
    rw [Nat.and_one_is_mod] at this
    exact this
  have e2 : (x : Int) / 2 = ((x / 2 : Nat) : Int) := by omega
  rw [e1, e2]
  unfold unz
  by_cases hp : x % 2 = 0
  · rw [hp, if_pos rfl]
    have e3 : wrap64 (-((0 : Nat) : Int)) = 0 := by unfold wrap64; omega
    rw [e3]
    show IntKind.i64.wrap ((BitVec.ofInt 64 ((x / 2 : Nat) : Int) ^^^ BitVec.ofInt 64 0).toNat : Int) = _
    rw [show BitVec.ofInt 64 0 = 0#64 by decide, BitVec.xor_zero, BitVec.ofInt_natCast, BitVec.toNat_ofNat, Nat.mod_eq_of_lt (by omega)]
    exact wr _ (by omega) (by omega)
  · rw [if_neg hp, show x % 2 = 1 by omega]
    have e3 : wrap64 (-((1 : Nat) : Int)) = -1 := by unfold wrap64; omega
    rw [e3]
    show IntKind.i64.wrap ((BitVec.ofInt 64 ((x / 2 : Nat) : Int) ^^^ BitVec.ofInt 64 (-1)).toNat : Int) = _
    rw [show BitVec.ofInt 64 (-1) = BitVec.allOnes 64 by decide, BitVec.xor_allOnes, BitVec.toNat_not, BitVec.ofInt_natCast, BitVec.toNat_ofNat, Nat.mod_eq_of_lt (by omega), IntKind.wrap_i64]
    omega

theorem rsigned_ok (w : World) (B p a : Nat) (b : List Nat) (vb : Value) (h : Rdr B p b a w vb) (er : Int) :
    Calls Try.prog 56 #[.pointer (some ⟨p, 0, none⟩), .int .i64 er] w (RP B p b vb (pSig er b a) isInt w) := by
  have H := Lib.hid h
  have c1 := h.blk.cell 1
  simp only [List.getElem?_toArray, List.getElem?_cons_zero, List.getElem?_cons_succ] at c1
  clear h
  go_enter Try.func56, Try.ntmps56
  go_wp2_with fail
  refine (rnumber_ok w B p a b vb H.out).mono ?_
  rintro e w1 hr
  cases hb : pNum b a with
  | error y =>
    obtain ⟨y, ye⟩ := y
    obtain ⟨rfl, hx⟩ := hr.err hb
    have e1 : Hid (pSig er b a = .error (y, ye)) := by show _ = _; unfold pSig pChk pMap; rw [hb]
    clear hr hb
    go_wp2
    exact ⟨rfl, RP.mk_err e1.out hx⟩
  | ok v =>
    obtain ⟨x, m⟩ := v
    obtain ⟨v, rfl, rfl, hd, hx⟩ := hr.ok hb
    have HD := Lib.hid hd
    have hxl := pNum_lt hb
    have HB := Lib.hid hb
    clear hr hb hd
    have hu := unz_bits hxl
    go_wp2_with fail
    refine (within_ok _ _ _ _).mono ?_
    rintro e w2 ⟨rfl, rfl⟩
    cases hi : inB (unz x) (-1099511627776) 1099511627776 with
    | false =>
      have e1 : Hid (pSig er b a = .error (a, er)) := by show _ = _; unfold pSig pChk pMap; rw [HB.out]; simp [hi]
      clear hi
      go_wp2_with fail
      refine (giveup_ok _ _ a er).mono ?_
      rintro e w3 ⟨rfl, rfl⟩
      go_wp2
      exact ⟨rfl, RP.mk_err e1.out hx⟩
    | true =>
      have e1 : Hid (pSig er b a = .ok (unz x, m)) := by show _ = _; unfold pSig pChk pMap; rw [HB.out]; simp [hi]
      clear hi
      go_wp2
      go_ret
      exact RP.mk_ok e1.out rfl HD.out hx

theorem rbounded_eq (w : World) (B p a : Nat) (b : List Nat) (vb : Value) (h : Rdr B p b a w vb) (high : Nat) (er : Int) {hi : Int} (hh : hi = (high : Int)) :
    Calls Try.prog 76 #[.pointer (some ⟨p, 0, none⟩), .int .i64 hi, .int .i64 er] w (RP B p b vb (pBnd high er b a) isNat w) := hh ▸ rbounded_ok w B p a b vb h high er
theorem rmost_eq (w : World) (B p a : Nat) (b : List Nat) (vb : Value) (h : Rdr B p b a w vb) (high : Nat) (er : Int) {hi : Int} (hh : hi = (high : Int)) :
    Calls Try.prog 55 #[.pointer (some ⟨p, 0, none⟩), .int .i64 hi, .int .i64 er] w (RP B p b vb (pMost high er b a) isNat w) := hh ▸ rmost_ok w B p a b vb h high er
end Go.Proofs.Ytfdjdpbiccclfaa
