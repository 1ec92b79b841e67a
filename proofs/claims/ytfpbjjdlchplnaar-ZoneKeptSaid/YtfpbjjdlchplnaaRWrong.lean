/- The document's in, fits and Wrong; nothing that was there is turned. -/
import Derived.Test.YtfpbjjdlchplnaaRAwake
namespace Go.Proofs.YtfpbjjdlchplnaaR
open Go Go.RowKit Go.Wr
set_option maxHeartbeats 1000000

theorem rin_any (v : Int) (w : World) :
    Calls Try.prog 62 #[.int .i64 v] w fun e w' => e = .returned (.bool (vr v)) ∧ w = w' := by
  by_cases h0 : 0 ≤ v
  · by_cases h1 : v < 60
    · have e : vr v = true := by unfold vr; simp; omega
      rw [e]
      go_enter Try.func62, Try.ntmps62
      go_wp2
      go_ret
      exact ⟨rfl, rfl⟩
    · have e : vr v = false := by unfold vr; simp; omega
      rw [e]
      go_enter Try.func62, Try.ntmps62
      go_wp2
      go_ret
      exact ⟨rfl, rfl⟩
  · have e : vr v = false := by unfold vr; simp; omega
    rw [e]
    go_enter Try.func62, Try.ntmps62
    go_wp2
    go_ret
    exact ⟨rfl, rfl⟩

theorem fits_any (v : Int) (w : World) :
    Calls Try.prog 63 #[.int .i64 v] w fun e w' => e = .returned (.bool (bd v)) ∧ w = w' := by
  by_cases h0 : -1152921504606846976 ≤ v
  · by_cases h1 : v ≤ 1152921504606846976
    · have e : bd v = true := by unfold bd; simp; omega
      rw [e]
      go_enter Try.func63, Try.ntmps63
      go_wp2
      go_ret
      exact ⟨rfl, rfl⟩
    · have e : bd v = false := by unfold bd; simp; omega
      rw [e]
      go_enter Try.func63, Try.ntmps63
      go_wp2
      go_ret
      exact ⟨rfl, rfl⟩
  · have e : bd v = false := by unfold bd; simp; omega
    rw [e]
    go_enter Try.func63, Try.ntmps63
    go_wp2
    go_ret
    exact ⟨rfl, rfl⟩

theorem rwrong_any (w : World) (v : Value) (l : List Cn) (hs : Sl3 w v l) :
    Calls Try.prog 39 #[v] w fun e w' => e = .returned (.int .i64 (wrongL l)) ∧ Below w.heap.size w w' := by
  obtain ⟨a0, cap, rfl, hl, hcell⟩ := hs
  have Hc := Lib.hid hcell
  clear hcell
  go_enter Try.func39, Try.ntmps39
  go_wp2
  go_loopw [3] (fun t wr => ∃ k : Nat, k ≤ l.length ∧ t = .int .i64 k ∧ Hid (wrongL l = wrongL (l.drop k)) ∧ Below w.heap.size w wr) (fun t _ => l.length - (intOf t).toNat)
  case atStart => exact ⟨0, by omega, rfl, rfl, Below.refl _ _⟩
  case round =>
    obtain ⟨k, hk, rfl, hw, hbel⟩ := hrel
    by_cases hlt : k < l.length
    · obtain ⟨b, off, xi, xj, xc, hx, rfl, hbl, h0, h1, h2⟩ := Sl3.at Hc.out hbel hlt
      have Hd := Lib.hid (wrongL_drop hx)
      clear hx
      have hlt' : (k : Int) < (l.length : Int) := by omega
      cases hvi : vr xi with
      | false =>
        go_wp2_with (go_at_call 62; refine (rin_any _ _).mono ?_; rintro e w1 ⟨rfl, rfl⟩)
        go_ret
        refine ⟨ret_int ?_, hbel⟩
        rw [hw.out, Hd.out, hvi]; rfl
      | true =>
        cases hvj : vr xj with
        | false =>
          go_wp2_with (go_at_call 62; refine (rin_any _ _).mono ?_; rintro e w1 ⟨rfl, rfl⟩)
          go_ret
          refine ⟨ret_int ?_, hbel⟩
          rw [hw.out, Hd.out, hvi, hvj]; rfl
        | true =>
          cases hbc : bd xc with
          | false =>
            go_wp2_with (first | (go_at_call 62; refine (rin_any _ _).mono ?_; rintro e w1 ⟨rfl, rfl⟩) | (go_at_call 63; refine (fits_any _ _).mono ?_; rintro e w1 ⟨rfl, rfl⟩))
            go_ret
            refine ⟨ret_int ?_, hbel⟩
            rw [hw.out, Hd.out, hvi, hvj, hbc]; rfl
          | true =>
            go_wp2_with (first | (go_at_call 62; refine (rin_any _ _).mono ?_; rintro e w1 ⟨rfl, rfl⟩) | (go_at_call 63; refine (fits_any _ _).mono ?_; rintro e w1 ⟨rfl, rfl⟩))
            go_roundw
            case rel =>
              refine ⟨k + 1, by omega, by go_num, ?_, hbel⟩
              show _ = _
              rw [hw.out, Hd.out, hvi, hvj, hbc]; rfl
            case measure => simp [intOf]; omega
    · obtain rfl : k = l.length := by omega
      go_wp2
      go_ret
      refine ⟨ret_int ?_, hbel⟩
      rw [hw.out, List.drop_length]; rfl


/-- .. and the world stands. -/
theorem rwrong_eq (w : World) (v : Value) (l : List Cn) (hs : Sl3 w v l) :
    Calls Try.prog 39 #[v] w fun e w' => e = .returned (.int .i64 (wrongL l)) ∧ w' = w := by
  obtain ⟨a0, cap, rfl, hl, hcell⟩ := hs
  have Hc := Lib.hid hcell
  clear hcell
  go_enter Try.func39, Try.ntmps39
  go_wp2
  go_loop [3] (fun t => ∃ k : Nat, k ≤ l.length ∧ t = .int .i64 k ∧ Hid (wrongL l = wrongL (l.drop k))) (fun t => l.length - (intOf t).toNat)
  case atStart => exact ⟨0, by omega, rfl, rfl⟩
  case round =>
    obtain ⟨k, hk, rfl, hwl⟩ := hrel
    by_cases hlt : k < l.length
    · obtain ⟨b, off, xi, xj, xc, hx, rfl, hbl, h0, h1, h2⟩ := Sl3.at Hc.out (bRefl w) hlt
      have Hd := Lib.hid (wrongL_drop hx)
      clear hx
      have hlt' : (k : Int) < (l.length : Int) := by omega
      cases hvi : vr xi with
      | false =>
        go_wp2_with (go_at_call 62; refine (rin_any _ _).mono ?_; rintro e w1 ⟨rfl, rfl⟩)
        go_ret
        refine ⟨ret_int ?_, rfl⟩
        rw [hwl.out, Hd.out, hvi]; rfl
      | true =>
        cases hvj : vr xj with
        | false =>
          go_wp2_with (go_at_call 62; refine (rin_any _ _).mono ?_; rintro e w1 ⟨rfl, rfl⟩)
          go_ret
          refine ⟨ret_int ?_, rfl⟩
          rw [hwl.out, Hd.out, hvi, hvj]; rfl
        | true =>
          cases hbc : bd xc with
          | false =>
            go_wp2_with (first | (go_at_call 62; refine (rin_any _ _).mono ?_; rintro e w1 ⟨rfl, rfl⟩) | (go_at_call 63; refine (fits_any _ _).mono ?_; rintro e w1 ⟨rfl, rfl⟩))
            go_ret
            refine ⟨ret_int ?_, rfl⟩
            rw [hwl.out, Hd.out, hvi, hvj, hbc]; rfl
          | true =>
            go_wp2_with (first | (go_at_call 62; refine (rin_any _ _).mono ?_; rintro e w1 ⟨rfl, rfl⟩) | (go_at_call 63; refine (fits_any _ _).mono ?_; rintro e w1 ⟨rfl, rfl⟩))
            go_round
            case rel =>
              refine ⟨k + 1, by omega, by go_num, ?_⟩
              show _ = _
              rw [hwl.out, Hd.out, hvi, hvj, hbc]; rfl
            case measure => simp [intOf]; omega
    · obtain rfl : k = l.length := by omega
      go_wp2
      go_ret
      refine ⟨ret_int ?_, rfl⟩
      rw [hwl.out, List.drop_length]; rfl

end Go.Proofs.YtfpbjjdlchplnaaR
