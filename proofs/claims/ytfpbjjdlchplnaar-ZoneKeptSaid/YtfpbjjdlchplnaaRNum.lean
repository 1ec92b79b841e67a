/- The law's place, the document's Beyond: what each call returns. -/
import Derived.Test.YtfpbjjdlchplnaaRArgs
namespace Go.Proofs.YtfpbjjdlchplnaaR
open Go Go.RowKit Go.Wr
set_option maxHeartbeats 1000000

theorem tmod_bounds (v n : Int) (h : 0 < n) : -n < v.tmod n ∧ v.tmod n < n := by
  have h1 := Int.tmod_lt_of_pos v h
  have h2 := Int.lt_tmod_of_pos v h
  exact ⟨h2, h1⟩
theorem emod_of_tmod (v n : Int) (h : 0 < n) : v % n = if v.tmod n < 0 then v.tmod n + n else v.tmod n := by
  have e := Int.mul_tdiv_add_tmod v n
  obtain ⟨b1, b2⟩ := tmod_bounds v n h
  have e2 : v % n = v.tmod n % n := by
    conv => lhs; rw [← e]
    rw [Int.add_comm, Int.add_mul_emod_self_left]
  rw [e2]
  split
  · rw [← Int.add_emod_right, Int.emod_eq_of_lt (by omega) (by omega)]
  · exact Int.emod_eq_of_lt (by omega) (by omega)

theorem place_any (v n : Int) (w : World) (hv : I64 v) (h0 : 0 < n) (h1 : n ≤ 1000000000) :
    Calls Try.prog 23 #[.int .i64 v, .int .i64 n] w fun e w' => e = .returned (.int .i64 (v % n)) ∧ w = w' := by
  obtain ⟨a, b⟩ := hv
  have hn : (n == 0) = false := by rw [beq_eq_false_iff_ne]; omega
  have he := Lib.hid (emod_of_tmod v n h0)
  obtain ⟨t1, t2⟩ := tmod_bounds v n h0
  have t3 : -1000000000 ≤ v.tmod n := by omega
  have t4 : v.tmod n ≤ 1000000000 := by omega
  by_cases hneg : v.tmod n < 0
  · go_enter Try.func23, Try.ntmps23
    go_wp2
    go_ret
    exact ⟨ret_int (by rw [he.out, if_pos hneg]), rfl⟩
  · go_enter Try.func23, Try.ntmps23
    go_wp2
    go_ret
    exact ⟨ret_int (by rw [he.out, if_neg (by omega)]), rfl⟩

theorem bits_and3 (a : Int) : bits BinOp.and IntKind.i64 a 3 = a % 4 := by
  have h3 : (BitVec.ofInt 64 3).toNat = 3 := by decide
  have ha : (BitVec.ofInt 64 a).toNat = (a % 18446744073709551616).toNat := by rw [BitVec.toNat_ofInt]; rfl
  have h4 : (a % 18446744073709551616).toNat &&& 3 = (a % 18446744073709551616).toNat % 4 := by
    have := Nat.and_two_pow_sub_one_eq_mod (a % 18446744073709551616).toNat 2
    simpa using this
  show IntKind.i64.wrap ((BitVec.ofInt 64 a &&& BitVec.ofInt 64 3).toNat : Int) = a % 4
  rw [BitVec.toNat_and, ha, h3, h4, IntKind.wrap_i64]
  omega

theorem beyond_any (a b c : Int) (w : World) (ha : I64 a) (hb : I64 b) (hc1 : -2305843009213693952 ≤ c) (hc2 : c ≤ 2305843009213693952) :
    Calls Try.prog 42 #[.int .i64 a, .int .i64 b, .int .i64 c] w fun e w' => e = .returned (.bool (decide (c < a - b))) ∧ w = w' := by
  obtain ⟨a1, a2⟩ := ha
  obtain ⟨b1, b2⟩ := hb
  have ea := bits_and3 a
  have eb := bits_and3 b
  have ec := bits_and3 c
  by_cases h1 : 2 < a / 4 - b / 4 - c / 4
  · have e : decide (c < a - b) = true := by simp; omega
    rw [e]
    go_enter Try.func42, Try.ntmps42
    go_wp2
    go_ret
    exact ⟨rfl, rfl⟩
  · by_cases h2 : -3 < a / 4 - b / 4 - c / 4
    · by_cases h3 : 0 < 4 * (a / 4 - b / 4 - c / 4) + (a % 4 - b % 4 - c % 4)
      · have e : decide (c < a - b) = true := by simp; omega
        rw [e]
        go_enter Try.func42, Try.ntmps42
        go_wp2
        go_ret
        exact ⟨rfl, rfl⟩
      · have e : decide (c < a - b) = false := by simp; omega
        rw [e]
        go_enter Try.func42, Try.ntmps42
        go_wp2
        go_ret
        exact ⟨rfl, rfl⟩
    · have e : decide (c < a - b) = false := by simp; omega
      rw [e]
      go_enter Try.func42, Try.ntmps42
      go_wp2
      go_ret
      exact ⟨rfl, rfl⟩

end Go.Proofs.YtfpbjjdlchplnaaR
