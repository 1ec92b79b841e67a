/- Leaf functions of zone: isVar, isBound, sum, top, New, void, Empty, settled: what each call returns. -/
import Derived.Test.YtlcmfpfmjkpfoaaProg
import Derived.Test.YtlcmfpfmjkpfoaaLaws
import Derived.WalkLawsBesides
import Derived.WalkSpells
import Derived.Deep.WholeRow
import Derived.KernelRfl
namespace Go.Proofs.Ytlcmfpfmjkpfoaa
open Go Go.RowKit Go.Wr
set_option maxHeartbeats 400000

def Most : Int := 1152921504606846976
def None : Int := 2305843009213693952
def vr (v : Int) : Bool := decide (0 ≤ v ∧ v < 60)
def bd (v : Int) : Bool := decide (-1152921504606846976 ≤ v ∧ v ≤ 1152921504606846976)

theorem isVar_any (v : Int) (w : World) :
    Calls Try.prog 23 #[.int .i64 v] w fun e w' => e = .returned (.bool (vr v)) ∧ w = w' := by
  by_cases h0 : 0 ≤ v
  · by_cases h1 : v < 60
    · have e : vr v = true := by unfold vr; simp; omega
      rw [e]
      go_enter Try.func23, Try.ntmps23
      go_wp2
      go_ret
      exact ⟨rfl, rfl⟩
    · have e : vr v = false := by unfold vr; simp; omega
      rw [e]
      go_enter Try.func23, Try.ntmps23
      go_wp2
      go_ret
      exact ⟨rfl, rfl⟩
  · have e : vr v = false := by unfold vr; simp; omega
    rw [e]
    go_enter Try.func23, Try.ntmps23
    go_wp2
    go_ret
    exact ⟨rfl, rfl⟩

theorem isBound_any (v : Int) (w : World) :
    Calls Try.prog 33 #[.int .i64 v] w fun e w' => e = .returned (.bool (bd v)) ∧ w = w' := by
  by_cases h0 : -1152921504606846976 ≤ v
  · by_cases h1 : v ≤ 1152921504606846976
    · have e : bd v = true := by unfold bd; simp; omega
      rw [e]
      go_enter Try.func33, Try.ntmps33
      go_wp2
      go_ret
      exact ⟨rfl, rfl⟩
    · have e : bd v = false := by unfold bd; simp; omega
      rw [e]
      go_enter Try.func33, Try.ntmps33
      go_wp2
      go_ret
      exact ⟨rfl, rfl⟩
  · have e : bd v = false := by unfold bd; simp; omega
    rw [e]
    go_enter Try.func33, Try.ntmps33
    go_wp2
    go_ret
    exact ⟨rfl, rfl⟩

/-- A sum of bounds. -/
def sm (a b : Int) : Int :=
  if a = 2305843009213693952 ∨ b = 2305843009213693952 ∨ 1152921504606846976 < a + b then 2305843009213693952
  else if a + b < -1152921504606846976 then -1152921504606846976 else a + b

theorem ret_int {k : IntKind} {a b : Int} (h : a = b) : Ending.returned (.int k a) = .returned (.int k b) := by rw [h]

theorem sum_any (a b : Int) (w : World) (ha : -1152921504606846976 ≤ a) (ha' : a ≤ 2305843009213693952) (hb : -1152921504606846976 ≤ b) (hb' : b ≤ 2305843009213693952) :
    Calls Try.prog 34 #[.int .i64 a, .int .i64 b] w fun e w' => e = .returned (.int .i64 (sm a b)) ∧ w = w' := by
  by_cases h1 : a = 2305843009213693952
  · have e : sm a b = 2305843009213693952 := by unfold sm; rw [if_pos (Or.inl h1)]
    rw [e]
    subst h1
    go_enter Try.func34, Try.ntmps34
    go_wp2
    go_ret
    exact ⟨rfl, rfl⟩
  by_cases h2 : b = 2305843009213693952
  · have e : sm a b = 2305843009213693952 := by unfold sm; rw [if_pos (Or.inr (Or.inl h2))]
    rw [e]
    subst h2
    go_enter Try.func34, Try.ntmps34
    go_wp2
    go_ret
    exact ⟨rfl, rfl⟩
  have b1 : (a == 2305843009213693952) = false := beq_eq_false_iff_ne.2 h1
  have b2 : (b == 2305843009213693952) = false := beq_eq_false_iff_ne.2 h2
  by_cases h3 : 1152921504606846976 < a + b
  · have e : sm a b = 2305843009213693952 := by unfold sm; rw [if_pos (Or.inr (Or.inr h3))]
    rw [e]
    go_enter Try.func34, Try.ntmps34
    go_wp2
    go_ret
    exact ⟨rfl, rfl⟩
  by_cases h4 : a + b < -1152921504606846976
  · have e : sm a b = -1152921504606846976 := by unfold sm; rw [if_neg (by omega), if_pos h4]
    rw [e]
    go_enter Try.func34, Try.ntmps34
    go_wp2
    go_ret
    exact ⟨rfl, rfl⟩
  · have e : sm a b = a + b := by unfold sm; rw [if_neg (by omega), if_neg h4]
    rw [e]
    go_enter Try.func34, Try.ntmps34
    go_wp2
    go_ret
    exact ⟨rfl, rfl⟩

/-- The table without a bound. -/
def topT (i j : Nat) : Int := if i = j then 0 else 2305843009213693952

theorem zero82 : ∀ w, (zeroValue 78).run Try.prog w = .ok (.agg (tcells (fun _ _ => 0))) w := fun _ => by kernel_rfl
theorem zero85 : ∀ w, (zeroValue 80).run Try.prog w = .ok (.agg (zcells false (fun _ _ => 0))) w := fun _ => by kernel_rfl

theorem rowT : RowTy Try.prog 78 3600 := ⟨_, Try.underlying78, rfl, by kernel_rfl⟩
theorem rowR : RowTy Try.prog 76 60 := ⟨_, Try.underlying76, rfl, by kernel_rfl⟩
theorem rowZ : RowTy Try.prog 80 3601 := ⟨_, Try.underlying80, rfl, by kernel_rfl⟩

theorem builtZ (parts : List (Nat × Value)) : Try.prog.built 80 parts = Instr.fill (#[(0, 1), (1, 3600)][·]?) (zcells false (fun _ _ => 0)) parts := by kernel_rfl

theorem spl_z (e : Bool) (m m' : Nat → Nat → Int) : spl (zcells e m) 1 (tcells m') = zcells e m' := by
  unfold spl zcells
  simp only [List.take_succ_cons, List.take_zero]
  rw [List.drop_of_length_le (by simp [tcells_size])]
  simp

theorem spl_e (e e' : Bool) (m : Nat → Nat → Int) : spl (zcells e m) 0 #[Value.bool e'] = zcells e' m := by
  unfold spl zcells
  simp

theorem builtZ1 (m : Nat → Nat → Int) : Try.prog.built 80 [(1, .agg (tcells m))] = some (zcells false m) := by
  have hz := zcells_size false (fun _ _ => 0)
  rw [builtZ, fill_agg _ _ 1 (tcells m) [] 1 3600 (by rfl) (tcells_size m) (by omega), spl_z]
  rfl

theorem builtZ2 (e : Bool) (m : Nat → Nat → Int) : Try.prog.built 80 [(0, .bool e), (1, .agg (tcells m))] = some (zcells e m) := by
  have hz := zcells_size false (fun _ _ => 0)
  have hz' := zcells_size e (fun _ _ => 0)
  rw [builtZ, fill_bool _ _ 0 e _ 0 (by rfl) (by omega), spl_e, fill_agg _ _ 1 (tcells m) [] 1 3600 (by rfl) (tcells_size m) (by omega), spl_z]
  rfl

end Go.Proofs.Ytlcmfpfmjkpfoaa
