/- What the law needs, one part after another: walks of functions and plain laws. No conditions but those that each law names. -/
import Derived.Test.YtndnfjcfpcfakaaTpak
import Derived.Laws.FloatArith
namespace Go.Ht
open Ieee
set_option maxRecDepth 100000
theorem inf_eq : inf = 2047 * 2 ^ 52 := by decide
end Go.Ht
namespace Go.Ht
open Ieee
set_option maxRecDepth 100000
theorem gt_nn {x y : Nat} (hx : x ≤ inf) (hy : y ≤ inf) : (double.order x y == some .gt) = decide (y < x) := by
 rw [order_nn hx hy]
 rcases Nat.lt_trichotomy x y with h | h | h
 ·rw [Nat.compare_eq_lt.2 h, decide_eq_false (by omega)]; rfl
 ·rw [Nat.compare_eq_eq.2 h, decide_eq_false (by omega)]; rfl
 ·rw [Nat.compare_eq_gt.2 h, decide_eq_true h]; rfl
theorem lt_nn {x y : Nat} (hx : x ≤ inf) (hy : y ≤ inf) : (double.order x y == some .lt) = decide (x < y) := by
 rw [order_nn hx hy]
 rcases Nat.lt_trichotomy x y with h | h | h
 ·rw [Nat.compare_eq_lt.2 h, decide_eq_true h]; rfl
 ·rw [Nat.compare_eq_eq.2 h, decide_eq_false (by omega)]; rfl
 ·rw [Nat.compare_eq_gt.2 h, decide_eq_false (by omega)]; rfl
end Go.Ht
namespace Go.Ht
open Ieee
set_option maxRecDepth 100000
theorem shr_le {s c : Int} : shr s c ≤ inf := by
 unfold shr
 split
 ·exact fmul_le _ _
 ·decide
end Go.Ht
namespace Go.Proofs.Ytndnfjcfpcfakaa
open Go Go.RowKit Go.Wr Go.Fl
open Go.ChangeShapes Go.WideShapes Go.ChangeAt Go.Deep
section
variable {H : Type} {enc : TypeId × Value → H} {w : World} {base : Nat} {held : Bool}
theorem open_intsz {a0 : Option Addr} {len cap : Nat} {fuel : Nat} {x : DataW H × List MemPlace} (h : DataW.trod enc Try.prog w base (fun _ => true) held fuel 22 [.slice a0 len cap] = some x) (hz : Rows.uptoBulk x.1 ≤ 1048576) :
  ∃ l : List Int, SlX tI w.heap.size w (.slice a0 len cap) l ∧ l.length ≤ 1048576 ∧ ∀ y ∈ l, (Lit.int .i64 y).wf = true :=
 open_numx tI rfl (fun _ => rfl) Try.underlying22 Try.underlying3 (by kernel_rfl) h hz
end
end Go.Proofs.Ytndnfjcfpcfakaa
namespace Go.Proofs.Ytndnfjcfpcfakaa
open Go Go.RowKit Go.Wr Go.Fl Go.Ht
set_option maxHeartbeats 40000000
set_option maxRecDepth 100000
theorem shr_in {s : Int} {l : List Int} : ∀ x ∈ l.map (shr s), x ≤ inf := fun x hx => by
 obtain ⟨c, _, rfl⟩ := List.mem_map.1 hx
 exact shr_le
def shF (l : List Int) : List Nat × Int := match shS 0 l with
 | none => ([], 1)
 | some s => (l.map (shr s), 0)
theorem ShP.one {l : List Int} {w w' : World} {e : Ending} (h : ShP l w e w') : Below w.heap.size w w' ∧ ∃ va : Sv, e = .returned (.tuple #[.slice va.a va.n va.c, .int .i64 (shF l).2]) ∧ OwR tF w.heap.size w' va.v (shF l).1 := by
 obtain ⟨b, h⟩ := h
 refine ⟨b, ?_⟩
 unfold shF
 rcases h with ⟨n1, rfl⟩ | ⟨s, v, s1, rfl, o1⟩
 ·rw [n1]
  exact ⟨⟨none, 0, 0⟩, rfl, OwR.nil _ _⟩
 ·rw [s1]
  obtain ⟨a, c, rfl, -, -⟩ := (OwR.slz o1).form
  exact ⟨⟨a, _, c⟩, rfl, o1⟩
def Ct (B g cp : Nat) (w : World) (L : List Int) : Prop := OwR tI B w (.slice (some ⟨g, 0, none⟩) (L.length + 2) cp) (L ++ [-77, -78])
theorem Ct.inn {B g cp : Nat} {w : World} {L : List Int} (h : Ct B g cp w L) : OwR tI B w (.slice (some ⟨g, 0, none⟩) L.length cp) L := by
 have := OwR.take h (k := L.length) (by simp)
 rw [List.take_left] at this
 exact this
theorem Ct.below {B g cp : Nat} {w w' : World} {L : List Int} (h : Ct B g cp w L) (b : Below w.heap.size w w') : Ct B g cp w' L := OwR.below h b
theorem Ct.set {B g cp i : Nat} {w : World} {L : List Int} {x y : Int} (h : Ct B g cp w L) (hx : L[i]? = some x) : Ct B g cp (w.setCell ⟨g, i, none⟩ (.int .i64 y)) (L.set i y) := by
 have hi := (List.getElem?_eq_some_iff.1 hx).1
 have hset := OwR.set (k := i) (j := 0) (x := x) (y := y) (v := .int .i64 y) h (by rw [List.getElem?_append_left hi]; exact hx) (by decide) rfl
 have e2 : i * tI.n + 0 = i := by show i * 1 + 0 = i; omega
 rw [e2, List.set_append_left _ _ hi] at hset
 unfold Ct
 rw [List.length_set]
 exact hset
end Go.Proofs.Ytndnfjcfpcfakaa
namespace Go.Ht
open Ieee
set_option maxRecDepth 100000
theorem vl_word {L r : Nat} (h : L = 0 ∨ 2 ^ 52 ≤ r) (hr : r ≤ 2 ^ 53) : vl (L * 2 ^ 52 + r) = r * 2 ^ L := by
 obtain ⟨M, hM⟩ : ∃ M, M = 2 ^ 52 := ⟨_, rfl⟩
 have h53 : 2 ^ 53 = 2 * M := by rw [hM]
 have hpos : 0 < M := by rw [hM]; decide
 rw [h53] at hr
 by_cases h1 : r < M
 ·obtain rfl : L = 0 := by
   rcases h with h | h
   ·exact h
   ·rw [← hM] at h; omega
  unfold vl
  rw [← hM, Nat.zero_mul, Nat.zero_add, if_pos h1, Nat.pow_zero, Nat.mul_one]
 ·have hw : ¬ L * M + r < M := by
   have := Nat.zero_le (L * M)
   omega
  unfold vl
  rw [← hM, if_neg hw]
  by_cases h2 : r < 2 * M
  ·have e1 : (L * M + r) / M = L + 1 := by
    rw [show L * M + r = (r - M) + (L + 1) * M by rw [Nat.add_mul]; omega, Nat.add_mul_div_right _ _ hpos, Nat.div_eq_of_lt (by omega)]
    omega
   have e2 : (L * M + r) % M = r - M := by
    rw [show L * M + r = (r - M) + (L + 1) * M by rw [Nat.add_mul]; omega, Nat.add_mul_mod_self_right, Nat.mod_eq_of_lt (by omega)]
   rw [e1, e2, show M + (r - M) = r by omega, Nat.add_sub_cancel]
  ·have e : r = 2 * M := by omega
   have e1 : (L * M + r) / M = L + 2 := by
    rw [e, show L * M + 2 * M = (L + 2) * M by rw [Nat.add_mul], Nat.mul_div_cancel _ hpos]
   have e2 : (L * M + r) % M = 0 := by
    rw [e, show L * M + 2 * M = (L + 2) * M by rw [Nat.add_mul], Nat.mul_mod_left]
   rw [e1, e2, Nat.add_zero, e, show L + 2 - 1 = L + 1 by omega, Nat.pow_succ, Nat.mul_comm 2 M, Nat.mul_assoc M 2, Nat.mul_comm 2 (2 ^ L)]
theorem re_lo (V d : Nat) : re V d * 2 ^ d ≤ V + 2 ^ d := by
 have h1 := re_le V d
 have h2 : V / 2 ^ d * 2 ^ d ≤ V := Nat.div_mul_le_self _ _
 have h3 := Nat.mul_le_mul_right (2 ^ d) h1
 rw [Nat.add_mul, Nat.one_mul] at h3
 omega
theorem re_hi (V d : Nat) : V ≤ re V d * 2 ^ d + 2 ^ d := by
 have h1 := le_re V d
 have h3 := Nat.mul_le_mul_right (2 ^ d) h1
 have h4 := Nat.div_add_mod V (2 ^ d)
 have h5 := Nat.mod_lt V (Nat.two_pow_pos d)
 rw [Nat.mul_comm] at h4
 omega
theorem rd_near {P k : Nat} (h : rd P k < inf) : ∃ E, vl (rd P k) * 2 ^ k ≤ P + E ∧ P ≤ vl (rd P k) * 2 ^ k + E ∧ E * 2 ^ 52 ≤ 2 ^ k * 2 ^ 52 + P := by
 obtain ⟨L, hL⟩ : ∃ L, L = P.log2 - (k + 52) := ⟨_, rfl⟩
 have hrd : rd P k = L * 2 ^ 52 + re P (k + L) := by
  unfold rd at h ⊢
  rw [← hL] at h ⊢
  omega
 have hr : re P (k + L) ≤ 2 ^ 53 := by
  refine Nat.le_trans (re_le _ _) ?_
  refine Nat.succ_le_of_lt ((Nat.div_lt_iff_lt_mul (Nat.two_pow_pos _)).2 ?_)
  refine Nat.lt_of_lt_of_le (Nat.lt_log2_self (n := P)) ?_
  rw [← Nat.pow_add]
  exact Nat.pow_le_pow_right (by omega) (by omega)
 have hlo : L = 0 ∨ 2 ^ 52 ≤ re P (k + L) := by
  by_cases h0 : L = 0
  ·exact Or.inl h0
  ·refine Or.inr (Nat.le_trans ?_ (le_re _ _))
   have hP : P ≠ 0 := by
    intro e
    subst e
    simp at hL
    omega
   refine (Nat.le_div_iff_mul_le (Nat.two_pow_pos _)).2 ?_
   rw [← Nat.pow_add]
   refine Nat.le_trans (Nat.pow_le_pow_right (by omega) ?_) (Nat.log2_self_le hP)
   omega
 have hv : vl (rd P k) * 2 ^ k = re P (k + L) * 2 ^ (k + L) := by
  rw [hrd, vl_word hlo hr, Nat.mul_assoc, ← Nat.pow_add, Nat.add_comm L k]
 refine ⟨2 ^ (k + L), ?_, ?_, ?_⟩
 ·rw [hv]; exact re_lo _ _
 ·rw [hv]; exact re_hi _ _
 ·by_cases h0 : L = 0
  ·rw [h0, Nat.add_zero]; omega
  ·have hP : P ≠ 0 := by
    intro e
    subst e
    simp at hL
    omega
   have : 2 ^ (k + L) * 2 ^ 52 ≤ P := by
    rw [← Nat.pow_add]
    refine Nat.le_trans (Nat.pow_le_pow_right (by omega) ?_) (Nat.log2_self_le hP)
    omega
   omega
theorem vl_zero : vl 0 = 0 := rfl
theorem fmul_ne {x y : Nat} (h : x ≠ inf) : fmul x y = rd (vl x * vl y) 1074 := by unfold fmul; rw [if_neg h]
theorem fmul_inf (y : Nat) : fmul inf y = inf := by unfold fmul; rw [if_pos rfl]
theorem fmul_mono {x y z : Nat} (h : y ≤ z) (hz : z ≤ inf) : fmul x y ≤ fmul x z := by
 by_cases hx : x = inf
 ·subst hx; rw [fmul_inf, fmul_inf]; exact Nat.le_refl _
 ·rw [fmul_ne hx, fmul_ne hx]
  exact rd_mono _ (Nat.mul_le_mul_left _ (vl_le h hz))
theorem fmul_one' {x : Nat} (hx : x ≤ inf) : fmul x one = x := by
 by_cases h : x = inf
 ·subst h; exact fmul_inf _
 ·rw [fmul_ne h, vl_one]
  exact rd_vl hx e74
theorem le_fmul {x t : Nat} (hx : x ≤ inf) (h : one ≤ t) (ht : t ≤ inf) : x ≤ fmul x t := by
 have := fmul_mono (x := x) h ht
 rwa [fmul_one' hx] at this
end Go.Ht
namespace Go.Ht
open Ieee
set_option maxRecDepth 100000
theorem mg_hi {x : Nat} (h : 2 ^ 52 ≤ x) : mg x = 2 ^ 52 + x % 2 ^ 52 := by unfold mg; rw [if_neg (by omega)]
theorem mg_in {x : Nat} (h : 2 ^ 52 ≤ x) : 2 ^ 52 ≤ mg x ∧ mg x < 2 ^ 53 := by
 have := Nat.mod_lt x (show 0 < 2 ^ 52 by decide)
 rw [mg_hi h]
 omega
theorem mg_up {x : Nat} (h : 2 ^ 52 ≤ x) : mg (x + 2 ^ 52) = mg x := by rw [mg_hi h, mg_hi (by omega)]; omega
theorem pl_up {x : Nat} (h : 2 ^ 52 ≤ x) : pl (x + 2 ^ 52) = pl x + 1 := by unfold pl; omega
theorem vl_up {x : Nat} (h : 2 ^ 52 ≤ x) : vl (x + 2 ^ 52) = 2 * vl x := by
 rw [vl_mg, vl_mg, mg_up h, pl_up h, Nat.pow_succ, Nat.mul_comm 2, Nat.mul_assoc]
theorem i2f_ex4 {k : Nat} (h0 : 0 < k) (h : k ≤ 2 ^ 52) : (2 ^ 52 ≤ i2f k ∧ i2f k + 2 ^ 53 < inf ∧ vl (i2f k) = k * 2 ^ e74) ∧ i2f k ≤ 1076 * 2 ^ 52 := by
 have hk : k ≠ 0 := by omega
 have hL : k.log2 ≤ 52 := by
  have := log2_mono h
  rw [Nat.log2_two_pow] at this
  exact this
 have h1 := Nat.log2_self_le hk
 have h2 := Nat.lt_log2_self (n := k)
 obtain ⟨L, hLe⟩ : ∃ L, L = k.log2 := ⟨_, rfl⟩
 rw [← hLe] at hL h1 h2
 obtain ⟨r, hr⟩ : ∃ r, r = k * 2 ^ (52 - L) := ⟨_, rfl⟩
 have r1 : 2 ^ 52 ≤ r := by
  rw [hr, ← pow_e (show L + (52 - L) = 52 by omega)]
  exact Nat.mul_le_mul_right _ h1
 have r2 : r ≤ 2 ^ 53 := by
  rw [hr, ← pow_e (show (L + 1) + (52 - L) = 53 by omega)]
  exact Nat.mul_le_mul_right _ (Nat.le_of_lt h2)
 have hv : vl ((1022 + L) * 2 ^ 52 + r) = k * 2 ^ e74 := by
  rw [vl_word (Or.inr r1) r2, hr, Nat.mul_assoc, pow_e (show 52 - L + (1022 + L) = e74 by rw [e74_eq]; omega)]
 have hi : (1022 + L) * 2 ^ 52 + r + 2 ^ 53 < inf := by rw [inf_eq]; omega
 have e : i2f (k : Int) = (1022 + L) * 2 ^ 52 + r := by rw [i2f_nat, ← hv, rd_vl0 (by omega)]
 rw [e]
 exact ⟨⟨by omega, hi, hv⟩, by omega⟩
theorem i2f_ex {k : Nat} (h0 : 0 < k) (h : k ≤ 2 ^ 52) : 2 ^ 52 ≤ i2f k ∧ i2f k + 2 ^ 53 < inf ∧ vl (i2f k) = k * 2 ^ e74 := (i2f_ex4 h0 h).1
theorem i2f_zero : i2f 0 = 0 := by
 have := i2f_nat 0
 rw [Nat.zero_mul, rd_zero] at this
 exact this
theorem i2f_two {k : Nat} (h0 : 0 < k) (h : k ≤ 2 ^ 52) : i2f (2 * (k : Int)) = i2f k + 2 ^ 52 := by
 obtain ⟨a, b, c⟩ := i2f_ex h0 h
 have e : (2 * (k : Int)) = ((2 * k : Nat) : Int) := by omega
 rw [e, i2f_nat, Nat.mul_assoc, ← c, ← vl_up a, rd_vl0 (by omega)]
theorem i2f_mono {k k' : Nat} (h : k ≤ k') : i2f k ≤ i2f k' := by
 rw [i2f_nat, i2f_nat]
 exact rd_mono 0 (Nat.mul_le_mul_right _ h)
def gq (m n : Nat) : Nat := 2 * (m <<< 54 / n) + (m <<< 54 % n != 0).toNat
theorem log52 {m : Nat} (h1 : 2 ^ 52 ≤ m) (h2 : m < 2 ^ 53) : m.log2 = 52 := by
 have hne : m ≠ 0 := by omega
 apply Nat.le_antisymm
 ·exact Nat.lt_succ_iff.1 ((Nat.log2_lt hne).2 (by omega))
 ·exact (Nat.le_log2 hne).2 (by omega)
theorem fdiv_eq {x y : Nat} (hx : x < inf) (hy : y < inf) (h1 : 2 ^ 52 ≤ x) (h2 : 2 ^ 52 ≤ y) : fdiv x y = rd (gq (mg x) (mg y) * 2 ^ (pl x + 1019)) (pl y) := by
 obtain ⟨a1, a2⟩ := mg_in h1
 obtain ⟨b1, b2⟩ := mg_in h2
 unfold fdiv Format.div
 rw [read_fin hx, read_fin hy, show double.fractionBits = 52 from rfl, quot_fin (52 + 2) (mg x) (mg y) 54 _ _ (by omega) (by rw [log52 a1 a2, log52 b1 b2]), Option.map_some, Option.getD_some, write_pos]
 exact near_pos _ _ (pl y) (pl x + 1019) (by omega)
theorem fdiv_zero {y : Nat} (hy : y < inf) (h2 : 2 ^ 52 ≤ y) : fdiv 0 y = 0 := by
 obtain ⟨b1, b2⟩ := mg_in h2
 have hl : Nat.log2 0 = 0 := by decide
 have hp : pl 0 = 0 := by decide
 have hz : (2 * 0 + ((0 : Nat) != 0).toNat) = 0 := by decide
 obtain ⟨L, hL⟩ : ∃ L, L = double.fractionBits + 2 + (mg y).log2 - Nat.log2 0 := ⟨_, rfl⟩
 have key : double.nearest false 0 ((-1074 + (pl 0 : Int)) - (-1074 + (pl y : Int)) - (L : Int) - 1) = 0 := by
  obtain ⟨t, ht⟩ : ∃ t : Nat, t = 1073 := ⟨_, rfl⟩
  rw [near_pos 0 _ (pl y + L) t (by rw [hp]; omega), Nat.zero_mul, rd_zero]
 unfold fdiv Format.div
 rw [read_fin (show (0 : Nat) < inf by decide), read_fin hy, show mg 0 = 0 from rfl, quot_fin _ 0 (mg y) L _ _ (by omega) hL.symm, Option.map_some, Option.getD_some, write_pos, Nat.zero_shiftLeft, Nat.zero_div, Nat.zero_mod, hz]
 exact key
theorem fdiv_up {x y : Nat} (hx : x + 2 ^ 53 < inf) (hy : y + 2 ^ 53 < inf) (h1 : 2 ^ 52 ≤ x) (h2 : 2 ^ 52 ≤ y) : fdiv (x + 2 ^ 52) (y + 2 ^ 52) = fdiv x y := by
 rw [fdiv_eq (by omega) (by omega) (by omega) (by omega), fdiv_eq (by omega) (by omega) h1 h2, mg_up h1, mg_up h2, pl_up h1, pl_up h2, show pl x + 1 + 1019 = (pl x + 1019) + 1 by omega, Nat.pow_add _ _ 1, ← Nat.mul_assoc, rd_scale]
theorem shr_two {s c : Int} (hs : 0 ≤ s) (hs2 : s ≤ 4503599627370496) (hc : 0 ≤ c) (hc2 : c ≤ 4503599627370496) : shr (2 * s) (2 * c) = shr s c := by
 unfold shr
 by_cases h : 0 < s
 ·rw [if_pos h, if_pos (by omega)]
  obtain ⟨k, rfl⟩ := Int.eq_ofNat_of_zero_le hs
  obtain ⟨m, rfl⟩ := Int.eq_ofNat_of_zero_le hc
  have k1 : 0 < k := by omega
  have k2 : k ≤ 2 ^ 52 := by omega
  obtain ⟨a, b, c'⟩ := i2f_ex k1 k2
  rw [i2f_two k1 k2]
  by_cases hm : m = 0
  ·subst hm
   rw [show (2 * ((0 : Nat) : Int)) = 0 from rfl, show (((0 : Nat) : Int)) = 0 from rfl, i2f_zero, fdiv_zero (by omega) a, fdiv_zero (by omega) (by omega)]
  ·obtain ⟨a', b', c''⟩ := i2f_ex (k := m) (by omega) (by omega)
   rw [i2f_two (by omega) (by omega), fdiv_up b' b a' a]
 ·rw [if_neg h, if_neg (by omega)]
theorem bn_le (b : Bool) : b.toNat ≤ 1 := by cases b <;> decide
def gqA (A n : Nat) : Nat := 2 * (A / n) + (A % n != 0).toNat
theorem gq_A (m n : Nat) : gq m n = gqA (m * 2 ^ 54) n := by unfold gq gqA; rw [Nat.shiftLeft_eq]
theorem gqA_mono {A A' n : Nat} (hA : A ≤ A') : gqA A n ≤ gqA A' n := by
 unfold gqA
 have hd : A / n ≤ A' / n := Nat.div_le_div_right hA
 have b1 := bn_le (A % n != 0)
 by_cases e : A / n = A' / n
 ·have e1 := Nat.div_add_mod A n
  have e2 := Nat.div_add_mod A' n
  rw [← e] at e2 ⊢
  have hr : A % n ≤ A' % n := by omega
  by_cases h0 : A' % n = 0
  ·have : A % n = 0 := by omega
   rw [h0, this]
   exact Nat.le_refl _
  ·have : (A' % n != 0) = true := by simpa using h0
   rw [this]
   show _ ≤ _ + 1
   omega
 ·omega
theorem gqA_step {A A' n : Nat} (hA : A + 2 * n ≤ 2 * A') (h0 : 0 < n) : gqA A n ≤ 2 * gqA A' n := by
 unfold gqA
 have b1 := bn_le (A % n != 0)
 have e1 := Nat.div_add_mod A n
 have e2 := Nat.div_add_mod A' n
 have l2 := Nat.mod_lt A' h0
 have hlt : n * (A / n) < n * (2 * (A' / n)) := by
  have : n * (2 * (A' / n)) = 2 * (n * (A' / n)) := by rw [Nat.mul_left_comm]
  omega
 have := Nat.lt_of_mul_lt_mul_left hlt
 omega
theorem gq_mono {m m' n : Nat} (h : m ≤ m') : gq m n ≤ gq m' n := by
 rw [gq_A, gq_A]
 exact gqA_mono (Nat.mul_le_mul_right _ h)
theorem gq_step {m m' n : Nat} (hm : m < 2 ^ 53) (hm' : 2 ^ 52 ≤ m') (hn : n < 2 ^ 53) (h0 : 0 < n) : gq m n ≤ 2 * gq m' n := by
 rw [gq_A, gq_A]
 exact gqA_step (by omega) h0
theorem fdiv_mono {x x' y : Nat} (h : x ≤ x') (hx : x' < inf) (hy : y < inf) (h1 : 2 ^ 52 ≤ x) (h2 : 2 ^ 52 ≤ y) : fdiv x y ≤ fdiv x' y := by
 rw [fdiv_eq (by omega) hy h1 h2, fdiv_eq hx hy (by omega) h2]
 refine rd_mono _ ?_
 obtain ⟨a1, a2⟩ := mg_in h1
 obtain ⟨c1, c2⟩ := mg_in (show 2 ^ 52 ≤ x' by omega)
 obtain ⟨b1, b2⟩ := mg_in h2
 by_cases e : pl x = pl x'
 ·rw [← e]
  refine Nat.mul_le_mul_right _ (gq_mono ?_)
  rw [mg_hi h1, mg_hi (by omega)]
  unfold pl at e
  omega
 ·have hp : pl x < pl x' := by unfold pl at e ⊢; omega
  refine Nat.le_trans (Nat.mul_le_mul_right _ (gq_step (m' := mg x') a2 c1 b2 (by omega))) ?_
  rw [Nat.mul_comm 2, Nat.mul_assoc]
  refine Nat.mul_le_mul_left _ ?_
  rw [Nat.mul_comm, ← Nat.pow_succ]
  exact Nat.pow_le_pow_right (by decide) (by omega)
theorem fdiv_self {y : Nat} (hy : y < inf) (h2 : 2 ^ 52 ≤ y) : fdiv y y = one := by
 obtain ⟨b1, b2⟩ := mg_in h2
 have hg : gq (mg y) (mg y) = 2 ^ 55 := by
  unfold gq
  rw [Nat.shiftLeft_eq, Nat.mul_div_cancel_left _ (by omega), Nat.mul_mod_right]
  decide
 rw [fdiv_eq hy hy h2 h2, hg, pow_e (show 55 + (pl y + 1019) = e74 + pl y by rw [e74_eq]; omega), Nat.pow_add, ← vl_one, rd_vl (by decide)]
theorem fmul_monoL {x x' y : Nat} (h : x ≤ x') (hx : x' ≤ inf) : fmul x y ≤ fmul x' y := by
 by_cases e : x' = inf
 ·rw [e, fmul_inf]; exact fmul_le _ _
 ·rw [fmul_ne e, fmul_ne (by omega)]
  exact rd_mono _ (Nat.mul_le_mul_right _ (vl_le h hx))
theorem fmul_onel {y : Nat} (hy : y ≤ inf) : fmul one y = y := by
 rw [fmul_ne (by decide), vl_one, Nat.mul_comm, show (1074 : Nat) = e74 from rfl, rd_vl hy]
theorem shr_mono {s c c' : Int} (hs : 0 < s) (hs2 : s ≤ 4503599627370496) (hc : 0 ≤ c) (h : c ≤ c') (hc2 : c' ≤ s) : shr s c ≤ shr s c' := by
 unfold shr
 rw [if_pos hs, if_pos hs]
 obtain ⟨k, rfl⟩ := Int.eq_ofNat_of_zero_le (Int.le_of_lt hs)
 obtain ⟨m, rfl⟩ := Int.eq_ofNat_of_zero_le hc
 obtain ⟨m', rfl⟩ := Int.eq_ofNat_of_zero_le (Int.le_trans hc h)
 obtain ⟨a, b, c'⟩ := i2f_ex (k := k) (by omega) (by omega)
 by_cases hm : m = 0
 ·subst hm
  rw [show (((0 : Nat) : Int)) = 0 from rfl, i2f_zero, fdiv_zero (by omega) a, fmul_ne (by decide), vl_zero, Nat.zero_mul, rd_zero]
  exact Nat.zero_le _
 ·obtain ⟨a1, b1, c1⟩ := i2f_ex (k := m) (by omega) (by omega)
  obtain ⟨a2, b2, c2⟩ := i2f_ex (k := m') (by omega) (by omega)
  have hle : i2f (m : Int) ≤ i2f (m' : Int) := i2f_mono (by omega)
  refine fmul_monoL (fdiv_mono hle (by omega) (by omega) a1 a) ?_
  exact (div_nn (by omega) (by omega) (by omega)).2
theorem shr_self {s : Int} (hs : 0 < s) (hs2 : s ≤ 4503599627370496) : shr s s = hun := by
 unfold shr
 rw [if_pos hs]
 obtain ⟨k, rfl⟩ := Int.eq_ofNat_of_zero_le (Int.le_of_lt hs)
 obtain ⟨a, b, c'⟩ := i2f_ex (k := k) (by omega) (by omega)
 rw [fdiv_self (by omega) a, fmul_onel (by decide)]
theorem shr_hun {s c : Int} (hs : 0 < s) (hs2 : s ≤ 4503599627370496) (hc : 0 ≤ c) (hc2 : c ≤ s) : shr s c ≤ hun := by
 have := shr_mono hs hs2 hc hc2 (Int.le_refl _)
 rwa [shr_self hs hs2] at this
theorem one_le {k : Nat} (h0 : 0 < k) (h : k ≤ 2 ^ 52) : one ≤ i2f k := by
 obtain ⟨a, b, c⟩ := i2f_ex h0 h
 refine Nat.not_lt.1 fun hl => ?_
 have := vl_lt hl (by decide)
 rw [c, vl_one] at this
 have h2 : 1 * 2 ^ e74 ≤ k * 2 ^ e74 := Nat.mul_le_mul_right _ h0
 omega
theorem shr_pos {s c : Int} (hs : 0 < s) (hs2 : s ≤ 4503599627370496) (hc : 0 < c) (hc2 : c ≤ s) : 0 < shr s c := by
 unfold shr
 rw [if_pos hs]
 obtain ⟨k, rfl⟩ := Int.eq_ofNat_of_zero_le (Int.le_of_lt hs)
 obtain ⟨m, rfl⟩ := Int.eq_ofNat_of_zero_le (Int.le_of_lt hc)
 obtain ⟨a, b, c'⟩ := i2f_ex (k := k) (by omega) (by omega)
 obtain ⟨a1, b1, c1⟩ := i2f_ex (k := m) (by omega) (by omega)
 have ho := one_le (k := m) (by omega) (by omega)
 have hf : 1 ≤ fdiv (i2f (m : Int)) (i2f (k : Int)) := by
  rw [fdiv_eq (by omega) (by omega) a1 a, ← rd_vl (x := 1) (by decide) (pl (i2f (k : Int)))]
  refine rd_mono _ ?_
  obtain ⟨x1, x2⟩ := mg_in a1
  obtain ⟨y1, y2⟩ := mg_in a
  have hv1 : vl 1 = 1 := by unfold vl; rw [if_pos (by decide)]
  rw [hv1]
  refine Nat.mul_le_mul ?_ (Nat.pow_le_pow_right (by decide) ?_)
  ·unfold gq
   have : 1 ≤ mg (i2f (m : Int)) <<< 54 / mg (i2f (k : Int)) := by
    rw [Nat.shiftLeft_eq]
    exact (Nat.le_div_iff_mul_le (by omega)).2 (by omega)
   omega
  ·have h4 := (i2f_ex4 (k := k) (by omega) (by omega)).2
   have h5 : one = 1023 * 2 ^ 52 := by decide
   unfold pl
   omega
 exact Nat.lt_of_lt_of_le hf (le_fmul (div_nn (by omega) (by omega) (by omega)).2 (by decide) (by decide))
theorem shr_zero {s : Int} (hs2 : s ≤ 4503599627370496) : shr s 0 = 0 := by
 unfold shr
 by_cases hs : 0 < s
 ·rw [if_pos hs]
  obtain ⟨k, rfl⟩ := Int.eq_ofNat_of_zero_le (Int.le_of_lt hs)
  obtain ⟨a, b, c'⟩ := i2f_ex (k := k) (by omega) (by omega)
  rw [i2f_zero, fdiv_zero (by omega) a, fmul_ne (by decide), vl_zero, Nat.zero_mul, rd_zero]
 ·rw [if_neg hs]
end Go.Ht
namespace Go.Ht
open Ieee
set_option maxRecDepth 100000
def e19 : Nat := 1019
theorem near_a {v k m T Z E g mx my A B : Nat} (h1 : mx * A = m * T) (h2 : my * B = k * T) (g1 : g * my ≤ 2 * (mx * 2 ^ 54) + my) (g2 : 2 * (mx * 2 ^ 54) ≤ g * my + my) (hmy : my ≤ 2 * mx)
  (n1 : v * B ≤ g * (A * Z) + E) (n2 : g * (A * Z) ≤ v * B + E) (n3 : E * 2 ^ 52 ≤ B * 2 ^ 52 + g * (A * Z)) (hT : T = 2 ^ 55 * Z) (hZ : 0 < Z) (hmk : m ≤ k) :
  v * k ≤ m * T + 16 * (k * Z) ∧ m * T ≤ v * k + 16 * (k * Z) := by
 have hT0 : 0 < T := by rw [hT]; omega
 obtain ⟨N, hN⟩ : ∃ N, N = m * T * Z := ⟨_, rfl⟩
 obtain ⟨R, hR⟩ : ∃ R, R = k * T * Z := ⟨_, rfl⟩
 obtain ⟨K, hK⟩ : ∃ K, K = k * T := ⟨_, rfl⟩
 obtain ⟨G, hG⟩ : ∃ G, G = g * (A * Z) * my := ⟨_, rfl⟩
 obtain ⟨V, hV⟩ : ∃ V, V = v * (k * T) := ⟨_, rfl⟩
 obtain ⟨F, hF⟩ : ∃ F, F = E * my := ⟨_, rfl⟩
 have hM : m * T * T = 2 ^ 55 * N := by
  rw [hN]
  conv => lhs; rw [hT]
  conv => rhs; rw [hT]
  simp only [Nat.mul_left_comm, Nat.mul_comm]
 have hNR : N ≤ R := by rw [hN, hR]; exact Nat.mul_le_mul_right _ (Nat.mul_le_mul_right _ hmk)
 have hKR : K ≤ R := by rw [hK, hR]; exact Nat.le_mul_of_pos_right _ hZ
 have e1 : mx * 2 ^ 54 * (A * Z) = 2 ^ 54 * N := by
  rw [hN, ← h1]
  simp only [Nat.mul_assoc, Nat.mul_left_comm, Nat.mul_comm]
 have e2 : mx * (A * Z) = N := by rw [hN, ← h1, Nat.mul_assoc]
 have e3 : my * (A * Z) ≤ 2 * N := by
  have := Nat.mul_le_mul_right (A * Z) hmy
  rwa [Nat.mul_assoc 2, e2] at this
 have e4 : g * (A * Z) * my = g * my * (A * Z) := by simp only [Nat.mul_left_comm, Nat.mul_comm]
 have p1 : G ≤ 2 * (2 ^ 54 * N) + 2 * N := by
  rw [hG, e4]
  refine Nat.le_trans (Nat.mul_le_mul_right (A * Z) g1) ?_
  rw [Nat.add_mul, Nat.mul_assoc 2, e1]
  omega
 have p2 : 2 * (2 ^ 54 * N) ≤ G + 2 * N := by
  rw [hG, e4, ← e1, ← Nat.mul_assoc 2]
  refine Nat.le_trans (Nat.mul_le_mul_right (A * Z) g2) ?_
  rw [Nat.add_mul]
  omega
 have e5 : v * B * my = V := by rw [hV, ← h2, Nat.mul_assoc, Nat.mul_comm B]
 have q1 : V ≤ G + F := by
  rw [← e5, hG, hF, ← Nat.add_mul]
  exact Nat.mul_le_mul_right _ n1
 have q2 : G ≤ V + F := by
  rw [← e5, hG, hF, ← Nat.add_mul]
  exact Nat.mul_le_mul_right _ n2
 have q3 : F * 2 ^ 52 ≤ K * 2 ^ 52 + G := by
  have := Nat.mul_le_mul_right my n3
  have a1 : E * 2 ^ 52 * my = F * 2 ^ 52 := by rw [hF]; simp only [Nat.mul_assoc, Nat.mul_left_comm, Nat.mul_comm]
  have a2 : B * 2 ^ 52 * my = K * 2 ^ 52 := by rw [hK, ← h2]; simp only [Nat.mul_assoc, Nat.mul_comm]
  rw [Nat.add_mul, a1, a2, ← hG] at this
  exact this
 have r1 : V ≤ 2 ^ 55 * N + 16 * R := by omega
 have r2 : 2 ^ 55 * N ≤ V + 16 * R := by omega
 have x1 : v * k * T = V := by rw [hV, Nat.mul_assoc]
 have x2 : (m * T + 16 * (k * Z)) * T = 2 ^ 55 * N + 16 * R := by
  rw [Nat.add_mul, hM, hR]
  simp only [Nat.mul_assoc, Nat.mul_left_comm, Nat.mul_comm]
 have x3 : (v * k + 16 * (k * Z)) * T = V + 16 * R := by
  rw [Nat.add_mul, x1, hR]
  simp only [Nat.mul_assoc, Nat.mul_left_comm, Nat.mul_comm]
 exact ⟨Nat.le_of_mul_le_mul_right (by rw [x1, x2]; exact r1) hT0, Nat.le_of_mul_le_mul_right (by rw [hM, x3]; exact r2) hT0⟩
theorem near_b {f v k m T Z E : Nat} (h1 : v * k ≤ m * T + 16 * (k * Z)) (h2 : m * T ≤ v * k + 16 * (k * Z)) (hv : v ≤ T) (n1 : f * T ≤ v * (100 * T) + E) (n2 : v * (100 * T) ≤ f * T + E) (n3 : E * 2 ^ 52 ≤ T * 2 ^ 52 + v * (100 * T)) (hT : T = 2 ^ 55 * Z) (hZ : 0 < Z) :
  f * k ≤ 100 * (m * T) + 4096 * (k * Z) ∧ 100 * (m * T) ≤ f * k + 4096 * (k * Z) := by
 have hT0 : 0 < T := by rw [hT]; omega
 obtain ⟨X, hX⟩ : ∃ X, X = T * Z := ⟨_, rfl⟩
 have hTX : T ≤ X := by rw [hX]; exact Nat.le_mul_of_pos_right _ hZ
 have a1 : v * (100 * T) ≤ 100 * (2 ^ 55 * X) := by
  rw [Nat.mul_left_comm]
  refine Nat.mul_le_mul_left _ ?_
  refine Nat.le_trans (Nat.mul_le_mul_right T hv) ?_
  rw [hX]
  conv => lhs; rw [hT]
  conv => rhs; rw [hT]
  simp only [Nat.mul_left_comm, Nat.mul_comm]
  exact Nat.le_refl _
 have hE : E ≤ 1024 * X := by omega
 have b1 : f ≤ 100 * v + 1024 * Z := by
  refine Nat.le_of_mul_le_mul_right ?_ hT0
  have e1 : (100 * v + 1024 * Z) * T = v * (100 * T) + 1024 * X := by
   rw [Nat.add_mul, hX]
   simp only [Nat.mul_assoc, Nat.mul_left_comm, Nat.mul_comm]
  rw [e1]
  omega
 have b2 : 100 * v ≤ f + 1024 * Z := by
  refine Nat.le_of_mul_le_mul_right ?_ hT0
  have e1 : (f + 1024 * Z) * T = f * T + 1024 * X := by
   rw [Nat.add_mul, hX]
   simp only [Nat.mul_assoc, Nat.mul_comm]
  have e2 : 100 * v * T = v * (100 * T) := by simp only [Nat.mul_left_comm, Nat.mul_comm]
  rw [e1, e2]
  omega
 have c1 := Nat.mul_le_mul_right k b1
 have c2 := Nat.mul_le_mul_right k b2
 have e1 : (100 * v + 1024 * Z) * k = 100 * (v * k) + 1024 * (k * Z) := by
  rw [Nat.add_mul]
  simp only [Nat.mul_assoc, Nat.mul_left_comm, Nat.mul_comm]
 have e2 : (f + 1024 * Z) * k = f * k + 1024 * (k * Z) := by
  rw [Nat.add_mul]
  simp only [Nat.mul_assoc, Nat.mul_comm]
 have e3 : 100 * v * k = 100 * (v * k) := Nat.mul_assoc _ _ _
 rw [e1] at c1
 rw [e2, e3] at c2
 omega
theorem vl_hun : vl hun = 100 * 2 ^ e74 := by
 have h : vl hun = 25 * 2 ^ (2 + e74) := vl_mul (by decide) (by decide : _ = 1028) (by decide) rfl
 rw [h, Nat.pow_add, ← Nat.mul_assoc]
theorem gqA_near (A n : Nat) (hn : 0 < n) : gqA A n * n ≤ 2 * A + n ∧ 2 * A ≤ gqA A n * n + n := by
 unfold gqA
 have e1 := Nat.div_add_mod A n
 have e2 : (2 * (A / n) + (A % n != 0).toNat) * n = 2 * (n * (A / n)) + (A % n != 0).toNat * n := by
  rw [Nat.add_mul, Nat.mul_assoc 2, Nat.mul_comm n]
 rw [e2]
 by_cases h0 : A % n = 0
 ·have : (A % n != 0).toNat = 0 := by rw [h0]; decide
  rw [this, Nat.zero_mul]
  omega
 ·have : (A % n != 0).toNat = 1 := by
   have : (A % n != 0) = true := by simpa using h0
   rw [this]; rfl
  rw [this, Nat.one_mul]
  have := Nat.mod_lt A hn
  omega
theorem gq_near {m n : Nat} (hn : 0 < n) : gq m n * n ≤ 2 * (m * 2 ^ 54) + n ∧ 2 * (m * 2 ^ 54) ≤ gq m n * n + n := by
 rw [gq_A]
 exact gqA_near _ _ hn
theorem t_z : (2 : Nat) ^ e74 = 2 ^ 55 * 2 ^ e19 := (pow_e (show 55 + e19 = e74 from rfl)).symm
theorem shr_near {k m : Nat} (hk : 0 < k) (hk2 : k ≤ 2 ^ 52) (hm : m ≤ k) : vl (shr k m) * k ≤ 100 * (m * 2 ^ e74) + 4096 * (k * 2 ^ e19) ∧ 100 * (m * 2 ^ e74) ≤ vl (shr k m) * k + 4096 * (k * 2 ^ e19) := by
 by_cases h0 : m = 0
 ·subst h0
  rw [show (((0 : Nat) : Int)) = 0 from rfl, shr_zero (by omega), vl_zero]
  simp
 obtain ⟨a, b, c⟩ := i2f_ex hk hk2
 obtain ⟨a1, b1, c1⟩ := i2f_ex (k := m) (by omega) (by omega)
 have ho : fdiv (i2f (m : Int)) (i2f (k : Int)) ≤ one := by
  have := fdiv_mono (i2f_mono hm) (by omega) (show i2f (k : Int) < inf by omega) a1 a
  rwa [fdiv_self (by omega) a] at this
 have h1i : one < inf := by decide
 have hsh : shr k m = rd (vl (fdiv (i2f (m : Int)) (i2f (k : Int))) * (100 * 2 ^ e74)) e74 := by
  unfold shr
  rw [if_pos (by omega), fmul_ne (by omega), vl_hun]
  rfl
 have hfd := fdiv_eq (by omega) (show i2f (k : Int) < inf by omega) a1 a
 obtain ⟨E, n1, n2, n3⟩ := rd_near (P := gq (mg (i2f (m : Int))) (mg (i2f (k : Int))) * 2 ^ (pl (i2f (m : Int)) + 1019)) (k := pl (i2f (k : Int))) (by rw [← hfd]; omega)
 rw [← hfd] at n1 n2
 have hvo := vl_le ho (by decide)
 rw [vl_one] at hvo
 have hlt : shr (k : Int) m < inf := Nat.lt_of_le_of_lt (shr_hun (by omega) (by omega) (by omega) (by omega)) (by decide)
 rw [hsh] at hlt ⊢
 obtain ⟨E2, m1, m2, m3⟩ := rd_near hlt
 obtain ⟨x1, x2⟩ := mg_in a1
 obtain ⟨y1, y2⟩ := mg_in a
 rw [vl_mg] at c c1
 obtain ⟨g1, g2⟩ := gq_near (m := mg (i2f (m : Int))) (n := mg (i2f (k : Int))) (by omega)
 rw [Nat.pow_add, show (1019 : Nat) = e19 from rfl] at n1 n2 n3
 have hN := near_a (Z := 2 ^ e19) c1 c g1 g2 (by omega) n1 n2 n3 t_z (Nat.two_pow_pos _) hm
 exact near_b hN.1 hN.2 hvo m1 m2 m3 t_z (Nat.two_pow_pos _)
def fsm : List Nat → Nat
 | l => l.foldl fadd 0
theorem fsm_snoc (l : List Nat) (x : Nat) : fsm (l ++ [x]) = fadd (fsm l) x := by unfold fsm; rw [List.foldl_append, List.foldl_cons, List.foldl_nil]
theorem fsm_le (l : List Nat) : fsm l ≤ inf := by
 rcases List.eq_nil_or_concat l with rfl | ⟨l', x, rfl⟩
 ·decide
 ·rw [List.concat_eq_append, fsm_snoc]; exact fadd_le _ _
def w256 : Nat := 0x4070000000000000
theorem vl_256 : vl w256 = 256 * 2 ^ e74 := by
 have h : vl w256 = 2 ^ (8 + e74) := vl_two (by decide) (by decide : _ = 1030) (by decide) rfl
 rw [h, Nat.pow_add]
def csm (l : List Nat) : Nat := l.foldl (· + ·) 0
theorem csm_snoc (l : List Nat) (x : Nat) : csm (l ++ [x]) = csm l + x := by unfold csm; rw [List.foldl_append, List.foldl_cons, List.foldl_nil]
theorem step_a {S S' a k C c T Z E i : Nat} (h1 : S * k ≤ 100 * (C * T) + i * (8192 * (k * Z))) (h2 : 100 * (C * T) ≤ S * k + i * (8192 * (k * Z))) (a1 : a * k ≤ 100 * (c * T) + 4096 * (k * Z)) (a2 : 100 * (c * T) ≤ a * k + 4096 * (k * Z))
  (n1 : S' ≤ S + a + E) (n2 : S + a ≤ S' + E) (n3 : E ≤ 4096 * Z) : S' * k ≤ 100 * ((C + c) * T) + (i + 1) * (8192 * (k * Z)) ∧ 100 * ((C + c) * T) ≤ S' * k + (i + 1) * (8192 * (k * Z)) := by
 have m1 := Nat.mul_le_mul_right k n1
 have m2 := Nat.mul_le_mul_right k n2
 have m3 := Nat.mul_le_mul_right k n3
 rw [Nat.add_mul, Nat.add_mul] at m1
 rw [Nat.add_mul, Nat.add_mul] at m2
 rw [Nat.mul_assoc, Nat.mul_comm Z k] at m3
 rw [Nat.add_mul C c, Nat.add_mul i 1, Nat.one_mul]
 generalize i * (8192 * (k * Z)) = Y at *
 generalize k * Z = X at *
 omega
theorem snoc_ind {P : List Nat → Prop} (h0 : P []) (h1 : ∀ l x, P l → P (l ++ [x])) : ∀ l, P l := fun l => by
 have key : ∀ (n : Nat) (l : List Nat), l.length = n → P l := by
  intro n
  induction n with
  | zero => intro l hl; rw [List.length_eq_zero_iff.1 hl]; exact h0
  | succ n ih =>
   intro l hl
   rcases List.eq_nil_or_concat l with rfl | ⟨l', x, rfl⟩
   ·cases hl
   ·rw [List.concat_eq_append] at hl ⊢
    rw [List.length_append, List.length_singleton] at hl
    exact h1 _ _ (ih l' (by omega))
 exact key _ l rfl
theorem sum_near {k : Nat} (hk : 0 < k) (hk2 : k ≤ 2 ^ 52) : ∀ (l : List Nat), csm l ≤ k → l.length ≤ 1048576 →
  vl (fsm (l.map fun c : Nat => shr k c)) * k ≤ 100 * (csm l * 2 ^ e74) + l.length * (8192 * (k * 2 ^ e19)) ∧ 100 * (csm l * 2 ^ e74) ≤ vl (fsm (l.map fun c : Nat => shr k c)) * k + l.length * (8192 * (k * 2 ^ e19)) := by
 refine snoc_ind ?_ ?_
 ·intro _ _
  simp [fsm, csm, vl_zero]
 ·intro l c ih hc hl
  rw [csm_snoc] at hc ⊢
  rw [List.length_append] at hl ⊢
  simp only [List.length_singleton] at hl ⊢
  obtain ⟨i1, i2⟩ := ih (by omega) (by omega)
  obtain ⟨a1, a2⟩ := shr_near hk hk2 (show c ≤ k by omega)
  rw [List.map_append, List.map_singleton, fsm_snoc]
  have hSk : vl (fsm (l.map fun c : Nat => shr k c)) ≤ 101 * 2 ^ e74 := by
   refine Nat.le_of_mul_le_mul_right (c := k) ?_ hk
   refine Nat.le_trans i1 ?_
   have u1 : csm l * 2 ^ e74 ≤ k * 2 ^ e74 := Nat.mul_le_mul_right _ (by omega)
   have u2 : l.length * (8192 * (k * 2 ^ e19)) ≤ 1048576 * (8192 * (k * 2 ^ e19)) := Nat.mul_le_mul_right _ (by omega)
   have u3 : 101 * 2 ^ e74 * k = 101 * (k * 2 ^ e74) := by rw [Nat.mul_assoc, Nat.mul_comm k]
   have u4 : k * 2 ^ e74 = 2 ^ 55 * (k * 2 ^ e19) := by rw [t_z, Nat.mul_left_comm]
   rw [u3]
   rw [u4] at u1 ⊢
   generalize k * 2 ^ e19 = X at *
   generalize csm l * 2 ^ e74 = Y at *
   omega
  have hak : vl (shr k c) ≤ 100 * 2 ^ e74 := by
   rw [← vl_hun]
   exact vl_le (shr_hun (by omega) (by omega) (by omega) (by omega)) (by decide)
  have hP : vl (fsm (l.map fun c : Nat => shr k c)) + vl (shr k c) ≤ vl w256 := by
   rw [vl_256]
   generalize (2 : Nat) ^ e74 = T at *
   omega
  have hlt : rd (vl (fsm (l.map fun c : Nat => shr k c)) + vl (shr k c)) 0 < inf := by
   have := rd_mono 0 hP
   rw [rd_vl0 (by decide)] at this
   exact Nat.lt_of_le_of_lt this (by decide)
  obtain ⟨E, n1, n2, n3⟩ := rd_near hlt
  rw [Nat.pow_zero, Nat.mul_one] at n1 n2
  rw [vl_256, t_z] at hP
  have hz := Nat.two_pow_pos e19
  have n4 : E ≤ 4096 * 2 ^ e19 := by
   generalize (2 : Nat) ^ e19 = Z at *
   omega
  exact step_a i1 i2 a1 a2 n1 n2 n4
def w99 : Nat := 0x4058ffef9db22d0e
def w101 : Nat := 0x40590010624dd2f2
theorem vl_99 : vl w99 = 7036804049022222 * 2 ^ e19 * 512 := by
 have h : vl w99 = (2 ^ 52 + w99 % 2 ^ 52) * 2 ^ (e19 + 9) := vl_hi (by decide) (by decide)
 have h2 : 2 ^ 52 + w99 % 2 ^ 52 = 7036804049022222 := by decide
 rw [h, h2, Nat.pow_add, Nat.mul_assoc]
theorem vl_101 : vl w101 = 7036944786510578 * 2 ^ e19 * 512 := by
 have h : vl w101 = (2 ^ 52 + w101 % 2 ^ 52) * 2 ^ (e19 + 9) := vl_hi (by decide) (by decide)
 have h2 : 2 ^ 52 + w101 % 2 ^ 52 = 7036944786510578 := by decide
 rw [h, h2, Nat.pow_add, Nat.mul_assoc]
theorem sum_hun {k : Nat} (hk : 0 < k) (hk2 : k ≤ 2 ^ 52) {l : List Nat} (hc : csm l = k) (hl : l.length ≤ 1048576) : w99 < fsm (l.map fun c : Nat => shr k c) ∧ fsm (l.map fun c : Nat => shr k c) < w101 := by
 obtain ⟨i1, i2⟩ := sum_near hk hk2 l (by omega) hl
 have u2 : l.length * (8192 * (k * 2 ^ e19)) ≤ 1048576 * (8192 * (k * 2 ^ e19)) := Nat.mul_le_mul_right _ (by omega)
 have u4 : k * 2 ^ e74 = 2 ^ 55 * (k * 2 ^ e19) := by rw [t_z, Nat.mul_left_comm]
 rw [hc, u4] at i1 i2
 have b1 : vl (fsm (l.map fun c : Nat => shr k c)) ≤ 100 * (2 ^ 55 * 2 ^ e19) + 1048576 * (8192 * 2 ^ e19) := by
  refine Nat.le_of_mul_le_mul_right (c := k) ?_ hk
  refine Nat.le_trans i1 ?_
  have e : (100 * (2 ^ 55 * 2 ^ e19) + 1048576 * (8192 * 2 ^ e19)) * k = 100 * (2 ^ 55 * (k * 2 ^ e19)) + 1048576 * (8192 * (k * 2 ^ e19)) := by
   rw [Nat.add_mul, Nat.mul_comm k]
   simp only [Nat.mul_assoc]
  rw [e]
  omega
 have b2 : 100 * (2 ^ 55 * 2 ^ e19) ≤ vl (fsm (l.map fun c : Nat => shr k c)) + 1048576 * (8192 * 2 ^ e19) := by
  refine Nat.le_of_mul_le_mul_right (c := k) ?_ hk
  have e : (vl (fsm (l.map fun c : Nat => shr k c)) + 1048576 * (8192 * 2 ^ e19)) * k = vl (fsm (l.map fun c : Nat => shr k c)) * k + 1048576 * (8192 * (k * 2 ^ e19)) := by
   rw [Nat.add_mul, Nat.mul_comm k]
   simp only [Nat.mul_assoc]
  have e2 : 100 * (2 ^ 55 * 2 ^ e19) * k = 100 * (2 ^ 55 * (k * 2 ^ e19)) := by
   rw [Nat.mul_comm k]
   simp only [Nat.mul_assoc]
  rw [e, e2]
  omega
 have hz := Nat.two_pow_pos e19
 constructor
 ·refine Nat.not_le.1 fun h => ?_
  have := vl_le h (by decide)
  rw [vl_99] at this
  generalize (2 : Nat) ^ e19 = Z at *
  omega
 ·refine Nat.not_le.1 fun h => ?_
  have := vl_le h (fsm_le _)
  rw [vl_101] at this
  generalize (2 : Nat) ^ e19 = Z at *
  omega
end Go.Ht
namespace Go.Ht
open Ieee
set_option maxRecDepth 100000
theorem shS_step {s c : Int} {r : List Int} (h0 : 0 ≤ c) (h1 : c ≤ 4503599627370496) (h2 : s ≤ 4503599627370496) : shS s (c :: r) = shS (s + c) r := by
 rw [shS, if_neg (by omega)]
theorem shS_two : ∀ {l : List Int} {s t : Int}, 0 ≤ s → shS s l = some t → t ≤ 4503599627370496 → shS (2 * s) (l.map (2 * ·)) = some (2 * t)
 | [], s, t, _, h, _ => by injection h with h; rw [h]; rfl
 | c :: l, s, t, h0, h, ht => by
  rw [shS] at h
  split at h
  ·cases h
  ·have h1 := shS_mono h
   rw [List.map_cons, shS, if_neg (by omega), ← Int.mul_add]
   exact shS_two (by omega) h ht
theorem shS_sum : ∀ {l : List Int} {s t : Int}, 0 ≤ s → shS s l = some t → ((csm (l.map Int.toNat) : Nat) : Int) + s = t := by
 have e : ∀ (m : List Nat) (a : Nat), m.foldl (· + ·) a = m.foldl (· + ·) 0 + a := by
  intro m
  induction m with
  | nil => intro a; simp
  | cons x m ih => intro a; rw [List.foldl_cons, List.foldl_cons, ih (a + x), ih (0 + x)]; omega
 intro l
 induction l with
 | nil => intro s t _ h; injection h with h; rw [← h]; simp [csm]
 | cons c l ih =>
  intro s t h0 h
  rw [shS] at h
  split at h
  ·cases h
  ·have := ih (by omega) h
   unfold csm at this ⊢
   rw [List.map_cons, List.foldl_cons, e]
   omega
theorem map_two {l : List Int} {t : Int} (h : shS 0 l = some t) (ht : t ≤ 4503599627370496) : (l.map (2 * ·)).map (shr (2 * t)) = l.map (shr t) := by
 have h1 := shS_in (by omega) (by omega) h
 have h2 := shS_mono h
 rw [List.map_map]
 refine List.map_congr_left fun c hc => ?_
 have := h1.2 c hc
 exact shr_two h2 ht this.1 (by omega)
theorem all_near {l : List Int} {t : Int} (h : shS 0 l = some t) (ht : t ≤ 4503599627370496) (h0 : 0 < t) (hl : l.length ≤ 1048576) : w99 < fsm (l.map (shr t)) ∧ fsm (l.map (shr t)) < w101 := by
 obtain ⟨k, rfl⟩ := Int.eq_ofNat_of_zero_le (Int.le_of_lt h0)
 have hs := shS_sum (Int.le_refl 0) h
 have h1 := shS_in (by omega) (by omega) h
 have := sum_hun (k := k) (by omega) (by omega) (l := l.map Int.toNat) (by omega) (by rw [List.length_map]; exact hl)
 rw [List.map_map] at this
 have e : l.map ((fun c : Nat => shr (k : Int) c) ∘ Int.toNat) = l.map (shr (k : Int)) := by
  refine List.map_congr_left fun c hc => ?_
  show shr _ ((c.toNat : Nat) : Int) = _
  rw [Int.toNat_of_nonneg (h1.2 c hc).1]
 rw [e] at this
 exact this
theorem fsm_take {l : List Nat} {i x : Nat} (h : l[i]? = some x) : fsm (l.take (i + 1)) = fadd (fsm (l.take i)) x := by
 rw [List.take_add_one, h]
 exact fsm_snoc _ _
end Go.Ht
namespace Go.Proofs.Ytndnfjcfpcfakaa
open Go Go.RowKit Go.Wr Go.Fl Go.Ht
set_option maxHeartbeats 40000000
set_option maxRecDepth 100000
theorem lt_no {x y : Nat} (hx : x ≤ inf) (hy : y ≤ inf) (h : ¬ x < y) : (FloatKind.f64.format.order x y == some .lt) = false := (lt_nn hx hy).trans (decide_eq_false h)
theorem gt_nO {x y : Nat} (hx : x ≤ inf) (hy : y ≤ inf) (h : ¬ y < x) : (FloatKind.f64.format.order x y == some .gt) = false := (gt_nn hx hy).trans (decide_eq_false h)
def ShE (l : List Int) (B : Nat) (w : World) (er : Int) (va : Option Addr) (vn vc : Nat) : Prop :=
 (er = 1 ∧ vn = 0 ∧ shS 0 l = none) ∨ (er = 0 ∧ vn = l.length ∧ ∃ t, shS 0 l = some t ∧ OwR tF B w (.slice va vn vc) (l.map (shr t)))
theorem ShP.both {l : List Int} {w w' : World} {e : Ending} (h : ShP l w e w') : Below w.heap.size w w' ∧ ∃ er va vn vc, e = .returned (.tuple #[.slice va vn vc, .int .i64 er]) ∧ ShE l w.heap.size w' er va vn vc := by
 obtain ⟨b, h⟩ := h
 refine ⟨b, ?_⟩
 rcases h with ⟨n1, rfl⟩ | ⟨s, v, s1, rfl, o1⟩
 ·exact ⟨1, none, 0, 0, rfl, Or.inl ⟨rfl, rfl, n1⟩⟩
 ·obtain ⟨a, c, rfl, -, -⟩ := (OwR.slz o1).form
  exact ⟨0, a, _, c, rfl, Or.inr ⟨rfl, by rw [List.length_map], s, s1, o1⟩⟩
theorem doubles_ok (w : World) (q : Nat) (v : Value) (l : List Int) (h : SlX tI q w v l) (hl : l.length ≤ 1048576) : Calls Try.prog 5 #[v] w fun e w' => e = .returned (.bool true) ∧ Below w.heap.size w w' := by
 obtain ⟨a0, cap, rfl, h1, h2⟩ := h.form
 have H := Lib.hid h
 unfold maxLen at h2
 clear h
 go_enter Try.func5, Try.ntmps5
 go_wp2_with fail
 refine (known19_ok _).mono ?_
 rintro e w1 ⟨rfl, b1⟩
 have HB1 := Lib.hid b1
 clear b1
 go_wp2_with fail
 refine (share_ok w1 q _ l (H.out.below HB1.out) (by omega)).mono ?_
 intro e w2 hE
 obtain ⟨b2, er, va, vn, vc, he0, hE2⟩ := hE.both
 subst he0
 have HE := Lib.hid hE2
 have HB2 := Lib.hid (bThen HB1.out b2)
 clear hE hE2 b2
 go_upto_region 7 with (fail)
 go_loopw [5, 6, 7] (fun t u z wr => ∃ (i : Nat) (s : Int) (ta : Option Addr) (tn tc : Nat), i ≤ l.length ∧ 0 ≤ s ∧ s ≤ 9007199254740992 ∧ t = .slice ta tn tc ∧ u = .int .i64 s ∧ z = .int .i64 (i : Int) ∧ Hid (shS 0 l = shS s (l.drop i)) ∧ Hid (OwR tI w2.heap.size wr (.slice ta tn tc) ((l.take i).map (2 * ·))) ∧ Hid (Below w2.heap.size w2 wr)) (fun _ _ z _ => l.length - (intOf z).toNat)
 case atStart => exact ⟨0, 0, none, 0, 0, by omega, by omega, by omega, rfl, rfl, rfl, rfl, OwR.nil _ _, bRefl _⟩
 case round =>
  obtain ⟨i, s, ta, tn, tc, hi, hs0, hs1, rfl, rfl, rfl, hq, ho, hb⟩ := hrel
  obtain ⟨V, rfl⟩ : ∃ x : World, x = wr := ⟨_, rfl⟩
  have HBR := Lib.hid (bThen HB2.out hb.out)
  by_cases hlt : i < l.length
  ·have hlt' : (i : Int) < (l.length : Int) := by omega
   obtain ⟨c, hc⟩ : ∃ c, l[i]? = some c := ⟨_, List.getElem?_eq_getElem hlt⟩
   have hd : l.drop i = c :: l.drop (i + 1) := by
    rw [List.drop_eq_getElem_cons hlt]
    rw [List.getElem?_eq_getElem hlt] at hc
    injection hc with hc
    rw [hc]
   have htk : l.take (i + 1) = l.take i ++ [c] := by rw [List.take_add_one, hc]; rfl
   have hlen : ((l.take i).map (2 * ·)).length = i := by rw [List.length_map, List.length_take]; omega
   obtain ⟨b, o, rfl, -, -, hcell⟩ := SlX.int (H.out.below (bThen HB2.out hb.out)) hc
   have HT := Lib.hid (And.intro htk hlen)
   have HD := Lib.hid hd
   clear hc hd htk hlen
   by_cases hc0 : c < 0
   ·rcases HE.out with ⟨rfl, rfl, -⟩ | ⟨rfl, rfl, -⟩
    ·go_wp2
     go_ret
     exact ⟨rfl, HBR.out⟩
    ·go_wp2
     go_ret
     exact ⟨rfl, HBR.out⟩
   ·by_cases hc1 : 4503599627370496 < c
    ·rcases HE.out with ⟨rfl, rfl, -⟩ | ⟨rfl, rfl, -⟩
     ·go_wp2
      go_ret
      exact ⟨rfl, HBR.out⟩
     ·go_wp2
      go_ret
      exact ⟨rfl, HBR.out⟩
    ·by_cases hs2 : 4503599627370496 < s
     ·rcases HE.out with ⟨rfl, rfl, -⟩ | ⟨rfl, rfl, -⟩
      ·go_wp2
       go_ret
       exact ⟨rfl, HBR.out⟩
      ·go_wp2
       go_ret
       exact ⟨rfl, HBR.out⟩
     ·have hq2 := hq.out
      rw [HD.out, shS_step (by omega) (by omega) (by omega)] at hq2
      have HQ2 := Lib.hid hq2
      have hz := hb.out.size
      clear hq2 hq
      go_wp2_with (at_builtin; refine wpl_push tI rfl (.tmp 65) (.tmp 71) rfl w2.heap.size (.slice ta tn tc) ((l.take i).map (2 * ·)) rfl (ho.out.alloc _) _ 0 1 1 [2 * c] rfl rfl (rangeNew (by rfl) (by rfl)) (by have := HT.out.2; unfold maxLen; simp; omega) (by have := HT.out.2; show _ * 8 ≤ _; simp; omega) (by simp; omega) ?_; intro v' w9 hown hgrow hform)
      obtain ⟨g9, c9, rfl, _⟩ := hform (by simp)
      have HO := Lib.hid (show OwR tI w2.heap.size w9 (.slice (some ⟨g9, 0, none⟩) (((l.take i).map (2 * ·)).length + 1) c9) ((l.take (i + 1)).map (2 * ·)) by rw [HT.out.1, List.map_append]; exact hown)
      have HB := Lib.hid (below_grow hb.out hgrow (fun g hg => (ho.out.blk hg).1))
      clear hown hgrow hform ho hb hcell HBR
      go_wp2
      go_roundw
      all_goals first
       | exact ⟨i + 1, s + c, _, _, _, by omega, by omega, by omega, rfl, by go_num, by go_num, HQ2.out, HO.out, HB.out⟩
       | ((repeat apply Exists.intro); exact ⟨⟨i + 1, s + c, _, _, _, by omega, by omega, by omega, rfl, by go_num, by go_num, HQ2.out, HO.out, HB.out⟩, rfl⟩)
       | (simp [intOf] <;> omega)
  ·have hie : i = l.length := by omega
   have hlt' : ¬ (i : Int) < (l.length : Int) := by omega
   subst hie
   by_cases hs2 : 4503599627370496 < s
   ·rcases HE.out with ⟨rfl, rfl, -⟩ | ⟨rfl, rfl, -⟩
    ·go_wp2
     go_ret
     exact ⟨rfl, HBR.out⟩
    ·go_wp2
     go_ret
     exact ⟨rfl, HBR.out⟩
   ·have hS : shS 0 l = some s := by rw [hq.out, List.drop_length]; rfl
    have HS := Lib.hid hS
    have ho2 := ho.out
    rw [List.take_length] at ho2
    have HO := Lib.hid ho2
    obtain ⟨rfl, rfl, hown⟩ : er = 0 ∧ vn = l.length ∧ OwR tF w1.heap.size w2 (.slice va vn vc) (l.map (shr s)) := by
     rcases HE.out with ⟨-, -, hn⟩ | ⟨e1, e2, t, ht, o⟩
     ·rw [hS] at hn; cases hn
     ·rw [hS] at ht
      injection ht with ht
      rw [ht]
      exact ⟨e1, e2, o⟩
    have HA := Lib.hid (hown.below hb.out)
    clear hown ho2 ho hq HE hlt hi
    go_wp2_with fail
    refine (share_ok V V.heap.size _ (l.map (2 * ·)) (OwR.slz HO.out) (by rw [List.length_map]; omega)).mono ?_
    intro e w4 hE
    obtain ⟨b4, er2, vb, vm, vd, he0, hE2⟩ := hE.both
    subst he0
    obtain ⟨rfl, rfl, ob⟩ : er2 = 0 ∧ vm = l.length ∧ OwR tF V.heap.size w4 (.slice vb vm vd) (l.map (shr s)) := by
     have h2 := shS_two (Int.le_refl 0) HS.out (by omega)
     rw [Int.mul_zero] at h2
     rcases hE2 with ⟨-, -, hn⟩ | ⟨e1, e2, t, ht, o⟩
     ·rw [h2] at hn; cases hn
     ·rw [h2] at ht
      injection ht with ht
      rw [← ht, map_two HS.out (by omega)] at o
      rw [List.length_map] at e2
      exact ⟨e1, e2, o⟩
    have HA4 := Lib.hid (And.intro (OwR.slz (HA.out.below b4)) (OwR.slz ob))
    have HB4 := Lib.hid (bThen HBR.out b4)
    clear hE hE2 b4 ob HA HO HBR hb
    go_wp2_with fail
    refine (sameF_ok w4 w4.heap.size w4.heap.size _ _ _ HA4.out.1 HA4.out.2 shr_in).mono ?_
    rintro e w5 ⟨rfl, m5, hw5⟩
    have HA5 := Lib.hid (show SlX tF w4.heap.size w5 (.slice va l.length vc) (l.map (shr s)) by rw [hw5]; exact HA4.out.1.below (bDrewN (bRefl w4) m5))
    have HB5 := Lib.hid (show Below w.heap.size w w5 by rw [hw5]; exact bDrewN HB4.out m5)
    have H5 := Lib.hid (H.out.below HB5.out)
    clear hw5 HA4 HB4
    go_upto_region 20 with (fail)
    go_loopw [10, 11] (fun t u wr => ∃ (i m x : Nat), i ≤ l.length ∧ t = .float .f64 x ∧ u = .int .i64 (i : Int) ∧ Hid (x = fsm ((l.map (shr s)).take i)) ∧ Hid (wr = w5.drewN m)) (fun _ u _ => l.length - (intOf u).toNat)
    case atStart => exact ⟨0, 0, 0, by omega, rfl, rfl, rfl, rfl⟩
    case round =>
     obtain ⟨i, m, x, hi, rfl, rfl, hx, hwr⟩ := hrel
     obtain ⟨V, rfl⟩ : ∃ y : World, y = wr := ⟨_, rfl⟩
     by_cases hlt : i < l.length
     ·have hlt' : (i : Int) < (l.length : Int) := by omega
      obtain ⟨c, hc⟩ : ∃ c, l[i]? = some c := ⟨_, List.getElem?_eq_getElem hlt⟩
      have hin := (shS_in (by omega) (by omega) HS.out).2 c (List.mem_of_getElem? hc)
      have hyc : (l.map (shr s))[i]? = some (shr s c) := by rw [List.getElem?_map, hc]; rfl
      obtain ⟨y, hy⟩ : ∃ y, y = shr s c := ⟨_, rfl⟩
      rw [← hy] at hyc
      have hyi : y ≤ inf := by rw [hy]; exact shr_le
      have hxi : x ≤ inf := by rw [hx.out]; exact fsm_le _
      have hadd := hop_add (add_nn hxi hyi)
      obtain ⟨z, hz⟩ : ∃ z, z = fadd x y := ⟨_, rfl⟩
      rw [← hz] at hadd
      have HX2 : Hid (z = fsm ((l.map (shr s)).take (i + 1))) := by show _ = _; rw [fsm_take hyc, hz, hx.out]
      obtain ⟨b, o, rfl, -, -, d1w⟩ := SlX.flo HA5.out hyc
      obtain ⟨b', o', rfl, -, -, c1w⟩ := SlX.int H5.out hc
      have d1 : V.cell? ⟨b, o + i, none⟩ = some (.float .f64 y) := by rw [hwr.out]; exact d1w
      have c1 : V.cell? ⟨b', o' + i, none⟩ = some (.int .i64 c) := by rw [hwr.out]; exact c1w
      have HWN := Lib.hid (fun n => by rw [hwr.out, World.drewN_drewN] : ∀ n, V.drewN n = w5.drewN (m + n))
      have hyh : y ≤ hun := by
       by_cases h0 : 0 < s
       ·rw [hy]; exact shr_hun h0 (by omega) hin.1 (by omega)
       ·rw [hy]; unfold shr; rw [if_neg h0]; decide
      have t1 := lt_no hyi (show (0 : Nat) ≤ inf by decide) (by omega)
      have t2 : (FloatKind.f64.format.order y 4636737291354636288 == some .gt) = false := gt_nO hyi (by decide) (by unfold hun at hyh; omega)
      have t30 : (FloatKind.f64.format.order y 0 == some .eq) = decide (c = 0) := by
       refine (eq_nn hyi (by decide)).trans ?_
       by_cases h0 : c = 0
       ·rw [decide_eq_true h0, decide_eq_true]; rw [hy, h0, shr_zero (by omega)]
       ·rw [decide_eq_false h0, decide_eq_false]
        have := shr_pos (s := s) (c := c) (by omega) (by omega) (by omega) (by omega)
        omega
      obtain ⟨eb, heb⟩ : ∃ eb, eb = decide (c = 0) := ⟨_, rfl⟩
      have t3 : (FloatKind.f64.format.order y 0 == some .eq) = eb := t30.trans heb.symm
      have t31 : decide (c = 0) = eb := heb.symm
      have t32 : (c == 0) = eb := by rw [heb]; rfl
      have t33 : (eb != eb) = false := by cases eb <;> rfl
      clear t30 heb
      have HY := Lib.hid (And.intro hy hyi)
      have HC := Lib.hid hc
      clear hyh hz hx hwr d1w c1w hc hyc hy hyi hxi
      by_cases hi0 : i = 0
      ·have hi0' : decide ((i : Int) > 0) = false := decide_eq_false (by omega)
       have hi1 : ¬ (0 : Int) < (i : Int) := by omega
       have hi2 : ¬ 0 < i := by omega
       clear hi0
       as_aux_lemma =>
        go_upto_region 23 with (fail)
        go_quiet (fail)
        have HW := Lib.hid (HWN.out nq)
        clear HWN
        generalize V.drewN nq = V2 at HW ⊢
        go_wp2
        go_roundw
        all_goals first
         | exact ⟨i + 1, _, _, by omega, rfl, by go_num, HX2.out, HW.out⟩
         | ((repeat apply Exists.intro); exact ⟨⟨i + 1, _, _, by omega, rfl, by go_num, HX2.out, HW.out⟩, rfl⟩)
         | (simp [intOf] <;> omega)
      ·obtain ⟨k, hki⟩ : ∃ k, i = k + 1 := ⟨i - 1, by omega⟩
       obtain ⟨a, ha⟩ : ∃ a, l[k]? = some a := ⟨_, List.getElem?_eq_getElem (by omega)⟩
       have hia := (shS_in (by omega) (by omega) HS.out).2 a (List.mem_of_getElem? ha)
       have hya : (l.map (shr s))[k]? = some (shr s a) := by rw [List.getElem?_map, ha]; rfl
       obtain ⟨u, hu⟩ : ∃ u, u = shr s a := ⟨_, rfl⟩
       rw [← hu] at hya
       have hui : u ≤ inf := by rw [hu]; exact shr_le
       obtain ⟨b2, o2, e2, -, -, d2w⟩ := SlX.flo HA5.out hya
       obtain ⟨b3, o3, e3, -, -, c2w⟩ := SlX.int H5.out ha
       injection e2 with e2
       injection e2 with e2 e2'
       injection e3 with e3
       injection e3 with e3 e3'
       subst e2; subst e2'; subst e3; subst e3'
       have hV0 := HWN.out 0
       rw [World.drewN_zero] at hV0
       have d2 : V.cell? ⟨b, o + k, none⟩ = some (.float .f64 u) := by rw [hV0]; exact d2w
       have c2 : V.cell? ⟨b', o' + k, none⟩ = some (.int .i64 a) := by rw [hV0]; exact c2w
       have hki1 : (i : Int) - 1 = (k : Int) := by omega
       have hi0' : decide ((i : Int) > 0) = true := decide_eq_true (by omega)
       have hi3 : (0 : Int) < (i : Int) := by omega
       have hi4 : 0 < i := by omega
       have hkl : (k : Int) < (l.length : Int) := by omega
       clear hV0 d2w c2w ha hya hki
       by_cases hac : a ≤ c
       ·have t4 : (FloatKind.f64.format.order u y == some .gt) = false := by
         refine gt_nO hui HY.out.2 ?_
         rw [hu, HY.out.1]
         by_cases h0 : 0 < s
         ·have := shr_mono h0 (show s ≤ 4503599627370496 by omega) hia.1 hac (by omega)
          omega
         ·unfold shr; rw [if_neg h0, if_neg h0]; omega
        clear hu hui
        as_aux_lemma =>
         go_upto_region 23 with (fail)
         go_quiet (fail)
         have HW := Lib.hid (HWN.out nq)
         clear HWN
         generalize V.drewN nq = V2 at HW ⊢
         go_wp2
         go_roundw
         all_goals first
          | exact ⟨i + 1, _, _, by omega, rfl, by go_num, HX2.out, HW.out⟩
          | ((repeat apply Exists.intro); exact ⟨⟨i + 1, _, _, by omega, rfl, by go_num, HX2.out, HW.out⟩, rfl⟩)
          | (simp [intOf] <;> omega)
       ·clear hu hui
        as_aux_lemma =>
         go_upto_region 23 with (fail)
         go_quiet (fail)
         have HW := Lib.hid (HWN.out nq)
         clear HWN
         generalize V.drewN nq = V2 at HW ⊢
         go_wp2
         go_roundw
         all_goals first
          | exact ⟨i + 1, _, _, by omega, rfl, by go_num, HX2.out, HW.out⟩
          | ((repeat apply Exists.intro); exact ⟨⟨i + 1, _, _, by omega, rfl, by go_num, HX2.out, HW.out⟩, rfl⟩)
          | (simp [intOf] <;> omega)
     ·have hie : i = l.length := by omega
      have hlt' : ¬ (i : Int) < (l.length : Int) := by omega
      have hx2 : x = fsm (l.map (shr s)) := by
       rw [hx.out, hie, List.take_of_length_le (by rw [List.length_map]; exact Nat.le_refl _)]
      have HBV := Lib.hid (show Below w.heap.size w V by rw [hwr.out]; exact bDrewN HB5.out m)
      have hxi : x ≤ inf := by rw [hx2]; exact fsm_le _
      by_cases hs00 : s = 0
      ·subst hs00
       clear hx hwr hx2 hxi
       go_wp2
       go_ret
       exact ⟨rfl, HBV.out⟩
      ·have hn := all_near HS.out (by omega) (by omega) hl
       rw [← hx2] at hn
       have t1 : (FloatKind.f64.format.order x 4636737220985892110 == some .gt) = true := (gt_nn hxi (by decide)).trans (decide_eq_true hn.1)
       have t2 : (FloatKind.f64.format.order x 4636737361723380466 == some .lt) = true := (lt_nn hxi (by decide)).trans (decide_eq_true hn.2)
       clear hx hwr hx2 hxi hn
       go_wp2
       go_ret
       exact ⟨rfl, HBV.out⟩
end Go.Proofs.Ytndnfjcfpcfakaa
namespace Go.Proofs.Ytndnfjcfpcfakaa
open Go Go.RowKit Go.Wr Go.Fl
open Go.ChangeShapes Go.WideShapes Go.ChangeAt Go.Deep
set_option maxHeartbeats 4000000
set_option maxRecDepth 100000
set_option maxRecDepth 100000 in
theorem heatDoubles_lifted (os : Os) (started : os.Started) (H : Type) (enc : TypeId × Value → H) (F : Stop.Interp) :
  ReturnsInHanded {} Try.checked os 5 .any ((Rows.OpenSpec.upto Rows.heatDoublesSpec).pre6 enc Try.prog Try.f5 Rows.heatDoublesUptoRow.domain false) (((Rows.OpenSpec.upto Rows.heatDoublesSpec).at F).post enc Try.prog Try.f5 false true false false) := by
 refine returnsInHanded_of_cond (C := Try.checked) (s := Rows.OpenSpec.upto Rows.heatDoublesSpec) (k := Rows.uptoSmall) rfl own started (by kernel_rfl) Try.func5
  (OpenSpec.witness (enc := enc) (C := Try.checked) (s := Rows.OpenSpec.upto Rows.heatDoublesSpec) (k := Rows.uptoSmall) rfl false ⟨#[], #[.slice none 0 0], []⟩ 8 (by kernel_rfl) (by kernel_rfl) (by kernel_rfl)
   (x := ([.nil], [], [])) (by kernel_rfl) rfl (by kernel_rfl)) ?_
 intro W base args ds gs before hval0 hW _ hk _
 have hval : ∀ (j : Nat) t v, Try.f5.params[j]? = some t → args[j]? = some v → Value.okWide Try.prog W .any base t v := hval0
 have hW' := hW
 obtain ⟨p, q, hA0, hV, rfl, hfz, hnd⟩ := hW
 have hA : DataW.TrodAll enc Try.prog W 0 (fun _ => true) true Try.f5.params.toList args.toList ds p := hA0
 rw [Try.params5] at hA hval
 obtain ⟨v0, vs0, d0, ds0, p0, q0, hargs, rfl, rfl, h0, r0⟩ := trodAll_cons hA
 obtain ⟨rfl, rfl, rfl⟩ := trodAll_nil r0
 obtain rfl : args = #[v0] := by cases args; simp_all
 obtain ⟨rfl, rfl⟩ := trodVars_none hV
 have hz : Rows.uptoBulkAll ([d0] ++ []) ≤ 1048576 := by simpa [Rows.uptoSmall] using hk
 simp only [List.append_nil, Rows.uptoBulkAll] at hz
 have k0 := h0
 have lt0 : ∀ x ∈ p0, x.block < W.heap.size := by obtain ⟨m, hm⟩ := k0; exact DataW.trod_lt m _ _ _ hm
 obtain ⟨a0, len0, cap0, rfl⟩ := okWide_slice Try.underlying22 (hval 0 22 v0 rfl rfl)
 obtain ⟨l0, g0, z0, y0⟩ : ∃ l, SlX tI W.heap.size W (.slice a0 len0 cap0) l ∧ l.length ≤ 1048576 ∧ ∀ y ∈ l, (Lit.int .i64 y).wf = true := by
  obtain ⟨fuel, hf⟩ := h0
  exact open_intsz (x := (d0, p0)) (by simpa [Value.cells] using hf) (by show Rows.uptoBulk d0 ≤ _; omega)
 clear hA0 hval0 hval hfz hnd hk hA
 refine (doubles_ok W W.heap.size _ l0 g0 z0).mono fun e W' ⟨he, bel⟩ => ?_
 subst he
 exact ⟨_, rfl, _, _, _, [], _, [], hW', trodAll_mk1 (shut_bool Try.underlying4 _), (trodAll_cons_mk (Below.trod laidOut (by kernel_rfl) (of_decide_eq_true (by kernel_rfl)) k0 bel lt0) trodAll_mk0), rfl, bel.frame _, fun h => by cases h⟩
theorem HeatDoublesUpto_holds : Rows.HeatDoublesUptoSaid :=
 OpenClaim.holds_of_cond 5 Try.f5 rfl rfl rfl rfl rfl rfl rfl ⟨rfl, rfl, rfl, rfl, rfl⟩ rfl rfl rfl rfl rfl (by kernel_rfl) Try.func5 (by kernel_rfl)
  (of_decide_eq_true (by kernel_rfl)) (by unfold Func.isWrapper; rw [if_neg (of_decide_eq_false (by kernel_rfl))]; exact ⟨rfl, rfl⟩)
  (fun os started H enc _ F => heatDoubles_lifted os started H enc F)
#print axioms HeatDoublesUpto_holds
end Go.Proofs.Ytndnfjcfpcfakaa
