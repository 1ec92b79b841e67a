/- What the law needs, one part after another: walks of functions and plain laws. No conditions but those that each law names. -/
import Derived.Test.YtndnfjcfpcfakaaTpaf
namespace Go.Ht
open Ieee
set_option maxRecDepth 100000
def eB : Nat := 2200
def eC : Nat := 2300
theorem eB_eq : eB = 2200 := rfl
def kyD : Datum → Int
 | .number s m e => signed s m (e + 1074).toNat
 | .infinity s => if s then -(2 ^ eB : Nat) else (2 ^ eB : Nat)
 | .nan _ _ => -(2 ^ eC : Nat)
def ky (a : Nat) : Int := kyD (double.read a)
def nanB (a : Nat) : Bool := (double.read a).isNaN
theorem read_num {a : Nat} {s : Bool} {m : Nat} {e : Int} (h : double.read a = .number s m e) : m < 2 ^ 53 ∧ 0 ≤ e + 1074 ∧ e + 1074 ≤ 2046 := by
 unfold Format.read at h
 dsimp only at h
 rw [sw_eq, binade_eq, infRung_eq, lp_eq] at h
 have hr : a % 2 ^ 63 < 2 ^ 63 := Nat.mod_lt _ (by decide)
 obtain ⟨r, hr'⟩ : ∃ r, r = a % 2 ^ 63 := ⟨_, rfl⟩
 rw [← hr'] at h hr
 split at h
 ·injection h with h1 h2 h3
  omega
 ·split at h
  ·rename_i h1 h2
   injection h with h3 h4 h5
   have hm : r % 2 ^ 52 < 2 ^ 52 := Nat.mod_lt _ (by decide)
   have hi : inf = 9218868437227405312 := rfl
   omega
  ·split at h <;> cases h
theorem signed_bound {s : Bool} {m k : Nat} (hm : m < 2 ^ 53) (hk : k ≤ 2046) : -((2 ^ eB : Nat) : Int) < signed s m k ∧ signed s m k < ((2 ^ eB : Nat) : Int) := by
 have h1 : m * 2 ^ k < 2 ^ eB := by
  refine Nat.lt_of_lt_of_le (Nat.mul_lt_mul_of_pos_right hm (Nat.two_pow_pos k)) ?_
  rw [← Nat.pow_add]
  exact Nat.pow_le_pow_right (by omega) (by rw [eB_eq]; omega)
 cases s
 ·rw [signed_pos]; omega
 ·rw [signed_neg]; omega
theorem signed_add (s : Bool) (m a b : Nat) : signed s m (a + b) = signed s m a * ((2 ^ b : Nat) : Int) := by
 cases s
 ·rw [signed_pos, signed_pos, Nat.pow_add, ← Nat.mul_assoc]
  exact Int.natCast_mul _ _
 ·rw [signed_neg, signed_neg, Nat.pow_add, ← Nat.mul_assoc, Int.natCast_mul, Int.neg_mul]
theorem cmp_scale (x y : Int) (c : Nat) (hc : 0 < c) : compare (x * (c : Int)) (y * (c : Int)) = compare x y := by
 have hc' : (0 : Int) < (c : Int) := by omega
 rcases Int.lt_trichotomy x y with h | h | h
 ·rw [Int.compare_eq_lt.2 h, Int.compare_eq_lt.2 (Int.mul_lt_mul_of_pos_right h hc')]
 ·rw [h, Int.compare_eq_eq.2 rfl, Int.compare_eq_eq.2 rfl]
 ·rw [Int.compare_eq_gt.2 h, Int.compare_eq_gt.2 (Int.mul_lt_mul_of_pos_right h hc')]
theorem bB_pos : (0 : Int) < ((2 ^ eB : Nat) : Int) := by have := Nat.two_pow_pos eB; omega
theorem order_ky (a b : Nat) : double.order a b = if nanB a = true ∨ nanB b = true then none else some (compare (ky a) (ky b)) := by
 unfold Format.order nanB ky
 have hb := bB_pos
 have ha1 := @read_num a
 have ha2 := @read_num b
 generalize double.read a = x at *
 generalize double.read b = y at *
 cases x with
 | nan s t => simp [Datum.order, Datum.isNaN]
 | infinity s =>
  cases y with
  | nan s t => simp [Datum.order, Datum.isNaN]
  | infinity t =>
   simp only [Datum.order, Datum.isNaN, kyD]
   cases s <;> cases t <;> simp only [Bool.toNat_true, Bool.toNat_false, if_true, if_false, Bool.false_eq_true, or_self]
   ·rw [Int.compare_eq_eq.2 rfl]; rfl
   ·rw [Int.compare_eq_gt.2 (by omega)]; rfl
   ·rw [Int.compare_eq_lt.2 (by omega)]; rfl
   ·rw [Int.compare_eq_eq.2 rfl]; rfl
  | number t n j =>
   obtain ⟨b1, b2, b3⟩ := ha2 rfl
   obtain ⟨c1, c2⟩ := signed_bound (s := t) b1 (show (j + 1074).toNat ≤ 2046 by omega)
   simp only [Datum.order, Datum.isNaN, kyD]
   cases s <;> simp only [if_true, if_false, Bool.false_eq_true, or_self]
   ·rw [Int.compare_eq_gt.2 (by omega)]
   ·rw [Int.compare_eq_lt.2 (by omega)]
 | number s m i =>
  obtain ⟨a1, a2, a3⟩ := ha1 rfl
  obtain ⟨d1, d2⟩ := signed_bound (s := s) a1 (show (i + 1074).toNat ≤ 2046 by omega)
  cases y with
  | nan s t => simp [Datum.order, Datum.isNaN]
  | infinity t =>
   simp only [Datum.order, Datum.isNaN, kyD]
   cases t <;> simp only [if_true, if_false, Bool.false_eq_true, or_self]
   ·rw [Int.compare_eq_lt.2 (by omega)]
   ·rw [Int.compare_eq_gt.2 (by omega)]
  | number t n j =>
   obtain ⟨b1, b2, b3⟩ := ha2 rfl
   simp only [Datum.order, Datum.isNaN, kyD, Bool.false_eq_true, or_self, if_false]
   obtain ⟨c, hc⟩ : ∃ c : Nat, min i j = -1074 + (c : Int) := ⟨(min i j + 1074).toNat, by omega⟩
   rw [hc, show (i + 1074).toNat = (i - (-1074 + (c : Int))).toNat + c by omega, show (j + 1074).toNat = (j - (-1074 + (c : Int))).toNat + c by omega, signed_add, signed_add, cmp_scale _ _ _ (Nat.two_pow_pos c)]
theorem nan_low {a b : Nat} (ha : nanB a = true) (hb : nanB b = false) : ky a < ky b := by
 unfold nanB at ha hb
 unfold ky
 have ha2 := @read_num b
 have h1 := bB_pos
 have h2 : ((2 ^ eB : Nat) : Int) < ((2 ^ eC : Nat) : Int) := by
  have := Nat.pow_lt_pow_right (a := 2) (by omega) (show eB < eC by decide)
  omega
 generalize double.read a = x at *
 generalize double.read b = y at *
 cases x with
 | nan s t =>
  simp only [kyD]
  cases y with
  | nan s t => simp [Datum.isNaN] at hb
  | infinity t => simp only; split <;> omega
  | number t n j =>
   obtain ⟨b1, b2, b3⟩ := ha2 rfl
   obtain ⟨c1, c2⟩ := signed_bound (s := t) b1 (show (j + 1074).toNat ≤ 2046 by omega)
   simp only
   omega
 | infinity s => simp [Datum.isNaN] at ha
 | number s m i => simp [Datum.isNaN] at ha
theorem nan_eq {a b : Nat} (ha : nanB a = true) (hb : nanB b = true) : ky a = ky b := by
 unfold nanB at ha hb
 unfold ky
 generalize double.read a = x at *
 generalize double.read b = y at *
 cases x <;> cases y <;> simp_all [Datum.isNaN, kyD]
theorem eq_ky (a b : Nat) : (double.order a b == some .eq) = (!nanB a && !nanB b && decide (ky a = ky b)) := by
 rw [order_ky]
 cases ha : nanB a <;> cases hb : nanB b <;> simp only [Bool.false_eq_true, or_self, or_true, true_or, if_true, if_false, Bool.not_true, Bool.not_false, Bool.true_and, Bool.false_and, Bool.and_false] <;> try rfl
 rcases Int.lt_trichotomy (ky a) (ky b) with h | h | h
 ·rw [Int.compare_eq_lt.2 h, decide_eq_false (by omega)]; rfl
 ·rw [Int.compare_eq_eq.2 h, decide_eq_true h]; rfl
 ·rw [Int.compare_eq_gt.2 h, decide_eq_false (by omega)]; rfl
theorem gt_ky (a b : Nat) : (double.order a b == some .gt) = (!nanB a && !nanB b && decide (ky b < ky a)) := by
 rw [order_ky]
 cases ha : nanB a <;> cases hb : nanB b <;> simp only [Bool.false_eq_true, or_self, or_true, true_or, if_true, if_false, Bool.not_true, Bool.not_false, Bool.true_and, Bool.false_and, Bool.and_false] <;> try rfl
 rcases Int.lt_trichotomy (ky a) (ky b) with h | h | h
 ·rw [Int.compare_eq_lt.2 h, decide_eq_false (by omega)]; rfl
 ·rw [Int.compare_eq_eq.2 h, decide_eq_false (by omega)]; rfl
 ·rw [Int.compare_eq_gt.2 h, decide_eq_true h]; rfl
theorem eq_self (a : Nat) : (double.order a a == some .eq) = !nanB a := by rw [eq_ky]; simp
def cmpK (x y : Int) : Int := if y < x then -1 else if x < y then 1 else 0
theorem top_first (a b : Nat) : ((double.order a b == some .gt) || (!(double.order b b == some .eq) && (double.order a a == some .eq))) = decide (ky b < ky a) := by
 rw [gt_ky, eq_self, eq_self]
 cases ha : nanB a <;> cases hb : nanB b <;> simp only [Bool.not_true, Bool.not_false, Bool.true_and, Bool.false_and, Bool.and_false, Bool.and_true, Bool.or_false, Bool.or_true]
 ·exact (decide_eq_true (nan_low hb ha)).symm
 ·exact (decide_eq_false (by have := nan_low ha hb; omega)).symm
 ·exact (decide_eq_false (by have := nan_eq ha hb; omega)).symm
def Rk (K : Int → Int) (x y : Int) : Prop := K y < K x ∨ (K x = K y ∧ x < y)
theorem rk_ord (K : Int → Int) : Ord (Rk K) (fun y x => decide (cmpK (K y) (K x) < 0)) (fun _ => True) := by
 refine ⟨fun _ _ _ h1 h2 => ?_, fun _ _ hlt h => ?_, fun _ _ hlt h => ?_⟩
 ·unfold Rk at *; omega
 ·unfold cmpK at h
  unfold Rk
  have h := of_decide_eq_true h
  split at h
  ·left; assumption
  ·split at h <;> omega
 ·unfold cmpK at h
  unfold Rk
  have h := of_decide_eq_false h
  split at h
  ·omega
  ·omega
theorem rk_uniq {K : Int → Int} {Z Z' : List Int} (p : Z.Perm Z') (h : Z.Pairwise (Rk K)) (h' : Z'.Pairwise (Rk K)) : Z = Z' :=
 List.Perm.eq_of_pairwise (le := Rk K) (fun a b _ _ h1 h2 => by unfold Rk at h1 h2; omega) h h' p
def iot (n : Nat) : List Int := (List.range n).map fun i : Nat => (i : Int)
theorem iot_len (n : Nat) : (iot n).length = n := by simp [iot]
theorem iot_asc (n : Nat) : Asc (iot n) := by
 unfold Asc iot
 rw [List.pairwise_map]
 exact List.pairwise_lt_range.imp fun h => by omega
theorem iot_mem {n : Nat} {x : Int} : x ∈ iot n ↔ 0 ≤ x ∧ x < n := by
 unfold iot
 simp only [List.mem_map, List.mem_range]
 constructor
 ·rintro ⟨i, hi, rfl⟩; omega
 ·intro ⟨h1, h2⟩; exact ⟨x.toNat, by omega, by omega⟩
theorem ahead_rk (a b : Nat) (x y : Int) : (if (!(double.order a a == some .eq) || !(double.order b b == some .eq)) = true then ((double.order a a == some .eq) || (!(double.order b b == some .eq) && decide (x < y))) else ((double.order a b == some .gt) || ((double.order a b == some .eq) && decide (x < y)))) = decide (ky b < ky a ∨ (ky a = ky b ∧ x < y)) := by
 rw [eq_self, eq_self, gt_ky, eq_ky]
 cases ha : nanB a <;> cases hb : nanB b <;> simp
 ·exact Or.inl (nan_low hb ha)
 ·have h1 := nan_low ha hb
  exact ⟨by omega, fun h => absurd h (by omega)⟩
 ·have h1 := nan_eq ha hb
  rw [h1]
  simp
theorem take_of {K : Int → Int} : ∀ (T Z : List Int) (S : Int → Prop), Z.Pairwise (Rk K) → (∀ x, x ∈ Z ↔ S x) → T.Pairwise (Rk K) → (∀ x ∈ T, S x) → (∀ x, S x → x ∉ T → ∀ y ∈ T, Rk K y x) → T = Z.take T.length
 | [], Z, S, _, _, _, _, _ => by simp
 | t :: T, Z, S, hZ, hS, hT, hI, hO => by
  have ht : t ∈ Z := (hS t).2 (hI t (List.mem_cons_self ..))
  obtain ⟨tT, pT⟩ := List.pairwise_cons.1 hT
  cases Z with
  | nil => cases ht
  | cons z Z =>
   obtain ⟨zZ, pZ⟩ := List.pairwise_cons.1 hZ
   have hz : z = t := by
    rcases List.mem_cons.1 ht with e | e
    ·exact e.symm
    ·have h1 := zZ t e
     by_cases hzt : z = t
     ·exact hzt
     ·have h2 : Rk K t z := by
       by_cases hm : z ∈ T
       ·exact tT z hm
       ·exact hO z ((hS z).1 (List.mem_cons_self ..)) (fun h => (List.mem_cons.1 h).elim hzt hm) t (List.mem_cons_self ..)
      unfold Rk at h1 h2
      omega
   subst hz
   have hn : z ∉ Z := fun h => by have := zZ z h; unfold Rk at this; omega
   have hnT : z ∉ T := fun h => by have := tT z h; unfold Rk at this; omega
   rw [List.length_cons, List.take_succ_cons, ← take_of T Z (fun x => S x ∧ x ≠ z) pZ (fun x => ⟨fun h => ⟨(hS x).1 (List.mem_cons_of_mem _ h), fun e => hn (e ▸ h)⟩, fun h => (List.mem_cons.1 ((hS x).2 h.1)).resolve_left h.2⟩) pT (fun x h => ⟨hI x (List.mem_cons_of_mem _ h), fun e => hnT (e ▸ h)⟩)
    (fun x h hx y hy => hO x h.1 (fun e => (List.mem_cons.1 e).elim h.2 hx) y (List.mem_cons_of_mem _ hy))]
theorem some_out {T : List Int} {n : Nat} (hl : T.length < n) : ∃ x, x ∈ iot n ∧ x ∉ T := by
 refine Classical.byContradiction fun hc => ?_
 have hs : ∀ x ∈ iot n, x ∈ T := fun x hx => Classical.byContradiction fun h => hc ⟨x, hx, h⟩
 have hn : (iot n).Nodup := (iot_asc n).imp fun hr e => by subst e; omega
 have := List.Nodup.length_le_of_subset hn hs
 rw [iot_len] at this
 omega
structure TP (K : Int → Int) (n : Nat) (T : List Int) : Prop where
 so : T.Pairwise (Rk K)
 inn : ∀ x ∈ T, x ∈ iot n
 out : ∀ x, x ∈ iot n → x ∉ T → ∀ y ∈ T, Rk K y x
theorem TP.take {K : Int → Int} {n : Nat} {T Z : List Int} (h : TP K n T) (hp : Z.Perm (iot n)) (hs : Z.Pairwise (Rk K)) : T = Z.take T.length :=
 take_of T Z (fun x => x ∈ iot n) hs (fun _ => hp.mem_iff) h.so h.inn h.out
theorem TP.more {K : Int → Int} {n : Nat} {T : List Int} {b : Int} (h : TP K n T) (hb : b ∈ iot n) (hn : b ∉ T) (hf : ∀ x, x ∈ iot n → x ∉ T → x = b ∨ Rk K b x) : TP K n (T ++ [b]) := by
 refine ⟨List.pairwise_append.2 ⟨h.so, List.pairwise_singleton _ _, fun x hx y hy => ?_⟩, fun x hx => ?_, fun x hx hxn y hy => ?_⟩
 ·rw [List.mem_singleton] at hy
  subst hy
  exact h.out _ hb hn x hx
 ·rcases List.mem_append.1 hx with hx | hx
  ·exact h.inn x hx
  ·rw [List.mem_singleton] at hx
   exact hx ▸ hb
 ·have hxT : x ∉ T := fun e => hxn (List.mem_append_left _ e)
  rcases List.mem_append.1 hy with hy | hy
  ·exact h.out x hx hxT y hy
  ·rw [List.mem_singleton] at hy
   subst hy
   exact (hf x hx hxT).resolve_left fun e => hxn (List.mem_append_right _ (by rw [e]; exact List.mem_singleton.2 rfl))
def Bst (K : Int → Int) (T : List Int) (i : Nat) (b : Int) : Prop := (b = -1 ∧ ∀ x : Nat, x < i → (x : Int) ∈ T) ∨ (0 ≤ b ∧ b < i ∧ b ∉ T ∧ ∀ x : Nat, x < i → (x : Int) ∉ T → (x : Int) = b ∨ Rk K b x)
theorem Bst.had {K : Int → Int} {T : List Int} {i : Nat} {b : Int} (h : Bst K T i b) (hi : (i : Int) ∈ T) : Bst K T (i + 1) b := by
 rcases h with ⟨h1, h2⟩ | ⟨h1, h2, h3, h4⟩
 ·exact Or.inl ⟨h1, fun x hx => by
   by_cases e : x = i
   ·subst e; exact hi
   ·exact h2 x (by omega)⟩
 ·exact Or.inr ⟨h1, by omega, h3, fun x hx hn => by
   by_cases e : x = i
   ·subst e; exact absurd hi hn
   ·exact h4 x (by omega) hn⟩
theorem Bst.first {K : Int → Int} {T : List Int} {i : Nat} {b : Int} (h : Bst K T i b) (hi : (i : Int) ∉ T) (hb : b < 0) : Bst K T (i + 1) (i : Int) := by
 rcases h with ⟨_, h2⟩ | ⟨h1, _⟩
 ·exact Or.inr ⟨by omega, by omega, hi, fun x hx hn => by
   by_cases e : x = i
   ·exact Or.inl (by rw [e])
   ·exact absurd (h2 x (by omega)) hn⟩
 ·omega
theorem Bst.next {K : Int → Int} {T : List Int} {i : Nat} {b : Int} (h : Bst K T i b) (hi : (i : Int) ∉ T) (hb : 0 ≤ b) (hr : Rk K i b) : Bst K T (i + 1) (i : Int) := by
 rcases h with ⟨h1, _⟩ | ⟨h1, h2, h3, h4⟩
 ·omega
 ·exact Or.inr ⟨by omega, by omega, hi, fun x hx hn => by
   by_cases e : x = i
   ·exact Or.inl (by rw [e])
   ·refine Or.inr ?_
    rcases h4 x (by omega) hn with e2 | e2
    ·rw [e2]; exact hr
    ·unfold Rk at *; omega⟩
theorem Bst.stay {K : Int → Int} {T : List Int} {i : Nat} {b : Int} (h : Bst K T i b) (hb : 0 ≤ b) (hr : ¬ Rk K i b) : Bst K T (i + 1) b := by
 rcases h with ⟨h1, _⟩ | ⟨h1, h2, h3, h4⟩
 ·omega
 ·exact Or.inr ⟨h1, by omega, h3, fun x hx hn => by
   by_cases e : x = i
   ·right
    subst e
    unfold Rk at *
    omega
   ·exact h4 x (by omega) hn⟩
end Go.Ht
namespace Go.Proofs.Ytndnfjcfpcfakaa
open Go Go.RowKit Go.Wr Go.Fl Go.Ht
set_option maxHeartbeats 4000000
set_option maxRecDepth 1000000
structure SW (B : Nat) (w0 : World) (g n cap : Nat) (l : List Int) (w : World) : Prop where
 ex : Ex g w0 w
 ow : OwR tI B w (.slice (some ⟨g, 0, none⟩) n cap) l
section
variable {B : Nat} {w0 w : World} {g n cap : Nat} {l : List Int}
theorem SW.len (h : SW B w0 g n cap l w) : n = l.length := by
 rcases h.ow.form with ⟨e, _⟩ | ⟨g', c, e, _⟩
 ·cases e
 ·injection e
theorem SW.cell (h : SW B w0 g n cap l w) {k : Nat} {x : Int} (hk : l[k]? = some x) : w.cell? ⟨g, k, none⟩ = some (.int .i64 x) := by
 have := (h.ow.at hk).cell 0 _ rfl
 have e : 0 + k * tI.n + 0 = k := by show 0 + k * 1 + 0 = k; omega
 rw [e] at this
 exact this
theorem SW.frozen (h : SW B w0 g n cap l w) (i : Nat) : w.frozen? ⟨g, i, none⟩ = false := h.ow.frozen i
theorem SW.set (h : SW B w0 g n cap l w) {k : Nat} {x : Int} (hk : k < l.length) : SW B w0 g n cap (l.set k x) (w.setCell ⟨g, k, none⟩ (.int .i64 x)) := by
 refine ⟨h.ex.set k _, ?_⟩
 have := h.ow.set (k := k) (j := 0) (x := l[k]) (y := x) (v := .int .i64 x) (List.getElem?_eq_getElem hk) (by decide) rfl
 have e : k * tI.n + 0 = k := by show k * 1 + 0 = k; omega
 rw [e] at this
 exact this
theorem SW.drewN (h : SW B w0 g n cap l w) (k : Nat) : SW B w0 g n cap l (w.drewN k) := ⟨h.ex.drewN k, h.ow.keep fun _ _ => rfl⟩
theorem SW.drew (h : SW B w0 g n cap l w) : SW B w0 g n cap l w.drew := ⟨h.ex.drew, h.ow.drew⟩
theorem SW.two (h : SW B w0 g n cap l w) {i j : Nat} {x y : Int} (hi : i < l.length) (hj : j < l.length) : SW B w0 g n cap ((l.set i x).set j y) ((w.setCell ⟨g, i, none⟩ (.int .i64 x)).setCell ⟨g, j, none⟩ (.int .i64 y)).drew :=
 ((h.set (x := x) hi).set (x := y) (by rw [List.length_set]; exact hj)).drew
end
theorem swapRange_ok (B : Nat) (w0 w : World) (g n cap a b k : Nat) (fv : Value) (P X M Y Q : List Int) (h : SW B w0 g n cap (P ++ (X ++ (M ++ (Y ++ Q)))) w) (ha : a = P.length) (hb : b = P.length + X.length + M.length) (hk : k = X.length) (hxy : Y.length = X.length) (hn : n ≤ 70368744177664) :
  Calls Try.prog 115 #[.slice (some ⟨g, 0, none⟩) n cap, .int .i64 (a : Int), .int .i64 (b : Int), .int .i64 (k : Int), fv] w fun e w' => e = .returned (.tuple #[]) ∧ SW B w0 g n cap (P ++ (Y ++ (M ++ (X ++ Q)))) w' := by
 have mixed := mix
 have hlen := h.len
 simp only [List.length_append] at hlen
 have hbk : b + k ≤ n := by omega
 have hak : a + k ≤ n := by omega
 have HL := Lib.hid (And.intro ha (And.intro hb (And.intro hk hxy)))
 have HS := Lib.hid h
 clear h ha hb hk hxy hlen
 go_enter Try.func115, Try.ntmps115
 go_wp2
 go_loopw [10] (fun t wr => ∃ (i : Nat) (A X' C Y' : List Int), i ≤ k ∧ t = .int .i64 (i : Int) ∧ Hid (X = A ++ X' ∧ Y = C ++ Y' ∧ A.length = i ∧ C.length = i) ∧ Hid (SW B w0 g n cap (P ++ (C ++ (X' ++ (M ++ (A ++ (Y' ++ Q)))))) wr)) (fun t _ => k - (intOf t).toNat)
 case atStart => exact ⟨0, [], X, [], Y, by omega, rfl, ⟨rfl, rfl, rfl, rfl⟩, HS.out⟩
 case round =>
  clear HS
  obtain ⟨i, A, X', C, Y', hi, rfl, hE, hS⟩ := hrel
  by_cases hlt : i < k
  ·have hlt' : (i : Int) < (k : Int) := by omega
   obtain ⟨x, X2, rfl⟩ : ∃ x X2, X' = x :: X2 := by
    cases X' with
    | nil => have h1 := congrArg List.length hE.out.1; simp at h1; have := HL.out.2.2.1; have := hE.out.2.2.1; omega
    | cons x X2 => exact ⟨x, X2, rfl⟩
   obtain ⟨y, Y2, rfl⟩ : ∃ y Y2, Y' = y :: Y2 := by
    cases Y' with
    | nil => have h1 := congrArg List.length hE.out.2.1; simp at h1; have := HL.out; have := hE.out.2.2.2; omega
    | cons y Y2 => exact ⟨y, Y2, rfl⟩
   have hXl : X.length = i + 1 + X2.length := by have h1 := congrArg List.length hE.out.1; simp at h1; have := hE.out.2.2.1; omega
   obtain ⟨ga, gb⟩ := far_get P C X2 M A Y2 Q x y (a + i) (b + i) (by rw [HL.out.1, hE.out.2.2.2]) (by rw [HL.out.2.1, hXl, hE.out.2.2.1, hE.out.2.2.2]; omega)
   have hsw := swap_far P C X2 M A Y2 Q x y (a + i) (b + i) (by rw [HL.out.1, hE.out.2.2.2]) (by rw [HL.out.2.1, hXl, hE.out.2.2.1, hE.out.2.2.2]; omega)
   have hla := (List.getElem?_eq_some_iff.1 ga).1
   have hlb := (List.getElem?_eq_some_iff.1 gb).1
   obtain ⟨ai, hai⟩ : ∃ q, q = a + i := ⟨_, rfl⟩
   obtain ⟨bi, hbi⟩ : ∃ q, q = b + i := ⟨_, rfl⟩
   rw [← hai] at ga hsw hla
   rw [← hbi] at gb hsw hlb
   have c1 := hS.out.cell ga
   have c2 := hS.out.cell gb
   have f1 := hS.out.frozen ai
   have f2 := hS.out.frozen bi
   have hne : ai ≠ bi := by have := HL.out.2.1; have := HL.out.1; omega
   have e1 : ((a : Int) + (i : Int)).toNat = ai := by omega
   have e2 : ((b : Int) + (i : Int)).toNat = bi := by omega
   have hS2 := hS.out.two (x := y) (y := x) hla hlb
   rw [hsw] at hS2
   have HS2 := Lib.hid hS2
   have HE2 : Hid (X = (A ++ [x]) ++ X2 ∧ Y = (C ++ [y]) ++ Y2 ∧ (A ++ [x]).length = i + 1 ∧ (C ++ [y]).length = i + 1) := by
    refine ⟨?_, ?_, ?_, ?_⟩
    ·rw [hE.out.1]; simp
    ·rw [hE.out.2.1]; simp
    ·rw [List.length_append, hE.out.2.2.1]; rfl
    ·rw [List.length_append, hE.out.2.2.2]; rfl
   have HN := Lib.hid (And.intro hai hbi)
   have p1 : (0 : Int) ≤ (a : Int) + (i : Int) := by omega
   have p2 : (a : Int) + (i : Int) < (n : Int) := by omega
   have p3 : (0 : Int) ≤ (b : Int) + (i : Int) := by omega
   have p4 : (b : Int) + (i : Int) < (n : Int) := by omega
   have r1 : IntKind.i64.wrap ((a : Int) + (i : Int)) = (a : Int) + (i : Int) := by rw [IntKind.wrap_i64]; omega
   have r2 : IntKind.i64.wrap ((b : Int) + (i : Int)) = (b : Int) + (i : Int) := by rw [IntKind.wrap_i64]; omega
   clear hS hE hS2 hsw ga gb hla hlb hai hbi hXl
   go_wp2_with fail
   go_region_o
   go_wp2
   go_roundw
   all_goals first
    | exact ⟨i + 1, _, _, _, _, by omega, by go_num, HE2, HS2.out⟩
    | ((repeat apply Exists.intro); exact ⟨⟨i + 1, _, _, _, _, by omega, by go_num, HE2, HS2.out⟩, rfl⟩)
    | (simp [intOf] <;> omega)
  ·have hik : i = k := by omega
   have hX' : X' = [] := by have h1 := congrArg List.length hE.out.1; simp at h1; have := HL.out.2.2.1; have := hE.out.2.2.1; exact List.length_eq_zero_iff.1 (by omega)
   have hY' : Y' = [] := by have h1 := congrArg List.length hE.out.2.1; simp at h1; have := HL.out; have := hE.out.2.2.2; exact List.length_eq_zero_iff.1 (by omega)
   have HF := Lib.hid (show SW B w0 g n cap (P ++ (Y ++ (M ++ (X ++ Q)))) wr by
    have e1 := hE.out.1
    have e2 := hE.out.2.1
    rw [hX', List.append_nil] at e1
    rw [hY', List.append_nil] at e2
    have := hS.out
    rw [hX', hY', ← e1, ← e2] at this
    exact this)
   clear hX' hY' hE hS hik
   go_wp2
   go_end0
   exact ⟨rfl, HF.out⟩
theorem rotate_ok (B : Nat) (w0 w : World) (g n cap a m b : Nat) (fv : Value) (P X Y Q : List Int) (h : SW B w0 g n cap (P ++ (X ++ (Y ++ Q))) w) (ha : a = P.length) (hm : m = P.length + X.length) (hb : b = P.length + X.length + Y.length) (hX : 0 < X.length) (hY : 0 < Y.length) (hn : n ≤ 70368744177664) :
  Calls Try.prog 110 #[.slice (some ⟨g, 0, none⟩) n cap, .int .i64 (a : Int), .int .i64 (m : Int), .int .i64 (b : Int), fv] w fun e w' => e = .returned (.tuple #[]) ∧ SW B w0 g n cap (P ++ (Y ++ (X ++ Q))) w' := by
 have mixed := mix
 have hlen := h.len
 simp only [List.length_append] at hlen
 have hbn : b ≤ n := by omega
 have ham : a < m := by omega
 have hmb : m < b := by omega
 obtain ⟨fin, hfin⟩ : ∃ f, f = P ++ (Y ++ (X ++ Q)) := ⟨_, rfl⟩
 rw [← hfin]
 have HL := Lib.hid (show P.length + (m - a) = m ∧ X.length = m - a ∧ Y.length = b - m ∧ P ++ (Y ++ (X ++ Q)) = fin from ⟨by omega, by omega, by omega, hfin.symm⟩)
 have HS := Lib.hid h
 clear h ha hb hm hX hY hlen hfin
 go_enter Try.func110, Try.ntmps110
 go_wp2
 have e1 : (m : Int) - (a : Int) = ((m - a : Nat) : Int) := by omega
 have e2 : (b : Int) - (m : Int) = ((b - m : Nat) : Int) := by omega
 rw [e1, e2]
 have p1 : 0 < m - a := by omega
 have p2 : 0 < b - m := by omega
 have p3 : m + (b - m) ≤ n := by omega
 obtain ⟨i0, hi0⟩ : ∃ i, i = m - a := ⟨_, rfl⟩
 obtain ⟨j0, hj0⟩ : ∃ j, j = b - m := ⟨_, rfl⟩
 rw [← hi0] at HL p1 ⊢
 rw [← hj0] at HL p2 p3 ⊢
 have p4 : i0 ≤ m := by omega
 clear hi0 hj0 e1 e2
 go_loopw [10, 11] (fun t u wr => ∃ (i j : Nat) (P' X' Y' Q' : List Int), 0 < i ∧ 0 < j ∧ i ≤ m ∧ m + j ≤ n ∧ t = .int .i64 (i : Int) ∧ u = .int .i64 (j : Int) ∧ Hid (P'.length + i = m ∧ X'.length = i ∧ Y'.length = j ∧ P' ++ (Y' ++ (X' ++ Q')) = fin) ∧ Hid (SW B w0 g n cap (P' ++ (X' ++ (Y' ++ Q'))) wr)) (fun t u _ => (intOf t).toNat + (intOf u).toNat)
 case atStart => exact ⟨i0, j0, P, X, Y, Q, p1, p2, p4, p3, rfl, rfl, HL.out, HS.out⟩
 case round =>
  clear HS HL p1 p2 p3 p4
  obtain ⟨i, j, P', X', Y', Q', hi, hj, him, hjn, rfl, rfl, hE, hS⟩ := hrel
  obtain ⟨V, rfl⟩ : ∃ V : World, V = wr := ⟨_, rfl⟩
  have ed : (m : Int) - (i : Int) = ((m - i : Nat) : Int) := by omega
  by_cases hij : i = j
  ·subst hij
   have hH := hE.out
   go_wp2_with fail
   refine (swapRange_ok B w0 V g n cap (m - i) m i fv P' X' [] Y' Q' (by simpa using hS.out) (by omega) (by simp; omega) (by omega) (by omega) hn).mono ?_
   rintro e w1 ⟨rfl, h1⟩
   have HF := Lib.hid (show SW B w0 g n cap fin w1 by rw [← hH.2.2.2]; simpa using h1)
   clear h1 hH hE hS
   go_wp2
   go_end0
   exact ⟨rfl, HF.out⟩
  ·have hne : (i : Int) ≠ (j : Int) := by omega
   by_cases hgt : j < i
   ·have hgt' : (j : Int) < (i : Int) := by omega
    obtain ⟨X1, X2, rfl, hx1⟩ := cut_at X' j (by rw [hE.out.2.1]; omega)
    have hH := hE.out
    have hl := hH.2.1
    rw [List.length_append, hx1] at hl
    have HX := Lib.hid (And.intro hH (And.intro hx1 hl))
    clear hH hl hx1 hE
    go_wp2_with fail
    refine (swapRange_ok B w0 V g n cap (m - i) m j fv P' X1 X2 Y' Q' (by simpa using hS.out) (by have := HX.out; omega) (by have := HX.out; omega) (by have := HX.out; omega) (by have := HX.out; omega) hn).mono ?_
    rintro e w1 ⟨rfl, h1⟩
    have H1 := Lib.hid (show SW B w0 g n cap ((P' ++ Y') ++ (X2 ++ (X1 ++ Q'))) w1 by simpa using h1)
    have H2 : Hid ((P' ++ Y').length + (i - j) = m ∧ X2.length = i - j ∧ X1.length = j ∧ (P' ++ Y') ++ (X1 ++ (X2 ++ Q')) = fin) := by
     obtain ⟨⟨k1, k2, k3, k4⟩, k5, k6⟩ := HX.out
     refine ⟨by rw [List.length_append]; omega, by omega, k5, ?_⟩
     rw [← k4]; simp
    have ei : (i : Int) - (j : Int) = ((i - j : Nat) : Int) := by omega
    clear h1 HX hS
    go_wp2
    go_roundw
    all_goals first
     | exact ⟨i - j, j, _, _, _, _, by omega, hj, by omega, hjn, by rw [← ei], rfl, H2, H1.out⟩
     | ((repeat apply Exists.intro); exact ⟨⟨i - j, j, _, _, _, _, by omega, hj, by omega, hjn, by rw [← ei], rfl, H2, H1.out⟩, rfl⟩)
     | (simp [intOf] <;> omega)
   ·have hgt' : ¬ (j : Int) < (i : Int) := by omega
    obtain ⟨Y1, Y2, rfl, hy1⟩ := cut_at Y' (j - i) (by rw [hE.out.2.2.1]; omega)
    have hH := hE.out
    have hl := hH.2.2.1
    rw [List.length_append, hy1] at hl
    have HX := Lib.hid (And.intro hH (And.intro hy1 hl))
    clear hH hl hy1 hE
    have ej : (m : Int) + (j : Int) - (i : Int) = ((m + j - i : Nat) : Int) := by omega
    go_wp2_with fail
    refine (swapRange_ok B w0 V g n cap (m - i) (m + j - i) i fv P' X' Y1 Y2 Q' (by simpa using hS.out) (by have := HX.out; omega) (by have := HX.out; omega) (by have := HX.out; omega) (by have := HX.out; omega) hn).mono ?_
    rintro e w1 ⟨rfl, h1⟩
    have H1 := Lib.hid (show SW B w0 g n cap (P' ++ (Y2 ++ (Y1 ++ (X' ++ Q')))) w1 from h1)
    have H2 : Hid (P'.length + i = m ∧ Y2.length = i ∧ Y1.length = j - i ∧ P' ++ (Y1 ++ (Y2 ++ (X' ++ Q'))) = fin) := by
     obtain ⟨⟨k1, k2, k3, k4⟩, k5, k6⟩ := HX.out
     refine ⟨by omega, by omega, k5, ?_⟩
     rw [← k4]; simp
    have ei : (j : Int) - (i : Int) = ((j - i : Nat) : Int) := by omega
    clear h1 HX hS
    go_wp2
    go_roundw
    all_goals first
     | exact ⟨i, j - i, _, _, _, _, hi, by omega, by omega, by omega, rfl, by rw [← ei], H2, H1.out⟩
     | ((repeat apply Exists.intro); exact ⟨⟨i, j - i, _, _, _, _, hi, by omega, by omega, by omega, rfl, by rw [← ei], H2, H1.out⟩, rfl⟩)
     | (simp [intOf] <;> omega)
structure Cmp (gf : Nat) (cv : Value) (cf : Int → Int → Int) (D : Int → Prop) (w0 : World) (g : Nat) : Prop where
 eg : ∀ args w, (callFunc gf args).run Try.prog w = .ok (.enter gf args) w
 ok : ∀ (x y : Int) (w : World), D x → D y → Ex g w0 w → Calls Try.prog gf #[.int .i64 x, .int .i64 y, cv] w fun e w' => e = .returned (.int .i64 (cf x y)) ∧ ∃ m, w' = w.drewN m
theorem insertion_ok (B : Nat) (w0 w : World) (g n cap a b gf : Nat) (cv : Value) (cf : Int → Int → Int) (D : Int → Prop) (R : Int → Int → Prop) (C : Cmp gf cv cf D w0 g) (O : Ord R (fun y x => decide (cf y x < 0)) D) (P X Q : List Int)
  (h : SW B w0 g n cap (P ++ (X ++ Q)) w) (ha : a = P.length) (hb : b = P.length + X.length) (hD : Al D X) (hA : Asc X) (hn : n ≤ 70368744177664) :
  Calls Try.prog 96 #[.slice (some ⟨g, 0, none⟩) n cap, .int .i64 (a : Int), .int .i64 (b : Int), .func (.func gf) #[] #[cv]] w fun e w' => e = .returned (.tuple #[]) ∧ ∃ Z, Z.Perm X ∧ Z.Pairwise R ∧ SW B w0 g n cap (P ++ (Z ++ Q)) w' := by
 have mixed := mix
 have eg := C.eg
 have hlen := h.len
 simp only [List.length_append] at hlen
 have hbn : b ≤ n := by omega
 have hab : a ≤ b := by omega
 have HC := Lib.hid C
 have HO := Lib.hid O
 have HL := Lib.hid (And.intro ha (And.intro hb (And.intro hD hA)))
 have HS := Lib.hid h
 clear h ha hb hlen hD hA C O
 go_enter Try.func96, Try.ntmps96
 go_wp2
 go_loopw [8, 9] (fun t _ wr => ∃ (i : Nat) (X1 Z Y : List Int), i ≤ b + 1 ∧ t = .int .i64 (i : Int) ∧ Hid (X = X1 ++ Y ∧ Z.Perm X1 ∧ Z.Pairwise R ∧ (a + Z.length = i ∨ (X = [] ∧ i = a + 1))) ∧ Hid (SW B w0 g n cap (P ++ (Z ++ (Y ++ Q))) wr)) (fun t _ _ => b + 1 - (intOf t).toNat)
 case atStart =>
  cases X with
  | nil => exact ⟨a + 1, [], [], [], by omega, by go_num, ⟨rfl, List.Perm.refl _, List.Pairwise.nil, Or.inr ⟨rfl, rfl⟩⟩, HS.out⟩
  | cons x X => exact ⟨a + 1, [x], [x], X, by omega, by go_num, ⟨rfl, List.Perm.refl _, List.pairwise_singleton _ _, Or.inl rfl⟩, HS.out⟩
 case round =>
  clear HS
  obtain ⟨i, X1, Z, Y, hi, rfl, hE, hS⟩ := hrel
  by_cases hlt : i < b
  ·have hlt' : (i : Int) < (b : Int) := by omega
   have hz : a + Z.length = i := by
    rcases hE.out.2.2.2 with h | ⟨h, h2⟩
    ·exact h
    ·have h3 := HL.out.2.1; rw [h] at h3; simp at h3; have := HL.out.1; omega
   obtain ⟨y, Y', rfl⟩ : ∃ y Y', Y = y :: Y' := by
    cases Y with
    | nil => have h1 := hE.out.2.1.length_eq; have h2 := congrArg List.length hE.out.1; simp at h2; have := HL.out; omega
    | cons y Y' => exact ⟨y, Y', rfl⟩
   have hAsc := HL.out.2.2.2
   rw [hE.out.1] at hAsc
   obtain ⟨as1, as2, as3⟩ := Asc.app hAsc
   have hDX := HL.out.2.2.1
   rw [hE.out.1] at hDX
   have hDZ : Al D Z := (hDX.app.1).perm hE.out.2.1
   have hDy : D y := hDX.app.2 y (List.mem_cons_self ..)
   have hZy : ∀ s ∈ Z, s < y := fun s hs => as3 s (hE.out.2.1.subset hs) y (List.mem_cons_self ..)
   have HZ := Lib.hid (And.intro hDZ (And.intro hDy (And.intro hZy hE.out)))
   have hai : a ≤ i := by omega
   have hZl := Lib.hid hz
   clear hAsc as1 as2 as3 hDX hDZ hDy hZy hE hz
   go_wp2
   go_loopw [9] (fun t wr' => ∃ (j : Nat) (Z1 Z2 : List Int), a ≤ j ∧ j ≤ i ∧ t = .int .i64 (j : Int) ∧ Hid (Z = Z1 ++ Z2 ∧ a + Z1.length = j ∧ ∀ v ∈ Z2, R y v) ∧ Hid (SW B w0 g n cap ((P ++ Z1) ++ y :: (Z2 ++ (Y' ++ Q))) wr')) (fun t _ => (intOf t).toNat)
   case atStart => exact ⟨i, Z, [], hai, Nat.le_refl _, rfl, ⟨(List.append_nil Z).symm, hZl.out, fun v hv => (by cases hv)⟩, Lib.hid (by simpa using hS.out)⟩
   case round =>
    clear hS
    obtain ⟨j, Z1, Z2, haj, hji, rfl, hE, hS⟩ := hrel
    obtain ⟨V, rfl⟩ : ∃ V : World, V = wr := ⟨_, rfl⟩
    -- where it stops
    have out : ∀ w', SW B w0 g n cap ((P ++ Z1) ++ y :: (Z2 ++ (Y' ++ Q))) w' → (Z1 = [] ∨ ∃ A s, Z1 = A ++ [s] ∧ R s y) → ∃ (i' : Nat) (X1' Z' Y'' : List Int), i' ≤ b + 1 ∧ Value.int .i64 ((i : Int) + 1) = .int .i64 (i' : Int) ∧ Hid (X = X1' ++ Y'' ∧ Z'.Perm X1' ∧ Z'.Pairwise R ∧ (a + Z'.length = i' ∨ (X = [] ∧ i' = a + 1))) ∧ Hid (SW B w0 g n cap (P ++ (Z' ++ (Y'' ++ Q))) w') := fun w' hw hst => by
     obtain ⟨q1, q2, q3, q4, q5, q6, q7⟩ := HZ.out
     obtain ⟨e1, e2, e3⟩ := hE.out
     have hs0 : (Z1 ++ Z2).Pairwise R := by rw [← e1]; exact q6
     have hd0 : Al D (Z1 ++ Z2) := by rw [← e1]; exact q1
     have hz2 := hZl.out
     rw [e1, List.length_append] at hz2
     refine ⟨i + 1, X1 ++ [y], Z1 ++ y :: Z2, Y', by omega, by go_num, ⟨by rw [q4]; simp, ?_, srt_put hs0 (all_ahead HO.out (List.pairwise_append.1 hs0).1 hd0.app.1 q2 hst) e3, Or.inl ?_⟩, Lib.hid (by simpa using hw)⟩
     ·refine List.perm_middle.trans ?_
      rw [← e1]
      exact (List.Perm.cons y q5).trans (List.perm_append_singleton y X1).symm
     ·rw [List.length_append, List.length_cons]; omega
    have OUT := Lib.hid out
    clear out
    by_cases hja : a < j
    ·obtain ⟨jp, rfl⟩ : ∃ q, j = q + 1 := ⟨j - 1, by omega⟩
     have hjaz : (a : Int) < (jp : Int) + 1 := by omega
     have hjad : decide ((jp : Int) + 1 > (a : Int)) = true := decide_eq_true (by omega)
     obtain ⟨A, s, rfl⟩ : ∃ A s, Z1 = A ++ [s] := by
      have hne : Z1 ≠ [] := fun e => by have := hE.out.2.1; rw [e] at this; simp at this; omega
      exact ⟨_, _, (List.dropLast_concat_getLast hne).symm⟩
     have hAl : P.length + A.length = jp := by have := hE.out.2.1; rw [List.length_append] at this; simp at this; have := HL.out.1; omega
     have hcur : (P ++ (A ++ [s])) ++ y :: (Z2 ++ (Y' ++ Q)) = (P ++ A) ++ s :: y :: (Z2 ++ (Y' ++ Q)) := by simp
     have hSs := hS.out
     rw [hcur] at hSs
     have g1 : ((P ++ A) ++ s :: y :: (Z2 ++ (Y' ++ Q)))[jp]? = some s := get_mid _ _ _ _ (by rw [List.length_append]; omega)
     have g2 : ((P ++ A) ++ s :: y :: (Z2 ++ (Y' ++ Q)))[jp + 1]? = some y := by
      have e : (P ++ A) ++ s :: y :: (Z2 ++ (Y' ++ Q)) = (P ++ A ++ [s]) ++ y :: (Z2 ++ (Y' ++ Q)) := by simp
      rw [e]
      exact get_mid _ _ _ _ (by simp only [List.length_append, List.length_singleton]; omega)
     have hsZ : s ∈ Z := by rw [hE.out.1]; simp
     have hDs : D s := HZ.out.1 s hsZ
     have hsy : s < y := HZ.out.2.2.1 s hsZ
     obtain ⟨iN, hiN⟩ : ∃ q, q = jp + 1 := ⟨_, rfl⟩
     obtain ⟨kN, hkN⟩ : ∃ q, q = jp := ⟨_, rfl⟩
     rw [← hiN] at g2
     rw [← hkN] at g1
     have hl1 := (List.getElem?_eq_some_iff.1 g1).1
     have hl2 := (List.getElem?_eq_some_iff.1 g2).1
     have hln := hSs.len
     have c1 := hSs.cell g1
     have c2 := hSs.cell g2
     have f1 := hSs.frozen kN
     have f2 := hSs.frozen iN
     have ea : ((jp : Int) + 1).toNat = iN := by omega
     have pa : (0 : Int) ≤ (jp : Int) + 1 := by omega
     have ba : (jp : Int) + 1 < (n : Int) := by omega
     have ra : IntKind.i64.wrap ((jp : Int) + 1) = (jp : Int) + 1 := by rw [IntKind.wrap_i64]; omega
     have ec : ((jp : Int)).toNat = kN := by omega
     have pc : (0 : Int) ≤ (jp : Int) := by omega
     have bc : (jp : Int) < (n : Int) := by omega
     have rc : IntKind.i64.wrap ((jp : Int)) = (jp : Int) := by rw [IntKind.wrap_i64]; omega
     have hne : iN ≠ kN := by omega
     have hcmp := fun k => HC.out.ok y s (V.drewN k) HZ.out.2.1 hDs (hSs.drewN k).ex
     have hH := Lib.hid (And.intro hAl (And.intro hsy (And.intro hDs (And.intro hl1 (And.intro hl2 (And.intro hiN hkN))))))
     have HSs := Lib.hid hSs
     clear hS hSs hcur hAl hsZ hDs hsy g1 g2 hl1 hl2 hln hiN hkN
     by_cases hlv : cf y s < 0
     ·have hd : decide (cf y s < 0) = true := decide_eq_true hlv
      go_wp2_with fail
      go_quiet (first | (go_at_fn gf; exact Calls.quiet_of (hcmp _)))
      have HS2 := Lib.hid (HSs.out.drewN nq)
      obtain ⟨V2, hV2⟩ : ∃ x, x = V.drewN nq := ⟨_, rfl⟩
      have c1' : V2.cell? ⟨g, kN, none⟩ = some (.int .i64 s) := by rw [hV2]; exact c1
      have c2' : V2.cell? ⟨g, iN, none⟩ = some (.int .i64 y) := by rw [hV2]; exact c2
      have f1' : V2.frozen? ⟨g, kN, none⟩ = false := by rw [hV2]; exact f1
      have f2' : V2.frozen? ⟨g, iN, none⟩ = false := by rw [hV2]; exact f2
      rw [← hV2] at HS2 ⊢
      clear hV2 c1 c2 f1 f2 hcmp HSs hd
      have HS3 := Lib.hid (show SW B w0 g n cap ((P ++ A) ++ y :: ((s :: Z2) ++ (Y' ++ Q))) ((V2.setCell ⟨g, iN, none⟩ (.int .i64 s)).setCell ⟨g, kN, none⟩ (.int .i64 y)).drew by
       obtain ⟨k1, k2, k3, k4, k5, k6, k7⟩ := hH.out
       have := HS2.out.two (x := s) (y := y) k5 k4
       rw [k6, k7, swap_mid (P ++ A) (Z2 ++ (Y' ++ Q)) s y jp (by rw [List.length_append]; omega)] at this
       rw [k6, k7]
       exact this)
      have HE3 : Hid (Z = A ++ (s :: Z2) ∧ a + A.length = jp ∧ ∀ v ∈ s :: Z2, R y v) := by
       obtain ⟨k1, k2, k3, k4, k5, k6, k7⟩ := hH.out
       refine ⟨by rw [hE.out.1]; simp, by have := HL.out.1; omega, fun v hv => ?_⟩
       rcases List.mem_cons.1 hv with rfl | hv
       ·exact HO.out.yes k3 HZ.out.2.1 k2 (decide_eq_true hlv)
       ·exact hE.out.2.2 v hv
      have hjp : a ≤ jp := by omega
      have hji' : jp ≤ i := by omega
      clear HS2 hE OUT hH hlv
      go_wp2_with fail
      go_region_o
      go_wp2
      go_roundw
      all_goals first
       | exact ⟨jp, A, s :: Z2, hjp, hji', by go_num, HE3, HS3.out⟩
       | ((repeat apply Exists.intro); exact ⟨⟨jp, A, s :: Z2, hjp, hji', by go_num, HE3, HS3.out⟩, rfl⟩)
       | (simp [intOf] <;> omega)
     ·have hd : decide (cf y s < 0) = false := decide_eq_false hlv
      go_wp2_with fail
      go_quiet (first | (go_at_fn gf; exact Calls.quiet_of (hcmp _)))
      have hq := OUT.out (V.drewN nq) (by rw [show (P ++ (A ++ [s])) ++ y :: (Z2 ++ (Y' ++ Q)) = (P ++ A) ++ s :: y :: (Z2 ++ (Y' ++ Q)) by simp]; exact HSs.out.drewN nq) (Or.inr ⟨A, s, rfl, HO.out.no hH.out.2.2.1 HZ.out.2.1 hH.out.2.1 (decide_eq_false (by omega))⟩)
      have HQ := Lib.hid hq
      clear hq OUT c1 c2 f1 f2 hcmp HSs hd hE hH hlv
      generalize V.drewN nq = V2 at HQ ⊢
      go_wp2
      go_roundw
      all_goals first
       | exact HQ.out
       | ((repeat apply Exists.intro); exact ⟨HQ.out, rfl⟩)
       | (simp [intOf] <;> omega)
    ·have hjad : decide ((j : Int) > (a : Int)) = false := decide_eq_false (by omega)
     have hjad' : ¬ (a : Int) < (j : Int) := by omega
     have hZ1 : Z1 = [] := List.length_eq_zero_iff.1 (by have := hE.out.2.1; omega)
     have HQ0 := Lib.hid (fun k => OUT.out (V.drewN k) (hS.out.drewN k) (Or.inl hZ1))
     clear hZ1 hE hS OUT
     go_wp2_with fail
     go_quiet (fail)
     have HQ := Lib.hid (HQ0.out nq)
     clear HQ0
     generalize V.drewN nq = V2 at HQ ⊢
     go_wp2
     go_roundw
     all_goals first
      | exact HQ.out
      | ((repeat apply Exists.intro); exact ⟨HQ.out, rfl⟩)
      | (simp [intOf] <;> omega)
  ·have hlt' : ¬ (i : Int) < (b : Int) := by omega
   have HF := Lib.hid (show ∃ Z, Z.Perm X ∧ Z.Pairwise R ∧ SW B w0 g n cap (P ++ (Z ++ Q)) wr by
    obtain ⟨e1, e2, e3, e4⟩ := hE.out
    have hY : Y = [] := by
     have h1 := congrArg List.length e1
     rw [List.length_append] at h1
     have h2 := e2.length_eq
     have h3 := HL.out.2.1
     have h4 := HL.out.1
     refine List.length_eq_zero_iff.1 ?_
     rcases e4 with h | ⟨h, _⟩
     ·omega
     ·rw [h] at h1; simp at h1; omega
    have hS' := hS.out
    rw [hY] at hS' e1
    rw [List.append_nil] at e1
    exact ⟨Z, by rw [e1]; exact e2, e3, hS'⟩)
   clear hE hS
   go_wp2
   go_end0
   exact ⟨rfl, HF.out⟩
end Go.Proofs.Ytndnfjcfpcfakaa
namespace Go.Proofs.Ytndnfjcfpcfakaa
open Go Go.RowKit Go.Wr Go.Fl Go.Ht
set_option maxHeartbeats 4000000
set_option maxRecDepth 1000000
theorem symMerge_one (B : Nat) (w0 w : World) (g n cap a m b gf : Nat) (cv : Value) (cf : Int → Int → Int) (D : Int → Prop) (R : Int → Int → Prop) (C : Cmp gf cv cf D w0 g) (O : Ord R (fun y x => decide (cf y x < 0)) D) (P Y Q : List Int) (x : Int)
  (h : SW B w0 g n cap (P ++ (x :: (Y ++ Q))) w) (ha : a = P.length) (hm : m = a + 1) (hb : b = a + 1 + Y.length) (hx : D x) (hD : Al D Y) (hB : ∀ y ∈ Y, x < y) (hY : Y.Pairwise R) (hn : n ≤ 70368744177664) :
  Calls Try.prog 97 #[.slice (some ⟨g, 0, none⟩) n cap, .int .i64 (a : Int), .int .i64 (m : Int), .int .i64 (b : Int), .func (.func gf) #[] #[cv]] w fun e w' => e = .returned (.tuple #[]) ∧ ∃ Z, Z.Perm (x :: Y) ∧ Z.Pairwise R ∧ SW B w0 g n cap (P ++ (Z ++ Q)) w' := by
 have mixed := mix
 have eg := C.eg
 have hlen := h.len
 simp only [List.length_append, List.length_cons] at hlen
 have hbn : b ≤ n := by omega
 have hab : a + 1 ≤ b := by omega
 have hma : (m : Int) - (a : Int) = 1 := by omega
 have HC := Lib.hid C
 have HO := Lib.hid O
 have HL := Lib.hid (And.intro ha (And.intro hb (And.intro hm (And.intro hx (And.intro hD (And.intro hB hY))))))
 have HS := Lib.hid h
 have hmb : m ≤ b := by omega
 have ham : a < m := by omega
 clear h ha hb hlen hD hB C O hx hY hm
 go_enter Try.func97, Try.ntmps97
 go_wp2
 go_loopw [10, 11, 12] (fun t u _ wr => ∃ (i j : Nat), m ≤ i ∧ i ≤ j ∧ j ≤ b ∧ t = .int .i64 (i : Int) ∧ u = .int .i64 (j : Int) ∧ Hid (i = m ∨ ∃ y, Y[i - 1 - m]? = some y ∧ R y x) ∧ Hid (j = b ∨ ∃ y, Y[j - m]? = some y ∧ R x y) ∧ Hid (SW B w0 g n cap (P ++ (x :: (Y ++ Q))) wr)) (fun t u _ _ => (intOf u).toNat - (intOf t).toNat)
 case atStart => exact ⟨m, b, Nat.le_refl _, hmb, Nat.le_refl _, rfl, rfl, Or.inl rfl, Or.inl rfl, HS.out⟩
 case round =>
  clear HS
  obtain ⟨i, j, hmi, hij, hjb, rfl, rfl, h1, h2, hS⟩ := hrel
  obtain ⟨V, rfl⟩ : ∃ V : World, V = wr := ⟨_, rfl⟩
  by_cases hlt : i < j
  ·have hlt' : (i : Int) < (j : Int) := by omega
   obtain ⟨q, hq⟩ : ∃ q, q = (i + j) / 2 := ⟨_, rfl⟩
   have eh : ((i : Int) + (j : Int)) / 2 = (q : Int) := by omega
   have hiq : i ≤ q := by omega
   have hqj : q < j := by omega
   clear hq
   obtain ⟨y, hy⟩ : ∃ y, Y[q - m]? = some y := ⟨_, List.getElem?_eq_getElem (by have := HL.out; omega)⟩
   have gx : (P ++ (x :: (Y ++ Q)))[a]? = some x := get_mid _ _ _ _ HL.out.1
   have gy : (P ++ (x :: (Y ++ Q)))[q]? = some y := by
    rw [← hy]
    exact get_Y P [x] Y Q q (q - m) (by have := HL.out; simp only [List.length_singleton]; omega) (by have := HL.out; omega)
   have hyY : y ∈ Y := List.mem_of_getElem? hy
   have c1 := hS.out.cell gx
   have c2 := hS.out.cell gy
   have hxy : x < y := HL.out.2.2.2.2.2.1 y hyY
   have hDy : D y := HL.out.2.2.2.2.1 y hyY
   have hcmp := fun k => HC.out.ok y x (V.drewN k) hDy HL.out.2.2.2.1 (hS.out.drewN k).ex
   have HY := Lib.hid (And.intro hy (And.intro hxy hDy))
   have qn : (q : Int) < (n : Int) := by omega
   have an : (a : Int) < (n : Int) := by omega
   clear gx gy hyY hxy hDy hy
   by_cases hlv : cf y x < 0
   ·have hd : decide (cf y x < 0) = true := decide_eq_true hlv
    have HR1 : Hid (q + 1 = m ∨ ∃ y, Y[q + 1 - 1 - m]? = some y ∧ R y x) := Or.inr ⟨y, by rw [Nat.add_sub_cancel]; exact HY.out.1, HO.out.yes HL.out.2.2.2.1 HY.out.2.2 HY.out.2.1 (decide_eq_true hlv)⟩
    clear HY h1
    go_wp2_with fail
    go_quiet (first | (go_at_fn gf; exact Calls.quiet_of (hcmp _)))
    have HS2 := Lib.hid (hS.out.drewN nq)
    clear hS c1 c2 hcmp
    generalize V.drewN nq = V2 at HS2 ⊢
    go_wp2
    go_roundw
    all_goals first
     | exact ⟨q + 1, j, by omega, by omega, hjb, by go_num, rfl, HR1, h2, HS2.out⟩
     | ((repeat apply Exists.intro); exact ⟨⟨q + 1, j, by omega, by omega, hjb, by go_num, rfl, HR1, h2, HS2.out⟩, rfl⟩)
     | (simp [intOf] <;> omega)
   ·have hd : decide (cf y x < 0) = false := decide_eq_false hlv
    have HR2 : Hid (q = b ∨ ∃ y, Y[q - m]? = some y ∧ R x y) := Or.inr ⟨y, HY.out.1, HO.out.no HL.out.2.2.2.1 HY.out.2.2 HY.out.2.1 (decide_eq_false hlv)⟩
    clear HY h2
    go_wp2_with fail
    go_quiet (first | (go_at_fn gf; exact Calls.quiet_of (hcmp _)))
    have HS2 := Lib.hid (hS.out.drewN nq)
    clear hS c1 c2 hcmp
    generalize V.drewN nq = V2 at HS2 ⊢
    go_wp2
    go_roundw
    all_goals first
     | exact ⟨i, q, hmi, by omega, by omega, rfl, rfl, h1, HR2, HS2.out⟩
     | ((repeat apply Exists.intro); exact ⟨⟨i, q, hmi, by omega, by omega, rfl, rfl, h1, HR2, HS2.out⟩, rfl⟩)
     | (simp [intOf] <;> omega)
  ·have hije : j = i := by omega
   subst hije
   obtain ⟨Y1, Y2, rfl, hy1⟩ := cut_at Y (j - m) (by have := HL.out; omega)
   obtain ⟨l1, l2, l3, l4, l5, l6, l7⟩ := HL.out
   have k1 : ∀ u ∈ Y1, R u x := by
    refine all_ahead HO.out (List.pairwise_append.1 l7).1 l5.app.1 l4 ?_
    rcases h1.out with e | ⟨y, e1, e2⟩
    ·exact Or.inl (List.length_eq_zero_iff.1 (by omega))
    ·by_cases h0 : Y1 = []
     ·exact Or.inl h0
     ·obtain ⟨A', e3⟩ := cut_last Y1 Y2 (j - 1 - m) y (by have := List.length_pos_iff.2 h0; omega) e1
      exact Or.inr ⟨A', y, e3, e2⟩
   have k2 : ∀ u ∈ Y2, R x u := by
    refine all_behind HO.out (List.pairwise_append.1 l7).2.1 l5.app.2 l4 ?_
    rcases h2.out with e | ⟨y, e1, e2⟩
    ·rw [List.length_append] at l2
     exact Or.inl (List.length_eq_zero_iff.1 (by omega))
    ·obtain ⟨B', e3⟩ := cut_first Y1 Y2 (j - m) y hy1 e1
     exact Or.inr ⟨y, B', e3, e2⟩
   have HF := Lib.hid (show (Y1 ++ x :: Y2).Perm (x :: (Y1 ++ Y2)) ∧ (Y1 ++ x :: Y2).Pairwise R from ⟨List.perm_middle, srt_put l7 k1 k2⟩)
   have hy2 : Y1.length + m = j := by omega
   have hyl : m + Y1.length + Y2.length ≤ n := by rw [List.length_append] at l2; omega
   have HA := Lib.hid (And.intro hy2 (And.intro l1 l3))
   clear k1 k2 l1 l2 l3 l4 l5 l6 l7 h1 h2 hy1 hy2 HO HC hlt hij
   go_wp2
   go_loopw [13] (fun t wr => ∃ (k : Nat) (A E : List Int), a ≤ k ∧ k + 1 ≤ j ∧ t = .int .i64 (k : Int) ∧ Hid (Y1 = A ++ E ∧ a + A.length = k) ∧ Hid (SW B w0 g n cap ((P ++ A) ++ x :: (E ++ (Y2 ++ Q))) wr)) (fun t _ => j - (intOf t).toNat)
   case atStart => exact ⟨a, [], Y1, Nat.le_refl _, by omega, rfl, ⟨rfl, rfl⟩, Lib.hid (by simpa using hS.out)⟩
   case round =>
    clear hS
    obtain ⟨k, A, E, hak, hkj, rfl, hE, hS⟩ := hrel
    obtain ⟨W, rfl⟩ : ∃ V : World, V = wr := ⟨_, rfl⟩
    by_cases hk : k + 1 < j
    ·have hk' : (k : Int) < (j : Int) - 1 := by omega
     obtain ⟨y, E', rfl⟩ : ∃ y E', E = y :: E' := by
      cases E with
      | nil => have h1 := congrArg List.length hE.out.1; rw [List.append_nil] at h1; have := HA.out; have := hE.out.2; omega
      | cons y E' => exact ⟨y, E', rfl⟩
     have hkl : k = (P ++ A).length := by rw [List.length_append]; have := HA.out; have := hE.out.2; omega
     have g1 : ((P ++ A) ++ x :: y :: (E' ++ (Y2 ++ Q)))[k]? = some x := get_mid _ _ _ _ hkl
     have g2 : ((P ++ A) ++ x :: y :: (E' ++ (Y2 ++ Q)))[k + 1]? = some y := by
      have e : (P ++ A) ++ x :: y :: (E' ++ (Y2 ++ Q)) = (P ++ A ++ [x]) ++ y :: (E' ++ (Y2 ++ Q)) := by simp
      rw [e]
      exact get_mid _ _ _ _ (by rw [List.length_append, ← hkl]; rfl)
     have hsw := swap_mid' (P ++ A) (E' ++ (Y2 ++ Q)) x y k hkl
     have hSs : SW B w0 g n cap ((P ++ A) ++ x :: y :: (E' ++ (Y2 ++ Q))) W := hS.out
     have hln := hSs.len
     obtain ⟨iN, hiN⟩ : ∃ q, q = k + 1 := ⟨_, rfl⟩
     obtain ⟨kN, hkN⟩ : ∃ q, q = k := ⟨_, rfl⟩
     rw [← hiN] at g2
     rw [← hkN] at g1
     have hl1 := (List.getElem?_eq_some_iff.1 g1).1
     have hl2 := (List.getElem?_eq_some_iff.1 g2).1
     have c1 := hSs.cell g1
     have c2 := hSs.cell g2
     have f1 := hSs.frozen kN
     have f2 := hSs.frozen iN
     have ea : ((k : Int) + 1).toNat = iN := by omega
     have pa : (0 : Int) ≤ (k : Int) + 1 := by omega
     have ba : (k : Int) + 1 < (n : Int) := by omega
     have ra : IntKind.i64.wrap ((k : Int) + 1) = (k : Int) + 1 := by rw [IntKind.wrap_i64]; omega
     have ec : ((k : Int)).toNat = kN := by omega
     have pc : (0 : Int) ≤ (k : Int) := by omega
     have bc : (k : Int) < (n : Int) := by omega
     have hne : kN ≠ iN := by omega
     have HS3 := Lib.hid (show SW B w0 g n cap ((P ++ (A ++ [y])) ++ x :: (E' ++ (Y2 ++ Q))) ((W.setCell ⟨g, kN, none⟩ (.int .i64 y)).setCell ⟨g, iN, none⟩ (.int .i64 x)).drew by
      have := hSs.two (x := y) (y := x) hl1 hl2
      rw [hkN, hiN, hsw] at this
      rw [hkN, hiN]
      simpa using this)
     have HE3 : Hid (Y1 = (A ++ [y]) ++ E' ∧ a + (A ++ [y]).length = k + 1) := ⟨by rw [hE.out.1]; simp, by rw [List.length_append]; have := hE.out.2; simp; omega⟩
     clear hS hE hSs g1 g2 hsw hkl hln hl1 hl2 hiN hkN
     go_wp2_with fail
     go_region_o
     go_wp2
     go_roundw
     all_goals first
      | exact ⟨k + 1, _, _, by omega, by omega, by go_num, HE3, HS3.out⟩
      | ((repeat apply Exists.intro); exact ⟨⟨k + 1, _, _, by omega, by omega, by go_num, HE3, HS3.out⟩, rfl⟩)
      | (simp [intOf] <;> omega)
    ·have hk' : ¬ (k : Int) < (j : Int) - 1 := by omega
     have HG := Lib.hid (show SW B w0 g n cap (P ++ ((Y1 ++ x :: Y2) ++ Q)) W by
      obtain ⟨e1, e2⟩ := hE.out
      have hE0 : E = [] := by
       have h1 := congrArg List.length e1
       rw [List.length_append] at h1
       have := HA.out
       exact List.length_eq_zero_iff.1 (by omega)
      rw [hE0, List.append_nil] at e1
      have := hS.out
      rw [hE0, ← e1] at this
      simpa using this)
     clear hE hS hk
     go_wp2
     (try simp only [Exit.inBlock, Exit.then])
     refine bodyPost_ret (results_none rfl _ _ _) rfl ?_
     exact ⟨rfl, _, HF.out.1, HF.out.2, HG.out⟩
theorem symMerge_last (B : Nat) (w0 w : World) (g n cap a m b gf : Nat) (cv : Value) (cf : Int → Int → Int) (D : Int → Prop) (R : Int → Int → Prop) (C : Cmp gf cv cf D w0 g) (O : Ord R (fun y x => decide (cf y x < 0)) D) (P X Q : List Int) (y : Int)
  (h : SW B w0 g n cap (P ++ (X ++ (y :: Q))) w) (ha : a = P.length) (hm : m = a + X.length) (hb : b = m + 1) (hX2 : 2 ≤ X.length) (hy : D y) (hD : Al D X) (hB : ∀ x ∈ X, x < y) (hX : X.Pairwise R) (hn : n ≤ 70368744177664) :
  Calls Try.prog 97 #[.slice (some ⟨g, 0, none⟩) n cap, .int .i64 (a : Int), .int .i64 (m : Int), .int .i64 (b : Int), .func (.func gf) #[] #[cv]] w fun e w' => e = .returned (.tuple #[]) ∧ ∃ Z, Z.Perm (X ++ [y]) ∧ Z.Pairwise R ∧ SW B w0 g n cap (P ++ (Z ++ Q)) w' := by
 have mixed := mix
 have eg := C.eg
 have hlen := h.len
 simp only [List.length_append, List.length_cons] at hlen
 have hbn : b ≤ n := by omega
 have hbm : (b : Int) - (m : Int) = 1 := by omega
 have hma : ¬ (m : Int) - (a : Int) = 1 := by omega
 have hmab : (((m : Int) - (a : Int)) == 1) = false := by simpa using hma
 have HC := Lib.hid C
 have HO := Lib.hid O
 have HL := Lib.hid (And.intro ha (And.intro hm (And.intro hy (And.intro hD (And.intro hB hX)))))
 have HS := Lib.hid h
 have ham : a ≤ m := by omega
 have hmb : m + 1 = b := by omega
 clear h ha hb hlen hD hB C O hy hX hm hX2
 go_enter Try.func97, Try.ntmps97
 go_wp2
 go_loopw [14, 15, 16] (fun t u _ wr => ∃ (i j : Nat), a ≤ i ∧ i ≤ j ∧ j ≤ m ∧ t = .int .i64 (i : Int) ∧ u = .int .i64 (j : Int) ∧ Hid (i = a ∨ ∃ s, X[i - 1 - a]? = some s ∧ R s y) ∧ Hid (j = m ∨ ∃ s, X[j - a]? = some s ∧ R y s) ∧ Hid (SW B w0 g n cap (P ++ (X ++ (y :: Q))) wr)) (fun t u _ _ => (intOf u).toNat - (intOf t).toNat)
 case atStart => exact ⟨a, m, Nat.le_refl _, ham, Nat.le_refl _, rfl, rfl, Or.inl rfl, Or.inl rfl, HS.out⟩
 case round =>
  clear HS
  obtain ⟨i, j, hai, hij, hjm, rfl, rfl, h1, h2, hS⟩ := hrel
  obtain ⟨V, rfl⟩ : ∃ V : World, V = wr := ⟨_, rfl⟩
  by_cases hlt : i < j
  ·have hlt' : (i : Int) < (j : Int) := by omega
   obtain ⟨q, hq⟩ : ∃ q, q = (i + j) / 2 := ⟨_, rfl⟩
   have eh : ((i : Int) + (j : Int)) / 2 = (q : Int) := by omega
   have hiq : i ≤ q := by omega
   have hqj : q < j := by omega
   clear hq
   obtain ⟨s, hs⟩ : ∃ s, X[q - a]? = some s := ⟨_, List.getElem?_eq_getElem (by have := HL.out; omega)⟩
   have gy : (P ++ (X ++ (y :: Q)))[m]? = some y := by
    rw [← List.append_assoc]
    exact get_mid _ _ _ _ (by rw [List.length_append]; have := HL.out; omega)
   have gs : (P ++ (X ++ (y :: Q)))[q]? = some s := by
    rw [← hs]
    exact get_X P X (y :: Q) q (q - a) (by have := HL.out; omega) (by have := HL.out; omega)
   have hsX : s ∈ X := List.mem_of_getElem? hs
   have c1 := hS.out.cell gy
   have c2 := hS.out.cell gs
   have hsy : s < y := HL.out.2.2.2.2.1 s hsX
   have hDs : D s := HL.out.2.2.2.1 s hsX
   have hcmp := fun k => HC.out.ok y s (V.drewN k) HL.out.2.2.1 hDs (hS.out.drewN k).ex
   have HY := Lib.hid (And.intro hs (And.intro hsy hDs))
   have qn : (q : Int) < (n : Int) := by omega
   have mn : (m : Int) < (n : Int) := by omega
   clear gy gs hsX hsy hDs hs
   by_cases hlv : cf y s < 0
   ·have hd : decide (cf y s < 0) = true := decide_eq_true hlv
    have HR2 : Hid (q = m ∨ ∃ s, X[q - a]? = some s ∧ R y s) := Or.inr ⟨s, HY.out.1, HO.out.yes HY.out.2.2 HL.out.2.2.1 HY.out.2.1 (decide_eq_true hlv)⟩
    clear HY h2
    go_wp2_with fail
    go_quiet (first | (go_at_fn gf; exact Calls.quiet_of (hcmp _)))
    have HS2 := Lib.hid (hS.out.drewN nq)
    clear hS c1 c2 hcmp
    generalize V.drewN nq = V2 at HS2 ⊢
    go_wp2
    go_roundw
    all_goals first
     | exact ⟨i, q, hai, by omega, by omega, rfl, rfl, h1, HR2, HS2.out⟩
     | ((repeat apply Exists.intro); exact ⟨⟨i, q, hai, by omega, by omega, rfl, rfl, h1, HR2, HS2.out⟩, rfl⟩)
     | (simp [intOf] <;> omega)
   ·have hd : decide (cf y s < 0) = false := decide_eq_false hlv
    have HR1 : Hid (q + 1 = a ∨ ∃ s, X[q + 1 - 1 - a]? = some s ∧ R s y) := Or.inr ⟨s, by rw [Nat.add_sub_cancel]; exact HY.out.1, HO.out.no HY.out.2.2 HL.out.2.2.1 HY.out.2.1 (decide_eq_false hlv)⟩
    clear HY h1
    go_wp2_with fail
    go_quiet (first | (go_at_fn gf; exact Calls.quiet_of (hcmp _)))
    have HS2 := Lib.hid (hS.out.drewN nq)
    clear hS c1 c2 hcmp
    generalize V.drewN nq = V2 at HS2 ⊢
    go_wp2
    go_roundw
    all_goals first
     | exact ⟨q + 1, j, by omega, by omega, hjm, by go_num, rfl, HR1, h2, HS2.out⟩
     | ((repeat apply Exists.intro); exact ⟨⟨q + 1, j, by omega, by omega, hjm, by go_num, rfl, HR1, h2, HS2.out⟩, rfl⟩)
     | (simp [intOf] <;> omega)
  ·have hije : j = i := by omega
   subst hije
   obtain ⟨X1, X2, rfl, hx1⟩ := cut_at X (j - a) (by have := HL.out; omega)
   obtain ⟨l1, l2, l3, l4, l5, l6⟩ := HL.out
   rw [List.length_append] at l2
   have k1 : ∀ u ∈ X1, R u y := by
    refine all_ahead HO.out (List.pairwise_append.1 l6).1 l4.app.1 l3 ?_
    rcases h1.out with e | ⟨s, e1, e2⟩
    ·exact Or.inl (List.length_eq_zero_iff.1 (by omega))
    ·by_cases h0 : X1 = []
     ·exact Or.inl h0
     ·obtain ⟨A', e3⟩ := cut_last X1 X2 (j - 1 - a) s (by have := List.length_pos_iff.2 h0; omega) e1
      exact Or.inr ⟨A', s, e3, e2⟩
   have k2 : ∀ u ∈ X2, R y u := by
    refine all_behind HO.out (List.pairwise_append.1 l6).2.1 l4.app.2 l3 ?_
    rcases h2.out with e | ⟨s, e1, e2⟩
    ·exact Or.inl (List.length_eq_zero_iff.1 (by omega))
    ·obtain ⟨B', e3⟩ := cut_first X1 X2 (j - a) s hx1 e1
     exact Or.inr ⟨s, B', e3, e2⟩
   have HF := Lib.hid (show (X1 ++ y :: X2).Perm ((X1 ++ X2) ++ [y]) ∧ (X1 ++ y :: X2).Pairwise R from ⟨List.perm_middle.trans (List.perm_append_singleton y (X1 ++ X2)).symm, srt_put l6 k1 k2⟩)
   have HA := Lib.hid (And.intro (show P.length + X1.length = j by omega) (show j + X2.length = m by omega))
   clear k1 k2 l1 l2 l3 l4 l5 l6 h1 h2 hx1 HO HC hlt hij HL
   go_wp2
   go_loopw [17] (fun t wr => ∃ (k : Nat) (A E : List Int), j ≤ k ∧ k ≤ m ∧ t = .int .i64 (k : Int) ∧ Hid (X2 = A ++ E ∧ j + A.length = k) ∧ Hid (SW B w0 g n cap (((P ++ X1) ++ A) ++ y :: (E ++ Q)) wr)) (fun t _ => (intOf t).toNat)
   case atStart => exact ⟨m, X2, [], hjm, Nat.le_refl _, rfl, ⟨(List.append_nil _).symm, HA.out.2⟩, Lib.hid (by simpa using hS.out)⟩
   case round =>
    clear hS
    obtain ⟨k, A, E, hjk, hkm, rfl, hE, hS⟩ := hrel
    obtain ⟨W, rfl⟩ : ∃ V : World, V = wr := ⟨_, rfl⟩
    by_cases hk : j < k
    ·obtain ⟨kp, rfl⟩ : ∃ q, k = q + 1 := ⟨k - 1, by omega⟩
     have hk' : (j : Int) < (kp : Int) + 1 := by omega
     have hk2 : decide ((kp : Int) + 1 > (j : Int)) = true := decide_eq_true (by omega)
     obtain ⟨A', s, rfl⟩ : ∃ A' s, A = A' ++ [s] := by
      have hne : A ≠ [] := fun e => by have := hE.out.2; rw [e] at this; simp at this; omega
      exact ⟨_, _, (List.dropLast_concat_getLast hne).symm⟩
     have hkl : kp = ((P ++ X1) ++ A').length := by
      have h1 := hE.out.2
      rw [List.length_append] at h1
      simp at h1
      rw [List.length_append, List.length_append]
      have := HA.out
      omega
     have hcur : ((P ++ X1) ++ (A' ++ [s])) ++ y :: (E ++ Q) = ((P ++ X1) ++ A') ++ s :: y :: (E ++ Q) := by simp
     have hSs := hS.out
     rw [hcur] at hSs
     have g1 : (((P ++ X1) ++ A') ++ s :: y :: (E ++ Q))[kp]? = some s := get_mid _ _ _ _ hkl
     have g2 : (((P ++ X1) ++ A') ++ s :: y :: (E ++ Q))[kp + 1]? = some y := by
      have e : ((P ++ X1) ++ A') ++ s :: y :: (E ++ Q) = (((P ++ X1) ++ A') ++ [s]) ++ y :: (E ++ Q) := by simp
      rw [e]
      exact get_mid _ _ _ _ (by rw [List.length_append, ← hkl]; rfl)
     have hsw := swap_mid ((P ++ X1) ++ A') (E ++ Q) s y kp hkl
     have hln := hSs.len
     obtain ⟨iN, hiN⟩ : ∃ q, q = kp + 1 := ⟨_, rfl⟩
     obtain ⟨kN, hkN⟩ : ∃ q, q = kp := ⟨_, rfl⟩
     rw [← hiN] at g2
     rw [← hkN] at g1
     have hl1 := (List.getElem?_eq_some_iff.1 g1).1
     have hl2 := (List.getElem?_eq_some_iff.1 g2).1
     have c1 := hSs.cell g1
     have c2 := hSs.cell g2
     have f1 := hSs.frozen kN
     have f2 := hSs.frozen iN
     have ea : ((kp : Int) + 1).toNat = iN := by omega
     have pa : (0 : Int) ≤ (kp : Int) + 1 := by omega
     have ba : (kp : Int) + 1 < (n : Int) := by omega
     have ra : IntKind.i64.wrap ((kp : Int) + 1) = (kp : Int) + 1 := by rw [IntKind.wrap_i64]; omega
     have ec : ((kp : Int)).toNat = kN := by omega
     have pc : (0 : Int) ≤ (kp : Int) := by omega
     have bc : (kp : Int) < (n : Int) := by omega
     have rc : IntKind.i64.wrap ((kp : Int)) = (kp : Int) := by rw [IntKind.wrap_i64]; omega
     have hne : iN ≠ kN := by omega
     have HS3 := Lib.hid (show SW B w0 g n cap (((P ++ X1) ++ A') ++ y :: ((s :: E) ++ Q)) ((W.setCell ⟨g, iN, none⟩ (.int .i64 s)).setCell ⟨g, kN, none⟩ (.int .i64 y)).drew by
      have := hSs.two (x := s) (y := y) hl2 hl1
      rw [hkN, hiN, hsw] at this
      rw [hkN, hiN]
      exact this)
     have HE3 : Hid (X2 = A' ++ (s :: E) ∧ j + A'.length = kp) := ⟨by rw [hE.out.1]; simp, by have h1 := hE.out.2; rw [List.length_append] at h1; simp at h1; omega⟩
     have hjk2 : j ≤ kp := by omega
     clear hS hE hSs g1 g2 hsw hkl hln hl1 hl2 hiN hkN hcur
     go_wp2_with fail
     go_region_o
     go_wp2
     go_roundw
     all_goals first
      | exact ⟨kp, _, _, hjk2, by omega, by go_num, HE3, HS3.out⟩
      | ((repeat apply Exists.intro); exact ⟨⟨kp, _, _, hjk2, by omega, by go_num, HE3, HS3.out⟩, rfl⟩)
      | (simp [intOf] <;> omega)
    ·have hk' : ¬ (j : Int) < (k : Int) := by omega
     have HG := Lib.hid (show SW B w0 g n cap (P ++ ((X1 ++ y :: X2) ++ Q)) W by
      obtain ⟨e1, e2⟩ := hE.out
      have hA0 : A = [] := List.length_eq_zero_iff.1 (by omega)
      rw [hA0, List.nil_append] at e1
      have := hS.out
      rw [hA0, ← e1] at this
      simpa using this)
     clear hE hS hk
     go_wp2
     (try simp only [Exit.inBlock, Exit.then])
     refine bodyPost_ret (results_none rfl _ _ _) rfl ?_
     exact ⟨rfl, _, by have := HF.out.1; rw [List.append_assoc] at this; simpa using this, HF.out.2, HG.out⟩
def Mg (N : Nat) (B : Nat) (w0 : World) (g n cap gf : Nat) (cv : Value) (D : Int → Prop) (R : Int → Int → Prop) : Prop :=
 ∀ (w : World) (a m b : Nat) (P X Y Q : List Int), SW B w0 g n cap (P ++ (X ++ (Y ++ Q))) w → a = P.length → m = a + X.length → b = m + Y.length → 0 < X.length → 0 < Y.length → b - a ≤ N → Al D X → Al D Y → Bef X Y → X.Pairwise R → Y.Pairwise R →
  Calls Try.prog 97 #[.slice (some ⟨g, 0, none⟩) n cap, .int .i64 (a : Int), .int .i64 (m : Int), .int .i64 (b : Int), .func (.func gf) #[] #[cv]] w fun e w' => e = .returned (.tuple #[]) ∧ ∃ Z, Z.Perm (X ++ Y) ∧ Z.Pairwise R ∧ SW B w0 g n cap (P ++ (Z ++ Q)) w'
theorem perm4 (A B C E : List Int) : ((A ++ B) ++ (C ++ E)).Perm ((A ++ C) ++ (B ++ E)) := by
 rw [List.append_assoc, List.append_assoc]
 refine List.Perm.append_left A ?_
 rw [← List.append_assoc, ← List.append_assoc]
 exact List.Perm.append_right E List.perm_append_comm
theorem symMerge_main (N : Nat) (B : Nat) (w0 w : World) (g n cap a m b gf s0 r0 q : Nat) (cv : Value) (cf : Int → Int → Int) (D : Int → Prop) (R : Int → Int → Prop) (C : Cmp gf cv cf D w0 g) (O : Ord R (fun y x => decide (cf y x < 0)) D) (M : Mg N B w0 g n cap gf cv D R) (P X Y Q : List Int)
  (h : SW B w0 g n cap (P ++ (X ++ (Y ++ Q))) w) (ha : a = P.length) (hm : m = a + X.length) (hb : b = m + Y.length) (hX2 : 2 ≤ X.length) (hY2 : 2 ≤ Y.length) (hN : b - a ≤ N + 1) (hDX : Al D X) (hDY : Al D Y) (hB : Bef X Y) (hX : X.Pairwise R) (hY : Y.Pairwise R) (hn : n ≤ 70368744177664)
  (hq : q = (a + b) / 2) (hc : (q < m ∧ s0 + b = q + m ∧ r0 = q) ∨ (m ≤ q ∧ s0 = a ∧ r0 = m)) :
  Calls Try.prog 97 #[.slice (some ⟨g, 0, none⟩) n cap, .int .i64 (a : Int), .int .i64 (m : Int), .int .i64 (b : Int), .func (.func gf) #[] #[cv]] w fun e w' => e = .returned (.tuple #[]) ∧ ∃ Z, Z.Perm (X ++ Y) ∧ Z.Pairwise R ∧ SW B w0 g n cap (P ++ (Z ++ Q)) w' := by
 have mixed := mix
 have eg := C.eg
 have hlen := h.len
 simp only [List.length_append] at hlen
 have hbn : b ≤ n := by omega
 have hma : ¬ (m : Int) - (a : Int) = 1 := by omega
 have hmab : (((m : Int) - (a : Int)) == 1) = false := by simpa using hma
 have hbm : ¬ (b : Int) - (m : Int) = 1 := by omega
 have hbmb : (((b : Int) - (m : Int)) == 1) = false := by simpa using hbm
 have eq0 : ((a : Int) + (b : Int)) / 2 = (q : Int) := by omega
 have F1 : a ≤ s0 ∧ s0 ≤ r0 ∧ r0 ≤ m ∧ q + m ≤ b + s0 ∧ r0 ≤ q ∧ (s0 = a ∨ q + m = b + s0) ∧ (r0 = m ∨ r0 = q) := by omega
 have F2 : a < q ∧ q < b ∧ a < m ∧ m < b := by omega
 have HC := Lib.hid C
 have HO := Lib.hid O
 have HM := Lib.hid M
 have HL := Lib.hid (show a = P.length ∧ m = a + X.length ∧ b = m + Y.length ∧ Al D X ∧ Al D Y ∧ Bef X Y ∧ X.Pairwise R ∧ Y.Pairwise R ∧ b - a ≤ N + 1 from ⟨ha, hm, hb, hDX, hDY, hB, hX, hY, hN⟩)
 have HS := Lib.hid h
 obtain ⟨f1, f2, f3, f4, f5, f6, f7⟩ := F1
 obtain ⟨t1, t2, t3, t4⟩ := F2
 have HF := Lib.hid (And.intro f6 f7)
 clear h ha hb hlen hDX hDY hB C O M hX hY hm hX2 hY2 hN hq f6 f7
 go_enter Try.func97, Try.ntmps97
 go_upto_region 27 with (fail)
 have HV := Lib.hid (show ((s0 : Int) = (q : Int) + (m : Int) - (b : Int) ∧ (r0 : Int) = (q : Int)) ∨ ((s0 : Int) = (a : Int) ∧ (r0 : Int) = (m : Int)) by omega)
 rcases hc with ⟨c1, c2, c3⟩ | ⟨c1, c2, c3⟩
 ·have c1' : (m : Int) > (q : Int) := by omega
  have c1d : decide ((m : Int) > (q : Int)) = true := decide_eq_true c1'
  have es : (q : Int) + (m : Int) - (b : Int) = (s0 : Int) := by omega
  have er : (r0 : Int) = (q : Int) := by omega
  have HE := Lib.hid (show (∀ x : Int, x = (s0 : Int) → Value.int .i64 x = .int .i64 (s0 : Int)) ∧ Value.int .i64 (q : Int) = .int .i64 (r0 : Int) ∧ Value.int .i64 (a : Int) = .int .i64 (a : Int) from ⟨fun x hx => by rw [hx], by rw [er], rfl⟩)
  clear c1 c2 c3 er
  go_upto_region 32 with (fail)
  go_wp2
  clear es c1' c1d
  go_loopw [20, 21, 23] (fun t u _ wr => ∃ (i j : Nat), s0 ≤ i ∧ i ≤ j ∧ j ≤ r0 ∧ t = .int .i64 (i : Int) ∧ u = .int .i64 (j : Int) ∧ Hid (i = s0 ∨ ∃ x y, X[i - 1 - a]? = some x ∧ Y[q + m - i - m]? = some y ∧ R x y) ∧ Hid (j = r0 ∨ ∃ x y, X[j - a]? = some x ∧ Y[q + m - 1 - j - m]? = some y ∧ R y x) ∧ Hid (SW B w0 g n cap (P ++ (X ++ (Y ++ Q))) wr)) (fun t u _ _ => (intOf u).toNat - (intOf t).toNat)
  case atStart => exact ⟨s0, r0, Nat.le_refl _, f2, Nat.le_refl _, rfl, HE.out.2.1, Or.inl rfl, Or.inl rfl, HS.out⟩
  case round => as_aux_lemma =>
   clear HE
   clear HS HV
   obtain ⟨i, j, hsi, hij, hjr, rfl, rfl, h1, h2, hS⟩ := hrel
   obtain ⟨V, rfl⟩ : ∃ V : World, V = wr := ⟨_, rfl⟩
   by_cases hlt : i < j
   ·have hlt' : (i : Int) < (j : Int) := by omega
    obtain ⟨k, hk⟩ : ∃ k, k = (i + j) / 2 := ⟨_, rfl⟩
    have eh : ((i : Int) + (j : Int)) / 2 = (k : Int) := by omega
    have hik : i ≤ k := by omega
    have hkj : k < j := by omega
    clear hk
    obtain ⟨z, hz⟩ : ∃ z, z = q + m - 1 - k := ⟨_, rfl⟩
    have ez : (q : Int) + (m : Int) - 1 - (k : Int) = (z : Int) := by omega
    obtain ⟨x, hx⟩ : ∃ x, X[k - a]? = some x := ⟨_, List.getElem?_eq_getElem (by have := HL.out; omega)⟩
    obtain ⟨y, hy⟩ : ∃ y, Y[z - m]? = some y := ⟨_, List.getElem?_eq_getElem (by have := HL.out; omega)⟩
    have gx : (P ++ (X ++ (Y ++ Q)))[k]? = some x := by
     rw [← hx]
     exact get_X P X (Y ++ Q) k (k - a) (by have := HL.out; omega) (by have := HL.out; omega)
    have gy : (P ++ (X ++ (Y ++ Q)))[z]? = some y := by
     rw [← hy]
     exact get_Y P X Y Q z (z - m) (by have := HL.out; omega) (by have := HL.out; omega)
    have hxX : x ∈ X := List.mem_of_getElem? hx
    have hyY : y ∈ Y := List.mem_of_getElem? hy
    have cc1 := hS.out.cell gx
    have cc2 := hS.out.cell gy
    have hxy : x < y := HL.out.2.2.2.2.2.1 x hxX y hyY
    have hDx : D x := HL.out.2.2.2.1 x hxX
    have hDy : D y := HL.out.2.2.2.2.1 y hyY
    have hcmp := fun k => HC.out.ok y x (V.drewN k) hDy hDx (hS.out.drewN k).ex
    have HY := Lib.hid (show X[k - a]? = some x ∧ Y[q + m - 1 - k - m]? = some y ∧ x < y ∧ D x ∧ D y from ⟨hx, by rw [← hz]; exact hy, hxy, hDx, hDy⟩)
    have kn : (k : Int) < (n : Int) := by omega
    have zn : (z : Int) < (n : Int) := by omega
    clear gx gy hxX hyY hxy hDx hDy hx hy hz
    by_cases hlv : cf y x < 0
    ·have hd : decide (cf y x < 0) = true := decide_eq_true hlv
     have HR2 : Hid (k = r0 ∨ ∃ x y, X[k - a]? = some x ∧ Y[q + m - 1 - k - m]? = some y ∧ R y x) := Or.inr ⟨x, y, HY.out.1, HY.out.2.1, HO.out.yes HY.out.2.2.2.1 HY.out.2.2.2.2 HY.out.2.2.1 (decide_eq_true hlv)⟩
     clear HY h2
     go_wp2_with fail
     go_quiet (first | (go_at_fn gf; exact Calls.quiet_of (hcmp _)))
     have HS2 := Lib.hid (hS.out.drewN nq)
     clear hS cc1 cc2 hcmp
     generalize V.drewN nq = V2 at HS2 ⊢
     go_wp2
     go_roundw
     all_goals first
      | exact ⟨i, k, hsi, by omega, by omega, rfl, rfl, h1, HR2, HS2.out⟩
      | ((repeat apply Exists.intro); exact ⟨⟨i, k, hsi, by omega, by omega, rfl, rfl, h1, HR2, HS2.out⟩, rfl⟩)
      | (simp [intOf] <;> omega)
    ·have hd : decide (cf y x < 0) = false := decide_eq_false hlv
     have HR1 : Hid (k + 1 = s0 ∨ ∃ x y, X[k + 1 - 1 - a]? = some x ∧ Y[q + m - (k + 1) - m]? = some y ∧ R x y) := Or.inr ⟨x, y, by rw [Nat.add_sub_cancel]; exact HY.out.1, by rw [show q + m - (k + 1) = q + m - 1 - k by omega]; exact HY.out.2.1, HO.out.no HY.out.2.2.2.1 HY.out.2.2.2.2 HY.out.2.2.1 (decide_eq_false hlv)⟩
     clear HY h1
     go_wp2_with fail
     go_quiet (first | (go_at_fn gf; exact Calls.quiet_of (hcmp _)))
     have HS2 := Lib.hid (hS.out.drewN nq)
     clear hS cc1 cc2 hcmp
     generalize V.drewN nq = V2 at HS2 ⊢
     go_wp2
     go_roundw
     all_goals first
      | exact ⟨k + 1, j, by omega, by omega, hjr, by go_num, rfl, HR1, h2, HS2.out⟩
      | ((repeat apply Exists.intro); exact ⟨⟨k + 1, j, by omega, by omega, hjr, by go_num, rfl, HR1, h2, HS2.out⟩, rfl⟩)
      | (simp [intOf] <;> omega)
   ·have hije : j = i := by omega
    subst hije
    obtain ⟨e, he⟩ : ∃ e, e = q + m - j := ⟨_, rfl⟩
    have ee : (q : Int) + (m : Int) - (j : Int) = (e : Int) := by omega
    obtain ⟨X1, X2, rfl, hx1⟩ := cut_at X (j - a) (by have := HL.out; omega)
    obtain ⟨Y1, Y2, rfl, hy1⟩ := cut_at Y (e - m) (by have := HL.out; omega)
    obtain ⟨l1, l2, l3, l4, l5, l6, l7, l8, l9⟩ := HL.out
    rw [List.length_append] at l2 l3
    have k1 : X1 = [] ∨ Y2 = [] ∨ ∃ A s t B, X1 = A ++ [s] ∧ Y2 = t :: B ∧ R s t := by
     by_cases z1 : X1 = []
     ·exact Or.inl z1
     ·rcases h1.out with e0 | ⟨x, y, e1, e2, e3⟩
      ·rcases HF.out.1 with e4 | e4
       ·exact Or.inl (List.length_eq_zero_iff.1 (by omega))
       ·exact Or.inr (Or.inl (List.length_eq_zero_iff.1 (by omega)))
      ·obtain ⟨A, e5⟩ := cut_last X1 X2 (j - 1 - a) x (by have := List.length_pos_iff.2 z1; omega) e1
       obtain ⟨B', e6⟩ := cut_first Y1 Y2 (q + m - j - m) y (by omega) e2
       exact Or.inr (Or.inr ⟨A, x, y, B', e5, e6, e3⟩)
    have k2 : X2 = [] ∨ Y1 = [] ∨ ∃ A s t B, Y1 = A ++ [s] ∧ X2 = t :: B ∧ R s t := by
     by_cases z1 : Y1 = []
     ·exact Or.inr (Or.inl z1)
     ·rcases h2.out with e0 | ⟨x, y, e1, e2, e3⟩
      ·rcases HF.out.2 with e4 | e4
       ·exact Or.inl (List.length_eq_zero_iff.1 (by omega))
       ·exact Or.inr (Or.inl (List.length_eq_zero_iff.1 (by omega)))
      ·obtain ⟨A, e5⟩ := cut_last Y1 Y2 (q + m - 1 - j - m) y (by have := List.length_pos_iff.2 z1; omega) e2
       obtain ⟨B', e6⟩ := cut_first X1 X2 (j - a) x hx1 e1
       exact Or.inr (Or.inr ⟨A, y, x, B', e5, e6, e3⟩)
    have HK := Lib.hid (cut_ahead HO.out l7 l8 l4 l5 k1 k2)
    have HN := Lib.hid (show a = P.length ∧ X1.length = j - a ∧ X2.length = m - j ∧ Y1.length = e - m ∧ Y2.length = b - e from ⟨l1, hx1, by omega, hy1, by omega⟩)
    have HP := Lib.hid (show Al D X1 ∧ Al D X2 ∧ Al D Y1 ∧ Al D Y2 ∧ Bef X1 Y1 ∧ Bef X2 Y2 ∧ X1.Pairwise R ∧ X2.Pairwise R ∧ Y1.Pairwise R ∧ Y2.Pairwise R from
     ⟨l4.app.1, l4.app.2, l5.app.1, l5.app.2, fun x hx y hy => l6 x (List.mem_append_left _ hx) y (List.mem_append_left _ hy), fun x hx y hy => l6 x (List.mem_append_right _ hx) y (List.mem_append_right _ hy), (List.pairwise_append.1 l7).1, (List.pairwise_append.1 l7).2.1, (List.pairwise_append.1 l8).1, (List.pairwise_append.1 l8).2.1⟩)
    have haj : a ≤ j := by omega
    have hjm : j ≤ m := by omega
    have hme : m ≤ e := by omega
    have heb : e ≤ b := by omega
    have heq : q + m = e + j := by omega
    have hNN : b - a ≤ N + 1 := l9
    clear k1 k2 l1 l2 l3 l4 l5 l6 l7 l8 l9 h1 h2 hx1 hy1 he hlt hij hsi hjr HL HF f1 f2 f3 f4 f5
    go_upto_region 39 with (fail)
    go_cut [185] (fun t wc => t = .bool (decide (j < m ∧ m < e)) ∧ V = wc)
    case first => as_aux_lemma =>
     by_cases r1 : j < m
     ·have r1' : (j : Int) < (m : Int) := by omega
      by_cases r2 : m < e
      ·have r2' : (m : Int) < (e : Int) := by omega
       go_wp2
       go_meet
       case rel => exact ⟨by simp [r1, r2], rfl⟩
      ·have r2' : ¬ (m : Int) < (e : Int) := by omega
       go_wp2
       go_meet
       case rel => exact ⟨by simp [r2], rfl⟩
     ·have r1' : ¬ (j : Int) < (m : Int) := by omega
      go_wp2
      go_meet
      case rel => exact ⟨by simp [r1], rfl⟩
    case rest => as_aux_lemma =>
     obtain ⟨rfl, rfl⟩ := hcut
     go_upto_if 185 with (fail)
     go_cut [24] from 144 (fun t wc => t = .int .i64 (e : Int) ∧ Hid (SW B w0 g n cap (P ++ (X1 ++ (Y1 ++ (X2 ++ (Y2 ++ Q))))) wc))
     case first => as_aux_lemma =>
      by_cases hr : j < m ∧ m < e
      ·have hd : decide (j < m ∧ m < e) = true := decide_eq_true hr
       go_wp2_with fail
       refine (rotate_ok B w0 V g n cap j m e _ (P ++ X1) X2 Y1 (Y2 ++ Q) (by simpa using hS.out) (by rw [List.length_append]; have := HN.out; omega) (by rw [List.length_append]; have := HN.out; omega) (by rw [List.length_append]; have := HN.out; omega) (by have := HN.out; omega) (by have := HN.out; omega) hn).mono ?_
       rintro e' w1 ⟨rfl, h1⟩
       have H1 := Lib.hid (show SW B w0 g n cap (P ++ (X1 ++ (Y1 ++ (X2 ++ (Y2 ++ Q))))) w1 by simpa using h1)
       clear h1 hS
       go_wp2
       go_meet
       case rel => exact ⟨rfl, H1.out⟩
      ·have hd : decide (j < m ∧ m < e) = false := decide_eq_false hr
       have H1 := Lib.hid (show SW B w0 g n cap (P ++ (X1 ++ (Y1 ++ (X2 ++ (Y2 ++ Q))))) V by
        have hz : X2 = [] ∨ Y1 = [] := by
         by_cases z : X2 = []
         ·exact Or.inl z
         ·have := List.length_pos_iff.2 z
          exact Or.inr (List.length_eq_zero_iff.1 (by have := HN.out; omega))
        have := hS.out
        rcases hz with z | z <;> rw [z] at this ⊢ <;> simpa using this)
       clear hS
       go_wp2
       go_meet
       case rel => exact ⟨rfl, H1.out⟩
     case rest => as_aux_lemma =>
      obtain ⟨rfl, H1⟩ := hcut
      obtain ⟨V1, rfl⟩ : ∃ x : World, x = wc := ⟨_, rfl⟩
      clear hS
      go_upto_region 41 with (fail)
      go_cut [199] from 144 (fun t wc => t = .bool (decide (a < j ∧ j < q)) ∧ V1 = wc)
      case first => as_aux_lemma =>
       by_cases r1 : a < j
       ·have r1' : (a : Int) < (j : Int) := by omega
        by_cases r2 : j < q
        ·have r2' : (j : Int) < (q : Int) := by omega
         go_wp2
         go_meet
         case rel => exact ⟨by simp [r1, r2], rfl⟩
        ·have r2' : ¬ (j : Int) < (q : Int) := by omega
         go_wp2
         go_meet
         case rel => exact ⟨by simp [r2], rfl⟩
       ·have r1' : ¬ (a : Int) < (j : Int) := by omega
        go_wp2
        go_meet
        case rel => exact ⟨by simp [r1], rfl⟩
      case rest => as_aux_lemma =>
       obtain ⟨rfl, rfl⟩ := hcut
       go_upto_if 199 with (fail)
       go_cut [24] from 144 (fun t wc => t = .int .i64 (e : Int) ∧ ∃ Z1 : List Int, Hid (Z1.Perm (X1 ++ Y1) ∧ Z1.Pairwise R) ∧ Hid (SW B w0 g n cap (P ++ (Z1 ++ (X2 ++ (Y2 ++ Q)))) wc))
       case first => as_aux_lemma =>
        by_cases hr : a < j ∧ j < q
        ·have hd : decide (a < j ∧ j < q) = true := decide_eq_true hr
         have hH := HP.out
         have hI := HN.out
         have hcall := HM.out V1 a j q P X1 Y1 (X2 ++ (Y2 ++ Q)) H1.out hI.1 (by omega) (by omega) (by omega) (by omega) (by omega) hH.1 hH.2.2.1 hH.2.2.2.2.1 hH.2.2.2.2.2.2.1 hH.2.2.2.2.2.2.2.2.1
         have HCl := Lib.hid hcall
         clear hcall hH hI H1
         go_wp2_with fail
         refine HCl.out.mono ?_
         rintro e' w1 ⟨rfl, Z1, z1, z2, z3⟩
         have HZ := Lib.hid (And.intro z1 z2)
         have HW := Lib.hid z3
         clear HCl z1 z2 z3
         go_wp2
         go_meet
         case rel => exact ⟨rfl, Z1, HZ.out, HW.out⟩
        ·have hd : decide (a < j ∧ j < q) = false := decide_eq_false hr
         have HZ := Lib.hid (show (X1 ++ Y1).Perm (X1 ++ Y1) ∧ (X1 ++ Y1).Pairwise R from ⟨List.Perm.refl _, by
          have hz : X1 = [] ∨ Y1 = [] := by
           by_cases z : X1 = []
           ·exact Or.inl z
           ·have := List.length_pos_iff.2 z
            exact Or.inr (List.length_eq_zero_iff.1 (by have := HN.out; omega))
          rcases hz with z | z
          ·rw [z, List.nil_append]; exact HP.out.2.2.2.2.2.2.2.2.1
          ·rw [z, List.append_nil]; exact HP.out.2.2.2.2.2.2.1⟩)
         have HW := Lib.hid (show SW B w0 g n cap (P ++ ((X1 ++ Y1) ++ (X2 ++ (Y2 ++ Q)))) V1 by simpa using H1.out)
         clear H1
         go_wp2
         go_meet
         case rel => exact ⟨rfl, X1 ++ Y1, HZ.out, HW.out⟩
       case rest => as_aux_lemma =>
        obtain ⟨rfl, Z1, HZ, HW⟩ := hcut
        obtain ⟨V2, rfl⟩ : ∃ x : World, x = wc := ⟨_, rfl⟩
        clear H1
        go_upto_region 43 with (fail)
        go_cut [213] from 144 (fun t wc => t = .bool (decide (q < e ∧ e < b)) ∧ V2 = wc)
        case first => as_aux_lemma =>
         by_cases r1 : q < e
         ·have r1' : (q : Int) < (e : Int) := by omega
          by_cases r2 : e < b
          ·have r2' : (e : Int) < (b : Int) := by omega
           go_wp2
           go_meet
           case rel => exact ⟨by simp [r1, r2], rfl⟩
          ·have r2' : ¬ (e : Int) < (b : Int) := by omega
           go_wp2
           go_meet
           case rel => exact ⟨by simp [r2], rfl⟩
         ·have r1' : ¬ (q : Int) < (e : Int) := by omega
          go_wp2
          go_meet
          case rel => exact ⟨by simp [r1], rfl⟩
        case rest => as_aux_lemma =>
         obtain ⟨rfl, rfl⟩ := hcut
         have fine : ∀ (Z2 : List Int) (w' : World), Z2.Perm (X2 ++ Y2) → Z2.Pairwise R → SW B w0 g n cap ((P ++ Z1) ++ (Z2 ++ Q)) w' → ∃ Z, Z.Perm ((X1 ++ X2) ++ (Y1 ++ Y2)) ∧ Z.Pairwise R ∧ SW B w0 g n cap (P ++ (Z ++ Q)) w' := fun Z2 w' p2 s2 h2 =>
          ⟨Z1 ++ Z2, (List.Perm.append HZ.out.1 p2).trans (perm4 X1 Y1 X2 Y2), List.pairwise_append.2 ⟨HZ.out.2, s2, fun u hu v hv => HK.out u (HZ.out.1.subset hu) v (p2.subset hv)⟩, by simpa using h2⟩
         have HFI := Lib.hid fine
         clear fine
         have hH := HP.out
         have hI := HN.out
         have hZl := HZ.out.1.length_eq
         rw [List.length_append] at hZl
         by_cases hr : q < e ∧ e < b
         ·have hd : decide (q < e ∧ e < b) = true := decide_eq_true hr
          have hcall := HM.out V2 q e b (P ++ Z1) X2 Y2 Q (by simpa using HW.out) (by rw [List.length_append]; omega) (by omega) (by omega) (by omega) (by omega) (by omega) hH.2.1 hH.2.2.2.1 hH.2.2.2.2.2.1 hH.2.2.2.2.2.2.2.1 hH.2.2.2.2.2.2.2.2.2
          have HCl := Lib.hid hcall
          clear hcall hH hI hZl HW
          go_wp2_with fail
          refine HCl.out.mono ?_
          rintro e' w1 ⟨rfl, Z2, z1, z2, z3⟩
          have HE := Lib.hid (HFI.out Z2 w1 z1 z2 z3)
          clear HCl z1 z2 z3
          go_wp2
          go_end0
          exact ⟨rfl, HE.out⟩
         ·have hd : decide (q < e ∧ e < b) = false := decide_eq_false hr
          have HE := Lib.hid (HFI.out (X2 ++ Y2) V2 (List.Perm.refl _) (by
           have hz : X2 = [] ∨ Y2 = [] := by
            by_cases z : X2 = []
            ·exact Or.inl z
            ·have := List.length_pos_iff.2 z
             exact Or.inr (List.length_eq_zero_iff.1 (by omega))
           rcases hz with z | z
           ·rw [z, List.nil_append]; exact hH.2.2.2.2.2.2.2.2.2
           ·rw [z, List.append_nil]; exact hH.2.2.2.2.2.2.2.1) (by simpa using HW.out))
          clear hH hI hZl HW
          go_wp2
          go_end0
          exact ⟨rfl, HE.out⟩
 ·have c1' : ¬ (m : Int) > (q : Int) := by omega
  have c1d : decide ((m : Int) > (q : Int)) = false := decide_eq_false c1'
  have er : Value.int .i64 (m : Int) = .int .i64 (r0 : Int) := by rw [c3]
  have es : Value.int .i64 (a : Int) = .int .i64 (s0 : Int) := by rw [c2]
  have HE := Lib.hid (And.intro er es)
  clear c1 c2 c3 er es
  go_upto_region 32 with (fail)
  go_wp2
  clear c1' c1d
  go_loopw [20, 21, 23] (fun t u _ wr => ∃ (i j : Nat), s0 ≤ i ∧ i ≤ j ∧ j ≤ r0 ∧ t = .int .i64 (i : Int) ∧ u = .int .i64 (j : Int) ∧ Hid (i = s0 ∨ ∃ x y, X[i - 1 - a]? = some x ∧ Y[q + m - i - m]? = some y ∧ R x y) ∧ Hid (j = r0 ∨ ∃ x y, X[j - a]? = some x ∧ Y[q + m - 1 - j - m]? = some y ∧ R y x) ∧ Hid (SW B w0 g n cap (P ++ (X ++ (Y ++ Q))) wr)) (fun t u _ _ => (intOf u).toNat - (intOf t).toNat)
  case atStart => exact ⟨s0, r0, Nat.le_refl _, f2, Nat.le_refl _, HE.out.2, HE.out.1, Or.inl rfl, Or.inl rfl, HS.out⟩
  case round => as_aux_lemma =>
   clear HE
   clear HS HV
   obtain ⟨i, j, hsi, hij, hjr, rfl, rfl, h1, h2, hS⟩ := hrel
   obtain ⟨V, rfl⟩ : ∃ V : World, V = wr := ⟨_, rfl⟩
   by_cases hlt : i < j
   ·have hlt' : (i : Int) < (j : Int) := by omega
    obtain ⟨k, hk⟩ : ∃ k, k = (i + j) / 2 := ⟨_, rfl⟩
    have eh : ((i : Int) + (j : Int)) / 2 = (k : Int) := by omega
    have hik : i ≤ k := by omega
    have hkj : k < j := by omega
    clear hk
    obtain ⟨z, hz⟩ : ∃ z, z = q + m - 1 - k := ⟨_, rfl⟩
    have ez : (q : Int) + (m : Int) - 1 - (k : Int) = (z : Int) := by omega
    obtain ⟨x, hx⟩ : ∃ x, X[k - a]? = some x := ⟨_, List.getElem?_eq_getElem (by have := HL.out; omega)⟩
    obtain ⟨y, hy⟩ : ∃ y, Y[z - m]? = some y := ⟨_, List.getElem?_eq_getElem (by have := HL.out; omega)⟩
    have gx : (P ++ (X ++ (Y ++ Q)))[k]? = some x := by
     rw [← hx]
     exact get_X P X (Y ++ Q) k (k - a) (by have := HL.out; omega) (by have := HL.out; omega)
    have gy : (P ++ (X ++ (Y ++ Q)))[z]? = some y := by
     rw [← hy]
     exact get_Y P X Y Q z (z - m) (by have := HL.out; omega) (by have := HL.out; omega)
    have hxX : x ∈ X := List.mem_of_getElem? hx
    have hyY : y ∈ Y := List.mem_of_getElem? hy
    have cc1 := hS.out.cell gx
    have cc2 := hS.out.cell gy
    have hxy : x < y := HL.out.2.2.2.2.2.1 x hxX y hyY
    have hDx : D x := HL.out.2.2.2.1 x hxX
    have hDy : D y := HL.out.2.2.2.2.1 y hyY
    have hcmp := fun k => HC.out.ok y x (V.drewN k) hDy hDx (hS.out.drewN k).ex
    have HY := Lib.hid (show X[k - a]? = some x ∧ Y[q + m - 1 - k - m]? = some y ∧ x < y ∧ D x ∧ D y from ⟨hx, by rw [← hz]; exact hy, hxy, hDx, hDy⟩)
    have kn : (k : Int) < (n : Int) := by omega
    have zn : (z : Int) < (n : Int) := by omega
    clear gx gy hxX hyY hxy hDx hDy hx hy hz
    by_cases hlv : cf y x < 0
    ·have hd : decide (cf y x < 0) = true := decide_eq_true hlv
     have HR2 : Hid (k = r0 ∨ ∃ x y, X[k - a]? = some x ∧ Y[q + m - 1 - k - m]? = some y ∧ R y x) := Or.inr ⟨x, y, HY.out.1, HY.out.2.1, HO.out.yes HY.out.2.2.2.1 HY.out.2.2.2.2 HY.out.2.2.1 (decide_eq_true hlv)⟩
     clear HY h2
     go_wp2_with fail
     go_quiet (first | (go_at_fn gf; exact Calls.quiet_of (hcmp _)))
     have HS2 := Lib.hid (hS.out.drewN nq)
     clear hS cc1 cc2 hcmp
     generalize V.drewN nq = V2 at HS2 ⊢
     go_wp2
     go_roundw
     all_goals first
      | exact ⟨i, k, hsi, by omega, by omega, rfl, rfl, h1, HR2, HS2.out⟩
      | ((repeat apply Exists.intro); exact ⟨⟨i, k, hsi, by omega, by omega, rfl, rfl, h1, HR2, HS2.out⟩, rfl⟩)
      | (simp [intOf] <;> omega)
    ·have hd : decide (cf y x < 0) = false := decide_eq_false hlv
     have HR1 : Hid (k + 1 = s0 ∨ ∃ x y, X[k + 1 - 1 - a]? = some x ∧ Y[q + m - (k + 1) - m]? = some y ∧ R x y) := Or.inr ⟨x, y, by rw [Nat.add_sub_cancel]; exact HY.out.1, by rw [show q + m - (k + 1) = q + m - 1 - k by omega]; exact HY.out.2.1, HO.out.no HY.out.2.2.2.1 HY.out.2.2.2.2 HY.out.2.2.1 (decide_eq_false hlv)⟩
     clear HY h1
     go_wp2_with fail
     go_quiet (first | (go_at_fn gf; exact Calls.quiet_of (hcmp _)))
     have HS2 := Lib.hid (hS.out.drewN nq)
     clear hS cc1 cc2 hcmp
     generalize V.drewN nq = V2 at HS2 ⊢
     go_wp2
     go_roundw
     all_goals first
      | exact ⟨k + 1, j, by omega, by omega, hjr, by go_num, rfl, HR1, h2, HS2.out⟩
      | ((repeat apply Exists.intro); exact ⟨⟨k + 1, j, by omega, by omega, hjr, by go_num, rfl, HR1, h2, HS2.out⟩, rfl⟩)
      | (simp [intOf] <;> omega)
   ·have hije : j = i := by omega
    subst hije
    obtain ⟨e, he⟩ : ∃ e, e = q + m - j := ⟨_, rfl⟩
    have ee : (q : Int) + (m : Int) - (j : Int) = (e : Int) := by omega
    obtain ⟨X1, X2, rfl, hx1⟩ := cut_at X (j - a) (by have := HL.out; omega)
    obtain ⟨Y1, Y2, rfl, hy1⟩ := cut_at Y (e - m) (by have := HL.out; omega)
    obtain ⟨l1, l2, l3, l4, l5, l6, l7, l8, l9⟩ := HL.out
    rw [List.length_append] at l2 l3
    have k1 : X1 = [] ∨ Y2 = [] ∨ ∃ A s t B, X1 = A ++ [s] ∧ Y2 = t :: B ∧ R s t := by
     by_cases z1 : X1 = []
     ·exact Or.inl z1
     ·rcases h1.out with e0 | ⟨x, y, e1, e2, e3⟩
      ·rcases HF.out.1 with e4 | e4
       ·exact Or.inl (List.length_eq_zero_iff.1 (by omega))
       ·exact Or.inr (Or.inl (List.length_eq_zero_iff.1 (by omega)))
      ·obtain ⟨A, e5⟩ := cut_last X1 X2 (j - 1 - a) x (by have := List.length_pos_iff.2 z1; omega) e1
       obtain ⟨B', e6⟩ := cut_first Y1 Y2 (q + m - j - m) y (by omega) e2
       exact Or.inr (Or.inr ⟨A, x, y, B', e5, e6, e3⟩)
    have k2 : X2 = [] ∨ Y1 = [] ∨ ∃ A s t B, Y1 = A ++ [s] ∧ X2 = t :: B ∧ R s t := by
     by_cases z1 : Y1 = []
     ·exact Or.inr (Or.inl z1)
     ·rcases h2.out with e0 | ⟨x, y, e1, e2, e3⟩
      ·rcases HF.out.2 with e4 | e4
       ·exact Or.inl (List.length_eq_zero_iff.1 (by omega))
       ·exact Or.inr (Or.inl (List.length_eq_zero_iff.1 (by omega)))
      ·obtain ⟨A, e5⟩ := cut_last Y1 Y2 (q + m - 1 - j - m) y (by have := List.length_pos_iff.2 z1; omega) e2
       obtain ⟨B', e6⟩ := cut_first X1 X2 (j - a) x hx1 e1
       exact Or.inr (Or.inr ⟨A, y, x, B', e5, e6, e3⟩)
    have HK := Lib.hid (cut_ahead HO.out l7 l8 l4 l5 k1 k2)
    have HN := Lib.hid (show a = P.length ∧ X1.length = j - a ∧ X2.length = m - j ∧ Y1.length = e - m ∧ Y2.length = b - e from ⟨l1, hx1, by omega, hy1, by omega⟩)
    have HP := Lib.hid (show Al D X1 ∧ Al D X2 ∧ Al D Y1 ∧ Al D Y2 ∧ Bef X1 Y1 ∧ Bef X2 Y2 ∧ X1.Pairwise R ∧ X2.Pairwise R ∧ Y1.Pairwise R ∧ Y2.Pairwise R from
     ⟨l4.app.1, l4.app.2, l5.app.1, l5.app.2, fun x hx y hy => l6 x (List.mem_append_left _ hx) y (List.mem_append_left _ hy), fun x hx y hy => l6 x (List.mem_append_right _ hx) y (List.mem_append_right _ hy), (List.pairwise_append.1 l7).1, (List.pairwise_append.1 l7).2.1, (List.pairwise_append.1 l8).1, (List.pairwise_append.1 l8).2.1⟩)
    have haj : a ≤ j := by omega
    have hjm : j ≤ m := by omega
    have hme : m ≤ e := by omega
    have heb : e ≤ b := by omega
    have heq : q + m = e + j := by omega
    have hNN : b - a ≤ N + 1 := l9
    clear k1 k2 l1 l2 l3 l4 l5 l6 l7 l8 l9 h1 h2 hx1 hy1 he hlt hij hsi hjr HL HF f1 f2 f3 f4 f5
    go_upto_region 39 with (fail)
    go_cut [185] (fun t wc => t = .bool (decide (j < m ∧ m < e)) ∧ V = wc)
    case first => as_aux_lemma =>
     by_cases r1 : j < m
     ·have r1' : (j : Int) < (m : Int) := by omega
      by_cases r2 : m < e
      ·have r2' : (m : Int) < (e : Int) := by omega
       go_wp2
       go_meet
       case rel => exact ⟨by simp [r1, r2], rfl⟩
      ·have r2' : ¬ (m : Int) < (e : Int) := by omega
       go_wp2
       go_meet
       case rel => exact ⟨by simp [r2], rfl⟩
     ·have r1' : ¬ (j : Int) < (m : Int) := by omega
      go_wp2
      go_meet
      case rel => exact ⟨by simp [r1], rfl⟩
    case rest => as_aux_lemma =>
     obtain ⟨rfl, rfl⟩ := hcut
     go_upto_if 185 with (fail)
     go_cut [24] from 144 (fun t wc => t = .int .i64 (e : Int) ∧ Hid (SW B w0 g n cap (P ++ (X1 ++ (Y1 ++ (X2 ++ (Y2 ++ Q))))) wc))
     case first => as_aux_lemma =>
      by_cases hr : j < m ∧ m < e
      ·have hd : decide (j < m ∧ m < e) = true := decide_eq_true hr
       go_wp2_with fail
       refine (rotate_ok B w0 V g n cap j m e _ (P ++ X1) X2 Y1 (Y2 ++ Q) (by simpa using hS.out) (by rw [List.length_append]; have := HN.out; omega) (by rw [List.length_append]; have := HN.out; omega) (by rw [List.length_append]; have := HN.out; omega) (by have := HN.out; omega) (by have := HN.out; omega) hn).mono ?_
       rintro e' w1 ⟨rfl, h1⟩
       have H1 := Lib.hid (show SW B w0 g n cap (P ++ (X1 ++ (Y1 ++ (X2 ++ (Y2 ++ Q))))) w1 by simpa using h1)
       clear h1 hS
       go_wp2
       go_meet
       case rel => exact ⟨rfl, H1.out⟩
      ·have hd : decide (j < m ∧ m < e) = false := decide_eq_false hr
       have H1 := Lib.hid (show SW B w0 g n cap (P ++ (X1 ++ (Y1 ++ (X2 ++ (Y2 ++ Q))))) V by
        have hz : X2 = [] ∨ Y1 = [] := by
         by_cases z : X2 = []
         ·exact Or.inl z
         ·have := List.length_pos_iff.2 z
          exact Or.inr (List.length_eq_zero_iff.1 (by have := HN.out; omega))
        have := hS.out
        rcases hz with z | z <;> rw [z] at this ⊢ <;> simpa using this)
       clear hS
       go_wp2
       go_meet
       case rel => exact ⟨rfl, H1.out⟩
     case rest => as_aux_lemma =>
      obtain ⟨rfl, H1⟩ := hcut
      obtain ⟨V1, rfl⟩ : ∃ x : World, x = wc := ⟨_, rfl⟩
      clear hS
      go_upto_region 41 with (fail)
      go_cut [199] from 144 (fun t wc => t = .bool (decide (a < j ∧ j < q)) ∧ V1 = wc)
      case first => as_aux_lemma =>
       by_cases r1 : a < j
       ·have r1' : (a : Int) < (j : Int) := by omega
        by_cases r2 : j < q
        ·have r2' : (j : Int) < (q : Int) := by omega
         go_wp2
         go_meet
         case rel => exact ⟨by simp [r1, r2], rfl⟩
        ·have r2' : ¬ (j : Int) < (q : Int) := by omega
         go_wp2
         go_meet
         case rel => exact ⟨by simp [r2], rfl⟩
       ·have r1' : ¬ (a : Int) < (j : Int) := by omega
        go_wp2
        go_meet
        case rel => exact ⟨by simp [r1], rfl⟩
      case rest => as_aux_lemma =>
       obtain ⟨rfl, rfl⟩ := hcut
       go_upto_if 199 with (fail)
       go_cut [24] from 144 (fun t wc => t = .int .i64 (e : Int) ∧ ∃ Z1 : List Int, Hid (Z1.Perm (X1 ++ Y1) ∧ Z1.Pairwise R) ∧ Hid (SW B w0 g n cap (P ++ (Z1 ++ (X2 ++ (Y2 ++ Q)))) wc))
       case first => as_aux_lemma =>
        by_cases hr : a < j ∧ j < q
        ·have hd : decide (a < j ∧ j < q) = true := decide_eq_true hr
         have hH := HP.out
         have hI := HN.out
         have hcall := HM.out V1 a j q P X1 Y1 (X2 ++ (Y2 ++ Q)) H1.out hI.1 (by omega) (by omega) (by omega) (by omega) (by omega) hH.1 hH.2.2.1 hH.2.2.2.2.1 hH.2.2.2.2.2.2.1 hH.2.2.2.2.2.2.2.2.1
         have HCl := Lib.hid hcall
         clear hcall hH hI H1
         go_wp2_with fail
         refine HCl.out.mono ?_
         rintro e' w1 ⟨rfl, Z1, z1, z2, z3⟩
         have HZ := Lib.hid (And.intro z1 z2)
         have HW := Lib.hid z3
         clear HCl z1 z2 z3
         go_wp2
         go_meet
         case rel => exact ⟨rfl, Z1, HZ.out, HW.out⟩
        ·have hd : decide (a < j ∧ j < q) = false := decide_eq_false hr
         have HZ := Lib.hid (show (X1 ++ Y1).Perm (X1 ++ Y1) ∧ (X1 ++ Y1).Pairwise R from ⟨List.Perm.refl _, by
          have hz : X1 = [] ∨ Y1 = [] := by
           by_cases z : X1 = []
           ·exact Or.inl z
           ·have := List.length_pos_iff.2 z
            exact Or.inr (List.length_eq_zero_iff.1 (by have := HN.out; omega))
          rcases hz with z | z
          ·rw [z, List.nil_append]; exact HP.out.2.2.2.2.2.2.2.2.1
          ·rw [z, List.append_nil]; exact HP.out.2.2.2.2.2.2.1⟩)
         have HW := Lib.hid (show SW B w0 g n cap (P ++ ((X1 ++ Y1) ++ (X2 ++ (Y2 ++ Q)))) V1 by simpa using H1.out)
         clear H1
         go_wp2
         go_meet
         case rel => exact ⟨rfl, X1 ++ Y1, HZ.out, HW.out⟩
       case rest => as_aux_lemma =>
        obtain ⟨rfl, Z1, HZ, HW⟩ := hcut
        obtain ⟨V2, rfl⟩ : ∃ x : World, x = wc := ⟨_, rfl⟩
        clear H1
        go_upto_region 43 with (fail)
        go_cut [213] from 144 (fun t wc => t = .bool (decide (q < e ∧ e < b)) ∧ V2 = wc)
        case first => as_aux_lemma =>
         by_cases r1 : q < e
         ·have r1' : (q : Int) < (e : Int) := by omega
          by_cases r2 : e < b
          ·have r2' : (e : Int) < (b : Int) := by omega
           go_wp2
           go_meet
           case rel => exact ⟨by simp [r1, r2], rfl⟩
          ·have r2' : ¬ (e : Int) < (b : Int) := by omega
           go_wp2
           go_meet
           case rel => exact ⟨by simp [r2], rfl⟩
         ·have r1' : ¬ (q : Int) < (e : Int) := by omega
          go_wp2
          go_meet
          case rel => exact ⟨by simp [r1], rfl⟩
        case rest => as_aux_lemma =>
         obtain ⟨rfl, rfl⟩ := hcut
         have fine : ∀ (Z2 : List Int) (w' : World), Z2.Perm (X2 ++ Y2) → Z2.Pairwise R → SW B w0 g n cap ((P ++ Z1) ++ (Z2 ++ Q)) w' → ∃ Z, Z.Perm ((X1 ++ X2) ++ (Y1 ++ Y2)) ∧ Z.Pairwise R ∧ SW B w0 g n cap (P ++ (Z ++ Q)) w' := fun Z2 w' p2 s2 h2 =>
          ⟨Z1 ++ Z2, (List.Perm.append HZ.out.1 p2).trans (perm4 X1 Y1 X2 Y2), List.pairwise_append.2 ⟨HZ.out.2, s2, fun u hu v hv => HK.out u (HZ.out.1.subset hu) v (p2.subset hv)⟩, by simpa using h2⟩
         have HFI := Lib.hid fine
         clear fine
         have hH := HP.out
         have hI := HN.out
         have hZl := HZ.out.1.length_eq
         rw [List.length_append] at hZl
         by_cases hr : q < e ∧ e < b
         ·have hd : decide (q < e ∧ e < b) = true := decide_eq_true hr
          have hcall := HM.out V2 q e b (P ++ Z1) X2 Y2 Q (by simpa using HW.out) (by rw [List.length_append]; omega) (by omega) (by omega) (by omega) (by omega) (by omega) hH.2.1 hH.2.2.2.1 hH.2.2.2.2.2.1 hH.2.2.2.2.2.2.2.1 hH.2.2.2.2.2.2.2.2.2
          have HCl := Lib.hid hcall
          clear hcall hH hI hZl HW
          go_wp2_with fail
          refine HCl.out.mono ?_
          rintro e' w1 ⟨rfl, Z2, z1, z2, z3⟩
          have HE := Lib.hid (HFI.out Z2 w1 z1 z2 z3)
          clear HCl z1 z2 z3
          go_wp2
          go_end0
          exact ⟨rfl, HE.out⟩
         ·have hd : decide (q < e ∧ e < b) = false := decide_eq_false hr
          have HE := Lib.hid (HFI.out (X2 ++ Y2) V2 (List.Perm.refl _) (by
           have hz : X2 = [] ∨ Y2 = [] := by
            by_cases z : X2 = []
            ·exact Or.inl z
            ·have := List.length_pos_iff.2 z
             exact Or.inr (List.length_eq_zero_iff.1 (by omega))
           rcases hz with z | z
           ·rw [z, List.nil_append]; exact hH.2.2.2.2.2.2.2.2.2
           ·rw [z, List.append_nil]; exact hH.2.2.2.2.2.2.2.1) (by simpa using HW.out))
          clear hH hI hZl HW
          go_wp2
          go_end0
          exact ⟨rfl, HE.out⟩
end Go.Proofs.Ytndnfjcfpcfakaa
namespace Go.Proofs.Ytndnfjcfpcfakaa
open Go Go.RowKit Go.Wr Go.Fl Go.Ht
set_option maxHeartbeats 4000000
set_option maxRecDepth 1000000
theorem symMerge_all (B : Nat) (w0 : World) (g n cap gf : Nat) (cv : Value) (cf : Int → Int → Int) (D : Int → Prop) (R : Int → Int → Prop) (C : Cmp gf cv cf D w0 g) (O : Ord R (fun y x => decide (cf y x < 0)) D) (hn : n ≤ 70368744177664) : ∀ N, Mg N B w0 g n cap gf cv D R
 | 0 => fun w a m b P X Y Q h ha hm hb hX hY hN _ _ _ _ _ => by omega
 | N + 1 => fun w a m b P X Y Q h ha hm hb hX hY hN hDX hDY hB sX sY => by
  by_cases h1 : X.length = 1
  ·obtain ⟨x, rfl⟩ := List.length_eq_one_iff.1 h1
   exact symMerge_one B w0 w g n cap a m b gf cv cf D R C O P Y Q x h ha (by simpa using hm) (by simp at hm; omega) (hDX x (List.mem_singleton.2 rfl)) hDY (fun y hy => hB x (List.mem_singleton.2 rfl) y hy) sY hn
  ·by_cases h2 : Y.length = 1
   ·obtain ⟨y, rfl⟩ := List.length_eq_one_iff.1 h2
    exact symMerge_last B w0 w g n cap a m b gf cv cf D R C O P X Q y h ha hm (by simpa using hb) (by omega) (hDY y (List.mem_singleton.2 rfl)) hDX (fun x hx => hB x hx y (List.mem_singleton.2 rfl)) sX hn
   ·have ih := symMerge_all B w0 g n cap gf cv cf D R C O hn N
    by_cases hq : (a + b) / 2 < m
    ·exact symMerge_main N B w0 w g n cap a m b gf ((a + b) / 2 + m - b) ((a + b) / 2) ((a + b) / 2) cv cf D R C O ih P X Y Q h ha hm hb (by omega) (by omega) hN hDX hDY hB sX sY hn rfl (Or.inl ⟨hq, by omega, rfl⟩)
    ·exact symMerge_main N B w0 w g n cap a m b gf a m ((a + b) / 2) cv cf D R C O ih P X Y Q h ha hm hb (by omega) (by omega) hN hDX hDY hB sX sY hn rfl (Or.inr ⟨by omega, rfl, rfl⟩)
theorem stable_ok (B : Nat) (w0 w : World) (g n cap gf : Nat) (cv : Value) (cf : Int → Int → Int) (D : Int → Prop) (R : Int → Int → Prop) (C : Cmp gf cv cf D w0 g) (O : Ord R (fun y x => decide (cf y x < 0)) D) (l : List Int)
  (h : SW B w0 g n cap l w) (hD : Al D l) (hA : Asc l) (hn : n ≤ 70368744177664) :
  Calls Try.prog 68 #[.slice (some ⟨g, 0, none⟩) n cap, .int .i64 (n : Int), .func (.func gf) #[] #[cv]] w fun e w' => e = .returned (.tuple #[]) ∧ ∃ Z, Z.Perm l ∧ Z.Pairwise R ∧ SW B w0 g n cap Z w' := by
 have hln := h.len
 have HC := Lib.hid C
 have HO := Lib.hid O
 have HM := Lib.hid (symMerge_all B w0 g n cap gf cv cf D R C O hn)
 have HL := Lib.hid (And.intro hln (And.intro hD hA))
 have HS := Lib.hid h
 clear h hln hD hA C O
 go_enter Try.func68, Try.ntmps68
 go_wp2
 go_loopw [7, 8] (fun t u wr => ∃ (k : Nat) (A0 A B0 : List Int), k ≤ n ∧ t = .int .i64 (k : Int) ∧ u = .int .i64 ((k : Int) + 20) ∧ Hid (l = A0 ++ B0 ∧ Bf R 20 A0 A ∧ A0.length = k) ∧ Hid (SW B w0 g n cap (A ++ B0) wr)) (fun t _ _ => n - (intOf t).toNat)
 case atStart => exact ⟨0, [], [], l, by omega, rfl, rfl, ⟨rfl, Bf.nil, rfl⟩, HS.out⟩
 case round =>
  clear HS
  obtain ⟨k, A0, A, B0, hk, rfl, rfl, hE, hS⟩ := hrel
  obtain ⟨V, rfl⟩ : ∃ V : World, V = wr := ⟨_, rfl⟩
  by_cases hlt : k + 20 ≤ n
  ·have hlt' : (k : Int) + 20 ≤ (n : Int) := by omega
   obtain ⟨X, B1, rfl, hx⟩ := cut_at B0 20 (by have h1 := congrArg List.length hE.out.1; rw [List.length_append] at h1; have := HL.out.1; have := hE.out.2.2; omega)
   obtain ⟨e1, e2, e3⟩ := hE.out
   have hAsc := HL.out.2.2
   have hDl := HL.out.2.1
   rw [e1] at hAsc hDl
   have hcall := insertion_ok B w0 V g n cap k (k + 20) gf cv cf D R HC.out HO.out A X B1 hS.out (by have := e2.perm.length_eq; omega) (by have := e2.perm.length_eq; omega) (hDl.app.2.app.1) (hAsc.app.2.1.app.1) hn
   have HCl := Lib.hid hcall
   have HE := Lib.hid (And.intro e1 (And.intro e2 (And.intro e3 hx)))
   clear hcall hE hS hAsc hDl e1 e2 e3 hx
   go_wp2_with fail
   rw [show (k : Int) + 20 = ((k + 20 : Nat) : Int) by omega]
   refine HCl.out.mono ?_
   rintro e' w1 ⟨rfl, Z, z1, z2, z3⟩
   have HZ := Lib.hid (show SW B w0 g n cap ((A ++ Z) ++ B1) w1 by simpa using z3)
   have HB : Hid (l = (A0 ++ X) ++ B1 ∧ Bf R 20 (A0 ++ X) (A ++ Z) ∧ (A0 ++ X).length = k + 20) := by
    obtain ⟨e1, e2, e3, hx⟩ := HE.out
    exact ⟨by rw [e1]; simp, Bf.snoc e2 hx z1 z2, by rw [List.length_append]; omega⟩
   clear HCl z1 z2 z3 HE
   go_wp2
   go_roundw
   all_goals first
    | exact ⟨k + 20, _, _, _, by omega, by go_num, by go_num, HB, HZ.out⟩
    | ((repeat apply Exists.intro); exact ⟨⟨k + 20, _, _, _, by omega, by go_num, by go_num, HB, HZ.out⟩, rfl⟩)
    | (simp [intOf] <;> omega)
  ·have hlt' : ¬ (k : Int) + 20 ≤ (n : Int) := by omega
   obtain ⟨e1, e2, e3⟩ := hE.out
   have hAsc := HL.out.2.2
   have hDl := HL.out.2.1
   have hl1 := congrArg List.length e1
   rw [List.length_append] at hl1
   rw [e1] at hAsc hDl
   have hcall := insertion_ok B w0 V g n cap k n gf cv cf D R HC.out HO.out A B0 [] (by simpa using hS.out) (by have := e2.perm.length_eq; omega) (by have := e2.perm.length_eq; have := HL.out.1; omega) (hDl.app.2) (hAsc.app.2.1) hn
   have HCl := Lib.hid hcall
   have HE := Lib.hid (And.intro e1 (And.intro e2 (And.intro e3 (show B0.length ≤ 20 by have := HL.out.1; omega))))
   clear hcall hE hS hAsc hDl e1 e2 e3 hl1
   go_wp2_with fail
   refine HCl.out.mono ?_
   rintro e' w1 ⟨rfl, Z, z1, z2, z3⟩
   have HZ := Lib.hid (show SW B w0 g n cap (A ++ Z) w1 by simpa using z3)
   have HB := Lib.hid (show Bl R 20 l (A ++ Z) by
    obtain ⟨e1, e2, e3, e4⟩ := HE.out
    rw [e1]
    exact e2.join (Bl.last e4 z1 z2))
   clear HCl z1 z2 z3 HE hlt hlt'
   go_wp2
   go_loopw [6, 7, 8, 9] (fun t _ _ _ wr => ∃ (bs : Nat) (cur : List Int), 20 ≤ bs ∧ bs ≤ 2 * n + 20 ∧ t = .int .i64 (bs : Int) ∧ Hid (Bl R bs l cur) ∧ Hid (SW B w0 g n cap cur wr)) (fun t _ _ _ _ => 2 * n + 20 - (intOf t).toNat)
   case atStart => exact ⟨20, _, Nat.le_refl _, by omega, rfl, HB.out, HZ.out⟩
   case round =>
    clear HB HZ
    obtain ⟨bs, cur, hb20, hbn, rfl, hB, hS⟩ := hrel
    obtain ⟨V, rfl⟩ : ∃ V : World, V = wr := ⟨_, rfl⟩
    by_cases hlt : bs < n
    ·have hlt' : (bs : Int) < (n : Int) := by omega
     go_wp2
     go_loopw [7, 8] (fun t u wr => ∃ (k : Nat) (A0 A B0 Bc : List Int), k ≤ n ∧ t = .int .i64 (k : Int) ∧ u = .int .i64 ((k : Int) + 2 * (bs : Int)) ∧ Hid (l = A0 ++ B0 ∧ Bf R (2 * bs) A0 A ∧ Bl R bs B0 Bc ∧ A0.length = k) ∧ Hid (SW B w0 g n cap (A ++ Bc) wr)) (fun t _ _ => n - (intOf t).toNat)
     case atStart => exact ⟨0, [], [], l, cur, by omega, rfl, by go_num, ⟨rfl, Bf.nil, hB.out, rfl⟩, hS.out⟩
     case round =>
      clear hB hS
      obtain ⟨k, A0, A, B0, Bc, hk, rfl, rfl, hE, hS⟩ := hrel
      obtain ⟨W, rfl⟩ : ∃ V : World, V = wr := ⟨_, rfl⟩
      have hl0 := congrArg List.length hE.out.1
      rw [List.length_append] at hl0
      have hBcl : Bc.length = B0.length := hE.out.2.2.1.perm.length_eq
      have hkl : k + Bc.length = n := by have := HL.out.1; have := hE.out.2.2.2; omega
      have hAl : A.length = k := by have := hE.out.2.1.perm.length_eq; have := hE.out.2.2.2; omega
      clear hl0 hBcl
      by_cases hle : k + 2 * bs ≤ n
      ·have hle' : (k : Int) + 2 * (bs : Int) ≤ (n : Int) := by omega
       obtain ⟨X1, O1, Z1, C1, o1, o2, o3, o4, o5, o6⟩ := hE.out.2.2.1.first (by omega)
       have hz1 := o4.length_eq
       have hC1 : bs ≤ C1.length := by rw [o2, List.length_append] at hkl; omega
       obtain ⟨X2, O2, Z2, C2, q1, q2, q3, q4, q5, q6⟩ := o6.first hC1
       have hz2 := q4.length_eq
       have hAsc := HL.out.2.2
       have hDl := HL.out.2.1
       rw [hE.out.1, o1, q1] at hAsc hDl
       have hS' := hS.out
       rw [o2, q2] at hS'
       have a1 := hAsc.app.2.1
       have hcall := HM.out (2 * bs) W k (k + bs) (k + 2 * bs) A Z1 Z2 C2 hS' (by omega) (by omega) (by omega) (by omega) (by omega) (by omega) (hDl.app.2.app.1.perm o4) (hDl.app.2.app.2.app.1.perm q4)
        (Bef.perm (fun x hx y hy => a1.app.2.2 x hx y (List.mem_append_left _ hy)) o4 q4) o5 q5
       have HCl := Lib.hid hcall
       have HE := Lib.hid (show l = (A0 ++ (X1 ++ X2)) ++ O2 ∧ (∀ Z, Z.Perm (Z1 ++ Z2) → Z.Pairwise R → Bf R (2 * bs) (A0 ++ (X1 ++ X2)) (A ++ Z)) ∧ Bl R bs O2 C2 ∧ (A0 ++ (X1 ++ X2)).length = k + 2 * bs from
        ⟨by rw [hE.out.1, o1, q1]; simp, fun Z p s => Bf.snoc hE.out.2.1 (by rw [List.length_append]; omega) (p.trans (List.Perm.append o4 q4)) s, q6, by rw [List.length_append, List.length_append]; have := hE.out.2.2.2; omega⟩)
       clear hcall hE hS hS' hAsc hDl a1 o1 o2 o3 o4 o5 o6 q1 q2 q3 q4 q5 q6 hz1 hz2 hC1
       go_wp2_with fail
       rw [show (k : Int) + (bs : Int) = ((k + bs : Nat) : Int) by omega, show (k : Int) + 2 * (bs : Int) = ((k + 2 * bs : Nat) : Int) by omega]
       refine HCl.out.mono ?_
       rintro e' w1 ⟨rfl, Z, z1, z2, z3⟩
       have HZ := Lib.hid (show SW B w0 g n cap ((A ++ Z) ++ C2) w1 by simpa using z3)
       have HB : Hid (l = (A0 ++ (X1 ++ X2)) ++ O2 ∧ Bf R (2 * bs) (A0 ++ (X1 ++ X2)) (A ++ Z) ∧ Bl R bs O2 C2 ∧ (A0 ++ (X1 ++ X2)).length = k + 2 * bs) := ⟨HE.out.1, HE.out.2.1 Z z1 z2, HE.out.2.2⟩
       clear HCl z1 z2 z3 HE
       go_wp2
       go_roundw
       all_goals first
        | exact ⟨k + 2 * bs, _, _, _, _, by omega, by go_num, by go_num, HB, HZ.out⟩
        | ((repeat apply Exists.intro); exact ⟨⟨k + 2 * bs, _, _, _, _, by omega, by go_num, by go_num, HB, HZ.out⟩, rfl⟩)
        | (simp [intOf] <;> omega)
      ·have hle' : ¬ (k : Int) + 2 * (bs : Int) ≤ (n : Int) := by omega
       by_cases hm : k + bs < n
       ·have hm' : (k : Int) + (bs : Int) < (n : Int) := by omega
        obtain ⟨X1, O1, Z1, C1, o1, o2, o3, o4, o5, o6⟩ := hE.out.2.2.1.first (by omega)
        have hz1 := o4.length_eq
        have hC1 : C1.length + bs + k = n := by rw [o2, List.length_append] at hkl; omega
        obtain ⟨q4, q5⟩ := o6.whole (by omega)
        have hAsc := HL.out.2.2
        have hDl := HL.out.2.1
        rw [hE.out.1, o1] at hAsc hDl
        have hS' := hS.out
        rw [o2] at hS'
        have a1 := hAsc.app.2.1
        have hcall := HM.out (2 * bs) W k (k + bs) n A Z1 C1 [] (by simpa using hS') (by omega) (by omega) (by omega) (by omega) (by omega) (by omega) (hDl.app.2.app.1.perm o4) (hDl.app.2.app.2.perm q4)
         (Bef.perm a1.app.2.2 o4 q4) o5 q5
        have HCl := Lib.hid hcall
        have HE := Lib.hid (show ∀ Z, Z.Perm (Z1 ++ C1) → Z.Pairwise R → Bl R (2 * bs) l (A ++ Z) from fun Z p s => by
         rw [hE.out.1, o1]
         exact hE.out.2.1.join (Bl.last (by rw [List.length_append]; have := q4.length_eq; omega) (p.trans (List.Perm.append o4 q4)) s))
        clear hcall hE hS hS' hAsc hDl a1 o1 o2 o3 o4 o5 o6 q4 q5 hz1 hC1
        go_wp2_with fail
        rw [show (k : Int) + (bs : Int) = ((k + bs : Nat) : Int) by omega]
        refine HCl.out.mono ?_
        rintro e' w1 ⟨rfl, Z, z1, z2, z3⟩
        have HZ := Lib.hid (show SW B w0 g n cap (A ++ Z) w1 by simpa using z3)
        have HB := Lib.hid (HE.out Z z1 z2)
        clear HCl z1 z2 z3 HE
        go_wp2
        go_roundw
        all_goals first
         | exact ⟨2 * bs, _, by omega, by omega, by go_num, HB.out, HZ.out⟩
         | ((repeat apply Exists.intro); exact ⟨⟨2 * bs, _, by omega, by omega, by go_num, HB.out, HZ.out⟩, rfl⟩)
         | (simp [intOf] <;> omega)
       ·have hm' : ¬ (k : Int) + (bs : Int) < (n : Int) := by omega
        obtain ⟨q4, q5⟩ := hE.out.2.2.1.whole (by omega)
        have HB := Lib.hid (show Bl R (2 * bs) l (A ++ Bc) by
         rw [hE.out.1]
         exact hE.out.2.1.join (Bl.last (by have := q4.length_eq; omega) q4 q5))
        clear hE q4 q5
        go_wp2
        go_roundw
        all_goals first
         | exact ⟨2 * bs, _, by omega, by omega, by go_num, HB.out, hS.out⟩
         | ((repeat apply Exists.intro); exact ⟨⟨2 * bs, _, by omega, by omega, by go_num, HB.out, hS.out⟩, rfl⟩)
         | (simp [intOf] <;> omega)
    ·have hlt' : ¬ (bs : Int) < (n : Int) := by omega
     have HF := Lib.hid (show ∃ Z, Z.Perm l ∧ Z.Pairwise R ∧ SW B w0 g n cap Z V from ⟨cur, (hB.out.whole (by have := hS.out.len; omega)).1, (hB.out.whole (by have := hS.out.len; omega)).2, hS.out⟩)
     clear hB hS
     go_wp2
     go_end0
     exact ⟨rfl, HF.out⟩
theorem sortStable_ok (B : Nat) (w0 w : World) (g n cap gf : Nat) (cv : Value) (cf : Int → Int → Int) (D : Int → Prop) (R : Int → Int → Prop) (C : Cmp gf cv cf D w0 g) (O : Ord R (fun y x => decide (cf y x < 0)) D) (l : List Int)
  (h : SW B w0 g n cap l w) (hD : Al D l) (hA : Asc l) (hn : n ≤ 70368744177664) :
  Calls Try.prog 34 #[.slice (some ⟨g, 0, none⟩) n cap, .func (.func gf) #[] #[cv]] w fun e w' => e = .returned (.tuple #[]) ∧ ∃ Z, Z.Perm l ∧ Z.Pairwise R ∧ SW B w0 g n cap Z w' := by
 have HK := Lib.hid (stable_ok B w0 w g n cap gf cv cf D R C O l h hD hA hn)
 clear h hD hA C O
 go_enter Try.func34, Try.ntmps34
 go_wp2_with fail
 refine HK.out.mono ?_
 rintro e w1 ⟨rfl, h1⟩
 have H1 := Lib.hid h1
 clear h1 HK
 go_wp2
 go_end0
 exact ⟨rfl, H1.out⟩
end Go.Proofs.Ytndnfjcfpcfakaa
namespace Go.Proofs.Ytndnfjcfpcfakaa
open Go Go.RowKit Go.Wr Go.Fl Go.Ht
set_option maxHeartbeats 4000000
set_option maxRecDepth 100000
def kOf (l : List Nat) (x : Int) : Int := ky (l.getD x.toNat 0)
theorem top_cmp (w : World) (p bx : Nat) (la : Option Addr) (lc : Nat) (l : List Nat) (h : SlX tF p w (.slice la l.length lc) l) (hb : w.cell? ⟨bx, 0, none⟩ = some (.slice la l.length lc)) (x y : Int) (hx : 0 ≤ x ∧ x < l.length) (hy : 0 ≤ y ∧ y < l.length) :
  Calls Try.prog 35 #[.int .i64 x, .int .i64 y, .pointer (some ⟨bx, 0, none⟩)] w fun e w' => e = .returned (.int .i64 (cmpK (kOf l x) (kOf l y))) ∧ ∃ m, w' = w.drewN m := by
 obtain ⟨i, rfl⟩ := Int.eq_ofNat_of_zero_le hx.1
 obtain ⟨j, rfl⟩ := Int.eq_ofNat_of_zero_le hy.1
 obtain ⟨a, ha⟩ : ∃ a, l[i]? = some a := ⟨_, List.getElem?_eq_getElem (by omega)⟩
 obtain ⟨b, hb'⟩ : ∃ a, l[j]? = some a := ⟨_, List.getElem?_eq_getElem (by omega)⟩
 have ea : kOf l (i : Int) = ky a := by unfold kOf; rw [Int.toNat_natCast, List.getD_eq_getElem?_getD, ha]; rfl
 have eb : kOf l (j : Int) = ky b := by unfold kOf; rw [Int.toNat_natCast, List.getD_eq_getElem?_getD, hb']; rfl
 rw [ea, eb]
 obtain ⟨b1, o1, e1, _, _, c1⟩ := SlX.flo h ha
 obtain ⟨b2, o2, e2, _, _, c2⟩ := SlX.flo h hb'
 rw [e1] at e2
 injection e2 with e2
 injection e2 with e21 e22
 subst e21 e22 e1
 have t1 := top_first a b
 have t2 := top_first b a
 have hin : (i : Int) < (l.length : Int) := by omega
 have hjn : (j : Int) < (l.length : Int) := by omega
 obtain ⟨K1, hK1⟩ : ∃ x, x = ky a := ⟨_, rfl⟩
 obtain ⟨K2, hK2⟩ : ∃ x, x = ky b := ⟨_, rfl⟩
 rw [← hK1, ← hK2] at t1 t2
 rw [← hK1, ← hK2]
 have hcv : cmpK K1 K2 = if decide (K2 < K1) = true then -1 else if decide (K1 < K2) = true then 1 else 0 := by unfold cmpK; simp
 rw [← t1, ← t2] at hcv
 clear ha hb' ea eb t1 t2 hK1 hK2 h hx hy
 obtain ⟨C, hC⟩ : ∃ c, c = cmpK K1 K2 := ⟨_, rfl⟩
 rw [← hC] at hcv ⊢
 clear hC
 go_enter Try.func35, Try.ntmps35
 go_wp2_with fail
 go_quiet (fail)
 generalize hg1 : (Ieee.double.order a b == some .gt) = g1 at hcv
 generalize hg2 : (Ieee.double.order b a == some .gt) = g2 at hcv
 generalize hs1 : (Ieee.double.order a a == some .eq) = s1 at hcv
 generalize hs2 : (Ieee.double.order b b == some .eq) = s2 at hcv
 have hs1' : (Ieee.double.order a a != some .eq) = !s1 := by rw [← hs1]; rfl
 have hs2' : (Ieee.double.order b b != some .eq) = !s2 := by rw [← hs2]; rfl
 change (FloatKind.f64.format.order a b == some .gt) = g1 at hg1
 change (FloatKind.f64.format.order b a == some .gt) = g2 at hg2
 change (FloatKind.f64.format.order a a == some .eq) = s1 at hs1
 change (FloatKind.f64.format.order b b == some .eq) = s2 at hs2
 change (FloatKind.f64.format.order a a != some .eq) = !s1 at hs1'
 change (FloatKind.f64.format.order b b != some .eq) = !s2 at hs2'
 cases g1 <;> cases g2 <;> cases s1 <;> cases s2 <;> simp only [Bool.not_true, Bool.not_false, Bool.and_false, Bool.and_true, Bool.or_false, Bool.or_true, Bool.or_self, Bool.and_self, if_true, if_false, Bool.false_eq_true] at hcv hs1' hs2' <;> subst hcv
 all_goals
  go_wp2_with fail
  go_ret
  exact ⟨rfl, _, rfl⟩
theorem call_enter {f : Nat} {fn : Func} (hf : Try.prog.funcs[f]? = some fn) (hname : (fn.name == "runtime.NumGoroutine") = false) (hb : fn.body.isSome = true) (args : Array Value) (w : World) : (callFunc f args).run Try.prog w = .ok (.enter f args) w := by
 have h1 : ¬ fn.name = "runtime.NumGoroutine" := by simpa using hname
 have h2 : ¬ fn.body = none := fun e => by rw [e] at hb; cases hb
 simp [callFunc, hf, h1, h2]
def cutN (n : Int) (len : Nat) : Nat := (min n (len : Int)).toNat
def flI (n i : Nat) : List Int := (List.range n).map fun x : Nat => if x < i then (x : Int) else 0
theorem flI_len (n i : Nat) : (flI n i).length = n := by simp [flI]
theorem flI_get {n i k : Nat} (h : k < n) : (flI n i)[k]? = some (if k < i then (k : Int) else 0) := by unfold flI; rw [List.getElem?_map, List.getElem?_range h]; rfl
theorem flI_zero (n : Nat) : flI n 0 = List.replicate n 0 := by
 apply List.ext_getElem?
 intro k
 by_cases h : k < n
 ·rw [flI_get h, List.getElem?_replicate, if_pos h, if_neg (by omega)]
 ·rw [List.getElem?_eq_none (by rw [flI_len]; omega), List.getElem?_eq_none (by simp; omega)]
theorem flI_all (n : Nat) : flI n n = iot n := by
 unfold flI iot
 apply List.map_congr_left
 intro x hx
 rw [if_pos (by simpa using hx)]
theorem flI_set {n i : Nat} (hi : i < n) : (flI n i).set i (i : Int) = flI n (i + 1) := by
 apply List.ext_getElem?
 intro x
 rw [List.getElem?_set, flI_len]
 by_cases hx : x < n
 ·rw [flI_get hx, flI_get hx]
  by_cases e : i = x
  ·subst e
   rw [if_pos rfl, if_pos hx, if_pos (by omega)]
  ·rw [if_neg e]
   by_cases h : x < i
   ·rw [if_pos h, if_pos (by omega)]
   ·rw [if_neg h, if_neg (by omega)]
 ·rw [if_neg (by omega), List.getElem?_eq_none (by rw [flI_len]; omega), List.getElem?_eq_none (by rw [flI_len]; omega)]
theorem htop_ok (w : World) (q : Nat) (v : Value) (l : List Nat) (n : Int) (h : SlX tF q w v l) (hl : l.length ≤ 1099511627776) : Calls Try.prog 20 #[v, .int .i64 n] w fun e w' => Below w.heap.size w w' ∧ ∃ (v' : Value) (Z : List Int), e = .returned v' ∧ Z.Perm (iot l.length) ∧ Z.Pairwise (Ht.Rk (kOf l)) ∧ OwR tI w.heap.size w' v' (Z.take (cutN n l.length)) := by
 obtain ⟨a0, cap, rfl, h1, h2⟩ := h.form
 have H := Lib.hid h
 unfold maxLen at h2
 clear h
 go_enter Try.func20, Try.ntmps20
 go_upto_region 1 with (fail)
 obtain ⟨bx, hbx⟩ : ∃ x, x = w.heap.size := ⟨_, rfl⟩
 have hc0 : (w.alloc (.cells #[.slice a0 l.length cap] 25)).cell? ⟨bx, 0, none⟩ = some (.slice a0 l.length cap) := by rw [hbx]; exact (Blk.new w 25 #[.slice a0 l.length cap]).cell 0
 have hb0 : Below w.heap.size w (w.alloc (.cells #[.slice a0 l.length cap] 25)) := bAl (bRefl w) _
 have hz0 : (w.alloc (.cells #[.slice a0 l.length cap] 25)).heap.size = bx + 1 := by rw [hbx]; simp
 rw [← hbx]
 have HBX := Lib.hid hbx
 clear hbx
 generalize w.alloc (.cells #[.slice a0 l.length cap] 25) = w1 at hc0 hb0 hz0 ⊢
 have HB0 := Lib.hid hb0
 have HZ0 := Lib.hid hz0
 clear hb0 hz0
 go_upto_region 2 with (refine wpl_make tI 0 rfl rfl (.tmp 8) (.tmp 8) rfl .i64 .i64 _ _ l.length rfl rfl rfl rfl (by show 8 * _ ≤ _; omega) (by unfold maxLen; omega) ?_; intro w2 how hbw hsw)
 have hgl : w1.heap.size = bx + 1 := HZ0.out
 obtain ⟨g, hg⟩ : ∃ x, x = w1.heap.size := ⟨_, rfl⟩
 rw [← hg] at how hbw ⊢
 have hc2 : w2.cell? ⟨bx, 0, none⟩ = some (.slice a0 l.length cap) := (hbw.cell (by show bx < g; omega)).trans hc0
 have hb2 : Below w.heap.size w w2 := bThen HB0.out (by rw [← hg]; exact hbw)
 have hgw : w.heap.size ≤ g := by have := HB0.out.size; omega
 have hsl : SlX tF g w2 (.slice a0 l.length cap) l := (SlX.re H.out hgw).below hb2
 have hS0 : SW w.heap.size w2 g l.length l.length (flI l.length 0) w2 := ⟨Ex.refl _ _, by rw [flI_zero]; exact how.mono hgw⟩
 have hgb : bx ≠ g := by omega
 have hbx2 : bx < w2.heap.size := by have := hbw.size; omega
 have HK := Lib.hid (show Cmp 35 (.pointer (some ⟨bx, 0, none⟩)) (fun x y => cmpK (kOf l x) (kOf l y)) (fun x => 0 ≤ x ∧ x < l.length) w2 g from
  ⟨fun args w => call_enter Try.func35 (by kernel_rfl) (by kernel_rfl) args w, fun x y w' hx hy hex => top_cmp w' g bx a0 cap l (hsl.ex hex) ((World.cell?_of_block (hex.block bx hbx2 hgb)).trans hc2) x y hx hy⟩)
 have HO := Lib.hid (show Ht.Ord (Ht.Rk (kOf l)) (fun y x => decide (cmpK (kOf l y) (kOf l x) < 0)) (fun x => 0 ≤ x ∧ x < (l.length : Int)) from
  ⟨fun _ _ _ h1 h2 => (rk_ord (kOf l)).tr trivial trivial trivial h1 h2, fun _ _ h1 h2 => (rk_ord (kOf l)).yes trivial trivial h1 h2, fun _ _ h1 h2 => (rk_ord (kOf l)).no trivial trivial h1 h2⟩)
 have HS0 := Lib.hid hS0
 have HB2 := Lib.hid (And.intro hb2 hgw)
 clear how hbw hsw hgl hg hc0 hc2 hb2 hgw hsl hS0 hgb hbx2 HZ0 HB0 HBX
 go_wp2
 go_loopw [6, 12] (fun _ u wr => ∃ (i : Nat), i ≤ l.length ∧ u = .int .i64 (i : Int) ∧ Hid (SW w.heap.size w2 g l.length l.length (flI l.length i) wr)) (fun _ u _ => l.length - (intOf u).toNat)
 case atStart => exact ⟨0, by omega, rfl, HS0.out⟩
 case round =>
  clear HS0
  obtain ⟨i, hi, rfl, hS⟩ := hrel
  obtain ⟨V, rfl⟩ : ∃ V : World, V = wr := ⟨_, rfl⟩
  by_cases hlt : i < l.length
  ·have hlt' : (i : Int) < (l.length : Int) := by omega
   have c1 := hS.out.cell (flI_get (i := i) hlt)
   have f1 := hS.out.frozen i
   have hS2 := hS.out.set (k := i) (x := (i : Int)) (by rw [flI_len]; exact hlt)
   rw [flI_set hlt] at hS2
   have HS2 := Lib.hid hS2
   clear hS hS2
   go_wp2
   go_roundw
   all_goals first
    | exact ⟨i + 1, by omega, by go_num, HS2.out⟩
    | ((repeat apply Exists.intro); exact ⟨⟨i + 1, by omega, by go_num, HS2.out⟩, rfl⟩)
    | (simp [intOf] <;> omega)
  ·have hil : i = l.length := by omega
   have hS' := hS.out
   rw [hil, flI_all] at hS'
   have hcall := sortStable_ok w.heap.size w2 V g l.length l.length 35 _ _ _ (Ht.Rk (kOf l)) HK.out HO.out (iot l.length) hS' (fun x hx => iot_mem.1 hx) (iot_asc _) (by omega)
   have HCl := Lib.hid hcall
   obtain rfl := hil
   clear hS' hcall hS hlt
   go_wp2_with fail
   refine HCl.out.mono ?_
   rintro e' w5 ⟨rfl, Z, z1, z2, z3⟩
   have hZl : Z.length = l.length := by rw [z1.length_eq, iot_len]
   have HZ := Lib.hid (And.intro z1 (And.intro z2 (And.intro z3 hZl)))
   have HBB := Lib.hid (show Below w.heap.size w w5 from HB2.out.1.trans (z3.ex.below (B := w.heap.size) HB2.out.2 (HB2.out.1.size)))
   clear HCl z1 z2 z3 hZl HK HO
   have fine : ∀ k, k ≤ l.length → cutN n l.length = k → OwR tI w.heap.size w5 (.slice (some ⟨g, 0, none⟩) k l.length) (Z.take (cutN n l.length)) := fun k hk e => by
    rw [e]
    exact HZ.out.2.2.1.ow.take (by rw [HZ.out.2.2.2]; exact hk)
   have HFI := Lib.hid fine
   clear fine
   have HR := Lib.hid (HFI.out (max 0 (min n (l.length : Int))).toNat (by omega) (by unfold cutN; omega))
   go_wp2
   go_ret
   exact ⟨HBB.out, _, Z, rfl, HZ.out.1, HZ.out.2.1, HR.out⟩
end Go.Proofs.Ytndnfjcfpcfakaa
