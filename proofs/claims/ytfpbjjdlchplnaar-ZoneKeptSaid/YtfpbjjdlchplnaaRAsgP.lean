/- Plain facts: the table that Assign makes; tables that are closed, and small. No program. -/
import Derived.Test.YtfpbjjdlchplnaaRBackP
import Derived.Test.YtfpbjjdlchplnaaRForget
import Derived.Test.YtfpbjjdlchplnaaRMeets
import Derived.Test.YtfpbjjdlchplnaaRWithA
namespace Go.Proofs.YtfpbjjdlchplnaaR
open Go Go.RowKit Go.Wr

/-- P5.5: variable x becomes y and c; rows and columns below n done. -/
def asgW (m : Nat → Nat → Int) (x y : Nat) (c : Int) (n p q : Nat) : Int :=
  if p = x ∧ q ≠ x ∧ q < n then sm (m y q) c else if q = x ∧ p ≠ x ∧ p < n then sm (m p y) (-c) else m p q
def asgT (m : Nat → Nat → Int) (x y : Nat) (c : Int) : Nat → Nat → Int := asgW m x y c 60

theorem asgW_zero (m : Nat → Nat → Int) (x y : Nat) (c : Int) : tcells (asgW m x y c 0) = tcells m := tcells_congr fun p q _ _ => by unfold asgW; rw [if_neg (by omega), if_neg (by omega)]
theorem asgW_same (m : Nat → Nat → Int) (x y : Nat) (c : Int) : tcells (asgW m x y c x) = tcells (asgW m x y c (x + 1)) := tcells_congr fun p q _ _ => by
  unfold asgW
  by_cases h1 : p = x ∧ q ≠ x ∧ q < x
  · rw [if_pos h1, if_pos (by omega)]
  · rw [if_neg h1, if_neg (show ¬ (p = x ∧ q ≠ x ∧ q < x + 1) by omega)]
    by_cases h2 : q = x ∧ p ≠ x ∧ p < x
    · rw [if_pos h2, if_pos (by omega)]
    · rw [if_neg h2, if_neg (by omega)]
theorem asgW_set (m : Nat → Nat → Int) (x y : Nat) (c : Int) (n : Nat) (h : n ≠ x) : tcells (upd (upd (asgW m x y c n) x n (sm (m y n) c)) n x (sm (m n y) (-c))) = tcells (asgW m x y c (n + 1)) := tcells_congr fun p q _ _ => by
  unfold upd
  by_cases h1 : p = n ∧ q = x
  · obtain ⟨rfl, rfl⟩ := h1
    rw [if_pos ⟨rfl, rfl⟩]
    unfold asgW
    rw [if_neg (by omega), if_pos (by omega)]
  · rw [if_neg h1]
    by_cases h2 : p = x ∧ q = n
    · obtain ⟨rfl, rfl⟩ := h2
      rw [if_pos ⟨rfl, rfl⟩]
      unfold asgW
      rw [if_pos (by omega)]
    · rw [if_neg h2]
      unfold asgW
      by_cases h3 : p = x ∧ q ≠ x ∧ q < n
      · rw [if_pos h3, if_pos (by omega)]
      · rw [if_neg h3, if_neg (show ¬ (p = x ∧ q ≠ x ∧ q < n + 1) by omega)]
        by_cases h4 : q = x ∧ p ≠ x ∧ p < n
        · rw [if_pos h4, if_pos (by omega)]
        · rw [if_neg h4, if_neg (by omega)]

/-- A table that is closed, each bound of it within S. -/
structure Cl (S : Int) (m : Nat → Nat → Int) : Prop where
  diag : ∀ p, p < 60 → m p p = 0
  tri : ∀ p k q, p < 60 → k < 60 → q < 60 → m p k ≠ 2305843009213693952 → m k q ≠ 2305843009213693952 → m p q ≠ 2305843009213693952 ∧ m p q ≤ m p k + m k q
  small : ∀ p q, p < 60 → q < 60 → m p q ≠ 2305843009213693952 → -S ≤ m p q ∧ m p q ≤ S

theorem Tight.cl {l : List Cn} {m : Nat → Nat → Int} (h : Tight l m) (hl : Fine 1099511627776 l) : Cl 64871186038784 m :=
  ⟨h.diag, fun p k q hp hk hq h1 h2 => h.tri hp hk hq h1 h2, fun p q hp hq hb => by have := h.small hl (by omega) hp hq hb; omega⟩

theorem Cl.tight {S : Int} {m : Nat → Nat → Int} (h : Cl S m) : Tight (consL m 60) m := by
  refine Tight.mk' (fun x hx => ?_) h.diag h.tri (fun x hx => ?_) (fun p q hp hq hb => ?_)
  · obtain ⟨i, j, hi, hj, _, _, rfl⟩ := mem_consL.1 hx
    exact ⟨by simpa using hi, by simpa using hj⟩
  · obtain ⟨i, j, hi, hj, _, hb, rfl⟩ := mem_consL.1 hx
    simp only [Int.toNat_natCast]
    exact ⟨hb, Int.le_refl _⟩
  · by_cases e : p = q
    · subst e; exact ⟨0, rfl, h.diag p hp⟩
    · have := Wk.one (mem_consL.2 ⟨p, q, hp, hq, e, hb, rfl⟩)
      exact ⟨1, by simpa using this⟩

theorem Cl.rng {S : Int} {m : Nat → Nat → Int} (h : Cl S m) (hS : S ≤ 1152921504606846976) : Rng m := fun p q hp hq => by
  by_cases e : m p q = 2305843009213693952
  · omega
  · have := h.small p q hp hq e; omega

/-- Numbers meet all bounds of a table. -/
def Mt (m : Nat → Nat → Int) (f : Nat → Int) : Prop := ∀ p q, p < 60 → q < 60 → m p q ≠ 2305843009213693952 → f p - f q ≤ m p q

theorem Mt.meets {m : Nat → Nat → Int} {f : Nat → Int} (h : Mt m f) : meetsB ⟨false, m⟩ f = true := by
  unfold meetsB metAll
  simp only [Bool.not_false, Bool.true_and, List.all_eq_true]
  intro x hx
  obtain ⟨i, j, hi, hj, _, hb, rfl⟩ := mem_consL.1 hx
  have := h i j hi hj hb
  simp only [Int.toNat_natCast, Bool.not_eq_true', decide_eq_false_iff_not]
  omega

theorem Cl.reach {S : Int} {m : Nat → Nat → Int} (h : Cl S m) (j : Nat) : Mt m (reachF m j 1125899906842624) :=
  fun _ _ hp hq hb => reach_meets h.tight j (by omega) (by omega) hp hq hb

theorem Cl.reachA {S : Int} {m : Nat → Nat → Int} (h : Cl S m) (j : Nat) {q : Nat} (hq : q < 60) : -S ≤ reachA m j 1125899906842624 q 60 ∧ reachA m j 1125899906842624 q 60 ≤ 36028797018963968 := by
  refine ⟨?_, (reachA_low m j 1125899906842624 q 60).1⟩
  obtain ⟨k, hk, hb, e⟩ := reach_at h.tight j (high := 1125899906842624) (by omega) (by omega) hq
  have := h.small q k hq hk hb
  rw [e]
  split <;> omega

/-- Numbers within B. -/
def Bnd (B : Int) (f : Nat → Int) : Prop := ∀ q, q < 60 → -B ≤ f q ∧ f q ≤ B

theorem Cl.reachB {S : Int} {m : Nat → Nat → Int} (h : Cl S m) (hS : S ≤ 281474976710656) (j : Nat) : Bnd 36310271995674624 (reachF m j 1125899906842624) := fun q hq => by
  have h1 := h.reachA j hq
  have h2 := h.reachA j (show 0 < 60 by omega)
  unfold reachF
  omega

/-- Forgotten variables leave a closed table closed. -/
theorem Cl.fgt {S : Int} {m : Nat → Nat → Int} (h : Cl S m) (v : Int) : Cl S (fgt m v) := by
  refine ⟨fun p hp => ?_, fun p k q hp hk hq h1 h2 => ?_, fun p q hp hq hb => ?_⟩
  · unfold Go.Proofs.YtfpbjjdlchplnaaR.fgt; rw [if_neg (by omega)]; exact h.diag p hp
  · have e1 : ¬ (1 ≤ v ∧ v < 60 ∧ p ≠ k ∧ (p = v.toNat ∨ k = v.toNat)) := fun c => h1 (by unfold Go.Proofs.YtfpbjjdlchplnaaR.fgt; rw [if_pos c])
    have e2 : ¬ (1 ≤ v ∧ v < 60 ∧ k ≠ q ∧ (k = v.toNat ∨ q = v.toNat)) := fun c => h2 (by unfold Go.Proofs.YtfpbjjdlchplnaaR.fgt; rw [if_pos c])
    unfold Go.Proofs.YtfpbjjdlchplnaaR.fgt at h1 h2 ⊢
    rw [if_neg e1] at h1 ⊢
    rw [if_neg e2] at h2 ⊢
    rw [if_neg (by omega)]
    exact h.tri p k q hp hk hq h1 h2
  · have e1 : ¬ (1 ≤ v ∧ v < 60 ∧ p ≠ q ∧ (p = v.toNat ∨ q = v.toNat)) := fun c => hb (by unfold Go.Proofs.YtfpbjjdlchplnaaR.fgt; rw [if_pos c])
    unfold Go.Proofs.YtfpbjjdlchplnaaR.fgt at hb ⊢
    rw [if_neg e1] at hb ⊢
    exact h.small p q hp hq hb

theorem Cl.fgtL {S : Int} {l : List Int} : ∀ {m : Nat → Nat → Int}, Cl S m → Cl S (fgtL m l) := by
  induction l with
  | nil => intro m h; exact h
  | cons v r ih => intro m h; exact ih (h.fgt v)

/-- The variables that a list names. -/
def opn (l : List Int) (q : Nat) : Bool := l.any fun v => decide (1 ≤ v ∧ v < 60 ∧ v.toNat = q)

theorem opn_take {l : List Int} {k : Nat} {x : Int} (h : l[k]? = some x) (q : Nat) : opn (l.take (k + 1)) q = (opn (l.take k) q || decide (1 ≤ x ∧ x < 60 ∧ x.toNat = q)) := by
  rw [take_snoc h]
  unfold opn
  rw [List.any_append, List.any_cons, List.any_nil, Bool.or_false]

theorem fgtL_open {l : List Int} {p q : Nat} : ∀ {m : Nat → Nat → Int}, opn l p = false → opn l q = false → fgtL m l p q = m p q := by
  induction l with
  | nil => intro m _ _; rfl
  | cons v r ih =>
    intro m h1 h2
    unfold opn at h1 h2
    simp only [List.any_cons, Bool.or_eq_false_iff, decide_eq_false_iff_not] at h1 h2
    show fgtL (fgt m v) r p q = m p q
    rw [ih h1.2 h2.2]
    unfold fgt
    rw [if_neg (by omega)]

/-- Numbers meet all bounds between variables that are not open. -/
def MtO (m : Nat → Nat → Int) (f : Nat → Int) (op : Nat → Bool) : Prop := ∀ p q, p < 60 → q < 60 → op p = false → op q = false → m p q ≠ 2305843009213693952 → f p - f q ≤ m p q

theorem Mt.open_ {m : Nat → Nat → Int} {l : List Int} {f : Nat → Int} (h : Mt (fgtL m l) f) : MtO m f (opn l) := fun p q hp hq h1 h2 hb => by
  have e := fgtL_open (m := m) h1 h2
  have := h p q hp hq (by rw [e]; exact hb)
  rw [e] at this
  exact this

/-- The least and the greatest that an open variable may be, of the first n others. -/
def hiS (m : Nat → Nat → Int) (f : Nat → Int) (op : Nat → Bool) (x : Nat) : Nat → Int
  | 0 => 1152921504606846976
  | q + 1 => if (q = x ∨ op q = true) ∨ m x q = 2305843009213693952 then hiS m f op x q else if f q + m x q < hiS m f op x q then f q + m x q else hiS m f op x q
def loS (m : Nat → Nat → Int) (f : Nat → Int) (op : Nat → Bool) (x : Nat) : Nat → Int
  | 0 => -1152921504606846976
  | q + 1 => if (q = x ∨ op q = true) ∨ m q x = 2305843009213693952 then loS m f op x q else if loS m f op x q < f q - m q x then f q - m q x else loS m f op x q
def newV (lo hi : Int) : Int := if -1152921504606846976 < lo then lo else if hi < 1152921504606846976 then hi else 0

theorem hiS_facts (m : Nat → Nat → Int) (f : Nat → Int) (op : Nat → Bool) (x : Nat) : ∀ n, hiS m f op x n ≤ 1152921504606846976 ∧
    (∀ q, q < n → q ≠ x → op q = false → m x q ≠ 2305843009213693952 → hiS m f op x n ≤ f q + m x q) ∧
    (hiS m f op x n = 1152921504606846976 ∨ ∃ q, q < n ∧ q ≠ x ∧ op q = false ∧ m x q ≠ 2305843009213693952 ∧ hiS m f op x n = f q + m x q) := by
  intro n
  induction n with
  | zero => exact ⟨by simp [hiS], fun q hq => by omega, Or.inl rfl⟩
  | succ n ih =>
    obtain ⟨h1, h2, h3⟩ := ih
    unfold hiS
    by_cases hs : (n = x ∨ op n = true) ∨ m x n = 2305843009213693952
    · rw [if_pos hs]
      refine ⟨h1, fun q hq hx ho hb => ?_, ?_⟩
      · by_cases e : q = n
        · subst e
          rcases hs with (hs | hs) | hs
          · exact absurd hs hx
          · rw [ho] at hs; cases hs
          · exact absurd hs hb
        · exact h2 q (by omega) hx ho hb
      · rcases h3 with h3 | ⟨q, hq, h3⟩
        · exact Or.inl h3
        · exact Or.inr ⟨q, by omega, h3⟩
    · rw [if_neg hs]
      have hs1 : n ≠ x := fun e => hs (Or.inl (Or.inl e))
      have hs2 : op n = false := by cases h : op n with | true => exact absurd (Or.inl (Or.inr h)) hs | false => rfl
      have hs3 : m x n ≠ 2305843009213693952 := fun e => hs (Or.inr e)
      by_cases hl : f n + m x n < hiS m f op x n
      · rw [if_pos hl]
        refine ⟨by omega, fun q hq hx ho hb => ?_, Or.inr ⟨n, by omega, hs1, hs2, hs3, rfl⟩⟩
        by_cases e : q = n
        · subst e; exact Int.le_refl _
        · have := h2 q (by omega) hx ho hb; omega
      · rw [if_neg hl]
        refine ⟨h1, fun q hq hx ho hb => ?_, ?_⟩
        · by_cases e : q = n
          · subst e; omega
          · exact h2 q (by omega) hx ho hb
        · rcases h3 with h3 | ⟨q, hq, h3⟩
          · exact Or.inl h3
          · exact Or.inr ⟨q, by omega, h3⟩

theorem loS_facts (m : Nat → Nat → Int) (f : Nat → Int) (op : Nat → Bool) (x : Nat) : ∀ n, -1152921504606846976 ≤ loS m f op x n ∧
    (∀ q, q < n → q ≠ x → op q = false → m q x ≠ 2305843009213693952 → f q - m q x ≤ loS m f op x n) ∧
    (loS m f op x n = -1152921504606846976 ∨ ∃ q, q < n ∧ q ≠ x ∧ op q = false ∧ m q x ≠ 2305843009213693952 ∧ loS m f op x n = f q - m q x) := by
  intro n
  induction n with
  | zero => exact ⟨by simp [loS], fun q hq => by omega, Or.inl rfl⟩
  | succ n ih =>
    obtain ⟨h1, h2, h3⟩ := ih
    unfold loS
    by_cases hs : (n = x ∨ op n = true) ∨ m n x = 2305843009213693952
    · rw [if_pos hs]
      refine ⟨h1, fun q hq hx ho hb => ?_, ?_⟩
      · by_cases e : q = n
        · subst e
          rcases hs with (hs | hs) | hs
          · exact absurd hs hx
          · rw [ho] at hs; cases hs
          · exact absurd hs hb
        · exact h2 q (by omega) hx ho hb
      · rcases h3 with h3 | ⟨q, hq, h3⟩
        · exact Or.inl h3
        · exact Or.inr ⟨q, by omega, h3⟩
    · rw [if_neg hs]
      have hs1 : n ≠ x := fun e => hs (Or.inl (Or.inl e))
      have hs2 : op n = false := by cases h : op n with | true => exact absurd (Or.inl (Or.inr h)) hs | false => rfl
      have hs3 : m n x ≠ 2305843009213693952 := fun e => hs (Or.inr e)
      by_cases hl : loS m f op x n < f n - m n x
      · rw [if_pos hl]
        refine ⟨by omega, fun q hq hx ho hb => ?_, Or.inr ⟨n, by omega, hs1, hs2, hs3, rfl⟩⟩
        by_cases e : q = n
        · subst e; exact Int.le_refl _
        · have := h2 q (by omega) hx ho hb; omega
      · rw [if_neg hl]
        refine ⟨h1, fun q hq hx ho hb => ?_, ?_⟩
        · by_cases e : q = n
          · subst e; omega
          · exact h2 q (by omega) hx ho hb
        · rcases h3 with h3 | ⟨q, hq, h3⟩
          · exact Or.inl h3
          · exact Or.inr ⟨q, by omega, h3⟩

section
variable {S B : Int} {m : Nat → Nat → Int} {f : Nat → Int} {op : Nat → Bool} {x : Nat}

/-- An open variable has a place. -/
theorem ext_le (h : Cl S m) (hf : MtO m f op) (hb : Bnd B f) (hB : B + S ≤ 576460752303423488) (_hS : 0 ≤ S) (hx : x < 60) : loS m f op x 60 ≤ hiS m f op x 60 := by
  obtain ⟨_, _, h3⟩ := hiS_facts m f op x 60
  obtain ⟨_, _, l3⟩ := loS_facts m f op x 60
  rcases h3 with h3 | ⟨q, hq, hqx, hqo, hqb, h3⟩
  · rcases l3 with l3 | ⟨p, hp, hpx, hpo, hpb, l3⟩
    · omega
    · have := h.small p x hp hx hpb
      have := hb p hp
      omega
  · have hs := h.small x q hx hq hqb
    have hfq := hb q hq
    rcases l3 with l3 | ⟨p, hp, hpx, hpo, hpb, l3⟩
    · omega
    · obtain ⟨t1, t2⟩ := h.tri p x q hp hx hq hpb hqb
      have := hf p q hp hq hpo hqo t1
      omega

theorem ext_in (h : Cl S m) (hb : Bnd B f) (_hB : B + S ≤ 576460752303423488) (hS : 0 ≤ S) (hB0 : 0 ≤ B) (hx : x < 60) : -(B + S) ≤ newV (loS m f op x 60) (hiS m f op x 60) ∧ newV (loS m f op x 60) (hiS m f op x 60) ≤ B + S := by
  obtain ⟨_, _, h3⟩ := hiS_facts m f op x 60
  obtain ⟨_, _, l3⟩ := loS_facts m f op x 60
  unfold newV
  by_cases e1 : -1152921504606846976 < loS m f op x 60
  · rw [if_pos e1]
    rcases l3 with l3 | ⟨p, hp, hpx, hpo, hpb, l3⟩
    · omega
    · have := h.small p x hp hx hpb
      have := hb p hp
      omega
  · rw [if_neg e1]
    by_cases e2 : hiS m f op x 60 < 1152921504606846976
    · rw [if_pos e2]
      rcases h3 with h3 | ⟨q, hq, hqx, hqo, hqb, h3⟩
      · omega
      · have := h.small x q hx hq hqb
        have := hb q hq
        omega
    · rw [if_neg e2]; omega

def clo (op : Nat → Bool) (x q : Nat) : Bool := if q = x then false else op q

theorem ext_meets (h : Cl S m) (hf : MtO m f op) (hb : Bnd B f) (hB : B + S ≤ 576460752303423488) (hS : 0 ≤ S) (hx : x < 60) : MtO m (putF f x (newV (loS m f op x 60) (hiS m f op x 60))) (clo op x) := by
  have hle := ext_le h hf hb hB hS hx
  obtain ⟨h1, h2, _⟩ := hiS_facts m f op x 60
  obtain ⟨l1, l2, _⟩ := loS_facts m f op x 60
  intro p q hp hq op1 op2 hbd
  unfold putF
  unfold clo at op1 op2
  by_cases e1 : p = x
  · subst e1
    rw [if_pos rfl]
    by_cases e2 : q = p
    · subst e2
      rw [if_pos rfl, h.diag q hq]; omega
    · rw [if_neg e2]
      rw [if_neg e2] at op2
      have a := h2 q hq e2 op2 hbd
      have := h.small p q hp hq hbd
      have := hb q hq
      unfold newV
      by_cases e3 : -1152921504606846976 < loS m f op p 60
      · rw [if_pos e3]; omega
      · rw [if_neg e3, if_pos (by omega)]; omega
  · rw [if_neg e1]
    rw [if_neg e1] at op1
    by_cases e2 : q = x
    · subst e2
      rw [if_pos rfl]
      have a := l2 p hp e1 op1 hbd
      have := h.small p q hp hq hbd
      have := hb p hp
      unfold newV
      rw [if_pos (by omega)]; omega
    · rw [if_neg e2]
      rw [if_neg e2] at op2
      exact hf p q hp hq op1 op2 hbd

theorem ext_bnd (h : Cl S m) (hb : Bnd B f) (hB : B + S ≤ 576460752303423488) (hS : 0 ≤ S) (hB0 : 0 ≤ B) (hx : x < 60) : Bnd (B + S) (putF f x (newV (loS m f op x 60) (hiS m f op x 60))) := fun q hq => by
  unfold putF
  split
  · exact ext_in h hb hB hS hB0 hx
  · have := hb q hq; omega
end

/-- What Assign's table is, told at once. -/
def sg (x y p : Nat) : Nat := if p = x then y else p
def dl (x : Nat) (c : Int) (p : Nat) : Int := if p = x then c else 0

theorem asgT_eq {S : Int} {m : Nat → Nat → Int} (h : Cl S m) (hS : S ≤ 64871186038784) {x y : Nat} {c : Int} (hx : x < 60) (hy : y < 60) (hc1 : -1099511627776 ≤ c) (hc2 : c ≤ 1099511627776) {p q : Nat} (hp : p < 60) (hq : q < 60) :
    asgT m x y c p q = if m (sg x y p) (sg x y q) = 2305843009213693952 then 2305843009213693952 else m (sg x y p) (sg x y q) + (dl x c p - dl x c q) := by
  unfold asgT asgW sg dl
  by_cases e1 : p = x
  · subst e1
    rw [if_pos rfl, if_pos rfl]
    by_cases e2 : q = p
    · subst e2
      rw [if_neg (by omega), if_neg (by omega), if_pos rfl, if_pos rfl, h.diag _ hq, h.diag _ hy]
      simp
    · rw [if_pos ⟨rfl, e2, hq⟩, if_neg e2, if_neg e2]
      by_cases e3 : m y q = 2305843009213693952
      · rw [if_pos e3, e3, sm_noneL]
      · have := h.small y q hy hq e3
        rw [if_neg e3, sm_exact e3 (by omega) (by omega) (by omega)]; omega
  · rw [if_neg (show ¬ (p = x ∧ q ≠ x ∧ q < 60) from fun h => e1 h.1), if_neg e1, if_neg e1]
    by_cases e2 : q = x
    · subst e2
      rw [if_pos ⟨rfl, e1, hp⟩, if_pos rfl, if_pos rfl]
      by_cases e3 : m p y = 2305843009213693952
      · rw [if_pos e3, e3, sm_noneL]
      · have := h.small p y hp hy e3
        rw [if_neg e3, sm_exact e3 (by omega) (by omega) (by omega)]; omega
    · rw [if_neg (fun h => e2 h.1), if_neg e2, if_neg e2]
      by_cases e3 : m p q = 2305843009213693952
      · rw [if_pos e3, e3]
      · rw [if_neg e3]; omega

theorem sg_lt {x y p : Nat} (hy : y < 60) (hp : p < 60) : sg x y p < 60 := by unfold sg; split <;> omega

theorem Cl.asg {S : Int} {m : Nat → Nat → Int} (h : Cl S m) (hS : S ≤ 64871186038784) (hS0 : 0 ≤ S) {x y : Nat} {c : Int} (hx : x < 60) (hy : y < 60) (hc1 : -1099511627776 ≤ c) (hc2 : c ≤ 1099511627776) : Cl (S + 1099511627776) (asgT m x y c) := by
  have E := fun (p q : Nat) (hp : p < 60) (hq : q < 60) => asgT_eq h hS hx hy hc1 hc2 hp hq
  refine ⟨fun p hp => ?_, fun p k q hp hk hq h1 h2 => ?_, fun p q hp hq hb => ?_⟩
  · rw [E p p hp hp, h.diag _ (sg_lt hy hp)]; simp
  · rw [E p k hp hk] at h1 ⊢
    rw [E k q hk hq] at h2 ⊢
    rw [E p q hp hq]
    by_cases e1 : m (sg x y p) (sg x y k) = 2305843009213693952
    · rw [if_pos e1] at h1; exact absurd rfl h1
    by_cases e2 : m (sg x y k) (sg x y q) = 2305843009213693952
    · rw [if_pos e2] at h2; exact absurd rfl h2
    obtain ⟨t1, t2⟩ := h.tri _ _ _ (sg_lt hy hp) (sg_lt hy hk) (sg_lt hy hq) e1 e2
    have s := h.small _ _ (sg_lt (x := x) hy hp) (sg_lt (x := x) hy hq) t1
    rw [if_neg e1, if_neg e2, if_neg t1]
    have d1 : -1099511627776 ≤ dl x c p ∧ dl x c p ≤ 1099511627776 := by unfold dl; split <;> omega
    have d2 : -1099511627776 ≤ dl x c q ∧ dl x c q ≤ 1099511627776 := by unfold dl; split <;> omega
    omega
  · rw [E p q hp hq] at hb ⊢
    by_cases e1 : m (sg x y p) (sg x y q) = 2305843009213693952
    · rw [if_pos e1] at hb; exact absurd rfl hb
    rw [if_neg e1]
    have s := h.small _ _ (sg_lt (x := x) hy hp) (sg_lt (x := x) hy hq) e1
    have d : -1099511627776 ≤ dl x c p - dl x c q ∧ dl x c p - dl x c q ≤ 1099511627776 := by unfold dl; split <;> split <;> omega
    omega

/-- Of an assignment that moves a variable by c. -/
theorem asg_back {S : Int} {m : Nat → Nat → Int} (h : Cl S m) (hS : S ≤ 64871186038784) (hS0 : 0 ≤ S) {x : Nat} {c : Int} (hx : x < 60) (hc1 : -1099511627776 ≤ c) (hc2 : c ≤ 1099511627776) {f : Nat → Int} (hf : Mt (asgT m x x c) f) : Mt m (putF f x (f x - c)) := fun p q hp hq hb => by
  have e := asgT_eq h hS hx hx hc1 hc2 hp hq
  have es : ∀ k, sg x x k = k := fun k => by unfold sg; split <;> omega
  rw [es, es, if_neg hb] at e
  have s := h.small p q hp hq hb
  have d : -1099511627776 ≤ dl x c p - dl x c q ∧ dl x c p - dl x c q ≤ 1099511627776 := by unfold dl; split <;> split <;> omega
  have := hf p q hp hq (by rw [e]; omega)
  rw [e] at this
  unfold putF dl at *
  by_cases e1 : p = x
  · subst e1
    rw [if_pos rfl] at this ⊢
    by_cases e2 : q = p
    · subst e2; rw [if_pos rfl] at this ⊢; omega
    · rw [if_neg e2] at this ⊢; omega
  · rw [if_neg e1] at this ⊢
    by_cases e2 : q = x
    · subst e2; rw [if_pos rfl] at this ⊢; omega
    · rw [if_neg e2] at this ⊢; omega

theorem asg_open {S : Int} {m : Nat → Nat → Int} (h : Cl S m) (hS : S ≤ 64871186038784) {x y : Nat} {c : Int} (hx1 : 1 ≤ x) (hx : x < 60) (hy : y < 60) (hc1 : -1099511627776 ≤ c) (hc2 : c ≤ 1099511627776) {f : Nat → Int} (hf : Mt (asgT m x y c) f) : MtO m f (opn [(x : Int)]) := fun p q hp hq h1 h2 hb => by
  have e := asgT_eq h hS hx hy hc1 hc2 hp hq
  unfold opn at h1 h2
  simp only [List.any_cons, List.any_nil, Bool.or_false, decide_eq_false_iff_not, Int.toNat_natCast] at h1 h2
  have n1 : p ≠ x := by omega
  have n2 : q ≠ x := by omega
  unfold sg dl at e
  rw [if_neg n1, if_neg n2, if_neg n1, if_neg n2, if_neg hb] at e
  have := hf p q hp hq (by rw [e]; omega)
  rw [e] at this
  omega

theorem asg_at {S : Int} {m : Nat → Nat → Int} (h : Cl S m) (hS : S ≤ 64871186038784) {x y : Nat} {c : Int} (hx : x < 60) (hy : y < 60) (hxy : x ≠ y) (hc1 : -1099511627776 ≤ c) (hc2 : c ≤ 1099511627776) {f : Nat → Int} (hf : Mt (asgT m x y c) f) : f x = f y + c := by
  have e1 := asgT_eq h hS hx hy hc1 hc2 hx hy
  have e2 := asgT_eq h hS hx hy hc1 hc2 hy hx
  have hyx : y ≠ x := fun e => hxy e.symm
  unfold sg dl at e1 e2
  rw [if_pos rfl, if_neg hyx, if_pos rfl, if_neg hyx, h.diag y hy, if_neg (by omega)] at e1 e2
  have a := hf x y hx hy (by rw [e1]; omega)
  have b := hf y x hy hx (by rw [e2]; omega)
  rw [e1] at a
  rw [e2] at b
  omega

/-- What reaches a bound of With's answer meets what was ahead, and what was added. -/
theorem more_meets {l M : List Cn} {m n : Nat → Nat → Int} (ht : Tight l m) (hn : Tight (l ++ M) n) (hl : Fine 1099511627776 (l ++ M)) (j : Nat) : Mt m (reachF n j 1125899906842624) := fun p q hp hq hb => by
  obtain ⟨k, _, hw⟩ := ht.some p q hp hq hb
  refine walk_meets (l := l) (fun x hx => ?_) hw
  exact reach_edge hn (fun y hy => (hl y hy).1) j (by omega) (by omega) (List.mem_append_left M hx)

end Go.Proofs.YtfpbjjdlchplnaaR
