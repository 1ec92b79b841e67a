/- Plain: an instruction, what is wrong with one, by the program's words and by the document's rows; both are one. -/
import Derived.Test.YtpiiefdaaijgbaaFGr
namespace Go.Fl

/-- An instruction. -/
structure In where
  op : Int
  nar : Bool
  reg : Bool
  sz : Int
  dst : Int
  src : Int
  off : Int
  imm : Int
deriving DecidableEq
def bw (x lo hi : Int) : Bool := decide (lo ≤ x) && decide (x ≤ hi)
theorem bw_iff {x lo hi : Int} : bw x lo hi = true ↔ lo ≤ x ∧ x ≤ hi := by simp [bw]
theorem bw_no {x lo hi : Int} : bw x lo hi = false ↔ x < lo ∨ hi < x := by
  cases h : bw x lo hi with
  | true => have := bw_iff.1 h; simp; omega
  | false => simp; have : ¬ (lo ≤ x ∧ x ≤ hi) := fun k => by rw [bw_iff.2 k] at h; cases h
             omega

-- The program's words.
def wrD (op : Int) : Bool := bw op 1 23
def wrS5 (imm : Int) : Bool := imm == 225 || imm == 1 || imm == 65 || imm == 81 || imm == 161
def wrS (op imm : Int) : Bool := op == 25 && wrS5 imm
def atm (imm : Int) : Bool := (imm == 0 || imm == 64 || imm == 80 || imm == 160 || imm == 241) || wrS 25 imm
def snd2 (op : Int) : Bool := (bw op 1 15 && op != 14) || op == 24 || bw op 27 37
def uD (x : In) : Bool := x.op != 26 && x.op != 38 && x.op != 39
def uS (x : In) : Bool := (snd2 x.op && x.reg) || x.op == 16 || (bw x.op 22 25 && x.op != 24)
def uO (x : In) : Bool := bw x.op 27 37 || bw x.op 22 25 || (x.op == 26 && !x.nar)
def uI (x : In) : Bool := (snd2 x.op && !x.reg) || x.op == 20 || x.op == 21 || x.op == 25 || x.op == 38 || (x.op == 26 && x.nar)
def szs (l : List Int) (s : Int) : Bool := l.contains s
def formed (x : In) : Bool :=
  if x.op < 1 ∨ 39 < x.op then false
  else if x.op = 16 then x.reg && (x.sz == 8 || x.sz == 16 || (x.sz == 32 && !x.nar))
  else
    (if 17 ≤ x.op ∧ x.op ≤ 19 then x.sz == 16 || x.sz == 32 || x.sz == 64
     else if x.op = 22 ∨ x.op = 24 then x.sz == 1 || x.sz == 2 || x.sz == 4 || x.sz == 8
     else if x.op = 23 then x.sz == 1 || x.sz == 2 || x.sz == 4
     else if x.op = 25 then x.sz == 4 || x.sz == 8
     else x.sz == 0) &&
    ((decide (x.op ≤ 15) || bw x.op 26 37) || !x.nar) && (snd2 x.op || !x.reg)
def isReg (n : Int) (w : Bool) : Bool := decide (0 ≤ n) && decide (n ≤ 10) && !(w && n == 10)
def immFits (x : In) : Bool :=
  if x.op = 20 then true
  else if x.imm < -2147483648 ∨ 2147483647 < x.imm then false
  else if x.op = 4 ∨ x.op = 5 ∨ x.op = 6 ∨ x.op = 7 then x.imm != 0
  else if x.op = 11 ∨ x.op = 12 ∨ x.op = 13 then decide (0 ≤ x.imm) && decide (x.imm < 64) && !(x.nar && decide (32 ≤ x.imm))
  else if x.op = 25 then atm x.imm
  else if x.op = 21 then decide (0 ≤ x.imm)
  else true
/-- What is wrong with it. -/
def right (x : In) : Int :=
  if formed x = false then 21
  else if (uD x && !isReg x.dst (wrD x.op)) || (uS x && !isReg x.src (wrS x.op x.imm)) then 22
  else if (!uD x && x.dst != 0) || (!uS x && x.src != 0) || (!uO x && x.off != 0) || decide (x.off < -32768) || decide (32768 ≤ x.off) then 23
  else if (!uI x && x.imm != 0) || (uI x && !immFits x) then 24
  else 0
def chk (k : Nat) : List In → Nat × Int
  | [] => (0, 0)
  | x :: l => if k = 4096 then (k, 25) else if right x = 0 then chk (k + 1) l else (k, right x)

-- The document's rows.
structure Rw where
  code : Int
  op : Int
  sz : Int
  nar : Bool
  reg : Bool
  dst : Int
  src : Int
  off : Int
  imm : Int
  second : Int
  wr : Bool
deriving DecidableEq
def aluR (op digit off : Int) : List Rw := [
  ⟨16 * digit + 7, op, 0, false, false, -1, 0, off, -1, 0, true⟩, ⟨16 * digit + 15, op, 0, false, true, -1, -1, off, 0, 0, true⟩,
  ⟨16 * digit + 4, op, 0, true, false, -1, 0, off, -1, 0, true⟩, ⟨16 * digit + 12, op, 0, true, true, -1, -1, off, 0, 0, true⟩]
def jmpR (op digit : Int) : List Rw := [
  ⟨16 * digit + 5, op, 0, false, false, -1, 0, -1, -1, 0, false⟩, ⟨16 * digit + 13, op, 0, false, true, -1, -1, -1, 0, 0, false⟩,
  ⟨16 * digit + 6, op, 0, true, false, -1, 0, -1, -1, 0, false⟩, ⟨16 * digit + 14, op, 0, true, true, -1, -1, -1, 0, 0, false⟩]
def rowsA : List Rw := aluR 1 0 0 ++ aluR 2 1 0 ++ aluR 3 2 0 ++ aluR 4 3 0 ++ aluR 6 3 1 ++ aluR 8 4 0 ++ aluR 9 5 0 ++ aluR 11 6 0 ++ aluR 12 7 0 ++ aluR 5 9 0 ++ aluR 7 9 1 ++ aluR 10 10 0 ++ aluR 15 11 0 ++ aluR 13 12 0
def rowsB : List Rw := [
  ⟨0xbf, 16, 8, false, true, -1, -1, 8, 0, 0, true⟩, ⟨0xbc, 16, 8, true, true, -1, -1, 8, 0, 0, true⟩,
  ⟨0xbf, 16, 16, false, true, -1, -1, 16, 0, 0, true⟩, ⟨0xbc, 16, 16, true, true, -1, -1, 16, 0, 0, true⟩,
  ⟨0xbf, 16, 32, false, true, -1, -1, 32, 0, 0, true⟩]
def rowsC : List Rw := [⟨0x87, 14, 0, false, false, -1, 0, 0, 0, 0, true⟩, ⟨0x84, 14, 0, true, false, -1, 0, 0, 0, 0, true⟩]
def swpR (s : Int) : List Rw := [⟨0xd4, 17, s, false, false, -1, 0, 0, s, 0, true⟩, ⟨0xdc, 18, s, false, false, -1, 0, 0, s, 0, true⟩, ⟨0xd7, 19, s, false, false, -1, 0, 0, s, 0, true⟩]
def rowsD : List Rw := swpR 16 ++ swpR 32 ++ swpR 64
def rowsE : List Rw := [⟨0x18, 20, 0, false, false, -1, 0, 0, -1, -1, true⟩, ⟨0x18, 21, 0, false, false, -1, 6, 0, 0, -1, true⟩]
def memR (s d : Int) (a b : Bool) : List Rw :=
  [⟨0x61 + d, 22, s, false, false, -1, -1, -1, 0, 0, true⟩] ++ (if a then [⟨0x81 + d, 23, s, false, false, -1, -1, -1, 0, 0, true⟩] else []) ++
  [⟨0x63 + d, 24, s, false, true, -1, -1, -1, 0, 0, false⟩, ⟨0x62 + d, 24, s, false, false, -1, 0, -1, -1, 0, false⟩] ++ (if b then [⟨0xc3 + d, 25, s, false, false, -1, -1, -1, -1, 0, false⟩] else [])
def rowsF : List Rw := memR 1 0x10 true false ++ memR 2 0x08 true false ++ memR 4 0 true true ++ memR 8 0x18 false true
def rowsG : List Rw := [⟨0x05, 26, 0, false, false, 0, 0, -1, 0, 0, false⟩, ⟨0x06, 26, 0, true, false, 0, 0, 0, -1, 0, false⟩]
def rowsH : List Rw := jmpR 27 1 ++ jmpR 29 2 ++ jmpR 30 3 ++ jmpR 37 4 ++ jmpR 28 5 ++ jmpR 33 6 ++ jmpR 34 7 ++ jmpR 31 10 ++ jmpR 32 11 ++ jmpR 35 12 ++ jmpR 36 13
def rowsI : List Rw := [⟨0x85, 38, 0, false, false, 0, 0, 0, -1, 0, false⟩, ⟨0x95, 39, 0, false, false, 0, 0, 0, 0, 0, false⟩]
def rows : List Rw := rowsA ++ rowsB ++ rowsC ++ rowsD ++ rowsE ++ rowsF ++ rowsG ++ rowsH ++ rowsI

def fit (op sz : Int) (nar reg : Bool) (y : Rw) : Bool := y.op == op && (y.nar == nar && (y.reg == reg && y.sz == sz))
def regsR (y : Rw) (dst src imm : Int) : Bool :=
  if y.dst = -1 ∧ (dst < 0 ∨ 10 < dst ∨ (dst = 10 ∧ y.wr = true)) then false
  else if y.src = -1 ∧ (src < 0 ∨ 10 < src ∨ (src = 10 ∧ y.op = 25 ∧ wrS5 imm = true)) then false
  else true
def goodR (y : Rw) (imm : Int) : Bool :=
  if y.op = 20 then true
  else if imm < -2147483648 ∨ 2147483647 < imm then false
  else if y.op = 4 ∨ y.op = 5 ∨ y.op = 6 ∨ y.op = 7 then imm != 0
  else if y.op = 11 ∨ y.op = 12 ∨ y.op = 13 then (decide (0 ≤ imm) && decide (imm < 32)) || (decide (0 ≤ imm) && decide (imm < 64) && !y.nar)
  else if y.op = 25 then wrS5 imm || (imm == 0 || imm == 64 || imm == 80 || imm == 160 || imm == 241)
  else if y.op = 21 then decide (0 ≤ imm)
  else true
def rightR1 (x : In) (y : Rw) : Int :=
  if regsR y x.dst x.src x.imm = false then 22
  else if (y.dst ≠ -1 ∧ x.dst ≠ 0) ∨ (y.src ≠ -1 ∧ x.src ≠ 0) ∨ (y.off ≠ -1 ∧ x.off ≠ 0) ∨ x.off < -32768 ∨ 32767 < x.off then 23
  else if y.imm ≠ -1 ∧ y.second ≠ -1 ∧ x.imm ≠ 0 then 24
  else if (y.imm = -1 ∨ y.second = -1) ∧ goodR y x.imm = false then 24
  else 0
def rightR (x : In) : Int := match rows.find? (fit x.op x.sz x.nar x.reg) with
  | none => 21
  | some y => rightR1 x y

/-- What a row says of the fields, and the operation's words. -/
def sums (y : Rw) : Bool × Bool × Bool × Bool × Bool × Bool × Bool := (y.dst == -1, y.src == -1, y.off == -1, y.imm == -1 || y.second == -1, y.wr, y.op == 25, y.nar)
def sumF (x : In) : Bool × Bool × Bool × Bool × Bool × Bool × Bool := (uD x, uS x, uO x, uI x, wrD x.op, x.op == 25, x.nar)
def sizes : List Int := [0, 1, 2, 4, 8, 16, 32, 64]
def tabOk (op sz : Int) (nar reg : Bool) : Bool :=
  match rows.find? (fit op sz nar reg) with
  | none => formed ⟨op, nar, reg, sz, 0, 0, 0, 0⟩ == false
  | some y => formed ⟨op, nar, reg, sz, 0, 0, 0, 0⟩ && (uD ⟨op, nar, reg, sz, 0, 0, 0, 0⟩ == (y.dst == -1) && uS ⟨op, nar, reg, sz, 0, 0, 0, 0⟩ == (y.src == -1) && uO ⟨op, nar, reg, sz, 0, 0, 0, 0⟩ == (y.off == -1) &&
      uI ⟨op, nar, reg, sz, 0, 0, 0, 0⟩ == (y.imm == -1 || y.second == -1) && (!uD ⟨op, nar, reg, sz, 0, 0, 0, 0⟩ || wrD op == y.wr) && y.op == op && y.nar == nar)
theorem tab_all : ∀ op ∈ List.range 39, ∀ sz ∈ sizes, ∀ nar ∈ [false, true], ∀ reg ∈ [false, true], tabOk (op + 1 : Nat) sz nar reg = true := by decide +kernel
theorem rows_op : ∀ y ∈ rows, 1 ≤ y.op ∧ y.op ≤ 39 ∧ y.sz ∈ sizes := by decide +kernel
theorem formed_sz {x : In} (h : formed x = true) : (1 ≤ x.op ∧ x.op ≤ 39) ∧ x.sz ∈ sizes := by
  unfold formed at h
  split at h
  · cases h
  · refine ⟨by omega, ?_⟩
    split at h
    · simp only [Bool.and_eq_true, Bool.or_eq_true, beq_iff_eq] at h
      unfold sizes
      rcases h with ⟨_, (h | h) | ⟨h, _⟩⟩ <;> rw [h] <;> decide
    · simp only [Bool.and_eq_true] at h
      obtain ⟨⟨h, _⟩, _⟩ := h
      unfold sizes
      split at h
      · simp only [Bool.or_eq_true, beq_iff_eq] at h
        rcases h with (h | h) | h <;> rw [h] <;> decide
      · split at h
        · simp only [Bool.or_eq_true, beq_iff_eq] at h
          rcases h with ((h | h) | h) | h <;> rw [h] <;> decide
        · split at h
          · simp only [Bool.or_eq_true, beq_iff_eq] at h
            rcases h with (h | h) | h <;> rw [h] <;> decide
          · split at h
            · simp only [Bool.or_eq_true, beq_iff_eq] at h
              rcases h with h | h <;> rw [h] <;> decide
            · simp only [beq_iff_eq] at h
              rw [h]; decide
theorem tab_any {op sz : Int} {nar reg : Bool} (h1 : 1 ≤ op ∧ op ≤ 39) (h2 : sz ∈ sizes) : tabOk op sz nar reg = true := by
  have h := tab_all (op - 1).toNat (by simp; omega) sz h2 nar (by cases nar <;> simp) reg (by cases reg <;> simp)
  have e : (((op - 1).toNat + 1 : Nat) : Int) = op := by omega
  rw [e] at h
  exact h
theorem fit_iff {op sz : Int} {nar reg : Bool} {y : Rw} : fit op sz nar reg y = true ↔ y.op = op ∧ y.nar = nar ∧ y.reg = reg ∧ y.sz = sz := by simp [fit]
/-- Both say the same. -/
theorem right_eq (x : In) : rightR x = right x := by
  unfold rightR
  by_cases hf : (1 ≤ x.op ∧ x.op ≤ 39) ∧ x.sz ∈ sizes
  · have ht := tab_any (nar := x.nar) (reg := x.reg) hf.1 hf.2
    have e0 : formed ⟨x.op, x.nar, x.reg, x.sz, 0, 0, 0, 0⟩ = formed x := rfl
    have e1 : uD ⟨x.op, x.nar, x.reg, x.sz, 0, 0, 0, 0⟩ = uD x := rfl
    have e2 : uS ⟨x.op, x.nar, x.reg, x.sz, 0, 0, 0, 0⟩ = uS x := rfl
    have e3 : uO ⟨x.op, x.nar, x.reg, x.sz, 0, 0, 0, 0⟩ = uO x := rfl
    have e4 : uI ⟨x.op, x.nar, x.reg, x.sz, 0, 0, 0, 0⟩ = uI x := rfl
    unfold tabOk at ht
    cases hr : rows.find? (fit x.op x.sz x.nar x.reg) with
    | none =>
      rw [hr] at ht
      simp only [e0, beq_iff_eq] at ht
      unfold right
      simp [ht]
    | some y =>
      rw [hr] at ht
      simp only [e0, e1, e2, e3, e4, Bool.and_eq_true, beq_iff_eq] at ht
      obtain ⟨t0, ⟨⟨⟨⟨⟨t1, t2⟩, t3⟩, t4⟩, t5⟩, t6⟩, t7⟩ := ht
      have g : goodR y x.imm = immFits x := by
        unfold goodR immFits atm wrS
        rw [t6, t7]
        split
        · rfl
        · split
          · rfl
          · split
            · rfl
            · split
              · cases x.nar <;> simp <;> grind
              · split
                · simp [Bool.or_comm]
                · rfl
      show rightR1 x y = right x
      have d1 : (y.dst = -1) ↔ uD x = true := by rw [t1]; simp
      have d2 : (y.src = -1) ↔ uS x = true := by rw [t2]; simp
      have d3 : (y.off = -1) ↔ uO x = true := by rw [t3]; simp
      have d4 : (y.imm = -1 ∨ y.second = -1) ↔ uI x = true := by rw [t4]; simp
      have d5 : uD x = true → wrD x.op = y.wr := by
        intro h
        rw [h] at t5
        simpa using t5
      have r1 : regsR y x.dst x.src x.imm = !((uD x && !isReg x.dst (wrD x.op)) || (uS x && !isReg x.src (wrS x.op x.imm))) := by
        unfold regsR isReg wrS
        simp only [d1, d2, t6]
        cases hu : uD x
        · cases hs : uS x
          · simp
          · simp; grind
        · rw [d5 hu]
          cases hs : uS x
          · simp; grind
          · simp; grind
      unfold rightR1 right
      rw [t0, r1, g]
      have n4 : (y.imm ≠ -1 ∧ y.second ≠ -1 ∧ x.imm ≠ 0) ↔ (uI x = false ∧ x.imm ≠ 0) := by
        constructor
        · rintro ⟨h1, h2, h3⟩
          refine ⟨?_, h3⟩
          cases hi : uI x with
          | false => rfl
          | true => exact absurd (d4.2 hi) (fun h => h.elim h1 h2)
        · rintro ⟨h1, h3⟩
          refine ⟨fun h => ?_, fun h => ?_, h3⟩
          · rw [d4.1 (Or.inl h)] at h1; cases h1
          · rw [d4.1 (Or.inr h)] at h1; cases h1
      have q1 : y.dst ≠ -1 ↔ uD x = false := by rw [ne_eq, d1]; simp
      have q2 : y.src ≠ -1 ↔ uS x = false := by rw [ne_eq, d2]; simp
      have q3 : y.off ≠ -1 ↔ uO x = false := by rw [ne_eq, d3]; simp
      have q : (32767 < x.off) ↔ 32768 ≤ x.off := by omega
      simp only [Bool.not_eq_false', q1, q2, q3, n4, d4, q]
      clear q1 q2 q3 n4 d1 d2 d3 d4 d5 r1 g t1 t2 t3 t4 t5 e0 e1 e2 e3 e4 hr
      cases uD x <;> cases uS x <;> cases uO x <;> cases uI x <;> simp [or_assoc]
  · have hn : rows.find? (fit x.op x.sz x.nar x.reg) = none := by
      rw [List.find?_eq_none]
      intro y hy hfy
      obtain ⟨h1, _, _, h4⟩ := fit_iff.1 hfy
      obtain ⟨k1, k2, k3⟩ := rows_op y hy
      exact hf ⟨by omega, by rw [← h4]; exact k3⟩
    have hx : formed x = false := by
      cases h : formed x with
      | false => rfl
      | true => exact absurd (formed_sz h) hf
    rw [hn]
    unfold right
    simp [hx]
end Go.Fl
