/- Plain: units, where jumps go, the blocks, their edges; what Make answers. No program in sight. -/
import Derived.Test.YtpiiefdaaijgbaaFIns
namespace Go.Fl

def wd (x : In) : Nat := if x.op = 20 ∨ x.op = 21 then 2 else 1
/-- The unit of the instruction i. -/
def unit (l : List In) (i : Nat) : Nat := ((l.take i).map wd).sum
def units (l : List In) : List Nat := (List.range (l.length + 1)).map (unit l)
theorem unit_zero (l : List In) : unit l 0 = 0 := rfl
theorem unit_succ {l : List In} {i : Nat} {x : In} (h : l[i]? = some x) : unit l (i + 1) = unit l i + wd x := by
  unfold unit
  rw [List.take_add_one, h]
  simp
theorem wd_pos (x : In) : 1 ≤ wd x ∧ wd x ≤ 2 := by unfold wd; split <;> omega
theorem unit_le {l : List In} : ∀ {i : Nat}, i ≤ l.length → i ≤ unit l i ∧ unit l i ≤ 2 * i
  | 0, _ => by simp [unit_zero]
  | i + 1, h => by
    have ih := unit_le (l := l) (i := i) (by omega)
    have hx : l[i]? = some (l[i]'(by omega)) := List.getElem?_eq_getElem (by omega)
    rw [unit_succ hx]
    have := wd_pos (l[i]'(by omega))
    omega
theorem unit_lt {l : List In} {i j : Nat} (hij : i < j) (hj : j ≤ l.length) : unit l i < unit l j := by
  induction j with
  | zero => omega
  | succ j ih =>
    have hx : l[j]? = some (l[j]'(by omega)) := List.getElem?_eq_getElem (by omega)
    rw [unit_succ hx]
    have := wd_pos (l[j]'(by omega))
    rcases Nat.lt_or_ge i j with h | h
    · have := ih h (by omega); omega
    · obtain rfl : i = j := by omega
      omega
def jump (x : In) : Bool := bw x.op 26 37
/-- The unit to which the instruction i goes. -/
def goal (l : List In) (i : Nat) (x : In) : Int := unit l i + 1 + (if x.op = 26 ∧ x.nar = true then x.imm else x.off)
/-- The instruction of a unit. -/
def atU (l : List In) (u : Int) : Option Nat := (List.range l.length).find? fun j => decide ((unit l j : Int) = u)
theorem atU_some {l : List In} {u : Int} {j : Nat} (h : atU l u = some j) : j < l.length ∧ (unit l j : Int) = u := by
  unfold atU at h
  have h1 := List.find?_some h
  have h2 := List.mem_of_find?_eq_some h
  exact ⟨by simpa using h2, by simpa using h1⟩
theorem atU_none {l : List In} {u : Int} (h : atU l u = none) : ∀ j, j < l.length → (unit l j : Int) ≠ u := fun j hj => by
  unfold atU at h
  rw [List.find?_eq_none] at h
  simpa using h j (by simpa using hj)
theorem atU_of {l : List In} {u : Int} {j : Nat} (hj : j < l.length) (h : (unit l j : Int) = u) : atU l u = some j := by
  cases hr : atU l u with
  | none => exact absurd h (atU_none hr j hj)
  | some k =>
    obtain ⟨h1, h2⟩ := atU_some hr
    rcases Nat.lt_trichotomy j k with e | e | e
    · have := unit_lt e (by omega : k ≤ l.length); omega
    · rw [e]
    · have := unit_lt e (by omega : j ≤ l.length); omega
/-- Where the instruction i goes; none: nowhere, or it is no jump. -/
def tgt (l : List In) (i : Nat) : Option Nat := match l[i]? with
  | none => none
  | some x => if jump x then atU l (goal l i x) else none
/-- -1, or the number. -/
def oi : Option Nat → Int
  | none => -1
  | some n => n
theorem oi_some (n : Nat) : oi (some n) = n := rfl
/-- Does a jump go nowhere? -/
def lost (l : List In) (i : Nat) : Bool := match l[i]? with
  | none => false
  | some x => jump x && (atU l (goal l i x)).isNone
def ends (x : In) : Bool := jump x || x.op == 39
/-- Does a block begin at the instruction i? -/
def lead (l : List In) (i : Nat) : Bool := i == 0 || ((List.range l.length).any fun j => tgt l j == some i) || (match i with | 0 => false | k + 1 => match l[k]? with | none => false | some x => ends x)
/-- The blocks of the first i instructions. -/
def setTo (bs : List (Nat × Nat)) (t : Nat) : List (Nat × Nat) := match bs.reverse with
  | [] => []
  | b :: r => ((b.1, t) :: r).reverse
def blks (ld : Nat → Bool) : Nat → List (Nat × Nat)
  | 0 => []
  | i + 1 => if ld i then blks ld i ++ [(i, i + 1)] else setTo (blks ld i) (i + 1)
/-- The blocks of the first i instructions' instructions. -/
def ofs (ld : Nat → Bool) : Nat → List Nat
  | 0 => []
  | i + 1 => ofs ld i ++ [(blks ld (i + 1)).length - 1]
theorem ofs_len (ld : Nat → Bool) : ∀ i, (ofs ld i).length = i
  | 0 => rfl
  | i + 1 => by simp [ofs, ofs_len ld i]
theorem setTo_len (bs : List (Nat × Nat)) (t : Nat) : (setTo bs t).length = bs.length := by
  unfold setTo
  cases h : bs.reverse with
  | nil => have := congrArg List.length h; simp at this; simp [this]
  | cons b r => have := congrArg List.length h; simp at this; simp; omega
theorem setTo_snoc (bs : List (Nat × Nat)) (b : Nat × Nat) (t : Nat) : setTo (bs ++ [b]) t = bs ++ [(b.1, t)] := by
  unfold setTo; simp
theorem blks_succ (ld : Nat → Bool) (i : Nat) : blks ld (i + 1) = if ld i then blks ld i ++ [(i, i + 1)] else setTo (blks ld i) (i + 1) := rfl
theorem ofs_succ (ld : Nat → Bool) (i : Nat) : ofs ld (i + 1) = ofs ld i ++ [(blks ld (i + 1)).length - 1] := rfl
/-- How many begin among the first i. -/
theorem blks_len (ld : Nat → Bool) : ∀ i, (blks ld i).length = ((List.range i).filter ld).length
  | 0 => rfl
  | i + 1 => by
    rw [List.range_succ, List.filter_append, List.length_append, ← blks_len ld i, blks_succ]
    cases h : ld i <;> simp [h, setTo_len]
theorem blks_ne {ld : Nat → Bool} (h0 : ld 0 = true) {i : Nat} (hi : 0 < i) : blks ld i ≠ [] := by
  intro e
  have h := blks_len ld i
  rw [e] at h
  have hm : 0 ∈ (List.range i).filter ld := List.mem_filter.2 ⟨by simpa using hi, h0⟩
  cases hf : (List.range i).filter ld with
  | nil => rw [hf] at hm; cases hm
  | cons x r => rw [hf] at h; simp at h
/-- The blocks lie one behind the other. -/
structure Lay (bs : List (Nat × Nat)) (i : Nat) : Prop where
  fst : ∀ b, bs[0]? = some b → b.1 = 0
  nxt : ∀ k b c, bs[k]? = some b → bs[k + 1]? = some c → c.1 = b.2
  pos : ∀ b ∈ bs, b.1 < b.2
  lst : ∀ b, bs.getLast? = some b → b.2 = i
theorem lay_blks {ld : Nat → Bool} (h0 : ld 0 = true) : ∀ i, Lay (blks ld i) i
  | 0 => ⟨by simp [blks], by simp [blks], by simp [blks], by simp [blks]⟩
  | i + 1 => by
    have ih := lay_blks h0 i
    by_cases hi : i = 0
    · subst hi
      have e : blks ld (0 + 1) = [(0, 1)] := by simp [blks, h0]
      rw [e]
      exact ⟨by simp, by simp, by simp, by simp⟩
    · have hne := blks_ne h0 (i := i) (by omega)
      obtain ⟨bs, c, hb⟩ : ∃ bs c, blks ld i = bs ++ [c] := ⟨_, _, (List.dropLast_concat_getLast hne).symm⟩
      have hc : c.2 = i := ih.lst c (by rw [hb]; simp)
      rw [blks_succ]
      by_cases hl : ld i = true
      · rw [if_pos hl]
        refine ⟨fun b hb0 => ?_, fun k b d h1 h2 => ?_, fun b hb => ?_, by simp⟩
        · rw [List.getElem?_append_left (by rw [hb]; simp)] at hb0
          exact ih.fst b hb0
        · have hk : k < (blks ld i).length := by
            have := (List.getElem?_eq_some_iff.1 h2).1
            simp at this
            omega
          rw [List.getElem?_append_left hk] at h1
          by_cases hk2 : k + 1 < (blks ld i).length
          · rw [List.getElem?_append_left hk2] at h2
            exact ih.nxt k b d h1 h2
          · have e : k + 1 = (blks ld i).length := by omega
            rw [List.getElem?_append_right (by omega), e, Nat.sub_self] at h2
            simp at h2
            subst h2
            have e2 : bs.length = k := by rw [hb] at e; simp at e; omega
            rw [hb, List.getElem?_append_right (by omega), e2, Nat.sub_self] at h1
            simp at h1
            subst h1
            exact hc.symm
        · rcases List.mem_append.1 hb with hb | hb
          · exact ih.pos b hb
          · simp at hb; subst hb; simp
      · rw [if_neg hl, hb, setTo_snoc]
        rw [hb] at ih
        have hpos := ih.pos c (by simp)
        refine ⟨fun b hb0 => ?_, fun k b d h1 h2 => ?_, fun b hb => ?_, by simp⟩
        · cases bs with
          | nil => simp at hb0; subst hb0; exact ih.fst c (by simp)
          | cons x r => exact ih.fst b (by simpa using hb0)
        · have hk : k < bs.length := by
            have := (List.getElem?_eq_some_iff.1 h2).1
            simp at this
            omega
          rw [List.getElem?_append_left hk] at h1
          by_cases hk2 : k + 1 < bs.length
          · rw [List.getElem?_append_left hk2] at h2
            exact ih.nxt k b d (by rw [List.getElem?_append_left hk]; exact h1) (by rw [List.getElem?_append_left hk2]; exact h2)
          · have e : k + 1 = bs.length := by omega
            rw [List.getElem?_append_right (by omega), e, Nat.sub_self] at h2
            simp at h2
            subst h2
            exact ih.nxt k b c (by rw [List.getElem?_append_left hk]; exact h1) (by rw [List.getElem?_append_right (by omega), e, Nat.sub_self]; rfl)
        · rcases List.mem_append.1 hb with hb | hb
          · exact ih.pos b (List.mem_append_left _ hb)
          · simp at hb; subst hb; show c.1 < i + 1; omega
/-- The graph of a list of instructions. -/
def bl (l : List In) : List (Nat × Nat) := blks (lead l) l.length
def ofl (l : List In) : List Nat := ofs (lead l) l.length
def nxt (l : List In) (b : Nat) : List Nat := match (bl l)[b]? with
  | none => []
  | some p => (match tgt l (p.2 - 1) with | none => [] | some t => [(ofl l).getD t 0]) ++ (match l[p.2 - 1]? with | none => [] | some x => if x.op = 26 ∨ x.op = 39 then [] else [b + 1])
/-- From where edges lead to b, in their order. -/
def ahd (l : List In) (b : Nat) : List Nat := (List.range (bl l).length).flatMap fun u => ((nxt l u).filter fun v => v == b).map fun _ => u
theorem mem_ahd {l : List In} {u b : Nat} : u ∈ ahd l b ↔ u < (bl l).length ∧ b ∈ nxt l u := by
  unfold ahd
  simp only [List.mem_flatMap, List.mem_range, List.mem_map, List.mem_filter, beq_iff_eq]
  constructor
  · rintro ⟨a, h1, c, ⟨h2, h3⟩, rfl⟩
    exact ⟨h1, h3 ▸ h2⟩
  · rintro ⟨h1, h2⟩
    exact ⟨u, h1, b, ⟨h2, rfl⟩, rfl⟩
theorem ofs_lt {ld : Nat → Bool} (h0 : ld 0 = true) : ∀ i t, t < i → (ofs ld i).getD t 0 < (blks ld i).length
  | 0, _, h => by omega
  | i + 1, t, h => by
    have hl := ofs_len ld i
    have hm : (blks ld i).length ≤ (blks ld (i + 1)).length := by
      rw [blks_len, blks_len, List.range_succ, List.filter_append, List.length_append]; omega
    have hp : 0 < (blks ld (i + 1)).length := List.length_pos_iff.2 (blks_ne h0 (by omega))
    rw [ofs_succ, List.getD_eq_getElem?_getD]
    rcases Nat.lt_or_ge t i with e | e
    · have := ofs_lt h0 i t e
      rw [List.getD_eq_getElem?_getD] at this
      rw [List.getElem?_append_left (by omega)]
      omega
    · obtain rfl : t = i := by omega
      rw [List.getElem?_append_right (by omega), hl, Nat.sub_self]
      simp
      omega
theorem lead0 (l : List In) : lead l 0 = true := by simp [lead]
/-- The last instruction is one of the two that may be. -/
def endOk (l : List In) : Prop := ∃ x, l.getLast? = some x ∧ (x.op = 26 ∨ x.op = 39)
theorem bl_pos {l : List In} (h : l ≠ []) : 0 < (bl l).length := List.length_pos_iff.2 (blks_ne (lead0 l) (List.length_pos_iff.2 h))
theorem lay (l : List In) : Lay (bl l) l.length := lay_blks (lead0 l) _
theorem lay_le {bs : List (Nat × Nat)} {i : Nat} (h : Lay bs i) : ∀ {k : Nat} {b : Nat × Nat}, bs[k]? = some b → b.2 ≤ i := by
  intro k
  have key : ∀ m k b, bs.length = k + 1 + m → bs[k]? = some b → b.2 ≤ i := by
    intro m
    induction m with
    | zero =>
      intro k b e hb
      have : bs.getLast? = some b := by rw [List.getLast?_eq_getElem?, e]; exact hb
      exact Nat.le_of_eq (h.lst b this)
    | succ m ih =>
      intro k b e hb
      have hc : bs[k + 1]? = some (bs[k + 1]'(by omega)) := List.getElem?_eq_getElem (by omega)
      have h1 := h.nxt k b _ hb hc
      have h2 := h.pos _ (List.mem_of_getElem? hc)
      have h3 := ih (k + 1) _ (by omega) hc
      omega
  intro b hb
  have hk := (List.getElem?_eq_some_iff.1 hb).1
  exact key (bs.length - (k + 1)) k b (by omega) hb
theorem nxt_lt {l : List In} (he : endOk l) {u : Nat} (hu : u < (bl l).length) : ∀ v ∈ nxt l u, v < (bl l).length := by
  intro v hv
  unfold nxt at hv
  have hb : (bl l)[u]? = some ((bl l)[u]) := List.getElem?_eq_getElem hu
  rw [hb] at hv
  simp only at hv
  rcases List.mem_append.1 hv with hv | hv
  · cases ht : tgt l ((bl l)[u].2 - 1) with
    | none => rw [ht] at hv; cases hv
    | some t =>
      rw [ht] at hv
      simp only [List.mem_singleton] at hv
      subst hv
      have htl : t < l.length := by
        unfold tgt at ht
        split at ht
        · cases ht
        · split at ht
          · exact (atU_some ht).1
          · cases ht
      exact ofs_lt (lead0 l) _ _ htl
  · cases hx : l[(bl l)[u].2 - 1]? with
    | none => rw [hx] at hv; cases hv
    | some x =>
      rw [hx] at hv
      simp only at hv
      split at hv
      · cases hv
      · rename_i hop
        simp only [List.mem_singleton] at hv
        subst hv
        rcases Nat.lt_or_ge (u + 1) (bl l).length with e | e
        · exact e
        · exfalso
          obtain ⟨y, h1, h2⟩ := he
          have hlast : (bl l).getLast? = some (bl l)[u] := by
            rw [List.getLast?_eq_getElem?]
            have : (bl l).length - 1 = u := by omega
            rw [this]; exact hb
          have h3 := (lay l).lst _ hlast
          rw [h3] at hx
          rw [List.getLast?_eq_getElem?, hx] at h1
          injection h1 with h1
          subst h1
          exact hop h2
end Go.Fl
