/- Plain: what Make answers of a list of instructions: the first fault and its instruction, or the flow. No program in sight. -/
import Derived.Test.YtpiiefdaaijgbaaFDmP
import Derived.Test.YtpiiefdaaijgbaaFPl
namespace Go.Fl
/-- The walk is one. -/
theorem Vs.det {nx : Nat → List Nat} {m m' b k : Nat} {s s1 s2 : Sg} (h : Vs nx m b k s s1) : Vs nx m' b k s s2 → s1 = s2 := by
  induction h generalizing m' s2 with
  | fin =>
    intro h2
    cases h2 with
    | fin => rfl
    | skip h => rw [List.getElem?_eq_none (Nat.le_refl _)] at h; cases h
    | down h => rw [List.getElem?_eq_none (Nat.le_refl _)] at h; cases h
  | skip hc hB _ ih =>
    intro h2
    cases h2 with
    | fin => rw [List.getElem?_eq_none (Nat.le_refl _)] at hc; cases hc
    | skip _ _ h => exact ih h
    | down hc' hB' _ _ =>
      rw [hc] at hc'; injection hc' with hc'; subst hc'
      rw [hB] at hB'; cases hB'
  | down hc hB _ _ ih1 ih2 =>
    intro h2
    cases h2 with
    | fin => rw [List.getElem?_eq_none (Nat.le_refl _)] at hc; cases hc
    | skip hc' hB' _ =>
      rw [hc] at hc'; injection hc' with hc'; subst hc'
      rw [hB] at hB'; cases hB'
    | down hc' _ hj h =>
      rw [hc] at hc'; injection hc' with hc'; subst hc'
      have e := ih1 hj
      subst e
      exact ih2 h
/-- What a walk from the block 0 leaves, in order. -/
def DfsL (nx : Nat → List Nat) (D : List Nat) : Prop := ∃ m B, Vs nx m 0 0 (mark (fun _ => false) 0, []) (B, D)
theorem DfsL.det {nx : Nat → List Nat} {D D' : List Nat} (h : DfsL nx D) (h' : DfsL nx D') : D = D' := by
  obtain ⟨m, B, h⟩ := h
  obtain ⟨m', B', h'⟩ := h'
  have := h.det h'
  injection this
theorem DfsL.po {nx : Nat → List Nat} {D : List Nat} (h : DfsL nx D) : Po nx D := by
  obtain ⟨m, B, h⟩ := h
  exact Po.of_run (Run.cons h Run.nil)
open Classical in
/-- The order of the blocks, the last one first. -/
noncomputable def dfsL (nx : Nat → List Nat) : List Nat := if h : ∃ D, DfsL nx D then Classical.choose h else []
theorem DfsL.eq {nx : Nat → List Nat} {D : List Nat} (h : DfsL nx D) : dfsL nx = D := by
  have he : ∃ D, DfsL nx D := ⟨D, h⟩
  unfold dfsL
  rw [dif_pos he]
  exact (Classical.choose_spec he).det h
theorem dfsL_is {nx : Nat → List Nat} {n : Nat} (hn : ∀ u, u < n → ∀ v ∈ nx u, v < n) (h0 : 0 < n) : DfsL nx (dfsL nx) := by
  obtain ⟨m, ⟨B, D⟩, h⟩ := Vs.ex hn (free n (mark (fun _ => false) 0)) (mark (fun _ => false) 0, []) (Nat.le_refl _) (nx 0).length 0 0 h0 (by omega)
  have h' : DfsL nx D := ⟨m, B, h⟩
  rw [h'.eq]
  exact h'

/-- How many blocks. -/
def nB (l : List In) : Nat := (bl l).length
open Classical in
noncomputable def rchB (l : List In) (b : Nat) : Bool := decide (∃ w, RW (nxt l) w b)
open Classical in
noncomputable def turnB (l : List In) (b : Nat) : Bool := decide (Nbr (nxt l) b b)
open Classical in
noncomputable def headB (l : List In) (h : Nat) : Bool := decide (Hd (nxt l) (nB l) h)
open Classical in
noncomputable def lpB (l : List In) (h x : Nat) : Bool := decide (Lp (nxt l) (nB l) h x)
open Classical in
noncomputable def endB (l : List In) : Bool := decide (endOk l)
theorem rchB_iff {l : List In} {b : Nat} : rchB l b = true ↔ ∃ w, RW (nxt l) w b := by unfold rchB; exact @decide_eq_true_iff _ (_)
theorem turnB_iff {l : List In} {b : Nat} : turnB l b = true ↔ Nbr (nxt l) b b := by unfold turnB; exact @decide_eq_true_iff _ (_)
theorem headB_iff {l : List In} {b : Nat} : headB l b = true ↔ Hd (nxt l) (nB l) b := by unfold headB; exact @decide_eq_true_iff _ (_)
theorem lpB_iff {l : List In} {h x : Nat} : lpB l h x = true ↔ Lp (nxt l) (nB l) h x := by unfold lpB; exact @decide_eq_true_iff _ (_)
theorem endB_iff {l : List In} : endB l = true ↔ endOk l := by unfold endB; exact @decide_eq_true_iff _ (_)
noncomputable def heads (l : List In) : List Nat := (List.range (nB l)).filter (headB l)
/-- The first instruction of a block. -/
def frm (l : List In) (b : Nat) : Nat := ((bl l)[b]?.map (·.1)).getD 0
theorem frm_of {l : List In} {b : Nat} {x : Nat × Nat} (h : (bl l)[b]? = some x) : frm l b = x.1 := by unfold frm; rw [h]; rfl
/-- The fault, and its instruction; 0: none; where all blocks are come to. -/
noncomputable def mkE5 (l : List In) : Nat × Int := match (List.range (nB l)).find? (turnB l) with
  | some b => (frm l b, 43)
  | none => if 8 < (heads l).length then (frm l ((heads l).getD 8 0), 45) else (0, 0)
/-- Where each jump goes somewhere. -/
noncomputable def mkE2 (l : List In) : Nat × Int :=
  if endB l = false then (l.length - 1, 40)
  else if 512 < nB l then (frm l 512, 44)
  else match (List.range (nB l)).find? (fun b => !rchB l b) with
    | some b => (frm l b, 42)
    | none => mkE5 l
/-- The fault, and its instruction; 0: none. -/
noncomputable def mkE (l : List In) : Nat × Int :=
  if (chk 0 l).2 ≠ 0 then chk 0 l
  else if l = [] then (0, 26)
  else match (List.range l.length).find? (lost l) with
    | some i => (i, 41)
    | none => mkE2 l
theorem find_first {p : Nat → Bool} {n b : Nat} (hb : b < n) (h : p b = true) (hf : ∀ x, x < b → p x = false) : (List.range n).find? p = some b := by
  rw [List.find?_eq_some_iff_getElem]
  exact ⟨h, b, by simpa using hb, by simp, fun j hj => by simp [hf j hj]⟩
theorem find_no {p : Nat → Bool} {n : Nat} (hf : ∀ x, x < n → p x = false) : (List.range n).find? p = none := by
  rw [List.find?_eq_none]
  intro x hx
  rw [hf x (by simpa using hx)]
  simp
theorem mk_chk {l : List In} (h : (chk 0 l).2 ≠ 0) : mkE l = chk 0 l := by unfold mkE; rw [if_pos h]
theorem mk_nil {l : List In} (h : l = []) : mkE l = (0, 26) := by subst h; unfold mkE; rw [if_neg (by simp [chk]), if_pos rfl]
/-- What holds where all these are passed. -/
structure G1 (l : List In) : Prop where
  ck : (chk 0 l).2 = 0
  ne : l ≠ []
structure G2 (l : List In) : Prop extends G1 l where
  lo : ∀ i, i < l.length → lost l i = false
structure G3 (l : List In) : Prop extends G2 l where
  en : endOk l
structure G4 (l : List In) : Prop extends G3 l where
  n512 : nB l ≤ 512
structure G5 (l : List In) : Prop extends G4 l where
  rch : ∀ b, b < nB l → ∃ w, RW (nxt l) w b
structure G6 (l : List In) : Prop extends G5 l where
  no : ∀ b, b < nB l → ¬ Nbr (nxt l) b b
structure G7 (l : List In) : Prop extends G6 l where
  hd8 : (heads l).length ≤ 8
theorem mk_lost {l : List In} (g : G1 l) {i : Nat} (hi : i < l.length) (h : lost l i = true) (hf : ∀ j, j < i → lost l j = false) : mkE l = (i, 41) := by
  unfold mkE
  rw [if_neg (by rw [g.ck]; simp), if_neg g.ne, find_first hi h hf]
theorem G2.find {l : List In} (g : G2 l) : mkE l = mkE2 l := by
  unfold mkE
  rw [if_neg (by rw [g.ck]; simp), if_neg g.ne, find_no g.lo]
theorem mk_end {l : List In} (g : G2 l) (h : ¬ endOk l) : mkE l = (l.length - 1, 40) := by
  rw [g.find]; unfold mkE2; rw [if_pos]
  cases he : endB l with
  | true => exact absurd (endB_iff.1 he) h
  | false => rfl
theorem G3.endB {l : List In} (g : G3 l) : ¬ (endB l = false) := by rw [endB_iff.2 g.en]; simp
theorem mk_many {l : List In} (g : G3 l) (h : 512 < nB l) : mkE l = (frm l 512, 44) := by rw [g.find]; unfold mkE2; rw [if_neg g.endB, if_pos h]
theorem mk_reach {l : List In} (g : G4 l) {b : Nat} (hb : b < nB l) (h : ¬ ∃ w, RW (nxt l) w b) (hf : ∀ x, x < b → ∃ w, RW (nxt l) w x) : mkE l = (frm l b, 42) := by
  rw [g.find]; unfold mkE2; rw [if_neg g.endB, if_neg (by have := g.n512; omega), find_first (p := fun b => !rchB l b) hb ?_ ?_]
  · cases hr : rchB l b with
    | true => exact absurd (rchB_iff.1 hr) h
    | false => simp
  · intro x hx
    simp [rchB_iff.2 (hf x hx)]
theorem G5.find5 {l : List In} (g : G5 l) : mkE l = mkE5 l := by
  rw [g.find]; unfold mkE2; rw [if_neg g.endB, if_neg (by have := g.n512; omega), find_no (p := fun b => !rchB l b) fun x hx => by simp [rchB_iff.2 (g.rch x hx)]]
theorem mk_turn {l : List In} (g : G5 l) {b : Nat} (hb : b < nB l) (h : Nbr (nxt l) b b) (hf : ∀ x, x < b → ¬ Nbr (nxt l) x x) : mkE l = (frm l b, 43) := by
  rw [g.find5]; unfold mkE5; rw [find_first hb (turnB_iff.2 h) fun x hx => ?_]
  cases hr : turnB l x with
  | true => exact absurd (turnB_iff.1 hr) (hf x hx)
  | false => rfl
theorem G6.find6 {l : List In} (g : G6 l) : mkE l = if 8 < (heads l).length then (frm l ((heads l).getD 8 0), 45) else (0, 0) := by
  rw [g.find5]; unfold mkE5; rw [find_no fun x hx => ?_]
  cases hr : turnB l x with
  | true => exact absurd (turnB_iff.1 hr) (g.no x hx)
  | false => rfl
theorem mk_loops {l : List In} (g : G6 l) (h : 8 < (heads l).length) : mkE l = (frm l ((heads l).getD 8 0), 45) := by rw [g.find6, if_pos h]
theorem mk_fine {l : List In} (g : G7 l) : mkE l = (0, 0) := by rw [g.find6, if_neg (by have := g.hd8; omega)]

/-- The places, the edges back. -/
def ahG (l : List In) : Nat → List Nat := ahd l
theorem G3.pos {l : List In} (g : G3 l) : 0 < nB l := bl_pos g.ne
theorem G3.nlt {l : List In} (g : G3 l) : ∀ u, u < nB l → ∀ v ∈ nxt l u, v < nB l := fun _ hu => nxt_lt g.en hu
theorem G3.dfs {l : List In} (g : G3 l) : DfsL (nxt l) (dfsL (nxt l)) := dfsL_is g.nlt g.pos
theorem rw_lt {nx : Nat → List Nat} {n : Nat} (h0 : 0 < n) (hn : ∀ u, u < n → ∀ v ∈ nx u, v < n) {w : List Nat} {b : Nat} (h : RW nx w b) : b < n := by
  induction h with
  | root => exact h0
  | step _ hv ih => exact hn _ ih _ hv
theorem G3.dlt {l : List In} (g : G3 l) : ∀ b ∈ dfsL (nxt l), b < nB l := fun b hb => by
  obtain ⟨w, hw⟩ := (g.dfs.po.rw b).1 hb
  exact rw_lt g.pos g.nlt hw
theorem G5.mem {l : List In} (g : G5 l) : ∀ b, b < nB l → b ∈ dfsL (nxt l) := fun b hb => (g.dfs.po.rw b).2 (g.rch b hb)
theorem G5.gr {l : List In} (g : G5 l) : Gr (nxt l) (plc (dfsL (nxt l))) (nB l) (ahd l) :=
  g.dfs.po.gr g.mem g.pos g.nlt (fun _ _ _ => mem_ahd) g.dlt
theorem nodup_full {n : Nat} {D : List Nat} (hn : D.Nodup) (h1 : ∀ b, b < n → b ∈ D) (h2 : ∀ b ∈ D, b < n) : D.length = n := by
  have e1 := nodup_len n D hn h2
  have e2 : (List.range n).length ≤ D.length := List.Nodup.length_le_of_subset List.nodup_range fun x hx => h1 x (by simpa using hx)
  simp at e2
  omega
theorem G5.len {l : List In} (g : G5 l) : (dfsL (nxt l)).length = nB l := nodup_full g.dfs.po.nd g.mem g.dlt
theorem G5.plt {l : List In} (g : G5 l) {c : Nat} (hc : c < nB l) : plc (dfsL (nxt l)) c < nB l := by
  have := List.idxOf_lt_length_iff.2 (List.mem_reverse.2 (g.mem c hc))
  rw [List.length_reverse, g.len] at this
  exact this
/-- No edge that leads back in the order is other than a back edge: no round. -/
theorem G5.no_of {l : List In} (g : G5 l) (h : Str (nxt l) (plc (dfsL (nxt l))) (nB l)) : G6 l := ⟨g, fun _ hb => no_round h g.nlt hb⟩
theorem G5.round {l : List In} (g : G5 l) {d : Nat → Option Nat} (hi : Idom (nxt l) (plc (dfsL (nxt l))) (nB l) d) (h : ∃ u v, u < nB l ∧ v ∈ nxt l u ∧ plc (dfsL (nxt l)) v ≤ plc (dfsL (nxt l)) u ∧ ¬ Dom (nxt l) v u) : ∃ b, b < nB l ∧ Nbr (nxt l) b b := by
  obtain ⟨u, v, hu, hv, hle, hnd⟩ := h
  exact ⟨v, g.nlt u hu v hv, g.dfs.po.round g.gr g.mem hi hu hv hle hnd⟩

/-- The loop around the loop i, of the first k. -/
noncomputable def parK (l : List In) (i : Nat) : Nat → Int
  | 0 => -1
  | k + 1 =>
    if k = i ∨ lpB l ((heads l).getD k 0) ((heads l).getD i 0) = false then parK l i k
    else if parK l i k < 0 ∨ ((List.range (nB l)).filter (lpB l ((heads l).getD k 0))).length < ((List.range (nB l)).filter (lpB l ((heads l).getD (parK l i k).toNat 0))).length then (k : Int)
    else parK l i k
theorem parK_lt (l : List In) (i : Nat) : ∀ k, -1 ≤ parK l i k ∧ parK l i k < k
  | 0 => by simp [parK]
  | k + 1 => by
    have ih := parK_lt l i k
    unfold parK
    split
    · omega
    · split <;> omega
end Go.Fl
