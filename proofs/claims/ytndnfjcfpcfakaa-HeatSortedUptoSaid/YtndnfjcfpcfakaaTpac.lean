/- What the law needs, one part after another: walks of functions and plain laws. No conditions but those that each law names. -/
import Derived.Test.YtndnfjcfpcfakaaTpab
import Derived.Maps.Own
import Derived.Maps.OwnOps
import Derived.Maps.OwnSet
import Derived.Maps.Views
import Derived.OwnWalk
import Derived.Deep.LoopGhost
import Derived.Deep.AppendLies
namespace Go.Fl
section
variable {nx : Nat → List Nat} {pl : Nat → Nat} {n : Nat} {ah : Nat → List Nat}
def tab0 : Nat → Option Nat := fun b => if b = 0 then some 0 else none
theorem tab0_tb (h0 : 0 < n) : Tb nx pl n tab0 := by
 have key : ∀ b z, tab0 b = some z → b = 0 ∧ z = 0 := fun b z h => by
  unfold tab0 at h
  split at h
  ·injection h with h; exact ⟨by assumption, h.symm⟩
  ·cases h
 refine ⟨rfl, fun b z h hb => absurd (key b z h).1 hb, fun b z h => ?_, fun b z h => ?_, fun b z h a ha hd => ?_⟩
 ·obtain ⟨rfl, rfl⟩ := key b z h; exact ⟨h0, h0, rfl⟩
 ·obtain ⟨rfl, rfl⟩ := key b z h; exact Fp.refl
 ·obtain ⟨rfl, rfl⟩ := key b z h; exact absurd hd.zero ha
structure Rn (nx : Nat → List Nat) (pl : Nat → Nat) (n : Nat) (ah : Nat → List Nat) (k i : Nat) (d : Nat → Option Nat) (more : Bool) : Prop where
 ps : Ps nx pl n k i d
 st : more = false → ∀ b, b < n → b ≠ 0 → pl b < i → Bst d (ah b) (d b) ∧ (d b).isSome
 fx : n ≤ k → more = false
theorem Ps.begin (g : Gr nx pl n ah) : Ps nx pl n 0 1 tab0 := ⟨tab0_tb g.n0, fun c hc h0 hp => by have := g.pos c hc h0; omega, fun _ _ _ => Or.inl rfl⟩
theorem Rn.start (g : Gr nx pl n ah) {k : Nat} {d : Nat → Option Nat} (h : Ps nx pl n k 1 d) : Rn nx pl n ah k 1 d false := ⟨h, fun _ b hb h0 hp => by have := g.pos b hb h0; omega, fun _ => rfl⟩
theorem put_same {d : Nat → Option Nat} {b z : Nat} (h : d b = some z) : put d b z = d := by
 funext x
 by_cases e : x = b
 ·subst e; rw [put_self, h]
 ·rw [put_ne e]
theorem Rn.same (g : Gr nx pl n ah) {k : Nat} {d : Nat → Option Nat} {more : Bool} {b z : Nat} (h : Rn nx pl n ah k (pl b) d more) (hb : b < n) (h0 : b ≠ 0) (hz : Bst d (ah b) (some z)) (e : d b = some z) : Rn nx pl n ah k (pl b + 1) d more := by
 have hn := h.ps.next g hb h0 hz
 rw [put_same e] at hn
 refine ⟨hn, fun hm c hc hc0 hp => ?_, h.fx⟩
 by_cases hcb : c = b
 ·subst hcb; rw [e]; exact ⟨hz, rfl⟩
 ·have : pl c ≠ pl b := fun e => hcb (g.inj c b hc hb e)
  exact h.st hm c hc hc0 (by omega)
theorem Rn.diff (g : Gr nx pl n ah) {k : Nat} {d : Nat → Option Nat} {more : Bool} {b z : Nat} (h : Rn nx pl n ah k (pl b) d more) (hb : b < n) (h0 : b ≠ 0) (hz : Bst d (ah b) (some z)) (e : d b ≠ some z) : Rn nx pl n ah k (pl b + 1) (put d b z) true :=
 ⟨h.ps.next g hb h0 hz, fun hm => (by cases hm), fun hk => absurd (h.ps.still g hk hb h0 hz) e⟩
theorem Rn.next (g : Gr nx pl n ah) {k i : Nat} {d : Nat → Option Nat} (h : Rn nx pl n ah k i d true) (hi : ∀ c, c < n → pl c < i) : k < n ∧ Ps nx pl n (k + 1) 1 d := by
 refine ⟨?_, h.ps.tb, fun c hc h0 hp => by have := g.pos c hc h0; omega, h.ps.done hi⟩
 rcases Nat.lt_or_ge k n with e | e
 ·exact e
 ·have := h.fx e; cases this
theorem Rn.stop (g : Gr nx pl n ah) {k i : Nat} {d : Nat → Option Nat} (h : Rn nx pl n ah k i d false) (hi : ∀ c, c < n → pl c < i) : Idom nx pl n d :=
 idom_fix g h.ps.tb fun b hb h0 => h.st rfl b hb h0 (hi b hb)
structure Tw (nx : Nat → List Nat) (b : Nat) (V : Nat → Bool) (S : List Nat) (u j : Nat) : Prop where
 cl : ∀ x, (x = b ∨ V x = true) → x ∉ S → x ≠ u → ∀ y, Nb nx x y → V y = true ∧ y ≠ b
 cu : ∀ y ∈ (nx u).take j, ¬ Dom nx y u → V y = true ∧ y ≠ b
 rs : ∀ x ∈ S, x = b ∨ Nbr nx b x
 ru : u = b ∨ Nbr nx b u
structure Tc (nx : Nat → List Nat) (b : Nat) (V : Nat → Bool) (S : List Nat) : Prop where
 cl : ∀ x, (x = b ∨ V x = true) → x ∉ S → ∀ y, Nb nx x y → V y = true ∧ y ≠ b
 rs : ∀ x ∈ S, x = b ∨ Nbr nx b x
theorem Tc.start (nx : Nat → List Nat) (b : Nat) : Tc nx b (fun _ => false) [b] :=
 ⟨fun x hx hs => by
  rcases hx with rfl | hx
  ·exact absurd (by simp) hs
  ·exact absurd hx (by simp), fun x hx => Or.inl (by simpa using hx)⟩
section
variable {b u j y : Nat} {V : Nat → Bool} {S : List Nat}
theorem Tc.pop (c : Tc nx b V (S ++ [u])) : Tw nx b V S u 0 := ⟨fun x hx hs hu => c.cl x hx (by simp [hs, hu]), by simp, fun x hx => c.rs x (by simp [hx]), c.rs u (by simp)⟩
theorem Tw.back (c : Tw nx b V S u j) (hy : (nx u)[j]? = some y) (hd : Dom nx y u) : Tw nx b V S u (j + 1) := ⟨c.cl, fun z hz hnd => by
 rw [List.take_add_one, hy] at hz
 rcases List.mem_append.1 hz with hz | hz
 ·exact c.cu z hz hnd
 ·simp at hz; subst hz; exact absurd hd hnd, c.rs, c.ru⟩
theorem Tw.to (c : Tw nx b V S u j) (hy : (nx u)[j]? = some y) (hd : ¬ Dom nx y u) : Nbr nx b y := by
 have hn : Nb nx u y := ⟨List.mem_of_getElem? hy, hd⟩
 rcases c.ru with h | h
 ·subst h; exact Nbr.one hn
 ·exact Nbr.more h hn
theorem Tw.old (c : Tw nx b V S u j) (hy : (nx u)[j]? = some y) (hv : V y = true) (hb : y ≠ b) : Tw nx b V S u (j + 1) := ⟨c.cl, fun z hz hnd => by
 rw [List.take_add_one, hy] at hz
 rcases List.mem_append.1 hz with hz | hz
 ·exact c.cu z hz hnd
 ·simp at hz; subst hz; exact ⟨hv, hb⟩, c.rs, c.ru⟩
theorem Tw.new (c : Tw nx b V S u j) (hy : (nx u)[j]? = some y) (hd : ¬ Dom nx y u) (hb : y ≠ b) : Tw nx b (mark V y) (S ++ [y]) u (j + 1) :=
 ⟨fun x hx hs hu z hz => by
  have hne : x ≠ y := fun e => hs (by simp [e])
  rw [mark_ne hne] at hx
  obtain ⟨h1, h2⟩ := c.cl x hx (fun e => hs (by simp [e])) hu z hz
  exact ⟨mark_iff.2 (Or.inr h1), h2⟩, fun z hz hnd => by
  rw [List.take_add_one, hy] at hz
  rcases List.mem_append.1 hz with hz | hz
  ·obtain ⟨h1, h2⟩ := c.cu z hz hnd
   exact ⟨mark_iff.2 (Or.inr h1), h2⟩
  ·simp at hz; subst hz; exact ⟨mark_self _ _, hb⟩, fun x hx => by
  rcases List.mem_append.1 hx with hx | hx
  ·exact c.rs x hx
  ·simp at hx; subst hx; exact Or.inr (c.to hy hd), c.ru⟩
theorem Tw.done (c : Tw nx b V S u (nx u).length) : Tc nx b V S := ⟨fun x hx hs => by
 by_cases e : x = u
 ·subst e
  intro y hy
  exact c.cu y (by rw [List.take_length]; exact hy.1) hy.2
 ·exact c.cl x hx hs e, c.rs⟩
theorem Tc.none (c : Tc nx b V []) : ¬ Nbr nx b b := by
 have key : ∀ y, Nbr nx b y → V y = true ∧ y ≠ b := fun y h => by
  induction h with
  | one hv => exact c.cl b (Or.inl rfl) (by simp) _ hv
  | more _ hv ih => exact c.cl _ (Or.inr ih.1) (by simp) _ hv
 exact fun h => (key b h).2 rfl
end
def Rc (nx : Nat → List Nat) (wo : Int) (x : Nat) : Prop := ∃ l, RW nx l x ∧ ∀ y ∈ l, (y : Int) ≠ wo
theorem Rc.dom {a x : Nat} : Dom nx a x ↔ ¬ Rc nx (a : Int) x := by
 constructor
 ·rintro h ⟨l, h1, h2⟩
  exact h2 a (h l h1) rfl
 ·intro h l hl
  refine Classical.byContradiction fun hn => h ⟨l, hl, fun y hy e => hn ?_⟩
  have : y = a := by omega
  exact this ▸ hy
theorem Rc.any {x : Nat} : Rc nx (-1) x ↔ ∃ l, RW nx l x := ⟨fun ⟨l, h, _⟩ => ⟨l, h⟩, fun ⟨l, h⟩ => ⟨l, h, fun y _ => by omega⟩⟩
theorem Rc.step {wo : Int} {u v : Nat} (h : Rc nx wo u) (hv : v ∈ nx u) (hw : (v : Int) ≠ wo) : Rc nx wo v := by
 obtain ⟨l, h1, h2⟩ := h
 exact ⟨_, RW.step h1 hv, fun y hy => by
  rcases List.mem_cons.1 hy with rfl | hy
  ·exact hw
  ·exact h2 y hy⟩
theorem Rc.zero {wo : Int} (h : (0 : Int) ≠ wo) : Rc nx wo 0 := ⟨[0], RW.root, fun y hy => by simp at hy; subst hy; exact h⟩
structure Wk (nx : Nat → List Nat) (ok : Nat → Nat → Prop) (P : Nat → Prop) (V : Nat → Bool) (T : List Nat) (i j : Nat) : Prop where
 mem : ∀ x, V x = true → x ∈ T
 sound : ∀ x ∈ T, P x
 cl : ∀ x ∈ T.take i, ∀ y ∈ nx x, ok x y → V y = true
 cu : ∀ x, T[i]? = some x → ∀ y ∈ (nx x).take j, ok x y → V y = true
section
variable {ok : Nat → Nat → Prop} {P : Nat → Prop} {V : Nat → Bool} {T : List Nat} {i j x y : Nat}
theorem Wk.skip (c : Wk nx ok P V T i j) (hx : T[i]? = some x) (hy : (nx x)[j]? = some y) (h : ok x y → V y = true) : Wk nx ok P V T i (j + 1) :=
 ⟨c.mem, c.sound, c.cl, fun x' hx' z hz hk => by
  rw [hx] at hx'
  injection hx' with hx'
  subst hx'
  rw [List.take_add_one, hy] at hz
  rcases List.mem_append.1 hz with hz | hz
  ·exact c.cu x hx z hz hk
  ·simp at hz; subst hz; exact h hk⟩
theorem Wk.add (c : Wk nx ok P V T i j) (hx : T[i]? = some x) (hy : (nx x)[j]? = some y) (hp : P y) : Wk nx ok P (mark V y) (T ++ [y]) i (j + 1) := by
 have hi : i < T.length := (List.getElem?_eq_some_iff.1 hx).1
 refine ⟨fun z hz => ?_, fun z hz => ?_, fun z hz w hw hk => ?_, fun x' hx' z hz hk => ?_⟩
 ·rcases mark_iff.1 hz with rfl | hz
  ·simp
  ·exact List.mem_append_left _ (c.mem z hz)
 ·rcases List.mem_append.1 hz with hz | hz
  ·exact c.sound z hz
  ·simp at hz; subst hz; exact hp
 ·rw [List.take_append_of_le_length (by omega)] at hz
  exact mark_iff.2 (Or.inr (c.cl z hz w hw hk))
 ·rw [List.getElem?_append_left hi, hx] at hx'
  injection hx' with hx'
  subst hx'
  rw [List.take_add_one, hy] at hz
  rcases List.mem_append.1 hz with hz | hz
  ·exact mark_iff.2 (Or.inr (c.cu x hx z hz hk))
  ·simp at hz; subst hz; exact mark_self _ _
theorem Wk.next (c : Wk nx ok P V T i (nx x).length) (hx : T[i]? = some x) : Wk nx ok P V T (i + 1) 0 := by
 refine ⟨c.mem, c.sound, fun z hz w hw hk => ?_, fun _ _ z hz => by simp at hz⟩
 rw [List.take_add_one, hx] at hz
 rcases List.mem_append.1 hz with hz | hz
 ·exact c.cl z hz w hw hk
 ·simp at hz
  subst hz
  exact c.cu z hx w (by rw [List.take_length]; exact hw) hk
theorem Wk.done (c : Wk nx ok P V T T.length 0) : ∀ x ∈ T, ∀ y ∈ nx x, ok x y → V y = true := fun x hx => c.cl x (by rw [List.take_length]; exact hx)
end
theorem Rc.sub {wo : Int} {V : Nat → Bool} (h0 : (0 : Int) ≠ wo → V 0 = true) (hc : ∀ x, V x = true → ∀ y ∈ nx x, (y : Int) ≠ wo → V y = true) : ∀ x, Rc nx wo x → V x = true := by
 rintro x ⟨l, h1, h2⟩
 induction h1 with
 | root => exact h0 (h2 0 (by simp))
 | @step l u v _ hv ih => exact hc u (ih fun y hy => h2 y (List.mem_cons_of_mem _ hy)) v hv (h2 v (by simp))
theorem Nbr.sub {b : Nat} {V : Nat → Bool} (h0 : ∀ y, Nb nx b y → V y = true) (hc : ∀ x, V x = true → ∀ y, Nb nx x y → V y = true) : ∀ x, Nbr nx b x → V x = true := fun x h => by
 induction h with
 | one hv => exact h0 _ hv
 | more _ hv ih => exact hc _ ih _ hv
end
end Go.Fl
namespace Go.Fl
theorem Vs.det {nx : Nat → List Nat} {m m' b k : Nat} {s s1 s2 : Sg} (h : Vs nx m b k s s1) : Vs nx m' b k s s2 → s1 = s2 := by
 induction h generalizing m' s2 with
 | fin =>
  intro h2
  cases h2 with
  | fin => rfl
  | skip h => rw [List.getElem?_eq_none (Nat.le_refl _)] at h; cases h
  | down h => rw [List.getElem?_eq_none (Nat.le_refl _)] at h; cases h
 | skip hc hB _ ih =>
  intro h2
  cases h2 with
  | fin => rw [List.getElem?_eq_none (Nat.le_refl _)] at hc; cases hc
  | skip _ _ h => exact ih h
  | down hc' hB' _ _ =>
   rw [hc] at hc'; injection hc' with hc'; subst hc'
   rw [hB] at hB'; cases hB'
 | down hc hB _ _ ih1 ih2 =>
  intro h2
  cases h2 with
  | fin => rw [List.getElem?_eq_none (Nat.le_refl _)] at hc; cases hc
  | skip hc' hB' _ =>
   rw [hc] at hc'; injection hc' with hc'; subst hc'
   rw [hB] at hB'; cases hB'
  | down hc' _ hj h =>
   rw [hc] at hc'; injection hc' with hc'; subst hc'
   have e := ih1 hj
   subst e
   exact ih2 h
def DfsL (nx : Nat → List Nat) (D : List Nat) : Prop := ∃ m B, Vs nx m 0 0 (mark (fun _ => false) 0, []) (B, D)
theorem DfsL.det {nx : Nat → List Nat} {D D' : List Nat} (h : DfsL nx D) (h' : DfsL nx D') : D = D' := by
 obtain ⟨m, B, h⟩ := h
 obtain ⟨m', B', h'⟩ := h'
 have := h.det h'
 injection this
theorem DfsL.po {nx : Nat → List Nat} {D : List Nat} (h : DfsL nx D) : Po nx D := by
 obtain ⟨m, B, h⟩ := h
 exact Po.of_run (Run.cons h Run.nil)
open Classical in
noncomputable def dfsL (nx : Nat → List Nat) : List Nat := if h : ∃ D, DfsL nx D then Classical.choose h else []
theorem DfsL.eq {nx : Nat → List Nat} {D : List Nat} (h : DfsL nx D) : dfsL nx = D := by
 have he : ∃ D, DfsL nx D := ⟨D, h⟩
 unfold dfsL
 rw [dif_pos he]
 exact (Classical.choose_spec he).det h
theorem dfsL_is {nx : Nat → List Nat} {n : Nat} (hn : ∀ u, u < n → ∀ v ∈ nx u, v < n) (h0 : 0 < n) : DfsL nx (dfsL nx) := by
 obtain ⟨m, ⟨B, D⟩, h⟩ := Vs.ex hn (free n (mark (fun _ => false) 0)) (mark (fun _ => false) 0, []) (Nat.le_refl _) (nx 0).length 0 0 h0 (by omega)
 have h' : DfsL nx D := ⟨m, B, h⟩
 rw [h'.eq]
 exact h'
def nB (l : List In) : Nat := (bl l).length
open Classical in
noncomputable def rchB (l : List In) (b : Nat) : Bool := decide (∃ w, RW (nxt l) w b)
open Classical in
noncomputable def turnB (l : List In) (b : Nat) : Bool := decide (Nbr (nxt l) b b)
open Classical in
noncomputable def headB (l : List In) (h : Nat) : Bool := decide (Hd (nxt l) (nB l) h)
open Classical in
noncomputable def lpB (l : List In) (h x : Nat) : Bool := decide (Lp (nxt l) (nB l) h x)
open Classical in
noncomputable def endB (l : List In) : Bool := decide (endOk l)
theorem rchB_iff {l : List In} {b : Nat} : rchB l b = true ↔ ∃ w, RW (nxt l) w b := by unfold rchB; exact @decide_eq_true_iff _ (_)
theorem turnB_iff {l : List In} {b : Nat} : turnB l b = true ↔ Nbr (nxt l) b b := by unfold turnB; exact @decide_eq_true_iff _ (_)
theorem headB_iff {l : List In} {b : Nat} : headB l b = true ↔ Hd (nxt l) (nB l) b := by unfold headB; exact @decide_eq_true_iff _ (_)
theorem lpB_iff {l : List In} {h x : Nat} : lpB l h x = true ↔ Lp (nxt l) (nB l) h x := by unfold lpB; exact @decide_eq_true_iff _ (_)
theorem endB_iff {l : List In} : endB l = true ↔ endOk l := by unfold endB; exact @decide_eq_true_iff _ (_)
noncomputable def heads (l : List In) : List Nat := (List.range (nB l)).filter (headB l)
def frm (l : List In) (b : Nat) : Nat := ((bl l)[b]?.map (·.1)).getD 0
theorem frm_of {l : List In} {b : Nat} {x : Nat × Nat} (h : (bl l)[b]? = some x) : frm l b = x.1 := by unfold frm; rw [h]; rfl
noncomputable def mkE5 (l : List In) : Nat × Int := match (List.range (nB l)).find? (turnB l) with
 | some b => (frm l b, 43)
 | none => if 8 < (heads l).length then (frm l ((heads l).getD 8 0), 45) else (0, 0)
noncomputable def mkE2 (l : List In) : Nat × Int :=
 if endB l = false then (l.length - 1, 40)
 else if 512 < nB l then (frm l 512, 44)
 else match (List.range (nB l)).find? (fun b => !rchB l b) with
  | some b => (frm l b, 42)
  | none => mkE5 l
noncomputable def mkE (l : List In) : Nat × Int :=
 if (chk 0 l).2 ≠ 0 then chk 0 l
 else if l = [] then (0, 26)
 else match (List.range l.length).find? (lost l) with
  | some i => (i, 41)
  | none => mkE2 l
theorem find_first {p : Nat → Bool} {n b : Nat} (hb : b < n) (h : p b = true) (hf : ∀ x, x < b → p x = false) : (List.range n).find? p = some b := by
 rw [List.find?_eq_some_iff_getElem]
 exact ⟨h, b, by simpa using hb, by simp, fun j hj => by simp [hf j hj]⟩
theorem find_no {p : Nat → Bool} {n : Nat} (hf : ∀ x, x < n → p x = false) : (List.range n).find? p = none := by
 rw [List.find?_eq_none]
 intro x hx
 rw [hf x (by simpa using hx)]
 simp
theorem mk_chk {l : List In} (h : (chk 0 l).2 ≠ 0) : mkE l = chk 0 l := by unfold mkE; rw [if_pos h]
theorem mk_nil {l : List In} (h : l = []) : mkE l = (0, 26) := by subst h; unfold mkE; rw [if_neg (by simp [chk]), if_pos rfl]
structure G1 (l : List In) : Prop where
 ck : (chk 0 l).2 = 0
 ne : l ≠ []
structure G2 (l : List In) : Prop extends G1 l where
 lo : ∀ i, i < l.length → lost l i = false
structure G3 (l : List In) : Prop extends G2 l where
 en : endOk l
structure G4 (l : List In) : Prop extends G3 l where
 n512 : nB l ≤ 512
structure G5 (l : List In) : Prop extends G4 l where
 rch : ∀ b, b < nB l → ∃ w, RW (nxt l) w b
structure G6 (l : List In) : Prop extends G5 l where
 no : ∀ b, b < nB l → ¬ Nbr (nxt l) b b
structure G7 (l : List In) : Prop extends G6 l where
 hd8 : (heads l).length ≤ 8
theorem mk_lost {l : List In} (g : G1 l) {i : Nat} (hi : i < l.length) (h : lost l i = true) (hf : ∀ j, j < i → lost l j = false) : mkE l = (i, 41) := by
 unfold mkE
 rw [if_neg (by rw [g.ck]; simp), if_neg g.ne, find_first hi h hf]
theorem G2.find {l : List In} (g : G2 l) : mkE l = mkE2 l := by
 unfold mkE
 rw [if_neg (by rw [g.ck]; simp), if_neg g.ne, find_no g.lo]
theorem mk_end {l : List In} (g : G2 l) (h : ¬ endOk l) : mkE l = (l.length - 1, 40) := by
 rw [g.find]; unfold mkE2; rw [if_pos]
 cases he : endB l with
 | true => exact absurd (endB_iff.1 he) h
 | false => rfl
theorem G3.endB {l : List In} (g : G3 l) : ¬ (endB l = false) := by rw [endB_iff.2 g.en]; simp
theorem mk_many {l : List In} (g : G3 l) (h : 512 < nB l) : mkE l = (frm l 512, 44) := by rw [g.find]; unfold mkE2; rw [if_neg g.endB, if_pos h]
theorem mk_reach {l : List In} (g : G4 l) {b : Nat} (hb : b < nB l) (h : ¬ ∃ w, RW (nxt l) w b) (hf : ∀ x, x < b → ∃ w, RW (nxt l) w x) : mkE l = (frm l b, 42) := by
 rw [g.find]; unfold mkE2; rw [if_neg g.endB, if_neg (by have := g.n512; omega), find_first (p := fun b => !rchB l b) hb ?_ ?_]
 ·cases hr : rchB l b with
  | true => exact absurd (rchB_iff.1 hr) h
  | false => simp
 ·intro x hx
  simp [rchB_iff.2 (hf x hx)]
theorem G5.find5 {l : List In} (g : G5 l) : mkE l = mkE5 l := by
 rw [g.find]; unfold mkE2; rw [if_neg g.endB, if_neg (by have := g.n512; omega), find_no (p := fun b => !rchB l b) fun x hx => by simp [rchB_iff.2 (g.rch x hx)]]
theorem mk_turn {l : List In} (g : G5 l) {b : Nat} (hb : b < nB l) (h : Nbr (nxt l) b b) (hf : ∀ x, x < b → ¬ Nbr (nxt l) x x) : mkE l = (frm l b, 43) := by
 rw [g.find5]; unfold mkE5; rw [find_first hb (turnB_iff.2 h) fun x hx => ?_]
 cases hr : turnB l x with
 | true => exact absurd (turnB_iff.1 hr) (hf x hx)
 | false => rfl
theorem G6.find6 {l : List In} (g : G6 l) : mkE l = if 8 < (heads l).length then (frm l ((heads l).getD 8 0), 45) else (0, 0) := by
 rw [g.find5]; unfold mkE5; rw [find_no fun x hx => ?_]
 cases hr : turnB l x with
 | true => exact absurd (turnB_iff.1 hr) (g.no x hx)
 | false => rfl
theorem mk_loops {l : List In} (g : G6 l) (h : 8 < (heads l).length) : mkE l = (frm l ((heads l).getD 8 0), 45) := by rw [g.find6, if_pos h]
theorem mk_fine {l : List In} (g : G7 l) : mkE l = (0, 0) := by rw [g.find6, if_neg (by have := g.hd8; omega)]
theorem G3.pos {l : List In} (g : G3 l) : 0 < nB l := bl_pos g.ne
theorem G3.nlt {l : List In} (g : G3 l) : ∀ u, u < nB l → ∀ v ∈ nxt l u, v < nB l := fun _ hu => nxt_lt g.en hu
theorem G3.dfs {l : List In} (g : G3 l) : DfsL (nxt l) (dfsL (nxt l)) := dfsL_is g.nlt g.pos
theorem rw_lt {nx : Nat → List Nat} {n : Nat} (h0 : 0 < n) (hn : ∀ u, u < n → ∀ v ∈ nx u, v < n) {w : List Nat} {b : Nat} (h : RW nx w b) : b < n := by
 induction h with
 | root => exact h0
 | step _ hv ih => exact hn _ ih _ hv
theorem G3.dlt {l : List In} (g : G3 l) : ∀ b ∈ dfsL (nxt l), b < nB l := fun b hb => by
 obtain ⟨w, hw⟩ := (g.dfs.po.rw b).1 hb
 exact rw_lt g.pos g.nlt hw
theorem G5.mem {l : List In} (g : G5 l) : ∀ b, b < nB l → b ∈ dfsL (nxt l) := fun b hb => (g.dfs.po.rw b).2 (g.rch b hb)
theorem G5.gr {l : List In} (g : G5 l) : Gr (nxt l) (plc (dfsL (nxt l))) (nB l) (ahd l) :=
 g.dfs.po.gr g.mem g.pos g.nlt (fun _ _ _ => mem_ahd) g.dlt
theorem nodup_full {n : Nat} {D : List Nat} (hn : D.Nodup) (h1 : ∀ b, b < n → b ∈ D) (h2 : ∀ b ∈ D, b < n) : D.length = n := by
 have e1 := nodup_len n D hn h2
 have e2 : (List.range n).length ≤ D.length := List.Nodup.length_le_of_subset List.nodup_range fun x hx => h1 x (by simpa using hx)
 simp at e2
 omega
theorem G5.len {l : List In} (g : G5 l) : (dfsL (nxt l)).length = nB l := nodup_full g.dfs.po.nd g.mem g.dlt
theorem G5.plt {l : List In} (g : G5 l) {c : Nat} (hc : c < nB l) : plc (dfsL (nxt l)) c < nB l := by
 have := List.idxOf_lt_length_iff.2 (List.mem_reverse.2 (g.mem c hc))
 rw [List.length_reverse, g.len] at this
 exact this
theorem G5.no_of {l : List In} (g : G5 l) (h : Str (nxt l) (plc (dfsL (nxt l))) (nB l)) : G6 l := ⟨g, fun _ hb => no_round h g.nlt hb⟩
theorem G5.round {l : List In} (g : G5 l) {d : Nat → Option Nat} (hi : Idom (nxt l) (plc (dfsL (nxt l))) (nB l) d) (h : ∃ u v, u < nB l ∧ v ∈ nxt l u ∧ plc (dfsL (nxt l)) v ≤ plc (dfsL (nxt l)) u ∧ ¬ Dom (nxt l) v u) : ∃ b, b < nB l ∧ Nbr (nxt l) b b := by
 obtain ⟨u, v, hu, hv, hle, hnd⟩ := h
 exact ⟨v, g.nlt u hu v hv, g.dfs.po.round g.gr g.mem hi hu hv hle hnd⟩
noncomputable def parK (l : List In) (i : Nat) : Nat → Int
 | 0 => -1
 | k + 1 =>
  if k = i ∨ lpB l ((heads l).getD k 0) ((heads l).getD i 0) = false then parK l i k
  else if parK l i k < 0 ∨ ((List.range (nB l)).filter (lpB l ((heads l).getD k 0))).length < ((List.range (nB l)).filter (lpB l ((heads l).getD (parK l i k).toNat 0))).length then (k : Int)
  else parK l i k
theorem parK_lt (l : List In) (i : Nat) : ∀ k, -1 ≤ parK l i k ∧ parK l i k < k
 | 0 => by simp [parK]
 | k + 1 => by
  have ih := parK_lt l i k
  unfold parK
  split
  ·omega
  ·split <;> omega
end Go.Fl
namespace Go.Proofs.Ytndnfjcfpcfakaa
open Go Go.RowKit Go.Wr Go.Fl
set_option maxHeartbeats 4000000
set_option maxRecDepth 100000
end Go.Proofs.Ytndnfjcfpcfakaa
namespace Go.Proofs.Ytndnfjcfpcfakaa
open Go Go.RowKit Go.Wr Go.Fl Go.Maps
set_option maxHeartbeats 4000000
set_option maxRecDepth 100000
def mapU (l : List In) : Nat → DataW Unit
 | 0 => .map []
 | k + 1 => (mapU l k).put (.int .i64 ((unit l k : Nat) : Int)) (.lit (.int .i64 (k : Int)))
theorem mapU_is (l : List In) : ∀ k, IsMap (mapU l k)
 | 0 => isMap_empty
 | k + 1 => (mapU_is l k).put _ _
theorem mapU_has (l : List In) (u : Int) : ∀ k, k ≤ l.length → ((∀ j, j < k → (unit l j : Int) ≠ u) → Maps.has (mapU l k) (.int .i64 u) = false) ∧ (∀ j, j < k → (unit l j : Int) = u → Maps.has (mapU l k) (.int .i64 u) = true ∧ ∀ z, (mapU l k).atKey (.int .i64 u) z = .lit (.int .i64 (j : Int)))
 | 0, _ => ⟨fun _ => rfl, fun j hj => by omega⟩
 | k + 1, hk => by
  obtain ⟨h1, h2⟩ := mapU_has l u k (by omega)
  have hi := mapU_is l k
  refine ⟨fun h => ?_, fun j hj hu => ?_⟩
  ·show Maps.has ((mapU l k).put _ _) _ = false
   rw [has_put_other (fun e => by injection e with _ e; exact h k (by omega) e.symm)]
   exact h1 fun j hj => h j (by omega)
  ·by_cases e : j = k
   ·subst e
    subst hu
    exact ⟨has_put_same hi (show WideAt.IsKeyLit (.int .i64 _) from trivial) _, fun z => atKey_put_same hi (show WideAt.IsKeyLit (.int .i64 _) from trivial) _ z⟩
   ·have hne : (unit l j : Int) ≠ (unit l k : Int) := by
     have := unit_lt (l := l) (i := j) (j := k) (by omega) (by omega)
     omega
    obtain ⟨k1, k2⟩ := h2 j (by omega) hu
    have hn : Lit.int .i64 u ≠ Lit.int .i64 ((unit l k : Nat) : Int) := fun e => by injection e with _ e; exact hne (hu.trans e)
    exact ⟨(has_put_other hn _).trans k1, fun z => (atKey_put_other hn _ z).trans (k2 z)⟩
theorem mapU_some {l : List In} {u : Int} {j : Nat} (h : atU l u = some j) : Maps.has (mapU l l.length) (.int .i64 u) = true ∧ ∀ z, (mapU l l.length).atKey (.int .i64 u) z = .lit (.int .i64 (j : Int)) := by
 obtain ⟨h1, h2⟩ := atU_some h
 exact (mapU_has l u l.length (Nat.le_refl _)).2 j h1 h2
theorem mapU_none {l : List In} {u : Int} (h : atU l u = none) : Maps.has (mapU l l.length) (.int .i64 u) = false := (mapU_has l u l.length (Nat.le_refl _)).1 (atU_none h)
def tosI (l : List In) (k : Nat) : List Int := (List.range k).map fun i => oi (tgt l i)
theorem tosI_len (l : List In) (k : Nat) : (tosI l k).length = k := by simp [tosI]
theorem tosI_succ (l : List In) (k : Nat) : tosI l (k + 1) = tosI l k ++ [oi (tgt l k)] := by unfold tosI; rw [List.range_succ, List.map_append]; rfl
def TgtP (B : Nat) (l : List In) (e : Ending) (w' : World) : Prop :=
 (∃ i, i < l.length ∧ lost l i = true ∧ (∀ j, j < i → lost l j = false) ∧ e = .returned (.tuple #[.slice none 0 0, .int .i64 (i : Int), .bool false])) ∨
 ((∀ j, j < l.length → lost l j = false) ∧ ∃ v, e = .returned (.tuple #[v, .int .i64 0, .bool true]) ∧ OwR tI B w' v (tosI l l.length))
theorem OwR.int {B g n c : Nat} {w : World} {l : List Int} (h : OwR tI B w (.slice (some ⟨g, 0, none⟩) n c) l) {k : Nat} {x : Int} (hk : l[k]? = some x) : w.cell? ⟨g, k, none⟩ = some (.int .i64 x) := by
 have := (h.at hk).cell 0 _ rfl
 have e1 : 0 + k * tI.n + 0 = k := by show 0 + k * 1 + 0 = _; omega
 rw [e1] at this
 exact this
theorem ownsMap_below {P : Program} {k : TypeId} {R : Value → Option (DataW Unit × List MemPlace)} {b n : Nat} {D : DataW Unit} {w w' : World} (h : w.ownsMap P k R b n D) (hb : Below w.heap.size w w') : w'.ownsMap P k R b n D := by
 obtain ⟨es, clock, h1, h2⟩ := h
 exact ⟨es, clock, (hb.block b (Go.Wr.lt_of_heap h1)).trans h1, h2⟩
theorem ownsMap_lt {P : Program} {k : TypeId} {R : Value → Option (DataW Unit × List MemPlace)} {b n : Nat} {D : DataW Unit} {w : World} (h : w.ownsMap P k R b n D) : b < w.heap.size := by
 obtain ⟨es, clock, h1, _⟩ := h
 exact Go.Wr.lt_of_heap h1
theorem lawI : Keyed Try.prog 3 := int_keyed Try.underlying3
theorem zeroI (w : World) : (zeroValue 3).run Try.prog w = .ok (.int .i64 0) w := by kernel_rfl
theorem wfI {a : Int} (h : -9223372036854775808 ≤ a ∧ a ≤ 9223372036854775807) : (Lit.int .i64 a).wf = true := WalkArith.wf_i64 h
theorem targets_ok (w : World) (p : Nat) (v : Value) (l : List In) (h : SlX tN p w v l) (hl : l.length ≤ 1048576)
  (hoff : ∀ x ∈ l, -1099511627776 ≤ x.off ∧ x.off ≤ 1099511627776) (himm : ∀ x ∈ l, x.op = 26 → x.nar = true → -1099511627776 ≤ x.imm ∧ x.imm ≤ 1099511627776) :
  Calls Try.prog 41 #[v] w fun e w' => TgtP w.heap.size l e w' ∧ Below w.heap.size w w' := by
 obtain ⟨a0, cap, rfl, h1, h2⟩ := h.form
 have H := Lib.hid h
 unfold maxLen at h2
 have HO := Lib.hid hoff
 have HI := Lib.hid himm
 clear h hoff himm
 have hmm := @run_makeMap Try.prog
 go_enter Try.func41, Try.ntmps41
 go_wp2_with fail
 refine (units_ok _ p _ l H.out (by omega)).mono ?_
 rintro e w1 ⟨b1, gu, cu, rfl, ou⟩
 have H1 := Lib.hid (H.out.below b1)
 have HOU := Lib.hid ou
 have hgu := ou.lt (g := gu) rfl
 clear ou H
 go_wp2
 go_loopw [19] (fun t wr => ∃ k : Nat, k ≤ l.length ∧ t = .int .i64 (k : Int) ∧ Hid (wr.ownsMap Try.prog 3 (plainElem Try.prog 3) w1.heap.size k (mapU l k)) ∧ Below w1.heap.size w1 wr) (fun t _ => l.length - (intOf t).toNat)
 case atStart => exact ⟨0, by omega, rfl, World.ownsMap_made _ _ _ _, bAl (bRefl w1) _⟩
 case round =>
  obtain ⟨k, hk, rfl, hm, hb⟩ := hrel
  have HU2 := Lib.hid (HOU.out.below hb)
  have hul : (unitsI l l.length)[k]? = some ((unit l k : Nat) : Int) := unitsI_get hk
  have cU := OwR.int HU2.out hul
  have hunit := unit_le (l := l) (i := k) hk
  by_cases hlt : k < l.length
  ·have hlt' : (k : Int) < (l.length : Int) := by omega
   have hlt2 : (k : Int) < (l.length : Int) + 1 := by omega
   obtain ⟨u, hu⟩ : ∃ u : Int, u = ((unit l k : Nat) : Int) := ⟨_, rfl⟩
   rw [← hu] at cU
   have hwu : (Lit.int .i64 u).wf = true := wfI (by omega)
   have HUU := Lib.hid hu
   clear hu hul hunit HU2
   go_wp2_with (at_mapUpdate; refine wpList_mapUpdate_own _ rfl _ _ _ 115 rfl 3 3 lawI Try.underlying115 _ w1.heap.size k _ rfl hm.out (by unfold maxLen; omega) _ _ _ rfl rfl (keyOf_int_mk Try.underlying3 hwu) _ [] (plainElem_int Try.underlying3 (wfI (by omega))) ?_; intro w9 hown hgrow)
   have hm9 : Hid (w9.ownsMap Try.prog 3 (plainElem Try.prog 3) w1.heap.size (k + 1) (mapU l (k + 1))) := by
    show World.ownsMap _ _ _ _ _ _ _
    have h := hown
    rw [HUU.out] at h
    exact h
   have b9 := hb.grown hgrow hb.size (fun q hq => by injection hq with hq; omega)
   exact ⟨⟨k + 1, by omega, by go_num, hm9, b9⟩, by simp [intOf]; omega⟩
  ·obtain rfl : k = l.length := by omega
   have hUl := HU2.out.lt (g := gu) rfl
   have hml := ownsMap_lt hm.out
   have t1 := bThen b1 hb
   have H2 := Lib.hid (H1.out.below hb)
   have HM := Lib.hid hm.out
   obtain ⟨mb, hmb⟩ : ∃ mb, mb = w1.heap.size := ⟨_, rfl⟩
   rw [← hmb] at HM hml ⊢
   obtain ⟨W, rfl⟩ : ∃ W : World, W = wr := ⟨_, rfl⟩
   have hWw := t1.size
   clear hlt hm hb H1 HOU hul cU hunit hmm hmb b1 hgu
   go_wp2
   go_loopw [2, 31] (fun v t wr => ∃ (k : Nat) (v0 : Value), k ≤ l.length ∧ v0 = v ∧ t = .int .i64 (k : Int) ∧ Hid (OwR tI W.heap.size wr v0 (tosI l k)) ∧ Hid (∀ j, j < k → lost l j = false) ∧ Below W.heap.size W wr) (fun _ t _ => l.length - (intOf t).toNat)
   case atStart => exact ⟨0, _, by omega, rfl, rfl, by show OwR _ _ _ _ _; exact OwR.nil _ _, (fun j hj => by omega), bRefl W⟩
   case round =>
    obtain ⟨k, v0, hk, rfl, rfl, ho, hq, hb⟩ := hrel
    have hsz := hb.size
    by_cases hlt : k < l.length
    ·have hlt' : (k : Int) < (l.length : Int) := by omega
     have hlt2 : (k : Int) < (l.length : Int) + 1 := by omega
     obtain ⟨x, hx⟩ : ∃ x, l[k]? = some x := ⟨_, List.getElem?_eq_getElem hlt⟩
     have hxm : x ∈ l := List.mem_of_getElem? hx
     have hof := HO.out x hxm
     have him := HI.out x hxm
     obtain ⟨bb, off, rfl, hne, hat⟩ := (H2.out.below hb).get hx
     obtain ⟨c0, c1, c2, c3, c4, c5, c6, c7⟩ := at_ins hat
     have e8 : tN.n = 8 := rfl
     rw [e8] at c0 c1 c2 c3 c4 c5 c6 c7
     have hunit := unit_le (l := l) (i := k) hk
     have cU := OwR.int (HU2.out.below hb) (unitsI_get (l := l) (m := l.length) hk)
     obtain ⟨u, hu⟩ : ∃ u : Int, u = ((unit l k : Nat) : Int) := ⟨_, rfl⟩
     rw [← hu] at cU
     have hu1 : 0 ≤ u ∧ u ≤ 2097152 := by omega
     have HT := Lib.hid (tosI_succ l k)
     have HX := Lib.hid hx
     have HUU := Lib.hid hu
     have HMk := Lib.hid (ownsMap_below HM.out hb)
     have hbb := hat.1
     clear hx hxm hat e8 hunit hu
     have hgl : gu < wr.heap.size := (HU2.out.below hb).lt (g := gu) rfl
     cases hj : jump x with
     | false =>
      have HJ := Lib.hid (show bw x.op 26 37 = false from hj)
      have HTG : Hid (oi (tgt l k) = -1) := by show _ = _; unfold tgt; rw [HX.out]; simp only; rw [if_neg (by rw [hj]; simp)]; rfl
      have HLO : Hid (lost l k = false) := by show _ = _; unfold lost; rw [HX.out]; simp only; rw [hj]; rfl
      clear hj
      go_wp2_with (first | (go_at_call 72; refine (isJump_ok _ _).mono ?_; rintro e w1 ⟨rfl, rfl⟩; rw [HJ.out]) | (at_builtin; refine wpl_push tI rfl _ _ rfl W.heap.size _ (tosI l k) rfl ((ho.out.alloc _).alloc _) _ 0 1 1 [(-1 : Int)] rfl rfl (rangeNew (by simp) (by rfl)) (by rw [tosI_len]; unfold maxLen; simp; omega) (by rw [tosI_len]; show _ * 8 ≤ _; simp; omega) (by simp; omega) ?_; intro v' w9 hown hgrow _))
      have b9 := ((hb.alloc hsz _).alloc (by simp; omega) _).grown hgrow (by simp; omega) (fun q hq => (ho.out.blk hq).1)
      have ho9 : Hid (OwR tI W.heap.size w9 v' (tosI l (k + 1))) := by
       show OwR _ _ _ _ _
       rw [HT.out, HTG.out]
       exact hown
      have hq9 : Hid (∀ j, j < k + 1 → lost l j = false) := fun j hj => by
       by_cases hjk : j < k
       ·exact hq.out j hjk
       ·obtain rfl : j = k := by omega
        exact HLO.out
      exact ⟨⟨k + 1, v', by omega, rfl, by go_num, ho9, hq9, b9⟩, by simp [intOf]; omega⟩
     | true =>
      have HJ := Lib.hid (show bw x.op 26 37 = true from hj)
      by_cases hop : x.op = 26
      ·have hop' : (x.op == 26) = true := by simp [hop]
       cases hnar : x.nar with
       | true =>
        have him2 := him hop hnar
        rw [hnar] at c1
        have hgg : goal l k x = u + 1 + x.imm := by unfold goal; rw [← HUU.out, if_pos ⟨hop, hnar⟩]
        cases ha : atU l (u + 1 + x.imm) with
        | some j =>
         have HH := Lib.hid (mapU_some ha).1
         have HAT := Lib.hid (mapU_some ha).2
         have HTG : Hid (oi (tgt l k) = (j : Int)) := by show _ = _; unfold tgt; rw [HX.out]; simp only; rw [if_pos hj, hgg, ha]; rfl
         have HLO : Hid (lost l k = false) := by show _ = _; unfold lost; rw [HX.out]; simp only; rw [hgg, ha]; simp
         clear ha hgg hj hop hnar him
         go_upto_region 17 with (first | (go_at_call 72; refine (isJump_ok _ _).mono ?_; rintro e w1 ⟨rfl, rfl⟩; rw [HJ.out]) | (at_lookup; refine wpList_lookup_own_ok_int _ rfl _ _ 115 rfl 3 3 .i64 lawI Try.underlying115 Try.underlying3 (zeroI _) mb l.length _ rfl (ownsMap_below HMk.out (bAl (bRefl wr) _)) _ _ rfl (keyOf_int_mk Try.underlying3 (wfI (by omega))) ?_; intro c hat hwc; rw [HH.out]))
         have hc : c = (j : Int) := by
          have h := hat.symm.trans (HAT.out _)
          injection h with h
          injection h
         subst hc
         clear hat hwc HAT
         go_wp2_with (at_builtin; refine wpl_push tI rfl _ _ rfl W.heap.size _ (tosI l k) rfl ((ho.out.alloc _).alloc _) _ 0 1 1 [((j : Int))] rfl rfl (rangeNew (by simp) (by rfl)) (by rw [tosI_len]; unfold maxLen; simp; omega) (by rw [tosI_len]; show _ * 8 ≤ _; simp; omega) (by simp; omega) ?_; intro v' w9 hown hgrow _)
         have b9 := ((hb.alloc hsz _).alloc (by simp; omega) _).grown hgrow (by simp; omega) (fun q hq => (ho.out.blk hq).1)
         have ho9 : Hid (OwR tI W.heap.size w9 v' (tosI l (k + 1))) := by
          show OwR _ _ _ _ _
          rw [HT.out, HTG.out]
          exact hown
         have hq9 : Hid (∀ j, j < k + 1 → lost l j = false) := fun j hj => by
          by_cases hjk : j < k
          ·exact hq.out j hjk
          ·obtain rfl : j = k := by omega
           exact HLO.out
         exact ⟨⟨k + 1, v', by omega, rfl, by go_num, ho9, hq9, b9⟩, by simp [intOf]; omega⟩
        | none =>
         have HH := Lib.hid (mapU_none ha)
         have HLO : Hid (lost l k = true) := by show _ = _; unfold lost; rw [HX.out]; simp only; rw [hgg, ha, hj]; rfl
         clear ha hgg hj hop hnar him
         go_wp2_with (first | (go_at_call 72; refine (isJump_ok _ _).mono ?_; rintro e w1 ⟨rfl, rfl⟩; rw [HJ.out]) | (at_lookup; refine wpList_lookup_own_ok_int _ rfl _ _ 115 rfl 3 3 .i64 lawI Try.underlying115 Try.underlying3 (zeroI _) mb l.length _ rfl (ownsMap_below HMk.out (bAl (bRefl wr) _)) _ _ rfl (keyOf_int_mk Try.underlying3 (wfI (by omega))) ?_; intro c hat hwc; rw [HH.out]))
         go_ret3
         exact ⟨Or.inl ⟨k, hlt, HLO.out, hq.out, rfl⟩, t1.trans ((hb.alloc hsz _).mono hWw)⟩
       | false =>
        rw [hnar] at c1
        have hgg : goal l k x = u + 1 + x.off := by unfold goal; rw [← HUU.out, if_neg (fun h => by rw [hnar] at h; cases h.2)]
        cases ha : atU l (u + 1 + x.off) with
        | some j =>
         have HH := Lib.hid (mapU_some ha).1
         have HAT := Lib.hid (mapU_some ha).2
         have HTG : Hid (oi (tgt l k) = (j : Int)) := by show _ = _; unfold tgt; rw [HX.out]; simp only; rw [if_pos hj, hgg, ha]; rfl
         have HLO : Hid (lost l k = false) := by show _ = _; unfold lost; rw [HX.out]; simp only; rw [hgg, ha]; simp
         clear ha hgg hj hop hnar him
         go_upto_region 17 with (first | (go_at_call 72; refine (isJump_ok _ _).mono ?_; rintro e w1 ⟨rfl, rfl⟩; rw [HJ.out]) | (at_lookup; refine wpList_lookup_own_ok_int _ rfl _ _ 115 rfl 3 3 .i64 lawI Try.underlying115 Try.underlying3 (zeroI _) mb l.length _ rfl (ownsMap_below HMk.out (bAl (bRefl wr) _)) _ _ rfl (keyOf_int_mk Try.underlying3 (wfI (by omega))) ?_; intro c hat hwc; rw [HH.out]))
         have hc : c = (j : Int) := by
          have h := hat.symm.trans (HAT.out _)
          injection h with h
          injection h
         subst hc
         clear hat hwc HAT
         go_wp2_with (at_builtin; refine wpl_push tI rfl _ _ rfl W.heap.size _ (tosI l k) rfl ((ho.out.alloc _).alloc _) _ 0 1 1 [((j : Int))] rfl rfl (rangeNew (by simp) (by rfl)) (by rw [tosI_len]; unfold maxLen; simp; omega) (by rw [tosI_len]; show _ * 8 ≤ _; simp; omega) (by simp; omega) ?_; intro v' w9 hown hgrow _)
         have b9 := ((hb.alloc hsz _).alloc (by simp; omega) _).grown hgrow (by simp; omega) (fun q hq => (ho.out.blk hq).1)
         have ho9 : Hid (OwR tI W.heap.size w9 v' (tosI l (k + 1))) := by
          show OwR _ _ _ _ _
          rw [HT.out, HTG.out]
          exact hown
         have hq9 : Hid (∀ j, j < k + 1 → lost l j = false) := fun j hj => by
          by_cases hjk : j < k
          ·exact hq.out j hjk
          ·obtain rfl : j = k := by omega
           exact HLO.out
         exact ⟨⟨k + 1, v', by omega, rfl, by go_num, ho9, hq9, b9⟩, by simp [intOf]; omega⟩
        | none =>
         have HH := Lib.hid (mapU_none ha)
         have HLO : Hid (lost l k = true) := by show _ = _; unfold lost; rw [HX.out]; simp only; rw [hgg, ha, hj]; rfl
         clear ha hgg hj hop hnar him
         go_wp2_with (first | (go_at_call 72; refine (isJump_ok _ _).mono ?_; rintro e w1 ⟨rfl, rfl⟩; rw [HJ.out]) | (at_lookup; refine wpList_lookup_own_ok_int _ rfl _ _ 115 rfl 3 3 .i64 lawI Try.underlying115 Try.underlying3 (zeroI _) mb l.length _ rfl (ownsMap_below HMk.out (bAl (bRefl wr) _)) _ _ rfl (keyOf_int_mk Try.underlying3 (wfI (by omega))) ?_; intro c hat hwc; rw [HH.out]))
         go_ret3
         exact ⟨Or.inl ⟨k, hlt, HLO.out, hq.out, rfl⟩, t1.trans ((hb.alloc hsz _).mono hWw)⟩
      ·have hop' : (x.op == 26) = false := by simpa using hop
       have hgg : goal l k x = u + 1 + x.off := by unfold goal; rw [← HUU.out, if_neg (fun h => hop h.1)]
       cases ha : atU l (u + 1 + x.off) with
       | some j =>
        have HH := Lib.hid (mapU_some ha).1
        have HAT := Lib.hid (mapU_some ha).2
        have HTG : Hid (oi (tgt l k) = (j : Int)) := by show _ = _; unfold tgt; rw [HX.out]; simp only; rw [if_pos hj, hgg, ha]; rfl
        have HLO : Hid (lost l k = false) := by show _ = _; unfold lost; rw [HX.out]; simp only; rw [hgg, ha]; simp
        clear ha hgg hj hop him
        go_upto_region 17 with (first | (go_at_call 72; refine (isJump_ok _ _).mono ?_; rintro e w1 ⟨rfl, rfl⟩; rw [HJ.out]) | (at_lookup; refine wpList_lookup_own_ok_int _ rfl _ _ 115 rfl 3 3 .i64 lawI Try.underlying115 Try.underlying3 (zeroI _) mb l.length _ rfl (ownsMap_below HMk.out (bAl (bRefl wr) _)) _ _ rfl (keyOf_int_mk Try.underlying3 (wfI (by omega))) ?_; intro c hat hwc; rw [HH.out]))
        have hc : c = (j : Int) := by
         have h := hat.symm.trans (HAT.out _)
         injection h with h
         injection h
        subst hc
        clear hat hwc HAT
        go_wp2_with (at_builtin; refine wpl_push tI rfl _ _ rfl W.heap.size _ (tosI l k) rfl ((ho.out.alloc _).alloc _) _ 0 1 1 [((j : Int))] rfl rfl (rangeNew (by simp) (by rfl)) (by rw [tosI_len]; unfold maxLen; simp; omega) (by rw [tosI_len]; show _ * 8 ≤ _; simp; omega) (by simp; omega) ?_; intro v' w9 hown hgrow _)
        have b9 := ((hb.alloc hsz _).alloc (by simp; omega) _).grown hgrow (by simp; omega) (fun q hq => (ho.out.blk hq).1)
        have ho9 : Hid (OwR tI W.heap.size w9 v' (tosI l (k + 1))) := by
         show OwR _ _ _ _ _
         rw [HT.out, HTG.out]
         exact hown
        have hq9 : Hid (∀ j, j < k + 1 → lost l j = false) := fun j hj => by
         by_cases hjk : j < k
         ·exact hq.out j hjk
         ·obtain rfl : j = k := by omega
          exact HLO.out
        exact ⟨⟨k + 1, v', by omega, rfl, by go_num, ho9, hq9, b9⟩, by simp [intOf]; omega⟩
       | none =>
        have HH := Lib.hid (mapU_none ha)
        have HLO : Hid (lost l k = true) := by show _ = _; unfold lost; rw [HX.out]; simp only; rw [hgg, ha, hj]; rfl
        clear ha hgg hj hop him
        go_wp2_with (first | (go_at_call 72; refine (isJump_ok _ _).mono ?_; rintro e w1 ⟨rfl, rfl⟩; rw [HJ.out]) | (at_lookup; refine wpList_lookup_own_ok_int _ rfl _ _ 115 rfl 3 3 .i64 lawI Try.underlying115 Try.underlying3 (zeroI _) mb l.length _ rfl (ownsMap_below HMk.out (bAl (bRefl wr) _)) _ _ rfl (keyOf_int_mk Try.underlying3 (wfI (by omega))) ?_; intro c hat hwc; rw [HH.out]))
        go_ret3
        exact ⟨Or.inl ⟨k, hlt, HLO.out, hq.out, rfl⟩, t1.trans ((hb.alloc hsz _).mono hWw)⟩
    ·obtain rfl : k = l.length := by omega
     have htot := t1.trans (hb.mono (by omega))
     clear hlt
     go_wp2
     go_ret3
     exact ⟨Or.inr ⟨hq.out, _, rfl, ho.out.mono hWw⟩, htot⟩
end Go.Proofs.Ytndnfjcfpcfakaa
namespace Go.Proofs.Ytndnfjcfpcfakaa
open Go Go.RowKit Go.Wr Go.Fl
set_option maxHeartbeats 4000000
set_option maxRecDepth 100000
def endAt (l : List In) (k : Nat) : Bool := match l[k]? with
 | none => false
 | some x => ends x
def leadK (l : List In) (i j : Nat) : Bool := j == 0 || ((List.range i).any fun a => tgt l a == some j) || (decide (0 < j ∧ j - 1 < i) && endAt l (j - 1))
theorem leadK_all (l : List In) (j : Nat) : leadK l l.length j = lead l j := by
 unfold leadK lead endAt
 cases j with
 | zero => rfl
 | succ k =>
  simp only [Nat.add_sub_cancel]
  cases hx : l[k]? with
  | none => simp
  | some x =>
   have := (List.getElem?_eq_some_iff.1 hx).1
   simp [this]
theorem leadK_zero (l : List In) : leadK l 0 = Fl.mark (fun _ => false) 0 := by
 funext j
 unfold leadK Fl.mark
 by_cases h : j = 0 <;> simp [h]
theorem leadK_succ (l : List In) (i j : Nat) : leadK l (i + 1) j = (leadK l i j || (tgt l i == some j) || (j == i + 1 && endAt l i)) := by
 unfold leadK
 rw [List.range_succ, List.any_append]
 by_cases hj : j = i + 1
 ·subst hj
  simp
 ·have e1 : (j == i + 1) = false := by simpa using hj
  have e2 : decide (0 < j ∧ j - 1 < i + 1) = decide (0 < j ∧ j - 1 < i) := by
   congr 1
   apply propext
   constructor <;> rintro ⟨h1, h2⟩ <;> exact ⟨h1, by omega⟩
  rw [e1, e2]
  simp only [List.any_cons, List.any_nil, Bool.or_false, Bool.false_and]
  cases (j == 0) <;> cases ((List.range i).any fun a => tgt l a == some j) <;> cases (tgt l i == some j) <;> cases (decide (0 < j ∧ j - 1 < i) && endAt l (j - 1)) <;> rfl
theorem leadK_step (l : List In) (i : Nat) : leadK l (i + 1) = (if endAt l i = true then (fun V => Fl.mark V (i + 1)) else id) ((match tgt l i with | some t => (fun V => Fl.mark V t) | none => id) (leadK l i)) := by
 funext j
 rw [leadK_succ]
 have hs : ∀ (o : Option Nat), (leadK l i j || o == some j) = (match o with | some t => (fun V => Fl.mark V t) | none => id) (leadK l i) j := fun o => by
  cases o with
  | none => simp
  | some t =>
   simp only [Fl.mark]
   by_cases e : j = t
   ·subst e; simp
   ·rw [if_neg e]; simp [Ne.symm e]
 rw [hs]
 generalize (match tgt l i with | some t => (fun V => Fl.mark V t) | none => id) (leadK l i) = V
 cases he : endAt l i with
 | false => simp
 | true =>
  rw [if_pos rfl]
  simp only [Fl.mark]
  by_cases e : j = i + 1
  ·subst e; simp
  ·rw [if_neg e]; simp [e]
theorem OwB.cell {B g n : Nat} {V : Nat → Bool} {w : World} (h : OwR tB B w (.slice (some ⟨g, 0, none⟩) n n) ((List.range n).map V)) {i : Nat} (hi : i < n) : w.cell? ⟨g, i, none⟩ = some (.bool (V i)) := by
 have := (h.at (k := i) (x := V i) (by rw [List.getElem?_map, List.getElem?_range hi]; rfl)).cell 0 _ rfl
 have e : 0 + i * tB.n + 0 = i := by show 0 + i * 1 + 0 = i; omega
 rw [e] at this
 exact this
theorem OwB.mark {B g n : Nat} {V : Nat → Bool} {w : World} (h : OwR tB B w (.slice (some ⟨g, 0, none⟩) n n) ((List.range n).map V)) {i : Nat} (hi : i < n) : OwR tB B (w.setCell ⟨g, i, none⟩ (.bool true)) (.slice (some ⟨g, 0, none⟩) n n) ((List.range n).map (Fl.mark V i)) := by
 have := h.set (k := i) (j := 0) (x := V i) (y := true) (v := .bool true) (by rw [List.getElem?_map, List.getElem?_range hi]; rfl) (by decide) rfl
 rw [map_set] at this
 have e : i * tB.n + 0 = i := by show i * 1 + 0 = i; omega
 rw [e] at this
 exact this
theorem tosI_get {l : List In} {m k : Nat} (h : k < m) : (tosI l m)[k]? = some (oi (tgt l k)) := by
 unfold tosI
 rw [List.getElem?_map, List.getElem?_range h]
 rfl
theorem tgt_lt {l : List In} {i t : Nat} (h : tgt l i = some t) : t < l.length := by
 unfold tgt at h
 split at h
 ·cases h
 ·split at h
  ·exact (atU_some h).1
  ·cases h
end Go.Proofs.Ytndnfjcfpcfakaa
namespace Go.Proofs.Ytndnfjcfpcfakaa
open Go Go.RowKit Go.Wr Go.Fl
set_option maxHeartbeats 4000000
set_option maxRecDepth 100000
theorem Ex.fq {p q : Nat} {T : TypeId} {B : Nat} {a w w' : World} (h : Ex p a w) (f : Fq q T B w w') (hq : a.heap.size ≤ q) (hB : a.heap.size ≤ B) : Ex p a w' :=
 ⟨f.os.trans h.os, f.tape.trans h.tape, f.output.trans h.output, Nat.le_trans h.size f.size, fun k hk hp => by
  have h1 := h.block k hk hp
  rw [← h1]
  have hlt : k < w.heap.size := by have := h.size; omega
  rw [Array.getElem?_eq_getElem hlt]
  exact f.block k _ (Array.getElem?_eq_getElem hlt) (by omega) (Or.inl (by omega))⟩
abbrev sn : Value := .slice none 0 0
structure Wv (w : World) (p n pS gS pT : Nat) (vb va vo : Value) (V : Nat → Bool) (S : List (Nat × Nat)) (O : List Nat) (vr : Value) (wr : World) : Prop where
 ex : Ex p w wr
 pb : Blk wr p 90 #[vb, va, vo, vr, sn, sn, sn]
 st : St w.heap.size pS gS n V wr
 ss : Ss w.heap.size pT S.reverse wr
 ow : OwR tI w.heap.size wr vr (nI O)
section
variable {w wr w' : World} {p n pS gS pT : Nat} {vb va vo : Value} {V : Nat → Bool} {S : List (Nat × Nat)} {O : List Nat} {vr : Value}
theorem Wv.hT (h : Wv w p n pS gS pT vb va vo V S O vr wr) : w.heap.size ≤ pT := by obtain ⟨v, _, _, h3⟩ := h.ss; exact h3
theorem Wv.ne (h : Wv w p n pS gS pT vb va vo V S O vr wr) : pT ≠ p ∧ pT ≠ pS ∧ pT ≠ gS ∧ pS ≠ p ∧ gS ≠ p := by
 obtain ⟨v, h1, _, _⟩ := h.ss
 obtain ⟨_, C, hg⟩ := h.st.gb.blk (g := gS) rfl
 exact ⟨blk_ne h1 h.pb (by decide), blk_ne h1 h.st.pb (by decide), blk_ne h1 hg (by decide), blk_ne h.st.pb h.pb (by decide), blk_ne hg h.pb (by decide)⟩
theorem Wv.fq (h : Wv w p n pS gS pT vb va vo V S O vr wr) (f : Fq pT 127 w.heap.size wr w') {S' : List (Nat × Nat)} (hs : Ss w.heap.size pT S'.reverse w') : Wv w p n pS gS pT vb va vo V S' O vr w' := by
 obtain ⟨n1, n2, n3, _, _⟩ := h.ne
 obtain ⟨v, h1, _, _⟩ := h.ss
 exact ⟨Ex.fq h.ex f h.hT (Nat.le_refl _), f.blk h.pb n1.symm (Or.inr (by decide)), h.st.fq f n2.symm n3.symm (by decide) (by decide), hs, f.own h.ow (h.ow.ne h1 (by decide)) (Or.inr (by decide))⟩
theorem Wv.below (h : Wv w p n pS gS pT vb va vo V S O vr wr) (b : Below wr.heap.size wr w') : Wv w p n pS gS pT vb va vo V S O vr w' :=
 ⟨h.ex.trans (Ex.of_below b), h.pb.below b h.pb.lt, h.st.below b, h.ss.below b, h.ow.below b⟩
theorem Wv.mark (h : Wv w p n pS gS pT vb va vo V S O vr wr) {i : Nat} (hi : i < n) : Wv w p n pS gS pT vb va vo (Fl.mark V i) S O vr (wr.setCell ⟨gS, i, none⟩ (.bool true)) := by
 obtain ⟨n1, n2, n3, n4, n5⟩ := h.ne
 obtain ⟨_, C, hg⟩ := h.st.gb.blk (g := gS) rfl
 exact ⟨h.ex.set_new _ _ h.st.hg, h.pb.set_other gS _ _ n5.symm, h.st.mark hi, h.ss.setOther hg (by decide) (by decide), h.ow.set_other (h.ow.ne hg (by decide))⟩
theorem Wv.put (h : Wv w p n pS gS pT vb va vo V S O vr wr) {v' : Value} {b : Nat} (ho : OwR tI w.heap.size w' v' (nI (O ++ [b]))) (hg : wr.grownBy w' vr.ownBlock) : Wv w p n pS gS pT vb va vo V S (O ++ [b]) v' (w'.setCell ⟨p, 3, none⟩ v') := by
 obtain ⟨n1, n2, n3, n4, n5⟩ := h.ne
 obtain ⟨_, C, hgB⟩ := h.st.gb.blk (g := gS) rfl
 have hpb : Blk w' p 90 #[vb, va, vo, vr, sn, sn, sn] := h.pb.of_block (hg.block p h.pb.lt (fun e => h.ow.ne h.pb (by decide) e.symm))
 have hst : St w.heap.size pS gS n V w' := h.st.keep (hg.block pS h.st.pb.lt (fun e => h.ow.ne h.st.pb (by decide) e.symm)) (hg.block gS hgB.lt (fun e => h.ow.ne hgB (by decide) e.symm))
 have hss : Ss w.heap.size pT S.reverse w' := h.ss.keep fun k T C hT hk => hg.block k hk.lt (fun e => h.ow.ne hk (by rcases hT with rfl | rfl <;> decide) e.symm)
 refine ⟨(h.ex.grown hg fun g e => (h.ow.blk e).1).set 3 v', (hpb.set 3 v').eq rfl, ?_, ?_, ho.set_other (ho.ne hpb (by decide))⟩
 ·exact hst.keep (Below.heap_setCell w' ⟨p, 3, none⟩ v' pS n4) (Below.heap_setCell w' ⟨p, 3, none⟩ v' gS n5)
 ·exact hss.setOther hpb (by decide) (by decide)
end
theorem Vs.len {nx : Nat → List Nat} {m b k : Nat} {s s' : Sg} (h : Vs nx m b k s s') : s.2.length + 1 ≤ s'.2.length := by
 induction h with
 | fin => simp
 | skip _ _ _ ih => exact ih
 | down _ _ _ _ ih1 ih2 => simp only at ih1; omega
theorem Run.len {nx : Nat → List Nat} {m : Nat} {S : List (Nat × Nat)} {s s' : Sg} (h : Run nx m S s s') : s.2.length + S.length ≤ s'.2.length := by
 induction h with
 | nil => simp
 | cons hv _ ih => have := Vs.len hv; simp only [List.length_cons]; omega
theorem pushS_own (w : World) (B p : Nat) (v : Value) (l : List (Nat × Nat)) (h1 : Blk w p 124 #[v]) (h2 : OwR tS B w v (nS l)) (h3 : B ≤ p) (hl : l.length ≤ 1048576) (x y : Nat) :
  Calls Try.prog 77 #[.pointer (some ⟨p, 0, none⟩), .agg #[.int .i64 (x : Int), .int .i64 (y : Int)]] w fun e w' => e = .returned (.tuple #[]) ∧ Ss B p (l ++ [(x, y)]) w' ∧ Fq p 127 B w w' ∧ ∀ k, k < w.heap.size → k ≠ p → v.ownBlock ≠ some k → w'.heap[k]? = w.heap[k]? := by
 have H1 := Lib.hid h1
 have H2 := Lib.hid h2
 have hpl := h1.lt
 clear h1 h2
 go_enter Try.func77, Try.ntmps77
 go_upto_region 1 with (fail)
 generalize hW : w.alloc (.cells #[.int .i64 (x : Int), .int .i64 (y : Int)] 127) = W
 have PX : Blk W w.heap.size 127 #[.int .i64 (x : Int), .int .i64 (y : Int)] := by rw [← hW]; exact Blk.new _ _ _
 have P1 : Blk W p 124 #[v] := by rw [← hW]; exact H1.out.alloc _
 have O1 : OwR tS B W v (nS l) := by rw [← hW]; exact H2.out.alloc _
 have F1 : Fq p 127 B w W := by rw [← hW]; exact (Fq.refl _ _ _ _).alloc _
 have hsz : w.heap.size < W.heap.size := PX.lt
 have x0 : W.cell? ⟨w.heap.size, 0, none⟩ = some (.int .i64 (x : Int)) := PX.cell 0
 have x1 : W.cell? ⟨w.heap.size, 1, none⟩ = some (.int .i64 (y : Int)) := PX.cell 1
 have cp : W.cell? ⟨p, 0, none⟩ = some v := P1.cell 0
 have HP := Lib.hid P1
 have HO := Lib.hid O1
 have HF := Lib.hid F1
 have HE := Lib.hid (show Below w.heap.size w W by rw [← hW]; exact bAl (bRefl w) _)
 have hvq : v.ownBlock ≠ some w.heap.size := fun e => by have := H2.out.lt e; omega
 have HX := Lib.hid PX
 clear hW PX P1 O1 F1 H1 H2
 obtain ⟨q, hq⟩ : ∃ q, q = w.heap.size := ⟨_, rfl⟩
 rw [← hq] at x0 x1 hsz hpl hvq HX ⊢
 have hFw : Fq p 127 B w W := HF.out
 clear HF
 have HFw := Lib.hid hFw
 clear hFw hq
 have cv : W.drew.cell? ⟨p, 0, none⟩ = some v ∧ W.drew.cell? ⟨q, 0, none⟩ = some (.int .i64 (x : Int)) ∧ W.drew.cell? ⟨q, 1, none⟩ = some (.int .i64 (y : Int)) := ⟨cp, x0, x1⟩
 refine wp_region_last 10 (fun w' => w'.cell? ⟨p, 0, none⟩ = some v ∧ w'.cell? ⟨q, 0, none⟩ = some (.int .i64 (x : Int)) ∧ w'.cell? ⟨q, 1, none⟩ = some (.int .i64 (y : Int))) mix ?_
 refine wpAnyL_take (i := 0) (v := .pointer (some ⟨p, 0, none⟩)) rfl (by kernel_rfl) (by kernel_rfl) (by kernel_rfl) (fun _ _ _ h => h) rfl (by kernel_rfl) (Or.inl ⟨by rfl, fun w' hw' => by (try go_split_ands); go_simp⟩) cv ?_
 simp only [Act.put, List.getElem_toArray, List.getElem_cons_zero, List.setIfInBounds_toArray, List.set_cons_zero, List.set_cons_succ]
 refine wpAnyL_take (i := 1) (v := .pointer (some ⟨p, 0, none⟩)) rfl (by kernel_rfl) (by kernel_rfl) (by kernel_rfl) (fun _ _ _ h => h) rfl (by kernel_rfl) (Or.inl ⟨by rfl, fun w' hw' => by (try go_split_ands); go_simp⟩) cv ?_
 simp only [Act.put, List.getElem_toArray, List.getElem_cons_zero, List.getElem_cons_succ, List.setIfInBounds_toArray, List.set_cons_zero, List.set_cons_succ]
 refine wpAnyL_take (i := 2) (v := .pointer (some ⟨p, 0, none⟩)) rfl (by kernel_rfl) (by kernel_rfl) (by kernel_rfl) (fun _ _ _ h => h) rfl (by kernel_rfl) (Or.inl ⟨by rfl, fun w' hw' => by (try go_split_ands); go_simp⟩) cv ?_
 simp only [Act.put, List.getElem_toArray, List.getElem_cons_zero, List.getElem_cons_succ, List.setIfInBounds_toArray, List.set_cons_zero, List.set_cons_succ]
 refine wpAnyL_take (i := 3) (v := .pointer (some ⟨p, 0, none⟩)) rfl (by kernel_rfl) (by kernel_rfl) (by kernel_rfl) (fun _ _ _ h => h) rfl (by kernel_rfl) (Or.inl ⟨by rfl, fun w' hw' => by (try go_split_ands); go_simp⟩) cv ?_
 simp only [Act.put, List.getElem_toArray, List.getElem_cons_zero, List.getElem_cons_succ, List.setIfInBounds_toArray, List.set_cons_zero, List.set_cons_succ]
 refine wpAnyL_take (i := 4) (v := v) rfl (by kernel_rfl) (by kernel_rfl) (by kernel_rfl) (fun _ _ _ h => h) rfl (by kernel_rfl) (Or.inl ⟨by rfl, fun w' hw' => by (try go_split_ands); go_simp⟩) cv ?_
 simp only [Act.put, List.getElem_toArray, List.getElem_cons_zero, List.getElem_cons_succ, List.setIfInBounds_toArray, List.set_cons_zero, List.set_cons_succ]
 refine wpAnyL_take (i := 5) (v := .agg #[.int .i64 (x : Int), .int .i64 (y : Int)]) rfl (by kernel_rfl) (by kernel_rfl) (by kernel_rfl) (fun _ _ _ h => h) rfl (by kernel_rfl) (Or.inl ⟨by rfl, fun w' hw' => by (try go_split_ands); go_simp⟩) cv ?_
 simp only [Act.put, List.getElem_toArray, List.getElem_cons_zero, List.getElem_cons_succ, List.setIfInBounds_toArray, List.set_cons_zero, List.set_cons_succ]
 refine wpAnyL_one (i := 6) (by kernel_rfl) rfl (fun K hK => ?_)
 go_simp
 have HP6 := Lib.hid ((HP.out.alloc (.cells #[.int .i64 (x : Int), .int .i64 (y : Int)] 127)).drew)
 have HX6 := Lib.hid ((HX.out.alloc (.cells #[.int .i64 (x : Int), .int .i64 (y : Int)] 127)).drew)
 have HO6 := Lib.hid ((HO.out.alloc (.cells #[.int .i64 (x : Int), .int .i64 (y : Int)] 127)).drew)
 have HN6 := Lib.hid ((Blk.new W 127 #[.int .i64 (x : Int), .int .i64 (y : Int)]).drew)
 have HF6 := Lib.hid ((HFw.out.alloc (.cells #[.int .i64 (x : Int), .int .i64 (y : Int)] 127)).drew)
 have hz6 : W.heap.size < (W.alloc (.cells #[.int .i64 (x : Int), .int .i64 (y : Int)] 127)).drew.heap.size := HN6.out.lt
 have HE6 := Lib.hid (show Below w.heap.size w (W.alloc (.cells #[.int .i64 (x : Int), .int .i64 (y : Int)] 127)).drew from (HE.out.alloc (by simpa using HE.out.size) _).drew)
 generalize (W.alloc (.cells #[.int .i64 (x : Int), .int .i64 (y : Int)] 127)).drew = W6 at HP6 HX6 HO6 HN6 HF6 HE6 hz6 ⊢
 refine hK.out _ _ (fun _ => ⟨HP6.out.cell 0, HX6.out.cell 0, HX6.out.cell 1⟩) ?_
 clear hK K
 refine wpAnyL_one (i := 7) (by kernel_rfl) rfl (fun K hK => ?_)
 refine step_push tS rfl (.tmp 8) (.tmp 10) rfl B v (nS l) (by rfl) HO6.out W.heap.size 0 1 1 [((x : Int), (y : Int))] (by rfl) rfl (rangeBlk HN6.out (by rfl)) (by rw [nS_len]; unfold maxLen; simp; omega) (by rw [nS_len]; show _ * 16 ≤ _; simp; omega) (by omega) ?_
 intro v' w9 hown hgrow hform
 obtain ⟨g', c', rfl, _⟩ := hform (by simp)
 have hp9 := HP6.out.of_block (hgrow.block p HP6.out.lt (fun e => HO6.out.ne HP6.out (by decide) e.symm))
 have hx9 := HX6.out.of_block (hgrow.block q HX6.out.lt (fun e => hvq e.symm))
 simp only [Act.put, List.setIfInBounds_toArray]
 refine hK.out _ _ (fun _ => ⟨hp9.cell 0, hx9.cell 0, hx9.cell 1⟩) ?_
 clear hK K
 have c9 : w9.cell? ⟨p, 0, none⟩ = some v := hp9.cell 0
 have f9 := hp9.frozen 0
 have cv9 : w9.cell? ⟨p, 0, none⟩ = some v ∧ w9.cell? ⟨q, 0, none⟩ = some (.int .i64 (x : Int)) ∧ w9.cell? ⟨q, 1, none⟩ = some (.int .i64 (y : Int)) := ⟨hp9.cell 0, hx9.cell 0, hx9.cell 1⟩
 refine wpAnyL_one (i := 8) (by kernel_rfl) rfl (fun K hK => ?_)
 go_simp
 refine hK.out _ _ (fun _ => cv9) ?_
 clear hK K
 refine wpAnyL_one (i := 9) (by kernel_rfl) rfl (fun K hK => ?_)
 go_simp
 refine hK.out _ _ (fun _ => cv9) ?_
 clear hK K
 refine wpAnyL_one (i := 10) (by kernel_rfl) rfl (fun K hK => ?_)
 go_simp
 refine hK.out _ _ (fun h => absurd rfl h) ?_
 clear hK K
 refine wpAnyL_done (by kernel_rfl) ?_ _
 go_end0
 have hO : OwR tS B w9 (.slice (some ⟨g', 0, none⟩) ((nS l).length + 1) c') (nS (l ++ [(x, y)])) := by rw [nS_app]; exact hown
 have hne : (Value.slice (some ⟨g', 0, none⟩) ((nS l).length + 1) c').ownBlock ≠ some p := hO.ne hp9 (by decide)
 refine ⟨rfl, ⟨_, (hp9.set 0 _).eq rfl, hO.set_other hne, h3⟩, ?_⟩
 refine ⟨(HF6.out.grown (R := tS) HO6.out hgrow).set 0 _, fun k hk hkp hkv => ?_⟩
 rw [Below.heap_setCell w9 ⟨p, 0, none⟩ _ k hkp, hgrow.block k (by have := HE6.out.size; omega) (fun e => hkv e.symm), HE6.out.block k hk]
theorem pushS_eq (w : World) (B p : Nat) (v : Value) (l : List (Nat × Nat)) (h1 : Blk w p 124 #[v]) (h2 : OwR tS B w v (nS l)) (h3 : B ≤ p) (hl : l.length ≤ 1048576) (x y : Nat) (yi : Int) (hy : yi = (y : Int)) :
  Calls Try.prog 77 #[.pointer (some ⟨p, 0, none⟩), .agg #[.int .i64 (x : Int), .int .i64 yi]] w fun e w' => e = .returned (.tuple #[]) ∧ Ss B p (l ++ [(x, y)]) w' ∧ Fq p 127 B w w' ∧ ∀ k, k < w.heap.size → k ≠ p → v.ownBlock ≠ some k → w'.heap[k]? = w.heap[k]? := by
 subst hy
 exact pushS_own w B p v l h1 h2 h3 hl x y
structure Wp (w : World) (p gp n : Nat) (vb va vo vr : Value) (lr l : List Int) (wr : World) : Prop where
 ex : Ex p w wr
 pb : Blk wr p 90 #[vb, va, vo, vr, .slice (some ⟨gp, 0, none⟩) n n, sn, sn]
 ow : OwR tI w.heap.size wr vr lr
 pp : OwR tI w.heap.size wr (.slice (some ⟨gp, 0, none⟩) n n) l
 ne : vr.ownBlock ≠ some gp
theorem Wp.set {w wr : World} {p gp n : Nat} {vb va vo vr : Value} {lr l : List Int} (h : Wp w p gp n vb va vo vr lr l wr) {k : Nat} {x : Int} (hk : k < l.length) : Wp w p gp n vb va vo vr lr (l.set k x) (wr.setCell ⟨gp, k, none⟩ (.int .i64 x)) := by
 obtain ⟨hB, C, hg⟩ := h.pp.blk (g := gp) rfl
 have hs := h.pp.set (k := k) (j := 0) (x := l[k]) (y := x) (v := .int .i64 x) (List.getElem?_eq_getElem hk) (by decide) rfl
 have e : k * tI.n + 0 = k := by show k * 1 + 0 = k; omega
 rw [e] at hs
 exact ⟨h.ex.set_new _ _ hB, h.pb.set_other gp _ _ (blk_ne h.pb hg (by decide)), h.ow.set_other h.ne, hs, h.ne⟩
def plK (D : List Nat) (n k : Nat) : List Int := (List.range n).map fun b => if b ∈ D.reverse.take k then (plc D b : Int) else -1
theorem plK_len (D : List Nat) (n k : Nat) : (plK D n k).length = n := by simp [plK]
theorem plK_zero (D : List Nat) (n : Nat) : plK D n 0 = List.replicate n (-1) := by
 apply List.ext_getElem?
 intro i
 unfold plK
 by_cases h : i < n <;> simp [h]
theorem plK_succ {D : List Nat} (hD : D.Nodup) (n k x : Nat) (hx : D.reverse[k]? = some x) (hn : x < n) : (plK D n k).set x (k : Int) = plK D n (k + 1) := by
 have hk : k < D.reverse.length := (List.getElem?_eq_some_iff.1 hx).1
 have hplc : plc D x = k := by
  unfold plc
  have e := (List.getElem?_eq_some_iff.1 hx).2
  rw [← e]
  exact List.Nodup.idxOf_getElem (nd_rev hD) k hk
 apply List.ext_getElem?
 intro i
 rw [List.getElem?_set, plK_len]
 unfold plK
 by_cases hi : i < n
 ·rw [List.getElem?_map, List.getElem?_map, List.getElem?_range hi, List.take_add_one, hx]
  by_cases e : x = i
  ·subst e
   simp [hn, hplc]
  ·have e' : ¬ i = x := fun h => e h.symm
   simp [e, e']
 ·have h1 : ((List.range n).map fun b => if b ∈ D.reverse.take k then (plc D b : Int) else -1)[i]? = none := List.getElem?_eq_none (by simp; omega)
  have h2 : ((List.range n).map fun b => if b ∈ D.reverse.take (k + 1) then (plc D b : Int) else -1)[i]? = none := List.getElem?_eq_none (by simp; omega)
  rw [h1, h2]
  split
  ·exfalso; omega
  ·rfl
def miK (n k : Nat) : List Int := (List.range n).map fun b => if b < k then -1 else 0
theorem miK_len (n k : Nat) : (miK n k).length = n := by simp [miK]
theorem miK_succ (n k : Nat) : (miK n k).set k (-1) = miK n (k + 1) := by
 apply List.ext_getElem?
 intro i
 rw [List.getElem?_set, miK_len]
 unfold miK
 by_cases hi : i < n
 ·rw [List.getElem?_map, List.getElem?_map, List.getElem?_range hi]
  by_cases e : k = i
  ·subst e; simp [hi]
  ·have : (i < k + 1) ↔ i < k := by omega
   simp [e, this]
 ·have h1 : ((List.range n).map fun b => if b < k then (-1 : Int) else 0)[i]? = none := List.getElem?_eq_none (by simp; omega)
  have h2 : ((List.range n).map fun b => if b < k + 1 then (-1 : Int) else 0)[i]? = none := List.getElem?_eq_none (by simp; omega)
  rw [h1, h2]
  split
  ·rw [if_neg (by omega)]
  ·rfl
theorem miK_zero (n : Nat) : miK n 0 = List.replicate n 0 := by
 apply List.ext_getElem?
 intro i
 unfold miK
 by_cases h : i < n <;> simp [h]
theorem miK_all (D : List Nat) (n : Nat) : miK n n = plK D n 0 := by
 rw [plK_zero]
 apply List.ext_getElem?
 intro i
 unfold miK
 by_cases h : i < n <;> simp [h]
theorem walk_ok (w : World) (p n : Nat) (nx : Nat → List Nat) (hn : ∀ u, u < n → ∀ v ∈ nx u, v < n) (h0 : 0 < n) (hn2 : n ≤ 1048576) (hx2 : ∀ u, (nx u).length ≤ 1048576) (D : List Nat) (hD : DfsL nx D) (hDn : D.length ≤ n) (hDl : ∀ b ∈ D, b < n)
  (vb va vo : Value) (bs : List Bk) (hf : FwR p n nx vb bs w) (hb : Blk w p 90 #[vb, va, vo, sn, sn, sn, sn]) :
  Calls Try.prog 43 #[.pointer (some ⟨p, 0, none⟩)] w fun e w' => e = .returned (.tuple #[]) ∧ Ex p w w' ∧ ∃ vr vp, Blk w' p 90 #[vb, va, vo, vr, vp, sn, sn] ∧ OwR tI w.heap.size w' vr (nI D.reverse) ∧ OwR tI w.heap.size w' vp ((List.range n).map fun b => if b ∈ D then (plc D b : Int) else -1) := by
 obtain ⟨a0, cap, rfl, h1, h2⟩ := hf.sb.form
 have hln := hf.ln
 have f0 := hf.f0
 rw [hln] at f0 h1
 have hDd := hD.po.nd
 have hDne : D ≠ [] := fun e => by have := hD.po.z0; rw [e] at this; cases this
 obtain ⟨m0, B0, hv0⟩ := hD
 have hR0 : Run nx (m0 + 0) [(0, 0)] (Fl.mark (fun _ => false) 0, []) (B0, D) := Run.cons hv0 Run.nil
 have HR0 := Lib.hid hR0
 have hpl := hb.lt
 obtain ⟨bb, off, rfl, hbp, hat0⟩ := hf.sb.get (show bs[0]? = some (bs[0]'(by omega)) from List.getElem?_eq_getElem _)
 have HB := Lib.hid hb
 have HF := Lib.hid hf
 have HN := Lib.hid hn
 have HX := Lib.hid hx2
 have HLN := Lib.hid hln
 have HDL := Lib.hid hDl
 have HND := Lib.hid (And.intro hDd hDne)
 unfold maxLen at h2
 clear hat0 hDd hDne hR0 hv0 hb hf hn hx2 hln hDl
 go_enter Try.func43, Try.ntmps43
 go_wp2_with fail
 refine (newSet_ok _ n (by omega)).mono ?_
 rintro e w1 ⟨b1, pS, gS, rfl, hst⟩
 have HB1 := Lib.hid (HB.out.below b1 HB.out.lt)
 have HS1 := Lib.hid hst
 have HE1 := Lib.hid b1
 clear hst b1
 go_wp2_with fail
 refine (add_new _ w.heap.size pS gS n (fun _ => false) (HS1.out.below (bAl (bRefl _) _)) 0 (by omega) (by omega) rfl).mono ?_
 rintro e w2 ⟨rfl, rfl⟩
 go_wp2_with fail
 have hS2 := (HS1.out.below (bAl (bRefl w1) (.cells #[.slice none 0 0] 124)))
 have hgb := hS2.gb.blk (g := gS) rfl
 have hw0 : Wv w p n pS gS w1.heap.size (.slice (some ⟨bb, off, none⟩) bs.length cap) va vo (Fl.mark (fun _ => false) 0) [] [] sn ((w1.alloc (.cells #[.slice none 0 0] 124)).setCell ⟨gS, 0, none⟩ (.bool true)) := by
  have hq : Wv w p n pS gS w1.heap.size (.slice (some ⟨bb, off, none⟩) bs.length cap) va vo (fun _ => false) [] [] sn (w1.alloc (.cells #[.slice none 0 0] 124)) :=
   ⟨(Ex.of_below HE1.out).alloc _, HB1.out.alloc _, hS2, ⟨_, Blk.new _ _ _, OwR.nil _ _, HE1.out.size⟩, OwR.nil _ _⟩
  exact hq.mark h0
 obtain ⟨pT, hpT⟩ : ∃ q, q = w1.heap.size := ⟨_, rfl⟩
 rw [← hpT] at hw0 ⊢
 have HW0 := Lib.hid hw0
 clear hw0 hgb hS2 hpT
 refine (pushS_ok _ w.heap.size pT [] HW0.out.ss (by simp) 0 0).mono ?_
 rintro e w2 ⟨rfl, hss, hfq⟩
 have HW := Lib.hid (HW0.out.fq (S' := [(0, 0)]) hfq hss)
 clear hss hfq HW0 HB1 HS1 HE1
 go_wp2
 go_loopg [] (m0 + 0) (fun m wr => ∃ (V : Nat → Bool) (S : List (Nat × Nat)) (O : List Nat) (vr : Value), Hid (Wv w p n pS gS pT (.slice (some ⟨bb, off, none⟩) bs.length cap) va vo V S O vr wr) ∧ Hid (Run nx m S (V, O) (B0, D)) ∧ Hid (∀ x ∈ S, x.1 < n))
 case atStart => exact ⟨_, _, _, _, HW.out, HR0.out, (fun x hx => by simp at hx; subst hx; exact h0)⟩
 case round =>
  clear HW HR0
  obtain ⟨V, S, O, vr, hW, hR, hS⟩ := hrel
  cases S with
  | nil =>
   have hOD : O = D := by
    have h := hR.out
    generalize hS0 : ([] : List (Nat × Nat)) = S0 at h
    generalize hs0 : (V, O) = s0 at h
    generalize hs1 : (B0, D) = s1 at h
    cases h with
    | nil => rw [← hs0] at hs1; injection hs1 with _ h; exact h.symm
    | cons => cases hS0
   subst hOD
   have HR1 := Lib.hid hDn
   clear hR hS
   go_wp2_with fail
   refine (popS_none _ w.heap.size pT hW.out.ss).mono ?_
   rintro e w3 ⟨rfl, b3⟩
   have HW3 := Lib.hid (hW.out.below b3)
   clear b3 hW
   go_upto_region 13 with (fail)
   have HE := Lib.hid (HW3.out.ex.alloc (.cells #[.int .i64 0, .int .i64 0] 127))
   have HPB := Lib.hid (HW3.out.pb.alloc (.cells #[.int .i64 0, .int .i64 0] 127))
   have HOW := Lib.hid (HW3.out.ow.alloc (.cells #[.int .i64 0, .int .i64 0] 127))
   generalize (w3.alloc (.cells #[.int .i64 0, .int .i64 0] 127)) = W at HE HPB HOW ⊢
   clear HW3
   have k3 := HPB.out.cell 3
   simp only [List.getElem?_toArray, List.getElem?_cons_zero, List.getElem?_cons_succ] at k3
   go_wp2_with fail
   refine (reverse_ok _ w.heap.size vr (nI O) HOW.out (by rw [nI_len]; omega)).mono ?_
   rintro e w4 ⟨rfl, ow4, hg4⟩
   have HO4 := Lib.hid (show OwR tI w.heap.size w4 vr (nI O.reverse) by unfold nI at ow4 ⊢; rw [List.map_reverse]; exact ow4)
   have HE4 := Lib.hid (HE.out.grown hg4 fun g e => (HOW.out.blk e).1)
   have HP4 := Lib.hid (HPB.out.of_block (hg4.block p HPB.out.lt (fun e => HOW.out.ne HPB.out (by decide) e.symm)))
   clear ow4 hg4 HE HPB HOW k3
   have k0 := HP4.out.cell 0
   rw [HLN.out] at k0
   simp only [List.getElem?_toArray, List.getElem?_cons_zero] at k0
   go_upto_region 15 with (at_make; refine wpl_make tI 0 rfl rfl _ _ rfl .i64 .i64 (n : Int) (n : Int) n rfl rfl rfl rfl (by show 8 * n ≤ _; omega) (by unfold maxLen; omega) ?_; intro w5 ho5 hb5 hlt5; have hp5 := HP4.out.below hb5 HP4.out.lt; have c5 := hp5.cell 4; have f5 := hp5.frozen 4; simp only [List.getElem?_toArray, List.getElem?_cons_zero, List.getElem?_cons_succ] at c5)
   have hW6 : Wp w p w4.heap.size n (.slice (some ⟨bb, off, none⟩) bs.length cap) va vo vr (nI O.reverse) (miK n 0) (w5.setCell ⟨p, 4, none⟩ (.slice (some ⟨w4.heap.size, 0, none⟩) n n)) :=
    ⟨(HE4.out.trans (Ex.of_below hb5)).set 4 _, (hp5.set 4 _).eq rfl, (HO4.out.below hb5).set_other ((HO4.out.below hb5).ne hp5 (by decide)), by rw [miK_zero]; exact (ho5.mono HE4.out.size).set_other (ho5.ne hp5 (by decide)), fun e => by have := HO4.out.lt e; omega⟩
   obtain ⟨gp, hgp⟩ : ∃ g, g = w4.heap.size := ⟨_, rfl⟩
   rw [← hgp] at hW6 ⊢
   have HW6 := Lib.hid hW6
   generalize (w5.setCell ⟨p, 4, none⟩ (.slice (some ⟨gp, 0, none⟩) n n)) = W6 at HW6 ⊢
   clear hW6 ho5 hb5 hlt5 hp5 f5 c5 HO4 HE4 HP4 k0 hgp
   have k4 := HW6.out.pb.cell 4
   simp only [List.getElem?_toArray, List.getElem?_cons_zero, List.getElem?_cons_succ] at k4
   go_wp2
   go_loopw [95] (fun t wr => ∃ k : Nat, k ≤ n ∧ t = .int .i64 (k : Int) ∧ Hid (Wp w p gp n (.slice (some ⟨bb, off, none⟩) bs.length cap) va vo vr (nI O.reverse) (miK n k) wr)) (fun t _ => n - (intOf t).toNat)
   case atStart => exact ⟨0, by omega, rfl, HW6.out⟩
   case round =>
    clear HW6 k4
    obtain ⟨k, hk, rfl, hW⟩ := hrel
    by_cases hlt : k < n
    ·have hlt' : (k : Int) < (n : Int) := by omega
     have hk0 : (0 : Int) ≤ (k : Int) := by omega
     have k4 := hW.out.pb.cell 4
     simp only [List.getElem?_toArray, List.getElem?_cons_zero, List.getElem?_cons_succ] at k4
     have kc := OwR.int hW.out.pp (k := k) (x := (miK n k)[k]'(by rw [miK_len]; exact hlt)) (List.getElem?_eq_getElem _)
     have kf := hW.out.pp.frozen k
     have hnew := hW.out.set (k := k) (x := -1) (by rw [miK_len]; exact hlt)
     rw [miK_succ] at hnew
     have HNW := Lib.hid hnew
     clear hnew hW
     go_wp2
     go_roundw
     all_goals first
      | exact ⟨k + 1, by omega, by go_num, HNW.out⟩
      | ((repeat apply Exists.intro); exact ⟨⟨k + 1, by omega, by go_num, HNW.out⟩, rfl⟩)
      | (simp [intOf]; omega)
    ·obtain rfl : n = k := by omega
     clear hlt
     have hW0 := hW.out
     rw [miK_all O] at hW0
     have HW := Lib.hid hW0
     clear hW0 hW
     rcases HW.out.ow.form with ⟨_, e⟩ | ⟨gr, cr, rfl, hcr, hcr2, _⟩
     ·exfalso
      apply HND.out.2
      unfold nI at e
      simpa using e
     ·have k3 := HW.out.pb.cell 3
      simp only [List.getElem?_toArray, List.getElem?_cons_zero, List.getElem?_cons_succ] at k3
      rw [nI_len, List.length_reverse] at k3 hcr HW
      unfold maxLen at hcr2
      obtain ⟨WW, rfl⟩ : ∃ x : World, x = wr := ⟨_, rfl⟩
      have hOl : (O.length : Int) ≤ 1048576 := by omega
      go_wp2
      go_loopw [110] (fun t wr => ∃ j : Nat, j ≤ O.length ∧ t = .int .i64 (j : Int) ∧ Hid (Wp w p gp n (.slice (some ⟨bb, off, none⟩) bs.length cap) va vo (.slice (some ⟨gr, 0, none⟩) O.length cr) (nI O.reverse) (plK O n j) wr)) (fun t _ => O.length - (intOf t).toNat)
      case atStart => exact ⟨0, by omega, rfl, HW.out⟩
      case round =>
       clear HW k3
       obtain ⟨j, hj, rfl, hW⟩ := hrel
       by_cases hlj : j < O.length
       ·have hlj' : (j : Int) < (O.length : Int) := by omega
        obtain ⟨x, hx⟩ : ∃ x, O.reverse[j]? = some x := ⟨_, List.getElem?_eq_getElem (by rw [List.length_reverse]; exact hlj)⟩
        have hxn : x < n := HDL.out x (List.mem_reverse.1 (List.mem_of_getElem? hx))
        have hxi : (x : Int) < (n : Int) := by omega
        have hx0 : (0 : Int) ≤ (x : Int) := by omega
        have k4 := hW.out.pb.cell 4
        simp only [List.getElem?_toArray, List.getElem?_cons_zero, List.getElem?_cons_succ] at k4
        have kr := OwR.int hW.out.ow (k := j) (x := (x : Int)) (by unfold nI; rw [List.getElem?_map, hx]; rfl)
        have kc := OwR.int hW.out.pp (k := x) (x := (plK O n j)[x]'(by rw [plK_len]; exact hxn)) (List.getElem?_eq_getElem _)
        have kf := hW.out.pp.frozen x
        have hnew := hW.out.set (k := x) (x := (j : Int)) (by rw [plK_len]; exact hxn)
        rw [plK_succ HND.out.1 n j x hx hxn] at hnew
        have HNW := Lib.hid hnew
        clear hnew hW hx
        go_wp2
        go_roundw
        all_goals first
         | exact ⟨j + 1, by omega, by go_num, HNW.out⟩
         | ((repeat apply Exists.intro); exact ⟨⟨j + 1, by omega, by go_num, HNW.out⟩, rfl⟩)
         | (simp [intOf]; omega)
       ·have hjl : O.length = j := by omega
        have hW0 := hW.out
        rw [← hjl, show plK O n O.length = (List.range n).map fun b => if b ∈ O then (plc O b : Int) else -1 from (by unfold plK; rw [List.take_of_length_le (by simp)]; simp)] at hW0
        have HW := Lib.hid hW0
        clear hW0 hW hjl
        go_wp2
        go_end0
        have hW := HW.out
        exact ⟨rfl, hW.ex, _, _, hW.pb, hW.ow, hW.pp⟩
  | cons x S =>
   obtain ⟨b, k⟩ := x
   have hbn := hS.out (b, k) (by simp)
   have hlen := Run.len hR.out
   have hss := hW.out.ss
   simp only [List.reverse_cons] at hss
   have HSS := Lib.hid hss
   clear hss
   go_wp2_with fail
   refine (popS_some _ w.heap.size pT S.reverse b k HSS.out).mono ?_
   rintro e w3 ⟨rfl, hs3, hf3⟩
   have HW3 := Lib.hid (hW.out.fq hf3 hs3)
   clear hs3 hf3 hW HSS
   go_wp2_with fail
   have HW4 := Lib.hid (HW3.out.below (bAl (bRefl w3) (.cells #[.int .i64 (b : Int), .int .i64 (k : Int)] 127)))
   have HQ := Lib.hid (Blk.new w3 127 #[.int .i64 (b : Int), .int .i64 (k : Int)])
   obtain ⟨qs, hqs⟩ : ∃ q, q = w3.heap.size := ⟨_, rfl⟩
   have hqs1 : w.heap.size ≤ qs := by rw [hqs]; exact HW3.out.ex.size
   obtain ⟨vt, hvt1, hvt2, hvt3⟩ := HW3.out.ss
   have hvq : vt.ownBlock ≠ some qs := fun e => by have := hvt2.lt e; omega
   have HV1 := Lib.hid (hvt1.alloc (.cells #[.int .i64 (b : Int), .int .i64 (k : Int)] 127))
   have HV2 := Lib.hid (hvt2.alloc (.cells #[.int .i64 (b : Int), .int .i64 (k : Int)] 127))
   have HV3 := Lib.hid (And.intro hvt3 hvq)
   clear hvt1 hvt2 hvt3 hvq
   rw [← hqs] at HQ ⊢
   generalize (w3.alloc (.cells #[.int .i64 (b : Int), .int .i64 (k : Int)] 127)) = W4 at HW4 HQ HV1 HV2 ⊢
   clear HW3 hqs
   obtain ⟨kb, hkb⟩ : ∃ kb, bs[b]? = some kb := ⟨_, List.getElem?_eq_getElem (by rw [HLN.out]; exact hbn)⟩
   have hsb := HF.out.sb.ex HW4.out.ex
   obtain ⟨bb', off', eb, _, hat⟩ := hsb.get hkb
   injection eb with eb
   injection eb with eb1 eb2
   subst eb1 eb2
   obtain ⟨_, _, c2⟩ := at_bk hat
   have e3 : tK.n = 3 := rfl
   rw [e3] at c2
   have hnx := HF.out.nb b kb hkb
   obtain ⟨an, cn, en, hn1, hn3⟩ := hnx.form
   rw [nI_len] at en hn1
   rw [en] at c2 hnx
   unfold maxLen at hn3
   have hxb := HX.out b
   have HNX := Lib.hid hnx
   have cp := HW4.out.pb.cell 0
   rw [HLN.out] at cp
   simp only [List.getElem?_toArray, List.getElem?_cons_zero] at cp
   have q0 := HQ.out.cell 0
   have q1 := HQ.out.cell 1
   simp only [List.getElem?_toArray, List.getElem?_cons_zero, List.getElem?_cons_succ] at q0 q1
   have hbi : (b : Int) < (n : Int) := by omega
   have hb0i : (0 : Int) ≤ (b : Int) := by omega
   clear hkb hsb hat e3 hnx en
   have hstep : (k = (nx b).length ∧ ∃ j, j < gk ∧ Run nx j S (V, O ++ [b]) (B0, D)) ∨ ∃ c, (nx b)[k]? = some c ∧ ((V c = true ∧ ∃ j, j < gk ∧ Run nx j ((b, k + 1) :: S) (V, O) (B0, D)) ∨ (V c = false ∧ ∃ j, j < gk ∧ Run nx j ((c, 0) :: (b, k + 1) :: S) (Fl.mark V c, O) (B0, D))) := by
    rcases hR.out.step with h | ⟨c, hc, hB, j, hj, hr⟩ | ⟨c, hc, hB, j, hj, hr⟩
    ·exact Or.inl h
    ·exact Or.inr ⟨c, hc, Or.inl ⟨hB, j, hj, hr⟩⟩
    ·exact Or.inr ⟨c, hc, Or.inr ⟨hB, j, hj, hr⟩⟩
   rcases hstep with ⟨ek, j, hj, hr⟩ | ⟨c, hc, hcc⟩
   ·have HEK := Lib.hid ek
    have HR := Lib.hid hr
    have heq : ((k : Int) == ((nx b).length : Int)) = true := by simp [ek]
    clear ek hr hR HV1 HV2 HV3
    go_upto_region 6 with (fail)
    go_quiet (fail)
    have HW5 := Lib.hid (HW4.out.below (bDraw (bRefl W4) nq))
    have HQ5 := Lib.hid (HQ.out.drewN nq)
    generalize W4.drewN nq = W5 at HW5 HQ5 ⊢
    clear HW4 HQ HNX cp q0 q1 c2
    have q1 := HQ5.out.cell 1
    simp only [List.getElem?_toArray, List.getElem?_cons_zero, List.getElem?_cons_succ] at q1
    go_upto_region 8 with (fail)
    have kp : W5.cell? ⟨p, 3, none⟩ = some vr := HW5.out.pb.cell 3
    have kq : W5.cell? ⟨qs, 0, none⟩ = some (.int .i64 (b : Int)) := HQ5.out.cell 0
    have cv : W5.drew.cell? ⟨p, 3, none⟩ = some vr ∧ W5.drew.cell? ⟨qs, 0, none⟩ = some (.int .i64 (b : Int)) := ⟨kp, kq⟩
    have hlO : O.length ≤ 1048576 := by simp at hlen; omega
    refine wp_region_last 11 (fun w' => w'.cell? ⟨p, 3, none⟩ = some vr ∧ w'.cell? ⟨qs, 0, none⟩ = some (.int .i64 (b : Int))) mix ?_
    refine wpAnyL_take (i := 0) (v := .pointer (some ⟨p, 0, none⟩)) rfl (by kernel_rfl) (by kernel_rfl) (by kernel_rfl) (fun _ _ _ h => h) rfl (by kernel_rfl) (Or.inl ⟨by rfl, fun w' hw' => by (try go_split_ands); go_simp⟩) cv ?_
    simp only [Act.put, List.getElem_toArray, List.getElem_cons_zero, List.setIfInBounds_toArray, List.set_cons_zero, List.set_cons_succ]
    refine wpAnyL_take (i := 1) (v := .pointer (some ⟨p, 0, none⟩)) rfl (by kernel_rfl) (by kernel_rfl) (by kernel_rfl) (fun _ _ _ h => h) rfl (by kernel_rfl) (Or.inl ⟨by rfl, fun w' hw' => by (try go_split_ands); go_simp⟩) cv ?_
    simp only [Act.put, List.getElem_toArray, List.getElem_cons_zero, List.getElem_cons_succ, List.setIfInBounds_toArray, List.set_cons_zero, List.set_cons_succ]
    refine wpAnyL_take (i := 2) (v := .pointer (some ⟨p, 0, none⟩)) rfl (by kernel_rfl) (by kernel_rfl) (by kernel_rfl) (fun _ _ _ h => h) rfl (by kernel_rfl) (Or.inl ⟨by rfl, fun w' hw' => by (try go_split_ands); go_simp⟩) cv ?_
    simp only [Act.put, List.getElem_toArray, List.getElem_cons_zero, List.getElem_cons_succ, List.setIfInBounds_toArray, List.set_cons_zero, List.set_cons_succ]
    refine wpAnyL_take (i := 3) (v := .pointer (some ⟨p, 3, none⟩)) rfl (by kernel_rfl) (by kernel_rfl) (by kernel_rfl) (fun _ _ _ h => h) rfl (by kernel_rfl) (Or.inl ⟨by rfl, fun w' hw' => by (try go_split_ands); go_simp⟩) cv ?_
    simp only [Act.put, List.getElem_toArray, List.getElem_cons_zero, List.getElem_cons_succ, List.setIfInBounds_toArray, List.set_cons_zero, List.set_cons_succ]
    refine wpAnyL_take (i := 4) (v := vr) rfl (by kernel_rfl) (by kernel_rfl) (by kernel_rfl) (fun _ _ _ h => h) rfl (by kernel_rfl) (Or.inl ⟨by rfl, fun w' hw' => by (try go_split_ands); go_simp⟩) cv ?_
    simp only [Act.put, List.getElem_toArray, List.getElem_cons_zero, List.getElem_cons_succ, List.setIfInBounds_toArray, List.set_cons_zero, List.set_cons_succ]
    refine wpAnyL_take (i := 5) (v := .pointer (some ⟨qs, 0, none⟩)) rfl (by kernel_rfl) (by kernel_rfl) (by kernel_rfl) (fun _ _ _ h => h) rfl (by kernel_rfl) (Or.inl ⟨by rfl, fun w' hw' => by (try go_split_ands); go_simp⟩) cv ?_
    simp only [Act.put, List.getElem_toArray, List.getElem_cons_zero, List.getElem_cons_succ, List.setIfInBounds_toArray, List.set_cons_zero, List.set_cons_succ]
    refine wpAnyL_take (i := 6) (v := .int .i64 (b : Int)) rfl (by kernel_rfl) (by kernel_rfl) (by kernel_rfl) (fun _ _ _ h => h) rfl (by kernel_rfl) (Or.inl ⟨by rfl, fun w' hw' => by (try go_split_ands); go_simp⟩) cv ?_
    simp only [Act.put, List.getElem_toArray, List.getElem_cons_zero, List.getElem_cons_succ, List.setIfInBounds_toArray, List.set_cons_zero, List.set_cons_succ]
    refine wpAnyL_one (i := 7) (by kernel_rfl) rfl (fun K hK => ?_)
    go_simp
    have HW6 := Lib.hid (HW5.out.below (show Below W5.heap.size W5 (W5.alloc (.cells #[.int .i64 (b : Int)] 3)).drew from (bAl (bRefl W5) _).drew))
    have HQ6 := Lib.hid ((HQ5.out.alloc (.cells #[.int .i64 (b : Int)] 3)).drew)
    have HN6 := Lib.hid ((Blk.new W5 3 #[.int .i64 (b : Int)]).drew)
    have hz6 : W5.heap.size < (W5.alloc (.cells #[.int .i64 (b : Int)] 3)).drew.heap.size := HN6.out.lt
    have hB6 := HW6.out.ex.size
    generalize (W5.alloc (.cells #[.int .i64 (b : Int)] 3)).drew = W6 at HW6 HQ6 HN6 hz6 hB6 ⊢
    refine hK.out _ _ (fun _ => ⟨HW6.out.pb.cell 3, HQ6.out.cell 0⟩) ?_
    clear hK K
    refine wpAnyL_one (i := 8) (by kernel_rfl) rfl (fun K hK => ?_)
    refine step_push tI rfl (.tmp 49) (.tmp 52) rfl w.heap.size vr (nI O) (by rfl) HW6.out.ow W5.heap.size 0 1 1 [((b : Int))] (by rfl) rfl (rangeBlk HN6.out (by rfl)) (by rw [nI_len]; unfold maxLen; simp; omega) (by rw [nI_len]; show _ * 8 ≤ _; simp; omega) hB6 ?_
    intro v' w9 hown hgrow hform
    obtain ⟨g', c', rfl, _⟩ := hform (by simp)
    have hO9 : OwR tI w.heap.size w9 (.slice (some ⟨g', 0, none⟩) ((nI O).length + 1) c') (nI (O ++ [b])) := by rw [nI_app]; exact hown
    have hp9 := HW6.out.pb.of_block (hgrow.block p HW6.out.pb.lt (fun e => HW6.out.ow.ne HW6.out.pb (by decide) e.symm))
    have hq9 := HQ6.out.of_block (hgrow.block qs HQ6.out.lt (fun e => HW6.out.ow.ne HQ6.out (by decide) e.symm))
    have cv9 : w9.cell? ⟨p, 3, none⟩ = some vr ∧ w9.cell? ⟨qs, 0, none⟩ = some (.int .i64 (b : Int)) := ⟨hp9.cell 3, hq9.cell 0⟩
    have f9 := hp9.frozen 3
    have c9 : w9.cell? ⟨p, 3, none⟩ = some vr := hp9.cell 3
    simp only [Act.put, List.setIfInBounds_toArray]
    refine hK.out _ _ (fun _ => cv9) ?_
    clear hK K
    refine wpAnyL_one (i := 9) (by kernel_rfl) rfl (fun K hK => ?_)
    go_simp
    refine hK.out _ _ (fun _ => cv9) ?_
    clear hK K
    refine wpAnyL_one (i := 10) (by kernel_rfl) rfl (fun K hK => ?_)
    go_simp
    refine hK.out _ _ (fun _ => cv9) ?_
    clear hK K
    refine wpAnyL_one (i := 11) (by kernel_rfl) rfl (fun K hK => ?_)
    go_simp
    refine hK.out _ _ (fun h => absurd rfl h) ?_
    clear hK K
    refine wpAnyL_done (by kernel_rfl) ?_ _
    have HW9 := Lib.hid (HW6.out.put hO9 hgrow)
    generalize w9.setCell ⟨p, 3, none⟩ (.slice (some ⟨g', 0, none⟩) ((nI O).length + 1) c') = W9 at HW9 ⊢
    clear hO9 hgrow hp9 hq9 cv9 f9 c9 HW6 HQ6 HN6 hz6 hB6 hown kp kq cv HW5 HQ5 q1 hform
    go_wp2
    go_roundg j
    case measure => omega
    case rel => exact ⟨V, S, _, _, HW9.out, HR.out, fun x hx => hS.out x (List.mem_cons_of_mem _ hx)⟩
   ·have hkl : k < (nx b).length := (List.getElem?_eq_some_iff.1 hc).1
    have heq : ((k : Int) == ((nx b).length : Int)) = false := by simp; omega
    have hkl' : (k : Int) < ((nx b).length : Int) := by omega
    have hk0 : (0 : Int) ≤ (k : Int) := by omega
    have hcn : c < n := HN.out b hbn c (List.mem_of_getElem? hc)
    have hci : (nI (nx b))[k]? = some (c : Int) := by unfold nI; rw [List.getElem?_map, hc]; rfl
    obtain ⟨bn, on, rfl, _, _, _⟩ := SlX.int HNX.out hci
    have HCI := Lib.hid hci
    have HCC := Lib.hid hcc
    clear hcc hc hci hR
    go_upto_region 6 with (fail)
    go_quiet (fail)
    have HW5 := Lib.hid (HW4.out.below (bDraw (bRefl W4) nq))
    have HQ5 := Lib.hid (HQ.out.drewN nq)
    have HV15 := Lib.hid (HV1.out.drewN nq)
    have HV25 := Lib.hid (show OwR tS w.heap.size (W4.drewN nq) vt (nS S.reverse) from HV2.out)
    generalize W4.drewN nq = W5 at HW5 HQ5 HV15 HV25 ⊢
    clear HW4 HQ HV1 HV2 cp q0 q1 c2
    have q1 := HQ5.out.cell 1
    have q0 := HQ5.out.cell 0
    simp only [List.getElem?_toArray, List.getElem?_cons_zero, List.getElem?_cons_succ] at q1 q0
    go_wp2_with fail
    refine (pushS_eq _ w.heap.size pT vt S.reverse HV15.out HV25.out HV3.out.1 (by simp at hlen ⊢; omega) b (k + 1) _ (by omega)).mono ?_
    rintro e w6 ⟨rfl, hs6, hf6, hk6⟩
    have HW6 := Lib.hid (HW5.out.fq (S' := (b, k + 1) :: S) hf6 (by rw [List.reverse_cons]; exact hs6))
    have HQ6 := Lib.hid (HQ5.out.of_block (hk6 qs HQ5.out.lt (blk_ne HQ5.out HV15.out (by decide)) HV3.out.2))
    clear HW5 HQ5 HV15 HV25 HV3 hs6 hf6 hk6 q0 q1
    have q1 := HQ6.out.cell 1
    simp only [List.getElem?_toArray, List.getElem?_cons_zero, List.getElem?_cons_succ] at q1
    obtain ⟨_, _, eo, _, _, cc⟩ := SlX.int (HNX.out.ex HW6.out.ex) HCI.out
    injection eo with eo
    injection eo with eo1 eo2
    subst eo1 eo2
    have hSb : Hid (∀ x ∈ (b, k + 1) :: S, x.1 < n) := fun x hx => by
     rcases List.mem_cons.1 hx with rfl | hx
     ·exact hbn
     ·exact hS.out x (List.mem_cons_of_mem _ hx)
    go_wp2_with fail
    rcases HCC.out with ⟨hB, j, hj, hr⟩ | ⟨hB, j, hj, hr⟩
    ·have HR := Lib.hid hr
     clear hr HCC
     refine (add_old _ w.heap.size pS gS n V HW6.out.st (c : Int) (by omega) (by omega) (by rw [Int.toNat_natCast]; exact hB)).mono ?_
     rintro e w7 ⟨rfl, rfl⟩
     clear hB
     go_wp2
     go_roundg j
     case measure => omega
     case rel => exact ⟨V, _, _, _, HW6.out, HR.out, hSb.out⟩
    ·have HR := Lib.hid hr
     clear hr HCC
     refine (add_new _ w.heap.size pS gS n V HW6.out.st (c : Int) (by omega) (by omega) (by rw [Int.toNat_natCast]; exact hB)).mono ?_
     rintro e w7 ⟨rfl, rfl⟩
     have HW7 := Lib.hid (HW6.out.mark (i := c) hcn)
     simp only [Int.toNat_natCast]
     generalize w6.setCell ⟨gS, c, none⟩ (.bool true) = W7 at HW7 ⊢
     clear hB HW6 HQ6 q1 cc
     go_wp2_with fail
     have hss7 := HW7.out.ss
     rw [List.reverse_cons] at hss7
     refine (pushS_ok _ w.heap.size pT _ hss7 (by simp at hlen ⊢; omega) c 0).mono ?_
     rintro e w8 ⟨rfl, hs8, hf8⟩
     have HW8 := Lib.hid (HW7.out.fq (S' := (c, 0) :: (b, k + 1) :: S) hf8 (by rw [List.reverse_cons, List.reverse_cons]; exact hs8))
     clear hss7 hs8 hf8 HW7
     go_wp2
     go_roundg j
     case measure => omega
     case rel => exact ⟨_, _, _, _, HW8.out, HR.out, fun x hx => by
      rcases List.mem_cons.1 hx with rfl | hx
      ·exact hcn
      ·exact hSb.out x hx⟩
end Go.Proofs.Ytndnfjcfpcfakaa
namespace Go.Wr
open Go Go.RowKit
section
variable {P : Program} {α : Type} {R : RT P α}
theorem wpl_pushL (R : RT P α) {ops : Array Oper} {rest : List Oper} {op : Oper} {a : Act} {w : World} {Q : Exit → Act → World → Prop} (hgd : op.guard = none) (s x : Operand)
  (ho : op.op = .call { callee := .builtin .append, args := #[s, x], argTypes := #[R.S, R.S] })
  (B : Nat) (v : Value) (l : List α) (hs : a.eval s = v) (hown : OwR R B w v l)
  (b o n c : Nat) (m : List α) (hx : a.eval x = .slice (some ⟨b, o, none⟩) n c) (hn : n = m.length) (hm : 0 < m.length) (hnews : w.rangeAt b o (R.cs m))
  (hl : l.length + m.length ≤ maxLen) (hby : (l.length + m.length) * R.bs ≤ 140737488355328) (hB : B ≤ w.heap.size)
  (h : ∀ g c' w', OwR R B w' (.slice (some ⟨g, 0, none⟩) (l.length + m.length) c') (l ++ m) → w.grownBy w' v.ownBlock → (v.ownBlock = some g ∨ g = w.heap.size) → wpList P ops Q rest (a.put op.dst (.slice (some ⟨g, 0, none⟩) (l.length + m.length) c')) w') : wpList P ops Q (op :: rest) a w := by
 obtain ⟨i, hi, hz0, hz1, hz2⟩ := info_parts R.info
 subst hn
 refine wpList_append_lies w hgd s x _ ho B R.T i _ R.n R.bs R.und hi hz0 hz1 hz2 R.zs R.npos v l.length (R.cs l) hs hown ⟨b, o, none⟩ m.length c (R.cs m) hx (R.cs_len m) (fun j u hj => by rw [Addr.add_lit]; exact hnews j u hj) (R.cs_ones m) hm hl hby hB w.heap.size rfl ?_
 intro g cap w' h1 h2 h3 _
 refine h g cap w' ?_ h2 h3
 unfold OwR
 rw [R.cs_app, List.length_append]
 exact h1
theorem step_pushL (R : RT P α) {ops : Array Oper} {op : Oper} {a : Act} {w : World} {K : Act → World → Prop} {Q : Exit → Act → World → Prop} {E : Prop} (hgd : op.guard = none) (s x : Operand)
  (ho : op.op = .call { callee := .builtin .append, args := #[s, x], argTypes := #[R.S, R.S] })
  (B : Nat) (v : Value) (l : List α) (hs : a.eval s = v) (hown : OwR R B w v l)
  (b o n c : Nat) (m : List α) (hx : a.eval x = .slice (some ⟨b, o, none⟩) n c) (hn : n = m.length) (hm : 0 < m.length) (hnews : w.rangeAt b o (R.cs m))
  (hl : l.length + m.length ≤ maxLen) (hby : (l.length + m.length) * R.bs ≤ 140737488355328) (hB : B ≤ w.heap.size)
  (h : ∀ g c' w', OwR R B w' (.slice (some ⟨g, 0, none⟩) (l.length + m.length) c') (l ++ m) → w.grownBy w' v.ownBlock → (v.ownBlock = some g ∨ g = w.heap.size) → K (a.put op.dst (.slice (some ⟨g, 0, none⟩) (l.length + m.length) c')) w') :
  if Region.wanted op (yielded ops a.tmps) = true then Oper.wp P op a w K Q else E := by
 obtain ⟨i, hi, hz0, hz1, hz2⟩ := info_parts R.info
 subst hn
 refine step_append_lies w hgd s x _ ho B R.T i _ R.n R.bs R.und hi hz0 hz1 hz2 R.zs R.npos v l.length (R.cs l) hs hown ⟨b, o, none⟩ m.length c (R.cs m) hx (R.cs_len m) (fun j u hj => by rw [Addr.add_lit]; exact hnews j u hj) (R.cs_ones m) hm hl hby hB w.heap.size rfl ?_
 intro g cap w' h1 h2 h3 _
 refine h g cap w' ?_ h2 h3
 unfold OwR
 rw [R.cs_app, List.length_append]
 exact h1
end
end Go.Wr
namespace Go.Proofs.Ytndnfjcfpcfakaa
open Go Go.RowKit Go.Wr Go.Fl
structure Fam (B m : Nat) (row : Nat → Sv) (cont : Nat → List Int) (w : World) : Prop where
 own : ∀ i, i < m → OwR tI B w (row i).v (cont i)
 apart : ∀ i j, i < m → j < m → i ≠ j → ∀ g, (row i).v.ownBlock = some g → (row j).v.ownBlock ≠ some g
def setF {α : Type} (f : Nat → α) (k : Nat) (x : α) : Nat → α := fun i => if i = k then x else f i
theorem setF_self {α : Type} (f : Nat → α) (k : Nat) (x : α) : setF f k x k = x := by simp [setF]
theorem setF_ne {α : Type} {f : Nat → α} {k i : Nat} {x : α} (h : i ≠ k) : setF f k x i = f i := by simp [setF, h]
section
variable {B m : Nat} {row : Nat → Sv} {cont : Nat → List Int} {w w' : World}
theorem Fam.lt (h : Fam B m row cont w) {i g : Nat} (hi : i < m) (hg : (row i).v.ownBlock = some g) : g < w.heap.size := (h.own i hi).lt hg
theorem Fam.keep (h : Fam B m row cont w) (hk : ∀ g C, B ≤ g → Blk w g 3 C → w'.heap[g]? = w.heap[g]?) : Fam B m row cont w' :=
 ⟨fun i hi => (h.own i hi).keep fun g hg => by obtain ⟨h1, C, hb⟩ := (h.own i hi).blk hg; exact hk g C h1 hb, h.apart⟩
theorem Fam.below (h : Fam B m row cont w) (b : Below w.heap.size w w') : Fam B m row cont w' := h.keep fun g _ _ hb => b.block g hb.lt
theorem Fam.alloc (h : Fam B m row cont w) (o : Obj) : Fam B m row cont (w.alloc o) := h.below (bAl (bRefl w) o)
theorem Fam.setOther (h : Fam B m row cont w) {b i : Nat} {v : Value} {T : TypeId} {C : Array Value} (hb : Blk w b T C) (hT : 3 ≠ T) : Fam B m row cont (w.setCell ⟨b, i, none⟩ v) :=
 h.keep fun g _ _ hg => Below.heap_setCell w ⟨b, i, none⟩ v g (blk_ne hg hb hT)
theorem Fam.grow (h : Fam B m row cont w) {k : Nat} (hk : k < m) {o : Obj} {g n c : Nat} {l : List Int} (ho : OwR tI B w' (.slice (some ⟨g, 0, none⟩) n c) l) (hg : (w.alloc o).grownBy w' (row k).v.ownBlock)
  (hl : (row k).v.ownBlock = some g ∨ g = (w.alloc o).heap.size) : Fam B m (setF row k ⟨some ⟨g, 0, none⟩, n, c⟩) (setF cont k l) w' := by
 have hz : (w.alloc o).heap.size = w.heap.size + 1 := by simp
 refine ⟨fun i hi => ?_, fun i j hi hj hij q hq hq' => ?_⟩
 ·by_cases e : i = k
  ·subst e
   rw [setF_self, setF_self]
   exact ho
  ·rw [setF_ne e, setF_ne e]
   refine ((h.alloc o).own i hi).keep fun q hq => hg.block q (((h.alloc o).own i hi).lt hq) (fun e' => ?_)
   exact h.apart k i hk hi (Ne.symm e) q e'.symm hq
 ·by_cases ei : i = k
  ·subst ei
   rw [setF_self] at hq
   rw [setF_ne (Ne.symm hij)] at hq'
   injection hq with hq
   simp only at hq
   subst hq
   rcases hl with hl | hl
   ·exact h.apart i j hi hj hij g hl hq'
   ·have := h.lt hj hq'; omega
  ·rw [setF_ne ei] at hq
   by_cases ej : j = k
   ·subst ej
    rw [setF_self] at hq'
    injection hq' with hq'
    simp only at hq'
    subst hq'
    rcases hl with hl | hl
    ·exact h.apart i j hi hj hij g hq hl
    ·have := h.lt hi hq; omega
   ·rw [setF_ne ej] at hq'
    exact h.apart i j hi hj hij q hq hq'
theorem Fam.more (h : Fam B m row cont w) {c : Nat → List Int} {r : Nat → Sv} (hr : ∀ i, i < m → r i = row i) (hc : ∀ i, i < m → c i = cont i) (h1 : r m = ⟨none, 0, 0⟩) (h2 : c m = []) : Fam B (m + 1) r c w := by
 refine ⟨fun i hi => ?_, fun i j hi hj hij g hg hg' => ?_⟩
 ·by_cases e : i = m
  ·subst e
   rw [h1, h2]
   exact OwR.nil _ _
  ·rw [hr i (by omega), hc i (by omega)]
   exact h.own i (by omega)
 ·by_cases ei : i = m
  ·subst ei; rw [h1] at hg; cases hg
  ·by_cases ej : j = m
   ·subst ej; rw [h1] at hg'; cases hg'
   ·rw [hr i (by omega)] at hg
    rw [hr j (by omega)] at hg'
    exact h.apart i j (by omega) (by omega) hij g hg hg'
end
end Go.Proofs.Ytndnfjcfpcfakaa
namespace Go.Proofs.Ytndnfjcfpcfakaa
open Go Go.RowKit Go.Wr Go.Fl
set_option maxHeartbeats 4000000
set_option maxRecDepth 100000
def bkI (n : Nat) (fr tw : Nat → Nat) (row : Nat → Sv) : List Bk := (List.range n).map fun i => ⟨fr i, tw i, row i⟩
def ahI (n : Nat) (row : Nat → Sv) : List Sv := (List.range n).map fun i => row (n + i)
structure Lk (B p gb cb ga n : Nat) (rest : List Value) (fr tw : Nat → Nat) (row : Nat → Sv) (cont : Nat → List Int) (w : World) : Prop where
 pb : Blk w p 90 (.slice (some ⟨gb, 0, none⟩) n cb :: .slice (some ⟨ga, 0, none⟩) n n :: rest).toArray
 kb : OwR tK B w (.slice (some ⟨gb, 0, none⟩) n cb) (bkI n fr tw row)
 ab : OwR tII B w (.slice (some ⟨ga, 0, none⟩) n n) (ahI n row)
 fm : Fam B (2 * n + 1) row cont w
 hp : B ≤ w.heap.size
section
variable {B p gb cb ga n : Nat} {rest : List Value} {fr tw : Nat → Nat} {row : Nat → Sv} {cont : Nat → List Int} {w w' : World}
theorem Lk.ne_pb (h : Lk B p gb cb ga n rest fr tw row cont w) : p ≠ gb ∧ p ≠ ga ∧ gb ≠ ga := by
 obtain ⟨_, C, h1⟩ := h.kb.blk (g := gb) rfl
 obtain ⟨_, C', h2⟩ := h.ab.blk (g := ga) rfl
 exact ⟨blk_ne h.pb h1 (by decide), blk_ne h.pb h2 (by decide), blk_ne h1 h2 (by decide)⟩
theorem Lk.below (h : Lk B p gb cb ga n rest fr tw row cont w) (b : Below w.heap.size w w') : Lk B p gb cb ga n rest fr tw row cont w' :=
 ⟨h.pb.below b h.pb.lt, h.kb.below b, h.ab.below b, h.fm.below b, Nat.le_trans h.hp b.size⟩
theorem kCell (h : OwR tK B w (.slice (some ⟨gb, 0, none⟩) n cb) (bkI n fr tw row)) {i : Nat} (hi : i < n) : w.cell? ⟨gb, i * 3 + 2, none⟩ = some (row i).v := by
 have hat := h.at (k := i) (x := ⟨fr i, tw i, row i⟩) (by unfold bkI; rw [List.getElem?_map, List.getElem?_range hi]; rfl)
 have h2 := hat.cell 2 _ rfl
 have e : ∀ j, 0 + i * tK.n + j = i * 3 + j := fun j => by show 0 + i * 3 + j = _; omega
 rw [e] at h2
 exact h2
theorem aCell (h : OwR tII B w (.slice (some ⟨ga, 0, none⟩) n n) (ahI n row)) {i : Nat} (hi : i < n) : w.cell? ⟨ga, i, none⟩ = some (row (n + i)).v := by
 have hat := h.at (k := i) (x := row (n + i)) (by unfold ahI; rw [List.getElem?_map, List.getElem?_range hi]; rfl)
 have h0 := hat.cell 0 _ rfl
 have e : 0 + i * tII.n + 0 = i := by show 0 + i * 1 + 0 = _; omega
 rw [e] at h0
 exact h0
theorem Lk.cellK (h : Lk B p gb cb ga n rest fr tw row cont w) {i : Nat} (hi : i < n) : w.cell? ⟨gb, i * 3, none⟩ = some (.int .i64 (fr i)) ∧ w.cell? ⟨gb, i * 3 + 1, none⟩ = some (.int .i64 (tw i)) ∧ w.cell? ⟨gb, i * 3 + 2, none⟩ = some (row i).v := by
 have hat := h.kb.at (k := i) (x := ⟨fr i, tw i, row i⟩) (by unfold bkI; rw [List.getElem?_map, List.getElem?_range hi]; rfl)
 have h0 := hat.cell 0 _ rfl
 have h1 := hat.cell 1 _ rfl
 have h2 := hat.cell 2 _ rfl
 have e : ∀ j, 0 + i * tK.n + j = i * 3 + j := fun j => by show 0 + i * 3 + j = _; omega
 rw [e] at h0 h1 h2
 exact ⟨h0, h1, h2⟩
theorem Lk.cellA (h : Lk B p gb cb ga n rest fr tw row cont w) {i : Nat} (hi : i < n) : w.cell? ⟨ga, i, none⟩ = some (row (n + i)).v := by
 have hat := h.ab.at (k := i) (x := row (n + i)) (by unfold ahI; rw [List.getElem?_map, List.getElem?_range hi]; rfl)
 have h0 := hat.cell 0 _ rfl
 have e : 0 + i * tII.n + 0 = i := by show 0 + i * 1 + 0 = _; omega
 rw [e] at h0
 exact h0
theorem bkI_set {k : Nat} (hk : k < n) (s : Sv) : (bkI n fr tw row).set k ⟨fr k, tw k, s⟩ = bkI n fr tw (setF row k s) := by
 apply List.ext_getElem?
 intro i
 rw [List.getElem?_set]
 unfold bkI
 by_cases hi : i < n
 ·rw [List.getElem?_map, List.getElem?_map, List.getElem?_range hi]
  by_cases e : k = i
  ·subst e; simp [setF, hi]
  ·rw [if_neg e]; simp [setF, Ne.symm e]
 ·have h1 : ((List.range n).map fun i => (⟨fr i, tw i, row i⟩ : Bk))[i]? = none := List.getElem?_eq_none (by simp; omega)
  have h2 : ((List.range n).map fun i => (⟨fr i, tw i, setF row k s i⟩ : Bk))[i]? = none := List.getElem?_eq_none (by simp; omega)
  rw [h1, h2]
  split
  ·rw [if_neg (by simp; omega)]
  ·rfl
theorem ahI_set {k : Nat} (hk : k < n) (s : Sv) : (ahI n row).set k s = ahI n (setF row (n + k) s) := by
 apply List.ext_getElem?
 intro i
 rw [List.getElem?_set]
 unfold ahI
 by_cases hi : i < n
 ·rw [List.getElem?_map, List.getElem?_map, List.getElem?_range hi]
  by_cases e : k = i
  ·subst e; simp [setF, hi]
  ·rw [if_neg e]; simp [setF]; omega
 ·have h1 : ((List.range n).map fun i => row (n + i))[i]? = none := List.getElem?_eq_none (by simp; omega)
  have h2 : ((List.range n).map fun i => setF row (n + k) s (n + i))[i]? = none := List.getElem?_eq_none (by simp; omega)
  rw [h1, h2]
  split
  ·rw [if_neg (by simp; omega)]
  ·rfl
theorem bkI_hi {k : Nat} (s : Sv) : bkI n fr tw (setF row (n + k) s) = bkI n fr tw row := by
 unfold bkI
 apply List.map_congr_left
 intro i hi
 rw [setF_ne (by simp at hi; omega)]
theorem ahI_lo {k : Nat} (hk : k < n) (s : Sv) : ahI n (setF row k s) = ahI n row := by
 unfold ahI
 apply List.map_congr_left
 intro i hi
 rw [setF_ne (by omega)]
end
section
variable {B p gb cb ga n : Nat} {rest : List Value} {fr tw : Nat → Nat} {row : Nat → Sv} {cont : Nat → List Int} {w w9 : World}
theorem Lk.mid (h : Lk B p gb cb ga n rest fr tw row cont w) {k : Nat} (hk : k < 2 * n + 1) {o : Obj} (hg : (w.alloc o).grownBy w9 (row k).v.ownBlock) :
  Blk w9 p 90 (.slice (some ⟨gb, 0, none⟩) n cb :: .slice (some ⟨ga, 0, none⟩) n n :: rest).toArray ∧ OwR tK B w9 (.slice (some ⟨gb, 0, none⟩) n cb) (bkI n fr tw row) ∧ OwR tII B w9 (.slice (some ⟨ga, 0, none⟩) n n) (ahI n row) ∧ Below B w w9 := by
 have hA := h.below (bAl (bRefl w) o)
 have hown := hA.fm.own k hk
 obtain ⟨_, Cb, hb⟩ := hA.kb.blk (g := gb) rfl
 obtain ⟨_, Ca, haa⟩ := hA.ab.blk (g := ga) rfl
 refine ⟨hA.pb.of_block (hg.block p hA.pb.lt (fun e => hown.ne hA.pb (by decide) e.symm)), hA.kb.keep fun g hg' => ?_, hA.ab.keep fun g hg' => ?_, ?_⟩
 ·injection hg' with hg'
  simp only at hg'
  subst hg'
  exact hg.block gb hb.lt (fun e => hown.ne hb (by decide) e.symm)
 ·injection hg' with hg'
  simp only at hg'
  subst hg'
  exact hg.block ga haa.lt (fun e => hown.ne haa (by decide) e.symm)
 ·exact ((Below.refl B w).alloc h.hp o).grown hg (by have := h.hp; simp; omega) (fun g hgg => (hown.blk hgg).1)
theorem Lk.growK (h : Lk B p gb cb ga n rest fr tw row cont w) {a : Nat} (ha : a < n) {o : Obj} (hg : (w.alloc o).grownBy w9 (row a).v.ownBlock) {g m c : Nat} {l : List Int} (ho : OwR tI B w9 (.slice (some ⟨g, 0, none⟩) m c) l)
  (hl : (row a).v.ownBlock = some g ∨ g = (w.alloc o).heap.size) :
  Lk B p gb cb ga n rest fr tw (setF row a ⟨some ⟨g, 0, none⟩, m, c⟩) (setF cont a l) (w9.setCell ⟨gb, a * 3 + 2, none⟩ (.slice (some ⟨g, 0, none⟩) m c)) ∧ Below B w (w9.setCell ⟨gb, a * 3 + 2, none⟩ (.slice (some ⟨g, 0, none⟩) m c)) := by
 obtain ⟨h1, h2, h3, h4⟩ := h.mid (k := a) (by omega) hg
 have hf := h.fm.grow (k := a) (by omega) ho hg hl
 obtain ⟨n1, n2, n3⟩ := h.ne_pb
 obtain ⟨hBg, Cb, hb⟩ := h2.blk (g := gb) rfl
 refine ⟨⟨h1.set_other gb _ _ n1, ?_, ?_, hf.setOther hb (by decide), ?_⟩, h4.setCell hBg _⟩
 ·have hs := h2.set (k := a) (j := 2) (x := ⟨fr a, tw a, row a⟩) (y := ⟨fr a, tw a, ⟨some ⟨g, 0, none⟩, m, c⟩⟩) (v := .slice (some ⟨g, 0, none⟩) m c) (by unfold bkI; rw [List.getElem?_map, List.getElem?_range ha]; rfl) (by decide) rfl
  rw [bkI_set ha] at hs
  exact hs
 ·rw [ahI_lo ha]
  exact h3.set_other (fun e => by injection e with e; exact n3 e.symm)
 ·have := h.hp
  have := (h4.setCell (p := ⟨gb, a * 3 + 2, none⟩) hBg (.slice (some ⟨g, 0, none⟩) m c)).size
  omega
theorem Lk.growA (h : Lk B p gb cb ga n rest fr tw row cont w) {t : Nat} (ht : t < n) {o : Obj} (hg : (w.alloc o).grownBy w9 (row (n + t)).v.ownBlock) {g m c : Nat} {l : List Int} (ho : OwR tI B w9 (.slice (some ⟨g, 0, none⟩) m c) l)
  (hl : (row (n + t)).v.ownBlock = some g ∨ g = (w.alloc o).heap.size) :
  Lk B p gb cb ga n rest fr tw (setF row (n + t) ⟨some ⟨g, 0, none⟩, m, c⟩) (setF cont (n + t) l) (w9.setCell ⟨ga, t, none⟩ (.slice (some ⟨g, 0, none⟩) m c)) ∧ Below B w (w9.setCell ⟨ga, t, none⟩ (.slice (some ⟨g, 0, none⟩) m c)) := by
 obtain ⟨h1, h2, h3, h4⟩ := h.mid (k := n + t) (by omega) hg
 have hf := h.fm.grow (k := n + t) (by omega) ho hg hl
 obtain ⟨n1, n2, n3⟩ := h.ne_pb
 obtain ⟨hBg, Ca, haa⟩ := h3.blk (g := ga) rfl
 refine ⟨⟨h1.set_other ga _ _ n2, ?_, ?_, hf.setOther haa (by decide), ?_⟩, h4.setCell hBg _⟩
 ·rw [bkI_hi]
  exact h2.set_other (fun e => by injection e with e; exact n3 e)
 ·have hs := h3.set (k := t) (j := 0) (x := row (n + t)) (y := ⟨some ⟨g, 0, none⟩, m, c⟩) (v := .slice (some ⟨g, 0, none⟩) m c) (by unfold ahI; rw [List.getElem?_map, List.getElem?_range ht]; rfl) (by decide) rfl
  rw [ahI_set ht] at hs
  have e : t * tII.n + 0 = t := by show t * 1 + 0 = t; omega
  rw [e] at hs
  exact hs
 ·have := h.hp
  have := (h4.setCell (p := ⟨ga, t, none⟩) hBg (.slice (some ⟨g, 0, none⟩) m c)).size
  omega
end
theorem link_ok (w : World) (B p gb cb ga n : Nat) (rest : List Value) (fr tw : Nat → Nat) (row : Nat → Sv) (cont : Nat → List Int) (h : Lk B p gb cb ga n rest fr tw row cont w) (a t : Nat) (ha : a < n) (ht : t < n) (hc : ∀ i, i < 2 * n + 1 → (cont i).length ≤ 1048576) :
  Calls Try.prog 76 #[.pointer (some ⟨p, 0, none⟩), .int .i64 (a : Int), .int .i64 (t : Int)] w fun e w' => e = .returned (.tuple #[]) ∧ Below B w w' ∧ ∃ row', (∀ i, i ≠ a → i ≠ n + t → row' i = row i) ∧ Lk B p gb cb ga n rest fr tw row' (setF (setF cont a (cont a ++ [(t : Int)])) (n + t) (cont (n + t) ++ [(a : Int)])) w' := by
 have H := Lib.hid h
 have ha' : (a : Int) < (n : Int) := by omega
 have ht' : (t : Int) < (n : Int) := by omega
 have ha0 : (0 : Int) ≤ (a : Int) := by omega
 have ht0 : (0 : Int) ≤ (t : Int) := by omega
 have kp : w.cell? ⟨p, 0, none⟩ = some (.slice (some ⟨gb, 0, none⟩) n cb) := h.pb.cell 0
 obtain ⟨va, hva⟩ : ∃ va, va = (row a).v := ⟨_, rfl⟩
 have kn : w.cell? ⟨gb, a * 3 + 2, none⟩ = some va := by rw [hva]; exact (h.cellK ha).2.2
 have HVA := Lib.hid hva
 have hca := hc a (by omega)
 have hct := hc (n + t) (by omega)
 clear h hva hc
 go_enter Try.func76, Try.ntmps76
 have cv : w.drew.cell? ⟨p, 0, none⟩ = some (.slice (some ⟨gb, 0, none⟩) n cb) ∧ w.drew.cell? ⟨gb, a * 3 + 2, none⟩ = some va := ⟨kp, kn⟩
 go_upto_region 0 with (fail)
 refine wp_region_last 18 (fun w' => w'.cell? ⟨p, 0, none⟩ = some (.slice (some ⟨gb, 0, none⟩) n cb) ∧ w'.cell? ⟨gb, a * 3 + 2, none⟩ = some va) mix ?_
 refine wpAnyL_take (i := 0) (v := .pointer (some ⟨p, 0, none⟩)) rfl (by kernel_rfl) (by kernel_rfl) (by kernel_rfl) (fun _ _ _ h => h) rfl (by kernel_rfl) (Or.inl ⟨by rfl, fun w' hw' => by (try go_split_ands); go_simp⟩) cv ?_
 simp only [Act.put, List.getElem_toArray, List.getElem_cons_zero, List.setIfInBounds_toArray, List.set_cons_zero, List.set_cons_succ]
 refine wpAnyL_take (i := 1) (v := .pointer (some ⟨p, 0, none⟩)) rfl (by kernel_rfl) (by kernel_rfl) (by kernel_rfl) (fun _ _ _ h => h) rfl (by kernel_rfl) (Or.inl ⟨by rfl, fun w' hw' => by (try go_split_ands); go_simp⟩) cv ?_
 simp only [Act.put, List.getElem_toArray, List.getElem_cons_zero, List.getElem_cons_succ, List.setIfInBounds_toArray, List.set_cons_zero, List.set_cons_succ]
 refine wpAnyL_take (i := 2) (v := .pointer (some ⟨p, 0, none⟩)) rfl (by kernel_rfl) (by kernel_rfl) (by kernel_rfl) (fun _ _ _ h => h) rfl (by kernel_rfl) (Or.inl ⟨by rfl, fun w' hw' => by (try go_split_ands); go_simp⟩) cv ?_
 simp only [Act.put, List.getElem_toArray, List.getElem_cons_zero, List.getElem_cons_succ, List.setIfInBounds_toArray, List.set_cons_zero, List.set_cons_succ]
 refine wpAnyL_take (i := 3) (v := .slice (some ⟨gb, 0, none⟩) n cb) rfl (by kernel_rfl) (by kernel_rfl) (by kernel_rfl) (fun _ _ _ h => h) rfl (by kernel_rfl) (Or.inl ⟨by rfl, fun w' hw' => by (try go_split_ands); go_simp⟩) cv ?_
 simp only [Act.put, List.getElem_toArray, List.getElem_cons_zero, List.getElem_cons_succ, List.setIfInBounds_toArray, List.set_cons_zero, List.set_cons_succ]
 refine wpAnyL_take (i := 4) (v := .int .i64 (a : Int)) rfl (by kernel_rfl) (by kernel_rfl) (by kernel_rfl) (fun _ _ _ h => h) rfl (by kernel_rfl) (Or.inl ⟨by rfl, fun w' hw' => by (try go_split_ands); go_simp⟩) cv ?_
 simp only [Act.put, List.getElem_toArray, List.getElem_cons_zero, List.getElem_cons_succ, List.setIfInBounds_toArray, List.set_cons_zero, List.set_cons_succ]
 refine wpAnyL_take (i := 5) (v := .pointer (some ⟨p, 0, none⟩)) rfl (by kernel_rfl) (by kernel_rfl) (by kernel_rfl) (fun _ _ _ h => h) rfl (by kernel_rfl) (Or.inl ⟨by rfl, fun w' hw' => by (try go_split_ands); go_simp⟩) cv ?_
 simp only [Act.put, List.getElem_toArray, List.getElem_cons_zero, List.getElem_cons_succ, List.setIfInBounds_toArray, List.set_cons_zero, List.set_cons_succ]
 refine wpAnyL_take (i := 6) (v := .pointer (some ⟨p, 0, none⟩)) rfl (by kernel_rfl) (by kernel_rfl) (by kernel_rfl) (fun _ _ _ h => h) rfl (by kernel_rfl) (Or.inl ⟨by rfl, fun w' hw' => by (try go_split_ands); go_simp⟩) cv ?_
 simp only [Act.put, List.getElem_toArray, List.getElem_cons_zero, List.getElem_cons_succ, List.setIfInBounds_toArray, List.set_cons_zero, List.set_cons_succ]
 refine wpAnyL_take (i := 7) (v := .pointer (some ⟨p, 0, none⟩)) rfl (by kernel_rfl) (by kernel_rfl) (by kernel_rfl) (fun _ _ _ h => h) rfl (by kernel_rfl) (Or.inl ⟨by rfl, fun w' hw' => by (try go_split_ands); go_simp⟩) cv ?_
 simp only [Act.put, List.getElem_toArray, List.getElem_cons_zero, List.getElem_cons_succ, List.setIfInBounds_toArray, List.set_cons_zero, List.set_cons_succ]
 refine wpAnyL_take (i := 8) (v := .slice (some ⟨gb, 0, none⟩) n cb) rfl (by kernel_rfl) (by kernel_rfl) (by kernel_rfl) (fun _ _ _ h => h) rfl (by kernel_rfl) (Or.inl ⟨by rfl, fun w' hw' => by (try go_split_ands); go_simp⟩) cv ?_
 simp only [Act.put, List.getElem_toArray, List.getElem_cons_zero, List.getElem_cons_succ, List.setIfInBounds_toArray, List.set_cons_zero, List.set_cons_succ]
 refine wpAnyL_take (i := 9) (v := .int .i64 (a : Int)) rfl (by kernel_rfl) (by kernel_rfl) (by kernel_rfl) (fun _ _ _ h => h) rfl (by kernel_rfl) (Or.inl ⟨by rfl, fun w' hw' => by (try go_split_ands); go_simp⟩) cv ?_
 simp only [Act.put, List.getElem_toArray, List.getElem_cons_zero, List.getElem_cons_succ, List.setIfInBounds_toArray, List.set_cons_zero, List.set_cons_succ]
 refine wpAnyL_take (i := 10) (v := .pointer (some ⟨gb, a * 3, none⟩)) rfl (by kernel_rfl) (by kernel_rfl) (by kernel_rfl) (fun _ _ _ h => h) rfl (by kernel_rfl) (Or.inl ⟨by rfl, fun w' hw' => by (try go_split_ands); go_simp⟩) cv ?_
 simp only [Act.put, List.getElem_toArray, List.getElem_cons_zero, List.getElem_cons_succ, List.setIfInBounds_toArray, List.set_cons_zero, List.set_cons_succ]
 refine wpAnyL_take (i := 11) (v := .pointer (some ⟨gb, a * 3 + 2, none⟩)) rfl (by kernel_rfl) (by kernel_rfl) (by kernel_rfl) (fun _ _ _ h => h) rfl (by kernel_rfl) (Or.inl ⟨by rfl, fun w' hw' => by (try go_split_ands); go_simp⟩) cv ?_
 simp only [Act.put, List.getElem_toArray, List.getElem_cons_zero, List.getElem_cons_succ, List.setIfInBounds_toArray, List.set_cons_zero, List.set_cons_succ]
 refine wpAnyL_take (i := 12) (v := va) rfl (by kernel_rfl) (by kernel_rfl) (by kernel_rfl) (fun _ _ _ h => h) rfl (by kernel_rfl) (Or.inl ⟨by rfl, fun w' hw' => by (try go_split_ands); go_simp⟩) cv ?_
 simp only [Act.put, List.getElem_toArray, List.getElem_cons_zero, List.getElem_cons_succ, List.setIfInBounds_toArray, List.set_cons_zero, List.set_cons_succ]
 refine wpAnyL_take (i := 13) (v := .int .i64 (t : Int)) rfl (by kernel_rfl) (by kernel_rfl) (by kernel_rfl) (fun _ _ _ h => h) rfl (by kernel_rfl) (Or.inl ⟨by rfl, fun w' hw' => by (try go_split_ands); go_simp⟩) cv ?_
 simp only [Act.put, List.getElem_toArray, List.getElem_cons_zero, List.getElem_cons_succ, List.setIfInBounds_toArray, List.set_cons_zero, List.set_cons_succ]
 refine wpAnyL_one (i := 14) (by kernel_rfl) rfl (fun K hK => ?_)
 go_simp
 have HA1 := Lib.hid (H.out.below (show Below w.heap.size w (w.alloc (.cells #[.int .i64 (t : Int)] 3)).drew from (bAl (bRefl w) _).drew))
 have HN1 := Lib.hid ((Blk.new w 3 #[.int .i64 (t : Int)]).drew)
 have ck1 : (w.alloc (.cells #[.int .i64 (t : Int)] 3)).drew.cell? ⟨p, 0, none⟩ = some (.slice (some ⟨gb, 0, none⟩) n cb) := HA1.out.pb.cell 0
 have cn1 : (w.alloc (.cells #[.int .i64 (t : Int)] 3)).drew.cell? ⟨gb, a * 3 + 2, none⟩ = some va := by rw [HVA.out]; exact (HA1.out.cellK ha).2.2
 have hz1 : w.heap.size < (w.alloc (.cells #[.int .i64 (t : Int)] 3)).drew.heap.size := HN1.out.lt
 refine hK.out _ _ (fun _ => ⟨ck1, cn1⟩) ?_
 clear hK K
 refine wpAnyL_one (i := 15) (by kernel_rfl) rfl (fun K hK => ?_)
 refine step_pushL tI rfl (.tmp 18) (.tmp 20) rfl B va (cont a) (by rfl) (by rw [HVA.out]; exact HA1.out.fm.own a (by omega)) w.heap.size 0 1 1 [((t : Int))] (by rfl) rfl (by simp) (rangeBlk HN1.out (by rfl)) (by simp; unfold maxLen; omega) (by show _ * 8 ≤ _; simp; omega) HA1.out.hp ?_
 intro g1 c1 w9 hown hgrow hl
 rw [HVA.out] at hgrow hl
 obtain ⟨m1, m2, m3, m4⟩ := H.out.mid (k := a) (by omega) (o := .cells #[.int .i64 (t : Int)] 3) (w9 := w9) ⟨hgrow.os, hgrow.tape, hgrow.output, hgrow.size, hgrow.block⟩
 have p9 : w9.cell? ⟨p, 0, none⟩ = some (.slice (some ⟨gb, 0, none⟩) n cb) := m1.cell 0
 have n9 : w9.cell? ⟨gb, a * 3 + 2, none⟩ = some va := by rw [HVA.out]; exact kCell m2 ha
 have f9 : w9.frozen? ⟨gb, a * 3 + 2, none⟩ = false := m2.frozen _
 have cv9 : w9.cell? ⟨p, 0, none⟩ = some (.slice (some ⟨gb, 0, none⟩) n cb) ∧ w9.cell? ⟨gb, a * 3 + 2, none⟩ = some va := ⟨p9, n9⟩
 simp only [Act.put, List.setIfInBounds_toArray]
 refine hK.out _ _ (fun _ => cv9) ?_
 clear hK K
 refine wpAnyL_one (i := 16) (by kernel_rfl) rfl (fun K hK => ?_)
 go_simp
 refine hK.out _ _ (fun _ => cv9) ?_
 clear hK K
 refine wpAnyL_one (i := 17) (by kernel_rfl) rfl (fun K hK => ?_)
 go_simp
 refine hK.out _ _ (fun _ => cv9) ?_
 clear hK K
 refine wpAnyL_one (i := 18) (by kernel_rfl) rfl (fun K hK => ?_)
 go_simp
 refine hK.out _ _ (fun h => absurd rfl h) ?_
 clear hK K
 refine wpAnyL_done (by kernel_rfl) ?_ _
 obtain ⟨k1, bel1⟩ := H.out.growK ha (o := .cells #[.int .i64 (t : Int)] 3) (w9 := w9) ⟨hgrow.os, hgrow.tape, hgrow.output, hgrow.size, hgrow.block⟩ (m := (cont a).length + 1) hown hl
 generalize w9.setCell ⟨gb, a * 3 + 2, none⟩ (.slice (some ⟨g1, 0, none⟩) ((cont a).length + 1) c1) = W at k1 bel1 ⊢
 obtain ⟨row1, hr1⟩ : ∃ r, r = setF row a ⟨some ⟨g1, 0, none⟩, (cont a).length + 1, c1⟩ := ⟨_, rfl⟩
 rw [← hr1] at k1
 have hc1 : setF cont a (cont a ++ [(t : Int)]) (n + t) = cont (n + t) := setF_ne (by omega)
 obtain ⟨cont1, hcc⟩ : ∃ c, c = setF cont a (cont a ++ [(t : Int)]) := ⟨_, rfl⟩
 rw [← hcc] at k1 hc1
 rw [← hc1] at hct
 have HC1 := Lib.hid hc1
 have HR1 := Lib.hid hr1
 have HCC := Lib.hid hcc
 have H1 := Lib.hid k1
 clear hr1 hc1 hcc hown hgrow hl m1 m2 m3 m4 p9 n9 f9 cv9 cv kp kn HVA HA1 HN1 ck1 cn1 hz1 hca H
 have kp : W.cell? ⟨p, 1, none⟩ = some (.slice (some ⟨ga, 0, none⟩) n n) := k1.pb.cell 1
 obtain ⟨vt, hvt⟩ : ∃ vt, vt = (row1 (n + t)).v := ⟨_, rfl⟩
 have kn : W.cell? ⟨ga, t, none⟩ = some vt := by rw [hvt]; exact k1.cellA ht
 have HVT := Lib.hid hvt
 have HB1 := Lib.hid bel1
 clear hvt k1 bel1 w9
 have cv : W.drew.cell? ⟨p, 1, none⟩ = some (.slice (some ⟨ga, 0, none⟩) n n) ∧ W.drew.cell? ⟨ga, t, none⟩ = some vt := ⟨kp, kn⟩
 go_upto_region 1 with (fail)
 refine wp_region_last 16 (fun w' => w'.cell? ⟨p, 1, none⟩ = some (.slice (some ⟨ga, 0, none⟩) n n) ∧ w'.cell? ⟨ga, t, none⟩ = some vt) mix ?_
 refine wpAnyL_take (i := 0) (v := .pointer (some ⟨p, 0, none⟩)) rfl (by kernel_rfl) (by kernel_rfl) (by kernel_rfl) (fun _ _ _ h => h) rfl (by kernel_rfl) (Or.inl ⟨by rfl, fun w' hw' => by (try go_split_ands); go_simp⟩) cv ?_
 simp only [Act.put, List.getElem_toArray, List.getElem_cons_zero, List.setIfInBounds_toArray, List.set_cons_zero, List.set_cons_succ]
 refine wpAnyL_take (i := 1) (v := .pointer (some ⟨p, 0, none⟩)) rfl (by kernel_rfl) (by kernel_rfl) (by kernel_rfl) (fun _ _ _ h => h) rfl (by kernel_rfl) (Or.inl ⟨by rfl, fun w' hw' => by (try go_split_ands); go_simp⟩) cv ?_
 simp only [Act.put, List.getElem_toArray, List.getElem_cons_zero, List.getElem_cons_succ, List.setIfInBounds_toArray, List.set_cons_zero, List.set_cons_succ]
 refine wpAnyL_take (i := 2) (v := .pointer (some ⟨p, 1, none⟩)) rfl (by kernel_rfl) (by kernel_rfl) (by kernel_rfl) (fun _ _ _ h => h) rfl (by kernel_rfl) (Or.inl ⟨by rfl, fun w' hw' => by (try go_split_ands); go_simp⟩) cv ?_
 simp only [Act.put, List.getElem_toArray, List.getElem_cons_zero, List.getElem_cons_succ, List.setIfInBounds_toArray, List.set_cons_zero, List.set_cons_succ]
 refine wpAnyL_take (i := 3) (v := .slice (some ⟨ga, 0, none⟩) n n) rfl (by kernel_rfl) (by kernel_rfl) (by kernel_rfl) (fun _ _ _ h => h) rfl (by kernel_rfl) (Or.inl ⟨by rfl, fun w' hw' => by (try go_split_ands); go_simp⟩) cv ?_
 simp only [Act.put, List.getElem_toArray, List.getElem_cons_zero, List.getElem_cons_succ, List.setIfInBounds_toArray, List.set_cons_zero, List.set_cons_succ]
 refine wpAnyL_take (i := 4) (v := .int .i64 (t : Int)) rfl (by kernel_rfl) (by kernel_rfl) (by kernel_rfl) (fun _ _ _ h => h) rfl (by kernel_rfl) (Or.inl ⟨by rfl, fun w' hw' => by (try go_split_ands); go_simp⟩) cv ?_
 simp only [Act.put, List.getElem_toArray, List.getElem_cons_zero, List.getElem_cons_succ, List.setIfInBounds_toArray, List.set_cons_zero, List.set_cons_succ]
 refine wpAnyL_take (i := 5) (v := .pointer (some ⟨p, 0, none⟩)) rfl (by kernel_rfl) (by kernel_rfl) (by kernel_rfl) (fun _ _ _ h => h) rfl (by kernel_rfl) (Or.inl ⟨by rfl, fun w' hw' => by (try go_split_ands); go_simp⟩) cv ?_
 simp only [Act.put, List.getElem_toArray, List.getElem_cons_zero, List.getElem_cons_succ, List.setIfInBounds_toArray, List.set_cons_zero, List.set_cons_succ]
 refine wpAnyL_take (i := 6) (v := .pointer (some ⟨p, 0, none⟩)) rfl (by kernel_rfl) (by kernel_rfl) (by kernel_rfl) (fun _ _ _ h => h) rfl (by kernel_rfl) (Or.inl ⟨by rfl, fun w' hw' => by (try go_split_ands); go_simp⟩) cv ?_
 simp only [Act.put, List.getElem_toArray, List.getElem_cons_zero, List.getElem_cons_succ, List.setIfInBounds_toArray, List.set_cons_zero, List.set_cons_succ]
 refine wpAnyL_take (i := 7) (v := .pointer (some ⟨p, 1, none⟩)) rfl (by kernel_rfl) (by kernel_rfl) (by kernel_rfl) (fun _ _ _ h => h) rfl (by kernel_rfl) (Or.inl ⟨by rfl, fun w' hw' => by (try go_split_ands); go_simp⟩) cv ?_
 simp only [Act.put, List.getElem_toArray, List.getElem_cons_zero, List.getElem_cons_succ, List.setIfInBounds_toArray, List.set_cons_zero, List.set_cons_succ]
 refine wpAnyL_take (i := 8) (v := .slice (some ⟨ga, 0, none⟩) n n) rfl (by kernel_rfl) (by kernel_rfl) (by kernel_rfl) (fun _ _ _ h => h) rfl (by kernel_rfl) (Or.inl ⟨by rfl, fun w' hw' => by (try go_split_ands); go_simp⟩) cv ?_
 simp only [Act.put, List.getElem_toArray, List.getElem_cons_zero, List.getElem_cons_succ, List.setIfInBounds_toArray, List.set_cons_zero, List.set_cons_succ]
 refine wpAnyL_take (i := 9) (v := .int .i64 (t : Int)) rfl (by kernel_rfl) (by kernel_rfl) (by kernel_rfl) (fun _ _ _ h => h) rfl (by kernel_rfl) (Or.inl ⟨by rfl, fun w' hw' => by (try go_split_ands); go_simp⟩) cv ?_
 simp only [Act.put, List.getElem_toArray, List.getElem_cons_zero, List.getElem_cons_succ, List.setIfInBounds_toArray, List.set_cons_zero, List.set_cons_succ]
 refine wpAnyL_take (i := 10) (v := .pointer (some ⟨ga, t, none⟩)) rfl (by kernel_rfl) (by kernel_rfl) (by kernel_rfl) (fun _ _ _ h => h) rfl (by kernel_rfl) (Or.inl ⟨by rfl, fun w' hw' => by (try go_split_ands); go_simp⟩) cv ?_
 simp only [Act.put, List.getElem_toArray, List.getElem_cons_zero, List.getElem_cons_succ, List.setIfInBounds_toArray, List.set_cons_zero, List.set_cons_succ]
 refine wpAnyL_take (i := 11) (v := vt) rfl (by kernel_rfl) (by kernel_rfl) (by kernel_rfl) (fun _ _ _ h => h) rfl (by kernel_rfl) (Or.inl ⟨by rfl, fun w' hw' => by (try go_split_ands); go_simp⟩) cv ?_
 simp only [Act.put, List.getElem_toArray, List.getElem_cons_zero, List.getElem_cons_succ, List.setIfInBounds_toArray, List.set_cons_zero, List.set_cons_succ]
 refine wpAnyL_take (i := 12) (v := .int .i64 (a : Int)) rfl (by kernel_rfl) (by kernel_rfl) (by kernel_rfl) (fun _ _ _ h => h) rfl (by kernel_rfl) (Or.inl ⟨by rfl, fun w' hw' => by (try go_split_ands); go_simp⟩) cv ?_
 simp only [Act.put, List.getElem_toArray, List.getElem_cons_zero, List.getElem_cons_succ, List.setIfInBounds_toArray, List.set_cons_zero, List.set_cons_succ]
 refine wpAnyL_one (i := 13) (by kernel_rfl) rfl (fun K hK => ?_)
 go_simp
 have HA1 := Lib.hid (H1.out.below (show Below W.heap.size W (W.alloc (.cells #[.int .i64 (a : Int)] 3)).drew from (bAl (bRefl W) _).drew))
 have HN1 := Lib.hid ((Blk.new W 3 #[.int .i64 (a : Int)]).drew)
 have ck1 : (W.alloc (.cells #[.int .i64 (a : Int)] 3)).drew.cell? ⟨p, 1, none⟩ = some (.slice (some ⟨ga, 0, none⟩) n n) := HA1.out.pb.cell 1
 have cn1 : (W.alloc (.cells #[.int .i64 (a : Int)] 3)).drew.cell? ⟨ga, t, none⟩ = some vt := by rw [HVT.out]; exact HA1.out.cellA ht
 refine hK.out _ _ (fun _ => ⟨ck1, cn1⟩) ?_
 clear hK K
 refine wpAnyL_one (i := 14) (by kernel_rfl) rfl (fun K hK => ?_)
 refine step_pushL tI rfl (.tmp 35) (.tmp 37) rfl B vt (cont1 (n + t)) (by rfl) (by rw [HVT.out]; exact HA1.out.fm.own (n + t) (by omega)) W.heap.size 0 1 1 [((a : Int))] (by rfl) rfl (by simp) (rangeBlk HN1.out (by rfl)) (by simp; unfold maxLen; omega) (by show _ * 8 ≤ _; simp; omega) HA1.out.hp ?_
 intro g1 c1 w9 hown hgrow hl
 rw [HVT.out] at hgrow hl
 obtain ⟨m1, m2, m3, m4⟩ := H1.out.mid (k := n + t) (by omega) (o := .cells #[.int .i64 (a : Int)] 3) (w9 := w9) ⟨hgrow.os, hgrow.tape, hgrow.output, hgrow.size, hgrow.block⟩
 have p9 : w9.cell? ⟨p, 1, none⟩ = some (.slice (some ⟨ga, 0, none⟩) n n) := m1.cell 1
 have n9 : w9.cell? ⟨ga, t, none⟩ = some vt := by rw [HVT.out]; exact aCell m3 ht
 have f9 : w9.frozen? ⟨ga, t, none⟩ = false := m3.frozen _
 have cv9 : w9.cell? ⟨p, 1, none⟩ = some (.slice (some ⟨ga, 0, none⟩) n n) ∧ w9.cell? ⟨ga, t, none⟩ = some vt := ⟨p9, n9⟩
 simp only [Act.put, List.setIfInBounds_toArray]
 refine hK.out _ _ (fun _ => cv9) ?_
 clear hK K
 refine wpAnyL_one (i := 15) (by kernel_rfl) rfl (fun K hK => ?_)
 go_simp
 refine hK.out _ _ (fun _ => cv9) ?_
 clear hK K
 refine wpAnyL_one (i := 16) (by kernel_rfl) rfl (fun K hK => ?_)
 go_simp
 refine hK.out _ _ (fun h => absurd rfl h) ?_
 clear hK K
 refine wpAnyL_done (by kernel_rfl) ?_ _
 go_end0
 obtain ⟨k2, bel2⟩ := H1.out.growA ht (o := .cells #[.int .i64 (a : Int)] 3) (w9 := w9) ⟨hgrow.os, hgrow.tape, hgrow.output, hgrow.size, hgrow.block⟩ (m := (cont1 (n + t)).length + 1) hown hl
 have e : setF cont1 (n + t) (cont1 (n + t) ++ [(a : Int)]) = setF (setF cont a (cont a ++ [(t : Int)])) (n + t) (cont (n + t) ++ [(a : Int)]) := by rw [HC1.out, HCC.out]
 rw [e] at k2
 exact ⟨rfl, HB1.out.trans bel2, _, fun i h1 h2 => (setF_ne h2).trans ((congrFun HR1.out i).trans (setF_ne h1)), k2⟩
end Go.Proofs.Ytndnfjcfpcfakaa
