/- What the law needs, one part after another: walks of functions and plain laws. No conditions but those that each law names. -/
import Derived.Test.YtfdjdpbiccclfaaFrad
import Derived.Deep.DeepAppendWide
import Derived.Test.YtfdjdpbiccclfaaProg
import Derived.Test.YtfdjdpbiccclfaaRows
import Derived.ProofKit
import Derived.OpenShut
import Derived.ChangeOld
import Derived.Deep.Slices
import Derived.SizedLaws
namespace Go.Proofs.Ytfdjdpbiccclfaa
open Go Go.RowKit Go.Wr
set_option maxHeartbeats 4000000
set_option maxRecDepth 100000
structure Yw (D : Nat → Prop) (w : World) (la : Option Addr) (lc : Nat) (ka : Option Addr) (kc : Nat) (ls : List Lp) (cs : List (Cl × Sn)) : Prop where
  lp : OwR tLp 0 w (.slice la ls.length lc) ls
  ld : ∀ g, (Value.slice la ls.length lc).ownBlock = some g → D g
  cl : OwR tCl 0 w (.slice ka cs.length kc) cs
  cd : ∀ g, (Value.slice ka cs.length kc).ownBlock = some g → D g
  co : ∀ x ∈ cs, x.2.n = x.1.l.length ∧ OwR tC3 0 w x.2.v x.1.l ∧ ∀ g, x.2.v.ownBlock = some g → D g
  dj : cs.Pairwise fun x y => ∀ g, x.2.v.ownBlock = some g → y.2.v.ownBlock ≠ some g
section
variable {D : Nat → Prop} {w w' : World} {la ka : Option Addr} {lc kc : Nat} {ls : List Lp} {cs : List (Cl × Sn)}
theorem Yw.of_block (h : Yw D w la lc ka kc ls cs) (hb : ∀ g T C, (T = 54 ∨ T = 61 ∨ T = 63) → Blk w g T C → D g → w'.heap[g]? = w.heap[g]?) : Yw D w' la lc ka kc ls cs :=
  ⟨h.lp.keep fun g hg => (h.lp.blk hg).2.elim fun C hC => hb g _ C (Or.inl rfl) hC (h.ld g hg), h.ld, h.cl.keep fun g hg => (h.cl.blk hg).2.elim fun C hC => hb g _ C (Or.inr (Or.inl rfl)) hC (h.cd g hg), h.cd,
    fun x hx => ⟨(h.co x hx).1, (h.co x hx).2.1.keep fun g hg => ((h.co x hx).2.1.blk hg).2.elim fun C hC => hb g _ C (Or.inr (Or.inr rfl)) hC ((h.co x hx).2.2 g hg), (h.co x hx).2.2⟩, h.dj⟩
theorem Yw.below (h : Yw D w la lc ka kc ls cs) (b : Below w.heap.size w w') : Yw D w' la lc ka kc ls cs := h.of_block fun g _ _ _ hg _ => b.block g hg.lt
theorem Yw.mono {D' : Nat → Prop} (h : Yw D w la lc ka kc ls cs) (hD : ∀ g, g < w.heap.size → D g → D' g) : Yw D' w la lc ka kc ls cs :=
  ⟨h.lp, fun g hg => hD g (h.lp.lt hg) (h.ld g hg), h.cl, fun g hg => hD g (h.cl.lt hg) (h.cd g hg), fun x hx => ⟨(h.co x hx).1, (h.co x hx).2.1, fun g hg => hD g ((h.co x hx).2.1.lt hg) ((h.co x hx).2.2 g hg)⟩, h.dj⟩
theorem Yw.setK {g i : Nat} {x : Lp} (h : Yw D w (some ⟨g, 0, none⟩) lc ka kc ls cs) (hx : ls[i]? = some x) (v : Int) :
    Yw D (w.setCell ⟨g, i * 5 + 3, none⟩ (.int .i64 v)) (some ⟨g, 0, none⟩) lc ka kc (ls.set i ⟨x.h, x.a, x.b, v, x.d⟩) cs := by
  obtain ⟨_, Cg, hg⟩ := h.lp.blk rfl
  have keep : ∀ k T C, T ≠ 54 → Blk w k T C → (w.setCell ⟨g, i * 5 + 3, none⟩ (.int .i64 v)).heap[k]? = w.heap[k]? := fun k T C hT hb => Below.heap_setCell w ⟨g, _, none⟩ _ k (blk_ne hb hg hT)
  have hl := OwR.set (k := i) (j := 3) (x := x) (y := ⟨x.h, x.a, x.b, v, x.d⟩) (v := .int .i64 v) h.lp hx (by decide) rfl
  refine ⟨by rw [List.length_set]; exact hl, by rw [List.length_set]; exact h.ld, owr_of_block h.cl fun k C => keep k _ C (by decide), h.cd, fun x hx => ?_, h.dj⟩
  exact ⟨(h.co x hx).1, owr_of_block (h.co x hx).2.1 fun k C => keep k _ C (by decide), (h.co x hx).2.2⟩
theorem Yw.setAt {i : Nat} {x x' : Cl} {s s' : Sn} (hx : cs[i]? = some (x, s)) (h : Yw D w la lc ka kc ls cs) (hl : OwR tLp 0 w' (.slice la ls.length lc) ls)
    (hc : OwR tCl 0 w' (.slice ka cs.length kc) (cs.set i (x', s'))) (hn : s'.n = x'.l.length) (ho : OwR tC3 0 w' s'.v x'.l) (hd : ∀ g, s'.v.ownBlock = some g → D g)
    (hk : ∀ j y, j ≠ i → cs[j]? = some y → OwR tC3 0 w' y.2.v y.1.l ∧ ∀ g, y.2.v.ownBlock = some g → s'.v.ownBlock ≠ some g) : Yw D w' la lc ka kc ls (cs.set i (x', s')) := by
  have hi := (List.getElem?_eq_some_iff.1 hx).1
  have hg : ∀ (j : Nat) (y : Cl × Sn), (cs.set i (x', s'))[j]? = some y → (j = i ∧ y = (x', s')) ∨ (j ≠ i ∧ cs[j]? = some y) := fun j y hy => by
    rw [List.getElem?_set] at hy
    by_cases hj : i = j
    · subst hj
      rw [if_pos rfl, if_pos hi] at hy
      injection hy with hy
      exact Or.inl ⟨rfl, hy.symm⟩
    · rw [if_neg hj] at hy
      exact Or.inr ⟨Ne.symm hj, hy⟩
  refine ⟨hl, h.ld, by rw [List.length_set]; exact hc, by rw [List.length_set]; exact h.cd, fun y hy => ?_, ?_⟩
  · obtain ⟨j, hj⟩ := List.mem_iff_getElem?.1 hy
    rcases hg j y hj with ⟨_, rfl⟩ | ⟨hji, hz⟩
    · exact ⟨hn, ho, hd⟩
    · exact ⟨(h.co _ (List.mem_of_getElem? hz)).1, (hk j y hji hz).1, (h.co _ (List.mem_of_getElem? hz)).2.2⟩
  · have hdj := h.dj
    rw [List.pairwise_iff_getElem] at hdj ⊢
    intro a b ha hb hab
    have ha' := ha
    have hb' := hb
    rw [List.length_set] at ha' hb'
    have e1 : (cs.set i (x', s'))[a]? = some (cs.set i (x', s'))[a] := List.getElem?_eq_getElem _
    have e2 : (cs.set i (x', s'))[b]? = some (cs.set i (x', s'))[b] := List.getElem?_eq_getElem _
    rcases hg a _ e1 with ⟨h1, h2⟩ | ⟨h1, h2⟩
    · rcases hg b _ e2 with ⟨h3, _⟩ | ⟨h3, h4⟩
      · omega
      · intro g q1 q2
        rw [h2] at q1
        exact (hk b _ h3 h4).2 g q2 q1
    · rcases hg b _ e2 with ⟨h3, h4⟩ | ⟨h3, h4⟩
      · intro g q1 q2
        rw [h4] at q2
        exact (hk a _ h1 h2).2 g q1 q2
      · rw [List.getElem?_eq_getElem ha'] at h2
        rw [List.getElem?_eq_getElem hb'] at h4
        injection h2 with h2
        injection h4 with h4
        rw [← h2, ← h4]
        exact hdj a b ha' hb' hab
theorem Yw.apart (h : Yw D w la lc ka kc ls cs) {i j : Nat} {x y : Cl × Sn} (hx : cs[i]? = some x) (hy : cs[j]? = some y) (hij : j ≠ i) : ∀ g, y.2.v.ownBlock = some g → x.2.v.ownBlock ≠ some g := by
  have hi := (List.getElem?_eq_some_iff.1 hx).1
  have hj := (List.getElem?_eq_some_iff.1 hy).1
  have hd := List.pairwise_iff_getElem.1 h.dj
  rw [List.getElem?_eq_getElem hi] at hx
  rw [List.getElem?_eq_getElem hj] at hy
  injection hx with hx
  injection hy with hy
  rcases Nat.lt_or_gt_of_ne hij with hlt | hgt
  · have := hd j i hj hi hlt
    rw [hx, hy] at this
    exact this
  · have := hd i j hi hj hgt
    rw [hx, hy] at this
    exact fun g h1 h2 => this g h2 h1
theorem Yw.setC {i m b : Nat} {x : Cl} {s : Sn} {y : C3} (h : Yw D w la lc ka kc ls cs) (hx : cs[i]? = some (x, s)) (hy : x.l[m]? = some y) (hb : s.a = some ⟨b, 0, none⟩) (v : Int) :
    Yw D (w.setCell ⟨b, m * 3 + 2, none⟩ (.int .i64 v)) la lc ka kc ls (cs.set i (⟨x.d, x.f, x.l.set m ⟨y.i, y.j, v⟩⟩, s)) := by
  have hi := (List.getElem?_eq_some_iff.1 hx).1
  obtain ⟨hn, ho, hd⟩ := h.co _ (List.mem_of_getElem? hx)
  simp only at hn ho hd
  have hsv : s.v = .slice (some ⟨b, 0, none⟩) s.n s.c := by unfold Sn.v; rw [hb]
  rw [hsv] at ho
  obtain ⟨_, Cb, hcb⟩ := ho.blk rfl
  have keep : ∀ g T C, T ≠ 63 → Blk w g T C → (w.setCell ⟨b, m * 3 + 2, none⟩ (.int .i64 v)).heap[g]? = w.heap[g]? := fun g T C hT hbk => Below.heap_setCell w ⟨b, _, none⟩ _ g (blk_ne hbk hcb hT)
  have hs := OwR.set (k := m) (j := 2) (x := y) (y := ⟨y.i, y.j, v⟩) (v := .int .i64 v) ho hy (by decide) rfl
  have hcl := owr_of_block h.cl fun g C => keep g _ C (by decide)
  have hce : tCl.cs (cs.set i (⟨x.d, x.f, x.l.set m ⟨y.i, y.j, v⟩⟩, s)) = tCl.cs cs := by
    have hmap : (cs.set i (⟨x.d, x.f, x.l.set m ⟨y.i, y.j, v⟩⟩, s)).map tCl.f = cs.map tCl.f := by
      apply List.ext_getElem?
      intro j
      rw [List.getElem?_map, List.getElem?_map, List.getElem?_set]
      by_cases hj : i = j
      · subst hj
        rw [if_pos rfl, if_pos hi, hx]
        rfl
      · rw [if_neg hj]
    unfold RT.cs
    rw [List.flatMap_def, List.flatMap_def, hmap]
  refine h.setAt hx (owr_of_block h.lp fun g C => keep g _ C (by decide)) ?_ (by simp [hn]) (by rw [hsv]; exact hs) hd (fun j z hji hz => ⟨?_, h.apart hx hz hji⟩)
  · unfold OwR at hcl ⊢
    rw [hce, List.length_set]
    exact hcl
  · refine (h.co _ (List.mem_of_getElem? hz)).2.1.set_other fun e => ?_
    exact h.apart hx hz hji b e (by rw [hsv]; rfl)
theorem bx_mask (d : Value) (f : Nat → Tg) (a : Value) (v : Int) : (bx d f a).toList.set 3 (.int .i64 v) = (bx d (fun j => if j = 0 then ⟨(f 0).k, (f 0).t, v⟩ else f j) a).toList := by
  have key : (gc f).toList.set 2 (.int .i64 v) = (gc (fun j => if j = 0 then ⟨(f 0).k, (f 0).t, v⟩ else f j)).toList := by
    apply List.ext_getElem?
    intro i
    rw [List.getElem?_set]
    by_cases hi : i < 126
    · have h1 : (gc f).toList[i]? = some (.int .i64 (tcomp (f (i / 3)) (i % 3))) := by rw [Array.getElem?_toList]; exact gc_at f hi
      have h2 : (gc (fun j => if j = 0 then ⟨(f 0).k, (f 0).t, v⟩ else f j)).toList[i]? = some (.int .i64 (tcomp (if i / 3 = 0 then ⟨(f 0).k, (f 0).t, v⟩ else f (i / 3)) (i % 3))) := by rw [Array.getElem?_toList]; exact gc_at _ hi
      rw [h1, h2]
      have hl : (gc f).toList.length = 126 := by simp [gc_size]
      by_cases h9 : 2 = i
      · subst h9
        rw [if_pos rfl, if_pos (by omega)]
        rfl
      · rw [if_neg h9]
        congr 2
        by_cases h3 : i / 3 = 0
        · rw [if_pos h3, h3]
          have : i % 3 = 0 ∨ i % 3 = 1 := by omega
          unfold tcomp
          rcases this with h | h <;> simp [h]
        · rw [if_neg h3]
    · have hl : (gc f).toList.length = 126 := by simp [gc_size]
      have hl2 : (gc (fun j => if j = 0 then ⟨(f 0).k, (f 0).t, v⟩ else f j)).toList.length = 126 := by simp [gc_size]
      rw [if_neg (by omega), List.getElem?_eq_none (by omega), List.getElem?_eq_none (by omega)]
  unfold bx
  simp only [List.set_cons_succ]
  rw [List.set_append_left _ _ (by simp [gc_size]), key]
theorem Yw.setM {i p : Nat} {x : Cl} {s : Sn} (h : Yw D w la lc (some ⟨p, 0, none⟩) kc ls cs) (hx : cs[i]? = some (x, s)) (v : Int) :
    Yw D (w.setCell ⟨p, i * 128 + 3, none⟩ (.int .i64 v)) la lc (some ⟨p, 0, none⟩) kc ls (cs.set i (⟨x.d, (fun j => if j = 0 then ⟨(x.f 0).k, (x.f 0).t, v⟩ else x.f j), x.l⟩, s)) := by
  obtain ⟨_, Cp, hp⟩ := h.cl.blk rfl
  have keep : ∀ g T C, T ≠ 61 → Blk w g T C → (w.setCell ⟨p, i * 128 + 3, none⟩ (.int .i64 v)).heap[g]? = w.heap[g]? := fun g T C hT hb => Below.heap_setCell w ⟨p, _, none⟩ _ g (blk_ne hb hp hT)
  have hc := OwR.set (k := i) (j := 3) (x := (x, s)) (y := (⟨x.d, (fun j => if j = 0 then ⟨(x.f 0).k, (x.f 0).t, v⟩ else x.f j), x.l⟩, s)) (v := .int .i64 v) h.cl hx (by decide) (bx_mask _ _ _ _)
  obtain ⟨hn, ho, hd⟩ := h.co _ (List.mem_of_getElem? hx)
  exact h.setAt hx (owr_of_block h.lp fun g C => keep g _ C (by decide)) hc hn (owr_of_block ho fun g C => keep g _ C (by decide)) hd
    (fun j z hji hz => ⟨owr_of_block (h.co _ (List.mem_of_getElem? hz)).2.1 fun g C => keep g _ C (by decide), h.apart hx hz hji⟩)
theorem bx_setlast' (d : Value) (f : Nat → Tg) (a b : Value) : (bx d f a).toList.set 127 b = (bx d f b).toList := by
  have := congrArg Array.toList (bx_setlast d f a b)
  rwa [Array.toList_setIfInBounds] at this
theorem grown_keep {w1 : World} (b1 : Below w.heap.size w w1) {r : Option Nat} (hg : w1.grownBy w' r) {b : Nat} (hb : b < w.heap.size) (hr : r ≠ some b) : w'.heap[b]? = w.heap[b]? :=
  (hg.block b (Nat.lt_of_lt_of_le hb b1.size) (fun e => hr e.symm)).trans (b1.block b hb)
theorem Yw.pushL {w1 : World} {g c : Nat} {x : Lp} (h : Yw D w la lc ka kc ls cs) (b1 : Below w.heap.size w w1) (hown : OwR tLp 0 w' (.slice (some ⟨g, 0, none⟩) (ls.length + 1) c) (ls ++ [x])) (hg : w1.grownBy w' (Value.slice la ls.length lc).ownBlock)
    (hl : (Value.slice la ls.length lc).ownBlock = some g ∨ g = w1.heap.size) (hD : ∀ b, w.heap.size ≤ b → D b) : Yw D w' (some ⟨g, 0, none⟩) c ka kc (ls ++ [x]) cs := by
  have keep : ∀ b T C, T ≠ 54 → Blk w b T C → w'.heap[b]? = w.heap[b]? := fun b T C hT hb => grown_keep b1 hg hb.lt (fun e => (h.lp.blk e).2.elim fun C' hC' => blk_ne hb hC' hT rfl)
  refine ⟨by rw [List.length_append]; exact hown, fun q hq => ?_, owr_of_block h.cl fun k C => keep k _ C (by decide), h.cd, fun y hy => ⟨(h.co y hy).1, owr_of_block (h.co y hy).2.1 fun k C => keep k _ C (by decide), (h.co y hy).2.2⟩, h.dj⟩
  have hqg : q = g := by injection hq with hq; exact hq.symm
  subst hqg
  rcases hl with hl | hl
  · exact h.ld q hl
  · exact hD q (by have := b1.size; omega)
theorem Yw.pushK {w1 : World} {g c : Nat} {x : Cl} (h : Yw D w la lc ka kc ls cs) (b1 : Below w.heap.size w w1) (hown : OwR tCl 0 w' (.slice (some ⟨g, 0, none⟩) (cs.length + 1) c) (cs ++ [(x, ⟨none, 0, 0⟩)])) (hx : x.l = []) (hg : w1.grownBy w' (Value.slice ka cs.length kc).ownBlock)
    (hl : (Value.slice ka cs.length kc).ownBlock = some g ∨ g = w1.heap.size) (hD : ∀ b, w.heap.size ≤ b → D b) : Yw D w' la lc (some ⟨g, 0, none⟩) c ls (cs ++ [(x, ⟨none, 0, 0⟩)]) := by
  have keep : ∀ b T C, T ≠ 61 → Blk w b T C → w'.heap[b]? = w.heap[b]? := fun b T C hT hb => grown_keep b1 hg hb.lt (fun e => (h.cl.blk e).2.elim fun C' hC' => blk_ne hb hC' hT rfl)
  refine ⟨owr_of_block h.lp fun k C => keep k _ C (by decide), h.ld, by rw [List.length_append]; exact hown, fun q hq => ?_, fun y hy => ?_, ?_⟩
  · have hqg : q = g := by injection hq with hq; exact hq.symm
    subst hqg
    rcases hl with hl | hl
    · exact h.cd q hl
    · exact hD q (by have := b1.size; omega)
  · rcases List.mem_append.1 hy with hy | hy
    · exact ⟨(h.co y hy).1, owr_of_block (h.co y hy).2.1 fun k C => keep k _ C (by decide), (h.co y hy).2.2⟩
    · rw [List.mem_singleton.1 hy]
      simp only [hx]
      exact ⟨rfl, OwR.nil _ _, fun q hq => by cases hq⟩
  · exact List.pairwise_append.2 ⟨h.dj, List.pairwise_singleton _ _, fun y _ z hz q _ hq => by rw [List.mem_singleton.1 hz] at hq; cases hq⟩
theorem Yw.pushC {w1 : World} {i p g c : Nat} {x : Cl} {s : Sn} {y : C3} (h : Yw D w la lc (some ⟨p, 0, none⟩) kc ls cs) (b1 : Below w.heap.size w w1) (hx : cs[i]? = some (x, s)) (hown : OwR tC3 0 w' (.slice (some ⟨g, 0, none⟩) (x.l.length + 1) c) (x.l ++ [y])) (hg : w1.grownBy w' s.v.ownBlock)
    (hl : s.v.ownBlock = some g ∨ g = w1.heap.size) (hD : ∀ b, w.heap.size ≤ b → D b) :
    Yw D (w'.setCell ⟨p, i * 128 + 127, none⟩ (.slice (some ⟨g, 0, none⟩) (x.l.length + 1) c)) la lc (some ⟨p, 0, none⟩) kc ls (cs.set i (⟨x.d, x.f, x.l ++ [y]⟩, ⟨some ⟨g, 0, none⟩, x.l.length + 1, c⟩)) := by
  obtain ⟨hn, ho, hd⟩ := h.co _ (List.mem_of_getElem? hx)
  simp only at hn ho hd
  have keep : ∀ b T C, T ≠ 63 → Blk w b T C → w'.heap[b]? = w.heap[b]? := fun b T C hT hb => grown_keep b1 hg hb.lt (fun e => (ho.blk e).2.elim fun C' hC' => blk_ne hb hC' hT rfl)
  have hc1 := owr_of_block h.cl fun k C => keep k _ C (by decide)
  have hl1 := owr_of_block h.lp fun k C => keep k _ C (by decide)
  obtain ⟨_, Cp, hp⟩ := hc1.blk rfl
  obtain ⟨V, hV⟩ : ∃ V, V = Value.slice (some ⟨g, 0, none⟩) (x.l.length + 1) c := ⟨_, rfl⟩
  have hset : ∀ b T C, T ≠ 61 → Blk w' b T C → (w'.setCell ⟨p, i * 128 + 127, none⟩ V).heap[b]? = w'.heap[b]? := fun b T C hT hb => Below.heap_setCell w' ⟨p, _, none⟩ _ b (blk_ne hb hp hT)
  have hc2 := OwR.set (k := i) (j := 127) (x := (x, s)) (y := (⟨x.d, x.f, x.l ++ [y]⟩, ⟨some ⟨g, 0, none⟩, x.l.length + 1, c⟩)) (v := V) hc1 hx (by decide) (by rw [hV]; exact bx_setlast' _ _ _ _)
  rw [← hV] at hown ⊢
  have hown2 : OwR tC3 0 (w'.setCell ⟨p, i * 128 + 127, none⟩ V) V (x.l ++ [y]) := owr_of_block hown fun k C => hset k _ C (by decide)
  refine h.setAt hx (owr_of_block hl1 fun k C => hset k _ C (by decide)) hc2 (by simp) (by rw [hV] at hown2 ⊢; exact hown2) (fun q hq => ?_) (fun j z hji hz => ⟨?_, fun q hq hq2 => ?_⟩)
  · have hqg : q = g := by injection hq with hq; exact hq.symm
    subst hqg
    rcases hl with hl | hl
    · exact hd q hl
    · exact hD q (by have := b1.size; omega)
  · have hz1 : OwR tC3 0 w' z.2.v z.1.l := (h.co _ (List.mem_of_getElem? hz)).2.1.keep fun q hq => grown_keep b1 hg ((h.co _ (List.mem_of_getElem? hz)).2.1.lt hq) (fun e => h.apart hx hz hji q hq e)
    exact owr_of_block hz1 fun k C => hset k _ C (by decide)
  · have hqg : q = g := by injection hq2 with hq2; exact hq2.symm
    subst hqg
    rcases hl with hl | hl
    · exact h.apart hx hz hji q hq hl
    · have := (h.co _ (List.mem_of_getElem? hz)).2.1.lt hq
      have := b1.size
      omega
end
end Go.Proofs.Ytfdjdpbiccclfaa
namespace Go.Proofs.Ytfdjdpbiccclfaa
open Go Go.RowKit Go.Wr
set_option maxHeartbeats 4000000
set_option maxRecDepth 100000
theorem rwithin_ok (w : World) (x lo hi : Int) : Calls Try.prog 59 #[.int .i64 x, .int .i64 lo, .int .i64 hi] w fun e w' => e = .returned (.bool (inB x lo hi)) ∧ w' = w := by
  unfold inB
  by_cases h1 : lo ≤ x
  · by_cases h2 : x ≤ hi
    · go_enter Try.func59, Try.ntmps59
      go_wp2
      go_ret
      exact ⟨by simp [h1, h2], rfl⟩
    · have h2' : hi < x := by omega
      go_enter Try.func59, Try.ntmps59
      go_wp2
      go_ret
      exact ⟨by simp [h2], rfl⟩
  · have h1' : x < lo := by omega
    go_enter Try.func59, Try.ntmps59
    go_wp2
    go_ret
    exact ⟨by simp; omega, rfl⟩
theorem rloop_ok (w : World) (l : Lp) : Calls Try.prog 51 #[.agg (lpv l)] w fun e w' => e = .returned (.bool (goodLoop l)) ∧ Below w.heap.size w w' := by
  unfold goodLoop lpv
  go_enter Try.func51, Try.ntmps51
  go_wp2_with fail
  refine (rwithin_ok _ _ _ _).mono ?_
  rintro e w1 ⟨rfl, rfl⟩
  cases h1 : inB l.h 0 511 with
  | false =>
    go_wp2
    go_ret
    exact ⟨by simp [*], bAl (bRefl w) _⟩
  | true =>
    go_wp2_with fail
    refine (rwithin_ok _ _ _ _).mono ?_
    rintro e w1 ⟨rfl, rfl⟩
    cases h2 : inB l.a 0 59 with
    | false =>
      go_wp2
      go_ret
      exact ⟨by simp [*], bAl (bRefl w) _⟩
    | true =>
      go_wp2_with fail
      refine (rwithin_ok _ _ _ _).mono ?_
      rintro e w1 ⟨rfl, rfl⟩
      cases h3 : inB l.b 0 59 with
      | false =>
        go_wp2
        go_ret
        exact ⟨by simp [*], bAl (bRefl w) _⟩
      | true =>
        go_wp2_with fail
        refine (rwithin_ok _ _ _ _).mono ?_
        rintro e w1 ⟨rfl, rfl⟩
        cases h4 : inB l.k (-1099511627776) 1099511627776 with
        | false =>
          go_wp2
          go_ret
          exact ⟨by simp [*], bAl (bRefl w) _⟩
        | true =>
          go_wp2_with fail
          refine (rwithin_ok _ _ _ _).mono ?_
          rintro e w1 ⟨rfl, rfl⟩
          go_wp2
          go_ret
          exact ⟨by simp [*], bAl (bRefl w) _⟩
theorem rcon_ref (w : World) (x : C3) : Calls Try.prog 73 #[.agg (c3v x)] w fun e w' => e = .returned (.bool (goodCon x)) ∧ Below w.heap.size w w' := by
  unfold goodCon c3v
  go_enter Try.func73, Try.ntmps73
  go_wp2_with fail
  refine (rwithin_ok _ _ _ _).mono ?_
  rintro e w1 ⟨rfl, rfl⟩
  cases h1 : inB x.i 0 59 with
  | false =>
    go_wp2
    go_ret
    exact ⟨by simp [*], bAl (bRefl w) _⟩
  | true =>
    go_wp2_with fail
    refine (rwithin_ok _ _ _ _).mono ?_
    rintro e w1 ⟨rfl, rfl⟩
    cases h2 : inB x.j 0 59 with
    | false =>
      go_wp2
      go_ret
      exact ⟨by simp [*], bAl (bRefl w) _⟩
    | true =>
      by_cases hne : x.i = x.j
      · go_wp2
        go_ret
        exact ⟨by simp [*], bAl (bRefl w) _⟩
      · go_wp2_with fail
        refine (rwithin_ok _ _ _ _).mono ?_
        rintro e w1 ⟨rfl, rfl⟩
        go_wp2
        go_ret
        exact ⟨by simp [*], bAl (bRefl w) _⟩
theorem rrises_ok (w : World) (a b : C3) : Calls Try.prog 74 #[.agg (c3v a), .agg (c3v b)] w fun e w' => e = .returned (.bool (rises a b)) ∧ Below w.heap.size w w' := by
  unfold rises c3v
  go_enter Try.func74, Try.ntmps74
  by_cases h1 : a.i < b.i
  · go_wp2
    go_ret
    exact ⟨by simp [h1], bAl (bAl (bRefl w) _) _⟩
  · by_cases h2 : a.i = b.i
    · rw [h2]
      go_wp2
      go_ret
      exact ⟨by simp, bAl (bAl (bRefl w) _) _⟩
    · go_wp2
      go_ret
      exact ⟨by simp; omega, bAl (bAl (bRefl w) _) _⟩
theorem rtag_ref (w : World) (t : Tg) (slot : Bool) : Calls Try.prog 72 #[.agg (tgv t), .bool slot] w fun e w' => e = .returned (.bool (goodTag t (if slot = true then 255 else 0))) ∧ Below w.heap.size w w' := by
  obtain ⟨R, hR⟩ : ∃ R, R = goodTag t (if slot = true then 255 else 0) := ⟨_, rfl⟩
  rw [← hR]
  have HRR := Lib.hid hR
  clear hR
  have h00 : ∀ x : Int, inB x 0 0 = decide (x = 0) := fun x => by
    rw [Bool.eq_iff_iff, inB_iff, decide_eq_true_eq]
    omega
  unfold tgv
  go_enter Try.func72, Try.ntmps72
  go_wp2_with fail
  refine (rwithin_ok _ _ _ _).mono ?_
  rintro e w1 ⟨rfl, rfl⟩
  cases h1 : inB t.k 0 6 with
  | false =>
    go_wp2
    go_ret
    exact ⟨by rw [HRR.out]; simp [goodTag, h1], bAl (bRefl w) _⟩
  | true =>
    by_cases hr : t.k = 5 ∨ t.k = 6
    · have HE : Hid (R = (inB t.t 0 7 && decide (t.m = 0))) := by
        show _ = _
        rw [HRR.out]
        unfold goodTag
        rw [h1, if_pos hr, if_neg (by omega), Bool.true_and, h00]
      have e1 : (t.k == 5) = true ∨ ((t.k == 5) = false ∧ (t.k == 6) = true) := by
        rcases hr with h | h <;> simp [h]
      clear hr
      rcases e1 with e1 | ⟨e1, e2⟩
      all_goals
        go_wp2_with fail
        refine (rwithin_ok _ _ _ _).mono ?_
        rintro e w1 ⟨rfl, rfl⟩
        cases h2 : inB t.t 0 7 with
        | false =>
          go_wp2
          go_ret
          exact ⟨by rw [HE.out, h2]; rfl, bAl (bRefl w) _⟩
        | true =>
          go_wp2
          go_ret
          exact ⟨by rw [HE.out, h2, Bool.true_and]; simp; rfl, bAl (bRefl w) _⟩
    · have e1 : (t.k == 5) = false := by simp; omega
      have e2 : (t.k == 6) = false := by simp; omega
      by_cases ht : t.t = 0
      · by_cases hm : t.m = 0
        · have HE : Hid (R = true) := by
            show _ = _
            rw [HRR.out]
            unfold goodTag
            rw [h1, if_neg hr, h00, ht, hm]
            simp only [decide_true, Bool.true_and]
            split
            · cases slot <;> rfl
            · rfl
          have ht' : (t.t != 0) = false := by simp [ht]
          have hm' : (t.m == 0) = true := by simp [hm]
          clear hr
          go_wp2
          go_ret
          exact ⟨by rw [HE.out]; rfl, bAl (bRefl w) _⟩
        · have ht' : (t.t != 0) = false := by simp [ht]
          have hm' : (t.m == 0) = false := by simp [hm]
          cases slot with
          | false =>
            have HE : Hid (R = false) := by
              show _ = _
              rw [HRR.out]
              unfold goodTag
              have : inB t.m 0 (if t.k = 0 then (if false = true then 255 else 0) else 0) = false := by
                rw [show (if t.k = 0 then (if false = true then (255 : Int) else 0) else 0) = 0 by simp, h00]
                simp [hm]
              rw [this]
              simp
            clear hr
            go_wp2
            go_ret
            exact ⟨by rw [HE.out]; rfl, bAl (bRefl w) _⟩
          | true =>
            by_cases hk : t.k = 0
            · have HE : Hid (R = inB t.m 0 255) := by
                show _ = _
                rw [HRR.out]
                unfold goodTag
                rw [h1, if_neg hr, if_pos hk, h00, ht]
                simp
              have hk' : (t.k == 0) = true := by simp [hk]
              clear hr
              go_wp2_with fail
              refine (rwithin_ok _ _ _ _).mono ?_
              rintro e w1 ⟨rfl, rfl⟩
              go_wp2
              go_ret
              exact ⟨by rw [HE.out]; rfl, bAl (bRefl w) _⟩
            · have HE : Hid (R = false) := by
                show _ = _
                rw [HRR.out]
                unfold goodTag
                rw [if_neg hk, h00 t.m]
                simp [hm]
              have hk' : (t.k == 0) = false := by simp [hk]
              clear hr
              go_wp2
              go_ret
              exact ⟨by rw [HE.out]; rfl, bAl (bRefl w) _⟩
      · have HE : Hid (R = false) := by
          show _ = _
          rw [HRR.out]
          unfold goodTag
          rw [if_neg hr, h00 t.t]
          simp [ht]
        have ht' : (t.t != 0) = true := by simp [ht]
        clear hr
        go_wp2
        go_ret
        exact ⟨by rw [HE.out]; rfl, bAl (bRefl w) _⟩
end Go.Proofs.Ytfdjdpbiccclfaa
namespace Go.Proofs.Ytfdjdpbiccclfaa
open Go Go.RowKit Go.Wr
set_option maxHeartbeats 4000000
set_option maxRecDepth 100000
theorem eqTags_succ {f g : Nat → Tg} {o n : Nat} : eqTags f g o (n + 1) = (eqTags f g o n && eqTg (f (o + n)) (g (o + n))) := by
  simp [eqTags, List.range_succ]
theorem eqTg_tz {t : Tg} (h : t ≠ tz) : eqTg t tz = false := by
  rw [Bool.eq_false_iff]
  intro e
  exact h (eqTg_iff.1 e)
theorem rclaim_dead (w : World) (f : Nat → Tg) (v : Value) (l : List C3) (hv : SlC w.heap.size w v l) :
    Calls Try.prog 52 #[.agg (bx (.bool true) f v)] w fun e w' => e = .returned (.int .i64 (goodClaim true f l)) ∧ Below w.heap.size w w' := by
  obtain ⟨R, hR⟩ : ∃ R, R = goodClaim true f l := ⟨_, rfl⟩
  rw [← hR]
  have HR := Lib.hid hR
  obtain ⟨a0, cap, rfl, _⟩ := hv
  clear hR
  go_enter Try.func52, Try.ntmps52
  go_upto_region 1 with (fail)
  generalize hW : (w.alloc (.cells (bx (.bool true) f (.slice a0 l.length cap)) 61)) = W
  have tW : Below w.heap.size w W := by rw [← hW]; exact bAl (bRefl w) _
  have QB : Blk W w.heap.size 61 (bx (.bool true) f (.slice a0 l.length cap)) := by rw [← hW]; exact Blk.new _ _ _
  have c0 := (QB.cell 0).trans (bx_zero _ _ _)
  have c9 := (QB.cell 127).trans (bx_last _ _ _)
  have HQ := Lib.hid QB
  have hql := QB.lt
  obtain ⟨z, hz⟩ : ∃ z, z = ((l.length : Int) == 0) := ⟨_, rfl⟩
  have HZ := Lib.hid hz
  clear hW QB hz
  go_upto_region 3 with (fail)
  rw [← HZ.out]
  go_wp2
  go_loopw [3, 4] (fun s t wr => ∃ k : Nat, k ≤ 10 ∧ t = .int .i64 k ∧ s = .bool (z && eqTags f f0 0 k) ∧ wr = W) (fun _ t _ => 10 - (intOf t).toNat)
  case atStart => exact ⟨0, by omega, rfl, by simp [eqTags], rfl⟩
  case round =>
    obtain ⟨k, hk, rfl, rfl, rfl⟩ := hrel
    by_cases hlt : k < 10
    · have hlt' : (k : Int) < 10 := by omega
      obtain ⟨b0, b1, b2⟩ := bx_tag (.bool true) f (.slice a0 l.length cap) (show k < 42 by omega)
      have d0 := (HQ.out.cell (1 + k * 3)).trans b0
      have d1 := (HQ.out.cell (1 + k * 3 + 1)).trans b1
      have d2 := (HQ.out.cell (1 + k * 3 + 2)).trans b2
      have hs := eqTags_succ (f := f) (g := f0) (o := 0) (n := k)
      rw [Nat.zero_add] at hs
      obtain ⟨c, hc⟩ : ∃ c, c = (z && eqTags f f0 0 k) := ⟨_, rfl⟩
      rw [← hc]
      have hn : (z && eqTags f f0 0 (k + 1)) = (c && eqTg (f k) (f0 k)) := by first | (rw [hs, hc, Bool.and_assoc]; done) | (rw [hs, hc, Bool.and_assoc]; rfl)
      have HN := Lib.hid hn
      clear hc hn hs b0 b1 b2
      cases c with
      | false =>
        go_wp2
        go_roundw
        case rel => exact ⟨k + 1, by omega, by go_num, by simp [HN.out], trivial⟩
        case measure => simp [intOf]; omega
      | true =>
        by_cases he : f k = tz
        · have hn : (z && eqTags f f0 0 (k + 1)) = true := by rw [HN.out, he]; rfl
          have HN := Lib.hid hn
          rw [he] at d0 d1 d2
          simp only [tz] at d0 d1 d2
          clear he hn
          go_wp2
          go_roundw
          case rel => exact ⟨k + 1, by omega, by go_num, by simp [HN.out], trivial⟩
          case measure => simp [intOf]; omega
        · have hn : (z && eqTags f f0 0 (k + 1)) = false := by rw [HN.out]; exact eqTg_tz he
          have HN := Lib.hid hn
          have HE := Lib.hid he
          clear he hn
          go_wp2
          all_goals go_roundw
          all_goals first
            | (exact absurd (tz_of (by assumption) (by assumption) (by assumption)) HE.out)
            | exact ⟨k + 1, by omega, by go_num, by simp [HN.out], trivial⟩
            | ((repeat apply Exists.intro); exact ⟨⟨k + 1, by omega, by go_num, by simp [HN.out], trivial⟩, rfl⟩)
            | (simp [intOf]; omega)
    · obtain rfl : k = 10 := by omega
      obtain ⟨z2, hz2⟩ : ∃ c, c = (z && eqTags f f0 0 10) := ⟨_, rfl⟩
      rw [← hz2]
      have HZ2 := Lib.hid hz2
      clear hz2 hk hlt
      go_wp2
      go_loopw [3, 5] (fun s t wq => ∃ k : Nat, k ≤ 32 ∧ t = .int .i64 k ∧ s = .bool (z2 && eqTags f f0 10 k) ∧ wq = wr) (fun _ t _ => 32 - (intOf t).toNat)
      case atStart => exact ⟨0, by omega, rfl, by simp [eqTags], rfl⟩
      case round =>
        obtain ⟨k, hk, rfl, rfl, rfl⟩ := hrel
        by_cases hlt : k < 32
        · have hlt' : (k : Int) < 32 := by omega
          obtain ⟨b0, b1, b2⟩ := bx_tag (.bool true) f (.slice a0 l.length cap) (show 10 + k < 42 by omega)
          have d0 := (HQ.out.cell (1 + (10 + k) * 3)).trans b0
          have d1 := (HQ.out.cell (1 + (10 + k) * 3 + 1)).trans b1
          have d2 := (HQ.out.cell (1 + (10 + k) * 3 + 2)).trans b2
          rw [show 1 + (10 + k) * 3 = 31 + k * 3 by omega] at d0 d1 d2
          have hs := eqTags_succ (f := f) (g := f0) (o := 10) (n := k)
          obtain ⟨c, hc⟩ : ∃ c, c = (z2 && eqTags f f0 10 k) := ⟨_, rfl⟩
          rw [← hc]
          have hn : (z2 && eqTags f f0 10 (k + 1)) = (c && eqTg (f (10 + k)) (f0 k)) := by first | (rw [hs, hc, Bool.and_assoc]; done) | (rw [hs, hc, Bool.and_assoc]; rfl)
          have HN := Lib.hid hn
          clear hc hn hs b0 b1 b2
          cases c with
          | false =>
            go_wp2
            go_roundw
            case rel => exact ⟨k + 1, by omega, by go_num, by simp [HN.out], trivial⟩
            case measure => simp [intOf]; omega
          | true =>
            by_cases he : f (10 + k) = tz
            · have hn : (z2 && eqTags f f0 10 (k + 1)) = true := by rw [HN.out, he]; rfl
              have HN := Lib.hid hn
              rw [he] at d0 d1 d2
              simp only [tz] at d0 d1 d2
              clear he hn
              go_wp2
              go_roundw
              case rel => exact ⟨k + 1, by omega, by go_num, by simp [HN.out], trivial⟩
              case measure => simp [intOf]; omega
            · have hn : (z2 && eqTags f f0 10 (k + 1)) = false := by rw [HN.out]; exact eqTg_tz he
              have HN := Lib.hid hn
              have HE := Lib.hid he
              clear he hn
              go_wp2
              all_goals go_roundw
              all_goals first
                | (exact absurd (tz_of (by assumption) (by assumption) (by assumption)) HE.out)
                | exact ⟨k + 1, by omega, by go_num, by simp [HN.out], trivial⟩
                | ((repeat apply Exists.intro); exact ⟨⟨k + 1, by omega, by go_num, by simp [HN.out], trivial⟩, rfl⟩)
                | (simp [intOf]; omega)
        · obtain rfl : k = 32 := by omega
          obtain ⟨c, hc⟩ : ∃ c, c = (z2 && eqTags f f0 10 32) := ⟨_, rfl⟩
          rw [← hc]
          have hR : R = if c = true then 0 else 93 := by
            rw [HR.out, hc, HZ2.out, HZ.out]
            simp only [goodClaim, if_true]
            by_cases hl : l.length = 0 <;> cases eqTags f f0 0 10 <;> cases eqTags f f0 10 32 <;> simp [hl]
          have HR2 := Lib.hid hR
          clear hc hR hk hlt
          cases c with
          | false =>
            go_wp2
            go_ret
            exact ⟨by rw [HR2.out]; rfl, tW⟩
          | true =>
            go_wp2
            go_ret
            exact ⟨by rw [HR2.out]; rfl, tW⟩
theorem rclaim_live (w : World) (f : Nat → Tg) (v : Value) (l : List C3) (hv : SlC w.heap.size w v l) (hll : l.length ≤ 140737488351232) :
    Calls Try.prog 52 #[.agg (bx (.bool false) f v)] w fun e w' => e = .returned (.int .i64 (goodClaim false f l)) ∧ Below w.heap.size w w' := by
  obtain ⟨R, hR⟩ : ∃ R, R = goodClaim false f l := ⟨_, rfl⟩
  rw [← hR]
  have HR := Lib.hid hR
  have HV := Lib.hid hv
  obtain ⟨a0, cap, rfl, _⟩ := hv
  clear hR
  go_enter Try.func52, Try.ntmps52
  go_upto_region 1 with (fail)
  generalize hW : (w.alloc (.cells (bx (.bool false) f (.slice a0 l.length cap)) 61)) = W
  have tW : Below w.heap.size w W := by rw [← hW]; exact bAl (bRefl w) _
  have QB : Blk W w.heap.size 61 (bx (.bool false) f (.slice a0 l.length cap)) := by rw [← hW]; exact Blk.new _ _ _
  have c0 := (QB.cell 0).trans (bx_zero _ _ _)
  have HQ := Lib.hid QB
  have hql := QB.lt
  clear hW QB
  go_wp2
  go_loopw [6] (fun t wr => ∃ k : Nat, k ≤ 10 ∧ t = .int .i64 k ∧ tagsOk f 0 0 k = true ∧ Below W.heap.size W wr) (fun t _ => 10 - (intOf t).toNat)
  case atStart => exact ⟨0, by omega, rfl, rfl, bRefl _⟩
  case round =>
    obtain ⟨k, hk, rfl, hok, hbel⟩ := hrel
    by_cases hlt : k < 10
    · have hlt' : (k : Int) < 10 := by omega
      have hqr := HQ.out.below hbel HQ.out.lt
      obtain ⟨b0, b1, b2⟩ := bx_tag (.bool false) f (.slice a0 l.length cap) (show k < 42 by omega)
      have d0 := (hqr.cell (1 + k * 3)).trans b0
      have d1 := (hqr.cell (1 + k * 3 + 1)).trans b1
      have d2 := (hqr.cell (1 + k * 3 + 2)).trans b2
      have hs := tagsOk_succ (f := f) (masked := 0) (o := 0) (n := k)
      rw [hok, Bool.true_and, Nat.zero_add] at hs
      have HS := Lib.hid hs
      clear hs hok b0 b1 b2 hqr
      go_wp2_with fail
      refine (rtag_ref _ (f k) false).mono ?_
      rintro e w1 ⟨rfl, b1⟩
      have t1 := bThen hbel b1
      rw [if_neg (by decide)]
      clear d0 d1 d2
      cases hg : goodTag (f k) 0 with
      | false =>
        go_wp2
        go_ret
        exact ⟨by rw [HR.out]; simp only [goodClaim]; rw [tagsOk_false hlt (by rw [Nat.zero_add]; exact hg)]; rfl, bThen tW t1⟩
      | true =>
        go_wp2
        go_roundw
        case rel => first | exact ⟨k + 1, by omega, by go_num, HS.out.trans hg, t1⟩ | ((repeat apply Exists.intro); exact ⟨⟨k + 1, by omega, by go_num, HS.out.trans hg, t1⟩, rfl⟩)
        case measure => simp [intOf]; omega
    · obtain rfl : k = 10 := by omega
      have HOK := Lib.hid hok
      have QR := Lib.hid (HQ.out.below hbel HQ.out.lt)
      have tR := bThen tW hbel
      have hqr := QR.out.lt
      clear hok hbel HQ hlt hk c0
      go_wp2
      go_loopw [7] (fun t wq => ∃ k : Nat, k ≤ 32 ∧ t = .int .i64 k ∧ tagsOk f 255 10 k = true ∧ Below wr.heap.size wr wq) (fun t _ => 32 - (intOf t).toNat)
      case atStart => exact ⟨0, by omega, rfl, rfl, bRefl _⟩
      case round =>
        obtain ⟨k, hk, rfl, hok, hbel⟩ := hrel
        by_cases hlt : k < 32
        · have hlt' : (k : Int) < 32 := by omega
          have hqs := QR.out.below hbel QR.out.lt
          obtain ⟨b0, b1, b2⟩ := bx_tag (.bool false) f (.slice a0 l.length cap) (show 10 + k < 42 by omega)
          have d0 := (hqs.cell (1 + (10 + k) * 3)).trans b0
          have d1 := (hqs.cell (1 + (10 + k) * 3 + 1)).trans b1
          have d2 := (hqs.cell (1 + (10 + k) * 3 + 2)).trans b2
          rw [show 1 + (10 + k) * 3 = 31 + k * 3 by omega] at d0 d1 d2
          have hs := tagsOk_succ (f := f) (masked := 255) (o := 10) (n := k)
          rw [hok, Bool.true_and] at hs
          have HS := Lib.hid hs
          clear hs hok b0 b1 b2 hqs
          go_wp2_with fail
          refine (rtag_ref _ (f (10 + k)) true).mono ?_
          rintro e w1 ⟨rfl, b1⟩
          have t1 := bThen hbel b1
          rw [if_pos rfl]
          clear d0 d1 d2
          cases hg : goodTag (f (10 + k)) 255 with
          | false =>
            go_wp2
            go_ret
            exact ⟨by rw [HR.out]; simp only [goodClaim]; rw [HOK.out, tagsOk_false hlt hg]; rfl, bThen tR t1⟩
          | true =>
            go_wp2
            go_roundw
            case rel => first | exact ⟨k + 1, by omega, by go_num, HS.out.trans hg, t1⟩ | ((repeat apply Exists.intro); exact ⟨⟨k + 1, by omega, by go_num, HS.out.trans hg, t1⟩, rfl⟩)
            case measure => simp [intOf]; omega
        · obtain rfl : k = 32 := by omega
          have HOK2 := Lib.hid hok
          have QS := QR.out.below hbel QR.out.lt
          have cv := (QS.cell 127).trans (bx_last _ _ _)
          have hqs := QS.lt
          have HQS := Lib.hid QS
          have tS := bThen tR hbel
          have HE0 : Hid (R = goC none l) := by
            show _ = _
            rw [HR.out]
            simp only [goodClaim]
            rw [HOK.out, HOK2.out]
            rfl
          clear hok hbel QR QS hlt hk tR hqr
          go_wp2
          go_loopw [8] (fun t wr => ∃ k : Nat, k ≤ l.length ∧ t = .int .i64 k ∧ Hid (goC none l = goC (if k = 0 then none else l[k - 1]?) (l.drop k)) ∧ Below w.heap.size w wr ∧ Blk wr w.heap.size 61 (bx (.bool false) f (.slice a0 l.length cap))) (fun t _ => l.length - (intOf t).toNat)
          case atStart => exact ⟨0, by omega, rfl, rfl, tS, HQS.out⟩
          case round =>
            obtain ⟨k, hk, rfl, he, hbel, hblk⟩ := hrel
            have HB := Lib.hid hblk
            have hbl := hblk.lt
            have HE := Lib.hid he.out
            have cv := (hblk.cell 127).trans (bx_last _ _ _)
            by_cases hlt : k < l.length
            · have hlt' : (k : Int) < (l.length : Int) := by omega
              obtain ⟨x, hx⟩ : ∃ x, l[k]? = some x := ⟨_, List.getElem?_eq_getElem hlt⟩
              obtain ⟨a1, cap1, ev, hcell⟩ := HV.out
              simp only [Value.slice.injEq, true_and] at ev
              obtain ⟨rfl, rfl⟩ := ev
              obtain ⟨bb, off, rfl, hbb, g0, g1, g2⟩ := hcell k x hx
              rw [← hbel.cell (p := ⟨bb, _, none⟩) hbb] at g0 g1 g2
              have HX := Lib.hid hx
              have HCell := Lib.hid hcell
              clear hx hcell he hblk
              go_wp2_with fail
              have hd : l.drop k = x :: l.drop (k + 1) := by
                rw [List.drop_eq_getElem_cons hlt]
                congr 1
                have := HX.out
                rw [List.getElem?_eq_getElem hlt] at this
                injection this
              have HD := Lib.hid hd
              refine (rcon_ref _ x).mono ?_
              rintro e w1 ⟨rfl, b1⟩
              have t2 := bThen hbel b1
              have B2 := Lib.hid (HB.out.below b1 hbl)
              have hbr : bb < wr.heap.size := Nat.lt_of_lt_of_le hbb hbel.size
              have x0 := (b1.cell (p := ⟨bb, _, none⟩) hbr).trans g0
              have x1 := (b1.cell (p := ⟨bb, _, none⟩) hbr).trans g1
              have x2 := (b1.cell (p := ⟨bb, _, none⟩) hbr).trans g2
              clear hd
              cases hg : goodCon x with
              | false =>
                have e1 : Hid (R = 91) := by
                  show _ = _
                  rw [HE0.out, HE.out, HD.out]
                  unfold goC
                  rw [if_pos hg]
                go_wp2
                go_ret
                exact ⟨by rw [e1.out]; rfl, t2⟩
              | true =>
                have HG := Lib.hid hg
                clear hg b1
                by_cases hk0 : k = 0
                · subst hk0
                  go_wp2
                  go_quiet (fail)
                  go_wp2
                  go_roundw
                  have hn : Hid (goC none l = goC (if 0 + 1 = 0 then none else l[0 + 1 - 1]?) (l.drop (0 + 1))) := by
                    show _ = _
                    rw [HE.out, HD.out]
                    have := HX.out
                    simp only [Nat.zero_add, Nat.sub_self, this]
                    simp [goC, HG.out]
                  all_goals first
                    | exact ⟨1, by omega, by go_num, hn, ⟨t2.os, t2.tape, t2.output, t2.size, t2.block⟩, B2.out.drewN _⟩
                    | ((repeat apply Exists.intro); exact ⟨⟨1, by omega, by go_num, hn, ⟨t2.os, t2.tape, t2.output, t2.size, t2.block⟩, B2.out.drewN _⟩, rfl⟩)
                    | (simp [intOf]; omega)
                · obtain ⟨n, rfl⟩ : ∃ n, k = n + 1 := ⟨k - 1, by omega⟩
                  obtain ⟨y, hy⟩ : ∃ y, l[n]? = some y := ⟨_, List.getElem?_eq_getElem (by omega)⟩
                  obtain ⟨bb', off', ea, hbb', y0, y1, y2⟩ := HCell.out n y hy
                  simp only [Option.some.injEq, Addr.mk.injEq, and_true] at ea
                  obtain ⟨rfl, rfl⟩ := ea
                  have hb12 : Below w.heap.size w w1 := t2
                  rw [← hb12.cell (p := ⟨bb, _, none⟩) hbb'] at y0 y1 y2
                  have cv2 := (B2.out.cell 127).trans (bx_last _ _ _)
                  have HY := Lib.hid hy
                  have hwr : IntKind.i64.wrap (n : Int) = n := IntWalk.i64_in _ (by omega)
                  have hlt0 : (n : Int) < (l.length : Int) := by omega
                  have hlt1 : (n : Int) + 1 < (l.length : Int) := by omega
                  have h01 : (0 : Int) ≤ (n : Int) + 1 := by omega
                  clear hk0 hy hb12
                  go_upto_region 29 with (fail)
                  refine wp_tail 14 mix (by kernel_rfl) ?_
                  simp only [List.take_succ_cons, List.take_zero, List.drop_succ_cons, List.drop_zero]
                  iterate 14 still_step
                  refine wpStill_nil ?_
                  go_wp2_with fail
                  refine (rrises_ok _ y x).mono ?_
                  rintro e w2 ⟨rfl, b2⟩
                  have t3 := bThen (show Below w.heap.size w w1.drew from ⟨t2.os, t2.tape, t2.output, t2.size, t2.block⟩) b2
                  have B3 := Lib.hid ((Blk.drew B2.out).below b2 B2.out.lt)
                  clear b2 x0 x1 x2 y0 y1 y2 g0 g1 g2
                  have HE2 : Hid (goC none l = goC (some y) (l.drop (n + 1))) := by
                    show _ = _
                    rw [HE.out, if_neg (by omega), Nat.add_sub_cancel, HY.out]
                  cases hr : rises y x with
                  | false =>
                    have e1 : Hid (R = 111) := by
                      show _ = _
                      rw [HE0.out, HE2.out, HD.out]
                      simp [goC, HG.out, hr]
                    go_wp2
                    go_ret
                    exact ⟨by rw [e1.out]; rfl, t3⟩
                  | true =>
                    have hn : Hid (goC none l = goC (if n + 1 + 1 = 0 then none else l[n + 1 + 1 - 1]?) (l.drop (n + 1 + 1))) := by
                      show _ = _
                      rw [HE2.out, HD.out, if_neg (by omega), Nat.add_sub_cancel, HX.out]
                      simp [goC, HG.out, hr]
                    go_wp2
                    go_roundw
                    all_goals first
                      | exact ⟨n + 1 + 1, by omega, by go_num, hn, t3, B3.out⟩
                      | ((repeat apply Exists.intro); exact ⟨⟨n + 1 + 1, by omega, by go_num, hn, t3, B3.out⟩, rfl⟩)
                      | (simp [intOf]; omega)
            · obtain rfl : k = l.length := by omega
              have hd : l.drop l.length = [] := by simp
              have e0 : Hid (R = 0) := by
                show _ = _
                have hn : ∀ p, goC p [] = 0 := fun p => by cases p <;> rfl
                rw [HE0.out, HE.out, hd, hn]
              clear he
              go_wp2
              go_ret
              exact ⟨by rw [e0.out]; rfl, hbel⟩
end Go.Proofs.Ytfdjdpbiccclfaa
namespace Go.Proofs.Ytfdjdpbiccclfaa
open Go Go.RowKit Go.Wr
set_option maxHeartbeats 4000000
set_option maxRecDepth 100000
theorem rclaim_any (w : World) (d : Bool) (f : Nat → Tg) (v : Value) (l : List C3) (hv : SlC w.heap.size w v l) (hll : l.length ≤ 140737488351232) :
    Calls Try.prog 52 #[.agg (bx (.bool d) f v)] w fun e w' => e = .returned (.int .i64 (goodClaim d f l)) ∧ Below w.heap.size w w' := by
  cases d with
  | true => exact rclaim_dead w f v l hv
  | false => exact rclaim_live w f v l hv hll
theorem rplain_ok (w : World) (vl vc : Value) (d : Dd) (h : SlD w.heap.size w vl vc d) :
    Calls Try.prog 33 #[.agg #[vl, vc]] w fun e w' => e = .returned (.int .i64 (plainD d)) ∧ Below w.heap.size w w' := by
  obtain ⟨⟨al, capl, rfl, hl⟩, ⟨ac, capc, rfl, hcl⟩, nl, nc, nb⟩ := h
  obtain ⟨ls, cs⟩ := d
  simp only at hl hcl nl nc nb ⊢
  obtain ⟨R, hR⟩ : ∃ R, R = plainD ⟨ls, cs⟩ := ⟨_, rfl⟩
  rw [← hR]
  unfold plainD at hR
  simp only at hR
  have HR := Lib.hid hR
  have HL := Lib.hid hl
  have HC := Lib.hid hcl
  have NB := Lib.hid nb
  clear hR hl hcl nb
  by_cases h1 : 8 < ls.length
  · have h1' : (8 : Int) < (ls.length : Int) := by omega
    go_enter Try.func33, Try.ntmps33
    go_wp2
    go_ret
    exact ⟨by rw [HR.out, if_pos (Or.inl h1)]; rfl, bAl (bRefl w) _⟩
  · have h1' : ¬ (8 : Int) < (ls.length : Int) := by omega
    by_cases h2 : 512 < cs.length
    · have h2' : (512 : Int) < (cs.length : Int) := by omega
      go_enter Try.func33, Try.ntmps33
      go_wp2
      go_ret
      exact ⟨by rw [HR.out, if_pos (Or.inr h2)]; rfl, bAl (bRefl w) _⟩
    · have h2' : ¬ (512 : Int) < (cs.length : Int) := by omega
      have HR2 : Hid (R = if goodLs ls = 0 then goodCs cs else 113) := by
        show _ = _
        rw [HR.out, if_neg (by omega)]
      clear HR
      go_enter Try.func33, Try.ntmps33
      go_wp2
      go_loopw [3] (fun t wr => ∃ k : Nat, k ≤ ls.length ∧ t = .int .i64 k ∧ Hid (goodLs ls = goodLs (ls.drop k)) ∧ Below w.heap.size w wr ∧ Blk wr w.heap.size 26 #[.slice al ls.length capl, .slice ac cs.length capc]) (fun t _ => ls.length - (intOf t).toNat)
      case atStart => exact ⟨0, by omega, rfl, rfl, bAl (bRefl w) _, Blk.new _ _ _⟩
      case round =>
        obtain ⟨k, hk, rfl, he, hbel, hblk⟩ := hrel
        have c0 := hblk.cell 0
        have hbl := hblk.lt
        simp only [List.getElem?_toArray, List.getElem?_cons_zero] at c0
        by_cases hlt : k < ls.length
        · have hlt' : (k : Int) < (ls.length : Int) := by omega
          obtain ⟨x, hx⟩ : ∃ x, ls[k]? = some x := ⟨_, List.getElem?_eq_getElem hlt⟩
          obtain ⟨bb, off, rfl, hbb, hra⟩ := HL.out k x hx
          obtain ⟨g0, g1, g2, g3, g4⟩ := lpv_range (rangeAt_below hra hbel hbb)
          have hs := goodLs_drop hx
          rw [← he.out] at hs
          have HS := Lib.hid hs
          have HB := Lib.hid hblk
          clear hx hra hs he hblk
          go_wp2_with fail
          refine (rloop_ok _ x).mono ?_
          rintro e w1 ⟨rfl, b1⟩
          have t2 := bThen hbel b1
          have B2 := Lib.hid (HB.out.below b1 hbl)
          clear b1
          cases hg : goodLoop x with
          | false =>
            have e1 : Hid (R = 113) := by
              show _ = _
              rw [HR2.out, HS.out, hg]
              simp
            go_wp2
            go_ret
            exact ⟨by rw [e1.out]; rfl, t2⟩
          | true =>
            have e1 : Hid (goodLs ls = goodLs (ls.drop (k + 1))) := by
              show _ = _
              rw [HS.out, hg, if_pos rfl]
            go_wp2
            go_roundw
            all_goals first
              | exact ⟨k + 1, by omega, by go_num, e1, t2, B2.out⟩
              | ((repeat apply Exists.intro); exact ⟨⟨k + 1, by omega, by go_num, e1, t2, B2.out⟩, rfl⟩)
              | (simp [intOf]; omega)
        · obtain rfl : k = ls.length := by omega
          have HR3 : Hid (R = goodCs cs) := by
            show _ = _
            have := he.out
            rw [List.drop_length] at this
            rw [HR2.out, this]
            rfl
          have HBK := Lib.hid hblk
          have c1 := hblk.cell 1
          simp only [List.getElem?_toArray, List.getElem?_cons_zero, List.getElem?_cons_succ] at c1
          clear HR2 he hlt hk hblk
          go_wp2
          go_loopw [4] (fun t wq => ∃ k : Nat, k ≤ cs.length ∧ t = .int .i64 k ∧ Hid (goodCs cs = goodCs (cs.drop k)) ∧ Below w.heap.size w wq ∧ Blk wq w.heap.size 26 #[.slice al ls.length capl, .slice ac cs.length capc]) (fun t _ => cs.length - (intOf t).toNat)
          case atStart => exact ⟨0, by omega, rfl, rfl, hbel, HBK.out⟩
          case round =>
            clear hbel HBK
            obtain ⟨k, hk, rfl, he, hbel, hblk⟩ := hrel
            have c1 := hblk.cell 1
            have hbl := hblk.lt
            simp only [List.getElem?_toArray, List.getElem?_cons_zero, List.getElem?_cons_succ] at c1
            have HB := Lib.hid hblk
            clear hblk
            by_cases hlt : k < cs.length
            · have hlt' : (k : Int) < (cs.length : Int) := by omega
              obtain ⟨x, hx⟩ : ∃ x, cs[k]? = some x := ⟨_, List.getElem?_eq_getElem hlt⟩
              obtain ⟨bb, off, vx, rfl, hbb, hra, hsl⟩ := HC.out k x hx
              have hs := goodCs_drop hx
              rw [← he.out] at hs
              have HS := Lib.hid hs
              have HRA := Lib.hid (rangeAt_below hra hbel hbb)
              have hslr := Lib.hid ((hsl.below hbel).mono hbel.size)
              have hnb := NB.out x (List.mem_of_getElem? hx)
              clear hx hra hs he hsl
              go_wp2_with (refine wpl_loadR rfl 61 (.tmp 40) rfl bb (off + k * 128) rfl HRA.out rowClaim (bx_size _ _ _) ?_)
              refine (rclaim_any wr x.d x.f vx x.l hslr.out hnb).mono ?_
              rintro e w1 ⟨rfl, b1⟩
              have t2 := bThen hbel b1
              have B2 := Lib.hid (HB.out.below b1 hbl)
              clear b1
              by_cases hg : goodClaim x.d x.f x.l = 0
              · have e1 : Hid (goodCs cs = goodCs (cs.drop (k + 1))) := by
                  show _ = _
                  rw [HS.out, if_pos hg]
                rw [hg]
                clear hg
                go_wp2
                go_roundw
                all_goals first
                  | exact ⟨k + 1, by omega, by go_num, e1, t2, B2.out⟩
                  | ((repeat apply Exists.intro); exact ⟨⟨k + 1, by omega, by go_num, e1, t2, B2.out⟩, rfl⟩)
                  | (simp [intOf]; omega)
              · have e1 : Hid (R = goodClaim x.d x.f x.l) := by
                  show _ = _
                  rw [HR3.out, HS.out, if_neg hg]
                have hr : goodClaim x.d x.f x.l = R := e1.out.symm
                rw [hr] at hg ⊢
                clear hr
                go_wp2
                go_ret
                exact ⟨rfl, t2⟩
            · obtain rfl : k = cs.length := by omega
              have e0 : Hid (R = 0) := by
                show _ = _
                have := he.out
                rw [List.drop_length] at this
                rw [HR3.out, this]
                rfl
              clear he
              go_wp2
              go_ret
              exact ⟨by rw [e0.out]; rfl, hbel⟩
end Go.Proofs.Ytfdjdpbiccclfaa
namespace Go.Wr
open Go Go.RowKit
variable {P : Program}
theorem wpl_run {ops : Array Oper} {rest : List Oper} {op : Oper} {a : Act} {w w' : World} {Q : Exit → Act → World → Prop} (hgd : op.guard = none) (v : Value) (hrun : (execOp a.eval op).run P w = .ok (.value v) w')
    (h : wpList P ops Q rest (a.put op.dst v) w') : wpList P ops Q (op :: rest) a w := by
  refine wpList_plain hgd fun K hK => ?_
  unfold Oper.wp
  rw [hrun]
  exact hK _ _ h
end Go.Wr
namespace Go.Proofs.Ytfdjdpbiccclfaa
open Go Go.RowKit Go.Wr
set_option maxHeartbeats 4000000
set_option maxRecDepth 100000
def fS : Nat → Tg := fun k => if k = 1 then ⟨3, 0, 0⟩ else if k = 2 then ⟨1, 0, 0⟩ else if k = 41 then ⟨1, 0, 0⟩ else if k = 40 then ⟨0, 0, 15⟩ else ⟨0, 0, 0⟩
def dS : Dd := ⟨[], [⟨false, fS, [⟨3, 0, 100⟩]⟩]⟩
def bS : List Nat := [87, 65, 82, 49, 0, 1, 1, 0, 3, 1, 0, 0, 0, 0, 0, 0, 0, 2, 30, 0, 15, 31, 1, 1, 3, 0, 200, 1]
theorem cellsS (v : Value) : (((((bx (.bool false) f0 (.slice none 0 0)).setIfInBounds 4 (.int .i64 3)).setIfInBounds 7 (.int .i64 1)).setIfInBounds 124 (.int .i64 1)).setIfInBounds 123 (.int .i64 15)).setIfInBounds 127 v = bx (.bool false) fS v := by kernel_rfl
theorem SlBy.of_own {B : Nat} {w : World} {v : Value} {l : List Nat} (h : w.ownsRow B 5 1 v l.length (bcells l)) (h256 : ∀ x ∈ l, x < 256) : SlBy w.heap.size w v l := by
  obtain ⟨h1, h2⟩ := h
  rcases h2 with ⟨rfl, h0⟩ | ⟨g, cap, cur, rfl, hg, hb, hle, hcap, hsz, htk⟩
  · have := List.eq_nil_of_length_eq_zero h0
    subst this
    exact ⟨none, 0, rfl, by simp, by decide, fun k x hx => by simp at hx⟩
  · have hb' : Blk w g 5 cur := hb
    refine ⟨some ⟨g, 0, none⟩, cap, rfl, hle, hcap, fun k x hx => ⟨g, 0, rfl, hb'.lt, h256 x (List.mem_of_getElem? hx), ?_⟩⟩
    have hk : k < l.length := (List.getElem?_eq_some_iff.1 hx).1
    have h0 : (bcells l)[k]? = some (.int .u8 (x : Int)) := by simp only [bcells, List.getElem?_map, hx]; rfl
    rw [← htk] at h0
    rw [List.getElem?_take, if_pos (by omega), Array.getElem?_toList] at h0
    rw [Nat.zero_add]
    exact (hb'.cell _).trans h0
theorem SlBy.lit {w : World} {g : Nat} {l : List Nat} {C : Array Value} (h : Blk w g 5 C) (hC : C.toList = bcells l) (h256 : ∀ x ∈ l, x < 256) (hl : l.length ≤ maxLen) : SlBy w.heap.size w (.slice (some ⟨g, 0, none⟩) l.length l.length) l := by
  refine ⟨_, _, rfl, Nat.le_refl _, hl, fun k x hx => ⟨g, 0, rfl, h.lt, h256 x (List.mem_of_getElem? hx), ?_⟩⟩
  rw [Nat.zero_add, h.cell k, ← Array.getElem?_toList, hC]
  simp only [bcells, List.getElem?_map, hx]
  rfl
theorem World.rangeAt_of_blk {w : World} {b : Nat} {T : TypeId} {C : Array Value} (h : Blk w b T C) : w.rangeAt b (0 + 0 * 128) C.toList := fun j v hj => by
  rw [Nat.zero_mul, Nat.zero_add, h.cell j, ← Array.getElem?_toList]
  exact hj
theorem small_res (w : World) (tmps : Array Value) (p : Nat) (al ac : Option Addr) (nl cl nc cc : Nat) (v : Value) (h0 : tmps.getD 0 undef = .pointer (some ⟨p, 0, none⟩)) (h1 : tmps.getD 1 undef = v)
    (c0 : w.cell? ⟨p, 0, none⟩ = some (.slice al nl cl)) (c1 : w.cell? ⟨p, 1, none⟩ = some (.slice ac nc cc)) :
    (results Try.f27 tmps).run Try.prog w = .ok (.tuple #[.agg #[.slice al nl cl, .slice ac nc cc], v]) w := by
  simp only [Array.getD_eq_getD_getElem?] at h0 h1
  simp [results, Try.results27, go_sem, h0, h1, c0, c1]
theorem small_ok (w : World) : Calls Try.prog 27 #[] w fun e w' => ∃ vl vc vb, e = .returned (.tuple #[.agg #[vl, vc], vb]) ∧ SlD w'.heap.size w' vl vc dS ∧ SlBy w'.heap.size w' vb bS ∧ Below w.heap.size w w' := by
  have hz := zeroClaim
  go_enter Try.func27, Try.ntmps27
  go_upto_region 2 with (fail)
  generalize hW : (w.alloc (.cells #[.slice none 0 0, .slice none 0 0] 26)).alloc (.cells (bx (.bool false) f0 (.slice none 0 0)) 61) = W
  have tW : Below w.heap.size w W := by rw [← hW]; exact bAl (bAl (bRefl w) _) _
  have hP : Blk W w.heap.size 26 #[.slice none 0 0, .slice none 0 0] := by rw [← hW]; exact (Blk.new _ _ _).alloc _
  have hQ : Blk W (w.heap.size + 1) 61 (bx (.bool false) f0 (.slice none 0 0)) := by rw [← hW]; exact Blk.new_at _ _ (by simp)
  have s4 : W.cell? ⟨w.heap.size + 1, 4, none⟩ = some (.int .i64 0) := hQ.cell 4
  have s7 : W.cell? ⟨w.heap.size + 1, 7, none⟩ = some (.int .i64 0) := hQ.cell 7
  have s124 : W.cell? ⟨w.heap.size + 1, 124, none⟩ = some (.int .i64 0) := hQ.cell 124
  have s123 : W.cell? ⟨w.heap.size + 1, 123, none⟩ = some (.int .i64 0) := hQ.cell 123
  have s127 : W.cell? ⟨w.heap.size + 1, 127, none⟩ = some (.slice none 0 0) := hQ.cell 127
  have f4 := hQ.frozen 4
  have f7 := hQ.frozen 7
  have f124 := hQ.frozen 124
  have f123 := hQ.frozen 123
  have f127 := hQ.frozen 127
  have hql := hQ.lt
  have HP := Lib.hid hP
  have HQ := Lib.hid hQ
  clear hW hP hQ hz
  go_upto_region 7 with (fail)
  generalize hV : (((((W.setCell ⟨w.heap.size + 1, 4, none⟩ (.int .i64 3)).setCell ⟨w.heap.size + 1, 7, none⟩ (.int .i64 1)).setCell ⟨w.heap.size + 1, 124, none⟩ (.int .i64 1)).setCell ⟨w.heap.size + 1, 123, none⟩ (.int .i64 15)).setCell ⟨w.heap.size + 1, 127, none⟩ (.slice (some ⟨W.heap.size, 0, none⟩) 1 1)).alloc (.cells #[.int .i64 3, .int .i64 0, .int .i64 100] 63) = V
  have bP : Blk V w.heap.size 26 #[.slice none 0 0, .slice none 0 0] := by rw [← hV]; exact (((((HP.out.set_other _ _ _ (by omega)).set_other _ _ _ (by omega)).set_other _ _ _ (by omega)).set_other _ _ _ (by omega)).set_other _ _ _ (by omega)).alloc _
  have bQ : Blk V (w.heap.size + 1) 61 (bx (.bool false) fS (.slice (some ⟨W.heap.size, 0, none⟩) 1 1)) := by rw [← hV]; exact ((((((HQ.out.set 4 _).set 7 _).set 124 _).set 123 _).set 127 _).eq (cellsS _)).alloc _
  have bC : Blk V W.heap.size 63 #[.int .i64 3, .int .i64 0, .int .i64 100] := by rw [← hV]; exact Blk.new_at _ _ (by simp)
  have tV : Below w.heap.size w V := by
    rw [← hV]
    have t5 := ((((tW.setCell (p := ⟨w.heap.size + 1, 4, none⟩) (Nat.le_succ _) (.int .i64 3)).setCell (p := ⟨w.heap.size + 1, 7, none⟩) (Nat.le_succ _) (.int .i64 1)).setCell (p := ⟨w.heap.size + 1, 124, none⟩) (Nat.le_succ _) (.int .i64 1)).setCell (p := ⟨w.heap.size + 1, 123, none⟩) (Nat.le_succ _) (.int .i64 15)).setCell (p := ⟨w.heap.size + 1, 127, none⟩) (Nat.le_succ _) (.slice (some ⟨W.heap.size, 0, none⟩) 1 1)
    exact bAl t5 _
  have HBP := Lib.hid bP
  have HBQ := Lib.hid bQ
  have HBC := Lib.hid bC
  have p0 := bP.cell 0
  have p1 := bP.cell 1
  have g0 := bP.frozen 0
  have g1 := bP.frozen 1
  simp only [List.getElem?_toArray, List.getElem?_cons_zero, List.getElem?_cons_succ] at p0 p1
  have hpl := bP.lt
  have hcl := bC.lt
  have hwl := tV.size
  clear hV HP HQ bP bQ bC f4 f7 f124 f123 f127 s4 s7 s124 s123 s127
  go_wp2_with (first
    | (refine wpl_load rfl 61 (.tmp 2) rfl (w.heap.size + 1) 0 rfl HBQ.out rowClaim (by rw [bx_size]; omega) (bx_all _ _ _) ?_)
    | (refine wpl_run rfl _ (exec_one rfl (D := bx (.bool false) fS (.slice (some ⟨W.heap.size, 0, none⟩) 1 1)) rfl Try.underlying24 sizeClaim zeroClaim (bx_size _ _ _) (by omega) (by omega)) ?_))
  generalize hU : (((V.setCell ⟨w.heap.size, 0, none⟩ (.slice none 0 0)).setCell ⟨w.heap.size, 1, none⟩ (.slice (some ⟨V.heap.size, 0, none⟩) 1 1)).alloc (.cells (bx (.bool false) fS (.slice (some ⟨W.heap.size, 0, none⟩) 1 1)) 61)).alloc (.cells #[.int .u8 87, .int .u8 65, .int .u8 82, .int .u8 49, .int .u8 0, .int .u8 1, .int .u8 1, .int .u8 0, .int .u8 3, .int .u8 1, .int .u8 0, .int .u8 0, .int .u8 0, .int .u8 0, .int .u8 0, .int .u8 0, .int .u8 0, .int .u8 2, .int .u8 30, .int .u8 0, .int .u8 15, .int .u8 31, .int .u8 1, .int .u8 1, .int .u8 3, .int .u8 0, .int .u8 200, .int .u8 1] 5) = U
  have uP : Blk U w.heap.size 26 #[.slice none 0 0, .slice (some ⟨V.heap.size, 0, none⟩) 1 1] := by rw [← hU]; exact (((HBP.out.set 0 _).set 1 _).alloc _).alloc _
  have uK : Blk U V.heap.size 61 (bx (.bool false) fS (.slice (some ⟨W.heap.size, 0, none⟩) 1 1)) := by rw [← hU]; exact (Blk.new_at _ _ (by simp)).alloc _
  have uC : Blk U W.heap.size 63 #[.int .i64 3, .int .i64 0, .int .i64 100] := by
    rw [← hU]
    have hcw : W.heap.size ≠ w.heap.size := by have := tW.size; omega
    exact (((HBC.out.set_other _ _ _ hcw).set_other _ _ _ hcw).alloc _).alloc _
  have uB : Blk U (V.heap.size + 1) 5 #[.int .u8 87, .int .u8 65, .int .u8 82, .int .u8 49, .int .u8 0, .int .u8 1, .int .u8 1, .int .u8 0, .int .u8 3, .int .u8 1, .int .u8 0, .int .u8 0, .int .u8 0, .int .u8 0, .int .u8 0, .int .u8 0, .int .u8 0, .int .u8 2, .int .u8 30, .int .u8 0, .int .u8 15, .int .u8 31, .int .u8 1, .int .u8 1, .int .u8 3, .int .u8 0, .int .u8 200, .int .u8 1] := by rw [← hU]; exact Blk.new_at _ _ (by simp)
  have tU : Below w.heap.size w U := by
    rw [← hU]
    exact bAl (bAl ((tV.setCell (p := ⟨w.heap.size, 0, none⟩) (Nat.le_refl _) _).setCell (p := ⟨w.heap.size, 1, none⟩) (Nat.le_refl _) _) _) _
  refine bodyPost_ret (small_res U _ w.heap.size none (some ⟨V.heap.size, 0, none⟩) 0 0 1 1 (.slice (some ⟨V.heap.size + 1, 0, none⟩) 28 28) rfl rfl (uP.cell 0) (uP.cell 1)) rfl ?_
  refine ⟨_, _, _, rfl, ⟨⟨none, 0, rfl, fun k x hx => by simp [dS] at hx⟩, ⟨some ⟨V.heap.size, 0, none⟩, 1, rfl, fun k x hx => ?_⟩, by decide, by decide, ?_⟩, SlBy.lit (l := bS) uB (by kernel_rfl) (by decide) (by decide), tU⟩
  · have hk : k = 0 := by
      have := (List.getElem?_eq_some_iff.1 hx).1
      simp [dS] at this
      exact this
    subst hk
    simp only [dS, List.getElem?_cons_zero, Option.some.injEq] at hx
    subst hx
    refine ⟨V.heap.size, 0, .slice (some ⟨W.heap.size, 0, none⟩) 1 1, rfl, uK.lt, World.rangeAt_of_blk uK, some ⟨W.heap.size, 0, none⟩, 1, rfl, fun k x hx => ?_⟩
    have hk : k = 0 := by
      have := (List.getElem?_eq_some_iff.1 hx).1
      simp at this
      exact this
    subst hk
    simp only [List.getElem?_cons_zero, Option.some.injEq] at hx
    subst hx
    exact ⟨W.heap.size, 0, rfl, uC.lt, uC.cell 0, uC.cell 1, uC.cell 2⟩
  · intro c hc
    simp only [dS, List.mem_singleton] at hc
    subst hc
    decide
end Go.Proofs.Ytfdjdpbiccclfaa
namespace Go.Proofs.Ytfdjdpbiccclfaa
open Go Go.RowKit Go.Wr
set_option maxHeartbeats 4000000
set_option maxRecDepth 100000
theorem encS : encE dS = 0 ∧ encD dS = bS := by constructor <;> decide +kernel
theorem decS : (decD bS).2 = (0, 0) ∧ sameD dS (decD bS).1 = true := by constructor <;> decide +kernel
theorem dec9 : (decD [87, 65, 82, 49, 9]).2 = (4, 112) := by decide +kernel
theorem decS_len : (decD bS).1.ls.length ≤ 8 ∧ (decD bS).1.cs.length ≤ 512 ∧ ∀ c ∈ (decD bS).1.cs, c.l.length ≤ 3540 := by refine ⟨?_, ?_, ?_⟩ <;> decide +kernel
theorem flat_get {α : Type} (f : α → List Value) (n : Nat) (hf : ∀ x, (f x).length = n) (l : List α) : ∀ (k j : Nat) (x : α) (v : Value), l[k]? = some x → (f x)[j]? = some v → (l.flatMap f)[k * n + j]? = some v := by
  induction l with
  | nil => intro k j x v h; simp at h
  | cons y r ih =>
    intro k j x v h hv
    simp only [List.flatMap_cons]
    cases k with
    | zero =>
      simp only [List.getElem?_cons_zero, Option.some.injEq] at h
      subst h
      rw [Nat.zero_mul, Nat.zero_add, List.getElem?_append_left (List.getElem?_eq_some_iff.1 hv).1]
      exact hv
    | succ k =>
      simp only [List.getElem?_cons_succ] at h
      have hl := hf y
      rw [List.getElem?_append_right (by rw [hl, Nat.succ_mul]; omega), hl, show (k + 1) * n + j - n = k * n + j by rw [Nat.succ_mul]; omega]
      exact ih k j x v h hv
theorem own_cell {B : Nat} {e : TypeId} {size n : Nat} {w : World} {v : Value} {xs : List Value} (h : w.ownsRow B e size v n xs) (hl : xs.length = n * size) : ∃ a0 cap, v = .slice a0 n cap ∧ n ≤ cap ∧ (n ≠ 0 → ∃ g, a0 = some ⟨g, 0, none⟩ ∧ B ≤ g ∧ g < w.heap.size ∧ ∀ j u, xs[j]? = some u → w.cell? ⟨g, j, none⟩ = some u) := by
  rcases h.2 with ⟨rfl, h0⟩ | ⟨g, cap, cur, rfl, hg, hb, hle, hcap, hsz, htk⟩
  · subst h0
    exact ⟨none, 0, rfl, Nat.le_refl _, fun h => absurd rfl h⟩
  · have hb' : Blk w g e cur := hb
    refine ⟨some ⟨g, 0, none⟩, cap, rfl, hle, fun _ => ⟨g, rfl, hg, hb'.lt, fun j u hj => ?_⟩⟩
    rw [hb'.cell j]
    rw [← htk, List.getElem?_take] at hj
    split at hj
    · rw [← hj, Array.getElem?_toList]
    · cases hj
theorem lpC_len (l : List Lp) : (lpC l).length = l.length * 5 := by
  induction l with
  | nil => rfl
  | cons x r ih => simp only [lpC, List.flatMap_cons, List.length_append, List.length_cons, lpv, List.length_nil] at *; omega
theorem clC_len (l : List (Cl × Value)) : (clC l).length = l.length * 128 := by
  induction l with
  | nil => rfl
  | cons x r ih =>
    have hb := bx_size (.bool x.1.d) x.1.f x.2
    simp only [clC, List.flatMap_cons, List.length_append, List.length_cons, Array.length_toList] at *
    omega
theorem OwD.sl {B : Nat} {w : World} {vl vc : Value} {ls : List Lp} {cs : List (Cl × Value)} (h : OwD B w vl vc ls cs) (h1 : ls.length ≤ 8) (h2 : cs.length ≤ 512) (h3 : ∀ x ∈ cs, x.1.l.length ≤ 3540) :
    SlD w.heap.size w vl vc ⟨ls, cs.map (·.1)⟩ := by
  refine ⟨?_, ?_, by show ls.length ≤ _; omega, by simp; omega, ?_⟩
  · obtain ⟨a0, cap, rfl, _, hc⟩ := own_cell h.lp (lpC_len ls)
    refine ⟨a0, cap, rfl, fun k x hx => ?_⟩
    have hk : k < ls.length := (List.getElem?_eq_some_iff.1 hx).1
    obtain ⟨g, rfl, _, hg, hcell⟩ := hc (by omega)
    refine ⟨g, 0, rfl, hg, fun j v hj => ?_⟩
    rw [Nat.zero_add]
    exact hcell _ _ (flat_get (fun x => (lpv x).toList) 5 (fun x => rfl) ls k j x v hx hj)
  · obtain ⟨a0, cap, rfl, _, hc⟩ := own_cell h.cl (clC_len cs)
    refine ⟨a0, cap, by simp, fun k x hx => ?_⟩
    simp only [List.getElem?_map, Option.map_eq_some_iff] at hx
    obtain ⟨⟨x', vx⟩, hx, rfl⟩ := hx
    have hk : k < cs.length := (List.getElem?_eq_some_iff.1 hx).1
    obtain ⟨g, rfl, _, hg, hcell⟩ := hc (by omega)
    refine ⟨g, 0, vx, rfl, hg, fun j v hj => ?_, (h.co _ (List.mem_of_getElem? hx)).sl (Nat.le_refl _)⟩
    rw [Nat.zero_add]
    exact hcell _ _ (flat_get (fun x : Cl × Value => (bx (.bool x.1.d) x.1.f x.2).toList) 128 (fun x => by rw [Array.length_toList, bx_size]) cs k j _ v hx hj)
  · intro c hc
    simp only [List.mem_map] at hc
    obtain ⟨x, hx, rfl⟩ := hc
    have := h3 x hx
    omega
theorem isDd_sl {B : Nat} {d : Dd} {v : Value} {w : World} (h : isDd B d v w) (h1 : d.ls.length ≤ 8) (h2 : d.cs.length ≤ 512) (h3 : ∀ c ∈ d.cs, c.l.length ≤ 3540) : ∃ al nl cl ac nc cc, v = .agg #[.slice al nl cl, .slice ac nc cc] ∧ SlD w.heap.size w (.slice al nl cl) (.slice ac nc cc) d := by
  obtain ⟨vl, vc, cs, rfl, hcs, ho⟩ := h
  obtain ⟨al, cl, rfl⟩ := own_slice ho.lp
  obtain ⟨ac, cc, rfl⟩ := own_slice ho.cl
  refine ⟨_, _, _, _, _, _, rfl, ?_⟩
  have hlen : cs.length = d.cs.length := by rw [← hcs, List.length_map]
  have := ho.sl h1 (by omega) (fun x hx => h3 x.1 (by rw [← hcs]; exact List.mem_map_of_mem hx))
  rw [hcs] at this
  exact this
theorem SlD.up {w w' : World} {v v' : Value} {d : Dd} (h : SlD w.heap.size w v v' d) (b : Below w.heap.size w w') : SlD w'.heap.size w' v v' d := (h.below b).mono b.size
theorem SlBy.up {w w' : World} {v : Value} {l : List Nat} (h : SlBy w.heap.size w v l) (b : Below w.heap.size w w') : SlBy w'.heap.size w' v l := (h.below b).mono b.size
theorem SlC.up {w w' : World} {v : Value} {l : List C3} (h : SlC w.heap.size w v l) (b : Below w.heap.size w w') : SlC w'.heap.size w' v l := (h.below b).mono b.size
theorem DecP.out' {b : List Nat} {w w' : World} {e : Ending} (h : DecP b w e w') {d : Dd} {a : Nat} {er : Int} (hd : decD b = (d, a, er)) : Below w.heap.size w w' ∧ ∃ v, e = .returned (.tuple #[v, .int .i64 (a : Int), .int .i64 er]) ∧ isDd w.heap.size d v w' := by
  unfold DecP at h
  rw [hd] at h
  exact h
theorem decS_eq : decD bS = ((decD bS).1, 0, 0) := by
  have := decS.1
  exact Prod.ext rfl this
theorem dec9_eq : decD [87, 65, 82, 49, 9] = ((decD [87, 65, 82, 49, 9]).1, 4, 112) := Prod.ext rfl dec9
theorem known_ok (w : World) : Calls Try.prog 11 #[] w fun e w' => e = .returned (.bool true) ∧ Below w.heap.size w w' := by
  go_enter Try.func11, Try.ntmps11
  go_wp2_with fail
  refine (small_ok _).mono ?_
  rintro e w1 ⟨vl, vc, vb, rfl, hd, hb, b1⟩
  obtain ⟨al, cl, hvl, _⟩ := hd.ls
  obtain ⟨ac, cc, hvc, _⟩ := hd.cs
  subst hvl hvc
  have HD := Lib.hid hd
  have HB := Lib.hid hb
  clear hd hb
  go_wp2_with fail
  have bA : Below w1.heap.size w1 (w1.alloc (.cells #[.slice al dS.ls.length cl, .slice ac dS.cs.length cc] 26)) := bAl (bRefl w1) _
  have TA : Blk (w1.alloc (.cells #[.slice al dS.ls.length cl, .slice ac dS.cs.length cc] 26)) w1.heap.size 26 #[.slice al dS.ls.length cl, .slice ac dS.cs.length cc] := Blk.new _ _ _
  have HDA := Lib.hid (HD.out.up bA)
  refine (encode_ok _ _ _ dS HDA.out).mono ?_
  rintro e w2 ⟨b2, vx, rfl, hown⟩
  rw [encS.1]
  rw [encS.2] at hown
  have HX := Lib.hid (SlBy.of_own hown (by decide))
  have T2 := Lib.hid (TA.below b2 TA.lt)
  have HD2 := Lib.hid (HDA.out.up b2)
  have HB2 := Lib.hid ((HB.out.up bA).up b2)
  have t2 := bThen (bThen b1 bA) b2
  have hl2 := T2.out.lt
  clear hown bA TA HDA HD HB b2
  go_wp2_with fail
  refine (decode_ok _ vb bS HB2.out).mono ?_
  rintro e w3 hr
  obtain ⟨b3, vd, rfl, hdd⟩ := hr.out' decS_eq
  obtain ⟨al', nl', cl', ac', nc', cc', rfl, hsd⟩ := isDd_sl hdd decS_len.1 decS_len.2.1 decS_len.2.2
  have HX3 := Lib.hid (HX.out.up b3)
  have HB3 := Lib.hid (HB2.out.up b3)
  have HD3 := Lib.hid (HD2.out.up b3)
  have T3 := Lib.hid (T2.out.below b3 T2.out.lt)
  have HE3 := Lib.hid hsd
  have t3 := bThen t2 b3
  have hl3 := T3.out.lt
  clear hr hdd hsd b3 HX HB2 HD2 T2
  go_wp2_with fail
  generalize hA : (w3.alloc (.cells #[.slice al' nl' cl', .slice ac' nc' cc'] 26)).alloc (.cells #[.int .u8 87, .int .u8 65, .int .u8 82, .int .u8 49, .int .u8 9] 5) = A
  have bA : Below w3.heap.size w3 A := by rw [← hA]; exact bAl (bAl (bRefl w3) _) _
  have E4 : Blk A w3.heap.size 26 #[.slice al' nl' cl', .slice ac' nc' cc'] := by rw [← hA]; exact (Blk.new _ _ _).alloc _
  have N4 : Blk A (w3.heap.size + 1) 5 #[.int .u8 87, .int .u8 65, .int .u8 82, .int .u8 49, .int .u8 9] := by rw [← hA]; exact Blk.new_at _ _ (by simp)
  have T4 := T3.out.below bA T3.out.lt
  refine (decode_ok _ _ [87, 65, 82, 49, 9] (SlBy.lit (l := [87, 65, 82, 49, 9]) N4 (by kernel_rfl) (by decide) (by decide))).mono ?_
  rintro e w4 hr
  obtain ⟨b4, vd, rfl, hdd⟩ := hr.out' dec9_eq
  obtain ⟨vl9, vc9, cs9, rfl, _, ho9⟩ := hdd
  obtain ⟨al9, cl9, rfl⟩ := own_slice ho9.lp
  obtain ⟨ac9, cc9, rfl⟩ := own_slice ho9.cl
  have HX4 := Lib.hid ((HX3.out.up bA).up b4)
  have HB4 := Lib.hid ((HB3.out.up bA).up b4)
  have HD4 := Lib.hid ((HD3.out.up bA).up b4)
  have HE4 := Lib.hid ((HE3.out.up bA).up b4)
  have T4 := Lib.hid (T4.below b4 T4.lt)
  have E4 := Lib.hid (E4.below b4 E4.lt)
  have t4 := bThen (bThen t3 bA) b4
  have h4 := T4.out.lt
  have h5 := E4.out.lt
  clear hr ho9 b4 bA hA N4 HX3 HB3 HD3 HE3 T3 t3 t2
  go_wp2_with fail
  generalize hA : w4.alloc (.cells #[.slice al9 (decD [87, 65, 82, 49, 9]).1.ls.length cl9, .slice ac9 cs9.length cc9] 26) = A
  have bA : Below w4.heap.size w4 A := by rw [← hA]; exact bAl (bRefl w4) _
  have HX5 := Lib.hid (HX4.out.up bA)
  have HB5 := Lib.hid (HB4.out.up bA)
  have HD5 := Lib.hid (HD4.out.up bA)
  have HE5 := Lib.hid (HE4.out.up bA)
  have T5 := T4.out.below bA T4.out.lt
  have E5 := E4.out.below bA E4.out.lt
  have t5 := bThen t4 bA
  have c0 := T5.cell 0
  have c1 := T5.cell 1
  have e0 := E5.cell 0
  have e1 := E5.cell 1
  simp only [List.getElem?_toArray, List.getElem?_cons_zero, List.getElem?_cons_succ] at c0 c1 e0 e1
  clear hA bA T5 E5 HX4 HB4 HD4 HE4 T4 E4 t4
  (with_reducible refine (samebytes_ok _ _ _ vb vx bS bS HB5.out HX5.out).mono ?_)
  rintro e w5 ⟨rfl, rfl⟩
  rw [show decide (bS = bS) = true from decide_eq_true rfl]
  go_wp2_with fail
  (with_reducible refine (samedeed_ok _ _ _ _ _ dS (decD bS).1 HD5.out HE5.out).mono ?_)
  rintro e w6 ⟨rfl, b6⟩
  rw [decS.2]
  have t6 := bThen t5 b6
  go_wp2
  go_ret
  exact ⟨rfl, t6⟩
end Go.Proofs.Ytfdjdpbiccclfaa
namespace Go.Proofs.Ytfdjdpbiccclfaa
open Go Go.RowKit Go.Wr
set_option maxHeartbeats 4000000
set_option maxRecDepth 100000
theorem SlBy.news {B : Nat} {w : World} {v : Value} {b : List Nat} (h : SlBy B w v b) {ad : Addr} {n c : Nat} (hv : v = .slice (some ad) n c) (hb : b ≠ []) : n = b.length ∧ ad.spot = none ∧ ∀ (j : Nat) (u : Value), (bcells b)[j]? = some u → w.cell? (ad.add j) = some u := by
  obtain ⟨a0, cap, rfl, h1, h2, hc⟩ := h
  simp only [Value.slice.injEq] at hv
  obtain ⟨rfl, rfl, rfl⟩ := hv
  obtain ⟨x, hx⟩ : ∃ x, b[0]? = some x := ⟨_, List.getElem?_eq_getElem (List.length_pos_iff.2 hb)⟩
  obtain ⟨bb, off, e, _⟩ := hc 0 x hx
  injection e with e
  subst e
  refine ⟨rfl, rfl, fun j u hj => ?_⟩
  simp only [bcells, List.getElem?_map, Option.map_eq_some_iff] at hj
  obtain ⟨y, hy, rfl⟩ := hj
  obtain ⟨bb', off', e, _, _, h4⟩ := hc j y hy
  simp only [Option.some.injEq, Addr.mk.injEq, and_true] at e
  obtain ⟨rfl, rfl⟩ := e
  rw [Addr.add_lit]
  exact h4
theorem copybytes_ok (w : World) (v : Value) (b : List Nat) (h : SlBy w.heap.size w v b) (hl : b.length ≤ 140737488351232) :
    Calls Try.prog 24 #[v] w fun e w' => Below w.heap.size w w' ∧ ∃ v', e = .returned v' ∧ w'.ownsRow w.heap.size 5 1 v' b.length (bcells b) ∧ (b ≠ [] → ∃ g c, v' = .slice (some ⟨g, 0, none⟩) b.length c) := by
  have H := Lib.hid h
  obtain ⟨a0, cap, hv, hc1, hc2, hcell⟩ := h
  subst hv
  cases a0 with
  | none =>
    have hb : b = [] := by
      cases b with
      | nil => rfl
      | cons x l => obtain ⟨_, _, e, _⟩ := hcell 0 x rfl; cases e
    subst hb
    clear hcell
    go_enter Try.func24, Try.ntmps24
    go_wp2
    go_ret
    exact ⟨bRefl w, .slice none 0 0, rfl, World.ownsRow_nil _ _ _ _, fun h => absurd rfl h⟩
  | some ad =>
    by_cases hb : b = []
    · subst hb
      clear hcell
      go_enter Try.func24, Try.ntmps24
      go_wp2
      go_ret
      exact ⟨bRefl w, .slice none 0 0, rfl, World.ownsRow_nil _ _ _ _, fun h => absurd rfl h⟩
    · obtain ⟨_, _, hnews⟩ := H.out.news rfl hb
      have HN := Lib.hid hnews
      obtain ⟨i, hi, hz0, hz1, hz2⟩ := info_parts infoU8
      have Hi := Lib.hid hi
      have hone : ∀ u ∈ bcells b, u.oneCell' = true := fun u hu => by
        obtain ⟨n, _, rfl⟩ := List.mem_map.1 hu
        rfl
      have HO := Lib.hid hone
      have hpos : 0 < b.length := List.length_pos_iff.2 hb
      clear hcell hnews hi hone
      go_enter Try.func24, Try.ntmps24
      go_wp2_with (at_builtin; refine wpList_append_own _ rfl _ _ _ rfl w.heap.size 5 i _ 1 1 Try.underlying28 Hi.out hz0 hz1 hz2 rfl (by omega) (.slice none 0 0) 0 [] rfl (World.ownsRow_nil _ _ _ _) ad b.length cap (bcells b) rfl (by rw [bcells_len, Nat.mul_one]) HN.out HO.out (by unfold maxLen; omega) (by omega) (by omega) ?_; intro v' w9 hown hgrow hnil)
      rw [Nat.zero_add, List.nil_append] at hown
      have hb9 := (bRefl w).grown hgrow (Nat.le_refl _) (fun k hk => by cases hk)
      obtain ⟨g, c', rfl, _⟩ := hown.form hpos
      have HW := Lib.hid hown
      clear hown hgrow hnil
      go_wp2
      go_ret
      exact ⟨hb9, .slice (some ⟨g, 0, none⟩) b.length c', rfl, HW.out, ⟨g, c', rfl⟩⟩
end Go.Proofs.Ytfdjdpbiccclfaa
namespace Go.Proofs.Ytfdjdpbiccclfaa
open Go Go.RowKit Go.Wr
set_option maxHeartbeats 1000000
section
variable {α β : Type}
def Reads (p : Ps α) (u : List Nat) (x : α) : Prop := ∀ pre post : List Nat, p (pre ++ (u ++ post)) pre.length = .ok (x, pre.length + u.length)
theorem Reads.pure (x : α) : Reads (pPure x) [] x := fun _ _ => rfl
theorem Reads.bind {p : Ps α} {q : α → Ps β} {u v : List Nat} {x : α} {y : β} (hp : Reads p u x) (hq : Reads (q x) v y) : Reads (pBind p q) (u ++ v) y := fun pre post => by
  refine pBind_ok.2 ⟨x, pre.length + u.length, ?_, ?_⟩
  · have := hp pre (v ++ post)
    rw [List.append_assoc]
    exact this
  · have := hq (pre ++ u) post
    simp only [List.append_assoc, List.length_append] at this ⊢
    rw [this, Nat.add_assoc]
theorem Reads.chk {p : Ps α} {u : List Nat} {x : α} (hp : Reads p u x) {c : α → Bool} (e : Int) (hc : c x = true) : Reads (pChk c e p) u x := fun pre post => pChk_ok.2 ⟨hp pre post, hc⟩
theorem Reads.map {p : Ps α} {u : List Nat} {x : α} (f : α → β) (hp : Reads p u x) : Reads (pMap f p) u (f x) := fun pre post => pMap_ok.2 ⟨x, hp pre post, rfl⟩
theorem Reads.byte (n : Nat) : Reads pByte [n] n := fun pre post => pByte_ok.2 ⟨by simp, rfl⟩
theorem Reads.eq {p : Ps α} {u v : List Nat} {x : α} (h : Reads p u x) (e : u = v) : Reads p v x := e ▸ h
end
theorem reads_grp (y : Nat) : ∀ (f k acc x : Nat), x < 128 ^ f → (0 < k → 0 < x) → 0 < f → Reads (pGrp y f k acc) (leb f x) (acc + x * 2 ^ (7 * k)) := by
  intro f
  induction f with
  | zero => intro k acc x _ _ h; omega
  | succ f ih =>
    intro k acc x hx hk _
    unfold leb pGrp
    by_cases h1 : x < 128
    · rw [if_pos h1]
      have e : Reads (pBind pByte fun g => if g < 128 then (if g = 0 ∧ 0 < k then pFail y 110 else pPure (acc + g % 128 * 2 ^ (7 * k))) else pGrp y f (k + 1) (acc + g % 128 * 2 ^ (7 * k))) ([x] ++ []) (acc + x * 2 ^ (7 * k)) := by
        refine (Reads.byte x).bind ?_
        rw [if_pos h1, if_neg (by omega), Nat.mod_eq_of_lt h1]
        exact Reads.pure _
      exact e
    · rw [if_neg h1]
      have hf : 0 < f := by
        rcases Nat.eq_zero_or_pos f with rfl | h
        · simp at hx; omega
        · exact h
      have hx2 : x / 128 < 128 ^ f := by
        rw [Nat.pow_succ] at hx
        exact Nat.div_lt_of_lt_mul (by omega)
      have e := ih (k + 1) (acc + x % 128 * 2 ^ (7 * k)) (x / 128) hx2 (fun _ => by omega) hf
      have ev : acc + x % 128 * 2 ^ (7 * k) + x / 128 * 2 ^ (7 * (k + 1)) = acc + x * 2 ^ (7 * k) := by
        have h2 : (2 : Nat) ^ (7 * (k + 1)) = 128 * 2 ^ (7 * k) := by rw [show 7 * (k + 1) = 7 + 7 * k by omega, Nat.pow_add]
        rw [h2, Nat.add_assoc, ← Nat.mul_assoc, ← Nat.add_mul]
        congr 2
        omega
      rw [ev] at e
      refine Reads.eq (u := [x % 128 + 128] ++ leb f (x / 128)) ((Reads.byte _).bind ?_) rfl
      rw [if_neg (by omega), show (x % 128 + 128) % 128 = x % 128 by omega]
      exact e
theorem Reads.num {x : Nat} (h : x < 9223372036854775808) : Reads pNum (leb 9 x) x := fun pre post => by
  have := reads_grp pre.length 9 0 0 x (by simpa using h) (by omega) (by omega) pre post
  simp only [Nat.zero_add, Nat.mul_zero, Nat.pow_zero, Nat.mul_one] at this
  exact this
theorem Reads.most {x high : Nat} (e : Int) (h : x ≤ high) (hh : high < 9223372036854775808) : Reads (pMost high e) (leb 9 x) x := (Reads.num (by omega)).chk e (by simpa using h)
theorem unz_sg (x : Int) : unz (sg x) = x := by
  unfold unz sg
  split <;> split <;> omega
theorem sg_unz (x : Nat) : sg (unz x) = x := by
  unfold unz sg
  split <;> split <;> omega
theorem Reads.sig {x : Int} (e : Int) (h : inB x (-1099511627776) 1099511627776 = true) : Reads (pSig e) (leb 9 (sg x)) x := by
  have hs : sg x < 9223372036854775808 := by
    rw [inB_iff] at h
    unfold sg
    split <;> omega
  have h2 := (Reads.num hs).map unz
  rw [unz_sg] at h2
  exact h2.chk e h
theorem Reads.bnd {x high : Nat} (e : Int) (h : x ≤ high) : Reads (pBnd high e) [x] x := (Reads.byte x).chk e (by simpa using h)
theorem Reads.tag {t : Tg} {slot : Bool} (h : goodTag t (if slot = true then 255 else 0) = true) (hs : slot = true → t ≠ tz) : Reads (pTag slot) (tagB t slot) t := by
  obtain ⟨k, tt, m⟩ := t
  rw [goodTag_iff] at h
  obtain ⟨⟨k0, k1⟩, ⟨t0, t1⟩, m0, m1⟩ := h
  simp only at k0 k1 t0 t1 m0 m1
  obtain ⟨k, rfl⟩ := Int.eq_ofNat_of_zero_le k0
  obtain ⟨tt, rfl⟩ := Int.eq_ofNat_of_zero_le t0
  obtain ⟨m, rfl⟩ := Int.eq_ofNat_of_zero_le m0
  unfold tagB pTag
  simp only [Int.toNat_natCast]
  refine Reads.eq (u := [k] ++ (if (k : Int) = 5 ∨ (k : Int) = 6 then [tt] else if slot = true ∧ (k : Int) = 0 then [m] else [])) ((Reads.bnd 90 (by omega)).bind ?_) rfl
  by_cases hr : k = 5 ∨ k = 6
  · have hr' : (k : Int) = 5 ∨ (k : Int) = 6 := by omega
    rw [if_pos hr'] at t1
    rw [if_neg (by omega)] at m1
    rw [if_pos hr, if_pos hr']
    have hm : m = 0 := by omega
    subst hm
    exact Reads.eq (u := [tt] ++ []) ((Reads.bnd 90 (by omega)).bind (Reads.pure _)) rfl
  · have hr' : ¬ ((k : Int) = 5 ∨ (k : Int) = 6) := by omega
    rw [if_neg hr'] at t1
    have ht : tt = 0 := by omega
    subst ht
    rw [if_neg hr, if_neg hr']
    by_cases hk : k = 0
    · subst hk
      cases slot with
      | true =>
        rw [if_pos ⟨rfl, rfl⟩, if_pos ⟨rfl, rfl⟩]
        have hm0 : m ≠ 0 := by
          rintro rfl
          exact hs rfl rfl
        exact Reads.eq (u := [m] ++ []) (((Reads.byte m).chk 90 (by simpa using hm0)).bind (Reads.pure _)) rfl
      | false =>
        simp only [Bool.false_eq_true, false_and, if_false] at m1 ⊢
        have hm : m = 0 := by simp at m1; omega
        subst hm
        exact Reads.pure _
    · have hk' : ¬ (k : Int) = 0 := by omega
      rw [if_neg hk'] at m1
      have hm : m = 0 := by omega
      subst hm
      rw [if_neg (by omega), if_neg (by omega)]
      exact Reads.pure _
theorem reads_regs (F : Nat → Tg) : ∀ (n i : Nat) (f : Nat → Tg), (∀ k, i ≤ k → k < i + n → goodTag (F k) 0 = true) → ∃ g, Reads (pRegs n i f) ((List.range' i n).flatMap fun k => tagB (F k) false) g ∧ ∀ k, g k = if i ≤ k ∧ k < i + n then F k else f k := by
  intro n
  induction n with
  | zero => intro i f _; exact ⟨f, Reads.pure f, fun k => by rw [if_neg (by omega)]⟩
  | succ n ih =>
    intro i f h
    obtain ⟨g, h1, h2⟩ := ih (i + 1) (putT f i (F i)) (fun k a b => h k (by omega) (by omega))
    refine ⟨g, ?_, fun k => ?_⟩
    · rw [List.range'_succ, List.flatMap_cons]
      exact (Reads.tag (slot := false) (h i (by omega) (by omega)) (fun e => by cases e)).bind h1
    · rw [h2 k]
      by_cases hk : k = i
      · subst hk
        rw [if_neg (by omega), if_pos (by omega)]
        simp [putT]
      · by_cases h3 : i + 1 ≤ k ∧ k < i + 1 + n
        · rw [if_pos h3, if_pos (by omega)]
        · rw [if_neg h3, if_neg (by omega)]
          simp [putT, hk]
def SB (F : Nat → Tg) (j : Nat) : List Nat := (List.range' j (32 - j)).flatMap (slotB F)
def CN (F : Nat → Tg) (j : Nat) : Nat := ((List.range' j (32 - j)).filter fun i => decide (F (10 + i) ≠ tz)).length
theorem SB_step (F : Nat → Tg) {j : Nat} (h : j < 32) : SB F j = slotB F j ++ SB F (j + 1) := by
  unfold SB
  rw [show 32 - j = (32 - (j + 1)) + 1 by omega, List.range'_succ, List.flatMap_cons]
theorem CN_step (F : Nat → Tg) {j : Nat} (h : j < 32) : CN F j = (if F (10 + j) = tz then 0 else 1) + CN F (j + 1) := by
  unfold CN
  rw [show 32 - j = (32 - (j + 1)) + 1 by omega, List.range'_succ]
  by_cases hz : F (10 + j) = tz
  · rw [if_pos hz, List.filter_cons_of_neg (by simpa using hz)]; omega
  · rw [if_neg hz, List.filter_cons_of_pos (by simpa using hz)]; simp; omega
theorem reads_slots (F : Nat → Tg) (h : ∀ i, i < 32 → goodTag (F (10 + i)) 255 = true) : ∀ (n j : Nat) (last : Int) (f : Nat → Tg), n + j = 32 → last < j → ∃ g, Reads (pSlots (CN F j) last f) (SB F j) g ∧ ∀ k, g k = if 10 + j ≤ k ∧ k < 42 ∧ F k ≠ tz then F k else f k := by
  intro n
  induction n with
  | zero =>
    intro j last f hj _
    obtain rfl : j = 32 := by omega
    exact ⟨f, Reads.pure f, fun k => by rw [if_neg (by omega)]⟩
  | succ n ih =>
    intro j last f hj hl
    rw [SB_step F (by omega), CN_step F (by omega)]
    by_cases hz : F (10 + j) = tz
    · obtain ⟨g, h1, h2⟩ := ih (j + 1) last f (by omega) (by omega)
      refine ⟨g, ?_, fun k => ?_⟩
      · rw [if_pos hz, Nat.zero_add]
        unfold slotB
        rw [if_pos hz]
        exact h1
      · rw [h2 k]
        by_cases hk : 10 + j ≤ k ∧ k < 42 ∧ F k ≠ tz
        · have : k ≠ 10 + j := by rintro rfl; exact hk.2.2 hz
          rw [if_pos hk, if_pos ⟨by omega, hk.2⟩]
        · rw [if_neg hk, if_neg (fun h => hk ⟨by omega, h.2⟩)]
    · obtain ⟨g, h1, h2⟩ := ih (j + 1) j (putT f (10 + j) (F (10 + j))) (by omega) (by omega)
      refine ⟨g, ?_, fun k => ?_⟩
      · rw [if_neg hz, Nat.add_comm]
        unfold slotB
        rw [if_neg hz]
        refine Reads.eq (u := [j] ++ (tagB (F (10 + j)) true ++ SB F (j + 1))) ?_ (by simp)
        refine ((Reads.bnd 90 (by omega)).chk 111 (by simpa using hl)).bind ?_
        exact (Reads.tag (slot := true) (h j (by omega)) (fun _ => hz)).bind h1
      · rw [h2 k]
        by_cases hk : k = 10 + j
        · subst hk
          rw [if_neg (by omega), if_pos ⟨by omega, by omega, hz⟩]
          simp [putT]
        · by_cases h3 : 10 + (j + 1) ≤ k ∧ k < 42 ∧ F k ≠ tz
          · rw [if_pos h3, if_pos ⟨by omega, h3.2⟩]
          · rw [if_neg h3, if_neg (fun h => h3 ⟨by omega, h.2⟩)]
            simp [putT, hk]
theorem rises_cut (y : C3) (i j c : Int) : rises y ⟨i, j, c⟩ = rises y ⟨i, j, 0⟩ := rfl
theorem Reads.con {x : C3} {prev : Option C3} (h : goodCon x = true) (hp : ∀ y, prev = some y → rises y x = true) : Reads (pCon prev) (conB x) x := by
  obtain ⟨i, j, c⟩ := x
  have hg := goodCon_iff.1 h
  simp only at hg
  obtain ⟨⟨i0, i1⟩, ⟨j0, j1⟩, hne, hc⟩ := hg
  obtain ⟨i, rfl⟩ := Int.eq_ofNat_of_zero_le i0
  obtain ⟨j, rfl⟩ := Int.eq_ofNat_of_zero_le j0
  unfold conB pCon pPair
  simp only [Int.toNat_natCast]
  have h1 : Reads (pBind (pBnd 59 91) fun i => pMap (fun j => (i, j)) (pChk (fun j => decide (j ≠ i)) 91 (pBnd 59 91))) ([i] ++ [j]) (i, j) :=
    (Reads.bnd 91 (by omega)).bind (((Reads.bnd 91 (by omega)).chk 91 (by simp only [decide_eq_true_eq]; omega)).map _)
  have h2 := h1.chk (c := ahd prev) 111 (by
    cases prev with
    | none => rfl
    | some y => have := hp y rfl; rw [rises_cut] at this; exact this)
  have h3 : Reads (pMap (fun c => (⟨(i : Int), (j : Int), c⟩ : C3)) (pSig 91)) (leb 9 (sg c)) ⟨i, j, c⟩ := (Reads.sig 91 (inB_iff.2 hc)).map _
  exact Reads.bind (q := fun x : Nat × Nat => pMap (fun c => (⟨(x.1 : Int), (x.2 : Int), c⟩ : C3)) (pSig 91)) h2 h3
theorem reads_cons : ∀ (m l : List C3), Rise l.getLast? m → Reads (pCons m.length l) (m.flatMap conB) (l ++ m) := by
  intro m
  induction m with
  | nil => intro l _; rw [List.append_nil]; exact Reads.pure l
  | cons x m ih =>
    intro l h
    obtain ⟨h1, h2, h3⟩ := h
    have h4 := ih (l ++ [x]) (by rw [List.getLast?_append]; exact h3)
    rw [List.append_assoc] at h4
    exact (Reads.con h1 h2).bind h4
theorem Reads.claim {d : Bool} {f : Nat → Tg} {l : List C3} (h : ClOk d f l) : ∃ g, Reads pClaim (claimB d f l) ⟨d, g, l⟩ ∧ ∀ k, k < 42 → g k = f k := by
  cases d with
  | true =>
    obtain ⟨hz, rfl⟩ := h.dead rfl
    refine ⟨f0, ?_, fun k hk => (hz k hk).symm⟩
    exact Reads.eq (u := [0] ++ []) ((Reads.bnd 110 (by omega)).bind (Reads.pure _)) rfl
  | false =>
    obtain ⟨g, r1, g1⟩ := reads_regs f 10 0 f0 (fun k _ hk => h.regs k (by omega))
    obtain ⟨g', r2, g2⟩ := reads_slots f h.slots 32 0 (-1) g (by omega) (by omega)
    have hl := h.len
    have r3 := reads_cons l [] h.cons
    rw [List.nil_append] at r3
    refine ⟨g', ?_, fun k hk => ?_⟩
    · have hc : CN f 0 ≤ 32 := by
        have := List.length_filter_le (fun i => decide (f (10 + i) ≠ tz)) (List.range' 0 (32 - 0))
        simpa [CN] using this
      have e : claimB false f l = [1] ++ ((List.range' 0 10).flatMap (fun k => tagB (f k) false) ++ (leb 9 (CN f 0) ++ (SB f 0 ++ (leb 9 l.length ++ l.flatMap conB)))) := by
        unfold claimB regB toldN slotsB consB CN SB
        rw [List.range_eq_range', List.range_eq_range', List.take_length]
        rfl
      rw [e]
      refine (Reads.bnd 110 (by omega)).bind ?_
      rw [if_neg (by omega)]
      refine r1.bind ?_
      refine (Reads.most 112 hc (by omega)).bind ?_
      refine r2.bind ?_
      refine (Reads.most 112 hl (by omega)).bind ?_
      exact r3.map _
    · rw [g2 k]
      by_cases h1 : k < 10
      · rw [if_neg (by omega), g1 k, if_pos (by omega)]
      · by_cases h2 : f k = tz
        · rw [if_neg (fun h => h.2.2 h2), g1 k, if_neg (by omega), h2]
          rfl
        · rw [if_pos ⟨by omega, hk, h2⟩]
theorem Reads.loop {x : Lp} (h : goodLoop x = true) : Reads pLoop (loopB x) x := by
  obtain ⟨h1, a, b, k, d⟩ := x
  obtain ⟨⟨p0, p1⟩, ⟨a0, a1⟩, ⟨b0, b1⟩, hk, d0, d1⟩ := goodLoop_iff.1 h
  simp only at p0 p1 a0 a1 b0 b1 hk d0 d1
  obtain ⟨h1, rfl⟩ := Int.eq_ofNat_of_zero_le p0
  obtain ⟨a, rfl⟩ := Int.eq_ofNat_of_zero_le a0
  obtain ⟨b, rfl⟩ := Int.eq_ofNat_of_zero_le b0
  obtain ⟨d, rfl⟩ := Int.eq_ofNat_of_zero_le d0
  unfold loopB pLoop
  simp only [Int.toNat_natCast]
  refine (Reads.most 113 (by omega) (by omega)).bind ?_
  refine (Reads.most 113 (by omega) (by omega)).bind ?_
  refine (Reads.most 113 (by omega) (by omega)).bind ?_
  refine (Reads.sig 113 (inB_iff.2 hk)).bind ?_
  exact (Reads.most 113 (by omega) (by omega)).map _
theorem reads_loops : ∀ (m l : List Lp), (∀ x ∈ m, goodLoop x = true) → Reads (pLoops m.length l) (loopsB m) (l ++ m) := by
  intro m
  induction m with
  | nil => intro l _; rw [List.append_nil]; exact Reads.pure l
  | cons x m ih =>
    intro l h
    have h4 := ih (l ++ [x]) (fun y hy => h y (by simp [hy]))
    rw [List.append_assoc] at h4
    exact (Reads.loop (h x (by simp))).bind h4
theorem sameC_iff {x y : Cl} : sameC x y = true ↔ x.d = y.d ∧ (∀ k, k < 42 → x.f k = y.f k) ∧ x.l = y.l := by
  unfold sameC
  simp only [Bool.and_eq_true, beq_iff_eq, eqTags_iff, decide_eq_true_eq]
  constructor
  · rintro ⟨h1, h2, h3, h4⟩
    refine ⟨h1, fun k hk => ?_, h4⟩
    by_cases h : k < 10
    · have := h2 k h; rwa [Nat.zero_add] at this
    · have := h3 (k - 10) (by omega); rwa [show 10 + (k - 10) = k by omega] at this
  · rintro ⟨h1, h2, h3⟩
    exact ⟨h1, fun i hi => h2 _ (by omega), fun i hi => h2 _ (by omega), h3⟩
theorem reads_claims : ∀ (m l : List Cl), (∀ x ∈ m, ClOk x.d x.f x.l) → ∃ m', Reads (pClaims m.length l) (claimsB m) (l ++ m') ∧ sameCs m m' = true := by
  intro m
  induction m with
  | nil => intro l _; exact ⟨[], by rw [List.append_nil]; exact Reads.pure l, rfl⟩
  | cons x m ih =>
    intro l h
    obtain ⟨g, r1, hg⟩ := Reads.claim (h x (by simp))
    obtain ⟨m', r2, hs⟩ := ih (l ++ [⟨x.d, g, x.l⟩]) (fun y hy => h y (by simp [hy]))
    rw [List.append_assoc] at r2
    refine ⟨⟨x.d, g, x.l⟩ :: m', r1.bind r2, ?_⟩
    simp only [sameCs, Bool.and_eq_true]
    exact ⟨sameC_iff.2 ⟨rfl, fun k hk => (hg k hk).symm, rfl⟩, hs⟩
theorem reads_body {d : Dd} (h : plainD d = 0) : ∃ d', Reads pBody (bodyB d) d' ∧ sameD d d' = true := by
  obtain ⟨n8, n512, gl, gc⟩ := plainD_all h
  obtain ⟨cs', r, hs⟩ := reads_claims d.cs [] (fun x hx => goodClaim_iff.1 (gc x hx))
  rw [List.nil_append] at r
  have r1 := reads_loops d.ls [] gl
  rw [List.nil_append] at r1
  refine ⟨⟨d.ls, cs'⟩, ?_, ?_⟩
  · unfold bodyB pBody
    refine (Reads.most 112 n8 (by omega)).bind ?_
    refine r1.bind ?_
    refine (Reads.most 112 n512 (by omega)).bind ?_
    exact r.map _
  · unfold sameD
    simp [hs]
theorem dec_enc {d : Dd} (h : encE d = 0) : ∃ d', decD (encD d) = (d', 0, 0) ∧ sameD d d' = true := by
  have hp : plainD d = 0 := by
    unfold encE at h
    by_cases hp : plainD d = 0
    · exact hp
    · rw [if_neg hp] at h; exact absurd h hp
  have hl : (deedB d).length ≤ 4194304 := by
    unfold encE at h
    rw [if_pos hp] at h
    by_cases hl : 4194304 < (deedB d).length
    · rw [if_pos hl] at h; cases h
    · omega
  have he : encD d = deedB d := by unfold encD; rw [if_pos h]
  obtain ⟨d', r, hs⟩ := reads_body hp
  refine ⟨d', ?_, hs⟩
  rw [he]
  have hb := r [87, 65, 82, 49] []
  rw [List.append_nil] at hb
  have hb' : pBody (deedB d) 4 = .ok (d', 4 + (bodyB d).length) := hb
  have hlen : (deedB d).length = 4 + (bodyB d).length := by unfold deedB; rw [List.length_append]; rfl
  unfold decD pDeed
  rw [if_neg (by omega), if_neg (by omega), if_neg (by unfold deedB; simp), hb']
  simp only
  rw [if_neg (by omega)]
end Go.Proofs.Ytfdjdpbiccclfaa
namespace Go.Proofs.Ytfdjdpbiccclfaa
open Go Go.RowKit Go.Wr
set_option maxHeartbeats 1000000
def seg (b : List Nat) (a c : Nat) : List Nat := (b.drop a).take (c - a)
theorem seg_app {b : List Nat} {a m c : Nat} (h1 : a ≤ m) (h2 : m ≤ c) : seg b a c = seg b a m ++ seg b m c := by
  unfold seg
  rw [show c - a = (m - a) + (c - m) by omega, List.take_add, List.drop_drop, show a + (m - a) = m by omega]
theorem seg_self (b : List Nat) (a : Nat) : seg b a a = [] := by unfold seg; rw [Nat.sub_self]; rfl
theorem seg_one {b : List Nat} {a x : Nat} (h : b[a]? = some x) : seg b a (a + 1) = [x] := by
  obtain ⟨ha, rfl⟩ := List.getElem?_eq_some_iff.1 h
  unfold seg
  rw [show a + 1 - a = 1 by omega, List.drop_eq_getElem_cons ha]
  rfl
theorem pure_ok {α : Type} {x y : α} {b : List Nat} {a a' : Nat} (h : pPure x b a = .ok (y, a')) : y = x ∧ a' = a := by
  simp only [pPure, Except.ok.injEq, Prod.mk.injEq] at h
  exact ⟨h.1.symm, h.2.symm⟩
theorem byte_seg {b : List Nat} {a x a' : Nat} (h : pByte b a = .ok (x, a')) : seg b a a' = [x] ∧ a' = a + 1 := by
  obtain ⟨h1, rfl⟩ := pByte_ok.1 h
  exact ⟨seg_one h1, rfl⟩
section
variable {b : List Nat} (h256 : ∀ x ∈ b, x < 256)
include h256
theorem byte_lt {a x a' : Nat} (h : pByte b a = .ok (x, a')) : x < 256 := h256 x (List.mem_of_getElem? (pByte_ok.1 h).1)
theorem grp_seg {y : Nat} : ∀ (f k acc m x a' : Nat), pGrp y f k acc b m = .ok (x, a') → ∃ z, x = acc + z * 2 ^ (7 * k) ∧ seg b m a' = leb f z ∧ (0 < k → 0 < z) ∧ m ≤ a' := by
  intro f
  induction f with
  | zero => intro k acc m x a' h; cases h
  | succ f ih =>
    intro k acc m x a' h
    obtain ⟨g, n, h1, h2⟩ := pBind_ok.1 h
    obtain ⟨s1, rfl⟩ := byte_seg h1
    have hg := byte_lt h256 h1
    by_cases h3 : g < 128
    · rw [if_pos h3] at h2
      by_cases h4 : g = 0 ∧ 0 < k
      · rw [if_pos h4] at h2; cases h2
      · rw [if_neg h4] at h2
        obtain ⟨rfl, rfl⟩ := pure_ok h2
        refine ⟨g, by rw [Nat.mod_eq_of_lt h3], ?_, fun hk => by omega, by omega⟩
        rw [s1]
        unfold leb
        rw [if_pos h3]
    · rw [if_neg h3] at h2
      obtain ⟨z, e1, e2, e3, e4⟩ := ih (k + 1) _ (m + 1) x a' h2
      have hz := e3 (by omega)
      refine ⟨g % 128 + 128 * z, ?_, ?_, fun _ => by omega, by omega⟩
      · have h2 : (2 : Nat) ^ (7 * (k + 1)) = 128 * 2 ^ (7 * k) := by rw [show 7 * (k + 1) = 7 + 7 * k by omega, Nat.pow_add]
        rw [e1, h2, Nat.add_assoc, ← Nat.mul_assoc, ← Nat.add_mul, Nat.mul_comm z 128]
      · rw [seg_app (show m ≤ m + 1 by omega) e4, s1, e2]
        conv => rhs; unfold leb
        rw [if_neg (by omega), show (g % 128 + 128 * z) % 128 + 128 = g by omega, show (g % 128 + 128 * z) / 128 = z by omega]
        rfl
theorem num_seg {a x a' : Nat} (h : pNum b a = .ok (x, a')) : seg b a a' = leb 9 x ∧ a ≤ a' := by
  obtain ⟨z, e1, e2, _, e4⟩ := grp_seg h256 9 0 0 a x a' h
  simp only [Nat.zero_add, Nat.mul_zero, Nat.pow_zero, Nat.mul_one] at e1
  subst e1
  exact ⟨e2, e4⟩
theorem most_seg {a x a' high : Nat} {e : Int} (h : pMost high e b a = .ok (x, a')) : seg b a a' = leb 9 x ∧ a ≤ a' ∧ x ≤ high := by
  obtain ⟨h1, h2⟩ := pChk_ok.1 h
  obtain ⟨e1, e2⟩ := num_seg h256 h1
  exact ⟨e1, e2, by simpa using h2⟩
theorem sig_seg {a a' : Nat} {x e : Int} (h : pSig e b a = .ok (x, a')) : seg b a a' = leb 9 (sg x) ∧ a ≤ a' ∧ (-1099511627776 ≤ x ∧ x ≤ 1099511627776) := by
  obtain ⟨h1, h2⟩ := pChk_ok.1 h
  obtain ⟨n, h3, rfl⟩ := pMap_ok.1 h1
  obtain ⟨e1, e2⟩ := num_seg h256 h3
  rw [sg_unz]
  exact ⟨e1, e2, inB_iff.1 h2⟩
omit h256 in
theorem bnd_seg {a x a' high : Nat} {e : Int} (h : pBnd high e b a = .ok (x, a')) : seg b a a' = [x] ∧ a' = a + 1 ∧ x ≤ high := by
  obtain ⟨h1, h2⟩ := pChk_ok.1 h
  obtain ⟨e1, e2⟩ := byte_seg h1
  exact ⟨e1, e2, by simpa using h2⟩
theorem tag_seg {a a' : Nat} {t : Tg} {slot : Bool} (h : pTag slot b a = .ok (t, a')) : seg b a a' = tagB t slot ∧ a ≤ a' ∧ goodTag t (if slot = true then 255 else 0) = true ∧ (slot = true → t ≠ tz) := by
  obtain ⟨k, m, h1, h2⟩ := pBind_ok.1 h
  obtain ⟨s1, rfl, hk⟩ := bnd_seg h1
  by_cases hr : k = 5 ∨ k = 6
  · rw [if_pos hr] at h2
    obtain ⟨x, n, h3, h4⟩ := pBind_ok.1 h2
    obtain ⟨s2, rfl, hx⟩ := bnd_seg h3
    obtain ⟨rfl, rfl⟩ := pure_ok h4
    have hr' : (k : Int) = 5 ∨ (k : Int) = 6 := by omega
    refine ⟨?_, by omega, ?_, fun _ e => ?_⟩
    · rw [seg_app (show a ≤ a + 1 by omega) (show a + 1 ≤ a + 1 + 1 by omega), s1, s2]
      unfold tagB
      simp only
      rw [if_pos hr']
      rfl
    · rw [goodTag_iff]
      refine ⟨⟨by simp only; omega, by simp only; omega⟩, ⟨by simp only; omega, ?_⟩, by simp, ?_⟩
      · simp only; rw [if_pos hr']; omega
      · simp only; split <;> (try split) <;> omega
    · have : (k : Int) = 0 := congrArg Tg.k e
      omega
  · rw [if_neg hr] at h2
    have hr' : ¬ ((k : Int) = 5 ∨ (k : Int) = 6) := by omega
    by_cases hs : slot = true ∧ k = 0
    · obtain ⟨rfl, rfl⟩ := hs
      rw [if_pos ⟨rfl, rfl⟩] at h2
      obtain ⟨x, n, h3, h4⟩ := pBind_ok.1 h2
      obtain ⟨h5, h6⟩ := pChk_ok.1 h3
      obtain ⟨s2, rfl⟩ := byte_seg h5
      have hx := byte_lt h256 h5
      obtain ⟨rfl, rfl⟩ := pure_ok h4
      simp only [decide_eq_true_eq] at h6
      refine ⟨?_, by omega, ?_, fun _ e => ?_⟩
      · rw [seg_app (show a ≤ a + 1 by omega) (show a + 1 ≤ a + 1 + 1 by omega), s1, s2]
        rfl
      · rw [goodTag_iff]
        refine ⟨⟨by simp, by simp⟩, ⟨by simp, by simp⟩, by simp only; omega, ?_⟩
        simp only [if_true]
        simp
        omega
      · have : (x : Int) = 0 := congrArg Tg.m e
        omega
    · rw [if_neg hs] at h2
      obtain ⟨rfl, rfl⟩ := pure_ok h2
      refine ⟨?_, by omega, ?_, fun h e => ?_⟩
      · rw [s1]
        unfold tagB
        simp only
        rw [if_neg hr', if_neg (fun h => hs ⟨h.1, by omega⟩)]
        rfl
      · rw [goodTag_iff]
        refine ⟨⟨by simp only; omega, by simp only; omega⟩, ⟨by simp, ?_⟩, by simp, ?_⟩
        · simp only; rw [if_neg hr']; omega
        · simp only; split <;> (try split) <;> omega
      · have : (k : Int) = 0 := congrArg Tg.k e
        exact hs ⟨h, by omega⟩
theorem regs_seg : ∀ (n i : Nat) (f g : Nat → Tg) (a a' : Nat), pRegs n i f b a = .ok (g, a') →
    seg b a a' = (List.range' i n).flatMap (fun k => tagB (g k) false) ∧ a ≤ a' ∧ (∀ k, i ≤ k → k < i + n → goodTag (g k) 0 = true) ∧ ∀ k, ¬ (i ≤ k ∧ k < i + n) → g k = f k := by
  intro n
  induction n with
  | zero =>
    intro i f g a a' h
    obtain ⟨rfl, rfl⟩ := pure_ok h
    exact ⟨seg_self _ _, Nat.le_refl _, fun k _ _ => by omega, fun _ _ => rfl⟩
  | succ n ih =>
    intro i f g a a' h
    obtain ⟨t, m, h1, h2⟩ := pBind_ok.1 h
    obtain ⟨s1, l1, g1, _⟩ := tag_seg h256 h1
    obtain ⟨s2, l2, g2, g3⟩ := ih (i + 1) _ g m a' h2
    have hgi : g i = t := by rw [g3 i (by omega)]; simp [putT]
    refine ⟨?_, by omega, fun k k1 k2 => ?_, fun k hk => ?_⟩
    · rw [seg_app l1 l2, s1, s2, List.range'_succ, List.flatMap_cons, hgi]
    · by_cases hk : k = i
      · subst hk
        rw [hgi]
        exact g1
      · exact g2 k (by omega) (by omega)
    · rw [g3 k (by omega)]
      have : k ≠ i := by omega
      simp [putT, this]
omit h256 in
theorem SB_skip (F : Nat → Tg) : ∀ (n j : Nat), j + n ≤ 32 → (∀ i, j ≤ i → i < j + n → F (10 + i) = tz) → SB F j = SB F (j + n) ∧ CN F j = CN F (j + n) := by
  intro n
  induction n with
  | zero => intro j _ _; exact ⟨rfl, rfl⟩
  | succ n ih =>
    intro j h1 h2
    have hz := h2 j (by omega) (by omega)
    obtain ⟨e1, e2⟩ := ih (j + 1) (by omega) (fun i a c => h2 i (by omega) (by omega))
    rw [SB_step F (by omega), CN_step F (by omega), if_pos hz, e1, e2, show j + 1 + n = j + (n + 1) by omega]
    unfold slotB
    rw [if_pos hz]
    exact ⟨rfl, Nat.zero_add _⟩
theorem slots_seg : ∀ (n j : Nat) (f g : Nat → Tg) (a a' : Nat), j ≤ 32 → pSlots n ((j : Int) - 1) f b a = .ok (g, a') → (∀ i, j ≤ i → i < 32 → f (10 + i) = tz) →
    seg b a a' = SB g j ∧ n = CN g j ∧ a ≤ a' ∧ (∀ i, j ≤ i → i < 32 → goodTag (g (10 + i)) 255 = true) ∧ ∀ k, ¬ (10 + j ≤ k ∧ k < 42) → g k = f k := by
  intro n
  induction n with
  | zero =>
    intro j f g a a' hj h hz
    obtain ⟨rfl, rfl⟩ := pure_ok h
    obtain ⟨e1, e2⟩ := SB_skip g (32 - j) j (by omega) (fun i a c => hz i a (by omega))
    rw [show j + (32 - j) = 32 by omega] at e1 e2
    refine ⟨by rw [seg_self, e1]; rfl, by rw [e2]; rfl, Nat.le_refl _, fun i a c => ?_, fun _ _ => rfl⟩
    rw [hz i a c]
    rfl
  | succ n ih =>
    intro j f g a a' hj h hz
    obtain ⟨i, m, h1, h2⟩ := pBind_ok.1 h
    obtain ⟨h3, h4⟩ := pChk_ok.1 h1
    obtain ⟨s1, rfl, hi⟩ := bnd_seg h3
    simp only [decide_eq_true_eq] at h4
    obtain ⟨t, m2, h5, h6⟩ := pBind_ok.1 h2
    obtain ⟨s2, l2, g2, ht⟩ := tag_seg h256 h5
    have hcast : (i : Int) = ((i + 1 : Nat) : Int) - 1 := by omega
    rw [hcast] at h6
    obtain ⟨s3, hn, l3, g3, g4⟩ := ih (i + 1) _ g m2 a' (by omega) h6 (fun i' a c => by
      have : 10 + i' ≠ 10 + i := by omega
      simp only [putT, this, if_false]
      exact hz i' (by omega) c)
    have hgi : g (10 + i) = t := by rw [g4 _ (by omega)]; simp [putT]
    have hgz : ∀ i', j ≤ i' → i' < i → g (10 + i') = tz := fun i' a c => by
      rw [g4 _ (by omega)]
      have : 10 + i' ≠ 10 + i := by omega
      simp only [putT, this, if_false]
      exact hz i' a (by omega)
    obtain ⟨e1, e2⟩ := SB_skip g (i - j) j (by omega) (fun i' a c => hgz i' a (by omega))
    rw [show j + (i - j) = i by omega] at e1 e2
    have htz : ¬ g (10 + i) = tz := by rw [hgi]; exact ht rfl
    refine ⟨?_, ?_, by omega, fun i' a c => ?_, fun k hk => ?_⟩
    · rw [e1, SB_step g (by omega)]
      unfold slotB
      rw [if_neg htz, hgi, seg_app (show a ≤ a + 1 by omega) (show a + 1 ≤ a' by omega), seg_app l2 l3, s1, s2, s3]
      rfl
    · rw [e2, CN_step g (by omega), if_neg htz]
      omega
    · by_cases c1 : i' = i
      · subst c1
        rw [hgi]
        exact g2
      · by_cases c2 : i' < i
        · rw [hgz i' a c2]; rfl
        · exact g3 i' (by omega) c
    · rw [g4 k (by omega)]
      have : k ≠ 10 + i := by omega
      simp [putT, this]
theorem con_seg {a a' : Nat} {x : C3} {prev : Option C3} (h : pCon prev b a = .ok (x, a')) : seg b a a' = conB x ∧ a ≤ a' ∧ goodCon x = true ∧ ∀ y, prev = some y → rises y x = true := by
  obtain ⟨⟨i, j⟩, m, h1, h2⟩ := pBind_ok.1 h
  obtain ⟨h3, h4⟩ := pChk_ok.1 h1
  obtain ⟨i', m1, h5, h6⟩ := pBind_ok.1 h3
  obtain ⟨j', h7, h8⟩ := pMap_ok.1 h6
  obtain ⟨h9, h10⟩ := pChk_ok.1 h7
  obtain ⟨c, h11, rfl⟩ := pMap_ok.1 h2
  simp only [Prod.mk.injEq] at h8
  obtain ⟨rfl, rfl⟩ := h8
  obtain ⟨s1, rfl, hi⟩ := bnd_seg h5
  obtain ⟨s2, rfl, hj⟩ := bnd_seg h9
  obtain ⟨s3, l3, hc⟩ := sig_seg h256 h11
  simp only [decide_eq_true_eq] at h10
  refine ⟨?_, by omega, ?_, fun y hy => ?_⟩
  · rw [seg_app (show a ≤ a + 1 by omega) (show a + 1 ≤ a' by omega), seg_app (show a + 1 ≤ a + 1 + 1 by omega) l3, s1, s2, s3]
    rfl
  · rw [goodCon_iff]
    refine ⟨⟨by simp only; omega, by simp only; omega⟩, ⟨by simp only; omega, by simp only; omega⟩, by simp only; omega, hc⟩
  · subst hy
    exact h4
theorem cons_seg : ∀ (n : Nat) (l m : List C3) (a a' : Nat), pCons n l b a = .ok (m, a') → ∃ r, m = l ++ r ∧ r.length = n ∧ seg b a a' = r.flatMap conB ∧ a ≤ a' ∧ Rise l.getLast? r := by
  intro n
  induction n with
  | zero =>
    intro l m a a' h
    obtain ⟨rfl, rfl⟩ := pure_ok h
    exact ⟨[], by simp, rfl, seg_self _ _, Nat.le_refl _, trivial⟩
  | succ n ih =>
    intro l m a a' h
    obtain ⟨x, m1, h1, h2⟩ := pBind_ok.1 h
    obtain ⟨s1, l1, hg, hr⟩ := con_seg h256 h1
    obtain ⟨r, rfl, hl, s2, l2, hR⟩ := ih _ m m1 a' h2
    refine ⟨x :: r, by simp, by simp [hl], ?_, by omega, hg, hr, ?_⟩
    · rw [seg_app l1 l2, s1, s2]; rfl
    · rw [List.getLast?_append] at hR
      exact hR
theorem claim_seg {a a' : Nat} {c : Cl} (h : pClaim b a = .ok (c, a')) : seg b a a' = claimB c.d c.f c.l ∧ a ≤ a' ∧ ClOk c.d c.f c.l := by
  obtain ⟨live, m, h1, h2⟩ := pBind_ok.1 h
  obtain ⟨s1, rfl, hl⟩ := bnd_seg h1
  by_cases h0 : live = 0
  · subst h0
    rw [if_pos rfl] at h2
    obtain ⟨rfl, rfl⟩ := pure_ok h2
    exact ⟨s1, by omega, fun _ => ⟨fun i _ => rfl, rfl⟩, fun i _ => rfl, fun i _ => rfl, trivial⟩
  · rw [if_neg h0] at h2
    obtain ⟨f, m1, h3, h4⟩ := pBind_ok.1 h2
    obtain ⟨s2, l2, g2, g3⟩ := regs_seg h256 10 0 f0 f _ m1 h3
    obtain ⟨n, m2, h5, h6⟩ := pBind_ok.1 h4
    obtain ⟨s3, l3, hn⟩ := most_seg h256 h5
    obtain ⟨g, m3, h7, h8⟩ := pBind_ok.1 h6
    obtain ⟨s4, hcn, l4, g4, g5⟩ := slots_seg h256 n 0 f g m2 m3 (by omega) h7 (fun i _ _ => by rw [g3 _ (by omega)]; rfl)
    obtain ⟨n2, m4, h9, h10⟩ := pBind_ok.1 h8
    obtain ⟨s5, l5, hn2⟩ := most_seg h256 h9
    obtain ⟨l, h11, rfl⟩ := pMap_ok.1 h10
    obtain ⟨r, hr, hrl, s6, l6, hR⟩ := cons_seg h256 n2 [] l m4 a' h11
    rw [List.nil_append] at hr
    subst hr
    have hl1 : live = 1 := by omega
    subst hl1
    refine ⟨?_, by omega, ?_⟩
    · have e : claimB false g l = [1] ++ ((List.range' 0 10).flatMap (fun k => tagB (g k) false) ++ (leb 9 (CN g 0) ++ (SB g 0 ++ (leb 9 l.length ++ l.flatMap conB)))) := by
        unfold claimB regB toldN slotsB consB CN SB
        rw [List.range_eq_range', List.range_eq_range', List.take_length]
        rfl
      have hreg : (List.range' 0 10).flatMap (fun k => tagB (f k) false) = (List.range' 0 10).flatMap (fun k => tagB (g k) false) := by
        have hh : ∀ k ∈ List.range' 0 10, tagB (f k) false = tagB (g k) false := fun k hk => by
          rw [List.mem_range'_1] at hk
          rw [g5 k (by omega)]
        simp only [List.flatMap_def]
        rw [List.map_congr_left hh]
      show seg b a a' = claimB false g l
      rw [e, ← hreg, ← s2, ← hcn, ← s3, ← s4, hrl, ← s5, ← s6, ← s1, ← seg_app l5 l6, ← seg_app l4 (by omega), ← seg_app l3 (by omega), ← seg_app l2 (by omega), ← seg_app (by omega) (by omega)]
    · refine ⟨(fun e => by cases e), fun i hi => ?_, fun i hi => g4 i (by omega) hi, hR⟩
      show goodTag (g i) 0 = true
      rw [g5 i (by omega)]
      exact g2 i (by omega) (by omega)
theorem loop_seg {a a' : Nat} {x : Lp} (h : pLoop b a = .ok (x, a')) : seg b a a' = loopB x ∧ a ≤ a' ∧ goodLoop x = true := by
  obtain ⟨h1, m1, e1, r1⟩ := pBind_ok.1 h
  obtain ⟨h2, m2, e2, r2⟩ := pBind_ok.1 r1
  obtain ⟨h3, m3, e3, r3⟩ := pBind_ok.1 r2
  obtain ⟨h4, m4, e4, r4⟩ := pBind_ok.1 r3
  obtain ⟨h5, e5, rfl⟩ := pMap_ok.1 r4
  obtain ⟨s1, l1, b1⟩ := most_seg h256 e1
  obtain ⟨s2, l2, b2⟩ := most_seg h256 e2
  obtain ⟨s3, l3, b3⟩ := most_seg h256 e3
  obtain ⟨s4, l4, b4⟩ := sig_seg h256 e4
  obtain ⟨s5, l5, b5⟩ := most_seg h256 e5
  refine ⟨?_, by omega, ?_⟩
  · unfold loopB
    simp only [Int.toNat_natCast]
    rw [← s1, ← s2, ← s3, ← s4, ← s5, ← seg_app l4 l5, ← seg_app l3 (by omega), ← seg_app l2 (by omega), ← seg_app l1 (by omega)]
  · rw [goodLoop_iff]
    simp only
    omega
theorem loops_seg : ∀ (n : Nat) (l m : List Lp) (a a' : Nat), pLoops n l b a = .ok (m, a') → ∃ r, m = l ++ r ∧ r.length = n ∧ seg b a a' = loopsB r ∧ a ≤ a' ∧ ∀ x ∈ r, goodLoop x = true := by
  intro n
  induction n with
  | zero =>
    intro l m a a' h
    obtain ⟨rfl, rfl⟩ := pure_ok h
    exact ⟨[], by simp, rfl, seg_self _ _, Nat.le_refl _, fun x hx => by cases hx⟩
  | succ n ih =>
    intro l m a a' h
    obtain ⟨x, m1, h1, h2⟩ := pBind_ok.1 h
    obtain ⟨s1, l1, hg⟩ := loop_seg h256 h1
    obtain ⟨r, rfl, hl, s2, l2, hR⟩ := ih _ m m1 a' h2
    refine ⟨x :: r, by simp, by simp [hl], ?_, by omega, fun y hy => ?_⟩
    · rw [seg_app l1 l2, s1, s2]; rfl
    · rcases List.mem_cons.1 hy with rfl | hy
      · exact hg
      · exact hR y hy
theorem claims_seg : ∀ (n : Nat) (l m : List Cl) (a a' : Nat), pClaims n l b a = .ok (m, a') → ∃ r, m = l ++ r ∧ r.length = n ∧ seg b a a' = claimsB r ∧ a ≤ a' ∧ ∀ x ∈ r, ClOk x.d x.f x.l := by
  intro n
  induction n with
  | zero =>
    intro l m a a' h
    obtain ⟨rfl, rfl⟩ := pure_ok h
    exact ⟨[], by simp, rfl, seg_self _ _, Nat.le_refl _, fun x hx => by cases hx⟩
  | succ n ih =>
    intro l m a a' h
    obtain ⟨x, m1, h1, h2⟩ := pBind_ok.1 h
    obtain ⟨s1, l1, hg⟩ := claim_seg h256 h1
    obtain ⟨r, rfl, hl, s2, l2, hR⟩ := ih _ m m1 a' h2
    refine ⟨x :: r, by simp, by simp [hl], ?_, by omega, fun y hy => ?_⟩
    · rw [seg_app l1 l2, s1, s2]; rfl
    · rcases List.mem_cons.1 hy with rfl | hy
      · exact hg
      · exact hR y hy
theorem body_seg {a a' : Nat} {d : Dd} (h : pBody b a = .ok (d, a')) : seg b a a' = bodyB d ∧ a ≤ a' ∧ plainD d = 0 := by
  obtain ⟨n1, m1, e1, r1⟩ := pBind_ok.1 h
  obtain ⟨ls, m2, e2, r2⟩ := pBind_ok.1 r1
  obtain ⟨n2, m3, e3, r3⟩ := pBind_ok.1 r2
  obtain ⟨cs, e4, rfl⟩ := pMap_ok.1 r3
  obtain ⟨s1, l1, b1⟩ := most_seg h256 e1
  obtain ⟨r, hr, hrl, s2, l2, g2⟩ := loops_seg h256 _ _ _ _ _ e2
  obtain ⟨s3, l3, b3⟩ := most_seg h256 e3
  obtain ⟨q, hq, hql, s4, l4, g4⟩ := claims_seg h256 _ _ _ _ _ e4
  rw [List.nil_append] at hr hq
  subst hr hq
  refine ⟨?_, by omega, plainD_of (by simp only; omega) (by simp only; omega) g2 (fun x hx => goodClaim_iff.2 (g4 x hx))⟩
  unfold bodyB
  simp only
  rw [hrl, hql, ← s1, ← s2, ← s3, ← s4, ← seg_app l3 l4, ← seg_app l2 (by omega), ← seg_app l1 (by omega)]
theorem enc_dec (h0 : (decD b).2.2 = 0) : encE (decD b).1 = 0 ∧ encD (decD b).1 = b ∧ (decD b).2.1 = 0 := by
  unfold decD at h0 ⊢
  by_cases hl : 4194304 < b.length
  · rw [if_pos hl] at h0; cases h0
  rw [if_neg hl] at h0 ⊢
  unfold pDeed at h0 ⊢
  by_cases h4 : b.length < 4
  · rw [if_pos h4] at h0; cases h0
  rw [if_neg h4] at h0 ⊢
  by_cases hm : b.take 4 ≠ [87, 65, 82, 49]
  · rw [if_pos hm] at h0; cases h0
  rw [if_neg hm] at h0 ⊢
  cases hb : pBody b 4 with
  | error y =>
    exfalso
    obtain ⟨y, e⟩ := y
    rw [hb] at h0
    exact (Fine.body.place b 4 y e (by omega) hb).2 h0
  | ok v =>
    obtain ⟨d, a⟩ := v
    rw [hb] at h0
    simp only at h0 ⊢
    by_cases ha : a < b.length
    · rw [if_pos ha] at h0; cases h0
    rw [if_neg ha]
    have hf := Fine.body.fwd b 4 d a (by omega) hb
    obtain ⟨s1, l1, hp⟩ := body_seg h256 hb
    have hab : a = b.length := by omega
    have e : deedB d = b := by
      unfold deedB
      rw [← s1, show [87, 65, 82, 49] = b.take 4 from (Classical.not_not.1 hm).symm]
      unfold seg
      have ht : (b.drop 4).take (a - 4) = b.drop 4 := List.take_of_length_le (by rw [List.length_drop]; omega)
      rw [ht, List.take_append_drop]
    have e0 : encE d = 0 := by
      unfold encE
      rw [if_pos hp, e, if_neg hl]
    refine ⟨e0, ?_, rfl⟩
    show encD d = b
    unfold encD
    rw [if_pos e0, e]
end
end Go.Proofs.Ytfdjdpbiccclfaa
namespace Go.Proofs.Ytfdjdpbiccclfaa
open Go Go.RowKit Go.Wr
set_option maxHeartbeats 1000000
theorem dec_place (b : List Nat) (h : (decD b).2.2 ≠ 0) : (decD b).2.1 ≤ b.length ∧ (decD b).1 = ⟨[], []⟩ := by
  unfold decD at h ⊢
  by_cases hl : 4194304 < b.length
  · rw [if_pos hl]; exact ⟨Nat.zero_le _, rfl⟩
  rw [if_neg hl] at h ⊢
  unfold pDeed at h ⊢
  by_cases h4 : b.length < 4
  · rw [if_pos h4]; exact ⟨Nat.le_refl _, rfl⟩
  rw [if_neg h4] at h ⊢
  by_cases hm : b.take 4 ≠ [87, 65, 82, 49]
  · rw [if_pos hm]; exact ⟨Nat.zero_le _, rfl⟩
  rw [if_neg hm] at h ⊢
  cases hb : pBody b 4 with
  | error y =>
    obtain ⟨y, e⟩ := y
    exact ⟨(Fine.body.place b 4 y e (by omega) hb).1, rfl⟩
  | ok v =>
    obtain ⟨d, a⟩ := v
    rw [hb] at h
    simp only at h ⊢
    by_cases ha : a < b.length
    · rw [if_pos ha]; exact ⟨Nat.le_of_lt ha, rfl⟩
    · rw [if_neg ha] at h; exact absurd rfl h
theorem dec_len (b : List Nat) (h256 : ∀ x ∈ b, x < 256) : (decD b).1.ls.length ≤ 8 ∧ (decD b).1.cs.length ≤ 512 ∧ ∀ c ∈ (decD b).1.cs, c.l.length ≤ 3540 := by
  by_cases h : (decD b).2.2 = 0
  · obtain ⟨h1, _, _⟩ := enc_dec h256 h
    have hp : plainD (decD b).1 = 0 := by
      unfold encE at h1
      by_cases hp : plainD (decD b).1 = 0
      · exact hp
      · rw [if_neg hp] at h1; exact absurd h1 hp
    obtain ⟨a, c, _, g⟩ := plainD_all hp
    exact ⟨a, c, fun x hx => (goodClaim_iff.1 (g x hx)).len⟩
  · rw [(dec_place b h).2]
    exact ⟨by simp, by simp, fun c hc => by cases hc⟩
theorem eqTags_congr {f f' : Nat → Tg} {o n : Nat} (h : ∀ i, i < n → f (o + i) = f' (o + i)) : eqTags f f0 o n = eqTags f' f0 o n := by
  unfold eqTags
  rw [Bool.eq_iff_iff]
  simp only [List.all_eq_true, List.mem_range]
  exact ⟨fun g i hi => by rw [← h i hi]; exact g i hi, fun g i hi => by rw [h i hi]; exact g i hi⟩
theorem tagsOk_congr {f f' : Nat → Tg} {m : Int} {o n : Nat} (h : ∀ i, i < n → f (o + i) = f' (o + i)) : tagsOk f m o n = tagsOk f' m o n := by
  unfold tagsOk
  rw [Bool.eq_iff_iff]
  simp only [List.all_eq_true, List.mem_range]
  exact ⟨fun g i hi => by rw [← h i hi]; exact g i hi, fun g i hi => by rw [h i hi]; exact g i hi⟩
theorem flat_congr {f g : Nat → List Nat} {n : Nat} (h : ∀ i, i < n → f i = g i) : (List.range n).flatMap f = (List.range n).flatMap g := by
  simp only [List.flatMap_def]
  rw [List.map_congr_left fun i hi => h i (List.mem_range.1 hi)]
theorem claim_congr {d : Bool} {f f' : Nat → Tg} {l : List C3} (h : ∀ k, k < 42 → f k = f' k) : goodClaim d f l = goodClaim d f' l ∧ claimB d f l = claimB d f' l := by
  constructor
  · unfold goodClaim
    rw [eqTags_congr (f' := f') (o := 0) (n := 10) fun i hi => h _ (by omega), eqTags_congr (f' := f') (o := 10) (n := 32) fun i hi => h _ (by omega), tagsOk_congr (f' := f') (o := 0) (n := 10) fun i hi => h _ (by omega),
      tagsOk_congr (f' := f') (o := 10) (n := 32) fun i hi => h _ (by omega)]
  · unfold claimB regB toldN slotsB
    rw [flat_congr (g := fun i => tagB (f' i) false) fun i hi => by rw [h i (by omega)], flat_congr (f := slotB f) (g := slotB f') fun i hi => by unfold slotB; rw [h (10 + i) (by omega)]]
    have e : (List.range 32).filter (fun i => decide (f (10 + i) ≠ tz)) = (List.range 32).filter (fun i => decide (f' (10 + i) ≠ tz)) :=
      List.filter_congr fun i hi => by rw [h (10 + i) (by have := List.mem_range.1 hi; omega)]
    rw [e]
theorem same_congr {d x : Dd} (h : sameD d x = true) : encE d = encE x ∧ encD d = encD x := by
  obtain ⟨ls, cs⟩ := d
  obtain ⟨ls', cs'⟩ := x
  unfold sameD at h
  simp only [Bool.and_eq_true, decide_eq_true_eq] at h
  obtain ⟨rfl, hs⟩ := h
  have hl := sameCs_len hs
  have hc : ∀ (cs cs' : List Cl), sameCs cs cs' = true → goodCs cs = goodCs cs' ∧ claimsB cs = claimsB cs' := fun cs => by
    induction cs with
    | nil => intro cs' h; cases cs' with
      | nil => exact ⟨rfl, rfl⟩
      | cons y m => cases h
    | cons c cs ih => intro cs' h; cases cs' with
      | nil => cases h
      | cons y m =>
        simp only [sameCs, Bool.and_eq_true] at h
        obtain ⟨h1, h2⟩ := h
        obtain ⟨e1, e2, e3⟩ := sameC_iff.1 h1
        obtain ⟨g1, g2⟩ := ih m h2
        obtain ⟨k1, k2⟩ := claim_congr (d := c.d) (l := c.l) e2
        unfold goodCs
        constructor
        · rw [k1, g1, e1, e3]
        · simp only [claimsB, List.flatMap_cons] at g2 ⊢
          rw [k2, g2, e1, e3]
  obtain ⟨g1, g2⟩ := hc cs cs' hs
  have e1 : plainD ⟨ls, cs⟩ = plainD ⟨ls, cs'⟩ := by unfold plainD; simp only; rw [hl, g1]
  have e2 : deedB ⟨ls, cs⟩ = deedB ⟨ls, cs'⟩ := by unfold deedB bodyB; simp only; rw [hl, g2]
  have e3 : encE ⟨ls, cs⟩ = encE ⟨ls, cs'⟩ := by unfold encE; rw [e1, e2]
  exact ⟨e3, by unfold encD; rw [e3, e2]⟩
theorem sameCs_symm {l : List Cl} : ∀ {m : List Cl}, sameCs l m = true → sameCs m l = true := by
  intro m h
  rw [sameCs_iff] at h ⊢
  refine ⟨h.1.symm, fun i x y hx hy => ?_⟩
  obtain ⟨a, b, c⟩ := sameC_iff.1 (h.2 i y x hy hx)
  exact sameC_iff.2 ⟨a.symm, fun k hk => (b k hk).symm, c.symm⟩
theorem sameCs_trans {l m n : List Cl} (h1 : sameCs l m = true) (h2 : sameCs m n = true) : sameCs l n = true := by
  rw [sameCs_iff] at h1 h2 ⊢
  refine ⟨h1.1.trans h2.1, fun i x z hx hz => ?_⟩
  obtain ⟨y, hy⟩ : ∃ y, m[i]? = some y := ⟨_, List.getElem?_eq_getElem (by rw [← h1.1]; exact (List.getElem?_eq_some_iff.1 hx).1)⟩
  obtain ⟨a, b, c⟩ := sameC_iff.1 (h1.2 i x y hx hy)
  obtain ⟨a', b', c'⟩ := sameC_iff.1 (h2.2 i y z hy hz)
  exact sameC_iff.2 ⟨a.trans a', fun k hk => (b k hk).trans (b' k hk), c.trans c'⟩
theorem sameD_symm {d x : Dd} (h : sameD d x = true) : sameD x d = true := by
  unfold sameD at h ⊢
  simp only [Bool.and_eq_true, decide_eq_true_eq] at h ⊢
  exact ⟨h.1.symm, sameCs_symm h.2⟩
theorem sameD_trans {d x y : Dd} (h1 : sameD d x = true) (h2 : sameD x y = true) : sameD d y = true := by
  unfold sameD at h1 h2 ⊢
  simp only [Bool.and_eq_true, decide_eq_true_eq] at h1 h2 ⊢
  exact ⟨h1.1.trans h2.1, sameCs_trans h1.2 h2.2⟩
theorem enc_iff {d x : Dd} (h1 : encE d = 0) (h2 : encE x = 0) : encD d = encD x ↔ sameD d x = true := by
  constructor
  · intro e
    obtain ⟨d', e1, s1⟩ := dec_enc h1
    obtain ⟨x', e2, s2⟩ := dec_enc h2
    rw [e, e2] at e1
    have : x' = d' := congrArg Prod.fst e1
    subst this
    exact sameD_trans s1 (sameD_symm s2)
  · exact fun h => (same_congr h).2
theorem enc_facts {d : Dd} (h : encE d = 0) : plainD d = 0 ∧ encD d = deedB d ∧ (deedB d).length ≤ 4194304 := by
  have hp : plainD d = 0 := by
    unfold encE at h
    by_cases hp : plainD d = 0
    · exact hp
    · rw [if_neg hp] at h; exact absurd h hp
  refine ⟨hp, by unfold encD; rw [if_pos h], ?_⟩
  unfold encE at h
  rw [if_pos hp] at h
  by_cases hl : 4194304 < (deedB d).length
  · rw [if_pos hl] at h; cases h
  · omega
theorem leb_pos' (k x : Nat) : 0 < (leb k x).length := by
  cases k with
  | zero => simp [leb]
  | succ k => unfold leb; split <;> simp
theorem enc_six {d : Dd} (h : encE d = 0) : 6 ≤ (encD d).length := by
  obtain ⟨_, e, _⟩ := enc_facts h
  rw [e]
  unfold deedB bodyB
  simp only [List.length_append, List.length_cons, List.length_nil]
  have := leb_pos' 9 d.ls.length
  have := leb_pos' 9 d.cs.length
  omega
theorem body_at {d : Dd} (h : encE d = 0) : ∃ d', pBody (encD d) 4 = .ok (d', (encD d).length) ∧ sameD d d' = true := by
  obtain ⟨hp, e, hl⟩ := enc_facts h
  obtain ⟨d', r, hs⟩ := reads_body hp
  refine ⟨d', ?_, hs⟩
  rw [e]
  have hb := r [87, 65, 82, 49] []
  rw [List.append_nil] at hb
  have hlen : (deedB d).length = 4 + (bodyB d).length := by unfold deedB; rw [List.length_append]; rfl
  rw [hlen]
  exact hb
theorem enc_magic {d : Dd} (h : encE d = 0) : (encD d).take 4 = [87, 65, 82, 49] := by
  rw [(enc_facts h).2.1]
  rfl
theorem dec_cut {d : Dd} (h : encE d = 0) {k : Nat} (hk : k < (encD d).length) : (decD ((encD d).take k)).2 = (k, 110) := by
  obtain ⟨d', hb, _⟩ := body_at h
  have hl : (encD d).length ≤ 4194304 := by rw [(enc_facts h).2.1]; exact (enc_facts h).2.2
  have hlen : ((encD d).take k).length = k := by rw [List.length_take]; omega
  unfold decD pDeed
  rw [if_neg (by omega)]
  by_cases h4 : k < 4
  · rw [if_pos (by omega), hlen]
  · rw [if_neg (by omega), if_neg (by rw [List.take_take, Nat.min_eq_left (by omega), enc_magic h]; simp), Fine.body.cut (encD d) 4 d' _ k (by omega) hb (by omega) hk]
theorem dec_more {d : Dd} (h : encE d = 0) {m : List Nat} (hm : m ≠ []) : (decD (encD d ++ m)).2 = if 4194304 < (encD d ++ m).length then (0, 2) else ((encD d).length, 110) := by
  obtain ⟨d', hb, _⟩ := body_at h
  have h6 := enc_six h
  have hml : 0 < m.length := List.length_pos_iff.2 hm
  have hb2 : pBody (encD d ++ m) 4 = .ok (d', (encD d).length) := Fine.body.loc (encD d) _ 4 d' _ (by omega) hb (fun i _ hi => (List.getElem?_append_left hi).symm)
  unfold decD pDeed
  by_cases hl : 4194304 < (encD d ++ m).length
  · rw [if_pos hl, if_pos hl]
  · rw [if_neg hl, if_neg hl, if_neg (by rw [List.length_append]; omega), if_neg (by rw [List.take_append_of_le_length (by omega), enc_magic h]; simp), hb2]
    simp only
    rw [if_pos (by rw [List.length_append]; omega)]
theorem dec_byte {d : Dd} {c : List Nat} (h256 : ∀ x ∈ c, x < 256) (hne : c ≠ encD d) : ¬ ((decD c).2.2 = 0 ∧ sameD d (decD c).1 = true) := by
  rintro ⟨h1, h2⟩
  obtain ⟨_, e2, _⟩ := enc_dec h256 h1
  rw [← (same_congr h2).2] at e2
  exact hne e2.symm
theorem leb_256 (k : Nat) : ∀ x, ∀ y ∈ leb k x, y < 256 := by
  induction k with
  | zero => intro x y hy; simp [leb] at hy; omega
  | succ k ih =>
    intro x y hy
    unfold leb at hy
    split at hy
    · simp at hy; omega
    · rcases List.mem_cons.1 hy with rfl | hy
      · omega
      · exact ih _ y hy
theorem tagB_256 {t : Tg} {s : Bool} (h : TgIn t) : ∀ y ∈ tagB t s, y < 256 := by
  obtain ⟨⟨a, b⟩, ⟨c, e⟩, f, g⟩ := h
  intro y hy
  unfold tagB at hy
  rcases List.mem_cons.1 hy with rfl | hy
  · omega
  · split at hy
    · simp at hy; omega
    · split at hy
      · simp at hy; omega
      · cases hy
theorem claimB_256 {d : Bool} {f : Nat → Tg} {l : List C3} (h : ClOk d f l) : ∀ y ∈ claimB d f l, y < 256 := by
  intro y hy
  unfold claimB at hy
  split at hy
  · simp at hy; omega
  · simp only [List.mem_cons, List.mem_append] at hy
    rcases hy with rfl | hy | hy | hy | hy | hy
    · omega
    · unfold regB at hy
      rw [List.mem_flatMap] at hy
      obtain ⟨i, hi, hy⟩ := hy
      exact tagB_256 (h.tags i (by have := List.mem_range.1 hi; omega)) y hy
    · exact leb_256 _ _ y hy
    · unfold slotsB at hy
      rw [List.mem_flatMap] at hy
      obtain ⟨i, hi, hy⟩ := hy
      have hi := List.mem_range.1 hi
      unfold slotB at hy
      split at hy
      · cases hy
      · rcases List.mem_cons.1 hy with rfl | hy
        · omega
        · exact tagB_256 (h.tags (10 + i) (by omega)) y hy
    · exact leb_256 _ _ y hy
    · unfold consB at hy
      rw [List.mem_flatMap] at hy
      obtain ⟨x, hx, hy⟩ := hy
      have hc := h.conIn x (List.mem_of_mem_take hx)
      unfold conB at hy
      obtain ⟨h1, h2, _⟩ := hc
      simp only [List.mem_cons] at hy
      rcases hy with rfl | rfl | hy
      · omega
      · omega
      · exact leb_256 _ _ y hy
theorem encD_256 (d : Dd) : ∀ y ∈ encD d, y < 256 := by
  intro y hy
  by_cases h : encE d = 0
  · obtain ⟨hp, e, _⟩ := enc_facts h
    obtain ⟨_, _, gl, gc⟩ := plainD_all hp
    rw [e] at hy
    unfold deedB bodyB at hy
    simp only [List.mem_append, List.mem_cons, List.not_mem_nil, or_false] at hy
    rcases hy with hy | hy | hy | hy | hy
    · omega
    · exact leb_256 _ _ y hy
    · unfold loopsB at hy
      rw [List.mem_flatMap] at hy
      obtain ⟨x, _, hy⟩ := hy
      unfold loopB at hy
      simp only [List.mem_append] at hy
      rcases hy with hy | hy | hy | hy | hy <;> exact leb_256 _ _ y hy
    · exact leb_256 _ _ y hy
    · unfold claimsB at hy
      rw [List.mem_flatMap] at hy
      obtain ⟨x, hx, hy⟩ := hy
      exact claimB_256 (goodClaim_iff.1 (gc x hx)) y hy
  · unfold encD at hy
    rw [if_neg h] at hy
    cases hy
end Go.Proofs.Ytfdjdpbiccclfaa
namespace Go.Proofs.Ytfdjdpbiccclfaa
open Go Go.RowKit
theorem own : ownKnob Try.prog.godebug = none := by kernel_rfl
theorem laidOut : laidOutB Try.prog = true := by kernel_rfl
end Go.Proofs.Ytfdjdpbiccclfaa
namespace Go.Proofs.Ytfdjdpbiccclfaa
open Go Go.RowKit Go.Wr
open Go.ChangeShapes Go.WideShapes Go.ChangeAt Go.Deep
set_option maxHeartbeats 1000000
set_option maxRecDepth 100000
def I64 (n : Int) : Prop := -9223372036854775808 ≤ n ∧ n ≤ 9223372036854775807
theorem i64_of_wf {n : Int} (h : (Lit.int .i64 n).wf = true) : I64 n := by
  simp [Lit.wf, IntKind.min, IntKind.max, IntKind.signed, IntKind.bits] at h
  exact h
theorem addr_lit {a : Addr} (h : a.spot = none) : a = ⟨a.block, a.off, none⟩ := by cases a; simp_all
def ArgN (kd : IntKind) (w : World) (v : Value) (l : List Int) : Prop :=
  (∃ a0 cap, v = .slice a0 l.length cap ∧ (a0 = none → l = [] ∧ cap = 0) ∧ ∀ a, a0 = some a → ∀ (j : Nat) (u : Value), (l.map (Value.int kd))[j]? = some u → w.cell? (a.add j) = some u) ∧ l.length ≤ 140737488351232
theorem ArgN.below {kd : IntKind} {w w' : World} {v : Value} {l : List Int} (h : ArgN kd w v l) (hb : Below w.heap.size w w') : ArgN kd w' v l := by
  obtain ⟨⟨a0, cap, hv, hn, hc⟩, hl⟩ := h
  refine ⟨⟨a0, cap, hv, hn, fun a ha j u hu => ?_⟩, hl⟩
  have h0 := hc a ha j u hu
  exact (hb.cell (World.block_lt_of_cell? w _ h0)).trans h0
section
variable {H : Type} {enc : TypeId × Value → H} {w : World} {base : Nat} {held : Bool}
end
end Go.Proofs.Ytfdjdpbiccclfaa
