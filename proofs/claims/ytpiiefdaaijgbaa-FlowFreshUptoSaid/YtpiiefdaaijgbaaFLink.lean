/- The program's link: an edge is noted at both its ends. -/
import Derived.Test.YtpiiefdaaijgbaaFFam
namespace Go.Proofs.Ytpiiefdaaijgbaa
open Go Go.RowKit Go.Wr Go.Fl
set_option maxHeartbeats 4000000
set_option maxRecDepth 100000

/-- Blocks, as they lie, with their rows. -/
def bkI (n : Nat) (fr tw : Nat → Nat) (row : Nat → Sv) : List Bk := (List.range n).map fun i => ⟨fr i, tw i, row i⟩
def ahI (n : Nat) (row : Nat → Sv) : List Sv := (List.range n).map fun i => row (n + i)
/-- While edges are noted: n blocks in block gb, from where edges lead to them in ga, all rows of numbers apart. -/
structure Lk (B p gb cb ga n : Nat) (rest : List Value) (fr tw : Nat → Nat) (row : Nat → Sv) (cont : Nat → List Int) (w : World) : Prop where
  pb : Blk w p 93 (.slice (some ⟨gb, 0, none⟩) n cb :: .slice (some ⟨ga, 0, none⟩) n n :: rest).toArray
  kb : OwR tK B w (.slice (some ⟨gb, 0, none⟩) n cb) (bkI n fr tw row)
  ab : OwR tII B w (.slice (some ⟨ga, 0, none⟩) n n) (ahI n row)
  fm : Fam B (2 * n + 1) row cont w
  hp : B ≤ w.heap.size
section
variable {B p gb cb ga n : Nat} {rest : List Value} {fr tw : Nat → Nat} {row : Nat → Sv} {cont : Nat → List Int} {w w' : World}
theorem Lk.ne_pb (h : Lk B p gb cb ga n rest fr tw row cont w) : p ≠ gb ∧ p ≠ ga ∧ gb ≠ ga := by
  obtain ⟨_, C, h1⟩ := h.kb.blk (g := gb) rfl
  obtain ⟨_, C', h2⟩ := h.ab.blk (g := ga) rfl
  exact ⟨blk_ne h.pb h1 (by decide), blk_ne h.pb h2 (by decide), blk_ne h1 h2 (by decide)⟩
theorem Lk.below (h : Lk B p gb cb ga n rest fr tw row cont w) (b : Below w.heap.size w w') : Lk B p gb cb ga n rest fr tw row cont w' :=
  ⟨h.pb.below b h.pb.lt, h.kb.below b, h.ab.below b, h.fm.below b, Nat.le_trans h.hp b.size⟩
theorem kCell (h : OwR tK B w (.slice (some ⟨gb, 0, none⟩) n cb) (bkI n fr tw row)) {i : Nat} (hi : i < n) : w.cell? ⟨gb, i * 3 + 2, none⟩ = some (row i).v := by
  have hat := h.at (k := i) (x := ⟨fr i, tw i, row i⟩) (by unfold bkI; rw [List.getElem?_map, List.getElem?_range hi]; rfl)
  have h2 := hat.cell 2 _ rfl
  have e : ∀ j, 0 + i * tK.n + j = i * 3 + j := fun j => by show 0 + i * 3 + j = _; omega
  rw [e] at h2
  exact h2
theorem aCell (h : OwR tII B w (.slice (some ⟨ga, 0, none⟩) n n) (ahI n row)) {i : Nat} (hi : i < n) : w.cell? ⟨ga, i, none⟩ = some (row (n + i)).v := by
  have hat := h.at (k := i) (x := row (n + i)) (by unfold ahI; rw [List.getElem?_map, List.getElem?_range hi]; rfl)
  have h0 := hat.cell 0 _ rfl
  have e : 0 + i * tII.n + 0 = i := by show 0 + i * 1 + 0 = _; omega
  rw [e] at h0
  exact h0
theorem Lk.cellK (h : Lk B p gb cb ga n rest fr tw row cont w) {i : Nat} (hi : i < n) : w.cell? ⟨gb, i * 3, none⟩ = some (.int .i64 (fr i)) ∧ w.cell? ⟨gb, i * 3 + 1, none⟩ = some (.int .i64 (tw i)) ∧ w.cell? ⟨gb, i * 3 + 2, none⟩ = some (row i).v := by
  have hat := h.kb.at (k := i) (x := ⟨fr i, tw i, row i⟩) (by unfold bkI; rw [List.getElem?_map, List.getElem?_range hi]; rfl)
  have h0 := hat.cell 0 _ rfl
  have h1 := hat.cell 1 _ rfl
  have h2 := hat.cell 2 _ rfl
  have e : ∀ j, 0 + i * tK.n + j = i * 3 + j := fun j => by show 0 + i * 3 + j = _; omega
  rw [e] at h0 h1 h2
  exact ⟨h0, h1, h2⟩
theorem Lk.cellA (h : Lk B p gb cb ga n rest fr tw row cont w) {i : Nat} (hi : i < n) : w.cell? ⟨ga, i, none⟩ = some (row (n + i)).v := by
  have hat := h.ab.at (k := i) (x := row (n + i)) (by unfold ahI; rw [List.getElem?_map, List.getElem?_range hi]; rfl)
  have h0 := hat.cell 0 _ rfl
  have e : 0 + i * tII.n + 0 = i := by show 0 + i * 1 + 0 = _; omega
  rw [e] at h0
  exact h0
theorem bkI_set {k : Nat} (hk : k < n) (s : Sv) : (bkI n fr tw row).set k ⟨fr k, tw k, s⟩ = bkI n fr tw (setF row k s) := by
  apply List.ext_getElem?
  intro i
  rw [List.getElem?_set]
  unfold bkI
  by_cases hi : i < n
  · rw [List.getElem?_map, List.getElem?_map, List.getElem?_range hi]
    by_cases e : k = i
    · subst e; simp [setF, hi]
    · rw [if_neg e]; simp [setF, Ne.symm e]
  · have h1 : ((List.range n).map fun i => (⟨fr i, tw i, row i⟩ : Bk))[i]? = none := List.getElem?_eq_none (by simp; omega)
    have h2 : ((List.range n).map fun i => (⟨fr i, tw i, setF row k s i⟩ : Bk))[i]? = none := List.getElem?_eq_none (by simp; omega)
    rw [h1, h2]
    split
    · rw [if_neg (by simp; omega)]
    · rfl
theorem ahI_set {k : Nat} (hk : k < n) (s : Sv) : (ahI n row).set k s = ahI n (setF row (n + k) s) := by
  apply List.ext_getElem?
  intro i
  rw [List.getElem?_set]
  unfold ahI
  by_cases hi : i < n
  · rw [List.getElem?_map, List.getElem?_map, List.getElem?_range hi]
    by_cases e : k = i
    · subst e; simp [setF, hi]
    · rw [if_neg e]; simp [setF]; omega
  · have h1 : ((List.range n).map fun i => row (n + i))[i]? = none := List.getElem?_eq_none (by simp; omega)
    have h2 : ((List.range n).map fun i => setF row (n + k) s (n + i))[i]? = none := List.getElem?_eq_none (by simp; omega)
    rw [h1, h2]
    split
    · rw [if_neg (by simp; omega)]
    · rfl
theorem bkI_hi {k : Nat} (s : Sv) : bkI n fr tw (setF row (n + k) s) = bkI n fr tw row := by
  unfold bkI
  apply List.map_congr_left
  intro i hi
  rw [setF_ne (by simp at hi; omega)]
theorem ahI_lo {k : Nat} (hk : k < n) (s : Sv) : ahI n (setF row k s) = ahI n row := by
  unfold ahI
  apply List.map_congr_left
  intro i hi
  rw [setF_ne (by omega)]
end
section
variable {B p gb cb ga n : Nat} {rest : List Value} {fr tw : Nat → Nat} {row : Nat → Sv} {cont : Nat → List Int} {w w9 : World}
theorem Lk.mid (h : Lk B p gb cb ga n rest fr tw row cont w) {k : Nat} (hk : k < 2 * n + 1) {o : Obj} (hg : (w.alloc o).grownBy w9 (row k).v.ownBlock) :
    Blk w9 p 93 (.slice (some ⟨gb, 0, none⟩) n cb :: .slice (some ⟨ga, 0, none⟩) n n :: rest).toArray ∧ OwR tK B w9 (.slice (some ⟨gb, 0, none⟩) n cb) (bkI n fr tw row) ∧ OwR tII B w9 (.slice (some ⟨ga, 0, none⟩) n n) (ahI n row) ∧ Below B w w9 := by
  have hA := h.below (bAl (bRefl w) o)
  have hown := hA.fm.own k hk
  obtain ⟨_, Cb, hb⟩ := hA.kb.blk (g := gb) rfl
  obtain ⟨_, Ca, haa⟩ := hA.ab.blk (g := ga) rfl
  refine ⟨hA.pb.of_block (hg.block p hA.pb.lt (fun e => hown.ne hA.pb (by decide) e.symm)), hA.kb.keep fun g hg' => ?_, hA.ab.keep fun g hg' => ?_, ?_⟩
  · injection hg' with hg'
    simp only at hg'
    subst hg'
    exact hg.block gb hb.lt (fun e => hown.ne hb (by decide) e.symm)
  · injection hg' with hg'
    simp only at hg'
    subst hg'
    exact hg.block ga haa.lt (fun e => hown.ne haa (by decide) e.symm)
  · exact ((Below.refl B w).alloc h.hp o).grown hg (by have := h.hp; simp; omega) (fun g hgg => (hown.blk hgg).1)
theorem Lk.growK (h : Lk B p gb cb ga n rest fr tw row cont w) {a : Nat} (ha : a < n) {o : Obj} (hg : (w.alloc o).grownBy w9 (row a).v.ownBlock) {g m c : Nat} {l : List Int} (ho : OwR tI B w9 (.slice (some ⟨g, 0, none⟩) m c) l)
    (hl : (row a).v.ownBlock = some g ∨ g = (w.alloc o).heap.size) :
    Lk B p gb cb ga n rest fr tw (setF row a ⟨some ⟨g, 0, none⟩, m, c⟩) (setF cont a l) (w9.setCell ⟨gb, a * 3 + 2, none⟩ (.slice (some ⟨g, 0, none⟩) m c)) ∧ Below B w (w9.setCell ⟨gb, a * 3 + 2, none⟩ (.slice (some ⟨g, 0, none⟩) m c)) := by
  obtain ⟨h1, h2, h3, h4⟩ := h.mid (k := a) (by omega) hg
  have hf := h.fm.grow (k := a) (by omega) ho hg hl
  obtain ⟨n1, n2, n3⟩ := h.ne_pb
  obtain ⟨hBg, Cb, hb⟩ := h2.blk (g := gb) rfl
  refine ⟨⟨h1.set_other gb _ _ n1, ?_, ?_, hf.setOther hb (by decide), ?_⟩, h4.setCell hBg _⟩
  · have hs := h2.set (k := a) (j := 2) (x := ⟨fr a, tw a, row a⟩) (y := ⟨fr a, tw a, ⟨some ⟨g, 0, none⟩, m, c⟩⟩) (v := .slice (some ⟨g, 0, none⟩) m c) (by unfold bkI; rw [List.getElem?_map, List.getElem?_range ha]; rfl) (by decide) rfl
    rw [bkI_set ha] at hs
    exact hs
  · rw [ahI_lo ha]
    exact h3.set_other (fun e => by injection e with e; exact n3 e.symm)
  · have := h.hp
    have := (h4.setCell (p := ⟨gb, a * 3 + 2, none⟩) hBg (.slice (some ⟨g, 0, none⟩) m c)).size
    omega
theorem Lk.growA (h : Lk B p gb cb ga n rest fr tw row cont w) {t : Nat} (ht : t < n) {o : Obj} (hg : (w.alloc o).grownBy w9 (row (n + t)).v.ownBlock) {g m c : Nat} {l : List Int} (ho : OwR tI B w9 (.slice (some ⟨g, 0, none⟩) m c) l)
    (hl : (row (n + t)).v.ownBlock = some g ∨ g = (w.alloc o).heap.size) :
    Lk B p gb cb ga n rest fr tw (setF row (n + t) ⟨some ⟨g, 0, none⟩, m, c⟩) (setF cont (n + t) l) (w9.setCell ⟨ga, t, none⟩ (.slice (some ⟨g, 0, none⟩) m c)) ∧ Below B w (w9.setCell ⟨ga, t, none⟩ (.slice (some ⟨g, 0, none⟩) m c)) := by
  obtain ⟨h1, h2, h3, h4⟩ := h.mid (k := n + t) (by omega) hg
  have hf := h.fm.grow (k := n + t) (by omega) ho hg hl
  obtain ⟨n1, n2, n3⟩ := h.ne_pb
  obtain ⟨hBg, Ca, haa⟩ := h3.blk (g := ga) rfl
  refine ⟨⟨h1.set_other ga _ _ n2, ?_, ?_, hf.setOther haa (by decide), ?_⟩, h4.setCell hBg _⟩
  · rw [bkI_hi]
    exact h2.set_other (fun e => by injection e with e; exact n3 e)
  · have hs := h3.set (k := t) (j := 0) (x := row (n + t)) (y := ⟨some ⟨g, 0, none⟩, m, c⟩) (v := .slice (some ⟨g, 0, none⟩) m c) (by unfold ahI; rw [List.getElem?_map, List.getElem?_range ht]; rfl) (by decide) rfl
    rw [ahI_set ht] at hs
    have e : t * tII.n + 0 = t := by show t * 1 + 0 = t; omega
    rw [e] at hs
    exact hs
  · have := h.hp
    have := (h4.setCell (p := ⟨ga, t, none⟩) hBg (.slice (some ⟨g, 0, none⟩) m c)).size
    omega
end
theorem link_ok (w : World) (B p gb cb ga n : Nat) (rest : List Value) (fr tw : Nat → Nat) (row : Nat → Sv) (cont : Nat → List Int) (h : Lk B p gb cb ga n rest fr tw row cont w) (a t : Nat) (ha : a < n) (ht : t < n) (hc : ∀ i, i < 2 * n + 1 → (cont i).length ≤ 1048576) :
    Calls Try.prog 98 #[.pointer (some ⟨p, 0, none⟩), .int .i64 (a : Int), .int .i64 (t : Int)] w fun e w' => e = .returned (.tuple #[]) ∧ Below B w w' ∧ ∃ row', (∀ i, i ≠ a → i ≠ n + t → row' i = row i) ∧ Lk B p gb cb ga n rest fr tw row' (setF (setF cont a (cont a ++ [(t : Int)])) (n + t) (cont (n + t) ++ [(a : Int)])) w' := by
  have H := Lib.hid h
  have ha' : (a : Int) < (n : Int) := by omega
  have ht' : (t : Int) < (n : Int) := by omega
  have ha0 : (0 : Int) ≤ (a : Int) := by omega
  have ht0 : (0 : Int) ≤ (t : Int) := by omega
  have kp : w.cell? ⟨p, 0, none⟩ = some (.slice (some ⟨gb, 0, none⟩) n cb) := h.pb.cell 0
  obtain ⟨va, hva⟩ : ∃ va, va = (row a).v := ⟨_, rfl⟩
  have kn : w.cell? ⟨gb, a * 3 + 2, none⟩ = some va := by rw [hva]; exact (h.cellK ha).2.2
  have HVA := Lib.hid hva
  have hca := hc a (by omega)
  have hct := hc (n + t) (by omega)
  clear h hva hc
  go_enter Try.func98, Try.ntmps98
  have cv : w.drew.cell? ⟨p, 0, none⟩ = some (.slice (some ⟨gb, 0, none⟩) n cb) ∧ w.drew.cell? ⟨gb, a * 3 + 2, none⟩ = some va := ⟨kp, kn⟩
  go_upto_region 0 with (fail)
  refine wp_region_last 18 (fun w' => w'.cell? ⟨p, 0, none⟩ = some (.slice (some ⟨gb, 0, none⟩) n cb) ∧ w'.cell? ⟨gb, a * 3 + 2, none⟩ = some va) mix ?_
  refine wpAnyL_take (i := 0) (v := .pointer (some ⟨p, 0, none⟩)) rfl (by kernel_rfl) (by kernel_rfl) (by kernel_rfl) (fun _ _ _ h => h) rfl (by kernel_rfl) (Or.inl ⟨by rfl, fun w' hw' => by (try go_split_ands); go_simp⟩) cv ?_
  simp only [Act.put, List.getElem_toArray, List.getElem_cons_zero, List.setIfInBounds_toArray, List.set_cons_zero, List.set_cons_succ]
  refine wpAnyL_take (i := 1) (v := .pointer (some ⟨p, 0, none⟩)) rfl (by kernel_rfl) (by kernel_rfl) (by kernel_rfl) (fun _ _ _ h => h) rfl (by kernel_rfl) (Or.inl ⟨by rfl, fun w' hw' => by (try go_split_ands); go_simp⟩) cv ?_
  simp only [Act.put, List.getElem_toArray, List.getElem_cons_zero, List.getElem_cons_succ, List.setIfInBounds_toArray, List.set_cons_zero, List.set_cons_succ]
  refine wpAnyL_take (i := 2) (v := .pointer (some ⟨p, 0, none⟩)) rfl (by kernel_rfl) (by kernel_rfl) (by kernel_rfl) (fun _ _ _ h => h) rfl (by kernel_rfl) (Or.inl ⟨by rfl, fun w' hw' => by (try go_split_ands); go_simp⟩) cv ?_
  simp only [Act.put, List.getElem_toArray, List.getElem_cons_zero, List.getElem_cons_succ, List.setIfInBounds_toArray, List.set_cons_zero, List.set_cons_succ]
  refine wpAnyL_take (i := 3) (v := .slice (some ⟨gb, 0, none⟩) n cb) rfl (by kernel_rfl) (by kernel_rfl) (by kernel_rfl) (fun _ _ _ h => h) rfl (by kernel_rfl) (Or.inl ⟨by rfl, fun w' hw' => by (try go_split_ands); go_simp⟩) cv ?_
  simp only [Act.put, List.getElem_toArray, List.getElem_cons_zero, List.getElem_cons_succ, List.setIfInBounds_toArray, List.set_cons_zero, List.set_cons_succ]
  refine wpAnyL_take (i := 4) (v := .int .i64 (a : Int)) rfl (by kernel_rfl) (by kernel_rfl) (by kernel_rfl) (fun _ _ _ h => h) rfl (by kernel_rfl) (Or.inl ⟨by rfl, fun w' hw' => by (try go_split_ands); go_simp⟩) cv ?_
  simp only [Act.put, List.getElem_toArray, List.getElem_cons_zero, List.getElem_cons_succ, List.setIfInBounds_toArray, List.set_cons_zero, List.set_cons_succ]
  refine wpAnyL_take (i := 5) (v := .pointer (some ⟨p, 0, none⟩)) rfl (by kernel_rfl) (by kernel_rfl) (by kernel_rfl) (fun _ _ _ h => h) rfl (by kernel_rfl) (Or.inl ⟨by rfl, fun w' hw' => by (try go_split_ands); go_simp⟩) cv ?_
  simp only [Act.put, List.getElem_toArray, List.getElem_cons_zero, List.getElem_cons_succ, List.setIfInBounds_toArray, List.set_cons_zero, List.set_cons_succ]
  refine wpAnyL_take (i := 6) (v := .pointer (some ⟨p, 0, none⟩)) rfl (by kernel_rfl) (by kernel_rfl) (by kernel_rfl) (fun _ _ _ h => h) rfl (by kernel_rfl) (Or.inl ⟨by rfl, fun w' hw' => by (try go_split_ands); go_simp⟩) cv ?_
  simp only [Act.put, List.getElem_toArray, List.getElem_cons_zero, List.getElem_cons_succ, List.setIfInBounds_toArray, List.set_cons_zero, List.set_cons_succ]
  refine wpAnyL_take (i := 7) (v := .pointer (some ⟨p, 0, none⟩)) rfl (by kernel_rfl) (by kernel_rfl) (by kernel_rfl) (fun _ _ _ h => h) rfl (by kernel_rfl) (Or.inl ⟨by rfl, fun w' hw' => by (try go_split_ands); go_simp⟩) cv ?_
  simp only [Act.put, List.getElem_toArray, List.getElem_cons_zero, List.getElem_cons_succ, List.setIfInBounds_toArray, List.set_cons_zero, List.set_cons_succ]
  refine wpAnyL_take (i := 8) (v := .slice (some ⟨gb, 0, none⟩) n cb) rfl (by kernel_rfl) (by kernel_rfl) (by kernel_rfl) (fun _ _ _ h => h) rfl (by kernel_rfl) (Or.inl ⟨by rfl, fun w' hw' => by (try go_split_ands); go_simp⟩) cv ?_
  simp only [Act.put, List.getElem_toArray, List.getElem_cons_zero, List.getElem_cons_succ, List.setIfInBounds_toArray, List.set_cons_zero, List.set_cons_succ]
  refine wpAnyL_take (i := 9) (v := .int .i64 (a : Int)) rfl (by kernel_rfl) (by kernel_rfl) (by kernel_rfl) (fun _ _ _ h => h) rfl (by kernel_rfl) (Or.inl ⟨by rfl, fun w' hw' => by (try go_split_ands); go_simp⟩) cv ?_
  simp only [Act.put, List.getElem_toArray, List.getElem_cons_zero, List.getElem_cons_succ, List.setIfInBounds_toArray, List.set_cons_zero, List.set_cons_succ]
  refine wpAnyL_take (i := 10) (v := .pointer (some ⟨gb, a * 3, none⟩)) rfl (by kernel_rfl) (by kernel_rfl) (by kernel_rfl) (fun _ _ _ h => h) rfl (by kernel_rfl) (Or.inl ⟨by rfl, fun w' hw' => by (try go_split_ands); go_simp⟩) cv ?_
  simp only [Act.put, List.getElem_toArray, List.getElem_cons_zero, List.getElem_cons_succ, List.setIfInBounds_toArray, List.set_cons_zero, List.set_cons_succ]
  refine wpAnyL_take (i := 11) (v := .pointer (some ⟨gb, a * 3 + 2, none⟩)) rfl (by kernel_rfl) (by kernel_rfl) (by kernel_rfl) (fun _ _ _ h => h) rfl (by kernel_rfl) (Or.inl ⟨by rfl, fun w' hw' => by (try go_split_ands); go_simp⟩) cv ?_
  simp only [Act.put, List.getElem_toArray, List.getElem_cons_zero, List.getElem_cons_succ, List.setIfInBounds_toArray, List.set_cons_zero, List.set_cons_succ]
  refine wpAnyL_take (i := 12) (v := va) rfl (by kernel_rfl) (by kernel_rfl) (by kernel_rfl) (fun _ _ _ h => h) rfl (by kernel_rfl) (Or.inl ⟨by rfl, fun w' hw' => by (try go_split_ands); go_simp⟩) cv ?_
  simp only [Act.put, List.getElem_toArray, List.getElem_cons_zero, List.getElem_cons_succ, List.setIfInBounds_toArray, List.set_cons_zero, List.set_cons_succ]
  refine wpAnyL_take (i := 13) (v := .int .i64 (t : Int)) rfl (by kernel_rfl) (by kernel_rfl) (by kernel_rfl) (fun _ _ _ h => h) rfl (by kernel_rfl) (Or.inl ⟨by rfl, fun w' hw' => by (try go_split_ands); go_simp⟩) cv ?_
  simp only [Act.put, List.getElem_toArray, List.getElem_cons_zero, List.getElem_cons_succ, List.setIfInBounds_toArray, List.set_cons_zero, List.set_cons_succ]
  refine wpAnyL_one (i := 14) (by kernel_rfl) rfl (fun K hK => ?_)
  go_simp
  have HA1 := Lib.hid (H.out.below (show Below w.heap.size w (w.alloc (.cells #[.int .i64 (t : Int)] 3)).drew from (bAl (bRefl w) _).drew))
  have HN1 := Lib.hid ((Blk.new w 3 #[.int .i64 (t : Int)]).drew)
  have ck1 : (w.alloc (.cells #[.int .i64 (t : Int)] 3)).drew.cell? ⟨p, 0, none⟩ = some (.slice (some ⟨gb, 0, none⟩) n cb) := HA1.out.pb.cell 0
  have cn1 : (w.alloc (.cells #[.int .i64 (t : Int)] 3)).drew.cell? ⟨gb, a * 3 + 2, none⟩ = some va := by rw [HVA.out]; exact (HA1.out.cellK ha).2.2
  have hz1 : w.heap.size < (w.alloc (.cells #[.int .i64 (t : Int)] 3)).drew.heap.size := HN1.out.lt
  refine hK.out _ _ (fun _ => ⟨ck1, cn1⟩) ?_
  clear hK K
  refine wpAnyL_one (i := 15) (by kernel_rfl) rfl (fun K hK => ?_)
  refine step_pushL tI rfl (.tmp 18) (.tmp 20) rfl B va (cont a) (by rfl) (by rw [HVA.out]; exact HA1.out.fm.own a (by omega)) w.heap.size 0 1 1 [((t : Int))] (by rfl) rfl (by simp) (rangeBlk HN1.out (by rfl)) (by simp; unfold maxLen; omega) (by show _ * 8 ≤ _; simp; omega) HA1.out.hp ?_
  intro g1 c1 w9 hown hgrow hl
  rw [HVA.out] at hgrow hl
  obtain ⟨m1, m2, m3, m4⟩ := H.out.mid (k := a) (by omega) (o := .cells #[.int .i64 (t : Int)] 3) (w9 := w9) ⟨hgrow.os, hgrow.tape, hgrow.output, hgrow.size, hgrow.block⟩
  have p9 : w9.cell? ⟨p, 0, none⟩ = some (.slice (some ⟨gb, 0, none⟩) n cb) := m1.cell 0
  have n9 : w9.cell? ⟨gb, a * 3 + 2, none⟩ = some va := by rw [HVA.out]; exact kCell m2 ha
  have f9 : w9.frozen? ⟨gb, a * 3 + 2, none⟩ = false := m2.frozen _
  have cv9 : w9.cell? ⟨p, 0, none⟩ = some (.slice (some ⟨gb, 0, none⟩) n cb) ∧ w9.cell? ⟨gb, a * 3 + 2, none⟩ = some va := ⟨p9, n9⟩
  simp only [Act.put, List.setIfInBounds_toArray]
  refine hK.out _ _ (fun _ => cv9) ?_
  clear hK K
  refine wpAnyL_one (i := 16) (by kernel_rfl) rfl (fun K hK => ?_)
  go_simp
  refine hK.out _ _ (fun _ => cv9) ?_
  clear hK K
  refine wpAnyL_one (i := 17) (by kernel_rfl) rfl (fun K hK => ?_)
  go_simp
  refine hK.out _ _ (fun _ => cv9) ?_
  clear hK K
  refine wpAnyL_one (i := 18) (by kernel_rfl) rfl (fun K hK => ?_)
  go_simp
  refine hK.out _ _ (fun h => absurd rfl h) ?_
  clear hK K
  refine wpAnyL_done (by kernel_rfl) ?_ _
  obtain ⟨k1, bel1⟩ := H.out.growK ha (o := .cells #[.int .i64 (t : Int)] 3) (w9 := w9) ⟨hgrow.os, hgrow.tape, hgrow.output, hgrow.size, hgrow.block⟩ (m := (cont a).length + 1) hown hl
  generalize w9.setCell ⟨gb, a * 3 + 2, none⟩ (.slice (some ⟨g1, 0, none⟩) ((cont a).length + 1) c1) = W at k1 bel1 ⊢
  obtain ⟨row1, hr1⟩ : ∃ r, r = setF row a ⟨some ⟨g1, 0, none⟩, (cont a).length + 1, c1⟩ := ⟨_, rfl⟩
  rw [← hr1] at k1
  have hc1 : setF cont a (cont a ++ [(t : Int)]) (n + t) = cont (n + t) := setF_ne (by omega)
  obtain ⟨cont1, hcc⟩ : ∃ c, c = setF cont a (cont a ++ [(t : Int)]) := ⟨_, rfl⟩
  rw [← hcc] at k1 hc1
  rw [← hc1] at hct
  have HC1 := Lib.hid hc1
  have HR1 := Lib.hid hr1
  have HCC := Lib.hid hcc
  have H1 := Lib.hid k1
  clear hr1 hc1 hcc hown hgrow hl m1 m2 m3 m4 p9 n9 f9 cv9 cv kp kn HVA HA1 HN1 ck1 cn1 hz1 hca H
  have kp : W.cell? ⟨p, 1, none⟩ = some (.slice (some ⟨ga, 0, none⟩) n n) := k1.pb.cell 1
  obtain ⟨vt, hvt⟩ : ∃ vt, vt = (row1 (n + t)).v := ⟨_, rfl⟩
  have kn : W.cell? ⟨ga, t, none⟩ = some vt := by rw [hvt]; exact k1.cellA ht
  have HVT := Lib.hid hvt
  have HB1 := Lib.hid bel1
  clear hvt k1 bel1 w9
  have cv : W.drew.cell? ⟨p, 1, none⟩ = some (.slice (some ⟨ga, 0, none⟩) n n) ∧ W.drew.cell? ⟨ga, t, none⟩ = some vt := ⟨kp, kn⟩
  go_upto_region 1 with (fail)
  refine wp_region_last 16 (fun w' => w'.cell? ⟨p, 1, none⟩ = some (.slice (some ⟨ga, 0, none⟩) n n) ∧ w'.cell? ⟨ga, t, none⟩ = some vt) mix ?_
  refine wpAnyL_take (i := 0) (v := .pointer (some ⟨p, 0, none⟩)) rfl (by kernel_rfl) (by kernel_rfl) (by kernel_rfl) (fun _ _ _ h => h) rfl (by kernel_rfl) (Or.inl ⟨by rfl, fun w' hw' => by (try go_split_ands); go_simp⟩) cv ?_
  simp only [Act.put, List.getElem_toArray, List.getElem_cons_zero, List.setIfInBounds_toArray, List.set_cons_zero, List.set_cons_succ]
  refine wpAnyL_take (i := 1) (v := .pointer (some ⟨p, 0, none⟩)) rfl (by kernel_rfl) (by kernel_rfl) (by kernel_rfl) (fun _ _ _ h => h) rfl (by kernel_rfl) (Or.inl ⟨by rfl, fun w' hw' => by (try go_split_ands); go_simp⟩) cv ?_
  simp only [Act.put, List.getElem_toArray, List.getElem_cons_zero, List.getElem_cons_succ, List.setIfInBounds_toArray, List.set_cons_zero, List.set_cons_succ]
  refine wpAnyL_take (i := 2) (v := .pointer (some ⟨p, 1, none⟩)) rfl (by kernel_rfl) (by kernel_rfl) (by kernel_rfl) (fun _ _ _ h => h) rfl (by kernel_rfl) (Or.inl ⟨by rfl, fun w' hw' => by (try go_split_ands); go_simp⟩) cv ?_
  simp only [Act.put, List.getElem_toArray, List.getElem_cons_zero, List.getElem_cons_succ, List.setIfInBounds_toArray, List.set_cons_zero, List.set_cons_succ]
  refine wpAnyL_take (i := 3) (v := .slice (some ⟨ga, 0, none⟩) n n) rfl (by kernel_rfl) (by kernel_rfl) (by kernel_rfl) (fun _ _ _ h => h) rfl (by kernel_rfl) (Or.inl ⟨by rfl, fun w' hw' => by (try go_split_ands); go_simp⟩) cv ?_
  simp only [Act.put, List.getElem_toArray, List.getElem_cons_zero, List.getElem_cons_succ, List.setIfInBounds_toArray, List.set_cons_zero, List.set_cons_succ]
  refine wpAnyL_take (i := 4) (v := .int .i64 (t : Int)) rfl (by kernel_rfl) (by kernel_rfl) (by kernel_rfl) (fun _ _ _ h => h) rfl (by kernel_rfl) (Or.inl ⟨by rfl, fun w' hw' => by (try go_split_ands); go_simp⟩) cv ?_
  simp only [Act.put, List.getElem_toArray, List.getElem_cons_zero, List.getElem_cons_succ, List.setIfInBounds_toArray, List.set_cons_zero, List.set_cons_succ]
  refine wpAnyL_take (i := 5) (v := .pointer (some ⟨p, 0, none⟩)) rfl (by kernel_rfl) (by kernel_rfl) (by kernel_rfl) (fun _ _ _ h => h) rfl (by kernel_rfl) (Or.inl ⟨by rfl, fun w' hw' => by (try go_split_ands); go_simp⟩) cv ?_
  simp only [Act.put, List.getElem_toArray, List.getElem_cons_zero, List.getElem_cons_succ, List.setIfInBounds_toArray, List.set_cons_zero, List.set_cons_succ]
  refine wpAnyL_take (i := 6) (v := .pointer (some ⟨p, 0, none⟩)) rfl (by kernel_rfl) (by kernel_rfl) (by kernel_rfl) (fun _ _ _ h => h) rfl (by kernel_rfl) (Or.inl ⟨by rfl, fun w' hw' => by (try go_split_ands); go_simp⟩) cv ?_
  simp only [Act.put, List.getElem_toArray, List.getElem_cons_zero, List.getElem_cons_succ, List.setIfInBounds_toArray, List.set_cons_zero, List.set_cons_succ]
  refine wpAnyL_take (i := 7) (v := .pointer (some ⟨p, 1, none⟩)) rfl (by kernel_rfl) (by kernel_rfl) (by kernel_rfl) (fun _ _ _ h => h) rfl (by kernel_rfl) (Or.inl ⟨by rfl, fun w' hw' => by (try go_split_ands); go_simp⟩) cv ?_
  simp only [Act.put, List.getElem_toArray, List.getElem_cons_zero, List.getElem_cons_succ, List.setIfInBounds_toArray, List.set_cons_zero, List.set_cons_succ]
  refine wpAnyL_take (i := 8) (v := .slice (some ⟨ga, 0, none⟩) n n) rfl (by kernel_rfl) (by kernel_rfl) (by kernel_rfl) (fun _ _ _ h => h) rfl (by kernel_rfl) (Or.inl ⟨by rfl, fun w' hw' => by (try go_split_ands); go_simp⟩) cv ?_
  simp only [Act.put, List.getElem_toArray, List.getElem_cons_zero, List.getElem_cons_succ, List.setIfInBounds_toArray, List.set_cons_zero, List.set_cons_succ]
  refine wpAnyL_take (i := 9) (v := .int .i64 (t : Int)) rfl (by kernel_rfl) (by kernel_rfl) (by kernel_rfl) (fun _ _ _ h => h) rfl (by kernel_rfl) (Or.inl ⟨by rfl, fun w' hw' => by (try go_split_ands); go_simp⟩) cv ?_
  simp only [Act.put, List.getElem_toArray, List.getElem_cons_zero, List.getElem_cons_succ, List.setIfInBounds_toArray, List.set_cons_zero, List.set_cons_succ]
  refine wpAnyL_take (i := 10) (v := .pointer (some ⟨ga, t, none⟩)) rfl (by kernel_rfl) (by kernel_rfl) (by kernel_rfl) (fun _ _ _ h => h) rfl (by kernel_rfl) (Or.inl ⟨by rfl, fun w' hw' => by (try go_split_ands); go_simp⟩) cv ?_
  simp only [Act.put, List.getElem_toArray, List.getElem_cons_zero, List.getElem_cons_succ, List.setIfInBounds_toArray, List.set_cons_zero, List.set_cons_succ]
  refine wpAnyL_take (i := 11) (v := vt) rfl (by kernel_rfl) (by kernel_rfl) (by kernel_rfl) (fun _ _ _ h => h) rfl (by kernel_rfl) (Or.inl ⟨by rfl, fun w' hw' => by (try go_split_ands); go_simp⟩) cv ?_
  simp only [Act.put, List.getElem_toArray, List.getElem_cons_zero, List.getElem_cons_succ, List.setIfInBounds_toArray, List.set_cons_zero, List.set_cons_succ]
  refine wpAnyL_take (i := 12) (v := .int .i64 (a : Int)) rfl (by kernel_rfl) (by kernel_rfl) (by kernel_rfl) (fun _ _ _ h => h) rfl (by kernel_rfl) (Or.inl ⟨by rfl, fun w' hw' => by (try go_split_ands); go_simp⟩) cv ?_
  simp only [Act.put, List.getElem_toArray, List.getElem_cons_zero, List.getElem_cons_succ, List.setIfInBounds_toArray, List.set_cons_zero, List.set_cons_succ]
  refine wpAnyL_one (i := 13) (by kernel_rfl) rfl (fun K hK => ?_)
  go_simp
  have HA1 := Lib.hid (H1.out.below (show Below W.heap.size W (W.alloc (.cells #[.int .i64 (a : Int)] 3)).drew from (bAl (bRefl W) _).drew))
  have HN1 := Lib.hid ((Blk.new W 3 #[.int .i64 (a : Int)]).drew)
  have ck1 : (W.alloc (.cells #[.int .i64 (a : Int)] 3)).drew.cell? ⟨p, 1, none⟩ = some (.slice (some ⟨ga, 0, none⟩) n n) := HA1.out.pb.cell 1
  have cn1 : (W.alloc (.cells #[.int .i64 (a : Int)] 3)).drew.cell? ⟨ga, t, none⟩ = some vt := by rw [HVT.out]; exact HA1.out.cellA ht
  refine hK.out _ _ (fun _ => ⟨ck1, cn1⟩) ?_
  clear hK K
  refine wpAnyL_one (i := 14) (by kernel_rfl) rfl (fun K hK => ?_)
  refine step_pushL tI rfl (.tmp 35) (.tmp 37) rfl B vt (cont1 (n + t)) (by rfl) (by rw [HVT.out]; exact HA1.out.fm.own (n + t) (by omega)) W.heap.size 0 1 1 [((a : Int))] (by rfl) rfl (by simp) (rangeBlk HN1.out (by rfl)) (by simp; unfold maxLen; omega) (by show _ * 8 ≤ _; simp; omega) HA1.out.hp ?_
  intro g1 c1 w9 hown hgrow hl
  rw [HVT.out] at hgrow hl
  obtain ⟨m1, m2, m3, m4⟩ := H1.out.mid (k := n + t) (by omega) (o := .cells #[.int .i64 (a : Int)] 3) (w9 := w9) ⟨hgrow.os, hgrow.tape, hgrow.output, hgrow.size, hgrow.block⟩
  have p9 : w9.cell? ⟨p, 1, none⟩ = some (.slice (some ⟨ga, 0, none⟩) n n) := m1.cell 1
  have n9 : w9.cell? ⟨ga, t, none⟩ = some vt := by rw [HVT.out]; exact aCell m3 ht
  have f9 : w9.frozen? ⟨ga, t, none⟩ = false := m3.frozen _
  have cv9 : w9.cell? ⟨p, 1, none⟩ = some (.slice (some ⟨ga, 0, none⟩) n n) ∧ w9.cell? ⟨ga, t, none⟩ = some vt := ⟨p9, n9⟩
  simp only [Act.put, List.setIfInBounds_toArray]
  refine hK.out _ _ (fun _ => cv9) ?_
  clear hK K
  refine wpAnyL_one (i := 15) (by kernel_rfl) rfl (fun K hK => ?_)
  go_simp
  refine hK.out _ _ (fun _ => cv9) ?_
  clear hK K
  refine wpAnyL_one (i := 16) (by kernel_rfl) rfl (fun K hK => ?_)
  go_simp
  refine hK.out _ _ (fun h => absurd rfl h) ?_
  clear hK K
  refine wpAnyL_done (by kernel_rfl) ?_ _
  go_end0
  obtain ⟨k2, bel2⟩ := H1.out.growA ht (o := .cells #[.int .i64 (a : Int)] 3) (w9 := w9) ⟨hgrow.os, hgrow.tape, hgrow.output, hgrow.size, hgrow.block⟩ (m := (cont1 (n + t)).length + 1) hown hl
  have e : setF cont1 (n + t) (cont1 (n + t) ++ [(a : Int)]) = setF (setF cont a (cont a ++ [(t : Int)])) (n + t) (cont (n + t) ++ [(a : Int)]) := by rw [HC1.out, HCC.out]
  rw [e] at k2
  exact ⟨rfl, HB1.out.trans bel2, _, fun i h1 h2 => (setF_ne h2).trans ((congrFun HR1.out i).trans (setF_ne h1)), k2⟩
end Go.Proofs.Ytpiiefdaaijgbaa
