/- The program's walk: the order of the blocks, and their places. -/
import Derived.Test.YtpiiefdaaijgbaaFStr
import Derived.Test.YtpiiefdaaijgbaaFRev
import Derived.Test.YtpiiefdaaijgbaaFMk
import Derived.Test.YtpiiefdaaijgbaaFLead
import Derived.Deep.LoopGhost
namespace Go.Proofs.Ytpiiefdaaijgbaa
open Go Go.RowKit Go.Wr Go.Fl
set_option maxHeartbeats 4000000
set_option maxRecDepth 100000

theorem Ex.fq {p q : Nat} {T : TypeId} {B : Nat} {a w w' : World} (h : Ex p a w) (f : Fq q T B w w') (hq : a.heap.size ≤ q) (hB : a.heap.size ≤ B) : Ex p a w' :=
  ⟨f.os.trans h.os, f.tape.trans h.tape, f.output.trans h.output, Nat.le_trans h.size f.size, fun k hk hp => by
    have h1 := h.block k hk hp
    rw [← h1]
    have hlt : k < w.heap.size := by have := h.size; omega
    rw [Array.getElem?_eq_getElem hlt]
    exact f.block k _ (Array.getElem?_eq_getElem hlt) (by omega) (Or.inl (by omega))⟩
abbrev sn : Value := .slice none 0 0
/-- While the blocks are walked: the flow at p, the set at pS, what waits at pT. -/
structure Wv (w : World) (p n pS gS pT : Nat) (vb va vo : Value) (V : Nat → Bool) (S : List (Nat × Nat)) (O : List Nat) (vr : Value) (wr : World) : Prop where
  ex : Ex p w wr
  pb : Blk wr p 93 #[vb, va, vo, vr, sn, sn, sn]
  st : St w.heap.size pS gS n V wr
  ss : Ss w.heap.size pT S.reverse wr
  ow : OwR tI w.heap.size wr vr (nI O)
section
variable {w wr w' : World} {p n pS gS pT : Nat} {vb va vo : Value} {V : Nat → Bool} {S : List (Nat × Nat)} {O : List Nat} {vr : Value}
theorem Wv.hT (h : Wv w p n pS gS pT vb va vo V S O vr wr) : w.heap.size ≤ pT := by obtain ⟨v, _, _, h3⟩ := h.ss; exact h3
theorem Wv.ne (h : Wv w p n pS gS pT vb va vo V S O vr wr) : pT ≠ p ∧ pT ≠ pS ∧ pT ≠ gS ∧ pS ≠ p ∧ gS ≠ p := by
  obtain ⟨v, h1, _, _⟩ := h.ss
  obtain ⟨_, C, hg⟩ := h.st.gb.blk (g := gS) rfl
  exact ⟨blk_ne h1 h.pb (by decide), blk_ne h1 h.st.pb (by decide), blk_ne h1 hg (by decide), blk_ne h.st.pb h.pb (by decide), blk_ne hg h.pb (by decide)⟩
theorem Wv.fq (h : Wv w p n pS gS pT vb va vo V S O vr wr) (f : Fq pT 140 w.heap.size wr w') {S' : List (Nat × Nat)} (hs : Ss w.heap.size pT S'.reverse w') : Wv w p n pS gS pT vb va vo V S' O vr w' := by
  obtain ⟨n1, n2, n3, _, _⟩ := h.ne
  obtain ⟨v, h1, _, _⟩ := h.ss
  exact ⟨Ex.fq h.ex f h.hT (Nat.le_refl _), f.blk h.pb n1.symm (Or.inr (by decide)), h.st.fq f n2.symm n3.symm (by decide) (by decide), hs, f.own h.ow (h.ow.ne h1 (by decide)) (Or.inr (by decide))⟩
theorem Wv.below (h : Wv w p n pS gS pT vb va vo V S O vr wr) (b : Below wr.heap.size wr w') : Wv w p n pS gS pT vb va vo V S O vr w' :=
  ⟨h.ex.trans (Ex.of_below b), h.pb.below b h.pb.lt, h.st.below b, h.ss.below b, h.ow.below b⟩
theorem Wv.mark (h : Wv w p n pS gS pT vb va vo V S O vr wr) {i : Nat} (hi : i < n) : Wv w p n pS gS pT vb va vo (Fl.mark V i) S O vr (wr.setCell ⟨gS, i, none⟩ (.bool true)) := by
  obtain ⟨n1, n2, n3, n4, n5⟩ := h.ne
  obtain ⟨_, C, hg⟩ := h.st.gb.blk (g := gS) rfl
  exact ⟨h.ex.set_new _ _ h.st.hg, h.pb.set_other gS _ _ n5.symm, h.st.mark hi, h.ss.setOther hg (by decide) (by decide), h.ow.set_other (h.ow.ne hg (by decide))⟩
/-- A block is put behind the order. -/
theorem Wv.put (h : Wv w p n pS gS pT vb va vo V S O vr wr) {v' : Value} {b : Nat} (ho : OwR tI w.heap.size w' v' (nI (O ++ [b]))) (hg : wr.grownBy w' vr.ownBlock) : Wv w p n pS gS pT vb va vo V S (O ++ [b]) v' (w'.setCell ⟨p, 3, none⟩ v') := by
  obtain ⟨n1, n2, n3, n4, n5⟩ := h.ne
  obtain ⟨_, C, hgB⟩ := h.st.gb.blk (g := gS) rfl
  have hpb : Blk w' p 93 #[vb, va, vo, vr, sn, sn, sn] := h.pb.of_block (hg.block p h.pb.lt (fun e => h.ow.ne h.pb (by decide) e.symm))
  have hst : St w.heap.size pS gS n V w' := h.st.keep (hg.block pS h.st.pb.lt (fun e => h.ow.ne h.st.pb (by decide) e.symm)) (hg.block gS hgB.lt (fun e => h.ow.ne hgB (by decide) e.symm))
  have hss : Ss w.heap.size pT S.reverse w' := h.ss.keep fun k T C hT hk => hg.block k hk.lt (fun e => h.ow.ne hk (by rcases hT with rfl | rfl <;> decide) e.symm)
  refine ⟨(h.ex.grown hg fun g e => (h.ow.blk e).1).set 3 v', (hpb.set 3 v').eq rfl, ?_, ?_, ho.set_other (ho.ne hpb (by decide))⟩
  · exact hst.keep (Below.heap_setCell w' ⟨p, 3, none⟩ v' pS n4) (Below.heap_setCell w' ⟨p, 3, none⟩ v' gS n5)
  · exact hss.setOther hpb (by decide) (by decide)
end
theorem Vs.len {nx : Nat → List Nat} {m b k : Nat} {s s' : Sg} (h : Vs nx m b k s s') : s.2.length + 1 ≤ s'.2.length := by
  induction h with
  | fin => simp
  | skip _ _ _ ih => exact ih
  | down _ _ _ _ ih1 ih2 => simp only at ih1; omega
theorem Run.len {nx : Nat → List Nat} {m : Nat} {S : List (Nat × Nat)} {s s' : Sg} (h : Run nx m S s s') : s.2.length + S.length ≤ s'.2.length := by
  induction h with
  | nil => simp
  | cons hv _ ih => have := Vs.len hv; simp only [List.length_cons]; omega
/-- The same, and only the row's own block turns. -/
theorem pushS_own (w : World) (B p : Nat) (v : Value) (l : List (Nat × Nat)) (h1 : Blk w p 137 #[v]) (h2 : OwR tS B w v (nS l)) (h3 : B ≤ p) (hl : l.length ≤ 1048576) (x y : Nat) :
    Calls Try.prog 99 #[.pointer (some ⟨p, 0, none⟩), .agg #[.int .i64 (x : Int), .int .i64 (y : Int)]] w fun e w' => e = .returned (.tuple #[]) ∧ Ss B p (l ++ [(x, y)]) w' ∧ Fq p 140 B w w' ∧ ∀ k, k < w.heap.size → k ≠ p → v.ownBlock ≠ some k → w'.heap[k]? = w.heap[k]? := by
  have H1 := Lib.hid h1
  have H2 := Lib.hid h2
  have hpl := h1.lt
  clear h1 h2
  go_enter Try.func99, Try.ntmps99
  go_upto_region 1 with (fail)
  generalize hW : w.alloc (.cells #[.int .i64 (x : Int), .int .i64 (y : Int)] 140) = W
  have PX : Blk W w.heap.size 140 #[.int .i64 (x : Int), .int .i64 (y : Int)] := by rw [← hW]; exact Blk.new _ _ _
  have P1 : Blk W p 137 #[v] := by rw [← hW]; exact H1.out.alloc _
  have O1 : OwR tS B W v (nS l) := by rw [← hW]; exact H2.out.alloc _
  have F1 : Fq p 140 B w W := by rw [← hW]; exact (Fq.refl _ _ _ _).alloc _
  have hsz : w.heap.size < W.heap.size := PX.lt
  have x0 : W.cell? ⟨w.heap.size, 0, none⟩ = some (.int .i64 (x : Int)) := PX.cell 0
  have x1 : W.cell? ⟨w.heap.size, 1, none⟩ = some (.int .i64 (y : Int)) := PX.cell 1
  have cp : W.cell? ⟨p, 0, none⟩ = some v := P1.cell 0
  have HP := Lib.hid P1
  have HO := Lib.hid O1
  have HF := Lib.hid F1
  have HE := Lib.hid (show Below w.heap.size w W by rw [← hW]; exact bAl (bRefl w) _)
  have hvq : v.ownBlock ≠ some w.heap.size := fun e => by have := H2.out.lt e; omega
  have HX := Lib.hid PX
  clear hW PX P1 O1 F1 H1 H2
  obtain ⟨q, hq⟩ : ∃ q, q = w.heap.size := ⟨_, rfl⟩
  rw [← hq] at x0 x1 hsz hpl hvq HX ⊢
  have hFw : Fq p 140 B w W := HF.out
  clear HF
  have HFw := Lib.hid hFw
  clear hFw hq
  have cv : W.drew.cell? ⟨p, 0, none⟩ = some v ∧ W.drew.cell? ⟨q, 0, none⟩ = some (.int .i64 (x : Int)) ∧ W.drew.cell? ⟨q, 1, none⟩ = some (.int .i64 (y : Int)) := ⟨cp, x0, x1⟩
  refine wp_region_last 10 (fun w' => w'.cell? ⟨p, 0, none⟩ = some v ∧ w'.cell? ⟨q, 0, none⟩ = some (.int .i64 (x : Int)) ∧ w'.cell? ⟨q, 1, none⟩ = some (.int .i64 (y : Int))) mix ?_
  refine wpAnyL_take (i := 0) (v := .pointer (some ⟨p, 0, none⟩)) rfl (by kernel_rfl) (by kernel_rfl) (by kernel_rfl) (fun _ _ _ h => h) rfl (by kernel_rfl) (Or.inl ⟨by rfl, fun w' hw' => by (try go_split_ands); go_simp⟩) cv ?_
  simp only [Act.put, List.getElem_toArray, List.getElem_cons_zero, List.setIfInBounds_toArray, List.set_cons_zero, List.set_cons_succ]
  refine wpAnyL_take (i := 1) (v := .pointer (some ⟨p, 0, none⟩)) rfl (by kernel_rfl) (by kernel_rfl) (by kernel_rfl) (fun _ _ _ h => h) rfl (by kernel_rfl) (Or.inl ⟨by rfl, fun w' hw' => by (try go_split_ands); go_simp⟩) cv ?_
  simp only [Act.put, List.getElem_toArray, List.getElem_cons_zero, List.getElem_cons_succ, List.setIfInBounds_toArray, List.set_cons_zero, List.set_cons_succ]
  refine wpAnyL_take (i := 2) (v := .pointer (some ⟨p, 0, none⟩)) rfl (by kernel_rfl) (by kernel_rfl) (by kernel_rfl) (fun _ _ _ h => h) rfl (by kernel_rfl) (Or.inl ⟨by rfl, fun w' hw' => by (try go_split_ands); go_simp⟩) cv ?_
  simp only [Act.put, List.getElem_toArray, List.getElem_cons_zero, List.getElem_cons_succ, List.setIfInBounds_toArray, List.set_cons_zero, List.set_cons_succ]
  refine wpAnyL_take (i := 3) (v := .pointer (some ⟨p, 0, none⟩)) rfl (by kernel_rfl) (by kernel_rfl) (by kernel_rfl) (fun _ _ _ h => h) rfl (by kernel_rfl) (Or.inl ⟨by rfl, fun w' hw' => by (try go_split_ands); go_simp⟩) cv ?_
  simp only [Act.put, List.getElem_toArray, List.getElem_cons_zero, List.getElem_cons_succ, List.setIfInBounds_toArray, List.set_cons_zero, List.set_cons_succ]
  refine wpAnyL_take (i := 4) (v := v) rfl (by kernel_rfl) (by kernel_rfl) (by kernel_rfl) (fun _ _ _ h => h) rfl (by kernel_rfl) (Or.inl ⟨by rfl, fun w' hw' => by (try go_split_ands); go_simp⟩) cv ?_
  simp only [Act.put, List.getElem_toArray, List.getElem_cons_zero, List.getElem_cons_succ, List.setIfInBounds_toArray, List.set_cons_zero, List.set_cons_succ]
  refine wpAnyL_take (i := 5) (v := .agg #[.int .i64 (x : Int), .int .i64 (y : Int)]) rfl (by kernel_rfl) (by kernel_rfl) (by kernel_rfl) (fun _ _ _ h => h) rfl (by kernel_rfl) (Or.inl ⟨by rfl, fun w' hw' => by (try go_split_ands); go_simp⟩) cv ?_
  simp only [Act.put, List.getElem_toArray, List.getElem_cons_zero, List.getElem_cons_succ, List.setIfInBounds_toArray, List.set_cons_zero, List.set_cons_succ]
  refine wpAnyL_one (i := 6) (by kernel_rfl) rfl (fun K hK => ?_)
  go_simp
  have HP6 := Lib.hid ((HP.out.alloc (.cells #[.int .i64 (x : Int), .int .i64 (y : Int)] 140)).drew)
  have HX6 := Lib.hid ((HX.out.alloc (.cells #[.int .i64 (x : Int), .int .i64 (y : Int)] 140)).drew)
  have HO6 := Lib.hid ((HO.out.alloc (.cells #[.int .i64 (x : Int), .int .i64 (y : Int)] 140)).drew)
  have HN6 := Lib.hid ((Blk.new W 140 #[.int .i64 (x : Int), .int .i64 (y : Int)]).drew)
  have HF6 := Lib.hid ((HFw.out.alloc (.cells #[.int .i64 (x : Int), .int .i64 (y : Int)] 140)).drew)
  have hz6 : W.heap.size < (W.alloc (.cells #[.int .i64 (x : Int), .int .i64 (y : Int)] 140)).drew.heap.size := HN6.out.lt
  have HE6 := Lib.hid (show Below w.heap.size w (W.alloc (.cells #[.int .i64 (x : Int), .int .i64 (y : Int)] 140)).drew from (HE.out.alloc (by simpa using HE.out.size) _).drew)
  generalize (W.alloc (.cells #[.int .i64 (x : Int), .int .i64 (y : Int)] 140)).drew = W6 at HP6 HX6 HO6 HN6 HF6 HE6 hz6 ⊢
  refine hK.out _ _ (fun _ => ⟨HP6.out.cell 0, HX6.out.cell 0, HX6.out.cell 1⟩) ?_
  clear hK K
  refine wpAnyL_one (i := 7) (by kernel_rfl) rfl (fun K hK => ?_)
  refine step_push tS rfl (.tmp 8) (.tmp 10) rfl B v (nS l) (by rfl) HO6.out W.heap.size 0 1 1 [((x : Int), (y : Int))] (by rfl) rfl (rangeBlk HN6.out (by rfl)) (by rw [nS_len]; unfold maxLen; simp; omega) (by rw [nS_len]; show _ * 16 ≤ _; simp; omega) (by omega) ?_
  intro v' w9 hown hgrow hform
  obtain ⟨g', c', rfl, _⟩ := hform (by simp)
  have hp9 := HP6.out.of_block (hgrow.block p HP6.out.lt (fun e => HO6.out.ne HP6.out (by decide) e.symm))
  have hx9 := HX6.out.of_block (hgrow.block q HX6.out.lt (fun e => hvq e.symm))
  simp only [Act.put, List.setIfInBounds_toArray]
  refine hK.out _ _ (fun _ => ⟨hp9.cell 0, hx9.cell 0, hx9.cell 1⟩) ?_
  clear hK K
  have c9 : w9.cell? ⟨p, 0, none⟩ = some v := hp9.cell 0
  have f9 := hp9.frozen 0
  have cv9 : w9.cell? ⟨p, 0, none⟩ = some v ∧ w9.cell? ⟨q, 0, none⟩ = some (.int .i64 (x : Int)) ∧ w9.cell? ⟨q, 1, none⟩ = some (.int .i64 (y : Int)) := ⟨hp9.cell 0, hx9.cell 0, hx9.cell 1⟩
  refine wpAnyL_one (i := 8) (by kernel_rfl) rfl (fun K hK => ?_)
  go_simp
  refine hK.out _ _ (fun _ => cv9) ?_
  clear hK K
  refine wpAnyL_one (i := 9) (by kernel_rfl) rfl (fun K hK => ?_)
  go_simp
  refine hK.out _ _ (fun _ => cv9) ?_
  clear hK K
  refine wpAnyL_one (i := 10) (by kernel_rfl) rfl (fun K hK => ?_)
  go_simp
  refine hK.out _ _ (fun h => absurd rfl h) ?_
  clear hK K
  refine wpAnyL_done (by kernel_rfl) ?_ _
  go_end0
  have hO : OwR tS B w9 (.slice (some ⟨g', 0, none⟩) ((nS l).length + 1) c') (nS (l ++ [(x, y)])) := by rw [nS_app]; exact hown
  have hne : (Value.slice (some ⟨g', 0, none⟩) ((nS l).length + 1) c').ownBlock ≠ some p := hO.ne hp9 (by decide)
  refine ⟨rfl, ⟨_, (hp9.set 0 _).eq rfl, hO.set_other hne, h3⟩, ?_⟩
  refine ⟨(HF6.out.grown (R := tS) HO6.out hgrow).set 0 _, fun k hk hkp hkv => ?_⟩
  rw [Below.heap_setCell w9 ⟨p, 0, none⟩ _ k hkp, hgrow.block k (by have := HE6.out.size; omega) (fun e => hkv e.symm), HE6.out.block k hk]
theorem pushS_eq (w : World) (B p : Nat) (v : Value) (l : List (Nat × Nat)) (h1 : Blk w p 137 #[v]) (h2 : OwR tS B w v (nS l)) (h3 : B ≤ p) (hl : l.length ≤ 1048576) (x y : Nat) (yi : Int) (hy : yi = (y : Int)) :
    Calls Try.prog 99 #[.pointer (some ⟨p, 0, none⟩), .agg #[.int .i64 (x : Int), .int .i64 yi]] w fun e w' => e = .returned (.tuple #[]) ∧ Ss B p (l ++ [(x, y)]) w' ∧ Fq p 140 B w w' ∧ ∀ k, k < w.heap.size → k ≠ p → v.ownBlock ≠ some k → w'.heap[k]? = w.heap[k]? := by
  subst hy
  exact pushS_own w B p v l h1 h2 h3 hl x y
/-- While the places are written. -/
structure Wp (w : World) (p gp n : Nat) (vb va vo vr : Value) (lr l : List Int) (wr : World) : Prop where
  ex : Ex p w wr
  pb : Blk wr p 93 #[vb, va, vo, vr, .slice (some ⟨gp, 0, none⟩) n n, sn, sn]
  ow : OwR tI w.heap.size wr vr lr
  pp : OwR tI w.heap.size wr (.slice (some ⟨gp, 0, none⟩) n n) l
  ne : vr.ownBlock ≠ some gp
theorem Wp.set {w wr : World} {p gp n : Nat} {vb va vo vr : Value} {lr l : List Int} (h : Wp w p gp n vb va vo vr lr l wr) {k : Nat} {x : Int} (hk : k < l.length) : Wp w p gp n vb va vo vr lr (l.set k x) (wr.setCell ⟨gp, k, none⟩ (.int .i64 x)) := by
  obtain ⟨hB, C, hg⟩ := h.pp.blk (g := gp) rfl
  have hs := h.pp.set (k := k) (j := 0) (x := l[k]) (y := x) (v := .int .i64 x) (List.getElem?_eq_getElem hk) (by decide) rfl
  have e : k * tI.n + 0 = k := by show k * 1 + 0 = k; omega
  rw [e] at hs
  exact ⟨h.ex.set_new _ _ hB, h.pb.set_other gp _ _ (blk_ne h.pb hg (by decide)), h.ow.set_other h.ne, hs, h.ne⟩
/-- The places that the first k of the order give. -/
def plK (D : List Nat) (n k : Nat) : List Int := (List.range n).map fun b => if b ∈ D.reverse.take k then (plc D b : Int) else -1
theorem plK_len (D : List Nat) (n k : Nat) : (plK D n k).length = n := by simp [plK]
theorem plK_zero (D : List Nat) (n : Nat) : plK D n 0 = List.replicate n (-1) := by
  apply List.ext_getElem?
  intro i
  unfold plK
  by_cases h : i < n <;> simp [h]
theorem plK_succ {D : List Nat} (hD : D.Nodup) (n k x : Nat) (hx : D.reverse[k]? = some x) (hn : x < n) : (plK D n k).set x (k : Int) = plK D n (k + 1) := by
  have hk : k < D.reverse.length := (List.getElem?_eq_some_iff.1 hx).1
  have hplc : plc D x = k := by
    unfold plc
    have e := (List.getElem?_eq_some_iff.1 hx).2
    rw [← e]
    exact List.Nodup.idxOf_getElem (nd_rev hD) k hk
  apply List.ext_getElem?
  intro i
  rw [List.getElem?_set, plK_len]
  unfold plK
  by_cases hi : i < n
  · rw [List.getElem?_map, List.getElem?_map, List.getElem?_range hi, List.take_add_one, hx]
    by_cases e : x = i
    · subst e
      simp [hn, hplc]
    · have e' : ¬ i = x := fun h => e h.symm
      simp [e, e']
  · have h1 : ((List.range n).map fun b => if b ∈ D.reverse.take k then (plc D b : Int) else -1)[i]? = none := List.getElem?_eq_none (by simp; omega)
    have h2 : ((List.range n).map fun b => if b ∈ D.reverse.take (k + 1) then (plc D b : Int) else -1)[i]? = none := List.getElem?_eq_none (by simp; omega)
    rw [h1, h2]
    split
    · exfalso; omega
    · rfl
/-- The first k are -1. -/
def miK (n k : Nat) : List Int := (List.range n).map fun b => if b < k then -1 else 0
theorem miK_len (n k : Nat) : (miK n k).length = n := by simp [miK]
theorem miK_succ (n k : Nat) : (miK n k).set k (-1) = miK n (k + 1) := by
  apply List.ext_getElem?
  intro i
  rw [List.getElem?_set, miK_len]
  unfold miK
  by_cases hi : i < n
  · rw [List.getElem?_map, List.getElem?_map, List.getElem?_range hi]
    by_cases e : k = i
    · subst e; simp [hi]
    · have : (i < k + 1) ↔ i < k := by omega
      simp [e, this]
  · have h1 : ((List.range n).map fun b => if b < k then (-1 : Int) else 0)[i]? = none := List.getElem?_eq_none (by simp; omega)
    have h2 : ((List.range n).map fun b => if b < k + 1 then (-1 : Int) else 0)[i]? = none := List.getElem?_eq_none (by simp; omega)
    rw [h1, h2]
    split
    · rw [if_neg (by omega)]
    · rfl
theorem miK_zero (n : Nat) : miK n 0 = List.replicate n 0 := by
  apply List.ext_getElem?
  intro i
  unfold miK
  by_cases h : i < n <;> simp [h]
theorem miK_all (D : List Nat) (n : Nat) : miK n n = plK D n 0 := by
  rw [plK_zero]
  apply List.ext_getElem?
  intro i
  unfold miK
  by_cases h : i < n <;> simp [h]
theorem walk_ok (w : World) (p n : Nat) (nx : Nat → List Nat) (hn : ∀ u, u < n → ∀ v ∈ nx u, v < n) (h0 : 0 < n) (hn2 : n ≤ 1048576) (hx2 : ∀ u, (nx u).length ≤ 1048576) (D : List Nat) (hD : DfsL nx D) (hDn : D.length ≤ n) (hDl : ∀ b ∈ D, b < n)
    (vb va vo : Value) (bs : List Bk) (hf : FwR p n nx vb bs w) (hb : Blk w p 93 #[vb, va, vo, sn, sn, sn, sn]) :
    Calls Try.prog 66 #[.pointer (some ⟨p, 0, none⟩)] w fun e w' => e = .returned (.tuple #[]) ∧ Ex p w w' ∧ ∃ vr vp, Blk w' p 93 #[vb, va, vo, vr, vp, sn, sn] ∧ OwR tI w.heap.size w' vr (nI D.reverse) ∧ OwR tI w.heap.size w' vp ((List.range n).map fun b => if b ∈ D then (plc D b : Int) else -1) := by
  obtain ⟨a0, cap, rfl, h1, h2⟩ := hf.sb.form
  have hln := hf.ln
  have f0 := hf.f0
  rw [hln] at f0 h1
  have hDd := hD.po.nd
  have hDne : D ≠ [] := fun e => by have := hD.po.z0; rw [e] at this; cases this
  obtain ⟨m0, B0, hv0⟩ := hD
  have hR0 : Run nx (m0 + 0) [(0, 0)] (Fl.mark (fun _ => false) 0, []) (B0, D) := Run.cons hv0 Run.nil
  have HR0 := Lib.hid hR0
  have hpl := hb.lt
  obtain ⟨bb, off, rfl, hbp, hat0⟩ := hf.sb.get (show bs[0]? = some (bs[0]'(by omega)) from List.getElem?_eq_getElem _)
  have HB := Lib.hid hb
  have HF := Lib.hid hf
  have HN := Lib.hid hn
  have HX := Lib.hid hx2
  have HLN := Lib.hid hln
  have HDL := Lib.hid hDl
  have HND := Lib.hid (And.intro hDd hDne)
  unfold maxLen at h2
  clear hat0 hDd hDne hR0 hv0 hb hf hn hx2 hln hDl
  go_enter Try.func66, Try.ntmps66
  go_wp2_with fail
  refine (newSet_ok _ n (by omega)).mono ?_
  rintro e w1 ⟨b1, pS, gS, rfl, hst⟩
  have HB1 := Lib.hid (HB.out.below b1 HB.out.lt)
  have HS1 := Lib.hid hst
  have HE1 := Lib.hid b1
  clear hst b1
  go_wp2_with fail
  refine (add_new _ w.heap.size pS gS n (fun _ => false) (HS1.out.below (bAl (bRefl _) _)) 0 (by omega) (by omega) rfl).mono ?_
  rintro e w2 ⟨rfl, rfl⟩
  go_wp2_with fail
  have hS2 := (HS1.out.below (bAl (bRefl w1) (.cells #[.slice none 0 0] 137)))
  have hgb := hS2.gb.blk (g := gS) rfl
  have hw0 : Wv w p n pS gS w1.heap.size (.slice (some ⟨bb, off, none⟩) bs.length cap) va vo (Fl.mark (fun _ => false) 0) [] [] sn ((w1.alloc (.cells #[.slice none 0 0] 137)).setCell ⟨gS, 0, none⟩ (.bool true)) := by
    have hq : Wv w p n pS gS w1.heap.size (.slice (some ⟨bb, off, none⟩) bs.length cap) va vo (fun _ => false) [] [] sn (w1.alloc (.cells #[.slice none 0 0] 137)) :=
      ⟨(Ex.of_below HE1.out).alloc _, HB1.out.alloc _, hS2, ⟨_, Blk.new _ _ _, OwR.nil _ _, HE1.out.size⟩, OwR.nil _ _⟩
    exact hq.mark h0
  obtain ⟨pT, hpT⟩ : ∃ q, q = w1.heap.size := ⟨_, rfl⟩
  rw [← hpT] at hw0 ⊢
  have HW0 := Lib.hid hw0
  clear hw0 hgb hS2 hpT
  refine (pushS_ok _ w.heap.size pT [] HW0.out.ss (by simp) 0 0).mono ?_
  rintro e w2 ⟨rfl, hss, hfq⟩
  have HW := Lib.hid (HW0.out.fq (S' := [(0, 0)]) hfq hss)
  clear hss hfq HW0 HB1 HS1 HE1
  go_wp2
  go_loopg [] (m0 + 0) (fun m wr => ∃ (V : Nat → Bool) (S : List (Nat × Nat)) (O : List Nat) (vr : Value), Hid (Wv w p n pS gS pT (.slice (some ⟨bb, off, none⟩) bs.length cap) va vo V S O vr wr) ∧ Hid (Run nx m S (V, O) (B0, D)) ∧ Hid (∀ x ∈ S, x.1 < n))
  case atStart => exact ⟨_, _, _, _, HW.out, HR0.out, (fun x hx => by simp at hx; subst hx; exact h0)⟩
  case round =>
    clear HW HR0
    obtain ⟨V, S, O, vr, hW, hR, hS⟩ := hrel
    cases S with
    | nil =>
      have hOD : O = D := by
        have h := hR.out
        generalize hS0 : ([] : List (Nat × Nat)) = S0 at h
        generalize hs0 : (V, O) = s0 at h
        generalize hs1 : (B0, D) = s1 at h
        cases h with
        | nil => rw [← hs0] at hs1; injection hs1 with _ h; exact h.symm
        | cons => cases hS0
      subst hOD
      have HR1 := Lib.hid hDn
      clear hR hS
      go_wp2_with fail
      refine (popS_none _ w.heap.size pT hW.out.ss).mono ?_
      rintro e w3 ⟨rfl, b3⟩
      have HW3 := Lib.hid (hW.out.below b3)
      clear b3 hW
      go_upto_region 13 with (fail)
      have HE := Lib.hid (HW3.out.ex.alloc (.cells #[.int .i64 0, .int .i64 0] 140))
      have HPB := Lib.hid (HW3.out.pb.alloc (.cells #[.int .i64 0, .int .i64 0] 140))
      have HOW := Lib.hid (HW3.out.ow.alloc (.cells #[.int .i64 0, .int .i64 0] 140))
      generalize (w3.alloc (.cells #[.int .i64 0, .int .i64 0] 140)) = W at HE HPB HOW ⊢
      clear HW3
      have k3 := HPB.out.cell 3
      simp only [List.getElem?_toArray, List.getElem?_cons_zero, List.getElem?_cons_succ] at k3
      go_wp2_with fail
      refine (reverse_ok _ w.heap.size vr (nI O) HOW.out (by rw [nI_len]; omega)).mono ?_
      rintro e w4 ⟨rfl, ow4, hg4⟩
      have HO4 := Lib.hid (show OwR tI w.heap.size w4 vr (nI O.reverse) by unfold nI at ow4 ⊢; rw [List.map_reverse]; exact ow4)
      have HE4 := Lib.hid (HE.out.grown hg4 fun g e => (HOW.out.blk e).1)
      have HP4 := Lib.hid (HPB.out.of_block (hg4.block p HPB.out.lt (fun e => HOW.out.ne HPB.out (by decide) e.symm)))
      clear ow4 hg4 HE HPB HOW k3
      have k0 := HP4.out.cell 0
      rw [HLN.out] at k0
      simp only [List.getElem?_toArray, List.getElem?_cons_zero] at k0
      go_upto_region 15 with (at_make; refine wpl_make tI 0 rfl rfl _ _ rfl .i64 .i64 (n : Int) (n : Int) n rfl rfl rfl rfl (by show 8 * n ≤ _; omega) (by unfold maxLen; omega) ?_; intro w5 ho5 hb5 hlt5; have hp5 := HP4.out.below hb5 HP4.out.lt; have c5 := hp5.cell 4; have f5 := hp5.frozen 4; simp only [List.getElem?_toArray, List.getElem?_cons_zero, List.getElem?_cons_succ] at c5)
      have hW6 : Wp w p w4.heap.size n (.slice (some ⟨bb, off, none⟩) bs.length cap) va vo vr (nI O.reverse) (miK n 0) (w5.setCell ⟨p, 4, none⟩ (.slice (some ⟨w4.heap.size, 0, none⟩) n n)) :=
        ⟨(HE4.out.trans (Ex.of_below hb5)).set 4 _, (hp5.set 4 _).eq rfl, (HO4.out.below hb5).set_other ((HO4.out.below hb5).ne hp5 (by decide)), by rw [miK_zero]; exact (ho5.mono HE4.out.size).set_other (ho5.ne hp5 (by decide)), fun e => by have := HO4.out.lt e; omega⟩
      obtain ⟨gp, hgp⟩ : ∃ g, g = w4.heap.size := ⟨_, rfl⟩
      rw [← hgp] at hW6 ⊢
      have HW6 := Lib.hid hW6
      generalize (w5.setCell ⟨p, 4, none⟩ (.slice (some ⟨gp, 0, none⟩) n n)) = W6 at HW6 ⊢
      clear hW6 ho5 hb5 hlt5 hp5 f5 c5 HO4 HE4 HP4 k0 hgp
      have k4 := HW6.out.pb.cell 4
      simp only [List.getElem?_toArray, List.getElem?_cons_zero, List.getElem?_cons_succ] at k4
      go_wp2
      go_loopw [95] (fun t wr => ∃ k : Nat, k ≤ n ∧ t = .int .i64 (k : Int) ∧ Hid (Wp w p gp n (.slice (some ⟨bb, off, none⟩) bs.length cap) va vo vr (nI O.reverse) (miK n k) wr)) (fun t _ => n - (intOf t).toNat)
      case atStart => exact ⟨0, by omega, rfl, HW6.out⟩
      case round =>
        clear HW6 k4
        obtain ⟨k, hk, rfl, hW⟩ := hrel
        by_cases hlt : k < n
        · have hlt' : (k : Int) < (n : Int) := by omega
          have hk0 : (0 : Int) ≤ (k : Int) := by omega
          have k4 := hW.out.pb.cell 4
          simp only [List.getElem?_toArray, List.getElem?_cons_zero, List.getElem?_cons_succ] at k4
          have kc := OwR.int hW.out.pp (k := k) (x := (miK n k)[k]'(by rw [miK_len]; exact hlt)) (List.getElem?_eq_getElem _)
          have kf := hW.out.pp.frozen k
          have hnew := hW.out.set (k := k) (x := -1) (by rw [miK_len]; exact hlt)
          rw [miK_succ] at hnew
          have HNW := Lib.hid hnew
          clear hnew hW
          go_wp2
          go_roundw
          all_goals first
            | exact ⟨k + 1, by omega, by go_num, HNW.out⟩
            | ((repeat apply Exists.intro); exact ⟨⟨k + 1, by omega, by go_num, HNW.out⟩, rfl⟩)
            | (simp [intOf]; omega)
        · obtain rfl : n = k := by omega
          clear hlt
          have hW0 := hW.out
          rw [miK_all O] at hW0
          have HW := Lib.hid hW0
          clear hW0 hW
          rcases HW.out.ow.form with ⟨_, e⟩ | ⟨gr, cr, rfl, hcr, hcr2, _⟩
          · exfalso
            apply HND.out.2
            unfold nI at e
            simpa using e
          · have k3 := HW.out.pb.cell 3
            simp only [List.getElem?_toArray, List.getElem?_cons_zero, List.getElem?_cons_succ] at k3
            rw [nI_len, List.length_reverse] at k3 hcr HW
            unfold maxLen at hcr2
            obtain ⟨WW, rfl⟩ : ∃ x : World, x = wr := ⟨_, rfl⟩
            have hOl : (O.length : Int) ≤ 1048576 := by omega
            go_wp2
            go_loopw [110] (fun t wr => ∃ j : Nat, j ≤ O.length ∧ t = .int .i64 (j : Int) ∧ Hid (Wp w p gp n (.slice (some ⟨bb, off, none⟩) bs.length cap) va vo (.slice (some ⟨gr, 0, none⟩) O.length cr) (nI O.reverse) (plK O n j) wr)) (fun t _ => O.length - (intOf t).toNat)
            case atStart => exact ⟨0, by omega, rfl, HW.out⟩
            case round =>
              clear HW k3
              obtain ⟨j, hj, rfl, hW⟩ := hrel
              by_cases hlj : j < O.length
              · have hlj' : (j : Int) < (O.length : Int) := by omega
                obtain ⟨x, hx⟩ : ∃ x, O.reverse[j]? = some x := ⟨_, List.getElem?_eq_getElem (by rw [List.length_reverse]; exact hlj)⟩
                have hxn : x < n := HDL.out x (List.mem_reverse.1 (List.mem_of_getElem? hx))
                have hxi : (x : Int) < (n : Int) := by omega
                have hx0 : (0 : Int) ≤ (x : Int) := by omega
                have k4 := hW.out.pb.cell 4
                simp only [List.getElem?_toArray, List.getElem?_cons_zero, List.getElem?_cons_succ] at k4
                have kr := OwR.int hW.out.ow (k := j) (x := (x : Int)) (by unfold nI; rw [List.getElem?_map, hx]; rfl)
                have kc := OwR.int hW.out.pp (k := x) (x := (plK O n j)[x]'(by rw [plK_len]; exact hxn)) (List.getElem?_eq_getElem _)
                have kf := hW.out.pp.frozen x
                have hnew := hW.out.set (k := x) (x := (j : Int)) (by rw [plK_len]; exact hxn)
                rw [plK_succ HND.out.1 n j x hx hxn] at hnew
                have HNW := Lib.hid hnew
                clear hnew hW hx
                go_wp2
                go_roundw
                all_goals first
                  | exact ⟨j + 1, by omega, by go_num, HNW.out⟩
                  | ((repeat apply Exists.intro); exact ⟨⟨j + 1, by omega, by go_num, HNW.out⟩, rfl⟩)
                  | (simp [intOf]; omega)
              · have hjl : O.length = j := by omega
                have hW0 := hW.out
                rw [← hjl, show plK O n O.length = (List.range n).map fun b => if b ∈ O then (plc O b : Int) else -1 from (by unfold plK; rw [List.take_of_length_le (by simp)]; simp)] at hW0
                have HW := Lib.hid hW0
                clear hW0 hW hjl
                go_wp2
                go_end0
                have hW := HW.out
                exact ⟨rfl, hW.ex, _, _, hW.pb, hW.ow, hW.pp⟩
    | cons x S =>
      obtain ⟨b, k⟩ := x
      have hbn := hS.out (b, k) (by simp)
      have hlen := Run.len hR.out
      have hss := hW.out.ss
      simp only [List.reverse_cons] at hss
      have HSS := Lib.hid hss
      clear hss
      go_wp2_with fail
      refine (popS_some _ w.heap.size pT S.reverse b k HSS.out).mono ?_
      rintro e w3 ⟨rfl, hs3, hf3⟩
      have HW3 := Lib.hid (hW.out.fq hf3 hs3)
      clear hs3 hf3 hW HSS
      go_wp2_with fail
      have HW4 := Lib.hid (HW3.out.below (bAl (bRefl w3) (.cells #[.int .i64 (b : Int), .int .i64 (k : Int)] 140)))
      have HQ := Lib.hid (Blk.new w3 140 #[.int .i64 (b : Int), .int .i64 (k : Int)])
      obtain ⟨qs, hqs⟩ : ∃ q, q = w3.heap.size := ⟨_, rfl⟩
      have hqs1 : w.heap.size ≤ qs := by rw [hqs]; exact HW3.out.ex.size
      obtain ⟨vt, hvt1, hvt2, hvt3⟩ := HW3.out.ss
      have hvq : vt.ownBlock ≠ some qs := fun e => by have := hvt2.lt e; omega
      have HV1 := Lib.hid (hvt1.alloc (.cells #[.int .i64 (b : Int), .int .i64 (k : Int)] 140))
      have HV2 := Lib.hid (hvt2.alloc (.cells #[.int .i64 (b : Int), .int .i64 (k : Int)] 140))
      have HV3 := Lib.hid (And.intro hvt3 hvq)
      clear hvt1 hvt2 hvt3 hvq
      rw [← hqs] at HQ ⊢
      generalize (w3.alloc (.cells #[.int .i64 (b : Int), .int .i64 (k : Int)] 140)) = W4 at HW4 HQ HV1 HV2 ⊢
      clear HW3 hqs
      obtain ⟨kb, hkb⟩ : ∃ kb, bs[b]? = some kb := ⟨_, List.getElem?_eq_getElem (by rw [HLN.out]; exact hbn)⟩
      have hsb := HF.out.sb.ex HW4.out.ex
      obtain ⟨bb', off', eb, _, hat⟩ := hsb.get hkb
      injection eb with eb
      injection eb with eb1 eb2
      subst eb1 eb2
      obtain ⟨_, _, c2⟩ := at_bk hat
      have e3 : tK.n = 3 := rfl
      rw [e3] at c2
      have hnx := HF.out.nb b kb hkb
      obtain ⟨an, cn, en, hn1, hn3⟩ := hnx.form
      rw [nI_len] at en hn1
      rw [en] at c2 hnx
      unfold maxLen at hn3
      have hxb := HX.out b
      have HNX := Lib.hid hnx
      have cp := HW4.out.pb.cell 0
      rw [HLN.out] at cp
      simp only [List.getElem?_toArray, List.getElem?_cons_zero] at cp
      have q0 := HQ.out.cell 0
      have q1 := HQ.out.cell 1
      simp only [List.getElem?_toArray, List.getElem?_cons_zero, List.getElem?_cons_succ] at q0 q1
      have hbi : (b : Int) < (n : Int) := by omega
      have hb0i : (0 : Int) ≤ (b : Int) := by omega
      clear hkb hsb hat e3 hnx en
      have hstep : (k = (nx b).length ∧ ∃ j, j < gk ∧ Run nx j S (V, O ++ [b]) (B0, D)) ∨ ∃ c, (nx b)[k]? = some c ∧ ((V c = true ∧ ∃ j, j < gk ∧ Run nx j ((b, k + 1) :: S) (V, O) (B0, D)) ∨ (V c = false ∧ ∃ j, j < gk ∧ Run nx j ((c, 0) :: (b, k + 1) :: S) (Fl.mark V c, O) (B0, D))) := by
        rcases hR.out.step with h | ⟨c, hc, hB, j, hj, hr⟩ | ⟨c, hc, hB, j, hj, hr⟩
        · exact Or.inl h
        · exact Or.inr ⟨c, hc, Or.inl ⟨hB, j, hj, hr⟩⟩
        · exact Or.inr ⟨c, hc, Or.inr ⟨hB, j, hj, hr⟩⟩
      rcases hstep with ⟨ek, j, hj, hr⟩ | ⟨c, hc, hcc⟩
      · have HEK := Lib.hid ek
        have HR := Lib.hid hr
        have heq : ((k : Int) == ((nx b).length : Int)) = true := by simp [ek]
        clear ek hr hR HV1 HV2 HV3
        go_upto_region 6 with (fail)
        go_quiet (fail)
        have HW5 := Lib.hid (HW4.out.below (bDraw (bRefl W4) nq))
        have HQ5 := Lib.hid (HQ.out.drewN nq)
        generalize W4.drewN nq = W5 at HW5 HQ5 ⊢
        clear HW4 HQ HNX cp q0 q1 c2
        have q1 := HQ5.out.cell 1
        simp only [List.getElem?_toArray, List.getElem?_cons_zero, List.getElem?_cons_succ] at q1
        go_upto_region 8 with (fail)
        have kp : W5.cell? ⟨p, 3, none⟩ = some vr := HW5.out.pb.cell 3
        have kq : W5.cell? ⟨qs, 0, none⟩ = some (.int .i64 (b : Int)) := HQ5.out.cell 0
        have cv : W5.drew.cell? ⟨p, 3, none⟩ = some vr ∧ W5.drew.cell? ⟨qs, 0, none⟩ = some (.int .i64 (b : Int)) := ⟨kp, kq⟩
        have hlO : O.length ≤ 1048576 := by simp at hlen; omega
        refine wp_region_last 11 (fun w' => w'.cell? ⟨p, 3, none⟩ = some vr ∧ w'.cell? ⟨qs, 0, none⟩ = some (.int .i64 (b : Int))) mix ?_
        refine wpAnyL_take (i := 0) (v := .pointer (some ⟨p, 0, none⟩)) rfl (by kernel_rfl) (by kernel_rfl) (by kernel_rfl) (fun _ _ _ h => h) rfl (by kernel_rfl) (Or.inl ⟨by rfl, fun w' hw' => by (try go_split_ands); go_simp⟩) cv ?_
        simp only [Act.put, List.getElem_toArray, List.getElem_cons_zero, List.setIfInBounds_toArray, List.set_cons_zero, List.set_cons_succ]
        refine wpAnyL_take (i := 1) (v := .pointer (some ⟨p, 0, none⟩)) rfl (by kernel_rfl) (by kernel_rfl) (by kernel_rfl) (fun _ _ _ h => h) rfl (by kernel_rfl) (Or.inl ⟨by rfl, fun w' hw' => by (try go_split_ands); go_simp⟩) cv ?_
        simp only [Act.put, List.getElem_toArray, List.getElem_cons_zero, List.getElem_cons_succ, List.setIfInBounds_toArray, List.set_cons_zero, List.set_cons_succ]
        refine wpAnyL_take (i := 2) (v := .pointer (some ⟨p, 0, none⟩)) rfl (by kernel_rfl) (by kernel_rfl) (by kernel_rfl) (fun _ _ _ h => h) rfl (by kernel_rfl) (Or.inl ⟨by rfl, fun w' hw' => by (try go_split_ands); go_simp⟩) cv ?_
        simp only [Act.put, List.getElem_toArray, List.getElem_cons_zero, List.getElem_cons_succ, List.setIfInBounds_toArray, List.set_cons_zero, List.set_cons_succ]
        refine wpAnyL_take (i := 3) (v := .pointer (some ⟨p, 3, none⟩)) rfl (by kernel_rfl) (by kernel_rfl) (by kernel_rfl) (fun _ _ _ h => h) rfl (by kernel_rfl) (Or.inl ⟨by rfl, fun w' hw' => by (try go_split_ands); go_simp⟩) cv ?_
        simp only [Act.put, List.getElem_toArray, List.getElem_cons_zero, List.getElem_cons_succ, List.setIfInBounds_toArray, List.set_cons_zero, List.set_cons_succ]
        refine wpAnyL_take (i := 4) (v := vr) rfl (by kernel_rfl) (by kernel_rfl) (by kernel_rfl) (fun _ _ _ h => h) rfl (by kernel_rfl) (Or.inl ⟨by rfl, fun w' hw' => by (try go_split_ands); go_simp⟩) cv ?_
        simp only [Act.put, List.getElem_toArray, List.getElem_cons_zero, List.getElem_cons_succ, List.setIfInBounds_toArray, List.set_cons_zero, List.set_cons_succ]
        refine wpAnyL_take (i := 5) (v := .pointer (some ⟨qs, 0, none⟩)) rfl (by kernel_rfl) (by kernel_rfl) (by kernel_rfl) (fun _ _ _ h => h) rfl (by kernel_rfl) (Or.inl ⟨by rfl, fun w' hw' => by (try go_split_ands); go_simp⟩) cv ?_
        simp only [Act.put, List.getElem_toArray, List.getElem_cons_zero, List.getElem_cons_succ, List.setIfInBounds_toArray, List.set_cons_zero, List.set_cons_succ]
        refine wpAnyL_take (i := 6) (v := .int .i64 (b : Int)) rfl (by kernel_rfl) (by kernel_rfl) (by kernel_rfl) (fun _ _ _ h => h) rfl (by kernel_rfl) (Or.inl ⟨by rfl, fun w' hw' => by (try go_split_ands); go_simp⟩) cv ?_
        simp only [Act.put, List.getElem_toArray, List.getElem_cons_zero, List.getElem_cons_succ, List.setIfInBounds_toArray, List.set_cons_zero, List.set_cons_succ]
        refine wpAnyL_one (i := 7) (by kernel_rfl) rfl (fun K hK => ?_)
        go_simp
        have HW6 := Lib.hid (HW5.out.below (show Below W5.heap.size W5 (W5.alloc (.cells #[.int .i64 (b : Int)] 3)).drew from (bAl (bRefl W5) _).drew))
        have HQ6 := Lib.hid ((HQ5.out.alloc (.cells #[.int .i64 (b : Int)] 3)).drew)
        have HN6 := Lib.hid ((Blk.new W5 3 #[.int .i64 (b : Int)]).drew)
        have hz6 : W5.heap.size < (W5.alloc (.cells #[.int .i64 (b : Int)] 3)).drew.heap.size := HN6.out.lt
        have hB6 := HW6.out.ex.size
        generalize (W5.alloc (.cells #[.int .i64 (b : Int)] 3)).drew = W6 at HW6 HQ6 HN6 hz6 hB6 ⊢
        refine hK.out _ _ (fun _ => ⟨HW6.out.pb.cell 3, HQ6.out.cell 0⟩) ?_
        clear hK K
        refine wpAnyL_one (i := 8) (by kernel_rfl) rfl (fun K hK => ?_)
        refine step_push tI rfl (.tmp 49) (.tmp 52) rfl w.heap.size vr (nI O) (by rfl) HW6.out.ow W5.heap.size 0 1 1 [((b : Int))] (by rfl) rfl (rangeBlk HN6.out (by rfl)) (by rw [nI_len]; unfold maxLen; simp; omega) (by rw [nI_len]; show _ * 8 ≤ _; simp; omega) hB6 ?_
        intro v' w9 hown hgrow hform
        obtain ⟨g', c', rfl, _⟩ := hform (by simp)
        have hO9 : OwR tI w.heap.size w9 (.slice (some ⟨g', 0, none⟩) ((nI O).length + 1) c') (nI (O ++ [b])) := by rw [nI_app]; exact hown
        have hp9 := HW6.out.pb.of_block (hgrow.block p HW6.out.pb.lt (fun e => HW6.out.ow.ne HW6.out.pb (by decide) e.symm))
        have hq9 := HQ6.out.of_block (hgrow.block qs HQ6.out.lt (fun e => HW6.out.ow.ne HQ6.out (by decide) e.symm))
        have cv9 : w9.cell? ⟨p, 3, none⟩ = some vr ∧ w9.cell? ⟨qs, 0, none⟩ = some (.int .i64 (b : Int)) := ⟨hp9.cell 3, hq9.cell 0⟩
        have f9 := hp9.frozen 3
        have c9 : w9.cell? ⟨p, 3, none⟩ = some vr := hp9.cell 3
        simp only [Act.put, List.setIfInBounds_toArray]
        refine hK.out _ _ (fun _ => cv9) ?_
        clear hK K
        refine wpAnyL_one (i := 9) (by kernel_rfl) rfl (fun K hK => ?_)
        go_simp
        refine hK.out _ _ (fun _ => cv9) ?_
        clear hK K
        refine wpAnyL_one (i := 10) (by kernel_rfl) rfl (fun K hK => ?_)
        go_simp
        refine hK.out _ _ (fun _ => cv9) ?_
        clear hK K
        refine wpAnyL_one (i := 11) (by kernel_rfl) rfl (fun K hK => ?_)
        go_simp
        refine hK.out _ _ (fun h => absurd rfl h) ?_
        clear hK K
        refine wpAnyL_done (by kernel_rfl) ?_ _
        have HW9 := Lib.hid (HW6.out.put hO9 hgrow)
        generalize w9.setCell ⟨p, 3, none⟩ (.slice (some ⟨g', 0, none⟩) ((nI O).length + 1) c') = W9 at HW9 ⊢
        clear hO9 hgrow hp9 hq9 cv9 f9 c9 HW6 HQ6 HN6 hz6 hB6 hown kp kq cv HW5 HQ5 q1 hform
        go_wp2
        go_roundg j
        case measure => omega
        case rel => exact ⟨V, S, _, _, HW9.out, HR.out, fun x hx => hS.out x (List.mem_cons_of_mem _ hx)⟩
      · have hkl : k < (nx b).length := (List.getElem?_eq_some_iff.1 hc).1
        have heq : ((k : Int) == ((nx b).length : Int)) = false := by simp; omega
        have hkl' : (k : Int) < ((nx b).length : Int) := by omega
        have hk0 : (0 : Int) ≤ (k : Int) := by omega
        have hcn : c < n := HN.out b hbn c (List.mem_of_getElem? hc)
        have hci : (nI (nx b))[k]? = some (c : Int) := by unfold nI; rw [List.getElem?_map, hc]; rfl
        obtain ⟨bn, on, rfl, _, _, _⟩ := SlX.int HNX.out hci
        have HCI := Lib.hid hci
        have HCC := Lib.hid hcc
        clear hcc hc hci hR
        go_upto_region 6 with (fail)
        go_quiet (fail)
        have HW5 := Lib.hid (HW4.out.below (bDraw (bRefl W4) nq))
        have HQ5 := Lib.hid (HQ.out.drewN nq)
        have HV15 := Lib.hid (HV1.out.drewN nq)
        have HV25 := Lib.hid (show OwR tS w.heap.size (W4.drewN nq) vt (nS S.reverse) from HV2.out)
        generalize W4.drewN nq = W5 at HW5 HQ5 HV15 HV25 ⊢
        clear HW4 HQ HV1 HV2 cp q0 q1 c2
        have q1 := HQ5.out.cell 1
        have q0 := HQ5.out.cell 0
        simp only [List.getElem?_toArray, List.getElem?_cons_zero, List.getElem?_cons_succ] at q1 q0
        go_wp2_with fail
        refine (pushS_eq _ w.heap.size pT vt S.reverse HV15.out HV25.out HV3.out.1 (by simp at hlen ⊢; omega) b (k + 1) _ (by omega)).mono ?_
        rintro e w6 ⟨rfl, hs6, hf6, hk6⟩
        have HW6 := Lib.hid (HW5.out.fq (S' := (b, k + 1) :: S) hf6 (by rw [List.reverse_cons]; exact hs6))
        have HQ6 := Lib.hid (HQ5.out.of_block (hk6 qs HQ5.out.lt (blk_ne HQ5.out HV15.out (by decide)) HV3.out.2))
        clear HW5 HQ5 HV15 HV25 HV3 hs6 hf6 hk6 q0 q1
        have q1 := HQ6.out.cell 1
        simp only [List.getElem?_toArray, List.getElem?_cons_zero, List.getElem?_cons_succ] at q1
        obtain ⟨_, _, eo, _, _, cc⟩ := SlX.int (HNX.out.ex HW6.out.ex) HCI.out
        injection eo with eo
        injection eo with eo1 eo2
        subst eo1 eo2
        have hSb : Hid (∀ x ∈ (b, k + 1) :: S, x.1 < n) := fun x hx => by
          rcases List.mem_cons.1 hx with rfl | hx
          · exact hbn
          · exact hS.out x (List.mem_cons_of_mem _ hx)
        go_wp2_with fail
        rcases HCC.out with ⟨hB, j, hj, hr⟩ | ⟨hB, j, hj, hr⟩
        · have HR := Lib.hid hr
          clear hr HCC
          refine (add_old _ w.heap.size pS gS n V HW6.out.st (c : Int) (by omega) (by omega) (by rw [Int.toNat_natCast]; exact hB)).mono ?_
          rintro e w7 ⟨rfl, rfl⟩
          clear hB
          go_wp2
          go_roundg j
          case measure => omega
          case rel => exact ⟨V, _, _, _, HW6.out, HR.out, hSb.out⟩
        · have HR := Lib.hid hr
          clear hr HCC
          refine (add_new _ w.heap.size pS gS n V HW6.out.st (c : Int) (by omega) (by omega) (by rw [Int.toNat_natCast]; exact hB)).mono ?_
          rintro e w7 ⟨rfl, rfl⟩
          have HW7 := Lib.hid (HW6.out.mark (i := c) hcn)
          simp only [Int.toNat_natCast]
          generalize w6.setCell ⟨gS, c, none⟩ (.bool true) = W7 at HW7 ⊢
          clear hB HW6 HQ6 q1 cc
          go_wp2_with fail
          have hss7 := HW7.out.ss
          rw [List.reverse_cons] at hss7
          refine (pushS_ok _ w.heap.size pT _ hss7 (by simp at hlen ⊢; omega) c 0).mono ?_
          rintro e w8 ⟨rfl, hs8, hf8⟩
          have HW8 := Lib.hid (HW7.out.fq (S' := (c, 0) :: (b, k + 1) :: S) hf8 (by rw [List.reverse_cons, List.reverse_cons]; exact hs8))
          clear hss7 hs8 hf8 HW7
          go_wp2
          go_roundg j
          case measure => omega
          case rel => exact ⟨_, _, _, _, HW8.out, HR.out, fun x hx => by
            rcases List.mem_cons.1 hx with rfl | hx
            · exact hcn
            · exact hSb.out x hx⟩
end Go.Proofs.Ytpiiefdaaijgbaa
