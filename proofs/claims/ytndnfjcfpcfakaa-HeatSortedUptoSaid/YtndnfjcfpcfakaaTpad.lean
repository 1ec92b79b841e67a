/- What the law needs, one part after another: walks of functions and plain laws. No conditions but those that each law names. -/
import Derived.Test.YtndnfjcfpcfakaaTpac
import Derived.WalkMore
namespace Go.Proofs.Ytndnfjcfpcfakaa
open Go Go.RowKit Go.Wr Go.Fl
def ahP (l : List In) (b k j : Nat) : List Nat := ((List.range b).flatMap fun u => ((nxt l u).filter fun v => v == j).map fun _ => u) ++ (((nxt l b).take k).filter fun v => v == j).map fun _ => b
def conL (l : List In) (n b k : Nat) (c0 : Nat → List Int) : Nat → List Int := fun i =>
 if i < n then (if i < b then nI (nxt l i) else if i = b then nI ((nxt l b).take k) else [])
 else if i < 2 * n then nI (ahP l b k (i - n)) else c0 i
theorem conL_zero (l : List In) (n : Nat) (c0 : Nat → List Int) (i : Nat) (hi : i < 2 * n) : conL l n 0 0 c0 i = [] := by
 unfold conL ahP
 by_cases h : i < n
 ·rw [if_pos h, if_neg (by omega)]
  split <;> simp [nI]
 ·rw [if_neg h, if_pos hi]
  simp [nI]
theorem conL_top (l : List In) (n b k : Nat) (c0 : Nat → List Int) (i : Nat) (hi : 2 * n ≤ i) : conL l n b k c0 i = c0 i := by
 unfold conL
 rw [if_neg (by omega), if_neg (by omega)]
theorem conL_step {l : List In} {n b k t : Nat} (c0 : Nat → List Int) (hb : b < n) (ht : (nxt l b)[k]? = some t) (htn : t < n) :
  conL l n b (k + 1) c0 = setF (setF (conL l n b k c0) b (conL l n b k c0 b ++ [(t : Int)])) (n + t) (conL l n b k c0 (n + t) ++ [(b : Int)]) := by
 funext i
 by_cases e1 : i = n + t
 ·subst e1
  rw [setF_self]
  unfold conL ahP
  rw [if_neg (by omega), if_pos (by omega), if_neg (by omega), if_pos (by omega)]
  have e2 : n + t - n = t := by omega
  rw [e2, List.take_add_one, ht, List.filter_append, List.map_append, ← List.append_assoc, nI_app]
  simp [nI]
 ·rw [setF_ne e1]
  by_cases e2 : i = b
  ·subst e2
   rw [setF_self]
   unfold conL
   rw [if_pos hb, if_neg (Nat.lt_irrefl _), if_pos rfl, if_pos hb, if_neg (Nat.lt_irrefl _), if_pos rfl, List.take_add_one, ht, nI_app]
   simp [nI]
  ·rw [setF_ne e2]
   unfold conL ahP
   by_cases h1 : i < n
   ·rw [if_pos h1, if_pos h1]
    by_cases h2 : i < b
    ·rw [if_pos h2, if_pos h2]
    ·rw [if_neg h2, if_neg h2, if_neg e2, if_neg e2]
   ·rw [if_neg h1, if_neg h1]
    by_cases h2 : i < 2 * n
    ·rw [if_pos h2, if_pos h2, List.take_add_one, ht, List.filter_append]
     have e3 : (t == i - n) = false := by
      have : t ≠ i - n := by omega
      simpa using this
     simp [e3]
    ·rw [if_neg h2, if_neg h2]
theorem conL_next (l : List In) (n b : Nat) (c0 : Nat → List Int) (hb : b < n) : conL l n b (nxt l b).length c0 = conL l n (b + 1) 0 c0 := by
 funext i
 unfold conL ahP
 by_cases h1 : i < n
 ·rw [if_pos h1, if_pos h1]
  by_cases h2 : i < b
  ·rw [if_pos h2, if_pos (by omega)]
  ·by_cases h3 : i = b
   ·subst h3
    rw [if_neg h2, if_pos rfl, if_pos (by omega), List.take_length]
   ·rw [if_neg h2, if_neg h3, if_neg (by omega)]
    split <;> simp [nI]
 ·rw [if_neg h1, if_neg h1]
  by_cases h2 : i < 2 * n
  ·rw [if_pos h2, if_pos h2, List.take_length, List.range_succ, List.flatMap_append]
   simp
  ·rw [if_neg h2, if_neg h2]
theorem conL_lo (l : List In) (n : Nat) (c0 : Nat → List Int) {i : Nat} (hi : i < n) : conL l n n 0 c0 i = nI (nxt l i) := by
 unfold conL
 rw [if_pos hi, if_pos hi]
theorem conL_hi (l : List In) (c0 : Nat → List Int) {j : Nat} (hj : j < nB l) : conL l (nB l) (nB l) 0 c0 (nB l + j) = nI (ahd l j) := by
 unfold conL ahP
 have e : nB l + j - nB l = j := by omega
 rw [if_neg (by omega), if_pos (by omega), e]
 simp [ahd, nB]
theorem nxt_two (l : List In) (b : Nat) : (nxt l b).length ≤ 2 := by
 unfold nxt
 split
 ·simp
 ·rw [List.length_append]
  have h1 : ∀ (o : Option Nat), (match o with | none => [] | some t => [(ofl l).getD t 0]).length ≤ 1 := fun o => by cases o <;> simp
  have h2 : ∀ (o : Option In), (match o with | none => [] | some x => if x.op = 26 ∨ x.op = 39 then [] else [b + 1]).length ≤ 1 := fun o => by
   cases o with
   | none => simp
   | some x => simp only; split <;> simp
  exact Nat.add_le_add (h1 _) (h2 _)
theorem ahP_len (l : List In) (k j : Nat) : ∀ b, (ahP l b k j).length ≤ 2 * (b + 1) := by
 have h1 : ∀ (us : List Nat) (v : Nat), ((us.filter fun v => v == j).map fun _ => v).length ≤ us.length := fun us v => by
  rw [List.length_map]
  exact List.length_filter_le _ _
 have h0 : ∀ b, ((List.range b).flatMap fun u => ((nxt l u).filter fun v => v == j).map fun _ => u).length ≤ 2 * b := by
  intro b
  induction b with
  | zero => simp
  | succ b ih =>
   rw [List.range_succ, List.flatMap_append, List.length_append]
   have := h1 (nxt l b) b
   have := nxt_two l b
   simp only [List.flatMap_cons, List.flatMap_nil, List.append_nil]
   omega
 intro b
 unfold ahP
 rw [List.length_append]
 have := h0 b
 have := h1 ((nxt l b).take k) b
 have := nxt_two l b
 have : ((nxt l b).take k).length ≤ (nxt l b).length := by rw [List.length_take]; omega
 omega
theorem conL_len (l : List In) (n b k : Nat) (c0 : Nat → List Int) (hb : b ≤ n) (hn : n ≤ 4096) (hc : ∀ i, (c0 i).length ≤ 1048576) : ∀ i, (conL l n b k c0 i).length ≤ 1048576 := fun i => by
 unfold conL
 by_cases h1 : i < n
 ·rw [if_pos h1]
  by_cases h2 : i < b
  ·rw [if_pos h2, nI_len]
   have := nxt_two l i
   omega
  ·rw [if_neg h2]
   split
   ·rw [nI_len, List.length_take]
    have := nxt_two l b
    omega
   ·simp
 ·rw [if_neg h1]
  split
  ·rw [nI_len]
   have := ahP_len l k (i - n) b
   omega
  ·exact hc i
theorem nB_le (l : List In) : nB l ≤ l.length := by
 unfold nB bl
 rw [blks_len]
 have := List.length_filter_le (lead l) (List.range l.length)
 simpa using this
end Go.Proofs.Ytndnfjcfpcfakaa
namespace Go.Proofs.Ytndnfjcfpcfakaa
open Go Go.RowKit Go.Wr Go.Fl
set_option maxHeartbeats 4000000
set_option maxRecDepth 100000
theorem Ex.then_below {p B : Nat} {a w w' : World} (h : Ex p a w) (b : Below B w w') (hB : a.heap.size ≤ B) : Ex p a w' :=
 ⟨b.os.trans h.os, b.tape.trans h.tape, b.output.trans h.output, Nat.le_trans h.size b.size, fun k hk hp => (b.block k (by omega)).trans (h.block k hk hp)⟩
theorem mark_same {V : Nat → Bool} {i : Nat} (h : V i = true) : Fl.mark V i = V := by
 funext x
 unfold Fl.mark
 split
 ·subst i; exact h.symm
 ·rfl
theorem add_any (w : World) (B p g n : Nat) (V : Nat → Bool) (h : St B p g n V w) (i : Nat) (hi : i < n) (z : Int) (hz : z = (i : Int)) :
  Calls Try.prog 74 #[.pointer (some ⟨p, 0, none⟩), .int .i64 z] w fun e w' => e = .returned (.bool (!V i)) ∧ St B p g n (Fl.mark V i) w' ∧ Below B w w' ∧ ∀ k, k ≠ g → w'.heap[k]? = w.heap[k]? := by
 subst hz
 cases hv : V i with
 | true =>
  refine (add_old w B p g n V h (i : Int) (by omega) (by omega) (by rw [Int.toNat_natCast]; exact hv)).mono ?_
  rintro e w' ⟨rfl, rfl⟩
  exact ⟨rfl, by rw [mark_same hv]; exact h, Below.refl _ _, fun _ _ => rfl⟩
 | false =>
  refine (add_new w B p g n V h (i : Int) (by omega) (by omega) (by rw [Int.toNat_natCast]; exact hv)).mono ?_
  rintro e w' ⟨rfl, rfl⟩
  refine ⟨rfl, ?_, ?_, fun k hk => Below.heap_setCell w ⟨g, _, none⟩ _ k hk⟩
  ·rw [Int.toNat_natCast]; exact h.mark hi
  ·exact (Below.refl B w).setCell h.hg _
def bkL (bs : List (Nat × Nat)) : List Bk := bs.map fun b => ⟨(b.1 : Int), (b.2 : Int), ⟨none, 0, 0⟩⟩
theorem bkL_len (bs : List (Nat × Nat)) : (bkL bs).length = bs.length := by simp [bkL]
theorem bkL_app (bs cs : List (Nat × Nat)) : bkL (bs ++ cs) = bkL bs ++ bkL cs := List.map_append
structure S2 (w : World) (p pS gS m : Nat) (V : Nat → Bool) (bs : List (Nat × Nat)) (os : List Nat) (vb vo : Value) (wr : World) : Prop where
 ex : Ex p w wr
 pb : Blk wr p 90 #[vb, sn, vo, sn, sn, sn, sn]
 st : St w.heap.size pS gS m V wr
 kb : OwR tK w.heap.size wr vb (bkL bs)
 ow : OwR tI w.heap.size wr vo (nI os)
section
variable {w wr w' : World} {p pS gS m : Nat} {V : Nat → Bool} {bs : List (Nat × Nat)} {os : List Nat} {vb vo v' : Value}
theorem S2.below (h : S2 w p pS gS m V bs os vb vo wr) (b : Below wr.heap.size wr w') : S2 w p pS gS m V bs os vb vo w' :=
 ⟨h.ex.trans (Ex.of_below b), h.pb.below b h.pb.lt, h.st.below b, h.kb.below b, h.ow.below b⟩
theorem S2.ne (h : S2 w p pS gS m V bs os vb vo wr) : pS ≠ p ∧ gS ≠ p := by
 obtain ⟨_, C, hg⟩ := h.st.gb.blk (g := gS) rfl
 exact ⟨blk_ne h.st.pb h.pb (by decide), blk_ne hg h.pb (by decide)⟩
theorem S2.putB (h : S2 w p pS gS m V bs os vb vo wr) {b : Nat × Nat} (ho : OwR tK w.heap.size w' v' (bkL (bs ++ [b]))) (hg : wr.grownBy w' vb.ownBlock) : S2 w p pS gS m V (bs ++ [b]) os v' vo (w'.setCell ⟨p, 0, none⟩ v') := by
 obtain ⟨n1, n2⟩ := h.ne
 obtain ⟨_, C, hgB⟩ := h.st.gb.blk (g := gS) rfl
 have hpb : Blk w' p 90 #[vb, sn, vo, sn, sn, sn, sn] := h.pb.of_block (hg.block p h.pb.lt (fun e => h.kb.ne h.pb (by decide) e.symm))
 have hst : St w.heap.size pS gS m V w' := h.st.keep (hg.block pS h.st.pb.lt (fun e => h.kb.ne h.st.pb (by decide) e.symm)) (hg.block gS hgB.lt (fun e => h.kb.ne hgB (by decide) e.symm))
 have how : OwR tI w.heap.size w' vo (nI os) := h.ow.keep fun g e => by
  obtain ⟨_, C', hb⟩ := h.ow.blk e
  exact hg.block g hb.lt (fun e => h.kb.ne hb (by decide) e.symm)
 exact ⟨(h.ex.grown hg fun g e => (h.kb.blk e).1).set 0 v', (hpb.set 0 v').eq rfl, hst.keep (Below.heap_setCell w' ⟨p, 0, none⟩ v' pS n1) (Below.heap_setCell w' ⟨p, 0, none⟩ v' gS n2), ho.set_other (ho.ne hpb (by decide)), how.set_other (how.ne hpb (by decide))⟩
theorem S2.putO (h : S2 w p pS gS m V bs os vb vo wr) {b : Nat} (ho : OwR tI w.heap.size w' v' (nI (os ++ [b]))) (hg : wr.grownBy w' vo.ownBlock) : S2 w p pS gS m V bs (os ++ [b]) vb v' (w'.setCell ⟨p, 2, none⟩ v') := by
 obtain ⟨n1, n2⟩ := h.ne
 obtain ⟨_, C, hgB⟩ := h.st.gb.blk (g := gS) rfl
 have hpb : Blk w' p 90 #[vb, sn, vo, sn, sn, sn, sn] := h.pb.of_block (hg.block p h.pb.lt (fun e => h.ow.ne h.pb (by decide) e.symm))
 have hst : St w.heap.size pS gS m V w' := h.st.keep (hg.block pS h.st.pb.lt (fun e => h.ow.ne h.st.pb (by decide) e.symm)) (hg.block gS hgB.lt (fun e => h.ow.ne hgB (by decide) e.symm))
 have hkb : OwR tK w.heap.size w' vb (bkL bs) := h.kb.keep fun g e => by
  obtain ⟨_, C', hb⟩ := h.kb.blk e
  exact hg.block g hb.lt (fun e => h.ow.ne hb (by decide) e.symm)
 exact ⟨(h.ex.grown hg fun g e => (h.ow.blk e).1).set 2 v', (hpb.set 2 v').eq rfl, hst.keep (Below.heap_setCell w' ⟨p, 2, none⟩ v' pS n1) (Below.heap_setCell w' ⟨p, 2, none⟩ v' gS n2), hkb.set_other (hkb.ne hpb (by decide)), ho.set_other (ho.ne hpb (by decide))⟩
theorem S2.setTo {g n c : Nat} (h : S2 w p pS gS m V bs os (.slice (some ⟨g, 0, none⟩) n c) vo wr) {b : Nat × Nat} {rs : List (Nat × Nat)} (e : bs = rs ++ [b]) (t : Nat) (z : Int) (hz : z = (t : Int)) : S2 w p pS gS m V (rs ++ [(b.1, t)]) os (.slice (some ⟨g, 0, none⟩) n c) vo (wr.setCell ⟨g, rs.length * 3 + 1, none⟩ (.int .i64 z)) := by
 subst e hz
 obtain ⟨hB, C, hg⟩ := h.kb.blk (g := g) rfl
 obtain ⟨_, C', hgB⟩ := h.st.gb.blk (g := gS) rfl
 have hs := h.kb.set (k := rs.length) (j := 1) (x := ⟨(b.1 : Int), (b.2 : Int), ⟨none, 0, 0⟩⟩) (y := ⟨(b.1 : Int), (t : Int), ⟨none, 0, 0⟩⟩) (v := .int .i64 (t : Int))
  (by rw [bkL_app, List.getElem?_append_right (by rw [bkL_len]; exact Nat.le_refl _), bkL_len, Nat.sub_self]; rfl) (by decide) rfl
 have e2 : (bkL (rs ++ [b])).set rs.length ⟨(b.1 : Int), (t : Int), ⟨none, 0, 0⟩⟩ = bkL (rs ++ [(b.1, t)]) := by
  rw [bkL_app, bkL_app, List.set_append_right _ _ (by rw [bkL_len]; exact Nat.le_refl _), bkL_len, Nat.sub_self]
  rfl
 rw [e2] at hs
 exact ⟨h.ex.set_new _ _ hB, h.pb.set_other g _ _ (blk_ne h.pb hg (by decide)), h.st.keep (Below.heap_setCell wr ⟨g, _, none⟩ _ pS (blk_ne h.st.pb hg (by decide))) (Below.heap_setCell wr ⟨g, _, none⟩ _ gS (blk_ne hgB hg (by decide))), hs, h.ow.set_other (h.ow.ne hg (by decide))⟩
end
theorem blks_last {ld : Nat → Bool} (h0 : ld 0 = true) {i : Nat} (hi : 0 < i) : ∃ rs b, blks ld i = rs ++ [b] := ⟨_, _, (List.dropLast_concat_getLast (blks_ne h0 hi)).symm⟩
theorem blks_step {ld : Nat → Bool} (h0 : ld 0 = true) (i : Nat) : ∃ rs b, (if ld i then blks ld i ++ [(i, 0)] else blks ld i) = rs ++ [b] ∧ blks ld (i + 1) = rs ++ [(b.1, i + 1)] := by
 cases h : ld i with
 | true => exact ⟨blks ld i, (i, 0), by simp, by rw [blks_succ, h]; simp⟩
 | false =>
  have hi : 0 < i := by
   rcases Nat.eq_zero_or_pos i with e | e
   ·subst e; rw [h0] at h; cases h
   ·exact e
  obtain ⟨rs, b, e⟩ := blks_last h0 hi
  exact ⟨rs, b, by simp [e], by rw [blks_succ, h, e]; simp [setTo_snoc]⟩
def frF (l : List In) (i : Nat) : Nat := ((bl l).getD i (0, 0)).1
def twF (l : List In) (i : Nat) : Nat := ((bl l).getD i (0, 0)).2
theorem frF_of {l : List In} {i : Nat} {e : Nat × Nat} (h : (bl l)[i]? = some e) : frF l i = e.1 ∧ twF l i = e.2 := by
 unfold frF twF
 rw [List.getD_eq_getElem?_getD, h]
 exact ⟨rfl, rfl⟩
theorem bkL_bkI (l : List In) (row : Nat → Sv) (h : ∀ i, i < nB l → row i = ⟨none, 0, 0⟩) : bkL (bl l) = bkI (nB l) (frF l) (twF l) row := by
 apply List.ext_getElem?
 intro i
 unfold bkL bkI
 by_cases hi : i < nB l
 ·have he : (bl l)[i]? = some ((bl l)[i]'hi) := List.getElem?_eq_getElem hi
  obtain ⟨e1, e2⟩ := frF_of he
  rw [List.getElem?_map, List.getElem?_map, List.getElem?_range hi, he]
  simp only [Option.map_some]
  rw [e1, e2, h i hi]
 ·rw [List.getElem?_eq_none (by simp [nB] at hi ⊢; omega), List.getElem?_eq_none (by simp; omega)]
theorem ahI_nil (n : Nat) (row : Nat → Sv) (h : ∀ i, i < 2 * n → row i = ⟨none, 0, 0⟩) : List.replicate n (⟨none, 0, 0⟩ : Sv) = ahI n row := by
 apply List.ext_getElem?
 intro i
 unfold ahI
 by_cases hi : i < n
 ·rw [List.getElem?_map, List.getElem?_range hi, List.getElem?_replicate, if_pos hi]
  simp [h (n + i) (by omega)]
 ·rw [List.getElem?_eq_none (by simp; omega), List.getElem?_eq_none (by simp; omega)]
theorem nxt_eq {l : List In} {b : Nat} {e : Nat × Nat} (h : (bl l)[b]? = some e) {x : In} (hx : l[e.2 - 1]? = some x) : nxt l b = (match tgt l (e.2 - 1) with | none => [] | some t => [(ofl l).getD t 0]) ++ (if x.op = 26 ∨ x.op = 39 then [] else [b + 1]) := by
 unfold nxt
 rw [h]
 simp only
 rw [hx]
 rfl
theorem bl_end {l : List In} {b : Nat} {e : Nat × Nat} (h : (bl l)[b]? = some e) : ∃ k x, e.2 = k + 1 ∧ k < l.length ∧ l[k]? = some x := by
 have h1 := (lay l).pos e (List.mem_of_getElem? h)
 have h2 := lay_le (lay l) h
 exact ⟨e.2 - 1, l[e.2 - 1]'(by omega), by omega, by omega, List.getElem?_eq_getElem _⟩
structure S3 (w : World) (p gb cb ga go co : Nat) (l : List In) (b j : Nat) (row : Nat → Sv) (wr : World) : Prop where
 lk : Lk w.heap.size p gb cb ga (nB l) [.slice (some ⟨go, 0, none⟩) l.length co, sn, sn, sn, sn] (frF l) (twF l) row (conL l (nB l) b j fun i => if i = 2 * nB l then nI (ofl l) else []) wr
 ex : Ex p w wr
 ro : row (2 * nB l) = ⟨some ⟨go, 0, none⟩, l.length, co⟩
def row0 (n go len co : Nat) : Nat → Sv := fun i => if i = 2 * n then ⟨some ⟨go, 0, none⟩, len, co⟩ else ⟨none, 0, 0⟩
theorem row0_top (n go len co : Nat) : row0 n go len co (2 * n) = ⟨some ⟨go, 0, none⟩, len, co⟩ := by simp [row0]
theorem row0_lo {n go len co i : Nat} (h : i ≠ 2 * n) : row0 n go len co i = ⟨none, 0, 0⟩ := by simp [row0, h]
theorem c0_len (l : List In) (hl : l.length ≤ 4096) : ∀ i, ((fun i => if i = 2 * nB l then nI (ofl l) else []) i : List Int).length ≤ 1048576 := fun i => by
 simp only
 split
 ·rw [nI_len]; unfold ofl; rw [ofs_len]; omega
 ·simp
theorem S3.link {w wr : World} {p gb cb ga go co : Nat} {l : List In} {b j : Nat} {row : Nat → Sv} (h : S3 w p gb cb ga go co l b j row wr) (hl : l.length ≤ 4096) (hb : b < nB l) {t : Nat} (ht : (nxt l b)[j]? = some t) (htn : t < nB l) (z : Int) (hz : z = (t : Int)) :
  Calls Try.prog 76 #[.pointer (some ⟨p, 0, none⟩), .int .i64 (b : Int), .int .i64 z] wr fun e w' => e = .returned (.tuple #[]) ∧ ∃ row', S3 w p gb cb ga go co l b (j + 1) row' w' := by
 subst hz
 refine (link_ok wr _ p gb cb ga (nB l) _ _ _ row _ h.lk b t hb htn (fun i _ => conL_len l (nB l) b j _ (by omega) (by have := nB_le l; omega) (c0_len l hl) i)).mono ?_
 rintro e w' ⟨rfl, hbel, row', hr, hk⟩
 rw [← conL_step _ hb ht htn] at hk
 exact ⟨rfl, row', hk, Ex.then_below h.ex hbel (Nat.le_refl _), (hr _ (by omega) (by omega)).trans h.ro⟩
theorem S3.next {w wr : World} {p gb cb ga go co : Nat} {l : List In} {b : Nat} {row : Nat → Sv} (h : S3 w p gb cb ga go co l b (nxt l b).length row wr) (hb : b < nB l) : S3 w p gb cb ga go co l (b + 1) 0 row wr :=
 ⟨by have := h.lk; rw [conL_next l (nB l) b _ hb] at this; exact this, h.ex, h.ro⟩
theorem S3.below {w wr w' : World} {p gb cb ga go co : Nat} {l : List In} {b j : Nat} {row : Nat → Sv} (h : S3 w p gb cb ga go co l b j row wr) (hb : Below wr.heap.size wr w') : S3 w p gb cb ga go co l b j row w' := ⟨h.lk.below hb, h.ex.trans (Ex.of_below hb), h.ro⟩
structure Fw (p : Nat) (l : List In) (vb va vo : Value) (bs : List Bk) (ss : List Sv) (w : World) : Prop where
 lb : bs.length = nB l
 sb : SlX tK p w vb bs
 nb : ∀ b k, bs[b]? = some k → k.fr = (frF l b : Int) ∧ k.2 = (twF l b : Int) ∧ SlX tI p w k.nx.v (nI (nxt l b))
 la : ss.length = nB l
 sa : SlX tII p w va ss
 na : ∀ b s, ss[b]? = some s → SlX tI p w s.v (nI (ahd l b))
 so : SlX tI p w vo (nI (ofl l))
 lo : Lo p vb ∧ Lo p va ∧ Lo p vo ∧ (∀ k ∈ bs, Lo p k.nx.v) ∧ ∀ s ∈ ss, Lo p s.v
theorem Fw.ex {p : Nat} {l : List In} {vb va vo : Value} {bs : List Bk} {ss : List Sv} {w w' : World} (h : Fw p l vb va vo bs ss w) (e : Ex p w w') : Fw p l vb va vo bs ss w' :=
 ⟨h.lb, h.sb.ex e, fun b k hk => ⟨(h.nb b k hk).1, (h.nb b k hk).2.1, (h.nb b k hk).2.2.ex e⟩, h.la, h.sa.ex e, fun b s hs => (h.na b s hs).ex e, h.so.ex e, h.lo⟩
theorem S3.done {w wr : World} {p gb cb ga go co : Nat} {l : List In} {row : Nat → Sv} (h : S3 w p gb cb ga go co l (nB l) 0 row wr) (hp : p ≤ w.heap.size) :
  Fw p l (.slice (some ⟨gb, 0, none⟩) (nB l) cb) (.slice (some ⟨ga, 0, none⟩) (nB l) (nB l)) (.slice (some ⟨go, 0, none⟩) l.length co) (bkI (nB l) (frF l) (twF l) row) (ahI (nB l) row) wr := by
 refine ⟨by simp [bkI], h.lk.kb.sl (h.lk.kb.ne h.lk.pb (by decide)), fun b k hk => ?_, by simp [ahI], h.lk.ab.sl (h.lk.ab.ne h.lk.pb (by decide)), fun b s hs => ?_, ?_, ?_⟩
 ·unfold bkI at hk
  by_cases hb : b < nB l
  ·rw [List.getElem?_map, List.getElem?_range hb] at hk
   simp only [Option.map_some, Option.some.injEq] at hk
   subst hk
   have ho := h.lk.fm.own b (by omega)
   rw [conL_lo l (nB l) _ hb] at ho
   exact ⟨rfl, rfl, ho.sl (ho.ne h.lk.pb (by decide))⟩
  ·rw [List.getElem?_eq_none (by simp; omega)] at hk
   cases hk
 ·unfold ahI at hs
  by_cases hb : b < nB l
  ·rw [List.getElem?_map, List.getElem?_range hb] at hs
   simp only [Option.map_some, Option.some.injEq] at hs
   subst hs
   have ho := h.lk.fm.own (nB l + b) (by omega)
   rw [conL_hi l _ hb] at ho
   exact ho.sl (ho.ne h.lk.pb (by decide))
  ·rw [List.getElem?_eq_none (by simp; omega)] at hs
   cases hs
 ·have ho := h.lk.fm.own (2 * nB l) (by omega)
  rw [h.ro, conL_top _ _ _ _ _ _ (Nat.le_refl _)] at ho
  simp only at ho
  rw [if_pos trivial] at ho
  exact ho.sl (ho.ne h.lk.pb (by decide))
 ·refine ⟨h.lk.kb.lo hp, h.lk.ab.lo hp, ?_, fun k hk => ?_, fun s hs => ?_⟩
  ·have ho := h.lk.fm.own (2 * nB l) (by omega)
   rw [h.ro] at ho
   exact ho.lo hp
  ·unfold bkI at hk
   obtain ⟨b, hb, rfl⟩ := List.mem_map.1 hk
   have hb : b < nB l := by simpa using hb
   exact (h.lk.fm.own b (by omega)).lo hp
  ·unfold ahI at hs
   obtain ⟨b, hb, rfl⟩ := List.mem_map.1 hs
   have hb : b < nB l := by simpa using hb
   exact (h.lk.fm.own (nB l + b) (by omega)).lo hp
theorem split_ok (w : World) (p : Nat) (l : List In) (v vt : Value) (h : SlX tN p w v l) (ht : SlX tI p w vt (tosI l l.length)) (hl : l.length ≤ 4096) (hne : 0 < l.length) (hen : endOk l) (hb : Blk w p 90 #[sn, sn, sn, sn, sn, sn, sn]) :
  Calls Try.prog 42 #[.pointer (some ⟨p, 0, none⟩), v, vt] w fun e w' => e = .returned (.tuple #[]) ∧ Ex p w w' ∧ ∃ vb va vo bs ss, Blk w' p 90 #[vb, va, vo, sn, sn, sn, sn] ∧ Fw p l vb va vo bs ss w' := by
 obtain ⟨a0, cap, rfl, h1, h2⟩ := h.form
 obtain ⟨a1, capt, rfl, h1t, h2t⟩ := ht.form
 have hpl := hb.lt
 have H := Lib.hid h
 have HT := Lib.hid ht
 have HB := Lib.hid hb
 have HEN := Lib.hid hen
 unfold maxLen at h2 h2t
 rw [tosI_len] at h1t HT ⊢
 clear h ht hb hen
 go_enter Try.func42, Try.ntmps42
 go_wp2_with fail
 refine (newSet_ok _ (l.length + 1) (by omega)).mono ?_
 rintro e w1 ⟨b1, pS, gS, rfl, hst⟩
 have HE1 := Lib.hid b1
 have HST1 := Lib.hid hst
 clear b1 hst
 go_wp2_with fail
 refine (add_any _ w.heap.size pS gS (l.length + 1) _ HST1.out 0 (by omega) 0 (by omega)).mono ?_
 rintro e w2 ⟨rfl, hst2, hb2, _⟩
 rw [← leadK_zero l] at hst2
 have HST2 := Lib.hid hst2
 have HB2 := Lib.hid (HE1.out.trans hb2)
 clear hst2 hb2 HE1 HST1
 go_wp2
 go_loopw [21] (fun t wr => ∃ k : Nat, k ≤ l.length ∧ t = .int .i64 (k : Int) ∧ Hid (St w.heap.size pS gS (l.length + 1) (leadK l k) wr) ∧ Hid (Below w.heap.size w wr)) (fun t _ => l.length - (intOf t).toNat)
 case atStart => exact ⟨0, by omega, rfl, HST2.out, HB2.out⟩
 case round =>
  clear HST2 HB2
  obtain ⟨k, hk, rfl, hst, hb⟩ := hrel
  by_cases hlt : k < l.length
  ·have hlt' : (k : Int) < (l.length : Int) := by omega
   obtain ⟨x, hx⟩ : ∃ x, l[k]? = some x := ⟨_, List.getElem?_eq_getElem hlt⟩
   obtain ⟨bb, off, rfl, _, hat⟩ := (H.out.below hb.out).get hx
   obtain ⟨c0, c1, c2, c3, c4, c5, c6, c7⟩ := at_ins hat
   have e8 : tN.n = 8 := rfl
   rw [e8] at c0 c1 c2 c3 c4 c5 c6 c7
   obtain ⟨bt, ot, rfl, _, hbt, ct⟩ := SlX.int (HT.out.below (bAl hb.out (.cells (inv x) 88))) (tosI_get hlt)
   have HE := Lib.hid (show endAt l k = ends x by unfold endAt; rw [hx])
   obtain ⟨V1, hV1⟩ : ∃ V1, V1 = (match tgt l k with | some t => (fun V => Fl.mark V t) | none => id) (leadK l k) := ⟨_, rfl⟩
   have HV1 := Lib.hid hV1
   clear hx hat e8
   clear hV1
   go_upto_region 5 with (fail)
   clear c0 c1 c2 c3 c4 c5 c6 c7
   generalize hW : wr.alloc (.cells #[.int .i64 x.op, .bool x.nar, .bool x.reg, .int .i64 x.sz, .int .i64 x.dst, .int .i64 x.src, .int .i64 x.off, .int .i64 x.imm] 88) = W5
   have x8 : Blk W5 wr.heap.size 88 (inv x) := by rw [← hW]; exact Blk.new _ _ _
   have s8 : St w.heap.size pS gS (l.length + 1) (leadK l k) W5 := by rw [← hW]; exact hst.out.below (bAl (bRefl wr) _)
   have b8 : Below w.heap.size w W5 := by rw [← hW]; exact bAl hb.out _
   have ct5 : W5.cell? ⟨bt, ot + k, none⟩ = some (.int .i64 (oi (tgt l k))) := by rw [← hW]; exact ct
   obtain ⟨q8, hq8⟩ : ∃ q, q = wr.heap.size := ⟨_, rfl⟩
   rw [← hq8] at x8 ⊢
   have HX5 := Lib.hid x8
   have HS5 := Lib.hid s8
   have HB5 := Lib.hid b8
   clear hW x8 s8 b8 hq8 ct hst hb hbt
   cases htg : tgt l k with
   | none =>
    have HG := Lib.hid (show V1 = leadK l k by rw [HV1.out, htg]; rfl)
    rw [htg] at ct5
    have ct2 : W5.cell? ⟨bt, ot + k, none⟩ = some (.int .i64 (-1)) := ct5
    clear htg ct5
    have HST : Hid (St w.heap.size pS gS (l.length + 1) V1 W5) := by rw [HG.out]; exact HS5.out
    have HBB := Lib.hid HB5.out
    have HX8 := Lib.hid HX5.out
    obtain ⟨W7, rfl⟩ : ∃ x : World, x = W5 := ⟨_, rfl⟩
    clear HS5 HB5 HX5 HG
    go_upto_region 7 with (fail)
    have o0 := HX8.out.cell 0
    simp only [inv, List.getElem?_toArray, List.getElem?_cons_zero] at o0
    have HEL := Lib.hid (leadK_step l k)
    cases hj : jump x with
    | true =>
     have HJ := Lib.hid (show bw x.op 26 37 = true from hj)
     have HNV : Hid (Fl.mark V1 (k + 1) = leadK l (k + 1)) := by
      show _ = _
      rw [HEL.out, if_pos (by rw [HE.out]; unfold ends; rw [hj]; rfl), HV1.out]
      rfl
     clear hj
     go_upto_region 8 with (go_at_call 72; refine (isJump_ok _ _).mono ?_; rintro e w1 ⟨rfl, rfl⟩; rw [HJ.out])
     go_wp2_with fail
     refine (add_any _ w.heap.size pS gS (l.length + 1) V1 HST.out (k + 1) (by omega) _ (by omega)).mono ?_
     rintro e w5 ⟨rfl, hst5, hb5, _⟩
     have HST5 : Hid (St w.heap.size pS gS (l.length + 1) (leadK l (k + 1)) w5) := by rw [← HNV.out]; exact hst5
     have HB5 := Lib.hid (HBB.out.trans hb5)
     clear hst5 hb5
     go_wp2
     go_roundw
     all_goals first
      | exact ⟨k + 1, by omega, by go_num, HST5.out, HB5.out⟩
      | ((repeat apply Exists.intro); exact ⟨⟨k + 1, by omega, by go_num, HST5.out, HB5.out⟩, rfl⟩)
      | (simp [intOf]; omega)
    | false =>
     have HJ := Lib.hid (show bw x.op 26 37 = false from hj)
     by_cases hop : x.op = 39
     ·have hop' : (x.op == 39) = true := by simp [hop]
      have HNV : Hid (Fl.mark V1 (k + 1) = leadK l (k + 1)) := by
       show _ = _
       rw [HEL.out, if_pos (by rw [HE.out]; unfold ends; rw [hop]; simp), HV1.out]
       rfl
      clear hj hop
      go_upto_region 8 with (go_at_call 72; refine (isJump_ok _ _).mono ?_; rintro e w1 ⟨rfl, rfl⟩; rw [HJ.out])
      go_wp2_with fail
      refine (add_any _ w.heap.size pS gS (l.length + 1) V1 HST.out (k + 1) (by omega) _ (by omega)).mono ?_
      rintro e w5 ⟨rfl, hst5, hb5, _⟩
      have HST5 : Hid (St w.heap.size pS gS (l.length + 1) (leadK l (k + 1)) w5) := by rw [← HNV.out]; exact hst5
      have HB5 := Lib.hid (HBB.out.trans hb5)
      clear hst5 hb5
      go_wp2
      go_roundw
      all_goals first
       | exact ⟨k + 1, by omega, by go_num, HST5.out, HB5.out⟩
       | ((repeat apply Exists.intro); exact ⟨⟨k + 1, by omega, by go_num, HST5.out, HB5.out⟩, rfl⟩)
       | (simp [intOf]; omega)
     ·have hop' : (x.op == 39) = false := by simpa using hop
      have HNV : Hid (V1 = leadK l (k + 1)) := by
       show _ = _
       rw [HEL.out, if_neg (by rw [HE.out]; unfold ends; rw [hj, hop']; simp), HV1.out]
       rfl
      clear hj hop
      have HST5 : Hid (St w.heap.size pS gS (l.length + 1) (leadK l (k + 1)) W7) := by rw [← HNV.out]; exact HST.out
      have HB5 := Lib.hid HBB.out
      go_wp2_with (go_at_call 72; refine (isJump_ok _ _).mono ?_; rintro e w1 ⟨rfl, rfl⟩; rw [HJ.out])
      go_roundw
      all_goals first
       | exact ⟨k + 1, by omega, by go_num, HST5.out, HB5.out⟩
       | ((repeat apply Exists.intro); exact ⟨⟨k + 1, by omega, by go_num, HST5.out, HB5.out⟩, rfl⟩)
       | (simp [intOf]; omega)
   | some t =>
    have HG := Lib.hid (show V1 = Fl.mark (leadK l k) t by rw [HV1.out, htg])
    rw [htg] at ct5
    have ct2 : W5.cell? ⟨bt, ot + k, none⟩ = some (.int .i64 (t : Int)) := ct5
    have htl := tgt_lt htg
    clear htg ct5
    go_wp2_with fail
    refine (add_any _ w.heap.size pS gS (l.length + 1) (leadK l k) HS5.out t (by omega) _ rfl).mono ?_
    rintro e W7 ⟨rfl, s7, b7, k7⟩
    rw [← HG.out] at s7
    have hg : q8 ≠ gS := by
     obtain ⟨_, C, hgg⟩ := HS5.out.gb.blk (g := gS) rfl
     exact blk_ne HX5.out hgg (by decide)
    have HST := Lib.hid s7
    have HBB := Lib.hid (HB5.out.trans b7)
    have HX8 := Lib.hid (HX5.out.of_block (k7 q8 hg))
    clear s7 b7 k7 HS5 HB5 HX5 HG ct2
    go_upto_region 7 with (fail)
    have o0 := HX8.out.cell 0
    simp only [inv, List.getElem?_toArray, List.getElem?_cons_zero] at o0
    have HEL := Lib.hid (leadK_step l k)
    cases hj : jump x with
    | true =>
     have HJ := Lib.hid (show bw x.op 26 37 = true from hj)
     have HNV : Hid (Fl.mark V1 (k + 1) = leadK l (k + 1)) := by
      show _ = _
      rw [HEL.out, if_pos (by rw [HE.out]; unfold ends; rw [hj]; rfl), HV1.out]
      rfl
     clear hj
     go_upto_region 8 with (go_at_call 72; refine (isJump_ok _ _).mono ?_; rintro e w1 ⟨rfl, rfl⟩; rw [HJ.out])
     go_wp2_with fail
     refine (add_any _ w.heap.size pS gS (l.length + 1) V1 HST.out (k + 1) (by omega) _ (by omega)).mono ?_
     rintro e w5 ⟨rfl, hst5, hb5, _⟩
     have HST5 : Hid (St w.heap.size pS gS (l.length + 1) (leadK l (k + 1)) w5) := by rw [← HNV.out]; exact hst5
     have HB5 := Lib.hid (HBB.out.trans hb5)
     clear hst5 hb5
     go_wp2
     go_roundw
     all_goals first
      | exact ⟨k + 1, by omega, by go_num, HST5.out, HB5.out⟩
      | ((repeat apply Exists.intro); exact ⟨⟨k + 1, by omega, by go_num, HST5.out, HB5.out⟩, rfl⟩)
      | (simp [intOf]; omega)
    | false =>
     have HJ := Lib.hid (show bw x.op 26 37 = false from hj)
     by_cases hop : x.op = 39
     ·have hop' : (x.op == 39) = true := by simp [hop]
      have HNV : Hid (Fl.mark V1 (k + 1) = leadK l (k + 1)) := by
       show _ = _
       rw [HEL.out, if_pos (by rw [HE.out]; unfold ends; rw [hop]; simp), HV1.out]
       rfl
      clear hj hop
      go_upto_region 8 with (go_at_call 72; refine (isJump_ok _ _).mono ?_; rintro e w1 ⟨rfl, rfl⟩; rw [HJ.out])
      go_wp2_with fail
      refine (add_any _ w.heap.size pS gS (l.length + 1) V1 HST.out (k + 1) (by omega) _ (by omega)).mono ?_
      rintro e w5 ⟨rfl, hst5, hb5, _⟩
      have HST5 : Hid (St w.heap.size pS gS (l.length + 1) (leadK l (k + 1)) w5) := by rw [← HNV.out]; exact hst5
      have HB5 := Lib.hid (HBB.out.trans hb5)
      clear hst5 hb5
      go_wp2
      go_roundw
      all_goals first
       | exact ⟨k + 1, by omega, by go_num, HST5.out, HB5.out⟩
       | ((repeat apply Exists.intro); exact ⟨⟨k + 1, by omega, by go_num, HST5.out, HB5.out⟩, rfl⟩)
       | (simp [intOf]; omega)
     ·have hop' : (x.op == 39) = false := by simpa using hop
      have HNV : Hid (V1 = leadK l (k + 1)) := by
       show _ = _
       rw [HEL.out, if_neg (by rw [HE.out]; unfold ends; rw [hj, hop']; simp), HV1.out]
       rfl
      clear hj hop
      have HST5 : Hid (St w.heap.size pS gS (l.length + 1) (leadK l (k + 1)) W7) := by rw [← HNV.out]; exact HST.out
      have HB5 := Lib.hid HBB.out
      go_wp2_with (go_at_call 72; refine (isJump_ok _ _).mono ?_; rintro e w1 ⟨rfl, rfl⟩; rw [HJ.out])
      go_roundw
      all_goals first
       | exact ⟨k + 1, by omega, by go_num, HST5.out, HB5.out⟩
       | ((repeat apply Exists.intro); exact ⟨⟨k + 1, by omega, by go_num, HST5.out, HB5.out⟩, rfl⟩)
       | (simp [intOf]; omega)
  ·obtain rfl : k = l.length := by omega
   have hst1 := hst.out
   rw [show leadK l l.length = lead l from funext (leadK_all l)] at hst1
   have HS0 := Lib.hid (show S2 w p pS gS (l.length + 1) (lead l) (blks (lead l) 0) (ofs (lead l) 0) sn sn wr from ⟨Ex.of_below hb.out, HB.out.below hb.out HB.out.lt, hst1, OwR.nil _ _, OwR.nil _ _⟩)
   clear hst1 hst hb hlt hk
   obtain ⟨WW, rfl⟩ : ∃ x : World, x = wr := ⟨_, rfl⟩
   go_wp2
   go_loopw [52] (fun t wr => ∃ (k : Nat) (vb vo : Value), k ≤ l.length ∧ t = .int .i64 (k : Int) ∧ Hid (S2 w p pS gS (l.length + 1) (lead l) (blks (lead l) k) (ofs (lead l) k) vb vo wr)) (fun t _ => l.length - (intOf t).toNat)
   case atStart => exact ⟨0, _, _, by omega, rfl, HS0.out⟩
   case round =>
    clear HS0
    obtain ⟨k, vb, vo, hk, rfl, hS⟩ := hrel
    by_cases hlt : k < l.length
    ·have hlt' : (k : Int) < (l.length : Int) := by omega
     obtain ⟨rs, b, e1, e2⟩ := blks_step (lead0 l) k
     have HBS := Lib.hid e2
     have hrl : rs.length < l.length := by
      have h1 := congrArg List.length e2
      have h2 := blks_len (lead l) (k + 1)
      have h3 := List.length_filter_le (lead l) (List.range (k + 1))
      simp at h1 h3
      omega
     go_wp2_with fail
     refine (has_ok _ w.heap.size pS gS (l.length + 1) (lead l) hS.out.st (k : Int) (by omega) (by omega)).mono ?_
     rintro e w3 ⟨rfl, rfl⟩
     rw [Int.toNat_natCast]
     cases hld : lead l k with
     | true =>
      rw [hld, if_pos rfl] at e1
      have HE1 := Lib.hid e1
      have hbl : (blks (lead l) k).length = rs.length := by have := congrArg List.length e1; simp at this; omega
      clear e1 e2 hld
      have kvb : w3.cell? ⟨p, 0, none⟩ = some vb := hS.out.pb.cell 0
      have hsz := hS.out.ex.size
      go_upto_region 15 with (at_builtin; refine wpl_push tK rfl _ _ rfl w.heap.size vb (bkL (blks (lead l) k)) rfl (hS.out.kb.alloc _) _ 0 1 1 [⟨(k : Int), 0, ⟨none, 0, 0⟩⟩] rfl rfl (rangeNew (by rfl) (by rfl)) (by rw [bkL_len]; unfold maxLen; simp; omega) (by rw [bkL_len]; show _ * 40 ≤ _; simp; omega) (by simp; omega) ?_; intro v' w9 hown hgrow hform; obtain ⟨g, c, rfl, _⟩ := hform (by simp); have hp9 := (hS.out.pb.alloc (.cells #[.int .i64 (k : Int), .int .i64 0, .slice none 0 0] 72)).of_block (hgrow.block p (hS.out.pb.alloc (.cells #[.int .i64 (k : Int), .int .i64 0, .slice none 0 0] 72)).lt (fun e => (hS.out.kb.alloc (.cells #[.int .i64 (k : Int), .int .i64 0, .slice none 0 0] 72)).ne (hS.out.pb.alloc (.cells #[.int .i64 (k : Int), .int .i64 0, .slice none 0 0] 72)) (by decide) e.symm)); have c9 := hp9.cell 0; have f9 := hp9.frozen 0; simp only [List.getElem?_toArray, List.getElem?_cons_zero] at c9)
      have hlen : (bkL (blks (lead l) k)).length = rs.length := by rw [bkL_len, hbl]
      have hS9 := (hS.out.below (bAl (bRefl w3) (.cells #[.int .i64 (k : Int), .int .i64 0, .slice none 0 0] 72))).putB (b := (k, 0)) (w' := w9) (v' := .slice (some ⟨g, 0, none⟩) ((bkL (blks (lead l) k)).length + 1) c) (by rw [bkL_app]; exact hown) hgrow
      rw [HE1.out, hlen] at hS9
      have HS := Lib.hid hS9
      simp only [hlen]
      generalize w9.setCell ⟨p, 0, none⟩ (.slice (some ⟨g, 0, none⟩) (rs.length + 1) c) = W at HS ⊢
      clear hS9 hown hgrow hform hp9 c9 f9 kvb hS hsz hlen HE1
      have hm1 : (rs.length : Int) + 1 ≤ 4096 := by omega
      have kvo : W.cell? ⟨p, 2, none⟩ = some vo := HS.out.pb.cell 2
      have kvb : W.cell? ⟨p, 0, none⟩ = some (.slice (some ⟨g, 0, none⟩) (rs.length + 1) c) := HS.out.pb.cell 0
      have hwr : IntKind.i64.wrap ((rs.length : Int) + 1 - 1) = (rs.length : Int) := (IntWalk.i64_in _ (by omega)).trans (by omega)
      have hwr2 : IntKind.i64.wrap (rs.length : Int) = (rs.length : Int) := IntWalk.i64_in _ (by omega)
      have hwk : IntKind.i64.wrap ((k : Int) + 1) = (k : Int) + 1 := IntWalk.i64_in _ (by omega)
      have cv : W.drew.cell? ⟨p, 2, none⟩ = some vo ∧ W.drew.cell? ⟨p, 0, none⟩ = some (.slice (some ⟨g, 0, none⟩) (rs.length + 1) c) := ⟨kvo, kvb⟩
      refine wp_region_last 15 (fun w' => w'.cell? ⟨p, 2, none⟩ = some vo ∧ w'.cell? ⟨p, 0, none⟩ = some (.slice (some ⟨g, 0, none⟩) (rs.length + 1) c)) mix ?_
      refine wpAnyL_take (i := 0) (v := .pointer (some ⟨p, 0, none⟩)) rfl (by kernel_rfl) (by kernel_rfl) (by kernel_rfl) (fun _ _ _ h => h) rfl (by kernel_rfl) (Or.inl ⟨by rfl, fun w' hw' => by (try go_split_ands); go_simp⟩) cv ?_
      simp only [Act.put, List.getElem_toArray, List.getElem_cons_zero, List.setIfInBounds_toArray, List.set_cons_zero, List.set_cons_succ]
      refine wpAnyL_take (i := 1) (v := .pointer (some ⟨p, 0, none⟩)) rfl (by kernel_rfl) (by kernel_rfl) (by kernel_rfl) (fun _ _ _ h => h) rfl (by kernel_rfl) (Or.inl ⟨by rfl, fun w' hw' => by (try go_split_ands); go_simp⟩) cv ?_
      simp only [Act.put, List.getElem_toArray, List.getElem_cons_zero, List.getElem_cons_succ, List.setIfInBounds_toArray, List.set_cons_zero, List.set_cons_succ]
      refine wpAnyL_take (i := 2) (v := .pointer (some ⟨p, 0, none⟩)) rfl (by kernel_rfl) (by kernel_rfl) (by kernel_rfl) (fun _ _ _ h => h) rfl (by kernel_rfl) (Or.inl ⟨by rfl, fun w' hw' => by (try go_split_ands); go_simp⟩) cv ?_
      simp only [Act.put, List.getElem_toArray, List.getElem_cons_zero, List.getElem_cons_succ, List.setIfInBounds_toArray, List.set_cons_zero, List.set_cons_succ]
      refine wpAnyL_take (i := 3) (v := .pointer (some ⟨p, 2, none⟩)) rfl (by kernel_rfl) (by kernel_rfl) (by kernel_rfl) (fun _ _ _ h => h) rfl (by kernel_rfl) (Or.inl ⟨by rfl, fun w' hw' => by (try go_split_ands); go_simp⟩) cv ?_
      simp only [Act.put, List.getElem_toArray, List.getElem_cons_zero, List.getElem_cons_succ, List.setIfInBounds_toArray, List.set_cons_zero, List.set_cons_succ]
      refine wpAnyL_take (i := 4) (v := vo) rfl (by kernel_rfl) (by kernel_rfl) (by kernel_rfl) (fun _ _ _ h => h) rfl (by kernel_rfl) (Or.inl ⟨by rfl, fun w' hw' => by (try go_split_ands); go_simp⟩) cv ?_
      simp only [Act.put, List.getElem_toArray, List.getElem_cons_zero, List.getElem_cons_succ, List.setIfInBounds_toArray, List.set_cons_zero, List.set_cons_succ]
      refine wpAnyL_take (i := 5) (v := .pointer (some ⟨p, 0, none⟩)) rfl (by kernel_rfl) (by kernel_rfl) (by kernel_rfl) (fun _ _ _ h => h) rfl (by kernel_rfl) (Or.inl ⟨by rfl, fun w' hw' => by (try go_split_ands); go_simp⟩) cv ?_
      simp only [Act.put, List.getElem_toArray, List.getElem_cons_zero, List.getElem_cons_succ, List.setIfInBounds_toArray, List.set_cons_zero, List.set_cons_succ]
      refine wpAnyL_take (i := 6) (v := .pointer (some ⟨p, 0, none⟩)) rfl (by kernel_rfl) (by kernel_rfl) (by kernel_rfl) (fun _ _ _ h => h) rfl (by kernel_rfl) (Or.inl ⟨by rfl, fun w' hw' => by (try go_split_ands); go_simp⟩) cv ?_
      simp only [Act.put, List.getElem_toArray, List.getElem_cons_zero, List.getElem_cons_succ, List.setIfInBounds_toArray, List.set_cons_zero, List.set_cons_succ]
      refine wpAnyL_take (i := 7) (v := .pointer (some ⟨p, 0, none⟩)) rfl (by kernel_rfl) (by kernel_rfl) (by kernel_rfl) (fun _ _ _ h => h) rfl (by kernel_rfl) (Or.inl ⟨by rfl, fun w' hw' => by (try go_split_ands); go_simp⟩) cv ?_
      simp only [Act.put, List.getElem_toArray, List.getElem_cons_zero, List.getElem_cons_succ, List.setIfInBounds_toArray, List.set_cons_zero, List.set_cons_succ]
      refine wpAnyL_take (i := 8) (v := .slice (some ⟨g, 0, none⟩) (rs.length + 1) c) rfl (by kernel_rfl) (by kernel_rfl) (by kernel_rfl) (fun _ _ _ h => h) rfl (by kernel_rfl) (Or.inl ⟨by rfl, fun w' hw' => by (try go_split_ands); go_simp⟩) cv ?_
      simp only [Act.put, List.getElem_toArray, List.getElem_cons_zero, List.getElem_cons_succ, List.setIfInBounds_toArray, List.set_cons_zero, List.set_cons_succ]
      refine wpAnyL_take (i := 9) (v := .int .i64 ((rs.length : Int) + 1)) rfl (by kernel_rfl) (by kernel_rfl) (by kernel_rfl) (fun _ _ _ h => h) rfl (by kernel_rfl) (Or.inl ⟨by rfl, fun w' hw' => by (try go_split_ands); go_simp⟩) cv ?_
      simp only [Act.put, List.getElem_toArray, List.getElem_cons_zero, List.getElem_cons_succ, List.setIfInBounds_toArray, List.set_cons_zero, List.set_cons_succ]
      refine wpAnyL_take (i := 10) (v := .int .i64 (rs.length : Int)) rfl (by kernel_rfl) (by kernel_rfl) (by kernel_rfl) (fun _ _ _ h => h) rfl (by kernel_rfl) (Or.inl ⟨by rfl, fun w' hw' => by (try go_split_ands); go_simp⟩) cv ?_
      simp only [Act.put, List.getElem_toArray, List.getElem_cons_zero, List.getElem_cons_succ, List.setIfInBounds_toArray, List.set_cons_zero, List.set_cons_succ]
      refine wpAnyL_one (i := 11) (by kernel_rfl) rfl (fun K hK => ?_)
      go_simp
      have HS6 := Lib.hid (HS.out.below (show Below W.heap.size W (W.alloc (.cells #[.int .i64 (rs.length : Int)] 3)).drew from (bAl (bRefl W) _).drew))
      have HN6 := Lib.hid ((Blk.new W 3 #[.int .i64 (rs.length : Int)]).drew)
      have hz6 : W.heap.size < (W.alloc (.cells #[.int .i64 (rs.length : Int)] 3)).drew.heap.size := HN6.out.lt
      have hB6 := HS6.out.ex.size
      generalize (W.alloc (.cells #[.int .i64 (rs.length : Int)] 3)).drew = W6 at HS6 HN6 hz6 hB6 ⊢
      refine hK.out _ _ (fun _ => ⟨HS6.out.pb.cell 2, HS6.out.pb.cell 0⟩) ?_
      clear hK K
      refine wpAnyL_one (i := 12) (by kernel_rfl) rfl (fun K hK => ?_)
      refine step_push tI rfl (.tmp 73) (.tmp 80) rfl w.heap.size vo (nI (ofs (lead l) k)) (by rfl) HS6.out.ow W.heap.size 0 1 1 [((rs.length : Int))] (by rfl) rfl (rangeBlk HN6.out (by rfl)) (by rw [nI_len, ofs_len]; unfold maxLen; simp; omega) (by rw [nI_len, ofs_len]; show _ * 8 ≤ _; simp; omega) hB6 ?_
      intro v' w9 hown hgrow hform
      obtain ⟨g', c', rfl, _⟩ := hform (by simp)
      have hO9 : OwR tI w.heap.size w9 (.slice (some ⟨g', 0, none⟩) ((nI (ofs (lead l) k)).length + 1) c') (nI (ofs (lead l) k ++ [rs.length])) := by rw [nI_app]; exact hown
      have hp9 := HS6.out.pb.of_block (hgrow.block p HS6.out.pb.lt (fun e => HS6.out.ow.ne HS6.out.pb (by decide) e.symm))
      have cv9 : w9.cell? ⟨p, 2, none⟩ = some vo ∧ w9.cell? ⟨p, 0, none⟩ = some (.slice (some ⟨g, 0, none⟩) (rs.length + 1) c) := ⟨hp9.cell 2, hp9.cell 0⟩
      have f9 := hp9.frozen 2
      have c9 : w9.cell? ⟨p, 2, none⟩ = some vo := hp9.cell 2
      simp only [Act.put, List.setIfInBounds_toArray]
      refine hK.out _ _ (fun _ => cv9) ?_
      clear hK K
      refine wpAnyL_one (i := 13) (by kernel_rfl) rfl (fun K hK => ?_)
      go_simp
      refine hK.out _ _ (fun _ => cv9) ?_
      clear hK K
      refine wpAnyL_one (i := 14) (by kernel_rfl) rfl (fun K hK => ?_)
      go_simp
      refine hK.out _ _ (fun _ => cv9) ?_
      clear hK K
      refine wpAnyL_one (i := 15) (by kernel_rfl) rfl (fun K hK => ?_)
      go_simp
      refine hK.out _ _ (fun h => absurd rfl h) ?_
      clear hK K
      refine wpAnyL_done (by kernel_rfl) ?_ _
      have HS9 := Lib.hid (HS6.out.putO hO9 hgrow)
      generalize w9.setCell ⟨p, 2, none⟩ (.slice (some ⟨g', 0, none⟩) ((nI (ofs (lead l) k)).length + 1) c') = W9 at HS9 ⊢
      clear hO9 hgrow hp9 cv9 f9 c9 HS6 HN6 hz6 hB6 hown hform cv kvo kvb HS
      go_upto_region 16 with (fail)
      have kvb : W9.cell? ⟨p, 0, none⟩ = some (.slice (some ⟨g, 0, none⟩) (rs.length + 1) c) := HS9.out.pb.cell 0
      have HT9 := Lib.hid (HS9.out.below (bRefl W9).drew)
      have hat := HT9.out.kb.at (k := rs.length) (x := ⟨(b.1 : Int), (b.2 : Int), ⟨none, 0, 0⟩⟩) (by rw [bkL_app, List.getElem?_append_right (by rw [bkL_len]; exact Nat.le_refl _), bkL_len, Nat.sub_self]; rfl)
      have kt := hat.cell 1 _ rfl
      have e3 : 0 + rs.length * tK.n + 1 = rs.length * 3 + 1 := by show 0 + rs.length * 3 + 1 = _; omega
      rw [e3] at kt
      have kf := HT9.out.kb.frozen (rs.length * 3 + 1)
      have cv : W9.drew.cell? ⟨p, 0, none⟩ = some (.slice (some ⟨g, 0, none⟩) (rs.length + 1) c) := kvb
      have hr0 : (0 : Int) ≤ (rs.length : Int) := by omega
      have hr1 : (rs.length : Int) < (rs.length : Int) + 1 := by omega
      clear hat e3
      refine wp_region_last 14 (fun w' => w'.cell? ⟨p, 0, none⟩ = some (.slice (some ⟨g, 0, none⟩) (rs.length + 1) c)) mix ?_
      refine wpAnyL_take (i := 0) (v := .pointer (some ⟨p, 0, none⟩)) rfl (by kernel_rfl) (by kernel_rfl) (by kernel_rfl) (fun _ _ _ h => h) rfl (by kernel_rfl) (Or.inl ⟨by rfl, fun w' hw' => by (try go_split_ands); go_simp⟩) cv ?_
      simp only [Act.put, List.getElem_toArray, List.getElem_cons_zero, List.setIfInBounds_toArray, List.set_cons_zero, List.set_cons_succ]
      refine wpAnyL_take (i := 1) (v := .pointer (some ⟨p, 0, none⟩)) rfl (by kernel_rfl) (by kernel_rfl) (by kernel_rfl) (fun _ _ _ h => h) rfl (by kernel_rfl) (Or.inl ⟨by rfl, fun w' hw' => by (try go_split_ands); go_simp⟩) cv ?_
      simp only [Act.put, List.getElem_toArray, List.getElem_cons_zero, List.getElem_cons_succ, List.setIfInBounds_toArray, List.set_cons_zero, List.set_cons_succ]
      refine wpAnyL_take (i := 2) (v := .pointer (some ⟨p, 0, none⟩)) rfl (by kernel_rfl) (by kernel_rfl) (by kernel_rfl) (fun _ _ _ h => h) rfl (by kernel_rfl) (Or.inl ⟨by rfl, fun w' hw' => by (try go_split_ands); go_simp⟩) cv ?_
      simp only [Act.put, List.getElem_toArray, List.getElem_cons_zero, List.getElem_cons_succ, List.setIfInBounds_toArray, List.set_cons_zero, List.set_cons_succ]
      refine wpAnyL_take (i := 3) (v := .slice (some ⟨g, 0, none⟩) (rs.length + 1) c) rfl (by kernel_rfl) (by kernel_rfl) (by kernel_rfl) (fun _ _ _ h => h) rfl (by kernel_rfl) (Or.inl ⟨by rfl, fun w' hw' => by (try go_split_ands); go_simp⟩) cv ?_
      simp only [Act.put, List.getElem_toArray, List.getElem_cons_zero, List.getElem_cons_succ, List.setIfInBounds_toArray, List.set_cons_zero, List.set_cons_succ]
      refine wpAnyL_take (i := 4) (v := .pointer (some ⟨p, 0, none⟩)) rfl (by kernel_rfl) (by kernel_rfl) (by kernel_rfl) (fun _ _ _ h => h) rfl (by kernel_rfl) (Or.inl ⟨by rfl, fun w' hw' => by (try go_split_ands); go_simp⟩) cv ?_
      simp only [Act.put, List.getElem_toArray, List.getElem_cons_zero, List.getElem_cons_succ, List.setIfInBounds_toArray, List.set_cons_zero, List.set_cons_succ]
      refine wpAnyL_take (i := 5) (v := .pointer (some ⟨p, 0, none⟩)) rfl (by kernel_rfl) (by kernel_rfl) (by kernel_rfl) (fun _ _ _ h => h) rfl (by kernel_rfl) (Or.inl ⟨by rfl, fun w' hw' => by (try go_split_ands); go_simp⟩) cv ?_
      simp only [Act.put, List.getElem_toArray, List.getElem_cons_zero, List.getElem_cons_succ, List.setIfInBounds_toArray, List.set_cons_zero, List.set_cons_succ]
      refine wpAnyL_take (i := 6) (v := .pointer (some ⟨p, 0, none⟩)) rfl (by kernel_rfl) (by kernel_rfl) (by kernel_rfl) (fun _ _ _ h => h) rfl (by kernel_rfl) (Or.inl ⟨by rfl, fun w' hw' => by (try go_split_ands); go_simp⟩) cv ?_
      simp only [Act.put, List.getElem_toArray, List.getElem_cons_zero, List.getElem_cons_succ, List.setIfInBounds_toArray, List.set_cons_zero, List.set_cons_succ]
      refine wpAnyL_take (i := 7) (v := .slice (some ⟨g, 0, none⟩) (rs.length + 1) c) rfl (by kernel_rfl) (by kernel_rfl) (by kernel_rfl) (fun _ _ _ h => h) rfl (by kernel_rfl) (Or.inl ⟨by rfl, fun w' hw' => by (try go_split_ands); go_simp⟩) cv ?_
      simp only [Act.put, List.getElem_toArray, List.getElem_cons_zero, List.getElem_cons_succ, List.setIfInBounds_toArray, List.set_cons_zero, List.set_cons_succ]
      refine wpAnyL_take (i := 8) (v := .int .i64 ((rs.length : Int) + 1)) rfl (by kernel_rfl) (by kernel_rfl) (by kernel_rfl) (fun _ _ _ h => h) rfl (by kernel_rfl) (Or.inl ⟨by rfl, fun w' hw' => by (try go_split_ands); go_simp⟩) cv ?_
      simp only [Act.put, List.getElem_toArray, List.getElem_cons_zero, List.getElem_cons_succ, List.setIfInBounds_toArray, List.set_cons_zero, List.set_cons_succ]
      refine wpAnyL_take (i := 9) (v := .int .i64 (rs.length : Int)) rfl (by kernel_rfl) (by kernel_rfl) (by kernel_rfl) (fun _ _ _ h => h) rfl (by kernel_rfl) (Or.inl ⟨by rfl, fun w' hw' => by (try go_split_ands); go_simp⟩) cv ?_
      simp only [Act.put, List.getElem_toArray, List.getElem_cons_zero, List.getElem_cons_succ, List.setIfInBounds_toArray, List.set_cons_zero, List.set_cons_succ]
      refine wpAnyL_take (i := 10) (v := .int .i64 (k : Int)) rfl (by kernel_rfl) (by kernel_rfl) (by kernel_rfl) (fun _ _ _ h => h) rfl (by kernel_rfl) (Or.inl ⟨by rfl, fun w' hw' => by (try go_split_ands); go_simp⟩) cv ?_
      simp only [Act.put, List.getElem_toArray, List.getElem_cons_zero, List.getElem_cons_succ, List.setIfInBounds_toArray, List.set_cons_zero, List.set_cons_succ]
      refine wpAnyL_take (i := 11) (v := .int .i64 ((k : Int) + 1)) rfl (by kernel_rfl) (by kernel_rfl) (by kernel_rfl) (fun _ _ _ h => h) rfl (by kernel_rfl) (Or.inl ⟨by rfl, fun w' hw' => by (try go_split_ands); go_simp⟩) cv ?_
      simp only [Act.put, List.getElem_toArray, List.getElem_cons_zero, List.getElem_cons_succ, List.setIfInBounds_toArray, List.set_cons_zero, List.set_cons_succ]
      refine wpAnyL_one (i := 12) (by kernel_rfl) rfl (fun K hK => ?_)
      go_simp
      refine hK.out _ _ (fun _ => cv) ?_
      clear hK K
      refine wpAnyL_one (i := 13) (by kernel_rfl) rfl (fun K hK => ?_)
      go_simp
      refine hK.out _ _ (fun _ => cv) ?_
      clear hK K
      refine wpAnyL_one (i := 14) (by kernel_rfl) rfl (fun K hK => ?_)
      go_simp
      refine hK.out _ _ (fun h => absurd rfl h) ?_
      clear hK K
      refine wpAnyL_done (by kernel_rfl) ?_ _
      have HSF := Lib.hid ((HS9.out.setTo (b := b) (rs := rs) rfl (k + 1) ((k : Int) + 1) (by omega)).below (bRefl _).drew)
      generalize (W9.setCell ⟨g, rs.length * 3 + 1, none⟩ (.int .i64 ((k : Int) + 1))).drew = WF at HSF ⊢
      have HSG : Hid (S2 w p pS gS (l.length + 1) (lead l) (blks (lead l) (k + 1)) (ofs (lead l) (k + 1)) (.slice (some ⟨g, 0, none⟩) (rs.length + 1) c) (.slice (some ⟨g', 0, none⟩) ((nI (ofs (lead l) k)).length + 1) c') WF) := by
       show S2 _ _ _ _ _ _ _ _ _ _ _
       rw [ofs_succ, HBS.out]
       simp only [List.length_append, List.length_cons, List.length_nil, Nat.zero_add, Nat.add_sub_cancel]
       exact HSF.out
      clear HSF HT9 HS9 kvb kt kf cv hwr hwr2 hwk
      go_wp2
      go_roundw
      all_goals first
       | exact ⟨k + 1, _, _, by omega, by go_num, HSG.out⟩
       | ((repeat apply Exists.intro); exact ⟨⟨k + 1, _, _, by omega, by go_num, HSG.out⟩, rfl⟩)
       | (simp [intOf]; omega)
     | false =>
      rw [hld, if_neg (by simp)] at e1
      have hk0 : 0 < k := by
       rcases Nat.eq_zero_or_pos k with e | e
       ·subst e; rw [lead0] at hld; cases hld
       ·exact e
      have hS9 := hS.out
      rw [e1] at hS9
      rcases hS9.kb.form with ⟨_, e⟩ | ⟨g, c, rfl, hc1, hc2, _⟩
      ·have := congrArg List.length e
       simp [bkL] at this
      ·rw [bkL_len] at hS9 hc1
       simp only [List.length_append, List.length_cons, List.length_nil, Nat.zero_add] at hS9 hc1
       have HS := Lib.hid hS9
       obtain ⟨W, rfl⟩ : ∃ x : World, x = w3 := ⟨_, rfl⟩
       clear hS9 hS e1 e2 hld
       go_upto_region 15 with (fail)
       have hm1 : (rs.length : Int) + 1 ≤ 4096 := by omega
       have kvo : W.cell? ⟨p, 2, none⟩ = some vo := HS.out.pb.cell 2
       have kvb : W.cell? ⟨p, 0, none⟩ = some (.slice (some ⟨g, 0, none⟩) (rs.length + 1) c) := HS.out.pb.cell 0
       have hwr : IntKind.i64.wrap ((rs.length : Int) + 1 - 1) = (rs.length : Int) := (IntWalk.i64_in _ (by omega)).trans (by omega)
       have hwr2 : IntKind.i64.wrap (rs.length : Int) = (rs.length : Int) := IntWalk.i64_in _ (by omega)
       have hwk : IntKind.i64.wrap ((k : Int) + 1) = (k : Int) + 1 := IntWalk.i64_in _ (by omega)
       have cv : W.drew.cell? ⟨p, 2, none⟩ = some vo ∧ W.drew.cell? ⟨p, 0, none⟩ = some (.slice (some ⟨g, 0, none⟩) (rs.length + 1) c) := ⟨kvo, kvb⟩
       refine wp_region_last 15 (fun w' => w'.cell? ⟨p, 2, none⟩ = some vo ∧ w'.cell? ⟨p, 0, none⟩ = some (.slice (some ⟨g, 0, none⟩) (rs.length + 1) c)) mix ?_
       refine wpAnyL_take (i := 0) (v := .pointer (some ⟨p, 0, none⟩)) rfl (by kernel_rfl) (by kernel_rfl) (by kernel_rfl) (fun _ _ _ h => h) rfl (by kernel_rfl) (Or.inl ⟨by rfl, fun w' hw' => by (try go_split_ands); go_simp⟩) cv ?_
       simp only [Act.put, List.getElem_toArray, List.getElem_cons_zero, List.setIfInBounds_toArray, List.set_cons_zero, List.set_cons_succ]
       refine wpAnyL_take (i := 1) (v := .pointer (some ⟨p, 0, none⟩)) rfl (by kernel_rfl) (by kernel_rfl) (by kernel_rfl) (fun _ _ _ h => h) rfl (by kernel_rfl) (Or.inl ⟨by rfl, fun w' hw' => by (try go_split_ands); go_simp⟩) cv ?_
       simp only [Act.put, List.getElem_toArray, List.getElem_cons_zero, List.getElem_cons_succ, List.setIfInBounds_toArray, List.set_cons_zero, List.set_cons_succ]
       refine wpAnyL_take (i := 2) (v := .pointer (some ⟨p, 0, none⟩)) rfl (by kernel_rfl) (by kernel_rfl) (by kernel_rfl) (fun _ _ _ h => h) rfl (by kernel_rfl) (Or.inl ⟨by rfl, fun w' hw' => by (try go_split_ands); go_simp⟩) cv ?_
       simp only [Act.put, List.getElem_toArray, List.getElem_cons_zero, List.getElem_cons_succ, List.setIfInBounds_toArray, List.set_cons_zero, List.set_cons_succ]
       refine wpAnyL_take (i := 3) (v := .pointer (some ⟨p, 2, none⟩)) rfl (by kernel_rfl) (by kernel_rfl) (by kernel_rfl) (fun _ _ _ h => h) rfl (by kernel_rfl) (Or.inl ⟨by rfl, fun w' hw' => by (try go_split_ands); go_simp⟩) cv ?_
       simp only [Act.put, List.getElem_toArray, List.getElem_cons_zero, List.getElem_cons_succ, List.setIfInBounds_toArray, List.set_cons_zero, List.set_cons_succ]
       refine wpAnyL_take (i := 4) (v := vo) rfl (by kernel_rfl) (by kernel_rfl) (by kernel_rfl) (fun _ _ _ h => h) rfl (by kernel_rfl) (Or.inl ⟨by rfl, fun w' hw' => by (try go_split_ands); go_simp⟩) cv ?_
       simp only [Act.put, List.getElem_toArray, List.getElem_cons_zero, List.getElem_cons_succ, List.setIfInBounds_toArray, List.set_cons_zero, List.set_cons_succ]
       refine wpAnyL_take (i := 5) (v := .pointer (some ⟨p, 0, none⟩)) rfl (by kernel_rfl) (by kernel_rfl) (by kernel_rfl) (fun _ _ _ h => h) rfl (by kernel_rfl) (Or.inl ⟨by rfl, fun w' hw' => by (try go_split_ands); go_simp⟩) cv ?_
       simp only [Act.put, List.getElem_toArray, List.getElem_cons_zero, List.getElem_cons_succ, List.setIfInBounds_toArray, List.set_cons_zero, List.set_cons_succ]
       refine wpAnyL_take (i := 6) (v := .pointer (some ⟨p, 0, none⟩)) rfl (by kernel_rfl) (by kernel_rfl) (by kernel_rfl) (fun _ _ _ h => h) rfl (by kernel_rfl) (Or.inl ⟨by rfl, fun w' hw' => by (try go_split_ands); go_simp⟩) cv ?_
       simp only [Act.put, List.getElem_toArray, List.getElem_cons_zero, List.getElem_cons_succ, List.setIfInBounds_toArray, List.set_cons_zero, List.set_cons_succ]
       refine wpAnyL_take (i := 7) (v := .pointer (some ⟨p, 0, none⟩)) rfl (by kernel_rfl) (by kernel_rfl) (by kernel_rfl) (fun _ _ _ h => h) rfl (by kernel_rfl) (Or.inl ⟨by rfl, fun w' hw' => by (try go_split_ands); go_simp⟩) cv ?_
       simp only [Act.put, List.getElem_toArray, List.getElem_cons_zero, List.getElem_cons_succ, List.setIfInBounds_toArray, List.set_cons_zero, List.set_cons_succ]
       refine wpAnyL_take (i := 8) (v := .slice (some ⟨g, 0, none⟩) (rs.length + 1) c) rfl (by kernel_rfl) (by kernel_rfl) (by kernel_rfl) (fun _ _ _ h => h) rfl (by kernel_rfl) (Or.inl ⟨by rfl, fun w' hw' => by (try go_split_ands); go_simp⟩) cv ?_
       simp only [Act.put, List.getElem_toArray, List.getElem_cons_zero, List.getElem_cons_succ, List.setIfInBounds_toArray, List.set_cons_zero, List.set_cons_succ]
       refine wpAnyL_take (i := 9) (v := .int .i64 ((rs.length : Int) + 1)) rfl (by kernel_rfl) (by kernel_rfl) (by kernel_rfl) (fun _ _ _ h => h) rfl (by kernel_rfl) (Or.inl ⟨by rfl, fun w' hw' => by (try go_split_ands); go_simp⟩) cv ?_
       simp only [Act.put, List.getElem_toArray, List.getElem_cons_zero, List.getElem_cons_succ, List.setIfInBounds_toArray, List.set_cons_zero, List.set_cons_succ]
       refine wpAnyL_take (i := 10) (v := .int .i64 (rs.length : Int)) rfl (by kernel_rfl) (by kernel_rfl) (by kernel_rfl) (fun _ _ _ h => h) rfl (by kernel_rfl) (Or.inl ⟨by rfl, fun w' hw' => by (try go_split_ands); go_simp⟩) cv ?_
       simp only [Act.put, List.getElem_toArray, List.getElem_cons_zero, List.getElem_cons_succ, List.setIfInBounds_toArray, List.set_cons_zero, List.set_cons_succ]
       refine wpAnyL_one (i := 11) (by kernel_rfl) rfl (fun K hK => ?_)
       go_simp
       have HS6 := Lib.hid (HS.out.below (show Below W.heap.size W (W.alloc (.cells #[.int .i64 (rs.length : Int)] 3)).drew from (bAl (bRefl W) _).drew))
       have HN6 := Lib.hid ((Blk.new W 3 #[.int .i64 (rs.length : Int)]).drew)
       have hz6 : W.heap.size < (W.alloc (.cells #[.int .i64 (rs.length : Int)] 3)).drew.heap.size := HN6.out.lt
       have hB6 := HS6.out.ex.size
       generalize (W.alloc (.cells #[.int .i64 (rs.length : Int)] 3)).drew = W6 at HS6 HN6 hz6 hB6 ⊢
       refine hK.out _ _ (fun _ => ⟨HS6.out.pb.cell 2, HS6.out.pb.cell 0⟩) ?_
       clear hK K
       refine wpAnyL_one (i := 12) (by kernel_rfl) rfl (fun K hK => ?_)
       refine step_push tI rfl (.tmp 73) (.tmp 80) rfl w.heap.size vo (nI (ofs (lead l) k)) (by rfl) HS6.out.ow W.heap.size 0 1 1 [((rs.length : Int))] (by rfl) rfl (rangeBlk HN6.out (by rfl)) (by rw [nI_len, ofs_len]; unfold maxLen; simp; omega) (by rw [nI_len, ofs_len]; show _ * 8 ≤ _; simp; omega) hB6 ?_
       intro v' w9 hown hgrow hform
       obtain ⟨g', c', rfl, _⟩ := hform (by simp)
       have hO9 : OwR tI w.heap.size w9 (.slice (some ⟨g', 0, none⟩) ((nI (ofs (lead l) k)).length + 1) c') (nI (ofs (lead l) k ++ [rs.length])) := by rw [nI_app]; exact hown
       have hp9 := HS6.out.pb.of_block (hgrow.block p HS6.out.pb.lt (fun e => HS6.out.ow.ne HS6.out.pb (by decide) e.symm))
       have cv9 : w9.cell? ⟨p, 2, none⟩ = some vo ∧ w9.cell? ⟨p, 0, none⟩ = some (.slice (some ⟨g, 0, none⟩) (rs.length + 1) c) := ⟨hp9.cell 2, hp9.cell 0⟩
       have f9 := hp9.frozen 2
       have c9 : w9.cell? ⟨p, 2, none⟩ = some vo := hp9.cell 2
       simp only [Act.put, List.setIfInBounds_toArray]
       refine hK.out _ _ (fun _ => cv9) ?_
       clear hK K
       refine wpAnyL_one (i := 13) (by kernel_rfl) rfl (fun K hK => ?_)
       go_simp
       refine hK.out _ _ (fun _ => cv9) ?_
       clear hK K
       refine wpAnyL_one (i := 14) (by kernel_rfl) rfl (fun K hK => ?_)
       go_simp
       refine hK.out _ _ (fun _ => cv9) ?_
       clear hK K
       refine wpAnyL_one (i := 15) (by kernel_rfl) rfl (fun K hK => ?_)
       go_simp
       refine hK.out _ _ (fun h => absurd rfl h) ?_
       clear hK K
       refine wpAnyL_done (by kernel_rfl) ?_ _
       have HS9 := Lib.hid (HS6.out.putO hO9 hgrow)
       generalize w9.setCell ⟨p, 2, none⟩ (.slice (some ⟨g', 0, none⟩) ((nI (ofs (lead l) k)).length + 1) c') = W9 at HS9 ⊢
       clear hO9 hgrow hp9 cv9 f9 c9 HS6 HN6 hz6 hB6 hown hform cv kvo kvb HS
       go_upto_region 16 with (fail)
       have kvb : W9.cell? ⟨p, 0, none⟩ = some (.slice (some ⟨g, 0, none⟩) (rs.length + 1) c) := HS9.out.pb.cell 0
       have HT9 := Lib.hid (HS9.out.below (bRefl W9).drew)
       have hat := HT9.out.kb.at (k := rs.length) (x := ⟨(b.1 : Int), (b.2 : Int), ⟨none, 0, 0⟩⟩) (by rw [bkL_app, List.getElem?_append_right (by rw [bkL_len]; exact Nat.le_refl _), bkL_len, Nat.sub_self]; rfl)
       have kt := hat.cell 1 _ rfl
       have e3 : 0 + rs.length * tK.n + 1 = rs.length * 3 + 1 := by show 0 + rs.length * 3 + 1 = _; omega
       rw [e3] at kt
       have kf := HT9.out.kb.frozen (rs.length * 3 + 1)
       have cv : W9.drew.cell? ⟨p, 0, none⟩ = some (.slice (some ⟨g, 0, none⟩) (rs.length + 1) c) := kvb
       have hr0 : (0 : Int) ≤ (rs.length : Int) := by omega
       have hr1 : (rs.length : Int) < (rs.length : Int) + 1 := by omega
       clear hat e3
       refine wp_region_last 14 (fun w' => w'.cell? ⟨p, 0, none⟩ = some (.slice (some ⟨g, 0, none⟩) (rs.length + 1) c)) mix ?_
       refine wpAnyL_take (i := 0) (v := .pointer (some ⟨p, 0, none⟩)) rfl (by kernel_rfl) (by kernel_rfl) (by kernel_rfl) (fun _ _ _ h => h) rfl (by kernel_rfl) (Or.inl ⟨by rfl, fun w' hw' => by (try go_split_ands); go_simp⟩) cv ?_
       simp only [Act.put, List.getElem_toArray, List.getElem_cons_zero, List.setIfInBounds_toArray, List.set_cons_zero, List.set_cons_succ]
       refine wpAnyL_take (i := 1) (v := .pointer (some ⟨p, 0, none⟩)) rfl (by kernel_rfl) (by kernel_rfl) (by kernel_rfl) (fun _ _ _ h => h) rfl (by kernel_rfl) (Or.inl ⟨by rfl, fun w' hw' => by (try go_split_ands); go_simp⟩) cv ?_
       simp only [Act.put, List.getElem_toArray, List.getElem_cons_zero, List.getElem_cons_succ, List.setIfInBounds_toArray, List.set_cons_zero, List.set_cons_succ]
       refine wpAnyL_take (i := 2) (v := .pointer (some ⟨p, 0, none⟩)) rfl (by kernel_rfl) (by kernel_rfl) (by kernel_rfl) (fun _ _ _ h => h) rfl (by kernel_rfl) (Or.inl ⟨by rfl, fun w' hw' => by (try go_split_ands); go_simp⟩) cv ?_
       simp only [Act.put, List.getElem_toArray, List.getElem_cons_zero, List.getElem_cons_succ, List.setIfInBounds_toArray, List.set_cons_zero, List.set_cons_succ]
       refine wpAnyL_take (i := 3) (v := .slice (some ⟨g, 0, none⟩) (rs.length + 1) c) rfl (by kernel_rfl) (by kernel_rfl) (by kernel_rfl) (fun _ _ _ h => h) rfl (by kernel_rfl) (Or.inl ⟨by rfl, fun w' hw' => by (try go_split_ands); go_simp⟩) cv ?_
       simp only [Act.put, List.getElem_toArray, List.getElem_cons_zero, List.getElem_cons_succ, List.setIfInBounds_toArray, List.set_cons_zero, List.set_cons_succ]
       refine wpAnyL_take (i := 4) (v := .pointer (some ⟨p, 0, none⟩)) rfl (by kernel_rfl) (by kernel_rfl) (by kernel_rfl) (fun _ _ _ h => h) rfl (by kernel_rfl) (Or.inl ⟨by rfl, fun w' hw' => by (try go_split_ands); go_simp⟩) cv ?_
       simp only [Act.put, List.getElem_toArray, List.getElem_cons_zero, List.getElem_cons_succ, List.setIfInBounds_toArray, List.set_cons_zero, List.set_cons_succ]
       refine wpAnyL_take (i := 5) (v := .pointer (some ⟨p, 0, none⟩)) rfl (by kernel_rfl) (by kernel_rfl) (by kernel_rfl) (fun _ _ _ h => h) rfl (by kernel_rfl) (Or.inl ⟨by rfl, fun w' hw' => by (try go_split_ands); go_simp⟩) cv ?_
       simp only [Act.put, List.getElem_toArray, List.getElem_cons_zero, List.getElem_cons_succ, List.setIfInBounds_toArray, List.set_cons_zero, List.set_cons_succ]
       refine wpAnyL_take (i := 6) (v := .pointer (some ⟨p, 0, none⟩)) rfl (by kernel_rfl) (by kernel_rfl) (by kernel_rfl) (fun _ _ _ h => h) rfl (by kernel_rfl) (Or.inl ⟨by rfl, fun w' hw' => by (try go_split_ands); go_simp⟩) cv ?_
       simp only [Act.put, List.getElem_toArray, List.getElem_cons_zero, List.getElem_cons_succ, List.setIfInBounds_toArray, List.set_cons_zero, List.set_cons_succ]
       refine wpAnyL_take (i := 7) (v := .slice (some ⟨g, 0, none⟩) (rs.length + 1) c) rfl (by kernel_rfl) (by kernel_rfl) (by kernel_rfl) (fun _ _ _ h => h) rfl (by kernel_rfl) (Or.inl ⟨by rfl, fun w' hw' => by (try go_split_ands); go_simp⟩) cv ?_
       simp only [Act.put, List.getElem_toArray, List.getElem_cons_zero, List.getElem_cons_succ, List.setIfInBounds_toArray, List.set_cons_zero, List.set_cons_succ]
       refine wpAnyL_take (i := 8) (v := .int .i64 ((rs.length : Int) + 1)) rfl (by kernel_rfl) (by kernel_rfl) (by kernel_rfl) (fun _ _ _ h => h) rfl (by kernel_rfl) (Or.inl ⟨by rfl, fun w' hw' => by (try go_split_ands); go_simp⟩) cv ?_
       simp only [Act.put, List.getElem_toArray, List.getElem_cons_zero, List.getElem_cons_succ, List.setIfInBounds_toArray, List.set_cons_zero, List.set_cons_succ]
       refine wpAnyL_take (i := 9) (v := .int .i64 (rs.length : Int)) rfl (by kernel_rfl) (by kernel_rfl) (by kernel_rfl) (fun _ _ _ h => h) rfl (by kernel_rfl) (Or.inl ⟨by rfl, fun w' hw' => by (try go_split_ands); go_simp⟩) cv ?_
       simp only [Act.put, List.getElem_toArray, List.getElem_cons_zero, List.getElem_cons_succ, List.setIfInBounds_toArray, List.set_cons_zero, List.set_cons_succ]
       refine wpAnyL_take (i := 10) (v := .int .i64 (k : Int)) rfl (by kernel_rfl) (by kernel_rfl) (by kernel_rfl) (fun _ _ _ h => h) rfl (by kernel_rfl) (Or.inl ⟨by rfl, fun w' hw' => by (try go_split_ands); go_simp⟩) cv ?_
       simp only [Act.put, List.getElem_toArray, List.getElem_cons_zero, List.getElem_cons_succ, List.setIfInBounds_toArray, List.set_cons_zero, List.set_cons_succ]
       refine wpAnyL_take (i := 11) (v := .int .i64 ((k : Int) + 1)) rfl (by kernel_rfl) (by kernel_rfl) (by kernel_rfl) (fun _ _ _ h => h) rfl (by kernel_rfl) (Or.inl ⟨by rfl, fun w' hw' => by (try go_split_ands); go_simp⟩) cv ?_
       simp only [Act.put, List.getElem_toArray, List.getElem_cons_zero, List.getElem_cons_succ, List.setIfInBounds_toArray, List.set_cons_zero, List.set_cons_succ]
       refine wpAnyL_one (i := 12) (by kernel_rfl) rfl (fun K hK => ?_)
       go_simp
       refine hK.out _ _ (fun _ => cv) ?_
       clear hK K
       refine wpAnyL_one (i := 13) (by kernel_rfl) rfl (fun K hK => ?_)
       go_simp
       refine hK.out _ _ (fun _ => cv) ?_
       clear hK K
       refine wpAnyL_one (i := 14) (by kernel_rfl) rfl (fun K hK => ?_)
       go_simp
       refine hK.out _ _ (fun h => absurd rfl h) ?_
       clear hK K
       refine wpAnyL_done (by kernel_rfl) ?_ _
       have HSF := Lib.hid ((HS9.out.setTo (b := b) (rs := rs) rfl (k + 1) ((k : Int) + 1) (by omega)).below (bRefl _).drew)
       generalize (W9.setCell ⟨g, rs.length * 3 + 1, none⟩ (.int .i64 ((k : Int) + 1))).drew = WF at HSF ⊢
       have HSG : Hid (S2 w p pS gS (l.length + 1) (lead l) (blks (lead l) (k + 1)) (ofs (lead l) (k + 1)) (.slice (some ⟨g, 0, none⟩) (rs.length + 1) c) (.slice (some ⟨g', 0, none⟩) ((nI (ofs (lead l) k)).length + 1) c') WF) := by
        show S2 _ _ _ _ _ _ _ _ _ _ _
        rw [ofs_succ, HBS.out]
        simp only [List.length_append, List.length_cons, List.length_nil, Nat.zero_add, Nat.add_sub_cancel]
        exact HSF.out
       clear HSF HT9 HS9 kvb kt kf cv hwr hwr2 hwk
       go_wp2
       go_roundw
       all_goals first
        | exact ⟨k + 1, _, _, by omega, by go_num, HSG.out⟩
        | ((repeat apply Exists.intro); exact ⟨⟨k + 1, _, _, by omega, by go_num, HSG.out⟩, rfl⟩)
        | (simp [intOf]; omega)
    ·obtain rfl : k = l.length := by omega
     have hS2 := hS.out
     have hbl0 : 0 < (bl l).length := bl_pos (by intro e; rw [e] at hne; simp at hne)
     have hnl := nB_le l
     rcases hS2.kb.form with ⟨_, e⟩ | ⟨gb, cb, rfl, hcb1, hcb2, hgb⟩
     ·exfalso
      have := congrArg List.length e
      rw [bkL_len] at this
      have h2 : (bl l).length = 0 := this
      omega
     rcases hS2.ow.form with ⟨_, e⟩ | ⟨go, co, rfl, hco1, hco2, hgo⟩
     ·exfalso
      have := congrArg List.length e
      rw [nI_len, ofs_len] at this
      simp only [List.length_nil] at this
      omega
     rw [bkL_len] at hS2 hcb1
     rw [nI_len, ofs_len] at hS2 hco1
     have hnb : (blks (lead l) l.length).length = nB l := rfl
     rw [hnb] at hS2 hcb1
     have HS := Lib.hid hS2
     have hn0 : 0 < nB l := hbl0
     clear hS2 hS hlt hk hbl0
     obtain ⟨W, rfl⟩ : ∃ x : World, x = wr := ⟨_, rfl⟩
     have kp := HS.out.pb.cell 0
     simp only [List.getElem?_toArray, List.getElem?_cons_zero] at kp
     unfold maxLen at hcb2 hco2
     go_upto_region 19 with (at_make; refine wpl_make tII ⟨none, 0, 0⟩ rfl rfl _ _ rfl .i64 .i64 (nB l : Int) (nB l : Int) (nB l) rfl rfl rfl rfl (by show 24 * _ ≤ _; omega) (by unfold maxLen; omega) ?_; intro w5 ho5 hb5 hlt5; have hp5 := HS.out.pb.below hb5 HS.out.pb.lt; have c5 := hp5.cell 1; have f5 := hp5.frozen 1; simp only [List.getElem?_toArray, List.getElem?_cons_zero, List.getElem?_cons_succ] at c5)
     have hS3 : S3 w p gb cb W.heap.size go co l 0 0 (row0 (nB l) go l.length co) (w5.setCell ⟨p, 1, none⟩ (.slice (some ⟨W.heap.size, 0, none⟩) (nB l) (nB l))) := by
      have hr0 : ∀ i, i < 2 * nB l → row0 (nB l) go l.length co i = ⟨none, 0, 0⟩ := fun i hi => row0_lo (by omega)
      have h5 := HS.out.below hb5
      refine ⟨⟨(hp5.set 1 _).eq rfl, ?_, ?_, ⟨fun i hi => ?_, fun i j hi hj hij g hg => ?_⟩, ?_⟩, h5.ex.set 1 _, row0_top _ _ _ _⟩
      ·rw [← bkL_bkI l _ fun i hi => hr0 i (by omega)]
       exact h5.kb.set_other (h5.kb.ne hp5 (by decide))
      ·rw [← ahI_nil (nB l) _ hr0]
       exact (ho5.mono HS.out.ex.size).set_other (ho5.ne hp5 (by decide))
      ·by_cases e : i = 2 * nB l
       ·subst e
        rw [conL_top _ _ _ _ _ _ (Nat.le_refl _)]
        rw [row0_top]
        simp only
        rw [if_pos trivial]
        exact h5.ow.set_other (h5.ow.ne hp5 (by decide))
       ·rw [conL_zero _ _ _ _ (by omega), hr0 i (by omega)]
        exact OwR.nil _ _
      ·intro hg'
       by_cases e : i = 2 * nB l
       ·rw [hr0 j (by omega)] at hg'
        cases hg'
       ·rw [hr0 i (by omega)] at hg
        cases hg
      ·have := h5.ex.size
       have e : (w5.setCell ⟨p, 1, none⟩ (.slice (some ⟨W.heap.size, 0, none⟩) (nB l) (nB l))).heap.size = w5.heap.size := by simp
       omega
     obtain ⟨ga, hga⟩ : ∃ g, g = W.heap.size := ⟨_, rfl⟩
     rw [← hga] at hS3 ⊢
     have HS3 := Lib.hid hS3
     generalize (w5.setCell ⟨p, 1, none⟩ (.slice (some ⟨ga, 0, none⟩) (nB l) (nB l))) = W6 at HS3 ⊢
     clear hS3 ho5 hb5 hlt5 hp5 f5 c5 HS kp hga
     have kp := HS3.out.lk.pb.cell 0
     simp only [List.getElem?_toArray, List.getElem?_cons_zero] at kp
     clear hnb
     go_wp2
     go_loopw [113] (fun t wr => ∃ (b : Nat) (row : Nat → Sv), b ≤ nB l ∧ t = .int .i64 (b : Int) ∧ Hid (S3 w p gb cb ga go co l b 0 row wr)) (fun t _ => nB l - (intOf t).toNat)
     case atStart => exact ⟨0, _, by omega, rfl, HS3.out⟩
     case round =>
      clear HS3 kp
      obtain ⟨b, row, hb, rfl, hS⟩ := hrel
      by_cases hlb : b < nB l
      ·have hlb' : (b : Int) < (nB l : Int) := by omega
       have hb0 : (0 : Int) ≤ (b : Int) := by omega
       obtain ⟨e, he⟩ : ∃ e, (bl l)[b]? = some e := ⟨_, List.getElem?_eq_getElem hlb⟩
       obtain ⟨i, x, e1, hi, hx⟩ := bl_end he
       have hnx := nxt_eq he (x := x) (by rw [e1]; exact hx)
       have e2 := (frF_of he).2
       rw [e1] at e2 hnx
       simp only [Nat.add_sub_cancel] at hnx
       have hi' : (i : Int) < (l.length : Int) := by omega
       have hi0 : (0 : Int) ≤ (i : Int) := by omega
       have hi4 : (i : Int) < 4096 := by omega
       have HNX := Lib.hid hnx
       have HLT := Lib.hid (nxt_lt HEN.out (u := b) hlb)
       have HX := Lib.hid hx
       have kp := hS.out.lk.pb.cell 0
       simp only [List.getElem?_toArray, List.getElem?_cons_zero] at kp
       have kt := (hS.out.lk.cellK hlb).2.1
       rw [e2] at kt
       have kt2 : wr.cell? ⟨gb, b * 3 + 1, none⟩ = some (.int .i64 ((i : Int) + 1)) := by rw [kt]; rfl
       obtain ⟨bt, ot, rfl, _, hbt, ct⟩ := SlX.int (HT.out.ex hS.out.ex) (tosI_get hi)
       have hsub : (i : Int) + 1 - 1 = (i : Int) := by omega
       clear kt e2 e1 he hnx hx
       cases htg : tgt l i with
       | none =>
        obtain ⟨pre, j, HP, HJ, HS1, hj1⟩ : ∃ (pre : List Nat) (j : Nat), Hid (nxt l b = pre ++ (if x.op = 26 ∨ x.op = 39 then [] else [b + 1])) ∧ Hid (pre.length = j) ∧ Hid (S3 w p gb cb ga go co l b j row wr) ∧ j ≤ 1 := by
         refine ⟨[], 0, ?_, rfl, hS.out, by omega⟩
         show _ = _
         rw [HNX.out, htg]
        rw [htg] at ct
        have ct2 : wr.cell? ⟨bt, ot + i, none⟩ = some (.int .i64 (-1)) := ct
        clear ct htg HNX hS
        obtain ⟨W1, rfl⟩ : ∃ x : World, x = wr := ⟨_, rfl⟩
        obtain ⟨row1, rfl⟩ : ∃ r, r = row := ⟨_, rfl⟩
        go_upto_region 25 with (fail)
        obtain ⟨bb, off, rfl, _, hat⟩ := (H.out.ex HS1.out.ex).get HX.out
        obtain ⟨c0, _⟩ := at_ins hat
        have e8 : tN.n = 8 := rfl
        rw [e8] at c0
        have kp := HS1.out.lk.pb.cell 0
        simp only [List.getElem?_toArray, List.getElem?_cons_zero] at kp
        clear hat e8
        by_cases hop : x.op = 26
        ·have hop' : (x.op != 26) = false := by simp [hop]
         have hlen : (nxt l b).length = j := by rw [HP.out, if_pos (Or.inl hop), List.append_nil]; exact HJ.out
         have hS9 := HS1.out
         rw [← hlen] at hS9
         have HS9 := Lib.hid (hS9.next hlb)
         clear hS9 hlen hop HP
         go_wp2
         go_roundw
         all_goals first
          | exact ⟨b + 1, _, by omega, by go_num, HS9.out⟩
          | ((repeat apply Exists.intro); exact ⟨⟨b + 1, _, by omega, by go_num, HS9.out⟩, rfl⟩)
          | (simp [intOf]; omega)
        ·have hop' : (x.op != 26) = true := by simp [hop]
         by_cases hop2 : x.op = 39
         ·have hop2' : (x.op != 39) = false := by simp [hop2]
          have hlen : (nxt l b).length = j := by rw [HP.out, if_pos (Or.inr hop2), List.append_nil]; exact HJ.out
          have hS9 := HS1.out
          rw [← hlen] at hS9
          have HS9 := Lib.hid (hS9.next hlb)
          clear hS9 hlen hop hop2 HP
          go_wp2
          go_roundw
          all_goals first
           | exact ⟨b + 1, _, by omega, by go_num, HS9.out⟩
           | ((repeat apply Exists.intro); exact ⟨⟨b + 1, _, by omega, by go_num, HS9.out⟩, rfl⟩)
           | (simp [intOf]; omega)
         ·have hop2' : (x.op != 39) = true := by simp [hop2]
          have hnx2 : nxt l b = pre ++ [b + 1] := by rw [HP.out, if_neg (by simp [hop, hop2])]
          have hb1 : b + 1 < nB l := HLT.out (b + 1) (by rw [hnx2]; simp)
          have hb1' : (b : Int) + 1 < (nB l : Int) := by omega
          have hget := Lib.hid (show (nxt l b)[j]? = some (b + 1) by rw [hnx2, List.getElem?_append_right (by rw [HJ.out]; exact Nat.le_refl _), HJ.out, Nat.sub_self]; rfl)
          have hlen := Lib.hid (show (nxt l b).length = j + 1 by rw [hnx2, List.length_append, HJ.out]; rfl)
          clear hnx2 hop hop2 HP
          go_wp2_with fail
          refine (HS1.out.link hl hlb hget.out hb1 _ rfl).mono ?_
          rintro e w9 ⟨rfl, row9, hS9⟩
          rw [← hlen.out] at hS9
          have HS9 := Lib.hid (hS9.next hlb)
          clear hS9 hlen HS1 c0 kp
          go_wp2
          go_roundw
          all_goals first
           | exact ⟨b + 1, _, by omega, by go_num, HS9.out⟩
           | ((repeat apply Exists.intro); exact ⟨⟨b + 1, _, by omega, by go_num, HS9.out⟩, rfl⟩)
           | (simp [intOf]; omega)
       | some t =>
        have htl := tgt_lt htg
        have hol : (ofl l).length = l.length := ofs_len _ _
        obtain ⟨u, hu⟩ : ∃ u, (ofl l)[t]? = some u := ⟨_, List.getElem?_eq_getElem (by omega)⟩
        have HP : Hid (nxt l b = [u] ++ (if x.op = 26 ∨ x.op = 39 then [] else [b + 1])) := by
         show _ = _
         rw [HNX.out, htg]
         simp only
         rw [List.getD_eq_getElem?_getD, hu]
         rfl
        have hun : u < nB l := HLT.out u (by rw [HP.out]; simp)
        have hg0 := Lib.hid (show (nxt l b)[0]? = some u by rw [HP.out]; rfl)
        rw [htg] at ct
        have ct2 : wr.cell? ⟨bt, ot + i, none⟩ = some (.int .i64 (t : Int)) := ct
        have htl' : (t : Int) < (l.length : Int) := by omega
        have ht0 : (0 : Int) ≤ (t : Int) := by omega
        have how := hS.out.lk.fm.own (2 * nB l) (by omega)
        rw [hS.out.ro, conL_top _ _ _ _ _ _ (Nat.le_refl _)] at how
        simp only at how
        rw [if_pos trivial] at how
        have cu := OwR.int how (k := t) (x := (u : Int)) (by unfold nI; rw [List.getElem?_map, hu]; rfl)
        have kp2 := hS.out.lk.pb.cell 2
        simp only [List.getElem?_toArray, List.getElem?_cons_zero, List.getElem?_cons_succ] at kp2
        clear ct htg HNX hu how hol
        go_upto_region 24 with (fail)
        have dp : wr.drew.cell? ⟨p, 2, none⟩ = some (.slice (some ⟨go, 0, none⟩) l.length co) := kp2
        have dt : wr.drew.cell? ⟨bt, ot + i, none⟩ = some (.int .i64 (t : Int)) := ct2
        have du : wr.drew.cell? ⟨go, t, none⟩ = some (.int .i64 (u : Int)) := cu
        refine wp_tail 12 mix (by kernel_rfl) ?_
        simp only [List.take_succ_cons, List.take_zero, List.drop_succ_cons, List.drop_zero]
        iterate 12 still_step
        refine wpStill_nil ?_
        have HSd := Lib.hid (hS.out.below (bRefl wr).drew)
        clear hS kp kt2 ct2 cu kp2 dp dt du hsub
        go_wp2_with fail
        refine (HSd.out.link hl hlb hg0.out hun _ rfl).mono ?_
        rintro e W1 ⟨rfl, row1, hS1⟩
        obtain ⟨pre, j, HP, HJ, HS1, hj1⟩ : ∃ (pre : List Nat) (j : Nat), Hid (nxt l b = pre ++ (if x.op = 26 ∨ x.op = 39 then [] else [b + 1])) ∧ Hid (pre.length = j) ∧ Hid (S3 w p gb cb ga go co l b j row1 W1) ∧ j ≤ 1 := ⟨[u], 1, HP.out, rfl, hS1, by omega⟩
        clear hS1 hg0 HSd
        obtain ⟨bb, off, rfl, _, hat⟩ := (H.out.ex HS1.out.ex).get HX.out
        obtain ⟨c0, _⟩ := at_ins hat
        have e8 : tN.n = 8 := rfl
        rw [e8] at c0
        have kp := HS1.out.lk.pb.cell 0
        simp only [List.getElem?_toArray, List.getElem?_cons_zero] at kp
        clear hat e8
        by_cases hop : x.op = 26
        ·have hop' : (x.op != 26) = false := by simp [hop]
         have hlen : (nxt l b).length = j := by rw [HP.out, if_pos (Or.inl hop), List.append_nil]; exact HJ.out
         have hS9 := HS1.out
         rw [← hlen] at hS9
         have HS9 := Lib.hid (hS9.next hlb)
         clear hS9 hlen hop HP
         go_wp2
         go_roundw
         all_goals first
          | exact ⟨b + 1, _, by omega, by go_num, HS9.out⟩
          | ((repeat apply Exists.intro); exact ⟨⟨b + 1, _, by omega, by go_num, HS9.out⟩, rfl⟩)
          | (simp [intOf]; omega)
        ·have hop' : (x.op != 26) = true := by simp [hop]
         by_cases hop2 : x.op = 39
         ·have hop2' : (x.op != 39) = false := by simp [hop2]
          have hlen : (nxt l b).length = j := by rw [HP.out, if_pos (Or.inr hop2), List.append_nil]; exact HJ.out
          have hS9 := HS1.out
          rw [← hlen] at hS9
          have HS9 := Lib.hid (hS9.next hlb)
          clear hS9 hlen hop hop2 HP
          go_wp2
          go_roundw
          all_goals first
           | exact ⟨b + 1, _, by omega, by go_num, HS9.out⟩
           | ((repeat apply Exists.intro); exact ⟨⟨b + 1, _, by omega, by go_num, HS9.out⟩, rfl⟩)
           | (simp [intOf]; omega)
         ·have hop2' : (x.op != 39) = true := by simp [hop2]
          have hnx2 : nxt l b = pre ++ [b + 1] := by rw [HP.out, if_neg (by simp [hop, hop2])]
          have hb1 : b + 1 < nB l := HLT.out (b + 1) (by rw [hnx2]; simp)
          have hb1' : (b : Int) + 1 < (nB l : Int) := by omega
          have hget := Lib.hid (show (nxt l b)[j]? = some (b + 1) by rw [hnx2, List.getElem?_append_right (by rw [HJ.out]; exact Nat.le_refl _), HJ.out, Nat.sub_self]; rfl)
          have hlen := Lib.hid (show (nxt l b).length = j + 1 by rw [hnx2, List.length_append, HJ.out]; rfl)
          clear hnx2 hop hop2 HP
          go_wp2_with fail
          refine (HS1.out.link hl hlb hget.out hb1 _ rfl).mono ?_
          rintro e w9 ⟨rfl, row9, hS9⟩
          rw [← hlen.out] at hS9
          have HS9 := Lib.hid (hS9.next hlb)
          clear hS9 hlen HS1 c0 kp
          go_wp2
          go_roundw
          all_goals first
           | exact ⟨b + 1, _, by omega, by go_num, HS9.out⟩
           | ((repeat apply Exists.intro); exact ⟨⟨b + 1, _, by omega, by go_num, HS9.out⟩, rfl⟩)
           | (simp [intOf]; omega)
      ·obtain rfl : b = nB l := by omega
       have HS := hS
       clear hlb hS
       go_wp2
       go_end0
       have hS := HS.out
       exact ⟨rfl, hS.ex, _, _, _, _, _, hS.lk.pb, hS.done (Nat.le_of_lt hpl)⟩
end Go.Proofs.Ytndnfjcfpcfakaa
namespace Go.Proofs.Ytndnfjcfpcfakaa
open Go Go.RowKit Go.Wr Go.Fl
set_option maxHeartbeats 4000000
set_option maxRecDepth 100000
structure Wn (w : World) (pS gS pT n : Nat) (V : Nat → Bool) (S : List Nat) (wr : World) : Prop where
 st : St w.heap.size pS gS n V wr
 sk : Sk w.heap.size pT S wr
 bl : Below w.heap.size w wr
section
variable {w wr w' : World} {pS gS pT n : Nat} {V : Nat → Bool} {S : List Nat}
theorem Wn.ne (h : Wn w pS gS pT n V S wr) : pT ≠ pS ∧ pT ≠ gS := by
 obtain ⟨v, h1, _, _⟩ := h.sk
 obtain ⟨_, C, hg⟩ := h.st.gb.blk (g := gS) rfl
 exact ⟨blk_ne h1 h.st.pb (by decide), blk_ne h1 hg (by decide)⟩
theorem Wn.hT (h : Wn w pS gS pT n V S wr) : w.heap.size ≤ pT := by obtain ⟨v, _, _, h3⟩ := h.sk; exact h3
theorem Wn.below (h : Wn w pS gS pT n V S wr) (b : Below wr.heap.size wr w') : Wn w pS gS pT n V S w' := ⟨h.st.below b, h.sk.below b, bThen h.bl b⟩
theorem Wn.fq (h : Wn w pS gS pT n V S wr) (f : Fq pT 3 w.heap.size wr w') {S' : List Nat} (hs : Sk w.heap.size pT S' w') : Wn w pS gS pT n V S' w' := by
 obtain ⟨n1, n2⟩ := h.ne
 exact ⟨h.st.fq f n1.symm n2.symm (by decide) (by decide), hs, h.bl.trans (f.below h.hT (Nat.le_refl _) h.bl.size)⟩
theorem Wn.mark (h : Wn w pS gS pT n V S wr) {i : Nat} (hi : i < n) : Wn w pS gS pT n (Fl.mark V i) S (wr.setCell ⟨gS, i, none⟩ (.bool true)) := by
 obtain ⟨_, C, hg⟩ := h.st.gb.blk (g := gS) rfl
 exact ⟨h.st.mark hi, h.sk.setOther hg (by decide) (by decide), h.bl.setCell h.st.hg _⟩
theorem Wn.start {w1 : World} (hst : St w.heap.size pS gS n V w1) (hb : Below w.heap.size w w1) : Wn w pS gS w1.heap.size n V [] (w1.alloc (.cells #[.slice none 0 0] 133)) :=
 ⟨hst.below (bAl (bRefl _) _), ⟨_, Blk.new _ _ _, OwR.nil _ _, hb.size⟩, bAl hb _⟩
end
theorem free_start (n : Nat) : free n (fun _ => false) ≤ n := free_bound n _
theorem turning_ok (w : World) (p n : Nat) (nx : Nat → List Nat) (pl : Nat → Nat) (d : Nat → Option Nat) (ah : Nat → List Nat) (g : Gr nx pl n ah) (hI : Idom nx pl n d) (b4 o4 b5 o5 c4 c5 : Nat) (h : Pd p n pl d ⟨b4, o4, none⟩ ⟨b5, o5, none⟩ c4 c5 w)
  (vb : Value) (bs : List Bk) (hf : FwR p n nx vb bs w) (hp : p < w.heap.size) (h4 : b4 < w.heap.size) (h5 : b5 < w.heap.size) (hn : n ≤ 4096) (hx2 : ∀ u, (nx u).length ≤ 1048576) :
  Calls Try.prog 46 #[.pointer (some ⟨p, 0, none⟩)] w fun e w' => Below w.heap.size w w' ∧ ((∃ b, b < n ∧ e = .returned (.int .i64 (b : Int)) ∧ Nbr nx b b ∧ ∀ x, x < b → ¬ Nbr nx x x) ∨ (e = .returned (.int .i64 (-1)) ∧ ∀ x, x < n → ¬ Nbr nx x x)) := by
 obtain ⟨a0, cap, rfl, h1, h2⟩ := hf.sb.form
 have hln := hf.ln
 have f0 := hf.f0
 rw [hln] at f0 h1
 have H := Lib.hid h
 have HF := Lib.hid hf
 have HI := Lib.hid hI
 have HG := Lib.hid g
 have HX := Lib.hid hx2
 have HLN := Lib.hid hln
 unfold maxLen at h2
 clear h hf hI g hx2 hln
 go_enter Try.func46, Try.ntmps46
 go_wp2
 go_step3
 go_wp2
 go_step3
 go_wp2
 go_loopw [3, 16] (fun t3 t wr => ∃ b : Nat, b ≤ n ∧ t = .int .i64 (b : Int) ∧ t3 = .int .i64 (-1) ∧ Hid (∀ x, x < b → ¬ Nbr nx x x) ∧ Hid (Below w.heap.size w wr)) (fun _ t _ => n - (intOf t).toNat)
 case atStart => exact ⟨0, by omega, rfl, rfl, (fun x hx => by omega), bRefl w⟩
 case round =>
  obtain ⟨b, hb, rfl, rfl, hq, hbl⟩ := hrel
  by_cases hlt : b < n
  ·have hlt' : (b : Int) < (n : Int) := by omega
   have kp : wr.cell? ⟨p, 0, none⟩ = some (.slice a0 n cap) := (hbl.out.cell (p := ⟨p, 0, none⟩) hp).trans f0
   have HF0 := Lib.hid f0
   clear f0
   go_wp2_with fail
   refine (newSet_ok _ n (by omega)).mono ?_
   rintro e w1 ⟨b1, pS, gS, rfl, hst⟩
   have hB1 : Below w.heap.size w w1 := bThen hbl.out b1
   have hst1 : St w.heap.size pS gS n (fun _ => false) w1 := ⟨hst.pb, hst.gb.mono hbl.out.size, by have := hst.hp; have := hbl.out.size; omega⟩
   have HW1 := Lib.hid (Wn.start hst1 hB1)
   clear b1 hst hst1 hB1 kp
   go_wp2_with fail
   obtain ⟨pT, hpT⟩ : ∃ q, q = w1.heap.size := ⟨_, rfl⟩
   rw [← hpT] at HW1 ⊢
   generalize (w1.alloc (.cells #[.slice none 0 0] 133)) = W1 at HW1 ⊢
   clear hpT
   refine (pushI_ok _ w.heap.size pT [] HW1.out.sk HW1.out.bl.size (by simp) b).mono ?_
   rintro e w2 ⟨rfl, hs2, hf2⟩
   have HW2 := Lib.hid (HW1.out.fq (S' := [b]) hf2 hs2)
   clear hs2 hf2 HW1
   go_wp2
   go_loopg [3] (2 * n + 1) (fun m t3 wr => ∃ (V : Nat → Bool) (S : List Nat), t3 = .int .i64 (-1) ∧ Hid (Wn w pS gS pT n V S wr) ∧ Hid (Tc nx b V S) ∧ Hid (∀ x ∈ S, x < n) ∧ 2 * free n V + S.length ≤ m ∧ m ≤ 2 * n + 1)
   case atStart => exact ⟨_, [b], rfl, HW2.out, Tc.start nx b, (fun x hx => by simp at hx; subst hx; exact hlt), by have := free_start n; simp; omega, by omega⟩
   case round =>
    clear HW2
    obtain ⟨V, S, rfl, hW, hT, hS, hm, hm2⟩ := hrel
    rcases List.eq_nil_or_concat S with rfl | ⟨S', u, rfl⟩
    ·have hno := Lib.hid hT.out.none
     go_wp2_with fail
     refine (popI_none _ w.heap.size pT hW.out.sk).mono ?_
     rintro e w3 ⟨rfl, rfl⟩
     have hnew : Hid (∀ x, x < b + 1 → ¬ Nbr nx x x) := fun x hx => by
      by_cases e : x < b
      ·exact hq.out x e
      ·obtain rfl : x = b := by omega
       exact hno.out
     have HB := Lib.hid hW.out.bl
     clear hW hT hS hm hm2 hq hno hbl
     go_wp2
     go_roundw
     all_goals first
      | exact ⟨b + 1, by omega, by go_num, rfl, hnew.out, HB.out⟩
      | ((repeat apply Exists.intro); exact ⟨⟨b + 1, by omega, by go_num, rfl, hnew.out, HB.out⟩, rfl⟩)
      | (simp [intOf]; omega)
    ·rw [List.concat_eq_append] at hW hT hS hm
     have hun := hS.out u (by simp)
     have hui : (u : Int) < (n : Int) := by omega
     have hui0 : (0 : Int) ≤ (u : Int) := by omega
     go_wp2_with fail
     refine (popI_some _ w.heap.size pT S' u hW.out.sk).mono ?_
     rintro e w3 ⟨rfl, hs3, hf3⟩
     have HW3 := Lib.hid (hW.out.fq hf3 hs3)
     have HT3 := Lib.hid hT.out.pop
     have HS3 : Hid (∀ x ∈ S', x < n) := fun x hx => hS.out x (by simp [hx])
     have hm3 : 2 * free n V + S'.length < gk := by simp at hm; omega
     clear hs3 hf3 hW hT hS hm
     obtain ⟨kb, hkb⟩ : ∃ kb, bs[u]? = some kb := ⟨_, List.getElem?_eq_getElem (by rw [HLN.out]; exact hun)⟩
     have hFw := HF.out.below hp HW3.out.bl
     have hsb := hFw.sb
     rw [HLN.out] at hsb
     obtain ⟨bb, off, rfl, _, hat⟩ := hsb.get hkb
     obtain ⟨_, _, c2⟩ := at_bk hat
     have e3 : tK.n = 3 := rfl
     rw [e3] at c2
     have hnx := HF.out.nb u kb hkb
     obtain ⟨an, cn, en, hn1, hn2⟩ := hnx.form
     rw [nI_len] at en hn1
     rw [en] at c2 hnx
     unfold maxLen at hn2
     have hxl := HX.out u
     have HNX := Lib.hid hnx
     have kp : w3.cell? ⟨p, 0, none⟩ = some (.slice (some ⟨bb, off, none⟩) n cap) := (HW3.out.bl.cell (p := ⟨p, 0, none⟩) hp).trans HF0.out
     clear hkb hFw hsb hat e3 hnx en hbl
     go_wp2
     go_loopw [3, 46] (fun t3 t wr => ∃ (j : Nat) (V : Nat → Bool) (S : List Nat), t3 = .int .i64 (-1) ∧ j ≤ (nx u).length ∧ t = .int .i64 (j : Int) ∧ Hid (Wn w pS gS pT n V S wr) ∧ Hid (Tw nx b V S u j) ∧ Hid (∀ x ∈ S, x < n) ∧ 2 * free n V + S.length < gk) (fun _ t _ => (nx u).length - (intOf t).toNat)
     case atStart => exact ⟨0, V, S', rfl, by omega, rfl, HW3.out, HT3.out, HS3.out, hm3⟩
     case round =>
      clear HW3 HT3 HS3 hm3 kp c2
      obtain ⟨j, V, S, rfl, hj, rfl, hW, hT, hS, hm3⟩ := hrel
      by_cases hlj : j < (nx u).length
      ·have hlj' : (j : Int) < ((nx u).length : Int) := by omega
       obtain ⟨v, hv⟩ : ∃ v, (nx u)[j]? = some v := ⟨_, List.getElem?_eq_getElem hlj⟩
       have hvn := HG.out.nlt u hun v (List.mem_of_getElem? hv)
       obtain ⟨bv, ov, rfl, _, _, cv⟩ := SlX.int (HNX.out.below hW.out.bl) (show (nI (nx u))[j]? = some (v : Int) by unfold nI; rw [List.getElem?_map, hv]; rfl)
       have hvi : (v : Int) < (n : Int) := by omega
       have hv0 : (0 : Int) ≤ (v : Int) := by omega
       have hkey := Lib.hid (domB_iff (nx := nx) hvn hun)
       have HV := Lib.hid hv
       clear hv
       go_wp2_with fail
       refine (dominates_ok _ p n nx pl d ah HG.out HI.out b4 o4 b5 o5 c4 c5 (H.out.below hp h4 h5 hW.out.bl) _ cap ((hW.out.bl.cell (p := ⟨p, 0, none⟩) hp).trans HF0.out) (v : Int) (u : Int)).mono ?_
       rintro e w5 ⟨rfl, q, hw5⟩
       have HW5 : Hid (Wn w pS gS pT n V S w5) := by show Wn _ _ _ _ _ _ _ _; rw [hw5]; exact hW.out.below (bDraw (bRefl _) q)
       clear hw5 hW cv
       cases hd : domB nx n (v : Int) (u : Int) with
       | true =>
        have HT9 := Lib.hid (hT.out.back HV.out (hkey.out.mp hd))
        clear hd hkey hT
        go_wp2
        go_roundw
        all_goals first
         | exact ⟨j + 1, V, S, rfl, by omega, by go_num, HW5.out, HT9.out, hS.out, hm3⟩
         | ((repeat apply Exists.intro); exact ⟨⟨j + 1, V, S, rfl, by omega, by go_num, HW5.out, HT9.out, hS.out, hm3⟩, rfl⟩)
         | (simp [intOf]; omega)
       | false =>
        have hnd : ¬ Dom nx v u := fun h => by have := hkey.out.mpr h; rw [hd] at this; cases this
        have HND := Lib.hid hnd
        clear hnd hd hkey
        by_cases hvb : v = b
        ·have hvb' : ((v : Int) == (b : Int)) = true := by simp [hvb]
         have HTo : Hid (Nbr nx b b) := by
          have := hT.out.to HV.out HND.out
          rw [hvb] at this
          exact this
         clear hvb hT
         go_wp2
         try rw [Exit.noGoto_ret]
         go_ret
         exact ⟨HW5.out.bl, Or.inl ⟨b, hlt, rfl, HTo.out, hq.out⟩⟩
        ·have hvb' : ((v : Int) == (b : Int)) = false := by simp; omega
         go_wp2_with fail
         cases hVv : V v with
         | true =>
          have HT9 := Lib.hid (hT.out.old HV.out hVv hvb)
          refine (add_old _ w.heap.size pS gS n V HW5.out.st (v : Int) (by omega) (by omega) (by rw [Int.toNat_natCast]; exact hVv)).mono ?_
          rintro e w7 ⟨rfl, rfl⟩
          clear hT hVv hvb
          go_wp2
          go_roundw
          all_goals first
           | exact ⟨j + 1, V, S, rfl, by omega, by go_num, HW5.out, HT9.out, hS.out, hm3⟩
           | ((repeat apply Exists.intro); exact ⟨⟨j + 1, V, S, rfl, by omega, by go_num, HW5.out, HT9.out, hS.out, hm3⟩, rfl⟩)
           | (simp [intOf]; omega)
         | false =>
          have HT9 := Lib.hid (hT.out.new HV.out HND.out hvb)
          have hfr := free_mark hvn hVv
          refine (add_new _ w.heap.size pS gS n V HW5.out.st (v : Int) (by omega) (by omega) (by rw [Int.toNat_natCast]; exact hVv)).mono ?_
          rintro e w7 ⟨rfl, rfl⟩
          have HW7 := Lib.hid (HW5.out.mark (i := v) hvn)
          simp only [Int.toNat_natCast]
          generalize w5.setCell ⟨gS, v, none⟩ (.bool true) = W7 at HW7 ⊢
          clear hT hVv hvb HW5
          go_wp2_with fail
          refine (pushI_ok _ w.heap.size pT S HW7.out.sk HW7.out.bl.size (by omega) v).mono ?_
          rintro e w8 ⟨rfl, hs8, hf8⟩
          have HW8 := Lib.hid (HW7.out.fq hf8 hs8)
          have HS8 : Hid (∀ x ∈ S ++ [v], x < n) := fun x hx => by
           rcases List.mem_append.1 hx with hx | hx
           ·exact hS.out x hx
           ·simp at hx; subst hx; exact hvn
          have hm8 : 2 * free n (Fl.mark V v) + (S ++ [v]).length < gk := by simp; omega
          clear hs8 hf8 HW7 hS
          go_wp2
          go_roundw
          all_goals first
           | exact ⟨j + 1, _, _, rfl, by omega, by go_num, HW8.out, HT9.out, HS8.out, hm8⟩
           | ((repeat apply Exists.intro); exact ⟨⟨j + 1, _, _, rfl, by omega, by go_num, HW8.out, HT9.out, HS8.out, hm8⟩, rfl⟩)
           | (simp [intOf]; omega)
      ·have hjl : j = (nx u).length := by omega
       have hT2 := hT.out
       rw [hjl] at hT2
       have HT9 := Lib.hid hT2.done
       clear hT2 hT hjl
       go_wp2
       go_roundg (2 * free n V + S.length)
       case measure => omega
       case rel => exact ⟨V, S, rfl, hW.out, HT9.out, hS.out, Nat.le_refl _, by omega⟩
  ·obtain rfl : n = b := by omega
   go_wp2
   try rw [Exit.noGoto_ret]
   go_ret
   exact ⟨hbl.out, Or.inr ⟨rfl, hq.out⟩⟩
end Go.Proofs.Ytndnfjcfpcfakaa
namespace Go.Fl
section
variable {nx : Nat → List Nat} {n h : Nat} {ah : Nat → List Nat}
structure L1 (nx : Nat → List Nat) (n h : Nat) (ah : Nat → List Nat) (k : Nat) (V : Nat → Bool) (S : List Nat) (is : Bool) : Prop where
 mem : ∀ x, V x = true → x = h ∨ x ∈ S
 s : ∀ x ∈ S, x ≠ h ∧ x < n
 v : ∀ x, V x = true → Lp nx n h x
 hh : V h = true
 lat : ∀ u ∈ (ah h).take k, Dom nx h u → V u = true
 i : is = true ↔ ∃ u ∈ (ah h).take k, Dom nx h u
 sv : ∀ x ∈ S, V x = true
theorem L1.start : L1 nx n h ah 0 (mark (fun _ => false) h) [] false := by
 have key : ∀ x, mark (fun _ => false) h x = true → x = h := fun x hx => by
  rcases mark_iff.1 hx with e | e
  ·exact e
  ·cases e
 refine ⟨fun x hx => Or.inl (key x hx), fun x hx => ?_, fun x hx => ?_, mark_self _ _, fun u hu => ?_, by simp, fun x hx => ?_⟩
 ·cases hx
 ·rw [key x hx]; exact Lp.head
 ·simp at hu
 ·cases hx
section
variable {k u : Nat} {V : Nat → Bool} {S : List Nat} {is : Bool}
theorem L1.no (c : L1 nx n h ah k V S is) (hu : (ah h)[k]? = some u) (hd : ¬ Dom nx h u) : L1 nx n h ah (k + 1) V S is := by
 have hm : ∀ x, x ∈ (ah h).take (k + 1) ↔ x ∈ (ah h).take k ∨ x = u := fun x => by rw [List.take_add_one, hu, List.mem_append]; simp
 refine ⟨c.mem, c.s, c.v, c.hh, fun x hx hdx => ?_, c.i.trans ?_, c.sv⟩
 ·rcases (hm x).1 hx with hx | hx
  ·exact c.lat x hx hdx
  ·subst hx; exact absurd hdx hd
 ·constructor
  ·rintro ⟨x, h1, h2⟩; exact ⟨x, (hm x).2 (Or.inl h1), h2⟩
  ·rintro ⟨x, h1, h2⟩
   rcases (hm x).1 h1 with h1 | h1
   ·exact ⟨x, h1, h2⟩
   ·subst h1; exact absurd h2 hd
theorem L1.old (c : L1 nx n h ah k V S is) (hu : (ah h)[k]? = some u) (hd : Dom nx h u) (hv : V u = true) : L1 nx n h ah (k + 1) V S true := by
 have hm : ∀ x, x ∈ (ah h).take (k + 1) ↔ x ∈ (ah h).take k ∨ x = u := fun x => by rw [List.take_add_one, hu, List.mem_append]; simp
 refine ⟨c.mem, c.s, c.v, c.hh, fun x hx hdx => ?_, ⟨fun _ => ⟨u, (hm u).2 (Or.inr rfl), hd⟩, fun _ => rfl⟩, c.sv⟩
 rcases (hm x).1 hx with hx | hx
 ·exact c.lat x hx hdx
 ·subst hx; exact hv
theorem L1.new (c : L1 nx n h ah k V S is) (hu : (ah h)[k]? = some u) (hd : Dom nx h u) (hv : V u = false) (hun : u < n) (he : h ∈ nx u) : L1 nx n h ah (k + 1) (mark V u) (S ++ [u]) true := by
 have hm : ∀ x, x ∈ (ah h).take (k + 1) ↔ x ∈ (ah h).take k ∨ x = u := fun x => by rw [List.take_add_one, hu, List.mem_append]; simp
 have hne : u ≠ h := fun e => by subst e; rw [c.hh] at hv; cases hv
 refine ⟨fun x hx => ?_, fun x hx => ?_, fun x hx => ?_, mark_iff.2 (Or.inr c.hh), fun x hx hdx => ?_, ⟨fun _ => ⟨u, (hm u).2 (Or.inr rfl), hd⟩, fun _ => rfl⟩, fun x hx => ?_⟩
 ·rcases mark_iff.1 hx with rfl | hx
  ·right; simp
  ·exact (c.mem x hx).imp id fun h => List.mem_append_left _ h
 ·rcases List.mem_append.1 hx with hx | hx
  ·exact c.s x hx
  ·simp at hx; subst hx; exact ⟨hne, hun⟩
 ·rcases mark_iff.1 hx with rfl | hx
  ·exact Lp.latch hun he hd
  ·exact c.v x hx
 ·rcases (hm x).1 hx with hx | hx
  ·exact mark_iff.2 (Or.inr (c.lat x hx hdx))
  ·subst hx; exact mark_self _ _
 ·rcases List.mem_append.1 hx with hx | hx
  ·exact mark_iff.2 (Or.inr (c.sv x hx))
  ·simp at hx; subst hx; exact mark_self _ _
end
structure L2 (nx : Nat → List Nat) (n h : Nat) (ah : Nat → List Nat) (V : Nat → Bool) (S : List Nat) : Prop where
 cl : Clo ah h V S
 s : ∀ x ∈ S, x ≠ h ∧ x < n
 sv : ∀ x ∈ S, V x = true
 v : ∀ x, V x = true → Lp nx n h x
 hh : V h = true
 lat : ∀ u ∈ ah h, Dom nx h u → V u = true
structure L3 (nx : Nat → List Nat) (n h : Nat) (ah : Nat → List Nat) (V : Nat → Bool) (S : List Nat) (b k : Nat) : Prop where
 cb : Cb ah h V S b k
 s : ∀ x ∈ S, x ≠ h ∧ x < n
 sv : ∀ x ∈ S, V x = true
 v : ∀ x, V x = true → Lp nx n h x
 hh : V h = true
 lat : ∀ u ∈ ah h, Dom nx h u → V u = true
 bh : b ≠ h
 bv : V b = true
section
variable {b k u : Nat} {V : Nat → Bool} {S : List Nat} {is : Bool}
theorem L1.done (c : L1 nx n h ah (ah h).length V S is) : L2 nx n h ah V S :=
 ⟨fun x hx hh hs => by
  rcases c.mem x hx with e | e
  ·exact absurd e hh
  ·exact absurd e hs, c.s, c.sv, c.v, c.hh, fun u hu => c.lat u (by rw [List.take_length]; exact hu)⟩
theorem L2.pop (c : L2 nx n h ah V (S ++ [b])) : L3 nx n h ah V S b 0 :=
 ⟨c.cl.pop, fun x hx => c.s x (by simp [hx]), fun x hx => c.sv x (by simp [hx]), c.v, c.hh, c.lat, (c.s b (by simp)).1, c.sv b (by simp)⟩
theorem L3.skip (c : L3 nx n h ah V S b k) (hu : (ah b)[k]? = some u) (hv : V u = true) : L3 nx n h ah V S b (k + 1) :=
 ⟨c.cb.skip hu hv, c.s, c.sv, c.v, c.hh, c.lat, c.bh, c.bv⟩
theorem L3.add (c : L3 nx n h ah V S b k) (hu : (ah b)[k]? = some u) (hv : V u = false) (hun : u < n) (he : b ∈ nx u) : L3 nx n h ah (mark V u) (S ++ [u]) b (k + 1) := by
 have hne : u ≠ h := fun e => by subst e; rw [c.hh] at hv; cases hv
 refine ⟨c.cb.add hu, fun x hx => ?_, fun x hx => ?_, fun x hx => ?_, mark_iff.2 (Or.inr c.hh), fun x hx hd => mark_iff.2 (Or.inr (c.lat x hx hd)), c.bh, mark_iff.2 (Or.inr c.bv)⟩
 ·rcases List.mem_append.1 hx with hx | hx
  ·exact c.s x hx
  ·simp at hx; subst hx; exact ⟨hne, hun⟩
 ·rcases List.mem_append.1 hx with hx | hx
  ·exact mark_iff.2 (Or.inr (c.sv x hx))
  ·simp at hx; subst hx; exact mark_self _ _
 ·rcases mark_iff.1 hx with rfl | hx
  ·exact Lp.back (c.v b c.bv) c.bh hun he
  ·exact c.v x hx
theorem L3.done (c : L3 nx n h ah V S b (ah b).length) : L2 nx n h ah V S := ⟨c.cb.done, c.s, c.sv, c.v, c.hh, c.lat⟩
theorem L2.loop (c : L2 nx n h ah V []) (hah : ∀ u b, b < n → (u ∈ ah b ↔ u < n ∧ b ∈ nx u)) (hh : h < n) : ∀ x, V x = true ↔ Lp nx n h x := fun x =>
 ⟨c.v x, Lp.sub (V := fun x => V x = true) c.hh (fun u hu he hd => c.lat u ((hah u h hh).2 ⟨hu, he⟩) hd) (fun v hv hne u hu he => by
  have hvn : v < n := (c.v v hv).lt hh
  exact c.cl v hv hne (by simp) u ((hah u v hvn).2 ⟨hu, he⟩)) x⟩
end
end
end Go.Fl
namespace Go.Proofs.Ytndnfjcfpcfakaa
open Go Go.RowKit Go.Wr Go.Fl
set_option maxHeartbeats 4000000
set_option maxRecDepth 100000
def LoopP (w : World) (n : Nat) (nx : Nat → List Nat) (h : Nat) (e : Ending) (w' : World) : Prop :=
 Below w.heap.size w w' ∧ ∃ (pS gS : Nat) (V : Nat → Bool) (is : Bool), e = .returned (.tuple #[.pointer (some ⟨pS, 0, none⟩), .bool is]) ∧ (is = true ↔ Hd nx n h) ∧ St w.heap.size pS gS n V w' ∧ ∀ x, V x = true ↔ Lp nx n h x
theorem loop_ok (w : World) (p n : Nat) (nx : Nat → List Nat) (pl : Nat → Nat) (d : Nat → Option Nat) (ah : Nat → List Nat) (g : Gr nx pl n ah) (hI : Idom nx pl n d) (b4 o4 b5 o5 c4 c5 : Nat) (h : Pd p n pl d ⟨b4, o4, none⟩ ⟨b5, o5, none⟩ c4 c5 w)
  (ab : Option Addr) (cb : Nat) (hf : w.cell? ⟨p, 0, none⟩ = some (.slice ab n cb)) (va : Value) (ss : List Sv) (h1 : w.cell? ⟨p, 1, none⟩ = some va) (hs : SlX tII p w va ss) (hl : ss.length = n) (hna : ∀ b s, ss[b]? = some s → SlX tI p w s.v (nI (ah b)))
  (hp : p < w.heap.size) (h4 : b4 < w.heap.size) (h5 : b5 < w.heap.size) (hn : n ≤ 4096) (hx2 : ∀ u, (ah u).length ≤ 1048576) (hd : Nat) (hh : hd < n) :
  Calls Try.prog 84 #[.pointer (some ⟨p, 0, none⟩), .int .i64 (hd : Int)] w (LoopP w n nx hd) := by
 obtain ⟨aa, ca, rfl, ha1, ha2⟩ := hs.form
 rw [hl] at h1 ha1 hs
 have H := Lib.hid h
 have HSA := Lib.hid hs
 have HLN := Lib.hid hl
 have HNA := Lib.hid hna
 have HI := Lib.hid hI
 have HG := Lib.hid g
 have HX := Lib.hid hx2
 have HF0 := Lib.hid hf
 have HF1 := Lib.hid h1
 obtain ⟨s, hsh⟩ : ∃ s, ss[hd]? = some s := ⟨_, List.getElem?_eq_getElem (by omega)⟩
 obtain ⟨ba, oa, rfl, _, hat⟩ := hs.get hsh
 have ca1 := hat.cell 0 _ rfl
 rw [show oa + hd * tII.n + 0 = oa + hd by show oa + hd * 1 + 0 = _; omega] at ca1
 have hba := hat.1
 have hsn := hna hd s hsh
 obtain ⟨as1, cs1, es1, hs1, hs2⟩ := hsn.form
 rw [nI_len] at es1 hs1
 rw [es1] at ca1 hsn
 have HSN := Lib.hid hsn
 have hal := hx2 hd
 have hhi : (hd : Int) < (n : Int) := by omega
 have hh0 : (0 : Int) ≤ (hd : Int) := by omega
 have hmem := Lib.hid (fun u => g.mem u hd hh)
 unfold maxLen at ha2 hs2
 clear h hs hl hna hI g hx2 hsh hat hsn es1
 go_enter Try.func84, Try.ntmps84
 go_wp2_with fail
 refine (newSet_ok _ n (by omega)).mono ?_
 rintro e w1 ⟨b1, pS, gS, rfl, hst⟩
 have HW1 := Lib.hid (Wn.start hst b1)
 have k1 : (w1.alloc (.cells #[.slice none 0 0] 133)).cell? ⟨p, 1, none⟩ = some (.slice (some ⟨ba, oa, none⟩) n ca) := ((bAl b1 _).cell (p := ⟨p, 1, none⟩) hp).trans h1
 clear hst b1 hf h1
 go_wp2_with fail
 obtain ⟨pT, hpT⟩ : ∃ q, q = w1.heap.size := ⟨_, rfl⟩
 rw [← hpT] at HW1 ⊢
 generalize (w1.alloc (.cells #[.slice none 0 0] 133)) = W1 at HW1 k1 ⊢
 clear hpT
 refine (add_new _ w.heap.size pS gS n (fun _ => false) HW1.out.st (hd : Int) (by omega) (by omega) rfl).mono ?_
 rintro e w2 ⟨rfl, rfl⟩
 have HW2 := Lib.hid (HW1.out.mark (i := hd) hh)
 simp only [Int.toNat_natCast]
 generalize W1.setCell ⟨gS, hd, none⟩ (.bool true) = W2 at HW2 ⊢
 clear HW1 k1
 have k1 : W2.cell? ⟨p, 1, none⟩ = some (.slice (some ⟨ba, oa, none⟩) n ca) := (HW2.out.bl.cell (p := ⟨p, 1, none⟩) hp).trans HF1.out
 have ca2 : W2.cell? ⟨ba, oa + hd, none⟩ = some (.slice as1 (ah hd).length cs1) := (HW2.out.bl.cell (p := ⟨ba, oa + hd, none⟩) hba).trans ca1
 clear ca1
 go_wp2
 go_loopw [8, 34] (fun t8 t wr => ∃ (k : Nat) (V : Nat → Bool) (S : List Nat) (is : Bool), t8 = .bool is ∧ k ≤ (ah hd).length ∧ t = .int .i64 (k : Int) ∧ Hid (Wn w pS gS pT n V S wr) ∧ Hid (L1 nx n hd ah k V S is) ∧ 2 * free n V + S.length ≤ 2 * n) (fun _ t _ => (ah hd).length - (intOf t).toNat)
 case atStart => exact ⟨0, _, [], false, rfl, by omega, rfl, HW2.out, L1.start, by have := free_bound n (Fl.mark (fun _ => false) hd); simp; omega⟩
 case round =>
  clear HW2 k1 ca2
  obtain ⟨k, V, S, is, rfl, hk, rfl, hW, hL, hm⟩ := hrel
  by_cases hlk : k < (ah hd).length
  ·have hlk' : (k : Int) < ((ah hd).length : Int) := by omega
   obtain ⟨u, hu⟩ : ∃ u, (ah hd)[k]? = some u := ⟨_, List.getElem?_eq_getElem hlk⟩
   obtain ⟨hun, hhu⟩ := (hmem.out u).1 (List.mem_of_getElem? hu)
   obtain ⟨bv, ov, rfl, _, _, cv⟩ := SlX.int (HSN.out.below hW.out.bl) (show (nI (ah hd))[k]? = some (u : Int) by unfold nI; rw [List.getElem?_map, hu]; rfl)
   have hui : (u : Int) < (n : Int) := by omega
   have hu0 : (0 : Int) ≤ (u : Int) := by omega
   have hkey := Lib.hid (domB_iff (nx := nx) hh hun)
   have HU := Lib.hid hu
   have HHU := Lib.hid hhu
   clear hu hhu
   go_wp2_with fail
   refine (dominates_ok _ p n nx pl d ah HG.out HI.out b4 o4 b5 o5 c4 c5 (H.out.below hp h4 h5 hW.out.bl) _ cb ((hW.out.bl.cell (p := ⟨p, 0, none⟩) hp).trans HF0.out) (hd : Int) (u : Int)).mono ?_
   rintro e w5 ⟨rfl, q, hw5⟩
   have HW5 : Hid (Wn w pS gS pT n V S w5) := by show Wn _ _ _ _ _ _ _ _; rw [hw5]; exact hW.out.below (bDraw (bRefl _) q)
   clear hw5 hW cv
   cases hdb : domB nx n (hd : Int) (u : Int) with
   | false =>
    have hnd : ¬ Dom nx hd u := fun h => by have := hkey.out.mpr h; rw [hdb] at this; cases this
    have HL9 := Lib.hid (hL.out.no HU.out hnd)
    clear hnd hdb hkey hL
    go_wp2
    go_roundw
    all_goals first
     | exact ⟨k + 1, V, S, is, rfl, by omega, by go_num, HW5.out, HL9.out, hm⟩
     | ((repeat apply Exists.intro); exact ⟨⟨k + 1, V, S, is, rfl, by omega, by go_num, HW5.out, HL9.out, hm⟩, rfl⟩)
     | (simp [intOf]; omega)
   | true =>
    have HD := Lib.hid (hkey.out.mp hdb)
    clear hdb hkey
    go_wp2_with fail
    cases hVu : V u with
    | true =>
     have HL9 := Lib.hid (hL.out.old HU.out HD.out hVu)
     refine (add_old _ w.heap.size pS gS n V HW5.out.st (u : Int) (by omega) (by omega) (by rw [Int.toNat_natCast]; exact hVu)).mono ?_
     rintro e w7 ⟨rfl, rfl⟩
     clear hL hVu
     go_wp2
     go_roundw
     all_goals first
      | exact ⟨k + 1, V, S, true, rfl, by omega, by go_num, HW5.out, HL9.out, hm⟩
      | ((repeat apply Exists.intro); exact ⟨⟨k + 1, V, S, true, rfl, by omega, by go_num, HW5.out, HL9.out, hm⟩, rfl⟩)
      | (simp [intOf]; omega)
    | false =>
     have HL9 := Lib.hid (hL.out.new HU.out HD.out hVu hun HHU.out)
     have hfr := free_mark hun hVu
     refine (add_new _ w.heap.size pS gS n V HW5.out.st (u : Int) (by omega) (by omega) (by rw [Int.toNat_natCast]; exact hVu)).mono ?_
     rintro e w7 ⟨rfl, rfl⟩
     have HW7 := Lib.hid (HW5.out.mark (i := u) hun)
     simp only [Int.toNat_natCast]
     generalize w5.setCell ⟨gS, u, none⟩ (.bool true) = W7 at HW7 ⊢
     clear hL hVu HW5
     go_wp2_with fail
     refine (pushI_ok _ w.heap.size pT S HW7.out.sk HW7.out.bl.size (by omega) u).mono ?_
     rintro e w8 ⟨rfl, hs8, hf8⟩
     have HW8 := Lib.hid (HW7.out.fq hf8 hs8)
     have hm8 : 2 * free n (Fl.mark V u) + (S ++ [u]).length ≤ 2 * n := by simp; omega
     clear hs8 hf8 HW7
     go_wp2
     go_roundw
     all_goals first
      | exact ⟨k + 1, _, _, true, rfl, by omega, by go_num, HW8.out, HL9.out, hm8⟩
      | ((repeat apply Exists.intro); exact ⟨⟨k + 1, _, _, true, rfl, by omega, by go_num, HW8.out, HL9.out, hm8⟩, rfl⟩)
      | (simp [intOf]; omega)
  ·have hkl : k = (ah hd).length := by omega
   have hL2 := hL.out
   rw [hkl] at hL2
   have HIS : Hid (is = true ↔ Hd nx n hd) := by
    show _ ↔ _
    rw [hL2.i, List.take_length]
    constructor
    ·rintro ⟨u, hu, hdu⟩; exact ⟨u, ((hmem.out u).1 hu).1, ((hmem.out u).1 hu).2, hdu⟩
    ·rintro ⟨u, h1, h2, h3⟩; exact ⟨u, (hmem.out u).2 ⟨h1, h2⟩, h3⟩
   have HLD := Lib.hid hL2.done
   clear hL2 hL hkl
   go_wp2
   go_loopg [] (2 * n) (fun m wr => ∃ (V : Nat → Bool) (S : List Nat), Hid (Wn w pS gS pT n V S wr) ∧ Hid (L2 nx n hd ah V S) ∧ 2 * free n V + S.length ≤ m ∧ m ≤ 2 * n)
   case atStart => exact ⟨V, S, hW.out, HLD.out, hm, by omega⟩
   case round =>
    clear hW HLD hm hlk
    obtain ⟨V, S, hW, hL, hm, hm2⟩ := hrel
    rcases List.eq_nil_or_concat S with rfl | ⟨S', u, rfl⟩
    ·go_wp2_with fail
     refine (popI_none _ w.heap.size pT hW.out.sk).mono ?_
     rintro e w3 ⟨rfl, rfl⟩
     have hfin := Lib.hid (hL.out.loop HG.out.mem hh)
     go_wp2
     go_ret2
     exact ⟨hW.out.bl, pS, gS, V, is, rfl, HIS.out, hW.out.st, hfin.out⟩
    ·rw [List.concat_eq_append] at hW hL hm
     have hun := (hL.out.s u (by simp)).2
     have hui : (u : Int) < (n : Int) := by omega
     have hui0 : (0 : Int) ≤ (u : Int) := by omega
     go_wp2_with fail
     refine (popI_some _ w.heap.size pT S' u hW.out.sk).mono ?_
     rintro e w3 ⟨rfl, hs3, hf3⟩
     have HW3 := Lib.hid (hW.out.fq hf3 hs3)
     have HL3 := Lib.hid hL.out.pop
     have hm3 : 2 * free n V + S'.length < gk := by simp at hm; omega
     clear hs3 hf3 hW hL hm
     obtain ⟨s2, hs2h⟩ : ∃ s, ss[u]? = some s := ⟨_, List.getElem?_eq_getElem (by rw [HLN.out]; exact hun)⟩
     obtain ⟨ba', oa', ea, _, hat⟩ := HSA.out.get hs2h
     injection ea with ea
     injection ea with ea1 ea2
     subst ea1 ea2
     have cu1 := hat.cell 0 _ rfl
     rw [show oa + u * tII.n + 0 = oa + u by show oa + u * 1 + 0 = _; omega] at cu1
     have hsn := HNA.out u s2 hs2h
     obtain ⟨as2, cs2, es2, hq1, hq2⟩ := hsn.form
     rw [nI_len] at es2 hq1
     rw [es2] at cu1 hsn
     unfold maxLen at hq2
     have HSN2 := Lib.hid hsn
     have hal2 := HX.out u
     have k1 : w3.cell? ⟨p, 1, none⟩ = some (.slice (some ⟨ba, oa, none⟩) n ca) := (HW3.out.bl.cell (p := ⟨p, 1, none⟩) hp).trans HF1.out
     have cu2 : w3.cell? ⟨ba, oa + u, none⟩ = some (.slice as2 (ah u).length cs2) := (HW3.out.bl.cell (p := ⟨ba, oa + u, none⟩) hba).trans cu1
     have hmem2 := Lib.hid (fun v => HG.out.mem v u hun)
     clear hs2h hat cu1 hsn es2
     go_wp2
     go_loopw [66] (fun t wr => ∃ (j : Nat) (V : Nat → Bool) (S : List Nat), j ≤ (ah u).length ∧ t = .int .i64 (j : Int) ∧ Hid (Wn w pS gS pT n V S wr) ∧ Hid (L3 nx n hd ah V S u j) ∧ 2 * free n V + S.length < gk) (fun t _ => (ah u).length - (intOf t).toNat)
     case atStart => exact ⟨0, V, S', by omega, rfl, HW3.out, HL3.out, hm3⟩
     case round =>
      clear HW3 HL3 hm3 k1 cu2
      obtain ⟨j, V, S, hj, rfl, hW, hL, hm3⟩ := hrel
      by_cases hlj : j < (ah u).length
      ·have hlj' : (j : Int) < ((ah u).length : Int) := by omega
       obtain ⟨v, hv⟩ : ∃ v, (ah u)[j]? = some v := ⟨_, List.getElem?_eq_getElem hlj⟩
       obtain ⟨hvn, huv⟩ := (hmem2.out v).1 (List.mem_of_getElem? hv)
       obtain ⟨bv, ov, rfl, _, _, cv⟩ := SlX.int (HSN2.out.below hW.out.bl) (show (nI (ah u))[j]? = some (v : Int) by unfold nI; rw [List.getElem?_map, hv]; rfl)
       have hvi : (v : Int) < (n : Int) := by omega
       have hv0 : (0 : Int) ≤ (v : Int) := by omega
       have HV := Lib.hid hv
       have HUV := Lib.hid huv
       clear hv huv
       go_wp2_with fail
       cases hVv : V v with
       | true =>
        have HL9 := Lib.hid (hL.out.skip HV.out hVv)
        refine (add_old _ w.heap.size pS gS n V hW.out.st (v : Int) (by omega) (by omega) (by rw [Int.toNat_natCast]; exact hVv)).mono ?_
        rintro e w7 ⟨rfl, rfl⟩
        clear hL hVv
        go_wp2
        go_roundw
        all_goals first
         | exact ⟨j + 1, V, S, by omega, by go_num, hW.out, HL9.out, hm3⟩
         | ((repeat apply Exists.intro); exact ⟨⟨j + 1, V, S, by omega, by go_num, hW.out, HL9.out, hm3⟩, rfl⟩)
         | (simp [intOf]; omega)
       | false =>
        have HL9 := Lib.hid (hL.out.add HV.out hVv hvn HUV.out)
        have hfr := free_mark hvn hVv
        refine (add_new _ w.heap.size pS gS n V hW.out.st (v : Int) (by omega) (by omega) (by rw [Int.toNat_natCast]; exact hVv)).mono ?_
        rintro e w7 ⟨rfl, rfl⟩
        have HW7 := Lib.hid (hW.out.mark (i := v) hvn)
        simp only [Int.toNat_natCast]
        generalize wr.setCell ⟨gS, v, none⟩ (.bool true) = W7 at HW7 ⊢
        clear hL hVv hW cv
        go_wp2_with fail
        refine (pushI_ok _ w.heap.size pT S HW7.out.sk HW7.out.bl.size (by omega) v).mono ?_
        rintro e w8 ⟨rfl, hs8, hf8⟩
        have HW8 := Lib.hid (HW7.out.fq hf8 hs8)
        have hm8 : 2 * free n (Fl.mark V v) + (S ++ [v]).length < gk := by simp; omega
        clear hs8 hf8 HW7
        go_wp2
        go_roundw
        all_goals first
         | exact ⟨j + 1, _, _, by omega, by go_num, HW8.out, HL9.out, hm8⟩
         | ((repeat apply Exists.intro); exact ⟨⟨j + 1, _, _, by omega, by go_num, HW8.out, HL9.out, hm8⟩, rfl⟩)
         | (simp [intOf]; omega)
      ·have hjl : j = (ah u).length := by omega
       have hT2 := hL.out
       rw [hjl] at hT2
       have HT9 := Lib.hid hT2.done
       clear hT2 hL hjl
       go_wp2
       go_roundg (2 * free n V + S.length)
       case measure => omega
       case rel => exact ⟨V, S, hW.out, HT9.out, Nat.le_refl _, by omega⟩
end Go.Proofs.Ytndnfjcfpcfakaa
