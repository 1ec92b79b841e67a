/- The reference's blocks. -/
import Derived.Test.YtpiiefdaaijgbaaFSplit
namespace Go.Proofs.Ytpiiefdaaijgbaa
open Go Go.RowKit Go.Wr Go.Fl
set_option maxHeartbeats 4000000
set_option maxRecDepth 100000

/-- While the reference's blocks are made. -/
structure R2 (w : World) (q gL m : Nat) (V : Nat → Bool) (bs : List (Nat × Nat)) (os : List Nat) (vb vo : Value) (wr : World) : Prop where
  ex : Ex q w wr
  pb : Blk wr q 75 #[vb, sn, sn, sn, vo]
  st : OwR tB w.heap.size wr (.slice (some ⟨gL, 0, none⟩) m m) ((List.range m).map V)
  kb : OwR tK w.heap.size wr vb (bkL bs)
  ow : OwR tI w.heap.size wr vo (nI os)
section
variable {w wr w' : World} {q gL m : Nat} {V : Nat → Bool} {bs : List (Nat × Nat)} {os : List Nat} {vb vo v' : Value}
theorem R2.below (h : R2 w q gL m V bs os vb vo wr) (b : Below wr.heap.size wr w') : R2 w q gL m V bs os vb vo w' :=
  ⟨h.ex.trans (Ex.of_below b), h.pb.below b h.pb.lt, h.st.below b, h.kb.below b, h.ow.below b⟩
theorem R2.putB (h : R2 w q gL m V bs os vb vo wr) {b : Nat × Nat} (ho : OwR tK w.heap.size w' v' (bkL (bs ++ [b]))) (hg : wr.grownBy w' vb.ownBlock) : R2 w q gL m V (bs ++ [b]) os v' vo (w'.setCell ⟨q, 0, none⟩ v') := by
  have hpb : Blk w' q 75 #[vb, sn, sn, sn, vo] := h.pb.of_block (hg.block q h.pb.lt (fun e => h.kb.ne h.pb (by decide) e.symm))
  have hst : OwR tB w.heap.size w' (.slice (some ⟨gL, 0, none⟩) m m) ((List.range m).map V) := h.st.keep fun g e => by
    obtain ⟨_, C', hb⟩ := h.st.blk e
    exact hg.block g hb.lt (fun e => h.kb.ne hb (by decide) e.symm)
  have how : OwR tI w.heap.size w' vo (nI os) := h.ow.keep fun g e => by
    obtain ⟨_, C', hb⟩ := h.ow.blk e
    exact hg.block g hb.lt (fun e => h.kb.ne hb (by decide) e.symm)
  exact ⟨(h.ex.grown hg fun g e => (h.kb.blk e).1).set 0 v', (hpb.set 0 v').eq rfl, hst.set_other (hst.ne hpb (by decide)), ho.set_other (ho.ne hpb (by decide)), how.set_other (how.ne hpb (by decide))⟩
theorem R2.putO (h : R2 w q gL m V bs os vb vo wr) {b : Nat} (ho : OwR tI w.heap.size w' v' (nI (os ++ [b]))) (hg : wr.grownBy w' vo.ownBlock) : R2 w q gL m V bs (os ++ [b]) vb v' (w'.setCell ⟨q, 4, none⟩ v') := by
  have hpb : Blk w' q 75 #[vb, sn, sn, sn, vo] := h.pb.of_block (hg.block q h.pb.lt (fun e => h.ow.ne h.pb (by decide) e.symm))
  have hst : OwR tB w.heap.size w' (.slice (some ⟨gL, 0, none⟩) m m) ((List.range m).map V) := h.st.keep fun g e => by
    obtain ⟨_, C', hb⟩ := h.st.blk e
    exact hg.block g hb.lt (fun e => h.ow.ne hb (by decide) e.symm)
  have hkb : OwR tK w.heap.size w' vb (bkL bs) := h.kb.keep fun g e => by
    obtain ⟨_, C', hb⟩ := h.kb.blk e
    exact hg.block g hb.lt (fun e => h.ow.ne hb (by decide) e.symm)
  exact ⟨(h.ex.grown hg fun g e => (h.ow.blk e).1).set 4 v', (hpb.set 4 v').eq rfl, hst.set_other (hst.ne hpb (by decide)), hkb.set_other (hkb.ne hpb (by decide)), ho.set_other (ho.ne hpb (by decide))⟩
theorem R2.setTo {g n c : Nat} (h : R2 w q gL m V bs os (.slice (some ⟨g, 0, none⟩) n c) vo wr) {b : Nat × Nat} {rs : List (Nat × Nat)} (e : bs = rs ++ [b]) (t : Nat) (z : Int) (hz : z = (t : Int)) : R2 w q gL m V (rs ++ [(b.1, t)]) os (.slice (some ⟨g, 0, none⟩) n c) vo (wr.setCell ⟨g, rs.length * 3 + 1, none⟩ (.int .i64 z)) := by
  subst e hz
  obtain ⟨hB, C, hg⟩ := h.kb.blk (g := g) rfl
  have hs := h.kb.set (k := rs.length) (j := 1) (x := ⟨(b.1 : Int), (b.2 : Int), ⟨none, 0, 0⟩⟩) (y := ⟨(b.1 : Int), (t : Int), ⟨none, 0, 0⟩⟩) (v := .int .i64 (t : Int))
    (by rw [bkL_app, List.getElem?_append_right (by rw [bkL_len]; exact Nat.le_refl _), bkL_len, Nat.sub_self]; rfl) (by decide) rfl
  have e2 : (bkL (rs ++ [b])).set rs.length ⟨(b.1 : Int), (t : Int), ⟨none, 0, 0⟩⟩ = bkL (rs ++ [(b.1, t)]) := by
    rw [bkL_app, bkL_app, List.set_append_right _ _ (by rw [bkL_len]; exact Nat.le_refl _), bkL_len, Nat.sub_self]
    rfl
  rw [e2] at hs
  exact ⟨h.ex.set_new _ _ hB, h.pb.set_other g _ _ (blk_ne h.pb hg (by decide)), h.st.set_other (h.st.ne hg (by decide)), hs, h.ow.set_other (h.ow.ne hg (by decide))⟩
end
/-- The rows of edges while they are stored. -/
structure R3 (w : World) (q gb cb : Nat) (l : List In) (vo : Value) (k : Nat) (row : Nat → Sv) (wr : World) : Prop where
  ex : Ex q w wr
  pb : Blk wr q 75 #[.slice (some ⟨gb, 0, none⟩) (nB l) cb, sn, sn, sn, vo]
  kb : OwR tK w.heap.size wr (.slice (some ⟨gb, 0, none⟩) (nB l) cb) (bkI (nB l) (frF l) (twF l) row)
  rs : ∀ i, i < k → OwR tI w.heap.size wr (row i).v (nI (nxt l i))
  ow : OwR tI w.heap.size wr vo (nI (ofl l))
theorem R3.below {w wr w' : World} {q gb cb : Nat} {l : List In} {vo : Value} {k : Nat} {row : Nat → Sv} (h : R3 w q gb cb l vo k row wr) (b : Below wr.heap.size wr w') : R3 w q gb cb l vo k row w' :=
  ⟨h.ex.trans (Ex.of_below b), h.pb.below b h.pb.lt, h.kb.below b, fun i hi => (h.rs i hi).below b, h.ow.below b⟩
theorem R3.put {w wr : World} {q gb cb : Nat} {l : List In} {vo : Value} {k : Nat} {row : Nat → Sv} (h : R3 w q gb cb l vo k row wr) (hk : k < nB l) {s : Sv} (hs : OwR tI w.heap.size wr s.v (nI (nxt l k))) : R3 w q gb cb l vo (k + 1) (setF row k s) (wr.setCell ⟨gb, k * 3 + 2, none⟩ s.v) := by
  obtain ⟨hB, C, hg⟩ := h.kb.blk (g := gb) rfl
  have h1 := h.kb.set (k := k) (j := 2) (x := ⟨frF l k, twF l k, row k⟩) (y := ⟨frF l k, twF l k, s⟩) (v := s.v) (by unfold bkI; rw [List.getElem?_map, List.getElem?_range hk]; rfl) (by decide) rfl
  rw [bkI_set hk] at h1
  refine ⟨h.ex.set_new _ _ hB, h.pb.set_other gb _ _ (blk_ne h.pb hg (by decide)), h1, fun i hi => ?_, h.ow.set_other (h.ow.ne hg (by decide))⟩
  by_cases e : i = k
  · subst e
    rw [setF_self]
    exact hs.set_other (hs.ne hg (by decide))
  · rw [setF_ne e]
    have := h.rs i (by omega)
    exact this.set_other (this.ne hg (by decide))
/-- The reference's blocks, to be read. -/
structure Rw2 (q : Nat) (l : List In) (vb vo : Value) (bs : List Bk) (w : World) : Prop where
  lb : bs.length = nB l
  sb : SlX tK q w vb bs
  nb : ∀ b k, bs[b]? = some k → k.fr = (frF l b : Int) ∧ k.2 = (twF l b : Int) ∧ SlX tI q w k.nx.v (nI (nxt l b))
  so : SlX tI q w vo (nI (ofl l))
theorem Rw2.ex {q : Nat} {l : List In} {vb vo : Value} {bs : List Bk} {w w' : World} (h : Rw2 q l vb vo bs w) (e : Ex q w w') : Rw2 q l vb vo bs w' :=
  ⟨h.lb, h.sb.ex e, fun b k hk => ⟨(h.nb b k hk).1, (h.nb b k hk).2.1, (h.nb b k hk).2.2.ex e⟩, h.so.ex e⟩
theorem R3.done {w wr : World} {q gb cb : Nat} {l : List In} {vo : Value} {row : Nat → Sv} (h : R3 w q gb cb l vo (nB l) row wr) : Rw2 q l (.slice (some ⟨gb, 0, none⟩) (nB l) cb) vo (bkI (nB l) (frF l) (twF l) row) wr := by
  refine ⟨by simp [bkI], h.kb.sl (h.kb.ne h.pb (by decide)), fun b k hk => ?_, h.ow.sl (h.ow.ne h.pb (by decide))⟩
  unfold bkI at hk
  by_cases hb : b < nB l
  · rw [List.getElem?_map, List.getElem?_range hb] at hk
    simp only [Option.map_some, Option.some.injEq] at hk
    subst hk
    have ho := h.rs b hb
    exact ⟨rfl, rfl, ho.sl (ho.ne h.pb (by decide))⟩
  · rw [List.getElem?_eq_none (by simp; omega)] at hk
    cases hk
theorem rblocks_ok (w : World) (q : Nat) (l : List In) (v vt : Value) (h : SlX tN q w v l) (ht : SlX tI q w vt (tosI l l.length)) (hl : l.length ≤ 4096) (hne : 0 < l.length) (hb : Blk w q 75 #[sn, sn, sn, sn, sn]) :
    Calls Try.prog 75 #[.pointer (some ⟨q, 0, none⟩), v, vt] w fun e w' => e = .returned (.tuple #[]) ∧ Ex q w w' ∧ ∃ vb vo bs, Blk w' q 75 #[vb, sn, sn, sn, vo] ∧ Rw2 q l vb vo bs w' := by
  obtain ⟨a0, cap, rfl, h1, h2⟩ := h.form
  obtain ⟨a1, capt, rfl, h1t, h2t⟩ := ht.form
  have hpl := hb.lt
  have H := Lib.hid h
  have HT := Lib.hid ht
  have HB := Lib.hid hb
  unfold maxLen at h2 h2t
  rw [tosI_len] at h1t HT ⊢
  clear h ht hb
  go_enter Try.func75, Try.ntmps75
  go_wp2_with fail
  refine (leaders_ok _ q q _ _ l H.out (by have := HT.out; exact this) (by omega) hne).mono ?_
  rintro e w1 ⟨b1, gL, rfl, hst⟩
  have HS0 := Lib.hid (show R2 w q gL l.length (lead l) (blks (lead l) 0) (ofs (lead l) 0) sn sn w1 from ⟨Ex.of_below b1, HB.out.below b1 HB.out.lt, hst, OwR.nil _ _, OwR.nil _ _⟩)
  clear b1 hst
  go_wp2
  go_loopw [7] (fun t wr => ∃ (k : Nat) (vb vo : Value), k ≤ l.length ∧ t = .int .i64 (k : Int) ∧ Hid (R2 w q gL l.length (lead l) (blks (lead l) k) (ofs (lead l) k) vb vo wr)) (fun t _ => l.length - (intOf t).toNat)
  case atStart => exact ⟨0, _, _, by omega, rfl, HS0.out⟩
  case round =>
    clear HS0
    obtain ⟨k, vb, vo, hk, rfl, hS⟩ := hrel
    by_cases hlt : k < l.length
    · have hlt' : (k : Int) < (l.length : Int) := by omega
      have hk0' : (0 : Int) ≤ (k : Int) := by omega
      obtain ⟨rs, b, e1, e2⟩ := blks_step (lead0 l) k
      have HBS := Lib.hid e2
      have hrl : rs.length < l.length := by
        have h1 := congrArg List.length e2
        have h2 := blks_len (lead l) (k + 1)
        have h3 := List.length_filter_le (lead l) (List.range (k + 1))
        simp at h1 h3
        omega
      have cl := OwB.cell hS.out.st (i := k) hlt
      cases hld : lead l k with
      | true =>
        rw [hld] at cl
        rw [hld, if_pos rfl] at e1
        have HE1 := Lib.hid e1
        have hbl : (blks (lead l) k).length = rs.length := by have := congrArg List.length e1; simp at this; omega
        clear e1 e2 hld
        have kvb : wr.cell? ⟨q, 0, none⟩ = some vb := hS.out.pb.cell 0
        have hsz := hS.out.ex.size
        go_upto_region 6 with (at_builtin; refine wpl_push tK rfl _ _ rfl w.heap.size vb (bkL (blks (lead l) k)) rfl (hS.out.kb.alloc _) _ 0 1 1 [⟨(k : Int), 0, ⟨none, 0, 0⟩⟩] rfl rfl (rangeNew (by rfl) (by rfl)) (by rw [bkL_len]; unfold maxLen; simp; omega) (by rw [bkL_len]; show _ * 40 ≤ _; simp; omega) (by simp; omega) ?_; intro v' w9 hown hgrow hform; obtain ⟨g, c, rfl, _⟩ := hform (by simp); have hp9 := (hS.out.pb.alloc (.cells #[.int .i64 (k : Int), .int .i64 0, .slice none 0 0] 54)).of_block (hgrow.block q (hS.out.pb.alloc (.cells #[.int .i64 (k : Int), .int .i64 0, .slice none 0 0] 54)).lt (fun e => (hS.out.kb.alloc (.cells #[.int .i64 (k : Int), .int .i64 0, .slice none 0 0] 54)).ne (hS.out.pb.alloc (.cells #[.int .i64 (k : Int), .int .i64 0, .slice none 0 0] 54)) (by decide) e.symm)); have c9 := hp9.cell 0; have f9 := hp9.frozen 0; simp only [List.getElem?_toArray, List.getElem?_cons_zero] at c9)
        have hlen : (bkL (blks (lead l) k)).length = rs.length := by rw [bkL_len, hbl]
        have hS9 := (hS.out.below (bAl (bRefl wr) (.cells #[.int .i64 (k : Int), .int .i64 0, .slice none 0 0] 54))).putB (b := (k, 0)) (w' := w9) (v' := .slice (some ⟨g, 0, none⟩) ((bkL (blks (lead l) k)).length + 1) c) (by rw [bkL_app]; exact hown) hgrow
        rw [HE1.out, hlen] at hS9
        have HS := Lib.hid hS9
        simp only [hlen]
        generalize w9.setCell ⟨q, 0, none⟩ (.slice (some ⟨g, 0, none⟩) (rs.length + 1) c) = W at HS ⊢
        clear hS9 hown hgrow hform hp9 c9 f9 kvb hS hsz hlen HE1 cl
        have hm1 : (rs.length : Int) + 1 ≤ 4096 := by omega
        have hsz := HS.out.ex.size
        have kvb : W.cell? ⟨q, 0, none⟩ = some (.slice (some ⟨g, 0, none⟩) (rs.length + 1) c) := HS.out.pb.cell 0
        have hsub : (rs.length : Int) + 1 - 1 = (rs.length : Int) := by omega
        have hr0 : (0 : Int) ≤ (rs.length : Int) := by omega
        have hr1 : (rs.length : Int) < (rs.length : Int) + 1 := by omega
        have hat := HS.out.kb.at (k := rs.length) (x := ⟨(b.1 : Int), (b.2 : Int), ⟨none, 0, 0⟩⟩) (by rw [bkL_app, List.getElem?_append_right (by rw [bkL_len]; exact Nat.le_refl _), bkL_len, Nat.sub_self]; rfl)
        have kt := hat.cell 1 _ rfl
        have e3 : 0 + rs.length * tK.n + 1 = rs.length * 3 + 1 := by show 0 + rs.length * 3 + 1 = _; omega
        rw [e3] at kt
        have kf := HS.out.kb.frozen (rs.length * 3 + 1)
        have HS7 := Lib.hid (HS.out.setTo (b := b) (rs := rs) rfl (k + 1) ((k : Int) + 1) (by omega))
        clear hat e3
        go_upto_region 8 with (fail)
        generalize W.setCell ⟨g, rs.length * 3 + 1, none⟩ (.int .i64 ((k : Int) + 1)) = W7 at HS7 ⊢
        clear HS kvb kt kf
        have kvo : W7.cell? ⟨q, 4, none⟩ = some vo := HS7.out.pb.cell 4
        have hsz7 := HS7.out.ex.size
        go_upto_region 3 with (at_builtin; refine wpl_push tI rfl _ _ rfl w.heap.size vo (nI (ofs (lead l) k)) (by rfl) (HS7.out.ow.alloc _) _ 0 1 1 [(rs.length : Int)] (by rfl) rfl (rangeNew (by rfl) (by rfl)) (by rw [nI_len, ofs_len]; unfold maxLen; simp; omega) (by rw [nI_len, ofs_len]; show _ * 8 ≤ _; simp; omega) (by simp; omega) ?_; intro v' w9 hown hgrow hform; obtain ⟨g', c', rfl, _⟩ := hform (by simp); have hp9 := (HS7.out.pb.alloc (.cells #[.int .i64 (rs.length : Int)] 3)).of_block (hgrow.block q (HS7.out.pb.alloc (.cells #[.int .i64 (rs.length : Int)] 3)).lt (fun e => (HS7.out.ow.alloc (.cells #[.int .i64 (rs.length : Int)] 3)).ne (HS7.out.pb.alloc (.cells #[.int .i64 (rs.length : Int)] 3)) (by decide) e.symm)); have c9 := hp9.cell 4; have f9 := hp9.frozen 4; simp only [List.getElem?_toArray, List.getElem?_cons_zero, List.getElem?_cons_succ] at c9)
        have hS9 := (HS7.out.below (bAl (bRefl W7) (.cells #[.int .i64 (rs.length : Int)] 3))).putO (b := rs.length) (w' := w9) (v' := .slice (some ⟨g', 0, none⟩) ((nI (ofs (lead l) k)).length + 1) c') (by rw [nI_app]; exact hown) hgrow
        have HS9 := Lib.hid hS9
        generalize w9.setCell ⟨q, 4, none⟩ (.slice (some ⟨g', 0, none⟩) ((nI (ofs (lead l) k)).length + 1) c') = WF at HS9 ⊢
        have HSG : Hid (R2 w q gL l.length (lead l) (blks (lead l) (k + 1)) (ofs (lead l) (k + 1)) (.slice (some ⟨g, 0, none⟩) (rs.length + 1) c) (.slice (some ⟨g', 0, none⟩) ((nI (ofs (lead l) k)).length + 1) c') WF) := by
          show R2 _ _ _ _ _ _ _ _ _ _
          rw [ofs_succ, HBS.out]
          simp only [List.length_append, List.length_cons, List.length_nil, Nat.zero_add, Nat.add_sub_cancel]
          exact HS9.out
        clear hS9 HS9 HS7 hown hgrow hform hp9 c9 f9 kvo hsub
        go_wp2
        go_roundw
        all_goals first
          | exact ⟨k + 1, _, _, by omega, by go_num, HSG.out⟩
          | ((repeat apply Exists.intro); exact ⟨⟨k + 1, _, _, by omega, by go_num, HSG.out⟩, rfl⟩)
          | (simp [intOf]; omega)
      | false =>
        rw [hld] at cl
        rw [hld, if_neg (by simp)] at e1
        have hk0 : 0 < k := by
          rcases Nat.eq_zero_or_pos k with e | e
          · subst e; rw [lead0] at hld; cases hld
          · exact e
        have hS9 := hS.out
        rw [e1] at hS9
        rcases hS9.kb.form with ⟨_, e⟩ | ⟨g, c, rfl, hc1, hc2, _⟩
        · have := congrArg List.length e
          simp [bkL] at this
        · rw [bkL_len] at hS9 hc1
          simp only [List.length_append, List.length_cons, List.length_nil, Nat.zero_add] at hS9 hc1
          have HS := Lib.hid hS9
          obtain ⟨W, rfl⟩ : ∃ x : World, x = wr := ⟨_, rfl⟩
          clear hS9 hS e1 e2 hld
          go_upto_region 6 with (fail)
          clear cl
          have hm1 : (rs.length : Int) + 1 ≤ 4096 := by omega
          have hsz := HS.out.ex.size
          have kvb : W.cell? ⟨q, 0, none⟩ = some (.slice (some ⟨g, 0, none⟩) (rs.length + 1) c) := HS.out.pb.cell 0
          have hsub : (rs.length : Int) + 1 - 1 = (rs.length : Int) := by omega
          have hr0 : (0 : Int) ≤ (rs.length : Int) := by omega
          have hr1 : (rs.length : Int) < (rs.length : Int) + 1 := by omega
          have hat := HS.out.kb.at (k := rs.length) (x := ⟨(b.1 : Int), (b.2 : Int), ⟨none, 0, 0⟩⟩) (by rw [bkL_app, List.getElem?_append_right (by rw [bkL_len]; exact Nat.le_refl _), bkL_len, Nat.sub_self]; rfl)
          have kt := hat.cell 1 _ rfl
          have e3 : 0 + rs.length * tK.n + 1 = rs.length * 3 + 1 := by show 0 + rs.length * 3 + 1 = _; omega
          rw [e3] at kt
          have kf := HS.out.kb.frozen (rs.length * 3 + 1)
          have HS7 := Lib.hid (HS.out.setTo (b := b) (rs := rs) rfl (k + 1) ((k : Int) + 1) (by omega))
          clear hat e3
          go_upto_region 8 with (fail)
          generalize W.setCell ⟨g, rs.length * 3 + 1, none⟩ (.int .i64 ((k : Int) + 1)) = W7 at HS7 ⊢
          clear HS kvb kt kf
          have kvo : W7.cell? ⟨q, 4, none⟩ = some vo := HS7.out.pb.cell 4
          have hsz7 := HS7.out.ex.size
          go_upto_region 3 with (at_builtin; refine wpl_push tI rfl _ _ rfl w.heap.size vo (nI (ofs (lead l) k)) (by rfl) (HS7.out.ow.alloc _) _ 0 1 1 [(rs.length : Int)] (by rfl) rfl (rangeNew (by rfl) (by rfl)) (by rw [nI_len, ofs_len]; unfold maxLen; simp; omega) (by rw [nI_len, ofs_len]; show _ * 8 ≤ _; simp; omega) (by simp; omega) ?_; intro v' w9 hown hgrow hform; obtain ⟨g', c', rfl, _⟩ := hform (by simp); have hp9 := (HS7.out.pb.alloc (.cells #[.int .i64 (rs.length : Int)] 3)).of_block (hgrow.block q (HS7.out.pb.alloc (.cells #[.int .i64 (rs.length : Int)] 3)).lt (fun e => (HS7.out.ow.alloc (.cells #[.int .i64 (rs.length : Int)] 3)).ne (HS7.out.pb.alloc (.cells #[.int .i64 (rs.length : Int)] 3)) (by decide) e.symm)); have c9 := hp9.cell 4; have f9 := hp9.frozen 4; simp only [List.getElem?_toArray, List.getElem?_cons_zero, List.getElem?_cons_succ] at c9)
          have hS9 := (HS7.out.below (bAl (bRefl W7) (.cells #[.int .i64 (rs.length : Int)] 3))).putO (b := rs.length) (w' := w9) (v' := .slice (some ⟨g', 0, none⟩) ((nI (ofs (lead l) k)).length + 1) c') (by rw [nI_app]; exact hown) hgrow
          have HS9 := Lib.hid hS9
          generalize w9.setCell ⟨q, 4, none⟩ (.slice (some ⟨g', 0, none⟩) ((nI (ofs (lead l) k)).length + 1) c') = WF at HS9 ⊢
          have HSG : Hid (R2 w q gL l.length (lead l) (blks (lead l) (k + 1)) (ofs (lead l) (k + 1)) (.slice (some ⟨g, 0, none⟩) (rs.length + 1) c) (.slice (some ⟨g', 0, none⟩) ((nI (ofs (lead l) k)).length + 1) c') WF) := by
            show R2 _ _ _ _ _ _ _ _ _ _
            rw [ofs_succ, HBS.out]
            simp only [List.length_append, List.length_cons, List.length_nil, Nat.zero_add, Nat.add_sub_cancel]
            exact HS9.out
          clear hS9 HS9 HS7 hown hgrow hform hp9 c9 f9 kvo hsub
          go_wp2
          go_roundw
          all_goals first
            | exact ⟨k + 1, _, _, by omega, by go_num, HSG.out⟩
            | ((repeat apply Exists.intro); exact ⟨⟨k + 1, _, _, by omega, by go_num, HSG.out⟩, rfl⟩)
            | (simp [intOf]; omega)
    · obtain rfl : k = l.length := by omega
      have hS2 := hS.out
      have hbl0 : 0 < (bl l).length := bl_pos (by intro e; rw [e] at hne; simp at hne)
      have hnl := nB_le l
      rcases hS2.kb.form with ⟨_, e⟩ | ⟨gb, cb, rfl, hcb1, hcb2, hgb⟩
      · exfalso
        have := congrArg List.length e
        rw [bkL_len] at this
        have h2 : (bl l).length = 0 := this
        omega
      rcases hS2.ow.form with ⟨_, e⟩ | ⟨go, co, rfl, hco1, hco2, hgo⟩
      · exfalso
        have := congrArg List.length e
        rw [nI_len, ofs_len] at this
        simp only [List.length_nil] at this
        omega
      rw [bkL_len] at hS2 hcb1
      rw [nI_len, ofs_len] at hS2 hco1
      have hnb : (blks (lead l) l.length).length = nB l := rfl
      rw [hnb] at hS2 hcb1
      have hn0 : 0 < nB l := hbl0
      have HR := Lib.hid (show R3 w q gb cb l (.slice (some ⟨go, 0, none⟩) l.length co) 0 (fun _ => ⟨none, 0, 0⟩) wr from ⟨hS2.ex, hS2.pb, by rw [← bkL_bkI l _ fun _ _ => rfl]; exact hS2.kb, fun i hi => by omega, hS2.ow⟩)
      unfold maxLen at hcb2 hco2
      clear hS2 hS hlt hk hbl0 hnb
      obtain ⟨WW, rfl⟩ : ∃ x : World, x = wr := ⟨_, rfl⟩
      have kp : WW.cell? ⟨q, 0, none⟩ = some (.slice (some ⟨gb, 0, none⟩) (nB l) cb) := HR.out.pb.cell 0
      go_wp2
      go_loopw [9] (fun t wr => ∃ (b : Nat) (row : Nat → Sv), b ≤ nB l ∧ t = .int .i64 (b : Int) ∧ Hid (R3 w q gb cb l (.slice (some ⟨go, 0, none⟩) l.length co) b row wr)) (fun t _ => nB l - (intOf t).toNat)
      case atStart => exact ⟨0, _, by omega, rfl, HR.out⟩
      case round =>
        clear HR kp
        obtain ⟨b, row, hb, rfl, hR⟩ := hrel
        have kp : wr.cell? ⟨q, 0, none⟩ = some (.slice (some ⟨gb, 0, none⟩) (nB l) cb) := hR.out.pb.cell 0
        by_cases hlb : b < nB l
        · have hlb' : (b : Int) < (nB l : Int) := by omega
          have hb0 : (0 : Int) ≤ (b : Int) := by omega
          obtain ⟨e, he⟩ : ∃ e, (bl l)[b]? = some e := ⟨_, List.getElem?_eq_getElem hlb⟩
          obtain ⟨i, x, e1, hi, hx⟩ := bl_end he
          have hnx := nxt_eq he (x := x) (by rw [e1]; exact hx)
          have e2 := (frF_of he).2
          rw [e1] at e2 hnx
          simp only [Nat.add_sub_cancel] at hnx
          have hi' : (i : Int) < (l.length : Int) := by omega
          have hi0 : (0 : Int) ≤ (i : Int) := by omega
          have hsub : (i : Int) + 1 - 1 = (i : Int) := by omega
          have HNX := Lib.hid hnx
          have HX := Lib.hid hx
          have kt : wr.cell? ⟨gb, b * 3 + 1, none⟩ = some (.int .i64 ((i : Int) + 1)) := by
            have hat := hR.out.kb.at (k := b) (x := ⟨frF l b, twF l b, row b⟩) (by unfold bkI; rw [List.getElem?_map, List.getElem?_range hlb]; rfl)
            have := hat.cell 1 _ rfl
            rw [show 0 + b * tK.n + 1 = b * 3 + 1 by show 0 + b * 3 + 1 = _; omega, e2] at this
            exact this
          obtain ⟨bt, ot, rfl, _, hbt, ct⟩ := SlX.int (HT.out.ex hR.out.ex) (tosI_get hi)
          clear e2 e1 he hnx hx
          cases htg : tgt l i with
          | none =>
            rw [htg] at ct
            have ct2 : wr.cell? ⟨bt, ot + i, none⟩ = some (.int .i64 (-1)) := ct
            have HP : Hid (nxt l b = ([] : List Nat) ++ (if x.op = 26 ∨ x.op = 39 then [] else [b + 1]) ∧ ([] : List Nat).length ≤ 1) := by
              show _ ∧ _
              rw [HNX.out, htg]
              exact ⟨rfl, by simp⟩
            have HRo : Hid (OwR tI wr.heap.size wr (Sv.v ⟨none, 0, 0⟩) (nI [])) := OwR.nil _ _
            clear ct htg HNX
            have HR1 := Lib.hid hR.out
            have HRb : Hid (∀ w', Below wr.heap.size wr w' → R3 w q gb cb l (.slice (some ⟨go, 0, none⟩) l.length co) b row w') := fun w' hb => hR.out.below hb
            have hsz0 := hR.out.ex.size
            have hBW : wr.heap.size ≤ wr.heap.size := Nat.le_refl _
            go_upto_region 16 with (fail)
            clear hR kp kt ct2 hsub
            obtain ⟨bb, off, rfl, _, hat⟩ := (H.out.ex HR1.out.ex).get HX.out
            obtain ⟨c0, _⟩ := at_ins hat
            have e8 : tN.n = 8 := rfl
            rw [e8] at c0
            clear hat e8
            by_cases hop : x.op = 26
            · have hop' : (x.op != 26) = false := by simp [hop]
              have hnx2 : nxt l b = [] := by rw [HP.out.1, if_pos (Or.inl hop), List.append_nil]
              have hRo := HRo.out
              rw [← hnx2] at hRo
              have HRF := Lib.hid (HR1.out.put hlb (s := ⟨none, 0, 0⟩) (hRo.mono (Nat.le_trans hsz0 (Nat.le_refl _))))
              clear hRo
              have kp := HR1.out.pb.cell 0
              simp only [List.getElem?_toArray, List.getElem?_cons_zero] at kp
              have hat := HR1.out.kb.at (k := b) (x := ⟨frF l b, twF l b, row b⟩) (by unfold bkI; rw [List.getElem?_map, List.getElem?_range hlb]; rfl)
              have kn := hat.cell 2 _ rfl
              rw [show 0 + b * tK.n + 2 = b * 3 + 2 by show 0 + b * 3 + 2 = _; omega] at kn
              have kf := HR1.out.kb.frozen (b * 3 + 2)
              clear hat
              go_wp2
              go_roundw
              all_goals first
                | exact ⟨b + 1, _, by omega, by go_num, HRF.out⟩
                | ((repeat apply Exists.intro); exact ⟨⟨b + 1, _, by omega, by go_num, HRF.out⟩, rfl⟩)
                | (simp [intOf]; omega)
            · have hop' : (x.op != 26) = true := by simp [hop]
              by_cases hop2 : x.op = 39
              · have hop2' : (x.op != 39) = false := by simp [hop2]
                have hnx2 : nxt l b = [] := by rw [HP.out.1, if_pos (Or.inr hop2), List.append_nil]
                have hRo := HRo.out
                rw [← hnx2] at hRo
                have HRF := Lib.hid (HR1.out.put hlb (s := ⟨none, 0, 0⟩) (hRo.mono (Nat.le_trans hsz0 (Nat.le_refl _))))
                clear hRo
                have kp := HR1.out.pb.cell 0
                simp only [List.getElem?_toArray, List.getElem?_cons_zero] at kp
                have hat := HR1.out.kb.at (k := b) (x := ⟨frF l b, twF l b, row b⟩) (by unfold bkI; rw [List.getElem?_map, List.getElem?_range hlb]; rfl)
                have kn := hat.cell 2 _ rfl
                rw [show 0 + b * tK.n + 2 = b * 3 + 2 by show 0 + b * 3 + 2 = _; omega] at kn
                have kf := HR1.out.kb.frozen (b * 3 + 2)
                clear hat
                go_wp2
                go_roundw
                all_goals first
                  | exact ⟨b + 1, _, by omega, by go_num, HRF.out⟩
                  | ((repeat apply Exists.intro); exact ⟨⟨b + 1, _, by omega, by go_num, HRF.out⟩, rfl⟩)
                  | (simp [intOf]; omega)
              · have hop2' : (x.op != 39) = true := by simp [hop2]
                have hnx2 : nxt l b = [] ++ [b + 1] := by rw [HP.out.1, if_neg (by simp [hop, hop2])]
                have hpre := HP.out.2
                have HNX2 := Lib.hid hnx2
                clear hnx2 hop hop2 HP
                have hszW := HR1.out.ex.size
                go_upto_region 18 with (at_builtin; refine wpl_push tI rfl _ _ rfl wr.heap.size (Sv.v ⟨none, 0, 0⟩) (nI []) (by rfl) (HRo.out.alloc _) _ 0 1 1 [((b : Int) + 1)] (by rfl) rfl (rangeNew (by rfl) (by rfl)) (by unfold maxLen; simp [nI]) (by show _ * 8 ≤ _; simp [nI]) (Nat.le_trans hBW (by simp)) ?_; intro v2 w10 hown2 hgrow2 hform2; obtain ⟨g2, c2', rfl, _⟩ := hform2 (by simp))
                have hb10 : Below wr.heap.size wr w10 := ((Below.refl wr.heap.size wr).alloc hBW _).grown hgrow2 (Nat.le_trans hBW (by simp)) (fun g e => (HRo.out.blk e).1)
                have HR10 := Lib.hid (show R3 w q gb cb l (.slice (some ⟨go, 0, none⟩) l.length co) b row w10 from HRb.out w10 hb10)
                have hRo : OwR tI wr.heap.size w10 (Sv.v ⟨some ⟨g2, 0, none⟩, (nI []).length + 1, c2'⟩) (nI (nxt l b)) := by
                  rw [HNX2.out, nI_app]
                  exact hown2
                have HRP := Lib.hid hRo
                clear hRo hown2 hgrow2 hform2 hb10 HR1 HRo HNX2 c0
                have hRo := HRP.out
                have HR1 := HR10
                have HRF := Lib.hid (HR1.out.put hlb (s := ⟨some ⟨g2, 0, none⟩, (nI []).length + 1, c2'⟩) (hRo.mono hsz0))
                clear hRo
                have kp := HR1.out.pb.cell 0
                simp only [List.getElem?_toArray, List.getElem?_cons_zero] at kp
                have hat := HR1.out.kb.at (k := b) (x := ⟨frF l b, twF l b, row b⟩) (by unfold bkI; rw [List.getElem?_map, List.getElem?_range hlb]; rfl)
                have kn := hat.cell 2 _ rfl
                rw [show 0 + b * tK.n + 2 = b * 3 + 2 by show 0 + b * 3 + 2 = _; omega] at kn
                have kf := HR1.out.kb.frozen (b * 3 + 2)
                clear hat
                go_wp2
                go_roundw
                all_goals first
                  | exact ⟨b + 1, _, by omega, by go_num, HRF.out⟩
                  | ((repeat apply Exists.intro); exact ⟨⟨b + 1, _, by omega, by go_num, HRF.out⟩, rfl⟩)
                  | (simp [intOf]; omega)
          | some t =>
            have htl := tgt_lt htg
            have hol : (ofl l).length = l.length := ofs_len _ _
            obtain ⟨u, hu⟩ : ∃ u, (ofl l)[t]? = some u := ⟨_, List.getElem?_eq_getElem (by omega)⟩
            have HP : Hid (nxt l b = [u] ++ (if x.op = 26 ∨ x.op = 39 then [] else [b + 1]) ∧ [u].length ≤ 1) := by
              show _ ∧ _
              rw [HNX.out, htg]
              simp only
              rw [List.getD_eq_getElem?_getD, hu]
              exact ⟨rfl, by simp⟩
            rw [htg] at ct
            have ct2 : wr.cell? ⟨bt, ot + i, none⟩ = some (.int .i64 (t : Int)) := ct
            have htl' : (t : Int) < (l.length : Int) := by omega
            have ht0 : (0 : Int) ≤ (t : Int) := by omega
            have cu := OwR.int hR.out.ow (k := t) (x := (u : Int)) (by unfold nI; rw [List.getElem?_map, hu]; rfl)
            have kp2 : wr.cell? ⟨q, 4, none⟩ = some (.slice (some ⟨go, 0, none⟩) l.length co) := hR.out.pb.cell 4
            clear ct htg HNX hu hol
            have hsz0 := hR.out.ex.size
            go_upto_region 15 with (fail)
            have cv : wr.drew.cell? ⟨q, 4, none⟩ = some (.slice (some ⟨go, 0, none⟩) l.length co) ∧ wr.drew.cell? ⟨bt, ot + i, none⟩ = some (.int .i64 (t : Int)) ∧ wr.drew.cell? ⟨go, t, none⟩ = some (.int .i64 (u : Int)) := ⟨kp2, ct2, cu⟩
            refine wp_region_last 13 (fun w' => w'.cell? ⟨q, 4, none⟩ = some (.slice (some ⟨go, 0, none⟩) l.length co) ∧ w'.cell? ⟨bt, ot + i, none⟩ = some (.int .i64 (t : Int)) ∧ w'.cell? ⟨go, t, none⟩ = some (.int .i64 (u : Int))) mix ?_
            refine wpAnyL_take (i := 0) (v := .slice none 0 0) rfl (by kernel_rfl) (by kernel_rfl) (by kernel_rfl) (fun _ _ _ h => h) rfl (by kernel_rfl) (Or.inl ⟨by rfl, fun w' hw' => by (try go_split_ands); go_simp⟩) cv ?_
            simp only [Act.put, List.getElem_toArray, List.getElem_cons_zero, List.setIfInBounds_toArray, List.set_cons_zero, List.set_cons_succ]
            refine wpAnyL_take (i := 1) (v := .pointer (some ⟨q, 0, none⟩)) rfl (by kernel_rfl) (by kernel_rfl) (by kernel_rfl) (fun _ _ _ h => h) rfl (by kernel_rfl) (Or.inl ⟨by rfl, fun w' hw' => by (try go_split_ands); go_simp⟩) cv ?_
            simp only [Act.put, List.getElem_toArray, List.getElem_cons_zero, List.getElem_cons_succ, List.setIfInBounds_toArray, List.set_cons_zero, List.set_cons_succ]
            refine wpAnyL_take (i := 2) (v := .pointer (some ⟨q, 0, none⟩)) rfl (by kernel_rfl) (by kernel_rfl) (by kernel_rfl) (fun _ _ _ h => h) rfl (by kernel_rfl) (Or.inl ⟨by rfl, fun w' hw' => by (try go_split_ands); go_simp⟩) cv ?_
            simp only [Act.put, List.getElem_toArray, List.getElem_cons_zero, List.getElem_cons_succ, List.setIfInBounds_toArray, List.set_cons_zero, List.set_cons_succ]
            refine wpAnyL_take (i := 3) (v := .pointer (some ⟨q, 4, none⟩)) rfl (by kernel_rfl) (by kernel_rfl) (by kernel_rfl) (fun _ _ _ h => h) rfl (by kernel_rfl) (Or.inl ⟨by rfl, fun w' hw' => by (try go_split_ands); go_simp⟩) cv ?_
            simp only [Act.put, List.getElem_toArray, List.getElem_cons_zero, List.getElem_cons_succ, List.setIfInBounds_toArray, List.set_cons_zero, List.set_cons_succ]
            refine wpAnyL_take (i := 4) (v := .slice (some ⟨go, 0, none⟩) l.length co) rfl (by kernel_rfl) (by kernel_rfl) (by kernel_rfl) (fun _ _ _ h => h) rfl (by kernel_rfl) (Or.inl ⟨by rfl, fun w' hw' => by (try go_split_ands); go_simp⟩) cv ?_
            simp only [Act.put, List.getElem_toArray, List.getElem_cons_zero, List.getElem_cons_succ, List.setIfInBounds_toArray, List.set_cons_zero, List.set_cons_succ]
            refine wpAnyL_take (i := 5) (v := .slice (some ⟨bt, ot, none⟩) l.length capt) rfl (by kernel_rfl) (by kernel_rfl) (by kernel_rfl) (fun _ _ _ h => h) rfl (by kernel_rfl) (Or.inl ⟨by rfl, fun w' hw' => by (try go_split_ands); go_simp⟩) cv ?_
            simp only [Act.put, List.getElem_toArray, List.getElem_cons_zero, List.getElem_cons_succ, List.setIfInBounds_toArray, List.set_cons_zero, List.set_cons_succ]
            refine wpAnyL_take (i := 6) (v := .int .i64 (i : Int)) rfl (by kernel_rfl) (by kernel_rfl) (by kernel_rfl) (fun _ _ _ h => h) rfl (by kernel_rfl) (Or.inl ⟨by rfl, fun w' hw' => by (try go_split_ands); go_simp⟩) cv ?_
            simp only [Act.put, List.getElem_toArray, List.getElem_cons_zero, List.getElem_cons_succ, List.setIfInBounds_toArray, List.set_cons_zero, List.set_cons_succ]
            refine wpAnyL_take (i := 7) (v := .pointer (some ⟨bt, ot + i, none⟩)) rfl (by kernel_rfl) (by kernel_rfl) (by kernel_rfl) (fun _ _ _ h => h) rfl (by kernel_rfl) (Or.inl ⟨by rfl, fun w' hw' => by (try go_split_ands); go_simp⟩) cv ?_
            simp only [Act.put, List.getElem_toArray, List.getElem_cons_zero, List.getElem_cons_succ, List.setIfInBounds_toArray, List.set_cons_zero, List.set_cons_succ]
            refine wpAnyL_take (i := 8) (v := .int .i64 (t : Int)) rfl (by kernel_rfl) (by kernel_rfl) (by kernel_rfl) (fun _ _ _ h => h) rfl (by kernel_rfl) (Or.inl ⟨by rfl, fun w' hw' => by (try go_split_ands); go_simp⟩) cv ?_
            simp only [Act.put, List.getElem_toArray, List.getElem_cons_zero, List.getElem_cons_succ, List.setIfInBounds_toArray, List.set_cons_zero, List.set_cons_succ]
            refine wpAnyL_take (i := 9) (v := .pointer (some ⟨go, t, none⟩)) rfl (by kernel_rfl) (by kernel_rfl) (by kernel_rfl) (fun _ _ _ h => h) rfl (by kernel_rfl) (Or.inl ⟨by rfl, fun w' hw' => by (try go_split_ands); go_simp⟩) cv ?_
            simp only [Act.put, List.getElem_toArray, List.getElem_cons_zero, List.getElem_cons_succ, List.setIfInBounds_toArray, List.set_cons_zero, List.set_cons_succ]
            refine wpAnyL_take (i := 10) (v := .int .i64 (u : Int)) rfl (by kernel_rfl) (by kernel_rfl) (by kernel_rfl) (fun _ _ _ h => h) rfl (by kernel_rfl) (Or.inl ⟨by rfl, fun w' hw' => by (try go_split_ands); go_simp⟩) cv ?_
            simp only [Act.put, List.getElem_toArray, List.getElem_cons_zero, List.getElem_cons_succ, List.setIfInBounds_toArray, List.set_cons_zero, List.set_cons_succ]
            refine wpAnyL_one (i := 11) (by kernel_rfl) rfl (fun K hK => ?_)
            go_simp
            have hbA : Below wr.heap.size wr (wr.alloc (.cells #[.int .i64 (u : Int)] 3)).drew := (bAl (bRefl wr) _).drew
            have HN6 := Lib.hid ((Blk.new wr 3 #[.int .i64 (u : Int)]).drew)
            have hz6 : wr.heap.size < (wr.alloc (.cells #[.int .i64 (u : Int)] 3)).drew.heap.size := HN6.out.lt
            have cv6 : (wr.alloc (.cells #[.int .i64 (u : Int)] 3)).drew.cell? ⟨q, 4, none⟩ = some (.slice (some ⟨go, 0, none⟩) l.length co) ∧ (wr.alloc (.cells #[.int .i64 (u : Int)] 3)).drew.cell? ⟨bt, ot + i, none⟩ = some (.int .i64 (t : Int)) ∧ (wr.alloc (.cells #[.int .i64 (u : Int)] 3)).drew.cell? ⟨go, t, none⟩ = some (.int .i64 (u : Int)) :=
              ⟨(hbA.cell (p := ⟨q, 4, none⟩) hR.out.pb.lt).trans kp2, (hbA.cell (p := ⟨bt, ot + i, none⟩) hbt).trans ct2, (hbA.cell (p := ⟨go, t, none⟩) (hR.out.ow.lt rfl)).trans cu⟩
            generalize (wr.alloc (.cells #[.int .i64 (u : Int)] 3)).drew = W6 at hbA HN6 hz6 cv6 ⊢
            refine hK.out _ _ (fun _ => cv6) ?_
            clear hK K
            refine wpAnyL_one (i := 12) (by kernel_rfl) rfl (fun K hK => ?_)
            refine step_push tI rfl (.tmp 84) (.tmp 95) rfl wr.heap.size (.slice none 0 0) [] (by rfl) (OwR.nil _ _) wr.heap.size 0 1 1 [((u : Int))] (by rfl) rfl (rangeBlk HN6.out (by rfl)) (by unfold maxLen; simp) (by show _ * 8 ≤ _; simp) (by omega) ?_
            intro v' w9 hown hgrow hform
            obtain ⟨g', c', rfl, _⟩ := hform (by simp)
            have hb9 : Below wr.heap.size wr w9 := hbA.grown hgrow (by omega) (fun g e => by cases e)
            have cv9 : w9.cell? ⟨q, 4, none⟩ = some (.slice (some ⟨go, 0, none⟩) l.length co) ∧ w9.cell? ⟨bt, ot + i, none⟩ = some (.int .i64 (t : Int)) ∧ w9.cell? ⟨go, t, none⟩ = some (.int .i64 (u : Int)) :=
              ⟨(hb9.cell (p := ⟨q, 4, none⟩) hR.out.pb.lt).trans kp2, (hb9.cell (p := ⟨bt, ot + i, none⟩) hbt).trans ct2, (hb9.cell (p := ⟨go, t, none⟩) (hR.out.ow.lt rfl)).trans cu⟩
            simp only [Act.put, List.setIfInBounds_toArray]
            refine hK.out _ _ (fun _ => cv9) ?_
            clear hK K
            refine wpAnyL_one (i := 13) (by kernel_rfl) rfl (fun K hK => ?_)
            go_simp
            refine hK.out _ _ (fun h => absurd rfl h) ?_
            clear hK K
            refine wpAnyL_done (by kernel_rfl) ?_ _
            have HRo : Hid (OwR tI wr.heap.size w9 (Sv.v ⟨some ⟨g', 0, none⟩, 1, c'⟩) (nI [u])) := by
              show OwR _ _ _ _ _
              exact hown
            have HR1 := Lib.hid (hR.out.below hb9)
            have hBW : wr.heap.size ≤ w9.heap.size := hb9.size
            have HRb : Hid (∀ w', Below wr.heap.size w9 w' → R3 w q gb cb l (.slice (some ⟨go, 0, none⟩) l.length co) b row w') := fun w' hb => hR.out.below (hb9.trans hb)
            clear hown hgrow hform hb9 cv9 cv6 HN6 hz6 hbA cv kp2 cu ct2 hR kp kt hsub
            go_upto_region 16 with (fail)
            obtain ⟨bb, off, rfl, _, hat⟩ := (H.out.ex HR1.out.ex).get HX.out
            obtain ⟨c0, _⟩ := at_ins hat
            have e8 : tN.n = 8 := rfl
            rw [e8] at c0
            clear hat e8
            by_cases hop : x.op = 26
            · have hop' : (x.op != 26) = false := by simp [hop]
              have hnx2 : nxt l b = [u] := by rw [HP.out.1, if_pos (Or.inl hop), List.append_nil]
              have hRo := HRo.out
              rw [← hnx2] at hRo
              have HRF := Lib.hid (HR1.out.put hlb (s := ⟨some ⟨g', 0, none⟩, 1, c'⟩) (hRo.mono (Nat.le_trans hsz0 (Nat.le_refl _))))
              clear hRo
              have kp := HR1.out.pb.cell 0
              simp only [List.getElem?_toArray, List.getElem?_cons_zero] at kp
              have hat := HR1.out.kb.at (k := b) (x := ⟨frF l b, twF l b, row b⟩) (by unfold bkI; rw [List.getElem?_map, List.getElem?_range hlb]; rfl)
              have kn := hat.cell 2 _ rfl
              rw [show 0 + b * tK.n + 2 = b * 3 + 2 by show 0 + b * 3 + 2 = _; omega] at kn
              have kf := HR1.out.kb.frozen (b * 3 + 2)
              clear hat
              go_wp2
              go_roundw
              all_goals first
                | exact ⟨b + 1, _, by omega, by go_num, HRF.out⟩
                | ((repeat apply Exists.intro); exact ⟨⟨b + 1, _, by omega, by go_num, HRF.out⟩, rfl⟩)
                | (simp [intOf]; omega)
            · have hop' : (x.op != 26) = true := by simp [hop]
              by_cases hop2 : x.op = 39
              · have hop2' : (x.op != 39) = false := by simp [hop2]
                have hnx2 : nxt l b = [u] := by rw [HP.out.1, if_pos (Or.inr hop2), List.append_nil]
                have hRo := HRo.out
                rw [← hnx2] at hRo
                have HRF := Lib.hid (HR1.out.put hlb (s := ⟨some ⟨g', 0, none⟩, 1, c'⟩) (hRo.mono (Nat.le_trans hsz0 (Nat.le_refl _))))
                clear hRo
                have kp := HR1.out.pb.cell 0
                simp only [List.getElem?_toArray, List.getElem?_cons_zero] at kp
                have hat := HR1.out.kb.at (k := b) (x := ⟨frF l b, twF l b, row b⟩) (by unfold bkI; rw [List.getElem?_map, List.getElem?_range hlb]; rfl)
                have kn := hat.cell 2 _ rfl
                rw [show 0 + b * tK.n + 2 = b * 3 + 2 by show 0 + b * 3 + 2 = _; omega] at kn
                have kf := HR1.out.kb.frozen (b * 3 + 2)
                clear hat
                go_wp2
                go_roundw
                all_goals first
                  | exact ⟨b + 1, _, by omega, by go_num, HRF.out⟩
                  | ((repeat apply Exists.intro); exact ⟨⟨b + 1, _, by omega, by go_num, HRF.out⟩, rfl⟩)
                  | (simp [intOf]; omega)
              · have hop2' : (x.op != 39) = true := by simp [hop2]
                have hnx2 : nxt l b = [u] ++ [b + 1] := by rw [HP.out.1, if_neg (by simp [hop, hop2])]
                have hpre := HP.out.2
                have HNX2 := Lib.hid hnx2
                clear hnx2 hop hop2 HP
                have hszW := HR1.out.ex.size
                go_upto_region 18 with (at_builtin; refine wpl_push tI rfl _ _ rfl wr.heap.size (Sv.v ⟨some ⟨g', 0, none⟩, 1, c'⟩) (nI [u]) (by rfl) (HRo.out.alloc _) _ 0 1 1 [((b : Int) + 1)] (by rfl) rfl (rangeNew (by rfl) (by rfl)) (by unfold maxLen; simp [nI]) (by show _ * 8 ≤ _; simp [nI]) (Nat.le_trans hBW (by simp)) ?_; intro v2 w10 hown2 hgrow2 hform2; obtain ⟨g2, c2', rfl, _⟩ := hform2 (by simp))
                have hb10 : Below wr.heap.size w9 w10 := ((Below.refl wr.heap.size w9).alloc hBW _).grown hgrow2 (Nat.le_trans hBW (by simp)) (fun g e => (HRo.out.blk e).1)
                have HR10 := Lib.hid (show R3 w q gb cb l (.slice (some ⟨go, 0, none⟩) l.length co) b row w10 from HRb.out w10 hb10)
                have hRo : OwR tI wr.heap.size w10 (Sv.v ⟨some ⟨g2, 0, none⟩, (nI [u]).length + 1, c2'⟩) (nI (nxt l b)) := by
                  rw [HNX2.out, nI_app]
                  exact hown2
                have HRP := Lib.hid hRo
                clear hRo hown2 hgrow2 hform2 hb10 HR1 HRo HNX2 c0
                have hRo := HRP.out
                have HR1 := HR10
                have HRF := Lib.hid (HR1.out.put hlb (s := ⟨some ⟨g2, 0, none⟩, (nI [u]).length + 1, c2'⟩) (hRo.mono hsz0))
                clear hRo
                have kp := HR1.out.pb.cell 0
                simp only [List.getElem?_toArray, List.getElem?_cons_zero] at kp
                have hat := HR1.out.kb.at (k := b) (x := ⟨frF l b, twF l b, row b⟩) (by unfold bkI; rw [List.getElem?_map, List.getElem?_range hlb]; rfl)
                have kn := hat.cell 2 _ rfl
                rw [show 0 + b * tK.n + 2 = b * 3 + 2 by show 0 + b * 3 + 2 = _; omega] at kn
                have kf := HR1.out.kb.frozen (b * 3 + 2)
                clear hat
                go_wp2
                go_roundw
                all_goals first
                  | exact ⟨b + 1, _, by omega, by go_num, HRF.out⟩
                  | ((repeat apply Exists.intro); exact ⟨⟨b + 1, _, by omega, by go_num, HRF.out⟩, rfl⟩)
                  | (simp [intOf]; omega)
        · obtain rfl : b = nB l := by omega
          go_wp2
          go_end0
          have hR := hR.out
          exact ⟨rfl, hR.ex, _, _, _, hR.pb, hR.done⟩
end Go.Proofs.Ytpiiefdaaijgbaa
