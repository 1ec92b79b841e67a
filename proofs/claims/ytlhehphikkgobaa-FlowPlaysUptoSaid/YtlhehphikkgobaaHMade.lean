/- made: the program's flow of a list that is lent, and the document's. -/
import Derived.Test.YtlhehphikkgobaaHLend
namespace Go.Proofs.Ytlhehphikkgobaa
open Go Go.RowKit Go.Wr Go.Fl
set_option maxHeartbeats 4000000
set_option maxRecDepth 100000

/-- The document's finished flow at q. -/
def RFinP (l : List In) (q : Nat) (w : World) : Prop := G7 l ∧ ∃ vb vd vl vr vo bs rows E, RFin l q vb vd vl vr vo bs rows E w
theorem RFinP.below {l : List In} {q : Nat} {w w' : World} (h : RFinP l q w) (b : Below w.heap.size w w') : RFinP l q w' := by
  obtain ⟨g, vb, vd, vl, vr, vo, bs, rows, E, h⟩ := h
  exact ⟨g, vb, vd, vl, vr, vo, bs, rows, E, h.below b⟩
/-- What its fields hold. -/
theorem RFinP.get {l : List In} {q : Nat} {w : World} (h : RFinP l q w) : ∃ vb vd vl vr vo, Blk w q 35 #[vb, vd, vl, vr, vo] ∧ Bd q w vb (dB l) ∧ Ld q w vl (dL l) ∧ SlX tI q w vr (nI (dfsL (nxt l)).reverse) := by
  obtain ⟨g, vb, vd, vl, vr, vo, bs, rows, E, h⟩ := h
  refine ⟨vb, vd, vl, vr, vo, h.blk, ⟨bs, h.rw.sb, by rw [dB_len]; exact h.rw.lb, fun i k d hk hd => ?_⟩, ⟨_, h.la, ?_, fun i k d hk hd => ?_⟩, h.ro⟩
  · have hi : i < nB l := by rw [← dB_len]; exact (List.getElem?_eq_some_iff.1 hd).1
    rw [dB_get hi] at hd
    cases hd
    exact h.rw.nb i k hk
  · rw [arL_len, dL_len, ← h.hd, List.length_map]
  · have hi : i < (heads l).length := by rw [← dL_len]; exact (List.getElem?_eq_some_iff.1 hd).1
    rw [dL_get hi] at hd
    cases hd
    have hE : i < E.length := by rw [← h.hd, List.length_map] at hi; exact hi
    obtain ⟨e, he⟩ : ∃ e, E[i]? = some e := ⟨_, List.getElem?_eq_getElem hE⟩
    rw [arL_get he] at hk
    cases hk
    have hh : (heads l).getD i 0 = e.hd := by
      rw [← h.hd, List.getD_eq_getElem?_getD, List.getElem?_map, he]; rfl
    rw [hh]
    exact ⟨rfl, rfl, h.el e (List.mem_of_getElem? he)⟩
theorem RFinP.dom {l : List In} {q : Nat} {w : World} (h : RFinP l q w) (a b : Int) : Calls Try.prog 24 #[.pointer (some ⟨q, 0, none⟩), .int .i64 a, .int .i64 b] w fun e w' => Below w.heap.size w w' ∧ e = .returned (.bool (domB (nxt l) (nB l) a b)) := by
  obtain ⟨g, vb, vd, vl, vr, vo, bs, rows, E, h⟩ := h
  obtain ⟨ab, cb, e, _, _⟩ := h.rw.sb.form
  have hc := h.blk.cell 0
  simp only [List.getElem?_toArray, List.getElem?_cons_zero] at hc
  rw [e, h.rw.lb] at hc
  exact rdominates_ok w q q (nB l) (nxt l) vd rows ab cb hc h.dt.c1 h.dt.sd h.dt.ln (fun x s hs => ⟨_, by simp, h.dt.rw x s hs, fun y hy => by rw [List.getElem?_map, List.getElem?_range hy]; rfl⟩) a b
theorem RFinP.block {l : List In} {q : Nat} {w : World} (h : RFinP l q w) (i : Int) : Calls Try.prog 28 #[.pointer (some ⟨q, 0, none⟩), .int .i64 i] w fun e w' => e = .returned (.int .i64 (blkOf (ofl l) i)) ∧ w' = w := by
  obtain ⟨g, vb, vd, vl, vr, vo, bs, rows, E, h⟩ := h
  exact rblock_ok w q q vo (ofl l) (h.blk.cell 4) h.rw.so i
/-- What made answers. -/
def MadeP (l : List In) (w : World) (e : Ending) (w' : World) : Prop :=
  Below w.heap.size w w' ∧ (e = .returned (.tuple #[.pointer none, .pointer none, .bool true]) ∨
    ∃ p q, e = .returned (.tuple #[.pointer (some ⟨p, 0, none⟩), .pointer (some ⟨q, 0, none⟩), .bool true]) ∧ w.heap.size ≤ p ∧ w.heap.size ≤ q ∧ FinP l p w' ∧ RFinP l q w')
theorem made_ok (w : World) (q : Nat) (v : Value) (l : List In) (h : SlX tN q w v l) (hl : l.length ≤ 1099511627776) : Calls Try.prog 18 #[v] w (MadeP l w) := by
  obtain ⟨a0, cap, rfl, h1, h2⟩ := h.form
  have H := Lib.hid h
  unfold maxLen at h2
  clear h
  obtain ⟨c, hc⟩ : ∃ c, c = (mkE l).2 := ⟨_, rfl⟩
  obtain ⟨x, hx⟩ : ∃ x, x = (mkE l).1 := ⟨_, rfl⟩
  have HC := Lib.hid hc
  have HX := Lib.hid hx
  clear hc hx
  go_enter Try.func18, Try.ntmps18
  go_wp2_with fail
  generalize hW : w.alloc (.cells #[.slice none 0 0] 78) = W
  obtain ⟨r, hr⟩ : ∃ r, r = w.heap.size := ⟨_, rfl⟩
  rw [← hr]
  have bW : Below w.heap.size w W := by rw [← hW]; exact bAl (bRefl w) _
  have pW : Blk W r 78 #[.slice none 0 0] := by rw [← hW, hr]; exact Blk.new _ _ _
  have HHr : Hid (r = w.heap.size) := hr
  clear hW hr
  refine (lend_ok W r pW _ l ((SlX.re H.out (by rw [HHr.out]; exact Nat.le_refl _)).below bW) hl).mono ?_
  rintro e w2 ⟨g, rfl, hL⟩
  have hrW : r < W.heap.size := pW.lt
  have B2 := Lib.hid (show Below w.heap.size w w2 from bW.trans (hL.ex.below (by rw [HHr.out]; exact Nat.le_refl _) bW.size))
  have hgr := hL.ne
  have HgW := Lib.hid (Nat.le_trans bW.size hL.hg)
  have HSL : Hid (SlX tN r w2 (.slice (some ⟨g, 0, none⟩) l.length (4 * l.length + 200)) l) := by
    have := hL.gb.take (k := l.length) (by rw [rooN_len (by omega)]; omega)
    rw [rooN_take] at this
    exact this.sl (fun e => hgr (by injection e))
  have HL := Lib.hid hL
  have Hg2 := Lib.hid (hL.gb.lt (g := g) rfl)
  clear hL bW pW
  go_wp2_with fail
  refine (make_ok w2 r _ l HSL.out).mono ?_
  rintro e w3 ⟨b3, hM⟩
  rw [← HC.out, ← HX.out] at hM
  have HB3 := Lib.hid (bThen B2.out b3)
  have HLp := Lib.hid (HL.out.pb.below b3 HL.out.pb.lt)
  have HLg := Lib.hid (HL.out.gb.below b3)
  clear b3 HL HSL
  have hback := cback_ok w3 r g W.heap.size (4 * l.length + 200) l HLp.out HLg.out rfl _ ((SlX.re H.out HgW.out).below HB3.out) hl
  rcases hM with ⟨rfl, hne⟩ | ⟨hg, p, ab, cb, b4, o4, b5, o5, c4, c5, va, vo, vr, vl, bs, ss, E, d, rfl, hp, hF⟩
  · have HNE := Lib.hid hne
    have HBK := Lib.hid hback
    clear hne hback
    go_wp2_with fail
    refine HBK.out.mono ?_
    rintro e w4 ⟨rfl, x4⟩
    have HB4 := Lib.hid (HB3.out.trans (x4.below HgW.out HB3.out.size))
    clear x4
    go_wp2_with fail
    refine (rmake_ok w4 q _ l (H.out.below HB4.out)).mono ?_
    rintro e w5 ⟨b5, hM⟩
    rw [← HC.out, ← HX.out] at hM
    have HB5 := Lib.hid (bThen HB4.out b5)
    clear b5
    rcases hM with ⟨rfl, _⟩ | ⟨hg, _⟩
    rotate_left
    · exact absurd (by rw [HC.out, mk_fine hg]) HNE.out
    go_wp2
    go_ret3
    exact ⟨HB5.out, Or.inl rfl⟩
  · have HG := Lib.hid hg
    have HF1 := Lib.hid hF
    have HP := Lib.hid hp
    have HBK := Lib.hid hback
    clear hg hF hp hback
    go_wp2_with fail
    refine HBK.out.mono ?_
    rintro e w4 ⟨rfl, x4⟩
    have HB4 := Lib.hid (HB3.out.trans (x4.below HgW.out HB3.out.size))
    have HF4 := Lib.hid (HF1.out.old (by have h1 := HP.out; have h2 := Hg2.out; omega) x4)
    clear x4 HF1
    go_wp2_with fail
    refine (rmake_ok w4 q _ l (H.out.below HB4.out)).mono ?_
    rintro e w5 ⟨b5, hM⟩
    have HB5 := Lib.hid (bThen HB4.out b5)
    have HF5 := Lib.hid (HF4.out.below b5)
    clear b5 HF4
    rcases hM with ⟨_, hne⟩ | ⟨_, q2, vb2, vd2, vl2, vr2, vo2, bs2, rows2, E2, rfl, hq2, hR⟩
    · exact absurd (by rw [mk_fine HG.out]) hne
    have HR5 := Lib.hid hR
    have HQ := Lib.hid hq2
    clear hR hq2
    go_wp2
    go_ret3
    exact ⟨HB5.out, Or.inr ⟨p, q2, rfl, Nat.le_trans B2.out.size HP.out, Nat.le_trans HB4.out.size HQ.out, ⟨HG.out, _, _, _, _, _, _, _, _, _, _, _, _, _, _, _, _, HF5.out⟩, ⟨HG.out, _, _, _, _, _, _, _, _, HR5.out⟩⟩⟩
end Go.Proofs.Ytlhehphikkgobaa
