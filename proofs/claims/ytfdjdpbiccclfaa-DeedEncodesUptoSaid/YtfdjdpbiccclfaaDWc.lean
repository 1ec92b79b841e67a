/- The writer of deed: a claim. -/
import Derived.Test.YtfdjdpbiccclfaaDPlain
import Derived.Deep.CutBlock
import Derived.Deep.DeepCutAuto
namespace Go.Proofs.Ytfdjdpbiccclfaa
open Go Go.RowKit Go.Wr
set_option maxHeartbeats 4000000
set_option maxRecDepth 100000

theorem bx_tag (a : Value) (f : Nat → Tg) (b : Value) {k : Nat} (h : k < 42) : (bx a f b)[1 + k * 3]? = some (.int .i64 (f k).k) ∧ (bx a f b)[1 + k * 3 + 1]? = some (.int .i64 (f k).t) ∧ (bx a f b)[1 + k * 3 + 2]? = some (.int .i64 (f k).m) := by
  obtain ⟨h0, h1, h2⟩ := gc_get f h
  exact ⟨(bx_succ a f b (by omega)).trans h0, (by rw [show 1 + k * 3 + 1 = 1 + (k * 3 + 1) by omega]; exact (bx_succ a f b (by omega)).trans h1), (by rw [show 1 + k * 3 + 2 = 1 + (k * 3 + 2) by omega]; exact (bx_succ a f b (by omega)).trans h2)⟩

/-- A writer, and a block of its function's own that stays. -/
structure CW (B p q : Nat) (w : World) (T : TypeId) (C : Array Value) (bs : List Nat) (wr : World) : Prop where
  wt : Wt B p wr bs
  fr : Fr B p w wr
  blk : Blk wr q T C
theorem CW.next {B p q : Nat} {w wr w' : World} {T : TypeId} {C : Array Value} {bs bs' : List Nat} (h : CW B p q w T C bs wr) (hq : q ≠ p) (hT : T ≠ 5) (hw : Wt B p w' bs') (hf : Fr B p wr w') : CW B p q w T C bs' w' :=
  ⟨hw, h.fr.trans hf, hf.blk h.blk hq (Or.inr hT)⟩
theorem CW.size {B p q : Nat} {w wr : World} {T : TypeId} {C : Array Value} {bs : List Nat} (h : CW B p q w T C bs wr) (hB : B ≤ w.heap.size) : B ≤ wr.heap.size := Nat.le_trans hB h.fr.size
theorem CW.below {B p q : Nat} {w wr w' : World} {T : TypeId} {C : Array Value} {bs : List Nat} (h : CW B p q w T C bs wr) (b : Below wr.heap.size wr w') : CW B p q w T C bs w' :=
  ⟨h.wt.below b, h.fr.trans (Fr.of_below b), h.blk.below b h.blk.lt⟩

theorem wtag_eq (w : World) (B p : Nat) (l : List Nat) (h : Wt B p w l) (hB : B ≤ w.heap.size) (t : Tg) (ht : TgIn t) (slot : Bool) (hl : l.length ≤ 1099511627000) {a b c : Int} (ha : a = t.k) (hb : b = t.t) (hc : c = t.m) :
    Calls Try.prog 50 #[.pointer (some ⟨p, 0, none⟩), .agg #[.int .i64 a, .int .i64 b, .int .i64 c], .bool slot] w (WrP B p w (l ++ tagB t slot)) := by
  subst ha hb hc
  exact wtag_ok w B p l h hB t ht slot hl
theorem tz_of {t : Tg} (h0 : t.k = 0) (h1 : t.t = 0) (h2 : t.m = 0) : t = tz := by
  obtain ⟨a, b, c⟩ := t
  simp only at h0 h1 h2
  subst h0 h1 h2
  rfl

theorem wclaim_ok (w : World) (B p : Nat) (bs : List Nat) (h : Wt B p w bs) (hB : B ≤ w.heap.size) (d : Bool) (f : Nat → Tg) (v : Value) (l : List C3) (hv : SlC B w v l) (hf : ∀ k, k < 42 → TgIn (f k)) (hc : ∀ x ∈ l, ConIn x) (hll : l.length ≤ 3600) (hl : bs.length ≤ 1099511000000) :
    Calls Try.prog 32 #[.pointer (some ⟨p, 0, none⟩), .agg (bx (.bool d) f v)] w (WrP B p w (bs ++ claimB d f l)) := by
  have H := Lib.hid h
  have HV := Lib.hid hv
  have HF := Lib.hid hf
  have HC := Lib.hid hc
  have hpl := h.lt
  have hne : w.heap.size ≠ p := by omega
  clear h hv hf hc
  go_enter Try.func32, Try.ntmps32
  go_upto_region 1 with (fail)
  generalize hW : (w.alloc (.cells (bx (.bool d) f v) 61)) = W
  have CW0 : CW B p w.heap.size w 61 (bx (.bool d) f v) bs W := by
    rw [← hW]
    exact ⟨H.out.below (bAl (bRefl w) _), Fr.of_below (bAl (bRefl w) _), Blk.new _ _ _⟩
  have c0 := (CW0.blk.cell 0).trans (bx_zero _ _ _)
  have hBW := CW0.size hB
  have hQ := Lib.hid CW0
  clear hW CW0
  cases d with
  | true =>
    go_wp2_with fail
    refine (wbyte_ok _ B p _ hQ.out.wt hBW 0 (by omega) (by omega)).mono ?_
    rintro e w1 ⟨rfl, hw, hf⟩
    go_wp2
    refine bodyPost_ret (results_none rfl _ _ _) rfl ?_
    exact ⟨rfl, hw, hQ.out.fr.trans hf⟩
  | false =>
    go_wp2_with fail
    refine (wbyte_ok _ B p _ hQ.out.wt hBW 1 (by omega) (by omega)).mono ?_
    rintro e w1 ⟨rfl, hw, hf⟩
    have q1 := Lib.hid (hQ.out.next hne (by decide) hw hf)
    have hB1 := q1.out.size hB
    clear c0 hQ hw hf hBW
    go_wp2
    go_loopw [16] (fun t wr => ∃ k : Nat, k ≤ 10 ∧ t = .int .i64 k ∧ CW B p w.heap.size w 61 (bx (.bool false) f v) (bs ++ [1] ++ regB f k) wr) (fun t _ => 10 - (intOf t).toNat)
    case atStart => exact ⟨0, by omega, rfl, by simpa [regB] using q1.out⟩
    case round =>
      obtain ⟨k, hk, rfl, hcw⟩ := hrel
      by_cases hlt : k < 10
      · have hlt' : (k : Int) < 10 := by omega
        obtain ⟨b0, b1, b2⟩ := bx_tag (.bool false) f v (show k < 42 by omega)
        have c0 := (hcw.blk.cell (1 + k * 3)).trans b0
        have c1 := (hcw.blk.cell (1 + k * 3 + 1)).trans b1
        have c2 := (hcw.blk.cell (1 + k * 3 + 2)).trans b2
        have hql := hcw.blk.lt
        have hBr := hcw.size hB
        have hQ := Lib.hid hcw
        have hrl := regB_len f k
        clear b0 b1 b2 hcw q1 hB1
        go_wp2_with fail
        refine (wtag_ok wr B p _ hQ.out.wt hBr (f k) (HF.out k (by omega)) false (by simp; omega)).mono ?_
        rintro e w2 ⟨rfl, hw, hf⟩
        have hq2 := hQ.out.next hne (by decide) hw hf
        clear hw hf hQ c0 c1 c2
        go_wp2
        go_roundw
        case rel => exact ⟨k + 1, by omega, by go_num, by rw [regB_succ, ← List.append_assoc]; exact hq2⟩
        case measure => simp [intOf]; omega
      · obtain rfl : k = 10 := by omega
        have hQ := Lib.hid hcw
        have hB2 := hcw.size hB
        clear hcw q1 hB1 hlt hk
        obtain ⟨b1, hb1⟩ : ∃ b1, b1 = bs ++ [1] ++ regB f 10 := ⟨_, rfl⟩
        rw [← hb1] at hQ
        have hbl : b1.length ≤ bs.length + 21 := by rw [hb1]; have := regB_len f 10; simp; omega
        have HB1 := Lib.hid hb1
        clear hb1
        go_wp2
        go_loopw [26, 5] (fun t s w' => ∃ k : Nat, k ≤ 32 ∧ t = .int .i64 k ∧ s = .int .i64 (toldN f k) ∧ w' = wr) (fun t _ _ => 32 - (intOf t).toNat)
        case atStart => exact ⟨0, by omega, rfl, rfl, rfl⟩
        case round =>
          obtain ⟨k, hk, rfl, rfl, rfl⟩ := hrel
          have htl := toldN_le f k
          by_cases hlt : k < 32
          · have hlt' : (k : Int) < 32 := by omega
            obtain ⟨b0, b1, b2⟩ := bx_tag (.bool false) f v (show 10 + k < 42 by omega)
            have c0 := (hQ.out.blk.cell (1 + (10 + k) * 3)).trans b0
            have c1 := (hQ.out.blk.cell (1 + (10 + k) * 3 + 1)).trans b1
            have c2 := (hQ.out.blk.cell (1 + (10 + k) * 3 + 2)).trans b2
            rw [show 1 + (10 + k) * 3 = 31 + k * 3 by omega] at c0 c1 c2
            have hql := hQ.out.blk.lt
            have hs := toldN_succ f k
            clear b0 b1 b2
            by_cases he : f (10 + k) = tz
            · rw [he] at c0 c1 c2
              rw [if_pos he, Nat.add_zero] at hs
              simp only [tz] at c0 c1 c2
              clear he
              go_wp2
              go_roundw
              case rel => exact ⟨k + 1, by omega, by go_num, by rw [hs, Nat.add_zero], trivial⟩
              case measure => simp [intOf]; omega
            · rw [if_neg he] at hs
              have HE := Lib.hid he
              clear he
              go_wp2
              all_goals go_roundw
              all_goals first
                | (exact absurd (tz_of (by assumption) (by assumption) (by assumption)) HE.out)
                | exact ⟨k + 1, by omega, by go_num, by rw [hs]; go_num, trivial⟩
                | ((repeat apply Exists.intro); exact ⟨⟨k + 1, by omega, by go_num, by rw [hs]; go_num, trivial⟩, rfl⟩)
                | (simp [intOf]; omega)
          · obtain rfl : k = 32 := by omega
            have htl := toldN_le f 32
            clear hlt hk
            go_wp2_with fail
            refine (wnumber_ok wr B p b1 hQ.out.wt hB2 (toldN f 32) (by omega) (by omega)).mono ?_
            rintro e w2 ⟨rfl, hw, hf⟩
            have q2 := Lib.hid (hQ.out.next hne (by decide) hw hf)
            have hB3 := q2.out.size hB
            obtain ⟨b2, hb2⟩ : ∃ b2, b2 = b1 ++ leb 9 (toldN f 32) := ⟨_, rfl⟩
            have hbl2 : b2.length ≤ bs.length + 31 := by rw [hb2]; have := leb_len 9 (toldN f 32); simp; omega
            have HB2 := Lib.hid hb2
            rw [← hb2] at q2
            clear hw hf hQ hb2 htl hB2 hbl
            go_wp2
            go_loopw [42] (fun t wr => ∃ k : Nat, k ≤ 32 ∧ t = .int .i64 k ∧ CW B p w.heap.size w 61 (bx (.bool false) f v) (b2 ++ slotsB f k) wr) (fun t _ => 32 - (intOf t).toNat)
            case atStart => exact ⟨0, by omega, rfl, by simpa [slotsB] using q2.out⟩
            case round =>
              obtain ⟨k, hk, rfl, hcw⟩ := hrel
              by_cases hlt : k < 32
              · have hlt' : (k : Int) < 32 := by omega
                obtain ⟨b0, b1', b2'⟩ := bx_tag (.bool false) f v (show 10 + k < 42 by omega)
                have c0 := (hcw.blk.cell (1 + (10 + k) * 3)).trans b0
                have c1 := (hcw.blk.cell (1 + (10 + k) * 3 + 1)).trans b1'
                have c2 := (hcw.blk.cell (1 + (10 + k) * 3 + 2)).trans b2'
                rw [show 1 + (10 + k) * 3 = 31 + k * 3 by omega] at c0 c1 c2
                have hql := hcw.blk.lt
                have hBr := hcw.size hB
                have hQ := Lib.hid hcw
                have hs := slotsB_succ f k
                have hsl := slotsB_len f k
                clear b0 b1' b2' hcw q2 hB3
                by_cases he : f (10 + k) = tz
                · rw [he] at c0 c1 c2
                  have e : slotB f k = [] := by unfold slotB; rw [if_pos he]
                  rw [e, List.append_nil] at hs
                  simp only [tz] at c0 c1 c2
                  clear he e
                  go_wp2
                  go_roundw
                  case rel => exact ⟨k + 1, by omega, by go_num, by rw [hs]; exact hQ.out⟩
                  case measure => simp [intOf]; omega
                · have e : slotB f k = k :: tagB (f (10 + k)) true := by unfold slotB; rw [if_neg he]
                  rw [e] at hs
                  have HE := Lib.hid he
                  have HS := Lib.hid hs
                  clear he e hs
                  go_wp2_with fail
                  all_goals first
                    | (exact absurd (tz_of (by assumption) (by assumption) (by assumption)) HE.out)
                    | skip
                  all_goals
                    refine (wbyte_ok wr B p _ hQ.out.wt hBr k (by omega) (by simp; omega)).mono ?_
                    rintro e w3 ⟨rfl, hw, hf⟩
                    have hq3 := hQ.out.next hne (by decide) hw hf
                    have hB4 := hq3.size hB
                    obtain ⟨b0, b1', b2'⟩ := bx_tag (.bool false) f v (show 10 + k < 42 by omega)
                    have d0 := (hq3.blk.cell (1 + (10 + k) * 3)).trans b0
                    have d1 := (hq3.blk.cell (1 + (10 + k) * 3 + 1)).trans b1'
                    have d2 := (hq3.blk.cell (1 + (10 + k) * 3 + 2)).trans b2'
                    rw [show 1 + (10 + k) * 3 = 31 + k * 3 by omega] at d0 d1 d2
                    have hq3l := hq3.blk.lt
                    have hQ3 := Lib.hid hq3
                    clear b0 b1' b2' hw hf hQ c0 c1 c2 hBr hq3
                    go_wp2_with fail
                    refine (wtag_eq w3 B p _ hQ3.out.wt hB4 (f (10 + k)) (HF.out (10 + k) (by omega)) true (by simp; omega) (by omega) (by omega) (by omega)).mono ?_
                    rintro e w4 ⟨rfl, hw, hf⟩
                    have hq4 := hQ3.out.next hne (by decide) hw hf
                    have hq5 : CW B p w.heap.size w 61 (bx (.bool false) f v) (b2 ++ slotsB f (k + 1)) w4 := by
                      rw [HS.out]
                      simpa using hq4
                    clear hw hf hQ3 hq4 d0 d1 d2
                    go_wp2
                    go_roundw
                  all_goals first
                    | exact ⟨k + 1, by omega, by go_num, hq5⟩
                    | ((repeat apply Exists.intro); exact ⟨⟨k + 1, by omega, by go_num, hq5⟩, rfl⟩)
                    | (simp [intOf]; omega)
              · obtain rfl : k = 32 := by omega
                have hQ := Lib.hid hcw
                have hB4 := hcw.size hB
                obtain ⟨b3, hb3⟩ : ∃ b3, b3 = b2 ++ slotsB f 32 := ⟨_, rfl⟩
                have hbl3 : b3.length ≤ bs.length + 127 := by rw [hb3]; have := slotsB_len f 32; simp; omega
                have HB3 := Lib.hid hb3
                rw [← hb3] at hQ
                have cv := (hcw.blk.cell 127).trans (bx_last _ _ _)
                have hql := hcw.blk.lt
                obtain ⟨a0, cap, ev, hcell⟩ := HV.out
                subst ev
                have HCell := Lib.hid hcell
                have hpl1 := hpl.1
                clear hcw hb3 hcell q2 hB3 hlt hk
                go_wp2_with fail
                refine (wnumber_ok wr B p b3 hQ.out.wt hB4 l.length (by omega) (by omega)).mono ?_
                rintro e w5 ⟨rfl, hw, hf⟩
                have q5 := Lib.hid (hQ.out.next hne (by decide) hw hf)
                have hB5 := q5.out.size hB
                have c5 := (q5.out.blk.cell 127).trans (bx_last _ _ _)
                have hl5 := q5.out.blk.lt
                obtain ⟨b4, hb4⟩ : ∃ b4, b4 = b3 ++ leb 9 l.length := ⟨_, rfl⟩
                have hbl4 : b4.length ≤ bs.length + 137 := by rw [hb4]; have := leb_len 9 l.length; simp; omega
                have HB4 := Lib.hid hb4
                rw [← hb4] at q5
                clear hw hf hQ hb4 hB4 hbl3 cv hql
                go_wp2
                go_loopw [70] (fun t wr => ∃ k : Nat, k ≤ l.length ∧ t = .int .i64 k ∧ CW B p w.heap.size w 61 (bx (.bool false) f (.slice a0 l.length cap)) (b4 ++ consB l k) wr) (fun t _ => l.length - (intOf t).toNat)
                case atStart => exact ⟨0, by omega, rfl, by simpa [consB] using q5.out⟩
                case round =>
                  obtain ⟨k, hk, rfl, hcw⟩ := hrel
                  by_cases hlt : k < l.length
                  · have hlt' : (k : Int) < (l.length : Int) := by omega
                    obtain ⟨x, hx⟩ : ∃ x, l[k]? = some x := ⟨_, List.getElem?_eq_getElem hlt⟩
                    obtain ⟨bb, off, rfl, hbb, g0, g1, g2⟩ := HCell.out k x hx
                    have hbel : Below B w wr := hcw.fr.below hpl.2 hB
                    rw [← hbel.cell (p := ⟨bb, _, none⟩) hbb] at g0 g1 g2
                    have hxi := HC.out x (List.mem_of_getElem? hx)
                    have hql := hcw.blk.lt
                    have hBr := hcw.size hB
                    have hQ := Lib.hid hcw
                    have hs := consB_succ l hx
                    have hsl := consB_len l k
                    obtain ⟨xi, xj, xc⟩ := x
                    obtain ⟨⟨i0, i1⟩, ⟨j0, j1⟩, c0, c1⟩ := hxi
                    simp only at i0 i1 j0 j1 c0 c1 g0 g1 g2
                    obtain ⟨xi, rfl⟩ := Int.eq_ofNat_of_zero_le i0
                    obtain ⟨xj, rfl⟩ := Int.eq_ofNat_of_zero_le j0
                    have HS := Lib.hid hs
                    clear hcw q5 hB5 c5 hl5 hs hx hbel
                    go_wp2_with fail
                    have hne2 : wr.heap.size ≠ p := by have := hQ.out.wt.lt; omega
                    have X0 : CW B p wr.heap.size wr 63 #[.int .i64 (xi : Int), .int .i64 (xj : Int), .int .i64 xc] (b4 ++ consB l k) (wr.alloc (.cells #[.int .i64 (xi : Int), .int .i64 (xj : Int), .int .i64 xc] 63)) :=
                      ⟨hQ.out.wt.below (bAl (bRefl wr) _), Fr.of_below (bAl (bRefl wr) _), Blk.new _ _ _⟩
                    refine (wbyte_ok _ B p _ X0.wt (X0.size hBr) xi (by omega) (by simp; omega)).mono ?_
                    rintro e w6 ⟨rfl, hw, hf⟩
                    have X1 := X0.next hne2 (by decide) hw hf
                    have d1 := X1.blk.cell 1
                    have d2 := X1.blk.cell 2
                    have hB6 := X1.size hBr
                    have hx6 := X1.blk.lt
                    have HX1 := Lib.hid X1
                    clear hw hf X0 X1 g0 g1 g2
                    go_wp2_with fail
                    refine (wbyte_ok _ B p _ HX1.out.wt hB6 xj (by omega) (by simp; omega)).mono ?_
                    rintro e w7 ⟨rfl, hw, hf⟩
                    have X2 := HX1.out.next hne2 (by decide) hw hf
                    have d2 := X2.blk.cell 2
                    have hB7 := X2.size hBr
                    have hx7 := X2.blk.lt
                    have HX2 := Lib.hid X2
                    clear hw hf X2 HX1
                    go_wp2_with fail
                    refine (wsigned_ok _ B p _ HX2.out.wt hB7 xc ⟨by omega, by omega⟩ (by simp; omega)).mono ?_
                    rintro e w8 ⟨rfl, hw, hf⟩
                    have X3 := HX2.out.next hne2 (by decide) hw hf
                    have q9 : CW B p w.heap.size w 61 (bx (.bool false) f (.slice (some ⟨bb, off, none⟩) l.length cap)) (b4 ++ consB l (k + 1)) w8 := by
                      have h3 := hQ.out.next hne (by decide) X3.wt X3.fr
                      rw [HS.out]
                      simpa [conB] using h3
                    clear hw hf X3 HX2 hQ
                    go_wp2
                    go_roundw
                    case rel => first | exact ⟨k + 1, by omega, by go_num, q9⟩ | ((repeat apply Exists.intro); exact ⟨⟨k + 1, by omega, by go_num, q9⟩, rfl⟩)
                    case measure => simp [intOf]; omega
                  · obtain rfl : k = l.length := by omega
                    go_wp2
                    go_end0
                    refine ⟨rfl, ?_, hcw.fr⟩
                    have e : bs ++ claimB false f l = b4 ++ consB l l.length := by
                      rw [HB4.out, HB3.out, HB2.out, HB1.out]
                      simp [claimB]
                    rw [e]
                    exact hcw.wt
end Go.Proofs.Ytfdjdpbiccclfaa
