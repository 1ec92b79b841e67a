/- FlowFresh. DRAFT: not built. -/
import Derived.Test.YtpiiefdaaijgbaaHFreB
namespace Go.Proofs.Ytpiiefdaaijgbaa
open Go Go.RowKit Go.Wr Go.Fl
set_option maxHeartbeats 4000000
set_option maxRecDepth 100000

theorem flowfresh_ok (w : World) (q : Nat) (v : Value) (l : List In) (h : SlX tN q w v l) (hl : l.length ≤ 1099511627776) : Calls Try.prog 14 #[v] w fun e w' => e = .returned (.bool true) ∧ Below w.heap.size w w' := by
  obtain ⟨a0, cap, rfl, h1, h2⟩ := h.form
  have H := Lib.hid h
  unfold maxLen at h2
  clear h
  go_enter Try.func14, Try.ntmps14
  go_wp2_with fail
  refine (made_ok w q _ l H.out hl).mono ?_
  rintro e w1 ⟨b1, hM⟩
  have HB1 := Lib.hid b1
  clear b1
  rcases hM with rfl | ⟨p, q2, rfl, hp, hq, hF, hR⟩
  · go_wp2_with fail
    refine (known_ok _).mono ?_
    rintro e w2 ⟨rfl, b2⟩
    have HB2 := Lib.hid (bThen HB1.out b2)
    clear b2
    go_wp2
    go_ret
    exact ⟨rfl, HB2.out⟩
  · have HF1 := Lib.hid hF
    have HR1 := Lib.hid hR
    clear hp hq hF hR
    go_wp2_with fail
    refine (known_ok _).mono ?_
    rintro e w2 ⟨rfl, b2⟩
    have HB2 := Lib.hid (bThen HB1.out b2)
    have HF2 := Lib.hid (HF1.out.below b2)
    have HR2 := Lib.hid (HR1.out.below b2)
    clear b2 HF1 HR1
    go_upto_region 7 with (fail)
    have HL3 := Lib.hid (Led.new w2)
    have hb3 : Below w2.heap.size w2 (w2.alloc (.cells (lgC 0 (.slice none 0 0) (.slice none 0 0) (.slice none 0 0) (.slice none 0 0)) 68)) := bAl (bRefl w2) _
    have HF3 := Lib.hid (HF2.out.below hb3)
    have HR3 := Lib.hid (HR2.out.below hb3)
    have HB3 := Lib.hid (bThen HB2.out hb3)
    obtain ⟨W3, hW3⟩ : ∃ x, x = w2.alloc (.cells (lgC 0 (.slice none 0 0) (.slice none 0 0) (.slice none 0 0) (.slice none 0 0)) 68) := ⟨_, rfl⟩
    rw [← hW3] at HL3 HF3 HR3 HB3
    have HFs := Lib.hid (show Fs w2 (nB l) (heads l).length w2.heap.size 0 0 0 (fun b => b = w2.heap.size) ⟨none, 0, 0⟩ ⟨none, 0, 0⟩ [] [] W3 from ⟨by rw [hW3]; exact hb3, HL3.out, fun b hb => by have hb' : b = w2.heap.size := hb; omega, fun b hb => by have hb' : b = w2.heap.size := hb; rw [hW3]; simp; omega, OwR.nil _ _, fun g hg => (by cases hg), fun m s hm => by simp at hm, rfl, OwR.nil _ _, fun g hg => (by cases hg), fun m s hm => by simp at hm, rfl⟩)
    have hW3' : w2.alloc (.cells #[.int .i64 0, .slice none 0 0, .slice none 0 0, .slice none 0 0, .slice none 0 0, .bool false] 68) = W3 := hW3.symm
    rw [hW3']
    clear hb3 hW3 hW3' HL3 HF3 HR3
    obtain ⟨pl, hpl⟩ : ∃ x, x = w2.heap.size := ⟨_, rfl⟩
    rw [← hpl]
    rw [← hpl] at HFs
    have HPl := Lib.hid hpl
    clear hpl
    go_wp2
    go_loopw [7, 8, 9] (fun tk tl t wr => ∃ (k n : Nat) (U : Nat → Prop) (ka : Option Addr) (kn kc : Nat) (la : Option Addr) (ln lc : Nat) (ks ls : List Sv), k ≤ 4 ∧ n ≤ k * 8388608 ∧ tk = .slice ka kn kc ∧ tl = .slice la ln lc ∧ t = .int .i64 (k : Int) ∧ Hid (Fs w2 (nB l) (heads l).length pl k k n U ⟨ka, kn, kc⟩ ⟨la, ln, lc⟩ ks ls wr)) (fun _ _ t _ => 4 - (intOf t).toNat)
    case atStart => exact ⟨0, 0, _, none, 0, 0, none, 0, 0, [], [], by omega, by omega, rfl, rfl, rfl, HFs.out⟩
    case round =>
      clear HFs
      obtain ⟨k, n, U, ka, kn, kc, la, ln, lc, ks, ls, hk, hn, rfl, rfl, rfl, hS⟩ := hrel
      by_cases hkt : k < 4
      · have hk0 : (0 : Int) ≤ (k : Int) := by omega
        go_wp2_with fail
        refine ((HF2.out.below hS.out.bel).blocksO).mono ?_
        rintro e w4 ⟨b4, vb, rb, rfl, ob, rbo, rba, bd⟩
        obtain ⟨ba, bn, bc, rfl⟩ : ∃ a n c, vb = .slice a n c := by
          rcases ob.form with ⟨e, _⟩ | ⟨g, c, e, _⟩
          · exact ⟨_, _, _, e⟩
          · exact ⟨_, _, _, e⟩
        have HS4 := Lib.hid (hS.out.below b4)
        have HB4 := Lib.hid (And.intro ob (And.intro rbo (And.intro rba bd)))
        have hz4 := b4.size
        have HKB := Lib.hid (fun i hi g hg => ⟨((rbo i hi).blk hg).1, (rbo i hi).lt hg⟩ : ∀ i, i < nB l → ∀ g, (rb i).v.ownBlock = some g → wr.heap.size ≤ g ∧ g < w4.heap.size)
        clear b4 ob rbo rba bd
        go_wp2_with fail
        refine ((HF2.out.below HS4.out.bel).loopsO).mono ?_
        rintro e w5 ⟨b5, vo, ro, rfl, oo, roo, roa, ld⟩
        obtain ⟨oa, on, oc, rfl⟩ : ∃ a n c, vo = .slice a n c := by
          rcases oo.form with ⟨e, _⟩ | ⟨g, c, e, _⟩
          · exact ⟨_, _, _, e⟩
          · exact ⟨_, _, _, e⟩
        have HS5 := Lib.hid (HS4.out.below b5)
        have HB5 := Lib.hid (show OwR tK wr.heap.size w5 (.slice ba bn bc) (bkI (nB l) (frF l) (twF l) rb) ∧ (∀ i, i < nB l → OwR tI wr.heap.size w5 (rb i).v (nI (nxt l i))) ∧ (∀ i j, i < j → j < nB l → ∀ q, (rb i).v.ownBlock = some q → (rb j).v.ownBlock ≠ some q) ∧ Bd p w5 (.slice ba bn bc) (dB l) from ⟨HB4.out.1.below b5, fun i hi => (HB4.out.2.1 i hi).below b5, HB4.out.2.2.1, HB4.out.2.2.2.below b5⟩)
        have HO5 := Lib.hid (And.intro oo (And.intro roo (And.intro roa ld)))
        have hz5 := b5.size
        have HKO := Lib.hid (fun i hi g hg => ⟨((roo i hi).blk hg).1, (roo i hi).lt hg⟩ : ∀ i, i < (heads l).length → ∀ g, (ro i).v.ownBlock = some g → w4.heap.size ≤ g ∧ g < w5.heap.size)
        clear b5 oo roo roa ld HS4 HB4
        go_wp2_with fail
        refine ((HF2.out.below HS5.out.bel).orderO).mono ?_
        rintro e w6 ⟨b6, vr, rfl, or6, hp6⟩
        obtain ⟨ra, rn, rc, rfl⟩ : ∃ a n c, vr = .slice a n c := by
          rcases or6.form with ⟨e, _⟩ | ⟨g, c, e, _⟩
          · exact ⟨_, _, _, e⟩
          · exact ⟨_, _, _, e⟩
        have HS6 := Lib.hid (HS5.out.below b6)
        have HB6 := Lib.hid (show OwR tK wr.heap.size w6 (.slice ba bn bc) (bkI (nB l) (frF l) (twF l) rb) ∧ (∀ i, i < nB l → OwR tI wr.heap.size w6 (rb i).v (nI (nxt l i))) ∧ (∀ i j, i < j → j < nB l → ∀ q, (rb i).v.ownBlock = some q → (rb j).v.ownBlock ≠ some q) ∧ Bd p w6 (.slice ba bn bc) (dB l) from ⟨HB5.out.1.below b6, fun i hi => (HB5.out.2.1 i hi).below b6, HB5.out.2.2.1, HB5.out.2.2.2.below b6⟩)
        have HO6 := Lib.hid (And.intro (HO5.out.1.below b6) (And.intro (fun i hi => (HO5.out.2.1 i hi).below b6 : ∀ i, i < (heads l).length → _) (And.intro HO5.out.2.2.1 (HO5.out.2.2.2.below b6))))
        have HR6 := Lib.hid or6
        have hz6 := b6.size
        have HKR := Lib.hid (fun g hg => (or6.blk hg).1 : ∀ g, (Value.slice ra rn rc).ownBlock = some g → w5.heap.size ≤ g)
        clear b6 or6 HS5 HB5 HO5
        obtain ⟨vgb, vgd, vgl, vgr, vgo, hgq, hgb, hgl, hgr⟩ := HR2.out.get
        have cq0 : w6.cell? ⟨q2, 0, none⟩ = some vgb := (hgq.of_block (HS6.out.bel.block q2 hgq.lt)).cell 0
        have cq2 : w6.cell? ⟨q2, 2, none⟩ = some vgl := (hgq.of_block (HS6.out.bel.block q2 hgq.lt)).cell 2
        have cq3 : w6.cell? ⟨q2, 3, none⟩ = some vgr := (hgq.of_block (HS6.out.bel.block q2 hgq.lt)).cell 3
        have HGQ := Lib.hid hgq
        have HGB := Lib.hid hgb
        have HGL := Lib.hid hgl
        have HGR := Lib.hid hgr
        have hg := HF2.out.1
        have hle1 := dB_len l
        have hle2 := dL_len l
        have hn1 := hg.n512
        have hn2 := hg.hd8
        have HLE := Lib.hid (show (dB l).length ≤ 1048576 ∧ (dL l).length ≤ 1048576 from ⟨by omega, by omega⟩)
        clear hgq hgb hgl hgr hg hle1 hle2 hn1 hn2
        go_upto_region 13 with (fail)
        go_wp2_with fail
        refine (sameBlocks_ok w6 p q2 (.slice ba bn bc) vgb (dB l) HB6.out.2.2.2 (HGB.out.below HS6.out.bel) HLE.out.1).mono ?_
        rintro e w7 ⟨rfl, b7⟩
        have HS7 := Lib.hid (HS6.out.below b7)
        have HT7 := Lib.hid ((show Fr3 l p wr.heap.size U (.slice ba bn bc) (.slice oa on oc) (.slice ra rn rc) rb ro w6 from ⟨HB6.out.1, HB6.out.2.1, HB6.out.2.2.1, HB6.out.2.2.2, HO6.out.1.mono (by omega), fun i hi => (HO6.out.2.1 i hi).mono (by omega), HO6.out.2.2.1, HO6.out.2.2.2, HR6.out.mono (by omega)⟩).below b7)
        have dq2 : w7.cell? ⟨q2, 2, none⟩ = some vgl := (b7.cell (World.block_lt_of_cell? _ _ cq2)).trans cq2
        have dq3 : w7.cell? ⟨q2, 3, none⟩ = some vgr := (b7.cell (World.block_lt_of_cell? _ _ cq3)).trans cq3
        have hz7 := b7.size
        clear cq0 cq2 cq3 b7 HS6 HB6 HO6 HR6
        go_wp2_with fail
        refine (sameLoops_ok w7 p q2 (.slice oa on oc) vgl (dL l) HT7.out.od (HGL.out.below HS7.out.bel) HLE.out.2).mono ?_
        rintro e w8 ⟨rfl, b8⟩
        have HS8 := Lib.hid (HS7.out.below b8)
        have HT8 := Lib.hid (HT7.out.below b8)
        have eq3 : w8.cell? ⟨q2, 3, none⟩ = some vgr := (b8.cell (World.block_lt_of_cell? _ _ dq3)).trans dq3
        have hz8 := b8.size
        clear dq2 dq3 b8 HS7 HT7
        go_wp2_with fail
        refine (lawSameInts_ok w8 p q2 (.slice ra rn rc) vgr _ _ (HT8.out.r.sl (ne_low HT8.out.r (Nat.lt_of_lt_of_le HF2.out.lt hS.out.bel.size))) (HGR.out.below HS8.out.bel)).mono ?_
        rintro e w9 ⟨rfl, b9⟩
        rw [decide_eq_true rfl]
        have HS9 := Lib.hid (HS8.out.below b9)
        have HT9 := Lib.hid (HT8.out.below b9)
        have hz9 := b9.size
        clear eq3 b9 HS8 HT8
        go_wp2_with fail
        have hnU : ∀ g, (Sv.v ⟨ra, rn, rc⟩).ownBlock = some g → ¬ U g := fun g hg hu => by
          have h1 := hS.out.dn g hu
          have h2 : wr.heap.size ≤ g := (HT9.out.r.blk hg).1
          omega
        refine (own_ok w9 U pl n HS9.out.led (by omega) ra rn rc _ (HT9.out.r.mono (Nat.zero_le _)) (by have h1 : rn = _ := own_n (s := ⟨ra, rn, rc⟩) HT9.out.r; rw [nI_len, List.length_reverse, HF2.out.1.len] at h1; have h2 := HF2.out.1.n512; omega) hnU).mono ?_
        rintro e w10 ⟨rfl, fu10, led10⟩
        have HS10 := Lib.hid (HS9.out.own (v := Sv.v ⟨ra, rn, rc⟩) (HT9.out.r.mono hS.out.bel.size) fu10 led10)
        have HT10 := Lib.hid ((show Fr4 (nB l) (heads l).length wr.heap.size 0 0 U (.slice ba bn bc) (.slice oa on oc) _ _ rb ro w9 from ⟨HT9.out.b, fun g hg hu => by have h1 := hS.out.dn g hu; have h2 := (HT9.out.b.blk hg).1; omega, fun k _ hk => ⟨_, (by rw [nI_len]; have := nxt_two l k; omega), HT9.out.br k hk, fun g hg hu => by have h1 := hS.out.dn g hu; have h2 := (HKB.out k hk g hg).1; omega⟩,
          HT9.out.o, fun g hg hu => by have h1 := hS.out.dn g hu; have h2 := (HT9.out.o.blk hg).1; omega, fun k _ hk => ⟨_, (by rw [nI_len]; unfold ins; refine Nat.le_trans (List.length_filter_le _ _) ?_; rw [List.length_range]; have := HF2.out.1.n512; omega), HT9.out.orr k hk, fun g hg hu => by have h1 := hS.out.dn g hu; have h2 := (HKO.out k hk g hg).1; omega⟩⟩).own (i' := 0) (j' := 0) HT9.out.r (Nat.le_refl _) (Nat.le_refl _)
          (fun k _ hk g hg e => by have h1 := (HKB.out k hk g hg).2; have h2 := HKR.out g e; omega) (fun k _ hk g hg e => by have h1 := (HKO.out k hk g hg).2; have h2 := HKR.out g e; omega) fu10)
        obtain ⟨U1, hU1⟩ : ∃ X : Nat → Prop, X = fun b => U b ∨ (Sv.v ⟨ra, rn, rc⟩).ownBlock = some b ∨ (w9.heap.size ≤ b ∧ b < w10.heap.size) := ⟨_, rfl⟩
        rw [← hU1] at HS10
        have HT10' : Hid (Fr4 (nB l) (heads l).length wr.heap.size 0 0 U1 (.slice ba bn bc) (.slice oa on oc) (bkI (nB l) (frF l) (twF l) rb) (arI (heads l).length (fun i => (((heads l).getD i 0 : Nat) : Int)) (fun i => parK l i (heads l).length) ro) rb ro w10) := by rw [hU1]; exact HT10.out
        have HAP := Lib.hid (And.intro HT9.out.ba (And.intro HT9.out.oa (fun i j hi hj q h1 h2 => by have k1 := (HKB.out i hi q h1).2; have k2 := (HKO.out j hj q h2).1; omega : ∀ i j, i < nB l → j < (heads l).length → ∀ q, (rb i).v.ownBlock = some q → (ro j).v.ownBlock ≠ some q)))
        clear HT10 hU1 fu10 led10 HS9 HT9 HKB HKO HKR hz4 hz5 hz6 hz7 hz8 hz9 hnU HLE
        obtain ⟨BB, hBB⟩ : ∃ x, x = wr.heap.size := ⟨_, rfl⟩
        obtain ⟨HD, hHD⟩ : ∃ f : Nat → Int, f = fun i => (((heads l).getD i 0 : Nat) : Int) := ⟨_, rfl⟩
        obtain ⟨PA, hPA⟩ : ∃ f : Nat → Int, f = fun i => parK l i (heads l).length := ⟨_, rfl⟩
        rw [← hBB, ← bsI_zero l k rb, ← hHD, ← hPA, ← osI_zero (heads l).length HD PA k ro] at HT10'
        clear hHD hPA
        have HKS := Lib.hid (show Ap BB (nB l) (heads l).length ks ls rb ro from ⟨HAP.out.1, HAP.out.2.1, HAP.out.2.2, by rw [hBB]; exact fun m s hm g hg => (hS.out.kr m s hm).1.lt hg, by rw [hBB]; exact fun m s hm g hg => (hS.out.lr m s hm).1.lt hg⟩)
        have HKL := Lib.hid (show (∀ g, (Sv.v ⟨ka, kn, kc⟩).ownBlock = some g → g < BB) ∧ ∀ g, (Sv.v ⟨la, ln, lc⟩).ownBlock = some g → g < BB from by rw [hBB]; exact ⟨fun g hg => hS.out.ko.lt hg, fun g hg => hS.out.lo.lt hg⟩)
        clear HAP
        have hB2 : w2.heap.size ≤ BB := by rw [hBB]; exact hS.out.bel.size
        have hHS : Hid (Fs w2 (nB l) (heads l).length pl k k (n + 1) U1 ⟨ka, kn, kc⟩ ⟨la, ln, lc⟩ ks ls w10) := HS10
        have hbn : bn = nB l := by have h1 := own_n (s := ⟨ba, bn, bc⟩) HT10'.out.b; rw [bsI_len] at h1; exact h1
        subst hbn
        obtain ⟨hbw1, hbw2⟩ := own_wf HT10'.out.b
        clear hBB hS HS10
        go_wp2
        go_loopw [13] (fun t wr' => ∃ (i n' : Nat) (U' : Nat → Prop), i ≤ nB l ∧ t = .int .i64 (i : Int) ∧ n' ≤ n + 1 + i ∧ Hid (Fs w2 (nB l) (heads l).length pl k k n' U' ⟨ka, kn, kc⟩ ⟨la, ln, lc⟩ ks ls wr' ∧ Fr4 (nB l) (heads l).length BB i 0 U' (.slice ba (nB l) bc) (.slice oa on oc) (bsI l k i rb) (osI (heads l).length HD PA k 0 ro) rb ro wr')) (fun t _ => nB l - (intOf t).toNat)
        case atStart => exact ⟨0, n + 1, U1, by omega, rfl, by omega, hHS.out, HT10'.out⟩
        case round =>
          clear hHS HT10'
          obtain ⟨i, n', U', hi, rfl, hn', hT⟩ := hrel
          obtain ⟨wi, rfl⟩ : ∃ x : World, x = wr := ⟨_, rfl⟩
          by_cases hit : i < nB l
          · have hit' : (i : Int) < (nB l : Int) := by omega
            have hn5 := HF2.out.1.n512
            obtain ⟨gb, rfl⟩ : ∃ g, ba = some ⟨g, 0, none⟩ := by
              rcases hT.out.2.b.form with ⟨_, e⟩ | ⟨g, c, e, _⟩
              · have h1 := bsI_len l k i rb; rw [e] at h1; simp at h1; omega
              · injection e with e1; exact ⟨g, e1⟩
            obtain ⟨⟨xa, xn, xc⟩, hx⟩ : ∃ s, s = rb i := ⟨_, rfl⟩
            have hat := hT.out.2.b.at (bsI_get (k := k) (i := i) (rb := rb) hit)
            rw [if_neg (by omega), ← hx] at hat
            have c0 : wi.cell? ⟨gb, i * 3 + 2, none⟩ = some (.slice xa xn xc) := by have := hat.cell 2 _ rfl; rw [Nat.zero_add] at this; exact this
            clear hat
            by_cases h12 : i < 12
            · have h12' : (i : Int) < 12 := by omega
              obtain ⟨m, hm, hox, hxu⟩ := hT.out.2.br i (Nat.le_refl _) hit
              rw [← hx] at hox hxu
              have HX := Lib.hid (And.intro hx (And.intro hm (And.intro hox (And.intro hxu (show xn = m.length from own_n (s := ⟨xa, xn, xc⟩) hox)))))
              clear hx hm hox hxu
              go_upto_region 18 with (fail)
              go_wp2_with fail
              obtain ⟨hx, hm, hox, hxu, hxn⟩ := HX.out
              refine (own_ok wi U' pl n' hT.out.1.led (by omega) xa xn xc _ (hox.mono (Nat.zero_le _)) (by omega) hxu).mono ?_
              rintro e w11 ⟨rfl, fu11, led11⟩
              have hS11 := hT.out.1.own (v := Sv.v ⟨xa, xn, xc⟩) (hox.mono hB2) fu11 led11
              have hT11 := hT.out.2.own (i' := i + 1) (j' := 0) hox (by omega) (Nat.le_refl _) (fun k' hk' hn' g hg e => HKS.out.bb i k' (by omega) hn' g (by rw [← hx]; exact e) hg) (fun k' _ hn' g hg e => HKS.out.bo i k' hit hn' g (by rw [← hx]; exact e) hg) fu11
              obtain ⟨U2, hU2⟩ : ∃ X : Nat → Prop, X = fun b => U' b ∨ (Sv.v ⟨xa, xn, xc⟩).ownBlock = some b ∨ (wi.heap.size ≤ b ∧ b < w11.heap.size) := ⟨_, rfl⟩
              rw [← hU2] at hS11 hT11
              have HS11 := Lib.hid hS11
              have HT11 := Lib.hid hT11
              clear hU2 fu11 led11 hS11 hT11 hox hxu hm hxn hx HX c0 hT
              go_upto_region 20 with (fail)
              go_upto_region 17 with (refine wpl_put tK rfl (.tmp 100) (.tmp 99) rfl BB gb (nB l) bc (bsI l k i rb) HT11.out.b i (by rw [bsI_len]; exact hit) _ rfl rfl ⟨-1000 * (k : Int) - (i : Int), 0, ⟨none, 0, 0⟩⟩ rfl rowK ?_; intro w6 ho6 hg6)
              rw [bsI_set hit] at hg6
              have h16 := st_b HS11.out HT11.out HKS.out hB2 ho6 rfl hg6
              go_wp2
              go_round
              case rel => exact ⟨i + 1, n' + 1, U2, by omega, by go_num, by omega, h16.1, h16.2⟩
              case measure => simp [intOf]; omega
            · have h12' : ¬ (i : Int) < 12 := by omega
              go_upto_region 20 with (fail)
              go_upto_region 17 with (refine wpl_put tK rfl (.tmp 100) (.tmp 99) rfl BB gb (nB l) bc (bsI l k i rb) hT.out.2.b i (by rw [bsI_len]; exact hit) _ rfl rfl ⟨-1000 * (k : Int) - (i : Int), 0, ⟨none, 0, 0⟩⟩ rfl rowK ?_; intro w6 ho6 hg6)
              rw [bsI_set hit] at hg6
              have h16 := st_b hT.out.1 hT.out.2 HKS.out hB2 ho6 rfl hg6
              go_wp2
              go_round
              case rel => exact ⟨i + 1, n', U', by omega, by go_num, by omega, h16.1, ⟨h16.2.b, h16.2.bn, fun k hk => h16.2.br k (by omega), h16.2.o, h16.2.on, h16.2.orr⟩⟩
              case measure => simp [intOf]; omega
          · have hie : i = nB l := by omega
            subst hie
            have HS20 := Lib.hid hT.out.1
            have HT20 := Lib.hid hT.out.2
            have hnb := hn'
            obtain ⟨V, rfl⟩ : ∃ V : World, V = wr := ⟨_, rfl⟩
            have hon : on = (heads l).length := by have h1 : on = _ := own_n (s := ⟨oa, on, oc⟩) HT20.out.o; rw [osI_len] at h1; exact h1
            subst hon
            obtain ⟨how1, how2⟩ := own_wf HT20.out.o
            clear hT hit hi hn'
            go_wp2
            go_loopw [14] (fun t wr => ∃ (i n'' : Nat) (U'' : Nat → Prop), i ≤ (heads l).length ∧ t = .int .i64 (i : Int) ∧ n'' ≤ n' + i ∧ Hid (Fs w2 (nB l) (heads l).length pl k k n'' U'' ⟨ka, kn, kc⟩ ⟨la, ln, lc⟩ ks ls wr ∧ Fr4 (nB l) (heads l).length BB (nB l) i U'' (.slice ba (nB l) bc) (.slice oa (heads l).length oc) (bsI l k (nB l) rb) (osI (heads l).length HD PA k i ro) rb ro wr)) (fun t _ => (heads l).length - (intOf t).toNat)
            case atStart => exact ⟨0, n', U', by omega, rfl, by omega, HS20.out, HT20.out⟩
            case round =>
              clear HS20 HT20
              obtain ⟨i, n'', U'', hi, rfl, hn'', hT⟩ := hrel
              obtain ⟨wi, rfl⟩ : ∃ x : World, x = wr := ⟨_, rfl⟩
              have hh8 := HF2.out.1.hd8
              have hn5 := HF2.out.1.n512
              by_cases hit : i < (heads l).length
              · have hit' : (i : Int) < ((heads l).length : Int) := by omega
                obtain ⟨gb, rfl⟩ : ∃ g, oa = some ⟨g, 0, none⟩ := by
                  rcases hT.out.2.o.form with ⟨_, e⟩ | ⟨g, c, e, _⟩
                  · have h1 := osI_len (heads l).length HD PA k i ro; rw [e] at h1; simp at h1; omega
                  · injection e with e1; exact ⟨g, e1⟩
                obtain ⟨⟨xa, xn, xc⟩, hx⟩ : ∃ s, s = ro i := ⟨_, rfl⟩
                have hat := hT.out.2.o.at (osI_get (hd := HD) (pa := PA) (k := k) (i := i) (ro := ro) hit)
                rw [if_neg (by omega), ← hx] at hat
                have c0 : wi.cell? ⟨gb, i * 3 + 1, none⟩ = some (.slice xa xn xc) := by have := hat.cell 1 _ rfl; rw [Nat.zero_add] at this; exact this
                clear hat
                obtain ⟨m, hm, hox, hxu⟩ := hT.out.2.orr i (Nat.le_refl _) hit
                rw [← hx] at hox hxu
                have HX := Lib.hid (And.intro hx (And.intro hm (And.intro hox (And.intro hxu (show xn = m.length from own_n (s := ⟨xa, xn, xc⟩) hox)))))
                clear hx hm hox hxu
                go_wp2_with fail
                obtain ⟨hx, hm, hox, hxu, hxn⟩ := HX.out
                refine (own_ok wi U'' pl n'' hT.out.1.led (by omega) xa xn xc _ (hox.mono (Nat.zero_le _)) (by omega) hxu).mono ?_
                rintro e w11 ⟨rfl, fu11, led11⟩
                have hS11 := hT.out.1.own (v := Sv.v ⟨xa, xn, xc⟩) (hox.mono hB2) fu11 led11
                have hT11 := hT.out.2.own (i' := nB l) (j' := i + 1) hox (Nat.le_refl _) (by omega) (fun k' hk' hn' g hg e => absurd hn' (by omega)) (fun k' hk' hn' g hg e => HKS.out.oo i k' (by omega) hn' g (by rw [← hx]; exact e) hg) fu11
                obtain ⟨U2, hU2⟩ : ∃ X : Nat → Prop, X = fun b => U'' b ∨ (Sv.v ⟨xa, xn, xc⟩).ownBlock = some b ∨ (wi.heap.size ≤ b ∧ b < w11.heap.size) := ⟨_, rfl⟩
                rw [← hU2] at hS11 hT11
                have HS11 := Lib.hid hS11
                have HT11 := Lib.hid hT11
                clear hU2 fu11 led11 hS11 hT11 hox hxu hm hxn hx HX c0 hT
                go_upto_region 26 with (fail)
                go_upto_region 23 with (refine wpl_put tA rfl (.tmp 122) (.tmp 121) rfl BB gb (heads l).length oc (osI (heads l).length HD PA k i ro) HT11.out.o i (by rw [osI_len]; exact hit) _ rfl rfl ⟨-1000 * (k : Int) - (i : Int), ⟨none, 0, 0⟩, 0⟩ rfl rowA ?_; intro w6 ho6 hg6)
                rw [osI_set hit] at hg6
                have h16 := st_o HS11.out HT11.out HKS.out hB2 ho6 rfl hg6
                go_wp2
                go_round
                case rel => exact ⟨i + 1, n'' + 1, U2, by omega, by go_num, by omega, h16.1, h16.2⟩
                case measure => simp [intOf]; omega
              · have hie : i = (heads l).length := by omega
                subst hie
                have HS21 := Lib.hid hT.out.1
                have HT21 := Lib.hid hT.out.2
                obtain ⟨V, rfl⟩ : ∃ V : World, V = wi := ⟨_, rfl⟩
                clear hT hit hi
                have hBV : BB ≤ V.heap.size := by
                  rcases HT21.out.b.form with ⟨_, h⟩ | ⟨g, c, e, _, _, h3⟩
                  · have h1 := bsI_len l k (nB l) rb
                    rw [h] at h1
                    have h2 := HF2.out.1.pos
                    simp at h1
                    omega
                  · have := HT21.out.b.lt (g := g) (by rw [e]; rfl)
                    omega
                have hk3 : (k : Int) ≤ 3 := by omega
                go_upto_region 28 with (first
                  | (at_builtin; refine wpl_pushL tK rfl (.tmp 124) (.tmp 128) rfl BB (.slice ba (nB l) bc) (bsI l k (nB l) rb) rfl (HT21.out.b.alloc _) _ 0 1 1 [⟨-7 - (k : Int), 0, ⟨none, 0, 0⟩⟩] rfl rfl (Nat.succ_pos _) (rangeNew (by rfl) (by rfl)) (by rw [bsI_len]; unfold maxLen; simp; omega) (by rw [bsI_len]; show _ * 40 ≤ _; simp; omega) (by simp; omega) ?_
                     intro g7 c7 w7 ho7 hg7 hl7
                     rw [bsI_all, bsI_len] at ho7
                     rw [bsI_len]
                     have h7 := HS21.out.ap_b HT21.out HKS.out hB2 hg7 hl7
                     have HS7 := Lib.hid h7.1
                     have HT7 := Lib.hid (And.intro h7.2 ho7)
                     have hz7 : V.heap.size ≤ w7.heap.size := by have := hg7.size; simp at this; omega
                     clear h7 ho7 hg7 hl7)
                  | (at_builtin; refine wpl_pushL tKK rfl (.tmp 123) (.tmp 130) rfl w2.heap.size (.slice ka kn kc) ks rfl (HS7.out.ko.alloc _) _ 0 1 1 [⟨some ⟨g7, 0, none⟩, nB l + 1, c7⟩] rfl rfl (Nat.succ_pos _) (rangeNew (by rfl) (by rfl)) (by have := HS7.out.kn; unfold maxLen; simp; omega) (by have := HS7.out.kn; show _ * 24 ≤ _; simp; omega) (by have := HS7.out.bel.size; simp; omega) ?_
                     intro g8 c8 w8 ho8 hg8 hl8
                     have h8 := HS7.out.ap_k (s := ⟨some ⟨g7, 0, none⟩, nB l + 1, c7⟩) (HT7.out.2.mono hB2) (fun q hq => by injection hq with hq; have hq : g7 = q := hq; subst hq; exact HT7.out.1.1) HT7.out.1.2.1 ho8 hg8 hl8
                     have HS8 := Lib.hid h8.1
                     have HT8 := Lib.hid (And.intro h8.2 HT7.out.1.2.2)
                     have hz8 : V.heap.size ≤ w8.heap.size := by have := hg8.size; simp at this; omega
                     clear h8 ho8 hg8 hl8 HS7 HT7))
                have hks := HS8.out.kn
                have HKN := Lib.hid hks
                clear hks HS21 HT21
                go_upto_region 11 with (first
                  | (at_builtin; refine wpl_pushL tA rfl (.tmp 133) (.tmp 137) rfl BB (.slice oa (heads l).length oc) (osI (heads l).length HD PA k (heads l).length ro) rfl (HT8.out.1.alloc _) _ 0 1 1 [⟨-7 - (k : Int), ⟨none, 0, 0⟩, 0⟩] rfl rfl (Nat.succ_pos _) (rangeNew (by rfl) (by rfl)) (by rw [osI_len]; unfold maxLen; simp; omega) (by rw [osI_len]; show _ * 40 ≤ _; simp; omega) (by simp; omega) ?_
                     intro g9 c9 w9 ho9 hg9 hl9
                     rw [osI_all, osI_len] at ho9
                     rw [osI_len]
                     have h9 := HS8.out.ap_o HT8.out.1 HT8.out.2 HKS.out.ls hB2 hg9 hl9
                     have HS9 := Lib.hid h9.1
                     have HT9 := Lib.hid (And.intro h9.2 ho9)
                     have hz9 : w8.heap.size ≤ w9.heap.size := by have := hg9.size; simp at this; omega
                     clear h9 ho9 hg9 hl9)
                  | (at_builtin; refine wpl_pushL tAA rfl (.tmp 132) (.tmp 139) rfl w2.heap.size (.slice la ln lc) ls rfl (HS9.out.lo.alloc _) _ 0 1 1 [⟨some ⟨g9, 0, none⟩, (heads l).length + 1, c9⟩] rfl rfl (Nat.succ_pos _) (rangeNew (by rfl) (by rfl)) (by have := HS9.out.ln; unfold maxLen; simp; omega) (by have := HS9.out.ln; show _ * 24 ≤ _; simp; omega) (by have := HS9.out.bel.size; simp; omega) ?_
                     intro ga ca wa hoa hga hla
                     have ha := HS9.out.ap_l (s := ⟨some ⟨g9, 0, none⟩, (heads l).length + 1, c9⟩) (HT9.out.2.mono hB2) (fun q hq => by injection hq with hq; have hq : g9 = q := hq; subst hq; exact HT9.out.1) hoa hga hla
                     have HSa := Lib.hid ha
                     clear ha hoa hga hla HS9 HT9))
                go_wp2
                go_round
                case rel => exact ⟨k + 1, n'', U'', _, _, _, _, _, _, _, _, by omega, by omega, rfl, rfl, by go_num, HSa.out⟩
                case measure => simp [intOf]; omega
      · have hk4 : k = 4 := by omega
        subst hk4
        have hkn : kn = 4 := by have h1 : kn = _ := own_n (s := ⟨ka, kn, kc⟩) hS.out.ko; rw [hS.out.kn] at h1; exact h1
        have hln : ln = 4 := by have h1 : ln = _ := own_n (s := ⟨la, ln, lc⟩) hS.out.lo; rw [hS.out.ln] at h1; exact h1
        subst hkn hln
        obtain ⟨gk, rfl⟩ : ∃ g, ka = some ⟨g, 0, none⟩ := by
          rcases hS.out.ko.form with ⟨e, _⟩ | ⟨g, c, e, _⟩
          · cases e
          · injection e with e1; exact ⟨g, e1⟩
        obtain ⟨gl, rfl⟩ : ∃ g, la = some ⟨g, 0, none⟩ := by
          rcases hS.out.lo.form with ⟨e, _⟩ | ⟨g, c, e, _⟩
          · cases e
          · injection e with e1; exact ⟨g, e1⟩
        obtain ⟨vgb, vgd, vgl, vgr, vgo, hgq, hgb, hgl, hgr⟩ := HR2.out.get
        obtain ⟨ab, cb, rfl, hcb1, hcb2⟩ := hgb.form
        obtain ⟨al, cl, rfl, hcl1, hcl2⟩ := hgl.form
        rw [dB_len] at hgq hgb hcb1
        rw [dL_len] at hgq hgl hcl1
        have HGQ := Lib.hid hgq
        have HGB := Lib.hid hgb
        have HGL := Lib.hid hgl
        have hn5 := HF2.out.1.n512
        have hh8 := HF2.out.1.hd8
        obtain ⟨V, rfl⟩ : ∃ V : World, V = wr := ⟨_, rfl⟩
        have HS0 := Lib.hid hS.out
        clear hS hgq hgb hgl hgr hkt
        go_upto_region 29 with (fail)
        go_wp2
        go_loopw [15] (fun t wr => ∃ (i : Nat), i ≤ 4 ∧ t = .int .i64 (i : Int) ∧ Hid (Fs w2 (nB l) (heads l).length pl 4 4 n U ⟨some ⟨gk, 0, none⟩, 4, kc⟩ ⟨some ⟨gl, 0, none⟩, 4, lc⟩ ks ls wr)) (fun t _ => 4 - (intOf t).toNat)
        case atStart => exact ⟨0, by omega, rfl, HS0.out⟩
        case round =>
          clear HS0
          obtain ⟨i, hi, rfl, hT⟩ := hrel
          obtain ⟨W, rfl⟩ : ∃ V : World, V = wr := ⟨_, rfl⟩
          by_cases hit : i < 4
          · have hit' : (i : Int) < 4 := by omega
            obtain ⟨s, hs⟩ : ∃ s, ks[i]? = some s := ⟨_, List.getElem?_eq_getElem (by rw [hT.out.kn]; exact hit)⟩
            obtain ⟨t, ht⟩ : ∃ s, ls[i]? = some s := ⟨_, List.getElem?_eq_getElem (by rw [hT.out.ln]; exact hit)⟩
            obtain ⟨sa, sn, sc⟩ := s
            obtain ⟨ta, tn, tc⟩ := t
            have hrk := (hT.out.kr i _ hs).1
            have hrl := (hT.out.lr i _ ht).1
            have hsn : sn = nB l + 1 := by have h1 : sn = _ := own_n hrk; rw [clK_len] at h1; exact h1
            have htn : tn = (heads l).length + 1 := by have h1 : tn = _ := own_n hrl; rw [clA_len] at h1; exact h1
            subst hsn htn
            obtain ⟨gs, rfl⟩ : ∃ g, sa = some ⟨g, 0, none⟩ := by
              rcases hrk.form with ⟨e, _⟩ | ⟨g, c, e, _⟩
              · cases e
              · injection e with e1; exact ⟨g, e1⟩
            obtain ⟨gt, rfl⟩ : ∃ g, ta = some ⟨g, 0, none⟩ := by
              rcases hrl.form with ⟨e, _⟩ | ⟨g, c, e, _⟩
              · cases e
              · injection e with e1; exact ⟨g, e1⟩
            have cA : W.cell? ⟨q2, 0, none⟩ = some (.slice ab (nB l) cb) := (HGQ.out.of_block (hT.out.bel.block q2 HGQ.out.lt)).cell 0
            have cL : W.cell? ⟨q2, 2, none⟩ = some (.slice al (heads l).length cl) := (HGQ.out.of_block (hT.out.bel.block q2 HGQ.out.lt)).cell 2
            have cK : W.cell? ⟨gk, i, none⟩ = some (.slice (some ⟨gs, 0, none⟩) (nB l + 1) sc) := by have := (hT.out.ko.at hs).cell 0 _ rfl; simpa [tKK, Sv.v] using this
            have cM : W.cell? ⟨gl, i, none⟩ = some (.slice (some ⟨gt, 0, none⟩) ((heads l).length + 1) tc) := by have := (hT.out.lo.at ht).cell 0 _ rfl; simpa [tAA, Sv.v] using this
            have cB : ∀ j, j < nB l → W.cell? ⟨gs, j * 3, none⟩ = some (.int .i64 (-1000 * (i : Int) - (j : Int))) := fun j hj => by have := (hrk.at (clK_get hj)).cell 0 _ rfl; simpa [tK] using this
            have cC : ∀ j, j < (heads l).length → W.cell? ⟨gt, j * 3, none⟩ = some (.int .i64 (-1000 * (i : Int) - (j : Int))) := fun j hj => by have := (hrl.at (clA_get hj)).cell 0 _ rfl; simpa [tA] using this
            have cD : W.cell? ⟨gs, nB l * 3, none⟩ = some (.int .i64 (-7 - (i : Int))) := by have := (hrk.at (clK_last (nB l) i)).cell 0 _ rfl; simpa [tK] using this
            have cE : W.cell? ⟨gt, (heads l).length * 3, none⟩ = some (.int .i64 (-7 - (i : Int))) := by have := (hrl.at (clA_last (heads l).length i)).cell 0 _ rfl; simpa [tA] using this
            have HCB := Lib.hid cB
            have HCC := Lib.hid cC
            have HCD := Lib.hid (And.intro cD cE)
            have HTT := Lib.hid hT.out
            clear hT hs ht hrk hrl cB cC cD cE
            go_upto_region 32 with (fail)
            go_wp2
            go_loopw [16] (fun t wr => ∃ (j : Nat), j ≤ nB l ∧ t = .int .i64 (j : Int) ∧ wr = W) (fun t _ => nB l - (intOf t).toNat)
            case atStart => exact ⟨0, by omega, rfl, rfl⟩
            case round =>
              obtain ⟨j, hj, rfl, rfl⟩ := hrel
              by_cases hjt : j < nB l
              · have hjt' : (j : Int) < (nB l : Int) := by omega
                have c1 := HCB.out j hjt
                go_wp2
                go_round
                case rel => exact ⟨j + 1, by omega, by go_num, trivial⟩
                case measure => simp [intOf]; omega
              · have hjn : j = nB l := by omega
                subst hjn
                clear hjt hj
                go_upto_region 37 with (fail)
                go_wp2
                go_loopw [17] (fun t wr' => ∃ (j : Nat), j ≤ (heads l).length ∧ t = .int .i64 (j : Int) ∧ wr' = wr) (fun t _ => (heads l).length - (intOf t).toNat)
                case atStart => exact ⟨0, by omega, rfl, rfl⟩
                case round =>
                  obtain ⟨j, hj, rfl, rfl⟩ := hrel
                  by_cases hjt : j < (heads l).length
                  · have hjt' : (j : Int) < ((heads l).length : Int) := by omega
                    have c1 := HCC.out j hjt
                    go_wp2
                    go_round
                    case rel => exact ⟨j + 1, by omega, by go_num, trivial⟩
                    case measure => simp [intOf]; omega
                  · have hjn : j = (heads l).length := by omega
                    subst hjn
                    clear hjt hj
                    obtain ⟨cD, cE⟩ := HCD.out
                    go_upto_region 42 with (fail)
                    go_quiet (fail)
                    go_wp2
                    go_round
                    case rel => exact ⟨i + 1, by omega, by go_num, HTT.out.below (bDrewN (bRefl _) _)⟩
                    case measure => simp [intOf]; omega
          · have hi4 : i = 4 := by omega
            subst hi4
            have cA : W.cell? ⟨q2, 0, none⟩ = some (.slice ab (nB l) cb) := (HGQ.out.of_block (hT.out.bel.block q2 HGQ.out.lt)).cell 0
            have cL : W.cell? ⟨q2, 2, none⟩ = some (.slice al (heads l).length cl) := (HGQ.out.of_block (hT.out.bel.block q2 HGQ.out.lt)).cell 2
            have mix : Try.prog.follows .mixedOrders = true := by kernel_rfl
            have HQL := Lib.hid HGQ.out.lt
            clear hit hi
            go_upto_region 44 with (fail)
            refine wp_region_held_drew (S := fun w' => w'.cell? ⟨q2, 0, none⟩ = some (.slice ab (nB l) cb) ∧ w'.cell? ⟨q2, 2, none⟩ = some (.slice al (heads l).length cl) ∧ Hid (Below w2.heap.size w2 w')) mix ⟨cA, cL, Lib.hid hT.out.bel.drew⟩ (fun hS => ?_)
            clear cA cL
            refine wpAnyH_take (i := 0) (v := .pointer (some ⟨pl, 0, none⟩)) rfl (by kernel_rfl) (by kernel_rfl) (by kernel_rfl) (fun _ _ _ h => h) (Or.inl ⟨by rfl, fun w' hw' => by (try go_split_ands); go_simp <;> omega⟩) hS ?_
            simp only [Act.put, List.getElem_toArray, List.getElem_cons_zero, List.setIfInBounds_toArray, List.set_cons_zero, List.set_cons_succ]
            refine wpAnyH_ready (rs := [1]) (by kernel_rfl) (by simp) ?_
            refine AllReadyH.cons rfl (fun K hK => ?_) AllReadyH.nil
            go_simp
            go_wp2_with fail
            refine (done_ok _ U pl n (hT.out.below (bRefl W).drew).led (by omega)).mono ?_
            rintro e w9 ⟨rfl, fu9⟩
            have hb9 : Below w2.heap.size w2 w9 := ⟨fu9.os.trans hT.out.bel.os, fu9.tape.trans hT.out.bel.tape, fu9.output.trans hT.out.bel.output, Nat.le_trans hT.out.bel.size fu9.size, fun b hb => (fu9.block b (Nat.lt_of_lt_of_le hb hT.out.bel.size) (fun hu => by have := hT.out.up b hu; omega)).trans (hT.out.bel.block b hb)⟩
            have at2 : ∀ w', Below w2.heap.size w2 w' → w'.cell? ⟨q2, 0, none⟩ = some (.slice ab (nB l) cb) ∧ w'.cell? ⟨q2, 2, none⟩ = some (.slice al (heads l).length cl) ∧ Hid (Below w2.heap.size w2 w') := fun w' hb => ⟨(HGQ.out.of_block (hb.block q2 HQL.out)).cell 0, (HGQ.out.of_block (hb.block q2 HQL.out)).cell 2, Lib.hid hb⟩
            have HAT := Lib.hid at2
            have hS9 := at2 _ hb9
            clear hS fu9 hb9 at2 hT
            go_wp2_with fail
            refine hK.out _ _ hS9 (fun hS => ?_)
            clear hK K hS9
            refine wpAnyH_ready (rs := [2]) (by kernel_rfl) (by simp) ?_
            refine AllReadyH.cons rfl (fun K hK => ?_) AllReadyH.nil
            go_simp
            refine hK.out _ _ hS (fun _ => ?_)
            clear hK K
            refine wpAnyH_take (i := 3) (v := .pointer (some ⟨p, 0, none⟩)) rfl (by kernel_rfl) (by kernel_rfl) (by kernel_rfl) (fun _ _ _ h => h) (Or.inl ⟨by rfl, fun w' hw' => by (try go_split_ands); go_simp <;> omega⟩) hS ?_
            simp only [Act.put, List.getElem_toArray, List.getElem_cons_zero, List.getElem_cons_succ, List.setIfInBounds_toArray, List.set_cons_zero, List.set_cons_succ]
            refine wpAnyH_take (i := 5) (v := .pointer (some ⟨q2, 0, none⟩)) rfl (by kernel_rfl) (by kernel_rfl) (by kernel_rfl) (fun _ _ _ h => h) (Or.inl ⟨by rfl, fun w' hw' => by (try go_split_ands); go_simp <;> omega⟩) hS ?_
            simp only [Act.put, List.getElem_toArray, List.getElem_cons_zero, List.getElem_cons_succ, List.setIfInBounds_toArray, List.set_cons_zero, List.set_cons_succ]
            refine wpAnyH_take (i := 6) (v := .pointer (some ⟨q2, 0, none⟩)) rfl (by kernel_rfl) (by kernel_rfl) (by kernel_rfl) (fun _ _ _ h => h) (Or.inl ⟨by rfl, fun w' hw' => by (try go_split_ands); go_simp <;> omega⟩) hS ?_
            simp only [Act.put, List.getElem_toArray, List.getElem_cons_zero, List.getElem_cons_succ, List.setIfInBounds_toArray, List.set_cons_zero, List.set_cons_succ]
            refine wpAnyH_take (i := 7) (v := .pointer (some ⟨q2, 0, none⟩)) rfl (by kernel_rfl) (by kernel_rfl) (by kernel_rfl) (fun _ _ _ h => h) (Or.inl ⟨by rfl, fun w' hw' => by (try go_split_ands); go_simp <;> omega⟩) hS ?_
            simp only [Act.put, List.getElem_toArray, List.getElem_cons_zero, List.getElem_cons_succ, List.setIfInBounds_toArray, List.set_cons_zero, List.set_cons_succ]
            refine wpAnyH_take (i := 8) (v := .slice ab (nB l) cb) rfl (by kernel_rfl) (by kernel_rfl) (by kernel_rfl) (fun _ _ _ h => h) (Or.inl ⟨by rfl, fun w' hw' => by (try go_split_ands); go_simp <;> omega⟩) hS ?_
            simp only [Act.put, List.getElem_toArray, List.getElem_cons_zero, List.getElem_cons_succ, List.setIfInBounds_toArray, List.set_cons_zero, List.set_cons_succ]
            refine wpAnyH_ready (rs := [4]) (by kernel_rfl) (by simp) ?_
            refine AllReadyH.cons rfl (fun K hK => ?_) AllReadyH.nil
            go_simp
            go_wp2_with fail
            refine ((HF2.out.below hS.2.2.out).blocks).mono ?_
            rintro e w10 ⟨b10, v10, rfl, hB10⟩
            have hS10 := HAT.out _ (below_trans hS.2.2.out b10)
            have HB10 := Lib.hid hB10
            clear hS b10 hB10
            go_wp2_with fail
            refine hK.out _ _ hS10 (fun hS => ?_)
            clear hK K hS10
            refine wpAnyH_ready (rs := [9]) (by kernel_rfl) (by simp) ?_
            refine AllReadyH.cons rfl (fun K hK => ?_) AllReadyH.nil
            go_simp
            go_wp2_with fail
            refine (sameBlocks_ok _ p q2 v10 (.slice ab (nB l) cb) (dB l) HB10.out (HGB.out.below hS.2.2.out) (by rw [dB_len]; omega)).mono ?_
            rintro e w11 ⟨rfl, b11⟩
            have hS11 := HAT.out _ (below_trans hS.2.2.out b11)
            clear hS b11
            go_wp2_with fail
            refine hK.out _ _ hS11 (fun hS => ?_)
            clear hK K hS11
            refine wpAnyH_ready (rs := [10]) (by kernel_rfl) (by simp) ?_
            refine AllReadyH.cons rfl (fun K hK => ?_) AllReadyH.nil
            go_simp
            refine hK.out _ _ hS (fun _ => ?_)
            clear hK K
            refine wpAnyH_ready (rs := [11]) (by kernel_rfl) (by simp) ?_
            refine AllReadyH.cons rfl (fun K hK => ?_) AllReadyH.nil
            go_simp
            refine hK.out _ _ hS (fun _ => ?_)
            clear hK K
            refine wpAnyH_take (i := 12) (v := .pointer (some ⟨p, 0, none⟩)) rfl (by kernel_rfl) (by kernel_rfl) (by kernel_rfl) (fun _ _ _ h => h) (Or.inl ⟨by rfl, fun w' hw' => by (try go_split_ands); go_simp <;> omega⟩) hS ?_
            simp only [Act.put, List.getElem_toArray, List.getElem_cons_zero, List.getElem_cons_succ, List.setIfInBounds_toArray, List.set_cons_zero, List.set_cons_succ]
            refine wpAnyH_take (i := 14) (v := .pointer (some ⟨q2, 0, none⟩)) rfl (by kernel_rfl) (by kernel_rfl) (by kernel_rfl) (fun _ _ _ h => h) (Or.inl ⟨by rfl, fun w' hw' => by (try go_split_ands); go_simp <;> omega⟩) hS ?_
            simp only [Act.put, List.getElem_toArray, List.getElem_cons_zero, List.getElem_cons_succ, List.setIfInBounds_toArray, List.set_cons_zero, List.set_cons_succ]
            refine wpAnyH_take (i := 15) (v := .pointer (some ⟨q2, 0, none⟩)) rfl (by kernel_rfl) (by kernel_rfl) (by kernel_rfl) (fun _ _ _ h => h) (Or.inl ⟨by rfl, fun w' hw' => by (try go_split_ands); go_simp <;> omega⟩) hS ?_
            simp only [Act.put, List.getElem_toArray, List.getElem_cons_zero, List.getElem_cons_succ, List.setIfInBounds_toArray, List.set_cons_zero, List.set_cons_succ]
            refine wpAnyH_take (i := 16) (v := .pointer (some ⟨q2, 2, none⟩)) rfl (by kernel_rfl) (by kernel_rfl) (by kernel_rfl) (fun _ _ _ h => h) (Or.inl ⟨by rfl, fun w' hw' => by (try go_split_ands); go_simp <;> omega⟩) hS ?_
            simp only [Act.put, List.getElem_toArray, List.getElem_cons_zero, List.getElem_cons_succ, List.setIfInBounds_toArray, List.set_cons_zero, List.set_cons_succ]
            refine wpAnyH_take (i := 17) (v := .slice al (heads l).length cl) rfl (by kernel_rfl) (by kernel_rfl) (by kernel_rfl) (fun _ _ _ h => h) (Or.inl ⟨by rfl, fun w' hw' => by (try go_split_ands); go_simp <;> omega⟩) hS ?_
            simp only [Act.put, List.getElem_toArray, List.getElem_cons_zero, List.getElem_cons_succ, List.setIfInBounds_toArray, List.set_cons_zero, List.set_cons_succ]
            refine wpAnyH_ready (rs := [13]) (by kernel_rfl) (by simp) ?_
            refine AllReadyH.cons rfl (fun K hK => ?_) AllReadyH.nil
            go_simp
            go_wp2_with fail
            refine ((HF2.out.below hS.2.2.out).loops).mono ?_
            rintro e w12 ⟨b12, v12, rfl, hL12⟩
            have hS12 := HAT.out _ (below_trans hS.2.2.out b12)
            have HL12 := Lib.hid hL12
            clear hS b12 hL12
            go_wp2_with fail
            refine hK.out _ _ hS12 (fun hS => ?_)
            clear hK K hS12
            refine wpAnyH_ready (rs := [18]) (by kernel_rfl) (by simp) ?_
            refine AllReadyH.cons rfl (fun K hK => ?_) AllReadyH.nil
            go_simp
            go_wp2_with fail
            refine (sameLoops_ok _ p q2 v12 (.slice al (heads l).length cl) (dL l) HL12.out (HGL.out.below hS.2.2.out) (by rw [dL_len]; omega)).mono ?_
            rintro e w13 ⟨rfl, b13⟩
            have hS13 := HAT.out _ (below_trans hS.2.2.out b13)
            clear hS b13
            go_wp2_with fail
            refine hK.out _ _ hS13 (fun hS => ?_)
            clear hK K hS13
            refine wpAnyH_ready (rs := [19]) (by kernel_rfl) (by simp) ?_
            refine AllReadyH.cons rfl (fun K hK => ?_) AllReadyH.nil
            go_simp
            refine hK.out _ _ hS (fun _ => ?_)
            clear hK K
            refine wpAnyH_ready (rs := [20]) (by kernel_rfl) (by simp) ?_
            refine AllReadyH.cons rfl (fun K hK => ?_) AllReadyH.nil
            go_simp
            refine hK.out _ _ hS (fun _ => ?_)
            clear hK K
            refine wpAnyH_done (by kernel_rfl) ?_ _
            have hb13 := hS.2.2
            clear hS
            go_wp2
            go_ret
            exact ⟨rfl, below_trans HB2.out hb13.out⟩
end Go.Proofs.Ytpiiefdaaijgbaa
