/- The program's loop: the blocks of a head's loop. -/
import Derived.Test.YtpiiefdaaijgbaaFTurn
import Derived.Test.YtpiiefdaaijgbaaFNestP
namespace Go.Proofs.Ytpiiefdaaijgbaa
open Go Go.RowKit Go.Wr Go.Fl
set_option maxHeartbeats 4000000
set_option maxRecDepth 100000

/-- What loop leaves. -/
def LoopP (w : World) (n : Nat) (nx : Nat → List Nat) (h : Nat) (e : Ending) (w' : World) : Prop :=
  Below w.heap.size w w' ∧ ∃ (pS gS : Nat) (V : Nat → Bool) (is : Bool), e = .returned (.tuple #[.pointer (some ⟨pS, 0, none⟩), .bool is]) ∧ (is = true ↔ Hd nx n h) ∧ St w.heap.size pS gS n V w' ∧ ∀ x, V x = true ↔ Lp nx n h x
theorem loop_ok (w : World) (p n : Nat) (nx : Nat → List Nat) (pl : Nat → Nat) (d : Nat → Option Nat) (ah : Nat → List Nat) (g : Gr nx pl n ah) (hI : Idom nx pl n d) (b4 o4 b5 o5 c4 c5 : Nat) (h : Pd p n pl d ⟨b4, o4, none⟩ ⟨b5, o5, none⟩ c4 c5 w)
    (ab : Option Addr) (cb : Nat) (hf : w.cell? ⟨p, 0, none⟩ = some (.slice ab n cb)) (va : Value) (ss : List Sv) (h1 : w.cell? ⟨p, 1, none⟩ = some va) (hs : SlX tII p w va ss) (hl : ss.length = n) (hna : ∀ b s, ss[b]? = some s → SlX tI p w s.v (nI (ah b)))
    (hp : p < w.heap.size) (h4 : b4 < w.heap.size) (h5 : b5 < w.heap.size) (hn : n ≤ 4096) (hx2 : ∀ u, (ah u).length ≤ 1048576) (hd : Nat) (hh : hd < n) :
    Calls Try.prog 105 #[.pointer (some ⟨p, 0, none⟩), .int .i64 (hd : Int)] w (LoopP w n nx hd) := by
  obtain ⟨aa, ca, rfl, ha1, ha2⟩ := hs.form
  rw [hl] at h1 ha1 hs
  have H := Lib.hid h
  have HSA := Lib.hid hs
  have HLN := Lib.hid hl
  have HNA := Lib.hid hna
  have HI := Lib.hid hI
  have HG := Lib.hid g
  have HX := Lib.hid hx2
  have HF0 := Lib.hid hf
  have HF1 := Lib.hid h1
  obtain ⟨s, hsh⟩ : ∃ s, ss[hd]? = some s := ⟨_, List.getElem?_eq_getElem (by omega)⟩
  obtain ⟨ba, oa, rfl, _, hat⟩ := hs.get hsh
  have ca1 := hat.cell 0 _ rfl
  rw [show oa + hd * tII.n + 0 = oa + hd by show oa + hd * 1 + 0 = _; omega] at ca1
  have hba := hat.1
  have hsn := hna hd s hsh
  obtain ⟨as1, cs1, es1, hs1, hs2⟩ := hsn.form
  rw [nI_len] at es1 hs1
  rw [es1] at ca1 hsn
  have HSN := Lib.hid hsn
  have hal := hx2 hd
  have hhi : (hd : Int) < (n : Int) := by omega
  have hh0 : (0 : Int) ≤ (hd : Int) := by omega
  have hmem := Lib.hid (fun u => g.mem u hd hh)
  unfold maxLen at ha2 hs2
  clear h hs hl hna hI g hx2 hsh hat hsn es1
  go_enter Try.func105, Try.ntmps105
  go_wp2_with fail
  refine (newSet_ok _ n (by omega)).mono ?_
  rintro e w1 ⟨b1, pS, gS, rfl, hst⟩
  have HW1 := Lib.hid (Wn.start hst b1)
  have k1 : (w1.alloc (.cells #[.slice none 0 0] 146)).cell? ⟨p, 1, none⟩ = some (.slice (some ⟨ba, oa, none⟩) n ca) := ((bAl b1 _).cell (p := ⟨p, 1, none⟩) hp).trans h1
  clear hst b1 hf h1
  go_wp2_with fail
  obtain ⟨pT, hpT⟩ : ∃ q, q = w1.heap.size := ⟨_, rfl⟩
  rw [← hpT] at HW1 ⊢
  generalize (w1.alloc (.cells #[.slice none 0 0] 146)) = W1 at HW1 k1 ⊢
  clear hpT
  refine (add_new _ w.heap.size pS gS n (fun _ => false) HW1.out.st (hd : Int) (by omega) (by omega) rfl).mono ?_
  rintro e w2 ⟨rfl, rfl⟩
  have HW2 := Lib.hid (HW1.out.mark (i := hd) hh)
  simp only [Int.toNat_natCast]
  generalize W1.setCell ⟨gS, hd, none⟩ (.bool true) = W2 at HW2 ⊢
  clear HW1 k1
  have k1 : W2.cell? ⟨p, 1, none⟩ = some (.slice (some ⟨ba, oa, none⟩) n ca) := (HW2.out.bl.cell (p := ⟨p, 1, none⟩) hp).trans HF1.out
  have ca2 : W2.cell? ⟨ba, oa + hd, none⟩ = some (.slice as1 (ah hd).length cs1) := (HW2.out.bl.cell (p := ⟨ba, oa + hd, none⟩) hba).trans ca1
  clear ca1
  go_wp2
  go_loopw [8, 34] (fun t8 t wr => ∃ (k : Nat) (V : Nat → Bool) (S : List Nat) (is : Bool), t8 = .bool is ∧ k ≤ (ah hd).length ∧ t = .int .i64 (k : Int) ∧ Hid (Wn w pS gS pT n V S wr) ∧ Hid (L1 nx n hd ah k V S is) ∧ 2 * free n V + S.length ≤ 2 * n) (fun _ t _ => (ah hd).length - (intOf t).toNat)
  case atStart => exact ⟨0, _, [], false, rfl, by omega, rfl, HW2.out, L1.start, by have := free_bound n (Fl.mark (fun _ => false) hd); simp; omega⟩
  case round =>
    clear HW2 k1 ca2
    obtain ⟨k, V, S, is, rfl, hk, rfl, hW, hL, hm⟩ := hrel
    by_cases hlk : k < (ah hd).length
    · have hlk' : (k : Int) < ((ah hd).length : Int) := by omega
      obtain ⟨u, hu⟩ : ∃ u, (ah hd)[k]? = some u := ⟨_, List.getElem?_eq_getElem hlk⟩
      obtain ⟨hun, hhu⟩ := (hmem.out u).1 (List.mem_of_getElem? hu)
      obtain ⟨bv, ov, rfl, _, _, cv⟩ := SlX.int (HSN.out.below hW.out.bl) (show (nI (ah hd))[k]? = some (u : Int) by unfold nI; rw [List.getElem?_map, hu]; rfl)
      have hui : (u : Int) < (n : Int) := by omega
      have hu0 : (0 : Int) ≤ (u : Int) := by omega
      have hkey := Lib.hid (domB_iff (nx := nx) hh hun)
      have HU := Lib.hid hu
      have HHU := Lib.hid hhu
      clear hu hhu
      go_wp2_with fail
      refine (dominates_ok _ p n nx pl d ah HG.out HI.out b4 o4 b5 o5 c4 c5 (H.out.below hp h4 h5 hW.out.bl) _ cb ((hW.out.bl.cell (p := ⟨p, 0, none⟩) hp).trans HF0.out) (hd : Int) (u : Int)).mono ?_
      rintro e w5 ⟨rfl, q, hw5⟩
      have HW5 : Hid (Wn w pS gS pT n V S w5) := by show Wn _ _ _ _ _ _ _ _; rw [hw5]; exact hW.out.below (bDraw (bRefl _) q)
      clear hw5 hW cv
      cases hdb : domB nx n (hd : Int) (u : Int) with
      | false =>
        have hnd : ¬ Dom nx hd u := fun h => by have := hkey.out.mpr h; rw [hdb] at this; cases this
        have HL9 := Lib.hid (hL.out.no HU.out hnd)
        clear hnd hdb hkey hL
        go_wp2
        go_roundw
        all_goals first
          | exact ⟨k + 1, V, S, is, rfl, by omega, by go_num, HW5.out, HL9.out, hm⟩
          | ((repeat apply Exists.intro); exact ⟨⟨k + 1, V, S, is, rfl, by omega, by go_num, HW5.out, HL9.out, hm⟩, rfl⟩)
          | (simp [intOf]; omega)
      | true =>
        have HD := Lib.hid (hkey.out.mp hdb)
        clear hdb hkey
        go_wp2_with fail
        cases hVu : V u with
        | true =>
          have HL9 := Lib.hid (hL.out.old HU.out HD.out hVu)
          refine (add_old _ w.heap.size pS gS n V HW5.out.st (u : Int) (by omega) (by omega) (by rw [Int.toNat_natCast]; exact hVu)).mono ?_
          rintro e w7 ⟨rfl, rfl⟩
          clear hL hVu
          go_wp2
          go_roundw
          all_goals first
            | exact ⟨k + 1, V, S, true, rfl, by omega, by go_num, HW5.out, HL9.out, hm⟩
            | ((repeat apply Exists.intro); exact ⟨⟨k + 1, V, S, true, rfl, by omega, by go_num, HW5.out, HL9.out, hm⟩, rfl⟩)
            | (simp [intOf]; omega)
        | false =>
          have HL9 := Lib.hid (hL.out.new HU.out HD.out hVu hun HHU.out)
          have hfr := free_mark hun hVu
          refine (add_new _ w.heap.size pS gS n V HW5.out.st (u : Int) (by omega) (by omega) (by rw [Int.toNat_natCast]; exact hVu)).mono ?_
          rintro e w7 ⟨rfl, rfl⟩
          have HW7 := Lib.hid (HW5.out.mark (i := u) hun)
          simp only [Int.toNat_natCast]
          generalize w5.setCell ⟨gS, u, none⟩ (.bool true) = W7 at HW7 ⊢
          clear hL hVu HW5
          go_wp2_with fail
          refine (pushI_ok _ w.heap.size pT S HW7.out.sk HW7.out.bl.size (by omega) u).mono ?_
          rintro e w8 ⟨rfl, hs8, hf8⟩
          have HW8 := Lib.hid (HW7.out.fq hf8 hs8)
          have hm8 : 2 * free n (Fl.mark V u) + (S ++ [u]).length ≤ 2 * n := by simp; omega
          clear hs8 hf8 HW7
          go_wp2
          go_roundw
          all_goals first
            | exact ⟨k + 1, _, _, true, rfl, by omega, by go_num, HW8.out, HL9.out, hm8⟩
            | ((repeat apply Exists.intro); exact ⟨⟨k + 1, _, _, true, rfl, by omega, by go_num, HW8.out, HL9.out, hm8⟩, rfl⟩)
            | (simp [intOf]; omega)
    · have hkl : k = (ah hd).length := by omega
      have hL2 := hL.out
      rw [hkl] at hL2
      have HIS : Hid (is = true ↔ Hd nx n hd) := by
        show _ ↔ _
        rw [hL2.i, List.take_length]
        constructor
        · rintro ⟨u, hu, hdu⟩; exact ⟨u, ((hmem.out u).1 hu).1, ((hmem.out u).1 hu).2, hdu⟩
        · rintro ⟨u, h1, h2, h3⟩; exact ⟨u, (hmem.out u).2 ⟨h1, h2⟩, h3⟩
      have HLD := Lib.hid hL2.done
      clear hL2 hL hkl
      go_wp2
      go_loopg [] (2 * n) (fun m wr => ∃ (V : Nat → Bool) (S : List Nat), Hid (Wn w pS gS pT n V S wr) ∧ Hid (L2 nx n hd ah V S) ∧ 2 * free n V + S.length ≤ m ∧ m ≤ 2 * n)
      case atStart => exact ⟨V, S, hW.out, HLD.out, hm, by omega⟩
      case round =>
        clear hW HLD hm hlk
        obtain ⟨V, S, hW, hL, hm, hm2⟩ := hrel
        rcases List.eq_nil_or_concat S with rfl | ⟨S', u, rfl⟩
        · go_wp2_with fail
          refine (popI_none _ w.heap.size pT hW.out.sk).mono ?_
          rintro e w3 ⟨rfl, rfl⟩
          have hfin := Lib.hid (hL.out.loop HG.out.mem hh)
          go_wp2
          go_ret2
          exact ⟨hW.out.bl, pS, gS, V, is, rfl, HIS.out, hW.out.st, hfin.out⟩
        · rw [List.concat_eq_append] at hW hL hm
          have hun := (hL.out.s u (by simp)).2
          have hui : (u : Int) < (n : Int) := by omega
          have hui0 : (0 : Int) ≤ (u : Int) := by omega
          go_wp2_with fail
          refine (popI_some _ w.heap.size pT S' u hW.out.sk).mono ?_
          rintro e w3 ⟨rfl, hs3, hf3⟩
          have HW3 := Lib.hid (hW.out.fq hf3 hs3)
          have HL3 := Lib.hid hL.out.pop
          have hm3 : 2 * free n V + S'.length < gk := by simp at hm; omega
          clear hs3 hf3 hW hL hm
          obtain ⟨s2, hs2h⟩ : ∃ s, ss[u]? = some s := ⟨_, List.getElem?_eq_getElem (by rw [HLN.out]; exact hun)⟩
          obtain ⟨ba', oa', ea, _, hat⟩ := HSA.out.get hs2h
          injection ea with ea
          injection ea with ea1 ea2
          subst ea1 ea2
          have cu1 := hat.cell 0 _ rfl
          rw [show oa + u * tII.n + 0 = oa + u by show oa + u * 1 + 0 = _; omega] at cu1
          have hsn := HNA.out u s2 hs2h
          obtain ⟨as2, cs2, es2, hq1, hq2⟩ := hsn.form
          rw [nI_len] at es2 hq1
          rw [es2] at cu1 hsn
          unfold maxLen at hq2
          have HSN2 := Lib.hid hsn
          have hal2 := HX.out u
          have k1 : w3.cell? ⟨p, 1, none⟩ = some (.slice (some ⟨ba, oa, none⟩) n ca) := (HW3.out.bl.cell (p := ⟨p, 1, none⟩) hp).trans HF1.out
          have cu2 : w3.cell? ⟨ba, oa + u, none⟩ = some (.slice as2 (ah u).length cs2) := (HW3.out.bl.cell (p := ⟨ba, oa + u, none⟩) hba).trans cu1
          have hmem2 := Lib.hid (fun v => HG.out.mem v u hun)
          clear hs2h hat cu1 hsn es2
          go_wp2
          go_loopw [66] (fun t wr => ∃ (j : Nat) (V : Nat → Bool) (S : List Nat), j ≤ (ah u).length ∧ t = .int .i64 (j : Int) ∧ Hid (Wn w pS gS pT n V S wr) ∧ Hid (L3 nx n hd ah V S u j) ∧ 2 * free n V + S.length < gk) (fun t _ => (ah u).length - (intOf t).toNat)
          case atStart => exact ⟨0, V, S', by omega, rfl, HW3.out, HL3.out, hm3⟩
          case round =>
            clear HW3 HL3 hm3 k1 cu2
            obtain ⟨j, V, S, hj, rfl, hW, hL, hm3⟩ := hrel
            by_cases hlj : j < (ah u).length
            · have hlj' : (j : Int) < ((ah u).length : Int) := by omega
              obtain ⟨v, hv⟩ : ∃ v, (ah u)[j]? = some v := ⟨_, List.getElem?_eq_getElem hlj⟩
              obtain ⟨hvn, huv⟩ := (hmem2.out v).1 (List.mem_of_getElem? hv)
              obtain ⟨bv, ov, rfl, _, _, cv⟩ := SlX.int (HSN2.out.below hW.out.bl) (show (nI (ah u))[j]? = some (v : Int) by unfold nI; rw [List.getElem?_map, hv]; rfl)
              have hvi : (v : Int) < (n : Int) := by omega
              have hv0 : (0 : Int) ≤ (v : Int) := by omega
              have HV := Lib.hid hv
              have HUV := Lib.hid huv
              clear hv huv
              go_wp2_with fail
              cases hVv : V v with
              | true =>
                have HL9 := Lib.hid (hL.out.skip HV.out hVv)
                refine (add_old _ w.heap.size pS gS n V hW.out.st (v : Int) (by omega) (by omega) (by rw [Int.toNat_natCast]; exact hVv)).mono ?_
                rintro e w7 ⟨rfl, rfl⟩
                clear hL hVv
                go_wp2
                go_roundw
                all_goals first
                  | exact ⟨j + 1, V, S, by omega, by go_num, hW.out, HL9.out, hm3⟩
                  | ((repeat apply Exists.intro); exact ⟨⟨j + 1, V, S, by omega, by go_num, hW.out, HL9.out, hm3⟩, rfl⟩)
                  | (simp [intOf]; omega)
              | false =>
                have HL9 := Lib.hid (hL.out.add HV.out hVv hvn HUV.out)
                have hfr := free_mark hvn hVv
                refine (add_new _ w.heap.size pS gS n V hW.out.st (v : Int) (by omega) (by omega) (by rw [Int.toNat_natCast]; exact hVv)).mono ?_
                rintro e w7 ⟨rfl, rfl⟩
                have HW7 := Lib.hid (hW.out.mark (i := v) hvn)
                simp only [Int.toNat_natCast]
                generalize wr.setCell ⟨gS, v, none⟩ (.bool true) = W7 at HW7 ⊢
                clear hL hVv hW cv
                go_wp2_with fail
                refine (pushI_ok _ w.heap.size pT S HW7.out.sk HW7.out.bl.size (by omega) v).mono ?_
                rintro e w8 ⟨rfl, hs8, hf8⟩
                have HW8 := Lib.hid (HW7.out.fq hf8 hs8)
                have hm8 : 2 * free n (Fl.mark V v) + (S ++ [v]).length < gk := by simp; omega
                clear hs8 hf8 HW7
                go_wp2
                go_roundw
                all_goals first
                  | exact ⟨j + 1, _, _, by omega, by go_num, HW8.out, HL9.out, hm8⟩
                  | ((repeat apply Exists.intro); exact ⟨⟨j + 1, _, _, by omega, by go_num, HW8.out, HL9.out, hm8⟩, rfl⟩)
                  | (simp [intOf]; omega)
            · have hjl : j = (ah u).length := by omega
              have hT2 := hL.out
              rw [hjl] at hT2
              have HT9 := Lib.hid hT2.done
              clear hT2 hL hjl
              go_wp2
              go_roundg (2 * free n V + S.length)
              case measure => omega
              case rel => exact ⟨V, S, hW.out, HT9.out, Nat.le_refl _, by omega⟩
end Go.Proofs.Ytpiiefdaaijgbaa
