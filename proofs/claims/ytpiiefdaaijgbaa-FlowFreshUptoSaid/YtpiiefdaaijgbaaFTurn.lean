/- The program's turning: the lowest block on a round without back edges. -/
import Derived.Test.YtpiiefdaaijgbaaFSplit
import Derived.Test.YtpiiefdaaijgbaaFDmP
import Derived.WalkMore
namespace Go.Proofs.Ytpiiefdaaijgbaa
open Go Go.RowKit Go.Wr Go.Fl
set_option maxHeartbeats 4000000
set_option maxRecDepth 100000

/-- A set and what waits, in new memory. -/
structure Wn (w : World) (pS gS pT n : Nat) (V : Nat → Bool) (S : List Nat) (wr : World) : Prop where
  st : St w.heap.size pS gS n V wr
  sk : Sk w.heap.size pT S wr
  bl : Below w.heap.size w wr
section
variable {w wr w' : World} {pS gS pT n : Nat} {V : Nat → Bool} {S : List Nat}
theorem Wn.ne (h : Wn w pS gS pT n V S wr) : pT ≠ pS ∧ pT ≠ gS := by
  obtain ⟨v, h1, _, _⟩ := h.sk
  obtain ⟨_, C, hg⟩ := h.st.gb.blk (g := gS) rfl
  exact ⟨blk_ne h1 h.st.pb (by decide), blk_ne h1 hg (by decide)⟩
theorem Wn.hT (h : Wn w pS gS pT n V S wr) : w.heap.size ≤ pT := by obtain ⟨v, _, _, h3⟩ := h.sk; exact h3
theorem Wn.below (h : Wn w pS gS pT n V S wr) (b : Below wr.heap.size wr w') : Wn w pS gS pT n V S w' := ⟨h.st.below b, h.sk.below b, bThen h.bl b⟩
theorem Wn.fq (h : Wn w pS gS pT n V S wr) (f : Fq pT 3 w.heap.size wr w') {S' : List Nat} (hs : Sk w.heap.size pT S' w') : Wn w pS gS pT n V S' w' := by
  obtain ⟨n1, n2⟩ := h.ne
  exact ⟨h.st.fq f n1.symm n2.symm (by decide) (by decide), hs, h.bl.trans (f.below h.hT (Nat.le_refl _) h.bl.size)⟩
theorem Wn.mark (h : Wn w pS gS pT n V S wr) {i : Nat} (hi : i < n) : Wn w pS gS pT n (Fl.mark V i) S (wr.setCell ⟨gS, i, none⟩ (.bool true)) := by
  obtain ⟨_, C, hg⟩ := h.st.gb.blk (g := gS) rfl
  exact ⟨h.st.mark hi, h.sk.setOther hg (by decide) (by decide), h.bl.setCell h.st.hg _⟩
theorem Wn.start {w1 : World} (hst : St w.heap.size pS gS n V w1) (hb : Below w.heap.size w w1) : Wn w pS gS w1.heap.size n V [] (w1.alloc (.cells #[.slice none 0 0] 146)) :=
  ⟨hst.below (bAl (bRefl _) _), ⟨_, Blk.new _ _ _, OwR.nil _ _, hb.size⟩, bAl hb _⟩
end
theorem free_start (n : Nat) : free n (fun _ => false) ≤ n := free_bound n _
theorem turning_ok (w : World) (p n : Nat) (nx : Nat → List Nat) (pl : Nat → Nat) (d : Nat → Option Nat) (ah : Nat → List Nat) (g : Gr nx pl n ah) (hI : Idom nx pl n d) (b4 o4 b5 o5 c4 c5 : Nat) (h : Pd p n pl d ⟨b4, o4, none⟩ ⟨b5, o5, none⟩ c4 c5 w)
    (vb : Value) (bs : List Bk) (hf : FwR p n nx vb bs w) (hp : p < w.heap.size) (h4 : b4 < w.heap.size) (h5 : b5 < w.heap.size) (hn : n ≤ 4096) (hx2 : ∀ u, (nx u).length ≤ 1048576) :
    Calls Try.prog 69 #[.pointer (some ⟨p, 0, none⟩)] w fun e w' => Below w.heap.size w w' ∧ ((∃ b, b < n ∧ e = .returned (.int .i64 (b : Int)) ∧ Nbr nx b b ∧ ∀ x, x < b → ¬ Nbr nx x x) ∨ (e = .returned (.int .i64 (-1)) ∧ ∀ x, x < n → ¬ Nbr nx x x)) := by
  obtain ⟨a0, cap, rfl, h1, h2⟩ := hf.sb.form
  have hln := hf.ln
  have f0 := hf.f0
  rw [hln] at f0 h1
  have H := Lib.hid h
  have HF := Lib.hid hf
  have HI := Lib.hid hI
  have HG := Lib.hid g
  have HX := Lib.hid hx2
  have HLN := Lib.hid hln
  unfold maxLen at h2
  clear h hf hI g hx2 hln
  go_enter Try.func69, Try.ntmps69
  go_wp2
  go_step3
  go_wp2
  go_step3
  go_wp2
  go_loopw [3, 16] (fun t3 t wr => ∃ b : Nat, b ≤ n ∧ t = .int .i64 (b : Int) ∧ t3 = .int .i64 (-1) ∧ Hid (∀ x, x < b → ¬ Nbr nx x x) ∧ Hid (Below w.heap.size w wr)) (fun _ t _ => n - (intOf t).toNat)
  case atStart => exact ⟨0, by omega, rfl, rfl, (fun x hx => by omega), bRefl w⟩
  case round =>
    obtain ⟨b, hb, rfl, rfl, hq, hbl⟩ := hrel
    by_cases hlt : b < n
    · have hlt' : (b : Int) < (n : Int) := by omega
      have kp : wr.cell? ⟨p, 0, none⟩ = some (.slice a0 n cap) := (hbl.out.cell (p := ⟨p, 0, none⟩) hp).trans f0
      have HF0 := Lib.hid f0
      clear f0
      go_wp2_with fail
      refine (newSet_ok _ n (by omega)).mono ?_
      rintro e w1 ⟨b1, pS, gS, rfl, hst⟩
      have hB1 : Below w.heap.size w w1 := bThen hbl.out b1
      have hst1 : St w.heap.size pS gS n (fun _ => false) w1 := ⟨hst.pb, hst.gb.mono hbl.out.size, by have := hst.hp; have := hbl.out.size; omega⟩
      have HW1 := Lib.hid (Wn.start hst1 hB1)
      clear b1 hst hst1 hB1 kp
      go_wp2_with fail
      obtain ⟨pT, hpT⟩ : ∃ q, q = w1.heap.size := ⟨_, rfl⟩
      rw [← hpT] at HW1 ⊢
      generalize (w1.alloc (.cells #[.slice none 0 0] 146)) = W1 at HW1 ⊢
      clear hpT
      refine (pushI_ok _ w.heap.size pT [] HW1.out.sk HW1.out.bl.size (by simp) b).mono ?_
      rintro e w2 ⟨rfl, hs2, hf2⟩
      have HW2 := Lib.hid (HW1.out.fq (S' := [b]) hf2 hs2)
      clear hs2 hf2 HW1
      go_wp2
      go_loopg [3] (2 * n + 1) (fun m t3 wr => ∃ (V : Nat → Bool) (S : List Nat), t3 = .int .i64 (-1) ∧ Hid (Wn w pS gS pT n V S wr) ∧ Hid (Tc nx b V S) ∧ Hid (∀ x ∈ S, x < n) ∧ 2 * free n V + S.length ≤ m ∧ m ≤ 2 * n + 1)
      case atStart => exact ⟨_, [b], rfl, HW2.out, Tc.start nx b, (fun x hx => by simp at hx; subst hx; exact hlt), by have := free_start n; simp; omega, by omega⟩
      case round =>
        clear HW2
        obtain ⟨V, S, rfl, hW, hT, hS, hm, hm2⟩ := hrel
        rcases List.eq_nil_or_concat S with rfl | ⟨S', u, rfl⟩
        · have hno := Lib.hid hT.out.none
          go_wp2_with fail
          refine (popI_none _ w.heap.size pT hW.out.sk).mono ?_
          rintro e w3 ⟨rfl, rfl⟩
          have hnew : Hid (∀ x, x < b + 1 → ¬ Nbr nx x x) := fun x hx => by
            by_cases e : x < b
            · exact hq.out x e
            · obtain rfl : x = b := by omega
              exact hno.out
          have HB := Lib.hid hW.out.bl
          clear hW hT hS hm hm2 hq hno hbl
          go_wp2
          go_roundw
          all_goals first
            | exact ⟨b + 1, by omega, by go_num, rfl, hnew.out, HB.out⟩
            | ((repeat apply Exists.intro); exact ⟨⟨b + 1, by omega, by go_num, rfl, hnew.out, HB.out⟩, rfl⟩)
            | (simp [intOf]; omega)
        · rw [List.concat_eq_append] at hW hT hS hm
          have hun := hS.out u (by simp)
          have hui : (u : Int) < (n : Int) := by omega
          have hui0 : (0 : Int) ≤ (u : Int) := by omega
          go_wp2_with fail
          refine (popI_some _ w.heap.size pT S' u hW.out.sk).mono ?_
          rintro e w3 ⟨rfl, hs3, hf3⟩
          have HW3 := Lib.hid (hW.out.fq hf3 hs3)
          have HT3 := Lib.hid hT.out.pop
          have HS3 : Hid (∀ x ∈ S', x < n) := fun x hx => hS.out x (by simp [hx])
          have hm3 : 2 * free n V + S'.length < gk := by simp at hm; omega
          clear hs3 hf3 hW hT hS hm
          obtain ⟨kb, hkb⟩ : ∃ kb, bs[u]? = some kb := ⟨_, List.getElem?_eq_getElem (by rw [HLN.out]; exact hun)⟩
          have hFw := HF.out.below hp HW3.out.bl
          have hsb := hFw.sb
          rw [HLN.out] at hsb
          obtain ⟨bb, off, rfl, _, hat⟩ := hsb.get hkb
          obtain ⟨_, _, c2⟩ := at_bk hat
          have e3 : tK.n = 3 := rfl
          rw [e3] at c2
          have hnx := HF.out.nb u kb hkb
          obtain ⟨an, cn, en, hn1, hn2⟩ := hnx.form
          rw [nI_len] at en hn1
          rw [en] at c2 hnx
          unfold maxLen at hn2
          have hxl := HX.out u
          have HNX := Lib.hid hnx
          have kp : w3.cell? ⟨p, 0, none⟩ = some (.slice (some ⟨bb, off, none⟩) n cap) := (HW3.out.bl.cell (p := ⟨p, 0, none⟩) hp).trans HF0.out
          clear hkb hFw hsb hat e3 hnx en hbl
          go_wp2
          go_loopw [3, 46] (fun t3 t wr => ∃ (j : Nat) (V : Nat → Bool) (S : List Nat), t3 = .int .i64 (-1) ∧ j ≤ (nx u).length ∧ t = .int .i64 (j : Int) ∧ Hid (Wn w pS gS pT n V S wr) ∧ Hid (Tw nx b V S u j) ∧ Hid (∀ x ∈ S, x < n) ∧ 2 * free n V + S.length < gk) (fun _ t _ => (nx u).length - (intOf t).toNat)
          case atStart => exact ⟨0, V, S', rfl, by omega, rfl, HW3.out, HT3.out, HS3.out, hm3⟩
          case round =>
            clear HW3 HT3 HS3 hm3 kp c2
            obtain ⟨j, V, S, rfl, hj, rfl, hW, hT, hS, hm3⟩ := hrel
            by_cases hlj : j < (nx u).length
            · have hlj' : (j : Int) < ((nx u).length : Int) := by omega
              obtain ⟨v, hv⟩ : ∃ v, (nx u)[j]? = some v := ⟨_, List.getElem?_eq_getElem hlj⟩
              have hvn := HG.out.nlt u hun v (List.mem_of_getElem? hv)
              obtain ⟨bv, ov, rfl, _, _, cv⟩ := SlX.int (HNX.out.below hW.out.bl) (show (nI (nx u))[j]? = some (v : Int) by unfold nI; rw [List.getElem?_map, hv]; rfl)
              have hvi : (v : Int) < (n : Int) := by omega
              have hv0 : (0 : Int) ≤ (v : Int) := by omega
              have hkey := Lib.hid (domB_iff (nx := nx) hvn hun)
              have HV := Lib.hid hv
              clear hv
              go_wp2_with fail
              refine (dominates_ok _ p n nx pl d ah HG.out HI.out b4 o4 b5 o5 c4 c5 (H.out.below hp h4 h5 hW.out.bl) _ cap ((hW.out.bl.cell (p := ⟨p, 0, none⟩) hp).trans HF0.out) (v : Int) (u : Int)).mono ?_
              rintro e w5 ⟨rfl, q, hw5⟩
              have HW5 : Hid (Wn w pS gS pT n V S w5) := by show Wn _ _ _ _ _ _ _ _; rw [hw5]; exact hW.out.below (bDraw (bRefl _) q)
              clear hw5 hW cv
              cases hd : domB nx n (v : Int) (u : Int) with
              | true =>
                have HT9 := Lib.hid (hT.out.back HV.out (hkey.out.mp hd))
                clear hd hkey hT
                go_wp2
                go_roundw
                all_goals first
                  | exact ⟨j + 1, V, S, rfl, by omega, by go_num, HW5.out, HT9.out, hS.out, hm3⟩
                  | ((repeat apply Exists.intro); exact ⟨⟨j + 1, V, S, rfl, by omega, by go_num, HW5.out, HT9.out, hS.out, hm3⟩, rfl⟩)
                  | (simp [intOf]; omega)
              | false =>
                have hnd : ¬ Dom nx v u := fun h => by have := hkey.out.mpr h; rw [hd] at this; cases this
                have HND := Lib.hid hnd
                clear hnd hd hkey
                by_cases hvb : v = b
                · have hvb' : ((v : Int) == (b : Int)) = true := by simp [hvb]
                  have HTo : Hid (Nbr nx b b) := by
                    have := hT.out.to HV.out HND.out
                    rw [hvb] at this
                    exact this
                  clear hvb hT
                  go_wp2
                  try rw [Exit.noGoto_ret]
                  go_ret
                  exact ⟨HW5.out.bl, Or.inl ⟨b, hlt, rfl, HTo.out, hq.out⟩⟩
                · have hvb' : ((v : Int) == (b : Int)) = false := by simp; omega
                  go_wp2_with fail
                  cases hVv : V v with
                  | true =>
                    have HT9 := Lib.hid (hT.out.old HV.out hVv hvb)
                    refine (add_old _ w.heap.size pS gS n V HW5.out.st (v : Int) (by omega) (by omega) (by rw [Int.toNat_natCast]; exact hVv)).mono ?_
                    rintro e w7 ⟨rfl, rfl⟩
                    clear hT hVv hvb
                    go_wp2
                    go_roundw
                    all_goals first
                      | exact ⟨j + 1, V, S, rfl, by omega, by go_num, HW5.out, HT9.out, hS.out, hm3⟩
                      | ((repeat apply Exists.intro); exact ⟨⟨j + 1, V, S, rfl, by omega, by go_num, HW5.out, HT9.out, hS.out, hm3⟩, rfl⟩)
                      | (simp [intOf]; omega)
                  | false =>
                    have HT9 := Lib.hid (hT.out.new HV.out HND.out hvb)
                    have hfr := free_mark hvn hVv
                    refine (add_new _ w.heap.size pS gS n V HW5.out.st (v : Int) (by omega) (by omega) (by rw [Int.toNat_natCast]; exact hVv)).mono ?_
                    rintro e w7 ⟨rfl, rfl⟩
                    have HW7 := Lib.hid (HW5.out.mark (i := v) hvn)
                    simp only [Int.toNat_natCast]
                    generalize w5.setCell ⟨gS, v, none⟩ (.bool true) = W7 at HW7 ⊢
                    clear hT hVv hvb HW5
                    go_wp2_with fail
                    refine (pushI_ok _ w.heap.size pT S HW7.out.sk HW7.out.bl.size (by omega) v).mono ?_
                    rintro e w8 ⟨rfl, hs8, hf8⟩
                    have HW8 := Lib.hid (HW7.out.fq hf8 hs8)
                    have HS8 : Hid (∀ x ∈ S ++ [v], x < n) := fun x hx => by
                      rcases List.mem_append.1 hx with hx | hx
                      · exact hS.out x hx
                      · simp at hx; subst hx; exact hvn
                    have hm8 : 2 * free n (Fl.mark V v) + (S ++ [v]).length < gk := by simp; omega
                    clear hs8 hf8 HW7 hS
                    go_wp2
                    go_roundw
                    all_goals first
                      | exact ⟨j + 1, _, _, rfl, by omega, by go_num, HW8.out, HT9.out, HS8.out, hm8⟩
                      | ((repeat apply Exists.intro); exact ⟨⟨j + 1, _, _, rfl, by omega, by go_num, HW8.out, HT9.out, HS8.out, hm8⟩, rfl⟩)
                      | (simp [intOf]; omega)
            · have hjl : j = (nx u).length := by omega
              have hT2 := hT.out
              rw [hjl] at hT2
              have HT9 := Lib.hid hT2.done
              clear hT2 hT hjl
              go_wp2
              go_roundg (2 * free n V + S.length)
              case measure => omega
              case rel => exact ⟨V, S, rfl, hW.out, HT9.out, hS.out, Nat.le_refl _, by omega⟩
    · obtain rfl : n = b := by omega
      go_wp2
      try rw [Exit.noGoto_ret]
      go_ret
      exact ⟨hbl.out, Or.inr ⟨rfl, hq.out⟩⟩
end Go.Proofs.Ytpiiefdaaijgbaa
