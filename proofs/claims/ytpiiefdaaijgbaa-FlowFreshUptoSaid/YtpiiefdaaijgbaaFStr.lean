/- The program's straight: do edges that lead back in the order all lead back to a block that dominates? -/
import Derived.Test.YtpiiefdaaijgbaaFDoms
namespace Go.Proofs.Ytpiiefdaaijgbaa
open Go Go.RowKit Go.Wr Go.Fl
set_option maxHeartbeats 4000000
set_option maxRecDepth 100000

/-- A flow's blocks, to be read. -/
structure FwR (p n : Nat) (nx : Nat → List Nat) (vb : Value) (bs : List Bk) (w : World) : Prop where
  f0 : w.cell? ⟨p, 0, none⟩ = some vb
  ln : bs.length = n
  sb : SlX tK p w vb bs
  nb : ∀ b k, bs[b]? = some k → SlX tI p w k.nx.v (nI (nx b))
theorem FwR.below {p n : Nat} {nx : Nat → List Nat} {vb : Value} {bs : List Bk} {w w' : World} (h : FwR p n nx vb bs w) (hp : p < w.heap.size) (b : Below w.heap.size w w') : FwR p n nx vb bs w' :=
  ⟨(b.cell (p := ⟨p, 0, none⟩) hp).trans h.f0, h.ln, h.sb.below b, fun i k hk => (h.nb i k hk).below b⟩
theorem at_bk {w : World} {b o : Nat} {k : Bk} (h : At w b o (tK.f k)) : w.cell? ⟨b, o, none⟩ = some (.int .i64 k.fr) ∧ w.cell? ⟨b, o + 1, none⟩ = some (.int .i64 k.2) ∧ w.cell? ⟨b, o + 2, none⟩ = some k.nx.v :=
  ⟨h.cell 0 _ rfl, h.cell 1 _ rfl, h.cell 2 _ rfl⟩
theorem Pd.below {p n : Nat} {pl : Nat → Nat} {d : Nat → Option Nat} {a4 a5 : Addr} {c4 c5 : Nat} {w w' : World} (h : Pd p n pl d a4 a5 c4 c5 w) (hp : p < w.heap.size) (h4 : a4.block < w.heap.size) (h5 : a5.block < w.heap.size) (b : Below w.heap.size w w') : Pd p n pl d a4 a5 c4 c5 w' :=
  ⟨(b.cell (p := ⟨p, 4, none⟩) hp).trans h.f4, (b.cell (p := ⟨p, 5, none⟩) hp).trans h.f5, h.s4, h.s5, fun i hi => (b.cell (p := ⟨a4.block, _, none⟩) h4).trans (h.p4 i hi), fun i hi => (b.cell (p := ⟨a5.block, _, none⟩) h5).trans (h.p5 i hi)⟩
theorem straight_ok (w : World) (p n : Nat) (nx : Nat → List Nat) (pl : Nat → Nat) (d : Nat → Option Nat) (ah : Nat → List Nat) (g : Gr nx pl n ah) (hI : Idom nx pl n d) (b4 o4 b5 o5 c4 c5 : Nat) (h : Pd p n pl d ⟨b4, o4, none⟩ ⟨b5, o5, none⟩ c4 c5 w)
    (vb : Value) (bs : List Bk) (hf : FwR p n nx vb bs w) (hp : p < w.heap.size) (h4 : b4 < w.heap.size) (h5 : b5 < w.heap.size) :
    Calls Try.prog 68 #[.pointer (some ⟨p, 0, none⟩)] w fun e w' => Below w.heap.size w w' ∧ ((e = .returned (.bool true) ∧ Str nx pl n) ∨ (e = .returned (.bool false) ∧ ∃ u v, u < n ∧ v ∈ nx u ∧ pl v ≤ pl u ∧ ¬ Dom nx v u)) := by
  obtain ⟨a0, cap, rfl, h1, h2⟩ := hf.sb.form
  have hln := hf.ln
  have f0 := hf.f0
  rw [hln] at f0 h1
  have H := Lib.hid h
  have HF := Lib.hid hf
  have HI := Lib.hid hI
  have HG := Lib.hid g
  have HLN := Lib.hid hln
  unfold maxLen at h2
  clear h hf hI g hln
  go_enter Try.func68, Try.ntmps68
  go_wp2
  go_loopw [12] (fun t wr => ∃ u : Nat, u ≤ n ∧ t = .int .i64 (u : Int) ∧ Hid (∀ x, x < u → ∀ v ∈ nx x, pl v ≤ pl x → Dom nx v x) ∧ Below w.heap.size w wr) (fun t _ => n - (intOf t).toNat)
  case atStart => exact ⟨0, by omega, rfl, (fun x hx => by omega), bRefl w⟩
  case round =>
    obtain ⟨u, hu, rfl, hq, hb⟩ := hrel
    by_cases hlt : u < n
    · have hlt' : (u : Int) < (n : Int) := by omega
      obtain ⟨k, hk⟩ : ∃ k, bs[u]? = some k := ⟨_, List.getElem?_eq_getElem (by rw [HLN.out]; exact hlt)⟩
      have hFw := HF.out.below hp hb
      have hsb := hFw.sb
      rw [HLN.out] at hsb
      obtain ⟨bb, off, rfl, _, hat⟩ := hsb.get hk
      obtain ⟨c0, c1, c2⟩ := at_bk hat
      have e3 : tK.n = 3 := rfl
      rw [e3] at c0 c1 c2
      have hnx := hFw.nb u k hk
      obtain ⟨an, cn, en, hn1, hn2⟩ := hnx.form
      rw [nI_len] at en hn1
      rw [en] at c2 hnx
      unfold maxLen at hn2
      have HNX := Lib.hid hnx
      have HK := Lib.hid (H.out.below hp h4 h5 hb)
      clear hk hFw hsb hat e3 hnx en
      obtain ⟨wo, rfl⟩ : ∃ wo : World, wo = wr := ⟨_, rfl⟩
      have f0w : wo.cell? ⟨p, 0, none⟩ = some (.slice (some ⟨bb, off, none⟩) n cap) := (hb.cell (p := ⟨p, 0, none⟩) hp).trans f0
      have hpo : p < wo.heap.size := by have := hb.size; omega
      have h4o : b4 < wo.heap.size := by have := hb.size; omega
      have h5o : b5 < wo.heap.size := by have := hb.size; omega
      have HF0 := Lib.hid f0w
      clear f0w
      go_wp2
      go_loopw [20] (fun t wr => ∃ j : Nat, j ≤ (nx u).length ∧ t = .int .i64 (j : Int) ∧ Hid (∀ i, i < j → ∀ v, (nx u)[i]? = some v → pl v ≤ pl u → Dom nx v u) ∧ Below wo.heap.size wo wr) (fun t _ => (nx u).length - (intOf t).toNat)
      case atStart => exact ⟨0, by omega, rfl, (fun i hi => by omega), bAl (bRefl wo) _⟩
      case round =>
        obtain ⟨j, hj, rfl, hqj, hbo⟩ := hrel
        have htot := bThen hb hbo
        by_cases hlj : j < (nx u).length
        · have hlj' : (j : Int) < ((nx u).length : Int) := by omega
          obtain ⟨v, hv⟩ : ∃ v, (nx u)[j]? = some v := ⟨_, List.getElem?_eq_getElem hlj⟩
          have hvm : v ∈ nx u := List.mem_of_getElem? hv
          have hvn := HG.out.nlt u hlt v hvm
          obtain ⟨bv, ov, rfl, _, _, cv⟩ := SlX.int (HNX.out.below hbo) (show (nI (nx u))[j]? = some (v : Int) by unfold nI; rw [List.getElem?_map, hv]; rfl)
          have HKr := Lib.hid (HK.out.below hpo h4o h5o hbo)
          have HF0r := Lib.hid ((hbo.cell (p := ⟨p, 0, none⟩) hpo).trans HF0.out)
          have q4 := HKr.out.f4
          have pv := HKr.out.p4 v hvn
          have pu := HKr.out.p4 u hlt
          simp only at pv pu
          have hvi : (v : Int) < (n : Int) := by omega
          have hv0 : (0 : Int) ≤ (v : Int) := by omega
          have hu0 : (0 : Int) ≤ (u : Int) := by omega
          have HV := Lib.hid hv
          clear hv c0 c1 c2
          by_cases hle : pl v ≤ pl u
          · have hle' : decide ((pl v : Int) ≤ (pl u : Int)) = true := decide_eq_true (by omega)
            have hle2 : (pl v : Int) ≤ (pl u : Int) := by omega
            go_upto_region 7 with (fail)
            go_quiet ((go_at_call 28; exact Calls.quiet_of (dominates_ok _ p n nx pl d ah HG.out HI.out b4 o4 b5 o5 c4 c5 (HKr.out.drewN _) _ cap HF0r.out (v : Int) (u : Int))))
            have hkey := Lib.hid (domB_iff (nx := nx) hvn hlt)
            cases hd : domB nx n (v : Int) (u : Int) with
            | true =>
              have hD : Dom nx v u := hkey.out.mp hd
              have HD := Lib.hid hD
              clear hD hkey hd
              have hnew : Hid (∀ i, i < j + 1 → ∀ v, (nx u)[i]? = some v → pl v ≤ pl u → Dom nx v u) := fun i hi x hx hl => by
                by_cases e : i < j
                · exact hqj.out i e x hx hl
                · obtain rfl : i = j := by omega
                  have := HV.out.symm.trans hx
                  injection this with this; subst this; exact HD.out
              go_wp2
              go_roundw
              all_goals first
                | exact ⟨j + 1, by omega, by go_num, hnew, bDraw hbo _⟩
                | ((repeat apply Exists.intro); exact ⟨⟨j + 1, by omega, by go_num, hnew, bDraw hbo _⟩, rfl⟩)
                | (simp [intOf]; omega)
            | false =>
              have hnD : ¬ Dom nx v u := fun h => by have := hkey.out.mpr h; rw [hd] at this; cases this
              clear hkey hd
              have HN := Lib.hid hnD
              clear hnD
              go_wp2
              go_ret
              exact ⟨bDraw htot _, Or.inr ⟨rfl, u, v, hlt, hvm, hle, HN.out⟩⟩
          · have hle' : decide ((pl v : Int) ≤ (pl u : Int)) = false := decide_eq_false (by omega)
            have hle2 : ¬ (pl v : Int) ≤ (pl u : Int) := by omega
            have hnew : Hid (∀ i, i < j + 1 → ∀ v, (nx u)[i]? = some v → pl v ≤ pl u → Dom nx v u) := fun i hi x hx hl => by
              by_cases e : i < j
              · exact hqj.out i e x hx hl
              · obtain rfl : i = j := by omega
                have := HV.out.symm.trans hx
                injection this with this; subst this; exact absurd hl hle
            clear hqj
            go_upto_region 7 with (fail)
            go_quiet (fail)
            go_wp2
            go_roundw
            all_goals first
              | exact ⟨j + 1, by omega, by go_num, hnew, bDraw hbo _⟩
              | ((repeat apply Exists.intro); exact ⟨⟨j + 1, by omega, by go_num, hnew, bDraw hbo _⟩, rfl⟩)
              | (simp [intOf]; omega)
        · obtain rfl : j = (nx u).length := by omega
          have hnew : Hid (∀ x, x < u + 1 → ∀ v ∈ nx x, pl v ≤ pl x → Dom nx v x) := fun x hx v hv hle => by
            by_cases e : x < u
            · exact hq.out x e v hv hle
            · obtain rfl : x = u := by omega
              obtain ⟨i, hi, hiv⟩ := List.getElem_of_mem hv
              exact hqj.out i hi v (by rw [List.getElem?_eq_getElem hi, hiv]) hle
          clear hlj hqj hq HNX HK
          go_wp2
          go_roundw
          all_goals first
            | exact ⟨u + 1, by omega, by go_num, hnew, htot⟩
            | ((repeat apply Exists.intro); exact ⟨⟨u + 1, by omega, by go_num, hnew, htot⟩, rfl⟩)
            | (simp [intOf]; omega)
    · obtain rfl : u = n := by omega
      clear hlt
      go_wp2
      go_ret
      exact ⟨hb, Or.inl ⟨rfl, hq.out⟩⟩
end Go.Proofs.Ytpiiefdaaijgbaa
