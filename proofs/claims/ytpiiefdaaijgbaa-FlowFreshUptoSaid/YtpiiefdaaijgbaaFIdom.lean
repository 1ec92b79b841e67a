/- The program's dominators: the table of the nearest dominators. -/
import Derived.Test.YtpiiefdaaijgbaaFSplit
import Derived.Test.YtpiiefdaaijgbaaFDmP
namespace Go.Proofs.Ytpiiefdaaijgbaa
open Go Go.RowKit Go.Wr Go.Fl
set_option maxHeartbeats 4000000
set_option maxRecDepth 100000

/-- The table's cells. -/
def dI (n : Nat) (d : Nat → Option Nat) : List Int := (List.range n).map fun b => oi (d b)
theorem dI_len (n : Nat) (d : Nat → Option Nat) : (dI n d).length = n := by simp [dI]
theorem dI_get {n b : Nat} (d : Nat → Option Nat) (h : b < n) : (dI n d)[b]? = some (oi (d b)) := by
  unfold dI
  rw [List.getElem?_map, List.getElem?_range h]
  rfl
theorem dI_put {n b : Nat} (d : Nat → Option Nat) (z : Nat) (_h : b < n) : (dI n d).set b (z : Int) = dI n (Fl.put d b z) := by
  apply List.ext_getElem?
  intro i
  rw [List.getElem?_set, dI_len]
  by_cases hi : i < n
  · rw [dI_get _ hi, dI_get _ hi]
    by_cases e : b = i
    · subst e; simp [hi, put_self, oi]
    · rw [if_neg e, put_ne (Ne.symm e)]
  · rw [List.getElem?_eq_none (by rw [dI_len]; omega), List.getElem?_eq_none (by rw [dI_len]; omega)]
    split
    · exfalso; omega
    · rfl
theorem dI_zero {n : Nat} (h : 0 < n) : (miK n n).set 0 0 = dI n tab0 := by
  apply List.ext_getElem?
  intro i
  rw [List.getElem?_set, miK_len]
  by_cases hi : i < n
  · rw [dI_get _ hi]
    by_cases e : 0 = i
    · subst e; simp [h, tab0, oi]
    · rw [if_neg e]
      unfold miK tab0
      rw [List.getElem?_map, List.getElem?_range hi, if_neg (Ne.symm e)]
      simp [hi, oi]
  · rw [List.getElem?_eq_none (by rw [miK_len]; omega), List.getElem?_eq_none (by rw [dI_len]; omega)]
    split
    · exfalso; omega
    · rfl
/-- While the table is made better. -/
structure Dw (w : World) (p n gi : Nat) (vb va vo vr vp : Value) (l : List Int) (wr : World) : Prop where
  ex : Ex p w wr
  pb : Blk wr p 93 #[vb, va, vo, vr, vp, .slice (some ⟨gi, 0, none⟩) n n, sn]
  pi : OwR tI w.heap.size wr (.slice (some ⟨gi, 0, none⟩) n n) l
section
variable {w wr w' : World} {p n gi : Nat} {vb va vo vr vp : Value} {l : List Int}
theorem Dw.drewN (h : Dw w p n gi vb va vo vr vp l wr) (k : Nat) : Dw w p n gi vb va vo vr vp l (wr.drewN k) := ⟨h.ex.drewN k, h.pb.drewN k, h.pi⟩
theorem Dw.set (h : Dw w p n gi vb va vo vr vp l wr) {k : Nat} {x : Int} (hk : k < l.length) : Dw w p n gi vb va vo vr vp (l.set k x) (wr.setCell ⟨gi, k, none⟩ (.int .i64 x)) := by
  obtain ⟨hB, C, hg⟩ := h.pi.blk (g := gi) rfl
  have hs := h.pi.set (k := k) (j := 0) (x := l[k]) (y := x) (v := .int .i64 x) (List.getElem?_eq_getElem hk) (by decide) rfl
  have e : k * tI.n + 0 = k := by show k * 1 + 0 = k; omega
  rw [e] at hs
  exact ⟨h.ex.set_new _ _ hB, h.pb.set_other gi _ _ (blk_ne h.pb hg (by decide)), hs⟩
end
/-- What the search for dominators reads. -/
structure Di (p n : Nat) (pl : Nat → Nat) (ah : Nat → List Nat) (R : List Nat) (va vr : Value) (b4 o4 c4 : Nat) (ss : List Sv) (w : World) : Prop where
  sa : SlX tII p w va ss
  ls : ss.length = n
  na : ∀ b s, ss[b]? = some s → SlX tI p w s.v (nI (ah b))
  ro : SlX tI p w vr (nI R)
  lr : R.length = n
  pr : ∀ i x, R[i]? = some x → x < n ∧ pl x = i
  pp : ∀ b, b < n → w.cell? ⟨b4, o4 + b, none⟩ = some (.int .i64 (pl b : Int))
  p4 : b4 ≠ p ∧ b4 < w.heap.size
theorem dominators_ok (w : World) (p n : Nat) (nx : Nat → List Nat) (pl : Nat → Nat) (ah : Nat → List Nat) (g : Gr nx pl n ah) (hn : n ≤ 1048576) (hah : ∀ b, (ah b).length ≤ 1048576) (hpn : ∀ c, c < n → pl c < n) (R : List Nat) (ab : Option Addr) (cb b4 o4 c4 : Nat) (va vo vr : Value) (ss : List Sv)
    (h : Di p n pl ah R va vr b4 o4 c4 ss w) (hb : Blk w p 93 #[.slice ab n cb, va, vo, vr, .slice (some ⟨b4, o4, none⟩) n c4, sn, sn]) :
    Calls Try.prog 67 #[.pointer (some ⟨p, 0, none⟩)] w fun e w' => e = .returned (.tuple #[]) ∧ ∃ gi d, Dw w p n gi (.slice ab n cb) va vo vr (.slice (some ⟨b4, o4, none⟩) n c4) (dI n d) w' ∧ Idom nx pl n d := by
  have hpl := hb.lt
  have hn0 := g.n0
  have HB := Lib.hid hb
  have HI := Lib.hid h
  have HG := Lib.hid g
  have HAH := Lib.hid hah
  have HPL := Lib.hid hpn
  have kp : w.cell? ⟨p, 0, none⟩ = some (.slice ab n cb) := hb.cell 0
  obtain ⟨ar, cr, rfl, hr1, hr2⟩ := h.ro.form
  obtain ⟨aa, ca, rfl, ha1, ha2⟩ := h.sa.form
  rw [nI_len, h.lr] at hr1 HB HI
  rw [h.ls] at ha1 HB HI
  rw [nI_len, h.lr, h.ls]
  unfold maxLen at hr2 ha2
  obtain ⟨gr, or, rfl, _, _, hc0⟩ := SlX.int (x := ((R[0]'(by rw [h.lr]; exact hn0) : Nat) : Int)) HI.out.ro (show (nI R)[0]? = _ by unfold nI; rw [List.getElem?_map, List.getElem?_eq_getElem]; rfl)
  clear hc0 h g hb hah hpn
  go_enter Try.func67, Try.ntmps67
  go_upto_region 1 with (at_make; refine wpl_make tI 0 rfl rfl _ _ rfl .i64 .i64 (n : Int) (n : Int) n rfl rfl rfl rfl (by show 8 * n ≤ _; omega) (by unfold maxLen; omega) ?_; intro w5 ho5 hb5 hlt5; have hp5 := HB.out.below hb5 HB.out.lt; have c5 := hp5.cell 5; have f5 := hp5.frozen 5; simp only [List.getElem?_toArray, List.getElem?_cons_zero, List.getElem?_cons_succ] at c5)
  have hW6 : Dw w p n w.heap.size (.slice ab n cb) (.slice aa n ca) vo (.slice (some ⟨gr, or, none⟩) n cr) (.slice (some ⟨b4, o4, none⟩) n c4) (miK n 0) (w5.setCell ⟨p, 5, none⟩ (.slice (some ⟨w.heap.size, 0, none⟩) n n)) :=
    ⟨(Ex.of_below hb5).set 5 _, (hp5.set 5 _).eq rfl, by rw [miK_zero]; exact ho5.set_other (ho5.ne hp5 (by decide))⟩
  obtain ⟨gi, hgi⟩ : ∃ g, g = w.heap.size := ⟨_, rfl⟩
  rw [← hgi] at hW6 ⊢
  have HW6 := Lib.hid hW6
  generalize (w5.setCell ⟨p, 5, none⟩ (.slice (some ⟨gi, 0, none⟩) n n)) = W6 at HW6 ⊢
  clear hW6 ho5 hb5 hlt5 hp5 f5 c5 kp hgi
  have k5 := HW6.out.pb.cell 5
  simp only [List.getElem?_toArray, List.getElem?_cons_zero, List.getElem?_cons_succ] at k5
  go_wp2
  go_loopw [23] (fun t wr => ∃ k : Nat, k ≤ n ∧ t = .int .i64 (k : Int) ∧ Hid (Dw w p n gi (.slice ab n cb) (.slice aa n ca) vo (.slice (some ⟨gr, or, none⟩) n cr) (.slice (some ⟨b4, o4, none⟩) n c4) (miK n k) wr)) (fun t _ => n - (intOf t).toNat)
  case atStart => exact ⟨0, by omega, rfl, HW6.out⟩
  case round =>
    clear HW6 k5
    obtain ⟨k, hk, rfl, hW⟩ := hrel
    have k5 := hW.out.pb.cell 5
    simp only [List.getElem?_toArray, List.getElem?_cons_zero, List.getElem?_cons_succ] at k5
    by_cases hlt : k < n
    · have hlt' : (k : Int) < (n : Int) := by omega
      have hk0 : (0 : Int) ≤ (k : Int) := by omega
      have kc := OwR.int hW.out.pi (k := k) (x := (miK n k)[k]'(by rw [miK_len]; exact hlt)) (List.getElem?_eq_getElem _)
      have kf := hW.out.pi.frozen k
      have hnew := hW.out.set (k := k) (x := -1) (by rw [miK_len]; exact hlt)
      rw [miK_succ] at hnew
      have HNW := Lib.hid hnew
      clear hnew hW
      go_wp2
      go_roundw
      all_goals first
        | exact ⟨k + 1, by omega, by go_num, HNW.out⟩
        | ((repeat apply Exists.intro); exact ⟨⟨k + 1, by omega, by go_num, HNW.out⟩, rfl⟩)
        | (simp [intOf]; omega)
    · obtain rfl : n = k := by omega
      clear hlt
      have hn0' : (0 : Int) < (n : Int) := by omega
      have kc := OwR.int hW.out.pi (k := 0) (x := (miK n n)[0]'(by rw [miK_len]; exact hn0)) (List.getElem?_eq_getElem _)
      have kf := hW.out.pi.frozen 0
      have hnew := hW.out.set (k := 0) (x := 0) (by rw [miK_len]; exact hn0)
      rw [dI_zero hn0] at hnew
      have HNW := Lib.hid hnew
      clear hnew hW
      go_upto_region 7 with (fail)
      generalize wr.setCell ⟨gi, 0, none⟩ (.int .i64 0) = WS at HNW ⊢
      clear k5 kc kf
      go_wp2
      have HPS := Lib.hid (Ps.begin HG.out)
      go_loopg [3] (n + 1) (fun m t wr => ∃ (more : Bool) (d : Nat → Option Nat) (k : Nat), t = .bool more ∧ Hid (Dw w p n gi (.slice ab n cb) (.slice aa n ca) vo (.slice (some ⟨gr, or, none⟩) n cr) (.slice (some ⟨b4, o4, none⟩) n c4) (dI n d) wr) ∧ Hid (more = true → Ps nx pl n k 1 d ∧ k ≤ n ∧ m = n + 1 - k) ∧ Hid (more = false → Idom nx pl n d))
      case atStart => exact ⟨true, tab0, 0, rfl, HNW.out, (fun _ => ⟨HPS.out, by omega, by omega⟩), (fun h => by cases h)⟩
      case round =>
        clear HNW HPS
        obtain ⟨more, d, k, rfl, hW, hP, hI⟩ := hrel
        cases more with
        | false =>
          have hId := Lib.hid (hI.out rfl)
          clear hI hP
          go_wp2
          go_end0
          exact ⟨rfl, gi, d, hW.out, hId.out⟩
        | true =>
          obtain ⟨hPs, hkn, hm⟩ := hP.out rfl
          have HPS := Lib.hid hPs
          clear hP hI hPs
          have k3 := hW.out.pb.cell 3
          simp only [List.getElem?_toArray, List.getElem?_cons_zero, List.getElem?_cons_succ] at k3
          by_cases hc1 : cr = 1
          · subst hc1
            obtain rfl : n = 1 := by omega
            go_wp2
            go_loopw [3, 45] (fun t3 t wr => t3 = .bool false ∧ t = .int .i64 0 ∧ Hid (Dw w p 1 gi (.slice ab 1 cb) (.slice aa 1 ca) vo (.slice (some ⟨gr, or, none⟩) 1 1) (.slice (some ⟨b4, o4, none⟩) 1 c4) (dI 1 d) wr)) (fun _ _ _ => 0)
            case atStart => exact ⟨rfl, rfl, hW.out⟩
            case round =>
              obtain ⟨rfl, rfl, hW2⟩ := hrel
              have hI2 : Hid (Idom nx pl 1 d) := (Rn.start HG.out HPS.out).stop HG.out fun c hc => by
                obtain rfl : c = 0 := by omega
                rw [HG.out.p0]; omega
              clear hW k3
              go_wp2
              go_roundg 0
              case measure => omega
              case rel => exact ⟨false, d, 0, rfl, hW2.out, (fun h => by cases h), fun _ => hI2.out⟩
          · go_wp2
            have hRn := Lib.hid (Rn.start HG.out HPS.out)
            go_loopw [3, 45] (fun t3 t wr => ∃ (more : Bool) (d' : Nat → Option Nat) (i : Nat), i ≤ n - 1 ∧ t3 = .bool more ∧ t = .int .i64 (i : Int) ∧ Hid (Dw w p n gi (.slice ab n cb) (.slice aa n ca) vo (.slice (some ⟨gr, or, none⟩) n cr) (.slice (some ⟨b4, o4, none⟩) n c4) (dI n d') wr) ∧ Hid (Rn nx pl n ah k (i + 1) d' more)) (fun _ t _ => n - 1 - (intOf t).toNat)
            case atStart => exact ⟨false, d, 0, by omega, rfl, rfl, hW.out, hRn.out⟩
            case round =>
              clear hW k3 hRn HPS
              obtain ⟨more, d', i, hi, rfl, rfl, hW, hR⟩ := hrel
              by_cases hlt : i < n - 1
              · have hlt' : (i : Int) < ((n - 1 : Nat) : Int) := by omega
                have hi0 : (0 : Int) ≤ (i : Int) := by omega
                obtain ⟨b, hRb⟩ : ∃ b, R[i + 1]? = some b := ⟨_, List.getElem?_eq_getElem (by rw [HI.out.lr]; omega)⟩
                obtain ⟨hbn, hplb⟩ := HI.out.pr _ _ hRb
                have hb0 : b ≠ 0 := fun e => by subst e; rw [HG.out.p0] at hplb; omega
                have hbi : (b : Int) < (n : Int) := by omega
                have hbi0 : (0 : Int) ≤ (b : Int) := by omega
                obtain ⟨gr', or', er, _, _, cb'⟩ := SlX.int (HI.out.ro.ex hW.out.ex) (show (nI R)[i + 1]? = some (b : Int) by unfold nI; rw [List.getElem?_map, hRb]; rfl)
                injection er with er
                injection er with er1 er2
                subst er1 er2
                rw [show or + (i + 1) = or + 1 + i by omega] at cb'
                obtain ⟨s, hs⟩ : ∃ s, ss[b]? = some s := ⟨_, List.getElem?_eq_getElem (by rw [HI.out.ls]; exact hbn)⟩
                have hsa := HI.out.sa.ex hW.out.ex
                obtain ⟨ba, oa, rfl, _, hat⟩ := hsa.get hs
                have ca1 := hat.cell 0 _ rfl
                rw [show oa + b * tII.n + 0 = oa + b by show oa + b * 1 + 0 = _; omega] at ca1
                have hsn := HI.out.na b s hs
                obtain ⟨as1, cs1, es1, hs1, hs2⟩ := hsn.form
                rw [nI_len] at es1 hs1
                rw [es1] at ca1 hsn
                unfold maxLen at hs2
                have hal := HAH.out b
                have HSN := Lib.hid hsn
                have HPB := Lib.hid hplb
                have hk1 : wr.cell? ⟨p, 1, none⟩ = some (.slice (some ⟨ba, oa, none⟩) n ca) := hW.out.pb.cell 1
                clear hRb hplb hs hsa hat hsn es1
                obtain ⟨wo, rfl⟩ : ∃ x : World, x = wr := ⟨_, rfl⟩
                go_wp2
                go_loopw [6, 57] (fun t6 t wr => ∃ (j : Nat) (o : Option Nat) (q : Nat), j ≤ (ah b).length ∧ t = .int .i64 (j : Int) ∧ t6 = .int .i64 (oi o) ∧ wr = wo.drewN q ∧ Hid (Bst d' ((ah b).take j) o)) (fun _ t _ => (ah b).length - (intOf t).toNat)
                case atStart => exact ⟨0, none, 0, by omega, rfl, rfl, rfl, by rw [List.take_zero]; exact Bst.nil d'⟩
                case round =>
                  clear cb' ca1 hk1
                  obtain ⟨j, o, q, hj, rfl, rfl, hw, hB⟩ := hrel
                  have HWR := Lib.hid (hW.out.drewN q)
                  rw [← hw] at HWR
                  have HW := Lib.hid hw
                  clear hw
                  have k5 : wr.cell? ⟨p, 5, none⟩ = some (.slice (some ⟨gi, 0, none⟩) n n) := HWR.out.pb.cell 5
                  by_cases hlj : j < (ah b).length
                  · have hlj' : (j : Int) < ((ah b).length : Int) := by omega
                    obtain ⟨u, hu⟩ : ∃ u, (ah b)[j]? = some u := ⟨_, List.getElem?_eq_getElem hlj⟩
                    have hun : u < n := ((HG.out.mem u b hbn).1 (List.mem_of_getElem? hu)).1
                    have hui : (u : Int) < (n : Int) := by omega
                    have hui0 : (0 : Int) ≤ (u : Int) := by omega
                    obtain ⟨bs1, os1, rfl, _, _, cu⟩ := SlX.int (HSN.out.ex HWR.out.ex) (show (nI (ah b))[j]? = some (u : Int) by unfold nI; rw [List.getElem?_map, hu]; rfl)
                    have cd := OwR.int HWR.out.pi (dI_get d' hun)
                    have htk : (ah b).take (j + 1) = (ah b).take j ++ [u] := by rw [List.take_add_one, hu]; rfl
                    have HTK := Lib.hid htk
                    clear htk hu
                    cases hdu : d' u with
                    | none =>
                      rw [hdu] at cd
                      have cd2 : wr.cell? ⟨gi, u, none⟩ = some (.int .i64 (-1)) := cd
                      have hB9 : Hid (Bst d' ((ah b).take (j + 1)) o) := by show Bst _ _ _; rw [HTK.out]; exact hB.out.skip hdu
                      clear cd hdu hB
                      go_wp2
                      go_roundw
                      all_goals first
                        | exact ⟨j + 1, o, q, by omega, by go_num, rfl, HW.out, hB9.out⟩
                        | ((repeat apply Exists.intro); exact ⟨⟨j + 1, o, q, by omega, by go_num, rfl, HW.out, hB9.out⟩, rfl⟩)
                        | (simp [intOf]; omega)
                    | some y =>
                      rw [hdu] at cd
                      have cd2 : wr.cell? ⟨gi, u, none⟩ = some (.int .i64 (y : Int)) := cd
                      have hus := Lib.hid (show (d' u).isSome = true by rw [hdu]; rfl)
                      have hyn : ¬ (y : Int) < 0 := by omega
                      clear cd hdu
                      cases o with
                      | none =>
                        have hB9 : Hid (Bst d' ((ah b).take (j + 1)) (some u)) := by show Bst _ _ _; rw [HTK.out]; exact hB.out.first hus.out
                        clear hB
                        simp only [oi]
                        go_wp2
                        go_roundw
                        all_goals first
                          | exact ⟨j + 1, some u, q, by omega, by go_num, rfl, HW.out, hB9.out⟩
                          | ((repeat apply Exists.intro); exact ⟨⟨j + 1, some u, q, by omega, by go_num, rfl, HW.out, hB9.out⟩, rfl⟩)
                          | (simp [intOf]; omega)
                      | some m =>
                        have hmn : ¬ (m : Int) < 0 := by omega
                        have hms := hB.out.isSome hR.out.ps.tb
                        have hPd : Pd p n pl d' ⟨b4, o4, none⟩ ⟨gi, 0, none⟩ c4 n wr := ⟨HWR.out.pb.cell 4, HWR.out.pb.cell 5, rfl, rfl, fun x hx => (World.cell?_of_block (HWR.out.ex.block b4 HI.out.p4.2 HI.out.p4.1)).trans (HI.out.pp x hx), fun x hx => by
                          have := OwR.int HWR.out.pi (dI_get d' hx)
                          simp only [Nat.zero_add]
                          exact this⟩
                        have HPD := Lib.hid hPd
                        have HMS := Lib.hid hms
                        clear hPd hms
                        simp only [oi]
                        go_wp2_with fail
                        refine (meet_ok _ p n nx pl d' ah HG.out hR.out.ps.tb b4 o4 gi 0 c4 n HPD.out m u HMS.out hus.out).mono ?_
                        rintro e w3 ⟨m', rfl, hmt, q', hw3⟩
                        have hB9 : Hid (Bst d' ((ah b).take (j + 1)) (some m')) := by show Bst _ _ _; rw [HTK.out]; exact hB.out.more hus.out hmt
                        have HW3 := Lib.hid (show w3 = wo.drewN (q + q') by rw [hw3, HW.out]; simp)
                        clear hB hmt hw3 HPD HMS hus
                        go_wp2
                        go_roundw
                        all_goals first
                          | exact ⟨j + 1, some m', _, by omega, by go_num, rfl, HW3.out, hB9.out⟩
                          | ((repeat apply Exists.intro); exact ⟨⟨j + 1, some m', _, by omega, by go_num, rfl, HW3.out, hB9.out⟩, rfl⟩)
                          | (simp [intOf]; omega)
                  · have hjl : j = (ah b).length := by omega
                    have hB2 := hB.out
                    rw [hjl, List.take_length] at hB2
                    have hRb : Rn nx pl n ah k (pl b) d' more := by rw [HPB.out]; exact hR.out
                    obtain ⟨z, hz⟩ := hRb.ps.found HG.out hbn hb0 hB2
                    subst hz
                    have cd := OwR.int HWR.out.pi (dI_get d' hbn)
                    have cf := HWR.out.pi.frozen b
                    obtain ⟨x, hx⟩ : ∃ x, x = oi (d' b) := ⟨_, rfl⟩
                    rw [← hx] at cd
                    have HX := Lib.hid hx
                    clear hx hB hjl
                    by_cases hxz : x = (z : Int)
                    · have hxz' : (x != (z : Int)) = false := by simp [hxz]
                      have hdz : d' b = some z := by
                        have h1 := HX.out.symm.trans hxz
                        cases hd : d' b with
                        | none => rw [hd] at h1; simp only [oi] at h1; omega
                        | some y => rw [hd] at h1; simp only [oi] at h1; exact congrArg some (by omega)
                      have hR9 := hRb.same HG.out hbn hb0 hB2 hdz
                      rw [HPB.out] at hR9
                      have HR9 := Lib.hid hR9
                      clear hR9 hRb hB2 hdz hxz
                      simp only [oi]
                      go_wp2
                      go_roundw
                      all_goals first
                        | exact ⟨more, d', i + 1, by omega, rfl, by go_num, HWR.out, HR9.out⟩
                        | ((repeat apply Exists.intro); exact ⟨⟨more, d', i + 1, by omega, rfl, by go_num, HWR.out, HR9.out⟩, rfl⟩)
                        | (simp [intOf]; omega)
                    · have hxz' : (x != (z : Int)) = true := by simp [hxz]
                      have hdz : d' b ≠ some z := fun e => hxz (by rw [HX.out, e]; rfl)
                      have hR9 := hRb.diff HG.out hbn hb0 hB2 hdz
                      rw [HPB.out] at hR9
                      have HR9 := Lib.hid hR9
                      have hnew := HWR.out.set (k := b) (x := (z : Int)) (by rw [dI_len]; exact hbn)
                      rw [dI_put d' z hbn] at hnew
                      have HNW := Lib.hid hnew
                      clear hR9 hRb hB2 hdz hxz hnew
                      simp only [oi]
                      go_wp2
                      go_roundw
                      all_goals first
                        | exact ⟨true, _, i + 1, by omega, rfl, by go_num, HNW.out, HR9.out⟩
                        | ((repeat apply Exists.intro); exact ⟨⟨true, _, i + 1, by omega, rfl, by go_num, HNW.out, HR9.out⟩, rfl⟩)
                        | (simp [intOf]; omega)
              · have hall : ∀ c, c < n → pl c < i + 1 := fun c hc => by
                  rcases Nat.lt_or_ge (pl c) n with h | h
                  · omega
                  · exfalso
                    have := HPL.out c hc
                    omega
                cases more with
                | true =>
                  obtain ⟨hkn', hPs⟩ := hR.out.next HG.out hall
                  have HPS := Lib.hid hPs
                  clear hall hR hPs
                  go_wp2
                  go_roundg (n + 1 - (k + 1))
                  case measure => omega
                  case rel => exact ⟨true, d', k + 1, rfl, hW.out, (fun _ => ⟨HPS.out, by omega, rfl⟩), (fun h => by cases h)⟩
                | false =>
                  have hId := Lib.hid (hR.out.stop HG.out hall)
                  clear hall hR
                  go_wp2
                  go_roundg 0
                  case measure => omega
                  case rel => exact ⟨false, d', k, rfl, hW.out, (fun h => by cases h), fun _ => hId.out⟩
end Go.Proofs.Ytpiiefdaaijgbaa
