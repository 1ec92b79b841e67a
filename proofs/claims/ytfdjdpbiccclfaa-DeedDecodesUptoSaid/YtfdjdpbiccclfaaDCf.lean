/- Decode of the document: the same deed, or the same fault at the same byte, as the plain reader's. -/
import Derived.Test.YtfdjdpbiccclfaaDCd
import Derived.Deep.CutRange
import Derived.Deep.DeepCutAuto
import Derived.Deep.RegionHeld3
namespace Go.Proofs.Ytfdjdpbiccclfaa
open Go Go.RowKit Go.Wr
set_option maxHeartbeats 4000000
set_option maxRecDepth 100000

theorem cfault_raw (w : World) (B p : Nat) (b : List Nat) (vb : Value) (hb : Blk w p 93 #[vb, .int .i64 4, .int .i64 0, .int .i64 0]) (hs : SlBy B w vb b) (hp : B ≤ p) (hl : b.length ≤ 4194304) (y : Nat) (er : Int) (he : er ≠ 0) :
    Calls Try.prog 40 #[.pointer (some ⟨p, 0, none⟩), .int .i64 (y : Int), .int .i64 er] w fun e w' => e = .returned (.tuple #[]) ∧ CuD B p b y er w' vb ∧ Ex p w w' := by
  have H := Lib.hid hb
  have HS := Lib.hid hs
  have c2 := hb.cell 2
  have c3 := hb.cell 3
  have f2 := hb.frozen 2
  have f3 := hb.frozen 3
  have hpl := hb.lt
  simp only [List.getElem?_toArray, List.getElem?_cons_zero, List.getElem?_cons_succ] at c2 c3
  have HE := Lib.hid he
  clear hb hs he
  go_enter Try.func40, Try.ntmps40
  go_wp2
  go_end0
  refine ⟨rfl, ⟨⟨4, ?_⟩, ?_, hp, HE.out, hl⟩, ((Ex.refl p w).set _ _).set _ _⟩
  · exact ((H.out.set 2 (.int .i64 (y : Int))).set 3 (.int .i64 er)).eq rfl
  · exact HS.out.below (((Ex.refl p w).set 2 _ |>.set 3 _).below hp (Nat.le_trans hp (Nat.le_of_lt hpl)))

theorem rdec_res (w : World) (tmps : Array Value) (p : Nat) (al ac : Option Addr) (nl cl nc cc : Nat) (x y : Int) (h2 : tmps.getD 2 undef = .pointer (some ⟨p, 0, none⟩)) (h3 : tmps.getD 3 undef = .int .i64 x) (h4 : tmps.getD 4 undef = .int .i64 y)
    (c0 : w.cell? ⟨p, 0, none⟩ = some (.slice al nl cl)) (c1 : w.cell? ⟨p, 1, none⟩ = some (.slice ac nc cc)) :
    (results Try.f21 tmps).run Try.prog w = .ok (.tuple #[.agg #[.slice al nl cl, .slice ac nc cc], .int .i64 x, .int .i64 y]) w := by
  simp only [Array.getD_eq_getD_getElem?] at h2 h3 h4
  simp [results, Try.results21, go_sem, h2, h3, h4, c0, c1]

theorem rdecode_long (w : World) (v : Value) (b : List Nat) (h : SlBy w.heap.size w v b) (hl : 4194304 < b.length) : Calls Try.prog 21 #[v] w (DecP b w) := by
  obtain ⟨a0, cap, rfl, hc1, hc2, hcell⟩ := h
  have hd : decD b = (⟨[], []⟩, 0, 2) := by unfold decD; rw [if_pos hl]
  have hl' : (4194304 : Int) < (b.length : Int) := by omega
  have HD := Lib.hid hd
  clear hcell hd
  go_enter Try.func21, Try.ntmps21
  go_wp2
  have hP := Blk.new w 26 #[.slice none 0 0, .slice none 0 0]
  refine bodyPost_ret (rdec_res _ _ w.heap.size none none 0 0 0 0 0 2 rfl rfl rfl (hP.cell 0) (hP.cell 1)) rfl ?_
  exact DecP.mk' (a := 0) HD.out (bAl (bRefl w) _) (isDd_nil _ _)

/-- The bytes at the beginning. -/
theorem take4 {b : List Nat} {x0 x1 x2 x3 : Nat} (h0 : b[0]? = some x0) (h1 : b[1]? = some x1) (h2 : b[2]? = some x2) (h3 : b[3]? = some x3) : b.take 4 = [x0, x1, x2, x3] := by
  match b, h0, h1, h2, h3 with
  | a :: b :: c :: d :: l, h0, h1, h2, h3 => simp at h0 h1 h2 h3; simp [h0, h1, h2, h3]

theorem rdecode_short (w : World) (v : Value) (b : List Nat) (h : SlBy w.heap.size w v b) (hl : b.length ≤ 4194304) : Calls Try.prog 21 #[v] w (DecP b w) := by
  have H := Lib.hid h
  obtain ⟨a0, cap, hv, hc1, hc2, hcell⟩ := h
  have hl' : ¬ (4194304 : Int) < (b.length : Int) := by omega
  subst hv
  have HCell := Lib.hid hcell
  obtain ⟨R, hR⟩ : ∃ R, R = pDeedR b := ⟨_, rfl⟩
  have HR := Lib.hid hR
  clear hcell hR
  go_enter Try.func21, Try.ntmps21
  go_upto_if 21 with (fail)
  generalize hW : (w.alloc (.cells #[.slice none 0 0, .slice none 0 0] 26)).alloc (.cells #[.slice a0 b.length cap, .int .i64 4, .int .i64 0, .int .i64 0] 93) = W
  obtain ⟨p, hp⟩ : ∃ p, p = w.heap.size + 1 := ⟨_, rfl⟩
  have bW : Below w.heap.size w W := by rw [← hW]; exact bAl (bAl (bRefl w) _) _
  have PB : Blk W p 93 #[.slice a0 b.length cap, .int .i64 4, .int .i64 0, .int .i64 0] := by rw [← hW]; exact Blk.new_at _ _ (by rw [hp]; simp)
  have ZB : Blk W w.heap.size 26 #[.slice none 0 0, .slice none 0 0] := by rw [← hW]; exact (Blk.new _ _ _).alloc _
  rw [← hp]
  have hzp : w.heap.size < p := by omega
  have hSB := H.out.below bW
  have HSB := Lib.hid hSB
  have HPB := Lib.hid PB
  have HZB := Lib.hid ZB
  have HBW := Lib.hid bW
  have hWl := PB.lt
  clear hW hp bW PB ZB hSB H
  go_cut [47] (fun _ wx => ∃ s, Cu w.heap.size p b s wx (.slice a0 b.length cap) ∧ Hid (R = pEnd b (stp s fun m => pBody b m)) ∧ Below w.heap.size w wx ∧ Blk wx w.heap.size 26 #[.slice none 0 0, .slice none 0 0])
  case first =>
    by_cases h4 : b.length < 4
    · have h4' : (b.length : Int) < 4 := by omega
      have e1 : Hid (R = pEnd b (stp (.error (b.length, 110)) fun m => pBody b m)) := by
        show _ = _
        rw [HR.out]
        unfold pDeedR
        rw [if_pos h4]
        rfl
      clear HR h4 HCell
      go_wp2_with fail
      refine (cfault_raw W w.heap.size p b _ HPB.out HSB.out (by omega) hl b.length 110 (by decide)).mono ?_
      rintro e w1 ⟨rfl, hd, hx⟩
      have t1 := HBW.out.trans (hx.below (B := w.heap.size) (by omega) (by omega))
      have z1 := hx.blk HZB.out (by omega)
      go_wp2
      go_meet
      exact ⟨.error (b.length, 110), hd, e1, t1, z1⟩
    · have h4' : ¬ (b.length : Int) < 4 := by omega
      obtain ⟨x0, hx0⟩ : ∃ x, b[0]? = some x := ⟨_, List.getElem?_eq_getElem (by omega)⟩
      obtain ⟨x1, hx1⟩ : ∃ x, b[1]? = some x := ⟨_, List.getElem?_eq_getElem (by omega)⟩
      obtain ⟨x2, hx2⟩ : ∃ x, b[2]? = some x := ⟨_, List.getElem?_eq_getElem (by omega)⟩
      obtain ⟨x3, hx3⟩ : ∃ x, b[3]? = some x := ⟨_, List.getElem?_eq_getElem (by omega)⟩
      have ht4 := take4 hx0 hx1 hx2 hx3
      obtain ⟨bb, off, rfl, hbb, u0, d0⟩ := HCell.out 0 x0 hx0
      obtain ⟨bb1, off1, ev, _, u1, d1⟩ := HCell.out 1 x1 hx1
      simp only [Option.some.injEq, Addr.mk.injEq, and_true] at ev
      obtain ⟨rfl, rfl⟩ := ev
      obtain ⟨bb1, off1, ev, _, u2, d2⟩ := HCell.out 2 x2 hx2
      simp only [Option.some.injEq, Addr.mk.injEq, and_true] at ev
      obtain ⟨rfl, rfl⟩ := ev
      obtain ⟨bb1, off1, ev, _, u3, d3⟩ := HCell.out 3 x3 hx3
      simp only [Option.some.injEq, Addr.mk.injEq, and_true] at ev
      obtain ⟨rfl, rfl⟩ := ev
      rw [← HBW.out.cell (p := ⟨bb, _, none⟩) hbb] at d0 d1 d2 d3
      rw [Nat.add_zero] at d0
      have HX := Lib.hid ht4
      have l0 : (0 : Int) < (b.length : Int) := by omega
      have l1 : (1 : Int) < (b.length : Int) := by omega
      have l2 : (2 : Int) < (b.length : Int) := by omega
      have l3 : (3 : Int) < (b.length : Int) := by omega
      clear hx0 hx1 hx2 hx3 ht4 HCell
      by_cases g0 : x0 = 87
      · subst g0
        by_cases g1 : x1 = 65
        · subst g1
          by_cases g2 : x2 = 82
          · subst g2
            by_cases g3 : x3 = 49
            · subst g3
              have e1 : Hid (R = pEnd b (stp (.ok 4) fun m => pBody b m)) := by
                show _ = _
                rw [HR.out]
                unfold pDeedR
                rw [if_neg h4, if_neg (by rw [HX.out]; simp)]
                rfl
              clear HR h4 HX
              go_wp2
              go_meet
              exact ⟨.ok 4, show CuL _ _ _ _ _ _ from ⟨HPB.out, HSB.out, by omega, by omega, hl⟩, e1, HBW.out, HZB.out⟩
            · have g' : ((x3 : Int) != 49) = true := by rw [bne_iff_ne]; omega
              have hne : b.take 4 ≠ [87, 65, 82, 49] := by rw [HX.out]; simp; omega
              have e1 : Hid (R = pEnd b (stp (.error (0, 110)) fun m => pBody b m)) := by
                show _ = _
                rw [HR.out]
                unfold pDeedR
                rw [if_neg h4, if_pos hne]
                rfl
              clear HR h4 HX hne
              go_wp2_with fail
              refine (cfault_raw W w.heap.size p b _ HPB.out HSB.out (by omega) hl 0 110 (by decide)).mono ?_
              rintro e w1 ⟨rfl, hd, hx⟩
              have t1 := HBW.out.trans (hx.below (B := w.heap.size) (by omega) (by omega))
              have z1 := hx.blk HZB.out (by omega)
              go_wp2
              go_meet
              exact ⟨.error (0, 110), hd, e1, t1, z1⟩
          · have g' : ((x2 : Int) != 82) = true := by rw [bne_iff_ne]; omega
            have hne : b.take 4 ≠ [87, 65, 82, 49] := by rw [HX.out]; simp; omega
            have e1 : Hid (R = pEnd b (stp (.error (0, 110)) fun m => pBody b m)) := by
              show _ = _
              rw [HR.out]
              unfold pDeedR
              rw [if_neg h4, if_pos hne]
              rfl
            clear HR h4 HX hne
            go_wp2_with fail
            refine (cfault_raw W w.heap.size p b _ HPB.out HSB.out (by omega) hl 0 110 (by decide)).mono ?_
            rintro e w1 ⟨rfl, hd, hx⟩
            have t1 := HBW.out.trans (hx.below (B := w.heap.size) (by omega) (by omega))
            have z1 := hx.blk HZB.out (by omega)
            go_wp2
            go_meet
            exact ⟨.error (0, 110), hd, e1, t1, z1⟩
        · have g' : ((x1 : Int) != 65) = true := by rw [bne_iff_ne]; omega
          have hne : b.take 4 ≠ [87, 65, 82, 49] := by rw [HX.out]; simp; omega
          have e1 : Hid (R = pEnd b (stp (.error (0, 110)) fun m => pBody b m)) := by
            show _ = _
            rw [HR.out]
            unfold pDeedR
            rw [if_neg h4, if_pos hne]
            rfl
          clear HR h4 HX hne
          go_wp2_with fail
          refine (cfault_raw W w.heap.size p b _ HPB.out HSB.out (by omega) hl 0 110 (by decide)).mono ?_
          rintro e w1 ⟨rfl, hd, hx⟩
          have t1 := HBW.out.trans (hx.below (B := w.heap.size) (by omega) (by omega))
          have z1 := hx.blk HZB.out (by omega)
          go_wp2
          go_meet
          exact ⟨.error (0, 110), hd, e1, t1, z1⟩
      · have g' : ((x0 : Int) != 87) = true := by rw [bne_iff_ne]; omega
        have hne : b.take 4 ≠ [87, 65, 82, 49] := by rw [HX.out]; simp; omega
        have e1 : Hid (R = pEnd b (stp (.error (0, 110)) fun m => pBody b m)) := by
          show _ = _
          rw [HR.out]
          unfold pDeedR
          rw [if_neg h4, if_pos hne]
          rfl
        clear HR h4 HX hne
        go_wp2_with fail
        refine (cfault_raw W w.heap.size p b _ HPB.out HSB.out (by omega) hl 0 110 (by decide)).mono ?_
        rintro e w1 ⟨rfl, hd, hx⟩
        have t1 := HBW.out.trans (hx.below (B := w.heap.size) (by omega) (by omega))
        have z1 := hx.blk HZB.out (by omega)
        go_wp2
        go_meet
        exact ⟨.error (0, 110), hd, e1, t1, z1⟩
  case rest =>
    obtain ⟨s, hc, HR2, hbel, hz⟩ := hcut
    obtain ⟨W1, rfl⟩ : ∃ x : World, x = wc := ⟨_, rfl⟩
    have hw1 := hbel.size
    obtain ⟨C, hC⟩ := hc.blk
    have hpl := hC.lt
    go_upto_region 9 with (fail)
    generalize hV : W1.alloc _ = V
    obtain ⟨q, hq⟩ : ∃ q, q = W1.heap.size := ⟨_, rfl⟩
    have HC0 : Hid (DQ p q b (.slice a0 b.length cap) w s (.slice none 0 0) (.slice none 0 0) [] [] V) := by
      show DQ _ _ _ _ _ _ _ _ _ _ _
      rw [← hV]
      exact ⟨hc.alloc _, hbel.alloc hw1 _, hz.alloc _, Blk.new_at _ _ hq, OwD.nil _ _, hzp, by have := hz.lt; omega, by omega⟩
    rw [← hq]
    clear hV hq hc hbel hz hC hw1 HCell HSB HPB HZB HBW hWl hpl
    go_wp2_with fail
    refine (cmost_any _ _ p b _ s HC0.out.cu 8 112 (by decide) rfl).mono ?_
    rintro e w2 ⟨n, s2, v, rfl, rfl, hd, hx, hr⟩
    have hn8 : Hid (∀ m, s2 = .ok m → n ≤ 8) := fun m h => by
      subst h
      obtain ⟨m0, h⟩ := stp_ok hr
      have := (pChk_ok.1 h).2
      simpa using this
    have HE0 : Hid (R = pEnd b (stp s2 fun m => pBind (pLoops (n - 0) []) pBodyC b m)) := by
      show _ = _
      rw [HR2.out, pBody_eq, stp_bind hr]
      rfl
    have HC1 := Lib.hid (HC0.out.next hx hd)
    clear hd hx hr HC0 HR2
    go_upto_block 0 with (fail)
    go_cut [8] (fun _ wx => ∃ (ls : List Lp) (vl : Value) (s : Except (Nat × Int) Nat), Hid (R = pEnd b (stp s fun m => pBodyC ls b m)) ∧ Hid (DQ p q b (.slice a0 b.length cap) w s vl (.slice none 0 0) ls [] wx) ∧ Hid (ls.length ≤ 8 ∨ ∃ e, s = .error e))
    case first =>
      go_wp2
      go_loopw [8] (fun t wr => ∃ (k : Nat) (ls : List Lp) (vl : Value) (s : Except (Nat × Int) Nat), k ≤ n ∧ ls.length = k ∧ t = .int .i64 (k : Int) ∧ Hid (∀ m, s = .ok m → n ≤ 8) ∧ Hid (R = pEnd b (stp s fun m => pBind (pLoops (n - k) ls) pBodyC b m)) ∧ Hid (DQ p q b (.slice a0 b.length cap) w s vl (.slice none 0 0) ls [] wr)) (fun t _ => n - (intOf t).toNat)
      case atStart => exact ⟨0, [], _, s2, by omega, rfl, rfl, hn8, HE0, HC1⟩
      case round =>
        clear HE0 HC1 hn8
        obtain ⟨k, ls, vl, s, hk, hll, rfl, hn8, HE, HC⟩ := hrel
        subst hll
        cases s with
        | error v =>
          obtain ⟨y, er⟩ := v
          have c3 : wr.cell? ⟨p, 3, none⟩ = some (.int .i64 er) := CuD.cell3 HC.out.cu
          have hne' : (er == 0) = false := CuD.ne' HC.out.cu
          have HE2 : Hid (R = pEnd b (stp (.error (y, er)) fun m => pBodyC ls b m)) := HE
          by_cases hlt : ls.length < n
          · have hlt' : (ls.length : Int) < (n : Int) := by omega
            go_wp2
            go_meet
            exact ⟨ls, vl, .error (y, er), HE2, HC, Or.inr ⟨_, rfl⟩⟩
          · have hlt' : ¬ (ls.length : Int) < (n : Int) := by omega
            go_wp2
            go_meet
            exact ⟨ls, vl, .error (y, er), HE2, HC, Or.inr ⟨_, rfl⟩⟩
        | ok m =>
          have c3 : wr.cell? ⟨p, 3, none⟩ = some (.int .i64 0) := CuL.cell3 HC.out.cu
          have hn := hn8.out m rfl
          clear hn8
          by_cases hlt : ls.length < n
          · have hlt' : (ls.length : Int) < (n : Int) := by omega
            have E0 : Hid (R = pEnd b (stp (.ok m) fun m => (pBind (pMost 511 113) fun h => pBind (pMost 59 113) fun a => pBind (pMost 59 113) fun b => pBind (pSig 113) fun k => pBind (pMost 1099511627776 113) fun d => pBind (pLoops (n - (ls.length + 1)) (ls ++ [⟨h, a, b, k, d⟩])) pBodyC) b m)) := by
              show _ = _
              rw [HE.out, show n - ls.length = (n - (ls.length + 1)) + 1 by omega]
              show pEnd b (pBind (pLoops ((n - (ls.length + 1)) + 1) ls) pBodyC b m) = _
              rw [pLoops_succ, pLoop_then]
              rfl
            have cvl := HC.out.ow.lp.lt
            have hwz := HC.out.zb.lt
            have HCA := Lib.hid (HC.out.alloc (.cells #[.int .i64 0, .int .i64 0, .int .i64 0, .int .i64 0, .int .i64 0] 54))
            have TB : Blk (wr.alloc (.cells #[.int .i64 0, .int .i64 0, .int .i64 0, .int .i64 0, .int .i64 0] 54)) wr.heap.size 54 #[.int .i64 0, .int .i64 0, .int .i64 0, .int .i64 0, .int .i64 0] := Blk.new _ _ _
            have hpl := HC.out.cu.blk
            go_upto_region 14 with (fail)
            generalize hV : wr.alloc (.cells #[.int .i64 0, .int .i64 0, .int .i64 0, .int .i64 0, .int .i64 0] 54) = V
            rw [hV] at HCA TB
            obtain ⟨t, ht⟩ : ∃ t, t = wr.heap.size := ⟨_, rfl⟩
            rw [← ht] at TB cvl hwz ⊢
            have hne : vl.ownBlock ≠ some t := fun e => by have := (cvl t e).2; omega
            have htp : t ≠ p := by obtain ⟨C, hC⟩ := hpl; have := hC.lt; omega
            have htw : w.heap.size ≤ t := by omega
            have D0 := HCA
            have T0 := Lib.hid TB
            clear hV ht cvl hwz HC HCA TB HE c3 hpl
            go_wp2_with fail
            refine (cmost_any _ _ p b _ (.ok m) D0.out.cu 511 113 (by decide) rfl).mono ?_
            rintro e w3 ⟨zh, s0, v, rfl, rfl, hd, hx, hr⟩
            have E1 : Hid (R = pEnd b (stp s0 fun m => (pBind (pMost 59 113) fun a => pBind (pMost 59 113) fun b => pBind (pSig 113) fun k => pBind (pMost 1099511627776 113) fun d => pBind (pLoops (n - (ls.length + 1)) (ls ++ [⟨zh, a, b, k, d⟩])) pBodyC) b m)) := by show _ = _; rw [E0.out, stp_bind hr]
            have DN := D0.out.next hx hd
            have TN := hx.blk T0.out htp
            have ct0 := TN.cell 0
            have ft0 := TN.frozen 0
            simp only [List.getElem?_toArray, List.getElem?_cons_zero] at ct0
            have D1 := Lib.hid (DN.setL (i := 0) TN htw hne (.int .i64 (zh : Int)))
            have T1 : Hid (Blk (w3.setCell ⟨t, 0, none⟩ (.int .i64 (zh : Int))) t 54 #[.int .i64 (zh : Int), .int .i64 0, .int .i64 0, .int .i64 0, .int .i64 0]) := (TN.set 0 _).eq rfl
            clear hr hd hx DN TN D0 T0 E0
            go_wp2_with fail
            refine (cmost_any _ _ p b _ s0 D1.out.cu 59 113 (by decide) rfl).mono ?_
            rintro e w4 ⟨za, s1, v, rfl, rfl, hd, hx, hr⟩
            have E2 : Hid (R = pEnd b (stp s1 fun m => (pBind (pMost 59 113) fun b => pBind (pSig 113) fun k => pBind (pMost 1099511627776 113) fun d => pBind (pLoops (n - (ls.length + 1)) (ls ++ [⟨zh, za, b, k, d⟩])) pBodyC) b m)) := by show _ = _; rw [E1.out, stp_bind hr]
            have DN := D1.out.next hx hd
            have TN := hx.blk T1.out htp
            have ct1 := TN.cell 1
            have ft1 := TN.frozen 1
            simp only [List.getElem?_toArray, List.getElem?_cons_zero, List.getElem?_cons_succ] at ct1
            have D2 := Lib.hid (DN.setL (i := 1) TN htw hne (.int .i64 (za : Int)))
            have T2 : Hid (Blk (w4.setCell ⟨t, 1, none⟩ (.int .i64 (za : Int))) t 54 #[.int .i64 (zh : Int), .int .i64 (za : Int), .int .i64 0, .int .i64 0, .int .i64 0]) := (TN.set 1 _).eq rfl
            clear hr hd hx DN TN ct0 ft0 D1 T1 E1
            go_wp2_with fail
            refine (cmost_any _ _ p b _ s1 D2.out.cu 59 113 (by decide) rfl).mono ?_
            rintro e w5 ⟨zb, s2', v, rfl, rfl, hd, hx, hr⟩
            have E3 : Hid (R = pEnd b (stp s2' fun m => (pBind (pSig 113) fun k => pBind (pMost 1099511627776 113) fun d => pBind (pLoops (n - (ls.length + 1)) (ls ++ [⟨zh, za, zb, k, d⟩])) pBodyC) b m)) := by show _ = _; rw [E2.out, stp_bind hr]
            have DN := D2.out.next hx hd
            have TN := hx.blk T2.out htp
            have ct2 := TN.cell 2
            have ft2 := TN.frozen 2
            simp only [List.getElem?_toArray, List.getElem?_cons_zero, List.getElem?_cons_succ] at ct2
            have D3 := Lib.hid (DN.setL (i := 2) TN htw hne (.int .i64 (zb : Int)))
            have T3 : Hid (Blk (w5.setCell ⟨t, 2, none⟩ (.int .i64 (zb : Int))) t 54 #[.int .i64 (zh : Int), .int .i64 (za : Int), .int .i64 (zb : Int), .int .i64 0, .int .i64 0]) := (TN.set 2 _).eq rfl
            clear hr hd hx DN TN ct1 ft1 D2 T2 E2
            go_wp2_with fail
            refine (csigned_any _ _ p b _ s2' D3.out.cu 113 (by decide)).mono ?_
            rintro e w6 ⟨zk, s3, v, rfl, rfl, hd, hx, hr⟩
            have E4 : Hid (R = pEnd b (stp s3 fun m => (pBind (pMost 1099511627776 113) fun d => pBind (pLoops (n - (ls.length + 1)) (ls ++ [⟨zh, za, zb, zk, d⟩])) pBodyC) b m)) := by show _ = _; rw [E3.out, stp_bind hr]
            have DN := D3.out.next hx hd
            have TN := hx.blk T3.out htp
            have ct3 := TN.cell 3
            have ft3 := TN.frozen 3
            simp only [List.getElem?_toArray, List.getElem?_cons_zero, List.getElem?_cons_succ] at ct3
            have D4 := Lib.hid (DN.setL (i := 3) TN htw hne (.int .i64 zk))
            have T4 : Hid (Blk (w6.setCell ⟨t, 3, none⟩ (.int .i64 zk)) t 54 #[.int .i64 (zh : Int), .int .i64 (za : Int), .int .i64 (zb : Int), .int .i64 zk, .int .i64 0]) := (TN.set 3 _).eq rfl
            clear hr hd hx DN TN ct2 ft2 D3 T3 E3
            go_wp2_with fail
            refine (cmost_any _ _ p b _ s3 D4.out.cu 1099511627776 113 (by decide) (by omega)).mono ?_
            rintro e w7 ⟨zd, s4, v, rfl, rfl, hd, hx, hr⟩
            have E5 : Hid (R = pEnd b (stp s4 fun m => (pBind (pLoops (n - (ls.length + 1)) (ls ++ [⟨zh, za, zb, zk, zd⟩])) pBodyC) b m)) := by show _ = _; rw [E4.out, stp_bind hr]
            have DN := D4.out.next hx hd
            have TN := hx.blk T4.out htp
            have ct4 := TN.cell 4
            have ft4 := TN.frozen 4
            simp only [List.getElem?_toArray, List.getElem?_cons_zero, List.getElem?_cons_succ] at ct4
            have D5 := Lib.hid (DN.setL (i := 4) TN htw hne (.int .i64 (zd : Int)))
            have T5 : Hid (Blk (w7.setCell ⟨t, 4, none⟩ (.int .i64 (zd : Int))) t 54 #[.int .i64 (zh : Int), .int .i64 (za : Int), .int .i64 (zb : Int), .int .i64 zk, .int .i64 (zd : Int)]) := (TN.set 4 _).eq rfl
            clear hr hd hx DN TN ct3 ft3 D4 T4 E4
            go_upto_region 19 with (fail)
            clear ct4 ft4
            generalize hU : w7.setCell ⟨t, 4, none⟩ (.int .i64 (zd : Int)) = U
            rw [hU] at D5 T5
            have l0 := T5.out.cell 0
            have l1 := T5.out.cell 1
            have l2 := T5.out.cell 2
            have l3 := T5.out.cell 3
            have l4 := T5.out.cell 4
            have cq := D5.out.qb.cell 0
            simp only [List.getElem?_toArray, List.getElem?_cons_zero, List.getElem?_cons_succ] at l0 l1 l2 l3 l4 cq
            obtain ⟨i, hi, hz0, hz1, hz2⟩ := info_parts infoLp
            have Hi := Lib.hid hi
            have hsz := D5.out.bel.size
            have hUt := T5.out.lt
            have hUq := D5.out.qb.lt
            clear hi hU
            go_wp2_with (at_builtin; refine wpList_append_own _ rfl _ _ _ rfl w.heap.size 54 i _ 5 40 Try.underlying23 Hi.out hz0 hz1 hz2 rfl (by omega) vl ls.length (lpC ls) rfl (D5.out.ow.lp.alloc _) ⟨U.heap.size, 0, none⟩ 1 1 [.int .i64 (zh : Int), .int .i64 (za : Int), .int .i64 (zb : Int), .int .i64 zk, .int .i64 (zd : Int)] rfl rfl (World.news_of_block (cs := #[.int .i64 (zh : Int), .int .i64 (za : Int), .int .i64 (zb : Int), .int .i64 zk, .int .i64 (zd : Int)]) (t := 54) (fr := (0, 0)) (heap_alloc_new U _)) (by simp [Value.oneCell']) (by unfold maxLen; omega) (by omega) (by simp; omega) ?_; intro v' w9 hown hgrow hnil; obtain ⟨g, c', rfl, _⟩ := hown.form (by omega); have hq3 := (D5.out.qb.alloc (.cells #[.int .i64 (zh : Int), .int .i64 (za : Int), .int .i64 (zb : Int), .int .i64 zk, .int .i64 (zd : Int)] 54)).of_block (hgrow.block q (D5.out.qb.alloc _).lt (own_ne D5.out.ow.lp D5.out.qb (by decide)).symm); have cq3 : w9.cell? ⟨q, 0, none⟩ = some vl := hq3.cell 0; have g3 := hq3.frozen 0; have D6 := Lib.hid (D5.out.grow_loop ⟨zh, za, zb, zk, zd⟩ hown hgrow); clear hown hgrow hnil)
            have hll : (ls ++ [(⟨zh, za, zb, zk, zd⟩ : Lp)]).length = ls.length + 1 := by simp
            go_roundw
            all_goals first
              | exact ⟨ls.length + 1, ls ++ [⟨zh, za, zb, zk, zd⟩], _, s4, by omega, hll, by go_num, (fun _ _ => hn), E5, D6⟩
              | ((repeat apply Exists.intro); exact ⟨⟨ls.length + 1, ls ++ [⟨zh, za, zb, zk, zd⟩], _, s4, by omega, hll, by go_num, (fun _ _ => hn), E5, D6⟩, rfl⟩)
              | (simp [intOf]; omega)
          · obtain rfl : ls.length = n := by omega
            have HE2 : Hid (R = pEnd b (stp (.ok m) fun m => pBodyC ls b m)) := by show _ = _; rw [HE.out, Nat.sub_self]; rfl
            clear HE hlt hk
            go_wp2
            go_meet
            exact ⟨ls, vl, .ok m, HE2, HC, Or.inl hn⟩
    case rest =>
      obtain ⟨ls, vl, s3, HE1, HC2, hl8⟩ := hcut
      obtain ⟨W2, rfl⟩ : ∃ x : World, x = wc := ⟨_, rfl⟩
      clear HE0 HC1 hn8
      go_wp2_with fail
      refine (cmost_any _ _ p b _ s3 HC2.out.cu 512 112 (by decide) rfl).mono ?_
      rintro e w2 ⟨n, s4, v, rfl, rfl, hd, hx, hr⟩
      have hn512 : Hid (∀ m, s4 = .ok m → n ≤ 512) := fun m h => by
        subst h
        obtain ⟨m0, h⟩ := stp_ok hr
        have := (pChk_ok.1 h).2
        simpa using this
      have HE2 : Hid (R = pEnd b (stp s4 fun m => pMap (fun cs => ⟨ls, cs⟩) (pClaims (n - 0) []) b m)) := by
        show _ = _
        rw [HE1.out]
        unfold pBodyC
        rw [stp_bind hr]
        rfl
      have HC3 := Lib.hid (HC2.out.next hx hd)
      clear hd hx hr HC2 HE1
      go_upto_block 2 with (fail)
      go_cut [10] (fun _ wx => ∃ (cs : List (Cl × Value)) (vc : Value) (s : Except (Nat × Int) Nat), Hid (R = pEnd b (stp s fun m => .ok (⟨ls, cs.map (·.1)⟩, m))) ∧ Hid (DQ p q b (.slice a0 b.length cap) w s vl vc ls cs wx))
      case first =>
        go_wp2
        go_loopw [10] (fun t wr => ∃ (k : Nat) (cs : List (Cl × Value)) (vc : Value) (s : Except (Nat × Int) Nat), k ≤ n ∧ cs.length = k ∧ t = .int .i64 (k : Int) ∧ Hid (∀ m, s = .ok m → n ≤ 512) ∧ Hid (R = pEnd b (stp s fun m => pMap (fun cs => ⟨ls, cs⟩) (pClaims (n - k) (cs.map (·.1))) b m)) ∧ Hid (DQ p q b (.slice a0 b.length cap) w s vl vc ls cs wr)) (fun t _ => n - (intOf t).toNat)
        case atStart => exact ⟨0, [], _, s4, by omega, rfl, rfl, hn512, HE2, HC3⟩
        case round =>
          clear HE2 HC3 hn512
          obtain ⟨k, cs, vc, s, hk, hll, rfl, hn8, HE, HC⟩ := hrel
          subst hll
          cases s with
          | error v =>
            obtain ⟨y, er⟩ := v
            have c3 : wr.cell? ⟨p, 3, none⟩ = some (.int .i64 er) := CuD.cell3 HC.out.cu
            have hne' : (er == 0) = false := CuD.ne' HC.out.cu
            have HE2 : Hid (R = pEnd b (stp (.error (y, er)) fun m => .ok ((⟨ls, cs.map (·.1)⟩ : Dd), m))) := HE
            by_cases hlt : cs.length < n
            · have hlt' : (cs.length : Int) < (n : Int) := by omega
              go_wp2
              go_meet
              exact ⟨cs, vc, .error (y, er), HE2, HC⟩
            · have hlt' : ¬ (cs.length : Int) < (n : Int) := by omega
              go_wp2
              go_meet
              exact ⟨cs, vc, .error (y, er), HE2, HC⟩
          | ok m =>
            have c3 : wr.cell? ⟨p, 3, none⟩ = some (.int .i64 0) := CuL.cell3 HC.out.cu
            have hn := hn8.out m rfl
            clear hn8
            by_cases hlt : cs.length < n
            · have hlt' : (cs.length : Int) < (n : Int) := by omega
              have E0 : Hid (R = pEnd b (stp (.ok m) fun m => (pBind pClaim fun x => pMap (fun cs => ⟨ls, cs⟩) (pClaims (n - (cs.length + 1)) (cs.map (·.1) ++ [x]))) b m)) := by
                show _ = _
                rw [HE.out, show n - cs.length = (n - (cs.length + 1)) + 1 by omega]
                show pEnd b (pMap (fun cs => ⟨ls, cs⟩) (pClaims ((n - (cs.length + 1)) + 1) (cs.map (·.1))) b m) = _
                rw [pClaims_succ]
                rfl
              have hlts := HC.out.ow.lt
              have HLT := Lib.hid hlts
              have hbw := HC.out.bel.size
              have hvl := HC.out.ow.cl.lt
              clear HE hlts
              go_wp2_with fail
              refine (cclaim_ok wr w.heap.size p m b _ HC.out.cu).mono ?_
              rintro e w3 hr
              obtain ⟨x, s5, v, rfl, ⟨vx, rfl, hox⟩, hd, hx, hr⟩ := hr.rx
              have E1 : Hid (R = pEnd b (stp s5 fun m => pMap (fun cs => ⟨ls, cs⟩) (pClaims (n - (cs.length + 1)) ((cs ++ [(x, vx)]).map (·.1))) b m)) := by
                exact E0.out.trans ((congrArg (pEnd b) (stp_bind (s := .ok m) (P := pClaim) (q := fun x => pMap (fun cs => ⟨ls, cs⟩) (pClaims (n - (cs.length + 1)) (cs.map (·.1) ++ [x]))) hr)).trans (by simp))
              have D3 := HC.out.next hx hd
              have hsw := hx.size
              have hv1 : vx.oneCell' = true := by obtain ⟨a0, cap, e, _⟩ := hox.cells; rw [e]; rfl
              have hz := zeroClaim
              have HOX := Lib.hid hox
              have HD3 := Lib.hid D3
              clear hd hx hr E0 HC hox D3 c3
              go_upto_region 25 with (refine wpl_store rfl 61 (.tmp 11) (.tmp 100) rfl w3.heap.size 0 rfl rfl (Blk.new w3 _ _) rowClaim (bx_size _ _ _) (of_decide_eq_true (by kernel_rfl)) (bx_one _ rfl hv1) ?_; intro wn hO hN)
              rw [spl_all _ _ (by rw [bx_size]; first | (rw [bx_size]; done) | kernel_rfl)] at hN
              have TB0 := Blk.new w3 61 (bx (.bool false) f0 (.slice none 0 0))
              have D4 := (HD3.out.alloc (.cells (bx (.bool false) f0 (.slice none 0 0)) 61)).onlyC TB0 (by omega) (fun e => by have := (hvl w3.heap.size e).2; omega) hO
              have OX4 : OwC wr.heap.size wn vx x.l := (HOX.out.below (bAl (bRefl w3) (.cells (bx (.bool false) f0 (.slice none 0 0)) 61))).of_block fun g _ hg => hO.block g (blk_ne hg TB0 (by decide))
              have cq1 : wn.cell? ⟨q, 1, none⟩ = some vc := D4.qb.cell 1
              have hwq := D4.qb.lt
              have hwt := hN.lt
              have hwl := D4.bel.size
              obtain ⟨i, hi, hz0, hz1, hz2⟩ := info_parts infoCl
              have Hi := Lib.hid hi
              have HN := Lib.hid hN
              have HD4 := Lib.hid D4
              have HO4 := Lib.hid OX4
              clear hi hN D4 OX4 TB0 HD3 HOX hO
              go_upto_region 23 with (first
                | (refine wpl_load rfl 61 (.tmp 11) rfl w3.heap.size 0 rfl HN.out rowClaim (by rw [bx_size]; omega) (bx_all _ _ _) ?_)
                | (refine wpl_run rfl _ (exec_one rfl (D := bx (.bool x.d) x.f vx) (by rfl) Try.underlying24 sizeClaim zeroClaim (bx_size _ _ _) (by omega) (by omega)) ?_)
                | (at_builtin; refine wpList_append_own _ rfl _ _ _ rfl w.heap.size 61 i _ 128 1040 Try.underlying24 Hi.out hz0 hz1 hz2 (bx_size _ _ _) (by omega) vc cs.length (clC cs) rfl (HD4.out.ow.cl.alloc _) ⟨wn.heap.size, 0, none⟩ 1 1 (bx (.bool x.d) x.f vx).toList rfl (by simp [bx_size]) (World.news_of_block (cs := bx (.bool x.d) x.f vx) (t := 61) (fr := (0, 0)) (heap_alloc_new wn _)) (bx_one _ rfl hv1) (by unfold maxLen; omega) (by omega) (by simp; omega) ?_; intro v' w9 hown hgrow hnil; obtain ⟨g, c', rfl, _⟩ := hown.form (by omega); have hq3 := (HD4.out.qb.alloc (.cells (bx (.bool x.d) x.f vx) 61)).of_block (hgrow.block q (HD4.out.qb.alloc _).lt (own_ne HD4.out.ow.cl HD4.out.qb (by decide)).symm); have cq3 : w9.cell? ⟨q, 1, none⟩ = some vc := hq3.cell 1; have g3 := hq3.frozen 1; have HD6 := Lib.hid (HD4.out.grow_claim x vx HO4.out HLT.out hbw hown hgrow); clear hown hgrow hnil))
              have hll : (cs ++ [(x, vx)]).length = cs.length + 1 := by simp
              go_wp2
              go_roundw
              all_goals first
                | exact ⟨cs.length + 1, cs ++ [(x, vx)], _, s5, by omega, hll, by go_num, (fun _ _ => hn), E1, HD6⟩
                | ((repeat apply Exists.intro); exact ⟨⟨cs.length + 1, cs ++ [(x, vx)], _, s5, by omega, hll, by go_num, (fun _ _ => hn), E1, HD6⟩, rfl⟩)
                | (simp [intOf]; omega)
            · obtain rfl : cs.length = n := by omega
              have HE2 : Hid (R = pEnd b (stp (.ok m) fun m => .ok ((⟨ls, cs.map (·.1)⟩ : Dd), m))) := by show _ = _; rw [HE.out, Nat.sub_self]; rfl
              clear HE hlt hk
              go_wp2
              go_meet
              exact ⟨cs, vc, .ok m, HE2, HC⟩
      case rest =>
        obtain ⟨cs, vc, s6, HE, HC⟩ := hcut
        obtain ⟨W3, rfl⟩ : ∃ x : World, x = wc := ⟨_, rfl⟩
        clear HE2 HC3 hn512
        cases s6 with
        | error v =>
          obtain ⟨y, er⟩ := v
          have e1 : Hid (R = .error (y, er)) := by show _ = _; rw [HE.out]; rfl
          have HD := Lib.hid (show CuD _ _ _ _ _ _ _ from HC.out.cu)
          have HZ := Lib.hid HC.out.zb
          have HB := Lib.hid HC.out.bel
          clear HE HC
          obtain ⟨W4, hW4⟩ : ∃ x : World, x = W3 := ⟨_, rfl⟩
          rw [← hW4] at HD HZ HB ⊢
          clear hW4
          have c3 := HD.out.cell3
          have hne := HD.out.ne
          have hne' := HD.out.ne'
          obtain ⟨a9, hk9⟩ := HD.out.blk
          have c1 := hk9.cell 1
          have c2 := hk9.cell 2
          simp only [List.getElem?_toArray, List.getElem?_cons_zero, List.getElem?_cons_succ] at c1 c2
          have z0 : W4.cell? ⟨w.heap.size, 0, none⟩ = some (.slice none 0 0) := HZ.out.cell 0
          have z1 : W4.cell? ⟨w.heap.size, 1, none⟩ = some (.slice none 0 0) := HZ.out.cell 1
          have y0 := HZ.out.frozen 0
          have y1 := HZ.out.frozen 1
          clear hk9
          go_upto_region 29 with (fail)
          go_region
          have hzb := Blk.drew ((HZ.out.set 0 (.slice none 0 0)).set 1 (.slice none 0 0))
          go_wp2
          refine bodyPost_ret (rdec_res _ _ w.heap.size none none 0 0 0 0 (y : Int) er rfl rfl rfl (hzb.cell 0) (hzb.cell 1)) rfl ?_
          refine DecP.mk' (decD_err hl (HR.out.symm.trans e1.out)) ?_ (isDd_nil _ _)
          exact ((HB.out.setCell (p := ⟨w.heap.size, 0, none⟩) (Nat.le_refl _) _).setCell (p := ⟨w.heap.size, 1, none⟩) (Nat.le_refl _) _).drew
        | ok m =>
          have HL := Lib.hid (show CuL _ _ _ _ _ _ from HC.out.cu)
          have c3 := HL.out.cell3
          have c1 := HL.out.cell1
          by_cases hm : m < b.length
          · have hm' : (m : Int) < (b.length : Int) := by omega
            have e1 : Hid (R = .error (m, 110)) := by show _ = _; rw [HE.out]; exact if_pos hm
            go_wp2_with fail
            refine (cfault_ok _ _ p m b _ HL.out m 110 (by decide)).mono ?_
            rintro e W4 ⟨rfl, hd, hx⟩
            have hD := HC.out.next (s' := .error (m, 110)) hx hd
            obtain ⟨y, hy⟩ : ∃ y, y = m := ⟨_, rfl⟩
            obtain ⟨er, her⟩ : ∃ er : Int, er = 110 := ⟨_, rfl⟩
            rw [← hy, ← her] at hd e1
            have HD := Lib.hid hd
            have HZ := Lib.hid hD.zb
            have HB := Lib.hid hD.bel
            clear hd hx hD HE HC HL c3 c1 hy her hm
            have c3 := HD.out.cell3
            have hne := HD.out.ne
            have hne' := HD.out.ne'
            obtain ⟨a9, hk9⟩ := HD.out.blk
            have c1 := hk9.cell 1
            have c2 := hk9.cell 2
            simp only [List.getElem?_toArray, List.getElem?_cons_zero, List.getElem?_cons_succ] at c1 c2
            have z0 : W4.cell? ⟨w.heap.size, 0, none⟩ = some (.slice none 0 0) := HZ.out.cell 0
            have z1 : W4.cell? ⟨w.heap.size, 1, none⟩ = some (.slice none 0 0) := HZ.out.cell 1
            have y0 := HZ.out.frozen 0
            have y1 := HZ.out.frozen 1
            clear hk9
            go_upto_region 29 with (fail)
            go_region
            have hzb := Blk.drew ((HZ.out.set 0 (.slice none 0 0)).set 1 (.slice none 0 0))
            go_wp2
            refine bodyPost_ret (rdec_res _ _ w.heap.size none none 0 0 0 0 (y : Int) er rfl rfl rfl (hzb.cell 0) (hzb.cell 1)) rfl ?_
            refine DecP.mk' (decD_err hl (HR.out.symm.trans e1.out)) ?_ (isDd_nil _ _)
            exact ((HB.out.setCell (p := ⟨w.heap.size, 0, none⟩) (Nat.le_refl _) _).setCell (p := ⟨w.heap.size, 1, none⟩) (Nat.le_refl _) _).drew
          · have hm' : ¬ (m : Int) < (b.length : Int) := by omega
            have e1 : Hid (R = .ok (⟨ls, cs.map (·.1)⟩, m)) := by show _ = _; rw [HE.out]; exact if_neg hm
            obtain ⟨al, capl, rfl⟩ := own_slice HC.out.ow.lp
            obtain ⟨ac, capc, rfl⟩ := own_slice HC.out.ow.cl
            have q0 : W3.cell? ⟨q, 0, none⟩ = some (.slice al ls.length capl) := HC.out.qb.cell 0
            have q1 : W3.cell? ⟨q, 1, none⟩ = some (.slice ac cs.length capc) := HC.out.qb.cell 1
            have z0 : W3.cell? ⟨w.heap.size, 0, none⟩ = some (.slice none 0 0) := HC.out.zb.cell 0
            have z1 : W3.cell? ⟨w.heap.size, 1, none⟩ = some (.slice none 0 0) := HC.out.zb.cell 1
            have y0 := HC.out.zb.frozen 0
            have y1 := HC.out.zb.frozen 1
            clear HE hm
            go_wp2
            have hzb := (HC.out.zb.set 0 (.slice al ls.length capl)).set 1 (.slice ac cs.length capc)
            refine bodyPost_ret (rdec_res _ _ w.heap.size al ac ls.length capl cs.length capc 0 0 rfl rfl rfl (hzb.cell 0) (hzb.cell 1)) rfl ?_
            refine DecP.mk' (a := 0) (decD_ok hl (HR.out.symm.trans e1.out)) ?_ ⟨_, _, cs, rfl, rfl, ?_⟩
            · exact (HC.out.bel.setCell (p := ⟨w.heap.size, 0, none⟩) (Nat.le_refl _) _).setCell (p := ⟨w.heap.size, 1, none⟩) (Nat.le_refl _) _
            · exact (HC.out.ow.set HC.out.zb (by decide) (by decide) (by decide)).set (HC.out.zb.set 0 _) (by decide) (by decide) (by decide)
theorem rdecode_ok (w : World) (v : Value) (b : List Nat) (h : SlBy w.heap.size w v b) : Calls Try.prog 21 #[v] w (DecP b w) := by
  by_cases hl : b.length ≤ 4194304
  · exact rdecode_short w v b h hl
  · exact rdecode_long w v b h (by omega)
end Go.Proofs.Ytfdjdpbiccclfaa
