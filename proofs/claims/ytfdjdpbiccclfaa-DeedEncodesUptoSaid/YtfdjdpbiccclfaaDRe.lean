/- The reader of deed: a whole deed. -/
import Derived.Test.YtfdjdpbiccclfaaDBs
import Derived.Laws.BytesArg
namespace Go.Proofs.Ytfdjdpbiccclfaa
open Go Go.RowKit Go.Wr
set_option maxHeartbeats 4000000
set_option maxRecDepth 100000

theorem rowDeed : RowTy Try.prog 26 2 := ⟨_, Try.underlying26, rfl, by kernel_rfl⟩
theorem own_slice {B : Nat} {e : TypeId} {size n : Nat} {w : World} {v : Value} {xs : List Value} (h : w.ownsRow B e size v n xs) : ∃ a c, v = .slice a n c := by
  rcases h.2 with ⟨rfl, rfl⟩ | ⟨g, cap, cur, rfl, _⟩
  · exact ⟨none, 0, rfl⟩
  · exact ⟨_, _, rfl⟩
theorem back256 {l : List Nat} (h : ∀ x ∈ l, x < 256) : (l.map fun x => UInt8.ofNat (Int.ofNat x).toNat).map UInt8.toNat = l := by
  induction l with
  | nil => rfl
  | cons y l ih =>
    simp only [List.map_cons]
    rw [ih fun x hx => h x (by simp [hx])]
    have := h y (by simp)
    congr 1
    show (UInt8.ofNat y).toNat = y
    rw [UInt8.toNat_ofNat']
    omega
theorem magic_iff {l : List Nat} (h : ∀ x ∈ l, x < 256) : (strOfNums (l.map Int.ofNat)).toList = [87, 65, 82, 49] ↔ l = [87, 65, 82, 49] := by
  rw [ByteArray.toList_eq, strOfNums_data, List.map_map]
  constructor
  · intro e
    have e2 := congrArg (List.map UInt8.toNat) e
    have e3 := back256 h
    rw [show (l.map fun x => UInt8.ofNat (Int.ofNat x).toNat) = l.map ((fun n : Int => UInt8.ofNat n.toNat) ∘ Int.ofNat) from rfl, e2] at e3
    rw [← e3]
    rfl
  · rintro rfl
    rfl

theorem rdeed_ok (w : World) (B p a : Nat) (b : List Nat) (vb : Value) (h : Rdr B p b a w vb) :
    Calls Try.prog 39 #[.pointer (some ⟨p, 0, none⟩)] w (RP B p b vb (pDeedR b) (isDd w.heap.size) w) := by
  have H := Lib.hid h
  have hpl := h.lt
  have hBp := h.hp
  have hbl := h.len
  obtain ⟨R, hR⟩ : ∃ R, R = pDeedR b := ⟨_, rfl⟩
  rw [← hR]
  have HR := Lib.hid hR
  clear h hR
  go_enter Try.func39, Try.ntmps39
  go_upto_region 1 with (fail)
  generalize hW : w.alloc (.cells #[.slice none 0 0, .slice none 0 0] 26) = W
  have xW : Ex p w W := by rw [← hW]; exact (Ex.refl p w).alloc _
  have qW : Rdr B p b a W vb := by rw [← hW]; exact H.out.below (bAl (bRefl w) _)
  have zW : Blk W w.heap.size 26 #[.slice none 0 0, .slice none 0 0] := by rw [← hW]; exact Blk.new _ _ _
  have hWs := zW.lt
  have HX := Lib.hid xW
  have HZ := Lib.hid zW
  have HQ := Lib.hid qW
  clear hW xW qW zW H
  obtain ⟨a0, cap, hvb, hc1, hc2, hcell⟩ := HQ.out.by'
  have c0 := HQ.out.blk.cell 0
  simp only [List.getElem?_toArray, List.getElem?_cons_zero] at c0
  rw [hvb] at c0
  have HCL := Lib.hid hcell
  have HVB := Lib.hid hvb
  clear hvb hcell
  go_wp2
  go_loopw [6] (fun t wr => ∃ k : Nat, k ≤ 4 ∧ k ≤ b.length ∧ t = .int .i64 (k : Int) ∧ wr = W) (fun t _ => 4 - (intOf t).toNat)
  case atStart => exact ⟨0, by omega, by omega, rfl, rfl⟩
  case round =>
    obtain ⟨k, hk, hkb, rfl, rfl⟩ := hrel
    by_cases hlt : k < 4
    · have hlt' : (k : Int) < 4 := by omega
      by_cases hbk : b.length ≤ k
      · have hbk' : (b.length : Int) ≤ (k : Int) := by omega
        have e1 : Hid (R = .error (b.length, 110)) := by show _ = _; rw [HR.out]; unfold pDeedR; rw [if_pos (by omega)]
        clear HR
        go_wp2_with fail
        refine (giveup_ok _ _ b.length 110).mono ?_
        rintro e w2 ⟨rfl, rfl⟩
        go_wp2
        exact ⟨rfl, RP.mk_err e1.out HX.out⟩
      · have hbk' : ¬ (b.length : Int) ≤ (k : Int) := by omega
        go_wp2
        go_roundw
        all_goals first
          | exact ⟨k + 1, by omega, by omega, by go_num, trivial⟩
          | ((repeat apply Exists.intro); exact ⟨⟨k + 1, by omega, by omega, by go_num, trivial⟩, rfl⟩)
          | (simp [intOf]; omega)
    · obtain rfl : k = 4 := by omega
      obtain ⟨y0, hy0⟩ : ∃ y, b[0]? = some y := ⟨_, List.getElem?_eq_getElem (by omega)⟩
      obtain ⟨bb, off, rfl, hbb, _, _⟩ := HCL.out 0 y0 hy0
      have hcap4 : (4 : Int) ≤ (cap : Int) := by omega
      have h4 : (b.take 4).length = 4 := by simp; omega
      have kb : (convert 28 9 (.slice (some ⟨bb, off, none⟩) 4 cap)).run Try.prog wr = .ok (.string (strOfNums ((b.take 4).map Int.ofNat))) wr := by
        refine run_convert_bytes_arg wr 28 5 Try.underlying28 Try.underlying5 bb off 4 cap _ (by simp; omega) (fun i hi => ?_) 9 Try.underlying9
        obtain ⟨yi, hyi⟩ : ∃ y, b[i]? = some y := ⟨_, List.getElem?_eq_getElem (by omega)⟩
        obtain ⟨bb', off', ea, _, _, hci⟩ := HCL.out i yi hyi
        simp only [Option.some.injEq, Addr.mk.injEq, and_true] at ea
        obtain ⟨rfl, rfl⟩ := ea
        rw [hci, List.getD_eq_getElem?_getD, List.getElem?_map, List.getElem?_take, if_pos hi, hyi]
        rfl
      have h256 : ∀ x ∈ b.take 4, x < 256 := fun x hx => by
        obtain ⟨i, hi⟩ := List.mem_iff_getElem?.1 (List.mem_of_mem_take hx)
        obtain ⟨_, _, _, _, h3, _⟩ := HCL.out i x hi
        exact h3
      have hmi := magic_iff h256
      obtain ⟨S, hS⟩ : ∃ S, S = strOfNums ((b.take 4).map Int.ofNat) := ⟨_, rfl⟩
      rw [← hS] at kb hmi
      have c1 := HQ.out.blk.cell 1
      have f1 := HQ.out.blk.frozen 1
      simp only [List.getElem?_toArray, List.getElem?_cons_zero, List.getElem?_cons_succ] at c1
      clear hy0 hlt hk hS h256 h4
      by_cases hm : b.take 4 = [87, 65, 82, 49]
      · have hms : (S.toList == [87, 65, 82, 49]) = true := by rw [beq_iff_eq]; exact hmi.2 hm
        have HR2 : Hid (R = pEnd b (pBody b 4)) := by show _ = _; rw [HR.out]; unfold pDeedR; rw [if_neg (by omega), if_neg (by simpa using hm)]
        clear hm hmi HR
        go_upto_region 11 with (fail)
        generalize hV : (wr.setCell ⟨p, 1, none⟩ (.int .i64 4)).alloc (.cells #[.slice none 0 0, .slice none 0 0] 26) = V
        obtain ⟨q, hq⟩ : ∃ q, q = wr.heap.size := ⟨_, rfl⟩
        have ds0 : DS B p q b vb w 4 (.slice none 0 0) (.slice none 0 0) [] [] V := by
          have hr4 : Rdr B p b 4 (wr.setCell ⟨p, 1, none⟩ (.int .i64 4)) vb :=
            ⟨(HQ.out.blk.set 1 _).eq rfl, HQ.out.by'.below ((Below.refl B wr).setCell (p := ⟨p, 1, none⟩) hBp _), hBp, hkb, hbl⟩
          rw [← hV]
          exact ⟨hr4.below (bAl (bRefl _) _), (HX.out.set 1 _).alloc _, (HZ.out.set_other p 1 _ (by omega)).alloc _, Blk.new_at _ _ (by simp [hq]), OwD.nil _ _⟩
        rw [← hq]
        have hzp : w.heap.size ≠ p := by omega
        have hzq : w.heap.size < q := by omega
        have hqp : q ≠ p := by omega
        have HC0 := Lib.hid ds0
        clear hV hq HX HZ HQ HCL HVB c0 c1 f1 kb hms hcap4 hkb hc1 hc2 hWs ds0 hbb
        rw [pBody_eq] at HR2
        go_wp2_with fail
        (with_reducible refine (rmost_eq _ B p 4 b vb HC0.out.rd 8 112 (by omega)).mono ?_)
        rintro e w2 hr
        rcases hr.cases with ⟨y, ye, hb, rfl, hx⟩ | ⟨n, m, v, hb, rfl, rfl, hd, hx⟩
        · have e1 : Hid (R = .error (y, ye)) := by show _ = _; rw [HR2.out, pBind_no hb]; rfl
          clear hr hb
          go_wp2
          exact ⟨rfl, RP.mk_err e1.out (HC0.out.ex.trans hx)⟩
        have hn8 := (pChk_ok.1 hb).2
        simp only [decide_eq_true_eq] at hn8
        have HE0 : Hid (R = pEnd b (pBind (pLoops n []) pBodyC b m)) := by show _ = _; rw [HR2.out, pBind_at hb]
        have HC1 := Lib.hid (HC0.out.next hx hd hzp hqp)
        clear hr hb hd hx HR2 HC0
        go_wp2
        go_loopw [38] (fun t wr => ∃ (k : Nat) (ls : List Lp) (vl : Value) (m : Nat), k ≤ n ∧ ls.length = k ∧ t = .int .i64 (k : Int) ∧ Hid (R = pEnd b (pBind (pLoops (n - k) ls) pBodyC b m)) ∧ Hid (DS B p q b vb w m vl (.slice none 0 0) ls [] wr)) (fun t _ => n - (intOf t).toNat)
        case atStart => exact ⟨0, [], _, m, by omega, rfl, rfl, HE0, HC1⟩
        case round =>
          clear HE0 HC1
          obtain ⟨k, ls, vl, m, hk, hll, rfl, HE, HC⟩ := hrel
          subst hll
          by_cases hlt : ls.length < n
          · have hlt' : (ls.length : Int) < (n : Int) := by omega
            have HE2 : Hid (R = pEnd b ((pBind (pMost 511 113) fun h => pBind (pMost 59 113) fun a => pBind (pMost 59 113) fun b => pBind (pSig 113) fun k => pBind (pMost 1099511627776 113) fun d => pBind (pLoops (n - (ls.length + 1)) (ls ++ [⟨h, a, b, k, d⟩])) pBodyC) b m)) := by
              show _ = _
              rw [HE.out, show n - ls.length = (n - (ls.length + 1)) + 1 by omega, pLoops_succ, pLoop_then]
            clear HE
            have cvl := HC.out.ow.lp.lt
            have hwz := HC.out.zb.lt
            have HCA := Lib.hid (HC.out.alloc (.cells #[.int .i64 0, .int .i64 0, .int .i64 0, .int .i64 0, .int .i64 0] 54))
            have TB : Blk (wr.alloc (.cells #[.int .i64 0, .int .i64 0, .int .i64 0, .int .i64 0, .int .i64 0] 54)) wr.heap.size 54 #[.int .i64 0, .int .i64 0, .int .i64 0, .int .i64 0, .int .i64 0] := Blk.new _ _ _
            go_upto_region 14 with (fail)
            generalize hV : wr.alloc (.cells #[.int .i64 0, .int .i64 0, .int .i64 0, .int .i64 0, .int .i64 0] 54) = V
            rw [hV] at HCA TB
            obtain ⟨t, ht⟩ : ∃ t, t = wr.heap.size := ⟨_, rfl⟩
            rw [← ht] at TB cvl hwz ⊢
            have hne : vl.ownBlock ≠ some t := fun e => by have := (cvl t e).2; omega
            have htp : t ≠ p := by omega
            have htw : w.heap.size ≤ t := by omega
            have D0 := HCA
            have T0 := Lib.hid TB
            have E0 := HE2
            clear hV ht cvl hwz HC HCA TB HE2
            go_wp2_with fail
            (with_reducible refine (rmost_eq _ B p _ b vb D0.out.rd 511 113 (by omega)).mono ?_)
            rintro e w3 hr
            rcases hr.cases with ⟨y, ye, hb, rfl, hx⟩ | ⟨zh, m0, v, hb, rfl, rfl, hd, hx⟩
            · have e1 : Hid (R = .error (y, ye)) := by show _ = _; rw [E0.out, pBind_no hb]; rfl
              clear hr hb
              go_wp2
              exact ⟨rfl, RP.mk_err e1.out (D0.out.ex.trans hx)⟩
            have E1 : Hid (R = pEnd b ((pBind (pMost 59 113) fun a => pBind (pMost 59 113) fun b => pBind (pSig 113) fun k => pBind (pMost 1099511627776 113) fun d => pBind (pLoops (n - (ls.length + 1)) (ls ++ [⟨zh, a, b, k, d⟩])) pBodyC) b m0)) := by show _ = _; rw [E0.out, pBind_at hb]
            have DN := D0.out.next hx hd hzp hqp
            have TN := hx.blk T0.out htp
            have ct0 := TN.cell 0
            have ft0 := TN.frozen 0
            simp only [List.getElem?_toArray, List.getElem?_cons_zero] at ct0
            have D1 := Lib.hid (DN.setL (i := 0) hpl hBp TN htw hne (.int .i64 (zh : Int)))
            have T1 : Hid (Blk (w3.setCell ⟨t, 0, none⟩ (.int .i64 (zh : Int))) t 54 #[.int .i64 (zh : Int), .int .i64 0, .int .i64 0, .int .i64 0, .int .i64 0]) := (TN.set 0 _).eq rfl
            clear hr hb hd hx DN TN D0 T0 E0
            go_wp2_with fail
            (with_reducible refine (rmost_eq _ B p _ b vb D1.out.rd 59 113 (by omega)).mono ?_)
            rintro e w4 hr
            rcases hr.cases with ⟨y, ye, hb, rfl, hx⟩ | ⟨za, m1, v, hb, rfl, rfl, hd, hx⟩
            · have e1 : Hid (R = .error (y, ye)) := by show _ = _; rw [E1.out, pBind_no hb]; rfl
              clear hr hb
              go_wp2
              exact ⟨rfl, RP.mk_err e1.out (D1.out.ex.trans hx)⟩
            have E2 : Hid (R = pEnd b ((pBind (pMost 59 113) fun b => pBind (pSig 113) fun k => pBind (pMost 1099511627776 113) fun d => pBind (pLoops (n - (ls.length + 1)) (ls ++ [⟨zh, za, b, k, d⟩])) pBodyC) b m1)) := by show _ = _; rw [E1.out, pBind_at hb]
            have DN := D1.out.next hx hd hzp hqp
            have TN := hx.blk T1.out htp
            have ct1 := TN.cell 1
            have ft1 := TN.frozen 1
            simp only [List.getElem?_toArray, List.getElem?_cons_zero, List.getElem?_cons_succ] at ct1
            have D2 := Lib.hid (DN.setL (i := 1) hpl hBp TN htw hne (.int .i64 (za : Int)))
            have T2 : Hid (Blk (w4.setCell ⟨t, 1, none⟩ (.int .i64 (za : Int))) t 54 #[.int .i64 (zh : Int), .int .i64 (za : Int), .int .i64 0, .int .i64 0, .int .i64 0]) := (TN.set 1 _).eq rfl
            clear hr hb hd hx DN TN ct0 ft0 D1 T1 E1
            go_wp2_with fail
            (with_reducible refine (rmost_eq _ B p _ b vb D2.out.rd 59 113 (by omega)).mono ?_)
            rintro e w5 hr
            rcases hr.cases with ⟨y, ye, hb, rfl, hx⟩ | ⟨zb, m2, v, hb, rfl, rfl, hd, hx⟩
            · have e1 : Hid (R = .error (y, ye)) := by show _ = _; rw [E2.out, pBind_no hb]; rfl
              clear hr hb
              go_wp2
              exact ⟨rfl, RP.mk_err e1.out (D2.out.ex.trans hx)⟩
            have E3 : Hid (R = pEnd b ((pBind (pSig 113) fun k => pBind (pMost 1099511627776 113) fun d => pBind (pLoops (n - (ls.length + 1)) (ls ++ [⟨zh, za, zb, k, d⟩])) pBodyC) b m2)) := by show _ = _; rw [E2.out, pBind_at hb]
            have DN := D2.out.next hx hd hzp hqp
            have TN := hx.blk T2.out htp
            have ct2 := TN.cell 2
            have ft2 := TN.frozen 2
            simp only [List.getElem?_toArray, List.getElem?_cons_zero, List.getElem?_cons_succ] at ct2
            have D3 := Lib.hid (DN.setL (i := 2) hpl hBp TN htw hne (.int .i64 (zb : Int)))
            have T3 : Hid (Blk (w5.setCell ⟨t, 2, none⟩ (.int .i64 (zb : Int))) t 54 #[.int .i64 (zh : Int), .int .i64 (za : Int), .int .i64 (zb : Int), .int .i64 0, .int .i64 0]) := (TN.set 2 _).eq rfl
            clear hr hb hd hx DN TN ct1 ft1 D2 T2 E2
            go_wp2_with fail
            (with_reducible refine (rsigned_ok _ B p _ b vb D3.out.rd 113).mono ?_)
            rintro e w6 hr
            rcases hr.cases with ⟨y, ye, hb, rfl, hx⟩ | ⟨zk, m3, v, hb, rfl, rfl, hd, hx⟩
            · have e1 : Hid (R = .error (y, ye)) := by show _ = _; rw [E3.out, pBind_no hb]; rfl
              clear hr hb
              go_wp2
              exact ⟨rfl, RP.mk_err e1.out (D3.out.ex.trans hx)⟩
            have E4 : Hid (R = pEnd b ((pBind (pMost 1099511627776 113) fun d => pBind (pLoops (n - (ls.length + 1)) (ls ++ [⟨zh, za, zb, zk, d⟩])) pBodyC) b m3)) := by show _ = _; rw [E3.out, pBind_at hb]
            have DN := D3.out.next hx hd hzp hqp
            have TN := hx.blk T3.out htp
            have ct3 := TN.cell 3
            have ft3 := TN.frozen 3
            simp only [List.getElem?_toArray, List.getElem?_cons_zero, List.getElem?_cons_succ] at ct3
            have D4 := Lib.hid (DN.setL (i := 3) hpl hBp TN htw hne (.int .i64 zk))
            have T4 : Hid (Blk (w6.setCell ⟨t, 3, none⟩ (.int .i64 zk)) t 54 #[.int .i64 (zh : Int), .int .i64 (za : Int), .int .i64 (zb : Int), .int .i64 zk, .int .i64 0]) := (TN.set 3 _).eq rfl
            clear hr hb hd hx DN TN ct2 ft2 D3 T3 E3
            go_wp2_with fail
            (with_reducible refine (rmost_eq _ B p _ b vb D4.out.rd 1099511627776 113 (by omega)).mono ?_)
            rintro e w7 hr
            rcases hr.cases with ⟨y, ye, hb, rfl, hx⟩ | ⟨zd, m4, v, hb, rfl, rfl, hd, hx⟩
            · have e1 : Hid (R = .error (y, ye)) := by show _ = _; rw [E4.out, pBind_no hb]; rfl
              clear hr hb
              go_wp2
              exact ⟨rfl, RP.mk_err e1.out (D4.out.ex.trans hx)⟩
            have E5 : Hid (R = pEnd b ((pBind (pLoops (n - (ls.length + 1)) (ls ++ [⟨zh, za, zb, zk, zd⟩])) pBodyC) b m4)) := by show _ = _; rw [E4.out, pBind_at hb]
            have DN := D4.out.next hx hd hzp hqp
            have TN := hx.blk T4.out htp
            have ct4 := TN.cell 4
            have ft4 := TN.frozen 4
            simp only [List.getElem?_toArray, List.getElem?_cons_zero, List.getElem?_cons_succ] at ct4
            have D5 := Lib.hid (DN.setL (i := 4) hpl hBp TN htw hne (.int .i64 (zd : Int)))
            have T5 : Hid (Blk (w7.setCell ⟨t, 4, none⟩ (.int .i64 (zd : Int))) t 54 #[.int .i64 (zh : Int), .int .i64 (za : Int), .int .i64 (zb : Int), .int .i64 zk, .int .i64 (zd : Int)]) := (TN.set 4 _).eq rfl
            clear hr hb hd hx DN TN ct3 ft3 D4 T4 E4
            go_upto_region 19 with (fail)
            clear ct4 ft4
            generalize hU : w7.setCell ⟨t, 4, none⟩ (.int .i64 (zd : Int)) = U
            rw [hU] at D5 T5
            have l0 := T5.out.cell 0
            have l1 := T5.out.cell 1
            have l2 := T5.out.cell 2
            have l3 := T5.out.cell 3
            have l4 := T5.out.cell 4
            have cq := D5.out.qb.cell 0
            simp only [List.getElem?_toArray, List.getElem?_cons_zero, List.getElem?_cons_succ] at l0 l1 l2 l3 l4 cq
            obtain ⟨i, hi, hz0, hz1, hz2⟩ := info_parts infoLp
            have Hi := Lib.hid hi
            have hsz := D5.out.ex.size
            have hUt := T5.out.lt
            have hUq := D5.out.qb.lt
            clear hi hU
            go_wp2_with (at_builtin; refine wpList_append_own _ rfl _ _ _ rfl w.heap.size 54 i _ 5 40 Try.underlying23 Hi.out hz0 hz1 hz2 rfl (by omega) vl ls.length (lpC ls) rfl (D5.out.ow.lp.alloc _) ⟨U.heap.size, 0, none⟩ 1 1 [.int .i64 (zh : Int), .int .i64 (za : Int), .int .i64 (zb : Int), .int .i64 zk, .int .i64 (zd : Int)] rfl rfl (World.news_of_block (cs := #[.int .i64 (zh : Int), .int .i64 (za : Int), .int .i64 (zb : Int), .int .i64 zk, .int .i64 (zd : Int)]) (t := 54) (fr := (0, 0)) (heap_alloc_new U _)) (by simp [Value.oneCell']) (by unfold maxLen; omega) (by omega) (by simp; omega) ?_; intro v' w9 hown hgrow hnil; obtain ⟨g, c', rfl, _⟩ := hown.form (by omega); have hq3 := (D5.out.qb.alloc (.cells #[.int .i64 (zh : Int), .int .i64 (za : Int), .int .i64 (zb : Int), .int .i64 zk, .int .i64 (zd : Int)] 54)).of_block (hgrow.block q (D5.out.qb.alloc _).lt (own_ne D5.out.ow.lp D5.out.qb (by decide)).symm); have cq3 : w9.cell? ⟨q, 0, none⟩ = some vl := hq3.cell 0; have g3 := hq3.frozen 0; have D6 := Lib.hid (D5.out.grow_loop hpl hBp hzq ⟨zh, za, zb, zk, zd⟩ hown hgrow); clear hown hgrow hnil)
            have hll : (ls ++ [(⟨zh, za, zb, zk, zd⟩ : Lp)]).length = ls.length + 1 := by simp
            go_roundw
            all_goals first
              | exact ⟨ls.length + 1, ls ++ [⟨zh, za, zb, zk, zd⟩], _, m4, by omega, hll, by go_num, E5, D6⟩
              | ((repeat apply Exists.intro); exact ⟨⟨ls.length + 1, ls ++ [⟨zh, za, zb, zk, zd⟩], _, m4, by omega, hll, by go_num, E5, D6⟩, rfl⟩)
              | (simp [intOf]; omega)
          · obtain rfl : ls.length = n := by omega
            have HE2 : Hid (R = pEnd b (pBodyC ls b m)) := by show _ = _; rw [HE.out, Nat.sub_self]; rfl
            clear HE hlt hk
            unfold pBodyC at HE2
            go_wp2_with fail
            (with_reducible refine (rmost_eq _ B p m b vb HC.out.rd 512 112 (by omega)).mono ?_)
            rintro e w2 hr
            rcases hr.cases with ⟨y, ye, hb, rfl, hx⟩ | ⟨n, m2, v, hb, rfl, rfl, hd, hx⟩
            · have e1 : Hid (R = .error (y, ye)) := by show _ = _; rw [HE2.out, pBind_no hb]; rfl
              clear hr hb
              go_wp2
              exact ⟨rfl, RP.mk_err e1.out (HC.out.ex.trans hx)⟩
            have hn := (pChk_ok.1 hb).2
            simp only [decide_eq_true_eq] at hn
            have HE3 : Hid (R = pEnd b (pMap (fun cs => ⟨ls, cs⟩) (pClaims n []) b m2)) := by show _ = _; rw [HE2.out, pBind_at hb]
            have HC2 := Lib.hid (HC.out.next hx hd hzp hqp)
            clear hr hb hd hx HE2 HC hn8
            go_wp2
            go_loopw [64] (fun t wr => ∃ (k : Nat) (cs : List (Cl × Value)) (vc : Value) (m : Nat), k ≤ n ∧ cs.length = k ∧ t = .int .i64 (k : Int) ∧ Hid (R = pEnd b (pMap (fun cs => ⟨ls, cs⟩) (pClaims (n - k) (cs.map (·.1))) b m)) ∧ Hid (DS B p q b vb w m vl vc ls cs wr)) (fun t _ => n - (intOf t).toNat)
            case atStart => exact ⟨0, [], _, m2, by omega, rfl, rfl, HE3, HC2⟩
            case round =>
              clear HE3 HC2
              obtain ⟨k, cs, vc, m, hk, hll, rfl, HE, HC⟩ := hrel
              subst hll
              by_cases hlt : cs.length < n
              · have hlt' : (cs.length : Int) < (n : Int) := by omega
                have HE2 : Hid (R = pEnd b ((pBind pClaim fun x => pMap (fun cs => ⟨ls, cs⟩) (pClaims (n - (cs.length + 1)) (cs.map (·.1) ++ [x]))) b m)) := by
                  show _ = _
                  rw [HE.out, show n - cs.length = (n - (cs.length + 1)) + 1 by omega, pClaims_succ]
                have cv : wr.drew.cell? ⟨q, 1, none⟩ = some vc := HC.out.qb.cell 1
                obtain ⟨i, hi, hz0, hz1, hz2⟩ := info_parts infoCl
                have Hi := Lib.hid hi
                have HCd := Lib.hid HC.out.drew
                have hlts := HC.out.ow.lt
                have HLT := Lib.hid hlts
                clear hi HC HE hlts
                go_upto_region 23 with (fail)
                refine wp_region_last 7 (fun w' => w'.cell? ⟨q, 1, none⟩ = some vc) mix ?_
                refine wpAnyL_take (i := 0) (v := .pointer (some ⟨q, 1, none⟩)) rfl (by kernel_rfl) (by kernel_rfl) (by kernel_rfl) (fun _ _ _ h => h) rfl (by kernel_rfl) (Or.inl ⟨by rfl, fun w' hw' => by go_simp⟩) cv ?_
                simp only [Act.put, List.getElem_toArray, List.getElem_cons_zero, List.setIfInBounds_toArray, List.set_cons_zero, List.set_cons_succ]
                refine wpAnyL_take (i := 1) (v := vc) rfl (by kernel_rfl) (by kernel_rfl) (by kernel_rfl) (fun _ _ _ h => h) rfl (by kernel_rfl) (Or.inl ⟨by rfl, fun w' hw' => by go_simp⟩) cv ?_
                simp only [Act.put, List.getElem_toArray, List.getElem_cons_zero, List.getElem_cons_succ, List.setIfInBounds_toArray, List.set_cons_zero, List.set_cons_succ]
                refine wpAnyL_take (i := 2) (v := .pointer (some ⟨p, 0, none⟩)) rfl (by kernel_rfl) (by kernel_rfl) (by kernel_rfl) (fun _ _ _ h => h) rfl (by kernel_rfl) (Or.inl ⟨by rfl, fun w' hw' => by go_simp⟩) cv ?_
                simp only [Act.put, List.getElem_toArray, List.getElem_cons_zero, List.getElem_cons_succ, List.setIfInBounds_toArray, List.set_cons_zero, List.set_cons_succ]
                refine wpAnyL_one (i := 3) (by kernel_rfl) rfl (fun K hK => ?_)
                go_simp
                go_wp2_with fail
                (with_reducible refine (rclaim_ok _ B p m b vb HCd.out.rd).mono ?_)
                rintro e w2 hr
                rcases hr.cases with ⟨y, ye, hb, rfl, hx⟩ | ⟨x, m2, v, hb, rfl, hv, hd, hx⟩
                · have e1 : Hid (R = .error (y, ye)) := by show _ = _; rw [HE2.out, pBind_no hb]; rfl
                  clear hb hr
                  go_wp2
                  exact ⟨rfl, RP.mk_err e1.out (HCd.out.ex.trans hx)⟩
                have HE3 : Hid (R = pEnd b (pMap (fun cs => ⟨ls, cs⟩) (pClaims (n - (cs.length + 1)) (cs.map (·.1) ++ [x])) b m2)) := by show _ = _; rw [HE2.out, pBind_at hb]
                have HC2 := Lib.hid (HCd.out.next hx hd hzp hqp)
                obtain ⟨vx, rfl, hox⟩ := hv
                have HOX := Lib.hid hox
                have cv2 : w2.cell? ⟨q, 1, none⟩ = some vc := HC2.out.qb.cell 1
                have hql2 := HC2.out.qb.lt
                have hsw2 := HC2.out.ex.size
                have hsw1 := HCd.out.ex.size
                have hv1 : vx.oneCell' = true := by obtain ⟨a0, cap, e, _⟩ := hox.cells; rw [e]; rfl
                clear hb hr hd hx hox HE2
                go_wp2_with fail
                refine hK.out _ _ (fun _ => cv2) ?_
                clear hK K
                refine wpAnyL_one (i := 4) (by kernel_rfl) rfl (fun K hK => ?_)
                rw [if_pos (by rfl)]
                refine wpo_run _ (exec_one rfl (D := bx (.bool x.d) x.f vx) (by rfl) Try.underlying24 sizeClaim zeroClaim (bx_size _ _ _) (by omega) (by omega)) ?_
                refine hK.out _ _ (fun _ => (HC2.out.qb.alloc _).cell 1) ?_
                clear hK K
                simp only [Act.put, List.getElem_toArray, List.getElem_cons_zero, List.getElem_cons_succ, List.setIfInBounds_toArray, List.set_cons_zero, List.set_cons_succ]
                refine wpAnyL_one (i := 5) (by kernel_rfl) rfl (fun K hK => ?_)
                refine step_append_lies _ (by rfl) _ _ _ (by rfl) w.heap.size 61 i _ 128 1040 Try.underlying24 Hi.out hz0 hz1 hz2 (bx_size _ _ _) (by omega) vc cs.length (clC cs) (by rfl) (HC2.out.alloc (.cells (bx (.bool x.d) x.f vx) 61)).ow.cl ⟨w2.heap.size, 0, none⟩ 1 1 (bx (.bool x.d) x.f vx).toList (by rfl) (by simp [bx_size])
                  (World.news_of_block (cs := bx (.bool x.d) x.f vx) (t := 61) (fr := (0, 0)) (heap_alloc_new w2 _)) (bx_one _ rfl hv1) (by omega) (by unfold maxLen; omega) (by omega) (by simp; omega) (w2.heap.size + 1) (by simp) ?_
                intro g cap' w3 hown hgrow hat hlt1
                have hq3 := (HC2.out.qb.alloc (.cells (bx (.bool x.d) x.f vx) 61)).of_block (hgrow.block q (HC2.out.qb.alloc _).lt (own_ne HC2.out.ow.cl HC2.out.qb (by decide)).symm)
                have cv3 : w3.cell? ⟨q, 1, none⟩ = some vc := hq3.cell 1
                have g3 := hq3.frozen 1
                have HC3 := Lib.hid (HC2.out.grow_claim hpl hBp hzq x vx HOX.out HLT.out hsw1 hown hgrow)
                clear hown hgrow hat
                refine hK.out _ _ (fun _ => cv3) ?_
                clear hK K
                simp only [Act.put, List.getElem_toArray, List.getElem_cons_zero, List.getElem_cons_succ, List.setIfInBounds_toArray, List.set_cons_zero, List.set_cons_succ]
                refine wpAnyL_take (i := 6) (v := .pointer (some ⟨q, 1, none⟩)) rfl (by kernel_rfl) (by kernel_rfl) (by kernel_rfl) (fun _ _ _ h => h) rfl (by kernel_rfl) (Or.inl ⟨by rfl, fun w' hw' => by go_simp⟩) cv3 ?_
                simp only [Act.put, List.getElem_toArray, List.getElem_cons_zero, List.getElem_cons_succ, List.setIfInBounds_toArray, List.set_cons_zero, List.set_cons_succ]
                refine wpAnyL_one (i := 7) (by kernel_rfl) rfl (fun K hK => ?_)
                go_simp
                refine hK.out _ _ (fun h => absurd rfl h) ?_
                clear hK K
                refine wpAnyL_done (by kernel_rfl) ?_ _
                have hll : (cs ++ [(x, vx)]).length = cs.length + 1 := by simp
                have HE4 : Hid (R = pEnd b (pMap (fun cs => ⟨ls, cs⟩) (pClaims (n - (cs.length + 1)) ((cs ++ [(x, vx)]).map (·.1))) b m2)) := by show _ = _; rw [HE3.out]; simp
                clear cv HE3
                go_wp2
                go_roundw
                all_goals first
                  | exact ⟨cs.length + 1, cs ++ [(x, vx)], _, m2, by omega, hll, by go_num, HE4, HC3⟩
                  | ((repeat apply Exists.intro); exact ⟨⟨cs.length + 1, cs ++ [(x, vx)], _, m2, by omega, hll, by go_num, HE4, HC3⟩, rfl⟩)
                  | (simp [intOf]; omega)
              · obtain rfl : cs.length = n := by omega
                have HE2 : Hid (R = pEnd b (.ok (⟨ls, cs.map (·.1)⟩, m))) := by show _ = _; rw [HE.out, Nat.sub_self]; rfl
                clear HE hlt hk
                obtain ⟨al, capl, rfl⟩ := own_slice HC.out.ow.lp
                obtain ⟨ac, capc, rfl⟩ := own_slice HC.out.ow.cl
                have c0 : wr.cell? ⟨p, 0, none⟩ = some vb := HC.out.rd.blk.cell 0
                have c1 : wr.cell? ⟨p, 1, none⟩ = some (.int .i64 (m : Int)) := HC.out.rd.blk.cell 1
                obtain ⟨a0, capb, hvb, _⟩ := HC.out.rd.by'
                rw [hvb] at c0
                have hml := HC.out.rd.at'
                have q0 : wr.cell? ⟨q, 0, none⟩ = some (.slice al ls.length capl) := HC.out.qb.cell 0
                have q1 : wr.cell? ⟨q, 1, none⟩ = some (.slice ac cs.length capc) := HC.out.qb.cell 1
                have z0 : wr.cell? ⟨w.heap.size, 0, none⟩ = some (.slice none 0 0) := HC.out.zb.cell 0
                have z1 : wr.cell? ⟨w.heap.size, 1, none⟩ = some (.slice none 0 0) := HC.out.zb.cell 1
                have y0 := HC.out.zb.frozen 0
                have y1 := HC.out.zb.frozen 1
                have HVB := Lib.hid hvb
                clear hvb
                by_cases hmb : m < b.length
                · have hmb' : (m : Int) < (b.length : Int) := by omega
                  have e1 : Hid (R = .error (m, 110)) := by show _ = _; rw [HE2.out]; exact if_pos hmb
                  clear HE2
                  go_wp2_with fail
                  go_quiet (fail)
                  go_wp2_with fail
                  refine (giveup_ok _ _ m 110).mono ?_
                  rintro e w2 ⟨rfl, rfl⟩
                  go_wp2
                  exact ⟨rfl, RP.mk_err e1.out (HC.out.ex.drewN _)⟩
                · have hmb' : ¬ (m : Int) < (b.length : Int) := by omega
                  have e1 : Hid (R = .ok (⟨ls, cs.map (·.1)⟩, m)) := by show _ = _; rw [HE2.out]; exact if_neg hmb
                  clear HE2
                  go_wp2_with fail
                  go_quiet (fail)
                  go_wp2
                  refine ret_cell rfl rfl ((((HC.out.zb.drewN nq).set 0 (.slice al ls.length capl)).set 1 (.slice ac cs.length capc)).eq (C' := #[.slice al ls.length capl, .slice ac cs.length capc]) rfl) rowDeed rfl ?_
                  have hDn := HC.out.rd.below (w' := wr.drewN nq) ⟨rfl, rfl, rfl, Nat.le_refl _, fun _ _ => rfl⟩
                  refine RP.mk_ok e1.out ⟨_, _, cs, rfl, rfl, ?_⟩ ?_ ?_
                  · exact ((HC.out.ow.of_block (w' := wr.drewN nq) fun _ _ _ _ _ => rfl).set (HC.out.zb.drewN nq) (by decide) (by decide) (by decide)).set ((HC.out.zb.drewN nq).set 0 _) (by decide) (by decide) (by decide)
                  · exact (hDn.set_other _ (by omega) (by omega)).set_other _ (by omega) (by omega)
                  · exact ((HC.out.ex.drewN nq).set_new _ (by omega)).set_new _ (by omega)
      · have hms : (S.toList == [87, 65, 82, 49]) = false := by rw [beq_eq_false_iff_ne]; exact fun e => hm (hmi.1 e)
        have e1 : Hid (R = .error (0, 110)) := by show _ = _; rw [HR.out]; unfold pDeedR; rw [if_neg (by omega), if_pos hm]
        clear hm HR hmi
        go_wp2_with fail
        refine (giveup_ok _ _ 0 110).mono ?_
        rintro e w2 ⟨rfl, rfl⟩
        go_wp2
        exact ⟨rfl, RP.mk_err e1.out HX.out⟩
end Go.Proofs.Ytfdjdpbiccclfaa
