/- ZonePuts returns true for every input; nothing that was there is turned. -/
import Derived.Test.YtfpbjjdlchplnaaRPutsP
import Derived.Test.YtfpbjjdlchplnaaRFrame
import Derived.Deep.DeepCutAuto
import Derived.Deep.CutBlock
import Derived.Deep.QuietTactic
import Derived.BigQuiet
namespace Go.Proofs.YtfpbjjdlchplnaaR
open Go Go.RowKit Go.Wr
open Go.ChangeShapes Go.WideShapes Go.ChangeAt
set_option maxHeartbeats 8000000
set_option maxRecDepth 100000

theorem ArgC.sl {w : World} {v : Value} {l : List Cn} (h : ArgC w v l) : Sl3 w v l := h.1
theorem ArgC.len {w : World} {v : Value} {l : List Cn} (h : ArgC w v l) : l.length * 24 ≤ 140737488355328 := by have := h.2.1; omega
theorem ArgC.cap {w : World} {v : Value} {l : List Cn} (h : ArgC w v l) : Cap v l.length := h.2.2.2

theorem upF_at {ul : List Int} {f : Nat → Int} {v : Int} {k : Nat} {c : Int} (h : ul[k]? = some c) : upF ul f v k = if (bd c && !decide (c < v - f k)) = true then (true, c) else (false, 0) := by unfold upF; rw [h]
theorem dnF_at {ul : List Int} {f : Nat → Int} {v : Int} {k : Nat} {c : Int} (h : ul[k]? = some c) : dnF ul f v k = if (bd c && !decide (c < f k - v)) = true then (true, c) else (false, 0) := by unfold dnF; rw [h]
theorem wayB_skip {r : Nat → Bool × Int} {n : Nat} (h : r n = (false, 0)) : pcells (wayB r n) = pcells (wayB r (n + 1)) := pcells_congr fun q _ => by
  unfold wayB
  by_cases e : q = n
  · subst e; rw [if_neg (by omega), if_pos (by omega), h]
  · by_cases c : q < n
    · rw [if_pos c, if_pos (by omega)]
    · rw [if_neg c, if_neg (by omega)]
theorem wayB_step {r : Nat → Bool × Int} {n : Nat} {y : Bool × Int} (h : r n = y) : pcells (putP (wayB r n) n y) = pcells (wayB r (n + 1)) := pcells_congr fun q _ => by
  show (if q = n then y else wayB r n q) = wayB r (n + 1) q
  unfold wayB
  by_cases e : q = n
  · subst e; rw [if_pos rfl, if_pos (by omega), h]
  · rw [if_neg e]
    by_cases c : q < n
    · rw [if_pos c, if_pos (by omega)]
    · rw [if_neg c, if_neg (by omega)]
theorem wayB_zero (r : Nat → Bool × Int) : pcells (fun _ => (false, 0)) = pcells (wayB r 0) := pcells_congr fun q _ => by unfold wayB; rw [if_neg (by omega)]
theorem upF_none {ul : List Int} {f : Nat → Int} {v : Int} {k : Nat} (h : ul.length ≤ k) : upF ul f v k = (false, 0) := by unfold upF; rw [List.getElem?_eq_none h]
theorem dnF_none {ul : List Int} {f : Nat → Int} {v : Int} {k : Nat} (h : ul.length ≤ k) : dnF ul f v k = (false, 0) := by unfold dnF; rw [List.getElem?_eq_none h]

theorem puts_any (w : World) (ns : Value) (zs : List Int) (hzs : ArgI w ns zs) (cs : Value) (l : List Cn) (hcs : ArgC w cs l) (xi : Int) (hxi : I64 xi) (v : Int) (hv : I64 v) (us : Value) (ul : List Int) (hus : ArgI w us ul) (ds : Value) (dl : List Int) (hds : ArgI w ds dl) :
    Calls Try.prog 9 #[ns, cs, .int .i64 xi, .int .i64 v, us, ds] w fun e w' => e = .returned (.bool true) ∧ Below w.heap.size w w' := by
  have HC := Lib.hid hcs
  have HZS := Lib.hid hzs
  have fi : ∀ q, q < 60 → I64 (fullF zs q) := fun q _ => fullF_i64 hzs.2.2 q
  obtain ⟨f, HF⟩ : ∃ f, Hid (f = fullF zs) := ⟨_, rfl⟩
  rw [← HF.out] at fi
  have FI := Lib.hid fi
  have hmz : MtZ (zwith znew (metL l f)) f := mtz_with (mtz_new f) (met_mtl l f)
  have hdg : ∀ p, p < 60 → (zwith znew (metL l f)).m p p = 0 := fun p hp => with_diag hmz hp
  have hzz : zwith znew (metL l f) = ⟨false, (zwith znew (metL l f)).m⟩ := by rw [← hmz.1]
  have hrg : Rng (zwith znew (metL l f)).m := zwith_rng topT_rng
  obtain ⟨m, Hmm⟩ : ∃ m, Hid (m = (zwith znew (metL l f)).m) := ⟨_, rfl⟩
  rw [← Hmm.out] at hdg hzz hrg
  rw [hzz] at hmz
  have HMT : Hid (Mt m f) := hmz.2
  have HDG := Lib.hid hdg
  have HR := Lib.hid hrg
  have HW := Lib.hid (met_wrong l f)
  have hln : (metL l f).length * 24 ≤ 140737488355328 := by
    have h1 := hcs.len
    have h2 : (metL l f).length ≤ l.length := List.length_filter_le _ _
    omega
  obtain ⟨L, HL⟩ : ∃ L, Hid (L = metL l f) := ⟨_, rfl⟩
  rw [← HL.out] at HW hln hzz
  have HZZ := Lib.hid hzz
  have HUS := Lib.hid hus
  have HDS := Lib.hid hds
  clear hcs hzs fi hmz hdg hzz hrg Hmm hus hds
  go_enter Try.func9, Try.ntmps9
  go_wp2_with fail
  refine (full_any _ _ zs HZS.out.1).mono ?_
  rintro e w1 ⟨g, rfl, hg, hgl, b1⟩
  rw [← HF.out] at hg
  have G1 := Lib.hid hg
  clear hg
  go_wp2_with fail
  refine (new_any _).mono ?_
  rintro e w2 ⟨p2, rfl, z2, b2⟩
  have t2 := bThen b1 b2
  have G2 := Lib.hid (G1.out.below b2 G1.out.lt)
  have Z2 := Lib.hid z2
  clear b1 b2 z2 G1
  go_wp2_with fail
  refine (met_any _ _ l (HC.out.sl.below t2) HC.out.cap HC.out.len g f G2.out FI.out).mono ?_
  rintro e w3 ⟨v3, rfl, o3, b3⟩
  rw [← HL.out] at o3
  have S3 := Lib.hid (Sl3.own (l := L) o3 rfl (by omega))
  have t3 := bThen t2 b3
  have G3 := Lib.hid (G2.out.below b3 G2.out.lt)
  have Z3 := Lib.hid (Z2.out.below b3 Z2.out.lt)
  clear o3 b3 t2 G2 Z2
  go_wp2_with fail
  refine (lcons_any _ _ L S3.out hln).mono ?_
  rintro e w4 ⟨v4, rfl, o4, b4⟩
  have S4 := Lib.hid (Sl3.own o4 rfl (by omega))
  have t4 := bThen t3 b4
  have G4 := Lib.hid (G3.out.below b4 G3.out.lt)
  have Z4 := Lib.hid (Z3.out.below b4 Z3.out.lt)
  clear o4 b4 t3 G3 Z3 S3
  go_wp2_with fail
  refine (with_ok _ p2 znew Z4.out topT_rng _ L S4.out HW.out).mono ?_
  rintro e w5 ⟨p5, rfl, z5, b5⟩
  rw [HZZ.out] at z5
  have t5 := bThen t4 b5
  have G5 := Lib.hid (G4.out.below b5 G4.out.lt)
  have Z5 := Lib.hid z5
  clear z5 b5 t4 G4 Z4 S4
  go_wp2_with fail
  refine (meets_any _ p5 ⟨false, m⟩ Z5.out HR.out g f G5.out FI.out).mono ?_
  rintro e w6 ⟨rfl, b6⟩
  rw [HMT.out.meets]
  have t6 := bThen t5 b6
  have G6 := Lib.hid (G5.out.below b6 G5.out.lt)
  have Z6 := Lib.hid (Z5.out.below b6 Z5.out.lt)
  clear b6 t5 G5 Z5
  by_cases hin : 1 ≤ xi ∧ xi < 60
  · obtain ⟨hi1, hi2⟩ := hin
    obtain ⟨x, rfl⟩ := Int.eq_ofNat_of_zero_le (show 0 ≤ xi by omega)
    have hx1 : 1 ≤ x := by omega
    have hx : x < 60 := by omega
    obtain ⟨Uf, HUf⟩ : ∃ Uf, Hid (Uf = upF ul f v) := ⟨_, rfl⟩
    obtain ⟨Df, HDf⟩ : ∃ Df, Hid (Df = dnF dl f v) := ⟨_, rfl⟩
    have hpf : ∃ z, PutsFacts m f x v (putP Uf x (true, 7)) Df z := by
      refine puts_facts HMT.out HR.out HDG.out hx1 hx (fun k hk hkx he => ?_) (fun k hk hkx he => ?_)
      · unfold putP at he ⊢
        rw [if_neg hkx] at he ⊢
        rw [HUf.out] at he ⊢
        exact upF_is he
      · rw [HDf.out] at he ⊢
        exact dnF_is he
    obtain ⟨zz, hpf⟩ := hpf
    obtain ⟨ze, zm⟩ := zz
    have HPF := Lib.hid hpf
    have hmk := makeP60
    obtain ⟨au, cu, eu, hul, hcu⟩ := HUS.out.1
    obtain ⟨ad, cd, ed, hdl, hcd⟩ := HDS.out.1
    subst eu
    subst ed
    have HCU := Lib.hid hcu
    have HCD := Lib.hid hcd
    have hgw := G6.out.lt
    clear hpf hcu hcd
    go_upto_block 0 with (fail)
    go_cut [18] (fun _ wc => Blk wc (w6.heap.size) 28 (pcells Uf) ∧ Blk wc (w6.heap.size + 1) 28 (pcells (fun _ => (false, 0))) ∧ Below w6.heap.size w6 wc)
    case first =>
      go_wp2
      go_loopw [18] (fun t wr => ∃ k : Nat, k ≤ 60 ∧ t = .int .i64 k ∧ Blk wr (w6.heap.size) 28 (pcells (wayB Uf k)) ∧ Blk wr (w6.heap.size + 1) 28 (pcells (fun _ => (false, 0))) ∧ Below w6.heap.size w6 wr) (fun t _ => 60 - (intOf t).toNat)
      case atStart => exact ⟨0, by omega, rfl, (((Blk.new w6 _ _).alloc _).eq (wayB_zero _)), Blk.new_at _ _ (by simp), bAl (bAl (bRefl w6) _) _⟩
      case round =>
        obtain ⟨k, hk, rfl, hb, ho, hbel⟩ := hrel
        have hgs := hb.lt
        have hos := ho.lt
        by_cases hlt : k < 60 ∧ k < ul.length
        · obtain ⟨hlk, hlu⟩ := hlt
          have hlk' : (k : Int) < 60 := by omega
          have hlu' : (k : Int) < (ul.length : Int) := by omega
          obtain ⟨c, hc⟩ : ∃ c, ul[k]? = some c := ⟨_, List.getElem?_eq_getElem hlu⟩
          obtain ⟨bb, off, rfl, h0⟩ := HCU.out k c hc
          have tw := bThen t6 hbel
          rw [← tw.cell (World.block_lt_of_cell? w _ h0)] at h0
          have HAT := Lib.hid (upF_at (f := f) (v := v) hc)
          rw [← HUf.out] at HAT
          have cg := ((G6.out.below hbel hgw).cell k).trans (rcells_get f hlk)
          have fk := FI.out k hlk
          have Hb := Lib.hid hb
          have Ho := Lib.hid ho
          clear hc ho
          by_cases h1 : -1152921504606846976 ≤ c
          · by_cases h2 : c ≤ 1152921504606846976
            · have hbc : bd c = true := bd_iff.2 ⟨h1, h2⟩
              cases hq : decide (c < v - f k) with
              | true =>
                rw [hbc, hq] at HAT
                have hs : Hid (Blk wr (w6.heap.size) 28 (pcells (wayB Uf (k + 1)))) := hb.eq (wayB_skip (HAT.out.trans rfl))
                clear hb hbc
                go_wp2
                go_quiet ((go_at_call 42; exact Calls.quiet_of_same (beyond_eq _ _ _ _ hv fk (by omega) (by omega))))
                go_wp2
                go_roundw
                case rel => first | exact ⟨k + 1, by omega, by go_num, hs.out, Ho.out, bDraw hbel _⟩ | ((repeat apply Exists.intro); exact ⟨⟨k + 1, by omega, by go_num, hs.out, Ho.out, bDraw hbel _⟩, rfl⟩)
                case measure => simp [intOf]; omega
              | false =>
                rw [hbc, hq] at HAT
                have c1 := (hb.cell (k * 2)).trans (pcells_get _ hlk).1
                have c2 := (hb.cell (k * 2 + 1)).trans (pcells_get _ hlk).2
                have f1 := hb.frozen (k * 2)
                have f2 := hb.frozen (k * 2 + 1)
                clear hb hbc
                go_wp2
                go_quiet ((go_at_call 42; exact Calls.quiet_of_same (beyond_eq _ _ _ _ hv fk (by omega) (by omega))))
                go_wp2
                go_roundw
                case rel =>
                  have R1 := ((Hb.out.set _ _).set _ _).eq ((pcells_set _ hlk (true, c)).trans (wayB_step (HAT.out.trans rfl)))
                  have R2 : ∀ u v, Blk ((wr.setCell ⟨w6.heap.size, k * 2, none⟩ u).setCell ⟨w6.heap.size, k * 2 + 1, none⟩ v) (w6.heap.size + 1) 28 (pcells (fun _ => (false, 0))) := fun u v => Blk.set_other (Blk.set_other Ho.out _ _ _ (by omega)) _ _ _ (by omega)
                  have R3 : ∀ u v, Below w6.heap.size w6 ((wr.setCell ⟨w6.heap.size, k * 2, none⟩ u).setCell ⟨w6.heap.size, k * 2 + 1, none⟩ v) := fun u v => (hbel.setCell (p := ⟨w6.heap.size, _, none⟩) (by simp) _).setCell (p := ⟨w6.heap.size, _, none⟩) (by simp) _
                  first
                    | exact ⟨k + 1, by omega, by go_num, R1, R2 _ _, bDraw (R3 _ _) _⟩
                    | ((repeat apply Exists.intro); exact ⟨⟨k + 1, by omega, by go_num, R1, R2 _ _, bDraw (R3 _ _) _⟩, rfl⟩)
                case measure => simp [intOf]; omega
            · have hbc : bd c = false := by unfold bd; exact decide_eq_false (fun h => h2 h.2)
              rw [hbc] at HAT
              have hs : Hid (Blk wr (w6.heap.size) 28 (pcells (wayB Uf (k + 1)))) := hb.eq (wayB_skip (HAT.out.trans rfl))
              have hd : decide (c ≤ 1152921504606846976) = false := decide_eq_false h2
              clear hb hbc
              go_wp2
              go_quiet (fail)
              go_wp2
              go_roundw
              case rel => first | exact ⟨k + 1, by omega, by go_num, hs.out, Ho.out, bDraw hbel _⟩ | ((repeat apply Exists.intro); exact ⟨⟨k + 1, by omega, by go_num, hs.out, Ho.out, bDraw hbel _⟩, rfl⟩)
              case measure => simp [intOf]; omega
          · have hbc : bd c = false := by unfold bd; exact decide_eq_false (fun h => h1 h.1)
            rw [hbc] at HAT
            have hs : Hid (Blk wr (w6.heap.size) 28 (pcells (wayB Uf (k + 1)))) := hb.eq (wayB_skip (HAT.out.trans rfl))
            have hd : decide (-1152921504606846976 ≤ c) = false := decide_eq_false h1
            clear hb hbc
            go_wp2
            go_quiet (fail)
            go_wp2
            go_roundw
            case rel => first | exact ⟨k + 1, by omega, by go_num, hs.out, Ho.out, bDraw hbel _⟩ | ((repeat apply Exists.intro); exact ⟨⟨k + 1, by omega, by go_num, hs.out, Ho.out, bDraw hbel _⟩, rfl⟩)
            case measure => simp [intOf]; omega
        · have hb' : Hid (Blk wr (w6.heap.size) 28 (pcells Uf)) := hb.eq (pcells_congr fun q hq => by
            unfold wayB
            by_cases e : q < k
            · rw [if_pos e]
            · rw [if_neg e, HUf.out, upF_none (by omega)])
          have ho' := Lib.hid ho
          clear hb ho
          have hex : (k < 60 ∧ ul.length ≤ k) ∨ 60 ≤ k := by omega
          clear hlt
          rcases hex with ⟨hk1, hk2⟩ | hk1
          all_goals
            go_wp2
            go_meet
            exact ⟨hb'.out, ho'.out, hbel⟩
    case rest =>
      clear hmk
      obtain ⟨bu7, bd7, b7⟩ := hcut
      have Bu7 := Lib.hid bu7
      have Bd7 := Lib.hid bd7
      clear bu7 bd7
      go_upto_block 2 with (fail)
      go_cut [19] (fun _ wc => Blk wc (w6.heap.size + 1) 28 (pcells Df) ∧ Blk wc (w6.heap.size) 28 (pcells Uf) ∧ Below w6.heap.size w6 wc)
      case first =>
        go_wp2
        go_loopw [19] (fun t wr => ∃ k : Nat, k ≤ 60 ∧ t = .int .i64 k ∧ Blk wr (w6.heap.size + 1) 28 (pcells (wayB Df k)) ∧ Blk wr (w6.heap.size) 28 (pcells Uf) ∧ Below w6.heap.size w6 wr) (fun t _ => 60 - (intOf t).toNat)
        case atStart => exact ⟨0, by omega, rfl, Bd7.out.eq (wayB_zero _), Bu7.out, b7⟩
        case round =>
          obtain ⟨k, hk, rfl, hb, ho, hbel⟩ := hrel
          have hgs := hb.lt
          have hos := ho.lt
          by_cases hlt : k < 60 ∧ k < dl.length
          · obtain ⟨hlk, hlu⟩ := hlt
            have hlk' : (k : Int) < 60 := by omega
            have hlu' : (k : Int) < (dl.length : Int) := by omega
            obtain ⟨c, hc⟩ : ∃ c, dl[k]? = some c := ⟨_, List.getElem?_eq_getElem hlu⟩
            obtain ⟨bb, off, rfl, h0⟩ := HCD.out k c hc
            have tw := bThen t6 hbel
            rw [← tw.cell (World.block_lt_of_cell? w _ h0)] at h0
            have HAT := Lib.hid (dnF_at (f := f) (v := v) hc)
            rw [← HDf.out] at HAT
            have cg := ((G6.out.below hbel hgw).cell k).trans (rcells_get f hlk)
            have fk := FI.out k hlk
            have Hb := Lib.hid hb
            have Ho := Lib.hid ho
            clear hc ho
            by_cases h1 : -1152921504606846976 ≤ c
            · by_cases h2 : c ≤ 1152921504606846976
              · have hbc : bd c = true := bd_iff.2 ⟨h1, h2⟩
                cases hq : decide (c < f k - v) with
                | true =>
                  rw [hbc, hq] at HAT
                  have hs : Hid (Blk wr (w6.heap.size + 1) 28 (pcells (wayB Df (k + 1)))) := hb.eq (wayB_skip (HAT.out.trans rfl))
                  clear hb hbc
                  go_wp2
                  go_quiet ((go_at_call 42; exact Calls.quiet_of_same (beyond_eq _ _ _ _ fk hv (by omega) (by omega))))
                  go_wp2
                  go_roundw
                  case rel => first | exact ⟨k + 1, by omega, by go_num, hs.out, Ho.out, bDraw hbel _⟩ | ((repeat apply Exists.intro); exact ⟨⟨k + 1, by omega, by go_num, hs.out, Ho.out, bDraw hbel _⟩, rfl⟩)
                  case measure => simp [intOf]; omega
                | false =>
                  rw [hbc, hq] at HAT
                  have c1 := (hb.cell (k * 2)).trans (pcells_get _ hlk).1
                  have c2 := (hb.cell (k * 2 + 1)).trans (pcells_get _ hlk).2
                  have f1 := hb.frozen (k * 2)
                  have f2 := hb.frozen (k * 2 + 1)
                  clear hb hbc
                  go_wp2
                  go_quiet ((go_at_call 42; exact Calls.quiet_of_same (beyond_eq _ _ _ _ fk hv (by omega) (by omega))))
                  go_wp2
                  go_roundw
                  case rel =>
                    have R1 := ((Hb.out.set _ _).set _ _).eq ((pcells_set _ hlk (true, c)).trans (wayB_step (HAT.out.trans rfl)))
                    have R2 : ∀ u v, Blk ((wr.setCell ⟨w6.heap.size + 1, k * 2, none⟩ u).setCell ⟨w6.heap.size + 1, k * 2 + 1, none⟩ v) (w6.heap.size) 28 (pcells Uf) := fun u v => Blk.set_other (Blk.set_other Ho.out _ _ _ (by omega)) _ _ _ (by omega)
                    have R3 : ∀ u v, Below w6.heap.size w6 ((wr.setCell ⟨w6.heap.size + 1, k * 2, none⟩ u).setCell ⟨w6.heap.size + 1, k * 2 + 1, none⟩ v) := fun u v => (hbel.setCell (p := ⟨w6.heap.size + 1, _, none⟩) (by simp) _).setCell (p := ⟨w6.heap.size + 1, _, none⟩) (by simp) _
                    first
                      | exact ⟨k + 1, by omega, by go_num, R1, R2 _ _, bDraw (R3 _ _) _⟩
                      | ((repeat apply Exists.intro); exact ⟨⟨k + 1, by omega, by go_num, R1, R2 _ _, bDraw (R3 _ _) _⟩, rfl⟩)
                  case measure => simp [intOf]; omega
              · have hbc : bd c = false := by unfold bd; exact decide_eq_false (fun h => h2 h.2)
                rw [hbc] at HAT
                have hs : Hid (Blk wr (w6.heap.size + 1) 28 (pcells (wayB Df (k + 1)))) := hb.eq (wayB_skip (HAT.out.trans rfl))
                have hd : decide (c ≤ 1152921504606846976) = false := decide_eq_false h2
                clear hb hbc
                go_wp2
                go_quiet (fail)
                go_wp2
                go_roundw
                case rel => first | exact ⟨k + 1, by omega, by go_num, hs.out, Ho.out, bDraw hbel _⟩ | ((repeat apply Exists.intro); exact ⟨⟨k + 1, by omega, by go_num, hs.out, Ho.out, bDraw hbel _⟩, rfl⟩)
                case measure => simp [intOf]; omega
            · have hbc : bd c = false := by unfold bd; exact decide_eq_false (fun h => h1 h.1)
              rw [hbc] at HAT
              have hs : Hid (Blk wr (w6.heap.size + 1) 28 (pcells (wayB Df (k + 1)))) := hb.eq (wayB_skip (HAT.out.trans rfl))
              have hd : decide (-1152921504606846976 ≤ c) = false := decide_eq_false h1
              clear hb hbc
              go_wp2
              go_quiet (fail)
              go_wp2
              go_roundw
              case rel => first | exact ⟨k + 1, by omega, by go_num, hs.out, Ho.out, bDraw hbel _⟩ | ((repeat apply Exists.intro); exact ⟨⟨k + 1, by omega, by go_num, hs.out, Ho.out, bDraw hbel _⟩, rfl⟩)
              case measure => simp [intOf]; omega
          · have hb' : Hid (Blk wr (w6.heap.size + 1) 28 (pcells Df)) := hb.eq (pcells_congr fun q hq => by
              unfold wayB
              by_cases e : q < k
              · rw [if_pos e]
              · rw [if_neg e, HDf.out, dnF_none (by omega)])
            have ho' := Lib.hid ho
            clear hb ho
            have hex : (k < 60 ∧ dl.length ≤ k) ∨ 60 ≤ k := by omega
            clear hlt
            rcases hex with ⟨hk1, hk2⟩ | hk1
            all_goals
              go_wp2
              go_meet
              exact ⟨hb'.out, ho'.out, hbel⟩
      case rest =>
        clear b7 Bu7 Bd7
        obtain ⟨bd8, bu8, b8⟩ := hcut
        have Bd8 := Lib.hid bd8
        have Bu8 := Lib.hid bu8
        have c1 := (bu8.cell (x * 2)).trans (pcells_get _ hx).1
        have c2 := (bu8.cell (x * 2 + 1)).trans (pcells_get _ hx).2
        have f1 := bu8.frozen (x * 2)
        have f2 := bu8.frozen (x * 2 + 1)
        have hgs := bd8.lt
        have G8 := Lib.hid (G6.out.below b8 hgw)
        have Z8 := Lib.hid (Z6.out.below b8 Z6.out.lt)
        have t8 := bThen t6 b8
        clear bd8 bu8
        go_wp2_with fail
        clear c1 c2 f1 f2
        obtain ⟨ru, HRU⟩ : ∃ ru, Hid (ru = putP Uf x (true, 7)) := ⟨_, rfl⟩
        rw [← HRU.out] at HPF
        have hz5 := Z6.out.lt
        have BU := ((Bu8.out.set (x * 2) (.bool true)).set (x * 2 + 1) (.int .i64 7)).eq (pcells_set _ hx (true, 7))
        rw [← HRU.out] at BU
        have BD := Blk.set_other (Blk.set_other Bd8.out w6.heap.size (x * 2) (.bool true) (by omega)) w6.heap.size (x * 2 + 1) (.int .i64 7) (by omega)
        have ZD : ZAt _ p5 ⟨false, m⟩ := Blk.set_other (Blk.set_other Z8.out w6.heap.size (x * 2) (.bool true) (by omega)) w6.heap.size (x * 2 + 1) (.int .i64 7) (by omega)
        have GD := Blk.set_other (Blk.set_other G8.out w6.heap.size (x * 2) (.bool true) (by omega)) w6.heap.size (x * 2 + 1) (.int .i64 7) (by omega)
        have t8' := (t8.setCell (p := ⟨w6.heap.size, x * 2, none⟩) t6.size (.bool true)).setCell (p := ⟨w6.heap.size, x * 2 + 1, none⟩) t6.size (.int .i64 7)
        have HRZ : Hid (Rng zm) := by
          have h1 := zset_rng (putT_rng HR.out x (bndL ru) (bndL Df))
          rw [HPF.out.eq] at h1
          exact h1
        have hze : ze = false := HPF.out.e
        subst hze
        refine (put_ok _ p5 m ZD HR.out x hx1 hx _ (bndL ru) (SlB.blk BU) (bndL_len _) HPF.out.okU _ (bndL Df) (SlB.blk BD) (bndL_len _) HPF.out.okD).mono ?_
        rintro e w9 ⟨p9, rfl, z9, b9⟩
        rw [HPF.out.eq] at z9
        have t9 := bThen t8' b9
        have G9 := Lib.hid (GD.below b9 GD.lt)
        have U9 := Lib.hid (BU.below b9 BU.lt)
        have D9 := Lib.hid (BD.below b9 BD.lt)
        have N9 := Lib.hid z9
        clear BU BD ZD GD t8' t8 z9 b9 Bd8 Bu8 G8 Z8
        go_wp2_with fail
        refine (withA_any _ g f G9.out x hx v).mono ?_
        rintro e wa ⟨g3, rfl, hg3, hgl3, ba⟩
        have ta := bThen t9 ba
        have GA := Lib.hid hg3
        have UA := Lib.hid (U9.out.below ba U9.out.lt)
        have DA := Lib.hid (D9.out.below ba D9.out.lt)
        have NA := Lib.hid (N9.out.below ba N9.out.lt)
        have HIV := Lib.hid (putF_i64 (f := f) (x := x) (v := v) FI.out hv)
        clear hg3 ba G9 U9 D9 N9 t9
        go_wp2_with fail
        refine (meets_any _ p9 ⟨false, zm⟩ NA.out HRZ.out g3 _ GA.out HIV.out).mono ?_
        rintro e wb ⟨rfl, bb⟩
        rw [HPF.out.meets]
        have tb := bThen ta bb
        have UB := Lib.hid (UA.out.below bb UA.out.lt)
        have DB := Lib.hid (DA.out.below bb DA.out.lt)
        have NB := Lib.hid (NA.out.below bb NA.out.lt)
        clear bb UA DA NA GA ta
        go_wp2
        go_loopw [21] (fun t wr => ∃ k : Nat, k ≤ 60 ∧ t = .int .i64 k ∧ Below wb.heap.size wb wr) (fun t _ => 60 - (intOf t).toNat)
        case atStart => exact ⟨0, by omega, rfl, bRefl _⟩
        case round =>
          obtain ⟨k, hk, rfl, hbel⟩ := hrel
          by_cases hlk : k < 60
          · have hlk' : (k : Int) < 60 := by omega
            by_cases hkx : k = x
            · have hq : ((k : Int) == (x : Int)) = true := by rw [beq_iff_eq]; omega
              clear hkx
              go_wp2
              go_roundw
              case rel => exact ⟨k + 1, by omega, by go_num, hbel⟩
              case measure => simp [intOf]; omega
            · have hq : ((k : Int) == (x : Int)) = false := by rw [beq_eq_false_iff_ne]; omega
              have hup : (Hid (bndZ ⟨false, zm⟩ (x : Int) (k : Int) = (true, zm x k)) ∧ (ru k).1 = true ∧ decide ((ru k).2 < zm x k) = false) ∨ (∃ yb yc, Hid (bndZ ⟨false, zm⟩ (x : Int) (k : Int) = (yb, yc)) ∧ (ru k).1 = false ∧ (0 : Int) ≤ 0) := by
                cases e : (ru k).1 with
                | true => obtain ⟨a, b⟩ := HPF.out.up k hlk hkx e; exact Or.inl ⟨a, rfl, decide_eq_false (by simp only at b; omega)⟩
                | false => exact Or.inr ⟨_, _, rfl, rfl, Int.le_refl _⟩
              have hdn : (Hid (bndZ ⟨false, zm⟩ (k : Int) (x : Int) = (true, zm k x)) ∧ (Df k).1 = true ∧ decide ((Df k).2 < zm k x) = false) ∨ (∃ yb yc, Hid (bndZ ⟨false, zm⟩ (k : Int) (x : Int) = (yb, yc)) ∧ (Df k).1 = false ∧ (0 : Int) ≤ 0) := by
                cases e : (Df k).1 with
                | true => obtain ⟨a, b⟩ := HPF.out.dn k hlk hkx e; exact Or.inl ⟨a, rfl, decide_eq_false (by simp only at b; omega)⟩
                | false => exact Or.inr ⟨_, _, rfl, rfl, Int.le_refl _⟩
              clear hkx
              rcases hup with ⟨HU, eu, du⟩ | ⟨yub, yuc, HU, eu, du⟩ <;> rcases hdn with ⟨HD, ed, dd⟩ | ⟨ydb, ydc, HD, ed, dd⟩
              all_goals
                have EU := Lib.hid eu
                have ED := Lib.hid ed
                have DU := Lib.hid du
                have DD := Lib.hid dd
                clear eu ed du dd
                go_wp2_with fail
                refine (bound_any _ p9 ⟨false, zm⟩ (ZAt.below NB.out hbel NB.out.lt) x k).mono ?_
                rintro e w2a ⟨rfl, b2a⟩
                rw [HU.out]
                have t2a := bThen hbel b2a
                go_wp2_with fail
                refine (bound_any _ p9 ⟨false, zm⟩ (ZAt.below NB.out (bAl t2a _) NB.out.lt) k x).mono ?_
                rintro e w3a ⟨rfl, b3a⟩
                rw [HD.out]
                have t3a := bThen (bAl t2a _) b3a
                have U3 := (Blk.new w2a 28 _).below b3a (Blk.lt (Blk.new _ _ _))
                have cu0 := U3.cell 0
                have cu1 := U3.cell 1
                simp only [List.getElem?_toArray, List.getElem?_cons_zero, List.getElem?_cons_succ] at cu0 cu1
                have U3l := U3.lt
                have ub := (UB.out.below t3a UB.out.lt)
                have db := (DB.out.below t3a DB.out.lt)
                have r0 := (ub.cell (k * 2)).trans (pcells_get _ hlk).1
                have r1 := (ub.cell (k * 2 + 1)).trans (pcells_get _ hlk).2
                have s0 := (db.cell (k * 2)).trans (pcells_get _ hlk).1
                have s1 := (db.cell (k * 2 + 1)).trans (pcells_get _ hlk).2
                rw [EU.out] at r0
                rw [ED.out] at s0
                have ubl := ub.lt
                have dbl := db.lt
                have du := DU.out
                have dd := DD.out
                clear U3 ub db b2a b3a
                go_wp2
                go_quiet (fail)
                go_wp2
                go_roundw
                case measure => simp [intOf]; omega
                case rel => first | exact ⟨k + 1, by omega, by go_num, bDraw (bAl t3a _) _⟩ | ((repeat apply Exists.intro); exact ⟨⟨k + 1, by omega, by go_num, bDraw (bAl t3a _) _⟩, rfl⟩)
          · obtain rfl : k = 60 := by omega
            go_wp2_with (go_at_call 13; refine (awake_any _).mono ?_; rintro e w99 ⟨rfl, b99⟩)
            go_ret
            exact ⟨rfl, bThen (bThen tb hbel) b99⟩
  · have hout : xi < 1 ∨ (1 ≤ xi ∧ 60 ≤ xi) := by omega
    clear hin
    rcases hout with h1 | ⟨h1, h2⟩
    all_goals
      go_wp2_with (go_at_call 13; refine (awake_any _).mono ?_; rintro e w99 ⟨rfl, b99⟩)
      go_ret
      exact ⟨rfl, bThen t6 b99⟩

set_option maxRecDepth 100000 in
theorem zonePuts_lifted (os : Os) (started : os.Started) (H : Type) (enc : TypeId × Value → H) :
    ReturnsInHanded {} Try.checked os 9 .any (Rows.zonePutsSpec.pre6 enc Try.prog Try.f9 Rows.zonePutsRow.domain false) (Rows.zonePutsSpec.post enc Try.prog Try.f9 false true false false) := by
  refine returnsInHanded_of_change_sized (C := Try.checked) own started (by kernel_rfl) Try.func9
    (ChangeSpec.witness6 (enc := enc) (C := Try.checked) false ⟨#[], #[.slice none 0 0, .slice none 0 0, .int .i64 0, .int .i64 0, .slice none 0 0, .slice none 0 0], []⟩ 8 (by kernel_rfl) (by kernel_rfl) (by kernel_rfl) (by kernel_rfl)) ?_
  intro W base args ds gs before hval0 hW hcnd hsz _
  have hval : ∀ (j : Nat) t v, Try.f9.params[j]? = some t → args[j]? = some v → Value.okWide Try.prog W .any base t v := hval0
  have hW' := hW
  obtain ⟨p, q, hA0, hV, rfl, hfz, hnd⟩ := hW
  have hA : DataW.TrodAll enc Try.prog W 0 (fun _ => true) true Try.f9.params.toList args.toList ds p := hA0
  rw [Try.params9] at hA hval hsz
  obtain ⟨v0, vs0, d0, ds0, p0, q0, hargs, rfl, rfl, h0, r0⟩ := trodAll_cons hA
  obtain ⟨v1, vs1, d1, ds1, p1, q1, rfl, rfl, rfl, h1, r1⟩ := trodAll_cons r0
  obtain ⟨v2, vs2, d2, ds2, p2, q2, rfl, rfl, rfl, h2, r2⟩ := trodAll_cons r1
  obtain ⟨v3, vs3, d3, ds3, p3, q3, rfl, rfl, rfl, h3, r3⟩ := trodAll_cons r2
  obtain ⟨v4, vs4, d4, ds4, p4, q4, rfl, rfl, rfl, h4, r4⟩ := trodAll_cons r3
  obtain ⟨v5, vs5, d5, ds5, p5, q5, rfl, rfl, rfl, h5, r5⟩ := trodAll_cons r4
  obtain ⟨rfl, rfl, rfl⟩ := trodAll_nil r5
  obtain rfl : args = #[v0, v1, v2, v3, v4, v5] := by cases args; simp_all
  obtain ⟨rfl, rfl⟩ := trodVars_none hV
  have k0 := h0
  have lt0 : ∀ x ∈ p0, x.block < W.heap.size := by obtain ⟨m, hm⟩ := k0; exact DataW.trod_lt m _ _ _ hm
  obtain ⟨a0, len0, cap0, rfl⟩ := okWide_slice Try.underlying36 (hval 0 36 v0 rfl rfl)
  obtain ⟨l0, g0⟩ : ∃ l, ArgI W (.slice a0 len0 cap0) l := by
    obtain ⟨fuel, hf⟩ := h0
    refine open_ints (x := (d0, p0)) (by simpa [Value.cells] using hf) (fun e s hd => ?_)
    have hs := sized_slice hsz (j := 0) (t := 36) (elems := e) (spare := s) rfl (by simp only at hd; rw [hd]; rfl) Try.underlying36
    rw [show Try.checked.prog.bytesOf 3 = 8 by kernel_rfl] at hs
    exact Nat.le_trans hs (by decide)
  have k1 := h1
  have lt1 : ∀ x ∈ p1, x.block < W.heap.size := by obtain ⟨m, hm⟩ := k1; exact DataW.trod_lt m _ _ _ hm
  obtain ⟨a1, len1, cap1, rfl⟩ := okWide_slice Try.underlying35 (hval 1 35 v1 rfl rfl)
  obtain ⟨l1, g1⟩ : ∃ l, ArgC W (.slice a1 len1 cap1) l := by
    obtain ⟨fuel, hf⟩ := h1
    refine open_rcons (x := (d1, p1)) (by simpa [Value.cells] using hf) (fun e s hd => ?_)
    have hs := sized_slice hsz (j := 1) (t := 35) (elems := e) (spare := s) rfl (by simp only at hd; rw [hd]; rfl) Try.underlying35
    rw [show Try.checked.prog.bytesOf 72 = 24 by kernel_rfl] at hs
    exact Nat.le_trans hs (by decide)
  have k2 := h2
  have lt2 : ∀ x ∈ p2, x.block < W.heap.size := by obtain ⟨m, hm⟩ := k2; exact DataW.trod_lt m _ _ _ hm
  obtain ⟨n2, rfl, rfl, rfl, w2⟩ := open_int Try.underlying3 (hval 2 3 v2 rfl rfl) h2
  have k3 := h3
  have lt3 : ∀ x ∈ p3, x.block < W.heap.size := by obtain ⟨m, hm⟩ := k3; exact DataW.trod_lt m _ _ _ hm
  obtain ⟨n3, rfl, rfl, rfl, w3⟩ := open_int Try.underlying3 (hval 3 3 v3 rfl rfl) h3
  have k4 := h4
  have lt4 : ∀ x ∈ p4, x.block < W.heap.size := by obtain ⟨m, hm⟩ := k4; exact DataW.trod_lt m _ _ _ hm
  obtain ⟨a4, len4, cap4, rfl⟩ := okWide_slice Try.underlying36 (hval 4 36 v4 rfl rfl)
  obtain ⟨l4, g4⟩ : ∃ l, ArgI W (.slice a4 len4 cap4) l := by
    obtain ⟨fuel, hf⟩ := h4
    refine open_ints (x := (d4, p4)) (by simpa [Value.cells] using hf) (fun e s hd => ?_)
    have hs := sized_slice hsz (j := 4) (t := 36) (elems := e) (spare := s) rfl (by simp only at hd; rw [hd]; rfl) Try.underlying36
    rw [show Try.checked.prog.bytesOf 3 = 8 by kernel_rfl] at hs
    exact Nat.le_trans hs (by decide)
  have k5 := h5
  have lt5 : ∀ x ∈ p5, x.block < W.heap.size := by obtain ⟨m, hm⟩ := k5; exact DataW.trod_lt m _ _ _ hm
  obtain ⟨a5, len5, cap5, rfl⟩ := okWide_slice Try.underlying36 (hval 5 36 v5 rfl rfl)
  obtain ⟨l5, g5⟩ : ∃ l, ArgI W (.slice a5 len5 cap5) l := by
    obtain ⟨fuel, hf⟩ := h5
    refine open_ints (x := (d5, p5)) (by simpa [Value.cells] using hf) (fun e s hd => ?_)
    have hs := sized_slice hsz (j := 5) (t := 36) (elems := e) (spare := s) rfl (by simp only at hd; rw [hd]; rfl) Try.underlying36
    rw [show Try.checked.prog.bytesOf 3 = 8 by kernel_rfl] at hs
    exact Nat.le_trans hs (by decide)
  clear hA0 hval0 hval hfz hnd hcnd hA
  refine (puts_any W _ l0 g0 _ l1 g1 n2 (i64_of_wf w2) n3 (i64_of_wf w3) _ l4 g4 _ l5 g5).mono fun e W' ⟨he, bel⟩ => ?_
  subst he
  exact ⟨_, rfl, _, _, _, [], _, [], hW', trodAll_mk1 (shut_bool Try.underlying4 _), (trodAll_cons_mk (Below.trod laidOut (by kernel_rfl) (of_decide_eq_true (by kernel_rfl)) k0 bel lt0) (trodAll_cons_mk (Below.trod laidOut (by kernel_rfl) (of_decide_eq_true (by kernel_rfl)) k1 bel lt1) (trodAll_cons_mk (Below.trod laidOut (by kernel_rfl) (of_decide_eq_true (by kernel_rfl)) k2 bel lt2) (trodAll_cons_mk (Below.trod laidOut (by kernel_rfl) (of_decide_eq_true (by kernel_rfl)) k3 bel lt3) (trodAll_cons_mk (Below.trod laidOut (by kernel_rfl) (of_decide_eq_true (by kernel_rfl)) k4 bel lt4) (trodAll_cons_mk (Below.trod laidOut (by kernel_rfl) (of_decide_eq_true (by kernel_rfl)) k5 bel lt5) trodAll_mk0)))))), rfl, bel.frame _, fun h => by cases h⟩

theorem ZonePuts_holds : Rows.ZonePutsSaid :=
  OpenClaim.holds_of_wide 9 Try.f9 rfl rfl rfl rfl rfl rfl rfl ⟨rfl, rfl, rfl, rfl, rfl⟩ rfl rfl rfl rfl rfl (by kernel_rfl) Try.func9 (by kernel_rfl)
    (of_decide_eq_true (by kernel_rfl)) (by unfold Func.isWrapper; rw [if_neg (of_decide_eq_false (by kernel_rfl))]; exact ⟨rfl, rfl⟩)
    (fun os started H enc _ => zonePuts_lifted os started H enc)
#print axioms ZonePuts_holds

end Go.Proofs.YtfpbjjdlchplnaaR
