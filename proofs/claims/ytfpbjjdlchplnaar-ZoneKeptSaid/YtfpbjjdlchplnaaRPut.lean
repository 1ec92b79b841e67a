/- Put of zone: one variable renewed by bounds up and down; nothing that was there is turned. -/
import Derived.Test.YtfpbjjdlchplnaaRBnds
import Derived.Test.YtfpbjjdlchplnaaRLosesP
import Derived.Test.YtfpbjjdlchplnaaRFloat
import Derived.Deep.RegionHeld3
import Derived.Deep.DeepCutAuto
import Derived.Deep.RegionWith
import Derived.RegionTactic
namespace Go.Proofs.YtfpbjjdlchplnaaR
open Go Go.RowKit Go.Wr
set_option maxHeartbeats 4000000
set_option maxRecDepth 100000

theorem bounds_ok (w : World) (x : Nat) (v : Value) (l : List (Bool × Int)) (hs : SlB w v l) (hlen : l.length = 60) (hok : okTo x l 60 = true) :
    Calls Try.prog 67 #[.int .i64 x, v] w fun e w' => ∃ g, e = .returned (.tuple #[.slice (some ⟨g, 0, none⟩) 60 60, .bool true]) ∧ Blk w' g 3 (rcells (abv x l)) ∧ w.heap.size ≤ g ∧ Below w.heap.size w w' :=
  (bounds_any w x v l hs hlen).mono fun e w' ⟨hb, h⟩ => by
    rcases h with ⟨_, g, he, hg, hl⟩ | ⟨h, _⟩
    · exact ⟨g, he, hg, hl, hb⟩
    · rw [hok] at h; cases h

theorem SlB.below {w w' : World} {v : Value} {l : List (Bool × Int)} (h : SlB w v l) (hb : Below w.heap.size w w') : SlB w' v l := by
  obtain ⟨a0, cap, hv, hl, hc⟩ := h
  refine ⟨a0, cap, hv, hl, fun k x hx => ?_⟩
  obtain ⟨b, off, ha, h0, h1⟩ := hc k x hx
  have hlt := World.block_lt_of_cell? w _ h0
  exact ⟨b, off, ha, (hb.cell hlt).trans h0, (hb.cell (p := ⟨b, off + k * 2 + 1, none⟩) hlt).trans h1⟩

theorem put_ok (w : World) (b : Nat) (m : Nat → Nat → Int) (hz : ZAt w b ⟨false, m⟩) (hr : Rng m) (x : Nat) (hx1 : 1 ≤ x) (hx : x < 60) (vu : Value) (lu : List (Bool × Int)) (hu : SlB w vu lu) (hlu : lu.length = 60) (hou : okTo x lu 60 = true)
    (vd : Value) (ld : List (Bool × Int)) (hd : SlB w vd ld) (hld : ld.length = 60) (hod : okTo x ld 60 = true) :
    Calls Try.prog 43 #[.pointer (some ⟨b, 0, none⟩), .int .i64 x, vu, vd] w (RetZE w (zset (putT m x lu ld))) := by
  have hu' := hu
  have hd' := hd
  obtain ⟨au, cu, rfl, _, _⟩ := hu
  obtain ⟨ad, cd, rfl, _, _⟩ := hd
  rw [hlu, hld]
  rw [hlu] at hu'
  rw [hld] at hd'
  have HU := Lib.hid hu'
  have HD := Lib.hid hd'
  have HLU := Lib.hid hlu
  have HLD := Lib.hid hld
  have HOU := Lib.hid hou
  have HOD := Lib.hid hod
  have Hz := Lib.hid hz
  have HG := Lib.hid (putG_rng hr x)
  have hx1' : ¬ (x : Int) < 1 := by omega
  have hx' : (x : Int) < 60 := by omega
  have hbl := hz.lt
  clear hu' hd' hlu hld hou hod hz hr
  go_enter Try.func43, Try.ntmps43
  go_wp2_with fail
  refine (bounds_ok _ x _ lu HU.out HLU.out HOU.out).mono ?_
  rintro e w1 ⟨g1, rfl, hg1, hgl1, b1⟩
  have G1 := Lib.hid hg1
  clear hg1
  go_wp2_with fail
  refine (bounds_ok _ x _ ld (HD.out.below b1) HLD.out HOD.out).mono ?_
  rintro e w2 ⟨g2, rfl, hg2, hgl2, b2⟩
  have t2 := bThen b1 b2
  have A2 := Lib.hid (G1.out.below b2 G1.out.lt)
  have B2 := Lib.hid hg2
  have Z2 := Lib.hid (ZAt.below Hz.out t2 Hz.out.lt)
  have he := Z2.out.emp
  clear hg2 b1 G1
  go_wp2_with fail
  clear he
  refine (forget_new _ b m (Blk.alloc Z2.out _) _ [(x : Int)] (SlI.one ((Blk.new w2 3 #[.int .i64 x]).cell 0) 1)).mono ?_
  rintro e w3 ⟨pn, rfl, z3, hpn, b3⟩
  have t3 := bThen (bAl t2 _) b3
  have A3 := Lib.hid ((A2.out.alloc _).below b3 (A2.out.alloc _).lt)
  have B3 := Lib.hid ((B2.out.alloc _).below b3 (B2.out.alloc _).lt)
  have N3 : Hid (ZAt w3 pn ⟨false, putG m x⟩) := z3
  have hpn' : w.heap.size ≤ pn := by
    have h1 := t2.size
    simp at hpn
    omega
  have hl1 := A3.out.lt
  have hl2 := B3.out.lt
  have hl3 := N3.out.lt
  have hw3 := t3.size
  clear z3 b2 b3 t2 A2 B2 Z2 hpn
  obtain ⟨G, HGE⟩ : ∃ G, Hid (G = putG m x) := ⟨_, rfl⟩
  rw [← HGE.out] at HG N3
  have hmk := make60
  go_upto_region 12 with (fail)
  go_cut [15, 16] (fun s15 s16 wc => ∃ gu gd : Nat, s15 = .slice (some ⟨gu, 0, none⟩) 60 60 ∧ s16 = .slice (some ⟨gd, 0, none⟩) 60 60 ∧ gu ≠ gd ∧ w3.heap.size ≤ gu ∧ w3.heap.size ≤ gd ∧ Blk wc gu 3 (rcells fun _ => 0) ∧ Blk wc gd 3 (rcells fun _ => 0) ∧ Below w3.heap.size w3 wc)
  case first =>
    go_region_with (fail)
    all_goals
      go_wp2
      go_meet
    all_goals
      first
        | exact ⟨w3.heap.size, w3.heap.size + 1, rfl, rfl, by omega, by omega, by omega, (Blk.new w3 _ _).alloc _, Blk.new_at _ _ (by simp), (((Below.refl _ _).alloc (Nat.le_refl _) _).alloc (by simp) _).drew⟩
        | exact ⟨w3.heap.size + 1, w3.heap.size, rfl, rfl, by omega, by omega, by omega, Blk.new_at _ _ (by simp), (Blk.new w3 _ _).alloc _, (((Below.refl _ _).alloc (Nat.le_refl _) _).alloc (by simp) _).drew⟩
  case rest =>
    clear hmk
    obtain ⟨gu, gd, rfl, rfl, hne, hu3, hd3, hbu, hbd, hb3⟩ := hcut
    have ha : ∀ k, k < 60 → rg (abv x lu k) := fun k hk => abv_rg HOU.out hk
    have hb : ∀ k, k < 60 → rg (abv x ld k) := fun k hk => abv_rg HOD.out hk
    obtain ⟨A, HAE⟩ : ∃ A, Hid (A = abv x lu) := ⟨_, rfl⟩
    obtain ⟨B, HBE⟩ : ∃ B, Hid (B = abv x ld) := ⟨_, rfl⟩
    rw [← HAE.out] at ha A3
    rw [← HBE.out] at hb B3
    have HA := Lib.hid ha
    have HB := Lib.hid hb
    have Bu := Lib.hid hbu
    have Bd := Lib.hid hbd
    have hne' : ¬ gd = gu := fun e => hne e.symm
    clear ha hb hbu hbd
    go_wp2
    go_loopw [65] (fun t wr => ∃ q : Nat, q ≤ 60 ∧ t = .int .i64 q ∧ Blk wr gu 3 (rcells (uW A G x q)) ∧ Blk wr gd 3 (rcells (dW B G x q)) ∧ Below w3.heap.size w3 wr) (fun t _ => 60 - (intOf t).toNat)
    case atStart => exact ⟨0, by omega, rfl, Bu.out.eq (rcells_congr fun q _ => by unfold uW; rw [if_neg (by omega)]), Bd.out.eq (rcells_congr fun q _ => by unfold dW; rw [if_neg (by omega)]), hb3⟩
    case round =>
      clear hb3
      obtain ⟨q, hq, rfl, hbu, hbd, hb3⟩ := hrel
      by_cases hlt : q < 60
      · have hlt' : (q : Int) < 60 := by omega
        have c1 := (hbu.cell q).trans (rcells_get _ hlt)
        have f1 := hbu.frozen q
        have c2 := (hbd.cell q).trans (rcells_get _ hlt)
        have f2 := hbd.frozen q
        have Bu1 := Lib.hid hbu
        have Bd1 := Lib.hid hbd
        clear hbu hbd
        go_wp2
        clear c1 f1 c2 f2
        go_loopw [74] (fun t wr => ∃ k : Nat, k ≤ 60 ∧ t = .int .i64 k ∧ Blk wr gu 3 (rcells (uW2 A G x q k)) ∧ Blk wr gd 3 (rcells (dW2 B G x q k)) ∧ Below w3.heap.size w3 wr) (fun t _ => 60 - (intOf t).toNat)
        case atStart =>
          refine ⟨0, by omega, rfl, ?_, ?_, (hb3.setCell (p := ⟨gu, _, none⟩) hu3 _).setCell (p := ⟨gd, _, none⟩) hd3 _⟩
          · exact ((Bu1.out.set _ _).set_other _ _ _ hne).eq ((rcells_set _ hlt _).trans (rcells_congr fun k _ => by unfold uW2; split <;> rfl))
          · exact ((Bd1.out.set_other _ _ _ hne').set _ _).eq ((rcells_set _ hlt _).trans (rcells_congr fun k _ => by unfold dW2; split <;> rfl))
        case round =>
          clear hb3
          obtain ⟨k, hk, rfl, hbu, hbd, hb3⟩ := hrel
          by_cases hlk : k < 60
          · have hlk' : (k : Int) < 60 := by omega
            by_cases hgo : k ≠ x ∧ q ≠ x
            · have hq1 : ((k : Int) != (x : Int)) = true := by rw [bne_iff_ne]; omega
              have hq2 : ((q : Int) != (x : Int)) = true := by rw [bne_iff_ne]; omega
              have eu : wr.cell? ⟨gu, q, none⟩ = some (.int .i64 (uS A G x q k)) := by have := (hbu.cell q).trans (rcells_get _ hlt); unfold uW2 at this; rw [if_pos rfl] at this; exact this
              have ed : wr.cell? ⟨gd, q, none⟩ = some (.int .i64 (dS B G x q k)) := by have := (hbd.cell q).trans (rcells_get _ hlt); unfold dW2 at this; rw [if_pos rfl] at this; exact this
              have fu := hbu.frozen q
              have fd := hbd.frozen q
              have eA := ((A3.out.below hb3 A3.out.lt).cell k).trans (rcells_get _ hlk)
              have eB := ((B3.out.below hb3 B3.out.lt).cell k).trans (rcells_get _ hlk)
              have hN := ZAt.below N3.out hb3 N3.out.lt
              have eG1 := hN.entry hlk hlt
              have eG2 := hN.entry hlt hlk
              have rA := HA.out k hlk
              have rB := HB.out k hlk
              have rG1 := HG.out k q hlk hlt
              have rG2 := HG.out q k hlt hlk
              unfold rg at rA rB
              have HN := Lib.hid hN
              have Bu2 := Lib.hid hbu
              have Bd2 := Lib.hid hbd
              have Ugo := Lib.hid (uS_go (A := A) (G := G) hgo)
              have Dgo := Lib.hid (dS_go (A := B) (G := G) hgo)
              have HGO := Lib.hid hgo
              clear hbu hbd hN hgo
              go_wp2
              have rA1 := rA.1
              have rA2 : A k ≤ 2305843009213693952 := by omega
              have rB1 := rB.1
              have rB2 : B k ≤ 2305843009213693952 := by omega
              have rG3 := rG1.1
              have rG4 : G k q ≤ 2305843009213693952 := by omega
              have rG5 := rG2.1
              have rG6 : G q k ≤ 2305843009213693952 := by omega
              have hn1 : ¬ gu = gd := hne
              clear rA rB rG1 rG2
              refine wp_float 40 [0, 1, 4, 5, 6, 7, 8, 9, 10, 11, 12, 13, 14, 15, 16, 17, 18, 19, 20, 21, 22, 23, 24, 25, 26, 27, 28, 29, 30, 31, 32, 33, 34, 35, 36, 37, 38] mix (by kernel_rfl) (fun _ _ _ _ _ h => h) ?_
              simp only [List.take_succ_cons, List.take_zero, List.drop_succ_cons, List.drop_zero]
              repeat (refine wpHd_step (by decide) (fun K hK => ?_); go_simp; refine hK _ ?_; clear hK K)
              refine wpHd_move _ rfl rfl ?_
              refine wpHd_move _ rfl rfl ?_
              repeat (refine wpHd_step (by decide) (fun K hK => ?_); go_simp; refine hK _ ?_; clear hK K)
              (refine wpHd_step (by decide) (fun K hK => ?_); go_simp; refine ⟨_, sum_eq _ _ _ (by assumption) (by assumption) (by assumption) (by assumption), hK _ ?_⟩; clear hK K)
              repeat (refine wpHd_step (by decide) (fun K hK => ?_); go_simp; refine hK _ ?_; clear hK K)
              (refine wpHd_step (by decide) (fun K hK => ?_); go_simp; refine ⟨_, sum_eq _ _ _ (by assumption) (by assumption) (by assumption) (by assumption), hK _ ?_⟩; clear hK K)
              refine wpHd_min (.tmp 110) (.tmp 123) _ rfl rfl rfl rfl ?_
              refine wpHd_nil ?_
              go_wp2
              go_roundw
              case rel =>
                refine ⟨k + 1, by omega, by go_num, ?_, ?_, (hb3.drew.setCell (p := ⟨gu, _, none⟩) hu3 _).setCell (p := ⟨gd, _, none⟩) hd3 _⟩
                · refine ((Blk.set (Blk.drew Bu2.out) _ _).set_other _ _ _ hne).eq ?_
                  rw [rcells_set _ hlt]
                  refine rcells_congr fun j _ => ?_
                  unfold uW2
                  by_cases e : j = q
                  · rw [if_pos e, if_pos e, Ugo.out, min_ite]
                  · rw [if_neg e, if_neg e, if_neg e]
                · refine (Blk.set (Blk.set_other (Blk.drew Bd2.out) _ _ _ hne') _ _).eq ?_
                  rw [rcells_set _ hlt]
                  refine rcells_congr fun j _ => ?_
                  unfold dW2
                  by_cases e : j = q
                  · rw [if_pos e, if_pos e, Dgo.out, min_ite]
                  · rw [if_neg e, if_neg e, if_neg e]
              case measure => simp [intOf]; omega
            · have Ust := Lib.hid (uS_stay (A := A) (G := G) hgo)
              have Dst := Lib.hid (dS_stay (A := B) (G := G) hgo)
              have hbu' := hbu.eq (show rcells (uW2 A G x q k) = rcells (uW2 A G x q (k + 1)) from rcells_congr fun j _ => by unfold uW2; rw [Ust.out])
              have hbd' := hbd.eq (show rcells (dW2 B G x q k) = rcells (dW2 B G x q (k + 1)) from rcells_congr fun j _ => by unfold dW2; rw [Dst.out])
              have Bu2 := Lib.hid hbu'
              have Bd2 := Lib.hid hbd'
              clear hbu hbd hbu' hbd'
              by_cases hkx : k = x
              · have hq1 : ((k : Int) != (x : Int)) = false := by rw [bne_eq_false_iff_eq]; omega
                clear hgo hkx
                go_wp2
                go_roundw
                case rel => exact ⟨k + 1, by omega, by go_num, Bu2.out, Bd2.out, hb3⟩
                case measure => simp [intOf]; omega
              · have hq1 : ((k : Int) != (x : Int)) = true := by rw [bne_iff_ne]; omega
                have hq2 : ((q : Int) != (x : Int)) = false := by rw [bne_eq_false_iff_eq]; omega
                clear hgo hkx
                go_wp2
                go_roundw
                case rel => exact ⟨k + 1, by omega, by go_num, Bu2.out, Bd2.out, hb3⟩
                case measure => simp [intOf]; omega
          · obtain rfl : k = 60 := by omega
            have hbu' := hbu.eq (show rcells (uW2 A G x q 60) = rcells (uW A G x (q + 1)) from rcells_congr fun j _ => by
              unfold uW2 uW
              by_cases e : j = q
              · subst e; rw [if_pos rfl, if_pos (by omega)]
              · rw [if_neg e]
                by_cases h : j < q
                · rw [if_pos h, if_pos (by omega)]
                · rw [if_neg h, if_neg (by omega)])
            have hbd' := hbd.eq (show rcells (dW2 B G x q 60) = rcells (dW B G x (q + 1)) from rcells_congr fun j _ => by
              unfold dW2 dW
              by_cases e : j = q
              · subst e; rw [if_pos rfl, if_pos (by omega)]
              · rw [if_neg e]
                by_cases h : j < q
                · rw [if_pos h, if_pos (by omega)]
                · rw [if_neg h, if_neg (by omega)])
            have Bu2 := Lib.hid hbu'
            have Bd2 := Lib.hid hbd'
            clear hbu hbd hbu' hbd'
            go_wp2
            go_roundw
            case rel => exact ⟨q + 1, by omega, by go_num, Bu2.out, Bd2.out, hb3⟩
            case measure => simp [intOf]; omega
      · obtain rfl : q = 60 := by omega
        obtain ⟨U, HUE⟩ : ∃ U : Nat → Int, Hid (U = fun q => uS A G x q 60) := ⟨_, rfl⟩
        obtain ⟨D, HDE⟩ : ∃ D : Nat → Int, Hid (D = fun q => dS B G x q 60) := ⟨_, rfl⟩
        have hu : ∀ k, k < 60 → rg (U k) := fun k _ => by rw [HUE.out]; exact uS_rg _ _ _ _ _
        have hd : ∀ k, k < 60 → rg (D k) := fun k _ => by rw [HDE.out]; exact dS_rg _ _ _ _ _
        have HUR := Lib.hid hu
        have HDR := Lib.hid hd
        have Bu1 : Hid (Blk wr gu 3 (rcells U)) := hbu.eq (rcells_congr fun q hq => by unfold uW; rw [if_pos hq, HUE.out])
        have Bd1 : Hid (Blk wr gd 3 (rcells D)) := hbd.eq (rcells_congr fun q hq => by unfold dW; rw [if_pos hq, HDE.out])
        have N1 := Lib.hid (ZAt.below N3.out hb3 N3.out.lt)
        have tw := t3.trans (hb3.mono hw3)
        have hwu : w.heap.size ≤ gu := by omega
        have hwd : w.heap.size ≤ gd := by omega
        have hnu : ¬ gu = pn := by omega
        have hnd : ¬ gd = pn := by omega
        have hun : ¬ pn = gu := by omega
        have hdn : ¬ pn = gd := by omega
        clear hbu hbd hu hd hb3
        go_wp2
        go_loopw [129] (fun t wr => ∃ p : Nat, p ≤ 60 ∧ t = .int .i64 p ∧ Blk wr pn 85 (zcells false (wayP G (putM G x U D) p 0)) ∧ Blk wr gu 3 (rcells U) ∧ Blk wr gd 3 (rcells D) ∧ Below w.heap.size w wr) (fun t _ => 60 - (intOf t).toNat)
        case atStart => exact ⟨0, by omega, rfl, Blk.eq N1.out (by unfold zcells; rw [wayP_zero]), Bu1.out, Bd1.out, tw⟩
        case round =>
          clear tw
          obtain ⟨p, hp, rfl, hn, hbu, hbd, tw⟩ := hrel
          by_cases hlt : p < 60
          · have hlt' : (p : Int) < 60 := by omega
            have Hn := Lib.hid hn
            have Hbu := Lib.hid hbu
            have Hbd := Lib.hid hbd
            clear hn hbu hbd
            by_cases hpx : p = x
            · have hq1 : ((p : Int) == (x : Int)) = true := by rw [beq_iff_eq]; omega
              have hn' : Hid (Blk wr pn 85 (zcells false (wayP G (putM G x U D) (p + 1) 0))) := Hn.out.eq (by unfold zcells; rw [wayP_skip _ _ _ (fun q _ => by unfold putM; rw [if_neg (fun h => h.1 hpx)])])
              clear hpx
              go_wp2
              go_roundw
              case rel => exact ⟨p + 1, by omega, by go_num, hn'.out, Hbu.out, Hbd.out, tw⟩
              case measure => simp [intOf]; omega
            · have hq1 : ((p : Int) == (x : Int)) = false := by rw [beq_eq_false_iff_ne]; omega
              have HPX := Lib.hid hpx
              clear hpx
              go_wp2
              go_loopw [135] (fun t wr => ∃ k : Nat, k ≤ 60 ∧ t = .int .i64 k ∧ Blk wr pn 85 (zcells false (wayP G (putM G x U D) p k)) ∧ Blk wr gu 3 (rcells U) ∧ Blk wr gd 3 (rcells D) ∧ Below w.heap.size w wr) (fun t _ => 60 - (intOf t).toNat)
              case atStart => exact ⟨0, by omega, rfl, Hn.out, Hbu.out, Hbd.out, tw⟩
              case round =>
                clear tw
                obtain ⟨k, hk, rfl, hn, hbu, hbd, tw⟩ := hrel
                by_cases hlk : k < 60
                · have hlk' : (k : Int) < 60 := by omega
                  by_cases hkx : k = x
                  · have hq2 : ((k : Int) != (x : Int)) = false := by rw [bne_eq_false_iff_eq]; omega
                    have hn' : Hid (Blk wr pn 85 (zcells false (wayP G (putM G x U D) p (k + 1)))) := hn.eq (by unfold zcells; rw [wayP_one (by unfold putM; rw [if_neg (fun h => h.2 hkx)])])
                    have Hbu := Lib.hid hbu
                    have Hbd := Lib.hid hbd
                    clear hkx hn hbu hbd
                    go_wp2
                    go_roundw
                    case rel => exact ⟨k + 1, by omega, by go_num, hn'.out, Hbu.out, Hbd.out, tw⟩
                    case measure => simp [intOf]; omega
                  · have hq2 : ((k : Int) != (x : Int)) = true := by rw [bne_iff_ne]; omega
                    have eN := ZAt.entry (z := ⟨false, wayP G (putM G x U D) p k⟩) hn hlt hlk
                    rw [show (Zn.mk false (wayP G (putM G x U D) p k)).m p k = G p k by show wayP G (putM G x U D) p k p k = G p k; unfold wayP; rw [if_neg (by omega)]] at eN
                    have fN := hn.frozen (1 + p * 60 + k)
                    have ed := (hbd.cell p).trans (rcells_get D hlt)
                    have eu := (hbu.cell k).trans (rcells_get U hlk)
                    have rd := HDR.out p hlt
                    have ru := HUR.out k hlk
                    unfold rg at rd ru
                    have rd1 := rd.1
                    have rd2 : D p ≤ 2305843009213693952 := by omega
                    have ru1 := ru.1
                    have ru2 : U k ≤ 2305843009213693952 := by omega
                    have hpm : (Hid (putM G x U D p k = sm (D p) (U k)) ∧ sm (D p) (U k) < G p k) ∨ (Hid (putM G x U D p k = G p k) ∧ ¬ sm (D p) (U k) < G p k) := by
                      have e : putM G x U D p k = min (G p k) (sm (D p) (U k)) := by unfold putM; rw [if_pos ⟨HPX.out, hkx⟩]
                      rw [← min_ite] at e
                      by_cases h : sm (D p) (U k) < G p k
                      · rw [if_pos h] at e; exact Or.inl ⟨e, h⟩
                      · rw [if_neg h] at e; exact Or.inr ⟨e, h⟩
                    have Hn := Lib.hid hn
                    have Hbu := Lib.hid hbu
                    have Hbd := Lib.hid hbd
                    have HKX := Lib.hid hkx
                    clear hkx hn hbu hbd rd ru
                    rcases hpm with ⟨HPM, hmn⟩ | ⟨HPM, hmn⟩
                    all_goals
                      go_wp2
                      refine wp_tail 24 mix (by kernel_rfl) ?_
                      simp only [List.take_succ_cons, List.take_zero, List.drop_succ_cons, List.drop_zero]
                      repeat still_step
                      still_call (sum_eq _ _ _ (by assumption) (by assumption) (by assumption) (by assumption))
                      repeat still_step
                      refine wpStill_nil ?_
                      go_wp2
                      go_roundw
                      case measure => simp [intOf]; omega
                    all_goals
                      have R1 : ∀ v, putM G x U D p k = v → Blk (wr.drew.setCell ⟨pn, 1 + p * 60 + k, none⟩ (.int .i64 v)) pn 85 (zcells false (wayP G (putM G x U D) p (k + 1))) := fun v hv => by
                        refine Blk.eq (Blk.set (Blk.drew Hn.out) _ _) ?_
                        rw [Nat.add_assoc, zcells_set _ _ hlt hlk]
                        unfold zcells
                        rw [← wayP_set, hv]
                      first
                        | exact ⟨k + 1, by omega, by go_num, R1 _ HPM.out, Blk.set_other (Blk.drew Hbu.out) _ _ _ hnu, Blk.set_other (Blk.drew Hbd.out) _ _ _ hnd, tw.drew.setCell (p := ⟨pn, _, none⟩) hpn' _⟩
                        | ((repeat apply Exists.intro); exact ⟨⟨k + 1, by omega, by go_num, R1 _ HPM.out, Blk.set_other (Blk.drew Hbu.out) _ _ _ hnu, Blk.set_other (Blk.drew Hbd.out) _ _ _ hnd, tw.drew.setCell (p := ⟨pn, _, none⟩) hpn' _⟩, rfl⟩)
                · obtain rfl : k = 60 := by omega
                  have hn' : Hid (Blk wr pn 85 (zcells false (wayP G (putM G x U D) (p + 1) 0))) := hn.eq (by unfold zcells; rw [wayP_row])
                  have Hbu := Lib.hid hbu
                  have Hbd := Lib.hid hbd
                  clear hn hbu hbd
                  go_wp2
                  go_roundw
                  case rel => exact ⟨p + 1, by omega, by go_num, hn'.out, Hbu.out, Hbd.out, tw⟩
                  case measure => simp [intOf]; omega
          · obtain rfl : p = 60 := by omega
            have Hn : Hid (Blk wr pn 85 (zcells false (rcW (putM G x U D) x U D 0))) := hn.eq (by unfold zcells; rw [wayP_all, rcW_zero])
            have Hbu := Lib.hid hbu
            have Hbd := Lib.hid hbd
            obtain ⟨Q, HQE⟩ : ∃ Q, Hid (Q = putM G x U D) := ⟨_, rfl⟩
            rw [← HQE.out] at Hn
            clear hn hbu hbd
            go_wp2
            go_loopw [168] (fun t wr => ∃ n : Nat, n ≤ 60 ∧ t = .int .i64 n ∧ Blk wr pn 85 (zcells false (rcW Q x U D n)) ∧ Blk wr gu 3 (rcells U) ∧ Blk wr gd 3 (rcells D) ∧ Below w.heap.size w wr) (fun t _ => 60 - (intOf t).toNat)
            case atStart => exact ⟨0, by omega, rfl, Hn.out, Hbu.out, Hbd.out, tw⟩
            case round =>
              clear tw
              obtain ⟨n, hn60, rfl, hn, hbu, hbd, tw⟩ := hrel
              by_cases hln : n < 60
              · have hln' : (n : Int) < 60 := by omega
                by_cases hnv : n = x
                · have hq : ((n : Int) != (x : Int)) = false := by rw [bne_eq_false_iff_eq]; omega
                  have hn' : Hid (Blk wr pn 85 (zcells false (rcW Q x U D (n + 1)))) := hn.eq (by rw [hnv]; unfold zcells; rw [rcW_same])
                  have Hbu := Lib.hid hbu
                  have Hbd := Lib.hid hbd
                  clear hnv hn hbu hbd
                  go_wp2
                  go_roundw
                  case rel => exact ⟨n + 1, by omega, by go_num, hn'.out, Hbu.out, Hbd.out, tw⟩
                  case measure => simp [intOf]; omega
                · have hq : ((n : Int) != (x : Int)) = true := by rw [bne_iff_ne]; omega
                  have eu := (hbu.cell n).trans (rcells_get U hln)
                  have ed := (hbd.cell n).trans (rcells_get D hln)
                  have g1 := (hn.cell (1 + (x * 60 + n))).trans (zcells_get? _ _ hx hln)
                  have g2 := (hn.cell (1 + (n * 60 + x))).trans (zcells_get? _ _ hln hx)
                  rw [← Nat.add_assoc] at g1 g2
                  have f1 := hn.frozen (1 + x * 60 + n)
                  have f2 := hn.frozen (1 + n * 60 + x)
                  have hne1 : ¬ (1 + n * 60 + x = 1 + x * 60 + n) := by omega
                  have hne2 : ¬ (1 + x * 60 + n = 1 + n * 60 + x) := by omega
                  have hn' : Blk ((wr.drew.setCell ⟨pn, 1 + x * 60 + n, none⟩ (.int .i64 (U n))).setCell ⟨pn, 1 + n * 60 + x, none⟩ (.int .i64 (D n))) pn 85 (zcells false (rcW Q x U D (n + 1))) := by
                    refine (Blk.set (Blk.set (Blk.drew hn) _ _) _ _).eq ?_
                    rw [Nat.add_assoc, zcells_set _ _ hx hln, Nat.add_assoc, zcells_set _ _ hln hx]
                    unfold zcells
                    rw [rcW_set _ _ _ _ _ hnv]
                  have hbu' : Blk ((wr.drew.setCell ⟨pn, 1 + x * 60 + n, none⟩ (.int .i64 (U n))).setCell ⟨pn, 1 + n * 60 + x, none⟩ (.int .i64 (D n))) gu 3 (rcells U) := Blk.set_other (Blk.set_other (Blk.drew hbu) _ _ _ hnu) _ _ _ hnu
                  have hbd' : Blk ((wr.drew.setCell ⟨pn, 1 + x * 60 + n, none⟩ (.int .i64 (U n))).setCell ⟨pn, 1 + n * 60 + x, none⟩ (.int .i64 (D n))) gd 3 (rcells D) := Blk.set_other (Blk.set_other (Blk.drew hbd) _ _ _ hnd) _ _ _ hnd
                  have tw' : Below w.heap.size w ((wr.drew.setCell ⟨pn, 1 + x * 60 + n, none⟩ (.int .i64 (U n))).setCell ⟨pn, 1 + n * 60 + x, none⟩ (.int .i64 (D n))) :=
                    (tw.drew.setCell (p := ⟨pn, _, none⟩) hpn' _).setCell (p := ⟨pn, _, none⟩) hpn' _
                  have HN := Lib.hid hn'
                  have HBu := Lib.hid hbu'
                  have HBd := Lib.hid hbd'
                  have HTW := Lib.hid tw'
                  have HX := Lib.hid hnv
                  clear hnv hn hbu hbd hn' hbu' hbd' tw'
                  go_wp2
                  go_region_held3 (fun w' => w'.cell? ⟨gu, n, none⟩ = some (.int .i64 (U n)) ∧ w'.cell? ⟨gd, n, none⟩ = some (.int .i64 (D n))) (go_keep) ((fail))
                  all_goals go_wp2
                  all_goals go_roundw
                  all_goals try (case rel => first | exact ⟨n + 1, by omega, by go_num, HN.out, HBu.out, HBd.out, HTW.out⟩ | ((repeat apply Exists.intro); exact ⟨⟨n + 1, by omega, by go_num, HN.out, HBu.out, HBd.out, HTW.out⟩, rfl⟩))
                  all_goals (simp [intOf]; omega)
              · obtain rfl : n = 60 := by omega
                have Hn := Lib.hid hn
                clear hn hbu hbd
                go_wp2_with (first
                  | (refine wpl_load rfl 82 (.tmp 199) rfl pn 1 rfl Hn.out rowT (by rw [zcells_size]; omega) (D := tcells (rcW Q x U D 60)) (ztable_extract _ _) ?_)
                  | (go_at_call 57; refine (settled_any _ _).mono ?_; rintro e w9 ⟨b9, rfl, hz9, bel9⟩))
                go_ret2
                refine ⟨b9, rfl, ?_, tw.trans (bel9.mono tw.size)⟩
                rw [show putT m x lu ld = rcW Q x U D 60 by rw [HQE.out, HGE.out, HUE.out, HDE.out, HAE.out, HBE.out, HGE.out]; rfl]
                exact hz9

end Go.Proofs.YtfpbjjdlchplnaaR
