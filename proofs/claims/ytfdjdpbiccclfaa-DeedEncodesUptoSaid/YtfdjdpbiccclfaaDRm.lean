/- The reader of deed: a claim. -/
import Derived.Test.YtfdjdpbiccclfaaDRo
import Derived.Test.YtfdjdpbiccclfaaDHeld
import Derived.Deep.CutBlock
import Derived.Deep.DeepCutAuto
namespace Go.Proofs.Ytfdjdpbiccclfaa
open Go Go.RowKit Go.Wr
set_option maxHeartbeats 4000000
set_option maxRecDepth 100000

theorem infoC3 : (Try.prog.info? 63).map (fun i => (i.zero, i.size, i.bytes)) = some (some (.agg #[.int .i64 0, .int .i64 0, .int .i64 0]), 3, 24) := by kernel_rfl
theorem builtC (parts : List (Nat × Value)) : Try.prog.built 61 parts = Instr.fill (#[(0, 1), (1, 30), (31, 96), (127, 1)][·]?) (bx (.bool false) f0 (.slice none 0 0)) parts := by kernel_rfl
theorem spl_zero (a a' b : Value) (f : Nat → Tg) : spl (bx a f b) 0 #[a'] = bx a' f b := by
  unfold spl bx
  simp
theorem builtDead : Try.prog.built 61 [(0, .bool true)] = some (bx (.bool true) f0 (.slice none 0 0)) := by
  rw [builtC, fill_bool _ _ _ _ _ 0 rfl (by rw [bx_size]; omega), spl_zero]
  rfl

theorem bx_dead : (bx (.bool false) f0 (.slice none 0 0)).setIfInBounds 0 (.bool true) = bx (.bool true) f0 (.slice none 0 0) := by simp [bx]
theorem Ex.only {p g : Nat} {w w' w'' : World} (h : Ex p w w') (ho : Only g w' w'') (hg : w.heap.size ≤ g) : Ex p w w'' := by
  have hb := ho.below hg
  exact ⟨hb.os.trans h.os, hb.tape.trans h.tape, hb.output.trans h.output, Nat.le_trans h.size hb.size, fun k hk h1 => (hb.block k hk).trans (h.block k hk h1)⟩
theorem Rdr.only {B p a g : Nat} {b : List Nat} {w w' : World} {vb : Value} (h : Rdr B p b a w vb) (ho : Only g w w') (hg : g ≠ p) (hB : B ≤ g) : Rdr B p b a w' vb :=
  ⟨ho.blk h.blk (Ne.symm hg), h.by'.below (ho.below hB), h.hp, h.at', h.len⟩

/-- Where reading a claim stands: the reader, the claim so far. -/
structure CS (B p q : Nat) (b : List Nat) (vb : Value) (w : World) (m : Nat) (f : Nat → Tg) (vc : Value) (l : List C3) (wr : World) : Prop where
  rd : Rdr B p b m wr vb
  ex : Ex p w wr
  zb : Blk wr w.heap.size 61 (bx (.bool false) f0 (.slice none 0 0))
  qb : Blk wr q 61 (bx (.bool false) f vc)
  ow : OwC w.heap.size wr vc l
theorem CS.next {B p q : Nat} {b : List Nat} {vb : Value} {w : World} {m m' : Nat} {f : Nat → Tg} {vc : Value} {l : List C3} {wr w' : World} (h : CS B p q b vb w m f vc l wr) (hx : Ex p wr w') (hd : Rdr B p b m' w' vb) (h1 : w.heap.size ≠ p) (h2 : q ≠ p) : CS B p q b vb w m' f vc l w' :=
  ⟨hd, h.ex.trans hx, hx.blk h.zb h1, hx.blk h.qb h2, h.ow.ex hx h.rd.blk (by decide)⟩
theorem CS.tag {B p q : Nat} {b : List Nat} {vb : Value} {w : World} {m : Nat} {f : Nat → Tg} {vc : Value} {l : List C3} {wr : World} (h : CS B p q b vb w m f vc l wr) (h1 : w.heap.size < q) (h2 : q ≠ p) (h3 : B ≤ q) {k : Nat} (hk : k < 42) (t : Tg) {o : Nat} (ho : o = 1 + k * 3) :
    CS B p q b vb w m (putT f k t) vc l (((wr.setCell ⟨q, o, none⟩ (.int .i64 t.k)).setCell ⟨q, o + 1, none⟩ (.int .i64 t.t)).setCell ⟨q, o + 2, none⟩ (.int .i64 t.m)) :=
  ⟨((h.rd.set_other _ h2 h3).set_other _ h2 h3).set_other _ h2 h3, ((h.ex.set_new _ (by omega)).set_new _ (by omega)).set_new _ (by omega),
    ((h.zb.set_other q _ _ (by omega)).set_other q _ _ (by omega)).set_other q _ _ (by omega), (((h.qb.set o _).set (o + 1) _).set (o + 2) _).eq (bx_put _ _ _ hk t ho),
    ((h.ow.set h.qb (by decide)).set (h.qb.set o _) (by decide)).set ((h.qb.set o _).set (o + 1) _) (by decide)⟩

theorem bx_setlast (a : Value) (f : Nat → Tg) (b c : Value) : (bx a f b).setIfInBounds 127 c = bx a f c := by
  apply Array.ext_getElem?
  intro i
  simp only [Array.getElem?_setIfInBounds, bx_size, bx_at]
  by_cases h : 127 = i
  · subst h; simp
  · rw [if_neg h]
    have : ¬ i = 127 := fun e => h e.symm
    simp [this]
theorem OwC.ne {B b : Nat} {w : World} {v : Value} {l : List C3} {T : TypeId} {C : Array Value} (h : OwC B w v l) (hb : Blk w b T C) (hT : 63 ≠ T) : v.ownBlock ≠ some b := by
  rcases h.2 with ⟨rfl, _⟩ | ⟨g, cap, cur, rfl, _, hg, _⟩
  · intro e; cases e
  · intro e
    injection e with e
    exact blk_ne (T := 63) (C := cur) hg hb hT e
theorem Ex.below_trans {p : Nat} {w w' w'' : World} (h : Ex p w w') (hb : Below w.heap.size w' w'') : Ex p w w'' :=
  ⟨hb.os.trans h.os, hb.tape.trans h.tape, hb.output.trans h.output, Nat.le_trans h.size hb.size, fun k hk h1 => (hb.block k hk).trans (h.block k hk h1)⟩
theorem CS.drew {B p q : Nat} {b : List Nat} {vb : Value} {w : World} {m : Nat} {f : Nat → Tg} {vc : Value} {l : List C3} {wr : World} (h : CS B p q b vb w m f vc l wr) : CS B p q b vb w m f vc l wr.drew :=
  ⟨h.rd.drew, h.ex.drew, h.zb, h.qb, h.ow⟩
theorem CS.grow {B p q : Nat} {b : List Nat} {vb : Value} {w : World} {m : Nat} {f : Nat → Tg} {vc : Value} {l : List C3} {wr w3 : World} (h : CS B p q b vb w m f vc l wr) (hpw : p < w.heap.size) (hBp : B ≤ p) (hzq : w.heap.size < q) (x : C3) {o : Obj} {v' : Value}
    (hown : w3.ownsRow w.heap.size 63 3 v' (l.length + 1) (conC l ++ [.int .i64 x.i, .int .i64 x.j, .int .i64 x.c])) (hg : (wr.alloc o).grownBy w3 vc.ownBlock) :
    CS B p q b vb w m f v' (l ++ [x]) (w3.setCell ⟨q, 127, none⟩ v') := by
  have hs := h.ex.size
  have hb : Below w.heap.size wr w3 := ((bRefl wr).mono hs |>.alloc hs o).grown hg (by simp; omega) (fun g hg => (h.ow.lt g hg).1)
  have hZ : Blk w3 w.heap.size 61 (bx (.bool false) f0 (.slice none 0 0)) := (h.zb.alloc o).of_block (hg.block _ (h.zb.alloc o).lt (h.ow.ne h.zb (by decide)).symm)
  have hQ : Blk w3 q 61 (bx (.bool false) f vc) := (h.qb.alloc o).of_block (hg.block _ (h.qb.alloc o).lt (h.ow.ne h.qb (by decide)).symm)
  have hO : OwC w.heap.size w3 v' (l ++ [x]) := by
    unfold OwC
    rw [conC_app, List.length_append]
    exact hown
  have hR : Rdr B p b m w3 vb := ⟨h.rd.blk.of_block (hb.block p hpw), h.rd.by'.below ⟨hb.os, hb.tape, hb.output, hb.size, fun k hk => hb.block k (by omega)⟩, h.rd.hp, h.rd.at', h.rd.len⟩
  exact ⟨hR.set_other _ (by omega) (by omega), (h.ex.below_trans hb).set_new _ (by omega), hZ.set_other q _ _ (by omega), (hQ.set 127 v').eq (bx_setlast _ _ _ _), hO.set hQ (by decide)⟩
theorem RP.cases {α : Type} {B p : Nat} {b : List Nat} {vb : Value} {r : Except (Nat × Int) (α × Nat)} {out : α → Value → World → Prop} {w w' : World} {e : Ending} (h : RP B p b vb r out w e w') :
    (∃ y ye, r = .error (y, ye) ∧ e = .panicked [stopV y ye] ∧ Ex p w w') ∨ ∃ x a v, r = .ok (x, a) ∧ e = .returned v ∧ out x v w' ∧ Rdr B p b a w' vb ∧ Ex p w w' := by
  cases hr : r with
  | error y => exact Or.inl ⟨y.1, y.2, rfl, h.err hr⟩
  | ok y =>
    obtain ⟨v, h1, h2⟩ := h.ok hr
    exact Or.inr ⟨y.1, y.2, v, rfl, h1, h2⟩

theorem rcon_eq (w : World) (B p a : Nat) (b : List Nat) (vb : Value) (h : Rdr B p b a w vb) (va : Value) (k : Nat) (prev : Option C3) (hl : LastC p w va k prev) (hk : k ≤ 3600) {ki : Int} (hki : ki = (k : Int)) :
    Calls Try.prog 78 #[.pointer (some ⟨p, 0, none⟩), va, .int .i64 ki] w (RP B p b vb (pCon prev b a) isCon w) := hki ▸ rcon_ok w B p a b vb h va k prev hl hk

theorem rclaim_ok (w : World) (B p a : Nat) (b : List Nat) (vb : Value) (h : Rdr B p b a w vb) :
    Calls Try.prog 57 #[.pointer (some ⟨p, 0, none⟩)] w (RP B p b vb (pClaim b a) (isCl w.heap.size) w) := by
  have H := Lib.hid h
  have hpl := h.lt
  have hBp := h.hp
  obtain ⟨R, hR⟩ : ∃ R, R = pClaim b a := ⟨_, rfl⟩
  rw [← hR]
  rw [pClaim_eq] at hR
  have HR := Lib.hid hR
  have hz := zeroClaim
  clear h hR
  go_enter Try.func57, Try.ntmps57
  go_upto_region 1 with (fail)
  generalize hW : w.alloc (.cells (bx (.bool false) f0 (.slice none 0 0)) 61) = W
  have xW : Ex p w W := by rw [← hW]; exact (Ex.refl p w).alloc _
  have qW : Rdr B p b a W vb := by rw [← hW]; exact H.out.below (bAl (bRefl w) _)
  have zW : Blk W w.heap.size 61 (bx (.bool false) f0 (.slice none 0 0)) := by rw [← hW]; exact Blk.new _ _ _
  have hWs := zW.lt
  have HX := Lib.hid xW
  have HZ := Lib.hid zW
  have HQ := Lib.hid qW
  clear hW xW qW zW H
  go_wp2_with fail
  (with_reducible refine (rbounded_eq _ B p a b vb HQ.out 1 110 (by omega)).mono ?_)
  rintro e w1 hr
  cases hb : pBnd 1 110 b a with
  | error y =>
    obtain ⟨y, ye⟩ := y
    obtain ⟨rfl, hx⟩ := hr.err hb
    have e1 : Hid (R = .error (y, ye)) := by show _ = _; rw [HR.out]; exact pBind_no hb
    clear hr hb
    go_wp2
    exact ⟨rfl, RP.mk_err e1.out (HX.out.trans hx)⟩
  | ok v =>
    obtain ⟨live, m⟩ := v
    obtain ⟨v, rfl, rfl, hd, hx⟩ := hr.ok hb
    have HR2 : Hid (R = (if live = 0 then pPure ⟨true, f0, []⟩ else pBind (pRegs 10 0 f0) pClS) b m) := by show _ = _; rw [HR.out]; exact pBind_at hb
    have HX1 := Lib.hid (HX.out.trans hx)
    have HZ1 := Lib.hid (hx.blk HZ.out (by omega))
    have HD1 := Lib.hid hd
    have hs1 := hx.size
    clear hr hb hd hx HX HZ HQ HR
    by_cases hl : live = 0
    · subst hl
      have e1 : Hid (R = .ok (⟨true, f0, []⟩, m)) := HR2.out
      clear HR2
      go_wp2_with (first
        | (refine wpl_build rfl 61 _ rfl builtDead ?_)
        | (refine wpl_store rfl 61 (.tmp 2) (.tmp 12) rfl w.heap.size 0 rfl rfl HZ1.out rowClaim (bx_size _ _ _) (of_decide_eq_true (by kernel_rfl)) (bx_one _ rfl rfl) ?_; intro wn hO hN))
      rw [bx_dead, spl_all _ _ (by rw [bx_size, bx_size])] at hN
      refine ret_cell rfl rfl hN (by rw [bx_size]; exact rowClaim) rfl ?_
      exact RP.mk_ok e1.out ⟨_, rfl, OwC.nil _ _⟩ (HD1.out.only hO (by omega) (by omega)) (HX1.out.only hO (Nat.le_refl _))
    · have hl' : ¬ (live : Int) = 0 := by omega
      have hl2 : ((live : Int) == 0) = false := by rw [beq_eq_false_iff_ne]; omega
      have HR3 : Hid (R = pBind (pRegs 10 0 f0) pClS b m) := by show _ = _; rw [HR2.out, if_neg hl]
      clear HR2 hl
      go_upto_region 4 with (fail)
      generalize hV : w1.alloc (.cells (bx (.bool false) f0 (.slice none 0 0)) 61) = V
      obtain ⟨q, hq⟩ : ∃ q, q = w1.heap.size := ⟨_, rfl⟩
      rw [← hq]
      have cs0 : CS B p q b vb w m f0 (.slice none 0 0) [] V := by
        rw [← hV]
        exact ⟨HD1.out.below (bAl (bRefl w1) _), HX1.out.alloc _, HZ1.out.alloc _, Blk.new_at _ _ hq, OwC.nil _ _⟩
      have hzp : w.heap.size ≠ p := by omega
      have hzq : w.heap.size < q := by omega
      have hqp : q ≠ p := by omega
      have hqB : B ≤ q := by omega
      have HC0 := Lib.hid cs0
      clear hV hq HD1 HX1 HZ1 hs1 hWs cs0 hz
      go_wp2
      go_loopw [13] (fun t wr => ∃ (k : Nat) (f : Nat → Tg) (m : Nat), k ≤ 10 ∧ t = .int .i64 (k : Int) ∧ Hid (R = pBind (pRegs (10 - k) k f) pClS b m) ∧ Hid (CS B p q b vb w m f (.slice none 0 0) [] wr)) (fun t _ => 10 - (intOf t).toNat)
      case atStart => exact ⟨0, f0, m, by omega, rfl, HR3, HC0⟩
      case round =>
        clear HR3 HC0
        obtain ⟨k, f, m, hk, rfl, HE, HC⟩ := hrel
        by_cases hlt : k < 10
        · have hlt' : (k : Int) < 10 := by omega
          have HE2 : Hid (R = (pBind (pTag false) fun t => pBind (pRegs (9 - k) (k + 1) (putT f k t)) pClS) b m) := by
            show _ = _
            rw [HE.out, show 10 - k = (9 - k) + 1 by omega, pRegs_succ]
          clear HE
          go_wp2_with fail
          refine (rtag_ok wr B p m b vb HC.out.rd false).mono ?_
          rintro e w2 hr
          cases hb : pTag false b m with
          | error y =>
            obtain ⟨y, ye⟩ := y
            obtain ⟨rfl, hx⟩ := hr.err hb
            have e1 : Hid (R = .error (y, ye)) := by show _ = _; rw [HE2.out]; exact pBind_no hb
            clear hr hb
            go_wp2
            exact ⟨rfl, RP.mk_err e1.out (HC.out.ex.trans hx)⟩
          | ok v =>
            obtain ⟨t, m2⟩ := v
            obtain ⟨v, rfl, rfl, hd, hx⟩ := hr.ok hb
            have HE3 : Hid (R = pBind (pRegs (10 - (k + 1)) (k + 1) (putT f k t)) pClS b m2) := by show _ = _; rw [HE2.out, show 10 - (k + 1) = 9 - k by omega]; exact pBind_at hb
            have HC2 := Lib.hid (HC.out.next hx hd hzp hqp)
            obtain ⟨b0, b1, b2⟩ := bx_tag (.bool false) f (.slice none 0 0) (show k < 42 by omega)
            have c0 := (HC2.out.qb.cell (1 + k * 3)).trans b0
            have c1 := (HC2.out.qb.cell (1 + k * 3 + 1)).trans b1
            have c2 := (HC2.out.qb.cell (1 + k * 3 + 2)).trans b2
            have g0 := HC2.out.qb.frozen (1 + k * 3)
            have g1 := HC2.out.qb.frozen (1 + k * 3 + 1)
            have g2 := HC2.out.qb.frozen (1 + k * 3 + 2)
            clear hr hb hd hx HE2 HC b0 b1 b2
            unfold tgv
            go_wp2
            go_roundw
            all_goals first
              | exact ⟨k + 1, putT f k t, m2, by omega, by go_num, HE3, HC2.out.tag hzq hqp hqB (by omega) t (by omega)⟩
              | ((repeat apply Exists.intro); exact ⟨⟨k + 1, putT f k t, m2, by omega, by go_num, HE3, HC2.out.tag hzq hqp hqB (by omega) t (by omega)⟩, rfl⟩)
              | (simp [intOf]; omega)
        · obtain rfl : k = 10 := by omega
          have HE2 : Hid (R = pClS f b m) := by show _ = _; rw [HE.out]; rfl
          clear HE hlt hk
          unfold pClS at HE2
          go_wp2_with fail
          (with_reducible refine (rmost_eq wr B p m b vb HC.out.rd 32 112 (by omega)).mono ?_)
          rintro e w2 hr
          cases hb : pMost 32 112 b m with
          | error y =>
            obtain ⟨y, ye⟩ := y
            obtain ⟨rfl, hx⟩ := hr.err hb
            have e1 : Hid (R = .error (y, ye)) := by show _ = _; rw [HE2.out]; exact pBind_no hb
            clear hr hb
            go_wp2
            exact ⟨rfl, RP.mk_err e1.out (HC.out.ex.trans hx)⟩
          | ok v =>
            obtain ⟨n, m2⟩ := v
            obtain ⟨v, rfl, rfl, hd, hx⟩ := hr.ok hb
            have hn32 := (pChk_ok.1 hb).2
            simp only [decide_eq_true_eq] at hn32
            have HE3 : Hid (R = pBind (pSlots n (-1) f) pClB b m2) := by show _ = _; rw [HE2.out]; exact pBind_at hb
            have HC2 := Lib.hid (HC.out.next hx hd hzp hqp)
            clear hr hb hd hx HE2 HC
            go_wp2
            go_loopw [5, 24] (fun la t wr => ∃ (k : Nat) (last : Int) (f : Nat → Tg) (m : Nat), k ≤ n ∧ la = .int .i64 last ∧ t = .int .i64 (k : Int) ∧ Hid (R = pBind (pSlots (n - k) last f) pClB b m) ∧ Hid (CS B p q b vb w m f (.slice none 0 0) [] wr)) (fun _ t _ => n - (intOf t).toNat)
            case atStart => exact ⟨0, -1, f, m2, by omega, rfl, rfl, HE3, HC2⟩
            case round =>
              clear HE3 HC2
              obtain ⟨k, last, f, m, hk, rfl, rfl, HE, HC⟩ := hrel
              by_cases hlt : k < n
              · have hlt' : (k : Int) < (n : Int) := by omega
                have HE2 : Hid (R = (pBind (pChk (fun i : Nat => decide (last < (i : Int))) 111 (pBnd 31 90)) fun i => pBind (pTag true) fun t => pBind (pSlots (n - (k + 1)) i (putT f (10 + i) t)) pClB) b m) := by
                  show _ = _
                  rw [HE.out, show n - k = (n - (k + 1)) + 1 by omega, pSlots_succ]
                have c1 := HC.out.rd.blk.cell 1
                simp only [List.getElem?_toArray, List.getElem?_cons_zero, List.getElem?_cons_succ] at c1
                clear HE
                go_wp2_with fail
                (with_reducible refine (rbounded_eq wr B p m b vb HC.out.rd 31 90 (by omega)).mono ?_)
                rintro e w2 hr
                cases hb : pBnd 31 90 b m with
                | error y =>
                  obtain ⟨y, ye⟩ := y
                  obtain ⟨rfl, hx⟩ := hr.err hb
                  have e1 : Hid (R = .error (y, ye)) := by show _ = _; rw [HE2.out]; exact pBind_no (pChk_err.2 (Or.inl hb))
                  clear hr hb
                  go_wp2
                  exact ⟨rfl, RP.mk_err e1.out (HC.out.ex.trans hx)⟩
                | ok v =>
                  obtain ⟨i, m2⟩ := v
                  obtain ⟨v, rfl, rfl, hd, hx⟩ := hr.ok hb
                  have hi31 := (pChk_ok.1 hb).2
                  simp only [decide_eq_true_eq] at hi31
                  have HC2 := Lib.hid (HC.out.next hx hd hzp hqp)
                  have HB := Lib.hid hb
                  clear hr hb hd hx HC c1
                  by_cases hil : (i : Int) ≤ last
                  · have e1 : Hid (R = .error (m, 111)) := by
                      show _ = _
                      rw [HE2.out]
                      refine pBind_no (pChk_err.2 (Or.inr ⟨rfl, i, m2, HB.out, ?_⟩))
                      simp only [decide_eq_false_iff_not]
                      omega
                    clear HE2 HB
                    go_wp2_with fail
                    refine (giveup_ok _ _ m 111).mono ?_
                    rintro e w3 ⟨rfl, rfl⟩
                    go_wp2
                    exact ⟨rfl, RP.mk_err e1.out HC2.out.ex⟩
                  · have hil' : last < (i : Int) := by omega
                    have HE3 : Hid (R = (pBind (pTag true) fun t => pBind (pSlots (n - (k + 1)) i (putT f (10 + i) t)) pClB) b m2) := by
                      show _ = _
                      rw [HE2.out]
                      exact pBind_at (pChk_ok.2 ⟨HB.out, by simpa using hil'⟩)
                    have hi32 : (i : Int) < 32 := by omega
                    clear HE2 HB
                    go_wp2_with fail
                    refine (rtag_ok w2 B p m2 b vb HC2.out.rd true).mono ?_
                    rintro e w3 hr
                    cases hb : pTag true b m2 with
                    | error y =>
                      obtain ⟨y, ye⟩ := y
                      obtain ⟨rfl, hx⟩ := hr.err hb
                      have e1 : Hid (R = .error (y, ye)) := by show _ = _; rw [HE3.out]; exact pBind_no hb
                      clear hr hb
                      go_wp2
                      exact ⟨rfl, RP.mk_err e1.out (HC2.out.ex.trans hx)⟩
                    | ok v =>
                      obtain ⟨t, m3⟩ := v
                      obtain ⟨v, rfl, rfl, hd, hx⟩ := hr.ok hb
                      have HE4 : Hid (R = pBind (pSlots (n - (k + 1)) i (putT f (10 + i) t)) pClB b m3) := by show _ = _; rw [HE3.out]; exact pBind_at hb
                      have HC3 := Lib.hid (HC2.out.next hx hd hzp hqp)
                      obtain ⟨b0, b1, b2⟩ := bx_tag (.bool false) f (.slice none 0 0) (show 10 + i < 42 by omega)
                      have ei : 1 + (10 + i) * 3 = 31 + i * 3 := by omega
                      rw [ei] at b0 b1 b2
                      have c0 := (HC3.out.qb.cell (31 + i * 3)).trans b0
                      have c1 := (HC3.out.qb.cell (31 + i * 3 + 1)).trans b1
                      have c2 := (HC3.out.qb.cell (31 + i * 3 + 2)).trans b2
                      have g0 := HC3.out.qb.frozen (31 + i * 3)
                      have g1 := HC3.out.qb.frozen (31 + i * 3 + 1)
                      have g2 := HC3.out.qb.frozen (31 + i * 3 + 2)
                      clear hr hb hd hx HE3 HC2 b0 b1 b2 ei
                      unfold tgv
                      go_wp2
                      go_roundw
                      all_goals first
                        | exact ⟨k + 1, i, putT f (10 + i) t, m3, by omega, rfl, by go_num, HE4, HC3.out.tag hzq hqp hqB (by omega) t (by omega)⟩
                        | ((repeat apply Exists.intro); exact ⟨⟨k + 1, i, putT f (10 + i) t, m3, by omega, rfl, by go_num, HE4, HC3.out.tag hzq hqp hqB (by omega) t (by omega)⟩, rfl⟩)
                        | (simp [intOf]; omega)
              · obtain rfl : k = n := by omega
                have HE2 : Hid (R = pClB f b m) := by show _ = _; rw [HE.out, Nat.sub_self]; rfl
                clear HE hlt hk
                unfold pClB at HE2
                go_wp2_with fail
                (with_reducible refine (rmost_eq wr B p m b vb HC.out.rd 3540 112 (by omega)).mono ?_)
                rintro e w2 hr
                cases hb : pMost 3540 112 b m with
                | error y =>
                  obtain ⟨y, ye⟩ := y
                  obtain ⟨rfl, hx⟩ := hr.err hb
                  have e1 : Hid (R = .error (y, ye)) := by show _ = _; rw [HE2.out]; exact pBind_no hb
                  clear hr hb
                  go_wp2
                  exact ⟨rfl, RP.mk_err e1.out (HC.out.ex.trans hx)⟩
                | ok v =>
                  obtain ⟨n, m2⟩ := v
                  obtain ⟨v, rfl, rfl, hd, hx⟩ := hr.ok hb
                  have hn := (pChk_ok.1 hb).2
                  simp only [decide_eq_true_eq] at hn
                  have HE3 : Hid (R = pMap (fun l => ⟨false, f, l⟩) (pCons n []) b m2) := by show _ = _; rw [HE2.out]; exact pBind_at hb
                  have HC2 := Lib.hid (HC.out.next hx hd hzp hqp)
                  clear hr hb hd hx HE2 HC hn32
                  go_wp2
                  go_loopw [47] (fun t wr => ∃ (k : Nat) (l : List C3) (vc : Value) (m : Nat), k ≤ n ∧ l.length = k ∧ t = .int .i64 (k : Int) ∧ Hid (R = pMap (fun l => ⟨false, f, l⟩) (pCons (n - k) l) b m) ∧ Hid (CS B p q b vb w m f vc l wr)) (fun t _ => n - (intOf t).toNat)
                  case atStart => exact ⟨0, [], _, m2, by omega, rfl, rfl, HE3, HC2⟩
                  case round =>
                    clear HE3 HC2
                    obtain ⟨k, l, vc, m, hk, hll, rfl, HE, HC⟩ := hrel
                    subst hll
                    by_cases hlt : l.length < n
                    · have hlt' : (l.length : Int) < (n : Int) := by omega
                      have HE2 : Hid (R = (pBind (pCon l.getLast?) fun x => pMap (fun l => ⟨false, f, l⟩) (pCons (n - (l.length + 1)) (l ++ [x]))) b m) := by
                        show _ = _
                        rw [HE.out, show n - l.length = (n - (l.length + 1)) + 1 by omega, pCons_succ]
                      clear HE
                      have cv : wr.drew.cell? ⟨q, 127, none⟩ = some vc := (HC.out.qb.cell 127).trans (bx_last _ _ _)
                      obtain ⟨i, hi, hz0, hz1, hz2⟩ := info_parts infoC3
                      have Hi := Lib.hid hi
                      have HCd := Lib.hid HC.out.drew
                      have HL0 := Lib.hid (HCd.out.ow.last HCd.out.rd.blk (by decide))
                      clear hi HC
                      go_upto_region 22 with (fail)
                      refine wp_region_last 10 (fun w' => w'.cell? ⟨q, 127, none⟩ = some vc) mix ?_
                      refine wpAnyL_take (i := 0) (v := .pointer (some ⟨q, 127, none⟩)) rfl (by kernel_rfl) (by kernel_rfl) (by kernel_rfl) (fun _ _ _ h => h) rfl (by kernel_rfl) (Or.inl ⟨by rfl, fun w' hw' => by go_simp⟩) cv ?_
                      simp only [Act.put, List.getElem_toArray, List.getElem_cons_zero, List.setIfInBounds_toArray, List.set_cons_zero, List.set_cons_succ]
                      refine wpAnyL_take (i := 1) (v := vc) rfl (by kernel_rfl) (by kernel_rfl) (by kernel_rfl) (fun _ _ _ h => h) rfl (by kernel_rfl) (Or.inl ⟨by rfl, fun w' hw' => by go_simp⟩) cv ?_
                      simp only [Act.put, List.getElem_toArray, List.getElem_cons_zero, List.getElem_cons_succ, List.setIfInBounds_toArray, List.set_cons_zero, List.set_cons_succ]
                      refine wpAnyL_take (i := 2) (v := .pointer (some ⟨p, 0, none⟩)) rfl (by kernel_rfl) (by kernel_rfl) (by kernel_rfl) (fun _ _ _ h => h) rfl (by kernel_rfl) (Or.inl ⟨by rfl, fun w' hw' => by go_simp⟩) cv ?_
                      simp only [Act.put, List.getElem_toArray, List.getElem_cons_zero, List.getElem_cons_succ, List.setIfInBounds_toArray, List.set_cons_zero, List.set_cons_succ]
                      refine wpAnyL_take (i := 3) (v := .pointer (some ⟨q, 127, none⟩)) rfl (by kernel_rfl) (by kernel_rfl) (by kernel_rfl) (fun _ _ _ h => h) rfl (by kernel_rfl) (Or.inl ⟨by rfl, fun w' hw' => by go_simp⟩) cv ?_
                      simp only [Act.put, List.getElem_toArray, List.getElem_cons_zero, List.getElem_cons_succ, List.setIfInBounds_toArray, List.set_cons_zero, List.set_cons_succ]
                      refine wpAnyL_take (i := 4) (v := vc) rfl (by kernel_rfl) (by kernel_rfl) (by kernel_rfl) (fun _ _ _ h => h) rfl (by kernel_rfl) (Or.inl ⟨by rfl, fun w' hw' => by go_simp⟩) cv ?_
                      simp only [Act.put, List.getElem_toArray, List.getElem_cons_zero, List.getElem_cons_succ, List.setIfInBounds_toArray, List.set_cons_zero, List.set_cons_succ]
                      refine wpAnyL_take (i := 5) (v := .int .i64 (l.length : Int)) rfl (by kernel_rfl) (by kernel_rfl) (by kernel_rfl) (fun _ _ _ h => h) rfl (by kernel_rfl) (Or.inl ⟨by rfl, fun w' hw' => by go_simp⟩) cv ?_
                      simp only [Act.put, List.getElem_toArray, List.getElem_cons_zero, List.getElem_cons_succ, List.setIfInBounds_toArray, List.set_cons_zero, List.set_cons_succ]
                      refine wpAnyL_one (i := 6) (by kernel_rfl) rfl (fun K hK => ?_)
                      go_simp
                      go_wp2_with fail
                      (with_reducible refine (rcon_eq _ B p m b vb HCd.out.rd vc l.length l.getLast? HL0.out (by omega) rfl).mono ?_)
                      rintro e w2 hr
                      rcases hr.cases with ⟨y, ye, hb, rfl, hx⟩ | ⟨x, m2, v, hb, rfl, hv, hd, hx⟩
                      · have e1 : Hid (R = .error (y, ye)) := by
                          show _ = _
                          rw [HE2.out]
                          exact pBind_no hb
                        clear hb hr
                        go_wp2
                        exact ⟨rfl, RP.mk_err e1.out (HCd.out.ex.trans hx)⟩
                      have HE3 : Hid (R = pMap (fun l => ⟨false, f, l⟩) (pCons (n - (l.length + 1)) (l ++ [x])) b m2) := by
                        show _ = _
                        rw [HE2.out]
                        exact pBind_at hb
                      have HC2 := Lib.hid (HCd.out.next hx hd hzp hqp)
                      have cv2 : w2.cell? ⟨q, 127, none⟩ = some vc := (HC2.out.qb.cell 127).trans (bx_last _ _ _)
                      have hql2 := HC2.out.qb.lt
                      have hsw2 := HC2.out.ex.size
                      clear hb hr hd hx
                      unfold isCon c3v at hv
                      subst hv
                      go_wp2_with fail
                      refine hK.out _ _ (fun _ => cv2) ?_
                      clear hK K
                      refine wpAnyL_one (i := 7) (by kernel_rfl) rfl (fun K hK => ?_)
                      go_simp
                      refine hK.out _ _ (fun _ => ((HC2.out.qb.alloc _).cell 127).trans (bx_last _ _ _)) ?_
                      clear hK K
                      refine wpAnyL_one (i := 8) (by kernel_rfl) rfl (fun K hK => ?_)
                      refine step_append_lies _ (by rfl) _ _ _ (by rfl) w.heap.size 63 i _ 3 24 Try.underlying59 Hi.out hz0 hz1 hz2 rfl (by omega) vc l.length (conC l) (by rfl) (HC2.out.ow.below (bAl (bRefl w2) _)) ⟨w2.heap.size, 0, none⟩ 1 1 [.int .i64 x.i, .int .i64 x.j, .int .i64 x.c] (by rfl) (by rfl)
                        (World.news_of_block (cs := #[.int .i64 x.i, .int .i64 x.j, .int .i64 x.c]) (t := 63) (fr := (0, 0)) (heap_alloc_new w2 _)) (by simp [Value.oneCell']) (by omega) (by unfold maxLen; omega) (by omega) (by simp; omega) (w2.heap.size + 1) (by simp) ?_
                      intro g cap' w3 hown hgrow hat hlt1
                      have hq3 := (HC2.out.qb.alloc (.cells #[.int .i64 x.i, .int .i64 x.j, .int .i64 x.c] 63)).of_block (hgrow.block q (HC2.out.qb.alloc _).lt (HC2.out.ow.ne HC2.out.qb (by decide)).symm)
                      have cv3 := (hq3.cell 127).trans (bx_last _ _ _)
                      have g3 := hq3.frozen 127
                      have HC3 := Lib.hid (HC2.out.grow hpl hBp hzq x hown hgrow)
                      clear hown hgrow hat
                      refine hK.out _ _ (fun _ => cv3) ?_
                      clear hK K
                      refine wpAnyL_take (i := 9) (v := .pointer (some ⟨q, 127, none⟩)) rfl (by kernel_rfl) (by kernel_rfl) (by kernel_rfl) (fun _ _ _ h => h) rfl (by kernel_rfl) (Or.inl ⟨by rfl, fun w' hw' => by go_simp⟩) cv3 ?_
                      simp only [Act.put, List.getElem_toArray, List.getElem_cons_zero, List.getElem_cons_succ, List.setIfInBounds_toArray, List.set_cons_zero, List.set_cons_succ]
                      refine wpAnyL_one (i := 10) (by kernel_rfl) rfl (fun K hK => ?_)
                      go_simp
                      refine hK.out _ _ (fun h => absurd rfl h) ?_
                      clear hK K
                      refine wpAnyL_done (by kernel_rfl) ?_ _
                      have hll : (l ++ [x]).length = l.length + 1 := by simp
                      clear cv
                      go_wp2
                      go_roundw
                      all_goals first
                        | exact ⟨l.length + 1, l ++ [x], _, m2, by omega, hll, by go_num, HE3, HC3⟩
                        | ((repeat apply Exists.intro); exact ⟨⟨l.length + 1, l ++ [x], _, m2, by omega, hll, by go_num, HE3, HC3⟩, rfl⟩)
                        | (simp [intOf]; omega)
                    · obtain rfl : l.length = n := by omega
                      have e1 : Hid (R = .ok (⟨false, f, l⟩, m)) := by show _ = _; rw [HE.out, Nat.sub_self]; rfl
                      clear HE hlt hk
                      have HZB := Lib.hid HC.out.zb
                      have HQB := Lib.hid HC.out.qb
                      have hv1 : vc.oneCell' = true := by obtain ⟨a0, cap, e, _⟩ := HC.out.ow.cells; rw [e]; rfl
                      go_wp2_with (first
                        | (refine wpl_load rfl 61 (.tmp 3) rfl q 0 rfl HQB.out rowClaim (by rw [bx_size]; omega) (bx_all _ _ _) ?_)
                        | (refine wpl_store rfl 61 (.tmp 2) (.tmp 61) rfl w.heap.size 0 rfl rfl HZB.out rowClaim (bx_size _ _ _) (of_decide_eq_true (by kernel_rfl)) (bx_one _ rfl hv1) ?_; intro wn hO hN))
                      rw [spl_all _ _ (by rw [bx_size, bx_size])] at hN
                      refine ret_cell rfl rfl hN (by rw [bx_size]; exact rowClaim) rfl ?_
                      refine RP.mk_ok e1.out ⟨_, rfl, ?_⟩ (HC.out.rd.only hO (by omega) (by omega)) (HC.out.ex.only hO (Nat.le_refl _))
                      exact HC.out.ow.of_block fun g _ hg => hO.block g (blk_ne hg HZB.out (by decide))
end Go.Proofs.Ytfdjdpbiccclfaa
