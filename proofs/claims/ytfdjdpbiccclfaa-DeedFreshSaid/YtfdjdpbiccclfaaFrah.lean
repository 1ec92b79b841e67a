/- What the law needs, one part after another: walks of functions and plain laws. No conditions but those that each law names. -/
import Derived.Test.YtfdjdpbiccclfaaFrag
namespace Go.Proofs.Ytfdjdpbiccclfaa
open Go Go.RowKit Go.Wr
set_option maxHeartbeats 4000000
set_option maxRecDepth 100000
theorem rrises_yes (w : World) (a b : C3) (v : Bool) (h : rises a b = v) {i j c i' j' c' : Int} (h1 : i = a.i) (h2 : j = a.j) (h3 : c = a.c) (h4 : i' = b.i) (h5 : j' = b.j) (h6 : c' = b.c) :
    Calls Try.prog 74 #[.agg #[.int .i64 i, .int .i64 j, .int .i64 c], .agg #[.int .i64 i', .int .i64 j', .int .i64 c']] w fun e w' => e = .returned (.bool v) ∧ Below w.heap.size w w' := by
  subst h1 h2 h3 h4 h5 h6 h
  exact rrises_ok w a b
theorem Cu.stay {B p n : Nat} {b : List Nat} {s : Except (Nat × Int) Nat} {w w' : World} {vb : Value} (h : Cu B p b s w vb) (hb : Below n w w') (hp : p < n) (hB : B ≤ n) : Cu B p b s w' vb := by
  have hb' : Below B w w' := ⟨hb.os, hb.tape, hb.output, hb.size, fun k hk => hb.block k (by omega)⟩
  cases s with
  | ok m =>
    have h : CuL B p b m w vb := h
    exact show CuL B p b m w' vb from ⟨h.blk.of_block (hb.block p hp), h.by'.below hb', h.hp, h.at', h.len⟩
  | error e =>
    obtain ⟨y, er⟩ := e
    have h : CuD B p b y er w vb := h
    exact show CuD B p b y er w' vb from ⟨by obtain ⟨a, hk⟩ := h.blk; exact ⟨a, hk.of_block (hb.block p hp)⟩, h.by'.below hb', h.hp, h.er', h.len⟩
theorem Ex2.set_new {p q g i : Nat} {w w' : World} (h : Ex2 p q w w') (v : Value) (hg : w.heap.size ≤ g) : Ex2 p q w (w'.setCell ⟨g, i, none⟩ v) := by
  have hb := (Below.refl 0 w').setCell (p := ⟨g, i, none⟩) (Nat.zero_le _) v
  exact ⟨hb.os.trans h.os, hb.tape.trans h.tape, hb.output.trans h.output, Nat.le_trans h.size hb.size, fun k hk h1 h2 => (Below.heap_setCell w' ⟨g, i, none⟩ v k (by simp; omega)).trans (h.block k hk h1 h2)⟩
theorem Ex2.below_trans {p q : Nat} {w w' w'' : World} (h : Ex2 p q w w') (hb : Below w.heap.size w' w'') : Ex2 p q w w'' :=
  ⟨hb.os.trans h.os, hb.tape.trans h.tape, hb.output.trans h.output, Nat.le_trans h.size hb.size, fun k hk h1 h2 => (hb.block k hk).trans (h.block k hk h1 h2)⟩
structure CK (B p q : Nat) (b : List Nat) (vb : Value) (w : World) (s : Except (Nat × Int) Nat) (f : Nat → Tg) (vc : Value) (l : List C3) (wr : World) : Prop where
  cu : Cu B p b s wr vb
  ex : Ex2 p q w wr
  qb : Blk wr q 61 (bx (.bool false) f vc)
  ow : OwC w.heap.size wr vc l
  hp : p < w.heap.size
  hq : q < w.heap.size
  hqp : q ≠ p
  hB : B ≤ p
  hBq : B ≤ q
section
variable {B p q : Nat} {b : List Nat} {vb : Value} {w : World} {s s' : Except (Nat × Int) Nat} {f : Nat → Tg} {vc : Value} {l : List C3} {wr w' w3 : World}
theorem CK.next (h : CK B p q b vb w s f vc l wr) (hx : Ex p wr w') (hd : Cu B p b s' w' vb) : CK B p q b vb w s' f vc l w' :=
  ⟨hd, h.ex.trans (Ex2.of_ex hx), hx.blk h.qb h.hqp, h.ow.of_block fun g C hg => hx.block g hg.lt (fun e => by subst e; cases s with
    | ok m => exact blk_ne hg (show CuL _ _ _ _ _ _ from h.cu).blk (by decide) rfl
    | error e => obtain ⟨a, hk⟩ := (show CuD _ _ _ _ _ _ _ from h.cu).blk; exact blk_ne hg hk (by decide) rfl), h.hp, h.hq, h.hqp, h.hB, h.hBq⟩
theorem CK.below (h : CK B p q b vb w s f vc l wr) (b' : Below wr.heap.size wr w') : CK B p q b vb w s f vc l w' := by
  have hs := h.ex.size
  exact ⟨h.cu.stay b' (by have := h.hp; omega) (by have := h.hp; have := h.hB; omega), h.ex.trans (Ex2.of_ex (Ex.of_below b')), h.qb.below b' h.qb.lt, h.ow.below b', h.hp, h.hq, h.hqp, h.hB, h.hBq⟩
theorem CK.alloc (h : CK B p q b vb w s f vc l wr) (o : Obj) : CK B p q b vb w s f vc l (wr.alloc o) := h.below (bAl (bRefl wr) o)
theorem CK.drewN (h : CK B p q b vb w s f vc l wr) (n : Nat) : CK B p q b vb w s f vc l (wr.drewN n) := h.below ⟨rfl, rfl, rfl, Nat.le_refl _, fun _ _ => rfl⟩
theorem CK.drew (h : CK B p q b vb w s f vc l wr) : CK B p q b vb w s f vc l wr.drew := h.below ⟨rfl, rfl, rfl, Nat.le_refl _, fun _ _ => rfl⟩
theorem CK.setN (h : CK B p q b vb w s f vc l wr) {g i : Nat} (hg : w.heap.size ≤ g) (hne : vc.ownBlock ≠ some g) (v : Value) : CK B p q b vb w s f vc l (wr.setCell ⟨g, i, none⟩ v) := by
  have h1 := h.hp
  have h2 := h.hq
  have h3 := h.hB
  exact ⟨h.cu.set_other _ (by omega) (by omega), h.ex.set_new _ hg, h.qb.set_other g _ _ (by omega), own_of_ne h.ow fun g' hg' => Below.heap_setCell wr ⟨g, i, none⟩ v g' (fun e => hne (hg'.trans (congrArg some e))), h.hp, h.hq, h.hqp, h.hB, h.hBq⟩
theorem CK.grow (h : CK B p q b vb w s f vc l wr) (x : C3) {o : Obj} {v' : Value}
    (hown : w3.ownsRow w.heap.size 63 3 v' (l.length + 1) (conC l ++ [.int .i64 x.i, .int .i64 x.j, .int .i64 x.c])) (hg : (wr.alloc o).grownBy w3 vc.ownBlock) :
    CK B p q b vb w s f v' (l ++ [x]) (w3.setCell ⟨q, 127, none⟩ v') := by
  have hs := h.ex.size
  have h1 := h.hp
  have h3 := h.hB
  have hb : Below w.heap.size wr w3 := ((bRefl wr).mono hs |>.alloc hs o).grown hg (by simp; omega) (fun g hg => (h.ow.lt g hg).1)
  have hQ : Blk w3 q 61 (bx (.bool false) f vc) := h.qb.of_block (hb.block q h.hq)
  have hO : OwC w.heap.size w3 v' (l ++ [x]) := by
    unfold OwC
    rw [conC_app, List.length_append]
    exact hown
  have hC := h.cu.stay hb h1 (by omega)
  exact ⟨hC.set_other _ h.hqp h.hBq, (h.ex.below_trans hb).set _ _, (hQ.set 127 v').eq (bx_setlast _ _ _ _), hO.set hQ (by decide), h.hp, h.hq, h.hqp, h.hB, h.hBq⟩
end
def CKP (B p q : Nat) (b : List Nat) (vb : Value) (r : Except (Nat × Int) (List C3 × Nat)) (f : Nat → Tg) (w : World) (e : Ending) (w' : World) : Prop :=
  e = .returned (.tuple #[]) ∧ ∃ s vc l, CK B p q b vb w s f vc l w' ∧ r = stp s (fun m => .ok (l, m))
def pCnB : Ps (List C3) := pBind (pMost 3540 112) fun n => pCons n []
theorem ccons_dead (w : World) (B p q y : Nat) (er : Int) (b : List Nat) (vb : Value) (h : CuD B p b y er w vb) (f : Nat → Tg) (hq : Blk w q 61 (bx (.bool false) f (.slice none 0 0))) (hqp : q ≠ p) (hBq : B ≤ q) :
    Calls Try.prog 63 #[.pointer (some ⟨p, 0, none⟩), .pointer (some ⟨q, 0, none⟩)] w (CKP B p q b vb (.error (y, er)) f w) := by
  have H := Lib.hid h
  have HQ := Lib.hid hq
  have hpl := h.lt
  have hql := hq.lt
  have hBp := h.hp
  clear h hq
  go_enter Try.func63, Try.ntmps63
  go_wp2_with fail
  refine (cmost_dead w B p y er b vb H.out 3540 112).mono ?_
  rintro e w1 hr
  obtain ⟨n, v, rfl, rfl, hd1, hx1⟩ := hr.err rfl
  have HC : Hid (CK B p q b vb w (.error (y, er)) f (.slice none 0 0) [] w1) := ⟨hd1, Ex2.of_ex hx1, hx1.blk HQ.out hqp, OwC.nil _ _, hpl, hql, hqp, hBp, hBq⟩
  have c3 := hd1.cell3
  have hne := hd1.ne'
  clear hr hd1 hx1 H HQ
  go_wp2
  go_loopw [5] (fun t wr => t = .int .i64 0 ∧ wr = w1) (fun _ _ => 0)
  case atStart => exact ⟨rfl, rfl⟩
  case round =>
    obtain ⟨rfl, rfl⟩ := hrel
    by_cases hn : 0 < n
    · have hn' : (0 : Int) < (n : Int) := by omega
      go_wp2
      go_end0
      exact ⟨rfl, _, _, _, HC.out, rfl⟩
    · have hn' : ¬ (0 : Int) < (n : Int) := by omega
      go_wp2
      go_end0
      exact ⟨rfl, _, _, _, HC.out, rfl⟩
theorem ccons_ok (w : World) (B p q a : Nat) (b : List Nat) (vb : Value) (h : CuL B p b a w vb) (f : Nat → Tg) (hq : Blk w q 61 (bx (.bool false) f (.slice none 0 0))) (hqp : q ≠ p) (hBq : B ≤ q) :
    Calls Try.prog 63 #[.pointer (some ⟨p, 0, none⟩), .pointer (some ⟨q, 0, none⟩)] w (CKP B p q b vb (pCnB b a) f w) := by
  have H := Lib.hid h
  have HQ := Lib.hid hq
  have hpl := h.lt
  have hql := hq.lt
  have hBp := h.hp
  obtain ⟨R, hR⟩ : ∃ R, R = pCnB b a := ⟨_, rfl⟩
  rw [← hR]
  have HR := Lib.hid hR
  clear h hq hR
  go_enter Try.func63, Try.ntmps63
  go_wp2_with fail
  refine (cmost_ok w B p a b vb H.out 3540 112 (by decide) rfl).mono ?_
  rintro e w1 hr
  cases hb : pMost 3540 112 b a with
  | error v =>
    obtain ⟨y, er⟩ := v
    obtain ⟨n, v, rfl, rfl, hd1, hx1⟩ := hr.err hb
    have e1 : Hid (R = .error (y, er)) := by show _ = _; rw [HR.out]; exact pBind_no hb
    have HC : Hid (CK B p q b vb w (.error (y, er)) f (.slice none 0 0) [] w1) := ⟨hd1, Ex2.of_ex hx1, hx1.blk HQ.out hqp, OwC.nil _ _, hpl, hql, hqp, hBp, hBq⟩
    have c3 := hd1.cell3
    have hne := hd1.ne'
    clear hr hb hd1 hx1 H HQ HR
    go_wp2
    go_loopw [5] (fun t wr => t = .int .i64 0 ∧ wr = w1) (fun _ _ => 0)
    case atStart => exact ⟨rfl, rfl⟩
    case round =>
      obtain ⟨rfl, rfl⟩ := hrel
      by_cases hn : 0 < n
      · have hn' : (0 : Int) < (n : Int) := by omega
        go_wp2
        go_end0
        exact ⟨rfl, _, _, _, HC.out, e1.out⟩
      · have hn' : ¬ (0 : Int) < (n : Int) := by omega
        go_wp2
        go_end0
        exact ⟨rfl, _, _, _, HC.out, e1.out⟩
  | ok v =>
    obtain ⟨n, m⟩ := v
    obtain ⟨v, rfl, rfl, hd1, hx1⟩ := hr.ok hb
    have hn35 := (pChk_ok.1 hb).2
    simp only [decide_eq_true_eq] at hn35
    have e0 : Hid (R = stp (.ok m) fun m => pCons (n - 0) [] b m) := by show _ = _; rw [HR.out]; exact pBind_at hb
    have HC : Hid (CK B p q b vb w (.ok m) f (.slice none 0 0) [] w1) := ⟨hd1, Ex2.of_ex hx1, hx1.blk HQ.out hqp, OwC.nil _ _, hpl, hql, hqp, hBp, hBq⟩
    clear hr hb hd1 hx1 H HQ HR
    go_wp2
    go_loopw [5] (fun t wr => ∃ (k : Nat) (l : List C3) (vc : Value) (s : Except (Nat × Int) Nat), k ≤ n ∧ l.length = k ∧ t = .int .i64 (k : Int) ∧ Hid (R = stp s fun m => pCons (n - k) l b m) ∧ Hid (CK B p q b vb w s f vc l wr)) (fun t _ => n - (intOf t).toNat)
    case atStart => exact ⟨0, [], _, .ok m, by omega, rfl, rfl, e0, HC⟩
    case round =>
      clear e0 HC
      obtain ⟨k, l, vc, s, hk, hlk, rfl, HE, HC⟩ := hrel
      subst hlk
      cases s with
      | error v =>
        obtain ⟨y, er⟩ := v
        have c3 : wr.cell? ⟨p, 3, none⟩ = some (.int .i64 er) := CuD.cell3 HC.out.cu
        have hne : (er == 0) = false := CuD.ne' HC.out.cu
        by_cases hn : l.length < n
        · have hn' : (l.length : Int) < (n : Int) := by omega
          go_wp2
          go_end0
          exact ⟨rfl, _, _, _, HC.out, HE.out⟩
        · have hn' : ¬ (l.length : Int) < (n : Int) := by omega
          go_wp2
          go_end0
          exact ⟨rfl, _, _, _, HC.out, HE.out⟩
      | ok m =>
        have c3 : wr.cell? ⟨p, 3, none⟩ = some (.int .i64 0) := CuL.cell3 HC.out.cu
        have c1 : wr.cell? ⟨p, 1, none⟩ = some (.int .i64 (m : Int)) := CuL.cell1 HC.out.cu
        by_cases hlt : l.length < n
        · have hlt' : (l.length : Int) < (n : Int) := by omega
          have HE2 : Hid (R = (pBind (pCon l.getLast?) fun x => pCons (n - (l.length + 1)) (l ++ [x])) b m) := by
            show _ = _
            rw [HE.out, show n - l.length = (n - (l.length + 1)) + 1 by omega]
            rfl
          clear HE
          go_wp2_with fail
          refine (cbyte_ok0 wr B p m b vb HC.out.cu).mono ?_
          rintro e w2 hr
          cases hb : pByte b m with
          | error v =>
            obtain ⟨y, er⟩ := v
            obtain ⟨rfl, hd, hx⟩ := hr.err hb
            have e1 : ∀ x, Hid (R = stp (.error (y, er)) fun m => pCons (n - (l.length + 1)) (l ++ [x]) b m) := fun x => by
              show _ = _
              rw [HE2.out]
              exact pBind_no (pBind_err.2 (Or.inl (pChk_err.2 (Or.inl (pBind_err.2 (Or.inl (pChk_err.2 (Or.inl hb))))))))
            have HC2 := Lib.hid (HC.out.next (s' := .error (y, er)) hx hd)
            have hvl : ∀ g, vc.ownBlock = some g → g < w2.heap.size := fun g hg => (HC2.out.ow.lt g hg).2
            have hwl := HC2.out.ex.size
            clear hr hb hd hx HE2 c1 c3 HC
            go_upto_region 6 with (fail)
            obtain ⟨xi, hxi⟩ : ∃ x : Int, x = 0 := ⟨_, rfl⟩
            rw [show (.cells #[.int .i64 0, .int .i64 0, .int .i64 0] 63 : Obj) = .cells #[.int .i64 xi, .int .i64 0, .int .i64 0] 63 by rw [hxi]]
            clear hxi
            generalize hV : w2.alloc _ = V
            obtain ⟨nb, hnb⟩ : ∃ n, n = w2.heap.size := ⟨_, rfl⟩
            have HC := Lib.hid (HC2.out.alloc (.cells #[.int .i64 xi, .int .i64 0, .int .i64 0] 63))
            have HN := Lib.hid (Blk.new w2 63 #[.int .i64 xi, .int .i64 0, .int .i64 0])
            rw [hV] at HC HN
            rw [← hnb] at HN ⊢
            have hnp : nb ≠ p := by omega
            have hnw : w.heap.size ≤ nb := by omega
            have hvn : vc.ownBlock ≠ some nb := fun e => by have := hvl nb e; omega
            have n0 := HN.out.cell 0
            simp only [List.getElem?_toArray, List.getElem?_cons_zero] at n0
            clear HC2 hV hnb hvl hwl
            have c3 : V.cell? ⟨p, 3, none⟩ = some (.int .i64 er) := CuD.cell3 HC.out.cu
            have hne' : (er == 0) = false := CuD.ne' HC.out.cu
            obtain ⟨a9, c1⟩ := CuD.cell1 HC.out.cu
            go_upto_region 9 with (fail)
            clear n0
            have c3 : V.cell? ⟨p, 3, none⟩ = some (.int .i64 er) := CuD.cell3 HC.out.cu
            have hne' : (er == 0) = false := CuD.ne' HC.out.cu
            obtain ⟨a9, c1⟩ := CuD.cell1 HC.out.cu
            go_wp2_with fail
            refine (cbyte_dead0 _ B p y er b vb HC.out.cu).mono ?_
            rintro e w7 ⟨rfl, hd, hx⟩
            have HC7 := Lib.hid (HC.out.next (s' := .error (y, er)) hx hd)
            have HN7 := Lib.hid (hx.blk HN.out hnp)
            have n1 := HN7.out.cell 1
            have f1 := HN7.out.frozen 1
            simp only [List.getElem?_toArray, List.getElem?_cons_zero, List.getElem?_cons_succ] at n1
            clear HC HN hd hx c1 c3
            go_upto_region 10 with (fail)
            generalize hV : w7.setCell _ _ = V
            have HC := Lib.hid (HC7.out.setN (g := nb) (i := 1) hnw hvn (.int .i64 0))
            have HN := Lib.hid ((HN7.out.set 1 (.int .i64 0)).eq (C' := #[.int .i64 xi, .int .i64 0, .int .i64 0]) rfl)
            rw [hV] at HC HN
            obtain ⟨xj, hxj⟩ : ∃ x : Int, x = 0 := ⟨_, rfl⟩
            rw [← hxj] at HN
            clear HC7 HN7 hV n1 f1 hxj
            have c3 : V.cell? ⟨p, 3, none⟩ = some (.int .i64 er) := CuD.cell3 HC.out.cu
            have hne' : (er == 0) = false := CuD.ne' HC.out.cu
            go_upto_region 12 with (fail)
            go_quiet (fail)
            obtain ⟨nq', hnq⟩ : ∃ n, n = nq := ⟨_, rfl⟩
            have HC := Lib.hid (HC.out.drewN nq)
            have HN := Lib.hid (Blk.drewN HN.out nq)
            have c3 : (V.drewN nq).cell? ⟨p, 3, none⟩ = some (.int .i64 er) := CuD.cell3 HC.out.cu
            go_wp2_with fail
            refine (csigned_dead _ B p y er b vb HC.out.cu 91).mono ?_
            rintro e w8 hr
            obtain ⟨xc, v, rfl, rfl, hd, hx⟩ := hr.err rfl
            have HC8 := Lib.hid (HC.out.next (s' := .error (y, er)) hx hd)
            have HN8 := Lib.hid (hx.blk HN.out hnp)
            have n2 := HN8.out.cell 2
            have f2 := HN8.out.frozen 2
            simp only [List.getElem?_toArray, List.getElem?_cons_zero, List.getElem?_cons_succ] at n2
            clear HC HN hr hd hx
            go_upto_region 15 with (fail)
            generalize hV : w8.setCell _ _ = V8
            have HC := Lib.hid (HC8.out.setN (g := nb) (i := 2) hnw hvn (.int .i64 xc))
            have HN := Lib.hid ((HN8.out.set 2 (.int .i64 xc)).eq (C' := #[.int .i64 xi, .int .i64 xj, .int .i64 xc]) rfl)
            rw [hV] at HC HN
            clear HC8 HN8 hV n2 f2
            have cq := (HC.out.qb.cell 127).trans (bx_last _ _ _)
            have n0 := HN.out.cell 0
            have n1 := HN.out.cell 1
            have n2 := HN.out.cell 2
            simp only [List.getElem?_toArray, List.getElem?_cons_zero, List.getElem?_cons_succ] at n0 n1 n2
            have hql := HC.out.qb.lt
            have hnl := HN.out.lt
            have hsw := HC.out.ex.size
            obtain ⟨i0, hi, hz0, hz1, hz2⟩ := info_parts infoC3
            have Hi := Lib.hid hi
            have hv1 : vc.oneCell' = true := by obtain ⟨a0, cap, e, _⟩ := HC.out.ow.cells; rw [e]; rfl
            clear hi
            have HCd := Lib.hid HC.out.drew
            have HNd := Lib.hid (Blk.drew HN.out)
            have cv : V8.drew.cell? ⟨q, 127, none⟩ = some vc ∧ V8.drew.cell? ⟨nb, 0, none⟩ = some (.int .i64 xi) ∧ V8.drew.cell? ⟨nb, 1, none⟩ = some (.int .i64 xj) ∧ V8.drew.cell? ⟨nb, 2, none⟩ = some (.int .i64 xc) := ⟨cq, n0, n1, n2⟩
            clear HC HN cq n0 n1 n2
            refine wp_region_last 10 (fun w' => w'.cell? ⟨q, 127, none⟩ = some vc ∧ w'.cell? ⟨nb, 0, none⟩ = some (.int .i64 xi) ∧ w'.cell? ⟨nb, 1, none⟩ = some (.int .i64 xj) ∧ w'.cell? ⟨nb, 2, none⟩ = some (.int .i64 xc)) mix ?_
            refine wpAnyL_take (i := 0) (v := .pointer (some ⟨q, 0, none⟩)) rfl (by kernel_rfl) (by kernel_rfl) (by kernel_rfl) (fun _ _ _ h => h) rfl (by kernel_rfl) (Or.inl ⟨by rfl, fun w' hw' => by obtain ⟨hw1, hw2, hw3, hw4⟩ := hw'; go_simp⟩) cv ?_
            simp only [Act.put, List.getElem_toArray, List.getElem_cons_zero, List.setIfInBounds_toArray, List.set_cons_zero, List.set_cons_succ]
            refine wpAnyL_take (i := 1) (v := .pointer (some ⟨q, 0, none⟩)) rfl (by kernel_rfl) (by kernel_rfl) (by kernel_rfl) (fun _ _ _ h => h) rfl (by kernel_rfl) (Or.inl ⟨by rfl, fun w' hw' => by obtain ⟨hw1, hw2, hw3, hw4⟩ := hw'; go_simp⟩) cv ?_
            simp only [Act.put, List.getElem_toArray, List.getElem_cons_zero, List.getElem_cons_succ, List.setIfInBounds_toArray, List.set_cons_zero, List.set_cons_succ]
            refine wpAnyL_take (i := 2) (v := .pointer (some ⟨q, 0, none⟩)) rfl (by kernel_rfl) (by kernel_rfl) (by kernel_rfl) (fun _ _ _ h => h) rfl (by kernel_rfl) (Or.inl ⟨by rfl, fun w' hw' => by obtain ⟨hw1, hw2, hw3, hw4⟩ := hw'; go_simp⟩) cv ?_
            simp only [Act.put, List.getElem_toArray, List.getElem_cons_zero, List.getElem_cons_succ, List.setIfInBounds_toArray, List.set_cons_zero, List.set_cons_succ]
            refine wpAnyL_take (i := 3) (v := .pointer (some ⟨q, 127, none⟩)) rfl (by kernel_rfl) (by kernel_rfl) (by kernel_rfl) (fun _ _ _ h => h) rfl (by kernel_rfl) (Or.inl ⟨by rfl, fun w' hw' => by obtain ⟨hw1, hw2, hw3, hw4⟩ := hw'; go_simp⟩) cv ?_
            simp only [Act.put, List.getElem_toArray, List.getElem_cons_zero, List.getElem_cons_succ, List.setIfInBounds_toArray, List.set_cons_zero, List.set_cons_succ]
            refine wpAnyL_take (i := 4) (v := vc) rfl (by kernel_rfl) (by kernel_rfl) (by kernel_rfl) (fun _ _ _ h => h) rfl (by kernel_rfl) (Or.inl ⟨by rfl, fun w' hw' => by obtain ⟨hw1, hw2, hw3, hw4⟩ := hw'; go_simp⟩) cv ?_
            simp only [Act.put, List.getElem_toArray, List.getElem_cons_zero, List.getElem_cons_succ, List.setIfInBounds_toArray, List.set_cons_zero, List.set_cons_succ]
            refine wpAnyL_take (i := 5) (v := .agg #[.int .i64 xi, .int .i64 xj, .int .i64 xc]) rfl (by kernel_rfl) (by kernel_rfl) (by kernel_rfl) (fun _ _ _ h => h) rfl (by kernel_rfl) (Or.inl ⟨by rfl, fun w' hw' => by obtain ⟨hw1, hw2, hw3, hw4⟩ := hw'; go_simp⟩) cv ?_
            simp only [Act.put, List.getElem_toArray, List.getElem_cons_zero, List.getElem_cons_succ, List.setIfInBounds_toArray, List.set_cons_zero, List.set_cons_succ]
            refine wpAnyL_one (i := 6) (by kernel_rfl) rfl (fun K hK => ?_)
            go_simp
            rw [show (V8.alloc (.cells #[.int .i64 xi, .int .i64 xj, .int .i64 xc] 63)).drew = V8.drew.alloc (.cells #[.int .i64 xi, .int .i64 xj, .int .i64 xc] 63) from rfl]
            refine hK.out _ _ (fun _ => ⟨((HCd.out.qb.alloc _).cell 127).trans (bx_last _ _ _), (HNd.out.alloc _).cell 0, (HNd.out.alloc _).cell 1, (HNd.out.alloc _).cell 2⟩) ?_
            clear hK K
            refine wpAnyL_one (i := 7) (by kernel_rfl) rfl (fun K hK => ?_)
            refine step_append_lies _ (by rfl) _ _ _ (by rfl) w.heap.size 63 i0 _ 3 24 Try.underlying59 Hi.out hz0 hz1 hz2 rfl (by omega) vc l.length (conC l) (by rfl) (HCd.out.ow.below (bAl (bRefl V8.drew) _)) ⟨V8.drew.heap.size, 0, none⟩ 1 1 [.int .i64 xi, .int .i64 xj, .int .i64 xc] (by rfl) (by rfl)
              (World.news_of_block (cs := #[.int .i64 xi, .int .i64 xj, .int .i64 xc]) (t := 63) (fr := (0, 0)) (heap_alloc_new V8.drew _)) (by simp [Value.oneCell']) (by omega) (by unfold maxLen; omega) (by omega) (by simp; omega) (V8.drew.heap.size + 1) (by simp) ?_
            intro g cap' w9 hown hgrow hat hlt1
            have hq3 := (HCd.out.qb.alloc (.cells #[.int .i64 xi, .int .i64 xj, .int .i64 xc] 63)).of_block (hgrow.block q (HCd.out.qb.alloc _).lt (HCd.out.ow.ne HCd.out.qb (by decide)).symm)
            have hn3 := (HNd.out.alloc (.cells #[.int .i64 xi, .int .i64 xj, .int .i64 xc] 63)).of_block (hgrow.block nb (HNd.out.alloc _).lt (fun e => hvn e.symm))
            have cv3 : w9.cell? ⟨q, 127, none⟩ = some vc ∧ w9.cell? ⟨nb, 0, none⟩ = some (.int .i64 xi) ∧ w9.cell? ⟨nb, 1, none⟩ = some (.int .i64 xj) ∧ w9.cell? ⟨nb, 2, none⟩ = some (.int .i64 xc) := ⟨(hq3.cell 127).trans (bx_last _ _ _), hn3.cell 0, hn3.cell 1, hn3.cell 2⟩
            have g3 := hq3.frozen 127
            have HC9 := Lib.hid (HCd.out.grow ⟨xi, xj, xc⟩ hown hgrow)
            clear hown hgrow hat hq3 hn3
            refine hK.out _ _ (fun _ => cv3) ?_
            clear hK K
            refine wpAnyL_one (i := 8) (by kernel_rfl) rfl (fun K hK => ?_)
            go_simp
            refine hK.out _ _ (fun _ => cv3) ?_
            clear hK K
            refine wpAnyL_one (i := 9) (by kernel_rfl) rfl (fun K hK => ?_)
            go_simp
            refine hK.out _ _ (fun _ => cv3) ?_
            clear hK K
            refine wpAnyL_one (i := 10) (by kernel_rfl) rfl (fun K hK => ?_)
            obtain ⟨cq3, _⟩ := cv3
            go_simp
            refine hK.out _ _ (fun h => absurd rfl h) ?_
            clear hK K
            refine wpAnyL_done (by kernel_rfl) ?_ _
            have hll : (l ++ [(⟨xi, xj, xc⟩ : C3)]).length = l.length + 1 := by simp
            clear cv cq3
            go_wp2
            go_roundw
            all_goals first
              | exact ⟨l.length + 1, l ++ [⟨xi, xj, xc⟩], _, _, by omega, hll, by go_num, (by first | exact e1 _ | exact e1 ()), HC9⟩
              | ((repeat apply Exists.intro); exact ⟨⟨l.length + 1, l ++ [⟨xi, xj, xc⟩], _, _, by omega, hll, by go_num, (by first | exact e1 _ | exact e1 ()), HC9⟩, rfl⟩)
              | (simp [intOf]; omega)
          | ok v =>
            obtain ⟨i, m2⟩ := v
            obtain ⟨rfl, hd, hx⟩ := hr.ok hb
            have HC2 := Lib.hid (HC.out.next (s' := .ok m2) hx hd)
            have hvl : ∀ g, vc.ownBlock = some g → g < w2.heap.size := fun g hg => (HC2.out.ow.lt g hg).2
            have hwl := HC2.out.ex.size
            have HB := Lib.hid hb
            clear hr hb hd hx c1 c3 HC
            go_upto_region 6 with (fail)
            obtain ⟨xi, hxi⟩ : ∃ x : Int, x = (i : Int) := ⟨_, rfl⟩
            rw [← hxi]
            have HXI := Lib.hid hxi
            clear hxi
            generalize hV : w2.alloc _ = V
            obtain ⟨nb, hnb⟩ : ∃ n, n = w2.heap.size := ⟨_, rfl⟩
            have HC := Lib.hid (HC2.out.alloc (.cells #[.int .i64 xi, .int .i64 0, .int .i64 0] 63))
            have HN := Lib.hid (Blk.new w2 63 #[.int .i64 xi, .int .i64 0, .int .i64 0])
            rw [hV] at HC HN
            rw [← hnb] at HN ⊢
            have hnp : nb ≠ p := by omega
            have hnw : w.heap.size ≤ nb := by omega
            have hvn : vc.ownBlock ≠ some nb := fun e => by have := hvl nb e; omega
            have n0 := HN.out.cell 0
            simp only [List.getElem?_toArray, List.getElem?_cons_zero] at n0
            clear HC2 hV hnb hvl hwl
            have c3 : V.cell? ⟨p, 3, none⟩ = some (.int .i64 0) := CuL.cell3 HC.out.cu
            have c1 : V.cell? ⟨p, 1, none⟩ = some (.int .i64 (m2 : Int)) := CuL.cell1 HC.out.cu
            by_cases hi : 59 < i
            · have hi' : (59 : Int) < xi := by have := HXI.out; omega
              have e1 : ∀ x, Hid (R = stp (.error (m, 91)) fun m => pCons (n - (l.length + 1)) (l ++ [x]) b m) := fun x => by
                show _ = _
                rw [HE2.out]
                exact pBind_no (pBind_err.2 (Or.inl (pChk_err.2 (Or.inl (pBind_err.2 (Or.inl (pChk_err.2 (Or.inr ⟨rfl, i, m2, HB.out, by simp; omega⟩))))))))
              clear HE2 HB HXI hi
              go_wp2_with fail
              refine (cfault_ok _ B p _ b vb HC.out.cu m 91 (by decide)).mono ?_
              rintro e w3 ⟨rfl, hd, hx⟩
              obtain ⟨y, hy⟩ : ∃ y, y = m := ⟨_, rfl⟩
              obtain ⟨er, her⟩ : ∃ er : Int, er = 91 := ⟨_, rfl⟩
              rw [← hy, ← her] at hd e1
              obtain ⟨V, rfl⟩ : ∃ x : World, x = w3 := ⟨_, rfl⟩
              have HC := Lib.hid (HC.out.next (s' := .error (y, er)) hx hd)
              have HN := Lib.hid (hx.blk HN.out hnp)
              clear hd hx hy her n0 c1 c3
              obtain ⟨a9, c1⟩ := CuD.cell1 HC.out.cu
              go_upto_region 9 with (fail)
              have c3 : V.cell? ⟨p, 3, none⟩ = some (.int .i64 er) := CuD.cell3 HC.out.cu
              have hne' : (er == 0) = false := CuD.ne' HC.out.cu
              obtain ⟨a9, c1⟩ := CuD.cell1 HC.out.cu
              go_wp2_with fail
              refine (cbyte_dead0 _ B p y er b vb HC.out.cu).mono ?_
              rintro e w7 ⟨rfl, hd, hx⟩
              have HC7 := Lib.hid (HC.out.next (s' := .error (y, er)) hx hd)
              have HN7 := Lib.hid (hx.blk HN.out hnp)
              have n1 := HN7.out.cell 1
              have f1 := HN7.out.frozen 1
              simp only [List.getElem?_toArray, List.getElem?_cons_zero, List.getElem?_cons_succ] at n1
              clear HC HN hd hx c1 c3
              go_upto_region 10 with (fail)
              generalize hV : w7.setCell _ _ = V
              have HC := Lib.hid (HC7.out.setN (g := nb) (i := 1) hnw hvn (.int .i64 0))
              have HN := Lib.hid ((HN7.out.set 1 (.int .i64 0)).eq (C' := #[.int .i64 xi, .int .i64 0, .int .i64 0]) rfl)
              rw [hV] at HC HN
              obtain ⟨xj, hxj⟩ : ∃ x : Int, x = 0 := ⟨_, rfl⟩
              rw [← hxj] at HN
              clear HC7 HN7 hV n1 f1 hxj
              have c3 : V.cell? ⟨p, 3, none⟩ = some (.int .i64 er) := CuD.cell3 HC.out.cu
              have hne' : (er == 0) = false := CuD.ne' HC.out.cu
              go_upto_region 12 with (fail)
              go_quiet (fail)
              obtain ⟨nq', hnq⟩ : ∃ n, n = nq := ⟨_, rfl⟩
              have HC := Lib.hid (HC.out.drewN nq)
              have HN := Lib.hid (Blk.drewN HN.out nq)
              have c3 : (V.drewN nq).cell? ⟨p, 3, none⟩ = some (.int .i64 er) := CuD.cell3 HC.out.cu
              go_wp2_with fail
              refine (csigned_dead _ B p y er b vb HC.out.cu 91).mono ?_
              rintro e w8 hr
              obtain ⟨xc, v, rfl, rfl, hd, hx⟩ := hr.err rfl
              have HC8 := Lib.hid (HC.out.next (s' := .error (y, er)) hx hd)
              have HN8 := Lib.hid (hx.blk HN.out hnp)
              have n2 := HN8.out.cell 2
              have f2 := HN8.out.frozen 2
              simp only [List.getElem?_toArray, List.getElem?_cons_zero, List.getElem?_cons_succ] at n2
              clear HC HN hr hd hx
              go_upto_region 15 with (fail)
              generalize hV : w8.setCell _ _ = V8
              have HC := Lib.hid (HC8.out.setN (g := nb) (i := 2) hnw hvn (.int .i64 xc))
              have HN := Lib.hid ((HN8.out.set 2 (.int .i64 xc)).eq (C' := #[.int .i64 xi, .int .i64 xj, .int .i64 xc]) rfl)
              rw [hV] at HC HN
              clear HC8 HN8 hV n2 f2
              have cq := (HC.out.qb.cell 127).trans (bx_last _ _ _)
              have n0 := HN.out.cell 0
              have n1 := HN.out.cell 1
              have n2 := HN.out.cell 2
              simp only [List.getElem?_toArray, List.getElem?_cons_zero, List.getElem?_cons_succ] at n0 n1 n2
              have hql := HC.out.qb.lt
              have hnl := HN.out.lt
              have hsw := HC.out.ex.size
              obtain ⟨i0, hi, hz0, hz1, hz2⟩ := info_parts infoC3
              have Hi := Lib.hid hi
              have hv1 : vc.oneCell' = true := by obtain ⟨a0, cap, e, _⟩ := HC.out.ow.cells; rw [e]; rfl
              clear hi
              have HCd := Lib.hid HC.out.drew
              have HNd := Lib.hid (Blk.drew HN.out)
              have cv : V8.drew.cell? ⟨q, 127, none⟩ = some vc ∧ V8.drew.cell? ⟨nb, 0, none⟩ = some (.int .i64 xi) ∧ V8.drew.cell? ⟨nb, 1, none⟩ = some (.int .i64 xj) ∧ V8.drew.cell? ⟨nb, 2, none⟩ = some (.int .i64 xc) := ⟨cq, n0, n1, n2⟩
              clear HC HN cq n0 n1 n2
              refine wp_region_last 10 (fun w' => w'.cell? ⟨q, 127, none⟩ = some vc ∧ w'.cell? ⟨nb, 0, none⟩ = some (.int .i64 xi) ∧ w'.cell? ⟨nb, 1, none⟩ = some (.int .i64 xj) ∧ w'.cell? ⟨nb, 2, none⟩ = some (.int .i64 xc)) mix ?_
              refine wpAnyL_take (i := 0) (v := .pointer (some ⟨q, 0, none⟩)) rfl (by kernel_rfl) (by kernel_rfl) (by kernel_rfl) (fun _ _ _ h => h) rfl (by kernel_rfl) (Or.inl ⟨by rfl, fun w' hw' => by obtain ⟨hw1, hw2, hw3, hw4⟩ := hw'; go_simp⟩) cv ?_
              simp only [Act.put, List.getElem_toArray, List.getElem_cons_zero, List.setIfInBounds_toArray, List.set_cons_zero, List.set_cons_succ]
              refine wpAnyL_take (i := 1) (v := .pointer (some ⟨q, 0, none⟩)) rfl (by kernel_rfl) (by kernel_rfl) (by kernel_rfl) (fun _ _ _ h => h) rfl (by kernel_rfl) (Or.inl ⟨by rfl, fun w' hw' => by obtain ⟨hw1, hw2, hw3, hw4⟩ := hw'; go_simp⟩) cv ?_
              simp only [Act.put, List.getElem_toArray, List.getElem_cons_zero, List.getElem_cons_succ, List.setIfInBounds_toArray, List.set_cons_zero, List.set_cons_succ]
              refine wpAnyL_take (i := 2) (v := .pointer (some ⟨q, 0, none⟩)) rfl (by kernel_rfl) (by kernel_rfl) (by kernel_rfl) (fun _ _ _ h => h) rfl (by kernel_rfl) (Or.inl ⟨by rfl, fun w' hw' => by obtain ⟨hw1, hw2, hw3, hw4⟩ := hw'; go_simp⟩) cv ?_
              simp only [Act.put, List.getElem_toArray, List.getElem_cons_zero, List.getElem_cons_succ, List.setIfInBounds_toArray, List.set_cons_zero, List.set_cons_succ]
              refine wpAnyL_take (i := 3) (v := .pointer (some ⟨q, 127, none⟩)) rfl (by kernel_rfl) (by kernel_rfl) (by kernel_rfl) (fun _ _ _ h => h) rfl (by kernel_rfl) (Or.inl ⟨by rfl, fun w' hw' => by obtain ⟨hw1, hw2, hw3, hw4⟩ := hw'; go_simp⟩) cv ?_
              simp only [Act.put, List.getElem_toArray, List.getElem_cons_zero, List.getElem_cons_succ, List.setIfInBounds_toArray, List.set_cons_zero, List.set_cons_succ]
              refine wpAnyL_take (i := 4) (v := vc) rfl (by kernel_rfl) (by kernel_rfl) (by kernel_rfl) (fun _ _ _ h => h) rfl (by kernel_rfl) (Or.inl ⟨by rfl, fun w' hw' => by obtain ⟨hw1, hw2, hw3, hw4⟩ := hw'; go_simp⟩) cv ?_
              simp only [Act.put, List.getElem_toArray, List.getElem_cons_zero, List.getElem_cons_succ, List.setIfInBounds_toArray, List.set_cons_zero, List.set_cons_succ]
              refine wpAnyL_take (i := 5) (v := .agg #[.int .i64 xi, .int .i64 xj, .int .i64 xc]) rfl (by kernel_rfl) (by kernel_rfl) (by kernel_rfl) (fun _ _ _ h => h) rfl (by kernel_rfl) (Or.inl ⟨by rfl, fun w' hw' => by obtain ⟨hw1, hw2, hw3, hw4⟩ := hw'; go_simp⟩) cv ?_
              simp only [Act.put, List.getElem_toArray, List.getElem_cons_zero, List.getElem_cons_succ, List.setIfInBounds_toArray, List.set_cons_zero, List.set_cons_succ]
              refine wpAnyL_one (i := 6) (by kernel_rfl) rfl (fun K hK => ?_)
              go_simp
              rw [show (V8.alloc (.cells #[.int .i64 xi, .int .i64 xj, .int .i64 xc] 63)).drew = V8.drew.alloc (.cells #[.int .i64 xi, .int .i64 xj, .int .i64 xc] 63) from rfl]
              refine hK.out _ _ (fun _ => ⟨((HCd.out.qb.alloc _).cell 127).trans (bx_last _ _ _), (HNd.out.alloc _).cell 0, (HNd.out.alloc _).cell 1, (HNd.out.alloc _).cell 2⟩) ?_
              clear hK K
              refine wpAnyL_one (i := 7) (by kernel_rfl) rfl (fun K hK => ?_)
              refine step_append_lies _ (by rfl) _ _ _ (by rfl) w.heap.size 63 i0 _ 3 24 Try.underlying59 Hi.out hz0 hz1 hz2 rfl (by omega) vc l.length (conC l) (by rfl) (HCd.out.ow.below (bAl (bRefl V8.drew) _)) ⟨V8.drew.heap.size, 0, none⟩ 1 1 [.int .i64 xi, .int .i64 xj, .int .i64 xc] (by rfl) (by rfl)
                (World.news_of_block (cs := #[.int .i64 xi, .int .i64 xj, .int .i64 xc]) (t := 63) (fr := (0, 0)) (heap_alloc_new V8.drew _)) (by simp [Value.oneCell']) (by omega) (by unfold maxLen; omega) (by omega) (by simp; omega) (V8.drew.heap.size + 1) (by simp) ?_
              intro g cap' w9 hown hgrow hat hlt1
              have hq3 := (HCd.out.qb.alloc (.cells #[.int .i64 xi, .int .i64 xj, .int .i64 xc] 63)).of_block (hgrow.block q (HCd.out.qb.alloc _).lt (HCd.out.ow.ne HCd.out.qb (by decide)).symm)
              have hn3 := (HNd.out.alloc (.cells #[.int .i64 xi, .int .i64 xj, .int .i64 xc] 63)).of_block (hgrow.block nb (HNd.out.alloc _).lt (fun e => hvn e.symm))
              have cv3 : w9.cell? ⟨q, 127, none⟩ = some vc ∧ w9.cell? ⟨nb, 0, none⟩ = some (.int .i64 xi) ∧ w9.cell? ⟨nb, 1, none⟩ = some (.int .i64 xj) ∧ w9.cell? ⟨nb, 2, none⟩ = some (.int .i64 xc) := ⟨(hq3.cell 127).trans (bx_last _ _ _), hn3.cell 0, hn3.cell 1, hn3.cell 2⟩
              have g3 := hq3.frozen 127
              have HC9 := Lib.hid (HCd.out.grow ⟨xi, xj, xc⟩ hown hgrow)
              clear hown hgrow hat hq3 hn3
              refine hK.out _ _ (fun _ => cv3) ?_
              clear hK K
              refine wpAnyL_one (i := 8) (by kernel_rfl) rfl (fun K hK => ?_)
              go_simp
              refine hK.out _ _ (fun _ => cv3) ?_
              clear hK K
              refine wpAnyL_one (i := 9) (by kernel_rfl) rfl (fun K hK => ?_)
              go_simp
              refine hK.out _ _ (fun _ => cv3) ?_
              clear hK K
              refine wpAnyL_one (i := 10) (by kernel_rfl) rfl (fun K hK => ?_)
              obtain ⟨cq3, _⟩ := cv3
              go_simp
              refine hK.out _ _ (fun h => absurd rfl h) ?_
              clear hK K
              refine wpAnyL_done (by kernel_rfl) ?_ _
              have hll : (l ++ [(⟨xi, xj, xc⟩ : C3)]).length = l.length + 1 := by simp
              clear cv cq3
              go_wp2
              go_roundw
              all_goals first
                | exact ⟨l.length + 1, l ++ [⟨xi, xj, xc⟩], _, _, by omega, hll, by go_num, (by first | exact e1 _ | exact e1 ()), HC9⟩
                | ((repeat apply Exists.intro); exact ⟨⟨l.length + 1, l ++ [⟨xi, xj, xc⟩], _, _, by omega, hll, by go_num, (by first | exact e1 _ | exact e1 ()), HC9⟩, rfl⟩)
                | (simp [intOf]; omega)
            · have hi' : ¬ (59 : Int) < xi := by have := HXI.out; omega
              have hbi : pBnd 59 91 b m = .ok (i, m2) := pChk_ok.2 ⟨HB.out, by simp; omega⟩
              have HBI := Lib.hid hbi
              clear hbi HB
              go_wp2_with fail
              refine (cbyte_ok0 _ B p m2 b vb HC.out.cu).mono ?_
              rintro e w7 hr
              cases hb : pByte b m2 with
              | error v =>
                obtain ⟨y, er⟩ := v
                obtain ⟨rfl, hd, hx⟩ := hr.err hb
                have e1 : ∀ x, Hid (R = stp (.error (y, er)) fun m => pCons (n - (l.length + 1)) (l ++ [x]) b m) := fun x => by
                  show _ = _
                  rw [HE2.out]
                  exact pBind_no (pBind_err.2 (Or.inl (pChk_err.2 (Or.inl (pBind_err.2 (Or.inr ⟨i, m2, HBI.out, pMap_err.2 (pChk_err.2 (Or.inl (pChk_err.2 (Or.inl hb))))⟩))))))
                have HC7 := Lib.hid (HC.out.next (s' := .error (y, er)) hx hd)
                have HN7 := Lib.hid (hx.blk HN.out hnp)
                have n1 := HN7.out.cell 1
                have f1 := HN7.out.frozen 1
                simp only [List.getElem?_toArray, List.getElem?_cons_zero, List.getElem?_cons_succ] at n1
                clear HC HN hd hx hr hb c1 c3 n0 HE2 HBI HXI hi
                go_upto_region 10 with (fail)
                generalize hV : w7.setCell _ _ = V
                have HC := Lib.hid (HC7.out.setN (g := nb) (i := 1) hnw hvn (.int .i64 0))
                have HN := Lib.hid ((HN7.out.set 1 (.int .i64 0)).eq (C' := #[.int .i64 xi, .int .i64 0, .int .i64 0]) rfl)
                rw [hV] at HC HN
                obtain ⟨xj, hxj⟩ : ∃ x : Int, x = 0 := ⟨_, rfl⟩
                rw [← hxj] at HN
                clear HC7 HN7 hV n1 f1 hxj
                have c3 : V.cell? ⟨p, 3, none⟩ = some (.int .i64 er) := CuD.cell3 HC.out.cu
                have hne' : (er == 0) = false := CuD.ne' HC.out.cu
                go_upto_region 12 with (fail)
                go_quiet (fail)
                obtain ⟨nq', hnq⟩ : ∃ n, n = nq := ⟨_, rfl⟩
                have HC := Lib.hid (HC.out.drewN nq)
                have HN := Lib.hid (Blk.drewN HN.out nq)
                have c3 : (V.drewN nq).cell? ⟨p, 3, none⟩ = some (.int .i64 er) := CuD.cell3 HC.out.cu
                go_wp2_with fail
                refine (csigned_dead _ B p y er b vb HC.out.cu 91).mono ?_
                rintro e w8 hr
                obtain ⟨xc, v, rfl, rfl, hd, hx⟩ := hr.err rfl
                have HC8 := Lib.hid (HC.out.next (s' := .error (y, er)) hx hd)
                have HN8 := Lib.hid (hx.blk HN.out hnp)
                have n2 := HN8.out.cell 2
                have f2 := HN8.out.frozen 2
                simp only [List.getElem?_toArray, List.getElem?_cons_zero, List.getElem?_cons_succ] at n2
                clear HC HN hr hd hx
                go_upto_region 15 with (fail)
                generalize hV : w8.setCell _ _ = V8
                have HC := Lib.hid (HC8.out.setN (g := nb) (i := 2) hnw hvn (.int .i64 xc))
                have HN := Lib.hid ((HN8.out.set 2 (.int .i64 xc)).eq (C' := #[.int .i64 xi, .int .i64 xj, .int .i64 xc]) rfl)
                rw [hV] at HC HN
                clear HC8 HN8 hV n2 f2
                have cq := (HC.out.qb.cell 127).trans (bx_last _ _ _)
                have n0 := HN.out.cell 0
                have n1 := HN.out.cell 1
                have n2 := HN.out.cell 2
                simp only [List.getElem?_toArray, List.getElem?_cons_zero, List.getElem?_cons_succ] at n0 n1 n2
                have hql := HC.out.qb.lt
                have hnl := HN.out.lt
                have hsw := HC.out.ex.size
                obtain ⟨i0, hi, hz0, hz1, hz2⟩ := info_parts infoC3
                have Hi := Lib.hid hi
                have hv1 : vc.oneCell' = true := by obtain ⟨a0, cap, e, _⟩ := HC.out.ow.cells; rw [e]; rfl
                clear hi
                have HCd := Lib.hid HC.out.drew
                have HNd := Lib.hid (Blk.drew HN.out)
                have cv : V8.drew.cell? ⟨q, 127, none⟩ = some vc ∧ V8.drew.cell? ⟨nb, 0, none⟩ = some (.int .i64 xi) ∧ V8.drew.cell? ⟨nb, 1, none⟩ = some (.int .i64 xj) ∧ V8.drew.cell? ⟨nb, 2, none⟩ = some (.int .i64 xc) := ⟨cq, n0, n1, n2⟩
                clear HC HN cq n0 n1 n2
                refine wp_region_last 10 (fun w' => w'.cell? ⟨q, 127, none⟩ = some vc ∧ w'.cell? ⟨nb, 0, none⟩ = some (.int .i64 xi) ∧ w'.cell? ⟨nb, 1, none⟩ = some (.int .i64 xj) ∧ w'.cell? ⟨nb, 2, none⟩ = some (.int .i64 xc)) mix ?_
                refine wpAnyL_take (i := 0) (v := .pointer (some ⟨q, 0, none⟩)) rfl (by kernel_rfl) (by kernel_rfl) (by kernel_rfl) (fun _ _ _ h => h) rfl (by kernel_rfl) (Or.inl ⟨by rfl, fun w' hw' => by obtain ⟨hw1, hw2, hw3, hw4⟩ := hw'; go_simp⟩) cv ?_
                simp only [Act.put, List.getElem_toArray, List.getElem_cons_zero, List.setIfInBounds_toArray, List.set_cons_zero, List.set_cons_succ]
                refine wpAnyL_take (i := 1) (v := .pointer (some ⟨q, 0, none⟩)) rfl (by kernel_rfl) (by kernel_rfl) (by kernel_rfl) (fun _ _ _ h => h) rfl (by kernel_rfl) (Or.inl ⟨by rfl, fun w' hw' => by obtain ⟨hw1, hw2, hw3, hw4⟩ := hw'; go_simp⟩) cv ?_
                simp only [Act.put, List.getElem_toArray, List.getElem_cons_zero, List.getElem_cons_succ, List.setIfInBounds_toArray, List.set_cons_zero, List.set_cons_succ]
                refine wpAnyL_take (i := 2) (v := .pointer (some ⟨q, 0, none⟩)) rfl (by kernel_rfl) (by kernel_rfl) (by kernel_rfl) (fun _ _ _ h => h) rfl (by kernel_rfl) (Or.inl ⟨by rfl, fun w' hw' => by obtain ⟨hw1, hw2, hw3, hw4⟩ := hw'; go_simp⟩) cv ?_
                simp only [Act.put, List.getElem_toArray, List.getElem_cons_zero, List.getElem_cons_succ, List.setIfInBounds_toArray, List.set_cons_zero, List.set_cons_succ]
                refine wpAnyL_take (i := 3) (v := .pointer (some ⟨q, 127, none⟩)) rfl (by kernel_rfl) (by kernel_rfl) (by kernel_rfl) (fun _ _ _ h => h) rfl (by kernel_rfl) (Or.inl ⟨by rfl, fun w' hw' => by obtain ⟨hw1, hw2, hw3, hw4⟩ := hw'; go_simp⟩) cv ?_
                simp only [Act.put, List.getElem_toArray, List.getElem_cons_zero, List.getElem_cons_succ, List.setIfInBounds_toArray, List.set_cons_zero, List.set_cons_succ]
                refine wpAnyL_take (i := 4) (v := vc) rfl (by kernel_rfl) (by kernel_rfl) (by kernel_rfl) (fun _ _ _ h => h) rfl (by kernel_rfl) (Or.inl ⟨by rfl, fun w' hw' => by obtain ⟨hw1, hw2, hw3, hw4⟩ := hw'; go_simp⟩) cv ?_
                simp only [Act.put, List.getElem_toArray, List.getElem_cons_zero, List.getElem_cons_succ, List.setIfInBounds_toArray, List.set_cons_zero, List.set_cons_succ]
                refine wpAnyL_take (i := 5) (v := .agg #[.int .i64 xi, .int .i64 xj, .int .i64 xc]) rfl (by kernel_rfl) (by kernel_rfl) (by kernel_rfl) (fun _ _ _ h => h) rfl (by kernel_rfl) (Or.inl ⟨by rfl, fun w' hw' => by obtain ⟨hw1, hw2, hw3, hw4⟩ := hw'; go_simp⟩) cv ?_
                simp only [Act.put, List.getElem_toArray, List.getElem_cons_zero, List.getElem_cons_succ, List.setIfInBounds_toArray, List.set_cons_zero, List.set_cons_succ]
                refine wpAnyL_one (i := 6) (by kernel_rfl) rfl (fun K hK => ?_)
                go_simp
                rw [show (V8.alloc (.cells #[.int .i64 xi, .int .i64 xj, .int .i64 xc] 63)).drew = V8.drew.alloc (.cells #[.int .i64 xi, .int .i64 xj, .int .i64 xc] 63) from rfl]
                refine hK.out _ _ (fun _ => ⟨((HCd.out.qb.alloc _).cell 127).trans (bx_last _ _ _), (HNd.out.alloc _).cell 0, (HNd.out.alloc _).cell 1, (HNd.out.alloc _).cell 2⟩) ?_
                clear hK K
                refine wpAnyL_one (i := 7) (by kernel_rfl) rfl (fun K hK => ?_)
                refine step_append_lies _ (by rfl) _ _ _ (by rfl) w.heap.size 63 i0 _ 3 24 Try.underlying59 Hi.out hz0 hz1 hz2 rfl (by omega) vc l.length (conC l) (by rfl) (HCd.out.ow.below (bAl (bRefl V8.drew) _)) ⟨V8.drew.heap.size, 0, none⟩ 1 1 [.int .i64 xi, .int .i64 xj, .int .i64 xc] (by rfl) (by rfl)
                  (World.news_of_block (cs := #[.int .i64 xi, .int .i64 xj, .int .i64 xc]) (t := 63) (fr := (0, 0)) (heap_alloc_new V8.drew _)) (by simp [Value.oneCell']) (by omega) (by unfold maxLen; omega) (by omega) (by simp; omega) (V8.drew.heap.size + 1) (by simp) ?_
                intro g cap' w9 hown hgrow hat hlt1
                have hq3 := (HCd.out.qb.alloc (.cells #[.int .i64 xi, .int .i64 xj, .int .i64 xc] 63)).of_block (hgrow.block q (HCd.out.qb.alloc _).lt (HCd.out.ow.ne HCd.out.qb (by decide)).symm)
                have hn3 := (HNd.out.alloc (.cells #[.int .i64 xi, .int .i64 xj, .int .i64 xc] 63)).of_block (hgrow.block nb (HNd.out.alloc _).lt (fun e => hvn e.symm))
                have cv3 : w9.cell? ⟨q, 127, none⟩ = some vc ∧ w9.cell? ⟨nb, 0, none⟩ = some (.int .i64 xi) ∧ w9.cell? ⟨nb, 1, none⟩ = some (.int .i64 xj) ∧ w9.cell? ⟨nb, 2, none⟩ = some (.int .i64 xc) := ⟨(hq3.cell 127).trans (bx_last _ _ _), hn3.cell 0, hn3.cell 1, hn3.cell 2⟩
                have g3 := hq3.frozen 127
                have HC9 := Lib.hid (HCd.out.grow ⟨xi, xj, xc⟩ hown hgrow)
                clear hown hgrow hat hq3 hn3
                refine hK.out _ _ (fun _ => cv3) ?_
                clear hK K
                refine wpAnyL_one (i := 8) (by kernel_rfl) rfl (fun K hK => ?_)
                go_simp
                refine hK.out _ _ (fun _ => cv3) ?_
                clear hK K
                refine wpAnyL_one (i := 9) (by kernel_rfl) rfl (fun K hK => ?_)
                go_simp
                refine hK.out _ _ (fun _ => cv3) ?_
                clear hK K
                refine wpAnyL_one (i := 10) (by kernel_rfl) rfl (fun K hK => ?_)
                obtain ⟨cq3, _⟩ := cv3
                go_simp
                refine hK.out _ _ (fun h => absurd rfl h) ?_
                clear hK K
                refine wpAnyL_done (by kernel_rfl) ?_ _
                have hll : (l ++ [(⟨xi, xj, xc⟩ : C3)]).length = l.length + 1 := by simp
                clear cv cq3
                go_wp2
                go_roundw
                all_goals first
                  | exact ⟨l.length + 1, l ++ [⟨xi, xj, xc⟩], _, _, by omega, hll, by go_num, (by first | exact e1 _ | exact e1 ()), HC9⟩
                  | ((repeat apply Exists.intro); exact ⟨⟨l.length + 1, l ++ [⟨xi, xj, xc⟩], _, _, by omega, hll, by go_num, (by first | exact e1 _ | exact e1 ()), HC9⟩, rfl⟩)
                  | (simp [intOf]; omega)
              | ok v =>
                obtain ⟨j, m3⟩ := v
                obtain ⟨rfl, hd, hx⟩ := hr.ok hb
                have HC7 := Lib.hid (HC.out.next (s' := .ok m3) hx hd)
                have HN7 := Lib.hid (hx.blk HN.out hnp)
                have n1 := HN7.out.cell 1
                have f1 := HN7.out.frozen 1
                simp only [List.getElem?_toArray, List.getElem?_cons_zero, List.getElem?_cons_succ] at n1
                have HBJ := Lib.hid hb
                clear HC HN hd hx hr hb c1 c3 n0
                go_upto_region 10 with (fail)
                generalize hV : w7.setCell _ _ = V
                obtain ⟨xj, hxj⟩ : ∃ x : Int, x = (j : Int) := ⟨_, rfl⟩
                have HC := Lib.hid (HC7.out.setN (g := nb) (i := 1) hnw hvn (.int .i64 (j : Int)))
                have HN := Lib.hid ((HN7.out.set 1 (.int .i64 (j : Int))).eq (C' := #[.int .i64 xi, .int .i64 (j : Int), .int .i64 0]) rfl)
                rw [hV] at HC HN
                rw [← hxj] at HN ⊢
                have HXJ := Lib.hid hxj
                clear hxj
                have c3 : V.cell? ⟨p, 3, none⟩ = some (.int .i64 0) := CuL.cell3 HC.out.cu
                have n0 := HN.out.cell 0
                have n1 := HN.out.cell 1
                simp only [List.getElem?_toArray, List.getElem?_cons_zero, List.getElem?_cons_succ] at n0 n1
                clear HC7 HN7 hV f1
                by_cases hbad : 59 < j ∨ j = i
                · have e1 : ∀ x, Hid (R = stp (.error (m2, 91)) fun m => pCons (n - (l.length + 1)) (l ++ [x]) b m) := fun x => by
                    show _ = _
                    rw [HE2.out]
                    refine pBind_no (pBind_err.2 (Or.inl (pChk_err.2 (Or.inl (pBind_err.2 (Or.inr ⟨i, m2, HBI.out, pMap_err.2 ?_⟩))))))
                    by_cases hj : 59 < j
                    · exact pChk_err.2 (Or.inl (pChk_err.2 (Or.inr ⟨rfl, j, m3, HBJ.out, by simp; omega⟩)))
                    · exact pChk_err.2 (Or.inr ⟨rfl, j, m3, pChk_ok.2 ⟨HBJ.out, by simp; omega⟩, by simp; omega⟩)
                  have hb2 : (59 : Int) < xj ∨ (¬ (59 : Int) < xj ∧ (xj == xi) = true) := by
                    have h1 := HXI.out
                    have h2 := HXJ.out
                    rw [beq_iff_eq]
                    omega
                  clear HE2 HBI HBJ HXI HXJ hi hbad
                  rcases hb2 with hb2 | ⟨hb2, hb3⟩
                  · go_wp2_with fail
                    refine (cfault_ok _ B p _ b vb HC.out.cu m2 91 (by decide)).mono ?_
                    rintro e w3 ⟨rfl, hd, hx⟩
                    obtain ⟨y, hy⟩ : ∃ y, y = m2 := ⟨_, rfl⟩
                    obtain ⟨er, her⟩ : ∃ er : Int, er = 91 := ⟨_, rfl⟩
                    rw [← hy, ← her] at hd e1
                    obtain ⟨V, rfl⟩ : ∃ x : World, x = w3 := ⟨_, rfl⟩
                    have HC := Lib.hid (HC.out.next (s' := .error (y, er)) hx hd)
                    have HN := Lib.hid (hx.blk HN.out hnp)
                    clear hd hx hy her n0 n1 c3
                    have c3 : V.cell? ⟨p, 3, none⟩ = some (.int .i64 er) := CuD.cell3 HC.out.cu
                    have hne' : (er == 0) = false := CuD.ne' HC.out.cu
                    go_upto_region 12 with (fail)
                    go_quiet (fail)
                    obtain ⟨nq', hnq⟩ : ∃ n, n = nq := ⟨_, rfl⟩
                    have HC := Lib.hid (HC.out.drewN nq)
                    have HN := Lib.hid (Blk.drewN HN.out nq)
                    have c3 : (V.drewN nq).cell? ⟨p, 3, none⟩ = some (.int .i64 er) := CuD.cell3 HC.out.cu
                    go_wp2_with fail
                    refine (csigned_dead _ B p y er b vb HC.out.cu 91).mono ?_
                    rintro e w8 hr
                    obtain ⟨xc, v, rfl, rfl, hd, hx⟩ := hr.err rfl
                    have HC8 := Lib.hid (HC.out.next (s' := .error (y, er)) hx hd)
                    have HN8 := Lib.hid (hx.blk HN.out hnp)
                    have n2 := HN8.out.cell 2
                    have f2 := HN8.out.frozen 2
                    simp only [List.getElem?_toArray, List.getElem?_cons_zero, List.getElem?_cons_succ] at n2
                    clear HC HN hr hd hx
                    go_upto_region 15 with (fail)
                    generalize hV : w8.setCell _ _ = V8
                    have HC := Lib.hid (HC8.out.setN (g := nb) (i := 2) hnw hvn (.int .i64 xc))
                    have HN := Lib.hid ((HN8.out.set 2 (.int .i64 xc)).eq (C' := #[.int .i64 xi, .int .i64 xj, .int .i64 xc]) rfl)
                    rw [hV] at HC HN
                    clear HC8 HN8 hV n2 f2
                    have cq := (HC.out.qb.cell 127).trans (bx_last _ _ _)
                    have n0 := HN.out.cell 0
                    have n1 := HN.out.cell 1
                    have n2 := HN.out.cell 2
                    simp only [List.getElem?_toArray, List.getElem?_cons_zero, List.getElem?_cons_succ] at n0 n1 n2
                    have hql := HC.out.qb.lt
                    have hnl := HN.out.lt
                    have hsw := HC.out.ex.size
                    obtain ⟨i0, hi, hz0, hz1, hz2⟩ := info_parts infoC3
                    have Hi := Lib.hid hi
                    have hv1 : vc.oneCell' = true := by obtain ⟨a0, cap, e, _⟩ := HC.out.ow.cells; rw [e]; rfl
                    clear hi
                    have HCd := Lib.hid HC.out.drew
                    have HNd := Lib.hid (Blk.drew HN.out)
                    have cv : V8.drew.cell? ⟨q, 127, none⟩ = some vc ∧ V8.drew.cell? ⟨nb, 0, none⟩ = some (.int .i64 xi) ∧ V8.drew.cell? ⟨nb, 1, none⟩ = some (.int .i64 xj) ∧ V8.drew.cell? ⟨nb, 2, none⟩ = some (.int .i64 xc) := ⟨cq, n0, n1, n2⟩
                    clear HC HN cq n0 n1 n2
                    refine wp_region_last 10 (fun w' => w'.cell? ⟨q, 127, none⟩ = some vc ∧ w'.cell? ⟨nb, 0, none⟩ = some (.int .i64 xi) ∧ w'.cell? ⟨nb, 1, none⟩ = some (.int .i64 xj) ∧ w'.cell? ⟨nb, 2, none⟩ = some (.int .i64 xc)) mix ?_
                    refine wpAnyL_take (i := 0) (v := .pointer (some ⟨q, 0, none⟩)) rfl (by kernel_rfl) (by kernel_rfl) (by kernel_rfl) (fun _ _ _ h => h) rfl (by kernel_rfl) (Or.inl ⟨by rfl, fun w' hw' => by obtain ⟨hw1, hw2, hw3, hw4⟩ := hw'; go_simp⟩) cv ?_
                    simp only [Act.put, List.getElem_toArray, List.getElem_cons_zero, List.setIfInBounds_toArray, List.set_cons_zero, List.set_cons_succ]
                    refine wpAnyL_take (i := 1) (v := .pointer (some ⟨q, 0, none⟩)) rfl (by kernel_rfl) (by kernel_rfl) (by kernel_rfl) (fun _ _ _ h => h) rfl (by kernel_rfl) (Or.inl ⟨by rfl, fun w' hw' => by obtain ⟨hw1, hw2, hw3, hw4⟩ := hw'; go_simp⟩) cv ?_
                    simp only [Act.put, List.getElem_toArray, List.getElem_cons_zero, List.getElem_cons_succ, List.setIfInBounds_toArray, List.set_cons_zero, List.set_cons_succ]
                    refine wpAnyL_take (i := 2) (v := .pointer (some ⟨q, 0, none⟩)) rfl (by kernel_rfl) (by kernel_rfl) (by kernel_rfl) (fun _ _ _ h => h) rfl (by kernel_rfl) (Or.inl ⟨by rfl, fun w' hw' => by obtain ⟨hw1, hw2, hw3, hw4⟩ := hw'; go_simp⟩) cv ?_
                    simp only [Act.put, List.getElem_toArray, List.getElem_cons_zero, List.getElem_cons_succ, List.setIfInBounds_toArray, List.set_cons_zero, List.set_cons_succ]
                    refine wpAnyL_take (i := 3) (v := .pointer (some ⟨q, 127, none⟩)) rfl (by kernel_rfl) (by kernel_rfl) (by kernel_rfl) (fun _ _ _ h => h) rfl (by kernel_rfl) (Or.inl ⟨by rfl, fun w' hw' => by obtain ⟨hw1, hw2, hw3, hw4⟩ := hw'; go_simp⟩) cv ?_
                    simp only [Act.put, List.getElem_toArray, List.getElem_cons_zero, List.getElem_cons_succ, List.setIfInBounds_toArray, List.set_cons_zero, List.set_cons_succ]
                    refine wpAnyL_take (i := 4) (v := vc) rfl (by kernel_rfl) (by kernel_rfl) (by kernel_rfl) (fun _ _ _ h => h) rfl (by kernel_rfl) (Or.inl ⟨by rfl, fun w' hw' => by obtain ⟨hw1, hw2, hw3, hw4⟩ := hw'; go_simp⟩) cv ?_
                    simp only [Act.put, List.getElem_toArray, List.getElem_cons_zero, List.getElem_cons_succ, List.setIfInBounds_toArray, List.set_cons_zero, List.set_cons_succ]
                    refine wpAnyL_take (i := 5) (v := .agg #[.int .i64 xi, .int .i64 xj, .int .i64 xc]) rfl (by kernel_rfl) (by kernel_rfl) (by kernel_rfl) (fun _ _ _ h => h) rfl (by kernel_rfl) (Or.inl ⟨by rfl, fun w' hw' => by obtain ⟨hw1, hw2, hw3, hw4⟩ := hw'; go_simp⟩) cv ?_
                    simp only [Act.put, List.getElem_toArray, List.getElem_cons_zero, List.getElem_cons_succ, List.setIfInBounds_toArray, List.set_cons_zero, List.set_cons_succ]
                    refine wpAnyL_one (i := 6) (by kernel_rfl) rfl (fun K hK => ?_)
                    go_simp
                    rw [show (V8.alloc (.cells #[.int .i64 xi, .int .i64 xj, .int .i64 xc] 63)).drew = V8.drew.alloc (.cells #[.int .i64 xi, .int .i64 xj, .int .i64 xc] 63) from rfl]
                    refine hK.out _ _ (fun _ => ⟨((HCd.out.qb.alloc _).cell 127).trans (bx_last _ _ _), (HNd.out.alloc _).cell 0, (HNd.out.alloc _).cell 1, (HNd.out.alloc _).cell 2⟩) ?_
                    clear hK K
                    refine wpAnyL_one (i := 7) (by kernel_rfl) rfl (fun K hK => ?_)
                    refine step_append_lies _ (by rfl) _ _ _ (by rfl) w.heap.size 63 i0 _ 3 24 Try.underlying59 Hi.out hz0 hz1 hz2 rfl (by omega) vc l.length (conC l) (by rfl) (HCd.out.ow.below (bAl (bRefl V8.drew) _)) ⟨V8.drew.heap.size, 0, none⟩ 1 1 [.int .i64 xi, .int .i64 xj, .int .i64 xc] (by rfl) (by rfl)
                      (World.news_of_block (cs := #[.int .i64 xi, .int .i64 xj, .int .i64 xc]) (t := 63) (fr := (0, 0)) (heap_alloc_new V8.drew _)) (by simp [Value.oneCell']) (by omega) (by unfold maxLen; omega) (by omega) (by simp; omega) (V8.drew.heap.size + 1) (by simp) ?_
                    intro g cap' w9 hown hgrow hat hlt1
                    have hq3 := (HCd.out.qb.alloc (.cells #[.int .i64 xi, .int .i64 xj, .int .i64 xc] 63)).of_block (hgrow.block q (HCd.out.qb.alloc _).lt (HCd.out.ow.ne HCd.out.qb (by decide)).symm)
                    have hn3 := (HNd.out.alloc (.cells #[.int .i64 xi, .int .i64 xj, .int .i64 xc] 63)).of_block (hgrow.block nb (HNd.out.alloc _).lt (fun e => hvn e.symm))
                    have cv3 : w9.cell? ⟨q, 127, none⟩ = some vc ∧ w9.cell? ⟨nb, 0, none⟩ = some (.int .i64 xi) ∧ w9.cell? ⟨nb, 1, none⟩ = some (.int .i64 xj) ∧ w9.cell? ⟨nb, 2, none⟩ = some (.int .i64 xc) := ⟨(hq3.cell 127).trans (bx_last _ _ _), hn3.cell 0, hn3.cell 1, hn3.cell 2⟩
                    have g3 := hq3.frozen 127
                    have HC9 := Lib.hid (HCd.out.grow ⟨xi, xj, xc⟩ hown hgrow)
                    clear hown hgrow hat hq3 hn3
                    refine hK.out _ _ (fun _ => cv3) ?_
                    clear hK K
                    refine wpAnyL_one (i := 8) (by kernel_rfl) rfl (fun K hK => ?_)
                    go_simp
                    refine hK.out _ _ (fun _ => cv3) ?_
                    clear hK K
                    refine wpAnyL_one (i := 9) (by kernel_rfl) rfl (fun K hK => ?_)
                    go_simp
                    refine hK.out _ _ (fun _ => cv3) ?_
                    clear hK K
                    refine wpAnyL_one (i := 10) (by kernel_rfl) rfl (fun K hK => ?_)
                    obtain ⟨cq3, _⟩ := cv3
                    go_simp
                    refine hK.out _ _ (fun h => absurd rfl h) ?_
                    clear hK K
                    refine wpAnyL_done (by kernel_rfl) ?_ _
                    have hll : (l ++ [(⟨xi, xj, xc⟩ : C3)]).length = l.length + 1 := by simp
                    clear cv cq3
                    go_wp2
                    go_roundw
                    all_goals first
                      | exact ⟨l.length + 1, l ++ [⟨xi, xj, xc⟩], _, _, by omega, hll, by go_num, (by first | exact e1 _ | exact e1 ()), HC9⟩
                      | ((repeat apply Exists.intro); exact ⟨⟨l.length + 1, l ++ [⟨xi, xj, xc⟩], _, _, by omega, hll, by go_num, (by first | exact e1 _ | exact e1 ()), HC9⟩, rfl⟩)
                      | (simp [intOf]; omega)
                  · go_wp2_with fail
                    refine (cfault_ok _ B p _ b vb HC.out.cu m2 91 (by decide)).mono ?_
                    rintro e w3 ⟨rfl, hd, hx⟩
                    obtain ⟨y, hy⟩ : ∃ y, y = m2 := ⟨_, rfl⟩
                    obtain ⟨er, her⟩ : ∃ er : Int, er = 91 := ⟨_, rfl⟩
                    rw [← hy, ← her] at hd e1
                    obtain ⟨V, rfl⟩ : ∃ x : World, x = w3 := ⟨_, rfl⟩
                    have HC := Lib.hid (HC.out.next (s' := .error (y, er)) hx hd)
                    have HN := Lib.hid (hx.blk HN.out hnp)
                    clear hd hx hy her n0 n1 c3
                    have c3 : V.cell? ⟨p, 3, none⟩ = some (.int .i64 er) := CuD.cell3 HC.out.cu
                    have hne' : (er == 0) = false := CuD.ne' HC.out.cu
                    go_upto_region 12 with (fail)
                    go_quiet (fail)
                    obtain ⟨nq', hnq⟩ : ∃ n, n = nq := ⟨_, rfl⟩
                    have HC := Lib.hid (HC.out.drewN nq)
                    have HN := Lib.hid (Blk.drewN HN.out nq)
                    have c3 : (V.drewN nq).cell? ⟨p, 3, none⟩ = some (.int .i64 er) := CuD.cell3 HC.out.cu
                    go_wp2_with fail
                    refine (csigned_dead _ B p y er b vb HC.out.cu 91).mono ?_
                    rintro e w8 hr
                    obtain ⟨xc, v, rfl, rfl, hd, hx⟩ := hr.err rfl
                    have HC8 := Lib.hid (HC.out.next (s' := .error (y, er)) hx hd)
                    have HN8 := Lib.hid (hx.blk HN.out hnp)
                    have n2 := HN8.out.cell 2
                    have f2 := HN8.out.frozen 2
                    simp only [List.getElem?_toArray, List.getElem?_cons_zero, List.getElem?_cons_succ] at n2
                    clear HC HN hr hd hx
                    go_upto_region 15 with (fail)
                    generalize hV : w8.setCell _ _ = V8
                    have HC := Lib.hid (HC8.out.setN (g := nb) (i := 2) hnw hvn (.int .i64 xc))
                    have HN := Lib.hid ((HN8.out.set 2 (.int .i64 xc)).eq (C' := #[.int .i64 xi, .int .i64 xj, .int .i64 xc]) rfl)
                    rw [hV] at HC HN
                    clear HC8 HN8 hV n2 f2
                    have cq := (HC.out.qb.cell 127).trans (bx_last _ _ _)
                    have n0 := HN.out.cell 0
                    have n1 := HN.out.cell 1
                    have n2 := HN.out.cell 2
                    simp only [List.getElem?_toArray, List.getElem?_cons_zero, List.getElem?_cons_succ] at n0 n1 n2
                    have hql := HC.out.qb.lt
                    have hnl := HN.out.lt
                    have hsw := HC.out.ex.size
                    obtain ⟨i0, hi, hz0, hz1, hz2⟩ := info_parts infoC3
                    have Hi := Lib.hid hi
                    have hv1 : vc.oneCell' = true := by obtain ⟨a0, cap, e, _⟩ := HC.out.ow.cells; rw [e]; rfl
                    clear hi
                    have HCd := Lib.hid HC.out.drew
                    have HNd := Lib.hid (Blk.drew HN.out)
                    have cv : V8.drew.cell? ⟨q, 127, none⟩ = some vc ∧ V8.drew.cell? ⟨nb, 0, none⟩ = some (.int .i64 xi) ∧ V8.drew.cell? ⟨nb, 1, none⟩ = some (.int .i64 xj) ∧ V8.drew.cell? ⟨nb, 2, none⟩ = some (.int .i64 xc) := ⟨cq, n0, n1, n2⟩
                    clear HC HN cq n0 n1 n2
                    refine wp_region_last 10 (fun w' => w'.cell? ⟨q, 127, none⟩ = some vc ∧ w'.cell? ⟨nb, 0, none⟩ = some (.int .i64 xi) ∧ w'.cell? ⟨nb, 1, none⟩ = some (.int .i64 xj) ∧ w'.cell? ⟨nb, 2, none⟩ = some (.int .i64 xc)) mix ?_
                    refine wpAnyL_take (i := 0) (v := .pointer (some ⟨q, 0, none⟩)) rfl (by kernel_rfl) (by kernel_rfl) (by kernel_rfl) (fun _ _ _ h => h) rfl (by kernel_rfl) (Or.inl ⟨by rfl, fun w' hw' => by obtain ⟨hw1, hw2, hw3, hw4⟩ := hw'; go_simp⟩) cv ?_
                    simp only [Act.put, List.getElem_toArray, List.getElem_cons_zero, List.setIfInBounds_toArray, List.set_cons_zero, List.set_cons_succ]
                    refine wpAnyL_take (i := 1) (v := .pointer (some ⟨q, 0, none⟩)) rfl (by kernel_rfl) (by kernel_rfl) (by kernel_rfl) (fun _ _ _ h => h) rfl (by kernel_rfl) (Or.inl ⟨by rfl, fun w' hw' => by obtain ⟨hw1, hw2, hw3, hw4⟩ := hw'; go_simp⟩) cv ?_
                    simp only [Act.put, List.getElem_toArray, List.getElem_cons_zero, List.getElem_cons_succ, List.setIfInBounds_toArray, List.set_cons_zero, List.set_cons_succ]
                    refine wpAnyL_take (i := 2) (v := .pointer (some ⟨q, 0, none⟩)) rfl (by kernel_rfl) (by kernel_rfl) (by kernel_rfl) (fun _ _ _ h => h) rfl (by kernel_rfl) (Or.inl ⟨by rfl, fun w' hw' => by obtain ⟨hw1, hw2, hw3, hw4⟩ := hw'; go_simp⟩) cv ?_
                    simp only [Act.put, List.getElem_toArray, List.getElem_cons_zero, List.getElem_cons_succ, List.setIfInBounds_toArray, List.set_cons_zero, List.set_cons_succ]
                    refine wpAnyL_take (i := 3) (v := .pointer (some ⟨q, 127, none⟩)) rfl (by kernel_rfl) (by kernel_rfl) (by kernel_rfl) (fun _ _ _ h => h) rfl (by kernel_rfl) (Or.inl ⟨by rfl, fun w' hw' => by obtain ⟨hw1, hw2, hw3, hw4⟩ := hw'; go_simp⟩) cv ?_
                    simp only [Act.put, List.getElem_toArray, List.getElem_cons_zero, List.getElem_cons_succ, List.setIfInBounds_toArray, List.set_cons_zero, List.set_cons_succ]
                    refine wpAnyL_take (i := 4) (v := vc) rfl (by kernel_rfl) (by kernel_rfl) (by kernel_rfl) (fun _ _ _ h => h) rfl (by kernel_rfl) (Or.inl ⟨by rfl, fun w' hw' => by obtain ⟨hw1, hw2, hw3, hw4⟩ := hw'; go_simp⟩) cv ?_
                    simp only [Act.put, List.getElem_toArray, List.getElem_cons_zero, List.getElem_cons_succ, List.setIfInBounds_toArray, List.set_cons_zero, List.set_cons_succ]
                    refine wpAnyL_take (i := 5) (v := .agg #[.int .i64 xi, .int .i64 xj, .int .i64 xc]) rfl (by kernel_rfl) (by kernel_rfl) (by kernel_rfl) (fun _ _ _ h => h) rfl (by kernel_rfl) (Or.inl ⟨by rfl, fun w' hw' => by obtain ⟨hw1, hw2, hw3, hw4⟩ := hw'; go_simp⟩) cv ?_
                    simp only [Act.put, List.getElem_toArray, List.getElem_cons_zero, List.getElem_cons_succ, List.setIfInBounds_toArray, List.set_cons_zero, List.set_cons_succ]
                    refine wpAnyL_one (i := 6) (by kernel_rfl) rfl (fun K hK => ?_)
                    go_simp
                    rw [show (V8.alloc (.cells #[.int .i64 xi, .int .i64 xj, .int .i64 xc] 63)).drew = V8.drew.alloc (.cells #[.int .i64 xi, .int .i64 xj, .int .i64 xc] 63) from rfl]
                    refine hK.out _ _ (fun _ => ⟨((HCd.out.qb.alloc _).cell 127).trans (bx_last _ _ _), (HNd.out.alloc _).cell 0, (HNd.out.alloc _).cell 1, (HNd.out.alloc _).cell 2⟩) ?_
                    clear hK K
                    refine wpAnyL_one (i := 7) (by kernel_rfl) rfl (fun K hK => ?_)
                    refine step_append_lies _ (by rfl) _ _ _ (by rfl) w.heap.size 63 i0 _ 3 24 Try.underlying59 Hi.out hz0 hz1 hz2 rfl (by omega) vc l.length (conC l) (by rfl) (HCd.out.ow.below (bAl (bRefl V8.drew) _)) ⟨V8.drew.heap.size, 0, none⟩ 1 1 [.int .i64 xi, .int .i64 xj, .int .i64 xc] (by rfl) (by rfl)
                      (World.news_of_block (cs := #[.int .i64 xi, .int .i64 xj, .int .i64 xc]) (t := 63) (fr := (0, 0)) (heap_alloc_new V8.drew _)) (by simp [Value.oneCell']) (by omega) (by unfold maxLen; omega) (by omega) (by simp; omega) (V8.drew.heap.size + 1) (by simp) ?_
                    intro g cap' w9 hown hgrow hat hlt1
                    have hq3 := (HCd.out.qb.alloc (.cells #[.int .i64 xi, .int .i64 xj, .int .i64 xc] 63)).of_block (hgrow.block q (HCd.out.qb.alloc _).lt (HCd.out.ow.ne HCd.out.qb (by decide)).symm)
                    have hn3 := (HNd.out.alloc (.cells #[.int .i64 xi, .int .i64 xj, .int .i64 xc] 63)).of_block (hgrow.block nb (HNd.out.alloc _).lt (fun e => hvn e.symm))
                    have cv3 : w9.cell? ⟨q, 127, none⟩ = some vc ∧ w9.cell? ⟨nb, 0, none⟩ = some (.int .i64 xi) ∧ w9.cell? ⟨nb, 1, none⟩ = some (.int .i64 xj) ∧ w9.cell? ⟨nb, 2, none⟩ = some (.int .i64 xc) := ⟨(hq3.cell 127).trans (bx_last _ _ _), hn3.cell 0, hn3.cell 1, hn3.cell 2⟩
                    have g3 := hq3.frozen 127
                    have HC9 := Lib.hid (HCd.out.grow ⟨xi, xj, xc⟩ hown hgrow)
                    clear hown hgrow hat hq3 hn3
                    refine hK.out _ _ (fun _ => cv3) ?_
                    clear hK K
                    refine wpAnyL_one (i := 8) (by kernel_rfl) rfl (fun K hK => ?_)
                    go_simp
                    refine hK.out _ _ (fun _ => cv3) ?_
                    clear hK K
                    refine wpAnyL_one (i := 9) (by kernel_rfl) rfl (fun K hK => ?_)
                    go_simp
                    refine hK.out _ _ (fun _ => cv3) ?_
                    clear hK K
                    refine wpAnyL_one (i := 10) (by kernel_rfl) rfl (fun K hK => ?_)
                    obtain ⟨cq3, _⟩ := cv3
                    go_simp
                    refine hK.out _ _ (fun h => absurd rfl h) ?_
                    clear hK K
                    refine wpAnyL_done (by kernel_rfl) ?_ _
                    have hll : (l ++ [(⟨xi, xj, xc⟩ : C3)]).length = l.length + 1 := by simp
                    clear cv cq3
                    go_wp2
                    go_roundw
                    all_goals first
                      | exact ⟨l.length + 1, l ++ [⟨xi, xj, xc⟩], _, _, by omega, hll, by go_num, (by first | exact e1 _ | exact e1 ()), HC9⟩
                      | ((repeat apply Exists.intro); exact ⟨⟨l.length + 1, l ++ [⟨xi, xj, xc⟩], _, _, by omega, hll, by go_num, (by first | exact e1 _ | exact e1 ()), HC9⟩, rfl⟩)
                      | (simp [intOf]; omega)
                · have hb2 : ¬ (59 : Int) < xj := by have := HXJ.out; omega
                  have hb3 : (xj == xi) = false := by have h1 := HXI.out; have h2 := HXJ.out; rw [beq_eq_false_iff_ne]; omega
                  have e2 : pBind (pBnd 59 91) (fun i => pMap (fun j => (i, j)) (pChk (fun j => decide (j ≠ i)) 91 (pBnd 59 91))) b m = .ok ((i, j), m3) :=
                    pBind_ok.2 ⟨i, m2, HBI.out, pMap_ok.2 ⟨j, pChk_ok.2 ⟨pChk_ok.2 ⟨HBJ.out, by simp; omega⟩, by simp; omega⟩, rfl⟩⟩
                  have HP : Hid (pPair l.getLast? b m = if ahd l.getLast? (i, j) = true then .ok ((i, j), m3) else .error (m, 111)) := pPair_at e2
                  have hl0 := HC.out.ow.last (show CuL _ _ _ _ _ _ from HC.out.cu).blk (by decide)
                  have hlast : l.getLast? = none → l.length = 0 := by
                    intro h
                    rw [List.getLast?_eq_none_iff] at h
                    rw [h]; rfl
                  clear HBI HBJ e2 hi hbad
                  go_upto_region 12 with (fail)
                  rcases hl0 with ⟨hk0, hpv⟩ | ⟨y, n', bb, off, cap, hpv, hkn, ev, hbp, hbl, y0, y1, y2⟩
                  · have HP2 : Hid (pPair l.getLast? b m = .ok ((i, j), m3)) := by show _ = _; rw [HP.out, hpv]; rfl
                    have hkz : decide (0 < l.length) = false := by rw [decide_eq_false_iff_not]; omega
                    clear HP hpv hlast hk0 hb2 hb3 n0 n1
                    go_quiet (fail)
                    have HC := Lib.hid (HC.out.drewN nq)
                    have HN := Lib.hid (Blk.drewN HN.out nq)
                    obtain ⟨V', hV'⟩ : ∃ x, x = V.drewN nq := ⟨_, rfl⟩
                    rw [← hV'] at HC HN ⊢
                    clear hV' hkz
                    go_wp2_with fail
                    refine (csigned_ok _ B p m3 b vb HC.out.cu 91 (by decide)).mono ?_
                    rintro e w8 hr
                    cases hb : pSig 91 b m3 with
                    | error v =>
                      obtain ⟨y, er⟩ := v
                      obtain ⟨xc, v, rfl, rfl, hd, hx⟩ := hr.err hb
                      have e1 : ∀ x, Hid (R = stp (.error (y, er)) fun m => pCons (n - (l.length + 1)) (l ++ [x]) b m) := fun x => by
                        show _ = _
                        rw [HE2.out]
                        exact pBind_no (pBind_err.2 (Or.inr ⟨(i, j), m3, HP2.out, pMap_err.2 hb⟩))
                      have HC8 := Lib.hid (HC.out.next (s' := .error (y, er)) hx hd)
                      have HN8 := Lib.hid (hx.blk HN.out hnp)
                      have n2 := HN8.out.cell 2
                      have f2 := HN8.out.frozen 2
                      simp only [List.getElem?_toArray, List.getElem?_cons_zero, List.getElem?_cons_succ] at n2
                      clear HC HN hr hb hd hx HE2 HP2 HXI HXJ
                      go_upto_region 15 with (fail)
                      generalize hV : w8.setCell _ _ = V8
                      have HC := Lib.hid (HC8.out.setN (g := nb) (i := 2) hnw hvn (.int .i64 xc))
                      have HN := Lib.hid ((HN8.out.set 2 (.int .i64 xc)).eq (C' := #[.int .i64 xi, .int .i64 xj, .int .i64 xc]) rfl)
                      rw [hV] at HC HN
                      clear HC8 HN8 hV n2 f2
                      have cq := (HC.out.qb.cell 127).trans (bx_last _ _ _)
                      have n0 := HN.out.cell 0
                      have n1 := HN.out.cell 1
                      have n2 := HN.out.cell 2
                      simp only [List.getElem?_toArray, List.getElem?_cons_zero, List.getElem?_cons_succ] at n0 n1 n2
                      have hql := HC.out.qb.lt
                      have hnl := HN.out.lt
                      have hsw := HC.out.ex.size
                      obtain ⟨i0, hi, hz0, hz1, hz2⟩ := info_parts infoC3
                      have Hi := Lib.hid hi
                      have hv1 : vc.oneCell' = true := by obtain ⟨a0, cap, e, _⟩ := HC.out.ow.cells; rw [e]; rfl
                      clear hi
                      have HCd := Lib.hid HC.out.drew
                      have HNd := Lib.hid (Blk.drew HN.out)
                      have cv : V8.drew.cell? ⟨q, 127, none⟩ = some vc ∧ V8.drew.cell? ⟨nb, 0, none⟩ = some (.int .i64 xi) ∧ V8.drew.cell? ⟨nb, 1, none⟩ = some (.int .i64 xj) ∧ V8.drew.cell? ⟨nb, 2, none⟩ = some (.int .i64 xc) := ⟨cq, n0, n1, n2⟩
                      clear HC HN cq n0 n1 n2
                      refine wp_region_last 10 (fun w' => w'.cell? ⟨q, 127, none⟩ = some vc ∧ w'.cell? ⟨nb, 0, none⟩ = some (.int .i64 xi) ∧ w'.cell? ⟨nb, 1, none⟩ = some (.int .i64 xj) ∧ w'.cell? ⟨nb, 2, none⟩ = some (.int .i64 xc)) mix ?_
                      refine wpAnyL_take (i := 0) (v := .pointer (some ⟨q, 0, none⟩)) rfl (by kernel_rfl) (by kernel_rfl) (by kernel_rfl) (fun _ _ _ h => h) rfl (by kernel_rfl) (Or.inl ⟨by rfl, fun w' hw' => by obtain ⟨hw1, hw2, hw3, hw4⟩ := hw'; go_simp⟩) cv ?_
                      simp only [Act.put, List.getElem_toArray, List.getElem_cons_zero, List.setIfInBounds_toArray, List.set_cons_zero, List.set_cons_succ]
                      refine wpAnyL_take (i := 1) (v := .pointer (some ⟨q, 0, none⟩)) rfl (by kernel_rfl) (by kernel_rfl) (by kernel_rfl) (fun _ _ _ h => h) rfl (by kernel_rfl) (Or.inl ⟨by rfl, fun w' hw' => by obtain ⟨hw1, hw2, hw3, hw4⟩ := hw'; go_simp⟩) cv ?_
                      simp only [Act.put, List.getElem_toArray, List.getElem_cons_zero, List.getElem_cons_succ, List.setIfInBounds_toArray, List.set_cons_zero, List.set_cons_succ]
                      refine wpAnyL_take (i := 2) (v := .pointer (some ⟨q, 0, none⟩)) rfl (by kernel_rfl) (by kernel_rfl) (by kernel_rfl) (fun _ _ _ h => h) rfl (by kernel_rfl) (Or.inl ⟨by rfl, fun w' hw' => by obtain ⟨hw1, hw2, hw3, hw4⟩ := hw'; go_simp⟩) cv ?_
                      simp only [Act.put, List.getElem_toArray, List.getElem_cons_zero, List.getElem_cons_succ, List.setIfInBounds_toArray, List.set_cons_zero, List.set_cons_succ]
                      refine wpAnyL_take (i := 3) (v := .pointer (some ⟨q, 127, none⟩)) rfl (by kernel_rfl) (by kernel_rfl) (by kernel_rfl) (fun _ _ _ h => h) rfl (by kernel_rfl) (Or.inl ⟨by rfl, fun w' hw' => by obtain ⟨hw1, hw2, hw3, hw4⟩ := hw'; go_simp⟩) cv ?_
                      simp only [Act.put, List.getElem_toArray, List.getElem_cons_zero, List.getElem_cons_succ, List.setIfInBounds_toArray, List.set_cons_zero, List.set_cons_succ]
                      refine wpAnyL_take (i := 4) (v := vc) rfl (by kernel_rfl) (by kernel_rfl) (by kernel_rfl) (fun _ _ _ h => h) rfl (by kernel_rfl) (Or.inl ⟨by rfl, fun w' hw' => by obtain ⟨hw1, hw2, hw3, hw4⟩ := hw'; go_simp⟩) cv ?_
                      simp only [Act.put, List.getElem_toArray, List.getElem_cons_zero, List.getElem_cons_succ, List.setIfInBounds_toArray, List.set_cons_zero, List.set_cons_succ]
                      refine wpAnyL_take (i := 5) (v := .agg #[.int .i64 xi, .int .i64 xj, .int .i64 xc]) rfl (by kernel_rfl) (by kernel_rfl) (by kernel_rfl) (fun _ _ _ h => h) rfl (by kernel_rfl) (Or.inl ⟨by rfl, fun w' hw' => by obtain ⟨hw1, hw2, hw3, hw4⟩ := hw'; go_simp⟩) cv ?_
                      simp only [Act.put, List.getElem_toArray, List.getElem_cons_zero, List.getElem_cons_succ, List.setIfInBounds_toArray, List.set_cons_zero, List.set_cons_succ]
                      refine wpAnyL_one (i := 6) (by kernel_rfl) rfl (fun K hK => ?_)
                      go_simp
                      rw [show (V8.alloc (.cells #[.int .i64 xi, .int .i64 xj, .int .i64 xc] 63)).drew = V8.drew.alloc (.cells #[.int .i64 xi, .int .i64 xj, .int .i64 xc] 63) from rfl]
                      refine hK.out _ _ (fun _ => ⟨((HCd.out.qb.alloc _).cell 127).trans (bx_last _ _ _), (HNd.out.alloc _).cell 0, (HNd.out.alloc _).cell 1, (HNd.out.alloc _).cell 2⟩) ?_
                      clear hK K
                      refine wpAnyL_one (i := 7) (by kernel_rfl) rfl (fun K hK => ?_)
                      refine step_append_lies _ (by rfl) _ _ _ (by rfl) w.heap.size 63 i0 _ 3 24 Try.underlying59 Hi.out hz0 hz1 hz2 rfl (by omega) vc l.length (conC l) (by rfl) (HCd.out.ow.below (bAl (bRefl V8.drew) _)) ⟨V8.drew.heap.size, 0, none⟩ 1 1 [.int .i64 xi, .int .i64 xj, .int .i64 xc] (by rfl) (by rfl)
                        (World.news_of_block (cs := #[.int .i64 xi, .int .i64 xj, .int .i64 xc]) (t := 63) (fr := (0, 0)) (heap_alloc_new V8.drew _)) (by simp [Value.oneCell']) (by omega) (by unfold maxLen; omega) (by omega) (by simp; omega) (V8.drew.heap.size + 1) (by simp) ?_
                      intro g cap' w9 hown hgrow hat hlt1
                      have hq3 := (HCd.out.qb.alloc (.cells #[.int .i64 xi, .int .i64 xj, .int .i64 xc] 63)).of_block (hgrow.block q (HCd.out.qb.alloc _).lt (HCd.out.ow.ne HCd.out.qb (by decide)).symm)
                      have hn3 := (HNd.out.alloc (.cells #[.int .i64 xi, .int .i64 xj, .int .i64 xc] 63)).of_block (hgrow.block nb (HNd.out.alloc _).lt (fun e => hvn e.symm))
                      have cv3 : w9.cell? ⟨q, 127, none⟩ = some vc ∧ w9.cell? ⟨nb, 0, none⟩ = some (.int .i64 xi) ∧ w9.cell? ⟨nb, 1, none⟩ = some (.int .i64 xj) ∧ w9.cell? ⟨nb, 2, none⟩ = some (.int .i64 xc) := ⟨(hq3.cell 127).trans (bx_last _ _ _), hn3.cell 0, hn3.cell 1, hn3.cell 2⟩
                      have g3 := hq3.frozen 127
                      have HC9 := Lib.hid (HCd.out.grow ⟨xi, xj, xc⟩ hown hgrow)
                      clear hown hgrow hat hq3 hn3
                      refine hK.out _ _ (fun _ => cv3) ?_
                      clear hK K
                      refine wpAnyL_one (i := 8) (by kernel_rfl) rfl (fun K hK => ?_)
                      go_simp
                      refine hK.out _ _ (fun _ => cv3) ?_
                      clear hK K
                      refine wpAnyL_one (i := 9) (by kernel_rfl) rfl (fun K hK => ?_)
                      go_simp
                      refine hK.out _ _ (fun _ => cv3) ?_
                      clear hK K
                      refine wpAnyL_one (i := 10) (by kernel_rfl) rfl (fun K hK => ?_)
                      obtain ⟨cq3, _⟩ := cv3
                      go_simp
                      refine hK.out _ _ (fun h => absurd rfl h) ?_
                      clear hK K
                      refine wpAnyL_done (by kernel_rfl) ?_ _
                      have hll : (l ++ [(⟨xi, xj, xc⟩ : C3)]).length = l.length + 1 := by simp
                      clear cv cq3
                      go_wp2
                      go_roundw
                      all_goals first
                        | exact ⟨l.length + 1, l ++ [⟨xi, xj, xc⟩], _, _, by omega, hll, by go_num, (by first | exact e1 _ | exact e1 ()), HC9⟩
                        | ((repeat apply Exists.intro); exact ⟨⟨l.length + 1, l ++ [⟨xi, xj, xc⟩], _, _, by omega, hll, by go_num, (by first | exact e1 _ | exact e1 ()), HC9⟩, rfl⟩)
                        | (simp [intOf]; omega)
                    | ok v =>
                      obtain ⟨xc, m4⟩ := v
                      obtain ⟨v, rfl, rfl, hd, hx⟩ := hr.ok hb
                      have e1 : Unit → Hid (R = stp (.ok m4) fun m => pCons (n - (l.length + 1)) (l ++ [⟨xi, xj, xc⟩]) b m) := fun _ => by
                        show _ = _
                        rw [HE2.out, HXI.out, HXJ.out]
                        exact pBind_at (pBind_ok.2 ⟨(i, j), m3, HP2.out, pMap_ok.2 ⟨xc, hb, rfl⟩⟩)
                      have HC8 := Lib.hid (HC.out.next (s' := .ok m4) hx hd)
                      have HN8 := Lib.hid (hx.blk HN.out hnp)
                      have n2 := HN8.out.cell 2
                      have f2 := HN8.out.frozen 2
                      simp only [List.getElem?_toArray, List.getElem?_cons_zero, List.getElem?_cons_succ] at n2
                      clear HC HN hr hb hd hx HE2 HP2 HXI HXJ
                      go_upto_region 15 with (fail)
                      generalize hV : w8.setCell _ _ = V8
                      have HC := Lib.hid (HC8.out.setN (g := nb) (i := 2) hnw hvn (.int .i64 xc))
                      have HN := Lib.hid ((HN8.out.set 2 (.int .i64 xc)).eq (C' := #[.int .i64 xi, .int .i64 xj, .int .i64 xc]) rfl)
                      rw [hV] at HC HN
                      clear HC8 HN8 hV n2 f2
                      have cq := (HC.out.qb.cell 127).trans (bx_last _ _ _)
                      have n0 := HN.out.cell 0
                      have n1 := HN.out.cell 1
                      have n2 := HN.out.cell 2
                      simp only [List.getElem?_toArray, List.getElem?_cons_zero, List.getElem?_cons_succ] at n0 n1 n2
                      have hql := HC.out.qb.lt
                      have hnl := HN.out.lt
                      have hsw := HC.out.ex.size
                      obtain ⟨i0, hi, hz0, hz1, hz2⟩ := info_parts infoC3
                      have Hi := Lib.hid hi
                      have hv1 : vc.oneCell' = true := by obtain ⟨a0, cap, e, _⟩ := HC.out.ow.cells; rw [e]; rfl
                      clear hi
                      have HCd := Lib.hid HC.out.drew
                      have HNd := Lib.hid (Blk.drew HN.out)
                      have cv : V8.drew.cell? ⟨q, 127, none⟩ = some vc ∧ V8.drew.cell? ⟨nb, 0, none⟩ = some (.int .i64 xi) ∧ V8.drew.cell? ⟨nb, 1, none⟩ = some (.int .i64 xj) ∧ V8.drew.cell? ⟨nb, 2, none⟩ = some (.int .i64 xc) := ⟨cq, n0, n1, n2⟩
                      clear HC HN cq n0 n1 n2
                      refine wp_region_last 10 (fun w' => w'.cell? ⟨q, 127, none⟩ = some vc ∧ w'.cell? ⟨nb, 0, none⟩ = some (.int .i64 xi) ∧ w'.cell? ⟨nb, 1, none⟩ = some (.int .i64 xj) ∧ w'.cell? ⟨nb, 2, none⟩ = some (.int .i64 xc)) mix ?_
                      refine wpAnyL_take (i := 0) (v := .pointer (some ⟨q, 0, none⟩)) rfl (by kernel_rfl) (by kernel_rfl) (by kernel_rfl) (fun _ _ _ h => h) rfl (by kernel_rfl) (Or.inl ⟨by rfl, fun w' hw' => by obtain ⟨hw1, hw2, hw3, hw4⟩ := hw'; go_simp⟩) cv ?_
                      simp only [Act.put, List.getElem_toArray, List.getElem_cons_zero, List.setIfInBounds_toArray, List.set_cons_zero, List.set_cons_succ]
                      refine wpAnyL_take (i := 1) (v := .pointer (some ⟨q, 0, none⟩)) rfl (by kernel_rfl) (by kernel_rfl) (by kernel_rfl) (fun _ _ _ h => h) rfl (by kernel_rfl) (Or.inl ⟨by rfl, fun w' hw' => by obtain ⟨hw1, hw2, hw3, hw4⟩ := hw'; go_simp⟩) cv ?_
                      simp only [Act.put, List.getElem_toArray, List.getElem_cons_zero, List.getElem_cons_succ, List.setIfInBounds_toArray, List.set_cons_zero, List.set_cons_succ]
                      refine wpAnyL_take (i := 2) (v := .pointer (some ⟨q, 0, none⟩)) rfl (by kernel_rfl) (by kernel_rfl) (by kernel_rfl) (fun _ _ _ h => h) rfl (by kernel_rfl) (Or.inl ⟨by rfl, fun w' hw' => by obtain ⟨hw1, hw2, hw3, hw4⟩ := hw'; go_simp⟩) cv ?_
                      simp only [Act.put, List.getElem_toArray, List.getElem_cons_zero, List.getElem_cons_succ, List.setIfInBounds_toArray, List.set_cons_zero, List.set_cons_succ]
                      refine wpAnyL_take (i := 3) (v := .pointer (some ⟨q, 127, none⟩)) rfl (by kernel_rfl) (by kernel_rfl) (by kernel_rfl) (fun _ _ _ h => h) rfl (by kernel_rfl) (Or.inl ⟨by rfl, fun w' hw' => by obtain ⟨hw1, hw2, hw3, hw4⟩ := hw'; go_simp⟩) cv ?_
                      simp only [Act.put, List.getElem_toArray, List.getElem_cons_zero, List.getElem_cons_succ, List.setIfInBounds_toArray, List.set_cons_zero, List.set_cons_succ]
                      refine wpAnyL_take (i := 4) (v := vc) rfl (by kernel_rfl) (by kernel_rfl) (by kernel_rfl) (fun _ _ _ h => h) rfl (by kernel_rfl) (Or.inl ⟨by rfl, fun w' hw' => by obtain ⟨hw1, hw2, hw3, hw4⟩ := hw'; go_simp⟩) cv ?_
                      simp only [Act.put, List.getElem_toArray, List.getElem_cons_zero, List.getElem_cons_succ, List.setIfInBounds_toArray, List.set_cons_zero, List.set_cons_succ]
                      refine wpAnyL_take (i := 5) (v := .agg #[.int .i64 xi, .int .i64 xj, .int .i64 xc]) rfl (by kernel_rfl) (by kernel_rfl) (by kernel_rfl) (fun _ _ _ h => h) rfl (by kernel_rfl) (Or.inl ⟨by rfl, fun w' hw' => by obtain ⟨hw1, hw2, hw3, hw4⟩ := hw'; go_simp⟩) cv ?_
                      simp only [Act.put, List.getElem_toArray, List.getElem_cons_zero, List.getElem_cons_succ, List.setIfInBounds_toArray, List.set_cons_zero, List.set_cons_succ]
                      refine wpAnyL_one (i := 6) (by kernel_rfl) rfl (fun K hK => ?_)
                      go_simp
                      rw [show (V8.alloc (.cells #[.int .i64 xi, .int .i64 xj, .int .i64 xc] 63)).drew = V8.drew.alloc (.cells #[.int .i64 xi, .int .i64 xj, .int .i64 xc] 63) from rfl]
                      refine hK.out _ _ (fun _ => ⟨((HCd.out.qb.alloc _).cell 127).trans (bx_last _ _ _), (HNd.out.alloc _).cell 0, (HNd.out.alloc _).cell 1, (HNd.out.alloc _).cell 2⟩) ?_
                      clear hK K
                      refine wpAnyL_one (i := 7) (by kernel_rfl) rfl (fun K hK => ?_)
                      refine step_append_lies _ (by rfl) _ _ _ (by rfl) w.heap.size 63 i0 _ 3 24 Try.underlying59 Hi.out hz0 hz1 hz2 rfl (by omega) vc l.length (conC l) (by rfl) (HCd.out.ow.below (bAl (bRefl V8.drew) _)) ⟨V8.drew.heap.size, 0, none⟩ 1 1 [.int .i64 xi, .int .i64 xj, .int .i64 xc] (by rfl) (by rfl)
                        (World.news_of_block (cs := #[.int .i64 xi, .int .i64 xj, .int .i64 xc]) (t := 63) (fr := (0, 0)) (heap_alloc_new V8.drew _)) (by simp [Value.oneCell']) (by omega) (by unfold maxLen; omega) (by omega) (by simp; omega) (V8.drew.heap.size + 1) (by simp) ?_
                      intro g cap' w9 hown hgrow hat hlt1
                      have hq3 := (HCd.out.qb.alloc (.cells #[.int .i64 xi, .int .i64 xj, .int .i64 xc] 63)).of_block (hgrow.block q (HCd.out.qb.alloc _).lt (HCd.out.ow.ne HCd.out.qb (by decide)).symm)
                      have hn3 := (HNd.out.alloc (.cells #[.int .i64 xi, .int .i64 xj, .int .i64 xc] 63)).of_block (hgrow.block nb (HNd.out.alloc _).lt (fun e => hvn e.symm))
                      have cv3 : w9.cell? ⟨q, 127, none⟩ = some vc ∧ w9.cell? ⟨nb, 0, none⟩ = some (.int .i64 xi) ∧ w9.cell? ⟨nb, 1, none⟩ = some (.int .i64 xj) ∧ w9.cell? ⟨nb, 2, none⟩ = some (.int .i64 xc) := ⟨(hq3.cell 127).trans (bx_last _ _ _), hn3.cell 0, hn3.cell 1, hn3.cell 2⟩
                      have g3 := hq3.frozen 127
                      have HC9 := Lib.hid (HCd.out.grow ⟨xi, xj, xc⟩ hown hgrow)
                      clear hown hgrow hat hq3 hn3
                      refine hK.out _ _ (fun _ => cv3) ?_
                      clear hK K
                      refine wpAnyL_one (i := 8) (by kernel_rfl) rfl (fun K hK => ?_)
                      go_simp
                      refine hK.out _ _ (fun _ => cv3) ?_
                      clear hK K
                      refine wpAnyL_one (i := 9) (by kernel_rfl) rfl (fun K hK => ?_)
                      go_simp
                      refine hK.out _ _ (fun _ => cv3) ?_
                      clear hK K
                      refine wpAnyL_one (i := 10) (by kernel_rfl) rfl (fun K hK => ?_)
                      obtain ⟨cq3, _⟩ := cv3
                      go_simp
                      refine hK.out _ _ (fun h => absurd rfl h) ?_
                      clear hK K
                      refine wpAnyL_done (by kernel_rfl) ?_ _
                      have hll : (l ++ [(⟨xi, xj, xc⟩ : C3)]).length = l.length + 1 := by simp
                      clear cv cq3
                      go_wp2
                      go_roundw
                      all_goals first
                        | exact ⟨l.length + 1, l ++ [⟨xi, xj, xc⟩], _, _, by omega, hll, by go_num, (by first | exact e1 _ | exact e1 ()), HC9⟩
                        | ((repeat apply Exists.intro); exact ⟨⟨l.length + 1, l ++ [⟨xi, xj, xc⟩], _, _, by omega, hll, by go_num, (by first | exact e1 _ | exact e1 ()), HC9⟩, rfl⟩)
                        | (simp [intOf]; omega)
                  · have hkp : 0 < l.length := by omega
                    have hsub : (l.length : Int) - 1 = (n' : Int) := by omega
                    have hlt0 : (n' : Int) < (l.length : Int) := by omega
                    have hwr : IntKind.i64.wrap (n' : Int) = n' := IntWalk.i64_in _ (by omega)
                    have n2 := HN.out.cell 2
                    simp only [List.getElem?_toArray, List.getElem?_cons_zero, List.getElem?_cons_succ] at n2
                    have HPV := Lib.hid hpv
                    have HKN := Lib.hid hkn
                    subst ev
                    have cq := (HC.out.qb.cell 127).trans (bx_last _ _ _)
                    have hql2 := HC.out.qb.lt
                    clear hpv hlast hkn
                    refine wp_tail 19 mix (by kernel_rfl) ?_
                    simp only [List.take_succ_cons, List.take_zero, List.drop_succ_cons, List.drop_zero]
                    iterate 19 still_step
                    refine wpStill_nil ?_
                    go_wp2_with fail
                    refine (rrises_yes _ y ⟨i, j, 0⟩ _ rfl rfl rfl rfl HXI.out HXJ.out rfl).mono ?_
                    rintro e w6 ⟨rfl, b6⟩
                    have HC6 := Lib.hid ((HC.out.drew).below b6)
                    have HN6 := Lib.hid ((Blk.drew HN.out).below b6 (Blk.drew HN.out).lt)
                    have c3 : w6.cell? ⟨p, 3, none⟩ = some (.int .i64 0) := CuL.cell3 HC6.out.cu
                    clear HC HN b6 n0 n1 n2 y0 y1 y2 cq hql2 hsub hlt0 hwr hb2 hb3 hkp hbl
                    obtain ⟨V, rfl⟩ : ∃ x : World, x = w6 := ⟨_, rfl⟩
                    have HC := HC6
                    have HN := HN6
                    obtain ⟨vc, hvc⟩ : ∃ v, v = Value.slice (some ⟨bb, off, none⟩) l.length cap := ⟨_, rfl⟩
                    rw [← hvc] at HC hvn
                    clear HC6 HN6 hvc
                    cases hri : rises y ⟨i, j, 0⟩ with
                    | false =>
                      have e1 : ∀ x, Hid (R = stp (.error (m, 111)) fun m => pCons (n - (l.length + 1)) (l ++ [x]) b m) := fun x => by
                        show _ = _
                        rw [HE2.out]
                        exact pBind_no (pBind_err.2 (Or.inl (by rw [HP.out, HPV.out]; simp [ahd, hri])))
                      clear hri HP HE2 HPV HXI HXJ
                      go_wp2_with fail
                      refine (cfault_ok _ B p _ b vb HC.out.cu m 111 (by decide)).mono ?_
                      rintro e w3 ⟨rfl, hd, hx⟩
                      obtain ⟨y, hy⟩ : ∃ y, y = m := ⟨_, rfl⟩
                      obtain ⟨er, her⟩ : ∃ er : Int, er = 111 := ⟨_, rfl⟩
                      rw [← hy, ← her] at hd e1
                      obtain ⟨V, rfl⟩ : ∃ x : World, x = w3 := ⟨_, rfl⟩
                      have HC := Lib.hid (HC.out.next (s' := .error (y, er)) hx hd)
                      have HN := Lib.hid (hx.blk HN.out hnp)
                      clear hd hx hy her c3
                      go_wp2_with fail
                      refine (csigned_dead _ B p y er b vb HC.out.cu 91).mono ?_
                      rintro e w8 hr
                      obtain ⟨xc, v, rfl, rfl, hd, hx⟩ := hr.err rfl
                      have HC8 := Lib.hid (HC.out.next (s' := .error (y, er)) hx hd)
                      have HN8 := Lib.hid (hx.blk HN.out hnp)
                      have n2 := HN8.out.cell 2
                      have f2 := HN8.out.frozen 2
                      simp only [List.getElem?_toArray, List.getElem?_cons_zero, List.getElem?_cons_succ] at n2
                      clear HC HN hr hd hx
                      go_upto_region 15 with (fail)
                      generalize hV : w8.setCell _ _ = V8
                      have HC := Lib.hid (HC8.out.setN (g := nb) (i := 2) hnw hvn (.int .i64 xc))
                      have HN := Lib.hid ((HN8.out.set 2 (.int .i64 xc)).eq (C' := #[.int .i64 xi, .int .i64 xj, .int .i64 xc]) rfl)
                      rw [hV] at HC HN
                      clear HC8 HN8 hV n2 f2
                      have cq := (HC.out.qb.cell 127).trans (bx_last _ _ _)
                      have n0 := HN.out.cell 0
                      have n1 := HN.out.cell 1
                      have n2 := HN.out.cell 2
                      simp only [List.getElem?_toArray, List.getElem?_cons_zero, List.getElem?_cons_succ] at n0 n1 n2
                      have hql := HC.out.qb.lt
                      have hnl := HN.out.lt
                      have hsw := HC.out.ex.size
                      obtain ⟨i0, hi, hz0, hz1, hz2⟩ := info_parts infoC3
                      have Hi := Lib.hid hi
                      have hv1 : vc.oneCell' = true := by obtain ⟨a0, cap, e, _⟩ := HC.out.ow.cells; rw [e]; rfl
                      clear hi
                      have HCd := Lib.hid HC.out.drew
                      have HNd := Lib.hid (Blk.drew HN.out)
                      have cv : V8.drew.cell? ⟨q, 127, none⟩ = some vc ∧ V8.drew.cell? ⟨nb, 0, none⟩ = some (.int .i64 xi) ∧ V8.drew.cell? ⟨nb, 1, none⟩ = some (.int .i64 xj) ∧ V8.drew.cell? ⟨nb, 2, none⟩ = some (.int .i64 xc) := ⟨cq, n0, n1, n2⟩
                      clear HC HN cq n0 n1 n2
                      refine wp_region_last 10 (fun w' => w'.cell? ⟨q, 127, none⟩ = some vc ∧ w'.cell? ⟨nb, 0, none⟩ = some (.int .i64 xi) ∧ w'.cell? ⟨nb, 1, none⟩ = some (.int .i64 xj) ∧ w'.cell? ⟨nb, 2, none⟩ = some (.int .i64 xc)) mix ?_
                      refine wpAnyL_take (i := 0) (v := .pointer (some ⟨q, 0, none⟩)) rfl (by kernel_rfl) (by kernel_rfl) (by kernel_rfl) (fun _ _ _ h => h) rfl (by kernel_rfl) (Or.inl ⟨by rfl, fun w' hw' => by obtain ⟨hw1, hw2, hw3, hw4⟩ := hw'; go_simp⟩) cv ?_
                      simp only [Act.put, List.getElem_toArray, List.getElem_cons_zero, List.setIfInBounds_toArray, List.set_cons_zero, List.set_cons_succ]
                      refine wpAnyL_take (i := 1) (v := .pointer (some ⟨q, 0, none⟩)) rfl (by kernel_rfl) (by kernel_rfl) (by kernel_rfl) (fun _ _ _ h => h) rfl (by kernel_rfl) (Or.inl ⟨by rfl, fun w' hw' => by obtain ⟨hw1, hw2, hw3, hw4⟩ := hw'; go_simp⟩) cv ?_
                      simp only [Act.put, List.getElem_toArray, List.getElem_cons_zero, List.getElem_cons_succ, List.setIfInBounds_toArray, List.set_cons_zero, List.set_cons_succ]
                      refine wpAnyL_take (i := 2) (v := .pointer (some ⟨q, 0, none⟩)) rfl (by kernel_rfl) (by kernel_rfl) (by kernel_rfl) (fun _ _ _ h => h) rfl (by kernel_rfl) (Or.inl ⟨by rfl, fun w' hw' => by obtain ⟨hw1, hw2, hw3, hw4⟩ := hw'; go_simp⟩) cv ?_
                      simp only [Act.put, List.getElem_toArray, List.getElem_cons_zero, List.getElem_cons_succ, List.setIfInBounds_toArray, List.set_cons_zero, List.set_cons_succ]
                      refine wpAnyL_take (i := 3) (v := .pointer (some ⟨q, 127, none⟩)) rfl (by kernel_rfl) (by kernel_rfl) (by kernel_rfl) (fun _ _ _ h => h) rfl (by kernel_rfl) (Or.inl ⟨by rfl, fun w' hw' => by obtain ⟨hw1, hw2, hw3, hw4⟩ := hw'; go_simp⟩) cv ?_
                      simp only [Act.put, List.getElem_toArray, List.getElem_cons_zero, List.getElem_cons_succ, List.setIfInBounds_toArray, List.set_cons_zero, List.set_cons_succ]
                      refine wpAnyL_take (i := 4) (v := vc) rfl (by kernel_rfl) (by kernel_rfl) (by kernel_rfl) (fun _ _ _ h => h) rfl (by kernel_rfl) (Or.inl ⟨by rfl, fun w' hw' => by obtain ⟨hw1, hw2, hw3, hw4⟩ := hw'; go_simp⟩) cv ?_
                      simp only [Act.put, List.getElem_toArray, List.getElem_cons_zero, List.getElem_cons_succ, List.setIfInBounds_toArray, List.set_cons_zero, List.set_cons_succ]
                      refine wpAnyL_take (i := 5) (v := .agg #[.int .i64 xi, .int .i64 xj, .int .i64 xc]) rfl (by kernel_rfl) (by kernel_rfl) (by kernel_rfl) (fun _ _ _ h => h) rfl (by kernel_rfl) (Or.inl ⟨by rfl, fun w' hw' => by obtain ⟨hw1, hw2, hw3, hw4⟩ := hw'; go_simp⟩) cv ?_
                      simp only [Act.put, List.getElem_toArray, List.getElem_cons_zero, List.getElem_cons_succ, List.setIfInBounds_toArray, List.set_cons_zero, List.set_cons_succ]
                      refine wpAnyL_one (i := 6) (by kernel_rfl) rfl (fun K hK => ?_)
                      go_simp
                      rw [show (V8.alloc (.cells #[.int .i64 xi, .int .i64 xj, .int .i64 xc] 63)).drew = V8.drew.alloc (.cells #[.int .i64 xi, .int .i64 xj, .int .i64 xc] 63) from rfl]
                      refine hK.out _ _ (fun _ => ⟨((HCd.out.qb.alloc _).cell 127).trans (bx_last _ _ _), (HNd.out.alloc _).cell 0, (HNd.out.alloc _).cell 1, (HNd.out.alloc _).cell 2⟩) ?_
                      clear hK K
                      refine wpAnyL_one (i := 7) (by kernel_rfl) rfl (fun K hK => ?_)
                      refine step_append_lies _ (by rfl) _ _ _ (by rfl) w.heap.size 63 i0 _ 3 24 Try.underlying59 Hi.out hz0 hz1 hz2 rfl (by omega) vc l.length (conC l) (by rfl) (HCd.out.ow.below (bAl (bRefl V8.drew) _)) ⟨V8.drew.heap.size, 0, none⟩ 1 1 [.int .i64 xi, .int .i64 xj, .int .i64 xc] (by rfl) (by rfl)
                        (World.news_of_block (cs := #[.int .i64 xi, .int .i64 xj, .int .i64 xc]) (t := 63) (fr := (0, 0)) (heap_alloc_new V8.drew _)) (by simp [Value.oneCell']) (by omega) (by unfold maxLen; omega) (by omega) (by simp; omega) (V8.drew.heap.size + 1) (by simp) ?_
                      intro g cap' w9 hown hgrow hat hlt1
                      have hq3 := (HCd.out.qb.alloc (.cells #[.int .i64 xi, .int .i64 xj, .int .i64 xc] 63)).of_block (hgrow.block q (HCd.out.qb.alloc _).lt (HCd.out.ow.ne HCd.out.qb (by decide)).symm)
                      have hn3 := (HNd.out.alloc (.cells #[.int .i64 xi, .int .i64 xj, .int .i64 xc] 63)).of_block (hgrow.block nb (HNd.out.alloc _).lt (fun e => hvn e.symm))
                      have cv3 : w9.cell? ⟨q, 127, none⟩ = some vc ∧ w9.cell? ⟨nb, 0, none⟩ = some (.int .i64 xi) ∧ w9.cell? ⟨nb, 1, none⟩ = some (.int .i64 xj) ∧ w9.cell? ⟨nb, 2, none⟩ = some (.int .i64 xc) := ⟨(hq3.cell 127).trans (bx_last _ _ _), hn3.cell 0, hn3.cell 1, hn3.cell 2⟩
                      have g3 := hq3.frozen 127
                      have HC9 := Lib.hid (HCd.out.grow ⟨xi, xj, xc⟩ hown hgrow)
                      clear hown hgrow hat hq3 hn3
                      refine hK.out _ _ (fun _ => cv3) ?_
                      clear hK K
                      refine wpAnyL_one (i := 8) (by kernel_rfl) rfl (fun K hK => ?_)
                      go_simp
                      refine hK.out _ _ (fun _ => cv3) ?_
                      clear hK K
                      refine wpAnyL_one (i := 9) (by kernel_rfl) rfl (fun K hK => ?_)
                      go_simp
                      refine hK.out _ _ (fun _ => cv3) ?_
                      clear hK K
                      refine wpAnyL_one (i := 10) (by kernel_rfl) rfl (fun K hK => ?_)
                      obtain ⟨cq3, _⟩ := cv3
                      go_simp
                      refine hK.out _ _ (fun h => absurd rfl h) ?_
                      clear hK K
                      refine wpAnyL_done (by kernel_rfl) ?_ _
                      have hll : (l ++ [(⟨xi, xj, xc⟩ : C3)]).length = l.length + 1 := by simp
                      clear cv cq3
                      go_wp2
                      go_roundw
                      all_goals first
                        | exact ⟨l.length + 1, l ++ [⟨xi, xj, xc⟩], _, _, by omega, hll, by go_num, (by first | exact e1 _ | exact e1 ()), HC9⟩
                        | ((repeat apply Exists.intro); exact ⟨⟨l.length + 1, l ++ [⟨xi, xj, xc⟩], _, _, by omega, hll, by go_num, (by first | exact e1 _ | exact e1 ()), HC9⟩, rfl⟩)
                        | (simp [intOf]; omega)
                    | true =>
                      have HP2 : Hid (pPair l.getLast? b m = .ok ((i, j), m3)) := by show _ = _; rw [HP.out, HPV.out]; simp [ahd, hri]
                      clear hri HP HPV
                      go_wp2_with fail
                      refine (csigned_ok _ B p m3 b vb HC.out.cu 91 (by decide)).mono ?_
                      rintro e w8 hr
                      cases hb : pSig 91 b m3 with
                      | error v =>
                        obtain ⟨y, er⟩ := v
                        obtain ⟨xc, v, rfl, rfl, hd, hx⟩ := hr.err hb
                        have e1 : ∀ x, Hid (R = stp (.error (y, er)) fun m => pCons (n - (l.length + 1)) (l ++ [x]) b m) := fun x => by
                          show _ = _
                          rw [HE2.out]
                          exact pBind_no (pBind_err.2 (Or.inr ⟨(i, j), m3, HP2.out, pMap_err.2 hb⟩))
                        have HC8 := Lib.hid (HC.out.next (s' := .error (y, er)) hx hd)
                        have HN8 := Lib.hid (hx.blk HN.out hnp)
                        have n2 := HN8.out.cell 2
                        have f2 := HN8.out.frozen 2
                        simp only [List.getElem?_toArray, List.getElem?_cons_zero, List.getElem?_cons_succ] at n2
                        clear HC HN hr hb hd hx HE2 HP2 HXI HXJ
                        go_upto_region 15 with (fail)
                        generalize hV : w8.setCell _ _ = V8
                        have HC := Lib.hid (HC8.out.setN (g := nb) (i := 2) hnw hvn (.int .i64 xc))
                        have HN := Lib.hid ((HN8.out.set 2 (.int .i64 xc)).eq (C' := #[.int .i64 xi, .int .i64 xj, .int .i64 xc]) rfl)
                        rw [hV] at HC HN
                        clear HC8 HN8 hV n2 f2
                        have cq := (HC.out.qb.cell 127).trans (bx_last _ _ _)
                        have n0 := HN.out.cell 0
                        have n1 := HN.out.cell 1
                        have n2 := HN.out.cell 2
                        simp only [List.getElem?_toArray, List.getElem?_cons_zero, List.getElem?_cons_succ] at n0 n1 n2
                        have hql := HC.out.qb.lt
                        have hnl := HN.out.lt
                        have hsw := HC.out.ex.size
                        obtain ⟨i0, hi, hz0, hz1, hz2⟩ := info_parts infoC3
                        have Hi := Lib.hid hi
                        have hv1 : vc.oneCell' = true := by obtain ⟨a0, cap, e, _⟩ := HC.out.ow.cells; rw [e]; rfl
                        clear hi
                        have HCd := Lib.hid HC.out.drew
                        have HNd := Lib.hid (Blk.drew HN.out)
                        have cv : V8.drew.cell? ⟨q, 127, none⟩ = some vc ∧ V8.drew.cell? ⟨nb, 0, none⟩ = some (.int .i64 xi) ∧ V8.drew.cell? ⟨nb, 1, none⟩ = some (.int .i64 xj) ∧ V8.drew.cell? ⟨nb, 2, none⟩ = some (.int .i64 xc) := ⟨cq, n0, n1, n2⟩
                        clear HC HN cq n0 n1 n2
                        refine wp_region_last 10 (fun w' => w'.cell? ⟨q, 127, none⟩ = some vc ∧ w'.cell? ⟨nb, 0, none⟩ = some (.int .i64 xi) ∧ w'.cell? ⟨nb, 1, none⟩ = some (.int .i64 xj) ∧ w'.cell? ⟨nb, 2, none⟩ = some (.int .i64 xc)) mix ?_
                        refine wpAnyL_take (i := 0) (v := .pointer (some ⟨q, 0, none⟩)) rfl (by kernel_rfl) (by kernel_rfl) (by kernel_rfl) (fun _ _ _ h => h) rfl (by kernel_rfl) (Or.inl ⟨by rfl, fun w' hw' => by obtain ⟨hw1, hw2, hw3, hw4⟩ := hw'; go_simp⟩) cv ?_
                        simp only [Act.put, List.getElem_toArray, List.getElem_cons_zero, List.setIfInBounds_toArray, List.set_cons_zero, List.set_cons_succ]
                        refine wpAnyL_take (i := 1) (v := .pointer (some ⟨q, 0, none⟩)) rfl (by kernel_rfl) (by kernel_rfl) (by kernel_rfl) (fun _ _ _ h => h) rfl (by kernel_rfl) (Or.inl ⟨by rfl, fun w' hw' => by obtain ⟨hw1, hw2, hw3, hw4⟩ := hw'; go_simp⟩) cv ?_
                        simp only [Act.put, List.getElem_toArray, List.getElem_cons_zero, List.getElem_cons_succ, List.setIfInBounds_toArray, List.set_cons_zero, List.set_cons_succ]
                        refine wpAnyL_take (i := 2) (v := .pointer (some ⟨q, 0, none⟩)) rfl (by kernel_rfl) (by kernel_rfl) (by kernel_rfl) (fun _ _ _ h => h) rfl (by kernel_rfl) (Or.inl ⟨by rfl, fun w' hw' => by obtain ⟨hw1, hw2, hw3, hw4⟩ := hw'; go_simp⟩) cv ?_
                        simp only [Act.put, List.getElem_toArray, List.getElem_cons_zero, List.getElem_cons_succ, List.setIfInBounds_toArray, List.set_cons_zero, List.set_cons_succ]
                        refine wpAnyL_take (i := 3) (v := .pointer (some ⟨q, 127, none⟩)) rfl (by kernel_rfl) (by kernel_rfl) (by kernel_rfl) (fun _ _ _ h => h) rfl (by kernel_rfl) (Or.inl ⟨by rfl, fun w' hw' => by obtain ⟨hw1, hw2, hw3, hw4⟩ := hw'; go_simp⟩) cv ?_
                        simp only [Act.put, List.getElem_toArray, List.getElem_cons_zero, List.getElem_cons_succ, List.setIfInBounds_toArray, List.set_cons_zero, List.set_cons_succ]
                        refine wpAnyL_take (i := 4) (v := vc) rfl (by kernel_rfl) (by kernel_rfl) (by kernel_rfl) (fun _ _ _ h => h) rfl (by kernel_rfl) (Or.inl ⟨by rfl, fun w' hw' => by obtain ⟨hw1, hw2, hw3, hw4⟩ := hw'; go_simp⟩) cv ?_
                        simp only [Act.put, List.getElem_toArray, List.getElem_cons_zero, List.getElem_cons_succ, List.setIfInBounds_toArray, List.set_cons_zero, List.set_cons_succ]
                        refine wpAnyL_take (i := 5) (v := .agg #[.int .i64 xi, .int .i64 xj, .int .i64 xc]) rfl (by kernel_rfl) (by kernel_rfl) (by kernel_rfl) (fun _ _ _ h => h) rfl (by kernel_rfl) (Or.inl ⟨by rfl, fun w' hw' => by obtain ⟨hw1, hw2, hw3, hw4⟩ := hw'; go_simp⟩) cv ?_
                        simp only [Act.put, List.getElem_toArray, List.getElem_cons_zero, List.getElem_cons_succ, List.setIfInBounds_toArray, List.set_cons_zero, List.set_cons_succ]
                        refine wpAnyL_one (i := 6) (by kernel_rfl) rfl (fun K hK => ?_)
                        go_simp
                        rw [show (V8.alloc (.cells #[.int .i64 xi, .int .i64 xj, .int .i64 xc] 63)).drew = V8.drew.alloc (.cells #[.int .i64 xi, .int .i64 xj, .int .i64 xc] 63) from rfl]
                        refine hK.out _ _ (fun _ => ⟨((HCd.out.qb.alloc _).cell 127).trans (bx_last _ _ _), (HNd.out.alloc _).cell 0, (HNd.out.alloc _).cell 1, (HNd.out.alloc _).cell 2⟩) ?_
                        clear hK K
                        refine wpAnyL_one (i := 7) (by kernel_rfl) rfl (fun K hK => ?_)
                        refine step_append_lies _ (by rfl) _ _ _ (by rfl) w.heap.size 63 i0 _ 3 24 Try.underlying59 Hi.out hz0 hz1 hz2 rfl (by omega) vc l.length (conC l) (by rfl) (HCd.out.ow.below (bAl (bRefl V8.drew) _)) ⟨V8.drew.heap.size, 0, none⟩ 1 1 [.int .i64 xi, .int .i64 xj, .int .i64 xc] (by rfl) (by rfl)
                          (World.news_of_block (cs := #[.int .i64 xi, .int .i64 xj, .int .i64 xc]) (t := 63) (fr := (0, 0)) (heap_alloc_new V8.drew _)) (by simp [Value.oneCell']) (by omega) (by unfold maxLen; omega) (by omega) (by simp; omega) (V8.drew.heap.size + 1) (by simp) ?_
                        intro g cap' w9 hown hgrow hat hlt1
                        have hq3 := (HCd.out.qb.alloc (.cells #[.int .i64 xi, .int .i64 xj, .int .i64 xc] 63)).of_block (hgrow.block q (HCd.out.qb.alloc _).lt (HCd.out.ow.ne HCd.out.qb (by decide)).symm)
                        have hn3 := (HNd.out.alloc (.cells #[.int .i64 xi, .int .i64 xj, .int .i64 xc] 63)).of_block (hgrow.block nb (HNd.out.alloc _).lt (fun e => hvn e.symm))
                        have cv3 : w9.cell? ⟨q, 127, none⟩ = some vc ∧ w9.cell? ⟨nb, 0, none⟩ = some (.int .i64 xi) ∧ w9.cell? ⟨nb, 1, none⟩ = some (.int .i64 xj) ∧ w9.cell? ⟨nb, 2, none⟩ = some (.int .i64 xc) := ⟨(hq3.cell 127).trans (bx_last _ _ _), hn3.cell 0, hn3.cell 1, hn3.cell 2⟩
                        have g3 := hq3.frozen 127
                        have HC9 := Lib.hid (HCd.out.grow ⟨xi, xj, xc⟩ hown hgrow)
                        clear hown hgrow hat hq3 hn3
                        refine hK.out _ _ (fun _ => cv3) ?_
                        clear hK K
                        refine wpAnyL_one (i := 8) (by kernel_rfl) rfl (fun K hK => ?_)
                        go_simp
                        refine hK.out _ _ (fun _ => cv3) ?_
                        clear hK K
                        refine wpAnyL_one (i := 9) (by kernel_rfl) rfl (fun K hK => ?_)
                        go_simp
                        refine hK.out _ _ (fun _ => cv3) ?_
                        clear hK K
                        refine wpAnyL_one (i := 10) (by kernel_rfl) rfl (fun K hK => ?_)
                        obtain ⟨cq3, _⟩ := cv3
                        go_simp
                        refine hK.out _ _ (fun h => absurd rfl h) ?_
                        clear hK K
                        refine wpAnyL_done (by kernel_rfl) ?_ _
                        have hll : (l ++ [(⟨xi, xj, xc⟩ : C3)]).length = l.length + 1 := by simp
                        clear cv cq3
                        go_wp2
                        go_roundw
                        all_goals first
                          | exact ⟨l.length + 1, l ++ [⟨xi, xj, xc⟩], _, _, by omega, hll, by go_num, (by first | exact e1 _ | exact e1 ()), HC9⟩
                          | ((repeat apply Exists.intro); exact ⟨⟨l.length + 1, l ++ [⟨xi, xj, xc⟩], _, _, by omega, hll, by go_num, (by first | exact e1 _ | exact e1 ()), HC9⟩, rfl⟩)
                          | (simp [intOf]; omega)
                      | ok v =>
                        obtain ⟨xc, m4⟩ := v
                        obtain ⟨v, rfl, rfl, hd, hx⟩ := hr.ok hb
                        have e1 : Unit → Hid (R = stp (.ok m4) fun m => pCons (n - (l.length + 1)) (l ++ [⟨xi, xj, xc⟩]) b m) := fun _ => by
                          show _ = _
                          rw [HE2.out, HXI.out, HXJ.out]
                          exact pBind_at (pBind_ok.2 ⟨(i, j), m3, HP2.out, pMap_ok.2 ⟨xc, hb, rfl⟩⟩)
                        have HC8 := Lib.hid (HC.out.next (s' := .ok m4) hx hd)
                        have HN8 := Lib.hid (hx.blk HN.out hnp)
                        have n2 := HN8.out.cell 2
                        have f2 := HN8.out.frozen 2
                        simp only [List.getElem?_toArray, List.getElem?_cons_zero, List.getElem?_cons_succ] at n2
                        clear HC HN hr hb hd hx HE2 HP2 HXI HXJ
                        go_upto_region 15 with (fail)
                        generalize hV : w8.setCell _ _ = V8
                        have HC := Lib.hid (HC8.out.setN (g := nb) (i := 2) hnw hvn (.int .i64 xc))
                        have HN := Lib.hid ((HN8.out.set 2 (.int .i64 xc)).eq (C' := #[.int .i64 xi, .int .i64 xj, .int .i64 xc]) rfl)
                        rw [hV] at HC HN
                        clear HC8 HN8 hV n2 f2
                        have cq := (HC.out.qb.cell 127).trans (bx_last _ _ _)
                        have n0 := HN.out.cell 0
                        have n1 := HN.out.cell 1
                        have n2 := HN.out.cell 2
                        simp only [List.getElem?_toArray, List.getElem?_cons_zero, List.getElem?_cons_succ] at n0 n1 n2
                        have hql := HC.out.qb.lt
                        have hnl := HN.out.lt
                        have hsw := HC.out.ex.size
                        obtain ⟨i0, hi, hz0, hz1, hz2⟩ := info_parts infoC3
                        have Hi := Lib.hid hi
                        have hv1 : vc.oneCell' = true := by obtain ⟨a0, cap, e, _⟩ := HC.out.ow.cells; rw [e]; rfl
                        clear hi
                        have HCd := Lib.hid HC.out.drew
                        have HNd := Lib.hid (Blk.drew HN.out)
                        have cv : V8.drew.cell? ⟨q, 127, none⟩ = some vc ∧ V8.drew.cell? ⟨nb, 0, none⟩ = some (.int .i64 xi) ∧ V8.drew.cell? ⟨nb, 1, none⟩ = some (.int .i64 xj) ∧ V8.drew.cell? ⟨nb, 2, none⟩ = some (.int .i64 xc) := ⟨cq, n0, n1, n2⟩
                        clear HC HN cq n0 n1 n2
                        refine wp_region_last 10 (fun w' => w'.cell? ⟨q, 127, none⟩ = some vc ∧ w'.cell? ⟨nb, 0, none⟩ = some (.int .i64 xi) ∧ w'.cell? ⟨nb, 1, none⟩ = some (.int .i64 xj) ∧ w'.cell? ⟨nb, 2, none⟩ = some (.int .i64 xc)) mix ?_
                        refine wpAnyL_take (i := 0) (v := .pointer (some ⟨q, 0, none⟩)) rfl (by kernel_rfl) (by kernel_rfl) (by kernel_rfl) (fun _ _ _ h => h) rfl (by kernel_rfl) (Or.inl ⟨by rfl, fun w' hw' => by obtain ⟨hw1, hw2, hw3, hw4⟩ := hw'; go_simp⟩) cv ?_
                        simp only [Act.put, List.getElem_toArray, List.getElem_cons_zero, List.setIfInBounds_toArray, List.set_cons_zero, List.set_cons_succ]
                        refine wpAnyL_take (i := 1) (v := .pointer (some ⟨q, 0, none⟩)) rfl (by kernel_rfl) (by kernel_rfl) (by kernel_rfl) (fun _ _ _ h => h) rfl (by kernel_rfl) (Or.inl ⟨by rfl, fun w' hw' => by obtain ⟨hw1, hw2, hw3, hw4⟩ := hw'; go_simp⟩) cv ?_
                        simp only [Act.put, List.getElem_toArray, List.getElem_cons_zero, List.getElem_cons_succ, List.setIfInBounds_toArray, List.set_cons_zero, List.set_cons_succ]
                        refine wpAnyL_take (i := 2) (v := .pointer (some ⟨q, 0, none⟩)) rfl (by kernel_rfl) (by kernel_rfl) (by kernel_rfl) (fun _ _ _ h => h) rfl (by kernel_rfl) (Or.inl ⟨by rfl, fun w' hw' => by obtain ⟨hw1, hw2, hw3, hw4⟩ := hw'; go_simp⟩) cv ?_
                        simp only [Act.put, List.getElem_toArray, List.getElem_cons_zero, List.getElem_cons_succ, List.setIfInBounds_toArray, List.set_cons_zero, List.set_cons_succ]
                        refine wpAnyL_take (i := 3) (v := .pointer (some ⟨q, 127, none⟩)) rfl (by kernel_rfl) (by kernel_rfl) (by kernel_rfl) (fun _ _ _ h => h) rfl (by kernel_rfl) (Or.inl ⟨by rfl, fun w' hw' => by obtain ⟨hw1, hw2, hw3, hw4⟩ := hw'; go_simp⟩) cv ?_
                        simp only [Act.put, List.getElem_toArray, List.getElem_cons_zero, List.getElem_cons_succ, List.setIfInBounds_toArray, List.set_cons_zero, List.set_cons_succ]
                        refine wpAnyL_take (i := 4) (v := vc) rfl (by kernel_rfl) (by kernel_rfl) (by kernel_rfl) (fun _ _ _ h => h) rfl (by kernel_rfl) (Or.inl ⟨by rfl, fun w' hw' => by obtain ⟨hw1, hw2, hw3, hw4⟩ := hw'; go_simp⟩) cv ?_
                        simp only [Act.put, List.getElem_toArray, List.getElem_cons_zero, List.getElem_cons_succ, List.setIfInBounds_toArray, List.set_cons_zero, List.set_cons_succ]
                        refine wpAnyL_take (i := 5) (v := .agg #[.int .i64 xi, .int .i64 xj, .int .i64 xc]) rfl (by kernel_rfl) (by kernel_rfl) (by kernel_rfl) (fun _ _ _ h => h) rfl (by kernel_rfl) (Or.inl ⟨by rfl, fun w' hw' => by obtain ⟨hw1, hw2, hw3, hw4⟩ := hw'; go_simp⟩) cv ?_
                        simp only [Act.put, List.getElem_toArray, List.getElem_cons_zero, List.getElem_cons_succ, List.setIfInBounds_toArray, List.set_cons_zero, List.set_cons_succ]
                        refine wpAnyL_one (i := 6) (by kernel_rfl) rfl (fun K hK => ?_)
                        go_simp
                        rw [show (V8.alloc (.cells #[.int .i64 xi, .int .i64 xj, .int .i64 xc] 63)).drew = V8.drew.alloc (.cells #[.int .i64 xi, .int .i64 xj, .int .i64 xc] 63) from rfl]
                        refine hK.out _ _ (fun _ => ⟨((HCd.out.qb.alloc _).cell 127).trans (bx_last _ _ _), (HNd.out.alloc _).cell 0, (HNd.out.alloc _).cell 1, (HNd.out.alloc _).cell 2⟩) ?_
                        clear hK K
                        refine wpAnyL_one (i := 7) (by kernel_rfl) rfl (fun K hK => ?_)
                        refine step_append_lies _ (by rfl) _ _ _ (by rfl) w.heap.size 63 i0 _ 3 24 Try.underlying59 Hi.out hz0 hz1 hz2 rfl (by omega) vc l.length (conC l) (by rfl) (HCd.out.ow.below (bAl (bRefl V8.drew) _)) ⟨V8.drew.heap.size, 0, none⟩ 1 1 [.int .i64 xi, .int .i64 xj, .int .i64 xc] (by rfl) (by rfl)
                          (World.news_of_block (cs := #[.int .i64 xi, .int .i64 xj, .int .i64 xc]) (t := 63) (fr := (0, 0)) (heap_alloc_new V8.drew _)) (by simp [Value.oneCell']) (by omega) (by unfold maxLen; omega) (by omega) (by simp; omega) (V8.drew.heap.size + 1) (by simp) ?_
                        intro g cap' w9 hown hgrow hat hlt1
                        have hq3 := (HCd.out.qb.alloc (.cells #[.int .i64 xi, .int .i64 xj, .int .i64 xc] 63)).of_block (hgrow.block q (HCd.out.qb.alloc _).lt (HCd.out.ow.ne HCd.out.qb (by decide)).symm)
                        have hn3 := (HNd.out.alloc (.cells #[.int .i64 xi, .int .i64 xj, .int .i64 xc] 63)).of_block (hgrow.block nb (HNd.out.alloc _).lt (fun e => hvn e.symm))
                        have cv3 : w9.cell? ⟨q, 127, none⟩ = some vc ∧ w9.cell? ⟨nb, 0, none⟩ = some (.int .i64 xi) ∧ w9.cell? ⟨nb, 1, none⟩ = some (.int .i64 xj) ∧ w9.cell? ⟨nb, 2, none⟩ = some (.int .i64 xc) := ⟨(hq3.cell 127).trans (bx_last _ _ _), hn3.cell 0, hn3.cell 1, hn3.cell 2⟩
                        have g3 := hq3.frozen 127
                        have HC9 := Lib.hid (HCd.out.grow ⟨xi, xj, xc⟩ hown hgrow)
                        clear hown hgrow hat hq3 hn3
                        refine hK.out _ _ (fun _ => cv3) ?_
                        clear hK K
                        refine wpAnyL_one (i := 8) (by kernel_rfl) rfl (fun K hK => ?_)
                        go_simp
                        refine hK.out _ _ (fun _ => cv3) ?_
                        clear hK K
                        refine wpAnyL_one (i := 9) (by kernel_rfl) rfl (fun K hK => ?_)
                        go_simp
                        refine hK.out _ _ (fun _ => cv3) ?_
                        clear hK K
                        refine wpAnyL_one (i := 10) (by kernel_rfl) rfl (fun K hK => ?_)
                        obtain ⟨cq3, _⟩ := cv3
                        go_simp
                        refine hK.out _ _ (fun h => absurd rfl h) ?_
                        clear hK K
                        refine wpAnyL_done (by kernel_rfl) ?_ _
                        have hll : (l ++ [(⟨xi, xj, xc⟩ : C3)]).length = l.length + 1 := by simp
                        clear cv cq3
                        go_wp2
                        go_roundw
                        all_goals first
                          | exact ⟨l.length + 1, l ++ [⟨xi, xj, xc⟩], _, _, by omega, hll, by go_num, (by first | exact e1 _ | exact e1 ()), HC9⟩
                          | ((repeat apply Exists.intro); exact ⟨⟨l.length + 1, l ++ [⟨xi, xj, xc⟩], _, _, by omega, hll, by go_num, (by first | exact e1 _ | exact e1 ()), HC9⟩, rfl⟩)
                          | (simp [intOf]; omega)
        · obtain rfl : l.length = n := by omega
          have e1 : Hid (R = stp (.ok m) fun m => .ok (l, m)) := by show _ = _; rw [HE.out, Nat.sub_self]; rfl
          clear HE
          go_wp2
          go_end0
          exact ⟨rfl, _, _, _, HC.out, e1.out⟩
end Go.Proofs.Ytfdjdpbiccclfaa
namespace Go.Proofs.Ytfdjdpbiccclfaa
open Go Go.RowKit Go.Wr
set_option maxHeartbeats 4000000
set_option maxRecDepth 100000
theorem pClB_cn (f : Nat → Tg) : pClB f = pMap (fun l => ⟨false, f, l⟩) pCnB := (pMap_bind _ _ _).symm
theorem pClS_sl (f : Nat → Tg) : pClS f = pBind (pSlB f) pClB := (pBind_assoc _ _ _).symm
structure CG (B p q : Nat) (b : List Nat) (vb : Value) (w : World) (s : Except (Nat × Int) Nat) (f : Nat → Tg) (wr : World) : Prop where
  cu : Cu B p b s wr vb
  ex : Ex p w wr
  zb : Blk wr w.heap.size 61 (bx (.bool false) f0 (.slice none 0 0))
  qb : Blk wr q 61 (bx (.bool false) f (.slice none 0 0))
section
variable {B p q : Nat} {b : List Nat} {vb : Value} {w : World} {s s' : Except (Nat × Int) Nat} {f : Nat → Tg} {wr w' : World}
theorem CG.next (h : CG B p q b vb w s f wr) (hx : Ex p wr w') (hd : Cu B p b s' w' vb) (h1 : w.heap.size ≠ p) (h2 : q ≠ p) : CG B p q b vb w s' f w' :=
  ⟨hd, h.ex.trans hx, hx.blk h.zb h1, hx.blk h.qb h2⟩
theorem CG.tag (h : CG B p q b vb w s f wr) (h1 : w.heap.size < q) (h2 : q ≠ p) (h3 : B ≤ q) {k : Nat} (hk : k < 42) (t : Tg) {o : Nat} (ho : o = 1 + k * 3) :
    CG B p q b vb w s (putT f k t) (((wr.setCell ⟨q, o, none⟩ (.int .i64 t.k)).setCell ⟨q, o + 1, none⟩ (.int .i64 t.t)).setCell ⟨q, o + 2, none⟩ (.int .i64 t.m)) :=
  ⟨((h.cu.set_other _ h2 h3).set_other _ h2 h3).set_other _ h2 h3, ((h.ex.set_new _ (by omega)).set_new _ (by omega)).set_new _ (by omega),
    ((h.zb.set_other q _ _ (by omega)).set_other q _ _ (by omega)).set_other q _ _ (by omega), (((h.qb.set o _).set (o + 1) _).set (o + 2) _).eq (bx_put _ _ _ hk t ho)⟩
end
theorem CuL.only {B p a g : Nat} {b : List Nat} {w w' : World} {vb : Value} (h : CuL B p b a w vb) (ho : Only g w w') (hg : g ≠ p) (hB : B ≤ g) : CuL B p b a w' vb :=
  ⟨ho.blk h.blk (Ne.symm hg), h.by'.below (ho.below hB), h.hp, h.at', h.len⟩
theorem CuD.only {B p y g : Nat} {er : Int} {b : List Nat} {w w' : World} {vb : Value} (h : CuD B p b y er w vb) (ho : Only g w w') (hg : g ≠ p) (hB : B ≤ g) : CuD B p b y er w' vb :=
  ⟨by obtain ⟨a, hk⟩ := h.blk; exact ⟨a, ho.blk hk (Ne.symm hg)⟩, h.by'.below (ho.below hB), h.hp, h.er', h.len⟩
theorem pClaim_far {b : List Nat} {a k m : Nat} (h : pByte b a = .ok (k, m)) (hk : 1 < k) : pClaim b a = .error (a, 110) :=
  pBind_err.2 (Or.inl (pChk_err.2 (Or.inr ⟨rfl, k, m, h, by simp; omega⟩)))
theorem pClaim_near {b : List Nat} {a k m : Nat} (h : pByte b a = .ok (k, m)) (hk : k ≤ 1) : pClaim b a = (if k = 0 then pPure ⟨true, f0, []⟩ else pBind (pRegs 10 0 f0) pClS) b m := by
  have hb : pBnd 1 110 b a = .ok (k, m) := pChk_ok.2 ⟨h, by simpa using hk⟩
  rw [pClaim_eq]
  exact pBind_at hb
theorem cclaim_ok (w : World) (B p a : Nat) (b : List Nat) (vb : Value) (h : CuL B p b a w vb) :
    Calls Try.prog 43 #[.pointer (some ⟨p, 0, none⟩)] w (RC B p b vb (pClaim b a) (isCl w.heap.size) w) := by
  have H := Lib.hid h
  have hpl := h.lt
  have hBp := h.hp
  obtain ⟨R, hR⟩ : ∃ R, R = pClaim b a := ⟨_, rfl⟩
  rw [← hR]
  have HR := Lib.hid hR
  have hz := zeroClaim
  clear h hR
  go_enter Try.func43, Try.ntmps43
  go_upto_region 2 with (fail)
  generalize hW : (w.alloc (.cells (bx (.bool false) f0 (.slice none 0 0)) 61)).alloc (.cells (bx (.bool false) f0 (.slice none 0 0)) 61) = W
  obtain ⟨q, hq⟩ : ∃ q, q = w.heap.size + 1 := ⟨_, rfl⟩
  have g0 : CG B p q b vb w (.ok a) f0 W := by
    rw [← hW]
    exact ⟨(H.out.alloc _).alloc _, ((Ex.refl p w).alloc _).alloc _, (Blk.new _ _ _).alloc _, Blk.new_at _ _ (by rw [hq]; simp)⟩
  rw [← hq]
  have hzp : w.heap.size ≠ p := by omega
  have hzq : w.heap.size < q := by omega
  have hqp : q ≠ p := by omega
  have hqB : B ≤ q := by omega
  have c1 : W.cell? ⟨p, 1, none⟩ = some (.int .i64 (a : Int)) := CuL.cell1 g0.cu
  have G0 := Lib.hid g0
  clear hW hq g0 H
  go_wp2_with fail
  refine (cbyte_ok0 _ B p a b vb G0.out.cu).mono ?_
  rintro e w1 hr
  cases hb : pByte b a with
  | error v =>
    obtain ⟨y, er⟩ := v
    obtain ⟨rfl, hd, hx⟩ := hr.err hb
    have e1 : Hid (R = .error (y, er)) := by show _ = _; rw [HR.out]; exact pBind_no (pChk_err.2 (Or.inl hb))
    have HG := Lib.hid (G0.out.next (s' := .error (y, er)) hx hd hzp hqp)
    have HQB := Lib.hid HG.out.qb
    have HZB := Lib.hid HG.out.zb
    have hv1 : (Value.slice none 0 0).oneCell' = true := rfl
    have c3 := hd.cell3
    have hne := hd.ne
    have hne' := hd.ne'
    clear hr hb hd hx G0 HR c1 hz
    go_wp2_with (first
      | (refine wpl_load rfl 61 (.tmp 3) rfl q 0 rfl HQB.out rowClaim (by rw [bx_size]; omega) (bx_all _ _ _) ?_)
      | (refine wpl_store rfl 61 (.tmp 2) (.tmp 48) rfl w.heap.size 0 rfl rfl HZB.out rowClaim (bx_size _ _ _) (of_decide_eq_true (by kernel_rfl)) (bx_one _ rfl hv1) ?_; intro wn hO hN)
      | (refine wpl_store rfl 61 (.tmp 2) (.tmp 30) rfl w.heap.size 0 rfl rfl HZB.out rowClaim (bx_size _ _ _) (of_decide_eq_true (by kernel_rfl)) (bx_one _ rfl hv1) ?_; intro wn hO hN)
      | (refine wpl_store rfl 61 (.tmp 2) (.tmp 34) rfl w.heap.size 0 rfl rfl HZB.out rowClaim (bx_size _ _ _) (of_decide_eq_true (by kernel_rfl)) (bx_one _ rfl hv1) ?_; intro wn hO hN))
    rw [spl_all _ _ (by simp only [bx_size])] at hN
    refine ret_cell rfl rfl hN (by rw [bx_size]; exact rowClaim) rfl ?_
    exact RC.mk_err e1.out (x := ⟨false, f0, []⟩) ⟨_, rfl, OwC.nil _ _⟩ (CuD.only HG.out.cu hO (by omega) (by omega)) (HG.out.ex.only hO (Nat.le_refl _))
  | ok v =>
    obtain ⟨live, m⟩ := v
    obtain ⟨rfl, hd, hx⟩ := hr.ok hb
    have HG := Lib.hid (G0.out.next (s' := .ok m) hx hd hzp hqp)
    have HB := Lib.hid hb
    have c3 := hd.cell3
    clear hr hb hd hx G0 c1
    by_cases hl1 : 1 < live
    · have hl1' : (1 : Int) < (live : Int) := by omega
      have e1 : Hid (R = .error (a, 110)) := by show _ = _; rw [HR.out]; exact pClaim_far HB.out hl1
      clear HR HB
      go_wp2_with fail
      refine (cfault_ok _ B p _ b vb HG.out.cu a 110 (by decide)).mono ?_
      rintro e w2 ⟨rfl, hd, hx⟩
      have HG := Lib.hid (HG.out.next (s' := .error (a, 110)) hx hd hzp hqp)
      have HQB := Lib.hid HG.out.qb
      have HZB := Lib.hid HG.out.zb
      have hv1 : (Value.slice none 0 0).oneCell' = true := rfl
      have c3 := hd.cell3
      clear hd hx hz
      go_wp2_with (first
        | (refine wpl_load rfl 61 (.tmp 3) rfl q 0 rfl HQB.out rowClaim (by rw [bx_size]; omega) (bx_all _ _ _) ?_)
        | (refine wpl_store rfl 61 (.tmp 2) (.tmp 48) rfl w.heap.size 0 rfl rfl HZB.out rowClaim (bx_size _ _ _) (of_decide_eq_true (by kernel_rfl)) (bx_one _ rfl hv1) ?_; intro wn hO hN)
        | (refine wpl_store rfl 61 (.tmp 2) (.tmp 30) rfl w.heap.size 0 rfl rfl HZB.out rowClaim (bx_size _ _ _) (of_decide_eq_true (by kernel_rfl)) (bx_one _ rfl hv1) ?_; intro wn hO hN)
        | (refine wpl_store rfl 61 (.tmp 2) (.tmp 34) rfl w.heap.size 0 rfl rfl HZB.out rowClaim (bx_size _ _ _) (of_decide_eq_true (by kernel_rfl)) (bx_one _ rfl hv1) ?_; intro wn hO hN))
      rw [spl_all _ _ (by simp only [bx_size])] at hN
      refine ret_cell rfl rfl hN (by rw [bx_size]; exact rowClaim) rfl ?_
      exact RC.mk_err e1.out (x := ⟨false, f0, []⟩) ⟨_, rfl, OwC.nil _ _⟩ (CuD.only HG.out.cu hO (by omega) (by omega)) (HG.out.ex.only hO (Nat.le_refl _))
    · have hl1' : ¬ (1 : Int) < (live : Int) := by omega
      have HR2 : Hid (R = (if live = 0 then pPure ⟨true, f0, []⟩ else pBind (pRegs 10 0 f0) pClS) b m) := by show _ = _; rw [HR.out]; exact pClaim_near HB.out (by omega)
      clear HR HB
      by_cases hl : live = 0
      · subst hl
        have e1 : Hid (R = .ok (⟨true, f0, []⟩, m)) := HR2.out
        have c0 := (HG.out.qb.cell 0).trans (bx_zero _ _ _)
        have fz := HG.out.qb.frozen 0
        have hql := HG.out.qb.lt
        clear HR2 hl1 hl1'
        go_upto_region 10 with (fail)
        generalize hV : w1.setCell _ _ = V
        have HQB := Lib.hid ((HG.out.qb.set 0 (.bool true)).eq bx_dead)
        have HZB := Lib.hid (HG.out.zb.set_other q 0 (.bool true) (by omega))
        have HC := Lib.hid (CuL.set_other (show CuL _ _ _ _ _ _ from HG.out.cu) (q := q) (i := 0) (.bool true) hqp hqB)
        have HX := Lib.hid (HG.out.ex.set_new (q := q) (i := 0) (.bool true) (by omega))
        rw [hV] at HQB HZB HC HX
        have hv1 : (Value.slice none 0 0).oneCell' = true := rfl
        clear hV HG c0 fz c3 hz
        go_wp2_with (first
          | (refine wpl_load rfl 61 (.tmp 3) rfl q 0 rfl HQB.out rowClaim (by rw [bx_size]; omega) (bx_all _ _ _) ?_)
          | (refine wpl_store rfl 61 (.tmp 2) (.tmp 48) rfl w.heap.size 0 rfl rfl HZB.out rowClaim (bx_size _ _ _) (of_decide_eq_true (by kernel_rfl)) (bx_one _ rfl hv1) ?_; intro wn hO hN)
          | (refine wpl_store rfl 61 (.tmp 2) (.tmp 30) rfl w.heap.size 0 rfl rfl HZB.out rowClaim (bx_size _ _ _) (of_decide_eq_true (by kernel_rfl)) (bx_one _ rfl hv1) ?_; intro wn hO hN)
          | (refine wpl_store rfl 61 (.tmp 2) (.tmp 34) rfl w.heap.size 0 rfl rfl HZB.out rowClaim (bx_size _ _ _) (of_decide_eq_true (by kernel_rfl)) (bx_one _ rfl hv1) ?_; intro wn hO hN))
        rw [spl_all _ _ (by simp only [bx_size])] at hN
        refine ret_cell rfl rfl hN (by rw [bx_size]; exact rowClaim) rfl ?_
        exact RC.mk_ok e1.out ⟨_, rfl, OwC.nil _ _⟩ (HC.out.only hO (by omega) (by omega)) (HX.out.only hO (Nat.le_refl _))
      · have hl2 : ((live : Int) == 0) = false := by rw [beq_eq_false_iff_ne]; omega
        have HR3 : Hid (R = stp (.ok m) fun m => pBind (pRegs (10 - 0) 0 f0) pClS b m) := by show _ = _; rw [HR2.out, if_neg hl]; rfl
        clear HR2 hl hl1
        go_wp2
        go_loopw [6] (fun t wr => ∃ (k : Nat) (f : Nat → Tg) (s : Except (Nat × Int) Nat), k ≤ 10 ∧ t = .int .i64 (k : Int) ∧ Hid (R = stp s fun m => pBind (pRegs (10 - k) k f) pClS b m) ∧ Hid (CG B p q b vb w s f wr)) (fun t _ => 10 - (intOf t).toNat)
        case atStart => exact ⟨0, f0, .ok m, by omega, rfl, HR3, HG⟩
        case round =>
          clear HR3 HG c3
          obtain ⟨k, f, s, hk, rfl, HE, HG⟩ := hrel
          by_cases hlt : k < 10
          · have hlt' : (k : Int) < 10 := by omega
            cases s with
            | error v =>
              obtain ⟨y, er⟩ := v
              go_wp2_with fail
              refine (ctag_dead wr B p y er b vb HG.out.cu false).mono ?_
              rintro e w2 hr
              obtain ⟨t, v, rfl, rfl, hd, hx⟩ := hr.err rfl
              have HE3 : Hid (R = stp (.error (y, er)) fun m => pBind (pRegs (10 - (k + 1)) (k + 1) (putT f k t)) pClS b m) := HE
              have HG2 := Lib.hid (HG.out.next (s' := .error (y, er)) hx hd hzp hqp)
              obtain ⟨b0, b1, b2⟩ := bx_tag (.bool false) f (.slice none 0 0) (show k < 42 by omega)
              have c0 := (HG2.out.qb.cell (1 + k * 3)).trans b0
              have c1 := (HG2.out.qb.cell (1 + k * 3 + 1)).trans b1
              have c2 := (HG2.out.qb.cell (1 + k * 3 + 2)).trans b2
              have g0 := HG2.out.qb.frozen (1 + k * 3)
              have g1 := HG2.out.qb.frozen (1 + k * 3 + 1)
              have g2 := HG2.out.qb.frozen (1 + k * 3 + 2)
              clear hr hd hx HE HG b0 b1 b2
              unfold tgv
              go_wp2
              go_roundw
              all_goals first
                | exact ⟨k + 1, putT f k t, _, by omega, by go_num, HE3, HG2.out.tag hzq hqp hqB (by omega) t (by omega)⟩
                | ((repeat apply Exists.intro); exact ⟨⟨k + 1, putT f k t, _, by omega, by go_num, HE3, HG2.out.tag hzq hqp hqB (by omega) t (by omega)⟩, rfl⟩)
                | (simp [intOf]; omega)
            | ok m =>
              go_wp2_with fail
              refine (ctag_ok wr B p m b vb HG.out.cu false).mono ?_
              rintro e w2 hr
              have HE2 : Hid (R = (pBind (pTag false) fun t => pBind (pRegs (9 - k) (k + 1) (putT f k t)) pClS) b m) := by
                show _ = _
                rw [HE.out, show 10 - k = (9 - k) + 1 by omega]
                show pBind (pRegs ((9 - k) + 1) k f) pClS b m = _
                rw [pRegs_succ]
              cases hb : pTag false b m with
              | error v =>
                obtain ⟨y, er⟩ := v
                obtain ⟨t, v, rfl, rfl, hd, hx⟩ := hr.err hb
                have HE3 : Hid (R = stp (.error (y, er)) fun m => pBind (pRegs (10 - (k + 1)) (k + 1) (putT f k t)) pClS b m) := by show _ = _; rw [HE2.out]; exact pBind_no hb
                have HG2 := Lib.hid (HG.out.next (s' := .error (y, er)) hx hd hzp hqp)
                clear HE2 hb
                obtain ⟨b0, b1, b2⟩ := bx_tag (.bool false) f (.slice none 0 0) (show k < 42 by omega)
                have c0 := (HG2.out.qb.cell (1 + k * 3)).trans b0
                have c1 := (HG2.out.qb.cell (1 + k * 3 + 1)).trans b1
                have c2 := (HG2.out.qb.cell (1 + k * 3 + 2)).trans b2
                have g0 := HG2.out.qb.frozen (1 + k * 3)
                have g1 := HG2.out.qb.frozen (1 + k * 3 + 1)
                have g2 := HG2.out.qb.frozen (1 + k * 3 + 2)
                clear hr hd hx HE HG b0 b1 b2
                unfold tgv
                go_wp2
                go_roundw
                all_goals first
                  | exact ⟨k + 1, putT f k t, _, by omega, by go_num, HE3, HG2.out.tag hzq hqp hqB (by omega) t (by omega)⟩
                  | ((repeat apply Exists.intro); exact ⟨⟨k + 1, putT f k t, _, by omega, by go_num, HE3, HG2.out.tag hzq hqp hqB (by omega) t (by omega)⟩, rfl⟩)
                  | (simp [intOf]; omega)
              | ok v =>
                obtain ⟨t, m2⟩ := v
                obtain ⟨v, rfl, rfl, hd, hx⟩ := hr.ok hb
                have HE3 : Hid (R = stp (.ok m2) fun m => pBind (pRegs (10 - (k + 1)) (k + 1) (putT f k t)) pClS b m) := by show _ = _; rw [HE2.out, show 10 - (k + 1) = 9 - k by omega]; exact pBind_at hb
                have HG2 := Lib.hid (HG.out.next (s' := .ok m2) hx hd hzp hqp)
                clear HE2 hb
                obtain ⟨b0, b1, b2⟩ := bx_tag (.bool false) f (.slice none 0 0) (show k < 42 by omega)
                have c0 := (HG2.out.qb.cell (1 + k * 3)).trans b0
                have c1 := (HG2.out.qb.cell (1 + k * 3 + 1)).trans b1
                have c2 := (HG2.out.qb.cell (1 + k * 3 + 2)).trans b2
                have g0 := HG2.out.qb.frozen (1 + k * 3)
                have g1 := HG2.out.qb.frozen (1 + k * 3 + 1)
                have g2 := HG2.out.qb.frozen (1 + k * 3 + 2)
                clear hr hd hx HE HG b0 b1 b2
                unfold tgv
                go_wp2
                go_roundw
                all_goals first
                  | exact ⟨k + 1, putT f k t, _, by omega, by go_num, HE3, HG2.out.tag hzq hqp hqB (by omega) t (by omega)⟩
                  | ((repeat apply Exists.intro); exact ⟨⟨k + 1, putT f k t, _, by omega, by go_num, HE3, HG2.out.tag hzq hqp hqB (by omega) t (by omega)⟩, rfl⟩)
                  | (simp [intOf]; omega)
          · obtain rfl : k = 10 := by omega
            have HE2 : Hid (R = stp s fun m => pBind (pSlB f) pClB b m) := by show _ = _; rw [HE.out, ← pClS_sl]; rfl
            clear HE hlt hk hz
            go_wp2_with fail
            have hsl : Calls Try.prog 62 #[.pointer (some ⟨p, 0, none⟩), .pointer (some ⟨q, 0, none⟩)] wr (CQP B p q b vb (stp s fun m => pSlB f b m) (.slice none 0 0) wr) := by
              cases s with
              | error v => exact cslots_dead wr B p q v.1 v.2 b vb HG.out.cu f _ HG.out.qb hqp
              | ok m => exact cslots_ok wr B p q m b vb HG.out.cu f _ HG.out.qb hqp hqB
            refine hsl.mono ?_
            clear hsl
            rintro e w2 ⟨rfl, s2, f2, hc, he2⟩
            have HE3 : Hid (R = stp s2 fun m => pMap (fun l => ⟨false, f2, l⟩) pCnB b m) := by
              show _ = _
              rw [HE2.out]
              cases s with
              | error v =>
                cases s2 with
                | error v2 => have h : (Except.error v : Except (Nat × Int) ((Nat → Tg) × Nat)) = .error v2 := he2; injection h with h; rw [h]; rfl
                | ok m2 => cases (show (Except.error v : Except (Nat × Int) ((Nat → Tg) × Nat)) = .ok _ from he2)
              | ok m =>
                have he2 : pSlB f b m = _ := he2
                cases s2 with
                | error v2 => exact pBind_no he2
                | ok m2 => exact (pBind_at he2).trans (by rw [pClB_cn]; rfl)
            have hx := Ex2.ex HG.out.ex hc.ex (by omega)
            have hzb := hc.ex.blk HG.out.zb hzp (by omega)
            have HC := Lib.hid hc
            have HX := Lib.hid hx
            have HZ := Lib.hid hzb
            clear hc he2 HE2 HG hx hzb
            go_wp2_with fail
            have hcn : Calls Try.prog 63 #[.pointer (some ⟨p, 0, none⟩), .pointer (some ⟨q, 0, none⟩)] w2 (CKP B p q b vb (stp s2 fun m => pCnB b m) f2 w2) := by
              cases s2 with
              | error v => exact ccons_dead w2 B p q v.1 v.2 b vb HC.out.cu f2 HC.out.qb hqp hqB
              | ok m => exact ccons_ok w2 B p q m b vb HC.out.cu f2 HC.out.qb hqp hqB
            refine hcn.mono ?_
            clear hcn
            rintro e w3 ⟨rfl, s3, vc, l, hk, he3⟩
            have HE4 : Hid (R = stp s3 fun m => .ok (⟨false, f2, l⟩, m)) := by
              show _ = _
              rw [HE3.out]
              cases s2 with
              | error v =>
                cases s3 with
                | error v2 => have h : (Except.error v : Except (Nat × Int) (List C3 × Nat)) = .error v2 := he3; injection h with h; rw [h]; rfl
                | ok m2 => cases (show (Except.error v : Except (Nat × Int) (List C3 × Nat)) = .ok _ from he3)
              | ok m =>
                have he3 : pCnB b m = _ := he3
                cases s3 with
                | error v2 => exact pMap_err.2 he3
                | ok m2 => exact pMap_ok.2 ⟨l, he3, rfl⟩
            have hx2 := Ex2.ex HX.out hk.ex (by omega)
            have HZB := Lib.hid (hk.ex.blk HZ.out hzp (by omega))
            have HQB := Lib.hid hk.qb
            have HK := Lib.hid hk
            have HX2 := Lib.hid hx2
            have hw2 := HX.out.size
            have hv1 : vc.oneCell' = true := by obtain ⟨a0, cap, e, _⟩ := hk.ow.cells; rw [e]; rfl
            clear hk he3 HE3 HC HX HZ hx2
            go_wp2_with (first
              | (refine wpl_load rfl 61 (.tmp 3) rfl q 0 rfl HQB.out rowClaim (by rw [bx_size]; omega) (bx_all _ _ _) ?_)
              | (refine wpl_store rfl 61 (.tmp 2) (.tmp 48) rfl w.heap.size 0 rfl rfl HZB.out rowClaim (bx_size _ _ _) (of_decide_eq_true (by kernel_rfl)) (bx_one _ rfl hv1) ?_; intro wn hO hN)
              | (refine wpl_store rfl 61 (.tmp 2) (.tmp 30) rfl w.heap.size 0 rfl rfl HZB.out rowClaim (bx_size _ _ _) (of_decide_eq_true (by kernel_rfl)) (bx_one _ rfl hv1) ?_; intro wn hO hN)
              | (refine wpl_store rfl 61 (.tmp 2) (.tmp 34) rfl w.heap.size 0 rfl rfl HZB.out rowClaim (bx_size _ _ _) (of_decide_eq_true (by kernel_rfl)) (bx_one _ rfl hv1) ?_; intro wn hO hN))
            rw [spl_all _ _ (by simp only [bx_size])] at hN
            refine ret_cell rfl rfl hN (by rw [bx_size]; exact rowClaim) rfl ?_
            have how : isCl w.heap.size ⟨false, f2, l⟩ (.agg (bx (.bool false) f2 vc)) wn := ⟨_, rfl, (HK.out.ow.mono hw2).of_block fun g _ hg => hO.block g (blk_ne hg HZB.out (by decide))⟩
            cases s3 with
            | error v =>
              obtain ⟨y, er⟩ := v
              exact RC.mk_err HE4.out how (CuD.only HK.out.cu hO (by omega) (by omega)) (HX2.out.only hO (Nat.le_refl _))
            | ok m => exact RC.mk_ok HE4.out how (CuL.only HK.out.cu hO (by omega) (by omega)) (HX2.out.only hO (Nat.le_refl _))
end Go.Proofs.Ytfdjdpbiccclfaa
