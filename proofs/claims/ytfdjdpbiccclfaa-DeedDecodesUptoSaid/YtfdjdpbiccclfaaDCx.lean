/- The document's cursor: a claim's slots. -/
import Derived.Test.YtfdjdpbiccclfaaDCw
import Derived.Test.YtfdjdpbiccclfaaDRm
namespace Go.Proofs.Ytfdjdpbiccclfaa
open Go Go.RowKit Go.Wr
set_option maxHeartbeats 4000000
set_option maxRecDepth 100000

/-- Of what was there only blocks p and q may be other ones. -/
structure Ex2 (p q : Nat) (w w' : World) : Prop where
  os : w'.os = w.os
  tape : w'.tape = w.tape
  output : w'.output = w.output
  size : w.heap.size ≤ w'.heap.size
  block : ∀ k, k < w.heap.size → k ≠ p → k ≠ q → w'.heap[k]? = w.heap[k]?
theorem Ex2.refl (p q : Nat) (w : World) : Ex2 p q w w := ⟨rfl, rfl, rfl, Nat.le_refl _, fun _ _ _ _ => rfl⟩
theorem Ex2.trans {p q : Nat} {a b c : World} (h : Ex2 p q a b) (k : Ex2 p q b c) : Ex2 p q a c :=
  ⟨k.os.trans h.os, k.tape.trans h.tape, k.output.trans h.output, Nat.le_trans h.size k.size, fun i hi h1 h2 => (k.block i (Nat.lt_of_lt_of_le hi h.size) h1 h2).trans (h.block i hi h1 h2)⟩
theorem Ex2.of_ex {p q : Nat} {w w' : World} (h : Ex p w w') : Ex2 p q w w' := ⟨h.os, h.tape, h.output, h.size, fun k hk h1 _ => h.block k hk h1⟩
theorem Ex2.ex {p q : Nat} {w w' w'' : World} (h : Ex p w w') (k : Ex2 p q w' w'') (hq : w.heap.size ≤ q) : Ex p w w'' :=
  ⟨k.os.trans h.os, k.tape.trans h.tape, k.output.trans h.output, Nat.le_trans h.size k.size, fun i hi h1 => (k.block i (Nat.lt_of_lt_of_le hi h.size) h1 (by omega)).trans (h.block i hi h1)⟩
theorem Ex2.blk {p q b : Nat} {w w' : World} {T : TypeId} {C : Array Value} (h : Ex2 p q w w') (hb : Blk w b T C) (h1 : b ≠ p) (h2 : b ≠ q) : Blk w' b T C := hb.of_block (h.block b hb.lt h1 h2)
theorem Ex2.set {p q : Nat} {w w' : World} (h : Ex2 p q w w') (i : Nat) (v : Value) : Ex2 p q w (w'.setCell ⟨q, i, none⟩ v) := by
  have hb := (Below.refl 0 w').setCell (p := ⟨q, i, none⟩) (Nat.zero_le _) v
  exact ⟨hb.os.trans h.os, hb.tape.trans h.tape, hb.output.trans h.output, Nat.le_trans h.size hb.size, fun k hk h1 h2 => (Below.heap_setCell w' ⟨q, i, none⟩ v k h2).trans (h.block k hk h1 h2)⟩
theorem Ex2.drew {p q : Nat} {w w' : World} (h : Ex2 p q w w') : Ex2 p q w w'.drew := ⟨h.os, h.tape, h.output, h.size, h.block⟩
theorem Ex2.drewN {p q : Nat} {w w' : World} (h : Ex2 p q w w') (n : Nat) : Ex2 p q w (w'.drewN n) := ⟨h.os, h.tape, h.output, h.size, h.block⟩
theorem Ex2.alloc {p q : Nat} {w w' : World} (h : Ex2 p q w w') (o : Obj) : Ex2 p q w (w'.alloc o) := h.trans (Ex2.of_ex (Ex.of_below (bAl (bRefl w') o)))

/-- A cursor in either state. -/
def Cu (B p : Nat) (b : List Nat) (s : Except (Nat × Int) Nat) (w : World) (vb : Value) : Prop :=
  match s with | .ok m => CuL B p b m w vb | .error (y, er) => CuD B p b y er w vb
theorem Cu.set_other {B p : Nat} {b : List Nat} {s : Except (Nat × Int) Nat} {w : World} {vb : Value} (h : Cu B p b s w vb) {q i : Nat} (v : Value) (hq : q ≠ p) (hB : B ≤ q) : Cu B p b s (w.setCell ⟨q, i, none⟩ v) vb := by
  cases s with
  | ok m => exact CuL.set_other h v hq hB
  | error e => exact CuD.set_other h v hq hB
theorem Cu.alloc {B p : Nat} {b : List Nat} {s : Except (Nat × Int) Nat} {w : World} {vb : Value} (h : Cu B p b s w vb) (o : Obj) : Cu B p b s (w.alloc o) vb := by
  cases s with
  | ok m => exact CuL.alloc h o
  | error e => exact CuD.alloc h o
theorem Cu.drewN {B p : Nat} {b : List Nat} {s : Except (Nat × Int) Nat} {w : World} {vb : Value} (h : Cu B p b s w vb) (n : Nat) : Cu B p b s (w.drewN n) vb := by
  cases s with
  | ok m => exact CuL.drewN h n
  | error e => exact CuD.drewN h n
/-- Go on from a state. -/
def stp {α : Type} (s : Except (Nat × Int) Nat) (g : Nat → Except (Nat × Int) (α × Nat)) : Except (Nat × Int) (α × Nat) := match s with | .ok m => g m | .error e => .error e

/-- Where reading into a claim at q stands. -/
structure CQ (B p q : Nat) (b : List Nat) (vb : Value) (w : World) (s : Except (Nat × Int) Nat) (f : Nat → Tg) (vc : Value) (wr : World) : Prop where
  cu : Cu B p b s wr vb
  ex : Ex2 p q w wr
  qb : Blk wr q 61 (bx (.bool false) f vc)
theorem CQ.next {B p q : Nat} {b : List Nat} {vb : Value} {w : World} {s s' : Except (Nat × Int) Nat} {f : Nat → Tg} {vc : Value} {wr w' : World} (h : CQ B p q b vb w s f vc wr) (hx : Ex p wr w') (hd : Cu B p b s' w' vb) (h2 : q ≠ p) : CQ B p q b vb w s' f vc w' :=
  ⟨hd, h.ex.trans (Ex2.of_ex hx), hx.blk h.qb h2⟩
theorem CQ.alloc {B p q : Nat} {b : List Nat} {vb : Value} {w : World} {s : Except (Nat × Int) Nat} {f : Nat → Tg} {vc : Value} {wr : World} (h : CQ B p q b vb w s f vc wr) (o : Obj) : CQ B p q b vb w s f vc (wr.alloc o) :=
  ⟨h.cu.alloc o, h.ex.alloc o, h.qb.alloc o⟩
theorem CQ.drewN {B p q : Nat} {b : List Nat} {vb : Value} {w : World} {s : Except (Nat × Int) Nat} {f : Nat → Tg} {vc : Value} {wr : World} (h : CQ B p q b vb w s f vc wr) (n : Nat) : CQ B p q b vb w s f vc (wr.drewN n) :=
  ⟨h.cu.drewN n, h.ex.drewN n, h.qb.drewN n⟩
theorem CQ.drew {B p q : Nat} {b : List Nat} {vb : Value} {w : World} {s : Except (Nat × Int) Nat} {f : Nat → Tg} {vc : Value} {wr : World} (h : CQ B p q b vb w s f vc wr) : CQ B p q b vb w s f vc wr.drew := h.drewN 1
theorem CQ.tag {B p q : Nat} {b : List Nat} {vb : Value} {w : World} {s : Except (Nat × Int) Nat} {f : Nat → Tg} {vc : Value} {wr : World} (h : CQ B p q b vb w s f vc wr) (h2 : q ≠ p) (h3 : B ≤ q) {k : Nat} (hk : k < 42) (t : Tg) {o : Nat} (ho : o = 1 + k * 3) :
    CQ B p q b vb w s (putT f k t) vc (((wr.setCell ⟨q, o, none⟩ (.int .i64 t.k)).setCell ⟨q, o + 1, none⟩ (.int .i64 t.t)).setCell ⟨q, o + 2, none⟩ (.int .i64 t.m)) :=
  ⟨((h.cu.set_other _ h2 h3).set_other _ h2 h3).set_other _ h2 h3, ((h.ex.set _ _).set _ _).set _ _, (((h.qb.set o _).set (o + 1) _).set (o + 2) _).eq (bx_put _ _ _ hk t ho)⟩
/-- What a function that reads into a claim leaves. -/
def CQP (B p q : Nat) (b : List Nat) (vb : Value) (r : Except (Nat × Int) ((Nat → Tg) × Nat)) (vc : Value) (w : World) (e : Ending) (w' : World) : Prop :=
  e = .returned (.tuple #[]) ∧ ∃ s f, CQ B p q b vb w s f vc w' ∧ r = stp s (fun m => .ok (f, m))

theorem cslots_dead (w : World) (B p q y : Nat) (er : Int) (b : List Nat) (vb : Value) (h : CuD B p b y er w vb) (f : Nat → Tg) (vc : Value) (hq : Blk w q 61 (bx (.bool false) f vc)) (hqp : q ≠ p) :
    Calls Try.prog 62 #[.pointer (some ⟨p, 0, none⟩), .pointer (some ⟨q, 0, none⟩)] w (CQP B p q b vb (.error (y, er)) vc w) := by
  have H := Lib.hid h
  have HQ := Lib.hid hq
  clear h hq
  go_enter Try.func62, Try.ntmps62
  go_wp2_with fail
  refine (cmost_dead w B p y er b vb H.out 32 112).mono ?_
  rintro e w1 hr
  obtain ⟨n, v, rfl, rfl, hd1, hx1⟩ := hr.err rfl
  have HC : Hid (CQ B p q b vb w (.error (y, er)) f vc w1) := ⟨hd1, Ex2.of_ex hx1, hx1.blk HQ.out hqp⟩
  have c3 := hd1.cell3
  have hne := hd1.ne'
  clear hr hd1 hx1 H HQ
  go_wp2
  go_loopw [6] (fun t wr => t = .int .i64 0 ∧ wr = w1) (fun _ _ => 0)
  case atStart => exact ⟨rfl, rfl⟩
  case round =>
    obtain ⟨rfl, rfl⟩ := hrel
    by_cases hn : 0 < n
    · have hn' : (0 : Int) < (n : Int) := by omega
      go_wp2
      go_end0
      exact ⟨rfl, _, f, HC.out, rfl⟩
    · have hn' : ¬ (0 : Int) < (n : Int) := by omega
      go_wp2
      go_end0
      exact ⟨rfl, _, f, HC.out, rfl⟩
def pSlB (f : Nat → Tg) : Ps (Nat → Tg) := pBind (pMost 32 112) fun n => pSlots n (-1) f
theorem cslots_ok (w : World) (B p q a : Nat) (b : List Nat) (vb : Value) (h : CuL B p b a w vb) (f : Nat → Tg) (vc : Value) (hq : Blk w q 61 (bx (.bool false) f vc)) (hqp : q ≠ p) (hBq : B ≤ q) :
    Calls Try.prog 62 #[.pointer (some ⟨p, 0, none⟩), .pointer (some ⟨q, 0, none⟩)] w (CQP B p q b vb (pSlB f b a) vc w) := by
  have H := Lib.hid h
  have HQ := Lib.hid hq
  obtain ⟨R, hR⟩ : ∃ R, R = pSlB f b a := ⟨_, rfl⟩
  rw [← hR]
  have HR := Lib.hid hR
  clear h hq hR
  go_enter Try.func62, Try.ntmps62
  go_wp2_with fail
  refine (cmost_ok w B p a b vb H.out 32 112 (by decide) rfl).mono ?_
  rintro e w1 hr
  cases hb : pMost 32 112 b a with
  | error v =>
    obtain ⟨y, er⟩ := v
    obtain ⟨n, v, rfl, rfl, hd1, hx1⟩ := hr.err hb
    have e1 : Hid (R = .error (y, er)) := by show _ = _; rw [HR.out]; exact pBind_no hb
    have HC : Hid (CQ B p q b vb w (.error (y, er)) f vc w1) := ⟨hd1, Ex2.of_ex hx1, hx1.blk HQ.out hqp⟩
    have c3 := hd1.cell3
    have hne := hd1.ne'
    clear hr hb hd1 hx1 H HQ HR
    go_wp2
    go_loopw [6] (fun t wr => t = .int .i64 0 ∧ wr = w1) (fun _ _ => 0)
    case atStart => exact ⟨rfl, rfl⟩
    case round =>
      obtain ⟨rfl, rfl⟩ := hrel
      by_cases hn : 0 < n
      · have hn' : (0 : Int) < (n : Int) := by omega
        go_wp2
        go_end0
        exact ⟨rfl, _, f, HC.out, e1.out⟩
      · have hn' : ¬ (0 : Int) < (n : Int) := by omega
        go_wp2
        go_end0
        exact ⟨rfl, _, f, HC.out, e1.out⟩
  | ok v =>
    obtain ⟨n, m⟩ := v
    obtain ⟨v, rfl, rfl, hd1, hx1⟩ := hr.ok hb
    have hn32 := (pChk_ok.1 hb).2
    simp only [decide_eq_true_eq] at hn32
    have e0 : Hid (R = stp (.ok m) fun m => pSlots (n - 0) (-1) f b m) := by show _ = _; rw [HR.out]; exact pBind_at hb
    have HC : Hid (CQ B p q b vb w (.ok m) f vc w1) := ⟨hd1, Ex2.of_ex hx1, hx1.blk HQ.out hqp⟩
    clear hr hb hd1 hx1 H HQ HR
    go_wp2
    go_loopw [5, 6] (fun la t wr => ∃ (k : Nat) (last : Int) (f : Nat → Tg) (s : Except (Nat × Int) Nat), k ≤ n ∧ la = .int .i64 last ∧ t = .int .i64 (k : Int) ∧ Hid (R = stp s fun m => pSlots (n - k) last f b m) ∧ Hid (CQ B p q b vb w s f vc wr)) (fun _ t _ => n - (intOf t).toNat)
    case atStart => exact ⟨0, -1, f, .ok m, by omega, rfl, rfl, e0, HC⟩
    case round =>
      clear e0 HC
      obtain ⟨k, last, f, s, hk, rfl, rfl, HE, HC⟩ := hrel
      cases s with
      | error v =>
        obtain ⟨y, er⟩ := v
        have c3 : wr.cell? ⟨p, 3, none⟩ = some (.int .i64 er) := CuD.cell3 HC.out.cu
        have hne : (er == 0) = false := CuD.ne' HC.out.cu
        by_cases hn : k < n
        · have hn' : (k : Int) < (n : Int) := by omega
          go_wp2
          go_end0
          exact ⟨rfl, _, f, HC.out, HE.out⟩
        · have hn' : ¬ (k : Int) < (n : Int) := by omega
          go_wp2
          go_end0
          exact ⟨rfl, _, f, HC.out, HE.out⟩
      | ok m =>
        have c3 : wr.cell? ⟨p, 3, none⟩ = some (.int .i64 0) := CuL.cell3 HC.out.cu
        have c1 : wr.cell? ⟨p, 1, none⟩ = some (.int .i64 (m : Int)) := CuL.cell1 HC.out.cu
        by_cases hlt : k < n
        · have hlt' : (k : Int) < (n : Int) := by omega
          have HE2 : Hid (R = (pBind (pChk (fun i : Nat => decide (last < (i : Int))) 111 (pBnd 31 90)) fun i => pBind (pTag true) fun t => pSlots (n - (k + 1)) i (putT f (10 + i) t)) b m) := by
            show _ = _
            rw [HE.out, show n - k = (n - (k + 1)) + 1 by omega]
            rfl
          clear HE
          go_wp2_with fail
          refine (cbyte_ok0 wr B p m b vb HC.out.cu).mono ?_
          rintro e w2 hr
          cases hb : pByte b m with
          | error v =>
            obtain ⟨y, er⟩ := v
            obtain ⟨rfl, hd, hx⟩ := hr.err hb
            have e1 : Hid (R = stp (.error (y, er)) fun m => pSlots (n - (k + 1)) last f b m) := by
              show _ = _
              rw [HE2.out]
              exact pBind_no (pChk_err.2 (Or.inl (pChk_err.2 (Or.inl hb))))
            have HD := Lib.hid hd
            have HC := Lib.hid (HC.out.next (s' := .error (y, er)) hx hd hqp)
            clear hr hb hd hx HE2 c1
            have c3 := HD.out.cell3
            have hne' := HD.out.ne'
            go_wp2_with fail
            refine (ctag_dead _ B p _ _ b vb HD.out true).mono ?_
            rintro e w3 hr
            obtain ⟨t, v, rfl, rfl, hd, hx⟩ := hr.err rfl
            have HC2 := Lib.hid (HC.out.next (s' := .error (y, er)) hx hd hqp)
            have c3 := hd.cell3
            have hne' := hd.ne'
            unfold tgv
            clear HC HD hr hd hx
            go_upto_region 12 with (fail)
            generalize hV : w3.alloc _ = V
            have HC3 := Lib.hid (show CQ B p q b vb w (.error (y, er)) f vc V by rw [← hV]; exact HC2.out.alloc _)
            have c3 : V.cell? ⟨p, 3, none⟩ = some (.int .i64 er) := CuD.cell3 HC3.out.cu
            clear HC2 hV
            go_wp2
            go_roundw
            all_goals first
              | exact ⟨k + 1, last, f, .error (y, er), by omega, rfl, by go_num, e1, HC3⟩
              | ((repeat apply Exists.intro); exact ⟨⟨k + 1, last, f, .error (y, er), by omega, rfl, by go_num, e1, HC3⟩, rfl⟩)
              | (simp [intOf]; omega)
          | ok v =>
            obtain ⟨i, m2⟩ := v
            obtain ⟨rfl, hd, hx⟩ := hr.ok hb
            have HC2 := Lib.hid (HC.out.next (s' := .ok m2) hx hd hqp)
            have HB := Lib.hid hb
            have HL := Lib.hid hd
            have c3 := hd.cell3
            clear hr hb hd hx HC c1
            by_cases hi31 : 31 < i
            · have hi31' : (31 : Int) < (i : Int) := by omega
              have e1 : Hid (R = stp (.error (m, 90)) fun m => pSlots (n - (k + 1)) last f b m) := by
                show _ = _
                rw [HE2.out]
                exact pBind_no (pChk_err.2 (Or.inl (pChk_err.2 (Or.inr ⟨rfl, i, m2, HB.out, by simp; omega⟩))))
              clear HE2 HB
              go_wp2_with fail
              refine (cfault_ok _ B p _ b vb HL.out m 90 (by decide)).mono ?_
              rintro e w3 ⟨rfl, hd, hx⟩
              obtain ⟨y, hy⟩ : ∃ y, y = m := ⟨_, rfl⟩
              obtain ⟨er, her⟩ : ∃ er : Int, er = 90 := ⟨_, rfl⟩
              rw [← hy, ← her] at hd e1
              have HD := Lib.hid hd
              have HC := Lib.hid (HC2.out.next (s' := .error (y, er)) hx hd hqp)
              clear hd hx HL HC2 hy her
              have c3 := HD.out.cell3
              have hne' := HD.out.ne'
              go_wp2_with fail
              refine (ctag_dead _ B p _ _ b vb HD.out true).mono ?_
              rintro e w3 hr
              obtain ⟨t, v, rfl, rfl, hd, hx⟩ := hr.err rfl
              have HC2 := Lib.hid (HC.out.next (s' := .error (y, er)) hx hd hqp)
              have c3 := hd.cell3
              have hne' := hd.ne'
              unfold tgv
              clear HC HD hr hd hx
              go_upto_region 12 with (fail)
              generalize hV : w3.alloc _ = V
              have HC3 := Lib.hid (show CQ B p q b vb w (.error (y, er)) f vc V by rw [← hV]; exact HC2.out.alloc _)
              have c3 : V.cell? ⟨p, 3, none⟩ = some (.int .i64 er) := CuD.cell3 HC3.out.cu
              clear HC2 hV
              go_wp2
              go_roundw
              all_goals first
                | exact ⟨k + 1, last, f, .error (y, er), by omega, rfl, by go_num, e1, HC3⟩
                | ((repeat apply Exists.intro); exact ⟨⟨k + 1, last, f, .error (y, er), by omega, rfl, by go_num, e1, HC3⟩, rfl⟩)
                | (simp [intOf]; omega)
            · have hi31' : ¬ (31 : Int) < (i : Int) := by omega
              have hbd : pBnd 31 90 b m = .ok (i, m2) := pChk_ok.2 ⟨HB.out, by simp; omega⟩
              have HBD := Lib.hid hbd
              clear hbd HB
              by_cases hil : (i : Int) ≤ last
              · have e1 : Hid (R = stp (.error (m, 111)) fun m => pSlots (n - (k + 1)) last f b m) := by
                  show _ = _
                  rw [HE2.out]
                  exact pBind_no (pChk_err.2 (Or.inr ⟨rfl, i, m2, HBD.out, by simp; omega⟩))
                clear HE2 HBD
                go_wp2_with fail
                refine (cfault_ok _ B p _ b vb HL.out m 111 (by decide)).mono ?_
                rintro e w3 ⟨rfl, hd, hx⟩
                obtain ⟨y, hy⟩ : ∃ y, y = m := ⟨_, rfl⟩
                obtain ⟨er, her⟩ : ∃ er : Int, er = 111 := ⟨_, rfl⟩
                rw [← hy, ← her] at hd e1
                have HD := Lib.hid hd
                have HC := Lib.hid (HC2.out.next (s' := .error (y, er)) hx hd hqp)
                clear hd hx HL HC2 hy her
                have c3 := HD.out.cell3
                have hne' := HD.out.ne'
                go_wp2_with fail
                refine (ctag_dead _ B p _ _ b vb HD.out true).mono ?_
                rintro e w3 hr
                obtain ⟨t, v, rfl, rfl, hd, hx⟩ := hr.err rfl
                have HC2 := Lib.hid (HC.out.next (s' := .error (y, er)) hx hd hqp)
                have c3 := hd.cell3
                have hne' := hd.ne'
                unfold tgv
                clear HC HD hr hd hx
                go_upto_region 12 with (fail)
                generalize hV : w3.alloc _ = V
                have HC3 := Lib.hid (show CQ B p q b vb w (.error (y, er)) f vc V by rw [← hV]; exact HC2.out.alloc _)
                have c3 : V.cell? ⟨p, 3, none⟩ = some (.int .i64 er) := CuD.cell3 HC3.out.cu
                clear HC2 hV
                go_wp2
                go_roundw
                all_goals first
                  | exact ⟨k + 1, last, f, .error (y, er), by omega, rfl, by go_num, e1, HC3⟩
                  | ((repeat apply Exists.intro); exact ⟨⟨k + 1, last, f, .error (y, er), by omega, rfl, by go_num, e1, HC3⟩, rfl⟩)
                  | (simp [intOf]; omega)
              · have hil' : last < (i : Int) := by omega
                have HE3 : Hid (R = (pBind (pTag true) fun t => pSlots (n - (k + 1)) i (putT f (10 + i) t)) b m2) := by
                  show _ = _
                  rw [HE2.out]
                  exact pBind_at (pChk_ok.2 ⟨HBD.out, by simpa using hil'⟩)
                have hi32 : (i : Int) < 32 := by omega
                clear HE2 HBD
                go_wp2_with fail
                refine (ctag_ok w2 B p m2 b vb HL.out true).mono ?_
                rintro e w3 hr
                cases hb : pTag true b m2 with
                | error v =>
                  obtain ⟨y, er⟩ := v
                  obtain ⟨t, v, rfl, rfl, hd, hx⟩ := hr.err hb
                  have e1 : Hid (R = stp (.error (y, er)) fun m => pSlots (n - (k + 1)) last f b m) := by
                    show _ = _
                    rw [HE3.out]
                    exact pBind_no hb
                  have HC2 := Lib.hid (HC2.out.next (s' := .error (y, er)) hx hd hqp)
                  have c3 := hd.cell3
                  have hne' := hd.ne'
                  unfold tgv
                  clear hr hb hd hx HE3 HL
                  go_upto_region 12 with (fail)
                  generalize hV : w3.alloc _ = V
                  have HC3 := Lib.hid (show CQ B p q b vb w (.error (y, er)) f vc V by rw [← hV]; exact HC2.out.alloc _)
                  have c3 : V.cell? ⟨p, 3, none⟩ = some (.int .i64 er) := CuD.cell3 HC3.out.cu
                  clear HC2 hV
                  go_wp2
                  go_roundw
                  all_goals first
                    | exact ⟨k + 1, last, f, .error (y, er), by omega, rfl, by go_num, e1, HC3⟩
                    | ((repeat apply Exists.intro); exact ⟨⟨k + 1, last, f, .error (y, er), by omega, rfl, by go_num, e1, HC3⟩, rfl⟩)
                    | (simp [intOf]; omega)
                | ok v =>
                  obtain ⟨t, m3⟩ := v
                  obtain ⟨v, rfl, rfl, hd, hx⟩ := hr.ok hb
                  have HE4 : Hid (R = stp (.ok m3) fun m => pSlots (n - (k + 1)) i (putT f (10 + i) t) b m) := by show _ = _; rw [HE3.out]; exact pBind_at hb
                  have HC3 := Lib.hid (HC2.out.next (s' := .ok m3) hx hd hqp)
                  clear hr hb hd hx HE3 HL HC2 c3
                  unfold tgv
                  go_upto_region 12 with (fail)
                  have d0 : (w3.alloc (.cells #[.int .i64 t.k, .int .i64 t.t, .int .i64 t.m] 56)).cell? ⟨w3.heap.size, 0, none⟩ = some (.int .i64 t.k) := (Blk.new w3 56 #[.int .i64 t.k, .int .i64 t.t, .int .i64 t.m]).cell 0
                  have d1 : (w3.alloc (.cells #[.int .i64 t.k, .int .i64 t.t, .int .i64 t.m] 56)).cell? ⟨w3.heap.size, 1, none⟩ = some (.int .i64 t.t) := (Blk.new w3 56 #[.int .i64 t.k, .int .i64 t.t, .int .i64 t.m]).cell 1
                  have d2 : (w3.alloc (.cells #[.int .i64 t.k, .int .i64 t.t, .int .i64 t.m] 56)).cell? ⟨w3.heap.size, 2, none⟩ = some (.int .i64 t.m) := (Blk.new w3 56 #[.int .i64 t.k, .int .i64 t.t, .int .i64 t.m]).cell 2
                  generalize hV : w3.alloc _ = V at d0 d1 d2 ⊢
                  have HC4 := Lib.hid (show CQ B p q b vb w (.ok m3) f vc V by rw [← hV]; exact HC3.out.alloc _)
                  have c3 : V.cell? ⟨p, 3, none⟩ = some (.int .i64 0) := CuL.cell3 HC4.out.cu
                  clear HC3 hV
                  go_upto_region 13 with (fail)
                  obtain ⟨b0, b1, b2⟩ := bx_tag (.bool false) f vc (show 10 + i < 42 by omega)
                  have ei : 1 + (10 + i) * 3 = 31 + i * 3 := by omega
                  rw [ei] at b0 b1 b2
                  have c0 := (HC4.out.qb.cell (31 + i * 3)).trans b0
                  have c1 := (HC4.out.qb.cell (31 + i * 3 + 1)).trans b1
                  have c2 := (HC4.out.qb.cell (31 + i * 3 + 2)).trans b2
                  have g0 := HC4.out.qb.frozen (31 + i * 3)
                  have g1 := HC4.out.qb.frozen (31 + i * 3 + 1)
                  have g2 := HC4.out.qb.frozen (31 + i * 3 + 2)
                  clear b0 b1 b2 ei
                  go_region
                  have hC5 := (HC4.out.tag hqp hBq (show 10 + i < 42 by omega) t (o := 31 + i * 3) (by omega)).drew
                  have HC5 := Lib.hid hC5
                  clear hC5 HC4 c0 c1 c2 g0 g1 g2 d0 d1 d2 c3
                  go_wp2
                  go_roundw
                  all_goals first
                    | exact ⟨k + 1, i, putT f (10 + i) t, .ok m3, by omega, rfl, by go_num, HE4, HC5⟩
                    | ((repeat apply Exists.intro); exact ⟨⟨k + 1, i, putT f (10 + i) t, .ok m3, by omega, rfl, by go_num, HE4, HC5⟩, rfl⟩)
                    | (simp [intOf]; omega)
        · obtain rfl : k = n := by omega
          have e1 : Hid (R = stp (.ok m) fun m => .ok (f, m)) := by show _ = _; rw [HE.out, Nat.sub_self]; rfl
          clear HE
          go_wp2
          go_end0
          exact ⟨rfl, _, f, HC.out, e1.out⟩
end Go.Proofs.Ytfdjdpbiccclfaa
