/- What the law needs, one part after another: walks of functions and plain laws. No conditions but those that each law names. -/
import Derived.Test.YtfdjdpbiccclfaaFrah
import Derived.Deep.CutRange
import Derived.Deep.DeepCutAuto
import Derived.Deep.RegionHeld3
namespace Go.Proofs.Ytfdjdpbiccclfaa
open Go Go.RowKit Go.Wr
set_option maxHeartbeats 4000000
set_option maxRecDepth 100000
section
variable {α β : Type} {B p : Nat} {b : List Nat} {vb : Value} {out : α → Value → World → Prop} {w w' : World} {e : Ending}
def RX (B p : Nat) (b : List Nat) (vb : Value) (r : Except (Nat × Int) (α × Nat)) (out : α → Value → World → Prop) (w : World) (e : Ending) (w' : World) : Prop :=
  ∃ x s' v, e = .returned v ∧ out x v w' ∧ Cu B p b s' w' vb ∧ Ex p w w' ∧ r = stp s' (fun m => .ok (x, m))
theorem RC.rx {r : Except (Nat × Int) (α × Nat)} (h : RC B p b vb r out w e w') : RX B p b vb r out w e w' := by
  cases r with
  | error v => obtain ⟨y, er⟩ := v; obtain ⟨x, v, h1, h2, h3, h4⟩ := h; exact ⟨x, .error (y, er), v, h1, h2, h3, h4, rfl⟩
  | ok v => obtain ⟨x, m⟩ := v; obtain ⟨v, h1, h2, h3, h4⟩ := h; exact ⟨x, .ok m, v, h1, h2, h3, h4, rfl⟩
theorem stp_bind {s s' : Except (Nat × Int) Nat} {x : α} {P : Ps α} {q : α → Ps β} (h : stp s (fun m => P b m) = stp s' (fun m => .ok (x, m))) : stp s (fun m => pBind P q b m) = stp s' (fun m => q x b m) := by
  cases s with
  | error v =>
    cases s' with
    | error v2 => have h : (Except.error v : Except (Nat × Int) (α × Nat)) = .error v2 := h; injection h with h; rw [h]; rfl
    | ok m2 => cases (show (Except.error v : Except (Nat × Int) (α × Nat)) = .ok _ from h)
  | ok m =>
    have h : P b m = _ := h
    cases s' with
    | error v2 => exact pBind_no h
    | ok m2 => exact pBind_at h
theorem stp_ok {s : Except (Nat × Int) Nat} {x : α} {P : Ps α} {m' : Nat} (h : stp s (fun m => P b m) = stp (.ok m') (fun m => .ok (x, m))) : ∃ m, P b m = .ok (x, m') := by
  cases s with
  | error v => cases (show (Except.error v : Except (Nat × Int) (α × Nat)) = .ok _ from h)
  | ok m => exact ⟨m, h⟩
end
theorem cmost_any (w : World) (B p : Nat) (b : List Nat) (vb : Value) (s : Except (Nat × Int) Nat) (h : Cu B p b s w vb) (high : Nat) (er : Int) (her : er ≠ 0) {hi : Int} (hh : hi = (high : Int)) :
    Calls Try.prog 41 #[.pointer (some ⟨p, 0, none⟩), .int .i64 hi, .int .i64 er] w (RX B p b vb (stp s fun m => pMost high er b m) isNat w) := by
  cases s with
  | error v => exact (cmost_dead w B p v.1 v.2 b vb h hi er).mono fun _ _ h => h.rx
  | ok m => exact (cmost_ok w B p m b vb h high er her hh).mono fun _ _ h => h.rx
theorem csigned_any (w : World) (B p : Nat) (b : List Nat) (vb : Value) (s : Except (Nat × Int) Nat) (h : Cu B p b s w vb) (er : Int) (her : er ≠ 0) :
    Calls Try.prog 42 #[.pointer (some ⟨p, 0, none⟩), .int .i64 er] w (RX B p b vb (stp s fun m => pSig er b m) isInt w) := by
  cases s with
  | error v => exact (csigned_dead w B p v.1 v.2 b vb h er).mono fun _ _ h => h.rx
  | ok m => exact (csigned_ok w B p m b vb h er her).mono fun _ _ h => h.rx
theorem Cu.blk {B p : Nat} {b : List Nat} {s : Except (Nat × Int) Nat} {w : World} {vb : Value} (h : Cu B p b s w vb) : ∃ C, Blk w p 93 C := by
  cases s with
  | ok m => exact ⟨_, (show CuL _ _ _ _ _ _ from h).blk⟩
  | error e => obtain ⟨a, hk⟩ := (show CuD _ _ _ _ _ _ _ from h).blk; exact ⟨_, hk⟩
theorem Cu.below {B p : Nat} {b : List Nat} {s : Except (Nat × Int) Nat} {w w' : World} {vb : Value} (h : Cu B p b s w vb) (hb : Below w.heap.size w w') : Cu B p b s w' vb := by
  cases s with
  | ok m => exact CuL.below h hb
  | error e => exact CuD.below h hb
theorem Cu.of_block {B p : Nat} {b : List Nat} {s : Except (Nat × Int) Nat} {w w' : World} {vb : Value} (h : Cu B p b s w vb) (hp : w'.heap[p]? = w.heap[p]?) (hb : Below B w w') : Cu B p b s w' vb := by
  cases s with
  | ok m => have h : CuL B p b m w vb := h; exact show CuL B p b m w' vb from ⟨h.blk.of_block hp, h.by'.below hb, h.hp, h.at', h.len⟩
  | error e => obtain ⟨y, er⟩ := e; have h : CuD B p b y er w vb := h; exact show CuD B p b y er w' vb from ⟨by obtain ⟨a, hk⟩ := h.blk; exact ⟨a, hk.of_block hp⟩, h.by'.below hb, h.hp, h.er', h.len⟩
structure DQ (p q : Nat) (b : List Nat) (vb : Value) (w : World) (s : Except (Nat × Int) Nat) (vl vc : Value) (ls : List Lp) (cs : List (Cl × Value)) (wr : World) : Prop where
  cu : Cu w.heap.size p b s wr vb
  bel : Below w.heap.size w wr
  zb : Blk wr w.heap.size 26 #[.slice none 0 0, .slice none 0 0]
  qb : Blk wr q 26 #[vl, vc]
  ow : OwD w.heap.size wr vl vc ls cs
  hzp : w.heap.size < p
  hzq : w.heap.size < q
  hqp : q ≠ p
section
variable {p q : Nat} {b : List Nat} {vb : Value} {w : World} {s s' : Except (Nat × Int) Nat} {vl vc : Value} {ls : List Lp} {cs : List (Cl × Value)} {wr w' w3 : World}
theorem DQ.next (h : DQ p q b vb w s vl vc ls cs wr) (hx : Ex p wr w') (hd : Cu w.heap.size p b s' w' vb) : DQ p q b vb w s' vl vc ls cs w' := by
  obtain ⟨C, hC⟩ := h.cu.blk
  have h1 := h.hzp
  have h2 := h.bel.size
  exact ⟨hd, h.bel.trans (hx.below (by omega) (by omega)), hx.blk h.zb (by omega), hx.blk h.qb h.hqp, h.ow.of_block fun g T C' hT hg => hx.block g hg.lt (blk_ne hg hC (by rcases hT with rfl | rfl | rfl <;> decide)), h.hzp, h.hzq, h.hqp⟩
theorem DQ.below (h : DQ p q b vb w s vl vc ls cs wr) (hb : Below wr.heap.size wr w') : DQ p q b vb w s vl vc ls cs w' :=
  ⟨h.cu.below hb, h.bel.trans (hb.mono h.bel.size), h.zb.below hb h.zb.lt, h.qb.below hb h.qb.lt, h.ow.below hb, h.hzp, h.hzq, h.hqp⟩
theorem DQ.alloc (h : DQ p q b vb w s vl vc ls cs wr) (o : Obj) : DQ p q b vb w s vl vc ls cs (wr.alloc o) := h.below (bAl (bRefl wr) o)
theorem DQ.drewN (h : DQ p q b vb w s vl vc ls cs wr) (n : Nat) : DQ p q b vb w s vl vc ls cs (wr.drewN n) := h.below ⟨rfl, rfl, rfl, Nat.le_refl _, fun _ _ => rfl⟩
theorem DQ.setL (h : DQ p q b vb w s vl vc ls cs wr) {t i : Nat} {C : Array Value} (ht : Blk wr t 54 C) (h0 : w.heap.size ≤ t) (hne : vl.ownBlock ≠ some t) (x : Value) : DQ p q b vb w s vl vc ls cs (wr.setCell ⟨t, i, none⟩ x) := by
  obtain ⟨C', hC⟩ := h.cu.blk
  exact ⟨h.cu.set_other _ (blk_ne ht hC (by decide)) h0, h.bel.setCell (p := ⟨t, i, none⟩) h0 x, h.zb.set_other t _ _ (blk_ne h.zb ht (by decide)), h.qb.set_other t _ _ (blk_ne h.qb ht (by decide)),
    ⟨own_of_ne h.ow.lp fun g hg => Below.heap_setCell wr ⟨t, i, none⟩ x g (fun e => hne (hg.trans (congrArg some e))), own_of_block h.ow.cl fun g _ hg => Below.heap_setCell wr ⟨t, i, none⟩ x g (blk_ne hg ht (by decide)), fun y hy => (h.ow.co y hy).set ht (by decide), h.ow.dj⟩, h.hzp, h.hzq, h.hqp⟩
theorem DQ.onlyC (h : DQ p q b vb w s vl vc ls cs wr) {t : Nat} {C : Array Value} (ht : Blk wr t 61 C) (h0 : w.heap.size ≤ t) (hne : vc.ownBlock ≠ some t) (ho : Only t wr w') : DQ p q b vb w s vl vc ls cs w' := by
  obtain ⟨C', hC⟩ := h.cu.blk
  have hb := ho.below h0
  exact ⟨h.cu.of_block (ho.block p (blk_ne hC ht (by decide))) hb, h.bel.trans hb, ho.blk h.zb (blk_ne h.zb ht (by decide)), ho.blk h.qb (blk_ne h.qb ht (by decide)),
    ⟨own_of_block h.ow.lp fun g _ hg => ho.block g (blk_ne hg ht (by decide)), own_of_ne h.ow.cl fun g hg => ho.block g (fun e => hne (hg.trans (congrArg some e))), fun y hy => (h.ow.co y hy).of_block fun g _ hg => ho.block g (blk_ne hg ht (by decide)), h.ow.dj⟩, h.hzp, h.hzq, h.hqp⟩
theorem DQ.grow_loop (h : DQ p q b vb w s vl vc ls cs wr) (x : Lp) {o : Obj} {v' : Value}
    (hown : w3.ownsRow w.heap.size 54 5 v' (ls.length + 1) (lpC ls ++ [.int .i64 x.h, .int .i64 x.a, .int .i64 x.b, .int .i64 x.k, .int .i64 x.d])) (hg : (wr.alloc o).grownBy w3 vl.ownBlock) :
    DQ p q b vb w s v' vc (ls ++ [x]) cs (w3.setCell ⟨q, 0, none⟩ v') := by
  have hs := h.bel.size
  have hA := h.alloc o
  obtain ⟨C', hC⟩ := hA.cu.blk
  have hb : Below w.heap.size (wr.alloc o) w3 := ((bRefl (wr.alloc o)).mono hA.bel.size).grown hg (by simp; omega) (fun g hg => (h.ow.lp.lt g hg).1)
  have hZ : Blk w3 w.heap.size 26 #[.slice none 0 0, .slice none 0 0] := hA.zb.of_block (hg.block _ hA.zb.lt (own_ne h.ow.lp h.zb (by decide)).symm)
  have hQ : Blk w3 q 26 #[vl, vc] := hA.qb.of_block (hg.block _ hA.qb.lt (own_ne h.ow.lp h.qb (by decide)).symm)
  have hP : w3.heap[p]? = (wr.alloc o).heap[p]? := hg.block _ hC.lt (own_ne hA.ow.lp hC (by decide)).symm
  have hne : ∀ g T C, T ≠ 54 → Blk (wr.alloc o) g T C → w3.heap[g]? = (wr.alloc o).heap[g]? := fun g T C hT hbk => hg.block _ hbk.lt (own_ne hA.ow.lp hbk (Ne.symm hT)).symm
  have hO : OwD w.heap.size w3 v' vc (ls ++ [x]) cs :=
    ⟨by unfold OwL; rw [lpC_app, List.length_append]; exact hown, own_of_block hA.ow.cl fun g C => hne g _ C (by decide), fun y hy => (hA.ow.co y hy).of_block fun g C => hne g _ C (by decide), hA.ow.dj⟩
  have h1 := h.hzq
  exact ⟨(hA.cu.of_block hP hb).set_other _ h.hqp (by omega), (hA.bel.trans hb).setCell (p := ⟨q, 0, none⟩) (by show w.heap.size ≤ q; omega) _, hZ.set_other q _ _ (by omega), (hQ.set 0 v').eq rfl, hO.set hQ (by decide) (by decide) (by decide), h.hzp, h.hzq, h.hqp⟩
theorem DQ.grow_claim (h : DQ p q b vb w s vl vc ls cs wr) (x : Cl) (vx : Value) {n : Nat} (hx : OwC n wr vx x.l) (hn : ∀ y ∈ cs, ∀ g, y.2.ownBlock = some g → g < n) (hn0 : w.heap.size ≤ n) {o : Obj} {v' : Value}
    (hown : w3.ownsRow w.heap.size 61 128 v' (cs.length + 1) (clC cs ++ (bx (.bool x.d) x.f vx).toList)) (hg : (wr.alloc o).grownBy w3 vc.ownBlock) :
    DQ p q b vb w s vl v' ls (cs ++ [(x, vx)]) (w3.setCell ⟨q, 1, none⟩ v') := by
  have hs := h.bel.size
  have hA := h.alloc o
  obtain ⟨C', hC⟩ := hA.cu.blk
  have hb : Below w.heap.size (wr.alloc o) w3 := ((bRefl (wr.alloc o)).mono hA.bel.size).grown hg (by simp; omega) (fun g hg => (h.ow.cl.lt g hg).1)
  have hZ : Blk w3 w.heap.size 26 #[.slice none 0 0, .slice none 0 0] := hA.zb.of_block (hg.block _ hA.zb.lt (own_ne h.ow.cl h.zb (by decide)).symm)
  have hQ : Blk w3 q 26 #[vl, vc] := hA.qb.of_block (hg.block _ hA.qb.lt (own_ne h.ow.cl h.qb (by decide)).symm)
  have hP : w3.heap[p]? = (wr.alloc o).heap[p]? := hg.block _ hC.lt (own_ne hA.ow.cl hC (by decide)).symm
  have hne : ∀ g T C, T ≠ 61 → Blk (wr.alloc o) g T C → w3.heap[g]? = (wr.alloc o).heap[g]? := fun g T C hT hbk => hg.block _ hbk.lt (own_ne hA.ow.cl hbk (Ne.symm hT)).symm
  have hxA : OwC n (wr.alloc o) vx x.l := hx.below (bAl (bRefl wr) o)
  have hx3 : OwC n w3 vx x.l := hxA.of_block fun g C => hne g _ C (by decide)
  have hO : OwD w.heap.size w3 vl v' ls (cs ++ [(x, vx)]) := by
    refine ⟨own_of_block hA.ow.lp fun g C => hne g _ C (by decide), ?_, fun y hy => ?_, ?_⟩
    · unfold OwK
      rw [clC_app, List.length_append]
      exact hown
    · rcases List.mem_append.1 hy with hy | hy
      · exact (hA.ow.co y hy).of_block fun g C => hne g _ C (by decide)
      · rw [List.mem_singleton.1 hy]
        exact hx3.mono hn0
    · refine List.pairwise_append.2 ⟨hA.ow.dj, List.pairwise_singleton _ _, fun y hy z hz g hgy hgz => ?_⟩
      rw [List.mem_singleton.1 hz] at hgz
      have h1 := hn y hy g hgy
      have h2 := (hx.lt g hgz).1
      omega
  have h1 := h.hzq
  exact ⟨(hA.cu.of_block hP hb).set_other _ h.hqp (by omega), (hA.bel.trans hb).setCell (p := ⟨q, 1, none⟩) (by show w.heap.size ≤ q; omega) _, hZ.set_other q _ _ (by omega), (hQ.set 1 v').eq rfl, hO.set hQ (by decide) (by decide) (by decide), h.hzp, h.hzq, h.hqp⟩
end
end Go.Proofs.Ytfdjdpbiccclfaa
namespace Go.Wr
open Go Go.RowKit
theorem wpl_runC {P : Program} {ops : Array Oper} {rest : List Oper} {op : Oper} {a : Act} {w w' : World} {Q : Exit → Act → World → Prop} (hgd : op.guard = none) (v : Value) (hrun : (execOp a.eval op).run P w = .ok (.value v) w') (h : wpList P ops Q rest (a.put op.dst v) w') : wpList P ops Q (op :: rest) a w :=
  wpList_plain hgd fun _ hK => wpo_run v hrun (hK _ _ h)
end Go.Wr
namespace Go.Proofs.Ytfdjdpbiccclfaa
open Go Go.RowKit Go.Wr
set_option maxHeartbeats 4000000
set_option maxRecDepth 100000
theorem cfault_raw (w : World) (B p : Nat) (b : List Nat) (vb : Value) (hb : Blk w p 93 #[vb, .int .i64 4, .int .i64 0, .int .i64 0]) (hs : SlBy B w vb b) (hp : B ≤ p) (hl : b.length ≤ 4194304) (y : Nat) (er : Int) (he : er ≠ 0) :
    Calls Try.prog 40 #[.pointer (some ⟨p, 0, none⟩), .int .i64 (y : Int), .int .i64 er] w fun e w' => e = .returned (.tuple #[]) ∧ CuD B p b y er w' vb ∧ Ex p w w' := by
  have H := Lib.hid hb
  have HS := Lib.hid hs
  have c2 := hb.cell 2
  have c3 := hb.cell 3
  have f2 := hb.frozen 2
  have f3 := hb.frozen 3
  have hpl := hb.lt
  simp only [List.getElem?_toArray, List.getElem?_cons_zero, List.getElem?_cons_succ] at c2 c3
  have HE := Lib.hid he
  clear hb hs he
  go_enter Try.func40, Try.ntmps40
  go_wp2
  go_end0
  refine ⟨rfl, ⟨⟨4, ?_⟩, ?_, hp, HE.out, hl⟩, ((Ex.refl p w).set _ _).set _ _⟩
  · exact ((H.out.set 2 (.int .i64 (y : Int))).set 3 (.int .i64 er)).eq rfl
  · exact HS.out.below (((Ex.refl p w).set 2 _ |>.set 3 _).below hp (Nat.le_trans hp (Nat.le_of_lt hpl)))
theorem rdec_res (w : World) (tmps : Array Value) (p : Nat) (al ac : Option Addr) (nl cl nc cc : Nat) (x y : Int) (h2 : tmps.getD 2 undef = .pointer (some ⟨p, 0, none⟩)) (h3 : tmps.getD 3 undef = .int .i64 x) (h4 : tmps.getD 4 undef = .int .i64 y)
    (c0 : w.cell? ⟨p, 0, none⟩ = some (.slice al nl cl)) (c1 : w.cell? ⟨p, 1, none⟩ = some (.slice ac nc cc)) :
    (results Try.f21 tmps).run Try.prog w = .ok (.tuple #[.agg #[.slice al nl cl, .slice ac nc cc], .int .i64 x, .int .i64 y]) w := by
  simp only [Array.getD_eq_getD_getElem?] at h2 h3 h4
  simp [results, Try.results21, go_sem, h2, h3, h4, c0, c1]
theorem rdecode_long (w : World) (v : Value) (b : List Nat) (h : SlBy w.heap.size w v b) (hl : 4194304 < b.length) : Calls Try.prog 21 #[v] w (DecP b w) := by
  obtain ⟨a0, cap, rfl, hc1, hc2, hcell⟩ := h
  have hd : decD b = (⟨[], []⟩, 0, 2) := by unfold decD; rw [if_pos hl]
  have hl' : (4194304 : Int) < (b.length : Int) := by omega
  have HD := Lib.hid hd
  clear hcell hd
  go_enter Try.func21, Try.ntmps21
  go_wp2
  have hP := Blk.new w 26 #[.slice none 0 0, .slice none 0 0]
  refine bodyPost_ret (rdec_res _ _ w.heap.size none none 0 0 0 0 0 2 rfl rfl rfl (hP.cell 0) (hP.cell 1)) rfl ?_
  exact DecP.mk' (a := 0) HD.out (bAl (bRefl w) _) (isDd_nil _ _)
theorem take4 {b : List Nat} {x0 x1 x2 x3 : Nat} (h0 : b[0]? = some x0) (h1 : b[1]? = some x1) (h2 : b[2]? = some x2) (h3 : b[3]? = some x3) : b.take 4 = [x0, x1, x2, x3] := by
  match b, h0, h1, h2, h3 with
  | a :: b :: c :: d :: l, h0, h1, h2, h3 => simp at h0 h1 h2 h3; simp [h0, h1, h2, h3]
theorem rdecode_short (w : World) (v : Value) (b : List Nat) (h : SlBy w.heap.size w v b) (hl : b.length ≤ 4194304) : Calls Try.prog 21 #[v] w (DecP b w) := by
  have H := Lib.hid h
  obtain ⟨a0, cap, hv, hc1, hc2, hcell⟩ := h
  have hl' : ¬ (4194304 : Int) < (b.length : Int) := by omega
  subst hv
  have HCell := Lib.hid hcell
  obtain ⟨R, hR⟩ : ∃ R, R = pDeedR b := ⟨_, rfl⟩
  have HR := Lib.hid hR
  clear hcell hR
  go_enter Try.func21, Try.ntmps21
  go_upto_if 21 with (fail)
  generalize hW : (w.alloc (.cells #[.slice none 0 0, .slice none 0 0] 26)).alloc (.cells #[.slice a0 b.length cap, .int .i64 4, .int .i64 0, .int .i64 0] 93) = W
  obtain ⟨p, hp⟩ : ∃ p, p = w.heap.size + 1 := ⟨_, rfl⟩
  have bW : Below w.heap.size w W := by rw [← hW]; exact bAl (bAl (bRefl w) _) _
  have PB : Blk W p 93 #[.slice a0 b.length cap, .int .i64 4, .int .i64 0, .int .i64 0] := by rw [← hW]; exact Blk.new_at _ _ (by rw [hp]; simp)
  have ZB : Blk W w.heap.size 26 #[.slice none 0 0, .slice none 0 0] := by rw [← hW]; exact (Blk.new _ _ _).alloc _
  rw [← hp]
  have hzp : w.heap.size < p := by omega
  have hSB := H.out.below bW
  have HSB := Lib.hid hSB
  have HPB := Lib.hid PB
  have HZB := Lib.hid ZB
  have HBW := Lib.hid bW
  have hWl := PB.lt
  clear hW hp bW PB ZB hSB H
  go_cut [47] (fun _ wx => ∃ s, Cu w.heap.size p b s wx (.slice a0 b.length cap) ∧ Hid (R = pEnd b (stp s fun m => pBody b m)) ∧ Below w.heap.size w wx ∧ Blk wx w.heap.size 26 #[.slice none 0 0, .slice none 0 0])
  case first =>
    by_cases h4 : b.length < 4
    · have h4' : (b.length : Int) < 4 := by omega
      have e1 : Hid (R = pEnd b (stp (.error (b.length, 110)) fun m => pBody b m)) := by
        show _ = _
        rw [HR.out]
        unfold pDeedR
        rw [if_pos h4]
        rfl
      clear HR h4 HCell
      go_wp2_with fail
      refine (cfault_raw W w.heap.size p b _ HPB.out HSB.out (by omega) hl b.length 110 (by decide)).mono ?_
      rintro e w1 ⟨rfl, hd, hx⟩
      have t1 := HBW.out.trans (hx.below (B := w.heap.size) (by omega) (by omega))
      have z1 := hx.blk HZB.out (by omega)
      go_wp2
      go_meet
      exact ⟨.error (b.length, 110), hd, e1, t1, z1⟩
    · have h4' : ¬ (b.length : Int) < 4 := by omega
      obtain ⟨x0, hx0⟩ : ∃ x, b[0]? = some x := ⟨_, List.getElem?_eq_getElem (by omega)⟩
      obtain ⟨x1, hx1⟩ : ∃ x, b[1]? = some x := ⟨_, List.getElem?_eq_getElem (by omega)⟩
      obtain ⟨x2, hx2⟩ : ∃ x, b[2]? = some x := ⟨_, List.getElem?_eq_getElem (by omega)⟩
      obtain ⟨x3, hx3⟩ : ∃ x, b[3]? = some x := ⟨_, List.getElem?_eq_getElem (by omega)⟩
      have ht4 := take4 hx0 hx1 hx2 hx3
      obtain ⟨bb, off, rfl, hbb, u0, d0⟩ := HCell.out 0 x0 hx0
      obtain ⟨bb1, off1, ev, _, u1, d1⟩ := HCell.out 1 x1 hx1
      simp only [Option.some.injEq, Addr.mk.injEq, and_true] at ev
      obtain ⟨rfl, rfl⟩ := ev
      obtain ⟨bb1, off1, ev, _, u2, d2⟩ := HCell.out 2 x2 hx2
      simp only [Option.some.injEq, Addr.mk.injEq, and_true] at ev
      obtain ⟨rfl, rfl⟩ := ev
      obtain ⟨bb1, off1, ev, _, u3, d3⟩ := HCell.out 3 x3 hx3
      simp only [Option.some.injEq, Addr.mk.injEq, and_true] at ev
      obtain ⟨rfl, rfl⟩ := ev
      rw [← HBW.out.cell (p := ⟨bb, _, none⟩) hbb] at d0 d1 d2 d3
      rw [Nat.add_zero] at d0
      have HX := Lib.hid ht4
      have l0 : (0 : Int) < (b.length : Int) := by omega
      have l1 : (1 : Int) < (b.length : Int) := by omega
      have l2 : (2 : Int) < (b.length : Int) := by omega
      have l3 : (3 : Int) < (b.length : Int) := by omega
      clear hx0 hx1 hx2 hx3 ht4 HCell
      by_cases g0 : x0 = 87
      · subst g0
        by_cases g1 : x1 = 65
        · subst g1
          by_cases g2 : x2 = 82
          · subst g2
            by_cases g3 : x3 = 49
            · subst g3
              have e1 : Hid (R = pEnd b (stp (.ok 4) fun m => pBody b m)) := by
                show _ = _
                rw [HR.out]
                unfold pDeedR
                rw [if_neg h4, if_neg (by rw [HX.out]; simp)]
                rfl
              clear HR h4 HX
              go_wp2
              go_meet
              exact ⟨.ok 4, show CuL _ _ _ _ _ _ from ⟨HPB.out, HSB.out, by omega, by omega, hl⟩, e1, HBW.out, HZB.out⟩
            · have g' : ((x3 : Int) != 49) = true := by rw [bne_iff_ne]; omega
              have hne : b.take 4 ≠ [87, 65, 82, 49] := by rw [HX.out]; simp; omega
              have e1 : Hid (R = pEnd b (stp (.error (0, 110)) fun m => pBody b m)) := by
                show _ = _
                rw [HR.out]
                unfold pDeedR
                rw [if_neg h4, if_pos hne]
                rfl
              clear HR h4 HX hne
              go_wp2_with fail
              refine (cfault_raw W w.heap.size p b _ HPB.out HSB.out (by omega) hl 0 110 (by decide)).mono ?_
              rintro e w1 ⟨rfl, hd, hx⟩
              have t1 := HBW.out.trans (hx.below (B := w.heap.size) (by omega) (by omega))
              have z1 := hx.blk HZB.out (by omega)
              go_wp2
              go_meet
              exact ⟨.error (0, 110), hd, e1, t1, z1⟩
          · have g' : ((x2 : Int) != 82) = true := by rw [bne_iff_ne]; omega
            have hne : b.take 4 ≠ [87, 65, 82, 49] := by rw [HX.out]; simp; omega
            have e1 : Hid (R = pEnd b (stp (.error (0, 110)) fun m => pBody b m)) := by
              show _ = _
              rw [HR.out]
              unfold pDeedR
              rw [if_neg h4, if_pos hne]
              rfl
            clear HR h4 HX hne
            go_wp2_with fail
            refine (cfault_raw W w.heap.size p b _ HPB.out HSB.out (by omega) hl 0 110 (by decide)).mono ?_
            rintro e w1 ⟨rfl, hd, hx⟩
            have t1 := HBW.out.trans (hx.below (B := w.heap.size) (by omega) (by omega))
            have z1 := hx.blk HZB.out (by omega)
            go_wp2
            go_meet
            exact ⟨.error (0, 110), hd, e1, t1, z1⟩
        · have g' : ((x1 : Int) != 65) = true := by rw [bne_iff_ne]; omega
          have hne : b.take 4 ≠ [87, 65, 82, 49] := by rw [HX.out]; simp; omega
          have e1 : Hid (R = pEnd b (stp (.error (0, 110)) fun m => pBody b m)) := by
            show _ = _
            rw [HR.out]
            unfold pDeedR
            rw [if_neg h4, if_pos hne]
            rfl
          clear HR h4 HX hne
          go_wp2_with fail
          refine (cfault_raw W w.heap.size p b _ HPB.out HSB.out (by omega) hl 0 110 (by decide)).mono ?_
          rintro e w1 ⟨rfl, hd, hx⟩
          have t1 := HBW.out.trans (hx.below (B := w.heap.size) (by omega) (by omega))
          have z1 := hx.blk HZB.out (by omega)
          go_wp2
          go_meet
          exact ⟨.error (0, 110), hd, e1, t1, z1⟩
      · have g' : ((x0 : Int) != 87) = true := by rw [bne_iff_ne]; omega
        have hne : b.take 4 ≠ [87, 65, 82, 49] := by rw [HX.out]; simp; omega
        have e1 : Hid (R = pEnd b (stp (.error (0, 110)) fun m => pBody b m)) := by
          show _ = _
          rw [HR.out]
          unfold pDeedR
          rw [if_neg h4, if_pos hne]
          rfl
        clear HR h4 HX hne
        go_wp2_with fail
        refine (cfault_raw W w.heap.size p b _ HPB.out HSB.out (by omega) hl 0 110 (by decide)).mono ?_
        rintro e w1 ⟨rfl, hd, hx⟩
        have t1 := HBW.out.trans (hx.below (B := w.heap.size) (by omega) (by omega))
        have z1 := hx.blk HZB.out (by omega)
        go_wp2
        go_meet
        exact ⟨.error (0, 110), hd, e1, t1, z1⟩
  case rest =>
    obtain ⟨s, hc, HR2, hbel, hz⟩ := hcut
    obtain ⟨W1, rfl⟩ : ∃ x : World, x = wc := ⟨_, rfl⟩
    have hw1 := hbel.size
    obtain ⟨C, hC⟩ := hc.blk
    have hpl := hC.lt
    go_upto_region 9 with (fail)
    generalize hV : W1.alloc _ = V
    obtain ⟨q, hq⟩ : ∃ q, q = W1.heap.size := ⟨_, rfl⟩
    have HC0 : Hid (DQ p q b (.slice a0 b.length cap) w s (.slice none 0 0) (.slice none 0 0) [] [] V) := by
      show DQ _ _ _ _ _ _ _ _ _ _ _
      rw [← hV]
      exact ⟨hc.alloc _, hbel.alloc hw1 _, hz.alloc _, Blk.new_at _ _ hq, OwD.nil _ _, hzp, by have := hz.lt; omega, by omega⟩
    rw [← hq]
    clear hV hq hc hbel hz hC hw1 HCell HSB HPB HZB HBW hWl hpl
    go_wp2_with fail
    refine (cmost_any _ _ p b _ s HC0.out.cu 8 112 (by decide) rfl).mono ?_
    rintro e w2 ⟨n, s2, v, rfl, rfl, hd, hx, hr⟩
    have hn8 : Hid (∀ m, s2 = .ok m → n ≤ 8) := fun m h => by
      subst h
      obtain ⟨m0, h⟩ := stp_ok hr
      have := (pChk_ok.1 h).2
      simpa using this
    have HE0 : Hid (R = pEnd b (stp s2 fun m => pBind (pLoops (n - 0) []) pBodyC b m)) := by
      show _ = _
      rw [HR2.out, pBody_eq, stp_bind hr]
      rfl
    have HC1 := Lib.hid (HC0.out.next hx hd)
    clear hd hx hr HC0 HR2
    go_upto_block 0 with (fail)
    go_cut [8] (fun _ wx => ∃ (ls : List Lp) (vl : Value) (s : Except (Nat × Int) Nat), Hid (R = pEnd b (stp s fun m => pBodyC ls b m)) ∧ Hid (DQ p q b (.slice a0 b.length cap) w s vl (.slice none 0 0) ls [] wx) ∧ Hid (ls.length ≤ 8 ∨ ∃ e, s = .error e))
    case first =>
      go_wp2
      go_loopw [8] (fun t wr => ∃ (k : Nat) (ls : List Lp) (vl : Value) (s : Except (Nat × Int) Nat), k ≤ n ∧ ls.length = k ∧ t = .int .i64 (k : Int) ∧ Hid (∀ m, s = .ok m → n ≤ 8) ∧ Hid (R = pEnd b (stp s fun m => pBind (pLoops (n - k) ls) pBodyC b m)) ∧ Hid (DQ p q b (.slice a0 b.length cap) w s vl (.slice none 0 0) ls [] wr)) (fun t _ => n - (intOf t).toNat)
      case atStart => exact ⟨0, [], _, s2, by omega, rfl, rfl, hn8, HE0, HC1⟩
      case round =>
        clear HE0 HC1 hn8
        obtain ⟨k, ls, vl, s, hk, hll, rfl, hn8, HE, HC⟩ := hrel
        subst hll
        cases s with
        | error v =>
          obtain ⟨y, er⟩ := v
          have c3 : wr.cell? ⟨p, 3, none⟩ = some (.int .i64 er) := CuD.cell3 HC.out.cu
          have hne' : (er == 0) = false := CuD.ne' HC.out.cu
          have HE2 : Hid (R = pEnd b (stp (.error (y, er)) fun m => pBodyC ls b m)) := HE
          by_cases hlt : ls.length < n
          · have hlt' : (ls.length : Int) < (n : Int) := by omega
            go_wp2
            go_meet
            exact ⟨ls, vl, .error (y, er), HE2, HC, Or.inr ⟨_, rfl⟩⟩
          · have hlt' : ¬ (ls.length : Int) < (n : Int) := by omega
            go_wp2
            go_meet
            exact ⟨ls, vl, .error (y, er), HE2, HC, Or.inr ⟨_, rfl⟩⟩
        | ok m =>
          have c3 : wr.cell? ⟨p, 3, none⟩ = some (.int .i64 0) := CuL.cell3 HC.out.cu
          have hn := hn8.out m rfl
          clear hn8
          by_cases hlt : ls.length < n
          · have hlt' : (ls.length : Int) < (n : Int) := by omega
            have E0 : Hid (R = pEnd b (stp (.ok m) fun m => (pBind (pMost 511 113) fun h => pBind (pMost 59 113) fun a => pBind (pMost 59 113) fun b => pBind (pSig 113) fun k => pBind (pMost 1099511627776 113) fun d => pBind (pLoops (n - (ls.length + 1)) (ls ++ [⟨h, a, b, k, d⟩])) pBodyC) b m)) := by
              show _ = _
              rw [HE.out, show n - ls.length = (n - (ls.length + 1)) + 1 by omega]
              show pEnd b (pBind (pLoops ((n - (ls.length + 1)) + 1) ls) pBodyC b m) = _
              rw [pLoops_succ, pLoop_then]
              rfl
            have cvl := HC.out.ow.lp.lt
            have hwz := HC.out.zb.lt
            have HCA := Lib.hid (HC.out.alloc (.cells #[.int .i64 0, .int .i64 0, .int .i64 0, .int .i64 0, .int .i64 0] 54))
            have TB : Blk (wr.alloc (.cells #[.int .i64 0, .int .i64 0, .int .i64 0, .int .i64 0, .int .i64 0] 54)) wr.heap.size 54 #[.int .i64 0, .int .i64 0, .int .i64 0, .int .i64 0, .int .i64 0] := Blk.new _ _ _
            have hpl := HC.out.cu.blk
            go_upto_region 14 with (fail)
            generalize hV : wr.alloc (.cells #[.int .i64 0, .int .i64 0, .int .i64 0, .int .i64 0, .int .i64 0] 54) = V
            rw [hV] at HCA TB
            obtain ⟨t, ht⟩ : ∃ t, t = wr.heap.size := ⟨_, rfl⟩
            rw [← ht] at TB cvl hwz ⊢
            have hne : vl.ownBlock ≠ some t := fun e => by have := (cvl t e).2; omega
            have htp : t ≠ p := by obtain ⟨C, hC⟩ := hpl; have := hC.lt; omega
            have htw : w.heap.size ≤ t := by omega
            have D0 := HCA
            have T0 := Lib.hid TB
            clear hV ht cvl hwz HC HCA TB HE c3 hpl
            go_wp2_with fail
            refine (cmost_any _ _ p b _ (.ok m) D0.out.cu 511 113 (by decide) rfl).mono ?_
            rintro e w3 ⟨zh, s0, v, rfl, rfl, hd, hx, hr⟩
            have E1 : Hid (R = pEnd b (stp s0 fun m => (pBind (pMost 59 113) fun a => pBind (pMost 59 113) fun b => pBind (pSig 113) fun k => pBind (pMost 1099511627776 113) fun d => pBind (pLoops (n - (ls.length + 1)) (ls ++ [⟨zh, a, b, k, d⟩])) pBodyC) b m)) := by show _ = _; rw [E0.out, stp_bind hr]
            have DN := D0.out.next hx hd
            have TN := hx.blk T0.out htp
            have ct0 := TN.cell 0
            have ft0 := TN.frozen 0
            simp only [List.getElem?_toArray, List.getElem?_cons_zero] at ct0
            have D1 := Lib.hid (DN.setL (i := 0) TN htw hne (.int .i64 (zh : Int)))
            have T1 : Hid (Blk (w3.setCell ⟨t, 0, none⟩ (.int .i64 (zh : Int))) t 54 #[.int .i64 (zh : Int), .int .i64 0, .int .i64 0, .int .i64 0, .int .i64 0]) := (TN.set 0 _).eq rfl
            clear hr hd hx DN TN D0 T0 E0
            go_wp2_with fail
            refine (cmost_any _ _ p b _ s0 D1.out.cu 59 113 (by decide) rfl).mono ?_
            rintro e w4 ⟨za, s1, v, rfl, rfl, hd, hx, hr⟩
            have E2 : Hid (R = pEnd b (stp s1 fun m => (pBind (pMost 59 113) fun b => pBind (pSig 113) fun k => pBind (pMost 1099511627776 113) fun d => pBind (pLoops (n - (ls.length + 1)) (ls ++ [⟨zh, za, b, k, d⟩])) pBodyC) b m)) := by show _ = _; rw [E1.out, stp_bind hr]
            have DN := D1.out.next hx hd
            have TN := hx.blk T1.out htp
            have ct1 := TN.cell 1
            have ft1 := TN.frozen 1
            simp only [List.getElem?_toArray, List.getElem?_cons_zero, List.getElem?_cons_succ] at ct1
            have D2 := Lib.hid (DN.setL (i := 1) TN htw hne (.int .i64 (za : Int)))
            have T2 : Hid (Blk (w4.setCell ⟨t, 1, none⟩ (.int .i64 (za : Int))) t 54 #[.int .i64 (zh : Int), .int .i64 (za : Int), .int .i64 0, .int .i64 0, .int .i64 0]) := (TN.set 1 _).eq rfl
            clear hr hd hx DN TN ct0 ft0 D1 T1 E1
            go_wp2_with fail
            refine (cmost_any _ _ p b _ s1 D2.out.cu 59 113 (by decide) rfl).mono ?_
            rintro e w5 ⟨zb, s2', v, rfl, rfl, hd, hx, hr⟩
            have E3 : Hid (R = pEnd b (stp s2' fun m => (pBind (pSig 113) fun k => pBind (pMost 1099511627776 113) fun d => pBind (pLoops (n - (ls.length + 1)) (ls ++ [⟨zh, za, zb, k, d⟩])) pBodyC) b m)) := by show _ = _; rw [E2.out, stp_bind hr]
            have DN := D2.out.next hx hd
            have TN := hx.blk T2.out htp
            have ct2 := TN.cell 2
            have ft2 := TN.frozen 2
            simp only [List.getElem?_toArray, List.getElem?_cons_zero, List.getElem?_cons_succ] at ct2
            have D3 := Lib.hid (DN.setL (i := 2) TN htw hne (.int .i64 (zb : Int)))
            have T3 : Hid (Blk (w5.setCell ⟨t, 2, none⟩ (.int .i64 (zb : Int))) t 54 #[.int .i64 (zh : Int), .int .i64 (za : Int), .int .i64 (zb : Int), .int .i64 0, .int .i64 0]) := (TN.set 2 _).eq rfl
            clear hr hd hx DN TN ct1 ft1 D2 T2 E2
            go_wp2_with fail
            refine (csigned_any _ _ p b _ s2' D3.out.cu 113 (by decide)).mono ?_
            rintro e w6 ⟨zk, s3, v, rfl, rfl, hd, hx, hr⟩
            have E4 : Hid (R = pEnd b (stp s3 fun m => (pBind (pMost 1099511627776 113) fun d => pBind (pLoops (n - (ls.length + 1)) (ls ++ [⟨zh, za, zb, zk, d⟩])) pBodyC) b m)) := by show _ = _; rw [E3.out, stp_bind hr]
            have DN := D3.out.next hx hd
            have TN := hx.blk T3.out htp
            have ct3 := TN.cell 3
            have ft3 := TN.frozen 3
            simp only [List.getElem?_toArray, List.getElem?_cons_zero, List.getElem?_cons_succ] at ct3
            have D4 := Lib.hid (DN.setL (i := 3) TN htw hne (.int .i64 zk))
            have T4 : Hid (Blk (w6.setCell ⟨t, 3, none⟩ (.int .i64 zk)) t 54 #[.int .i64 (zh : Int), .int .i64 (za : Int), .int .i64 (zb : Int), .int .i64 zk, .int .i64 0]) := (TN.set 3 _).eq rfl
            clear hr hd hx DN TN ct2 ft2 D3 T3 E3
            go_wp2_with fail
            refine (cmost_any _ _ p b _ s3 D4.out.cu 1099511627776 113 (by decide) (by omega)).mono ?_
            rintro e w7 ⟨zd, s4, v, rfl, rfl, hd, hx, hr⟩
            have E5 : Hid (R = pEnd b (stp s4 fun m => (pBind (pLoops (n - (ls.length + 1)) (ls ++ [⟨zh, za, zb, zk, zd⟩])) pBodyC) b m)) := by show _ = _; rw [E4.out, stp_bind hr]
            have DN := D4.out.next hx hd
            have TN := hx.blk T4.out htp
            have ct4 := TN.cell 4
            have ft4 := TN.frozen 4
            simp only [List.getElem?_toArray, List.getElem?_cons_zero, List.getElem?_cons_succ] at ct4
            have D5 := Lib.hid (DN.setL (i := 4) TN htw hne (.int .i64 (zd : Int)))
            have T5 : Hid (Blk (w7.setCell ⟨t, 4, none⟩ (.int .i64 (zd : Int))) t 54 #[.int .i64 (zh : Int), .int .i64 (za : Int), .int .i64 (zb : Int), .int .i64 zk, .int .i64 (zd : Int)]) := (TN.set 4 _).eq rfl
            clear hr hd hx DN TN ct3 ft3 D4 T4 E4
            go_upto_region 19 with (fail)
            clear ct4 ft4
            generalize hU : w7.setCell ⟨t, 4, none⟩ (.int .i64 (zd : Int)) = U
            rw [hU] at D5 T5
            have l0 := T5.out.cell 0
            have l1 := T5.out.cell 1
            have l2 := T5.out.cell 2
            have l3 := T5.out.cell 3
            have l4 := T5.out.cell 4
            have cq := D5.out.qb.cell 0
            simp only [List.getElem?_toArray, List.getElem?_cons_zero, List.getElem?_cons_succ] at l0 l1 l2 l3 l4 cq
            obtain ⟨i, hi, hz0, hz1, hz2⟩ := info_parts infoLp
            have Hi := Lib.hid hi
            have hsz := D5.out.bel.size
            have hUt := T5.out.lt
            have hUq := D5.out.qb.lt
            clear hi hU
            go_wp2_with (at_builtin; refine wpList_append_own _ rfl _ _ _ rfl w.heap.size 54 i _ 5 40 Try.underlying23 Hi.out hz0 hz1 hz2 rfl (by omega) vl ls.length (lpC ls) rfl (D5.out.ow.lp.alloc _) ⟨U.heap.size, 0, none⟩ 1 1 [.int .i64 (zh : Int), .int .i64 (za : Int), .int .i64 (zb : Int), .int .i64 zk, .int .i64 (zd : Int)] rfl rfl (World.news_of_block (cs := #[.int .i64 (zh : Int), .int .i64 (za : Int), .int .i64 (zb : Int), .int .i64 zk, .int .i64 (zd : Int)]) (t := 54) (fr := (0, 0)) (heap_alloc_new U _)) (by simp [Value.oneCell']) (by unfold maxLen; omega) (by omega) (by simp; omega) ?_; intro v' w9 hown hgrow hnil; obtain ⟨g, c', rfl, _⟩ := hown.form (by omega); have hq3 := (D5.out.qb.alloc (.cells #[.int .i64 (zh : Int), .int .i64 (za : Int), .int .i64 (zb : Int), .int .i64 zk, .int .i64 (zd : Int)] 54)).of_block (hgrow.block q (D5.out.qb.alloc _).lt (own_ne D5.out.ow.lp D5.out.qb (by decide)).symm); have cq3 : w9.cell? ⟨q, 0, none⟩ = some vl := hq3.cell 0; have g3 := hq3.frozen 0; have D6 := Lib.hid (D5.out.grow_loop ⟨zh, za, zb, zk, zd⟩ hown hgrow); clear hown hgrow hnil)
            have hll : (ls ++ [(⟨zh, za, zb, zk, zd⟩ : Lp)]).length = ls.length + 1 := by simp
            go_roundw
            all_goals first
              | exact ⟨ls.length + 1, ls ++ [⟨zh, za, zb, zk, zd⟩], _, s4, by omega, hll, by go_num, (fun _ _ => hn), E5, D6⟩
              | ((repeat apply Exists.intro); exact ⟨⟨ls.length + 1, ls ++ [⟨zh, za, zb, zk, zd⟩], _, s4, by omega, hll, by go_num, (fun _ _ => hn), E5, D6⟩, rfl⟩)
              | (simp [intOf]; omega)
          · obtain rfl : ls.length = n := by omega
            have HE2 : Hid (R = pEnd b (stp (.ok m) fun m => pBodyC ls b m)) := by show _ = _; rw [HE.out, Nat.sub_self]; rfl
            clear HE hlt hk
            go_wp2
            go_meet
            exact ⟨ls, vl, .ok m, HE2, HC, Or.inl hn⟩
    case rest =>
      obtain ⟨ls, vl, s3, HE1, HC2, hl8⟩ := hcut
      obtain ⟨W2, rfl⟩ : ∃ x : World, x = wc := ⟨_, rfl⟩
      clear HE0 HC1 hn8
      go_wp2_with fail
      refine (cmost_any _ _ p b _ s3 HC2.out.cu 512 112 (by decide) rfl).mono ?_
      rintro e w2 ⟨n, s4, v, rfl, rfl, hd, hx, hr⟩
      have hn512 : Hid (∀ m, s4 = .ok m → n ≤ 512) := fun m h => by
        subst h
        obtain ⟨m0, h⟩ := stp_ok hr
        have := (pChk_ok.1 h).2
        simpa using this
      have HE2 : Hid (R = pEnd b (stp s4 fun m => pMap (fun cs => ⟨ls, cs⟩) (pClaims (n - 0) []) b m)) := by
        show _ = _
        rw [HE1.out]
        unfold pBodyC
        rw [stp_bind hr]
        rfl
      have HC3 := Lib.hid (HC2.out.next hx hd)
      clear hd hx hr HC2 HE1
      go_upto_block 2 with (fail)
      go_cut [10] (fun _ wx => ∃ (cs : List (Cl × Value)) (vc : Value) (s : Except (Nat × Int) Nat), Hid (R = pEnd b (stp s fun m => .ok (⟨ls, cs.map (·.1)⟩, m))) ∧ Hid (DQ p q b (.slice a0 b.length cap) w s vl vc ls cs wx))
      case first =>
        go_wp2
        go_loopw [10] (fun t wr => ∃ (k : Nat) (cs : List (Cl × Value)) (vc : Value) (s : Except (Nat × Int) Nat), k ≤ n ∧ cs.length = k ∧ t = .int .i64 (k : Int) ∧ Hid (∀ m, s = .ok m → n ≤ 512) ∧ Hid (R = pEnd b (stp s fun m => pMap (fun cs => ⟨ls, cs⟩) (pClaims (n - k) (cs.map (·.1))) b m)) ∧ Hid (DQ p q b (.slice a0 b.length cap) w s vl vc ls cs wr)) (fun t _ => n - (intOf t).toNat)
        case atStart => exact ⟨0, [], _, s4, by omega, rfl, rfl, hn512, HE2, HC3⟩
        case round =>
          clear HE2 HC3 hn512
          obtain ⟨k, cs, vc, s, hk, hll, rfl, hn8, HE, HC⟩ := hrel
          subst hll
          cases s with
          | error v =>
            obtain ⟨y, er⟩ := v
            have c3 : wr.cell? ⟨p, 3, none⟩ = some (.int .i64 er) := CuD.cell3 HC.out.cu
            have hne' : (er == 0) = false := CuD.ne' HC.out.cu
            have HE2 : Hid (R = pEnd b (stp (.error (y, er)) fun m => .ok ((⟨ls, cs.map (·.1)⟩ : Dd), m))) := HE
            by_cases hlt : cs.length < n
            · have hlt' : (cs.length : Int) < (n : Int) := by omega
              go_wp2
              go_meet
              exact ⟨cs, vc, .error (y, er), HE2, HC⟩
            · have hlt' : ¬ (cs.length : Int) < (n : Int) := by omega
              go_wp2
              go_meet
              exact ⟨cs, vc, .error (y, er), HE2, HC⟩
          | ok m =>
            have c3 : wr.cell? ⟨p, 3, none⟩ = some (.int .i64 0) := CuL.cell3 HC.out.cu
            have hn := hn8.out m rfl
            clear hn8
            by_cases hlt : cs.length < n
            · have hlt' : (cs.length : Int) < (n : Int) := by omega
              have E0 : Hid (R = pEnd b (stp (.ok m) fun m => (pBind pClaim fun x => pMap (fun cs => ⟨ls, cs⟩) (pClaims (n - (cs.length + 1)) (cs.map (·.1) ++ [x]))) b m)) := by
                show _ = _
                rw [HE.out, show n - cs.length = (n - (cs.length + 1)) + 1 by omega]
                show pEnd b (pMap (fun cs => ⟨ls, cs⟩) (pClaims ((n - (cs.length + 1)) + 1) (cs.map (·.1))) b m) = _
                rw [pClaims_succ]
                rfl
              have hlts := HC.out.ow.lt
              have HLT := Lib.hid hlts
              have hbw := HC.out.bel.size
              have hvl := HC.out.ow.cl.lt
              clear HE hlts
              go_wp2_with fail
              refine (cclaim_ok wr w.heap.size p m b _ HC.out.cu).mono ?_
              rintro e w3 hr
              obtain ⟨x, s5, v, rfl, ⟨vx, rfl, hox⟩, hd, hx, hr⟩ := hr.rx
              have E1 : Hid (R = pEnd b (stp s5 fun m => pMap (fun cs => ⟨ls, cs⟩) (pClaims (n - (cs.length + 1)) ((cs ++ [(x, vx)]).map (·.1))) b m)) := by
                exact E0.out.trans ((congrArg (pEnd b) (stp_bind (s := .ok m) (P := pClaim) (q := fun x => pMap (fun cs => ⟨ls, cs⟩) (pClaims (n - (cs.length + 1)) (cs.map (·.1) ++ [x]))) hr)).trans (by simp))
              have D3 := HC.out.next hx hd
              have hsw := hx.size
              have hv1 : vx.oneCell' = true := by obtain ⟨a0, cap, e, _⟩ := hox.cells; rw [e]; rfl
              have hz := zeroClaim
              have HOX := Lib.hid hox
              have HD3 := Lib.hid D3
              clear hd hx hr E0 HC hox D3 c3
              go_upto_region 25 with (refine wpl_store rfl 61 (.tmp 11) (.tmp 100) rfl w3.heap.size 0 rfl rfl (Blk.new w3 _ _) rowClaim (bx_size _ _ _) (of_decide_eq_true (by kernel_rfl)) (bx_one _ rfl hv1) ?_; intro wn hO hN)
              rw [spl_all _ _ (by rw [bx_size]; first | (rw [bx_size]; done) | kernel_rfl)] at hN
              have TB0 := Blk.new w3 61 (bx (.bool false) f0 (.slice none 0 0))
              have D4 := (HD3.out.alloc (.cells (bx (.bool false) f0 (.slice none 0 0)) 61)).onlyC TB0 (by omega) (fun e => by have := (hvl w3.heap.size e).2; omega) hO
              have OX4 : OwC wr.heap.size wn vx x.l := (HOX.out.below (bAl (bRefl w3) (.cells (bx (.bool false) f0 (.slice none 0 0)) 61))).of_block fun g _ hg => hO.block g (blk_ne hg TB0 (by decide))
              have cq1 : wn.cell? ⟨q, 1, none⟩ = some vc := D4.qb.cell 1
              have hwq := D4.qb.lt
              have hwt := hN.lt
              have hwl := D4.bel.size
              obtain ⟨i, hi, hz0, hz1, hz2⟩ := info_parts infoCl
              have Hi := Lib.hid hi
              have HN := Lib.hid hN
              have HD4 := Lib.hid D4
              have HO4 := Lib.hid OX4
              clear hi hN D4 OX4 TB0 HD3 HOX hO
              go_upto_region 23 with (first
                | (refine wpl_load rfl 61 (.tmp 11) rfl w3.heap.size 0 rfl HN.out rowClaim (by rw [bx_size]; omega) (bx_all _ _ _) ?_)
                | (refine wpl_runC rfl _ (exec_one rfl (D := bx (.bool x.d) x.f vx) (by rfl) Try.underlying24 sizeClaim zeroClaim (bx_size _ _ _) (by omega) (by omega)) ?_)
                | (at_builtin; refine wpList_append_own _ rfl _ _ _ rfl w.heap.size 61 i _ 128 1040 Try.underlying24 Hi.out hz0 hz1 hz2 (bx_size _ _ _) (by omega) vc cs.length (clC cs) rfl (HD4.out.ow.cl.alloc _) ⟨wn.heap.size, 0, none⟩ 1 1 (bx (.bool x.d) x.f vx).toList rfl (by simp [bx_size]) (World.news_of_block (cs := bx (.bool x.d) x.f vx) (t := 61) (fr := (0, 0)) (heap_alloc_new wn _)) (bx_one _ rfl hv1) (by unfold maxLen; omega) (by omega) (by simp; omega) ?_; intro v' w9 hown hgrow hnil; obtain ⟨g, c', rfl, _⟩ := hown.form (by omega); have hq3 := (HD4.out.qb.alloc (.cells (bx (.bool x.d) x.f vx) 61)).of_block (hgrow.block q (HD4.out.qb.alloc _).lt (own_ne HD4.out.ow.cl HD4.out.qb (by decide)).symm); have cq3 : w9.cell? ⟨q, 1, none⟩ = some vc := hq3.cell 1; have g3 := hq3.frozen 1; have HD6 := Lib.hid (HD4.out.grow_claim x vx HO4.out HLT.out hbw hown hgrow); clear hown hgrow hnil))
              have hll : (cs ++ [(x, vx)]).length = cs.length + 1 := by simp
              go_wp2
              go_roundw
              all_goals first
                | exact ⟨cs.length + 1, cs ++ [(x, vx)], _, s5, by omega, hll, by go_num, (fun _ _ => hn), E1, HD6⟩
                | ((repeat apply Exists.intro); exact ⟨⟨cs.length + 1, cs ++ [(x, vx)], _, s5, by omega, hll, by go_num, (fun _ _ => hn), E1, HD6⟩, rfl⟩)
                | (simp [intOf]; omega)
            · obtain rfl : cs.length = n := by omega
              have HE2 : Hid (R = pEnd b (stp (.ok m) fun m => .ok ((⟨ls, cs.map (·.1)⟩ : Dd), m))) := by show _ = _; rw [HE.out, Nat.sub_self]; rfl
              clear HE hlt hk
              go_wp2
              go_meet
              exact ⟨cs, vc, .ok m, HE2, HC⟩
      case rest =>
        obtain ⟨cs, vc, s6, HE, HC⟩ := hcut
        obtain ⟨W3, rfl⟩ : ∃ x : World, x = wc := ⟨_, rfl⟩
        clear HE2 HC3 hn512
        cases s6 with
        | error v =>
          obtain ⟨y, er⟩ := v
          have e1 : Hid (R = .error (y, er)) := by show _ = _; rw [HE.out]; rfl
          have HD := Lib.hid (show CuD _ _ _ _ _ _ _ from HC.out.cu)
          have HZ := Lib.hid HC.out.zb
          have HB := Lib.hid HC.out.bel
          clear HE HC
          obtain ⟨W4, hW4⟩ : ∃ x : World, x = W3 := ⟨_, rfl⟩
          rw [← hW4] at HD HZ HB ⊢
          clear hW4
          have c3 := HD.out.cell3
          have hne := HD.out.ne
          have hne' := HD.out.ne'
          obtain ⟨a9, hk9⟩ := HD.out.blk
          have c1 := hk9.cell 1
          have c2 := hk9.cell 2
          simp only [List.getElem?_toArray, List.getElem?_cons_zero, List.getElem?_cons_succ] at c1 c2
          have z0 : W4.cell? ⟨w.heap.size, 0, none⟩ = some (.slice none 0 0) := HZ.out.cell 0
          have z1 : W4.cell? ⟨w.heap.size, 1, none⟩ = some (.slice none 0 0) := HZ.out.cell 1
          have y0 := HZ.out.frozen 0
          have y1 := HZ.out.frozen 1
          clear hk9
          go_upto_region 29 with (fail)
          go_region
          have hzb := Blk.drew ((HZ.out.set 0 (.slice none 0 0)).set 1 (.slice none 0 0))
          go_wp2
          refine bodyPost_ret (rdec_res _ _ w.heap.size none none 0 0 0 0 (y : Int) er rfl rfl rfl (hzb.cell 0) (hzb.cell 1)) rfl ?_
          refine DecP.mk' (decD_err hl (HR.out.symm.trans e1.out)) ?_ (isDd_nil _ _)
          exact ((HB.out.setCell (p := ⟨w.heap.size, 0, none⟩) (Nat.le_refl _) _).setCell (p := ⟨w.heap.size, 1, none⟩) (Nat.le_refl _) _).drew
        | ok m =>
          have HL := Lib.hid (show CuL _ _ _ _ _ _ from HC.out.cu)
          have c3 := HL.out.cell3
          have c1 := HL.out.cell1
          by_cases hm : m < b.length
          · have hm' : (m : Int) < (b.length : Int) := by omega
            have e1 : Hid (R = .error (m, 110)) := by show _ = _; rw [HE.out]; exact if_pos hm
            go_wp2_with fail
            refine (cfault_ok _ _ p m b _ HL.out m 110 (by decide)).mono ?_
            rintro e W4 ⟨rfl, hd, hx⟩
            have hD := HC.out.next (s' := .error (m, 110)) hx hd
            obtain ⟨y, hy⟩ : ∃ y, y = m := ⟨_, rfl⟩
            obtain ⟨er, her⟩ : ∃ er : Int, er = 110 := ⟨_, rfl⟩
            rw [← hy, ← her] at hd e1
            have HD := Lib.hid hd
            have HZ := Lib.hid hD.zb
            have HB := Lib.hid hD.bel
            clear hd hx hD HE HC HL c3 c1 hy her hm
            have c3 := HD.out.cell3
            have hne := HD.out.ne
            have hne' := HD.out.ne'
            obtain ⟨a9, hk9⟩ := HD.out.blk
            have c1 := hk9.cell 1
            have c2 := hk9.cell 2
            simp only [List.getElem?_toArray, List.getElem?_cons_zero, List.getElem?_cons_succ] at c1 c2
            have z0 : W4.cell? ⟨w.heap.size, 0, none⟩ = some (.slice none 0 0) := HZ.out.cell 0
            have z1 : W4.cell? ⟨w.heap.size, 1, none⟩ = some (.slice none 0 0) := HZ.out.cell 1
            have y0 := HZ.out.frozen 0
            have y1 := HZ.out.frozen 1
            clear hk9
            go_upto_region 29 with (fail)
            go_region
            have hzb := Blk.drew ((HZ.out.set 0 (.slice none 0 0)).set 1 (.slice none 0 0))
            go_wp2
            refine bodyPost_ret (rdec_res _ _ w.heap.size none none 0 0 0 0 (y : Int) er rfl rfl rfl (hzb.cell 0) (hzb.cell 1)) rfl ?_
            refine DecP.mk' (decD_err hl (HR.out.symm.trans e1.out)) ?_ (isDd_nil _ _)
            exact ((HB.out.setCell (p := ⟨w.heap.size, 0, none⟩) (Nat.le_refl _) _).setCell (p := ⟨w.heap.size, 1, none⟩) (Nat.le_refl _) _).drew
          · have hm' : ¬ (m : Int) < (b.length : Int) := by omega
            have e1 : Hid (R = .ok (⟨ls, cs.map (·.1)⟩, m)) := by show _ = _; rw [HE.out]; exact if_neg hm
            obtain ⟨al, capl, rfl⟩ := own_slice HC.out.ow.lp
            obtain ⟨ac, capc, rfl⟩ := own_slice HC.out.ow.cl
            have q0 : W3.cell? ⟨q, 0, none⟩ = some (.slice al ls.length capl) := HC.out.qb.cell 0
            have q1 : W3.cell? ⟨q, 1, none⟩ = some (.slice ac cs.length capc) := HC.out.qb.cell 1
            have z0 : W3.cell? ⟨w.heap.size, 0, none⟩ = some (.slice none 0 0) := HC.out.zb.cell 0
            have z1 : W3.cell? ⟨w.heap.size, 1, none⟩ = some (.slice none 0 0) := HC.out.zb.cell 1
            have y0 := HC.out.zb.frozen 0
            have y1 := HC.out.zb.frozen 1
            clear HE hm
            go_wp2
            have hzb := (HC.out.zb.set 0 (.slice al ls.length capl)).set 1 (.slice ac cs.length capc)
            refine bodyPost_ret (rdec_res _ _ w.heap.size al ac ls.length capl cs.length capc 0 0 rfl rfl rfl (hzb.cell 0) (hzb.cell 1)) rfl ?_
            refine DecP.mk' (a := 0) (decD_ok hl (HR.out.symm.trans e1.out)) ?_ ⟨_, _, cs, rfl, rfl, ?_⟩
            · exact (HC.out.bel.setCell (p := ⟨w.heap.size, 0, none⟩) (Nat.le_refl _) _).setCell (p := ⟨w.heap.size, 1, none⟩) (Nat.le_refl _) _
            · exact (HC.out.ow.set HC.out.zb (by decide) (by decide) (by decide)).set (HC.out.zb.set 0 _) (by decide) (by decide) (by decide)
theorem rdecode_ok (w : World) (v : Value) (b : List Nat) (h : SlBy w.heap.size w v b) : Calls Try.prog 21 #[v] w (DecP b w) := by
  by_cases hl : b.length ≤ 4194304
  · exact rdecode_short w v b h hl
  · exact rdecode_long w v b h (by omega)
end Go.Proofs.Ytfdjdpbiccclfaa
namespace Go.Proofs.Ytfdjdpbiccclfaa
open Go Go.RowKit Go.Wr
set_option maxHeartbeats 20000000
set_option maxRecDepth 100000
structure Bs (we : World) (p q3 q8 : Nat) (vl vc : Value) (c : Sn) (lb : List By) (d0 : Dd) (wa : Option Addr) (wc : Nat) (xa : Option Addr) (xc : Nat) (csw : List (Cl × Sn)) (w : World) : Prop where
  bel : Below we.heap.size we w
  pe : we.heap.size ≤ p
  p3 : Blk w q3 26 #[vl, vc]
  n3 : q3 ≠ p
  p8 : Blk w q8 26 #[.slice wa d0.ls.length wc, .slice xa d0.cs.length xc]
  n8 : q8 ≠ p
  cc : SlX tY p w c.v lb
  wy : Yw (fun g => g ≠ p) w wa wc xa xc d0.ls csw
  wm : csw.map (·.1) = d0.cs
theorem Bs.ex {we : World} {p q3 q8 : Nat} {vl vc : Value} {c : Sn} {lb : List By} {d0 : Dd} {wa : Option Addr} {wc : Nat} {xa : Option Addr} {xc : Nat} {csw : List (Cl × Sn)} {w w' : World} (h : Bs we p q3 q8 vl vc c lb d0 wa wc xa xc csw w) (x : Ex p w w') : Bs we p q3 q8 vl vc c lb d0 wa wc xa xc csw w' :=
  ⟨⟨x.os.trans h.bel.os, x.tape.trans h.bel.tape, x.output.trans h.bel.output, Nat.le_trans h.bel.size x.size, fun b hb => (x.block b (Nat.lt_of_lt_of_le hb h.bel.size) (by have := h.pe; omega)).trans (h.bel.block b hb)⟩,
    h.pe, x.blk h.p3 h.n3, h.n3, x.blk h.p8 h.n8, h.n8, h.cc.ex ⟨x.os, x.tape, x.output, x.size, x.block⟩, h.wy.of_block (fun g _ _ _ hg hD => x.block g hg.lt hD), h.wm⟩
theorem enc_le (d : Dd) : (encD d).length ≤ 4194304 := by
  by_cases h : encE d = 0
  · unfold encD
    rw [if_pos h]
    unfold encE at h
    by_cases hp : plainD d = 0
    · rw [if_pos hp] at h
      by_cases hl : 4194304 < (deedB d).length
      · rw [if_pos hl] at h; cases h
      · omega
    · rw [if_neg hp] at h; exact absurd h hp
  · rw [encD, if_neg h]
    simp
theorem by256 {B : Nat} {w : World} {v : Value} {b : List Nat} (h : SlBy B w v b) : ∀ x ∈ b, x < 256 := by
  obtain ⟨_, _, _, _, _, hc⟩ := h
  intro x hx
  obtain ⟨k, hk⟩ := List.mem_iff_getElem?.1 hx
  obtain ⟨_, _, _, _, h3, _⟩ := hc k x hk
  exact h3
theorem fresh_ok (w : World) (vb : Value) (b : List Nat) (hb : SlBy w.heap.size w vb b) (vl vc : Value) (d : Dd) (hd : SlD w.heap.size w vl vc d) :
    Calls Try.prog 6 #[vb, .agg #[vl, vc]] w fun e w' => e = .returned (.bool true) ∧ Below w.heap.size w w' := by
  have mix : Try.prog.follows .mixedOrders = true := by kernel_rfl
  have h256 := by256 hb
  have hn := dec_len b h256
  obtain ⟨a0, cap0, rfl, hcap1, hcap2, hbc⟩ := hb
  have HB : Hid (SlBy w.heap.size w (.slice a0 b.length cap0) b) := ⟨a0, cap0, rfl, hcap1, hcap2, hbc⟩
  obtain ⟨al, cl, hvl, hls⟩ := hd.ls
  obtain ⟨ac, cc, hvc, hcs⟩ := hd.cs
  subst hvl hvc
  have HD := Lib.hid hd
  have HN := Lib.hid hn
  clear hd hls hcs hbc h256 hn
  go_enter Try.func6, Try.ntmps6
  go_upto_region 1 with (fail)
  generalize hW : w.alloc (.cells #[.slice al d.ls.length cl, .slice ac d.cs.length cc] 26) = W
  obtain ⟨q3, hq3⟩ : ∃ p, p = w.heap.size := ⟨_, rfl⟩
  have bW : Below w.heap.size w W := by rw [← hW]; exact bAl (bRefl w) _
  have P0 : Blk W q3 26 #[.slice al d.ls.length cl, .slice ac d.cs.length cc] := by rw [← hW, hq3]; exact Blk.new _ _ _
  rw [← hq3]
  clear hW hq3
  go_wp2_with fail
  refine (known_ok _).mono ?_
  rintro e w1 ⟨rfl, b1⟩
  have HP1 := Lib.hid (P0.below b1 P0.lt)
  have HB1 := Lib.hid (bThen bW b1)
  clear P0 bW b1
  go_upto_region 4 with (fail)
  generalize hW : w1.alloc _ = W2
  obtain ⟨p, hp⟩ : ∃ p, p = w1.heap.size := ⟨_, rfl⟩
  have HL2 : Hid (Led (fun b => b = p) p 0 W2) := by rw [← hW, hp]; exact Led.new w1
  have b2 : Below w1.heap.size w1 W2 := by rw [← hW]; exact bAl (bRefl w1) _
  have hps : w1.heap.size ≤ p ∧ p < W2.heap.size := ⟨by omega, HL2.out.lt⟩
  rw [← hp]
  have hqp : q3 ≠ p ∧ q3 < W2.heap.size ∧ w.heap.size ≤ p := by have := HP1.out.lt; have := b2.size; have := HB1.out.size; omega
  have HP2 := Lib.hid (HP1.out.below b2 HP1.out.lt)
  have HB2 := Lib.hid (bThen HB1.out b2)
  have HD2 := Lib.hid (HD.out.up HB2.out)
  clear hW hp b2 HP1 HB1
  have c0 := HP2.out.cell 0
  have c1 := HP2.out.cell 1
  simp only [List.getElem?_toArray, List.getElem?_cons_zero, List.getElem?_cons_succ] at c0 c1
  go_wp2_with fail
  refine (rencode_ok W2 _ _ d HD2.out).mono ?_
  intro e w3 hr
  obtain ⟨b3, vcb, he, hv⟩ := hr
  subst he
  obtain ⟨lb, hlb, hc⟩ := own_by (show OwY W2.heap.size w3 vcb (encD d) from hv) (encD_256 d)
  obtain ⟨ca, ck, rfl⟩ := own_form (show OwY W2.heap.size w3 vcb (encD d) from hv)
  have hCC : SlX tY p w3 (Sn.v ⟨ca, (encD d).length, ck⟩) lb := OwR.sl hc (fun e => by have := (hc.blk e).1; omega)
  have HC3 := Lib.hid hCC
  have HLB := Lib.hid hlb
  have HL3 := Lib.hid (HL2.out.keep b3.os b3.tape b3.output b3.size (fun g hg _ => b3.block g hg))
  have HP3 := Lib.hid (HP2.out.below b3 HP2.out.lt)
  have HB3 := Lib.hid (bThen HB2.out b3)
  have hs3 := b3.size
  have HY3 := Lib.hid (HB.out.up HB3.out)
  clear hv hc hlb b3 hCC c0 c1 HL2 HP2 HB2 HD2
  go_wp2_with fail
  refine (rdecode_ok w3 _ b HY3.out).mono ?_
  rintro e w4 ⟨b4, vd, rfl, hdd⟩
  obtain ⟨wa, wc, xa, xc, csw, rfl, hcm, hyw⟩ := isDd_yw hdd
  obtain ⟨d0, hd0⟩ : ∃ x, x = (decD b).1 := ⟨_, rfl⟩
  rw [← hd0] at hcm hyw HN ⊢
  have HD0 := Lib.hid hd0
  clear hd0 hdd
  have hs4 := b4.size
  have HL4 := Lib.hid (HL3.out.keep b4.os b4.tape b4.output b4.size (fun g hg _ => b4.block g hg))
  have HP4 := Lib.hid (HP3.out.below b4 HP3.out.lt)
  have HB4 := Lib.hid (bThen HB3.out b4)
  have HC4 := Lib.hid (SlX.below HC3.out b4)
  have HW4 := Lib.hid (And.intro hyw hcm)
  clear b4 hyw hcm HL3 HP3 HB3 HC3 HY3
  go_upto_region 6 with (fail)
  generalize hW : w4.alloc _ = w0
  obtain ⟨q8, hq8⟩ : ∃ p, p = w4.heap.size := ⟨_, rfl⟩
  have b5 : Below w4.heap.size w4 w0 := by rw [← hW]; exact bAl (bRefl w4) _
  have hp8 : Blk w0 q8 26 #[.slice wa d0.ls.length wc, .slice xa d0.cs.length xc] := by rw [← hW, hq8]; exact Blk.new _ _ _
  rw [← hq8]
  have hs0 := b5.size
  have HBS : Hid (Bs w p q3 q8 (.slice al d.ls.length cl) (.slice ac d.cs.length cc) ⟨ca, (encD d).length, ck⟩ lb d0 wa wc xa xc csw w0) :=
    ⟨bThen HB4.out b5, hqp.2.2, HP4.out.below b5 HP4.out.lt, hqp.1, hp8, by omega, SlX.below HC4.out b5, (HW4.out.1.below b5).mono (fun g _ hg => by omega), HW4.out.2⟩
  have HKS : Hid (Ks w0 d0 p 0 0 w0.heap.size (fun b => b = p) ⟨none, 0, 0⟩ [] w0) :=
    ⟨Ex.refl p w0, HL4.out.keep b5.os b5.tape b5.output b5.size (fun g hg _ => b5.block g hg), fun g hg => Or.inl hg, fun g hg => by rw [hg]; omega, Nat.le_refl _, Nat.le_refl _, OwR.nil _ _, fun g hg => (by cases hg), fun m s hm => by simp at hm, rfl⟩
  have hlt : q3 < w0.heap.size ∧ q8 < w0.heap.size ∧ p < w0.heap.size := ⟨by omega, hp8.lt, by omega⟩
  clear hW hq8 b5 hp8 HL4 HP4 HB4 HC4 HW4
  go_wp2
  go_loopw [11, 12] (fun tv t wr => ∃ (k h1 : Nat) (U : Nat → Prop) (av : Sn) (ds : List (Sn × Sn)), k ≤ 4 ∧ tv = .slice av.a av.n av.c ∧ t = .int .i64 (k : Int) ∧ Hid (Ks w0 d0 p k k h1 U av ds wr)) (fun _ t _ => 4 - (intOf t).toNat)
  case atStart => exact ⟨0, _, _, ⟨none, 0, 0⟩, [], by omega, rfl, rfl, HKS.out⟩
  case round =>
    obtain ⟨k, h1, U, ⟨va, vn, vc'⟩, ds, hk, rfl, rfl, hS⟩ := hrel
    clear HKS
    by_cases hlk : k < 4
    · have hlk' : (k : Int) < 4 := by omega
      have hk0 : (0 : Int) ≤ (k : Int) := by omega
      have HBr := Lib.hid (HBS.out.ex hS.out.ex)
      have HDr := Lib.hid (HD.out.up HBr.out.bel)
      have c0 := HBr.out.p3.cell 0
      have c1 := HBr.out.p3.cell 1
      simp only [List.getElem?_toArray, List.getElem?_cons_zero, List.getElem?_cons_succ] at c0 c1
      go_wp2_with fail
      refine (encode_ok wr _ _ d HDr.out).mono ?_
      intro e w5 hr
      obtain ⟨b5, vcb, he, hv⟩ := hr
      subst he
      obtain ⟨lb', hlb', hc⟩ := own_by (show OwY wr.heap.size w5 vcb (encD d) from hv) (encD_256 d)
      obtain ⟨ra, rk, rfl⟩ := own_form (show OwY wr.heap.size w5 vcb (encD d) from hv)
      obtain rfl : lb' = lb := map_val.1 (hlb'.trans HLB.out.symm)
      have HC5 := Lib.hid hc
      have HS5 := Lib.hid ((hS.out.lift hS.out.hi (Nat.le_refl _)).below b5)
      have hdn : Hid (∀ g, U g → g < wr.heap.size) := hS.out.dn
      have HB5 := Lib.hid (HBr.out.ex (Ex.of_below b5))
      have hs5 := b5.size
      have HY5 := Lib.hid (HB.out.up HB5.out.bel)
      clear hv hc hlb' b5 c0 c1 hS HBr HDr
      go_wp2_with fail
      refine (decode_ok w5 _ b HY5.out).mono ?_
      rintro e w6 ⟨b6, vd, rfl, hdd⟩
      rw [← HD0.out] at hdd
      obtain ⟨la, lc, ka, kc, cs, rfl, hcm, hyw⟩ := isDd_yw hdd
      have HC6 := Lib.hid (HC5.out.below b6)
      have HS6 := Lib.hid (HS5.out.below b6)
      have HB6 := Lib.hid (HB5.out.ex (Ex.of_below b6))
      have hs6 := b6.size
      have hclen : cs.length = d0.cs.length := by rw [← hcm, List.length_map]
      have HCM := Lib.hid hcm
      have HYW := Lib.hid hyw
      clear hdd hcm hyw b6 HC5 HS5 HB5 HY5
      go_upto_region 12 with (fail)
      generalize hW : w6.alloc _ = w7
      obtain ⟨q, hq⟩ : ∃ p, p = w6.heap.size := ⟨_, rfl⟩
      have b7 : Below w6.heap.size w6 w7 := by rw [← hW]; exact bAl (bRefl w6) _
      have hqb : Blk w7 q 26 #[.slice la d0.ls.length lc, .slice ka cs.length kc] := by rw [hclen, ← hW, hq]; exact Blk.new _ _ _
      rw [← hq]
      have HC7 := Lib.hid (HC6.out.below b7)
      have HB7 := Lib.hid (HB6.out.ex (Ex.of_below b7))
      have HR7 : Hid (Rd w0 d0 p k k wr.heap.size q U ⟨va, vn, vc'⟩ ds la lc ka kc d0.ls cs w7) :=
        ⟨HS6.out.below b7, (HYW.out.below b7).mono fun g _ hg => ⟨by omega, fun hU => by have := hdn.out g hU; omega⟩, hqb, by omega, fun hU => by have := hdn.out q hU; omega⟩
      clear hW hq b7 hqb HC6 HB6 HS6 HYW
      go_wp2_with fail
      refine (samebytesY w7 w7.heap.size p _ _ lb' lb' (OwR.slz HC7.out) HB7.out.cc).mono ?_
      rintro e w8 ⟨rfl, b8⟩
      rw [decide_eq_true (rfl : lb' = lb')]
      have HC8 := Lib.hid (HC7.out.below b8)
      have HB8 := Lib.hid (HB7.out.ex (Ex.of_below b8))
      have HR8 := Lib.hid (HR7.out.below b8)
      have hs8 := b8.size
      have hle := enc_le d
      clear b8 HC7 HB7 HR7
      go_wp2_with fail
      refine (own_ok w8 U p k HR8.out.ks.led (by omega) ra _ rk lb' (HC8.out.mono (Nat.zero_le _)) (by omega) (fun g hg hU => by have := (HC8.out.blk hg).1; have := hdn.out g hU; omega)).mono ?_
      rintro e w9 ⟨rfl, fu, led⟩
      have HR9 := Lib.hid (HR8.out.own (Nat.le_refl _) HC8.out fu led)
      have HB9 := Lib.hid (HBS.out.ex HR9.out.ks.ex)
      clear fu led HR8 HB8 HC8 hdn
      generalize (fun b => U b ∨ (Value.slice ra (encD d).length rk).ownBlock = some b ∨ (w8.heap.size ≤ b ∧ b < w9.heap.size)) = U' at HR9
      have HSM : Hid (Sml d0) := ⟨by have := HN.out.1; omega, by have := HN.out.2.1; omega, fun c hc => by have := HN.out.2.2 c hc; omega⟩
      have HSy : Hid (SlD w9.heap.size w9 (.slice la d0.ls.length lc) (.slice ka d0.cs.length kc) d0) := by
        have := HR9.out.y.sl (by rw [HCM.out]; exact HSM.out)
        rw [HCM.out, hclen] at this
        exact this
      have HSw : Hid (SlD w9.heap.size w9 (.slice wa d0.ls.length wc) (.slice xa d0.cs.length xc) d0) := by
        have := HB9.out.wy.sl (by rw [HB9.out.wm]; exact HSM.out)
        rw [HB9.out.wm] at this
        have e : csw.length = d0.cs.length := by rw [← HB9.out.wm, List.length_map]
        rw [e] at this
        exact this
      have c0 := HR9.out.qb.cell 0
      have c1 := HR9.out.qb.cell 1
      have d1 := HB9.out.p8.cell 0
      have d2 := HB9.out.p8.cell 1
      simp only [List.getElem?_toArray, List.getElem?_cons_zero, List.getElem?_cons_succ] at c0 c1 d1 d2
      go_wp2_with fail
      (with_reducible refine (samedeed_ok _ _ _ _ _ d0 d0 HSy.out HSw.out).mono ?_)
      rintro e w10 ⟨rfl, b10⟩
      rw [sameD_rfl]
      have HCL := Lib.hid hclen
      clear hclen
      have HR10 := Lib.hid (HR9.out.below b10)
      clear b10 HR9 HB9 HSy HSw c0 c1 d1 d2 HSM
      obtain ⟨H1, hH1⟩ : ∃ x, x = wr.heap.size := ⟨_, rfl⟩
      rw [← hH1] at HR10
      clear hH1 hs5
      have HN8 := HN.out.1
      go_wp2
      go_loopw [18] (fun t wr' => ∃ (i : Nat) (ls : List Lp), i ≤ d0.ls.length ∧ t = .int .i64 (i : Int) ∧ Hid (Rd w0 d0 p k (k + 1) H1 q U' ⟨va, vn, vc'⟩ ds la lc ka kc ls cs wr' ∧ Plw d0 k i ls)) (fun t _ => d0.ls.length - (intOf t).toNat)
      case atStart => exact ⟨0, d0.ls, by omega, rfl, HR10.out, Plw.zero d0 k⟩
      case round =>
        obtain ⟨i, ls, hi, rfl, hR⟩ := hrel
        clear HR10
        have hln : ls.length = d0.ls.length := hR.out.2.len
        have c0 : wr.cell? ⟨q, 0, none⟩ = some (.slice la ls.length lc) := hR.out.1.qb.cell 0
        rw [hln] at c0
        have HLN := Lib.hid hln
        clear hln
        by_cases hit : i < d0.ls.length
        · have hit' : (i : Int) < (d0.ls.length : Int) := by omega
          have hi0 : (0 : Int) ≤ (i : Int) := by omega
          obtain ⟨g, rfl⟩ := own_a (a := la) (n := ls.length) (c := lc) hR.out.1.y.lp (by have := HLN.out; omega)
          obtain ⟨x, hx⟩ : ∃ x, ls[i]? = some x := ⟨_, List.getElem?_eq_getElem (by have := HLN.out; omega)⟩
          have e3 : wr.cell? ⟨g, i * 5 + 3, none⟩ = some (.int .i64 x.k) := at_cell (k := i) (n := tLp.n) (j := 3) (OwR.at hR.out.1.y.lp hx) rfl
          have f3 : wr.frozen? ⟨g, i * 5 + 3, none⟩ = false := OwR.frozen hR.out.1.y.lp _
          have HX := Lib.hid (And.intro (hR.out.1.setK hx (1000 * (k : Int) + (i : Int))) (hR.out.2.set hx))
          have hlcap := own_wf (a := some ⟨g, 0, none⟩) (n := ls.length) (c := lc) hR.out.1.y.lp
          rw [HLN.out] at hlcap
          clear hR hx
          go_wp2
          go_roundw
          all_goals first
            | exact ⟨i + 1, _, by omega, by go_num, HX.out⟩
            | ((repeat apply Exists.intro); exact ⟨⟨i + 1, _, by omega, by go_num, HX.out⟩, rfl⟩)
            | (simp [intOf] <;> omega)
        · have hie : i = d0.ls.length := by omega
          have hO : OwR tLp 0 wr (.slice la d0.ls.length lc) ls := by
            have := hR.out.1.y.lp
            rw [HLN.out] at this
            exact this
          have HO := Lib.hid hO
          have HPL := Lib.hid (show Plw d0 k d0.ls.length ls by rw [← hie]; exact hR.out.2)
          have HR11 := Lib.hid hR.out.1
          clear hO hR
          subst hie
          go_upto_region 19 with (at_builtin; refine wpl_pushL tLp rfl _ _ rfl 0 (.slice la d0.ls.length lc) ls rfl (HO.out.alloc _) _ 0 1 1 [⟨0, 0, 0, -(k : Int), 0⟩] rfl rfl (Nat.succ_pos _) (rangeNew (by rfl) (by rfl)) (by rw [HLN.out]; unfold maxLen; simp; omega) (by rw [HLN.out]; show _ * 40 ≤ _; simp; omega) (by simp) ?_; intro g' c' w11 hown hgrow hlies; rw [← HLN.out] at hgrow hlies; have hp11 := HR11.out.pushL (bAl (bRefl wr) _) hown hgrow hlies; have f11 := hp11.1.frozen 0; have c11 := hp11.1.cell 0; simp only [List.getElem?_toArray, List.getElem?_cons_zero] at c11)
          have HR12 := Lib.hid hp11.2
          have HC12 := Lib.hid (Pcw.zero k HCM.out)
          obtain ⟨lsF, hlsF⟩ : ∃ x, x = ls ++ [(⟨0, 0, 0, -(k : Int), 0⟩ : Lp)] := ⟨_, rfl⟩
          rw [← hlsF] at HR12
          have HLF := Lib.hid hlsF
          have HN512 := HN.out.2.1
          clear hown hgrow hlies hp11 f11 c11 c0 HR11 HO hlsF
          generalize World.setCell w11 ⟨q, 0, none⟩ _ = w12 at HR12 ⊢
          go_wp2
          go_loopw [19] (fun t wr' => ∃ (i : Nat) (cs : List (Cl × Sn)), i ≤ d0.cs.length ∧ t = .int .i64 (i : Int) ∧ Hid (Rd w0 d0 p k (k + 1) H1 q U' ⟨va, vn, vc'⟩ ds (some ⟨g', 0, none⟩) c' ka kc lsF cs wr' ∧ Pcw d0 k i 0 cs)) (fun t _ => d0.cs.length - (intOf t).toNat)
          case atStart => exact ⟨0, cs, by omega, rfl, HR12.out, HC12.out⟩
          case round =>
            obtain ⟨i, cs, hi, rfl, hR⟩ := hrel
            clear HR12 HC12
            have hln : cs.length = d0.cs.length := hR.out.2.len
            have c1 : wr.cell? ⟨q, 1, none⟩ = some (.slice ka cs.length kc) := hR.out.1.qb.cell 1
            rw [hln] at c1
            have HLC := Lib.hid hln
            by_cases hit : i < d0.cs.length
            · have hit' : (i : Int) < (d0.cs.length : Int) := by omega
              have hi0 : (0 : Int) ≤ (i : Int) := by omega
              obtain ⟨b1, rfl⟩ := own_a (a := ka) (n := cs.length) (c := kc) hR.out.1.y.cl (by omega)
              have hcap := own_wf (a := some ⟨b1, 0, none⟩) (n := cs.length) (c := kc) hR.out.1.y.cl
              rw [hln] at hcap
              obtain ⟨c, hc⟩ : ∃ c, d0.cs[i]? = some c := ⟨_, List.getElem?_eq_getElem hit⟩
              obtain ⟨L, hL⟩ : ∃ n, n = c.l.length := ⟨_, rfl⟩
              have hL3 : L ≤ 3540 := by rw [hL]; exact HN.out.2.2 c (List.mem_of_getElem? hc)
              have HCI := Lib.hid (And.intro hc hL.symm)
              have HR13 := Lib.hid hR.out
              clear hR hln hc hL
              go_wp2
              go_loopw [20] (fun t wr' => ∃ (j : Nat) (cs : List (Cl × Sn)), j ≤ L ∧ t = .int .i64 (j : Int) ∧ Hid (Rd w0 d0 p k (k + 1) H1 q U' ⟨va, vn, vc'⟩ ds (some ⟨g', 0, none⟩) c' (some ⟨b1, 0, none⟩) kc lsF cs wr' ∧ Pcw d0 k i j cs)) (fun t _ => L - (intOf t).toNat)
              case atStart => exact ⟨0, cs, by omega, rfl, HR13.out⟩
              case round =>
                obtain ⟨j, cs, hj, rfl, hR⟩ := hrel
                clear HR13 c1
                have hln : cs.length = d0.cs.length := hR.out.2.len
                have c1 : wr.cell? ⟨q, 1, none⟩ = some (.slice (some ⟨b1, 0, none⟩) cs.length kc) := hR.out.1.qb.cell 1
                rw [hln] at c1
                obtain ⟨⟨x, s⟩, hx⟩ : ∃ x, cs[i]? = some x := ⟨_, List.getElem?_eq_getElem (by omega)⟩
                have hxl : x.l.length = L := by rw [(hR.out.2.cu c _ HCI.out.1 hx).1]; exact HCI.out.2
                obtain ⟨hsn, hso, hsd⟩ := hR.out.1.y.co _ (List.mem_of_getElem? hx)
                simp only at hsn hso hsd
                obtain ⟨sa, sn, sc⟩ := s
                simp only at hsn
                have hscap := own_wf hso
                rw [hxl] at hsn
                subst hsn
                have e127 : wr.cell? ⟨b1, i * 128 + 127, none⟩ = some (.slice sa sn sc) := at_cell (k := i) (n := tCl.n) (j := 127) (OwR.at hR.out.1.y.cl hx) (by rw [Array.getElem?_toList]; exact bx_last _ _ _)
                have HLX := Lib.hid (And.intro hln hxl)
                have HSO := Lib.hid hso
                clear hln hso hsd
                by_cases hjt : j < sn
                · have hjt' : (j : Int) < (sn : Int) := by omega
                  have hj0 : (0 : Int) ≤ (j : Int) := by omega
                  obtain ⟨b2, rfl⟩ := own_a HSO.out (by omega)
                  obtain ⟨y, hy⟩ : ∃ y, x.l[j]? = some y := ⟨_, List.getElem?_eq_getElem (by omega)⟩
                  have e2 : wr.cell? ⟨b2, j * 3 + 2, none⟩ = some (.int .i64 y.c) := at_cell (k := j) (n := tC3.n) (j := 2) (OwR.at HSO.out hy) rfl
                  have f2 : wr.frozen? ⟨b2, j * 3 + 2, none⟩ = false := OwR.frozen HSO.out _
                  have HX := Lib.hid (And.intro (hR.out.1.setC hx hy rfl (100000 * (k : Int) + 1000 * (i : Int) + (j : Int))) (hR.out.2.setC hx hy))
                  clear hR hx hy hxl
                  go_wp2
                  go_roundw
                  all_goals first
                    | exact ⟨j + 1, _, by omega, by go_num, HX.out⟩
                    | ((repeat apply Exists.intro); exact ⟨⟨j + 1, _, by omega, by go_num, HX.out⟩, rfl⟩)
                    | (simp [intOf] <;> omega)
                · obtain rfl : j = sn := by omega
                  have hHX := Lib.hid hx
                  have hV1 : IntKind.i64.wrap (-1000 * (k : Int)) = -1000 * (k : Int) := IntWalk.i64_in _ (by omega)
                  have hV2 : IntKind.i64.wrap (-1000 * (k : Int) - (i : Int)) = -1000 * (k : Int) - (i : Int) := IntWalk.i64_in _ (by omega)
                  go_upto_region 26 with (fail)
                  refine wp_region_last 18 (fun w' => w'.cell? ⟨q, 1, none⟩ = some (.slice (some ⟨b1, 0, none⟩) d0.cs.length kc) ∧ w'.cell? ⟨b1, i * 128 + 127, none⟩ = some (.slice sa j sc)) mix ?_
                  have cv : wr.drew.cell? ⟨q, 1, none⟩ = some (.slice (some ⟨b1, 0, none⟩) d0.cs.length kc) ∧ wr.drew.cell? ⟨b1, i * 128 + 127, none⟩ = some (.slice sa j sc) := ⟨c1, e127⟩
                  have HCS := Lib.hid (And.intro c1 e127)
                  clear c1 e127 hx
                  refine wpAnyL_take (i := 0) (v := .pointer (some ⟨q, 1, none⟩)) rfl (by kernel_rfl) (by kernel_rfl) (by kernel_rfl) (fun _ _ _ h => h) rfl (by kernel_rfl) (Or.inl ⟨by rfl, fun w' hw' => by (try go_split_ands); go_simp⟩) cv ?_
                  simp only [Act.put, List.getElem_toArray, List.getElem_cons_zero, List.setIfInBounds_toArray, List.set_cons_zero, List.set_cons_succ]
                  refine wpAnyL_take (i := 1) (v := .slice (some ⟨b1, 0, none⟩) d0.cs.length kc) rfl (by kernel_rfl) (by kernel_rfl) (by kernel_rfl) (fun _ _ _ h => h) rfl (by kernel_rfl) (Or.inl ⟨by rfl, fun w' hw' => by (try go_split_ands); go_simp⟩) cv ?_
                  simp only [Act.put, List.getElem_toArray, List.getElem_cons_zero, List.getElem_cons_succ, List.setIfInBounds_toArray, List.set_cons_zero, List.set_cons_succ]
                  refine wpAnyL_take (i := 2) (v := .int .i64 (i : Int)) rfl (by kernel_rfl) (by kernel_rfl) (by kernel_rfl) (fun _ _ _ h => h) rfl (by kernel_rfl) (Or.inl ⟨by rfl, fun w' hw' => by (try go_split_ands); go_simp⟩) cv ?_
                  simp only [Act.put, List.getElem_toArray, List.getElem_cons_zero, List.getElem_cons_succ, List.setIfInBounds_toArray, List.set_cons_zero, List.set_cons_succ]
                  refine wpAnyL_take (i := 3) (v := .pointer (some ⟨q, 1, none⟩)) rfl (by kernel_rfl) (by kernel_rfl) (by kernel_rfl) (fun _ _ _ h => h) rfl (by kernel_rfl) (Or.inl ⟨by rfl, fun w' hw' => by (try go_split_ands); go_simp⟩) cv ?_
                  simp only [Act.put, List.getElem_toArray, List.getElem_cons_zero, List.getElem_cons_succ, List.setIfInBounds_toArray, List.set_cons_zero, List.set_cons_succ]
                  refine wpAnyL_take (i := 4) (v := .slice (some ⟨b1, 0, none⟩) d0.cs.length kc) rfl (by kernel_rfl) (by kernel_rfl) (by kernel_rfl) (fun _ _ _ h => h) rfl (by kernel_rfl) (Or.inl ⟨by rfl, fun w' hw' => by (try go_split_ands); go_simp⟩) cv ?_
                  simp only [Act.put, List.getElem_toArray, List.getElem_cons_zero, List.getElem_cons_succ, List.setIfInBounds_toArray, List.set_cons_zero, List.set_cons_succ]
                  refine wpAnyL_take (i := 5) (v := .int .i64 (i : Int)) rfl (by kernel_rfl) (by kernel_rfl) (by kernel_rfl) (fun _ _ _ h => h) rfl (by kernel_rfl) (Or.inl ⟨by rfl, fun w' hw' => by (try go_split_ands); go_simp⟩) cv ?_
                  simp only [Act.put, List.getElem_toArray, List.getElem_cons_zero, List.getElem_cons_succ, List.setIfInBounds_toArray, List.set_cons_zero, List.set_cons_succ]
                  refine wpAnyL_take (i := 6) (v := .pointer (some ⟨b1, i * 128, none⟩)) rfl (by kernel_rfl) (by kernel_rfl) (by kernel_rfl) (fun _ _ _ h => h) rfl (by kernel_rfl) (Or.inl ⟨by rfl, fun w' hw' => by (try go_split_ands); go_simp⟩) cv ?_
                  simp only [Act.put, List.getElem_toArray, List.getElem_cons_zero, List.getElem_cons_succ, List.setIfInBounds_toArray, List.set_cons_zero, List.set_cons_succ]
                  refine wpAnyL_take (i := 7) (v := .pointer (some ⟨b1, i * 128 + 127, none⟩)) rfl (by kernel_rfl) (by kernel_rfl) (by kernel_rfl) (fun _ _ _ h => h) rfl (by kernel_rfl) (Or.inl ⟨by rfl, fun w' hw' => by (try go_split_ands); go_simp⟩) cv ?_
                  simp only [Act.put, List.getElem_toArray, List.getElem_cons_zero, List.getElem_cons_succ, List.setIfInBounds_toArray, List.set_cons_zero, List.set_cons_succ]
                  refine wpAnyL_take (i := 8) (v := .slice sa j sc) rfl (by kernel_rfl) (by kernel_rfl) (by kernel_rfl) (fun _ _ _ h => h) rfl (by kernel_rfl) (Or.inl ⟨by rfl, fun w' hw' => by (try go_split_ands); go_simp⟩) cv ?_
                  simp only [Act.put, List.getElem_toArray, List.getElem_cons_zero, List.getElem_cons_succ, List.setIfInBounds_toArray, List.set_cons_zero, List.set_cons_succ]
                  refine wpAnyL_take (i := 9) (v := .int .i64 (k : Int)) rfl (by kernel_rfl) (by kernel_rfl) (by kernel_rfl) (fun _ _ _ h => h) rfl (by kernel_rfl) (Or.inl ⟨by rfl, fun w' hw' => by (try go_split_ands); go_simp⟩) cv ?_
                  simp only [Act.put, List.getElem_toArray, List.getElem_cons_zero, List.getElem_cons_succ, List.setIfInBounds_toArray, List.set_cons_zero, List.set_cons_succ]
                  refine wpAnyL_take (i := 10) (v := .int .i64 (-1000 * (k : Int))) rfl (by kernel_rfl) (by kernel_rfl) (by kernel_rfl) (fun _ _ _ h => h) rfl (by kernel_rfl) (Or.inl ⟨by rfl, fun w' hw' => by (try go_split_ands); go_simp⟩) cv ?_
                  simp only [Act.put, List.getElem_toArray, List.getElem_cons_zero, List.getElem_cons_succ, List.setIfInBounds_toArray, List.set_cons_zero, List.set_cons_succ]
                  refine wpAnyL_take (i := 11) (v := .int .i64 (i : Int)) rfl (by kernel_rfl) (by kernel_rfl) (by kernel_rfl) (fun _ _ _ h => h) rfl (by kernel_rfl) (Or.inl ⟨by rfl, fun w' hw' => by (try go_split_ands); go_simp⟩) cv ?_
                  simp only [Act.put, List.getElem_toArray, List.getElem_cons_zero, List.getElem_cons_succ, List.setIfInBounds_toArray, List.set_cons_zero, List.set_cons_succ]
                  refine wpAnyL_take (i := 12) (v := .int .i64 (-1000 * (k : Int) - (i : Int))) rfl (by kernel_rfl) (by kernel_rfl) (by kernel_rfl) (fun _ _ _ h => h) rfl (by kernel_rfl) (Or.inl ⟨by rfl, fun w' hw' => by (try go_split_ands); go_simp⟩) cv ?_
                  simp only [Act.put, List.getElem_toArray, List.getElem_cons_zero, List.getElem_cons_succ, List.setIfInBounds_toArray, List.set_cons_zero, List.set_cons_succ]
                  refine wpAnyL_take (i := 13) (v := .agg #[.int .i64 0, .int .i64 0, .int .i64 (-1000 * (k : Int) - (i : Int))]) rfl (by kernel_rfl) (by kernel_rfl) (by kernel_rfl) (fun _ _ _ h => h) rfl (by kernel_rfl) (Or.inl ⟨by rfl, fun w' hw' => by (try go_split_ands); go_simp⟩) cv ?_
                  simp only [Act.put, List.getElem_toArray, List.getElem_cons_zero, List.getElem_cons_succ, List.setIfInBounds_toArray, List.set_cons_zero, List.set_cons_succ]
                  refine wpAnyL_one (i := 14) (by kernel_rfl) rfl (fun K hK => ?_)
                  refine step_none rfl (wp_gen fun A hA => ?_)
                  have hE : A.tmps[144]?.getD undef = .agg #[.int .i64 0, .int .i64 0, .int .i64 (-1000 * (k : Int) - (i : Int))] := by rw [hA]; rfl
                  have HA := Lib.hid hA
                  clear hA
                  go_simp
                  obtain ⟨X, hX⟩ : ∃ X, X = (wr.alloc (.cells #[.int .i64 0, .int .i64 0, .int .i64 (-1000 * (k : Int) - (i : Int))] 63)).drew := ⟨_, rfl⟩
                  have hb1 : Below wr.heap.size wr X := by rw [hX]; exact (bAl (bRefl wr) _).drew
                  have HN1 : Hid (Blk X wr.heap.size 63 #[.int .i64 0, .int .i64 0, .int .i64 (-1000 * (k : Int) - (i : Int))]) := by rw [hX]; exact (Blk.new wr _ _).drew
                  have ck1 : X.cell? ⟨q, 1, none⟩ = some (.slice (some ⟨b1, 0, none⟩) d0.cs.length kc) ∧ X.cell? ⟨b1, i * 128 + 127, none⟩ = some (.slice sa j sc) :=
                    ⟨(hb1.cell (World.block_lt_of_cell? _ _ HCS.out.1)).trans HCS.out.1, (hb1.cell (World.block_lt_of_cell? _ _ HCS.out.2)).trans HCS.out.2⟩
                  rw [← hX]
                  clear hX
                  refine hK.out _ _ (fun _ => ck1) ?_
                  clear hK K hE
                  obtain rfl := HA.out
                  clear HA
                  simp only [List.setIfInBounds_toArray, List.set_cons_zero, List.set_cons_succ]
                  refine wpAnyL_one (i := 15) (by kernel_rfl) rfl (fun K hK => ?_)
                  have hKo : OwR tC3 0 X (.slice sa j sc) x.l := OwR.below HSO.out hb1
                  have hxj := HLX.out.2
                  refine step_pushL tC3 rfl (.tmp 139) (.tmp 145) rfl 0 (.slice sa j sc) x.l (by rfl) hKo wr.heap.size 0 1 1 [⟨0, 0, -1000 * (k : Int) - (i : Int)⟩] (by rfl) rfl (Nat.succ_pos _) (rangeBlk HN1.out (by rfl)) (by rw [hxj]; simp; unfold maxLen; omega) (by rw [hxj]; show _ * 24 ≤ _; simp; omega) (Nat.zero_le _) ?_
                  intro g2 c2 w13 hown hgrow hlies
                  obtain ⟨hq13, hk13, hr13⟩ := hR.out.1.pushC hb1 hHX.out hown hgrow hlies
                  have c13 : w13.cell? ⟨q, 1, none⟩ = some (.slice (some ⟨b1, 0, none⟩) d0.cs.length kc) := by have := hq13.cell 1; rw [HLX.out.1] at this; exact this
                  have e13 : w13.cell? ⟨b1, i * 128 + 127, none⟩ = some (.slice sa j sc) := at_cell (k := i) (n := tCl.n) (j := 127) (OwR.at hk13 hHX.out) (by rw [Array.getElem?_toList]; exact bx_last _ _ _)
                  have f13 : w13.frozen? ⟨b1, i * 128 + 127, none⟩ = false := OwR.frozen hk13 _
                  have cv13 : w13.cell? ⟨q, 1, none⟩ = some (.slice (some ⟨b1, 0, none⟩) d0.cs.length kc) ∧ w13.cell? ⟨b1, i * 128 + 127, none⟩ = some (.slice sa j sc) := ⟨c13, e13⟩
                  rw [hxj] at hr13
                  have HR14 := Lib.hid hr13
                  simp only [Act.put, List.setIfInBounds_toArray]
                  refine hK.out _ _ (fun _ => cv13) ?_
                  clear hK K
                  refine wpAnyL_one (i := 16) (by kernel_rfl) rfl (fun K hK => ?_)
                  refine step_none rfl (wp_gen fun A hA => ?_)
                  have hE : A.tmps[132]?.getD undef = .slice (some ⟨b1, 0, none⟩) d0.cs.length kc := by rw [hA]; rfl
                  have hE2 : A.tmps[133]?.getD undef = .int .i64 (i : Int) := by rw [hA]; rfl
                  have HA := Lib.hid hA
                  clear hA
                  go_simp
                  refine hK.out _ _ (fun _ => cv13) ?_
                  clear hK K hE hE2
                  obtain rfl := HA.out
                  clear HA
                  simp only [List.getElem_toArray, List.getElem_cons_zero, List.getElem_cons_succ, List.setIfInBounds_toArray, List.set_cons_zero, List.set_cons_succ]
                  refine wpAnyL_one (i := 17) (by kernel_rfl) rfl (fun K hK => ?_)
                  refine step_none rfl (wp_gen fun A hA => ?_)
                  have hE : A.tmps[147]?.getD undef = .pointer (some ⟨b1, i * 128, none⟩) := by rw [hA]; rfl
                  have HA := Lib.hid hA
                  clear hA
                  go_simp
                  refine hK.out _ _ (fun _ => cv13) ?_
                  clear hK K hE
                  obtain rfl := HA.out
                  clear HA
                  simp only [List.setIfInBounds_toArray, List.set_cons_zero, List.set_cons_succ]
                  refine wpAnyL_one (i := 18) (by kernel_rfl) rfl (fun K hK => ?_)
                  refine step_none rfl (wp_gen fun A hA => ?_)
                  have hE : A.tmps[148]?.getD undef = .pointer (some ⟨b1, i * 128 + 127, none⟩) := by rw [hA]; rfl
                  have hE2 : A.tmps[146]?.getD undef = .slice (some ⟨g2, 0, none⟩) (x.l.length + 1) c2 := by rw [hA]; rfl
                  have HA := Lib.hid hA
                  clear hA
                  go_simp
                  refine hK.out _ _ (fun h => absurd rfl h) ?_
                  clear hK K hE hE2
                  obtain rfl := HA.out
                  clear HA
                  refine wpAnyL_done (by kernel_rfl) ?_ _
                  obtain ⟨cs1, hcs1⟩ : ∃ z, z = cs.set i ((⟨x.d, x.f, x.l ++ [⟨0, 0, -1000 * (k : Int) - (i : Int)⟩]⟩ : Cl), (⟨some ⟨g2, 0, none⟩, j + 1, c2⟩ : Sn)) := ⟨_, rfl⟩
                  rw [← hcs1] at HR14
                  have hlen1 : cs1.length = d0.cs.length := by rw [hcs1, List.length_set]; exact HLX.out.1
                  have hx1 : cs1[i]? = some ((⟨x.d, x.f, x.l ++ [⟨0, 0, -1000 * (k : Int) - (i : Int)⟩]⟩ : Cl), (⟨some ⟨g2, 0, none⟩, j + 1, c2⟩ : Sn)) := by
                    rw [hcs1, List.getElem?_set, if_pos rfl, if_pos (by rw [HLX.out.1]; exact hit)]
                  obtain ⟨w14, hw14⟩ : ∃ z, z = w13.setCell ⟨b1, i * 128 + 127, none⟩ (.slice (some ⟨g2, 0, none⟩) (j + 1) c2) := ⟨_, rfl⟩
                  rw [← hw14] at HR14 ⊢
                  have c1 : w14.cell? ⟨q, 1, none⟩ = some (.slice (some ⟨b1, 0, none⟩) d0.cs.length kc) := by have := HR14.out.qb.cell 1; rw [hlen1] at this; exact this
                  have e14 : w14.cell? ⟨b1, i * 128 + 3, none⟩ = some (.int .i64 (x.f 0).m) := at_cell (k := i) (n := tCl.n) (j := 3) (OwR.at HR14.out.y.cl hx1) (by rw [Array.getElem?_toList]; exact (bx_tag _ _ _ (k := 0) (by omega)).2.2)
                  have f14 : w14.frozen? ⟨b1, i * 128 + 3, none⟩ = false := OwR.frozen HR14.out.y.cl _
                  have HPC : Hid (Pcw d0 k (i + 1) 0 (cs1.set i ((⟨x.d, (fun j => if j = 0 then ⟨(x.f 0).k, (x.f 0).t, 7 * (k : Int) + (i : Int)⟩ else x.f j), x.l ++ [⟨0, 0, -1000 * (k : Int) - (i : Int)⟩]⟩ : Cl), (⟨some ⟨g2, 0, none⟩, j + 1, c2⟩ : Sn)))) := by
                    refine Pcw.fin (f := fun j => if j = 0 then ⟨(x.f 0).k, (x.f 0).t, 7 * (k : Int) + (i : Int)⟩ else x.f j) (s' := ⟨some ⟨g2, 0, none⟩, j + 1, c2⟩) hR.out.2 HCI.out.1 hHX.out (by rw [HCI.out.2]; exact Nat.le_refl _) (by rw [List.length_set, hcs1, List.length_set]) (fun m hm => ?_) (fun y hy => ?_) rfl
                    · rw [hcs1, List.getElem?_set_ne (fun e => hm e.symm), List.getElem?_set_ne (fun e => hm e.symm)]
                    · rw [List.getElem?_set, if_pos rfl, if_pos (by rw [hlen1]; exact hit)] at hy
                      injection hy with hy
                      exact hy.symm
                  have HX := Lib.hid (And.intro (HR14.out.setM hx1 (7 * (k : Int) + (i : Int))) HPC.out)
                  clear hR HR14 HPC hx1 hHX HCI hcs1 hw14 hown hgrow hlies hq13 hk13 hr13 c13 e13 f13 cv13 HLX hxj hKo HSO HCS ck1 HN1 hb1 hscap cv
                  go_wp2
                  go_roundw
                  all_goals first
                    | exact ⟨i + 1, _, by omega, by go_num, HX.out⟩
                    | ((repeat apply Exists.intro); exact ⟨⟨i + 1, _, by omega, by go_num, HX.out⟩, rfl⟩)
                    | (simp [intOf] <;> omega)
            · have hie : i = d0.cs.length := by omega
              subst hie
              have HRd := Lib.hid hR.out.1
              have HKD : Hid (Kd d0 k lsF (cs ++ [((⟨true, f0, []⟩ : Cl), (⟨none, 0, 0⟩ : Sn))])) := by
                rw [HLF.out]
                exact kd_of HPL.out (Nat.le_refl _) hR.out.2 (Nat.le_refl _)
              have hO : OwR tCl 0 wr (.slice ka d0.cs.length kc) cs := by
                have := hR.out.1.y.cl
                rw [hln] at this
                exact this
              have HO := Lib.hid hO
              clear hO hR hln
              go_upto_region 29 with (first
                | (refine wpl_builtS rfl 61 [(0, .const (.bool true))] rfl builtDead ?_)
                | (refine wpl_one rfl rfl (D := bx (.bool true) f0 (.slice none 0 0)) rfl Try.underlying24 sizeClaim zeroClaim (bx_size _ _ _) (by omega) (by omega) ?_)
                | (at_builtin; refine wpl_pushL tCl rfl _ _ rfl 0 (.slice ka d0.cs.length kc) cs rfl (HO.out.alloc _) _ 0 1 1 [((⟨true, f0, []⟩ : Cl), (⟨none, 0, 0⟩ : Sn))] rfl rfl (Nat.succ_pos _) (rangeNew (by rfl) (by rw [RT.cs_one]; rfl)) (by rw [HLC.out]; unfold maxLen; simp; omega) (by rw [HLC.out]; show _ * 1040 ≤ _; simp; omega) (by simp) ?_; intro g2 c2 w13 hown hgrow hlies; rw [← HLC.out] at hgrow hlies; have hp13 := HRd.out.pushK (bAl (bRefl wr) _) hown rfl hgrow hlies; have f13 := hp13.1.frozen 1; have c13 := hp13.1.cell 1; simp only [List.getElem?_toArray, List.getElem?_cons_zero, List.getElem?_cons_succ] at c13))
              have HR15 := Lib.hid hp13.2
              obtain ⟨csF, hcsF⟩ : ∃ x, x = cs ++ [((⟨true, f0, []⟩ : Cl), (⟨none, 0, 0⟩ : Sn))] := ⟨_, rfl⟩
              rw [← hcsF] at HR15 HKD
              have HLF2 := Lib.hid (show csF.length = cs.length + 1 by rw [hcsF]; simp)
              clear hown hgrow hlies hp13 f13 c13 c1 HRd HO hcsF
              generalize World.setCell w13 ⟨q, 1, none⟩ _ = w14 at HR15 ⊢
              have HAO := Lib.hid HR15.out.ks.ao
              have hvn : vn = ds.length := own_n HAO.out
              subst hvn
              have hdk : ds.length = k := HR15.out.ks.an
              have c0 := HR15.out.qb.cell 0
              have c1 := HR15.out.qb.cell 1
              simp only [List.getElem?_toArray, List.getElem?_cons_zero, List.getElem?_cons_succ] at c0 c1
              have hs15 : w0.heap.size ≤ w14.heap.size := HR15.out.ks.ex.size
              have hwf := own_wf (a := va) (n := ds.length) (c := vc') HAO.out
              go_wp2_with (at_builtin; refine wpl_pushL tD rfl _ _ rfl w0.heap.size (.slice va ds.length vc') ds rfl (HAO.out.alloc _) _ 0 1 1 [((⟨some ⟨g', 0, none⟩, lsF.length, c'⟩ : Sn), (⟨some ⟨g2, 0, none⟩, csF.length, c2⟩ : Sn))] rfl rfl (Nat.succ_pos _) (rangeNew (by rfl) (by rfl)) (by unfold maxLen; simp; omega) (by show _ * 48 ≤ _; simp; omega) (by simp; omega) ?_; intro g3 c3 w16 hown hgrow hlies; have HK16 := Lib.hid (HR15.out.kept HKD.out (bAl (bRefl w14) _) hown hgrow hlies))
              clear hown hgrow hlies HR15 HAO HKD c0 c1
              have HK17 := HK16.out
              rw [hdk] at HK17
              go_roundw
              all_goals first
                | exact ⟨k + 1, _, _, ⟨some ⟨g3, 0, none⟩, k + 1, c3⟩, _, by omega, rfl, by go_num, HK17⟩
                | ((repeat apply Exists.intro); exact ⟨⟨k + 1, _, _, ⟨some ⟨g3, 0, none⟩, k + 1, c3⟩, _, by omega, rfl, by go_num, HK17⟩, rfl⟩)
                | (simp [intOf] <;> omega)
    · have hk4 : k = 4 := by omega
      subst hk4
      have hvn : vn = ds.length := own_n hS.out.ao
      have hd4 : ds.length = 4 := hS.out.an
      rw [hd4] at hvn
      subst hvn
      have hwf := own_wf (a := va) (n := 4) (c := vc') hS.out.ao
      go_wp2
      go_loopw [21] (fun t wr' => ∃ m : Nat, m ≤ 4 ∧ t = .int .i64 (m : Int) ∧ Hid (Ks w0 d0 p 4 4 h1 U ⟨va, 4, vc'⟩ ds wr')) (fun t _ => 4 - (intOf t).toNat)
      case atStart => exact ⟨0, by omega, rfl, hS.out⟩
      case round =>
        obtain ⟨m, hm, rfl, hS2⟩ := hrel
        clear hS
        by_cases hmt : m < 4
        · have hmt' : (m : Int) < 4 := by omega
          have hm0 : (0 : Int) ≤ (m : Int) := by omega
          obtain ⟨ab, rfl⟩ := own_a (a := va) (n := 4) (c := vc') hS2.out.ao (by omega)
          obtain ⟨⟨⟨sa, sn, sc⟩, ⟨ta, tn, tc⟩⟩, hs⟩ : ∃ s, ds[m]? = some s := ⟨_, List.getElem?_eq_getElem (by omega)⟩
          obtain ⟨ls, cs, hK, n1, n2, hY⟩ := hS2.out.ar m _ hs
          simp only at n1 n2 hY
          have n3 := hK.nl
          have n4 := hK.nc
          have e0 : wr.cell? ⟨ab, m * 2, none⟩ = some (.slice sa sn sc) := at_cell (k := m) (n := tD.n) (j := 0) (OwR.at hS2.out.ao hs) rfl
          have e1 : wr.cell? ⟨ab, m * 2 + 1, none⟩ = some (.slice ta tn tc) := at_cell (k := m) (n := tD.n) (j := 1) (OwR.at hS2.out.ao hs) rfl
          rw [n1, n3] at e0
          rw [n2, n4] at e1
          have HY := Lib.hid hY
          have HK := Lib.hid hK
          clear hY hK n1 n2 n3 n4 hs
          go_upto_region 34 with (fail)
          generalize hW : wr.alloc _ = w2
          obtain ⟨r, hr⟩ : ∃ p, p = wr.heap.size := ⟨_, rfl⟩
          have b2 : Below wr.heap.size wr w2 := by rw [← hW]; exact bAl (bRefl wr) _
          have hrb : Blk w2 r 26 #[.slice sa (d0.ls.length + 1) sc, .slice ta (d0.cs.length + 1) tc] := by rw [← hW, hr]; exact Blk.new _ _ _
          rw [← hr]
          have HS3 := Lib.hid (hS2.out.below b2)
          have HY3 := Lib.hid (HY.out.below b2)
          have HB3 := Lib.hid (HBS.out.ex HS3.out.ex)
          clear hW hr b2 hS2 HY e0 e1
          have r0 := hrb.cell 0
          have r1 := hrb.cell 1
          have q0 := HB3.out.p8.cell 0
          have q1 := HB3.out.p8.cell 1
          simp only [List.getElem?_toArray, List.getElem?_cons_zero, List.getElem?_cons_succ] at r0 r1 q0 q1
          clear hrb
          obtain ⟨g, hg, hsc1, hsc2, hL1, hL2⟩ := kept_loops HY3.out HK.out
          subst hg
          have HL1 := Lib.hid hL1
          have HN1 := HN.out.1
          have HN2 := HN.out.2.1
          clear hL1
          go_wp2
          clear hL2
          go_loopw [23] (fun t wr' => ∃ i : Nat, i ≤ d0.ls.length ∧ t = .int .i64 (i : Int) ∧ wr' = w2) (fun t _ => d0.ls.length - (intOf t).toNat)
          case atStart => exact ⟨0, by omega, rfl, rfl⟩
          case round =>
            obtain ⟨i, hi, rfl, hw⟩ := hrel
            have hw := hw.symm
            subst hw
            by_cases hit : i < d0.ls.length
            · have hit' : (i : Int) < (d0.ls.length : Int) := by omega
              have hi0 : (0 : Int) ≤ (i : Int) := by omega
              have eL := HL1.out i hit
              go_wp2
              go_roundw
              all_goals first
                | exact ⟨i + 1, by omega, by go_num, trivial⟩
                | ((repeat apply Exists.intro); exact ⟨⟨i + 1, by omega, by go_num, trivial⟩, rfl⟩)
                | (simp [intOf] <;> omega)
            · clear HL1
              go_wp2
              go_loopw [24] (fun t wr' => ∃ i : Nat, i ≤ d0.cs.length ∧ t = .int .i64 (i : Int) ∧ wr' = w2) (fun t _ => d0.cs.length - (intOf t).toNat)
              case atStart => exact ⟨0, by omega, rfl, rfl⟩
              case round =>
                clear hit hi
                obtain ⟨i, hi, rfl, hw⟩ := hrel
                have hw := hw.symm
                subst hw
                by_cases hit : i < d0.cs.length
                · have hit' : (i : Int) < (d0.cs.length : Int) := by omega
                  have hi0 : (0 : Int) ≤ (i : Int) := by omega
                  obtain ⟨c, hc⟩ : ∃ c, d0.cs[i]? = some c := ⟨_, List.getElem?_eq_getElem hit⟩
                  have hN3 := HN.out.2.2 c (List.mem_of_getElem? hc)
                  obtain ⟨b1, yb, yc, hta, k1, k2, k3, k4, f1, f2, f3, f4⟩ := kept_claim HY3.out HK.out hc
                  obtain ⟨xb, za, zc, hxa, l1, l2, l3, l4, f5⟩ := want_claim HB3.out.wy HB3.out.wm hc
                  subst hta
                  subst hxa
                  have HF := Lib.hid (And.intro f1 f3)
                  clear f3 hc
                  go_wp2
                  go_loopw [26] (fun t wr' => ∃ j : Nat, j ≤ c.l.length ∧ t = .int .i64 (j : Int) ∧ wr' = w2) (fun t _ => c.l.length - (intOf t).toNat)
                  case atStart => exact ⟨0, by omega, rfl, rfl⟩
                  case round =>
                    clear f2 f4 f5
                    obtain ⟨j, hj, rfl, hw⟩ := hrel
                    have hw := hw.symm
                    subst hw
                    by_cases hjt : j < c.l.length
                    · have hjt' : (j : Int) < (c.l.length : Int) := by omega
                      have hj0 : (0 : Int) ≤ (j : Int) := by omega
                      have e3 := HF.out.2 j hjt
                      go_wp2
                      go_roundw
                      all_goals first
                        | exact ⟨j + 1, by omega, by go_num, trivial⟩
                        | ((repeat apply Exists.intro); exact ⟨⟨j + 1, by omega, by go_num, trivial⟩, rfl⟩)
                        | (simp [intOf] <;> omega)
                    · go_wp2
                      go_roundw
                      all_goals first
                        | exact ⟨i + 1, by omega, by go_num, trivial⟩
                        | ((repeat apply Exists.intro); exact ⟨⟨i + 1, by omega, by go_num, trivial⟩, rfl⟩)
                        | (simp [intOf] <;> omega)
                · go_wp2
                  go_roundw
                  all_goals first
                    | exact ⟨m + 1, by omega, by go_num, HS3.out⟩
                    | ((repeat apply Exists.intro); exact ⟨⟨m + 1, by omega, by go_num, HS3.out⟩, rfl⟩)
                    | (simp [intOf] <;> omega)
        · have h4 : m = 4 := by omega
          subst h4
          have hp := hqp.2.2
          have HLb := Lib.hid (HBS.out.ex hS2.out.ex).bel
          go_wp2_with fail
          refine (done_ok wr U p 4 hS2.out.led (by omega)).mono ?_
          rintro e w3 ⟨rfl, fu⟩
          have hb := last_below HLb.out HBS.out.bel.size hp hS2.out fu
          go_wp2
          go_ret
          exact ⟨rfl, hb⟩
end Go.Proofs.Ytfdjdpbiccclfaa
namespace Go.Proofs.Ytfdjdpbiccclfaa
open Go Go.RowKit Go.Wr
open Go.ChangeShapes Go.WideShapes Go.ChangeAt Go.Deep
set_option maxHeartbeats 4000000
set_option maxRecDepth 100000 in
theorem deedFresh_lifted (os : Os) (started : os.Started) (H : Type) (enc : TypeId × Value → H) :
    ReturnsInHanded {} Try.checked os 6 .any (Rows.deedFreshSpec.pre6 enc Try.prog Try.f6 Rows.deedFreshRow.domain false) (Rows.deedFreshSpec.post enc Try.prog Try.f6 false true false false) := by
  refine returnsInHanded_of_change_sized (C := Try.checked) own started (by kernel_rfl) Try.func6
    (ChangeSpec.witness6 (enc := enc) (C := Try.checked) false ⟨#[], #[.slice none 0 0, .agg #[.slice none 0 0, .slice none 0 0]], []⟩ 8 (by kernel_rfl) (by kernel_rfl) (by kernel_rfl) (by kernel_rfl)) ?_
  intro W base args ds gs before hval0 hW hcnd hsz _
  have hval : ∀ (j : Nat) t v, Try.f6.params[j]? = some t → args[j]? = some v → Value.okWide Try.prog W .any base t v := hval0
  have hW' := hW
  obtain ⟨p, q, hA0, hV, rfl, hfz, hnd⟩ := hW
  have hA : DataW.TrodAll enc Try.prog W 0 (fun _ => true) true Try.f6.params.toList args.toList ds p := hA0
  rw [Try.params6] at hA hval hsz
  obtain ⟨v0, vs0, d0, ds0, p0, q0, hargs, rfl, rfl, h0, r0⟩ := trodAll_cons hA
  obtain ⟨v1, vs1, d1, ds1, p1, q1, rfl, rfl, rfl, h1, r1⟩ := trodAll_cons r0
  obtain ⟨rfl, rfl, rfl⟩ := trodAll_nil r1
  obtain rfl : args = #[v0, v1] := by cases args; simp_all
  obtain ⟨rfl, rfl⟩ := trodVars_none hV
  have k0 := h0
  have lt0 : ∀ x ∈ p0, x.block < W.heap.size := by obtain ⟨m, hm⟩ := k0; exact DataW.trod_lt m _ _ _ hm
  obtain ⟨a0, len0, cap0, rfl⟩ := okWide_slice Try.underlying28 (hval 0 28 v0 rfl rfl)
  obtain ⟨l0, g0⟩ : ∃ l, SlBy W.heap.size W (.slice a0 len0 cap0) l := by
    obtain ⟨fuel, hf⟩ := h0
    exact open_by (x := (d0, p0)) (by simpa [Value.cells] using hf)
  have k1 := h1
  have lt1 : ∀ x ∈ p1, x.block < W.heap.size := by obtain ⟨m, hm⟩ := k1; exact DataW.trod_lt m _ _ _ hm
  obtain ⟨al1, nl1, cl1, ac1, nc1, cc1, o1, rfl, g1⟩ := open_deed h1 (hval 1 26 v1 rfl rfl) (fun n hn => of_decide_eq_true (List.all_eq_true.1 hsz n (DataW.weights_mem_each (j := 1) (t := 26) rfl rfl n hn)))
  clear hA0 hval0 hval hfz hnd hcnd hA
  refine (fresh_ok W _ l0 g0 _ _ o1 g1).mono fun e W' ⟨he, bel⟩ => ?_
  subst he
  exact ⟨_, rfl, _, _, _, [], _, [], hW', trodAll_mk1 (shut_bool Try.underlying4 _), (trodAll_cons_mk (Below.trod laidOut (by kernel_rfl) (of_decide_eq_true (by kernel_rfl)) k0 bel lt0) (trodAll_cons_mk (Below.trod laidOut (by kernel_rfl) (of_decide_eq_true (by kernel_rfl)) k1 bel lt1) trodAll_mk0)), rfl, bel.frame _, fun h => by cases h⟩
theorem DeedFresh_holds : Rows.DeedFreshSaid :=
  OpenClaim.holds_of_wide 6 Try.f6 rfl rfl rfl rfl rfl rfl rfl ⟨rfl, rfl, rfl, rfl, rfl⟩ rfl rfl rfl rfl rfl (by kernel_rfl) Try.func6 (by kernel_rfl)
    (of_decide_eq_true (by kernel_rfl)) (by unfold Func.isWrapper; rw [if_neg (of_decide_eq_false (by kernel_rfl))]; exact ⟨rfl, rfl⟩)
    (fun os started H enc _ => deedFresh_lifted os started H enc)
#print axioms DeedFresh_holds
end Go.Proofs.Ytfdjdpbiccclfaa
