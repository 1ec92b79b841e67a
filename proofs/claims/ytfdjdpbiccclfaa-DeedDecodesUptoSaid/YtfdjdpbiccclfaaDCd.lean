/- Decode of the document: the same deed, or the same fault at the same byte, as the plain reader's. Its parts: steps from either state, where reading stands. -/
import Derived.Test.YtfdjdpbiccclfaaDCz
import Derived.Test.YtfdjdpbiccclfaaDBs
import Derived.Test.YtfdjdpbiccclfaaDDe
namespace Go.Proofs.Ytfdjdpbiccclfaa
open Go Go.RowKit Go.Wr
set_option maxHeartbeats 4000000
set_option maxRecDepth 100000

section
variable {α β : Type} {B p : Nat} {b : List Nat} {vb : Value} {out : α → Value → World → Prop} {w w' : World} {e : Ending}
/-- What a function of the cursor leaves, from either state. -/
def RX (B p : Nat) (b : List Nat) (vb : Value) (r : Except (Nat × Int) (α × Nat)) (out : α → Value → World → Prop) (w : World) (e : Ending) (w' : World) : Prop :=
  ∃ x s' v, e = .returned v ∧ out x v w' ∧ Cu B p b s' w' vb ∧ Ex p w w' ∧ r = stp s' (fun m => .ok (x, m))
theorem RC.rx {r : Except (Nat × Int) (α × Nat)} (h : RC B p b vb r out w e w') : RX B p b vb r out w e w' := by
  cases r with
  | error v => obtain ⟨y, er⟩ := v; obtain ⟨x, v, h1, h2, h3, h4⟩ := h; exact ⟨x, .error (y, er), v, h1, h2, h3, h4, rfl⟩
  | ok v => obtain ⟨x, m⟩ := v; obtain ⟨v, h1, h2, h3, h4⟩ := h; exact ⟨x, .ok m, v, h1, h2, h3, h4, rfl⟩
theorem stp_bind {s s' : Except (Nat × Int) Nat} {x : α} {P : Ps α} {q : α → Ps β} (h : stp s (fun m => P b m) = stp s' (fun m => .ok (x, m))) : stp s (fun m => pBind P q b m) = stp s' (fun m => q x b m) := by
  cases s with
  | error v =>
    cases s' with
    | error v2 => have h : (Except.error v : Except (Nat × Int) (α × Nat)) = .error v2 := h; injection h with h; rw [h]; rfl
    | ok m2 => cases (show (Except.error v : Except (Nat × Int) (α × Nat)) = .ok _ from h)
  | ok m =>
    have h : P b m = _ := h
    cases s' with
    | error v2 => exact pBind_no h
    | ok m2 => exact pBind_at h
theorem stp_ok {s : Except (Nat × Int) Nat} {x : α} {P : Ps α} {m' : Nat} (h : stp s (fun m => P b m) = stp (.ok m') (fun m => .ok (x, m))) : ∃ m, P b m = .ok (x, m') := by
  cases s with
  | error v => cases (show (Except.error v : Except (Nat × Int) (α × Nat)) = .ok _ from h)
  | ok m => exact ⟨m, h⟩
end
theorem cmost_any (w : World) (B p : Nat) (b : List Nat) (vb : Value) (s : Except (Nat × Int) Nat) (h : Cu B p b s w vb) (high : Nat) (er : Int) (her : er ≠ 0) {hi : Int} (hh : hi = (high : Int)) :
    Calls Try.prog 41 #[.pointer (some ⟨p, 0, none⟩), .int .i64 hi, .int .i64 er] w (RX B p b vb (stp s fun m => pMost high er b m) isNat w) := by
  cases s with
  | error v => exact (cmost_dead w B p v.1 v.2 b vb h hi er).mono fun _ _ h => h.rx
  | ok m => exact (cmost_ok w B p m b vb h high er her hh).mono fun _ _ h => h.rx
theorem csigned_any (w : World) (B p : Nat) (b : List Nat) (vb : Value) (s : Except (Nat × Int) Nat) (h : Cu B p b s w vb) (er : Int) (her : er ≠ 0) :
    Calls Try.prog 42 #[.pointer (some ⟨p, 0, none⟩), .int .i64 er] w (RX B p b vb (stp s fun m => pSig er b m) isInt w) := by
  cases s with
  | error v => exact (csigned_dead w B p v.1 v.2 b vb h er).mono fun _ _ h => h.rx
  | ok m => exact (csigned_ok w B p m b vb h er her).mono fun _ _ h => h.rx
theorem Cu.blk {B p : Nat} {b : List Nat} {s : Except (Nat × Int) Nat} {w : World} {vb : Value} (h : Cu B p b s w vb) : ∃ C, Blk w p 93 C := by
  cases s with
  | ok m => exact ⟨_, (show CuL _ _ _ _ _ _ from h).blk⟩
  | error e => obtain ⟨a, hk⟩ := (show CuD _ _ _ _ _ _ _ from h).blk; exact ⟨_, hk⟩
theorem Cu.below {B p : Nat} {b : List Nat} {s : Except (Nat × Int) Nat} {w w' : World} {vb : Value} (h : Cu B p b s w vb) (hb : Below w.heap.size w w') : Cu B p b s w' vb := by
  cases s with
  | ok m => exact CuL.below h hb
  | error e => exact CuD.below h hb
theorem Cu.of_block {B p : Nat} {b : List Nat} {s : Except (Nat × Int) Nat} {w w' : World} {vb : Value} (h : Cu B p b s w vb) (hp : w'.heap[p]? = w.heap[p]?) (hb : Below B w w') : Cu B p b s w' vb := by
  cases s with
  | ok m => have h : CuL B p b m w vb := h; exact show CuL B p b m w' vb from ⟨h.blk.of_block hp, h.by'.below hb, h.hp, h.at', h.len⟩
  | error e => obtain ⟨y, er⟩ := e; have h : CuD B p b y er w vb := h; exact show CuD B p b y er w' vb from ⟨by obtain ⟨a, hk⟩ := h.blk; exact ⟨a, hk.of_block hp⟩, h.by'.below hb, h.hp, h.er', h.len⟩

/-- Where reading a deed stands. -/
structure DQ (p q : Nat) (b : List Nat) (vb : Value) (w : World) (s : Except (Nat × Int) Nat) (vl vc : Value) (ls : List Lp) (cs : List (Cl × Value)) (wr : World) : Prop where
  cu : Cu w.heap.size p b s wr vb
  bel : Below w.heap.size w wr
  zb : Blk wr w.heap.size 26 #[.slice none 0 0, .slice none 0 0]
  qb : Blk wr q 26 #[vl, vc]
  ow : OwD w.heap.size wr vl vc ls cs
  hzp : w.heap.size < p
  hzq : w.heap.size < q
  hqp : q ≠ p
section
variable {p q : Nat} {b : List Nat} {vb : Value} {w : World} {s s' : Except (Nat × Int) Nat} {vl vc : Value} {ls : List Lp} {cs : List (Cl × Value)} {wr w' w3 : World}
theorem DQ.next (h : DQ p q b vb w s vl vc ls cs wr) (hx : Ex p wr w') (hd : Cu w.heap.size p b s' w' vb) : DQ p q b vb w s' vl vc ls cs w' := by
  obtain ⟨C, hC⟩ := h.cu.blk
  have h1 := h.hzp
  have h2 := h.bel.size
  exact ⟨hd, h.bel.trans (hx.below (by omega) (by omega)), hx.blk h.zb (by omega), hx.blk h.qb h.hqp, h.ow.of_block fun g T C' hT hg => hx.block g hg.lt (blk_ne hg hC (by rcases hT with rfl | rfl | rfl <;> decide)), h.hzp, h.hzq, h.hqp⟩
theorem DQ.below (h : DQ p q b vb w s vl vc ls cs wr) (hb : Below wr.heap.size wr w') : DQ p q b vb w s vl vc ls cs w' :=
  ⟨h.cu.below hb, h.bel.trans (hb.mono h.bel.size), h.zb.below hb h.zb.lt, h.qb.below hb h.qb.lt, h.ow.below hb, h.hzp, h.hzq, h.hqp⟩
theorem DQ.alloc (h : DQ p q b vb w s vl vc ls cs wr) (o : Obj) : DQ p q b vb w s vl vc ls cs (wr.alloc o) := h.below (bAl (bRefl wr) o)
theorem DQ.drewN (h : DQ p q b vb w s vl vc ls cs wr) (n : Nat) : DQ p q b vb w s vl vc ls cs (wr.drewN n) := h.below ⟨rfl, rfl, rfl, Nat.le_refl _, fun _ _ => rfl⟩
theorem DQ.setL (h : DQ p q b vb w s vl vc ls cs wr) {t i : Nat} {C : Array Value} (ht : Blk wr t 54 C) (h0 : w.heap.size ≤ t) (hne : vl.ownBlock ≠ some t) (x : Value) : DQ p q b vb w s vl vc ls cs (wr.setCell ⟨t, i, none⟩ x) := by
  obtain ⟨C', hC⟩ := h.cu.blk
  exact ⟨h.cu.set_other _ (blk_ne ht hC (by decide)) h0, h.bel.setCell (p := ⟨t, i, none⟩) h0 x, h.zb.set_other t _ _ (blk_ne h.zb ht (by decide)), h.qb.set_other t _ _ (blk_ne h.qb ht (by decide)),
    ⟨own_of_ne h.ow.lp fun g hg => Below.heap_setCell wr ⟨t, i, none⟩ x g (fun e => hne (hg.trans (congrArg some e))), own_of_block h.ow.cl fun g _ hg => Below.heap_setCell wr ⟨t, i, none⟩ x g (blk_ne hg ht (by decide)), fun y hy => (h.ow.co y hy).set ht (by decide), h.ow.dj⟩, h.hzp, h.hzq, h.hqp⟩
theorem DQ.onlyC (h : DQ p q b vb w s vl vc ls cs wr) {t : Nat} {C : Array Value} (ht : Blk wr t 61 C) (h0 : w.heap.size ≤ t) (hne : vc.ownBlock ≠ some t) (ho : Only t wr w') : DQ p q b vb w s vl vc ls cs w' := by
  obtain ⟨C', hC⟩ := h.cu.blk
  have hb := ho.below h0
  exact ⟨h.cu.of_block (ho.block p (blk_ne hC ht (by decide))) hb, h.bel.trans hb, ho.blk h.zb (blk_ne h.zb ht (by decide)), ho.blk h.qb (blk_ne h.qb ht (by decide)),
    ⟨own_of_block h.ow.lp fun g _ hg => ho.block g (blk_ne hg ht (by decide)), own_of_ne h.ow.cl fun g hg => ho.block g (fun e => hne (hg.trans (congrArg some e))), fun y hy => (h.ow.co y hy).of_block fun g _ hg => ho.block g (blk_ne hg ht (by decide)), h.ow.dj⟩, h.hzp, h.hzq, h.hqp⟩
theorem DQ.grow_loop (h : DQ p q b vb w s vl vc ls cs wr) (x : Lp) {o : Obj} {v' : Value}
    (hown : w3.ownsRow w.heap.size 54 5 v' (ls.length + 1) (lpC ls ++ [.int .i64 x.h, .int .i64 x.a, .int .i64 x.b, .int .i64 x.k, .int .i64 x.d])) (hg : (wr.alloc o).grownBy w3 vl.ownBlock) :
    DQ p q b vb w s v' vc (ls ++ [x]) cs (w3.setCell ⟨q, 0, none⟩ v') := by
  have hs := h.bel.size
  have hA := h.alloc o
  obtain ⟨C', hC⟩ := hA.cu.blk
  have hb : Below w.heap.size (wr.alloc o) w3 := ((bRefl (wr.alloc o)).mono hA.bel.size).grown hg (by simp; omega) (fun g hg => (h.ow.lp.lt g hg).1)
  have hZ : Blk w3 w.heap.size 26 #[.slice none 0 0, .slice none 0 0] := hA.zb.of_block (hg.block _ hA.zb.lt (own_ne h.ow.lp h.zb (by decide)).symm)
  have hQ : Blk w3 q 26 #[vl, vc] := hA.qb.of_block (hg.block _ hA.qb.lt (own_ne h.ow.lp h.qb (by decide)).symm)
  have hP : w3.heap[p]? = (wr.alloc o).heap[p]? := hg.block _ hC.lt (own_ne hA.ow.lp hC (by decide)).symm
  have hne : ∀ g T C, T ≠ 54 → Blk (wr.alloc o) g T C → w3.heap[g]? = (wr.alloc o).heap[g]? := fun g T C hT hbk => hg.block _ hbk.lt (own_ne hA.ow.lp hbk (Ne.symm hT)).symm
  have hO : OwD w.heap.size w3 v' vc (ls ++ [x]) cs :=
    ⟨by unfold OwL; rw [lpC_app, List.length_append]; exact hown, own_of_block hA.ow.cl fun g C => hne g _ C (by decide), fun y hy => (hA.ow.co y hy).of_block fun g C => hne g _ C (by decide), hA.ow.dj⟩
  have h1 := h.hzq
  exact ⟨(hA.cu.of_block hP hb).set_other _ h.hqp (by omega), (hA.bel.trans hb).setCell (p := ⟨q, 0, none⟩) (by show w.heap.size ≤ q; omega) _, hZ.set_other q _ _ (by omega), (hQ.set 0 v').eq rfl, hO.set hQ (by decide) (by decide) (by decide), h.hzp, h.hzq, h.hqp⟩
theorem DQ.grow_claim (h : DQ p q b vb w s vl vc ls cs wr) (x : Cl) (vx : Value) {n : Nat} (hx : OwC n wr vx x.l) (hn : ∀ y ∈ cs, ∀ g, y.2.ownBlock = some g → g < n) (hn0 : w.heap.size ≤ n) {o : Obj} {v' : Value}
    (hown : w3.ownsRow w.heap.size 61 128 v' (cs.length + 1) (clC cs ++ (bx (.bool x.d) x.f vx).toList)) (hg : (wr.alloc o).grownBy w3 vc.ownBlock) :
    DQ p q b vb w s vl v' ls (cs ++ [(x, vx)]) (w3.setCell ⟨q, 1, none⟩ v') := by
  have hs := h.bel.size
  have hA := h.alloc o
  obtain ⟨C', hC⟩ := hA.cu.blk
  have hb : Below w.heap.size (wr.alloc o) w3 := ((bRefl (wr.alloc o)).mono hA.bel.size).grown hg (by simp; omega) (fun g hg => (h.ow.cl.lt g hg).1)
  have hZ : Blk w3 w.heap.size 26 #[.slice none 0 0, .slice none 0 0] := hA.zb.of_block (hg.block _ hA.zb.lt (own_ne h.ow.cl h.zb (by decide)).symm)
  have hQ : Blk w3 q 26 #[vl, vc] := hA.qb.of_block (hg.block _ hA.qb.lt (own_ne h.ow.cl h.qb (by decide)).symm)
  have hP : w3.heap[p]? = (wr.alloc o).heap[p]? := hg.block _ hC.lt (own_ne hA.ow.cl hC (by decide)).symm
  have hne : ∀ g T C, T ≠ 61 → Blk (wr.alloc o) g T C → w3.heap[g]? = (wr.alloc o).heap[g]? := fun g T C hT hbk => hg.block _ hbk.lt (own_ne hA.ow.cl hbk (Ne.symm hT)).symm
  have hxA : OwC n (wr.alloc o) vx x.l := hx.below (bAl (bRefl wr) o)
  have hx3 : OwC n w3 vx x.l := hxA.of_block fun g C => hne g _ C (by decide)
  have hO : OwD w.heap.size w3 vl v' ls (cs ++ [(x, vx)]) := by
    refine ⟨own_of_block hA.ow.lp fun g C => hne g _ C (by decide), ?_, fun y hy => ?_, ?_⟩
    · unfold OwK
      rw [clC_app, List.length_append]
      exact hown
    · rcases List.mem_append.1 hy with hy | hy
      · exact (hA.ow.co y hy).of_block fun g C => hne g _ C (by decide)
      · rw [List.mem_singleton.1 hy]
        exact hx3.mono hn0
    · refine List.pairwise_append.2 ⟨hA.ow.dj, List.pairwise_singleton _ _, fun y hy z hz g hgy hgz => ?_⟩
      rw [List.mem_singleton.1 hz] at hgz
      have h1 := hn y hy g hgy
      have h2 := (hx.lt g hgz).1
      omega
  have h1 := h.hzq
  exact ⟨(hA.cu.of_block hP hb).set_other _ h.hqp (by omega), (hA.bel.trans hb).setCell (p := ⟨q, 1, none⟩) (by show w.heap.size ≤ q; omega) _, hZ.set_other q _ _ (by omega), (hQ.set 1 v').eq rfl, hO.set hQ (by decide) (by decide) (by decide), h.hzp, h.hzq, h.hqp⟩
end
end Go.Proofs.Ytfdjdpbiccclfaa
namespace Go.Wr
open Go Go.RowKit
theorem wpl_run {P : Program} {ops : Array Oper} {rest : List Oper} {op : Oper} {a : Act} {w w' : World} {Q : Exit → Act → World → Prop} (hgd : op.guard = none) (v : Value) (hrun : (execOp a.eval op).run P w = .ok (.value v) w') (h : wpList P ops Q rest (a.put op.dst v) w') : wpList P ops Q (op :: rest) a w :=
  wpList_plain hgd fun _ hK => wpo_run v hrun (hK _ _ h)
end Go.Wr
