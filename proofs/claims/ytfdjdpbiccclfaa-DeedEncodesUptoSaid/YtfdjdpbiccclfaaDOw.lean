/- What a decoded deed is in memory: rows of its own, each bound's row apart from the others. -/
import Derived.Test.YtfdjdpbiccclfaaDRm
namespace Go.Proofs.Ytfdjdpbiccclfaa
open Go Go.RowKit Go.Wr
set_option maxHeartbeats 1000000

theorem own_of_block {B : Nat} {e : TypeId} {size n : Nat} {w w' : World} {v : Value} {xs : List Value} (h : w.ownsRow B e size v n xs) (hb : ∀ g C, Blk w g e C → w'.heap[g]? = w.heap[g]?) : w'.ownsRow B e size v n xs := by
  obtain ⟨h1, h2⟩ := h
  refine ⟨h1, h2.imp id ?_⟩
  rintro ⟨g, cap, cur, h3, h4, h5, h6⟩
  exact ⟨g, cap, cur, h3, h4, (hb g cur h5).trans h5, h6⟩
theorem own_of_ne {B : Nat} {e : TypeId} {size n : Nat} {w w' : World} {v : Value} {xs : List Value} (h : w.ownsRow B e size v n xs) (hb : ∀ g, v.ownBlock = some g → w'.heap[g]? = w.heap[g]?) : w'.ownsRow B e size v n xs := by
  obtain ⟨h1, h2⟩ := h
  refine ⟨h1, h2.imp id ?_⟩
  rintro ⟨g, cap, cur, rfl, h4, h5, h6⟩
  exact ⟨g, cap, cur, rfl, h4, (hb g rfl).trans h5, h6⟩
theorem own_ne {B : Nat} {e : TypeId} {size n b : Nat} {w : World} {v : Value} {xs : List Value} {T : TypeId} {C : Array Value} (h : w.ownsRow B e size v n xs) (hb : Blk w b T C) (hT : e ≠ T) : v.ownBlock ≠ some b := by
  rcases h.2 with ⟨rfl, _⟩ | ⟨g, cap, cur, rfl, _, hg, _⟩
  · intro e; cases e
  · intro e'
    injection e' with e'
    exact blk_ne (T := e) (C := cur) hg hb hT e'
theorem own_blk {B : Nat} {e : TypeId} {size n g : Nat} {w : World} {v : Value} {xs : List Value} (h : w.ownsRow B e size v n xs) (hg : v.ownBlock = some g) : ∃ C, Blk w g e C := by
  rcases h.2 with ⟨rfl, _⟩ | ⟨g', cap, cur, rfl, _, hb, _⟩
  · cases hg
  · injection hg with hg
    subst hg
    exact ⟨cur, hb⟩
theorem own_mono {B B' : Nat} {e : TypeId} {size n : Nat} {w : World} {v : Value} {xs : List Value} (h : w.ownsRow B e size v n xs) (hB : B' ≤ B) : w.ownsRow B' e size v n xs := by
  obtain ⟨h1, h2⟩ := h
  refine ⟨h1, h2.imp id ?_⟩
  rintro ⟨g, cap, cur, h3, h4, h5⟩
  exact ⟨g, cap, cur, h3, by omega, h5⟩

def lpC (l : List Lp) : List Value := l.flatMap fun x => (lpv x).toList
theorem lpC_app (l : List Lp) (x : Lp) : lpC (l ++ [x]) = lpC l ++ [.int .i64 x.h, .int .i64 x.a, .int .i64 x.b, .int .i64 x.k, .int .i64 x.d] := by simp [lpC, lpv]
def clC (l : List (Cl × Value)) : List Value := l.flatMap fun x => (bx (.bool x.1.d) x.1.f x.2).toList
theorem clC_app (l : List (Cl × Value)) (x : Cl × Value) : clC (l ++ [x]) = clC l ++ (bx (.bool x.1.d) x.1.f x.2).toList := by simp [clC]
def OwL (B : Nat) (w : World) (v : Value) (l : List Lp) : Prop := w.ownsRow B 54 5 v l.length (lpC l)
def OwK (B : Nat) (w : World) (v : Value) (l : List (Cl × Value)) : Prop := w.ownsRow B 61 128 v l.length (clC l)

/-- The bounds' rows lie apart from each other. -/
def Apart (l : List (Cl × Value)) : Prop := l.Pairwise fun x y => ∀ g, x.2.ownBlock = some g → y.2.ownBlock ≠ some g
/-- A deed of the function's own. -/
structure OwD (B : Nat) (w : World) (vl vc : Value) (ls : List Lp) (cs : List (Cl × Value)) : Prop where
  lp : OwL B w vl ls
  cl : OwK B w vc cs
  co : ∀ x ∈ cs, OwC B w x.2 x.1.l
  dj : Apart cs
theorem OwD.nil (B : Nat) (w : World) : OwD B w (.slice none 0 0) (.slice none 0 0) [] [] :=
  ⟨⟨rfl, Or.inl ⟨rfl, rfl⟩⟩, ⟨rfl, Or.inl ⟨rfl, rfl⟩⟩, (fun _ h => by cases h), List.Pairwise.nil⟩
theorem OwD.of_block {B : Nat} {w w' : World} {vl vc : Value} {ls : List Lp} {cs : List (Cl × Value)} (h : OwD B w vl vc ls cs) (hb : ∀ g T C, (T = 54 ∨ T = 61 ∨ T = 63) → Blk w g T C → w'.heap[g]? = w.heap[g]?) : OwD B w' vl vc ls cs :=
  ⟨own_of_block h.lp fun g C => hb g _ C (Or.inl rfl), own_of_block h.cl fun g C => hb g _ C (Or.inr (Or.inl rfl)), fun x hx => (h.co x hx).of_block fun g C => hb g _ C (Or.inr (Or.inr rfl)), h.dj⟩
theorem OwD.ex {B p : Nat} {w w' : World} {vl vc : Value} {ls : List Lp} {cs : List (Cl × Value)} {C : Array Value} (h : OwD B w vl vc ls cs) (hx : Ex p w w') (hp : Blk w p 89 C) : OwD B w' vl vc ls cs :=
  h.of_block fun g T C' hT hg => hx.block g hg.lt (blk_ne hg hp (by rcases hT with rfl | rfl | rfl <;> decide))
theorem OwD.below {B : Nat} {w w' : World} {vl vc : Value} {ls : List Lp} {cs : List (Cl × Value)} (h : OwD B w vl vc ls cs) (b : Below w.heap.size w w') : OwD B w' vl vc ls cs :=
  h.of_block fun g _ _ _ hg => b.block g hg.lt
theorem OwD.set {B b i : Nat} {w : World} {vl vc x : Value} {ls : List Lp} {cs : List (Cl × Value)} {T : TypeId} {C : Array Value} (h : OwD B w vl vc ls cs) (hb : Blk w b T C) (h1 : 54 ≠ T) (h2 : 61 ≠ T) (h3 : 63 ≠ T) : OwD B (w.setCell ⟨b, i, none⟩ x) vl vc ls cs :=
  h.of_block fun g _ _ hT hg => Below.heap_setCell w ⟨b, i, none⟩ x g (blk_ne hg hb (by rcases hT with rfl | rfl | rfl <;> assumption))
theorem OwD.mono {B B' : Nat} {w : World} {vl vc : Value} {ls : List Lp} {cs : List (Cl × Value)} (h : OwD B w vl vc ls cs) (hB : B' ≤ B) : OwD B' w vl vc ls cs :=
  ⟨own_mono h.lp hB, own_mono h.cl hB, fun x hx => (h.co x hx).mono hB, h.dj⟩

/-- What Decode's reader leaves. -/
def isDd (B : Nat) (d : Dd) (v : Value) (w : World) : Prop := ∃ vl vc cs, v = .agg #[vl, vc] ∧ cs.map (·.1) = d.cs ∧ OwD B w vl vc d.ls cs

def pEnd (b : List Nat) (r : Except (Nat × Int) (Dd × Nat)) : Except (Nat × Int) (Dd × Nat) := match r with | .error e => .error e | .ok (d, a) => if a < b.length then .error (a, 110) else .ok (d, a)
def pDeedR (b : List Nat) : Except (Nat × Int) (Dd × Nat) :=
  if b.length < 4 then .error (b.length, 110) else if b.take 4 ≠ [87, 65, 82, 49] then .error (0, 110) else pEnd b (pBody b 4)
theorem pDeed_R (b : List Nat) : pDeed b = (pDeedR b).map (·.1) := by
  unfold pDeed pDeedR pEnd
  split
  · rfl
  · split
    · rfl
    · cases pBody b 4 with
      | error e => rfl
      | ok v =>
        obtain ⟨d, a⟩ := v
        simp only
        split <;> rfl
def pBodyC (ls : List Lp) : Ps Dd := pBind (pMost 512 112) fun n => pMap (fun cs => ⟨ls, cs⟩) (pClaims n [])
theorem pBody_eq : pBody = pBind (pMost 8 112) fun n => pBind (pLoops n []) pBodyC := rfl
theorem pLoops_succ (n : Nat) (l : List Lp) (G : List Lp → Ps Dd) : pBind (pLoops (n + 1) l) G = pBind pLoop fun x => pBind (pLoops n (l ++ [x])) G := pBind_assoc _ _ _
theorem pClaims_succ (n : Nat) (l : List Cl) (g : List Cl → Dd) : pMap g (pClaims (n + 1) l) = pBind pClaim fun x => pMap g (pClaims n (l ++ [x])) := pMap_bind _ _ _
theorem pMap_then {α β γ : Type} (f : α → β) (p : Ps α) (q : β → Ps γ) : pBind (pMap f p) q = pBind p fun x => q (f x) := by
  funext b a
  unfold pMap pBind
  dsimp only
  cases p b a with
  | error e => rfl
  | ok v => obtain ⟨x, m⟩ := v; rfl
theorem pLoop_then (K : Lp → Ps Dd) : pBind pLoop K = pBind (pMost 511 113) fun h => pBind (pMost 59 113) fun a => pBind (pMost 59 113) fun b => pBind (pSig 113) fun k => pBind (pMost 1099511627776 113) fun d => K ⟨h, a, b, k, d⟩ := by
  unfold pLoop
  simp only [pBind_assoc, pMap_then]

/-- Where reading a deed stands. -/
structure DS (B p q : Nat) (b : List Nat) (vb : Value) (w : World) (m : Nat) (vl vc : Value) (ls : List Lp) (cs : List (Cl × Value)) (wr : World) : Prop where
  rd : Rdr B p b m wr vb
  ex : Ex p w wr
  zb : Blk wr w.heap.size 26 #[.slice none 0 0, .slice none 0 0]
  qb : Blk wr q 26 #[vl, vc]
  ow : OwD w.heap.size wr vl vc ls cs
section
variable {B p q : Nat} {b : List Nat} {vb : Value} {w : World} {m m' : Nat} {vl vc : Value} {ls : List Lp} {cs : List (Cl × Value)} {wr w' w3 : World}
theorem DS.next (h : DS B p q b vb w m vl vc ls cs wr) (hx : Ex p wr w') (hd : Rdr B p b m' w' vb) (h1 : w.heap.size ≠ p) (h2 : q ≠ p) : DS B p q b vb w m' vl vc ls cs w' :=
  ⟨hd, h.ex.trans hx, hx.blk h.zb h1, hx.blk h.qb h2, h.ow.ex hx h.rd.blk⟩
theorem DS.drew (h : DS B p q b vb w m vl vc ls cs wr) : DS B p q b vb w m vl vc ls cs wr.drew :=
  ⟨h.rd.drew, h.ex.drew, h.zb, h.qb, h.ow.of_block fun _ _ _ _ _ => rfl⟩
theorem DS.alloc (h : DS B p q b vb w m vl vc ls cs wr) (o : Obj) : DS B p q b vb w m vl vc ls cs (wr.alloc o) :=
  ⟨h.rd.below (bAl (bRefl wr) o), h.ex.alloc o, h.zb.alloc o, h.qb.alloc o, h.ow.below (bAl (bRefl wr) o)⟩
theorem DS.set (h : DS B p q b vb w m vl vc ls cs wr) (hpw : p < w.heap.size) (hBp : B ≤ p) {t i : Nat} {T : TypeId} {C : Array Value} (ht : Blk wr t T C) (h0 : w.heap.size ≤ t) (h1 : 54 ≠ T) (h2 : 61 ≠ T) (h3 : 63 ≠ T) (h4 : 26 ≠ T) (x : Value) : DS B p q b vb w m vl vc ls cs (wr.setCell ⟨t, i, none⟩ x) :=
  ⟨h.rd.set_other _ (by omega) (by omega), h.ex.set_new _ h0, h.zb.set_other t _ _ (blk_ne h.zb ht h4), h.qb.set_other t _ _ (blk_ne h.qb ht h4), h.ow.set ht h1 h2 h3⟩
theorem DS.setL (h : DS B p q b vb w m vl vc ls cs wr) (hpw : p < w.heap.size) (hBp : B ≤ p) {t i : Nat} {C : Array Value} (ht : Blk wr t 54 C) (h0 : w.heap.size ≤ t) (hne : vl.ownBlock ≠ some t) (x : Value) : DS B p q b vb w m vl vc ls cs (wr.setCell ⟨t, i, none⟩ x) :=
  ⟨h.rd.set_other _ (by omega) (by omega), h.ex.set_new _ h0, h.zb.set_other t _ _ (blk_ne h.zb ht (by decide)), h.qb.set_other t _ _ (blk_ne h.qb ht (by decide)),
    ⟨own_of_ne h.ow.lp fun g hg => Below.heap_setCell wr ⟨t, i, none⟩ x g (fun e => hne (hg.trans (congrArg some e))), own_of_block h.ow.cl fun g _ hg => Below.heap_setCell wr ⟨t, i, none⟩ x g (blk_ne hg ht (by decide)), fun y hy => (h.ow.co y hy).set ht (by decide), h.ow.dj⟩⟩
theorem DS.grow_loop (h : DS B p q b vb w m vl vc ls cs wr) (hpw : p < w.heap.size) (hBp : B ≤ p) (hzq : w.heap.size < q) (x : Lp) {o : Obj} {v' : Value}
    (hown : w3.ownsRow w.heap.size 54 5 v' (ls.length + 1) (lpC ls ++ [.int .i64 x.h, .int .i64 x.a, .int .i64 x.b, .int .i64 x.k, .int .i64 x.d])) (hg : (wr.alloc o).grownBy w3 vl.ownBlock) :
    DS B p q b vb w m v' vc (ls ++ [x]) cs (w3.setCell ⟨q, 0, none⟩ v') := by
  have hs := h.ex.size
  have hA := h.alloc o
  have hb : Below w.heap.size wr w3 := ((bRefl wr).mono hs |>.alloc hs o).grown hg (by simp; omega) (fun g hg => (h.ow.lp.lt g hg).1)
  have hZ : Blk w3 w.heap.size 26 #[.slice none 0 0, .slice none 0 0] := hA.zb.of_block (hg.block _ hA.zb.lt (own_ne h.ow.lp h.zb (by decide)).symm)
  have hQ : Blk w3 q 26 #[vl, vc] := hA.qb.of_block (hg.block _ hA.qb.lt (own_ne h.ow.lp h.qb (by decide)).symm)
  have hne : ∀ g T C, T ≠ 54 → Blk (wr.alloc o) g T C → w3.heap[g]? = (wr.alloc o).heap[g]? := fun g T C hT hbk => hg.block _ hbk.lt (own_ne hA.ow.lp hbk (Ne.symm hT)).symm
  have hO : OwD w.heap.size w3 v' vc (ls ++ [x]) cs :=
    ⟨by unfold OwL; rw [lpC_app, List.length_append]; exact hown, own_of_block hA.ow.cl fun g C => hne g _ C (by decide), fun y hy => (hA.ow.co y hy).of_block fun g C => hne g _ C (by decide), hA.ow.dj⟩
  have hR : Rdr B p b m w3 vb := ⟨h.rd.blk.of_block (hb.block p hpw), h.rd.by'.below ⟨hb.os, hb.tape, hb.output, hb.size, fun k hk => hb.block k (by omega)⟩, h.rd.hp, h.rd.at', h.rd.len⟩
  exact ⟨hR.set_other _ (by omega) (by omega), (h.ex.below_trans hb).set_new _ (by omega), hZ.set_other q _ _ (by omega), (hQ.set 0 v').eq rfl, hO.set hQ (by decide) (by decide) (by decide)⟩
theorem DS.grow_claim (h : DS B p q b vb w m vl vc ls cs wr) (hpw : p < w.heap.size) (hBp : B ≤ p) (hzq : w.heap.size < q) (x : Cl) (vx : Value) {n : Nat} (hx : OwC n wr vx x.l) (hn : ∀ y ∈ cs, ∀ g, y.2.ownBlock = some g → g < n) (hn0 : w.heap.size ≤ n) {o : Obj} {v' : Value}
    (hown : w3.ownsRow w.heap.size 61 128 v' (cs.length + 1) (clC cs ++ (bx (.bool x.d) x.f vx).toList)) (hg : (wr.alloc o).grownBy w3 vc.ownBlock) :
    DS B p q b vb w m vl v' ls (cs ++ [(x, vx)]) (w3.setCell ⟨q, 1, none⟩ v') := by
  have hs := h.ex.size
  have hA := h.alloc o
  have hb : Below w.heap.size wr w3 := ((bRefl wr).mono hs |>.alloc hs o).grown hg (by simp; omega) (fun g hg => (h.ow.cl.lt g hg).1)
  have hZ : Blk w3 w.heap.size 26 #[.slice none 0 0, .slice none 0 0] := hA.zb.of_block (hg.block _ hA.zb.lt (own_ne h.ow.cl h.zb (by decide)).symm)
  have hQ : Blk w3 q 26 #[vl, vc] := hA.qb.of_block (hg.block _ hA.qb.lt (own_ne h.ow.cl h.qb (by decide)).symm)
  have hne : ∀ g T C, T ≠ 61 → Blk (wr.alloc o) g T C → w3.heap[g]? = (wr.alloc o).heap[g]? := fun g T C hT hbk => hg.block _ hbk.lt (own_ne hA.ow.cl hbk (Ne.symm hT)).symm
  have hxA : OwC n (wr.alloc o) vx x.l := hx.below (bAl (bRefl wr) o)
  have hx3 : OwC n w3 vx x.l := hxA.of_block fun g C => hne g _ C (by decide)
  have hO : OwD w.heap.size w3 vl v' ls (cs ++ [(x, vx)]) := by
    refine ⟨own_of_block hA.ow.lp fun g C => hne g _ C (by decide), ?_, fun y hy => ?_, ?_⟩
    · unfold OwK
      rw [clC_app, List.length_append]
      exact hown
    · rcases List.mem_append.1 hy with hy | hy
      · exact (hA.ow.co y hy).of_block fun g C => hne g _ C (by decide)
      · rw [List.mem_singleton.1 hy]
        exact hx3.mono hn0
    · refine List.pairwise_append.2 ⟨hA.ow.dj, List.pairwise_singleton _ _, fun y hy z hz g hgy hgz => ?_⟩
      rw [List.mem_singleton.1 hz] at hgz
      have h1 := hn y hy g hgy
      have h2 := (hx.lt g hgz).1
      omega
  have hR : Rdr B p b m w3 vb := ⟨h.rd.blk.of_block (hb.block p hpw), h.rd.by'.below ⟨hb.os, hb.tape, hb.output, hb.size, fun k hk => hb.block k (by omega)⟩, h.rd.hp, h.rd.at', h.rd.len⟩
  exact ⟨hR.set_other _ (by omega) (by omega), (h.ex.below_trans hb).set_new _ (by omega), hZ.set_other q _ _ (by omega), (hQ.set 1 v').eq rfl, hO.set hQ (by decide) (by decide) (by decide)⟩
theorem OwD.lt (h : OwD B w vl vc ls cs) : ∀ y ∈ cs, ∀ g, y.2.ownBlock = some g → g < w.heap.size := fun y hy g hg => ((h.co y hy).lt g hg).2
end

theorem infoLp : (Try.prog.info? 54).map (fun i => (i.zero, i.size, i.bytes)) = some (some (.agg #[.int .i64 0, .int .i64 0, .int .i64 0, .int .i64 0, .int .i64 0]), 5, 40) := by kernel_rfl
theorem infoCl : (Try.prog.info? 61).map (fun i => (i.zero, i.size, i.bytes)) = some (some (.agg (bx (.bool false) f0 (.slice none 0 0))), 128, 1040) := by kernel_rfl
end Go.Proofs.Ytfdjdpbiccclfaa
