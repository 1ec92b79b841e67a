/- What the law needs, one part after another: walks of functions and plain laws. No conditions but those that each law names. -/
import Derived.Test.YtfdjdpbiccclfaaFraf
namespace Go.Proofs.Ytfdjdpbiccclfaa
open Go Go.RowKit Go.Wr
set_option maxHeartbeats 4000000
set_option maxRecDepth 100000
def tD : RT Try.prog (Sn × Sn) := ⟨26, 52, 2, 48, .agg #[.slice none 0 0, .slice none 0 0], fun x => [x.1.v, x.2.v], fun _ => rfl, fun _ => oneSimp rfl, by kernel_rfl, by kernel_rfl, by decide, by decide⟩
theorem vs_sn {B : Nat} {w : World} : ∀ (cs : List (Cl × Value)), (∀ x ∈ cs, OwC B w x.2 x.1.l) → ∃ cs' : List (Cl × Sn), cs = cs'.map fun x => (x.1, x.2.v)
  | [], _ => ⟨[], rfl⟩
  | (c, v) :: cs, h => by
    obtain ⟨cs', e⟩ := vs_sn cs fun x hx => h x (List.mem_cons_of_mem _ hx)
    obtain ⟨a, k, hv⟩ := own_slice (h (c, v) (List.mem_cons_self ..))
    exact ⟨(c, ⟨a, _, k⟩) :: cs', by rw [e]; simp only [List.map_cons]; rw [show v = _ from hv]; rfl⟩
theorem clC_cs (cs : List (Cl × Sn)) : clC (cs.map fun x => (x.1, x.2.v)) = tCl.cs cs := by
  unfold clC RT.cs
  rw [List.flatMap_map]
  rfl
theorem isDd_yw {B : Nat} {d : Dd} {v : Value} {w : World} (h : isDd B d v w) : ∃ la lc ka kc cs, v = .agg #[.slice la d.ls.length lc, .slice ka d.cs.length kc] ∧ cs.map (·.1) = d.cs ∧ Yw (fun g => B ≤ g) w la lc ka kc d.ls cs := by
  obtain ⟨vl, vc, cs, rfl, hcs, h1, h2, h3, h4⟩ := h
  obtain ⟨cs', rfl⟩ := vs_sn cs h3
  rw [List.map_map] at hcs
  have hcs' : cs'.map (·.1) = d.cs := hcs
  have hlen : cs'.length = d.cs.length := by rw [← hcs', List.length_map]
  obtain ⟨la, lc, rfl⟩ := own_slice h1
  obtain ⟨ka, kc, rfl⟩ := own_slice h2
  unfold OwK at h2
  rw [clC_cs, List.length_map] at h2
  have H1 : OwR tLp B w (.slice la d.ls.length lc) d.ls := h1
  have H2 : OwR tCl B w (.slice ka cs'.length kc) cs' := h2
  have hc : ∀ x ∈ cs', OwR tC3 B w x.2.v x.1.l := fun x hx => h3 (x.1, x.2.v) (List.mem_map_of_mem hx)
  refine ⟨la, lc, ka, kc, cs', by rw [List.length_map, hlen], hcs', ⟨H1.mono (Nat.zero_le _), fun g hg => (H1.blk hg).1, H2.mono (Nat.zero_le _), fun g hg => (H2.blk hg).1,
    fun x hx => ⟨own_n (hc x hx), (hc x hx).mono (Nat.zero_le _), fun g hg => ((hc x hx).blk hg).1⟩, ?_⟩⟩
  unfold Apart at h4
  rw [List.pairwise_map] at h4
  exact h4
theorem Yw.sl {D : Nat → Prop} {w : World} {la ka : Option Addr} {lc kc : Nat} {ls : List Lp} {cs : List (Cl × Sn)} (h : Yw D w la lc ka kc ls cs) (hn : Sml ⟨ls, cs.map (·.1)⟩) : SlD w.heap.size w (.slice la ls.length lc) (.slice ka cs.length kc) ⟨ls, cs.map (·.1)⟩ :=
  sld_of h.lp h.cl (fun x hx => ⟨(h.co x hx).1, 0, by
    have := (h.co x hx).2.1
    unfold Sn.v at this
    rw [(h.co x hx).1] at this
    exact this⟩) hn
theorem own_by {B : Nat} {w : World} {v : Value} : ∀ {l : List Nat}, OwY B w v l → (∀ x ∈ l, x < 256) → ∃ l' : List By, l'.map (·.val) = l ∧ OwR tY B w v l' := fun {l} h h256 => by
  have key : ∀ l : List Nat, (∀ x ∈ l, x < 256) → ∃ l' : List By, l'.map (·.val) = l := by
    intro l
    induction l with
    | nil => exact fun _ => ⟨[], rfl⟩
    | cons a t ih =>
      intro h
      obtain ⟨t', e⟩ := ih fun x hx => h x (List.mem_cons_of_mem _ hx)
      exact ⟨⟨a, h a (List.mem_cons_self ..)⟩ :: t', by simp [e]⟩
  obtain ⟨l', e⟩ := key l h256
  refine ⟨l', e, ?_⟩
  subst e
  unfold OwY at h
  unfold OwR
  have e2 : bcells (l'.map (·.val)) = tY.cs l' := by
    unfold bcells RT.cs
    rw [List.map_map]
    clear h h256
    induction l' with
    | nil => rfl
    | cons a t ih => rw [List.map_cons, List.flatMap_cons, ih]; rfl
  rw [e2, List.length_map] at h
  exact h
structure Kd (d : Dd) (k : Nat) (ls : List Lp) (cs : List (Cl × Sn)) : Prop where
  nl : ls.length = d.ls.length + 1
  lk : ∀ (j : Nat) (x : Lp), ls[j]? = some x → x.k = if j < d.ls.length then 1000 * (k : Int) + (j : Int) else -(k : Int)
  nc : cs.length = d.cs.length + 1
  cc : ∀ (j : Nat) (c : Cl) (y : Cl × Sn), d.cs[j]? = some c → cs[j]? = some y → y.1.l.length = c.l.length + 1 ∧ (y.1.f 0).m = 7 * (k : Int) + (j : Int) ∧
    ∀ (t : Nat) (z : C3), y.1.l[t]? = some z → z.c = if t < c.l.length then 100000 * (k : Int) + 1000 * (j : Int) + (t : Int) else -1000 * (k : Int) - (j : Int)
structure Ks (w0 : World) (d : Dd) (p k n h1 : Nat) (U : Nat → Prop) (av : Sn) (ds : List (Sn × Sn)) (w : World) : Prop where
  ex : Ex p w0 w
  led : Led U p n w
  up : ∀ b, U b → b = p ∨ w0.heap.size ≤ b
  dn : ∀ b, U b → b < w.heap.size
  lo : w0.heap.size ≤ h1
  hi : h1 ≤ w.heap.size
  ao : OwR tD w0.heap.size w av.v ds
  ac : ∀ g, av.v.ownBlock = some g → ¬ U g ∧ g < h1
  ar : ∀ (m : Nat) (s : Sn × Sn), ds[m]? = some s → ∃ ls cs, Kd d m ls cs ∧ s.1.n = ls.length ∧ s.2.n = cs.length ∧ Yw (fun g => w0.heap.size ≤ g ∧ ¬ U g ∧ g < h1) w s.1.a s.1.c s.2.a s.2.c ls cs
  an : ds.length = k
section
variable {w0 w w' : World} {d : Dd} {p k n h1 : Nat} {U : Nat → Prop} {av : Sn} {ds : List (Sn × Sn)}
theorem Ks.turn (h : Ks w0 d p k n h1 U av ds w) (ho : w'.os = w.os) (ht : w'.tape = w.tape) (hu : w'.output = w.output) (hs : w.heap.size ≤ w'.heap.size) (hb : ∀ b, b < w.heap.size → (U b ∨ b < h1) → w'.heap[b]? = w.heap[b]?) : Ks w0 d p k n h1 U av ds w' :=
  ⟨⟨ho.trans h.ex.os, ht.trans h.ex.tape, hu.trans h.ex.output, Nat.le_trans h.ex.size hs, fun b hlt hp => (hb b (Nat.lt_of_lt_of_le hlt h.ex.size) (Or.inr (Nat.lt_of_lt_of_le hlt h.lo))).trans (h.ex.block b hlt hp)⟩,
    h.led.keep ho ht hu hs (fun b hlt hU => hb b hlt (Or.inl hU)), h.up, fun b hU => Nat.lt_of_lt_of_le (h.dn b hU) hs, h.lo, Nat.le_trans h.hi hs,
    h.ao.keep fun g hg => hb g (h.ao.lt hg) (Or.inr (h.ac g hg).2), h.ac,
    fun m s hm => by
      obtain ⟨ls, cs, a1, a2, a3, a4⟩ := h.ar m s hm
      exact ⟨ls, cs, a1, a2, a3, a4.of_block fun g _ _ _ hg hD => hb g hg.lt (Or.inr hD.2.2)⟩, h.an⟩
theorem Ks.below (h : Ks w0 d p k n h1 U av ds w) (b : Below w.heap.size w w') : Ks w0 d p k n h1 U av ds w' := h.turn b.os b.tape b.output b.size fun g hg _ => b.block g hg
theorem Ks.lift (h : Ks w0 d p k n h1 U av ds w) {h2 : Nat} (h12 : h1 ≤ h2) (h2w : h2 ≤ w.heap.size) : Ks w0 d p k n h2 U av ds w :=
  ⟨h.ex, h.led, h.up, h.dn, Nat.le_trans h.lo h12, h2w, h.ao, fun g hg => ⟨(h.ac g hg).1, Nat.lt_of_lt_of_le (h.ac g hg).2 h12⟩, fun m s hm => by
    obtain ⟨ls, cs, a1, a2, a3, a4⟩ := h.ar m s hm
    exact ⟨ls, cs, a1, a2, a3, a4.mono fun g _ hD => ⟨hD.1, hD.2.1, Nat.lt_of_lt_of_le hD.2.2 h12⟩⟩, h.an⟩
theorem Ks.own (h : Ks w0 d p k n h1 U av ds w) {B : Nat} {v : Value} {l : List By} (hB : h1 ≤ B) (hv : OwR tY B w v l) (fu : Fu (fun b => U b ∨ v.ownBlock = some b) w w') (led : Led (fun b => U b ∨ v.ownBlock = some b ∨ (w.heap.size ≤ b ∧ b < w'.heap.size)) p (n + 1) w') :
    Ks w0 d p k (n + 1) h1 (fun b => U b ∨ v.ownBlock = some b ∨ (w.heap.size ≤ b ∧ b < w'.heap.size)) av ds w' := by
  have hv1 : ∀ g, v.ownBlock = some g → h1 ≤ g := fun g hg => Nat.le_trans hB (hv.blk hg).1
  refine ⟨⟨fu.os.trans h.ex.os, fu.tape.trans h.ex.tape, fu.output.trans h.ex.output, Nat.le_trans h.ex.size fu.size, fun b hlt hp => ?_⟩, led, fun b hb => ?_, fun b hb => ?_, h.lo, Nat.le_trans h.hi fu.size,
    h.ao.keep fun g hg => fu.block g (h.ao.lt hg) (fun e => ?_), fun g hg => ⟨fun e => ?_, (h.ac g hg).2⟩, fun m s hm => ?_, h.an⟩
  · refine (fu.block b (Nat.lt_of_lt_of_le hlt h.ex.size) (fun e => ?_)).trans (h.ex.block b hlt hp)
    rcases e with e | e
    · rcases h.up b e with e | e
      · exact hp e
      · omega
    · have := hv1 b e; have := h.lo; omega
  · rcases hb with e | e | e
    · exact h.up b e
    · exact Or.inr (Nat.le_trans h.lo (hv1 b e))
    · exact Or.inr (Nat.le_trans h.ex.size e.1)
  · rcases hb with e | e | e
    · exact Nat.lt_of_lt_of_le (h.dn b e) fu.size
    · exact Nat.lt_of_lt_of_le (hv.lt e) fu.size
    · exact e.2
  · rcases e with e | e
    · exact (h.ac g hg).1 e
    · have := hv1 g e; have := (h.ac g hg).2; omega
  · rcases e with e | e | e
    · exact (h.ac g hg).1 e
    · have := hv1 g e; have := (h.ac g hg).2; omega
    · have := (h.ac g hg).2; have := h.hi; omega
  · obtain ⟨ls, cs, a1, a2, a3, a4⟩ := h.ar m s hm
    refine ⟨ls, cs, a1, a2, a3, ?_⟩
    have a5 : Yw (fun g => w0.heap.size ≤ g ∧ ¬ U g ∧ g < h1) w' s.1.a s.1.c s.2.a s.2.c ls cs := a4.of_block fun g _ _ _ hg hD => fu.block g hg.lt (fun e => by
      rcases e with e | e
      · exact hD.2.1 e
      · have := hv1 g e; have := hD.2.2; omega)
    refine a5.mono fun g _ hD => ⟨hD.1, fun e => ?_, hD.2.2⟩
    rcases e with e | e | e
    · exact hD.2.1 e
    · have := hv1 g e; have := hD.2.2; omega
    · have := hD.2.2; have := h.hi; omega
end
structure Rd (w0 : World) (d : Dd) (p k n h1 q : Nat) (U : Nat → Prop) (av : Sn) (ds : List (Sn × Sn)) (la : Option Addr) (lc : Nat) (ka : Option Addr) (kc : Nat) (ls : List Lp) (cs : List (Cl × Sn)) (w : World) : Prop where
  ks : Ks w0 d p k n h1 U av ds w
  y : Yw (fun g => h1 ≤ g ∧ ¬ U g) w la lc ka kc ls cs
  qb : Blk w q 26 #[.slice la ls.length lc, .slice ka cs.length kc]
  q1 : h1 ≤ q
  qU : ¬ U q
section
variable {w0 w w' w1 : World} {d : Dd} {p k n h1 q : Nat} {U : Nat → Prop} {av : Sn} {ds : List (Sn × Sn)} {la ka : Option Addr} {lc kc : Nat} {ls : List Lp} {cs : List (Cl × Sn)}
theorem Rd.below (h : Rd w0 d p k n h1 q U av ds la lc ka kc ls cs w) (b : Below w.heap.size w w') : Rd w0 d p k n h1 q U av ds la lc ka kc ls cs w' :=
  ⟨h.ks.below b, h.y.below b, h.qb.below b h.qb.lt, h.q1, h.qU⟩
theorem Rd.drew (h : Rd w0 d p k n h1 q U av ds la lc ka kc ls cs w) : Rd w0 d p k n h1 q U av ds la lc ka kc ls cs w.drew := h.below (bRefl w).drew
theorem Rd.ksSet (h : Rd w0 d p k n h1 q U av ds la lc ka kc ls cs w) {g o : Nat} {v : Value} (hg : h1 ≤ g ∧ ¬ U g) : Ks w0 d p k n h1 U av ds (w.setCell ⟨g, o, none⟩ v) := by
  have hh := Below.heap_setCell w ⟨g, o, none⟩ v
  have hb := (Below.refl 0 w).setCell (p := ⟨g, o, none⟩) (Nat.zero_le _) v
  refine h.ks.turn hb.os hb.tape hb.output hb.size fun b _ hU => hh b fun e => ?_
  subst e
  rcases hU with hU | hU
  · exact hg.2 hU
  · have := hg.1; omega
theorem Rd.fresh (h : Rd w0 d p k n h1 q U av ds la lc ka kc ls cs w) : ∀ b, w.heap.size ≤ b → h1 ≤ b ∧ ¬ U b := fun b hb => ⟨Nat.le_trans h.ks.hi hb, fun hU => by have := h.ks.dn b hU; omega⟩
theorem Rd.ksGrown (h : Rd w0 d p k n h1 q U av ds la lc ka kc ls cs w) {r : Option Nat} (b1 : Below w.heap.size w w1) (hg : w1.grownBy w' r) (hr : ∀ g, r = some g → h1 ≤ g ∧ ¬ U g) : Ks w0 d p k n h1 U av ds w' := by
  refine h.ks.turn (hg.os.trans b1.os) (hg.tape.trans b1.tape) (hg.output.trans b1.output) (Nat.le_trans b1.size hg.size) fun b hb hU => grown_keep b1 hg hb fun e => ?_
  have := hr b e
  rcases hU with hU | hU
  · exact this.2 hU
  · omega
theorem Rd.qbSet (h : Rd w0 d p k n h1 q U av ds la lc ka kc ls cs w) {g o : Nat} {v : Value} {T : TypeId} {C : Array Value} (hb : Blk w g T C) (hT : T ≠ 26) : Blk (w.setCell ⟨g, o, none⟩ v) q 26 #[.slice la ls.length lc, .slice ka cs.length kc] :=
  h.qb.of_block (Below.heap_setCell w ⟨g, o, none⟩ v q fun e => blk_ne hb h.qb hT e.symm)
theorem Rd.setK {g i : Nat} {x : Lp} (h : Rd w0 d p k n h1 q U av ds (some ⟨g, 0, none⟩) lc ka kc ls cs w) (hx : ls[i]? = some x) (v : Int) :
    Rd w0 d p k n h1 q U av ds (some ⟨g, 0, none⟩) lc ka kc (ls.set i ⟨x.h, x.a, x.b, v, x.d⟩) cs (w.setCell ⟨g, i * 5 + 3, none⟩ (.int .i64 v)) := by
  obtain ⟨_, Cg, hg⟩ := h.y.lp.blk rfl
  exact ⟨h.ksSet (h.y.ld g rfl), h.y.setK hx v, by rw [List.length_set]; exact h.qbSet hg (by decide), h.q1, h.qU⟩
theorem Rd.setC {i m b : Nat} {x : Cl} {s : Sn} {y : C3} (h : Rd w0 d p k n h1 q U av ds la lc ka kc ls cs w) (hx : cs[i]? = some (x, s)) (hy : x.l[m]? = some y) (hb : s.a = some ⟨b, 0, none⟩) (v : Int) :
    Rd w0 d p k n h1 q U av ds la lc ka kc ls (cs.set i (⟨x.d, x.f, x.l.set m ⟨y.i, y.j, v⟩⟩, s)) (w.setCell ⟨b, m * 3 + 2, none⟩ (.int .i64 v)) := by
  have hs : s.v.ownBlock = some b := by unfold Sn.v; rw [hb]; rfl
  obtain ⟨_, ho, hd⟩ := h.y.co _ (List.mem_of_getElem? hx)
  obtain ⟨_, Cg, hg⟩ := ho.blk hs
  exact ⟨h.ksSet (hd b hs), h.y.setC hx hy hb v, by rw [List.length_set]; exact h.qbSet hg (by decide), h.q1, h.qU⟩
theorem Rd.setM {i b : Nat} {x : Cl} {s : Sn} (h : Rd w0 d p k n h1 q U av ds la lc (some ⟨b, 0, none⟩) kc ls cs w) (hx : cs[i]? = some (x, s)) (v : Int) :
    Rd w0 d p k n h1 q U av ds la lc (some ⟨b, 0, none⟩) kc ls (cs.set i (⟨x.d, (fun j => if j = 0 then ⟨(x.f 0).k, (x.f 0).t, v⟩ else x.f j), x.l⟩, s)) (w.setCell ⟨b, i * 128 + 3, none⟩ (.int .i64 v)) := by
  obtain ⟨_, Cg, hg⟩ := h.y.cl.blk rfl
  exact ⟨h.ksSet (h.y.cd b rfl), h.y.setM hx v, by rw [List.length_set]; exact h.qbSet hg (by decide), h.q1, h.qU⟩
theorem Rd.pushL {g c : Nat} {x : Lp} (h : Rd w0 d p k n h1 q U av ds la lc ka kc ls cs w) (b1 : Below w.heap.size w w1) (hown : OwR tLp 0 w' (.slice (some ⟨g, 0, none⟩) (ls.length + 1) c) (ls ++ [x])) (hg : w1.grownBy w' (Value.slice la ls.length lc).ownBlock)
    (hl : (Value.slice la ls.length lc).ownBlock = some g ∨ g = w1.heap.size) :
    Blk w' q 26 #[.slice la ls.length lc, .slice ka cs.length kc] ∧ Rd w0 d p k n h1 q U av ds (some ⟨g, 0, none⟩) c ka kc (ls ++ [x]) cs (w'.setCell ⟨q, 0, none⟩ (.slice (some ⟨g, 0, none⟩) (ls.length + 1) c)) := by
  have hq : Blk w' q 26 #[.slice la ls.length lc, .slice ka cs.length kc] := h.qb.of_block (grown_keep b1 hg h.qb.lt fun e => by
    obtain ⟨_, Cg, hb⟩ := h.y.lp.blk e
    exact blk_ne h.qb hb (by decide) rfl)
  have hk := h.ksGrown b1 hg h.y.ld
  have hy := h.y.pushL b1 hown hg hl h.fresh
  have hh := fun v => Below.heap_setCell w' ⟨q, 0, none⟩ v
  have hb := fun v => (Below.refl 0 w').setCell (p := ⟨q, 0, none⟩) (Nat.zero_le _) v
  refine ⟨hq, hk.turn (hb _).os (hb _).tape (hb _).output (hb _).size (fun b _ hU => hh _ b fun e => ?_), hy.of_block (fun b T C hT hbk _ => hh _ b (blk_ne hbk hq (by rcases hT with rfl | rfl | rfl <;> decide))), ?_, h.q1, h.qU⟩
  · have e : b = q := e
    subst e
    rcases hU with hU | hU
    · exact h.qU hU
    · have := h.q1; omega
  · have := hq.set 0 (.slice (some ⟨g, 0, none⟩) (ls.length + 1) c)
    rw [List.length_append]
    exact this
theorem Rd.pushK {g c : Nat} {x : Cl} (h : Rd w0 d p k n h1 q U av ds la lc ka kc ls cs w) (b1 : Below w.heap.size w w1) (hown : OwR tCl 0 w' (.slice (some ⟨g, 0, none⟩) (cs.length + 1) c) (cs ++ [(x, ⟨none, 0, 0⟩)])) (hx : x.l = []) (hg : w1.grownBy w' (Value.slice ka cs.length kc).ownBlock)
    (hl : (Value.slice ka cs.length kc).ownBlock = some g ∨ g = w1.heap.size) :
    Blk w' q 26 #[.slice la ls.length lc, .slice ka cs.length kc] ∧ Rd w0 d p k n h1 q U av ds la lc (some ⟨g, 0, none⟩) c ls (cs ++ [(x, ⟨none, 0, 0⟩)]) (w'.setCell ⟨q, 1, none⟩ (.slice (some ⟨g, 0, none⟩) (cs.length + 1) c)) := by
  have hq : Blk w' q 26 #[.slice la ls.length lc, .slice ka cs.length kc] := h.qb.of_block (grown_keep b1 hg h.qb.lt fun e => by
    obtain ⟨_, Cg, hb⟩ := h.y.cl.blk e
    exact blk_ne h.qb hb (by decide) rfl)
  have hk := h.ksGrown b1 hg h.y.cd
  have hy := h.y.pushK b1 hown hx hg hl h.fresh
  have hh := fun v => Below.heap_setCell w' ⟨q, 1, none⟩ v
  have hb := fun v => (Below.refl 0 w').setCell (p := ⟨q, 1, none⟩) (Nat.zero_le _) v
  refine ⟨hq, hk.turn (hb _).os (hb _).tape (hb _).output (hb _).size (fun b _ hU => hh _ b fun e => ?_), hy.of_block (fun b T C hT hbk _ => hh _ b (blk_ne hbk hq (by rcases hT with rfl | rfl | rfl <;> decide))), ?_, h.q1, h.qU⟩
  · have e : b = q := e
    subst e
    rcases hU with hU | hU
    · exact h.qU hU
    · have := h.q1; omega
  · have := hq.set 1 (.slice (some ⟨g, 0, none⟩) (cs.length + 1) c)
    rw [List.length_append]
    exact this
theorem Rd.pushC {i b g c : Nat} {x : Cl} {s : Sn} {y : C3} (h : Rd w0 d p k n h1 q U av ds la lc (some ⟨b, 0, none⟩) kc ls cs w) (b1 : Below w.heap.size w w1) (hx : cs[i]? = some (x, s)) (hown : OwR tC3 0 w' (.slice (some ⟨g, 0, none⟩) (x.l.length + 1) c) (x.l ++ [y])) (hg : w1.grownBy w' s.v.ownBlock)
    (hl : s.v.ownBlock = some g ∨ g = w1.heap.size) :
    Blk w' q 26 #[.slice la ls.length lc, .slice (some ⟨b, 0, none⟩) cs.length kc] ∧ OwR tCl 0 w' (.slice (some ⟨b, 0, none⟩) cs.length kc) cs ∧
    Rd w0 d p k n h1 q U av ds la lc (some ⟨b, 0, none⟩) kc ls (cs.set i (⟨x.d, x.f, x.l ++ [y]⟩, ⟨some ⟨g, 0, none⟩, x.l.length + 1, c⟩)) (w'.setCell ⟨b, i * 128 + 127, none⟩ (.slice (some ⟨g, 0, none⟩) (x.l.length + 1) c)) := by
  obtain ⟨hn, ho, hd⟩ := h.y.co _ (List.mem_of_getElem? hx)
  simp only at hn ho hd
  have keep : ∀ b T C, T ≠ 63 → Blk w b T C → w'.heap[b]? = w.heap[b]? := fun b T C hT hb => grown_keep b1 hg hb.lt (fun e => (ho.blk e).2.elim fun C' hC' => blk_ne hb hC' hT rfl)
  have hq : Blk w' q 26 #[.slice la ls.length lc, .slice (some ⟨b, 0, none⟩) cs.length kc] := h.qb.of_block (keep q _ _ (by decide) h.qb)
  have hc1 : OwR tCl 0 w' (.slice (some ⟨b, 0, none⟩) cs.length kc) cs := owr_of_block h.y.cl fun k C => keep k _ C (by decide)
  obtain ⟨_, Cp, hp⟩ := hc1.blk rfl
  have hk := h.ksGrown b1 hg hd
  have hy := h.y.pushC b1 hx hown hg hl h.fresh
  have hD := h.y.cd b rfl
  have hh := fun v => Below.heap_setCell w' ⟨b, i * 128 + 127, none⟩ v
  have hb := fun v => (Below.refl 0 w').setCell (p := ⟨b, i * 128 + 127, none⟩) (Nat.zero_le _) v
  refine ⟨hq, hc1, hk.turn (hb _).os (hb _).tape (hb _).output (hb _).size (fun j _ hU => hh _ j fun e => ?_), hy, ?_, h.q1, h.qU⟩
  · have e : j = b := e
    subst e
    rcases hU with hU | hU
    · exact hD.2 hU
    · have := hD.1; omega
  · rw [List.length_set]
    exact hq.of_block (hh _ q fun e => blk_ne hq hp (by decide) e)
theorem Rd.kept (h : Rd w0 d p k n h1 q U av ds la lc ka kc ls cs w) (hK : Kd d k ls cs) {g c : Nat} (b1 : Below w.heap.size w w1) (hown : OwR tD w0.heap.size w' (.slice (some ⟨g, 0, none⟩) (ds.length + 1) c) (ds ++ [(⟨la, ls.length, lc⟩, ⟨ka, cs.length, kc⟩)])) (hg : w1.grownBy w' av.v.ownBlock) (hl : av.v.ownBlock = some g ∨ g = w1.heap.size) :
    Ks w0 d p (k + 1) n w'.heap.size U ⟨some ⟨g, 0, none⟩, ds.length + 1, c⟩ (ds ++ [(⟨la, ls.length, lc⟩, ⟨ka, cs.length, kc⟩)]) w' := by
  have keep : ∀ b T C, T ≠ 26 → Blk w b T C → w'.heap[b]? = w.heap[b]? := fun b T C hT hb => grown_keep b1 hg hb.lt (fun e => (h.ks.ao.blk e).2.elim fun C' hC' => blk_ne hb hC' hT rfl)
  have hh1 := h.ks.hi
  have hs1 : w.heap.size ≤ w'.heap.size := Nat.le_trans b1.size hg.size
  have hav : ∀ b, av.v.ownBlock = some b → w0.heap.size ≤ b := fun b hb => (h.ks.ao.blk hb).1
  have hy : Yw (fun g => h1 ≤ g ∧ ¬ U g) w' la lc ka kc ls cs := h.y.of_block fun b T C hT hb _ => keep b T C (by rcases hT with rfl | rfl | rfl <;> decide) hb
  refine ⟨⟨(hg.os.trans b1.os).trans h.ks.ex.os, (hg.tape.trans b1.tape).trans h.ks.ex.tape, (hg.output.trans b1.output).trans h.ks.ex.output, Nat.le_trans h.ks.ex.size hs1, fun b hlt hp => ?_⟩,
    h.ks.led.keep (hg.os.trans b1.os) (hg.tape.trans b1.tape) (hg.output.trans b1.output) hs1 (fun b hlt hU => grown_keep b1 hg hlt fun e => (h.ks.ac b e).1 hU), h.ks.up, fun b hU => Nat.lt_of_lt_of_le (h.ks.dn b hU) hs1, Nat.le_trans h.ks.ex.size hs1, Nat.le_refl _, hown, fun b hb => ?_, fun m s hm => ?_, ?_⟩
  · exact (grown_keep b1 hg (Nat.lt_of_lt_of_le hlt h.ks.ex.size) fun e => by have := hav b e; omega).trans (h.ks.ex.block b hlt hp)
  · have hbg : b = g := by injection hb with hb; exact hb.symm
    subst hbg
    refine ⟨fun hU => ?_, hown.lt rfl⟩
    rcases hl with hl | hl
    · exact (h.ks.ac b hl).1 hU
    · have := h.ks.dn b hU; have := b1.size; omega
  · rw [List.getElem?_append] at hm
    split at hm
    · obtain ⟨ls', cs', a1, a2, a3, a4⟩ := h.ks.ar m s hm
      refine ⟨ls', cs', a1, a2, a3, ?_⟩
      have a5 : Yw (fun g => w0.heap.size ≤ g ∧ ¬ U g ∧ g < h1) w' s.1.a s.1.c s.2.a s.2.c ls' cs' := a4.of_block fun b T C hT hb _ => keep b T C (by rcases hT with rfl | rfl | rfl <;> decide) hb
      exact a5.mono fun b hlt hD => ⟨hD.1, hD.2.1, hlt⟩
    · have hm0 : m = ds.length := by
        have := (List.getElem?_eq_some_iff.1 hm).1
        simp only [List.length_singleton] at this
        omega
      subst hm0
      simp only [Nat.sub_self, List.getElem?_cons_zero] at hm
      injection hm with hm
      subst hm
      rw [h.ks.an]
      exact ⟨ls, cs, hK, rfl, rfl, hy.mono fun b hlt hD => ⟨Nat.le_trans h.ks.lo hD.1, hD.2, hlt⟩⟩
  · rw [List.length_append, h.ks.an]
    rfl
theorem yw_monoT {D D' : Nat → Prop} (h : Yw D w la lc ka kc ls cs) (hD : ∀ g T C, (T = 54 ∨ T = 61 ∨ T = 63) → Blk w g T C → D g → D' g) : Yw D' w la lc ka kc ls cs :=
  ⟨h.lp, fun g hg => (h.lp.blk hg).2.elim fun C hC => hD g _ C (Or.inl rfl) hC (h.ld g hg), h.cl, fun g hg => (h.cl.blk hg).2.elim fun C hC => hD g _ C (Or.inr (Or.inl rfl)) hC (h.cd g hg),
    fun x hx => ⟨(h.co x hx).1, (h.co x hx).2.1, fun g hg => ((h.co x hx).2.1.blk hg).2.elim fun C hC => hD g _ C (Or.inr (Or.inr rfl)) hC ((h.co x hx).2.2 g hg)⟩, h.dj⟩
theorem Rd.own (h : Rd w0 d p k n h1 q U av ds la lc ka kc ls cs w) {B : Nat} {v : Value} {l : List By} (hB : h1 ≤ B) (hv : OwR tY B w v l) (fu : Fu (fun b => U b ∨ v.ownBlock = some b) w w') (led : Led (fun b => U b ∨ v.ownBlock = some b ∨ (w.heap.size ≤ b ∧ b < w'.heap.size)) p (n + 1) w') :
    Rd w0 d p k (n + 1) h1 q (fun b => U b ∨ v.ownBlock = some b ∨ (w.heap.size ≤ b ∧ b < w'.heap.size)) av ds la lc ka kc ls cs w' := by
  have ne : ∀ g T C, T ≠ 5 → Blk w g T C → v.ownBlock ≠ some g := fun g T C hT hb e => by
    obtain ⟨_, Cv, hc⟩ := hv.blk e
    exact blk_ne hb hc hT rfl
  have tt : ∀ T, (T = 54 ∨ T = 61 ∨ T = 63) → T ≠ 5 := fun T hT => by rcases hT with rfl | rfl | rfl <;> decide
  refine ⟨h.ks.own hB hv fu led, ?_, h.qb.of_block (fu.block q h.qb.lt fun e => e.elim h.qU (ne q _ _ (by decide) h.qb)), h.q1, fun e => ?_⟩
  · have a := yw_monoT (D' := fun g => h1 ≤ g ∧ ¬ (U g ∨ v.ownBlock = some g ∨ (w.heap.size ≤ g ∧ g < w'.heap.size))) h.y fun g T C hT hb hD => ⟨hD.1, fun e => by
      rcases e with e | e | e
      · exact hD.2 e
      · exact ne g T C (tt T hT) hb e
      · have := hb.lt; omega⟩
    exact a.of_block fun g T C hT hb hD => fu.block g hb.lt fun e => hD.2 (e.elim Or.inl fun e => Or.inr (Or.inl e))
  · rcases e with e | e | e
    · exact h.qU e
    · exact ne q _ _ (by decide) h.qb e
    · have := h.qb.lt; omega
end
end Go.Proofs.Ytfdjdpbiccclfaa
namespace Go.Proofs.Ytfdjdpbiccclfaa
open Go Go.RowKit Go.Wr
set_option maxHeartbeats 4000000
set_option maxRecDepth 100000
structure Plw (d : Dd) (k i : Nat) (ls : List Lp) : Prop where
  len : ls.length = d.ls.length
  dn : ∀ (j : Nat) (x : Lp), j < i → ls[j]? = some x → x.k = 1000 * (k : Int) + (j : Int)
theorem Plw.zero (d : Dd) (k : Nat) : Plw d k 0 d.ls := ⟨rfl, fun _ _ h => by omega⟩
theorem Plw.set {d : Dd} {k i : Nat} {ls : List Lp} (h : Plw d k i ls) {x : Lp} (hx : ls[i]? = some x) : Plw d k (i + 1) (ls.set i ⟨x.h, x.a, x.b, 1000 * (k : Int) + (i : Int), x.d⟩) := by
  have hi := (List.getElem?_eq_some_iff.1 hx).1
  refine ⟨by rw [List.length_set]; exact h.len, fun j y hj hy => ?_⟩
  rw [List.getElem?_set] at hy
  by_cases e : i = j
  · subst e
    rw [if_pos rfl, if_pos hi] at hy
    injection hy with hy
    subst hy
    rfl
  · rw [if_neg e] at hy
    exact h.dn j y (by omega) hy
structure Pcw (d : Dd) (k i j : Nat) (cs : List (Cl × Sn)) : Prop where
  len : cs.length = d.cs.length
  dn : ∀ (m : Nat) (c : Cl) (y : Cl × Sn), m < i → d.cs[m]? = some c → cs[m]? = some y → y.1.l.length = c.l.length + 1 ∧ (y.1.f 0).m = 7 * (k : Int) + (m : Int) ∧
    ∀ (t : Nat) (z : C3), y.1.l[t]? = some z → z.c = if t < c.l.length then 100000 * (k : Int) + 1000 * (m : Int) + (t : Int) else -1000 * (k : Int) - (m : Int)
  cu : ∀ (c : Cl) (y : Cl × Sn), d.cs[i]? = some c → cs[i]? = some y → y.1.l.length = c.l.length ∧ ∀ (t : Nat) (z : C3), t < j → y.1.l[t]? = some z → z.c = 100000 * (k : Int) + 1000 * (i : Int) + (t : Int)
  up : ∀ (m : Nat) (c : Cl) (y : Cl × Sn), i < m → d.cs[m]? = some c → cs[m]? = some y → y.1.l.length = c.l.length
theorem Pcw.zero {d : Dd} {cs : List (Cl × Sn)} (k : Nat) (h : cs.map (·.1) = d.cs) : Pcw d k 0 0 cs := by
  have key : ∀ (m : Nat) (c : Cl) (y : Cl × Sn), d.cs[m]? = some c → cs[m]? = some y → y.1.l.length = c.l.length := fun m c y hc hy => by
    rw [← h, List.getElem?_map, hy] at hc
    injection hc with hc
    rw [← hc]
  exact ⟨by rw [← h, List.length_map], fun _ _ _ hm => by omega, fun c y hc hy => ⟨key 0 c y hc hy, fun _ _ ht => by omega⟩, fun m c y _ => key m c y⟩
theorem set_cases {α : Type} {l : List α} {i m : Nat} {a y : α} (h : (l.set i a)[m]? = some y) : (m = i ∧ y = a) ∨ (m ≠ i ∧ l[m]? = some y) := by
  rw [List.getElem?_set] at h
  by_cases e : i = m
  · subst e
    rw [if_pos rfl] at h
    split at h
    · injection h with h
      exact Or.inl ⟨rfl, h.symm⟩
    · cases h
  · rw [if_neg e] at h
    exact Or.inr ⟨fun k => e k.symm, h⟩
theorem Pcw.setC {d : Dd} {k i j : Nat} {cs : List (Cl × Sn)} (h : Pcw d k i j cs) {x : Cl} {s : Sn} {y : C3} (hx : cs[i]? = some (x, s)) (hy : x.l[j]? = some y) :
    Pcw d k i (j + 1) (cs.set i (⟨x.d, x.f, x.l.set j ⟨y.i, y.j, 100000 * (k : Int) + 1000 * (i : Int) + (j : Int)⟩⟩, s)) := by
  refine ⟨by rw [List.length_set]; exact h.len, fun m c z hm hc hz => ?_, fun c z hc hz => ?_, fun m c z hm hc hz => ?_⟩
  · rcases set_cases hz with ⟨e, _⟩ | ⟨_, hz⟩
    · omega
    · exact h.dn m c z hm hc hz
  · rcases set_cases hz with ⟨_, rfl⟩ | ⟨e, _⟩
    · obtain ⟨h1, h2⟩ := h.cu c _ hc hx
      refine ⟨by simp only [List.length_set]; exact h1, fun t z ht hz => ?_⟩
      rcases set_cases hz with ⟨rfl, rfl⟩ | ⟨e, hz⟩
      · rfl
      · exact h2 t z (by omega) hz
    · exact absurd rfl e
  · rcases set_cases hz with ⟨e, _⟩ | ⟨_, hz⟩
    · omega
    · exact h.up m c z hm hc hz
theorem Pcw.fin {d : Dd} {k i j : Nat} {cs : List (Cl × Sn)} (h : Pcw d k i j cs) {c : Cl} {x : Cl} {s s' : Sn} {cs1 : List (Cl × Sn)} {f : Nat → Tg} (hc : d.cs[i]? = some c) (hx : cs[i]? = some (x, s)) (hj : c.l.length ≤ j)
    (h1 : cs1.length = cs.length) (h2 : ∀ m, m ≠ i → cs1[m]? = cs[m]?) (h3 : ∀ y, cs1[i]? = some y → y = (⟨x.d, f, x.l ++ [⟨0, 0, -1000 * (k : Int) - (i : Int)⟩]⟩, s')) (hf : (f 0).m = 7 * (k : Int) + (i : Int)) :
    Pcw d k (i + 1) 0 cs1 := by
  obtain ⟨l1, l2⟩ := h.cu c _ hc hx
  simp only at l1 l2
  refine ⟨by rw [h1]; exact h.len, fun m c' z hm hc' hz => ?_, fun c' z hc' hz => ⟨?_, fun _ _ ht => by omega⟩, fun m c' z hm hc' hz => ?_⟩
  · by_cases e : m = i
    · subst e
      rw [hc] at hc'
      injection hc' with hc'
      subst hc'
      rw [h3 z hz]
      refine ⟨by simp [l1], hf, fun t z ht => ?_⟩
      simp only at ht
      rw [List.getElem?_append] at ht
      split at ht
      · rename_i htl
        rw [if_pos (by omega)]
        exact l2 t z (by omega) ht
      · rename_i htl
        rw [if_neg (by omega)]
        have : t - x.l.length = 0 := by
          have := (List.getElem?_eq_some_iff.1 ht).1
          simp only [List.length_singleton] at this
          omega
        rw [this] at ht
        simp only [List.getElem?_cons_zero] at ht
        injection ht with ht
        subst ht
        rfl
    · rw [h2 m e] at hz
      exact h.dn m c' z (by omega) hc' hz
  · rw [h2 (i + 1) (by omega)] at hz
    exact h.up (i + 1) c' z (by omega) hc' hz
  · rw [h2 m (by omega)] at hz
    exact h.up m c' z (by omega) hc' hz
theorem kd_of {d : Dd} {k i m j : Nat} {ls : List Lp} {cs : List (Cl × Sn)} {s : Sn} {f : Nat → Tg} (h : Plw d k i ls) (hi : d.ls.length ≤ i) (hc : Pcw d k m j cs) (hm : d.cs.length ≤ m) :
    Kd d k (ls ++ [⟨0, 0, 0, -(k : Int), 0⟩]) (cs ++ [(⟨true, f, []⟩, s)]) := by
  refine ⟨by rw [List.length_append, h.len]; rfl, fun t x hx => ?_, by rw [List.length_append, hc.len]; rfl, fun t c y ht hy => ?_⟩
  · rw [List.getElem?_append] at hx
    split at hx
    · rename_i htl
      rw [h.len] at htl
      rw [if_pos htl]
      exact h.dn t x (by omega) hx
    · rename_i htl
      rw [h.len] at htl hx
      rw [if_neg htl]
      have : t - d.ls.length = 0 := by
        have := (List.getElem?_eq_some_iff.1 hx).1
        simp only [List.length_singleton] at this
        omega
      rw [this] at hx
      simp only [List.getElem?_cons_zero] at hx
      injection hx with hx
      subst hx
      rfl
  · have htl := (List.getElem?_eq_some_iff.1 ht).1
    rw [List.getElem?_append_left (by rw [hc.len]; exact htl)] at hy
    exact hc.dn t c y (by omega) ht hy
end Go.Proofs.Ytfdjdpbiccclfaa
namespace Go.Wr
open Go Go.RowKit
theorem wpl_builtS {P : Program} {ops : Array Oper} {rest : List Oper} {op : Oper} {a : Act} {w : World} {Q : Exit → Act → World → Prop} (hgd : op.guard = none) (t : TypeId) (l : List (Nat × Operand)) (ho : op.op = .build t l.toArray) {D : Array Value} (hD : P.built t (l.map (fun x => (x.1, a.eval x.2))) = some D)
    (h : wpList P ops Q rest (a.put op.dst (.agg D)) w) : wpList P ops Q (op :: rest) a w :=
  wpList_plain hgd fun _ hK => wpo_build t l ho hD (hK _ _ h)
end Go.Wr
namespace Go.Proofs.Ytfdjdpbiccclfaa
open Go Go.RowKit Go.Wr
set_option maxHeartbeats 4000000
set_option maxRecDepth 100000
section
variable {w w' : World} {D : Nat → Prop} {d : Dd} {k : Nat} {sa ta : Option Addr} {sc tc : Nat} {ls : List Lp} {cs : List (Cl × Sn)}
theorem kept_loops (hY : Yw D w sa sc ta tc ls cs) (hK : Kd d k ls cs) : ∃ g, sa = some ⟨g, 0, none⟩ ∧ d.ls.length + 1 ≤ sc ∧ sc ≤ 9223372036854775807 ∧ (∀ i, i < d.ls.length → w.cell? ⟨g, i * 5 + 3, none⟩ = some (.int .i64 (1000 * (k : Int) + (i : Int)))) ∧
    w.cell? ⟨g, d.ls.length * 5 + 3, none⟩ = some (.int .i64 (-(k : Int))) := by
  have hl := hY.lp
  obtain ⟨g, rfl⟩ := own_a (a := sa) (n := ls.length) (c := sc) hl (by have := hK.nl; omega)
  have hc := own_wf (a := some ⟨g, 0, none⟩) (n := ls.length) (c := sc) hl
  have at5 : ∀ i, i < ls.length → ∃ x, ls[i]? = some x ∧ w.cell? ⟨g, i * 5 + 3, none⟩ = some (.int .i64 x.k) := fun i hi => by
    obtain ⟨x, hx⟩ : ∃ x, ls[i]? = some x := ⟨_, List.getElem?_eq_getElem hi⟩
    exact ⟨x, hx, at_cell (k := i) (n := tLp.n) (j := 3) (OwR.at hl hx) rfl⟩
  refine ⟨g, rfl, by have := hK.nl; omega, hc.2, fun i hi => ?_, ?_⟩
  · obtain ⟨x, hx, e⟩ := at5 i (by have := hK.nl; omega)
    have := hK.lk i x hx
    rw [if_pos hi] at this
    rw [e, this]
  · obtain ⟨x, hx, e⟩ := at5 d.ls.length (by have := hK.nl; omega)
    have := hK.lk _ x hx
    rw [if_neg (by omega)] at this
    rw [e, this]
theorem kept_claim (hY : Yw D w sa sc ta tc ls cs) (hK : Kd d k ls cs) {i : Nat} {c : Cl} (hc : d.cs[i]? = some c) : ∃ b yb yc, ta = some ⟨b, 0, none⟩ ∧ d.cs.length + 1 ≤ tc ∧ tc ≤ 9223372036854775807 ∧ c.l.length + 1 ≤ yc ∧ yc ≤ 9223372036854775807 ∧
    w.cell? ⟨b, i * 128 + 127, none⟩ = some (.slice (some ⟨yb, 0, none⟩) (c.l.length + 1) yc) ∧ w.cell? ⟨b, i * 128 + 3, none⟩ = some (.int .i64 (7 * (k : Int) + (i : Int))) ∧
    (∀ j, j < c.l.length → w.cell? ⟨yb, j * 3 + 2, none⟩ = some (.int .i64 (100000 * (k : Int) + 1000 * (i : Int) + (j : Int)))) ∧ w.cell? ⟨yb, c.l.length * 3 + 2, none⟩ = some (.int .i64 (-1000 * (k : Int) - (i : Int))) := by
  have hil := (List.getElem?_eq_some_iff.1 hc).1
  have hl := hY.cl
  have hn := hK.nc
  obtain ⟨b, rfl⟩ := own_a (a := ta) (n := cs.length) (c := tc) hl (by omega)
  have hcc := own_wf (a := some ⟨b, 0, none⟩) (n := cs.length) (c := tc) hl
  obtain ⟨⟨x, s⟩, hx⟩ : ∃ x, cs[i]? = some x := ⟨_, List.getElem?_eq_getElem (by omega)⟩
  obtain ⟨h1, h2, h3⟩ := hK.cc i c _ hc hx
  simp only at h1 h2 h3
  obtain ⟨g1, g2, _⟩ := hY.co _ (List.mem_of_getElem? hx)
  simp only at g1 g2
  obtain ⟨ya, yn, yc⟩ := s
  simp only at g1
  rw [h1] at g1
  subst g1
  obtain ⟨yb, rfl⟩ := own_a (a := ya) (n := c.l.length + 1) (c := yc) g2 (by omega)
  have hyc := own_wf (a := some ⟨yb, 0, none⟩) (n := c.l.length + 1) (c := yc) g2
  have at3 : ∀ j, j < x.l.length → ∃ z, x.l[j]? = some z ∧ w.cell? ⟨yb, j * 3 + 2, none⟩ = some (.int .i64 z.c) := fun j hj => by
    obtain ⟨z, hz⟩ : ∃ z, x.l[j]? = some z := ⟨_, List.getElem?_eq_getElem hj⟩
    exact ⟨z, hz, at_cell (k := j) (n := tC3.n) (j := 2) (OwR.at g2 hz) rfl⟩
  refine ⟨b, yb, yc, rfl, by omega, hcc.2, hyc.1, hyc.2, ?_, ?_, fun j hj => ?_, ?_⟩
  · exact at_cell (k := i) (n := tCl.n) (j := 127) (OwR.at hl hx) (by rw [Array.getElem?_toList]; exact bx_last _ _ _)
  · rw [← h2]
    exact at_cell (k := i) (n := tCl.n) (j := 3) (OwR.at hl hx) (by rw [Array.getElem?_toList]; exact (bx_tag _ _ _ (k := 0) (by omega)).2.2)
  · obtain ⟨z, hz, e⟩ := at3 j (by omega)
    have := h3 j z hz
    rw [if_pos hj] at this
    rw [e, this]
  · obtain ⟨z, hz, e⟩ := at3 c.l.length (by omega)
    have := h3 _ z hz
    rw [if_neg (by omega)] at this
    rw [e, this]
theorem want_claim (hY : Yw D w sa sc ta tc ls cs) (hm : cs.map (·.1) = d.cs) {i : Nat} {c : Cl} (hc : d.cs[i]? = some c) : ∃ b za zc, ta = some ⟨b, 0, none⟩ ∧ d.cs.length ≤ tc ∧ tc ≤ 9223372036854775807 ∧ c.l.length ≤ zc ∧ zc ≤ 9223372036854775807 ∧ w.cell? ⟨b, i * 128 + 127, none⟩ = some (.slice za c.l.length zc) := by
  have hil := (List.getElem?_eq_some_iff.1 hc).1
  have hl := hY.cl
  have hn : cs.length = d.cs.length := by rw [← hm, List.length_map]
  obtain ⟨b, rfl⟩ := own_a (a := ta) (n := cs.length) (c := tc) hl (by omega)
  have hcc := own_wf (a := some ⟨b, 0, none⟩) (n := cs.length) (c := tc) hl
  obtain ⟨⟨x, s⟩, hx⟩ : ∃ x, cs[i]? = some x := ⟨_, List.getElem?_eq_getElem (by omega)⟩
  have hxc : x = c := by
    rw [← hm, List.getElem?_map, hx] at hc
    injection hc
  subst hxc
  obtain ⟨g1, g2, _⟩ := hY.co _ (List.mem_of_getElem? hx)
  simp only at g1 g2
  obtain ⟨ya, yn, yc⟩ := s
  simp only at g1
  subst g1
  have hyc := own_wf g2
  exact ⟨b, ya, yc, rfl, by omega, hcc.2, hyc.1, hyc.2, at_cell (k := i) (n := tCl.n) (j := 127) (OwR.at hl hx) (by rw [Array.getElem?_toList]; exact bx_last _ _ _)⟩
theorem last_below {B p n : Nat} {w0 : World} {os : World} {U : Nat → Prop} {h1 : Nat} {av : Sn} {ds : List (Sn × Sn)} (hb : Below B os w) (hB : B ≤ w0.heap.size) (hp : B ≤ p) (hK : Ks w0 d p k n h1 U av ds w) (fu : Fu U w w') : Below B os w' :=
  ⟨fu.os.trans hb.os, fu.tape.trans hb.tape, fu.output.trans hb.output, Nat.le_trans hb.size fu.size, fun b h => (fu.block b (Nat.lt_of_lt_of_le (Nat.lt_of_lt_of_le h hB) (Nat.le_trans hK.lo hK.hi)) fun hU => by
    rcases hK.up b hU with e | e <;> omega).trans (hb.block b h)⟩
end
end Go.Proofs.Ytfdjdpbiccclfaa
namespace Go.Proofs.Ytfdjdpbiccclfaa
open Go Go.RowKit Go.Wr
set_option maxHeartbeats 4000000
set_option maxRecDepth 100000
structure CuL (B p : Nat) (b : List Nat) (a : Nat) (w : World) (vb : Value) : Prop where
  blk : Blk w p 93 #[vb, .int .i64 (a : Int), .int .i64 0, .int .i64 0]
  by' : SlBy B w vb b
  hp : B ≤ p
  at' : a ≤ b.length
  len : b.length ≤ 4194304
structure CuD (B p : Nat) (b : List Nat) (y : Nat) (er : Int) (w : World) (vb : Value) : Prop where
  blk : ∃ a : Nat, Blk w p 93 #[vb, .int .i64 (a : Int), .int .i64 (y : Int), .int .i64 er]
  by' : SlBy B w vb b
  hp : B ≤ p
  er' : er ≠ 0
  len : b.length ≤ 4194304
section
variable {B p a y : Nat} {er : Int} {b : List Nat} {w w' : World} {vb : Value}
theorem CuL.lt (h : CuL B p b a w vb) : p < w.heap.size := h.blk.lt
theorem CuD.lt (h : CuD B p b y er w vb) : p < w.heap.size := by obtain ⟨_, hb⟩ := h.blk; exact hb.lt
theorem CuL.below (h : CuL B p b a w vb) (hb : Below w.heap.size w w') : CuL B p b a w' vb :=
  ⟨h.blk.below hb h.blk.lt, h.by'.below ((Ex.of_below (p := p) hb).below h.hp (Nat.le_trans h.hp (Nat.le_of_lt h.blk.lt))), h.hp, h.at', h.len⟩
theorem CuD.below (h : CuD B p b y er w vb) (hb : Below w.heap.size w w') : CuD B p b y er w' vb :=
  ⟨by obtain ⟨a, hk⟩ := h.blk; exact ⟨a, hk.below hb hk.lt⟩, h.by'.below ((Ex.of_below (p := p) hb).below h.hp (Nat.le_trans h.hp (Nat.le_of_lt h.lt))), h.hp, h.er', h.len⟩
theorem CuL.alloc (h : CuL B p b a w vb) (o : Obj) : CuL B p b a (w.alloc o) vb := h.below (bAl (bRefl w) o)
theorem CuD.alloc (h : CuD B p b y er w vb) (o : Obj) : CuD B p b y er (w.alloc o) vb := h.below (bAl (bRefl w) o)
theorem CuL.drewN (h : CuL B p b a w vb) (n : Nat) : CuL B p b a (w.drewN n) vb := h.below ⟨rfl, rfl, rfl, Nat.le_refl _, fun _ _ => rfl⟩
theorem CuD.drewN (h : CuD B p b y er w vb) (n : Nat) : CuD B p b y er (w.drewN n) vb := h.below ⟨rfl, rfl, rfl, Nat.le_refl _, fun _ _ => rfl⟩
theorem CuL.drew (h : CuL B p b a w vb) : CuL B p b a w.drew vb := h.below ⟨rfl, rfl, rfl, Nat.le_refl _, fun _ _ => rfl⟩
theorem CuD.drew (h : CuD B p b y er w vb) : CuD B p b y er w.drew vb := h.below ⟨rfl, rfl, rfl, Nat.le_refl _, fun _ _ => rfl⟩
theorem CuL.set_other (h : CuL B p b a w vb) {q i : Nat} (v : Value) (hq : q ≠ p) (hB : B ≤ q) : CuL B p b a (w.setCell ⟨q, i, none⟩ v) vb :=
  ⟨h.blk.set_other q i v (fun e => hq e.symm), h.by'.below ((Below.refl B w).setCell (p := ⟨q, i, none⟩) hB v), h.hp, h.at', h.len⟩
theorem CuD.set_other (h : CuD B p b y er w vb) {q i : Nat} (v : Value) (hq : q ≠ p) (hB : B ≤ q) : CuD B p b y er (w.setCell ⟨q, i, none⟩ v) vb :=
  ⟨by obtain ⟨a, hk⟩ := h.blk; exact ⟨a, hk.set_other q i v (fun e => hq e.symm)⟩, h.by'.below ((Below.refl B w).setCell (p := ⟨q, i, none⟩) hB v), h.hp, h.er', h.len⟩
end
def RC {α : Type} (B p : Nat) (b : List Nat) (vb : Value) (r : Except (Nat × Int) (α × Nat)) (out : α → Value → World → Prop) (w : World) (e : Ending) (w' : World) : Prop :=
  match r with
  | .ok (x, a) => ∃ v, e = .returned v ∧ out x v w' ∧ CuL B p b a w' vb ∧ Ex p w w'
  | .error (y, er) => ∃ x v, e = .returned v ∧ out x v w' ∧ CuD B p b y er w' vb ∧ Ex p w w'
section
variable {α : Type} {B p : Nat} {b : List Nat} {vb : Value} {r : Except (Nat × Int) (α × Nat)} {out : α → Value → World → Prop} {w w' : World} {e : Ending}
theorem RC.err (h : RC B p b vb r out w e w') {y : Nat} {er : Int} (hr : r = .error (y, er)) : ∃ x v, e = .returned v ∧ out x v w' ∧ CuD B p b y er w' vb ∧ Ex p w w' := by subst hr; exact h
theorem RC.ok (h : RC B p b vb r out w e w') {x : α} {a : Nat} (hr : r = .ok (x, a)) : ∃ v, e = .returned v ∧ out x v w' ∧ CuL B p b a w' vb ∧ Ex p w w' := by subst hr; exact h
theorem RC.mk_err {y : Nat} {er : Int} {x : α} {v : Value} (hr : r = .error (y, er)) (ho : out x v w') (hd : CuD B p b y er w' vb) (hx : Ex p w w') : RC B p b vb r out w (.returned v) w' := by subst hr; exact ⟨x, v, rfl, ho, hd, hx⟩
theorem RC.mk_ok {x : α} {a : Nat} {v : Value} (hr : r = .ok (x, a)) (ho : out x v w') (hd : CuL B p b a w' vb) (hx : Ex p w w') : RC B p b vb r out w (.returned v) w' := by subst hr; exact ⟨v, rfl, ho, hd, hx⟩
theorem CuL.byte_lt {a x m : Nat} (h : CuL B p b a w vb) (hx : pByte b a = .ok (x, m)) : x < 256 ∧ m = a + 1 ∧ a < b.length := by
  unfold pByte at hx
  cases hb : b[a]? with
  | none => rw [hb] at hx; cases hx
  | some y =>
    rw [hb] at hx
    simp only [Except.ok.injEq, Prod.mk.injEq] at hx
    obtain ⟨rfl, rfl⟩ := hx
    obtain ⟨_, _, _, _, _, hc⟩ := h.by'
    obtain ⟨_, _, _, _, h3, _⟩ := hc a y hb
    exact ⟨h3, rfl, (List.getElem?_eq_some_iff.1 hb).1⟩
end
theorem cfault_ok (w : World) (B p a : Nat) (b : List Nat) (vb : Value) (h : CuL B p b a w vb) (y : Nat) (er : Int) (he : er ≠ 0) :
    Calls Try.prog 40 #[.pointer (some ⟨p, 0, none⟩), .int .i64 (y : Int), .int .i64 er] w fun e w' => e = .returned (.tuple #[]) ∧ CuD B p b y er w' vb ∧ Ex p w w' := by
  have H := Lib.hid h
  have c2 := h.blk.cell 2
  have c3 := h.blk.cell 3
  have f2 := h.blk.frozen 2
  have f3 := h.blk.frozen 3
  have hpl := h.blk.lt
  simp only [List.getElem?_toArray, List.getElem?_cons_zero, List.getElem?_cons_succ] at c2 c3
  have HE := Lib.hid he
  clear h he
  go_enter Try.func40, Try.ntmps40
  go_wp2
  go_end0
  refine ⟨rfl, ⟨⟨a, ?_⟩, ?_, H.out.hp, HE.out, H.out.len⟩, ((Ex.refl p w).set _ _).set _ _⟩
  · exact ((H.out.blk.set 2 (.int .i64 (y : Int))).set 3 (.int .i64 er)).eq rfl
  · exact H.out.by'.below (((Ex.refl p w).set 2 _ |>.set 3 _).below H.out.hp (Nat.le_trans H.out.hp (Nat.le_of_lt hpl)))
def RB (B p : Nat) (b : List Nat) (vb : Value) (r : Except (Nat × Int) (Nat × Nat)) (w : World) (e : Ending) (w' : World) : Prop :=
  match r with
  | .ok (x, a) => e = .returned (.int .i64 (x : Int)) ∧ CuL B p b a w' vb ∧ Ex p w w'
  | .error (y, er) => e = .returned (.int .i64 0) ∧ CuD B p b y er w' vb ∧ Ex p w w'
theorem RB.err {B p : Nat} {b : List Nat} {vb : Value} {r : Except (Nat × Int) (Nat × Nat)} {w w' : World} {e : Ending} (h : RB B p b vb r w e w') {y : Nat} {er : Int} (hr : r = .error (y, er)) : e = .returned (.int .i64 0) ∧ CuD B p b y er w' vb ∧ Ex p w w' := by subst hr; exact h
theorem RB.ok {B p : Nat} {b : List Nat} {vb : Value} {r : Except (Nat × Int) (Nat × Nat)} {w w' : World} {e : Ending} (h : RB B p b vb r w e w') {x a : Nat} (hr : r = .ok (x, a)) : e = .returned (.int .i64 (x : Int)) ∧ CuL B p b a w' vb ∧ Ex p w w' := by subst hr; exact h
theorem RB.rc {B p : Nat} {b : List Nat} {vb : Value} {r : Except (Nat × Int) (Nat × Nat)} {w w' : World} {e : Ending} (h : RB B p b vb r w e w') : RC B p b vb r isNat w e w' := by
  cases r with
  | ok v => obtain ⟨x, a⟩ := v; exact ⟨_, h.1, rfl, h.2⟩
  | error v => obtain ⟨y, er⟩ := v; exact ⟨0, _, h.1, rfl, h.2⟩
theorem cbyte_dead0 (w : World) (B p y : Nat) (er : Int) (b : List Nat) (vb : Value) (h : CuD B p b y er w vb) :
    Calls Try.prog 60 #[.pointer (some ⟨p, 0, none⟩)] w (RB B p b vb (.error (y, er)) w) := by
  have H := Lib.hid h
  obtain ⟨a, hb⟩ := h.blk
  have c3 := hb.cell 3
  simp only [List.getElem?_toArray, List.getElem?_cons_zero, List.getElem?_cons_succ] at c3
  have hne : (er != 0) = true := by rw [bne_iff_ne]; exact h.er'
  clear h hb
  go_enter Try.func60, Try.ntmps60
  go_wp2
  go_ret
  exact ⟨rfl, H.out, Ex.refl p w⟩
theorem cbyte_dead (w : World) (B p y : Nat) (er : Int) (b : List Nat) (vb : Value) (h : CuD B p b y er w vb) :
    Calls Try.prog 60 #[.pointer (some ⟨p, 0, none⟩)] w (RC B p b vb (.error (y, er) : Except (Nat × Int) (Nat × Nat)) isNat w) :=
  (cbyte_dead0 w B p y er b vb h).mono fun _ _ h => h.rc
theorem cbyte_ok0 (w : World) (B p a : Nat) (b : List Nat) (vb : Value) (h : CuL B p b a w vb) :
    Calls Try.prog 60 #[.pointer (some ⟨p, 0, none⟩)] w (RB B p b vb (pByte b a) w) := by
  have H := Lib.hid h
  obtain ⟨hblk, ⟨a0, cap, rfl, hc1, hc2, hcell⟩, hp, hat, hlen⟩ := h
  have c0 := hblk.cell 0
  have c1 := hblk.cell 1
  have c3 := hblk.cell 3
  have f1 := hblk.frozen 1
  simp only [List.getElem?_toArray, List.getElem?_cons_zero, List.getElem?_cons_succ] at c0 c1 c3
  have HC := Lib.hid hcell
  unfold maxLen at hc2
  clear hblk hcell
  cases hx : b[a]? with
  | none =>
    have hge : b.length ≤ a := by simpa using hx
    have hge' : (b.length : Int) ≤ (a : Int) := by omega
    have e1 : Hid (pByte b a = .error (b.length, 110)) := by show _ = _; unfold pByte; rw [hx]
    clear hx
    go_enter Try.func60, Try.ntmps60
    go_upto_region 3 with (fail)
    go_quiet (fail)
    go_wp2_with fail
    refine (cfault_ok _ B p a b _ (H.out.drewN _) b.length 110 (by decide)).mono ?_
    rintro e w1 ⟨rfl, hd, hx⟩
    have HD := Lib.hid hd
    clear hd
    go_wp2
    go_ret
    rw [e1.out]
    exact ⟨rfl, HD.out, ((Ex.refl p w).drewN _).trans hx⟩
  | some x =>
    have hlt : a < b.length := (List.getElem?_eq_some_iff.1 hx).1
    have hlt' : ¬ (b.length : Int) ≤ (a : Int) := by omega
    obtain ⟨bb, off, rfl, hbb, hx256, hcx⟩ := HC.out a x hx
    have e1 : Hid (pByte b a = .ok (x, a + 1)) := by show _ = _; unfold pByte; rw [hx]
    have hw1 : IntKind.i64.wrap ((a : Int) + 1) = (a : Int) + 1 := IntWalk.i64_in _ (by omega)
    clear hx
    go_enter Try.func60, Try.ntmps60
    go_upto_region 3 with (fail)
    go_quiet (fail)
    go_upto_region 7 with (fail)
    generalize hV : (w.drewN nq).setCell ⟨p, 1, none⟩ (.int .i64 ((a : Int) + 1)) = V
    have xV : Ex p w V := by rw [← hV]; exact ((Ex.refl p w).drewN _).set _ _
    have qV : CuL B p b (a + 1) V (.slice (some ⟨bb, off, none⟩) b.length cap) := by
      have hpl := H.out.lt
      refine ⟨?_, H.out.by'.below (xV.below hp (by omega)), hp, by omega, hlen⟩
      rw [← hV]
      exact ((H.out.blk.drewN nq).set 1 _).eq rfl
    have c0 := qV.blk.cell 0
    have c1 := qV.blk.cell 1
    simp only [List.getElem?_toArray, List.getElem?_cons_zero, List.getElem?_cons_succ] at c0 c1
    have hcx := ((xV.below hp (by have := H.out.lt; omega)).cell (p := ⟨bb, off + a, none⟩) hbb).trans hcx
    have QV := Lib.hid qV
    have hwa : IntKind.i64.wrap (a : Int) = a := IntWalk.i64_in _ (by omega)
    clear hV qV f1
    go_quiet (fail)
    go_wp2
    go_ret
    rw [e1.out]
    exact ⟨rfl, QV.out.drewN _, xV.drewN _⟩
theorem cbyte_ok (w : World) (B p a : Nat) (b : List Nat) (vb : Value) (h : CuL B p b a w vb) :
    Calls Try.prog 60 #[.pointer (some ⟨p, 0, none⟩)] w (RC B p b vb (pByte b a) isNat w) := (cbyte_ok0 w B p a b vb h).mono fun _ _ h => h.rc
end Go.Proofs.Ytfdjdpbiccclfaa
namespace Go.Proofs.Ytfdjdpbiccclfaa
open Go Go.RowKit Go.Wr
set_option maxHeartbeats 4000000
set_option maxRecDepth 100000
theorem CuD.cell3 {B p y : Nat} {er : Int} {b : List Nat} {w : World} {vb : Value} (h : CuD B p b y er w vb) : w.cell? ⟨p, 3, none⟩ = some (.int .i64 er) := by
  obtain ⟨a, hb⟩ := h.blk
  exact hb.cell 3
theorem CuD.cell1 {B p y : Nat} {er : Int} {b : List Nat} {w : World} {vb : Value} (h : CuD B p b y er w vb) : ∃ a : Nat, w.cell? ⟨p, 1, none⟩ = some (.int .i64 (a : Int)) := by
  obtain ⟨a, hb⟩ := h.blk
  exact ⟨a, hb.cell 1⟩
theorem CuL.cell3 {B p a : Nat} {b : List Nat} {w : World} {vb : Value} (h : CuL B p b a w vb) : w.cell? ⟨p, 3, none⟩ = some (.int .i64 0) := h.blk.cell 3
theorem CuL.cell1 {B p a : Nat} {b : List Nat} {w : World} {vb : Value} (h : CuL B p b a w vb) : w.cell? ⟨p, 1, none⟩ = some (.int .i64 (a : Int)) := h.blk.cell 1
theorem CuD.ne {B p y : Nat} {er : Int} {b : List Nat} {w : World} {vb : Value} (h : CuD B p b y er w vb) : (er != 0) = true := by rw [bne_iff_ne]; exact h.er'
theorem CuD.ne' {B p y : Nat} {er : Int} {b : List Nat} {w : World} {vb : Value} (h : CuD B p b y er w vb) : (er == 0) = false := by rw [beq_eq_false_iff_ne]; exact h.er'
theorem grp_add {acc g k : Nat} (hk : k < 9) (hacc : acc < 2 ^ (7 * k)) {U : Int} (hU : U = ((2 ^ (7 * k) : Nat) : Int)) :
    wrap64 (U * ((g : Int) % 128)) = ((g % 128 * 2 ^ (7 * k) : Nat) : Int) ∧ wrap64 ((acc : Int) + ((g % 128 * 2 ^ (7 * k) : Nat) : Int)) = ((acc + g % 128 * 2 ^ (7 * k) : Nat) : Int) := by
  have hn := grp_next (g := g) hk hacc
  have e1 : (g : Int) % 128 = ((g % 128 : Nat) : Int) := by omega
  subst hU
  rw [e1, ← Int.natCast_mul, Nat.mul_comm (2 ^ (7 * k))]
  constructor
  · unfold wrap64; omega
  · unfold wrap64; omega
theorem cnumber_dead (w : World) (B p y : Nat) (er : Int) (b : List Nat) (vb : Value) (h : CuD B p b y er w vb) :
    Calls Try.prog 58 #[.pointer (some ⟨p, 0, none⟩)] w (RC B p b vb (.error (y, er) : Except (Nat × Int) (Nat × Nat)) isNat w) := by
  have H := Lib.hid h
  obtain ⟨a, c1⟩ := h.cell1
  clear h
  go_enter Try.func58, Try.ntmps58
  go_wp2
  go_loopw [6] (fun c wr => c = .int .i64 0 ∧ CuD B p b y er wr vb ∧ Ex p w wr) (fun _ _ => 0)
  case atStart => exact ⟨rfl, H.out, Ex.refl _ _⟩
  case round =>
    obtain ⟨rfl, hd, hx⟩ := hrel
    have HD := Lib.hid hd
    clear hd H c1
    go_wp2_with fail
    refine (cbyte_dead wr B p y er b vb HD.out).mono ?_
    rintro e w1 hr
    obtain ⟨x, v, rfl, rfl, hd1, hx1⟩ := hr.err rfl
    have c3 := hd1.cell3
    have hne := hd1.ne
    have HD1 := Lib.hid hd1
    clear hd1 hr
    go_wp2
    go_ret
    exact RC.mk_err rfl (x := 0) rfl HD1.out (hx.trans hx1)
theorem cnumber_ok (w : World) (B p a : Nat) (b : List Nat) (vb : Value) (h : CuL B p b a w vb) :
    Calls Try.prog 58 #[.pointer (some ⟨p, 0, none⟩)] w (RC B p b vb (pNum b a) isNat w) := by
  have H := Lib.hid h
  have c1 := h.cell1
  clear h
  obtain ⟨R, hR⟩ : ∃ R, R = pNum b a := ⟨_, rfl⟩
  rw [← hR]
  have HR := Lib.hid hR
  clear hR
  go_enter Try.func58, Try.ntmps58
  go_wp2
  go_loopw [4, 5, 6] (fun t u c wr => ∃ k acc m : Nat, ∃ U : Int, k ≤ 9 ∧ c = .int .i64 (k : Int) ∧ t = .int .i64 (acc : Int) ∧ u = .int .i64 U ∧ Hid (k ≤ 8 → U = ((2 ^ (7 * k) : Nat) : Int)) ∧ acc < 2 ^ (7 * k) ∧ Hid (R = pGrp a (9 - k) k acc b m) ∧ CuL B p b m wr vb ∧ Ex p w wr) (fun _ _ c _ => 9 - (intOf c).toNat)
  case atStart => exact ⟨0, 0, a, 1, by omega, rfl, rfl, rfl, fun _ => by simp, by simp, HR.out, H.out, Ex.refl _ _⟩
  case round =>
    obtain ⟨k, acc, m, U, hk, rfl, rfl, rfl, hU, hacc, he, hd, hx⟩ := hrel
    by_cases hlt : k < 9
    · have hlt' : (k : Int) < 9 := by omega
      have HD := Lib.hid hd
      have HA := Lib.hid hacc
      clear hd hacc H c1
      go_wp2_with fail
      refine (cbyte_ok wr B p m b vb HD.out).mono ?_
      rintro e w1 hr
      cases hb : pByte b m with
      | error y =>
        obtain ⟨y, ye⟩ := y
        obtain ⟨x, v, rfl, rfl, hd1, hx2⟩ := hr.err hb
        have e1 : Hid (R = .error (y, ye)) := by
          show _ = _
          rw [he.out, show 9 - k = (8 - k) + 1 by omega]
          simp only [pGrp, pBind, hb]
        have c3 := hd1.cell3
        have hne := hd1.ne
        have HD1 := Lib.hid hd1
        clear hr hb he hd1
        go_wp2
        go_ret
        exact RC.mk_err e1.out (x := 0) rfl HD1.out (hx.trans hx2)
      | ok v =>
        obtain ⟨g, m'⟩ := v
        obtain ⟨v, rfl, rfl, hd2, hx2⟩ := hr.ok hb
        obtain ⟨x256, rfl, _⟩ := HD.out.byte_lt hb
        have hX := hx.trans hx2
        have c3 := hd2.cell3
        have HD2 := Lib.hid hd2
        have HB := Lib.hid hb
        clear hr hb hd2 hx hx2
        obtain ⟨q1, q2⟩ := grp_add (g := g) hlt HA.out (hU.out (by omega))
        obtain ⟨P, hP⟩ : ∃ P : Int, P = ((g % 128 * 2 ^ (7 * k) : Nat) : Int) := ⟨_, rfl⟩
        rw [← hP] at q1 q2
        obtain ⟨ac2, hac⟩ : ∃ n, n = acc + g % 128 * 2 ^ (7 * k) := ⟨_, rfl⟩
        have hnx := (grp_next (g := g) hlt HA.out).1
        rw [← hac] at q2 hnx
        have HU2 : Hid (k + 1 ≤ 8 → wrap64 (U * 128) = ((2 ^ (7 * (k + 1)) : Nat) : Int)) := by
          show _ → _
          intro hk8
          have e : 2 ^ (7 * (k + 1)) = 128 * 2 ^ (7 * k) := by rw [show 7 * (k + 1) = 7 + 7 * k by omega, Nat.pow_add]
          have h2 : 2 ^ (7 * k) ≤ 2 ^ 49 := Nat.pow_le_pow_right (by decide) (by omega)
          have h4 : (2 : Nat) ^ 49 = 562949953421312 := by decide
          rw [hU.out (by omega), e]
          unfold wrap64
          omega
        have HN := Lib.hid hnx
        have he2 : Hid (R = if g < 128 then (if g = 0 ∧ 0 < k then .error (a, 110) else .ok (ac2, m + 1)) else pGrp a (8 - k) (k + 1) ac2 b (m + 1)) := by
          show _ = _
          rw [he.out, show 9 - k = (8 - k) + 1 by omega]
          simp only [pGrp, pBind, HB.out, ← hac]
          by_cases h1 : g < 128
          · rw [if_pos h1, if_pos h1]
            by_cases h2 : g = 0 ∧ 0 < k
            · rw [if_pos h2, if_pos h2]; rfl
            · rw [if_neg h2, if_neg h2]; rfl
          · rw [if_neg h1, if_neg h1]
        clear hnx hac he HB hP
        by_cases h1 : g < 128
        · have h1' : (g : Int) < 128 := by omega
          by_cases h3 : g = 0
          · subst h3
            obtain rfl : P = 0 := by rw [← q1]; unfold wrap64; simp
            obtain rfl : ac2 = acc := by
              have : wrap64 ((acc : Int) + 0) = acc := by
                have := (grp_next (g := 0) hlt HA.out)
                unfold wrap64
                omega
              omega
            have hwa : wrap64 (ac2 : Int) = ac2 := by
              have := (grp_next (g := 0) hlt HA.out)
              unfold wrap64
              omega
            clear q1 q2
            by_cases h2 : 0 < k
            · have hk0' : (0 : Int) < (k : Int) := by omega
              have e1 : Hid (R = .error (a, 110)) := by
                show _ = _
                rw [he2.out, if_pos (by omega), if_pos ⟨rfl, h2⟩]
              clear he2
              go_wp2_with fail
              refine (cfault_ok _ B p _ b vb HD2.out a 110 (by decide)).mono ?_
              rintro e w2 ⟨rfl, hd3, hx3⟩
              have HD3 := Lib.hid hd3
              clear hd3
              go_wp2
              go_ret
              exact RC.mk_err e1.out (x := ac2) rfl HD3.out (hX.trans hx3)
            · obtain rfl : k = 0 := by omega
              have e1 : Hid (R = .ok (ac2, m + 1)) := by
                show _ = _
                rw [he2.out, if_pos h1, if_neg (by omega)]
              clear he2
              go_wp2
              go_ret
              refine RC.mk_ok e1.out ?_ HD2.out hX
              show Value.int IntKind.i64 (wrap64 (ac2 : Int)) = _
              rw [hwa]
          · have e1 : Hid (R = .ok (ac2, m + 1)) := by
              show _ = _
              rw [he2.out, if_pos h1, if_neg (by omega)]
            clear he2
            have h3' : ¬ (g : Int) = 0 := by omega
            go_wp2
            go_ret
            exact RC.mk_ok e1.out rfl HD2.out hX
        · have h1' : ¬ (g : Int) < 128 := by omega
          have e1 : Hid (R = pGrp a (9 - (k + 1)) (k + 1) ac2 b (m + 1)) := by
            show _ = _
            rw [he2.out, if_neg h1, show 9 - (k + 1) = 8 - k by omega]
          clear he2
          go_wp2
          refine ⟨⟨k + 1, ac2, m + 1, wrap64 (U * 128), by omega, by go_num, congrArg (Value.int IntKind.i64) q2, rfl, HU2, HN.out, e1, HD2.out, hX⟩, ?_⟩
          simp only [intOf]
          omega
    · obtain rfl : k = 9 := by omega
      have e1 : Hid (R = .error (a, 110)) := by
        show _ = _
        rw [he.out]
        rfl
      have HD := Lib.hid hd
      clear he hd
      go_wp2_with fail
      refine (cfault_ok _ B p _ b vb HD.out a 110 (by decide)).mono ?_
      rintro e w2 ⟨rfl, hd3, hx3⟩
      have HD3 := Lib.hid hd3
      clear hd3
      go_wp2
      go_ret
      exact RC.mk_err e1.out (x := 0) rfl HD3.out (hx.trans hx3)
theorem cmost_dead (w : World) (B p y : Nat) (er : Int) (b : List Nat) (vb : Value) (h : CuD B p b y er w vb) (hi ex : Int) :
    Calls Try.prog 41 #[.pointer (some ⟨p, 0, none⟩), .int .i64 hi, .int .i64 ex] w (RC B p b vb (.error (y, er) : Except (Nat × Int) (Nat × Nat)) isNat w) := by
  have H := Lib.hid h
  obtain ⟨a, c1⟩ := h.cell1
  clear h
  go_enter Try.func41, Try.ntmps41
  go_wp2_with fail
  refine (cnumber_dead w B p y er b vb H.out).mono ?_
  rintro e w1 hr
  obtain ⟨x, v, rfl, rfl, hd1, hx1⟩ := hr.err rfl
  have c3 := hd1.cell3
  have hne := hd1.ne
  have hne' := hd1.ne'
  have HD1 := Lib.hid hd1
  clear hd1 hr c1
  go_wp2
  go_ret
  exact RC.mk_err rfl (x := 0) rfl HD1.out hx1
theorem cmost_ok (w : World) (B p a : Nat) (b : List Nat) (vb : Value) (h : CuL B p b a w vb) (high : Nat) (er : Int) (her : er ≠ 0) {hi : Int} (hh : hi = (high : Int)) :
    Calls Try.prog 41 #[.pointer (some ⟨p, 0, none⟩), .int .i64 hi, .int .i64 er] w (RC B p b vb (pMost high er b a) isNat w) := by
  subst hh
  have H := Lib.hid h
  have c1 := h.cell1
  have HER := Lib.hid her
  clear h her
  go_enter Try.func41, Try.ntmps41
  go_wp2_with fail
  refine (cnumber_ok w B p a b vb H.out).mono ?_
  rintro e w1 hr
  cases hb : pNum b a with
  | error y =>
    obtain ⟨y, ye⟩ := y
    obtain ⟨x, v, rfl, rfl, hd1, hx1⟩ := hr.err hb
    have e1 : Hid (pMost high er b a = .error (y, ye)) := by show _ = _; unfold pMost pChk; rw [hb]
    have c3 := hd1.cell3
    have hne := hd1.ne
    have hne' := hd1.ne'
    have HD1 := Lib.hid hd1
    clear hd1 hr hb c1
    go_wp2
    go_ret
    exact RC.mk_err e1.out (x := 0) rfl HD1.out hx1
  | ok v =>
    obtain ⟨x, m⟩ := v
    obtain ⟨v, rfl, rfl, hd, hx⟩ := hr.ok hb
    have c3 := hd.cell3
    have HD := Lib.hid hd
    by_cases hlt : x ≤ high
    · have hlt' : ¬ (high : Int) < (x : Int) := by omega
      have e1 : Hid (pMost high er b a = .ok (x, m)) := by show _ = _; unfold pMost pChk; rw [hb]; simp [hlt]
      clear hr hb hd c1
      go_wp2
      go_ret
      exact RC.mk_ok e1.out rfl HD.out hx
    · have hlt' : (high : Int) < (x : Int) := by omega
      have e1 : Hid (pMost high er b a = .error (a, er)) := by show _ = _; unfold pMost pChk; rw [hb]; simp [hlt]
      clear hr hb hd c1
      go_wp2_with fail
      refine (cfault_ok _ B p _ b vb HD.out a er HER.out).mono ?_
      rintro e w2 ⟨rfl, hd3, hx3⟩
      have c3 := hd3.cell3
      have hne := hd3.ne
      have HD3 := Lib.hid hd3
      clear hd3
      go_wp2
      go_ret
      exact RC.mk_err e1.out (x := 0) rfl HD3.out (hx.trans hx3)
theorem unz_even {x : Nat} (hx : x % 2 = 0) : unz x = (x : Int) / 2 := by unfold unz; rw [if_pos hx]; omega
theorem unz_odd {x : Nat} (hx : ¬ x % 2 = 0) : unz x = -((x : Int) / 2) - 1 := by
  unfold unz
  rw [if_neg hx]
  omega
theorem csigned_dead (w : World) (B p y : Nat) (er : Int) (b : List Nat) (vb : Value) (h : CuD B p b y er w vb) (ex : Int) :
    Calls Try.prog 42 #[.pointer (some ⟨p, 0, none⟩), .int .i64 ex] w (RC B p b vb (.error (y, er) : Except (Nat × Int) (Int × Nat)) isInt w) := by
  have H := Lib.hid h
  obtain ⟨a, c1⟩ := h.cell1
  clear h
  go_enter Try.func42, Try.ntmps42
  go_wp2_with fail
  refine (cnumber_dead w B p y er b vb H.out).mono ?_
  rintro e w1 hr
  obtain ⟨x, v, rfl, rfl, hd1, hx1⟩ := hr.err rfl
  have c3 := hd1.cell3
  have hne := hd1.ne
  have hne' := hd1.ne'
  have HD1 := Lib.hid hd1
  clear hd1 hr c1
  go_wp2
  all_goals
    go_ret
    exact RC.mk_err rfl (x := _) rfl HD1.out hx1
theorem csigned_ok (w : World) (B p a : Nat) (b : List Nat) (vb : Value) (h : CuL B p b a w vb) (er : Int) (her : er ≠ 0) :
    Calls Try.prog 42 #[.pointer (some ⟨p, 0, none⟩), .int .i64 er] w (RC B p b vb (pSig er b a) isInt w) := by
  have H := Lib.hid h
  have c1 := h.cell1
  have HER := Lib.hid her
  clear h her
  go_enter Try.func42, Try.ntmps42
  go_wp2_with fail
  refine (cnumber_ok w B p a b vb H.out).mono ?_
  rintro e w1 hr
  cases hb : pNum b a with
  | error y =>
    obtain ⟨y, ye⟩ := y
    obtain ⟨x, v, rfl, rfl, hd1, hx1⟩ := hr.err hb
    have e1 : Hid (pSig er b a = .error (y, ye)) := by show _ = _; unfold pSig pChk pMap; rw [hb]
    have c3 := hd1.cell3
    have hne := hd1.ne
    have hne' := hd1.ne'
    have HD1 := Lib.hid hd1
    clear hd1 hr hb c1
    go_wp2
    all_goals
      go_ret
      exact RC.mk_err e1.out (x := _) rfl HD1.out hx1
  | ok v =>
    obtain ⟨x, m⟩ := v
    obtain ⟨v, rfl, rfl, hd, hx⟩ := hr.ok hb
    have c3 := hd.cell3
    have HD := Lib.hid hd
    have hxl := pNum_lt hb
    have HB := Lib.hid hb
    clear hr hb hd c1
    by_cases hp : x % 2 = 0
    · have hu := unz_even hp
      have hp' : ((x : Int) % 2 == 1) = false := by rw [beq_eq_false_iff_ne]; omega
      have hw : wrap64 ((x : Int) / 2) = (x : Int) / 2 := by unfold wrap64; omega
      have HU := Lib.hid hu
      clear hu hp
      go_wp2_with fail
      rw [← HU.out]
      refine (rwithin_ok _ _ _ _).mono ?_
      rintro e w2 ⟨rfl, rfl⟩
      cases hi : inB (unz x) (-1099511627776) 1099511627776 with
      | false =>
        have e1 : Hid (pSig er b a = .error (a, er)) := by show _ = _; unfold pSig pChk pMap; rw [HB.out]; simp [hi]
        clear hi
        go_wp2_with fail
        refine (cfault_ok _ B p _ b vb HD.out a er HER.out).mono ?_
        rintro e w3 ⟨rfl, hd3, hx3⟩
        have HD3 := Lib.hid hd3
        clear hd3
        go_wp2
        go_ret
        exact RC.mk_err e1.out (x := _) rfl HD3.out (hx.trans hx3)
      | true =>
        have e1 : Hid (pSig er b a = .ok (unz x, m)) := by show _ = _; unfold pSig pChk pMap; rw [HB.out]; simp [hi]
        clear hi
        go_wp2
        go_ret
        exact RC.mk_ok e1.out rfl HD.out hx
    · have hu := unz_odd hp
      have hp' : ((x : Int) % 2 == 1) = true := by rw [beq_iff_eq]; omega
      have hw1 : wrap64 ((x : Int) / 2) = (x : Int) / 2 := by unfold wrap64; omega
      have hw2 : wrap64 (-(x : Int)) = -(x : Int) := by unfold wrap64; omega
      have hw3 : wrap64 (-((x : Int) / 2)) = -((x : Int) / 2) := by unfold wrap64; omega
      have hw5 : wrap64 (-((x : Int) / 2) - 1) = -((x : Int) / 2) - 1 := by unfold wrap64; omega
      have HU := Lib.hid hu
      clear hu hp
      go_wp2_with fail
      rw [← HU.out]
      refine (rwithin_ok _ _ _ _).mono ?_
      rintro e w2 ⟨rfl, rfl⟩
      cases hi : inB (unz x) (-1099511627776) 1099511627776 with
      | false =>
        have e1 : Hid (pSig er b a = .error (a, er)) := by show _ = _; unfold pSig pChk pMap; rw [HB.out]; simp [hi]
        clear hi
        go_wp2_with fail
        refine (cfault_ok _ B p _ b vb HD.out a er HER.out).mono ?_
        rintro e w3 ⟨rfl, hd3, hx3⟩
        have HD3 := Lib.hid hd3
        clear hd3
        go_wp2
        go_ret
        exact RC.mk_err e1.out (x := _) rfl HD3.out (hx.trans hx3)
      | true =>
        have e1 : Hid (pSig er b a = .ok (unz x, m)) := by show _ = _; unfold pSig pChk pMap; rw [HB.out]; simp [hi]
        clear hi
        go_wp2
        go_ret
        exact RC.mk_ok e1.out rfl HD.out hx
end Go.Proofs.Ytfdjdpbiccclfaa
namespace Go.Proofs.Ytfdjdpbiccclfaa
open Go Go.RowKit Go.Wr
set_option maxHeartbeats 4000000
set_option maxRecDepth 100000
theorem pTag_far {slot : Bool} {b : List Nat} {a k m : Nat} (h : pByte b a = .ok (k, m)) (hk : 6 < k) : pTag slot b a = .error (a, 90) :=
  pBind_err.2 (Or.inl (pChk_err.2 (Or.inr ⟨rfl, k, m, h, by simp; omega⟩)))
theorem pTag_near {slot : Bool} {b : List Nat} {a k m : Nat} (h : pByte b a = .ok (k, m)) (hk : k ≤ 6) :
    pTag slot b a = (if k = 5 ∨ k = 6 then pBind (pBnd 7 90) fun t => pPure ⟨k, t, 0⟩ else if slot = true ∧ k = 0 then pBind (pChk (fun m => decide (m ≠ 0)) 90 pByte) fun m => pPure ⟨k, 0, m⟩ else pPure ⟨k, 0, 0⟩) b m := by
  have hb : pBnd 6 90 b a = .ok (k, m) := pChk_ok.2 ⟨h, by simpa using hk⟩
  unfold pTag
  conv => lhs; unfold pBind
  rw [hb]
  rfl
theorem ctag_dead (w : World) (B p y : Nat) (er : Int) (b : List Nat) (vb : Value) (h : CuD B p b y er w vb) (slot : Bool) :
    Calls Try.prog 61 #[.pointer (some ⟨p, 0, none⟩), .bool slot] w (RC B p b vb (.error (y, er) : Except (Nat × Int) (Tg × Nat)) isTag w) := by
  have H := Lib.hid (h.alloc (.cells #[.int .i64 0, .int .i64 0, .int .i64 0] 56))
  have hpl := h.lt
  have hBp := h.hp
  obtain ⟨a, c1⟩ := H.out.cell1
  obtain ⟨R, hR⟩ : ∃ R, R = (Except.error (y, er) : Except (Nat × Int) (Tg × Nat)) := ⟨_, rfl⟩
  rw [← hR]
  have e1 := Lib.hid hR
  clear h hR
  go_enter Try.func61, Try.ntmps61
  go_wp2_with fail
  refine (cbyte_dead0 _ B p y er b vb H.out).mono ?_
  rintro e w1 ⟨rfl, hd1, hx1⟩
  have xA : Ex p w (w.alloc (.cells #[.int .i64 0, .int .i64 0, .int .i64 0] 56)) := (Ex.refl p w).alloc _
  have ZB : Blk (w.alloc (.cells #[.int .i64 0, .int .i64 0, .int .i64 0] 56)) w.heap.size 56 #[.int .i64 0, .int .i64 0, .int .i64 0] := Blk.new _ _ _
  have Z1 := hx1.blk ZB (by omega)
  have X1 := xA.trans hx1
  clear xA ZB hx1 H
  have hs1 := X1.size
  go_upto_region 3 with (fail)
  generalize hV : w1.alloc _ = V
  have HX := Lib.hid (show Ex p w V by rw [← hV]; exact X1.alloc _)
  have HZ := Lib.hid (show Blk V w.heap.size 56 #[.int .i64 0, .int .i64 0, .int .i64 0] by rw [← hV]; exact Z1.alloc _)
  have HN := Lib.hid (show Blk V w1.heap.size 56 #[.int .i64 0, .int .i64 0, .int .i64 0] by rw [← hV]; exact Blk.new _ _ _)
  have HD := Lib.hid (show CuD B p b y er V vb by rw [← hV]; exact hd1.alloc _)
  have n0 := HN.out.cell 0
  simp only [List.getElem?_toArray, List.getElem?_cons_zero] at n0
  have hl1 := Z1.lt
  clear X1 Z1 hd1 hV
  have hne := HD.out.ne
  have hne' := HD.out.ne'
  have c3 := HD.out.cell3
  obtain ⟨a2, c1⟩ := HD.out.cell1
  cases slot with
  | false =>
    go_upto_region 14 with (fail)
    have HC := HD
    have n0 := HN.out.cell 0
    have n1 := HN.out.cell 1
    have n2 := HN.out.cell 2
    have y0 := HZ.out.cell 0
    have y1 := HZ.out.cell 1
    have y2 := HZ.out.cell 2
    have z0 := HZ.out.frozen 0
    have z1 := HZ.out.frozen 1
    have z2 := HZ.out.frozen 2
    simp only [List.getElem?_toArray, List.getElem?_cons_zero, List.getElem?_cons_succ] at n0 n1 n2 y0 y1 y2
    have hzl := HZ.out.lt
    have hnl := HN.out.lt
    go_wp2
    refine ret_cell rfl rfl ((((HZ.out.set 0 _).set 1 _).set 2 _).eq rfl) rowTag rfl ?_
    refine RC.mk_err e1.out (x := ⟨_, _, _⟩) (by unfold isTag tgv; rfl) ?_ (((HX.out.set_new _ (Nat.le_refl _)).set_new _ (Nat.le_refl _)).set_new _ (Nat.le_refl _))
    exact ((HC.out.set_other _ (by omega) (by omega)).set_other _ (by omega) (by omega)).set_other _ (by omega) (by omega)
  | true =>
    go_wp2_with fail
    refine (cbyte_dead0 V B p y er b vb HD.out).mono ?_
    rintro e w2 ⟨rfl, hd2, hx2⟩
    have HX2 := Lib.hid (HX.out.trans hx2)
    have HZ2 := Lib.hid (hx2.blk HZ.out (by omega))
    have HN2 := Lib.hid (hx2.blk HN.out (by omega))
    have HD2 := Lib.hid hd2
    have n2 := HN2.out.cell 2
    have f2 := HN2.out.frozen 2
    simp only [List.getElem?_toArray, List.getElem?_cons_zero, List.getElem?_cons_succ] at n2
    clear HX HZ HN hx2 hd2
    go_upto_region 12 with (fail)
    generalize hV3 : w2.setCell _ _ = V3
    have HX := Lib.hid (show Ex p w V3 by rw [← hV3]; exact HX2.out.set_new _ (by omega))
    have HZ := Lib.hid (HZ2.out.set_other w1.heap.size 2 (.int .i64 0) (by omega))
    have HN := Lib.hid ((HN2.out.set 2 (.int .i64 0)).eq (C' := #[.int .i64 0, .int .i64 0, .int .i64 0]) rfl)
    rw [hV3] at HZ HN
    have hC := HD2.out.set_other (q := w1.heap.size) (i := 2) (.int .i64 0) (by omega) (by omega)
    have c3 := hC.cell3
    have HC := Lib.hid hC
    rw [hV3] at c3 HC
    go_upto_region 14 with (fail)
    have n0 := HN.out.cell 0
    have n1 := HN.out.cell 1
    have n2 := HN.out.cell 2
    have y0 := HZ.out.cell 0
    have y1 := HZ.out.cell 1
    have y2 := HZ.out.cell 2
    have z0 := HZ.out.frozen 0
    have z1 := HZ.out.frozen 1
    have z2 := HZ.out.frozen 2
    simp only [List.getElem?_toArray, List.getElem?_cons_zero, List.getElem?_cons_succ] at n0 n1 n2 y0 y1 y2
    have hzl := HZ.out.lt
    have hnl := HN.out.lt
    go_wp2
    refine ret_cell rfl rfl ((((HZ.out.set 0 _).set 1 _).set 2 _).eq rfl) rowTag rfl ?_
    refine RC.mk_err e1.out (x := ⟨_, _, _⟩) (by unfold isTag tgv; rfl) ?_ (((HX.out.set_new _ (Nat.le_refl _)).set_new _ (Nat.le_refl _)).set_new _ (Nat.le_refl _))
    exact ((HC.out.set_other _ (by omega) (by omega)).set_other _ (by omega) (by omega)).set_other _ (by omega) (by omega)
theorem ctag_ok (w : World) (B p a : Nat) (b : List Nat) (vb : Value) (h : CuL B p b a w vb) (slot : Bool) :
    Calls Try.prog 61 #[.pointer (some ⟨p, 0, none⟩), .bool slot] w (RC B p b vb (pTag slot b a) isTag w) := by
  have H := Lib.hid (h.alloc (.cells #[.int .i64 0, .int .i64 0, .int .i64 0] 56))
  have hpl := h.lt
  have hBp := h.hp
  have c1 := H.out.cell1
  obtain ⟨R, hR⟩ : ∃ R, R = pTag slot b a := ⟨_, rfl⟩
  rw [← hR]
  have HR := Lib.hid hR
  clear h hR
  go_enter Try.func61, Try.ntmps61
  go_wp2_with fail
  refine (cbyte_ok0 _ B p a b vb H.out).mono ?_
  rintro e w1 hr
  have xA : Ex p w (w.alloc (.cells #[.int .i64 0, .int .i64 0, .int .i64 0] 56)) := (Ex.refl p w).alloc _
  have ZB : Blk (w.alloc (.cells #[.int .i64 0, .int .i64 0, .int .i64 0] 56)) w.heap.size 56 #[.int .i64 0, .int .i64 0, .int .i64 0] := Blk.new _ _ _
  cases hb : pByte b a with
  | error v =>
    obtain ⟨y, er⟩ := v
    obtain ⟨rfl, hd1, hx1⟩ := hr.err hb
    have e1 : Hid (R = .error (y, er)) := by show _ = _; rw [HR.out]; unfold pTag pBind pBnd pChk; rw [hb]
    have Z1 := hx1.blk ZB (by omega)
    have X1 := xA.trans hx1
    clear xA ZB hx1 H HR hr hb
    have hs1 := X1.size
    go_upto_region 3 with (fail)
    generalize hV : w1.alloc _ = V
    have HX := Lib.hid (show Ex p w V by rw [← hV]; exact X1.alloc _)
    have HZ := Lib.hid (show Blk V w.heap.size 56 #[.int .i64 0, .int .i64 0, .int .i64 0] by rw [← hV]; exact Z1.alloc _)
    have HN := Lib.hid (show Blk V w1.heap.size 56 #[.int .i64 0, .int .i64 0, .int .i64 0] by rw [← hV]; exact Blk.new _ _ _)
    have HD := Lib.hid (show CuD B p b y er V vb by rw [← hV]; exact hd1.alloc _)
    have n0 := HN.out.cell 0
    simp only [List.getElem?_toArray, List.getElem?_cons_zero] at n0
    have hl1 := Z1.lt
    clear X1 Z1 hd1 hV
    have hne := HD.out.ne
    have hne' := HD.out.ne'
    have c3 := HD.out.cell3
    obtain ⟨a2, c1⟩ := HD.out.cell1
    cases slot with
    | false =>
      go_upto_region 14 with (fail)
      have HC := HD
      have n0 := HN.out.cell 0
      have n1 := HN.out.cell 1
      have n2 := HN.out.cell 2
      have y0 := HZ.out.cell 0
      have y1 := HZ.out.cell 1
      have y2 := HZ.out.cell 2
      have z0 := HZ.out.frozen 0
      have z1 := HZ.out.frozen 1
      have z2 := HZ.out.frozen 2
      simp only [List.getElem?_toArray, List.getElem?_cons_zero, List.getElem?_cons_succ] at n0 n1 n2 y0 y1 y2
      have hzl := HZ.out.lt
      have hnl := HN.out.lt
      go_wp2
      refine ret_cell rfl rfl ((((HZ.out.set 0 _).set 1 _).set 2 _).eq rfl) rowTag rfl ?_
      refine RC.mk_err e1.out (x := ⟨_, _, _⟩) (by unfold isTag tgv; rfl) ?_ (((HX.out.set_new _ (Nat.le_refl _)).set_new _ (Nat.le_refl _)).set_new _ (Nat.le_refl _))
      exact ((HC.out.set_other _ (by omega) (by omega)).set_other _ (by omega) (by omega)).set_other _ (by omega) (by omega)
    | true =>
      go_wp2_with fail
      refine (cbyte_dead0 V B p y er b vb HD.out).mono ?_
      rintro e w2 ⟨rfl, hd2, hx2⟩
      have HX2 := Lib.hid (HX.out.trans hx2)
      have HZ2 := Lib.hid (hx2.blk HZ.out (by omega))
      have HN2 := Lib.hid (hx2.blk HN.out (by omega))
      have HD2 := Lib.hid hd2
      have n2 := HN2.out.cell 2
      have f2 := HN2.out.frozen 2
      simp only [List.getElem?_toArray, List.getElem?_cons_zero, List.getElem?_cons_succ] at n2
      clear HX HZ HN hx2 hd2
      go_upto_region 12 with (fail)
      generalize hV3 : w2.setCell _ _ = V3
      have HX := Lib.hid (show Ex p w V3 by rw [← hV3]; exact HX2.out.set_new _ (by omega))
      have HZ := Lib.hid (HZ2.out.set_other w1.heap.size 2 (.int .i64 0) (by omega))
      have HN := Lib.hid ((HN2.out.set 2 (.int .i64 0)).eq (C' := #[.int .i64 0, .int .i64 0, .int .i64 0]) rfl)
      rw [hV3] at HZ HN
      have hC := HD2.out.set_other (q := w1.heap.size) (i := 2) (.int .i64 0) (by omega) (by omega)
      have c3 := hC.cell3
      have HC := Lib.hid hC
      rw [hV3] at c3 HC
      go_upto_region 14 with (fail)
      have n0 := HN.out.cell 0
      have n1 := HN.out.cell 1
      have n2 := HN.out.cell 2
      have y0 := HZ.out.cell 0
      have y1 := HZ.out.cell 1
      have y2 := HZ.out.cell 2
      have z0 := HZ.out.frozen 0
      have z1 := HZ.out.frozen 1
      have z2 := HZ.out.frozen 2
      simp only [List.getElem?_toArray, List.getElem?_cons_zero, List.getElem?_cons_succ] at n0 n1 n2 y0 y1 y2
      have hzl := HZ.out.lt
      have hnl := HN.out.lt
      go_wp2
      refine ret_cell rfl rfl ((((HZ.out.set 0 _).set 1 _).set 2 _).eq rfl) rowTag rfl ?_
      refine RC.mk_err e1.out (x := ⟨_, _, _⟩) (by unfold isTag tgv; rfl) ?_ (((HX.out.set_new _ (Nat.le_refl _)).set_new _ (Nat.le_refl _)).set_new _ (Nat.le_refl _))
      exact ((HC.out.set_other _ (by omega) (by omega)).set_other _ (by omega) (by omega)).set_other _ (by omega) (by omega)
  | ok v =>
    obtain ⟨k, m⟩ := v
    obtain ⟨rfl, hd1, hx1⟩ := hr.ok hb
    have Z1 := hx1.blk ZB (by omega)
    have X1 := xA.trans hx1
    have HB := Lib.hid hb
    clear xA ZB hx1 H hr hb
    have hs1 := X1.size
    go_upto_region 3 with (fail)
    generalize hV : w1.alloc _ = V
    have HX := Lib.hid (show Ex p w V by rw [← hV]; exact X1.alloc _)
    have HZ := Lib.hid (show Blk V w.heap.size 56 #[.int .i64 0, .int .i64 0, .int .i64 0] by rw [← hV]; exact Z1.alloc _)
    have HN := Lib.hid (show Blk V w1.heap.size 56 #[.int .i64 (k : Int), .int .i64 0, .int .i64 0] by rw [← hV]; exact Blk.new _ _ _)
    have HC := Lib.hid (show CuL B p b m V vb by rw [← hV]; exact hd1.alloc _)
    have n0 := HN.out.cell 0
    simp only [List.getElem?_toArray, List.getElem?_cons_zero] at n0
    have c3 := HC.out.cell3
    have c1 := HC.out.cell1
    have hl1 := Z1.lt
    clear X1 Z1 hd1 hV
    by_cases hk6 : 6 < k
    · have hk6' : (6 : Int) < (k : Int) := by omega
      have e1 : Hid (R = .error (a, 90)) := by show _ = _; rw [HR.out]; exact pTag_far HB.out hk6
      have hk5' : ((k : Int) == 5) = false := by rw [beq_eq_false_iff_ne]; omega
      have hk66' : ((k : Int) == 6) = false := by rw [beq_eq_false_iff_ne]; omega
      have hk0' : ((k : Int) == 0) = false := by rw [beq_eq_false_iff_ne]; omega
      clear HR HB
      go_wp2_with fail
      refine (cfault_ok _ B p _ b vb HC.out a 90 (by decide)).mono ?_
      rintro e w2 ⟨rfl, hd2, hx2⟩
      have hx3 := HX.out.trans hx2
      have hz3 := hx2.blk HZ.out (by omega)
      have hn3 := hx2.blk HN.out (by omega)
      have n0 := hn3.cell 0
      simp only [List.getElem?_toArray, List.getElem?_cons_zero] at n0
      clear HX HZ HN hx2
      have HX := Lib.hid hx3
      have HZ := Lib.hid hz3
      have HN := Lib.hid hn3
      have c3 := hd2.cell3
      have hne := hd2.ne
      have hne' := hd2.ne'
      clear hx3 hz3 hn3
      have HC := Lib.hid hd2
      obtain ⟨a2, c1⟩ := HC.out.cell1
      clear hd2
      cases slot with
      | false =>
        go_upto_region 14 with (fail)
        have n0 := HN.out.cell 0
        have n1 := HN.out.cell 1
        have n2 := HN.out.cell 2
        have y0 := HZ.out.cell 0
        have y1 := HZ.out.cell 1
        have y2 := HZ.out.cell 2
        have z0 := HZ.out.frozen 0
        have z1 := HZ.out.frozen 1
        have z2 := HZ.out.frozen 2
        simp only [List.getElem?_toArray, List.getElem?_cons_zero, List.getElem?_cons_succ] at n0 n1 n2 y0 y1 y2
        have hzl := HZ.out.lt
        have hnl := HN.out.lt
        go_wp2
        refine ret_cell rfl rfl ((((HZ.out.set 0 _).set 1 _).set 2 _).eq rfl) rowTag rfl ?_
        refine RC.mk_err e1.out (x := ⟨_, _, _⟩) (by unfold isTag tgv; rfl) ?_ (((HX.out.set_new _ (Nat.le_refl _)).set_new _ (Nat.le_refl _)).set_new _ (Nat.le_refl _))
        exact ((HC.out.set_other _ (by omega) (by omega)).set_other _ (by omega) (by omega)).set_other _ (by omega) (by omega)
      | true =>
        go_upto_region 14 with (fail)
        have n0 := HN.out.cell 0
        have n1 := HN.out.cell 1
        have n2 := HN.out.cell 2
        have y0 := HZ.out.cell 0
        have y1 := HZ.out.cell 1
        have y2 := HZ.out.cell 2
        have z0 := HZ.out.frozen 0
        have z1 := HZ.out.frozen 1
        have z2 := HZ.out.frozen 2
        simp only [List.getElem?_toArray, List.getElem?_cons_zero, List.getElem?_cons_succ] at n0 n1 n2 y0 y1 y2
        have hzl := HZ.out.lt
        have hnl := HN.out.lt
        go_wp2
        refine ret_cell rfl rfl ((((HZ.out.set 0 _).set 1 _).set 2 _).eq rfl) rowTag rfl ?_
        refine RC.mk_err e1.out (x := ⟨_, _, _⟩) (by unfold isTag tgv; rfl) ?_ (((HX.out.set_new _ (Nat.le_refl _)).set_new _ (Nat.le_refl _)).set_new _ (Nat.le_refl _))
        exact ((HC.out.set_other _ (by omega) (by omega)).set_other _ (by omega) (by omega)).set_other _ (by omega) (by omega)
    · have hk6' : ¬ (6 : Int) < (k : Int) := by omega
      have HR2 : Hid (R = (if k = 5 ∨ k = 6 then pBind (pBnd 7 90) fun t => pPure ⟨k, t, 0⟩ else if slot = true ∧ k = 0 then pBind (pChk (fun m => decide (m ≠ 0)) 90 pByte) fun m => pPure ⟨k, 0, m⟩ else pPure ⟨k, 0, 0⟩) b m) := by
        show _ = _
        rw [HR.out]
        exact pTag_near HB.out (by omega)
      clear HR HB
      by_cases hr : k = 5 ∨ k = 6
      · have HR3 : Hid (R = pBind (pBnd 7 90) (fun t => pPure ⟨k, t, 0⟩) b m) := by
          show _ = _
          rw [HR2.out, if_pos hr]
        have ek : ((k : Int) == 5) = true ∨ (((k : Int) == 5) = false ∧ ((k : Int) == 6) = true) := by
          rcases hr with rfl | rfl <;> simp
        clear HR2 hr
        rcases ek with ek | ⟨ek, ek2⟩
        · have c1 := HC.out.cell1
          go_wp2_with fail
          refine (cbyte_ok0 _ B p m b vb HC.out).mono ?_
          rintro e w2 hr
          cases hb : pByte b m with
          | error v =>
            obtain ⟨y, er⟩ := v
            obtain ⟨rfl, hd2, hx2⟩ := hr.err hb
            have e1 : Hid (R = .error (y, er)) := by show _ = _; rw [HR3.out]; unfold pBind pBnd pChk; rw [hb]
            clear hr hb HR3 HC
            have HX2 := Lib.hid (HX.out.trans hx2)
            have HZ2 := Lib.hid (hx2.blk HZ.out (by omega))
            have HN2 := Lib.hid (hx2.blk HN.out (by omega))
            have HD2 := Lib.hid hd2
            have n1 := HN2.out.cell 1
            have f1 := HN2.out.frozen 1
            simp only [List.getElem?_toArray, List.getElem?_cons_zero, List.getElem?_cons_succ] at n1
            clear HX HZ HN hx2 hd2
            go_upto_region 8 with (fail)
            generalize hV3 : w2.setCell _ _ = V3
            have HX := Lib.hid (show Ex p w V3 by rw [← hV3]; exact HX2.out.set_new _ (by omega))
            have HZ := Lib.hid (HZ2.out.set_other w1.heap.size 1 (.int .i64 0) (by omega))
            have HN := Lib.hid ((HN2.out.set 1 (.int .i64 0)).eq (C' := #[.int .i64 (k : Int), .int .i64 0, .int .i64 0]) rfl)
            have hC := HD2.out.set_other (q := w1.heap.size) (i := 1) (.int .i64 0) (by omega) (by omega)
            rw [hV3] at HZ HN hC
            have c3 := hC.cell3
            have hne := hC.ne
            have hne' := hC.ne'
            have HC := Lib.hid hC
            clear hC hV3
            go_upto_region 14 with (fail)
            have n0 := HN.out.cell 0
            have n1 := HN.out.cell 1
            have n2 := HN.out.cell 2
            have y0 := HZ.out.cell 0
            have y1 := HZ.out.cell 1
            have y2 := HZ.out.cell 2
            have z0 := HZ.out.frozen 0
            have z1 := HZ.out.frozen 1
            have z2 := HZ.out.frozen 2
            simp only [List.getElem?_toArray, List.getElem?_cons_zero, List.getElem?_cons_succ] at n0 n1 n2 y0 y1 y2
            have hzl := HZ.out.lt
            have hnl := HN.out.lt
            go_wp2
            refine ret_cell rfl rfl ((((HZ.out.set 0 _).set 1 _).set 2 _).eq rfl) rowTag rfl ?_
            refine RC.mk_err e1.out (x := ⟨_, _, _⟩) (by unfold isTag tgv; rfl) ?_ (((HX.out.set_new _ (Nat.le_refl _)).set_new _ (Nat.le_refl _)).set_new _ (Nat.le_refl _))
            exact ((HC.out.set_other _ (by omega) (by omega)).set_other _ (by omega) (by omega)).set_other _ (by omega) (by omega)
          | ok v =>
            obtain ⟨t, m2⟩ := v
            obtain ⟨rfl, hd2, hx2⟩ := hr.ok hb
            have HB := Lib.hid hb
            clear hr hb HC
            have HX2 := Lib.hid (HX.out.trans hx2)
            have HZ2 := Lib.hid (hx2.blk HZ.out (by omega))
            have HN2 := Lib.hid (hx2.blk HN.out (by omega))
            have HD2 := Lib.hid hd2
            have n1 := HN2.out.cell 1
            have f1 := HN2.out.frozen 1
            simp only [List.getElem?_toArray, List.getElem?_cons_zero, List.getElem?_cons_succ] at n1
            clear HX HZ HN hx2 hd2
            go_upto_region 8 with (fail)
            generalize hV3 : w2.setCell _ _ = V3
            have HX := Lib.hid (show Ex p w V3 by rw [← hV3]; exact HX2.out.set_new _ (by omega))
            have HZ := Lib.hid (HZ2.out.set_other w1.heap.size 1 (.int .i64 (t : Int)) (by omega))
            have HN := Lib.hid ((HN2.out.set 1 (.int .i64 (t : Int))).eq (C' := #[.int .i64 (k : Int), .int .i64 (t : Int), .int .i64 0]) rfl)
            have hC := HD2.out.set_other (q := w1.heap.size) (i := 1) (.int .i64 (t : Int)) (by omega) (by omega)
            rw [hV3] at HZ HN hC
            have c3 := hC.cell3
            have HC := Lib.hid hC
            have n1 := HN.out.cell 1
            simp only [List.getElem?_toArray, List.getElem?_cons_zero, List.getElem?_cons_succ] at n1
            clear hC hV3
            by_cases ht : 7 < t
            · have ht' : (7 : Int) < (t : Int) := by omega
              have e1 : Hid (R = .error (m, 90)) := by show _ = _; rw [HR3.out]; unfold pBind pBnd pChk; rw [HB.out]; simp [show ¬ t ≤ 7 by omega]
              clear HR3 HB
              go_wp2_with fail
              refine (cfault_ok _ B p _ b vb HC.out m 90 (by decide)).mono ?_
              rintro e w4 ⟨rfl, hd2, hx2⟩
              have hx3 := HX.out.trans hx2
              have hz3 := hx2.blk HZ.out (by omega)
              have hn3 := hx2.blk HN.out (by omega)
              have n0 := hn3.cell 0
              simp only [List.getElem?_toArray, List.getElem?_cons_zero] at n0
              clear HX HZ HN hx2
              have HX := Lib.hid hx3
              have HZ := Lib.hid hz3
              have HN := Lib.hid hn3
              have c3 := hd2.cell3
              have hne := hd2.ne
              have hne' := hd2.ne'
              clear hx3 hz3 hn3
              have HC := Lib.hid hd2
              clear hd2
              go_upto_region 14 with (fail)
              have n0 := HN.out.cell 0
              have n1 := HN.out.cell 1
              have n2 := HN.out.cell 2
              have y0 := HZ.out.cell 0
              have y1 := HZ.out.cell 1
              have y2 := HZ.out.cell 2
              have z0 := HZ.out.frozen 0
              have z1 := HZ.out.frozen 1
              have z2 := HZ.out.frozen 2
              simp only [List.getElem?_toArray, List.getElem?_cons_zero, List.getElem?_cons_succ] at n0 n1 n2 y0 y1 y2
              have hzl := HZ.out.lt
              have hnl := HN.out.lt
              go_wp2
              refine ret_cell rfl rfl ((((HZ.out.set 0 _).set 1 _).set 2 _).eq rfl) rowTag rfl ?_
              refine RC.mk_err e1.out (x := ⟨_, _, _⟩) (by unfold isTag tgv; rfl) ?_ (((HX.out.set_new _ (Nat.le_refl _)).set_new _ (Nat.le_refl _)).set_new _ (Nat.le_refl _))
              exact ((HC.out.set_other _ (by omega) (by omega)).set_other _ (by omega) (by omega)).set_other _ (by omega) (by omega)
            · have ht' : ¬ (7 : Int) < (t : Int) := by omega
              have e1 : Hid (R = .ok (⟨k, t, 0⟩, m2)) := by show _ = _; rw [HR3.out]; unfold pBind pBnd pChk; rw [HB.out]; simp [show t ≤ 7 by omega]; rfl
              clear HR3 HB
              go_upto_region 14 with (fail)
              have n0 := HN.out.cell 0
              have n1 := HN.out.cell 1
              have n2 := HN.out.cell 2
              have y0 := HZ.out.cell 0
              have y1 := HZ.out.cell 1
              have y2 := HZ.out.cell 2
              have z0 := HZ.out.frozen 0
              have z1 := HZ.out.frozen 1
              have z2 := HZ.out.frozen 2
              simp only [List.getElem?_toArray, List.getElem?_cons_zero, List.getElem?_cons_succ] at n0 n1 n2 y0 y1 y2
              have hzl := HZ.out.lt
              have hnl := HN.out.lt
              go_wp2
              refine ret_cell rfl rfl ((((HZ.out.set 0 _).set 1 _).set 2 _).eq rfl) rowTag rfl ?_
              refine RC.mk_ok e1.out rfl ?_ (((HX.out.set_new _ (Nat.le_refl _)).set_new _ (Nat.le_refl _)).set_new _ (Nat.le_refl _))
              exact ((HC.out.set_other _ (by omega) (by omega)).set_other _ (by omega) (by omega)).set_other _ (by omega) (by omega)
        · have c1 := HC.out.cell1
          go_wp2_with fail
          refine (cbyte_ok0 _ B p m b vb HC.out).mono ?_
          rintro e w2 hr
          cases hb : pByte b m with
          | error v =>
            obtain ⟨y, er⟩ := v
            obtain ⟨rfl, hd2, hx2⟩ := hr.err hb
            have e1 : Hid (R = .error (y, er)) := by show _ = _; rw [HR3.out]; unfold pBind pBnd pChk; rw [hb]
            clear hr hb HR3 HC
            have HX2 := Lib.hid (HX.out.trans hx2)
            have HZ2 := Lib.hid (hx2.blk HZ.out (by omega))
            have HN2 := Lib.hid (hx2.blk HN.out (by omega))
            have HD2 := Lib.hid hd2
            have n1 := HN2.out.cell 1
            have f1 := HN2.out.frozen 1
            simp only [List.getElem?_toArray, List.getElem?_cons_zero, List.getElem?_cons_succ] at n1
            clear HX HZ HN hx2 hd2
            go_upto_region 8 with (fail)
            generalize hV3 : w2.setCell _ _ = V3
            have HX := Lib.hid (show Ex p w V3 by rw [← hV3]; exact HX2.out.set_new _ (by omega))
            have HZ := Lib.hid (HZ2.out.set_other w1.heap.size 1 (.int .i64 0) (by omega))
            have HN := Lib.hid ((HN2.out.set 1 (.int .i64 0)).eq (C' := #[.int .i64 (k : Int), .int .i64 0, .int .i64 0]) rfl)
            have hC := HD2.out.set_other (q := w1.heap.size) (i := 1) (.int .i64 0) (by omega) (by omega)
            rw [hV3] at HZ HN hC
            have c3 := hC.cell3
            have hne := hC.ne
            have hne' := hC.ne'
            have HC := Lib.hid hC
            clear hC hV3
            go_upto_region 14 with (fail)
            have n0 := HN.out.cell 0
            have n1 := HN.out.cell 1
            have n2 := HN.out.cell 2
            have y0 := HZ.out.cell 0
            have y1 := HZ.out.cell 1
            have y2 := HZ.out.cell 2
            have z0 := HZ.out.frozen 0
            have z1 := HZ.out.frozen 1
            have z2 := HZ.out.frozen 2
            simp only [List.getElem?_toArray, List.getElem?_cons_zero, List.getElem?_cons_succ] at n0 n1 n2 y0 y1 y2
            have hzl := HZ.out.lt
            have hnl := HN.out.lt
            go_wp2
            refine ret_cell rfl rfl ((((HZ.out.set 0 _).set 1 _).set 2 _).eq rfl) rowTag rfl ?_
            refine RC.mk_err e1.out (x := ⟨_, _, _⟩) (by unfold isTag tgv; rfl) ?_ (((HX.out.set_new _ (Nat.le_refl _)).set_new _ (Nat.le_refl _)).set_new _ (Nat.le_refl _))
            exact ((HC.out.set_other _ (by omega) (by omega)).set_other _ (by omega) (by omega)).set_other _ (by omega) (by omega)
          | ok v =>
            obtain ⟨t, m2⟩ := v
            obtain ⟨rfl, hd2, hx2⟩ := hr.ok hb
            have HB := Lib.hid hb
            clear hr hb HC
            have HX2 := Lib.hid (HX.out.trans hx2)
            have HZ2 := Lib.hid (hx2.blk HZ.out (by omega))
            have HN2 := Lib.hid (hx2.blk HN.out (by omega))
            have HD2 := Lib.hid hd2
            have n1 := HN2.out.cell 1
            have f1 := HN2.out.frozen 1
            simp only [List.getElem?_toArray, List.getElem?_cons_zero, List.getElem?_cons_succ] at n1
            clear HX HZ HN hx2 hd2
            go_upto_region 8 with (fail)
            generalize hV3 : w2.setCell _ _ = V3
            have HX := Lib.hid (show Ex p w V3 by rw [← hV3]; exact HX2.out.set_new _ (by omega))
            have HZ := Lib.hid (HZ2.out.set_other w1.heap.size 1 (.int .i64 (t : Int)) (by omega))
            have HN := Lib.hid ((HN2.out.set 1 (.int .i64 (t : Int))).eq (C' := #[.int .i64 (k : Int), .int .i64 (t : Int), .int .i64 0]) rfl)
            have hC := HD2.out.set_other (q := w1.heap.size) (i := 1) (.int .i64 (t : Int)) (by omega) (by omega)
            rw [hV3] at HZ HN hC
            have c3 := hC.cell3
            have HC := Lib.hid hC
            have n1 := HN.out.cell 1
            simp only [List.getElem?_toArray, List.getElem?_cons_zero, List.getElem?_cons_succ] at n1
            clear hC hV3
            by_cases ht : 7 < t
            · have ht' : (7 : Int) < (t : Int) := by omega
              have e1 : Hid (R = .error (m, 90)) := by show _ = _; rw [HR3.out]; unfold pBind pBnd pChk; rw [HB.out]; simp [show ¬ t ≤ 7 by omega]
              clear HR3 HB
              go_wp2_with fail
              refine (cfault_ok _ B p _ b vb HC.out m 90 (by decide)).mono ?_
              rintro e w4 ⟨rfl, hd2, hx2⟩
              have hx3 := HX.out.trans hx2
              have hz3 := hx2.blk HZ.out (by omega)
              have hn3 := hx2.blk HN.out (by omega)
              have n0 := hn3.cell 0
              simp only [List.getElem?_toArray, List.getElem?_cons_zero] at n0
              clear HX HZ HN hx2
              have HX := Lib.hid hx3
              have HZ := Lib.hid hz3
              have HN := Lib.hid hn3
              have c3 := hd2.cell3
              have hne := hd2.ne
              have hne' := hd2.ne'
              clear hx3 hz3 hn3
              have HC := Lib.hid hd2
              clear hd2
              go_upto_region 14 with (fail)
              have n0 := HN.out.cell 0
              have n1 := HN.out.cell 1
              have n2 := HN.out.cell 2
              have y0 := HZ.out.cell 0
              have y1 := HZ.out.cell 1
              have y2 := HZ.out.cell 2
              have z0 := HZ.out.frozen 0
              have z1 := HZ.out.frozen 1
              have z2 := HZ.out.frozen 2
              simp only [List.getElem?_toArray, List.getElem?_cons_zero, List.getElem?_cons_succ] at n0 n1 n2 y0 y1 y2
              have hzl := HZ.out.lt
              have hnl := HN.out.lt
              go_wp2
              refine ret_cell rfl rfl ((((HZ.out.set 0 _).set 1 _).set 2 _).eq rfl) rowTag rfl ?_
              refine RC.mk_err e1.out (x := ⟨_, _, _⟩) (by unfold isTag tgv; rfl) ?_ (((HX.out.set_new _ (Nat.le_refl _)).set_new _ (Nat.le_refl _)).set_new _ (Nat.le_refl _))
              exact ((HC.out.set_other _ (by omega) (by omega)).set_other _ (by omega) (by omega)).set_other _ (by omega) (by omega)
            · have ht' : ¬ (7 : Int) < (t : Int) := by omega
              have e1 : Hid (R = .ok (⟨k, t, 0⟩, m2)) := by show _ = _; rw [HR3.out]; unfold pBind pBnd pChk; rw [HB.out]; simp [show t ≤ 7 by omega]; rfl
              clear HR3 HB
              go_upto_region 14 with (fail)
              have n0 := HN.out.cell 0
              have n1 := HN.out.cell 1
              have n2 := HN.out.cell 2
              have y0 := HZ.out.cell 0
              have y1 := HZ.out.cell 1
              have y2 := HZ.out.cell 2
              have z0 := HZ.out.frozen 0
              have z1 := HZ.out.frozen 1
              have z2 := HZ.out.frozen 2
              simp only [List.getElem?_toArray, List.getElem?_cons_zero, List.getElem?_cons_succ] at n0 n1 n2 y0 y1 y2
              have hzl := HZ.out.lt
              have hnl := HN.out.lt
              go_wp2
              refine ret_cell rfl rfl ((((HZ.out.set 0 _).set 1 _).set 2 _).eq rfl) rowTag rfl ?_
              refine RC.mk_ok e1.out rfl ?_ (((HX.out.set_new _ (Nat.le_refl _)).set_new _ (Nat.le_refl _)).set_new _ (Nat.le_refl _))
              exact ((HC.out.set_other _ (by omega) (by omega)).set_other _ (by omega) (by omega)).set_other _ (by omega) (by omega)
      · have hk5' : ((k : Int) == 5) = false := by rw [beq_eq_false_iff_ne]; omega
        have hk66' : ((k : Int) == 6) = false := by rw [beq_eq_false_iff_ne]; omega
        by_cases hs : slot = true ∧ k = 0
        · obtain ⟨rfl, rfl⟩ := hs
          have HR3 : Hid (R = pBind (pChk (fun m => decide (m ≠ 0)) 90 pByte) (fun m => pPure ⟨((0 : Nat) : Int), 0, m⟩) b m) := by
            show _ = _
            rw [HR2.out, if_neg hr, if_pos ⟨rfl, rfl⟩]
          rw [show ((0 : Nat) : Int) = 0 from rfl] at HR3 HN n0 hk5' hk66'
          clear HR2 hr hk6 hk6' hk5' hk66'
          have c1 := HC.out.cell1
          go_wp2_with fail
          refine (cbyte_ok0 _ B p m b vb HC.out).mono ?_
          rintro e w2 hr
          cases hb : pByte b m with
          | error v =>
            obtain ⟨y, er⟩ := v
            obtain ⟨rfl, hd2, hx2⟩ := hr.err hb
            have e1 : Hid (R = .error (y, er)) := by show _ = _; rw [HR3.out]; unfold pBind pChk; rw [hb]
            clear hr hb HR3 HC
            have HX2 := Lib.hid (HX.out.trans hx2)
            have HZ2 := Lib.hid (hx2.blk HZ.out (by omega))
            have HN2 := Lib.hid (hx2.blk HN.out (by omega))
            have HD2 := Lib.hid hd2
            have n2 := HN2.out.cell 2
            have f2 := HN2.out.frozen 2
            simp only [List.getElem?_toArray, List.getElem?_cons_zero, List.getElem?_cons_succ] at n2
            clear HX HZ HN hx2 hd2
            go_upto_region 12 with (fail)
            generalize hV3 : w2.setCell _ _ = V3
            have HX := Lib.hid (show Ex p w V3 by rw [← hV3]; exact HX2.out.set_new _ (by omega))
            have HZ := Lib.hid (HZ2.out.set_other w1.heap.size 2 (.int .i64 0) (by omega))
            have HN := Lib.hid ((HN2.out.set 2 (.int .i64 0)).eq (C' := #[.int .i64 0, .int .i64 0, .int .i64 0]) rfl)
            rw [hV3] at HZ HN
            have hC := HD2.out.set_other (q := w1.heap.size) (i := 2) (.int .i64 0) (by omega) (by omega)
            have c3 := hC.cell3
            have hne := hC.ne
            have hne' := hC.ne'
            have HC := Lib.hid hC
            rw [hV3] at c3 HC
            clear hV3 hC
            go_upto_region 14 with (fail)
            have n0 := HN.out.cell 0
            have n1 := HN.out.cell 1
            have n2 := HN.out.cell 2
            have y0 := HZ.out.cell 0
            have y1 := HZ.out.cell 1
            have y2 := HZ.out.cell 2
            have z0 := HZ.out.frozen 0
            have z1 := HZ.out.frozen 1
            have z2 := HZ.out.frozen 2
            simp only [List.getElem?_toArray, List.getElem?_cons_zero, List.getElem?_cons_succ] at n0 n1 n2 y0 y1 y2
            have hzl := HZ.out.lt
            have hnl := HN.out.lt
            go_wp2
            refine ret_cell rfl rfl ((((HZ.out.set 0 _).set 1 _).set 2 _).eq rfl) rowTag rfl ?_
            refine RC.mk_err e1.out (x := ⟨_, _, _⟩) (by unfold isTag tgv; rfl) ?_ (((HX.out.set_new _ (Nat.le_refl _)).set_new _ (Nat.le_refl _)).set_new _ (Nat.le_refl _))
            exact ((HC.out.set_other _ (by omega) (by omega)).set_other _ (by omega) (by omega)).set_other _ (by omega) (by omega)
          | ok v =>
            obtain ⟨t, m2⟩ := v
            obtain ⟨rfl, hd2, hx2⟩ := hr.ok hb
            have HB := Lib.hid hb
            clear hr hb HC
            have HX2 := Lib.hid (HX.out.trans hx2)
            have HZ2 := Lib.hid (hx2.blk HZ.out (by omega))
            have HN2 := Lib.hid (hx2.blk HN.out (by omega))
            have HD2 := Lib.hid hd2
            have n2 := HN2.out.cell 2
            have f2 := HN2.out.frozen 2
            simp only [List.getElem?_toArray, List.getElem?_cons_zero, List.getElem?_cons_succ] at n2
            clear HX HZ HN hx2 hd2
            go_upto_region 12 with (fail)
            generalize hV3 : w2.setCell _ _ = V3
            have HX := Lib.hid (show Ex p w V3 by rw [← hV3]; exact HX2.out.set_new _ (by omega))
            have HZ := Lib.hid (HZ2.out.set_other w1.heap.size 2 (.int .i64 (t : Int)) (by omega))
            have HN := Lib.hid ((HN2.out.set 2 (.int .i64 (t : Int))).eq (C' := #[.int .i64 0, .int .i64 0, .int .i64 (t : Int)]) rfl)
            rw [hV3] at HZ HN
            have hC := HD2.out.set_other (q := w1.heap.size) (i := 2) (.int .i64 (t : Int)) (by omega) (by omega)
            rw [hV3] at hC
            have c3 := hC.cell3
            have HC := Lib.hid hC
            have n2 := HN.out.cell 2
            simp only [List.getElem?_toArray, List.getElem?_cons_zero, List.getElem?_cons_succ] at n2
            clear hC hV3
            by_cases ht : t = 0
            · subst ht
              have e1 : Hid (R = .error (m, 90)) := by show _ = _; rw [HR3.out]; unfold pBind pChk; rw [HB.out]; simp
              rw [show ((0 : Nat) : Int) = 0 from rfl] at HN n2
              clear HR3 HB
              go_wp2_with fail
              refine (cfault_ok _ B p _ b vb HC.out m 90 (by decide)).mono ?_
              rintro e w4 ⟨rfl, hd2, hx2⟩
              have hx3 := HX.out.trans hx2
              have hz3 := hx2.blk HZ.out (by omega)
              have hn3 := hx2.blk HN.out (by omega)
              have n0 := hn3.cell 0
              simp only [List.getElem?_toArray, List.getElem?_cons_zero] at n0
              clear HX HZ HN hx2
              have HX := Lib.hid hx3
              have HZ := Lib.hid hz3
              have HN := Lib.hid hn3
              have c3 := hd2.cell3
              have hne := hd2.ne
              have hne' := hd2.ne'
              clear hx3 hz3 hn3
              have HC := Lib.hid hd2
              clear hd2
              go_upto_region 14 with (fail)
              have n0 := HN.out.cell 0
              have n1 := HN.out.cell 1
              have n2 := HN.out.cell 2
              have y0 := HZ.out.cell 0
              have y1 := HZ.out.cell 1
              have y2 := HZ.out.cell 2
              have z0 := HZ.out.frozen 0
              have z1 := HZ.out.frozen 1
              have z2 := HZ.out.frozen 2
              simp only [List.getElem?_toArray, List.getElem?_cons_zero, List.getElem?_cons_succ] at n0 n1 n2 y0 y1 y2
              have hzl := HZ.out.lt
              have hnl := HN.out.lt
              go_wp2
              refine ret_cell rfl rfl ((((HZ.out.set 0 _).set 1 _).set 2 _).eq rfl) rowTag rfl ?_
              refine RC.mk_err e1.out (x := ⟨_, _, _⟩) (by unfold isTag tgv; rfl) ?_ (((HX.out.set_new _ (Nat.le_refl _)).set_new _ (Nat.le_refl _)).set_new _ (Nat.le_refl _))
              exact ((HC.out.set_other _ (by omega) (by omega)).set_other _ (by omega) (by omega)).set_other _ (by omega) (by omega)
            · have ht' : ((t : Int) == 0) = false := by rw [beq_eq_false_iff_ne]; omega
              have e1 : Hid (R = .ok (⟨0, 0, t⟩, m2)) := by show _ = _; rw [HR3.out]; unfold pBind pChk; rw [HB.out]; simp [ht]; rfl
              clear HR3 HB
              go_upto_region 14 with (fail)
              have n0 := HN.out.cell 0
              have n1 := HN.out.cell 1
              have n2 := HN.out.cell 2
              have y0 := HZ.out.cell 0
              have y1 := HZ.out.cell 1
              have y2 := HZ.out.cell 2
              have z0 := HZ.out.frozen 0
              have z1 := HZ.out.frozen 1
              have z2 := HZ.out.frozen 2
              simp only [List.getElem?_toArray, List.getElem?_cons_zero, List.getElem?_cons_succ] at n0 n1 n2 y0 y1 y2
              have hzl := HZ.out.lt
              have hnl := HN.out.lt
              go_wp2
              refine ret_cell rfl rfl ((((HZ.out.set 0 _).set 1 _).set 2 _).eq rfl) rowTag rfl ?_
              refine RC.mk_ok e1.out rfl ?_ (((HX.out.set_new _ (Nat.le_refl _)).set_new _ (Nat.le_refl _)).set_new _ (Nat.le_refl _))
              exact ((HC.out.set_other _ (by omega) (by omega)).set_other _ (by omega) (by omega)).set_other _ (by omega) (by omega)
        · have e1 : Hid (R = .ok (⟨k, 0, 0⟩, m)) := by
            show _ = _
            rw [HR2.out, if_neg hr, if_neg hs]
            rfl
          clear HR2 hr
          cases slot with
          | false =>
            go_upto_region 14 with (fail)
            have n0 := HN.out.cell 0
            have n1 := HN.out.cell 1
            have n2 := HN.out.cell 2
            have y0 := HZ.out.cell 0
            have y1 := HZ.out.cell 1
            have y2 := HZ.out.cell 2
            have z0 := HZ.out.frozen 0
            have z1 := HZ.out.frozen 1
            have z2 := HZ.out.frozen 2
            simp only [List.getElem?_toArray, List.getElem?_cons_zero, List.getElem?_cons_succ] at n0 n1 n2 y0 y1 y2
            have hzl := HZ.out.lt
            have hnl := HN.out.lt
            go_wp2
            refine ret_cell rfl rfl ((((HZ.out.set 0 _).set 1 _).set 2 _).eq rfl) rowTag rfl ?_
            refine RC.mk_ok e1.out rfl ?_ (((HX.out.set_new _ (Nat.le_refl _)).set_new _ (Nat.le_refl _)).set_new _ (Nat.le_refl _))
            exact ((HC.out.set_other _ (by omega) (by omega)).set_other _ (by omega) (by omega)).set_other _ (by omega) (by omega)
          | true =>
            have hk0' : ((k : Int) == 0) = false := by rw [beq_eq_false_iff_ne]; exact fun e => hs ⟨rfl, by omega⟩
            clear hs
            go_upto_region 14 with (fail)
            have n0 := HN.out.cell 0
            have n1 := HN.out.cell 1
            have n2 := HN.out.cell 2
            have y0 := HZ.out.cell 0
            have y1 := HZ.out.cell 1
            have y2 := HZ.out.cell 2
            have z0 := HZ.out.frozen 0
            have z1 := HZ.out.frozen 1
            have z2 := HZ.out.frozen 2
            simp only [List.getElem?_toArray, List.getElem?_cons_zero, List.getElem?_cons_succ] at n0 n1 n2 y0 y1 y2
            have hzl := HZ.out.lt
            have hnl := HN.out.lt
            go_wp2
            refine ret_cell rfl rfl ((((HZ.out.set 0 _).set 1 _).set 2 _).eq rfl) rowTag rfl ?_
            refine RC.mk_ok e1.out rfl ?_ (((HX.out.set_new _ (Nat.le_refl _)).set_new _ (Nat.le_refl _)).set_new _ (Nat.le_refl _))
            exact ((HC.out.set_other _ (by omega) (by omega)).set_other _ (by omega) (by omega)).set_other _ (by omega) (by omega)
end Go.Proofs.Ytfdjdpbiccclfaa
namespace Go.Proofs.Ytfdjdpbiccclfaa
open Go Go.RowKit Go.Wr
set_option maxHeartbeats 4000000
set_option maxRecDepth 100000
structure Ex2 (p q : Nat) (w w' : World) : Prop where
  os : w'.os = w.os
  tape : w'.tape = w.tape
  output : w'.output = w.output
  size : w.heap.size ≤ w'.heap.size
  block : ∀ k, k < w.heap.size → k ≠ p → k ≠ q → w'.heap[k]? = w.heap[k]?
theorem Ex2.refl (p q : Nat) (w : World) : Ex2 p q w w := ⟨rfl, rfl, rfl, Nat.le_refl _, fun _ _ _ _ => rfl⟩
theorem Ex2.trans {p q : Nat} {a b c : World} (h : Ex2 p q a b) (k : Ex2 p q b c) : Ex2 p q a c :=
  ⟨k.os.trans h.os, k.tape.trans h.tape, k.output.trans h.output, Nat.le_trans h.size k.size, fun i hi h1 h2 => (k.block i (Nat.lt_of_lt_of_le hi h.size) h1 h2).trans (h.block i hi h1 h2)⟩
theorem Ex2.of_ex {p q : Nat} {w w' : World} (h : Ex p w w') : Ex2 p q w w' := ⟨h.os, h.tape, h.output, h.size, fun k hk h1 _ => h.block k hk h1⟩
theorem Ex2.ex {p q : Nat} {w w' w'' : World} (h : Ex p w w') (k : Ex2 p q w' w'') (hq : w.heap.size ≤ q) : Ex p w w'' :=
  ⟨k.os.trans h.os, k.tape.trans h.tape, k.output.trans h.output, Nat.le_trans h.size k.size, fun i hi h1 => (k.block i (Nat.lt_of_lt_of_le hi h.size) h1 (by omega)).trans (h.block i hi h1)⟩
theorem Ex2.blk {p q b : Nat} {w w' : World} {T : TypeId} {C : Array Value} (h : Ex2 p q w w') (hb : Blk w b T C) (h1 : b ≠ p) (h2 : b ≠ q) : Blk w' b T C := hb.of_block (h.block b hb.lt h1 h2)
theorem Ex2.set {p q : Nat} {w w' : World} (h : Ex2 p q w w') (i : Nat) (v : Value) : Ex2 p q w (w'.setCell ⟨q, i, none⟩ v) := by
  have hb := (Below.refl 0 w').setCell (p := ⟨q, i, none⟩) (Nat.zero_le _) v
  exact ⟨hb.os.trans h.os, hb.tape.trans h.tape, hb.output.trans h.output, Nat.le_trans h.size hb.size, fun k hk h1 h2 => (Below.heap_setCell w' ⟨q, i, none⟩ v k h2).trans (h.block k hk h1 h2)⟩
theorem Ex2.drew {p q : Nat} {w w' : World} (h : Ex2 p q w w') : Ex2 p q w w'.drew := ⟨h.os, h.tape, h.output, h.size, h.block⟩
theorem Ex2.drewN {p q : Nat} {w w' : World} (h : Ex2 p q w w') (n : Nat) : Ex2 p q w (w'.drewN n) := ⟨h.os, h.tape, h.output, h.size, h.block⟩
theorem Ex2.alloc {p q : Nat} {w w' : World} (h : Ex2 p q w w') (o : Obj) : Ex2 p q w (w'.alloc o) := h.trans (Ex2.of_ex (Ex.of_below (bAl (bRefl w') o)))
def Cu (B p : Nat) (b : List Nat) (s : Except (Nat × Int) Nat) (w : World) (vb : Value) : Prop :=
  match s with | .ok m => CuL B p b m w vb | .error (y, er) => CuD B p b y er w vb
theorem Cu.set_other {B p : Nat} {b : List Nat} {s : Except (Nat × Int) Nat} {w : World} {vb : Value} (h : Cu B p b s w vb) {q i : Nat} (v : Value) (hq : q ≠ p) (hB : B ≤ q) : Cu B p b s (w.setCell ⟨q, i, none⟩ v) vb := by
  cases s with
  | ok m => exact CuL.set_other h v hq hB
  | error e => exact CuD.set_other h v hq hB
theorem Cu.alloc {B p : Nat} {b : List Nat} {s : Except (Nat × Int) Nat} {w : World} {vb : Value} (h : Cu B p b s w vb) (o : Obj) : Cu B p b s (w.alloc o) vb := by
  cases s with
  | ok m => exact CuL.alloc h o
  | error e => exact CuD.alloc h o
theorem Cu.drewN {B p : Nat} {b : List Nat} {s : Except (Nat × Int) Nat} {w : World} {vb : Value} (h : Cu B p b s w vb) (n : Nat) : Cu B p b s (w.drewN n) vb := by
  cases s with
  | ok m => exact CuL.drewN h n
  | error e => exact CuD.drewN h n
def stp {α : Type} (s : Except (Nat × Int) Nat) (g : Nat → Except (Nat × Int) (α × Nat)) : Except (Nat × Int) (α × Nat) := match s with | .ok m => g m | .error e => .error e
structure CQ (B p q : Nat) (b : List Nat) (vb : Value) (w : World) (s : Except (Nat × Int) Nat) (f : Nat → Tg) (vc : Value) (wr : World) : Prop where
  cu : Cu B p b s wr vb
  ex : Ex2 p q w wr
  qb : Blk wr q 61 (bx (.bool false) f vc)
theorem CQ.next {B p q : Nat} {b : List Nat} {vb : Value} {w : World} {s s' : Except (Nat × Int) Nat} {f : Nat → Tg} {vc : Value} {wr w' : World} (h : CQ B p q b vb w s f vc wr) (hx : Ex p wr w') (hd : Cu B p b s' w' vb) (h2 : q ≠ p) : CQ B p q b vb w s' f vc w' :=
  ⟨hd, h.ex.trans (Ex2.of_ex hx), hx.blk h.qb h2⟩
theorem CQ.alloc {B p q : Nat} {b : List Nat} {vb : Value} {w : World} {s : Except (Nat × Int) Nat} {f : Nat → Tg} {vc : Value} {wr : World} (h : CQ B p q b vb w s f vc wr) (o : Obj) : CQ B p q b vb w s f vc (wr.alloc o) :=
  ⟨h.cu.alloc o, h.ex.alloc o, h.qb.alloc o⟩
theorem CQ.drewN {B p q : Nat} {b : List Nat} {vb : Value} {w : World} {s : Except (Nat × Int) Nat} {f : Nat → Tg} {vc : Value} {wr : World} (h : CQ B p q b vb w s f vc wr) (n : Nat) : CQ B p q b vb w s f vc (wr.drewN n) :=
  ⟨h.cu.drewN n, h.ex.drewN n, h.qb.drewN n⟩
theorem CQ.drew {B p q : Nat} {b : List Nat} {vb : Value} {w : World} {s : Except (Nat × Int) Nat} {f : Nat → Tg} {vc : Value} {wr : World} (h : CQ B p q b vb w s f vc wr) : CQ B p q b vb w s f vc wr.drew := h.drewN 1
theorem CQ.tag {B p q : Nat} {b : List Nat} {vb : Value} {w : World} {s : Except (Nat × Int) Nat} {f : Nat → Tg} {vc : Value} {wr : World} (h : CQ B p q b vb w s f vc wr) (h2 : q ≠ p) (h3 : B ≤ q) {k : Nat} (hk : k < 42) (t : Tg) {o : Nat} (ho : o = 1 + k * 3) :
    CQ B p q b vb w s (putT f k t) vc (((wr.setCell ⟨q, o, none⟩ (.int .i64 t.k)).setCell ⟨q, o + 1, none⟩ (.int .i64 t.t)).setCell ⟨q, o + 2, none⟩ (.int .i64 t.m)) :=
  ⟨((h.cu.set_other _ h2 h3).set_other _ h2 h3).set_other _ h2 h3, ((h.ex.set _ _).set _ _).set _ _, (((h.qb.set o _).set (o + 1) _).set (o + 2) _).eq (bx_put _ _ _ hk t ho)⟩
def CQP (B p q : Nat) (b : List Nat) (vb : Value) (r : Except (Nat × Int) ((Nat → Tg) × Nat)) (vc : Value) (w : World) (e : Ending) (w' : World) : Prop :=
  e = .returned (.tuple #[]) ∧ ∃ s f, CQ B p q b vb w s f vc w' ∧ r = stp s (fun m => .ok (f, m))
theorem cslots_dead (w : World) (B p q y : Nat) (er : Int) (b : List Nat) (vb : Value) (h : CuD B p b y er w vb) (f : Nat → Tg) (vc : Value) (hq : Blk w q 61 (bx (.bool false) f vc)) (hqp : q ≠ p) :
    Calls Try.prog 62 #[.pointer (some ⟨p, 0, none⟩), .pointer (some ⟨q, 0, none⟩)] w (CQP B p q b vb (.error (y, er)) vc w) := by
  have H := Lib.hid h
  have HQ := Lib.hid hq
  clear h hq
  go_enter Try.func62, Try.ntmps62
  go_wp2_with fail
  refine (cmost_dead w B p y er b vb H.out 32 112).mono ?_
  rintro e w1 hr
  obtain ⟨n, v, rfl, rfl, hd1, hx1⟩ := hr.err rfl
  have HC : Hid (CQ B p q b vb w (.error (y, er)) f vc w1) := ⟨hd1, Ex2.of_ex hx1, hx1.blk HQ.out hqp⟩
  have c3 := hd1.cell3
  have hne := hd1.ne'
  clear hr hd1 hx1 H HQ
  go_wp2
  go_loopw [6] (fun t wr => t = .int .i64 0 ∧ wr = w1) (fun _ _ => 0)
  case atStart => exact ⟨rfl, rfl⟩
  case round =>
    obtain ⟨rfl, rfl⟩ := hrel
    by_cases hn : 0 < n
    · have hn' : (0 : Int) < (n : Int) := by omega
      go_wp2
      go_end0
      exact ⟨rfl, _, f, HC.out, rfl⟩
    · have hn' : ¬ (0 : Int) < (n : Int) := by omega
      go_wp2
      go_end0
      exact ⟨rfl, _, f, HC.out, rfl⟩
def pSlB (f : Nat → Tg) : Ps (Nat → Tg) := pBind (pMost 32 112) fun n => pSlots n (-1) f
theorem cslots_ok (w : World) (B p q a : Nat) (b : List Nat) (vb : Value) (h : CuL B p b a w vb) (f : Nat → Tg) (vc : Value) (hq : Blk w q 61 (bx (.bool false) f vc)) (hqp : q ≠ p) (hBq : B ≤ q) :
    Calls Try.prog 62 #[.pointer (some ⟨p, 0, none⟩), .pointer (some ⟨q, 0, none⟩)] w (CQP B p q b vb (pSlB f b a) vc w) := by
  have H := Lib.hid h
  have HQ := Lib.hid hq
  obtain ⟨R, hR⟩ : ∃ R, R = pSlB f b a := ⟨_, rfl⟩
  rw [← hR]
  have HR := Lib.hid hR
  clear h hq hR
  go_enter Try.func62, Try.ntmps62
  go_wp2_with fail
  refine (cmost_ok w B p a b vb H.out 32 112 (by decide) rfl).mono ?_
  rintro e w1 hr
  cases hb : pMost 32 112 b a with
  | error v =>
    obtain ⟨y, er⟩ := v
    obtain ⟨n, v, rfl, rfl, hd1, hx1⟩ := hr.err hb
    have e1 : Hid (R = .error (y, er)) := by show _ = _; rw [HR.out]; exact pBind_no hb
    have HC : Hid (CQ B p q b vb w (.error (y, er)) f vc w1) := ⟨hd1, Ex2.of_ex hx1, hx1.blk HQ.out hqp⟩
    have c3 := hd1.cell3
    have hne := hd1.ne'
    clear hr hb hd1 hx1 H HQ HR
    go_wp2
    go_loopw [6] (fun t wr => t = .int .i64 0 ∧ wr = w1) (fun _ _ => 0)
    case atStart => exact ⟨rfl, rfl⟩
    case round =>
      obtain ⟨rfl, rfl⟩ := hrel
      by_cases hn : 0 < n
      · have hn' : (0 : Int) < (n : Int) := by omega
        go_wp2
        go_end0
        exact ⟨rfl, _, f, HC.out, e1.out⟩
      · have hn' : ¬ (0 : Int) < (n : Int) := by omega
        go_wp2
        go_end0
        exact ⟨rfl, _, f, HC.out, e1.out⟩
  | ok v =>
    obtain ⟨n, m⟩ := v
    obtain ⟨v, rfl, rfl, hd1, hx1⟩ := hr.ok hb
    have hn32 := (pChk_ok.1 hb).2
    simp only [decide_eq_true_eq] at hn32
    have e0 : Hid (R = stp (.ok m) fun m => pSlots (n - 0) (-1) f b m) := by show _ = _; rw [HR.out]; exact pBind_at hb
    have HC : Hid (CQ B p q b vb w (.ok m) f vc w1) := ⟨hd1, Ex2.of_ex hx1, hx1.blk HQ.out hqp⟩
    clear hr hb hd1 hx1 H HQ HR
    go_wp2
    go_loopw [5, 6] (fun la t wr => ∃ (k : Nat) (last : Int) (f : Nat → Tg) (s : Except (Nat × Int) Nat), k ≤ n ∧ la = .int .i64 last ∧ t = .int .i64 (k : Int) ∧ Hid (R = stp s fun m => pSlots (n - k) last f b m) ∧ Hid (CQ B p q b vb w s f vc wr)) (fun _ t _ => n - (intOf t).toNat)
    case atStart => exact ⟨0, -1, f, .ok m, by omega, rfl, rfl, e0, HC⟩
    case round =>
      clear e0 HC
      obtain ⟨k, last, f, s, hk, rfl, rfl, HE, HC⟩ := hrel
      cases s with
      | error v =>
        obtain ⟨y, er⟩ := v
        have c3 : wr.cell? ⟨p, 3, none⟩ = some (.int .i64 er) := CuD.cell3 HC.out.cu
        have hne : (er == 0) = false := CuD.ne' HC.out.cu
        by_cases hn : k < n
        · have hn' : (k : Int) < (n : Int) := by omega
          go_wp2
          go_end0
          exact ⟨rfl, _, f, HC.out, HE.out⟩
        · have hn' : ¬ (k : Int) < (n : Int) := by omega
          go_wp2
          go_end0
          exact ⟨rfl, _, f, HC.out, HE.out⟩
      | ok m =>
        have c3 : wr.cell? ⟨p, 3, none⟩ = some (.int .i64 0) := CuL.cell3 HC.out.cu
        have c1 : wr.cell? ⟨p, 1, none⟩ = some (.int .i64 (m : Int)) := CuL.cell1 HC.out.cu
        by_cases hlt : k < n
        · have hlt' : (k : Int) < (n : Int) := by omega
          have HE2 : Hid (R = (pBind (pChk (fun i : Nat => decide (last < (i : Int))) 111 (pBnd 31 90)) fun i => pBind (pTag true) fun t => pSlots (n - (k + 1)) i (putT f (10 + i) t)) b m) := by
            show _ = _
            rw [HE.out, show n - k = (n - (k + 1)) + 1 by omega]
            rfl
          clear HE
          go_wp2_with fail
          refine (cbyte_ok0 wr B p m b vb HC.out.cu).mono ?_
          rintro e w2 hr
          cases hb : pByte b m with
          | error v =>
            obtain ⟨y, er⟩ := v
            obtain ⟨rfl, hd, hx⟩ := hr.err hb
            have e1 : Hid (R = stp (.error (y, er)) fun m => pSlots (n - (k + 1)) last f b m) := by
              show _ = _
              rw [HE2.out]
              exact pBind_no (pChk_err.2 (Or.inl (pChk_err.2 (Or.inl hb))))
            have HD := Lib.hid hd
            have HC := Lib.hid (HC.out.next (s' := .error (y, er)) hx hd hqp)
            clear hr hb hd hx HE2 c1
            have c3 := HD.out.cell3
            have hne' := HD.out.ne'
            go_wp2_with fail
            refine (ctag_dead _ B p _ _ b vb HD.out true).mono ?_
            rintro e w3 hr
            obtain ⟨t, v, rfl, rfl, hd, hx⟩ := hr.err rfl
            have HC2 := Lib.hid (HC.out.next (s' := .error (y, er)) hx hd hqp)
            have c3 := hd.cell3
            have hne' := hd.ne'
            unfold tgv
            clear HC HD hr hd hx
            go_upto_region 12 with (fail)
            generalize hV : w3.alloc _ = V
            have HC3 := Lib.hid (show CQ B p q b vb w (.error (y, er)) f vc V by rw [← hV]; exact HC2.out.alloc _)
            have c3 : V.cell? ⟨p, 3, none⟩ = some (.int .i64 er) := CuD.cell3 HC3.out.cu
            clear HC2 hV
            go_wp2
            go_roundw
            all_goals first
              | exact ⟨k + 1, last, f, .error (y, er), by omega, rfl, by go_num, e1, HC3⟩
              | ((repeat apply Exists.intro); exact ⟨⟨k + 1, last, f, .error (y, er), by omega, rfl, by go_num, e1, HC3⟩, rfl⟩)
              | (simp [intOf]; omega)
          | ok v =>
            obtain ⟨i, m2⟩ := v
            obtain ⟨rfl, hd, hx⟩ := hr.ok hb
            have HC2 := Lib.hid (HC.out.next (s' := .ok m2) hx hd hqp)
            have HB := Lib.hid hb
            have HL := Lib.hid hd
            have c3 := hd.cell3
            clear hr hb hd hx HC c1
            by_cases hi31 : 31 < i
            · have hi31' : (31 : Int) < (i : Int) := by omega
              have e1 : Hid (R = stp (.error (m, 90)) fun m => pSlots (n - (k + 1)) last f b m) := by
                show _ = _
                rw [HE2.out]
                exact pBind_no (pChk_err.2 (Or.inl (pChk_err.2 (Or.inr ⟨rfl, i, m2, HB.out, by simp; omega⟩))))
              clear HE2 HB
              go_wp2_with fail
              refine (cfault_ok _ B p _ b vb HL.out m 90 (by decide)).mono ?_
              rintro e w3 ⟨rfl, hd, hx⟩
              obtain ⟨y, hy⟩ : ∃ y, y = m := ⟨_, rfl⟩
              obtain ⟨er, her⟩ : ∃ er : Int, er = 90 := ⟨_, rfl⟩
              rw [← hy, ← her] at hd e1
              have HD := Lib.hid hd
              have HC := Lib.hid (HC2.out.next (s' := .error (y, er)) hx hd hqp)
              clear hd hx HL HC2 hy her
              have c3 := HD.out.cell3
              have hne' := HD.out.ne'
              go_wp2_with fail
              refine (ctag_dead _ B p _ _ b vb HD.out true).mono ?_
              rintro e w3 hr
              obtain ⟨t, v, rfl, rfl, hd, hx⟩ := hr.err rfl
              have HC2 := Lib.hid (HC.out.next (s' := .error (y, er)) hx hd hqp)
              have c3 := hd.cell3
              have hne' := hd.ne'
              unfold tgv
              clear HC HD hr hd hx
              go_upto_region 12 with (fail)
              generalize hV : w3.alloc _ = V
              have HC3 := Lib.hid (show CQ B p q b vb w (.error (y, er)) f vc V by rw [← hV]; exact HC2.out.alloc _)
              have c3 : V.cell? ⟨p, 3, none⟩ = some (.int .i64 er) := CuD.cell3 HC3.out.cu
              clear HC2 hV
              go_wp2
              go_roundw
              all_goals first
                | exact ⟨k + 1, last, f, .error (y, er), by omega, rfl, by go_num, e1, HC3⟩
                | ((repeat apply Exists.intro); exact ⟨⟨k + 1, last, f, .error (y, er), by omega, rfl, by go_num, e1, HC3⟩, rfl⟩)
                | (simp [intOf]; omega)
            · have hi31' : ¬ (31 : Int) < (i : Int) := by omega
              have hbd : pBnd 31 90 b m = .ok (i, m2) := pChk_ok.2 ⟨HB.out, by simp; omega⟩
              have HBD := Lib.hid hbd
              clear hbd HB
              by_cases hil : (i : Int) ≤ last
              · have e1 : Hid (R = stp (.error (m, 111)) fun m => pSlots (n - (k + 1)) last f b m) := by
                  show _ = _
                  rw [HE2.out]
                  exact pBind_no (pChk_err.2 (Or.inr ⟨rfl, i, m2, HBD.out, by simp; omega⟩))
                clear HE2 HBD
                go_wp2_with fail
                refine (cfault_ok _ B p _ b vb HL.out m 111 (by decide)).mono ?_
                rintro e w3 ⟨rfl, hd, hx⟩
                obtain ⟨y, hy⟩ : ∃ y, y = m := ⟨_, rfl⟩
                obtain ⟨er, her⟩ : ∃ er : Int, er = 111 := ⟨_, rfl⟩
                rw [← hy, ← her] at hd e1
                have HD := Lib.hid hd
                have HC := Lib.hid (HC2.out.next (s' := .error (y, er)) hx hd hqp)
                clear hd hx HL HC2 hy her
                have c3 := HD.out.cell3
                have hne' := HD.out.ne'
                go_wp2_with fail
                refine (ctag_dead _ B p _ _ b vb HD.out true).mono ?_
                rintro e w3 hr
                obtain ⟨t, v, rfl, rfl, hd, hx⟩ := hr.err rfl
                have HC2 := Lib.hid (HC.out.next (s' := .error (y, er)) hx hd hqp)
                have c3 := hd.cell3
                have hne' := hd.ne'
                unfold tgv
                clear HC HD hr hd hx
                go_upto_region 12 with (fail)
                generalize hV : w3.alloc _ = V
                have HC3 := Lib.hid (show CQ B p q b vb w (.error (y, er)) f vc V by rw [← hV]; exact HC2.out.alloc _)
                have c3 : V.cell? ⟨p, 3, none⟩ = some (.int .i64 er) := CuD.cell3 HC3.out.cu
                clear HC2 hV
                go_wp2
                go_roundw
                all_goals first
                  | exact ⟨k + 1, last, f, .error (y, er), by omega, rfl, by go_num, e1, HC3⟩
                  | ((repeat apply Exists.intro); exact ⟨⟨k + 1, last, f, .error (y, er), by omega, rfl, by go_num, e1, HC3⟩, rfl⟩)
                  | (simp [intOf]; omega)
              · have hil' : last < (i : Int) := by omega
                have HE3 : Hid (R = (pBind (pTag true) fun t => pSlots (n - (k + 1)) i (putT f (10 + i) t)) b m2) := by
                  show _ = _
                  rw [HE2.out]
                  exact pBind_at (pChk_ok.2 ⟨HBD.out, by simpa using hil'⟩)
                have hi32 : (i : Int) < 32 := by omega
                clear HE2 HBD
                go_wp2_with fail
                refine (ctag_ok w2 B p m2 b vb HL.out true).mono ?_
                rintro e w3 hr
                cases hb : pTag true b m2 with
                | error v =>
                  obtain ⟨y, er⟩ := v
                  obtain ⟨t, v, rfl, rfl, hd, hx⟩ := hr.err hb
                  have e1 : Hid (R = stp (.error (y, er)) fun m => pSlots (n - (k + 1)) last f b m) := by
                    show _ = _
                    rw [HE3.out]
                    exact pBind_no hb
                  have HC2 := Lib.hid (HC2.out.next (s' := .error (y, er)) hx hd hqp)
                  have c3 := hd.cell3
                  have hne' := hd.ne'
                  unfold tgv
                  clear hr hb hd hx HE3 HL
                  go_upto_region 12 with (fail)
                  generalize hV : w3.alloc _ = V
                  have HC3 := Lib.hid (show CQ B p q b vb w (.error (y, er)) f vc V by rw [← hV]; exact HC2.out.alloc _)
                  have c3 : V.cell? ⟨p, 3, none⟩ = some (.int .i64 er) := CuD.cell3 HC3.out.cu
                  clear HC2 hV
                  go_wp2
                  go_roundw
                  all_goals first
                    | exact ⟨k + 1, last, f, .error (y, er), by omega, rfl, by go_num, e1, HC3⟩
                    | ((repeat apply Exists.intro); exact ⟨⟨k + 1, last, f, .error (y, er), by omega, rfl, by go_num, e1, HC3⟩, rfl⟩)
                    | (simp [intOf]; omega)
                | ok v =>
                  obtain ⟨t, m3⟩ := v
                  obtain ⟨v, rfl, rfl, hd, hx⟩ := hr.ok hb
                  have HE4 : Hid (R = stp (.ok m3) fun m => pSlots (n - (k + 1)) i (putT f (10 + i) t) b m) := by show _ = _; rw [HE3.out]; exact pBind_at hb
                  have HC3 := Lib.hid (HC2.out.next (s' := .ok m3) hx hd hqp)
                  clear hr hb hd hx HE3 HL HC2 c3
                  unfold tgv
                  go_upto_region 12 with (fail)
                  have d0 : (w3.alloc (.cells #[.int .i64 t.k, .int .i64 t.t, .int .i64 t.m] 56)).cell? ⟨w3.heap.size, 0, none⟩ = some (.int .i64 t.k) := (Blk.new w3 56 #[.int .i64 t.k, .int .i64 t.t, .int .i64 t.m]).cell 0
                  have d1 : (w3.alloc (.cells #[.int .i64 t.k, .int .i64 t.t, .int .i64 t.m] 56)).cell? ⟨w3.heap.size, 1, none⟩ = some (.int .i64 t.t) := (Blk.new w3 56 #[.int .i64 t.k, .int .i64 t.t, .int .i64 t.m]).cell 1
                  have d2 : (w3.alloc (.cells #[.int .i64 t.k, .int .i64 t.t, .int .i64 t.m] 56)).cell? ⟨w3.heap.size, 2, none⟩ = some (.int .i64 t.m) := (Blk.new w3 56 #[.int .i64 t.k, .int .i64 t.t, .int .i64 t.m]).cell 2
                  generalize hV : w3.alloc _ = V at d0 d1 d2 ⊢
                  have HC4 := Lib.hid (show CQ B p q b vb w (.ok m3) f vc V by rw [← hV]; exact HC3.out.alloc _)
                  have c3 : V.cell? ⟨p, 3, none⟩ = some (.int .i64 0) := CuL.cell3 HC4.out.cu
                  clear HC3 hV
                  go_upto_region 13 with (fail)
                  obtain ⟨b0, b1, b2⟩ := bx_tag (.bool false) f vc (show 10 + i < 42 by omega)
                  have ei : 1 + (10 + i) * 3 = 31 + i * 3 := by omega
                  rw [ei] at b0 b1 b2
                  have c0 := (HC4.out.qb.cell (31 + i * 3)).trans b0
                  have c1 := (HC4.out.qb.cell (31 + i * 3 + 1)).trans b1
                  have c2 := (HC4.out.qb.cell (31 + i * 3 + 2)).trans b2
                  have g0 := HC4.out.qb.frozen (31 + i * 3)
                  have g1 := HC4.out.qb.frozen (31 + i * 3 + 1)
                  have g2 := HC4.out.qb.frozen (31 + i * 3 + 2)
                  clear b0 b1 b2 ei
                  go_region
                  have hC5 := (HC4.out.tag hqp hBq (show 10 + i < 42 by omega) t (o := 31 + i * 3) (by omega)).drew
                  have HC5 := Lib.hid hC5
                  clear hC5 HC4 c0 c1 c2 g0 g1 g2 d0 d1 d2 c3
                  go_wp2
                  go_roundw
                  all_goals first
                    | exact ⟨k + 1, i, putT f (10 + i) t, .ok m3, by omega, rfl, by go_num, HE4, HC5⟩
                    | ((repeat apply Exists.intro); exact ⟨⟨k + 1, i, putT f (10 + i) t, .ok m3, by omega, rfl, by go_num, HE4, HC5⟩, rfl⟩)
                    | (simp [intOf]; omega)
        · obtain rfl : k = n := by omega
          have e1 : Hid (R = stp (.ok m) fun m => .ok (f, m)) := by show _ = _; rw [HE.out, Nat.sub_self]; rfl
          clear HE
          go_wp2
          go_end0
          exact ⟨rfl, _, f, HC.out, e1.out⟩
end Go.Proofs.Ytfdjdpbiccclfaa
