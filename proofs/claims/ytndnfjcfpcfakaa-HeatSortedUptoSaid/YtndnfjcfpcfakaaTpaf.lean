/- What the law needs, one part after another: walks of functions and plain laws. No conditions but those that each law names. -/
import Derived.Test.YtndnfjcfpcfakaaTpae
import Derived.OwnWalk
import Derived.Deep.CutBlock
import Derived.Deep.DeepCutAuto
import Derived.Test.YtndnfjcfpcfakaaProg
import Derived.Test.YtndnfjcfpcfakaaRows
import Derived.ProofKit
import Derived.OpenShut
import Derived.ChangeOld
import Derived.Deep.Slices
import Derived.SizedLaws
import Derived.Laws.FloatArith
import Derived.Laws.Externs
namespace Go.Proofs.Ytndnfjcfpcfakaa
open Go Go.RowKit Go.Wr Go.Fl
set_option maxHeartbeats 4000000
set_option maxRecDepth 100000
structure R2 (w : World) (q gL m : Nat) (V : Nat → Bool) (bs : List (Nat × Nat)) (os : List Nat) (vb vo : Value) (wr : World) : Prop where
 ex : Ex q w wr
 pb : Blk wr q 76 #[vb, sn, sn, sn, vo]
 st : OwR tB w.heap.size wr (.slice (some ⟨gL, 0, none⟩) m m) ((List.range m).map V)
 kb : OwR tK w.heap.size wr vb (bkL bs)
 ow : OwR tI w.heap.size wr vo (nI os)
section
variable {w wr w' : World} {q gL m : Nat} {V : Nat → Bool} {bs : List (Nat × Nat)} {os : List Nat} {vb vo v' : Value}
theorem R2.below (h : R2 w q gL m V bs os vb vo wr) (b : Below wr.heap.size wr w') : R2 w q gL m V bs os vb vo w' :=
 ⟨h.ex.trans (Ex.of_below b), h.pb.below b h.pb.lt, h.st.below b, h.kb.below b, h.ow.below b⟩
theorem R2.putB (h : R2 w q gL m V bs os vb vo wr) {b : Nat × Nat} (ho : OwR tK w.heap.size w' v' (bkL (bs ++ [b]))) (hg : wr.grownBy w' vb.ownBlock) : R2 w q gL m V (bs ++ [b]) os v' vo (w'.setCell ⟨q, 0, none⟩ v') := by
 have hpb : Blk w' q 76 #[vb, sn, sn, sn, vo] := h.pb.of_block (hg.block q h.pb.lt (fun e => h.kb.ne h.pb (by decide) e.symm))
 have hst : OwR tB w.heap.size w' (.slice (some ⟨gL, 0, none⟩) m m) ((List.range m).map V) := h.st.keep fun g e => by
  obtain ⟨_, C', hb⟩ := h.st.blk e
  exact hg.block g hb.lt (fun e => h.kb.ne hb (by decide) e.symm)
 have how : OwR tI w.heap.size w' vo (nI os) := h.ow.keep fun g e => by
  obtain ⟨_, C', hb⟩ := h.ow.blk e
  exact hg.block g hb.lt (fun e => h.kb.ne hb (by decide) e.symm)
 exact ⟨(h.ex.grown hg fun g e => (h.kb.blk e).1).set 0 v', (hpb.set 0 v').eq rfl, hst.set_other (hst.ne hpb (by decide)), ho.set_other (ho.ne hpb (by decide)), how.set_other (how.ne hpb (by decide))⟩
theorem R2.putO (h : R2 w q gL m V bs os vb vo wr) {b : Nat} (ho : OwR tI w.heap.size w' v' (nI (os ++ [b]))) (hg : wr.grownBy w' vo.ownBlock) : R2 w q gL m V bs (os ++ [b]) vb v' (w'.setCell ⟨q, 4, none⟩ v') := by
 have hpb : Blk w' q 76 #[vb, sn, sn, sn, vo] := h.pb.of_block (hg.block q h.pb.lt (fun e => h.ow.ne h.pb (by decide) e.symm))
 have hst : OwR tB w.heap.size w' (.slice (some ⟨gL, 0, none⟩) m m) ((List.range m).map V) := h.st.keep fun g e => by
  obtain ⟨_, C', hb⟩ := h.st.blk e
  exact hg.block g hb.lt (fun e => h.ow.ne hb (by decide) e.symm)
 have hkb : OwR tK w.heap.size w' vb (bkL bs) := h.kb.keep fun g e => by
  obtain ⟨_, C', hb⟩ := h.kb.blk e
  exact hg.block g hb.lt (fun e => h.ow.ne hb (by decide) e.symm)
 exact ⟨(h.ex.grown hg fun g e => (h.ow.blk e).1).set 4 v', (hpb.set 4 v').eq rfl, hst.set_other (hst.ne hpb (by decide)), hkb.set_other (hkb.ne hpb (by decide)), ho.set_other (ho.ne hpb (by decide))⟩
theorem R2.setTo {g n c : Nat} (h : R2 w q gL m V bs os (.slice (some ⟨g, 0, none⟩) n c) vo wr) {b : Nat × Nat} {rs : List (Nat × Nat)} (e : bs = rs ++ [b]) (t : Nat) (z : Int) (hz : z = (t : Int)) : R2 w q gL m V (rs ++ [(b.1, t)]) os (.slice (some ⟨g, 0, none⟩) n c) vo (wr.setCell ⟨g, rs.length * 3 + 1, none⟩ (.int .i64 z)) := by
 subst e hz
 obtain ⟨hB, C, hg⟩ := h.kb.blk (g := g) rfl
 have hs := h.kb.set (k := rs.length) (j := 1) (x := ⟨(b.1 : Int), (b.2 : Int), ⟨none, 0, 0⟩⟩) (y := ⟨(b.1 : Int), (t : Int), ⟨none, 0, 0⟩⟩) (v := .int .i64 (t : Int))
  (by rw [bkL_app, List.getElem?_append_right (by rw [bkL_len]; exact Nat.le_refl _), bkL_len, Nat.sub_self]; rfl) (by decide) rfl
 have e2 : (bkL (rs ++ [b])).set rs.length ⟨(b.1 : Int), (t : Int), ⟨none, 0, 0⟩⟩ = bkL (rs ++ [(b.1, t)]) := by
  rw [bkL_app, bkL_app, List.set_append_right _ _ (by rw [bkL_len]; exact Nat.le_refl _), bkL_len, Nat.sub_self]
  rfl
 rw [e2] at hs
 exact ⟨h.ex.set_new _ _ hB, h.pb.set_other g _ _ (blk_ne h.pb hg (by decide)), h.st.set_other (h.st.ne hg (by decide)), hs, h.ow.set_other (h.ow.ne hg (by decide))⟩
end
structure R3 (w : World) (q gb cb : Nat) (l : List In) (vo : Value) (k : Nat) (row : Nat → Sv) (wr : World) : Prop where
 ex : Ex q w wr
 pb : Blk wr q 76 #[.slice (some ⟨gb, 0, none⟩) (nB l) cb, sn, sn, sn, vo]
 kb : OwR tK w.heap.size wr (.slice (some ⟨gb, 0, none⟩) (nB l) cb) (bkI (nB l) (frF l) (twF l) row)
 rs : ∀ i, i < k → OwR tI w.heap.size wr (row i).v (nI (nxt l i))
 ow : OwR tI w.heap.size wr vo (nI (ofl l))
theorem R3.below {w wr w' : World} {q gb cb : Nat} {l : List In} {vo : Value} {k : Nat} {row : Nat → Sv} (h : R3 w q gb cb l vo k row wr) (b : Below wr.heap.size wr w') : R3 w q gb cb l vo k row w' :=
 ⟨h.ex.trans (Ex.of_below b), h.pb.below b h.pb.lt, h.kb.below b, fun i hi => (h.rs i hi).below b, h.ow.below b⟩
theorem R3.put {w wr : World} {q gb cb : Nat} {l : List In} {vo : Value} {k : Nat} {row : Nat → Sv} (h : R3 w q gb cb l vo k row wr) (hk : k < nB l) {s : Sv} (hs : OwR tI w.heap.size wr s.v (nI (nxt l k))) : R3 w q gb cb l vo (k + 1) (setF row k s) (wr.setCell ⟨gb, k * 3 + 2, none⟩ s.v) := by
 obtain ⟨hB, C, hg⟩ := h.kb.blk (g := gb) rfl
 have h1 := h.kb.set (k := k) (j := 2) (x := ⟨frF l k, twF l k, row k⟩) (y := ⟨frF l k, twF l k, s⟩) (v := s.v) (by unfold bkI; rw [List.getElem?_map, List.getElem?_range hk]; rfl) (by decide) rfl
 rw [bkI_set hk] at h1
 refine ⟨h.ex.set_new _ _ hB, h.pb.set_other gb _ _ (blk_ne h.pb hg (by decide)), h1, fun i hi => ?_, h.ow.set_other (h.ow.ne hg (by decide))⟩
 by_cases e : i = k
 ·subst e
  rw [setF_self]
  exact hs.set_other (hs.ne hg (by decide))
 ·rw [setF_ne e]
  have := h.rs i (by omega)
  exact this.set_other (this.ne hg (by decide))
structure Rw2 (q : Nat) (l : List In) (vb vo : Value) (bs : List Bk) (w : World) : Prop where
 lb : bs.length = nB l
 sb : SlX tK q w vb bs
 nb : ∀ b k, bs[b]? = some k → k.fr = (frF l b : Int) ∧ k.2 = (twF l b : Int) ∧ SlX tI q w k.nx.v (nI (nxt l b))
 so : SlX tI q w vo (nI (ofl l))
theorem Rw2.ex {q : Nat} {l : List In} {vb vo : Value} {bs : List Bk} {w w' : World} (h : Rw2 q l vb vo bs w) (e : Ex q w w') : Rw2 q l vb vo bs w' :=
 ⟨h.lb, h.sb.ex e, fun b k hk => ⟨(h.nb b k hk).1, (h.nb b k hk).2.1, (h.nb b k hk).2.2.ex e⟩, h.so.ex e⟩
theorem R3.done {w wr : World} {q gb cb : Nat} {l : List In} {vo : Value} {row : Nat → Sv} (h : R3 w q gb cb l vo (nB l) row wr) : Rw2 q l (.slice (some ⟨gb, 0, none⟩) (nB l) cb) vo (bkI (nB l) (frF l) (twF l) row) wr := by
 refine ⟨by simp [bkI], h.kb.sl (h.kb.ne h.pb (by decide)), fun b k hk => ?_, h.ow.sl (h.ow.ne h.pb (by decide))⟩
 unfold bkI at hk
 by_cases hb : b < nB l
 ·rw [List.getElem?_map, List.getElem?_range hb] at hk
  simp only [Option.map_some, Option.some.injEq] at hk
  subst hk
  have ho := h.rs b hb
  exact ⟨rfl, rfl, ho.sl (ho.ne h.pb (by decide))⟩
 ·rw [List.getElem?_eq_none (by simp; omega)] at hk
  cases hk
end Go.Proofs.Ytndnfjcfpcfakaa
namespace Go.Proofs.Ytndnfjcfpcfakaa
open Go Go.RowKit Go.Wr Go.Fl
set_option maxHeartbeats 4000000
set_option maxRecDepth 100000
def rwa (y : Rw) : Array Value := #[.int .i64 y.code, .int .i64 y.op, .int .i64 y.sz, .bool y.nar, .bool y.reg, .int .i64 y.dst, .int .i64 y.src, .int .i64 y.off, .int .i64 y.imm, .int .i64 y.second, .bool y.wr]
end Go.Proofs.Ytndnfjcfpcfakaa
namespace Go.Proofs.Ytndnfjcfpcfakaa
open Go Go.RowKit Go.Wr Go.Fl
set_option maxHeartbeats 4000000
set_option maxRecDepth 100000
end Go.Proofs.Ytndnfjcfpcfakaa
namespace Go.Proofs.Ytndnfjcfpcfakaa
open Go Go.RowKit Go.Wr Go.Fl
set_option maxHeartbeats 4000000
set_option maxRecDepth 100000
end Go.Proofs.Ytndnfjcfpcfakaa
namespace Go.Proofs.Ytndnfjcfpcfakaa
open Go Go.RowKit Go.Wr Go.Fl
set_option maxHeartbeats 4000000
set_option maxRecDepth 100000
end Go.Proofs.Ytndnfjcfpcfakaa
namespace Go.Proofs.Ytndnfjcfpcfakaa
open Go Go.RowKit Go.Wr Go.Fl
set_option maxHeartbeats 8000000
set_option maxRecDepth 100000
end Go.Proofs.Ytndnfjcfpcfakaa
namespace Go.Proofs.Ytndnfjcfpcfakaa
open Go Go.RowKit Go.Wr Go.Fl
set_option maxHeartbeats 4000000
set_option maxRecDepth 100000
end Go.Proofs.Ytndnfjcfpcfakaa
namespace Go.Proofs.Ytndnfjcfpcfakaa
open Go Go.RowKit Go.Wr Go.Fl
set_option maxHeartbeats 4000000
set_option maxRecDepth 100000
end Go.Proofs.Ytndnfjcfpcfakaa
namespace Go.Proofs.Ytndnfjcfpcfakaa
open Go Go.RowKit Go.Wr Go.Fl
set_option maxHeartbeats 4000000
set_option maxRecDepth 100000
open Classical in
structure Rs (w : World) (n gV : Nat) (V : Nat → Bool) (gT cT : Nat) (T : List Nat) (wr : World) : Prop where
 ov : OwR tB w.heap.size wr (.slice (some ⟨gV, 0, none⟩) n n) ((List.range n).map V)
 ot : OwR tI w.heap.size wr (.slice (some ⟨gT, 0, none⟩) T.length cT) (nI T)
 bl : Below w.heap.size w wr
section
variable {w wr w' : World} {n gV : Nat} {V : Nat → Bool} {gT cT : Nat} {T : List Nat}
theorem Rs.below (h : Rs w n gV V gT cT T wr) (b : Below wr.heap.size wr w') : Rs w n gV V gT cT T w' := ⟨h.ov.below b, h.ot.below b, bThen h.bl b⟩
theorem Rs.mark (h : Rs w n gV V gT cT T wr) {i : Nat} (hi : i < n) : Rs w n gV (Fl.mark V i) gT cT T (wr.setCell ⟨gV, i, none⟩ (.bool true)) := by
 obtain ⟨hB, C, hg⟩ := h.ov.blk (g := gV) rfl
 exact ⟨OwB.mark h.ov hi, h.ot.set_other (h.ot.ne hg (by decide)), h.bl.setCell hB _⟩
end
end Go.Proofs.Ytndnfjcfpcfakaa
namespace Go.Proofs.Ytndnfjcfpcfakaa
open Go Go.RowKit Go.Wr Go.Fl
set_option maxHeartbeats 4000000
set_option maxRecDepth 100000
structure Dt (q n : Nat) (nx : Nat → List Nat) (vd : Value) (rows : List Sv) (w : World) : Prop where
 c1 : w.cell? ⟨q, 1, none⟩ = some vd
 sd : SlX tBB q w vd rows
 ln : rows.length = n
 rw : ∀ (v : Nat) (s : Sv), rows[v]? = some s → SlX tB q w s.v ((List.range n).map fun (u : Nat) => domB nx n (v : Int) (u : Int))
theorem Dt.below {q n : Nat} {nx : Nat → List Nat} {vd : Value} {rows : List Sv} {w w' : World} (h : Dt q n nx vd rows w) (hq : q < w.heap.size) (b : Below w.heap.size w w') : Dt q n nx vd rows w' :=
 ⟨(b.cell (p := ⟨q, 1, none⟩) hq).trans h.c1, h.sd.below b, h.ln, fun v s hs => (h.rw v s hs).below b⟩
theorem Dt.back {q n : Nat} {nx : Nat → List Nat} {vd : Value} {rows : List Sv} {w : World} (h : Dt q n nx vd rows w) {u v : Nat} (hu : u < n) (hv : v < n) :
  Calls Try.prog 89 #[.pointer (some ⟨q, 0, none⟩), .int .i64 (u : Int), .int .i64 (v : Int)] w fun e w' => Below w.heap.size w w' ∧ e = .returned (.bool (domB nx n (v : Int) (u : Int))) := by
 obtain ⟨s, hs⟩ : ∃ s, rows[v]? = some s := ⟨_, List.getElem?_eq_getElem (by rw [h.ln]; exact hv)⟩
 exact back_ok w q q vd rows h.c1 h.sd u v s hs _ (h.rw v s hs) _ (by rw [List.getElem?_map, List.getElem?_range hu]; rfl)
end Go.Proofs.Ytndnfjcfpcfakaa
namespace Go.Fl
section
variable {nx : Nat → List Nat} {n h : Nat}
structure Q1 (nx : Nat → List Nat) (n h u k : Nat) (V : Nat → Bool) (is : Bool) : Prop where
 v : ∀ x, V x = true → x < n ∧ h ∈ nx x ∧ Dom nx h x
 c : ∀ x, x < u → h ∈ nx x → Dom nx h x → V x = true
 cu : h ∈ (nx u).take k → Dom nx h u → V u = true
 i : is = true ↔ ∃ x, V x = true
theorem Q1.start : Q1 nx n h 0 0 (fun _ => false) false := ⟨fun x hx => (by cases hx), fun x hx => by omega, fun hx => by simp at hx, by simp⟩
variable {u k y : Nat} {V : Nat → Bool} {is : Bool}
theorem Q1.skip (c : Q1 nx n h u k V is) (hy : (nx u)[k]? = some y) (hn : y = h → ¬ Dom nx h u) : Q1 nx n h u (k + 1) V is :=
 ⟨c.v, c.c, fun hx hd => by
  rw [List.take_add_one, hy] at hx
  rcases List.mem_append.1 hx with hx | hx
  ·exact c.cu hx hd
  ·simp at hx; exact absurd hd (hn hx.symm), c.i⟩
theorem Q1.add (c : Q1 nx n h u k V is) (hu : u < n) (hy : (nx u)[k]? = some h) (hd : Dom nx h u) : Q1 nx n h u (k + 1) (mark V u) true :=
 ⟨fun x hx => by
  rcases mark_iff.1 hx with rfl | hx
  ·exact ⟨hu, List.mem_of_getElem? hy, hd⟩
  ·exact c.v x hx, fun x hx h1 h2 => mark_iff.2 (Or.inr (c.c x hx h1 h2)), fun _ _ => mark_self _ _, ⟨fun _ => ⟨u, mark_self _ _⟩, fun _ => rfl⟩⟩
theorem Q1.next (c : Q1 nx n h u (nx u).length V is) : Q1 nx n h (u + 1) 0 V is :=
 ⟨c.v, fun x hx h1 h2 => by
  by_cases e : x < u
  ·exact c.c x e h1 h2
  ·obtain rfl : x = u := by omega
   exact c.cu (by rw [List.take_length]; exact h1) h2, fun hx => by simp at hx, c.i⟩
theorem Q1.hd (c : Q1 nx n h n 0 V is) : is = true ↔ Hd nx n h := by
 rw [c.i]
 constructor
 ·rintro ⟨x, hx⟩; obtain ⟨h1, h2, h3⟩ := c.v x hx; exact ⟨x, h1, h2, h3⟩
 ·rintro ⟨x, h1, h2, h3⟩; exact ⟨x, c.c x h1 h2 h3⟩
structure Q2 (nx : Nat → List Nat) (n h f u k : Nat) (V : Nat → Bool) (more : Bool) : Prop where
 v : ∀ x, V x = true → Lp nx n h x
 hh : V h = true
 lat : ∀ x, x < n → h ∈ nx x → Dom nx h x → V x = true
 c : more = false → ∀ x, x < u → ∀ y ∈ nx x, V y = true → y ≠ h → V x = true
 cu : more = false → ∀ y ∈ (nx u).take k, V y = true → y ≠ h → V u = true
 fr : free n V ≤ f
 m : more = true → free n V < f
variable {f : Nat} {more : Bool}
theorem Q2.skip (c : Q2 nx n h f u k V more) (hy : (nx u)[k]? = some y) (hn : V y = true → y ≠ h → V u = true) : Q2 nx n h f u (k + 1) V more :=
 ⟨c.v, c.hh, c.lat, c.c, fun hm z hz h1 h2 => by
  rw [List.take_add_one, hy] at hz
  rcases List.mem_append.1 hz with hz | hz
  ·exact c.cu hm z hz h1 h2
  ·simp at hz; subst hz; exact hn h1 h2, c.fr, c.m⟩
theorem Q2.add (c : Q2 nx n h f u k V more) (hu : u < n) (hy : (nx u)[k]? = some y) (h1 : V y = true) (h2 : y ≠ h) (h3 : V u = false) : Q2 nx n h f u (k + 1) (mark V u) true := by
 have hfr := free_mark hu h3
 have hf := c.fr
 refine ⟨fun x hx => ?_, mark_iff.2 (Or.inr c.hh), fun x a b d => mark_iff.2 (Or.inr (c.lat x a b d)), fun hm => ?_, fun hm => ?_, by omega, fun _ => by omega⟩
 ·rcases mark_iff.1 hx with rfl | hx
  ·exact Lp.back (c.v y h1) h2 hu (List.mem_of_getElem? hy)
  ·exact c.v x hx
 ·cases hm
 ·cases hm
theorem Q2.next (c : Q2 nx n h f u (nx u).length V more) : Q2 nx n h f (u + 1) 0 V more :=
 ⟨c.v, c.hh, c.lat, fun hm x hx y hy h1 h2 => by
  by_cases e : x < u
  ·exact c.c hm x e y hy h1 h2
  ·obtain rfl : x = u := by omega
   exact c.cu hm y (by rw [List.take_length]; exact hy) h1 h2, fun _ y hy => by simp at hy, c.fr, c.m⟩
theorem Q2.done (c : Q2 nx n h f n 0 V false) : ∀ x, V x = true ↔ Lp nx n h x := fun x =>
 ⟨c.v x, Lp.sub (V := fun x => V x = true) c.hh c.lat (fun v hv hne u hu he => c.c rfl u hu v he hv hne) x⟩
end
end Go.Fl
namespace Go.Proofs.Ytndnfjcfpcfakaa
open Go Go.RowKit Go.Wr Go.Fl
set_option maxHeartbeats 4000000
set_option maxRecDepth 100000
structure Ov (w : World) (n gV : Nat) (V : Nat → Bool) (wr : World) : Prop where
 ov : OwR tB w.heap.size wr (.slice (some ⟨gV, 0, none⟩) n n) ((List.range n).map V)
 bl : Below w.heap.size w wr
theorem Ov.below {w wr w' : World} {n gV : Nat} {V : Nat → Bool} (h : Ov w n gV V wr) (b : Below wr.heap.size wr w') : Ov w n gV V w' := ⟨h.ov.below b, bThen h.bl b⟩
theorem Ov.mark {w wr : World} {n gV : Nat} {V : Nat → Bool} (h : Ov w n gV V wr) {i : Nat} (hi : i < n) : Ov w n gV (Fl.mark V i) (wr.setCell ⟨gV, i, none⟩ (.bool true)) := by
 obtain ⟨hB, C, hg⟩ := h.ov.blk (g := gV) rfl
 exact ⟨OwB.mark h.ov hi, h.bl.setCell hB _⟩
theorem FwR.row {q n : Nat} {nx : Nat → List Nat} {bb : Option Addr} {cap : Nat} {bs : List Bk} {w : World} (h : FwR q n nx (.slice bb n cap) bs w) {u : Nat} (hu : u < n) :
  ∃ b o an cn, bb = some ⟨b, o, none⟩ ∧ w.cell? ⟨b, o + u * 3 + 2, none⟩ = some (.slice an (nx u).length cn) ∧ (nx u).length ≤ cn ∧ cn ≤ maxLen ∧ SlX tI q w (.slice an (nx u).length cn) (nI (nx u)) ∧ b < w.heap.size := by
 obtain ⟨kb, hkb⟩ : ∃ kb, bs[u]? = some kb := ⟨_, List.getElem?_eq_getElem (by rw [h.ln]; exact hu)⟩
 obtain ⟨b, o, e, _, hat⟩ := h.sb.get hkb
 obtain ⟨_, _, c2⟩ := at_bk hat
 have e3 : tK.n = 3 := rfl
 rw [e3] at c2
 have hnx := h.nb u kb hkb
 obtain ⟨an, cn, en, hn1, hn2⟩ := hnx.form
 rw [nI_len] at en hn1
 rw [en] at c2 hnx
 exact ⟨b, o, an, cn, e, c2, hn1, hn2, hnx, hat.1⟩
end Go.Proofs.Ytndnfjcfpcfakaa
namespace Go.Proofs.Ytndnfjcfpcfakaa
open Go Go.RowKit Go.Wr Go.Fl
set_option maxHeartbeats 4000000
set_option maxRecDepth 100000
structure Nr (w : World) (q n : Nat) (l : List In) (vb vd vo : Value) (E : List Lq) (pa : Nat → Int) (vl : Value) (wr : World) : Prop where
 ex : Ex q w wr
 pb : Blk wr q 76 #[vb, vd, vl, sn, vo]
 la : OwR tA w.heap.size wr vl (arL E pa)
 el : ∀ e ∈ E, OwR tI w.heap.size wr e.bl.v (nI (ins (lpB l e.hd) n))
section
variable {w wr w' : World} {q n : Nat} {l : List In} {vb vd vo vl v' : Value} {E : List Lq} {pa pa' : Nat → Int}
theorem Nr.below (h : Nr w q n l vb vd vo E pa vl wr) (b : Below wr.heap.size wr w') : Nr w q n l vb vd vo E pa vl w' :=
 ⟨h.ex.trans (Ex.of_below b), h.pb.below b h.pb.lt, h.la.below b, fun e he => (h.el e he).below b⟩
theorem Nr.put (h : Nr w q n l vb vd vo E pa vl wr) {e : Lq} (he : OwR tI w.heap.size wr e.bl.v (nI (ins (lpB l e.hd) n))) (ho : OwR tA w.heap.size w' v' (arL (E ++ [e]) pa)) (hg : wr.grownBy w' vl.ownBlock) : Nr w q n l vb vd vo (E ++ [e]) pa v' (w'.setCell ⟨q, 2, none⟩ v') := by
 have hpb : Blk w' q 76 #[vb, vd, vl, sn, vo] := h.pb.of_block (hg.block q h.pb.lt (fun e => h.la.ne h.pb (by decide) e.symm))
 have hel : ∀ x ∈ E ++ [e], OwR tI w.heap.size w' x.bl.v (nI (ins (lpB l x.hd) n)) := fun x hx => by
  have h0 : OwR tI w.heap.size wr x.bl.v (nI (ins (lpB l x.hd) n)) := by
   rcases List.mem_append.1 hx with hx | hx
   ·exact h.el x hx
   ·simp at hx; subst hx; exact he
  exact h0.keep fun g e => by
   obtain ⟨_, C, hb⟩ := h0.blk e
   exact hg.block g hb.lt (fun e => h.la.ne hb (by decide) e.symm)
 exact ⟨(h.ex.grown hg fun g e => (h.la.blk e).1).set 2 v', (hpb.set 2 v').eq rfl, ho.set_other (ho.ne hpb (by decide)), fun x hx => (hel x hx).set_other ((hel x hx).ne hpb (by decide))⟩
theorem Nr.par {g m c : Nat} (h : Nr w q n l vb vd vo E pa (.slice (some ⟨g, 0, none⟩) m c) wr) {i : Nat} {e : Lq} (hi : E[i]? = some e) (hp : ∀ x, x ≠ i → pa' x = pa x) (z : Int) (hz : z = pa' i) :
  Nr w q n l vb vd vo E pa' (.slice (some ⟨g, 0, none⟩) m c) (wr.setCell ⟨g, i * 3 + 2, none⟩ (.int .i64 z)) := by
 subst hz
 obtain ⟨hB, C, hg⟩ := h.la.blk (g := g) rfl
 have hs := h.la.set (k := i) (j := 2) (x := ⟨(e.hd : Int), e.bl, pa i⟩) (y := ⟨(e.hd : Int), e.bl, pa' i⟩) (v := .int .i64 (pa' i)) (arL_get hi) (by decide) rfl
 rw [arL_set hi hp] at hs
 exact ⟨h.ex.set_new _ _ hB, h.pb.set_other g _ _ (blk_ne h.pb hg (by decide)), hs, fun x hx => (h.el x hx).set_other ((h.el x hx).ne hg (by decide))⟩
end
end Go.Proofs.Ytndnfjcfpcfakaa
namespace Go.Proofs.Ytndnfjcfpcfakaa
open Go Go.RowKit Go.Wr Go.Fl
set_option maxHeartbeats 4000000
set_option maxRecDepth 100000
structure Rk (w0 : World) (n gV : Nat) (V : Nat → Bool) (v : Value) (left : List Nat) (w : World) : Prop where
 ov : OwR tB w0.heap.size w (.slice (some ⟨gV, 0, none⟩) n n) ((List.range n).map V)
 ol : OwR tI w0.heap.size w v (nI left)
 bl : Below w0.heap.size w0 w
theorem Rk.below {w0 w w' : World} {n gV : Nat} {V : Nat → Bool} {v : Value} {left : List Nat} (h : Rk w0 n gV V v left w) (b : Below w.heap.size w w') : Rk w0 n gV V v left w' := ⟨h.ov.below b, h.ol.below b, bThen h.bl b⟩
theorem Rk.mark {w0 w : World} {n gV : Nat} {V : Nat → Bool} {v : Value} {left : List Nat} (h : Rk w0 n gV V v left w) {i : Nat} (hi : i < n) : Rk w0 n gV (Fl.mark V i) v left (w.setCell ⟨gV, i, none⟩ (.bool true)) := by
 obtain ⟨hB, C, hg⟩ := h.ov.blk (g := gV) rfl
 exact ⟨OwB.mark h.ov hi, h.ol.set_other (h.ol.ne hg (by decide)), h.bl.setCell hB _⟩
end Go.Proofs.Ytndnfjcfpcfakaa
namespace Go.Proofs.Ytndnfjcfpcfakaa
open Go Go.RowKit Go.Wr Go.Fl
set_option maxHeartbeats 4000000
set_option maxRecDepth 100000
structure RFin (l : List In) (q : Nat) (vb vd vl vr vo : Value) (bs : List Bk) (rows : List Sv) (E : List Lq) (w : World) : Prop where
 blk : Blk w q 76 #[vb, vd, vl, vr, vo]
 rw : Rw2 q l vb vo bs w
 dt : Dt q (nB l) (nxt l) vd rows w
 la : SlX tA q w vl (arL E fun i => parK l i (heads l).length)
 el : ∀ e ∈ E, SlX tI q w e.bl.v (nI (ins (lpB l e.hd) (nB l)))
 hd : E.map (·.hd) = heads l
 ro : SlX tI q w vr (nI (dfsL (nxt l)).reverse)
theorem RFin.below {l : List In} {q : Nat} {vb vd vl vr vo : Value} {bs : List Bk} {rows : List Sv} {E : List Lq} {w w' : World} (h : RFin l q vb vd vl vr vo bs rows E w) (b : Below w.heap.size w w') : RFin l q vb vd vl vr vo bs rows E w' :=
 ⟨h.blk.below b h.blk.lt, h.rw.ex (Ex.of_below b), h.dt.below h.blk.lt b, h.la.below b, fun e he => (h.el e he).below b, h.hd, h.ro.below b⟩
def RMakeP (l : List In) (w : World) (e : Ending) (w' : World) : Prop :=
 Below w.heap.size w w' ∧ ((e = .returned (.tuple #[.pointer none, .int .i64 (mkE l).1, .int .i64 (mkE l).2]) ∧ (mkE l).2 ≠ 0) ∨
  (G7 l ∧ ∃ q vb vd vl vr vo bs rows E, e = .returned (.tuple #[.pointer (some ⟨q, 0, none⟩), .int .i64 0, .int .i64 0]) ∧ w.heap.size ≤ q ∧ RFin l q vb vd vl vr vo bs rows E w'))
theorem RMakeP.no {l : List In} {w w' : World} {at' : Nat} {c : Int} (h : mkE l = (at', c)) (hc : c ≠ 0) (hb : Below w.heap.size w w') (x y : Int) (hx : x = (at' : Int)) (hy : y = c) : RMakeP l w (.returned (.tuple #[.pointer none, .int .i64 x, .int .i64 y])) w' := by
 subst hx hy
 exact ⟨hb, Or.inl ⟨by rw [h], by rw [h]; exact hc⟩⟩
structure Dk (w : World) (q n : Nat) (nx : Nat → List Nat) (vb vo vd : Value) (rows : List Sv) (wr : World) : Prop where
 ex : Ex q w wr
 pb : Blk wr q 76 #[vb, vd, sn, sn, vo]
 od : OwR tBB w.heap.size wr vd rows
 rs : ∀ (i : Nat) (s : Sv), rows[i]? = some s → OwR tB w.heap.size wr s.v ((List.range n).map fun (u : Nat) => domB nx n (i : Int) (u : Int))
theorem Dk.below {w wr w' : World} {q n : Nat} {nx : Nat → List Nat} {vb vo vd : Value} {rows : List Sv} (h : Dk w q n nx vb vo vd rows wr) (b : Below wr.heap.size wr w') : Dk w q n nx vb vo vd rows w' :=
 ⟨h.ex.trans (Ex.of_below b), h.pb.below b h.pb.lt, h.od.below b, fun i s hs => (h.rs i s hs).below b⟩
theorem Dk.put {w wr w' : World} {q n : Nat} {nx : Nat → List Nat} {vb vo vd v' : Value} {rows : List Sv} (h : Dk w q n nx vb vo vd rows wr) {s : Sv} (hs : OwR tB w.heap.size wr s.v ((List.range n).map fun (u : Nat) => domB nx n (rows.length : Int) (u : Int))) (ho : OwR tBB w.heap.size w' v' (rows ++ [s])) (hg : wr.grownBy w' vd.ownBlock) : Dk w q n nx vb vo v' (rows ++ [s]) (w'.setCell ⟨q, 1, none⟩ v') := by
 have hpb : Blk w' q 76 #[vb, vd, sn, sn, vo] := h.pb.of_block (hg.block q h.pb.lt (fun e => h.od.ne h.pb (by decide) e.symm))
 refine ⟨(h.ex.grown hg fun g e => (h.od.blk e).1).set 1 v', (hpb.set 1 v').eq rfl, ho.set_other (ho.ne hpb (by decide)), fun i x hx => ?_⟩
 have h0 : OwR tB w.heap.size wr x.v ((List.range n).map fun (u : Nat) => domB nx n (i : Int) (u : Int)) := by
  by_cases hi : i < rows.length
  ·rw [List.getElem?_append_left hi] at hx
   exact h.rs i x hx
  ·have hi2 : i < (rows ++ [s]).length := (List.getElem?_eq_some_iff.1 hx).1
   have e : i = rows.length := by simp at hi2; omega
   subst e
   rw [List.getElem?_append_right (Nat.le_refl _), Nat.sub_self] at hx
   simp at hx
   subst hx
   exact hs
 have h1 : OwR tB w.heap.size w' x.v ((List.range n).map fun (u : Nat) => domB nx n (i : Int) (u : Int)) := h0.keep fun g e => by
  obtain ⟨_, C, hb⟩ := h0.blk e
  exact hg.block g hb.lt (fun e => h.od.ne hb (by decide) e.symm)
 exact h1.set_other (h1.ne hpb (by decide))
end Go.Proofs.Ytndnfjcfpcfakaa
namespace Go.Proofs.Ytndnfjcfpcfakaa
open Go Go.RowKit Go.Wr Go.Fl
set_option maxHeartbeats 4000000
set_option maxRecDepth 100000
theorem Rw2.from {q : Nat} {l : List In} {bb off cb : Nat} {vo : Value} {bs : List Bk} {w : World} (h : Rw2 q l (.slice (some ⟨bb, off, none⟩) (nB l) cb) vo bs w) {b : Nat} (hb : b < nB l) : w.cell? ⟨bb, off + b * 3, none⟩ = some (.int .i64 (frF l b : Int)) := by
 obtain ⟨k, hk⟩ : ∃ k, bs[b]? = some k := ⟨_, List.getElem?_eq_getElem (by rw [h.lb]; exact hb)⟩
 obtain ⟨b', o', e, _, hat⟩ := h.sb.get hk
 injection e with e
 injection e with e1 e2
 subst e1 e2
 have := (at_bk hat).1
 rw [(h.nb b k hk).1] at this
 exact this
structure Oo (WX : World) (q : Nat) (vb vd vl vo vr : Value) (R : List Nat) (wr : World) : Prop where
 ex : Ex q WX wr
 pb : Blk wr q 76 #[vb, vd, vl, vr, vo]
 od : OwR tI WX.heap.size wr vr (nI R)
theorem Oo.below {WX wr w' : World} {q : Nat} {vb vd vl vo vr : Value} {R : List Nat} (h : Oo WX q vb vd vl vo vr R wr) (b : Below wr.heap.size wr w') : Oo WX q vb vd vl vo vr R w' :=
 ⟨h.ex.trans (Ex.of_below b), h.pb.below b h.pb.lt, h.od.below b⟩
theorem Oo.put {WX wr w' : World} {q : Nat} {vb vd vl vo vr v' : Value} {R : List Nat} {x : Nat} (h : Oo WX q vb vd vl vo vr R wr) (ho : OwR tI WX.heap.size w' v' (nI (R ++ [x]))) (hg : wr.grownBy w' vr.ownBlock) : Oo WX q vb vd vl vo v' (R ++ [x]) (w'.setCell ⟨q, 3, none⟩ v') := by
 have hpb : Blk w' q 76 #[vb, vd, vl, vr, vo] := h.pb.of_block (hg.block q h.pb.lt (fun e => h.od.ne h.pb (by decide) e.symm))
 exact ⟨(h.ex.grown hg fun g e => (h.od.blk e).1).set 3 v', (hpb.set 3 v').eq rfl, ho.set_other (ho.ne hpb (by decide))⟩
end Go.Proofs.Ytndnfjcfpcfakaa
namespace Go.Proofs.Ytndnfjcfpcfakaa
open Go Go.RowKit
theorem own : ownKnob Try.prog.godebug = none := by kernel_rfl
theorem laidOut : laidOutB Try.prog = true := by kernel_rfl
end Go.Proofs.Ytndnfjcfpcfakaa
namespace Go.Proofs.Ytndnfjcfpcfakaa
open Go Go.RowKit Go.Wr
open Go.ChangeShapes Go.WideShapes Go.ChangeAt Go.Deep
set_option maxHeartbeats 1000000
set_option maxRecDepth 100000
def I64 (n : Int) : Prop := -9223372036854775808 ≤ n ∧ n ≤ 9223372036854775807
theorem i64_of_wf {n : Int} (h : (Lit.int .i64 n).wf = true) : I64 n := by
 simp [Lit.wf, IntKind.min, IntKind.max, IntKind.signed, IntKind.bits] at h
 exact h
theorem addr_lit {a : Addr} (h : a.spot = none) : a = ⟨a.block, a.off, none⟩ := by cases a; simp_all
def ArgN (kd : IntKind) (w : World) (v : Value) (l : List Int) : Prop :=
 (∃ a0 cap, v = .slice a0 l.length cap ∧ (a0 = none → l = [] ∧ cap = 0) ∧ ∀ a, a0 = some a → ∀ (j : Nat) (u : Value), (l.map (Value.int kd))[j]? = some u → w.cell? (a.add j) = some u) ∧ l.length ≤ 140737488351232
theorem ArgN.below {kd : IntKind} {w w' : World} {v : Value} {l : List Int} (h : ArgN kd w v l) (hb : Below w.heap.size w w') : ArgN kd w' v l := by
 obtain ⟨⟨a0, cap, hv, hn, hc⟩, hl⟩ := h
 refine ⟨⟨a0, cap, hv, hn, fun a ha j u hu => ?_⟩, hl⟩
 have h0 := hc a ha j u hu
 exact (hb.cell (World.block_lt_of_cell? w _ h0)).trans h0
section
variable {H : Type} {enc : TypeId × Value → H} {w : World} {base : Nat} {held : Bool}
end
end Go.Proofs.Ytndnfjcfpcfakaa
namespace Go.Proofs.Ytndnfjcfpcfakaa
open Go Go.RowKit Go.Wr Go.Fl
open Go.ChangeShapes Go.WideShapes Go.ChangeAt Go.Deep
set_option maxHeartbeats 2000000
set_option maxRecDepth 100000
instance : Inhabited In := ⟨⟨0, false, false, 0, 0, 0, 0, 0⟩⟩
section
variable {H : Type} {enc : TypeId × Value → H} {w : World} {base : Nat} {held : Bool}
theorem cells_range {base : Nat} {a : Addr} {n : Nat} {cs : List Value} (h : w.cells? base a n = some cs) (hs : a.spot = none) : ∀ j v, cs[j]? = some v → w.cell? ⟨a.block, a.off + j, none⟩ = some v := by
 obtain ⟨h1, h2, h3⟩ := World.cells?_some h
 intro j v hj
 have hjl : j < n := by
  have := (List.getElem?_eq_some_iff.1 hj).1
  omega
 have := h3 j hjl
 rw [addr_lit hs, Addr.add_lit] at this
 rw [this]
 exact hj
end
end Go.Proofs.Ytndnfjcfpcfakaa
namespace Go.Proofs.Ytndnfjcfpcfakaa
open Go Go.RowKit Go.Wr Go.Fl
set_option maxHeartbeats 4000000
set_option maxRecDepth 100000
def TakenP (l : List In) (w : World) (e : Ending) (w' : World) : Prop :=
 Below w.heap.size w w' ∧ (e = .returned (.tuple #[.pointer none, .bool true]) ∨
  (G7 l ∧ ∃ p ab cb b4 o4 b5 o5 c4 c5 va vo vr vl bs ss E d, e = .returned (.tuple #[.pointer (some ⟨p, 0, none⟩), .bool true]) ∧ w.heap.size ≤ p ∧ Fin l p ab cb b4 o4 b5 o5 c4 c5 va vo vr vl bs ss E d w'))
end Go.Proofs.Ytndnfjcfpcfakaa
namespace Go.Proofs.Ytndnfjcfpcfakaa
open Go Go.RowKit Go.Wr Go.Fl
set_option maxHeartbeats 4000000
set_option maxRecDepth 100000
def dB (l : List In) : List (Int × Int × List Int) := (List.range (nB l)).map fun i => ((frF l i : Int), (twF l i : Int), nI (nxt l i))
noncomputable def dL (l : List In) : List (Int × Int × List Int) := (List.range (heads l).length).map fun i => ((((heads l).getD i 0 : Nat) : Int), parK l i (heads l).length, nI (ins (lpB l ((heads l).getD i 0)) (nB l)))
theorem dB_len (l : List In) : (dB l).length = nB l := by simp [dB]
theorem dL_len (l : List In) : (dL l).length = (heads l).length := by simp [dL]
theorem dB_get {l : List In} {i : Nat} (h : i < nB l) : (dB l)[i]? = some ((frF l i : Int), (twF l i : Int), nI (nxt l i)) := by
 unfold dB; rw [List.getElem?_map, List.getElem?_range h]; rfl
theorem dL_get {l : List In} {i : Nat} (h : i < (heads l).length) : (dL l)[i]? = some ((((heads l).getD i 0 : Nat) : Int), parK l i (heads l).length, nI (ins (lpB l ((heads l).getD i 0)) (nB l))) := by
 unfold dL; rw [List.getElem?_map, List.getElem?_range h]; rfl
def FinP (l : List In) (p : Nat) (w : World) : Prop := G7 l ∧ ∃ ab cb b4 o4 b5 o5 c4 c5 va vo vr vl bs ss E d, Fin l p ab cb b4 o4 b5 o5 c4 c5 va vo vr vl bs ss E d w
theorem FinP.below {l : List In} {p : Nat} {w w' : World} (h : FinP l p w) (b : Below w.heap.size w w') : FinP l p w' := by
 obtain ⟨g, ab, cb, b4, o4, b5, o5, c4, c5, va, vo, vr, vl, bs, ss, E, d, h⟩ := h
 exact ⟨g, ab, cb, b4, o4, b5, o5, c4, c5, va, vo, vr, vl, bs, ss, E, d, h.below b⟩
theorem FinP.old {l : List In} {p g : Nat} {w w' : World} (h : FinP l p w) (hg : g < p) (x : Ex g w w') : FinP l p w' := by
 obtain ⟨gg, ab, cb, b4, o4, b5, o5, c4, c5, va, vo, vr, vl, bs, ss, E, d, h⟩ := h
 exact ⟨gg, ab, cb, b4, o4, b5, o5, c4, c5, va, vo, vr, vl, bs, ss, E, d, h.old hg x⟩
theorem FinP.lt {l : List In} {p : Nat} {w : World} (h : FinP l p w) : p < w.heap.size := by
 obtain ⟨g, ab, cb, b4, o4, b5, o5, c4, c5, va, vo, vr, vl, bs, ss, E, d, h⟩ := h
 exact h.blk.lt
theorem TakenP.two {l : List In} {w w' : World} {e : Ending} (h : TakenP l w e w') : Below w.heap.size w w' ∧ (e = .returned (.tuple #[.pointer none, .bool true]) ∨ ∃ p, e = .returned (.tuple #[.pointer (some ⟨p, 0, none⟩), .bool true]) ∧ w.heap.size ≤ p ∧ FinP l p w') := by
 obtain ⟨b, h | ⟨g, p, ab, cb, b4, o4, b5, o5, c4, c5, va, vo, vr, vl, bs, ss, E, d, e, hp, h⟩⟩ := h
 ·exact ⟨b, Or.inl h⟩
 ·exact ⟨b, Or.inr ⟨p, e, hp, g, ab, cb, b4, o4, b5, o5, c4, c5, va, vo, vr, vl, bs, ss, E, d, h⟩⟩
theorem FinP.blocks {l : List In} {p : Nat} {w : World} (h : FinP l p w) : Calls Try.prog 57 #[.pointer (some ⟨p, 0, none⟩)] w fun e w' => Below w.heap.size w w' ∧ ∃ v, e = .returned v ∧ Bd p w' v (dB l) := by
 obtain ⟨g, ab, cb, b4, o4, b5, o5, c4, c5, va, vo, vr, vl, bs, ss, E, d, h⟩ := h
 refine (blocks_ok w p l _ va vo bs ss h.fw (h.blk.cell 0) g.pos (by have := g.n512; omega)).mono ?_
 rintro e w' ⟨b, v, rs, rfl, ho, hl, hr⟩
 refine ⟨b, v, rfl, rs, ho.sl (ne_low ho h.blk.lt), by rw [hl, dB_len], fun i k d hk hd => ?_⟩
 have hi : i < nB l := by rw [← hl]; exact (List.getElem?_eq_some_iff.1 hk).1
 rw [dB_get hi] at hd
 cases hd
 obtain ⟨h1, h2, h3⟩ := hr i k hk
 exact ⟨h1, h2, h3.sl (ne_low h3 h.blk.lt)⟩
theorem FinP.loops {l : List In} {p : Nat} {w : World} (h : FinP l p w) : Calls Try.prog 58 #[.pointer (some ⟨p, 0, none⟩)] w fun e w' => Below w.heap.size w w' ∧ ∃ v, e = .returned v ∧ Ld p w' v (dL l) := by
 obtain ⟨g, ab, cb, b4, o4, b5, o5, c4, c5, va, vo, vr, vl, bs, ss, E, d, h⟩ := h
 have hE : E.length = (heads l).length := by rw [← h.hd, List.length_map]
 have hhd : ∀ i e, E[i]? = some e → (heads l).getD i 0 = e.hd := fun i e he => by
  rw [← h.hd, List.getD_eq_getElem?_getD, List.getElem?_map, he]; rfl
 have hrow : arL E (fun i => parK l i (heads l).length) = arI (heads l).length (fun i => (((heads l).getD i 0 : Nat) : Int)) (fun i => parK l i (heads l).length) (fun i => ((E[i]?).map (·.bl)).getD ⟨none, 0, 0⟩) := by
  apply List.ext_getElem?
  intro i
  by_cases hi : i < (heads l).length
  ·obtain ⟨e, he⟩ : ∃ e, E[i]? = some e := ⟨_, List.getElem?_eq_getElem (by rw [hE]; exact hi)⟩
   rw [arL_get he]
   unfold arI
   rw [List.getElem?_map, List.getElem?_range hi]
   simp only [Option.map_some]
   rw [hhd i e he, he]
   rfl
  ·rw [List.getElem?_eq_none (by rw [arL_len, hE]; omega), List.getElem?_eq_none (by simp [arI]; omega)]
 have hla := h.la
 rw [hrow] at hla
 refine (loops_ok w p (heads l).length _ _ (fun i => nI (ins (lpB l ((heads l).getD i 0)) (nB l))) _ vl (h.blk.cell 6) hla (fun i hi => ?_) (fun i hi => ?_) (by have := g.hd8; omega)).mono ?_
 ·obtain ⟨e, he⟩ : ∃ e, E[i]? = some e := ⟨_, List.getElem?_eq_getElem (by rw [hE]; exact hi)⟩
  simp only [he, Option.map_some, Option.getD_some]
  rw [hhd i e he]
  exact h.el e (List.mem_of_getElem? he)
 ·rw [nI_len]
  unfold ins
  refine Nat.le_trans (List.length_filter_le _ _) ?_
  rw [List.length_range]
  have := g.n512
  omega
 ·rintro e w' ⟨b, v, row', rfl, ho, hr⟩
  refine ⟨b, v, rfl, _, ho.sl (ne_low ho h.blk.lt), by rw [dL_len]; simp [arI], fun i k d hk hd => ?_⟩
  have hi : i < (heads l).length := by rw [← dL_len]; exact (List.getElem?_eq_some_iff.1 hd).1
  rw [dL_get hi] at hd
  cases hd
  unfold arI at hk
  rw [List.getElem?_map, List.getElem?_range hi] at hk
  cases hk
  exact ⟨rfl, rfl, (hr i hi).sl (ne_low (hr i hi) h.blk.lt)⟩
theorem FinP.order {l : List In} {p : Nat} {w : World} (h : FinP l p w) : Calls Try.prog 59 #[.pointer (some ⟨p, 0, none⟩)] w fun e w' => Below w.heap.size w w' ∧ ∃ v, e = .returned v ∧ SlX tI p w' v (nI (dfsL (nxt l)).reverse) := by
 obtain ⟨g, ab, cb, b4, o4, b5, o5, c4, c5, va, vo, vr, vl, bs, ss, E, d, h⟩ := h
 refine (order_ok w p p vr _ (h.blk.cell 3) h.ro (by rw [nI_len, List.length_reverse, g.len]; have := g.n512; omega)).mono ?_
 rintro e w' ⟨b, v, rfl, ho⟩
 exact ⟨b, v, rfl, ho.sl (ne_low ho h.blk.lt)⟩
theorem FinP.dom {l : List In} {p : Nat} {w : World} (h : FinP l p w) (a b : Int) : Calls Try.prog 81 #[.pointer (some ⟨p, 0, none⟩), .int .i64 a, .int .i64 b] w fun e w' => e = .returned (.bool (domB (nxt l) (nB l) a b)) ∧ ∃ k, w' = w.drewN k := by
 obtain ⟨g, ab, cb, b4, o4, b5, o5, c4, c5, va, vo, vr, vl, bs, ss, E, d, h⟩ := h
 exact dominates_ok w p (nB l) _ _ d _ h.nd.gr h.nd.id b4 o4 b5 o5 c4 c5 (h.nd.pd h.blk) ab cb (h.blk.cell 0) a b
end Go.Proofs.Ytndnfjcfpcfakaa
namespace Go.Wr
open Go Go.RowKit
section
variable {P : Program} {α : Type} {R : RT P α}
theorem RT.cs_drop (R : RT P α) (l : List α) (k : Nat) : (R.cs l).drop (k * R.n) = R.cs (l.drop k) := by
 induction l generalizing k with
 | nil => simp [RT.cs]
 | cons x l ih =>
  cases k with
  | zero => simp
  | succ k =>
   rw [R.cs_cons, List.drop_succ_cons, List.drop_append, R.len, List.drop_of_length_le (by rw [R.len, Nat.succ_mul]; omega)]
   have e : (k + 1) * R.n - R.n = k * R.n := by rw [Nat.succ_mul]; omega
   rw [e, ih]
   rfl
theorem OwR.el {B g n c : Nat} {w : World} {l : List α} (h : OwR R B w (.slice (some ⟨g, 0, none⟩) n c) l) : ∃ cur rest, Blk w g R.T cur ∧ B ≤ g ∧ n = l.length ∧ l.length ≤ c ∧ c ≤ maxLen ∧ cur.size = c * R.n ∧ cur.toList = R.cs l ++ rest := by
 obtain ⟨_, h2⟩ := h
 rcases h2 with ⟨e, _⟩ | ⟨g', cap', cur, e, hB, hb, h3, h4, hsz, ht⟩
 ·cases e
 ·injection e with e1 e2 e3
  injection e1 with e1
  injection e1 with e1
  subst e1 e3
  refine ⟨cur, cur.toList.drop (l.length * R.n), hb, hB, e2, h3, h4, hsz, ?_⟩
  rw [← ht, List.take_append_drop]
theorem OwR.le {B g c : Nat} {w : World} {l : List α} {cur : Array Value} {rest : List Value} (hb : Blk w g R.T cur) (hB : B ≤ g) (h1 : l.length ≤ c) (h2 : c ≤ maxLen) (hs : cur.size = c * R.n) (e : cur.toList = R.cs l ++ rest) : OwR R B w (.slice (some ⟨g, 0, none⟩) l.length c) l := by
 refine ⟨by rw [R.cs_len], Or.inr ⟨g, c, cur, rfl, hB, hb, h1, h2, hs, ?_⟩⟩
 rw [e, ← R.cs_len l, List.take_append_of_le_length (Nat.le_refl _), List.take_length]
theorem OwR.putRow {B g n c : Nat} {w : World} {l : List α} (h0 : OwR R B w (.slice (some ⟨g, 0, none⟩) n c) l) (k : Nat) (hk : k < l.length) (z : α) (hr : RowTy P R.T R.n) :
  ∃ w', (Instr.storeAt R.T (.pointer (some ⟨g, k * R.n, none⟩)) (.agg (R.f z).toArray)).run P w = .ok () w' ∧ Only g w w' ∧ OwR R B w' (.slice (some ⟨g, 0, none⟩) n c) (l.set k z) := by
 obtain ⟨cur, rs, hb, hB, hn, h1, h2, hsz, he⟩ := h0.el
 have hkc : k * R.n + R.n ≤ c * R.n := by rw [← Nat.succ_mul]; exact Nat.mul_le_mul_right _ (by omega)
 have hst := run_storeCells_at P g (k * R.n) R.T (R.f z) 0 cur w hb (by rw [R.len, hsz]; omega) (R.one z)
 have hrun : (Instr.storeAt R.T (.pointer (some ⟨g, k * R.n, none⟩)) (.agg (R.f z).toArray)).run P w = .ok () (w.setRow g (spl cur (k * R.n) (R.f z).toArray)) := by
  obtain ⟨d, hu, hd, hi⟩ := hr
  cases hq : P.info? R.T with
  | none => simp [hq] at hi
  | some i =>
   have hs : i.size = R.n := by simp [hq] at hi; exact hi
   simp only [Nat.add_zero] at hst
   simp [Instr.storeAt, Instr.sureAddr, storeVar, sizeOf, typeInfo, hq, Value.cells, hs, R.len, hst, spl]
 refine ⟨_, hrun, Only.setRow w g _, ?_⟩
 have hb' : Blk (w.setRow g (spl cur (k * R.n) (R.f z).toArray)) g R.T (spl cur (k * R.n) (R.f z).toArray) := setRow_heap w g cur _ _ _ hb
 have e : (spl cur (k * R.n) (R.f z).toArray).toList = R.cs (l.set k z) ++ rs := by
  unfold spl
  have hl1 : k * R.n ≤ (R.cs l).length := by rw [R.cs_len]; exact Nat.mul_le_mul_right _ (by omega)
  have hl2 : k * R.n + R.n ≤ (R.cs l).length := by rw [R.cs_len, ← Nat.succ_mul]; exact Nat.mul_le_mul_right _ hk
  simp only [List.size_toArray, R.len]
  rw [he, List.take_append_of_le_length hl1, List.drop_append_of_le_length hl2, R.cs_take, ← Nat.succ_mul, R.cs_drop, List.set_eq_take_append_cons_drop, if_pos hk, R.cs_app, R.cs_cons]
  simp
 have hset : l.length = (l.set k z).length := by rw [List.length_set]
 rw [hn, hset]
 refine OwR.le hb' hB (by rw [← hset]; exact h1) h2 ?_ e
 have h3 := congrArg List.length e
 rw [Array.length_toList] at h3
 rw [h3, List.length_append, R.cs_len, ← hset, ← R.cs_len, ← List.length_append, ← he, Array.length_toList, hsz]
theorem Only.ex {g p : Nat} {a w w' : World} (h : Only g w w') (e : Ex p a w) (hg : a.heap.size ≤ g ∨ g = p) : Ex p a w' :=
 ⟨h.os.trans e.os, h.tape.trans e.tape, h.output.trans e.output, by rw [h.size]; exact e.size, fun k hk hp => (h.block k (by rcases hg with hg | hg <;> omega)).trans (e.block k hk hp)⟩
end
end Go.Wr
namespace Go.Proofs.Ytndnfjcfpcfakaa
open Go Go.RowKit Go.Wr Go.Fl
set_option maxHeartbeats 4000000
set_option maxRecDepth 100000
def z0 : In := ⟨0, false, false, 0, 0, 0, 0, 0⟩
end Go.Proofs.Ytndnfjcfpcfakaa
namespace Go.Proofs.Ytndnfjcfpcfakaa
open Go Go.RowKit Go.Wr Go.Fl
set_option maxHeartbeats 4000000
set_option maxRecDepth 100000
def RFinP (l : List In) (q : Nat) (w : World) : Prop := G7 l ∧ ∃ vb vd vl vr vo bs rows E, RFin l q vb vd vl vr vo bs rows E w
theorem RFinP.below {l : List In} {q : Nat} {w w' : World} (h : RFinP l q w) (b : Below w.heap.size w w') : RFinP l q w' := by
 obtain ⟨g, vb, vd, vl, vr, vo, bs, rows, E, h⟩ := h
 exact ⟨g, vb, vd, vl, vr, vo, bs, rows, E, h.below b⟩
theorem RFinP.get {l : List In} {q : Nat} {w : World} (h : RFinP l q w) : ∃ vb vd vl vr vo, Blk w q 76 #[vb, vd, vl, vr, vo] ∧ Bd q w vb (dB l) ∧ Ld q w vl (dL l) ∧ SlX tI q w vr (nI (dfsL (nxt l)).reverse) := by
 obtain ⟨g, vb, vd, vl, vr, vo, bs, rows, E, h⟩ := h
 refine ⟨vb, vd, vl, vr, vo, h.blk, ⟨bs, h.rw.sb, by rw [dB_len]; exact h.rw.lb, fun i k d hk hd => ?_⟩, ⟨_, h.la, ?_, fun i k d hk hd => ?_⟩, h.ro⟩
 ·have hi : i < nB l := by rw [← dB_len]; exact (List.getElem?_eq_some_iff.1 hd).1
  rw [dB_get hi] at hd
  cases hd
  exact h.rw.nb i k hk
 ·rw [arL_len, dL_len, ← h.hd, List.length_map]
 ·have hi : i < (heads l).length := by rw [← dL_len]; exact (List.getElem?_eq_some_iff.1 hd).1
  rw [dL_get hi] at hd
  cases hd
  have hE : i < E.length := by rw [← h.hd, List.length_map] at hi; exact hi
  obtain ⟨e, he⟩ : ∃ e, E[i]? = some e := ⟨_, List.getElem?_eq_getElem hE⟩
  rw [arL_get he] at hk
  cases hk
  have hh : (heads l).getD i 0 = e.hd := by
   rw [← h.hd, List.getD_eq_getElem?_getD, List.getElem?_map, he]; rfl
  rw [hh]
  exact ⟨rfl, rfl, h.el e (List.mem_of_getElem? he)⟩
end Go.Proofs.Ytndnfjcfpcfakaa
namespace Go.Proofs.Ytndnfjcfpcfakaa
open Go Go.RowKit Go.Wr Go.Fl
open Go.ChangeShapes Go.WideShapes Go.ChangeAt Go.Deep
set_option maxHeartbeats 2000000
set_option maxRecDepth 100000
theorem up_one {H : Type} (d : DataW H) : 1 ≤ Rows.uptoBulk d := by
 cases d with
 | lit l => cases l <;> simp [Rows.uptoBulk]
 | _ => simp [Rows.uptoBulk]
theorem up_len {H : Type} (l : List (DataW H)) : l.length ≤ Rows.uptoBulkAll l := by
 induction l with
 | nil => simp
 | cons x r ih => have := up_one x; simp only [Rows.uptoBulkAll, List.length_cons]; omega
theorem up_slice {H : Type} {enc : TypeId × Value → H} {w : World} {base : Nat} {held : Bool} {T E : TypeId} (hT : Try.prog.underlying T = some (.slice E)) {a0 : Option Addr} {len cap : Nat} {fuel : Nat} {x : DataW H × List MemPlace} (h : DataW.trod enc Try.prog w base (fun _ => true) held fuel T [.slice a0 len cap] = some x) (hz : Rows.uptoBulk x.1 ≤ 1048576) : len ≤ 1048576 := by
 rcases open_slice hT h with ⟨hcs, _⟩ | ⟨a, len', cap', m, n', D, Pl, hcs, _, _, _, _, hd, _⟩
 ·simp only [List.cons.injEq, Value.slice.injEq, and_true] at hcs
  omega
 ·simp only [List.cons.injEq, Value.slice.injEq, and_true] at hcs
  rw [hd] at hz
  simp only [Rows.uptoBulk] at hz
  have := up_len ((List.range len').map D)
  simp only [List.length_map, List.length_range] at this
  omega
end Go.Proofs.Ytndnfjcfpcfakaa
namespace Go.Ht
open Ieee
set_option maxRecDepth 100000
def inf : Nat := 9218868437227405312
theorem infRung_eq : double.infRung = inf := by decide
theorem binade_eq : double.binade = 2 ^ 52 := by decide
theorem sw_eq : double.signWeight = 2 ^ 63 := by decide
theorem lp_eq : double.leastPlace = -1074 := by decide
def re (V d : Nat) : Nat := V / 2 ^ d + (if 2 ^ d < 2 * (V % 2 ^ d) ∨ (2 ^ d = 2 * (V % 2 ^ d) ∧ V / 2 ^ d % 2 = 1) then 1 else 0)
theorem re_cut (s : Bool) (n d : Nat) : Toward.even.cut s n d = re n d := by
 have key : ∀ D : Nat, n / D + (decide (D < 2 * (n % D)) || (D == 2 * (n % D) && n / D % 2 == 1)).toNat = n / D + (if D < 2 * (n % D) ∨ (D = 2 * (n % D) ∧ n / D % 2 = 1) then 1 else 0) := by
  intro D
  congr 1
  by_cases h1 : D < 2 * (n % D)
  ·simp [h1]
  ·by_cases h2 : D = 2 * (n % D)
   ·by_cases h3 : n / D % 2 = 1
    ·rw [if_pos (Or.inr ⟨h2, h3⟩)]
     simp [h3, ← h2]
    ·rw [if_neg (fun k => k.elim h1 fun k => h3 k.2)]
     simp [h1, h3]
   ·rw [if_neg (fun k => k.elim h1 fun k => h2 k.1)]
    simp [h1, h2]
 unfold Toward.cut re
 simp only [Nat.one_shiftLeft]
 by_cases h : d ≤ n.log2 + 2
 ·rw [Nat.min_eq_left h]
  exact key _
 ·rw [Nat.min_eq_right (by omega)]
  have hn : n < 2 ^ (n.log2 + 1) := Nat.lt_log2_self
  have e1 : 2 ^ (n.log2 + 2) = 2 * 2 ^ (n.log2 + 1) := by rw [Nat.pow_succ, Nat.mul_comm]
  have e2 : 2 ^ (n.log2 + 2) ≤ 2 ^ d := Nat.pow_le_pow_right (by omega) (by omega)
  rw [key]
  have l1 : n < 2 ^ (n.log2 + 2) := by omega
  have l2 : n < 2 ^ d := by omega
  rw [Nat.div_eq_of_lt l1, Nat.div_eq_of_lt l2, Nat.mod_eq_of_lt l1, Nat.mod_eq_of_lt l2, if_neg (by omega), if_neg (by omega)]
theorem le_re (V d : Nat) : V / 2 ^ d ≤ re V d := Nat.le_add_right _ _
theorem re_le (V d : Nat) : re V d ≤ V / 2 ^ d + 1 := by unfold re; split <;> omega
theorem re_mono {V V' : Nat} (d : Nat) (h : V ≤ V') : re V d ≤ re V' d := by
 have hq : V / 2 ^ d ≤ V' / 2 ^ d := Nat.div_le_div_right h
 by_cases e : V / 2 ^ d = V' / 2 ^ d
 ·have a1 := Nat.div_add_mod V (2 ^ d)
  have a2 := Nat.div_add_mod V' (2 ^ d)
  rw [← e] at a2
  have hr : V % 2 ^ d ≤ V' % 2 ^ d := by omega
  unfold re
  rw [← e]
  generalize V % 2 ^ d = r at *
  generalize V' % 2 ^ d = r' at *
  generalize 2 ^ d = D at *
  split <;> split <;> omega
 ·have := re_le V d
  have := le_re V' d
  omega
theorem re_scale (V d a : Nat) : re (V * 2 ^ a) (d + a) = re V d := by
 have hp : 0 < 2 ^ a := Nat.two_pow_pos a
 unfold re
 rw [Nat.pow_add, Nat.mul_div_mul_right _ _ hp, Nat.mul_mod_mul_right]
 have h1 : (2 ^ d * 2 ^ a < 2 * (V % 2 ^ d * 2 ^ a)) ↔ 2 ^ d < 2 * (V % 2 ^ d) := by
  rw [← Nat.mul_assoc]
  exact Nat.mul_lt_mul_right hp
 have h2 : (2 ^ d * 2 ^ a = 2 * (V % 2 ^ d * 2 ^ a)) ↔ 2 ^ d = 2 * (V % 2 ^ d) := by
  rw [← Nat.mul_assoc]
  exact Nat.mul_right_cancel_iff hp
 simp only [h1, h2]
theorem re_exact (q d : Nat) : re (q * 2 ^ d) d = q := by
 have hp : 0 < 2 ^ d := Nat.two_pow_pos d
 unfold re
 rw [Nat.mul_div_cancel _ hp, Nat.mul_mod_left, if_neg (by omega)]
 rfl
theorem log2_mul (V a : Nat) (h : V ≠ 0) : (V * 2 ^ a).log2 = V.log2 + a := by
 have hp : 0 < 2 ^ a := Nat.two_pow_pos a
 have hne : V * 2 ^ a ≠ 0 := by
  intro e
  rcases Nat.mul_eq_zero.1 e with e | e <;> omega
 apply Nat.le_antisymm
 ·refine Nat.lt_succ_iff.1 ((Nat.log2_lt hne).2 ?_)
  rw [show (V.log2 + a).succ = (V.log2 + 1) + a by omega, Nat.pow_add]
  exact Nat.mul_lt_mul_of_pos_right Nat.lt_log2_self hp
 ·refine (Nat.le_log2 hne).2 ?_
  rw [Nat.pow_add]
  exact Nat.mul_le_mul_right _ (Nat.log2_self_le h)
theorem log2_mono {V V' : Nat} (h : V ≤ V') : V.log2 ≤ V'.log2 := by
 by_cases h0 : V = 0
 ·subst h0
  simp
 ·exact (Nat.le_log2 (by omega)).2 (Nat.le_trans (Nat.log2_self_le h0) h)
def rd (V k : Nat) : Nat := min ((V.log2 - (k + 52)) * 2 ^ 52 + re V (k + (V.log2 - (k + 52)))) inf
theorem rd_le (V k : Nat) : rd V k ≤ inf := Nat.min_le_right _ _
theorem rd_zero (k : Nat) : rd 0 k = 0 := by
 have : re 0 k = 0 := by have := re_exact 0 k; simpa using this
 simp [rd, this]
theorem rd_scale (V k a : Nat) : rd (V * 2 ^ a) (k + a) = rd V k := by
 by_cases h : V = 0
 ·subst h
  rw [Nat.zero_mul, rd_zero, rd_zero]
 ·unfold rd
  rw [log2_mul V a h, show V.log2 + a - (k + a + 52) = V.log2 - (k + 52) by omega, show k + a + (V.log2 - (k + 52)) = (k + (V.log2 - (k + 52))) + a by omega, re_scale]
theorem rd_mono {V V' : Nat} (k : Nat) (h : V ≤ V') : rd V k ≤ rd V' k := by
 unfold rd
 have hl := log2_mono h
 have key : (V.log2 - (k + 52)) * 2 ^ 52 + re V (k + (V.log2 - (k + 52))) ≤ (V'.log2 - (k + 52)) * 2 ^ 52 + re V' (k + (V'.log2 - (k + 52))) := by
  by_cases e : V.log2 - (k + 52) = V'.log2 - (k + 52)
  ·rw [← e]
   have := re_mono (k + (V.log2 - (k + 52))) h
   omega
  ·obtain ⟨L, hL⟩ : ∃ L, L = V.log2 - (k + 52) := ⟨_, rfl⟩
   obtain ⟨L', hL'⟩ : ∃ L, L = V'.log2 - (k + 52) := ⟨_, rfl⟩
   rw [← hL, ← hL']
   have h0 : V' ≠ 0 := by
    intro e0
    subst e0
    simp at hL'
    have : V = 0 := by omega
    subst this
    simp at hL
    omega
   have a1 : re V (k + L) ≤ 2 ^ 53 := by
    refine Nat.le_trans (re_le _ _) ?_
    refine Nat.succ_le_of_lt ((Nat.div_lt_iff_lt_mul (Nat.two_pow_pos _)).2 ?_)
    refine Nat.lt_of_lt_of_le (Nat.lt_log2_self (n := V)) ?_
    rw [← Nat.pow_add]
    exact Nat.pow_le_pow_right (by omega) (by omega)
   have a2 : 2 ^ 52 ≤ re V' (k + L') := by
    refine Nat.le_trans ?_ (le_re _ _)
    refine (Nat.le_div_iff_mul_le (Nat.two_pow_pos _)).2 ?_
    rw [← Nat.pow_add]
    refine Nat.le_trans (Nat.pow_le_pow_right (by omega) ?_) (Nat.log2_self_le h0)
    omega
   omega
 omega
def vl (x : Nat) : Nat := if x < 2 ^ 52 then x else (2 ^ 52 + x % 2 ^ 52) * 2 ^ (x / 2 ^ 52 - 1)
theorem rd_vl {x : Nat} (h : x ≤ inf) (k : Nat) : rd (vl x * 2 ^ k) k = x := by
 have e := rd_scale (vl x) 0 k
 rw [Nat.zero_add] at e
 rw [e]
 unfold vl rd
 by_cases hx : x < 2 ^ 52
 ·rw [if_pos hx]
  have hl : x.log2 ≤ 51 := by
   by_cases h0 : x = 0
   ·subst h0
    decide
   ·exact Nat.lt_succ_iff.1 ((Nat.log2_lt h0).2 hx)
  rw [show x.log2 - (0 + 52) = 0 by omega]
  have := re_exact x 0
  simp only [Nat.pow_zero, Nat.mul_one] at this
  rw [show 0 + 0 = 0 from rfl, this]
  omega
 ·rw [if_neg hx]
  have hm : x % 2 ^ 52 < 2 ^ 52 := Nat.mod_lt _ (by decide)
  have hd := Nat.div_add_mod x (2 ^ 52)
  have hq : 1 ≤ x / 2 ^ 52 := (Nat.le_div_iff_mul_le (by decide)).2 (by omega)
  obtain ⟨q, hq'⟩ : ∃ q, x / 2 ^ 52 = q + 1 := ⟨x / 2 ^ 52 - 1, by omega⟩
  obtain ⟨r, hr⟩ : ∃ r, r = x % 2 ^ 52 := ⟨_, rfl⟩
  rw [hq'] at hd ⊢
  rw [← hr] at hd hm ⊢
  have hne : 2 ^ 52 + r ≠ 0 := by omega
  have hlg : (2 ^ 52 + r).log2 = 52 := by
   apply Nat.le_antisymm
   ·exact Nat.lt_succ_iff.1 ((Nat.log2_lt hne).2 (by omega))
   ·exact (Nat.le_log2 hne).2 (by omega)
  rw [log2_mul _ _ hne, hlg, show 52 + (q + 1 - 1) - (0 + 52) = q by omega, show 0 + q = q by omega, show q + 1 - 1 = q by omega, re_exact]
  omega
theorem rd_vl0 {x : Nat} (h : x ≤ inf) : rd (vl x) 0 = x := by
 have := rd_vl h 0
 simpa using this
theorem vl_lt {x y : Nat} (hx : x < y) (hy : y ≤ inf) : vl x < vl y := by
 refine Nat.lt_of_not_le fun h => ?_
 have := rd_mono 0 h
 rw [rd_vl0 hy, rd_vl0 (by omega)] at this
 omega
theorem vl_le {x y : Nat} (hx : x ≤ y) (hy : y ≤ inf) : vl x ≤ vl y := by
 by_cases e : x = y
 ·rw [e]; exact Nat.le_refl _
 ·exact Nat.le_of_lt (vl_lt (by omega) hy)
theorem pow_e {a b c : Nat} (h : a + b = c) : 2 ^ a * 2 ^ b = 2 ^ c := by rw [← Nat.pow_add, h]
theorem vl_hi {x e : Nat} (h : 2 ^ 52 ≤ x) (he : x / 2 ^ 52 - 1 = e) : vl x = (2 ^ 52 + x % 2 ^ 52) * 2 ^ e := by
 unfold vl
 rw [if_neg (by omega), he]
theorem vl_two {x e c : Nat} (h : 2 ^ 52 ≤ x) (he : x / 2 ^ 52 - 1 = e) (h0 : x % 2 ^ 52 = 0) (hc : 52 + e = c) : vl x = 2 ^ c := by
 rw [vl_hi h he, h0, Nat.add_zero, pow_e hc]
def top : Nat := 2098
theorem vl_inf : vl inf = 2 ^ top := vl_two (by decide) (by decide : _ = 2046) (by decide) rfl
theorem near_eq (s : Bool) (m : Nat) (p : Int) (k t : Nat) (h : p + 1074 + k = t) : double.nearest s m p = double.word s (rd (m * 2 ^ t) k) := by
 unfold Format.nearest
 by_cases h0 : m = 0
 ·subst h0
  rw [if_pos rfl, Nat.zero_mul, rd_zero]
 ·rw [if_neg h0]
  dsimp only
  refine congrArg (double.word s) ?_
  unfold rd
  rw [infRung_eq, binade_eq, lp_eq, log2_mul _ _ h0, re_cut]
  refine congrArg (fun x => min x inf) ?_
  have fb : (double.fractionBits : Int) = 52 := rfl
  rw [fb]
  obtain ⟨L, hL⟩ : ∃ L, L = m.log2 + t - (k + 52) := ⟨_, rfl⟩
  rw [← hL]
  have hlast : max (p + (m.log2 : Int) - 52) (-1074) = -1074 + (L : Int) := by omega
  rw [hlast]
  have e1 : (-1074 + (L : Int) - -1074).toNat = L := by omega
  rw [e1, Nat.shiftLeft_eq]
  refine congrArg (fun x => L * 2 ^ 52 + x) ?_
  by_cases c : t ≤ k + L
  ·rw [show (p - (-1074 + (L : Int))).toNat = 0 by omega, show (-1074 + (L : Int) - p).toNat = k + L - t by omega, Nat.pow_zero, Nat.mul_one]
   have := re_scale m (k + L - t) t
   rw [show k + L - t + t = k + L by omega] at this
   exact this.symm
  ·rw [show (p - (-1074 + (L : Int))).toNat = t - (k + L) by omega, show (-1074 + (L : Int) - p).toNat = 0 by omega]
   have a1 := re_exact (m * 2 ^ (t - (k + L))) 0
   have a2 := re_exact (m * 2 ^ (t - (k + L))) (k + L)
   rw [Nat.pow_zero, Nat.mul_one] at a1
   rw [a1]
   rw [Nat.mul_assoc, ← Nat.pow_add, show t - (k + L) + (k + L) = t by omega] at a2
   exact a2.symm
end Go.Ht
namespace Go.Ht
open Ieee
set_option maxRecDepth 100000
def mg (x : Nat) : Nat := if x < 2 ^ 52 then x else 2 ^ 52 + x % 2 ^ 52
def pl (x : Nat) : Nat := x / 2 ^ 52 - 1
theorem vl_mg (x : Nat) : vl x = mg x * 2 ^ pl x := by
 unfold vl mg pl
 by_cases h : x < 2 ^ 52
 ·rw [if_pos h, if_pos h, Nat.div_eq_of_lt h]
  simp
 ·rw [if_neg h, if_neg h]
theorem read_fin {x : Nat} (h : x < inf) : double.read x = .number false (mg x) (-1074 + (pl x : Int)) := by
 have h63 : x < 2 ^ 63 := Nat.lt_trans h (by decide)
 unfold Format.read
 dsimp only
 rw [sw_eq, binade_eq, infRung_eq, lp_eq, Nat.div_eq_of_lt h63, Nat.mod_eq_of_lt h63]
 unfold mg pl
 by_cases h1 : x < 2 ^ 52
 ·rw [if_pos h1, if_pos h1, Nat.div_eq_of_lt h1]
  rfl
 ·rw [if_neg h1, if_pos h, if_neg h1]
  rfl
theorem read_inf : double.read inf = .infinity false := by decide
theorem word_pos (r : Nat) : double.word false r = r := rfl
theorem near_pos (m : Nat) (p : Int) (k t : Nat) (h : p + 1074 + k = t) : double.nearest false m p = rd (m * 2 ^ t) k := by
 rw [near_eq false m p k t h, word_pos]
theorem write_pos (m : Nat) (p : Int) : double.write (.number false m p) = double.nearest false m p := rfl
theorem signed_pos (m a : Nat) : signed false m a = ((m * 2 ^ a : Nat) : Int) := by
 unfold signed
 rw [if_neg (by simp), Nat.shiftLeft_eq]
theorem signed_neg (m a : Nat) : signed true m a = -((m * 2 ^ a : Nat) : Int) := by
 unfold signed
 rw [if_pos rfl, Nat.shiftLeft_eq]
def fadd (x y : Nat) : Nat := rd (vl x + vl y) 0
def fsub (x y : Nat) : Nat := rd (vl x - vl y) 0
def fmul (x y : Nat) : Nat := if x = inf then inf else rd (vl x * vl y) 1074
theorem fadd_le (x y : Nat) : fadd x y ≤ inf := rd_le _ _
theorem fmul_le (x y : Nat) : fmul x y ≤ inf := by
 unfold fmul
 split
 ·exact Nat.le_refl _
 ·exact rd_le _ _
theorem rd_big {V : Nat} (h : 2 ^ top ≤ V) : rd V 0 = inf := by
 have h1 := rd_mono 0 h
 rw [← vl_inf, rd_vl0 (Nat.le_refl _)] at h1
 exact Nat.le_antisymm (rd_le _ _) h1
theorem eq_inf {x : Nat} (h : x ≤ inf) (h' : ¬ x < inf) : x = inf := by omega
theorem split_pow {m a b : Nat} (h : b ≤ a) : m * 2 ^ a = m * 2 ^ (a - b) * 2 ^ b := by
 rw [Nat.mul_assoc, ← Nat.pow_add, Nat.sub_add_cancel h]
theorem add_nn {x y : Nat} (hx : x ≤ inf) (hy : y ≤ inf) : double.add x y = some (fadd x y) := by
 unfold Format.add fadd
 by_cases h1 : x < inf
 ·by_cases h2 : y < inf
  ·rw [read_fin h1, read_fin h2]
   unfold Datum.sum
   simp only [Option.map_some, Option.some.injEq]
   obtain ⟨b, hb⟩ : ∃ b, b = min (pl x) (pl y) := ⟨_, rfl⟩
   have e0 : min (-1074 + (pl x : Int)) (-1074 + (pl y : Int)) = -1074 + (b : Int) := by omega
   rw [e0, show (-1074 + (pl x : Int) - (-1074 + (b : Int))).toNat = pl x - b by omega, show (-1074 + (pl y : Int) - (-1074 + (b : Int))).toNat = pl y - b by omega, signed_pos, signed_pos]
   obtain ⟨N, hN⟩ : ∃ N, N = mg x * 2 ^ (pl x - b) + mg y * 2 ^ (pl y - b) := ⟨_, rfl⟩
   have e1 : ((mg x * 2 ^ (pl x - b) : Nat) : Int) + ((mg y * 2 ^ (pl y - b) : Nat) : Int) = (N : Int) := by rw [hN]; omega
   rw [e1]
   have e2 : (if (N : Int) = 0 then (false && false) else decide ((N : Int) < 0)) = false := by
    split
    ·rfl
    ·exact decide_eq_false (by omega)
   rw [e2, Int.natAbs_natCast]
   show double.nearest false N (-1074 + (b : Int)) = _
   rw [near_pos N _ 0 b (by omega), hN, Nat.add_mul, ← split_pow (by omega), ← split_pow (by omega), ← vl_mg, ← vl_mg]
  ·have h2 := eq_inf hy h2
   subst h2
   rw [read_fin h1, read_inf, rd_big (by rw [vl_inf]; omega)]
   rfl
 ·have h1 := eq_inf hx h1
  subst h1
  rw [read_inf, rd_big (by rw [vl_inf]; omega)]
  by_cases h2 : y < inf
  ·rw [read_fin h2]
   rfl
  ·have h2 := eq_inf hy h2
   subst h2
   rw [read_inf]
   rfl
theorem mul_nn {x y : Nat} (hx : x ≤ inf) (hy : y < inf) (h0 : 0 < y) : double.mul x y = some (fmul x y) := by
 unfold Format.mul fmul
 rw [read_fin hy]
 by_cases h1 : x < inf
 ·rw [read_fin h1, if_neg (by omega)]
  unfold Datum.product
  simp only [Option.map_some, Option.some.injEq]
  show double.nearest false (mg x * mg y) _ = _
  rw [near_pos _ _ 1074 (pl x + pl y) (by omega), vl_mg, vl_mg, Nat.pow_add]
  congr 1
  rw [Nat.mul_assoc, Nat.mul_assoc, Nat.mul_left_comm (mg y)]
 ·have h1 := eq_inf hx h1
  subst h1
  rw [read_inf, if_pos rfl]
  unfold Datum.product
  have : mg y ≠ 0 := by
   unfold mg
   split <;> omega
  simp only [if_neg this]
  rfl
theorem sub_nn {x y : Nat} (hx : x < inf) (hy : y ≤ x) : double.sub x y = some (fsub x y) := by
 have hv := vl_le hy (by omega)
 unfold Format.sub fsub
 rw [read_fin hx, read_fin (by omega)]
 unfold Datum.opposite Datum.sum
 simp only [Option.map_some, Option.some.injEq]
 obtain ⟨b, hb⟩ : ∃ b, b = min (pl x) (pl y) := ⟨_, rfl⟩
 have e0 : min (-1074 + (pl x : Int)) (-1074 + (pl y : Int)) = -1074 + (b : Int) := by omega
 rw [e0, show (-1074 + (pl x : Int) - (-1074 + (b : Int))).toNat = pl x - b by omega, show (-1074 + (pl y : Int) - (-1074 + (b : Int))).toNat = pl y - b by omega, signed_pos]
 show double.nearest _ _ _ = _
 rw [show (!false) = true from rfl, signed_neg]
 have hp : 0 < 2 ^ b := Nat.two_pow_pos b
 have hle : mg y * 2 ^ (pl y - b) ≤ mg x * 2 ^ (pl x - b) := by
  rw [vl_mg, vl_mg, split_pow (m := mg y) (a := pl y) (b := b) (by omega), split_pow (m := mg x) (a := pl x) (b := b) (by omega)] at hv
  exact Nat.le_of_mul_le_mul_right hv hp
 obtain ⟨N, hN⟩ : ∃ N, N = mg x * 2 ^ (pl x - b) - mg y * 2 ^ (pl y - b) := ⟨_, rfl⟩
 have e1 : ((mg x * 2 ^ (pl x - b) : Nat) : Int) + -((mg y * 2 ^ (pl y - b) : Nat) : Int) = (N : Int) := by rw [hN]; omega
 rw [e1]
 have e2 : (if (N : Int) = 0 then (false && true) else decide ((N : Int) < 0)) = false := by
  split
  ·rfl
  ·exact decide_eq_false (by omega)
 rw [e2, Int.natAbs_natCast, near_pos N _ 0 b (by omega), hN, Nat.sub_mul, ← split_pow (by omega), ← split_pow (by omega), ← vl_mg, ← vl_mg]
theorem cmp_of {a b x y : Nat} (hlt : x < y → a < b) (hgt : y < x → b < a) (heq : x = y → a = b) : compare (a : Int) (b : Int) = compare x y := by
 rcases Nat.lt_trichotomy x y with h | h | h
 ·rw [Nat.compare_eq_lt.2 h, Int.compare_eq_lt.2 (by have := hlt h; omega)]
 ·rw [Nat.compare_eq_eq.2 h, Int.compare_eq_eq.2 (by have := heq h; omega)]
 ·rw [Nat.compare_eq_gt.2 h, Int.compare_eq_gt.2 (by have := hgt h; omega)]
theorem order_nn {x y : Nat} (hx : x ≤ inf) (hy : y ≤ inf) : double.order x y = some (compare x y) := by
 unfold Format.order
 by_cases h1 : x < inf
 ·by_cases h2 : y < inf
  ·rw [read_fin h1, read_fin h2]
   unfold Datum.order
   simp only [Option.some.injEq]
   obtain ⟨b, hb⟩ : ∃ b, b = min (pl x) (pl y) := ⟨_, rfl⟩
   have e0 : min (-1074 + (pl x : Int)) (-1074 + (pl y : Int)) = -1074 + (b : Int) := by omega
   rw [e0, show (-1074 + (pl x : Int) - (-1074 + (b : Int))).toNat = pl x - b by omega, show (-1074 + (pl y : Int) - (-1074 + (b : Int))).toNat = pl y - b by omega, signed_pos, signed_pos]
   have hp : 0 < 2 ^ b := Nat.two_pow_pos b
   have ex : vl x = mg x * 2 ^ (pl x - b) * 2 ^ b := by rw [vl_mg]; exact split_pow (by omega)
   have ey : vl y = mg y * 2 ^ (pl y - b) * 2 ^ b := by rw [vl_mg]; exact split_pow (by omega)
   refine cmp_of (fun h => ?_) (fun h => ?_) (fun h => by rw [h])
   ·have := vl_lt h (by omega)
    rw [ex, ey] at this
    exact Nat.lt_of_mul_lt_mul_right this
   ·have := vl_lt h (by omega)
    rw [ex, ey] at this
    exact Nat.lt_of_mul_lt_mul_right this
  ·have h2 := eq_inf hy h2
   subst h2
   rw [read_fin h1, read_inf]
   show some Ordering.lt = _
   rw [Nat.compare_eq_lt.2 h1]
 ·have h1 := eq_inf hx h1
  subst h1
  rw [read_inf]
  by_cases h2 : y < inf
  ·rw [read_fin h2]
   show some Ordering.gt = _
   rw [Nat.compare_eq_gt.2 h2]
  ·have h2 := eq_inf hy h2
   subst h2
   rw [read_inf, Nat.compare_eq_eq.2 rfl]
   rfl
theorem eq_nn {x y : Nat} (hx : x ≤ inf) (hy : y ≤ inf) : (double.order x y == some .eq) = decide (x = y) := by
 rw [order_nn hx hy]
 rcases Nat.lt_trichotomy x y with h | h | h
 ·rw [Nat.compare_eq_lt.2 h, decide_eq_false (by omega)]; rfl
 ·rw [Nat.compare_eq_eq.2 h, decide_eq_true h]; rfl
 ·rw [Nat.compare_eq_gt.2 h, decide_eq_false (by omega)]; rfl
def one : Nat := 0x3FF0000000000000
def f32 : Nat := 0x4040000000000000
def f31 : Nat := 0x3FEF000000000000
def c78 : Nat := 0x3FEC000000000000
def c18 : Nat := 0x3FC0000000000000
def c38 : Nat := 0x3FD8000000000000
def c58 : Nat := 0x3FE4000000000000
theorem quot_fin (d m n more : Nat) (i j : Int) (hn : n ≠ 0) (hm : d + n.log2 - m.log2 = more) : Datum.quotient d (.number false m i) (.number false n j) = some (.number false (2 * (m <<< more / n) + (m <<< more % n != 0).toNat) (i - j - more - 1)) := by
 unfold Datum.quotient
 simp only [if_neg hn, hm]
 rfl
def frec (x : Nat) : Nat := (double.div one x).getD 0
def e69 : Nat := 1069
def e74 : Nat := 1074
def e79 : Nat := 1079
def e96 : Nat := 2096
theorem e74_eq : e74 = 1074 := rfl
theorem e79_eq : e79 = 1079 := rfl
theorem e96_eq : e96 = 2096 := rfl
theorem vl_one : vl one = 2 ^ e74 := vl_two (by decide) (by decide : _ = 1022) (by decide) rfl
theorem vl_f32 : vl f32 = 2 ^ e79 := vl_two (by decide) (by decide : _ = 1027) (by decide) rfl
theorem rec_parts {x : Nat} (h1 : 0x3FA0000000000000 ≤ x) (h2 : x ≤ one) : 1017 ≤ pl x ∧ pl x ≤ 1022 ∧ 2 ^ 52 ≤ mg x ∧ mg x < 2 ^ 53 ∧ (pl x = 1022 → mg x = 2 ^ 52) := by
 have hone : one = 0x3FF0000000000000 := rfl
 have hm : x % 2 ^ 52 < 2 ^ 52 := Nat.mod_lt _ (by decide)
 have hd := Nat.div_add_mod x (2 ^ 52)
 have hmg : mg x = 2 ^ 52 + x % 2 ^ 52 := by unfold mg; rw [if_neg (by omega)]
 rw [hmg]
 unfold pl
 omega
theorem div_parts {m q s : Nat} (h1 : 2 ^ 52 ≤ m) (h2 : m < 2 ^ 53) (hq : q = 2 ^ 106 / m) (hs : s = (2 ^ 106 % m != 0).toNat) : 2 ^ 53 ≤ q ∧ 2 * q + s ≤ 2 ^ 55 ∧ (m = 2 ^ 52 → q = 2 ^ 54) := by
 have hmul := Nat.div_add_mod (2 ^ 106) m
 rw [← hq] at hmul
 have hq1 : 2 ^ 53 ≤ q := by
  rw [hq]
  exact (Nat.le_div_iff_mul_le (by omega)).2 (by omega)
 have hq2 : q ≤ 2 ^ 54 := by
  rw [hq]
  exact Nat.le_trans (Nat.div_le_div_left (b := m) h1 (by decide)) (by decide)
 have hs1 : s ≤ 1 := by rw [hs]; cases (2 ^ 106 % m != 0) <;> decide
 refine ⟨hq1, ?_, fun e => by rw [hq, e]⟩
 by_cases e : q = 2 ^ 54
 ·have hle : 2 ^ 52 * 2 ^ 54 ≤ m * 2 ^ 54 := Nat.mul_le_mul_right _ h1
  rw [e] at hmul
  have hz : 2 ^ 106 % m = 0 := by omega
  have hs0 : s = 0 := by rw [hs, hz]; decide
  omega
 ·omega
theorem div_eq {x q s : Nat} (hx : x < inf) (h1 : 2 ^ 52 ≤ mg x) (h2 : mg x < 2 ^ 53) (hq : q = 2 ^ 106 / mg x) (hs : s = (2 ^ 106 % mg x != 0).toNat) : double.div one x = some (rd ((2 * q + s) * 2 ^ e96) (pl x + 55)) := by
 have hlg : (mg x).log2 = 52 := by
  have hne : mg x ≠ 0 := by omega
  apply Nat.le_antisymm
  ·exact Nat.lt_succ_iff.1 ((Nat.log2_lt hne).2 (by omega))
  ·exact (Nat.le_log2 hne).2 (by omega)
 have hl2 : (2 ^ 52 : Nat).log2 = 52 := by decide
 have hD : (2 ^ 52 <<< 54 : Nat) = 2 ^ 106 := by decide
 have m1 : mg one = 2 ^ 52 := by decide
 have p1 : pl one = 1022 := by decide
 unfold Format.div
 rw [read_fin (by decide : one < inf), read_fin hx, m1, p1, show double.fractionBits = 52 from rfl, quot_fin (52 + 2) (2 ^ 52) (mg x) 54 _ _ (by omega) (by rw [hlg, hl2]), hD, ← hq, ← hs, Option.map_some]
 refine congrArg some ?_
 refine Eq.trans (write_pos _ _) ?_
 refine near_pos _ _ (pl x + 55) e96 ?_
 rw [e96_eq]
 omega
theorem rec_nn {x : Nat} (h1 : 0x3FA0000000000000 ≤ x) (h2 : x ≤ one) : double.div one x = some (frec x) ∧ one ≤ frec x ∧ frec x ≤ f32 := by
 obtain ⟨a1, a2, a3, a4, a5⟩ := rec_parts h1 h2
 obtain ⟨q, hq⟩ : ∃ q, q = 2 ^ 106 / mg x := ⟨_, rfl⟩
 obtain ⟨s, hs⟩ : ∃ s, s = (2 ^ 106 % mg x != 0).toNat := ⟨_, rfl⟩
 obtain ⟨b1, b2, b3⟩ := div_parts a3 a4 hq hs
 have hE := div_eq (Nat.lt_of_le_of_lt h2 (by decide)) a3 a4 hq hs
 have hfe : frec x = rd ((2 * q + s) * 2 ^ e96) (pl x + 55) := by unfold frec; rw [hE, Option.getD_some]
 refine ⟨by rw [hE, hfe], ?_, ?_⟩
 ·rw [hfe, ← rd_vl (x := one) (by decide) (pl x + 55), vl_one]
  refine rd_mono _ ?_
  rw [← Nat.pow_add]
  by_cases e : pl x = 1022
  ·have hq3 := b3 (a5 e)
   rw [e, show e74 + (1022 + 55) = 55 + e96 from rfl, Nat.pow_add]
   refine Nat.mul_le_mul_right _ ?_
   omega
  ·refine Nat.le_trans (Nat.pow_le_pow_right (by omega) (show e74 + (pl x + 55) ≤ 54 + e96 by rw [e74_eq, e96_eq]; omega)) ?_
   rw [Nat.pow_add]
   refine Nat.mul_le_mul_right _ ?_
   omega
 ·rw [hfe, ← rd_vl (x := f32) (by decide) (pl x + 55), vl_f32]
  refine rd_mono _ ?_
  rw [← Nat.pow_add]
  refine Nat.le_trans (Nat.mul_le_mul_right _ b2) ?_
  rw [← Nat.pow_add]
  exact Nat.pow_le_pow_right (by omega) (by rw [e96_eq, e79_eq]; omega)
theorem vl_mul {x e c m : Nat} (h : 2 ^ 52 ≤ x) (he : x / 2 ^ 52 - 1 = e) (h0 : 2 ^ 52 + x % 2 ^ 52 = m * 2 ^ 48) (hc : 48 + e = c) : vl x = m * 2 ^ c := by
 rw [vl_hi h he, h0, Nat.mul_assoc, pow_e hc]
theorem left_nn {c : Nat} (h : c ≤ f31) : double.sub one c = some (fsub one c) ∧ 0x3FA0000000000000 ≤ fsub one c ∧ fsub one c ≤ one := by
 have hone : one = 0x3FF0000000000000 := rfl
 have h31 : f31 = 0x3FEF000000000000 := rfl
 refine ⟨sub_nn (by decide) (by omega), ?_, ?_⟩
 ·have hv := vl_le h (by decide : f31 ≤ inf)
  have e1 : vl f31 = 31 * 2 ^ e69 := vl_mul (by decide) (by decide : _ = 1021) (by decide) rfl
  have e2 : vl 0x3FA0000000000000 = 2 ^ e69 := vl_two (by decide) (by decide : _ = 1017) (by decide) rfl
  unfold fsub
  rw [← rd_vl0 (x := 0x3FA0000000000000) (by decide), e2, vl_one]
  refine rd_mono 0 ?_
  rw [e1] at hv
  have e3 : (2 : Nat) ^ e74 = 32 * 2 ^ e69 := by rw [show (32 : Nat) = 2 ^ 5 from rfl, pow_e (c := e74) rfl]
  rw [e3]
  omega
 ·unfold fsub
  refine Nat.le_trans (rd_mono 0 (Nat.sub_le _ _)) ?_
  rw [rd_vl0 (by decide)]
  exact Nat.le_refl _
end Go.Ht
namespace Go.Ht
open Ieee
set_option maxRecDepth 100000
def hun : Nat := 0x4059000000000000
def fdiv (x y : Nat) : Nat := (double.div x y).getD 0
theorem div_nn {x y : Nat} (hx : x < inf) (hy : y < inf) (h0 : 0 < y) : double.div x y = some (fdiv x y) ∧ fdiv x y ≤ inf := by
 have h1 : mg y ≠ 0 := by
  unfold mg
  split <;> omega
 have hE : ∃ r, r ≤ inf ∧ double.div x y = some r := by
  unfold Format.div
  rw [read_fin hx, read_fin hy, quot_fin _ _ _ _ _ _ h1 rfl, Option.map_some]
  refine ⟨_, ?_, rfl⟩
  rw [write_pos]
  obtain ⟨k, t, hkt⟩ : ∃ k t : Nat, (-1074 + (pl x : Int) - (-1074 + (pl y : Int)) - ((double.fractionBits + 2 + (mg y).log2 - (mg x).log2 : Nat) : Int) - 1) + 1074 + k = t := by
   refine ⟨pl y + (double.fractionBits + 2 + (mg y).log2 - (mg x).log2) + 1, pl x + 1074, ?_⟩
   omega
  rw [near_pos _ _ k t hkt]
  exact rd_le _ _
 obtain ⟨r, hr, hE⟩ := hE
 have e : fdiv x y = r := by unfold fdiv; rw [hE, Option.getD_some]
 rw [e]
 exact ⟨hE, hr⟩
def i2f (c : Int) : Nat := floatOfInt .f64 c
theorem i2f_nat (c : Nat) : i2f (c : Int) = rd (c * 2 ^ e74) 0 := by
 unfold i2f floatOfInt FloatKind.nearest FloatKind.encode
 show double.write (.number (decide ((c : Int) < 0)) (c : Int).natAbs 0) = _
 rw [decide_eq_false (by omega), Int.natAbs_natCast, write_pos]
 exact near_pos c 0 0 e74 (by rw [e74_eq]; rfl)
theorem i2f_lt {c : Int} (h0 : 0 ≤ c) (h : c ≤ 9007199254740992) : i2f c < inf := by
 obtain ⟨k, rfl⟩ := Int.eq_ofNat_of_zero_le h0
 rw [i2f_nat]
 have h1 : k ≤ 2 ^ 53 := by omega
 refine Nat.lt_of_le_of_lt (rd_mono 0 (Nat.mul_le_mul_right (2 ^ e74) h1)) ?_
 have e : 2 ^ 53 * 2 ^ e74 = vl 4845873199050653696 := by
  rw [vl_two (c := 53 + e74) (by decide) (by decide : _ = 1075) (by decide) rfl, Nat.pow_add]
 rw [e, rd_vl0 (by decide)]
 decide
theorem i2f_pos {c : Int} (h0 : 0 < c) : 0 < i2f c := by
 obtain ⟨k, rfl⟩ := Int.eq_ofNat_of_zero_le (Int.le_of_lt h0)
 rw [i2f_nat]
 have h1 : 1 ≤ k := by omega
 refine Nat.lt_of_lt_of_le ?_ (rd_mono 0 (Nat.mul_le_mul_right (2 ^ e74) h1))
 have e : 1 * 2 ^ e74 = vl one := by rw [vl_one, Nat.one_mul]
 rw [e, rd_vl0 (by decide)]
 decide
def shS : Int → List Int → Option Int
 | s, [] => some s
 | s, c :: l => if c < 0 ∨ 9007199254740992 - s < c then none else shS (s + c) l
def shr (s c : Int) : Nat := if 0 < s then fmul (fdiv (i2f c) (i2f s)) hun else 0
theorem shS_mono : ∀ {l : List Int} {s t : Int}, shS s l = some t → s ≤ t
 | [], s, t, h => by injection h with h; omega
 | c :: l, s, t, h => by
  unfold shS at h
  split at h
  ·cases h
  ·have := shS_mono h; omega
theorem shS_in : ∀ {l : List Int} {s t : Int}, 0 ≤ s → s ≤ 9007199254740992 → shS s l = some t → t ≤ 9007199254740992 ∧ ∀ c ∈ l, 0 ≤ c ∧ c ≤ t - s
 | [], s, t, h0, h1, h => by injection h with h; exact ⟨by omega, fun c hc => (by cases hc)⟩
 | c :: l, s, t, h0, h1, h => by
  unfold shS at h
  split at h
  ·cases h
  ·rename_i hn
   obtain ⟨k1, k2⟩ := shS_in (by omega) (by omega) h
   have k3 := shS_mono h
   refine ⟨k1, fun x hx => ?_⟩
   rcases List.mem_cons.1 hx with rfl | hx
   ·omega
   ·have := k2 x hx; omega
theorem shr_ops {s c : Int} (hs : 0 < s) (h1 : s ≤ 9007199254740992) (h2 : 0 ≤ c) (h3 : c ≤ 9007199254740992) : double.div (i2f c) (i2f s) = some (fdiv (i2f c) (i2f s)) ∧ double.mul (fdiv (i2f c) (i2f s)) hun = some (shr s c) := by
 obtain ⟨a, b⟩ := div_nn (i2f_lt h2 h3) (i2f_lt (by omega) h1) (i2f_pos hs)
 refine ⟨a, ?_⟩
 rw [mul_nn b (by decide) (by decide)]
 unfold shr
 rw [if_pos hs]
end Go.Ht
namespace Go.Proofs.Ytndnfjcfpcfakaa
open Go Go.RowKit Go.Wr Go.Fl Go.Ht
set_option maxHeartbeats 4000000
set_option maxRecDepth 100000
def tF : RT Try.prog Nat := ⟨42, 25, 1, 8, .float .f64 0, fun x => [.float .f64 x], fun _ => rfl, fun _ => oneSimp rfl, by kernel_rfl, by kernel_rfl, by decide, by decide⟩
theorem SlX.flo {p : Nat} {w : World} {a0 : Option Addr} {n cap : Nat} {l : List Nat} (h : SlX tF p w (.slice a0 n cap) l) {k : Nat} {x : Nat} (hk : l[k]? = some x) :
  ∃ b o, a0 = some ⟨b, o, none⟩ ∧ b ≠ p ∧ b < w.heap.size ∧ w.cell? ⟨b, o + k, none⟩ = some (.float .f64 x) := by
 obtain ⟨b, o, e, hne, hat⟩ := h.get hk
 refine ⟨b, o, e, hne, hat.1, ?_⟩
 have := hat.cell 0 _ rfl
 have e1 : o + k * tF.n + 0 = o + k := by show o + k * 1 + 0 = _; omega
 rw [e1] at this
 exact this
theorem hop_mul {a b r : Nat} (h : Ieee.double.mul a b = some r) : ∀ t w, (binOp .mul t (.float .f64 a) (.float .f64 b)).run Try.prog w = .ok (.float .f64 r) w := fun t w => run_float_arith w .mul t .f64 a b r h
theorem hop_add {a b r : Nat} (h : Ieee.double.add a b = some r) : ∀ t w, (binOp .add t (.float .f64 a) (.float .f64 b)).run Try.prog w = .ok (.float .f64 r) w := fun t w => run_float_arith w .add t .f64 a b r h
theorem hop_sub {a b r : Nat} (h : Ieee.double.sub a b = some r) : ∀ t w, (binOp .sub t (.float .f64 a) (.float .f64 b)).run Try.prog w = .ok (.float .f64 r) w := fun t w => run_float_arith w .sub t .f64 a b r h
theorem hop_div {a b r : Nat} (h : Ieee.double.div a b = some r) : ∀ t w, (binOp .quo t (.float .f64 a) (.float .f64 b)).run Try.prog w = .ok (.float .f64 r) w := fun t w => run_float_arith w .quo t .f64 a b r h
theorem hop_i2f (n : Int) : ∀ w, (convert 3 42 (.int .i64 n)).run Try.prog w = .ok (.float .f64 (i2f n)) w := fun w => run_convert_int_float w 3 42 .i64 .f64 n (by rw [Try.underlying3]; rfl) Try.underlying42
theorem below_grow {V W w' : World} {o : Obj} {r : Option Nat} (hb : Below V.heap.size V W) (hg : (W.alloc o).grownBy w' r) (hr : ∀ g, r = some g → V.heap.size ≤ g) : Below V.heap.size V w' :=
 ⟨hg.os.trans hb.os, hg.tape.trans hb.tape, hg.output.trans hb.output, by have := hg.size; have := hb.size; simp at *; omega, fun b hlt => by
  have h1 : b < W.heap.size := Nat.lt_of_lt_of_le hlt hb.size
  exact ((hg.block b (by simp; omega) (fun e => by have := hr b e.symm; omega)).trans (Below.heap_alloc W o b h1)).trans (hb.block b hlt)⟩
def ShP (l : List Int) (w : World) (e : Ending) (w' : World) : Prop :=
 Below w.heap.size w w' ∧ ((shS 0 l = none ∧ e = .returned (.tuple #[.slice none 0 0, .int .i64 1])) ∨
  ∃ s v, shS 0 l = some s ∧ e = .returned (.tuple #[v, .int .i64 0]) ∧ OwR tF w.heap.size w' v (l.map (shr s)))
theorem share_ok (w : World) (q : Nat) (v : Value) (l : List Int) (h : SlX tI q w v l) (hl : l.length ≤ 1099511627776) : Calls Try.prog 10 #[v] w (ShP l w) := by
 obtain ⟨r, hr⟩ : ∃ r, r = shS 0 l := ⟨_, rfl⟩
 have HR := Lib.hid hr
 have hpost : ∀ e w', (Below w.heap.size w w' ∧ ((r = none ∧ e = .returned (.tuple #[.slice none 0 0, .int .i64 1])) ∨ ∃ s v, r = some s ∧ e = .returned (.tuple #[v, .int .i64 0]) ∧ OwR tF w.heap.size w' v (l.map (shr s)))) → ShP l w e w' := fun e w' h => by unfold ShP; rw [← hr]; exact h
 refine Calls.mono ?_ hpost
 clear hpost hr
 obtain ⟨a0, cap, rfl, h1, h2⟩ := h.form
 have H := Lib.hid h
 unfold maxLen at h2
 clear h
 go_enter Try.func10, Try.ntmps10
 go_wp2
 go_loopw [4, 6, 13] (fun t _ u wr => ∃ (k : Nat) (s : Int), k ≤ l.length ∧ 0 ≤ s ∧ s ≤ 9007199254740992 ∧ t = .int .i64 s ∧ u = .int .i64 (k : Int) ∧ Hid (r = shS s (l.drop k)) ∧ wr = w) (fun _ _ u _ => l.length - (intOf u).toNat)
 case atStart => exact ⟨0, 0, by omega, by omega, by omega, rfl, rfl, HR.out, rfl⟩
 case round =>
  obtain ⟨k, s, hk, hs0, hs1, rfl, rfl, hq, rfl⟩ := hrel
  by_cases hlt : k < l.length
  ·have hlt' : (k : Int) < (l.length : Int) := by omega
   obtain ⟨c, hc⟩ : ∃ c, l[k]? = some c := ⟨_, List.getElem?_eq_getElem hlt⟩
   have hd : l.drop k = c :: l.drop (k + 1) := by
    rw [List.drop_eq_getElem_cons hlt]
    rw [List.getElem?_eq_getElem hlt] at hc
    injection hc with hc
    rw [hc]
   have hq2 := hq.out
   rw [hd] at hq2
   unfold shS at hq2
   obtain ⟨b, o, rfl, _, _, hcell⟩ := SlX.int H.out hc
   clear hq hd hc
   by_cases hneg : c < 0
   ·rw [if_pos (Or.inl hneg)] at hq2
    have HQ := Lib.hid hq2
    clear hq2
    go_wp2
    go_ret2
    exact ⟨bRefl _, Or.inl ⟨HQ.out, rfl⟩⟩
   ·by_cases hbig : 9007199254740992 - s < c
    ·rw [if_pos (Or.inr hbig)] at hq2
     have HQ := Lib.hid hq2
     clear hq2
     go_wp2
     go_ret2
     exact ⟨bRefl _, Or.inl ⟨HQ.out, rfl⟩⟩
    ·rw [if_neg (fun h => h.elim hneg hbig)] at hq2
     have HQ := Lib.hid hq2
     clear hq2
     go_wp2
     go_roundw
     all_goals first
      | exact ⟨k + 1, s + c, by omega, by omega, by omega, rfl, by go_num, HQ.out, by first | rfl | trivial⟩
      | ((repeat apply Exists.intro); exact ⟨⟨k + 1, s + c, by omega, by omega, by omega, rfl, by go_num, HQ.out, by first | rfl | trivial⟩, rfl⟩)
      | (simp [intOf] <;> omega)
  ·have hkl : k = l.length := by omega
   have hq2 := hq.out
   rw [hkl, List.drop_length] at hq2
   unfold shS at hq2
   have HQ := Lib.hid hq2
   have HI := Lib.hid (shS_in (by omega) (by omega) (HR.out.symm.trans hq2)).2
   clear hq2 hq HR
   obtain rfl := hkl
   obtain ⟨V, rfl⟩ : ∃ V : World, V = wr := ⟨_, rfl⟩
   go_wp2
   go_loopw [7, 9, 10, 31] (fun t _ _ u wr => ∃ (k : Nat) (va : Option Addr) (vn vc : Nat), k ≤ l.length ∧ u = .int .i64 (k : Int) ∧ t = .slice va vn vc ∧ Hid (OwR tF V.heap.size wr (.slice va vn vc) ((l.take k).map (shr s))) ∧ Hid (Below V.heap.size V wr)) (fun _ _ _ u _ => l.length - (intOf u).toNat)
   case atStart => exact ⟨0, none, 0, 0, by omega, rfl, rfl, OwR.nil _ _, bRefl _⟩
   case round =>
    obtain ⟨k, va, vn, vc, hk, rfl, rfl, ho, hb⟩ := hrel
    obtain ⟨W, rfl⟩ : ∃ V : World, V = wr := ⟨_, rfl⟩
    by_cases hlt : k < l.length
    ·have hlt' : (k : Int) < (l.length : Int) := by omega
     obtain ⟨c, hc⟩ : ∃ c, l[k]? = some c := ⟨_, List.getElem?_eq_getElem hlt⟩
     have htk : l.take (k + 1) = l.take k ++ [c] := by rw [List.take_add_one, hc]; rfl
     have hci := HI.out c (List.mem_of_getElem? hc)
     obtain ⟨b, o, rfl, _, _, hcell⟩ := SlX.int (H.out.below hb.out) hc
     have hlen : ((l.take k).map (shr s)).length = k := by rw [List.length_map, List.length_take]; omega
     have HT := Lib.hid (And.intro htk hlen)
     have hz := hb.out.size
     clear hc htk hlen
     by_cases hs : 0 < s
     ·obtain ⟨d1, d2⟩ := shr_ops hs hs1 hci.1 (by omega)
      have hop1 := hop_div d1
      have hop2 := hop_mul d2
      have hopc := hop_i2f c
      have hops := hop_i2f s
      have hun' : hun = 4636737291354636288 := rfl
      rw [hun'] at hop2
      clear d1 d2 hun' hci
      go_wp2_with (first
       | (at_builtin; refine wpl_push tF rfl (.tmp 44) (.tmp 46) rfl V.heap.size (.slice va vn vc) ((l.take k).map (shr s)) rfl (ho.out.alloc _) _ 0 1 1 [shr s c] rfl rfl (rangeNew (by rfl) (by rfl)) (by have := HT.out.2; unfold maxLen; simp; omega) (by have := HT.out.2; show _ * 8 ≤ _; simp; omega) (by simp; omega) ?_; intro v' w9 hown hgrow hform)
       | (simp only [hop1, hop2, hopc, hops]))
      obtain ⟨g9, c9, rfl, _⟩ := hform (by simp)
      have HO := Lib.hid (show OwR tF V.heap.size w9 (.slice (some ⟨g9, 0, none⟩) (((l.take k).map (shr s)).length + 1) c9) ((l.take (k + 1)).map (shr s)) by rw [HT.out.1, List.map_append]; exact hown)
      have HB := Lib.hid (below_grow hb.out hgrow (fun g hg => (ho.out.blk hg).1))
      clear hown hgrow hform ho hb hcell
      go_wp2
      go_roundw
      all_goals first
       | exact ⟨k + 1, _, _, _, by omega, by go_num, rfl, HO.out, HB.out⟩
       | ((repeat apply Exists.intro); exact ⟨⟨k + 1, _, _, _, by omega, by go_num, rfl, HO.out, HB.out⟩, rfl⟩)
       | (simp [intOf] <;> omega)
     ·have hse : shr s c = 0 := by unfold shr; rw [if_neg hs]
      have HSE := Lib.hid hse
      clear hse
      go_wp2_with (at_builtin; refine wpl_push tF rfl (.tmp 44) (.tmp 46) rfl V.heap.size (.slice va vn vc) ((l.take k).map (shr s)) rfl (ho.out.alloc _) _ 0 1 1 [0] rfl rfl (rangeNew (by rfl) (by rfl)) (by have := HT.out.2; unfold maxLen; simp; omega) (by have := HT.out.2; show _ * 8 ≤ _; simp; omega) (by simp; omega) ?_; intro v' w9 hown hgrow hform)
      obtain ⟨g9, c9, rfl, _⟩ := hform (by simp)
      have HO := Lib.hid (show OwR tF V.heap.size w9 (.slice (some ⟨g9, 0, none⟩) (((l.take k).map (shr s)).length + 1) c9) ((l.take (k + 1)).map (shr s)) by rw [HT.out.1, List.map_append, List.map_singleton, HSE.out]; exact hown)
      have HB := Lib.hid (below_grow hb.out hgrow (fun g hg => (ho.out.blk hg).1))
      clear hown hgrow hform ho hb hcell
      go_wp2
      go_roundw
      all_goals first
       | exact ⟨k + 1, _, _, _, by omega, by go_num, rfl, HO.out, HB.out⟩
       | ((repeat apply Exists.intro); exact ⟨⟨k + 1, _, _, _, by omega, by go_num, rfl, HO.out, HB.out⟩, rfl⟩)
       | (simp [intOf] <;> omega)
    ·have hkl : k = l.length := by omega
     have HO := Lib.hid (show OwR tF V.heap.size W (.slice va vn vc) (l.map (shr s)) by have := ho.out; rw [hkl, List.take_length] at this; exact this)
     obtain rfl := hkl
     clear ho
     go_wp2
     go_ret2
     exact ⟨hb.out, Or.inr ⟨s, _, HQ.out, rfl, HO.out⟩⟩
end Go.Proofs.Ytndnfjcfpcfakaa
namespace Go.Proofs.Ytndnfjcfpcfakaa
open Go Go.RowKit Go.Wr Go.Fl Go.Ht
set_option maxHeartbeats 4000000
set_option maxRecDepth 100000
def tU : RT Try.prog Int := ⟨51, 46, 1, 8, .int .u64 0, fun x => [.int .u64 x], fun _ => rfl, fun _ => oneSimp rfl, by kernel_rfl, by kernel_rfl, by decide, by decide⟩
theorem SlX.u64 {p : Nat} {w : World} {a0 : Option Addr} {n cap : Nat} {l : List Int} (h : SlX tU p w (.slice a0 n cap) l) {k : Nat} {x : Int} (hk : l[k]? = some x) :
  ∃ b o, a0 = some ⟨b, o, none⟩ ∧ b ≠ p ∧ b < w.heap.size ∧ w.cell? ⟨b, o + k, none⟩ = some (.int .u64 x) := by
 obtain ⟨b, o, e, hne, hat⟩ := h.get hk
 refine ⟨b, o, e, hne, hat.1, ?_⟩
 have := hat.cell 0 _ rfl
 have e1 : o + k * tU.n + 0 = o + k := by show o + k * 1 + 0 = _; omega
 rw [e1] at this
 exact this
theorem call_frombits (n : Int) (w : World) : (callFunc 33 #[.int .u64 n]).run Try.prog w = .ok (.value (.float .f64 n.toNat)) w := by
 rw [run_callFunc_extern (e := Extern.MathFloatBits.float64frombits) Try.func33 (by kernel_rfl) (by kernel_rfl) (by kernel_rfl) (by kernel_rfl)]
 rfl
theorem floats_ok (w : World) (q : Nat) (v : Value) (l : List Int) (h : SlX tU q w v l) (hl : l.length ≤ 1099511627776) : Calls Try.prog 19 #[v] w fun e w' => Below w.heap.size w w' ∧ ∃ v', e = .returned v' ∧ OwR tF w.heap.size w' v' (l.map Int.toNat) := by
 obtain ⟨a0, cap, rfl, h1, h2⟩ := h.form
 have H := Lib.hid h
 unfold maxLen at h2
 clear h
 go_enter Try.func19, Try.ntmps19
 go_wp2
 go_loopw [3, 4] (fun t u wr => ∃ (k : Nat) (va : Option Addr) (vn vc : Nat), k ≤ l.length ∧ u = .int .i64 (k : Int) ∧ t = .slice va vn vc ∧ Hid (OwR tF w.heap.size wr (.slice va vn vc) ((l.take k).map Int.toNat)) ∧ Hid (Below w.heap.size w wr)) (fun _ u _ => l.length - (intOf u).toNat)
 case atStart => exact ⟨0, none, 0, 0, by omega, rfl, rfl, OwR.nil _ _, bRefl _⟩
 case round =>
  obtain ⟨k, va, vn, vc, hk, rfl, rfl, ho, hb⟩ := hrel
  obtain ⟨W, rfl⟩ : ∃ V : World, V = wr := ⟨_, rfl⟩
  by_cases hlt : k < l.length
  ·have hlt' : (k : Int) < (l.length : Int) := by omega
   obtain ⟨c, hc⟩ : ∃ c, l[k]? = some c := ⟨_, List.getElem?_eq_getElem hlt⟩
   have htk : l.take (k + 1) = l.take k ++ [c] := by rw [List.take_add_one, hc]; rfl
   obtain ⟨b, o, rfl, -, -, hcell⟩ := SlX.u64 (H.out.below hb.out) hc
   have hlen : ((l.take k).map Int.toNat).length = k := by rw [List.length_map, List.length_take]; omega
   have HT := Lib.hid (And.intro htk hlen)
   have hz := hb.out.size
   have hcall := call_frombits c
   clear hc htk hlen
   go_wp2_with (at_builtin; refine wpl_push tF rfl (.tmp 11) (.tmp 17) rfl w.heap.size (.slice va vn vc) ((l.take k).map Int.toNat) rfl (ho.out.alloc _) _ 0 1 1 [c.toNat] rfl rfl (rangeNew (by rfl) (by rfl)) (by have := HT.out.2; unfold maxLen; simp; omega) (by have := HT.out.2; show _ * 8 ≤ _; simp; omega) (by simp; omega) ?_; intro v' w9 hown hgrow hform)
   obtain ⟨g9, c9, rfl, _⟩ := hform (by simp)
   have HO := Lib.hid (show OwR tF w.heap.size w9 (.slice (some ⟨g9, 0, none⟩) (((l.take k).map Int.toNat).length + 1) c9) ((l.take (k + 1)).map Int.toNat) by rw [HT.out.1, List.map_append]; exact hown)
   have HB := Lib.hid (below_grow hb.out hgrow (fun g hg => (ho.out.blk hg).1))
   clear hown hgrow hform ho hb hcell hcall
   go_wp2
   go_roundw
   all_goals first
    | exact ⟨k + 1, _, _, _, by omega, by go_num, rfl, HO.out, HB.out⟩
    | ((repeat apply Exists.intro); exact ⟨⟨k + 1, _, _, _, by omega, by go_num, rfl, HO.out, HB.out⟩, rfl⟩)
    | (simp [intOf] <;> omega)
  ·have hkl : k = l.length := by omega
   have HO := Lib.hid (show OwR tF w.heap.size W (.slice va vn vc) (l.map Int.toNat) by have := ho.out; rw [hkl, List.take_length] at this; exact this)
   have hlt' : ¬ (k : Int) < (l.length : Int) := by omega
   clear ho hkl
   go_wp2
   go_ret
   exact ⟨hb.out, _, rfl, HO.out⟩
end Go.Proofs.Ytndnfjcfpcfakaa
namespace Go.Proofs.Ytndnfjcfpcfakaa
open Go Go.RowKit Go.Wr Go.Fl
open Go.ChangeShapes Go.WideShapes Go.ChangeAt Go.Deep
section
variable {H : Type} {enc : TypeId × Value → H} {w : World} {base : Nat} {held : Bool}
theorem open_numx (R : RT Try.prog Int) {kd : IntKind} {T E : TypeId} (hn : R.n = 1) (hf1 : ∀ x, R.f x = [.int kd x]) (hT : Try.prog.underlying T = some (.slice E)) (hE : Try.prog.underlying E = some (.int kd)) (hc1 : Try.prog.cellsOf E = 1)
  {a0 : Option Addr} {len cap : Nat} {fuel : Nat} {x : DataW H × List MemPlace} (h : DataW.trod enc Try.prog w base (fun _ => true) held fuel T [.slice a0 len cap] = some x) (hz : Rows.uptoBulk x.1 ≤ 1048576) :
  ∃ l : List Int, SlX R w.heap.size w (.slice a0 len cap) l ∧ l.length ≤ 1048576 ∧ ∀ y ∈ l, (Lit.int kd y).wf = true := by
 have hlen0 := up_slice hT h hz
 rcases open_slice hT h with ⟨hcs, _⟩ | ⟨a, len', cap', m, n, D, Pl, hcs, _, hl, hm, hmm, hx, hel⟩
 ·simp only [List.cons.injEq, Value.slice.injEq, and_true] at hcs
  obtain ⟨rfl, rfl, rfl⟩ := hcs
  exact ⟨[], SlX.nil _ _, by simp, by simp⟩
 ·simp only [List.cons.injEq, Value.slice.injEq, and_true] at hcs
  obtain ⟨rfl, rfl, rfl⟩ := hcs
  have hmc : m = cap := by simpa using hmm
  have hex : ∀ i, i < len → ∃ y : Int, w.cells? base (a.add (i * 1)) 1 = some (R.f y) ∧ (Lit.int kd y).wf = true := fun i hi => by
   obtain ⟨cs', h1, h2⟩ := hel i (by omega)
   obtain ⟨p, rfl, _, hw⟩ := DataW.trod_int hE h2
   rw [hc1] at h1
   exact ⟨p, by rw [hf1]; exact h1, hw⟩
  obtain ⟨f, hf⟩ := choose_lt hex
  have hlen : ((List.range len).map f).length = len := by simp
  refine ⟨(List.range len).map f, ⟨some a, cap, by rw [hlen], by rw [hlen]; simpa using hl, by omega, fun k x hx => ?_⟩, by omega, fun y hy => ?_⟩
  ·have hk : k < len := by have := (List.getElem?_eq_some_iff.1 hx).1; simpa using this
   rw [List.getElem?_map, List.getElem?_range hk] at hx
   simp only [Option.map_some, Option.some.injEq] at hx
   subst hx
   have hsp : a.spot = none := by
    obtain ⟨_, _, hh⟩ := World.cells?_some (hf 0 (by omega)).1
    have h0 : w.cell? (a.add (0 * 1)) = some (.int kd (f 0)) := by
     have h0 := hh 0 (by omega)
     rw [show (R.f (f 0))[0]? = some (.int kd (f 0)) from by rw [hf1]; rfl] at h0
     simpa [Addr.add] using h0
    have := World.cell?_spot h0
    simpa [Addr.add] using this
   have ea := addr_lit hsp
   have hr := (hf k hk).1
   rw [ea, Addr.add_lit] at hr
   have hr2 := cells_range hr rfl
   have hlt := World.block_lt_of_cell? w ⟨a.block, _, none⟩ (hr2 0 (.int kd (f k)) (by rw [hf1]; rfl))
   rw [hn]
   exact ⟨a.block, a.off, by rw [← ea], by have : a.block < w.heap.size := hlt; omega, hlt, hr2⟩
  ·obtain ⟨k, hk, rfl⟩ := List.mem_map.1 hy
   exact (hf k (by simpa using hk)).2
theorem open_u64sz {a0 : Option Addr} {len cap : Nat} {fuel : Nat} {x : DataW H × List MemPlace} (h : DataW.trod enc Try.prog w base (fun _ => true) held fuel 46 [.slice a0 len cap] = some x) (hz : Rows.uptoBulk x.1 ≤ 1048576) :
  ∃ l : List Int, SlX tU w.heap.size w (.slice a0 len cap) l ∧ l.length ≤ 1048576 ∧ ∀ y ∈ l, (Lit.int .u64 y).wf = true :=
 open_numx tU rfl (fun _ => rfl) Try.underlying46 Try.underlying51 (by kernel_rfl) h hz
end
end Go.Proofs.Ytndnfjcfpcfakaa
namespace Go.Fl
section
variable {nx : Nat → List Nat} {pl : Nat → Nat} {n : Nat} {ah : Nat → List Nat}
theorem Lp.dom {h x : Nat} (k : Lp nx n h x) : Dom nx h x := by
 induction k with
 | head => exact Dom.refl _ _
 | latch _ _ d => exact d
 | back _ hne _ hv ih => exact ih.pred (Ne.symm hne) hv
theorem RW.lt' (g : Gr nx pl n ah) {l : List Nat} {b : Nat} (h : RW nx l b) : b < n := h.lt g b h.mem
theorem Lp.way (g : Gr nx pl n ah) {h z : Nat} {l : List Nat} (hw : RW nx l z) : Lp nx n h z → ∃ c d, l = c ++ h :: d ∧ ∀ x ∈ c, Lp nx n h x ∧ x ≠ h := by
 induction hw with
 | root => exact fun k => ⟨[], [], by rw [k.dom.zero]; rfl, fun x hx => by cases hx⟩
 | @step l u v hl hv ih =>
  intro k
  by_cases e : v = h
  ·exact ⟨[], l, by rw [e]; rfl, fun x hx => by cases hx⟩
  ·obtain ⟨c, d, e1, h1⟩ := ih (Lp.back k e (hl.lt' g) hv)
   refine ⟨v :: c, d, by rw [e1]; rfl, fun x hx => ?_⟩
   rcases List.mem_cons.1 hx with rfl | hx
   ·exact ⟨k, e⟩
   ·exact h1 x hx
theorem RW.head {l : List Nat} {b x : Nat} (h : RW nx (x :: l) b) : x = b := by cases h <;> rfl
theorem RW.edge {y z b : Nat} {d : List Nat} : ∀ {c : List Nat}, RW nx (c ++ y :: z :: d) b → y ∈ nx z
 | [], h => by
  cases h with
  | step h1 h2 =>
   have e := h1.head
   rw [e]
   exact h2
 | x :: c, h => by
  cases hc : c ++ y :: z :: d with
  | nil => simp at hc
  | cons a r =>
   rw [List.cons_append, hc] at h
   cases h with
   | step h1 h2 =>
    rw [← hc] at h1
    exact RW.edge h1
theorem Hd.out (g : Gr nx pl n ah) (hr : ∀ b, b < n → ∃ w, RW nx w b) {h : Nat} (k : Hd nx n h) : ∃ y, y ∈ nx h ∧ (y = h ∨ Lp nx n h y) := by
 obtain ⟨u, hu, h1, h2⟩ := k
 by_cases e : u = h
 ·subst e; exact ⟨u, h1, Or.inl rfl⟩
 ·obtain ⟨w, hw⟩ := hr u hu
  obtain ⟨c, d, e1, h3⟩ := Lp.way g hw (Lp.latch hu h1 h2)
  rcases List.eq_nil_or_concat c with hc | ⟨c', y, hc⟩
  ·subst hc
   rw [e1] at hw
   exact absurd hw.head.symm e
  ·subst hc
   have e2 : c'.concat y ++ h :: d = c' ++ y :: h :: d := by simp
   rw [e1, e2] at hw
   exact ⟨y, hw.edge, Or.inr (h3 y (by simp)).1⟩
theorem Gr.way (g : Gr nx pl n ah) : ∀ k u, pl u ≤ k → u < n → ∃ w, RW nx w u ∧ ∀ x ∈ w, pl x ≤ pl u := by
 intro k
 induction k with
 | zero =>
  intro u hk hu
  by_cases h0 : u = 0
  ·subst h0
   exact ⟨[0], RW.root, fun x hx => by simp at hx; subst hx; omega⟩
  ·have := g.pos u hu h0; omega
 | succ k ih =>
  intro u hk hu
  by_cases h0 : u = 0
  ·subst h0
   exact ⟨[0], RW.root, fun x hx => by simp at hx; subst hx; omega⟩
  ·obtain ⟨p, hp, hlt⟩ := g.par u hu h0
   obtain ⟨hpn, hup⟩ := (g.mem p u hu).1 hp
   obtain ⟨w, hw, hx⟩ := ih p (by omega) hpn
   refine ⟨u :: w, RW.step hw hup, fun x hx' => ?_⟩
   rcases List.mem_cons.1 hx' with rfl | hx'
   ·omega
   ·have := hx x hx'; omega
theorem Gr.dle (g : Gr nx pl n ah) {u v : Nat} (hu : u < n) (h : Dom nx v u) : pl v ≤ pl u := by
 obtain ⟨w, hw, hx⟩ := g.way (pl u) u (Nat.le_refl _) hu
 exact hx v (h w hw)
theorem Gr.anti (g : Gr nx pl n ah) {u v : Nat} (hu : u < n) (hv : v < n) (h : Dom nx v u) (k : Dom nx u v) : u = v :=
 g.inj u v hu hv (Nat.le_antisymm (g.dle hv k) (g.dle hu h))
theorem Lp.inc (g : Gr nx pl n ah) {h1 h2 : Nat} (hn1 : h1 < n) (hn2 : h2 < n) (k : Lp nx n h2 h1) (hne : h1 ≠ h2) : ∀ x, Lp nx n h1 x → Lp nx n h2 x := fun x hx => by
 induction hx with
 | head => exact k
 | latch hu hm _ => exact Lp.back k hne hu hm
 | @back u v hk h3 hu hv ih =>
  refine Lp.back ih (fun e => ?_) hu hv
  subst e
  exact hne (g.anti hn2 hn1 hk.dom k.dom).symm
theorem Lp.out (g : Gr nx pl n ah) {h1 h2 : Nat} (hn1 : h1 < n) (hn2 : h2 < n) (k : Lp nx n h2 h1) (hne : h1 ≠ h2) : ¬ Lp nx n h1 h2 := fun k2 => hne (g.anti hn2 hn1 k2.dom k.dom).symm
end
theorem heads_sorted (l : List In) {i j : Nat} (hij : i < j) (hj : j < (heads l).length) : (heads l).getD i 0 < (heads l).getD j 0 := by
 have h : (heads l).Pairwise (· < ·) := List.Pairwise.filter _ List.pairwise_lt_range
 rw [List.getD_eq_getElem?_getD, List.getD_eq_getElem?_getD, List.getElem?_eq_getElem (by omega), List.getElem?_eq_getElem hj]
 exact List.pairwise_iff_getElem.1 h i j _ _ hij
theorem heads_of (l : List In) {i : Nat} (hi : i < (heads l).length) : (heads l).getD i 0 < nB l ∧ Hd (nxt l) (nB l) ((heads l).getD i 0) := by
 have h : (heads l).getD i 0 ∈ heads l := by
  rw [List.getD_eq_getElem?_getD, List.getElem?_eq_getElem hi]
  exact List.getElem_mem hi
 unfold heads at h
 rw [List.mem_filter] at h
 exact ⟨List.mem_range.1 h.1, headB_iff.1 h.2⟩
end Go.Fl
namespace Go.Ht
open Go.Fl Go.Proofs.Ytndnfjcfpcfakaa
set_option maxRecDepth 100000
def upd (W : Nat → Nat) (b x : Nat) : Nat → Nat := fun c => if c = b then x else W c
section
variable (l : List In)
noncomputable def nL : Nat := (heads l).length
noncomputable def hdN (i : Nat) : Nat := (heads l).getD i 0
noncomputable def inB (i b : Nat) : Bool := lpB l (hdN l i) b
noncomputable def blkL (i : Nat) : List Nat := ins (lpB l (hdN l i)) (nB l)
noncomputable def dm (a b : Nat) : Bool := domB (nxt l) (nB l) (a : Int) (b : Int)
noncomputable def hol (loop : Int) (b : Nat) : Bool := decide (loop < 0) || inB l loop.toNat b
noncomputable def inn (b : Nat) : Nat → Int
 | 0 => -1
 | k + 1 => if inB l k b = true ∧ (inn b k < 0 ∨ (blkL l k).length < (blkL l (inn b k).toNat).length) then (k : Int) else inn b k
noncomputable def hdd (b : Nat) : Nat → Int
 | 0 => -1
 | k + 1 => if hdN l k = b then (k : Int) else hdd b k
noncomputable def chT (b k mine oth : Nat) : Nat :=
 if dm l mine b = true ∧ dm l oth b = false then c78
 else if dm l oth b = true ∧ dm l mine b = false then c18
 else if 0 ≤ inn l b (nL l) ∧ inB l (inn l b (nL l)).toNat mine = true ∧ inB l (inn l b (nL l)).toNat oth = false then c78
 else if 0 ≤ inn l b (nL l) ∧ inB l (inn l b (nL l)).toNat oth = true ∧ inB l (inn l b (nL l)).toNat mine = false then c18
 else if k = 0 then c38 else c58
noncomputable def chn (b k : Nat) : Nat := if (nxt l b).length = 1 then one else chT l b k ((nxt l b).getD k 0) ((nxt l b).getD (1 - k) 0)
def egU (u b : Nat) : Nat → List (Nat × Nat)
 | 0 => []
 | k + 1 => if (nxt l u).getD k 0 = b then egU u b k ++ [(u, k)] else egU u b k
def egs (b : Nat) : Nat → List (Nat × Nat)
 | 0 => []
 | u + 1 => egs b u ++ egU l u b (nxt l u).length
noncomputable def brS (W : Nat → Nat) (loop : Int) (b : Nat) (bk : Bool) (s : Nat) (e : Nat × Nat) : Nat :=
 if hol l loop e.1 = true ∧ dm l b e.1 = bk then fadd s (fmul (W e.1) (chn l e.1 e.2)) else s
noncomputable def brg (W : Nat → Nat) (loop : Int) (b : Nat) (bk : Bool) : Nat := (egs l b (nB l)).foldl (brS l W loop b bk) 0
noncomputable def wgt (t : Nat → Nat) (loop : Int) (hd : Nat) (W : Nat → Nat) (b : Nat) : Nat :=
 let x := if b = hd then one else brg l W loop b false
 if 0 ≤ hdd l b (nL l) ∧ hdd l b (nL l) ≠ loop then fmul x (t (hdd l b (nL l)).toNat) else x
noncomputable def wst (t : Nat → Nat) (loop : Int) (hd : Nat) (W : Nat → Nat) (b : Nat) : Nat → Nat := if hol l loop b = true then upd W b (wgt l t loop hd W b) else W
noncomputable def wtK (t : Nat → Nat) (loop : Int) (hd : Nat) (bs : List Nat) : Nat → Nat := bs.foldl (wst l t loop hd) (fun _ => 0)
noncomputable def hd0 (loop : Int) : Nat := if loop < 0 then 0 else hdN l loop.toNat
noncomputable def ordL : List Nat := (dfsL (nxt l)).reverse
noncomputable def wts (t : Nat → Nat) (loop : Int) : Nat → Nat := wtK l t loop (hd0 l loop) (ordL l)
def mn (c : Nat) : Nat := if f31 < c then f31 else c
noncomputable def trn (t : Nat → Nat) (i : Nat) : Nat := frec (fsub one (mn (brg l (wts l t (i : Int)) (i : Int) (hdN l i) true)))
noncomputable def tnF : Nat → Nat → Nat
 | 0, _ => one
 | d + 1, i => trn l (tnF d) i
noncomputable def tT (i : Nat) : Nat := tnF l ((blkL l i).length + 1) i
end
section
variable {l : List In}
theorem mn_le (c : Nat) : mn c ≤ f31 := by
 unfold mn
 split <;> omega
theorem brS_le {W : Nat → Nat} {loop : Int} {b : Nat} {bk : Bool} {s : Nat} {e : Nat × Nat} (h : s ≤ inf) : brS l W loop b bk s e ≤ inf := by
 unfold brS
 split
 ·exact fadd_le _ _
 ·exact h
theorem brF_le {W : Nat → Nat} {loop : Int} {b : Nat} {bk : Bool} : ∀ {es : List (Nat × Nat)} {s : Nat}, s ≤ inf → es.foldl (brS l W loop b bk) s ≤ inf
 | [], _, h => h
 | _ :: es, _, h => brF_le (es := es) (brS_le h)
theorem brg_le {W : Nat → Nat} {loop : Int} {b : Nat} {bk : Bool} : brg l W loop b bk ≤ inf := brF_le (Nat.zero_le _)
theorem wgt_le {t : Nat → Nat} {loop : Int} {hd b : Nat} {W : Nat → Nat} : wgt l t loop hd W b ≤ inf := by
 unfold wgt
 have h1 : (if b = hd then one else brg l W loop b false) ≤ inf := by
  split
  ·decide
  ·exact brg_le
 dsimp only
 split
 ·exact fmul_le _ _
 ·exact h1
theorem wst_le {t : Nat → Nat} {loop : Int} {hd b : Nat} {W : Nat → Nat} (h : ∀ c, W c ≤ inf) : ∀ c, wst l t loop hd W b c ≤ inf := by
 intro c
 unfold wst
 split
 ·unfold upd
  split
  ·exact wgt_le
  ·exact h c
 ·exact h c
theorem wtF_le {t : Nat → Nat} {loop : Int} {hd : Nat} : ∀ {bs : List Nat} {W : Nat → Nat}, (∀ c, W c ≤ inf) → ∀ c, bs.foldl (wst l t loop hd) W c ≤ inf
 | [], _, h => h
 | _ :: bs, _, h => wtF_le (bs := bs) (wst_le h)
theorem wtK_le {t : Nat → Nat} {loop : Int} {hd : Nat} {bs : List Nat} : ∀ c, wtK l t loop hd bs c ≤ inf := wtF_le fun _ => Nat.zero_le _
theorem wts_le {t : Nat → Nat} {loop : Int} : ∀ c, wts l t loop c ≤ inf := wtK_le
theorem chT_in {b k mine oth : Nat} : 0 < chT l b k mine oth ∧ chT l b k mine oth < inf := by
 unfold chT
 repeat' split
 all_goals decide
theorem chn_in {b k : Nat} : 0 < chn l b k ∧ chn l b k < inf := by
 unfold chn
 split
 ·decide
 ·exact chT_in
theorem trn_in {t : Nat → Nat} {i : Nat} : one ≤ trn l t i ∧ trn l t i ≤ f32 := by
 unfold trn
 obtain ⟨_, h1, h2⟩ := left_nn (mn_le (brg l (wts l t (i : Int)) (i : Int) (hdN l i) true))
 exact (rec_nn h1 h2).2
theorem tnF_in {d i : Nat} : one ≤ tnF l d i ∧ tnF l d i ≤ f32 := by
 cases d with
 | zero => exact ⟨Nat.le_refl _, (by decide : one ≤ f32)⟩
 | succ d => exact trn_in
theorem tT_in {i : Nat} : one ≤ tT l i ∧ tT l i ≤ f32 := tnF_in
theorem hdN_inj {i j : Nat} (hi : i < nL l) (hj : j < nL l) (h : hdN l i = hdN l j) : i = j := by
 unfold nL at hi hj
 unfold hdN at h
 rcases Nat.lt_trichotomy i j with k | k | k
 ·have := heads_sorted l k hj; omega
 ·exact k
 ·have := heads_sorted l k hi; omega
theorem hdd_is {b : Nat} : ∀ {k : Nat}, (0 ≤ hdd l b k → (hdd l b k).toNat < k ∧ hdN l (hdd l b k).toNat = b) ∧ -1 ≤ hdd l b k ∧ hdd l b k < (k : Int)
 | 0 => by unfold hdd; omega
 | k + 1 => by
  obtain ⟨h1, h2, h3⟩ := @hdd_is b k
  unfold hdd
  by_cases e : hdN l k = b
  ·rw [if_pos e]
   refine ⟨fun _ => ⟨by omega, ?_⟩, by omega, by omega⟩
   rw [Int.toNat_natCast]
   exact e
  ·rw [if_neg e]
   exact ⟨fun h => ⟨by have := (h1 h).1; omega, (h1 h).2⟩, h2, by omega⟩
theorem inn_is {b : Nat} : ∀ {k : Nat}, -1 ≤ inn l b k ∧ inn l b k < (k : Int)
 | 0 => by unfold inn; omega
 | k + 1 => by
  obtain ⟨h2, h3⟩ := @inn_is b k
  unfold inn
  split <;> omega
theorem blk_lt (g : G7 l) {i j : Nat} (hi : i < nL l) (hj : j < nL l) (h : inB l i (hdN l j) = true) (hne : j ≠ i) : (blkL l j).length < (blkL l i).length := by
 obtain ⟨a1, a2⟩ := heads_of l hi
 obtain ⟨b1, b2⟩ := heads_of l hj
 have hgr := g.gr
 have hlp : Lp (nxt l) (nB l) (hdN l i) (hdN l j) := lpB_iff.1 h
 have hn : hdN l j ≠ hdN l i := fun e => hne (hdN_inj hj hi e)
 have inc := Lp.inc hgr b1 a1 hlp hn
 have out := Lp.out hgr b1 a1 hlp hn
 have nd : (blkL l j).Nodup := List.Pairwise.filter _ List.nodup_range
 have hx : hdN l i ∉ blkL l j := fun hm => by
  unfold blkL ins at hm
  exact out (lpB_iff.1 (List.mem_filter.1 hm).2)
 have hnd : (hdN l i :: blkL l j).Nodup := List.nodup_cons.2 ⟨hx, nd⟩
 have hsub : ∀ x ∈ hdN l i :: blkL l j, x ∈ blkL l i := fun x hm => by
  unfold blkL ins
  rcases List.mem_cons.1 hm with rfl | hm
  ·exact List.mem_filter.2 ⟨List.mem_range.2 a1, lpB_iff.2 Lp.head⟩
  ·unfold blkL ins at hm
   obtain ⟨m1, m2⟩ := List.mem_filter.1 hm
   exact List.mem_filter.2 ⟨m1, lpB_iff.2 (inc x (lpB_iff.1 m2))⟩
 have := List.Nodup.length_le_of_subset hnd hsub
 rw [List.length_cons] at this
 omega
theorem wgt_congr {t t' : Nat → Nat} {loop : Int} {hd b : Nat} {W : Nat → Nat} (h : ∀ i, i < nL l → hol l loop (hdN l i) = true → (i : Int) ≠ loop → t i = t' i) (hh : hol l loop b = true) : wgt l t loop hd W b = wgt l t' loop hd W b := by
 unfold wgt
 obtain ⟨x, hx⟩ : ∃ x, x = (if b = hd then one else brg l W loop b false) := ⟨_, rfl⟩
 rw [← hx]
 dsimp only
 by_cases h2 : 0 ≤ hdd l b (nL l) ∧ hdd l b (nL l) ≠ loop
 ·rw [if_pos h2, if_pos h2]
  obtain ⟨k1, k2⟩ := (hdd_is (l := l) (b := b) (k := nL l)).1 h2.1
  have e : t (hdd l b (nL l)).toNat = t' (hdd l b (nL l)).toNat := h _ k1 (by rw [k2]; exact hh) (by rw [Int.toNat_of_nonneg h2.1]; exact h2.2)
  exact congrArg (fmul x) e
 ·rw [if_neg h2, if_neg h2]
theorem wst_congr {t t' : Nat → Nat} {loop : Int} {hd b : Nat} {W : Nat → Nat} (h : ∀ i, i < nL l → hol l loop (hdN l i) = true → (i : Int) ≠ loop → t i = t' i) : wst l t loop hd W b = wst l t' loop hd W b := by
 unfold wst
 by_cases hh : hol l loop b = true
 ·rw [if_pos hh, if_pos hh]
  exact congrArg (upd W b) (wgt_congr h hh)
 ·rw [if_neg hh, if_neg hh]
theorem fold_same {α β : Type} {f f' : α → β → α} (h : ∀ a b, f a b = f' a b) (bs : List β) (a : α) : bs.foldl f a = bs.foldl f' a := by
 rw [show f = f' from funext fun a => funext fun b => h a b]
theorem wtK_congr {t t' : Nat → Nat} {loop : Int} {hd : Nat} {bs : List Nat} (h : ∀ i, i < nL l → hol l loop (hdN l i) = true → (i : Int) ≠ loop → t i = t' i) : wtK l t loop hd bs = wtK l t' loop hd bs := by
 unfold wtK
 exact fold_same (fun W b => wst_congr (W := W) (b := b) h) bs _
theorem hol_in {i : Nat} {b : Nat} (h : hol l (i : Int) b = true) : inB l i b = true := by
 unfold hol at h
 rw [decide_eq_false (by omega), Bool.false_or, Int.toNat_natCast] at h
 exact h
theorem trn_congr (g : G7 l) {t t' : Nat → Nat} {i : Nat} (hi : i < nL l) (h : ∀ j, j < nL l → (blkL l j).length < (blkL l i).length → t j = t' j) : trn l t i = trn l t' i := by
 unfold trn wts
 rw [wtK_congr fun j hj hh hne => h j hj (blk_lt g hi hj (hol_in hh) (by omega))]
theorem tnF_eq (g : G7 l) : ∀ {d d' i : Nat}, i < nL l → (blkL l i).length < d → (blkL l i).length < d' → tnF l d i = tnF l d' i
 | 0, _, _, _, h, _ => by omega
 | _, 0, _, _, _, h => by omega
 | d + 1, d' + 1, i, hi, h, h' => by
  unfold tnF
  exact trn_congr g hi fun j hj hl => tnF_eq g hj (by omega) (by omega)
theorem tT_eq (g : G7 l) {i : Nat} (hi : i < nL l) : tT l i = trn l (tT l) i := by
 show trn l (tnF l (blkL l i).length) i = _
 exact trn_congr g hi fun j hj hl => tnF_eq g hj hl (by omega)
theorem trn_ops {c : Nat} (hc : c ≤ inf) : Ieee.double.sub one (mn c) = some (fsub one (mn c)) ∧ Ieee.double.div one (fsub one (mn c)) = some (frec (fsub one (mn c))) := by
 have _ := hc
 obtain ⟨h0, h1, h2⟩ := left_nn (mn_le c)
 exact ⟨h0, (rec_nn h1 h2).1⟩
end
end Go.Ht
namespace Go.Proofs.Ytndnfjcfpcfakaa
open Go Go.RowKit Go.Wr Go.Fl Go.Ht
set_option maxHeartbeats 4000000
set_option maxRecDepth 100000
theorem Bd.next {l : List In} {p : Nat} {w : World} {ab : Option Addr} {n cb : Nat} (h : Bd p w (.slice ab n cb) (dB l)) {b : Nat} (hb : b < nB l) :
  ∃ g o na nn nc, ab = some ⟨g, o, none⟩ ∧ w.cell? ⟨g, o + b * 3 + 2, none⟩ = some (.slice na nn nc) ∧ nn = (nxt l b).length ∧ SlX tI p w (.slice na nn nc) (nI (nxt l b)) := by
 obtain ⟨bs, h1, h2, h3⟩ := h.sl
 have hbs : b < bs.length := by rw [h2, dB_len]; exact hb
 obtain ⟨k, hk⟩ : ∃ k, bs[b]? = some k := ⟨_, List.getElem?_eq_getElem hbs⟩
 obtain ⟨g, o, e1, _, hat⟩ := h1.get hk
 obtain ⟨_, _, h6⟩ := h3 b k _ hk (dB_get hb)
 have hc := hat.cell 2 _ rfl
 obtain ⟨fr, to', ⟨na, nn, nc⟩⟩ := k
 have hlen := SlX.len h6
 rw [nI_len] at hlen
 exact ⟨g, o, na, nn, nc, e1, hc, hlen, h6⟩
theorem Ld.one {l : List In} {p : Nat} {w : World} {al : Option Addr} {n cl : Nat} (h : Ld p w (.slice al n cl) (dL l)) {i : Nat} (hi : i < nL l) :
  ∃ g o ba bn bc, al = some ⟨g, o, none⟩ ∧ w.cell? ⟨g, o + i * 3, none⟩ = some (.int .i64 (hdN l i : Int)) ∧ w.cell? ⟨g, o + i * 3 + 1, none⟩ = some (.slice ba bn bc) ∧ bn = (blkL l i).length ∧ SlX tI p w (.slice ba bn bc) (nI (blkL l i)) := by
 obtain ⟨ls, h1, h2, h3⟩ := h.sl
 have hls : i < ls.length := by rw [h2, dL_len]; exact hi
 obtain ⟨k, hk⟩ : ∃ k, ls[i]? = some k := ⟨_, List.getElem?_eq_getElem hls⟩
 obtain ⟨g, o, e1, _, hat⟩ := h1.get hk
 obtain ⟨h4, _, h6⟩ := h3 i k _ hk (dL_get hi)
 have hc0 := hat.cell 0 _ rfl
 have hc1 := hat.cell 1 _ rfl
 obtain ⟨hd, ⟨ba, bn, bc⟩, pa⟩ := k
 have hlen := SlX.len h6
 rw [nI_len] at hlen
 simp only at h4
 subst h4
 exact ⟨g, o, ba, bn, bc, e1, hc0, hc1, hlen, h6⟩
structure RRp (l : List In) (q : Nat) (ab ad al : Option Addr) (cb cd cl : Nat) (vr : Value) (w : World) : Prop where
 g : G7 l
 lt : q < w.heap.size
 c0 : w.cell? ⟨q, 0, none⟩ = some (.slice ab (nB l) cb)
 c1 : w.cell? ⟨q, 1, none⟩ = some (.slice ad (nB l) cd)
 c2 : w.cell? ⟨q, 2, none⟩ = some (.slice al (nL l) cl)
 c3 : w.cell? ⟨q, 3, none⟩ = some vr
 bd : Bd q w (.slice ab (nB l) cb) (dB l)
 ld : Ld q w (.slice al (nL l) cl) (dL l)
 ro : SlX tI q w vr (nI (ordL l))
 dt : ∀ v, v < nB l → ∃ g o da dc, ad = some ⟨g, o, none⟩ ∧ w.cell? ⟨g, o + v, none⟩ = some (.slice da (nB l) dc) ∧ ∀ u, u < nB l → ∃ g' o', da = some ⟨g', o', none⟩ ∧ w.cell? ⟨g', o' + u, none⟩ = some (.bool (dm l v u))
 lc : cb ≤ maxLen ∧ cl ≤ maxLen ∧ cd ≤ maxLen
theorem RRp.drewN {l : List In} {q : Nat} {ab ad al : Option Addr} {cb cd cl : Nat} {vr : Value} {w : World} (h : RRp l q ab ad al cb cd cl vr w) (k : Nat) : RRp l q ab ad al cb cd cl vr (w.drewN k) :=
 ⟨h.g, h.lt, h.c0, h.c1, h.c2, h.c3, h.bd.below (bDrewN (bRefl w) k), h.ld.below (bDrewN (bRefl w) k), h.ro.below (bDrewN (bRefl w) k), h.dt, h.lc⟩
section
variable {l : List In} {b k mine oth : Nat}
theorem chT_d1 (h1 : dm l mine b = true) (h2 : dm l oth b = false) : chT l b k mine oth = c78 := by unfold chT; rw [if_pos ⟨h1, h2⟩]
theorem chT_d2 (h1 : dm l mine b = false) (h2 : dm l oth b = true) : chT l b k mine oth = c18 := by unfold chT; rw [if_neg (by rw [h1]; simp), if_pos ⟨h2, h1⟩]
theorem chT_nd (h : dm l mine b = dm l oth b) : chT l b k mine oth = if 0 ≤ inn l b (nL l) ∧ inB l (inn l b (nL l)).toNat mine = true ∧ inB l (inn l b (nL l)).toNat oth = false then c78
 else if 0 ≤ inn l b (nL l) ∧ inB l (inn l b (nL l)).toNat oth = true ∧ inB l (inn l b (nL l)).toNat mine = false then c18
 else if k = 0 then c38 else c58 := by
 unfold chT
 rw [h, if_neg (fun k => by rw [k.1] at k; exact absurd k.2 (by simp)), if_neg (fun k => by rw [k.1] at k; exact absurd k.2 (by simp))]
theorem chT_i1 {t : Nat} (h : dm l mine b = dm l oth b) (ht : inn l b (nL l) = (t : Int)) (h1 : inB l t mine = true) (h2 : inB l t oth = false) : chT l b k mine oth = c78 := by
 rw [chT_nd h, ht, Int.toNat_natCast, if_pos ⟨by omega, h1, h2⟩]
theorem chT_i2 {t : Nat} (h : dm l mine b = dm l oth b) (ht : inn l b (nL l) = (t : Int)) (h1 : inB l t mine = false) (h2 : inB l t oth = true) : chT l b k mine oth = c18 := by
 rw [chT_nd h, ht, Int.toNat_natCast, if_neg (fun k => by rw [h1] at k; exact absurd k.2.1 (by simp)), if_pos ⟨by omega, h2, h1⟩]
theorem chT_s {t : Nat} (h : dm l mine b = dm l oth b) (ht : inn l b (nL l) = (t : Int)) (h1 : inB l t mine = inB l t oth) : chT l b k mine oth = if k = 0 then c38 else c58 := by
 rw [chT_nd h, ht, Int.toNat_natCast, h1, if_neg (fun k => by rw [k.2.1] at k; exact absurd k.2.2 (by simp)), if_neg (fun k => by rw [k.2.1] at k; exact absurd k.2.2 (by simp))]
theorem chT_n (h : dm l mine b = dm l oth b) (ht : inn l b (nL l) < 0) : chT l b k mine oth = if k = 0 then c38 else c58 := by
 rw [chT_nd h, if_neg (fun k => by omega), if_neg (fun k => by omega)]
end
theorem nI_at {x : List Nat} {k : Nat} (h : k < x.length) : (nI x)[k]? = some ((x.getD k 0 : Nat) : Int) := by
 unfold nI
 rw [List.getElem?_map, List.getD_eq_getElem?_getD, List.getElem?_eq_getElem h]
 rfl
theorem nx_lt {l : List In} (g : G7 l) {b k : Nat} (hb : b < nB l) (h : k < (nxt l b).length) : (nxt l b).getD k 0 < nB l :=
 g.nlt b hb _ (by rw [List.getD_eq_getElem?_getD, List.getElem?_eq_getElem h]; exact List.getElem_mem h)
end Go.Proofs.Ytndnfjcfpcfakaa
namespace Go.Ht
structure Ord (R : Int → Int → Prop) (bl : Int → Int → Bool) (D : Int → Prop) : Prop where
 tr : ∀ {x y z : Int}, D x → D y → D z → R x y → R y z → R x z
 yes : ∀ {x y : Int}, D x → D y → x < y → bl y x = true → R y x
 no : ∀ {x y : Int}, D x → D y → x < y → bl y x = false → R x y
def Al (D : Int → Prop) (l : List Int) : Prop := ∀ x ∈ l, D x
def Bef (X Y : List Int) : Prop := ∀ x ∈ X, ∀ y ∈ Y, x < y
def Asc (l : List Int) : Prop := l.Pairwise (· < ·)
theorem set_mid (A B : List Int) (x y : Int) (k : Nat) (hk : k = A.length) : (A ++ x :: B).set k y = A ++ y :: B := by
 subst hk
 rw [List.set_append_right _ _ (Nat.le_refl _), Nat.sub_self]
 rfl
theorem get_mid (A B : List Int) (x : Int) (k : Nat) (hk : k = A.length) : (A ++ x :: B)[k]? = some x := by
 subst hk
 rw [List.getElem?_append_right (Nat.le_refl _), Nat.sub_self]
 rfl
theorem Al.app {D : Int → Prop} {X Y : List Int} (h : Al D (X ++ Y)) : Al D X ∧ Al D Y := ⟨fun x hx => h x (List.mem_append_left _ hx), fun x hx => h x (List.mem_append_right _ hx)⟩
theorem Al.perm {D : Int → Prop} {X Y : List Int} (h : Al D X) (p : Y.Perm X) : Al D Y := fun x hx => h x (p.subset hx)
theorem Bef.perm {X Y X' Y' : List Int} (h : Bef X Y) (p : X'.Perm X) (q : Y'.Perm Y) : Bef X' Y' := fun x hx y hy => h x (p.subset hx) y (q.subset hy)
theorem Asc.app {X Y : List Int} (h : Asc (X ++ Y)) : Asc X ∧ Asc Y ∧ Bef X Y := List.pairwise_append.1 h
section
variable {R : Int → Int → Prop} {bl : Int → Int → Bool} {D : Int → Prop}
theorem srt_last {A : List Int} {s x : Int} (h : (A ++ [s]).Pairwise R) (hx : x ∈ A ++ [s]) : x = s ∨ R x s := by
 rcases List.mem_append.1 hx with hx | hx
 ·exact Or.inr ((List.pairwise_append.1 h).2.2 x hx s (List.mem_singleton.2 rfl))
 ·exact Or.inl (List.mem_singleton.1 hx)
theorem srt_first {A : List Int} {s x : Int} (h : (s :: A).Pairwise R) (hx : x ∈ s :: A) : x = s ∨ R s x := by
 rcases List.mem_cons.1 hx with hx | hx
 ·exact Or.inl hx
 ·exact Or.inr ((List.pairwise_cons.1 h).1 x hx)
theorem all_ahead (O : Ord R bl D) {A : List Int} {y : Int} (h : A.Pairwise R) (hD : Al D A) (hy : D y) (hl : A = [] ∨ ∃ A' s, A = A' ++ [s] ∧ R s y) : ∀ x ∈ A, R x y := by
 intro x hx
 rcases hl with rfl | ⟨A', s, rfl, hs⟩
 ·cases hx
 ·rcases srt_last h hx with rfl | k
  ·exact hs
  ·exact O.tr (hD x hx) (hD s (List.mem_append_right _ (List.mem_singleton.2 rfl))) hy k hs
theorem all_behind (O : Ord R bl D) {A : List Int} {y : Int} (h : A.Pairwise R) (hD : Al D A) (hy : D y) (hl : A = [] ∨ ∃ s A', A = s :: A' ∧ R y s) : ∀ x ∈ A, R y x := by
 intro x hx
 rcases hl with rfl | ⟨s, A', rfl, hs⟩
 ·cases hx
 ·rcases srt_first h hx with rfl | k
  ·exact hs
  ·exact O.tr hy (hD s (List.mem_cons_self ..)) (hD x hx) hs k
theorem srt_put {A B : List Int} {y : Int} (h : (A ++ B).Pairwise R) (h1 : ∀ x ∈ A, R x y) (h2 : ∀ x ∈ B, R y x) : (A ++ y :: B).Pairwise R := by
 obtain ⟨a, b, c⟩ := List.pairwise_append.1 h
 refine List.pairwise_append.2 ⟨a, List.pairwise_cons.2 ⟨h2, b⟩, fun x hx z hz => ?_⟩
 rcases List.mem_cons.1 hz with rfl | hz
 ·exact h1 x hx
 ·exact c x hx z hz
theorem cut_ahead (O : Ord R bl D) {X1 X2 Y1 Y2 : List Int} (hX : (X1 ++ X2).Pairwise R) (hY : (Y1 ++ Y2).Pairwise R) (hD : Al D (X1 ++ X2)) (hE : Al D (Y1 ++ Y2))
  (h1 : X1 = [] ∨ Y2 = [] ∨ ∃ A s t B, X1 = A ++ [s] ∧ Y2 = t :: B ∧ R s t) (h2 : X2 = [] ∨ Y1 = [] ∨ ∃ A s t B, Y1 = A ++ [s] ∧ X2 = t :: B ∧ R s t) : ∀ u ∈ X1 ++ Y1, ∀ v ∈ X2 ++ Y2, R u v := by
 obtain ⟨x1, x2, x3⟩ := List.pairwise_append.1 hX
 obtain ⟨y1, y2, y3⟩ := List.pairwise_append.1 hY
 have k1 : ∀ u ∈ X1, ∀ v ∈ Y2, R u v := fun u hu v hv => by
  rcases h1 with rfl | rfl | ⟨A, s, t, B, rfl, rfl, hst⟩
  ·cases hu
  ·cases hv
  ·have hs : R s v := all_behind O y2 hE.app.2 (hD.app.1 s (List.mem_append_right _ (List.mem_singleton.2 rfl))) (Or.inr ⟨t, B, rfl, hst⟩) v hv
   exact all_ahead O x1 hD.app.1 (hE.app.2 v hv) (Or.inr ⟨A, s, rfl, hs⟩) u hu
 have k2 : ∀ u ∈ Y1, ∀ v ∈ X2, R u v := fun u hu v hv => by
  rcases h2 with rfl | rfl | ⟨A, s, t, B, rfl, rfl, hst⟩
  ·cases hv
  ·cases hu
  ·have hs : R s v := all_behind O x2 hD.app.2 (hE.app.1 s (List.mem_append_right _ (List.mem_singleton.2 rfl))) (Or.inr ⟨t, B, rfl, hst⟩) v hv
   exact all_ahead O y1 hE.app.1 (hD.app.2 v hv) (Or.inr ⟨A, s, rfl, hs⟩) u hu
 intro u hu v hv
 rcases List.mem_append.1 hu with hu | hu <;> rcases List.mem_append.1 hv with hv | hv
 ·exact x3 u hu v hv
 ·exact k1 u hu v hv
 ·exact k2 u hu v hv
 ·exact y3 u hu v hv
inductive Bl (R : Int → Int → Prop) (n : Nat) : List Int → List Int → Prop
 | last {X Z : List Int} : X.length ≤ n → Z.Perm X → Z.Pairwise R → Bl R n X Z
 | cons {X Z O C : List Int} : X.length = n → Z.Perm X → Z.Pairwise R → Bl R n O C → Bl R n (X ++ O) (Z ++ C)
inductive Bf (R : Int → Int → Prop) (n : Nat) : List Int → List Int → Prop
 | nil : Bf R n [] []
 | snoc {X Z O C : List Int} : Bf R n O C → X.length = n → Z.Perm X → Z.Pairwise R → Bf R n (O ++ X) (C ++ Z)
theorem Bl.perm {n : Nat} {O C : List Int} (h : Bl R n O C) : C.Perm O := by
 induction h with
 | last _ hp _ => exact hp
 | cons _ hp _ _ ih => exact List.Perm.append hp ih
theorem Bf.perm {n : Nat} {O C : List Int} (h : Bf R n O C) : C.Perm O := by
 induction h with
 | nil => exact List.Perm.refl _
 | snoc _ _ hp _ ih => exact List.Perm.append ih hp
theorem Bf.join {n : Nat} {O C : List Int} (h : Bf R n O C) : ∀ {O' C' : List Int}, Bl R n O' C' → Bl R n (O ++ O') (C ++ C') := by
 induction h with
 | nil => intro O' C' h'; exact h'
 | snoc _ hl hp hs ih =>
  intro O' C' h'
  rw [List.append_assoc, List.append_assoc]
  exact ih (Bl.cons hl hp hs h')
theorem Bl.first {n : Nat} {O C : List Int} (h : Bl R n O C) (hn : n ≤ C.length) : ∃ X O' Z C', O = X ++ O' ∧ C = Z ++ C' ∧ X.length = n ∧ Z.Perm X ∧ Z.Pairwise R ∧ Bl R n O' C' := by
 cases h with
 | last hl hp hs => exact ⟨O, [], C, [], by simp, by simp, by have := hp.length_eq; omega, hp, hs, Bl.last (by simp) (List.Perm.refl _) List.Pairwise.nil⟩
 | cons hl hp hs h => exact ⟨_, _, _, _, rfl, rfl, hl, hp, hs, h⟩
theorem Bl.whole {n : Nat} {O C : List Int} (h : Bl R n O C) (hn : C.length ≤ n) : C.Perm O ∧ C.Pairwise R := by
 refine ⟨h.perm, ?_⟩
 cases h with
 | last _ _ hs => exact hs
 | @cons X Z O C hl hp hs h =>
  have e := hp.length_eq
  rw [List.length_append] at hn
  have hC : C = [] := List.length_eq_zero_iff.1 (by omega)
  rw [hC, List.append_nil]
  exact hs
end
theorem swap_mid (A B : List Int) (s y : Int) (k : Nat) (hk : k = A.length) : ((A ++ s :: y :: B).set (k + 1) s).set k y = A ++ y :: s :: B := by
 have e : (A ++ s :: y :: B) = (A ++ [s]) ++ y :: B := by simp
 rw [e, set_mid _ _ _ _ _ (by rw [List.length_append]; simp [hk])]
 have e2 : (A ++ [s] ++ s :: B) = A ++ s :: (s :: B) := by simp
 rw [e2, set_mid _ _ _ _ _ hk]
theorem swap_mid' (A B : List Int) (s y : Int) (k : Nat) (hk : k = A.length) : ((A ++ s :: y :: B).set k y).set (k + 1) s = A ++ y :: s :: B := by
 rw [set_mid _ _ _ _ _ hk]
 have e : (A ++ y :: y :: B) = (A ++ [y]) ++ y :: B := by simp
 rw [e, set_mid _ _ _ _ _ (by rw [List.length_append]; simp [hk])]
 simp
theorem swap_far (P A X M B Y Q : List Int) (x y : Int) (i j : Nat) (hi : i = P.length + A.length) (hj : j = P.length + A.length + 1 + X.length + M.length + B.length) :
  ((P ++ (A ++ (x :: X ++ (M ++ (B ++ (y :: Y ++ Q)))))).set i y).set j x = P ++ (A ++ [y] ++ (X ++ (M ++ (B ++ [x] ++ (Y ++ Q))))) := by
 have e : P ++ (A ++ (x :: X ++ (M ++ (B ++ (y :: Y ++ Q))))) = (P ++ A) ++ x :: (X ++ (M ++ (B ++ (y :: Y ++ Q)))) := by simp
 rw [e, set_mid _ _ _ _ _ (by rw [List.length_append, hi])]
 have e2 : (P ++ A) ++ y :: (X ++ (M ++ (B ++ (y :: Y ++ Q)))) = (P ++ A ++ [y] ++ X ++ M ++ B) ++ y :: (Y ++ Q) := by simp
 rw [e2, set_mid _ _ _ _ _ (by simp only [List.length_append, List.length_singleton]; omega)]
 simp
theorem far_get (P A X M B Y Q : List Int) (x y : Int) (i j : Nat) (hi : i = P.length + A.length) (hj : j = P.length + A.length + 1 + X.length + M.length + B.length) :
  (P ++ (A ++ (x :: X ++ (M ++ (B ++ (y :: Y ++ Q))))))[i]? = some x ∧ (P ++ (A ++ (x :: X ++ (M ++ (B ++ (y :: Y ++ Q))))))[j]? = some y := by
 have e : P ++ (A ++ (x :: X ++ (M ++ (B ++ (y :: Y ++ Q))))) = (P ++ A) ++ x :: (X ++ (M ++ (B ++ (y :: Y ++ Q)))) := by simp
 have e2 : P ++ (A ++ (x :: X ++ (M ++ (B ++ (y :: Y ++ Q))))) = (P ++ A ++ [x] ++ X ++ M ++ B) ++ y :: (Y ++ Q) := by simp
 refine ⟨by rw [e]; exact get_mid _ _ _ _ (by rw [List.length_append, hi]), by rw [e2]; exact get_mid _ _ _ _ (by simp only [List.length_append, List.length_singleton]; omega)⟩
theorem get_X (P X Q : List Int) (c i : Nat) (hc : c = P.length + i) (hi : i < X.length) : (P ++ (X ++ Q))[c]? = X[i]? := by
 rw [List.getElem?_append_right (by omega), hc, Nat.add_sub_cancel_left, List.getElem?_append_left hi]
theorem get_Y (P X Y Q : List Int) (c i : Nat) (hc : c = P.length + X.length + i) (hi : i < Y.length) : (P ++ (X ++ (Y ++ Q)))[c]? = Y[i]? := by
 rw [← List.append_assoc]
 exact get_X (P ++ X) Y Q c i (by rw [List.length_append, hc]) hi
theorem cut_at (X : List Int) (k : Nat) (h : k ≤ X.length) : ∃ A B, X = A ++ B ∧ A.length = k := ⟨X.take k, X.drop k, (List.take_append_drop k X).symm, by rw [List.length_take]; omega⟩
theorem cut_last (A B : List Int) (k : Nat) (x : Int) (h : A.length = k + 1) (hx : (A ++ B)[k]? = some x) : ∃ A', A = A' ++ [x] := by
 have hne : A ≠ [] := fun e => by rw [e] at h; simp at h
 have e := List.dropLast_concat_getLast hne
 rw [List.getElem?_append_left (by omega), ← e, List.getElem?_append_right (by rw [List.length_dropLast]; omega), List.length_dropLast, show k - (A.length - 1) = 0 by omega] at hx
 injection hx with hx
 rw [hx] at e
 exact ⟨_, e.symm⟩
theorem cut_first (A B : List Int) (k : Nat) (x : Int) (h : A.length = k) (hx : (A ++ B)[k]? = some x) : ∃ B', B = x :: B' := by
 rw [List.getElem?_append_right (by omega), h, Nat.sub_self] at hx
 cases B with
 | nil => cases hx
 | cons y B => injection hx with hx; exact ⟨B, by rw [hx]⟩
end Go.Ht
