/- What the law needs, one part after another: walks of functions and plain laws. No conditions but those that each law names. -/
import Derived.Test.YtndnfjcfpcfakaaFran
import Derived.Lib.SliceRun
namespace Go.Proofs.Ytndnfjcfpcfakaa
open Go Go.RowKit Go.Wr Go.Fl
set_option maxHeartbeats 4000000
set_option maxRecDepth 100000
theorem copyInts_ok (w : World) (p : Nat) (v : Value) (l : List Int) (h : SlX tI p w v l) (hl : l.length ≤ 1099511627776) :
  Calls Try.prog 9 #[v] w fun e w' => Below w.heap.size w w' ∧ ∃ v', e = .returned v' ∧ OwR tI w.heap.size w' v' l := by
 obtain ⟨a0, cap, rfl, h1, h2⟩ := h.form
 unfold maxLen at h2
 by_cases hb : l = []
 ·subst hb
  cases a0 with
  | none =>
   clear h
   go_enter Try.func9, Try.ntmps9
   go_wp2
   go_ret
   exact ⟨bRefl w, .slice none 0 0, rfl, World.ownsRow_nil _ _ _ _⟩
  | some ad =>
   clear h
   go_enter Try.func9, Try.ntmps9
   go_wp2
   go_ret
   exact ⟨bRefl w, .slice none 0 0, rfl, World.ownsRow_nil _ _ _ _⟩
 ·have hpos : 0 < l.length := List.length_pos_iff.2 hb
  obtain ⟨b, o, rfl, _⟩ := h.get (List.getElem?_eq_getElem hpos)
  have HN := Lib.hid (slx_ints h)
  clear h
  go_enter Try.func9, Try.ntmps9
  go_wp2_with (at_builtin; refine wpl_push tI rfl _ _ rfl w.heap.size (.slice none 0 0) [] rfl (World.ownsRow_nil _ _ _ _) b o l.length cap l rfl rfl HN.out (by unfold maxLen; simp; omega) (by show _ * 8 ≤ _; simp; omega) (by omega) ?_; intro v' w9 hown hgrow hform)
  have hb9 := (bRefl w).grown hgrow (Nat.le_refl _) (fun k hk => by cases hk)
  obtain ⟨g, c', rfl, _⟩ := hform hb
  have HW := Lib.hid hown
  clear hown hgrow hform
  go_wp2
  go_ret
  exact ⟨hb9, _, rfl, HW.out⟩
end Go.Proofs.Ytndnfjcfpcfakaa
namespace Go.Proofs.Ytndnfjcfpcfakaa
open Go Go.RowKit Go.Wr Go.Fl
set_option maxHeartbeats 4000000
set_option maxRecDepth 100000
end Go.Proofs.Ytndnfjcfpcfakaa
namespace Go.Proofs.Ytndnfjcfpcfakaa
open Go Go.RowKit Go.Wr Go.Fl
set_option maxHeartbeats 4000000
set_option maxRecDepth 100000
end Go.Proofs.Ytndnfjcfpcfakaa
namespace Go.Proofs.Ytndnfjcfpcfakaa
open Go Go.RowKit Go.Wr Go.Fl
set_option maxHeartbeats 4000000
set_option maxRecDepth 100000
end Go.Proofs.Ytndnfjcfpcfakaa
namespace Go.Proofs.Ytndnfjcfpcfakaa
open Go Go.RowKit Go.Wr Go.Fl
set_option maxHeartbeats 4000000
set_option maxRecDepth 100000
end Go.Proofs.Ytndnfjcfpcfakaa
namespace Go.Proofs.Ytndnfjcfpcfakaa
open Go Go.RowKit Go.Wr Go.Fl
set_option maxHeartbeats 4000000
set_option maxRecDepth 100000
end Go.Proofs.Ytndnfjcfpcfakaa
namespace Go.Proofs.Ytndnfjcfpcfakaa
open Go Go.RowKit Go.Wr Go.Fl
set_option maxHeartbeats 4000000
set_option maxRecDepth 100000
end Go.Proofs.Ytndnfjcfpcfakaa
namespace Go.Proofs.Ytndnfjcfpcfakaa
open Go Go.RowKit Go.Wr Go.Fl
set_option maxHeartbeats 4000000
set_option maxRecDepth 100000
end Go.Proofs.Ytndnfjcfpcfakaa
namespace Go.Proofs.Ytndnfjcfpcfakaa
open Go Go.RowKit Go.Wr Go.Fl
set_option maxHeartbeats 4000000
set_option maxRecDepth 100000
end Go.Proofs.Ytndnfjcfpcfakaa
namespace Go.Proofs.Ytndnfjcfpcfakaa
open Go Go.RowKit Go.Wr Go.Fl
set_option maxRecDepth 100000
end Go.Proofs.Ytndnfjcfpcfakaa
namespace Go.Proofs.Ytndnfjcfpcfakaa
open Go Go.RowKit Go.Wr Go.Fl
set_option maxHeartbeats 4000000
set_option maxRecDepth 100000
end Go.Proofs.Ytndnfjcfpcfakaa
namespace Go.Wr
open Go Go.RowKit
section
variable {P : Program} {α : Type} {R : RT P α}
end
end Go.Wr
namespace Go.Proofs.Ytndnfjcfpcfakaa
open Go Go.RowKit Go.Wr Go.Fl
set_option maxHeartbeats 4000000
set_option maxRecDepth 100000
end Go.Proofs.Ytndnfjcfpcfakaa
namespace Go.Proofs.Ytndnfjcfpcfakaa
open Go Go.RowKit Go.Wr Go.Fl
set_option maxHeartbeats 4000000
set_option maxRecDepth 100000
end Go.Proofs.Ytndnfjcfpcfakaa
namespace Go.Proofs.Ytndnfjcfpcfakaa
open Go Go.RowKit Go.Wr Go.Fl
open Go.ChangeShapes Go.WideShapes Go.ChangeAt Go.Deep
set_option maxHeartbeats 2000000
set_option maxRecDepth 100000
theorem up_one {H : Type} (d : DataW H) : 1 ≤ Rows.uptoBulk d := by
 cases d with
 | lit l => cases l <;> simp [Rows.uptoBulk]
 | _ => simp [Rows.uptoBulk]
theorem up_len {H : Type} (l : List (DataW H)) : l.length ≤ Rows.uptoBulkAll l := by
 induction l with
 | nil => simp
 | cons x r ih => have := up_one x; simp only [Rows.uptoBulkAll, List.length_cons]; omega
theorem up_slice {H : Type} {enc : TypeId × Value → H} {w : World} {base : Nat} {held : Bool} {T E : TypeId} (hT : Try.prog.underlying T = some (.slice E)) {a0 : Option Addr} {len cap : Nat} {fuel : Nat} {x : DataW H × List MemPlace} (h : DataW.trod enc Try.prog w base (fun _ => true) held fuel T [.slice a0 len cap] = some x) (hz : Rows.uptoBulk x.1 ≤ 1048576) : len ≤ 1048576 := by
 rcases open_slice hT h with ⟨hcs, _⟩ | ⟨a, len', cap', m, n', D, Pl, hcs, _, _, _, _, hd, _⟩
 ·simp only [List.cons.injEq, Value.slice.injEq, and_true] at hcs
  omega
 ·simp only [List.cons.injEq, Value.slice.injEq, and_true] at hcs
  rw [hd] at hz
  simp only [Rows.uptoBulk] at hz
  have := up_len ((List.range len').map D)
  simp only [List.length_map, List.length_range] at this
  omega
end Go.Proofs.Ytndnfjcfpcfakaa
namespace Go.Ht
open Ieee
set_option maxRecDepth 100000
theorem shr_le {s c : Int} : shr s c ≤ inf := by
 unfold shr
 split
 ·exact fmul_le _ _
 ·decide
end Go.Ht
namespace Go.Proofs.Ytndnfjcfpcfakaa
open Go Go.RowKit Go.Wr Go.Fl Go.Ht
set_option maxHeartbeats 4000000
set_option maxRecDepth 100000
theorem rshare_ok (w : World) (q : Nat) (v : Value) (l : List Int) (h : SlX tI q w v l) (hl : l.length ≤ 1099511627776) : Calls Try.prog 11 #[v] w (ShP l w) := by
 obtain ⟨r, hr⟩ : ∃ r, r = shS 0 l := ⟨_, rfl⟩
 have HR := Lib.hid hr
 have hpost : ∀ e w', (Below w.heap.size w w' ∧ ((r = none ∧ e = .returned (.tuple #[.slice none 0 0, .int .i64 1])) ∨ ∃ s v, r = some s ∧ e = .returned (.tuple #[v, .int .i64 0]) ∧ OwR tF w.heap.size w' v (l.map (shr s)))) → ShP l w e w' := fun e w' h => by unfold ShP; rw [← hr]; exact h
 refine Calls.mono ?_ hpost
 clear hpost hr
 obtain ⟨a0, cap, rfl, h1, h2⟩ := h.form
 have H := Lib.hid h
 unfold maxLen at h2
 clear h
 go_enter Try.func11, Try.ntmps11
 go_wp2
 go_loopw [4, 5] (fun t u wr => ∃ (k : Nat) (s : Int), k ≤ l.length ∧ 0 ≤ s ∧ s ≤ 9007199254740992 ∧ t = .int .i64 s ∧ u = .int .i64 (k : Int) ∧ Hid (r = shS s (l.drop k)) ∧ wr = w) (fun _ u _ => l.length - (intOf u).toNat)
 case atStart => exact ⟨0, 0, by omega, by omega, by omega, rfl, rfl, HR.out, rfl⟩
 case round =>
  obtain ⟨k, s, hk, hs0, hs1, rfl, rfl, hq, rfl⟩ := hrel
  by_cases hlt : k < l.length
  ·have hlt' : (k : Int) < (l.length : Int) := by omega
   obtain ⟨c, hc⟩ : ∃ c, l[k]? = some c := ⟨_, List.getElem?_eq_getElem hlt⟩
   have hd : l.drop k = c :: l.drop (k + 1) := by
    rw [List.drop_eq_getElem_cons hlt]
    rw [List.getElem?_eq_getElem hlt] at hc
    injection hc with hc
    rw [hc]
   have hq2 := hq.out
   rw [hd] at hq2
   unfold shS at hq2
   obtain ⟨b, o, rfl, _, _, hcell⟩ := SlX.int H.out hc
   clear hq hd hc
   by_cases hneg : c < 0
   ·rw [if_pos (Or.inl hneg)] at hq2
    have HQ := Lib.hid hq2
    clear hq2
    go_wp2
    go_ret2
    exact ⟨bRefl _, Or.inl ⟨HQ.out, rfl⟩⟩
   ·by_cases hbig : 9007199254740992 - s < c
    ·rw [if_pos (Or.inr hbig)] at hq2
     have HQ := Lib.hid hq2
     clear hq2
     by_cases hb2 : 9007199254740992 < c
     ·go_wp2
      go_ret2
      exact ⟨bRefl _, Or.inl ⟨HQ.out, rfl⟩⟩
     ·have hb3 : 9007199254740992 < s + c := by omega
      go_wp2
      go_ret2
      exact ⟨bRefl _, Or.inl ⟨HQ.out, rfl⟩⟩
    ·rw [if_neg (fun h => h.elim hneg hbig)] at hq2
     have HQ := Lib.hid hq2
     clear hq2
     have hb2 : ¬ 9007199254740992 < c := by omega
     have hb3 : ¬ 9007199254740992 < s + c := by omega
     go_wp2
     go_roundw
     all_goals first
      | exact ⟨k + 1, s + c, by omega, by omega, by omega, rfl, by go_num, HQ.out, by first | rfl | trivial⟩
      | ((repeat apply Exists.intro); exact ⟨⟨k + 1, s + c, by omega, by omega, by omega, rfl, by go_num, HQ.out, by first | rfl | trivial⟩, rfl⟩)
      | (simp [intOf] <;> omega)
  ·have hkl : k = l.length := by omega
   have hq2 := hq.out
   rw [hkl, List.drop_length] at hq2
   unfold shS at hq2
   have HQ := Lib.hid hq2
   have HI := Lib.hid (shS_in (by omega) (by omega) (HR.out.symm.trans hq2)).2
   clear hq2 hq HR
   obtain rfl := hkl
   obtain ⟨V, rfl⟩ : ∃ V : World, V = wr := ⟨_, rfl⟩
   go_wp2
   go_loopw [6, 7, 8] (fun t u _ wr => ∃ (k : Nat) (va : Option Addr) (vn vc : Nat), k ≤ l.length ∧ u = .int .i64 (k : Int) ∧ t = .slice va vn vc ∧ Hid (OwR tF V.heap.size wr (.slice va vn vc) ((l.take k).map (shr s))) ∧ Hid (Below V.heap.size V wr)) (fun _ u _ _ => l.length - (intOf u).toNat)
   case atStart => exact ⟨0, none, 0, 0, by omega, rfl, rfl, OwR.nil _ _, bRefl _⟩
   case round =>
    obtain ⟨k, va, vn, vc, hk, rfl, rfl, ho, hb⟩ := hrel
    obtain ⟨W, rfl⟩ : ∃ V : World, V = wr := ⟨_, rfl⟩
    by_cases hlt : k < l.length
    ·have hlt' : (k : Int) < (l.length : Int) := by omega
     obtain ⟨c, hc⟩ : ∃ c, l[k]? = some c := ⟨_, List.getElem?_eq_getElem hlt⟩
     have htk : l.take (k + 1) = l.take k ++ [c] := by rw [List.take_add_one, hc]; rfl
     have hci := HI.out c (List.mem_of_getElem? hc)
     obtain ⟨b, o, rfl, _, _, hcell⟩ := SlX.int (H.out.below hb.out) hc
     have hlen : ((l.take k).map (shr s)).length = k := by rw [List.length_map, List.length_take]; omega
     have HT := Lib.hid (And.intro htk hlen)
     have hz := hb.out.size
     clear hc htk hlen
     by_cases hs : 0 < s
     ·obtain ⟨d1, d2⟩ := shr_ops hs hs1 hci.1 (by omega)
      have hop1 := hop_div d1
      have hop2 := hop_mul d2
      have hopc := hop_i2f c
      have hops := hop_i2f s
      have hun' : hun = 4636737291354636288 := rfl
      rw [hun'] at hop2
      clear d1 d2 hun' hci
      go_wp2_with (first
       | (at_builtin; refine wpl_push tF rfl (.tmp 53) (.tmp 55) rfl V.heap.size (.slice va vn vc) ((l.take k).map (shr s)) rfl (ho.out.alloc _) _ 0 1 1 [shr s c] rfl rfl (rangeNew (by rfl) (by rfl)) (by have := HT.out.2; unfold maxLen; simp; omega) (by have := HT.out.2; show _ * 8 ≤ _; simp; omega) (by simp; omega) ?_; intro v' w9 hown hgrow hform)
       | (simp only [hop1, hop2, hopc, hops]))
      obtain ⟨g9, c9, rfl, _⟩ := hform (by simp)
      have HO := Lib.hid (show OwR tF V.heap.size w9 (.slice (some ⟨g9, 0, none⟩) (((l.take k).map (shr s)).length + 1) c9) ((l.take (k + 1)).map (shr s)) by rw [HT.out.1, List.map_append]; exact hown)
      have HB := Lib.hid (below_grow hb.out hgrow (fun g hg => (ho.out.blk hg).1))
      clear hown hgrow hform ho hb hcell
      go_wp2
      go_roundw
      all_goals first
       | exact ⟨k + 1, _, _, _, by omega, by go_num, rfl, HO.out, HB.out⟩
       | ((repeat apply Exists.intro); exact ⟨⟨k + 1, _, _, _, by omega, by go_num, rfl, HO.out, HB.out⟩, rfl⟩)
       | (simp [intOf] <;> omega)
     ·have hse : shr s c = 0 := by unfold shr; rw [if_neg hs]
      have HSE := Lib.hid hse
      clear hse
      go_wp2_with (at_builtin; refine wpl_push tF rfl (.tmp 53) (.tmp 55) rfl V.heap.size (.slice va vn vc) ((l.take k).map (shr s)) rfl (ho.out.alloc _) _ 0 1 1 [0] rfl rfl (rangeNew (by rfl) (by rfl)) (by have := HT.out.2; unfold maxLen; simp; omega) (by have := HT.out.2; show _ * 8 ≤ _; simp; omega) (by simp; omega) ?_; intro v' w9 hown hgrow hform)
      obtain ⟨g9, c9, rfl, _⟩ := hform (by simp)
      have HO := Lib.hid (show OwR tF V.heap.size w9 (.slice (some ⟨g9, 0, none⟩) (((l.take k).map (shr s)).length + 1) c9) ((l.take (k + 1)).map (shr s)) by rw [HT.out.1, List.map_append, List.map_singleton, HSE.out]; exact hown)
      have HB := Lib.hid (below_grow hb.out hgrow (fun g hg => (ho.out.blk hg).1))
      clear hown hgrow hform ho hb hcell
      go_wp2
      go_roundw
      all_goals first
       | exact ⟨k + 1, _, _, _, by omega, by go_num, rfl, HO.out, HB.out⟩
       | ((repeat apply Exists.intro); exact ⟨⟨k + 1, _, _, _, by omega, by go_num, rfl, HO.out, HB.out⟩, rfl⟩)
       | (simp [intOf] <;> omega)
    ·have hkl : k = l.length := by omega
     have HO := Lib.hid (show OwR tF V.heap.size W (.slice va vn vc) (l.map (shr s)) by have := ho.out; rw [hkl, List.take_length] at this; exact this)
     obtain rfl := hkl
     clear ho
     go_wp2
     go_ret2
     exact ⟨hb.out, Or.inr ⟨s, _, HQ.out, rfl, HO.out⟩⟩
end Go.Proofs.Ytndnfjcfpcfakaa
namespace Go.Proofs.Ytndnfjcfpcfakaa
open Go Go.RowKit Go.Wr Go.Fl
open Go.ChangeShapes Go.WideShapes Go.ChangeAt Go.Deep
section
variable {H : Type} {enc : TypeId × Value → H} {w : World} {base : Nat} {held : Bool}
theorem open_numx (R : RT Try.prog Int) {kd : IntKind} {T E : TypeId} (hn : R.n = 1) (hf1 : ∀ x, R.f x = [.int kd x]) (hT : Try.prog.underlying T = some (.slice E)) (hE : Try.prog.underlying E = some (.int kd)) (hc1 : Try.prog.cellsOf E = 1)
  {a0 : Option Addr} {len cap : Nat} {fuel : Nat} {x : DataW H × List MemPlace} (h : DataW.trod enc Try.prog w base (fun _ => true) held fuel T [.slice a0 len cap] = some x) (hz : Rows.uptoBulk x.1 ≤ 1048576) :
  ∃ l : List Int, SlX R w.heap.size w (.slice a0 len cap) l ∧ l.length ≤ 1048576 ∧ ∀ y ∈ l, (Lit.int kd y).wf = true := by
 have hlen0 := up_slice hT h hz
 rcases open_slice hT h with ⟨hcs, _⟩ | ⟨a, len', cap', m, n, D, Pl, hcs, _, hl, hm, hmm, hx, hel⟩
 ·simp only [List.cons.injEq, Value.slice.injEq, and_true] at hcs
  obtain ⟨rfl, rfl, rfl⟩ := hcs
  exact ⟨[], SlX.nil _ _, by simp, by simp⟩
 ·simp only [List.cons.injEq, Value.slice.injEq, and_true] at hcs
  obtain ⟨rfl, rfl, rfl⟩ := hcs
  have hmc : m = cap := by simpa using hmm
  have hex : ∀ i, i < len → ∃ y : Int, w.cells? base (a.add (i * 1)) 1 = some (R.f y) ∧ (Lit.int kd y).wf = true := fun i hi => by
   obtain ⟨cs', h1, h2⟩ := hel i (by omega)
   obtain ⟨p, rfl, _, hw⟩ := DataW.trod_int hE h2
   rw [hc1] at h1
   exact ⟨p, by rw [hf1]; exact h1, hw⟩
  obtain ⟨f, hf⟩ := choose_lt hex
  have hlen : ((List.range len).map f).length = len := by simp
  refine ⟨(List.range len).map f, ⟨some a, cap, by rw [hlen], by rw [hlen]; simpa using hl, by omega, fun k x hx => ?_⟩, by omega, fun y hy => ?_⟩
  ·have hk : k < len := by have := (List.getElem?_eq_some_iff.1 hx).1; simpa using this
   rw [List.getElem?_map, List.getElem?_range hk] at hx
   simp only [Option.map_some, Option.some.injEq] at hx
   subst hx
   have hsp : a.spot = none := by
    obtain ⟨_, _, hh⟩ := World.cells?_some (hf 0 (by omega)).1
    have h0 : w.cell? (a.add (0 * 1)) = some (.int kd (f 0)) := by
     have h0 := hh 0 (by omega)
     rw [show (R.f (f 0))[0]? = some (.int kd (f 0)) from by rw [hf1]; rfl] at h0
     simpa [Addr.add] using h0
    have := World.cell?_spot h0
    simpa [Addr.add] using this
   have ea := addr_lit hsp
   have hr := (hf k hk).1
   rw [ea, Addr.add_lit] at hr
   have hr2 := cells_range hr rfl
   have hlt := World.block_lt_of_cell? w ⟨a.block, _, none⟩ (hr2 0 (.int kd (f k)) (by rw [hf1]; rfl))
   rw [hn]
   exact ⟨a.block, a.off, by rw [← ea], by have : a.block < w.heap.size := hlt; omega, hlt, hr2⟩
  ·obtain ⟨k, hk, rfl⟩ := List.mem_map.1 hy
   exact (hf k (by simpa using hk)).2
theorem open_intsz {a0 : Option Addr} {len cap : Nat} {fuel : Nat} {x : DataW H × List MemPlace} (h : DataW.trod enc Try.prog w base (fun _ => true) held fuel 22 [.slice a0 len cap] = some x) (hz : Rows.uptoBulk x.1 ≤ 1048576) :
  ∃ l : List Int, SlX tI w.heap.size w (.slice a0 len cap) l ∧ l.length ≤ 1048576 ∧ ∀ y ∈ l, (Lit.int .i64 y).wf = true :=
 open_numx tI rfl (fun _ => rfl) Try.underlying22 Try.underlying3 (by kernel_rfl) h hz
end
end Go.Proofs.Ytndnfjcfpcfakaa
namespace Go.Proofs.Ytndnfjcfpcfakaa
open Go Go.RowKit Go.Wr Go.Fl Go.Ht
set_option maxHeartbeats 40000000
set_option maxRecDepth 100000
theorem shr_in {s : Int} {l : List Int} : ∀ x ∈ l.map (shr s), x ≤ inf := fun x hx => by
 obtain ⟨c, _, rfl⟩ := List.mem_map.1 hx
 exact shr_le
def shF (l : List Int) : List Nat × Int := match shS 0 l with
 | none => ([], 1)
 | some s => (l.map (shr s), 0)
theorem shF_in {l : List Int} : ∀ x ∈ (shF l).1, x ≤ inf := by
 unfold shF
 cases shS 0 l with
 | none => exact fun x hx => by cases hx
 | some s => exact shr_in
theorem ShP.one {l : List Int} {w w' : World} {e : Ending} (h : ShP l w e w') : Below w.heap.size w w' ∧ ∃ va : Sv, e = .returned (.tuple #[.slice va.a va.n va.c, .int .i64 (shF l).2]) ∧ OwR tF w.heap.size w' va.v (shF l).1 := by
 obtain ⟨b, h⟩ := h
 refine ⟨b, ?_⟩
 unfold shF
 rcases h with ⟨n1, rfl⟩ | ⟨s, v, s1, rfl, o1⟩
 ·rw [n1]
  exact ⟨⟨none, 0, 0⟩, rfl, OwR.nil _ _⟩
 ·rw [s1]
  obtain ⟨a, c, rfl, -, -⟩ := (OwR.slz o1).form
  exact ⟨⟨a, _, c⟩, rfl, o1⟩
def Ct (B g cp : Nat) (w : World) (L : List Int) : Prop := OwR tI B w (.slice (some ⟨g, 0, none⟩) (L.length + 2) cp) (L ++ [-77, -78])
theorem Ct.inn {B g cp : Nat} {w : World} {L : List Int} (h : Ct B g cp w L) : OwR tI B w (.slice (some ⟨g, 0, none⟩) L.length cp) L := by
 have := OwR.take h (k := L.length) (by simp)
 rw [List.take_left] at this
 exact this
theorem Ct.below {B g cp : Nat} {w w' : World} {L : List Int} (h : Ct B g cp w L) (b : Below w.heap.size w w') : Ct B g cp w' L := OwR.below h b
theorem Ct.set {B g cp i : Nat} {w : World} {L : List Int} {x y : Int} (h : Ct B g cp w L) (hx : L[i]? = some x) : Ct B g cp (w.setCell ⟨g, i, none⟩ (.int .i64 y)) (L.set i y) := by
 have hi := (List.getElem?_eq_some_iff.1 hx).1
 have hset := OwR.set (k := i) (j := 0) (x := x) (y := y) (v := .int .i64 y) h (by rw [List.getElem?_append_left hi]; exact hx) (by decide) rfl
 have e2 : i * tI.n + 0 = i := by show i * 1 + 0 = i; omega
 rw [e2, List.set_append_left _ _ hi] at hset
 unfold Ct
 rw [List.length_set]
 exact hset
theorem shares_ok (w : World) (q : Nat) (v : Value) (l : List Int) (h : SlX tI q w v l) (hl : l.length ≤ 1048576) : Calls Try.prog 3 #[v] w fun e w' => e = .returned (.bool true) ∧ Below w.heap.size w w' := by
 obtain ⟨a0, cap, rfl, h1, h2⟩ := h.form
 have H := Lib.hid h
 unfold maxLen at h2
 clear h
 go_enter Try.func3, Try.ntmps3
 go_wp2_with fail
 refine (known19_ok _).mono ?_
 rintro e w1 ⟨rfl, b1⟩
 have HB1 := Lib.hid b1
 clear b1
 go_wp2_with fail
 refine (copyInts_ok w1 q _ l (H.out.below HB1.out) (by omega)).mono ?_
 rintro e w2 ⟨b2, v2, rfl, ho2⟩
 have HB2 := Lib.hid b2
 have HO2 := Lib.hid ho2
 have hz2 := b2.size
 clear b2 ho2
 go_upto_region 4 with (at_builtin; refine wpl_push tI rfl (.tmp 13) (.tmp 14) rfl w1.heap.size v2 l rfl (HO2.out.alloc _) _ 0 2 2 [-77, -78] rfl rfl (rangeNew (by rfl) (by rfl)) (by unfold maxLen; simp; omega) (by show _ * 8 ≤ _; simp; omega) (by simp; omega) ?_; intro v3 w3 hown hgrow hform; obtain ⟨g, cp, rfl, hcp, hcp2, hgb⟩ := hform (by simp); have hcp3 : l.length ≤ cp := (by simp at hcp; omega); have hcp4 : l.length + 2 ≤ cp := (by simpa using hcp))
 have HI3 := Lib.hid (show Ct w1.heap.size g cp w3 l from hown)
 have HB3 := Lib.hid (show Below w1.heap.size w1 w3 from (bAl HB2.out _).grown hgrow (by simp; omega) (fun g hg => (HO2.out.blk hg).1))
 clear hown hgrow hform hcp HO2 HB2 hz2
 go_wp2_with fail
 refine (share_ok w3 w3.heap.size _ l (OwR.slz HI3.out.inn) (by omega)).mono ?_
 intro e w4 h4
 obtain ⟨b4, va, rfl, oa⟩ := h4.one
 obtain ⟨c, hc⟩ : ∃ c, c = (shF l).2 := ⟨_, rfl⟩
 rw [← hc]
 have HA := Lib.hid oa
 have HB4 := Lib.hid (bThen HB3.out b4)
 have HI4 := Lib.hid (HI3.out.below b4)
 clear h4 b4 oa HI3 HB3
 go_wp2_with fail
 refine (rshare_ok w4 q _ l (H.out.below (bThen HB1.out HB4.out)) (by omega)).mono ?_
 intro e w5 h5
 obtain ⟨b5, vb, rfl, ob⟩ := h5.one
 rw [← hc]
 have HB5 := Lib.hid (bThen HB4.out b5)
 have HI5 := Lib.hid (HI4.out.below b5)
 have HAb := Lib.hid (And.intro (OwR.slz (HA.out.below b5)) (OwR.slz ob))
 clear h5 b5 ob HI4 HB4 HA
 go_wp2_with fail
 refine (sameF_ok w5 w5.heap.size w5.heap.size _ _ _ HAb.out.1 HAb.out.2 shF_in).mono ?_
 rintro e w6 ⟨rfl, m6, hw6⟩
 have hb56 : Below w5.heap.size w5 w6 := by rw [hw6]; exact bDrewN (bRefl w5) m6
 have HB6 := Lib.hid (bThen HB5.out hb56)
 have HI6 := Lib.hid (HI5.out.below hb56)
 clear hw6 hb56 HAb HI5 HB5
 go_wp2_with fail
 refine (sameInts_ok w6 w6.heap.size q _ _ l l (OwR.slz HI6.out.inn) (H.out.below (bThen HB1.out HB6.out))).mono ?_
 rintro e w7 ⟨rfl, b7⟩
 rw [decide_eq_true (rfl : l = l)]
 have HB7 := Lib.hid (bThen HB6.out b7)
 have HI7 := Lib.hid (HI6.out.below b7)
 have k1 : w7.cell? ⟨g, l.length, none⟩ = some (.int .i64 (-77)) := OwR.int HI7.out (by rw [List.getElem?_append_right (Nat.le_refl _)]; simp)
 have k2 : w7.cell? ⟨g, l.length + 1, none⟩ = some (.int .i64 (-78)) := OwR.int HI7.out (by rw [List.getElem?_append_right (by omega)]; simp)
 clear b7 HI6 HB6
 go_wp2
 clear k1 k2
 go_loopw [9] (fun t wr => ∃ (i : Nat) (L : List Int), i ≤ l.length ∧ t = .int .i64 (i : Int) ∧ Hid (L.length = l.length ∧ Ct w1.heap.size g cp wr L) ∧ Hid (Below w1.heap.size w1 wr)) (fun t _ => l.length - (intOf t).toNat)
 case atStart => exact ⟨0, l, by omega, rfl, ⟨rfl, HI7.out⟩, HB7.out⟩
 case round =>
  clear HI7 HB7
  obtain ⟨i, L, hi, rfl, hL, hB⟩ := hrel
  obtain ⟨V, rfl⟩ : ∃ x : World, x = wr := ⟨_, rfl⟩
  by_cases hlt : i < l.length
  ·have hlt' : (i : Int) < (l.length : Int) := by omega
   obtain ⟨x, hx⟩ : ∃ x, L[i]? = some x := ⟨_, List.getElem?_eq_getElem (by rw [hL.out.1]; exact hlt)⟩
   have c1 : V.cell? ⟨g, i, none⟩ = some (.int .i64 x) := OwR.int hL.out.2.inn hx
   have f1 := OwR.frozen hL.out.2.inn i
   obtain ⟨y, hy⟩ : ∃ y, bits BinOp.xor IntKind.i64 x 1 = y := ⟨_, rfl⟩
   have HL2 := Lib.hid (show (L.set i y).length = l.length ∧ Ct w1.heap.size g cp (V.setCell ⟨g, i, none⟩ (.int .i64 y)) (L.set i y) from ⟨by rw [List.length_set]; exact hL.out.1, hL.out.2.set hx⟩)
   have HB2 := Lib.hid (hB.out.setCell (p := ⟨g, i, none⟩) hgb (.int .i64 y))
   clear hx hL hB
   go_wp2
   go_roundw
   all_goals first
    | exact ⟨i + 1, _, by omega, by go_num, HL2.out, HB2.out⟩
    | (simp [intOf] <;> omega)
  ·have hie : i = l.length := by omega
   have hlt' : ¬ (i : Int) < (l.length : Int) := by omega
   subst hie
   have hLl := hL.out.1
   obtain ⟨c', hc'⟩ : ∃ c, c = (shF L).2 := ⟨_, rfl⟩
   have hinn : OwR tI w1.heap.size V (.slice (some ⟨g, 0, none⟩) l.length cp) L := by have := hL.out.2.inn; rw [hLl] at this; exact this
   have HIn := Lib.hid hinn
   clear hL hi hlt hinn
   go_wp2_with fail
   refine (copyInts_ok V V.heap.size _ L (OwR.slz HIn.out) (by omega)).mono ?_
   rintro e wA ⟨bA, vA, rfl, oA⟩
   have HBA := Lib.hid bA
   have HOA := Lib.hid oA
   clear bA oA
   go_wp2_with fail
   refine (rshare_ok wA wA.heap.size _ L (OwR.slz HOA.out) (by omega)).mono ?_
   intro e wB hB2
   obtain ⟨bB, vb2, rfl, ob2⟩ := hB2.one
   rw [← hc']
   have HBB := Lib.hid (bThen HBA.out bB)
   have HO2 := Lib.hid ob2
   clear hB2 bB ob2
   go_wp2_with fail
   refine (share_ok wB wB.heap.size _ L (OwR.slz (HIn.out.below HBB.out)) (by omega)).mono ?_
   intro e wC hC2
   obtain ⟨bC, va2, rfl, oa2⟩ := hC2.one
   rw [← hc']
   have HBC := Lib.hid (bThen HBB.out bC)
   have HS := Lib.hid (And.intro (OwR.slz oa2) (OwR.slz (HO2.out.below bC)))
   clear hC2 bC oa2 HO2
   go_wp2_with fail
   refine (sameF_ok wC wC.heap.size wC.heap.size _ _ _ HS.out.1 HS.out.2 shF_in).mono ?_
   rintro e wD ⟨rfl, mD, hwD⟩
   have HBD := Lib.hid (show Below w.heap.size w wD by rw [hwD]; exact bDrewN (bThen (bThen HB1.out hB.out) HBC.out) mD)
   clear hwD HS
   go_wp2
   go_ret
   exact ⟨rfl, HBD.out⟩
end Go.Proofs.Ytndnfjcfpcfakaa
namespace Go.Proofs.Ytndnfjcfpcfakaa
open Go Go.RowKit Go.Wr Go.Fl
open Go.ChangeShapes Go.WideShapes Go.ChangeAt Go.Deep
set_option maxHeartbeats 4000000
set_option maxRecDepth 100000
set_option maxRecDepth 100000 in
theorem heatShares_lifted (os : Os) (started : os.Started) (H : Type) (enc : TypeId × Value → H) (F : Stop.Interp) :
  ReturnsInHanded {} Try.checked os 3 .any ((Rows.OpenSpec.upto Rows.heatSharesSpec).pre6 enc Try.prog Try.f3 Rows.heatSharesUptoRow.domain false) (((Rows.OpenSpec.upto Rows.heatSharesSpec).at F).post enc Try.prog Try.f3 false true false false) := by
 refine returnsInHanded_of_cond (C := Try.checked) (s := Rows.OpenSpec.upto Rows.heatSharesSpec) (k := Rows.uptoSmall) rfl own started (by kernel_rfl) Try.func3
  (OpenSpec.witness (enc := enc) (C := Try.checked) (s := Rows.OpenSpec.upto Rows.heatSharesSpec) (k := Rows.uptoSmall) rfl false ⟨#[], #[.slice none 0 0], []⟩ 8 (by kernel_rfl) (by kernel_rfl) (by kernel_rfl)
   (x := ([.nil], [], [])) (by kernel_rfl) rfl (by kernel_rfl)) ?_
 intro W base args ds gs before hval0 hW _ hk _
 have hval : ∀ (j : Nat) t v, Try.f3.params[j]? = some t → args[j]? = some v → Value.okWide Try.prog W .any base t v := hval0
 have hW' := hW
 obtain ⟨p, q, hA0, hV, rfl, hfz, hnd⟩ := hW
 have hA : DataW.TrodAll enc Try.prog W 0 (fun _ => true) true Try.f3.params.toList args.toList ds p := hA0
 rw [Try.params3] at hA hval
 obtain ⟨v0, vs0, d0, ds0, p0, q0, hargs, rfl, rfl, h0, r0⟩ := trodAll_cons hA
 obtain ⟨rfl, rfl, rfl⟩ := trodAll_nil r0
 obtain rfl : args = #[v0] := by cases args; simp_all
 obtain ⟨rfl, rfl⟩ := trodVars_none hV
 have hz : Rows.uptoBulkAll ([d0] ++ []) ≤ 1048576 := by simpa [Rows.uptoSmall] using hk
 simp only [List.append_nil, Rows.uptoBulkAll] at hz
 have k0 := h0
 have lt0 : ∀ x ∈ p0, x.block < W.heap.size := by obtain ⟨m, hm⟩ := k0; exact DataW.trod_lt m _ _ _ hm
 obtain ⟨a0, len0, cap0, rfl⟩ := okWide_slice Try.underlying22 (hval 0 22 v0 rfl rfl)
 obtain ⟨l0, g0, z0, y0⟩ : ∃ l, SlX tI W.heap.size W (.slice a0 len0 cap0) l ∧ l.length ≤ 1048576 ∧ ∀ y ∈ l, (Lit.int .i64 y).wf = true := by
  obtain ⟨fuel, hf⟩ := h0
  exact open_intsz (x := (d0, p0)) (by simpa [Value.cells] using hf) (by show Rows.uptoBulk d0 ≤ _; omega)
 clear hA0 hval0 hval hfz hnd hk hA
 refine (shares_ok W W.heap.size _ l0 g0 z0).mono fun e W' ⟨he, bel⟩ => ?_
 subst he
 exact ⟨_, rfl, _, _, _, [], _, [], hW', trodAll_mk1 (shut_bool Try.underlying4 _), (trodAll_cons_mk (Below.trod laidOut (by kernel_rfl) (of_decide_eq_true (by kernel_rfl)) k0 bel lt0) trodAll_mk0), rfl, bel.frame _, fun h => by cases h⟩
theorem HeatSharesUpto_holds : Rows.HeatSharesUptoSaid :=
 OpenClaim.holds_of_cond 3 Try.f3 rfl rfl rfl rfl rfl rfl rfl ⟨rfl, rfl, rfl, rfl, rfl⟩ rfl rfl rfl rfl rfl (by kernel_rfl) Try.func3 (by kernel_rfl)
  (of_decide_eq_true (by kernel_rfl)) (by unfold Func.isWrapper; rw [if_neg (of_decide_eq_false (by kernel_rfl))]; exact ⟨rfl, rfl⟩)
  (fun os started H enc _ F => heatShares_lifted os started H enc F)
#print axioms HeatSharesUpto_holds
end Go.Proofs.Ytndnfjcfpcfakaa
