/- What the law needs, one part after another: walks of functions and plain laws. No conditions but those that each law names. -/
import Derived.Test.YtndnfjcfpcfakaaFrae
import Derived.Lib.SliceRun
import Derived.OwnWalk
namespace Go.Proofs.Ytndnfjcfpcfakaa
open Go Go.RowKit Go.Wr Go.Fl
set_option maxHeartbeats 4000000
set_option maxRecDepth 100000
theorem slx_ints {p : Nat} {w : World} {b o n cap : Nat} {l : List Int} (h : SlX tI p w (.slice (some ⟨b, o, none⟩) n cap) l) : w.rangeAt b o (tI.cs l) := by
 intro j v hj
 have e : tI.cs l = l.map (fun x => Value.int .i64 x) := by
  clear hj h
  induction l with
  | nil => rfl
  | cons x l ih => show tI.f x ++ tI.cs l = _; rw [ih]; rfl
 rw [e, List.getElem?_map] at hj
 match hx : l[j]?, hj with
 | some x, hj =>
  obtain ⟨b', o', e1, _, _, c⟩ := SlX.int h hx
  injection e1 with e1
  injection e1 with e1 e2
  subst e1; subst e2
  injection hj with hj
  subst hj
  exact c
theorem own_empty (w : World) : OwR tI w.heap.size (w.alloc (.cells #[] 3)) (.slice (some ⟨w.heap.size, 0, none⟩) 0 0) [] :=
 ⟨rfl, Or.inr ⟨w.heap.size, 0, #[], rfl, Nat.le_refl _, Array.getElem?_push_size, Nat.le_refl _, by unfold maxLen; omega, rfl, rfl⟩⟩
theorem cloneI_ok (w : World) (p : Nat) (v : Value) (l : List Int) (h : SlX tI p w v l) (hl : l.length ≤ 1099511627776) :
  Calls Try.prog 93 #[v] w fun e w' => Below w.heap.size w w' ∧ ∃ v', e = .returned v' ∧ OwR tI w.heap.size w' v' l := by
 obtain ⟨a0, cap, rfl, h1, h2⟩ := h.form
 unfold maxLen at h2
 by_cases hb : l = []
 ·subst hb
  cases a0 with
  | none =>
   clear h
   go_enter Try.func93, Try.ntmps93
   go_wp2
   rw [Go.Lib.run_eql_slice_nil _ _ _ _ _ _ _ _ Try.underlying22]
   go_wp2
   go_ret
   exact ⟨bRefl w, .slice none 0 0, rfl, World.ownsRow_nil _ _ _ _⟩
  | some ad =>
   clear h
   go_enter Try.func93, Try.ntmps93
   go_wp2
   rw [Go.Lib.run_eql_slice_nil _ _ _ _ _ _ _ _ Try.underlying22]
   go_wp2
   go_ret
   exact ⟨bAl (bRefl w) _, _, rfl, own_empty w⟩
 ·have hpos : 0 < l.length := List.length_pos_iff.2 hb
  obtain ⟨b, o, rfl, _, hat⟩ := h.get (List.getElem?_eq_getElem hpos)
  have hlt : b < w.heap.size := hat.1
  have HN := Lib.hid (fun j v hj => (World.cell?_of_block ((bAl (bRefl w) (.cells #[] 3)).block b hlt)).trans (slx_ints h j v hj) : (w.alloc (.cells #[] 3)).rangeAt b o (tI.cs l))
  have HE := Lib.hid (own_empty w)
  clear h hat
  go_enter Try.func93, Try.ntmps93
  go_wp2
  rw [Go.Lib.run_eql_slice_nil _ _ _ _ _ _ _ _ Try.underlying22]
  go_wp2_with (at_builtin; refine wpl_push tI rfl _ _ rfl w.heap.size _ [] rfl HE.out b o l.length cap l rfl rfl HN.out (by unfold maxLen; simp; omega) (by show _ * 8 ≤ _; simp; omega) (by simp) ?_; intro v' w9 hown hgrow hform)
  have hb9 := (bAl (bRefl w) (.cells #[] 3)).grown hgrow (by simp) (fun k hk => by injection hk with hk; simp at hk; omega)
  obtain ⟨g, c', rfl, _⟩ := hform hb
  have HW := Lib.hid hown
  clear hown hgrow hform
  go_wp2
  go_ret
  exact ⟨hb9, _, rfl, HW.out⟩
theorem order_ok (w : World) (q p : Nat) (v : Value) (l : List Int) (hc : w.cell? ⟨q, 3, none⟩ = some v) (h : SlX tI p w v l) (hl : l.length ≤ 1099511627776) :
  Calls Try.prog 59 #[.pointer (some ⟨q, 0, none⟩)] w fun e w' => Below w.heap.size w w' ∧ ∃ v', e = .returned v' ∧ OwR tI w.heap.size w' v' l := by
 obtain ⟨a0, cap, rfl, h1, h2⟩ := h.form
 have H := Lib.hid h
 clear h
 go_enter Try.func59, Try.ntmps59
 go_wp2_with (go_at_call 93; refine (cloneI_ok w p _ l H.out hl).mono ?_; rintro e w9 ⟨hb, v', rfl, ho⟩)
 have HO := Lib.hid ho
 clear ho
 go_wp2
 go_ret
 exact ⟨hb, v', rfl, HO.out⟩
end Go.Proofs.Ytndnfjcfpcfakaa
namespace Go.Proofs.Ytndnfjcfpcfakaa
open Go Go.RowKit Go.Wr Go.Fl
set_option maxHeartbeats 4000000
set_option maxRecDepth 100000
theorem slx_range {α : Type} (R : RT Try.prog α) {p : Nat} {w : World} {b o n cap : Nat} {l : List α} (h : SlX R p w (.slice (some ⟨b, o, none⟩) n cap) l) : w.rangeAt b o (R.cs l) := by
 intro j v hj
 have hn := R.npos
 have hjl : j < (R.cs l).length := by
  rcases Nat.lt_or_ge j (R.cs l).length with h1 | h1
  ·exact h1
  ·rw [List.getElem?_eq_none h1] at hj; cases hj
 rw [R.cs_len] at hjl
 have hk : j / R.n < l.length := Nat.div_lt_of_lt_mul (by rw [Nat.mul_comm]; exact hjl)
 have hr : j % R.n < R.n := Nat.mod_lt _ hn
 have hx : l[j / R.n]? = some l[j / R.n] := List.getElem?_eq_getElem hk
 have e : j / R.n * R.n + j % R.n = j := by rw [Nat.mul_comm]; exact Nat.div_add_mod j R.n
 obtain ⟨b', o', e1, _, c⟩ := h.get hx
 injection e1 with e1
 injection e1 with e1 e2
 subst e1; subst e2
 have g := R.cs_get l (j / R.n) (j % R.n) _ hx hr
 rw [e, hj] at g
 have := c.cell (j % R.n) v g.symm
 rw [Nat.add_assoc, e] at this
 exact this
theorem own_emptyR {α : Type} (R : RT Try.prog α) (w : World) : OwR R w.heap.size (w.alloc (.cells #[] R.T)) (.slice (some ⟨w.heap.size, 0, none⟩) 0 0) [] :=
 ⟨(Nat.zero_mul _).symm, Or.inr ⟨w.heap.size, 0, #[], rfl, Nat.le_refl _, Array.getElem?_push_size, Nat.le_refl _, by unfold maxLen; omega, (Nat.zero_mul _).symm, by simp [RT.cs]⟩⟩
theorem cloneB_ok (w : World) (p : Nat) (v : Value) (l : List Bk) (h : SlX tK p w v l) (hl : l.length ≤ 1099511627776) :
  Calls Try.prog 92 #[v] w fun e w' => Below w.heap.size w w' ∧ ∃ v', e = .returned v' ∧ OwR tK w.heap.size w' v' l := by
 obtain ⟨a0, cap, rfl, h1, h2⟩ := h.form
 unfold maxLen at h2
 by_cases hb : l = []
 ·subst hb
  cases a0 with
  | none =>
   clear h
   go_enter Try.func92, Try.ntmps92
   go_wp2
   rw [Go.Lib.run_eql_slice_nil _ _ _ _ _ _ _ _ Try.underlying65]
   go_wp2
   go_ret
   exact ⟨bRefl w, .slice none 0 0, rfl, World.ownsRow_nil _ _ _ _⟩
  | some ad =>
   clear h
   go_enter Try.func92, Try.ntmps92
   go_wp2
   rw [Go.Lib.run_eql_slice_nil _ _ _ _ _ _ _ _ Try.underlying65]
   go_wp2
   go_ret
   exact ⟨bAl (bRefl w) _, _, rfl, own_emptyR tK w⟩
 ·have hpos : 0 < l.length := List.length_pos_iff.2 hb
  obtain ⟨b, o, rfl, _, hat⟩ := h.get (List.getElem?_eq_getElem hpos)
  have hlt : b < w.heap.size := hat.1
  have HN := Lib.hid (fun j v hj => (World.cell?_of_block ((bAl (bRefl w) (.cells #[] 72)).block b hlt)).trans (slx_range tK h j v hj) : (w.alloc (.cells #[] 72)).rangeAt b o (tK.cs l))
  have HE := Lib.hid (own_emptyR tK w)
  clear h hat
  go_enter Try.func92, Try.ntmps92
  go_wp2
  rw [Go.Lib.run_eql_slice_nil _ _ _ _ _ _ _ _ Try.underlying65]
  go_wp2_with (at_builtin; refine wpl_push tK rfl _ _ rfl w.heap.size _ [] rfl HE.out b o l.length cap l rfl rfl HN.out (by unfold maxLen; simp; omega) (by show _ * 40 ≤ _; simp; omega) (by simp) ?_; intro v' w9 hown hgrow hform)
  have hb9 := (bAl (bRefl w) (.cells #[] 72)).grown hgrow (by simp) (fun k hk => by injection hk with hk; simp at hk; omega)
  obtain ⟨g, c', rfl, _⟩ := hform hb
  have HW := Lib.hid hown
  clear hown hgrow hform
  go_wp2
  go_ret
  exact ⟨hb9, _, rfl, HW.out⟩
theorem cloneA_ok (w : World) (p : Nat) (v : Value) (l : List Ar) (h : SlX tA p w v l) (hl : l.length ≤ 1099511627776) :
  Calls Try.prog 94 #[v] w fun e w' => Below w.heap.size w w' ∧ ∃ v', e = .returned v' ∧ OwR tA w.heap.size w' v' l := by
 obtain ⟨a0, cap, rfl, h1, h2⟩ := h.form
 unfold maxLen at h2
 by_cases hb : l = []
 ·subst hb
  cases a0 with
  | none =>
   clear h
   go_enter Try.func94, Try.ntmps94
   go_wp2
   rw [Go.Lib.run_eql_slice_nil _ _ _ _ _ _ _ _ Try.underlying66]
   go_wp2
   go_ret
   exact ⟨bRefl w, .slice none 0 0, rfl, World.ownsRow_nil _ _ _ _⟩
  | some ad =>
   clear h
   go_enter Try.func94, Try.ntmps94
   go_wp2
   rw [Go.Lib.run_eql_slice_nil _ _ _ _ _ _ _ _ Try.underlying66]
   go_wp2
   go_ret
   exact ⟨bAl (bRefl w) _, _, rfl, own_emptyR tA w⟩
 ·have hpos : 0 < l.length := List.length_pos_iff.2 hb
  obtain ⟨b, o, rfl, _, hat⟩ := h.get (List.getElem?_eq_getElem hpos)
  have hlt : b < w.heap.size := hat.1
  have HN := Lib.hid (fun j v hj => (World.cell?_of_block ((bAl (bRefl w) (.cells #[] 94)).block b hlt)).trans (slx_range tA h j v hj) : (w.alloc (.cells #[] 94)).rangeAt b o (tA.cs l))
  have HE := Lib.hid (own_emptyR tA w)
  clear h hat
  go_enter Try.func94, Try.ntmps94
  go_wp2
  rw [Go.Lib.run_eql_slice_nil _ _ _ _ _ _ _ _ Try.underlying66]
  go_wp2_with (at_builtin; refine wpl_push tA rfl _ _ rfl w.heap.size _ [] rfl HE.out b o l.length cap l rfl rfl HN.out (by unfold maxLen; simp; omega) (by show _ * 40 ≤ _; simp; omega) (by simp) ?_; intro v' w9 hown hgrow hform)
  have hb9 := (bAl (bRefl w) (.cells #[] 94)).grown hgrow (by simp) (fun k hk => by injection hk with hk; simp at hk; omega)
  obtain ⟨g, c', rfl, _⟩ := hform hb
  have HW := Lib.hid hown
  clear hown hgrow hform
  go_wp2
  go_ret
  exact ⟨hb9, _, rfl, HW.out⟩
end Go.Proofs.Ytndnfjcfpcfakaa
namespace Go.Proofs.Ytndnfjcfpcfakaa
open Go Go.RowKit Go.Wr Go.Fl
set_option maxHeartbeats 4000000
set_option maxRecDepth 100000
theorem back_ok (w : World) (q p : Nat) (vo : Value) (rows : List Sv) (hc : w.cell? ⟨q, 1, none⟩ = some vo) (h : SlX tBB p w vo rows) (u v : Nat) (s : Sv) (hs : rows[v]? = some s) (l : List Bool) (hl : SlX tB p w s.v l) (x : Bool) (hx : l[u]? = some x) :
  Calls Try.prog 89 #[.pointer (some ⟨q, 0, none⟩), .int .i64 u, .int .i64 v] w fun e w' => Below w.heap.size w w' ∧ e = .returned (.bool x) := by
 obtain ⟨a0, cap, rfl, h1, h2⟩ := h.form
 have hv : v < rows.length := by
  rcases Nat.lt_or_ge v rows.length with k | k
  ·exact k
  ·rw [List.getElem?_eq_none k] at hs; cases hs
 obtain ⟨b, o, rfl, _, hat⟩ := h.get hs
 have c0 := hat.cell 0 _ rfl
 have e0 : o + v * tBB.n + 0 = o + v := by show o + v * 1 + 0 = _; omega
 rw [e0] at c0
 obtain ⟨a1, cap1, e1, h3, h4⟩ := hl.form
 rw [e1] at c0 hl
 have hu : u < l.length := by
  rcases Nat.lt_or_ge u l.length with k | k
  ·exact k
  ·rw [List.getElem?_eq_none k] at hx; cases hx
 obtain ⟨b1, o1, rfl, _, _, c1⟩ := SlX.bool hl hx
 have hvi : (v : Int) < (rows.length : Int) := by omega
 have hui : (u : Int) < (l.length : Int) := by omega
 unfold maxLen at h2 h4
 clear h hl hat hs hx e0 e1
 go_enter Try.func89, Try.ntmps89
 go_wp2
 go_ret
 exact ⟨bRefl w, rfl⟩
end Go.Proofs.Ytndnfjcfpcfakaa
namespace Go.Proofs.Ytndnfjcfpcfakaa
open Go Go.RowKit Go.Wr Go.Fl
set_option maxHeartbeats 4000000
set_option maxRecDepth 100000
end Go.Proofs.Ytndnfjcfpcfakaa
namespace Go.Proofs.Ytndnfjcfpcfakaa
open Go Go.RowKit Go.Wr Go.Fl
set_option maxHeartbeats 4000000
set_option maxRecDepth 100000
def smallL : List In := [⟨15, false, false, 0, 1, 0, 0, 5⟩, ⟨2, false, false, 0, 1, 0, 0, 1⟩, ⟨28, false, false, 0, 1, 0, -2, 0⟩, ⟨15, false, false, 0, 0, 0, 0, 0⟩, ⟨39, false, false, 0, 0, 0, 0, 0⟩]
end Go.Proofs.Ytndnfjcfpcfakaa
namespace Go.Proofs.Ytndnfjcfpcfakaa
open Go Go.RowKit Go.Wr Go.Fl
set_option maxHeartbeats 4000000
set_option maxRecDepth 100000
end Go.Proofs.Ytndnfjcfpcfakaa
namespace Go.Proofs.Ytndnfjcfpcfakaa
open Go Go.RowKit Go.Wr Go.Fl
set_option maxHeartbeats 4000000
set_option maxRecDepth 100000
structure Bd (p : Nat) (w : World) (v : Value) (D : List (Int × Int × List Int)) : Prop where
 sl : ∃ bs : List Bk, SlX tK p w v bs ∧ bs.length = D.length ∧ ∀ (i : Nat) (k : Bk) (d : Int × Int × List Int), bs[i]? = some k → D[i]? = some d → k.fr = d.1 ∧ k.2 = d.2.1 ∧ SlX tI p w k.nx.v d.2.2
theorem Bd.below {p : Nat} {w w' : World} {v : Value} {D : List (Int × Int × List Int)} (h : Bd p w v D) (b : Below w.heap.size w w') : Bd p w' v D := by
 obtain ⟨bs, h1, h2, h3⟩ := h.sl
 exact ⟨bs, h1.below b, h2, fun i k d hk hd => ⟨(h3 i k d hk hd).1, (h3 i k d hk hd).2.1, (h3 i k d hk hd).2.2.below b⟩⟩
theorem Bd.form {p : Nat} {w : World} {v : Value} {D : List (Int × Int × List Int)} (h : Bd p w v D) : ∃ a0 cap, v = .slice a0 D.length cap ∧ D.length ≤ cap ∧ cap ≤ maxLen := by
 obtain ⟨bs, h1, h2, _⟩ := h.sl
 obtain ⟨a0, cap, e, h3, h4⟩ := h1.form
 rw [h2] at e h3
 exact ⟨a0, cap, e, h3, h4⟩
theorem Bd.get {p : Nat} {w : World} {a0 : Option Addr} {n cap : Nat} {D : List (Int × Int × List Int)} (h : Bd p w (.slice a0 n cap) D) {i : Nat} {d : Int × Int × List Int} (hd : D[i]? = some d) :
  ∃ b o a c, a0 = some ⟨b, o, none⟩ ∧ w.cell? ⟨b, o + i * 3, none⟩ = some (.int .i64 d.1) ∧ w.cell? ⟨b, o + i * 3 + 1, none⟩ = some (.int .i64 d.2.1) ∧ w.cell? ⟨b, o + i * 3 + 2, none⟩ = some (.slice a d.2.2.length c) ∧ SlX tI p w (.slice a d.2.2.length c) d.2.2 ∧ b < w.heap.size := by
 obtain ⟨bs, h1, h2, h3⟩ := h.sl
 have hi : i < bs.length := by rw [h2]; exact (List.getElem?_eq_some_iff.1 hd).1
 obtain ⟨k, hk⟩ : ∃ k, bs[i]? = some k := ⟨_, List.getElem?_eq_getElem hi⟩
 obtain ⟨b, o, e, _, hat⟩ := h1.get hk
 obtain ⟨c0, c1, c2⟩ := at_bk hat
 have e3 : tK.n = 3 := rfl
 rw [e3] at c0 c1 c2
 obtain ⟨q1, q2, q3⟩ := h3 i k d hk hd
 obtain ⟨a, c, en, _, _⟩ := q3.form
 rw [q1] at c0
 rw [q2] at c1
 rw [en] at c2 q3
 exact ⟨b, o, a, c, e, c0, c1, c2, q3, hat.1⟩
theorem at_ar {w : World} {b o : Nat} {k : Ar} (h : At w b o (tA.f k)) : w.cell? ⟨b, o, none⟩ = some (.int .i64 k.hd) ∧ w.cell? ⟨b, o + 1, none⟩ = some k.bl.v ∧ w.cell? ⟨b, o + 2, none⟩ = some (.int .i64 k.pa) :=
 ⟨h.cell 0 _ rfl, h.cell 1 _ rfl, h.cell 2 _ rfl⟩
structure Ld (p : Nat) (w : World) (v : Value) (D : List (Int × Int × List Int)) : Prop where
 sl : ∃ bs : List Ar, SlX tA p w v bs ∧ bs.length = D.length ∧ ∀ (i : Nat) (k : Ar) (d : Int × Int × List Int), bs[i]? = some k → D[i]? = some d → k.hd = d.1 ∧ k.pa = d.2.1 ∧ SlX tI p w k.bl.v d.2.2
theorem Ld.below {p : Nat} {w w' : World} {v : Value} {D : List (Int × Int × List Int)} (h : Ld p w v D) (b : Below w.heap.size w w') : Ld p w' v D := by
 obtain ⟨bs, h1, h2, h3⟩ := h.sl
 exact ⟨bs, h1.below b, h2, fun i k d hk hd => ⟨(h3 i k d hk hd).1, (h3 i k d hk hd).2.1, (h3 i k d hk hd).2.2.below b⟩⟩
theorem Ld.form {p : Nat} {w : World} {v : Value} {D : List (Int × Int × List Int)} (h : Ld p w v D) : ∃ a0 cap, v = .slice a0 D.length cap ∧ D.length ≤ cap ∧ cap ≤ maxLen := by
 obtain ⟨bs, h1, h2, _⟩ := h.sl
 obtain ⟨a0, cap, e, h3, h4⟩ := h1.form
 rw [h2] at e h3
 exact ⟨a0, cap, e, h3, h4⟩
theorem Ld.get {p : Nat} {w : World} {a0 : Option Addr} {n cap : Nat} {D : List (Int × Int × List Int)} (h : Ld p w (.slice a0 n cap) D) {i : Nat} {d : Int × Int × List Int} (hd : D[i]? = some d) :
  ∃ b o a c, a0 = some ⟨b, o, none⟩ ∧ w.cell? ⟨b, o + i * 3, none⟩ = some (.int .i64 d.1) ∧ w.cell? ⟨b, o + i * 3 + 2, none⟩ = some (.int .i64 d.2.1) ∧ w.cell? ⟨b, o + i * 3 + 1, none⟩ = some (.slice a d.2.2.length c) ∧ SlX tI p w (.slice a d.2.2.length c) d.2.2 ∧ b < w.heap.size := by
 obtain ⟨bs, h1, h2, h3⟩ := h.sl
 have hi : i < bs.length := by rw [h2]; exact (List.getElem?_eq_some_iff.1 hd).1
 obtain ⟨k, hk⟩ : ∃ k, bs[i]? = some k := ⟨_, List.getElem?_eq_getElem hi⟩
 obtain ⟨b, o, e, _, hat⟩ := h1.get hk
 obtain ⟨c0, c2, c1⟩ := at_ar hat
 have e3 : tA.n = 3 := rfl
 rw [e3] at c0 c1 c2
 obtain ⟨q1, q2, q3⟩ := h3 i k d hk hd
 obtain ⟨a, c, en, _, _⟩ := q3.form
 rw [q1] at c0
 rw [q2] at c1
 rw [en] at c2 q3
 exact ⟨b, o, a, c, e, c0, c1, c2, q3, hat.1⟩
end Go.Proofs.Ytndnfjcfpcfakaa
namespace Go.Proofs.Ytndnfjcfpcfakaa
open Go Go.RowKit Go.Wr Go.Fl
set_option maxHeartbeats 4000000
set_option maxRecDepth 100000
structure Bc (w : World) (p : Nat) (l : List In) (g c k : Nat) (row : Nat → Sv) (wr : World) : Prop where
 kb : OwR tK w.heap.size wr (.slice (some ⟨g, 0, none⟩) (nB l) c) (bkI (nB l) (frF l) (twF l) row)
 nw : ∀ i, i < k → OwR tI w.heap.size wr (row i).v (nI (nxt l i))
 od : ∀ i, k ≤ i → i < nB l → SlX tI p w (row i).v (nI (nxt l i))
 bl : Below w.heap.size w wr
theorem Bc.put {w wr w' : World} {p : Nat} {l : List In} {g c k : Nat} {row : Nat → Sv} (h : Bc w p l g c k row wr) (hk : k < nB l) (b : Below wr.heap.size wr w') {s : Sv} (hs : OwR tI w.heap.size w' s.v (nI (nxt l k))) : Bc w p l g c (k + 1) (setF row k s) (w'.setCell ⟨g, k * 3 + 2, none⟩ s.v) := by
 have hkb := h.kb.below b
 obtain ⟨hB, C, hg⟩ := hkb.blk (g := g) rfl
 have h1 := hkb.set (k := k) (j := 2) (x := ⟨frF l k, twF l k, row k⟩) (y := ⟨frF l k, twF l k, s⟩) (v := s.v) (by unfold bkI; rw [List.getElem?_map, List.getElem?_range hk]; rfl) (by decide) rfl
 rw [bkI_set hk] at h1
 refine ⟨h1, fun i hi => ?_, fun i hi hn => ?_, (bThen h.bl b).setCell hB _⟩
 ·by_cases e : i = k
  ·subst e
   rw [setF_self]
   exact hs.set_other (hs.ne hg (by decide))
  ·rw [setF_ne e]
   have := (h.nw i (by omega)).below b
   exact this.set_other (this.ne hg (by decide))
 ·rw [setF_ne (by omega)]
  exact h.od i (by omega) hn
theorem blocks_ok (w : World) (p : Nat) (l : List In) (vb va vo : Value) (bs : List Bk) (ss : List Sv) (h : Fw p l vb va vo bs ss w) (hc : w.cell? ⟨p, 0, none⟩ = some vb) (hn0 : 0 < nB l) (hn : nB l ≤ 4096) :
  Calls Try.prog 57 #[.pointer (some ⟨p, 0, none⟩)] w fun e w' => Below w.heap.size w w' ∧ ∃ v rs, e = .returned v ∧ OwR tK w.heap.size w' v rs ∧ rs.length = nB l ∧ ∀ (i : Nat) (k : Bk), rs[i]? = some k → k.fr = (frF l i : Int) ∧ k.2 = (twF l i : Int) ∧ OwR tI w.heap.size w' k.nx.v (nI (nxt l i)) := by
 obtain ⟨a0, cap, rfl, h1, h2⟩ := h.sb.form
 rw [h.lb] at hc h h1
 unfold maxLen at h2
 have H := Lib.hid h
 have hrow : bs = bkI (nB l) (frF l) (twF l) (fun i => ((bs[i]?).map (·.nx)).getD ⟨none, 0, 0⟩) := by
  apply List.ext_getElem?
  intro i
  unfold bkI
  by_cases hi : i < nB l
  ·obtain ⟨k, hk⟩ : ∃ k, bs[i]? = some k := ⟨_, List.getElem?_eq_getElem (by rw [h.lb]; exact hi)⟩
   obtain ⟨e1, e2, _⟩ := h.nb i k hk
   rw [List.getElem?_map, List.getElem?_range hi]
   simp only [Option.map_some]
   rw [← e1, ← e2, hk]
   rfl
  ·rw [List.getElem?_eq_none (by rw [h.lb]; omega), List.getElem?_eq_none (by simp; omega)]
 have HROW := Lib.hid hrow
 have HLB := Lib.hid h.lb
 clear h hrow
 go_enter Try.func57, Try.ntmps57
 go_wp2_with fail
 refine (cloneB_ok _ p _ bs H.out.sb (by rw [HLB.out]; omega)).mono ?_
 rintro e w1 ⟨b1, v1, rfl, ho⟩
 rcases ho.form with ⟨_, e⟩ | ⟨g, c, rfl, hc1, hc2, _⟩
 ·exfalso
  have := congrArg List.length e
  rw [HLB.out] at this
  simp only [List.length_nil] at this
  omega
 ·rw [HLB.out] at ho hc1 ⊢
  rw [HROW.out] at ho
  have HB := Lib.hid (show Bc w p l g c 0 (fun i => ((bs[i]?).map (·.nx)).getD ⟨none, 0, 0⟩) w1 from ⟨ho, fun i hi => by omega, fun i _ hi => by
   obtain ⟨k, hk⟩ : ∃ k, bs[i]? = some k := ⟨_, List.getElem?_eq_getElem (by rw [HLB.out]; exact hi)⟩
   rw [hk]
   exact (H.out.nb i k hk).2.2, b1⟩)
  unfold maxLen at hc2
  clear ho b1
  go_wp2
  go_loopw [12] (fun t wr => ∃ (k : Nat) (row : Nat → Sv), k ≤ nB l ∧ t = .int .i64 (k : Int) ∧ Hid (Bc w p l g c k row wr)) (fun t _ => nB l - (intOf t).toNat)
  case atStart => exact ⟨0, _, by omega, rfl, HB.out⟩
  case round =>
   clear HB
   obtain ⟨k, row, hk, rfl, hB⟩ := hrel
   by_cases hlk : k < nB l
   ·have hlk' : (k : Int) < (nB l : Int) := by omega
    have hk0 : (0 : Int) ≤ (k : Int) := by omega
    have hat := hB.out.kb.at (k := k) (x := ⟨frF l k, twF l k, row k⟩) (by unfold bkI; rw [List.getElem?_map, List.getElem?_range hlk]; rfl)
    have kn := hat.cell 2 _ rfl
    rw [show 0 + k * tK.n + 2 = k * 3 + 2 by show 0 + k * 3 + 2 = _; omega] at kn
    simp only [Sv.v] at kn
    have hod := hB.out.od k (Nat.le_refl _) hlk
    have hx2 := nxt_two l k
    clear hat
    go_wp2_with fail
    refine (cloneI_ok _ p _ _ (hod.below hB.out.bl) (by rw [nI_len]; omega)).mono ?_
    rintro e w2 ⟨b2, v2, rfl, ho2⟩
    obtain ⟨a2, n2, c2, rfl⟩ : ∃ a n c, v2 = .slice a n c := by
     rcases ho2.form with ⟨e, _⟩ | ⟨g, c, e, _⟩
     ·exact ⟨_, _, _, e⟩
     ·exact ⟨_, _, _, e⟩
    have HP := Lib.hid (hB.out.put hlk b2 (s := ⟨a2, n2, c2⟩) (ho2.mono hB.out.bl.size))
    have kf := (hB.out.kb.below b2).frozen (k * 3 + 2)
    have kn2 : w2.cell? ⟨g, k * 3 + 2, none⟩ = some (.slice (row k).a (row k).n (row k).c) := (b2.cell (p := ⟨g, k * 3 + 2, none⟩) (hB.out.kb.lt rfl)).trans kn
    clear kn b2 ho2 hod hB
    go_wp2
    go_roundw
    all_goals first
     | exact ⟨k + 1, _, by omega, by go_num, HP.out⟩
     | ((repeat apply Exists.intro); exact ⟨⟨k + 1, _, by omega, by go_num, HP.out⟩, rfl⟩)
     | (simp [intOf]; omega)
   ·obtain rfl : k = nB l := by omega
    clear hlk
    go_wp2
    go_ret
    have hB := hB.out
    refine ⟨hB.bl, _, _, rfl, hB.kb, by simp [bkI], fun i x hx => ?_⟩
    unfold bkI at hx
    by_cases hi : i < nB l
    ·rw [List.getElem?_map, List.getElem?_range hi] at hx
     simp only [Option.map_some, Option.some.injEq] at hx
     subst hx
     exact ⟨rfl, rfl, hB.nw i hi⟩
    ·rw [List.getElem?_eq_none (by simp; omega)] at hx
     cases hx
end Go.Proofs.Ytndnfjcfpcfakaa
namespace Go.Proofs.Ytndnfjcfpcfakaa
open Go Go.RowKit Go.Wr Go.Fl
set_option maxHeartbeats 4000000
set_option maxRecDepth 100000
def arI (n : Nat) (hd pa : Nat → Int) (row : Nat → Sv) : List Ar := (List.range n).map fun i => ⟨hd i, row i, pa i⟩
theorem arI_set {n : Nat} {hd pa : Nat → Int} {row : Nat → Sv} {k : Nat} (hk : k < n) (s : Sv) : (arI n hd pa row).set k ⟨hd k, s, pa k⟩ = arI n hd pa (setF row k s) := by
 apply List.ext_getElem?
 intro i
 rw [List.getElem?_set]
 unfold arI
 simp only [List.length_map, List.length_range, List.getElem?_map]
 by_cases h : k = i
 ·subst h
  rw [if_pos rfl, if_pos hk, List.getElem?_range hk]
  simp [setF_self]
 ·rw [if_neg h]
  by_cases hi : i < n
  ·rw [List.getElem?_range hi]
   simp only [Option.map_some]
   rw [setF_ne (fun e => h e.symm)]
  ·rw [List.getElem?_eq_none (by simp; omega)]
   rfl
structure Lc (w : World) (p n : Nat) (hd pa : Nat → Int) (D : Nat → List Int) (a : Option Addr) (c k : Nat) (row : Nat → Sv) (wr : World) : Prop where
 kb : OwR tA w.heap.size wr (.slice a n c) (arI n hd pa row)
 nw : ∀ i, i < k → OwR tI w.heap.size wr (row i).v (D i)
 od : ∀ i, k ≤ i → i < n → SlX tI p w (row i).v (D i)
 bl : Below w.heap.size w wr
theorem Lc.put {w wr w' : World} {p n : Nat} {hd pa : Nat → Int} {D : Nat → List Int} {g c k : Nat} {row : Nat → Sv} (h : Lc w p n hd pa D (some ⟨g, 0, none⟩) c k row wr) (hk : k < n) (b : Below wr.heap.size wr w') {s : Sv} (hs : OwR tI w.heap.size w' s.v (D k)) : Lc w p n hd pa D (some ⟨g, 0, none⟩) c (k + 1) (setF row k s) (w'.setCell ⟨g, k * 3 + 1, none⟩ s.v) := by
 have hkb := h.kb.below b
 obtain ⟨hB, C, hg⟩ := hkb.blk (g := g) rfl
 have h1 := hkb.set (k := k) (j := 1) (x := ⟨hd k, row k, pa k⟩) (y := ⟨hd k, s, pa k⟩) (v := s.v) (by unfold arI; rw [List.getElem?_map, List.getElem?_range hk]; rfl) (by decide) rfl
 rw [arI_set hk] at h1
 refine ⟨h1, fun i hi => ?_, fun i hi hn => ?_, (bThen h.bl b).setCell hB _⟩
 ·by_cases e : i = k
  ·subst e
   rw [setF_self]
   exact hs.set_other (hs.ne hg (by decide))
  ·rw [setF_ne e]
   have := (h.nw i (by omega)).below b
   exact this.set_other (this.ne hg (by decide))
 ·rw [setF_ne (by omega)]
  exact h.od i (by omega) hn
theorem loops_ok (w : World) (p n : Nat) (hd pa : Nat → Int) (D : Nat → List Int) (row : Nat → Sv) (vl : Value) (hc : w.cell? ⟨p, 6, none⟩ = some vl) (hl : SlX tA p w vl (arI n hd pa row)) (hr : ∀ i, i < n → SlX tI p w (row i).v (D i)) (hD : ∀ i, i < n → (D i).length ≤ 1048576) (hn : n ≤ 4096) :
  Calls Try.prog 58 #[.pointer (some ⟨p, 0, none⟩)] w fun e w' => Below w.heap.size w w' ∧ ∃ v row', e = .returned v ∧ OwR tA w.heap.size w' v (arI n hd pa row') ∧ ∀ (i : Nat), i < n → OwR tI w.heap.size w' (row' i).v (D i) := by
 obtain ⟨a0, cap, rfl, h1, h2⟩ := hl.form
 have hlen : (arI n hd pa row).length = n := by simp [arI]
 rw [hlen] at hc hl h1
 unfold maxLen at h2
 have HL := Lib.hid hl
 have HR := Lib.hid hr
 have HDD := Lib.hid hD
 clear hl hr hD
 go_enter Try.func58, Try.ntmps58
 go_wp2_with fail
 refine (cloneA_ok _ p _ _ HL.out (by rw [hlen]; omega)).mono ?_
 rintro e w1 ⟨b1, v1, rfl, ho⟩
 obtain ⟨a1, c1, rfl, hc2⟩ : ∃ a c, v1 = .slice a n c ∧ c ≤ maxLen := by
  rcases ho.form with ⟨e, e0⟩ | ⟨g, c, e, _, h3, _⟩
  ·rw [e0] at hlen
   simp only [List.length_nil] at hlen
   subst hlen
   exact ⟨_, _, e, by unfold maxLen; omega⟩
  ·rw [hlen] at e
   exact ⟨_, _, e, h3⟩
 unfold maxLen at hc2
 have HB := Lib.hid (show Lc w p n hd pa D a1 c1 0 row w1 from ⟨ho, fun i hi => by omega, fun i _ hi => HR.out i hi, b1⟩)
 clear ho b1 hlen
 go_wp2
 go_loopw [12] (fun t wr => ∃ (k : Nat) (row : Nat → Sv), k ≤ n ∧ t = .int .i64 (k : Int) ∧ Hid (Lc w p n hd pa D a1 c1 k row wr)) (fun t _ => n - (intOf t).toNat)
 case atStart => exact ⟨0, _, by omega, rfl, HB.out⟩
 case round =>
  clear HB
  obtain ⟨k, row, hk, rfl, hB⟩ := hrel
  by_cases hlk : k < n
  ·have hlk' : (k : Int) < (n : Int) := by omega
   have hk0 : (0 : Int) ≤ (k : Int) := by omega
   obtain ⟨g, rfl⟩ : ∃ g, a1 = some ⟨g, 0, none⟩ := by
    rcases hB.out.kb.form with ⟨e, _⟩ | ⟨g, c, e, _⟩
    ·injection e with e1 e2
     omega
    ·injection e with e1
     exact ⟨g, e1⟩
   have hat := hB.out.kb.at (k := k) (x := ⟨hd k, row k, pa k⟩) (by unfold arI; rw [List.getElem?_map, List.getElem?_range hlk]; rfl)
   have kn := hat.cell 1 _ rfl
   rw [show 0 + k * tA.n + 1 = k * 3 + 1 by show 0 + k * 3 + 1 = _; omega] at kn
   simp only [Sv.v] at kn
   have hod := hB.out.od k (Nat.le_refl _) hlk
   have hx2 := HDD.out k hlk
   clear hat
   go_wp2_with fail
   refine (cloneI_ok _ p _ _ (hod.below hB.out.bl) (by omega)).mono ?_
   rintro e w2 ⟨b2, v2, rfl, ho2⟩
   obtain ⟨a2, n2, c2, rfl⟩ : ∃ a n c, v2 = .slice a n c := by
    rcases ho2.form with ⟨e, _⟩ | ⟨g, c, e, _⟩
    ·exact ⟨_, _, _, e⟩
    ·exact ⟨_, _, _, e⟩
   have HP := Lib.hid (hB.out.put hlk b2 (s := ⟨a2, n2, c2⟩) (ho2.mono hB.out.bl.size))
   have kf := (hB.out.kb.below b2).frozen (k * 3 + 1)
   have kn2 : w2.cell? ⟨g, k * 3 + 1, none⟩ = some (.slice (row k).a (row k).n (row k).c) := (b2.cell (p := ⟨g, k * 3 + 1, none⟩) (hB.out.kb.lt rfl)).trans kn
   clear kn b2 ho2 hod hB
   go_wp2
   go_roundw
   all_goals first
    | exact ⟨k + 1, _, by omega, by go_num, HP.out⟩
    | ((repeat apply Exists.intro); exact ⟨⟨k + 1, _, by omega, by go_num, HP.out⟩, rfl⟩)
    | (simp [intOf]; omega)
  ·obtain rfl : k = n := by omega
   clear hlk
   go_wp2
   go_ret
   have hB := hB.out
   exact ⟨hB.bl, _, row, rfl, hB.kb, hB.nw⟩
end Go.Proofs.Ytndnfjcfpcfakaa
namespace Go.Proofs.Ytndnfjcfpcfakaa
open Go Go.RowKit Go.Wr Go.Fl
set_option maxRecDepth 100000
def sN : Nat → List Nat
 | 0 => [1]
 | 1 => [1, 2]
 | _ => []
theorem sm_bl : bl smallL = [(0, 1), (1, 3), (3, 5)] := by decide
theorem sm_n : nB smallL = 3 := by unfold nB; rw [sm_bl]; rfl
theorem sm_nxt : nxt smallL = sN := by
 funext b
 match b with
 | 0 => decide
 | 1 => decide
 | 2 => decide
 | b + 3 => unfold nxt; rw [sm_bl]; rfl
theorem sN_mem {u v : Nat} (h : v ∈ sN u) : (u = 0 ∧ v = 1) ∨ (u = 1 ∧ v = 1) ∨ (u = 1 ∧ v = 2) := by
 match u with
 | 0 => simp [sN] at h; omega
 | 1 => simp [sN] at h; omega
 | u + 2 => simp [sN] at h
theorem sN_dfs : DfsL sN [2, 1, 0] := by
 have h2 : Vs sN 1 2 0 (Fl.mark (Fl.mark (Fl.mark (fun _ => false) 0) 1) 2, []) (Fl.mark (Fl.mark (Fl.mark (fun _ => false) 0) 1) 2, [2]) := Vs.fin
 have h1 : Vs sN 1 1 2 (Fl.mark (Fl.mark (Fl.mark (fun _ => false) 0) 1) 2, [2]) (Fl.mark (Fl.mark (Fl.mark (fun _ => false) 0) 1) 2, [2, 1]) := Vs.fin
 have h1b := Vs.down (nx := sN) (b := 1) (k := 1) (c := 2) (s := (Fl.mark (Fl.mark (fun _ => false) 0) 1, [])) rfl rfl h2 h1
 have h1a := Vs.skip (nx := sN) (b := 1) (k := 0) (c := 1) rfl rfl h1b
 have h0 : Vs sN 1 0 1 (Fl.mark (Fl.mark (Fl.mark (fun _ => false) 0) 1) 2, [2, 1]) (Fl.mark (Fl.mark (Fl.mark (fun _ => false) 0) 1) 2, [2, 1, 0]) := Vs.fin
 exact ⟨_, _, Vs.down (nx := sN) (b := 0) (k := 0) (c := 1) (s := (Fl.mark (fun _ => false) 0, [])) rfl rfl h1a h0⟩
theorem sm_dfs : dfsL (nxt smallL) = [2, 1, 0] := by rw [sm_nxt]; exact sN_dfs.eq
theorem sN_rw : ∀ b, b < 3 → ∃ w, RW sN w b := by
 intro b hb
 have r1 : RW sN [1, 0] 1 := RW.step RW.root (by decide)
 match b with
 | 0 => exact ⟨_, RW.root⟩
 | 1 => exact ⟨_, r1⟩
 | 2 => exact ⟨_, RW.step r1 (by decide)⟩
theorem sN_21 : ¬ Dom sN 2 1 := fun h => by
 have := h [1, 0] (RW.step RW.root (by decide))
 simp at this
theorem sN_str : Str sN id 3 := fun u _ v hv hle => by
 rcases sN_mem hv with ⟨rfl, rfl⟩ | ⟨rfl, rfl⟩ | ⟨rfl, rfl⟩
 ·simp at hle
 ·exact Dom.refl _ _
 ·simp at hle
theorem sN_lt : ∀ u, u < 3 → ∀ v ∈ sN u, v < 3 := fun u _ v hv => by
 rcases sN_mem hv with ⟨rfl, rfl⟩ | ⟨rfl, rfl⟩ | ⟨rfl, rfl⟩ <;> omega
theorem sN_hd (h : Nat) : Hd sN 3 h ↔ h = 1 := by
 constructor
 ·rintro ⟨u, hu, hm, hd⟩
  rcases sN_mem hm with ⟨rfl, rfl⟩ | ⟨rfl, rfl⟩ | ⟨rfl, rfl⟩
  ·rfl
  ·rfl
  ·exact absurd hd sN_21
 ·rintro rfl
  exact ⟨1, by omega, by decide, Dom.refl _ _⟩
theorem sN_lp (x : Nat) : Lp sN 3 1 x ↔ x = 1 := by
 constructor
 ·intro h
  induction h with
  | head => rfl
  | latch hu hm hd =>
   rcases sN_mem hm with ⟨rfl, _⟩ | ⟨rfl, _⟩ | ⟨rfl, e⟩
   ·have := hd [0] RW.root
    simp at this
   ·rfl
   ·rfl
  | back _ hne _ _ ih => exact absurd ih hne
 ·rintro rfl
  exact Lp.head
theorem sm_heads : heads smallL = [1] := by
 have h : ∀ b, headB smallL b = decide (b = 1) := fun b => by
  have h0 : headB smallL b = true ↔ b = 1 := by rw [headB_iff, sm_nxt, sm_n, sN_hd]
  by_cases e : b = 1
  ·rw [h0.2 e]; simp [e]
  ·cases hh : headB smallL b with
   | true => exact absurd (h0.1 hh) e
   | false => simp [e]
 unfold heads
 rw [sm_n, show headB smallL = fun b => decide (b = 1) from funext h]
 decide
theorem sm_g7 : G7 smallL := by
 refine ⟨⟨⟨⟨⟨⟨⟨by decide, by decide⟩, by decide⟩, ⟨⟨39, false, false, 0, 0, 0, 0, 0⟩, rfl, by decide⟩⟩, by rw [sm_n]; decide⟩, ?_⟩, ?_⟩, by rw [sm_heads]; decide⟩
 ·rw [sm_n, sm_nxt]; exact sN_rw
 ·rw [sm_n, sm_nxt]; exact fun b hb => no_round sN_str sN_lt hb
theorem sm_fine : mkE smallL = (0, 0) := mk_fine sm_g7
end Go.Proofs.Ytndnfjcfpcfakaa
namespace Go.Proofs.Ytndnfjcfpcfakaa
open Go Go.RowKit Go.Wr Go.Fl
set_option maxHeartbeats 4000000
set_option maxRecDepth 100000
theorem ne_low {α : Type} {R : RT Try.prog α} {w : World} {B p : Nat} {v : Value} {l : List α} (h : OwR R B w v l) (hp : p < B) : v.ownBlock ≠ some p := fun e => by have := (h.blk e).1; omega
theorem bDrewN {n : Nat} {w w' : World} (h : Below n w w') (k : Nat) : Below n w (w'.drewN k) := ⟨h.os, h.tape, h.output, h.size, h.block⟩
end Go.Proofs.Ytndnfjcfpcfakaa
namespace Go.Proofs.Ytndnfjcfpcfakaa
open Go Go.RowKit Go.Wr Go.Fl
set_option maxHeartbeats 4000000
set_option maxRecDepth 100000
structure R2 (w : World) (q gL m : Nat) (V : Nat → Bool) (bs : List (Nat × Nat)) (os : List Nat) (vb vo : Value) (wr : World) : Prop where
 ex : Ex q w wr
 pb : Blk wr q 76 #[vb, sn, sn, sn, vo]
 st : OwR tB w.heap.size wr (.slice (some ⟨gL, 0, none⟩) m m) ((List.range m).map V)
 kb : OwR tK w.heap.size wr vb (bkL bs)
 ow : OwR tI w.heap.size wr vo (nI os)
section
variable {w wr w' : World} {q gL m : Nat} {V : Nat → Bool} {bs : List (Nat × Nat)} {os : List Nat} {vb vo v' : Value}
theorem R2.below (h : R2 w q gL m V bs os vb vo wr) (b : Below wr.heap.size wr w') : R2 w q gL m V bs os vb vo w' :=
 ⟨h.ex.trans (Ex.of_below b), h.pb.below b h.pb.lt, h.st.below b, h.kb.below b, h.ow.below b⟩
theorem R2.putB (h : R2 w q gL m V bs os vb vo wr) {b : Nat × Nat} (ho : OwR tK w.heap.size w' v' (bkL (bs ++ [b]))) (hg : wr.grownBy w' vb.ownBlock) : R2 w q gL m V (bs ++ [b]) os v' vo (w'.setCell ⟨q, 0, none⟩ v') := by
 have hpb : Blk w' q 76 #[vb, sn, sn, sn, vo] := h.pb.of_block (hg.block q h.pb.lt (fun e => h.kb.ne h.pb (by decide) e.symm))
 have hst : OwR tB w.heap.size w' (.slice (some ⟨gL, 0, none⟩) m m) ((List.range m).map V) := h.st.keep fun g e => by
  obtain ⟨_, C', hb⟩ := h.st.blk e
  exact hg.block g hb.lt (fun e => h.kb.ne hb (by decide) e.symm)
 have how : OwR tI w.heap.size w' vo (nI os) := h.ow.keep fun g e => by
  obtain ⟨_, C', hb⟩ := h.ow.blk e
  exact hg.block g hb.lt (fun e => h.kb.ne hb (by decide) e.symm)
 exact ⟨(h.ex.grown hg fun g e => (h.kb.blk e).1).set 0 v', (hpb.set 0 v').eq rfl, hst.set_other (hst.ne hpb (by decide)), ho.set_other (ho.ne hpb (by decide)), how.set_other (how.ne hpb (by decide))⟩
theorem R2.putO (h : R2 w q gL m V bs os vb vo wr) {b : Nat} (ho : OwR tI w.heap.size w' v' (nI (os ++ [b]))) (hg : wr.grownBy w' vo.ownBlock) : R2 w q gL m V bs (os ++ [b]) vb v' (w'.setCell ⟨q, 4, none⟩ v') := by
 have hpb : Blk w' q 76 #[vb, sn, sn, sn, vo] := h.pb.of_block (hg.block q h.pb.lt (fun e => h.ow.ne h.pb (by decide) e.symm))
 have hst : OwR tB w.heap.size w' (.slice (some ⟨gL, 0, none⟩) m m) ((List.range m).map V) := h.st.keep fun g e => by
  obtain ⟨_, C', hb⟩ := h.st.blk e
  exact hg.block g hb.lt (fun e => h.ow.ne hb (by decide) e.symm)
 have hkb : OwR tK w.heap.size w' vb (bkL bs) := h.kb.keep fun g e => by
  obtain ⟨_, C', hb⟩ := h.kb.blk e
  exact hg.block g hb.lt (fun e => h.ow.ne hb (by decide) e.symm)
 exact ⟨(h.ex.grown hg fun g e => (h.ow.blk e).1).set 4 v', (hpb.set 4 v').eq rfl, hst.set_other (hst.ne hpb (by decide)), hkb.set_other (hkb.ne hpb (by decide)), ho.set_other (ho.ne hpb (by decide))⟩
theorem R2.setTo {g n c : Nat} (h : R2 w q gL m V bs os (.slice (some ⟨g, 0, none⟩) n c) vo wr) {b : Nat × Nat} {rs : List (Nat × Nat)} (e : bs = rs ++ [b]) (t : Nat) (z : Int) (hz : z = (t : Int)) : R2 w q gL m V (rs ++ [(b.1, t)]) os (.slice (some ⟨g, 0, none⟩) n c) vo (wr.setCell ⟨g, rs.length * 3 + 1, none⟩ (.int .i64 z)) := by
 subst e hz
 obtain ⟨hB, C, hg⟩ := h.kb.blk (g := g) rfl
 have hs := h.kb.set (k := rs.length) (j := 1) (x := ⟨(b.1 : Int), (b.2 : Int), ⟨none, 0, 0⟩⟩) (y := ⟨(b.1 : Int), (t : Int), ⟨none, 0, 0⟩⟩) (v := .int .i64 (t : Int))
  (by rw [bkL_app, List.getElem?_append_right (by rw [bkL_len]; exact Nat.le_refl _), bkL_len, Nat.sub_self]; rfl) (by decide) rfl
 have e2 : (bkL (rs ++ [b])).set rs.length ⟨(b.1 : Int), (t : Int), ⟨none, 0, 0⟩⟩ = bkL (rs ++ [(b.1, t)]) := by
  rw [bkL_app, bkL_app, List.set_append_right _ _ (by rw [bkL_len]; exact Nat.le_refl _), bkL_len, Nat.sub_self]
  rfl
 rw [e2] at hs
 exact ⟨h.ex.set_new _ _ hB, h.pb.set_other g _ _ (blk_ne h.pb hg (by decide)), h.st.set_other (h.st.ne hg (by decide)), hs, h.ow.set_other (h.ow.ne hg (by decide))⟩
end
structure R3 (w : World) (q gb cb : Nat) (l : List In) (vo : Value) (k : Nat) (row : Nat → Sv) (wr : World) : Prop where
 ex : Ex q w wr
 pb : Blk wr q 76 #[.slice (some ⟨gb, 0, none⟩) (nB l) cb, sn, sn, sn, vo]
 kb : OwR tK w.heap.size wr (.slice (some ⟨gb, 0, none⟩) (nB l) cb) (bkI (nB l) (frF l) (twF l) row)
 rs : ∀ i, i < k → OwR tI w.heap.size wr (row i).v (nI (nxt l i))
 ow : OwR tI w.heap.size wr vo (nI (ofl l))
theorem R3.below {w wr w' : World} {q gb cb : Nat} {l : List In} {vo : Value} {k : Nat} {row : Nat → Sv} (h : R3 w q gb cb l vo k row wr) (b : Below wr.heap.size wr w') : R3 w q gb cb l vo k row w' :=
 ⟨h.ex.trans (Ex.of_below b), h.pb.below b h.pb.lt, h.kb.below b, fun i hi => (h.rs i hi).below b, h.ow.below b⟩
theorem R3.put {w wr : World} {q gb cb : Nat} {l : List In} {vo : Value} {k : Nat} {row : Nat → Sv} (h : R3 w q gb cb l vo k row wr) (hk : k < nB l) {s : Sv} (hs : OwR tI w.heap.size wr s.v (nI (nxt l k))) : R3 w q gb cb l vo (k + 1) (setF row k s) (wr.setCell ⟨gb, k * 3 + 2, none⟩ s.v) := by
 obtain ⟨hB, C, hg⟩ := h.kb.blk (g := gb) rfl
 have h1 := h.kb.set (k := k) (j := 2) (x := ⟨frF l k, twF l k, row k⟩) (y := ⟨frF l k, twF l k, s⟩) (v := s.v) (by unfold bkI; rw [List.getElem?_map, List.getElem?_range hk]; rfl) (by decide) rfl
 rw [bkI_set hk] at h1
 refine ⟨h.ex.set_new _ _ hB, h.pb.set_other gb _ _ (blk_ne h.pb hg (by decide)), h1, fun i hi => ?_, h.ow.set_other (h.ow.ne hg (by decide))⟩
 by_cases e : i = k
 ·subst e
  rw [setF_self]
  exact hs.set_other (hs.ne hg (by decide))
 ·rw [setF_ne e]
  have := h.rs i (by omega)
  exact this.set_other (this.ne hg (by decide))
structure Rw2 (q : Nat) (l : List In) (vb vo : Value) (bs : List Bk) (w : World) : Prop where
 lb : bs.length = nB l
 sb : SlX tK q w vb bs
 nb : ∀ b k, bs[b]? = some k → k.fr = (frF l b : Int) ∧ k.2 = (twF l b : Int) ∧ SlX tI q w k.nx.v (nI (nxt l b))
 so : SlX tI q w vo (nI (ofl l))
theorem Rw2.ex {q : Nat} {l : List In} {vb vo : Value} {bs : List Bk} {w w' : World} (h : Rw2 q l vb vo bs w) (e : Ex q w w') : Rw2 q l vb vo bs w' :=
 ⟨h.lb, h.sb.ex e, fun b k hk => ⟨(h.nb b k hk).1, (h.nb b k hk).2.1, (h.nb b k hk).2.2.ex e⟩, h.so.ex e⟩
theorem R3.done {w wr : World} {q gb cb : Nat} {l : List In} {vo : Value} {row : Nat → Sv} (h : R3 w q gb cb l vo (nB l) row wr) : Rw2 q l (.slice (some ⟨gb, 0, none⟩) (nB l) cb) vo (bkI (nB l) (frF l) (twF l) row) wr := by
 refine ⟨by simp [bkI], h.kb.sl (h.kb.ne h.pb (by decide)), fun b k hk => ?_, h.ow.sl (h.ow.ne h.pb (by decide))⟩
 unfold bkI at hk
 by_cases hb : b < nB l
 ·rw [List.getElem?_map, List.getElem?_range hb] at hk
  simp only [Option.map_some, Option.some.injEq] at hk
  subst hk
  have ho := h.rs b hb
  exact ⟨rfl, rfl, ho.sl (ho.ne h.pb (by decide))⟩
 ·rw [List.getElem?_eq_none (by simp; omega)] at hk
  cases hk
theorem rblocks_ok (w : World) (q : Nat) (l : List In) (v vt : Value) (h : SlX tN q w v l) (ht : SlX tI q w vt (tosI l l.length)) (hl : l.length ≤ 4096) (hne : 0 < l.length) (hb : Blk w q 76 #[sn, sn, sn, sn, sn]) :
  Calls Try.prog 52 #[.pointer (some ⟨q, 0, none⟩), v, vt] w fun e w' => e = .returned (.tuple #[]) ∧ Ex q w w' ∧ ∃ vb vo bs, Blk w' q 76 #[vb, sn, sn, sn, vo] ∧ Rw2 q l vb vo bs w' := by
 obtain ⟨a0, cap, rfl, h1, h2⟩ := h.form
 obtain ⟨a1, capt, rfl, h1t, h2t⟩ := ht.form
 have hpl := hb.lt
 have H := Lib.hid h
 have HT := Lib.hid ht
 have HB := Lib.hid hb
 unfold maxLen at h2 h2t
 rw [tosI_len] at h1t HT ⊢
 clear h ht hb
 go_enter Try.func52, Try.ntmps52
 go_wp2_with fail
 refine (leaders_ok _ q q _ _ l H.out (by have := HT.out; exact this) (by omega) hne).mono ?_
 rintro e w1 ⟨b1, gL, rfl, hst⟩
 have HS0 := Lib.hid (show R2 w q gL l.length (lead l) (blks (lead l) 0) (ofs (lead l) 0) sn sn w1 from ⟨Ex.of_below b1, HB.out.below b1 HB.out.lt, hst, OwR.nil _ _, OwR.nil _ _⟩)
 clear b1 hst
 go_wp2
 go_loopw [7] (fun t wr => ∃ (k : Nat) (vb vo : Value), k ≤ l.length ∧ t = .int .i64 (k : Int) ∧ Hid (R2 w q gL l.length (lead l) (blks (lead l) k) (ofs (lead l) k) vb vo wr)) (fun t _ => l.length - (intOf t).toNat)
 case atStart => exact ⟨0, _, _, by omega, rfl, HS0.out⟩
 case round =>
  clear HS0
  obtain ⟨k, vb, vo, hk, rfl, hS⟩ := hrel
  by_cases hlt : k < l.length
  ·have hlt' : (k : Int) < (l.length : Int) := by omega
   have hk0' : (0 : Int) ≤ (k : Int) := by omega
   obtain ⟨rs, b, e1, e2⟩ := blks_step (lead0 l) k
   have HBS := Lib.hid e2
   have hrl : rs.length < l.length := by
    have h1 := congrArg List.length e2
    have h2 := blks_len (lead l) (k + 1)
    have h3 := List.length_filter_le (lead l) (List.range (k + 1))
    simp at h1 h3
    omega
   have cl := OwB.cell hS.out.st (i := k) hlt
   cases hld : lead l k with
   | true =>
    rw [hld] at cl
    rw [hld, if_pos rfl] at e1
    have HE1 := Lib.hid e1
    have hbl : (blks (lead l) k).length = rs.length := by have := congrArg List.length e1; simp at this; omega
    clear e1 e2 hld
    have kvb : wr.cell? ⟨q, 0, none⟩ = some vb := hS.out.pb.cell 0
    have hsz := hS.out.ex.size
    go_upto_region 6 with (at_builtin; refine wpl_push tK rfl _ _ rfl w.heap.size vb (bkL (blks (lead l) k)) rfl (hS.out.kb.alloc _) _ 0 1 1 [⟨(k : Int), 0, ⟨none, 0, 0⟩⟩] rfl rfl (rangeNew (by rfl) (by rfl)) (by rw [bkL_len]; unfold maxLen; simp; omega) (by rw [bkL_len]; show _ * 40 ≤ _; simp; omega) (by simp; omega) ?_; intro v' w9 hown hgrow hform; obtain ⟨g, c, rfl, _⟩ := hform (by simp); have hp9 := (hS.out.pb.alloc (.cells #[.int .i64 (k : Int), .int .i64 0, .slice none 0 0] 72)).of_block (hgrow.block q (hS.out.pb.alloc (.cells #[.int .i64 (k : Int), .int .i64 0, .slice none 0 0] 72)).lt (fun e => (hS.out.kb.alloc (.cells #[.int .i64 (k : Int), .int .i64 0, .slice none 0 0] 72)).ne (hS.out.pb.alloc (.cells #[.int .i64 (k : Int), .int .i64 0, .slice none 0 0] 72)) (by decide) e.symm)); have c9 := hp9.cell 0; have f9 := hp9.frozen 0; simp only [List.getElem?_toArray, List.getElem?_cons_zero] at c9)
    have hlen : (bkL (blks (lead l) k)).length = rs.length := by rw [bkL_len, hbl]
    have hS9 := (hS.out.below (bAl (bRefl wr) (.cells #[.int .i64 (k : Int), .int .i64 0, .slice none 0 0] 72))).putB (b := (k, 0)) (w' := w9) (v' := .slice (some ⟨g, 0, none⟩) ((bkL (blks (lead l) k)).length + 1) c) (by rw [bkL_app]; exact hown) hgrow
    rw [HE1.out, hlen] at hS9
    have HS := Lib.hid hS9
    simp only [hlen]
    generalize w9.setCell ⟨q, 0, none⟩ (.slice (some ⟨g, 0, none⟩) (rs.length + 1) c) = W at HS ⊢
    clear hS9 hown hgrow hform hp9 c9 f9 kvb hS hsz hlen HE1 cl
    have hm1 : (rs.length : Int) + 1 ≤ 4096 := by omega
    have hsz := HS.out.ex.size
    have kvb : W.cell? ⟨q, 0, none⟩ = some (.slice (some ⟨g, 0, none⟩) (rs.length + 1) c) := HS.out.pb.cell 0
    have hsub : (rs.length : Int) + 1 - 1 = (rs.length : Int) := by omega
    have hr0 : (0 : Int) ≤ (rs.length : Int) := by omega
    have hr1 : (rs.length : Int) < (rs.length : Int) + 1 := by omega
    have hat := HS.out.kb.at (k := rs.length) (x := ⟨(b.1 : Int), (b.2 : Int), ⟨none, 0, 0⟩⟩) (by rw [bkL_app, List.getElem?_append_right (by rw [bkL_len]; exact Nat.le_refl _), bkL_len, Nat.sub_self]; rfl)
    have kt := hat.cell 1 _ rfl
    have e3 : 0 + rs.length * tK.n + 1 = rs.length * 3 + 1 := by show 0 + rs.length * 3 + 1 = _; omega
    rw [e3] at kt
    have kf := HS.out.kb.frozen (rs.length * 3 + 1)
    have HS7 := Lib.hid (HS.out.setTo (b := b) (rs := rs) rfl (k + 1) ((k : Int) + 1) (by omega))
    clear hat e3
    go_upto_region 8 with (fail)
    generalize W.setCell ⟨g, rs.length * 3 + 1, none⟩ (.int .i64 ((k : Int) + 1)) = W7 at HS7 ⊢
    clear HS kvb kt kf
    have kvo : W7.cell? ⟨q, 4, none⟩ = some vo := HS7.out.pb.cell 4
    have hsz7 := HS7.out.ex.size
    go_upto_region 3 with (at_builtin; refine wpl_push tI rfl _ _ rfl w.heap.size vo (nI (ofs (lead l) k)) (by rfl) (HS7.out.ow.alloc _) _ 0 1 1 [(rs.length : Int)] (by rfl) rfl (rangeNew (by rfl) (by rfl)) (by rw [nI_len, ofs_len]; unfold maxLen; simp; omega) (by rw [nI_len, ofs_len]; show _ * 8 ≤ _; simp; omega) (by simp; omega) ?_; intro v' w9 hown hgrow hform; obtain ⟨g', c', rfl, _⟩ := hform (by simp); have hp9 := (HS7.out.pb.alloc (.cells #[.int .i64 (rs.length : Int)] 3)).of_block (hgrow.block q (HS7.out.pb.alloc (.cells #[.int .i64 (rs.length : Int)] 3)).lt (fun e => (HS7.out.ow.alloc (.cells #[.int .i64 (rs.length : Int)] 3)).ne (HS7.out.pb.alloc (.cells #[.int .i64 (rs.length : Int)] 3)) (by decide) e.symm)); have c9 := hp9.cell 4; have f9 := hp9.frozen 4; simp only [List.getElem?_toArray, List.getElem?_cons_zero, List.getElem?_cons_succ] at c9)
    have hS9 := (HS7.out.below (bAl (bRefl W7) (.cells #[.int .i64 (rs.length : Int)] 3))).putO (b := rs.length) (w' := w9) (v' := .slice (some ⟨g', 0, none⟩) ((nI (ofs (lead l) k)).length + 1) c') (by rw [nI_app]; exact hown) hgrow
    have HS9 := Lib.hid hS9
    generalize w9.setCell ⟨q, 4, none⟩ (.slice (some ⟨g', 0, none⟩) ((nI (ofs (lead l) k)).length + 1) c') = WF at HS9 ⊢
    have HSG : Hid (R2 w q gL l.length (lead l) (blks (lead l) (k + 1)) (ofs (lead l) (k + 1)) (.slice (some ⟨g, 0, none⟩) (rs.length + 1) c) (.slice (some ⟨g', 0, none⟩) ((nI (ofs (lead l) k)).length + 1) c') WF) := by
     show R2 _ _ _ _ _ _ _ _ _ _
     rw [ofs_succ, HBS.out]
     simp only [List.length_append, List.length_cons, List.length_nil, Nat.zero_add, Nat.add_sub_cancel]
     exact HS9.out
    clear hS9 HS9 HS7 hown hgrow hform hp9 c9 f9 kvo hsub
    go_wp2
    go_roundw
    all_goals first
     | exact ⟨k + 1, _, _, by omega, by go_num, HSG.out⟩
     | ((repeat apply Exists.intro); exact ⟨⟨k + 1, _, _, by omega, by go_num, HSG.out⟩, rfl⟩)
     | (simp [intOf]; omega)
   | false =>
    rw [hld] at cl
    rw [hld, if_neg (by simp)] at e1
    have hk0 : 0 < k := by
     rcases Nat.eq_zero_or_pos k with e | e
     ·subst e; rw [lead0] at hld; cases hld
     ·exact e
    have hS9 := hS.out
    rw [e1] at hS9
    rcases hS9.kb.form with ⟨_, e⟩ | ⟨g, c, rfl, hc1, hc2, _⟩
    ·have := congrArg List.length e
     simp [bkL] at this
    ·rw [bkL_len] at hS9 hc1
     simp only [List.length_append, List.length_cons, List.length_nil, Nat.zero_add] at hS9 hc1
     have HS := Lib.hid hS9
     obtain ⟨W, rfl⟩ : ∃ x : World, x = wr := ⟨_, rfl⟩
     clear hS9 hS e1 e2 hld
     go_upto_region 6 with (fail)
     clear cl
     have hm1 : (rs.length : Int) + 1 ≤ 4096 := by omega
     have hsz := HS.out.ex.size
     have kvb : W.cell? ⟨q, 0, none⟩ = some (.slice (some ⟨g, 0, none⟩) (rs.length + 1) c) := HS.out.pb.cell 0
     have hsub : (rs.length : Int) + 1 - 1 = (rs.length : Int) := by omega
     have hr0 : (0 : Int) ≤ (rs.length : Int) := by omega
     have hr1 : (rs.length : Int) < (rs.length : Int) + 1 := by omega
     have hat := HS.out.kb.at (k := rs.length) (x := ⟨(b.1 : Int), (b.2 : Int), ⟨none, 0, 0⟩⟩) (by rw [bkL_app, List.getElem?_append_right (by rw [bkL_len]; exact Nat.le_refl _), bkL_len, Nat.sub_self]; rfl)
     have kt := hat.cell 1 _ rfl
     have e3 : 0 + rs.length * tK.n + 1 = rs.length * 3 + 1 := by show 0 + rs.length * 3 + 1 = _; omega
     rw [e3] at kt
     have kf := HS.out.kb.frozen (rs.length * 3 + 1)
     have HS7 := Lib.hid (HS.out.setTo (b := b) (rs := rs) rfl (k + 1) ((k : Int) + 1) (by omega))
     clear hat e3
     go_upto_region 8 with (fail)
     generalize W.setCell ⟨g, rs.length * 3 + 1, none⟩ (.int .i64 ((k : Int) + 1)) = W7 at HS7 ⊢
     clear HS kvb kt kf
     have kvo : W7.cell? ⟨q, 4, none⟩ = some vo := HS7.out.pb.cell 4
     have hsz7 := HS7.out.ex.size
     go_upto_region 3 with (at_builtin; refine wpl_push tI rfl _ _ rfl w.heap.size vo (nI (ofs (lead l) k)) (by rfl) (HS7.out.ow.alloc _) _ 0 1 1 [(rs.length : Int)] (by rfl) rfl (rangeNew (by rfl) (by rfl)) (by rw [nI_len, ofs_len]; unfold maxLen; simp; omega) (by rw [nI_len, ofs_len]; show _ * 8 ≤ _; simp; omega) (by simp; omega) ?_; intro v' w9 hown hgrow hform; obtain ⟨g', c', rfl, _⟩ := hform (by simp); have hp9 := (HS7.out.pb.alloc (.cells #[.int .i64 (rs.length : Int)] 3)).of_block (hgrow.block q (HS7.out.pb.alloc (.cells #[.int .i64 (rs.length : Int)] 3)).lt (fun e => (HS7.out.ow.alloc (.cells #[.int .i64 (rs.length : Int)] 3)).ne (HS7.out.pb.alloc (.cells #[.int .i64 (rs.length : Int)] 3)) (by decide) e.symm)); have c9 := hp9.cell 4; have f9 := hp9.frozen 4; simp only [List.getElem?_toArray, List.getElem?_cons_zero, List.getElem?_cons_succ] at c9)
     have hS9 := (HS7.out.below (bAl (bRefl W7) (.cells #[.int .i64 (rs.length : Int)] 3))).putO (b := rs.length) (w' := w9) (v' := .slice (some ⟨g', 0, none⟩) ((nI (ofs (lead l) k)).length + 1) c') (by rw [nI_app]; exact hown) hgrow
     have HS9 := Lib.hid hS9
     generalize w9.setCell ⟨q, 4, none⟩ (.slice (some ⟨g', 0, none⟩) ((nI (ofs (lead l) k)).length + 1) c') = WF at HS9 ⊢
     have HSG : Hid (R2 w q gL l.length (lead l) (blks (lead l) (k + 1)) (ofs (lead l) (k + 1)) (.slice (some ⟨g, 0, none⟩) (rs.length + 1) c) (.slice (some ⟨g', 0, none⟩) ((nI (ofs (lead l) k)).length + 1) c') WF) := by
      show R2 _ _ _ _ _ _ _ _ _ _
      rw [ofs_succ, HBS.out]
      simp only [List.length_append, List.length_cons, List.length_nil, Nat.zero_add, Nat.add_sub_cancel]
      exact HS9.out
     clear hS9 HS9 HS7 hown hgrow hform hp9 c9 f9 kvo hsub
     go_wp2
     go_roundw
     all_goals first
      | exact ⟨k + 1, _, _, by omega, by go_num, HSG.out⟩
      | ((repeat apply Exists.intro); exact ⟨⟨k + 1, _, _, by omega, by go_num, HSG.out⟩, rfl⟩)
      | (simp [intOf]; omega)
  ·obtain rfl : k = l.length := by omega
   have hS2 := hS.out
   have hbl0 : 0 < (bl l).length := bl_pos (by intro e; rw [e] at hne; simp at hne)
   have hnl := nB_le l
   rcases hS2.kb.form with ⟨_, e⟩ | ⟨gb, cb, rfl, hcb1, hcb2, hgb⟩
   ·exfalso
    have := congrArg List.length e
    rw [bkL_len] at this
    have h2 : (bl l).length = 0 := this
    omega
   rcases hS2.ow.form with ⟨_, e⟩ | ⟨go, co, rfl, hco1, hco2, hgo⟩
   ·exfalso
    have := congrArg List.length e
    rw [nI_len, ofs_len] at this
    simp only [List.length_nil] at this
    omega
   rw [bkL_len] at hS2 hcb1
   rw [nI_len, ofs_len] at hS2 hco1
   have hnb : (blks (lead l) l.length).length = nB l := rfl
   rw [hnb] at hS2 hcb1
   have hn0 : 0 < nB l := hbl0
   have HR := Lib.hid (show R3 w q gb cb l (.slice (some ⟨go, 0, none⟩) l.length co) 0 (fun _ => ⟨none, 0, 0⟩) wr from ⟨hS2.ex, hS2.pb, by rw [← bkL_bkI l _ fun _ _ => rfl]; exact hS2.kb, fun i hi => by omega, hS2.ow⟩)
   unfold maxLen at hcb2 hco2
   clear hS2 hS hlt hk hbl0 hnb
   obtain ⟨WW, rfl⟩ : ∃ x : World, x = wr := ⟨_, rfl⟩
   have kp : WW.cell? ⟨q, 0, none⟩ = some (.slice (some ⟨gb, 0, none⟩) (nB l) cb) := HR.out.pb.cell 0
   go_wp2
   go_loopw [9] (fun t wr => ∃ (b : Nat) (row : Nat → Sv), b ≤ nB l ∧ t = .int .i64 (b : Int) ∧ Hid (R3 w q gb cb l (.slice (some ⟨go, 0, none⟩) l.length co) b row wr)) (fun t _ => nB l - (intOf t).toNat)
   case atStart => exact ⟨0, _, by omega, rfl, HR.out⟩
   case round =>
    clear HR kp
    obtain ⟨b, row, hb, rfl, hR⟩ := hrel
    have kp : wr.cell? ⟨q, 0, none⟩ = some (.slice (some ⟨gb, 0, none⟩) (nB l) cb) := hR.out.pb.cell 0
    by_cases hlb : b < nB l
    ·have hlb' : (b : Int) < (nB l : Int) := by omega
     have hb0 : (0 : Int) ≤ (b : Int) := by omega
     obtain ⟨e, he⟩ : ∃ e, (bl l)[b]? = some e := ⟨_, List.getElem?_eq_getElem hlb⟩
     obtain ⟨i, x, e1, hi, hx⟩ := bl_end he
     have hnx := nxt_eq he (x := x) (by rw [e1]; exact hx)
     have e2 := (frF_of he).2
     rw [e1] at e2 hnx
     simp only [Nat.add_sub_cancel] at hnx
     have hi' : (i : Int) < (l.length : Int) := by omega
     have hi0 : (0 : Int) ≤ (i : Int) := by omega
     have hsub : (i : Int) + 1 - 1 = (i : Int) := by omega
     have HNX := Lib.hid hnx
     have HX := Lib.hid hx
     have kt : wr.cell? ⟨gb, b * 3 + 1, none⟩ = some (.int .i64 ((i : Int) + 1)) := by
      have hat := hR.out.kb.at (k := b) (x := ⟨frF l b, twF l b, row b⟩) (by unfold bkI; rw [List.getElem?_map, List.getElem?_range hlb]; rfl)
      have := hat.cell 1 _ rfl
      rw [show 0 + b * tK.n + 1 = b * 3 + 1 by show 0 + b * 3 + 1 = _; omega, e2] at this
      exact this
     obtain ⟨bt, ot, rfl, _, hbt, ct⟩ := SlX.int (HT.out.ex hR.out.ex) (tosI_get hi)
     clear e2 e1 he hnx hx
     cases htg : tgt l i with
     | none =>
      rw [htg] at ct
      have ct2 : wr.cell? ⟨bt, ot + i, none⟩ = some (.int .i64 (-1)) := ct
      have HP : Hid (nxt l b = ([] : List Nat) ++ (if x.op = 26 ∨ x.op = 39 then [] else [b + 1]) ∧ ([] : List Nat).length ≤ 1) := by
       show _ ∧ _
       rw [HNX.out, htg]
       exact ⟨rfl, by simp⟩
      have HRo : Hid (OwR tI wr.heap.size wr (Sv.v ⟨none, 0, 0⟩) (nI [])) := OwR.nil _ _
      clear ct htg HNX
      have HR1 := Lib.hid hR.out
      have HRb : Hid (∀ w', Below wr.heap.size wr w' → R3 w q gb cb l (.slice (some ⟨go, 0, none⟩) l.length co) b row w') := fun w' hb => hR.out.below hb
      have hsz0 := hR.out.ex.size
      have hBW : wr.heap.size ≤ wr.heap.size := Nat.le_refl _
      go_upto_region 16 with (fail)
      clear hR kp kt ct2 hsub
      obtain ⟨bb, off, rfl, _, hat⟩ := (H.out.ex HR1.out.ex).get HX.out
      obtain ⟨c0, _⟩ := at_ins hat
      have e8 : tN.n = 8 := rfl
      rw [e8] at c0
      clear hat e8
      by_cases hop : x.op = 26
      ·have hop' : (x.op != 26) = false := by simp [hop]
       have hnx2 : nxt l b = [] := by rw [HP.out.1, if_pos (Or.inl hop), List.append_nil]
       have hRo := HRo.out
       rw [← hnx2] at hRo
       have HRF := Lib.hid (HR1.out.put hlb (s := ⟨none, 0, 0⟩) (hRo.mono (Nat.le_trans hsz0 (Nat.le_refl _))))
       clear hRo
       have kp := HR1.out.pb.cell 0
       simp only [List.getElem?_toArray, List.getElem?_cons_zero] at kp
       have hat := HR1.out.kb.at (k := b) (x := ⟨frF l b, twF l b, row b⟩) (by unfold bkI; rw [List.getElem?_map, List.getElem?_range hlb]; rfl)
       have kn := hat.cell 2 _ rfl
       rw [show 0 + b * tK.n + 2 = b * 3 + 2 by show 0 + b * 3 + 2 = _; omega] at kn
       have kf := HR1.out.kb.frozen (b * 3 + 2)
       clear hat
       go_wp2
       go_roundw
       all_goals first
        | exact ⟨b + 1, _, by omega, by go_num, HRF.out⟩
        | ((repeat apply Exists.intro); exact ⟨⟨b + 1, _, by omega, by go_num, HRF.out⟩, rfl⟩)
        | (simp [intOf]; omega)
      ·have hop' : (x.op != 26) = true := by simp [hop]
       by_cases hop2 : x.op = 39
       ·have hop2' : (x.op != 39) = false := by simp [hop2]
        have hnx2 : nxt l b = [] := by rw [HP.out.1, if_pos (Or.inr hop2), List.append_nil]
        have hRo := HRo.out
        rw [← hnx2] at hRo
        have HRF := Lib.hid (HR1.out.put hlb (s := ⟨none, 0, 0⟩) (hRo.mono (Nat.le_trans hsz0 (Nat.le_refl _))))
        clear hRo
        have kp := HR1.out.pb.cell 0
        simp only [List.getElem?_toArray, List.getElem?_cons_zero] at kp
        have hat := HR1.out.kb.at (k := b) (x := ⟨frF l b, twF l b, row b⟩) (by unfold bkI; rw [List.getElem?_map, List.getElem?_range hlb]; rfl)
        have kn := hat.cell 2 _ rfl
        rw [show 0 + b * tK.n + 2 = b * 3 + 2 by show 0 + b * 3 + 2 = _; omega] at kn
        have kf := HR1.out.kb.frozen (b * 3 + 2)
        clear hat
        go_wp2
        go_roundw
        all_goals first
         | exact ⟨b + 1, _, by omega, by go_num, HRF.out⟩
         | ((repeat apply Exists.intro); exact ⟨⟨b + 1, _, by omega, by go_num, HRF.out⟩, rfl⟩)
         | (simp [intOf]; omega)
       ·have hop2' : (x.op != 39) = true := by simp [hop2]
        have hnx2 : nxt l b = [] ++ [b + 1] := by rw [HP.out.1, if_neg (by simp [hop, hop2])]
        have hpre := HP.out.2
        have HNX2 := Lib.hid hnx2
        clear hnx2 hop hop2 HP
        have hszW := HR1.out.ex.size
        go_upto_region 18 with (at_builtin; refine wpl_push tI rfl _ _ rfl wr.heap.size (Sv.v ⟨none, 0, 0⟩) (nI []) (by rfl) (HRo.out.alloc _) _ 0 1 1 [((b : Int) + 1)] (by rfl) rfl (rangeNew (by rfl) (by rfl)) (by unfold maxLen; simp [nI]) (by show _ * 8 ≤ _; simp [nI]) (Nat.le_trans hBW (by simp)) ?_; intro v2 w10 hown2 hgrow2 hform2; obtain ⟨g2, c2', rfl, _⟩ := hform2 (by simp))
        have hb10 : Below wr.heap.size wr w10 := ((Below.refl wr.heap.size wr).alloc hBW _).grown hgrow2 (Nat.le_trans hBW (by simp)) (fun g e => (HRo.out.blk e).1)
        have HR10 := Lib.hid (show R3 w q gb cb l (.slice (some ⟨go, 0, none⟩) l.length co) b row w10 from HRb.out w10 hb10)
        have hRo : OwR tI wr.heap.size w10 (Sv.v ⟨some ⟨g2, 0, none⟩, (nI []).length + 1, c2'⟩) (nI (nxt l b)) := by
         rw [HNX2.out, nI_app]
         exact hown2
        have HRP := Lib.hid hRo
        clear hRo hown2 hgrow2 hform2 hb10 HR1 HRo HNX2 c0
        have hRo := HRP.out
        have HR1 := HR10
        have HRF := Lib.hid (HR1.out.put hlb (s := ⟨some ⟨g2, 0, none⟩, (nI []).length + 1, c2'⟩) (hRo.mono hsz0))
        clear hRo
        have kp := HR1.out.pb.cell 0
        simp only [List.getElem?_toArray, List.getElem?_cons_zero] at kp
        have hat := HR1.out.kb.at (k := b) (x := ⟨frF l b, twF l b, row b⟩) (by unfold bkI; rw [List.getElem?_map, List.getElem?_range hlb]; rfl)
        have kn := hat.cell 2 _ rfl
        rw [show 0 + b * tK.n + 2 = b * 3 + 2 by show 0 + b * 3 + 2 = _; omega] at kn
        have kf := HR1.out.kb.frozen (b * 3 + 2)
        clear hat
        go_wp2
        go_roundw
        all_goals first
         | exact ⟨b + 1, _, by omega, by go_num, HRF.out⟩
         | ((repeat apply Exists.intro); exact ⟨⟨b + 1, _, by omega, by go_num, HRF.out⟩, rfl⟩)
         | (simp [intOf]; omega)
     | some t =>
      have htl := tgt_lt htg
      have hol : (ofl l).length = l.length := ofs_len _ _
      obtain ⟨u, hu⟩ : ∃ u, (ofl l)[t]? = some u := ⟨_, List.getElem?_eq_getElem (by omega)⟩
      have HP : Hid (nxt l b = [u] ++ (if x.op = 26 ∨ x.op = 39 then [] else [b + 1]) ∧ [u].length ≤ 1) := by
       show _ ∧ _
       rw [HNX.out, htg]
       simp only
       rw [List.getD_eq_getElem?_getD, hu]
       exact ⟨rfl, by simp⟩
      rw [htg] at ct
      have ct2 : wr.cell? ⟨bt, ot + i, none⟩ = some (.int .i64 (t : Int)) := ct
      have htl' : (t : Int) < (l.length : Int) := by omega
      have ht0 : (0 : Int) ≤ (t : Int) := by omega
      have cu := OwR.int hR.out.ow (k := t) (x := (u : Int)) (by unfold nI; rw [List.getElem?_map, hu]; rfl)
      have kp2 : wr.cell? ⟨q, 4, none⟩ = some (.slice (some ⟨go, 0, none⟩) l.length co) := hR.out.pb.cell 4
      clear ct htg HNX hu hol
      have hsz0 := hR.out.ex.size
      go_upto_region 15 with (fail)
      have cv : wr.drew.cell? ⟨q, 4, none⟩ = some (.slice (some ⟨go, 0, none⟩) l.length co) ∧ wr.drew.cell? ⟨bt, ot + i, none⟩ = some (.int .i64 (t : Int)) ∧ wr.drew.cell? ⟨go, t, none⟩ = some (.int .i64 (u : Int)) := ⟨kp2, ct2, cu⟩
      refine wp_region_last 13 (fun w' => w'.cell? ⟨q, 4, none⟩ = some (.slice (some ⟨go, 0, none⟩) l.length co) ∧ w'.cell? ⟨bt, ot + i, none⟩ = some (.int .i64 (t : Int)) ∧ w'.cell? ⟨go, t, none⟩ = some (.int .i64 (u : Int))) mix ?_
      refine wpAnyL_take (i := 0) (v := .slice none 0 0) rfl (by kernel_rfl) (by kernel_rfl) (by kernel_rfl) (fun _ _ _ h => h) rfl (by kernel_rfl) (Or.inl ⟨by rfl, fun w' hw' => by (try go_split_ands); go_simp⟩) cv ?_
      simp only [Act.put, List.getElem_toArray, List.getElem_cons_zero, List.setIfInBounds_toArray, List.set_cons_zero, List.set_cons_succ]
      refine wpAnyL_take (i := 1) (v := .pointer (some ⟨q, 0, none⟩)) rfl (by kernel_rfl) (by kernel_rfl) (by kernel_rfl) (fun _ _ _ h => h) rfl (by kernel_rfl) (Or.inl ⟨by rfl, fun w' hw' => by (try go_split_ands); go_simp⟩) cv ?_
      simp only [Act.put, List.getElem_toArray, List.getElem_cons_zero, List.getElem_cons_succ, List.setIfInBounds_toArray, List.set_cons_zero, List.set_cons_succ]
      refine wpAnyL_take (i := 2) (v := .pointer (some ⟨q, 0, none⟩)) rfl (by kernel_rfl) (by kernel_rfl) (by kernel_rfl) (fun _ _ _ h => h) rfl (by kernel_rfl) (Or.inl ⟨by rfl, fun w' hw' => by (try go_split_ands); go_simp⟩) cv ?_
      simp only [Act.put, List.getElem_toArray, List.getElem_cons_zero, List.getElem_cons_succ, List.setIfInBounds_toArray, List.set_cons_zero, List.set_cons_succ]
      refine wpAnyL_take (i := 3) (v := .pointer (some ⟨q, 4, none⟩)) rfl (by kernel_rfl) (by kernel_rfl) (by kernel_rfl) (fun _ _ _ h => h) rfl (by kernel_rfl) (Or.inl ⟨by rfl, fun w' hw' => by (try go_split_ands); go_simp⟩) cv ?_
      simp only [Act.put, List.getElem_toArray, List.getElem_cons_zero, List.getElem_cons_succ, List.setIfInBounds_toArray, List.set_cons_zero, List.set_cons_succ]
      refine wpAnyL_take (i := 4) (v := .slice (some ⟨go, 0, none⟩) l.length co) rfl (by kernel_rfl) (by kernel_rfl) (by kernel_rfl) (fun _ _ _ h => h) rfl (by kernel_rfl) (Or.inl ⟨by rfl, fun w' hw' => by (try go_split_ands); go_simp⟩) cv ?_
      simp only [Act.put, List.getElem_toArray, List.getElem_cons_zero, List.getElem_cons_succ, List.setIfInBounds_toArray, List.set_cons_zero, List.set_cons_succ]
      refine wpAnyL_take (i := 5) (v := .slice (some ⟨bt, ot, none⟩) l.length capt) rfl (by kernel_rfl) (by kernel_rfl) (by kernel_rfl) (fun _ _ _ h => h) rfl (by kernel_rfl) (Or.inl ⟨by rfl, fun w' hw' => by (try go_split_ands); go_simp⟩) cv ?_
      simp only [Act.put, List.getElem_toArray, List.getElem_cons_zero, List.getElem_cons_succ, List.setIfInBounds_toArray, List.set_cons_zero, List.set_cons_succ]
      refine wpAnyL_take (i := 6) (v := .int .i64 (i : Int)) rfl (by kernel_rfl) (by kernel_rfl) (by kernel_rfl) (fun _ _ _ h => h) rfl (by kernel_rfl) (Or.inl ⟨by rfl, fun w' hw' => by (try go_split_ands); go_simp⟩) cv ?_
      simp only [Act.put, List.getElem_toArray, List.getElem_cons_zero, List.getElem_cons_succ, List.setIfInBounds_toArray, List.set_cons_zero, List.set_cons_succ]
      refine wpAnyL_take (i := 7) (v := .pointer (some ⟨bt, ot + i, none⟩)) rfl (by kernel_rfl) (by kernel_rfl) (by kernel_rfl) (fun _ _ _ h => h) rfl (by kernel_rfl) (Or.inl ⟨by rfl, fun w' hw' => by (try go_split_ands); go_simp⟩) cv ?_
      simp only [Act.put, List.getElem_toArray, List.getElem_cons_zero, List.getElem_cons_succ, List.setIfInBounds_toArray, List.set_cons_zero, List.set_cons_succ]
      refine wpAnyL_take (i := 8) (v := .int .i64 (t : Int)) rfl (by kernel_rfl) (by kernel_rfl) (by kernel_rfl) (fun _ _ _ h => h) rfl (by kernel_rfl) (Or.inl ⟨by rfl, fun w' hw' => by (try go_split_ands); go_simp⟩) cv ?_
      simp only [Act.put, List.getElem_toArray, List.getElem_cons_zero, List.getElem_cons_succ, List.setIfInBounds_toArray, List.set_cons_zero, List.set_cons_succ]
      refine wpAnyL_take (i := 9) (v := .pointer (some ⟨go, t, none⟩)) rfl (by kernel_rfl) (by kernel_rfl) (by kernel_rfl) (fun _ _ _ h => h) rfl (by kernel_rfl) (Or.inl ⟨by rfl, fun w' hw' => by (try go_split_ands); go_simp⟩) cv ?_
      simp only [Act.put, List.getElem_toArray, List.getElem_cons_zero, List.getElem_cons_succ, List.setIfInBounds_toArray, List.set_cons_zero, List.set_cons_succ]
      refine wpAnyL_take (i := 10) (v := .int .i64 (u : Int)) rfl (by kernel_rfl) (by kernel_rfl) (by kernel_rfl) (fun _ _ _ h => h) rfl (by kernel_rfl) (Or.inl ⟨by rfl, fun w' hw' => by (try go_split_ands); go_simp⟩) cv ?_
      simp only [Act.put, List.getElem_toArray, List.getElem_cons_zero, List.getElem_cons_succ, List.setIfInBounds_toArray, List.set_cons_zero, List.set_cons_succ]
      refine wpAnyL_one (i := 11) (by kernel_rfl) rfl (fun K hK => ?_)
      go_simp
      have hbA : Below wr.heap.size wr (wr.alloc (.cells #[.int .i64 (u : Int)] 3)).drew := (bAl (bRefl wr) _).drew
      have HN6 := Lib.hid ((Blk.new wr 3 #[.int .i64 (u : Int)]).drew)
      have hz6 : wr.heap.size < (wr.alloc (.cells #[.int .i64 (u : Int)] 3)).drew.heap.size := HN6.out.lt
      have cv6 : (wr.alloc (.cells #[.int .i64 (u : Int)] 3)).drew.cell? ⟨q, 4, none⟩ = some (.slice (some ⟨go, 0, none⟩) l.length co) ∧ (wr.alloc (.cells #[.int .i64 (u : Int)] 3)).drew.cell? ⟨bt, ot + i, none⟩ = some (.int .i64 (t : Int)) ∧ (wr.alloc (.cells #[.int .i64 (u : Int)] 3)).drew.cell? ⟨go, t, none⟩ = some (.int .i64 (u : Int)) :=
       ⟨(hbA.cell (p := ⟨q, 4, none⟩) hR.out.pb.lt).trans kp2, (hbA.cell (p := ⟨bt, ot + i, none⟩) hbt).trans ct2, (hbA.cell (p := ⟨go, t, none⟩) (hR.out.ow.lt rfl)).trans cu⟩
      generalize (wr.alloc (.cells #[.int .i64 (u : Int)] 3)).drew = W6 at hbA HN6 hz6 cv6 ⊢
      refine hK.out _ _ (fun _ => cv6) ?_
      clear hK K
      refine wpAnyL_one (i := 12) (by kernel_rfl) rfl (fun K hK => ?_)
      refine step_push tI rfl (.tmp 84) (.tmp 95) rfl wr.heap.size (.slice none 0 0) [] (by rfl) (OwR.nil _ _) wr.heap.size 0 1 1 [((u : Int))] (by rfl) rfl (rangeBlk HN6.out (by rfl)) (by unfold maxLen; simp) (by show _ * 8 ≤ _; simp) (by omega) ?_
      intro v' w9 hown hgrow hform
      obtain ⟨g', c', rfl, _⟩ := hform (by simp)
      have hb9 : Below wr.heap.size wr w9 := hbA.grown hgrow (by omega) (fun g e => by cases e)
      have cv9 : w9.cell? ⟨q, 4, none⟩ = some (.slice (some ⟨go, 0, none⟩) l.length co) ∧ w9.cell? ⟨bt, ot + i, none⟩ = some (.int .i64 (t : Int)) ∧ w9.cell? ⟨go, t, none⟩ = some (.int .i64 (u : Int)) :=
       ⟨(hb9.cell (p := ⟨q, 4, none⟩) hR.out.pb.lt).trans kp2, (hb9.cell (p := ⟨bt, ot + i, none⟩) hbt).trans ct2, (hb9.cell (p := ⟨go, t, none⟩) (hR.out.ow.lt rfl)).trans cu⟩
      simp only [Act.put, List.setIfInBounds_toArray]
      refine hK.out _ _ (fun _ => cv9) ?_
      clear hK K
      refine wpAnyL_one (i := 13) (by kernel_rfl) rfl (fun K hK => ?_)
      go_simp
      refine hK.out _ _ (fun h => absurd rfl h) ?_
      clear hK K
      refine wpAnyL_done (by kernel_rfl) ?_ _
      have HRo : Hid (OwR tI wr.heap.size w9 (Sv.v ⟨some ⟨g', 0, none⟩, 1, c'⟩) (nI [u])) := by
       show OwR _ _ _ _ _
       exact hown
      have HR1 := Lib.hid (hR.out.below hb9)
      have hBW : wr.heap.size ≤ w9.heap.size := hb9.size
      have HRb : Hid (∀ w', Below wr.heap.size w9 w' → R3 w q gb cb l (.slice (some ⟨go, 0, none⟩) l.length co) b row w') := fun w' hb => hR.out.below (hb9.trans hb)
      clear hown hgrow hform hb9 cv9 cv6 HN6 hz6 hbA cv kp2 cu ct2 hR kp kt hsub
      go_upto_region 16 with (fail)
      obtain ⟨bb, off, rfl, _, hat⟩ := (H.out.ex HR1.out.ex).get HX.out
      obtain ⟨c0, _⟩ := at_ins hat
      have e8 : tN.n = 8 := rfl
      rw [e8] at c0
      clear hat e8
      by_cases hop : x.op = 26
      ·have hop' : (x.op != 26) = false := by simp [hop]
       have hnx2 : nxt l b = [u] := by rw [HP.out.1, if_pos (Or.inl hop), List.append_nil]
       have hRo := HRo.out
       rw [← hnx2] at hRo
       have HRF := Lib.hid (HR1.out.put hlb (s := ⟨some ⟨g', 0, none⟩, 1, c'⟩) (hRo.mono (Nat.le_trans hsz0 (Nat.le_refl _))))
       clear hRo
       have kp := HR1.out.pb.cell 0
       simp only [List.getElem?_toArray, List.getElem?_cons_zero] at kp
       have hat := HR1.out.kb.at (k := b) (x := ⟨frF l b, twF l b, row b⟩) (by unfold bkI; rw [List.getElem?_map, List.getElem?_range hlb]; rfl)
       have kn := hat.cell 2 _ rfl
       rw [show 0 + b * tK.n + 2 = b * 3 + 2 by show 0 + b * 3 + 2 = _; omega] at kn
       have kf := HR1.out.kb.frozen (b * 3 + 2)
       clear hat
       go_wp2
       go_roundw
       all_goals first
        | exact ⟨b + 1, _, by omega, by go_num, HRF.out⟩
        | ((repeat apply Exists.intro); exact ⟨⟨b + 1, _, by omega, by go_num, HRF.out⟩, rfl⟩)
        | (simp [intOf]; omega)
      ·have hop' : (x.op != 26) = true := by simp [hop]
       by_cases hop2 : x.op = 39
       ·have hop2' : (x.op != 39) = false := by simp [hop2]
        have hnx2 : nxt l b = [u] := by rw [HP.out.1, if_pos (Or.inr hop2), List.append_nil]
        have hRo := HRo.out
        rw [← hnx2] at hRo
        have HRF := Lib.hid (HR1.out.put hlb (s := ⟨some ⟨g', 0, none⟩, 1, c'⟩) (hRo.mono (Nat.le_trans hsz0 (Nat.le_refl _))))
        clear hRo
        have kp := HR1.out.pb.cell 0
        simp only [List.getElem?_toArray, List.getElem?_cons_zero] at kp
        have hat := HR1.out.kb.at (k := b) (x := ⟨frF l b, twF l b, row b⟩) (by unfold bkI; rw [List.getElem?_map, List.getElem?_range hlb]; rfl)
        have kn := hat.cell 2 _ rfl
        rw [show 0 + b * tK.n + 2 = b * 3 + 2 by show 0 + b * 3 + 2 = _; omega] at kn
        have kf := HR1.out.kb.frozen (b * 3 + 2)
        clear hat
        go_wp2
        go_roundw
        all_goals first
         | exact ⟨b + 1, _, by omega, by go_num, HRF.out⟩
         | ((repeat apply Exists.intro); exact ⟨⟨b + 1, _, by omega, by go_num, HRF.out⟩, rfl⟩)
         | (simp [intOf]; omega)
       ·have hop2' : (x.op != 39) = true := by simp [hop2]
        have hnx2 : nxt l b = [u] ++ [b + 1] := by rw [HP.out.1, if_neg (by simp [hop, hop2])]
        have hpre := HP.out.2
        have HNX2 := Lib.hid hnx2
        clear hnx2 hop hop2 HP
        have hszW := HR1.out.ex.size
        go_upto_region 18 with (at_builtin; refine wpl_push tI rfl _ _ rfl wr.heap.size (Sv.v ⟨some ⟨g', 0, none⟩, 1, c'⟩) (nI [u]) (by rfl) (HRo.out.alloc _) _ 0 1 1 [((b : Int) + 1)] (by rfl) rfl (rangeNew (by rfl) (by rfl)) (by unfold maxLen; simp [nI]) (by show _ * 8 ≤ _; simp [nI]) (Nat.le_trans hBW (by simp)) ?_; intro v2 w10 hown2 hgrow2 hform2; obtain ⟨g2, c2', rfl, _⟩ := hform2 (by simp))
        have hb10 : Below wr.heap.size w9 w10 := ((Below.refl wr.heap.size w9).alloc hBW _).grown hgrow2 (Nat.le_trans hBW (by simp)) (fun g e => (HRo.out.blk e).1)
        have HR10 := Lib.hid (show R3 w q gb cb l (.slice (some ⟨go, 0, none⟩) l.length co) b row w10 from HRb.out w10 hb10)
        have hRo : OwR tI wr.heap.size w10 (Sv.v ⟨some ⟨g2, 0, none⟩, (nI [u]).length + 1, c2'⟩) (nI (nxt l b)) := by
         rw [HNX2.out, nI_app]
         exact hown2
        have HRP := Lib.hid hRo
        clear hRo hown2 hgrow2 hform2 hb10 HR1 HRo HNX2 c0
        have hRo := HRP.out
        have HR1 := HR10
        have HRF := Lib.hid (HR1.out.put hlb (s := ⟨some ⟨g2, 0, none⟩, (nI [u]).length + 1, c2'⟩) (hRo.mono hsz0))
        clear hRo
        have kp := HR1.out.pb.cell 0
        simp only [List.getElem?_toArray, List.getElem?_cons_zero] at kp
        have hat := HR1.out.kb.at (k := b) (x := ⟨frF l b, twF l b, row b⟩) (by unfold bkI; rw [List.getElem?_map, List.getElem?_range hlb]; rfl)
        have kn := hat.cell 2 _ rfl
        rw [show 0 + b * tK.n + 2 = b * 3 + 2 by show 0 + b * 3 + 2 = _; omega] at kn
        have kf := HR1.out.kb.frozen (b * 3 + 2)
        clear hat
        go_wp2
        go_roundw
        all_goals first
         | exact ⟨b + 1, _, by omega, by go_num, HRF.out⟩
         | ((repeat apply Exists.intro); exact ⟨⟨b + 1, _, by omega, by go_num, HRF.out⟩, rfl⟩)
         | (simp [intOf]; omega)
    ·obtain rfl : b = nB l := by omega
     go_wp2
     go_end0
     have hR := hR.out
     exact ⟨rfl, hR.ex, _, _, _, hR.pb, hR.done⟩
end Go.Proofs.Ytndnfjcfpcfakaa
namespace Go.Proofs.Ytndnfjcfpcfakaa
open Go Go.RowKit Go.Wr Go.Fl
set_option maxHeartbeats 4000000
set_option maxRecDepth 100000
theorem fetches_ok (w : World) (imm : Int) : Calls Try.prog 113 #[.int .i64 imm] w fun e w' => e = .returned (.bool (wrS5 imm)) ∧ w' = w := by
 unfold wrS5
 by_cases h1 : imm = 1
 ·subst h1
  go_enter Try.func113, Try.ntmps113
  go_wp2
  go_ret
  exact ⟨rfl, rfl⟩
 ·have n1 : (imm == 1) = false := by simpa using h1
  by_cases h2 : imm = 65
  ·subst h2
   go_enter Try.func113, Try.ntmps113
   go_wp2
   go_ret
   exact ⟨rfl, rfl⟩
  ·have n2 : (imm == 65) = false := by simpa using h2
   by_cases h3 : imm = 81
   ·subst h3
    go_enter Try.func113, Try.ntmps113
    go_wp2
    go_ret
    exact ⟨rfl, rfl⟩
   ·have n3 : (imm == 81) = false := by simpa using h3
    by_cases h4 : imm = 161
    ·subst h4
     go_enter Try.func113, Try.ntmps113
     go_wp2
     go_ret
     exact ⟨rfl, rfl⟩
    ·have n4 : (imm == 161) = false := by simpa using h4
     go_enter Try.func113, Try.ntmps113
     go_wp2
     go_ret
     exact ⟨retB (by simp [n1, n2, n3, n4]), rfl⟩
theorem atom_ok (w : World) (imm : Int) : Calls Try.prog 114 #[.int .i64 imm] w fun e w' => e = .returned (.bool (wrS5 imm || (imm == 0 || imm == 64 || imm == 80 || imm == 160 || imm == 241))) ∧ w' = w := by
 obtain ⟨q, hq⟩ : ∃ q, q = wrS5 imm := ⟨_, rfl⟩
 rw [← hq]
 have HQ := Lib.hid hq
 clear hq
 go_enter Try.func114, Try.ntmps114
 go_wp2_with fail
 refine (fetches_ok _ imm).mono ?_
 rintro e w1 ⟨rfl, rfl⟩
 rw [← HQ.out]
 clear HQ
 cases q with
 | true =>
  go_wp2
  go_ret
  exact ⟨rfl, rfl⟩
 | false =>
  by_cases h1 : imm = 0
  ·subst h1
   go_wp2
   go_ret
   exact ⟨rfl, rfl⟩
  ·have n1 : (imm == 0) = false := by simpa using h1
   by_cases h2 : imm = 64
   ·subst h2
    go_wp2
    go_ret
    exact ⟨rfl, rfl⟩
   ·have n2 : (imm == 64) = false := by simpa using h2
    by_cases h3 : imm = 80
    ·subst h3
     go_wp2
     go_ret
     exact ⟨rfl, rfl⟩
    ·have n3 : (imm == 80) = false := by simpa using h3
     by_cases h4 : imm = 160
     ·subst h4
      go_wp2
      go_ret
      exact ⟨rfl, rfl⟩
     ·have n4 : (imm == 160) = false := by simpa using h4
      go_wp2
      go_ret
      exact ⟨retB (by simp [n1, n2, n3, n4]), rfl⟩
def rwa (y : Rw) : Array Value := #[.int .i64 y.code, .int .i64 y.op, .int .i64 y.sz, .bool y.nar, .bool y.reg, .int .i64 y.dst, .int .i64 y.src, .int .i64 y.off, .int .i64 y.imm, .int .i64 y.second, .bool y.wr]
theorem good_ok (w : World) (y : Rw) (imm : Int) : Calls Try.prog 109 #[.agg (rwa y), .int .i64 imm] w fun e w' => e = .returned (.bool (goodR y imm)) ∧ Below w.heap.size w w' := by
 obtain ⟨code, op, sz, nar, reg, dst, src, off, im, second, wr⟩ := y
 obtain ⟨R, hR⟩ : ∃ R, R = goodR ⟨code, op, sz, nar, reg, dst, src, off, im, second, wr⟩ imm := ⟨_, rfl⟩
 rw [← hR]
 unfold goodR at hR
 simp only at hR
 have HR := Lib.hid hR
 clear hR
 unfold rwa
 go_enter Try.func109, Try.ntmps109
 by_cases h1 : op = 20
 ·have e1 : Hid (R = true) := by show _ = _; rw [HR.out, if_pos h1]
  subst h1
  clear HR
  go_wp2
  go_ret
  exact ⟨retB e1.out.symm, bAl (bRefl w) _⟩
 ·have HR1 := Lib.hid (HR.out.trans (if_neg h1))
  have p1 : (op == 20) = false := by simpa using h1
  clear HR h1
  by_cases h2 : imm < -2147483648 ∨ 2147483647 < imm
  ·have e1 : Hid (R = false) := by show _ = _; rw [HR1.out, if_pos h2]
   clear HR1
   by_cases h3 : imm < -2147483648
   ·go_wp2
    go_ret
    exact ⟨retB e1.out.symm, bAl (bRefl w) _⟩
   ·have h4 : 2147483647 < imm := by omega
    have h3' : -2147483648 ≤ imm := by omega
    clear h2
    go_wp2
    go_ret
    exact ⟨retB e1.out.symm, bAl (bRefl w) _⟩
  ·have HR2 := Lib.hid (HR1.out.trans (if_neg h2))
   have h3 : -2147483648 ≤ imm := by omega
   have h4 : imm ≤ 2147483647 := by omega
   clear HR1 h2
   by_cases h5 : op = 4 ∨ op = 5 ∨ op = 6 ∨ op = 7
   ·have e1 : Hid (R = (imm != 0)) := by show _ = _; rw [HR2.out, if_pos h5]
    clear HR2
    rcases h5 with h5 | h5 | h5 | h5
    all_goals
     subst h5
     go_wp2
     go_ret
     exact ⟨retB e1.out.symm, bAl (bRefl w) _⟩
   ·have HR3 := Lib.hid (HR2.out.trans (if_neg h5))
    have a4 : (op == 4) = false := by simp; omega
    have a5 : (op == 5) = false := by simp; omega
    have a6 : (op == 6) = false := by simp; omega
    have a7 : (op == 7) = false := by simp; omega
    clear HR2 h5
    by_cases h6 : op = 11 ∨ op = 12 ∨ op = 13
    ·have e1 : Hid (R = ((decide (0 ≤ imm) && decide (imm < 32)) || (decide (0 ≤ imm) && decide (imm < 64) && !nar))) := by show _ = _; rw [HR3.out, if_pos h6]
     clear HR3
     have fin : ∀ b : Bool, ((decide (0 ≤ imm) && decide (imm < 32)) || (decide (0 ≤ imm) && decide (imm < 64) && !nar)) = b → Hid (R = b) := fun b hb => by show _ = _; rw [e1.out, hb]
     by_cases g1 : 0 ≤ imm
     ·by_cases g2 : imm < 32
      ·have f1 := fin true (by simp [g1, g2])
       clear fin e1
       rcases h6 with h6 | h6 | h6
       all_goals
        subst h6
        go_wp2
        go_ret
        exact ⟨retB f1.out.symm, bAl (bRefl w) _⟩
      ·have g2' : 32 ≤ imm := by omega
       by_cases g3 : imm < 64
       ·have f1 := fin (decide (imm < 32) || !nar) (by simp [g1, g2, g3])
        clear fin e1 g2
        rcases h6 with h6 | h6 | h6
        all_goals
         subst h6
         go_wp2
         go_ret
         exact ⟨retB f1.out.symm, bAl (bRefl w) _⟩
       ·have f1 := fin (decide (imm < 32)) (by simp [g2, g3])
        have g3' : 64 ≤ imm := by omega
        clear fin e1 g2 g3
        rcases h6 with h6 | h6 | h6
        all_goals
         subst h6
         go_wp2
         go_ret
         exact ⟨retB f1.out.symm, bAl (bRefl w) _⟩
     ·have f1 := fin false (by simp [g1])
      have g1' : imm < 0 := by omega
      clear fin e1 g1
      rcases h6 with h6 | h6 | h6
      all_goals
       subst h6
       go_wp2
       go_ret
       exact ⟨retB f1.out.symm, bAl (bRefl w) _⟩
    ·have HR4 := Lib.hid (HR3.out.trans (if_neg h6))
     have b1 : (op == 11) = false := by simp; omega
     have b2 : (op == 12) = false := by simp; omega
     have b3 : (op == 13) = false := by simp; omega
     clear HR3 h6
     by_cases h7 : op = 25
     ·have e1 : Hid (R = (wrS5 imm || (imm == 0 || imm == 64 || imm == 80 || imm == 160 || imm == 241))) := by show _ = _; rw [HR4.out, if_pos h7]
      clear HR4
      subst h7
      go_wp2_with (go_at_call 114; refine (atom_ok _ _).mono ?_; rintro e w1 ⟨rfl, rfl⟩; rw [← e1.out])
      go_ret
      exact ⟨rfl, bAl (bRefl w) _⟩
     ·have HR5 := Lib.hid (HR4.out.trans (if_neg h7))
      have b4 : (op == 25) = false := by simpa using h7
      clear HR4 h7
      by_cases h8 : op = 21
      ·have e1 : Hid (R = decide (0 ≤ imm)) := by show _ = _; rw [HR5.out, if_pos h8]
       clear HR5
       subst h8
       go_wp2
       go_ret
       exact ⟨retB e1.out.symm, bAl (bRefl w) _⟩
      ·have e1 : Hid (R = true) := by show _ = _; rw [HR5.out, if_neg h8]
       have b5 : (op == 21) = false := by simpa using h8
       clear HR5 h8
       go_wp2
       go_ret
       exact ⟨retB e1.out.symm, bAl (bRefl w) _⟩
def reg1 (c dst : Int) (wr : Bool) : Bool := c == -1 && (decide (dst < 0) || decide (10 < dst) || (dst == 10 && wr))
def reg2 (c src op imm : Int) : Bool := c == -1 && (decide (src < 0) || decide (10 < src) || (src == 10 && op == 25 && wrS5 imm))
theorem regsR_eq (y : Rw) (dst src imm : Int) : regsR y dst src imm = (!(reg1 y.dst dst y.wr) && !(reg2 y.src src y.op imm)) := by
 unfold regsR reg1 reg2
 by_cases h1 : y.dst = -1 ∧ (dst < 0 ∨ 10 < dst ∨ (dst = 10 ∧ y.wr = true))
 ·rw [if_pos h1]
  have : (y.dst == -1 && (decide (dst < 0) || decide (10 < dst) || (dst == 10 && y.wr))) = true := by simp; grind
  rw [this]; rfl
 ·rw [if_neg h1]
  have : (y.dst == -1 && (decide (dst < 0) || decide (10 < dst) || (dst == 10 && y.wr))) = false := by simp; grind
  rw [this]
  by_cases h2 : y.src = -1 ∧ (src < 0 ∨ 10 < src ∨ (src = 10 ∧ y.op = 25 ∧ wrS5 imm = true))
  ·rw [if_pos h2]
   have : (y.src == -1 && (decide (src < 0) || decide (10 < src) || (src == 10 && y.op == 25 && wrS5 imm))) = true := by simp; grind
   rw [this]; rfl
  ·rw [if_neg h2]
   have : (y.src == -1 && (decide (src < 0) || decide (10 < src) || (src == 10 && y.op == 25 && wrS5 imm))) = false := by simp; grind
   rw [this]; rfl
theorem regs_ok (w : World) (y : Rw) (dst src imm : Int) : Calls Try.prog 108 #[.agg (rwa y), .int .i64 dst, .int .i64 src, .int .i64 imm] w fun e w' => e = .returned (.bool (regsR y dst src imm)) ∧ Below w.heap.size w w' := by
 rw [regsR_eq]
 obtain ⟨code, op, sz, nar, reg, cd, cs, off, im, second, wr⟩ := y
 simp only
 obtain ⟨q1, hq1⟩ : ∃ q, q = reg1 cd dst wr := ⟨_, rfl⟩
 obtain ⟨q2, hq2⟩ : ∃ q, q = reg2 cs src op imm := ⟨_, rfl⟩
 rw [← hq1, ← hq2]
 unfold reg1 at hq1
 unfold reg2 at hq2
 obtain ⟨q3, hq3⟩ : ∃ q, q = wrS5 imm := ⟨_, rfl⟩
 rw [← hq3] at hq2
 have HQ1 := Lib.hid hq1
 have HQ2 := Lib.hid hq2
 have HQ3 := Lib.hid hq3
 clear hq1 hq2 hq3
 unfold rwa
 go_enter Try.func108, Try.ntmps108
 go_upto_region 1 with (fail)
 generalize hW : w.alloc _ = W
 have c5 : W.cell? ⟨w.heap.size, 5, none⟩ = some (.int .i64 cd) := by rw [← hW]; exact (Blk.new _ _ _).cell 5
 have c6 : W.cell? ⟨w.heap.size, 6, none⟩ = some (.int .i64 cs) := by rw [← hW]; exact (Blk.new _ _ _).cell 6
 have c1 : W.cell? ⟨w.heap.size, 1, none⟩ = some (.int .i64 op) := by rw [← hW]; exact (Blk.new _ _ _).cell 1
 have ca : W.cell? ⟨w.heap.size, 10, none⟩ = some (.bool wr) := by rw [← hW]; exact (Blk.new _ _ _).cell 10
 have bW : Below w.heap.size w W := by rw [← hW]; exact bAl (bRefl w) _
 clear hW
 go_cut [27] (fun t wc => t = .bool q1 ∧ W = wc)
 case first =>
  have fin : ∀ b : Bool, (cd == -1 && (decide (dst < 0) || decide (10 < dst) || (dst == 10 && wr))) = b → Hid (q1 = b) := fun b hb => by show _ = _; rw [HQ1.out, hb]
  clear HQ1 HQ2 HQ3
  by_cases k1 : cd = -1
  ·subst k1
   by_cases k2 : dst < 0
   ·have f1 := fin true (by simp [k2])
    clear fin
    go_wp2
    go_meet
    exact ⟨by rw [f1.out], rfl⟩
   ·have k2' : 0 ≤ dst := by omega
    by_cases k3 : 10 < dst
    ·have f1 := fin true (by simp [k3])
     clear fin k2
     go_wp2
     go_meet
     exact ⟨by rw [f1.out], rfl⟩
    ·have k3' : dst ≤ 10 := by omega
     by_cases k4 : dst = 10
     ·subst k4
      have f1 := fin wr (by simp)
      clear fin k2 k3
      go_wp2
      go_meet
      exact ⟨by rw [f1.out], rfl⟩
     ·have k4' : (dst == 10) = false := by simpa using k4
      have f1 := fin (decide (dst < 0) || decide (10 < dst)) (by simp [k4])
      clear fin k2 k3 k4
      go_wp2
      go_meet
      exact ⟨by rw [f1.out], rfl⟩
  ·have k1' : (cd == -1) = false := by simpa using k1
   have f1 := fin false (by simp [k1])
   clear fin k1
   go_wp2
   go_meet
   exact ⟨by rw [f1.out], rfl⟩
 case rest =>
  obtain ⟨rfl, rfl⟩ := hcut
  clear HQ1
  cases q1 with
  | true =>
   go_wp2
   go_ret
   exact ⟨rfl, bW⟩
  | false =>
   go_upto_region 3 with (fail)
   go_cut [51] (fun t wc => t = .bool q2 ∧ W = wc)
   case first =>
    have fin : ∀ b : Bool, (cs == -1 && (decide (src < 0) || decide (10 < src) || (src == 10 && op == 25 && q3))) = b → Hid (q2 = b) := fun b hb => by show _ = _; rw [HQ2.out, hb]
    clear HQ2
    by_cases k1 : cs = -1
    ·subst k1
     by_cases k2 : src < 0
     ·have f1 := fin true (by simp [k2])
      clear fin
      go_wp2
      go_meet
      exact ⟨by rw [f1.out], rfl⟩
     ·have k2' : 0 ≤ src := by omega
      by_cases k3 : 10 < src
      ·have f1 := fin true (by simp [k3])
       clear fin k2
       go_wp2
       go_meet
       exact ⟨by rw [f1.out], rfl⟩
      ·have k3' : src ≤ 10 := by omega
       by_cases k4 : src = 10
       ·subst k4
        by_cases k5 : op = 25
        ·subst k5
         have f1 := fin q3 (by simp)
         clear fin k2 k3
         go_wp2_with (go_at_call 113; refine (fetches_ok _ _).mono ?_; rintro e w1 ⟨rfl, rfl⟩; rw [← HQ3.out])
         go_meet
         exact ⟨by rw [f1.out], rfl⟩
        ·have k5' : (op == 25) = false := by simpa using k5
         have f1 := fin false (by simp [k5])
         clear fin k2 k3 k5
         go_wp2
         go_meet
         exact ⟨by rw [f1.out], rfl⟩
       ·have k4' : (src == 10) = false := by simpa using k4
        have f1 := fin (decide (src < 0) || decide (10 < src)) (by simp [k4])
        clear fin k2 k3 k4
        go_wp2
        go_meet
        exact ⟨by rw [f1.out], rfl⟩
    ·have k1' : (cs == -1) = false := by simpa using k1
     have f1 := fin false (by simp [k1])
     clear fin k1
     go_wp2
     go_meet
     exact ⟨by rw [f1.out], rfl⟩
   case rest =>
    obtain ⟨rfl, rfl⟩ := hcut
    cases q2
    all_goals
     go_wp2
     go_ret
     exact ⟨rfl, bW⟩
end Go.Proofs.Ytndnfjcfpcfakaa
namespace Go.Proofs.Ytndnfjcfpcfakaa
open Go Go.RowKit Go.Wr Go.Fl
set_option maxHeartbeats 4000000
set_option maxRecDepth 100000
theorem rowRow : RowTy Try.prog 155 11 := ⟨_, Try.underlying155, rfl, by kernel_rfl⟩
theorem at_row {w : World} {b o : Nat} {y : Rw} (h : At w b o (rwv y)) : w.cell? ⟨b, o, none⟩ = some (.int .i64 y.code) ∧ w.cell? ⟨b, o + 1, none⟩ = some (.int .i64 y.op) ∧ w.cell? ⟨b, o + 2, none⟩ = some (.int .i64 y.sz) ∧ w.cell? ⟨b, o + 3, none⟩ = some (.bool y.nar) ∧
  w.cell? ⟨b, o + 4, none⟩ = some (.bool y.reg) ∧ w.cell? ⟨b, o + 5, none⟩ = some (.int .i64 y.dst) ∧ w.cell? ⟨b, o + 6, none⟩ = some (.int .i64 y.src) ∧ w.cell? ⟨b, o + 7, none⟩ = some (.int .i64 y.off) ∧ w.cell? ⟨b, o + 8, none⟩ = some (.int .i64 y.imm) ∧
  w.cell? ⟨b, o + 9, none⟩ = some (.int .i64 y.second) ∧ w.cell? ⟨b, o + 10, none⟩ = some (.bool y.wr) :=
 ⟨h.cell 0 _ rfl, h.cell 1 _ rfl, h.cell 2 _ rfl, h.cell 3 _ rfl, h.cell 4 _ rfl, h.cell 5 _ rfl, h.cell 6 _ rfl, h.cell 7 _ rfl, h.cell 8 _ rfl, h.cell 9 _ rfl, h.cell 10 _ rfl⟩
def zrw : Rw := ⟨0, 0, 0, false, false, 0, 0, 0, 0, 0, false⟩
def FindP (o : Option Rw) (e : Ending) : Prop := match o with
 | some y => e = .returned (.tuple #[.agg (rwa y), .bool true])
 | none => e = .returned (.tuple #[.agg (rwa zrw), .bool false])
theorem find_ok (w : World) (p : Nat) (v : Value) (l : List Rw) (x : In) (h : SlX tR p w v l) :
  Calls Try.prog 107 #[v, .agg (inv x)] w fun e w' => FindP (l.find? (fit x.op x.sz x.nar x.reg)) e ∧ Below w.heap.size w w' := by
 obtain ⟨r, hr⟩ : ∃ r, r = l.find? (fit x.op x.sz x.nar x.reg) := ⟨_, rfl⟩
 rw [← hr]
 have HR := Lib.hid hr
 obtain ⟨a0, cap, rfl, h1, h2⟩ := h.form
 have H := Lib.hid h
 unfold maxLen at h2
 clear hr h
 have hv : inv x = #[.int .i64 x.op, .bool x.nar, .bool x.reg, .int .i64 x.sz, .int .i64 x.dst, .int .i64 x.src, .int .i64 x.off, .int .i64 x.imm] := rfl
 rw [hv]
 go_enter Try.func107, Try.ntmps107
 go_upto_region 1 with (fail)
 rw [← hv]
 generalize hW : ((w.alloc (.cells (inv x) 88)).alloc _) = W
 have PX : Blk W w.heap.size 88 (inv x) := by rw [← hW]; exact (Blk.new _ _ _).alloc _
 have PZ : Blk W (w.heap.size + 1) 155 (rwa zrw) := by rw [← hW]; exact Blk.new_at _ _ (by simp)
 have bW : Below w.heap.size w W := by rw [← hW]; exact bAl (bAl (bRefl w) _) _
 have HX := Lib.hid PX
 have HZ := Lib.hid PZ
 clear hW PX PZ hv
 go_wp2
 go_loopw [6] (fun t wr => ∃ k : Nat, k ≤ l.length ∧ t = .int .i64 (k : Int) ∧ Hid (r = (l.drop k).find? (fit x.op x.sz x.nar x.reg)) ∧ Below w.heap.size w wr ∧ Below W.heap.size W wr) (fun t _ => l.length - (intOf t).toNat)
 case atStart => exact ⟨0, by omega, rfl, HR.out, bW, bRefl W⟩
 case round =>
  clear HR bW
  obtain ⟨k, hk, rfl, hq, hb, hbW⟩ := hrel
  have PX := HX.out.below hbW HX.out.lt
  have PZ := HZ.out.below hbW HZ.out.lt
  by_cases hlt : k < l.length
  ·have hlt' : (k : Int) < (l.length : Int) := by omega
   obtain ⟨y, hy⟩ : ∃ y, l[k]? = some y := ⟨_, List.getElem?_eq_getElem hlt⟩
   have hd : l.drop k = y :: l.drop (k + 1) := by
    rw [List.drop_eq_getElem_cons hlt]
    rw [List.getElem?_eq_getElem hlt] at hy
    injection hy with hy
    rw [hy]
   have hq2 := hq.out
   rw [hd, List.find?_cons] at hq2
   obtain ⟨bb, off, rfl, hne, hat⟩ := (H.out.below hb).get hy
   obtain ⟨c0, c1, c2, c3, c4, c5, c6, c7, c8, c9, ca⟩ := at_row hat
   have e8 : tR.n = 11 := rfl
   rw [e8] at c0 c1 c2 c3 c4 c5 c6 c7 c8 c9 ca
   obtain ⟨x0, x1, x2, x3, _⟩ := inv_cells PX
   have z0 := PZ.frozen
   have hpz := PZ.lt
   have hpx := PX.lt
   clear hq hd hy hat e8
   have HQ := Lib.hid hq2
   have HPZ := Lib.hid PZ
   clear hq2 PX PZ
   have no : fit x.op x.sz x.nar x.reg y = false → Hid (r = (l.drop (k + 1)).find? (fit x.op x.sz x.nar x.reg)) := fun e => by show _ = _; rw [HQ.out, e]
   have hfit : fit x.op x.sz x.nar x.reg y = (y.op == x.op && (y.nar == x.nar && (y.reg == x.reg && y.sz == x.sz))) := rfl
   by_cases k1 : y.op = x.op
   ·by_cases k2 : y.nar = x.nar
    ·by_cases k3 : y.reg = x.reg
     ·by_cases k4 : y.sz = x.sz
      ·have e1 : Hid (r = some y) := by show _ = _; rw [HQ.out, hfit]; simp [k1, k2, k3, k4]
       have m1 : (y.op == x.op) = true := by simp [k1]
       have m2 : (y.nar == x.nar) = true := by simp [k2]
       have m3 : (y.reg == x.reg) = true := by simp [k3]
       have m4 : (y.sz == x.sz) = true := by simp [k4]
       clear HQ no hfit k1 k2 k3 k4
       go_upto_region 6 with (fail)
       have HA := Lib.hid (HPZ.out.alloc (.cells (rwa y) 155))
       have hbA := hb.alloc hb.size (.cells (rwa y) 155)
       clear c0 c1 c2 c3 c4 c5 c6 c7 c8 c9 ca x0 x1 x2 x3 z0
       go_wp2_with (refine wpl_store rfl 155 (.tmp 4) (.tmp 44) rfl (w.heap.size + 1) 0 rfl (D := rwa y) rfl HA.out rowRow rfl (by decide) (oneSimp rfl) ?_; intro w9 on9 p9)
       have p9' : Blk w9 (w.heap.size + 1) 155 (rwa y) := p9.eq (spl_all _ _ rfl)
       try simp only [Exit.inBlock, Exit.then]
       refine bodyPost_ret (results_cell_tmp rfl rfl p9' rowRow) rfl ?_
       exact ⟨by rw [e1.out]; exact rfl, hbA.trans (on9.below (by omega))⟩
      ·have m1 : (y.op == x.op) = true := by simp [k1]
       have m2 : (y.nar == x.nar) = true := by simp [k2]
       have m3 : (y.reg == x.reg) = true := by simp [k3]
       have m4 : (y.sz == x.sz) = false := by simp [k4]
       have e1 := no (by rw [hfit]; simp [k1, k2, k3, k4])
       have b9 := hb.alloc hb.size (.cells (rwa y) 155)
       have b9W := hbW.alloc hbW.size (.cells (rwa y) 155)
       clear HQ no hfit k1 k2 k3 k4 HPZ
       go_wp2
       go_roundw
       all_goals first
        | exact ⟨k + 1, by omega, by go_num, e1, b9, b9W⟩
        | ((repeat apply Exists.intro); exact ⟨⟨k + 1, by omega, by go_num, e1, b9, b9W⟩, rfl⟩)
        | (simp [intOf]; omega)
     ·have m1 : (y.op == x.op) = true := by simp [k1]
      have m2 : (y.nar == x.nar) = true := by simp [k2]
      have m3 : (y.reg == x.reg) = false := by simp [k3]
      have e1 := no (by rw [hfit]; simp [k1, k2, k3])
      have b9 := hb.alloc hb.size (.cells (rwa y) 155)
      have b9W := hbW.alloc hbW.size (.cells (rwa y) 155)
      clear HQ no hfit k1 k2 k3 HPZ
      go_wp2
      go_roundw
      all_goals first
       | exact ⟨k + 1, by omega, by go_num, e1, b9, b9W⟩
       | ((repeat apply Exists.intro); exact ⟨⟨k + 1, by omega, by go_num, e1, b9, b9W⟩, rfl⟩)
       | (simp [intOf]; omega)
    ·have m1 : (y.op == x.op) = true := by simp [k1]
     have m2 : (y.nar == x.nar) = false := by simp [k2]
     have e1 := no (by rw [hfit]; simp [k1, k2])
     have b9 := hb.alloc hb.size (.cells (rwa y) 155)
     have b9W := hbW.alloc hbW.size (.cells (rwa y) 155)
     clear HQ no hfit k1 k2 HPZ
     go_wp2
     go_roundw
     all_goals first
      | exact ⟨k + 1, by omega, by go_num, e1, b9, b9W⟩
      | ((repeat apply Exists.intro); exact ⟨⟨k + 1, by omega, by go_num, e1, b9, b9W⟩, rfl⟩)
      | (simp [intOf]; omega)
   ·have m1 : (y.op == x.op) = false := by simp [k1]
    have e1 := no (by rw [hfit]; simp [k1])
    have b9 := hb.alloc hb.size (.cells (rwa y) 155)
    have b9W := hbW.alloc hbW.size (.cells (rwa y) 155)
    clear HQ no hfit k1 HPZ
    go_wp2
    go_roundw
    all_goals first
     | exact ⟨k + 1, by omega, by go_num, e1, b9, b9W⟩
     | ((repeat apply Exists.intro); exact ⟨⟨k + 1, by omega, by go_num, e1, b9, b9W⟩, rfl⟩)
     | (simp [intOf]; omega)
  ·obtain rfl : k = l.length := by omega
   have e1 : Hid (r = none) := by show _ = _; rw [hq.out, List.drop_length]; rfl
   have HPZ := Lib.hid PZ
   clear hlt hq PX PZ
   go_upto_region 7 with (fail)
   go_wp2_with (refine wpl_store rfl 155 (.tmp 4) (.tmp 45) rfl (w.heap.size + 1) 0 rfl (D := rwa zrw) rfl HPZ.out rowRow rfl (by decide) (oneSimp rfl) ?_; intro w9 on9 p9)
   have p9' : Blk w9 (w.heap.size + 1) 155 (rwa zrw) := p9.eq (spl_all _ _ rfl)
   try simp only [Exit.inBlock, Exit.then]
   refine bodyPost_ret (results_cell_tmp rfl rfl p9' rowRow) rfl ?_
   exact ⟨by rw [e1.out]; exact rfl, hb.trans (on9.below (by omega))⟩
end Go.Proofs.Ytndnfjcfpcfakaa
namespace Go.Proofs.Ytndnfjcfpcfakaa
open Go Go.RowKit Go.Wr Go.Fl
set_option maxHeartbeats 4000000
set_option maxRecDepth 100000
def cC (x : In) (y : Rw) : Bool := (y.dst != -1 && x.dst != 0) || (y.src != -1 && x.src != 0) || (y.off != -1 && x.off != 0) || decide (x.off < -32768) || decide (32767 < x.off)
def cD (x : In) (y : Rw) : Bool := y.imm != -1 && y.second != -1 && x.imm != 0
def cE (y : Rw) : Bool := y.imm == -1 || y.second == -1
theorem rightR1_eq (x : In) (y : Rw) : rightR1 x y = if regsR y x.dst x.src x.imm = false then 22 else if cC x y = true then 23 else if cD x y = true then 24 else if (cE y && !goodR y x.imm) = true then 24 else 0 := by
 unfold rightR1 cC cD cE
 congr 1
 have e1 : ((y.dst ≠ -1 ∧ x.dst ≠ 0) ∨ (y.src ≠ -1 ∧ x.src ≠ 0) ∨ (y.off ≠ -1 ∧ x.off ≠ 0) ∨ x.off < -32768 ∨ 32767 < x.off) ↔ ((y.dst != -1 && x.dst != 0) || (y.src != -1 && x.src != 0) || (y.off != -1 && x.off != 0) || decide (x.off < -32768) || decide (32767 < x.off)) = true := by
  simp [or_assoc]
 have e2 : (y.imm ≠ -1 ∧ y.second ≠ -1 ∧ x.imm ≠ 0) ↔ (y.imm != -1 && y.second != -1 && x.imm != 0) = true := by simp [and_assoc]
 have e3 : ((y.imm = -1 ∨ y.second = -1) ∧ goodR y x.imm = false) ↔ ((y.imm == -1 || y.second == -1) && !goodR y x.imm) = true := by simp
 simp only [e1, e2, e3]
theorem right2_ok (w : World) (p : Nat) (v : Value) (x : In) (h : SlX tR p w v rows) : Calls Try.prog 87 #[v, .agg (inv x)] w fun e w' => e = .returned (.int .i64 (rightR x)) ∧ Below w.heap.size w w' := by
 obtain ⟨R, hR⟩ : ∃ R, R = rightR x := ⟨_, rfl⟩
 rw [← hR]
 unfold rightR at hR
 obtain ⟨L, hL⟩ : ∃ L, L = rows := ⟨_, rfl⟩
 rw [← hL] at h hR
 have HR := Lib.hid hR
 obtain ⟨a0, cap, rfl, _, _⟩ := h.form
 have H := Lib.hid h
 clear hR h hL
 have hv : inv x = #[.int .i64 x.op, .bool x.nar, .bool x.reg, .int .i64 x.sz, .int .i64 x.dst, .int .i64 x.src, .int .i64 x.off, .int .i64 x.imm] := rfl
 rw [hv]
 go_enter Try.func87, Try.ntmps87
 go_upto_region 1 with (fail)
 rw [← hv]
 generalize hW : w.alloc (.cells (inv x) 88) = W
 have PW : Blk W w.heap.size 88 (inv x) := by rw [← hW]; exact Blk.new _ _ _
 have bW : Below w.heap.size w W := by rw [← hW]; exact bAl (bRefl w) _
 obtain ⟨c0, c1, c2, c3, c4, c5, c6, c7⟩ := inv_cells PW
 have HP := Lib.hid PW
 have HB := Lib.hid (H.out.below bW)
 clear hW PW hv H
 go_wp2_with fail
 refine (find_ok _ p _ L x HB.out).mono ?_
 rintro e w1 ⟨he, b1⟩
 have P1 := HP.out.below b1 HP.out.lt
 have t1 := bThen bW b1
 obtain ⟨c0, c1, c2, c3, c4, c5, c6, c7⟩ := inv_cells P1
 have hpx := P1.lt
 have HP1 := Lib.hid P1
 clear HP bW b1 P1 HB
 cases hf : L.find? (fit x.op x.sz x.nar x.reg) with
 | none =>
  rw [hf] at he
  have e1 : Hid (R = 21) := by show _ = _; rw [HR.out, hf]
  obtain rfl := (show e = _ from he)
  clear HR hf
  unfold rwa zrw
  go_wp2
  go_ret
  exact ⟨retI e1.out.symm, t1.alloc t1.size _⟩
 | some y =>
  rw [hf] at he
  have e1 : Hid (R = rightR1 x y) := by show _ = _; rw [HR.out, hf]
  obtain rfl := (show e = _ from he)
  rw [rightR1_eq] at e1
  clear HR hf
  have hy : rwa y = #[.int .i64 y.code, .int .i64 y.op, .int .i64 y.sz, .bool y.nar, .bool y.reg, .int .i64 y.dst, .int .i64 y.src, .int .i64 y.off, .int .i64 y.imm, .int .i64 y.second, .bool y.wr] := rfl
  rw [hy]
  go_upto_region 4 with (fail)
  rw [← hy]
  generalize hV : w1.alloc (.cells (rwa y) 155) = V
  have PX : Blk V w.heap.size 88 (inv x) := by rw [← hV]; exact HP1.out.alloc _
  have PY : Blk V w1.heap.size 155 (rwa y) := by rw [← hV]; exact Blk.new _ _ _
  have tV : Below w.heap.size w V := by rw [← hV]; exact t1.alloc t1.size _
  obtain ⟨c0, c1, c2, c3, c4, c5, c6, c7⟩ := inv_cells PX
  have hpx := PX.lt
  have d0 := PY.cell 0
  have d1 := PY.cell 1
  have d2 := PY.cell 2
  have d3 := PY.cell 3
  have d4 := PY.cell 4
  have d5 := PY.cell 5
  have d6 := PY.cell 6
  have d7 := PY.cell 7
  have d8 := PY.cell 8
  have d9 := PY.cell 9
  have da := PY.cell 10
  unfold rwa at d0 d1 d2 d3 d4 d5 d6 d7 d8 d9 da
  simp only [List.getElem?_toArray, List.getElem?_cons_zero, List.getElem?_cons_succ] at d0 d1 d2 d3 d4 d5 d6 d7 d8 d9 da
  have HX := Lib.hid PX
  have HY := Lib.hid PY
  clear hV PX PY t1 HP1 hy he
  go_wp2_with fail
  refine (regs_ok _ y x.dst x.src x.imm).mono ?_
  rintro e w2 ⟨rfl, b2⟩
  have PX := HX.out.below b2 HX.out.lt
  have PY := HY.out.below b2 HY.out.lt
  have t2 := bThen tV b2
  obtain ⟨c0, c1, c2, c3, c4, c5, c6, c7⟩ := inv_cells PX
  have d5 := PY.cell 5
  have d6 := PY.cell 6
  have d7 := PY.cell 7
  have d8 := PY.cell 8
  have d9 := PY.cell 9
  unfold rwa at d5 d6 d7 d8 d9
  simp only [List.getElem?_toArray, List.getElem?_cons_zero, List.getElem?_cons_succ] at d5 d6 d7 d8 d9
  have HY2 := Lib.hid PY
  clear HX HY PX PY tV b2
  cases hq : regsR y x.dst x.src x.imm with
  | false =>
   have f1 : Hid (R = 22) := by show _ = _; rw [e1.out, if_pos hq]
   clear e1 hq
   go_wp2
   go_ret
   exact ⟨retI f1.out.symm, t2⟩
  | true =>
   have e2 := Lib.hid (e1.out.trans (if_neg (by rw [hq]; simp)))
   clear e1 hq
   go_upto_region 6 with (fail)
   obtain ⟨q, hqc⟩ : ∃ q, q = cC x y := ⟨_, rfl⟩
   rw [← hqc] at e2
   unfold cC at hqc
   have HQ := Lib.hid hqc
   clear hqc
   go_cut [61] (fun t wc => t = .bool q ∧ w2 = wc)
   case first =>
    clear e2
    by_cases p0 : y.dst = -1
    ·have f0 : (y.dst != -1) = false := by simp [p0]
     by_cases p1 : y.src = -1
     ·have f1 : (y.src != -1) = false := by simp [p1]
      by_cases p2 : y.off = -1
      ·have f2 : (y.off != -1) = false := by simp [p2]
       by_cases r1 : x.off < -32768
       ·have s1 : decide (x.off < -32768) = true := decide_eq_true r1
        clear p0 p1 p2
        go_wp2
        go_meet
        exact ⟨by rw [HQ.out]; simp [f0, f1, f2, s1], rfl⟩
       ·have s1 : decide (x.off < -32768) = false := decide_eq_false r1
        have r1' : -32768 ≤ x.off := by omega
        clear r1
        clear p0 p1 p2
        go_wp2
        go_meet
        exact ⟨by rw [HQ.out]; simp [f0, f1, f2, s1], rfl⟩
      ·have f2 : (y.off != -1) = true := by simp [p2]
       by_cases q2 : x.off = 0
       ·have g2 : (x.off != 0) = false := by simp [q2]
        by_cases r1 : x.off < -32768
        ·have s1 : decide (x.off < -32768) = true := decide_eq_true r1
         clear p0 p1 p2 q2
         go_wp2
         go_meet
         exact ⟨by rw [HQ.out]; simp [f0, f1, f2, g2, s1], rfl⟩
        ·have s1 : decide (x.off < -32768) = false := decide_eq_false r1
         have r1' : -32768 ≤ x.off := by omega
         clear r1
         clear p0 p1 p2 q2
         go_wp2
         go_meet
         exact ⟨by rw [HQ.out]; simp [f0, f1, f2, g2, s1], rfl⟩
       ·have g2 : (x.off != 0) = true := by simp [q2]
        clear p0 p1 p2 q2
        go_wp2
        go_meet
        exact ⟨by rw [HQ.out]; simp [f0, f1, f2, g2], rfl⟩
     ·have f1 : (y.src != -1) = true := by simp [p1]
      by_cases q1 : x.src = 0
      ·have g1 : (x.src != 0) = false := by simp [q1]
       by_cases p2 : y.off = -1
       ·have f2 : (y.off != -1) = false := by simp [p2]
        by_cases r1 : x.off < -32768
        ·have s1 : decide (x.off < -32768) = true := decide_eq_true r1
         clear p0 p1 q1 p2
         go_wp2
         go_meet
         exact ⟨by rw [HQ.out]; simp [f0, f1, g1, f2, s1], rfl⟩
        ·have s1 : decide (x.off < -32768) = false := decide_eq_false r1
         have r1' : -32768 ≤ x.off := by omega
         clear r1
         clear p0 p1 q1 p2
         go_wp2
         go_meet
         exact ⟨by rw [HQ.out]; simp [f0, f1, g1, f2, s1], rfl⟩
       ·have f2 : (y.off != -1) = true := by simp [p2]
        by_cases q2 : x.off = 0
        ·have g2 : (x.off != 0) = false := by simp [q2]
         by_cases r1 : x.off < -32768
         ·have s1 : decide (x.off < -32768) = true := decide_eq_true r1
          clear p0 p1 q1 p2 q2
          go_wp2
          go_meet
          exact ⟨by rw [HQ.out]; simp [f0, f1, g1, f2, g2, s1], rfl⟩
         ·have s1 : decide (x.off < -32768) = false := decide_eq_false r1
          have r1' : -32768 ≤ x.off := by omega
          clear r1
          clear p0 p1 q1 p2 q2
          go_wp2
          go_meet
          exact ⟨by rw [HQ.out]; simp [f0, f1, g1, f2, g2, s1], rfl⟩
        ·have g2 : (x.off != 0) = true := by simp [q2]
         clear p0 p1 q1 p2 q2
         go_wp2
         go_meet
         exact ⟨by rw [HQ.out]; simp [f0, f1, g1, f2, g2], rfl⟩
      ·have g1 : (x.src != 0) = true := by simp [q1]
       clear p0 p1 q1
       go_wp2
       go_meet
       exact ⟨by rw [HQ.out]; simp [f0, f1, g1], rfl⟩
    ·have f0 : (y.dst != -1) = true := by simp [p0]
     by_cases q0 : x.dst = 0
     ·have g0 : (x.dst != 0) = false := by simp [q0]
      by_cases p1 : y.src = -1
      ·have f1 : (y.src != -1) = false := by simp [p1]
       by_cases p2 : y.off = -1
       ·have f2 : (y.off != -1) = false := by simp [p2]
        by_cases r1 : x.off < -32768
        ·have s1 : decide (x.off < -32768) = true := decide_eq_true r1
         clear p0 q0 p1 p2
         go_wp2
         go_meet
         exact ⟨by rw [HQ.out]; simp [f0, g0, f1, f2, s1], rfl⟩
        ·have s1 : decide (x.off < -32768) = false := decide_eq_false r1
         have r1' : -32768 ≤ x.off := by omega
         clear r1
         clear p0 q0 p1 p2
         go_wp2
         go_meet
         exact ⟨by rw [HQ.out]; simp [f0, g0, f1, f2, s1], rfl⟩
       ·have f2 : (y.off != -1) = true := by simp [p2]
        by_cases q2 : x.off = 0
        ·have g2 : (x.off != 0) = false := by simp [q2]
         by_cases r1 : x.off < -32768
         ·have s1 : decide (x.off < -32768) = true := decide_eq_true r1
          clear p0 q0 p1 p2 q2
          go_wp2
          go_meet
          exact ⟨by rw [HQ.out]; simp [f0, g0, f1, f2, g2, s1], rfl⟩
         ·have s1 : decide (x.off < -32768) = false := decide_eq_false r1
          have r1' : -32768 ≤ x.off := by omega
          clear r1
          clear p0 q0 p1 p2 q2
          go_wp2
          go_meet
          exact ⟨by rw [HQ.out]; simp [f0, g0, f1, f2, g2, s1], rfl⟩
        ·have g2 : (x.off != 0) = true := by simp [q2]
         clear p0 q0 p1 p2 q2
         go_wp2
         go_meet
         exact ⟨by rw [HQ.out]; simp [f0, g0, f1, f2, g2], rfl⟩
      ·have f1 : (y.src != -1) = true := by simp [p1]
       by_cases q1 : x.src = 0
       ·have g1 : (x.src != 0) = false := by simp [q1]
        by_cases p2 : y.off = -1
        ·have f2 : (y.off != -1) = false := by simp [p2]
         by_cases r1 : x.off < -32768
         ·have s1 : decide (x.off < -32768) = true := decide_eq_true r1
          clear p0 q0 p1 q1 p2
          go_wp2
          go_meet
          exact ⟨by rw [HQ.out]; simp [f0, g0, f1, g1, f2, s1], rfl⟩
         ·have s1 : decide (x.off < -32768) = false := decide_eq_false r1
          have r1' : -32768 ≤ x.off := by omega
          clear r1
          clear p0 q0 p1 q1 p2
          go_wp2
          go_meet
          exact ⟨by rw [HQ.out]; simp [f0, g0, f1, g1, f2, s1], rfl⟩
        ·have f2 : (y.off != -1) = true := by simp [p2]
         by_cases q2 : x.off = 0
         ·have g2 : (x.off != 0) = false := by simp [q2]
          by_cases r1 : x.off < -32768
          ·have s1 : decide (x.off < -32768) = true := decide_eq_true r1
           clear p0 q0 p1 q1 p2 q2
           go_wp2
           go_meet
           exact ⟨by rw [HQ.out]; simp [f0, g0, f1, g1, f2, g2, s1], rfl⟩
          ·have s1 : decide (x.off < -32768) = false := decide_eq_false r1
           have r1' : -32768 ≤ x.off := by omega
           clear r1
           clear p0 q0 p1 q1 p2 q2
           go_wp2
           go_meet
           exact ⟨by rw [HQ.out]; simp [f0, g0, f1, g1, f2, g2, s1], rfl⟩
         ·have g2 : (x.off != 0) = true := by simp [q2]
          clear p0 q0 p1 q1 p2 q2
          go_wp2
          go_meet
          exact ⟨by rw [HQ.out]; simp [f0, g0, f1, g1, f2, g2], rfl⟩
       ·have g1 : (x.src != 0) = true := by simp [q1]
        clear p0 q0 p1 q1
        go_wp2
        go_meet
        exact ⟨by rw [HQ.out]; simp [f0, g0, f1, g1], rfl⟩
     ·have g0 : (x.dst != 0) = true := by simp [q0]
      clear p0 q0
      go_wp2
      go_meet
      exact ⟨by rw [HQ.out]; simp [f0, g0], rfl⟩
   case rest =>
    obtain ⟨rfl, rfl⟩ := hcut
    clear HQ
    cases q with
    | true =>
     have f1 : Hid (R = 23) := by show _ = _; rw [e2.out, if_pos rfl]
     clear e2
     go_wp2
     go_ret
     exact ⟨retI f1.out.symm, t2⟩
    | false =>
     have e3 := Lib.hid (e2.out.trans (if_neg (by simp)))
     clear e2
     by_cases p1 : y.imm = -1
     ·have n1 : (y.imm != -1) = false := by simp [p1]
      have n2 : (y.imm == -1) = true := by simp [p1]
      have e4 : Hid (R = if (!goodR y x.imm) = true then 24 else 0) := by show _ = _; rw [e3.out, cD, n1, cE, n2]; simp
      clear e3 p1
      go_upto_region 10 with (fail)
      have da := HY2.out.cell 10
      have d0 := HY2.out.cell 0
      have d1 := HY2.out.cell 1
      have d2 := HY2.out.cell 2
      have d3 := HY2.out.cell 3
      have d4 := HY2.out.cell 4
      unfold rwa at d0 d1 d2 d3 d4 da
      simp only [List.getElem?_toArray, List.getElem?_cons_zero, List.getElem?_cons_succ] at d0 d1 d2 d3 d4 da
      go_wp2_with fail
      refine (good_ok _ y x.imm).mono ?_
      rintro e w4 ⟨rfl, b4⟩
      have t4 := bThen t2 b4
      generalize goodR y x.imm = gq at *
      cases gq with
      | true =>
       have f1 : Hid (R = 0) := by show _ = _; rw [e4.out]; rfl
       clear e4 t2 b4
       go_wp2
       go_ret
       exact ⟨retI f1.out.symm, t4⟩
      | false =>
       have f1 : Hid (R = 24) := by show _ = _; rw [e4.out]; rfl
       clear e4 t2 b4
       go_wp2
       go_ret
       exact ⟨retI f1.out.symm, t4⟩
     ·have n1 : (y.imm != -1) = true := by simp [p1]
      have n2 : (y.imm == -1) = false := by simp [p1]
      by_cases p2 : y.second = -1
      ·have n3 : (y.second != -1) = false := by simp [p2]
       have n4 : (y.second == -1) = true := by simp [p2]
       have e4 : Hid (R = if (!goodR y x.imm) = true then 24 else 0) := by show _ = _; rw [e3.out, cD, n1, n3, cE, n2, n4]; simp
       clear e3 p1 p2
       go_upto_region 10 with (fail)
       have da := HY2.out.cell 10
       have d0 := HY2.out.cell 0
       have d1 := HY2.out.cell 1
       have d2 := HY2.out.cell 2
       have d3 := HY2.out.cell 3
       have d4 := HY2.out.cell 4
       unfold rwa at d0 d1 d2 d3 d4 da
       simp only [List.getElem?_toArray, List.getElem?_cons_zero, List.getElem?_cons_succ] at d0 d1 d2 d3 d4 da
       go_wp2_with fail
       refine (good_ok _ y x.imm).mono ?_
       rintro e w4 ⟨rfl, b4⟩
       have t4 := bThen t2 b4
       generalize goodR y x.imm = gq at *
       cases gq with
       | true =>
        have f1 : Hid (R = 0) := by show _ = _; rw [e4.out]; rfl
        clear e4 t2 b4
        go_wp2
        go_ret
        exact ⟨retI f1.out.symm, t4⟩
       | false =>
        have f1 : Hid (R = 24) := by show _ = _; rw [e4.out]; rfl
        clear e4 t2 b4
        go_wp2
        go_ret
        exact ⟨retI f1.out.symm, t4⟩
      ·have n3 : (y.second != -1) = true := by simp [p2]
       have n4 : (y.second == -1) = false := by simp [p2]
       by_cases p3 : x.imm = 0
       ·have n5 : (x.imm != 0) = false := by simp [p3]
        have f1 : Hid (R = 0) := by show _ = _; rw [e3.out, cD, n1, n3, n5, cE, n2, n4]; simp
        clear e3 p1 p2 p3
        go_wp2
        go_ret
        exact ⟨retI f1.out.symm, t2⟩
       ·have n5 : (x.imm != 0) = true := by simp [p3]
        have f1 : Hid (R = 24) := by show _ = _; rw [e3.out, cD, n1, n3, n5]; simp
        clear e3 p1 p2 p3
        go_wp2
        go_ret
        exact ⟨retI f1.out.symm, t2⟩
end Go.Proofs.Ytndnfjcfpcfakaa
namespace Go.Proofs.Ytndnfjcfpcfakaa
open Go Go.RowKit Go.Wr Go.Fl
set_option maxHeartbeats 4000000
set_option maxRecDepth 100000
def PuR (B : Nat) (w : World) (l : List Rw) (e : Ending) (w' : World) : Prop := Below B w w' ∧ ∃ v, e = .returned v ∧ OwR tR B w' v l
theorem four {i : Int} (h0 : 0 ≤ i) (h4 : i < 4) : i = 0 ∨ i = 1 ∨ i = 2 ∨ i = 3 := by omega
theorem alu_ok (w : World) (B : Nat) (v : Value) (l : List Rw) (h : OwR tR B w v l) (hB : B ≤ w.heap.size) (hl : l.length ≤ 1000) (op digit off : Int) (hd0 : 0 ≤ digit) (hd1 : digit ≤ 15) :
  Calls Try.prog 105 #[v, .int .i64 op, .int .i64 digit, .int .i64 off] w (PuR B w (l ++ aluR op digit off)) := by
 have H := Lib.hid h
 clear h
 obtain ⟨L, hL⟩ : ∃ L, L = l ++ aluR op digit off := ⟨_, rfl⟩
 rw [← hL]
 have HL := Lib.hid hL
 clear hL
 go_enter Try.func105, Try.ntmps105
 go_wp2
 go_loopw [0, 9] (fun t0 t wr => ∃ (v : Value) (i : Int), 0 ≤ i ∧ i ≤ 4 ∧ t0 = v ∧ t = .int .i64 i ∧ Hid (OwR tR B wr v (l ++ (aluR op digit off).take i.toNat)) ∧ Below B w wr) (fun _ t _ => 4 - (intOf t).toNat)
 case atStart => exact ⟨v, 0, by omega, by omega, rfl, rfl, by show OwR _ _ _ _ _; simpa using H.out, Below.refl _ _⟩
 case round =>
  clear H v
  obtain ⟨v, i, h0, h4, rfl, rfl, ho, hb⟩ := hrel
  have hsz := hb.size
  by_cases hlt : i < 4
  ·rcases four h0 hlt with rfl | rfl | rfl | rfl
   ·clear h0 h4 hlt
    go_wp2_with (at_builtin; refine wpl_push tR rfl _ _ rfl B _ (l ++ (aluR op digit off).take 0) rfl ((ho.out.alloc _).alloc _) _ 0 1 1 [⟨16 * digit + 7, op, 0, false, false, -1, 0, off, -1, 0, true⟩] rfl rfl (rangeNew (by simp) (by rfl)) (by simp; unfold maxLen; omega) (by show _ * 80 ≤ _; simp; omega) (by simp; omega) ?_; intro v' w9 hown hgrow _)
    have b9 : Below B w w9 := ((hb.alloc (by omega) _).alloc (by simp; omega) _).grown hgrow (by simp; omega) (fun q hq => (ho.out.blk hq).1)
    have e : (⟨16 * digit + 7, op, 0, false, false, -1, 0, off, -1, 0, true⟩ : Rw) = ⟨16 * digit + 7, op, 0, false, false, -1, 0, off, -1, 0, true⟩ := by first | rfl | (congr 1; omega)
    rw [e, List.append_assoc] at hown
    exact ⟨⟨v', 1, by omega, by omega, rfl, rfl, hown, b9⟩, by decide⟩
   ·clear h0 h4 hlt
    go_wp2_with (at_builtin; refine wpl_push tR rfl _ _ rfl B _ (l ++ (aluR op digit off).take 1) rfl ((ho.out.alloc _).alloc _) _ 0 1 1 [⟨16 * digit + 7 + 8, op, 0, false, true, -1, -1, off, 0, 0, true⟩] rfl rfl (rangeNew (by simp) (by rfl)) (by simp; unfold maxLen; omega) (by show _ * 80 ≤ _; simp; omega) (by simp; omega) ?_; intro v' w9 hown hgrow _)
    have b9 : Below B w w9 := ((hb.alloc (by omega) _).alloc (by simp; omega) _).grown hgrow (by simp; omega) (fun q hq => (ho.out.blk hq).1)
    have e : (⟨16 * digit + 7 + 8, op, 0, false, true, -1, -1, off, 0, 0, true⟩ : Rw) = ⟨16 * digit + 15, op, 0, false, true, -1, -1, off, 0, 0, true⟩ := by first | rfl | (congr 1; omega)
    rw [e, List.append_assoc] at hown
    exact ⟨⟨v', 2, by omega, by omega, rfl, rfl, hown, b9⟩, by decide⟩
   ·clear h0 h4 hlt
    go_wp2_with (at_builtin; refine wpl_push tR rfl _ _ rfl B _ (l ++ (aluR op digit off).take 2) rfl ((ho.out.alloc _).alloc _) _ 0 1 1 [⟨16 * digit + 7 - 3, op, 0, true, false, -1, 0, off, -1, 0, true⟩] rfl rfl (rangeNew (by simp) (by rfl)) (by simp; unfold maxLen; omega) (by show _ * 80 ≤ _; simp; omega) (by simp; omega) ?_; intro v' w9 hown hgrow _)
    have b9 : Below B w w9 := ((hb.alloc (by omega) _).alloc (by simp; omega) _).grown hgrow (by simp; omega) (fun q hq => (ho.out.blk hq).1)
    have e : (⟨16 * digit + 7 - 3, op, 0, true, false, -1, 0, off, -1, 0, true⟩ : Rw) = ⟨16 * digit + 4, op, 0, true, false, -1, 0, off, -1, 0, true⟩ := by first | rfl | (congr 1; omega)
    rw [e, List.append_assoc] at hown
    exact ⟨⟨v', 3, by omega, by omega, rfl, rfl, hown, b9⟩, by decide⟩
   ·clear h0 h4 hlt
    go_wp2_with (at_builtin; refine wpl_push tR rfl _ _ rfl B _ (l ++ (aluR op digit off).take 3) rfl ((ho.out.alloc _).alloc _) _ 0 1 1 [⟨16 * digit + 7 + 8 - 3, op, 0, true, true, -1, -1, off, 0, 0, true⟩] rfl rfl (rangeNew (by simp) (by rfl)) (by simp; unfold maxLen; omega) (by show _ * 80 ≤ _; simp; omega) (by simp; omega) ?_; intro v' w9 hown hgrow _)
    have b9 : Below B w w9 := ((hb.alloc (by omega) _).alloc (by simp; omega) _).grown hgrow (by simp; omega) (fun q hq => (ho.out.blk hq).1)
    have e : (⟨16 * digit + 7 + 8 - 3, op, 0, true, true, -1, -1, off, 0, 0, true⟩ : Rw) = ⟨16 * digit + 12, op, 0, true, true, -1, -1, off, 0, 0, true⟩ := by first | rfl | (congr 1; omega)
    rw [e, List.append_assoc] at hown
    exact ⟨⟨v', 4, by omega, by omega, rfl, rfl, hown, b9⟩, by decide⟩
  ·obtain rfl : i = 4 := by omega
   clear h0 h4 hlt
   go_wp2
   go_ret
   exact ⟨hb, _, rfl, by rw [HL.out]; exact ho.out⟩
theorem jmp_ok (w : World) (B : Nat) (v : Value) (l : List Rw) (h : OwR tR B w v l) (hB : B ≤ w.heap.size) (hl : l.length ≤ 1000) (op digit : Int) (hd0 : 0 ≤ digit) (hd1 : digit ≤ 15) :
  Calls Try.prog 106 #[v, .int .i64 op, .int .i64 digit] w (PuR B w (l ++ jmpR op digit)) := by
 have H := Lib.hid h
 clear h
 obtain ⟨L, hL⟩ : ∃ L, L = l ++ jmpR op digit := ⟨_, rfl⟩
 rw [← hL]
 have HL := Lib.hid hL
 clear hL
 go_enter Try.func106, Try.ntmps106
 go_wp2
 go_loopw [0, 7] (fun t0 t wr => ∃ (v : Value) (i : Int), 0 ≤ i ∧ i ≤ 4 ∧ t0 = v ∧ t = .int .i64 i ∧ Hid (OwR tR B wr v (l ++ (jmpR op digit).take i.toNat)) ∧ Below B w wr) (fun _ t _ => 4 - (intOf t).toNat)
 case atStart => exact ⟨v, 0, by omega, by omega, rfl, rfl, by show OwR _ _ _ _ _; simpa using H.out, Below.refl _ _⟩
 case round =>
  clear H v
  obtain ⟨v, i, h0, h4, rfl, rfl, ho, hb⟩ := hrel
  have hsz := hb.size
  by_cases hlt : i < 4
  ·rcases four h0 hlt with rfl | rfl | rfl | rfl
   ·clear h0 h4 hlt
    go_wp2_with (at_builtin; refine wpl_push tR rfl _ _ rfl B _ (l ++ (jmpR op digit).take 0) rfl ((ho.out.alloc _).alloc _) _ 0 1 1 [⟨16 * digit + 5, op, 0, false, false, -1, 0, -1, -1, 0, false⟩] rfl rfl (rangeNew (by simp) (by rfl)) (by simp; unfold maxLen; omega) (by show _ * 80 ≤ _; simp; omega) (by simp; omega) ?_; intro v' w9 hown hgrow _)
    have b9 : Below B w w9 := ((hb.alloc (by omega) _).alloc (by simp; omega) _).grown hgrow (by simp; omega) (fun q hq => (ho.out.blk hq).1)
    have e : (⟨16 * digit + 5, op, 0, false, false, -1, 0, -1, -1, 0, false⟩ : Rw) = ⟨16 * digit + 5, op, 0, false, false, -1, 0, -1, -1, 0, false⟩ := by first | rfl | (congr 1; omega)
    rw [e, List.append_assoc] at hown
    exact ⟨⟨v', 1, by omega, by omega, rfl, rfl, hown, b9⟩, by decide⟩
   ·clear h0 h4 hlt
    go_wp2_with (at_builtin; refine wpl_push tR rfl _ _ rfl B _ (l ++ (jmpR op digit).take 1) rfl ((ho.out.alloc _).alloc _) _ 0 1 1 [⟨16 * digit + 5 + 8, op, 0, false, true, -1, -1, -1, 0, 0, false⟩] rfl rfl (rangeNew (by simp) (by rfl)) (by simp; unfold maxLen; omega) (by show _ * 80 ≤ _; simp; omega) (by simp; omega) ?_; intro v' w9 hown hgrow _)
    have b9 : Below B w w9 := ((hb.alloc (by omega) _).alloc (by simp; omega) _).grown hgrow (by simp; omega) (fun q hq => (ho.out.blk hq).1)
    have e : (⟨16 * digit + 5 + 8, op, 0, false, true, -1, -1, -1, 0, 0, false⟩ : Rw) = ⟨16 * digit + 13, op, 0, false, true, -1, -1, -1, 0, 0, false⟩ := by first | rfl | (congr 1; omega)
    rw [e, List.append_assoc] at hown
    exact ⟨⟨v', 2, by omega, by omega, rfl, rfl, hown, b9⟩, by decide⟩
   ·clear h0 h4 hlt
    go_wp2_with (at_builtin; refine wpl_push tR rfl _ _ rfl B _ (l ++ (jmpR op digit).take 2) rfl ((ho.out.alloc _).alloc _) _ 0 1 1 [⟨16 * digit + 5 + 1, op, 0, true, false, -1, 0, -1, -1, 0, false⟩] rfl rfl (rangeNew (by simp) (by rfl)) (by simp; unfold maxLen; omega) (by show _ * 80 ≤ _; simp; omega) (by simp; omega) ?_; intro v' w9 hown hgrow _)
    have b9 : Below B w w9 := ((hb.alloc (by omega) _).alloc (by simp; omega) _).grown hgrow (by simp; omega) (fun q hq => (ho.out.blk hq).1)
    have e : (⟨16 * digit + 5 + 1, op, 0, true, false, -1, 0, -1, -1, 0, false⟩ : Rw) = ⟨16 * digit + 6, op, 0, true, false, -1, 0, -1, -1, 0, false⟩ := by first | rfl | (congr 1; omega)
    rw [e, List.append_assoc] at hown
    exact ⟨⟨v', 3, by omega, by omega, rfl, rfl, hown, b9⟩, by decide⟩
   ·clear h0 h4 hlt
    go_wp2_with (at_builtin; refine wpl_push tR rfl _ _ rfl B _ (l ++ (jmpR op digit).take 3) rfl ((ho.out.alloc _).alloc _) _ 0 1 1 [⟨16 * digit + 5 + 8 + 1, op, 0, true, true, -1, -1, -1, 0, 0, false⟩] rfl rfl (rangeNew (by simp) (by rfl)) (by simp; unfold maxLen; omega) (by show _ * 80 ≤ _; simp; omega) (by simp; omega) ?_; intro v' w9 hown hgrow _)
    have b9 : Below B w w9 := ((hb.alloc (by omega) _).alloc (by simp; omega) _).grown hgrow (by simp; omega) (fun q hq => (ho.out.blk hq).1)
    have e : (⟨16 * digit + 5 + 8 + 1, op, 0, true, true, -1, -1, -1, 0, 0, false⟩ : Rw) = ⟨16 * digit + 14, op, 0, true, true, -1, -1, -1, 0, 0, false⟩ := by first | rfl | (congr 1; omega)
    rw [e, List.append_assoc] at hown
    exact ⟨⟨v', 4, by omega, by omega, rfl, rfl, hown, b9⟩, by decide⟩
  ·obtain rfl : i = 4 := by omega
   clear h0 h4 hlt
   go_wp2
   go_ret
   exact ⟨hb, _, rfl, by rw [HL.out]; exact ho.out⟩
end Go.Proofs.Ytndnfjcfpcfakaa
