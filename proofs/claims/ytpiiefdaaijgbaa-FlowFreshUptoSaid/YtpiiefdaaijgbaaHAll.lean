
/- Copies of rows, questions to the flow, same, and the law's known flow. -/
import Derived.Test.YtpiiefdaaijgbaaFStr
import Derived.Lib.SliceRun
import Derived.Test.YtpiiefdaaijgbaaFJmp
import Derived.Test.YtpiiefdaaijgbaaFMake
import Derived.Test.YtpiiefdaaijgbaaFDoms
/- Copies of rows of numbers: the law's CopyInts, and the slices' Clone. -/
namespace Go.Proofs.Ytpiiefdaaijgbaa
open Go Go.RowKit Go.Wr Go.Fl
set_option maxHeartbeats 4000000
set_option maxRecDepth 100000

theorem slx_ints {p : Nat} {w : World} {b o n cap : Nat} {l : List Int} (h : SlX tI p w (.slice (some ⟨b, o, none⟩) n cap) l) : w.rangeAt b o (tI.cs l) := by
  intro j v hj
  have e : tI.cs l = l.map (fun x => Value.int .i64 x) := by
    clear hj h
    induction l with
    | nil => rfl
    | cons x l ih => show tI.f x ++ tI.cs l = _; rw [ih]; rfl
  rw [e, List.getElem?_map] at hj
  match hx : l[j]?, hj with
  | some x, hj =>
    obtain ⟨b', o', e1, _, _, c⟩ := SlX.int h hx
    injection e1 with e1
    injection e1 with e1 e2
    subst e1; subst e2
    injection hj with hj
    subst hj
    exact c

theorem copyInts_ok (w : World) (p : Nat) (v : Value) (l : List Int) (h : SlX tI p w v l) (hl : l.length ≤ 1099511627776) :
    Calls Try.prog 22 #[v] w fun e w' => Below w.heap.size w w' ∧ ∃ v', e = .returned v' ∧ OwR tI w.heap.size w' v' l := by
  obtain ⟨a0, cap, rfl, h1, h2⟩ := h.form
  unfold maxLen at h2
  by_cases hb : l = []
  · subst hb
    cases a0 with
    | none =>
      clear h
      go_enter Try.func22, Try.ntmps22
      go_wp2
      go_ret
      exact ⟨bRefl w, .slice none 0 0, rfl, World.ownsRow_nil _ _ _ _⟩
    | some ad =>
      clear h
      go_enter Try.func22, Try.ntmps22
      go_wp2
      go_ret
      exact ⟨bRefl w, .slice none 0 0, rfl, World.ownsRow_nil _ _ _ _⟩
  · have hpos : 0 < l.length := List.length_pos_iff.2 hb
    obtain ⟨b, o, rfl, _⟩ := h.get (List.getElem?_eq_getElem hpos)
    have HN := Lib.hid (slx_ints h)
    clear h
    go_enter Try.func22, Try.ntmps22
    go_wp2_with (at_builtin; refine wpl_push tI rfl _ _ rfl w.heap.size (.slice none 0 0) [] rfl (World.ownsRow_nil _ _ _ _) b o l.length cap l rfl rfl HN.out (by unfold maxLen; simp; omega) (by show _ * 8 ≤ _; simp; omega) (by omega) ?_; intro v' w9 hown hgrow hform)
    have hb9 := (bRefl w).grown hgrow (Nat.le_refl _) (fun k hk => by cases hk)
    obtain ⟨g, c', rfl, _⟩ := hform hb
    have HW := Lib.hid hown
    clear hown hgrow hform
    go_wp2
    go_ret
    exact ⟨hb9, _, rfl, HW.out⟩

theorem own_empty (w : World) : OwR tI w.heap.size (w.alloc (.cells #[] 3)) (.slice (some ⟨w.heap.size, 0, none⟩) 0 0) [] :=
  ⟨rfl, Or.inr ⟨w.heap.size, 0, #[], rfl, Nat.le_refl _, Array.getElem?_push_size, Nat.le_refl _, by unfold maxLen; omega, rfl, rfl⟩⟩
theorem cloneI_ok (w : World) (p : Nat) (v : Value) (l : List Int) (h : SlX tI p w v l) (hl : l.length ≤ 1099511627776) :
    Calls Try.prog 50 #[v] w fun e w' => Below w.heap.size w w' ∧ ∃ v', e = .returned v' ∧ OwR tI w.heap.size w' v' l := by
  obtain ⟨a0, cap, rfl, h1, h2⟩ := h.form
  unfold maxLen at h2
  by_cases hb : l = []
  · subst hb
    cases a0 with
    | none =>
      clear h
      go_enter Try.func50, Try.ntmps50
      go_wp2
      rw [Go.Lib.run_eql_slice_nil _ _ _ _ _ _ _ _ Try.underlying36]
      go_wp2
      go_ret
      exact ⟨bRefl w, .slice none 0 0, rfl, World.ownsRow_nil _ _ _ _⟩
    | some ad =>
      clear h
      go_enter Try.func50, Try.ntmps50
      go_wp2
      rw [Go.Lib.run_eql_slice_nil _ _ _ _ _ _ _ _ Try.underlying36]
      go_wp2
      go_ret
      exact ⟨bAl (bRefl w) _, _, rfl, own_empty w⟩
  · have hpos : 0 < l.length := List.length_pos_iff.2 hb
    obtain ⟨b, o, rfl, _, hat⟩ := h.get (List.getElem?_eq_getElem hpos)
    have hlt : b < w.heap.size := hat.1
    have HN := Lib.hid (fun j v hj => (World.cell?_of_block ((bAl (bRefl w) (.cells #[] 3)).block b hlt)).trans (slx_ints h j v hj) : (w.alloc (.cells #[] 3)).rangeAt b o (tI.cs l))
    have HE := Lib.hid (own_empty w)
    clear h hat
    go_enter Try.func50, Try.ntmps50
    go_wp2
    rw [Go.Lib.run_eql_slice_nil _ _ _ _ _ _ _ _ Try.underlying36]
    go_wp2_with (at_builtin; refine wpl_push tI rfl _ _ rfl w.heap.size _ [] rfl HE.out b o l.length cap l rfl rfl HN.out (by unfold maxLen; simp; omega) (by show _ * 8 ≤ _; simp; omega) (by simp) ?_; intro v' w9 hown hgrow hform)
    have hb9 := (bAl (bRefl w) (.cells #[] 3)).grown hgrow (by simp) (fun k hk => by injection hk with hk; simp at hk; omega)
    obtain ⟨g, c', rfl, _⟩ := hform hb
    have HW := Lib.hid hown
    clear hown hgrow hform
    go_wp2
    go_ret
    exact ⟨hb9, _, rfl, HW.out⟩

/-- Order: a copy of the flow's order. -/
theorem order_ok (w : World) (q p : Nat) (v : Value) (l : List Int) (hc : w.cell? ⟨q, 3, none⟩ = some v) (h : SlX tI p w v l) (hl : l.length ≤ 1099511627776) :
    Calls Try.prog 37 #[.pointer (some ⟨q, 0, none⟩)] w fun e w' => Below w.heap.size w w' ∧ ∃ v', e = .returned v' ∧ OwR tI w.heap.size w' v' l := by
  obtain ⟨a0, cap, rfl, h1, h2⟩ := h.form
  have H := Lib.hid h
  clear h
  go_enter Try.func37, Try.ntmps37
  go_wp2_with (go_at_call 50; refine (cloneI_ok w p _ l H.out hl).mono ?_; rintro e w9 ⟨hb, v', rfl, ho⟩)
  have HO := Lib.hid ho
  clear ho
  go_wp2
  go_ret
  exact ⟨hb, v', rfl, HO.out⟩
end Go.Proofs.Ytpiiefdaaijgbaa

/- Copies of rows of blocks and of loops. -/
namespace Go.Proofs.Ytpiiefdaaijgbaa
open Go Go.RowKit Go.Wr Go.Fl
set_option maxHeartbeats 4000000
set_option maxRecDepth 100000

theorem slx_range {α : Type} (R : RT Try.prog α) {p : Nat} {w : World} {b o n cap : Nat} {l : List α} (h : SlX R p w (.slice (some ⟨b, o, none⟩) n cap) l) : w.rangeAt b o (R.cs l) := by
  intro j v hj
  have hn := R.npos
  have hjl : j < (R.cs l).length := by
    rcases Nat.lt_or_ge j (R.cs l).length with h1 | h1
    · exact h1
    · rw [List.getElem?_eq_none h1] at hj; cases hj
  rw [R.cs_len] at hjl
  have hk : j / R.n < l.length := Nat.div_lt_of_lt_mul (by rw [Nat.mul_comm]; exact hjl)
  have hr : j % R.n < R.n := Nat.mod_lt _ hn
  have hx : l[j / R.n]? = some l[j / R.n] := List.getElem?_eq_getElem hk
  have e : j / R.n * R.n + j % R.n = j := by rw [Nat.mul_comm]; exact Nat.div_add_mod j R.n
  obtain ⟨b', o', e1, _, c⟩ := h.get hx
  injection e1 with e1
  injection e1 with e1 e2
  subst e1; subst e2
  have g := R.cs_get l (j / R.n) (j % R.n) _ hx hr
  rw [e, hj] at g
  have := c.cell (j % R.n) v g.symm
  rw [Nat.add_assoc, e] at this
  exact this
theorem own_emptyR {α : Type} (R : RT Try.prog α) (w : World) : OwR R w.heap.size (w.alloc (.cells #[] R.T)) (.slice (some ⟨w.heap.size, 0, none⟩) 0 0) [] :=
  ⟨(Nat.zero_mul _).symm, Or.inr ⟨w.heap.size, 0, #[], rfl, Nat.le_refl _, Array.getElem?_push_size, Nat.le_refl _, by unfold maxLen; omega, (Nat.zero_mul _).symm, by simp [RT.cs]⟩⟩
theorem cloneB_ok (w : World) (p : Nat) (v : Value) (l : List Bk) (h : SlX tK p w v l) (hl : l.length ≤ 1099511627776) :
    Calls Try.prog 49 #[v] w fun e w' => Below w.heap.size w w' ∧ ∃ v', e = .returned v' ∧ OwR tK w.heap.size w' v' l := by
  obtain ⟨a0, cap, rfl, h1, h2⟩ := h.form
  unfold maxLen at h2
  by_cases hb : l = []
  · subst hb
    cases a0 with
    | none =>
      clear h
      go_enter Try.func49, Try.ntmps49
      go_wp2
      rw [Go.Lib.run_eql_slice_nil _ _ _ _ _ _ _ _ Try.underlying47]
      go_wp2
      go_ret
      exact ⟨bRefl w, .slice none 0 0, rfl, World.ownsRow_nil _ _ _ _⟩
    | some ad =>
      clear h
      go_enter Try.func49, Try.ntmps49
      go_wp2
      rw [Go.Lib.run_eql_slice_nil _ _ _ _ _ _ _ _ Try.underlying47]
      go_wp2
      go_ret
      exact ⟨bAl (bRefl w) _, _, rfl, own_emptyR tK w⟩
  · have hpos : 0 < l.length := List.length_pos_iff.2 hb
    obtain ⟨b, o, rfl, _, hat⟩ := h.get (List.getElem?_eq_getElem hpos)
    have hlt : b < w.heap.size := hat.1
    have HN := Lib.hid (fun j v hj => (World.cell?_of_block ((bAl (bRefl w) (.cells #[] 54)).block b hlt)).trans (slx_range tK h j v hj) : (w.alloc (.cells #[] 54)).rangeAt b o (tK.cs l))
    have HE := Lib.hid (own_emptyR tK w)
    clear h hat
    go_enter Try.func49, Try.ntmps49
    go_wp2
    rw [Go.Lib.run_eql_slice_nil _ _ _ _ _ _ _ _ Try.underlying47]
    go_wp2_with (at_builtin; refine wpl_push tK rfl _ _ rfl w.heap.size _ [] rfl HE.out b o l.length cap l rfl rfl HN.out (by unfold maxLen; simp; omega) (by show _ * 40 ≤ _; simp; omega) (by simp) ?_; intro v' w9 hown hgrow hform)
    have hb9 := (bAl (bRefl w) (.cells #[] 54)).grown hgrow (by simp) (fun k hk => by injection hk with hk; simp at hk; omega)
    obtain ⟨g, c', rfl, _⟩ := hform hb
    have HW := Lib.hid hown
    clear hown hgrow hform
    go_wp2
    go_ret
    exact ⟨hb9, _, rfl, HW.out⟩

theorem cloneA_ok (w : World) (p : Nat) (v : Value) (l : List Ar) (h : SlX tA p w v l) (hl : l.length ≤ 1099511627776) :
    Calls Try.prog 51 #[v] w fun e w' => Below w.heap.size w w' ∧ ∃ v', e = .returned v' ∧ OwR tA w.heap.size w' v' l := by
  obtain ⟨a0, cap, rfl, h1, h2⟩ := h.form
  unfold maxLen at h2
  by_cases hb : l = []
  · subst hb
    cases a0 with
    | none =>
      clear h
      go_enter Try.func51, Try.ntmps51
      go_wp2
      rw [Go.Lib.run_eql_slice_nil _ _ _ _ _ _ _ _ Try.underlying49]
      go_wp2
      go_ret
      exact ⟨bRefl w, .slice none 0 0, rfl, World.ownsRow_nil _ _ _ _⟩
    | some ad =>
      clear h
      go_enter Try.func51, Try.ntmps51
      go_wp2
      rw [Go.Lib.run_eql_slice_nil _ _ _ _ _ _ _ _ Try.underlying49]
      go_wp2
      go_ret
      exact ⟨bAl (bRefl w) _, _, rfl, own_emptyR tA w⟩
  · have hpos : 0 < l.length := List.length_pos_iff.2 hb
    obtain ⟨b, o, rfl, _, hat⟩ := h.get (List.getElem?_eq_getElem hpos)
    have hlt : b < w.heap.size := hat.1
    have HN := Lib.hid (fun j v hj => (World.cell?_of_block ((bAl (bRefl w) (.cells #[] 52)).block b hlt)).trans (slx_range tA h j v hj) : (w.alloc (.cells #[] 52)).rangeAt b o (tA.cs l))
    have HE := Lib.hid (own_emptyR tA w)
    clear h hat
    go_enter Try.func51, Try.ntmps51
    go_wp2
    rw [Go.Lib.run_eql_slice_nil _ _ _ _ _ _ _ _ Try.underlying49]
    go_wp2_with (at_builtin; refine wpl_push tA rfl _ _ rfl w.heap.size _ [] rfl HE.out b o l.length cap l rfl rfl HN.out (by unfold maxLen; simp; omega) (by show _ * 40 ≤ _; simp; omega) (by simp) ?_; intro v' w9 hown hgrow hform)
    have hb9 := (bAl (bRefl w) (.cells #[] 52)).grown hgrow (by simp) (fun k hk => by injection hk with hk; simp at hk; omega)
    obtain ⟨g, c', rfl, _⟩ := hform hb
    have HW := Lib.hid hown
    clear hown hgrow hform
    go_wp2
    go_ret
    exact ⟨hb9, _, rfl, HW.out⟩

end Go.Proofs.Ytpiiefdaaijgbaa

/- The reference's back: does an edge lead to a block that dominates? -/
namespace Go.Proofs.Ytpiiefdaaijgbaa
open Go Go.RowKit Go.Wr Go.Fl
set_option maxHeartbeats 4000000
set_option maxRecDepth 100000

theorem back_ok (w : World) (q p : Nat) (vo : Value) (rows : List Sv) (hc : w.cell? ⟨q, 1, none⟩ = some vo) (h : SlX tBB p w vo rows) (u v : Nat) (s : Sv) (hs : rows[v]? = some s) (l : List Bool) (hl : SlX tB p w s.v l) (x : Bool) (hx : l[u]? = some x) :
    Calls Try.prog 110 #[.pointer (some ⟨q, 0, none⟩), .int .i64 u, .int .i64 v] w fun e w' => Below w.heap.size w w' ∧ e = .returned (.bool x) := by
  obtain ⟨a0, cap, rfl, h1, h2⟩ := h.form
  have hv : v < rows.length := by
    rcases Nat.lt_or_ge v rows.length with k | k
    · exact k
    · rw [List.getElem?_eq_none k] at hs; cases hs
  obtain ⟨b, o, rfl, _, hat⟩ := h.get hs
  have c0 := hat.cell 0 _ rfl
  have e0 : o + v * tBB.n + 0 = o + v := by show o + v * 1 + 0 = _; omega
  rw [e0] at c0
  obtain ⟨a1, cap1, e1, h3, h4⟩ := hl.form
  rw [e1] at c0 hl
  have hu : u < l.length := by
    rcases Nat.lt_or_ge u l.length with k | k
    · exact k
    · rw [List.getElem?_eq_none k] at hx; cases hx
  obtain ⟨b1, o1, rfl, _, _, c1⟩ := SlX.bool hl hx
  have hvi : (v : Int) < (rows.length : Int) := by omega
  have hui : (u : Int) < (l.length : Int) := by omega
  unfold maxLen at h2 h4
  clear h hl hat hs hx e0 e1
  go_enter Try.func110, Try.ntmps110
  go_wp2
  go_ret
  exact ⟨bRefl w, rfl⟩
end Go.Proofs.Ytpiiefdaaijgbaa

/- The reference's Dominates. -/
namespace Go.Proofs.Ytpiiefdaaijgbaa
open Go Go.RowKit Go.Wr Go.Fl
set_option maxHeartbeats 4000000
set_option maxRecDepth 100000

end Go.Proofs.Ytpiiefdaaijgbaa

/- The law's small code. -/
namespace Go.Proofs.Ytpiiefdaaijgbaa
open Go Go.RowKit Go.Wr Go.Fl
set_option maxHeartbeats 4000000
set_option maxRecDepth 100000

def smallL : List In := [⟨15, false, false, 0, 1, 0, 0, 5⟩, ⟨2, false, false, 0, 1, 0, 0, 1⟩, ⟨28, false, false, 0, 1, 0, -2, 0⟩, ⟨15, false, false, 0, 0, 0, 0, 0⟩, ⟨39, false, false, 0, 0, 0, 0, 0⟩]
theorem small_ok (w : World) : Calls Try.prog 61 #[] w fun e w' => Below w.heap.size w w' ∧ ∃ v', e = .returned v' ∧ OwR tN w.heap.size w' v' smallL := by
  go_enter Try.func61, Try.ntmps61
  go_wp2
  go_ret
  exact ⟨bAl (bRefl w) _, _, rfl, rfl, Or.inr ⟨w.heap.size, 5, _, rfl, Nat.le_refl _, Array.getElem?_push_size, Nat.le_refl _, by unfold maxLen; omega, rfl, rfl⟩⟩
end Go.Proofs.Ytpiiefdaaijgbaa

/- The questions that both flows answer at once: the block of an instruction. -/
namespace Go.Proofs.Ytpiiefdaaijgbaa
open Go Go.RowKit Go.Wr Go.Fl
set_option maxHeartbeats 4000000
set_option maxRecDepth 100000

/-- The block of an instruction. -/
def blkOf (l : List Nat) (i : Int) : Int := if i < 0 ∨ (l.length : Int) ≤ i then -1 else (l.getD i.toNat 0 : Nat)
theorem block_ok (w : World) (p q : Nat) (vo : Value) (l : List Nat) (hf : w.cell? ⟨p, 2, none⟩ = some vo) (h : SlX tI q w vo (nI l)) (i : Int) :
    Calls Try.prog 62 #[.pointer (some ⟨p, 0, none⟩), .int .i64 i] w fun e w' => e = .returned (.int .i64 (blkOf l i)) ∧ w' = w := by
  obtain ⟨r, hr⟩ : ∃ r, r = blkOf l i := ⟨_, rfl⟩
  rw [← hr]
  unfold blkOf at hr
  have HR := Lib.hid hr
  obtain ⟨a0, cap, rfl, h1, h2⟩ := h.form
  have H := Lib.hid h
  rw [nI_len] at hf h1 H
  unfold maxLen at h2
  clear hr h
  by_cases k1 : i < 0
  · have e1 : Hid (r = -1) := by show _ = _; rw [HR.out, if_pos (Or.inl k1)]
    go_enter Try.func62, Try.ntmps62
    go_wp2
    go_ret
    exact ⟨retI e1.out.symm, rfl⟩
  · have k1' : 0 ≤ i := by omega
    by_cases k2 : (l.length : Int) ≤ i
    · have e1 : Hid (r = -1) := by show _ = _; rw [HR.out, if_pos (Or.inr k2)]
      clear k1
      go_enter Try.func62, Try.ntmps62
      go_wp2
      go_ret
      exact ⟨retI e1.out.symm, rfl⟩
    · obtain ⟨k, rfl⟩ := Int.eq_ofNat_of_zero_le k1'
      have hk : k < l.length := by omega
      have hk' : (k : Int) < (l.length : Int) := by omega
      obtain ⟨x, hx⟩ : ∃ x, l[k]? = some x := ⟨_, List.getElem?_eq_getElem hk⟩
      have e1 : Hid (r = (x : Int)) := by
        show _ = _
        rw [HR.out, if_neg (by omega), Int.toNat_natCast, List.getD_eq_getElem?_getD, hx]
        rfl
      obtain ⟨b, o, rfl, _, _, hc⟩ := SlX.int H.out (show (nI l)[k]? = some (x : Int) by unfold nI; rw [List.getElem?_map, hx]; rfl)
      clear k1 k2 hx HR
      go_enter Try.func62, Try.ntmps62
      go_wp2
      go_ret
      exact ⟨retI e1.out.symm, rfl⟩
end Go.Proofs.Ytpiiefdaaijgbaa

/- The laws' sameBlocks and sameLoops, of rows that hold the same; the program's Blocks and Loops. -/
namespace Go.Proofs.Ytpiiefdaaijgbaa
open Go Go.RowKit Go.Wr Go.Fl
set_option maxHeartbeats 4000000
set_option maxRecDepth 100000

/-- Blocks to be read: first, behind the last, edges. -/
structure Bd (p : Nat) (w : World) (v : Value) (D : List (Int × Int × List Int)) : Prop where
  sl : ∃ bs : List Bk, SlX tK p w v bs ∧ bs.length = D.length ∧ ∀ (i : Nat) (k : Bk) (d : Int × Int × List Int), bs[i]? = some k → D[i]? = some d → k.fr = d.1 ∧ k.2 = d.2.1 ∧ SlX tI p w k.nx.v d.2.2
theorem Bd.below {p : Nat} {w w' : World} {v : Value} {D : List (Int × Int × List Int)} (h : Bd p w v D) (b : Below w.heap.size w w') : Bd p w' v D := by
  obtain ⟨bs, h1, h2, h3⟩ := h.sl
  exact ⟨bs, h1.below b, h2, fun i k d hk hd => ⟨(h3 i k d hk hd).1, (h3 i k d hk hd).2.1, (h3 i k d hk hd).2.2.below b⟩⟩
theorem Bd.form {p : Nat} {w : World} {v : Value} {D : List (Int × Int × List Int)} (h : Bd p w v D) : ∃ a0 cap, v = .slice a0 D.length cap ∧ D.length ≤ cap ∧ cap ≤ maxLen := by
  obtain ⟨bs, h1, h2, _⟩ := h.sl
  obtain ⟨a0, cap, e, h3, h4⟩ := h1.form
  rw [h2] at e h3
  exact ⟨a0, cap, e, h3, h4⟩
theorem Bd.get {p : Nat} {w : World} {a0 : Option Addr} {n cap : Nat} {D : List (Int × Int × List Int)} (h : Bd p w (.slice a0 n cap) D) {i : Nat} {d : Int × Int × List Int} (hd : D[i]? = some d) :
    ∃ b o a c, a0 = some ⟨b, o, none⟩ ∧ w.cell? ⟨b, o + i * 3, none⟩ = some (.int .i64 d.1) ∧ w.cell? ⟨b, o + i * 3 + 1, none⟩ = some (.int .i64 d.2.1) ∧ w.cell? ⟨b, o + i * 3 + 2, none⟩ = some (.slice a d.2.2.length c) ∧ SlX tI p w (.slice a d.2.2.length c) d.2.2 ∧ b < w.heap.size := by
  obtain ⟨bs, h1, h2, h3⟩ := h.sl
  have hi : i < bs.length := by rw [h2]; exact (List.getElem?_eq_some_iff.1 hd).1
  obtain ⟨k, hk⟩ : ∃ k, bs[i]? = some k := ⟨_, List.getElem?_eq_getElem hi⟩
  obtain ⟨b, o, e, _, hat⟩ := h1.get hk
  obtain ⟨c0, c1, c2⟩ := at_bk hat
  have e3 : tK.n = 3 := rfl
  rw [e3] at c0 c1 c2
  obtain ⟨q1, q2, q3⟩ := h3 i k d hk hd
  obtain ⟨a, c, en, _, _⟩ := q3.form
  rw [q1] at c0
  rw [q2] at c1
  rw [en] at c2 q3
  exact ⟨b, o, a, c, e, c0, c1, c2, q3, hat.1⟩
theorem sameBlocks_ok (w : World) (p q : Nat) (v v' : Value) (D : List (Int × Int × List Int)) (h : Bd p w v D) (h' : Bd q w v' D) (hD : D.length ≤ 1048576) :
    Calls Try.prog 38 #[v, v'] w fun e w' => e = .returned (.bool true) ∧ Below w.heap.size w w' := by
  obtain ⟨a0, cap, rfl, h1, h2⟩ := h.form
  obtain ⟨a1, cap', rfl, h1', h2'⟩ := h'.form
  have H := Lib.hid h
  have H' := Lib.hid h'
  unfold maxLen at h2 h2'
  clear h h'
  go_enter Try.func38, Try.ntmps38
  go_wp2
  go_loopw [5] (fun t wr => ∃ i : Nat, i ≤ D.length ∧ t = .int .i64 (i : Int) ∧ Hid (Below w.heap.size w wr)) (fun t _ => D.length - (intOf t).toNat)
  case atStart => exact ⟨0, by omega, rfl, bRefl w⟩
  case round =>
    obtain ⟨i, hi, rfl, hb⟩ := hrel
    by_cases hli : i < D.length
    · have hli' : (i : Int) < (D.length : Int) := by omega
      have hi0 : (0 : Int) ≤ (i : Int) := by omega
      obtain ⟨⟨d1, d2, d3⟩, hd⟩ : ∃ d, D[i]? = some d := ⟨_, List.getElem?_eq_getElem hli⟩
      obtain ⟨b, o, a, c, rfl, c0, c1, c2, hs, _⟩ := (H.out.below hb.out).get hd
      obtain ⟨b', o', a', c', rfl, c0', c1', c2', hs', _⟩ := (H'.out.below hb.out).get hd
      have HS := Lib.hid hs
      have HS' := Lib.hid hs'
      simp only at c0 c1 c2 c0' c1' c2'
      clear hs hs' hd
      go_upto_region 6 with (fail)
      have e0 : wr.drew.cell? ⟨b, o + i * 3, none⟩ = some (.int .i64 d1) := c0
      have e1 : wr.drew.cell? ⟨b, o + i * 3 + 1, none⟩ = some (.int .i64 d2) := c1
      have e2 : wr.drew.cell? ⟨b, o + i * 3 + 2, none⟩ = some (.slice a d3.length c) := c2
      have e0' : wr.drew.cell? ⟨b', o' + i * 3, none⟩ = some (.int .i64 d1) := c0'
      have e1' : wr.drew.cell? ⟨b', o' + i * 3 + 1, none⟩ = some (.int .i64 d2) := c1'
      have e2' : wr.drew.cell? ⟨b', o' + i * 3 + 2, none⟩ = some (.slice a' d3.length c') := c2'
      have hb9 := Lib.hid (show Below w.heap.size w wr.drew from hb.out.drew)
      have HSd := Lib.hid (show SlX tI p wr.drew (.slice a d3.length c) d3 from HS.out.below (bRefl wr).drew)
      have HSd' := Lib.hid (show SlX tI q wr.drew (.slice a' d3.length c') d3 from HS'.out.below (bRefl wr).drew)
      refine wp_tail 35 mix (by kernel_rfl) ?_
      simp only [List.take_succ_cons, List.take_zero, List.drop_succ_cons, List.drop_zero]
      iterate 35 still_step
      refine wpStill_nil ?_
      clear c0 c1 c2 c0' c1' c2' e0 e1 e2 e0' e1' e2' HS HS' hb
      go_wp2_with fail
      refine (lawSameInts_ok _ p q _ _ d3 d3 HSd.out HSd'.out).mono ?_
      rintro e w3 ⟨rfl, b3⟩
      rw [decide_eq_true (rfl : d3 = d3)]
      have HB3 := Lib.hid (hb9.out.trans (b3.mono hb9.out.size))
      clear b3 HSd HSd' hb9
      go_wp2
      go_roundw
      all_goals first
        | exact ⟨i + 1, by omega, by go_num, HB3.out⟩
        | ((repeat apply Exists.intro); exact ⟨⟨i + 1, by omega, by go_num, HB3.out⟩, rfl⟩)
        | (simp [intOf]; omega)
    · obtain rfl : i = D.length := by omega
      clear hli
      go_wp2
      go_ret
      exact ⟨rfl, hb.out⟩
theorem at_ar {w : World} {b o : Nat} {k : Ar} (h : At w b o (tA.f k)) : w.cell? ⟨b, o, none⟩ = some (.int .i64 k.hd) ∧ w.cell? ⟨b, o + 1, none⟩ = some k.bl.v ∧ w.cell? ⟨b, o + 2, none⟩ = some (.int .i64 k.pa) :=
  ⟨h.cell 0 _ rfl, h.cell 1 _ rfl, h.cell 2 _ rfl⟩
/-- Loops to be read: head, parent, blocks. -/
structure Ld (p : Nat) (w : World) (v : Value) (D : List (Int × Int × List Int)) : Prop where
  sl : ∃ bs : List Ar, SlX tA p w v bs ∧ bs.length = D.length ∧ ∀ (i : Nat) (k : Ar) (d : Int × Int × List Int), bs[i]? = some k → D[i]? = some d → k.hd = d.1 ∧ k.pa = d.2.1 ∧ SlX tI p w k.bl.v d.2.2
theorem Ld.below {p : Nat} {w w' : World} {v : Value} {D : List (Int × Int × List Int)} (h : Ld p w v D) (b : Below w.heap.size w w') : Ld p w' v D := by
  obtain ⟨bs, h1, h2, h3⟩ := h.sl
  exact ⟨bs, h1.below b, h2, fun i k d hk hd => ⟨(h3 i k d hk hd).1, (h3 i k d hk hd).2.1, (h3 i k d hk hd).2.2.below b⟩⟩
theorem Ld.form {p : Nat} {w : World} {v : Value} {D : List (Int × Int × List Int)} (h : Ld p w v D) : ∃ a0 cap, v = .slice a0 D.length cap ∧ D.length ≤ cap ∧ cap ≤ maxLen := by
  obtain ⟨bs, h1, h2, _⟩ := h.sl
  obtain ⟨a0, cap, e, h3, h4⟩ := h1.form
  rw [h2] at e h3
  exact ⟨a0, cap, e, h3, h4⟩
theorem Ld.get {p : Nat} {w : World} {a0 : Option Addr} {n cap : Nat} {D : List (Int × Int × List Int)} (h : Ld p w (.slice a0 n cap) D) {i : Nat} {d : Int × Int × List Int} (hd : D[i]? = some d) :
    ∃ b o a c, a0 = some ⟨b, o, none⟩ ∧ w.cell? ⟨b, o + i * 3, none⟩ = some (.int .i64 d.1) ∧ w.cell? ⟨b, o + i * 3 + 2, none⟩ = some (.int .i64 d.2.1) ∧ w.cell? ⟨b, o + i * 3 + 1, none⟩ = some (.slice a d.2.2.length c) ∧ SlX tI p w (.slice a d.2.2.length c) d.2.2 ∧ b < w.heap.size := by
  obtain ⟨bs, h1, h2, h3⟩ := h.sl
  have hi : i < bs.length := by rw [h2]; exact (List.getElem?_eq_some_iff.1 hd).1
  obtain ⟨k, hk⟩ : ∃ k, bs[i]? = some k := ⟨_, List.getElem?_eq_getElem hi⟩
  obtain ⟨b, o, e, _, hat⟩ := h1.get hk
  obtain ⟨c0, c2, c1⟩ := at_ar hat
  have e3 : tA.n = 3 := rfl
  rw [e3] at c0 c1 c2
  obtain ⟨q1, q2, q3⟩ := h3 i k d hk hd
  obtain ⟨a, c, en, _, _⟩ := q3.form
  rw [q1] at c0
  rw [q2] at c1
  rw [en] at c2 q3
  exact ⟨b, o, a, c, e, c0, c1, c2, q3, hat.1⟩
theorem sameLoops_ok (w : World) (p q : Nat) (v v' : Value) (D : List (Int × Int × List Int)) (h : Ld p w v D) (h' : Ld q w v' D) (hD : D.length ≤ 1048576) :
    Calls Try.prog 39 #[v, v'] w fun e w' => e = .returned (.bool true) ∧ Below w.heap.size w w' := by
  obtain ⟨a0, cap, rfl, h1, h2⟩ := h.form
  obtain ⟨a1, cap', rfl, h1', h2'⟩ := h'.form
  have H := Lib.hid h
  have H' := Lib.hid h'
  unfold maxLen at h2 h2'
  clear h h'
  go_enter Try.func39, Try.ntmps39
  go_wp2
  go_loopw [5] (fun t wr => ∃ i : Nat, i ≤ D.length ∧ t = .int .i64 (i : Int) ∧ Hid (Below w.heap.size w wr)) (fun t _ => D.length - (intOf t).toNat)
  case atStart => exact ⟨0, by omega, rfl, bRefl w⟩
  case round =>
    obtain ⟨i, hi, rfl, hb⟩ := hrel
    by_cases hli : i < D.length
    · have hli' : (i : Int) < (D.length : Int) := by omega
      have hi0 : (0 : Int) ≤ (i : Int) := by omega
      obtain ⟨⟨d1, d2, d3⟩, hd⟩ : ∃ d, D[i]? = some d := ⟨_, List.getElem?_eq_getElem hli⟩
      obtain ⟨b, o, a, c, rfl, c0, c1, c2, hs, _⟩ := (H.out.below hb.out).get hd
      obtain ⟨b', o', a', c', rfl, c0', c1', c2', hs', _⟩ := (H'.out.below hb.out).get hd
      have HS := Lib.hid hs
      have HS' := Lib.hid hs'
      simp only at c0 c1 c2 c0' c1' c2'
      clear hs hs' hd
      go_upto_region 6 with (fail)
      have e0 : wr.drew.cell? ⟨b, o + i * 3, none⟩ = some (.int .i64 d1) := c0
      have e1 : wr.drew.cell? ⟨b, o + i * 3 + 2, none⟩ = some (.int .i64 d2) := c1
      have e2 : wr.drew.cell? ⟨b, o + i * 3 + 1, none⟩ = some (.slice a d3.length c) := c2
      have e0' : wr.drew.cell? ⟨b', o' + i * 3, none⟩ = some (.int .i64 d1) := c0'
      have e1' : wr.drew.cell? ⟨b', o' + i * 3 + 2, none⟩ = some (.int .i64 d2) := c1'
      have e2' : wr.drew.cell? ⟨b', o' + i * 3 + 1, none⟩ = some (.slice a' d3.length c') := c2'
      have hb9 := Lib.hid (show Below w.heap.size w wr.drew from hb.out.drew)
      have HSd := Lib.hid (show SlX tI p wr.drew (.slice a d3.length c) d3 from HS.out.below (bRefl wr).drew)
      have HSd' := Lib.hid (show SlX tI q wr.drew (.slice a' d3.length c') d3 from HS'.out.below (bRefl wr).drew)
      refine wp_tail 35 mix (by kernel_rfl) ?_
      simp only [List.take_succ_cons, List.take_zero, List.drop_succ_cons, List.drop_zero]
      iterate 35 still_step
      refine wpStill_nil ?_
      clear c0 c1 c2 c0' c1' c2' e0 e1 e2 e0' e1' e2' HS HS' hb
      go_wp2_with fail
      refine (lawSameInts_ok _ p q _ _ d3 d3 HSd.out HSd'.out).mono ?_
      rintro e w3 ⟨rfl, b3⟩
      rw [decide_eq_true (rfl : d3 = d3)]
      have HB3 := Lib.hid (hb9.out.trans (b3.mono hb9.out.size))
      clear b3 HSd HSd' hb9
      go_wp2
      go_roundw
      all_goals first
        | exact ⟨i + 1, by omega, by go_num, HB3.out⟩
        | ((repeat apply Exists.intro); exact ⟨⟨i + 1, by omega, by go_num, HB3.out⟩, rfl⟩)
        | (simp [intOf]; omega)
    · obtain rfl : i = D.length := by omega
      clear hli
      go_wp2
      go_ret
      exact ⟨rfl, hb.out⟩
end Go.Proofs.Ytpiiefdaaijgbaa

/- The program's Blocks and Loops: copies in new memory. -/
namespace Go.Proofs.Ytpiiefdaaijgbaa
open Go Go.RowKit Go.Wr Go.Fl
set_option maxHeartbeats 4000000
set_option maxRecDepth 100000

/-- While the rows of edges are copied. -/
structure Bc (w : World) (p : Nat) (l : List In) (g c k : Nat) (row : Nat → Sv) (wr : World) : Prop where
  kb : OwR tK w.heap.size wr (.slice (some ⟨g, 0, none⟩) (nB l) c) (bkI (nB l) (frF l) (twF l) row)
  nw : ∀ i, i < k → OwR tI w.heap.size wr (row i).v (nI (nxt l i))
  od : ∀ i, k ≤ i → i < nB l → SlX tI p w (row i).v (nI (nxt l i))
  bl : Below w.heap.size w wr
theorem Bc.put {w wr w' : World} {p : Nat} {l : List In} {g c k : Nat} {row : Nat → Sv} (h : Bc w p l g c k row wr) (hk : k < nB l) (b : Below wr.heap.size wr w') {s : Sv} (hs : OwR tI w.heap.size w' s.v (nI (nxt l k))) : Bc w p l g c (k + 1) (setF row k s) (w'.setCell ⟨g, k * 3 + 2, none⟩ s.v) := by
  have hkb := h.kb.below b
  obtain ⟨hB, C, hg⟩ := hkb.blk (g := g) rfl
  have h1 := hkb.set (k := k) (j := 2) (x := ⟨frF l k, twF l k, row k⟩) (y := ⟨frF l k, twF l k, s⟩) (v := s.v) (by unfold bkI; rw [List.getElem?_map, List.getElem?_range hk]; rfl) (by decide) rfl
  rw [bkI_set hk] at h1
  refine ⟨h1, fun i hi => ?_, fun i hi hn => ?_, (bThen h.bl b).setCell hB _⟩
  · by_cases e : i = k
    · subst e
      rw [setF_self]
      exact hs.set_other (hs.ne hg (by decide))
    · rw [setF_ne e]
      have := (h.nw i (by omega)).below b
      exact this.set_other (this.ne hg (by decide))
  · rw [setF_ne (by omega)]
    exact h.od i (by omega) hn
theorem blocks_ok (w : World) (p : Nat) (l : List In) (vb va vo : Value) (bs : List Bk) (ss : List Sv) (h : Fw p l vb va vo bs ss w) (hc : w.cell? ⟨p, 0, none⟩ = some vb) (hn0 : 0 < nB l) (hn : nB l ≤ 4096) :
    Calls Try.prog 26 #[.pointer (some ⟨p, 0, none⟩)] w fun e w' => Below w.heap.size w w' ∧ ∃ v rs, e = .returned v ∧ OwR tK w.heap.size w' v rs ∧ rs.length = nB l ∧ ∀ (i : Nat) (k : Bk), rs[i]? = some k → k.fr = (frF l i : Int) ∧ k.2 = (twF l i : Int) ∧ OwR tI w.heap.size w' k.nx.v (nI (nxt l i)) := by
  obtain ⟨a0, cap, rfl, h1, h2⟩ := h.sb.form
  rw [h.lb] at hc h h1
  unfold maxLen at h2
  have H := Lib.hid h
  have hrow : bs = bkI (nB l) (frF l) (twF l) (fun i => ((bs[i]?).map (·.nx)).getD ⟨none, 0, 0⟩) := by
    apply List.ext_getElem?
    intro i
    unfold bkI
    by_cases hi : i < nB l
    · obtain ⟨k, hk⟩ : ∃ k, bs[i]? = some k := ⟨_, List.getElem?_eq_getElem (by rw [h.lb]; exact hi)⟩
      obtain ⟨e1, e2, _⟩ := h.nb i k hk
      rw [List.getElem?_map, List.getElem?_range hi]
      simp only [Option.map_some]
      rw [← e1, ← e2, hk]
      rfl
    · rw [List.getElem?_eq_none (by rw [h.lb]; omega), List.getElem?_eq_none (by simp; omega)]
  have HROW := Lib.hid hrow
  have HLB := Lib.hid h.lb
  clear h hrow
  go_enter Try.func26, Try.ntmps26
  go_wp2_with fail
  refine (cloneB_ok _ p _ bs H.out.sb (by rw [HLB.out]; omega)).mono ?_
  rintro e w1 ⟨b1, v1, rfl, ho⟩
  rcases ho.form with ⟨_, e⟩ | ⟨g, c, rfl, hc1, hc2, _⟩
  · exfalso
    have := congrArg List.length e
    rw [HLB.out] at this
    simp only [List.length_nil] at this
    omega
  · rw [HLB.out] at ho hc1 ⊢
    rw [HROW.out] at ho
    have HB := Lib.hid (show Bc w p l g c 0 (fun i => ((bs[i]?).map (·.nx)).getD ⟨none, 0, 0⟩) w1 from ⟨ho, fun i hi => by omega, fun i _ hi => by
      obtain ⟨k, hk⟩ : ∃ k, bs[i]? = some k := ⟨_, List.getElem?_eq_getElem (by rw [HLB.out]; exact hi)⟩
      rw [hk]
      exact (H.out.nb i k hk).2.2, b1⟩)
    unfold maxLen at hc2
    clear ho b1
    go_wp2
    go_loopw [12] (fun t wr => ∃ (k : Nat) (row : Nat → Sv), k ≤ nB l ∧ t = .int .i64 (k : Int) ∧ Hid (Bc w p l g c k row wr)) (fun t _ => nB l - (intOf t).toNat)
    case atStart => exact ⟨0, _, by omega, rfl, HB.out⟩
    case round =>
      clear HB
      obtain ⟨k, row, hk, rfl, hB⟩ := hrel
      by_cases hlk : k < nB l
      · have hlk' : (k : Int) < (nB l : Int) := by omega
        have hk0 : (0 : Int) ≤ (k : Int) := by omega
        have hat := hB.out.kb.at (k := k) (x := ⟨frF l k, twF l k, row k⟩) (by unfold bkI; rw [List.getElem?_map, List.getElem?_range hlk]; rfl)
        have kn := hat.cell 2 _ rfl
        rw [show 0 + k * tK.n + 2 = k * 3 + 2 by show 0 + k * 3 + 2 = _; omega] at kn
        simp only [Sv.v] at kn
        have hod := hB.out.od k (Nat.le_refl _) hlk
        have hx2 := nxt_two l k
        clear hat
        go_wp2_with fail
        refine (cloneI_ok _ p _ _ (hod.below hB.out.bl) (by rw [nI_len]; omega)).mono ?_
        rintro e w2 ⟨b2, v2, rfl, ho2⟩
        obtain ⟨a2, n2, c2, rfl⟩ : ∃ a n c, v2 = .slice a n c := by
          rcases ho2.form with ⟨e, _⟩ | ⟨g, c, e, _⟩
          · exact ⟨_, _, _, e⟩
          · exact ⟨_, _, _, e⟩
        have HP := Lib.hid (hB.out.put hlk b2 (s := ⟨a2, n2, c2⟩) (ho2.mono hB.out.bl.size))
        have kf := (hB.out.kb.below b2).frozen (k * 3 + 2)
        have kn2 : w2.cell? ⟨g, k * 3 + 2, none⟩ = some (.slice (row k).a (row k).n (row k).c) := (b2.cell (p := ⟨g, k * 3 + 2, none⟩) (hB.out.kb.lt rfl)).trans kn
        clear kn b2 ho2 hod hB
        go_wp2
        go_roundw
        all_goals first
          | exact ⟨k + 1, _, by omega, by go_num, HP.out⟩
          | ((repeat apply Exists.intro); exact ⟨⟨k + 1, _, by omega, by go_num, HP.out⟩, rfl⟩)
          | (simp [intOf]; omega)
      · obtain rfl : k = nB l := by omega
        clear hlk
        go_wp2
        go_ret
        have hB := hB.out
        refine ⟨hB.bl, _, _, rfl, hB.kb, by simp [bkI], fun i x hx => ?_⟩
        unfold bkI at hx
        by_cases hi : i < nB l
        · rw [List.getElem?_map, List.getElem?_range hi] at hx
          simp only [Option.map_some, Option.some.injEq] at hx
          subst hx
          exact ⟨rfl, rfl, hB.nw i hi⟩
        · rw [List.getElem?_eq_none (by simp; omega)] at hx
          cases hx
end Go.Proofs.Ytpiiefdaaijgbaa

/- The program's Loops: a copy in new memory. -/
namespace Go.Proofs.Ytpiiefdaaijgbaa
open Go Go.RowKit Go.Wr Go.Fl
set_option maxHeartbeats 4000000
set_option maxRecDepth 100000

def arI (n : Nat) (hd pa : Nat → Int) (row : Nat → Sv) : List Ar := (List.range n).map fun i => ⟨hd i, row i, pa i⟩
theorem arI_set {n : Nat} {hd pa : Nat → Int} {row : Nat → Sv} {k : Nat} (hk : k < n) (s : Sv) : (arI n hd pa row).set k ⟨hd k, s, pa k⟩ = arI n hd pa (setF row k s) := by
  apply List.ext_getElem?
  intro i
  rw [List.getElem?_set]
  unfold arI
  simp only [List.length_map, List.length_range, List.getElem?_map]
  by_cases h : k = i
  · subst h
    rw [if_pos rfl, if_pos hk, List.getElem?_range hk]
    simp [setF_self]
  · rw [if_neg h]
    by_cases hi : i < n
    · rw [List.getElem?_range hi]
      simp only [Option.map_some]
      rw [setF_ne (fun e => h e.symm)]
    · rw [List.getElem?_eq_none (by simp; omega)]
      rfl
/-- While the rows of blocks are copied. -/
structure Lc (w : World) (p n : Nat) (hd pa : Nat → Int) (D : Nat → List Int) (a : Option Addr) (c k : Nat) (row : Nat → Sv) (wr : World) : Prop where
  kb : OwR tA w.heap.size wr (.slice a n c) (arI n hd pa row)
  nw : ∀ i, i < k → OwR tI w.heap.size wr (row i).v (D i)
  od : ∀ i, k ≤ i → i < n → SlX tI p w (row i).v (D i)
  bl : Below w.heap.size w wr
theorem Lc.put {w wr w' : World} {p n : Nat} {hd pa : Nat → Int} {D : Nat → List Int} {g c k : Nat} {row : Nat → Sv} (h : Lc w p n hd pa D (some ⟨g, 0, none⟩) c k row wr) (hk : k < n) (b : Below wr.heap.size wr w') {s : Sv} (hs : OwR tI w.heap.size w' s.v (D k)) : Lc w p n hd pa D (some ⟨g, 0, none⟩) c (k + 1) (setF row k s) (w'.setCell ⟨g, k * 3 + 1, none⟩ s.v) := by
  have hkb := h.kb.below b
  obtain ⟨hB, C, hg⟩ := hkb.blk (g := g) rfl
  have h1 := hkb.set (k := k) (j := 1) (x := ⟨hd k, row k, pa k⟩) (y := ⟨hd k, s, pa k⟩) (v := s.v) (by unfold arI; rw [List.getElem?_map, List.getElem?_range hk]; rfl) (by decide) rfl
  rw [arI_set hk] at h1
  refine ⟨h1, fun i hi => ?_, fun i hi hn => ?_, (bThen h.bl b).setCell hB _⟩
  · by_cases e : i = k
    · subst e
      rw [setF_self]
      exact hs.set_other (hs.ne hg (by decide))
    · rw [setF_ne e]
      have := (h.nw i (by omega)).below b
      exact this.set_other (this.ne hg (by decide))
  · rw [setF_ne (by omega)]
    exact h.od i (by omega) hn
theorem loops_ok (w : World) (p n : Nat) (hd pa : Nat → Int) (D : Nat → List Int) (row : Nat → Sv) (vl : Value) (hc : w.cell? ⟨p, 6, none⟩ = some vl) (hl : SlX tA p w vl (arI n hd pa row)) (hr : ∀ i, i < n → SlX tI p w (row i).v (D i)) (hD : ∀ i, i < n → (D i).length ≤ 1048576) (hn : n ≤ 4096) :
    Calls Try.prog 27 #[.pointer (some ⟨p, 0, none⟩)] w fun e w' => Below w.heap.size w w' ∧ ∃ v row', e = .returned v ∧ OwR tA w.heap.size w' v (arI n hd pa row') ∧ ∀ (i : Nat), i < n → OwR tI w.heap.size w' (row' i).v (D i) := by
  obtain ⟨a0, cap, rfl, h1, h2⟩ := hl.form
  have hlen : (arI n hd pa row).length = n := by simp [arI]
  rw [hlen] at hc hl h1
  unfold maxLen at h2
  have HL := Lib.hid hl
  have HR := Lib.hid hr
  have HDD := Lib.hid hD
  clear hl hr hD
  go_enter Try.func27, Try.ntmps27
  go_wp2_with fail
  refine (cloneA_ok _ p _ _ HL.out (by rw [hlen]; omega)).mono ?_
  rintro e w1 ⟨b1, v1, rfl, ho⟩
  obtain ⟨a1, c1, rfl, hc2⟩ : ∃ a c, v1 = .slice a n c ∧ c ≤ maxLen := by
    rcases ho.form with ⟨e, e0⟩ | ⟨g, c, e, _, h3, _⟩
    · rw [e0] at hlen
      simp only [List.length_nil] at hlen
      subst hlen
      exact ⟨_, _, e, by unfold maxLen; omega⟩
    · rw [hlen] at e
      exact ⟨_, _, e, h3⟩
  unfold maxLen at hc2
  have HB := Lib.hid (show Lc w p n hd pa D a1 c1 0 row w1 from ⟨ho, fun i hi => by omega, fun i _ hi => HR.out i hi, b1⟩)
  clear ho b1 hlen
  go_wp2
  go_loopw [12] (fun t wr => ∃ (k : Nat) (row : Nat → Sv), k ≤ n ∧ t = .int .i64 (k : Int) ∧ Hid (Lc w p n hd pa D a1 c1 k row wr)) (fun t _ => n - (intOf t).toNat)
  case atStart => exact ⟨0, _, by omega, rfl, HB.out⟩
  case round =>
    clear HB
    obtain ⟨k, row, hk, rfl, hB⟩ := hrel
    by_cases hlk : k < n
    · have hlk' : (k : Int) < (n : Int) := by omega
      have hk0 : (0 : Int) ≤ (k : Int) := by omega
      obtain ⟨g, rfl⟩ : ∃ g, a1 = some ⟨g, 0, none⟩ := by
        rcases hB.out.kb.form with ⟨e, _⟩ | ⟨g, c, e, _⟩
        · injection e with e1 e2
          omega
        · injection e with e1
          exact ⟨g, e1⟩
      have hat := hB.out.kb.at (k := k) (x := ⟨hd k, row k, pa k⟩) (by unfold arI; rw [List.getElem?_map, List.getElem?_range hlk]; rfl)
      have kn := hat.cell 1 _ rfl
      rw [show 0 + k * tA.n + 1 = k * 3 + 1 by show 0 + k * 3 + 1 = _; omega] at kn
      simp only [Sv.v] at kn
      have hod := hB.out.od k (Nat.le_refl _) hlk
      have hx2 := HDD.out k hlk
      clear hat
      go_wp2_with fail
      refine (cloneI_ok _ p _ _ (hod.below hB.out.bl) (by omega)).mono ?_
      rintro e w2 ⟨b2, v2, rfl, ho2⟩
      obtain ⟨a2, n2, c2, rfl⟩ : ∃ a n c, v2 = .slice a n c := by
        rcases ho2.form with ⟨e, _⟩ | ⟨g, c, e, _⟩
        · exact ⟨_, _, _, e⟩
        · exact ⟨_, _, _, e⟩
      have HP := Lib.hid (hB.out.put hlk b2 (s := ⟨a2, n2, c2⟩) (ho2.mono hB.out.bl.size))
      have kf := (hB.out.kb.below b2).frozen (k * 3 + 1)
      have kn2 : w2.cell? ⟨g, k * 3 + 1, none⟩ = some (.slice (row k).a (row k).n (row k).c) := (b2.cell (p := ⟨g, k * 3 + 1, none⟩) (hB.out.kb.lt rfl)).trans kn
      clear kn b2 ho2 hod hB
      go_wp2
      go_roundw
      all_goals first
        | exact ⟨k + 1, _, by omega, by go_num, HP.out⟩
        | ((repeat apply Exists.intro); exact ⟨⟨k + 1, _, by omega, by go_num, HP.out⟩, rfl⟩)
        | (simp [intOf]; omega)
    · obtain rfl : k = n := by omega
      clear hlk
      go_wp2
      go_ret
      have hB := hB.out
      exact ⟨hB.bl, _, row, rfl, hB.kb, hB.nw⟩
end Go.Proofs.Ytpiiefdaaijgbaa

/- Plain: the law's small code, and two exits. -/
namespace Go.Proofs.Ytpiiefdaaijgbaa
open Go Go.RowKit Go.Wr Go.Fl
set_option maxRecDepth 100000

def sN : Nat → List Nat
  | 0 => [1]
  | 1 => [1, 2]
  | _ => []
theorem sm_bl : bl smallL = [(0, 1), (1, 3), (3, 5)] := by decide
theorem sm_n : nB smallL = 3 := by unfold nB; rw [sm_bl]; rfl
theorem sm_nxt : nxt smallL = sN := by
  funext b
  match b with
  | 0 => decide
  | 1 => decide
  | 2 => decide
  | b + 3 => unfold nxt; rw [sm_bl]; rfl
theorem sm_ofl : ofl smallL = [0, 1, 1, 2, 2] := by decide
theorem sm_fr : frF smallL 0 = 0 ∧ twF smallL 0 = 1 ∧ frF smallL 1 = 1 ∧ twF smallL 1 = 3 ∧ frF smallL 2 = 3 ∧ twF smallL 2 = 5 := by unfold frF twF; rw [sm_bl]; decide
theorem sN_mem {u v : Nat} (h : v ∈ sN u) : (u = 0 ∧ v = 1) ∨ (u = 1 ∧ v = 1) ∨ (u = 1 ∧ v = 2) := by
  match u with
  | 0 => simp [sN] at h; omega
  | 1 => simp [sN] at h; omega
  | u + 2 => simp [sN] at h
theorem sN_dfs : DfsL sN [2, 1, 0] := by
  have h2 : Vs sN 1 2 0 (Fl.mark (Fl.mark (Fl.mark (fun _ => false) 0) 1) 2, []) (Fl.mark (Fl.mark (Fl.mark (fun _ => false) 0) 1) 2, [2]) := Vs.fin
  have h1 : Vs sN 1 1 2 (Fl.mark (Fl.mark (Fl.mark (fun _ => false) 0) 1) 2, [2]) (Fl.mark (Fl.mark (Fl.mark (fun _ => false) 0) 1) 2, [2, 1]) := Vs.fin
  have h1b := Vs.down (nx := sN) (b := 1) (k := 1) (c := 2) (s := (Fl.mark (Fl.mark (fun _ => false) 0) 1, [])) rfl rfl h2 h1
  have h1a := Vs.skip (nx := sN) (b := 1) (k := 0) (c := 1) rfl rfl h1b
  have h0 : Vs sN 1 0 1 (Fl.mark (Fl.mark (Fl.mark (fun _ => false) 0) 1) 2, [2, 1]) (Fl.mark (Fl.mark (Fl.mark (fun _ => false) 0) 1) 2, [2, 1, 0]) := Vs.fin
  exact ⟨_, _, Vs.down (nx := sN) (b := 0) (k := 0) (c := 1) (s := (Fl.mark (fun _ => false) 0, [])) rfl rfl h1a h0⟩
theorem sm_dfs : dfsL (nxt smallL) = [2, 1, 0] := by rw [sm_nxt]; exact sN_dfs.eq
theorem sN_rw : ∀ b, b < 3 → ∃ w, RW sN w b := by
  intro b hb
  have r1 : RW sN [1, 0] 1 := RW.step RW.root (by decide)
  match b with
  | 0 => exact ⟨_, RW.root⟩
  | 1 => exact ⟨_, r1⟩
  | 2 => exact ⟨_, RW.step r1 (by decide)⟩
theorem sN_dom {w : List Nat} {b : Nat} (h : RW sN w b) : b = 0 ∨ 1 ∈ w := by
  induction h with
  | root => exact Or.inl rfl
  | step _ hv ih =>
    rcases sN_mem hv with ⟨rfl, rfl⟩ | ⟨rfl, rfl⟩ | ⟨rfl, rfl⟩
    · simp
    · simp
    · rcases ih with ih | ih
      · cases ih
      · simp [ih]
theorem sN_12 : Dom sN 1 2 := fun w h => by
  rcases sN_dom h with h | h
  · cases h
  · exact h
theorem sN_21 : ¬ Dom sN 2 1 := fun h => by
  have := h [1, 0] (RW.step RW.root (by decide))
  simp at this
theorem sN_str : Str sN id 3 := fun u _ v hv hle => by
  rcases sN_mem hv with ⟨rfl, rfl⟩ | ⟨rfl, rfl⟩ | ⟨rfl, rfl⟩
  · simp at hle
  · exact Dom.refl _ _
  · simp at hle
theorem sN_lt : ∀ u, u < 3 → ∀ v ∈ sN u, v < 3 := fun u _ v hv => by
  rcases sN_mem hv with ⟨rfl, rfl⟩ | ⟨rfl, rfl⟩ | ⟨rfl, rfl⟩ <;> omega
theorem sN_hd (h : Nat) : Hd sN 3 h ↔ h = 1 := by
  constructor
  · rintro ⟨u, hu, hm, hd⟩
    rcases sN_mem hm with ⟨rfl, rfl⟩ | ⟨rfl, rfl⟩ | ⟨rfl, rfl⟩
    · rfl
    · rfl
    · exact absurd hd sN_21
  · rintro rfl
    exact ⟨1, by omega, by decide, Dom.refl _ _⟩
theorem sN_lp (x : Nat) : Lp sN 3 1 x ↔ x = 1 := by
  constructor
  · intro h
    induction h with
    | head => rfl
    | latch hu hm hd =>
      rcases sN_mem hm with ⟨rfl, _⟩ | ⟨rfl, _⟩ | ⟨rfl, e⟩
      · have := hd [0] RW.root
        simp at this
      · rfl
      · rfl
    | back _ hne _ _ ih => exact absurd ih hne
  · rintro rfl
    exact Lp.head
theorem sm_heads : heads smallL = [1] := by
  have h : ∀ b, headB smallL b = decide (b = 1) := fun b => by
    have h0 : headB smallL b = true ↔ b = 1 := by rw [headB_iff, sm_nxt, sm_n, sN_hd]
    by_cases e : b = 1
    · rw [h0.2 e]; simp [e]
    · cases hh : headB smallL b with
      | true => exact absurd (h0.1 hh) e
      | false => simp [e]
  unfold heads
  rw [sm_n, show headB smallL = fun b => decide (b = 1) from funext h]
  decide
theorem sm_lp : ins (lpB smallL 1) (nB smallL) = [1] := by
  have h : ∀ b, lpB smallL 1 b = decide (b = 1) := fun b => by
    have h0 : lpB smallL 1 b = true ↔ b = 1 := by rw [lpB_iff, sm_nxt, sm_n, sN_lp]
    by_cases e : b = 1
    · rw [h0.2 e]; simp [e]
    · cases hh : lpB smallL 1 b with
      | true => exact absurd (h0.1 hh) e
      | false => simp [e]
  unfold ins
  rw [sm_n, show lpB smallL 1 = fun b => decide (b = 1) from funext h]
  decide
theorem sm_par : parK smallL 0 (heads smallL).length = -1 := by
  rw [sm_heads]
  simp [parK]
theorem sm_g7 : G7 smallL := by
  refine ⟨⟨⟨⟨⟨⟨⟨by decide, by decide⟩, by decide⟩, ⟨⟨39, false, false, 0, 0, 0, 0, 0⟩, rfl, by decide⟩⟩, by rw [sm_n]; decide⟩, ?_⟩, ?_⟩, by rw [sm_heads]; decide⟩
  · rw [sm_n, sm_nxt]; exact sN_rw
  · rw [sm_n, sm_nxt]; exact fun b hb => no_round sN_str sN_lt hb
theorem sm_fine : mkE smallL = (0, 0) := mk_fine sm_g7
/-- Two exits. -/
def exL : List In := [⟨39, false, false, 0, 0, 0, 0, 0⟩, ⟨39, false, false, 0, 0, 0, 0, 0⟩]
theorem ex_bl : bl exL = [(0, 1), (1, 2)] := by decide
theorem ex_nxt : nxt exL = fun _ => [] := by
  funext b
  match b with
  | 0 => decide
  | 1 => decide
  | b + 2 => unfold nxt; rw [ex_bl]; rfl
theorem ex_no : mkE exL = (1, 42) := by
  have h2 : nB exL = 2 := by unfold nB; rw [ex_bl]; rfl
  have g : G4 exL := ⟨⟨⟨⟨by decide, by decide⟩, by decide⟩, ⟨⟨39, false, false, 0, 0, 0, 0, 0⟩, rfl, by decide⟩⟩, by rw [h2]; decide⟩
  have h := mk_reach g (b := 1) (by rw [h2]; decide) ?_ ?_
  · rw [h]
    unfold frm
    rw [ex_bl]
    rfl
  · rw [ex_nxt]
    rintro ⟨w, h⟩
    cases h with
    | step _ hv => cases hv
  · intro x hx
    obtain rfl : x = 0 := by omega
    exact ⟨_, RW.root⟩
end Go.Proofs.Ytpiiefdaaijgbaa

/- The law's known flow: true. -/
namespace Go.Proofs.Ytpiiefdaaijgbaa
open Go Go.RowKit Go.Wr Go.Fl
set_option maxHeartbeats 4000000
set_option maxRecDepth 100000

/-- The known flow's data. -/
def smB : List (Int × Int × List Int) := [(0, 1, [1]), (1, 3, [1, 2]), (3, 5, [])]
def smL : List (Int × Int × List Int) := [(1, -1, [1])]
theorem bd_of {w : World} {B p : Nat} {v : Value} {rs : List Bk} (h : OwR tK B w v rs) (hp : p < B) (hl : rs.length = nB smallL) (hr : ∀ (i : Nat) (k : Bk), rs[i]? = some k → k.fr = (frF smallL i : Int) ∧ k.2 = (twF smallL i : Int) ∧ OwR tI B w k.nx.v (nI (nxt smallL i))) : Bd p w v smB := by
  have hne : ∀ {v : Value} {α : Type} {R : RT Try.prog α} {l : List α}, OwR R B w v l → v.ownBlock ≠ some p := fun h e => by have := (h.blk e).1; omega
  rw [sm_n] at hl
  refine ⟨rs, h.sl (hne h), by rw [hl]; rfl, fun i k d hk hd => ?_⟩
  obtain ⟨h1, h2, h3⟩ := hr i k hk
  have h3 := h3.sl (hne h3)
  rw [sm_nxt] at h3
  obtain ⟨f0, t0, f1, t1, f2, t2⟩ := sm_fr
  match i with
  | 0 => cases hd; rw [f0] at h1; rw [t0] at h2; exact ⟨h1, h2, h3⟩
  | 1 => cases hd; rw [f1] at h1; rw [t1] at h2; exact ⟨h1, h2, h3⟩
  | 2 => cases hd; rw [f2] at h1; rw [t2] at h2; exact ⟨h1, h2, h3⟩
  | i + 3 => cases hd
theorem ne_low {α : Type} {R : RT Try.prog α} {w : World} {B p : Nat} {v : Value} {l : List α} (h : OwR R B w v l) (hp : p < B) : v.ownBlock ≠ some p := fun e => by have := (h.blk e).1; omega
theorem two_size (w : World) (o : Obj) : (w.alloc o).heap.size = w.heap.size + 1 := by show (w.heap.push o).size = _; exact Array.size_push _
theorem litB_ok (w : World) (p : Nat) (hp : p < w.heap.size) : Bd p (((w.alloc (.cells #[.int .i64 1] 3)).alloc (.cells #[.int .i64 1, .int .i64 2] 3)).alloc (.cells #[.int .i64 0, .int .i64 1, .slice (some ⟨w.heap.size, 0, none⟩) 1 1, .int .i64 1, .int .i64 3, .slice (some ⟨w.heap.size + 1, 0, none⟩) 2 2, .int .i64 3, .int .i64 5, .slice none 0 0] 54)) (.slice (some ⟨w.heap.size + 1 + 1, 0, none⟩) 3 3) smB := by
  have h1 : OwR tI w.heap.size (w.alloc (.cells #[.int .i64 1] 3)) (.slice (some ⟨w.heap.size, 0, none⟩) 1 1) [1] := OwR.new rfl rfl (by decide)
  have h2 : OwR tI (w.heap.size + 1) ((w.alloc (.cells #[.int .i64 1] 3)).alloc (.cells #[.int .i64 1, .int .i64 2] 3)) (.slice (some ⟨w.heap.size + 1, 0, none⟩) 2 2) [1, 2] := OwR.new (two_size w _).symm rfl (by decide)
  have h3 : OwR tK (w.heap.size + 1 + 1) (((w.alloc (.cells #[.int .i64 1] 3)).alloc (.cells #[.int .i64 1, .int .i64 2] 3)).alloc (.cells #[.int .i64 0, .int .i64 1, .slice (some ⟨w.heap.size, 0, none⟩) 1 1, .int .i64 1, .int .i64 3, .slice (some ⟨w.heap.size + 1, 0, none⟩) 2 2, .int .i64 3, .int .i64 5, .slice none 0 0] 54)) (.slice (some ⟨w.heap.size + 1 + 1, 0, none⟩) 3 3)
      [⟨0, 1, ⟨some ⟨w.heap.size, 0, none⟩, 1, 1⟩⟩, ⟨1, 3, ⟨some ⟨w.heap.size + 1, 0, none⟩, 2, 2⟩⟩, ⟨3, 5, ⟨none, 0, 0⟩⟩] := OwR.new (by rw [two_size, two_size]) rfl (by show 3 ≤ maxLen; unfold maxLen; omega)
  refine ⟨_, h3.sl (ne_low h3 (by omega)), rfl, fun i k d hk hd => ?_⟩
  match i with
  | 0 => cases hd; cases hk; exact ⟨rfl, rfl, ((h1.below (bAl (bRefl _) _)).below (bAl (bRefl _) _)).sl (ne_low h1 (by omega))⟩
  | 1 => cases hd; cases hk; exact ⟨rfl, rfl, (h2.below (bAl (bRefl _) _)).sl (ne_low h2 (by omega))⟩
  | 2 => cases hd; cases hk; exact ⟨rfl, rfl, SlX.nil _ _⟩
  | i + 3 => cases hd
theorem litL_ok (w : World) (p : Nat) (hp : p < w.heap.size) : Ld p ((w.alloc (.cells #[.int .i64 1] 3)).alloc (.cells #[.int .i64 1, .slice (some ⟨w.heap.size, 0, none⟩) 1 1, .int .i64 (-1)] 52)) (.slice (some ⟨w.heap.size + 1, 0, none⟩) 1 1) smL := by
  have h1 : OwR tI w.heap.size (w.alloc (.cells #[.int .i64 1] 3)) (.slice (some ⟨w.heap.size, 0, none⟩) 1 1) [1] := OwR.new rfl rfl (by decide)
  have h2 : OwR tA (w.heap.size + 1) ((w.alloc (.cells #[.int .i64 1] 3)).alloc (.cells #[.int .i64 1, .slice (some ⟨w.heap.size, 0, none⟩) 1 1, .int .i64 (-1)] 52)) (.slice (some ⟨w.heap.size + 1, 0, none⟩) 1 1) [⟨1, ⟨some ⟨w.heap.size, 0, none⟩, 1, 1⟩, -1⟩] := OwR.new (two_size w _).symm rfl (by show 1 ≤ maxLen; unfold maxLen; omega)
  refine ⟨_, h2.sl (ne_low h2 (by omega)), rfl, fun i k d hk hd => ?_⟩
  match i with
  | 0 => cases hd; cases hk; exact ⟨rfl, rfl, (h1.below (bAl (bRefl _) _)).sl (ne_low h1 (by omega))⟩
  | i + 1 => cases hd
theorem one_hd : ∀ E : List Lq, E.map (·.hd) = [1] → ∃ e0, E = [e0] ∧ e0.hd = 1
  | [], h => by cases h
  | [e0], h => ⟨e0, rfl, by simpa using h⟩
  | _ :: _ :: _, h => by have := congrArg List.length h; simp at this
theorem ex_lit (w : World) (p : Nat) (hp : p < w.heap.size) (C : Array Value) (h : C.toList = tN.cs exL) : SlX tN p (w.alloc (.cells C tN.T)) (.slice (some ⟨w.heap.size, 0, none⟩) 2 2) exL := by
  have h8 : OwR tN w.heap.size (w.alloc (.cells C tN.T)) (.slice (some ⟨w.heap.size, 0, none⟩) 2 2) exL := OwR.new rfl h (by decide)
  exact h8.sl (ne_low h8 hp)
theorem bDrewN {n : Nat} {w w' : World} (h : Below n w w') (k : Nat) : Below n w (w'.drewN k) := ⟨h.os, h.tape, h.output, h.size, h.block⟩
theorem dm_12 : domB (nxt smallL) (nB smallL) 1 2 = true := by
  rw [sm_nxt, sm_n]
  exact domB_yes (a := 1) (b := 2) (by omega) (by omega) sN_12
theorem dm_21 : domB (nxt smallL) (nB smallL) 2 1 = false := by
  rw [sm_nxt, sm_n]
  exact domB_no (a := 2) (b := 1) sN_21
theorem known_ok (w : World) : Calls Try.prog 36 #[] w fun e w' => e = .returned (.bool true) ∧ Below w.heap.size w w' := by
  go_enter Try.func36, Try.ntmps36
  go_wp2_with fail
  refine (small_ok _).mono ?_
  rintro e w1 ⟨b1, v1, rfl, ho1⟩
  have HB1 := Lib.hid b1
  have HO1 := Lib.hid ho1
  clear b1 ho1
  go_wp2_with fail
  refine (make_ok _ w1.heap.size _ smallL (HO1.out.sl (fun e => by have := HO1.out.lt e; omega))).mono ?_
  rintro e w2 ⟨b2, hM⟩
  rcases hM with ⟨_, hne⟩ | ⟨_, p, ab, cb, b4, o4, b5, o5, c4, c5, va, vo, vr, vl, bs, ss, E, d, rfl, hp, hF⟩
  · exact absurd (by rw [sm_fine]) hne
  have HB2 := Lib.hid (bThen HB1.out b2)
  have HF := Lib.hid hF
  clear b2 hF HB1 HO1
  have c0 := HF.out.blk.cell 0
  have hplt := HF.out.blk.lt
  have HP := Lib.hid hplt
  have c0 : w2.cell? ⟨p, 0, none⟩ = some (.slice ab (nB smallL) cb) := c0
  go_wp2_with fail
  refine (blocks_ok w2 p smallL _ va vo bs ss HF.out.fw c0 (by rw [sm_n]; omega) (by rw [sm_n]; omega)).mono ?_
  rintro e w3 ⟨b3, v3, rs, rfl, ho3, hrl, hrs⟩
  have HD3 := Lib.hid (bd_of ho3 hplt hrl hrs)
  have HB3 := Lib.hid b3
  clear ho3 hrl hrs b3 c0 hplt
  go_wp2_with fail
  refine (sameBlocks_ok _ p p _ _ smB (HD3.out.below (bAl (bAl (bAl (bRefl w3) _) _) _)) (litB_ok w3 p (Nat.lt_of_lt_of_le HP.out HB3.out.size)) (by decide)).mono ?_
  rintro e w4 ⟨rfl, b4⟩
  have HB4 := Lib.hid (bThen HB3.out ((bAl (bAl (bAl (bRefl w3) _) _) _).trans (b4.mono (by rw [two_size, two_size, two_size]; omega))))
  clear b4 HD3 HB3
  have HF4 := Lib.hid (HF.out.below HB4.out)
  have c6 : w4.cell? ⟨p, 6, none⟩ = some vl := HF4.out.blk.cell 6
  have HBW4 := Lib.hid (bThen HB2.out HB4.out)
  clear HF HB4 HB2
  obtain ⟨e0, rfl, he0⟩ : ∃ e0 : Lq, E = [e0] ∧ e0.hd = 1 := by
    have h := HF4.out.hd
    rw [sm_heads] at h
    exact one_hd E h
  have hla : SlX tA p w4 vl (arI 1 (fun _ => 1) (fun _ => -1) (fun _ => e0.bl)) := by
    have h := HF4.out.la
    rw [show arL [e0] (fun i => parK smallL i (heads smallL).length) = [⟨(e0.hd : Int), e0.bl, parK smallL 0 (heads smallL).length⟩] from rfl, sm_par, he0] at h
    exact h
  have hel : SlX tI p w4 e0.bl.v [1] := by
    have h := HF4.out.el e0 (by simp)
    rw [he0, sm_lp] at h
    exact h
  have HLA := Lib.hid hla
  have HEL := Lib.hid hel
  clear hla hel he0
  go_wp2_with fail
  refine (loops_ok w4 p 1 (fun _ => 1) (fun _ => -1) (fun _ => [1]) (fun _ => e0.bl) vl c6 HLA.out (fun _ _ => HEL.out) (fun _ _ => by decide) (by omega)).mono ?_
  rintro e w5 ⟨b5, v5, row5, rfl, ho5, hr5⟩
  have hp4 := HF4.out.blk.lt
  have HD5 := Lib.hid (show Ld p w5 v5 smL from ⟨_, ho5.sl (ne_low ho5 hp4), rfl, fun i k d hk hd => by
    match i with
    | 0 => cases hd; cases hk; exact ⟨rfl, rfl, (hr5 0 (by omega)).sl (ne_low (hr5 0 (by omega)) hp4)⟩
    | i + 1 => cases hd⟩)
  have HF5 := Lib.hid (HF4.out.below b5)
  have HP5 := Lib.hid (Nat.lt_of_lt_of_le hp4 b5.size)
  have HBW5 := Lib.hid (bThen HBW4.out b5)
  clear ho5 hr5 b5 hp4 HLA HEL c6 HF4 HP HBW4
  go_wp2_with fail
  refine (sameLoops_ok _ p p _ _ smL (HD5.out.below (bAl (bAl (bRefl w5) _) _)) (litL_ok w5 p HP5.out) (by decide)).mono ?_
  rintro e w6 ⟨rfl, b6⟩
  have HB6 := Lib.hid ((bAl (bAl (bRefl w5) _) _).trans (b6.mono (by rw [two_size, two_size]; omega)))
  have HF6 := Lib.hid (HF5.out.below HB6.out)
  have HBW6 := Lib.hid (bThen HBW5.out HB6.out)
  clear b6 HD5 HF5 HB6 HBW5
  have c3 : w6.cell? ⟨p, 3, none⟩ = some vr := HF6.out.blk.cell 3
  go_wp2_with fail
  refine (order_ok w6 p p vr _ c3 HF6.out.ro (by rw [sm_dfs]; decide)).mono ?_
  rintro e w7 ⟨b7, v7, rfl, ho7⟩
  rw [sm_dfs] at ho7
  have HO7 := Lib.hid (show SlX tI p w7 v7 [0, 1, 2] from ho7.sl (ne_low ho7 HF6.out.blk.lt))
  have HF7 := Lib.hid (HF6.out.below b7)
  have HBW7 := Lib.hid (bThen HBW6.out b7)
  clear b7 ho7 HF6 HBW6 c3
  go_wp2_with fail
  have ho8 : OwR tI w7.heap.size (w7.alloc (.cells #[.int .i64 0, .int .i64 1, .int .i64 2] 3)) (.slice (some ⟨w7.heap.size, 0, none⟩) 3 3) [0, 1, 2] := OwR.new rfl rfl (by decide)
  have HO8 := Lib.hid (ho8.sl (ne_low ho8 HF7.out.blk.lt))
  clear ho8
  refine (lawSameInts_ok _ p p _ _ [0, 1, 2] [0, 1, 2] (HO7.out.below (bAl (bRefl w7) _)) HO8.out).mono ?_
  rintro e w8 ⟨rfl, b8⟩
  rw [decide_eq_true (rfl : ([0, 1, 2] : List Int) = [0, 1, 2])]
  have HB8 := Lib.hid ((bAl (bRefl w7) _).trans (b8.mono (by rw [two_size]; omega)))
  have HF8 := Lib.hid (HF7.out.below HB8.out)
  have HBW8 := Lib.hid (bThen HBW7.out HB8.out)
  clear b8 HF7 HBW7 HB8 HO7 HO8
  go_wp2_with fail
  refine (make_ok _ p _ exL (ex_lit w8 p HF8.out.blk.lt _ rfl)).mono ?_
  rintro e w9 ⟨b9, hM⟩
  have b9 : Below w8.heap.size w8 w9 := (bAl (bRefl w8) _).trans (b9.mono (by rw [two_size]; omega))
  rcases hM with ⟨rfl, _⟩ | ⟨hg, _⟩
  rotate_left
  · have := mk_fine hg
    rw [ex_no] at this
    cases this
  rw [ex_no]
  have HF9 := Lib.hid (HF8.out.below b9)
  have HBW9 := Lib.hid (bThen HBW8.out b9)
  clear b9 HF8 HBW8
  have HC2 := Lib.hid (show w9.cell? ⟨p, 2, none⟩ = some vo from HF9.out.blk.cell 2)
  have HC0 := Lib.hid (show w9.cell? ⟨p, 0, none⟩ = some (.slice ab (nB smallL) cb) from HF9.out.blk.cell 0)
  go_wp2_with fail
  refine (block_ok w9 p p vo (ofl smallL) HC2.out HF9.out.fw.so 2).mono ?_
  rintro e w' ⟨rfl, rfl⟩
  rw [show blkOf (ofl smallL) 2 = 1 by rw [sm_ofl]; rfl]
  go_wp2_with fail
  refine (block_ok w' p p vo (ofl smallL) HC2.out HF9.out.fw.so 5).mono ?_
  rintro e w9 ⟨rfl, rfl⟩
  rw [show blkOf (ofl smallL) 5 = -1 by rw [sm_ofl]; rfl]
  go_wp2_with fail
  refine (dominates_ok w9 p (nB smallL) _ _ d _ HF9.out.nd.gr HF9.out.nd.id b4 o4 b5 o5 c4 c5 (HF9.out.nd.pd HF9.out.blk) ab cb HC0.out 1 2).mono ?_
  rintro e w10 ⟨rfl, k, rfl⟩
  rw [dm_12]
  have HFd := Lib.hid (show Fin smallL p ab cb b4 o4 b5 o5 c4 c5 va vo vr vl bs ss [e0] d (w9.drewN k) from HF9.out.below (bDrewN (bRefl w9) k))
  have HBd := Lib.hid (show Below w.heap.size w (w9.drewN k) from bDrewN HBW9.out k)
  have HCd := Lib.hid (show (w9.drewN k).cell? ⟨p, 0, none⟩ = some (.slice ab (nB smallL) cb) from HFd.out.blk.cell 0)
  clear HF9 HBW9 HC2 HC0
  generalize w9.drewN k = w11 at HFd HBd HCd ⊢
  go_wp2_with fail
  refine (dominates_ok w11 p (nB smallL) _ _ d _ HFd.out.nd.gr HFd.out.nd.id b4 o4 b5 o5 c4 c5 (HFd.out.nd.pd HFd.out.blk) ab cb HCd.out 2 1).mono ?_
  rintro e w12 ⟨rfl, k2, rfl⟩
  rw [dm_21]
  have HBe := Lib.hid (show Below w.heap.size w (w11.drewN k2) from bDrewN HBd.out k2)
  generalize w11.drewN k2 = w13 at HBe ⊢
  go_wp2
  go_ret
  exact ⟨rfl, HBe.out⟩
end Go.Proofs.Ytpiiefdaaijgbaa
