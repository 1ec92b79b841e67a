/- FlowNests' questions: within, shares, closed, returns. -/
import Derived.Test.YtlhehphikkgobaaHHeads
import Derived.Test.YtlhehphikkgobaaHLpP
namespace Go.Proofs.Ytlhehphikkgobaa
open Go Go.RowKit Go.Wr Go.Fl
set_option maxHeartbeats 4000000
set_option maxRecDepth 100000

theorem within_ok (w : World) (p q : Nat) (v v' : Value) (m m' : List Int) (h : SlX tI p w v m) (h' : SlX tI q w v' m') :
    Calls Try.prog 40 #[v, v'] w fun e w' => e = .returned (.bool (m.all fun x => m'.contains x)) ∧ w' = w := by
  obtain ⟨r, hr⟩ : ∃ r, r = m.all fun x => m'.contains x := ⟨_, rfl⟩
  rw [← hr]
  have HR := Lib.hid hr
  obtain ⟨a0, cap, rfl, h1, h2⟩ := h.form
  have H := Lib.hid h
  have H' := Lib.hid h'
  unfold maxLen at h2
  clear h h' hr
  go_enter Try.func40, Try.ntmps40
  go_wp2
  go_loopw [5] (fun t wr => ∃ k : Nat, k ≤ m.length ∧ t = .int .i64 (k : Int) ∧ Hid ((m.take k).all (fun x => m'.contains x) = true) ∧ w = wr) (fun t _ => m.length - (intOf t).toNat)
  case atStart => exact ⟨0, by omega, rfl, rfl, rfl⟩
  case round =>
    obtain ⟨k, hk, rfl, hq, rfl⟩ := hrel
    by_cases hlt : k < m.length
    · have hlt' : (k : Int) < (m.length : Int) := by omega
      have hk0 : (0 : Int) ≤ (k : Int) := by omega
      obtain ⟨x, hx⟩ : ∃ x, m[k]? = some x := ⟨_, List.getElem?_eq_getElem hlt⟩
      obtain ⟨b, o, rfl, _, _, c⟩ := SlX.int H.out hx
      have ES : Hid ((m.take (k + 1)).all (fun x => m'.contains x) = m'.contains x) := by
        show _ = _
        rw [List.take_add_one, hx, List.all_append, hq.out]
        simp
      have HX := Lib.hid hx
      clear hx
      go_wp2_with fail
      refine (hasL_ok w q _ _ x H'.out).mono ?_
      rintro e w1 ⟨rfl, rfl⟩
      obtain ⟨y, hy⟩ : ∃ y, y = m'.contains x := ⟨_, rfl⟩
      rw [← hy] at ES ⊢
      cases y with
      | true =>
        clear hy
        go_wp2
        go_roundw
        all_goals first
          | exact ⟨k + 1, by omega, by go_num, ES.out, by first | rfl | trivial⟩
          | ((repeat apply Exists.intro); exact ⟨⟨k + 1, by omega, by go_num, ES.out, by first | rfl | trivial⟩, rfl⟩)
          | (simp [intOf] <;> omega)
      | false =>
        have HF : Hid (r = false) := by
          show _ = _
          rw [HR.out]
          cases e : m.all fun x => m'.contains x with
          | false => rfl
          | true =>
            have := List.all_eq_true.1 e x (List.mem_of_getElem? HX.out)
            rw [← hy] at this
            cases this
        clear hy
        go_wp2
        go_ret
        exact ⟨by rw [HF.out]; rfl, rfl⟩
    · obtain rfl : k = m.length := by omega
      have HF : Hid (r = true) := by
        show _ = _
        rw [HR.out]
        have := hq.out
        rwa [List.take_length] at this
      clear hlt
      go_wp2
      go_ret
      exact ⟨by rw [HF.out]; rfl, rfl⟩
theorem shares_ok (w : World) (p q : Nat) (v v' : Value) (m m' : List Int) (h : SlX tI p w v m) (h' : SlX tI q w v' m') :
    Calls Try.prog 39 #[v, v'] w fun e w' => e = .returned (.bool (m.any fun x => m'.contains x)) ∧ w' = w := by
  obtain ⟨r, hr⟩ : ∃ r, r = m.any fun x => m'.contains x := ⟨_, rfl⟩
  rw [← hr]
  have HR := Lib.hid hr
  obtain ⟨a0, cap, rfl, h1, h2⟩ := h.form
  have H := Lib.hid h
  have H' := Lib.hid h'
  unfold maxLen at h2
  clear h h' hr
  go_enter Try.func39, Try.ntmps39
  go_wp2
  go_loopw [5] (fun t wr => ∃ k : Nat, k ≤ m.length ∧ t = .int .i64 (k : Int) ∧ Hid ((m.take k).any (fun x => m'.contains x) = false) ∧ w = wr) (fun t _ => m.length - (intOf t).toNat)
  case atStart => exact ⟨0, by omega, rfl, rfl, rfl⟩
  case round =>
    obtain ⟨k, hk, rfl, hq, rfl⟩ := hrel
    by_cases hlt : k < m.length
    · have hlt' : (k : Int) < (m.length : Int) := by omega
      have hk0 : (0 : Int) ≤ (k : Int) := by omega
      obtain ⟨x, hx⟩ : ∃ x, m[k]? = some x := ⟨_, List.getElem?_eq_getElem hlt⟩
      obtain ⟨b, o, rfl, _, _, c⟩ := SlX.int H.out hx
      have ES : Hid ((m.take (k + 1)).any (fun x => m'.contains x) = m'.contains x) := by
        show _ = _
        rw [List.take_add_one, hx, List.any_append, hq.out]
        simp
      have HX := Lib.hid hx
      clear hx
      go_wp2_with fail
      refine (hasL_ok w q _ _ x H'.out).mono ?_
      rintro e w1 ⟨rfl, rfl⟩
      obtain ⟨y, hy⟩ : ∃ y, y = m'.contains x := ⟨_, rfl⟩
      rw [← hy] at ES ⊢
      cases y with
      | false =>
        clear hy
        go_wp2
        go_roundw
        all_goals first
          | exact ⟨k + 1, by omega, by go_num, ES.out, by first | rfl | trivial⟩
          | ((repeat apply Exists.intro); exact ⟨⟨k + 1, by omega, by go_num, ES.out, by first | rfl | trivial⟩, rfl⟩)
          | (simp [intOf] <;> omega)
      | true =>
        have HF : Hid (r = true) := by
          show _ = _
          rw [HR.out, List.any_eq_true]
          exact ⟨x, List.mem_of_getElem? HX.out, hy.symm⟩
        clear hy
        go_wp2
        go_ret
        exact ⟨by rw [HF.out]; rfl, rfl⟩
    · obtain rfl : k = m.length := by omega
      have HF : Hid (r = false) := by
        show _ = _
        rw [HR.out]
        have := hq.out
        rwa [List.take_length] at this
      clear hlt
      go_wp2
      go_ret
      exact ⟨by rw [HF.out]; rfl, rfl⟩
/-- A loop's blocks, as the flow tells them. -/
noncomputable def loL (l : List In) (h : Nat) : List Int := nI (ins (lpB l h) (nB l))
theorem loL_has {l : List In} {h x : Nat} (hx : x < nB l) : (loL l h).contains (x : Int) = lpB l h x := ins_contains _ _ _ hx
theorem closed_ok (w : World) (p q : Nat) (v s : Value) (l : List In) (g : G7 l) (h : Nat) (pa : Int) (hD : Bd p w v (dB l)) (hS : SlX tI q w s (loL l h)) :
    Calls Try.prog 37 #[v, .agg #[.int .i64 (h : Int), s, .int .i64 pa]] w fun e w' => e = .returned (.bool true) ∧ Below w.heap.size w w' := by
  obtain ⟨ab, cb, rfl, h5, h6⟩ := hD.form
  obtain ⟨sa, cs, rfl, h7, h8⟩ := hS.form
  rw [dB_len] at h5 hD
  rw [dB_len]
  obtain ⟨n, hn⟩ : ∃ n, n = (loL l h).length := ⟨_, rfl⟩
  rw [← hn] at hS h7 ⊢
  have HD := Lib.hid hD
  have HS := Lib.hid hS
  have HG := Lib.hid g
  have hpN : 0 < nB l := g.pos
  have hn5 : nB l ≤ 512 := g.n512
  unfold maxLen at h6 h8
  clear hD hS hn g
  go_enter Try.func37, Try.ntmps37
  go_upto_region 1 with (fail)
  generalize hW : w.alloc (.cells #[.int .i64 (h : Int), .slice sa n cs, .int .i64 pa] 60) = W
  obtain ⟨z, hz⟩ : ∃ z, z = w.heap.size := ⟨_, rfl⟩
  rw [← hz]
  have bW : Below w.heap.size w W := by rw [← hW]; exact bAl (bRefl w) _
  have pW : Blk W z 60 #[.int .i64 (h : Int), .slice sa n cs, .int .i64 pa] := by rw [← hW, hz]; exact Blk.new _ _ _
  have d0 : W.cell? ⟨z, 0, none⟩ = some (.int .i64 (h : Int)) := pW.cell 0
  have d1 : W.cell? ⟨z, 1, none⟩ = some (.slice sa n cs) := pW.cell 1
  have HB := Lib.hid bW
  have HDW := Lib.hid (HD.out.below bW)
  have HSW := Lib.hid (HS.out.below bW)
  clear hW hz bW pW
  go_wp2
  go_loopw [5] (fun t wr => ∃ u : Nat, u ≤ nB l ∧ t = .int .i64 (u : Int) ∧ W = wr) (fun t _ => nB l - (intOf t).toNat)
  case atStart => exact ⟨0, by omega, rfl, rfl⟩
  case round =>
    obtain ⟨u, hu, rfl, rfl⟩ := hrel
    by_cases hut : u < nB l
    · have hut' : (u : Int) < (nB l : Int) := by omega
      have hu0 : (0 : Int) ≤ (u : Int) := by omega
      obtain ⟨bb, off, an, cn, rfl, _, _, c2, hnx, _⟩ := HDW.out.get (dB_get hut)
      simp only at c2 hnx
      rw [nI_len] at c2 hnx
      have HNX := Lib.hid hnx
      have HU := Lib.hid (loL_has (l := l) (h := h) hut)
      have hx2 := nxt_two l u
      clear hnx
      go_wp2
      go_loopw [6] (fun t wr => ∃ k : Nat, k ≤ (nxt l u).length ∧ t = .int .i64 (k : Int) ∧ W = wr) (fun t _ => (nxt l u).length - (intOf t).toNat)
      case atStart => exact ⟨0, by omega, rfl, rfl⟩
      case round =>
        obtain ⟨k, hk, rfl, rfl⟩ := hrel
        by_cases hkt : k < (nxt l u).length
        · have hkt' : (k : Int) < ((nxt l u).length : Int) := by omega
          have hk0 : (0 : Int) ≤ (k : Int) := by omega
          obtain ⟨y, hy⟩ : ∃ y, (nxt l u)[k]? = some y := ⟨_, List.getElem?_eq_getElem hkt⟩
          have hym := List.mem_of_getElem? hy
          have hyn := HG.out.nlt u hut y hym
          obtain ⟨bv, ov, rfl, _, _, cv⟩ := SlX.int HNX.out (show (nI (nxt l u))[k]? = some (y : Int) by unfold nI; rw [List.getElem?_map, hy]; rfl)
          have HY := Lib.hid (loL_has (l := l) (h := h) hyn)
          have HB2 := Lib.hid (show lpB l h u = false → lpB l h y = true → y = h from fun h1 h2 => by
            apply Classical.byContradiction
            intro hne
            rw [lpB_iff.2 (Lp.back (lpB_iff.1 h2) hne hut hym)] at h1
            cases h1)
          clear hy hym
          go_wp2_with fail
          refine (hasL_ok W q _ _ (u : Int) HSW.out).mono ?_
          rintro e w1 ⟨rfl, rfl⟩
          rw [HU.out]
          obtain ⟨W, rfl⟩ : ∃ x : World, x = w1 := ⟨_, rfl⟩
          cases e1 : lpB l h u with
          | true =>
            clear e1
            go_wp2
            go_roundw
            all_goals first
              | exact ⟨k + 1, by omega, by go_num, by first | rfl | trivial⟩
              | ((repeat apply Exists.intro); exact ⟨⟨k + 1, by omega, by go_num, by first | rfl | trivial⟩, rfl⟩)
              | (simp [intOf] <;> omega)
          | false =>
            have HB3 := Lib.hid (HB2.out e1)
            clear e1
            go_wp2_with fail
            refine (hasL_ok W q _ _ (y : Int) HSW.out).mono ?_
            rintro e w1 ⟨rfl, rfl⟩
            rw [HY.out]
            obtain ⟨W, rfl⟩ : ∃ x : World, x = w1 := ⟨_, rfl⟩
            cases e1 : lpB l h y with
            | false =>
              clear e1
              go_wp2
              go_roundw
              all_goals first
                | exact ⟨k + 1, by omega, by go_num, by first | rfl | trivial⟩
                | ((repeat apply Exists.intro); exact ⟨⟨k + 1, by omega, by go_num, by first | rfl | trivial⟩, rfl⟩)
                | (simp [intOf] <;> omega)
            | true =>
              obtain rfl := HB3.out e1
              clear e1
              go_wp2
              go_roundw
              all_goals first
                | exact ⟨k + 1, by omega, by go_num, by first | rfl | trivial⟩
                | ((repeat apply Exists.intro); exact ⟨⟨k + 1, by omega, by go_num, by first | rfl | trivial⟩, rfl⟩)
                | (simp [intOf] <;> omega)
        · obtain rfl : k = (nxt l u).length := by omega
          clear hkt
          go_wp2
          go_roundw
          all_goals first
            | exact ⟨u + 1, by omega, by go_num, by first | rfl | trivial⟩
            | ((repeat apply Exists.intro); exact ⟨⟨u + 1, by omega, by go_num, by first | rfl | trivial⟩, rfl⟩)
            | (simp [intOf] <;> omega)
    · obtain rfl : u = nB l := by omega
      clear hut
      go_wp2
      go_ret
      exact ⟨rfl, HB.out⟩
end Go.Proofs.Ytlhehphikkgobaa
