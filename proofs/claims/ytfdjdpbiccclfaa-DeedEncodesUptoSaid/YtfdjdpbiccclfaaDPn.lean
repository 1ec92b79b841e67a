/- plain of deed: what it answers. -/
import Derived.Test.YtfdjdpbiccclfaaDDd
namespace Go.Proofs.Ytfdjdpbiccclfaa
open Go Go.RowKit Go.Wr
set_option maxHeartbeats 4000000
set_option maxRecDepth 100000

theorem lpv_range {w : World} {b o : Nat} {x : Lp} (h : w.rangeAt b o (lpv x).toList) : w.cell? ⟨b, o, none⟩ = some (.int .i64 x.h) ∧ w.cell? ⟨b, o + 1, none⟩ = some (.int .i64 x.a) ∧ w.cell? ⟨b, o + 2, none⟩ = some (.int .i64 x.b) ∧ w.cell? ⟨b, o + 3, none⟩ = some (.int .i64 x.k) ∧ w.cell? ⟨b, o + 4, none⟩ = some (.int .i64 x.d) :=
  ⟨h 0 _ rfl, h 1 _ rfl, h 2 _ rfl, h 3 _ rfl, h 4 _ rfl⟩
theorem goodLs_drop {l : List Lp} {k : Nat} {x : Lp} (h : l[k]? = some x) : goodLs (l.drop k) = if goodLoop x = true then goodLs (l.drop (k + 1)) else 113 := by
  obtain ⟨hk, rfl⟩ := List.getElem?_eq_some_iff.1 h
  rw [List.drop_eq_getElem_cons hk]
  rfl
theorem goodCs_drop {l : List Cl} {k : Nat} {x : Cl} (h : l[k]? = some x) : goodCs (l.drop k) = if goodClaim x.d x.f x.l = 0 then goodCs (l.drop (k + 1)) else goodClaim x.d x.f x.l := by
  obtain ⟨hk, rfl⟩ := List.getElem?_eq_some_iff.1 h
  rw [List.drop_eq_getElem_cons hk]
  rfl

/-- A load of a whole claim out of a slice. -/
theorem wpl_loadR {ops : Array Oper} {rest : List Oper} {op : Oper} {a : Act} {w : World} {Q : Exit → Act → World → Prop} (hgd : op.guard = none) (ty : TypeId) (x : Operand) (ho : op.op = .load ty x)
    (b o : Nat) (hx : a.eval x = .pointer (some ⟨b, o, none⟩)) {D : Array Value} (hc : w.rangeAt b o D.toList) {n : Nat} (hr : RowTy Try.prog ty n) (hn : D.size = n)
    (h : wpList Try.prog ops Q rest (a.put op.dst (.agg D)) w) : wpList Try.prog ops Q (op :: rest) a w := by
  obtain ⟨d, hu, hd, hi⟩ := hr
  exact wpList_load_mid hgd ty x ho b o hx D.toList d hc hu hd (by rw [hi]; simp; omega) (by rw [Array.toArray_toList]; exact h)

theorem plain_ok (w : World) (vl vc : Value) (d : Dd) (h : SlD w.heap.size w vl vc d) :
    Calls Try.prog 29 #[.agg #[vl, vc]] w fun e w' => e = .returned (.int .i64 (plainD d)) ∧ Below w.heap.size w w' := by
  obtain ⟨⟨al, capl, rfl, hl⟩, ⟨ac, capc, rfl, hcl⟩, nl, nc, nb⟩ := h
  obtain ⟨ls, cs⟩ := d
  simp only at hl hcl nl nc nb ⊢
  obtain ⟨R, hR⟩ : ∃ R, R = plainD ⟨ls, cs⟩ := ⟨_, rfl⟩
  rw [← hR]
  unfold plainD at hR
  simp only at hR
  have HR := Lib.hid hR
  have HL := Lib.hid hl
  have HC := Lib.hid hcl
  have NB := Lib.hid nb
  clear hR hl hcl nb
  by_cases h1 : 8 < ls.length
  · have h1' : (8 : Int) < (ls.length : Int) := by omega
    go_enter Try.func29, Try.ntmps29
    go_wp2
    go_ret
    exact ⟨by rw [HR.out, if_pos (Or.inl h1)]; rfl, bAl (bRefl w) _⟩
  · have h1' : ¬ (8 : Int) < (ls.length : Int) := by omega
    by_cases h2 : 512 < cs.length
    · have h2' : (512 : Int) < (cs.length : Int) := by omega
      go_enter Try.func29, Try.ntmps29
      go_wp2
      go_ret
      exact ⟨by rw [HR.out, if_pos (Or.inr h2)]; rfl, bAl (bRefl w) _⟩
    · have h2' : ¬ (512 : Int) < (cs.length : Int) := by omega
      have HR2 : Hid (R = if goodLs ls = 0 then goodCs cs else 113) := by
        show _ = _
        rw [HR.out, if_neg (by omega)]
      clear HR
      go_enter Try.func29, Try.ntmps29
      go_wp2
      go_loopw [21] (fun t wr => ∃ k : Nat, k ≤ ls.length ∧ t = .int .i64 k ∧ Hid (goodLs ls = goodLs (ls.drop k)) ∧ Below w.heap.size w wr ∧ Blk wr w.heap.size 26 #[.slice al ls.length capl, .slice ac cs.length capc]) (fun t _ => ls.length - (intOf t).toNat)
      case atStart => exact ⟨0, by omega, rfl, rfl, bAl (bRefl w) _, Blk.new _ _ _⟩
      case round =>
        obtain ⟨k, hk, rfl, he, hbel, hblk⟩ := hrel
        by_cases hlt : k < ls.length
        · have hlt' : (k : Int) < (ls.length : Int) := by omega
          obtain ⟨x, hx⟩ : ∃ x, ls[k]? = some x := ⟨_, List.getElem?_eq_getElem hlt⟩
          obtain ⟨bb, off, rfl, hbb, hra⟩ := HL.out k x hx
          obtain ⟨g0, g1, g2, g3, g4⟩ := lpv_range (rangeAt_below hra hbel hbb)
          have hs := goodLs_drop hx
          rw [← he.out] at hs
          have HS := Lib.hid hs
          have HB := Lib.hid hblk
          have hbl := hblk.lt
          clear hx hra hs he hblk
          go_wp2_with fail
          have t1 := bAl hbel (.cells (lpv x) 54)
          refine (goodloop_ok _ x).mono ?_
          rintro e w1 ⟨rfl, b1⟩
          have t2 := bThen t1 b1
          have B2 := Lib.hid ((HB.out.alloc (.cells (lpv x) 54)).below b1 (HB.out.alloc _).lt)
          clear b1
          cases hg : goodLoop x with
          | false =>
            have e1 : Hid (R = 113) := by
              show _ = _
              rw [HR2.out, HS.out, hg]
              simp
            go_wp2
            go_ret
            exact ⟨by rw [e1.out]; rfl, t2⟩
          | true =>
            have e1 : Hid (goodLs ls = goodLs (ls.drop (k + 1))) := by
              show _ = _
              rw [HS.out, hg, if_pos rfl]
            go_wp2
            go_roundw
            all_goals first
              | exact ⟨k + 1, by omega, by go_num, e1, t2, B2.out⟩
              | ((repeat apply Exists.intro); exact ⟨⟨k + 1, by omega, by go_num, e1, t2, B2.out⟩, rfl⟩)
              | (simp [intOf]; omega)
        · obtain rfl : k = ls.length := by omega
          have HR3 : Hid (R = goodCs cs) := by
            show _ = _
            have := he.out
            rw [List.drop_length] at this
            rw [HR2.out, this]
            rfl
          have c1 := hblk.cell 1
          simp only [List.getElem?_toArray, List.getElem?_cons_zero, List.getElem?_cons_succ] at c1
          clear HR2 he hlt hk hblk
          go_wp2
          go_loopw [32] (fun t wq => ∃ k : Nat, k ≤ cs.length ∧ t = .int .i64 k ∧ Hid (goodCs cs = goodCs (cs.drop k)) ∧ Below w.heap.size w wq) (fun t _ => cs.length - (intOf t).toNat)
          case atStart => exact ⟨0, by omega, rfl, rfl, hbel⟩
          case round =>
            clear hbel
            obtain ⟨k, hk, rfl, he, hbel⟩ := hrel
            by_cases hlt : k < cs.length
            · have hlt' : (k : Int) < (cs.length : Int) := by omega
              obtain ⟨x, hx⟩ : ∃ x, cs[k]? = some x := ⟨_, List.getElem?_eq_getElem hlt⟩
              obtain ⟨bb, off, vx, rfl, hbb, hra, hsl⟩ := HC.out k x hx
              have hs := goodCs_drop hx
              rw [← he.out] at hs
              have HS := Lib.hid hs
              have HRA := Lib.hid (rangeAt_below hra hbel hbb)
              have hv1 : vx.oneCell' = true := by obtain ⟨_, _, rfl, _⟩ := hsl; rfl
              have hsl' := Lib.hid (hsl.below hbel)
              have hnb := NB.out x (List.mem_of_getElem? hx)
              have hsz := hbel.size
              have HV := Lib.hid (goodClaim_vals x.d x.f x.l)
              clear hx hra hs he hsl c1
              go_upto_region 12 with (first
                | (refine wpl_loadR rfl 61 (.tmp 34) rfl bb (off + k * 128) rfl HRA.out rowClaim (bx_size _ _ _) ?_)
                | (refine wpl_store rfl 61 (.tmp 6) (.tmp 35) rfl wr.heap.size 0 rfl rfl (Blk.new wr _ _) rowClaim (bx_size _ _ _) (of_decide_eq_true (by kernel_rfl)) (bx_one _ rfl hv1) ?_; intro wn hO hN))
              rw [spl_all _ _ (by rw [bx_size]; kernel_rfl)] at hN
              have hn1 : wr.heap.size + 1 = wn.heap.size := by rw [hO.size]; simp
              have t1 : Below w.heap.size w wn := (bAl hbel _).trans (hO.below hsz)
              have hslN := Lib.hid ((hsl'.out.below ((Below.refl _ _).alloc hsz _ |>.trans (hO.below hsz))).mono (show w.heap.size ≤ wn.heap.size by omega))
              have HN := Lib.hid hN
              clear hN hO
              go_wp2_with (refine wpl_load rfl 61 (.tmp 6) rfl wr.heap.size 0 rfl HN.out rowClaim (by rw [bx_size]; omega) (bx_all _ _ _) ?_)
              refine (goodclaim_any wn x.d x.f vx x.l hslN.out hnb).mono ?_
              rintro e w1 ⟨rfl, b1⟩
              have t2 := bThen t1 b1
              clear b1
              by_cases hg : goodClaim x.d x.f x.l = 0
              · have e1 : Hid (goodCs cs = goodCs (cs.drop (k + 1))) := by
                  show _ = _
                  rw [HS.out, if_pos hg]
                rw [hg]
                clear hg
                go_wp2
                go_roundw
                all_goals first
                  | exact ⟨k + 1, by omega, by go_num, e1, t2⟩
                  | ((repeat apply Exists.intro); exact ⟨⟨k + 1, by omega, by go_num, e1, t2⟩, rfl⟩)
                  | (simp [intOf]; omega)
              · have e1 : Hid (R = goodClaim x.d x.f x.l) := by
                  show _ = _
                  rw [HR3.out, HS.out, if_neg hg]
                have hr : goodClaim x.d x.f x.l = R := e1.out.symm
                rw [hr] at hg ⊢
                clear hr
                go_wp2
                go_ret
                exact ⟨rfl, t2⟩
            · obtain rfl : k = cs.length := by omega
              have e0 : Hid (R = 0) := by
                show _ = _
                have := he.out
                rw [List.drop_length] at this
                rw [HR3.out, this]
                rfl
              clear he
              go_wp2
              go_ret
              exact ⟨by rw [e0.out]; rfl, hbel⟩
end Go.Proofs.Ytfdjdpbiccclfaa
