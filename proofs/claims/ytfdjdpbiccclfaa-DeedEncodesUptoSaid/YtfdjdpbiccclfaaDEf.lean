/- Plain of the document: it answers as deed's plain. (cut by hand out of XDPn) -/
import Derived.Test.YtfdjdpbiccclfaaDEb
namespace Go.Proofs.Ytfdjdpbiccclfaa
open Go Go.RowKit Go.Wr
set_option maxHeartbeats 4000000
set_option maxRecDepth 100000

theorem rclaim_any (w : World) (d : Bool) (f : Nat → Tg) (v : Value) (l : List C3) (hv : SlC w.heap.size w v l) (hll : l.length ≤ 140737488351232) :
    Calls Try.prog 52 #[.agg (bx (.bool d) f v)] w fun e w' => e = .returned (.int .i64 (goodClaim d f l)) ∧ Below w.heap.size w w' := by
  cases d with
  | true => exact rclaim_dead w f v l hv
  | false => exact rclaim_live w f v l hv hll
theorem rplain_ok (w : World) (vl vc : Value) (d : Dd) (h : SlD w.heap.size w vl vc d) :
    Calls Try.prog 33 #[.agg #[vl, vc]] w fun e w' => e = .returned (.int .i64 (plainD d)) ∧ Below w.heap.size w w' := by
  obtain ⟨⟨al, capl, rfl, hl⟩, ⟨ac, capc, rfl, hcl⟩, nl, nc, nb⟩ := h
  obtain ⟨ls, cs⟩ := d
  simp only at hl hcl nl nc nb ⊢
  obtain ⟨R, hR⟩ : ∃ R, R = plainD ⟨ls, cs⟩ := ⟨_, rfl⟩
  rw [← hR]
  unfold plainD at hR
  simp only at hR
  have HR := Lib.hid hR
  have HL := Lib.hid hl
  have HC := Lib.hid hcl
  have NB := Lib.hid nb
  clear hR hl hcl nb
  by_cases h1 : 8 < ls.length
  · have h1' : (8 : Int) < (ls.length : Int) := by omega
    go_enter Try.func33, Try.ntmps33
    go_wp2
    go_ret
    exact ⟨by rw [HR.out, if_pos (Or.inl h1)]; rfl, bAl (bRefl w) _⟩
  · have h1' : ¬ (8 : Int) < (ls.length : Int) := by omega
    by_cases h2 : 512 < cs.length
    · have h2' : (512 : Int) < (cs.length : Int) := by omega
      go_enter Try.func33, Try.ntmps33
      go_wp2
      go_ret
      exact ⟨by rw [HR.out, if_pos (Or.inr h2)]; rfl, bAl (bRefl w) _⟩
    · have h2' : ¬ (512 : Int) < (cs.length : Int) := by omega
      have HR2 : Hid (R = if goodLs ls = 0 then goodCs cs else 113) := by
        show _ = _
        rw [HR.out, if_neg (by omega)]
      clear HR
      go_enter Try.func33, Try.ntmps33
      go_wp2
      go_loopw [3] (fun t wr => ∃ k : Nat, k ≤ ls.length ∧ t = .int .i64 k ∧ Hid (goodLs ls = goodLs (ls.drop k)) ∧ Below w.heap.size w wr ∧ Blk wr w.heap.size 26 #[.slice al ls.length capl, .slice ac cs.length capc]) (fun t _ => ls.length - (intOf t).toNat)
      case atStart => exact ⟨0, by omega, rfl, rfl, bAl (bRefl w) _, Blk.new _ _ _⟩
      case round =>
        obtain ⟨k, hk, rfl, he, hbel, hblk⟩ := hrel
        have c0 := hblk.cell 0
        have hbl := hblk.lt
        simp only [List.getElem?_toArray, List.getElem?_cons_zero] at c0
        by_cases hlt : k < ls.length
        · have hlt' : (k : Int) < (ls.length : Int) := by omega
          obtain ⟨x, hx⟩ : ∃ x, ls[k]? = some x := ⟨_, List.getElem?_eq_getElem hlt⟩
          obtain ⟨bb, off, rfl, hbb, hra⟩ := HL.out k x hx
          obtain ⟨g0, g1, g2, g3, g4⟩ := lpv_range (rangeAt_below hra hbel hbb)
          have hs := goodLs_drop hx
          rw [← he.out] at hs
          have HS := Lib.hid hs
          have HB := Lib.hid hblk
          clear hx hra hs he hblk
          go_wp2_with fail
          refine (rloop_ok _ x).mono ?_
          rintro e w1 ⟨rfl, b1⟩
          have t2 := bThen hbel b1
          have B2 := Lib.hid (HB.out.below b1 hbl)
          clear b1
          cases hg : goodLoop x with
          | false =>
            have e1 : Hid (R = 113) := by
              show _ = _
              rw [HR2.out, HS.out, hg]
              simp
            go_wp2
            go_ret
            exact ⟨by rw [e1.out]; rfl, t2⟩
          | true =>
            have e1 : Hid (goodLs ls = goodLs (ls.drop (k + 1))) := by
              show _ = _
              rw [HS.out, hg, if_pos rfl]
            go_wp2
            go_roundw
            all_goals first
              | exact ⟨k + 1, by omega, by go_num, e1, t2, B2.out⟩
              | ((repeat apply Exists.intro); exact ⟨⟨k + 1, by omega, by go_num, e1, t2, B2.out⟩, rfl⟩)
              | (simp [intOf]; omega)
        · obtain rfl : k = ls.length := by omega
          have HR3 : Hid (R = goodCs cs) := by
            show _ = _
            have := he.out
            rw [List.drop_length] at this
            rw [HR2.out, this]
            rfl
          have HBK := Lib.hid hblk
          have c1 := hblk.cell 1
          simp only [List.getElem?_toArray, List.getElem?_cons_zero, List.getElem?_cons_succ] at c1
          clear HR2 he hlt hk hblk
          go_wp2
          go_loopw [4] (fun t wq => ∃ k : Nat, k ≤ cs.length ∧ t = .int .i64 k ∧ Hid (goodCs cs = goodCs (cs.drop k)) ∧ Below w.heap.size w wq ∧ Blk wq w.heap.size 26 #[.slice al ls.length capl, .slice ac cs.length capc]) (fun t _ => cs.length - (intOf t).toNat)
          case atStart => exact ⟨0, by omega, rfl, rfl, hbel, HBK.out⟩
          case round =>
            clear hbel HBK
            obtain ⟨k, hk, rfl, he, hbel, hblk⟩ := hrel
            have c1 := hblk.cell 1
            have hbl := hblk.lt
            simp only [List.getElem?_toArray, List.getElem?_cons_zero, List.getElem?_cons_succ] at c1
            have HB := Lib.hid hblk
            clear hblk
            by_cases hlt : k < cs.length
            · have hlt' : (k : Int) < (cs.length : Int) := by omega
              obtain ⟨x, hx⟩ : ∃ x, cs[k]? = some x := ⟨_, List.getElem?_eq_getElem hlt⟩
              obtain ⟨bb, off, vx, rfl, hbb, hra, hsl⟩ := HC.out k x hx
              have hs := goodCs_drop hx
              rw [← he.out] at hs
              have HS := Lib.hid hs
              have HRA := Lib.hid (rangeAt_below hra hbel hbb)
              have hslr := Lib.hid ((hsl.below hbel).mono hbel.size)
              have hnb := NB.out x (List.mem_of_getElem? hx)
              clear hx hra hs he hsl
              go_wp2_with (refine wpl_loadR rfl 61 (.tmp 40) rfl bb (off + k * 128) rfl HRA.out rowClaim (bx_size _ _ _) ?_)
              refine (rclaim_any wr x.d x.f vx x.l hslr.out hnb).mono ?_
              rintro e w1 ⟨rfl, b1⟩
              have t2 := bThen hbel b1
              have B2 := Lib.hid (HB.out.below b1 hbl)
              clear b1
              by_cases hg : goodClaim x.d x.f x.l = 0
              · have e1 : Hid (goodCs cs = goodCs (cs.drop (k + 1))) := by
                  show _ = _
                  rw [HS.out, if_pos hg]
                rw [hg]
                clear hg
                go_wp2
                go_roundw
                all_goals first
                  | exact ⟨k + 1, by omega, by go_num, e1, t2, B2.out⟩
                  | ((repeat apply Exists.intro); exact ⟨⟨k + 1, by omega, by go_num, e1, t2, B2.out⟩, rfl⟩)
                  | (simp [intOf]; omega)
              · have e1 : Hid (R = goodClaim x.d x.f x.l) := by
                  show _ = _
                  rw [HR3.out, HS.out, if_neg hg]
                have hr : goodClaim x.d x.f x.l = R := e1.out.symm
                rw [hr] at hg ⊢
                clear hr
                go_wp2
                go_ret
                exact ⟨rfl, t2⟩
            · obtain rfl : k = cs.length := by omega
              have e0 : Hid (R = 0) := by
                show _ = _
                have := he.out
                rw [List.drop_length] at this
                rw [HR3.out, this]
                rfl
              clear he
              go_wp2
              go_ret
              exact ⟨by rw [e0.out]; rfl, hbel⟩
end Go.Proofs.Ytfdjdpbiccclfaa
