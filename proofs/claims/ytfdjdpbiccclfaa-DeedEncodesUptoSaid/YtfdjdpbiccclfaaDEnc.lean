/- Encode of deed: its bytes in a new row, or why there are none. -/
import Derived.Test.YtfdjdpbiccclfaaDPn
import Derived.Test.YtfdjdpbiccclfaaDPlc
import Derived.Lib.SlBytesConst
namespace Go.Proofs.Ytfdjdpbiccclfaa
open Go Go.RowKit Go.Wr
set_option maxHeartbeats 4000000
set_option maxRecDepth 100000

/-- What Encode leaves: bytes in a row of its own, an error's number. -/
def EncP (d : Dd) (w : World) (e : Ending) (w' : World) : Prop :=
  Below w.heap.size w w' ∧ ∃ v, e = .returned (.tuple #[v, .int .i64 (encE d)]) ∧ w'.ownsRow w.heap.size 5 1 v (encD d).length (bcells (encD d))
theorem owns_nil (w : World) (B : Nat) : w.ownsRow B 5 1 (.slice none 0 0) 0 (bcells []) := ⟨rfl, Or.inl ⟨rfl, rfl⟩⟩

theorem enc_bad (w : World) (vl vc : Value) (d : Dd) (h : SlD w.heap.size w vl vc d) (hp : plainD d ≠ 0) :
    Calls Try.prog 13 #[.agg #[vl, vc]] w (EncP d w) := by
  have H := Lib.hid h
  have he : encE d = plainD d := by unfold encE; rw [if_neg hp]
  have hd : encD d = [] := by unfold encD; rw [if_neg (by rw [he]; exact hp)]
  have HE := Lib.hid he
  have HD := Lib.hid hd
  clear h he hd
  go_enter Try.func13, Try.ntmps13
  go_wp2_with fail
  refine (plain_ok _ vl vc d ((H.out.below (bAl (bRefl w) _)).mono (by simp))).mono ?_
  rintro e w1 ⟨rfl, b1⟩
  have t1 := bThen (bAl (bRefl w) _) b1
  clear b1
  go_wp2
  go_ret2
  refine ⟨t1, .slice none 0 0, ?_, ?_⟩
  · rw [HE.out]; rfl
  · rw [HD.out]; exact owns_nil _ _
theorem loopsB_succ {l : List Lp} {k : Nat} {x : Lp} (h : l[k]? = some x) : loopsB (l.take (k + 1)) = loopsB (l.take k) ++ loopB x := by
  rw [List.take_add_one, h]
  simp [loopsB]
theorem claimsB_succ {l : List Cl} {k : Nat} {x : Cl} (h : l[k]? = some x) : claimsB (l.take (k + 1)) = claimsB (l.take k) ++ claimB x.d x.f x.l := by
  rw [List.take_add_one, h]
  simp [claimsB]
theorem leb_pos (k x : Nat) : 0 < (leb k x).length := by
  cases k with
  | zero => simp [leb]
  | succ k => unfold leb; split <;> simp
theorem loopB_len (x : Lp) : (loopB x).length ≤ 50 := by
  unfold loopB
  have h1 := leb_len 9 x.h.toNat
  have h2 := leb_len 9 x.a.toNat
  have h3 := leb_len 9 x.b.toNat
  have h4 := leb_len 9 (sg x.k)
  have h5 := leb_len 9 x.d.toNat
  simp only [List.length_append]
  omega
theorem loopsB_len (l : List Lp) : (loopsB l).length ≤ 50 * l.length := by
  induction l with
  | nil => simp [loopsB]
  | cons x l ih =>
    have := loopB_len x
    simp only [loopsB, List.flatMap_cons, List.length_append, List.length_cons] at ih ⊢
    omega
theorem claimsB_len (l : List Cl) (h : ∀ x ∈ l, x.l.length ≤ 3540) : (claimsB l).length ≤ 50000 * l.length := by
  induction l with
  | nil => simp [claimsB]
  | cons x l ih =>
    have h1 := claimB_len x.d x.f x.l
    have h2 := h x (by simp)
    have h3 := ih fun y hy => h y (by simp [hy])
    simp only [claimsB, List.flatMap_cons, List.length_append, List.length_cons] at h3 ⊢
    omega

theorem enc_good (w : World) (vl vc : Value) (d : Dd) (h : SlD w.heap.size w vl vc d) (hp : plainD d = 0) :
    Calls Try.prog 13 #[.agg #[vl, vc]] w (EncP d w) := by
  have H := Lib.hid h
  obtain ⟨n8, n512, gl, gc⟩ := plainD_all hp
  obtain ⟨ls, cs⟩ := d
  obtain ⟨⟨al, capl, rfl, hl⟩, ⟨ac, capc, rfl, hcl⟩, nl, nc, nb⟩ := h
  simp only at n8 n512 gl gc hl hcl
  have HL := Lib.hid hl
  have HC := Lib.hid hcl
  have GL := Lib.hid gl
  have GC := Lib.hid gc
  have HP := Lib.hid hp
  have hll : Hid (∀ x ∈ cs, x.l.length ≤ 3540) := fun x hx => (goodClaim_iff.1 (gc x hx)).len
  clear hl hcl nl nc nb gl gc hp
  have kc := fun (w : World) (C : Array Value) (n c : Nat) => Lib.run_convert_bytes_const (P := Try.prog) w 28 5 C n c Try.underlying28 Try.underlying5
  go_enter Try.func13, Try.ntmps13
  go_wp2_with fail
  refine (plain_ok _ _ _ ⟨ls, cs⟩ ((H.out.below (bAl (bRefl w) _)).mono (by simp))).mono ?_
  rintro e w1 ⟨rfl, b1⟩
  have t1 := bThen (bAl (bRefl w) _) b1
  have DB := (Blk.new w 26 #[.slice al ls.length capl, .slice ac cs.length capc]).below b1 (Blk.new w _ _).lt
  rw [HP.out]
  have hs1 := b1.size
  simp only [World.size_alloc] at hs1
  clear b1
  have HDB := Lib.hid DB
  clear DB H
  go_upto_region 5 with (fail)
  generalize hW : ((w1.alloc (.cells #[.int .u8 87, .int .u8 65, .int .u8 82, .int .u8 49] 5 (4, 5))).alloc (.cells #[.slice (some ⟨w1.heap.size, 0, none⟩) 4 4] 72)) = W
  obtain ⟨p, hp⟩ : ∃ p, p = w1.heap.size + 1 := ⟨_, rfl⟩
  rw [← hp]
  have hp1 : w1.heap.size + 1 ≤ p ∧ p ≤ w1.heap.size + 1 := by omega
  clear hp
  have q0 : CW w.heap.size p w.heap.size w 26 #[.slice al ls.length capl, .slice ac cs.length capc] [87, 65, 82, 49] W := by
    rw [← hW]
    refine ⟨⟨w1.heap.size, 4, #[.int .u8 87, .int .u8 65, .int .u8 82, .int .u8 49], (4, 5), Blk.new_at _ _ (by simp; omega), ?_, by omega, by omega, by simp, by decide, rfl, rfl, Or.inr ⟨rfl, rfl⟩⟩, Fr.of_below (bAl (bAl t1 _) _), (HDB.out.alloc _).alloc _⟩
    have h1 : (w1.alloc (.cells #[.int .u8 87, .int .u8 65, .int .u8 82, .int .u8 49] 5 (4, 5))).heap[w1.heap.size]? = some (.cells #[.int .u8 87, .int .u8 65, .int .u8 82, .int .u8 49] 5 (4, 5)) := heap_alloc_new w1 _
    exact (Below.heap_alloc _ _ w1.heap.size (lt_of_heap h1)).trans h1
  have hne : w.heap.size ≠ p := by omega
  have hB := q0.size (Nat.le_refl _)
  have c0 := q0.blk.cell 0
  have c1 := q0.blk.cell 1
  simp only [List.getElem?_toArray, List.getElem?_cons_zero, List.getElem?_cons_succ] at c0 c1
  have HQ := Lib.hid q0
  have hwl : IntKind.u64.wrap (ls.length : Int) = ls.length := IntWalk.u64_in _ (by omega)
  have hwc : IntKind.u64.wrap (cs.length : Int) = cs.length := IntWalk.u64_in _ (by omega)
  clear q0 hW HDB kc
  go_wp2_with fail
  (with_reducible refine (wnumber_ok _ _ p _ HQ.out.wt hB ls.length (by omega) (by simp)).mono ?_)
  rintro e w2 ⟨rfl, hw, hf⟩
  have q1 := Lib.hid (HQ.out.next hne (by decide) hw hf)
  have hB1 := q1.out.size (Nat.le_refl _)
  have c0 := q1.out.blk.cell 0
  have c1 := q1.out.blk.cell 1
  simp only [List.getElem?_toArray, List.getElem?_cons_zero, List.getElem?_cons_succ] at c0 c1
  obtain ⟨b0, hb0⟩ : ∃ b0, b0 = [87, 65, 82, 49] ++ leb 9 ls.length := ⟨_, rfl⟩
  rw [← hb0] at q1
  have hl0 : b0.length ≤ 14 ∧ 4 < b0.length := by rw [hb0]; have := leb_len 9 ls.length; have := leb_pos 9 ls.length; simp only [List.length_append, List.length_cons, List.length_nil]; omega
  have HB0 := Lib.hid hb0
  clear hw hf HQ hb0 hB
  go_wp2
  go_loopw [28] (fun t wr => ∃ k : Nat, k ≤ ls.length ∧ t = .int .i64 k ∧ CW w.heap.size p w.heap.size w 26 #[.slice al ls.length capl, .slice ac cs.length capc] (b0 ++ loopsB (ls.take k)) wr) (fun t _ => ls.length - (intOf t).toNat)
  case atStart => exact ⟨0, by omega, rfl, by simpa [loopsB] using q1.out⟩
  case round =>
    obtain ⟨k, hk, rfl, hq⟩ := hrel
    have HQ := Lib.hid hq
    have hBr := hq.size (Nat.le_refl _)
    have c0 := hq.blk.cell 0
    have c1 := hq.blk.cell 1
    simp only [List.getElem?_toArray, List.getElem?_cons_zero, List.getElem?_cons_succ] at c0 c1
    have hlb0 := hq.wt.lt
    clear hq q1 hB1
    by_cases hlt : k < ls.length
    · have hlt' : (k : Int) < (ls.length : Int) := by omega
      obtain ⟨x, hx⟩ : ∃ x, ls[k]? = some x := ⟨_, List.getElem?_eq_getElem hlt⟩
      have hg := goodLoop_iff.1 (GL.out x (List.mem_of_getElem? hx))
      obtain ⟨bb, off, ea, hbb, hra⟩ := HL.out k x hx
      subst ea
      obtain ⟨g0, g1, g2, g3, g4⟩ := lpv_range (rangeAt_below hra (HQ.out.fr.below (by omega) (Nat.le_refl _)) hbb)
      have hs := loopsB_succ hx
      have hll0 := loopsB_len (ls.take k)
      have htk : (ls.take k).length ≤ 8 := by simp; omega
      have hq9 : HQ.out.wt.lt.1 = HQ.out.wt.lt.1 := rfl
      obtain ⟨xh, xa, xb, xk, xd⟩ := x
      simp only at hg g0 g1 g2 g3 g4
      obtain ⟨⟨h0, h1⟩, ⟨a0, a1⟩, ⟨bn0, bn1⟩, hk2, d0, d1⟩ := hg
      obtain ⟨xh, rfl⟩ := Int.eq_ofNat_of_zero_le h0
      obtain ⟨xa, rfl⟩ := Int.eq_ofNat_of_zero_le a0
      obtain ⟨xb, rfl⟩ := Int.eq_ofNat_of_zero_le bn0
      obtain ⟨xd, rfl⟩ := Int.eq_ofNat_of_zero_le d0
      have hu1 : IntKind.u64.wrap (xh : Int) = xh := IntWalk.u64_in _ (by omega)
      have hu2 : IntKind.u64.wrap (xa : Int) = xa := IntWalk.u64_in _ (by omega)
      have hu3 : IntKind.u64.wrap (xb : Int) = xb := IntWalk.u64_in _ (by omega)
      have hu4 : IntKind.u64.wrap (xd : Int) = xd := IntWalk.u64_in _ (by omega)
      obtain ⟨s0, hs0⟩ : ∃ s0, s0 = b0 ++ loopsB (ls.take k) := ⟨_, rfl⟩
      rw [← hs0] at HQ
      have hls : s0.length ≤ 500 := by rw [hs0, List.length_append]; omega
      have HS : Hid (b0 ++ loopsB (ls.take (k + 1)) = s0 ++ loopB ⟨xh, xa, xb, xk, xd⟩) := by
        show _ = _
        rw [hs, hs0, List.append_assoc]
      have hlb : wr.heap.size ≠ p := by omega
      have K2 := Lib.hid hk2
      clear hx hra hs hs0 hll0 htk hk2 hq9
      have L1 := leb_len 9 xh
      have L2 := leb_len 9 xa
      have L3 := leb_len 9 xb
      have L4 := leb_len 9 (sg xk)
      go_upto_region 9 with (fail)
      generalize hV : (wr.alloc (.cells #[.int .i64 (xh : Int), .int .i64 (xa : Int), .int .i64 (xb : Int), .int .i64 xk, .int .i64 (xd : Int)] 54)) = V
      have r0 : CW w.heap.size p wr.heap.size wr 54 (lpv ⟨xh, xa, xb, xk, xd⟩) s0 V := by
        rw [← hV]
        exact ⟨HQ.out.wt.below (bAl (bRefl wr) _), Fr.of_below (bAl (bRefl wr) _), Blk.new _ _ _⟩
      have R0 := Lib.hid r0
      have hR0 := r0.size hBr
      have g0 := r0.blk.cell 0
      simp only [lpv, List.getElem?_toArray, List.getElem?_cons_zero] at g0
      clear r0 hV g1 g2 g3 g4
      go_wp2_with fail
      (with_reducible refine (wnumber_ok _ _ p _ R0.out.wt hR0 xh (by omega) (by omega)).mono ?_)
      rintro e u1 ⟨rfl, hw, hf⟩
      have R1 := Lib.hid (R0.out.next hlb (by decide) hw hf)
      have hR1 := R1.out.size hBr
      have g1 := R1.out.blk.cell 1
      simp only [lpv, List.getElem?_toArray, List.getElem?_cons_zero, List.getElem?_cons_succ] at g1
      clear hw hf
      go_wp2_with fail
      (with_reducible refine (wnumber_ok _ _ p _ R1.out.wt hR1 xa (by omega) (by simp only [List.length_append]; omega)).mono ?_)
      rintro e u2 ⟨rfl, hw, hf⟩
      have R2 := Lib.hid (R1.out.next hlb (by decide) hw hf)
      have hR2 := R2.out.size hBr
      have g2 := R2.out.blk.cell 2
      simp only [lpv, List.getElem?_toArray, List.getElem?_cons_zero, List.getElem?_cons_succ] at g2
      clear hw hf
      go_wp2_with fail
      (with_reducible refine (wnumber_ok _ _ p _ R2.out.wt hR2 xb (by omega) (by simp only [List.length_append]; omega)).mono ?_)
      rintro e u3 ⟨rfl, hw, hf⟩
      have R3 := Lib.hid (R2.out.next hlb (by decide) hw hf)
      have hR3 := R3.out.size hBr
      have g3 := R3.out.blk.cell 3
      simp only [lpv, List.getElem?_toArray, List.getElem?_cons_zero, List.getElem?_cons_succ] at g3
      clear hw hf
      go_wp2_with fail
      (with_reducible refine (wsigned_ok _ _ p _ R3.out.wt hR3 xk K2.out (by simp only [List.length_append]; omega)).mono ?_)
      rintro e u4 ⟨rfl, hw, hf⟩
      have R4 := Lib.hid (R3.out.next hlb (by decide) hw hf)
      have hR4 := R4.out.size hBr
      have g4 := R4.out.blk.cell 4
      simp only [lpv, List.getElem?_toArray, List.getElem?_cons_zero, List.getElem?_cons_succ] at g4
      clear hw hf
      go_wp2_with fail
      (with_reducible refine (wnumber_ok _ _ p _ R4.out.wt hR4 xd (by omega) (by simp only [List.length_append]; omega)).mono ?_)
      rintro e u5 ⟨rfl, hw, hf⟩
      have R5 := Lib.hid (R4.out.next hlb (by decide) hw hf)
      have hR5 := R5.out.size hBr
      clear hw hf
      have hfin := HQ.out.next hne (by decide) R5.out.wt R5.out.fr
      have e5 : s0 ++ leb 9 xh ++ leb 9 xa ++ leb 9 xb ++ leb 9 (sg xk) ++ leb 9 xd = b0 ++ loopsB (ls.take (k + 1)) := by
        rw [HS.out]
        simp [loopB]
      rw [e5] at hfin
      clear g0 g1 g2 g3 g4 e5 HS L1 L2 L3 L4
      go_wp2
      go_roundw
      all_goals first
        | exact ⟨k + 1, by omega, by go_num, hfin⟩
        | ((repeat apply Exists.intro); exact ⟨⟨k + 1, by omega, by go_num, hfin⟩, rfl⟩)
        | (simp [intOf]; omega)
    · obtain rfl : k = ls.length := by omega
      rw [List.take_length] at HQ
      obtain ⟨s0, hs0⟩ : ∃ s0, s0 = b0 ++ loopsB ls := ⟨_, rfl⟩
      rw [← hs0] at HQ
      have hls : s0.length ≤ 500 ∧ 4 < s0.length := by rw [hs0, List.length_append]; have := loopsB_len ls; omega
      have HS0 := Lib.hid hs0
      clear hs0 hlt hk
      go_wp2_with fail
      (with_reducible refine (wnumber_ok _ _ p _ HQ.out.wt hBr cs.length (by omega) (by omega)).mono ?_)
      rintro e w3 ⟨rfl, hw, hf⟩
      have q2 := Lib.hid (HQ.out.next hne (by decide) hw hf)
      have hB2 := q2.out.size (Nat.le_refl _)
      have c1 := q2.out.blk.cell 1
      simp only [List.getElem?_toArray, List.getElem?_cons_zero, List.getElem?_cons_succ] at c1
      obtain ⟨s1, hs1'⟩ : ∃ s1, s1 = s0 ++ leb 9 cs.length := ⟨_, rfl⟩
      rw [← hs1'] at q2
      have hls1 : s1.length ≤ 520 ∧ 4 < s1.length := by rw [hs1', List.length_append]; have := leb_len 9 cs.length; omega
      have HS1 := Lib.hid hs1'
      clear hw hf HQ hs1' hBr c0
      go_wp2
      go_loopw [66] (fun t wq => ∃ k : Nat, k ≤ cs.length ∧ t = .int .i64 k ∧ CW w.heap.size p w.heap.size w 26 #[.slice al ls.length capl, .slice ac cs.length capc] (s1 ++ claimsB (cs.take k)) wq) (fun t _ => cs.length - (intOf t).toNat)
      case atStart => exact ⟨0, by omega, rfl, by simpa [claimsB] using q2.out⟩
      case round =>
        obtain ⟨k, hk, rfl, hq⟩ := hrel
        have HQ := Lib.hid hq
        have hBr := hq.size (Nat.le_refl _)
        have hlb0 := hq.wt.lt
        clear hq q2 hB2 c1
        by_cases hlt : k < cs.length
        · have hlt' : (k : Int) < (cs.length : Int) := by omega
          obtain ⟨x, hx⟩ : ∃ x, cs[k]? = some x := ⟨_, List.getElem?_eq_getElem hlt⟩
          obtain ⟨bb, off, vx, ea, hbb, hra, hsl⟩ := HC.out k x hx
          subst ea
          have hbel := HQ.out.fr.below (Nat.le_of_lt (by omega)) (Nat.le_refl _)
          have HRA := Lib.hid (rangeAt_below hra hbel hbb)
          have hv1 : vx.oneCell' = true := by obtain ⟨_, _, rfl, _⟩ := hsl; rfl
          have HSL := Lib.hid (hsl.below hbel)
          have HOK := Lib.hid (goodClaim_iff.1 (GC.out x (List.mem_of_getElem? hx)))
          have hs := claimsB_succ hx
          have hcl := claimsB_len (cs.take k) (fun y hy => hll.out y (List.mem_of_mem_take hy))
          have htk : (cs.take k).length ≤ 512 := by simp; omega
          obtain ⟨s2, hs2⟩ : ∃ s2, s2 = s1 ++ claimsB (cs.take k) := ⟨_, rfl⟩
          rw [← hs2] at HQ
          have hls2 : s2.length ≤ 30000000 := by rw [hs2, List.length_append]; omega
          have HS : Hid (s1 ++ claimsB (cs.take (k + 1)) = s2 ++ claimB x.d x.f x.l) := by
            show _ = _
            rw [hs, hs2, List.append_assoc]
          clear hx hra hsl hbel hs hcl htk hs2
          go_upto_region 19 with (first
            | (refine wpl_loadR rfl 61 (.tmp 68) rfl bb (off + k * 128) rfl HRA.out rowClaim (bx_size _ _ _) ?_)
            | (refine wpl_store rfl 61 (.tmp 9) (.tmp 69) rfl wr.heap.size 0 rfl rfl (Blk.new wr _ _) rowClaim (bx_size _ _ _) (of_decide_eq_true (by kernel_rfl)) (bx_one _ rfl hv1) ?_; intro wn hO hN))
          rw [spl_all _ _ (by rw [bx_size]; kernel_rfl)] at hN
          have hn1 : wr.heap.size + 1 = wn.heap.size := by rw [hO.size]; simp
          have bN : Below wr.heap.size wr wn := ((Below.refl _ _).alloc (Nat.le_refl _) _).trans (hO.below (Nat.le_refl _))
          have hQN := Lib.hid (HQ.out.below bN)
          have HSL2 := Lib.hid (HSL.out.below (bN.mono hBr))
          have HN := Lib.hid hN
          clear hN hO bN HSL
          go_wp2_with (refine wpl_load rfl 61 (.tmp 9) rfl wr.heap.size 0 rfl HN.out rowClaim (by rw [bx_size]; omega) (bx_all _ _ _) ?_)
          (with_reducible refine (wclaim_ok wn w.heap.size p s2 hQN.out.wt (hQN.out.size (Nat.le_refl _)) x.d x.f vx x.l HSL2.out HOK.out.tags HOK.out.conIn (by have := HOK.out.len; omega) (by omega)).mono ?_)
          rintro e w4 ⟨rfl, hw, hf⟩
          have hfin := hQN.out.next hne (by decide) hw hf
          rw [← HS.out] at hfin
          clear hw hf HN
          go_wp2
          go_roundw
          all_goals first
            | exact ⟨k + 1, by omega, by go_num, hfin⟩
            | ((repeat apply Exists.intro); exact ⟨⟨k + 1, by omega, by go_num, hfin⟩, rfl⟩)
            | (simp [intOf]; omega)
        · obtain rfl : k = cs.length := by omega
          rw [List.take_length] at HQ
          have hdb : s1 ++ claimsB cs = deedB ⟨ls, cs⟩ := by
            rw [HS1.out, HS0.out, HB0.out]
            simp [deedB, bodyB]
          rw [hdb] at HQ
          obtain ⟨dl, hdl⟩ : ∃ dl, dl = deedB ⟨ls, cs⟩ := ⟨_, rfl⟩
          have hlen : 4 < dl.length := by rw [hdl, ← hdb, List.length_append]; omega
          rw [← hdl] at HQ
          obtain ⟨v, cv, ov, ov2⟩ := HQ.out.wt.own hlen
          obtain ⟨vo, vcap, rfl⟩ := ov2
          have hbd : dl.length ≤ 30000000 := by
            have := claimsB_len cs hll.out
            rw [hdl, ← hdb, List.length_append]
            omega
          have HDL := Lib.hid hdl
          have OV := Lib.hid ov
          clear hdb hdl ov hlt hk
          by_cases hbig : 4194304 < dl.length
          · have hbig' : (4194304 : Int) < (dl.length : Int) := by omega
            have e2 : Hid (encE ⟨ls, cs⟩ = 2) := by
              show _ = _
              unfold encE
              rw [if_pos HP.out, if_pos (by rw [← HDL.out]; exact hbig)]
            go_wp2
            go_ret2
            refine ⟨HQ.out.fr.below (by omega) (Nat.le_refl _), .slice none 0 0, by rw [e2.out]; rfl, ?_⟩
            rw [show encD ⟨ls, cs⟩ = [] by unfold encD; rw [e2.out]; rfl]
            exact owns_nil _ _
          · have hbig' : ¬ (4194304 : Int) < (dl.length : Int) := by omega
            have e2 : Hid (encE ⟨ls, cs⟩ = 0) := by
              show _ = _
              unfold encE
              rw [if_pos HP.out, if_neg (by rw [← HDL.out]; exact hbig)]
            go_wp2
            go_ret2
            refine ⟨HQ.out.fr.below (by omega) (Nat.le_refl _), _, by rw [e2.out]; rfl, ?_⟩
            rw [show encD ⟨ls, cs⟩ = dl by unfold encD; rw [e2.out, if_pos rfl, HDL.out]]
            exact OV.out

theorem encode_ok (w : World) (vl vc : Value) (d : Dd) (h : SlD w.heap.size w vl vc d) : Calls Try.prog 13 #[.agg #[vl, vc]] w (EncP d w) := by
  by_cases hp : plainD d = 0
  · exact enc_good w vl vc d h hp
  · exact enc_bad w vl vc d h hp
end Go.Proofs.Ytfdjdpbiccclfaa
