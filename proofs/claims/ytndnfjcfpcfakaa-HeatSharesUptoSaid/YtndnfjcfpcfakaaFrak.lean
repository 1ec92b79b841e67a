/- What the law needs, one part after another: walks of functions and plain laws. No conditions but those that each law names. -/
import Derived.Test.YtndnfjcfpcfakaaFraj
namespace Go.Proofs.Ytndnfjcfpcfakaa
open Go Go.RowKit Go.Wr Go.Fl Go.Ht
set_option maxHeartbeats 4000000
set_option maxRecDepth 100000
def kOf (l : List Nat) (x : Int) : Int := ky (l.getD x.toNat 0)
theorem top_cmp (w : World) (p bx : Nat) (la : Option Addr) (lc : Nat) (l : List Nat) (h : SlX tF p w (.slice la l.length lc) l) (hb : w.cell? ⟨bx, 0, none⟩ = some (.slice la l.length lc)) (x y : Int) (hx : 0 ≤ x ∧ x < l.length) (hy : 0 ≤ y ∧ y < l.length) :
  Calls Try.prog 35 #[.int .i64 x, .int .i64 y, .pointer (some ⟨bx, 0, none⟩)] w fun e w' => e = .returned (.int .i64 (cmpK (kOf l x) (kOf l y))) ∧ ∃ m, w' = w.drewN m := by
 obtain ⟨i, rfl⟩ := Int.eq_ofNat_of_zero_le hx.1
 obtain ⟨j, rfl⟩ := Int.eq_ofNat_of_zero_le hy.1
 obtain ⟨a, ha⟩ : ∃ a, l[i]? = some a := ⟨_, List.getElem?_eq_getElem (by omega)⟩
 obtain ⟨b, hb'⟩ : ∃ a, l[j]? = some a := ⟨_, List.getElem?_eq_getElem (by omega)⟩
 have ea : kOf l (i : Int) = ky a := by unfold kOf; rw [Int.toNat_natCast, List.getD_eq_getElem?_getD, ha]; rfl
 have eb : kOf l (j : Int) = ky b := by unfold kOf; rw [Int.toNat_natCast, List.getD_eq_getElem?_getD, hb']; rfl
 rw [ea, eb]
 obtain ⟨b1, o1, e1, _, _, c1⟩ := SlX.flo h ha
 obtain ⟨b2, o2, e2, _, _, c2⟩ := SlX.flo h hb'
 rw [e1] at e2
 injection e2 with e2
 injection e2 with e21 e22
 subst e21 e22 e1
 have t1 := top_first a b
 have t2 := top_first b a
 have hin : (i : Int) < (l.length : Int) := by omega
 have hjn : (j : Int) < (l.length : Int) := by omega
 obtain ⟨K1, hK1⟩ : ∃ x, x = ky a := ⟨_, rfl⟩
 obtain ⟨K2, hK2⟩ : ∃ x, x = ky b := ⟨_, rfl⟩
 rw [← hK1, ← hK2] at t1 t2
 rw [← hK1, ← hK2]
 have hcv : cmpK K1 K2 = if decide (K2 < K1) = true then -1 else if decide (K1 < K2) = true then 1 else 0 := by unfold cmpK; simp
 rw [← t1, ← t2] at hcv
 clear ha hb' ea eb t1 t2 hK1 hK2 h hx hy
 obtain ⟨C, hC⟩ : ∃ c, c = cmpK K1 K2 := ⟨_, rfl⟩
 rw [← hC] at hcv ⊢
 clear hC
 go_enter Try.func35, Try.ntmps35
 go_wp2_with fail
 go_quiet (fail)
 generalize hg1 : (Ieee.double.order a b == some .gt) = g1 at hcv
 generalize hg2 : (Ieee.double.order b a == some .gt) = g2 at hcv
 generalize hs1 : (Ieee.double.order a a == some .eq) = s1 at hcv
 generalize hs2 : (Ieee.double.order b b == some .eq) = s2 at hcv
 have hs1' : (Ieee.double.order a a != some .eq) = !s1 := by rw [← hs1]; rfl
 have hs2' : (Ieee.double.order b b != some .eq) = !s2 := by rw [← hs2]; rfl
 change (FloatKind.f64.format.order a b == some .gt) = g1 at hg1
 change (FloatKind.f64.format.order b a == some .gt) = g2 at hg2
 change (FloatKind.f64.format.order a a == some .eq) = s1 at hs1
 change (FloatKind.f64.format.order b b == some .eq) = s2 at hs2
 change (FloatKind.f64.format.order a a != some .eq) = !s1 at hs1'
 change (FloatKind.f64.format.order b b != some .eq) = !s2 at hs2'
 cases g1 <;> cases g2 <;> cases s1 <;> cases s2 <;> simp only [Bool.not_true, Bool.not_false, Bool.and_false, Bool.and_true, Bool.or_false, Bool.or_true, Bool.or_self, Bool.and_self, if_true, if_false, Bool.false_eq_true] at hcv hs1' hs2' <;> subst hcv
 all_goals
  go_wp2_with fail
  go_ret
  exact ⟨rfl, _, rfl⟩
theorem call_enter {f : Nat} {fn : Func} (hf : Try.prog.funcs[f]? = some fn) (hname : (fn.name == "runtime.NumGoroutine") = false) (hb : fn.body.isSome = true) (args : Array Value) (w : World) : (callFunc f args).run Try.prog w = .ok (.enter f args) w := by
 have h1 : ¬ fn.name = "runtime.NumGoroutine" := by simpa using hname
 have h2 : ¬ fn.body = none := fun e => by rw [e] at hb; cases hb
 simp [callFunc, hf, h1, h2]
def cutN (n : Int) (len : Nat) : Nat := (min n (len : Int)).toNat
def flI (n i : Nat) : List Int := (List.range n).map fun x : Nat => if x < i then (x : Int) else 0
theorem flI_len (n i : Nat) : (flI n i).length = n := by simp [flI]
theorem flI_get {n i k : Nat} (h : k < n) : (flI n i)[k]? = some (if k < i then (k : Int) else 0) := by unfold flI; rw [List.getElem?_map, List.getElem?_range h]; rfl
theorem flI_zero (n : Nat) : flI n 0 = List.replicate n 0 := by
 apply List.ext_getElem?
 intro k
 by_cases h : k < n
 ·rw [flI_get h, List.getElem?_replicate, if_pos h, if_neg (by omega)]
 ·rw [List.getElem?_eq_none (by rw [flI_len]; omega), List.getElem?_eq_none (by simp; omega)]
theorem flI_all (n : Nat) : flI n n = iot n := by
 unfold flI iot
 apply List.map_congr_left
 intro x hx
 rw [if_pos (by simpa using hx)]
theorem flI_set {n i : Nat} (hi : i < n) : (flI n i).set i (i : Int) = flI n (i + 1) := by
 apply List.ext_getElem?
 intro x
 rw [List.getElem?_set, flI_len]
 by_cases hx : x < n
 ·rw [flI_get hx, flI_get hx]
  by_cases e : i = x
  ·subst e
   rw [if_pos rfl, if_pos hx, if_pos (by omega)]
  ·rw [if_neg e]
   by_cases h : x < i
   ·rw [if_pos h, if_pos (by omega)]
   ·rw [if_neg h, if_neg (by omega)]
 ·rw [if_neg (by omega), List.getElem?_eq_none (by rw [flI_len]; omega), List.getElem?_eq_none (by rw [flI_len]; omega)]
theorem htop_ok (w : World) (q : Nat) (v : Value) (l : List Nat) (n : Int) (h : SlX tF q w v l) (hl : l.length ≤ 1099511627776) : Calls Try.prog 20 #[v, .int .i64 n] w fun e w' => Below w.heap.size w w' ∧ ∃ (v' : Value) (Z : List Int), e = .returned v' ∧ Z.Perm (iot l.length) ∧ Z.Pairwise (Ht.Rk (kOf l)) ∧ OwR tI w.heap.size w' v' (Z.take (cutN n l.length)) := by
 obtain ⟨a0, cap, rfl, h1, h2⟩ := h.form
 have H := Lib.hid h
 unfold maxLen at h2
 clear h
 go_enter Try.func20, Try.ntmps20
 go_upto_region 1 with (fail)
 obtain ⟨bx, hbx⟩ : ∃ x, x = w.heap.size := ⟨_, rfl⟩
 have hc0 : (w.alloc (.cells #[.slice a0 l.length cap] 25)).cell? ⟨bx, 0, none⟩ = some (.slice a0 l.length cap) := by rw [hbx]; exact (Blk.new w 25 #[.slice a0 l.length cap]).cell 0
 have hb0 : Below w.heap.size w (w.alloc (.cells #[.slice a0 l.length cap] 25)) := bAl (bRefl w) _
 have hz0 : (w.alloc (.cells #[.slice a0 l.length cap] 25)).heap.size = bx + 1 := by rw [hbx]; simp
 rw [← hbx]
 have HBX := Lib.hid hbx
 clear hbx
 generalize w.alloc (.cells #[.slice a0 l.length cap] 25) = w1 at hc0 hb0 hz0 ⊢
 have HB0 := Lib.hid hb0
 have HZ0 := Lib.hid hz0
 clear hb0 hz0
 go_upto_region 2 with (refine wpl_make tI 0 rfl rfl (.tmp 8) (.tmp 8) rfl .i64 .i64 _ _ l.length rfl rfl rfl rfl (by show 8 * _ ≤ _; omega) (by unfold maxLen; omega) ?_; intro w2 how hbw hsw)
 have hgl : w1.heap.size = bx + 1 := HZ0.out
 obtain ⟨g, hg⟩ : ∃ x, x = w1.heap.size := ⟨_, rfl⟩
 rw [← hg] at how hbw ⊢
 have hc2 : w2.cell? ⟨bx, 0, none⟩ = some (.slice a0 l.length cap) := (hbw.cell (by show bx < g; omega)).trans hc0
 have hb2 : Below w.heap.size w w2 := bThen HB0.out (by rw [← hg]; exact hbw)
 have hgw : w.heap.size ≤ g := by have := HB0.out.size; omega
 have hsl : SlX tF g w2 (.slice a0 l.length cap) l := (SlX.re H.out hgw).below hb2
 have hS0 : SW w.heap.size w2 g l.length l.length (flI l.length 0) w2 := ⟨Ex.refl _ _, by rw [flI_zero]; exact how.mono hgw⟩
 have hgb : bx ≠ g := by omega
 have hbx2 : bx < w2.heap.size := by have := hbw.size; omega
 have HK := Lib.hid (show Cmp 35 (.pointer (some ⟨bx, 0, none⟩)) (fun x y => cmpK (kOf l x) (kOf l y)) (fun x => 0 ≤ x ∧ x < l.length) w2 g from
  ⟨fun args w => call_enter Try.func35 (by kernel_rfl) (by kernel_rfl) args w, fun x y w' hx hy hex => top_cmp w' g bx a0 cap l (hsl.ex hex) ((World.cell?_of_block (hex.block bx hbx2 hgb)).trans hc2) x y hx hy⟩)
 have HO := Lib.hid (show Ht.Ord (Ht.Rk (kOf l)) (fun y x => decide (cmpK (kOf l y) (kOf l x) < 0)) (fun x => 0 ≤ x ∧ x < (l.length : Int)) from
  ⟨fun _ _ _ h1 h2 => (rk_ord (kOf l)).tr trivial trivial trivial h1 h2, fun _ _ h1 h2 => (rk_ord (kOf l)).yes trivial trivial h1 h2, fun _ _ h1 h2 => (rk_ord (kOf l)).no trivial trivial h1 h2⟩)
 have HS0 := Lib.hid hS0
 have HB2 := Lib.hid (And.intro hb2 hgw)
 clear how hbw hsw hgl hg hc0 hc2 hb2 hgw hsl hS0 hgb hbx2 HZ0 HB0 HBX
 go_wp2
 go_loopw [6, 12] (fun _ u wr => ∃ (i : Nat), i ≤ l.length ∧ u = .int .i64 (i : Int) ∧ Hid (SW w.heap.size w2 g l.length l.length (flI l.length i) wr)) (fun _ u _ => l.length - (intOf u).toNat)
 case atStart => exact ⟨0, by omega, rfl, HS0.out⟩
 case round =>
  clear HS0
  obtain ⟨i, hi, rfl, hS⟩ := hrel
  obtain ⟨V, rfl⟩ : ∃ V : World, V = wr := ⟨_, rfl⟩
  by_cases hlt : i < l.length
  ·have hlt' : (i : Int) < (l.length : Int) := by omega
   have c1 := hS.out.cell (flI_get (i := i) hlt)
   have f1 := hS.out.frozen i
   have hS2 := hS.out.set (k := i) (x := (i : Int)) (by rw [flI_len]; exact hlt)
   rw [flI_set hlt] at hS2
   have HS2 := Lib.hid hS2
   clear hS hS2
   go_wp2
   go_roundw
   all_goals first
    | exact ⟨i + 1, by omega, by go_num, HS2.out⟩
    | ((repeat apply Exists.intro); exact ⟨⟨i + 1, by omega, by go_num, HS2.out⟩, rfl⟩)
    | (simp [intOf] <;> omega)
  ·have hil : i = l.length := by omega
   have hS' := hS.out
   rw [hil, flI_all] at hS'
   have hcall := sortStable_ok w.heap.size w2 V g l.length l.length 35 _ _ _ (Ht.Rk (kOf l)) HK.out HO.out (iot l.length) hS' (fun x hx => iot_mem.1 hx) (iot_asc _) (by omega)
   have HCl := Lib.hid hcall
   obtain rfl := hil
   clear hS' hcall hS hlt
   go_wp2_with fail
   refine HCl.out.mono ?_
   rintro e' w5 ⟨rfl, Z, z1, z2, z3⟩
   have hZl : Z.length = l.length := by rw [z1.length_eq, iot_len]
   have HZ := Lib.hid (And.intro z1 (And.intro z2 (And.intro z3 hZl)))
   have HBB := Lib.hid (show Below w.heap.size w w5 from HB2.out.1.trans (z3.ex.below (B := w.heap.size) HB2.out.2 (HB2.out.1.size)))
   clear HCl z1 z2 z3 hZl HK HO
   have fine : ∀ k, k ≤ l.length → cutN n l.length = k → OwR tI w.heap.size w5 (.slice (some ⟨g, 0, none⟩) k l.length) (Z.take (cutN n l.length)) := fun k hk e => by
    rw [e]
    exact HZ.out.2.2.1.ow.take (by rw [HZ.out.2.2.2]; exact hk)
   have HFI := Lib.hid fine
   clear fine
   have HR := Lib.hid (HFI.out (max 0 (min n (l.length : Int))).toNat (by omega) (by unfold cutN; omega))
   go_wp2
   go_ret
   exact ⟨HBB.out, _, Z, rfl, HZ.out.1, HZ.out.2.1, HR.out⟩
end Go.Proofs.Ytndnfjcfpcfakaa
namespace Go.Proofs.Ytndnfjcfpcfakaa
open Go Go.RowKit Go.Wr Go.Fl Go.Ht
set_option maxHeartbeats 4000000
set_option maxRecDepth 100000
theorem has19_ok (w : World) (p : Nat) (v : Value) (l : List Int) (x : Int) (h : SlX tI p w v l) : Calls Try.prog 36 #[v, .int .i64 x] w fun e w' => e = .returned (.bool (l.contains x)) ∧ w' = w := by
 obtain ⟨r, hr⟩ : ∃ r, r = l.contains x := ⟨_, rfl⟩
 rw [← hr]
 have HR := Lib.hid hr
 obtain ⟨a0, cap, rfl, h1, h2⟩ := h.form
 have H := Lib.hid h
 unfold maxLen at h2
 clear hr h
 go_enter Try.func36, Try.ntmps36
 go_wp2
 go_loop [5] (fun t => ∃ k : Nat, k ≤ l.length ∧ t = .int .i64 (k : Int) ∧ Hid (r = (l.drop k).contains x)) (fun t => l.length - (intOf t).toNat)
 case atStart => exact ⟨0, by omega, rfl, HR.out⟩
 case round =>
  clear HR
  obtain ⟨k, hk, rfl, hq⟩ := hrel
  by_cases hlt : k < l.length
  ·have hlt' : (k : Int) < (l.length : Int) := by omega
   obtain ⟨y, hy⟩ : ∃ y, l[k]? = some y := ⟨_, List.getElem?_eq_getElem hlt⟩
   have hd : l.drop k = y :: l.drop (k + 1) := by
    rw [List.drop_eq_getElem_cons hlt]
    rw [List.getElem?_eq_getElem hlt] at hy
    injection hy with hy
    rw [hy]
   have hq2 := hq.out
   rw [hd, List.contains_cons] at hq2
   obtain ⟨b, o, rfl, _, _, hc⟩ := SlX.int H.out hy
   have HQ := Lib.hid hq2
   clear hq hq2 hd hy
   by_cases e : y = x
   ·have e1 : Hid (r = true) := by show _ = _; rw [HQ.out, e]; simp
    subst e
    clear HQ
    go_wp2
    go_ret
    exact ⟨retB e1.out.symm, rfl⟩
   ·have e1 : Hid (r = (l.drop (k + 1)).contains x) := by
     show _ = _
     have hb : (x == y) = false := by simpa using fun h => e h.symm
     rw [HQ.out, hb, Bool.false_or]
    have e2 : (y == x) = false := by simpa using e
    clear HQ e
    go_wp2
    go_round
    case rel => exact ⟨k + 1, by omega, by go_num, e1⟩
    case measure => simp [intOf]; omega
  ·obtain rfl : k = l.length := by omega
   have e1 : Hid (r = false) := by show _ = _; rw [hq.out, List.drop_length]; rfl
   clear hlt hq
   go_wp2
   go_ret
   exact ⟨retB e1.out.symm, rfl⟩
end Go.Proofs.Ytndnfjcfpcfakaa
namespace Go.Proofs.Ytndnfjcfpcfakaa
open Go Go.RowKit Go.Wr Go.Fl Go.Ht
set_option maxHeartbeats 4000000
set_option maxRecDepth 100000
theorem inner_ok (w : World) (q : Nat) (l : List In) (b : Nat) (h : RFinP l q w) (hb : b < nB l) : Calls Try.prog 67 #[.pointer (some ⟨q, 0, none⟩), .int .i64 (b : Int)] w fun e w' => e = .returned (.int .i64 (inn l b (nL l))) ∧ ∃ m, w' = w.drewN m := by
 obtain ⟨ab, ad, al, cb, cd, cl, vr, P⟩ := h.parts
 have HP := Lib.hid P
 have h8 := P.g.hd8
 have h512 := P.g.n512
 have c2 := P.c2
 obtain ⟨m, hm⟩ : ∃ m, m = nL l := ⟨_, rfl⟩
 have hm8 : m ≤ 8 := by rw [hm]; exact h8
 rw [← hm] at c2 ⊢
 have HM := Lib.hid hm
 clear h P h8 hm
 go_enter Try.func67, Try.ntmps67
 go_wp2
 go_loopw [5, 6] (fun t u wr => ∃ (i k : Nat) (z : Int), i ≤ m ∧ u = .int .i64 (i : Int) ∧ t = .int .i64 z ∧ -1 ≤ z ∧ z < (i : Int) ∧ Hid (z = inn l b i) ∧ Hid (wr = w.drewN k)) (fun _ u _ => m - (intOf u).toNat)
 case atStart => exact ⟨0, 0, -1, by omega, rfl, rfl, by omega, by omega, rfl, rfl⟩
 case round =>
  obtain ⟨i, k, z, hi, rfl, rfl, hz1, hz2, hq, hwr⟩ := hrel
  obtain ⟨W, rfl⟩ : ∃ x : World, x = wr := ⟨_, rfl⟩
  have HPk := Lib.hid (show RRp l q ab ad al cb cd cl vr W by rw [hwr.out]; exact HP.out.drewN k)
  have c2k : W.cell? ⟨q, 2, none⟩ = some (.slice al m cl) := by rw [hwr.out]; exact c2
  have HWN := Lib.hid (fun n => by rw [hwr.out, World.drewN_drewN] : ∀ n, W.drewN n = w.drewN (k + n))
  have HW := Lib.hid hwr.out
  clear hwr
  by_cases hlt : i < m
  ·have hlt' : (i : Int) < (m : Int) := by omega
   obtain ⟨gl, ol, ba, bn, bc, hal, _, cc1, hbn, hsl⟩ := HPk.out.ld.one (i := i) (by rw [← HM.out]; exact hlt)
   have hhas : ∀ k, Calls Try.prog 36 #[.slice ba bn bc, .int .i64 (b : Int)] (W.drewN k) fun e w' => e = .returned (.bool (inB l i b)) ∧ w' = W.drewN k := fun k => by
    refine (has19_ok (W.drewN k) q _ _ (b : Int) (hsl.below (bDrewN (bRefl W) k))).mono ?_
    rintro e w' ⟨rfl, rfl⟩
    rw [blk_has hb]
    exact ⟨rfl, rfl⟩
   have HBN := Lib.hid hbn
   rw [hal] at c2k
   have HAL := Lib.hid hal
   clear hsl hbn hal
   obtain ⟨v, hv⟩ : ∃ v, v = inB l i b := ⟨_, rfl⟩
   rw [← hv] at hhas
   have HV := Lib.hid hv
   clear hv
   cases v with
   | false =>
    have hQ : Hid (z = inn l b (i + 1)) := by
     show _ = _
     unfold inn
     rw [if_neg (fun h => by rw [← HV.out] at h; exact absurd h.1 (by simp))]
     exact hq.out
    clear hq HV
    go_wp2_with fail
    go_quiet (first | (go_at_call 36; exact Calls.quiet_of_same (hhas _)))
    go_wp2
    go_roundw
    all_goals first
     | exact ⟨i + 1, _, z, by omega, by go_num, rfl, hz1, by omega, hQ, HWN.out _⟩
     | ((repeat apply Exists.intro); exact ⟨⟨i + 1, _, z, by omega, by go_num, rfl, hz1, by omega, hQ, HWN.out _⟩, rfl⟩)
     | (simp [intOf] <;> omega)
   | true =>
    by_cases hneg : z < 0
    ·have hQ : Hid ((i : Int) = inn l b (i + 1)) := by
      show _ = _
      unfold inn
      rw [if_pos ⟨HV.out.symm, Or.inl (by rw [← hq.out]; exact hneg)⟩]
     clear hq HV
     go_wp2_with fail
     go_quiet (first | (go_at_call 36; exact Calls.quiet_of_same (hhas _)))
     go_wp2
     go_roundw
     all_goals first
      | exact ⟨i + 1, _, (i : Int), by omega, by go_num, rfl, by omega, by omega, hQ, HWN.out _⟩
      | ((repeat apply Exists.intro); exact ⟨⟨i + 1, _, (i : Int), by omega, by go_num, rfl, by omega, by omega, hQ, HWN.out _⟩, rfl⟩)
      | (simp [intOf] <;> omega)
    ·obtain ⟨x, rfl⟩ := Int.eq_ofNat_of_zero_le (show 0 ≤ z by omega)
     obtain ⟨gx, ox, da, dn, dc, ex, _, cc2, hdn, _⟩ := HPk.out.ld.one (i := x) (by rw [← HM.out]; omega)
     rw [HAL.out] at ex
     injection ex with ex
     injection ex with ex1 ex2
     subst ex1 ex2
     have HDN := Lib.hid hdn
     clear hdn
     have hxm : (x : Int) < (m : Int) := by omega
     have hneg' : ¬ (x : Int) < 0 := by omega
     have hnb : decide ((x : Int) < 0) = false := decide_eq_false hneg'
     by_cases hsm : bn < dn
     ·have hsm' : (bn : Int) < (dn : Int) := by omega
      have hsd : decide ((bn : Int) < (dn : Int)) = true := decide_eq_true hsm'
      have hQ : Hid ((i : Int) = inn l b (i + 1)) := by
       show _ = _
       unfold inn
       rw [if_pos ⟨HV.out.symm, Or.inr (by rw [← hq.out, Int.toNat_natCast, ← HBN.out, ← HDN.out]; exact hsm)⟩]
      clear hq HV HBN
      go_wp2_with fail
      go_quiet (first | (go_at_call 36; exact Calls.quiet_of_same (hhas _)))
      go_wp2
      go_roundw
      all_goals first
       | exact ⟨i + 1, _, (i : Int), by omega, by go_num, rfl, by omega, by omega, hQ, HWN.out _⟩
       | ((repeat apply Exists.intro); exact ⟨⟨i + 1, _, (i : Int), by omega, by go_num, rfl, by omega, by omega, hQ, HWN.out _⟩, rfl⟩)
       | (simp [intOf] <;> omega)
     ·have hsm' : ¬ (bn : Int) < (dn : Int) := by omega
      have hsd : decide ((bn : Int) < (dn : Int)) = false := decide_eq_false hsm'
      have hQ : Hid ((x : Int) = inn l b (i + 1)) := by
       show _ = _
       unfold inn
       rw [if_neg (fun h => by
        rcases h.2 with h | h
        ·rw [← hq.out] at h; exact hneg' h
        ·rw [← hq.out, Int.toNat_natCast, ← HBN.out, ← HDN.out] at h; exact hsm h)]
       exact hq.out
      clear hq HV HBN
      go_wp2_with fail
      go_quiet (first | (go_at_call 36; exact Calls.quiet_of_same (hhas _)))
      go_wp2
      go_roundw
      all_goals first
       | exact ⟨i + 1, _, (x : Int), by omega, by go_num, rfl, by omega, by omega, hQ, HWN.out _⟩
       | ((repeat apply Exists.intro); exact ⟨⟨i + 1, _, (x : Int), by omega, by go_num, rfl, by omega, by omega, hQ, HWN.out _⟩, rfl⟩)
       | (simp [intOf] <;> omega)
  ·have him : i = m := by omega
   have hq' := hq.out
   rw [him] at hq'
   have HQ := Lib.hid hq'
   have hlt' : ¬ (i : Int) < (m : Int) := by omega
   clear hq hq' him
   go_wp2
   go_ret
   exact ⟨by rw [← HQ.out]; rfl, k, HW.out⟩
theorem headed_ok (w : World) (q : Nat) (l : List In) (b : Nat) (h : RFinP l q w) : Calls Try.prog 65 #[.pointer (some ⟨q, 0, none⟩), .int .i64 (b : Int)] w fun e w' => e = .returned (.int .i64 (hdd l b (nL l))) ∧ w' = w := by
 obtain ⟨ab, ad, al, cb, cd, cl, vr, P⟩ := h.parts
 have HP := Lib.hid P
 have h8 := P.g.hd8
 have c2 := P.c2
 obtain ⟨m, hm⟩ : ∃ m, m = nL l := ⟨_, rfl⟩
 have hm8 : m ≤ 8 := by rw [hm]; exact h8
 rw [← hm] at c2 ⊢
 have HM := Lib.hid hm
 clear h P h8 hm
 go_enter Try.func65, Try.ntmps65
 go_wp2
 go_loopw [5] (fun u wr => ∃ (i : Nat), i ≤ m ∧ u = .int .i64 (i : Int) ∧ Hid (∀ j, j < i → hdN l j ≠ b) ∧ wr = w) (fun u _ => m - (intOf u).toNat)
 case atStart => exact ⟨0, by omega, rfl, fun j hj => by omega, rfl⟩
 case round =>
  obtain ⟨i, hi, rfl, hq, rfl⟩ := hrel
  by_cases hlt : i < m
  ·have hlt' : (i : Int) < (m : Int) := by omega
   obtain ⟨gl, ol, ba, bn, bc, rfl, cc0, _, _, _⟩ := HP.out.ld.one (i := i) (by rw [← HM.out]; exact hlt)
   by_cases e : hdN l i = b
   ·have hQ : Hid ((i : Int) = hdd l b m) := (hdd_of (by rw [HM.out]; exact Nat.le_refl _) hlt e).symm
    have e' : ((hdN l i : Nat) : Int) = (b : Int) := by omega
    rw [e'] at cc0
    clear hq e'
    go_wp2
    go_ret
    exact ⟨by rw [← hQ.out]; rfl, rfl⟩
   ·have e' : ((hdN l i : Nat) : Int) ≠ (b : Int) := by omega
    have e2 : (((hdN l i : Nat) : Int) == (b : Int)) = false := beq_eq_false_iff_ne.2 e'
    have hQ : Hid (∀ j, j < i + 1 → hdN l j ≠ b) := fun j hj => by
     by_cases ej : j = i
     ·rw [ej]; exact e
     ·exact hq.out j (by omega)
    clear hq
    go_wp2
    go_roundw
    all_goals first
     | exact ⟨i + 1, by omega, by go_num, hQ, rfl⟩
     | exact ⟨i + 1, by omega, by go_num, hQ, trivial⟩
     | ((repeat apply Exists.intro); exact ⟨⟨i + 1, by omega, by go_num, hQ, rfl⟩, rfl⟩)
     | ((repeat apply Exists.intro); exact ⟨⟨i + 1, by omega, by go_num, hQ, trivial⟩, rfl⟩)
     | (simp [intOf] <;> omega)
  ·have him : i = m := by omega
   have hno : hdd l b m = -1 := by
    obtain ⟨k1, k2, k3⟩ := @hdd_is l b m
    by_cases h0 : 0 ≤ hdd l b m
    ·obtain ⟨k4, k5⟩ := k1 h0
     exact absurd k5 (hq.out _ (by omega))
    ·omega
   have HN := Lib.hid hno
   have hlt' : ¬ (i : Int) < (m : Int) := by omega
   clear hno hq him
   go_wp2
   go_ret
   exact ⟨by rw [HN.out]; rfl, rfl⟩
theorem rchance_ok (w : World) (q : Nat) (l : List In) (b k : Nat) (h : RFinP l q w) (hb : b < nB l) (hk : k < (nxt l b).length) : Calls Try.prog 32 #[.pointer (some ⟨q, 0, none⟩), .int .i64 (b : Int), .int .i64 (k : Int)] w fun e w' => e = .returned (.float .f64 (chn l b k)) ∧ ∃ m, w' = w.drewN m := by
 obtain ⟨ab, ad, al, cb, cd, cl, vr, P⟩ := h.parts
 have HH := Lib.hid h
 have HP := Lib.hid P
 have h8 := P.g.hd8
 have h512 := P.g.n512
 have c0 := P.c0
 have hbi : (b : Int) < (nB l : Int) := by omega
 obtain ⟨gb, ob, na, nn, nc, rfl, cn, hnn, hsn⟩ := P.bd.next hb
 have HN := Lib.hid (And.intro hnn hsn)
 obtain ⟨C, hC⟩ : ∃ c, c = chn l b k := ⟨_, rfl⟩
 rw [← hC]
 have h2 := nxt_two l b
 have HB := Lib.hid (And.intro hb (And.intro hk h2))
 have hkn : k < nn := by rw [hnn]; exact hk
 have hn2 : nn ≤ 2 := by rw [hnn]; exact h2
 by_cases h1 : nn = 1
 ·have hCv : C = one := by rw [hC]; unfold chn; rw [if_pos (by rw [← hnn]; exact h1)]
  subst h1 hCv
  clear hC hnn hsn h P hb hk h2 hkn hn2
  go_enter Try.func32, Try.ntmps32
  go_wp2
  go_ret
  exact ⟨rfl, 0, rfl⟩
 ·have hnn2 : nn = 2 := by omega
  have hCv : C = chT l b k ((nxt l b).getD k 0) ((nxt l b).getD (1 - k) 0) := by rw [hC]; unfold chn; rw [if_neg (by rw [← hnn]; exact h1)]
  subst hnn2
  obtain ⟨j, hj⟩ : ∃ j, j = 1 - k := ⟨_, rfl⟩
  have hjl : j < (nxt l b).length := by omega
  have ej : (1 : Int) - (k : Int) = (j : Int) := by omega
  rw [← hj] at hCv
  obtain ⟨x, hx⟩ : ∃ x, x = (nxt l b).getD k 0 := ⟨_, rfl⟩
  obtain ⟨y, hy⟩ : ∃ x, x = (nxt l b).getD j 0 := ⟨_, rfl⟩
  have hxn : x < nB l := by rw [hx]; exact nx_lt P.g hb hk
  have hyn : y < nB l := by rw [hy]; exact nx_lt P.g hb hjl
  obtain ⟨gn, on, rfl, _, _, cx⟩ := SlX.int hsn (nI_at hk)
  obtain ⟨gn', on', e1, _, _, cy⟩ := SlX.int hsn (nI_at hjl)
  injection e1 with e1
  injection e1 with e11 e12
  subst e11 e12
  rw [← hx] at cx hCv
  rw [← hy] at cy hCv
  obtain ⟨gd, od, da, dc, rfl, cd1, hd1⟩ := P.dt x hxn
  obtain ⟨gd', od', da', dc', e2, cd2, hd2⟩ := P.dt y hyn
  injection e2 with e2
  injection e2 with e21 e22
  subst e21 e22
  obtain ⟨g1, o1, rfl, ct1⟩ := hd1 b hb
  obtain ⟨g2, o2, rfl, ct2⟩ := hd2 b hb
  have c1 := P.c1
  obtain ⟨p1, hp1⟩ : ∃ p, p = dm l x b := ⟨_, rfl⟩
  obtain ⟨p2, hp2⟩ : ∃ p, p = dm l y b := ⟨_, rfl⟩
  rw [← hp1] at ct1
  rw [← hp2] at ct2
  have HC := Lib.hid hCv
  have HX := Lib.hid (And.intro hp1 hp2)
  have HXY := Lib.hid (And.intro hxn hyn)
  have hki : (k : Int) < 2 := by omega
  have hji : (j : Int) < 2 := by omega
  have hxi : (x : Int) < (nB l : Int) := by omega
  have hyi : (y : Int) < (nB l : Int) := by omega
  clear hC hnn hsn h P hb hk h2 hkn hn2 h1 hj hjl hx hy hxn hyn hd1 hd2 hp1 hp2 hCv
  go_enter Try.func32, Try.ntmps32
  go_wp2_with fail
  go_quiet (fail)
  have c0' : (w.drewN nq).cell? ⟨q, 0, none⟩ = _ := c0
  have c1' : (w.drewN nq).cell? ⟨q, 1, none⟩ = _ := c1
  have cy' : (w.drewN nq).cell? ⟨gn, on + j, none⟩ = _ := cy
  have cx' : (w.drewN nq).cell? ⟨gn, on + k, none⟩ = _ := cx
  have cd2' : (w.drewN nq).cell? ⟨gd, od + y, none⟩ = _ := cd2
  have ct2' : (w.drewN nq).cell? ⟨g2, o2 + b, none⟩ = _ := ct2
  have HW := Lib.hid (⟨nq, rfl⟩ : ∃ m, w.drewN nq = w.drewN m)
  have HH1 := Lib.hid (show RFinP l q (w.drewN nq) from HH.out.below (bDrewN (bRefl w) nq))
  clear c0 c1 cy cx cd2 ct2 cd1 ct1
  obtain ⟨w1, hw1⟩ : ∃ x, x = w.drewN nq := ⟨_, rfl⟩
  rw [← hw1] at c0' c1' cy' cx' cd2' ct2' HW HH1 ⊢
  clear hw1
  go_wp2_with fail
  go_quiet (fail)
  have HW2 := Lib.hid (show ∃ m, w1.drewN nq = w.drewN m by obtain ⟨m, hm⟩ := HW.out; exact ⟨m + nq, by rw [hm, World.drewN_drewN]⟩)
  have HH2 := Lib.hid (show RFinP l q (w1.drewN nq) from HH1.out.below (bDrewN (bRefl w1) nq))
  have c02 : (w1.drewN nq).cell? ⟨q, 0, none⟩ = _ := c0'
  have cx2 : (w1.drewN nq).cell? ⟨gn, on + k, none⟩ = _ := cx'
  have cy2 : (w1.drewN nq).cell? ⟨gn, on + j, none⟩ = _ := cy'
  clear c0' c1' cy' cx' cd2' ct2' HW HH1
  obtain ⟨w2, hw2⟩ : ∃ x, x = w1.drewN nq := ⟨_, rfl⟩
  rw [← hw2] at c02 cx2 cy2 HW2 HH2 ⊢
  clear hw2
  cases p1 <;> cases p2
  ·have hdm : dm l x b = dm l y b := HX.out.1.symm.trans HX.out.2
   have HD := Lib.hid hdm
   clear hdm HX
   go_wp2_with fail
   refine (inner_ok w2 q l b HH2.out HB.out.1).mono ?_
   rintro e w3 ⟨rfl, m3, hw3⟩
   obtain ⟨z, hz⟩ : ∃ z, z = inn l b (nL l) := ⟨_, rfl⟩
   rw [← hz]
   have HZ := Lib.hid hz.symm
   have hzl : z < 8 := by rw [hz]; have := (@inn_is l b (nL l)).2; have h8 : nL l ≤ 8 := HP.out.g.hd8; omega
   have HW3 := Lib.hid (show ∃ m, w3 = w.drewN m by obtain ⟨m, hm⟩ := HW2.out; exact ⟨m + m3, by rw [hw3, hm, World.drewN_drewN]⟩)
   have HH3 := Lib.hid (show RFinP l q w3 by rw [hw3]; exact HH2.out.below (bDrewN (bRefl w2) m3))
   have cx3 : w3.cell? ⟨gn, on + k, none⟩ = some (.int .i64 (x : Int)) := by rw [hw3]; exact cx2
   have cy3 : w3.cell? ⟨gn, on + j, none⟩ = some (.int .i64 (y : Int)) := by rw [hw3]; exact cy2
   clear hw3 HW2 HH2 c02 cx2 cy2 hz
   by_cases hz0 : z < 0
   ·have hzn : ¬ (0 ≤ z) := by omega
    have HV := Lib.hid (HC.out.trans (chT_n HD.out (by rw [HZ.out]; exact hz0)))
    clear HC HZ HD
    by_cases hk0 : k = 0
    ·have hkv : (k : Int) = 0 := by omega
     have HV2 := Lib.hid (show C = c38 by rw [HV.out, if_pos hk0])
     clear HV cx3 cy3
     go_wp2
     go_ret
     exact ⟨by rw [HV2.out]; rfl, HW3.out⟩
    ·have hkv : (k : Int) ≠ 0 := by omega
     have hkb : ((k : Int) == 0) = false := beq_eq_false_iff_ne.2 hkv
     have HV2 := Lib.hid (show C = c58 by rw [HV.out, if_neg hk0])
     clear HV cx3 cy3
     go_wp2
     go_ret
     exact ⟨by rw [HV2.out]; rfl, HW3.out⟩
   ·obtain ⟨t, rfl⟩ := Int.eq_ofNat_of_zero_le (show 0 ≤ z by omega)
    have htm : t < nL l := by have := (@inn_is l b (nL l)).2; rw [HZ.out] at this; omega
    obtain ⟨_, _, al3, _, _, cl3, _, P3⟩ := HH3.out.parts
    obtain ⟨gl, ol, ba, bn, bc, rfl, -, cl1, -, hsl⟩ := P3.ld.one htm
    have c23 := P3.c2
    have hti : (t : Int) < (nL l : Int) := by omega
    have hz1 : (0 : Int) ≤ (t : Int) := by omega
    have hhas : ∀ (w' : World) (v : Nat), v < nB l → (∃ n, w' = w3.drewN n) → Calls Try.prog 36 #[.slice ba bn bc, .int .i64 (v : Int)] w' fun e w'' => e = .returned (.bool (inB l t v)) ∧ w'' = w' := fun w' v hv hw' => by
     obtain ⟨n, rfl⟩ := hw'
     refine (has19_ok (w3.drewN n) q _ _ (v : Int) (hsl.below (bDrewN (bRefl w3) n))).mono ?_
     rintro e w'' ⟨rfl, rfl⟩
     rw [blk_has hv]
     exact ⟨rfl, rfl⟩
    obtain ⟨i1, hi1⟩ : ∃ v, v = inB l t x := ⟨_, rfl⟩
    obtain ⟨i2, hi2⟩ : ∃ v, v = inB l t y := ⟨_, rfl⟩
    have hh1 : ∀ n, Calls Try.prog 36 #[.slice ba bn bc, .int .i64 (x : Int)] (w3.drewN n) fun e w'' => e = .returned (.bool i1) ∧ w'' = w3.drewN n := fun n => by rw [hi1]; exact hhas _ x HXY.out.1 ⟨n, rfl⟩
    have hh2 : ∀ m n, Calls Try.prog 36 #[.slice ba bn bc, .int .i64 (y : Int)] ((w3.drewN m).drewN n) fun e w'' => e = .returned (.bool i2) ∧ w'' = (w3.drewN m).drewN n := fun m n => by rw [hi2]; exact hhas _ y HXY.out.2 ⟨m + n, World.drewN_drewN _ _ _⟩
    have HI := Lib.hid (And.intro hi1 hi2)
    have HH2' := Lib.hid hh2
    clear hhas hi1 hi2 hsl P3 hh2 htm
    go_wp2_with fail
    go_quiet (first | (go_at_call 36; exact Calls.quiet_of_same (hh1 _)))
    have c24 : (w3.drewN nq).cell? ⟨q, 2, none⟩ = _ := c23
    have cl4 : (w3.drewN nq).cell? ⟨gl, ol + t * 3 + 1, none⟩ = _ := cl1
    have cy4 : (w3.drewN nq).cell? ⟨gn, on + j, none⟩ = _ := cy3
    have hh4 := HH2'.out nq
    have HW4 := Lib.hid (show ∃ m, w3.drewN nq = w.drewN m by obtain ⟨m, hm⟩ := HW3.out; exact ⟨m + nq, by rw [hm, World.drewN_drewN]⟩)
    clear c23 cl1 cx3 cy3 hh1 HH2' HW3 HH3
    obtain ⟨w4, hw4⟩ : ∃ x, x = w3.drewN nq := ⟨_, rfl⟩
    rw [← hw4] at c24 cl4 cy4 hh4 HW4 ⊢
    clear hw4
    go_wp2_with fail
    go_quiet (first | (go_at_call 36; exact Calls.quiet_of_same (hh4 _)))
    have HW5 := Lib.hid (show ∃ m, w4.drewN nq = w.drewN m by obtain ⟨m, hm⟩ := HW4.out; exact ⟨m + nq, by rw [hm, World.drewN_drewN]⟩)
    clear c24 cl4 cy4 hh4 HW4
    generalize w4.drewN nq = w5 at HW5 ⊢
    have hsame : i1 = i2 → C = if k = 0 then c38 else c58 := fun e => HC.out.trans (chT_s HD.out HZ.out (HI.out.1.symm.trans (e.trans HI.out.2)))
    have HSame := Lib.hid hsame
    clear hsame
    cases i1 <;> cases i2
    ·by_cases hk0 : k = 0
     ·have hkv : (k : Int) = 0 := by omega
      have HV2 := Lib.hid (show C = c38 by rw [HSame.out rfl, if_pos hk0])
      go_wp2
      go_ret
      exact ⟨by rw [HV2.out]; rfl, HW5.out⟩
     ·have hkv : (k : Int) ≠ 0 := by omega
      have hkb : ((k : Int) == 0) = false := beq_eq_false_iff_ne.2 hkv
      have HV2 := Lib.hid (show C = c58 by rw [HSame.out rfl, if_neg hk0])
      go_wp2
      go_ret
      exact ⟨by rw [HV2.out]; rfl, HW5.out⟩
    ·have HV := Lib.hid (HC.out.trans (chT_i2 HD.out HZ.out HI.out.1.symm HI.out.2.symm))
     go_wp2
     go_ret
     exact ⟨by rw [HV.out]; rfl, HW5.out⟩
    ·have HV := Lib.hid (HC.out.trans (chT_i1 HD.out HZ.out HI.out.1.symm HI.out.2.symm))
     go_wp2
     go_ret
     exact ⟨by rw [HV.out]; rfl, HW5.out⟩
    ·by_cases hk0 : k = 0
     ·have hkv : (k : Int) = 0 := by omega
      have HV2 := Lib.hid (show C = c38 by rw [HSame.out rfl, if_pos hk0])
      go_wp2
      go_ret
      exact ⟨by rw [HV2.out]; rfl, HW5.out⟩
     ·have hkv : (k : Int) ≠ 0 := by omega
      have hkb : ((k : Int) == 0) = false := beq_eq_false_iff_ne.2 hkv
      have HV2 := Lib.hid (show C = c58 by rw [HSame.out rfl, if_neg hk0])
      go_wp2
      go_ret
      exact ⟨by rw [HV2.out]; rfl, HW5.out⟩
  ·have HV := Lib.hid (HC.out.trans (chT_d2 HX.out.1.symm HX.out.2.symm))
   go_wp2
   go_ret
   exact ⟨by rw [HV.out]; rfl, HW2.out⟩
  ·have HV := Lib.hid (HC.out.trans (chT_d1 HX.out.1.symm HX.out.2.symm))
   go_wp2
   go_ret
   exact ⟨by rw [HV.out]; rfl, HW2.out⟩
  ·have hdm : dm l x b = dm l y b := HX.out.1.symm.trans HX.out.2
   have HD := Lib.hid hdm
   clear hdm HX
   go_wp2_with fail
   refine (inner_ok w2 q l b HH2.out HB.out.1).mono ?_
   rintro e w3 ⟨rfl, m3, hw3⟩
   obtain ⟨z, hz⟩ : ∃ z, z = inn l b (nL l) := ⟨_, rfl⟩
   rw [← hz]
   have HZ := Lib.hid hz.symm
   have hzl : z < 8 := by rw [hz]; have := (@inn_is l b (nL l)).2; have h8 : nL l ≤ 8 := HP.out.g.hd8; omega
   have HW3 := Lib.hid (show ∃ m, w3 = w.drewN m by obtain ⟨m, hm⟩ := HW2.out; exact ⟨m + m3, by rw [hw3, hm, World.drewN_drewN]⟩)
   have HH3 := Lib.hid (show RFinP l q w3 by rw [hw3]; exact HH2.out.below (bDrewN (bRefl w2) m3))
   have cx3 : w3.cell? ⟨gn, on + k, none⟩ = some (.int .i64 (x : Int)) := by rw [hw3]; exact cx2
   have cy3 : w3.cell? ⟨gn, on + j, none⟩ = some (.int .i64 (y : Int)) := by rw [hw3]; exact cy2
   clear hw3 HW2 HH2 c02 cx2 cy2 hz
   by_cases hz0 : z < 0
   ·have hzn : ¬ (0 ≤ z) := by omega
    have HV := Lib.hid (HC.out.trans (chT_n HD.out (by rw [HZ.out]; exact hz0)))
    clear HC HZ HD
    by_cases hk0 : k = 0
    ·have hkv : (k : Int) = 0 := by omega
     have HV2 := Lib.hid (show C = c38 by rw [HV.out, if_pos hk0])
     clear HV cx3 cy3
     go_wp2
     go_ret
     exact ⟨by rw [HV2.out]; rfl, HW3.out⟩
    ·have hkv : (k : Int) ≠ 0 := by omega
     have hkb : ((k : Int) == 0) = false := beq_eq_false_iff_ne.2 hkv
     have HV2 := Lib.hid (show C = c58 by rw [HV.out, if_neg hk0])
     clear HV cx3 cy3
     go_wp2
     go_ret
     exact ⟨by rw [HV2.out]; rfl, HW3.out⟩
   ·obtain ⟨t, rfl⟩ := Int.eq_ofNat_of_zero_le (show 0 ≤ z by omega)
    have htm : t < nL l := by have := (@inn_is l b (nL l)).2; rw [HZ.out] at this; omega
    obtain ⟨_, _, al3, _, _, cl3, _, P3⟩ := HH3.out.parts
    obtain ⟨gl, ol, ba, bn, bc, rfl, -, cl1, -, hsl⟩ := P3.ld.one htm
    have c23 := P3.c2
    have hti : (t : Int) < (nL l : Int) := by omega
    have hz1 : (0 : Int) ≤ (t : Int) := by omega
    have hhas : ∀ (w' : World) (v : Nat), v < nB l → (∃ n, w' = w3.drewN n) → Calls Try.prog 36 #[.slice ba bn bc, .int .i64 (v : Int)] w' fun e w'' => e = .returned (.bool (inB l t v)) ∧ w'' = w' := fun w' v hv hw' => by
     obtain ⟨n, rfl⟩ := hw'
     refine (has19_ok (w3.drewN n) q _ _ (v : Int) (hsl.below (bDrewN (bRefl w3) n))).mono ?_
     rintro e w'' ⟨rfl, rfl⟩
     rw [blk_has hv]
     exact ⟨rfl, rfl⟩
    obtain ⟨i1, hi1⟩ : ∃ v, v = inB l t x := ⟨_, rfl⟩
    obtain ⟨i2, hi2⟩ : ∃ v, v = inB l t y := ⟨_, rfl⟩
    have hh1 : ∀ n, Calls Try.prog 36 #[.slice ba bn bc, .int .i64 (x : Int)] (w3.drewN n) fun e w'' => e = .returned (.bool i1) ∧ w'' = w3.drewN n := fun n => by rw [hi1]; exact hhas _ x HXY.out.1 ⟨n, rfl⟩
    have hh2 : ∀ m n, Calls Try.prog 36 #[.slice ba bn bc, .int .i64 (y : Int)] ((w3.drewN m).drewN n) fun e w'' => e = .returned (.bool i2) ∧ w'' = (w3.drewN m).drewN n := fun m n => by rw [hi2]; exact hhas _ y HXY.out.2 ⟨m + n, World.drewN_drewN _ _ _⟩
    have HI := Lib.hid (And.intro hi1 hi2)
    have HH2' := Lib.hid hh2
    clear hhas hi1 hi2 hsl P3 hh2 htm
    go_wp2_with fail
    go_quiet (first | (go_at_call 36; exact Calls.quiet_of_same (hh1 _)))
    have c24 : (w3.drewN nq).cell? ⟨q, 2, none⟩ = _ := c23
    have cl4 : (w3.drewN nq).cell? ⟨gl, ol + t * 3 + 1, none⟩ = _ := cl1
    have cy4 : (w3.drewN nq).cell? ⟨gn, on + j, none⟩ = _ := cy3
    have hh4 := HH2'.out nq
    have HW4 := Lib.hid (show ∃ m, w3.drewN nq = w.drewN m by obtain ⟨m, hm⟩ := HW3.out; exact ⟨m + nq, by rw [hm, World.drewN_drewN]⟩)
    clear c23 cl1 cx3 cy3 hh1 HH2' HW3 HH3
    obtain ⟨w4, hw4⟩ : ∃ x, x = w3.drewN nq := ⟨_, rfl⟩
    rw [← hw4] at c24 cl4 cy4 hh4 HW4 ⊢
    clear hw4
    go_wp2_with fail
    go_quiet (first | (go_at_call 36; exact Calls.quiet_of_same (hh4 _)))
    have HW5 := Lib.hid (show ∃ m, w4.drewN nq = w.drewN m by obtain ⟨m, hm⟩ := HW4.out; exact ⟨m + nq, by rw [hm, World.drewN_drewN]⟩)
    clear c24 cl4 cy4 hh4 HW4
    generalize w4.drewN nq = w5 at HW5 ⊢
    have hsame : i1 = i2 → C = if k = 0 then c38 else c58 := fun e => HC.out.trans (chT_s HD.out HZ.out (HI.out.1.symm.trans (e.trans HI.out.2)))
    have HSame := Lib.hid hsame
    clear hsame
    cases i1 <;> cases i2
    ·by_cases hk0 : k = 0
     ·have hkv : (k : Int) = 0 := by omega
      have HV2 := Lib.hid (show C = c38 by rw [HSame.out rfl, if_pos hk0])
      go_wp2
      go_ret
      exact ⟨by rw [HV2.out]; rfl, HW5.out⟩
     ·have hkv : (k : Int) ≠ 0 := by omega
      have hkb : ((k : Int) == 0) = false := beq_eq_false_iff_ne.2 hkv
      have HV2 := Lib.hid (show C = c58 by rw [HSame.out rfl, if_neg hk0])
      go_wp2
      go_ret
      exact ⟨by rw [HV2.out]; rfl, HW5.out⟩
    ·have HV := Lib.hid (HC.out.trans (chT_i2 HD.out HZ.out HI.out.1.symm HI.out.2.symm))
     go_wp2
     go_ret
     exact ⟨by rw [HV.out]; rfl, HW5.out⟩
    ·have HV := Lib.hid (HC.out.trans (chT_i1 HD.out HZ.out HI.out.1.symm HI.out.2.symm))
     go_wp2
     go_ret
     exact ⟨by rw [HV.out]; rfl, HW5.out⟩
    ·by_cases hk0 : k = 0
     ·have hkv : (k : Int) = 0 := by omega
      have HV2 := Lib.hid (show C = c38 by rw [HSame.out rfl, if_pos hk0])
      go_wp2
      go_ret
      exact ⟨by rw [HV2.out]; rfl, HW5.out⟩
     ·have hkv : (k : Int) ≠ 0 := by omega
      have hkb : ((k : Int) == 0) = false := beq_eq_false_iff_ne.2 hkv
      have HV2 := Lib.hid (show C = c58 by rw [HSame.out rfl, if_neg hk0])
      go_wp2
      go_ret
      exact ⟨by rw [HV2.out]; rfl, HW5.out⟩
end Go.Proofs.Ytndnfjcfpcfakaa
namespace Go.Ht
open Go.Fl Go.Proofs.Ytndnfjcfpcfakaa
section
variable {l : List In} {W : Nat → Nat} {loop : Int} {b u : Nat} {bk : Bool}
theorem egU_fst : ∀ {k : Nat} {e : Nat × Nat}, e ∈ egU l u b k → e.1 = u
 | 0, e, h => by cases h
 | k + 1, e, h => by
  unfold egU at h
  split at h
  ·rcases List.mem_append.1 h with h | h
   ·exact egU_fst h
   ·rw [List.mem_singleton] at h; rw [h]
  ·exact egU_fst h
theorem brF_out (h : hol l loop u = false) : ∀ (es : List (Nat × Nat)) (s : Nat), (∀ e ∈ es, e.1 = u) → es.foldl (brS l W loop b bk) s = s
 | [], _, _ => rfl
 | e :: es, s, he => by
  have h1 : brS l W loop b bk s e = s := by
   unfold brS
   rw [if_neg (fun k => by rw [he e (List.mem_cons_self ..), h] at k; exact absurd k.1 (by simp))]
  rw [List.foldl_cons, h1]
  exact brF_out h es s fun e' h' => he e' (List.mem_cons_of_mem _ h')
theorem egs_succ : (egs l b (u + 1)).foldl (brS l W loop b bk) 0 = (egU l u b (nxt l u).length).foldl (brS l W loop b bk) ((egs l b u).foldl (brS l W loop b bk) 0) := by
 show (egs l b u ++ egU l u b (nxt l u).length).foldl _ 0 = _
 rw [List.foldl_append]
theorem egU_yes {k s : Nat} (h : (nxt l u).getD k 0 = b) (hh : hol l loop u = true) (hd : dm l b u = bk) : (egU l u b (k + 1)).foldl (brS l W loop b bk) s = fadd ((egU l u b k).foldl (brS l W loop b bk) s) (fmul (W u) (chn l u k)) := by
 rw [egU, if_pos h, List.foldl_append, List.foldl_cons, List.foldl_nil]
 exact if_pos ⟨hh, hd⟩
theorem egU_bk {k s : Nat} (hd : dm l b u ≠ bk) : (egU l u b (k + 1)).foldl (brS l W loop b bk) s = (egU l u b k).foldl (brS l W loop b bk) s := by
 rw [egU]
 by_cases h : (nxt l u).getD k 0 = b
 ·rw [if_pos h, List.foldl_append, List.foldl_cons, List.foldl_nil]
  exact if_neg fun e => hd e.2
 ·rw [if_neg h]
theorem egU_no {k s : Nat} (h : (nxt l u).getD k 0 ≠ b) : (egU l u b (k + 1)).foldl (brS l W loop b bk) s = (egU l u b k).foldl (brS l W loop b bk) s := by
 rw [egU, if_neg h]
end
end Go.Ht
namespace Go.Proofs.Ytndnfjcfpcfakaa
open Go Go.RowKit Go.Wr Go.Fl Go.Ht
set_option maxHeartbeats 4000000
set_option maxRecDepth 100000
theorem brought_ok (w : World) (q r : Nat) (l : List In) (vw : Value) (W : Nat → Nat) (loop : Int) (b : Nat) (bk : Bool) (h : RFinP l q w) (hW : SlX tF r w vw ((List.range (nB l)).map W)) (hle : ∀ c, W c ≤ inf) (hl1 : -1 ≤ loop) (hl2 : loop < (nL l : Int)) (hb : b < nB l) :
  Calls Try.prog 64 #[.pointer (some ⟨q, 0, none⟩), vw, .int .i64 loop, .int .i64 (b : Int), .bool bk] w fun e w' => e = .returned (.float .f64 (brg l W loop b bk)) ∧ ∃ m, w' = w.drewN m := by
 obtain ⟨ab, ad, al, cb, cd, cl, vr, P⟩ := h.parts
 have HH := Lib.hid h
 have HP := Lib.hid P
 have h512 := P.g.n512
 have h8 : nL l ≤ 8 := P.g.hd8
 obtain ⟨wa, wc, rfl, hw1, hw2⟩ := hW.form
 have HW := Lib.hid hW
 have HL := Lib.hid (And.intro hle (And.intro hb P.lc))
 have hbi : (b : Int) < (nB l : Int) := by omega
 obtain ⟨C, hC⟩ : ∃ c, c = brg l W loop b bk := ⟨_, rfl⟩
 rw [← hC]
 have HC := Lib.hid hC
 rw [List.length_map, List.length_range]
 clear h P hW hle hb hC hw1 hw2
 go_enter Try.func64, Try.ntmps64
 go_wp2
 go_loopw [11, 12, 13, 14] (fun t u _ _ wr => ∃ (i s k : Nat), i ≤ nB l ∧ u = .int .i64 (i : Int) ∧ t = .float .f64 s ∧ s ≤ inf ∧ Hid (s = (egs l b i).foldl (brS l W loop b bk) 0) ∧ Hid (wr = w.drewN k)) (fun _ u _ _ _ => nB l - (intOf u).toNat)
 case atStart => exact ⟨0, 0, 0, by omega, rfl, rfl, Nat.zero_le _, rfl, rfl⟩
 case round =>
  obtain ⟨i, s, k, hi, rfl, rfl, hs, hq, hwr⟩ := hrel
  obtain ⟨V, rfl⟩ : ∃ x : World, x = wr := ⟨_, rfl⟩
  have c0 : V.cell? ⟨q, 0, none⟩ = some (.slice ab (nB l) cb) := by rw [hwr.out]; exact HP.out.c0
  by_cases hlt : i < nB l
  ·have hlt' : (i : Int) < (nB l : Int) := by omega
   obtain ⟨gb, ob, na, nn, nc, rfl, cnw, hnn, hsn⟩ := HP.out.bd.next hlt
   have stay : hol l loop i = false → Hid (s = (egs l b (i + 1)).foldl (brS l W loop b bk) 0) := fun hh => by
    show _ = _
    rw [egs_succ, brF_out hh _ _ fun e he => egU_fst he]
    exact hq.out
   have HST := Lib.hid stay
   have go1 : ∀ s' : Nat, s' = (egU l i b nn).foldl (brS l W loop b bk) s → Hid (s' = (egs l b (i + 1)).foldl (brS l W loop b bk) 0) := fun s' hs' => by
    show _ = _
    rw [egs_succ, ← hq.out, hs', hnn]
   have HGO := Lib.hid go1
   have hn2 : nn ≤ 2 := by rw [hnn]; exact nxt_two l i
   have HNN := Lib.hid (And.intro hnn (And.intro hsn cnw))
   clear stay go1 hq hnn hsn cnw
   by_cases hneg : loop < 0
   ·have hh : hol l loop i = true := by unfold hol; rw [decide_eq_true hneg]; rfl
    have HHol := Lib.hid hh
    have hgd : decide (loop ≥ 0) = false := decide_eq_false (by omega)
    have hng : ¬ (0 ≤ loop) := by omega
    clear hh
    go_upto_region 6 with (fail)
    clear c0
    go_wp2
    go_loopw [11, 13, 14] (fun t u _ wr => ∃ (j s' k' : Nat), j ≤ nn ∧ u = .int .i64 (j : Int) ∧ t = .float .f64 s' ∧ s' ≤ inf ∧ Hid (s' = (egU l i b j).foldl (brS l W loop b bk) s) ∧ Hid (wr = w.drewN k')) (fun _ u _ _ => nn - (intOf u).toNat)
    case atStart => exact ⟨0, s, k, by omega, rfl, rfl, hs, rfl, hwr.out⟩
    case round =>
     clear hwr
     obtain ⟨j, s', k', hj, rfl, rfl, hs', hq, hwr⟩ := hrel
     obtain ⟨U, rfl⟩ : ∃ x : World, x = wr := ⟨_, rfl⟩
     have c0 : U.cell? ⟨q, 0, none⟩ = some (.slice (some ⟨gb, ob, none⟩) (nB l) cb) := by rw [hwr.out]; exact HP.out.c0
     have cn : U.cell? ⟨gb, ob + i * 3 + 2, none⟩ = some (.slice na nn nc) := by rw [hwr.out]; exact HNN.out.2.2
     by_cases hjl : j < nn
     ·have hjl' : (j : Int) < (nn : Int) := by omega
      obtain ⟨x, hx⟩ : ∃ x, x = (nxt l i).getD j 0 := ⟨_, rfl⟩
      obtain ⟨gn, on, rfl, -, -, cxw⟩ := SlX.int HNN.out.2.1 (nI_at (show j < (nxt l i).length by rw [← HNN.out.1]; exact hjl))
      rw [← hx] at cxw
      have cx : U.cell? ⟨gn, on + j, none⟩ = some (.int .i64 (x : Int)) := by rw [hwr.out]; exact cxw
      have HX := Lib.hid hx
      clear cxw hx
      by_cases hxb : x = b
      ·subst hxb
       obtain ⟨gd, od, da, dc, had, cdw, hd1⟩ := HP.out.dt x HL.out.2.1
       obtain ⟨g1, o1, rfl, ctw⟩ := hd1 i hlt
       have c1 : U.cell? ⟨q, 1, none⟩ = some (.slice (some ⟨gd, od, none⟩) (nB l) cd) := by rw [hwr.out, ← had]; exact HP.out.c1
       have cd1 : U.cell? ⟨gd, od + x, none⟩ = some (.slice (some ⟨g1, o1, none⟩) (nB l) dc) := by rw [hwr.out]; exact cdw
       obtain ⟨d, hd⟩ : ∃ d, d = dm l x i := ⟨_, rfl⟩
       have ct : U.cell? ⟨g1, o1 + i, none⟩ = some (.bool d) := by rw [hwr.out, hd]; exact ctw
       have HD := Lib.hid hd
       clear cdw hd1 ctw had hd
       by_cases hdb : d = bk
       ·subst hdb
        obtain ⟨gw, ow, rfl, -, -, cww⟩ := SlX.flo HW.out (k := i) (x := W i) (by rw [List.getElem?_map, List.getElem?_range hlt]; rfl)
        have cw : U.cell? ⟨gw, ow + i, none⟩ = some (.float .f64 (W i)) := by rw [hwr.out]; exact cww
        obtain ⟨ch, hch⟩ : ∃ c, c = chn l i j := ⟨_, rfl⟩
        have hop1 := hop_mul (show Ieee.double.mul (W i) ch = some (fmul (W i) ch) from mul_nn (HL.out.1 i) (by rw [hch]; exact chn_in.2) (by rw [hch]; exact chn_in.1))
        have hop2 := hop_add (show Ieee.double.add s' (fmul (W i) ch) = some (fadd s' (fmul (W i) ch)) from add_nn hs' (fmul_le _ _))
        have hchn : ∀ n, Calls Try.prog 32 #[.pointer (some ⟨q, 0, none⟩), .int .i64 (i : Int), .int .i64 (j : Int)] (U.drewN n) fun e w'' => e = .returned (.float .f64 ch) ∧ ∃ m, w'' = (U.drewN n).drewN m := fun n => by
         rw [hch, hwr.out]
         exact rchance_ok _ q l i j (HH.out.below (bDrewN (bDrewN (bRefl w) k') n)) hlt (by rw [← HNN.out.1]; exact hjl)
        have HQ : Hid (fadd s' (fmul (W i) ch) = (egU l i x (j + 1)).foldl (brS l W loop x d) s) := by
         show _ = _
         rw [egU_yes HX.out.symm HHol.out HD.out.symm, ← hq.out, hch]
        have HWN := Lib.hid (fun n => by rw [hwr.out, World.drewN_drewN] : ∀ n, U.drewN n = w.drewN (k' + n))
        have hfl := fadd_le s' (fmul (W i) ch)
        clear hq HX HD hch cww hwr
        go_wp2_with fail
        go_quiet (first | (go_at_call 32; exact Calls.quiet_of (hchn _)))
        have HW9 := Lib.hid (HWN.out nq)
        clear hchn HWN c0 cn cx c1 cd1 ct cw
        generalize U.drewN nq = U9 at HW9 ⊢
        go_wp2_with (simp only [hop2])
        go_roundw
        all_goals first
         | exact ⟨j + 1, _, _, by omega, by go_num, rfl, hfl, HQ, HW9.out⟩
         | ((repeat apply Exists.intro); exact ⟨⟨j + 1, _, _, by omega, by go_num, rfl, hfl, HQ, HW9.out⟩, rfl⟩)
         | (simp [intOf] <;> omega)
       ·have hdb' : (d == bk) = false := beq_eq_false_iff_ne.2 hdb
        have HQ : Hid (s' = (egU l i x (j + 1)).foldl (brS l W loop x bk) s) := by
         show _ = _
         rw [egU_bk (by rw [← HD.out]; exact hdb)]
         exact hq.out
        clear hq HX HD
        go_wp2
        go_roundw
        all_goals first
         | exact ⟨j + 1, _, _, by omega, by go_num, rfl, hs', HQ, hwr⟩
         | ((repeat apply Exists.intro); exact ⟨⟨j + 1, _, _, by omega, by go_num, rfl, hs', HQ, hwr⟩, rfl⟩)
         | (simp [intOf] <;> omega)
      ·have hxb' : (x : Int) ≠ (b : Int) := by omega
       have hxb2 : ((x : Int) == (b : Int)) = false := beq_eq_false_iff_ne.2 hxb'
       have HQ : Hid (s' = (egU l i b (j + 1)).foldl (brS l W loop b bk) s) := by
        show _ = _
        rw [egU_no (by rw [← HX.out]; exact hxb)]
        exact hq.out
       clear hq HX
       go_wp2
       go_roundw
       all_goals first
        | exact ⟨j + 1, _, _, by omega, by go_num, rfl, hs', HQ, hwr⟩
        | ((repeat apply Exists.intro); exact ⟨⟨j + 1, _, _, by omega, by go_num, rfl, hs', HQ, hwr⟩, rfl⟩)
        | (simp [intOf] <;> omega)
     ·have hje : j = nn := by omega
      have HQ := HGO.out s' (by rw [← hje]; exact hq.out)
      have hjl' : ¬ (j : Int) < (nn : Int) := by omega
      clear hq hje HGO HST
      go_wp2
      go_roundw
      all_goals first
       | exact ⟨i + 1, s', k', by omega, by go_num, rfl, hs', HQ, hwr⟩
       | ((repeat apply Exists.intro); exact ⟨⟨i + 1, s', k', by omega, by go_num, rfl, hs', HQ, hwr⟩, rfl⟩)
       | (simp [intOf] <;> omega)
   ·obtain ⟨t, ht⟩ := Int.eq_ofNat_of_zero_le (show 0 ≤ loop by omega)
    have htn : t < nL l := by omega
    have etn : loop.toNat = t := by omega
    have hl0 : 0 ≤ loop := by omega
    have hgd : decide (loop ≥ 0) = true := decide_eq_true hl0
    obtain ⟨gl, ol, ba, bn, bc, hal, -, cl1w, -, hsl⟩ := HP.out.ld.one htn
    have cl1 : V.cell? ⟨gl, ol + t * 3 + 1, none⟩ = some (.slice ba bn bc) := by rw [hwr.out]; exact cl1w
    have c2 : V.cell? ⟨q, 2, none⟩ = some (.slice (some ⟨gl, ol, none⟩) (nL l) cl) := by rw [hwr.out, ← hal]; exact HP.out.c2
    have hhas : Calls Try.prog 36 #[.slice ba bn bc, .int .i64 (i : Int)] V fun e w'' => e = .returned (.bool (inB l t i)) ∧ w'' = V := by
     refine (has19_ok V q _ _ (i : Int) (by rw [hwr.out]; exact hsl.below (bDrewN (bRefl w) k))).mono ?_
     rintro e w'' ⟨rfl, rfl⟩
     rw [blk_has hlt]
     exact ⟨rfl, rfl⟩
    have hh : hol l loop i = inB l t i := by unfold hol; rw [decide_eq_false hneg, Bool.false_or, etn]
    have HHas := Lib.hid hhas
    have HHol0 := Lib.hid hh
    clear hhas hh hsl cl1w hal ht
    go_wp2_with fail
    refine HHas.out.mono ?_
    rintro e w5 ⟨rfl, rfl⟩
    clear HHas cl1 c2 c0 etn
    cases hv : inB l t i with
    | false =>
     have HQ := HST.out (HHol0.out.trans hv)
     clear HST HGO HNN HHol0 hv
     go_wp2
     go_roundw
     all_goals first
      | exact ⟨i + 1, s, k, by omega, by go_num, rfl, hs, HQ, hwr⟩
      | ((repeat apply Exists.intro); exact ⟨⟨i + 1, s, k, by omega, by go_num, rfl, hs, HQ, hwr⟩, rfl⟩)
      | (simp [intOf] <;> omega)
    | true =>
     have HHol := Lib.hid (HHol0.out.trans hv)
     clear HHol0 hv
     go_upto_region 6 with (fail)
     go_wp2
     go_loopw [11, 13, 14] (fun t u _ wr => ∃ (j s' k' : Nat), j ≤ nn ∧ u = .int .i64 (j : Int) ∧ t = .float .f64 s' ∧ s' ≤ inf ∧ Hid (s' = (egU l i b j).foldl (brS l W loop b bk) s) ∧ Hid (wr = w.drewN k')) (fun _ u _ _ => nn - (intOf u).toNat)
     case atStart => exact ⟨0, s, k, by omega, rfl, rfl, hs, rfl, hwr.out⟩
     case round =>
      clear hwr
      obtain ⟨j, s', k', hj, rfl, rfl, hs', hq, hwr⟩ := hrel
      obtain ⟨U, rfl⟩ : ∃ x : World, x = wr := ⟨_, rfl⟩
      have c0 : U.cell? ⟨q, 0, none⟩ = some (.slice (some ⟨gb, ob, none⟩) (nB l) cb) := by rw [hwr.out]; exact HP.out.c0
      have cn : U.cell? ⟨gb, ob + i * 3 + 2, none⟩ = some (.slice na nn nc) := by rw [hwr.out]; exact HNN.out.2.2
      by_cases hjl : j < nn
      ·have hjl' : (j : Int) < (nn : Int) := by omega
       obtain ⟨x, hx⟩ : ∃ x, x = (nxt l i).getD j 0 := ⟨_, rfl⟩
       obtain ⟨gn, on, rfl, -, -, cxw⟩ := SlX.int HNN.out.2.1 (nI_at (show j < (nxt l i).length by rw [← HNN.out.1]; exact hjl))
       rw [← hx] at cxw
       have cx : U.cell? ⟨gn, on + j, none⟩ = some (.int .i64 (x : Int)) := by rw [hwr.out]; exact cxw
       have HX := Lib.hid hx
       clear cxw hx
       by_cases hxb : x = b
       ·subst hxb
        obtain ⟨gd, od, da, dc, had, cdw, hd1⟩ := HP.out.dt x HL.out.2.1
        obtain ⟨g1, o1, rfl, ctw⟩ := hd1 i hlt
        have c1 : U.cell? ⟨q, 1, none⟩ = some (.slice (some ⟨gd, od, none⟩) (nB l) cd) := by rw [hwr.out, ← had]; exact HP.out.c1
        have cd1 : U.cell? ⟨gd, od + x, none⟩ = some (.slice (some ⟨g1, o1, none⟩) (nB l) dc) := by rw [hwr.out]; exact cdw
        obtain ⟨d, hd⟩ : ∃ d, d = dm l x i := ⟨_, rfl⟩
        have ct : U.cell? ⟨g1, o1 + i, none⟩ = some (.bool d) := by rw [hwr.out, hd]; exact ctw
        have HD := Lib.hid hd
        clear cdw hd1 ctw had hd
        by_cases hdb : d = bk
        ·subst hdb
         obtain ⟨gw, ow, rfl, -, -, cww⟩ := SlX.flo HW.out (k := i) (x := W i) (by rw [List.getElem?_map, List.getElem?_range hlt]; rfl)
         have cw : U.cell? ⟨gw, ow + i, none⟩ = some (.float .f64 (W i)) := by rw [hwr.out]; exact cww
         obtain ⟨ch, hch⟩ : ∃ c, c = chn l i j := ⟨_, rfl⟩
         have hop1 := hop_mul (show Ieee.double.mul (W i) ch = some (fmul (W i) ch) from mul_nn (HL.out.1 i) (by rw [hch]; exact chn_in.2) (by rw [hch]; exact chn_in.1))
         have hop2 := hop_add (show Ieee.double.add s' (fmul (W i) ch) = some (fadd s' (fmul (W i) ch)) from add_nn hs' (fmul_le _ _))
         have hchn : ∀ n, Calls Try.prog 32 #[.pointer (some ⟨q, 0, none⟩), .int .i64 (i : Int), .int .i64 (j : Int)] (U.drewN n) fun e w'' => e = .returned (.float .f64 ch) ∧ ∃ m, w'' = (U.drewN n).drewN m := fun n => by
          rw [hch, hwr.out]
          exact rchance_ok _ q l i j (HH.out.below (bDrewN (bDrewN (bRefl w) k') n)) hlt (by rw [← HNN.out.1]; exact hjl)
         have HQ : Hid (fadd s' (fmul (W i) ch) = (egU l i x (j + 1)).foldl (brS l W loop x d) s) := by
          show _ = _
          rw [egU_yes HX.out.symm HHol.out HD.out.symm, ← hq.out, hch]
         have HWN := Lib.hid (fun n => by rw [hwr.out, World.drewN_drewN] : ∀ n, U.drewN n = w.drewN (k' + n))
         have hfl := fadd_le s' (fmul (W i) ch)
         clear hq HX HD hch cww hwr
         go_wp2_with fail
         go_quiet (first | (go_at_call 32; exact Calls.quiet_of (hchn _)))
         have HW9 := Lib.hid (HWN.out nq)
         clear hchn HWN c0 cn cx c1 cd1 ct cw
         generalize U.drewN nq = U9 at HW9 ⊢
         go_wp2_with (simp only [hop2])
         go_roundw
         all_goals first
          | exact ⟨j + 1, _, _, by omega, by go_num, rfl, hfl, HQ, HW9.out⟩
          | ((repeat apply Exists.intro); exact ⟨⟨j + 1, _, _, by omega, by go_num, rfl, hfl, HQ, HW9.out⟩, rfl⟩)
          | (simp [intOf] <;> omega)
        ·have hdb' : (d == bk) = false := beq_eq_false_iff_ne.2 hdb
         have HQ : Hid (s' = (egU l i x (j + 1)).foldl (brS l W loop x bk) s) := by
          show _ = _
          rw [egU_bk (by rw [← HD.out]; exact hdb)]
          exact hq.out
         clear hq HX HD
         go_wp2
         go_roundw
         all_goals first
          | exact ⟨j + 1, _, _, by omega, by go_num, rfl, hs', HQ, hwr⟩
          | ((repeat apply Exists.intro); exact ⟨⟨j + 1, _, _, by omega, by go_num, rfl, hs', HQ, hwr⟩, rfl⟩)
          | (simp [intOf] <;> omega)
       ·have hxb' : (x : Int) ≠ (b : Int) := by omega
        have hxb2 : ((x : Int) == (b : Int)) = false := beq_eq_false_iff_ne.2 hxb'
        have HQ : Hid (s' = (egU l i b (j + 1)).foldl (brS l W loop b bk) s) := by
         show _ = _
         rw [egU_no (by rw [← HX.out]; exact hxb)]
         exact hq.out
        clear hq HX
        go_wp2
        go_roundw
        all_goals first
         | exact ⟨j + 1, _, _, by omega, by go_num, rfl, hs', HQ, hwr⟩
         | ((repeat apply Exists.intro); exact ⟨⟨j + 1, _, _, by omega, by go_num, rfl, hs', HQ, hwr⟩, rfl⟩)
         | (simp [intOf] <;> omega)
      ·have hje : j = nn := by omega
       have HQ := HGO.out s' (by rw [← hje]; exact hq.out)
       have hjl' : ¬ (j : Int) < (nn : Int) := by omega
       clear hq hje HGO HST
       go_wp2
       go_roundw
       all_goals first
        | exact ⟨i + 1, s', k', by omega, by go_num, rfl, hs', HQ, hwr⟩
        | ((repeat apply Exists.intro); exact ⟨⟨i + 1, s', k', by omega, by go_num, rfl, hs', HQ, hwr⟩, rfl⟩)
        | (simp [intOf] <;> omega)
  ·have hie : i = nB l := by omega
   have HV := Lib.hid (show C = s by rw [HC.out, hq.out, hie]; rfl)
   have hlt' : ¬ (i : Int) < (nB l : Int) := by omega
   clear hq hie
   go_wp2
   go_ret
   exact ⟨by rw [HV.out]; rfl, k, hwr.out⟩
end Go.Proofs.Ytndnfjcfpcfakaa
namespace Go.Proofs.Ytndnfjcfpcfakaa
open Go Go.RowKit Go.Wr Go.Fl Go.Ht
set_option maxHeartbeats 4000000
set_option maxRecDepth 100000
theorem upd_row (W : Nat → Nat) {n b x : Nat} (hb : b < n) : ((List.range n).map W).set b x = (List.range n).map (Ht.upd W b x) := by
 apply List.ext_getElem?
 intro k
 rw [List.getElem?_set, List.length_map, List.length_range]
 by_cases hk : k < n
 ·rw [List.getElem?_map, List.getElem?_map, List.getElem?_range hk]
  by_cases e : b = k
  ·subst e
   rw [if_pos rfl, if_pos hb]
   simp [Ht.upd]
  ·rw [if_neg e]
   simp only [Option.map_some, Ht.upd]
   rw [if_neg (fun h => e h.symm)]
 ·rw [if_neg (by omega), List.getElem?_eq_none (by simp; omega), List.getElem?_eq_none (by simp; omega)]
theorem wtK_succ {l : List In} {t : Nat → Nat} {loop : Int} {hd b : Nat} {bs : List Nat} : wtK l t loop hd (bs ++ [b]) = wst l t loop hd (wtK l t loop hd bs) b := by
 unfold wtK
 rw [List.foldl_append]
 rfl
theorem ord_len {l : List In} (g : G7 l) : (ordL l).length = nB l := by unfold ordL; rw [List.length_reverse, g.len]
theorem ord_lt {l : List In} (g : G7 l) {b : Nat} (h : b ∈ ordL l) : b < nB l := g.dlt b (List.mem_reverse.1 h)
theorem wgt_no {l : List In} {t : Nat → Nat} {loop : Int} {hd b : Nat} {W : Nat → Nat} (h : ¬ (0 ≤ hdd l b (nL l) ∧ hdd l b (nL l) ≠ loop)) : wgt l t loop hd W b = if b = hd then one else brg l W loop b false := by
 unfold wgt
 dsimp only
 rw [if_neg h]
theorem wgt_yes {l : List In} {t : Nat → Nat} {loop : Int} {hd b : Nat} {W : Nat → Nat} (h : 0 ≤ hdd l b (nL l) ∧ hdd l b (nL l) ≠ loop) : wgt l t loop hd W b = fmul (if b = hd then one else brg l W loop b false) (t (hdd l b (nL l)).toNat) := by
 unfold wgt
 dsimp only
 rw [if_pos h]
def TuP (l : List In) (q i : Nat) : Prop := ∀ w, RFinP l q w → Calls Try.prog 66 #[.pointer (some ⟨q, 0, none⟩), .int .i64 (i : Int)] w fun e w' => e = .returned (.float .f64 (tT l i)) ∧ Below w.heap.size w w'
theorem rweights_ok (w : World) (q : Nat) (l : List In) (loop : Int) (h : RFinP l q w) (hl1 : -1 ≤ loop) (hl2 : loop < (nL l : Int)) (hT : ∀ i, i < nL l → hol l loop (hdN l i) = true → (i : Int) ≠ loop → TuP l q i) :
  Calls Try.prog 31 #[.pointer (some ⟨q, 0, none⟩), .int .i64 loop] w fun e w' => Below w.heap.size w w' ∧ ∃ v, e = .returned v ∧ OwR tF w.heap.size w' v ((List.range (nB l)).map (wts l (tT l) loop)) := by
 obtain ⟨ab, ad, al, cb, cd, cl, vr, P⟩ := h.parts
 have HH := Lib.hid h
 have HP := Lib.hid P
 have h512 := P.g.n512
 have h8 : nL l ≤ 8 := P.g.hd8
 have c0 := P.c0
 have c2 := P.c2
 have HT := Lib.hid hT
 obtain ⟨ra, rcap, hvr, hr1, hr2⟩ := P.ro.form
 rw [nI_len, ord_len P.g] at hvr hr1
 subst hvr
 obtain ⟨hd, hhd⟩ : ∃ x, x = hd0 l loop := ⟨_, rfl⟩
 have HHd := Lib.hid hhd
 unfold maxLen at hr2
 clear h P hT hhd
 go_enter Try.func31, Try.ntmps31
 go_upto_region 2 with (refine wpl_make tF 0 rfl rfl (.tmp 15) (.tmp 15) rfl .i64 .i64 _ _ (nB l) rfl rfl rfl rfl (by show 8 * _ ≤ _; omega) (by unfold maxLen; omega) ?_; intro w2 how hbw hsw)
 obtain ⟨g, hg⟩ : ∃ x, x = w.heap.size := ⟨_, rfl⟩
 have hO0 : OwR tF w.heap.size w2 (.slice (some ⟨g, 0, none⟩) (nB l) (nB l)) ((List.range (nB l)).map (wtK l (tT l) loop hd [])) := by
  rw [hg]
  have e : (List.range (nB l)).map (wtK l (tT l) loop hd []) = List.replicate (nB l) 0 := by
   apply List.ext_getElem?
   intro k
   by_cases hk : k < nB l
   ·rw [List.getElem?_map, List.getElem?_range hk, List.getElem?_replicate, if_pos hk]; rfl
   ·rw [List.getElem?_eq_none (by simp; omega), List.getElem?_eq_none (by simp; omega)]
  rw [e]
  exact how
 rw [← hg]
 have HO0 := Lib.hid hO0
 have HB0 := Lib.hid hbw
 have HG := Lib.hid hg
 have hc2 : w2.cell? ⟨q, 2, none⟩ = some (.slice al (nL l) cl) := (hbw.cell HP.out.lt).trans c2
 clear how hbw hsw hO0 c2 c0
 have hgw : w.heap.size ≤ g := by omega
 clear hg
 by_cases hneg : loop < 0
 ·have hgd : decide (loop ≥ 0) = false := decide_eq_false (by omega)
  have hng : ¬ (0 ≤ loop) := by omega
  have hhd0 : hd = 0 := by rw [HHd.out]; unfold hd0; rw [if_pos hneg]
  have hhold : ∀ b, hol l loop b = true := fun b => by unfold hol; rw [decide_eq_true hneg]; rfl
  have HHold := Lib.hid hhold
  have HHd0 := Lib.hid hhd0
  clear hhold hhd0 hc2
  go_wp2
  go_loopw [7, 8, 9, 10] (fun t _ _ _ wr => ∃ (i : Nat), i ≤ nB l ∧ t = .int .i64 (i : Int) ∧ Hid (OwR tF w.heap.size wr (.slice (some ⟨g, 0, none⟩) (nB l) (nB l)) ((List.range (nB l)).map (wtK l (tT l) loop hd ((ordL l).take i)))) ∧ Hid (Below w.heap.size w wr)) (fun t _ _ _ _ => nB l - (intOf t).toNat)
  case atStart => exact ⟨0, by omega, rfl, HO0.out, HB0.out⟩
  case round =>
   clear HO0 HB0
   obtain ⟨i, hi, rfl, hO, hB⟩ := hrel
   obtain ⟨V, rfl⟩ : ∃ x : World, x = wr := ⟨_, rfl⟩
   have c3 : V.cell? ⟨q, 3, none⟩ = some (.slice ra (nB l) rcap) := (hB.out.cell HP.out.lt).trans HP.out.c3
   by_cases hlt : i < nB l
   ·have hlt' : (i : Int) < (nB l : Int) := by omega
    obtain ⟨b, hb⟩ : ∃ b, (ordL l)[i]? = some b := ⟨_, List.getElem?_eq_getElem (by rw [ord_len HP.out.g]; exact hlt)⟩
    have hbn : b < nB l := ord_lt HP.out.g (List.mem_of_getElem? hb)
    obtain ⟨go, oo, rfl, -, -, cow⟩ := SlX.int HP.out.ro (k := i) (x := (b : Int)) (by unfold nI; rw [List.getElem?_map, hb]; rfl)
    have co : V.cell? ⟨go, oo + i, none⟩ = some (.int .i64 (b : Int)) := (SlX.int (HP.out.ro.below hB.out) (k := i) (x := (b : Int)) (by unfold nI; rw [List.getElem?_map, hb]; rfl)).elim fun g' hh => hh.elim fun o' hh => by
     obtain ⟨e1, _, _, e4⟩ := hh
     injection e1 with e1
     injection e1 with e11 e12
     subst e11 e12
     exact e4
    have hW1 : (ordL l).take (i + 1) = (ordL l).take i ++ [b] := by rw [List.take_add_one, hb]; rfl
    obtain ⟨W, hWd⟩ : ∃ W, W = wtK l (tT l) loop hd ((ordL l).take i) := ⟨_, rfl⟩
    have hWle : ∀ c, W c ≤ inf := by rw [hWd]; exact wtK_le
    rw [← hWd] at hO
    have HWn := Lib.hid (show wtK l (tT l) loop hd ((ordL l).take (i + 1)) = Ht.upd W b (wgt l (tT l) loop hd W b) by rw [hW1, wtK_succ, ← hWd]; unfold wst; rw [if_pos (HHold.out b)])
    have HWle := Lib.hid hWle
    have HHeld := Lib.hid (HHold.out b)
    have HR := Lib.hid (HH.out.below hB.out)
    clear hb hW1 hWd hWle cow
    by_cases hbh : b = hd
    ·have hbhb : ((b : Int) != (hd : Int)) = false := by rw [hbh]; simp
     (try have hbz2 : ((b : Int) != 0) = false := by (rw [hbh, HHd0.out]; rfl))
     have HBh := Lib.hid hbh
     obtain ⟨x0, hx0⟩ : ∃ x, x = one := ⟨_, rfl⟩
     have HX := Lib.hid (show x0 = if b = hd then one else brg l W loop b false by rw [if_pos hbh]; exact hx0)
     clear hbh
     have hxle : x0 ≤ inf := by rw [hx0]; decide
     go_upto_region 13 with (fail)
     rw [show (4607182418800017408 : Nat) = x0 from hx0.symm]
     clear hx0 co c3
     go_wp2_with fail
     refine (headed_ok _ q l b HR.out).mono ?_
     rintro e w5 ⟨rfl, rfl⟩
     obtain ⟨U, rfl⟩ : ∃ x : World, x = w5 := ⟨_, rfl⟩
     obtain ⟨z, hz⟩ : ∃ z, z = hdd l b (nL l) := ⟨_, rfl⟩
     rw [← hz]
     have HZ := Lib.hid hz
     have hz1 := (@hdd_is l b (nL l)).2.1
     have hz2 := (@hdd_is l b (nL l)).2.2
     rw [← hz] at hz1 hz2
     clear hz
     by_cases hz0 : z < 0
     ·obtain ⟨y0, hy0⟩ : ∃ y, y = x0 := ⟨_, rfl⟩
      have HY := Lib.hid (show y0 = wgt l (tT l) loop hd W b by rw [hy0, HX.out, wgt_no (fun k => by rw [← HZ.out] at k; omega)])
      rw [← hy0]
      clear hy0
      have hbi : (b : Int) < (nB l : Int) := by omega
      have ck : U.cell? ⟨g, b, none⟩ = some (.float .f64 (W b)) := by
       have h1 := (hO.out.at (k := b) (x := W b) (by rw [List.getElem?_map, List.getElem?_range hbn]; rfl)).cell 0 _ rfl
       have e1 : 0 + b * tF.n + 0 = b := by show 0 + b * 1 + 0 = b; omega
       rw [e1] at h1
       exact h1
      have fk := hO.out.frozen b
      have hset := hO.out.set (k := b) (j := 0) (x := W b) (y := y0) (v := .float .f64 y0) (by rw [List.getElem?_map, List.getElem?_range hbn]; rfl) (by decide) rfl
      have e2 : b * tF.n + 0 = b := by show b * 1 + 0 = b; omega
      have e3 : Ht.upd W b y0 = wtK l (tT l) loop hd ((ordL l).take (i + 1)) := by rw [HWn.out, ← HY.out]
      rw [e2, upd_row W hbn, e3] at hset
      have HO2 := Lib.hid hset
      have HB2 := Lib.hid (hB.out.setCell (p := ⟨g, b, none⟩) hgw (.float .f64 y0))
      have hst : ∀ a m w, (store a (.float .f64 y0) m).run Try.prog w = stored Try.prog w a (.float .f64 y0) m := fun a m w => run_store Try.prog w a _ m rfl
      clear hset e2 e3 hO hB
      go_wp2
      go_roundw
      all_goals first
       | exact ⟨i + 1, by omega, by go_num, HO2.out, HB2.out⟩
       | ((repeat apply Exists.intro); exact ⟨⟨i + 1, by omega, by go_num, HO2.out, HB2.out⟩, rfl⟩)
       | (simp [intOf] <;> omega)
     ·by_cases hzl : z = loop
      ·have hzb : (z != loop) = false := by rw [hzl]; simp
       obtain ⟨y0, hy0⟩ : ∃ y, y = x0 := ⟨_, rfl⟩
       have HY := Lib.hid (show y0 = wgt l (tT l) loop hd W b by rw [hy0, HX.out, wgt_no (fun k => by rw [← HZ.out] at k; exact k.2 hzl)])
       rw [← hy0]
       have hz3 : 0 ≤ z := by omega
       clear hy0 hzl
       have hbi : (b : Int) < (nB l : Int) := by omega
       have ck : U.cell? ⟨g, b, none⟩ = some (.float .f64 (W b)) := by
        have h1 := (hO.out.at (k := b) (x := W b) (by rw [List.getElem?_map, List.getElem?_range hbn]; rfl)).cell 0 _ rfl
        have e1 : 0 + b * tF.n + 0 = b := by show 0 + b * 1 + 0 = b; omega
        rw [e1] at h1
        exact h1
       have fk := hO.out.frozen b
       have hset := hO.out.set (k := b) (j := 0) (x := W b) (y := y0) (v := .float .f64 y0) (by rw [List.getElem?_map, List.getElem?_range hbn]; rfl) (by decide) rfl
       have e2 : b * tF.n + 0 = b := by show b * 1 + 0 = b; omega
       have e3 : Ht.upd W b y0 = wtK l (tT l) loop hd ((ordL l).take (i + 1)) := by rw [HWn.out, ← HY.out]
       rw [e2, upd_row W hbn, e3] at hset
       have HO2 := Lib.hid hset
       have HB2 := Lib.hid (hB.out.setCell (p := ⟨g, b, none⟩) hgw (.float .f64 y0))
       have hst : ∀ a m w, (store a (.float .f64 y0) m).run Try.prog w = stored Try.prog w a (.float .f64 y0) m := fun a m w => run_store Try.prog w a _ m rfl
       clear hset e2 e3 hO hB
       go_wp2
       go_roundw
       all_goals first
        | exact ⟨i + 1, by omega, by go_num, HO2.out, HB2.out⟩
        | ((repeat apply Exists.intro); exact ⟨⟨i + 1, by omega, by go_num, HO2.out, HB2.out⟩, rfl⟩)
        | (simp [intOf] <;> omega)
      ·have hzb : (z != loop) = true := by simpa using hzl
       obtain ⟨t, rfl⟩ := Int.eq_ofNat_of_zero_le (show 0 ≤ z by omega)
       have hz3 : (0 : Int) ≤ (t : Int) := by omega
       obtain ⟨k1, k2⟩ := (@hdd_is l b (nL l)).1 (by rw [← HZ.out]; exact hz3)
       rw [← HZ.out, Int.toNat_natCast] at k1 k2
       have HTu := Lib.hid (HT.out t k1 (by rw [k2]; exact HHeld.out) hzl U HR.out)
       have hop := hop_mul (show Ieee.double.mul x0 (tT l t) = some (fmul x0 (tT l t)) from mul_nn hxle (Nat.lt_of_le_of_lt tT_in.2 (by decide)) (Nat.lt_of_lt_of_le (by decide) tT_in.1))
       obtain ⟨y0, hy0⟩ : ∃ y, y = fmul x0 (tT l t) := ⟨_, rfl⟩
       have HY := Lib.hid (show y0 = wgt l (tT l) loop hd W b by rw [hy0, HX.out, wgt_yes (by rw [← HZ.out]; exact ⟨hz3, hzl⟩), ← HZ.out, Int.toNat_natCast])
       rw [← hy0] at hop
       obtain ⟨T0, hT0⟩ : ∃ y, y = tT l t := ⟨_, rfl⟩
       rw [← hT0] at hop HTu
       clear hy0 hT0 k1 k2
       go_wp2_with fail
       refine HTu.out.mono ?_
       rintro e w6 ⟨rfl, b6⟩
       have hO6 := Lib.hid (hO.out.below b6)
       have hB6 := Lib.hid (bThen hB.out b6)
       clear hO hB HTu b6
       have hO := hO6
       have hB := hB6
       clear hO6 hB6
       obtain ⟨U, rfl⟩ : ∃ x : World, x = w6 := ⟨_, rfl⟩
       go_upto_region 16 with (fail)
       clear hop
       have hbi : (b : Int) < (nB l : Int) := by omega
       have ck : U.cell? ⟨g, b, none⟩ = some (.float .f64 (W b)) := by
        have h1 := (hO.out.at (k := b) (x := W b) (by rw [List.getElem?_map, List.getElem?_range hbn]; rfl)).cell 0 _ rfl
        have e1 : 0 + b * tF.n + 0 = b := by show 0 + b * 1 + 0 = b; omega
        rw [e1] at h1
        exact h1
       have fk := hO.out.frozen b
       have hset := hO.out.set (k := b) (j := 0) (x := W b) (y := y0) (v := .float .f64 y0) (by rw [List.getElem?_map, List.getElem?_range hbn]; rfl) (by decide) rfl
       have e2 : b * tF.n + 0 = b := by show b * 1 + 0 = b; omega
       have e3 : Ht.upd W b y0 = wtK l (tT l) loop hd ((ordL l).take (i + 1)) := by rw [HWn.out, ← HY.out]
       rw [e2, upd_row W hbn, e3] at hset
       have HO2 := Lib.hid hset
       have HB2 := Lib.hid (hB.out.setCell (p := ⟨g, b, none⟩) hgw (.float .f64 y0))
       have hst : ∀ a m w, (store a (.float .f64 y0) m).run Try.prog w = stored Try.prog w a (.float .f64 y0) m := fun a m w => run_store Try.prog w a _ m rfl
       clear hset e2 e3 hO hB
       go_wp2
       go_roundw
       all_goals first
        | exact ⟨i + 1, by omega, by go_num, HO2.out, HB2.out⟩
        | ((repeat apply Exists.intro); exact ⟨⟨i + 1, by omega, by go_num, HO2.out, HB2.out⟩, rfl⟩)
        | (simp [intOf] <;> omega)
    ·have hbh' : (b : Int) ≠ (hd : Int) := by omega
     have hbhb : ((b : Int) != (hd : Int)) = true := by simpa using hbh'
     (try have hbz : (b : Int) ≠ 0 := by (have := HHd0.out; omega))
     (try have hbz2 : ((b : Int) != 0) = true := by simpa using hbz)
     have HBr := Lib.hid (brought_ok V q V.heap.size l _ W loop b false HR.out (hO.out.sl (fun e => by have := hO.out.lt e; omega)) HWle.out hl1 hl2 hbn)
     have HBn := Lib.hid hbh
     clear hbh hbh'
     (try clear hbz)
     go_wp2_with fail
     (try clear co c3)
     refine HBr.out.mono ?_
     rintro e w4 ⟨rfl, m4, hw4⟩
     obtain ⟨x0, hx0⟩ : ∃ x, x = brg l W loop b false := ⟨_, rfl⟩
     rw [← hx0]
     have HX := Lib.hid (show x0 = if b = hd then one else brg l W loop b false by rw [if_neg HBn.out]; exact hx0)
     have hxle : x0 ≤ inf := by rw [hx0]; exact brg_le
     have hO4 : Hid (OwR tF w.heap.size w4 (.slice (some ⟨g, 0, none⟩) (nB l) (nB l)) ((List.range (nB l)).map W)) := by rw [hw4]; exact hO.out.keep fun _ _ => rfl
     have hB4 : Hid (Below w.heap.size w w4) := by rw [hw4]; exact bDrewN hB.out m4
     have HR4 : Hid (RFinP l q w4) := by rw [hw4]; exact HR.out.below (bDrewN (bRefl V) m4)
     clear hx0 hO hB HR HBr hw4
     have hO := hO4
     have hB := hB4
     have HR := HR4
     clear hO4 hB4 HR4
     go_wp2_with fail
     refine (headed_ok _ q l b HR.out).mono ?_
     rintro e w5 ⟨rfl, rfl⟩
     obtain ⟨U, rfl⟩ : ∃ x : World, x = w5 := ⟨_, rfl⟩
     obtain ⟨z, hz⟩ : ∃ z, z = hdd l b (nL l) := ⟨_, rfl⟩
     rw [← hz]
     have HZ := Lib.hid hz
     have hz1 := (@hdd_is l b (nL l)).2.1
     have hz2 := (@hdd_is l b (nL l)).2.2
     rw [← hz] at hz1 hz2
     clear hz
     by_cases hz0 : z < 0
     ·obtain ⟨y0, hy0⟩ : ∃ y, y = x0 := ⟨_, rfl⟩
      have HY := Lib.hid (show y0 = wgt l (tT l) loop hd W b by rw [hy0, HX.out, wgt_no (fun k => by rw [← HZ.out] at k; omega)])
      rw [← hy0]
      clear hy0
      have hbi : (b : Int) < (nB l : Int) := by omega
      have ck : U.cell? ⟨g, b, none⟩ = some (.float .f64 (W b)) := by
       have h1 := (hO.out.at (k := b) (x := W b) (by rw [List.getElem?_map, List.getElem?_range hbn]; rfl)).cell 0 _ rfl
       have e1 : 0 + b * tF.n + 0 = b := by show 0 + b * 1 + 0 = b; omega
       rw [e1] at h1
       exact h1
      have fk := hO.out.frozen b
      have hset := hO.out.set (k := b) (j := 0) (x := W b) (y := y0) (v := .float .f64 y0) (by rw [List.getElem?_map, List.getElem?_range hbn]; rfl) (by decide) rfl
      have e2 : b * tF.n + 0 = b := by show b * 1 + 0 = b; omega
      have e3 : Ht.upd W b y0 = wtK l (tT l) loop hd ((ordL l).take (i + 1)) := by rw [HWn.out, ← HY.out]
      rw [e2, upd_row W hbn, e3] at hset
      have HO2 := Lib.hid hset
      have HB2 := Lib.hid (hB.out.setCell (p := ⟨g, b, none⟩) hgw (.float .f64 y0))
      have hst : ∀ a m w, (store a (.float .f64 y0) m).run Try.prog w = stored Try.prog w a (.float .f64 y0) m := fun a m w => run_store Try.prog w a _ m rfl
      clear hset e2 e3 hO hB
      go_wp2
      go_roundw
      all_goals first
       | exact ⟨i + 1, by omega, by go_num, HO2.out, HB2.out⟩
       | ((repeat apply Exists.intro); exact ⟨⟨i + 1, by omega, by go_num, HO2.out, HB2.out⟩, rfl⟩)
       | (simp [intOf] <;> omega)
     ·by_cases hzl : z = loop
      ·have hzb : (z != loop) = false := by rw [hzl]; simp
       obtain ⟨y0, hy0⟩ : ∃ y, y = x0 := ⟨_, rfl⟩
       have HY := Lib.hid (show y0 = wgt l (tT l) loop hd W b by rw [hy0, HX.out, wgt_no (fun k => by rw [← HZ.out] at k; exact k.2 hzl)])
       rw [← hy0]
       have hz3 : 0 ≤ z := by omega
       clear hy0 hzl
       have hbi : (b : Int) < (nB l : Int) := by omega
       have ck : U.cell? ⟨g, b, none⟩ = some (.float .f64 (W b)) := by
        have h1 := (hO.out.at (k := b) (x := W b) (by rw [List.getElem?_map, List.getElem?_range hbn]; rfl)).cell 0 _ rfl
        have e1 : 0 + b * tF.n + 0 = b := by show 0 + b * 1 + 0 = b; omega
        rw [e1] at h1
        exact h1
       have fk := hO.out.frozen b
       have hset := hO.out.set (k := b) (j := 0) (x := W b) (y := y0) (v := .float .f64 y0) (by rw [List.getElem?_map, List.getElem?_range hbn]; rfl) (by decide) rfl
       have e2 : b * tF.n + 0 = b := by show b * 1 + 0 = b; omega
       have e3 : Ht.upd W b y0 = wtK l (tT l) loop hd ((ordL l).take (i + 1)) := by rw [HWn.out, ← HY.out]
       rw [e2, upd_row W hbn, e3] at hset
       have HO2 := Lib.hid hset
       have HB2 := Lib.hid (hB.out.setCell (p := ⟨g, b, none⟩) hgw (.float .f64 y0))
       have hst : ∀ a m w, (store a (.float .f64 y0) m).run Try.prog w = stored Try.prog w a (.float .f64 y0) m := fun a m w => run_store Try.prog w a _ m rfl
       clear hset e2 e3 hO hB
       go_wp2
       go_roundw
       all_goals first
        | exact ⟨i + 1, by omega, by go_num, HO2.out, HB2.out⟩
        | ((repeat apply Exists.intro); exact ⟨⟨i + 1, by omega, by go_num, HO2.out, HB2.out⟩, rfl⟩)
        | (simp [intOf] <;> omega)
      ·have hzb : (z != loop) = true := by simpa using hzl
       obtain ⟨t, rfl⟩ := Int.eq_ofNat_of_zero_le (show 0 ≤ z by omega)
       have hz3 : (0 : Int) ≤ (t : Int) := by omega
       obtain ⟨k1, k2⟩ := (@hdd_is l b (nL l)).1 (by rw [← HZ.out]; exact hz3)
       rw [← HZ.out, Int.toNat_natCast] at k1 k2
       have HTu := Lib.hid (HT.out t k1 (by rw [k2]; exact HHeld.out) hzl U HR.out)
       have hop := hop_mul (show Ieee.double.mul x0 (tT l t) = some (fmul x0 (tT l t)) from mul_nn hxle (Nat.lt_of_le_of_lt tT_in.2 (by decide)) (Nat.lt_of_lt_of_le (by decide) tT_in.1))
       obtain ⟨y0, hy0⟩ : ∃ y, y = fmul x0 (tT l t) := ⟨_, rfl⟩
       have HY := Lib.hid (show y0 = wgt l (tT l) loop hd W b by rw [hy0, HX.out, wgt_yes (by rw [← HZ.out]; exact ⟨hz3, hzl⟩), ← HZ.out, Int.toNat_natCast])
       rw [← hy0] at hop
       obtain ⟨T0, hT0⟩ : ∃ y, y = tT l t := ⟨_, rfl⟩
       rw [← hT0] at hop HTu
       clear hy0 hT0 k1 k2
       go_wp2_with fail
       refine HTu.out.mono ?_
       rintro e w6 ⟨rfl, b6⟩
       have hO6 := Lib.hid (hO.out.below b6)
       have hB6 := Lib.hid (bThen hB.out b6)
       clear hO hB HTu b6
       have hO := hO6
       have hB := hB6
       clear hO6 hB6
       obtain ⟨U, rfl⟩ : ∃ x : World, x = w6 := ⟨_, rfl⟩
       go_upto_region 16 with (fail)
       clear hop
       have hbi : (b : Int) < (nB l : Int) := by omega
       have ck : U.cell? ⟨g, b, none⟩ = some (.float .f64 (W b)) := by
        have h1 := (hO.out.at (k := b) (x := W b) (by rw [List.getElem?_map, List.getElem?_range hbn]; rfl)).cell 0 _ rfl
        have e1 : 0 + b * tF.n + 0 = b := by show 0 + b * 1 + 0 = b; omega
        rw [e1] at h1
        exact h1
       have fk := hO.out.frozen b
       have hset := hO.out.set (k := b) (j := 0) (x := W b) (y := y0) (v := .float .f64 y0) (by rw [List.getElem?_map, List.getElem?_range hbn]; rfl) (by decide) rfl
       have e2 : b * tF.n + 0 = b := by show b * 1 + 0 = b; omega
       have e3 : Ht.upd W b y0 = wtK l (tT l) loop hd ((ordL l).take (i + 1)) := by rw [HWn.out, ← HY.out]
       rw [e2, upd_row W hbn, e3] at hset
       have HO2 := Lib.hid hset
       have HB2 := Lib.hid (hB.out.setCell (p := ⟨g, b, none⟩) hgw (.float .f64 y0))
       have hst : ∀ a m w, (store a (.float .f64 y0) m).run Try.prog w = stored Try.prog w a (.float .f64 y0) m := fun a m w => run_store Try.prog w a _ m rfl
       clear hset e2 e3 hO hB
       go_wp2
       go_roundw
       all_goals first
        | exact ⟨i + 1, by omega, by go_num, HO2.out, HB2.out⟩
        | ((repeat apply Exists.intro); exact ⟨⟨i + 1, by omega, by go_num, HO2.out, HB2.out⟩, rfl⟩)
        | (simp [intOf] <;> omega)
   ·have hie : i = nB l := by omega
    have HF := Lib.hid (show OwR tF w.heap.size V (.slice (some ⟨g, 0, none⟩) (nB l) (nB l)) ((List.range (nB l)).map (wts l (tT l) loop)) by
     have := hO.out
     rw [hie, List.take_of_length_le (by rw [ord_len HP.out.g]; exact Nat.le_refl _)] at this
     unfold wts
     rw [← HHd.out]
     exact this)
    have hlt' : ¬ (i : Int) < (nB l : Int) := by omega
    clear hO hie
    go_wp2
    go_ret
    exact ⟨hB.out, _, rfl, HF.out⟩
 ·obtain ⟨t', ht'⟩ := Int.eq_ofNat_of_zero_le (show 0 ≤ loop by omega)
  have htn : t' < nL l := by omega
  have etn : loop.toNat = t' := by omega
  have hl0 : 0 ≤ loop := by omega
  have hgd : decide (loop ≥ 0) = true := decide_eq_true hl0
  obtain ⟨gl, ol, ba, bn, bc, hal, ch0w, cl1w, -, hsl⟩ := HP.out.ld.one htn
  have hhd1 : hd = hdN l t' := by rw [HHd.out]; unfold hd0; rw [if_neg hneg, etn]
  rw [← hhd1] at ch0w
  have cl1 : ∀ V, Below w.heap.size w V → V.cell? ⟨gl, ol + t' * 3 + 1, none⟩ = some (.slice ba bn bc) := fun V hV => (hV.cell (World.block_lt_of_cell? _ _ cl1w)).trans cl1w
  have ch0 : w2.cell? ⟨gl, ol + t' * 3, none⟩ = some (.int .i64 (hd : Int)) := (HB0.out.cell (World.block_lt_of_cell? _ _ ch0w)).trans ch0w
  rw [hal] at hc2
  have HC1 := Lib.hid cl1
  have HAL := Lib.hid (And.intro hal (And.intro hsl etn))
  clear cl1 cl1w ch0w hal hsl hhd1 ht'
  go_upto_region 5 with (fail)
  clear hc2 ch0
  go_wp2
  go_loopw [7, 8, 9, 10] (fun t _ _ _ wr => ∃ (i : Nat), i ≤ nB l ∧ t = .int .i64 (i : Int) ∧ Hid (OwR tF w.heap.size wr (.slice (some ⟨g, 0, none⟩) (nB l) (nB l)) ((List.range (nB l)).map (wtK l (tT l) loop hd ((ordL l).take i)))) ∧ Hid (Below w.heap.size w wr)) (fun t _ _ _ _ => nB l - (intOf t).toNat)
  case atStart => exact ⟨0, by omega, rfl, HO0.out, HB0.out⟩
  case round =>
   clear HO0 HB0
   obtain ⟨i, hi, rfl, hO, hB⟩ := hrel
   obtain ⟨V, rfl⟩ : ∃ x : World, x = wr := ⟨_, rfl⟩
   have c3 : V.cell? ⟨q, 3, none⟩ = some (.slice ra (nB l) rcap) := (hB.out.cell HP.out.lt).trans HP.out.c3
   by_cases hlt : i < nB l
   ·have hlt' : (i : Int) < (nB l : Int) := by omega
    obtain ⟨b, hb⟩ : ∃ b, (ordL l)[i]? = some b := ⟨_, List.getElem?_eq_getElem (by rw [ord_len HP.out.g]; exact hlt)⟩
    have hbn : b < nB l := ord_lt HP.out.g (List.mem_of_getElem? hb)
    obtain ⟨go, oo, rfl, -, -, cow⟩ := SlX.int HP.out.ro (k := i) (x := (b : Int)) (by unfold nI; rw [List.getElem?_map, hb]; rfl)
    have co : V.cell? ⟨go, oo + i, none⟩ = some (.int .i64 (b : Int)) := (hB.out.cell (World.block_lt_of_cell? _ _ cow)).trans cow
    have hW1 : (ordL l).take (i + 1) = (ordL l).take i ++ [b] := by rw [List.take_add_one, hb]; rfl
    obtain ⟨W, hWd⟩ : ∃ W, W = wtK l (tT l) loop hd ((ordL l).take i) := ⟨_, rfl⟩
    have hWle : ∀ c, W c ≤ inf := by rw [hWd]; exact wtK_le
    rw [← hWd] at hO
    have HWs := Lib.hid (show wtK l (tT l) loop hd ((ordL l).take (i + 1)) = wst l (tT l) loop hd W b by rw [hW1, wtK_succ, ← hWd])
    have HWle := Lib.hid hWle
    have HR := Lib.hid (HH.out.below hB.out)
    have hhas : Calls Try.prog 36 #[.slice ba bn bc, .int .i64 (b : Int)] V fun e w'' => e = .returned (.bool (inB l t' b)) ∧ w'' = V := by
     refine (has19_ok V q _ _ (b : Int) (HAL.out.2.1.below hB.out)).mono ?_
     rintro e w'' ⟨rfl, rfl⟩
     rw [blk_has hbn]
     exact ⟨rfl, rfl⟩
    have hh : hol l loop b = inB l t' b := by unfold hol; rw [decide_eq_false (by omega), Bool.false_or, HAL.out.2.2]
    have c2 : V.cell? ⟨q, 2, none⟩ = some (.slice (some ⟨gl, ol, none⟩) (nL l) cl) := by rw [← HAL.out.1]; exact (hB.out.cell HP.out.lt).trans HP.out.c2
    have cl1 := HC1.out V hB.out
    have HHas := Lib.hid hhas
    have HHol0 := Lib.hid hh
    clear hb hW1 hWd hWle cow hhas hh
    go_wp2_with fail
    refine HHas.out.mono ?_
    rintro e w5 ⟨rfl, rfl⟩
    obtain ⟨V, rfl⟩ : ∃ x : World, x = w5 := ⟨_, rfl⟩
    clear HHas c2 cl1
    cases hv : inB l t' b with
    | false =>
     have HO2 := Lib.hid (show OwR tF w.heap.size V (.slice (some ⟨g, 0, none⟩) (nB l) (nB l)) ((List.range (nB l)).map (wtK l (tT l) loop hd ((ordL l).take (i + 1)))) by
      rw [HWs.out]
      unfold wst
      rw [if_neg (by rw [HHol0.out, hv]; simp)]
      exact hO.out)
     clear hv HHol0 HWs co c3
     go_wp2
     go_roundw
     all_goals first
      | exact ⟨i + 1, by omega, by go_num, HO2.out, hB.out⟩
      | ((repeat apply Exists.intro); exact ⟨⟨i + 1, by omega, by go_num, HO2.out, hB.out⟩, rfl⟩)
      | (simp [intOf] <;> omega)
    | true =>
     have HHeld := Lib.hid (HHol0.out.trans hv)
     have HWn := Lib.hid (show wtK l (tT l) loop hd ((ordL l).take (i + 1)) = Ht.upd W b (wgt l (tT l) loop hd W b) by rw [HWs.out]; unfold wst; rw [if_pos HHeld.out])
     clear hv HHol0 HWs
     by_cases hbh : b = hd
     ·have hbhb : ((b : Int) != (hd : Int)) = false := by rw [hbh]; simp
      (try have hbz2 : ((b : Int) != 0) = false := by (rw [hbh, HHd0.out]; rfl))
      have HBh := Lib.hid hbh
      obtain ⟨x0, hx0⟩ : ∃ x, x = one := ⟨_, rfl⟩
      have HX := Lib.hid (show x0 = if b = hd then one else brg l W loop b false by rw [if_pos hbh]; exact hx0)
      clear hbh
      have hxle : x0 ≤ inf := by rw [hx0]; decide
      go_upto_region 13 with (fail)
      rw [show (4607182418800017408 : Nat) = x0 from hx0.symm]
      clear hx0 co c3
      go_wp2_with fail
      refine (headed_ok _ q l b HR.out).mono ?_
      rintro e w5 ⟨rfl, rfl⟩
      obtain ⟨U, rfl⟩ : ∃ x : World, x = w5 := ⟨_, rfl⟩
      obtain ⟨z, hz⟩ : ∃ z, z = hdd l b (nL l) := ⟨_, rfl⟩
      rw [← hz]
      have HZ := Lib.hid hz
      have hz1 := (@hdd_is l b (nL l)).2.1
      have hz2 := (@hdd_is l b (nL l)).2.2
      rw [← hz] at hz1 hz2
      clear hz
      by_cases hz0 : z < 0
      ·obtain ⟨y0, hy0⟩ : ∃ y, y = x0 := ⟨_, rfl⟩
       have HY := Lib.hid (show y0 = wgt l (tT l) loop hd W b by rw [hy0, HX.out, wgt_no (fun k => by rw [← HZ.out] at k; omega)])
       rw [← hy0]
       clear hy0
       have hbi : (b : Int) < (nB l : Int) := by omega
       have ck : U.cell? ⟨g, b, none⟩ = some (.float .f64 (W b)) := by
        have h1 := (hO.out.at (k := b) (x := W b) (by rw [List.getElem?_map, List.getElem?_range hbn]; rfl)).cell 0 _ rfl
        have e1 : 0 + b * tF.n + 0 = b := by show 0 + b * 1 + 0 = b; omega
        rw [e1] at h1
        exact h1
       have fk := hO.out.frozen b
       have hset := hO.out.set (k := b) (j := 0) (x := W b) (y := y0) (v := .float .f64 y0) (by rw [List.getElem?_map, List.getElem?_range hbn]; rfl) (by decide) rfl
       have e2 : b * tF.n + 0 = b := by show b * 1 + 0 = b; omega
       have e3 : Ht.upd W b y0 = wtK l (tT l) loop hd ((ordL l).take (i + 1)) := by rw [HWn.out, ← HY.out]
       rw [e2, upd_row W hbn, e3] at hset
       have HO2 := Lib.hid hset
       have HB2 := Lib.hid (hB.out.setCell (p := ⟨g, b, none⟩) hgw (.float .f64 y0))
       have hst : ∀ a m w, (store a (.float .f64 y0) m).run Try.prog w = stored Try.prog w a (.float .f64 y0) m := fun a m w => run_store Try.prog w a _ m rfl
       clear hset e2 e3 hO hB
       go_wp2
       go_roundw
       all_goals first
        | exact ⟨i + 1, by omega, by go_num, HO2.out, HB2.out⟩
        | ((repeat apply Exists.intro); exact ⟨⟨i + 1, by omega, by go_num, HO2.out, HB2.out⟩, rfl⟩)
        | (simp [intOf] <;> omega)
      ·by_cases hzl : z = loop
       ·have hzb : (z != loop) = false := by rw [hzl]; simp
        obtain ⟨y0, hy0⟩ : ∃ y, y = x0 := ⟨_, rfl⟩
        have HY := Lib.hid (show y0 = wgt l (tT l) loop hd W b by rw [hy0, HX.out, wgt_no (fun k => by rw [← HZ.out] at k; exact k.2 hzl)])
        rw [← hy0]
        have hz3 : 0 ≤ z := by omega
        clear hy0 hzl
        have hbi : (b : Int) < (nB l : Int) := by omega
        have ck : U.cell? ⟨g, b, none⟩ = some (.float .f64 (W b)) := by
         have h1 := (hO.out.at (k := b) (x := W b) (by rw [List.getElem?_map, List.getElem?_range hbn]; rfl)).cell 0 _ rfl
         have e1 : 0 + b * tF.n + 0 = b := by show 0 + b * 1 + 0 = b; omega
         rw [e1] at h1
         exact h1
        have fk := hO.out.frozen b
        have hset := hO.out.set (k := b) (j := 0) (x := W b) (y := y0) (v := .float .f64 y0) (by rw [List.getElem?_map, List.getElem?_range hbn]; rfl) (by decide) rfl
        have e2 : b * tF.n + 0 = b := by show b * 1 + 0 = b; omega
        have e3 : Ht.upd W b y0 = wtK l (tT l) loop hd ((ordL l).take (i + 1)) := by rw [HWn.out, ← HY.out]
        rw [e2, upd_row W hbn, e3] at hset
        have HO2 := Lib.hid hset
        have HB2 := Lib.hid (hB.out.setCell (p := ⟨g, b, none⟩) hgw (.float .f64 y0))
        have hst : ∀ a m w, (store a (.float .f64 y0) m).run Try.prog w = stored Try.prog w a (.float .f64 y0) m := fun a m w => run_store Try.prog w a _ m rfl
        clear hset e2 e3 hO hB
        go_wp2
        go_roundw
        all_goals first
         | exact ⟨i + 1, by omega, by go_num, HO2.out, HB2.out⟩
         | ((repeat apply Exists.intro); exact ⟨⟨i + 1, by omega, by go_num, HO2.out, HB2.out⟩, rfl⟩)
         | (simp [intOf] <;> omega)
       ·have hzb : (z != loop) = true := by simpa using hzl
        obtain ⟨t, rfl⟩ := Int.eq_ofNat_of_zero_le (show 0 ≤ z by omega)
        have hz3 : (0 : Int) ≤ (t : Int) := by omega
        obtain ⟨k1, k2⟩ := (@hdd_is l b (nL l)).1 (by rw [← HZ.out]; exact hz3)
        rw [← HZ.out, Int.toNat_natCast] at k1 k2
        have HTu := Lib.hid (HT.out t k1 (by rw [k2]; exact HHeld.out) hzl U HR.out)
        have hop := hop_mul (show Ieee.double.mul x0 (tT l t) = some (fmul x0 (tT l t)) from mul_nn hxle (Nat.lt_of_le_of_lt tT_in.2 (by decide)) (Nat.lt_of_lt_of_le (by decide) tT_in.1))
        obtain ⟨y0, hy0⟩ : ∃ y, y = fmul x0 (tT l t) := ⟨_, rfl⟩
        have HY := Lib.hid (show y0 = wgt l (tT l) loop hd W b by rw [hy0, HX.out, wgt_yes (by rw [← HZ.out]; exact ⟨hz3, hzl⟩), ← HZ.out, Int.toNat_natCast])
        rw [← hy0] at hop
        obtain ⟨T0, hT0⟩ : ∃ y, y = tT l t := ⟨_, rfl⟩
        rw [← hT0] at hop HTu
        clear hy0 hT0 k1 k2
        go_wp2_with fail
        refine HTu.out.mono ?_
        rintro e w6 ⟨rfl, b6⟩
        have hO6 := Lib.hid (hO.out.below b6)
        have hB6 := Lib.hid (bThen hB.out b6)
        clear hO hB HTu b6
        have hO := hO6
        have hB := hB6
        clear hO6 hB6
        obtain ⟨U, rfl⟩ : ∃ x : World, x = w6 := ⟨_, rfl⟩
        go_upto_region 16 with (fail)
        clear hop
        have hbi : (b : Int) < (nB l : Int) := by omega
        have ck : U.cell? ⟨g, b, none⟩ = some (.float .f64 (W b)) := by
         have h1 := (hO.out.at (k := b) (x := W b) (by rw [List.getElem?_map, List.getElem?_range hbn]; rfl)).cell 0 _ rfl
         have e1 : 0 + b * tF.n + 0 = b := by show 0 + b * 1 + 0 = b; omega
         rw [e1] at h1
         exact h1
        have fk := hO.out.frozen b
        have hset := hO.out.set (k := b) (j := 0) (x := W b) (y := y0) (v := .float .f64 y0) (by rw [List.getElem?_map, List.getElem?_range hbn]; rfl) (by decide) rfl
        have e2 : b * tF.n + 0 = b := by show b * 1 + 0 = b; omega
        have e3 : Ht.upd W b y0 = wtK l (tT l) loop hd ((ordL l).take (i + 1)) := by rw [HWn.out, ← HY.out]
        rw [e2, upd_row W hbn, e3] at hset
        have HO2 := Lib.hid hset
        have HB2 := Lib.hid (hB.out.setCell (p := ⟨g, b, none⟩) hgw (.float .f64 y0))
        have hst : ∀ a m w, (store a (.float .f64 y0) m).run Try.prog w = stored Try.prog w a (.float .f64 y0) m := fun a m w => run_store Try.prog w a _ m rfl
        clear hset e2 e3 hO hB
        go_wp2
        go_roundw
        all_goals first
         | exact ⟨i + 1, by omega, by go_num, HO2.out, HB2.out⟩
         | ((repeat apply Exists.intro); exact ⟨⟨i + 1, by omega, by go_num, HO2.out, HB2.out⟩, rfl⟩)
         | (simp [intOf] <;> omega)
     ·have hbh' : (b : Int) ≠ (hd : Int) := by omega
      have hbhb : ((b : Int) != (hd : Int)) = true := by simpa using hbh'
      (try have hbz : (b : Int) ≠ 0 := by (have := HHd0.out; omega))
      (try have hbz2 : ((b : Int) != 0) = true := by simpa using hbz)
      have HBr := Lib.hid (brought_ok V q V.heap.size l _ W loop b false HR.out (hO.out.sl (fun e => by have := hO.out.lt e; omega)) HWle.out hl1 hl2 hbn)
      have HBn := Lib.hid hbh
      clear hbh hbh'
      (try clear hbz)
      go_wp2_with fail
      (try clear co c3)
      refine HBr.out.mono ?_
      rintro e w4 ⟨rfl, m4, hw4⟩
      obtain ⟨x0, hx0⟩ : ∃ x, x = brg l W loop b false := ⟨_, rfl⟩
      rw [← hx0]
      have HX := Lib.hid (show x0 = if b = hd then one else brg l W loop b false by rw [if_neg HBn.out]; exact hx0)
      have hxle : x0 ≤ inf := by rw [hx0]; exact brg_le
      have hO4 : Hid (OwR tF w.heap.size w4 (.slice (some ⟨g, 0, none⟩) (nB l) (nB l)) ((List.range (nB l)).map W)) := by rw [hw4]; exact hO.out.keep fun _ _ => rfl
      have hB4 : Hid (Below w.heap.size w w4) := by rw [hw4]; exact bDrewN hB.out m4
      have HR4 : Hid (RFinP l q w4) := by rw [hw4]; exact HR.out.below (bDrewN (bRefl V) m4)
      clear hx0 hO hB HR HBr hw4
      have hO := hO4
      have hB := hB4
      have HR := HR4
      clear hO4 hB4 HR4
      go_wp2_with fail
      refine (headed_ok _ q l b HR.out).mono ?_
      rintro e w5 ⟨rfl, rfl⟩
      obtain ⟨U, rfl⟩ : ∃ x : World, x = w5 := ⟨_, rfl⟩
      obtain ⟨z, hz⟩ : ∃ z, z = hdd l b (nL l) := ⟨_, rfl⟩
      rw [← hz]
      have HZ := Lib.hid hz
      have hz1 := (@hdd_is l b (nL l)).2.1
      have hz2 := (@hdd_is l b (nL l)).2.2
      rw [← hz] at hz1 hz2
      clear hz
      by_cases hz0 : z < 0
      ·obtain ⟨y0, hy0⟩ : ∃ y, y = x0 := ⟨_, rfl⟩
       have HY := Lib.hid (show y0 = wgt l (tT l) loop hd W b by rw [hy0, HX.out, wgt_no (fun k => by rw [← HZ.out] at k; omega)])
       rw [← hy0]
       clear hy0
       have hbi : (b : Int) < (nB l : Int) := by omega
       have ck : U.cell? ⟨g, b, none⟩ = some (.float .f64 (W b)) := by
        have h1 := (hO.out.at (k := b) (x := W b) (by rw [List.getElem?_map, List.getElem?_range hbn]; rfl)).cell 0 _ rfl
        have e1 : 0 + b * tF.n + 0 = b := by show 0 + b * 1 + 0 = b; omega
        rw [e1] at h1
        exact h1
       have fk := hO.out.frozen b
       have hset := hO.out.set (k := b) (j := 0) (x := W b) (y := y0) (v := .float .f64 y0) (by rw [List.getElem?_map, List.getElem?_range hbn]; rfl) (by decide) rfl
       have e2 : b * tF.n + 0 = b := by show b * 1 + 0 = b; omega
       have e3 : Ht.upd W b y0 = wtK l (tT l) loop hd ((ordL l).take (i + 1)) := by rw [HWn.out, ← HY.out]
       rw [e2, upd_row W hbn, e3] at hset
       have HO2 := Lib.hid hset
       have HB2 := Lib.hid (hB.out.setCell (p := ⟨g, b, none⟩) hgw (.float .f64 y0))
       have hst : ∀ a m w, (store a (.float .f64 y0) m).run Try.prog w = stored Try.prog w a (.float .f64 y0) m := fun a m w => run_store Try.prog w a _ m rfl
       clear hset e2 e3 hO hB
       go_wp2
       go_roundw
       all_goals first
        | exact ⟨i + 1, by omega, by go_num, HO2.out, HB2.out⟩
        | ((repeat apply Exists.intro); exact ⟨⟨i + 1, by omega, by go_num, HO2.out, HB2.out⟩, rfl⟩)
        | (simp [intOf] <;> omega)
      ·by_cases hzl : z = loop
       ·have hzb : (z != loop) = false := by rw [hzl]; simp
        obtain ⟨y0, hy0⟩ : ∃ y, y = x0 := ⟨_, rfl⟩
        have HY := Lib.hid (show y0 = wgt l (tT l) loop hd W b by rw [hy0, HX.out, wgt_no (fun k => by rw [← HZ.out] at k; exact k.2 hzl)])
        rw [← hy0]
        have hz3 : 0 ≤ z := by omega
        clear hy0 hzl
        have hbi : (b : Int) < (nB l : Int) := by omega
        have ck : U.cell? ⟨g, b, none⟩ = some (.float .f64 (W b)) := by
         have h1 := (hO.out.at (k := b) (x := W b) (by rw [List.getElem?_map, List.getElem?_range hbn]; rfl)).cell 0 _ rfl
         have e1 : 0 + b * tF.n + 0 = b := by show 0 + b * 1 + 0 = b; omega
         rw [e1] at h1
         exact h1
        have fk := hO.out.frozen b
        have hset := hO.out.set (k := b) (j := 0) (x := W b) (y := y0) (v := .float .f64 y0) (by rw [List.getElem?_map, List.getElem?_range hbn]; rfl) (by decide) rfl
        have e2 : b * tF.n + 0 = b := by show b * 1 + 0 = b; omega
        have e3 : Ht.upd W b y0 = wtK l (tT l) loop hd ((ordL l).take (i + 1)) := by rw [HWn.out, ← HY.out]
        rw [e2, upd_row W hbn, e3] at hset
        have HO2 := Lib.hid hset
        have HB2 := Lib.hid (hB.out.setCell (p := ⟨g, b, none⟩) hgw (.float .f64 y0))
        have hst : ∀ a m w, (store a (.float .f64 y0) m).run Try.prog w = stored Try.prog w a (.float .f64 y0) m := fun a m w => run_store Try.prog w a _ m rfl
        clear hset e2 e3 hO hB
        go_wp2
        go_roundw
        all_goals first
         | exact ⟨i + 1, by omega, by go_num, HO2.out, HB2.out⟩
         | ((repeat apply Exists.intro); exact ⟨⟨i + 1, by omega, by go_num, HO2.out, HB2.out⟩, rfl⟩)
         | (simp [intOf] <;> omega)
       ·have hzb : (z != loop) = true := by simpa using hzl
        obtain ⟨t, rfl⟩ := Int.eq_ofNat_of_zero_le (show 0 ≤ z by omega)
        have hz3 : (0 : Int) ≤ (t : Int) := by omega
        obtain ⟨k1, k2⟩ := (@hdd_is l b (nL l)).1 (by rw [← HZ.out]; exact hz3)
        rw [← HZ.out, Int.toNat_natCast] at k1 k2
        have HTu := Lib.hid (HT.out t k1 (by rw [k2]; exact HHeld.out) hzl U HR.out)
        have hop := hop_mul (show Ieee.double.mul x0 (tT l t) = some (fmul x0 (tT l t)) from mul_nn hxle (Nat.lt_of_le_of_lt tT_in.2 (by decide)) (Nat.lt_of_lt_of_le (by decide) tT_in.1))
        obtain ⟨y0, hy0⟩ : ∃ y, y = fmul x0 (tT l t) := ⟨_, rfl⟩
        have HY := Lib.hid (show y0 = wgt l (tT l) loop hd W b by rw [hy0, HX.out, wgt_yes (by rw [← HZ.out]; exact ⟨hz3, hzl⟩), ← HZ.out, Int.toNat_natCast])
        rw [← hy0] at hop
        obtain ⟨T0, hT0⟩ : ∃ y, y = tT l t := ⟨_, rfl⟩
        rw [← hT0] at hop HTu
        clear hy0 hT0 k1 k2
        go_wp2_with fail
        refine HTu.out.mono ?_
        rintro e w6 ⟨rfl, b6⟩
        have hO6 := Lib.hid (hO.out.below b6)
        have hB6 := Lib.hid (bThen hB.out b6)
        clear hO hB HTu b6
        have hO := hO6
        have hB := hB6
        clear hO6 hB6
        obtain ⟨U, rfl⟩ : ∃ x : World, x = w6 := ⟨_, rfl⟩
        go_upto_region 16 with (fail)
        clear hop
        have hbi : (b : Int) < (nB l : Int) := by omega
        have ck : U.cell? ⟨g, b, none⟩ = some (.float .f64 (W b)) := by
         have h1 := (hO.out.at (k := b) (x := W b) (by rw [List.getElem?_map, List.getElem?_range hbn]; rfl)).cell 0 _ rfl
         have e1 : 0 + b * tF.n + 0 = b := by show 0 + b * 1 + 0 = b; omega
         rw [e1] at h1
         exact h1
        have fk := hO.out.frozen b
        have hset := hO.out.set (k := b) (j := 0) (x := W b) (y := y0) (v := .float .f64 y0) (by rw [List.getElem?_map, List.getElem?_range hbn]; rfl) (by decide) rfl
        have e2 : b * tF.n + 0 = b := by show b * 1 + 0 = b; omega
        have e3 : Ht.upd W b y0 = wtK l (tT l) loop hd ((ordL l).take (i + 1)) := by rw [HWn.out, ← HY.out]
        rw [e2, upd_row W hbn, e3] at hset
        have HO2 := Lib.hid hset
        have HB2 := Lib.hid (hB.out.setCell (p := ⟨g, b, none⟩) hgw (.float .f64 y0))
        have hst : ∀ a m w, (store a (.float .f64 y0) m).run Try.prog w = stored Try.prog w a (.float .f64 y0) m := fun a m w => run_store Try.prog w a _ m rfl
        clear hset e2 e3 hO hB
        go_wp2
        go_roundw
        all_goals first
         | exact ⟨i + 1, by omega, by go_num, HO2.out, HB2.out⟩
         | ((repeat apply Exists.intro); exact ⟨⟨i + 1, by omega, by go_num, HO2.out, HB2.out⟩, rfl⟩)
         | (simp [intOf] <;> omega)
   ·have hie : i = nB l := by omega
    have HF := Lib.hid (show OwR tF w.heap.size V (.slice (some ⟨g, 0, none⟩) (nB l) (nB l)) ((List.range (nB l)).map (wts l (tT l) loop)) by
     have := hO.out
     rw [hie, List.take_of_length_le (by rw [ord_len HP.out.g]; exact Nat.le_refl _)] at this
     unfold wts
     rw [← HHd.out]
     exact this)
    have hlt' : ¬ (i : Int) < (nB l : Int) := by omega
    clear hO hie
    go_wp2
    go_ret
    exact ⟨hB.out, _, rfl, HF.out⟩
end Go.Proofs.Ytndnfjcfpcfakaa
namespace Go.Proofs.Ytndnfjcfpcfakaa
open Go Go.RowKit Go.Wr Go.Fl Go.Ht
set_option maxHeartbeats 4000000
set_option maxRecDepth 100000
theorem rtu19_ok (l : List In) (q : Nat) : ∀ (N i : Nat), i < nL l → (blkL l i).length ≤ N → TuP l q i := by
 intro N
 induction N with
 | zero => 
  intro i hi hN w h
  have g := h.parts.elim fun _ h => h.elim fun _ h => h.elim fun _ h => h.elim fun _ h => h.elim fun _ h => h.elim fun _ h => h.elim fun _ h => h.g
  have hm : hdN l i ∈ blkL l i := by
   unfold blkL ins
   exact List.mem_filter.2 ⟨List.mem_range.2 (heads_of l hi).1, lpB_iff.2 Lp.head⟩
  have := List.length_pos_of_mem hm
  omega
 | succ N ih =>
  intro i hi hN w h
  obtain ⟨ab, ad, al, cb, cd, cl, vr, P⟩ := h.parts
  have HH := Lib.hid h
  have HP := Lib.hid P
  have h8 : nL l ≤ 8 := P.g.hd8
  have hw := rweights_ok w q l (i : Int) h (by omega) (by omega) fun j hj hh hne => ih j hj (by have := blk_lt P.g hi hj (hol_in hh) (by omega); omega)
  have HWt := Lib.hid hw
  obtain ⟨gl, ol, ba, bn, bc, hal, ch0w, -, -, -⟩ := P.ld.one hi
  have hc2 := P.c2
  rw [hal] at hc2
  have hbn : hdN l i < nB l := (heads_of l hi).1
  have hTe := tT_eq P.g hi
  have hqw := P.lt
  obtain ⟨hb, hhb⟩ : ∃ b, b = hdN l i := ⟨_, rfl⟩
  rw [← hhb] at ch0w hbn
  have HTe := Lib.hid (show tT l i = frec (fsub one (mn (brg l (wts l (tT l) (i : Int)) (i : Int) hb true))) by rw [hTe]; unfold trn; rw [hhb])
  have hii : (i : Int) < (nL l : Int) := by omega
  obtain ⟨T0, hT0⟩ : ∃ t, t = tT l i := ⟨_, rfl⟩
  show Calls Try.prog _ _ w fun e w' => e = .returned (.float .f64 (tT l i)) ∧ Below w.heap.size w w'
  rw [← hT0]
  have HT0 := Lib.hid hT0
  have HI := Lib.hid (And.intro hbn hii)
  clear h P hw hal hTe hT0 hhb ih hN hi hbn
  go_enter Try.func66, Try.ntmps66
  go_wp2_with fail
  refine HWt.out.mono ?_
  rintro e w1 ⟨b1, vw, rfl, hO⟩
  have ch0 : w1.cell? ⟨gl, ol + i * 3, none⟩ = some (.int .i64 (hb : Int)) := (b1.cell (World.block_lt_of_cell? _ _ ch0w)).trans ch0w
  have c2 : w1.cell? ⟨q, 2, none⟩ = some (.slice (some ⟨gl, ol, none⟩) (nL l) cl) := (b1.cell hqw).trans hc2
  have HBr := Lib.hid (brought_ok w1 q w1.heap.size l vw (wts l (tT l) (i : Int)) (i : Int) hb true (HH.out.below b1) (hO.sl (fun e => by have := hO.lt e; omega)) wts_le (by omega) HI.out.2 HI.out.1)
  have HB1 := Lib.hid b1
  clear b1 hO HWt ch0w hc2
  go_wp2_with fail
  refine HBr.out.mono ?_
  rintro e w2 ⟨rfl, m2, hw2⟩
  have HB2 := Lib.hid (show Below w.heap.size w w2 by rw [hw2]; exact bDrewN HB1.out m2)
  obtain ⟨c, hc⟩ : ∃ c, c = brg l (wts l (tT l) (i : Int)) (i : Int) hb true := ⟨_, rfl⟩
  have hcle : c ≤ inf := by rw [hc]; exact brg_le
  have hTv : T0 = frec (fsub one (mn c)) := by rw [HT0.out, HTe.out, ← hc]
  rw [← hc]
  obtain ⟨o1, o2⟩ := trn_ops hcle
  have hgt := gt_nn hcle (show f31 ≤ inf by decide)
  clear hw2 HBr HB1 ch0 c2 hc HTe HT0
  by_cases hb31 : f31 < c
  ·rw [decide_eq_true hb31] at hgt
   have hmn : mn c = f31 := by unfold mn; rw [if_pos hb31]
   rw [hmn] at o1 o2 hTv
   obtain ⟨y, hy⟩ : ∃ y, y = fsub one f31 := ⟨_, rfl⟩
   rw [← hy] at o1 o2 hTv
   have hop1 := hop_sub o1
   have hop2 := hop_div o2
   rw [← hTv] at hop2
   have f31v : f31 = 4606900943823306752 := rfl
   have onev : one = 4607182418800017408 := rfl
   rw [f31v, onev] at hop1
   rw [onev] at hop2
   rw [f31v] at hgt
   change (FloatKind.f64.format.order c 4606900943823306752 == some .gt) = true at hgt
   clear hmn o1 o2 hTv hb31 hy f31v onev
   go_wp2
   go_ret
   exact ⟨rfl, HB2.out⟩
  ·rw [decide_eq_false hb31] at hgt
   have hmn : mn c = c := by unfold mn; rw [if_neg hb31]
   rw [hmn] at o1 o2 hTv
   obtain ⟨y, hy⟩ : ∃ y, y = fsub one c := ⟨_, rfl⟩
   rw [← hy] at o1 o2 hTv
   have hop1 := hop_sub o1
   have hop2 := hop_div o2
   rw [← hTv] at hop2
   have f31v : f31 = 4606900943823306752 := rfl
   have onev : one = 4607182418800017408 := rfl
   rw [onev] at hop1 hop2
   rw [f31v] at hgt
   change (FloatKind.f64.format.order c 4606900943823306752 == some .gt) = false at hgt
   clear hmn o1 o2 hTv hb31 hy f31v onev
   go_wp2
   go_ret
   exact ⟨rfl, HB2.out⟩
theorem rweights (w : World) (q : Nat) (l : List In) (loop : Int) (h : RFinP l q w) (hl1 : -1 ≤ loop) (hl2 : loop < (nL l : Int)) :
  Calls Try.prog 31 #[.pointer (some ⟨q, 0, none⟩), .int .i64 loop] w fun e w' => Below w.heap.size w w' ∧ ∃ v, e = .returned v ∧ OwR tF w.heap.size w' v ((List.range (nB l)).map (wts l (tT l) loop)) :=
 rweights_ok w q l loop h hl1 hl2 fun i hi _ _ => rtu19_ok l q _ i hi (Nat.le_refl _)
theorem rguess_ok (w : World) (q : Nat) (l : List In) (h : RFinP l q w) : Calls Try.prog 18 #[.pointer (some ⟨q, 0, none⟩)] w fun e w' => Below w.heap.size w w' ∧ ∃ v, e = .returned v ∧ OwR tF w.heap.size w' v ((List.range (nB l)).map (wts l (tT l) (-1))) := by
 have HK := Lib.hid (rweights w q l (-1) h (by omega) (by omega))
 clear h
 go_enter Try.func18, Try.ntmps18
 go_wp2_with fail
 refine HK.out.mono ?_
 rintro e w1 ⟨b1, v, rfl, hO⟩
 have HB := Lib.hid b1
 have HO := Lib.hid hO
 clear b1 hO HK
 go_wp2
 go_ret
 exact ⟨HB.out, _, rfl, HO.out⟩
end Go.Proofs.Ytndnfjcfpcfakaa
namespace Go.Proofs.Ytndnfjcfpcfakaa
open Go Go.RowKit Go.Wr Go.Fl
structure Rws {α : Type} (R : RT Try.prog α) (B : Nat) (rs : List Sv) (F : Nat → List α) (w : World) : Prop where
 own : ∀ (b : Nat) (s : Sv), rs[b]? = some s → OwR R B w s.v (F b)
 ap : ∀ (i j : Nat) (s t : Sv), rs[i]? = some s → rs[j]? = some t → i ≠ j → ∀ g, s.v.ownBlock = some g → t.v.ownBlock ≠ some g
section
variable {α : Type} {R : RT Try.prog α} {B : Nat} {rs : List Sv} {F : Nat → List α} {w w' : World}
theorem Rws.keep (h : Rws R B rs F w) (hk : ∀ g C, B ≤ g → Blk w g R.T C → w'.heap[g]? = w.heap[g]?) : Rws R B rs F w' :=
 ⟨fun b s hs => (h.own b s hs).keep fun g hg => by obtain ⟨h1, C, hb⟩ := (h.own b s hs).blk hg; exact hk g C h1 hb, h.ap⟩
theorem Rws.below (h : Rws R B rs F w) (b : Below w.heap.size w w') : Rws R B rs F w' := h.keep fun g _ _ hb => b.block g hb.lt
theorem Rws.nil : Rws R B [] F w := ⟨fun _ _ h => by simp at h, fun _ _ _ _ h => by simp at h⟩
theorem Rws.mono {B' : Nat} (h : Rws R B rs F w) (hB : B' ≤ B) : Rws R B' rs F w := ⟨fun b s hs => (h.own b s hs).mono hB, h.ap⟩
theorem Rws.snoc {s : Sv} {V : World} (h0 : Rws R B rs F V) (h : Rws R B rs F w) (hs : OwR R V.heap.size w s.v (F rs.length)) (hB : B ≤ V.heap.size) : Rws R B (rs ++ [s]) F w := by
 have cut : ∀ (i : Nat) (t : Sv), (rs ++ [s])[i]? = some t → rs[i]? = some t ∨ i = rs.length ∧ t = s := fun i t ht => by
  by_cases hi : i < rs.length
  ·rw [List.getElem?_append_left hi] at ht; exact Or.inl ht
  ·rw [List.getElem?_append_right (by omega)] at ht
   have h0 := (List.getElem?_eq_some_iff.1 ht).1
   simp at h0
   have e : i = rs.length := by omega
   subst e
   simp at ht
   exact Or.inr ⟨rfl, ht.symm⟩
 refine ⟨fun b t ht => ?_, fun i j t u ht hu hij g hg hg' => ?_⟩
 ·rcases cut b t ht with h1 | ⟨rfl, rfl⟩
  ·exact h.own b t h1
  ·exact hs.mono hB
 ·rcases cut i t ht with h1 | ⟨rfl, rfl⟩
  ·rcases cut j u hu with h2 | ⟨rfl, rfl⟩
   ·exact h.ap i j t u h1 h2 hij g hg hg'
   ·have a := (hs.blk hg').1
    have b := (h0.own i t h1).lt hg
    omega
  ·rcases cut j u hu with h2 | ⟨rfl, rfl⟩
   ·have a := (hs.blk hg).1
    have b := (h0.own j u h2).lt hg'
    omega
   ·exact hij rfl
theorem Rws.grow {W : World} {F' : Nat → List α} {k g n c : Nat} {s : Sv} {l : List α} (h : Rws R B rs F w) (hk : rs[k]? = some s) (hb : Below w.heap.size w W) (hg : W.grownBy w' s.v.ownBlock) (ho : OwR R B w' (.slice (some ⟨g, 0, none⟩) n c) l) (hl : s.v.ownBlock = some g ∨ g = W.heap.size) (h1 : F' k = l) (h2 : ∀ j, j ≠ k → F' j = F j) : Rws R B (rs.set k ⟨some ⟨g, 0, none⟩, n, c⟩) F' w' := by
 have hz := hb.size
 have cut : ∀ (i : Nat) (t : Sv), (rs.set k ⟨some ⟨g, 0, none⟩, n, c⟩)[i]? = some t → (i = k ∧ t = ⟨some ⟨g, 0, none⟩, n, c⟩) ∨ (i ≠ k ∧ rs[i]? = some t) := fun i t ht => by
  by_cases e : i = k
  ·subst e
   rw [List.getElem?_set_self (List.getElem?_eq_some_iff.1 hk).1] at ht
   injection ht with ht
   exact Or.inl ⟨rfl, ht.symm⟩
  ·rw [List.getElem?_set_ne (Ne.symm e)] at ht
   exact Or.inr ⟨e, ht⟩
 refine ⟨fun i t ht => ?_, fun i j t u ht hu hij q hq hq' => ?_⟩
 ·rcases cut i t ht with ⟨rfl, rfl⟩ | ⟨e, ht⟩
  ·rw [h1]; exact ho
  ·rw [h2 i e]
   refine (h.own i t ht).keep fun q hq => ?_
   have hlt := (h.own i t ht).lt hq
   exact (hg.block q (by omega) (fun e' => h.ap k i s t hk ht (Ne.symm e) q e'.symm hq)).trans (hb.block q hlt)
 ·rcases cut i t ht with ⟨rfl, rfl⟩ | ⟨ei, h3⟩
  ·injection hq with hq
   simp only at hq
   subst hq
   rcases cut j u hu with ⟨rfl, rfl⟩ | ⟨ej, h4⟩
   ·exact hij rfl
   ·rcases hl with hl | hl
    ·exact h.ap i j s u hk h4 hij g hl hq'
    ·have := (h.own j u h4).lt hq'; omega
  ·rcases cut j u hu with ⟨rfl, rfl⟩ | ⟨ej, h4⟩
   ·injection hq' with hq'
    simp only at hq'
    subst hq'
    rcases hl with hl | hl
    ·exact h.ap j i s t hk h3 (Ne.symm hij) g hl hq
    ·have := (h.own i t h3).lt hq; omega
   ·exact h.ap i j t u h3 h4 hij q hq hq'
end
end Go.Proofs.Ytndnfjcfpcfakaa
namespace Go.Proofs.Ytndnfjcfpcfakaa
open Go Go.RowKit Go.Wr Go.Fl Go.Ht
set_option maxHeartbeats 4000000
set_option maxRecDepth 100000
def tFF : RT Try.prog Sv := ⟨25, 40, 1, 24, .slice none 0 0, fun s => [s.v], fun _ => rfl, fun _ => oneSimp rfl, by kernel_rfl, by kernel_rfl, by decide, by decide⟩
noncomputable def edg (l : List In) (b k : Nat) : Nat := fmul (wts l (tT l) (-1) b) (chn l b k)
noncomputable def edR (l : List In) (b : Nat) : List Nat := (List.range (nxt l b).length).map (edg l b)
def EdP (l : List In) (w : World) (e : Ending) (w' : World) : Prop :=
 Below w.heap.size w w' ∧ ∃ v, e = .returned v ∧ ∃ rs : List Sv, rs.length = nB l ∧ OwR tFF w.heap.size w' v rs ∧ Rws tF w.heap.size rs (edR l) w'
theorem ed_take {α : Type} (f : Nat → α) (k : Nat) : (List.range (k + 1)).map f = (List.range k).map f ++ [f k] := by rw [List.range_succ, List.map_append]; rfl
theorem redges_ok (w : World) (q : Nat) (l : List In) (h : RFinP l q w) : Calls Try.prog 17 #[.pointer (some ⟨q, 0, none⟩)] w (EdP l w) := by
 obtain ⟨ab, ad, al, cb, cd, cl, vr, P⟩ := h.parts
 have HH := Lib.hid h
 have HP := Lib.hid P
 have h512 := P.g.n512
 have h8 : nL l ≤ 8 := P.g.hd8
 have mix : Try.prog.follows .mixedOrders = true := by kernel_rfl
 have HWt := Lib.hid (rweights w q l (-1) h (by omega) (by omega))
 clear h P
 unfold EdP
 go_enter Try.func17, Try.ntmps17
 go_wp2_with fail
 refine HWt.out.mono ?_
 rintro e w1 ⟨b1, vw, rfl, hO⟩
 obtain ⟨wva, wvc, hvw, hw1, hw2⟩ := (hO.sl (p := w1.heap.size) (fun e => by have := hO.lt e; omega)).form
 rw [List.length_map, List.length_range] at hvw hw1
 subst hvw
 have HB1 := Lib.hid b1
 have HW1 := Lib.hid hO
 clear b1 hO HWt hw1 hw2
 go_wp2
 go_loopw [4, 5] (fun t u wr => ∃ (b : Nat) (v : Sv) (rs : List Sv), b ≤ nB l ∧ u = .int .i64 (b : Int) ∧ t = .slice v.a v.n v.c ∧ Hid (rs.length = b ∧ OwR tFF w1.heap.size wr v.v rs ∧ Rws tF w1.heap.size rs (edR l) wr) ∧ Hid (Below w1.heap.size w1 wr)) (fun _ u _ => nB l - (intOf u).toNat)
 case atStart => exact ⟨0, ⟨none, 0, 0⟩, [], by omega, rfl, rfl, ⟨rfl, OwR.nil _ _, Rws.nil⟩, bRefl _⟩
 case round =>
  obtain ⟨b, v, rs, hbl, rfl, rfl, hR, hB⟩ := hrel
  obtain ⟨V, rfl⟩ : ∃ x : World, x = wr := ⟨_, rfl⟩
  have HBw := Lib.hid (show Below w.heap.size w V from bThen HB1.out hB.out)
  have c0 : V.cell? ⟨q, 0, none⟩ = some (.slice ab (nB l) cb) := (HBw.out.cell HP.out.lt).trans HP.out.c0
  by_cases hlt : b < nB l
  ·have hlt' : (b : Int) < (nB l : Int) := by omega
   obtain ⟨gb, ob, na, nn, nc, rfl, cnw, hnn, hsn⟩ := HP.out.bd.next hlt
   have hn2 : nn ≤ 2 := by rw [hnn]; exact nxt_two l b
   have HNN := Lib.hid (And.intro hnn (And.intro hsn cnw))
   clear hnn hsn cnw
   go_wp2
   clear c0
   go_loopw [6, 7] (fun t u wr => ∃ (k : Nat) (va : Sv), k ≤ nn ∧ u = .int .i64 (k : Int) ∧ t = .slice va.a va.n va.c ∧ Hid (OwR tF V.heap.size wr va.v ((List.range k).map (edg l b))) ∧ Hid (Below V.heap.size V wr)) (fun _ u _ => nn - (intOf u).toNat)
   case atStart => exact ⟨0, ⟨none, 0, 0⟩, by omega, rfl, rfl, OwR.nil _ _, bRefl _⟩
   case round =>
    obtain ⟨k, va, hk, rfl, rfl, hO, hBV⟩ := hrel
    obtain ⟨U, rfl⟩ : ∃ x : World, x = wr := ⟨_, rfl⟩
    have HBu := Lib.hid (show Below w.heap.size w U from bThen HBw.out hBV.out)
    have c0 : U.cell? ⟨q, 0, none⟩ = some (.slice (some ⟨gb, ob, none⟩) (nB l) cb) := (HBu.out.cell HP.out.lt).trans HP.out.c0
    have cn : U.cell? ⟨gb, ob + b * 3 + 2, none⟩ = some (.slice na nn nc) := (HBu.out.cell (World.block_lt_of_cell? _ _ HNN.out.2.2)).trans HNN.out.2.2
    by_cases hlk : k < nn
    ·have hlk' : (k : Int) < (nn : Int) := by omega
     obtain ⟨x, hx⟩ : ∃ x, x = wts l (tT l) (-1) b := ⟨_, rfl⟩
     obtain ⟨ch, hch⟩ : ∃ c, c = chn l b k := ⟨_, rfl⟩
     have hxle : x ≤ inf := by rw [hx]; exact wts_le b
     obtain ⟨y, hy⟩ : ∃ y, y = fmul x ch := ⟨_, rfl⟩
     have hop := hop_mul (show Ieee.double.mul x ch = some y by rw [hy]; exact mul_nn hxle (by rw [hch]; exact chn_in.2) (by rw [hch]; exact chn_in.1))
     have HY := Lib.hid (show edg l b k = y by unfold edg; rw [hy, hx, hch])
     obtain ⟨gw, ow, rfl, -, -, cww⟩ := SlX.flo (HW1.out.sl (p := w1.heap.size) (fun e => by have := HW1.out.lt e; omega)) (k := b) (x := x) (by rw [List.getElem?_map, List.getElem?_range hlt, hx]; rfl)
     have cw : U.cell? ⟨gw, ow + b, none⟩ = some (.float .f64 x) := ((bThen hB.out hBV.out).cell (World.block_lt_of_cell? _ _ cww)).trans cww
     have HcV := Lib.hid (show V.cell? ⟨gw, ow + b, none⟩ = some (.float .f64 x) from (hB.out.cell (World.block_lt_of_cell? _ _ cww)).trans cww)
     have HCh := Lib.hid (show ∀ W : World, Below U.heap.size U W → Calls Try.prog 32 #[.pointer (some ⟨q, 0, none⟩), .int .i64 (b : Int), .int .i64 (k : Int)] W fun e w'' => e = .returned (.float .f64 ch) ∧ ∃ m, w'' = W.drewN m from fun W hW => by
      rw [hch]
      exact rchance_ok _ q l b k (HH.out.below (bThen HBu.out hW)) hlt (by rw [← HNN.out.1]; exact hlk))
     clear hx hch hy cww hxle
     go_upto_region 10 with (fail)
     clear c0 cn
     refine wp_region_held_drew (S := fun w' => w'.cell? ⟨gw, ow + b, none⟩ = some (.float .f64 x)) mix cw (fun hS => ?_)
     refine wpAnyH_take (i := 0) (v := .slice va.a va.n va.c) rfl (by kernel_rfl) (by kernel_rfl) (by kernel_rfl) (fun _ _ _ h => h) (Or.inl ⟨by rfl, fun w' hw' => by (try go_split_ands); go_simp <;> omega⟩) hS ?_
     simp only [Act.put, List.getElem_toArray, List.getElem_cons_zero, List.setIfInBounds_toArray, List.set_cons_zero, List.set_cons_succ]
     refine wpAnyH_take (i := 1) (v := .slice (some ⟨gw, ow, none⟩) (nB l) wvc) rfl (by kernel_rfl) (by kernel_rfl) (by kernel_rfl) (fun _ _ _ h => h) (Or.inl ⟨by rfl, fun w' hw' => by (try go_split_ands); go_simp <;> omega⟩) hS ?_
     simp only [Act.put, List.getElem_toArray, List.getElem_cons_zero, List.getElem_cons_succ, List.setIfInBounds_toArray, List.set_cons_zero, List.set_cons_succ]
     refine wpAnyH_take (i := 2) (v := .int .i64 (b : Int)) rfl (by kernel_rfl) (by kernel_rfl) (by kernel_rfl) (fun _ _ _ h => h) (Or.inl ⟨by rfl, fun w' hw' => by (try go_split_ands); go_simp <;> omega⟩) hS ?_
     simp only [Act.put, List.getElem_toArray, List.getElem_cons_zero, List.getElem_cons_succ, List.setIfInBounds_toArray, List.set_cons_zero, List.set_cons_succ]
     refine wpAnyH_take (i := 3) (v := .pointer (some ⟨gw, ow + b, none⟩)) rfl (by kernel_rfl) (by kernel_rfl) (by kernel_rfl) (fun _ _ _ h => h) (Or.inl ⟨by rfl, fun w' hw' => by (try go_split_ands); go_simp <;> omega⟩) hS ?_
     simp only [Act.put, List.getElem_toArray, List.getElem_cons_zero, List.getElem_cons_succ, List.setIfInBounds_toArray, List.set_cons_zero, List.set_cons_succ]
     refine wpAnyH_take (i := 4) (v := .float .f64 x) rfl (by kernel_rfl) (by kernel_rfl) (by kernel_rfl) (fun _ _ _ h => h) (Or.inl ⟨by rfl, fun w' hw' => by (try go_split_ands); go_simp <;> omega⟩) hS ?_
     simp only [Act.put, List.getElem_toArray, List.getElem_cons_zero, List.getElem_cons_succ, List.setIfInBounds_toArray, List.set_cons_zero, List.set_cons_succ]
     refine wpAnyH_take (i := 5) (v := .pointer (some ⟨q, 0, none⟩)) rfl (by kernel_rfl) (by kernel_rfl) (by kernel_rfl) (fun _ _ _ h => h) (Or.inl ⟨by rfl, fun w' hw' => by (try go_split_ands); go_simp <;> omega⟩) hS ?_
     simp only [Act.put, List.getElem_toArray, List.getElem_cons_zero, List.getElem_cons_succ, List.setIfInBounds_toArray, List.set_cons_zero, List.set_cons_succ]
     refine wpAnyH_take (i := 6) (v := .int .i64 (b : Int)) rfl (by kernel_rfl) (by kernel_rfl) (by kernel_rfl) (fun _ _ _ h => h) (Or.inl ⟨by rfl, fun w' hw' => by (try go_split_ands); go_simp <;> omega⟩) hS ?_
     simp only [Act.put, List.getElem_toArray, List.getElem_cons_zero, List.getElem_cons_succ, List.setIfInBounds_toArray, List.set_cons_zero, List.set_cons_succ]
     refine wpAnyH_take (i := 7) (v := .int .i64 (k : Int)) rfl (by kernel_rfl) (by kernel_rfl) (by kernel_rfl) (fun _ _ _ h => h) (Or.inl ⟨by rfl, fun w' hw' => by (try go_split_ands); go_simp <;> omega⟩) hS ?_
     simp only [Act.put, List.getElem_toArray, List.getElem_cons_zero, List.getElem_cons_succ, List.setIfInBounds_toArray, List.set_cons_zero, List.set_cons_succ]
     refine wpAnyH_ready (rs := [8]) (by kernel_rfl) (by simp) ?_
     refine AllReadyH.cons rfl (fun K hK => ?_) AllReadyH.nil
     go_simp
     go_wp2_with fail
     refine (HCh.out _ (bRefl U).drew).mono ?_
     rintro e w8 ⟨rfl, m8, hw8⟩
     have hb8 : Below U.heap.size U w8 := by rw [hw8]; exact bDrewN (bRefl U).drew m8
     have cw8 : w8.cell? ⟨gw, ow + b, none⟩ = some (.float .f64 x) := (hb8.cell (World.block_lt_of_cell? _ _ cw)).trans cw
     clear hw8 HCh
     go_wp2_with fail
     refine hK.out _ _ cw8 (fun hS => ?_)
     clear hK K hS
     have hS := cw8
     refine wpAnyH_ready (rs := [9]) (by kernel_rfl) (by simp) ?_
     refine AllReadyH.cons rfl (fun K hK => ?_) AllReadyH.nil
     go_simp
     refine hK.out _ _ hS (fun _ => ?_)
     clear hK K
     refine wpAnyH_ready (rs := [10]) (by kernel_rfl) (by simp) ?_
     refine AllReadyH.cons rfl (fun K hK => ?_) AllReadyH.nil
     go_simp
     obtain ⟨W, hW⟩ : ∃ z, z = w8.alloc (.cells #[.float .f64 y] 42) := ⟨_, rfl⟩
     have hb8W : Below w8.heap.size w8 W := by rw [hW]; exact bAl (bRefl w8) _
     have hbW : Below U.heap.size U W := bThen hb8 hb8W
     have HN := Lib.hid (show Blk W w8.heap.size 42 #[.float .f64 y] by rw [hW]; exact Blk.new w8 42 _)
     rw [← hW]
     have cwW : W.cell? ⟨gw, ow + b, none⟩ = some (.float .f64 x) := (hbW.cell (World.block_lt_of_cell? _ _ cw)).trans cw
     refine hK.out _ _ cwW (fun hS => ?_)
     clear hK K hS hW
     have hzV := hBV.out.size
     have hzU := hbW.size
     have hlen : ((List.range k).map (edg l b)).length = k := by rw [List.length_map, List.length_range]
     refine wpAnyH_ready (rs := [11]) (by kernel_rfl) (by simp) ?_
     refine AllReadyH.cons rfl (fun K hK => ?_) AllReadyH.nil
     refine step_push tF rfl (.tmp 32) (.tmp 42) rfl V.heap.size (.slice va.a va.n va.c) ((List.range k).map (edg l b)) (by rfl) (hO.out.below hbW) w8.heap.size 0 1 1 [y] (by rfl) rfl (rangeBlk HN.out (by rfl)) (by rw [hlen]; unfold maxLen; simp; omega) (by rw [hlen]; show _ * 8 ≤ _; simp; omega) (by omega) ?_
     intro v' w9 hown hgrow hform
     obtain ⟨g9, c9, rfl, _⟩ := hform (by simp)
     have hb9 : Below V.heap.size V w9 := (bThen hBV.out hbW).grown hgrow (by omega) (fun g hg => ((hO.out.below hbW).blk hg).1)
     have hO9 := Lib.hid (show OwR tF V.heap.size w9 (Sv.v ⟨some ⟨g9, 0, none⟩, k + 1, c9⟩) ((List.range (k + 1)).map (edg l b)) by rw [ed_take, HY.out]; have h1 := hown; rw [hlen] at h1; exact h1)
     have HB9 := Lib.hid hb9
     have cw9 : w9.cell? ⟨gw, ow + b, none⟩ = some (.float .f64 x) := (hb9.cell (World.block_lt_of_cell? _ _ HcV.out)).trans HcV.out
     simp only [Act.put, List.setIfInBounds_toArray]
     refine hK.out _ _ cw9 (fun hS => ?_)
     clear hK K
     refine wpAnyH_ready (rs := [12]) (by kernel_rfl) (by simp) ?_
     refine AllReadyH.cons rfl (fun K hK => ?_) AllReadyH.nil
     go_simp
     refine hK.out _ _ hS (fun _ => ?_)
     clear hK K
     refine wpAnyH_done (by kernel_rfl) ?_ _
     clear hS cw9 hb9 hown hgrow hform hlen hzU hzV cwW hb8W hbW HN cw8 hb8 HcV cw hop
     go_wp2
     go_roundw
     all_goals first
      | exact ⟨k + 1, ⟨some ⟨g9, 0, none⟩, k + 1, c9⟩, by omega, by go_num, rfl, hO9.out, HB9.out⟩
      | (simp [intOf] <;> omega)
    ·have hke : k = nn := by omega
     have hlk' : ¬ (k : Int) < (nn : Int) := by omega
     have HO := Lib.hid (show OwR tF V.heap.size U va.v (edR l b) by have := hO.out; rw [hke, HNN.out.1] at this; exact this)
     clear hO hke
     have hOut := hR.out.2.1.below hBV.out
     have hzV := hB.out.size
     have hzU := hBV.out.size
     have hrl := hR.out.1
     go_upto_region 5 with (at_builtin; refine wpl_push tFF rfl (.tmp 44) (.tmp 46) rfl w1.heap.size (.slice v.a v.n v.c) rs rfl (hOut.alloc _) _ 0 1 1 [va] rfl rfl (rangeNew (by rfl) (by rfl)) (by rw [hrl]; unfold maxLen; simp; omega) (by rw [hrl]; show _ * 24 ≤ _; simp; omega) (by simp; omega) ?_; intro v' w9 hown hgrow hform)
     obtain ⟨g9, c9, rfl, _⟩ := hform (by simp)
     have hrw9 : Rws tF w1.heap.size rs (edR l) w9 := (hR.out.2.2.below hBV.out).keep fun g C _ hg => (hgrow.block g (by have := hg.lt; simp; omega) (fun e => hOut.ne hg (by decide) e.symm)).trans (Below.heap_alloc U _ g hg.lt)
     have hro9 : OwR tF V.heap.size w9 va.v (edR l rs.length) := by
      rw [hrl]
      exact HO.out.keep fun g hg => by
       obtain ⟨_, C, hb⟩ := HO.out.blk hg
       exact (hgrow.block g (by have := hb.lt; simp; omega) (fun e => hOut.ne hb (by decide) e.symm)).trans (Below.heap_alloc U _ g hb.lt)
     have HR9 := Lib.hid (Rws.snoc hR.out.2.2 hrw9 hro9 hzV)
     have HO9 := Lib.hid (show OwR tFF w1.heap.size w9 (Sv.v ⟨some ⟨g9, 0, none⟩, rs.length + [va].length, c9⟩) (rs ++ [va]) from hown)
     have HB9 := Lib.hid (show Below w1.heap.size w1 w9 from (bAl (bThen hB.out hBV.out) _).grown hgrow (by simp; omega) (fun g hg => (hOut.blk hg).1))
     have HL9 := Lib.hid (show (rs ++ [va]).length = b + 1 by rw [List.length_append, hrl]; rfl)
     clear hown hgrow hform hrw9 hro9 hOut hzU hzV HO hR
     go_wp2
     go_roundw
     all_goals first
      | exact ⟨b + 1, ⟨some ⟨g9, 0, none⟩, rs.length + [va].length, c9⟩, _, by omega, by go_num, rfl, ⟨HL9.out, HO9.out, HR9.out⟩, HB9.out⟩
      | ((repeat apply Exists.intro); exact ⟨⟨b + 1, ⟨some ⟨g9, 0, none⟩, rs.length + [va].length, c9⟩, _, by omega, by go_num, rfl, ⟨HL9.out, HO9.out, HR9.out⟩, HB9.out⟩, rfl⟩)
      | (simp [intOf] <;> omega)
  ·have hbe : b = nB l := by omega
   have hlt' : ¬ (b : Int) < (nB l : Int) := by omega
   have HF := Lib.hid (show rs.length = nB l by rw [← hbe]; exact hR.out.1)
   have hs1 := HB1.out.size
   clear hbe
   go_wp2
   go_ret
   exact ⟨HBw.out, _, rfl, rs, HF.out, hR.out.2.1.mono hs1, hR.out.2.2.mono hs1⟩
end Go.Proofs.Ytndnfjcfpcfakaa
