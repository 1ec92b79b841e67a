/- What the law needs, one part after another: walks of functions and plain laws. No conditions but those that each law names. -/
import Derived.Test.YtndnfjcfpcfakaaTpai
import Derived.Deep.RegionHeld
namespace Go.Proofs.Ytndnfjcfpcfakaa
open Go Go.RowKit Go.Wr Go.Fl
set_option maxHeartbeats 4000000
set_option maxRecDepth 100000
theorem SlX.ss {p : Nat} {w : World} {a0 : Option Addr} {n cap : Nat} {l : List Sv} (h : SlX tII p w (.slice a0 n cap) l) {k : Nat} {x : Sv} (hk : l[k]? = some x) :
  ∃ b o, a0 = some ⟨b, o, none⟩ ∧ b ≠ p ∧ b < w.heap.size ∧ w.cell? ⟨b, o + k, none⟩ = some (.slice x.a x.n x.c) := by
 obtain ⟨b, o, e, hne, hat⟩ := h.get hk
 refine ⟨b, o, e, hne, hat.1, ?_⟩
 have := hat.cell 0 _ rfl
 have e1 : o + k * tII.n + 0 = o + k := by show o + k * 1 + 0 = _; omega
 rw [e1] at this
 exact this
theorem slx_fit {α : Type} {R : RT Try.prog α} {p : Nat} {w : World} {a : Option Addr} {n c : Nat} {l : List α} (h : SlX R p w (.slice a n c) l) : n = l.length ∧ n ≤ c ∧ c ≤ 9223372036854775807 := by
 obtain ⟨a1, c1, e, h1, h2⟩ := h.form
 injection e with _ e1 e2
 subst e1; subst e2
 unfold maxLen at h2
 exact ⟨rfl, h1, by omega⟩
def lgC (tot : Int) (fv wv kv sv : Value) : Array Value := #[.int .i64 tot, fv, wv, kv, sv, .bool false]
theorem lg_still {w : World} {p : Nat} {tot : Int} {fv wv kv sv : Value} (h : Blk w p 56 (lgC tot fv wv kv sv)) : Below w.heap.size w (w.setCell ⟨p, 5, none⟩ (.bool false)) ∧ Blk (w.setCell ⟨p, 5, none⟩ (.bool false)) p 56 (lgC tot fv wv kv sv) := by
 have e := h.set 5 (.bool false)
 have e2 : (lgC tot fv wv kv sv).setIfInBounds 5 (.bool false) = lgC tot fv wv kv sv := rfl
 rw [e2] at e
 have hb := (Below.refl 0 w).setCell (p := ⟨p, 5, none⟩) (Nat.zero_le _) (.bool false)
 refine ⟨⟨hb.os, hb.tape, hb.output, hb.size, fun k hk => ?_⟩, e⟩
 by_cases hkp : k = p
 ·subst hkp
  have e1 : (w.setCell ⟨k, 5, none⟩ (.bool false)).heap[k]? = some (.cells (lgC tot fv wv kv sv) 56 (0, 0)) := e
  have e3 : w.heap[k]? = some (.cells (lgC tot fv wv kv sv) 56 (0, 0)) := h
  rw [e1, e3]
 ·exact Below.heap_setCell w ⟨p, 5, none⟩ _ k hkp
theorem look_ok (W : World) (p : Nat) (tot : Int) (fv wv : Sv) (kv sv : Value) (fr wl : List Sv) (hp : Blk W p 56 (lgC tot fv.v wv.v kv sv))
  (hf : SlX tII p W fv.v fr) (hw : SlX tII p W wv.v wl) (h3 : fr.length ≤ 1099511627776)
  (hs : ∀ (k : Nat) (s : Sv), fr[k]? = some s → ∃ t l, wl[k]? = some t ∧ SlX tI p W s.v l ∧ SlX tI p W t.v l) :
  Calls Try.prog 69 #[.pointer (some ⟨p, 0, none⟩)] W fun e w' => e = .returned (.tuple #[]) ∧ Below W.heap.size W w' := by
 have mix : Try.prog.follows .mixedOrders = true := by kernel_rfl
 obtain ⟨fa, fn, fc⟩ := fv
 obtain ⟨wa, wn, wc⟩ := wv
 unfold Sv.v at hp hf hw
 simp only at hp hf hw
 obtain ⟨rfl, f1, f2⟩ := slx_fit hf
 obtain ⟨rfl, g1, g2⟩ := slx_fit hw
 have HF := Lib.hid hf
 have HW := Lib.hid hw
 have HS := Lib.hid hs
 have HP := Lib.hid hp
 obtain ⟨P, hPd⟩ : ∃ P : World → Prop, P = fun w' => Below W.heap.size W w' ∧ Blk w' p 56 (lgC tot (.slice fa fr.length fc) (.slice wa wl.length wc) kv sv) := ⟨_, rfl⟩
 have HPd := Lib.hid hPd
 have cell : ∀ w', P w' → w'.cell? ⟨p, 1, none⟩ = some (.slice fa fr.length fc) ∧ w'.cell? ⟨p, 2, none⟩ = some (.slice wa wl.length wc) ∧ w'.cell? ⟨p, 5, none⟩ = some (.bool false) ∧ w'.frozen? ⟨p, 5, none⟩ = false := fun w' h => by
  rw [hPd] at h
  exact ⟨h.2.cell 1, h.2.cell 2, h.2.cell 5, h.2.frozen 5⟩
 have HC := Lib.hid cell
 have h0 : P W := by rw [hPd]; exact ⟨bRefl W, hp⟩
 clear hf hw hs hp hPd cell
 go_enter Try.func69, Try.ntmps69
 go_wp2
 go_loopw [2] (fun t wr' => ∃ i : Nat, i ≤ fr.length ∧ t = .int .i64 (i : Int) ∧ Hid (P wr')) (fun t _ => fr.length - (intOf t).toNat)
 case atStart => exact ⟨0, by omega, rfl, h0⟩
 case round =>
  obtain ⟨i, hi, rfl, hb⟩ := hrel
  clear h0
  obtain ⟨c1, c2, c5, _⟩ := HC.out _ hb.out
  by_cases hit : i < fr.length
  ·have hit' : (i : Int) < (fr.length : Int) := by omega
   have hi0 : (0 : Int) ≤ (i : Int) := by omega
   obtain ⟨⟨sa, sn, sc⟩, hsi⟩ : ∃ s, fr[i]? = some s := ⟨_, List.getElem?_eq_getElem hit⟩
   obtain ⟨⟨ta, tn, tc⟩, l, hti, k1, k2⟩ := HS.out i _ hsi
   have hwt : i < wl.length := (List.getElem?_eq_some_iff.1 hti).1
   have hwt' : (i : Int) < (wl.length : Int) := by omega
   have hb1 := hb.out
   rw [HPd.out] at hb1
   obtain ⟨b, o, rfl, _, _, cs⟩ := SlX.ss (HF.out.below hb1.1) hsi
   obtain ⟨b', o', rfl, _, _, ct⟩ := SlX.ss (HW.out.below hb1.1) hti
   unfold Sv.v at k1 k2
   simp only at cs ct k1 k2
   have K1 := Lib.hid k1
   have K2 := Lib.hid k2
   clear hsi hti k1 k2 hb1
   go_upto_region 3 with (fail)
   refine wp_region_held_drew (S := fun w' => w'.cell? ⟨p, 1, none⟩ = some (.slice (some ⟨b, o, none⟩) fr.length fc) ∧ w'.cell? ⟨p, 2, none⟩ = some (.slice (some ⟨b', o', none⟩) wl.length wc) ∧ w'.cell? ⟨p, 5, none⟩ = some (.bool false) ∧ w'.cell? ⟨b, o + i, none⟩ = some (.slice sa sn sc) ∧ w'.cell? ⟨b', o' + i, none⟩ = some (.slice ta tn tc) ∧ Hid (P w')) mix ⟨c1, c2, c5, cs, ct, by have := hb.out; rw [HPd.out] at this ⊢; exact ⟨⟨this.1.os, this.1.tape, this.1.output, this.1.size, this.1.block⟩, this.2⟩⟩ (fun hS => ?_)
   clear c1 c2 c5 cs ct hb
   refine wpAnyH_take (i := 0) (v := .pointer (some ⟨p, 0, none⟩)) rfl (by kernel_rfl) (by kernel_rfl) (by kernel_rfl) (fun _ _ _ h => h) (Or.inl ⟨by rfl, fun w' hw' => by (try go_split_ands); go_simp <;> omega⟩) hS ?_
   simp only [Act.put, List.getElem_toArray, List.getElem_cons_zero, List.setIfInBounds_toArray, List.set_cons_zero, List.set_cons_succ]
   refine wpAnyH_take (i := 1) (v := .pointer (some ⟨p, 0, none⟩)) rfl (by kernel_rfl) (by kernel_rfl) (by kernel_rfl) (fun _ _ _ h => h) (Or.inl ⟨by rfl, fun w' hw' => by (try go_split_ands); go_simp <;> omega⟩) hS ?_
   simp only [Act.put, List.getElem_toArray, List.getElem_cons_zero, List.getElem_cons_succ, List.setIfInBounds_toArray, List.set_cons_zero, List.set_cons_succ]
   refine wpAnyH_take (i := 2) (v := .pointer (some ⟨p, 0, none⟩)) rfl (by kernel_rfl) (by kernel_rfl) (by kernel_rfl) (fun _ _ _ h => h) (Or.inl ⟨by rfl, fun w' hw' => by (try go_split_ands); go_simp <;> omega⟩) hS ?_
   simp only [Act.put, List.getElem_toArray, List.getElem_cons_zero, List.getElem_cons_succ, List.setIfInBounds_toArray, List.set_cons_zero, List.set_cons_succ]
   refine wpAnyH_take (i := 3) (v := .pointer (some ⟨p, 5, none⟩)) rfl (by kernel_rfl) (by kernel_rfl) (by kernel_rfl) (fun _ _ _ h => h) (Or.inl ⟨by rfl, fun w' hw' => by (try go_split_ands); go_simp <;> omega⟩) hS ?_
   simp only [Act.put, List.getElem_toArray, List.getElem_cons_zero, List.getElem_cons_succ, List.setIfInBounds_toArray, List.set_cons_zero, List.set_cons_succ]
   refine wpAnyH_take (i := 4) (v := .bool false) rfl (by kernel_rfl) (by kernel_rfl) (by kernel_rfl) (fun _ _ _ h => h) (Or.inl ⟨by rfl, fun w' hw' => by (try go_split_ands); go_simp <;> omega⟩) hS ?_
   simp only [Act.put, List.getElem_toArray, List.getElem_cons_zero, List.getElem_cons_succ, List.setIfInBounds_toArray, List.set_cons_zero, List.set_cons_succ]
   refine wpAnyH_take (i := 5) (v := .bool false) rfl (by kernel_rfl) (by kernel_rfl) (by kernel_rfl) (fun _ _ _ h => h) (Or.inl ⟨by rfl, fun w' hw' => by (try go_split_ands); go_simp <;> omega⟩) hS ?_
   simp only [Act.put, List.getElem_toArray, List.getElem_cons_zero, List.getElem_cons_succ, List.setIfInBounds_toArray, List.set_cons_zero, List.set_cons_succ]
   refine wpAnyH_take (i := 6) (v := .pointer (some ⟨p, 0, none⟩)) rfl (by kernel_rfl) (by kernel_rfl) (by kernel_rfl) (fun _ _ _ h => h) (Or.inl ⟨by rfl, fun w' hw' => by (try go_split_ands); go_simp <;> omega⟩) hS ?_
   simp only [Act.put, List.getElem_toArray, List.getElem_cons_zero, List.getElem_cons_succ, List.setIfInBounds_toArray, List.set_cons_zero, List.set_cons_succ]
   refine wpAnyH_take (i := 7) (v := .pointer (some ⟨p, 0, none⟩)) rfl (by kernel_rfl) (by kernel_rfl) (by kernel_rfl) (fun _ _ _ h => h) (Or.inl ⟨by rfl, fun w' hw' => by (try go_split_ands); go_simp <;> omega⟩) hS ?_
   simp only [Act.put, List.getElem_toArray, List.getElem_cons_zero, List.getElem_cons_succ, List.setIfInBounds_toArray, List.set_cons_zero, List.set_cons_succ]
   refine wpAnyH_take (i := 8) (v := .pointer (some ⟨p, 1, none⟩)) rfl (by kernel_rfl) (by kernel_rfl) (by kernel_rfl) (fun _ _ _ h => h) (Or.inl ⟨by rfl, fun w' hw' => by (try go_split_ands); go_simp <;> omega⟩) hS ?_
   simp only [Act.put, List.getElem_toArray, List.getElem_cons_zero, List.getElem_cons_succ, List.setIfInBounds_toArray, List.set_cons_zero, List.set_cons_succ]
   refine wpAnyH_take (i := 9) (v := .slice (some ⟨b, o, none⟩) fr.length fc) rfl (by kernel_rfl) (by kernel_rfl) (by kernel_rfl) (fun _ _ _ h => h) (Or.inl ⟨by rfl, fun w' hw' => by (try go_split_ands); go_simp <;> omega⟩) hS ?_
   simp only [Act.put, List.getElem_toArray, List.getElem_cons_zero, List.getElem_cons_succ, List.setIfInBounds_toArray, List.set_cons_zero, List.set_cons_succ]
   refine wpAnyH_take (i := 10) (v := .int .i64 (i : Int)) rfl (by kernel_rfl) (by kernel_rfl) (by kernel_rfl) (fun _ _ _ h => h) (Or.inl ⟨by rfl, fun w' hw' => by (try go_split_ands); go_simp <;> omega⟩) hS ?_
   simp only [Act.put, List.getElem_toArray, List.getElem_cons_zero, List.getElem_cons_succ, List.setIfInBounds_toArray, List.set_cons_zero, List.set_cons_succ]
   refine wpAnyH_take (i := 11) (v := .pointer (some ⟨b, o + i, none⟩)) rfl (by kernel_rfl) (by kernel_rfl) (by kernel_rfl) (fun _ _ _ h => h) (Or.inl ⟨by rfl, fun w' hw' => by (try go_split_ands); go_simp <;> omega⟩) hS ?_
   simp only [Act.put, List.getElem_toArray, List.getElem_cons_zero, List.getElem_cons_succ, List.setIfInBounds_toArray, List.set_cons_zero, List.set_cons_succ]
   refine wpAnyH_take (i := 12) (v := .slice sa sn sc) rfl (by kernel_rfl) (by kernel_rfl) (by kernel_rfl) (fun _ _ _ h => h) (Or.inl ⟨by rfl, fun w' hw' => by (try go_split_ands); go_simp <;> omega⟩) hS ?_
   simp only [Act.put, List.getElem_toArray, List.getElem_cons_zero, List.getElem_cons_succ, List.setIfInBounds_toArray, List.set_cons_zero, List.set_cons_succ]
   refine wpAnyH_take (i := 13) (v := .pointer (some ⟨p, 0, none⟩)) rfl (by kernel_rfl) (by kernel_rfl) (by kernel_rfl) (fun _ _ _ h => h) (Or.inl ⟨by rfl, fun w' hw' => by (try go_split_ands); go_simp <;> omega⟩) hS ?_
   simp only [Act.put, List.getElem_toArray, List.getElem_cons_zero, List.getElem_cons_succ, List.setIfInBounds_toArray, List.set_cons_zero, List.set_cons_succ]
   refine wpAnyH_take (i := 14) (v := .pointer (some ⟨p, 0, none⟩)) rfl (by kernel_rfl) (by kernel_rfl) (by kernel_rfl) (fun _ _ _ h => h) (Or.inl ⟨by rfl, fun w' hw' => by (try go_split_ands); go_simp <;> omega⟩) hS ?_
   simp only [Act.put, List.getElem_toArray, List.getElem_cons_zero, List.getElem_cons_succ, List.setIfInBounds_toArray, List.set_cons_zero, List.set_cons_succ]
   refine wpAnyH_take (i := 15) (v := .pointer (some ⟨p, 2, none⟩)) rfl (by kernel_rfl) (by kernel_rfl) (by kernel_rfl) (fun _ _ _ h => h) (Or.inl ⟨by rfl, fun w' hw' => by (try go_split_ands); go_simp <;> omega⟩) hS ?_
   simp only [Act.put, List.getElem_toArray, List.getElem_cons_zero, List.getElem_cons_succ, List.setIfInBounds_toArray, List.set_cons_zero, List.set_cons_succ]
   refine wpAnyH_take (i := 16) (v := .slice (some ⟨b', o', none⟩) wl.length wc) rfl (by kernel_rfl) (by kernel_rfl) (by kernel_rfl) (fun _ _ _ h => h) (Or.inl ⟨by rfl, fun w' hw' => by (try go_split_ands); go_simp <;> omega⟩) hS ?_
   simp only [Act.put, List.getElem_toArray, List.getElem_cons_zero, List.getElem_cons_succ, List.setIfInBounds_toArray, List.set_cons_zero, List.set_cons_succ]
   refine wpAnyH_take (i := 17) (v := .int .i64 (i : Int)) rfl (by kernel_rfl) (by kernel_rfl) (by kernel_rfl) (fun _ _ _ h => h) (Or.inl ⟨by rfl, fun w' hw' => by (try go_split_ands); go_simp <;> omega⟩) hS ?_
   simp only [Act.put, List.getElem_toArray, List.getElem_cons_zero, List.getElem_cons_succ, List.setIfInBounds_toArray, List.set_cons_zero, List.set_cons_succ]
   refine wpAnyH_take (i := 18) (v := .pointer (some ⟨b', o' + i, none⟩)) rfl (by kernel_rfl) (by kernel_rfl) (by kernel_rfl) (fun _ _ _ h => h) (Or.inl ⟨by rfl, fun w' hw' => by (try go_split_ands); go_simp <;> omega⟩) hS ?_
   simp only [Act.put, List.getElem_toArray, List.getElem_cons_zero, List.getElem_cons_succ, List.setIfInBounds_toArray, List.set_cons_zero, List.set_cons_succ]
   refine wpAnyH_take (i := 19) (v := .slice ta tn tc) rfl (by kernel_rfl) (by kernel_rfl) (by kernel_rfl) (fun _ _ _ h => h) (Or.inl ⟨by rfl, fun w' hw' => by (try go_split_ands); go_simp <;> omega⟩) hS ?_
   simp only [Act.put, List.getElem_toArray, List.getElem_cons_zero, List.getElem_cons_succ, List.setIfInBounds_toArray, List.set_cons_zero, List.set_cons_succ]
   refine wpAnyH_ready (rs := [20]) (by kernel_rfl) (by simp) ?_
   refine AllReadyH.cons rfl (fun K hK => ?_) AllReadyH.nil
   go_simp
   go_wp2_with fail
   have hS6 := hS.2.2.2.2.2.out
   rw [HPd.out] at hS6
   have hx1 := K1.out.below hS6.1
   have hx2 := K2.out.below hS6.1
   refine (sameInts_ok _ p p (.slice sa sn sc) (.slice ta tn tc) l l hx1 hx2).mono ?_
   rintro e w8 ⟨rfl, hb8⟩
   rw [decide_eq_true (rfl : l = l)]
   have hP8 : P w8 := by rw [HPd.out]; exact ⟨bThen hS6.1 hb8, hS6.2.below hb8 hS6.2.lt⟩
   have hS8 : w8.cell? ⟨p, 1, none⟩ = some (.slice (some ⟨b, o, none⟩) fr.length fc) ∧ w8.cell? ⟨p, 2, none⟩ = some (.slice (some ⟨b', o', none⟩) wl.length wc) ∧ w8.cell? ⟨p, 5, none⟩ = some (.bool false) ∧ w8.cell? ⟨b, o + i, none⟩ = some (.slice sa sn sc) ∧ w8.cell? ⟨b', o' + i, none⟩ = some (.slice ta tn tc) ∧ Hid (P w8) :=
    ⟨(HC.out _ hP8).1, (HC.out _ hP8).2.1, (HC.out _ hP8).2.2.1, (hb8.cell (World.block_lt_of_cell? _ _ hS.2.2.2.1)).trans hS.2.2.2.1, (hb8.cell (World.block_lt_of_cell? _ _ hS.2.2.2.2.1)).trans hS.2.2.2.2.1, hP8⟩
   clear hS6 hx1 hx2 hb8 hS hP8
   go_wp2_with fail
   refine hK.out _ _ hS8 (fun hS => ?_)
   clear hK K hS8
   refine wpAnyH_ready (rs := [21]) (by kernel_rfl) (by simp) ?_
   refine AllReadyH.cons rfl (fun K hK => ?_) AllReadyH.nil
   go_simp
   refine hK.out _ _ hS (fun _ => ?_)
   clear hK K
   refine wpAnyH_ready (rs := [22]) (by kernel_rfl) (by simp) ?_
   refine AllReadyH.cons rfl (fun K hK => ?_) AllReadyH.nil
   go_simp
   refine hK.out _ _ hS (fun _ => ?_)
   clear hK K
   refine wpAnyH_ready (rs := [23]) (by kernel_rfl) (by simp) ?_
   refine AllReadyH.cons rfl (fun K hK => ?_) AllReadyH.nil
   go_simp
   refine hK.out _ _ hS (fun _ => ?_)
   clear hK K
   refine wpAnyH_ready (rs := [24]) (by kernel_rfl) (by simp) ?_
   refine AllReadyH.cons rfl (fun K hK => ?_) AllReadyH.nil
   go_simp
   refine hK.out _ _ hS (fun _ => ?_)
   clear hK K
   have hF := (HC.out _ hS.2.2.2.2.2.out).2.2.2
   refine wpAnyH_ready (rs := [25]) (by kernel_rfl) (by simp) ?_
   refine AllReadyH.cons rfl (fun K hK => ?_) AllReadyH.nil
   go_simp
   have hS6 := hS.2.2.2.2.2.out
   rw [HPd.out] at hS6
   obtain ⟨s1, s2⟩ := lg_still hS6.2
   obtain ⟨w9, hw9⟩ : ∃ x, x = w8.setCell ⟨p, 5, none⟩ (.bool false) := ⟨_, rfl⟩
   rw [← hw9] at s1 s2 ⊢
   have hP9 : P w9 := by rw [HPd.out]; exact ⟨bThen hS6.1 s1, s2⟩
   have hS9 : w9.cell? ⟨p, 1, none⟩ = some (.slice (some ⟨b, o, none⟩) fr.length fc) ∧ w9.cell? ⟨p, 2, none⟩ = some (.slice (some ⟨b', o', none⟩) wl.length wc) ∧ w9.cell? ⟨p, 5, none⟩ = some (.bool false) ∧ w9.cell? ⟨b, o + i, none⟩ = some (.slice sa sn sc) ∧ w9.cell? ⟨b', o' + i, none⟩ = some (.slice ta tn tc) ∧ Hid (P w9) :=
    ⟨(HC.out _ hP9).1, (HC.out _ hP9).2.1, (HC.out _ hP9).2.2.1, (s1.cell (World.block_lt_of_cell? _ _ hS.2.2.2.1)).trans hS.2.2.2.1, (s1.cell (World.block_lt_of_cell? _ _ hS.2.2.2.2.1)).trans hS.2.2.2.2.1, hP9⟩
   refine hK.out _ _ hS9 (fun hS => ?_)
   clear hK K hS9 hw9 s1 s2 hS6
   refine wpAnyH_done (by kernel_rfl) ?_ _
   have hb3 := hS.2.2.2.2.2
   clear hS
   go_wp2
   go_roundw
   all_goals first
    | exact ⟨i + 1, by omega, by go_num, hb3.out⟩
    | ((repeat apply Exists.intro); exact ⟨⟨i + 1, by omega, by go_num, hb3.out⟩, rfl⟩)
    | (simp [intOf] <;> omega)
  ·obtain rfl : i = fr.length := by omega
   clear hit
   go_wp2
   go_end0
   have hb1 := hb.out
   rw [HPd.out] at hb1
   exact ⟨rfl, hb1.1⟩
def mine (id : Int) (n : Nat) : List Int := (List.range n).map fun j : Nat => -1000003 * (id + 1) - (j : Int)
theorem mine_get {id : Int} {n k : Nat} (h : k < n) : (mine id n)[k]? = some (-1000003 * (id + 1) - (k : Int)) := by
 unfold mine
 rw [List.getElem?_map, List.getElem?_range h]
 rfl
theorem mine_len (id : Int) (n : Nat) : (mine id n).length = n := by simp [mine]
theorem holds_ok (W : World) (p : Nat) (tot : Int) (fv wv kv sv : Sv) (fr wl kl : List Sv) (ids : List Int) (hp : Blk W p 56 (lgC tot fv.v wv.v kv.v sv.v))
  (hf : SlX tII p W fv.v fr) (hw : SlX tII p W wv.v wl) (h3 : fr.length ≤ 1099511627776)
  (hs : ∀ (k : Nat) (s : Sv), fr[k]? = some s → ∃ t l, wl[k]? = some t ∧ SlX tI p W s.v l ∧ SlX tI p W t.v l)
  (hk : SlX tII p W kv.v kl) (hi : SlX tI p W sv.v ids) (hl : kl.length = ids.length)
  (hks : ∀ (k : Nat) (s : Sv), kl[k]? = some s → ∃ (x : Int) (n : Nat), ids[k]? = some x ∧ 0 ≤ x ∧ x ≤ 1099511627 ∧ n ≤ 1099511627776 ∧ SlX tI p W s.v (mine x n)) :
  Calls Try.prog 39 #[.pointer (some ⟨p, 0, none⟩)] W fun e w' => e = .returned (.bool true) ∧ Below W.heap.size W w' := by
 have mix : Try.prog.follows .mixedOrders = true := by kernel_rfl
 have HL := Lib.hid (look_ok W p tot fv wv kv.v sv.v fr wl hp hf hw h3 hs)
 obtain ⟨fa, fn, fc⟩ := fv
 obtain ⟨wa, wn, wc⟩ := wv
 obtain ⟨ka, kn, kc⟩ := kv
 obtain ⟨ia, iN, ic⟩ := sv
 unfold Sv.v at hp hf hw hk hi
 simp only at hp hf hw hk hi
 clear hf hw hs h3
 obtain ⟨rfl, f1, f2⟩ := slx_fit hk
 obtain ⟨rfl, g1, g2⟩ := slx_fit hi
 have HF := Lib.hid hk
 have HI := Lib.hid hi
 have HS := Lib.hid hks
 have HP := Lib.hid hp
 have HLn := Lib.hid hl
 obtain ⟨P, hPd⟩ : ∃ P : World → Prop, P = fun w' => Below W.heap.size W w' ∧ Blk w' p 56 (lgC tot (.slice fa fn fc) (.slice wa wn wc) (.slice ka kl.length kc) (.slice ia ids.length ic)) := ⟨_, rfl⟩
 have HPd := Lib.hid hPd
 have cell : ∀ w', P w' → w'.cell? ⟨p, 3, none⟩ = some (.slice ka kl.length kc) ∧ w'.cell? ⟨p, 4, none⟩ = some (.slice ia ids.length ic) ∧ w'.cell? ⟨p, 5, none⟩ = some (.bool false) ∧ w'.frozen? ⟨p, 5, none⟩ = false := fun w' h => by
  rw [hPd] at h
  exact ⟨h.2.cell 3, h.2.cell 4, h.2.cell 5, h.2.frozen 5⟩
 have HC := Lib.hid cell
 clear hk hi hks hPd cell hl
 go_enter Try.func39, Try.ntmps39
 go_wp2_with fail
 refine HL.out.mono ?_
 rintro e w1 ⟨rfl, hb1⟩
 have h0 : Hid (P w1) := by show P w1; rw [HPd.out]; exact ⟨hb1, HP.out.below hb1 HP.out.lt⟩
 clear hp hb1 HP HL
 go_wp2
 go_loopw [3] (fun t wr' => ∃ i : Nat, i ≤ kl.length ∧ t = .int .i64 (i : Int) ∧ Hid (P wr')) (fun t _ => kl.length - (intOf t).toNat)
 case atStart => exact ⟨0, by omega, rfl, h0⟩
 case round =>
  obtain ⟨i, hi, rfl, hb⟩ := hrel
  clear h0
  obtain ⟨c1, c2, c5, _⟩ := HC.out _ hb.out
  by_cases hit : i < kl.length
  ·have hit' : (i : Int) < (kl.length : Int) := by omega
   have hi0 : (0 : Int) ≤ (i : Int) := by omega
   obtain ⟨⟨sa, sn, sc⟩, hsi⟩ : ∃ s, kl[i]? = some s := ⟨_, List.getElem?_eq_getElem hit⟩
   obtain ⟨x, n, hx, x0, x1, n1, k1⟩ := HS.out i _ hsi
   have hwt' : (i : Int) < (ids.length : Int) := by have := HLn.out; omega
   have hb1 := hb.out
   rw [HPd.out] at hb1
   obtain ⟨b, o, rfl, _, hblt, cs⟩ := SlX.ss (HF.out.below hb1.1) hsi
   obtain ⟨b', o', rfl, _, hblt', ci⟩ := SlX.int (HI.out.below hb1.1) hx
   unfold Sv.v at k1
   simp only at cs ci k1
   obtain ⟨en, q1, q2⟩ := slx_fit k1
   rw [mine_len] at en
   subst en
   have K1 := Lib.hid k1
   obtain ⟨w2, hw2⟩ : ∃ w2, w2 = wr := ⟨_, rfl⟩
   have HQ : Hid (P w2 ∧ w2.cell? ⟨b, o + i, none⟩ = some (.slice sa sn sc) ∧ w2.cell? ⟨b', o' + i, none⟩ = some (.int .i64 x)) := by rw [hw2]; exact ⟨hb.out, cs, ci⟩
   have hbl : b < w2.heap.size := by rw [hw2]; exact hblt
   have hbl' : b' < w2.heap.size := by rw [hw2]; exact hblt'
   have HB2 : Hid (Below W.heap.size W w2) := by rw [hw2]; exact hb1.1
   have hstart : Below w2.heap.size w2 wr := by rw [hw2]; exact bRefl wr
   have hpw : P wr := hb.out
   clear hsi hx k1 hw2 hb hb1 hblt hblt'
   go_wp2
   go_loopw [4] (fun t wr' => ∃ j : Nat, j ≤ sn ∧ t = .int .i64 (j : Int) ∧ Hid (Below w2.heap.size w2 wr' ∧ P wr')) (fun t _ => sn - (intOf t).toNat)
   case atStart => exact ⟨0, by omega, rfl, hstart, hpw⟩
   case round =>
    obtain ⟨j, hj, rfl, hb⟩ := hrel
    clear hstart hpw cs ci c1 c2 c5
    obtain ⟨c1, c2, c5, _⟩ := HC.out _ hb.out.2
    have cs := (hb.out.1.cell (p := ⟨b, o + i, none⟩) hbl).trans HQ.out.2.1
    have ci := (hb.out.1.cell (p := ⟨b', o' + i, none⟩) hbl').trans HQ.out.2.2
    by_cases hjt : j < sn
    ·have hjt' : (j : Int) < (sn : Int) := by omega
     have hj0 : (0 : Int) ≤ (j : Int) := by omega
     have hb1 := hb.out.2
     rw [HPd.out] at hb1
     obtain ⟨b2, o2, rfl, _, hblt2, cj⟩ := SlX.int (K1.out.below hb1.1) (mine_get hjt)
     clear hb1
     have hne : (-1000003 * (x + 1) - (j : Int) != -1000003 * (x + 1) - (j : Int)) = false := by simp
     have q23 : IntKind.i64.wrap (x + 1) = x + 1 := IntWalk.i64_in _ (by omega)
     have q24 : IntKind.i64.wrap (-1000003 * (x + 1)) = -1000003 * (x + 1) := IntWalk.i64_in _ (by omega)
     have q26 : IntKind.i64.wrap (-1000003 * (x + 1) - (j : Int)) = -1000003 * (x + 1) - (j : Int) := IntWalk.i64_in _ (by omega)
     obtain ⟨val, hval⟩ : ∃ v, v = -1000003 * (x + 1) - (j : Int) := ⟨_, rfl⟩
     rw [← hval] at cj
     go_upto_region 8 with (fail)
     refine wp_region_held_drew (S := fun w' => w'.cell? ⟨p, 3, none⟩ = some (.slice (some ⟨b, o, none⟩) kl.length kc) ∧ w'.cell? ⟨p, 4, none⟩ = some (.slice (some ⟨b', o', none⟩) ids.length ic) ∧ w'.cell? ⟨p, 5, none⟩ = some (.bool false) ∧ w'.cell? ⟨b, o + i, none⟩ = some (.slice (some ⟨b2, o2, none⟩) sn sc) ∧ w'.cell? ⟨b', o' + i, none⟩ = some (.int .i64 x) ∧ w'.cell? ⟨b2, o2 + j, none⟩ = some (.int .i64 val) ∧ b2 < w'.heap.size ∧ Hid (Below w2.heap.size w2 w' ∧ P w')) mix ⟨c1, c2, c5, cs, ci, cj, hblt2, by have := hb.out; rw [HPd.out] at this ⊢; exact ⟨⟨this.1.os, this.1.tape, this.1.output, this.1.size, this.1.block⟩, ⟨this.2.1.os, this.2.1.tape, this.2.1.output, this.2.1.size, this.2.1.block⟩, this.2.2⟩⟩ (fun hS => ?_)
     clear c1 c2 c5 cs ci cj hb hblt2
     refine wpAnyH_take (i := 0) (v := .pointer (some ⟨p, 0, none⟩)) rfl (by kernel_rfl) (by kernel_rfl) (by kernel_rfl) (fun _ _ _ h => h) (Or.inl ⟨by rfl, fun w' hw' => by (try go_split_ands); go_simp <;> omega⟩) hS ?_
     simp only [Act.put, List.getElem_toArray, List.getElem_cons_zero, List.setIfInBounds_toArray, List.set_cons_zero, List.set_cons_succ]
     refine wpAnyH_take (i := 1) (v := .pointer (some ⟨p, 0, none⟩)) rfl (by kernel_rfl) (by kernel_rfl) (by kernel_rfl) (fun _ _ _ h => h) (Or.inl ⟨by rfl, fun w' hw' => by (try go_split_ands); go_simp <;> omega⟩) hS ?_
     simp only [Act.put, List.getElem_toArray, List.getElem_cons_zero, List.getElem_cons_succ, List.setIfInBounds_toArray, List.set_cons_zero, List.set_cons_succ]
     refine wpAnyH_take (i := 2) (v := .pointer (some ⟨p, 0, none⟩)) rfl (by kernel_rfl) (by kernel_rfl) (by kernel_rfl) (fun _ _ _ h => h) (Or.inl ⟨by rfl, fun w' hw' => by (try go_split_ands); go_simp <;> omega⟩) hS ?_
     simp only [Act.put, List.getElem_toArray, List.getElem_cons_zero, List.getElem_cons_succ, List.setIfInBounds_toArray, List.set_cons_zero, List.set_cons_succ]
     refine wpAnyH_take (i := 3) (v := .pointer (some ⟨p, 5, none⟩)) rfl (by kernel_rfl) (by kernel_rfl) (by kernel_rfl) (fun _ _ _ h => h) (Or.inl ⟨by rfl, fun w' hw' => by (try go_split_ands); go_simp <;> omega⟩) hS ?_
     simp only [Act.put, List.getElem_toArray, List.getElem_cons_zero, List.getElem_cons_succ, List.setIfInBounds_toArray, List.set_cons_zero, List.set_cons_succ]
     refine wpAnyH_take (i := 4) (v := .bool false) rfl (by kernel_rfl) (by kernel_rfl) (by kernel_rfl) (fun _ _ _ h => h) (Or.inl ⟨by rfl, fun w' hw' => by (try go_split_ands); go_simp <;> omega⟩) hS ?_
     simp only [Act.put, List.getElem_toArray, List.getElem_cons_zero, List.getElem_cons_succ, List.setIfInBounds_toArray, List.set_cons_zero, List.set_cons_succ]
     refine wpAnyH_take (i := 5) (v := .bool false) rfl (by kernel_rfl) (by kernel_rfl) (by kernel_rfl) (fun _ _ _ h => h) (Or.inl ⟨by rfl, fun w' hw' => by (try go_split_ands); go_simp <;> omega⟩) hS ?_
     simp only [Act.put, List.getElem_toArray, List.getElem_cons_zero, List.getElem_cons_succ, List.setIfInBounds_toArray, List.set_cons_zero, List.set_cons_succ]
     refine wpAnyH_take (i := 6) (v := .pointer (some ⟨p, 0, none⟩)) rfl (by kernel_rfl) (by kernel_rfl) (by kernel_rfl) (fun _ _ _ h => h) (Or.inl ⟨by rfl, fun w' hw' => by (try go_split_ands); go_simp <;> omega⟩) hS ?_
     simp only [Act.put, List.getElem_toArray, List.getElem_cons_zero, List.getElem_cons_succ, List.setIfInBounds_toArray, List.set_cons_zero, List.set_cons_succ]
     refine wpAnyH_take (i := 7) (v := .pointer (some ⟨p, 0, none⟩)) rfl (by kernel_rfl) (by kernel_rfl) (by kernel_rfl) (fun _ _ _ h => h) (Or.inl ⟨by rfl, fun w' hw' => by (try go_split_ands); go_simp <;> omega⟩) hS ?_
     simp only [Act.put, List.getElem_toArray, List.getElem_cons_zero, List.getElem_cons_succ, List.setIfInBounds_toArray, List.set_cons_zero, List.set_cons_succ]
     refine wpAnyH_take (i := 8) (v := .pointer (some ⟨p, 3, none⟩)) rfl (by kernel_rfl) (by kernel_rfl) (by kernel_rfl) (fun _ _ _ h => h) (Or.inl ⟨by rfl, fun w' hw' => by (try go_split_ands); go_simp <;> omega⟩) hS ?_
     simp only [Act.put, List.getElem_toArray, List.getElem_cons_zero, List.getElem_cons_succ, List.setIfInBounds_toArray, List.set_cons_zero, List.set_cons_succ]
     refine wpAnyH_take (i := 9) (v := .slice (some ⟨b, o, none⟩) kl.length kc) rfl (by kernel_rfl) (by kernel_rfl) (by kernel_rfl) (fun _ _ _ h => h) (Or.inl ⟨by rfl, fun w' hw' => by (try go_split_ands); go_simp <;> omega⟩) hS ?_
     simp only [Act.put, List.getElem_toArray, List.getElem_cons_zero, List.getElem_cons_succ, List.setIfInBounds_toArray, List.set_cons_zero, List.set_cons_succ]
     refine wpAnyH_take (i := 10) (v := .int .i64 (i : Int)) rfl (by kernel_rfl) (by kernel_rfl) (by kernel_rfl) (fun _ _ _ h => h) (Or.inl ⟨by rfl, fun w' hw' => by (try go_split_ands); go_simp <;> omega⟩) hS ?_
     simp only [Act.put, List.getElem_toArray, List.getElem_cons_zero, List.getElem_cons_succ, List.setIfInBounds_toArray, List.set_cons_zero, List.set_cons_succ]
     refine wpAnyH_take (i := 11) (v := .pointer (some ⟨b, o + i, none⟩)) rfl (by kernel_rfl) (by kernel_rfl) (by kernel_rfl) (fun _ _ _ h => h) (Or.inl ⟨by rfl, fun w' hw' => by (try go_split_ands); go_simp <;> omega⟩) hS ?_
     simp only [Act.put, List.getElem_toArray, List.getElem_cons_zero, List.getElem_cons_succ, List.setIfInBounds_toArray, List.set_cons_zero, List.set_cons_succ]
     refine wpAnyH_take (i := 12) (v := .slice (some ⟨b2, o2, none⟩) sn sc) rfl (by kernel_rfl) (by kernel_rfl) (by kernel_rfl) (fun _ _ _ h => h) (Or.inl ⟨by rfl, fun w' hw' => by (try go_split_ands); go_simp <;> omega⟩) hS ?_
     simp only [Act.put, List.getElem_toArray, List.getElem_cons_zero, List.getElem_cons_succ, List.setIfInBounds_toArray, List.set_cons_zero, List.set_cons_succ]
     refine wpAnyH_take (i := 13) (v := .int .i64 (j : Int)) rfl (by kernel_rfl) (by kernel_rfl) (by kernel_rfl) (fun _ _ _ h => h) (Or.inl ⟨by rfl, fun w' hw' => by (try go_split_ands); go_simp <;> omega⟩) hS ?_
     simp only [Act.put, List.getElem_toArray, List.getElem_cons_zero, List.getElem_cons_succ, List.setIfInBounds_toArray, List.set_cons_zero, List.set_cons_succ]
     refine wpAnyH_take (i := 14) (v := .pointer (some ⟨b2, o2 + j, none⟩)) rfl (by kernel_rfl) (by kernel_rfl) (by kernel_rfl) (fun _ _ _ h => h) (Or.inl ⟨by rfl, fun w' hw' => by (try go_split_ands); go_simp <;> omega⟩) hS ?_
     simp only [Act.put, List.getElem_toArray, List.getElem_cons_zero, List.getElem_cons_succ, List.setIfInBounds_toArray, List.set_cons_zero, List.set_cons_succ]
     refine wpAnyH_take (i := 15) (v := .int .i64 val) rfl (by kernel_rfl) (by kernel_rfl) (by kernel_rfl) (fun _ _ _ h => h) (Or.inl ⟨by rfl, fun w' hw' => by (try go_split_ands); go_simp <;> omega⟩) hS ?_
     simp only [Act.put, List.getElem_toArray, List.getElem_cons_zero, List.getElem_cons_succ, List.setIfInBounds_toArray, List.set_cons_zero, List.set_cons_succ]
     refine wpAnyH_take (i := 16) (v := .pointer (some ⟨p, 0, none⟩)) rfl (by kernel_rfl) (by kernel_rfl) (by kernel_rfl) (fun _ _ _ h => h) (Or.inl ⟨by rfl, fun w' hw' => by (try go_split_ands); go_simp <;> omega⟩) hS ?_
     simp only [Act.put, List.getElem_toArray, List.getElem_cons_zero, List.getElem_cons_succ, List.setIfInBounds_toArray, List.set_cons_zero, List.set_cons_succ]
     refine wpAnyH_take (i := 17) (v := .pointer (some ⟨p, 0, none⟩)) rfl (by kernel_rfl) (by kernel_rfl) (by kernel_rfl) (fun _ _ _ h => h) (Or.inl ⟨by rfl, fun w' hw' => by (try go_split_ands); go_simp <;> omega⟩) hS ?_
     simp only [Act.put, List.getElem_toArray, List.getElem_cons_zero, List.getElem_cons_succ, List.setIfInBounds_toArray, List.set_cons_zero, List.set_cons_succ]
     refine wpAnyH_take (i := 18) (v := .pointer (some ⟨p, 4, none⟩)) rfl (by kernel_rfl) (by kernel_rfl) (by kernel_rfl) (fun _ _ _ h => h) (Or.inl ⟨by rfl, fun w' hw' => by (try go_split_ands); go_simp <;> omega⟩) hS ?_
     simp only [Act.put, List.getElem_toArray, List.getElem_cons_zero, List.getElem_cons_succ, List.setIfInBounds_toArray, List.set_cons_zero, List.set_cons_succ]
     refine wpAnyH_take (i := 19) (v := .slice (some ⟨b', o', none⟩) ids.length ic) rfl (by kernel_rfl) (by kernel_rfl) (by kernel_rfl) (fun _ _ _ h => h) (Or.inl ⟨by rfl, fun w' hw' => by (try go_split_ands); go_simp <;> omega⟩) hS ?_
     simp only [Act.put, List.getElem_toArray, List.getElem_cons_zero, List.getElem_cons_succ, List.setIfInBounds_toArray, List.set_cons_zero, List.set_cons_succ]
     refine wpAnyH_take (i := 20) (v := .int .i64 (i : Int)) rfl (by kernel_rfl) (by kernel_rfl) (by kernel_rfl) (fun _ _ _ h => h) (Or.inl ⟨by rfl, fun w' hw' => by (try go_split_ands); go_simp <;> omega⟩) hS ?_
     simp only [Act.put, List.getElem_toArray, List.getElem_cons_zero, List.getElem_cons_succ, List.setIfInBounds_toArray, List.set_cons_zero, List.set_cons_succ]
     refine wpAnyH_take (i := 21) (v := .pointer (some ⟨b', o' + i, none⟩)) rfl (by kernel_rfl) (by kernel_rfl) (by kernel_rfl) (fun _ _ _ h => h) (Or.inl ⟨by rfl, fun w' hw' => by (try go_split_ands); go_simp <;> omega⟩) hS ?_
     simp only [Act.put, List.getElem_toArray, List.getElem_cons_zero, List.getElem_cons_succ, List.setIfInBounds_toArray, List.set_cons_zero, List.set_cons_succ]
     refine wpAnyH_take (i := 22) (v := .int .i64 x) rfl (by kernel_rfl) (by kernel_rfl) (by kernel_rfl) (fun _ _ _ h => h) (Or.inl ⟨by rfl, fun w' hw' => by (try go_split_ands); go_simp <;> omega⟩) hS ?_
     simp only [Act.put, List.getElem_toArray, List.getElem_cons_zero, List.getElem_cons_succ, List.setIfInBounds_toArray, List.set_cons_zero, List.set_cons_succ]
     refine wpAnyH_take (i := 23) (v := .int .i64 (x + 1)) rfl (by kernel_rfl) (by kernel_rfl) (by kernel_rfl) (fun _ _ _ h => h) (Or.inl ⟨by rfl, fun w' hw' => by (try go_split_ands); go_simp <;> omega⟩) hS ?_
     simp only [Act.put, List.getElem_toArray, List.getElem_cons_zero, List.getElem_cons_succ, List.setIfInBounds_toArray, List.set_cons_zero, List.set_cons_succ]
     refine wpAnyH_take (i := 24) (v := .int .i64 (-1000003 * (x + 1))) rfl (by kernel_rfl) (by kernel_rfl) (by kernel_rfl) (fun _ _ _ h => h) (Or.inl ⟨by rfl, fun w' hw' => by (try go_split_ands); go_simp <;> omega⟩) hS ?_
     simp only [Act.put, List.getElem_toArray, List.getElem_cons_zero, List.getElem_cons_succ, List.setIfInBounds_toArray, List.set_cons_zero, List.set_cons_succ]
     refine wpAnyH_take (i := 25) (v := .int .i64 (j : Int)) rfl (by kernel_rfl) (by kernel_rfl) (by kernel_rfl) (fun _ _ _ h => h) (Or.inl ⟨by rfl, fun w' hw' => by (try go_split_ands); go_simp <;> omega⟩) hS ?_
     simp only [Act.put, List.getElem_toArray, List.getElem_cons_zero, List.getElem_cons_succ, List.setIfInBounds_toArray, List.set_cons_zero, List.set_cons_succ]
     refine wpAnyH_take (i := 26) (v := .int .i64 (-1000003 * (x + 1) - (j : Int))) rfl (by kernel_rfl) (by kernel_rfl) (by kernel_rfl) (fun _ _ _ h => h) (Or.inl ⟨by rfl, fun w' hw' => by (try go_split_ands); go_simp <;> omega⟩) hS ?_
     simp only [Act.put, List.getElem_toArray, List.getElem_cons_zero, List.getElem_cons_succ, List.setIfInBounds_toArray, List.set_cons_zero, List.set_cons_succ]
     rw [← hval]
     refine wpAnyH_take (i := 27) (v := .bool false) rfl (by kernel_rfl) (by kernel_rfl) (by kernel_rfl) (fun _ _ _ h => h) (Or.inl ⟨by rfl, fun w' hw' => by (try go_split_ands); go_simp <;> omega⟩) hS ?_
     simp only [Act.put, List.getElem_toArray, List.getElem_cons_zero, List.getElem_cons_succ, List.setIfInBounds_toArray, List.set_cons_zero, List.set_cons_succ]
     refine wpAnyH_take (i := 28) (v := .bool false) rfl (by kernel_rfl) (by kernel_rfl) (by kernel_rfl) (fun _ _ _ h => h) (Or.inl ⟨by rfl, fun w' hw' => by (try go_split_ands); go_simp <;> omega⟩) hS ?_
     simp only [Act.put, List.getElem_toArray, List.getElem_cons_zero, List.getElem_cons_succ, List.setIfInBounds_toArray, List.set_cons_zero, List.set_cons_succ]
     refine wpAnyH_ready (rs := [29]) (by kernel_rfl) (by simp) ?_
     refine AllReadyH.cons rfl (fun K hK => ?_) AllReadyH.nil
     go_simp
     refine hK.out _ _ hS (fun _ => ?_)
     clear hK K
     refine wpAnyH_ready (rs := [30]) (by kernel_rfl) (by simp) ?_
     refine AllReadyH.cons rfl (fun K hK => ?_) AllReadyH.nil
     go_simp
     refine hK.out _ _ hS (fun _ => ?_)
     clear hK K
     have hF := (HC.out _ hS.2.2.2.2.2.2.2.out.2).2.2.2
     refine wpAnyH_ready (rs := [31]) (by kernel_rfl) (by simp) ?_
     refine AllReadyH.cons rfl (fun K hK => ?_) AllReadyH.nil
     go_simp
     have hS6 := hS.2.2.2.2.2.2.2.out.2
     rw [HPd.out] at hS6
     obtain ⟨s1, s2⟩ := lg_still hS6.2
     have hP9 : P (wr.drew.setCell ⟨p, 5, none⟩ (.bool false)) := by rw [HPd.out]; exact ⟨bThen hS6.1 s1, s2⟩
     refine hK.out _ _ ⟨(HC.out _ hP9).1, (HC.out _ hP9).2.1, (HC.out _ hP9).2.2.1, (s1.cell (World.block_lt_of_cell? _ _ hS.2.2.2.1)).trans hS.2.2.2.1, (s1.cell (World.block_lt_of_cell? _ _ hS.2.2.2.2.1)).trans hS.2.2.2.2.1, (s1.cell (World.block_lt_of_cell? _ _ hS.2.2.2.2.2.1)).trans hS.2.2.2.2.2.1, Nat.lt_of_lt_of_le hS.2.2.2.2.2.2.1 s1.size, bThen hS.2.2.2.2.2.2.2.out.1 s1, hP9⟩ (fun hS => ?_)
     clear hK K s1 s2 hS6 hP9
     refine wpAnyH_done (by kernel_rfl) ?_ _
     have hb3 := hS.2.2.2.2.2.2.2
     clear hS
     go_wp2
     go_roundw
     all_goals first
      | exact ⟨j + 1, by omega, by go_num, hb3.out⟩
      | ((repeat apply Exists.intro); exact ⟨⟨j + 1, by omega, by go_num, hb3.out⟩, rfl⟩)
      | (simp [intOf] <;> omega)
    ·obtain rfl : j = sn := by omega
     clear hjt
     go_wp2
     go_roundw
     all_goals first
      | exact ⟨i + 1, by omega, by go_num, hb.out.2⟩
      | ((repeat apply Exists.intro); exact ⟨⟨i + 1, by omega, by go_num, hb.out.2⟩, rfl⟩)
      | (simp [intOf] <;> omega)
  ·obtain rfl : i = kl.length := by omega
   clear hit
   go_wp2
   go_ret
   have hb1 := hb.out
   rw [HPd.out] at hb1
   exact ⟨rfl, hb1.1⟩
end Go.Proofs.Ytndnfjcfpcfakaa
namespace Go.Wr
open Go Go.RowKit
section
variable {P : Program} (w : World)
theorem run_append_keep (t ty : TypeId) (base : Nat) (e : TypeId) (i : TypeInfo) (z : Value) (size bytes : Nat) (ht : P.underlying t = some (.slice e)) (hi : P.info? e = some i) (hz : i.zero = some z)
  (hsize : i.size = size) (hby : i.bytes = bytes) (hzs : z.cells.size = size) (hsz : 0 < size)
  (v : Value) (n : Nat) (xs : List Value) (hown : w.ownsRow base e size v n xs)
  (ad : Addr) (m c : Nat) (news : List Value) (hl : news.length = m * size) (hnews : ∀ j u, news[j]? = some u → w.cell? (ad.add j) = some u) (h1 : ∀ u ∈ news, u.oneCell' = true)
  (hm : 0 < m) (h63 : n + m ≤ maxLen) (hbytes : (n + m) * bytes ≤ 140737488355328) (hbase : base ≤ w.heap.size) :
  ∃ g cap w', (Builtin.append_ #[t, t] ty #[v, .slice (some ad) m c]).run P w = .ok (.slice (some ⟨g, 0, none⟩) (n + m) cap) w' ∧
   w'.ownsRow base e size (.slice (some ⟨g, 0, none⟩) (n + m) cap) (n + m) (xs ++ news) ∧ w.grownBy w' v.ownBlock ∧ (v.ownBlock = some g ∨ g = w.heap.size) ∧
   (∀ q, v.ownBlock = some q → ∀ j u, xs[j]? = some u → w'.cell? ⟨q, j, none⟩ = some u) := by
 obtain ⟨g, cap, w', hr, h2, h3, h4, h5⟩ := run_append_lies (P := P) w t ty base e i z size bytes ht hi hz hsize hby hzs hsz v n xs hown ad m c news hl hnews h1 hm h63 hbytes hbase w.heap.size rfl
 refine ⟨g, cap, w', hr, h2, h3, h4, fun q hq j u hu => ?_⟩
 have lit : ∀ b k : Nat, (⟨b, 0, none⟩ : Addr).add k = ⟨b, k, none⟩ := fun b k => by unfold Addr.add; split <;> simp_all
 have hold := hown.cells hq
 by_cases hgq : g = q
 ·subst hgq
  have := h2.cells (g := g) rfl j u (by rw [List.getElem?_append_left (List.getElem?_eq_some_iff.1 hu).1]; exact hu)
  rw [lit] at this
  exact this
 ·have hc := hold j u hu
  rw [lit] at hc
  rw [← hc]
  refine World.cell?_of_block ?_
  have hown' := hown
  rcases hown'.2 with ⟨rfl, _⟩ | ⟨g', cap', cur, rfl, hb, hg, hnc, hcm, hcs, htake⟩
  ·cases hq
  ·injection hq with hq
   simp only at hq
   subst hq
   subst hsize
   subst hby
   by_cases hroom : n + m ≤ cap'
   ·have hfit : n * i.size + news.length ≤ cur.size := by rw [hl, hcs, ← Nat.add_mul]; exact Nat.mul_le_mul_right _ hroom
    have hr2 := run_append_room (P := P) w t ty e i ht hi g' n cap' cur hg ad m c news hl hnews h1 hroom hfit
    rw [hr] at hr2
    injection hr2 with e1 _
    injection e1 with e1
    injection e1 with e1
    injection e1 with e1
    exact absurd e1 hgq
   ·have hr2 := run_append_grow (P := P) w t ty e i z ht hi hz ⟨g', 0, none⟩ n cap' xs hown.1 (hown.cells (g := g') rfl) ad m c news hl hnews (by omega) (by simp only [maxLen] at h63; omega) (growslice_fits (by omega) hbytes)
    rw [hr] at hr2
    injection hr2 with _ e2
    subst e2
    exact heap_alloc_old w.drew _ (Array.getElem?_eq_some_iff.1 hg).1
theorem wpList_append_keep {ops : Array Oper} {rest : List Oper} {o : Oper} {a : Act} {Q : Exit → Act → World → Prop} (hgd : o.guard = none) (s x : Operand) (t : TypeId)
  (ho : o.op = .call { callee := .builtin .append, args := #[s, x], argTypes := #[t, t] })
  (base : Nat) (e : TypeId) (i : TypeInfo) (z : Value) (size bytes : Nat) (ht : P.underlying t = some (.slice e)) (hi : P.info? e = some i) (hz : i.zero = some z)
  (hsize : i.size = size) (hby : i.bytes = bytes) (hzs : z.cells.size = size) (hsz : 0 < size)
  (v : Value) (n : Nat) (xs : List Value) (hs : a.eval s = v) (hown : w.ownsRow base e size v n xs)
  (ad : Addr) (m c : Nat) (news : List Value) (hx : a.eval x = .slice (some ad) m c) (hl : news.length = m * size) (hnews : ∀ j u, news[j]? = some u → w.cell? (ad.add j) = some u) (h1 : ∀ u ∈ news, u.oneCell' = true)
  (hm : 0 < m) (h63 : n + m ≤ maxLen) (hbytes : (n + m) * bytes ≤ 140737488355328) (hbase : base ≤ w.heap.size)
  (h : ∀ g cap w', w'.ownsRow base e size (.slice (some ⟨g, 0, none⟩) (n + m) cap) (n + m) (xs ++ news) → w.grownBy w' v.ownBlock → (v.ownBlock = some g ∨ g = w.heap.size) → (∀ q, v.ownBlock = some q → ∀ j u, xs[j]? = some u → w'.cell? ⟨q, j, none⟩ = some u) → wpList P ops Q rest (a.put o.dst (.slice (some ⟨g, 0, none⟩) (n + m) cap)) w') : wpList P ops Q (o :: rest) a w := by
 refine wpList_plain hgd fun K hK => ?_
 obtain ⟨g, cap, w', hr, h2, h3, h4, h5⟩ := run_append_keep (P := P) w t o.type base e i z size bytes ht hi hz hsize hby hzs hsz v n xs hown ad m c news hl hnews h1 hm h63 hbytes hbase
 unfold Oper.wp execOp
 simp only [ho, resolve, invoke, builtin, Sem.run_bind, Sem.run_pure, Result.andThen_ok, List.map_toArray, List.map_cons, List.map_nil, hs, hx, hr]
 exact hK _ _ (h g cap w' h2 h3 h4 h5)
end
section
variable {P : Program} {α : Type} {R : RT P α}
theorem wpl_pushO (R : RT P α) {ops : Array Oper} {rest : List Oper} {op : Oper} {a : Act} {w : World} {Q : Exit → Act → World → Prop} (hgd : op.guard = none) (s x : Operand)
  (ho : op.op = .call { callee := .builtin .append, args := #[s, x], argTypes := #[R.S, R.S] })
  (B : Nat) (v : Value) (l : List α) (hs : a.eval s = v) (hown : OwR R B w v l)
  (b o n c : Nat) (m : List α) (hx : a.eval x = .slice (some ⟨b, o, none⟩) n c) (hn : n = m.length) (hm : 0 < m.length) (hnews : w.rangeAt b o (R.cs m))
  (hl : l.length + m.length ≤ maxLen) (hby : (l.length + m.length) * R.bs ≤ 140737488355328) (hB : B ≤ w.heap.size)
  (h : ∀ g c' w', OwR R B w' (.slice (some ⟨g, 0, none⟩) (l.length + m.length) c') (l ++ m) → w.grownBy w' v.ownBlock → (v.ownBlock = some g ∨ g = w.heap.size) → (∀ q, v.ownBlock = some q → ∀ j u, (R.cs l)[j]? = some u → w'.cell? ⟨q, j, none⟩ = some u) → wpList P ops Q rest (a.put op.dst (.slice (some ⟨g, 0, none⟩) (l.length + m.length) c')) w') : wpList P ops Q (op :: rest) a w := by
 obtain ⟨i, hi, hz0, hz1, hz2⟩ := info_parts R.info
 subst hn
 refine wpList_append_keep w hgd s x _ ho B R.T i _ R.n R.bs R.und hi hz0 hz1 hz2 R.zs R.npos v l.length (R.cs l) hs hown ⟨b, o, none⟩ m.length c (R.cs m) hx (R.cs_len m) (fun j u hj => by rw [Addr.add_lit]; exact hnews j u hj) (R.cs_ones m) hm hl hby hB ?_
 intro g cap w' h1 h2 h3 h4
 refine h g cap w' ?_ h2 h3 h4
 unfold OwR
 rw [R.cs_app, List.length_append]
 exact h1
theorem SlX.keepB {p : Nat} {w w' : World} {v : Value} {l : List α} (h : SlX R p w v l) (hs : w.heap.size ≤ w'.heap.size) (hb : ∀ g, g < w.heap.size → v.ownBlock = some g → w'.heap[g]? = w.heap[g]?) : SlX R p w' v l := by
 obtain ⟨a0, cap, rfl, h1, h2, hc⟩ := h
 refine ⟨a0, cap, rfl, h1, h2, fun k x hk => ?_⟩
 obtain ⟨b, o, rfl, e2, e3⟩ := hc k x hk
 exact ⟨b, o, rfl, e2, Nat.lt_of_lt_of_le e3.1 hs, fun j u hj => (World.cell?_of_block (hb b e3.1 rfl)).trans (e3.2 j u hj)⟩
end
end Go.Wr
namespace Go.Proofs.Ytndnfjcfpcfakaa
open Go Go.RowKit Go.Wr Go.Fl
structure Stp (r : Nat → Prop) (col col' : Nat → Nat) (w w' : World) : Prop where
 os : w'.os = w.os
 tape : w'.tape = w.tape
 output : w'.output = w.output
 size : w.heap.size ≤ w'.heap.size
 block : ∀ b, b < w.heap.size → ¬ r (col b) → w'.heap[b]? = w.heap[b]?
 col : ∀ b, b < w.heap.size → col' b = col b
section
variable {r : Nat → Prop} {col col' : Nat → Nat} {w w' : World}
theorem Stp.of_below (h : Below w.heap.size w w') : Stp r col col w w' := ⟨h.os, h.tape, h.output, h.size, fun b hb _ => h.block b hb, fun _ _ => rfl⟩
theorem Stp.refl (r : Nat → Prop) (col : Nat → Nat) (w : World) : Stp r col col w w := Stp.of_below (bRefl w)
theorem Stp.trans {col2 : Nat → Nat} {w2 : World} (h : Stp r col col' w w') (k : Stp r col' col2 w' w2) : Stp r col col2 w w2 :=
 ⟨k.os.trans h.os, k.tape.trans h.tape, k.output.trans h.output, Nat.le_trans h.size k.size,
  fun b hb hr => (k.block b (Nat.lt_of_lt_of_le hb h.size) (by rw [h.col b hb]; exact hr)).trans (h.block b hb hr),
  fun b hb => (k.col b (Nat.lt_of_lt_of_le hb h.size)).trans (h.col b hb)⟩
theorem Stp.mono {r' : Nat → Prop} (h : Stp r col col' w w') (hr : ∀ c, r c → r' c) : Stp r' col col' w w' := ⟨h.os, h.tape, h.output, h.size, fun b hb hn => h.block b hb (fun k => hn (hr _ k)), h.col⟩
theorem Stp.own {α : Type} {R : RT Try.prog α} {B : Nat} {v : Value} {l : List α} (h : Stp r col col' w w') (ho : OwR R B w v l) (hc : ∀ g, v.ownBlock = some g → ¬ r (col g)) : OwR R B w' v l :=
 ho.keep fun g hg => h.block g (ho.lt hg) (hc g hg)
theorem Stp.sl {α : Type} {R : RT Try.prog α} {p : Nat} {v : Value} {l : List α} (h : Stp r col col' w w') (ho : SlX R p w v l) (hc : ∀ g, v.ownBlock = some g → ¬ r (col g)) : SlX R p w' v l :=
 ho.keepB h.size fun g hlt hg => h.block g hlt (hc g hg)
theorem Stp.set {c : Nat} (hr : r c) {b i : Nat} {v : Value} (hb : col b = c) : Stp r col col w (w.setCell ⟨b, i, none⟩ v) := by
 have h := (Below.refl 0 w).setCell (p := ⟨b, i, none⟩) (Nat.zero_le _) v
 exact ⟨h.os, h.tape, h.output, h.size, fun k _ hn => Below.heap_setCell w ⟨b, i, none⟩ v k (fun e => hn (by have e' : k = b := e; rw [e', hb]; exact hr)), fun _ _ => rfl⟩
theorem Stp.grow {α : Type} {R : RT Try.prog α} {c : Nat} (hr : r c) {v : Value} {l : List α} {o : Obj} (_ho : OwR R 0 w v l) (hc : ∀ g, v.ownBlock = some g → col g = c) (hg : (w.alloc o).grownBy w' v.ownBlock) {g : Nat} (hl : v.ownBlock = some g ∨ g = (w.alloc o).heap.size) :
  Stp r col (fun b => if b = g then c else col b) w w' := by
 have hz : (w.alloc o).heap.size = w.heap.size + 1 := by simp
 refine ⟨hg.os, hg.tape, hg.output, Nat.le_trans (by rw [hz]; omega) hg.size, fun b hb hn => ?_, fun b hb => ?_⟩
 ·rw [hg.block b (by rw [hz]; omega) (fun e => hn (by rw [hc b e.symm]; exact hr))]
  exact Below.heap_alloc w o b hb
 ·by_cases e : b = g
  ·subst e
   rcases hl with hl | hl
   ·rw [if_pos rfl, hc b hl]
   ·omega
  ·rw [if_neg e]
end
structure Lg (col : Nat → Nat) (p i : Nat) (tot : Int) (fv wv kv sv : Sv) (fr wl kl : List Sv) (ids : List Int) (w : World) : Prop where
 pb : Blk w p 56 (lgC tot fv.v wv.v kv.v sv.v)
 pc : col p = 1
 fo : OwR tII 0 w fv.v fr
 fc : ∀ g, fv.v.ownBlock = some g → col g = 2
 wo : OwR tII 0 w wv.v wl
 wc : ∀ g, wv.v.ownBlock = some g → col g = 3
 ko : OwR tII 0 w kv.v kl
 kc : ∀ g, kv.v.ownBlock = some g → col g = 4
 so : OwR tI 0 w sv.v ids
 sc : ∀ g, sv.v.ownBlock = some g → col g = 5
 kr : ∀ (k : Nat) (s : Sv) (x : Int), kl[k]? = some s → ids[k]? = some x → 0 ≤ x ∧ x ≤ 1099511627 ∧ ∃ n, n ≤ 1099511627776 ∧ SlX tI p w s.v (mine x n) ∧ ∀ g, s.v.ownBlock = some g → g < w.heap.size ∧ 6 ≤ col g ∧ col g < 7 + i
section
variable {col col' : Nat → Nat} {p i : Nat} {tot : Int} {fv wv kv sv : Sv} {fr wl kl : List Sv} {ids : List Int} {w w' : World}
theorem Lg.step {r : Nat → Prop} (h : Lg col p i tot fv wv kv sv fr wl kl ids w) (st : Stp r col col' w w') (hr : ∀ c, r c → 7 + i ≤ c) : Lg col' p i tot fv wv kv sv fr wl kl ids w' := by
 have no : ∀ {c : Nat}, c < 7 → ¬ r c := fun hc k => by have := hr _ k; omega
 refine ⟨h.pb.of_block (st.block p h.pb.lt (by rw [h.pc]; exact no (by omega))), (st.col p h.pb.lt).trans h.pc,
  st.own h.fo fun g hg => by rw [h.fc g hg]; exact no (by omega), fun g hg => (st.col g (h.fo.lt hg)).trans (h.fc g hg),
  st.own h.wo fun g hg => by rw [h.wc g hg]; exact no (by omega), fun g hg => (st.col g (h.wo.lt hg)).trans (h.wc g hg),
  st.own h.ko fun g hg => by rw [h.kc g hg]; exact no (by omega), fun g hg => (st.col g (h.ko.lt hg)).trans (h.kc g hg),
  st.own h.so fun g hg => by rw [h.sc g hg]; exact no (by omega), fun g hg => (st.col g (h.so.lt hg)).trans (h.sc g hg), fun k s x hk hx => ?_⟩
 obtain ⟨a1, a2, n, a3, a4, a5⟩ := h.kr k s x hk hx
 exact ⟨a1, a2, n, a3, st.sl a4 fun g hg k => by have := hr _ k; have := (a5 g hg).2.2; omega, fun g hg => ⟨Nat.lt_of_lt_of_le (a5 g hg).1 st.size, by rw [st.col g (a5 g hg).1]; exact (a5 g hg).2⟩⟩
theorem Lg.pushK (h : Lg col p i tot fv wv kv sv fr wl kl ids w) {o : Obj} {g n c : Nat} {s : Sv} (ho : OwR tII 0 w' (.slice (some ⟨g, 0, none⟩) n c) (kl ++ [s])) (hg : (w.alloc o).grownBy w' kv.v.ownBlock) (hl : kv.v.ownBlock = some g ∨ g = (w.alloc o).heap.size) (hlen : ids.length = kl.length) :
  ∃ col', Stp (fun c => c = 1 ∨ c = 4) col col' w (w'.setCell ⟨p, 3, none⟩ (.slice (some ⟨g, 0, none⟩) n c)) ∧ Lg col' p i tot fv wv ⟨some ⟨g, 0, none⟩, n, c⟩ sv fr wl (kl ++ [s]) ids (w'.setCell ⟨p, 3, none⟩ (.slice (some ⟨g, 0, none⟩) n c)) := by
 obtain ⟨V, hV⟩ : ∃ V, V = Value.slice (some ⟨g, 0, none⟩) n c := ⟨_, rfl⟩
 have s1 : Stp (fun c => c = 1 ∨ c = 4) col (fun b => if b = g then 4 else col b) w w' := Stp.grow (Or.inr rfl) h.ko h.kc hg hl
 have hplt := h.pb.lt
 have hpg : p ≠ g := by
  rcases hl with hl | hl
  ·intro e; have := h.kc g hl; rw [← e, h.pc] at this; omega
  ·simp at hl; omega
 have hp' : Blk w' p 56 (lgC tot fv.v wv.v kv.v sv.v) := h.pb.of_block (by
  rw [hg.block p (by simp; omega) (fun e => by have := h.kc p e.symm; rw [h.pc] at this; omega)]
  exact Below.heap_alloc w o p hplt)
 have s2 : Stp (fun c => c = 1 ∨ c = 4) (fun b => if b = g then 4 else col b) (fun b => if b = g then 4 else col b) w' (w'.setCell ⟨p, 3, none⟩ V) := Stp.set (c := 1) (Or.inl rfl) (by simp [hpg, h.pc])
 have st := s1.trans s2
 have pk : Blk (w'.setCell ⟨p, 3, none⟩ V) p 56 (lgC tot fv.v wv.v V sv.v) := (hp'.set 3 V).eq rfl
 rw [← hV] at ho ⊢
 refine ⟨_, st, pk.eq (by rw [hV]; rfl), (st.col p hplt).trans h.pc,
  st.own h.fo fun g hg => by rw [h.fc g hg]; omega, fun g hg => (st.col g (h.fo.lt hg)).trans (h.fc g hg),
  st.own h.wo fun g hg => by rw [h.wc g hg]; omega, fun g hg => (st.col g (h.wo.lt hg)).trans (h.wc g hg),
  ?_, fun q hq => ?_,
  st.own h.so fun g hg => by rw [h.sc g hg]; omega, fun g hg => (st.col g (h.so.lt hg)).trans (h.sc g hg), fun k s x hk hx => ?_⟩
 ·show OwR tII 0 _ (.slice (some ⟨g, 0, none⟩) n c) _
  rw [← hV]
  exact ho.set_other (fun e => hpg (by rw [hV] at e; injection e with e; exact e.symm))
 ·injection hq with hq
  simp only at hq
  subst hq
  simp
 ·have hk2 : kl[k]? = some s := by
   rw [List.getElem?_append_left (by have := (List.getElem?_eq_some_iff.1 hx).1; omega)] at hk
   exact hk
  obtain ⟨a1, a2, n, a3, a4, a5⟩ := h.kr k s x hk2 hx
  exact ⟨a1, a2, n, a3, st.sl a4 fun g hg k => by have := (a5 g hg).2.1; omega, fun g hg => ⟨Nat.lt_of_lt_of_le (a5 g hg).1 st.size, by rw [st.col g (a5 g hg).1]; exact (a5 g hg).2⟩⟩
theorem Lg.pushS (h : Lg col p i tot fv wv kv sv fr wl kl ids w) {o : Obj} {g n c : Nat} {x : Int} {s : Sv} {m i' : Nat} (ho : OwR tI 0 w' (.slice (some ⟨g, 0, none⟩) n c) (ids ++ [x])) (hg : (w.alloc o).grownBy w' sv.v.ownBlock) (hl : sv.v.ownBlock = some g ∨ g = (w.alloc o).heap.size) (hlen : kl.length = ids.length + 1)
  (hs : kl[ids.length]? = some s) (x0 : 0 ≤ x) (x1 : x ≤ 1099511627) (hm : m ≤ 1099511627776) (hsl : SlX tI p w s.v (mine x m)) (hi : i ≤ i') (hsc : ∀ g, s.v.ownBlock = some g → g < w.heap.size ∧ 6 ≤ col g ∧ col g < 7 + i') :
  ∃ col', Stp (fun c => c = 1 ∨ c = 5) col col' w (w'.setCell ⟨p, 4, none⟩ (.slice (some ⟨g, 0, none⟩) n c)) ∧ Lg col' p i' tot fv wv kv ⟨some ⟨g, 0, none⟩, n, c⟩ fr wl kl (ids ++ [x]) (w'.setCell ⟨p, 4, none⟩ (.slice (some ⟨g, 0, none⟩) n c)) := by
 obtain ⟨V, hV⟩ : ∃ V, V = Value.slice (some ⟨g, 0, none⟩) n c := ⟨_, rfl⟩
 have s1 : Stp (fun c => c = 1 ∨ c = 5) col (fun b => if b = g then 5 else col b) w w' := Stp.grow (Or.inr rfl) h.so h.sc hg hl
 have hplt := h.pb.lt
 have hpg : p ≠ g := by
  rcases hl with hl | hl
  ·intro e; have := h.sc g hl; rw [← e, h.pc] at this; omega
  ·simp at hl; omega
 have hp' : Blk w' p 56 (lgC tot fv.v wv.v kv.v sv.v) := h.pb.of_block (by
  rw [hg.block p (by simp; omega) (fun e => by have := h.sc p e.symm; rw [h.pc] at this; omega)]
  exact Below.heap_alloc w o p hplt)
 have s2 : Stp (fun c => c = 1 ∨ c = 5) (fun b => if b = g then 5 else col b) (fun b => if b = g then 5 else col b) w' (w'.setCell ⟨p, 4, none⟩ V) := Stp.set (c := 1) (Or.inl rfl) (by simp [hpg, h.pc])
 have st := s1.trans s2
 have pk : Blk (w'.setCell ⟨p, 4, none⟩ V) p 56 (lgC tot fv.v wv.v kv.v V) := (hp'.set 4 V).eq rfl
 rw [← hV] at ho ⊢
 refine ⟨_, st, pk.eq (by rw [hV]; rfl), (st.col p hplt).trans h.pc,
  st.own h.fo fun g hg => by rw [h.fc g hg]; omega, fun g hg => (st.col g (h.fo.lt hg)).trans (h.fc g hg),
  st.own h.wo fun g hg => by rw [h.wc g hg]; omega, fun g hg => (st.col g (h.wo.lt hg)).trans (h.wc g hg),
  st.own h.ko fun g hg => by rw [h.kc g hg]; omega, fun g hg => (st.col g (h.ko.lt hg)).trans (h.kc g hg),
  ?_, fun q hq => ?_, fun k s' x' hk hx => ?_⟩
 ·show OwR tI 0 _ (.slice (some ⟨g, 0, none⟩) n c) _
  rw [← hV]
  exact ho.set_other (fun e => hpg (by rw [hV] at e; injection e with e; exact e.symm))
 ·injection hq with hq
  simp only at hq
  subst hq
  simp
 ·have hkl := (List.getElem?_eq_some_iff.1 hk).1
  by_cases e : k = ids.length
  ·subst e
   rw [hs] at hk
   injection hk with hk
   subst hk
   rw [List.getElem?_append_right (Nat.le_refl _), Nat.sub_self] at hx
   injection hx with hx
   subst hx
   exact ⟨x0, x1, m, hm, st.sl hsl fun g hg k => by have := (hsc g hg).2.1; omega, fun g hg => ⟨Nat.lt_of_lt_of_le (hsc g hg).1 st.size, by rw [st.col g (hsc g hg).1]; exact (hsc g hg).2⟩⟩
  ·rw [List.getElem?_append_left (by omega)] at hx
   obtain ⟨a1, a2, n, a3, a4, a5⟩ := h.kr k s' x' hk hx
   exact ⟨a1, a2, n, a3, st.sl a4 fun g hg k => by have := (a5 g hg).2.1; omega, fun g hg => ⟨Nat.lt_of_lt_of_le (a5 g hg).1 st.size, by rw [st.col g (a5 g hg).1]; exact ⟨(a5 g hg).2.1, by have := (a5 g hg).2.2; omega⟩⟩⟩
end
end Go.Proofs.Ytndnfjcfpcfakaa
namespace Go.Proofs.Ytndnfjcfpcfakaa
open Go Go.RowKit Go.Wr Go.Fl
set_option maxHeartbeats 4000000
set_option maxRecDepth 100000
structure PA (W : World) (col : Nat → Nat) (p : Nat) (tot : Int) (fv wv kv sv : Sv) (fr wl kl : List Sv) (ids : List Int) (i j : Nat) (cont : Nat → List Int) (w : World) : Prop where
 lg : Lg col p 0 tot fv wv kv sv fr wl kl ids w
 st : Stp (fun c => 7 ≤ c) col col W w
 rows : ∀ (k : Nat) (s : Sv), fr[k]? = some s → OwR tI 0 w s.v (cont k) ∧ s.n ≤ 1073741824 ∧ ∀ g, s.v.ownBlock = some g → col g = 7 + k
 done : ∀ (k : Nat) (s : Sv), k < i → fr[k]? = some s → cont k = mine ((kl.length : Int) + (k : Int)) s.n
 part : ∀ j' : Nat, j' < j → (cont i)[j']? = some (-1000003 * ((kl.length : Int) + (i : Int) + 1) - (j' : Int))
theorem own_n {α : Type} {R : RT Try.prog α} {B : Nat} {w : World} {s : Sv} {l : List α} (h : OwR R B w s.v l) : s.n = l.length := by
 rcases h.form with ⟨e, rfl⟩ | ⟨g, cap, e, _, _, _⟩
 ·injection e
 ·injection e
section
variable {W : World} {col : Nat → Nat} {p : Nat} {tot : Int} {fv wv kv sv : Sv} {fr wl kl : List Sv} {ids : List Int} {i j : Nat} {cont : Nat → List Int} {w : World}
theorem PA.put (h : PA W col p tot fv wv kv sv fr wl kl ids i j cont w) {q n c : Nat} (hs : fr[i]? = some ⟨some ⟨q, 0, none⟩, n, c⟩) (hj : j < n) :
  PA W col p tot fv wv kv sv fr wl kl ids i (j + 1) (setF cont i ((cont i).set j (-1000003 * ((kl.length : Int) + (i : Int) + 1) - (j : Int)))) (w.setCell ⟨q, j, none⟩ (.int .i64 (-1000003 * ((kl.length : Int) + (i : Int) + 1) - (j : Int)))) := by
 obtain ⟨ho, hn, hc⟩ := h.rows i _ hs
 have hcq := hc q rfl
 have s1 : Stp (fun c => 7 ≤ c) col col w (w.setCell ⟨q, j, none⟩ (.int .i64 (-1000003 * ((kl.length : Int) + (i : Int) + 1) - (j : Int)))) := Stp.set (c := 7 + i) (by omega) hcq
 have hlen := own_n ho
 simp only at hlen
 obtain ⟨x, hx⟩ : ∃ x, (cont i)[j]? = some x := ⟨_, List.getElem?_eq_getElem (by omega)⟩
 refine ⟨h.lg.step s1 (fun c hc => hc), h.st.trans s1, fun k s hk => ?_, fun k s hk hf => ?_, fun j' hj' => ?_⟩
 ·by_cases e : k = i
  ·subst e
   rw [hs] at hk
   injection hk with hk
   subst hk
   rw [setF_self]
   refine ⟨?_, hn, hc⟩
   have := ho.set (k := j) (j := 0) (x := x) (y := -1000003 * ((kl.length : Int) + (k : Int) + 1) - (j : Int)) (v := .int .i64 (-1000003 * ((kl.length : Int) + (k : Int) + 1) - (j : Int))) hx (by decide) rfl
   have e : j * tI.n + 0 = j := by show j * 1 + 0 = j; omega
   rw [e] at this
   exact this
  ·rw [setF_ne e]
   obtain ⟨a1, a2, a3⟩ := h.rows k s hk
   exact ⟨a1.set_other fun e' => by have := a3 q e'; omega, a2, a3⟩
 ·rw [setF_ne (by omega)]
  exact h.done k s hk hf
 ·rw [setF_self, List.getElem?_set]
  by_cases e : j = j'
  ·subst e
   rw [if_pos rfl, if_pos (by omega)]
  ·rw [if_neg e]
   exact h.part j' (by omega)
theorem PA.next (h : PA W col p tot fv wv kv sv fr wl kl ids i j cont w) {s : Sv} (hs : fr[i]? = some s) (hj : j = s.n) : PA W col p tot fv wv kv sv fr wl kl ids (i + 1) 0 cont w := by
 refine ⟨h.lg, h.st, h.rows, fun k t hk hf => ?_, fun j' hj' => by omega⟩
 by_cases e : k = i
 ·subst e
  rw [hs] at hf
  injection hf with hf
  subst hf
  have hl := own_n (h.rows k _ hs).1
  refine List.ext_getElem? fun m => ?_
  by_cases hm : m < s.n
  ·rw [h.part m (by omega), mine_get hm]
  ·rw [List.getElem?_eq_none (by omega), List.getElem?_eq_none (by rw [mine_len]; omega)]
 ·exact h.done k t (by omega) hf
end
structure PB (W : World) (col0 : Nat → Nat) (p : Nat) (tot : Int) (fv wv : Sv) (fr wl : List Sv) (first i o : Nat) (col : Nat → Nat) (kv sv : Sv) (kl : List Sv) (ids : List Int) (w : World) : Prop where
 lg : Lg col p i tot fv wv kv sv fr wl kl ids w
 st : Stp (fun c => c ≠ 0) col0 col W w
 rows : ∀ (k : Nat) (s : Sv), fr[k]? = some s → SlX tI p w s.v (mine ((first : Int) + (k : Int)) s.n) ∧ s.n ≤ 1073741824 ∧ (∀ g, s.v.ownBlock = some g → g < w.heap.size ∧ col g = 7 + k) ∧ (∀ b q, s.a = some ⟨b, q, none⟩ → q = 0) ∧ (o ≤ k → OwR tI 0 w s.v (mine ((first : Int) + (k : Int)) s.n))
section
variable {W : World} {col0 col : Nat → Nat} {p : Nat} {tot : Int} {fv wv kv sv : Sv} {fr wl kl : List Sv} {ids : List Int} {first i o : Nat} {w w' : World}
theorem PB.le (h : PB W col0 p tot fv wv fr wl first i o col kv sv kl ids w) {o' : Nat} (ho : o ≤ o') : PB W col0 p tot fv wv fr wl first i o' col kv sv kl ids w :=
 ⟨h.lg, h.st, fun k s hk => by obtain ⟨a1, a2, a3, a4, a5⟩ := h.rows k s hk; exact ⟨a1, a2, a3, a4, fun hk => a5 (by omega)⟩⟩
theorem PB.other {r : Nat → Prop} {col' : Nat → Nat} {kv' sv' : Sv} {kl' : List Sv} {ids' : List Int} {i' : Nat} (h : PB W col0 p tot fv wv fr wl first i o col kv sv kl ids w) (st : Stp r col col' w w') (hr : ∀ c, r c → c ≠ 0 ∧ c < 7) (lg : Lg col' p i' tot fv wv kv' sv' fr wl kl' ids' w') :
  PB W col0 p tot fv wv fr wl first i' o col' kv' sv' kl' ids' w' :=
 ⟨lg, h.st.trans (st.mono fun c hc => (hr c hc).1), fun k s hk => by
  obtain ⟨a1, a2, a3, a4, a5⟩ := h.rows k s hk
  have no : ∀ g, s.v.ownBlock = some g → ¬ r (col g) := fun g hg k => by have := hr _ k; have := (a3 g hg).2; omega
  exact ⟨st.sl a1 no, a2, fun g hg => ⟨Nat.lt_of_lt_of_le (a3 g hg).1 st.size, (st.col g (a3 g hg).1).trans (a3 g hg).2⟩, a4, fun hk => st.own (a5 hk) no⟩⟩
theorem mine_snoc (x : Int) (n : Nat) : mine x n ++ [-1000003 * (x + 1) - (n : Int)] = mine x (n + 1) := by
 unfold mine
 rw [List.range_succ, List.map_append]
 rfl
theorem csI_get {l : List Int} {k : Nat} {x : Int} (h : l[k]? = some x) : (tI.cs l)[k]? = some (.int .i64 x) := by
 have e := tI.cs_get l k 0 x h (by decide)
 have e2 : k * tI.n + 0 = k := by show k * 1 + 0 = k; omega
 rw [e2] at e
 exact e
theorem PB.grow (h : PB W col0 p tot fv wv fr wl first i (i + 1) col kv sv kl ids w) {s G : Sv} {j : Nat} (hs : fr[i]? = some s) (ho : OwR tI 0 w G.v (mine ((first : Int) + (i : Int)) (s.n + j))) (hc : ∀ g, G.v.ownBlock = some g → col g = 7 + i)
  {ob : Obj} {g n c : Nat} {y : Int} (hown : OwR tI 0 w' (.slice (some ⟨g, 0, none⟩) n c) (mine ((first : Int) + (i : Int)) (s.n + j) ++ [y])) (hg : (w.alloc ob).grownBy w' G.v.ownBlock) (hl : G.v.ownBlock = some g ∨ g = (w.alloc ob).heap.size)
  (hk : ∀ q, G.v.ownBlock = some q → ∀ (k : Nat) (u : Value), (tI.cs (mine ((first : Int) + (i : Int)) (s.n + j)))[k]? = some u → w'.cell? ⟨q, k, none⟩ = some u) (hy : y = -1000003 * ((first : Int) + (i : Int) + 1) - ((s.n + j : Nat) : Int)) :
  ∃ col', PB W col0 p tot fv wv fr wl first i (i + 1) col' kv sv kl ids w' ∧ OwR tI 0 w' (.slice (some ⟨g, 0, none⟩) n c) (mine ((first : Int) + (i : Int)) (s.n + (j + 1))) ∧ col' g = 7 + i := by
 have st : Stp (fun c => c = 7 + i) col (fun b => if b = g then 7 + i else col b) w w' := Stp.grow (r := fun c => c = 7 + i) rfl ho hc hg hl
 refine ⟨_, ⟨h.lg.step st (fun c hc => by omega), h.st.trans (st.mono fun c hc => by omega), fun k t ht => ?_⟩, ?_, by simp⟩
 ·obtain ⟨a1, a2, a3, a4, a5⟩ := h.rows k t ht
  refine ⟨?_, a2, fun q hq => ⟨Nat.lt_of_lt_of_le (a3 q hq).1 st.size, (st.col q (a3 q hq).1).trans (a3 q hq).2⟩, a4, fun hk => st.own (a5 hk) fun q hq e => by have := (a3 q hq).2; omega⟩
  by_cases e : k = i
  ·subst e
   rw [hs] at ht
   injection ht with ht
   subst ht
   obtain ⟨a0, cap, e0, b1, b2, b3⟩ := a1
   refine ⟨a0, cap, e0, b1, b2, fun m x hm => ?_⟩
   obtain ⟨b, q, rfl, hbp, hat⟩ := b3 m x hm
   have hq0 : q = 0 := a4 b q (by unfold Sv.v at e0; injection e0)
   subst hq0
   refine ⟨b, 0, rfl, hbp, Nat.lt_of_lt_of_le hat.1 st.size, fun z u hu => ?_⟩
   have hz : z = 0 := by
    have := (List.getElem?_eq_some_iff.1 hu).1
    rw [tI.len] at this
    have e1 : tI.n = 1 := rfl
    omega
   subst hz
   have e1 : (0 : Nat) + m * tI.n + 0 = m := by show 0 + m * 1 + 0 = m; omega
   have hm2 : m < s.n := by have := (List.getElem?_eq_some_iff.1 hm).1; rw [mine_len] at this; exact this
   by_cases hb : G.v.ownBlock = some b
   ·have hu2 : u = .int .i64 x := by injection hu with hu; exact hu.symm
    rw [e1]
    refine hk b hb m u ?_
    rw [hu2]
    refine csI_get ?_
    rw [mine_get hm2] at hm
    rw [mine_get (by omega)]
    exact hm
   ·refine Eq.trans (World.cell?_of_block ?_) (hat.2 0 u hu)
    show w'.heap[b]? = w.heap[b]?
    rw [hg.block b (by simp; have := hat.1; omega) (fun e => hb e.symm)]
    exact Below.heap_alloc w ob b hat.1
  ·exact st.sl a1 fun q hq e => by have := (a3 q hq).2; omega
 ·rw [hy, mine_snoc] at hown
  exact hown
end
end Go.Proofs.Ytndnfjcfpcfakaa
namespace Go.Proofs.Ytndnfjcfpcfakaa
open Go Go.RowKit Go.Wr Go.Fl
set_option maxHeartbeats 4000000
set_option maxRecDepth 100000
theorem step_none {P : Program} {ops : Array Oper} {op : Oper} {a : Act} {w : World} {K : Act → World → Prop} {Q : Exit → Act → World → Prop} {E : Prop} (hgd : op.guard = none) (h : Oper.wp P op a w K Q) : if Region.wanted op (yielded ops a.tmps) = true then Oper.wp P op a w K Q else E := by
 have hw : Region.wanted op (yielded ops a.tmps) = true := by simp [Region.wanted, hgd]
 rw [if_pos hw]
 exact h
theorem wp_gen {P : Program} {op : Oper} {a : Act} {w : World} {K : Act → World → Prop} {Q : Exit → Act → World → Prop} (h : ∀ A, A = a → Oper.wp P op A w K Q) : Oper.wp P op a w K Q := h a rfl
structure Fz (col col' : Nat → Nat) (w w' : World) : Prop where
 os : w'.os = w.os
 tape : w'.tape = w.tape
 output : w'.output = w.output
 size : w.heap.size ≤ w'.heap.size
 block : ∀ b, b < w.heap.size → col b = 0 → w'.heap[b]? = w.heap[b]? ∧ col' b = 0
theorem Lg.fs {col : Nat → Nat} {p i : Nat} {tot : Int} {fv wv kv sv : Sv} {fr wl kl : List Sv} {ids : List Int} {w : World} (h : Lg col p i tot fv wv kv sv fr wl kl ids w) : SlX tII p w fv.v fr :=
 h.fo.sl fun e => by have := h.fc p e; rw [h.pc] at this; omega
theorem Lg.ws {col : Nat → Nat} {p i : Nat} {tot : Int} {fv wv kv sv : Sv} {fr wl kl : List Sv} {ids : List Int} {w : World} (h : Lg col p i tot fv wv kv sv fr wl kl ids w) : SlX tII p w wv.v wl :=
 h.wo.sl fun e => by have := h.wc p e; rw [h.pc] at this; omega
theorem Lg.ne {col : Nat → Nat} {p i : Nat} {tot : Int} {fv wv kv sv : Sv} {fr wl kl : List Sv} {ids : List Int} {w : World} (h : Lg col p i tot fv wv kv sv fr wl kl ids w) {v : Value} {c : Nat} (hc : ∀ g, v.ownBlock = some g → col g = c) (h1 : c ≠ 1) : v.ownBlock ≠ some p :=
 fun e => by have := hc p e; rw [h.pc] at this; omega
theorem own_wf {α : Type} {R : RT Try.prog α} {B : Nat} {w : World} {a : Option Addr} {n c : Nat} {l : List α} (h : OwR R B w (Sv.v ⟨a, n, c⟩) l) : n ≤ c ∧ c ≤ 9223372036854775807 := by
 unfold Sv.v at h
 simp only at h
 rcases h.form with ⟨e, _⟩ | ⟨g, cap, e, e1, e2, _⟩
 ·injection e with _ e1 e2; omega
 ·injection e with _ e3 e4
  unfold maxLen at e2
  omega
theorem own_z {α : Type} {R : RT Try.prog α} {B : Nat} {w : World} {s : Sv} {l : List α} (h : OwR R B w s.v l) : ∀ b q, s.a = some ⟨b, q, none⟩ → q = 0 := fun b q hs => by
 rcases h.form with ⟨e, _⟩ | ⟨g, cap, e, _⟩
 ·injection e with e _ _; rw [hs] at e; cases e
 ·injection e with e _ _
  rw [hs] at e
  injection e with e
  injection e
theorem own_a {α : Type} {R : RT Try.prog α} {B : Nat} {w : World} {a : Option Addr} {n c : Nat} {l : List α} (h : OwR R B w (Sv.v ⟨a, n, c⟩) l) (hn : 0 < n) : ∃ q, a = some ⟨q, 0, none⟩ := by
 unfold Sv.v at h
 simp only at h
 rcases h.form with ⟨e, _⟩ | ⟨g, cap, e, _⟩
 ·injection e with _ e _; omega
 ·injection e with e _ _
  exact ⟨g, e⟩
theorem PA.pb {W : World} {col : Nat → Nat} {p : Nat} {tot : Int} {fv wv kv sv : Sv} {fr wl kl : List Sv} {ids : List Int} {i j : Nat} {cont : Nat → List Int} {w : World} (h : PA W col p tot fv wv kv sv fr wl kl ids i j cont w) (hi : i = fr.length) :
  PB W col p tot fv wv fr wl kl.length 0 0 col kv sv kl ids w :=
 ⟨h.lg, h.st.mono (fun c hc => by omega), fun k s hk => by
  obtain ⟨a1, a2, a3⟩ := h.rows k s hk
  have hd := h.done k s (by have := (List.getElem?_eq_some_iff.1 hk).1; omega) hk
  rw [hd] at a1
  exact ⟨a1.sl (h.lg.ne a3 (by omega)), a2, fun g hg => ⟨a1.lt hg, a3 g hg⟩, own_z a1, fun _ => a1⟩⟩
theorem Lg.grown {col : Nat → Nat} {p i : Nat} {tot : Int} {fv wv kv sv : Sv} {fr wl kl : List Sv} {ids : List Int} {w w' : World} (h : Lg col p i tot fv wv kv sv fr wl kl ids w) {o : Obj} {v : Value} {c : Nat} (hg : (w.alloc o).grownBy w' v.ownBlock) (hc : ∀ g, v.ownBlock = some g → col g = c) (h1 : c ≠ 1) : Blk w' p 56 (lgC tot fv.v wv.v kv.v sv.v) :=
 h.pb.of_block (by
  rw [hg.block p (by simp; have := h.pb.lt; omega) (fun e => h.ne hc h1 e.symm)]
  exact Below.heap_alloc w o p h.pb.lt)
theorem Lg.close {col : Nat → Nat} {p i : Nat} {tot : Int} {fv wv kv sv : Sv} {fr wl kl : List Sv} {ids : List Int} {w : World} (h : Lg col p i tot fv wv kv sv fr wl kl ids w) :
  Lg (fun b => if 6 ≤ col b then 6 else col b) p 0 tot ⟨none, 0, 0⟩ ⟨none, 0, 0⟩ kv sv [] [] kl ids ((w.setCell ⟨p, 1, none⟩ (.slice none 0 0)).setCell ⟨p, 2, none⟩ (.slice none 0 0)) ∧ Stp (fun c => c = 1) col col w ((w.setCell ⟨p, 1, none⟩ (.slice none 0 0)).setCell ⟨p, 2, none⟩ (.slice none 0 0)) := by
 have s1 : Stp (fun c => c = 1) col col w (w.setCell ⟨p, 1, none⟩ (.slice none 0 0)) := Stp.set (r := fun c => c = 1) (c := 1) rfl h.pc
 have s2 : Stp (fun c => c = 1) col col (w.setCell ⟨p, 1, none⟩ (.slice none 0 0)) ((w.setCell ⟨p, 1, none⟩ (.slice none 0 0)).setCell ⟨p, 2, none⟩ (.slice none 0 0)) := Stp.set (r := fun c => c = 1) (c := 1) rfl h.pc
 have st := s1.trans s2
 refine ⟨⟨((h.pb.set 1 _).set 2 _).eq rfl, by simp [h.pc], OwR.nil _ _, fun g hg => (by cases hg), OwR.nil _ _, fun g hg => (by cases hg),
  st.own h.ko fun g hg => by rw [h.kc g hg]; omega, fun g hg => by simp [h.kc g hg],
  st.own h.so fun g hg => by rw [h.sc g hg]; omega, fun g hg => by simp [h.sc g hg], fun k s x hk hx => ?_⟩, st⟩
 obtain ⟨a1, a2, n, a3, a4, a5⟩ := h.kr k s x hk hx
 exact ⟨a1, a2, n, a3, st.sl a4 fun g hg k => by have := (a5 g hg).2.1; omega, fun g hg => ⟨Nat.lt_of_lt_of_le (a5 g hg).1 st.size, by rw [if_pos (a5 g hg).2.1]; omega, by rw [if_pos (a5 g hg).2.1]; omega⟩⟩
theorem write_ok (W : World) (col : Nat → Nat) (p : Nat) (tot : Int) (fv wv kv sv : Sv) (fr wl kl : List Sv) (ids : List Int) (h : Lg col p 0 tot fv wv kv sv fr wl kl ids W)
  (hlen : ids.length = kl.length) (hb : kl.length + 2 * fr.length ≤ 1073741824) (t0 : 0 ≤ tot) (t1 : tot ≤ 1152921504606846976)
  (hr : ∀ (k : Nat) (s : Sv), fr[k]? = some s → ∃ t l, wl[k]? = some t ∧ OwR tI 0 W s.v l ∧ SlX tI p W t.v l ∧ s.n ≤ 1073741824 ∧ (∀ g, s.v.ownBlock = some g → col g = 7 + k)) :
  Calls Try.prog 38 #[.pointer (some ⟨p, 0, none⟩)] W fun e w' => e = .returned (.tuple #[]) ∧ ∃ col' kv' sv' kl' ids', Lg col' p 0 tot ⟨none, 0, 0⟩ ⟨none, 0, 0⟩ kv' sv' [] [] kl' ids' w' ∧ kl'.length = kl.length + 2 * fr.length ∧ ids'.length = kl'.length ∧ Fz col col' W w' := by
 have mix : Try.prog.follows .mixedOrders = true := by kernel_rfl
 have HL := Lib.hid (look_ok W p tot fv wv kv.v sv.v fr wl h.pb h.fs h.ws (by omega) (fun k s hk => by
  obtain ⟨t, l, a1, a2, a3, _, a5⟩ := hr k s hk
  exact ⟨t, l, a1, a2.sl (h.ne a5 (by omega)), a3⟩))
 have HG := Lib.hid h
 obtain ⟨cont0, hc0⟩ : ∃ c : Nat → List Int, ∀ k s, fr[k]? = some s → OwR tI 0 W s.v (c k) := by
  have : ∀ k : Nat, ∃ l, ∀ s, fr[k]? = some s → OwR tI 0 W s.v l := fun k => by
   cases e : fr[k]? with
   | none => exact ⟨[], fun s hs => by cases hs⟩
   | some t =>
    obtain ⟨_, l, _, a2, _⟩ := hr k t e
    exact ⟨l, fun s hs => by injection hs with hs; subst hs; exact a2⟩
  exact Classical.axiomOfChoice this
 have HR := Lib.hid (fun k s hk => by obtain ⟨t, l, _, _, _, a4, a5⟩ := hr k s hk; exact ⟨hc0 k s hk, a4, a5⟩ : ∀ (k : Nat) (s : Sv), fr[k]? = some s → OwR tI 0 W s.v (cont0 k) ∧ s.n ≤ 1073741824 ∧ (∀ g, s.v.ownBlock = some g → col g = 7 + k))
 have HLn := Lib.hid hlen
 clear hr hlen h hc0
 go_enter Try.func38, Try.ntmps38
 go_wp2_with fail
 refine HL.out.mono ?_
 rintro e W1 ⟨rfl, hb1⟩
 have st1 : Stp (fun c => 7 ≤ c) col col W W1 := Stp.of_below hb1
 have lg1 := HG.out.step st1 (fun c hc => hc)
 have HSt := Lib.hid st1
 have hPA : Hid (PA W1 col p tot fv wv kv sv fr wl kl ids 0 0 cont0 W1) := by
  refine ⟨lg1, Stp.refl _ _ _, fun k s hk => ?_, fun k s hk => by omega, fun j hj => by omega⟩
  obtain ⟨a1, a2, a3⟩ := HR.out k s hk
  exact ⟨a1.below hb1, a2, a3⟩
 have c1 := lg1.pb.cell 1
 have c3 := lg1.pb.cell 3
 have c1' : W1.cell? ⟨p, 1, none⟩ = some (.slice fv.a fv.n fv.c) := c1
 have c3' : W1.cell? ⟨p, 3, none⟩ = some (.slice kv.a kv.n kv.c) := c3
 have ekn : kv.n = kl.length := own_n lg1.ko
 have efn : fv.n = fr.length := own_n lg1.fo
 obtain ⟨K1, K2, K3⟩ : kv.n ≤ kv.c ∧ kv.c ≤ 9223372036854775807 ∧ True := ⟨(slx_fit (lg1.ko.sl (lg1.ne lg1.kc (by omega)))).2.1, (slx_fit (lg1.ko.sl (lg1.ne lg1.kc (by omega)))).2.2, trivial⟩
 obtain ⟨K4, K5⟩ : fv.n ≤ fv.c ∧ fv.c ≤ 9223372036854775807 := ⟨(slx_fit lg1.fs).2.1, (slx_fit lg1.fs).2.2⟩
 obtain ⟨fa, fn, fc⟩ := fv
 obtain ⟨ka, kn, kc⟩ := kv
 simp only at c1' c3' ekn efn K1 K2 K4 K5
 subst ekn; subst efn
 clear c1 c3 lg1 st1 hb1 HL HG HR K3
 go_wp2
 go_loopw [3] (fun t wr' => ∃ i cont, i ≤ fr.length ∧ t = .int .i64 (i : Int) ∧ Hid (PA W1 col p tot ⟨fa, fr.length, fc⟩ wv ⟨ka, kl.length, kc⟩ sv fr wl kl ids i 0 cont wr')) (fun t _ => fr.length - (intOf t).toNat)
 case atStart => exact ⟨0, cont0, by omega, rfl, hPA⟩
 case round =>
  obtain ⟨i, cont, hi, rfl, hP⟩ := hrel
  clear hPA c1' c3'
  have c1 : wr.cell? ⟨p, 1, none⟩ = some (.slice fa fr.length fc) := hP.out.lg.pb.cell 1
  by_cases hit : i < fr.length
  ·have hit' : (i : Int) < (fr.length : Int) := by omega
   have hi0 : (0 : Int) ≤ (i : Int) := by omega
   obtain ⟨⟨sa, sn, sc⟩, hsi⟩ : ∃ s, fr[i]? = some s := ⟨_, List.getElem?_eq_getElem hit⟩
   obtain ⟨b, o, rfl, hbp, _, _⟩ := SlX.ss hP.out.lg.fs hsi
   have hsn : sn ≤ 1073741824 := (hP.out.rows i _ hsi).2.1
   have hwf : sn ≤ sc ∧ sc ≤ 9223372036854775807 := own_wf (hP.out.rows i _ hsi).1
   have hP0 : Hid (PA W1 col p tot ⟨some ⟨b, o, none⟩, fr.length, fc⟩ wv ⟨ka, kl.length, kc⟩ sv fr wl kl ids i 0 cont wr) := hP
   have HSI := Lib.hid hsi
   clear hP hsi
   go_wp2
   go_loopw [4] (fun t wr' => ∃ j cont, j ≤ sn ∧ t = .int .i64 (j : Int) ∧ Hid (PA W1 col p tot ⟨some ⟨b, o, none⟩, fr.length, fc⟩ wv ⟨ka, kl.length, kc⟩ sv fr wl kl ids i j cont wr')) (fun t _ => sn - (intOf t).toNat)
   case atStart => exact ⟨0, cont, by omega, rfl, hP0⟩
   case round =>
    obtain ⟨j, cont', hj, rfl, hP⟩ := hrel
    clear hP0 c1
    have c1 : wr.cell? ⟨p, 1, none⟩ = some (.slice (some ⟨b, o, none⟩) fr.length fc) := hP.out.lg.pb.cell 1
    obtain ⟨b', o', e', _, _, cs⟩ := SlX.ss hP.out.lg.fs HSI.out
    injection e' with e'
    injection e' with e1 e2
    subst e1; subst e2
    simp only at cs
    by_cases hjt : j < sn
    ·have hjt' : (j : Int) < (sn : Int) := by omega
     have hj0 : (0 : Int) ≤ (j : Int) := by omega
     have ho := (hP.out.rows i _ HSI.out).1
     obtain ⟨q, rfl⟩ := own_a ho (by omega)
     have fz : wr.frozen? ⟨q, j, none⟩ = false := OwR.frozen ho j
     obtain ⟨x, hx⟩ : ∃ x, (cont' i)[j]? = some x := ⟨_, List.getElem?_eq_getElem (by have := own_n ho; simp only at this; omega)⟩
     have cx := OwR.int ho hx
     clear ho hx
     go_wp2
     have hPn := Lib.hid (hP.out.put HSI.out hjt)
     go_roundw
     all_goals first
      | exact ⟨j + 1, _, by omega, by go_num, hPn.out⟩
      | ((repeat apply Exists.intro); exact ⟨⟨j + 1, _, by omega, by go_num, hPn.out⟩, rfl⟩)
      | (simp [intOf] <;> omega)
    ·obtain rfl : j = sn := by omega
     have hPn := Lib.hid (hP.out.next HSI.out rfl)
     clear hjt hP
     go_wp2
     go_roundw
     all_goals first
      | exact ⟨i + 1, _, by omega, by go_num, hPn.out⟩
      | ((repeat apply Exists.intro); exact ⟨⟨i + 1, _, by omega, by go_num, hPn.out⟩, rfl⟩)
      | (simp [intOf] <;> omega)
  ·obtain rfl : i = fr.length := by omega
   clear hit
   have hB0 := Lib.hid (hP.out.pb rfl)
   clear hP
   go_wp2
   go_loopw [5] (fun t wr' => ∃ (i : Nat) (col' : Nat → Nat) (kv' sv' : Sv) (kl' : List Sv) (ids' : List Int), i ≤ fr.length ∧ t = .int .i64 (i : Int) ∧ kl'.length = kl.length + i ∧ ids'.length = kl'.length ∧ Hid (PB W1 col p tot ⟨fa, fr.length, fc⟩ wv fr wl kl.length i i col' kv' sv' kl' ids' wr')) (fun t _ => fr.length - (intOf t).toNat)
   case atStart => exact ⟨0, _, _, _, _, _, by omega, rfl, rfl, HLn.out, hB0⟩
   case round =>
    obtain ⟨i, col', kv', sv', kl', ids', hi, rfl, hkl, hids, hP⟩ := hrel
    have hklb : kl'.length ≤ 1073741824 := by omega
    have hidb : ids'.length ≤ 1073741824 := by omega
    have HK := Lib.hid hkl
    have HD := Lib.hid hids
    clear hkl hids
    clear hB0
    have c1 : wr.cell? ⟨p, 1, none⟩ = some (.slice fa fr.length fc) := hP.out.lg.pb.cell 1
    by_cases hit : i < fr.length
    ·have hit' : (i : Int) < (fr.length : Int) := by omega
     have hi0 : (0 : Int) ≤ (i : Int) := by omega
     obtain ⟨⟨sa, sn, sc⟩, hsi⟩ : ∃ s, fr[i]? = some s := ⟨_, List.getElem?_eq_getElem hit⟩
     obtain ⟨b, o, rfl, hbp, _, cs⟩ := SlX.ss hP.out.lg.fs hsi
     obtain ⟨a1, hsn, a3, a4, a5⟩ := hP.out.rows i _ hsi
     have HO : Hid (OwR tI 0 wr (Sv.v ⟨sa, sn, sc⟩) (mine ((kl.length : Int) + (i : Int)) (sn + 0)) ∧ ∀ g, (Sv.v ⟨sa, sn, sc⟩).ownBlock = some g → col' g = 7 + i) := ⟨a5 (Nat.le_refl _), fun g hg => (a3 g hg).2⟩
     have HP0 := Lib.hid (hP.out.le (Nat.le_succ i))
     have HSI := Lib.hid hsi
     obtain ⟨M, hM⟩ : ∃ M : Nat, (M : Int) = min tot 4000 + 70 := ⟨(min tot 4000 + 70).toNat, by omega⟩
     simp only at cs hsn
     clear a1 a3 a4 a5 hP hsi
     go_wp2
     go_loopw [6, 7] (fun tg t wr' => ∃ (j : Nat) (ga : Option Addr) (gn gc : Nat) (col'' : Nat → Nat), j ≤ M ∧ tg = .slice ga gn gc ∧ t = .int .i64 (j : Int) ∧ Hid (PB W1 col p tot ⟨some ⟨b, o, none⟩, fr.length, fc⟩ wv fr wl kl.length i (i + 1) col'' kv' sv' kl' ids' wr' ∧ OwR tI 0 wr' (Sv.v ⟨ga, gn, gc⟩) (mine ((kl.length : Int) + (i : Int)) (sn + j)) ∧ ∀ g, (Sv.v ⟨ga, gn, gc⟩).ownBlock = some g → col'' g = 7 + i)) (fun _ t _ => M - (intOf t).toNat)
     case atStart => exact ⟨0, sa, sn, sc, col', by omega, rfl, rfl, HP0.out, HO.out⟩
     case round =>
      obtain ⟨j, ga, gn, gc, col'', hj, rfl, rfl, hQ⟩ := hrel
      clear HP0 HO c1 cs
      have c0 : wr.cell? ⟨p, 0, none⟩ = some (.int .i64 tot) := hQ.out.1.lg.pb.cell 0
      have egn := own_n hQ.out.2.1
      rw [mine_len] at egn
      simp only at egn
      subst egn
      obtain ⟨hwf1, hwf2⟩ := own_wf hQ.out.2.1
      by_cases hjt : j < M
      ·have hj0 : (0 : Int) ≤ (j : Int) := by omega
       have hjM : (j : Int) < min tot 4000 + 70 := by omega
       have hO := Lib.hid hQ.out.2.1
       have hl9 := mine_len ((kl.length : Int) + (i : Int)) (sn + j)
       unfold Sv.v at hO
       go_wp2_with (at_builtin; refine wpl_pushO tI rfl _ _ rfl 0 _ (mine ((kl.length : Int) + (i : Int)) (sn + j)) rfl (hO.out.alloc _) _ 0 1 1 [-1000003 * ((kl.length : Int) + (i : Int) + 1) - ((sn : Int) + (j : Int))] rfl rfl (Nat.succ_pos _) (rangeNew (by rfl) (by rfl)) (by rw [mine_len]; unfold maxLen; simp; omega) (by rw [mine_len]; show _ * 8 ≤ _; simp; omega) (by simp) ?_; intro g' c' w9 hown hgrow hlies hkeep)
       have hown2 : OwR tI 0 w9 (.slice (some ⟨g', 0, none⟩) (sn + j + 1) c') (mine ((kl.length : Int) + (i : Int)) (sn + j) ++ [-1000003 * ((kl.length : Int) + (i : Int) + 1) - ((sn : Int) + (j : Int))]) := by rw [mine_len] at hown; exact hown
       obtain ⟨colN, n1, n2, n3⟩ := hQ.out.1.grow HSI.out hQ.out.2.1 hQ.out.2.2 hown2 hgrow hlies hkeep (by show _ = -1000003 * _ - ((sn + j : Nat) : Int); omega)
       have hPn := Lib.hid (And.intro n1 (And.intro n2 (fun g (hg : some g' = some g) => by injection hg with hg; subst hg; exact n3 : ∀ g, some g' = some g → colN g = 7 + i)))
       clear n1 n2 n3 hown hown2 hgrow hlies hkeep hQ hO
       go_roundw
       all_goals first
        | exact ⟨j + 1, some ⟨g', 0, none⟩, _, c', _, by omega, rfl, by go_num, hPn.out⟩
        | ((repeat apply Exists.intro); exact ⟨⟨j + 1, some ⟨g', 0, none⟩, _, c', _, by omega, rfl, by go_num, hPn.out⟩, rfl⟩)
        | (simp [intOf] <;> omega)
      ·obtain rfl : j = M := by omega
       have hjM : ¬ ((j : Int) < min tot 4000 + 70) := by omega
       have hKo := Lib.hid hQ.out.1.lg.ko
       have hkz := hQ.out.1.lg.pb.cell 3
       obtain ⟨ka2, kn2, kc2⟩ := kv'
       have hkz2 : wr.cell? ⟨p, 3, none⟩ = some (.slice ka2 kn2 kc2) := hkz
       clear hkz
       go_upto_region 18 with (at_builtin; refine wpl_pushL tII rfl _ _ rfl 0 _ kl' rfl (hKo.out.alloc _) _ 0 1 1 [⟨ga, sn + j, gc⟩] rfl rfl (Nat.succ_pos _) (rangeNew (by rfl) (by rfl)) (by unfold maxLen; simp; omega) (by show _ * 24 ≤ _; simp; omega) (by simp) ?_; intro g' c' w9 hown hgrow hlies; have hp9 := hQ.out.1.lg.grown hgrow hQ.out.1.lg.kc (by omega); have f9 := hp9.frozen 3; have c9 := hp9.cell 3; simp only [lgC, List.getElem?_toArray, List.getElem?_cons_succ, List.getElem?_cons_zero] at c9)
       have hown2 : OwR tII 0 w9 (.slice (some ⟨g', 0, none⟩) (kl'.length + 1) c') (kl' ++ [⟨ga, sn + j, gc⟩]) := hown
       obtain ⟨colK, st1, lgK⟩ := hQ.out.1.lg.pushK hown2 hgrow hlies HD.out
       have hPK := hQ.out.1.other st1 (fun c hc => by omega) lgK
       have hGs := hQ.out.2.1.sl (hQ.out.1.lg.ne hQ.out.2.2 (by omega))
       have hGb : ∀ g, (Sv.v ⟨ga, sn + j, gc⟩).ownBlock = some g → g < wr.heap.size ∧ col'' g = 7 + i := fun g hg => ⟨hQ.out.2.1.lt hg, hQ.out.2.2 g hg⟩
       have hGs2 := Lib.hid (st1.sl hGs fun g hg hc => by have := (hGb g hg).2; omega)
       have hGb2 := Lib.hid (fun g hg => ⟨Nat.lt_of_lt_of_le (hGb g hg).1 st1.size, (st1.col g (hGb g hg).1).trans (hGb g hg).2⟩ : ∀ g, (Sv.v ⟨ga, sn + j, gc⟩).ownBlock = some g → g < _ ∧ colK g = 7 + i)
       have HPK := Lib.hid hPK
       clear hown hown2 hgrow hlies st1 lgK hPK hGs hGb hQ hKo
       clear f9 c9 hp9
       obtain ⟨wK, hwK⟩ : ∃ x, x = w9.setCell ⟨p, 3, none⟩ (.slice (some ⟨g', 0, none⟩) (kl'.length + 1) c') := ⟨_, rfl⟩
       rw [← hwK] at HPK hGs2 hGb2 ⊢
       clear hwK hkz2 c0
       have hSo := Lib.hid HPK.out.lg.so
       have hsz := HPK.out.lg.pb.cell 4
       obtain ⟨sa2, sn2, sc2⟩ := sv'
       have hsz2 : wK.cell? ⟨p, 4, none⟩ = some (.slice sa2 sn2 sc2) := hsz
       clear hsz
       go_wp2_with (at_builtin; refine wpl_pushL tI rfl _ _ rfl 0 _ ids' rfl (hSo.out.alloc _) _ 0 1 1 [(kl.length : Int) + (i : Int)] rfl rfl (Nat.succ_pos _) (rangeNew (by rfl) (by rfl)) (by unfold maxLen; simp; omega) (by show _ * 8 ≤ _; simp; omega) (by simp) ?_; intro g2 c2 w10 hown hgrow hlies; have hp9 := HPK.out.lg.grown hgrow HPK.out.lg.sc (by omega); have f9 := hp9.frozen 4; have c9 := hp9.cell 4; simp only [lgC, List.getElem?_toArray, List.getElem?_cons_succ, List.getElem?_cons_zero] at c9)
       have hown2 : OwR tI 0 w10 (.slice (some ⟨g2, 0, none⟩) (ids'.length + 1) c2) (ids' ++ [(kl.length : Int) + (i : Int)]) := hown
       obtain ⟨colS, st2, lgS⟩ := HPK.out.lg.pushS (i' := i + 1) hown2 hgrow hlies (by rw [List.length_append, HD.out]; rfl) (by rw [HD.out, List.getElem?_append_right (Nat.le_refl _), Nat.sub_self]; rfl) (by omega) (by omega) (by omega) hGs2.out (Nat.le_succ i) (fun g hg => ⟨(hGb2.out g hg).1, by have := (hGb2.out g hg).2; omega, by have := (hGb2.out g hg).2; omega⟩)
       have hPS := Lib.hid (HPK.out.other st2 (fun c hc => by omega) lgS)
       clear hown hown2 hgrow hlies st2 lgS HPK hGs2 hGb2 hSo hp9 f9 c9
       go_roundw
       all_goals first
        | exact ⟨i + 1, _, _, _, _, _, by omega, by go_num, by rw [List.length_append, HK.out]; rfl, by rw [List.length_append, List.length_append, HD.out]; rfl, hPS.out⟩
        | ((repeat apply Exists.intro); exact ⟨⟨i + 1, _, _, _, _, _, by omega, by go_num, by rw [List.length_append, HK.out]; rfl, by rw [List.length_append, List.length_append, HD.out]; rfl, hPS.out⟩, rfl⟩)
        | (simp [intOf] <;> omega)
    ·obtain rfl : i = fr.length := by omega
     clear hit
     have hkl0 := HK.out
     have hB0 := Lib.hid (And.intro HD.out hP.out)
     clear HK HD hP
     go_wp2
     go_loopw [8] (fun t wr' => ∃ (i : Nat) (col' : Nat → Nat) (kv' sv' : Sv) (kl' : List Sv) (ids' : List Int), i ≤ fr.length ∧ t = .int .i64 (i : Int) ∧ kl'.length = kl.length + fr.length + i ∧ ids'.length = kl'.length ∧ Hid (PB W1 col p tot ⟨fa, fr.length, fc⟩ wv fr wl kl.length fr.length fr.length col' kv' sv' kl' ids' wr')) (fun t _ => fr.length - (intOf t).toNat)
     case atStart => exact ⟨0, _, _, _, _, _, by omega, rfl, hkl0, hB0.out.1, hB0.out.2⟩
     case round =>
      clear hB0 hkl0 hklb hidb c1
      obtain ⟨i, col', kv', sv', kl', ids', hi, rfl, hkl, hids, hP⟩ := hrel
      have hklb : kl'.length ≤ 1073741824 := by omega
      have hidb : ids'.length ≤ 1073741824 := by omega
      have HK := Lib.hid hkl
      have HD := Lib.hid hids
      clear hkl hids
      have c1 : wr.cell? ⟨p, 1, none⟩ = some (.slice fa fr.length fc) := hP.out.lg.pb.cell 1
      by_cases hit : i < fr.length
      ·have hit' : (i : Int) < (fr.length : Int) := by omega
       have hi0 : (0 : Int) ≤ (i : Int) := by omega
       obtain ⟨⟨sa, sn, sc⟩, hsi⟩ : ∃ s, fr[i]? = some s := ⟨_, List.getElem?_eq_getElem hit⟩
       obtain ⟨b, o, rfl, hbp, hblt, cs⟩ := SlX.ss hP.out.lg.fs hsi
       obtain ⟨a1, hsn, a3, _, _⟩ := hP.out.rows i _ hsi
       obtain ⟨ka2, kn2, kc2⟩ := kv'
       have c3 : wr.cell? ⟨p, 3, none⟩ = some (.slice ka2 kn2 kc2) := hP.out.lg.pb.cell 3
       simp only at cs hsn
       have HSI := Lib.hid hsi
       clear hsi a1 a3 hbp
       go_upto_region 22 with (fail)
       refine wp_region_last 16 (fun w' => w'.cell? ⟨p, 3, none⟩ = some (.slice ka2 kn2 kc2) ∧ w'.cell? ⟨p, 1, none⟩ = some (.slice (some ⟨b, o, none⟩) fr.length fc) ∧ w'.cell? ⟨b, o + i, none⟩ = some (.slice sa sn sc)) mix ?_
       have cv : wr.drew.cell? ⟨p, 3, none⟩ = some (.slice ka2 kn2 kc2) ∧ wr.drew.cell? ⟨p, 1, none⟩ = some (.slice (some ⟨b, o, none⟩) fr.length fc) ∧ wr.drew.cell? ⟨b, o + i, none⟩ = some (.slice sa sn sc) := ⟨c3, c1, cs⟩
       have HCS := Lib.hid (And.intro c3 (And.intro c1 cs))
       clear c1 c3 cs
       refine wpAnyL_take (i := 0) (v := .pointer (some ⟨p, 0, none⟩)) rfl (by kernel_rfl) (by kernel_rfl) (by kernel_rfl) (fun _ _ _ h => h) rfl (by kernel_rfl) (Or.inl ⟨by rfl, fun w' hw' => by (try go_split_ands); go_simp⟩) cv ?_
       simp only [Act.put, List.getElem_toArray, List.getElem_cons_zero, List.setIfInBounds_toArray, List.set_cons_zero, List.set_cons_succ]
       refine wpAnyL_take (i := 1) (v := .pointer (some ⟨p, 0, none⟩)) rfl (by kernel_rfl) (by kernel_rfl) (by kernel_rfl) (fun _ _ _ h => h) rfl (by kernel_rfl) (Or.inl ⟨by rfl, fun w' hw' => by (try go_split_ands); go_simp⟩) cv ?_
       simp only [Act.put, List.getElem_toArray, List.getElem_cons_zero, List.getElem_cons_succ, List.setIfInBounds_toArray, List.set_cons_zero, List.set_cons_succ]
       refine wpAnyL_take (i := 2) (v := .pointer (some ⟨p, 0, none⟩)) rfl (by kernel_rfl) (by kernel_rfl) (by kernel_rfl) (fun _ _ _ h => h) rfl (by kernel_rfl) (Or.inl ⟨by rfl, fun w' hw' => by (try go_split_ands); go_simp⟩) cv ?_
       simp only [Act.put, List.getElem_toArray, List.getElem_cons_zero, List.getElem_cons_succ, List.setIfInBounds_toArray, List.set_cons_zero, List.set_cons_succ]
       refine wpAnyL_take (i := 3) (v := .pointer (some ⟨p, 3, none⟩)) rfl (by kernel_rfl) (by kernel_rfl) (by kernel_rfl) (fun _ _ _ h => h) rfl (by kernel_rfl) (Or.inl ⟨by rfl, fun w' hw' => by (try go_split_ands); go_simp⟩) cv ?_
       simp only [Act.put, List.getElem_toArray, List.getElem_cons_zero, List.getElem_cons_succ, List.setIfInBounds_toArray, List.set_cons_zero, List.set_cons_succ]
       refine wpAnyL_take (i := 4) (v := .slice ka2 kn2 kc2) rfl (by kernel_rfl) (by kernel_rfl) (by kernel_rfl) (fun _ _ _ h => h) rfl (by kernel_rfl) (Or.inl ⟨by rfl, fun w' hw' => by (try go_split_ands); go_simp⟩) cv ?_
       simp only [Act.put, List.getElem_toArray, List.getElem_cons_zero, List.getElem_cons_succ, List.setIfInBounds_toArray, List.set_cons_zero, List.set_cons_succ]
       refine wpAnyL_take (i := 5) (v := .pointer (some ⟨p, 0, none⟩)) rfl (by kernel_rfl) (by kernel_rfl) (by kernel_rfl) (fun _ _ _ h => h) rfl (by kernel_rfl) (Or.inl ⟨by rfl, fun w' hw' => by (try go_split_ands); go_simp⟩) cv ?_
       simp only [Act.put, List.getElem_toArray, List.getElem_cons_zero, List.getElem_cons_succ, List.setIfInBounds_toArray, List.set_cons_zero, List.set_cons_succ]
       refine wpAnyL_take (i := 6) (v := .pointer (some ⟨p, 0, none⟩)) rfl (by kernel_rfl) (by kernel_rfl) (by kernel_rfl) (fun _ _ _ h => h) rfl (by kernel_rfl) (Or.inl ⟨by rfl, fun w' hw' => by (try go_split_ands); go_simp⟩) cv ?_
       simp only [Act.put, List.getElem_toArray, List.getElem_cons_zero, List.getElem_cons_succ, List.setIfInBounds_toArray, List.set_cons_zero, List.set_cons_succ]
       refine wpAnyL_take (i := 7) (v := .pointer (some ⟨p, 1, none⟩)) rfl (by kernel_rfl) (by kernel_rfl) (by kernel_rfl) (fun _ _ _ h => h) rfl (by kernel_rfl) (Or.inl ⟨by rfl, fun w' hw' => by (try go_split_ands); go_simp⟩) cv ?_
       simp only [Act.put, List.getElem_toArray, List.getElem_cons_zero, List.getElem_cons_succ, List.setIfInBounds_toArray, List.set_cons_zero, List.set_cons_succ]
       refine wpAnyL_take (i := 8) (v := .slice (some ⟨b, o, none⟩) fr.length fc) rfl (by kernel_rfl) (by kernel_rfl) (by kernel_rfl) (fun _ _ _ h => h) rfl (by kernel_rfl) (Or.inl ⟨by rfl, fun w' hw' => by (try go_split_ands); go_simp⟩) cv ?_
       simp only [Act.put, List.getElem_toArray, List.getElem_cons_zero, List.getElem_cons_succ, List.setIfInBounds_toArray, List.set_cons_zero, List.set_cons_succ]
       refine wpAnyL_take (i := 9) (v := .int .i64 (i : Int)) rfl (by kernel_rfl) (by kernel_rfl) (by kernel_rfl) (fun _ _ _ h => h) rfl (by kernel_rfl) (Or.inl ⟨by rfl, fun w' hw' => by (try go_split_ands); go_simp⟩) cv ?_
       simp only [Act.put, List.getElem_toArray, List.getElem_cons_zero, List.getElem_cons_succ, List.setIfInBounds_toArray, List.set_cons_zero, List.set_cons_succ]
       refine wpAnyL_take (i := 10) (v := .pointer (some ⟨b, o + i, none⟩)) rfl (by kernel_rfl) (by kernel_rfl) (by kernel_rfl) (fun _ _ _ h => h) rfl (by kernel_rfl) (Or.inl ⟨by rfl, fun w' hw' => by (try go_split_ands); go_simp⟩) cv ?_
       simp only [Act.put, List.getElem_toArray, List.getElem_cons_zero, List.getElem_cons_succ, List.setIfInBounds_toArray, List.set_cons_zero, List.set_cons_succ]
       refine wpAnyL_take (i := 11) (v := .slice sa sn sc) rfl (by kernel_rfl) (by kernel_rfl) (by kernel_rfl) (fun _ _ _ h => h) rfl (by kernel_rfl) (Or.inl ⟨by rfl, fun w' hw' => by (try go_split_ands); go_simp⟩) cv ?_
       simp only [Act.put, List.getElem_toArray, List.getElem_cons_zero, List.getElem_cons_succ, List.setIfInBounds_toArray, List.set_cons_zero, List.set_cons_succ]
       refine wpAnyL_one (i := 12) (by kernel_rfl) rfl (fun K hK => ?_)
       refine step_none rfl (wp_gen fun A hA => ?_)
       have hE : A.tmps[132]?.getD undef = .slice sa sn sc := by rw [hA]; rfl
       have HA := Lib.hid hA
       clear hA
       go_simp
       have hb1 : Below wr.heap.size wr (wr.alloc (.cells #[.slice sa sn sc] 22)).drew := (bAl (bRefl wr) _).drew
       have HN1 := Lib.hid ((Blk.new wr 22 #[.slice sa sn sc]).drew)
       have ck1 : (wr.alloc (.cells #[.slice sa sn sc] 22)).drew.cell? ⟨p, 3, none⟩ = some (.slice ka2 kn2 kc2) ∧ (wr.alloc (.cells #[.slice sa sn sc] 22)).drew.cell? ⟨p, 1, none⟩ = some (.slice (some ⟨b, o, none⟩) fr.length fc) ∧ (wr.alloc (.cells #[.slice sa sn sc] 22)).drew.cell? ⟨b, o + i, none⟩ = some (.slice sa sn sc) :=
        ⟨(hb1.cell (World.block_lt_of_cell? _ _ HCS.out.1)).trans HCS.out.1, (hb1.cell (World.block_lt_of_cell? _ _ HCS.out.2.1)).trans HCS.out.2.1, (hb1.cell (World.block_lt_of_cell? _ _ HCS.out.2.2)).trans HCS.out.2.2⟩
       refine hK.out _ _ (fun _ => ck1) ?_
       clear hK K hE
       obtain rfl := HA.out
       clear HA
       simp only [List.setIfInBounds_toArray, List.set_cons_zero, List.set_cons_succ]
       refine wpAnyL_one (i := 13) (by kernel_rfl) rfl (fun K hK => ?_)
       have hKo : OwR tII 0 (wr.alloc (.cells #[.slice sa sn sc] 22)).drew (.slice ka2 kn2 kc2) kl' := OwR.below hP.out.lg.ko hb1
       refine step_pushL tII rfl (.tmp 125) (.tmp 133) rfl 0 (.slice ka2 kn2 kc2) kl' (by rfl) hKo wr.heap.size 0 1 1 [⟨sa, sn, sc⟩] (by rfl) rfl (Nat.succ_pos _) (rangeBlk HN1.out (by rfl)) (by simp; unfold maxLen; omega) (by show _ * 24 ≤ _; simp; omega) (Nat.zero_le _) ?_
       intro g' c' w9 hown hgrow hlies
       have hg2 : (wr.alloc (.cells #[.slice sa sn sc] 22)).grownBy w9 (Value.slice ka2 kn2 kc2).ownBlock := ⟨hgrow.os, hgrow.tape, hgrow.output, hgrow.size, hgrow.block⟩
       have hl2 : (Value.slice ka2 kn2 kc2).ownBlock = some g' ∨ g' = (wr.alloc (.cells #[.slice sa sn sc] 22)).heap.size := hlies
       have hp9 := hP.out.lg.grown hg2 hP.out.lg.kc (by omega)
       have f9 := hp9.frozen 3
       have c39 : w9.cell? ⟨p, 3, none⟩ = some (.slice ka2 kn2 kc2) := hp9.cell 3
       have c19 : w9.cell? ⟨p, 1, none⟩ = some (.slice (some ⟨b, o, none⟩) fr.length fc) := hp9.cell 1
       have cs9 : w9.cell? ⟨b, o + i, none⟩ = some (.slice sa sn sc) := by
        have hfc : col' b = 2 := hP.out.lg.fc b rfl
        have hb9 : w9.heap[b]? = wr.heap[b]? := by
         rw [hg2.block b (by simp; omega) (fun e => by have := hP.out.lg.kc b e.symm; omega)]
         exact Below.heap_alloc wr _ b hblt
        exact (World.cell?_of_block hb9).trans HCS.out.2.2
       have cv9 : w9.cell? ⟨p, 3, none⟩ = some (.slice ka2 kn2 kc2) ∧ w9.cell? ⟨p, 1, none⟩ = some (.slice (some ⟨b, o, none⟩) fr.length fc) ∧ w9.cell? ⟨b, o + i, none⟩ = some (.slice sa sn sc) := ⟨c39, c19, cs9⟩
       simp only [Act.put, List.setIfInBounds_toArray]
       refine hK.out _ _ (fun _ => cv9) ?_
       clear hK K
       refine wpAnyL_one (i := 14) (by kernel_rfl) rfl (fun K hK => ?_)
       refine step_none rfl (wp_gen fun A hA => ?_)
       have hE : A.tmps[121]?.getD undef = .pointer (some ⟨p, 0, none⟩) := by rw [hA]; rfl
       have HA := Lib.hid hA
       clear hA
       go_simp
       refine hK.out _ _ (fun _ => cv9) ?_
       clear hK K hE
       obtain rfl := HA.out
       clear HA
       simp only [List.getElem_toArray, List.getElem_cons_zero, List.getElem_cons_succ, List.setIfInBounds_toArray, List.set_cons_zero, List.set_cons_succ]
       refine wpAnyL_one (i := 15) (by kernel_rfl) rfl (fun K hK => ?_)
       refine step_none rfl (wp_gen fun A hA => ?_)
       have hE : A.tmps[135]?.getD undef = .pointer (some ⟨p, 0, none⟩) := by rw [hA]; rfl
       have HA := Lib.hid hA
       clear hA
       go_simp
       refine hK.out _ _ (fun _ => cv9) ?_
       clear hK K hE
       obtain rfl := HA.out
       clear HA
       simp only [List.setIfInBounds_toArray, List.set_cons_zero, List.set_cons_succ]
       refine wpAnyL_one (i := 16) (by kernel_rfl) rfl (fun K hK => ?_)
       refine step_none rfl (wp_gen fun A hA => ?_)
       have hE : A.tmps[136]?.getD undef = .pointer (some ⟨p, 3, none⟩) := by rw [hA]; rfl
       have hE2 : A.tmps[134]?.getD undef = .slice (some ⟨g', 0, none⟩) (kl'.length + 1) c' := by rw [hA]; rfl
       have HA := Lib.hid hA
       clear hA
       go_simp
       refine hK.out _ _ (fun h => absurd rfl h) ?_
       clear hK K hE hE2
       obtain rfl := HA.out
       clear HA
       refine wpAnyL_done (by kernel_rfl) ?_ _
       have hown2 : OwR tII 0 w9 (.slice (some ⟨g', 0, none⟩) (kl'.length + 1) c') (kl' ++ [⟨sa, sn, sc⟩]) := hown
       obtain ⟨colK, st1, lgK⟩ := hP.out.lg.pushK hown2 hg2 hl2 HD.out
       have HPK := Lib.hid (hP.out.other st1 (fun c hc => by omega) lgK)
       clear f9 c39 c19 cs9 cv9 hp9 cv ck1 hb1 HN1 hKo hown hown2 hgrow hg2 hlies hl2 st1 lgK hP HCS
       obtain ⟨wK, hwK⟩ : ∃ x, x = w9.setCell ⟨p, 3, none⟩ (.slice (some ⟨g', 0, none⟩) (kl'.length + 1) c') := ⟨_, rfl⟩
       rw [← hwK] at HPK ⊢
       clear hwK
       have hSo := Lib.hid HPK.out.lg.so
       have hsz := HPK.out.lg.pb.cell 4
       obtain ⟨sa2, sn2, sc2⟩ := sv'
       have hsz2 : wK.cell? ⟨p, 4, none⟩ = some (.slice sa2 sn2 sc2) := hsz
       clear hsz
       go_wp2_with (at_builtin; refine wpl_pushL tI rfl _ _ rfl 0 _ ids' rfl (hSo.out.alloc _) _ 0 1 1 [(kl.length : Int) + (i : Int)] rfl rfl (Nat.succ_pos _) (rangeNew (by rfl) (by rfl)) (by unfold maxLen; simp; omega) (by show _ * 8 ≤ _; simp; omega) (by simp) ?_; intro g2 c2 w10 hown hgrow hlies; have hp9 := HPK.out.lg.grown hgrow HPK.out.lg.sc (by omega); have f9 := hp9.frozen 4; have c9 := hp9.cell 4; simp only [lgC, List.getElem?_toArray, List.getElem?_cons_succ, List.getElem?_cons_zero] at c9)
       have hown2 : OwR tI 0 w10 (.slice (some ⟨g2, 0, none⟩) (ids'.length + 1) c2) (ids' ++ [(kl.length : Int) + (i : Int)]) := hown
       obtain ⟨a1, _, a3, _, _⟩ := HPK.out.rows i _ HSI.out
       obtain ⟨colS, st2, lgS⟩ := HPK.out.lg.pushS (i' := fr.length) hown2 hgrow hlies (by rw [List.length_append, HD.out]; rfl) (by rw [HD.out, List.getElem?_append_right (Nat.le_refl _), Nat.sub_self]; rfl) (by omega) (by omega) (by show sn ≤ _; omega) a1 (Nat.le_refl _) (fun g hg => ⟨(a3 g hg).1, by have := (a3 g hg).2; omega, by have := (a3 g hg).2; omega⟩)
       have hPS := Lib.hid (HPK.out.other st2 (fun c hc => by omega) lgS)
       clear a1 a3 hown hown2 hgrow hlies st2 lgS HPK hSo hp9 f9 c9
       go_roundw
       all_goals first
        | exact ⟨i + 1, _, _, _, _, _, by omega, by go_num, by rw [List.length_append, HK.out]; rfl, by rw [List.length_append, List.length_append, HD.out]; rfl, hPS.out⟩
        | ((repeat apply Exists.intro); exact ⟨⟨i + 1, _, _, _, _, _, by omega, by go_num, by rw [List.length_append, HK.out]; rfl, by rw [List.length_append, List.length_append, HD.out]; rfl, hPS.out⟩, rfl⟩)
        | (simp [intOf] <;> omega)
      ·obtain rfl : i = fr.length := by omega
       clear hit
       have f1 := hP.out.lg.pb.frozen 1
       have f2 := hP.out.lg.pb.frozen 2
       have c2 : wr.cell? ⟨p, 2, none⟩ = some wv.v := hP.out.lg.pb.cell 2
       go_wp2
       go_end0
       obtain ⟨lgE, stE⟩ := hP.out.lg.close
       have st := (HSt.out.mono (r' := fun c => c ≠ 0) (fun c hc => by omega)).trans (hP.out.st.trans (stE.mono (fun c hc => by omega)))
       exact ⟨rfl, _, _, _, _, _, lgE, by have := HK.out; omega, HD.out, st.os, st.tape, st.output, st.size, fun b hb h0 => ⟨st.block b hb (by simp [h0]), by have := st.col b hb; simp only [this, h0]; rfl⟩⟩
end Go.Proofs.Ytndnfjcfpcfakaa
namespace Go.Proofs.Ytndnfjcfpcfakaa
open Go Go.RowKit Go.Wr Go.Fl
set_option maxHeartbeats 4000000
set_option maxRecDepth 100000
section
variable {col col' : Nat → Nat} {p i : Nat} {tot : Int} {fv wv kv sv : Sv} {fr wl kl : List Sv} {ids : List Int} {w w' : World}
theorem Lg.pushF (h : Lg col p i tot fv wv kv sv fr wl kl ids w) {o : Obj} {g n c : Nat} {s : Sv} (ho : OwR tII 0 w' (.slice (some ⟨g, 0, none⟩) n c) (fr ++ [s])) (hg : (w.alloc o).grownBy w' fv.v.ownBlock) (hl : fv.v.ownBlock = some g ∨ g = (w.alloc o).heap.size) :
  ∃ col', Stp (fun c => c = 1 ∨ c = 2) col col' w (w'.setCell ⟨p, 1, none⟩ (.slice (some ⟨g, 0, none⟩) n c)) ∧ Lg col' p i tot ⟨some ⟨g, 0, none⟩, n, c⟩ wv kv sv (fr ++ [s]) wl kl ids (w'.setCell ⟨p, 1, none⟩ (.slice (some ⟨g, 0, none⟩) n c)) := by
 obtain ⟨V, hV⟩ : ∃ V, V = Value.slice (some ⟨g, 0, none⟩) n c := ⟨_, rfl⟩
 have s1 : Stp (fun c => c = 1 ∨ c = 2) col (fun b => if b = g then 2 else col b) w w' := Stp.grow (Or.inr rfl) h.fo h.fc hg hl
 have hplt := h.pb.lt
 have hpg : p ≠ g := by
  rcases hl with hl | hl
  ·intro e; have := h.fc g hl; rw [← e, h.pc] at this; omega
  ·simp at hl; omega
 have hp' : Blk w' p 56 (lgC tot fv.v wv.v kv.v sv.v) := h.pb.of_block (by
  rw [hg.block p (by simp; omega) (fun e => by have := h.fc p e.symm; rw [h.pc] at this; omega)]
  exact Below.heap_alloc w o p hplt)
 have s2 : Stp (fun c => c = 1 ∨ c = 2) (fun b => if b = g then 2 else col b) (fun b => if b = g then 2 else col b) w' (w'.setCell ⟨p, 1, none⟩ V) := Stp.set (c := 1) (Or.inl rfl) (by simp [hpg, h.pc])
 have st := s1.trans s2
 have pk : Blk (w'.setCell ⟨p, 1, none⟩ V) p 56 (lgC tot V wv.v kv.v sv.v) := (hp'.set 1 V).eq rfl
 rw [← hV] at ho ⊢
 refine ⟨_, st, pk.eq (by rw [hV]; rfl), (st.col p hplt).trans h.pc,
  ?_, fun q hq => ?_,
  st.own h.wo fun g hg => by rw [h.wc g hg]; omega, fun g hg => (st.col g (h.wo.lt hg)).trans (h.wc g hg),
  st.own h.ko fun g hg => by rw [h.kc g hg]; omega, fun g hg => (st.col g (h.ko.lt hg)).trans (h.kc g hg),
  st.own h.so fun g hg => by rw [h.sc g hg]; omega, fun g hg => (st.col g (h.so.lt hg)).trans (h.sc g hg), fun k s x hk hx => ?_⟩
 ·show OwR tII 0 _ (.slice (some ⟨g, 0, none⟩) n c) _
  rw [← hV]
  exact ho.set_other (fun e => hpg (by rw [hV] at e; injection e with e; exact e.symm))
 ·injection hq with hq
  simp only at hq
  subst hq
  simp
 ·obtain ⟨a1, a2, n, a3, a4, a5⟩ := h.kr k s x hk hx
  exact ⟨a1, a2, n, a3, st.sl a4 fun g hg k => by have := (a5 g hg).2.1; omega, fun g hg => ⟨Nat.lt_of_lt_of_le (a5 g hg).1 st.size, by rw [st.col g (a5 g hg).1]; exact (a5 g hg).2⟩⟩
theorem Lg.pushW (h : Lg col p i tot fv wv kv sv fr wl kl ids w) {o : Obj} {g n c : Nat} {s : Sv} (ho : OwR tII 0 w' (.slice (some ⟨g, 0, none⟩) n c) (wl ++ [s])) (hg : (w.alloc o).grownBy w' wv.v.ownBlock) (hl : wv.v.ownBlock = some g ∨ g = (w.alloc o).heap.size) :
  ∃ col', Stp (fun c => c = 1 ∨ c = 3) col col' w (w'.setCell ⟨p, 2, none⟩ (.slice (some ⟨g, 0, none⟩) n c)) ∧ Lg col' p i tot fv ⟨some ⟨g, 0, none⟩, n, c⟩ kv sv fr (wl ++ [s]) kl ids (w'.setCell ⟨p, 2, none⟩ (.slice (some ⟨g, 0, none⟩) n c)) := by
 obtain ⟨V, hV⟩ : ∃ V, V = Value.slice (some ⟨g, 0, none⟩) n c := ⟨_, rfl⟩
 have s1 : Stp (fun c => c = 1 ∨ c = 3) col (fun b => if b = g then 3 else col b) w w' := Stp.grow (Or.inr rfl) h.wo h.wc hg hl
 have hplt := h.pb.lt
 have hpg : p ≠ g := by
  rcases hl with hl | hl
  ·intro e; have := h.wc g hl; rw [← e, h.pc] at this; omega
  ·simp at hl; omega
 have hp' : Blk w' p 56 (lgC tot fv.v wv.v kv.v sv.v) := h.pb.of_block (by
  rw [hg.block p (by simp; omega) (fun e => by have := h.wc p e.symm; rw [h.pc] at this; omega)]
  exact Below.heap_alloc w o p hplt)
 have s2 : Stp (fun c => c = 1 ∨ c = 3) (fun b => if b = g then 3 else col b) (fun b => if b = g then 3 else col b) w' (w'.setCell ⟨p, 2, none⟩ V) := Stp.set (c := 1) (Or.inl rfl) (by simp [hpg, h.pc])
 have st := s1.trans s2
 have pk : Blk (w'.setCell ⟨p, 2, none⟩ V) p 56 (lgC tot fv.v V kv.v sv.v) := (hp'.set 2 V).eq rfl
 rw [← hV] at ho ⊢
 refine ⟨_, st, pk.eq (by rw [hV]; rfl), (st.col p hplt).trans h.pc,
  st.own h.fo fun g hg => by rw [h.fc g hg]; omega, fun g hg => (st.col g (h.fo.lt hg)).trans (h.fc g hg),
  ?_, fun q hq => ?_,
  st.own h.ko fun g hg => by rw [h.kc g hg]; omega, fun g hg => (st.col g (h.ko.lt hg)).trans (h.kc g hg),
  st.own h.so fun g hg => by rw [h.sc g hg]; omega, fun g hg => (st.col g (h.so.lt hg)).trans (h.sc g hg), fun k s x hk hx => ?_⟩
 ·show OwR tII 0 _ (.slice (some ⟨g, 0, none⟩) n c) _
  rw [← hV]
  exact ho.set_other (fun e => hpg (by rw [hV] at e; injection e with e; exact e.symm))
 ·injection hq with hq
  simp only at hq
  subst hq
  simp
 ·obtain ⟨a1, a2, n, a3, a4, a5⟩ := h.kr k s x hk hx
  exact ⟨a1, a2, n, a3, st.sl a4 fun g hg k => by have := (a5 g hg).2.1; omega, fun g hg => ⟨Nat.lt_of_lt_of_le (a5 g hg).1 st.size, by rw [st.col g (a5 g hg).1]; exact (a5 g hg).2⟩⟩
theorem Lg.recol (h : Lg col p i tot fv wv kv sv fr wl kl ids w) (hc : ∀ b, b < w.heap.size → col b ≠ 0 → col' b = col b) : Lg col' p i tot fv wv kv sv fr wl kl ids w := by
 have go : ∀ b c, b < w.heap.size → col b = c → c ≠ 0 → col' b = c := fun b c hb e hc0 => (hc b hb (by omega)).trans e
 refine ⟨h.pb, go p 1 h.pb.lt h.pc (by omega), h.fo, fun g hg => go g 2 (h.fo.lt hg) (h.fc g hg) (by omega), h.wo, fun g hg => go g 3 (h.wo.lt hg) (h.wc g hg) (by omega),
  h.ko, fun g hg => go g 4 (h.ko.lt hg) (h.kc g hg) (by omega), h.so, fun g hg => go g 5 (h.so.lt hg) (h.sc g hg) (by omega), fun k s x hk hx => ?_⟩
 obtain ⟨a1, a2, n, a3, a4, a5⟩ := h.kr k s x hk hx
 exact ⟨a1, a2, n, a3, a4, fun g hg => by obtain ⟨b1, b2, b3⟩ := a5 g hg; rw [hc g b1 (by omega)]; exact ⟨b1, b2, b3⟩⟩
theorem Lg.far {r : Nat → Prop} (h : Lg col p i tot fv wv kv sv fr wl kl ids w) (st : Stp r col col' w w') (hr : ∀ c, r c → c = 0 ∨ 7 + i ≤ c) : Lg col' p i tot fv wv kv sv fr wl kl ids w' := by
 have no : ∀ {c : Nat}, 0 < c → c < 7 → ¬ r c := fun h0 hc k => by have := hr _ k; omega
 refine ⟨h.pb.of_block (st.block p h.pb.lt (by rw [h.pc]; exact no (by omega) (by omega))), (st.col p h.pb.lt).trans h.pc,
  st.own h.fo fun g hg => by rw [h.fc g hg]; exact no (by omega) (by omega), fun g hg => (st.col g (h.fo.lt hg)).trans (h.fc g hg),
  st.own h.wo fun g hg => by rw [h.wc g hg]; exact no (by omega) (by omega), fun g hg => (st.col g (h.wo.lt hg)).trans (h.wc g hg),
  st.own h.ko fun g hg => by rw [h.kc g hg]; exact no (by omega) (by omega), fun g hg => (st.col g (h.ko.lt hg)).trans (h.kc g hg),
  st.own h.so fun g hg => by rw [h.sc g hg]; exact no (by omega) (by omega), fun g hg => (st.col g (h.so.lt hg)).trans (h.sc g hg), fun k s x hk hx => ?_⟩
 obtain ⟨a1, a2, n, a3, a4, a5⟩ := h.kr k s x hk hx
 exact ⟨a1, a2, n, a3, st.sl a4 fun g hg k => by have := hr _ k; have := (a5 g hg).2; omega, fun g hg => ⟨Nat.lt_of_lt_of_le (a5 g hg).1 st.size, by rw [st.col g (a5 g hg).1]; exact (a5 g hg).2⟩⟩
theorem Lg.total (h : Lg col p i tot fv wv kv sv fr wl kl ids w) (t : Int) : Lg col p i t fv wv kv sv fr wl kl ids (w.setCell ⟨p, 0, none⟩ (.int .i64 t)) ∧ Stp (fun c => c = 1) col col w (w.setCell ⟨p, 0, none⟩ (.int .i64 t)) := by
 have st : Stp (fun c => c = 1) col col w (w.setCell ⟨p, 0, none⟩ (.int .i64 t)) := Stp.set (r := fun c => c = 1) (c := 1) rfl h.pc
 refine ⟨⟨(h.pb.set 0 _).eq rfl, h.pc, st.own h.fo fun g hg => by rw [h.fc g hg]; omega, h.fc, st.own h.wo fun g hg => by rw [h.wc g hg]; omega, h.wc,
  st.own h.ko fun g hg => by rw [h.kc g hg]; omega, h.kc, st.own h.so fun g hg => by rw [h.sc g hg]; omega, h.sc, fun k s x hk hx => ?_⟩, st⟩
 obtain ⟨a1, a2, n, a3, a4, a5⟩ := h.kr k s x hk hx
 exact ⟨a1, a2, n, a3, st.sl a4 fun g hg k => by have := (a5 g hg).2.1; omega, fun g hg => ⟨Nat.lt_of_lt_of_le (a5 g hg).1 st.size, (a5 g hg).2⟩⟩
end
def Led (U : Nat → Prop) (p n : Nat) (w : World) : Prop :=
 ∃ (col : Nat → Nat) (tot : Int) (fv wv kv sv : Sv) (fr wl kl : List Sv) (ids : List Int), Lg col p 0 tot fv wv kv sv fr wl kl ids w ∧
  ids.length = kl.length ∧ kl.length + 2 * fr.length ≤ 2 * n ∧ wl.length = fr.length ∧ fr.length ≤ 2 ∧ 0 ≤ tot ∧ tot ≤ (n : Int) * 1073741824 ∧
  (∀ (k : Nat) (s : Sv), fr[k]? = some s → ∃ t l, wl[k]? = some t ∧ OwR tI 0 w s.v l ∧ SlX tI p w t.v l ∧ s.n ≤ 1073741824 ∧ (∀ g, s.v.ownBlock = some g → col g = 7 + k) ∧ (∀ g, t.v.ownBlock = some g → g < w.heap.size ∧ col g = 6)) ∧
  ∀ b, b < w.heap.size → ¬ U b → col b = 0
theorem Led.lt {U : Nat → Prop} {p n : Nat} {w : World} (h : Led U p n w) : p < w.heap.size := by
 obtain ⟨_, _, _, _, _, _, _, _, _, _, h, _⟩ := h
 exact h.pb.lt
theorem Led.keep {U : Nat → Prop} {p n : Nat} {w w' : World} (h : Led U p n w) (ho : w'.os = w.os) (ht : w'.tape = w.tape) (hu : w'.output = w.output) (hs : w.heap.size ≤ w'.heap.size) (hb : ∀ b, b < w.heap.size → U b → w'.heap[b]? = w.heap[b]?) : Led U p n w' := by
 obtain ⟨col, tot, fv, wv, kv, sv, fr, wl, kl, ids, lg, h1, h2, h3, h4, h5, h6, h7, h8⟩ := h
 have st : Stp (fun c => c = 0) col (fun b => if b < w.heap.size then col b else 0) w w' := ⟨ho, ht, hu, hs, fun b hlt hn => hb b hlt (Classical.byContradiction fun k => hn (h8 b hlt k)), fun b hlt => by simp [hlt]⟩
 refine ⟨_, tot, fv, wv, kv, sv, fr, wl, kl, ids, lg.far st (fun c hc => Or.inl hc), h1, h2, h3, h4, h5, h6, fun k s hk => ?_, fun b hlt hn => ?_⟩
 ·obtain ⟨t, l, a1, a2, a3, a4, a5, a6⟩ := h7 k s hk
  exact ⟨t, l, a1, st.own a2 fun g hg => by rw [a5 g hg]; omega, st.sl a3 fun g hg => by rw [(a6 g hg).2]; omega, a4, fun g hg => (st.col g (a2.lt hg)).trans (a5 g hg), fun g hg => ⟨Nat.lt_of_lt_of_le (a6 g hg).1 hs, (st.col g (a6 g hg).1).trans (a6 g hg).2⟩⟩
 ·show (if b < w.heap.size then col b else 0) = 0
  split
  ·exact h8 b (by assumption) hn
  ·rfl
theorem Led.new (w : World) : Led (fun b => b = w.heap.size) w.heap.size 0 (w.alloc (.cells (lgC 0 (.slice none 0 0) (.slice none 0 0) (.slice none 0 0) (.slice none 0 0)) 56)) := by
 refine ⟨fun b => if b = w.heap.size then 1 else 0, 0, ⟨none, 0, 0⟩, ⟨none, 0, 0⟩, ⟨none, 0, 0⟩, ⟨none, 0, 0⟩, [], [], [], [],
  ⟨Blk.new _ _ _, by simp, OwR.nil _ _, fun g hg => (by cases hg), OwR.nil _ _, fun g hg => (by cases hg), OwR.nil _ _, fun g hg => (by cases hg), OwR.nil _ _, fun g hg => (by cases hg), fun k s x hk => by simp at hk⟩,
  rfl, by simp, rfl, by simp, by omega, by simp, fun k s hk => by simp at hk, fun b _ hb => by simp [hb]⟩
structure Fu (U : Nat → Prop) (w w' : World) : Prop where
 os : w'.os = w.os
 tape : w'.tape = w.tape
 output : w'.output = w.output
 size : w.heap.size ≤ w'.heap.size
 block : ∀ b, b < w.heap.size → ¬ U b → w'.heap[b]? = w.heap[b]?
theorem Lg.holds {col : Nat → Nat} {p i : Nat} {tot : Int} {fv wv kv sv : Sv} {fr wl kl : List Sv} {ids : List Int} {w : World} (h : Lg col p i tot fv wv kv sv fr wl kl ids w) (hlen : ids.length = kl.length) (h3 : fr.length ≤ 1099511627776)
  (hs : ∀ (k : Nat) (s : Sv), fr[k]? = some s → ∃ t l, wl[k]? = some t ∧ SlX tI p w s.v l ∧ SlX tI p w t.v l) :
  Calls Try.prog 39 #[.pointer (some ⟨p, 0, none⟩)] w fun e w' => e = .returned (.bool true) ∧ Below w.heap.size w w' :=
 holds_ok w p tot fv wv kv sv fr wl kl ids h.pb h.fs h.ws h3 hs (h.ko.sl (h.ne h.kc (by omega))) (h.so.sl (h.ne h.sc (by omega))) hlen.symm (fun k s hk => by
  have hlt := (List.getElem?_eq_some_iff.1 hk).1
  obtain ⟨x, hx⟩ : ∃ x, ids[k]? = some x := ⟨_, List.getElem?_eq_getElem (by omega)⟩
  obtain ⟨a1, a2, n, a3, a4, _⟩ := h.kr k s x hk hx
  exact ⟨x, n, hx, a1, a2, a3, a4⟩)
theorem done_ok (w : World) (U : Nat → Prop) (p n : Nat) (h : Led U p n w) (hn : n ≤ 268435456) :
  Calls Try.prog 24 #[.pointer (some ⟨p, 0, none⟩)] w fun e w' => e = .returned (.bool true) ∧ Fu U w w' := by
 obtain ⟨col, tot, fv, wv, kv, sv, fr, wl, kl, ids, lg, h1, h2, h3, h4, h5, h6, h7, h8⟩ := h
 have HW := Lib.hid (write_ok w col p tot fv wv kv sv fr wl kl ids lg h1 (by omega) h5 (by omega) (fun k s hk => by
  obtain ⟨t, l, a1, a2, a3, a4, a5, _⟩ := h7 k s hk
  exact ⟨t, l, a1, a2, a3, a4, a5⟩))
 have H8 := Lib.hid h8
 clear lg h1 h7 h8 h5 h6 h3
 go_enter Try.func24, Try.ntmps24
 go_wp2_with fail
 refine HW.out.mono ?_
 rintro e w1 ⟨rfl, col', kv', sv', kl', ids', lg, k1, k2, fz⟩
 have HH := Lib.hid (lg.holds k2 (by simp) (fun k s hk => by simp at hk))
 have HF := Lib.hid fz
 clear lg k1 k2 fz HW
 go_wp2_with fail
 refine HH.out.mono ?_
 rintro e w2 ⟨rfl, hb⟩
 have HB := Lib.hid hb
 clear hb HH
 go_wp2
 go_ret
 have f := HF.out
 have b := HB.out
 exact ⟨rfl, b.os.trans f.os, b.tape.trans f.tape, b.output.trans f.output, Nat.le_trans f.size b.size, fun q hq hU => (b.block q (Nat.lt_of_lt_of_le hq f.size)).trans (f.block q hq (H8.out q hq hU)).1⟩
structure Rw (col : Nat → Nat) (p : Nat) (fr wl : List Sv) (cont : Nat → List Int) (w : World) : Prop where
 f : ∀ (k : Nat) (s : Sv), fr[k]? = some s → OwR tI 0 w s.v (cont k) ∧ s.n ≤ 1073741824 ∧ ∀ g, s.v.ownBlock = some g → col g = 7 + k
 w : ∀ (k : Nat) (t : Sv), wl[k]? = some t → SlX tI p w t.v (cont k) ∧ ∀ g, t.v.ownBlock = some g → g < w.heap.size ∧ col g = 6
theorem Rw.step {r : Nat → Prop} {col col' : Nat → Nat} {p : Nat} {fr wl : List Sv} {cont : Nat → List Int} {w w' : World} (h : Rw col p fr wl cont w) (st : Stp r col col' w w') (hr : ∀ c, r c → c < 6) : Rw col' p fr wl cont w' :=
 ⟨fun k s hk => by
  obtain ⟨a1, a2, a3⟩ := h.f k s hk
  exact ⟨st.own a1 fun g hg e => by have := hr _ e; have := a3 g hg; omega, a2, fun g hg => (st.col g (a1.lt hg)).trans (a3 g hg)⟩,
  fun k t hk => by
  obtain ⟨a1, a2⟩ := h.w k t hk
  exact ⟨st.sl a1 fun g hg e => by have := hr _ e; have := (a2 g hg).2; omega, fun g hg => ⟨Nat.lt_of_lt_of_le (a2 g hg).1 st.size, (st.col g (a2 g hg).1).trans (a2 g hg).2⟩⟩⟩
theorem Rw.more {col : Nat → Nat} {p : Nat} {fr wl : List Sv} {cont : Nat → List Int} {w : World} (h : Rw col p fr wl cont w) {t : Sv} (ht : SlX tI p w t.v (cont wl.length)) (hc : ∀ g, t.v.ownBlock = some g → g < w.heap.size ∧ col g = 6) : Rw col p fr (wl ++ [t]) cont w :=
 ⟨h.f, fun k u hk => by
  by_cases e : k < wl.length
  ·rw [List.getElem?_append_left e] at hk
   exact h.w k u hk
  ·have hl := (List.getElem?_eq_some_iff.1 hk).1
   rw [List.length_append] at hl
   obtain rfl : k = wl.length := by simp only [List.length_cons, List.length_nil] at hl; omega
   rw [List.getElem?_append_right (Nat.le_refl _), Nat.sub_self] at hk
   injection hk with hk
   subst hk
   exact ⟨ht, hc⟩⟩
theorem Led.open {U : Nat → Prop} {p n : Nat} {w : World} (h : Led U p n w) {s : Sv} {l : List Int} (ho : OwR tI 0 w s.v l) (hs : s.n ≤ 1073741824) (hU : ∀ g, s.v.ownBlock = some g → ¬ U g) :
  ∃ (col : Nat → Nat) (tot : Int) (fv wv kv sv : Sv) (fr wl kl : List Sv) (ids : List Int) (cont : Nat → List Int), Lg col p 0 tot fv wv kv sv fr wl kl ids w ∧
   ids.length = kl.length ∧ kl.length + 2 * fr.length ≤ 2 * n ∧ wl.length = fr.length ∧ fr.length ≤ 2 ∧ 0 ≤ tot ∧ tot ≤ (n : Int) * 1073741824 ∧ Rw col p (fr ++ [s]) wl cont w ∧ cont fr.length = l ∧
   ∀ b, b < w.heap.size → ¬ (U b ∨ s.v.ownBlock = some b) → col b = 0 := by
 obtain ⟨col, tot, fv, wv, kv, sv, fr, wl, kl, ids, lg, h1, h2, h3, h4, h5, h6, h7, h8⟩ := h
 have hch : ∀ k : Nat, ∃ m : List Int, ∀ s, fr[k]? = some s → ∃ t, wl[k]? = some t ∧ OwR tI 0 w s.v m ∧ SlX tI p w t.v m := fun k => by
  cases e : fr[k]? with
  | none => exact ⟨[], fun s hs => by cases hs⟩
  | some t =>
   obtain ⟨u, m, a1, a2, a3, _⟩ := h7 k t e
   exact ⟨m, fun s hs => by injection hs with hs; subst hs; exact ⟨u, a1, a2, a3⟩⟩
 obtain ⟨cont, hcont⟩ := Classical.axiomOfChoice hch
 have hz : ∀ b, b < w.heap.size → s.v.ownBlock = some b → col b = 0 := fun b hb e => h8 b hb (hU b e)
 refine ⟨fun b => if s.v.ownBlock = some b then 7 + fr.length else col b, tot, fv, wv, kv, sv, fr, wl, kl, ids, setF cont fr.length l, lg.recol fun b hb hc => ?_, h1, h2, h3, h4, h5, h6, ⟨fun k u hk => ?_, fun k t hk => ?_⟩, setF_self _ _ _, fun b hb hn => ?_⟩
 ·exact if_neg fun e => hc (hz b hb e)
 ·by_cases e : k < fr.length
  ·rw [List.getElem?_append_left e] at hk
   obtain ⟨t, a1, a2, a3⟩ := hcont k u hk
   obtain ⟨_, _, _, _, _, b4, b5, _⟩ := h7 k u hk
   rw [setF_ne (by omega)]
   exact ⟨a2, b4, fun g hg => by
    rw [if_neg (fun e => by have := hz g (a2.lt hg) e; have := b5 g hg; omega)]
    exact b5 g hg⟩
  ·have hl := (List.getElem?_eq_some_iff.1 hk).1
   rw [List.length_append] at hl
   obtain rfl : k = fr.length := by simp only [List.length_cons, List.length_nil] at hl; omega
   rw [List.getElem?_append_right (Nat.le_refl _), Nat.sub_self] at hk
   injection hk with hk
   subst hk
   rw [setF_self]
   exact ⟨ho, hs, fun g hg => if_pos hg⟩
 ·have hkl := (List.getElem?_eq_some_iff.1 hk).1
  obtain ⟨u, hu⟩ : ∃ u, fr[k]? = some u := ⟨_, List.getElem?_eq_getElem (by omega)⟩
  obtain ⟨t', a1, a2, a3⟩ := hcont k u hu
  obtain ⟨t2, _, b1, _, _, _, _, b6⟩ := h7 k u hu
  rw [hk] at a1 b1
  injection a1 with a1
  injection b1 with b1
  subst a1; subst b1
  rw [setF_ne (by omega)]
  exact ⟨a3, fun g hg => ⟨(b6 g hg).1, by rw [if_neg (fun e => by have := hz g (b6 g hg).1 e; have := (b6 g hg).2; omega)]; exact (b6 g hg).2⟩⟩
 ·show (if s.v.ownBlock = some b then 7 + fr.length else col b) = 0
  rw [if_neg fun e => hn (Or.inr e)]
  exact h8 b hb fun k => hn (Or.inl k)
end Go.Proofs.Ytndnfjcfpcfakaa
namespace Go.Proofs.Ytndnfjcfpcfakaa
open Go Go.RowKit Go.Wr Go.Fl
set_option maxHeartbeats 4000000
set_option maxRecDepth 100000
theorem Rw.both {col : Nat → Nat} {p : Nat} {fr wl : List Sv} {cont : Nat → List Int} {w : World} (h : Rw col p fr wl cont w) (hl : wl.length = fr.length) : ∀ (k : Nat) (s : Sv), fr[k]? = some s → ∃ t l, wl[k]? = some t ∧ OwR tI 0 w s.v l ∧ SlX tI p w t.v l ∧ s.n ≤ 1073741824 ∧ (∀ g, s.v.ownBlock = some g → col g = 7 + k) ∧ (∀ g, t.v.ownBlock = some g → g < w.heap.size ∧ col g = 6) := fun k s hk => by
 have hlt := (List.getElem?_eq_some_iff.1 hk).1
 obtain ⟨t, ht⟩ : ∃ t, wl[k]? = some t := ⟨_, List.getElem?_eq_getElem (by omega)⟩
 obtain ⟨a1, a2, a3⟩ := h.f k s hk
 obtain ⟨b1, b2⟩ := h.w k t ht
 exact ⟨t, cont k, ht, a1, b1, a2, a3, b2⟩
theorem own_ok (w : World) (U : Nat → Prop) (p n : Nat) (h : Led U p n w) (hn : n ≤ 268435455) (sa : Option Addr) (sn sc : Nat) (l : List Int) (ho : OwR tI 0 w (Sv.v ⟨sa, sn, sc⟩) l) (hs : sn ≤ 1073741824) (hU : ∀ g, (Sv.v ⟨sa, sn, sc⟩).ownBlock = some g → ¬ U g) :
  Calls Try.prog 23 #[.pointer (some ⟨p, 0, none⟩), .slice sa sn sc] w fun e w' => e = .returned (.bool true) ∧ Fu (fun b => U b ∨ (Sv.v ⟨sa, sn, sc⟩).ownBlock = some b) w w' ∧ Led (fun b => U b ∨ (Sv.v ⟨sa, sn, sc⟩).ownBlock = some b ∨ (w.heap.size ≤ b ∧ b < w'.heap.size)) p (n + 1) w' := by
 have mix : Try.prog.follows .mixedOrders = true := by kernel_rfl
 obtain ⟨col, tot, fv, wv, kv, sv, fr, wl, kl, ids, cont, lg, h1, h2, h3, h4, h5, h6, rw0, hcl, h8⟩ := h.open ho hs hU
 have HW := Lib.hid (And.intro h1 (And.intro h2 h3))
 have H8 := Lib.hid h8
 have hwf := own_wf ho
 have elen : sn = l.length := own_n ho
 have HE := Lib.hid elen
 have HCl := Lib.hid hcl
 clear h ho hU h1 h2 h3 h8 elen hcl
 have c0 : w.cell? ⟨p, 0, none⟩ = some (.int .i64 tot) := lg.pb.cell 0
 have f0 := lg.pb.frozen 0
 obtain ⟨lg1, st1⟩ := lg.total (tot + (sn : Int))
 obtain ⟨w1, hw1⟩ : ∃ x, x = w.setCell ⟨p, 0, none⟩ (.int .i64 (tot + (sn : Int))) := ⟨_, rfl⟩
 have rw1 := rw0.step st1 (fun c hc => by omega)
 rw [← hw1] at lg1 st1 rw1
 have HL1 := Lib.hid lg1
 have HS1 := Lib.hid st1
 have HR1 := Lib.hid rw1
 have HW1 := Lib.hid hw1
 obtain ⟨fa, fn, fc⟩ := fv
 obtain ⟨wa, wn, wc⟩ := wv
 clear lg lg1 st1 rw0 rw1 hw1
 go_enter Try.func23, Try.ntmps23
 go_upto_region 2 with (fail)
 rw [← HW1.out]
 clear c0 f0
 have c1 : w1.cell? ⟨p, 1, none⟩ = some (.slice fa fn fc) := HL1.out.pb.cell 1
 have hFo := Lib.hid HL1.out.fo
 go_upto_region 3 with (at_builtin; refine wpl_pushL tII rfl _ _ rfl 0 _ fr rfl (hFo.out.alloc _) _ 0 1 1 [⟨sa, sn, sc⟩] rfl rfl (Nat.succ_pos _) (rangeNew (by rfl) (by rfl)) (by unfold maxLen; simp; omega) (by show _ * 24 ≤ _; simp; omega) (by simp) ?_; intro g' c' w9 hown hgrow hlies; have hp9 := HL1.out.grown hgrow HL1.out.fc (by omega); have f9 := hp9.frozen 1; have c9 := hp9.cell 1; simp only [lgC, List.getElem?_toArray, List.getElem?_cons_succ, List.getElem?_cons_zero] at c9)
 have hown2 : OwR tII 0 w9 (.slice (some ⟨g', 0, none⟩) (fr.length + 1) c') (fr ++ [⟨sa, sn, sc⟩]) := hown
 obtain ⟨col2, st2, lg2⟩ := HL1.out.pushF hown2 hgrow hlies
 have rw2 := HR1.out.step st2 (fun c hc => by omega)
 clear hown hown2 hgrow hlies hp9 f9 c9 c1 hFo
 obtain ⟨w2, hw2⟩ : ∃ x, x = w9.setCell ⟨p, 1, none⟩ (.slice (some ⟨g', 0, none⟩) (fr.length + 1) c') := ⟨_, rfl⟩
 rw [← hw2] at lg2 st2 rw2 ⊢
 clear hw2
 have st12 := (HS1.out.mono (r' := fun c => c ≠ 0) (fun c hc => by omega)).trans (st2.mono (fun c hc => by omega))
 have HL2 := Lib.hid lg2
 have HS2 := Lib.hid st12
 have HR2 := Lib.hid rw2
 clear lg2 st2 rw2 st12 HL1 HS1 HR1 HW1
 have c2 : w2.cell? ⟨p, 2, none⟩ = some (.slice wa wn wc) := HL2.out.pb.cell 2
 have hrow : (fr ++ [(⟨sa, sn, sc⟩ : Sv)])[fr.length]? = some ⟨sa, sn, sc⟩ := by rw [List.getElem?_append_right (Nat.le_refl _), Nat.sub_self]; rfl
 have hsl : SlX tI p w2 (.slice sa sn sc) l := by
  obtain ⟨a1, _, a3⟩ := HR2.out.f _ _ hrow
  rw [HCl.out] at a1
  exact a1.sl (HL2.out.ne a3 (by omega))
 have HSl := Lib.hid hsl
 clear hsl hrow
 go_upto_region 3 with (fail)
 refine wp_region_last 11 (fun w' => w'.cell? ⟨p, 2, none⟩ = some (.slice wa wn wc)) mix ?_
 have cv : w2.drew.cell? ⟨p, 2, none⟩ = some (.slice wa wn wc) := c2
 refine wpAnyL_take (i := 0) (v := .pointer (some ⟨p, 0, none⟩)) rfl (by kernel_rfl) (by kernel_rfl) (by kernel_rfl) (fun _ _ _ h => h) rfl (by kernel_rfl) (Or.inl ⟨by rfl, fun w' hw' => by (try go_split_ands); go_simp⟩) cv ?_
 simp only [Act.put, List.getElem_toArray, List.getElem_cons_zero, List.setIfInBounds_toArray, List.set_cons_zero, List.set_cons_succ]
 refine wpAnyL_take (i := 1) (v := .pointer (some ⟨p, 0, none⟩)) rfl (by kernel_rfl) (by kernel_rfl) (by kernel_rfl) (fun _ _ _ h => h) rfl (by kernel_rfl) (Or.inl ⟨by rfl, fun w' hw' => by (try go_split_ands); go_simp⟩) cv ?_
 simp only [Act.put, List.getElem_toArray, List.getElem_cons_zero, List.getElem_cons_succ, List.setIfInBounds_toArray, List.set_cons_zero, List.set_cons_succ]
 refine wpAnyL_take (i := 2) (v := .pointer (some ⟨p, 0, none⟩)) rfl (by kernel_rfl) (by kernel_rfl) (by kernel_rfl) (fun _ _ _ h => h) rfl (by kernel_rfl) (Or.inl ⟨by rfl, fun w' hw' => by (try go_split_ands); go_simp⟩) cv ?_
 simp only [Act.put, List.getElem_toArray, List.getElem_cons_zero, List.getElem_cons_succ, List.setIfInBounds_toArray, List.set_cons_zero, List.set_cons_succ]
 refine wpAnyL_take (i := 3) (v := .pointer (some ⟨p, 2, none⟩)) rfl (by kernel_rfl) (by kernel_rfl) (by kernel_rfl) (fun _ _ _ h => h) rfl (by kernel_rfl) (Or.inl ⟨by rfl, fun w' hw' => by (try go_split_ands); go_simp⟩) cv ?_
 simp only [Act.put, List.getElem_toArray, List.getElem_cons_zero, List.getElem_cons_succ, List.setIfInBounds_toArray, List.set_cons_zero, List.set_cons_succ]
 refine wpAnyL_take (i := 4) (v := .slice wa wn wc) rfl (by kernel_rfl) (by kernel_rfl) (by kernel_rfl) (fun _ _ _ h => h) rfl (by kernel_rfl) (Or.inl ⟨by rfl, fun w' hw' => by (try go_split_ands); go_simp⟩) cv ?_
 simp only [Act.put, List.getElem_toArray, List.getElem_cons_zero, List.getElem_cons_succ, List.setIfInBounds_toArray, List.set_cons_zero, List.set_cons_succ]
 refine wpAnyL_take (i := 5) (v := .slice sa sn sc) rfl (by kernel_rfl) (by kernel_rfl) (by kernel_rfl) (fun _ _ _ h => h) rfl (by kernel_rfl) (Or.inl ⟨by rfl, fun w' hw' => by (try go_split_ands); go_simp⟩) cv ?_
 simp only [Act.put, List.getElem_toArray, List.getElem_cons_zero, List.getElem_cons_succ, List.setIfInBounds_toArray, List.set_cons_zero, List.set_cons_succ]
 refine wpAnyL_one (i := 6) (by kernel_rfl) rfl (fun K hK => ?_)
 go_simp
 go_wp2_with fail
 refine (copyInts_ok w2.drew p (.slice sa sn sc) l HSl.out (by have := HE.out; omega)).mono ?_
 rintro e w3 ⟨hb3, v', rfl, hv'⟩
 obtain ⟨ta, tn, tc, rfl⟩ : ∃ ta tn tc, v' = .slice ta tn tc := by
  rcases hv'.form with ⟨e, _⟩ | ⟨g, cap, e, _⟩
  ·exact ⟨_, _, _, e⟩
  ·exact ⟨_, _, _, e⟩
 have hb3' : Below w2.heap.size w2 w3 := ⟨hb3.os, hb3.tape, hb3.output, hb3.size, hb3.block⟩
 have st3 : Stp (fun c => c = 1) col2 (fun b => if (Value.slice ta tn tc).ownBlock = some b then 6 else col2 b) w2 w3 := ⟨hb3'.os, hb3'.tape, hb3'.output, hb3'.size, fun b hb _ => hb3'.block b hb, fun b hb => if_neg fun e => by
  have h1 := (hv'.blk e).1
  have h2 : w2.drew.heap.size = w2.heap.size := rfl
  omega⟩
 obtain ⟨col3, hcol3⟩ : ∃ x, x = fun b => if (Value.slice ta tn tc).ownBlock = some b then 6 else col2 b := ⟨_, rfl⟩
 rw [← hcol3] at st3
 have ht3 : SlX tI p w3 (Sv.v ⟨ta, tn, tc⟩) (cont wl.length) := by
  rw [HW.out.2.2, HCl.out]
  refine hv'.sl fun e => ?_
  have h1 := (hv'.blk e).1
  have h2 : w2.drew.heap.size = w2.heap.size := rfl
  have h3 := HL2.out.pb.lt
  omega
 have hc3 : ∀ g, (Sv.v ⟨ta, tn, tc⟩).ownBlock = some g → g < w3.heap.size ∧ col3 g = 6 := fun g hg => ⟨hv'.lt hg, by rw [hcol3]; exact if_pos hg⟩
 have HL3 := Lib.hid ((HL2.out.recol (col' := col2) (fun _ _ _ => rfl)).far (r := fun _ => False) ⟨st3.os, st3.tape, st3.output, st3.size, fun b hb _ => hb3'.block b hb, st3.col⟩ (fun c hc => hc.elim))
 have HR3 := Lib.hid ((HR2.out.step st3 (fun c hc => by omega)).more ht3 hc3)
 have HS3 := Lib.hid (HS2.out.trans (st3.mono (fun c hc => by omega)))
 clear hb3 hb3' st3 ht3 hc3 hcol3 hv' HL2 HR2 HS2 HSl cv c2
 have cv : w3.cell? ⟨p, 2, none⟩ = some (.slice wa wn wc) := HL3.out.pb.cell 2
 go_wp2_with fail
 refine hK.out _ _ (fun _ => cv) ?_
 clear hK K
 refine wpAnyL_one (i := 7) (by kernel_rfl) rfl (fun K hK => ?_)
 refine step_none rfl ?_
 go_simp
 have hb4 : Below w3.heap.size w3 (w3.alloc (.cells #[.slice ta tn tc] 22)) := bAl (bRefl w3) _
 have HN4 := Lib.hid (Blk.new w3 22 #[.slice ta tn tc])
 have cv4 : (w3.alloc (.cells #[.slice ta tn tc] 22)).cell? ⟨p, 2, none⟩ = some (.slice wa wn wc) := (hb4.cell (World.block_lt_of_cell? _ _ cv)).trans cv
 refine hK.out _ _ (fun _ => cv4) ?_
 clear hK K
 refine wpAnyL_one (i := 8) (by kernel_rfl) rfl (fun K hK => ?_)
 have hWo : OwR tII 0 (w3.alloc (.cells #[.slice ta tn tc] 22)) (.slice wa wn wc) wl := OwR.below HL3.out.wo hb4
 refine step_pushL tII rfl (.tmp 29) (.tmp 32) rfl 0 (.slice wa wn wc) wl (by rfl) hWo w3.heap.size 0 1 1 [⟨ta, tn, tc⟩] (by rfl) rfl (Nat.succ_pos _) (rangeBlk HN4.out (by rfl)) (by have := HW.out.2.2; simp; unfold maxLen; omega) (by have := HW.out.2.2; show _ * 24 ≤ _; simp; omega) (Nat.zero_le _) ?_
 intro g2 c2 w9 hown hgrow hlies
 have hp9 := HL3.out.grown hgrow HL3.out.wc (by omega)
 have f9 := hp9.frozen 2
 have cv9 : w9.cell? ⟨p, 2, none⟩ = some (.slice wa wn wc) := hp9.cell 2
 simp only [Act.put, List.setIfInBounds_toArray]
 refine hK.out _ _ (fun _ => cv9) ?_
 clear hK K
 refine wpAnyL_one (i := 9) (by kernel_rfl) rfl (fun K hK => ?_)
 go_simp
 refine hK.out _ _ (fun _ => cv9) ?_
 clear hK K
 refine wpAnyL_one (i := 10) (by kernel_rfl) rfl (fun K hK => ?_)
 go_simp
 refine hK.out _ _ (fun _ => cv9) ?_
 clear hK K
 refine wpAnyL_one (i := 11) (by kernel_rfl) rfl (fun K hK => ?_)
 go_simp
 refine hK.out _ _ (fun h => absurd rfl h) ?_
 clear hK K
 refine wpAnyL_done (by kernel_rfl) ?_ _
 have hown2 : OwR tII 0 w9 (.slice (some ⟨g2, 0, none⟩) (wl.length + 1) c2) (wl ++ [⟨ta, tn, tc⟩]) := hown
 obtain ⟨col4, st4, lg4⟩ := HL3.out.pushW hown2 hgrow hlies
 have rw4 := HR3.out.step st4 (fun c hc => by omega)
 clear f9 cv9 hp9 cv cv4 hb4 HN4 hWo hown hown2 hgrow hlies
 obtain ⟨w4, hw4⟩ : ∃ x, x = w9.setCell ⟨p, 2, none⟩ (.slice (some ⟨g2, 0, none⟩) (wl.length + 1) c2) := ⟨_, rfl⟩
 rw [← hw4] at lg4 st4 rw4 ⊢
 clear hw4
 have HL4 := Lib.hid lg4
 have HR4 := Lib.hid rw4
 have HS4 := Lib.hid (HS3.out.trans (st4.mono (fun c hc => by omega)))
 clear lg4 rw4 st4 HL3 HR3 HS3
 have hFl : (fr ++ [(⟨sa, sn, sc⟩ : Sv)]).length = fr.length + 1 := by rw [List.length_append]; rfl
 have hWl : (wl ++ [(⟨ta, tn, tc⟩ : Sv)]).length = fr.length + 1 := by rw [List.length_append, HW.out.2.2]; rfl
 have hB := HR4.out.both (hWl.trans hFl.symm)
 have HB4 := Lib.hid hB
 have hH4 := HL4.out.holds HW.out.1 (by omega) (fun k s hk => by
  obtain ⟨t, l, a1, a2, a3, _, a5, _⟩ := hB k s hk
  exact ⟨t, l, a1, a2.sl (HL4.out.ne a5 (by omega)), a3⟩)
 have HH4 := Lib.hid hH4
 have hbd := HW.out.2.1
 have HFl := Lib.hid hFl
 have HWl := Lib.hid hWl
 clear hB hH4 hFl hWl
 have c4 : w4.cell? ⟨p, 1, none⟩ = some (.slice (some ⟨g', 0, none⟩) (fr.length + 1) c') := HL4.out.pb.cell 1
 by_cases h3 : fr.length ≤ 1
 ·have h3' : ¬ ((fr.length : Int) + 1 ≥ 3) := by omega
  go_wp2_with fail
  refine HH4.out.mono ?_
  rintro e w5 ⟨rfl, hb5⟩
  have HB5 := Lib.hid hb5
  clear hb5 HH4 c4
  go_wp2
  go_ret
  have st5 : Stp (fun c => c ≠ 0) col col4 w w5 := HS4.out.trans (Stp.of_below HB5.out)
  have st5' : Stp (fun _ => False) col4 col4 w4 w5 := Stp.of_below HB5.out
  refine ⟨rfl, ⟨st5.os, st5.tape, st5.output, st5.size, fun b hb hn => st5.block b hb (by simp [H8.out b hb hn])⟩,
   col4, tot + (sn : Int), _, _, kv, sv, _, _, kl, ids, HL4.out.step st5' (fun c hc => hc.elim), HW.out.1, by rw [HFl.out]; omega, HWl.out.trans HFl.out.symm, by rw [HFl.out]; omega, by omega, by omega,
   (HR4.out.step st5' (fun c hc => hc.elim)).both (HWl.out.trans HFl.out.symm), fun b hbw hn => ?_⟩
  have hb : b < w.heap.size := Nat.lt_of_not_le fun k => hn (Or.inr (Or.inr ⟨k, hbw⟩))
  exact (HS4.out.col b hb).trans (H8.out b hb fun k => hn (k.imp id Or.inl))
 ·have h3' : ((fr.length : Int) + 1 ≥ 3) := by omega
  have hf2 : fr.length = 2 := by omega
  have hw4 := write_ok w4 col4 p (tot + (sn : Int)) _ _ kv sv _ _ kl ids HL4.out HW.out.1 (by rw [HFl.out]; omega) (by omega) (by omega) (fun k s hk => by
   obtain ⟨t, l, a1, a2, a3, a4, a5, _⟩ := HB4.out k s hk
   exact ⟨t, l, a1, a2, a3, a4, a5⟩)
  have HW4 := Lib.hid hw4
  have Hf2 := Lib.hid hf2
  clear hw4 HH4 hf2
  go_wp2_with fail
  refine HW4.out.mono ?_
  rintro e w5 ⟨rfl, col5, kv', sv', kl', ids', lg5, k1, k2, fz⟩
  have HH5 := Lib.hid (lg5.holds k2 (by simp) (fun k s hk => by simp at hk))
  have HL5 := Lib.hid lg5
  have HF5 := Lib.hid fz
  have HK1 := Lib.hid k1
  have HK2 := Lib.hid k2
  clear lg5 fz k1 k2 HW4 c4
  go_wp2_with fail
  refine HH5.out.mono ?_
  rintro e w6 ⟨rfl, hb6⟩
  have HB6 := Lib.hid hb6
  clear hb6 HH5
  go_wp2
  go_ret
  have st5' : Stp (fun _ => False) col5 col5 w5 w6 := Stp.of_below HB6.out
  have s4 := HS4.out
  have f5 := HF5.out
  have h0 : ∀ b, b < w.heap.size → ¬ (U b ∨ (Sv.v ⟨sa, sn, sc⟩).ownBlock = some b) → w5.heap[b]? = w.heap[b]? ∧ col5 b = 0 := fun b hb hn => by
   have e1 := H8.out b hb hn
   have e2 := (s4.col b hb).trans e1
   obtain ⟨a1, a2⟩ := f5.block b (Nat.lt_of_lt_of_le hb s4.size) e2
   exact ⟨a1.trans (s4.block b hb (by simp [e1])), a2⟩
  refine ⟨rfl, ⟨st5'.os.trans (f5.os.trans s4.os), st5'.tape.trans (f5.tape.trans s4.tape), st5'.output.trans (f5.output.trans s4.output), Nat.le_trans s4.size (Nat.le_trans f5.size st5'.size),
   fun b hb hn => (st5'.block b (Nat.lt_of_lt_of_le hb (Nat.le_trans s4.size f5.size)) (fun k => k)).trans (h0 b hb hn).1⟩,
   col5, tot + (sn : Int), _, _, kv', sv', [], [], kl', ids', HL5.out.step st5' (fun c hc => hc.elim), HK2.out, ?_, rfl, by simp, by omega, by omega, fun k s hk => by simp at hk, fun b hbw hn => ?_⟩
  ·have e1 := HK1.out
   have e2 := HFl.out
   have e3 := Hf2.out
   rw [e2] at e1
   simp only [List.length_nil]
   omega
  ·have hb : b < w.heap.size := Nat.lt_of_not_le fun k => hn (Or.inr (Or.inr ⟨k, hbw⟩))
   exact (h0 b hb fun k => hn (k.imp id Or.inl)).2
end Go.Proofs.Ytndnfjcfpcfakaa
