/- What the law needs, one part after another: walks of functions and plain laws. No conditions but those that each law names. -/
import Derived.Test.YtcflgogodgfccaaFlaj
namespace Go.Proofs.Ytcflgogodgfccaa
open Go Go.RowKit Go.Wr Go.Fl Go.Ht
set_option maxHeartbeats 4000000
set_option maxRecDepth 1000000
theorem symMerge_all (B : Nat) (w0 : World) (g n cap gf : Nat) (cv : Value) (cf : Int → Int → Int) (D : Int → Prop) (R : Int → Int → Prop) (C : Cmp gf cv cf D w0 g) (O : Ord R (fun y x => decide (cf y x < 0)) D) (hn : n ≤ 70368744177664) : ∀ N, Mg N B w0 g n cap gf cv D R
 | 0 => fun w a m b P X Y Q h ha hm hb hX hY hN _ _ _ _ _ => by omega
 | N + 1 => fun w a m b P X Y Q h ha hm hb hX hY hN hDX hDY hB sX sY => by
  by_cases h1 : X.length = 1
  ·obtain ⟨x, rfl⟩ := List.length_eq_one_iff.1 h1
   exact symMerge_one B w0 w g n cap a m b gf cv cf D R C O P Y Q x h ha (by simpa using hm) (by simp at hm; omega) (hDX x (List.mem_singleton.2 rfl)) hDY (fun y hy => hB x (List.mem_singleton.2 rfl) y hy) sY hn
  ·by_cases h2 : Y.length = 1
   ·obtain ⟨y, rfl⟩ := List.length_eq_one_iff.1 h2
    exact symMerge_last B w0 w g n cap a m b gf cv cf D R C O P X Q y h ha hm (by simpa using hb) (by omega) (hDY y (List.mem_singleton.2 rfl)) hDX (fun x hx => hB x hx y (List.mem_singleton.2 rfl)) sX hn
   ·have ih := symMerge_all B w0 g n cap gf cv cf D R C O hn N
    by_cases hq : (a + b) / 2 < m
    ·exact symMerge_main N B w0 w g n cap a m b gf ((a + b) / 2 + m - b) ((a + b) / 2) ((a + b) / 2) cv cf D R C O ih P X Y Q h ha hm hb (by omega) (by omega) hN hDX hDY hB sX sY hn rfl (Or.inl ⟨hq, by omega, rfl⟩)
    ·exact symMerge_main N B w0 w g n cap a m b gf a m ((a + b) / 2) cv cf D R C O ih P X Y Q h ha hm hb (by omega) (by omega) hN hDX hDY hB sX sY hn rfl (Or.inr ⟨by omega, rfl, rfl⟩)
theorem stable_ok (B : Nat) (w0 w : World) (g n cap gf : Nat) (cv : Value) (cf : Int → Int → Int) (D : Int → Prop) (R : Int → Int → Prop) (C : Cmp gf cv cf D w0 g) (O : Ord R (fun y x => decide (cf y x < 0)) D) (l : List Int)
  (h : SW B w0 g n cap l w) (hD : Al D l) (hA : Asc l) (hn : n ≤ 70368744177664) :
  Calls Try.prog 65 #[.slice (some ⟨g, 0, none⟩) n cap, .int .i64 (n : Int), .func (.func gf) #[] #[cv]] w fun e w' => e = .returned (.tuple #[]) ∧ ∃ Z, Z.Perm l ∧ Z.Pairwise R ∧ SW B w0 g n cap Z w' := by
 have hln := h.len
 have HC := Lib.hid C
 have HO := Lib.hid O
 have HM := Lib.hid (symMerge_all B w0 g n cap gf cv cf D R C O hn)
 have HL := Lib.hid (And.intro hln (And.intro hD hA))
 have HS := Lib.hid h
 clear h hln hD hA C O
 go_enter Try.func65, Try.ntmps65
 go_wp2
 go_loopw [7, 8] (fun t u wr => ∃ (k : Nat) (A0 A B0 : List Int), k ≤ n ∧ t = .int .i64 (k : Int) ∧ u = .int .i64 ((k : Int) + 20) ∧ Hid (l = A0 ++ B0 ∧ Bf R 20 A0 A ∧ A0.length = k) ∧ Hid (SW B w0 g n cap (A ++ B0) wr)) (fun t _ _ => n - (intOf t).toNat)
 case atStart => exact ⟨0, [], [], l, by omega, rfl, rfl, ⟨rfl, Bf.nil, rfl⟩, HS.out⟩
 case round =>
  clear HS
  obtain ⟨k, A0, A, B0, hk, rfl, rfl, hE, hS⟩ := hrel
  obtain ⟨V, rfl⟩ : ∃ V : World, V = wr := ⟨_, rfl⟩
  by_cases hlt : k + 20 ≤ n
  ·have hlt' : (k : Int) + 20 ≤ (n : Int) := by omega
   obtain ⟨X, B1, rfl, hx⟩ := cut_at B0 20 (by have h1 := congrArg List.length hE.out.1; rw [List.length_append] at h1; have := HL.out.1; have := hE.out.2.2; omega)
   obtain ⟨e1, e2, e3⟩ := hE.out
   have hAsc := HL.out.2.2
   have hDl := HL.out.2.1
   rw [e1] at hAsc hDl
   have hcall := insertion_ok B w0 V g n cap k (k + 20) gf cv cf D R HC.out HO.out A X B1 hS.out (by have := e2.perm.length_eq; omega) (by have := e2.perm.length_eq; omega) (hDl.app.2.app.1) (hAsc.app.2.1.app.1) hn
   have HCl := Lib.hid hcall
   have HE := Lib.hid (And.intro e1 (And.intro e2 (And.intro e3 hx)))
   clear hcall hE hS hAsc hDl e1 e2 e3 hx
   go_wp2_with fail
   rw [show (k : Int) + 20 = ((k + 20 : Nat) : Int) by omega]
   refine HCl.out.mono ?_
   rintro e' w1 ⟨rfl, Z, z1, z2, z3⟩
   have HZ := Lib.hid (show SW B w0 g n cap ((A ++ Z) ++ B1) w1 by simpa using z3)
   have HB : Hid (l = (A0 ++ X) ++ B1 ∧ Bf R 20 (A0 ++ X) (A ++ Z) ∧ (A0 ++ X).length = k + 20) := by
    obtain ⟨e1, e2, e3, hx⟩ := HE.out
    exact ⟨by rw [e1]; simp, Bf.snoc e2 hx z1 z2, by rw [List.length_append]; omega⟩
   clear HCl z1 z2 z3 HE
   go_wp2
   go_roundw
   all_goals first
    | exact ⟨k + 20, _, _, _, by omega, by go_num, by go_num, HB, HZ.out⟩
    | ((repeat apply Exists.intro); exact ⟨⟨k + 20, _, _, _, by omega, by go_num, by go_num, HB, HZ.out⟩, rfl⟩)
    | (simp [intOf] <;> omega)
  ·have hlt' : ¬ (k : Int) + 20 ≤ (n : Int) := by omega
   obtain ⟨e1, e2, e3⟩ := hE.out
   have hAsc := HL.out.2.2
   have hDl := HL.out.2.1
   have hl1 := congrArg List.length e1
   rw [List.length_append] at hl1
   rw [e1] at hAsc hDl
   have hcall := insertion_ok B w0 V g n cap k n gf cv cf D R HC.out HO.out A B0 [] (by simpa using hS.out) (by have := e2.perm.length_eq; omega) (by have := e2.perm.length_eq; have := HL.out.1; omega) (hDl.app.2) (hAsc.app.2.1) hn
   have HCl := Lib.hid hcall
   have HE := Lib.hid (And.intro e1 (And.intro e2 (And.intro e3 (show B0.length ≤ 20 by have := HL.out.1; omega))))
   clear hcall hE hS hAsc hDl e1 e2 e3 hl1
   go_wp2_with fail
   refine HCl.out.mono ?_
   rintro e' w1 ⟨rfl, Z, z1, z2, z3⟩
   have HZ := Lib.hid (show SW B w0 g n cap (A ++ Z) w1 by simpa using z3)
   have HB := Lib.hid (show Bl R 20 l (A ++ Z) by
    obtain ⟨e1, e2, e3, e4⟩ := HE.out
    rw [e1]
    exact e2.join (Bl.last e4 z1 z2))
   clear HCl z1 z2 z3 HE hlt hlt'
   go_wp2
   go_loopw [6, 7, 8, 9] (fun t _ _ _ wr => ∃ (bs : Nat) (cur : List Int), 20 ≤ bs ∧ bs ≤ 2 * n + 20 ∧ t = .int .i64 (bs : Int) ∧ Hid (Bl R bs l cur) ∧ Hid (SW B w0 g n cap cur wr)) (fun t _ _ _ _ => 2 * n + 20 - (intOf t).toNat)
   case atStart => exact ⟨20, _, Nat.le_refl _, by omega, rfl, HB.out, HZ.out⟩
   case round =>
    clear HB HZ
    obtain ⟨bs, cur, hb20, hbn, rfl, hB, hS⟩ := hrel
    obtain ⟨V, rfl⟩ : ∃ V : World, V = wr := ⟨_, rfl⟩
    by_cases hlt : bs < n
    ·have hlt' : (bs : Int) < (n : Int) := by omega
     go_wp2
     go_loopw [7, 8] (fun t u wr => ∃ (k : Nat) (A0 A B0 Bc : List Int), k ≤ n ∧ t = .int .i64 (k : Int) ∧ u = .int .i64 ((k : Int) + 2 * (bs : Int)) ∧ Hid (l = A0 ++ B0 ∧ Bf R (2 * bs) A0 A ∧ Bl R bs B0 Bc ∧ A0.length = k) ∧ Hid (SW B w0 g n cap (A ++ Bc) wr)) (fun t _ _ => n - (intOf t).toNat)
     case atStart => exact ⟨0, [], [], l, cur, by omega, rfl, by go_num, ⟨rfl, Bf.nil, hB.out, rfl⟩, hS.out⟩
     case round =>
      clear hB hS
      obtain ⟨k, A0, A, B0, Bc, hk, rfl, rfl, hE, hS⟩ := hrel
      obtain ⟨W, rfl⟩ : ∃ V : World, V = wr := ⟨_, rfl⟩
      have hl0 := congrArg List.length hE.out.1
      rw [List.length_append] at hl0
      have hBcl : Bc.length = B0.length := hE.out.2.2.1.perm.length_eq
      have hkl : k + Bc.length = n := by have := HL.out.1; have := hE.out.2.2.2; omega
      have hAl : A.length = k := by have := hE.out.2.1.perm.length_eq; have := hE.out.2.2.2; omega
      clear hl0 hBcl
      by_cases hle : k + 2 * bs ≤ n
      ·have hle' : (k : Int) + 2 * (bs : Int) ≤ (n : Int) := by omega
       obtain ⟨X1, O1, Z1, C1, o1, o2, o3, o4, o5, o6⟩ := hE.out.2.2.1.first (by omega)
       have hz1 := o4.length_eq
       have hC1 : bs ≤ C1.length := by rw [o2, List.length_append] at hkl; omega
       obtain ⟨X2, O2, Z2, C2, q1, q2, q3, q4, q5, q6⟩ := o6.first hC1
       have hz2 := q4.length_eq
       have hAsc := HL.out.2.2
       have hDl := HL.out.2.1
       rw [hE.out.1, o1, q1] at hAsc hDl
       have hS' := hS.out
       rw [o2, q2] at hS'
       have a1 := hAsc.app.2.1
       have hcall := HM.out (2 * bs) W k (k + bs) (k + 2 * bs) A Z1 Z2 C2 hS' (by omega) (by omega) (by omega) (by omega) (by omega) (by omega) (hDl.app.2.app.1.perm o4) (hDl.app.2.app.2.app.1.perm q4)
        (Bef.perm (fun x hx y hy => a1.app.2.2 x hx y (List.mem_append_left _ hy)) o4 q4) o5 q5
       have HCl := Lib.hid hcall
       have HE := Lib.hid (show l = (A0 ++ (X1 ++ X2)) ++ O2 ∧ (∀ Z, Z.Perm (Z1 ++ Z2) → Z.Pairwise R → Bf R (2 * bs) (A0 ++ (X1 ++ X2)) (A ++ Z)) ∧ Bl R bs O2 C2 ∧ (A0 ++ (X1 ++ X2)).length = k + 2 * bs from
        ⟨by rw [hE.out.1, o1, q1]; simp, fun Z p s => Bf.snoc hE.out.2.1 (by rw [List.length_append]; omega) (p.trans (List.Perm.append o4 q4)) s, q6, by rw [List.length_append, List.length_append]; have := hE.out.2.2.2; omega⟩)
       clear hcall hE hS hS' hAsc hDl a1 o1 o2 o3 o4 o5 o6 q1 q2 q3 q4 q5 q6 hz1 hz2 hC1
       go_wp2_with fail
       rw [show (k : Int) + (bs : Int) = ((k + bs : Nat) : Int) by omega, show (k : Int) + 2 * (bs : Int) = ((k + 2 * bs : Nat) : Int) by omega]
       refine HCl.out.mono ?_
       rintro e' w1 ⟨rfl, Z, z1, z2, z3⟩
       have HZ := Lib.hid (show SW B w0 g n cap ((A ++ Z) ++ C2) w1 by simpa using z3)
       have HB : Hid (l = (A0 ++ (X1 ++ X2)) ++ O2 ∧ Bf R (2 * bs) (A0 ++ (X1 ++ X2)) (A ++ Z) ∧ Bl R bs O2 C2 ∧ (A0 ++ (X1 ++ X2)).length = k + 2 * bs) := ⟨HE.out.1, HE.out.2.1 Z z1 z2, HE.out.2.2⟩
       clear HCl z1 z2 z3 HE
       go_wp2
       go_roundw
       all_goals first
        | exact ⟨k + 2 * bs, _, _, _, _, by omega, by go_num, by go_num, HB, HZ.out⟩
        | ((repeat apply Exists.intro); exact ⟨⟨k + 2 * bs, _, _, _, _, by omega, by go_num, by go_num, HB, HZ.out⟩, rfl⟩)
        | (simp [intOf] <;> omega)
      ·have hle' : ¬ (k : Int) + 2 * (bs : Int) ≤ (n : Int) := by omega
       by_cases hm : k + bs < n
       ·have hm' : (k : Int) + (bs : Int) < (n : Int) := by omega
        obtain ⟨X1, O1, Z1, C1, o1, o2, o3, o4, o5, o6⟩ := hE.out.2.2.1.first (by omega)
        have hz1 := o4.length_eq
        have hC1 : C1.length + bs + k = n := by rw [o2, List.length_append] at hkl; omega
        obtain ⟨q4, q5⟩ := o6.whole (by omega)
        have hAsc := HL.out.2.2
        have hDl := HL.out.2.1
        rw [hE.out.1, o1] at hAsc hDl
        have hS' := hS.out
        rw [o2] at hS'
        have a1 := hAsc.app.2.1
        have hcall := HM.out (2 * bs) W k (k + bs) n A Z1 C1 [] (by simpa using hS') (by omega) (by omega) (by omega) (by omega) (by omega) (by omega) (hDl.app.2.app.1.perm o4) (hDl.app.2.app.2.perm q4)
         (Bef.perm a1.app.2.2 o4 q4) o5 q5
        have HCl := Lib.hid hcall
        have HE := Lib.hid (show ∀ Z, Z.Perm (Z1 ++ C1) → Z.Pairwise R → Bl R (2 * bs) l (A ++ Z) from fun Z p s => by
         rw [hE.out.1, o1]
         exact hE.out.2.1.join (Bl.last (by rw [List.length_append]; have := q4.length_eq; omega) (p.trans (List.Perm.append o4 q4)) s))
        clear hcall hE hS hS' hAsc hDl a1 o1 o2 o3 o4 o5 o6 q4 q5 hz1 hC1
        go_wp2_with fail
        rw [show (k : Int) + (bs : Int) = ((k + bs : Nat) : Int) by omega]
        refine HCl.out.mono ?_
        rintro e' w1 ⟨rfl, Z, z1, z2, z3⟩
        have HZ := Lib.hid (show SW B w0 g n cap (A ++ Z) w1 by simpa using z3)
        have HB := Lib.hid (HE.out Z z1 z2)
        clear HCl z1 z2 z3 HE
        go_wp2
        go_roundw
        all_goals first
         | exact ⟨2 * bs, _, by omega, by omega, by go_num, HB.out, HZ.out⟩
         | ((repeat apply Exists.intro); exact ⟨⟨2 * bs, _, by omega, by omega, by go_num, HB.out, HZ.out⟩, rfl⟩)
         | (simp [intOf] <;> omega)
       ·have hm' : ¬ (k : Int) + (bs : Int) < (n : Int) := by omega
        obtain ⟨q4, q5⟩ := hE.out.2.2.1.whole (by omega)
        have HB := Lib.hid (show Bl R (2 * bs) l (A ++ Bc) by
         rw [hE.out.1]
         exact hE.out.2.1.join (Bl.last (by have := q4.length_eq; omega) q4 q5))
        clear hE q4 q5
        go_wp2
        go_roundw
        all_goals first
         | exact ⟨2 * bs, _, by omega, by omega, by go_num, HB.out, hS.out⟩
         | ((repeat apply Exists.intro); exact ⟨⟨2 * bs, _, by omega, by omega, by go_num, HB.out, hS.out⟩, rfl⟩)
         | (simp [intOf] <;> omega)
    ·have hlt' : ¬ (bs : Int) < (n : Int) := by omega
     have HF := Lib.hid (show ∃ Z, Z.Perm l ∧ Z.Pairwise R ∧ SW B w0 g n cap Z V from ⟨cur, (hB.out.whole (by have := hS.out.len; omega)).1, (hB.out.whole (by have := hS.out.len; omega)).2, hS.out⟩)
     clear hB hS
     go_wp2
     go_end0
     exact ⟨rfl, HF.out⟩
theorem sortStable_ok (B : Nat) (w0 w : World) (g n cap gf : Nat) (cv : Value) (cf : Int → Int → Int) (D : Int → Prop) (R : Int → Int → Prop) (C : Cmp gf cv cf D w0 g) (O : Ord R (fun y x => decide (cf y x < 0)) D) (l : List Int)
  (h : SW B w0 g n cap l w) (hD : Al D l) (hA : Asc l) (hn : n ≤ 70368744177664) :
  Calls Try.prog 34 #[.slice (some ⟨g, 0, none⟩) n cap, .func (.func gf) #[] #[cv]] w fun e w' => e = .returned (.tuple #[]) ∧ ∃ Z, Z.Perm l ∧ Z.Pairwise R ∧ SW B w0 g n cap Z w' := by
 have HK := Lib.hid (stable_ok B w0 w g n cap gf cv cf D R C O l h hD hA hn)
 clear h hD hA C O
 go_enter Try.func34, Try.ntmps34
 go_wp2_with fail
 refine HK.out.mono ?_
 rintro e w1 ⟨rfl, h1⟩
 have H1 := Lib.hid h1
 clear h1 HK
 go_wp2
 go_end0
 exact ⟨rfl, H1.out⟩
end Go.Proofs.Ytcflgogodgfccaa
namespace Go.Proofs.Ytcflgogodgfccaa
open Go Go.RowKit Go.Wr Go.Fl Go.Ht
set_option maxHeartbeats 4000000
set_option maxRecDepth 100000
def kOf (l : List Nat) (x : Int) : Int := ky (l.getD x.toNat 0)
theorem top_cmp (w : World) (p bx : Nat) (la : Option Addr) (lc : Nat) (l : List Nat) (h : SlX tF p w (.slice la l.length lc) l) (hb : w.cell? ⟨bx, 0, none⟩ = some (.slice la l.length lc)) (x y : Int) (hx : 0 ≤ x ∧ x < l.length) (hy : 0 ≤ y ∧ y < l.length) :
  Calls Try.prog 35 #[.int .i64 x, .int .i64 y, .pointer (some ⟨bx, 0, none⟩)] w fun e w' => e = .returned (.int .i64 (cmpK (kOf l x) (kOf l y))) ∧ ∃ m, w' = w.drewN m := by
 obtain ⟨i, rfl⟩ := Int.eq_ofNat_of_zero_le hx.1
 obtain ⟨j, rfl⟩ := Int.eq_ofNat_of_zero_le hy.1
 obtain ⟨a, ha⟩ : ∃ a, l[i]? = some a := ⟨_, List.getElem?_eq_getElem (by omega)⟩
 obtain ⟨b, hb'⟩ : ∃ a, l[j]? = some a := ⟨_, List.getElem?_eq_getElem (by omega)⟩
 have ea : kOf l (i : Int) = ky a := by unfold kOf; rw [Int.toNat_natCast, List.getD_eq_getElem?_getD, ha]; rfl
 have eb : kOf l (j : Int) = ky b := by unfold kOf; rw [Int.toNat_natCast, List.getD_eq_getElem?_getD, hb']; rfl
 rw [ea, eb]
 obtain ⟨b1, o1, e1, _, _, c1⟩ := SlX.flo h ha
 obtain ⟨b2, o2, e2, _, _, c2⟩ := SlX.flo h hb'
 rw [e1] at e2
 injection e2 with e2
 injection e2 with e21 e22
 subst e21 e22 e1
 have t1 := top_first a b
 have t2 := top_first b a
 have hin : (i : Int) < (l.length : Int) := by omega
 have hjn : (j : Int) < (l.length : Int) := by omega
 obtain ⟨K1, hK1⟩ : ∃ x, x = ky a := ⟨_, rfl⟩
 obtain ⟨K2, hK2⟩ : ∃ x, x = ky b := ⟨_, rfl⟩
 rw [← hK1, ← hK2] at t1 t2
 rw [← hK1, ← hK2]
 have hcv : cmpK K1 K2 = if decide (K2 < K1) = true then -1 else if decide (K1 < K2) = true then 1 else 0 := by unfold cmpK; simp
 rw [← t1, ← t2] at hcv
 clear ha hb' ea eb t1 t2 hK1 hK2 h hx hy
 obtain ⟨C, hC⟩ : ∃ c, c = cmpK K1 K2 := ⟨_, rfl⟩
 rw [← hC] at hcv ⊢
 clear hC
 go_enter Try.func35, Try.ntmps35
 go_wp2_with fail
 go_quiet (fail)
 generalize hg1 : (Ieee.double.order a b == some .gt) = g1 at hcv
 generalize hg2 : (Ieee.double.order b a == some .gt) = g2 at hcv
 generalize hs1 : (Ieee.double.order a a == some .eq) = s1 at hcv
 generalize hs2 : (Ieee.double.order b b == some .eq) = s2 at hcv
 have hs1' : (Ieee.double.order a a != some .eq) = !s1 := by rw [← hs1]; rfl
 have hs2' : (Ieee.double.order b b != some .eq) = !s2 := by rw [← hs2]; rfl
 change (FloatKind.f64.format.order a b == some .gt) = g1 at hg1
 change (FloatKind.f64.format.order b a == some .gt) = g2 at hg2
 change (FloatKind.f64.format.order a a == some .eq) = s1 at hs1
 change (FloatKind.f64.format.order b b == some .eq) = s2 at hs2
 change (FloatKind.f64.format.order a a != some .eq) = !s1 at hs1'
 change (FloatKind.f64.format.order b b != some .eq) = !s2 at hs2'
 cases g1 <;> cases g2 <;> cases s1 <;> cases s2 <;> simp only [Bool.not_true, Bool.not_false, Bool.and_false, Bool.and_true, Bool.or_false, Bool.or_true, Bool.or_self, Bool.and_self, if_true, if_false, Bool.false_eq_true] at hcv hs1' hs2' <;> subst hcv
 all_goals
  go_wp2_with fail
  go_ret
  exact ⟨rfl, _, rfl⟩
theorem call_enter {f : Nat} {fn : Func} (hf : Try.prog.funcs[f]? = some fn) (hname : (fn.name == "runtime.NumGoroutine") = false) (hb : fn.body.isSome = true) (args : Array Value) (w : World) : (callFunc f args).run Try.prog w = .ok (.enter f args) w := by
 have h1 : ¬ fn.name = "runtime.NumGoroutine" := by simpa using hname
 have h2 : ¬ fn.body = none := fun e => by rw [e] at hb; cases hb
 simp [callFunc, hf, h1, h2]
def cutN (n : Int) (len : Nat) : Nat := (min n (len : Int)).toNat
def flI (n i : Nat) : List Int := (List.range n).map fun x : Nat => if x < i then (x : Int) else 0
theorem flI_len (n i : Nat) : (flI n i).length = n := by simp [flI]
theorem flI_get {n i k : Nat} (h : k < n) : (flI n i)[k]? = some (if k < i then (k : Int) else 0) := by unfold flI; rw [List.getElem?_map, List.getElem?_range h]; rfl
theorem flI_zero (n : Nat) : flI n 0 = List.replicate n 0 := by
 apply List.ext_getElem?
 intro k
 by_cases h : k < n
 ·rw [flI_get h, List.getElem?_replicate, if_pos h, if_neg (by omega)]
 ·rw [List.getElem?_eq_none (by rw [flI_len]; omega), List.getElem?_eq_none (by simp; omega)]
theorem flI_all (n : Nat) : flI n n = iot n := by
 unfold flI iot
 apply List.map_congr_left
 intro x hx
 rw [if_pos (by simpa using hx)]
theorem flI_set {n i : Nat} (hi : i < n) : (flI n i).set i (i : Int) = flI n (i + 1) := by
 apply List.ext_getElem?
 intro x
 rw [List.getElem?_set, flI_len]
 by_cases hx : x < n
 ·rw [flI_get hx, flI_get hx]
  by_cases e : i = x
  ·subst e
   rw [if_pos rfl, if_pos hx, if_pos (by omega)]
  ·rw [if_neg e]
   by_cases h : x < i
   ·rw [if_pos h, if_pos (by omega)]
   ·rw [if_neg h, if_neg (by omega)]
 ·rw [if_neg (by omega), List.getElem?_eq_none (by rw [flI_len]; omega), List.getElem?_eq_none (by rw [flI_len]; omega)]
theorem htop_ok (w : World) (q : Nat) (v : Value) (l : List Nat) (n : Int) (h : SlX tF q w v l) (hl : l.length ≤ 1099511627776) : Calls Try.prog 18 #[v, .int .i64 n] w fun e w' => Below w.heap.size w w' ∧ ∃ (v' : Value) (Z : List Int), e = .returned v' ∧ Z.Perm (iot l.length) ∧ Z.Pairwise (Ht.Rk (kOf l)) ∧ OwR tI w.heap.size w' v' (Z.take (cutN n l.length)) := by
 obtain ⟨a0, cap, rfl, h1, h2⟩ := h.form
 have H := Lib.hid h
 unfold maxLen at h2
 clear h
 go_enter Try.func18, Try.ntmps18
 go_upto_region 1 with (fail)
 obtain ⟨bx, hbx⟩ : ∃ x, x = w.heap.size := ⟨_, rfl⟩
 have hc0 : (w.alloc (.cells #[.slice a0 l.length cap] 32)).cell? ⟨bx, 0, none⟩ = some (.slice a0 l.length cap) := by rw [hbx]; exact (Blk.new w 32 #[.slice a0 l.length cap]).cell 0
 have hb0 : Below w.heap.size w (w.alloc (.cells #[.slice a0 l.length cap] 32)) := bAl (bRefl w) _
 have hz0 : (w.alloc (.cells #[.slice a0 l.length cap] 32)).heap.size = bx + 1 := by rw [hbx]; simp
 rw [← hbx]
 have HBX := Lib.hid hbx
 clear hbx
 generalize w.alloc (.cells #[.slice a0 l.length cap] 32) = w1 at hc0 hb0 hz0 ⊢
 have HB0 := Lib.hid hb0
 have HZ0 := Lib.hid hz0
 clear hb0 hz0
 go_upto_region 2 with (refine wpl_make tI 0 rfl rfl (.tmp 8) (.tmp 8) rfl .i64 .i64 _ _ l.length rfl rfl rfl rfl (by show 8 * _ ≤ _; omega) (by unfold maxLen; omega) ?_; intro w2 how hbw hsw)
 have hgl : w1.heap.size = bx + 1 := HZ0.out
 obtain ⟨g, hg⟩ : ∃ x, x = w1.heap.size := ⟨_, rfl⟩
 rw [← hg] at how hbw ⊢
 have hc2 : w2.cell? ⟨bx, 0, none⟩ = some (.slice a0 l.length cap) := (hbw.cell (by show bx < g; omega)).trans hc0
 have hb2 : Below w.heap.size w w2 := bThen HB0.out (by rw [← hg]; exact hbw)
 have hgw : w.heap.size ≤ g := by have := HB0.out.size; omega
 have hsl : SlX tF g w2 (.slice a0 l.length cap) l := (SlX.re H.out hgw).below hb2
 have hS0 : SW w.heap.size w2 g l.length l.length (flI l.length 0) w2 := ⟨Ex.refl _ _, by rw [flI_zero]; exact how.mono hgw⟩
 have hgb : bx ≠ g := by omega
 have hbx2 : bx < w2.heap.size := by have := hbw.size; omega
 have HK := Lib.hid (show Cmp 35 (.pointer (some ⟨bx, 0, none⟩)) (fun x y => cmpK (kOf l x) (kOf l y)) (fun x => 0 ≤ x ∧ x < l.length) w2 g from
  ⟨fun args w => call_enter Try.func35 (by kernel_rfl) (by kernel_rfl) args w, fun x y w' hx hy hex => top_cmp w' g bx a0 cap l (hsl.ex hex) ((World.cell?_of_block (hex.block bx hbx2 hgb)).trans hc2) x y hx hy⟩)
 have HO := Lib.hid (show Ht.Ord (Ht.Rk (kOf l)) (fun y x => decide (cmpK (kOf l y) (kOf l x) < 0)) (fun x => 0 ≤ x ∧ x < (l.length : Int)) from
  ⟨fun _ _ _ h1 h2 => (rk_ord (kOf l)).tr trivial trivial trivial h1 h2, fun _ _ h1 h2 => (rk_ord (kOf l)).yes trivial trivial h1 h2, fun _ _ h1 h2 => (rk_ord (kOf l)).no trivial trivial h1 h2⟩)
 have HS0 := Lib.hid hS0
 have HB2 := Lib.hid (And.intro hb2 hgw)
 clear how hbw hsw hgl hg hc0 hc2 hb2 hgw hsl hS0 hgb hbx2 HZ0 HB0 HBX
 go_wp2
 go_loopw [6, 12] (fun _ u wr => ∃ (i : Nat), i ≤ l.length ∧ u = .int .i64 (i : Int) ∧ Hid (SW w.heap.size w2 g l.length l.length (flI l.length i) wr)) (fun _ u _ => l.length - (intOf u).toNat)
 case atStart => exact ⟨0, by omega, rfl, HS0.out⟩
 case round =>
  clear HS0
  obtain ⟨i, hi, rfl, hS⟩ := hrel
  obtain ⟨V, rfl⟩ : ∃ V : World, V = wr := ⟨_, rfl⟩
  by_cases hlt : i < l.length
  ·have hlt' : (i : Int) < (l.length : Int) := by omega
   have c1 := hS.out.cell (flI_get (i := i) hlt)
   have f1 := hS.out.frozen i
   have hS2 := hS.out.set (k := i) (x := (i : Int)) (by rw [flI_len]; exact hlt)
   rw [flI_set hlt] at hS2
   have HS2 := Lib.hid hS2
   clear hS hS2
   go_wp2
   go_roundw
   all_goals first
    | exact ⟨i + 1, by omega, by go_num, HS2.out⟩
    | ((repeat apply Exists.intro); exact ⟨⟨i + 1, by omega, by go_num, HS2.out⟩, rfl⟩)
    | (simp [intOf] <;> omega)
  ·have hil : i = l.length := by omega
   have hS' := hS.out
   rw [hil, flI_all] at hS'
   have hcall := sortStable_ok w.heap.size w2 V g l.length l.length 35 _ _ _ (Ht.Rk (kOf l)) HK.out HO.out (iot l.length) hS' (fun x hx => iot_mem.1 hx) (iot_asc _) (by omega)
   have HCl := Lib.hid hcall
   obtain rfl := hil
   clear hS' hcall hS hlt
   go_wp2_with fail
   refine HCl.out.mono ?_
   rintro e' w5 ⟨rfl, Z, z1, z2, z3⟩
   have hZl : Z.length = l.length := by rw [z1.length_eq, iot_len]
   have HZ := Lib.hid (And.intro z1 (And.intro z2 (And.intro z3 hZl)))
   have HBB := Lib.hid (show Below w.heap.size w w5 from HB2.out.1.trans (z3.ex.below (B := w.heap.size) HB2.out.2 (HB2.out.1.size)))
   clear HCl z1 z2 z3 hZl HK HO
   have fine : ∀ k, k ≤ l.length → cutN n l.length = k → OwR tI w.heap.size w5 (.slice (some ⟨g, 0, none⟩) k l.length) (Z.take (cutN n l.length)) := fun k hk e => by
    rw [e]
    exact HZ.out.2.2.1.ow.take (by rw [HZ.out.2.2.2]; exact hk)
   have HFI := Lib.hid fine
   clear fine
   have HR := Lib.hid (HFI.out (max 0 (min n (l.length : Int))).toNat (by omega) (by unfold cutN; omega))
   go_wp2
   go_ret
   exact ⟨HBB.out, _, Z, rfl, HZ.out.1, HZ.out.2.1, HR.out⟩
end Go.Proofs.Ytcflgogodgfccaa
namespace Go.Proofs.Ytcflgogodgfccaa
open Go Go.RowKit Go.Wr Go.Fl Go.Ht
set_option maxHeartbeats 4000000
set_option maxRecDepth 100000
def tCm : RT Try.prog (Nat × Nat) := ⟨92, 90, 2, 16, .agg #[.int .i64 0, .int .i64 0], fun x => [.int .i64 (x.1 : Int), .int .i64 (x.2 : Int)], fun _ => rfl, fun _ => oneSimp rfl, by kernel_rfl, by kernel_rfl, by decide, by decide⟩
def tCC : RT Try.prog Sv := ⟨90, 67, 1, 24, .slice none 0 0, fun s => [s.v], fun _ => rfl, fun _ => oneSimp rfl, by kernel_rfl, by kernel_rfl, by decide, by decide⟩
structure Wk (l : List In) (p pw g : Nat) (wa : World) (vb vl vo vi va vn vh vt : Value) (w : World) : Prop where
 g7 : G7 l
 fin : FinP l p wa
 bd : Bd p wa vb (dB l)
 ld : Ld p wa vl (dL l)
 ro : SlX tI p wa vo (nI (ordL l))
 bel : Below wa.heap.size wa w
 blk : Blk w pw 69 #[.pointer (some ⟨p, 0, none⟩), vb, vl, vi, vo, va, vn, vh, vt]
 pg : pw ≠ g
 gz : wa.heap.size ≤ g
 inr : ∃ rs : List Sv, SlX tBB g w vi rs ∧ rs.length = nL l ∧ ∀ (i : Nat) (s : Sv), rs[i]? = some s → SlX tB g w s.v ((List.range (nB l)).map (inB l i))
 inn : SlX tI g w vn ((List.range (nB l)).map fun b => inn l b (nL l))
 hdd : SlX tI g w vh ((List.range (nB l)).map fun b => hdd l b (nL l))
 ah : ∃ cs : List Sv, SlX tCC g w va cs ∧ cs.length = nB l ∧ ∀ (b : Nat) (s : Sv), cs[b]? = some s → SlX tCm g w s.v (egs l b (nB l))
section
variable {l : List In} {p pw g : Nat} {wa : World} {vb vl vo vi va vn vh vt : Value} {w w' : World}
theorem Wk.ex (h : Wk l p pw g wa vb vl vo vi va vn vh vt w) (x : Ex g w w') : Wk l p pw g wa vb vl vo vi va vn vh vt w' := by
 refine ⟨h.g7, h.fin, h.bd, h.ld, h.ro, h.bel.trans (x.below h.gz h.bel.size), x.blk h.blk h.pg, h.pg, h.gz, ?_, h.inn.ex x, h.hdd.ex x, ?_⟩
 ·obtain ⟨rs, h1, h2, h3⟩ := h.inr
  exact ⟨rs, h1.ex x, h2, fun i s hs => (h3 i s hs).ex x⟩
 ·obtain ⟨cs, h1, h2, h3⟩ := h.ah
  exact ⟨cs, h1.ex x, h2, fun i s hs => (h3 i s hs).ex x⟩
theorem Wk.below (h : Wk l p pw g wa vb vl vo vi va vn vh vt w) (b : Below w.heap.size w w') : Wk l p pw g wa vb vl vo vi va vn vh vt w' := h.ex (Ex.of_below b)
theorem Wk.finw (h : Wk l p pw g wa vb vl vo vi va vn vh vt w) : FinP l p w := h.fin.below h.bel
theorem back19_ok (h : Wk l p pw g wa vb vl vo vi va vn vh vt w) (a b : Nat) : Calls Try.prog 49 #[.pointer (some ⟨pw, 0, none⟩), .int .i64 (a : Int), .int .i64 (b : Int)] w fun e w' => e = .returned (.bool (dm l b a)) ∧ ∃ k, w' = w.drewN k := by
 have c0 : w.cell? ⟨pw, 0, none⟩ = some (.pointer (some ⟨p, 0, none⟩)) := h.blk.cell 0
 have HF := Lib.hid h.finw
 clear h
 go_enter Try.func49, Try.ntmps49
 go_wp2_with fail
 refine (HF.out.dom (b : Int) (a : Int)).mono ?_
 rintro e w1 ⟨rfl, k, rfl⟩
 obtain ⟨d, hd⟩ : ∃ d, d = domB (nxt l) (nB l) (b : Int) (a : Int) := ⟨_, rfl⟩
 have HD := Lib.hid (show dm l b a = d from hd.symm)
 rw [← hd]
 clear hd
 go_wp2
 go_ret
 exact ⟨by rw [HD.out]; rfl, k, rfl⟩
theorem holds19_ok (h : Wk l p pw g wa vb vl vo vi va vn vh vt w) (loop : Int) (b : Nat) (hl : loop < (nL l : Int)) (hb : b < nB l) : Calls Try.prog 47 #[.pointer (some ⟨pw, 0, none⟩), .int .i64 loop, .int .i64 (b : Int)] w fun e w' => e = .returned (.bool (hol l loop b)) ∧ w' = w := by
 have c3 : w.cell? ⟨pw, 3, none⟩ = some vi := h.blk.cell 3
 obtain ⟨rs, h1, h2, h3⟩ := h.inr
 have h512 := h.g7.n512
 have h8 : nL l ≤ 8 := h.g7.hd8
 by_cases hneg : loop < 0
 ·have HV := Lib.hid (show hol l loop b = true by unfold hol; rw [decide_eq_true hneg]; rfl)
  clear h h1 h2 h3
  go_enter Try.func47, Try.ntmps47
  go_wp2
  go_ret
  exact ⟨by rw [HV.out]; rfl, rfl⟩
 ·obtain ⟨t, rfl⟩ := Int.eq_ofNat_of_zero_le (show 0 ≤ loop by omega)
  have htn : t < nL l := by omega
  have HV := Lib.hid (show hol l (t : Int) b = inB l t b by unfold hol; rw [decide_eq_false (by omega), Bool.false_or, Int.toNat_natCast])
  obtain ⟨vic, vcap, rfl, v1, v2⟩ := h1.form
  rw [h2] at c3
  obtain ⟨s, hs⟩ : ∃ s, rs[t]? = some s := ⟨_, List.getElem?_eq_getElem (by rw [h2]; exact htn)⟩
  have hrow := h3 t s hs
  obtain ⟨gb, ob, e1, -, hat⟩ := h1.get hs
  subst e1
  have c4 := hat.cell 0 _ rfl
  obtain ⟨sa, sn, sc⟩ := s
  have hlen := SlX.len hrow
  rw [List.length_map, List.length_range] at hlen
  subst hlen
  have e2 : ob + t * tBB.n + 0 = ob + t := by show ob + t * 1 + 0 = _; omega
  rw [e2] at c4
  have c4' : w.cell? ⟨gb, ob + t, none⟩ = some (.slice sa (nB l) sc) := c4
  clear c4
  obtain ⟨b', o', rfl, -, -, c5⟩ := SlX.bool hrow (k := b) (x := inB l t b) (by rw [List.getElem?_map, List.getElem?_range hb]; rfl)
  obtain ⟨d, hd⟩ : ∃ d, d = inB l t b := ⟨_, rfl⟩
  rw [← hd] at c5
  have HD := Lib.hid hd
  have hti : (t : Int) < (nL l : Int) := by omega
  have hbi : (b : Int) < (nB l : Int) := by omega
  clear h h1 h2 h3 hs hrow hat hd e2
  go_enter Try.func47, Try.ntmps47
  go_wp2
  go_ret
  exact ⟨by rw [HV.out, ← HD.out]; rfl, rfl⟩
end
end Go.Proofs.Ytcflgogodgfccaa
namespace Go.Proofs.Ytcflgogodgfccaa
open Go Go.RowKit Go.Wr Go.Fl Go.Ht
set_option maxHeartbeats 4000000
set_option maxRecDepth 100000
theorem Wk.inAt {l : List In} {p pw g : Nat} {wa : World} {vb vl vo vi va vn vh vt : Value} {w : World} (h : Wk l p pw g wa vb vl vo vi va vn vh vt w) {t : Nat} (ht : t < nL l) : ∃ gi oi vic sa sc, vi = .slice (some ⟨gi, oi, none⟩) (nL l) vic ∧ w.cell? ⟨gi, oi + t, none⟩ = some (.slice sa (nB l) sc) ∧ ∀ b, b < nB l → ∃ g' o', sa = some ⟨g', o', none⟩ ∧ w.cell? ⟨g', o' + b, none⟩ = some (.bool (inB l t b)) := by
 obtain ⟨rs, h1, h2, h3⟩ := h.inr
 obtain ⟨via, vcap, e, v1, v2⟩ := h1.form
 rw [h2] at e
 subst e
 obtain ⟨s, hs⟩ : ∃ s, rs[t]? = some s := ⟨_, List.getElem?_eq_getElem (by rw [h2]; exact ht)⟩
 have hrow := h3 t s hs
 have h1' : SlX tBB g w (.slice via rs.length vcap) rs := by rw [h2]; exact h1
 obtain ⟨gb, ob, e1, -, hat⟩ := h1'.get hs
 subst e1
 have c4 := hat.cell 0 _ rfl
 obtain ⟨sa, sn, sc⟩ := s
 have hlen := SlX.len hrow
 rw [List.length_map, List.length_range] at hlen
 subst hlen
 have e2 : ob + t * tBB.n + 0 = ob + t := by show ob + t * 1 + 0 = _; omega
 rw [e2] at c4
 refine ⟨gb, ob, vcap, sa, sc, rfl, c4, fun b hb => ?_⟩
 obtain ⟨b', o', e3, _, _, c5⟩ := SlX.bool hrow (k := b) (x := inB l t b) (by rw [List.getElem?_map, List.getElem?_range hb]; rfl)
 exact ⟨b', o', e3, c5⟩
theorem wchance_ok {l : List In} {p pw g : Nat} {wa : World} {vb vl vo vi va vn vh vt : Value} {w : World} (h : Wk l p pw g wa vb vl vo vi va vn vh vt w) (b k : Nat) (hb : b < nB l) (hk : k < (nxt l b).length) : Calls Try.prog 25 #[.pointer (some ⟨pw, 0, none⟩), .int .i64 (b : Int), .int .i64 (k : Int)] w fun e w' => e = .returned (.float .f64 (chn l b k)) ∧ ∃ m, w' = w.drewN m := by
 have HK := Lib.hid h
 have h512 := h.g7.n512
 have h8 : nL l ≤ 8 := h.g7.hd8
 have hbd := h.bd.below h.bel
 obtain ⟨ab, cb, rfl, hcb1, hcb2⟩ := hbd.form
 rw [dB_len] at hbd hcb1
 have c1 : w.cell? ⟨pw, 1, none⟩ = some (.slice ab (nB l) cb) := by have := h.blk.cell 1; rw [dB_len] at this; exact this
 have c6 : w.cell? ⟨pw, 6, none⟩ = some vn := h.blk.cell 6
 have c3 : w.cell? ⟨pw, 3, none⟩ = some vi := h.blk.cell 3
 obtain ⟨gb, ob, na, nn, nc, rfl, cn, hnn, hsn⟩ := hbd.next hb
 obtain ⟨C, hC⟩ : ∃ c, c = chn l b k := ⟨_, rfl⟩
 rw [← hC]
 have h2 := nxt_two l b
 have hbi : (b : Int) < (nB l : Int) := by omega
 have hkn : k < nn := by rw [hnn]; exact hk
 have hn2 : nn ≤ 2 := by rw [hnn]; exact h2
 by_cases h1 : nn = 1
 ·have hCv : C = one := by rw [hC]; unfold chn; rw [if_pos (by rw [← hnn]; exact h1)]
  subst h1 hCv
  clear hC hnn hsn h hb hk h2 hkn hn2 hbd c6 c3
  go_enter Try.func25, Try.ntmps25
  go_wp2
  go_ret
  exact ⟨rfl, 0, rfl⟩
 ·have hnn2 : nn = 2 := by omega
  have hCv : C = chT l b k ((nxt l b).getD k 0) ((nxt l b).getD (1 - k) 0) := by rw [hC]; unfold chn; rw [if_neg (by rw [← hnn]; exact h1)]
  subst hnn2
  obtain ⟨j, hj⟩ : ∃ j, j = 1 - k := ⟨_, rfl⟩
  have hjl : j < (nxt l b).length := by omega
  have ej : (1 : Int) - (k : Int) = (j : Int) := by omega
  rw [← hj] at hCv
  obtain ⟨x, hx⟩ : ∃ x, x = (nxt l b).getD k 0 := ⟨_, rfl⟩
  obtain ⟨y, hy⟩ : ∃ x, x = (nxt l b).getD j 0 := ⟨_, rfl⟩
  have hxn : x < nB l := by rw [hx]; exact nx_lt h.g7 hb hk
  have hyn : y < nB l := by rw [hy]; exact nx_lt h.g7 hb hjl
  obtain ⟨gn, on, rfl, -, -, cx⟩ := SlX.int hsn (nI_at hk)
  obtain ⟨gn', on', e1, -, -, cy⟩ := SlX.int hsn (nI_at hjl)
  injection e1 with e1
  injection e1 with e11 e12
  subst e11 e12
  rw [← hx] at cx hCv
  rw [← hy] at cy hCv
  have HC := Lib.hid hCv
  have HXY := Lib.hid (And.intro hxn (And.intro hyn hb))
  have hki : (k : Int) < 2 := by omega
  have hji : (j : Int) < 2 := by omega
  have hxi : (x : Int) < (nB l : Int) := by omega
  have hyi : (y : Int) < (nB l : Int) := by omega
  -- the innermost loop's number
  obtain ⟨nva, nvc, rfl, nv1, nv2⟩ := h.inn.form
  rw [List.length_map, List.length_range] at nv1
  have c6' : w.cell? ⟨pw, 6, none⟩ = some (.slice nva (nB l) nvc) := by have := c6; rw [List.length_map, List.length_range] at this; exact this
  obtain ⟨gi, oi, rfl, -, -, cinn⟩ := SlX.int h.inn (k := b) (x := inn l b (nL l)) (by rw [List.getElem?_map, List.getElem?_range hb]; rfl)
  have HCells := Lib.hid (And.intro c6' (And.intro cinn c3))
  clear hC hnn hsn h hb hk h2 hkn hn2 h1 hj hjl hx hy hxn hyn hCv hbd c6 c6' cinn c3 nv1 nv2
  go_enter Try.func25, Try.ntmps25
  go_wp2_with fail
  go_quiet (fail)
  clear cx cy c1 cn
  obtain ⟨w1, hw1⟩ : ∃ v, v = w.drewN nq := ⟨_, rfl⟩
  rw [← hw1]
  have HW1 := Lib.hid (show ∃ m, w1 = w.drewN m from ⟨nq, hw1⟩)
  have HK1 := Lib.hid (show Wk l p pw g wa _ vl vo vi va _ vh vt w1 by rw [hw1]; exact HK.out.below (bDrewN (bRefl w) nq))
  clear hw1
  obtain ⟨p1, hp1⟩ : ∃ v, v = dm l x b := ⟨_, rfl⟩
  obtain ⟨p2, hp2⟩ : ∃ v, v = dm l y b := ⟨_, rfl⟩
  have HX := Lib.hid (And.intro hp1 hp2)
  clear hp1 hp2
  go_wp2_with fail
  refine (back19_ok HK1.out b x).mono ?_
  rintro e w2 ⟨rfl, m2, hw2⟩
  rw [← HX.out.1]
  have HW2 := Lib.hid (show ∃ m, w2 = w.drewN m by obtain ⟨m, hm⟩ := HW1.out; exact ⟨m + m2, by rw [hw2, hm, World.drewN_drewN]⟩)
  have HK2 := Lib.hid (HK1.out.below (by rw [hw2]; exact bDrewN (bRefl w1) m2) : Wk l p pw g wa _ vl vo vi va _ vh vt w2)
  clear hw2 HW1 HK1
  go_wp2_with fail
  refine (back19_ok HK2.out b y).mono ?_
  rintro e w3 ⟨rfl, m3, hw3⟩
  rw [← HX.out.2]
  have HW3 := Lib.hid (show ∃ m, w3 = w.drewN m by obtain ⟨m, hm⟩ := HW2.out; exact ⟨m + m3, by rw [hw3, hm, World.drewN_drewN]⟩)
  clear hw3 HW2 HK2
  cases p1 <;> cases p2
  ·have hdm : dm l x b = dm l y b := HX.out.1.symm.trans HX.out.2
   have HD := Lib.hid hdm
   clear hdm HX
   obtain ⟨z, hz⟩ : ∃ z, z = inn l b (nL l) := ⟨_, rfl⟩
   have HZ := Lib.hid hz.symm
   have hz1 : -1 ≤ z := by rw [hz]; exact (@inn_is l b (nL l)).1
   have hz2 : z < (nL l : Int) := by rw [hz]; exact (@inn_is l b (nL l)).2
   obtain ⟨m4, hm4⟩ := HW3.out
   have c6 := HCells.out.1
   have ci := HCells.out.2.1
   have c3 := HCells.out.2.2
   rw [← hz] at ci
   have c63 : w3.cell? ⟨pw, 6, none⟩ = some (.slice (some ⟨gi, oi, none⟩) (nB l) nvc) := by rw [hm4]; exact c6
   have ci3 : w3.cell? ⟨gi, oi + b, none⟩ = some (.int .i64 z) := by rw [hm4]; exact ci
   have c33 : w3.cell? ⟨pw, 3, none⟩ = some vi := by rw [hm4]; exact c3
   have HM4 := Lib.hid hm4
   clear hz c6 ci c3 hm4
   by_cases hz0 : z < 0
   ·have hzn : ¬ (0 ≤ z) := by omega
    have hzd : decide (z ≥ 0) = false := decide_eq_false (by omega)
    have HV := Lib.hid (HC.out.trans (chT_n HD.out (by rw [HZ.out]; exact hz0)))
    clear HC HZ HD
    by_cases hk0 : k = 0
    ·have hkb : ((k : Int) == 0) = true := by rw [hk0]; rfl
     have HV2 := Lib.hid (show C = c38 by rw [HV.out, if_pos hk0])
     clear HV hk0
     go_wp2
     go_ret
     exact ⟨by rw [HV2.out]; rfl, HW3.out⟩
    ·have hkv : (k : Int) ≠ 0 := by omega
     have hkb : ((k : Int) == 0) = false := beq_eq_false_iff_ne.2 hkv
     have HV2 := Lib.hid (show C = c58 by rw [HV.out, if_neg hk0])
     clear HV
     go_wp2
     go_ret
     exact ⟨by rw [HV2.out]; rfl, HW3.out⟩
   ·obtain ⟨t, rfl⟩ := Int.eq_ofNat_of_zero_le (show 0 ≤ z by omega)
    have htm : t < nL l := by omega
    obtain ⟨g2, o2, vic, sa, sc, rfl, cv, hrow⟩ := HK.out.inAt htm
    obtain ⟨g3, o3, rfl, cr1⟩ := hrow x HXY.out.1
    obtain ⟨g4, o4, e4, cr2⟩ := hrow y HXY.out.2.1
    injection e4 with e4
    injection e4 with e41 e42
    subst e41 e42
    obtain ⟨i1, hi1⟩ : ∃ v, v = inB l t x := ⟨_, rfl⟩
    obtain ⟨i2, hi2⟩ : ∃ v, v = inB l t y := ⟨_, rfl⟩
    rw [← hi1] at cr1
    rw [← hi2] at cr2
    have cv3 : w3.cell? ⟨g2, o2 + t, none⟩ = some (.slice (some ⟨g3, o3, none⟩) (nB l) sc) := by rw [HM4.out]; exact cv
    have cr13 : w3.cell? ⟨g3, o3 + x, none⟩ = some (.bool i1) := by rw [HM4.out]; exact cr1
    have cr23 : w3.cell? ⟨g3, o3 + y, none⟩ = some (.bool i2) := by rw [HM4.out]; exact cr2
    have hti : (t : Int) < (nL l : Int) := by omega
    have hz3 : (0 : Int) ≤ (t : Int) := by omega
    have hsame : i1 = i2 → C = if k = 0 then c38 else c58 := fun e => HC.out.trans (chT_s HD.out HZ.out (hi1.symm.trans (e.trans hi2)))
    have HSame := Lib.hid hsame
    have HI := Lib.hid (And.intro hi1 hi2)
    clear cv cr1 cr2 hrow hi1 hi2 hsame hz0
    go_wp2_with fail
    go_quiet (fail)
    have HW5 := Lib.hid (show ∃ m, w3.drewN nq = w.drewN m from ⟨m4 + nq, by rw [HM4.out, World.drewN_drewN]⟩)
    clear c63 ci3 c33 cv3 cr13 cr23
    generalize w3.drewN nq = w5 at HW5 ⊢
    cases i1 <;> cases i2
    ·by_cases hk0 : k = 0
     ·have hkb : ((k : Int) == 0) = true := by rw [hk0]; rfl
      have HV2 := Lib.hid (show C = c38 by rw [HSame.out rfl, if_pos hk0])
      clear hk0
      go_wp2
      go_ret
      exact ⟨by rw [HV2.out]; rfl, HW5.out⟩
     ·have hkv : (k : Int) ≠ 0 := by omega
      have hkb : ((k : Int) == 0) = false := beq_eq_false_iff_ne.2 hkv
      have HV2 := Lib.hid (show C = c58 by rw [HSame.out rfl, if_neg hk0])
      go_wp2
      go_ret
      exact ⟨by rw [HV2.out]; rfl, HW5.out⟩
    ·have HV := Lib.hid (HC.out.trans (chT_i2 HD.out HZ.out HI.out.1.symm HI.out.2.symm))
     go_wp2
     go_ret
     exact ⟨by rw [HV.out]; rfl, HW5.out⟩
    ·have HV := Lib.hid (HC.out.trans (chT_i1 HD.out HZ.out HI.out.1.symm HI.out.2.symm))
     go_wp2
     go_ret
     exact ⟨by rw [HV.out]; rfl, HW5.out⟩
    ·by_cases hk0 : k = 0
     ·have hkb : ((k : Int) == 0) = true := by rw [hk0]; rfl
      have HV2 := Lib.hid (show C = c38 by rw [HSame.out rfl, if_pos hk0])
      clear hk0
      go_wp2
      go_ret
      exact ⟨by rw [HV2.out]; rfl, HW5.out⟩
     ·have hkv : (k : Int) ≠ 0 := by omega
      have hkb : ((k : Int) == 0) = false := beq_eq_false_iff_ne.2 hkv
      have HV2 := Lib.hid (show C = c58 by rw [HSame.out rfl, if_neg hk0])
      go_wp2
      go_ret
      exact ⟨by rw [HV2.out]; rfl, HW5.out⟩
  ·have HV := Lib.hid (HC.out.trans (chT_d2 HX.out.1.symm HX.out.2.symm))
   go_wp2
   go_ret
   exact ⟨by rw [HV.out]; rfl, HW3.out⟩
  ·have HV := Lib.hid (HC.out.trans (chT_d1 HX.out.1.symm HX.out.2.symm))
   go_wp2
   go_ret
   exact ⟨by rw [HV.out]; rfl, HW3.out⟩
  ·have hdm : dm l x b = dm l y b := HX.out.1.symm.trans HX.out.2
   have HD := Lib.hid hdm
   clear hdm HX
   obtain ⟨z, hz⟩ : ∃ z, z = inn l b (nL l) := ⟨_, rfl⟩
   have HZ := Lib.hid hz.symm
   have hz1 : -1 ≤ z := by rw [hz]; exact (@inn_is l b (nL l)).1
   have hz2 : z < (nL l : Int) := by rw [hz]; exact (@inn_is l b (nL l)).2
   obtain ⟨m4, hm4⟩ := HW3.out
   have c6 := HCells.out.1
   have ci := HCells.out.2.1
   have c3 := HCells.out.2.2
   rw [← hz] at ci
   have c63 : w3.cell? ⟨pw, 6, none⟩ = some (.slice (some ⟨gi, oi, none⟩) (nB l) nvc) := by rw [hm4]; exact c6
   have ci3 : w3.cell? ⟨gi, oi + b, none⟩ = some (.int .i64 z) := by rw [hm4]; exact ci
   have c33 : w3.cell? ⟨pw, 3, none⟩ = some vi := by rw [hm4]; exact c3
   have HM4 := Lib.hid hm4
   clear hz c6 ci c3 hm4
   by_cases hz0 : z < 0
   ·have hzn : ¬ (0 ≤ z) := by omega
    have hzd : decide (z ≥ 0) = false := decide_eq_false (by omega)
    have HV := Lib.hid (HC.out.trans (chT_n HD.out (by rw [HZ.out]; exact hz0)))
    clear HC HZ HD
    by_cases hk0 : k = 0
    ·have hkb : ((k : Int) == 0) = true := by rw [hk0]; rfl
     have HV2 := Lib.hid (show C = c38 by rw [HV.out, if_pos hk0])
     clear HV hk0
     go_wp2
     go_ret
     exact ⟨by rw [HV2.out]; rfl, HW3.out⟩
    ·have hkv : (k : Int) ≠ 0 := by omega
     have hkb : ((k : Int) == 0) = false := beq_eq_false_iff_ne.2 hkv
     have HV2 := Lib.hid (show C = c58 by rw [HV.out, if_neg hk0])
     clear HV
     go_wp2
     go_ret
     exact ⟨by rw [HV2.out]; rfl, HW3.out⟩
   ·obtain ⟨t, rfl⟩ := Int.eq_ofNat_of_zero_le (show 0 ≤ z by omega)
    have htm : t < nL l := by omega
    obtain ⟨g2, o2, vic, sa, sc, rfl, cv, hrow⟩ := HK.out.inAt htm
    obtain ⟨g3, o3, rfl, cr1⟩ := hrow x HXY.out.1
    obtain ⟨g4, o4, e4, cr2⟩ := hrow y HXY.out.2.1
    injection e4 with e4
    injection e4 with e41 e42
    subst e41 e42
    obtain ⟨i1, hi1⟩ : ∃ v, v = inB l t x := ⟨_, rfl⟩
    obtain ⟨i2, hi2⟩ : ∃ v, v = inB l t y := ⟨_, rfl⟩
    rw [← hi1] at cr1
    rw [← hi2] at cr2
    have cv3 : w3.cell? ⟨g2, o2 + t, none⟩ = some (.slice (some ⟨g3, o3, none⟩) (nB l) sc) := by rw [HM4.out]; exact cv
    have cr13 : w3.cell? ⟨g3, o3 + x, none⟩ = some (.bool i1) := by rw [HM4.out]; exact cr1
    have cr23 : w3.cell? ⟨g3, o3 + y, none⟩ = some (.bool i2) := by rw [HM4.out]; exact cr2
    have hti : (t : Int) < (nL l : Int) := by omega
    have hz3 : (0 : Int) ≤ (t : Int) := by omega
    have hsame : i1 = i2 → C = if k = 0 then c38 else c58 := fun e => HC.out.trans (chT_s HD.out HZ.out (hi1.symm.trans (e.trans hi2)))
    have HSame := Lib.hid hsame
    have HI := Lib.hid (And.intro hi1 hi2)
    clear cv cr1 cr2 hrow hi1 hi2 hsame hz0
    go_wp2_with fail
    go_quiet (fail)
    have HW5 := Lib.hid (show ∃ m, w3.drewN nq = w.drewN m from ⟨m4 + nq, by rw [HM4.out, World.drewN_drewN]⟩)
    clear c63 ci3 c33 cv3 cr13 cr23
    generalize w3.drewN nq = w5 at HW5 ⊢
    cases i1 <;> cases i2
    ·by_cases hk0 : k = 0
     ·have hkb : ((k : Int) == 0) = true := by rw [hk0]; rfl
      have HV2 := Lib.hid (show C = c38 by rw [HSame.out rfl, if_pos hk0])
      clear hk0
      go_wp2
      go_ret
      exact ⟨by rw [HV2.out]; rfl, HW5.out⟩
     ·have hkv : (k : Int) ≠ 0 := by omega
      have hkb : ((k : Int) == 0) = false := beq_eq_false_iff_ne.2 hkv
      have HV2 := Lib.hid (show C = c58 by rw [HSame.out rfl, if_neg hk0])
      go_wp2
      go_ret
      exact ⟨by rw [HV2.out]; rfl, HW5.out⟩
    ·have HV := Lib.hid (HC.out.trans (chT_i2 HD.out HZ.out HI.out.1.symm HI.out.2.symm))
     go_wp2
     go_ret
     exact ⟨by rw [HV.out]; rfl, HW5.out⟩
    ·have HV := Lib.hid (HC.out.trans (chT_i1 HD.out HZ.out HI.out.1.symm HI.out.2.symm))
     go_wp2
     go_ret
     exact ⟨by rw [HV.out]; rfl, HW5.out⟩
    ·by_cases hk0 : k = 0
     ·have hkb : ((k : Int) == 0) = true := by rw [hk0]; rfl
      have HV2 := Lib.hid (show C = c38 by rw [HSame.out rfl, if_pos hk0])
      clear hk0
      go_wp2
      go_ret
      exact ⟨by rw [HV2.out]; rfl, HW5.out⟩
     ·have hkv : (k : Int) ≠ 0 := by omega
      have hkb : ((k : Int) == 0) = false := beq_eq_false_iff_ne.2 hkv
      have HV2 := Lib.hid (show C = c58 by rw [HSame.out rfl, if_neg hk0])
      go_wp2
      go_ret
      exact ⟨by rw [HV2.out]; rfl, HW5.out⟩
end Go.Proofs.Ytcflgogodgfccaa
namespace Go.Proofs.Ytcflgogodgfccaa
open Go Go.RowKit Go.Wr Go.Fl Go.Ht
set_option maxHeartbeats 4000000
set_option maxRecDepth 100000
theorem egU_in {l : List In} {u b : Nat} : ∀ {k : Nat} {e : Nat × Nat}, e ∈ egU l u b k → e.1 = u ∧ e.2 < k ∧ (nxt l u).getD e.2 0 = b
 | 0, e, h => by cases h
 | k + 1, e, h => by
  unfold egU at h
  split at h
  ·rename_i hh
   rcases List.mem_append.1 h with h | h
   ·obtain ⟨h1, h2, h3⟩ := egU_in h
    exact ⟨h1, by omega, h3⟩
   ·rw [List.mem_singleton] at h
    subst h
    exact ⟨rfl, by simp, hh⟩
  ·obtain ⟨h1, h2, h3⟩ := egU_in h
   exact ⟨h1, by omega, h3⟩
theorem egs_in {l : List In} {b : Nat} : ∀ {n : Nat} {e : Nat × Nat}, e ∈ egs l b n → e.1 < n ∧ e.2 < (nxt l e.1).length ∧ (nxt l e.1).getD e.2 0 = b
 | 0, e, h => by cases h
 | n + 1, e, h => by
  rcases List.mem_append.1 (show e ∈ egs l b n ++ egU l n b (nxt l n).length from h) with h | h
  ·obtain ⟨h1, h2, h3⟩ := egs_in h
   exact ⟨by omega, h2, h3⟩
  ·obtain ⟨h1, h2, h3⟩ := egU_in h
   rw [h1]
   exact ⟨by omega, h2, h3⟩
theorem wsum_ok {l : List In} {p pw g : Nat} {wa : World} {vb vl vo vi va vn vh vt : Value} {w : World} (h : Wk l p pw g wa vb vl vo vi va vn vh vt w) (r : Nat) (vw : Value) (W : Nat → Nat) (loop : Int) (b : Nat) (bk : Bool) (hW : SlX tF r w vw ((List.range (nB l)).map W)) (hle : ∀ c, W c ≤ inf) (hl2 : loop < (nL l : Int)) (hb : b < nB l) :
  Calls Try.prog 48 #[.pointer (some ⟨pw, 0, none⟩), vw, .int .i64 loop, .int .i64 (b : Int), .bool bk] w fun e w' => e = .returned (.float .f64 (brg l W loop b bk)) ∧ Below w.heap.size w w' := by
 have HK := Lib.hid h
 have h512 := h.g7.n512
 have h8 : nL l ≤ 8 := h.g7.hd8
 have c5 : w.cell? ⟨pw, 5, none⟩ = some va := h.blk.cell 5
 obtain ⟨cs, a1, a2, a3⟩ := h.ah
 obtain ⟨vaa, vac, rfl, va1, va2⟩ := a1.form
 rw [a2] at c5 va1
 obtain ⟨s, hs⟩ : ∃ s, cs[b]? = some s := ⟨_, List.getElem?_eq_getElem (by rw [a2]; exact hb)⟩
 have hrow := a3 b s hs
 obtain ⟨gb, ob, e1, -, hat⟩ := a1.get hs
 subst e1
 have c4 := hat.cell 0 _ rfl
 obtain ⟨sa, sn, sc⟩ := s
 have hsn : sn = (egs l b (nB l)).length := SlX.len hrow
 have e2 : ob + b * tCC.n + 0 = ob + b := by show ob + b * 1 + 0 = _; omega
 rw [e2] at c4
 have c4' : w.cell? ⟨gb, ob + b, none⟩ = some (.slice sa sn sc) := c4
 have HR := Lib.hid (And.intro hrow hsn)
 obtain ⟨wv, wc, rfl, hw1, hw2⟩ := hW.form
 have HW := Lib.hid hW
 have HL := Lib.hid (And.intro hle hb)
 have hbi : (b : Int) < (nB l : Int) := by omega
 obtain ⟨C, hC⟩ : ∃ c, c = brg l W loop b bk := ⟨_, rfl⟩
 rw [← hC]
 have HC := Lib.hid hC
 have hsb : sn ≤ 9223372036854775807 := by obtain ⟨_, _, e, k1, k2⟩ := hrow.form; unfold maxLen at k2; omega
 clear h a1 a2 a3 hs hrow hat c4 hsn e2 hW hle hb hC hw1 hw2 va1 va2
 rw [List.length_map, List.length_range]
 go_enter Try.func48, Try.ntmps48
 go_wp2
 go_loopw [11, 13, 14, 23] (fun t _ _ u wr => ∃ (i s : Nat), i ≤ sn ∧ u = .int .i64 (i : Int) ∧ t = .float .f64 s ∧ s ≤ inf ∧ Hid (s = ((egs l b (nB l)).take i).foldl (brS l W loop b bk) 0) ∧ Hid (Below w.heap.size w wr)) (fun _ _ _ u _ => sn - (intOf u).toNat)
 case atStart => exact ⟨0, 0, by omega, rfl, rfl, Nat.zero_le _, rfl, bRefl _⟩
 case round =>
  obtain ⟨i, s, hi, rfl, rfl, hs, hq, hB⟩ := hrel
  obtain ⟨V, rfl⟩ : ∃ x : World, x = wr := ⟨_, rfl⟩
  by_cases hlt : i < sn
  ·have hlt' : (i : Int) < (sn : Int) := by omega
   obtain ⟨⟨u, k⟩, he⟩ : ∃ e, (egs l b (nB l))[i]? = some e := ⟨_, List.getElem?_eq_getElem (by rw [← HR.out.2]; exact hlt)⟩
   obtain ⟨ga, oa, rfl, -, hat⟩ := (HR.out.1.below hB.out).get he
   have cu := hat.cell 0 _ rfl
   have ck := hat.cell 1 _ rfl
   have cu' : V.cell? ⟨ga, oa + i * 2, none⟩ = some (.int .i64 (u : Int)) := cu
   have ck' : V.cell? ⟨ga, oa + i * 2 + 1, none⟩ = some (.int .i64 (k : Int)) := ck
   clear cu ck hat
   obtain ⟨hun, hkn, hnx⟩ := egs_in (List.mem_of_getElem? he)
   have hT1 : (egs l b (nB l)).take (i + 1) = (egs l b (nB l)).take i ++ [(u, k)] := by rw [List.take_add_one, he]; rfl
   have hstep : ∀ y, y = brS l W loop b bk s (u, k) → Hid (y = ((egs l b (nB l)).take (i + 1)).foldl (brS l W loop b bk) 0) := fun y hy => by
    show _ = _
    rw [hT1, List.foldl_append, ← hq.out, hy]
    rfl
   have HStep := Lib.hid hstep
   have HU := Lib.hid (And.intro hun hkn)
   clear he hT1 hstep hq hnx hun hkn
   go_upto_region 5 with (fail)
   obtain ⟨n1, hn1⟩ : ∃ x, x = V.heap.size := ⟨_, rfl⟩
   rw [← hn1]
   obtain ⟨V1, hV1⟩ : ∃ x, x = V.alloc (.cells #[.int .i64 (u : Int), .int .i64 (k : Int)] 92) := ⟨_, rfl⟩
   rw [← hV1]
   have cb := Blk.new_at (w := V) 92 #[.int .i64 (u : Int), .int .i64 (k : Int)] hn1
   rw [← hV1] at cb
   have c0 : V1.cell? ⟨n1, 0, none⟩ = some (.int .i64 (u : Int)) := cb.cell 0
   have c1 : V1.cell? ⟨n1, 1, none⟩ = some (.int .i64 (k : Int)) := cb.cell 1
   have HB1 := Lib.hid (show Below w.heap.size w V1 by rw [hV1]; exact bAl hB.out _)
   have HK1 := Lib.hid (HK.out.below HB1.out)
   clear hV1 hn1 cb hB cu' ck'
   obtain ⟨hv, hhv⟩ : ∃ v, v = hol l loop u := ⟨_, rfl⟩
   have HHv := Lib.hid hhv
   clear hhv
   go_wp2_with fail
   refine (holds19_ok HK1.out loop u hl2 HU.out.1).mono ?_
   rintro e w5 ⟨rfl, rfl⟩
   rw [← HHv.out]
   obtain ⟨V1, rfl⟩ : ∃ x : World, x = w5 := ⟨_, rfl⟩
   cases hv with
   | false =>
    have HQ := HStep.out s (by unfold brS; rw [if_neg (fun h => by rw [← HHv.out] at h; exact absurd h.1 (by simp))])
    clear HStep c0 c1
    go_wp2
    go_roundw
    all_goals first
     | exact ⟨i + 1, s, by omega, by go_num, rfl, hs, HQ, HB1.out⟩
     | ((repeat apply Exists.intro); exact ⟨⟨i + 1, s, by omega, by go_num, rfl, hs, HQ, HB1.out⟩, rfl⟩)
     | (simp [intOf] <;> omega)
   | true =>
    obtain ⟨d, hd⟩ : ∃ v, v = dm l b u := ⟨_, rfl⟩
    have HD := Lib.hid hd
    clear hd
    go_wp2_with fail
    refine (back19_ok HK1.out u b).mono ?_
    rintro e w6 ⟨rfl, m6, hw6⟩
    rw [← HD.out]
    have c06 : w6.cell? ⟨n1, 0, none⟩ = some (.int .i64 (u : Int)) := by rw [hw6]; exact c0
    have c16 : w6.cell? ⟨n1, 1, none⟩ = some (.int .i64 (k : Int)) := by rw [hw6]; exact c1
    have HB6 := Lib.hid (show Below w.heap.size w w6 by rw [hw6]; exact bDrewN HB1.out m6)
    have HK6 := Lib.hid (HK.out.below HB6.out)
    clear hw6 c0 c1 HB1 HK1
    by_cases hdb : d = bk
    ·have hdb' : (d == bk) = true := by rw [hdb]; simp
     obtain ⟨ch, hch⟩ : ∃ c, c = chn l u k := ⟨_, rfl⟩
     have hop1 := hop_mul (show Ieee.double.mul (W u) ch = some (fmul (W u) ch) from mul_nn (HL.out.1 u) (by rw [hch]; exact chn_in.2) (by rw [hch]; exact chn_in.1))
     have hop2 := hop_add (show Ieee.double.add s (fmul (W u) ch) = some (fadd s (fmul (W u) ch)) from add_nn hs (fmul_le _ _))
     have HQ := HStep.out (fadd s (fmul (W u) ch)) (by unfold brS; rw [if_pos ⟨HHv.out.symm, HD.out.symm.trans hdb⟩, hch])
     obtain ⟨gw, ow, rfl, -, -, cww⟩ := SlX.flo HW.out (k := u) (x := W u) (by rw [List.getElem?_map, List.getElem?_range HU.out.1]; rfl)
     have cw6 : w6.cell? ⟨gw, ow + u, none⟩ = some (.float .f64 (W u)) := (HB6.out.cell (World.block_lt_of_cell? _ _ cww)).trans cww
     have hchn : ∀ n, Calls Try.prog 25 #[.pointer (some ⟨pw, 0, none⟩), .int .i64 (u : Int), .int .i64 (k : Int)] (w6.drewN n) fun e w'' => e = .returned (.float .f64 ch) ∧ ∃ m, w'' = (w6.drewN n).drewN m := fun n => by
      rw [hch]
      exact wchance_ok (HK6.out.below (bDrewN (bRefl w6) n)) u k HU.out.1 HU.out.2
     have hui : (u : Int) < (nB l : Int) := by have := HU.out.1; omega
     have hfl := fadd_le s (fmul (W u) ch)
     have hBd : ∀ n, Hid (Below w.heap.size w (w6.drewN n)) := fun n => bDrewN HB6.out n
     clear hch cww HStep HD hdb
     go_wp2_with fail
     go_quiet (first | (go_at_call 25; exact Calls.quiet_of (hchn _)))
     have HB9 := hBd nq
     clear hchn hBd c06 c16 cw6 HB6 HK6
     generalize w6.drewN nq = U9 at HB9 ⊢
     go_wp2
     go_roundw
     all_goals first
      | exact ⟨i + 1, _, by omega, by go_num, rfl, hfl, HQ, HB9.out⟩
      | ((repeat apply Exists.intro); exact ⟨⟨i + 1, _, by omega, by go_num, rfl, hfl, HQ, HB9.out⟩, rfl⟩)
      | (simp [intOf] <;> omega)
    ·have hdb' : (d == bk) = false := beq_eq_false_iff_ne.2 hdb
     have HQ := HStep.out s (by unfold brS; rw [if_neg (fun h => hdb (HD.out.trans h.2))])
     clear HStep c06 c16 HD
     go_wp2
     go_roundw
     all_goals first
      | exact ⟨i + 1, s, by omega, by go_num, rfl, hs, HQ, HB6.out⟩
      | ((repeat apply Exists.intro); exact ⟨⟨i + 1, s, by omega, by go_num, rfl, hs, HQ, HB6.out⟩, rfl⟩)
      | (simp [intOf] <;> omega)
  ·have hie : i = sn := by omega
   have HV := Lib.hid (show C = s by rw [HC.out, hq.out, hie, HR.out.2, List.take_length]; rfl)
   have hlt' : ¬ (i : Int) < (sn : Int) := by omega
   clear hq hie
   go_wp2
   go_ret
   exact ⟨by rw [HV.out]; rfl, hB.out⟩
end Go.Proofs.Ytcflgogodgfccaa
namespace Go.Proofs.Ytcflgogodgfccaa
open Go Go.RowKit Go.Wr Go.Fl Go.Ht
set_option maxHeartbeats 4000000
set_option maxRecDepth 100000
end Go.Proofs.Ytcflgogodgfccaa
namespace Go.Proofs.Ytcflgogodgfccaa
open Go Go.RowKit Go.Wr Go.Fl Go.Ht
set_option maxHeartbeats 4000000
set_option maxRecDepth 100000
end Go.Proofs.Ytcflgogodgfccaa
namespace Go.Ht
open Go.Fl Go.Proofs.Ytcflgogodgfccaa
section
variable {l : List In} {W : Nat → Nat} {loop : Int} {b u : Nat} {bk : Bool}
end
end Go.Ht
namespace Go.Proofs.Ytcflgogodgfccaa
open Go Go.RowKit Go.Wr Go.Fl Go.Ht
set_option maxHeartbeats 4000000
set_option maxRecDepth 100000
end Go.Proofs.Ytcflgogodgfccaa
namespace Go.Proofs.Ytcflgogodgfccaa
open Go Go.RowKit Go.Wr Go.Fl Go.Ht
set_option maxHeartbeats 4000000
set_option maxRecDepth 100000
theorem upd_row (W : Nat → Nat) {n b x : Nat} (hb : b < n) : ((List.range n).map W).set b x = (List.range n).map (Ht.upd W b x) := by
 apply List.ext_getElem?
 intro k
 rw [List.getElem?_set, List.length_map, List.length_range]
 by_cases hk : k < n
 ·rw [List.getElem?_map, List.getElem?_map, List.getElem?_range hk]
  by_cases e : b = k
  ·subst e
   rw [if_pos rfl, if_pos hb]
   simp [Ht.upd]
  ·rw [if_neg e]
   simp only [Option.map_some, Ht.upd]
   rw [if_neg (fun h => e h.symm)]
 ·rw [if_neg (by omega), List.getElem?_eq_none (by simp; omega), List.getElem?_eq_none (by simp; omega)]
theorem wtK_succ {l : List In} {t : Nat → Nat} {loop : Int} {hd b : Nat} {bs : List Nat} : wtK l t loop hd (bs ++ [b]) = wst l t loop hd (wtK l t loop hd bs) b := by
 unfold wtK
 rw [List.foldl_append]
 rfl
theorem ord_len {l : List In} (g : G7 l) : (ordL l).length = nB l := by unfold ordL; rw [List.length_reverse, g.len]
theorem ord_lt {l : List In} (g : G7 l) {b : Nat} (h : b ∈ ordL l) : b < nB l := g.dlt b (List.mem_reverse.1 h)
theorem wgt_no {l : List In} {t : Nat → Nat} {loop : Int} {hd b : Nat} {W : Nat → Nat} (h : ¬ (0 ≤ hdd l b (nL l) ∧ hdd l b (nL l) ≠ loop)) : wgt l t loop hd W b = if b = hd then one else brg l W loop b false := by
 unfold wgt
 dsimp only
 rw [if_neg h]
theorem wgt_yes {l : List In} {t : Nat → Nat} {loop : Int} {hd b : Nat} {W : Nat → Nat} (h : 0 ≤ hdd l b (nL l) ∧ hdd l b (nL l) ≠ loop) : wgt l t loop hd W b = fmul (if b = hd then one else brg l W loop b false) (t (hdd l b (nL l)).toNat) := by
 unfold wgt
 dsimp only
 rw [if_pos h]
end Go.Proofs.Ytcflgogodgfccaa
namespace Go.Proofs.Ytcflgogodgfccaa
open Go Go.RowKit Go.Wr Go.Fl Go.Ht
set_option maxHeartbeats 4000000
set_option maxRecDepth 100000
end Go.Proofs.Ytcflgogodgfccaa
namespace Go.Proofs.Ytcflgogodgfccaa
open Go Go.RowKit Go.Wr Go.Fl
structure Rws {α : Type} (R : RT Try.prog α) (B : Nat) (rs : List Sv) (F : Nat → List α) (w : World) : Prop where
 own : ∀ (b : Nat) (s : Sv), rs[b]? = some s → OwR R B w s.v (F b)
 ap : ∀ (i j : Nat) (s t : Sv), rs[i]? = some s → rs[j]? = some t → i ≠ j → ∀ g, s.v.ownBlock = some g → t.v.ownBlock ≠ some g
section
variable {α : Type} {R : RT Try.prog α} {B : Nat} {rs : List Sv} {F : Nat → List α} {w w' : World}
theorem Rws.keep (h : Rws R B rs F w) (hk : ∀ g C, B ≤ g → Blk w g R.T C → w'.heap[g]? = w.heap[g]?) : Rws R B rs F w' :=
 ⟨fun b s hs => (h.own b s hs).keep fun g hg => by obtain ⟨h1, C, hb⟩ := (h.own b s hs).blk hg; exact hk g C h1 hb, h.ap⟩
theorem Rws.below (h : Rws R B rs F w) (b : Below w.heap.size w w') : Rws R B rs F w' := h.keep fun g _ _ hb => b.block g hb.lt
theorem Rws.nil : Rws R B [] F w := ⟨fun _ _ h => by simp at h, fun _ _ _ _ h => by simp at h⟩
theorem Rws.mono {B' : Nat} (h : Rws R B rs F w) (hB : B' ≤ B) : Rws R B' rs F w := ⟨fun b s hs => (h.own b s hs).mono hB, h.ap⟩
theorem Rws.snoc {s : Sv} {V : World} (h0 : Rws R B rs F V) (h : Rws R B rs F w) (hs : OwR R V.heap.size w s.v (F rs.length)) (hB : B ≤ V.heap.size) : Rws R B (rs ++ [s]) F w := by
 have cut : ∀ (i : Nat) (t : Sv), (rs ++ [s])[i]? = some t → rs[i]? = some t ∨ i = rs.length ∧ t = s := fun i t ht => by
  by_cases hi : i < rs.length
  ·rw [List.getElem?_append_left hi] at ht; exact Or.inl ht
  ·rw [List.getElem?_append_right (by omega)] at ht
   have h0 := (List.getElem?_eq_some_iff.1 ht).1
   simp at h0
   have e : i = rs.length := by omega
   subst e
   simp at ht
   exact Or.inr ⟨rfl, ht.symm⟩
 refine ⟨fun b t ht => ?_, fun i j t u ht hu hij g hg hg' => ?_⟩
 ·rcases cut b t ht with h1 | ⟨rfl, rfl⟩
  ·exact h.own b t h1
  ·exact hs.mono hB
 ·rcases cut i t ht with h1 | ⟨rfl, rfl⟩
  ·rcases cut j u hu with h2 | ⟨rfl, rfl⟩
   ·exact h.ap i j t u h1 h2 hij g hg hg'
   ·have a := (hs.blk hg').1
    have b := (h0.own i t h1).lt hg
    omega
  ·rcases cut j u hu with h2 | ⟨rfl, rfl⟩
   ·have a := (hs.blk hg).1
    have b := (h0.own j u h2).lt hg'
    omega
   ·exact hij rfl
theorem Rws.grow {W : World} {F' : Nat → List α} {k g n c : Nat} {s : Sv} {l : List α} (h : Rws R B rs F w) (hk : rs[k]? = some s) (hb : Below w.heap.size w W) (hg : W.grownBy w' s.v.ownBlock) (ho : OwR R B w' (.slice (some ⟨g, 0, none⟩) n c) l) (hl : s.v.ownBlock = some g ∨ g = W.heap.size) (h1 : F' k = l) (h2 : ∀ j, j ≠ k → F' j = F j) : Rws R B (rs.set k ⟨some ⟨g, 0, none⟩, n, c⟩) F' w' := by
 have hz := hb.size
 have cut : ∀ (i : Nat) (t : Sv), (rs.set k ⟨some ⟨g, 0, none⟩, n, c⟩)[i]? = some t → (i = k ∧ t = ⟨some ⟨g, 0, none⟩, n, c⟩) ∨ (i ≠ k ∧ rs[i]? = some t) := fun i t ht => by
  by_cases e : i = k
  ·subst e
   rw [List.getElem?_set_self (List.getElem?_eq_some_iff.1 hk).1] at ht
   injection ht with ht
   exact Or.inl ⟨rfl, ht.symm⟩
  ·rw [List.getElem?_set_ne (Ne.symm e)] at ht
   exact Or.inr ⟨e, ht⟩
 refine ⟨fun i t ht => ?_, fun i j t u ht hu hij q hq hq' => ?_⟩
 ·rcases cut i t ht with ⟨rfl, rfl⟩ | ⟨e, ht⟩
  ·rw [h1]; exact ho
  ·rw [h2 i e]
   refine (h.own i t ht).keep fun q hq => ?_
   have hlt := (h.own i t ht).lt hq
   exact (hg.block q (by omega) (fun e' => h.ap k i s t hk ht (Ne.symm e) q e'.symm hq)).trans (hb.block q hlt)
 ·rcases cut i t ht with ⟨rfl, rfl⟩ | ⟨ei, h3⟩
  ·injection hq with hq
   simp only at hq
   subst hq
   rcases cut j u hu with ⟨rfl, rfl⟩ | ⟨ej, h4⟩
   ·exact hij rfl
   ·rcases hl with hl | hl
    ·exact h.ap i j s u hk h4 hij g hl hq'
    ·have := (h.own j u h4).lt hq'; omega
  ·rcases cut j u hu with ⟨rfl, rfl⟩ | ⟨ej, h4⟩
   ·injection hq' with hq'
    simp only at hq'
    subst hq'
    rcases hl with hl | hl
    ·exact h.ap j i s t hk h3 (Ne.symm hij) g hl hq
    ·have := (h.own i t h3).lt hq; omega
   ·exact h.ap i j t u h3 h4 hij q hq hq'
end
end Go.Proofs.Ytcflgogodgfccaa
namespace Go.Proofs.Ytcflgogodgfccaa
open Go Go.RowKit Go.Wr Go.Fl Go.Ht
set_option maxHeartbeats 4000000
set_option maxRecDepth 100000
def tFF : RT Try.prog Sv := ⟨32, 34, 1, 24, .slice none 0 0, fun s => [s.v], fun _ => rfl, fun _ => oneSimp rfl, by kernel_rfl, by kernel_rfl, by decide, by decide⟩
noncomputable def edg (l : List In) (b k : Nat) : Nat := fmul (wts l (tT l) (-1) b) (chn l b k)
noncomputable def edR (l : List In) (b : Nat) : List Nat := (List.range (nxt l b).length).map (edg l b)
def EdP (l : List In) (w : World) (e : Ending) (w' : World) : Prop :=
 Below w.heap.size w w' ∧ ∃ v, e = .returned v ∧ ∃ rs : List Sv, rs.length = nB l ∧ OwR tFF w.heap.size w' v rs ∧ Rws tF w.heap.size rs (edR l) w'
theorem ed_take {α : Type} (f : Nat → α) (k : Nat) : (List.range (k + 1)).map f = (List.range k).map f ++ [f k] := by rw [List.range_succ, List.map_append]; rfl
end Go.Proofs.Ytcflgogodgfccaa
namespace Go.Proofs.Ytcflgogodgfccaa
open Go Go.RowKit Go.Wr Go.Fl
set_option maxHeartbeats 4000000
set_option maxRecDepth 100000
theorem dom_iff {nx : Nat → List Nat} {n a b : Nat} (ha : a < n) (hb : b < n) : domB nx n (a : Int) (b : Int) = true ↔ Dom nx a b := by
 by_cases h : Dom nx a b
 ·exact ⟨fun _ => h, fun _ => domB_yes ha hb h⟩
 ·exact ⟨fun e => absurd e (by rw [domB_no h]; decide), fun e => absurd e h⟩
end Go.Proofs.Ytcflgogodgfccaa
namespace Go.Proofs.Ytcflgogodgfccaa
open Go Go.RowKit Go.Wr Go.Fl
set_option maxHeartbeats 4000000
set_option maxRecDepth 100000
theorem down_way {nx : Nat → List Nat} {pl : Nat → Nat} {n : Nat} {ah : Nat → List Nat} (g : Gr nx pl n ah) : ∀ k u, pl u ≤ k → u < n → ∃ w, RW nx w u ∧ ∀ x ∈ w, pl x ≤ pl u := by
 intro k
 induction k with
 | zero =>
  intro u hk hu
  by_cases h0 : u = 0
  ·subst h0
   exact ⟨[0], RW.root, fun x hx => by simp at hx; subst hx; omega⟩
  ·have := g.pos u hu h0; omega
 | succ k ih =>
  intro u hk hu
  by_cases h0 : u = 0
  ·subst h0
   exact ⟨[0], RW.root, fun x hx => by simp at hx; subst hx; omega⟩
  ·obtain ⟨p, hp, hlt⟩ := g.par u hu h0
   obtain ⟨hpn, hup⟩ := (g.mem p u hu).1 hp
   obtain ⟨w, hw, hx⟩ := ih p (by omega) hpn
   refine ⟨u :: w, RW.step hw hup, fun x hx' => ?_⟩
   rcases List.mem_cons.1 hx' with rfl | hx'
   ·omega
   ·have := hx x hx'; omega
theorem dom_le {nx : Nat → List Nat} {pl : Nat → Nat} {n : Nat} {ah : Nat → List Nat} (g : Gr nx pl n ah) {u v : Nat} (hu : u < n) (h : Dom nx v u) : pl v ≤ pl u := by
 obtain ⟨w, hw, hx⟩ := down_way g (pl u) u (by omega) hu
 exact hx v (h w hw)
noncomputable def pO (l : List In) (b : Nat) : Nat := plc (dfsL (nxt l)) b
theorem FinP.gr {l : List In} {p : Nat} {w : World} (h : FinP l p w) : Gr (nxt l) (pO l) (nB l) (ahd l) := h.1.gr
theorem FinP.dm {l : List In} {p : Nat} {w : World} (h : FinP l p w) {u v : Nat} (hu : u < nB l) (hv : v ∈ nxt l u) : domB (nxt l) (nB l) (v : Int) (u : Int) = decide (pO l v ≤ pO l u) := by
 have hg := h.gr
 have hvn := hg.nlt u hu v hv
 obtain ⟨g, ab, cb, b4, o4, b5, o5, c4, c5, va, vo, vr, vl, bs, ss, E, d, h⟩ := h
 rw [Bool.eq_iff_iff, dom_iff hvn hu, decide_eq_true_iff]
 constructor
 ·exact fun hd => dom_le hg hu hd
 ·intro hle
  apply Classical.byContradiction
  intro hnd
  obtain ⟨b, hb, hr⟩ := g.toG5.round h.nd.id ⟨u, v, hu, hv, hle, hnd⟩
  exact g.no b hb hr
noncomputable def oO (l : List In) : List Nat := (dfsL (nxt l)).reverse
theorem oO_lt {l : List In} (g : G7 l) {i x : Nat} (h : (oO l)[i]? = some x) : x < nB l := g.dlt x (by have := List.mem_of_getElem? h; unfold oO at this; simpa using this)
theorem oO_pl {l : List In} (g : G7 l) {i x : Nat} (h : (oO l)[i]? = some x) : pO l x = i := by
 unfold pO plc
 have hn : (oO l).Nodup := nd_rev g.dfs.po.nd
 obtain ⟨hi, e⟩ := List.getElem?_eq_some_iff.1 h
 show (oO l).idxOf x = i
 rw [← e]
 exact hn.idxOf_getElem i hi
noncomputable def atK (l : List In) (i b : Nat) : Int := if pO l b < i then (pO l b : Int) + 1 else 0
theorem atK_set {l : List In} (g : G7 l) {i x : Nat} (h : (oO l)[i]? = some x) : ((List.range (nB l)).map (atK l i)).set x ((i : Int) + 1) = (List.range (nB l)).map (atK l (i + 1)) := by
 have hx := oO_lt g h
 have hp := oO_pl g h
 apply List.ext_getElem?
 intro k
 rw [List.getElem?_set]
 simp only [List.length_map, List.length_range, List.getElem?_map]
 by_cases e : x = k
 ·subst e
  rw [if_pos rfl, if_pos hx, List.getElem?_range hx]
  simp [atK, hp]
 ·rw [if_neg e]
  by_cases hk : k < nB l
  ·rw [List.getElem?_range hk]
   simp only [Option.map_some, Option.some.injEq]
   unfold atK
   have hne : pO l k ≠ i := fun e2 => e (g.gr.inj x k hx hk (by show pO l x = pO l k; rw [hp, e2]))
   by_cases h2 : pO l k < i
   ·rw [if_pos h2, if_pos (by omega)]
   ·rw [if_neg h2, if_neg (by omega)]
  ·rw [List.getElem?_eq_none (by simp; omega)]
   rfl
theorem OwI.put {l : List In} (gg : G7 l) {B g i x : Nat} {w : World} (h : OwR tI B w (.slice (some ⟨g, 0, none⟩) (nB l) (nB l)) ((List.range (nB l)).map (atK l i))) (hx : (oO l)[i]? = some x) : OwR tI B (w.setCell ⟨g, x, none⟩ (.int .i64 ((i : Int) + 1))) (.slice (some ⟨g, 0, none⟩) (nB l) (nB l)) ((List.range (nB l)).map (atK l (i + 1))) := by
 have hxn := oO_lt gg hx
 have := h.set (k := x) (j := 0) (x := atK l i x) (y := (i : Int) + 1) (v := .int .i64 ((i : Int) + 1)) (by rw [List.getElem?_map, List.getElem?_range hxn]; rfl) (by decide) rfl
 rw [atK_set gg hx] at this
 have e : x * tI.n + 0 = x := by show x * 1 + 0 = x; omega
 rw [e] at this
 exact this
theorem OwI.cell {l : List In} {B g i x : Nat} {w : World} (h : OwR tI B w (.slice (some ⟨g, 0, none⟩) (nB l) (nB l)) ((List.range (nB l)).map (atK l i))) (hx : x < nB l) : w.cell? ⟨g, x, none⟩ = some (.int .i64 (atK l i x)) := by
 have := (h.at (k := x) (x := atK l i x) (by rw [List.getElem?_map, List.getElem?_range hx]; rfl)).cell 0 _ rfl
 rw [show 0 + x * tI.n + 0 = x by show 0 + x * 1 + 0 = x; omega] at this
 exact this
end Go.Proofs.Ytcflgogodgfccaa
namespace Go.Proofs.Ytcflgogodgfccaa
open Go Go.RowKit Go.Wr Go.Fl Go.Ht
set_option maxRecDepth 100000
section
variable {l : List In} {t : Nat → Nat}
theorem fold_out {loop : Int} {hd : Nat} : ∀ {bs : List Nat} {W : Nat → Nat} {u : Nat}, u ∉ bs → (bs.foldl (wst l t loop hd) W) u = W u
 | [], _, _, _ => rfl
 | b :: bs, W, u, h => by
  rw [List.mem_cons, not_or] at h
  rw [List.foldl_cons, fold_out h.2]
  unfold wst
  split
  ·unfold Ht.upd
   rw [if_neg h.1]
  ·rfl
theorem ord_nd (g : G7 l) : (ordL l).Nodup := nd_rev g.dfs.po.nd
theorem wts_at (g : G7 l) {i b : Nat} (h : (ordL l)[i]? = some b) : wts l t (-1) b = wgt l t (-1) 0 (wtK l t (-1) 0 ((ordL l).take i)) b ∧ ∀ u ∈ (ordL l).take i, wtK l t (-1) 0 ((ordL l).take i) u = wts l t (-1) u := by
 have hd : hd0 l (-1) = 0 := by unfold hd0; rfl
 obtain ⟨hi, hb⟩ := List.getElem?_eq_some_iff.1 h
 have hsp : ordL l = (ordL l).take i ++ b :: (ordL l).drop (i + 1) := by
  rw [← hb, ← List.drop_eq_getElem_cons hi, List.take_append_drop]
 have hnd := ord_nd g
 rw [hsp] at hnd
 obtain ⟨n1, n2, n3⟩ := List.nodup_append.1 hnd
 have nb := (List.nodup_cons.1 n2).1
 have hw : wts l t (-1) = ((ordL l).drop (i + 1)).foldl (wst l t (-1) 0) (wst l t (-1) 0 (wtK l t (-1) 0 ((ordL l).take i)) b) := by
  unfold wts
  rw [hd]
  conv => lhs; rw [hsp]
  unfold wtK
  rw [List.foldl_append, List.foldl_cons]
 have hol1 : hol l (-1) b = true := by unfold hol; rfl
 refine ⟨?_, fun u hu => ?_⟩
 ·rw [hw, fold_out nb]
  unfold wst
  rw [if_pos hol1]
  unfold Ht.upd
  rw [if_pos rfl]
 ·have h1 : u ≠ b := fun e => n3 u hu b (List.mem_cons_self ..) e
  have h2 : u ∉ (ordL l).drop (i + 1) := fun hm => n3 u hu u (List.mem_cons_of_mem _ hm) rfl
  rw [hw, fold_out h2]
  unfold wst
  rw [if_pos hol1]
  unfold Ht.upd
  rw [if_neg h1]
theorem foldl_same {α β : Type} {f f' : α → β → α} : ∀ {es : List β} (a : α), (∀ e ∈ es, ∀ a, f a e = f' a e) → es.foldl f a = es.foldl f' a
 | [], _, _ => rfl
 | e :: es, a, h => by
  rw [List.foldl_cons, List.foldl_cons, h e (List.mem_cons_self ..)]
  exact foldl_same _ fun e' he' a' => h e' (List.mem_cons_of_mem _ he') a'
noncomputable def ins0 (b : Nat) : Nat := if b = 0 then one else 0
noncomputable def lsum (l : List In) (b u : Nat) : Nat := (egs l b u).foldl (brS l (wts l (tT l) (-1)) (-1) b false) (ins0 b)
theorem pl_mem (g : G7 l) {i b u : Nat} (h : (ordL l)[i]? = some b) (hu : u < nB l) (hlt : pO l u < pO l b) : u ∈ (ordL l).take i := by
 have hb := oO_pl g (show (oO l)[i]? = some b from h)
 have hm : u ∈ ordL l := by unfold ordL; simpa using g.mem u hu
 obtain ⟨j, hj, rfl⟩ := List.getElem_of_mem hm
 have hju := oO_pl g (show (oO l)[j]? = some (ordL l)[j] from List.getElem?_eq_getElem hj)
 rw [List.mem_take_iff_getElem]
 have hi := (List.getElem?_eq_some_iff.1 h).1
 exact ⟨j, by omega, rfl⟩
theorem edg_brS {b u k s : Nat} (h : dm l b u = false) : brS l (wts l (tT l) (-1)) (-1) b false s (u, k) = fadd s (edg l u k) := by
 unfold brS
 rw [if_pos ⟨by unfold hol; rfl, h⟩]
 rfl
theorem edg_no {b u k s : Nat} (h : dm l b u = true) : brS l (wts l (tT l) (-1)) (-1) b false s (u, k) = s := by
 unfold brS
 rw [if_neg (fun k => by rw [h] at k; exact absurd k.2 (by simp))]
theorem in_nxt {u k b : Nat} (hk : k < (nxt l u).length) (h : (nxt l u).getD k 0 = b) : b ∈ nxt l u := by
 rw [← h, List.getD_eq_getElem?_getD, List.getElem?_eq_getElem hk]
 exact List.getElem_mem hk
theorem wts_sum (g : G7 l) (hdm : ∀ u, u < nB l → ∀ v ∈ nxt l u, dm l v u = decide (pO l v ≤ pO l u)) {b : Nat} (hb : b < nB l) :
  wts l (tT l) (-1) b = if 0 ≤ hdd l b (nL l) then fmul (lsum l b (nB l)) (tT l (hdd l b (nL l)).toNat) else lsum l b (nB l) := by
 obtain ⟨i, hi⟩ : ∃ i, (ordL l)[i]? = some b := by
  have hm : b ∈ ordL l := by unfold ordL; simpa using g.mem b hb
  obtain ⟨j, hj, e⟩ := List.getElem_of_mem hm
  exact ⟨j, by rw [List.getElem?_eq_getElem hj, e]⟩
 obtain ⟨h1, h2⟩ := wts_at (t := tT l) g hi
 have hx : (if b = 0 then one else brg l (wtK l (tT l) (-1) 0 ((ordL l).take i)) (-1) b false) = lsum l b (nB l) := by
  unfold lsum ins0
  by_cases h0 : b = 0
  ·rw [if_pos h0, if_pos h0]
   subst h0
   have hp0 : pO l 0 = 0 := g.gr.p0
   rw [show (egs l 0 (nB l)).foldl (brS l (wts l (tT l) (-1)) (-1) 0 false) one = (egs l 0 (nB l)).foldl (fun s _ => s) one from foldl_same _ fun e he a => by
    obtain ⟨u, k⟩ := e
    obtain ⟨e1, e2, e3⟩ := egs_in he
    exact edg_no (by rw [hdm u e1 0 (in_nxt e2 e3), hp0]; simp)]
   clear hdm h1 h2 hi hb hp0
   generalize egs l 0 (nB l) = es
   induction es with
   | nil => rfl
   | cons e es ih => rw [List.foldl_cons]; exact ih
  ·rw [if_neg h0, if_neg h0]
   unfold brg
   refine foldl_same _ fun e he a => ?_
   obtain ⟨u, k⟩ := e
   obtain ⟨e1, e2, e3⟩ := egs_in he
   unfold brS
   by_cases hd : dm l b u = false
   ·have hlt : pO l u < pO l b := by
     rw [hdm u e1 b (in_nxt e2 e3)] at hd
     have := of_decide_eq_false hd
     omega
    have hw := h2 u (pl_mem g hi e1 hlt)
    simp only
    rw [hw]
   ·rw [if_neg (fun k => hd k.2), if_neg (fun k => hd k.2)]
 rw [h1]
 by_cases hh : 0 ≤ hdd l b (nL l)
 ·rw [if_pos hh, wgt_yes ⟨hh, by omega⟩, hx]
 ·rw [if_neg hh, wgt_no (fun k => hh k.1), hx]
theorem lsum_le {b u : Nat} : lsum l b u ≤ inf := by
 unfold lsum
 refine brF_le ?_
 unfold ins0
 split
 ·decide
 ·exact Nat.zero_le _
theorem chn_pair {b : Nat} (h : (nxt l b).length = 2) : (chn l b 0 = c78 ∧ chn l b 1 = c18) ∨ (chn l b 0 = c18 ∧ chn l b 1 = c78) ∨ (chn l b 0 = c38 ∧ chn l b 1 = c58) := by
 have h0 : chn l b 0 = chT l b 0 ((nxt l b).getD 0 0) ((nxt l b).getD 1 0) := by unfold chn; rw [if_neg (by omega)]
 have h1 : chn l b 1 = chT l b 1 ((nxt l b).getD 1 0) ((nxt l b).getD 0 0) := by unfold chn; rw [if_neg (by omega)]
 rw [h0, h1]
 generalize (nxt l b).getD 0 0 = x
 generalize (nxt l b).getD 1 0 = y
 cases hx : dm l x b <;> cases hy : dm l y b
 ·have e : dm l x b = dm l y b := hx.trans hy.symm
  by_cases hn : inn l b (nL l) < 0
  ·exact Or.inr (Or.inr ⟨chT_n e hn, chT_n e.symm hn⟩)
  ·obtain ⟨t, ht⟩ := Int.eq_ofNat_of_zero_le (show 0 ≤ inn l b (nL l) by omega)
   cases h1 : inB l t x <;> cases h2 : inB l t y
   ·exact Or.inr (Or.inr ⟨chT_s e ht (h1.trans h2.symm), chT_s e.symm ht (h2.trans h1.symm)⟩)
   ·exact Or.inr (Or.inl ⟨chT_i2 e ht h1 h2, chT_i1 e.symm ht h2 h1⟩)
   ·exact Or.inl ⟨chT_i1 e ht h1 h2, chT_i2 e.symm ht h2 h1⟩
   ·exact Or.inr (Or.inr ⟨chT_s e ht (h1.trans h2.symm), chT_s e.symm ht (h2.trans h1.symm)⟩)
 ·exact Or.inr (Or.inl ⟨chT_d2 hx hy, chT_d1 hy hx⟩)
 ·exact Or.inl ⟨chT_d1 hx hy, chT_d2 hy hx⟩
 ·have e : dm l x b = dm l y b := hx.trans hy.symm
  by_cases hn : inn l b (nL l) < 0
  ·exact Or.inr (Or.inr ⟨chT_n e hn, chT_n e.symm hn⟩)
  ·obtain ⟨t, ht⟩ := Int.eq_ofNat_of_zero_le (show 0 ≤ inn l b (nL l) by omega)
   cases h1 : inB l t x <;> cases h2 : inB l t y
   ·exact Or.inr (Or.inr ⟨chT_s e ht (h1.trans h2.symm), chT_s e.symm ht (h2.trans h1.symm)⟩)
   ·exact Or.inr (Or.inl ⟨chT_i2 e ht h1 h2, chT_i1 e.symm ht h2 h1⟩)
   ·exact Or.inl ⟨chT_i1 e ht h1 h2, chT_i2 e.symm ht h2 h1⟩
   ·exact Or.inr (Or.inr ⟨chT_s e ht (h1.trans h2.symm), chT_s e.symm ht (h2.trans h1.symm)⟩)
noncomputable def outF (l : List In) (b : Nat) : Nat → Nat
 | 0 => 0
 | k + 1 => fadd (outF l b k) (edg l b k)
theorem outF_le {b : Nat} : ∀ {k : Nat}, outF l b k ≤ inf
 | 0 => Nat.zero_le _
 | _ + 1 => fadd_le _ _
theorem out_w {b n : Nat} (hn : n = (nxt l b).length) (h0 : 0 < n) (h2 : n ≤ 2) : outF l b n ≤ fmul (wts l (tT l) (-1) b) k9 ∧ (k300 < wts l (tT l) (-1) b → fmul (wts l (tT l) (-1) b) k8 ≤ outF l b n) := by
 have hle : wts l (tT l) (-1) b ≤ inf := wts_le b
 rcases (show n = 1 ∨ n = 2 by omega) with rfl | rfl
 ·have e : outF l b 1 = wts l (tT l) (-1) b := by
   show fadd 0 (edg l b 0) = _
   rw [fadd_zero (show edg l b 0 ≤ inf from fmul_le _ _)]
   unfold edg chn
   rw [if_pos hn.symm]
   exact fmul_one' hle
  rw [e]
  exact ⟨le_fmul hle (by decide) (by decide), fun _ => fmul_le' hle (by decide)⟩
 ·have e : outF l b 2 = fadd (fadd 0 (edg l b 0)) (edg l b 1) := rfl
  rw [e]
  unfold edg
  rcases chn_pair hn.symm with ⟨a, b⟩ | ⟨a, b⟩ | ⟨a, b⟩
  ·rw [a, b]; exact out_two hle vl_c78 vl_c18 (by omega) (by omega)
  ·rw [a, b]; exact out_two hle vl_c18 vl_c78 (by omega) (by omega)
  ·rw [a, b]; exact out_two hle vl_c38 vl_c58 (by omega) (by omega)
end
end Go.Proofs.Ytcflgogodgfccaa
namespace Go.Proofs.Ytcflgogodgfccaa
open Go Go.RowKit Go.Wr Go.Fl Go.Ht
set_option maxRecDepth 100000
def f8 : Nat := 4620693217682128896
def f7 : Nat := 4619567317775286272
theorem v1 : fmul one one = one := by kernel_rfl
theorem v2 : fadd 0 one = one := by kernel_rfl
theorem v3 : fmul one c78 = c78 := by kernel_rfl
theorem v4 : fadd 0 c78 = c78 := by kernel_rfl
theorem v5 : frec (fsub one (mn c78)) = f8 := by kernel_rfl
theorem v6 : fmul one f8 = f8 := by kernel_rfl
theorem v7 : fmul f8 c18 = one := by kernel_rfl
theorem v8 : fmul f8 c78 = f7 := by kernel_rfl
theorem brS_yes {l : List In} {W : Nat → Nat} {loop : Int} {b s u k : Nat} {bk : Bool} (h1 : hol l loop u = true) (h2 : dm l b u = bk) : brS l W loop b bk s (u, k) = fadd s (fmul (W u) (chn l u k)) := by
 unfold brS
 rw [if_pos ⟨h1, h2⟩]
theorem brS_no {l : List In} {W : Nat → Nat} {loop : Int} {b s u k : Nat} {bk : Bool} (h : ¬ (hol l loop u = true ∧ dm l b u = bk)) : brS l W loop b bk s (u, k) = s := by
 unfold brS
 rw [if_neg h]
theorem sm_ord : ordL smallL = [0, 1, 2] := by unfold ordL; rw [sm_dfs]; rfl
theorem sm_nL : nL smallL = 1 := by unfold nL; rw [sm_heads]; rfl
theorem sm_hdN : hdN smallL 0 = 1 := by unfold hdN; rw [sm_heads]; rfl
theorem sm_inB (b : Nat) : inB smallL 0 b = decide (b = 1) := by
 unfold inB
 rw [sm_hdN]
 have h0 : lpB smallL 1 b = true ↔ b = 1 := by rw [lpB_iff, sm_nxt, sm_n, sN_lp]
 by_cases e : b = 1
 ·rw [decide_eq_true e]; exact h0.2 e
 ·rw [decide_eq_false e]
  cases h : lpB smallL 1 b with
  | true => exact absurd (h0.1 h) e
  | false => rfl
theorem sm_hdd (b : Nat) : hdd smallL b (nL smallL) = if b = 1 then 0 else -1 := by
 rw [sm_nL]
 unfold hdd
 rw [sm_hdN]
 by_cases e : b = 1
 ·rw [if_pos e.symm, if_pos e]; rfl
 ·rw [if_neg (fun h => e h.symm), if_neg e]; rfl
theorem sm_d11 : dm smallL 1 1 = true := by
 unfold dm
 rw [sm_nxt, sm_n]
 exact domB_yes (a := 1) (b := 1) (by omega) (by omega) (Dom.refl _ _)
theorem sm_d21 : dm smallL 2 1 = false := by
 unfold dm
 rw [sm_nxt, sm_n]
 exact domB_no (a := 2) (b := 1) sN_21
theorem sm_d10 : dm smallL 1 0 = false := by
 unfold dm
 rw [sm_nxt, sm_n]
 exact domB_no (a := 1) (b := 0) (fun h => by have := h [0] RW.root; simp at this)
theorem sm_c00 : chn smallL 0 0 = one := by unfold chn; rw [sm_nxt]; rfl
theorem sm_c10 : chn smallL 1 0 = c78 := by
 unfold chn
 rw [sm_nxt, if_neg (by decide)]
 exact chT_d1 (b := 1) (k := 0) (mine := 1) (oth := 2) sm_d11 sm_d21
theorem sm_c11 : chn smallL 1 1 = c18 := by
 unfold chn
 rw [sm_nxt, if_neg (by decide)]
 exact chT_d2 (b := 1) (k := 1) (mine := 2) (oth := 1) sm_d21 sm_d11
theorem sm_e1 : egs smallL 1 3 = [(0, 0), (1, 0)] := by simp [egs, egU, sm_nxt, sN]
theorem sm_e2 : egs smallL 2 3 = [(1, 1)] := by simp [egs, egU, sm_nxt, sN]
theorem sm_hm (b : Nat) : hol smallL (-1) b = true := by unfold hol; rfl
theorem sm_h0 (b : Nat) : hol smallL ((0 : Nat) : Int) b = decide (b = 1) := by
 unfold hol
 rw [decide_eq_false (by omega), Bool.false_or, Int.toNat_natCast, sm_inB]
theorem sm_w0 (t : Nat → Nat) : wts smallL t ((0 : Nat) : Int) 1 = one := by
 have hd : hd0 smallL ((0 : Nat) : Int) = 1 := by unfold hd0; rw [if_neg (by omega), Int.toNat_natCast, sm_hdN]
 unfold wts wtK
 rw [sm_ord, hd]
 simp only [List.foldl_cons, List.foldl_nil]
 unfold wst
 rw [sm_h0, sm_h0, sm_h0]
 rw [if_neg (by decide), if_pos (by decide), if_neg (by decide)]
 unfold Ht.upd
 rw [if_pos rfl, wgt_no (by rw [sm_hdd]; simp), if_pos rfl]
theorem sm_t0 : tT smallL 0 = f8 := by
 rw [tT_eq sm_g7 (by rw [sm_nL]; omega)]
 unfold trn brg
 rw [sm_hdN, sm_n, sm_e1]
 simp only [List.foldl_cons, List.foldl_nil]
 rw [brS_no (u := 0) (fun h => by rw [sm_h0] at h; exact absurd h.1 (by decide)), brS_yes (u := 1) (by rw [sm_h0]; rfl) sm_d11]
 rw [sm_w0, sm_c10, v3, v4, v5]
theorem sm_wt : wts smallL (tT smallL) (-1) 0 = one ∧ wts smallL (tT smallL) (-1) 1 = f8 ∧ wts smallL (tT smallL) (-1) 2 = one := by
 have hd : hd0 smallL (-1) = 0 := by unfold hd0; rfl
 obtain ⟨W0, h0⟩ : ∃ W, W = wst smallL (tT smallL) (-1) 0 (fun _ => 0) 0 := ⟨_, rfl⟩
 obtain ⟨W1, h1⟩ : ∃ W, W = wst smallL (tT smallL) (-1) 0 W0 1 := ⟨_, rfl⟩
 obtain ⟨W2, h2⟩ : ∃ W, W = wst smallL (tT smallL) (-1) 0 W1 2 := ⟨_, rfl⟩
 have hw : wts smallL (tT smallL) (-1) = W2 := by
  unfold wts wtK
  rw [sm_ord, hd, h2, h1, h0]
  rfl
 have a0 : W0 0 = one := by
  rw [h0]
  unfold wst
  rw [if_pos (sm_hm 0)]
  unfold Ht.upd
  rw [if_pos rfl, wgt_no (by rw [sm_hdd]; simp), if_pos rfl]
 have a1 : W1 1 = f8 := by
  rw [h1]
  unfold wst
  rw [if_pos (sm_hm 1)]
  unfold Ht.upd
  rw [if_pos rfl, wgt_yes (by rw [sm_hdd]; simp), if_neg (by omega), sm_hdd, if_pos rfl]
  unfold brg
  rw [sm_n, sm_e1]
  simp only [List.foldl_cons, List.foldl_nil]
  rw [brS_yes (u := 0) (sm_hm 0) sm_d10, brS_no (u := 1) (fun h => by have := h.2; rw [sm_d11] at this; cases this)]
  rw [show (0 : Int).toNat = 0 from rfl, a0, sm_c00, v1, v2, sm_t0, v6]
 have b0 : W1 0 = one := by
  rw [h1]
  unfold wst
  rw [if_pos (sm_hm 1)]
  unfold Ht.upd
  rw [if_neg (by omega), a0]
 have c2 : W2 2 = one := by
  rw [h2]
  unfold wst
  rw [if_pos (sm_hm 2)]
  unfold Ht.upd
  rw [if_pos rfl, wgt_no (by rw [sm_hdd]; simp), if_neg (by omega)]
  unfold brg
  rw [sm_n, sm_e2]
  simp only [List.foldl_cons, List.foldl_nil]
  rw [brS_yes (u := 1) (sm_hm 1) sm_d21]
  rw [a1, sm_c11, v7, v2]
 rw [hw]
 refine ⟨?_, ?_, c2⟩
 ·rw [h2]
  unfold wst
  rw [if_pos (sm_hm 2)]
  unfold Ht.upd
  rw [if_neg (by omega), b0]
 ·rw [h2]
  unfold wst
  rw [if_pos (sm_hm 2)]
  unfold Ht.upd
  rw [if_neg (by omega), a1]
theorem sm_gs : (List.range (nB smallL)).map (wts smallL (tT smallL) (-1)) = [one, f8, one] := by
 rw [sm_n]
 show [wts smallL (tT smallL) (-1) 0, wts smallL (tT smallL) (-1) 1, wts smallL (tT smallL) (-1) 2] = _
 rw [sm_wt.1, sm_wt.2.1, sm_wt.2.2]
theorem sm_ed0 : edR smallL 0 = [one] := by
 unfold edR
 rw [sm_nxt]
 show [edg smallL 0 0] = _
 unfold edg
 rw [sm_wt.1, sm_c00, v1]
theorem sm_ed1 : edR smallL 1 = [f7, one] := by
 unfold edR
 rw [sm_nxt]
 show [edg smallL 1 0, edg smallL 1 1] = _
 unfold edg
 rw [sm_wt.2.1, sm_c10, sm_c11, v7, v8]
theorem sm_ed2 : edR smallL 2 = [] := by
 unfold edR
 rw [sm_nxt]
 rfl
end Go.Proofs.Ytcflgogodgfccaa
namespace Go.Wr
open Go Go.RowKit
structure Chg (w w' : World) (S : Nat → Prop) : Prop where
 os : w'.os = w.os
 tape : w'.tape = w.tape
 output : w'.output = w.output
 size : w.heap.size ≤ w'.heap.size
 block : ∀ k, k < w.heap.size → ¬ S k → w'.heap[k]? = w.heap[k]?
section
variable {w w' w2 W a : World} {S : Nat → Prop}
theorem Chg.below {B : Nat} (h : Chg w w' S) (hb : Below B a w) (hS : ∀ k, S k → B ≤ k) (hB : B ≤ w.heap.size) : Below B a w' :=
 ⟨h.os.trans hb.os, h.tape.trans hb.tape, h.output.trans hb.output, Nat.le_trans hb.size h.size, fun k hk => (h.block k (by omega) (fun s => by have := hS k s; omega)).trans (hb.block k hk)⟩
theorem chg_set (hb : Below w.heap.size w W) (q i : Nat) (v : Value) : Chg w (W.setCell ⟨q, i, none⟩ v) (fun k => k = q) := by
 have h := (Below.refl 0 W).setCell (p := ⟨q, i, none⟩) (Nat.zero_le _) v
 exact ⟨h.os.trans hb.os, h.tape.trans hb.tape, h.output.trans hb.output, Nat.le_trans hb.size h.size, fun k hk hn => (Below.heap_setCell W ⟨q, i, none⟩ v k hn).trans (hb.block k hk)⟩
theorem chg_push {r : Option Nat} (hb : Below w.heap.size w W) (hg : W.grownBy w2 r) (q i : Nat) (v : Value) : Chg w (w2.setCell ⟨q, i, none⟩ v) (fun k => k = q ∨ r = some k) := by
 have h := (Below.refl 0 w2).setCell (p := ⟨q, i, none⟩) (Nat.zero_le _) v
 have hz := hb.size
 have hz2 := hg.size
 exact ⟨h.os.trans (hg.os.trans hb.os), h.tape.trans (hg.tape.trans hb.tape), h.output.trans (hg.output.trans hb.output), Nat.le_trans hz (Nat.le_trans hz2 h.size), fun k hk hn =>
  (Below.heap_setCell w2 ⟨q, i, none⟩ v k (fun e => hn (Or.inl e))).trans ((hg.block k (by omega) (fun e => hn (Or.inr e.symm))).trans (hb.block k hk))⟩
theorem OwR.chg {P : Program} {α : Type} {R : RT P α} {B : Nat} {v : Value} {l : List α} (h : OwR R B w v l) (c : Chg w w' S) (hn : ∀ g, v.ownBlock = some g → ¬ S g) : OwR R B w' v l := h.keep fun g hg => c.block g (h.lt hg) (hn g hg)
theorem blk_chg {b : Nat} {T : TypeId} {C : Array Value} (h : Blk w b T C) (c : Chg w w' S) (hn : ¬ S b) : Blk w' b T C := h.of_block (c.block b h.lt hn)
end
end Go.Wr
namespace Go.Proofs.Ytcflgogodgfccaa
open Go Go.RowKit Go.Wr Go.Fl Go.Ht
set_option maxHeartbeats 4000000
set_option maxRecDepth 100000
theorem Rws.chg {α : Type} {R : RT Try.prog α} {B : Nat} {rs : List Sv} {F : Nat → List α} {w w' : World} {S : Nat → Prop} (h : Rws R B rs F w) (c : Chg w w' S) (hn : ∀ g C, Blk w g R.T C → ¬ S g) : Rws R B rs F w' := h.keep fun g C _ hb => c.block g hb.lt (hn g C hb)
structure Rd1 (l : List In) (p pw ga : Nat) (wa : World) (vb vl vo : Value) (m m' : Nat) (vn vh : Sv) (cs : List Sv) (E : Nat → List (Nat × Nat)) (w : World) : Prop where
 bel : Below wa.heap.size wa w
 gz : wa.heap.size ≤ pw
 blk : Blk w pw 69 #[.pointer (some ⟨p, 0, none⟩), vb, vl, .slice none 0 0, vo, .slice (some ⟨ga, 0, none⟩) (nB l) (nB l), vn.v, vh.v, .slice none 0 0]
 ah : OwR tCC wa.heap.size w (.slice (some ⟨ga, 0, none⟩) (nB l) (nB l)) cs
 rw : Rws tCm wa.heap.size cs E w
 on : OwR tI wa.heap.size w vn.v (List.replicate m (-1))
 oh : OwR tI wa.heap.size w vh.v (List.replicate m' (-1))
 ap : ∀ g, vn.v.ownBlock = some g → vh.v.ownBlock ≠ some g
section
variable {l : List In} {p pw ga m m' : Nat} {wa w w2 W w' : World} {vb vl vo : Value} {vn vh : Sv} {cs : List Sv} {E E' : Nat → List (Nat × Nat)}
theorem Rd1.below (h : Rd1 l p pw ga wa vb vl vo m m' vn vh cs E w) (b : Below w.heap.size w w') : Rd1 l p pw ga wa vb vl vo m m' vn vh cs E w' :=
 ⟨bThen h.bel b, h.gz, h.blk.below b h.blk.lt, h.ah.below b, h.rw.below b, h.on.below b, h.oh.below b, h.ap⟩
theorem Rd1.len (h : Rd1 l p pw ga wa vb vl vo m m' vn vh cs E w) : cs.length = nB l := by
 rcases h.ah.form with ⟨e, _⟩ | ⟨g, c, e, _⟩
 ·cases e
 ·injection e with _ e _; exact e.symm
theorem Rd1.pushN {o : Obj} {g n c : Nat} (h : Rd1 l p pw ga wa vb vl vo m m' vn vh cs E w) (hg : (w.alloc o).grownBy w2 vn.v.ownBlock) (ho : OwR tI wa.heap.size w2 (.slice (some ⟨g, 0, none⟩) n c) (List.replicate (m + 1) (-1))) (hl : vn.v.ownBlock = some g ∨ g = (w.alloc o).heap.size) :
  Rd1 l p pw ga wa vb vl vo (m + 1) m' ⟨some ⟨g, 0, none⟩, n, c⟩ vh cs E (w2.setCell ⟨pw, 6, none⟩ (.slice (some ⟨g, 0, none⟩) n c)) := by
 have hb : Below w.heap.size w (w.alloc o) := bAl (bRefl w) o
 have hc := chg_push hb hg pw 6 (.slice (some ⟨g, 0, none⟩) n c)
 have hpn : vn.v.ownBlock ≠ some pw := h.on.ne h.blk (by decide)
 have hp2 : Blk w2 pw 69 _ := (h.blk.below hb h.blk.lt).of_block (hg.block pw (by have := h.blk.lt; have := hb.size; omega) (fun e => hpn e.symm))
 refine ⟨hc.below h.bel (fun k hk => ?_) h.bel.size, h.gz, ?_, h.ah.chg hc (fun q hq => ?_), h.rw.chg hc (fun q C hq => ?_), ho.set_other (ho.ne hp2 (by decide)), h.oh.chg hc (fun q hq => ?_), fun q hq => ?_⟩
 ·rcases hk with rfl | hk
  ·exact h.gz
  ·exact (h.on.blk hk).1
 ·exact hp2.set _ _
 ·obtain ⟨_, C, hq⟩ := h.ah.blk hq
  rintro (rfl | hk)
  ·exact blk_ne hq h.blk (by decide) rfl
  ·exact h.on.ne hq (by decide) hk
 ·rintro (rfl | hk)
  ·exact blk_ne hq h.blk (by decide) rfl
  ·exact h.on.ne hq (by decide) hk
 ·rintro (rfl | hk)
  ·exact h.oh.ne h.blk (by decide) hq
  ·exact h.ap q hk hq
 ·injection hq with hq
  simp only at hq
  subst hq
  rcases hl with hl | hl
  ·exact h.ap _ hl
  ·intro hq'
   have := h.oh.lt hq'
   simp at hl
   omega
theorem Rd1.pushH {o : Obj} {g n c : Nat} (h : Rd1 l p pw ga wa vb vl vo m m' vn vh cs E w) (hg : (w.alloc o).grownBy w2 vh.v.ownBlock) (ho : OwR tI wa.heap.size w2 (.slice (some ⟨g, 0, none⟩) n c) (List.replicate (m' + 1) (-1))) (hl : vh.v.ownBlock = some g ∨ g = (w.alloc o).heap.size) :
  Rd1 l p pw ga wa vb vl vo m (m' + 1) vn ⟨some ⟨g, 0, none⟩, n, c⟩ cs E (w2.setCell ⟨pw, 7, none⟩ (.slice (some ⟨g, 0, none⟩) n c)) := by
 have hb : Below w.heap.size w (w.alloc o) := bAl (bRefl w) o
 have hc := chg_push hb hg pw 7 (.slice (some ⟨g, 0, none⟩) n c)
 have hpn : vh.v.ownBlock ≠ some pw := h.oh.ne h.blk (by decide)
 have hp2 : Blk w2 pw 69 _ := (h.blk.below hb h.blk.lt).of_block (hg.block pw (by have := h.blk.lt; have := hb.size; omega) (fun e => hpn e.symm))
 refine ⟨hc.below h.bel (fun k hk => ?_) h.bel.size, h.gz, ?_, h.ah.chg hc (fun q hq => ?_), h.rw.chg hc (fun q C hq => ?_), h.on.chg hc (fun q hq => ?_), ho.set_other (ho.ne hp2 (by decide)), fun q hq hq' => ?_⟩
 ·rcases hk with rfl | hk
  ·exact h.gz
  ·exact (h.oh.blk hk).1
 ·exact hp2.set _ _
 ·obtain ⟨_, C, hq⟩ := h.ah.blk hq
  rintro (rfl | hk)
  ·exact blk_ne hq h.blk (by decide) rfl
  ·exact h.oh.ne hq (by decide) hk
 ·rintro (rfl | hk)
  ·exact blk_ne hq h.blk (by decide) rfl
  ·exact h.oh.ne hq (by decide) hk
 ·rintro (rfl | hk)
  ·exact h.on.ne h.blk (by decide) hq
  ·exact h.ap q hq hk
 ·injection hq' with hq'
  simp only at hq'
  subst hq'
  rcases hl with hl | hl
  ·exact h.ap _ hq hl
  ·have := h.on.lt hq
   simp at hl
   omega
theorem Rd1.pushE {g n c t : Nat} {s : Sv} {L : List (Nat × Nat)} (h : Rd1 l p pw ga wa vb vl vo m m' vn vh cs E w) (hb : Below w.heap.size w W) (hs : cs[t]? = some s) (hg : W.grownBy w2 s.v.ownBlock) (ho : OwR tCm wa.heap.size w2 (.slice (some ⟨g, 0, none⟩) n c) L) (hl : s.v.ownBlock = some g ∨ g = W.heap.size) (h1 : E' t = L) (h2 : ∀ j, j ≠ t → E' j = E j) :
  Rd1 l p pw ga wa vb vl vo m m' vn vh (cs.set t ⟨some ⟨g, 0, none⟩, n, c⟩) E' (w2.setCell ⟨ga, t, none⟩ (.slice (some ⟨g, 0, none⟩) n c)) := by
 have hc := chg_push hb hg ga t (.slice (some ⟨g, 0, none⟩) n c)
 have hso := h.rw.own t s hs
 obtain ⟨hga, Cg, hgb⟩ := h.ah.blk (g := ga) rfl
 have hz := hb.size
 have kp : ∀ q T C, Blk w q T C → tCm.T ≠ T → w2.heap[q]? = w.heap[q]? := fun q T C hq hT => (hg.block q (by have := hq.lt; omega) (fun e => hso.ne hq hT e.symm)).trans (hb.block q hq.lt)
 have hah2 : OwR tCC wa.heap.size w2 (.slice (some ⟨ga, 0, none⟩) (nB l) (nB l)) cs := h.ah.keep fun q hq => by obtain ⟨_, C, hq⟩ := h.ah.blk hq; exact kp q _ C hq (by decide)
 have hset := hah2.set (k := t) (j := 0) (x := s) (y := ⟨some ⟨g, 0, none⟩, n, c⟩) (v := .slice (some ⟨g, 0, none⟩) n c) hs (by decide) rfl
 have e2 : t * tCC.n + 0 = t := by show t * 1 + 0 = t; omega
 rw [e2] at hset
 have hrw := h.rw.grow (F' := E') hs hb hg ho hl h1 h2
 have ne : ∀ q T C, Blk w q T C → tCC.T ≠ T → tCm.T ≠ T → ¬ (q = ga ∨ s.v.ownBlock = some q) := fun q T C hq h1 h2 => by
  rintro (rfl | hk)
  ·exact blk_ne hgb hq h1 rfl
  ·exact hso.ne hq h2 hk
 refine ⟨hc.below h.bel (fun k hk => ?_) h.bel.size, h.gz, blk_chg h.blk hc (ne _ _ _ h.blk (by decide) (by decide)), hset, ?_, h.on.chg hc (fun q hq => ?_), h.oh.chg hc (fun q hq => ?_), h.ap⟩
 ·rcases hk with rfl | hk
  ·exact hga
  ·exact (hso.blk hk).1
 ·refine hrw.keep fun q C _ hq => Below.heap_setCell w2 ⟨ga, t, none⟩ _ q (fun e => ?_)
  subst e
  exact blk_ne (hgb.of_block (kp _ _ _ hgb (by decide))) hq (by decide) rfl
 ·obtain ⟨_, C, hq⟩ := h.on.blk hq
  exact ne _ _ _ hq (by decide) (by decide)
 ·obtain ⟨_, C, hq⟩ := h.oh.blk hq
  exact ne _ _ _ hq (by decide) (by decide)
end
structure Rd2 (l : List In) (p pw gn cn gh ch Z : Nat) (wa : World) (vb vl vo vi va : Value) (cs rs : List Sv) (N H : Nat → Int) (w : World) : Prop where
 bel : Below wa.heap.size wa w
 gz : wa.heap.size ≤ pw
 blk : Blk w pw 69 #[.pointer (some ⟨p, 0, none⟩), vb, vl, vi, vo, va, .slice (some ⟨gn, 0, none⟩) (nB l) cn, .slice (some ⟨gh, 0, none⟩) (nB l) ch, .slice none 0 0]
 ah : OwR tCC wa.heap.size w va cs
 cl : cs.length = nB l
 rw : Rws tCm wa.heap.size cs (fun c => egs l c (nB l)) w
 on : OwR tI wa.heap.size w (.slice (some ⟨gn, 0, none⟩) (nB l) cn) ((List.range (nB l)).map N)
 oh : OwR tI wa.heap.size w (.slice (some ⟨gh, 0, none⟩) (nB l) ch) ((List.range (nB l)).map H)
 ne : gn ≠ gh
 ri : OwR tBB wa.heap.size w vi rs
 rr : Rws tB wa.heap.size rs (fun i => (List.range (nB l)).map (inB l i)) w
 rb : ∀ (i : Nat) (s : Sv), rs[i]? = some s → ∀ g, s.v.ownBlock = some g → g < Z
section
variable {l : List In} {p pw gn cn gh ch Z : Nat} {wa w w2 W w' : World} {vb vl vo vi va : Value} {cs rs : List Sv} {N H : Nat → Int}
theorem Rd2.below (h : Rd2 l p pw gn cn gh ch Z wa vb vl vo vi va cs rs N H w) (b : Below w.heap.size w w') : Rd2 l p pw gn cn gh ch Z wa vb vl vo vi va cs rs N H w' :=
 ⟨bThen h.bel b, h.gz, h.blk.below b h.blk.lt, h.ah.below b, h.cl, h.rw.below b, h.on.below b, h.oh.below b, h.ne, h.ri.below b, h.rr.below b, h.rb⟩
theorem Rd2.top (h : Rd2 l p pw gn cn gh ch Z wa vb vl vo vi va cs rs N H w) {Z' : Nat} (hZ : w.heap.size ≤ Z') : Rd2 l p pw gn cn gh ch Z' wa vb vl vo vi va cs rs N H w :=
 ⟨h.bel, h.gz, h.blk, h.ah, h.cl, h.rw, h.on, h.oh, h.ne, h.ri, h.rr, fun i s hs g hg => by have := (h.rr.own i s hs).lt hg; omega⟩
theorem upd_int (W : Nat → Int) {n b : Nat} {x : Int} (hb : b < n) : ((List.range n).map W).set b x = (List.range n).map (setF W b x) := by
 apply List.ext_getElem?
 intro k
 rw [List.getElem?_set, List.length_map, List.length_range]
 by_cases hk : k < n
 ·rw [List.getElem?_map, List.getElem?_map, List.getElem?_range hk]
  by_cases e : b = k
  ·subst e
   rw [if_pos rfl, if_pos hb]
   simp [setF_self]
  ·rw [if_neg e]
   simp only [Option.map_some]
   rw [setF_ne (Ne.symm e)]
 ·rw [if_neg (by omega), List.getElem?_eq_none (by simp; omega), List.getElem?_eq_none (by simp; omega)]
theorem Rd2.setH (h : Rd2 l p pw gn cn gh ch Z wa vb vl vo vi va cs rs N H w) {b : Nat} {x : Int} (hb : b < nB l) : Rd2 l p pw gn cn gh ch Z wa vb vl vo vi va cs rs N (setF H b x) (w.setCell ⟨gh, b, none⟩ (.int .i64 x)) := by
 have hc := chg_set (bRefl w) gh b (.int .i64 x)
 obtain ⟨hg, Cg, hgb⟩ := h.oh.blk (g := gh) rfl
 have ne : ∀ q T C, Blk w q T C → tI.T ≠ T → ¬ (q = gh) := fun q T C hq hT e => by subst e; exact blk_ne hgb hq hT rfl
 have hset := h.oh.set (k := b) (j := 0) (x := H b) (y := x) (v := .int .i64 x) (by rw [List.getElem?_map, List.getElem?_range hb]; rfl) (by decide) rfl
 have e2 : b * tI.n + 0 = b := by show b * 1 + 0 = b; omega
 rw [e2, upd_int H hb] at hset
 refine ⟨hc.below h.bel (fun k hk => by rw [hk]; exact hg) h.bel.size, h.gz, blk_chg h.blk hc (ne _ _ _ h.blk (by decide)), h.ah.chg hc (fun q hq => ?_), h.cl, h.rw.chg hc (fun q C hq => ne _ _ _ hq (by decide)), h.on.chg hc (fun q hq e => ?_), hset, h.ne, h.ri.chg hc (fun q hq => ?_), h.rr.chg hc (fun q C hq => ne _ _ _ hq (by decide)), h.rb⟩
 ·obtain ⟨_, C, hq⟩ := h.ah.blk hq; exact ne _ _ _ hq (by decide)
 ·injection hq with hq; simp only at hq; exact h.ne (by omega)
 ·obtain ⟨_, C, hq⟩ := h.ri.blk hq; exact ne _ _ _ hq (by decide)
theorem Rd2.setN (h : Rd2 l p pw gn cn gh ch Z wa vb vl vo vi va cs rs N H w) {b : Nat} {x : Int} (hb : b < nB l) : Rd2 l p pw gn cn gh ch Z wa vb vl vo vi va cs rs (setF N b x) H (w.setCell ⟨gn, b, none⟩ (.int .i64 x)) := by
 have hc := chg_set (bRefl w) gn b (.int .i64 x)
 obtain ⟨hg, Cg, hgb⟩ := h.on.blk (g := gn) rfl
 have ne : ∀ q T C, Blk w q T C → tI.T ≠ T → ¬ (q = gn) := fun q T C hq hT e => by subst e; exact blk_ne hgb hq hT rfl
 have hset := h.on.set (k := b) (j := 0) (x := N b) (y := x) (v := .int .i64 x) (by rw [List.getElem?_map, List.getElem?_range hb]; rfl) (by decide) rfl
 have e2 : b * tI.n + 0 = b := by show b * 1 + 0 = b; omega
 rw [e2, upd_int N hb] at hset
 refine ⟨hc.below h.bel (fun k hk => by rw [hk]; exact hg) h.bel.size, h.gz, blk_chg h.blk hc (ne _ _ _ h.blk (by decide)), h.ah.chg hc (fun q hq => ?_), h.cl, h.rw.chg hc (fun q C hq => ne _ _ _ hq (by decide)), hset, h.oh.chg hc (fun q hq e => ?_), h.ne, h.ri.chg hc (fun q hq => ?_), h.rr.chg hc (fun q C hq => ne _ _ _ hq (by decide)), h.rb⟩
 ·obtain ⟨_, C, hq⟩ := h.ah.blk hq; exact ne _ _ _ hq (by decide)
 ·injection hq with hq; simp only at hq; exact h.ne (by omega)
 ·obtain ⟨_, C, hq⟩ := h.ri.blk hq; exact ne _ _ _ hq (by decide)
theorem Rd2.setM (h : Rd2 l p pw gn cn gh ch Z wa vb vl vo vi va cs rs N H w) {gi ci b : Nat} {M : Nat → Bool} (hm : OwR tB wa.heap.size w (.slice (some ⟨gi, 0, none⟩) (nB l) ci) ((List.range (nB l)).map M)) (hZ : Z ≤ gi) (v : Value) : Rd2 l p pw gn cn gh ch Z wa vb vl vo vi va cs rs N H (w.setCell ⟨gi, b, none⟩ v) := by
 have hc := chg_set (bRefl w) gi b v
 obtain ⟨hg, Cg, hgb⟩ := hm.blk (g := gi) rfl
 have ne : ∀ q T C, Blk w q T C → tB.T ≠ T → ¬ (q = gi) := fun q T C hq hT e => by subst e; exact blk_ne hgb hq hT rfl
 refine ⟨hc.below h.bel (fun k hk => by rw [hk]; exact hg) h.bel.size, h.gz, blk_chg h.blk hc (ne _ _ _ h.blk (by decide)), h.ah.chg hc (fun q hq => ?_), h.cl, h.rw.chg hc (fun q C hq => ne _ _ _ hq (by decide)), h.on.chg hc (fun q hq => ?_), h.oh.chg hc (fun q hq => ?_), h.ne, h.ri.chg hc (fun q hq => ?_), ⟨fun i s hs => (h.rr.own i s hs).chg hc (fun q hq e => ?_), h.rr.ap⟩, h.rb⟩
 ·obtain ⟨_, C, hq⟩ := h.ah.blk hq; exact ne _ _ _ hq (by decide)
 ·obtain ⟨_, C, hq⟩ := h.on.blk hq; exact ne _ _ _ hq (by decide)
 ·obtain ⟨_, C, hq⟩ := h.oh.blk hq; exact ne _ _ _ hq (by decide)
 ·obtain ⟨_, C, hq⟩ := h.ri.blk hq; exact ne _ _ _ hq (by decide)
 ·have := h.rb i s hs q hq; omega
theorem Rd2.pushI {g n c : Nat} {s : Sv} {V : World} (h : Rd2 l p pw gn cn gh ch V.heap.size wa vb vl vo vi va cs rs N H w) (hV : Rws tB wa.heap.size rs (fun i => (List.range (nB l)).map (inB l i)) V) (hVB : wa.heap.size ≤ V.heap.size) (hb : Below w.heap.size w W) (hg : W.grownBy w2 vi.ownBlock) (ho : OwR tBB wa.heap.size w2 (.slice (some ⟨g, 0, none⟩) n c) (rs ++ [s])) (hs : OwR tB V.heap.size w s.v ((List.range (nB l)).map (inB l rs.length))) :
  Rd2 l p pw gn cn gh ch (w2.heap.size) wa vb vl vo (.slice (some ⟨g, 0, none⟩) n c) va cs (rs ++ [s]) N H (w2.setCell ⟨pw, 3, none⟩ (.slice (some ⟨g, 0, none⟩) n c)) := by
 have hc := chg_push hb hg pw 3 (.slice (some ⟨g, 0, none⟩) n c)
 have hpn : vi.ownBlock ≠ some pw := h.ri.ne h.blk (by decide)
 have hz := hb.size
 have hp2 : Blk w2 pw 69 _ := (h.blk.below hb h.blk.lt).of_block (hg.block pw (by have := h.blk.lt; omega) (fun e => hpn e.symm))
 have ne : ∀ q T C, Blk w q T C → tBB.T ≠ T → 69 ≠ T → ¬ (q = pw ∨ vi.ownBlock = some q) := fun q T C hq h1 h2 => by
  rintro (rfl | hk)
  ·exact blk_ne h.blk hq h2 rfl
  ·exact h.ri.ne hq h1 hk
 have hrr : Rws tB wa.heap.size (rs ++ [s]) (fun i => (List.range (nB l)).map (inB l i)) (w2.setCell ⟨pw, 3, none⟩ (.slice (some ⟨g, 0, none⟩) n c)) :=
  Rws.snoc hV (h.rr.chg hc (fun q C hq => ne _ _ _ hq (by decide) (by decide))) (hs.chg hc (fun q hq => by obtain ⟨_, C, hq⟩ := hs.blk hq; exact ne _ _ _ hq (by decide) (by decide))) hVB
 refine ⟨hc.below h.bel (fun k hk => ?_) h.bel.size, h.gz, hp2.set _ _, h.ah.chg hc (fun q hq => ?_), h.cl, h.rw.chg hc (fun q C hq => ne _ _ _ hq (by decide) (by decide)), h.on.chg hc (fun q hq => ?_), h.oh.chg hc (fun q hq => ?_), h.ne, ho.set_other (ho.ne hp2 (by decide)), hrr, fun i t ht q hq => ?_⟩
 ·rcases hk with rfl | hk
  ·exact h.gz
  ·exact (h.ri.blk hk).1
 ·obtain ⟨_, C, hq⟩ := h.ah.blk hq; exact ne _ _ _ hq (by decide) (by decide)
 ·obtain ⟨_, C, hq⟩ := h.on.blk hq; exact ne _ _ _ hq (by decide) (by decide)
 ·obtain ⟨_, C, hq⟩ := h.oh.blk hq; exact ne _ _ _ hq (by decide) (by decide)
 ·have := (hrr.own i t ht).lt hq
  simpa using this
end
end Go.Proofs.Ytcflgogodgfccaa
namespace Go.Proofs.Ytcflgogodgfccaa
open Go Go.RowKit Go.Wr Go.Fl Go.Ht
set_option maxHeartbeats 4000000
set_option maxRecDepth 100000
noncomputable def lnB (l : List In) (x : Int) : Int := ((blkL l x.toNat).length : Int)
theorem turn_cmp {l : List In} {p pw g : Nat} {wa : World} {vb vl vo vi va vn vh vt : Value} {w : World} (h : Wk l p pw g wa vb vl vo vi va vn vh vt w) (bx : Nat) (hb : w.cell? ⟨bx, 0, none⟩ = some (.pointer (some ⟨pw, 0, none⟩))) (x y : Int) (hx : 0 ≤ x ∧ x < nL l) (hy : 0 ≤ y ∧ y < nL l) :
  Calls Try.prog 72 #[.int .i64 x, .int .i64 y, .pointer (some ⟨bx, 0, none⟩)] w fun e w' => e = .returned (.int .i64 (lnB l x - lnB l y)) ∧ ∃ m, w' = w.drewN m := by
 obtain ⟨i, rfl⟩ := Int.eq_ofNat_of_zero_le hx.1
 obtain ⟨j, rfl⟩ := Int.eq_ofNat_of_zero_le hy.1
 have h8 : nL l ≤ 8 := h.g7.hd8
 have h512 := h.g7.n512
 have hld := h.ld.below h.bel
 obtain ⟨al, cl, rfl, v1, v2⟩ := hld.form
 rw [dL_len] at hld v1
 have c2 : w.cell? ⟨pw, 2, none⟩ = some (.slice al (nL l) cl) := by have := h.blk.cell 2; rw [dL_len] at this; exact this
 obtain ⟨g1, o1, ba, bn, bc, rfl, -, cx, hbn, -⟩ := hld.one (i := i) (by omega)
 obtain ⟨g2, o2, da, dn, dc, e2, -, cy, hdn, -⟩ := hld.one (i := j) (by omega)
 injection e2 with e2
 injection e2 with e21 e22
 subst e21 e22
 have ex : lnB l (i : Int) = (bn : Int) := by unfold lnB; rw [Int.toNat_natCast, hbn]
 have ey : lnB l (j : Int) = (dn : Int) := by unfold lnB; rw [Int.toNat_natCast, hdn]
 have hb1 : bn ≤ 512 := by rw [hbn]; unfold blkL; exact Nat.le_trans (ins_len _ _) h512
 have hb2 : dn ≤ 512 := by rw [hdn]; unfold blkL; exact Nat.le_trans (ins_len _ _) h512
 rw [ex, ey]
 have hin : (i : Int) < (nL l : Int) := hx.2
 have hjn : (j : Int) < (nL l : Int) := hy.2
 clear hbn hdn ex ey h hld hx hy v1 v2
 go_enter Try.func72, Try.ntmps72
 go_wp2_with fail
 go_quiet (fail)
 go_wp2
 go_ret
 exact ⟨rfl, _, rfl⟩
end Go.Proofs.Ytcflgogodgfccaa
