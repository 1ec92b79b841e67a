/- What the law needs, one part after another: walks of functions and plain laws. No conditions but those that each law names. -/
import Derived.Test.YtndnfjcfpcfakaaTpad
import Derived.Lib.SliceRun
namespace Go.Proofs.Ytndnfjcfpcfakaa
open Go Go.RowKit Go.Wr Go.Fl
set_option maxHeartbeats 4000000
set_option maxRecDepth 100000
structure Lq where
 hd : Nat
 bl : Sv
 q : Nat
 g : Nat
def arL (E : List Lq) (pa : Nat → Int) : List Ar := E.mapIdx fun i e => ⟨(e.hd : Int), e.bl, pa i⟩
theorem arL_len (E : List Lq) (pa : Nat → Int) : (arL E pa).length = E.length := by simp [arL]
theorem arL_snoc (E : List Lq) (e : Lq) (pa : Nat → Int) : arL (E ++ [e]) pa = arL E pa ++ [⟨(e.hd : Int), e.bl, pa E.length⟩] := by
 unfold arL
 rw [List.mapIdx_concat]
theorem arL_get {E : List Lq} {pa : Nat → Int} {i : Nat} {e : Lq} (h : E[i]? = some e) : (arL E pa)[i]? = some ⟨(e.hd : Int), e.bl, pa i⟩ := by
 unfold arL
 rw [List.getElem?_mapIdx, h]
 rfl
theorem arL_set {E : List Lq} {pa pa' : Nat → Int} {i : Nat} {e : Lq} (h : E[i]? = some e) (hp : ∀ x, x ≠ i → pa' x = pa x) : (arL E pa).set i ⟨(e.hd : Int), e.bl, pa' i⟩ = arL E pa' := by
 have hi : i < E.length := (List.getElem?_eq_some_iff.1 h).1
 apply List.ext_getElem?
 intro k
 rw [List.getElem?_set, arL_len]
 by_cases e1 : i = k
 ·subst e1
  rw [if_pos rfl, if_pos hi, arL_get h]
 ·rw [if_neg e1]
  unfold arL
  rw [List.getElem?_mapIdx, List.getElem?_mapIdx, hp k (Ne.symm e1)]
theorem arL_congr {E : List Lq} {pa pa' : Nat → Int} (h : ∀ x, x < E.length → pa' x = pa x) : arL E pa = arL E pa' := by
 apply List.ext_getElem?
 intro k
 unfold arL
 rw [List.getElem?_mapIdx, List.getElem?_mapIdx]
 by_cases hk : k < E.length
 ·rw [h k hk]
 ·rw [List.getElem?_eq_none (by omega)]
  rfl
def El (B n : Nat) (l : List In) (e : Lq) (w : World) : Prop := OwR tI B w e.bl.v (nI (ins (lpB l e.hd) n)) ∧ St B e.q e.g n (lpB l e.hd) w
theorem El.keep {B n : Nat} {l : List In} {e : Lq} {w w' : World} (h : El B n l e w) (hk : ∀ k T C, (T = 3 ∨ T = 4 ∨ T = 152) → Blk w k T C → w'.heap[k]? = w.heap[k]?) : El B n l e w' := by
 obtain ⟨h1, h2⟩ := h
 obtain ⟨_, C, hg⟩ := h2.gb.blk (g := e.g) rfl
 exact ⟨h1.keep fun g hg => by obtain ⟨_, C, hb⟩ := h1.blk hg; exact hk g _ C (Or.inl rfl) hb, h2.keep (hk _ _ _ (Or.inr (Or.inr rfl)) h2.pb) (hk _ _ _ (Or.inr (Or.inl rfl)) hg)⟩
theorem El.below {B n : Nat} {l : List In} {e : Lq} {w w' : World} (h : El B n l e w) (b : Below w.heap.size w w') : El B n l e w' := h.keep fun _ _ _ _ hb => b.block _ hb.lt
theorem El.len {B n : Nat} {l : List In} {e : Lq} {w : World} (h : El B n l e w) : e.bl.n = ((List.range n).filter (lpB l e.hd)).length := by
 rcases h.1.form with ⟨e1, e2⟩ | ⟨g, c, e1, _⟩
 ·have h2 := congrArg List.length e2
  rw [nI_len] at h2
  unfold Sv.v at e1
  injection e1 with _ e1 _
  rw [e1]
  exact h2.symm
 ·unfold Sv.v at e1
  injection e1 with _ e1 _
  rw [e1, nI_len]
  rfl
structure Ne (w : World) (p n : Nat) (l : List In) (vb va vo vr vp vi : Value) (Ea Es : List Lq) (pa : Nat → Int) (vl vs : Value) (wr : World) : Prop where
 ex : Ex p w wr
 pb : Blk wr p 90 #[vb, va, vo, vr, vp, vi, vl]
 la : OwR tA w.heap.size wr vl (arL Ea pa)
 ls : OwR tP w.heap.size wr vs (Es.map (·.q))
 el : ∀ e ∈ Ea, El w.heap.size n l e wr
section
variable {w wr w' : World} {p n : Nat} {l : List In} {vb va vo vr vp vi vl vs v' : Value} {Ea Es : List Lq} {pa pa' : Nat → Int}
theorem Ne.below (h : Ne w p n l vb va vo vr vp vi Ea Es pa vl vs wr) (b : Below wr.heap.size wr w') : Ne w p n l vb va vo vr vp vi Ea Es pa vl vs w' :=
 ⟨h.ex.trans (Ex.of_below b), h.pb.below b h.pb.lt, h.la.below b, h.ls.below b, fun e he => (h.el e he).below b⟩
theorem Ne.putA (h : Ne w p n l vb va vo vr vp vi Ea Es pa vl vs wr) {e : Lq} (he : El w.heap.size n l e wr) (ho : OwR tA w.heap.size w' v' (arL (Ea ++ [e]) pa)) (hg : wr.grownBy w' vl.ownBlock) : Ne w p n l vb va vo vr vp vi (Ea ++ [e]) Es pa v' vs (w'.setCell ⟨p, 6, none⟩ v') := by
 have hpb : Blk w' p 90 #[vb, va, vo, vr, vp, vi, vl] := h.pb.of_block (hg.block p h.pb.lt (fun e => h.la.ne h.pb (by decide) e.symm))
 have hel : ∀ x ∈ Ea ++ [e], El w.heap.size n l x w' := fun x hx => by
  have h0 : El w.heap.size n l x wr := by
   rcases List.mem_append.1 hx with hx | hx
   ·exact h.el x hx
   ·simp at hx; subst hx; exact he
  exact h0.keep fun k T C hT hb => hg.block k hb.lt (fun e => h.la.ne hb (by rcases hT with rfl | rfl | rfl <;> decide) e.symm)
 have hls : OwR tP w.heap.size w' vs (Es.map (·.q)) := h.ls.keep fun g e => by
  obtain ⟨_, C, hb⟩ := h.ls.blk e
  exact hg.block g hb.lt (fun e => h.la.ne hb (by decide) e.symm)
 exact ⟨(h.ex.grown hg fun g e => (h.la.blk e).1).set 6 v', (hpb.set 6 v').eq rfl, ho.set_other (ho.ne hpb (by decide)), hls.set_other (hls.ne hpb (by decide)),
  fun x hx => (hel x hx).keep fun k T C hT hb => Below.heap_setCell w' ⟨p, 6, none⟩ v' k (blk_ne hb hpb (by rcases hT with rfl | rfl | rfl <;> decide))⟩
theorem Ne.putS (h : Ne w p n l vb va vo vr vp vi Ea Es pa vl vs wr) {e : Lq} (ho : OwR tP w.heap.size w' v' ((Es ++ [e]).map (·.q))) (hg : wr.grownBy w' vs.ownBlock) : Ne w p n l vb va vo vr vp vi Ea (Es ++ [e]) pa vl v' w' := by
 have hpb : Blk w' p 90 #[vb, va, vo, vr, vp, vi, vl] := h.pb.of_block (hg.block p h.pb.lt (fun e => h.ls.ne h.pb (by decide) e.symm))
 have hla : OwR tA w.heap.size w' vl (arL Ea pa) := h.la.keep fun g e => by
  obtain ⟨_, C, hb⟩ := h.la.blk e
  exact hg.block g hb.lt (fun e => h.ls.ne hb (by decide) e.symm)
 exact ⟨h.ex.grown hg fun g e => (h.ls.blk e).1, hpb, hla, ho, fun x hx => (h.el x hx).keep fun k T C hT hb => hg.block k hb.lt (fun e => h.ls.ne hb (by rcases hT with rfl | rfl | rfl <;> decide) e.symm)⟩
theorem Ne.par {g m c : Nat} (h : Ne w p n l vb va vo vr vp vi Ea Es pa (.slice (some ⟨g, 0, none⟩) m c) vs wr) {i : Nat} {e : Lq} (hi : Ea[i]? = some e) (hp : ∀ x, x ≠ i → pa' x = pa x) (z : Int) (hz : z = pa' i) :
  Ne w p n l vb va vo vr vp vi Ea Es pa' (.slice (some ⟨g, 0, none⟩) m c) vs (wr.setCell ⟨g, i * 3 + 2, none⟩ (.int .i64 z)) := by
 subst hz
 obtain ⟨hB, C, hg⟩ := h.la.blk (g := g) rfl
 have hs := h.la.set (k := i) (j := 2) (x := ⟨(e.hd : Int), e.bl, pa i⟩) (y := ⟨(e.hd : Int), e.bl, pa' i⟩) (v := .int .i64 (pa' i)) (arL_get hi) (by decide) rfl
 rw [arL_set hi hp] at hs
 exact ⟨h.ex.set_new _ _ hB, h.pb.set_other g _ _ (blk_ne h.pb hg (by decide)), hs, h.ls.set_other (h.ls.ne hg (by decide)), fun x hx => (h.el x hx).keep fun k T C hT hb => Below.heap_setCell wr ⟨g, _, none⟩ _ k (blk_ne hb hg (by rcases hT with rfl | rfl | rfl <;> decide))⟩
end
noncomputable def paF (l : List In) (H i k : Nat) : Nat → Int := fun x => if x < i then parK l x H else if x = i then parK l x k else -1
theorem paF_next (l : List In) (H i : Nat) : paF l H i H = paF l H (i + 1) 0 := by
 funext x
 unfold paF
 by_cases h1 : x < i
 ·rw [if_pos h1, if_pos (by omega)]
 ·rw [if_neg h1]
  by_cases h2 : x = i
  ·rw [if_pos h2, if_pos (by omega)]
  ·rw [if_neg h2, if_neg (by omega)]
   split <;> rfl
theorem paF_ne (l : List In) (H i k k' x : Nat) (h : x ≠ i) : paF l H i k' x = paF l H i k x := by
 unfold paF
 rw [if_neg (c := x = i) h, if_neg (c := x = i) h]
theorem paF_self (l : List In) (H i k : Nat) : paF l H i k i = parK l i k := by
 unfold paF
 rw [if_neg (Nat.lt_irrefl _), if_pos rfl]
theorem paF_zero (l : List In) (H : Nat) : paF l H 0 0 = fun _ => -1 := by
 funext x
 unfold paF
 rw [if_neg (by omega)]
 split <;> rfl
theorem paF_same {l : List In} {H i k : Nat} (h : parK l i (k + 1) = parK l i k) : paF l H i (k + 1) = paF l H i k := by
 funext x
 by_cases e : x = i
 ·subst e; rw [paF_self, paF_self, h]
 ·exact paF_ne l H i k (k + 1) x e
theorem has_nat (w : World) (B p g n : Nat) (V : Nat → Bool) (h : St B p g n V w) (i : Nat) (hi : i < n) (x : Bool) (hx : V i = x) :
  Calls Try.prog 75 #[.pointer (some ⟨p, 0, none⟩), .int .i64 (i : Int)] w fun e w' => e = .returned (.bool x) ∧ w' = w := by
 subst hx
 have := has_ok w B p g n V h (i : Int) (by omega) (by omega)
 rw [Int.toNat_natCast] at this
 exact this
theorem parK_skip {l : List In} {i k : Nat} (h : k = i ∨ lpB l ((heads l).getD k 0) ((heads l).getD i 0) = false) : parK l i (k + 1) = parK l i k := by
 show (if k = i ∨ lpB l ((heads l).getD k 0) ((heads l).getD i 0) = false then parK l i k else _) = _
 rw [if_pos h]
theorem parK_in {l : List In} {i k : Nat} (h1 : k ≠ i) (h2 : lpB l ((heads l).getD k 0) ((heads l).getD i 0) = true) : parK l i (k + 1) =
  if parK l i k < 0 ∨ ((List.range (nB l)).filter (lpB l ((heads l).getD k 0))).length < ((List.range (nB l)).filter (lpB l ((heads l).getD (parK l i k).toNat 0))).length then (k : Int) else parK l i k := by
 show (if k = i ∨ lpB l ((heads l).getD k 0) ((heads l).getD i 0) = false then parK l i k else _) = _
 rw [if_neg (by rw [h2]; simp [h1])]
structure Nd (p n : Nat) (l : List In) (pl : Nat → Nat) (d : Nat → Option Nat) (ab : Option Addr) (cb : Nat) (va : Value) (ss : List Sv) (b4 o4 b5 o5 c4 c5 : Nat) (w : World) : Prop where
 gr : Gr (nxt l) pl n (ahd l)
 id : Idom (nxt l) pl n d
 sa : SlX tII p w va ss
 ls : ss.length = n
 na : ∀ b s, ss[b]? = some s → SlX tI p w s.v (nI (ahd l b))
 p4 : ∀ b, b < n → w.cell? ⟨b4, o4 + b, none⟩ = some (.int .i64 (pl b : Int))
 p5 : ∀ b, b < n → w.cell? ⟨b5, o5 + b, none⟩ = some (.int .i64 (oi (d b)))
 n4 : b4 ≠ p ∧ b4 < w.heap.size
 n5 : b5 ≠ p ∧ b5 < w.heap.size
theorem Nd.ex {p n : Nat} {l : List In} {pl : Nat → Nat} {d : Nat → Option Nat} {ab : Option Addr} {cb : Nat} {va : Value} {ss : List Sv} {b4 o4 b5 o5 c4 c5 : Nat} {w w' : World} (h : Nd p n l pl d ab cb va ss b4 o4 b5 o5 c4 c5 w) (e : Ex p w w') : Nd p n l pl d ab cb va ss b4 o4 b5 o5 c4 c5 w' :=
 ⟨h.gr, h.id, h.sa.ex e, h.ls, fun b s hs => (h.na b s hs).ex e, fun b hb => (World.cell?_of_block (e.block b4 h.n4.2 h.n4.1)).trans (h.p4 b hb), fun b hb => (World.cell?_of_block (e.block b5 h.n5.2 h.n5.1)).trans (h.p5 b hb), ⟨h.n4.1, Nat.lt_of_lt_of_le h.n4.2 e.size⟩, ⟨h.n5.1, Nat.lt_of_lt_of_le h.n5.2 e.size⟩⟩
theorem Nd.pd {p n : Nat} {l : List In} {pl : Nat → Nat} {d : Nat → Option Nat} {ab : Option Addr} {cb : Nat} {va : Value} {ss : List Sv} {b4 o4 b5 o5 c4 c5 : Nat} {w : World} (h : Nd p n l pl d ab cb va ss b4 o4 b5 o5 c4 c5 w) {c0 c1 c2 c3 c6 : Value} (hb : Blk w p 90 #[c0, c1, c2, c3, .slice (some ⟨b4, o4, none⟩) n c4, .slice (some ⟨b5, o5, none⟩) n c5, c6]) :
  Pd p n pl d ⟨b4, o4, none⟩ ⟨b5, o5, none⟩ c4 c5 w := ⟨hb.cell 4, hb.cell 5, rfl, rfl, h.p4, h.p5⟩
noncomputable def hdK (l : List In) (h : Nat) : List Nat := (List.range h).filter (headB l)
theorem hdK_succ (l : List In) (h : Nat) : hdK l (h + 1) = if headB l h then hdK l h ++ [h] else hdK l h := by
 unfold hdK
 rw [List.range_succ, List.filter_append]
 cases e : headB l h <;> simp [e]
theorem hdK_len (l : List In) (h : Nat) : (hdK l h).length ≤ h := by
 have := List.length_filter_le (headB l) (List.range h)
 simpa [hdK] using this
theorem nest_ok (w : World) (p : Nat) (l : List In) (pl : Nat → Nat) (d : Nat → Option Nat) (ab : Option Addr) (cb : Nat) (va vo vr : Value) (ss : List Sv) (b4 o4 b5 o5 c4 c5 : Nat) (h : Nd p (nB l) l pl d ab cb va ss b4 o4 b5 o5 c4 c5 w) (hn : nB l ≤ 4096) (hx2 : ∀ u, (ahd l u).length ≤ 1048576)
  (hb : Blk w p 90 #[.slice ab (nB l) cb, va, vo, vr, .slice (some ⟨b4, o4, none⟩) (nB l) c4, .slice (some ⟨b5, o5, none⟩) (nB l) c5, sn]) :
  Calls Try.prog 47 #[.pointer (some ⟨p, 0, none⟩)] w fun e w' => e = .returned (.tuple #[]) ∧ ∃ E vl vs, Ne w p (nB l) l (.slice ab (nB l) cb) va vo vr (.slice (some ⟨b4, o4, none⟩) (nB l) c4) (.slice (some ⟨b5, o5, none⟩) (nB l) c5) E E (fun i => parK l i (heads l).length) vl vs w' ∧ E.map (·.hd) = heads l := by
 have hpl := hb.lt
 have HB := Lib.hid hb
 have HD := Lib.hid h
 have HX := Lib.hid hx2
 have kp : w.cell? ⟨p, 0, none⟩ = some (.slice ab (nB l) cb) := hb.cell 0
 have HN0 := Lib.hid (show Ne w p (nB l) l (.slice ab (nB l) cb) va vo vr (.slice (some ⟨b4, o4, none⟩) (nB l) c4) (.slice (some ⟨b5, o5, none⟩) (nB l) c5) [] [] (fun _ => -1) sn sn w from ⟨Ex.refl p w, hb, OwR.nil _ _, OwR.nil _ _, fun e he => by cases he⟩)
 clear h hb hx2
 go_enter Try.func47, Try.ntmps47
 go_wp2
 go_loopw [2, 14] (fun t2 t wr => ∃ (h : Nat) (E : List Lq) (vl vs : Value), h ≤ nB l ∧ t = .int .i64 (h : Int) ∧ t2 = vs ∧ Hid (Ne w p (nB l) l (.slice ab (nB l) cb) va vo vr (.slice (some ⟨b4, o4, none⟩) (nB l) c4) (.slice (some ⟨b5, o5, none⟩) (nB l) c5) E E (fun _ => -1) vl vs wr) ∧ Hid (E.map (·.hd) = hdK l h)) (fun _ t _ => nB l - (intOf t).toNat)
 case atStart => exact ⟨0, [], sn, sn, by omega, rfl, rfl, HN0.out, rfl⟩
 case round =>
  clear HN0 kp
  obtain ⟨h, E, vl, vs, hh, rfl, e2, hN, hE⟩ := hrel
  obtain ⟨t2, ht2⟩ : ∃ x, x = vs := ⟨_, rfl⟩
  subst e2
  subst ht2
  have hEl : E.length ≤ h := by
   have e := congrArg List.length hE.out
   have := hdK_len l h
   simp at e
   omega
  by_cases hlt : h < nB l
  ·have hlt' : (h : Int) < (nB l : Int) := by omega
   go_wp2_with fail
   have hNd := HD.out.ex hN.out.ex
   refine (loop_ok _ p (nB l) (nxt l) pl d (ahd l) HD.out.gr HD.out.id b4 o4 b5 o5 c4 c5 (hNd.pd hN.out.pb) ab cb (hN.out.pb.cell 0) va ss (hN.out.pb.cell 1) hNd.sa hNd.ls hNd.na hN.out.pb.lt hNd.n4.2 hNd.n5.2 hn HX.out h hlt).mono ?_
   rintro e w2 ⟨b2, pS, gS, V, is, rfl, his, hst, hV⟩
   have hVl : V = lpB l h := by
    funext x
    rw [Bool.eq_iff_iff, hV x, lpB_iff]
   subst hVl
   have hsz := hN.out.ex.size
   have HN2 := Lib.hid (hN.out.below b2)
   have HST := Lib.hid (show St w.heap.size pS gS (nB l) (lpB l h) w2 from ⟨hst.pb, hst.gb.mono hsz, Nat.le_trans hsz hst.hp⟩)
   have hHd : is = headB l h := by rw [Bool.eq_iff_iff, his, headB_iff]
   have HHD := Lib.hid (hdK_succ l h)
   clear hV his hst b2 hNd hN
   cases is with
   | false =>
    have HE9 : Hid (E.map (·.hd) = hdK l (h + 1)) := by
     show _ = _
     rw [HHD.out, ← hHd, if_neg (by simp)]
     exact hE.out
    clear hHd
    go_wp2
    go_roundw
    all_goals first
     | exact ⟨h + 1, E, vl, _, by omega, by go_num, rfl, HN2.out, HE9.out⟩
     | ((repeat apply Exists.intro); exact ⟨⟨h + 1, E, vl, _, by omega, by go_num, rfl, HN2.out, HE9.out⟩, rfl⟩)
     | (simp [intOf]; omega)
   | true =>
    have HE1 : Hid (hdK l (h + 1) = hdK l h ++ [h]) := by
     show _ = _
     rw [HHD.out, ← hHd, if_pos rfl]
    clear hHd HHD
    go_upto_region 6 with (fail)
    have k6 : w2.cell? ⟨p, 6, none⟩ = some vl := HN2.out.pb.cell 6
    have cv : w2.drew.cell? ⟨p, 6, none⟩ = some vl := k6
    refine wp_region_last 13 (fun w' => w'.cell? ⟨p, 6, none⟩ = some vl) mix ?_
    refine wpAnyL_take (i := 0) (v := .pointer (some ⟨p, 0, none⟩)) rfl (by kernel_rfl) (by kernel_rfl) (by kernel_rfl) (fun _ _ _ h => h) rfl (by kernel_rfl) (Or.inl ⟨by rfl, fun w' hw' => by (try go_split_ands); go_simp⟩) cv ?_
    simp only [Act.put, List.getElem_toArray, List.getElem_cons_zero, List.setIfInBounds_toArray, List.set_cons_zero, List.set_cons_succ]
    refine wpAnyL_take (i := 1) (v := .pointer (some ⟨p, 0, none⟩)) rfl (by kernel_rfl) (by kernel_rfl) (by kernel_rfl) (fun _ _ _ h => h) rfl (by kernel_rfl) (Or.inl ⟨by rfl, fun w' hw' => by (try go_split_ands); go_simp⟩) cv ?_
    simp only [Act.put, List.getElem_toArray, List.getElem_cons_zero, List.getElem_cons_succ, List.setIfInBounds_toArray, List.set_cons_zero, List.set_cons_succ]
    refine wpAnyL_take (i := 2) (v := .pointer (some ⟨p, 0, none⟩)) rfl (by kernel_rfl) (by kernel_rfl) (by kernel_rfl) (fun _ _ _ h => h) rfl (by kernel_rfl) (Or.inl ⟨by rfl, fun w' hw' => by (try go_split_ands); go_simp⟩) cv ?_
    simp only [Act.put, List.getElem_toArray, List.getElem_cons_zero, List.getElem_cons_succ, List.setIfInBounds_toArray, List.set_cons_zero, List.set_cons_succ]
    refine wpAnyL_take (i := 3) (v := .pointer (some ⟨p, 6, none⟩)) rfl (by kernel_rfl) (by kernel_rfl) (by kernel_rfl) (fun _ _ _ h => h) rfl (by kernel_rfl) (Or.inl ⟨by rfl, fun w' hw' => by (try go_split_ands); go_simp⟩) cv ?_
    simp only [Act.put, List.getElem_toArray, List.getElem_cons_zero, List.getElem_cons_succ, List.setIfInBounds_toArray, List.set_cons_zero, List.set_cons_succ]
    refine wpAnyL_take (i := 4) (v := vl) rfl (by kernel_rfl) (by kernel_rfl) (by kernel_rfl) (fun _ _ _ h => h) rfl (by kernel_rfl) (Or.inl ⟨by rfl, fun w' hw' => by (try go_split_ands); go_simp⟩) cv ?_
    simp only [Act.put, List.getElem_toArray, List.getElem_cons_zero, List.getElem_cons_succ, List.setIfInBounds_toArray, List.set_cons_zero, List.set_cons_succ]
    refine wpAnyL_take (i := 5) (v := .int .i64 (h : Int)) rfl (by kernel_rfl) (by kernel_rfl) (by kernel_rfl) (fun _ _ _ h => h) rfl (by kernel_rfl) (Or.inl ⟨by rfl, fun w' hw' => by (try go_split_ands); go_simp⟩) cv ?_
    simp only [Act.put, List.getElem_toArray, List.getElem_cons_zero, List.getElem_cons_succ, List.setIfInBounds_toArray, List.set_cons_zero, List.set_cons_succ]
    refine wpAnyL_take (i := 6) (v := .pointer (some ⟨pS, 0, none⟩)) rfl (by kernel_rfl) (by kernel_rfl) (by kernel_rfl) (fun _ _ _ h => h) rfl (by kernel_rfl) (Or.inl ⟨by rfl, fun w' hw' => by (try go_split_ands); go_simp⟩) cv ?_
    simp only [Act.put, List.getElem_toArray, List.getElem_cons_zero, List.getElem_cons_succ, List.setIfInBounds_toArray, List.set_cons_zero, List.set_cons_succ]
    refine wpAnyL_one (i := 7) (by kernel_rfl) rfl (fun K hK => ?_)
    go_simp
    go_wp2_with fail
    refine (list_ok _ w.heap.size pS gS (nB l) (lpB l h) (HST.out.drew) (by omega)).mono ?_
    rintro e w3 ⟨b3, v3, rfl, ho3⟩
    obtain ⟨as3, ns3, cs3, rfl⟩ : ∃ a n c, v3 = .slice a n c := by
     rcases ho3.form with ⟨e, _⟩ | ⟨g, c, e, _⟩
     ·exact ⟨_, _, _, e⟩
     ·exact ⟨_, _, _, e⟩
    have HN3 := Lib.hid ((HN2.out.below (bRefl w2).drew).below b3)
    have HEL3 := Lib.hid (show El w.heap.size (nB l) l ⟨h, ⟨as3, ns3, cs3⟩, pS, gS⟩ w3 from ⟨ho3.mono (Nat.le_trans HN2.out.ex.size (Nat.le_refl _)), HST.out.drew.below b3⟩)
    clear ho3 b3 HN2 HST cv k6
    go_wp2_with fail
    have cv3 : w3.cell? ⟨p, 6, none⟩ = some vl := HN3.out.pb.cell 6
    refine hK.out _ _ (fun _ => cv3) ?_
    clear hK K
    refine wpAnyL_one (i := 8) (by kernel_rfl) rfl (fun K hK => ?_)
    go_simp
    refine hK.out _ _ (fun _ => cv3) ?_
    clear hK K
    refine wpAnyL_one (i := 9) (by kernel_rfl) rfl (fun K hK => ?_)
    go_simp
    have HN6 := Lib.hid (HN3.out.below (bAl (bRefl w3) (.cells #[.int .i64 (h : Int), .slice as3 ns3 cs3, .int .i64 (-1)] 94)))
    have HEL6 := Lib.hid (HEL3.out.below (bAl (bRefl w3) (.cells #[.int .i64 (h : Int), .slice as3 ns3 cs3, .int .i64 (-1)] 94)))
    have HB6 := Lib.hid (Blk.new w3 94 #[.int .i64 (h : Int), .slice as3 ns3 cs3, .int .i64 (-1)])
    have hz6 := HB6.out.lt
    have hs6 := HN6.out.ex.size
    generalize (w3.alloc (.cells #[.int .i64 (h : Int), .slice as3 ns3 cs3, .int .i64 (-1)] 94)) = W6 at HN6 HEL6 HB6 hz6 hs6 ⊢
    refine hK.out _ _ (fun _ => HN6.out.pb.cell 6) ?_
    clear hK K
    refine wpAnyL_one (i := 10) (by kernel_rfl) rfl (fun K hK => ?_)
    refine step_push tA rfl (.tmp 28) (.tmp 33) rfl w.heap.size vl (arL E fun _ => -1) (by rfl) HN6.out.la w3.heap.size 0 1 1 [⟨(h : Int), ⟨as3, ns3, cs3⟩, -1⟩] (by rfl) rfl (rangeBlk HB6.out (by rfl)) (by rw [arL_len]; unfold maxLen; simp; omega) (by rw [arL_len]; show _ * 40 ≤ _; simp; omega) hs6 ?_
    intro v' w9 hown hgrow hform
    obtain ⟨g', c', rfl, _⟩ := hform (by simp)
    have hO9 : OwR tA w.heap.size w9 (.slice (some ⟨g', 0, none⟩) ((arL E fun _ => -1).length + 1) c') (arL (E ++ [⟨h, ⟨as3, ns3, cs3⟩, pS, gS⟩]) fun _ => -1) := by rw [arL_snoc]; exact hown
    have hp9 := HN6.out.pb.of_block (hgrow.block p HN6.out.pb.lt (fun e => HN6.out.la.ne HN6.out.pb (by decide) e.symm))
    have cv9 : w9.cell? ⟨p, 6, none⟩ = some vl := hp9.cell 6
    have f9 := hp9.frozen 6
    simp only [Act.put, List.setIfInBounds_toArray]
    refine hK.out _ _ (fun _ => cv9) ?_
    clear hK K
    refine wpAnyL_one (i := 11) (by kernel_rfl) rfl (fun K hK => ?_)
    go_simp
    refine hK.out _ _ (fun _ => cv9) ?_
    clear hK K
    refine wpAnyL_one (i := 12) (by kernel_rfl) rfl (fun K hK => ?_)
    go_simp
    refine hK.out _ _ (fun _ => cv9) ?_
    clear hK K
    refine wpAnyL_one (i := 13) (by kernel_rfl) rfl (fun K hK => ?_)
    go_simp
    refine hK.out _ _ (fun h => absurd rfl h) ?_
    clear hK K
    refine wpAnyL_done (by kernel_rfl) ?_ _
    have HN9 := Lib.hid (HN6.out.putA HEL6.out hO9 hgrow)
    generalize w9.setCell ⟨p, 6, none⟩ (.slice (some ⟨g', 0, none⟩) ((arL E fun _ => -1).length + 1) c') = W9 at HN9 ⊢
    clear hown hgrow hform hO9 hp9 cv9 f9 HN6 HEL6 HB6 hz6 hs6 HN3 HEL3 cv3
    have hs9 := HN9.out.ex.size
    go_wp2_with (at_builtin; refine wpl_push tP rfl _ _ rfl w.heap.size t2 (E.map (·.q)) (by rfl) (HN9.out.ls.alloc _) _ 0 1 1 [pS] (by rfl) rfl (rangeNew (by rfl) (by rfl)) (by rw [List.length_map]; unfold maxLen; simp; omega) (by rw [List.length_map]; show _ * 8 ≤ _; simp; omega) (by simp; omega) ?_; intro v2 w10 hown2 hgrow2 _)
    have hN10 := (HN9.out.below (bAl (bRefl W9) (.cells #[.pointer (some ⟨pS, 0, none⟩)] 118))).putS (e := ⟨h, ⟨as3, ns3, cs3⟩, pS, gS⟩) (by rw [List.map_append]; exact hown2) hgrow2
    have hE10 : (E ++ [(⟨h, ⟨as3, ns3, cs3⟩, pS, gS⟩ : Lq)]).map (·.hd) = hdK l (h + 1) := by rw [List.map_append, hE.out, HE1.out]; rfl
    exact ⟨⟨h + 1, _, _, _, by omega, by go_num, rfl, hN10, hE10⟩, by simp [intOf]; omega⟩
  ·obtain rfl : h = nB l := by omega
   have hEh : E.map (·.hd) = heads l := hE.out
   have HEH := Lib.hid hEh
   have HEHL := Lib.hid (show (heads l).length = E.length by rw [← hEh]; simp)
   have HGD : Hid (∀ i e, E[i]? = some e → (heads l).getD i 0 = e.hd) := fun i e he => by
    rw [← hEh, List.getD_eq_getElem?_getD, List.getElem?_map, he]
    rfl
   obtain ⟨av, cl, hvl, hcl1, hcl2⟩ : ∃ a c, vl = .slice a E.length c ∧ E.length ≤ c ∧ c ≤ maxLen := by
    rcases hN.out.la.form with ⟨e1, e2⟩ | ⟨g, c, e, k1, k2, _⟩
    ·have := congrArg List.length e2
     rw [arL_len] at this
     simp at this
     subst this
     exact ⟨none, 0, e1, by simp, by unfold maxLen; omega⟩
    ·rw [arL_len] at e k1
     exact ⟨_, c, e, k1, k2⟩
   obtain ⟨as2, cs2, hvs, hcs1, hcs2⟩ : ∃ a c, t2 = .slice a E.length c ∧ E.length ≤ c ∧ c ≤ maxLen := by
    rcases hN.out.ls.form with ⟨e1, e2⟩ | ⟨g, c, e, k1, k2, _⟩
    ·have := congrArg List.length e2
     simp at this
     subst this
     exact ⟨none, 0, e1, by simp, by unfold maxLen; omega⟩
    ·rw [List.length_map] at e k1
     exact ⟨_, c, e, k1, k2⟩
   subst hvl hvs
   have hN2 := hN.out
   rw [← paF_zero l E.length] at hN2
   have HN := Lib.hid hN2
   have k6 : wr.cell? ⟨p, 6, none⟩ = some (.slice av E.length cl) := hN2.pb.cell 6
   unfold maxLen at hcl2 hcs2
   clear hN2 hN hE hEh hlt hh
   obtain ⟨WW, rfl⟩ : ∃ x : World, x = wr := ⟨_, rfl⟩
   go_wp2
   go_loopw [47] (fun t wr => ∃ i : Nat, i ≤ E.length ∧ t = .int .i64 (i : Int) ∧ Hid (Ne w p (nB l) l (.slice ab (nB l) cb) va vo vr (.slice (some ⟨b4, o4, none⟩) (nB l) c4) (.slice (some ⟨b5, o5, none⟩) (nB l) c5) E E (paF l E.length i 0) (.slice av E.length cl) (.slice as2 E.length cs2) wr)) (fun t _ => E.length - (intOf t).toNat)
   case atStart => exact ⟨0, by omega, rfl, HN.out⟩
   case round =>
    clear HN k6
    obtain ⟨i, hi, rfl, hN⟩ := hrel
    have k6 : wr.cell? ⟨p, 6, none⟩ = some (.slice av E.length cl) := hN.out.pb.cell 6
    by_cases hli : i < E.length
    ·have hli' : (i : Int) < (E.length : Int) := by omega
     have hi0 : (0 : Int) ≤ (i : Int) := by omega
     obtain ⟨ei, hei⟩ : ∃ e, E[i]? = some e := ⟨_, List.getElem?_eq_getElem hli⟩
     have HEI := Lib.hid hei
     obtain ⟨gl, eav⟩ : ∃ g, av = some ⟨g, 0, none⟩ := by
      rcases hN.out.la.form with ⟨_, e⟩ | ⟨g, c, e, _⟩
      ·have := congrArg List.length e
       rw [arL_len] at this
       simp only [List.length_nil] at this
       omega
      ·injection e with e _ _
       exact ⟨g, e⟩
     subst eav
     have hein : ei.hd < nB l := by
      have hm : ei.hd ∈ heads l := by
       rw [← HEH.out]
       exact List.mem_map_of_mem (List.mem_of_getElem? hei)
      unfold heads at hm
      simpa using (List.mem_filter.1 hm).1
     have HGI := Lib.hid (HGD.out i ei hei)
     clear hei
     obtain ⟨wo, rfl⟩ : ∃ x : World, x = wr := ⟨_, rfl⟩
     go_wp2
     go_loopw [55] (fun t wr => ∃ k : Nat, k ≤ E.length ∧ t = .int .i64 (k : Int) ∧ Hid (Ne w p (nB l) l (.slice ab (nB l) cb) va vo vr (.slice (some ⟨b4, o4, none⟩) (nB l) c4) (.slice (some ⟨b5, o5, none⟩) (nB l) c5) E E (paF l E.length i k) (.slice (some ⟨gl, 0, none⟩) E.length cl) (.slice as2 E.length cs2) wr)) (fun t _ => E.length - (intOf t).toNat)
     case atStart => exact ⟨0, by omega, rfl, hN.out⟩
     case round =>
      clear hN k6
      obtain ⟨k, hk, rfl, hN⟩ := hrel
      by_cases hlk : k < E.length
      ·have hlk' : (k : Int) < (E.length : Int) := by omega
       have hk0 : (0 : Int) ≤ (k : Int) := by omega
       by_cases hki : k = i
       ·have hki' : ((k : Int) == (i : Int)) = true := by simp [hki]
        have hN9 := hN.out
        rw [← paF_same (parK_skip (Or.inl hki))] at hN9
        have HN9 := Lib.hid (hN9)
        clear hN9 hN hki
        go_upto_region 15 with (fail)
        go_quiet (fail)
        have HN10 := Lib.hid (HN9.out.below (bDraw (bRefl wr) nq))
        generalize wr.drewN nq = W5 at HN10 ⊢
        clear HN9
        go_wp2
        go_roundw
        all_goals first
         | exact ⟨k + 1, by omega, by go_num, HN10.out⟩
         | ((repeat apply Exists.intro); exact ⟨⟨k + 1, by omega, by go_num, HN10.out⟩, rfl⟩)
         | (simp [intOf]; omega)
       ·have hki' : ((k : Int) == (i : Int)) = false := by simp; omega
        obtain ⟨ek, hek⟩ : ∃ e, E[k]? = some e := ⟨_, List.getElem?_eq_getElem hlk⟩
        have hSk := Lib.hid (hN.out.el ek (List.mem_of_getElem? hek)).2
        have hsl := hN.out.ls.sl (hN.out.ls.ne hN.out.pb (by decide))
        obtain ⟨bs2, os2, rfl, _, hat⟩ := hsl.get (k := k) (x := ek.q) (by rw [List.getElem?_map, hek]; rfl)
        have c2 := hat.cell 0 _ rfl
        rw [show os2 + k * tP.n + 0 = os2 + k by show os2 + k * 1 + 0 = _; omega] at c2
        have hati := hN.out.la.at (arL_get (pa := paF l E.length i k) HEI.out)
        have ch := hati.cell 0 _ rfl
        have cpa := hati.cell 2 _ rfl
        rw [show 0 + i * tA.n + 0 = i * 3 by show 0 + i * 3 + 0 = _; omega] at ch
        rw [show 0 + i * tA.n + 2 = i * 3 + 2 by show 0 + i * 3 + 2 = _; omega, paF_self] at cpa
        have k6 : wr.cell? ⟨p, 6, none⟩ = some (.slice (some ⟨gl, 0, none⟩) E.length cl) := hN.out.pb.cell 6
        have HEK := Lib.hid hek
        have HGK := Lib.hid (HGD.out k ek hek)
        clear hek hsl hat hati
        cases hlp : lpB l ek.hd ei.hd with
        | false =>
         have hN9 := hN.out
         rw [← paF_same (parK_skip (Or.inr (by rw [HGK.out, HGI.out]; exact hlp)))] at hN9
         have HN9 := Lib.hid hN9
         clear hN9 hN hki cpa
         have HLP := Lib.hid hlp
         clear hlp
         go_upto_region 15 with (fail)
         go_quiet ((go_at_call 75; exact Calls.quiet_of_same (has_nat _ w.heap.size ek.q ek.g (nB l) (lpB l ek.hd) (hSk.out.drewN _) ei.hd hein false HLP.out)))
         have HN10 := Lib.hid (HN9.out.below (bDraw (bRefl wr) nq))
         generalize wr.drewN nq = W5 at HN10 ⊢
         clear HN9 hSk c2 ch k6
         go_wp2
         go_roundw
         all_goals first
          | exact ⟨k + 1, by omega, by go_num, HN10.out⟩
          | ((repeat apply Exists.intro); exact ⟨⟨k + 1, by omega, by go_num, HN10.out⟩, rfl⟩)
          | (simp [intOf]; omega)
        | true =>
         have HPI := Lib.hid (parK_in hki (l := l) (by rw [HGK.out, HGI.out]; exact hlp))
         have hplt := parK_lt l i k
         obtain ⟨P, hP⟩ : ∃ P, P = parK l i k := ⟨_, rfl⟩
         rw [← hP] at hplt cpa HPI
         have HP := Lib.hid hP
         have HLP := Lib.hid hlp
         clear hlp hki hP
         go_upto_region 15 with (fail)
         go_quiet ((go_at_call 75; exact Calls.quiet_of_same (has_nat _ w.heap.size ek.q ek.g (nB l) (lpB l ek.hd) (hSk.out.drewN _) ei.hd hein true HLP.out)))
         have HN10 := Lib.hid (hN.out.below (bDraw (bRefl wr) nq))
         have cpa2 : (wr.drewN nq).cell? ⟨gl, i * 3 + 2, none⟩ = some (.int .i64 P) := cpa
         generalize wr.drewN nq = W5 at HN10 cpa2 ⊢
         clear hN hSk c2 ch k6 cpa
         have k6 : W5.cell? ⟨p, 6, none⟩ = some (.slice (some ⟨gl, 0, none⟩) E.length cl) := HN10.out.pb.cell 6
         have kf := HN10.out.la.frozen (i * 3 + 2)
         by_cases hP0 : P < 0
         ·have HK : Hid (parK l i (k + 1) = (k : Int)) := by show _ = _; rw [HPI.out, if_pos (Or.inl hP0)]
          have HS := Lib.hid (HN10.out.par (pa' := paF l E.length i (k + 1)) HEI.out (fun x hx => paF_ne l E.length i k (k + 1) x hx) (k : Int) (by rw [paF_self, HK.out]))
          go_upto_region 17 with (fail)
          go_quiet (fail)
          have HN11 := Lib.hid (HN10.out.below (bDraw (bRefl W5) nq))
          have HS2 := Lib.hid ((HN10.out.below (bDraw (bRefl W5) nq)).par (pa' := paF l E.length i (k + 1)) HEI.out (fun x hx => paF_ne l E.length i k (k + 1) x hx) (k : Int) (by rw [paF_self, HK.out]))
          have cpa3 : (W5.drewN nq).cell? ⟨gl, i * 3 + 2, none⟩ = some (.int .i64 P) := cpa2
          generalize W5.drewN nq = W6 at HN11 HS2 cpa3 ⊢
          clear HN10 HS k6 kf cpa2
          have k6 : W6.cell? ⟨p, 6, none⟩ = some (.slice (some ⟨gl, 0, none⟩) E.length cl) := HN11.out.pb.cell 6
          have kf := HN11.out.la.frozen (i * 3 + 2)
          clear HN11
          go_wp2
          go_roundw
          all_goals first
           | exact ⟨k + 1, by omega, by go_num, HS2.out⟩
           | ((repeat apply Exists.intro); exact ⟨⟨k + 1, by omega, by go_num, HS2.out⟩, rfl⟩)
           | (simp [intOf]; omega)
         ·obtain ⟨m, rfl⟩ := Int.eq_ofNat_of_zero_le (show 0 ≤ P by omega)
          have hmk : m < k := by omega
          have hml : (m : Int) < (E.length : Int) := by omega
          have hm0 : (0 : Int) ≤ (m : Int) := by omega
          obtain ⟨em, hem⟩ : ∃ e, E[m]? = some e := ⟨_, List.getElem?_eq_getElem (by omega)⟩
          have HGM := Lib.hid (HGD.out m em hem)
          have hlk2 := (HN10.out.el ek (List.mem_of_getElem? HEK.out)).len
          have hlm2 := (HN10.out.el em (List.mem_of_getElem? hem)).len
          have ck := (HN10.out.la.at (arL_get (pa := paF l E.length i k) HEK.out)).cell 1 _ rfl
          have cm := (HN10.out.la.at (arL_get (pa := paF l E.length i k) hem)).cell 1 _ rfl
          rw [show 0 + k * tA.n + 1 = k * 3 + 1 by show 0 + k * 3 + 1 = _; omega] at ck
          rw [show 0 + m * tA.n + 1 = m * 3 + 1 by show 0 + m * 3 + 1 = _; omega] at cm
          simp only [Sv.v] at ck cm
          have HPJ : Hid (parK l i (k + 1) = if ek.bl.n < em.bl.n then (k : Int) else (m : Int)) := by
           show _ = _
           rw [HPI.out, Int.toNat_natCast, HGK.out, HGM.out, ← hlk2, ← hlm2]
           by_cases h : ek.bl.n < em.bl.n
           ·rw [if_pos (Or.inr h), if_pos h]
           ·rw [if_neg (by omega), if_neg h]
          obtain ⟨nk, hnk⟩ : ∃ x, x = ek.bl.n := ⟨_, rfl⟩
          obtain ⟨nm, hnm⟩ : ∃ x, x = em.bl.n := ⟨_, rfl⟩
          rw [← hnk] at ck HPJ
          rw [← hnm] at cm HPJ
          clear hlk2 hlm2 hnk hnm hem HPI
          by_cases hnn : nk < nm
          ·have hnn' : decide (nk < nm) = true := decide_eq_true hnn
           have HK : Hid (parK l i (k + 1) = (k : Int)) := by show _ = _; rw [HPJ.out, if_pos hnn]
           go_upto_region 17 with (fail)
           go_quiet (fail)
           have HN11 := Lib.hid (HN10.out.below (bDraw (bRefl W5) nq))
           have HS2 := Lib.hid ((HN10.out.below (bDraw (bRefl W5) nq)).par (pa' := paF l E.length i (k + 1)) HEI.out (fun x hx => paF_ne l E.length i k (k + 1) x hx) (k : Int) (by rw [paF_self, HK.out]))
           have cpa3 : (W5.drewN nq).cell? ⟨gl, i * 3 + 2, none⟩ = some (.int .i64 (m : Int)) := cpa2
           generalize W5.drewN nq = W6 at HN11 HS2 cpa3 ⊢
           clear HN10 k6 kf cpa2 ck cm
           have k6 : W6.cell? ⟨p, 6, none⟩ = some (.slice (some ⟨gl, 0, none⟩) E.length cl) := HN11.out.pb.cell 6
           have kf := HN11.out.la.frozen (i * 3 + 2)
           clear HN11
           go_wp2
           go_roundw
           all_goals first
            | exact ⟨k + 1, by omega, by go_num, HS2.out⟩
            | ((repeat apply Exists.intro); exact ⟨⟨k + 1, by omega, by go_num, HS2.out⟩, rfl⟩)
            | (simp [intOf]; omega)
          ·have hnn' : decide (nk < nm) = false := decide_eq_false hnn
           have hK : parK l i (k + 1) = parK l i k := by rw [HPJ.out, if_neg hnn]; exact HP.out
           have HPS := Lib.hid (paF_same (H := E.length) hK)
           clear hK
           go_upto_region 17 with (fail)
           go_quiet (fail)
           have HN11 := Lib.hid (HN10.out.below (bDraw (bRefl W5) nq))
           generalize W5.drewN nq = W6 at HN11 ⊢
           clear HN10 k6 kf cpa2 ck cm
           have HN12 : Hid (Ne w p (nB l) l (.slice ab (nB l) cb) va vo vr (.slice (some ⟨b4, o4, none⟩) (nB l) c4) (.slice (some ⟨b5, o5, none⟩) (nB l) c5) E E (paF l E.length i (k + 1)) (.slice (some ⟨gl, 0, none⟩) E.length cl) (.slice (some ⟨bs2, os2, none⟩) E.length cs2) W6) := by
            show Ne _ _ _ _ _ _ _ _ _ _ _ _ _ _ _ _
            rw [HPS.out]
            exact HN11.out
           clear HN11
           go_wp2
           go_roundw
           all_goals first
            | exact ⟨k + 1, by omega, by go_num, HN12.out⟩
            | ((repeat apply Exists.intro); exact ⟨⟨k + 1, by omega, by go_num, HN12.out⟩, rfl⟩)
            | (simp [intOf]; omega)
      ·obtain rfl : k = E.length := by omega
       have hN9 := hN.out
       rw [paF_next] at hN9
       have HN9 := Lib.hid hN9
       clear hN9 hN
       go_wp2
       go_roundw
       all_goals first
        | exact ⟨i + 1, by omega, by go_num, HN9.out⟩
        | ((repeat apply Exists.intro); exact ⟨⟨i + 1, by omega, by go_num, HN9.out⟩, rfl⟩)
        | (simp [intOf]; omega)
    ·obtain rfl : i = E.length := by omega
     have hN9 := hN.out
     have e9 : arL E (paF l E.length E.length 0) = arL E fun i => parK l i (heads l).length := arL_congr fun x hx => by
      unfold paF
      rw [if_pos hx, HEHL.out]
     have HN9 : Hid (Ne w p (nB l) l (.slice ab (nB l) cb) va vo vr (.slice (some ⟨b4, o4, none⟩) (nB l) c4) (.slice (some ⟨b5, o5, none⟩) (nB l) c5) E E (fun i => parK l i (heads l).length) (.slice av E.length cl) (.slice as2 E.length cs2) wr) := ⟨hN9.ex, hN9.pb, by rw [← e9]; exact hN9.la, hN9.ls, hN9.el⟩
     clear hN9 hN e9
     go_wp2
     go_end0
     exact ⟨rfl, E, _, _, HN9.out, HEH.out⟩
end Go.Proofs.Ytndnfjcfpcfakaa
namespace Go.Proofs.Ytndnfjcfpcfakaa
open Go Go.RowKit Go.Wr Go.Fl
set_option maxHeartbeats 4000000
set_option maxRecDepth 100000
def dI (n : Nat) (d : Nat → Option Nat) : List Int := (List.range n).map fun b => oi (d b)
theorem dI_len (n : Nat) (d : Nat → Option Nat) : (dI n d).length = n := by simp [dI]
theorem dI_get {n b : Nat} (d : Nat → Option Nat) (h : b < n) : (dI n d)[b]? = some (oi (d b)) := by
 unfold dI
 rw [List.getElem?_map, List.getElem?_range h]
 rfl
theorem dI_put {n b : Nat} (d : Nat → Option Nat) (z : Nat) (_h : b < n) : (dI n d).set b (z : Int) = dI n (Fl.put d b z) := by
 apply List.ext_getElem?
 intro i
 rw [List.getElem?_set, dI_len]
 by_cases hi : i < n
 ·rw [dI_get _ hi, dI_get _ hi]
  by_cases e : b = i
  ·subst e; simp [hi, put_self, oi]
  ·rw [if_neg e, put_ne (Ne.symm e)]
 ·rw [List.getElem?_eq_none (by rw [dI_len]; omega), List.getElem?_eq_none (by rw [dI_len]; omega)]
  split
  ·exfalso; omega
  ·rfl
theorem dI_zero {n : Nat} (h : 0 < n) : (miK n n).set 0 0 = dI n tab0 := by
 apply List.ext_getElem?
 intro i
 rw [List.getElem?_set, miK_len]
 by_cases hi : i < n
 ·rw [dI_get _ hi]
  by_cases e : 0 = i
  ·subst e; simp [h, tab0, oi]
  ·rw [if_neg e]
   unfold miK tab0
   rw [List.getElem?_map, List.getElem?_range hi, if_neg (Ne.symm e)]
   simp [hi, oi]
 ·rw [List.getElem?_eq_none (by rw [miK_len]; omega), List.getElem?_eq_none (by rw [dI_len]; omega)]
  split
  ·exfalso; omega
  ·rfl
structure Dw (w : World) (p n gi : Nat) (vb va vo vr vp : Value) (l : List Int) (wr : World) : Prop where
 ex : Ex p w wr
 pb : Blk wr p 90 #[vb, va, vo, vr, vp, .slice (some ⟨gi, 0, none⟩) n n, sn]
 pi : OwR tI w.heap.size wr (.slice (some ⟨gi, 0, none⟩) n n) l
section
variable {w wr w' : World} {p n gi : Nat} {vb va vo vr vp : Value} {l : List Int}
theorem Dw.drewN (h : Dw w p n gi vb va vo vr vp l wr) (k : Nat) : Dw w p n gi vb va vo vr vp l (wr.drewN k) := ⟨h.ex.drewN k, h.pb.drewN k, h.pi⟩
theorem Dw.set (h : Dw w p n gi vb va vo vr vp l wr) {k : Nat} {x : Int} (hk : k < l.length) : Dw w p n gi vb va vo vr vp (l.set k x) (wr.setCell ⟨gi, k, none⟩ (.int .i64 x)) := by
 obtain ⟨hB, C, hg⟩ := h.pi.blk (g := gi) rfl
 have hs := h.pi.set (k := k) (j := 0) (x := l[k]) (y := x) (v := .int .i64 x) (List.getElem?_eq_getElem hk) (by decide) rfl
 have e : k * tI.n + 0 = k := by show k * 1 + 0 = k; omega
 rw [e] at hs
 exact ⟨h.ex.set_new _ _ hB, h.pb.set_other gi _ _ (blk_ne h.pb hg (by decide)), hs⟩
end
structure Di (p n : Nat) (pl : Nat → Nat) (ah : Nat → List Nat) (R : List Nat) (va vr : Value) (b4 o4 c4 : Nat) (ss : List Sv) (w : World) : Prop where
 sa : SlX tII p w va ss
 ls : ss.length = n
 na : ∀ b s, ss[b]? = some s → SlX tI p w s.v (nI (ah b))
 ro : SlX tI p w vr (nI R)
 lr : R.length = n
 pr : ∀ i x, R[i]? = some x → x < n ∧ pl x = i
 pp : ∀ b, b < n → w.cell? ⟨b4, o4 + b, none⟩ = some (.int .i64 (pl b : Int))
 p4 : b4 ≠ p ∧ b4 < w.heap.size
theorem dominators_ok (w : World) (p n : Nat) (nx : Nat → List Nat) (pl : Nat → Nat) (ah : Nat → List Nat) (g : Gr nx pl n ah) (hn : n ≤ 1048576) (hah : ∀ b, (ah b).length ≤ 1048576) (hpn : ∀ c, c < n → pl c < n) (R : List Nat) (ab : Option Addr) (cb b4 o4 c4 : Nat) (va vo vr : Value) (ss : List Sv)
  (h : Di p n pl ah R va vr b4 o4 c4 ss w) (hb : Blk w p 90 #[.slice ab n cb, va, vo, vr, .slice (some ⟨b4, o4, none⟩) n c4, sn, sn]) :
  Calls Try.prog 44 #[.pointer (some ⟨p, 0, none⟩)] w fun e w' => e = .returned (.tuple #[]) ∧ ∃ gi d, Dw w p n gi (.slice ab n cb) va vo vr (.slice (some ⟨b4, o4, none⟩) n c4) (dI n d) w' ∧ Idom nx pl n d := by
 have hpl := hb.lt
 have hn0 := g.n0
 have HB := Lib.hid hb
 have HI := Lib.hid h
 have HG := Lib.hid g
 have HAH := Lib.hid hah
 have HPL := Lib.hid hpn
 have kp : w.cell? ⟨p, 0, none⟩ = some (.slice ab n cb) := hb.cell 0
 obtain ⟨ar, cr, rfl, hr1, hr2⟩ := h.ro.form
 obtain ⟨aa, ca, rfl, ha1, ha2⟩ := h.sa.form
 rw [nI_len, h.lr] at hr1 HB HI
 rw [h.ls] at ha1 HB HI
 rw [nI_len, h.lr, h.ls]
 unfold maxLen at hr2 ha2
 obtain ⟨gr, or, rfl, _, _, hc0⟩ := SlX.int (x := ((R[0]'(by rw [h.lr]; exact hn0) : Nat) : Int)) HI.out.ro (show (nI R)[0]? = _ by unfold nI; rw [List.getElem?_map, List.getElem?_eq_getElem]; rfl)
 clear hc0 h g hb hah hpn
 go_enter Try.func44, Try.ntmps44
 go_upto_region 1 with (at_make; refine wpl_make tI 0 rfl rfl _ _ rfl .i64 .i64 (n : Int) (n : Int) n rfl rfl rfl rfl (by show 8 * n ≤ _; omega) (by unfold maxLen; omega) ?_; intro w5 ho5 hb5 hlt5; have hp5 := HB.out.below hb5 HB.out.lt; have c5 := hp5.cell 5; have f5 := hp5.frozen 5; simp only [List.getElem?_toArray, List.getElem?_cons_zero, List.getElem?_cons_succ] at c5)
 have hW6 : Dw w p n w.heap.size (.slice ab n cb) (.slice aa n ca) vo (.slice (some ⟨gr, or, none⟩) n cr) (.slice (some ⟨b4, o4, none⟩) n c4) (miK n 0) (w5.setCell ⟨p, 5, none⟩ (.slice (some ⟨w.heap.size, 0, none⟩) n n)) :=
  ⟨(Ex.of_below hb5).set 5 _, (hp5.set 5 _).eq rfl, by rw [miK_zero]; exact ho5.set_other (ho5.ne hp5 (by decide))⟩
 obtain ⟨gi, hgi⟩ : ∃ g, g = w.heap.size := ⟨_, rfl⟩
 rw [← hgi] at hW6 ⊢
 have HW6 := Lib.hid hW6
 generalize (w5.setCell ⟨p, 5, none⟩ (.slice (some ⟨gi, 0, none⟩) n n)) = W6 at HW6 ⊢
 clear hW6 ho5 hb5 hlt5 hp5 f5 c5 kp hgi
 have k5 := HW6.out.pb.cell 5
 simp only [List.getElem?_toArray, List.getElem?_cons_zero, List.getElem?_cons_succ] at k5
 go_wp2
 go_loopw [23] (fun t wr => ∃ k : Nat, k ≤ n ∧ t = .int .i64 (k : Int) ∧ Hid (Dw w p n gi (.slice ab n cb) (.slice aa n ca) vo (.slice (some ⟨gr, or, none⟩) n cr) (.slice (some ⟨b4, o4, none⟩) n c4) (miK n k) wr)) (fun t _ => n - (intOf t).toNat)
 case atStart => exact ⟨0, by omega, rfl, HW6.out⟩
 case round =>
  clear HW6 k5
  obtain ⟨k, hk, rfl, hW⟩ := hrel
  have k5 := hW.out.pb.cell 5
  simp only [List.getElem?_toArray, List.getElem?_cons_zero, List.getElem?_cons_succ] at k5
  by_cases hlt : k < n
  ·have hlt' : (k : Int) < (n : Int) := by omega
   have hk0 : (0 : Int) ≤ (k : Int) := by omega
   have kc := OwR.int hW.out.pi (k := k) (x := (miK n k)[k]'(by rw [miK_len]; exact hlt)) (List.getElem?_eq_getElem _)
   have kf := hW.out.pi.frozen k
   have hnew := hW.out.set (k := k) (x := -1) (by rw [miK_len]; exact hlt)
   rw [miK_succ] at hnew
   have HNW := Lib.hid hnew
   clear hnew hW
   go_wp2
   go_roundw
   all_goals first
    | exact ⟨k + 1, by omega, by go_num, HNW.out⟩
    | ((repeat apply Exists.intro); exact ⟨⟨k + 1, by omega, by go_num, HNW.out⟩, rfl⟩)
    | (simp [intOf]; omega)
  ·obtain rfl : n = k := by omega
   clear hlt
   have hn0' : (0 : Int) < (n : Int) := by omega
   have kc := OwR.int hW.out.pi (k := 0) (x := (miK n n)[0]'(by rw [miK_len]; exact hn0)) (List.getElem?_eq_getElem _)
   have kf := hW.out.pi.frozen 0
   have hnew := hW.out.set (k := 0) (x := 0) (by rw [miK_len]; exact hn0)
   rw [dI_zero hn0] at hnew
   have HNW := Lib.hid hnew
   clear hnew hW
   go_upto_region 7 with (fail)
   generalize wr.setCell ⟨gi, 0, none⟩ (.int .i64 0) = WS at HNW ⊢
   clear k5 kc kf
   go_wp2
   have HPS := Lib.hid (Ps.begin HG.out)
   go_loopg [3] (n + 1) (fun m t wr => ∃ (more : Bool) (d : Nat → Option Nat) (k : Nat), t = .bool more ∧ Hid (Dw w p n gi (.slice ab n cb) (.slice aa n ca) vo (.slice (some ⟨gr, or, none⟩) n cr) (.slice (some ⟨b4, o4, none⟩) n c4) (dI n d) wr) ∧ Hid (more = true → Ps nx pl n k 1 d ∧ k ≤ n ∧ m = n + 1 - k) ∧ Hid (more = false → Idom nx pl n d))
   case atStart => exact ⟨true, tab0, 0, rfl, HNW.out, (fun _ => ⟨HPS.out, by omega, by omega⟩), (fun h => by cases h)⟩
   case round =>
    clear HNW HPS
    obtain ⟨more, d, k, rfl, hW, hP, hI⟩ := hrel
    cases more with
    | false =>
     have hId := Lib.hid (hI.out rfl)
     clear hI hP
     go_wp2
     go_end0
     exact ⟨rfl, gi, d, hW.out, hId.out⟩
    | true =>
     obtain ⟨hPs, hkn, hm⟩ := hP.out rfl
     have HPS := Lib.hid hPs
     clear hP hI hPs
     have k3 := hW.out.pb.cell 3
     simp only [List.getElem?_toArray, List.getElem?_cons_zero, List.getElem?_cons_succ] at k3
     by_cases hc1 : cr = 1
     ·subst hc1
      obtain rfl : n = 1 := by omega
      go_wp2
      go_loopw [3, 45] (fun t3 t wr => t3 = .bool false ∧ t = .int .i64 0 ∧ Hid (Dw w p 1 gi (.slice ab 1 cb) (.slice aa 1 ca) vo (.slice (some ⟨gr, or, none⟩) 1 1) (.slice (some ⟨b4, o4, none⟩) 1 c4) (dI 1 d) wr)) (fun _ _ _ => 0)
      case atStart => exact ⟨rfl, rfl, hW.out⟩
      case round =>
       obtain ⟨rfl, rfl, hW2⟩ := hrel
       have hI2 : Hid (Idom nx pl 1 d) := (Rn.start HG.out HPS.out).stop HG.out fun c hc => by
        obtain rfl : c = 0 := by omega
        rw [HG.out.p0]; omega
       clear hW k3
       go_wp2
       go_roundg 0
       case measure => omega
       case rel => exact ⟨false, d, 0, rfl, hW2.out, (fun h => by cases h), fun _ => hI2.out⟩
     ·go_wp2
      have hRn := Lib.hid (Rn.start HG.out HPS.out)
      go_loopw [3, 45] (fun t3 t wr => ∃ (more : Bool) (d' : Nat → Option Nat) (i : Nat), i ≤ n - 1 ∧ t3 = .bool more ∧ t = .int .i64 (i : Int) ∧ Hid (Dw w p n gi (.slice ab n cb) (.slice aa n ca) vo (.slice (some ⟨gr, or, none⟩) n cr) (.slice (some ⟨b4, o4, none⟩) n c4) (dI n d') wr) ∧ Hid (Rn nx pl n ah k (i + 1) d' more)) (fun _ t _ => n - 1 - (intOf t).toNat)
      case atStart => exact ⟨false, d, 0, by omega, rfl, rfl, hW.out, hRn.out⟩
      case round =>
       clear hW k3 hRn HPS
       obtain ⟨more, d', i, hi, rfl, rfl, hW, hR⟩ := hrel
       by_cases hlt : i < n - 1
       ·have hlt' : (i : Int) < ((n - 1 : Nat) : Int) := by omega
        have hi0 : (0 : Int) ≤ (i : Int) := by omega
        obtain ⟨b, hRb⟩ : ∃ b, R[i + 1]? = some b := ⟨_, List.getElem?_eq_getElem (by rw [HI.out.lr]; omega)⟩
        obtain ⟨hbn, hplb⟩ := HI.out.pr _ _ hRb
        have hb0 : b ≠ 0 := fun e => by subst e; rw [HG.out.p0] at hplb; omega
        have hbi : (b : Int) < (n : Int) := by omega
        have hbi0 : (0 : Int) ≤ (b : Int) := by omega
        obtain ⟨gr', or', er, _, _, cb'⟩ := SlX.int (HI.out.ro.ex hW.out.ex) (show (nI R)[i + 1]? = some (b : Int) by unfold nI; rw [List.getElem?_map, hRb]; rfl)
        injection er with er
        injection er with er1 er2
        subst er1 er2
        rw [show or + (i + 1) = or + 1 + i by omega] at cb'
        obtain ⟨s, hs⟩ : ∃ s, ss[b]? = some s := ⟨_, List.getElem?_eq_getElem (by rw [HI.out.ls]; exact hbn)⟩
        have hsa := HI.out.sa.ex hW.out.ex
        obtain ⟨ba, oa, rfl, _, hat⟩ := hsa.get hs
        have ca1 := hat.cell 0 _ rfl
        rw [show oa + b * tII.n + 0 = oa + b by show oa + b * 1 + 0 = _; omega] at ca1
        have hsn := HI.out.na b s hs
        obtain ⟨as1, cs1, es1, hs1, hs2⟩ := hsn.form
        rw [nI_len] at es1 hs1
        rw [es1] at ca1 hsn
        unfold maxLen at hs2
        have hal := HAH.out b
        have HSN := Lib.hid hsn
        have HPB := Lib.hid hplb
        have hk1 : wr.cell? ⟨p, 1, none⟩ = some (.slice (some ⟨ba, oa, none⟩) n ca) := hW.out.pb.cell 1
        clear hRb hplb hs hsa hat hsn es1
        obtain ⟨wo, rfl⟩ : ∃ x : World, x = wr := ⟨_, rfl⟩
        go_wp2
        go_loopw [6, 57] (fun t6 t wr => ∃ (j : Nat) (o : Option Nat) (q : Nat), j ≤ (ah b).length ∧ t = .int .i64 (j : Int) ∧ t6 = .int .i64 (oi o) ∧ wr = wo.drewN q ∧ Hid (Bst d' ((ah b).take j) o)) (fun _ t _ => (ah b).length - (intOf t).toNat)
        case atStart => exact ⟨0, none, 0, by omega, rfl, rfl, rfl, by rw [List.take_zero]; exact Bst.nil d'⟩
        case round =>
         clear cb' ca1 hk1
         obtain ⟨j, o, q, hj, rfl, rfl, hw, hB⟩ := hrel
         have HWR := Lib.hid (hW.out.drewN q)
         rw [← hw] at HWR
         have HW := Lib.hid hw
         clear hw
         have k5 : wr.cell? ⟨p, 5, none⟩ = some (.slice (some ⟨gi, 0, none⟩) n n) := HWR.out.pb.cell 5
         by_cases hlj : j < (ah b).length
         ·have hlj' : (j : Int) < ((ah b).length : Int) := by omega
          obtain ⟨u, hu⟩ : ∃ u, (ah b)[j]? = some u := ⟨_, List.getElem?_eq_getElem hlj⟩
          have hun : u < n := ((HG.out.mem u b hbn).1 (List.mem_of_getElem? hu)).1
          have hui : (u : Int) < (n : Int) := by omega
          have hui0 : (0 : Int) ≤ (u : Int) := by omega
          obtain ⟨bs1, os1, rfl, _, _, cu⟩ := SlX.int (HSN.out.ex HWR.out.ex) (show (nI (ah b))[j]? = some (u : Int) by unfold nI; rw [List.getElem?_map, hu]; rfl)
          have cd := OwR.int HWR.out.pi (dI_get d' hun)
          have htk : (ah b).take (j + 1) = (ah b).take j ++ [u] := by rw [List.take_add_one, hu]; rfl
          have HTK := Lib.hid htk
          clear htk hu
          cases hdu : d' u with
          | none =>
           rw [hdu] at cd
           have cd2 : wr.cell? ⟨gi, u, none⟩ = some (.int .i64 (-1)) := cd
           have hB9 : Hid (Bst d' ((ah b).take (j + 1)) o) := by show Bst _ _ _; rw [HTK.out]; exact hB.out.skip hdu
           clear cd hdu hB
           go_wp2
           go_roundw
           all_goals first
            | exact ⟨j + 1, o, q, by omega, by go_num, rfl, HW.out, hB9.out⟩
            | ((repeat apply Exists.intro); exact ⟨⟨j + 1, o, q, by omega, by go_num, rfl, HW.out, hB9.out⟩, rfl⟩)
            | (simp [intOf]; omega)
          | some y =>
           rw [hdu] at cd
           have cd2 : wr.cell? ⟨gi, u, none⟩ = some (.int .i64 (y : Int)) := cd
           have hus := Lib.hid (show (d' u).isSome = true by rw [hdu]; rfl)
           have hyn : ¬ (y : Int) < 0 := by omega
           clear cd hdu
           cases o with
           | none =>
            have hB9 : Hid (Bst d' ((ah b).take (j + 1)) (some u)) := by show Bst _ _ _; rw [HTK.out]; exact hB.out.first hus.out
            clear hB
            simp only [oi]
            go_wp2
            go_roundw
            all_goals first
             | exact ⟨j + 1, some u, q, by omega, by go_num, rfl, HW.out, hB9.out⟩
             | ((repeat apply Exists.intro); exact ⟨⟨j + 1, some u, q, by omega, by go_num, rfl, HW.out, hB9.out⟩, rfl⟩)
             | (simp [intOf]; omega)
           | some m =>
            have hmn : ¬ (m : Int) < 0 := by omega
            have hms := hB.out.isSome hR.out.ps.tb
            have hPd : Pd p n pl d' ⟨b4, o4, none⟩ ⟨gi, 0, none⟩ c4 n wr := ⟨HWR.out.pb.cell 4, HWR.out.pb.cell 5, rfl, rfl, fun x hx => (World.cell?_of_block (HWR.out.ex.block b4 HI.out.p4.2 HI.out.p4.1)).trans (HI.out.pp x hx), fun x hx => by
             have := OwR.int HWR.out.pi (dI_get d' hx)
             simp only [Nat.zero_add]
             exact this⟩
            have HPD := Lib.hid hPd
            have HMS := Lib.hid hms
            clear hPd hms
            simp only [oi]
            go_wp2_with fail
            refine (meet_ok _ p n nx pl d' ah HG.out hR.out.ps.tb b4 o4 gi 0 c4 n HPD.out m u HMS.out hus.out).mono ?_
            rintro e w3 ⟨m', rfl, hmt, q', hw3⟩
            have hB9 : Hid (Bst d' ((ah b).take (j + 1)) (some m')) := by show Bst _ _ _; rw [HTK.out]; exact hB.out.more hus.out hmt
            have HW3 := Lib.hid (show w3 = wo.drewN (q + q') by rw [hw3, HW.out]; simp)
            clear hB hmt hw3 HPD HMS hus
            go_wp2
            go_roundw
            all_goals first
             | exact ⟨j + 1, some m', _, by omega, by go_num, rfl, HW3.out, hB9.out⟩
             | ((repeat apply Exists.intro); exact ⟨⟨j + 1, some m', _, by omega, by go_num, rfl, HW3.out, hB9.out⟩, rfl⟩)
             | (simp [intOf]; omega)
         ·have hjl : j = (ah b).length := by omega
          have hB2 := hB.out
          rw [hjl, List.take_length] at hB2
          have hRb : Rn nx pl n ah k (pl b) d' more := by rw [HPB.out]; exact hR.out
          obtain ⟨z, hz⟩ := hRb.ps.found HG.out hbn hb0 hB2
          subst hz
          have cd := OwR.int HWR.out.pi (dI_get d' hbn)
          have cf := HWR.out.pi.frozen b
          obtain ⟨x, hx⟩ : ∃ x, x = oi (d' b) := ⟨_, rfl⟩
          rw [← hx] at cd
          have HX := Lib.hid hx
          clear hx hB hjl
          by_cases hxz : x = (z : Int)
          ·have hxz' : (x != (z : Int)) = false := by simp [hxz]
           have hdz : d' b = some z := by
            have h1 := HX.out.symm.trans hxz
            cases hd : d' b with
            | none => rw [hd] at h1; simp only [oi] at h1; omega
            | some y => rw [hd] at h1; simp only [oi] at h1; exact congrArg some (by omega)
           have hR9 := hRb.same HG.out hbn hb0 hB2 hdz
           rw [HPB.out] at hR9
           have HR9 := Lib.hid hR9
           clear hR9 hRb hB2 hdz hxz
           simp only [oi]
           go_wp2
           go_roundw
           all_goals first
            | exact ⟨more, d', i + 1, by omega, rfl, by go_num, HWR.out, HR9.out⟩
            | ((repeat apply Exists.intro); exact ⟨⟨more, d', i + 1, by omega, rfl, by go_num, HWR.out, HR9.out⟩, rfl⟩)
            | (simp [intOf]; omega)
          ·have hxz' : (x != (z : Int)) = true := by simp [hxz]
           have hdz : d' b ≠ some z := fun e => hxz (by rw [HX.out, e]; rfl)
           have hR9 := hRb.diff HG.out hbn hb0 hB2 hdz
           rw [HPB.out] at hR9
           have HR9 := Lib.hid hR9
           have hnew := HWR.out.set (k := b) (x := (z : Int)) (by rw [dI_len]; exact hbn)
           rw [dI_put d' z hbn] at hnew
           have HNW := Lib.hid hnew
           clear hR9 hRb hB2 hdz hxz hnew
           simp only [oi]
           go_wp2
           go_roundw
           all_goals first
            | exact ⟨true, _, i + 1, by omega, rfl, by go_num, HNW.out, HR9.out⟩
            | ((repeat apply Exists.intro); exact ⟨⟨true, _, i + 1, by omega, rfl, by go_num, HNW.out, HR9.out⟩, rfl⟩)
            | (simp [intOf]; omega)
       ·have hall : ∀ c, c < n → pl c < i + 1 := fun c hc => by
         rcases Nat.lt_or_ge (pl c) n with h | h
         ·omega
         ·exfalso
          have := HPL.out c hc
          omega
        cases more with
        | true =>
         obtain ⟨hkn', hPs⟩ := hR.out.next HG.out hall
         have HPS := Lib.hid hPs
         clear hall hR hPs
         go_wp2
         go_roundg (n + 1 - (k + 1))
         case measure => omega
         case rel => exact ⟨true, d', k + 1, rfl, hW.out, (fun _ => ⟨HPS.out, by omega, rfl⟩), (fun h => by cases h)⟩
        | false =>
         have hId := Lib.hid (hR.out.stop HG.out hall)
         clear hall hR
         go_wp2
         go_roundg 0
         case measure => omega
         case rel => exact ⟨false, d', k, rfl, hW.out, (fun h => by cases h), fun _ => hId.out⟩
end Go.Proofs.Ytndnfjcfpcfakaa
namespace Go.Fl
theorem chk_ok {l : List In} : ∀ {k : Nat}, k ≤ 4096 → (chk k l).2 = 0 → (∀ x ∈ l, right x = 0) ∧ k + l.length ≤ 4096 := by
 induction l with
 | nil => intro k hk _; exact ⟨fun x hx => (by cases hx), by simpa using hk⟩
 | cons x l ih =>
  intro k hk h
  unfold chk at h
  by_cases h1 : k = 4096
  ·rw [if_pos h1] at h; simp at h
  ·rw [if_neg h1] at h
   by_cases h2 : right x = 0
   ·rw [if_pos h2] at h
    obtain ⟨h3, h4⟩ := ih (by omega) h
    refine ⟨fun y hy => ?_, by simp; omega⟩
    rcases List.mem_cons.1 hy with rfl | hy
    ·exact h2
    ·exact h3 y hy
   ·rw [if_neg h2] at h; exact absurd h h2
theorem right_off {x : In} (h : right x = 0) : -32768 ≤ x.off ∧ x.off < 32768 := by
 unfold right at h
 split at h
 ·cases h
 ·split at h
  ·cases h
  ·split at h
   ·cases h
   ·rename_i h3
    simp only [Bool.or_eq_true, decide_eq_true_eq, not_or] at h3
    omega
theorem right_imm {x : In} (h : right x = 0) (h1 : x.op = 26) (h2 : x.nar = true) : -2147483648 ≤ x.imm ∧ x.imm ≤ 2147483647 := by
 unfold right at h
 split at h
 ·cases h
 ·split at h
  ·cases h
  ·split at h
   ·cases h
   ·split at h
    ·cases h
    ·rename_i h4
     have hu : uI x = true := by unfold uI; simp [h1, h2]
     have hf : immFits x = true := by
      cases hf : immFits x with
      | true => rfl
      | false => rw [hu, hf] at h4; simp at h4
     unfold immFits at hf
     rw [if_neg (by omega)] at hf
     split at hf
     ·cases hf
     ·omega
theorem G1.len {l : List In} (g : G1 l) : l.length ≤ 4096 := by have := (chk_ok (by omega) g.ck).2; omega
end Go.Fl
namespace Go.Proofs.Ytndnfjcfpcfakaa
open Go Go.RowKit Go.Wr Go.Fl
theorem SlX.re {α : Type} {R : RT Try.prog α} {p q : Nat} {w : World} {v : Value} {l : List α} (h : SlX R q w v l) (hp : w.heap.size ≤ p) : SlX R p w v l := by
 obtain ⟨a0, cap, e, h1, h2, hc⟩ := h
 exact ⟨a0, cap, e, h1, h2, fun k x hk => by
  obtain ⟨b, o, e1, e2, e3⟩ := hc k x hk
  exact ⟨b, o, e1, fun e => by have := e3.1; omega, e3⟩⟩
structure Fin (l : List In) (p : Nat) (ab : Option Addr) (cb b4 o4 b5 o5 c4 c5 : Nat) (va vo vr vl : Value) (bs : List Bk) (ss : List Sv) (E : List Lq) (d : Nat → Option Nat) (w : World) : Prop where
 blk : Blk w p 90 #[.slice ab (nB l) cb, va, vo, vr, .slice (some ⟨b4, o4, none⟩) (nB l) c4, .slice (some ⟨b5, o5, none⟩) (nB l) c5, vl]
 fw : Fw p l (.slice ab (nB l) cb) va vo bs ss w
 nd : Nd p (nB l) l (plc (dfsL (nxt l))) d ab cb va ss b4 o4 b5 o5 c4 c5 w
 ro : SlX tI p w vr (nI (dfsL (nxt l)).reverse)
 la : SlX tA p w vl (arL E fun i => parK l i (heads l).length)
 el : ∀ e ∈ E, SlX tI p w e.bl.v (nI (ins (lpB l e.hd) (nB l)))
 hd : E.map (·.hd) = heads l
 lo : p ≤ b4 ∧ p ≤ b5 ∧ Lo p vr ∧ Lo p vl ∧ ∀ e ∈ E, Lo p e.bl.v
theorem Fin.below {l : List In} {p : Nat} {ab : Option Addr} {cb b4 o4 b5 o5 c4 c5 : Nat} {va vo vr vl : Value} {bs : List Bk} {ss : List Sv} {E : List Lq} {d : Nat → Option Nat} {w w' : World} (h : Fin l p ab cb b4 o4 b5 o5 c4 c5 va vo vr vl bs ss E d w) (b : Below w.heap.size w w') : Fin l p ab cb b4 o4 b5 o5 c4 c5 va vo vr vl bs ss E d w' :=
 ⟨h.blk.below b h.blk.lt, h.fw.ex (Ex.of_below b), h.nd.ex (Ex.of_below b), h.ro.below b, h.la.below b, fun e he => (h.el e he).below b, h.hd, h.lo⟩
theorem Fin.old {l : List In} {p g : Nat} {ab : Option Addr} {cb b4 o4 b5 o5 c4 c5 : Nat} {va vo vr vl : Value} {bs : List Bk} {ss : List Sv} {E : List Lq} {d : Nat → Option Nat} {w w' : World} (h : Fin l p ab cb b4 o4 b5 o5 c4 c5 va vo vr vl bs ss E d w) (hg : g < p) (x : Ex g w w') : Fin l p ab cb b4 o4 b5 o5 c4 c5 va vo vr vl bs ss E d w' := by
 obtain ⟨l1, l2, l3, l4, l5⟩ := h.fw.lo
 obtain ⟨m1, m2, m3, m4, m5⟩ := h.lo
 refine ⟨x.blk h.blk (by omega), ⟨h.fw.lb, h.fw.sb.old l1 hg x, fun b k hk => ⟨(h.fw.nb b k hk).1, (h.fw.nb b k hk).2.1, (h.fw.nb b k hk).2.2.old (l4 k (List.mem_of_getElem? hk)) hg x⟩, h.fw.la, h.fw.sa.old l2 hg x, fun b s hs => (h.fw.na b s hs).old (l5 s (List.mem_of_getElem? hs)) hg x, h.fw.so.old l3 hg x, h.fw.lo⟩,
  ⟨h.nd.gr, h.nd.id, h.nd.sa.old l2 hg x, h.nd.ls, fun b s hs => (h.nd.na b s hs).old (l5 s (List.mem_of_getElem? hs)) hg x, fun b hb => (World.cell?_of_block (x.block b4 h.nd.n4.2 (by omega))).trans (h.nd.p4 b hb), fun b hb => (World.cell?_of_block (x.block b5 h.nd.n5.2 (by omega))).trans (h.nd.p5 b hb), ⟨h.nd.n4.1, Nat.lt_of_lt_of_le h.nd.n4.2 x.size⟩, ⟨h.nd.n5.1, Nat.lt_of_lt_of_le h.nd.n5.2 x.size⟩⟩,
  h.ro.old m3 hg x, h.la.old m4 hg x, fun e he => (h.el e he).old (m5 e he) hg x, h.hd, h.lo⟩
def MakeP (l : List In) (w : World) (e : Ending) (w' : World) : Prop :=
 Below w.heap.size w w' ∧ ((e = .returned (.tuple #[.pointer none, .int .i64 (mkE l).1, .int .i64 (mkE l).2]) ∧ (mkE l).2 ≠ 0) ∨
  (G7 l ∧ ∃ p ab cb b4 o4 b5 o5 c4 c5 va vo vr vl bs ss E d, e = .returned (.tuple #[.pointer (some ⟨p, 0, none⟩), .int .i64 0, .int .i64 0]) ∧ w.heap.size ≤ p ∧ Fin l p ab cb b4 o4 b5 o5 c4 c5 va vo vr vl bs ss E d w'))
theorem MakeP.no {l : List In} {w w' : World} {at' : Nat} {c : Int} (h : mkE l = (at', c)) (hc : c ≠ 0) (hb : Below w.heap.size w w') (x y : Int) (hx : x = (at' : Int)) (hy : y = c) : MakeP l w (.returned (.tuple #[.pointer none, .int .i64 x, .int .i64 y])) w' := by
 subst hx hy
 exact ⟨hb, Or.inl ⟨by rw [h], by rw [h]; exact hc⟩⟩
end Go.Proofs.Ytndnfjcfpcfakaa
namespace Go.Proofs.Ytndnfjcfpcfakaa
open Go Go.RowKit Go.Wr Go.Fl
set_option maxHeartbeats 4000000
set_option maxRecDepth 100000
theorem endOk_iff {l : List In} {x : In} (hx : l[l.length - 1]? = some x) : endOk l ↔ (x.op = 26 ∨ x.op = 39) := by
 unfold endOk
 rw [List.getLast?_eq_getElem?, hx]
 constructor
 ·rintro ⟨y, e, h⟩; injection e with e; subst e; exact h
 ·exact fun h => ⟨x, rfl, h⟩
theorem frm_frF {l : List In} {b : Nat} (h : b < nB l) : frm l b = frF l b := by
 have he : (bl l)[b]? = some ((bl l)[b]'h) := List.getElem?_eq_getElem h
 rw [frm_of he, (frF_of he).1]
theorem Fw.from {p : Nat} {l : List In} {bb off cb : Nat} {va vo : Value} {bs : List Bk} {ss : List Sv} {w : World} (h : Fw p l (.slice (some ⟨bb, off, none⟩) (nB l) cb) va vo bs ss w) {b : Nat} (hb : b < nB l) : w.cell? ⟨bb, off + b * 3, none⟩ = some (.int .i64 (frF l b : Int)) := by
 obtain ⟨k, hk⟩ : ∃ k, bs[b]? = some k := ⟨_, List.getElem?_eq_getElem (by rw [h.lb]; exact hb)⟩
 obtain ⟨b', o', e, _, hat⟩ := h.sb.get hk
 injection e with e
 injection e with e1 e2
 subst e1 e2
 have := (at_bk hat).1
 rw [(h.nb b k hk).1] at this
 exact this
theorem ahd_len (l : List In) (u : Nat) : (ahd l u).length ≤ 2 * (nB l + 1) := by
 have e : ahP l (nB l) 0 u = ahd l u := by simp [ahP, ahd, nB]
 rw [← e]
 exact ahP_len l 0 u (nB l)
theorem make_ok (w : World) (q : Nat) (v : Value) (l : List In) (h : SlX tN q w v l) : Calls Try.prog 25 #[v] w (MakeP l w) := by
 obtain ⟨a0, cap, rfl, h1, h2⟩ := h.form
 have H := Lib.hid h
 unfold maxLen at h2
 obtain ⟨c1, hc1⟩ : ∃ c, c = (chk 0 l).1 := ⟨_, rfl⟩
 obtain ⟨c2, hc2⟩ : ∃ c, c = (chk 0 l).2 := ⟨_, rfl⟩
 have HC1 := Lib.hid hc1
 have HC2 := Lib.hid hc2
 clear h hc1 hc2
 go_enter Try.func25, Try.ntmps25
 go_wp2_with fail
 refine (check_ok _ q _ l H.out).mono ?_
 rintro e w1 ⟨rfl, b1⟩
 rw [← HC1.out, ← HC2.out]
 have HB1 := Lib.hid b1
 clear b1
 by_cases hce : c2 = 0
 ·have hce' : (c2 != 0) = false := by simp [hce]
  have HCE := Lib.hid (show (chk 0 l).2 = 0 by rw [← HC2.out]; exact hce)
  clear hce
  by_cases hl0 : l.length = 0
  ·have hl0' : ((l.length : Int) == 0) = true := by simp [hl0]
   have HL0 := Lib.hid (show l = [] from List.length_eq_zero_iff.1 hl0)
   clear hl0
   go_wp2
   go_ret3
   exact MakeP.no (mk_nil HL0.out) (by decide) HB1.out _ _ rfl rfl
  ·have hl0' : ((l.length : Int) == 0) = false := beq_eq_false_iff_ne.2 (by omega)
   have hlp : 0 < l.length := by omega
   have HG1 := Lib.hid (show G1 l from ⟨HCE.out, fun e => hl0 (by rw [e]; rfl)⟩)
   have hlen := HG1.out.len
   have HR := Lib.hid (chk_ok (k := 0) (Nat.zero_le _) HCE.out).1
   clear hl0 HCE
   go_wp2_with fail
   refine (targets_ok _ q _ l (H.out.below HB1.out) (by omega) (fun x hx => by have := right_off (HR.out x hx); omega) (fun x hx h1 h2 => by have := right_imm (HR.out x hx) h1 h2; omega)).mono ?_
   rintro e w2 ⟨ht, b2⟩
   have HB2 := Lib.hid (bThen HB1.out b2)
   clear b2
   rcases ht with ⟨i, hi, hlo, hfi, rfl⟩ | ⟨hlo, vt, rfl, hot⟩
   ·have HM := Lib.hid (mk_lost HG1.out hi hlo hfi)
    clear hlo hfi
    go_wp2
    go_ret3
    exact MakeP.no HM.out (by decide) HB2.out _ _ rfl rfl
   ·have HG2 := Lib.hid (show G2 l from ⟨HG1.out, hlo⟩)
    have HOT := Lib.hid hot
    clear hlo hot
    obtain ⟨x, hx⟩ : ∃ x, l[l.length - 1]? = some x := ⟨_, List.getElem?_eq_getElem (by omega)⟩
    have HEN := Lib.hid (endOk_iff hx)
    obtain ⟨bb, off, rfl, _, hat⟩ := (H.out.below HB2.out).get hx
    obtain ⟨c0, _⟩ := at_ins hat
    have e8 : tN.n = 8 := rfl
    rw [e8] at c0
    have hsub : ((l.length : Int) - 1) = ((l.length - 1 : Nat) : Int) := by omega
    have hl1 : (0 : Int) ≤ (l.length : Int) - 1 := by omega
    have hl2 : (l.length : Int) - 1 < (l.length : Int) := by omega
    have hl3 : ((l.length : Int) - 1).toNat = l.length - 1 := by omega
    clear hat e8 hx
    by_cases hend : endOk l
    ·have hg3 : G3 l := ⟨HG2.out, hend⟩
     have HG3 := Lib.hid hg3
     go_upto_region 10 with (fail)
     go_cut [45] (fun t wc => t = .bool false ∧ w2 = wc)
     case first =>
      rcases HEN.out.1 hend with hop | hop
      ·have hz1 : (x.op != 26) = false := by simp [hop]
       clear hop
       go_wp2
       go_meet
       exact ⟨rfl, rfl⟩
      ·have hz1 : (x.op != 26) = true := by simp [hop]
       have hz2 : (x.op != 39) = false := by simp [hop]
       clear hop
       go_wp2
       go_meet
       exact ⟨rfl, rfl⟩
     case rest =>
      obtain ⟨rfl, rfl⟩ := hcut
      clear hend c0 hsub hl1 hl2 hl3
      have hnl := nB_le l
      have hn0 : 0 < nB l := hg3.pos
      clear hg3
      go_wp2_with fail
      generalize hW3 : w2.alloc (.cells #[sn, sn, sn, sn, sn, sn, sn] 90) = W3
      obtain ⟨p, hp⟩ : ∃ q, q = w2.heap.size := ⟨_, rfl⟩
      have b3 : Blk W3 p 90 #[sn, sn, sn, sn, sn, sn, sn] := by rw [← hW3, hp]; exact Blk.new _ _ _
      have hs3 : SlX tN p W3 (.slice (some ⟨bb, off, none⟩) l.length cap) l := by rw [← hW3]; exact (SlX.re (H.out.below HB2.out) (by omega)).below (bAl (bRefl w2) _)
      have ht3 : SlX tI p W3 vt (tosI l l.length) := by rw [← hW3]; exact (HOT.out.sl (p := p) (fun e => by have := HOT.out.lt e; omega)).below (bAl (bRefl w2) _)
      have HBW := Lib.hid (show Below w.heap.size w W3 by rw [← hW3]; exact bAl HB2.out _)
      have hwp : w.heap.size ≤ p := by rw [hp]; exact HB2.out.size
      rw [← hp]
      refine (split_ok _ p l _ _ hs3 ht3 hlen hlp HG3.out.en b3).mono ?_
      rintro e w4 ⟨rfl, ex4, vb, va, vo, bs, ss, b4, fw4⟩
      clear hs3 ht3 b3 hW3 hp
      obtain ⟨ab, cb, rfl, hab1, hab2⟩ := fw4.sb.form
      rw [fw4.lb] at b4 fw4 hab1
      unfold maxLen at hab2
      obtain ⟨ob, hob⟩ : ∃ k, bs[0]? = some k := ⟨_, List.getElem?_eq_getElem (by rw [fw4.lb]; exact hn0)⟩
      obtain ⟨gb, fb, rfl, _, hat0⟩ := fw4.sb.get hob
      have HE4 := Lib.hid ex4
      have HP4 := Lib.hid b4
      have HF4 := Lib.hid fw4
      have k0 := b4.cell 0
      simp only [List.getElem?_toArray, List.getElem?_cons_zero] at k0
      clear hat0 hob ex4 b4 fw4
      by_cases hbig : 512 < nB l
      ·have hbig' : (512 : Int) < (nB l : Int) := by omega
       have HM := Lib.hid (mk_many HG3.out hbig)
       have hfrm := Lib.hid (frm_frF hbig)
       have cf := HF4.out.from hbig
       have hsz : Below w.heap.size w w4 := HBW.out.trans (HE4.out.below hwp HBW.out.size)
       go_upto_region 15 with (fail)
       go_quiet (fail)
       go_wp2
       go_ret3
       exact MakeP.no HM.out (by decide) (bDraw hsz _) _ _ (by rw [hfrm.out]) rfl
      ·have hbig' : ¬ (512 : Int) < (nB l : Int) := by omega
       have HG4 := Lib.hid (show G4 l from ⟨HG3.out, by omega⟩)
       have HD := Lib.hid HG3.out.dfs
       have HDL := Lib.hid HG3.out.dlt
       obtain ⟨D, hDD⟩ : ∃ D, D = dfsL (nxt l) := ⟨_, rfl⟩
       rw [← hDD] at HD HDL
       have HDD := Lib.hid hDD
       clear hDD
       go_wp2_with fail
       refine (walk_ok _ p (nB l) (nxt l) HG3.out.nlt hn0 (by omega) (fun u => by have := nxt_two l u; omega) D HD.out (nodup_len (nB l) D HD.out.po.nd HDL.out) HDL.out (.slice (some ⟨gb, fb, none⟩) (nB l) cb) va vo bs ⟨HP4.out.cell 0, HF4.out.lb, HF4.out.sb, fun b k hk => (HF4.out.nb b k hk).2.2⟩ HP4.out).mono ?_
       rintro e w5 ⟨rfl, ex5, vr, vp, b5, or5, op5⟩
       have HPL := Lib.hid (Nat.le_of_lt HP4.out.lt)
       have HLR := Lib.hid (or5.lo HPL.out)
       have HE5 := Lib.hid (HE4.out.trans ex5)
       have HF5 := Lib.hid (HF4.out.ex ex5)
       clear HE4 HP4 HF4 k0 ex5
       rcases op5.form with ⟨_, e⟩ | ⟨gp, cp, rfl, hcp1, hcp2, hgp⟩
       ·have := congrArg List.length e
        simp at this
        omega
       ·rw [show ((List.range (nB l)).map fun b => if b ∈ D then (plc D b : Int) else -1).length = nB l by simp] at b5 op5 hcp1
        have HP5 := Lib.hid b5
        have HR5 := Lib.hid (or5.sl (or5.ne b5 (by decide)))
        have HO5 := Lib.hid op5
        have hngp : gp ≠ p := by
         obtain ⟨_, C, hg⟩ := op5.blk (g := gp) rfl
         exact blk_ne hg b5 (by decide)
        have hlgp : gp < w5.heap.size := op5.lt rfl
        have HL4 := Lib.hid (Nat.le_trans HPL.out hgp)
        have HL5 := Lib.hid (Nat.le_of_lt b5.lt)
        unfold maxLen at hcp2
        clear b5 or5 op5
        have k4 := HP5.out.cell 4
        simp only [List.getElem?_toArray, List.getElem?_cons_zero, List.getElem?_cons_succ] at k4
        have HBT := Lib.hid (show Below w.heap.size w w5 from HBW.out.trans (HE5.out.below hwp HBW.out.size))
        go_wp2
        go_loopw [2, 75] (fun t2 t wr => ∃ b : Nat, b ≤ nB l ∧ t = .int .i64 (b : Int) ∧ t2 = .pointer (some ⟨p, 0, none⟩) ∧ w5 = wr ∧ Hid (∀ x, x < b → x ∈ D)) (fun _ t _ => nB l - (intOf t).toNat)
        case atStart => exact ⟨0, by omega, rfl, rfl, rfl, fun x hx => by omega⟩
        case round =>
         obtain ⟨b, hb, rfl, rfl, rfl, hq⟩ := hrel
         by_cases hlb : b < nB l
         ·have hlb' : (b : Int) < (nB l : Int) := by omega
          have hb0 : (0 : Int) ≤ (b : Int) := by omega
          have hgb : ((List.range (nB l)).map fun b => if b ∈ D then (plc D b : Int) else -1)[b]? = some (if b ∈ D then (plc D b : Int) else -1) := by rw [List.getElem?_map, List.getElem?_range hlb]; rfl
          have cb1 := OwR.int HO5.out hgb
          clear hgb
          by_cases hbD : b ∈ D
          ·rw [if_pos hbD] at cb1
           have hneg : ¬ (plc D b : Int) < 0 := by omega
           have hq9 : Hid (∀ x, x < b + 1 → x ∈ D) := fun x hx => by
            by_cases e : x < b
            ·exact hq.out x e
            ·obtain rfl : x = b := by omega
             exact hbD
           clear hq hbD
           go_wp2
           go_roundw
           all_goals first
            | exact ⟨b + 1, by omega, by go_num, rfl, trivial, hq9.out⟩
            | ((repeat apply Exists.intro); exact ⟨⟨b + 1, by omega, by go_num, trivial, trivial, hq9.out⟩, rfl⟩)
            | (simp [intOf]; omega)
          ·rw [if_neg hbD] at cb1
           have HM := Lib.hid (mk_reach HG4.out hlb (fun h => hbD ((HD.out.po.rw b).2 h)) (fun x hx => (HD.out.po.rw x).1 (hq.out x hx)))
           have hfrm := Lib.hid (frm_frF hlb)
           have cf := HF5.out.from hlb
           have k0 : w5.cell? ⟨p, 0, none⟩ = some (.slice (some ⟨gb, fb, none⟩) (nB l) cb) := HP5.out.cell 0
           clear hq hbD
           go_upto_region 21 with (fail)
           go_quiet (fail)
           go_wp2
           go_ret3
           exact MakeP.no HM.out (by decide) (bDraw HBT.out _) _ _ (by rw [hfrm.out]) rfl
         ·obtain rfl : b = nB l := by omega
          have hg5 : G5 l := ⟨HG4.out, fun b hb => (HD.out.po.rw b).1 (hq.out b hb)⟩
          have HG5 := Lib.hid hg5
          have hgr := hg5.gr
          have hlen5 := hg5.len
          have hplt := fun c (hc : c < nB l) => hg5.plt hc
          rw [← HDD.out] at hgr hlen5 hplt
          have HGR := Lib.hid hgr
          have HPLT := Lib.hid hplt
          have hDi : Di p (nB l) (plc D) (ahd l) D.reverse va vr gp 0 cp ss w5 := by
           refine ⟨HF5.out.sa, HF5.out.la, HF5.out.na, HR5.out, by rw [List.length_reverse]; exact hlen5, fun i x hx => ⟨HDL.out x (List.mem_reverse.1 (List.mem_of_getElem? hx)), ?_⟩, fun b hb => ?_, ⟨hngp, hlgp⟩⟩
           ·have hi : i < D.reverse.length := (List.getElem?_eq_some_iff.1 hx).1
            have e := (List.getElem?_eq_some_iff.1 hx).2
            unfold plc
            rw [← e]
            exact List.Nodup.idxOf_getElem (nd_rev HD.out.po.nd) i hi
           ·have := OwR.int HO5.out (k := b) (x := (plc D b : Int)) (by rw [List.getElem?_map, List.getElem?_range hb]; simp [hq.out b hb])
            rw [Nat.zero_add]
            exact this
          have HDI := Lib.hid hDi
          clear hDi hg5 hgr hlen5 hplt hq hlb k4
          go_wp2_with fail
          refine (dominators_ok _ p (nB l) (nxt l) (plc D) (ahd l) HGR.out (by omega) (fun b => by have := ahd_len l b; omega) HPLT.out D.reverse (some ⟨gb, fb, none⟩) cb gp 0 cp va vo vr ss HDI.out HP5.out).mono ?_
          rintro e w6 ⟨rfl, gi, d, hDw, hId⟩
          have HDW := Lib.hid hDw
          have HID := Lib.hid hId
          have HLI := Lib.hid (Nat.le_trans HL5.out (hDw.pi.blk (g := gi) rfl).1)
          clear hDw hId
          have hgi : gi ≠ p ∧ gi < w6.heap.size := by
           obtain ⟨_, C, hg⟩ := HDW.out.pi.blk (g := gi) rfl
           exact ⟨blk_ne hg HDW.out.pb (by decide), hg.lt⟩
          have hnd : Nd p (nB l) l (plc D) d (some ⟨gb, fb, none⟩) cb va ss gp 0 gi 0 cp (nB l) w6 :=
           ⟨HGR.out, HID.out, HF5.out.sa.ex HDW.out.ex, HF5.out.la, fun b s hs => (HF5.out.na b s hs).ex HDW.out.ex, fun b hb => (World.cell?_of_block (HDW.out.ex.block gp hlgp hngp)).trans (HDI.out.pp b hb), fun b hb => by
            rw [Nat.zero_add]
            exact OwR.int HDW.out.pi (dI_get d hb), ⟨hngp, Nat.lt_of_lt_of_le hlgp HDW.out.ex.size⟩, hgi⟩
          have HF6 := Lib.hid (HF5.out.ex HDW.out.ex)
          have HR6 := Lib.hid (HR5.out.ex HDW.out.ex)
          have HP6 := Lib.hid HDW.out.pb
          have HND := Lib.hid hnd
          have HBT6 := Lib.hid (HBT.out.trans (HDW.out.ex.below hwp HBT.out.size))
          clear hnd HDW HF5 HR5 HP5 HO5 HDI HBT HE5 hgi
          go_wp2_with fail
          refine (straight_ok _ p (nB l) (nxt l) (plc D) d (ahd l) HGR.out HID.out gp 0 gi 0 cp (nB l) (HND.out.pd HP6.out) (.slice (some ⟨gb, fb, none⟩) (nB l) cb) bs ⟨HP6.out.cell 0, HF6.out.lb, HF6.out.sb, fun b k hk => (HF6.out.nb b k hk).2.2⟩ HP6.out.lt HND.out.n4.2 HND.out.n5.2).mono ?_
          rintro e w7 ⟨b7, hst⟩
          have HF7 := Lib.hid (HF6.out.ex (Ex.of_below b7))
          have HR7 := Lib.hid (HR6.out.below b7)
          have HP7 := Lib.hid (HP6.out.below b7 HP6.out.lt)
          have HND7 := Lib.hid (HND.out.ex (Ex.of_below b7))
          have HBT7 := Lib.hid (bThen HBT6.out b7)
          clear HF6 HR6 HP6 HND HBT6 b7
          rcases hst with ⟨rfl, hstr⟩ | ⟨rfl, hno⟩
          ·have HG6 := Lib.hid (show G6 l from HG5.out.no_of (by rw [← HDD.out]; exact hstr))
           clear hstr
           have hnB4 : nB l ≤ 4096 := by omega
           go_wp2_with fail
           refine (nest_ok _ p l (plc D) d (some ⟨gb, fb, none⟩) cb va vo vr ss gp 0 gi 0 cp (nB l) HND7.out hnB4 (fun u => by have := ahd_len l u; omega) HP7.out).mono ?_
           rintro e w8 ⟨rfl, E, vl, vs, hNe, hEh⟩
           have HF8 := Lib.hid (HF7.out.ex hNe.ex)
           have HR8 := Lib.hid (HR7.out.ex hNe.ex)
           have HND8 := Lib.hid (HND7.out.ex hNe.ex)
           have HBT8 := Lib.hid (HBT7.out.trans (hNe.ex.below hwp HBT7.out.size))
           have HNE := Lib.hid hNe
           have HEH := Lib.hid hEh
           have hEl : E.length = (heads l).length := by rw [← hEh]; simp
           have HL7 := Lib.hid (Nat.le_of_lt HP7.out.lt)
           obtain ⟨av, cl, hvl, hcl1, hcl2⟩ : ∃ a c, vl = .slice a E.length c ∧ E.length ≤ c ∧ c ≤ maxLen := by
            rcases hNe.la.form with ⟨e1, e2⟩ | ⟨g, c, e, k1, k2, _⟩
            ·have := congrArg List.length e2
             rw [arL_len] at this
             simp at this
             subst this
             exact ⟨none, 0, e1, by simp, by unfold maxLen; omega⟩
            ·rw [arL_len] at e k1
             exact ⟨_, c, e, k1, k2⟩
           subst hvl
           have k6 : w8.cell? ⟨p, 6, none⟩ = some (.slice av E.length cl) := hNe.pb.cell 6
           have HEL := Lib.hid hEl
           unfold maxLen at hcl2
           clear hNe hEh hEl HF7 HR7 HND7 HP7 HBT7
           by_cases h8 : 8 < E.length
           ·have h8' : (8 : Int) < (E.length : Int) := by omega
            have HM := Lib.hid (mk_loops HG6.out (by rw [← HEL.out]; exact h8))
            obtain ⟨e8, he8⟩ : ∃ e, E[8]? = some e := ⟨_, List.getElem?_eq_getElem h8⟩
            have hg8 : (heads l).getD 8 0 = e8.hd := by rw [← HEH.out, List.getD_eq_getElem?_getD, List.getElem?_map, he8]; rfl
            have hhn : e8.hd < nB l := by
             have hm : e8.hd ∈ heads l := by
              rw [← HEH.out]
              exact List.mem_map_of_mem (List.mem_of_getElem? he8)
             unfold heads at hm
             simpa using (List.mem_filter.1 hm).1
            have hhn' : (e8.hd : Int) < (nB l : Int) := by omega
            have hhn0 : (0 : Int) ≤ (e8.hd : Int) := by omega
            have hfrm := Lib.hid (frm_frF hhn)
            have HG8 := Lib.hid hg8
            have cf := HF8.out.from hhn
            have k0 : w8.cell? ⟨p, 0, none⟩ = some (.slice (some ⟨gb, fb, none⟩) (nB l) cb) := HNE.out.pb.cell 0
            have hsl := HNE.out.la.sl (HNE.out.la.ne HNE.out.pb (by decide))
            obtain ⟨gl, fl, rfl, _, hat⟩ := hsl.get (arL_get he8)
            have ch := hat.cell 0 _ rfl
            rw [show fl + 8 * tA.n + 0 = fl + 24 by show fl + 8 * 3 + 0 = _; omega] at ch
            clear hsl hat he8 hg8
            go_upto_region 28 with (fail)
            go_quiet (fail)
            go_wp2
            go_ret3
            exact MakeP.no HM.out (by decide) (bDraw HBT8.out _) _ _ (by rw [HG8.out, hfrm.out]) rfl
           ·have h8' : ¬ (8 : Int) < (E.length : Int) := by omega
            have HG7 := Lib.hid (show G7 l from ⟨HG6.out, by rw [← HEL.out]; omega⟩)
            go_wp2
            go_ret3
            have hN := HNE.out
            refine ⟨HBT8.out, Or.inr ⟨HG7.out, p, some ⟨gb, fb, none⟩, cb, gp, 0, gi, 0, cp, nB l, va, vo, vr, .slice av E.length cl, bs, ss, E, d, rfl, hwp, hN.pb, HF8.out, ?_, ?_, hN.la.sl (hN.la.ne hN.pb (by decide)), fun e he => (hN.el e he).1.sl ((hN.el e he).1.ne hN.pb (by decide)), HEH.out, HL4.out, HLI.out, HLR.out, hN.la.lo HL7.out, fun e he => (hN.el e he).1.lo HL7.out⟩⟩
            ·rw [← HDD.out]; exact HND8.out
            ·rw [← HDD.out]; exact HR8.out
          ·have HRO := Lib.hid (HG5.out.round (by rw [← HDD.out]; exact HID.out) (by rw [← HDD.out]; exact hno))
           clear hno
           go_upto_region 25 with (fail)
           have k0 : w7.cell? ⟨p, 0, none⟩ = some (.slice (some ⟨gb, fb, none⟩) (nB l) cb) := HP7.out.cell 0
           have cv : w7.drew.cell? ⟨p, 0, none⟩ = some (.slice (some ⟨gb, fb, none⟩) (nB l) cb) ∧ ∀ b, b < nB l → w7.drew.cell? ⟨gb, fb + b * 3, none⟩ = some (.int .i64 (frF l b : Int)) := ⟨k0, fun b hb => HF7.out.from hb⟩
           refine wp_region_last 11 (fun w' => w'.cell? ⟨p, 0, none⟩ = some (.slice (some ⟨gb, fb, none⟩) (nB l) cb) ∧ ∀ b, b < nB l → w'.cell? ⟨gb, fb + b * 3, none⟩ = some (.int .i64 (frF l b : Int))) mix ?_
           refine wpAnyL_take (i := 0) (v := .pointer (some ⟨p, 0, none⟩)) rfl (by kernel_rfl) (by kernel_rfl) (by kernel_rfl) (fun _ _ _ h => h) rfl (by kernel_rfl) (Or.inl ⟨by rfl, fun w' hw' => by (try go_split_ands); go_simp⟩) cv ?_
           simp only [Act.put, List.getElem_toArray, List.getElem_cons_zero, List.setIfInBounds_toArray, List.set_cons_zero, List.set_cons_succ]
           refine wpAnyL_take (i := 1) (v := .pointer (some ⟨p, 0, none⟩)) rfl (by kernel_rfl) (by kernel_rfl) (by kernel_rfl) (fun _ _ _ h => h) rfl (by kernel_rfl) (Or.inl ⟨by rfl, fun w' hw' => by (try go_split_ands); go_simp⟩) cv ?_
           simp only [Act.put, List.getElem_toArray, List.getElem_cons_zero, List.getElem_cons_succ, List.setIfInBounds_toArray, List.set_cons_zero, List.set_cons_succ]
           refine wpAnyL_take (i := 2) (v := .pointer (some ⟨p, 0, none⟩)) rfl (by kernel_rfl) (by kernel_rfl) (by kernel_rfl) (fun _ _ _ h => h) rfl (by kernel_rfl) (Or.inl ⟨by rfl, fun w' hw' => by (try go_split_ands); go_simp⟩) cv ?_
           simp only [Act.put, List.getElem_toArray, List.getElem_cons_zero, List.getElem_cons_succ, List.setIfInBounds_toArray, List.set_cons_zero, List.set_cons_succ]
           refine wpAnyL_take (i := 3) (v := .slice (some ⟨gb, fb, none⟩) (nB l) cb) rfl (by kernel_rfl) (by kernel_rfl) (by kernel_rfl) (fun _ _ _ h => h) rfl (by kernel_rfl) (Or.inl ⟨by rfl, fun w' hw' => by (try go_split_ands); go_simp⟩) cv ?_
           simp only [Act.put, List.getElem_toArray, List.getElem_cons_zero, List.getElem_cons_succ, List.setIfInBounds_toArray, List.set_cons_zero, List.set_cons_succ]
           refine wpAnyL_take (i := 4) (v := .pointer (some ⟨p, 0, none⟩)) rfl (by kernel_rfl) (by kernel_rfl) (by kernel_rfl) (fun _ _ _ h => h) rfl (by kernel_rfl) (Or.inl ⟨by rfl, fun w' hw' => by (try go_split_ands); go_simp⟩) cv ?_
           simp only [Act.put, List.getElem_toArray, List.getElem_cons_zero, List.getElem_cons_succ, List.setIfInBounds_toArray, List.set_cons_zero, List.set_cons_succ]
           refine wpAnyL_one (i := 5) (by kernel_rfl) rfl (fun K hK => ?_)
           go_simp
           go_wp2_with fail
           have hb8 : Below w7.heap.size w7 w7.drew := (bRefl w7).drew
           refine (turning_ok _ p (nB l) (nxt l) (plc D) d (ahd l) HGR.out HID.out gp 0 gi 0 cp (nB l) ((HND7.out.ex (Ex.of_below hb8)).pd HP7.out.drew) (.slice (some ⟨gb, fb, none⟩) (nB l) cb) bs ⟨HP7.out.drew.cell 0, HF7.out.lb, HF7.out.sb.below hb8, fun b k hk => (HF7.out.nb b k hk).2.2.below hb8⟩ HP7.out.lt HND7.out.n4.2 HND7.out.n5.2 (by omega) (fun u => by have := nxt_two l u; omega)).mono ?_
           rintro e w8 ⟨b8, ht⟩
           have HF8 := Lib.hid ((HF7.out.ex (Ex.of_below hb8)).ex (Ex.of_below b8))
           have HP8 := Lib.hid (HP7.out.drew.below b8 HP7.out.drew.lt)
           have HBT8 := Lib.hid (bThen (bThen HBT7.out hb8) b8)
           rcases ht with ⟨tb, htb, rfl, hnb, hfb⟩ | ⟨rfl, hall⟩
           ·have HM := Lib.hid (mk_turn HG5.out htb hnb hfb)
            have hfrm := Lib.hid (frm_frF htb)
            have htb' : (tb : Int) < (nB l : Int) := by omega
            have htb0 : (0 : Int) ≤ (tb : Int) := by omega
            have cf := HF8.out.from htb
            have cv8 : w8.cell? ⟨p, 0, none⟩ = some (.slice (some ⟨gb, fb, none⟩) (nB l) cb) ∧ ∀ b, b < nB l → w8.cell? ⟨gb, fb + b * 3, none⟩ = some (.int .i64 (frF l b : Int)) := ⟨HP8.out.cell 0, fun b hb => HF8.out.from hb⟩
            clear hnb hfb b8 hb8 cv k0
            go_wp2_with fail
            refine hK.out _ _ (fun _ => cv8) ?_
            clear hK K
            refine wpAnyL_take (i := 6) (v := .pointer (some ⟨gb, fb + tb * 3, none⟩)) rfl (by kernel_rfl) (by kernel_rfl) (by kernel_rfl) (fun _ _ _ h => h) rfl (by kernel_rfl) (Or.inl ⟨by rfl, fun w' hw' => by have hx0 := hw'.1; have hx1 := hw'.2 tb htb; clear hw'; go_simp⟩) cv8 ?_
            simp only [Act.put, List.getElem_toArray, List.getElem_cons_zero, List.getElem_cons_succ, List.setIfInBounds_toArray, List.set_cons_zero, List.set_cons_succ]
            refine wpAnyL_take (i := 7) (v := .pointer (some ⟨gb, fb + tb * 3, none⟩)) rfl (by kernel_rfl) (by kernel_rfl) (by kernel_rfl) (fun _ _ _ h => h) rfl (by kernel_rfl) (Or.inl ⟨by rfl, fun w' hw' => by have hx0 := hw'.1; have hx1 := hw'.2 tb htb; clear hw'; go_simp⟩) cv8 ?_
            simp only [Act.put, List.getElem_toArray, List.getElem_cons_zero, List.getElem_cons_succ, List.setIfInBounds_toArray, List.set_cons_zero, List.set_cons_succ]
            refine wpAnyL_take (i := 8) (v := .int .i64 (frF l tb : Int)) rfl (by kernel_rfl) (by kernel_rfl) (by kernel_rfl) (fun _ _ _ h => h) rfl (by kernel_rfl) (Or.inl ⟨by rfl, fun w' hw' => by have hx0 := hw'.1; have hx1 := hw'.2 tb htb; clear hw'; go_simp⟩) cv8 ?_
            simp only [Act.put, List.getElem_toArray, List.getElem_cons_zero, List.getElem_cons_succ, List.setIfInBounds_toArray, List.set_cons_zero, List.set_cons_succ]
            refine wpAnyL_one (i := 9) (by kernel_rfl) rfl (fun K hK => ?_)
            go_simp
            refine hK.out _ _ (fun _ => cv8) ?_
            clear hK K
            refine wpAnyL_one (i := 10) (by kernel_rfl) rfl (fun K hK => ?_)
            go_simp
            refine hK.out _ _ (fun _ => cv8) ?_
            clear hK K
            refine wpAnyL_one (i := 11) (by kernel_rfl) rfl (fun K hK => ?_)
            go_simp
            refine hK.out _ _ (fun h => absurd rfl h) ?_
            clear hK K
            refine wpAnyL_done (by kernel_rfl) ?_ _
            go_wp2
            go_ret3
            exact MakeP.no HM.out (by decide) HBT8.out _ _ (by rw [hfrm.out]) rfl
           ·exfalso
            obtain ⟨b, hb1, hb2⟩ := HRO.out
            exact hall b hb1 hb2
    ·have hno := fun h => hend (HEN.out.2 h)
     have hz1 : (x.op != 26) = true := by simp; exact fun e => hno (Or.inl e)
     have hz2 : (x.op != 39) = true := by simp; exact fun e => hno (Or.inr e)
     have HM := Lib.hid (mk_end HG2.out hend)
     clear hend hno
     go_wp2
     go_ret3
     exact MakeP.no HM.out (by decide) HB2.out _ _ rfl rfl
 ·have hce' : (c2 != 0) = true := by simp [hce]
  have HM := Lib.hid (mk_chk (l := l) (by rw [← HC2.out]; exact hce))
  have HNE := Lib.hid hce
  clear hce
  go_wp2
  go_ret3
  exact MakeP.no (at' := (chk 0 l).1) (c := (chk 0 l).2) HM.out (by rw [← HC2.out]; exact HNE.out) HB1.out _ _ (by rw [HC1.out]) HC2.out
end Go.Proofs.Ytndnfjcfpcfakaa
namespace Go.Proofs.Ytndnfjcfpcfakaa
open Go Go.RowKit Go.Wr Go.Fl
set_option maxHeartbeats 4000000
set_option maxRecDepth 100000
theorem slx_ints {p : Nat} {w : World} {b o n cap : Nat} {l : List Int} (h : SlX tI p w (.slice (some ⟨b, o, none⟩) n cap) l) : w.rangeAt b o (tI.cs l) := by
 intro j v hj
 have e : tI.cs l = l.map (fun x => Value.int .i64 x) := by
  clear hj h
  induction l with
  | nil => rfl
  | cons x l ih => show tI.f x ++ tI.cs l = _; rw [ih]; rfl
 rw [e, List.getElem?_map] at hj
 match hx : l[j]?, hj with
 | some x, hj =>
  obtain ⟨b', o', e1, _, _, c⟩ := SlX.int h hx
  injection e1 with e1
  injection e1 with e1 e2
  subst e1; subst e2
  injection hj with hj
  subst hj
  exact c
theorem copyInts_ok (w : World) (p : Nat) (v : Value) (l : List Int) (h : SlX tI p w v l) (hl : l.length ≤ 1099511627776) :
  Calls Try.prog 9 #[v] w fun e w' => Below w.heap.size w w' ∧ ∃ v', e = .returned v' ∧ OwR tI w.heap.size w' v' l := by
 obtain ⟨a0, cap, rfl, h1, h2⟩ := h.form
 unfold maxLen at h2
 by_cases hb : l = []
 ·subst hb
  cases a0 with
  | none =>
   clear h
   go_enter Try.func9, Try.ntmps9
   go_wp2
   go_ret
   exact ⟨bRefl w, .slice none 0 0, rfl, World.ownsRow_nil _ _ _ _⟩
  | some ad =>
   clear h
   go_enter Try.func9, Try.ntmps9
   go_wp2
   go_ret
   exact ⟨bRefl w, .slice none 0 0, rfl, World.ownsRow_nil _ _ _ _⟩
 ·have hpos : 0 < l.length := List.length_pos_iff.2 hb
  obtain ⟨b, o, rfl, _⟩ := h.get (List.getElem?_eq_getElem hpos)
  have HN := Lib.hid (slx_ints h)
  clear h
  go_enter Try.func9, Try.ntmps9
  go_wp2_with (at_builtin; refine wpl_push tI rfl _ _ rfl w.heap.size (.slice none 0 0) [] rfl (World.ownsRow_nil _ _ _ _) b o l.length cap l rfl rfl HN.out (by unfold maxLen; simp; omega) (by show _ * 8 ≤ _; simp; omega) (by omega) ?_; intro v' w9 hown hgrow hform)
  have hb9 := (bRefl w).grown hgrow (Nat.le_refl _) (fun k hk => by cases hk)
  obtain ⟨g, c', rfl, _⟩ := hform hb
  have HW := Lib.hid hown
  clear hown hgrow hform
  go_wp2
  go_ret
  exact ⟨hb9, _, rfl, HW.out⟩
theorem own_empty (w : World) : OwR tI w.heap.size (w.alloc (.cells #[] 3)) (.slice (some ⟨w.heap.size, 0, none⟩) 0 0) [] :=
 ⟨rfl, Or.inr ⟨w.heap.size, 0, #[], rfl, Nat.le_refl _, Array.getElem?_push_size, Nat.le_refl _, by unfold maxLen; omega, rfl, rfl⟩⟩
theorem cloneI_ok (w : World) (p : Nat) (v : Value) (l : List Int) (h : SlX tI p w v l) (hl : l.length ≤ 1099511627776) :
  Calls Try.prog 93 #[v] w fun e w' => Below w.heap.size w w' ∧ ∃ v', e = .returned v' ∧ OwR tI w.heap.size w' v' l := by
 obtain ⟨a0, cap, rfl, h1, h2⟩ := h.form
 unfold maxLen at h2
 by_cases hb : l = []
 ·subst hb
  cases a0 with
  | none =>
   clear h
   go_enter Try.func93, Try.ntmps93
   go_wp2
   rw [Go.Lib.run_eql_slice_nil _ _ _ _ _ _ _ _ Try.underlying22]
   go_wp2
   go_ret
   exact ⟨bRefl w, .slice none 0 0, rfl, World.ownsRow_nil _ _ _ _⟩
  | some ad =>
   clear h
   go_enter Try.func93, Try.ntmps93
   go_wp2
   rw [Go.Lib.run_eql_slice_nil _ _ _ _ _ _ _ _ Try.underlying22]
   go_wp2
   go_ret
   exact ⟨bAl (bRefl w) _, _, rfl, own_empty w⟩
 ·have hpos : 0 < l.length := List.length_pos_iff.2 hb
  obtain ⟨b, o, rfl, _, hat⟩ := h.get (List.getElem?_eq_getElem hpos)
  have hlt : b < w.heap.size := hat.1
  have HN := Lib.hid (fun j v hj => (World.cell?_of_block ((bAl (bRefl w) (.cells #[] 3)).block b hlt)).trans (slx_ints h j v hj) : (w.alloc (.cells #[] 3)).rangeAt b o (tI.cs l))
  have HE := Lib.hid (own_empty w)
  clear h hat
  go_enter Try.func93, Try.ntmps93
  go_wp2
  rw [Go.Lib.run_eql_slice_nil _ _ _ _ _ _ _ _ Try.underlying22]
  go_wp2_with (at_builtin; refine wpl_push tI rfl _ _ rfl w.heap.size _ [] rfl HE.out b o l.length cap l rfl rfl HN.out (by unfold maxLen; simp; omega) (by show _ * 8 ≤ _; simp; omega) (by simp) ?_; intro v' w9 hown hgrow hform)
  have hb9 := (bAl (bRefl w) (.cells #[] 3)).grown hgrow (by simp) (fun k hk => by injection hk with hk; simp at hk; omega)
  obtain ⟨g, c', rfl, _⟩ := hform hb
  have HW := Lib.hid hown
  clear hown hgrow hform
  go_wp2
  go_ret
  exact ⟨hb9, _, rfl, HW.out⟩
theorem order_ok (w : World) (q p : Nat) (v : Value) (l : List Int) (hc : w.cell? ⟨q, 3, none⟩ = some v) (h : SlX tI p w v l) (hl : l.length ≤ 1099511627776) :
  Calls Try.prog 59 #[.pointer (some ⟨q, 0, none⟩)] w fun e w' => Below w.heap.size w w' ∧ ∃ v', e = .returned v' ∧ OwR tI w.heap.size w' v' l := by
 obtain ⟨a0, cap, rfl, h1, h2⟩ := h.form
 have H := Lib.hid h
 clear h
 go_enter Try.func59, Try.ntmps59
 go_wp2_with (go_at_call 93; refine (cloneI_ok w p _ l H.out hl).mono ?_; rintro e w9 ⟨hb, v', rfl, ho⟩)
 have HO := Lib.hid ho
 clear ho
 go_wp2
 go_ret
 exact ⟨hb, v', rfl, HO.out⟩
end Go.Proofs.Ytndnfjcfpcfakaa
namespace Go.Proofs.Ytndnfjcfpcfakaa
open Go Go.RowKit Go.Wr Go.Fl
set_option maxHeartbeats 4000000
set_option maxRecDepth 100000
theorem slx_range {α : Type} (R : RT Try.prog α) {p : Nat} {w : World} {b o n cap : Nat} {l : List α} (h : SlX R p w (.slice (some ⟨b, o, none⟩) n cap) l) : w.rangeAt b o (R.cs l) := by
 intro j v hj
 have hn := R.npos
 have hjl : j < (R.cs l).length := by
  rcases Nat.lt_or_ge j (R.cs l).length with h1 | h1
  ·exact h1
  ·rw [List.getElem?_eq_none h1] at hj; cases hj
 rw [R.cs_len] at hjl
 have hk : j / R.n < l.length := Nat.div_lt_of_lt_mul (by rw [Nat.mul_comm]; exact hjl)
 have hr : j % R.n < R.n := Nat.mod_lt _ hn
 have hx : l[j / R.n]? = some l[j / R.n] := List.getElem?_eq_getElem hk
 have e : j / R.n * R.n + j % R.n = j := by rw [Nat.mul_comm]; exact Nat.div_add_mod j R.n
 obtain ⟨b', o', e1, _, c⟩ := h.get hx
 injection e1 with e1
 injection e1 with e1 e2
 subst e1; subst e2
 have g := R.cs_get l (j / R.n) (j % R.n) _ hx hr
 rw [e, hj] at g
 have := c.cell (j % R.n) v g.symm
 rw [Nat.add_assoc, e] at this
 exact this
theorem own_emptyR {α : Type} (R : RT Try.prog α) (w : World) : OwR R w.heap.size (w.alloc (.cells #[] R.T)) (.slice (some ⟨w.heap.size, 0, none⟩) 0 0) [] :=
 ⟨(Nat.zero_mul _).symm, Or.inr ⟨w.heap.size, 0, #[], rfl, Nat.le_refl _, Array.getElem?_push_size, Nat.le_refl _, by unfold maxLen; omega, (Nat.zero_mul _).symm, by simp [RT.cs]⟩⟩
theorem cloneB_ok (w : World) (p : Nat) (v : Value) (l : List Bk) (h : SlX tK p w v l) (hl : l.length ≤ 1099511627776) :
  Calls Try.prog 92 #[v] w fun e w' => Below w.heap.size w w' ∧ ∃ v', e = .returned v' ∧ OwR tK w.heap.size w' v' l := by
 obtain ⟨a0, cap, rfl, h1, h2⟩ := h.form
 unfold maxLen at h2
 by_cases hb : l = []
 ·subst hb
  cases a0 with
  | none =>
   clear h
   go_enter Try.func92, Try.ntmps92
   go_wp2
   rw [Go.Lib.run_eql_slice_nil _ _ _ _ _ _ _ _ Try.underlying65]
   go_wp2
   go_ret
   exact ⟨bRefl w, .slice none 0 0, rfl, World.ownsRow_nil _ _ _ _⟩
  | some ad =>
   clear h
   go_enter Try.func92, Try.ntmps92
   go_wp2
   rw [Go.Lib.run_eql_slice_nil _ _ _ _ _ _ _ _ Try.underlying65]
   go_wp2
   go_ret
   exact ⟨bAl (bRefl w) _, _, rfl, own_emptyR tK w⟩
 ·have hpos : 0 < l.length := List.length_pos_iff.2 hb
  obtain ⟨b, o, rfl, _, hat⟩ := h.get (List.getElem?_eq_getElem hpos)
  have hlt : b < w.heap.size := hat.1
  have HN := Lib.hid (fun j v hj => (World.cell?_of_block ((bAl (bRefl w) (.cells #[] 72)).block b hlt)).trans (slx_range tK h j v hj) : (w.alloc (.cells #[] 72)).rangeAt b o (tK.cs l))
  have HE := Lib.hid (own_emptyR tK w)
  clear h hat
  go_enter Try.func92, Try.ntmps92
  go_wp2
  rw [Go.Lib.run_eql_slice_nil _ _ _ _ _ _ _ _ Try.underlying65]
  go_wp2_with (at_builtin; refine wpl_push tK rfl _ _ rfl w.heap.size _ [] rfl HE.out b o l.length cap l rfl rfl HN.out (by unfold maxLen; simp; omega) (by show _ * 40 ≤ _; simp; omega) (by simp) ?_; intro v' w9 hown hgrow hform)
  have hb9 := (bAl (bRefl w) (.cells #[] 72)).grown hgrow (by simp) (fun k hk => by injection hk with hk; simp at hk; omega)
  obtain ⟨g, c', rfl, _⟩ := hform hb
  have HW := Lib.hid hown
  clear hown hgrow hform
  go_wp2
  go_ret
  exact ⟨hb9, _, rfl, HW.out⟩
theorem cloneA_ok (w : World) (p : Nat) (v : Value) (l : List Ar) (h : SlX tA p w v l) (hl : l.length ≤ 1099511627776) :
  Calls Try.prog 94 #[v] w fun e w' => Below w.heap.size w w' ∧ ∃ v', e = .returned v' ∧ OwR tA w.heap.size w' v' l := by
 obtain ⟨a0, cap, rfl, h1, h2⟩ := h.form
 unfold maxLen at h2
 by_cases hb : l = []
 ·subst hb
  cases a0 with
  | none =>
   clear h
   go_enter Try.func94, Try.ntmps94
   go_wp2
   rw [Go.Lib.run_eql_slice_nil _ _ _ _ _ _ _ _ Try.underlying66]
   go_wp2
   go_ret
   exact ⟨bRefl w, .slice none 0 0, rfl, World.ownsRow_nil _ _ _ _⟩
  | some ad =>
   clear h
   go_enter Try.func94, Try.ntmps94
   go_wp2
   rw [Go.Lib.run_eql_slice_nil _ _ _ _ _ _ _ _ Try.underlying66]
   go_wp2
   go_ret
   exact ⟨bAl (bRefl w) _, _, rfl, own_emptyR tA w⟩
 ·have hpos : 0 < l.length := List.length_pos_iff.2 hb
  obtain ⟨b, o, rfl, _, hat⟩ := h.get (List.getElem?_eq_getElem hpos)
  have hlt : b < w.heap.size := hat.1
  have HN := Lib.hid (fun j v hj => (World.cell?_of_block ((bAl (bRefl w) (.cells #[] 94)).block b hlt)).trans (slx_range tA h j v hj) : (w.alloc (.cells #[] 94)).rangeAt b o (tA.cs l))
  have HE := Lib.hid (own_emptyR tA w)
  clear h hat
  go_enter Try.func94, Try.ntmps94
  go_wp2
  rw [Go.Lib.run_eql_slice_nil _ _ _ _ _ _ _ _ Try.underlying66]
  go_wp2_with (at_builtin; refine wpl_push tA rfl _ _ rfl w.heap.size _ [] rfl HE.out b o l.length cap l rfl rfl HN.out (by unfold maxLen; simp; omega) (by show _ * 40 ≤ _; simp; omega) (by simp) ?_; intro v' w9 hown hgrow hform)
  have hb9 := (bAl (bRefl w) (.cells #[] 94)).grown hgrow (by simp) (fun k hk => by injection hk with hk; simp at hk; omega)
  obtain ⟨g, c', rfl, _⟩ := hform hb
  have HW := Lib.hid hown
  clear hown hgrow hform
  go_wp2
  go_ret
  exact ⟨hb9, _, rfl, HW.out⟩
end Go.Proofs.Ytndnfjcfpcfakaa
namespace Go.Proofs.Ytndnfjcfpcfakaa
open Go Go.RowKit Go.Wr Go.Fl
set_option maxHeartbeats 4000000
set_option maxRecDepth 100000
theorem back_ok (w : World) (q p : Nat) (vo : Value) (rows : List Sv) (hc : w.cell? ⟨q, 1, none⟩ = some vo) (h : SlX tBB p w vo rows) (u v : Nat) (s : Sv) (hs : rows[v]? = some s) (l : List Bool) (hl : SlX tB p w s.v l) (x : Bool) (hx : l[u]? = some x) :
  Calls Try.prog 89 #[.pointer (some ⟨q, 0, none⟩), .int .i64 u, .int .i64 v] w fun e w' => Below w.heap.size w w' ∧ e = .returned (.bool x) := by
 obtain ⟨a0, cap, rfl, h1, h2⟩ := h.form
 have hv : v < rows.length := by
  rcases Nat.lt_or_ge v rows.length with k | k
  ·exact k
  ·rw [List.getElem?_eq_none k] at hs; cases hs
 obtain ⟨b, o, rfl, _, hat⟩ := h.get hs
 have c0 := hat.cell 0 _ rfl
 have e0 : o + v * tBB.n + 0 = o + v := by show o + v * 1 + 0 = _; omega
 rw [e0] at c0
 obtain ⟨a1, cap1, e1, h3, h4⟩ := hl.form
 rw [e1] at c0 hl
 have hu : u < l.length := by
  rcases Nat.lt_or_ge u l.length with k | k
  ·exact k
  ·rw [List.getElem?_eq_none k] at hx; cases hx
 obtain ⟨b1, o1, rfl, _, _, c1⟩ := SlX.bool hl hx
 have hvi : (v : Int) < (rows.length : Int) := by omega
 have hui : (u : Int) < (l.length : Int) := by omega
 unfold maxLen at h2 h4
 clear h hl hat hs hx e0 e1
 go_enter Try.func89, Try.ntmps89
 go_wp2
 go_ret
 exact ⟨bRefl w, rfl⟩
end Go.Proofs.Ytndnfjcfpcfakaa
namespace Go.Proofs.Ytndnfjcfpcfakaa
open Go Go.RowKit Go.Wr Go.Fl
set_option maxHeartbeats 4000000
set_option maxRecDepth 100000
end Go.Proofs.Ytndnfjcfpcfakaa
namespace Go.Proofs.Ytndnfjcfpcfakaa
open Go Go.RowKit Go.Wr Go.Fl
set_option maxHeartbeats 4000000
set_option maxRecDepth 100000
def smallL : List In := [⟨15, false, false, 0, 1, 0, 0, 5⟩, ⟨2, false, false, 0, 1, 0, 0, 1⟩, ⟨28, false, false, 0, 1, 0, -2, 0⟩, ⟨15, false, false, 0, 0, 0, 0, 0⟩, ⟨39, false, false, 0, 0, 0, 0, 0⟩]
end Go.Proofs.Ytndnfjcfpcfakaa
namespace Go.Proofs.Ytndnfjcfpcfakaa
open Go Go.RowKit Go.Wr Go.Fl
set_option maxHeartbeats 4000000
set_option maxRecDepth 100000
end Go.Proofs.Ytndnfjcfpcfakaa
namespace Go.Proofs.Ytndnfjcfpcfakaa
open Go Go.RowKit Go.Wr Go.Fl
set_option maxHeartbeats 4000000
set_option maxRecDepth 100000
structure Bd (p : Nat) (w : World) (v : Value) (D : List (Int × Int × List Int)) : Prop where
 sl : ∃ bs : List Bk, SlX tK p w v bs ∧ bs.length = D.length ∧ ∀ (i : Nat) (k : Bk) (d : Int × Int × List Int), bs[i]? = some k → D[i]? = some d → k.fr = d.1 ∧ k.2 = d.2.1 ∧ SlX tI p w k.nx.v d.2.2
theorem Bd.below {p : Nat} {w w' : World} {v : Value} {D : List (Int × Int × List Int)} (h : Bd p w v D) (b : Below w.heap.size w w') : Bd p w' v D := by
 obtain ⟨bs, h1, h2, h3⟩ := h.sl
 exact ⟨bs, h1.below b, h2, fun i k d hk hd => ⟨(h3 i k d hk hd).1, (h3 i k d hk hd).2.1, (h3 i k d hk hd).2.2.below b⟩⟩
theorem Bd.form {p : Nat} {w : World} {v : Value} {D : List (Int × Int × List Int)} (h : Bd p w v D) : ∃ a0 cap, v = .slice a0 D.length cap ∧ D.length ≤ cap ∧ cap ≤ maxLen := by
 obtain ⟨bs, h1, h2, _⟩ := h.sl
 obtain ⟨a0, cap, e, h3, h4⟩ := h1.form
 rw [h2] at e h3
 exact ⟨a0, cap, e, h3, h4⟩
theorem Bd.get {p : Nat} {w : World} {a0 : Option Addr} {n cap : Nat} {D : List (Int × Int × List Int)} (h : Bd p w (.slice a0 n cap) D) {i : Nat} {d : Int × Int × List Int} (hd : D[i]? = some d) :
  ∃ b o a c, a0 = some ⟨b, o, none⟩ ∧ w.cell? ⟨b, o + i * 3, none⟩ = some (.int .i64 d.1) ∧ w.cell? ⟨b, o + i * 3 + 1, none⟩ = some (.int .i64 d.2.1) ∧ w.cell? ⟨b, o + i * 3 + 2, none⟩ = some (.slice a d.2.2.length c) ∧ SlX tI p w (.slice a d.2.2.length c) d.2.2 ∧ b < w.heap.size := by
 obtain ⟨bs, h1, h2, h3⟩ := h.sl
 have hi : i < bs.length := by rw [h2]; exact (List.getElem?_eq_some_iff.1 hd).1
 obtain ⟨k, hk⟩ : ∃ k, bs[i]? = some k := ⟨_, List.getElem?_eq_getElem hi⟩
 obtain ⟨b, o, e, _, hat⟩ := h1.get hk
 obtain ⟨c0, c1, c2⟩ := at_bk hat
 have e3 : tK.n = 3 := rfl
 rw [e3] at c0 c1 c2
 obtain ⟨q1, q2, q3⟩ := h3 i k d hk hd
 obtain ⟨a, c, en, _, _⟩ := q3.form
 rw [q1] at c0
 rw [q2] at c1
 rw [en] at c2 q3
 exact ⟨b, o, a, c, e, c0, c1, c2, q3, hat.1⟩
theorem at_ar {w : World} {b o : Nat} {k : Ar} (h : At w b o (tA.f k)) : w.cell? ⟨b, o, none⟩ = some (.int .i64 k.hd) ∧ w.cell? ⟨b, o + 1, none⟩ = some k.bl.v ∧ w.cell? ⟨b, o + 2, none⟩ = some (.int .i64 k.pa) :=
 ⟨h.cell 0 _ rfl, h.cell 1 _ rfl, h.cell 2 _ rfl⟩
structure Ld (p : Nat) (w : World) (v : Value) (D : List (Int × Int × List Int)) : Prop where
 sl : ∃ bs : List Ar, SlX tA p w v bs ∧ bs.length = D.length ∧ ∀ (i : Nat) (k : Ar) (d : Int × Int × List Int), bs[i]? = some k → D[i]? = some d → k.hd = d.1 ∧ k.pa = d.2.1 ∧ SlX tI p w k.bl.v d.2.2
theorem Ld.below {p : Nat} {w w' : World} {v : Value} {D : List (Int × Int × List Int)} (h : Ld p w v D) (b : Below w.heap.size w w') : Ld p w' v D := by
 obtain ⟨bs, h1, h2, h3⟩ := h.sl
 exact ⟨bs, h1.below b, h2, fun i k d hk hd => ⟨(h3 i k d hk hd).1, (h3 i k d hk hd).2.1, (h3 i k d hk hd).2.2.below b⟩⟩
theorem Ld.form {p : Nat} {w : World} {v : Value} {D : List (Int × Int × List Int)} (h : Ld p w v D) : ∃ a0 cap, v = .slice a0 D.length cap ∧ D.length ≤ cap ∧ cap ≤ maxLen := by
 obtain ⟨bs, h1, h2, _⟩ := h.sl
 obtain ⟨a0, cap, e, h3, h4⟩ := h1.form
 rw [h2] at e h3
 exact ⟨a0, cap, e, h3, h4⟩
theorem Ld.get {p : Nat} {w : World} {a0 : Option Addr} {n cap : Nat} {D : List (Int × Int × List Int)} (h : Ld p w (.slice a0 n cap) D) {i : Nat} {d : Int × Int × List Int} (hd : D[i]? = some d) :
  ∃ b o a c, a0 = some ⟨b, o, none⟩ ∧ w.cell? ⟨b, o + i * 3, none⟩ = some (.int .i64 d.1) ∧ w.cell? ⟨b, o + i * 3 + 2, none⟩ = some (.int .i64 d.2.1) ∧ w.cell? ⟨b, o + i * 3 + 1, none⟩ = some (.slice a d.2.2.length c) ∧ SlX tI p w (.slice a d.2.2.length c) d.2.2 ∧ b < w.heap.size := by
 obtain ⟨bs, h1, h2, h3⟩ := h.sl
 have hi : i < bs.length := by rw [h2]; exact (List.getElem?_eq_some_iff.1 hd).1
 obtain ⟨k, hk⟩ : ∃ k, bs[i]? = some k := ⟨_, List.getElem?_eq_getElem hi⟩
 obtain ⟨b, o, e, _, hat⟩ := h1.get hk
 obtain ⟨c0, c2, c1⟩ := at_ar hat
 have e3 : tA.n = 3 := rfl
 rw [e3] at c0 c1 c2
 obtain ⟨q1, q2, q3⟩ := h3 i k d hk hd
 obtain ⟨a, c, en, _, _⟩ := q3.form
 rw [q1] at c0
 rw [q2] at c1
 rw [en] at c2 q3
 exact ⟨b, o, a, c, e, c0, c1, c2, q3, hat.1⟩
end Go.Proofs.Ytndnfjcfpcfakaa
namespace Go.Proofs.Ytndnfjcfpcfakaa
open Go Go.RowKit Go.Wr Go.Fl
set_option maxHeartbeats 4000000
set_option maxRecDepth 100000
structure Bc (w : World) (p : Nat) (l : List In) (g c k : Nat) (row : Nat → Sv) (wr : World) : Prop where
 kb : OwR tK w.heap.size wr (.slice (some ⟨g, 0, none⟩) (nB l) c) (bkI (nB l) (frF l) (twF l) row)
 nw : ∀ i, i < k → OwR tI w.heap.size wr (row i).v (nI (nxt l i))
 od : ∀ i, k ≤ i → i < nB l → SlX tI p w (row i).v (nI (nxt l i))
 bl : Below w.heap.size w wr
theorem Bc.put {w wr w' : World} {p : Nat} {l : List In} {g c k : Nat} {row : Nat → Sv} (h : Bc w p l g c k row wr) (hk : k < nB l) (b : Below wr.heap.size wr w') {s : Sv} (hs : OwR tI w.heap.size w' s.v (nI (nxt l k))) : Bc w p l g c (k + 1) (setF row k s) (w'.setCell ⟨g, k * 3 + 2, none⟩ s.v) := by
 have hkb := h.kb.below b
 obtain ⟨hB, C, hg⟩ := hkb.blk (g := g) rfl
 have h1 := hkb.set (k := k) (j := 2) (x := ⟨frF l k, twF l k, row k⟩) (y := ⟨frF l k, twF l k, s⟩) (v := s.v) (by unfold bkI; rw [List.getElem?_map, List.getElem?_range hk]; rfl) (by decide) rfl
 rw [bkI_set hk] at h1
 refine ⟨h1, fun i hi => ?_, fun i hi hn => ?_, (bThen h.bl b).setCell hB _⟩
 ·by_cases e : i = k
  ·subst e
   rw [setF_self]
   exact hs.set_other (hs.ne hg (by decide))
  ·rw [setF_ne e]
   have := (h.nw i (by omega)).below b
   exact this.set_other (this.ne hg (by decide))
 ·rw [setF_ne (by omega)]
  exact h.od i (by omega) hn
theorem blocks_ok (w : World) (p : Nat) (l : List In) (vb va vo : Value) (bs : List Bk) (ss : List Sv) (h : Fw p l vb va vo bs ss w) (hc : w.cell? ⟨p, 0, none⟩ = some vb) (hn0 : 0 < nB l) (hn : nB l ≤ 4096) :
  Calls Try.prog 57 #[.pointer (some ⟨p, 0, none⟩)] w fun e w' => Below w.heap.size w w' ∧ ∃ v rs, e = .returned v ∧ OwR tK w.heap.size w' v rs ∧ rs.length = nB l ∧ ∀ (i : Nat) (k : Bk), rs[i]? = some k → k.fr = (frF l i : Int) ∧ k.2 = (twF l i : Int) ∧ OwR tI w.heap.size w' k.nx.v (nI (nxt l i)) := by
 obtain ⟨a0, cap, rfl, h1, h2⟩ := h.sb.form
 rw [h.lb] at hc h h1
 unfold maxLen at h2
 have H := Lib.hid h
 have hrow : bs = bkI (nB l) (frF l) (twF l) (fun i => ((bs[i]?).map (·.nx)).getD ⟨none, 0, 0⟩) := by
  apply List.ext_getElem?
  intro i
  unfold bkI
  by_cases hi : i < nB l
  ·obtain ⟨k, hk⟩ : ∃ k, bs[i]? = some k := ⟨_, List.getElem?_eq_getElem (by rw [h.lb]; exact hi)⟩
   obtain ⟨e1, e2, _⟩ := h.nb i k hk
   rw [List.getElem?_map, List.getElem?_range hi]
   simp only [Option.map_some]
   rw [← e1, ← e2, hk]
   rfl
  ·rw [List.getElem?_eq_none (by rw [h.lb]; omega), List.getElem?_eq_none (by simp; omega)]
 have HROW := Lib.hid hrow
 have HLB := Lib.hid h.lb
 clear h hrow
 go_enter Try.func57, Try.ntmps57
 go_wp2_with fail
 refine (cloneB_ok _ p _ bs H.out.sb (by rw [HLB.out]; omega)).mono ?_
 rintro e w1 ⟨b1, v1, rfl, ho⟩
 rcases ho.form with ⟨_, e⟩ | ⟨g, c, rfl, hc1, hc2, _⟩
 ·exfalso
  have := congrArg List.length e
  rw [HLB.out] at this
  simp only [List.length_nil] at this
  omega
 ·rw [HLB.out] at ho hc1 ⊢
  rw [HROW.out] at ho
  have HB := Lib.hid (show Bc w p l g c 0 (fun i => ((bs[i]?).map (·.nx)).getD ⟨none, 0, 0⟩) w1 from ⟨ho, fun i hi => by omega, fun i _ hi => by
   obtain ⟨k, hk⟩ : ∃ k, bs[i]? = some k := ⟨_, List.getElem?_eq_getElem (by rw [HLB.out]; exact hi)⟩
   rw [hk]
   exact (H.out.nb i k hk).2.2, b1⟩)
  unfold maxLen at hc2
  clear ho b1
  go_wp2
  go_loopw [12] (fun t wr => ∃ (k : Nat) (row : Nat → Sv), k ≤ nB l ∧ t = .int .i64 (k : Int) ∧ Hid (Bc w p l g c k row wr)) (fun t _ => nB l - (intOf t).toNat)
  case atStart => exact ⟨0, _, by omega, rfl, HB.out⟩
  case round =>
   clear HB
   obtain ⟨k, row, hk, rfl, hB⟩ := hrel
   by_cases hlk : k < nB l
   ·have hlk' : (k : Int) < (nB l : Int) := by omega
    have hk0 : (0 : Int) ≤ (k : Int) := by omega
    have hat := hB.out.kb.at (k := k) (x := ⟨frF l k, twF l k, row k⟩) (by unfold bkI; rw [List.getElem?_map, List.getElem?_range hlk]; rfl)
    have kn := hat.cell 2 _ rfl
    rw [show 0 + k * tK.n + 2 = k * 3 + 2 by show 0 + k * 3 + 2 = _; omega] at kn
    simp only [Sv.v] at kn
    have hod := hB.out.od k (Nat.le_refl _) hlk
    have hx2 := nxt_two l k
    clear hat
    go_wp2_with fail
    refine (cloneI_ok _ p _ _ (hod.below hB.out.bl) (by rw [nI_len]; omega)).mono ?_
    rintro e w2 ⟨b2, v2, rfl, ho2⟩
    obtain ⟨a2, n2, c2, rfl⟩ : ∃ a n c, v2 = .slice a n c := by
     rcases ho2.form with ⟨e, _⟩ | ⟨g, c, e, _⟩
     ·exact ⟨_, _, _, e⟩
     ·exact ⟨_, _, _, e⟩
    have HP := Lib.hid (hB.out.put hlk b2 (s := ⟨a2, n2, c2⟩) (ho2.mono hB.out.bl.size))
    have kf := (hB.out.kb.below b2).frozen (k * 3 + 2)
    have kn2 : w2.cell? ⟨g, k * 3 + 2, none⟩ = some (.slice (row k).a (row k).n (row k).c) := (b2.cell (p := ⟨g, k * 3 + 2, none⟩) (hB.out.kb.lt rfl)).trans kn
    clear kn b2 ho2 hod hB
    go_wp2
    go_roundw
    all_goals first
     | exact ⟨k + 1, _, by omega, by go_num, HP.out⟩
     | ((repeat apply Exists.intro); exact ⟨⟨k + 1, _, by omega, by go_num, HP.out⟩, rfl⟩)
     | (simp [intOf]; omega)
   ·obtain rfl : k = nB l := by omega
    clear hlk
    go_wp2
    go_ret
    have hB := hB.out
    refine ⟨hB.bl, _, _, rfl, hB.kb, by simp [bkI], fun i x hx => ?_⟩
    unfold bkI at hx
    by_cases hi : i < nB l
    ·rw [List.getElem?_map, List.getElem?_range hi] at hx
     simp only [Option.map_some, Option.some.injEq] at hx
     subst hx
     exact ⟨rfl, rfl, hB.nw i hi⟩
    ·rw [List.getElem?_eq_none (by simp; omega)] at hx
     cases hx
end Go.Proofs.Ytndnfjcfpcfakaa
namespace Go.Proofs.Ytndnfjcfpcfakaa
open Go Go.RowKit Go.Wr Go.Fl
set_option maxHeartbeats 4000000
set_option maxRecDepth 100000
def arI (n : Nat) (hd pa : Nat → Int) (row : Nat → Sv) : List Ar := (List.range n).map fun i => ⟨hd i, row i, pa i⟩
theorem arI_set {n : Nat} {hd pa : Nat → Int} {row : Nat → Sv} {k : Nat} (hk : k < n) (s : Sv) : (arI n hd pa row).set k ⟨hd k, s, pa k⟩ = arI n hd pa (setF row k s) := by
 apply List.ext_getElem?
 intro i
 rw [List.getElem?_set]
 unfold arI
 simp only [List.length_map, List.length_range, List.getElem?_map]
 by_cases h : k = i
 ·subst h
  rw [if_pos rfl, if_pos hk, List.getElem?_range hk]
  simp [setF_self]
 ·rw [if_neg h]
  by_cases hi : i < n
  ·rw [List.getElem?_range hi]
   simp only [Option.map_some]
   rw [setF_ne (fun e => h e.symm)]
  ·rw [List.getElem?_eq_none (by simp; omega)]
   rfl
structure Lc (w : World) (p n : Nat) (hd pa : Nat → Int) (D : Nat → List Int) (a : Option Addr) (c k : Nat) (row : Nat → Sv) (wr : World) : Prop where
 kb : OwR tA w.heap.size wr (.slice a n c) (arI n hd pa row)
 nw : ∀ i, i < k → OwR tI w.heap.size wr (row i).v (D i)
 od : ∀ i, k ≤ i → i < n → SlX tI p w (row i).v (D i)
 bl : Below w.heap.size w wr
theorem Lc.put {w wr w' : World} {p n : Nat} {hd pa : Nat → Int} {D : Nat → List Int} {g c k : Nat} {row : Nat → Sv} (h : Lc w p n hd pa D (some ⟨g, 0, none⟩) c k row wr) (hk : k < n) (b : Below wr.heap.size wr w') {s : Sv} (hs : OwR tI w.heap.size w' s.v (D k)) : Lc w p n hd pa D (some ⟨g, 0, none⟩) c (k + 1) (setF row k s) (w'.setCell ⟨g, k * 3 + 1, none⟩ s.v) := by
 have hkb := h.kb.below b
 obtain ⟨hB, C, hg⟩ := hkb.blk (g := g) rfl
 have h1 := hkb.set (k := k) (j := 1) (x := ⟨hd k, row k, pa k⟩) (y := ⟨hd k, s, pa k⟩) (v := s.v) (by unfold arI; rw [List.getElem?_map, List.getElem?_range hk]; rfl) (by decide) rfl
 rw [arI_set hk] at h1
 refine ⟨h1, fun i hi => ?_, fun i hi hn => ?_, (bThen h.bl b).setCell hB _⟩
 ·by_cases e : i = k
  ·subst e
   rw [setF_self]
   exact hs.set_other (hs.ne hg (by decide))
  ·rw [setF_ne e]
   have := (h.nw i (by omega)).below b
   exact this.set_other (this.ne hg (by decide))
 ·rw [setF_ne (by omega)]
  exact h.od i (by omega) hn
theorem loops_ok (w : World) (p n : Nat) (hd pa : Nat → Int) (D : Nat → List Int) (row : Nat → Sv) (vl : Value) (hc : w.cell? ⟨p, 6, none⟩ = some vl) (hl : SlX tA p w vl (arI n hd pa row)) (hr : ∀ i, i < n → SlX tI p w (row i).v (D i)) (hD : ∀ i, i < n → (D i).length ≤ 1048576) (hn : n ≤ 4096) :
  Calls Try.prog 58 #[.pointer (some ⟨p, 0, none⟩)] w fun e w' => Below w.heap.size w w' ∧ ∃ v row', e = .returned v ∧ OwR tA w.heap.size w' v (arI n hd pa row') ∧ ∀ (i : Nat), i < n → OwR tI w.heap.size w' (row' i).v (D i) := by
 obtain ⟨a0, cap, rfl, h1, h2⟩ := hl.form
 have hlen : (arI n hd pa row).length = n := by simp [arI]
 rw [hlen] at hc hl h1
 unfold maxLen at h2
 have HL := Lib.hid hl
 have HR := Lib.hid hr
 have HDD := Lib.hid hD
 clear hl hr hD
 go_enter Try.func58, Try.ntmps58
 go_wp2_with fail
 refine (cloneA_ok _ p _ _ HL.out (by rw [hlen]; omega)).mono ?_
 rintro e w1 ⟨b1, v1, rfl, ho⟩
 obtain ⟨a1, c1, rfl, hc2⟩ : ∃ a c, v1 = .slice a n c ∧ c ≤ maxLen := by
  rcases ho.form with ⟨e, e0⟩ | ⟨g, c, e, _, h3, _⟩
  ·rw [e0] at hlen
   simp only [List.length_nil] at hlen
   subst hlen
   exact ⟨_, _, e, by unfold maxLen; omega⟩
  ·rw [hlen] at e
   exact ⟨_, _, e, h3⟩
 unfold maxLen at hc2
 have HB := Lib.hid (show Lc w p n hd pa D a1 c1 0 row w1 from ⟨ho, fun i hi => by omega, fun i _ hi => HR.out i hi, b1⟩)
 clear ho b1 hlen
 go_wp2
 go_loopw [12] (fun t wr => ∃ (k : Nat) (row : Nat → Sv), k ≤ n ∧ t = .int .i64 (k : Int) ∧ Hid (Lc w p n hd pa D a1 c1 k row wr)) (fun t _ => n - (intOf t).toNat)
 case atStart => exact ⟨0, _, by omega, rfl, HB.out⟩
 case round =>
  clear HB
  obtain ⟨k, row, hk, rfl, hB⟩ := hrel
  by_cases hlk : k < n
  ·have hlk' : (k : Int) < (n : Int) := by omega
   have hk0 : (0 : Int) ≤ (k : Int) := by omega
   obtain ⟨g, rfl⟩ : ∃ g, a1 = some ⟨g, 0, none⟩ := by
    rcases hB.out.kb.form with ⟨e, _⟩ | ⟨g, c, e, _⟩
    ·injection e with e1 e2
     omega
    ·injection e with e1
     exact ⟨g, e1⟩
   have hat := hB.out.kb.at (k := k) (x := ⟨hd k, row k, pa k⟩) (by unfold arI; rw [List.getElem?_map, List.getElem?_range hlk]; rfl)
   have kn := hat.cell 1 _ rfl
   rw [show 0 + k * tA.n + 1 = k * 3 + 1 by show 0 + k * 3 + 1 = _; omega] at kn
   simp only [Sv.v] at kn
   have hod := hB.out.od k (Nat.le_refl _) hlk
   have hx2 := HDD.out k hlk
   clear hat
   go_wp2_with fail
   refine (cloneI_ok _ p _ _ (hod.below hB.out.bl) (by omega)).mono ?_
   rintro e w2 ⟨b2, v2, rfl, ho2⟩
   obtain ⟨a2, n2, c2, rfl⟩ : ∃ a n c, v2 = .slice a n c := by
    rcases ho2.form with ⟨e, _⟩ | ⟨g, c, e, _⟩
    ·exact ⟨_, _, _, e⟩
    ·exact ⟨_, _, _, e⟩
   have HP := Lib.hid (hB.out.put hlk b2 (s := ⟨a2, n2, c2⟩) (ho2.mono hB.out.bl.size))
   have kf := (hB.out.kb.below b2).frozen (k * 3 + 1)
   have kn2 : w2.cell? ⟨g, k * 3 + 1, none⟩ = some (.slice (row k).a (row k).n (row k).c) := (b2.cell (p := ⟨g, k * 3 + 1, none⟩) (hB.out.kb.lt rfl)).trans kn
   clear kn b2 ho2 hod hB
   go_wp2
   go_roundw
   all_goals first
    | exact ⟨k + 1, _, by omega, by go_num, HP.out⟩
    | ((repeat apply Exists.intro); exact ⟨⟨k + 1, _, by omega, by go_num, HP.out⟩, rfl⟩)
    | (simp [intOf]; omega)
  ·obtain rfl : k = n := by omega
   clear hlk
   go_wp2
   go_ret
   have hB := hB.out
   exact ⟨hB.bl, _, row, rfl, hB.kb, hB.nw⟩
end Go.Proofs.Ytndnfjcfpcfakaa
namespace Go.Proofs.Ytndnfjcfpcfakaa
open Go Go.RowKit Go.Wr Go.Fl
set_option maxRecDepth 100000
def sN : Nat → List Nat
 | 0 => [1]
 | 1 => [1, 2]
 | _ => []
theorem sm_bl : bl smallL = [(0, 1), (1, 3), (3, 5)] := by decide
theorem sm_n : nB smallL = 3 := by unfold nB; rw [sm_bl]; rfl
theorem sm_nxt : nxt smallL = sN := by
 funext b
 match b with
 | 0 => decide
 | 1 => decide
 | 2 => decide
 | b + 3 => unfold nxt; rw [sm_bl]; rfl
theorem sN_mem {u v : Nat} (h : v ∈ sN u) : (u = 0 ∧ v = 1) ∨ (u = 1 ∧ v = 1) ∨ (u = 1 ∧ v = 2) := by
 match u with
 | 0 => simp [sN] at h; omega
 | 1 => simp [sN] at h; omega
 | u + 2 => simp [sN] at h
theorem sN_dfs : DfsL sN [2, 1, 0] := by
 have h2 : Vs sN 1 2 0 (Fl.mark (Fl.mark (Fl.mark (fun _ => false) 0) 1) 2, []) (Fl.mark (Fl.mark (Fl.mark (fun _ => false) 0) 1) 2, [2]) := Vs.fin
 have h1 : Vs sN 1 1 2 (Fl.mark (Fl.mark (Fl.mark (fun _ => false) 0) 1) 2, [2]) (Fl.mark (Fl.mark (Fl.mark (fun _ => false) 0) 1) 2, [2, 1]) := Vs.fin
 have h1b := Vs.down (nx := sN) (b := 1) (k := 1) (c := 2) (s := (Fl.mark (Fl.mark (fun _ => false) 0) 1, [])) rfl rfl h2 h1
 have h1a := Vs.skip (nx := sN) (b := 1) (k := 0) (c := 1) rfl rfl h1b
 have h0 : Vs sN 1 0 1 (Fl.mark (Fl.mark (Fl.mark (fun _ => false) 0) 1) 2, [2, 1]) (Fl.mark (Fl.mark (Fl.mark (fun _ => false) 0) 1) 2, [2, 1, 0]) := Vs.fin
 exact ⟨_, _, Vs.down (nx := sN) (b := 0) (k := 0) (c := 1) (s := (Fl.mark (fun _ => false) 0, [])) rfl rfl h1a h0⟩
theorem sm_dfs : dfsL (nxt smallL) = [2, 1, 0] := by rw [sm_nxt]; exact sN_dfs.eq
theorem sN_rw : ∀ b, b < 3 → ∃ w, RW sN w b := by
 intro b hb
 have r1 : RW sN [1, 0] 1 := RW.step RW.root (by decide)
 match b with
 | 0 => exact ⟨_, RW.root⟩
 | 1 => exact ⟨_, r1⟩
 | 2 => exact ⟨_, RW.step r1 (by decide)⟩
theorem sN_21 : ¬ Dom sN 2 1 := fun h => by
 have := h [1, 0] (RW.step RW.root (by decide))
 simp at this
theorem sN_str : Str sN id 3 := fun u _ v hv hle => by
 rcases sN_mem hv with ⟨rfl, rfl⟩ | ⟨rfl, rfl⟩ | ⟨rfl, rfl⟩
 ·simp at hle
 ·exact Dom.refl _ _
 ·simp at hle
theorem sN_lt : ∀ u, u < 3 → ∀ v ∈ sN u, v < 3 := fun u _ v hv => by
 rcases sN_mem hv with ⟨rfl, rfl⟩ | ⟨rfl, rfl⟩ | ⟨rfl, rfl⟩ <;> omega
theorem sN_hd (h : Nat) : Hd sN 3 h ↔ h = 1 := by
 constructor
 ·rintro ⟨u, hu, hm, hd⟩
  rcases sN_mem hm with ⟨rfl, rfl⟩ | ⟨rfl, rfl⟩ | ⟨rfl, rfl⟩
  ·rfl
  ·rfl
  ·exact absurd hd sN_21
 ·rintro rfl
  exact ⟨1, by omega, by decide, Dom.refl _ _⟩
theorem sN_lp (x : Nat) : Lp sN 3 1 x ↔ x = 1 := by
 constructor
 ·intro h
  induction h with
  | head => rfl
  | latch hu hm hd =>
   rcases sN_mem hm with ⟨rfl, _⟩ | ⟨rfl, _⟩ | ⟨rfl, e⟩
   ·have := hd [0] RW.root
    simp at this
   ·rfl
   ·rfl
  | back _ hne _ _ ih => exact absurd ih hne
 ·rintro rfl
  exact Lp.head
theorem sm_heads : heads smallL = [1] := by
 have h : ∀ b, headB smallL b = decide (b = 1) := fun b => by
  have h0 : headB smallL b = true ↔ b = 1 := by rw [headB_iff, sm_nxt, sm_n, sN_hd]
  by_cases e : b = 1
  ·rw [h0.2 e]; simp [e]
  ·cases hh : headB smallL b with
   | true => exact absurd (h0.1 hh) e
   | false => simp [e]
 unfold heads
 rw [sm_n, show headB smallL = fun b => decide (b = 1) from funext h]
 decide
theorem sm_g7 : G7 smallL := by
 refine ⟨⟨⟨⟨⟨⟨⟨by decide, by decide⟩, by decide⟩, ⟨⟨39, false, false, 0, 0, 0, 0, 0⟩, rfl, by decide⟩⟩, by rw [sm_n]; decide⟩, ?_⟩, ?_⟩, by rw [sm_heads]; decide⟩
 ·rw [sm_n, sm_nxt]; exact sN_rw
 ·rw [sm_n, sm_nxt]; exact fun b hb => no_round sN_str sN_lt hb
theorem sm_fine : mkE smallL = (0, 0) := mk_fine sm_g7
end Go.Proofs.Ytndnfjcfpcfakaa
namespace Go.Proofs.Ytndnfjcfpcfakaa
open Go Go.RowKit Go.Wr Go.Fl
set_option maxHeartbeats 4000000
set_option maxRecDepth 100000
theorem ne_low {α : Type} {R : RT Try.prog α} {w : World} {B p : Nat} {v : Value} {l : List α} (h : OwR R B w v l) (hp : p < B) : v.ownBlock ≠ some p := fun e => by have := (h.blk e).1; omega
theorem bDrewN {n : Nat} {w w' : World} (h : Below n w w') (k : Nat) : Below n w (w'.drewN k) := ⟨h.os, h.tape, h.output, h.size, h.block⟩
end Go.Proofs.Ytndnfjcfpcfakaa
