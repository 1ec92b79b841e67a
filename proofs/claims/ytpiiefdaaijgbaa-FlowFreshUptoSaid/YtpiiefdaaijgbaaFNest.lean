/- The program's nest: the loops, each with its parent. -/
import Derived.Test.YtpiiefdaaijgbaaFLoop
namespace Go.Proofs.Ytpiiefdaaijgbaa
open Go Go.RowKit Go.Wr Go.Fl
set_option maxHeartbeats 4000000
set_option maxRecDepth 100000

/-- A loop while they are nested: its head, where its blocks lie, its set. -/
structure Lq where
  hd : Nat
  bl : Sv
  q : Nat
  g : Nat
def arL (E : List Lq) (pa : Nat → Int) : List Ar := E.mapIdx fun i e => ⟨(e.hd : Int), e.bl, pa i⟩
theorem arL_len (E : List Lq) (pa : Nat → Int) : (arL E pa).length = E.length := by simp [arL]
theorem arL_snoc (E : List Lq) (e : Lq) (pa : Nat → Int) : arL (E ++ [e]) pa = arL E pa ++ [⟨(e.hd : Int), e.bl, pa E.length⟩] := by
  unfold arL
  rw [List.mapIdx_concat]
theorem arL_get {E : List Lq} {pa : Nat → Int} {i : Nat} {e : Lq} (h : E[i]? = some e) : (arL E pa)[i]? = some ⟨(e.hd : Int), e.bl, pa i⟩ := by
  unfold arL
  rw [List.getElem?_mapIdx, h]
  rfl
theorem arL_set {E : List Lq} {pa pa' : Nat → Int} {i : Nat} {e : Lq} (h : E[i]? = some e) (hp : ∀ x, x ≠ i → pa' x = pa x) : (arL E pa).set i ⟨(e.hd : Int), e.bl, pa' i⟩ = arL E pa' := by
  have hi : i < E.length := (List.getElem?_eq_some_iff.1 h).1
  apply List.ext_getElem?
  intro k
  rw [List.getElem?_set, arL_len]
  by_cases e1 : i = k
  · subst e1
    rw [if_pos rfl, if_pos hi, arL_get h]
  · rw [if_neg e1]
    unfold arL
    rw [List.getElem?_mapIdx, List.getElem?_mapIdx, hp k (Ne.symm e1)]
theorem arL_congr {E : List Lq} {pa pa' : Nat → Int} (h : ∀ x, x < E.length → pa' x = pa x) : arL E pa = arL E pa' := by
  apply List.ext_getElem?
  intro k
  unfold arL
  rw [List.getElem?_mapIdx, List.getElem?_mapIdx]
  by_cases hk : k < E.length
  · rw [h k hk]
  · rw [List.getElem?_eq_none (by omega)]
    rfl
/-- What is known of one of them. -/
def El (B n : Nat) (l : List In) (e : Lq) (w : World) : Prop := OwR tI B w e.bl.v (nI (ins (lpB l e.hd) n)) ∧ St B e.q e.g n (lpB l e.hd) w
theorem El.keep {B n : Nat} {l : List In} {e : Lq} {w w' : World} (h : El B n l e w) (hk : ∀ k T C, (T = 3 ∨ T = 4 ∨ T = 163) → Blk w k T C → w'.heap[k]? = w.heap[k]?) : El B n l e w' := by
  obtain ⟨h1, h2⟩ := h
  obtain ⟨_, C, hg⟩ := h2.gb.blk (g := e.g) rfl
  exact ⟨h1.keep fun g hg => by obtain ⟨_, C, hb⟩ := h1.blk hg; exact hk g _ C (Or.inl rfl) hb, h2.keep (hk _ _ _ (Or.inr (Or.inr rfl)) h2.pb) (hk _ _ _ (Or.inr (Or.inl rfl)) hg)⟩
theorem El.below {B n : Nat} {l : List In} {e : Lq} {w w' : World} (h : El B n l e w) (b : Below w.heap.size w w') : El B n l e w' := h.keep fun _ _ _ _ hb => b.block _ hb.lt
theorem El.len {B n : Nat} {l : List In} {e : Lq} {w : World} (h : El B n l e w) : e.bl.n = ((List.range n).filter (lpB l e.hd)).length := by
  rcases h.1.form with ⟨e1, e2⟩ | ⟨g, c, e1, _⟩
  · have h2 := congrArg List.length e2
    rw [nI_len] at h2
    unfold Sv.v at e1
    injection e1 with _ e1 _
    rw [e1]
    exact h2.symm
  · unfold Sv.v at e1
    injection e1 with _ e1 _
    rw [e1, nI_len]
    rfl
/-- While the loops are found and nested. -/
structure Ne (w : World) (p n : Nat) (l : List In) (vb va vo vr vp vi : Value) (Ea Es : List Lq) (pa : Nat → Int) (vl vs : Value) (wr : World) : Prop where
  ex : Ex p w wr
  pb : Blk wr p 93 #[vb, va, vo, vr, vp, vi, vl]
  la : OwR tA w.heap.size wr vl (arL Ea pa)
  ls : OwR tP w.heap.size wr vs (Es.map (·.q))
  el : ∀ e ∈ Ea, El w.heap.size n l e wr
section
variable {w wr w' : World} {p n : Nat} {l : List In} {vb va vo vr vp vi vl vs v' : Value} {Ea Es : List Lq} {pa pa' : Nat → Int}
theorem Ne.below (h : Ne w p n l vb va vo vr vp vi Ea Es pa vl vs wr) (b : Below wr.heap.size wr w') : Ne w p n l vb va vo vr vp vi Ea Es pa vl vs w' :=
  ⟨h.ex.trans (Ex.of_below b), h.pb.below b h.pb.lt, h.la.below b, h.ls.below b, fun e he => (h.el e he).below b⟩
theorem Ne.putA (h : Ne w p n l vb va vo vr vp vi Ea Es pa vl vs wr) {e : Lq} (he : El w.heap.size n l e wr) (ho : OwR tA w.heap.size w' v' (arL (Ea ++ [e]) pa)) (hg : wr.grownBy w' vl.ownBlock) : Ne w p n l vb va vo vr vp vi (Ea ++ [e]) Es pa v' vs (w'.setCell ⟨p, 6, none⟩ v') := by
  have hpb : Blk w' p 93 #[vb, va, vo, vr, vp, vi, vl] := h.pb.of_block (hg.block p h.pb.lt (fun e => h.la.ne h.pb (by decide) e.symm))
  have hel : ∀ x ∈ Ea ++ [e], El w.heap.size n l x w' := fun x hx => by
    have h0 : El w.heap.size n l x wr := by
      rcases List.mem_append.1 hx with hx | hx
      · exact h.el x hx
      · simp at hx; subst hx; exact he
    exact h0.keep fun k T C hT hb => hg.block k hb.lt (fun e => h.la.ne hb (by rcases hT with rfl | rfl | rfl <;> decide) e.symm)
  have hls : OwR tP w.heap.size w' vs (Es.map (·.q)) := h.ls.keep fun g e => by
    obtain ⟨_, C, hb⟩ := h.ls.blk e
    exact hg.block g hb.lt (fun e => h.la.ne hb (by decide) e.symm)
  exact ⟨(h.ex.grown hg fun g e => (h.la.blk e).1).set 6 v', (hpb.set 6 v').eq rfl, ho.set_other (ho.ne hpb (by decide)), hls.set_other (hls.ne hpb (by decide)),
    fun x hx => (hel x hx).keep fun k T C hT hb => Below.heap_setCell w' ⟨p, 6, none⟩ v' k (blk_ne hb hpb (by rcases hT with rfl | rfl | rfl <;> decide))⟩
theorem Ne.putS (h : Ne w p n l vb va vo vr vp vi Ea Es pa vl vs wr) {e : Lq} (ho : OwR tP w.heap.size w' v' ((Es ++ [e]).map (·.q))) (hg : wr.grownBy w' vs.ownBlock) : Ne w p n l vb va vo vr vp vi Ea (Es ++ [e]) pa vl v' w' := by
  have hpb : Blk w' p 93 #[vb, va, vo, vr, vp, vi, vl] := h.pb.of_block (hg.block p h.pb.lt (fun e => h.ls.ne h.pb (by decide) e.symm))
  have hla : OwR tA w.heap.size w' vl (arL Ea pa) := h.la.keep fun g e => by
    obtain ⟨_, C, hb⟩ := h.la.blk e
    exact hg.block g hb.lt (fun e => h.ls.ne hb (by decide) e.symm)
  exact ⟨h.ex.grown hg fun g e => (h.ls.blk e).1, hpb, hla, ho, fun x hx => (h.el x hx).keep fun k T C hT hb => hg.block k hb.lt (fun e => h.ls.ne hb (by rcases hT with rfl | rfl | rfl <;> decide) e.symm)⟩
theorem Ne.par {g m c : Nat} (h : Ne w p n l vb va vo vr vp vi Ea Es pa (.slice (some ⟨g, 0, none⟩) m c) vs wr) {i : Nat} {e : Lq} (hi : Ea[i]? = some e) (hp : ∀ x, x ≠ i → pa' x = pa x) (z : Int) (hz : z = pa' i) :
    Ne w p n l vb va vo vr vp vi Ea Es pa' (.slice (some ⟨g, 0, none⟩) m c) vs (wr.setCell ⟨g, i * 3 + 2, none⟩ (.int .i64 z)) := by
  subst hz
  obtain ⟨hB, C, hg⟩ := h.la.blk (g := g) rfl
  have hs := h.la.set (k := i) (j := 2) (x := ⟨(e.hd : Int), e.bl, pa i⟩) (y := ⟨(e.hd : Int), e.bl, pa' i⟩) (v := .int .i64 (pa' i)) (arL_get hi) (by decide) rfl
  rw [arL_set hi hp] at hs
  exact ⟨h.ex.set_new _ _ hB, h.pb.set_other g _ _ (blk_ne h.pb hg (by decide)), hs, h.ls.set_other (h.ls.ne hg (by decide)), fun x hx => (h.el x hx).keep fun k T C hT hb => Below.heap_setCell wr ⟨g, _, none⟩ _ k (blk_ne hb hg (by rcases hT with rfl | rfl | rfl <;> decide))⟩
end
/-- The parents that are known: of the loops below i, and of i among the first k. -/
noncomputable def paF (l : List In) (H i k : Nat) : Nat → Int := fun x => if x < i then parK l x H else if x = i then parK l x k else -1
theorem paF_next (l : List In) (H i : Nat) : paF l H i H = paF l H (i + 1) 0 := by
  funext x
  unfold paF
  by_cases h1 : x < i
  · rw [if_pos h1, if_pos (by omega)]
  · rw [if_neg h1]
    by_cases h2 : x = i
    · rw [if_pos h2, if_pos (by omega)]
    · rw [if_neg h2, if_neg (by omega)]
      split <;> rfl
theorem paF_ne (l : List In) (H i k k' x : Nat) (h : x ≠ i) : paF l H i k' x = paF l H i k x := by
  unfold paF
  rw [if_neg (c := x = i) h, if_neg (c := x = i) h]
theorem paF_self (l : List In) (H i k : Nat) : paF l H i k i = parK l i k := by
  unfold paF
  rw [if_neg (Nat.lt_irrefl _), if_pos rfl]
theorem paF_zero (l : List In) (H : Nat) : paF l H 0 0 = fun _ => -1 := by
  funext x
  unfold paF
  rw [if_neg (by omega)]
  split <;> rfl
theorem paF_same {l : List In} {H i k : Nat} (h : parK l i (k + 1) = parK l i k) : paF l H i (k + 1) = paF l H i k := by
  funext x
  by_cases e : x = i
  · subst e; rw [paF_self, paF_self, h]
  · exact paF_ne l H i k (k + 1) x e
theorem has_nat (w : World) (B p g n : Nat) (V : Nat → Bool) (h : St B p g n V w) (i : Nat) (hi : i < n) (x : Bool) (hx : V i = x) :
    Calls Try.prog 97 #[.pointer (some ⟨p, 0, none⟩), .int .i64 (i : Int)] w fun e w' => e = .returned (.bool x) ∧ w' = w := by
  subst hx
  have := has_ok w B p g n V h (i : Int) (by omega) (by omega)
  rw [Int.toNat_natCast] at this
  exact this
theorem parK_skip {l : List In} {i k : Nat} (h : k = i ∨ lpB l ((heads l).getD k 0) ((heads l).getD i 0) = false) : parK l i (k + 1) = parK l i k := by
  show (if k = i ∨ lpB l ((heads l).getD k 0) ((heads l).getD i 0) = false then parK l i k else _) = _
  rw [if_pos h]
theorem parK_in {l : List In} {i k : Nat} (h1 : k ≠ i) (h2 : lpB l ((heads l).getD k 0) ((heads l).getD i 0) = true) : parK l i (k + 1) =
    if parK l i k < 0 ∨ ((List.range (nB l)).filter (lpB l ((heads l).getD k 0))).length < ((List.range (nB l)).filter (lpB l ((heads l).getD (parK l i k).toNat 0))).length then (k : Int) else parK l i k := by
  show (if k = i ∨ lpB l ((heads l).getD k 0) ((heads l).getD i 0) = false then parK l i k else _) = _
  rw [if_neg (by rw [h2]; simp [h1])]
/-- What nest reads. -/
structure Nd (p n : Nat) (l : List In) (pl : Nat → Nat) (d : Nat → Option Nat) (ab : Option Addr) (cb : Nat) (va : Value) (ss : List Sv) (b4 o4 b5 o5 c4 c5 : Nat) (w : World) : Prop where
  gr : Gr (nxt l) pl n (ahd l)
  id : Idom (nxt l) pl n d
  sa : SlX tII p w va ss
  ls : ss.length = n
  na : ∀ b s, ss[b]? = some s → SlX tI p w s.v (nI (ahd l b))
  p4 : ∀ b, b < n → w.cell? ⟨b4, o4 + b, none⟩ = some (.int .i64 (pl b : Int))
  p5 : ∀ b, b < n → w.cell? ⟨b5, o5 + b, none⟩ = some (.int .i64 (oi (d b)))
  n4 : b4 ≠ p ∧ b4 < w.heap.size
  n5 : b5 ≠ p ∧ b5 < w.heap.size
theorem Nd.ex {p n : Nat} {l : List In} {pl : Nat → Nat} {d : Nat → Option Nat} {ab : Option Addr} {cb : Nat} {va : Value} {ss : List Sv} {b4 o4 b5 o5 c4 c5 : Nat} {w w' : World} (h : Nd p n l pl d ab cb va ss b4 o4 b5 o5 c4 c5 w) (e : Ex p w w') : Nd p n l pl d ab cb va ss b4 o4 b5 o5 c4 c5 w' :=
  ⟨h.gr, h.id, h.sa.ex e, h.ls, fun b s hs => (h.na b s hs).ex e, fun b hb => (World.cell?_of_block (e.block b4 h.n4.2 h.n4.1)).trans (h.p4 b hb), fun b hb => (World.cell?_of_block (e.block b5 h.n5.2 h.n5.1)).trans (h.p5 b hb), ⟨h.n4.1, Nat.lt_of_lt_of_le h.n4.2 e.size⟩, ⟨h.n5.1, Nat.lt_of_lt_of_le h.n5.2 e.size⟩⟩
theorem Nd.pd {p n : Nat} {l : List In} {pl : Nat → Nat} {d : Nat → Option Nat} {ab : Option Addr} {cb : Nat} {va : Value} {ss : List Sv} {b4 o4 b5 o5 c4 c5 : Nat} {w : World} (h : Nd p n l pl d ab cb va ss b4 o4 b5 o5 c4 c5 w) {c0 c1 c2 c3 c6 : Value} (hb : Blk w p 93 #[c0, c1, c2, c3, .slice (some ⟨b4, o4, none⟩) n c4, .slice (some ⟨b5, o5, none⟩) n c5, c6]) :
    Pd p n pl d ⟨b4, o4, none⟩ ⟨b5, o5, none⟩ c4 c5 w := ⟨hb.cell 4, hb.cell 5, rfl, rfl, h.p4, h.p5⟩
/-- The heads below h. -/
noncomputable def hdK (l : List In) (h : Nat) : List Nat := (List.range h).filter (headB l)
theorem hdK_succ (l : List In) (h : Nat) : hdK l (h + 1) = if headB l h then hdK l h ++ [h] else hdK l h := by
  unfold hdK
  rw [List.range_succ, List.filter_append]
  cases e : headB l h <;> simp [e]
theorem hdK_len (l : List In) (h : Nat) : (hdK l h).length ≤ h := by
  have := List.length_filter_le (headB l) (List.range h)
  simpa [hdK] using this
theorem nest_ok (w : World) (p : Nat) (l : List In) (pl : Nat → Nat) (d : Nat → Option Nat) (ab : Option Addr) (cb : Nat) (va vo vr : Value) (ss : List Sv) (b4 o4 b5 o5 c4 c5 : Nat) (h : Nd p (nB l) l pl d ab cb va ss b4 o4 b5 o5 c4 c5 w) (hn : nB l ≤ 4096) (hx2 : ∀ u, (ahd l u).length ≤ 1048576)
    (hb : Blk w p 93 #[.slice ab (nB l) cb, va, vo, vr, .slice (some ⟨b4, o4, none⟩) (nB l) c4, .slice (some ⟨b5, o5, none⟩) (nB l) c5, sn]) :
    Calls Try.prog 70 #[.pointer (some ⟨p, 0, none⟩)] w fun e w' => e = .returned (.tuple #[]) ∧ ∃ E vl vs, Ne w p (nB l) l (.slice ab (nB l) cb) va vo vr (.slice (some ⟨b4, o4, none⟩) (nB l) c4) (.slice (some ⟨b5, o5, none⟩) (nB l) c5) E E (fun i => parK l i (heads l).length) vl vs w' ∧ E.map (·.hd) = heads l := by
  have hpl := hb.lt
  have HB := Lib.hid hb
  have HD := Lib.hid h
  have HX := Lib.hid hx2
  have kp : w.cell? ⟨p, 0, none⟩ = some (.slice ab (nB l) cb) := hb.cell 0
  have HN0 := Lib.hid (show Ne w p (nB l) l (.slice ab (nB l) cb) va vo vr (.slice (some ⟨b4, o4, none⟩) (nB l) c4) (.slice (some ⟨b5, o5, none⟩) (nB l) c5) [] [] (fun _ => -1) sn sn w from ⟨Ex.refl p w, hb, OwR.nil _ _, OwR.nil _ _, fun e he => by cases he⟩)
  clear h hb hx2
  go_enter Try.func70, Try.ntmps70
  go_wp2
  go_loopw [2, 14] (fun t2 t wr => ∃ (h : Nat) (E : List Lq) (vl vs : Value), h ≤ nB l ∧ t = .int .i64 (h : Int) ∧ t2 = vs ∧ Hid (Ne w p (nB l) l (.slice ab (nB l) cb) va vo vr (.slice (some ⟨b4, o4, none⟩) (nB l) c4) (.slice (some ⟨b5, o5, none⟩) (nB l) c5) E E (fun _ => -1) vl vs wr) ∧ Hid (E.map (·.hd) = hdK l h)) (fun _ t _ => nB l - (intOf t).toNat)
  case atStart => exact ⟨0, [], sn, sn, by omega, rfl, rfl, HN0.out, rfl⟩
  case round =>
    clear HN0 kp
    obtain ⟨h, E, vl, vs, hh, rfl, e2, hN, hE⟩ := hrel
    obtain ⟨t2, ht2⟩ : ∃ x, x = vs := ⟨_, rfl⟩
    subst e2
    subst ht2
    have hEl : E.length ≤ h := by
      have e := congrArg List.length hE.out
      have := hdK_len l h
      simp at e
      omega
    by_cases hlt : h < nB l
    · have hlt' : (h : Int) < (nB l : Int) := by omega
      go_wp2_with fail
      have hNd := HD.out.ex hN.out.ex
      refine (loop_ok _ p (nB l) (nxt l) pl d (ahd l) HD.out.gr HD.out.id b4 o4 b5 o5 c4 c5 (hNd.pd hN.out.pb) ab cb (hN.out.pb.cell 0) va ss (hN.out.pb.cell 1) hNd.sa hNd.ls hNd.na hN.out.pb.lt hNd.n4.2 hNd.n5.2 hn HX.out h hlt).mono ?_
      rintro e w2 ⟨b2, pS, gS, V, is, rfl, his, hst, hV⟩
      have hVl : V = lpB l h := by
        funext x
        rw [Bool.eq_iff_iff, hV x, lpB_iff]
      subst hVl
      have hsz := hN.out.ex.size
      have HN2 := Lib.hid (hN.out.below b2)
      have HST := Lib.hid (show St w.heap.size pS gS (nB l) (lpB l h) w2 from ⟨hst.pb, hst.gb.mono hsz, Nat.le_trans hsz hst.hp⟩)
      have hHd : is = headB l h := by rw [Bool.eq_iff_iff, his, headB_iff]
      have HHD := Lib.hid (hdK_succ l h)
      clear hV his hst b2 hNd hN
      cases is with
      | false =>
        have HE9 : Hid (E.map (·.hd) = hdK l (h + 1)) := by
          show _ = _
          rw [HHD.out, ← hHd, if_neg (by simp)]
          exact hE.out
        clear hHd
        go_wp2
        go_roundw
        all_goals first
          | exact ⟨h + 1, E, vl, _, by omega, by go_num, rfl, HN2.out, HE9.out⟩
          | ((repeat apply Exists.intro); exact ⟨⟨h + 1, E, vl, _, by omega, by go_num, rfl, HN2.out, HE9.out⟩, rfl⟩)
          | (simp [intOf]; omega)
      | true =>
        have HE1 : Hid (hdK l (h + 1) = hdK l h ++ [h]) := by
          show _ = _
          rw [HHD.out, ← hHd, if_pos rfl]
        clear hHd HHD
        go_upto_region 6 with (fail)
        have k6 : w2.cell? ⟨p, 6, none⟩ = some vl := HN2.out.pb.cell 6
        have cv : w2.drew.cell? ⟨p, 6, none⟩ = some vl := k6
        refine wp_region_last 13 (fun w' => w'.cell? ⟨p, 6, none⟩ = some vl) mix ?_
        refine wpAnyL_take (i := 0) (v := .pointer (some ⟨p, 0, none⟩)) rfl (by kernel_rfl) (by kernel_rfl) (by kernel_rfl) (fun _ _ _ h => h) rfl (by kernel_rfl) (Or.inl ⟨by rfl, fun w' hw' => by (try go_split_ands); go_simp⟩) cv ?_
        simp only [Act.put, List.getElem_toArray, List.getElem_cons_zero, List.setIfInBounds_toArray, List.set_cons_zero, List.set_cons_succ]
        refine wpAnyL_take (i := 1) (v := .pointer (some ⟨p, 0, none⟩)) rfl (by kernel_rfl) (by kernel_rfl) (by kernel_rfl) (fun _ _ _ h => h) rfl (by kernel_rfl) (Or.inl ⟨by rfl, fun w' hw' => by (try go_split_ands); go_simp⟩) cv ?_
        simp only [Act.put, List.getElem_toArray, List.getElem_cons_zero, List.getElem_cons_succ, List.setIfInBounds_toArray, List.set_cons_zero, List.set_cons_succ]
        refine wpAnyL_take (i := 2) (v := .pointer (some ⟨p, 0, none⟩)) rfl (by kernel_rfl) (by kernel_rfl) (by kernel_rfl) (fun _ _ _ h => h) rfl (by kernel_rfl) (Or.inl ⟨by rfl, fun w' hw' => by (try go_split_ands); go_simp⟩) cv ?_
        simp only [Act.put, List.getElem_toArray, List.getElem_cons_zero, List.getElem_cons_succ, List.setIfInBounds_toArray, List.set_cons_zero, List.set_cons_succ]
        refine wpAnyL_take (i := 3) (v := .pointer (some ⟨p, 6, none⟩)) rfl (by kernel_rfl) (by kernel_rfl) (by kernel_rfl) (fun _ _ _ h => h) rfl (by kernel_rfl) (Or.inl ⟨by rfl, fun w' hw' => by (try go_split_ands); go_simp⟩) cv ?_
        simp only [Act.put, List.getElem_toArray, List.getElem_cons_zero, List.getElem_cons_succ, List.setIfInBounds_toArray, List.set_cons_zero, List.set_cons_succ]
        refine wpAnyL_take (i := 4) (v := vl) rfl (by kernel_rfl) (by kernel_rfl) (by kernel_rfl) (fun _ _ _ h => h) rfl (by kernel_rfl) (Or.inl ⟨by rfl, fun w' hw' => by (try go_split_ands); go_simp⟩) cv ?_
        simp only [Act.put, List.getElem_toArray, List.getElem_cons_zero, List.getElem_cons_succ, List.setIfInBounds_toArray, List.set_cons_zero, List.set_cons_succ]
        refine wpAnyL_take (i := 5) (v := .int .i64 (h : Int)) rfl (by kernel_rfl) (by kernel_rfl) (by kernel_rfl) (fun _ _ _ h => h) rfl (by kernel_rfl) (Or.inl ⟨by rfl, fun w' hw' => by (try go_split_ands); go_simp⟩) cv ?_
        simp only [Act.put, List.getElem_toArray, List.getElem_cons_zero, List.getElem_cons_succ, List.setIfInBounds_toArray, List.set_cons_zero, List.set_cons_succ]
        refine wpAnyL_take (i := 6) (v := .pointer (some ⟨pS, 0, none⟩)) rfl (by kernel_rfl) (by kernel_rfl) (by kernel_rfl) (fun _ _ _ h => h) rfl (by kernel_rfl) (Or.inl ⟨by rfl, fun w' hw' => by (try go_split_ands); go_simp⟩) cv ?_
        simp only [Act.put, List.getElem_toArray, List.getElem_cons_zero, List.getElem_cons_succ, List.setIfInBounds_toArray, List.set_cons_zero, List.set_cons_succ]
        refine wpAnyL_one (i := 7) (by kernel_rfl) rfl (fun K hK => ?_)
        go_simp
        go_wp2_with fail
        refine (list_ok _ w.heap.size pS gS (nB l) (lpB l h) (HST.out.drew) (by omega)).mono ?_
        rintro e w3 ⟨b3, v3, rfl, ho3⟩
        obtain ⟨as3, ns3, cs3, rfl⟩ : ∃ a n c, v3 = .slice a n c := by
          rcases ho3.form with ⟨e, _⟩ | ⟨g, c, e, _⟩
          · exact ⟨_, _, _, e⟩
          · exact ⟨_, _, _, e⟩
        have HN3 := Lib.hid ((HN2.out.below (bRefl w2).drew).below b3)
        have HEL3 := Lib.hid (show El w.heap.size (nB l) l ⟨h, ⟨as3, ns3, cs3⟩, pS, gS⟩ w3 from ⟨ho3.mono (Nat.le_trans HN2.out.ex.size (Nat.le_refl _)), HST.out.drew.below b3⟩)
        clear ho3 b3 HN2 HST cv k6
        go_wp2_with fail
        have cv3 : w3.cell? ⟨p, 6, none⟩ = some vl := HN3.out.pb.cell 6
        refine hK.out _ _ (fun _ => cv3) ?_
        clear hK K
        refine wpAnyL_one (i := 8) (by kernel_rfl) rfl (fun K hK => ?_)
        go_simp
        refine hK.out _ _ (fun _ => cv3) ?_
        clear hK K
        refine wpAnyL_one (i := 9) (by kernel_rfl) rfl (fun K hK => ?_)
        go_simp
        have HN6 := Lib.hid (HN3.out.below (bAl (bRefl w3) (.cells #[.int .i64 (h : Int), .slice as3 ns3 cs3, .int .i64 (-1)] 52)))
        have HEL6 := Lib.hid (HEL3.out.below (bAl (bRefl w3) (.cells #[.int .i64 (h : Int), .slice as3 ns3 cs3, .int .i64 (-1)] 52)))
        have HB6 := Lib.hid (Blk.new w3 52 #[.int .i64 (h : Int), .slice as3 ns3 cs3, .int .i64 (-1)])
        have hz6 := HB6.out.lt
        have hs6 := HN6.out.ex.size
        generalize (w3.alloc (.cells #[.int .i64 (h : Int), .slice as3 ns3 cs3, .int .i64 (-1)] 52)) = W6 at HN6 HEL6 HB6 hz6 hs6 ⊢
        refine hK.out _ _ (fun _ => HN6.out.pb.cell 6) ?_
        clear hK K
        refine wpAnyL_one (i := 10) (by kernel_rfl) rfl (fun K hK => ?_)
        refine step_push tA rfl (.tmp 28) (.tmp 33) rfl w.heap.size vl (arL E fun _ => -1) (by rfl) HN6.out.la w3.heap.size 0 1 1 [⟨(h : Int), ⟨as3, ns3, cs3⟩, -1⟩] (by rfl) rfl (rangeBlk HB6.out (by rfl)) (by rw [arL_len]; unfold maxLen; simp; omega) (by rw [arL_len]; show _ * 40 ≤ _; simp; omega) hs6 ?_
        intro v' w9 hown hgrow hform
        obtain ⟨g', c', rfl, _⟩ := hform (by simp)
        have hO9 : OwR tA w.heap.size w9 (.slice (some ⟨g', 0, none⟩) ((arL E fun _ => -1).length + 1) c') (arL (E ++ [⟨h, ⟨as3, ns3, cs3⟩, pS, gS⟩]) fun _ => -1) := by rw [arL_snoc]; exact hown
        have hp9 := HN6.out.pb.of_block (hgrow.block p HN6.out.pb.lt (fun e => HN6.out.la.ne HN6.out.pb (by decide) e.symm))
        have cv9 : w9.cell? ⟨p, 6, none⟩ = some vl := hp9.cell 6
        have f9 := hp9.frozen 6
        simp only [Act.put, List.setIfInBounds_toArray]
        refine hK.out _ _ (fun _ => cv9) ?_
        clear hK K
        refine wpAnyL_one (i := 11) (by kernel_rfl) rfl (fun K hK => ?_)
        go_simp
        refine hK.out _ _ (fun _ => cv9) ?_
        clear hK K
        refine wpAnyL_one (i := 12) (by kernel_rfl) rfl (fun K hK => ?_)
        go_simp
        refine hK.out _ _ (fun _ => cv9) ?_
        clear hK K
        refine wpAnyL_one (i := 13) (by kernel_rfl) rfl (fun K hK => ?_)
        go_simp
        refine hK.out _ _ (fun h => absurd rfl h) ?_
        clear hK K
        refine wpAnyL_done (by kernel_rfl) ?_ _
        have HN9 := Lib.hid (HN6.out.putA HEL6.out hO9 hgrow)
        generalize w9.setCell ⟨p, 6, none⟩ (.slice (some ⟨g', 0, none⟩) ((arL E fun _ => -1).length + 1) c') = W9 at HN9 ⊢
        clear hown hgrow hform hO9 hp9 cv9 f9 HN6 HEL6 HB6 hz6 hs6 HN3 HEL3 cv3
        have hs9 := HN9.out.ex.size
        go_wp2_with (at_builtin; refine wpl_push tP rfl _ _ rfl w.heap.size t2 (E.map (·.q)) (by rfl) (HN9.out.ls.alloc _) _ 0 1 1 [pS] (by rfl) rfl (rangeNew (by rfl) (by rfl)) (by rw [List.length_map]; unfold maxLen; simp; omega) (by rw [List.length_map]; show _ * 8 ≤ _; simp; omega) (by simp; omega) ?_; intro v2 w10 hown2 hgrow2 _)
        have hN10 := (HN9.out.below (bAl (bRefl W9) (.cells #[.pointer (some ⟨pS, 0, none⟩)] 131))).putS (e := ⟨h, ⟨as3, ns3, cs3⟩, pS, gS⟩) (by rw [List.map_append]; exact hown2) hgrow2
        have hE10 : (E ++ [(⟨h, ⟨as3, ns3, cs3⟩, pS, gS⟩ : Lq)]).map (·.hd) = hdK l (h + 1) := by rw [List.map_append, hE.out, HE1.out]; rfl
        exact ⟨⟨h + 1, _, _, _, by omega, by go_num, rfl, hN10, hE10⟩, by simp [intOf]; omega⟩
    · obtain rfl : h = nB l := by omega
      have hEh : E.map (·.hd) = heads l := hE.out
      have HEH := Lib.hid hEh
      have HEHL := Lib.hid (show (heads l).length = E.length by rw [← hEh]; simp)
      have HGD : Hid (∀ i e, E[i]? = some e → (heads l).getD i 0 = e.hd) := fun i e he => by
        rw [← hEh, List.getD_eq_getElem?_getD, List.getElem?_map, he]
        rfl
      obtain ⟨av, cl, hvl, hcl1, hcl2⟩ : ∃ a c, vl = .slice a E.length c ∧ E.length ≤ c ∧ c ≤ maxLen := by
        rcases hN.out.la.form with ⟨e1, e2⟩ | ⟨g, c, e, k1, k2, _⟩
        · have := congrArg List.length e2
          rw [arL_len] at this
          simp at this
          subst this
          exact ⟨none, 0, e1, by simp, by unfold maxLen; omega⟩
        · rw [arL_len] at e k1
          exact ⟨_, c, e, k1, k2⟩
      obtain ⟨as2, cs2, hvs, hcs1, hcs2⟩ : ∃ a c, t2 = .slice a E.length c ∧ E.length ≤ c ∧ c ≤ maxLen := by
        rcases hN.out.ls.form with ⟨e1, e2⟩ | ⟨g, c, e, k1, k2, _⟩
        · have := congrArg List.length e2
          simp at this
          subst this
          exact ⟨none, 0, e1, by simp, by unfold maxLen; omega⟩
        · rw [List.length_map] at e k1
          exact ⟨_, c, e, k1, k2⟩
      subst hvl hvs
      have hN2 := hN.out
      rw [← paF_zero l E.length] at hN2
      have HN := Lib.hid hN2
      have k6 : wr.cell? ⟨p, 6, none⟩ = some (.slice av E.length cl) := hN2.pb.cell 6
      unfold maxLen at hcl2 hcs2
      clear hN2 hN hE hEh hlt hh
      obtain ⟨WW, rfl⟩ : ∃ x : World, x = wr := ⟨_, rfl⟩
      go_wp2
      go_loopw [47] (fun t wr => ∃ i : Nat, i ≤ E.length ∧ t = .int .i64 (i : Int) ∧ Hid (Ne w p (nB l) l (.slice ab (nB l) cb) va vo vr (.slice (some ⟨b4, o4, none⟩) (nB l) c4) (.slice (some ⟨b5, o5, none⟩) (nB l) c5) E E (paF l E.length i 0) (.slice av E.length cl) (.slice as2 E.length cs2) wr)) (fun t _ => E.length - (intOf t).toNat)
      case atStart => exact ⟨0, by omega, rfl, HN.out⟩
      case round =>
        clear HN k6
        obtain ⟨i, hi, rfl, hN⟩ := hrel
        have k6 : wr.cell? ⟨p, 6, none⟩ = some (.slice av E.length cl) := hN.out.pb.cell 6
        by_cases hli : i < E.length
        · have hli' : (i : Int) < (E.length : Int) := by omega
          have hi0 : (0 : Int) ≤ (i : Int) := by omega
          obtain ⟨ei, hei⟩ : ∃ e, E[i]? = some e := ⟨_, List.getElem?_eq_getElem hli⟩
          have HEI := Lib.hid hei
          obtain ⟨gl, eav⟩ : ∃ g, av = some ⟨g, 0, none⟩ := by
            rcases hN.out.la.form with ⟨_, e⟩ | ⟨g, c, e, _⟩
            · have := congrArg List.length e
              rw [arL_len] at this
              simp only [List.length_nil] at this
              omega
            · injection e with e _ _
              exact ⟨g, e⟩
          subst eav
          have hein : ei.hd < nB l := by
            have hm : ei.hd ∈ heads l := by
              rw [← HEH.out]
              exact List.mem_map_of_mem (List.mem_of_getElem? hei)
            unfold heads at hm
            simpa using (List.mem_filter.1 hm).1
          have HGI := Lib.hid (HGD.out i ei hei)
          clear hei
          obtain ⟨wo, rfl⟩ : ∃ x : World, x = wr := ⟨_, rfl⟩
          go_wp2
          go_loopw [55] (fun t wr => ∃ k : Nat, k ≤ E.length ∧ t = .int .i64 (k : Int) ∧ Hid (Ne w p (nB l) l (.slice ab (nB l) cb) va vo vr (.slice (some ⟨b4, o4, none⟩) (nB l) c4) (.slice (some ⟨b5, o5, none⟩) (nB l) c5) E E (paF l E.length i k) (.slice (some ⟨gl, 0, none⟩) E.length cl) (.slice as2 E.length cs2) wr)) (fun t _ => E.length - (intOf t).toNat)
          case atStart => exact ⟨0, by omega, rfl, hN.out⟩
          case round =>
            clear hN k6
            obtain ⟨k, hk, rfl, hN⟩ := hrel
            by_cases hlk : k < E.length
            · have hlk' : (k : Int) < (E.length : Int) := by omega
              have hk0 : (0 : Int) ≤ (k : Int) := by omega
              by_cases hki : k = i
              · have hki' : ((k : Int) == (i : Int)) = true := by simp [hki]
                have hN9 := hN.out
                rw [← paF_same (parK_skip (Or.inl hki))] at hN9
                have HN9 := Lib.hid (hN9)
                clear hN9 hN hki
                go_upto_region 15 with (fail)
                go_quiet (fail)
                have HN10 := Lib.hid (HN9.out.below (bDraw (bRefl wr) nq))
                generalize wr.drewN nq = W5 at HN10 ⊢
                clear HN9
                go_wp2
                go_roundw
                all_goals first
                  | exact ⟨k + 1, by omega, by go_num, HN10.out⟩
                  | ((repeat apply Exists.intro); exact ⟨⟨k + 1, by omega, by go_num, HN10.out⟩, rfl⟩)
                  | (simp [intOf]; omega)
              · have hki' : ((k : Int) == (i : Int)) = false := by simp; omega
                obtain ⟨ek, hek⟩ : ∃ e, E[k]? = some e := ⟨_, List.getElem?_eq_getElem hlk⟩
                have hSk := Lib.hid (hN.out.el ek (List.mem_of_getElem? hek)).2
                have hsl := hN.out.ls.sl (hN.out.ls.ne hN.out.pb (by decide))
                obtain ⟨bs2, os2, rfl, _, hat⟩ := hsl.get (k := k) (x := ek.q) (by rw [List.getElem?_map, hek]; rfl)
                have c2 := hat.cell 0 _ rfl
                rw [show os2 + k * tP.n + 0 = os2 + k by show os2 + k * 1 + 0 = _; omega] at c2
                have hati := hN.out.la.at (arL_get (pa := paF l E.length i k) HEI.out)
                have ch := hati.cell 0 _ rfl
                have cpa := hati.cell 2 _ rfl
                rw [show 0 + i * tA.n + 0 = i * 3 by show 0 + i * 3 + 0 = _; omega] at ch
                rw [show 0 + i * tA.n + 2 = i * 3 + 2 by show 0 + i * 3 + 2 = _; omega, paF_self] at cpa
                have k6 : wr.cell? ⟨p, 6, none⟩ = some (.slice (some ⟨gl, 0, none⟩) E.length cl) := hN.out.pb.cell 6
                have HEK := Lib.hid hek
                have HGK := Lib.hid (HGD.out k ek hek)
                clear hek hsl hat hati
                cases hlp : lpB l ek.hd ei.hd with
                | false =>
                  have hN9 := hN.out
                  rw [← paF_same (parK_skip (Or.inr (by rw [HGK.out, HGI.out]; exact hlp)))] at hN9
                  have HN9 := Lib.hid hN9
                  clear hN9 hN hki cpa
                  have HLP := Lib.hid hlp
                  clear hlp
                  go_upto_region 15 with (fail)
                  go_quiet ((go_at_call 97; exact Calls.quiet_of_same (has_nat _ w.heap.size ek.q ek.g (nB l) (lpB l ek.hd) (hSk.out.drewN _) ei.hd hein false HLP.out)))
                  have HN10 := Lib.hid (HN9.out.below (bDraw (bRefl wr) nq))
                  generalize wr.drewN nq = W5 at HN10 ⊢
                  clear HN9 hSk c2 ch k6
                  go_wp2
                  go_roundw
                  all_goals first
                    | exact ⟨k + 1, by omega, by go_num, HN10.out⟩
                    | ((repeat apply Exists.intro); exact ⟨⟨k + 1, by omega, by go_num, HN10.out⟩, rfl⟩)
                    | (simp [intOf]; omega)
                | true =>
                  have HPI := Lib.hid (parK_in hki (l := l) (by rw [HGK.out, HGI.out]; exact hlp))
                  have hplt := parK_lt l i k
                  obtain ⟨P, hP⟩ : ∃ P, P = parK l i k := ⟨_, rfl⟩
                  rw [← hP] at hplt cpa HPI
                  have HP := Lib.hid hP
                  have HLP := Lib.hid hlp
                  clear hlp hki hP
                  go_upto_region 15 with (fail)
                  go_quiet ((go_at_call 97; exact Calls.quiet_of_same (has_nat _ w.heap.size ek.q ek.g (nB l) (lpB l ek.hd) (hSk.out.drewN _) ei.hd hein true HLP.out)))
                  have HN10 := Lib.hid (hN.out.below (bDraw (bRefl wr) nq))
                  have cpa2 : (wr.drewN nq).cell? ⟨gl, i * 3 + 2, none⟩ = some (.int .i64 P) := cpa
                  generalize wr.drewN nq = W5 at HN10 cpa2 ⊢
                  clear hN hSk c2 ch k6 cpa
                  have k6 : W5.cell? ⟨p, 6, none⟩ = some (.slice (some ⟨gl, 0, none⟩) E.length cl) := HN10.out.pb.cell 6
                  have kf := HN10.out.la.frozen (i * 3 + 2)
                  by_cases hP0 : P < 0
                  · have HK : Hid (parK l i (k + 1) = (k : Int)) := by show _ = _; rw [HPI.out, if_pos (Or.inl hP0)]
                    have HS := Lib.hid (HN10.out.par (pa' := paF l E.length i (k + 1)) HEI.out (fun x hx => paF_ne l E.length i k (k + 1) x hx) (k : Int) (by rw [paF_self, HK.out]))
                    go_upto_region 17 with (fail)
                    go_quiet (fail)
                    have HN11 := Lib.hid (HN10.out.below (bDraw (bRefl W5) nq))
                    have HS2 := Lib.hid ((HN10.out.below (bDraw (bRefl W5) nq)).par (pa' := paF l E.length i (k + 1)) HEI.out (fun x hx => paF_ne l E.length i k (k + 1) x hx) (k : Int) (by rw [paF_self, HK.out]))
                    have cpa3 : (W5.drewN nq).cell? ⟨gl, i * 3 + 2, none⟩ = some (.int .i64 P) := cpa2
                    generalize W5.drewN nq = W6 at HN11 HS2 cpa3 ⊢
                    clear HN10 HS k6 kf cpa2
                    have k6 : W6.cell? ⟨p, 6, none⟩ = some (.slice (some ⟨gl, 0, none⟩) E.length cl) := HN11.out.pb.cell 6
                    have kf := HN11.out.la.frozen (i * 3 + 2)
                    clear HN11
                    go_wp2
                    go_roundw
                    all_goals first
                      | exact ⟨k + 1, by omega, by go_num, HS2.out⟩
                      | ((repeat apply Exists.intro); exact ⟨⟨k + 1, by omega, by go_num, HS2.out⟩, rfl⟩)
                      | (simp [intOf]; omega)
                  · obtain ⟨m, rfl⟩ := Int.eq_ofNat_of_zero_le (show 0 ≤ P by omega)
                    have hmk : m < k := by omega
                    have hml : (m : Int) < (E.length : Int) := by omega
                    have hm0 : (0 : Int) ≤ (m : Int) := by omega
                    obtain ⟨em, hem⟩ : ∃ e, E[m]? = some e := ⟨_, List.getElem?_eq_getElem (by omega)⟩
                    have HGM := Lib.hid (HGD.out m em hem)
                    have hlk2 := (HN10.out.el ek (List.mem_of_getElem? HEK.out)).len
                    have hlm2 := (HN10.out.el em (List.mem_of_getElem? hem)).len
                    have ck := (HN10.out.la.at (arL_get (pa := paF l E.length i k) HEK.out)).cell 1 _ rfl
                    have cm := (HN10.out.la.at (arL_get (pa := paF l E.length i k) hem)).cell 1 _ rfl
                    rw [show 0 + k * tA.n + 1 = k * 3 + 1 by show 0 + k * 3 + 1 = _; omega] at ck
                    rw [show 0 + m * tA.n + 1 = m * 3 + 1 by show 0 + m * 3 + 1 = _; omega] at cm
                    simp only [Sv.v] at ck cm
                    have HPJ : Hid (parK l i (k + 1) = if ek.bl.n < em.bl.n then (k : Int) else (m : Int)) := by
                      show _ = _
                      rw [HPI.out, Int.toNat_natCast, HGK.out, HGM.out, ← hlk2, ← hlm2]
                      by_cases h : ek.bl.n < em.bl.n
                      · rw [if_pos (Or.inr h), if_pos h]
                      · rw [if_neg (by omega), if_neg h]
                    obtain ⟨nk, hnk⟩ : ∃ x, x = ek.bl.n := ⟨_, rfl⟩
                    obtain ⟨nm, hnm⟩ : ∃ x, x = em.bl.n := ⟨_, rfl⟩
                    rw [← hnk] at ck HPJ
                    rw [← hnm] at cm HPJ
                    clear hlk2 hlm2 hnk hnm hem HPI
                    by_cases hnn : nk < nm
                    · have hnn' : decide (nk < nm) = true := decide_eq_true hnn
                      have HK : Hid (parK l i (k + 1) = (k : Int)) := by show _ = _; rw [HPJ.out, if_pos hnn]
                      go_upto_region 17 with (fail)
                      go_quiet (fail)
                      have HN11 := Lib.hid (HN10.out.below (bDraw (bRefl W5) nq))
                      have HS2 := Lib.hid ((HN10.out.below (bDraw (bRefl W5) nq)).par (pa' := paF l E.length i (k + 1)) HEI.out (fun x hx => paF_ne l E.length i k (k + 1) x hx) (k : Int) (by rw [paF_self, HK.out]))
                      have cpa3 : (W5.drewN nq).cell? ⟨gl, i * 3 + 2, none⟩ = some (.int .i64 (m : Int)) := cpa2
                      generalize W5.drewN nq = W6 at HN11 HS2 cpa3 ⊢
                      clear HN10 k6 kf cpa2 ck cm
                      have k6 : W6.cell? ⟨p, 6, none⟩ = some (.slice (some ⟨gl, 0, none⟩) E.length cl) := HN11.out.pb.cell 6
                      have kf := HN11.out.la.frozen (i * 3 + 2)
                      clear HN11
                      go_wp2
                      go_roundw
                      all_goals first
                        | exact ⟨k + 1, by omega, by go_num, HS2.out⟩
                        | ((repeat apply Exists.intro); exact ⟨⟨k + 1, by omega, by go_num, HS2.out⟩, rfl⟩)
                        | (simp [intOf]; omega)
                    · have hnn' : decide (nk < nm) = false := decide_eq_false hnn
                      have hK : parK l i (k + 1) = parK l i k := by rw [HPJ.out, if_neg hnn]; exact HP.out
                      have HPS := Lib.hid (paF_same (H := E.length) hK)
                      clear hK
                      go_upto_region 17 with (fail)
                      go_quiet (fail)
                      have HN11 := Lib.hid (HN10.out.below (bDraw (bRefl W5) nq))
                      generalize W5.drewN nq = W6 at HN11 ⊢
                      clear HN10 k6 kf cpa2 ck cm
                      have HN12 : Hid (Ne w p (nB l) l (.slice ab (nB l) cb) va vo vr (.slice (some ⟨b4, o4, none⟩) (nB l) c4) (.slice (some ⟨b5, o5, none⟩) (nB l) c5) E E (paF l E.length i (k + 1)) (.slice (some ⟨gl, 0, none⟩) E.length cl) (.slice (some ⟨bs2, os2, none⟩) E.length cs2) W6) := by
                        show Ne _ _ _ _ _ _ _ _ _ _ _ _ _ _ _ _
                        rw [HPS.out]
                        exact HN11.out
                      clear HN11
                      go_wp2
                      go_roundw
                      all_goals first
                        | exact ⟨k + 1, by omega, by go_num, HN12.out⟩
                        | ((repeat apply Exists.intro); exact ⟨⟨k + 1, by omega, by go_num, HN12.out⟩, rfl⟩)
                        | (simp [intOf]; omega)
            · obtain rfl : k = E.length := by omega
              have hN9 := hN.out
              rw [paF_next] at hN9
              have HN9 := Lib.hid hN9
              clear hN9 hN
              go_wp2
              go_roundw
              all_goals first
                | exact ⟨i + 1, by omega, by go_num, HN9.out⟩
                | ((repeat apply Exists.intro); exact ⟨⟨i + 1, by omega, by go_num, HN9.out⟩, rfl⟩)
                | (simp [intOf]; omega)
        · obtain rfl : i = E.length := by omega
          have hN9 := hN.out
          have e9 : arL E (paF l E.length E.length 0) = arL E fun i => parK l i (heads l).length := arL_congr fun x hx => by
            unfold paF
            rw [if_pos hx, HEHL.out]
          have HN9 : Hid (Ne w p (nB l) l (.slice ab (nB l) cb) va vo vr (.slice (some ⟨b4, o4, none⟩) (nB l) c4) (.slice (some ⟨b5, o5, none⟩) (nB l) c5) E E (fun i => parK l i (heads l).length) (.slice av E.length cl) (.slice as2 E.length cs2) wr) := ⟨hN9.ex, hN9.pb, by rw [← e9]; exact hN9.la, hN9.ls, hN9.el⟩
          clear hN9 hN e9
          go_wp2
          go_end0
          exact ⟨rfl, E, _, _, HN9.out, HEH.out⟩
end Go.Proofs.Ytpiiefdaaijgbaa
