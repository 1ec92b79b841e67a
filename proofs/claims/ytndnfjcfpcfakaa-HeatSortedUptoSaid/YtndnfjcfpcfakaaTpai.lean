/- What the law needs, one part after another: walks of functions and plain laws. No conditions but those that each law names. -/
import Derived.Test.YtndnfjcfpcfakaaTpah
import Derived.Deep.OwnRows
namespace Go.Proofs.Ytndnfjcfpcfakaa
open Go Go.RowKit Go.Wr Go.Fl Go.Ht
set_option maxHeartbeats 4000000
set_option maxRecDepth 100000
theorem SlX.exre {α : Type} {R : RT Try.prog α} {p q : Nat} {w w' : World} {v : Value} {l : List α} (h : SlX R q w v l) (x : Ex q w w') (hp : w.heap.size ≤ p) : SlX R p w' v l := by
 obtain ⟨a0, cap, e, h1, h2, hc⟩ := h
 exact ⟨a0, cap, e, h1, h2, fun k y hk => by
  obtain ⟨b, o, e1, e2, e3⟩ := hc k y hk
  exact ⟨b, o, e1, fun e => by have := e3.1; omega, e3.ex x e2⟩⟩
structure Wk0 (l : List In) (p pw : Nat) (wa : World) (vb vl vo vi va vn vh vt : Value) (w : World) : Prop where
 g7 : G7 l
 fin : FinP l p wa
 bd : Bd p wa vb (dB l)
 ld : Ld p wa vl (dL l)
 ro : SlX tI p wa vo (nI (ordL l))
 bel : Below wa.heap.size wa w
 blk : Blk w pw 70 #[.pointer (some ⟨p, 0, none⟩), vb, vl, vi, vo, va, vn, vh, vt]
 gz : wa.heap.size ≤ pw
 inr : ∃ rs : List Sv, SlX tBB pw w vi rs ∧ rs.length = nL l ∧ ∀ (i : Nat) (s : Sv), rs[i]? = some s → SlX tB pw w s.v ((List.range (nB l)).map (inB l i))
 inn : SlX tI pw w vn ((List.range (nB l)).map fun b => inn l b (nL l))
 hdd : SlX tI pw w vh ((List.range (nB l)).map fun b => hdd l b (nL l))
 ah : ∃ cs : List Sv, SlX tCC pw w va cs ∧ cs.length = nB l ∧ ∀ (b : Nat) (s : Sv), cs[b]? = some s → SlX tCm pw w s.v (egs l b (nB l))
theorem Wk0.wk {l : List In} {p pw g : Nat} {wa : World} {vb vl vo vi va vn vh vt vt' : Value} {w w' : World} (h : Wk0 l p pw wa vb vl vo vi va vn vh vt w) (x : Ex pw w w') (hb : Blk w' pw 70 #[.pointer (some ⟨p, 0, none⟩), vb, vl, vi, vo, va, vn, vh, vt']) (hg : w.heap.size ≤ g) : Wk l p pw g wa vb vl vo vi va vn vh vt' w' := by
 refine ⟨h.g7, h.fin, h.bd, h.ld, h.ro, h.bel.trans (x.below h.gz h.bel.size), hb, by have := h.blk.lt; omega, by have := h.bel.size; omega, ?_, SlX.exre h.inn x hg, SlX.exre h.hdd x hg, ?_⟩
 ·obtain ⟨rs, h1, h2, h3⟩ := h.inr
  exact ⟨rs, SlX.exre h1 x hg, h2, fun i s hs => SlX.exre (h3 i s hs) x hg⟩
 ·obtain ⟨cs, h1, h2, h3⟩ := h.ah
  exact ⟨cs, SlX.exre h1 x hg, h2, fun i s hs => SlX.exre (h3 i s hs) x hg⟩
def Rln (l : List In) (x y : Int) : Prop := lnB l x < lnB l y ∨ lnB l x = lnB l y ∧ x < y
theorem rln_ord (l : List In) : Ht.Ord (Rln l) (fun y x => decide (lnB l y - lnB l x < 0)) (fun x => 0 ≤ x ∧ x < (nL l : Int)) :=
 ⟨fun _ _ _ h1 h2 => by unfold Rln at *; omega, fun _ _ h1 h2 => by have := of_decide_eq_true h2; unfold Rln; omega, fun _ _ h1 h2 => by have := of_decide_eq_false h2; unfold Rln; omega⟩
theorem rln_prev {l : List In} {Z : List Int} {n i : Nat} {x y : Int} (hp : Z.Perm (iot n)) (hs : Z.Pairwise (Rln l)) (hx : Z[i]? = some x) (hy : y ∈ iot n) (hlt : lnB l y < lnB l x) : y ∈ Z.take i := by
 have hm : y ∈ Z := hp.symm.subset hy
 obtain ⟨m, hml, rfl⟩ := List.getElem_of_mem hm
 obtain ⟨hil, rfl⟩ := List.getElem?_eq_some_iff.1 hx
 have hmi : m < i := by
  rcases Nat.lt_trichotomy m i with h | h | h
  ·exact h
  ·subst h; omega
  ·have := List.pairwise_iff_getElem.1 hs i m hil hml h
   unfold Rln at this
   omega
 rw [List.mem_take_iff_getElem]
 exact ⟨m, by omega, rfl⟩
theorem run_min {c : Nat} (hc : c ≤ inf) (ats : Array TypeId) (t : TypeId) (w : World) : (Builtin.min_ ats t #[.float .f64 c, .float .f64 4606900943823306752]).run Try.prog w = .ok (.float .f64 (mn c)) w := by
 have ho : FloatKind.f64.format.order c f31 = some (compare c f31) := order_nn hc (by decide)
 have e : f31 = 4606900943823306752 := rfl
 rw [e] at ho
 unfold Builtin.min_ Builtin.min2
 simp only [List.foldlM, bind_pure]
 rw [ho]
 rcases Nat.lt_trichotomy c 4606900943823306752 with h | h | h
 ·have hm : mn c = c := by unfold mn; rw [e, if_neg (by omega)]
  rw [Nat.compare_eq_lt.2 h, hm]; rfl
 ·have hm : mn c = c := by unfold mn; rw [e, if_neg (by omega)]
  rw [Nat.compare_eq_eq.2 h, hm, h]; rfl
 ·have hm : mn c = 4606900943823306752 := by unfold mn; rw [e, if_pos h]
  rw [Nat.compare_eq_gt.2 h, hm]; rfl
theorem run_makeF (n : Nat) (hn : n ≤ 1048576) (w : World) : ∃ w5, (Instr.makeSlice 25 (.int .i64 (n : Int)) (.int .i64 (n : Int))).run Try.prog w = .ok (.slice (some ⟨w.heap.size, 0, none⟩) n n) w5 ∧ OwR tF w.heap.size w5 (.slice (some ⟨w.heap.size, 0, none⟩) n n) (List.replicate n 0) ∧ Below w.heap.size w w5 ∧ w.heap.size < w5.heap.size := by
 obtain ⟨i, hi, hz0, hz1, hz2⟩ := info_parts tF.info
 have hr := run_make_row 25 42 i (.float .f64 0) tF.und hi hz0 hz1 rfl .i64 .i64 n (by rw [hz2]; show 8 * n ≤ _; omega) (by omega) w
 have h1 : (madeCells #[Value.float .f64 0] n).toList = tF.cs (List.replicate n 0) := by
  have := tF.cs_rep 0 rfl n
  have e : n * tF.n = n := Nat.mul_one n
  rw [e] at this
  exact this
 refine ⟨_, hr, ?_, bAl (bRefl w) _, by simp⟩
 have := OwR.new (R := tF) (w := w) rfl h1 (by rw [List.length_replicate]; unfold maxLen; omega)
 rw [List.length_replicate] at this
 exact this
theorem turn_ok {l : List In} {p pw : Nat} {wa : World} {vb vl vo vi va vn vh vt : Value} {w : World} (h : Wk0 l p pw wa vb vl vo vi va vn vh vt w) :
  Calls Try.prog 60 #[.pointer (some ⟨pw, 0, none⟩)] w fun e w' => e = .returned (.tuple #[]) ∧ Ex pw w w' ∧ ∃ vt g, w.heap.size ≤ g ∧ Wk l p pw g wa vb vl vo vi va vn vh vt w' ∧ SlX tF w'.heap.size w' vt ((List.range (nL l)).map (tT l)) := by
 have HK := Lib.hid h
 have h8 : nL l ≤ 8 := h.g7.hd8
 have hpw := h.blk.lt
 have hld := h.ld.below h.bel
 obtain ⟨al, cl, rfl, -, -⟩ := hld.form
 rw [dL_len] at hld
 rw [dL_len] at HK ⊢
 have c2w : w.cell? ⟨pw, 2, none⟩ = some (.slice al (nL l) cl) := HK.out.blk.cell 2
 clear h hld
 go_enter Try.func60, Try.ntmps60
 go_upto_region 1 with (fail)
 obtain ⟨bx, hbx⟩ : ∃ x, x = w.heap.size := ⟨_, rfl⟩
 have hc0 : (w.alloc (.cells #[.pointer (some ⟨pw, 0, none⟩)] 62)).cell? ⟨bx, 0, none⟩ = some (.pointer (some ⟨pw, 0, none⟩)) := by rw [hbx]; exact (Blk.new w 62 #[.pointer (some ⟨pw, 0, none⟩)]).cell 0
 have hb0 : Below w.heap.size w (w.alloc (.cells #[.pointer (some ⟨pw, 0, none⟩)] 62)) := bAl (bRefl w) _
 have hz0 : (w.alloc (.cells #[.pointer (some ⟨pw, 0, none⟩)] 62)).heap.size = bx + 1 := by rw [hbx]; simp
 rw [← hbx]
 have HBX := Lib.hid hbx
 clear hbx
 generalize w.alloc (.cells #[.pointer (some ⟨pw, 0, none⟩)] 62) = w1 at hc0 hb0 hz0 ⊢
 have HB0 := Lib.hid hb0
 have HZ0 := Lib.hid hz0
 have c2 : w1.cell? ⟨pw, 2, none⟩ = some (.slice al (nL l) cl) := (hb0.cell hpw).trans c2w
 have HBlk := Lib.hid (HK.out.blk.below hb0 hpw)
 clear hb0 hz0 c2w
 refine wp_region_held_drew (S := fun w' => w'.cell? ⟨bx, 0, none⟩ = some (.pointer (some ⟨pw, 0, none⟩)) ∧ w'.cell? ⟨pw, 2, none⟩ = some (.slice al (nL l) cl)) mix ⟨hc0, c2⟩ (fun hS => ?_)
 refine wpAnyH_take (i := 0) (v := .pointer (some ⟨pw, 0, none⟩)) rfl (by kernel_rfl) (by kernel_rfl) (by kernel_rfl) (fun _ _ _ h => h) (Or.inl ⟨by rfl, fun w' hw' => by (try go_split_ands); go_simp <;> omega⟩) hS ?_
 simp only [Act.put, List.getElem_toArray, List.getElem_cons_zero, List.setIfInBounds_toArray, List.set_cons_zero, List.set_cons_succ]
 refine wpAnyH_take (i := 1) (v := .pointer (some ⟨pw, 0, none⟩)) rfl (by kernel_rfl) (by kernel_rfl) (by kernel_rfl) (fun _ _ _ h => h) (Or.inl ⟨by rfl, fun w' hw' => by (try go_split_ands); go_simp <;> omega⟩) hS ?_
 simp only [Act.put, List.getElem_toArray, List.getElem_cons_zero, List.getElem_cons_succ, List.setIfInBounds_toArray, List.set_cons_zero, List.set_cons_succ]
 refine wpAnyH_take (i := 2) (v := .pointer (some ⟨pw, 0, none⟩)) rfl (by kernel_rfl) (by kernel_rfl) (by kernel_rfl) (fun _ _ _ h => h) (Or.inl ⟨by rfl, fun w' hw' => by (try go_split_ands); go_simp <;> omega⟩) hS ?_
 simp only [Act.put, List.getElem_toArray, List.getElem_cons_zero, List.getElem_cons_succ, List.setIfInBounds_toArray, List.set_cons_zero, List.set_cons_succ]
 refine wpAnyH_take (i := 3) (v := .pointer (some ⟨pw, 2, none⟩)) rfl (by kernel_rfl) (by kernel_rfl) (by kernel_rfl) (fun _ _ _ h => h) (Or.inl ⟨by rfl, fun w' hw' => by (try go_split_ands); go_simp <;> omega⟩) hS ?_
 simp only [Act.put, List.getElem_toArray, List.getElem_cons_zero, List.getElem_cons_succ, List.setIfInBounds_toArray, List.set_cons_zero, List.set_cons_succ]
 refine wpAnyH_take (i := 4) (v := .slice al (nL l) cl) rfl (by kernel_rfl) (by kernel_rfl) (by kernel_rfl) (fun _ _ _ h => h) (Or.inl ⟨by rfl, fun w' hw' => by (try go_split_ands); go_simp <;> omega⟩) hS ?_
 simp only [Act.put, List.getElem_toArray, List.getElem_cons_zero, List.getElem_cons_succ, List.setIfInBounds_toArray, List.set_cons_zero, List.set_cons_succ]
 refine wpAnyH_take (i := 5) (v := .int .i64 (nL l : Int)) rfl (by kernel_rfl) (by kernel_rfl) (by kernel_rfl) (fun _ _ _ h => h) (Or.inl ⟨by rfl, fun w' hw' => by (try go_split_ands); go_simp <;> omega⟩) hS ?_
 simp only [Act.put, List.getElem_toArray, List.getElem_cons_zero, List.getElem_cons_succ, List.setIfInBounds_toArray, List.set_cons_zero, List.set_cons_succ]
 obtain ⟨w5, hmk, how, hbw, hsw⟩ := run_makeF (nL l) (by omega) w1.drew
 refine wpAnyH_ready (rs := [6]) (by kernel_rfl) (by simp) ?_
 refine AllReadyH.cons rfl (fun K hK => ?_) AllReadyH.nil
 go_simp
 have hS5 : w5.cell? ⟨bx, 0, none⟩ = some (.pointer (some ⟨pw, 0, none⟩)) ∧ w5.cell? ⟨pw, 2, none⟩ = some (.slice al (nL l) cl) := ⟨(hbw.cell (World.block_lt_of_cell? _ _ hc0)).trans hc0, (hbw.cell (World.block_lt_of_cell? _ _ c2)).trans c2⟩
 refine hK.out _ _ hS5 (fun hS => ?_)
 clear hK K
 have hb15 : Below w1.heap.size w1 w5 := ⟨hbw.os, hbw.tape, hbw.output, hbw.size, hbw.block⟩
 have hbl5 := HBlk.out.below hb15 HBlk.out.lt
 have f8 := hbl5.frozen 8
 have c8 := hbl5.cell 8
 obtain ⟨g, hg⟩ : ∃ x, x = w1.heap.size := ⟨_, rfl⟩
 have how1 : OwR tF g w5 (.slice (some ⟨g, 0, none⟩) (nL l) (nL l)) (List.replicate (nL l) 0) := by rw [hg]; exact how
 have hgz : g = bx + 1 := hg.trans HZ0.out
 clear how hbw hsw hmk
 refine wpAnyH_take (i := 7) (v := .pointer (some ⟨pw, 0, none⟩)) rfl (by kernel_rfl) (by kernel_rfl) (by kernel_rfl) (fun _ _ _ h => h) (Or.inl ⟨by rfl, fun w' hw' => by (try go_split_ands); go_simp <;> omega⟩) hS ?_
 simp only [Act.put, List.getElem_toArray, List.getElem_cons_zero, List.getElem_cons_succ, List.setIfInBounds_toArray, List.set_cons_zero, List.set_cons_succ]
 refine wpAnyH_take (i := 8) (v := .pointer (some ⟨pw, 8, none⟩)) rfl (by kernel_rfl) (by kernel_rfl) (by kernel_rfl) (fun _ _ _ h => h) (Or.inl ⟨by rfl, fun w' hw' => by (try go_split_ands); go_simp <;> omega⟩) hS ?_
 simp only [Act.put, List.getElem_toArray, List.getElem_cons_zero, List.getElem_cons_succ, List.setIfInBounds_toArray, List.set_cons_zero, List.set_cons_succ]
 refine wpAnyH_ready (rs := [9]) (by kernel_rfl) (by simp) ?_
 refine AllReadyH.cons rfl (fun K hK => ?_) AllReadyH.nil
 go_simp
 rw [← hg]
 obtain ⟨w6, hw6⟩ : ∃ x, x = w5.setCell ⟨pw, 8, none⟩ (.slice (some ⟨g, 0, none⟩) (nL l) (nL l)) := ⟨_, rfl⟩
 have hbp : bx ≠ pw := by have := HBX.out; omega
 have hcb6 : w6.cell? ⟨bx, 0, none⟩ = some (.pointer (some ⟨pw, 0, none⟩)) := by rw [hw6]; exact (World.cell?_of_block (Below.heap_setCell w5 ⟨pw, 8, none⟩ _ bx hbp)).trans hS.1
 have hbl6 : Blk w6 pw 70 #[.pointer (some ⟨p, 0, none⟩), vb, .slice al (nL l) cl, vi, vo, va, vn, vh, .slice (some ⟨g, 0, none⟩) (nL l) (nL l)] := by rw [hw6]; exact hbl5.set 8 _
 have how6 : OwR tF g w6 (.slice (some ⟨g, 0, none⟩) (nL l) (nL l)) (List.replicate (nL l) 0) := by rw [hw6]; exact how1.set_other (how1.ne hbl5 (by decide))
 have hx6 : Ex pw w w6 := by rw [hw6]; exact (Ex.of_below (bThen HB0.out hb15)).set 8 _
 rw [← hw6]
 refine hK.out _ _ ⟨hcb6, hbl6.cell 2⟩ (fun hS => ?_)
 refine wpAnyH_done (by kernel_rfl) ?_ _
 have c26 : w6.cell? ⟨pw, 2, none⟩ = some (.slice al (nL l) cl) := hbl6.cell 2
 have hwg : w.heap.size ≤ g := by have := HBX.out; omega
 have HP6 := Lib.hid (And.intro hx6 (And.intro hbl6 how6))
 have HGB := Lib.hid (And.intro hwg (And.intro (show bx < g by omega) hbp))
 clear hK K hw6 hS5 hbl5 hb15 f8 c8 hg how1 hgz hbp hbl6 how6 hx6 hwg HBlk c2 hc0
 clear hS
 go_upto_region 3 with (refine wpl_make tI 0 rfl rfl (.tmp 22) (.tmp 22) rfl .i64 .i64 _ _ (nL l) rfl rfl rfl rfl (by show 8 * _ ≤ _; omega) (by unfold maxLen; omega) ?_; intro w7 how7 hbw7 hsw7)
 obtain ⟨g2, hg2⟩ : ∃ x, x = w6.heap.size := ⟨_, rfl⟩
 rw [← hg2] at how7 hbw7 ⊢
 have hgg2 : g < g2 := by have := HP6.out.2.2.lt (g := g) rfl; omega
 have hwg2 : w.heap.size ≤ g2 := by have := HGB.out.1; omega
 have hcb7 : w7.cell? ⟨bx, 0, none⟩ = some (.pointer (some ⟨pw, 0, none⟩)) := (hbw7.cell (by show bx < g2; have := HGB.out.2.1; omega)).trans hcb6
 have hwk7 := (HK.out.wk HP6.out.1 HP6.out.2.1 hwg2).below (by rw [← hg2]; exact hbw7)
 have hS0 : SW g2 w7 g2 (nL l) (nL l) (flI (nL l) 0) w7 := ⟨Ex.refl _ _, by rw [flI_zero]; exact how7⟩
 have hgb : bx ≠ g2 := by have := HGB.out.2.1; omega
 have hbx7 : bx < w7.heap.size := by have := hbw7.size; have := HGB.out.2.1; omega
 have HC := Lib.hid (show Cmp 95 (.pointer (some ⟨bx, 0, none⟩)) (fun x y => lnB l x - lnB l y) (fun x => 0 ≤ x ∧ x < (nL l : Int)) w7 g2 from
  ⟨fun args w => call_enter Try.func95 (by kernel_rfl) (by kernel_rfl) args w, fun x y w' hx hy hex => turn_cmp (hwk7.ex hex) bx ((World.cell?_of_block (hex.block bx hbx7 hgb)).trans hcb7) x y hx hy⟩)
 have HS0 := Lib.hid hS0
 have HB7 := Lib.hid (And.intro hbw7 (And.intro hg2 (And.intro hcb7 hgg2)))
 clear how7 hbw7 hsw7 hg2 hgg2 hwg2 hcb7 hwk7 hS0 hgb hbx7 hcb6 c26
 go_wp2
 go_loopw [3, 26] (fun _ u wr => ∃ (i : Nat), i ≤ nL l ∧ u = .int .i64 (i : Int) ∧ Hid (SW g2 w7 g2 (nL l) (nL l) (flI (nL l) i) wr)) (fun _ u _ => nL l - (intOf u).toNat)
 case atStart => exact ⟨0, by omega, rfl, HS0.out⟩
 case round =>
  clear HS0
  obtain ⟨i, hi, rfl, hS⟩ := hrel
  obtain ⟨V, rfl⟩ : ∃ V : World, V = wr := ⟨_, rfl⟩
  by_cases hlt : i < nL l
  ·have hlt' : (i : Int) < (nL l : Int) := by omega
   have c1 := hS.out.cell (flI_get (i := i) hlt)
   have f1 := hS.out.frozen i
   have hS2 := hS.out.set (k := i) (x := (i : Int)) (by rw [flI_len]; exact hlt)
   rw [flI_set hlt] at hS2
   have HS2 := Lib.hid hS2
   clear hS hS2
   go_wp2
   go_roundw
   all_goals first
    | exact ⟨i + 1, by omega, by go_num, HS2.out⟩
    | ((repeat apply Exists.intro); exact ⟨⟨i + 1, by omega, by go_num, HS2.out⟩, rfl⟩)
    | (simp [intOf] <;> omega)
  ·have hil : i = nL l := by omega
   have hS' := hS.out
   rw [hil, flI_all] at hS'
   have hcall := sortStable_ok g2 w7 V g2 (nL l) (nL l) 95 _ _ _ (Rln l) HC.out (rln_ord l) (iot (nL l)) hS' (fun x hx => iot_mem.1 hx) (iot_asc _) (by omega)
   have HCl := Lib.hid hcall
   have hlt' : ¬ (i : Int) < (nL l : Int) := by omega
   clear hS' hcall hS hlt hil HC
   go_wp2_with fail
   refine HCl.out.mono ?_
   rintro e' w8 ⟨rfl, Z, z1, z2, z3⟩
   have hb8 : Below g2 w6 w8 := HB7.out.1.trans (z3.ex.below (Nat.le_refl _) (by have h1 := HB7.out.1.size; have h2 := HB7.out.2.1; omega))
   have hb8' : Below w6.heap.size w6 w8 := by rw [← HB7.out.2.1]; exact hb8
   have hzl : Z.length = nL l := by rw [z1.length_eq, iot_len]
   have hbl := HB7.out.1.size
   have hbg := HB7.out.2.2.2
   have hb1 := HGB.out.2.1
   have hw68 := HB7.out.2.1
   have hcb8 : w8.cell? ⟨bx, 0, none⟩ = some (.pointer (some ⟨pw, 0, none⟩)) := (World.cell?_of_block (z3.ex.block bx (by omega) (by omega))).trans HB7.out.2.2.1
   have HW8 := Lib.hid (And.intro ((HK.out.wk HP6.out.1 HP6.out.2.1 HGB.out.1).below hb8') (And.intro (HP6.out.2.2.below hb8') (And.intro hcb8 (Ex.new HP6.out.1 (Ex.of_below (p := g2) hb8') (by have := HGB.out.1; omega)))))
   have HZ := Lib.hid (And.intro z1 (And.intro z2 (And.intro z3 hzl)))
   have HG8 := Lib.hid (show g < g2 ∧ g2 < w8.heap.size ∧ bx < g ∧ bx < w8.heap.size from ⟨hbg, by have := z3.ow.lt (g := g2) rfl; exact this, hb1, by have := z3.ow.lt (g := g2) rfl; omega⟩)
   clear HCl z1 z2 z3 hb8 hb8' hzl hbl hbg hb1 hw68 hcb8
   go_wp2
   go_loopw [39] (fun u wr => ∃ (i : Nat) (tt : Nat → Nat), i ≤ nL l ∧ u = .int .i64 (i : Int) ∧ Hid (Ex g w8 wr ∧ OwR tF g wr (.slice (some ⟨g, 0, none⟩) (nL l) (nL l)) ((List.range (nL l)).map tt) ∧ ∀ x ∈ Z.take i, tt x.toNat = tT l x.toNat)) (fun u _ => nL l - (intOf u).toNat)
   case atStart => exact ⟨0, fun _ => 0, by omega, rfl, Ex.refl _ _, by
    have e : (List.range (nL l)).map (fun _ : Nat => (0 : Nat)) = List.replicate (nL l) 0 := by
     apply List.ext_getElem?
     intro k
     by_cases hk : k < nL l
     ·rw [List.getElem?_map, List.getElem?_range hk, List.getElem?_replicate, if_pos hk]; rfl
     ·rw [List.getElem?_eq_none (by simp; omega), List.getElem?_eq_none (by simp; omega)]
    rw [e]
    exact HW8.out.2.1, fun x hx => by simp at hx⟩
   case round =>
    obtain ⟨j, tt, hj, rfl, hR⟩ := hrel
    obtain ⟨V, rfl⟩ : ∃ V : World, V = wr := ⟨_, rfl⟩
    by_cases hjl : j < nL l
    ·have hjl' : (j : Int) < (nL l : Int) := by omega
     obtain ⟨x, hx⟩ : ∃ x, Z[j]? = some x := ⟨_, List.getElem?_eq_getElem (by rw [HZ.out.2.2.2]; exact hjl)⟩
     have hxm := iot_mem.1 (HZ.out.1.subset (List.mem_of_getElem? hx))
     obtain ⟨t, rfl⟩ := Int.eq_ofNat_of_zero_le hxm.1
     have htn : t < nL l := by omega
     have htn' : (t : Int) < (nL l : Int) := by omega
     have hg8 := HG8.out
     have cz : V.cell? ⟨g2, j, none⟩ = some (.int .i64 (t : Int)) := (World.cell?_of_block (hR.out.1.block g2 (by omega) (by omega))).trans (HZ.out.2.2.1.cell hx)
     have cb : V.cell? ⟨bx, 0, none⟩ = some (.pointer (some ⟨pw, 0, none⟩)) := (World.cell?_of_block (hR.out.1.block bx (by omega) (by omega))).trans HW8.out.2.2.1
     have hkV := HW8.out.1.ex hR.out.1
     have hprev : ∀ k, k < nL l → (blkL l k).length < (blkL l t).length → tt k = tT l k := fun k hk hl => by
      have := hR.out.2.2 (k : Int) (rln_prev HZ.out.1 HZ.out.2.1 hx (iot_mem.2 ⟨by omega, by omega⟩) (by unfold lnB; rw [Int.toNat_natCast, Int.toNat_natCast]; omega))
      rwa [Int.toNat_natCast] at this
     have HWt := Lib.hid (wweights_ok hkV V.heap.size tt (t : Int) (hR.out.2.1.sl (fun e => by have := hR.out.2.1.lt e; omega)) (fun k hk hh hne => by
      rw [hprev k hk (blk_lt HK.out.g7 htn hk (hol_in hh) (by omega))]
      exact tT_in) htn')
     have hld := hkV.ld.below hkV.bel
     obtain ⟨gl, ol, ba, bn, bc, e1, ch0, -, -, -⟩ := hld.one htn
     obtain rfl := e1
     have HTr := Lib.hid (show trn l tt t = tT l t by rw [tT_eq HK.out.g7 htn]; exact trn_congr HK.out.g7 htn hprev)
     have HKV := Lib.hid hkV
     have HX := Lib.hid hx
     clear hprev hld hkV hg8 hxm hx
     go_wp2_with fail
     refine HWt.out.mono ?_
     rintro e w2 ⟨b2, vw, rfl, hO⟩
     clear HWt cz
     have hE2 : Ex g w8 w2 := hR.out.1.trans (Ex.of_below b2)
     have hR2 := hR.out.2.1.below b2
     have hb2 : w2.cell? ⟨bx, 0, none⟩ = some (.pointer (some ⟨pw, 0, none⟩)) := (b2.cell (World.block_lt_of_cell? _ _ cb)).trans cb
     have hc2 : w2.cell? ⟨pw, 2, none⟩ = some (.slice (some ⟨gl, ol, none⟩) (nL l) cl) := (b2.cell (World.block_lt_of_cell? _ _ (HKV.out.blk.cell 2))).trans (HKV.out.blk.cell 2)
     have hh2 : w2.cell? ⟨gl, ol + t * 3, none⟩ = some (.int .i64 (hdN l t : Int)) := (b2.cell (World.block_lt_of_cell? _ _ ch0)).trans ch0
     have HR2 := Lib.hid (And.intro hE2 (And.intro hR2 (And.intro (HKV.out.below b2) hO)))
     have HOld := Lib.hid hR.out.2.2
     obtain ⟨hd, hhd⟩ : ∃ x, x = hdN l t := ⟨_, rfl⟩
     rw [← hhd] at hh2
     have hdn : hd < nB l := by rw [hhd]; exact (heads_of l htn).1
     have HHd := Lib.hid hhd
     clear hhd hE2 hR2 hO b2 hR HKV cb ch0
     go_upto_region 13 with (fail)
     refine wp_region_held_drew (S := fun w' => w'.cell? ⟨bx, 0, none⟩ = some (.pointer (some ⟨pw, 0, none⟩)) ∧ w'.cell? ⟨pw, 2, none⟩ = some (.slice (some ⟨gl, ol, none⟩) (nL l) cl) ∧ w'.cell? ⟨gl, ol + t * 3, none⟩ = some (.int .i64 (hd : Int))) mix ⟨hb2, hc2, hh2⟩ (fun hS => ?_)
     refine wpAnyH_take (i := 0) (v := .pointer (some ⟨pw, 0, none⟩)) rfl (by kernel_rfl) (by kernel_rfl) (by kernel_rfl) (fun _ _ _ h => h) (Or.inl ⟨by rfl, fun w' hw' => by (try go_split_ands); go_simp <;> omega⟩) hS ?_
     simp only [Act.put, List.getElem_toArray, List.getElem_cons_zero, List.setIfInBounds_toArray, List.set_cons_zero, List.set_cons_succ]
     refine wpAnyH_take (i := 1) (v := vw) rfl (by kernel_rfl) (by kernel_rfl) (by kernel_rfl) (fun _ _ _ h => h) (Or.inl ⟨by rfl, fun w' hw' => by (try go_split_ands); go_simp <;> omega⟩) hS ?_
     simp only [Act.put, List.getElem_toArray, List.getElem_cons_zero, List.getElem_cons_succ, List.setIfInBounds_toArray, List.set_cons_zero, List.set_cons_succ]
     refine wpAnyH_take (i := 2) (v := .int .i64 (t : Int)) rfl (by kernel_rfl) (by kernel_rfl) (by kernel_rfl) (fun _ _ _ h => h) (Or.inl ⟨by rfl, fun w' hw' => by (try go_split_ands); go_simp <;> omega⟩) hS ?_
     simp only [Act.put, List.getElem_toArray, List.getElem_cons_zero, List.getElem_cons_succ, List.setIfInBounds_toArray, List.set_cons_zero, List.set_cons_succ]
     refine wpAnyH_take (i := 3) (v := .pointer (some ⟨pw, 0, none⟩)) rfl (by kernel_rfl) (by kernel_rfl) (by kernel_rfl) (fun _ _ _ h => h) (Or.inl ⟨by rfl, fun w' hw' => by (try go_split_ands); go_simp <;> omega⟩) hS ?_
     simp only [Act.put, List.getElem_toArray, List.getElem_cons_zero, List.getElem_cons_succ, List.setIfInBounds_toArray, List.set_cons_zero, List.set_cons_succ]
     refine wpAnyH_take (i := 4) (v := .pointer (some ⟨pw, 0, none⟩)) rfl (by kernel_rfl) (by kernel_rfl) (by kernel_rfl) (fun _ _ _ h => h) (Or.inl ⟨by rfl, fun w' hw' => by (try go_split_ands); go_simp <;> omega⟩) hS ?_
     simp only [Act.put, List.getElem_toArray, List.getElem_cons_zero, List.getElem_cons_succ, List.setIfInBounds_toArray, List.set_cons_zero, List.set_cons_succ]
     refine wpAnyH_take (i := 5) (v := .pointer (some ⟨pw, 2, none⟩)) rfl (by kernel_rfl) (by kernel_rfl) (by kernel_rfl) (fun _ _ _ h => h) (Or.inl ⟨by rfl, fun w' hw' => by (try go_split_ands); go_simp <;> omega⟩) hS ?_
     simp only [Act.put, List.getElem_toArray, List.getElem_cons_zero, List.getElem_cons_succ, List.setIfInBounds_toArray, List.set_cons_zero, List.set_cons_succ]
     refine wpAnyH_take (i := 6) (v := .slice (some ⟨gl, ol, none⟩) (nL l) cl) rfl (by kernel_rfl) (by kernel_rfl) (by kernel_rfl) (fun _ _ _ h => h) (Or.inl ⟨by rfl, fun w' hw' => by (try go_split_ands); go_simp <;> omega⟩) hS ?_
     simp only [Act.put, List.getElem_toArray, List.getElem_cons_zero, List.getElem_cons_succ, List.setIfInBounds_toArray, List.set_cons_zero, List.set_cons_succ]
     refine wpAnyH_take (i := 7) (v := .int .i64 (t : Int)) rfl (by kernel_rfl) (by kernel_rfl) (by kernel_rfl) (fun _ _ _ h => h) (Or.inl ⟨by rfl, fun w' hw' => by (try go_split_ands); go_simp <;> omega⟩) hS ?_
     simp only [Act.put, List.getElem_toArray, List.getElem_cons_zero, List.getElem_cons_succ, List.setIfInBounds_toArray, List.set_cons_zero, List.set_cons_succ]
     refine wpAnyH_take (i := 8) (v := .pointer (some ⟨gl, ol + t * 3, none⟩)) rfl (by kernel_rfl) (by kernel_rfl) (by kernel_rfl) (fun _ _ _ h => h) (Or.inl ⟨by rfl, fun w' hw' => by (try go_split_ands); go_simp <;> omega⟩) hS ?_
     simp only [Act.put, List.getElem_toArray, List.getElem_cons_zero, List.getElem_cons_succ, List.setIfInBounds_toArray, List.set_cons_zero, List.set_cons_succ]
     refine wpAnyH_take (i := 9) (v := .pointer (some ⟨gl, ol + t * 3, none⟩)) rfl (by kernel_rfl) (by kernel_rfl) (by kernel_rfl) (fun _ _ _ h => h) (Or.inl ⟨by rfl, fun w' hw' => by (try go_split_ands); go_simp <;> omega⟩) hS ?_
     simp only [Act.put, List.getElem_toArray, List.getElem_cons_zero, List.getElem_cons_succ, List.setIfInBounds_toArray, List.set_cons_zero, List.set_cons_succ]
     refine wpAnyH_take (i := 10) (v := .int .i64 (hd : Int)) rfl (by kernel_rfl) (by kernel_rfl) (by kernel_rfl) (fun _ _ _ h => h) (Or.inl ⟨by rfl, fun w' hw' => by (try go_split_ands); go_simp <;> omega⟩) hS ?_
     simp only [Act.put, List.getElem_toArray, List.getElem_cons_zero, List.getElem_cons_succ, List.setIfInBounds_toArray, List.set_cons_zero, List.set_cons_succ]
     refine wpAnyH_ready (rs := [11]) (by kernel_rfl) (by simp) ?_
     refine AllReadyH.cons rfl (fun K hK => ?_) AllReadyH.nil
     go_simp
     go_wp2_with fail
     refine (wsum_ok (HR2.out.2.2.1.below (bRefl w2).drew) w2.heap.size vw (wts l tt (t : Int)) (t : Int) hd true (SlX.below (HR2.out.2.2.2.sl (fun e => by have := HR2.out.2.2.2.lt e; omega)) (bRefl w2).drew) wts_le htn' hdn).mono ?_
     rintro e w3 ⟨rfl, b3⟩
     have b3' : Below w2.heap.size w2 w3 := ⟨b3.os, b3.tape, b3.output, b3.size, b3.block⟩
     have hb3 : w3.cell? ⟨bx, 0, none⟩ = some (.pointer (some ⟨pw, 0, none⟩)) := (b3'.cell (World.block_lt_of_cell? _ _ hb2)).trans hb2
     have hc3 : w3.cell? ⟨pw, 2, none⟩ = some (.slice (some ⟨gl, ol, none⟩) (nL l) cl) := (b3'.cell (World.block_lt_of_cell? _ _ hc2)).trans hc2
     have hh3 : w3.cell? ⟨gl, ol + t * 3, none⟩ = some (.int .i64 (hd : Int)) := (b3'.cell (World.block_lt_of_cell? _ _ hh2)).trans hh2
     have c83 : w3.cell? ⟨pw, 8, none⟩ = some (.slice (some ⟨g, 0, none⟩) (nL l) (nL l)) := (b3'.cell (World.block_lt_of_cell? _ _ (HR2.out.2.2.1.blk.cell 8))).trans (HR2.out.2.2.1.blk.cell 8)
     have hE3 : Ex g w8 w3 := HR2.out.1.trans (Ex.of_below b3')
     have hO3 := HR2.out.2.1.below b3'
     obtain ⟨c, hc⟩ : ∃ c, c = brg l (wts l tt (t : Int)) (t : Int) hd true := ⟨_, rfl⟩
     have hcle : c ≤ inf := by rw [hc]; exact brg_le
     have hT : frec (fsub one (mn c)) = tT l t := by
      rw [hc, HHd.out, ← HTr.out]
      rfl
     rw [← hc]
     obtain ⟨o1, o2⟩ := trn_ops hcle
     have hmin := fun ats t w => run_min hcle ats t w
     obtain ⟨m, hm⟩ : ∃ m, m = mn c := ⟨_, rfl⟩
     rw [← hm] at o1 o2 hT hmin
     obtain ⟨y, hy⟩ : ∃ y, y = fsub one m := ⟨_, rfl⟩
     rw [← hy] at o1 o2 hT
     rw [hT] at o2
     obtain ⟨r, hr⟩ : ∃ r, r = tT l t := ⟨_, rfl⟩
     rw [← hr] at o2
     have hop1 := hop_sub o1
     have hop2 := hop_div o2
     rw [show one = 4607182418800017408 from rfl] at hop1 hop2
     have ck : w3.cell? ⟨g, t, none⟩ = some (.float .f64 (tt t)) := by
      have h1 := (hO3.at (k := t) (x := tt t) (by rw [List.getElem?_map, List.getElem?_range htn]; rfl)).cell 0 _ rfl
      have e1 : 0 + t * tF.n + 0 = t := by show 0 + t * 1 + 0 = t; omega
      rw [e1] at h1
      exact h1
     have fk := hO3.frozen t
     have hset := hO3.set (k := t) (j := 0) (x := tt t) (y := r) (v := .float .f64 r) (by rw [List.getElem?_map, List.getElem?_range htn]; rfl) (by decide) rfl
     have e2 : t * tF.n + 0 = t := by show t * 1 + 0 = t; omega
     rw [e2, upd_row tt htn] at hset
     have HO4 := Lib.hid hset
     have HE4 := Lib.hid (hE3.set t (.float .f64 r))
     have HNew := Lib.hid (show ∀ x ∈ Z.take (j + 1), Ht.upd tt t r x.toNat = tT l x.toNat from fun x hx => by
      rw [List.take_add_one, HX.out] at hx
      unfold Ht.upd
      by_cases e : x.toNat = t
      ·rw [if_pos e, e]; exact hr
      ·rw [if_neg e]
       rcases List.mem_append.1 hx with hx | hx
       ·exact HOld.out x hx
       ·have : x = (t : Int) := by simpa using hx
        exact absurd (by rw [this, Int.toNat_natCast]) e)
     have hst : ∀ a m w, (store a (.float .f64 r) m).run Try.prog w = stored Try.prog w a (.float .f64 r) m := fun a m w => run_store Try.prog w a _ m rfl
     clear hset e2 hE3 hO3 o1 o2 hT hy hm hc hcle hr b3 b3' HTr HHd HR2 HOld HX hS
     go_wp2_with fail
     refine hK.out _ _ ⟨hb3, hc3, hh3⟩ (fun hS => ?_)
     clear hK K
     refine wpAnyH_ready (rs := [12]) (by kernel_rfl) (by simp) ?_
     refine AllReadyH.cons rfl (fun K hK => ?_) AllReadyH.nil
     go_simp
     refine hK.out _ _ hS (fun _ => ?_)
     clear hK K
     refine wpAnyH_done (by kernel_rfl) ?_ _
     clear hS hb2 hc2 hh2 hc3 hh3
     go_wp2
     refine ⟨⟨j + 1, _, by omega, by go_num, HE4.out, HO4.out, HNew.out⟩, ?_⟩
     simp [intOf] <;> omega
    ·have hje : j = nL l := by omega
     have hjl' : ¬ (j : Int) < (nL l : Int) := by omega
     have HFin := Lib.hid (show SlX tF V.heap.size V (.slice (some ⟨g, 0, none⟩) (nL l) (nL l)) ((List.range (nL l)).map (tT l)) by
      have h1 := hR.out.2.1.sl (p := V.heap.size) (fun e => by have := hR.out.2.1.lt e; omega)
      rw [show (List.range (nL l)).map (tT l) = (List.range (nL l)).map tt from List.map_congr_left fun x hx => by
       have hx' : x < nL l := by simpa using hx
       have h2 := hR.out.2.2 (x : Int) (by
        rw [hje, List.take_of_length_le (by rw [HZ.out.2.2.2]; exact Nat.le_refl _)]
        exact HZ.out.1.symm.subset (iot_mem.2 ⟨by omega, by omega⟩))
       rw [Int.toNat_natCast] at h2
       exact h2.symm]
      exact h1)
     clear hje
     go_wp2
     go_end0
     exact ⟨rfl, HW8.out.2.2.2.new hR.out.1 HGB.out.1, _, g, HGB.out.1, HW8.out.1.ex hR.out.1, HFin.out⟩
end Go.Proofs.Ytndnfjcfpcfakaa
namespace Go.Proofs.Ytndnfjcfpcfakaa
open Go Go.RowKit Go.Wr Go.Fl Go.Ht
set_option maxHeartbeats 4000000
set_option maxRecDepth 100000
def RdyP (l : List In) (p : Nat) (w : World) (e : Ending) (w' : World) : Prop :=
 Below w.heap.size w w' ∧ ∃ (pw g : Nat) (wa : World) (vb vl vo vi va vn vh vt : Value), e = .returned (.pointer (some ⟨pw, 0, none⟩)) ∧ Wk l p pw g wa vb vl vo vi va vn vh vt w' ∧ SlX tF w'.heap.size w' vt ((List.range (nL l)).map (tT l))
def eg2 (l : List In) (b k c : Nat) : List (Nat × Nat) := egs l c b ++ egU l b c k
theorem eg2_zero {l : List In} {b : Nat} : (fun c => egs l c b) = eg2 l b 0 := by
 funext c
 show egs l c b = egs l c b ++ []
 rw [List.append_nil]
theorem eg2_all {l : List In} {b : Nat} : eg2 l b (nxt l b).length = fun c => egs l c (b + 1) := rfl
theorem eg2_yes {l : List In} {b k : Nat} : eg2 l b (k + 1) ((nxt l b).getD k 0) = eg2 l b k ((nxt l b).getD k 0) ++ [(b, k)] := by
 unfold eg2
 rw [egU, if_pos rfl, List.append_assoc]
theorem eg2_no {l : List In} {b k c : Nat} (h : c ≠ (nxt l b).getD k 0) : eg2 l b (k + 1) c = eg2 l b k c := by
 unfold eg2
 rw [egU, if_neg (fun e => h e.symm)]
theorem egU_le {l : List In} {b c : Nat} : ∀ {k : Nat}, (egU l b c k).length ≤ k
 | 0 => Nat.le_refl _
 | k + 1 => by
  unfold egU
  have := @egU_le l b c k
  split
  ·rw [List.length_append, List.length_singleton]; omega
  ·omega
theorem egs_le {l : List In} {c : Nat} : ∀ {b : Nat}, (egs l c b).length ≤ 2 * b
 | 0 => Nat.le_refl _
 | b + 1 => by
  have h1 := @egs_le l c b
  have h2 := @egU_le l b c (nxt l b).length
  have h3 := nxt_two l b
  show (egs l c b ++ egU l b c (nxt l b).length).length ≤ _
  rw [List.length_append]
  omega
theorem eg2_le {l : List In} {b k c : Nat} : (eg2 l b k c).length ≤ 2 * b + k := by
 unfold eg2
 rw [List.length_append]
 have h1 := @egs_le l c b
 have h2 := @egU_le l b c k
 omega
theorem rws_nil {α : Type} {R : RT Try.prog α} {B n : Nat} {F : Nat → List α} {w : World} (hF : ∀ b, F b = []) : Rws R B (List.replicate n ⟨none, 0, 0⟩) F w := by
 have get : ∀ (i : Nat) (s : Sv), (List.replicate n (⟨none, 0, 0⟩ : Sv))[i]? = some s → s = ⟨none, 0, 0⟩ := fun i s hs => by
  rw [List.getElem?_replicate] at hs
  split at hs
  ·injection hs with hs; exact hs.symm
  ·cases hs
 refine ⟨fun b s hs => ?_, fun i j s t hs _ _ g hg => ?_⟩
 ·rw [get b s hs, hF]
  exact OwR.nil _ _
 ·rw [get i s hs] at hg
  cases hg
theorem rep_map {α : Type} (n : Nat) (x : α) (f : Nat → α) (h : ∀ b, f b = x) : (List.range n).map f = List.replicate n x := by
 apply List.ext_getElem?
 intro k
 by_cases hk : k < n
 ·rw [List.getElem?_map, List.getElem?_range hk, List.getElem?_replicate, if_pos hk, ← h k]; rfl
 ·rw [List.getElem?_eq_none (by simp; omega), List.getElem?_eq_none (by simp; omega)]
theorem upd_bool (W : Nat → Bool) {n b : Nat} {x : Bool} (hb : b < n) : ((List.range n).map W).set b x = (List.range n).map (setF W b x) := by
 apply List.ext_getElem?
 intro k
 rw [List.getElem?_set, List.length_map, List.length_range]
 by_cases hk : k < n
 ·rw [List.getElem?_map, List.getElem?_map, List.getElem?_range hk]
  by_cases e : b = k
  ·subst e
   rw [if_pos rfl, if_pos hb]
   simp [setF_self]
  ·rw [if_neg e]
   simp only [Option.map_some]
   rw [setF_ne (Ne.symm e)]
 ·rw [if_neg (by omega), List.getElem?_eq_none (by simp; omega), List.getElem?_eq_none (by simp; omega)]
noncomputable def NJ (l : List In) (i j b : Nat) : Int := if b ∈ (blkL l i).take j then inn l b (i + 1) else inn l b i
noncomputable def MJ (l : List In) (i j b : Nat) : Bool := decide (b ∈ (blkL l i).take j)
section
variable {l : List In} {i j b : Nat}
theorem blk_nd : (blkL l i).Nodup := List.Pairwise.filter _ List.nodup_range
theorem blk_mem {b : Nat} : b ∈ blkL l i ↔ b < nB l ∧ inB l i b = true := by
 unfold blkL ins inB
 rw [List.mem_filter, List.mem_range]
theorem take_one (h : (blkL l i)[j]? = some b) (x : Nat) : x ∈ (blkL l i).take (j + 1) ↔ x ∈ (blkL l i).take j ∨ x = b := by
 rw [List.take_add_one, h]
 simp
theorem take_not (h : (blkL l i)[j]? = some b) : b ∉ (blkL l i).take j := fun hm => by
 obtain ⟨hjl, hb⟩ := List.getElem?_eq_some_iff.1 h
 rw [List.mem_take_iff_getElem] at hm
 obtain ⟨m, hm1, hm2⟩ := hm
 have := List.pairwise_iff_getElem.1 (@blk_nd l i) m j (by omega) hjl (by omega)
 exact this (hm2.trans hb.symm)
theorem NJ_zero : NJ l i 0 = fun b => inn l b i := by
 funext x
 unfold NJ
 rw [if_neg (by simp)]
theorem NJ_at (h : (blkL l i)[j]? = some b) : NJ l i j b = inn l b i := by
 unfold NJ
 rw [if_neg (take_not h)]
theorem NJ_yes (h : (blkL l i)[j]? = some b) (hc : inn l b i < 0 ∨ (blkL l i).length < (blkL l (inn l b i).toNat).length) : setF (NJ l i j) b (i : Int) = NJ l i (j + 1) := by
 have hb := (blk_mem.1 (List.mem_of_getElem? h)).2
 funext x
 by_cases e : x = b
 ·subst e
  rw [setF_self]
  unfold NJ
  rw [if_pos ((take_one h x).2 (Or.inr rfl))]
  unfold inn
  rw [if_pos ⟨hb, hc⟩]
 ·rw [setF_ne e]
  unfold NJ
  by_cases hx : x ∈ (blkL l i).take j
  ·rw [if_pos hx, if_pos ((take_one h x).2 (Or.inl hx))]
  ·rw [if_neg hx, if_neg (fun k => ((take_one h x).1 k).elim hx e)]
theorem NJ_no (h : (blkL l i)[j]? = some b) (hc : ¬ (inn l b i < 0 ∨ (blkL l i).length < (blkL l (inn l b i).toNat).length)) : NJ l i j = NJ l i (j + 1) := by
 funext x
 unfold NJ
 by_cases hx : x ∈ (blkL l i).take j
 ·rw [if_pos hx, if_pos ((take_one h x).2 (Or.inl hx))]
 ·by_cases e : x = b
  ·subst e
   rw [if_neg hx, if_pos ((take_one h x).2 (Or.inr rfl))]
   rw [inn, if_neg (fun k => hc k.2)]
  ·rw [if_neg hx, if_neg (fun k => ((take_one h x).1 k).elim hx e)]
theorem NJ_all : (List.range (nB l)).map (NJ l i (blkL l i).length) = (List.range (nB l)).map (fun b => inn l b (i + 1)) := by
 apply List.map_congr_left
 intro x hx
 have hx' : x < nB l := by simpa using hx
 unfold NJ
 rw [List.take_length]
 by_cases hm : x ∈ blkL l i
 ·rw [if_pos hm]
 ·rw [if_neg hm]
  have hf : ¬ inB l i x = true := fun k => hm (blk_mem.2 ⟨hx', k⟩)
  rw [inn, if_neg (fun k => hf k.1)]
theorem MJ_zero : (List.range (nB l)).map (MJ l i 0) = List.replicate (nB l) false := rep_map _ _ _ fun b => by unfold MJ; simp
theorem MJ_set (h : (blkL l i)[j]? = some b) : setF (MJ l i j) b true = MJ l i (j + 1) := by
 funext x
 by_cases e : x = b
 ·subst e
  rw [setF_self]
  unfold MJ
  rw [decide_eq_true ((take_one h x).2 (Or.inr rfl))]
 ·rw [setF_ne e]
  unfold MJ
  by_cases hx : x ∈ (blkL l i).take j
  ·rw [decide_eq_true hx, decide_eq_true ((take_one h x).2 (Or.inl hx))]
  ·rw [decide_eq_false hx, decide_eq_false (fun k => ((take_one h x).1 k).elim hx e)]
theorem MJ_all : (List.range (nB l)).map (MJ l i (blkL l i).length) = (List.range (nB l)).map (inB l i) := by
 apply List.map_congr_left
 intro x hx
 have hx' : x < nB l := by simpa using hx
 unfold MJ
 rw [List.take_length]
 cases h : inB l i x with
 | true => rw [decide_eq_true (blk_mem.2 ⟨hx', h⟩)]
 | false => rw [decide_eq_false (fun k => by have := (blk_mem.1 k).2; rw [h] at this; cases this)]
theorem hdd_set : setF (fun b => hdd l b i) (hdN l i) (i : Int) = fun b => hdd l b (i + 1) := by
 funext x
 by_cases e : x = hdN l i
 ·subst e
  rw [setF_self, hdd, if_pos rfl]
 ·rw [setF_ne e, hdd, if_neg (fun k => e k.symm)]
end
theorem rep_snoc (b : Nat) : List.replicate b (-1 : Int) ++ [-1] = List.replicate (b + 1) (-1) := List.replicate_succ'.symm
section
variable {l : List In} {p pw ga m m' : Nat} {wa w w2 : World} {vb vl vo : Value} {vn vh : Sv} {cs : List Sv} {E : Nat → List (Nat × Nat)} {o : Obj}
theorem Rd1.atN (h : Rd1 l p pw ga wa vb vl vo m m' vn vh cs E w) (hg : (w.alloc o).grownBy w2 vn.v.ownBlock) : w2.frozen? ⟨pw, 6, none⟩ = false ∧ w2.cell? ⟨pw, 6, none⟩ = some vn.v := by
 have hp2 := (h.blk.below (bAl (bRefl w) o) h.blk.lt).of_block (hg.block pw (by have := h.blk.lt; simp; omega) (fun e => h.on.ne h.blk (by decide) e.symm))
 exact ⟨hp2.frozen 6, hp2.cell 6⟩
theorem Rd1.atH (h : Rd1 l p pw ga wa vb vl vo m m' vn vh cs E w) (hg : (w.alloc o).grownBy w2 vh.v.ownBlock) : w2.frozen? ⟨pw, 7, none⟩ = false ∧ w2.cell? ⟨pw, 7, none⟩ = some vh.v := by
 have hp2 := (h.blk.below (bAl (bRefl w) o) h.blk.lt).of_block (hg.block pw (by have := h.blk.lt; simp; omega) (fun e => h.oh.ne h.blk (by decide) e.symm))
 exact ⟨hp2.frozen 7, hp2.cell 7⟩
theorem Rd1.atE {W : World} {t : Nat} {s : Sv} (h : Rd1 l p pw ga wa vb vl vo m m' vn vh cs E w) (hb : Below w.heap.size w W) (hs : cs[t]? = some s) (hg : W.grownBy w2 s.v.ownBlock) : w2.cell? ⟨pw, 5, none⟩ = some (.slice (some ⟨ga, 0, none⟩) (nB l) (nB l)) ∧ w2.cell? ⟨ga, t, none⟩ = some s.v ∧ w2.frozen? ⟨ga, t, none⟩ = false := by
 have hso := h.rw.own t s hs
 have hz := hb.size
 have kp : ∀ q T C, Blk w q T C → tCm.T ≠ T → w2.heap[q]? = w.heap[q]? := fun q T C hq hT => (hg.block q (by have := hq.lt; omega) (fun e => hso.ne hq hT e.symm)).trans (hb.block q hq.lt)
 have hp2 := h.blk.of_block (kp _ _ _ h.blk (by decide))
 have ha2 : OwR tCC wa.heap.size w2 (.slice (some ⟨ga, 0, none⟩) (nB l) (nB l)) cs := h.ah.keep fun q hq => by obtain ⟨_, C, hq⟩ := h.ah.blk hq; exact kp q _ C hq (by decide)
 refine ⟨hp2.cell 5, ?_, ha2.frozen t⟩
 have h1 := (ha2.at hs).cell 0 _ rfl
 have e1 : 0 + t * tCC.n + 0 = t := by show 0 + t * 1 + 0 = t; omega
 rw [e1] at h1
 exact h1
end
section
variable {l : List In} {p pw gn cn gh ch Z : Nat} {wa w w2 W : World} {vb vl vo vi va : Value} {cs rs : List Sv} {N N' H : Nat → Int}
theorem Rd2.atI (h : Rd2 l p pw gn cn gh ch Z wa vb vl vo vi va cs rs N H w) (hb : Below w.heap.size w W) (hg : W.grownBy w2 vi.ownBlock) : w2.frozen? ⟨pw, 3, none⟩ = false ∧ w2.cell? ⟨pw, 3, none⟩ = some vi := by
 have hz := hb.size
 have hp2 := (h.blk.below hb h.blk.lt).of_block (hg.block pw (by have := h.blk.lt; omega) (fun e => h.ri.ne h.blk (by decide) e.symm))
 exact ⟨hp2.frozen 3, hp2.cell 3⟩
theorem Rd2.congr (h : Rd2 l p pw gn cn gh ch Z wa vb vl vo vi va cs rs N H w) (e : (List.range (nB l)).map N = (List.range (nB l)).map N') : Rd2 l p pw gn cn gh ch Z wa vb vl vo vi va cs rs N' H w :=
 ⟨h.bel, h.gz, h.blk, h.ah, h.cl, h.rw, e ▸ h.on, h.oh, h.ne, h.ri, h.rr, h.rb⟩
end
theorem ready_ok (w : World) (p : Nat) (l : List In) (h : FinP l p w) : Calls Try.prog 28 #[.pointer (some ⟨p, 0, none⟩)] w (RdyP l p w) := by
 have mix : Try.prog.follows .mixedOrders = true := by kernel_rfl
 have HF := Lib.hid h
 have HG := Lib.hid h.1
 have h512 := h.1.n512
 have h8 : nL l ≤ 8 := h.1.hd8
 have hpos := h.1.pos
 clear h
 unfold RdyP
 go_enter Try.func28, Try.ntmps28
 go_wp2_with fail
 refine (FinP.blocks HF.out).mono ?_
 rintro e w1 ⟨b1, vb, rfl, hB1⟩
 have HB1 := Lib.hid (And.intro b1 hB1)
 clear b1 hB1
 go_wp2_with fail
 refine (FinP.loops (HF.out.below HB1.out.1)).mono ?_
 rintro e w2 ⟨b2, vl, rfl, hL2⟩
 have HB2 := Lib.hid (And.intro (bThen HB1.out.1 b2) (And.intro (HB1.out.2.below b2) hL2))
 clear b2 hL2 HB1
 go_wp2_with fail
 refine (FinP.order (HF.out.below HB2.out.1)).mono ?_
 rintro e wa ⟨b3, vo, rfl, hO3⟩
 have HA := Lib.hid (And.intro (bThen HB2.out.1 b3) (And.intro (HB2.out.2.1.below b3) (And.intro (HB2.out.2.2.below b3) hO3)))
 have HFa := Lib.hid ((HF.out.below HB2.out.1).below b3)
 clear b3 hO3 HB2
 obtain ⟨ab, cb, hvb, vb1, vb2⟩ := HA.out.2.1.form
 obtain ⟨al, cl, hvl, vl1, vl2⟩ := HA.out.2.2.1.form
 have hro : SlX tI p wa vo (nI (ordL l)) := HA.out.2.2.2
 obtain ⟨ra, rcap, hvo, vo1, vo2⟩ := hro.form
 rw [dB_len] at hvb vb1
 rw [dL_len] at hvl vl1
 rw [nI_len, ord_len HG.out] at hvo vo1
 subst hvb hvl hvo
 have hnl : nL l = (heads l).length := rfl
 rw [← hnl] at vl1
 unfold maxLen at vb2 vl2 vo2
 clear hro hnl
 go_upto_region 2 with (fail)
 obtain ⟨pw, hpw⟩ : ∃ x, x = wa.heap.size := ⟨_, rfl⟩
 obtain ⟨w1, hw1⟩ : ∃ x, x = wa.alloc (.cells #[.pointer (some ⟨p, 0, none⟩), .slice ab (nB l) cb, .slice al (heads l).length cl, .slice none 0 0, .slice ra (nB l) rcap, .slice none 0 0, .slice none 0 0, .slice none 0 0, .slice none 0 0] 70) := ⟨_, rfl⟩
 have hbl1 : Blk w1 pw 70 #[.pointer (some ⟨p, 0, none⟩), .slice ab (nB l) cb, .slice al (heads l).length cl, .slice none 0 0, .slice ra (nB l) rcap, .slice none 0 0, .slice none 0 0, .slice none 0 0, .slice none 0 0] := by rw [hw1]; exact Blk.new_at _ _ hpw
 have hb1 : Below wa.heap.size wa w1 := by rw [hw1]; exact bAl (bRefl wa) _
 rw [← hw1, ← hpw]
 have c1 : w1.cell? ⟨pw, 1, none⟩ = some (.slice ab (nB l) cb) := hbl1.cell 1
 have HW1 := Lib.hid (And.intro hbl1 hb1)
 have HPW := Lib.hid hpw
 clear hw1 hbl1 hb1 hpw
 go_upto_region 3 with (refine wpl_make tCC ⟨none, 0, 0⟩ rfl rfl (.tmp 28) (.tmp 28) rfl .i64 .i64 _ _ (nB l) rfl rfl rfl rfl (by show 24 * _ ≤ _; omega) (by unfold maxLen; omega) ?_; intro w2 how hbw hsw; have hbl2 := HW1.out.1.below hbw HW1.out.1.lt; have f5 := hbl2.frozen 5; have c5 : w2.cell? ⟨pw, 5, none⟩ = some (.slice none 0 0) := hbl2.cell 5)
 obtain ⟨ga, hga⟩ : ∃ x, x = w1.heap.size := ⟨_, rfl⟩
 rw [← hga] at how hbw ⊢
 have hwg : wa.heap.size ≤ ga := by have := HW1.out.2.size; omega
 have hgp : pw < ga := by have := HW1.out.1.lt; omega
 obtain ⟨w3, hw3⟩ : ∃ x, x = w2.setCell ⟨pw, 5, none⟩ (.slice (some ⟨ga, 0, none⟩) (nB l) (nB l)) := ⟨_, rfl⟩
 have HR0 := Lib.hid (show Rd1 l p pw ga wa (.slice ab (nB l) cb) (.slice al (heads l).length cl) (.slice ra (nB l) rcap) 0 0 ⟨none, 0, 0⟩ ⟨none, 0, 0⟩ (List.replicate (nB l) ⟨none, 0, 0⟩) (fun c => egs l c 0) w3 by
  rw [hw3]
  exact ⟨(bThen HW1.out.2 (by rw [← hga]; exact hbw)).setCell (by show wa.heap.size ≤ pw; have := HPW.out; omega) _, by have := HPW.out; omega, hbl2.set 5 _, (how.mono hwg).set_other (how.ne hbl2 (by decide)), rws_nil fun _ => rfl, OwR.nil _ _, OwR.nil _ _, fun _ h => by cases h⟩)
 rw [← hw3]
 have c13 : w3.cell? ⟨pw, 1, none⟩ = some (.slice ab (nB l) cb) := HR0.out.blk.cell 1
 clear how hbw hsw hbl2 f5 c5 hga hw3 c1 HW1
 go_wp2
 go_loopw [37] (fun u wr => ∃ (b : Nat) (vn vh : Sv) (cs : List Sv), b ≤ nB l ∧ u = .int .i64 (b : Int) ∧ Hid (Rd1 l p pw ga wa (.slice ab (nB l) cb) (.slice al (heads l).length cl) (.slice ra (nB l) rcap) b b vn vh cs (fun c => egs l c b) wr)) (fun u _ => nB l - (intOf u).toNat)
 case atStart => exact ⟨0, _, _, _, by omega, rfl, HR0.out⟩
 case round =>
  obtain ⟨b, vn, vh, cs, hb, rfl, hR⟩ := hrel
  clear HR0 c13
  obtain ⟨V, rfl⟩ : ∃ V : World, V = wr := ⟨_, rfl⟩
  by_cases hlt : b < nB l
  ·have hlt' : (b : Int) < (nB l : Int) := by omega
   obtain ⟨gb, ob, na, nc, e1, y0, y1, y2, hsn, -⟩ := HA.out.2.1.get (dB_get hlt)
   obtain rfl := e1
   have x0 : V.cell? ⟨gb, ob + b * 3, none⟩ = some (.int .i64 (frF l b : Int)) := (hR.out.bel.cell (World.block_lt_of_cell? _ _ y0)).trans y0
   have x1 : V.cell? ⟨gb, ob + b * 3 + 1, none⟩ = some (.int .i64 (twF l b : Int)) := (hR.out.bel.cell (World.block_lt_of_cell? _ _ y1)).trans y1
   have x2 : V.cell? ⟨gb, ob + b * 3 + 2, none⟩ = some (.slice na (nI (nxt l b)).length nc) := (hR.out.bel.cell (World.block_lt_of_cell? _ _ y2)).trans y2
   obtain ⟨nn, hnn⟩ : ∃ n, n = (nI (nxt l b)).length := ⟨_, rfl⟩
   have hn2 : nn ≤ 2 := by rw [hnn, nI_len]; exact nxt_two l b
   have hsn' : SlX tI p wa (.slice na nn nc) (nI (nxt l b)) := by rw [hnn]; exact hsn
   rw [← hnn] at x2
   have HNN := Lib.hid (And.intro (hnn.trans (nI_len _)) hsn')
   clear y0 y1 y2 hsn hsn' hnn
   go_upto_region 6 with (fail)
   obtain ⟨qx, hqx⟩ : ∃ x, x = V.heap.size := ⟨_, rfl⟩
   obtain ⟨V1, hV1⟩ : ∃ x, x = V.alloc (.cells #[.int .i64 (frF l b : Int), .int .i64 (twF l b : Int), .slice na nn nc] 72) := ⟨_, rfl⟩
   rw [← hV1, ← hqx]
   have HX1 := Lib.hid (show Blk V1 qx 72 #[.int .i64 (frF l b : Int), .int .i64 (twF l b : Int), .slice na nn nc] by rw [hV1]; exact Blk.new_at _ _ hqx)
   have HR1 := Lib.hid (hR.out.below (show Below V.heap.size V V1 by rw [hV1]; exact bAl (bRefl V) _))
   obtain ⟨na', nn', nc'⟩ := vn
   have c6 : V1.cell? ⟨pw, 6, none⟩ = some (.slice na' nn' nc') := HR1.out.blk.cell 6
   have hz1 := HR1.out.bel.size
   clear hV1 hqx hR x0 x1 x2
   go_upto_region 7 with (at_builtin; refine wpl_pushL tI rfl (.tmp 46) (.tmp 47) rfl wa.heap.size (.slice na' nn' nc') (List.replicate b (-1)) rfl (HR1.out.on.alloc _) _ 0 1 1 [-1] rfl rfl (Nat.succ_pos _) (rangeNew (by rfl) (by rfl)) (by unfold maxLen; simp; omega) (by show _ * 8 ≤ _; simp; omega) (by simp; omega) ?_; intro g6 c6' w6 hown6 hgrow6 hlies6; obtain ⟨f6, c66⟩ := HR1.out.atN hgrow6)
   obtain ⟨V2, hV2⟩ : ∃ x, x = w6.setCell ⟨pw, 6, none⟩ (.slice (some ⟨g6, 0, none⟩) (b + 1) c6') := ⟨_, rfl⟩
   have hown6' : OwR tI wa.heap.size w6 (.slice (some ⟨g6, 0, none⟩) (b + 1) c6') (List.replicate (b + 1) (-1)) := by
    have h1 := hown6
    rw [List.length_replicate, rep_snoc] at h1
    exact h1
   have HR2 := Lib.hid (show Rd1 l p pw ga wa _ _ _ (b + 1) b ⟨some ⟨g6, 0, none⟩, b + 1, c6'⟩ vh cs _ V2 by rw [hV2]; exact HR1.out.pushN hgrow6 hown6' hlies6)
   have HX2 := Lib.hid (show Blk V2 qx 72 _ by
    rw [hV2]
    exact blk_chg HX1.out (chg_push (bAl (bRefl V1) _) hgrow6 pw 6 _) (by
     rintro (e | hk)
     ·subst e; exact blk_ne HX1.out HR1.out.blk (by decide) rfl
     ·exact HR1.out.on.ne HX1.out (by decide) hk))
   rw [← hV2]
   obtain ⟨ha', hn', hc'⟩ := vh
   have c7 : V2.cell? ⟨pw, 7, none⟩ = some (.slice ha' hn' hc') := HR2.out.blk.cell 7
   have hz2 := HR2.out.bel.size
   clear hV2 hown6 hown6' hgrow6 hlies6 f6 c66 HR1 HX1 c6 hz1
   go_upto_region 8 with (at_builtin; refine wpl_pushL tI rfl (.tmp 55) (.tmp 56) rfl wa.heap.size (.slice ha' hn' hc') (List.replicate b (-1)) rfl (HR2.out.oh.alloc _) _ 0 1 1 [-1] rfl rfl (Nat.succ_pos _) (rangeNew (by rfl) (by rfl)) (by unfold maxLen; simp; omega) (by show _ * 8 ≤ _; simp; omega) (by simp; omega) ?_; intro g7 c7' w7 hown7 hgrow7 hlies7; obtain ⟨f7, c77⟩ := HR2.out.atH hgrow7)
   obtain ⟨V3, hV3⟩ : ∃ x, x = w7.setCell ⟨pw, 7, none⟩ (.slice (some ⟨g7, 0, none⟩) (b + 1) c7') := ⟨_, rfl⟩
   have hown7' : OwR tI wa.heap.size w7 (.slice (some ⟨g7, 0, none⟩) (b + 1) c7') (List.replicate (b + 1) (-1)) := by
    have h1 := hown7
    rw [List.length_replicate, rep_snoc] at h1
    exact h1
   have HR3 := Lib.hid (show Rd1 l p pw ga wa _ _ _ (b + 1) (b + 1) ⟨some ⟨g6, 0, none⟩, b + 1, c6'⟩ ⟨some ⟨g7, 0, none⟩, b + 1, c7'⟩ cs (eg2 l b 0) V3 by rw [hV3, ← eg2_zero]; exact HR2.out.pushH hgrow7 hown7' hlies7)
   have HX3 := Lib.hid (show Blk V3 qx 72 _ by
    rw [hV3]
    exact blk_chg HX2.out (chg_push (bAl (bRefl V2) _) hgrow7 pw 7 _) (by
     rintro (e | hk)
     ·subst e; exact blk_ne HX2.out HR2.out.blk (by decide) rfl
     ·exact HR2.out.oh.ne HX2.out (by decide) hk))
   rw [← hV3]
   have cx : V3.cell? ⟨qx, 2, none⟩ = some (.slice na nn nc) := HX3.out.cell 2
   clear hV3 hown7 hown7' hgrow7 hlies7 f7 c77 HR2 HX2 c7 hz2 HX3
   go_wp2
   go_loopw [63] (fun u wr => ∃ (k : Nat) (cs : List Sv), k ≤ nn ∧ u = .int .i64 (k : Int) ∧ Hid (Rd1 l p pw ga wa (.slice (some ⟨gb, ob, none⟩) (nB l) cb) (.slice al (heads l).length cl) (.slice ra (nB l) rcap) (b + 1) (b + 1) ⟨some ⟨g6, 0, none⟩, b + 1, c6'⟩ ⟨some ⟨g7, 0, none⟩, b + 1, c7'⟩ cs (eg2 l b k) wr)) (fun u _ => nn - (intOf u).toNat)
   case atStart => exact ⟨0, _, by omega, rfl, HR3.out⟩
   case round =>
    clear HR3 cx cs
    obtain ⟨k, cs, hk, rfl, hR⟩ := hrel
    obtain ⟨U, rfl⟩ : ∃ V : World, V = wr := ⟨_, rfl⟩
    by_cases hlk : k < nn
    ·have hlk' : (k : Int) < (nn : Int) := by omega
     obtain ⟨tg, htg⟩ : ∃ x, x = (nxt l b).getD k 0 := ⟨_, rfl⟩
     have htn : tg < nB l := by rw [htg]; exact nx_lt HG.out hlt (by rw [← HNN.out.1]; exact hlk)
     have htn' : (tg : Int) < (nB l : Int) := by omega
     obtain ⟨gn, on, rfl, -, -, cxw⟩ := SlX.int HNN.out.2 (nI_at (show k < (nxt l b).length by rw [← HNN.out.1]; exact hlk))
     rw [← htg] at cxw
     have cn : U.cell? ⟨gn, on + k, none⟩ = some (.int .i64 (tg : Int)) := (hR.out.bel.cell (World.block_lt_of_cell? _ _ cxw)).trans cxw
     have HTg := Lib.hid htg
     clear htg cxw
     go_upto_region 11 with (fail)
     clear cn
     obtain ⟨⟨sa, sn, sc⟩, hs⟩ : ∃ s, cs[tg]? = some s := ⟨_, List.getElem?_eq_getElem (by rw [hR.out.len]; exact htn)⟩
     have c5 : U.cell? ⟨pw, 5, none⟩ = some (.slice (some ⟨ga, 0, none⟩) (nB l) (nB l)) := hR.out.blk.cell 5
     have ct : U.cell? ⟨ga, tg, none⟩ = some (.slice sa sn sc) := by
      have h1 := (hR.out.ah.at hs).cell 0 _ rfl
      have e1 : 0 + tg * tCC.n + 0 = tg := by show 0 + tg * 1 + 0 = tg; omega
      rw [e1] at h1
      exact h1
     have cv : U.drew.cell? ⟨pw, 5, none⟩ = some (.slice (some ⟨ga, 0, none⟩) (nB l) (nB l)) ∧ U.drew.cell? ⟨ga, tg, none⟩ = some (.slice sa sn sc) := ⟨c5, ct⟩
     refine wp_region_last 18 (fun w' => w'.cell? ⟨pw, 5, none⟩ = some (.slice (some ⟨ga, 0, none⟩) (nB l) (nB l)) ∧ w'.cell? ⟨ga, tg, none⟩ = some (.slice sa sn sc)) mix ?_
     refine wpAnyL_take (i := 0) (v := .pointer (some ⟨pw, 0, none⟩)) rfl (by kernel_rfl) (by kernel_rfl) (by kernel_rfl) (fun _ _ _ h => h) rfl (by kernel_rfl) (Or.inl ⟨by rfl, fun w' hw' => by (try go_split_ands); go_simp⟩) cv ?_
     simp only [Act.put, List.getElem_toArray, List.getElem_cons_zero, List.setIfInBounds_toArray, List.set_cons_zero, List.set_cons_succ]
     refine wpAnyL_take (i := 1) (v := .pointer (some ⟨pw, 0, none⟩)) rfl (by kernel_rfl) (by kernel_rfl) (by kernel_rfl) (fun _ _ _ h => h) rfl (by kernel_rfl) (Or.inl ⟨by rfl, fun w' hw' => by (try go_split_ands); go_simp⟩) cv ?_
     simp only [Act.put, List.getElem_toArray, List.getElem_cons_zero, List.getElem_cons_succ, List.setIfInBounds_toArray, List.set_cons_zero, List.set_cons_succ]
     refine wpAnyL_take (i := 2) (v := .pointer (some ⟨pw, 5, none⟩)) rfl (by kernel_rfl) (by kernel_rfl) (by kernel_rfl) (fun _ _ _ h => h) rfl (by kernel_rfl) (Or.inl ⟨by rfl, fun w' hw' => by (try go_split_ands); go_simp⟩) cv ?_
     simp only [Act.put, List.getElem_toArray, List.getElem_cons_zero, List.getElem_cons_succ, List.setIfInBounds_toArray, List.set_cons_zero, List.set_cons_succ]
     refine wpAnyL_take (i := 3) (v := .slice (some ⟨ga, 0, none⟩) (nB l) (nB l)) rfl (by kernel_rfl) (by kernel_rfl) (by kernel_rfl) (fun _ _ _ h => h) rfl (by kernel_rfl) (Or.inl ⟨by rfl, fun w' hw' => by (try go_split_ands); go_simp⟩) cv ?_
     simp only [Act.put, List.getElem_toArray, List.getElem_cons_zero, List.getElem_cons_succ, List.setIfInBounds_toArray, List.set_cons_zero, List.set_cons_succ]
     refine wpAnyL_take (i := 4) (v := .int .i64 (tg : Int)) rfl (by kernel_rfl) (by kernel_rfl) (by kernel_rfl) (fun _ _ _ h => h) rfl (by kernel_rfl) (Or.inl ⟨by rfl, fun w' hw' => by (try go_split_ands); go_simp⟩) cv ?_
     simp only [Act.put, List.getElem_toArray, List.getElem_cons_zero, List.getElem_cons_succ, List.setIfInBounds_toArray, List.set_cons_zero, List.set_cons_succ]
     refine wpAnyL_take (i := 5) (v := .pointer (some ⟨pw, 0, none⟩)) rfl (by kernel_rfl) (by kernel_rfl) (by kernel_rfl) (fun _ _ _ h => h) rfl (by kernel_rfl) (Or.inl ⟨by rfl, fun w' hw' => by (try go_split_ands); go_simp⟩) cv ?_
     simp only [Act.put, List.getElem_toArray, List.getElem_cons_zero, List.getElem_cons_succ, List.setIfInBounds_toArray, List.set_cons_zero, List.set_cons_succ]
     refine wpAnyL_take (i := 6) (v := .pointer (some ⟨pw, 0, none⟩)) rfl (by kernel_rfl) (by kernel_rfl) (by kernel_rfl) (fun _ _ _ h => h) rfl (by kernel_rfl) (Or.inl ⟨by rfl, fun w' hw' => by (try go_split_ands); go_simp⟩) cv ?_
     simp only [Act.put, List.getElem_toArray, List.getElem_cons_zero, List.getElem_cons_succ, List.setIfInBounds_toArray, List.set_cons_zero, List.set_cons_succ]
     refine wpAnyL_take (i := 7) (v := .pointer (some ⟨pw, 5, none⟩)) rfl (by kernel_rfl) (by kernel_rfl) (by kernel_rfl) (fun _ _ _ h => h) rfl (by kernel_rfl) (Or.inl ⟨by rfl, fun w' hw' => by (try go_split_ands); go_simp⟩) cv ?_
     simp only [Act.put, List.getElem_toArray, List.getElem_cons_zero, List.getElem_cons_succ, List.setIfInBounds_toArray, List.set_cons_zero, List.set_cons_succ]
     refine wpAnyL_take (i := 8) (v := .slice (some ⟨ga, 0, none⟩) (nB l) (nB l)) rfl (by kernel_rfl) (by kernel_rfl) (by kernel_rfl) (fun _ _ _ h => h) rfl (by kernel_rfl) (Or.inl ⟨by rfl, fun w' hw' => by (try go_split_ands); go_simp⟩) cv ?_
     simp only [Act.put, List.getElem_toArray, List.getElem_cons_zero, List.getElem_cons_succ, List.setIfInBounds_toArray, List.set_cons_zero, List.set_cons_succ]
     refine wpAnyL_take (i := 9) (v := .int .i64 (tg : Int)) rfl (by kernel_rfl) (by kernel_rfl) (by kernel_rfl) (fun _ _ _ h => h) rfl (by kernel_rfl) (Or.inl ⟨by rfl, fun w' hw' => by (try go_split_ands); go_simp⟩) cv ?_
     simp only [Act.put, List.getElem_toArray, List.getElem_cons_zero, List.getElem_cons_succ, List.setIfInBounds_toArray, List.set_cons_zero, List.set_cons_succ]
     refine wpAnyL_take (i := 10) (v := .pointer (some ⟨ga, tg, none⟩)) rfl (by kernel_rfl) (by kernel_rfl) (by kernel_rfl) (fun _ _ _ h => h) rfl (by kernel_rfl) (Or.inl ⟨by rfl, fun w' hw' => by (try go_split_ands); go_simp⟩) cv ?_
     simp only [Act.put, List.getElem_toArray, List.getElem_cons_zero, List.getElem_cons_succ, List.setIfInBounds_toArray, List.set_cons_zero, List.set_cons_succ]
     refine wpAnyL_take (i := 11) (v := .slice sa sn sc) rfl (by kernel_rfl) (by kernel_rfl) (by kernel_rfl) (fun _ _ _ h => h) rfl (by kernel_rfl) (Or.inl ⟨by rfl, fun w' hw' => by (try go_split_ands); go_simp⟩) cv ?_
     simp only [Act.put, List.getElem_toArray, List.getElem_cons_zero, List.getElem_cons_succ, List.setIfInBounds_toArray, List.set_cons_zero, List.set_cons_succ]
     refine wpAnyL_take (i := 12) (v := .int .i64 (b : Int)) rfl (by kernel_rfl) (by kernel_rfl) (by kernel_rfl) (fun _ _ _ h => h) rfl (by kernel_rfl) (Or.inl ⟨by rfl, fun w' hw' => by (try go_split_ands); go_simp⟩) cv ?_
     simp only [Act.put, List.getElem_toArray, List.getElem_cons_zero, List.getElem_cons_succ, List.setIfInBounds_toArray, List.set_cons_zero, List.set_cons_succ]
     refine wpAnyL_take (i := 13) (v := .int .i64 (k : Int)) rfl (by kernel_rfl) (by kernel_rfl) (by kernel_rfl) (fun _ _ _ h => h) rfl (by kernel_rfl) (Or.inl ⟨by rfl, fun w' hw' => by (try go_split_ands); go_simp⟩) cv ?_
     simp only [Act.put, List.getElem_toArray, List.getElem_cons_zero, List.getElem_cons_succ, List.setIfInBounds_toArray, List.set_cons_zero, List.set_cons_succ]
     refine wpAnyL_take (i := 14) (v := .agg #[.int .i64 (b : Int), .int .i64 (k : Int)]) rfl (by kernel_rfl) (by kernel_rfl) (by kernel_rfl) (fun _ _ _ h => h) rfl (by kernel_rfl) (Or.inl ⟨by rfl, fun w' hw' => by (try go_split_ands); go_simp⟩) cv ?_
     simp only [Act.put, List.getElem_toArray, List.getElem_cons_zero, List.getElem_cons_succ, List.setIfInBounds_toArray, List.set_cons_zero, List.set_cons_succ]
     refine wpAnyL_one (i := 15) (by kernel_rfl) rfl (fun K hK => ?_)
     go_simp
     obtain ⟨W, hW⟩ : ∃ x, x = (U.alloc (.cells #[.int .i64 (b : Int), .int .i64 (k : Int)] 107)).drew := ⟨_, rfl⟩
     have hbW : Below U.heap.size U W := by rw [hW]; exact (bAl (bRefl U) _).drew
     have HN := Lib.hid (show Blk W U.heap.size 107 #[.int .i64 (b : Int), .int .i64 (k : Int)] by rw [hW]; exact (Blk.new U 107 _).drew)
     rw [← hW]
     have cvW : W.cell? ⟨pw, 5, none⟩ = some (.slice (some ⟨ga, 0, none⟩) (nB l) (nB l)) ∧ W.cell? ⟨ga, tg, none⟩ = some (.slice sa sn sc) := ⟨(hbW.cell (World.block_lt_of_cell? _ _ c5)).trans c5, (hbW.cell (World.block_lt_of_cell? _ _ ct)).trans ct⟩
     refine hK.out _ _ (fun _ => cvW) ?_
     clear hK K
     have hzU := hR.out.bel.size
     have hzW := hbW.size
     refine wpAnyL_one (i := 16) (by kernel_rfl) rfl (fun K hK => ?_)
     refine step_pushL tCm rfl (.tmp 79) (.tmp 83) rfl wa.heap.size (.slice sa sn sc) (eg2 l b k tg) (by rfl) ((hR.out.rw.own tg _ hs).below hbW) U.heap.size 0 1 1 [(b, k)] (by rfl) rfl (Nat.succ_pos _) (rangeBlk HN.out (by rfl)) (by have := @eg2_le l b k tg; simp; unfold maxLen; omega) (by have := @eg2_le l b k tg; show _ * 16 ≤ _; simp; omega) (by omega) ?_
     intro g9 c9 w9 hown9 hgrow9 hlies9
     obtain ⟨d5, dt, fr9⟩ := hR.out.atE hbW hs hgrow9
     simp only [Act.put, List.setIfInBounds_toArray]
     refine hK.out _ _ (fun _ => ⟨d5, dt⟩) ?_
     clear hK K
     have cv9 : w9.cell? ⟨pw, 5, none⟩ = some (.slice (some ⟨ga, 0, none⟩) (nB l) (nB l)) ∧ w9.cell? ⟨ga, tg, none⟩ = some (.slice sa sn sc) := ⟨d5, dt⟩
     refine wpAnyL_one (i := 17) (by kernel_rfl) rfl (fun K hK => ?_)
     go_simp
     refine hK.out _ _ (fun _ => cv9) ?_
     clear hK K
     refine wpAnyL_one (i := 18) (by kernel_rfl) rfl (fun K hK => ?_)
     go_simp
     refine hK.out _ _ (fun h => absurd rfl h) ?_
     clear hK K
     refine wpAnyL_done (by kernel_rfl) ?_ _
     have HR5 := Lib.hid (hR.out.pushE (E' := eg2 l b (k + 1)) hbW hs hgrow9 hown9 hlies9 (by rw [HTg.out]; exact eg2_yes) (fun j hj => eg2_no (by rw [← HTg.out]; exact hj)))
     clear cv9 fr9 dt d5 hlies9 hgrow9 hown9 hzW hzU cvW HN hbW hW cv ct c5 hs hR
     go_wp2
     go_roundw
     all_goals first
      | exact ⟨k + 1, _, by omega, by go_num, HR5.out⟩
      | ((repeat apply Exists.intro); exact ⟨⟨k + 1, _, by omega, by go_num, HR5.out⟩, rfl⟩)
      | (simp [intOf] <;> omega)
    ·have hke : k = nn := by omega
     have hlk' : ¬ (k : Int) < (nn : Int) := by omega
     have HR4 := Lib.hid (show Rd1 l p pw ga wa (.slice (some ⟨gb, ob, none⟩) (nB l) cb) (.slice al (heads l).length cl) (.slice ra (nB l) rcap) (b + 1) (b + 1) ⟨some ⟨g6, 0, none⟩, b + 1, c6'⟩ ⟨some ⟨g7, 0, none⟩, b + 1, c7'⟩ cs (fun c => egs l c (b + 1)) U by
      have h1 := hR.out
      rw [hke, HNN.out.1, eg2_all] at h1
      exact h1)
     clear hR hke
     go_wp2
     go_roundw
     all_goals first
      | exact ⟨b + 1, _, _, _, by omega, by go_num, HR4.out⟩
      | ((repeat apply Exists.intro); exact ⟨⟨b + 1, _, _, _, by omega, by go_num, HR4.out⟩, rfl⟩)
      | (simp [intOf] <;> omega)
  ·have hbe : b = nB l := by omega
   have hlt' : ¬ (b : Int) < (nB l : Int) := by omega
   subst hbe
   clear hlt
   have HR1 := hR.out
   obtain ⟨na', nn', nc'⟩ := vn
   obtain ⟨ha', hn', hc'⟩ := vh
   rcases HR1.on.form with ⟨_, e⟩ | ⟨gn, cn, e, hcn, -, -⟩
   ·exact absurd (congrArg List.length e) (by simp; omega)
   rcases HR1.oh.form with ⟨_, e'⟩ | ⟨gh, ch, e', hch, -, -⟩
   ·exact absurd (congrArg List.length e') (by simp; omega)
   rw [List.length_replicate] at e e'
   unfold Sv.v at e e'
   simp only at e e'
   injection e with e1 e2 e3
   injection e' with e4 e5 e6
   subst e1 e2 e3 e4 e5 e6
   have HS0 := Lib.hid (show Rd2 l p pw gn nc' gh hc' V.heap.size wa (.slice ab (nB l) cb) (.slice al (heads l).length cl) (.slice ra (nB l) rcap) (.slice none 0 0) (.slice (some ⟨ga, 0, none⟩) (nB l) (nB l)) cs [] (fun b => inn l b 0) (fun b => hdd l b 0) V from
    ⟨HR1.bel, HR1.gz, HR1.blk, HR1.ah, HR1.len, HR1.rw, by rw [rep_map (nB l) (-1) (fun b => inn l b 0) fun _ => rfl]; exact HR1.on, by rw [rep_map (nB l) (-1) (fun b => hdd l b 0) fun _ => rfl]; exact HR1.oh, fun e => HR1.ap gn rfl (by rw [e]; rfl), OwR.nil _ _, Rws.nil, fun i s h => by simp at h⟩)
   have c2 : V.cell? ⟨pw, 2, none⟩ = some (.slice al (heads l).length cl) := HR1.blk.cell 2
   clear HR1 hR hcn hch
   go_wp2
   go_loopw [93] (fun u wr => ∃ (i : Nat) (vi : Value) (rs : List Sv), i ≤ nL l ∧ u = .int .i64 (i : Int) ∧ Hid (rs.length = i ∧ Rd2 l p pw gn nc' gh hc' wr.heap.size wa (.slice ab (nB l) cb) (.slice al (heads l).length cl) (.slice ra (nB l) rcap) vi (.slice (some ⟨ga, 0, none⟩) (nB l) (nB l)) cs rs (fun b => inn l b i) (fun b => hdd l b i) wr)) (fun u _ => nL l - (intOf u).toNat)
   case atStart => exact ⟨0, _, [], by omega, rfl, rfl, HS0.out⟩
   case round =>
    clear HS0 c2
    obtain ⟨i, vi, rs, hi, rfl, hR⟩ := hrel
    obtain ⟨V, rfl⟩ : ∃ V : World, V = wr := ⟨_, rfl⟩
    by_cases hlt : i < nL l
    ·have hlt' : (i : Int) < ((heads l).length : Int) := by show (i : Int) < (nL l : Int); omega
     obtain ⟨gl, ol, ba, bc, e1, y0, y2, y1, hsb, -⟩ := HA.out.2.2.1.get (dL_get hlt)
     obtain rfl := e1
     obtain ⟨hd, hhd⟩ : ∃ x, x = hdN l i := ⟨_, rfl⟩
     obtain ⟨bn, hbn⟩ : ∃ x, x = (blkL l i).length := ⟨_, rfl⟩
     obtain ⟨pa, hpa⟩ : ∃ x, x = parK l i (heads l).length := ⟨_, rfl⟩
     have hdn : hd < nB l := by rw [hhd]; exact (heads_of l hlt).1
     have hbz : bn ≤ 512 := by rw [hbn]; unfold blkL; exact Nat.le_trans (ins_len _ _) h512
     have y0' : wa.cell? ⟨gl, ol + i * 3, none⟩ = some (.int .i64 (hd : Int)) := by rw [hhd]; exact y0
     have y1' : wa.cell? ⟨gl, ol + i * 3 + 1, none⟩ = some (.slice ba bn bc) := by rw [hbn]; have := y1; rw [nI_len] at this; exact this
     have y2' : wa.cell? ⟨gl, ol + i * 3 + 2, none⟩ = some (.int .i64 pa) := by rw [hpa]; exact y2
     have x0 : V.cell? ⟨gl, ol + i * 3, none⟩ = some (.int .i64 (hd : Int)) := (hR.out.2.bel.cell (World.block_lt_of_cell? _ _ y0')).trans y0'
     have x1 : V.cell? ⟨gl, ol + i * 3 + 1, none⟩ = some (.slice ba bn bc) := (hR.out.2.bel.cell (World.block_lt_of_cell? _ _ y1')).trans y1'
     have x2 : V.cell? ⟨gl, ol + i * 3 + 2, none⟩ = some (.int .i64 pa) := (hR.out.2.bel.cell (World.block_lt_of_cell? _ _ y2')).trans y2'
     have hsb' : SlX tI p wa (.slice ba bn bc) (nI (blkL l i)) := by rw [hbn]; have := hsb; rw [nI_len] at this; exact this
     have HNN := Lib.hid (And.intro hbn (And.intro hsb' hhd))
     clear y0 y1 y2 y0' y1' y2' hsb hsb' hbn hhd hpa
     go_upto_region 17 with (fail)
     obtain ⟨qx, hqx⟩ : ∃ x, x = V.heap.size := ⟨_, rfl⟩
     obtain ⟨V1, hV1⟩ : ∃ x, x = V.alloc (.cells #[.int .i64 (hd : Int), .slice ba bn bc, .int .i64 pa] 94) := ⟨_, rfl⟩
     rw [← hV1, ← hqx]
     have HX1 := Lib.hid (show Blk V1 qx 94 #[.int .i64 (hd : Int), .slice ba bn bc, .int .i64 pa] by rw [hV1]; exact Blk.new_at _ _ hqx)
     have hb1 : Below V.heap.size V V1 := by rw [hV1]; exact bAl (bRefl V) _
     have HR1 := Lib.hid (hR.out.2.below hb1)
     have HRV := Lib.hid (And.intro hR.out.1 hR.out.2)
     have hzV := hR.out.2.bel.size
     have hz1 : V.heap.size ≤ V1.heap.size := hb1.size
     have c71 : V1.cell? ⟨pw, 7, none⟩ = some (.slice (some ⟨gh, 0, none⟩) (nB l) hc') := HR1.out.blk.cell 7
     have cx0 : V1.cell? ⟨qx, 0, none⟩ = some (.int .i64 (hd : Int)) := HX1.out.cell 0
     have hdi : (hd : Int) < (nB l : Int) := by omega
     have ch1 := OwR.int HR1.out.oh (k := hd) (x := hdd l hd i) (by rw [List.getElem?_map, List.getElem?_range hdn]; rfl)
     have fh1 := HR1.out.oh.frozen hd
     have HR2 := Lib.hid (HR1.out.setH (x := (i : Int)) hdn)
     have HX2 := Lib.hid (show Blk (V1.setCell ⟨gh, hd, none⟩ (.int .i64 (i : Int))) qx 94 _ from blk_chg HX1.out (chg_set (bRefl V1) gh hd _) (fun e => by
      obtain ⟨_, C, hgb⟩ := HR1.out.oh.blk (g := gh) rfl
      subst e
      exact blk_ne HX1.out hgb (by decide) rfl))
     have HQ := Lib.hid hqx
     clear hV1 hR x0 x1 x2 hb1 hqx
     have cv : V1.drew.cell? ⟨pw, 7, none⟩ = some (.slice (some ⟨gh, 0, none⟩) (nB l) hc') ∧ V1.drew.cell? ⟨qx, 0, none⟩ = some (.int .i64 (hd : Int)) := ⟨c71, cx0⟩
     refine wp_region_last 8 (fun w' => w'.cell? ⟨pw, 7, none⟩ = some (.slice (some ⟨gh, 0, none⟩) (nB l) hc') ∧ w'.cell? ⟨qx, 0, none⟩ = some (.int .i64 (hd : Int))) mix ?_
     refine wpAnyL_take (i := 0) (v := .pointer (some ⟨pw, 0, none⟩)) rfl (by kernel_rfl) (by kernel_rfl) (by kernel_rfl) (fun _ _ _ h => h) rfl (by kernel_rfl) (Or.inl ⟨by rfl, fun w' hw' => by (try go_split_ands); go_simp⟩) cv ?_
     simp only [Act.put, List.getElem_toArray, List.getElem_cons_zero, List.setIfInBounds_toArray, List.set_cons_zero, List.set_cons_succ]
     refine wpAnyL_take (i := 1) (v := .pointer (some ⟨pw, 0, none⟩)) rfl (by kernel_rfl) (by kernel_rfl) (by kernel_rfl) (fun _ _ _ h => h) rfl (by kernel_rfl) (Or.inl ⟨by rfl, fun w' hw' => by (try go_split_ands); go_simp⟩) cv ?_
     simp only [Act.put, List.getElem_toArray, List.getElem_cons_zero, List.getElem_cons_succ, List.setIfInBounds_toArray, List.set_cons_zero, List.set_cons_succ]
     refine wpAnyL_take (i := 2) (v := .pointer (some ⟨pw, 7, none⟩)) rfl (by kernel_rfl) (by kernel_rfl) (by kernel_rfl) (fun _ _ _ h => h) rfl (by kernel_rfl) (Or.inl ⟨by rfl, fun w' hw' => by (try go_split_ands); go_simp⟩) cv ?_
     simp only [Act.put, List.getElem_toArray, List.getElem_cons_zero, List.getElem_cons_succ, List.setIfInBounds_toArray, List.set_cons_zero, List.set_cons_succ]
     refine wpAnyL_take (i := 3) (v := .slice (some ⟨gh, 0, none⟩) (nB l) hc') rfl (by kernel_rfl) (by kernel_rfl) (by kernel_rfl) (fun _ _ _ h => h) rfl (by kernel_rfl) (Or.inl ⟨by rfl, fun w' hw' => by (try go_split_ands); go_simp⟩) cv ?_
     simp only [Act.put, List.getElem_toArray, List.getElem_cons_zero, List.getElem_cons_succ, List.setIfInBounds_toArray, List.set_cons_zero, List.set_cons_succ]
     refine wpAnyL_take (i := 4) (v := .pointer (some ⟨qx, 0, none⟩)) rfl (by kernel_rfl) (by kernel_rfl) (by kernel_rfl) (fun _ _ _ h => h) rfl (by kernel_rfl) (Or.inl ⟨by rfl, fun w' hw' => by (try go_split_ands); go_simp⟩) cv ?_
     simp only [Act.put, List.getElem_toArray, List.getElem_cons_zero, List.getElem_cons_succ, List.setIfInBounds_toArray, List.set_cons_zero, List.set_cons_succ]
     refine wpAnyL_take (i := 5) (v := .int .i64 (hd : Int)) rfl (by kernel_rfl) (by kernel_rfl) (by kernel_rfl) (fun _ _ _ h => h) rfl (by kernel_rfl) (Or.inl ⟨by rfl, fun w' hw' => by (try go_split_ands); go_simp⟩) cv ?_
     simp only [Act.put, List.getElem_toArray, List.getElem_cons_zero, List.getElem_cons_succ, List.setIfInBounds_toArray, List.set_cons_zero, List.set_cons_succ]
     refine wpAnyL_take (i := 6) (v := .int .i64 (i : Int)) rfl (by kernel_rfl) (by kernel_rfl) (by kernel_rfl) (fun _ _ _ h => h) rfl (by kernel_rfl) (Or.inl ⟨by rfl, fun w' hw' => by (try go_split_ands); go_simp⟩) cv ?_
     simp only [Act.put, List.getElem_toArray, List.getElem_cons_zero, List.getElem_cons_succ, List.setIfInBounds_toArray, List.set_cons_zero, List.set_cons_succ]
     refine wpAnyL_one (i := 7) (by kernel_rfl) rfl (fun K hK => ?_)
     go_simp
     refine hK.out _ _ (fun _ => cv) ?_
     clear hK K
     refine wpAnyL_one (i := 8) (by kernel_rfl) rfl (fun K hK => ?_)
     go_simp
     refine hK.out _ _ (fun h => absurd rfl h) ?_
     clear hK K
     refine wpAnyL_done (by kernel_rfl) ?_ _
     obtain ⟨V2, hV2⟩ : ∃ x, x = (V1.setCell ⟨gh, hd, none⟩ (.int .i64 (i : Int))).drew := ⟨_, rfl⟩
     have HR3 := Lib.hid (show Rd2 l p pw gn nc' gh hc' V.heap.size wa (.slice ab (nB l) cb) (.slice (some ⟨gl, ol, none⟩) (heads l).length cl) (.slice ra (nB l) rcap) vi (.slice (some ⟨ga, 0, none⟩) (nB l) (nB l)) cs rs (NJ l i 0) (fun b => hdd l b (i + 1)) V2 by
      have h1 := HR2.out.below (bRefl _).drew
      rw [← hV2, HNN.out.2.2, hdd_set, ← NJ_zero] at h1
      exact h1)
     have HX3 := Lib.hid (show Blk V2 qx 94 #[.int .i64 (hd : Int), .slice ba bn bc, .int .i64 pa] by rw [hV2]; exact HX2.out.drew)
     rw [← hV2]
     have hz2 : V1.heap.size ≤ V2.heap.size := by rw [hV2]; simp
     have c12 : V2.cell? ⟨pw, 1, none⟩ = some (.slice ab (nB l) cb) := HR3.out.blk.cell 1
     clear hV2 HR2 HX2 HR1 HX1 cv fh1 ch1 cx0 c71
     go_upto_region 19 with (refine wpl_make tB false rfl rfl (.tmp 110) (.tmp 110) rfl .i64 .i64 _ _ (nB l) rfl rfl rfl rfl (by show 1 * _ ≤ _; omega) (by unfold maxLen; omega) ?_; intro V3 how hbw hsw)
     obtain ⟨gi, hgi⟩ : ∃ x, x = V2.heap.size := ⟨_, rfl⟩
     have hVg : V.heap.size ≤ gi := by omega
     have HR4 := Lib.hid (HR3.out.below hbw)
     have HX4 := Lib.hid (HX3.out.below hbw HX3.out.lt)
     rw [← hgi] at how hbw ⊢
     have HM4 := Lib.hid (show OwR tB V.heap.size V3 (.slice (some ⟨gi, 0, none⟩) (nB l) (nB l)) ((List.range (nB l)).map (MJ l i 0)) by rw [MJ_zero]; exact how.mono hVg)
     have cx1 : V3.cell? ⟨qx, 1, none⟩ = some (.slice ba bn bc) := HX4.out.cell 1
     have HGi := Lib.hid (And.intro hzV hVg)
     clear how hbw hsw hgi HR3 HX3 c12 hz1 hz2 hzV hVg
     go_wp2
     go_loopw [115] (fun u wr => ∃ (j : Nat), j ≤ bn ∧ u = .int .i64 (j : Int) ∧ Hid (Rd2 l p pw gn nc' gh hc' V.heap.size wa (.slice ab (nB l) cb) (.slice (some ⟨gl, ol, none⟩) (heads l).length cl) (.slice ra (nB l) rcap) vi (.slice (some ⟨ga, 0, none⟩) (nB l) (nB l)) cs rs (NJ l i j) (fun b => hdd l b (i + 1)) wr) ∧ Hid (OwR tB V.heap.size wr (.slice (some ⟨gi, 0, none⟩) (nB l) (nB l)) ((List.range (nB l)).map (MJ l i j))) ∧ Hid (Blk wr qx 94 #[.int .i64 (hd : Int), .slice ba bn bc, .int .i64 pa])) (fun u _ => bn - (intOf u).toNat)
     case atStart => exact ⟨0, by omega, rfl, HR4.out, HM4.out, HX4.out⟩
     case round =>
      clear HR4 HM4 HX4 cx1
      obtain ⟨j, hj, rfl, hR, hM, hX⟩ := hrel
      obtain ⟨U, rfl⟩ : ∃ V : World, V = wr := ⟨_, rfl⟩
      by_cases hlj : j < bn
      ·have hlj' : (j : Int) < (bn : Int) := by omega
       obtain ⟨b, hb⟩ : ∃ b, (blkL l i)[j]? = some b := ⟨_, List.getElem?_eq_getElem (by rw [← HNN.out.1]; exact hlj)⟩
       have hbn : b < nB l := (blk_mem.1 (List.mem_of_getElem? hb)).1
       have hbi : (b : Int) < (nB l : Int) := by omega
       obtain ⟨gs, os, rfl, -, -, csw⟩ := SlX.int HNN.out.2.1 (k := j) (x := (b : Int)) (by unfold nI; rw [List.getElem?_map, hb]; rfl)
       have cs1 : U.cell? ⟨gs, os + j, none⟩ = some (.int .i64 (b : Int)) := (hR.out.bel.cell (World.block_lt_of_cell? _ _ csw)).trans csw
       have cgi : U.cell? ⟨gi, b, none⟩ = some (.bool (MJ l i j b)) := by
        have h1 := (hM.out.at (k := b) (x := MJ l i j b) (by rw [List.getElem?_map, List.getElem?_range hbn]; rfl)).cell 0 _ rfl
        have e1 : 0 + b * tB.n + 0 = b := by show 0 + b * 1 + 0 = b; omega
        rw [e1] at h1
        exact h1
       have fgi := hM.out.frozen b
       have hset := hM.out.set (k := b) (j := 0) (x := MJ l i j b) (y := true) (v := .bool true) (by rw [List.getElem?_map, List.getElem?_range hbn]; rfl) (by decide) rfl
       have e2 : b * tB.n + 0 = b := by show b * 1 + 0 = b; omega
       rw [e2, upd_bool _ hbn, MJ_set hb] at hset
       obtain ⟨U1, hU1⟩ : ∃ x, x = U.setCell ⟨gi, b, none⟩ (.bool true) := ⟨_, rfl⟩
       have HM1 := Lib.hid (show OwR tB V.heap.size U1 (.slice (some ⟨gi, 0, none⟩) (nB l) (nB l)) ((List.range (nB l)).map (MJ l i (j + 1))) by rw [hU1]; exact hset)
       have HR1 := Lib.hid (show Rd2 l p pw gn nc' gh hc' V.heap.size wa (.slice ab (nB l) cb) (.slice (some ⟨gl, ol, none⟩) (heads l).length cl) (.slice ra (nB l) rcap) vi (.slice (some ⟨ga, 0, none⟩) (nB l) (nB l)) cs rs (NJ l i j) (fun b => hdd l b (i + 1)) U1 by rw [hU1]; exact hR.out.setM (hM.out.mono HGi.out.1) HGi.out.2 (.bool true))
       have HX1 := Lib.hid (show Blk U1 qx 94 #[.int .i64 (hd : Int), .slice (some ⟨gs, os, none⟩) bn bc, .int .i64 pa] by
        rw [hU1]
        exact blk_chg hX.out (chg_set (bRefl U) gi b _) (fun e => by
         obtain ⟨_, C, hgb⟩ := hM.out.blk (g := gi) rfl
         subst e
         exact blk_ne hX.out hgb (by decide) rfl))
       obtain ⟨z, hz⟩ : ∃ z, z = inn l b i := ⟨_, rfl⟩
       have cn1 : U1.cell? ⟨gn, b, none⟩ = some (.int .i64 z) := by rw [hz, ← NJ_at hb]; exact OwR.int HR1.out.on (by rw [List.getElem?_map, List.getElem?_range hbn]; rfl)
       have hz1 : -1 ≤ z := by rw [hz]; exact (@inn_is l b i).1
       have hz2 : z < (i : Int) := by rw [hz]; exact (@inn_is l b i).2
       have HB := Lib.hid (And.intro hb hz)
       clear hset e2 csw hb hz hR hM hX
       go_upto_region 23 with (fail)
       rw [← hU1]
       clear hU1 cs1 cgi fgi
       have c61 : U1.cell? ⟨pw, 6, none⟩ = some (.slice (some ⟨gn, 0, none⟩) (nB l) nc') := HR1.out.blk.cell 6
       go_upto_region 24 with (fail)
       have cx1 : U1.cell? ⟨qx, 1, none⟩ = some (.slice (some ⟨gs, os, none⟩) bn bc) := HX1.out.cell 1
       have c21 : U1.cell? ⟨pw, 2, none⟩ = some (.slice (some ⟨gl, ol, none⟩) (heads l).length cl) := HR1.out.blk.cell 2
       by_cases hneg : z < 0
       ·have HCo := Lib.hid (show inn l b i < 0 ∨ (blkL l i).length < (blkL l (inn l b i).toNat).length from Or.inl (by rw [← HB.out.2]; exact hneg))
        have hnd : decide (z < 0) = true := decide_eq_true hneg
        go_wp2_with fail
        go_quiet (fail)
        have HR2 := Lib.hid (HR1.out.below (bDrewN (bRefl U1) nq))
        have HM2 := Lib.hid (HM1.out.below (bDrewN (bRefl U1) nq))
        have HX2 := Lib.hid (HX1.out.below (bDrewN (bRefl U1) nq) HX1.out.lt)
        clear HR1 HM1 HX1 c61 cn1 cx1 c21
        generalize U1.drewN nq = U2 at HR2 HM2 HX2 ⊢
        have c62 : U2.cell? ⟨pw, 6, none⟩ = some (.slice (some ⟨gn, 0, none⟩) (nB l) nc') := HR2.out.blk.cell 6
        have cn2 : U2.cell? ⟨gn, b, none⟩ = some (.int .i64 (NJ l i j b)) := OwR.int HR2.out.on (by rw [List.getElem?_map, List.getElem?_range hbn]; rfl)
        have fn2 := HR2.out.on.frozen b
        obtain ⟨U3, hU3⟩ : ∃ x, x = U2.setCell ⟨gn, b, none⟩ (.int .i64 (i : Int)) := ⟨_, rfl⟩
        have HR3 := Lib.hid (show Rd2 l p pw gn nc' gh hc' V.heap.size wa (.slice ab (nB l) cb) (.slice (some ⟨gl, ol, none⟩) (heads l).length cl) (.slice ra (nB l) rcap) vi (.slice (some ⟨ga, 0, none⟩) (nB l) (nB l)) cs rs (NJ l i (j + 1)) (fun b => hdd l b (i + 1)) U3 by rw [hU3, ← NJ_yes HB.out.1 HCo.out]; exact HR2.out.setN hbn)
        obtain ⟨_, Cn, hgn⟩ := HR2.out.on.blk (g := gn) rfl
        have HM3 := Lib.hid (show OwR tB V.heap.size U3 (.slice (some ⟨gi, 0, none⟩) (nB l) (nB l)) ((List.range (nB l)).map (MJ l i (j + 1))) by rw [hU3]; exact HM2.out.set_other (HM2.out.ne hgn (by decide)))
        have HX3 := Lib.hid (show Blk U3 qx 94 #[.int .i64 (hd : Int), .slice (some ⟨gs, os, none⟩) bn bc, .int .i64 pa] by rw [hU3]; exact blk_chg HX2.out (chg_set (bRefl U2) gn b _) (fun e => by subst e; exact blk_ne HX2.out hgn (by decide) rfl))
        clear HR2 HM2 HX2 hgn HB HCo
        go_wp2
        rw [← hU3]
        clear hU3 c62 cn2 fn2
        refine ⟨⟨j + 1, by omega, by go_num, HR3.out, HM3.out, HX3.out⟩, ?_⟩
        simp [intOf] <;> omega
       ·obtain ⟨k, rfl⟩ := Int.eq_ofNat_of_zero_le (show 0 ≤ z by omega)
        have hki : k < nL l := by omega
        have hki' : (k : Int) < ((heads l).length : Int) := by show (k : Int) < (nL l : Int); omega
        have hneg' : decide ((k : Int) < 0) = false := decide_eq_false hneg
        obtain ⟨gx, ox, da, dn, dc, e1, -, cdw, hdnn, -⟩ := (show Ld p wa (.slice (some ⟨gl, ol, none⟩) (nL l) cl) (dL l) from HA.out.2.2.1).one (i := k) hki
        injection e1 with e1
        injection e1 with e11 e12
        subst e11 e12
        have cd : U1.cell? ⟨gl, ol + k * 3 + 1, none⟩ = some (.slice da dn dc) := (HR1.out.bel.cell (World.block_lt_of_cell? _ _ cdw)).trans cdw
        have HDn := Lib.hid hdnn
        clear cdw hdnn
        by_cases hsm : bn < dn
        ·have HCo := Lib.hid (show inn l b i < 0 ∨ (blkL l i).length < (blkL l (inn l b i).toNat).length from Or.inr (by rw [← HB.out.2, Int.toNat_natCast, ← HNN.out.1, ← HDn.out]; exact hsm))
         have hsm' : (bn : Int) < (dn : Int) := by omega
         have hsd : decide ((bn : Int) < (dn : Int)) = true := decide_eq_true hsm'
         go_wp2_with fail
         go_quiet (fail)
         have HR2 := Lib.hid (HR1.out.below (bDrewN (bRefl U1) nq))
         have HM2 := Lib.hid (HM1.out.below (bDrewN (bRefl U1) nq))
         have HX2 := Lib.hid (HX1.out.below (bDrewN (bRefl U1) nq) HX1.out.lt)
         clear HR1 HM1 HX1 c61 cn1 cx1 c21
         generalize U1.drewN nq = U2 at HR2 HM2 HX2 ⊢
         have c62 : U2.cell? ⟨pw, 6, none⟩ = some (.slice (some ⟨gn, 0, none⟩) (nB l) nc') := HR2.out.blk.cell 6
         have cn2 : U2.cell? ⟨gn, b, none⟩ = some (.int .i64 (NJ l i j b)) := OwR.int HR2.out.on (by rw [List.getElem?_map, List.getElem?_range hbn]; rfl)
         have fn2 := HR2.out.on.frozen b
         obtain ⟨U3, hU3⟩ : ∃ x, x = U2.setCell ⟨gn, b, none⟩ (.int .i64 (i : Int)) := ⟨_, rfl⟩
         have HR3 := Lib.hid (show Rd2 l p pw gn nc' gh hc' V.heap.size wa (.slice ab (nB l) cb) (.slice (some ⟨gl, ol, none⟩) (heads l).length cl) (.slice ra (nB l) rcap) vi (.slice (some ⟨ga, 0, none⟩) (nB l) (nB l)) cs rs (NJ l i (j + 1)) (fun b => hdd l b (i + 1)) U3 by rw [hU3, ← NJ_yes HB.out.1 HCo.out]; exact HR2.out.setN hbn)
         obtain ⟨_, Cn, hgn⟩ := HR2.out.on.blk (g := gn) rfl
         have HM3 := Lib.hid (show OwR tB V.heap.size U3 (.slice (some ⟨gi, 0, none⟩) (nB l) (nB l)) ((List.range (nB l)).map (MJ l i (j + 1))) by rw [hU3]; exact HM2.out.set_other (HM2.out.ne hgn (by decide)))
         have HX3 := Lib.hid (show Blk U3 qx 94 #[.int .i64 (hd : Int), .slice (some ⟨gs, os, none⟩) bn bc, .int .i64 pa] by rw [hU3]; exact blk_chg HX2.out (chg_set (bRefl U2) gn b _) (fun e => by subst e; exact blk_ne HX2.out hgn (by decide) rfl))
         clear HR2 HM2 HX2 hgn HB HCo
         go_wp2
         rw [← hU3]
         clear hU3 c62 cn2 fn2
         refine ⟨⟨j + 1, by omega, by go_num, HR3.out, HM3.out, HX3.out⟩, ?_⟩
         simp [intOf] <;> omega
        ·have HCo := Lib.hid (show ¬ (inn l b i < 0 ∨ (blkL l i).length < (blkL l (inn l b i).toNat).length) by
          rw [← HB.out.2, Int.toNat_natCast, ← HNN.out.1, ← HDn.out]
          intro h
          rcases h with h | h
          ·exact hneg h
          ·exact hsm h)
         have hsm' : ¬ (bn : Int) < (dn : Int) := by omega
         have hsd : decide ((bn : Int) < (dn : Int)) = false := decide_eq_false hsm'
         go_wp2_with fail
         go_quiet (fail)
         have HR2 := Lib.hid (HR1.out.below (bDrewN (bRefl U1) nq))
         have HM2 := Lib.hid (HM1.out.below (bDrewN (bRefl U1) nq))
         have HX2 := Lib.hid (HX1.out.below (bDrewN (bRefl U1) nq) HX1.out.lt)
         clear HR1 HM1 HX1 c61 cn1 cx1 c21
         generalize U1.drewN nq = U2 at HR2 HM2 HX2 ⊢
         have HR3 := Lib.hid (show Rd2 l p pw gn nc' gh hc' V.heap.size wa (.slice ab (nB l) cb) (.slice (some ⟨gl, ol, none⟩) (heads l).length cl) (.slice ra (nB l) rcap) vi (.slice (some ⟨ga, 0, none⟩) (nB l) (nB l)) cs rs (NJ l i (j + 1)) (fun b => hdd l b (i + 1)) U2 by rw [← NJ_no HB.out.1 HCo.out]; exact HR2.out)
         clear HR2 HB HCo
         go_wp2
         refine ⟨⟨j + 1, by omega, by go_num, HR3.out, HM2.out, HX2.out⟩, ?_⟩
         simp [intOf] <;> omega
      ·have hje : j = bn := by omega
       have hlj' : ¬ (j : Int) < (bn : Int) := by omega
       have HM1 := Lib.hid (show OwR tB V.heap.size U (Sv.v ⟨some ⟨gi, 0, none⟩, nB l, nB l⟩) ((List.range (nB l)).map (inB l rs.length)) by
        have h1 := hM.out
        rw [hje, HNN.out.1, MJ_all] at h1
        rw [HRV.out.1]
        exact h1)
       have HR1 := Lib.hid (show Rd2 l p pw gn nc' gh hc' V.heap.size wa (.slice ab (nB l) cb) (.slice (some ⟨gl, ol, none⟩) (heads l).length cl) (.slice ra (nB l) rcap) vi (.slice (some ⟨ga, 0, none⟩) (nB l) (nB l)) cs rs (fun b => inn l b (i + 1)) (fun b => hdd l b (i + 1)) U from hR.out.congr (by rw [hje, HNN.out.1]; exact NJ_all))
       have c31 : U.cell? ⟨pw, 3, none⟩ = some vi := HR1.out.blk.cell 3
       have hzU := HR1.out.bel.size
       have hrl := HRV.out.1
       clear hR hM hX hje
       go_upto_region 28 with (at_builtin; refine wpl_pushL tBB rfl (.tmp 158) (.tmp 160) rfl wa.heap.size vi rs rfl (HR1.out.ri.alloc _) _ 0 1 1 [⟨some ⟨gi, 0, none⟩, nB l, nB l⟩] rfl rfl (Nat.succ_pos _) (rangeNew (by rfl) (by rfl)) (by unfold maxLen; simp; omega) (by show _ * 24 ≤ _; simp; omega) (by simp; omega) ?_; intro g9 c9 w9 hown9 hgrow9 hlies9; obtain ⟨f9, c39⟩ := HR1.out.atI (bAl (bRefl U) _) hgrow9)
       have HR2 := Lib.hid ((HR1.out.pushI HRV.out.2.rr HGi.out.1 (bAl (bRefl U) _) hgrow9 hown9 HM1.out).top (Z' := w9.heap.size) (by simp))
       have HL2 := Lib.hid (show (rs ++ [(⟨some ⟨gi, 0, none⟩, nB l, nB l⟩ : Sv)]).length = i + 1 by rw [List.length_append, hrl]; rfl)
       have hn9 : rs.length + [(⟨some ⟨gi, 0, none⟩, nB l, nB l⟩ : Sv)].length = i + 1 := by rw [hrl]; rfl
       rw [hn9] at HR2
       obtain ⟨V9, hV9⟩ : ∃ x, x = w9.setCell ⟨pw, 3, none⟩ (.slice (some ⟨g9, 0, none⟩) (i + 1) c9) := ⟨_, rfl⟩
       have hz9 : w9.heap.size = V9.heap.size := by rw [hV9]; simp
       rw [← hV9, hz9] at HR2
       rw [← hV9]
       clear HR1 HM1 hown9 hgrow9 hlies9 f9 c39 hn9 hV9 hz9 hrl HRV
       go_wp2
       go_roundw
       all_goals first
        | exact ⟨i + 1, _, _, by omega, by go_num, HL2.out, HR2.out⟩
        | ((repeat apply Exists.intro); exact ⟨⟨i + 1, _, _, by omega, by go_num, HL2.out, HR2.out⟩, rfl⟩)
        | (simp [intOf] <;> omega)
    ·have hie : i = nL l := by omega
     have hlt' : ¬ (i : Int) < ((heads l).length : Int) := by show ¬ (i : Int) < (nL l : Int); omega
     have HR2 := Lib.hid (show Rd2 l p pw gn nc' gh hc' V.heap.size wa (.slice ab (nB l) cb) (.slice al (heads l).length cl) (.slice ra (nB l) rcap) vi (.slice (some ⟨ga, 0, none⟩) (nB l) (nB l)) cs rs (fun b => inn l b (nL l)) (fun b => hdd l b (nL l)) V by have := hR.out.2; rw [hie] at this; exact this)
     have HL2 := Lib.hid (hR.out.1.trans hie)
     clear hR hie
     have HK := Lib.hid (show Wk0 l p pw wa (.slice ab (nB l) cb) (.slice al (heads l).length cl) (.slice ra (nB l) rcap) vi (.slice (some ⟨ga, 0, none⟩) (nB l) (nB l)) (.slice (some ⟨gn, 0, none⟩) (nB l) nc') (.slice (some ⟨gh, 0, none⟩) (nB l) hc') (.slice none 0 0) V from
      ⟨HG.out, HFa.out, HA.out.2.1, HA.out.2.2.1, HA.out.2.2.2, HR2.out.bel, HR2.out.blk, HR2.out.gz,
       ⟨rs, HR2.out.ri.sl (HR2.out.ri.ne HR2.out.blk (by decide)), HL2.out, fun i s hs => (HR2.out.rr.own i s hs).sl ((HR2.out.rr.own i s hs).ne HR2.out.blk (by decide))⟩,
       HR2.out.on.sl (HR2.out.on.ne HR2.out.blk (by decide)), HR2.out.oh.sl (HR2.out.oh.ne HR2.out.blk (by decide)),
       ⟨cs, HR2.out.ah.sl (HR2.out.ah.ne HR2.out.blk (by decide)), HR2.out.cl, fun b s hs => (HR2.out.rw.own b s hs).sl ((HR2.out.rw.own b s hs).ne HR2.out.blk (by decide))⟩⟩)
     have hbV := HR2.out.bel
     have hgz := HR2.out.gz
     clear HR2 HL2
     go_wp2_with fail
     refine (turn_ok HK.out).mono ?_
     rintro e w5 ⟨rfl, hx, vt, g, -, hk, hT⟩
     have hs1 := HA.out.1.size
     have HEnd := Lib.hid (show Below w.heap.size w w5 from (bThen HA.out.1 hbV).trans (hx.below (by omega) (Nat.le_trans hs1 hbV.size)))
     have HK5 := Lib.hid (And.intro hk hT)
     clear hx hk hT hs1 hbV hgz HK
     go_wp2
     go_ret
     exact ⟨HEnd.out, pw, g, wa, _, _, _, _, _, _, _, vt, rfl, HK5.out.1, HK5.out.2⟩
end Go.Proofs.Ytndnfjcfpcfakaa
namespace Go.Proofs.Ytndnfjcfpcfakaa
open Go Go.RowKit Go.Wr Go.Fl Go.Ht
set_option maxHeartbeats 4000000
set_option maxRecDepth 100000
theorem hguess_ok (w : World) (p : Nat) (l : List In) (h : FinP l p w) : Calls Try.prog 15 #[.pointer (some ⟨p, 0, none⟩)] w fun e w' => Below w.heap.size w w' ∧ ∃ v, e = .returned v ∧ OwR tF w.heap.size w' v ((List.range (nB l)).map (wts l (tT l) (-1))) := by
 have HK := Lib.hid (ready_ok w p l h)
 clear h
 go_enter Try.func15, Try.ntmps15
 go_wp2_with fail
 refine HK.out.mono ?_
 rintro e w1 ⟨b1, pw, g, wa, vb, vl, vo, vi, va, vn, vh, vt, rfl, hk, hT⟩
 have HW := Lib.hid (wweights_ok hk w1.heap.size (tT l) (-1) hT (fun i _ _ _ => tT_in) (by omega))
 have HB := Lib.hid b1
 clear b1 hk hT HK
 go_wp2_with fail
 refine HW.out.mono ?_
 rintro e w2 ⟨b2, v, rfl, hO⟩
 have HB2 := Lib.hid (bThen HB.out b2)
 have HO := Lib.hid (hO.mono HB.out.size)
 clear b2 hO HB HW
 go_wp2
 go_ret
 exact ⟨HB2.out, _, rfl, HO.out⟩
theorem hedges_ok (w : World) (p : Nat) (l : List In) (h : FinP l p w) : Calls Try.prog 16 #[.pointer (some ⟨p, 0, none⟩)] w (EdP l w) := by
 have mix : Try.prog.follows .mixedOrders = true := by kernel_rfl
 have HR := Lib.hid (ready_ok w p l h)
 have HG := Lib.hid h.1
 have h512 := h.1.n512
 clear h
 unfold EdP
 go_enter Try.func16, Try.ntmps16
 go_wp2_with fail
 refine HR.out.mono ?_
 rintro e w0 ⟨b0, pw, g, wa, vb, vl, vo, vi, va, vn, vh, vt, rfl, hk, hT⟩
 have HW := Lib.hid (wweights_ok hk w0.heap.size (tT l) (-1) hT (fun i _ _ _ => tT_in) (by omega))
 have HB0 := Lib.hid b0
 have HK0 := Lib.hid hk
 clear b0 hk hT HR
 go_wp2_with fail
 refine HW.out.mono ?_
 rintro e w1 ⟨b2, vw, rfl, hO⟩
 obtain ⟨wva, wvc, hvw, hw1, hw2⟩ := (hO.sl (p := w1.heap.size) (fun e => by have := hO.lt e; omega)).form
 rw [List.length_map, List.length_range] at hvw hw1
 subst hvw
 have HB1 := Lib.hid (bThen HB0.out b2)
 have HW1 := Lib.hid hO
 have HK := Lib.hid (HK0.out.below b2)
 clear b2 hO HW HB0 HK0 hw1 hw2
 have hbd := HK.out.bd.below HK.out.bel
 obtain ⟨ab, cb, rfl, -, -⟩ := hbd.form
 rw [dB_len] at hbd HK
 have c1 : w1.cell? ⟨pw, 1, none⟩ = some (.slice ab (nB l) cb) := HK.out.blk.cell 1
 have HBd := Lib.hid hbd
 clear hbd
 go_wp2
 clear c1
 go_loopw [5, 19] (fun t u wr => ∃ (b : Nat) (v : Sv) (rs : List Sv), b ≤ nB l ∧ u = .int .i64 (b : Int) ∧ t = .slice v.a v.n v.c ∧ Hid (rs.length = b ∧ OwR tFF w1.heap.size wr v.v rs ∧ Rws tF w1.heap.size rs (edR l) wr) ∧ Hid (Below w1.heap.size w1 wr)) (fun _ u _ => nB l - (intOf u).toNat)
 case atStart => exact ⟨0, ⟨none, 0, 0⟩, [], by omega, rfl, rfl, ⟨rfl, OwR.nil _ _, Rws.nil⟩, bRefl _⟩
 case round =>
  obtain ⟨b, v, rs, hbl, rfl, rfl, hR, hB⟩ := hrel
  obtain ⟨V, rfl⟩ : ∃ x : World, x = wr := ⟨_, rfl⟩
  by_cases hlt : b < nB l
  ·have hlt' : (b : Int) < (nB l : Int) := by omega
   obtain ⟨gb, ob, na, nc, e1, y0, y1, y2, hsn, -⟩ := HBd.out.get (dB_get hlt)
   obtain rfl := e1
   have x0 : V.cell? ⟨gb, ob + b * 3, none⟩ = some (.int .i64 (frF l b : Int)) := (hB.out.cell (World.block_lt_of_cell? _ _ y0)).trans y0
   have x1 : V.cell? ⟨gb, ob + b * 3 + 1, none⟩ = some (.int .i64 (twF l b : Int)) := (hB.out.cell (World.block_lt_of_cell? _ _ y1)).trans y1
   have x2 : V.cell? ⟨gb, ob + b * 3 + 2, none⟩ = some (.slice na (nI (nxt l b)).length nc) := (hB.out.cell (World.block_lt_of_cell? _ _ y2)).trans y2
   obtain ⟨nn, hnn⟩ : ∃ n, n = (nI (nxt l b)).length := ⟨_, rfl⟩
   have hn2 : nn ≤ 2 := by rw [hnn, nI_len]; exact nxt_two l b
   rw [← hnn] at x2
   have HNN := Lib.hid (hnn.trans (nI_len _))
   clear y0 y1 y2 hsn hnn
   go_upto_region 8 with (fail)
   obtain ⟨qx, hqx⟩ : ∃ x, x = V.heap.size := ⟨_, rfl⟩
   obtain ⟨V1, hV1⟩ : ∃ x, x = V.alloc (.cells #[.int .i64 (frF l b : Int), .int .i64 (twF l b : Int), .slice na nn nc] 72) := ⟨_, rfl⟩
   rw [← hV1, ← hqx]
   have HX1 := Lib.hid (show Blk V1 qx 72 #[.int .i64 (frF l b : Int), .int .i64 (twF l b : Int), .slice na nn nc] by rw [hV1]; exact Blk.new_at _ _ hqx)
   have HV1 := Lib.hid (show Below V.heap.size V V1 by rw [hV1]; exact bAl (bRefl V) _)
   have cx : V1.cell? ⟨qx, 2, none⟩ = some (.slice na nn nc) := HX1.out.cell 2
   clear hV1 hqx x0 x1 x2
   go_wp2
   clear cx
   go_loopw [8, 27] (fun t u wr => ∃ (k : Nat) (va : Sv), k ≤ nn ∧ u = .int .i64 (k : Int) ∧ t = .slice va.a va.n va.c ∧ Hid (OwR tF V.heap.size wr va.v ((List.range k).map (edg l b))) ∧ Hid (Below V.heap.size V wr)) (fun _ u _ => nn - (intOf u).toNat)
   case atStart => exact ⟨0, ⟨none, 0, 0⟩, by omega, rfl, rfl, OwR.nil _ _, HV1.out⟩
   case round =>
    obtain ⟨k, va, hk, rfl, rfl, hO, hBV⟩ := hrel
    obtain ⟨U, rfl⟩ : ∃ x : World, x = wr := ⟨_, rfl⟩
    by_cases hlk : k < nn
    ·have hlk' : (k : Int) < (nn : Int) := by omega
     obtain ⟨x, hx⟩ : ∃ x, x = wts l (tT l) (-1) b := ⟨_, rfl⟩
     obtain ⟨ch, hch⟩ : ∃ c, c = chn l b k := ⟨_, rfl⟩
     have hxle : x ≤ inf := by rw [hx]; exact wts_le b
     obtain ⟨y, hy⟩ : ∃ y, y = fmul x ch := ⟨_, rfl⟩
     have hop := hop_mul (show Ieee.double.mul x ch = some y by rw [hy]; exact mul_nn hxle (by rw [hch]; exact chn_in.2) (by rw [hch]; exact chn_in.1))
     have HY := Lib.hid (show edg l b k = y by unfold edg; rw [hy, hx, hch])
     obtain ⟨gw, ow, rfl, -, -, cww⟩ := SlX.flo (HW1.out.sl (p := w1.heap.size) (fun e => by have := HW1.out.lt e; omega)) (k := b) (x := x) (by rw [List.getElem?_map, List.getElem?_range hlt, hx]; rfl)
     have cw : U.cell? ⟨gw, ow + b, none⟩ = some (.float .f64 x) := ((bThen hB.out hBV.out).cell (World.block_lt_of_cell? _ _ cww)).trans cww
     have HcV := Lib.hid (show V.cell? ⟨gw, ow + b, none⟩ = some (.float .f64 x) from (hB.out.cell (World.block_lt_of_cell? _ _ cww)).trans cww)
     have HCh := Lib.hid (show ∀ W : World, Below U.heap.size U W → Calls Try.prog 30 #[.pointer (some ⟨pw, 0, none⟩), .int .i64 (b : Int), .int .i64 (k : Int)] W fun e w'' => e = .returned (.float .f64 ch) ∧ ∃ m, w'' = W.drewN m from fun W hW => by
      rw [hch]
      exact wchance_ok (HK.out.below (bThen (bThen hB.out hBV.out) hW)) b k hlt (by rw [← HNN.out]; exact hlk))
     clear hx hch hy cww hxle
     go_upto_region 11 with (fail)
     refine wp_region_held_drew (S := fun w' => w'.cell? ⟨gw, ow + b, none⟩ = some (.float .f64 x)) mix cw (fun hS => ?_)
     refine wpAnyH_take (i := 0) (v := .slice va.a va.n va.c) rfl (by kernel_rfl) (by kernel_rfl) (by kernel_rfl) (fun _ _ _ h => h) (Or.inl ⟨by rfl, fun w' hw' => by (try go_split_ands); go_simp <;> omega⟩) hS ?_
     simp only [Act.put, List.getElem_toArray, List.getElem_cons_zero, List.setIfInBounds_toArray, List.set_cons_zero, List.set_cons_succ]
     refine wpAnyH_take (i := 1) (v := .slice (some ⟨gw, ow, none⟩) (nB l) wvc) rfl (by kernel_rfl) (by kernel_rfl) (by kernel_rfl) (fun _ _ _ h => h) (Or.inl ⟨by rfl, fun w' hw' => by (try go_split_ands); go_simp <;> omega⟩) hS ?_
     simp only [Act.put, List.getElem_toArray, List.getElem_cons_zero, List.getElem_cons_succ, List.setIfInBounds_toArray, List.set_cons_zero, List.set_cons_succ]
     refine wpAnyH_take (i := 2) (v := .int .i64 (b : Int)) rfl (by kernel_rfl) (by kernel_rfl) (by kernel_rfl) (fun _ _ _ h => h) (Or.inl ⟨by rfl, fun w' hw' => by (try go_split_ands); go_simp <;> omega⟩) hS ?_
     simp only [Act.put, List.getElem_toArray, List.getElem_cons_zero, List.getElem_cons_succ, List.setIfInBounds_toArray, List.set_cons_zero, List.set_cons_succ]
     refine wpAnyH_take (i := 3) (v := .pointer (some ⟨gw, ow + b, none⟩)) rfl (by kernel_rfl) (by kernel_rfl) (by kernel_rfl) (fun _ _ _ h => h) (Or.inl ⟨by rfl, fun w' hw' => by (try go_split_ands); go_simp <;> omega⟩) hS ?_
     simp only [Act.put, List.getElem_toArray, List.getElem_cons_zero, List.getElem_cons_succ, List.setIfInBounds_toArray, List.set_cons_zero, List.set_cons_succ]
     refine wpAnyH_take (i := 4) (v := .float .f64 x) rfl (by kernel_rfl) (by kernel_rfl) (by kernel_rfl) (fun _ _ _ h => h) (Or.inl ⟨by rfl, fun w' hw' => by (try go_split_ands); go_simp <;> omega⟩) hS ?_
     simp only [Act.put, List.getElem_toArray, List.getElem_cons_zero, List.getElem_cons_succ, List.setIfInBounds_toArray, List.set_cons_zero, List.set_cons_succ]
     refine wpAnyH_take (i := 5) (v := .pointer (some ⟨pw, 0, none⟩)) rfl (by kernel_rfl) (by kernel_rfl) (by kernel_rfl) (fun _ _ _ h => h) (Or.inl ⟨by rfl, fun w' hw' => by (try go_split_ands); go_simp <;> omega⟩) hS ?_
     simp only [Act.put, List.getElem_toArray, List.getElem_cons_zero, List.getElem_cons_succ, List.setIfInBounds_toArray, List.set_cons_zero, List.set_cons_succ]
     refine wpAnyH_take (i := 6) (v := .int .i64 (b : Int)) rfl (by kernel_rfl) (by kernel_rfl) (by kernel_rfl) (fun _ _ _ h => h) (Or.inl ⟨by rfl, fun w' hw' => by (try go_split_ands); go_simp <;> omega⟩) hS ?_
     simp only [Act.put, List.getElem_toArray, List.getElem_cons_zero, List.getElem_cons_succ, List.setIfInBounds_toArray, List.set_cons_zero, List.set_cons_succ]
     refine wpAnyH_take (i := 7) (v := .int .i64 (k : Int)) rfl (by kernel_rfl) (by kernel_rfl) (by kernel_rfl) (fun _ _ _ h => h) (Or.inl ⟨by rfl, fun w' hw' => by (try go_split_ands); go_simp <;> omega⟩) hS ?_
     simp only [Act.put, List.getElem_toArray, List.getElem_cons_zero, List.getElem_cons_succ, List.setIfInBounds_toArray, List.set_cons_zero, List.set_cons_succ]
     refine wpAnyH_ready (rs := [8]) (by kernel_rfl) (by simp) ?_
     refine AllReadyH.cons rfl (fun K hK => ?_) AllReadyH.nil
     go_simp
     go_wp2_with fail
     refine (HCh.out _ (bRefl U).drew).mono ?_
     rintro e w8 ⟨rfl, m8, hw8⟩
     have hb8 : Below U.heap.size U w8 := by rw [hw8]; exact bDrewN (bRefl U).drew m8
     have cw8 : w8.cell? ⟨gw, ow + b, none⟩ = some (.float .f64 x) := (hb8.cell (World.block_lt_of_cell? _ _ cw)).trans cw
     clear hw8 HCh
     go_wp2_with fail
     refine hK.out _ _ cw8 (fun hS => ?_)
     clear hK K hS
     have hS := cw8
     refine wpAnyH_ready (rs := [9]) (by kernel_rfl) (by simp) ?_
     refine AllReadyH.cons rfl (fun K hK => ?_) AllReadyH.nil
     go_simp
     refine hK.out _ _ hS (fun _ => ?_)
     clear hK K
     refine wpAnyH_ready (rs := [10]) (by kernel_rfl) (by simp) ?_
     refine AllReadyH.cons rfl (fun K hK => ?_) AllReadyH.nil
     go_simp
     obtain ⟨W, hW⟩ : ∃ z, z = w8.alloc (.cells #[.float .f64 y] 42) := ⟨_, rfl⟩
     have hb8W : Below w8.heap.size w8 W := by rw [hW]; exact bAl (bRefl w8) _
     have hbW : Below U.heap.size U W := bThen hb8 hb8W
     have HN := Lib.hid (show Blk W w8.heap.size 42 #[.float .f64 y] by rw [hW]; exact Blk.new w8 42 _)
     rw [← hW]
     have cwW : W.cell? ⟨gw, ow + b, none⟩ = some (.float .f64 x) := (hbW.cell (World.block_lt_of_cell? _ _ cw)).trans cw
     refine hK.out _ _ cwW (fun hS => ?_)
     clear hK K hS hW
     have hzV := hBV.out.size
     have hzU := hbW.size
     have hlen : ((List.range k).map (edg l b)).length = k := by rw [List.length_map, List.length_range]
     refine wpAnyH_ready (rs := [11]) (by kernel_rfl) (by simp) ?_
     refine AllReadyH.cons rfl (fun K hK => ?_) AllReadyH.nil
     refine step_push tF rfl (.tmp 30) (.tmp 40) rfl V.heap.size (.slice va.a va.n va.c) ((List.range k).map (edg l b)) (by rfl) (hO.out.below hbW) w8.heap.size 0 1 1 [y] (by rfl) rfl (rangeBlk HN.out (by rfl)) (by rw [hlen]; unfold maxLen; simp; omega) (by rw [hlen]; show _ * 8 ≤ _; simp; omega) (by omega) ?_
     intro v' w9 hown hgrow hform
     obtain ⟨g9, c9, rfl, _⟩ := hform (by simp)
     have hb9 : Below V.heap.size V w9 := (bThen hBV.out hbW).grown hgrow (by omega) (fun g hg => ((hO.out.below hbW).blk hg).1)
     have hO9 := Lib.hid (show OwR tF V.heap.size w9 (Sv.v ⟨some ⟨g9, 0, none⟩, k + 1, c9⟩) ((List.range (k + 1)).map (edg l b)) by rw [ed_take, HY.out]; have h1 := hown; rw [hlen] at h1; exact h1)
     have HB9 := Lib.hid hb9
     have cw9 : w9.cell? ⟨gw, ow + b, none⟩ = some (.float .f64 x) := (hb9.cell (World.block_lt_of_cell? _ _ HcV.out)).trans HcV.out
     simp only [Act.put, List.setIfInBounds_toArray]
     refine hK.out _ _ cw9 (fun hS => ?_)
     clear hK K
     refine wpAnyH_ready (rs := [12]) (by kernel_rfl) (by simp) ?_
     refine AllReadyH.cons rfl (fun K hK => ?_) AllReadyH.nil
     go_simp
     refine hK.out _ _ hS (fun _ => ?_)
     clear hK K
     refine wpAnyH_done (by kernel_rfl) ?_ _
     clear hS cw9 hb9 hown hgrow hform hlen hzU hzV cwW hb8W hbW HN cw8 hb8 HcV cw hop
     go_wp2
     go_roundw
     all_goals first
      | exact ⟨k + 1, ⟨some ⟨g9, 0, none⟩, k + 1, c9⟩, by omega, by go_num, rfl, hO9.out, HB9.out⟩
      | (simp [intOf] <;> omega)
    ·have hke : k = nn := by omega
     have hlk' : ¬ (k : Int) < (nn : Int) := by omega
     have HO := Lib.hid (show OwR tF V.heap.size U va.v (edR l b) by have := hO.out; rw [hke, HNN.out] at this; exact this)
     clear hO hke
     have hOut := hR.out.2.1.below hBV.out
     have hzV := hB.out.size
     have hzU := hBV.out.size
     have hrl := hR.out.1
     go_upto_region 14 with (at_builtin; refine wpl_push tFF rfl (.tmp 43) (.tmp 45) rfl w1.heap.size (.slice v.a v.n v.c) rs rfl (hOut.alloc _) _ 0 1 1 [va] rfl rfl (rangeNew (by rfl) (by rfl)) (by rw [hrl]; unfold maxLen; simp; omega) (by rw [hrl]; show _ * 24 ≤ _; simp; omega) (by simp; omega) ?_; intro v' w9 hown hgrow hform)
     obtain ⟨g9, c9, rfl, _⟩ := hform (by simp)
     have hrw9 : Rws tF w1.heap.size rs (edR l) w9 := (hR.out.2.2.below hBV.out).keep fun g C _ hg => (hgrow.block g (by have := hg.lt; simp; omega) (fun e => hOut.ne hg (by decide) e.symm)).trans (Below.heap_alloc U _ g hg.lt)
     have hro9 : OwR tF V.heap.size w9 va.v (edR l rs.length) := by
      rw [hrl]
      exact HO.out.keep fun g hg => by
       obtain ⟨_, C, hb⟩ := HO.out.blk hg
       exact (hgrow.block g (by have := hb.lt; simp; omega) (fun e => hOut.ne hb (by decide) e.symm)).trans (Below.heap_alloc U _ g hb.lt)
     have HR9 := Lib.hid (Rws.snoc hR.out.2.2 hrw9 hro9 hzV)
     have HO9 := Lib.hid (show OwR tFF w1.heap.size w9 (Sv.v ⟨some ⟨g9, 0, none⟩, rs.length + [va].length, c9⟩) (rs ++ [va]) from hown)
     have HB9 := Lib.hid (show Below w1.heap.size w1 w9 from (bAl (bThen hB.out hBV.out) _).grown hgrow (by simp; omega) (fun g hg => (hOut.blk hg).1))
     have HL9 := Lib.hid (show (rs ++ [va]).length = b + 1 by rw [List.length_append, hrl]; rfl)
     clear hown hgrow hform hrw9 hro9 hOut hzU hzV HO hR
     go_wp2
     go_roundw
     all_goals first
      | exact ⟨b + 1, ⟨some ⟨g9, 0, none⟩, rs.length + [va].length, c9⟩, _, by omega, by go_num, rfl, ⟨HL9.out, HO9.out, HR9.out⟩, HB9.out⟩
      | (simp [intOf] <;> omega)
  ·have hbe : b = nB l := by omega
   have hlt' : ¬ (b : Int) < (nB l : Int) := by omega
   have HF := Lib.hid (show rs.length = nB l by rw [← hbe]; exact hR.out.1)
   have HBw := Lib.hid (bThen HB1.out hB.out)
   have hs1 := HB1.out.size
   clear hbe
   go_wp2
   go_ret
   exact ⟨HBw.out, _, rfl, rs, HF.out, hR.out.2.1.mono hs1, hR.out.2.2.mono hs1⟩
end Go.Proofs.Ytndnfjcfpcfakaa
namespace Go.Proofs.Ytndnfjcfpcfakaa
open Go Go.RowKit Go.Wr Go.Fl Go.Ht
set_option maxHeartbeats 4000000
set_option maxRecDepth 100000
theorem sameF_ok (w : World) (p q : Nat) (v v' : Value) (l : List Nat) (h : SlX tF p w v l) (h' : SlX tF q w v' l) (hle : ∀ x ∈ l, x ≤ inf) : Calls Try.prog 12 #[v, v'] w fun e w' => e = .returned (.bool true) ∧ ∃ m, w' = w.drewN m := by
 obtain ⟨a0, cap, rfl, h1, h2⟩ := h.form
 obtain ⟨a1, cap', rfl, h1', h2'⟩ := h'.form
 have H := Lib.hid h
 have H' := Lib.hid h'
 have HL := Lib.hid hle
 unfold maxLen at h2 h2'
 clear h h' hle
 go_enter Try.func12, Try.ntmps12
 go_wp2
 go_loopw [5] (fun t wr => ∃ (i k : Nat), i ≤ l.length ∧ t = .int .i64 (i : Int) ∧ Hid (wr = w.drewN k)) (fun t _ => l.length - (intOf t).toNat)
 case atStart => exact ⟨0, 0, by omega, rfl, rfl⟩
 case round =>
  obtain ⟨i, k, hi, rfl, hwr⟩ := hrel
  obtain ⟨V, rfl⟩ : ∃ x : World, x = wr := ⟨_, rfl⟩
  by_cases hlt : i < l.length
  ·have hlt' : (i : Int) < (l.length : Int) := by omega
   obtain ⟨x, hx⟩ : ∃ x, l[i]? = some x := ⟨_, List.getElem?_eq_getElem hlt⟩
   have hxi := HL.out x (List.mem_of_getElem? hx)
   obtain ⟨b, o, rfl, -, -, c1w⟩ := SlX.flo H.out hx
   obtain ⟨b', o', rfl, -, -, c2w⟩ := SlX.flo H'.out hx
   have c1 : V.cell? ⟨b, o + i, none⟩ = some (.float .f64 x) := by rw [hwr.out]; exact c1w
   have c2 : V.cell? ⟨b', o' + i, none⟩ = some (.float .f64 x) := by rw [hwr.out]; exact c2w
   have he : (FloatKind.f64.format.order x x == some .eq) = true := (eq_nn hxi hxi).trans (decide_eq_true rfl)
   have hne : (FloatKind.f64.format.order x x != some .eq) = false := by unfold bne; rw [he]; rfl
   have HWN := Lib.hid (fun n => by rw [hwr.out, World.drewN_drewN] : ∀ n, V.drewN n = w.drewN (k + n))
   clear hx hxi c1w c2w hwr he
   go_wp2_with fail
   go_quiet (fail)
   have HW := Lib.hid (HWN.out nq)
   clear c1 c2 HWN
   generalize V.drewN nq = V2 at HW ⊢
   go_wp2
   go_roundw
   all_goals first
    | exact ⟨i + 1, _, by omega, by go_num, HW.out⟩
    | ((repeat apply Exists.intro); exact ⟨⟨i + 1, _, by omega, by go_num, HW.out⟩, rfl⟩)
    | (simp [intOf] <;> omega)
  ·have hlt' : ¬ (i : Int) < (l.length : Int) := by omega
   go_wp2
   go_ret
   exact ⟨rfl, k, hwr.out⟩
end Go.Proofs.Ytndnfjcfpcfakaa
namespace Go.Proofs.Ytndnfjcfpcfakaa
open Go Go.RowKit Go.Wr Go.Fl Go.Ht
set_option maxHeartbeats 4000000
set_option maxRecDepth 100000
theorem small19_ok (w : World) : Calls Try.prog 26 #[] w fun e w' => Below w.heap.size w w' ∧ ∃ v', e = .returned v' ∧ OwR tN w.heap.size w' v' smallL := by
 go_enter Try.func26, Try.ntmps26
 go_wp2
 go_ret
 exact ⟨bAl (bRefl w) _, _, rfl, rfl, Or.inr ⟨w.heap.size, 5, _, rfl, Nat.le_refl _, Array.getElem?_push_size, Nat.le_refl _, by unfold maxLen; omega, rfl, rfl⟩⟩
theorem sh_none : shS 0 [-1] = none := by decide
theorem sh_some : shS 0 [1, 3, 0] = some 4 := by decide
theorem sh_vals : [1, 3, 0].map (shr 4) = [4627730092099895296, 4634978072750194688, 0] := by kernel_rfl
def tpL : List Nat := [4602678819172646912, 4611686018427387904, 4611686018427387904, 4607182418800017408]
theorem tp_1 : ky 4602678819172646912 < ky 4607182418800017408 := of_decide_eq_true (by kernel_rfl)
theorem tp_2 : ky 4607182418800017408 < ky 4611686018427387904 := of_decide_eq_true (by kernel_rfl)
theorem tp_take {Z : List Int} (hp : Z.Perm (iot 4)) (hs : Z.Pairwise (Ht.Rk (kOf tpL))) : Z.take (cutN 3 4) = [1, 2, 3] := by
 have k0 : kOf tpL 0 = ky 4602678819172646912 := rfl
 have k1 : kOf tpL 1 = ky 4611686018427387904 := rfl
 have k2 : kOf tpL 2 = ky 4611686018427387904 := rfl
 have k3 : kOf tpL 3 = ky 4607182418800017408 := rfl
 have h1 := tp_1
 have h2 := tp_2
 have e : Z = [1, 2, 3, 0] := by
  refine rk_uniq (hp.trans (by decide)) hs ?_
  simp only [List.pairwise_cons, List.mem_cons, forall_eq_or_imp, List.not_mem_nil, false_implies, implies_true, List.Pairwise.nil, and_true, Ht.Rk, k0, k1, k2, k3]
  refine ⟨⟨Or.inr ⟨trivial, by omega⟩, Or.inl h2, Or.inl (by omega)⟩, ⟨Or.inl h2, Or.inl (by omega)⟩, Or.inl h1⟩
 rw [e]
 decide
theorem OwR.slz {α : Type} {R : RT Try.prog α} {B : Nat} {w : World} {v : Value} {l : List α} (h : OwR R B w v l) : SlX R w.heap.size w v l := OwR.sl h (fun e => by have := OwR.lt h e; omega)
theorem litF (w : World) (l : List Nat) (C : Array Value) (h : C.toList = tF.cs l) (hl : l.length ≤ 16) : OwR tF w.heap.size (w.alloc (.cells C 42)) (.slice (some ⟨w.heap.size, 0, none⟩) l.length l.length) l := OwR.new rfl h (by unfold maxLen; omega)
theorem litI (w : World) (l : List Int) (C : Array Value) (h : C.toList = tI.cs l) (hl : l.length ≤ 16) : OwR tI w.heap.size (w.alloc (.cells C 3)) (.slice (some ⟨w.heap.size, 0, none⟩) l.length l.length) l := OwR.new rfl h (by unfold maxLen; omega)
theorem known19_ok (w : World) : Calls Try.prog 8 #[] w fun e w' => e = .returned (.bool true) ∧ Below w.heap.size w w' := by
 go_enter Try.func8, Try.ntmps8
 go_wp2_with fail
 refine (small19_ok _).mono ?_
 rintro e w1 ⟨b1, v1, rfl, ho1⟩
 have HB1 := Lib.hid b1
 have HO1 := Lib.hid ho1
 clear b1 ho1
 go_wp2_with fail
 refine (make_ok _ w1.heap.size _ smallL (HO1.out.sl (fun e => by have := HO1.out.lt e; omega))).mono ?_
 rintro e w2 ⟨b2, hM⟩
 rcases hM with ⟨_, hne⟩ | ⟨_, p, ab, cb, b4, o4, b5, o5, c4, c5, va, vo, vr, vl, bs, ss, E, d, rfl, hp, hF⟩
 ·exact absurd (by rw [sm_fine]) hne
 have HB2 := Lib.hid (bThen HB1.out b2)
 have HF := Lib.hid (show FinP smallL p w2 from ⟨sm_g7, _, _, _, _, _, _, _, _, _, _, _, _, _, _, _, _, hF⟩)
 clear b2 hF HB1 HO1 hp
 go_wp2_with fail
 refine (hguess_ok w2 p smallL HF.out).mono ?_
 rintro e w3 ⟨b3, v3, rfl, ho3⟩
 rw [sm_gs] at ho3
 have HB3 := Lib.hid b3
 have HO3 := Lib.hid ho3
 clear b3 ho3
 go_wp2_with fail
 refine (sameF_ok _ _ _ _ _ [one, f8, one] (OwR.slz (HO3.out.below (bAl (bRefl w3) _))) (OwR.slz (litF w3 [one, f8, one] _ rfl (by decide))) (by decide)).mono ?_
 rintro e w4 ⟨rfl, m4, hw4⟩
 have HB4 := Lib.hid (show Below w2.heap.size w2 w4 by rw [hw4]; exact bDrewN (bAl HB3.out _) m4)
 clear hw4 HO3 HB3
 have HF4 := Lib.hid (HF.out.below HB4.out)
 have HBW4 := Lib.hid (bThen HB2.out HB4.out)
 clear HF HB4 HB2
 go_wp2_with fail
 refine (hedges_ok w4 p smallL HF4.out).mono ?_
 unfold EdP
 rintro e w5 ⟨b5, v5, rfl, rs, hl5, ho5, hr5⟩
 rw [sm_n] at hl5
 obtain ⟨r0, r1, r2, rfl⟩ : ∃ r0 r1 r2, rs = [r0, r1, r2] := by
  match rs, hl5 with
  | [r0, r1, r2], _ => exact ⟨r0, r1, r2, rfl⟩
 have e0 := hr5.own 0 r0 rfl
 have e1 := hr5.own 1 r1 rfl
 have e2 := hr5.own 2 r2 rfl
 rw [sm_ed0] at e0
 rw [sm_ed1] at e1
 rw [sm_ed2] at e2
 rcases ho5.form with ⟨_, e⟩ | ⟨g5, k5, rfl, hk5, hk5', -⟩
 ·cases e
 have HO5 := Lib.hid (And.intro ho5 (And.intro e0 (And.intro e1 e2)))
 have HBW5 := Lib.hid (bThen HBW4.out b5)
 have hn2 : r2.n = 0 := by
  rcases e2.form with ⟨e, _⟩ | ⟨g, c, e, _⟩
  ·unfold Sv.v at e; injection e
  ·unfold Sv.v at e; injection e
 clear ho5 hr5 e0 e1 e2 b5 hl5 HBW4 HF4 hk5 hk5'
 go_wp2_with fail
 refine (share_ok _ _ _ [1, 3, 0] (OwR.slz (litI w5 [1, 3, 0] _ rfl (by decide))) (by decide)).mono ?_
 unfold ShP
 rintro e w6 ⟨b6, hs⟩
 rw [sh_some] at hs
 rcases hs with ⟨hs, _⟩ | ⟨s, v6, hs, rfl, ho6⟩
 ·cases hs
 injection hs with hs
 subst hs
 rw [sh_vals] at ho6
 have hb56 : Below w5.heap.size w5 w6 := (bAl (bRefl w5) _).trans (b6.mono (by simp))
 have HO6 := Lib.hid ho6
 have HB6 := Lib.hid hb56
 clear b6 ho6 hb56
 go_wp2_with fail
 refine (share_ok _ _ _ [-1] (OwR.slz (litI w6 [-1] _ rfl (by decide))) (by decide)).mono ?_
 unfold ShP
 rintro e w7 ⟨b7, hs⟩
 rw [sh_none] at hs
 obtain rfl : e = .returned (.tuple #[.slice none 0 0, .int .i64 1]) := by
  rcases hs with ⟨_, h⟩ | ⟨s, v, hs, _⟩
  ·exact h
  ·cases hs
 have hb67 : Below w6.heap.size w6 w7 := (bAl (bRefl w6) _).trans (b7.mono (by simp))
 have HB57 := Lib.hid (bThen HB6.out hb67)
 have HO7 := Lib.hid (HO6.out.below hb67)
 clear b7 hb67 HO6 HB6
 have HR7 := Lib.hid (And.intro (HO5.out.1.below HB57.out) (And.intro (HO5.out.2.1.below HB57.out) (HO5.out.2.2.1.below HB57.out)))
 have HBW7 := Lib.hid (bThen HBW5.out HB57.out)
 clear HO5 HB57 HBW5
 have cell : ∀ (k : Nat) (s : Sv), [r0, r1, r2][k]? = some s → ∀ W : World, Below w7.heap.size w7 W → W.cell? ⟨g5, k, none⟩ = some (.slice s.a s.n s.c) := fun k s hs W hW => by
  have h1 := ((HR7.out.1.below hW).at hs).cell 0 _ rfl
  have e1 : 0 + k * tFF.n + 0 = k := by show 0 + k * 1 + 0 = k; omega
  rw [e1] at h1
  exact h1
 have HC := Lib.hid cell
 have c0 : w7.cell? ⟨g5, 0, none⟩ = some (.slice r0.a r0.n r0.c) := cell 0 r0 rfl w7 (bRefl w7)
 have HN2 := Lib.hid hn2
 clear cell hn2 hs
 go_wp2_with fail
 refine (sameF_ok _ _ _ _ _ [one] (OwR.slz (HR7.out.2.1.below (bAl (bRefl w7) _))) (OwR.slz (litF w7 [one] _ rfl (by decide))) (by decide)).mono ?_
 rintro e w8 ⟨rfl, m8, hw8⟩
 have hb78 : Below w7.heap.size w7 w8 := by rw [hw8]; exact bDrewN (bAl (bRefl w7) _) m8
 have HB8 := Lib.hid hb78
 have c1 : w8.cell? ⟨g5, 1, none⟩ = some (.slice r1.a r1.n r1.c) := HC.out 1 r1 rfl w8 hb78
 clear hw8 c0 hb78
 go_wp2_with fail
 refine (sameF_ok _ _ _ _ _ [f7, one] (OwR.slz (HR7.out.2.2.below (bThen HB8.out (bAl (bRefl w8) _)))) (OwR.slz (litF w8 [f7, one] _ rfl (by decide))) (by decide)).mono ?_
 rintro e w9 ⟨rfl, m9, hw9⟩
 have hb79 : Below w7.heap.size w7 w9 := by rw [hw9]; exact bDrewN (bThen HB8.out (bAl (bRefl w8) _)) m9
 have HB9 := Lib.hid hb79
 have c2 : w9.cell? ⟨g5, 2, none⟩ = some (.slice r2.a 0 r2.c) := by have := HC.out 2 r2 rfl w9 hb79; rw [HN2.out] at this; exact this
 clear hw9 c1 hb79 HB8
 go_wp2_with fail
 refine (sameF_ok _ _ _ _ _ [4627730092099895296, 4634978072750194688, 0] (OwR.slz (HO7.out.below (bThen HB9.out (bAl (bRefl w9) _)))) (OwR.slz (litF w9 [4627730092099895296, 4634978072750194688, 0] _ rfl (by decide))) (by decide)).mono ?_
 rintro e wA ⟨rfl, mA, hwA⟩
 have hbA : Below w.heap.size w wA := by rw [hwA]; exact bDrewN (bThen (bThen HBW7.out HB9.out) (bAl (bRefl w9) _)) mA
 have HBA := Lib.hid hbA
 clear hwA c2 hbA HB9 HO7 HR7 HC HN2 HBW7
 go_wp2_with fail
 refine (htop_ok _ _ _ tpL 3 (OwR.slz (litF wA tpL _ rfl (by decide))) (by decide)).mono ?_
 rintro e wC ⟨bC, v', Z, rfl, z1, z2, z3⟩
 rw [show Z.take (cutN 3 tpL.length) = [1, 2, 3] from tp_take z1 z2] at z3
 have HZ := Lib.hid z3
 have HBC := Lib.hid (show Below wA.heap.size wA wC from (bAl (bRefl wA) _).trans (bC.mono (by simp)))
 clear bC z1 z2 z3
 go_wp2_with fail
 refine (sameInts_ok _ _ _ _ _ [1, 2, 3] [1, 2, 3] (OwR.slz (HZ.out.below (bAl (bRefl wC) _))) (OwR.slz (litI wC [1, 2, 3] _ rfl (by decide)))).mono ?_
 rintro e wD ⟨rfl, bD⟩
 have HBD := Lib.hid (show Below w.heap.size w wD from bThen (bThen HBA.out HBC.out) ((bAl (bRefl wC) _).trans (bD.mono (by simp))))
 clear bD HBA HBC HZ
 go_wp2
 go_ret
 exact ⟨rfl, HBD.out⟩
end Go.Proofs.Ytndnfjcfpcfakaa
