/- What the law needs, one part after another: walks of functions and plain laws. No conditions but those that each law names. -/
import Derived.Test.YtndnfjcfpcfakaaTpaj
namespace Go.Proofs.Ytndnfjcfpcfakaa
open Go Go.RowKit Go.Wr Go.Fl Go.Ht
set_option maxHeartbeats 40000000
set_option maxRecDepth 100000
def f77 : Nat := 4635118810238550016
def f78 : Nat := 4635189178982727680
theorem u64_nn {y : Int} (h : (Lit.int .u64 y).wf = true) : 0 ≤ y := by
 simp [Lit.wf, IntKind.min, IntKind.max, IntKind.signed, IntKind.bits] at h
 exact h.1
theorem OwR.sv {α : Type} {R : RT Try.prog α} {B : Nat} {w : World} {v : Value} {l : List α} (h : OwR R B w v l) : ∃ s : Sv, v = .slice s.a s.n s.c ∧ OwR R B w s.v l := by
 rcases h.form with ⟨rfl, _⟩ | ⟨g, c, rfl, _⟩
 ·exact ⟨⟨none, 0, 0⟩, rfl, h⟩
 ·exact ⟨⟨_, _, c⟩, rfl, h⟩
theorem htopZ_ok (w : World) (q : Nat) (v : Value) (l : List Nat) (n : Int) (h : SlX tF q w v l) (hl : l.length ≤ 1099511627776) (Z : List Int) (hp : Z.Perm (iot l.length)) (hs : Z.Pairwise (Ht.Rk (kOf l))) :
  Calls Try.prog 20 #[v, .int .i64 n] w fun e w' => Below w.heap.size w w' ∧ ∃ s : Sv, e = .returned (.slice s.a s.n s.c) ∧ OwR tI w.heap.size w' s.v (Z.take (cutN n l.length)) := by
 refine (htop_ok w q v l n h hl).mono ?_
 rintro e w' ⟨b, v', Z', rfl, hp', hs', ho⟩
 rw [rk_uniq (hp'.trans hp.symm) hs' hs] at ho
 obtain ⟨s, rfl, ho⟩ := OwR.sv ho
 exact ⟨b, s, rfl, ho⟩
theorem rtopZ_ok (w : World) (q : Nat) (v : Value) (l : List Nat) (n : Int) (h : SlX tF q w v l) (hl : l.length ≤ 1099511627776) (Z : List Int) (hp : Z.Perm (iot l.length)) (hs : Z.Pairwise (Ht.Rk (kOf l))) :
  Calls Try.prog 21 #[v, .int .i64 n] w fun e w' => Below w.heap.size w w' ∧ ∃ s : Sv, e = .returned (.slice s.a s.n s.c) ∧ OwR tI w.heap.size w' s.v (Z.take (cutN n l.length)) := by
 refine (rtop_ok w q v l n h hl).mono ?_
 rintro e w' ⟨b, v', T, rfl, ht, hn, ho⟩
 rw [ht.take hp hs, hn] at ho
 obtain ⟨s, rfl, ho⟩ := OwR.sv ho
 exact ⟨b, s, rfl, ho⟩
def Cf (B g cp : Nat) (w : World) (L : List Nat) : Prop := OwR tF B w (.slice (some ⟨g, 0, none⟩) (L.length + 2) cp) (L ++ [f77, f78])
theorem Cf.inn {B g cp : Nat} {w : World} {L : List Nat} (h : Cf B g cp w L) : OwR tF B w (.slice (some ⟨g, 0, none⟩) L.length cp) L := by
 have := OwR.take h (k := L.length) (by simp)
 rw [List.take_left] at this
 exact this
theorem Cf.below {B g cp : Nat} {w w' : World} {L : List Nat} (h : Cf B g cp w L) (b : Below w.heap.size w w') : Cf B g cp w' L := OwR.below h b
theorem own_flo {B g n c : Nat} {w : World} {l : List Nat} (h : OwR tF B w (.slice (some ⟨g, 0, none⟩) n c) l) {k : Nat} {x : Nat} (hk : l[k]? = some x) : w.cell? ⟨g, k, none⟩ = some (.float .f64 x) := by
 have := (h.at hk).cell 0 _ rfl
 have e1 : 0 + k * tF.n + 0 = k := by show 0 + k * 1 + 0 = _; omega
 rw [e1] at this
 exact this
theorem Fu.ow {α : Type} {R : RT Try.prog α} {B : Nat} {U : Nat → Prop} {w w' : World} {v : Value} {l : List α} (fu : Fu U w w') (h : OwR R B w v l) (hu : ∀ g, v.ownBlock = some g → ¬ U g) : OwR R B w' v l := h.keep fun g hg => fu.block g (h.lt hg) (hu g hg)
structure Tl (w0 : World) (U : Nat → Prop) (p n g cp : Nat) (F : List Nat) (t : Sv) (T : List Int) (w : World) : Prop where
 bel : Below w0.heap.size w0 w
 led : Led U p n w
 up : ∀ b, U b → w0.heap.size ≤ b
 dn : ∀ b, U b → b < w.heap.size
 ll : Cf w0.heap.size g cp w F
 lU : ¬ U g
 tt : OwR tI w0.heap.size w t.v T
 tU : ∀ b, t.v.ownBlock = some b → ¬ U b
theorem Tl.below {w0 : World} {U : Nat → Prop} {p n g cp : Nat} {F : List Nat} {t : Sv} {T : List Int} {w w' : World} (h : Tl w0 U p n g cp F t T w) (b : Below w.heap.size w w') : Tl w0 U p n g cp F t T w' :=
 ⟨bThen h.bel b, h.led.keep b.os b.tape b.output b.size (fun q hq _ => b.block q hq), h.up, fun q hq => Nat.lt_of_lt_of_le (h.dn q hq) b.size, h.ll.below b, h.lU, h.tt.below b, h.tU⟩
theorem Fu.bel {w0 : World} {U : Nat → Prop} {w w' : World} (fu : Fu U w w') (hb : Below w0.heap.size w0 w) (hu : ∀ b, U b → w0.heap.size ≤ b) : Below w0.heap.size w0 w' :=
 ⟨fu.os.trans hb.os, fu.tape.trans hb.tape, fu.output.trans hb.output, Nat.le_trans hb.size fu.size, fun b hlt => (fu.block b (Nat.lt_of_lt_of_le hlt hb.size) (fun e => by have := hu b e; omega)).trans (hb.block b hlt)⟩
theorem Tl.own {w0 : World} {U : Nat → Prop} {p n g cp : Nat} {F : List Nat} {t s : Sv} {T L : List Int} {w w' : World} (h : Tl w0 U p n g cp F t T w) (hv : OwR tI w0.heap.size w s.v L) (hvg : s.v.ownBlock ≠ some g) (hvt : ∀ b, t.v.ownBlock = some b → s.v.ownBlock ≠ some b)
  (fu : Fu (fun b => U b ∨ s.v.ownBlock = some b) w w') (led : Led (fun b => U b ∨ s.v.ownBlock = some b ∨ (w.heap.size ≤ b ∧ b < w'.heap.size)) p (n + 1) w') :
  Tl w0 (fun b => U b ∨ s.v.ownBlock = some b ∨ (w.heap.size ≤ b ∧ b < w'.heap.size)) p (n + 1) g cp F t T w' := by
 have hgl : g < w.heap.size := OwR.lt h.ll rfl
 refine ⟨fu.bel h.bel (fun b e => e.elim (h.up b) (fun e => (hv.blk e).1)), led, fun b e => ?_, fun b e => ?_, fu.ow h.ll (fun b hb e => ?_), fun e => ?_, fu.ow h.tt (fun b hb e => ?_), fun b hb e => ?_⟩
 ·rcases e with e | e | e
  ·exact h.up b e
  ·exact (hv.blk e).1
  ·have := h.bel.size; omega
 ·have := fu.size
  rcases e with e | e | e
  ·have := h.dn b e; omega
  ·have := hv.lt e; omega
  ·exact e.2
 ·have hbg : g = b := by injection hb
  subst hbg
  exact e.elim h.lU hvg
 ·rcases e with e | e | e
  ·exact h.lU e
  ·exact hvg e
  ·omega
 ·exact e.elim (h.tU b hb) (hvt b hb)
 ·rcases e with e | e | e
  ·exact h.tU b hb e
  ·exact hvt b hb e
  ·have := h.tt.lt hb; omega
theorem call_tobits (x : Nat) (w : World) : (callFunc 22 #[.float .f64 x]).run Try.prog w = .ok (.value (.int .u64 x)) w := by
 rw [run_callFunc_extern (e := Extern.MathFloatBits.float64bits) Try.func22 (by kernel_rfl) (by kernel_rfl) (by kernel_rfl) (by kernel_rfl)]
 rfl
theorem tops_ok (w : World) (q : Nat) (v : Value) (l : List Int) (h : SlX tU q w v l) (hl : l.length ≤ 1048576) (hwf : ∀ y ∈ l, (Lit.int .u64 y).wf = true) (n : Int) (hn : I64 n) : Calls Try.prog 7 #[v, .int .i64 n] w fun e w' => e = .returned (.bool true) ∧ Below w.heap.size w w' := by
 obtain ⟨a0, cap, rfl, h1, h2⟩ := h.form
 have H := Lib.hid h
 have HWF := Lib.hid hwf
 have HN := Lib.hid hn
 unfold maxLen at h2
 clear h hwf hn
 obtain ⟨F, hF⟩ : ∃ F, F = l.map Int.toNat := ⟨_, rfl⟩
 have hFl : F.length = l.length := by rw [hF, List.length_map]
 have HF := Lib.hid hF
 have HFL := Lib.hid hFl
 go_enter Try.func7, Try.ntmps7
 go_wp2_with fail
 refine (known19_ok _).mono ?_
 rintro e w1 ⟨rfl, b1⟩
 have HB1 := Lib.hid b1
 clear b1
 go_wp2_with fail
 refine (floats_ok w1 q _ l (H.out.below HB1.out) (by omega)).mono ?_
 rintro e w2 ⟨b2, v2, rfl, ho2⟩
 rw [← hF] at ho2
 obtain ⟨⟨fa, fn, fc⟩, rfl, ho2⟩ := OwR.sv ho2
 have HB2 := Lib.hid b2
 have HO2 := Lib.hid ho2
 have hz2 := b2.size
 clear b2 ho2 hF
 go_upto_region 4 with (at_builtin; refine wpl_push tF rfl (.tmp 15) (.tmp 16) rfl w1.heap.size (.slice fa fn fc) F rfl (HO2.out.alloc _) _ 0 2 2 [f77, f78] rfl rfl (rangeNew (by rfl) (by rfl)) (by unfold maxLen; simp; omega) (by show _ * 8 ≤ _; simp; omega) (by simp; omega) ?_; intro v3 w3 hown hgrow hform; obtain ⟨g, cp, rfl, hcp, hcp2, hgb⟩ := hform (by simp); have hcp3 : l.length ≤ cp := (by simp at hcp; omega); have hcp4 : l.length + 2 ≤ cp := (by simp at hcp; omega))
 have HI3 := Lib.hid (show Cf w1.heap.size g cp w3 F from hown)
 have HB3 := Lib.hid (show Below w1.heap.size w1 w3 from (bAl HB2.out _).grown hgrow (by simp; omega) (fun g hg => (HO2.out.blk hg).1))
 have HG3 := Lib.hid (OwR.lt HI3.out rfl : g < w3.heap.size)
 clear hown hgrow hform hcp HO2 HB2 hz2 hFl
 have hin : ∀ B W, Cf B g cp W F → SlX tF W.heap.size W (.slice (some ⟨g, 0, none⟩) l.length cp) F := fun B W hc => by
  have := OwR.slz hc.inn
  rwa [HFL.out] at this
 have HIN := Lib.hid hin
 clear hin
 go_wp2_with fail
 refine (htop_ok w3 w3.heap.size _ F n (HIN.out _ _ HI3.out) (by rw [HFL.out]; omega)).mono ?_
 rintro e w4 ⟨b4, va, Z, rfl, hp, hs, oa⟩
 obtain ⟨sa, rfl, oa⟩ := OwR.sv oa
 obtain ⟨T, hT⟩ : ∃ T, T = Z.take (cutN n F.length) := ⟨_, rfl⟩
 rw [← hT] at oa
 have HZ := Lib.hid (And.intro hp (And.intro hs hT))
 have HA := Lib.hid oa
 have HI4 := Lib.hid (HI3.out.below b4)
 have HB4 := Lib.hid (bThen HB3.out b4)
 have HS4 := Lib.hid b4.size
 clear hp hs hT oa HI3 HB3 b4
 go_wp2_with fail
 refine (htopZ_ok w4 w4.heap.size _ F n (HIN.out _ _ HI4.out) (by rw [HFL.out]; omega) Z HZ.out.1 HZ.out.2.1).mono ?_
 rintro e w5 ⟨b5, sb, rfl, ob⟩
 rw [← HZ.out.2.2] at ob
 have HB := Lib.hid ob
 have HI5 := Lib.hid (HI4.out.below b5)
 have HB5 := Lib.hid (bThen HB4.out b5)
 have HS5 := Lib.hid (And.intro HS4.out b5.size)
 have HA5 := Lib.hid (And.intro (HA.out.below b5) (fun b hb => HA.out.lt hb : ∀ b, sa.v.ownBlock = some b → b < w4.heap.size))
 clear ob HI4 HB4 b5 HA HS4
 go_wp2_with fail
 refine (floats_ok w5 q _ l (H.out.below (bThen HB1.out HB5.out)) (by omega)).mono ?_
 rintro e w6 ⟨b6, v6, rfl, o6⟩
 rw [← HF.out] at o6
 have HO6 := Lib.hid (OwR.slz o6)
 have HI6 := Lib.hid (HI5.out.below b6)
 have HB6 := Lib.hid (bThen HB5.out b6)
 have HA6 := Lib.hid (And.intro (HA5.out.1.below b6) (And.intro HA5.out.2 (HB.out.below b6)))
 have HS6 := Lib.hid (And.intro HS5.out b6.size)
 clear o6 HI5 HB5 b6 HA5 HS5
 go_wp2_with fail
 refine (rtopZ_ok w6 w6.heap.size _ F n HO6.out (by rw [HFL.out]; omega) Z HZ.out.1 HZ.out.2.1).mono ?_
 rintro e w7 ⟨b7, st, rfl, ot⟩
 rw [← HZ.out.2.2] at ot
 have HT7 := Lib.hid (And.intro ot (fun b hb => (ot.blk hb).1 : ∀ b, st.v.ownBlock = some b → w6.heap.size ≤ b))
 have HI7 := Lib.hid (HI6.out.below b7)
 have HB7 := Lib.hid (bThen HB6.out b7)
 have HA7 := Lib.hid (And.intro (HA6.out.1.below b7) (And.intro HA6.out.2.1 (And.intro (HA6.out.2.2.below b7) (fun b hb => HB.out.lt hb : ∀ b, sb.v.ownBlock = some b → b < w5.heap.size))))
 have HS7 := Lib.hid (And.intro HS6.out b7.size)
 clear ot HI6 HB6 b7 HA6 HS6 HO6 HB
 go_upto_region 8 with (fail)
 go_wp2_with fail
 refine (sameInts_ok w7 w7.heap.size w7.heap.size _ _ T T (OwR.slz HA7.out.1) (OwR.slz HT7.out.1)).mono ?_
 rintro e w8 ⟨rfl, b8⟩
 rw [decide_eq_true (rfl : T = T)]
 have HB8 := Lib.hid b8
 clear b8
 go_wp2_with fail
 refine (sameInts_ok w8 w8.heap.size w8.heap.size _ _ T T (OwR.slz (HA7.out.2.2.1.below HB8.out)) (OwR.slz (HT7.out.1.below HB8.out))).mono ?_
 rintro e w9 ⟨rfl, b9⟩
 rw [decide_eq_true (rfl : T = T)]
 have HB9 := Lib.hid (bThen HB8.out b9)
 have HI9 := Lib.hid (HI7.out.below HB9.out)
 have k1 : w9.cell? ⟨g, l.length, none⟩ = some (.float .f64 4635118810238550016) := own_flo HI9.out (by rw [List.getElem?_append_right (by rw [HFL.out]; exact Nat.le_refl _)]; rw [HFL.out]; simp [f77])
 have k2 : w9.cell? ⟨g, l.length + 1, none⟩ = some (.float .f64 4635189178982727680) := own_flo HI9.out (by rw [List.getElem?_append_right (by rw [HFL.out]; omega)]; rw [HFL.out]; simp [f78])
 have e1 : (FloatKind.f64.format.order 4635118810238550016 4635118810238550016 != some .eq) = false := by kernel_rfl
 have e2 : (FloatKind.f64.format.order 4635189178982727680 4635189178982727680 != some .eq) = false := by kernel_rfl
 clear b9 HB8 HI7
 go_wp2
 clear k1 k2 e1 e2
 go_loopw [10] (fun t wr => ∃ (i m : Nat), i ≤ l.length ∧ t = .int .i64 (i : Int) ∧ Hid (wr = w9.drewN m)) (fun t _ => l.length - (intOf t).toNat)
 case atStart => exact ⟨0, 0, by omega, rfl, rfl⟩
 case round =>
  obtain ⟨i, m, hi, rfl, hwr⟩ := hrel
  obtain ⟨V, rfl⟩ : ∃ x : World, x = wr := ⟨_, rfl⟩
  by_cases hlt : i < l.length
  ·have hlt' : (i : Int) < (l.length : Int) := by omega
   obtain ⟨y, hy⟩ : ∃ y, l[i]? = some y := ⟨_, List.getElem?_eq_getElem hlt⟩
   obtain ⟨x, rfl⟩ := Int.eq_ofNat_of_zero_le (u64_nn (HWF.out y (List.mem_of_getElem? hy)))
   have hx : F[i]? = some x := by rw [HF.out, List.getElem?_map, hy]; rfl
   obtain ⟨b', o', rfl, -, -, c2w⟩ := SlX.u64 (H.out.below (bThen HB1.out (bThen HB7.out HB9.out))) hy
   have c1w : w9.cell? ⟨g, i, none⟩ = some (.float .f64 x) := own_flo HI9.out.inn hx
   have c1 : V.cell? ⟨g, i, none⟩ = some (.float .f64 x) := by rw [hwr.out]; exact c1w
   have c2 : V.cell? ⟨b', o' + i, none⟩ = some (.int .u64 (x : Int)) := by rw [hwr.out]; exact c2w
   have hcall := call_tobits x
   have HWN := Lib.hid (fun n => by rw [hwr.out, World.drewN_drewN] : ∀ n, V.drewN n = w9.drewN (m + n))
   clear hx hy c1w c2w hwr
   go_wp2_with fail
   go_quiet (fail)
   have HW := Lib.hid (HWN.out nq)
   clear c1 c2 HWN hcall
   generalize V.drewN nq = V2 at HW ⊢
   go_wp2
   go_roundw
   all_goals first
    | exact ⟨i + 1, _, by omega, by go_num, HW.out⟩
    | ((repeat apply Exists.intro); exact ⟨⟨i + 1, _, by omega, by go_num, HW.out⟩, rfl⟩)
    | (simp [intOf] <;> omega)
  ·have hlt' : ¬ (i : Int) < (l.length : Int) := by omega
   have bD : Below w9.heap.size w9 V := by rw [hwr.out]; exact bDrewN (bRefl w9) m
   have HBV := Lib.hid (bThen HB1.out (bThen HB7.out (bThen HB9.out bD)))
   have HIV := Lib.hid ((OwR.mono HI9.out HB1.out.size : Cf w.heap.size g cp w9 F).below bD)
   have h97 := HB9.out.size
   have hD9 := bD.size
   have HRV := Lib.hid (And.intro ((HA7.out.1.below HB9.out).below bD) (And.intro ((HA7.out.2.2.1.below HB9.out).below bD) ((HT7.out.1.below HB9.out).below bD)))
   have HLV := Lib.hid (show g < V.heap.size ∧ w3.heap.size ≤ w4.heap.size ∧ w4.heap.size ≤ w5.heap.size ∧ w5.heap.size ≤ w6.heap.size ∧ w6.heap.size ≤ V.heap.size ∧ w.heap.size ≤ w3.heap.size from ⟨by have := HG3.out; have := HS7.out; omega, by have := HS7.out; omega, by have := HS7.out; omega, by have := HS7.out; omega, by have := HS7.out; omega, by have := HB1.out.size; have := HG3.out; omega⟩)
   clear bD h97 hD9 hwr HB9 HI9
   go_upto_region 16 with (fail)
   have hT0 : Tl w (fun b => b = V.heap.size) V.heap.size 0 g cp F st T (V.alloc (.cells (lgC 0 (.slice none 0 0) (.slice none 0 0) (.slice none 0 0) (.slice none 0 0)) 56)) :=
    ⟨bAl HBV.out _, Led.new V, fun b e => by have e' : b = V.heap.size := e; have := HBV.out.size; omega, fun b e => by have e' : b = V.heap.size := e; simp; omega, HIV.out.below (bAl (bRefl V) _), fun e => by have e' : g = V.heap.size := e; have := HLV.out.1; omega, (HRV.out.2.2.mono (by have := HLV.out; omega)).below (bAl (bRefl V) _), fun b hb e => by have e' : b = V.heap.size := e; have := HRV.out.2.2.lt hb; omega⟩
   obtain ⟨W3, hW3⟩ : ∃ x, x = V.alloc (.cells (lgC 0 (.slice none 0 0) (.slice none 0 0) (.slice none 0 0) (.slice none 0 0)) 56) := ⟨_, rfl⟩
   have hR3 : OwR tI w3.heap.size W3 sa.v T ∧ OwR tI w4.heap.size W3 sb.v T := by
    rw [hW3]
    exact ⟨HRV.out.1.below (bAl (bRefl V) _), HRV.out.2.1.below (bAl (bRefl V) _)⟩
   rw [← hW3] at hT0
   have HR3 := Lib.hid hR3
   have HT0 := Lib.hid hT0
   have hW3' : V.alloc (.cells #[.int .i64 0, .slice none 0 0, .slice none 0 0, .slice none 0 0, .slice none 0 0, .bool false] 56) = W3 := hW3.symm
   rw [hW3']
   have HVL := Lib.hid (And.intro (fun b hb => HRV.out.1.lt hb : ∀ b, sa.v.ownBlock = some b → b < V.heap.size) (And.intro (fun b hb => HRV.out.2.1.lt hb : ∀ b, sb.v.ownBlock = some b → b < V.heap.size) (show V.heap.size < W3.heap.size by rw [hW3]; simp)))
   obtain ⟨pl, hpl⟩ : ∃ x, x = V.heap.size := ⟨_, rfl⟩
   rw [← hpl] at HT0 HVL HLV ⊢
   clear hT0 hR3 hW3 hW3' hpl HRV HIV HBV
   have hTn : T.length ≤ 1048576 := by rw [HZ.out.2.2, List.length_take]; have := HZ.out.1.length_eq; rw [iot_len] at this; have := HFL.out; omega
   have HTN := Lib.hid hTn
   clear hTn
   go_wp2_with fail
   refine (own_ok W3 _ pl 0 HT0.out.led (by omega) sa.a sa.n sa.c T (HR3.out.1.mono (Nat.zero_le _)) (by have h1 : sa.n = T.length := own_n (s := sa) HR3.out.1; have := HTN.out; omega) (fun b hb e => by have e' : b = pl := e; have := HVL.out.1 b hb; omega)).mono ?_
   rintro e w10 ⟨rfl, fu, led⟩
   have hl3 := HLV.out
   have hT1 := HT0.out.own (HR3.out.1.mono (by omega)) (fun e => by have h1 := (HR3.out.1.blk e).1; have h2 := HG3.out; omega) (fun b hb e => by have h1 := HT7.out.2 b hb; have h2 := HA7.out.2.1 b e; omega) fu led
   have hbU : ∀ b, sb.v.ownBlock = some b → ¬ (b = pl ∨ sa.v.ownBlock = some b ∨ (W3.heap.size ≤ b ∧ b < w10.heap.size)) := fun b hb e => by
    have h1 := HVL.out.2.1 b hb
    rcases e with e | e | e
    ·omega
    ·have h3 := HA7.out.2.1 b e
     have h4 := (HR3.out.2.blk hb).1
     omega
    ·have := HVL.out.2.2; omega
   have HB10 := Lib.hid (fu.ow HR3.out.2 (fun b hb e => hbU b hb (e.elim Or.inl (fun e => Or.inr (Or.inl e)))))
   obtain ⟨U1, hU1⟩ : ∃ X : Nat → Prop, X = fun b => b = pl ∨ sa.v.ownBlock = some b ∨ (W3.heap.size ≤ b ∧ b < w10.heap.size) := ⟨_, rfl⟩
   rw [← hU1] at hT1
   have HT1 := Lib.hid hT1
   have HBU := Lib.hid (show ∀ b, sb.v.ownBlock = some b → ¬ U1 b by rw [hU1]; exact hbU)
   clear hT1 hbU hU1 fu led HT0 HR3 hl3
   go_wp2_with fail
   refine (own_ok w10 U1 pl 1 HT1.out.led (by omega) sb.a sb.n sb.c T (HB10.out.mono (Nat.zero_le _)) (by have h1 : sb.n = T.length := own_n (s := sb) HB10.out; have := HTN.out; omega) HBU.out).mono ?_
   rintro e w11 ⟨rfl, fu, led⟩
   have hl3 := HLV.out
   have hT2 := HT1.out.own (HB10.out.mono (by omega)) (fun e => by have h1 := (HB10.out.blk e).1; have h2 := HG3.out; omega) (fun b hb e => by have h1 := HT7.out.2 b hb; have h2 := HA7.out.2.2.2 b e; omega) fu led
   obtain ⟨U2, hU2⟩ : ∃ X : Nat → Prop, X = fun b => U1 b ∨ sb.v.ownBlock = some b ∨ (w10.heap.size ≤ b ∧ b < w11.heap.size) := ⟨_, rfl⟩
   rw [← hU2] at hT2
   have HT2 := Lib.hid hT2
   clear hT2 hU2 fu led HT1 HBU HB10 hl3
   go_wp2_with fail
   refine (htopZ_ok w11 w11.heap.size _ F n (HIN.out _ _ HT2.out.ll) (by rw [HFL.out]; omega) Z HZ.out.1 HZ.out.2.1).mono ?_
   rintro e w12 ⟨b12, sc, rfl, oc⟩
   rw [← HZ.out.2.2] at oc
   have HT3 := Lib.hid (HT2.out.below b12)
   have HC := Lib.hid oc
   have h12 := b12.size
   have HCU := Lib.hid (fun b hb e => by have h1 := HT2.out.dn b e; have h2 := (oc.blk hb).1; omega : ∀ b, sc.v.ownBlock = some b → ¬ U2 b)
   have h11 := HT2.out.bel.size
   have hg11 : g < w11.heap.size := OwR.lt HT2.out.ll rfl
   have HCG := Lib.hid (And.intro (fun e => by have h2 := (oc.blk e).1; omega : sc.v.ownBlock ≠ some g) (And.intro (fun b hb e => by have h1 := HT2.out.tt.lt hb; have h2 := (oc.blk e).1; omega : ∀ b, st.v.ownBlock = some b → sc.v.ownBlock ≠ some b) h11))
   clear oc b12 h12 h11 hg11 HT2
   go_wp2_with fail
   refine (own_ok w12 U2 pl 2 HT3.out.led (by omega) sc.a sc.n sc.c T (HC.out.mono (Nat.zero_le _)) (by have h1 : sc.n = T.length := own_n (s := sc) HC.out; have := HTN.out; omega) HCU.out).mono ?_
   rintro e w13 ⟨rfl, fu, led⟩
   have hT4 := HT3.out.own (HC.out.mono HCG.out.2.2) HCG.out.1 HCG.out.2.1 fu led
   obtain ⟨U3, hU3⟩ : ∃ X : Nat → Prop, X = fun b => U2 b ∨ sc.v.ownBlock = some b ∨ (w12.heap.size ≤ b ∧ b < w13.heap.size) := ⟨_, rfl⟩
   rw [← hU3] at hT4
   have HT4 := Lib.hid hT4
   clear hT4 hU3 fu led HT3 HC HCU HCG
   go_wp2_with fail
   refine (done_ok w13 U3 pl 3 HT4.out.led (by omega)).mono ?_
   rintro e w14 ⟨rfl, fu⟩
   have HL5 := Lib.hid (fu.ow HT4.out.ll (fun b hb e => HT4.out.lU (by rw [show g = b by injection hb]; exact e)) : Cf w.heap.size g cp w14 F)
   have HT5 := Lib.hid (fu.ow HT4.out.tt HT4.out.tU)
   have HB5 := Lib.hid (fu.bel HT4.out.bel HT4.out.up)
   clear fu HT4
   go_wp2_with fail
   refine (htopZ_ok w14 w14.heap.size _ F n (HIN.out _ _ HL5.out) (by rw [HFL.out]; omega) Z HZ.out.1 HZ.out.2.1).mono ?_
   rintro e w15 ⟨b15, sd, rfl, od⟩
   rw [← HZ.out.2.2] at od
   have HD := Lib.hid (And.intro (OwR.slz od) (OwR.slz (HT5.out.below b15)))
   have HB6 := Lib.hid (bThen HB5.out b15)
   clear b15 od HB5 HT5 HL5
   go_wp2_with fail
   refine (sameInts_ok w15 w15.heap.size w15.heap.size _ _ T T HD.out.1 HD.out.2).mono ?_
   rintro e w16 ⟨rfl, b16⟩
   rw [decide_eq_true (rfl : T = T)]
   have HB7 := Lib.hid (bThen HB6.out b16)
   clear b16 HD HB6
   go_wp2
   go_ret
   exact ⟨rfl, HB7.out⟩
end Go.Proofs.Ytndnfjcfpcfakaa
namespace Go.Proofs.Ytndnfjcfpcfakaa
open Go Go.RowKit Go.Wr Go.Fl
open Go.ChangeShapes Go.WideShapes Go.ChangeAt Go.Deep
set_option maxHeartbeats 4000000
set_option maxRecDepth 100000
set_option maxRecDepth 100000 in
theorem heatTops_lifted (os : Os) (started : os.Started) (H : Type) (enc : TypeId × Value → H) (F : Stop.Interp) :
  ReturnsInHanded {} Try.checked os 7 .any ((Rows.OpenSpec.upto Rows.heatTopsSpec).pre6 enc Try.prog Try.f7 Rows.heatTopsUptoRow.domain false) (((Rows.OpenSpec.upto Rows.heatTopsSpec).at F).post enc Try.prog Try.f7 false true false false) := by
 refine returnsInHanded_of_cond (C := Try.checked) (s := Rows.OpenSpec.upto Rows.heatTopsSpec) (k := Rows.uptoSmall) rfl own started (by kernel_rfl) Try.func7
  (OpenSpec.witness (enc := enc) (C := Try.checked) (s := Rows.OpenSpec.upto Rows.heatTopsSpec) (k := Rows.uptoSmall) rfl false ⟨#[], #[.slice none 0 0, .int .i64 0], []⟩ 8 (by kernel_rfl) (by kernel_rfl) (by kernel_rfl)
   (x := ([.nil, .lit (.int .i64 0)], [], [])) (by kernel_rfl) rfl (by kernel_rfl)) ?_
 intro W base args ds gs before hval0 hW _ hk _
 have hval : ∀ (j : Nat) t v, Try.f7.params[j]? = some t → args[j]? = some v → Value.okWide Try.prog W .any base t v := hval0
 have hW' := hW
 obtain ⟨p, q, hA0, hV, rfl, hfz, hnd⟩ := hW
 have hA : DataW.TrodAll enc Try.prog W 0 (fun _ => true) true Try.f7.params.toList args.toList ds p := hA0
 rw [Try.params7] at hA hval
 obtain ⟨v0, vs0, d0, ds0, p0, q0, hargs, rfl, rfl, h0, r0⟩ := trodAll_cons hA
 obtain ⟨v1, vs1, d1, ds1, p1, q1, rfl, rfl, rfl, h1, r1⟩ := trodAll_cons r0
 obtain ⟨rfl, rfl, rfl⟩ := trodAll_nil r1
 obtain rfl : args = #[v0, v1] := by cases args; simp_all
 obtain ⟨rfl, rfl⟩ := trodVars_none hV
 have hz : Rows.uptoBulkAll ([d0, d1] ++ []) ≤ 1048576 := by simpa [Rows.uptoSmall] using hk
 simp only [List.append_nil, Rows.uptoBulkAll] at hz
 have k0 := h0
 have lt0 : ∀ x ∈ p0, x.block < W.heap.size := by obtain ⟨m, hm⟩ := k0; exact DataW.trod_lt m _ _ _ hm
 obtain ⟨a0, len0, cap0, rfl⟩ := okWide_slice Try.underlying46 (hval 0 46 v0 rfl rfl)
 obtain ⟨l0, g0, z0, y0⟩ : ∃ l, SlX tU W.heap.size W (.slice a0 len0 cap0) l ∧ l.length ≤ 1048576 ∧ ∀ y ∈ l, (Lit.int .u64 y).wf = true := by
  obtain ⟨fuel, hf⟩ := h0
  exact open_u64sz (x := (d0, p0)) (by simpa [Value.cells] using hf) (by show Rows.uptoBulk d0 ≤ _; omega)
 have k1 := h1
 have lt1 : ∀ x ∈ p1, x.block < W.heap.size := by obtain ⟨m, hm⟩ := k1; exact DataW.trod_lt m _ _ _ hm
 obtain ⟨n1, rfl, rfl, rfl, w1⟩ := open_int Try.underlying3 (hval 1 3 v1 rfl rfl) h1
 clear hA0 hval0 hval hfz hnd hk hA
 refine (tops_ok W W.heap.size _ l0 g0 z0 y0 n1 (i64_of_wf w1)).mono fun e W' ⟨he, bel⟩ => ?_
 subst he
 exact ⟨_, rfl, _, _, _, [], _, [], hW', trodAll_mk1 (shut_bool Try.underlying4 _), (trodAll_cons_mk (Below.trod laidOut (by kernel_rfl) (of_decide_eq_true (by kernel_rfl)) k0 bel lt0) (trodAll_cons_mk (Below.trod laidOut (by kernel_rfl) (of_decide_eq_true (by kernel_rfl)) k1 bel lt1) trodAll_mk0)), rfl, bel.frame _, fun h => by cases h⟩
theorem HeatTopsUpto_holds : Rows.HeatTopsUptoSaid :=
 OpenClaim.holds_of_cond 7 Try.f7 rfl rfl rfl rfl rfl rfl rfl ⟨rfl, rfl, rfl, rfl, rfl⟩ rfl rfl rfl rfl rfl (by kernel_rfl) Try.func7 (by kernel_rfl)
  (of_decide_eq_true (by kernel_rfl)) (by unfold Func.isWrapper; rw [if_neg (of_decide_eq_false (by kernel_rfl))]; exact ⟨rfl, rfl⟩)
  (fun os started H enc _ F => heatTops_lifted os started H enc F)
#print axioms HeatTopsUpto_holds
end Go.Proofs.Ytndnfjcfpcfakaa
