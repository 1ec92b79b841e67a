/- The law's SameDeed: what it answers. -/
import Derived.Test.YtfdjdpbiccclfaaDSc
import Derived.Test.YtfdjdpbiccclfaaDEnc
namespace Go.Proofs.Ytfdjdpbiccclfaa
open Go Go.RowKit Go.Wr
set_option maxHeartbeats 4000000
set_option maxRecDepth 100000

def eqLp (a b : Lp) : Bool := a.h == b.h && (a.a == b.a && (a.b == b.b && (a.k == b.k && a.d == b.d)))
theorem eqLp_iff {a b : Lp} : eqLp a b = true ↔ a = b := by
  cases a; cases b; simp [eqLp]
theorem guardL : Try.prog.eqGuardType Try.prog.depth 54 = false := by kernel_rfl
theorem run_eq_loop (w : World) (d : Nat) (a b : Lp) : (Op.equalIn (d + 2) 54 (.agg (lpv a)) (.agg (lpv b))).run Try.prog w = .ok (eqLp a b) w := by
  have hS : Try.prog.underlying 54 = some (.struct (Try.prog.fieldsOf 54)) := by kernel_rfl
  have hp : Try.prog.stoodInHeld 54 = false := by kernel_rfl
  have ui := Try.underlying3
  have ai := Try.isAgg3
  have si := Try.sizeOf3
  rw [run_equalIn_agg w (d + 1) 54 _ _ hS hp]
  simp only [Program.fieldsOf, Try.underlying54, lpv]
  go_simp
  by_cases h1 : a.h = b.h <;> by_cases h2 : a.a = b.a <;> by_cases h3 : a.b = b.b <;> by_cases h4 : a.k = b.k <;> by_cases h5 : a.d = b.d <;> simp [h1, h2, h3, h4, h5, eqLp]

def sameCs : List Cl → List Cl → Bool
  | [], [] => true
  | x :: l, y :: m => sameC x y && sameCs l m
  | _, _ => false
def sameD (d e : Dd) : Bool := decide (d.ls = e.ls) && sameCs d.cs e.cs
theorem sameCs_len {l : List Cl} : ∀ {m : List Cl}, sameCs l m = true → l.length = m.length := by
  induction l with
  | nil => intro m h; cases m with
    | nil => rfl
    | cons y m => cases h
  | cons x l ih => intro m h; cases m with
    | nil => cases h
    | cons y m =>
      simp only [sameCs, Bool.and_eq_true] at h
      simp only [List.length_cons, ih h.2]
theorem sameCs_iff {l : List Cl} : ∀ {m : List Cl}, sameCs l m = true ↔ l.length = m.length ∧ ∀ (i : Nat) (x y : Cl), l[i]? = some x → m[i]? = some y → sameC x y = true := by
  induction l with
  | nil => intro m; cases m <;> simp [sameCs]
  | cons x l ih =>
    intro m
    cases m with
    | nil => simp [sameCs]
    | cons y m =>
      simp only [sameCs, Bool.and_eq_true, ih, List.length_cons]
      constructor
      · rintro ⟨h1, h2, h3⟩
        refine ⟨by omega, fun i a b ha hb => ?_⟩
        cases i with
        | zero =>
          simp only [List.getElem?_cons_zero, Option.some.injEq] at ha hb
          subst ha hb
          exact h1
        | succ i =>
          simp only [List.getElem?_cons_succ] at ha hb
          exact h3 i a b ha hb
      · rintro ⟨h1, h2⟩
        exact ⟨h2 0 x y rfl rfl, by omega, fun i a b ha hb => h2 (i + 1) a b (by simpa using ha) (by simpa using hb)⟩
theorem exec_loadR {op : Oper} {a : Act} {w : World} (ty : TypeId) (x : Operand) (ho : op.op = .load ty x)
    (b o : Nat) (hx : a.eval x = .pointer (some ⟨b, o, none⟩)) {D : Array Value} (hc : w.rangeAt b o D.toList) {n : Nat} (hr : RowTy Try.prog ty n) (hn : D.size = n) :
    (execOp a.eval op).run Try.prog w = .ok (.value (.agg D)) w := by
  obtain ⟨d, hu, hd, hi⟩ := hr
  have := run_loadAt_mid (P := Try.prog) w b o ty D.toList d hc hu hd (by rw [hi]; simp; omega)
  unfold execOp
  simp only [ho, hx, Sem.run_bind, this, Result.andThen_ok, Array.toArray_toList, Sem.run_pure]

theorem samedeed_ok (w : World) (vl vc vl' vc' : Value) (d d' : Dd) (h : SlD w.heap.size w vl vc d) (h' : SlD w.heap.size w vl' vc' d') :
    Calls Try.prog 22 #[.agg #[vl, vc], .agg #[vl', vc']] w fun e w' => e = .returned (.bool (sameD d d')) ∧ Below w.heap.size w w' := by
  obtain ⟨ls, cs⟩ := d
  obtain ⟨ls', cs'⟩ := d'
  obtain ⟨⟨al, capl, rfl, hl⟩, ⟨ac, capc, rfl, hcl⟩, nl, nc, nb⟩ := h
  obtain ⟨⟨al', capl', rfl, hl'⟩, ⟨ac', capc', rfl, hcl'⟩, nl', nc', nb'⟩ := h'
  simp only at hl hcl nl nc nb hl' hcl' nl' nc' nb'
  have HL := Lib.hid hl
  have HC := Lib.hid hcl
  have HL' := Lib.hid hl'
  have HC' := Lib.hid hcl'
  have NB := Lib.hid nb
  obtain ⟨t, ht⟩ : ∃ t, t = sameD ⟨ls, cs⟩ ⟨ls', cs'⟩ := ⟨_, rfl⟩
  rw [← ht]
  unfold sameD at ht
  simp only at ht
  have HT := Lib.hid ht
  clear hl hcl hl' hcl' nb nb' ht
  by_cases hn : ls.length = ls'.length
  · have hn1 : ((ls.length : Int) != (ls'.length : Int)) = false := by rw [bne_eq_false_iff_eq]; omega
    by_cases hm : cs.length = cs'.length
    · have hm1 : ((cs.length : Int) != (cs'.length : Int)) = false := by rw [bne_eq_false_iff_eq]; omega
      have HN := Lib.hid hn
      have HM := Lib.hid hm
      clear hn hm
      go_enter Try.func22, Try.ntmps22
      go_upto_region 3 with (fail)
      generalize hW : ((w.alloc (.cells #[.slice al ls.length capl, .slice ac cs.length capc] 26)).alloc (.cells #[.slice al' ls'.length capl', .slice ac' cs'.length capc'] 26)) = W
      have tW : Below w.heap.size w W := by rw [← hW]; exact bAl (bAl (bRefl w) _) _
      have QB : Blk W w.heap.size 26 #[.slice al ls.length capl, .slice ac cs.length capc] := by rw [← hW]; exact Blk.alloc (Blk.new _ _ _) _
      have ZB : Blk W (w.heap.size + 1) 26 #[.slice al' ls'.length capl', .slice ac' cs'.length capc'] := by rw [← hW]; exact Blk.new_at _ _ (by simp)
      have HQ := Lib.hid QB
      have HZ := Lib.hid ZB
      clear hW QB ZB
      go_wp2
      go_loopw [5] (fun u wr => ∃ k : Nat, k ≤ ls.length ∧ u = .int .i64 (k : Int) ∧ Hid (∀ i, i < k → ls[i]? = ls'[i]?) ∧ Below w.heap.size w wr ∧ Below W.heap.size W wr) (fun u _ => ls.length - (intOf u).toNat)
      case atStart => exact ⟨0, by omega, rfl, (fun i hi => by omega), tW, bRefl _⟩
      case round =>
        obtain ⟨k, hk, rfl, he, hbel, hbW⟩ := hrel
        have q0 := (HQ.out.below hbW HQ.out.lt).cell 0
        have z0 := (HZ.out.below hbW HZ.out.lt).cell 0
        have q1 := (HQ.out.below hbW HQ.out.lt).cell 1
        have z1 := (HZ.out.below hbW HZ.out.lt).cell 1
        simp only [List.getElem?_toArray, List.getElem?_cons_zero, List.getElem?_cons_succ] at q0 z0 q1 z1
        by_cases hlt : k < ls.length
        · have hlt' : (k : Int) < (ls.length : Int) := by omega
          have hlt2 : (k : Int) < (ls'.length : Int) := by have := HN.out; omega
          obtain ⟨x, hx⟩ : ∃ x, ls[k]? = some x := ⟨_, List.getElem?_eq_getElem hlt⟩
          obtain ⟨y, hy⟩ : ∃ x, ls'[k]? = some x := ⟨_, List.getElem?_eq_getElem (by have := HN.out; omega)⟩
          obtain ⟨bb, off, rfl, hbb, hra⟩ := HL.out k x hx
          obtain ⟨bc, off', rfl, hbc, hrb⟩ := HL'.out k y hy
          obtain ⟨g0, g1, g2, g3, g4⟩ := lpv_range (rangeAt_below hra hbel hbb)
          obtain ⟨k0, k1, k2, k3, k4⟩ := lpv_range (rangeAt_below hrb hbel hbc)
          have HXY := Lib.hid (And.intro hx hy)
          clear hx hy hra hrb
          go_upto_region 6 with (fail)
          refine wp_still mix (by kernel_rfl) ?_
          iterate 10 still_step
          refine wpStill_val (by rfl) (.bool (!eqLp x y)) (exec_neq 54 (.tmp 34) (.tmp 39) 54 rfl rfl rfl guardL (run_eq_loop _ 9998 x y)) ?_
          refine wpStill_nil ?_
          cases hq : eqLp x y with
          | false =>
            have e1 : Hid (t = false) := by
              show _ = _
              rw [HT.out]
              have : ¬ ls = ls' := by
                rintro rfl
                have h2 := HXY.out.1.symm.trans HXY.out.2
                injection h2 with h2
                rw [eqLp_iff.2 h2] at hq
                cases hq
              simp [this]
            clear hq he HXY
            go_wp2
            go_ret
            exact ⟨by rw [e1.out]; rfl, hbel.drew⟩
          | true =>
            have he2 : Hid (∀ i, i < k + 1 → ls[i]? = ls'[i]?) := fun i hi => by
              by_cases hik : i < k
              · exact he.out i hik
              · obtain rfl : i = k := by omega
                rw [HXY.out.1, HXY.out.2, eqLp_iff.1 hq]
            clear hq he HXY
            go_wp2
            go_roundw
            all_goals first
              | exact ⟨k + 1, by omega, by go_num, he2, hbel.drew, hbW.drew⟩
              | ((repeat apply Exists.intro); exact ⟨⟨k + 1, by omega, by go_num, he2, hbel.drew, hbW.drew⟩, rfl⟩)
              | (simp [intOf]; omega)
        · obtain rfl : k = ls.length := by omega
          have HT2 : Hid (t = sameCs cs cs') := by
            show _ = _
            have : ls = ls' := List.ext_getElem? fun i => by
              by_cases hi : i < ls.length
              · exact he.out i hi
              · have := HN.out
                rw [List.getElem?_eq_none (by omega), List.getElem?_eq_none (by omega)]
            rw [HT.out, decide_eq_true this, Bool.true_and]
          clear he hlt hk HT tW
          go_wp2
          go_loopw [6] (fun u wq => ∃ k : Nat, k ≤ cs.length ∧ u = .int .i64 (k : Int) ∧ Hid (∀ i, i < k → ∀ x y : Cl, cs[i]? = some x → cs'[i]? = some y → sameC x y = true) ∧ Below w.heap.size w wq ∧ Below W.heap.size W wq) (fun u _ => cs.length - (intOf u).toNat)
          case atStart => exact ⟨0, by omega, rfl, (fun i hi => by omega), hbel, hbW⟩
          case round =>
            clear hbel hbW q0 z0 q1 z1
            obtain ⟨k, hk, rfl, he, hbel, hbW⟩ := hrel
            have q1 := (HQ.out.below hbW HQ.out.lt).cell 1
            have z1 := (HZ.out.below hbW HZ.out.lt).cell 1
            simp only [List.getElem?_toArray, List.getElem?_cons_zero, List.getElem?_cons_succ] at q1 z1
            by_cases hlt : k < cs.length
            · have hlt' : (k : Int) < (cs.length : Int) := by omega
              have hlt2 : (k : Int) < (cs'.length : Int) := by have := HM.out; omega
              obtain ⟨x, hx⟩ : ∃ x, cs[k]? = some x := ⟨_, List.getElem?_eq_getElem hlt⟩
              obtain ⟨y, hy⟩ : ∃ x, cs'[k]? = some x := ⟨_, List.getElem?_eq_getElem (by have := HM.out; omega)⟩
              obtain ⟨bb, off, vx, rfl, hbb, hra, hsx⟩ := HC.out k x hx
              obtain ⟨bc, off', vy, rfl, hbc, hrb, hsy⟩ := HC'.out k y hy
              have HRA := Lib.hid (rangeAt_below hra hbel hbb)
              have HRB := Lib.hid (rangeAt_below hrb hbel hbc)
              have hsz := hbel.size
              have HSX := Lib.hid ((hsx.below hbel).mono hsz)
              have HSY := Lib.hid ((hsy.below hbel).mono hsz)
              have hnx := NB.out x (List.mem_of_getElem? hx)
              have HXY := Lib.hid (And.intro hx hy)
              clear hx hy hra hrb hsx hsy
              go_upto_region 11 with (fail)
              refine wp_tail 10 mix (by kernel_rfl) ?_
              simp only [List.take_succ_cons, List.take_zero, List.drop_succ_cons, List.drop_zero]
              iterate 4 still_step
              refine wpStill_val (by rfl) (.agg (bx (.bool x.d) x.f vx)) (exec_loadR 61 (.tmp 51) rfl bb (off + k * 128) rfl HRA.out rowClaim (bx_size _ _ _)) ?_
              iterate 4 still_step
              refine wpStill_val (by rfl) (.agg (bx (.bool y.d) y.f vy)) (exec_loadR 61 (.tmp 56) rfl bc (off' + k * 128) rfl HRB.out rowClaim (bx_size _ _ _)) ?_
              refine wpStill_nil ?_
              go_wp2_with fail
              refine (sameclaim_ok wr.drew x y vx vy (HSX.out.below (w' := wr.drew) ⟨rfl, rfl, rfl, Nat.le_refl _, fun _ _ => rfl⟩) (HSY.out.below (w' := wr.drew) ⟨rfl, rfl, rfl, Nat.le_refl _, fun _ _ => rfl⟩) hnx).mono ?_
              rintro e w2 ⟨rfl, b2⟩
              have t2 := bThen hbel.drew b2
              have t3 := bThen hbW.drew b2
              clear b2
              cases hq : sameC x y with
              | false =>
                have e1 : Hid (t = false) := by
                  show _ = _
                  rw [HT2.out, Bool.eq_false_iff]
                  intro e
                  have := (sameCs_iff.1 e).2 k x y HXY.out.1 HXY.out.2
                  rw [hq] at this
                  cases this
                clear hq he HXY
                go_wp2
                go_ret
                exact ⟨by rw [e1.out]; rfl, t2⟩
              | true =>
                have he2 : Hid (∀ i, i < k + 1 → ∀ x y : Cl, cs[i]? = some x → cs'[i]? = some y → sameC x y = true) := fun i hi x' y' hx' hy' => by
                  by_cases hik : i < k
                  · exact he.out i hik x' y' hx' hy'
                  · obtain rfl : i = k := by omega
                    have h1 := hx'.symm.trans HXY.out.1
                    have h2 := hy'.symm.trans HXY.out.2
                    injection h1 with h1
                    injection h2 with h2
                    rw [h1, h2]
                    exact hq
                clear hq he HXY
                go_wp2
                go_roundw
                all_goals first
                  | exact ⟨k + 1, by omega, by go_num, he2, t2, t3⟩
                  | ((repeat apply Exists.intro); exact ⟨⟨k + 1, by omega, by go_num, he2, t2, t3⟩, rfl⟩)
                  | (simp [intOf]; omega)
            · obtain rfl : k = cs.length := by omega
              have e1 : Hid (t = true) := by
                show _ = _
                rw [HT2.out, sameCs_iff]
                exact ⟨HM.out, fun i x y hx hy => he.out i (List.getElem?_eq_some_iff.1 hx).1 x y hx hy⟩
              clear he hlt hk
              go_wp2
              go_ret
              exact ⟨by rw [e1.out]; rfl, hbel⟩
    · have hm1 : ((cs.length : Int) != (cs'.length : Int)) = true := by rw [bne_iff_ne]; omega
      have e1 : Hid (t = false) := by
        show _ = _
        rw [HT.out]
        have : sameCs cs cs' = false := by rw [Bool.eq_false_iff]; exact fun e => hm (sameCs_len e)
        rw [this, Bool.and_false]
      have HN := Lib.hid hn
      clear hn hm
      go_enter Try.func22, Try.ntmps22
      go_wp2
      go_ret
      exact ⟨by rw [e1.out]; rfl, bAl (bAl (bRefl w) _) _⟩
  · have hn' : ((ls.length : Int) != (ls'.length : Int)) = true := by rw [bne_iff_ne]; omega
    have e1 : Hid (t = false) := by
      show _ = _
      rw [HT.out, decide_eq_false (fun e => hn (congrArg List.length e)), Bool.false_and]
    clear hn
    go_enter Try.func22, Try.ntmps22
    go_wp2
    go_ret
    exact ⟨by rw [e1.out]; rfl, bAl (bAl (bRefl w) _) _⟩
end Go.Proofs.Ytfdjdpbiccclfaa
