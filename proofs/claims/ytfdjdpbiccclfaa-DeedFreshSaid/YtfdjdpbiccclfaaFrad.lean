/- What the law needs, one part after another: walks of functions and plain laws. No conditions but those that each law names. -/
import Derived.Test.YtfdjdpbiccclfaaFrac
import Derived.Lib.SlBytesConst
namespace Go.Proofs.Ytfdjdpbiccclfaa
open Go Go.RowKit Go.Wr
set_option maxHeartbeats 4000000
set_option maxRecDepth 100000
theorem step_none {P : Program} {ops : Array Oper} {op : Oper} {a : Act} {w : World} {K : Act → World → Prop} {Q : Exit → Act → World → Prop} {E : Prop} (hgd : op.guard = none) (h : Oper.wp P op a w K Q) : if Region.wanted op (yielded ops a.tmps) = true then Oper.wp P op a w K Q else E := by
  have hw : Region.wanted op (yielded ops a.tmps) = true := by simp [Region.wanted, hgd]
  rw [if_pos hw]
  exact h
theorem wp_gen {P : Program} {op : Oper} {a : Act} {w : World} {K : Act → World → Prop} {Q : Exit → Act → World → Prop} (h : ∀ A, A = a → Oper.wp P op A w K Q) : Oper.wp P op a w K Q := h a rfl
structure Fz (col col' : Nat → Nat) (w w' : World) : Prop where
  os : w'.os = w.os
  tape : w'.tape = w.tape
  output : w'.output = w.output
  size : w.heap.size ≤ w'.heap.size
  block : ∀ b, b < w.heap.size → col b = 0 → w'.heap[b]? = w.heap[b]? ∧ col' b = 0
theorem Lg.fs {col : Nat → Nat} {p i : Nat} {tot : Int × Int} {fv wv kv sv : Sn} {fr wl kl : List Sn} {ids : List Int} {w : World} (h : Lg col p i tot fv wv kv sv fr wl kl ids w) : SlX tYY p w fv.v fr :=
  h.fo.sl fun e => by have := h.fc p e; rw [h.pc] at this; omega
theorem Lg.ws {col : Nat → Nat} {p i : Nat} {tot : Int × Int} {fv wv kv sv : Sn} {fr wl kl : List Sn} {ids : List Int} {w : World} (h : Lg col p i tot fv wv kv sv fr wl kl ids w) : SlX tYY p w wv.v wl :=
  h.wo.sl fun e => by have := h.wc p e; rw [h.pc] at this; omega
theorem Lg.ne {col : Nat → Nat} {p i : Nat} {tot : Int × Int} {fv wv kv sv : Sn} {fr wl kl : List Sn} {ids : List Int} {w : World} (h : Lg col p i tot fv wv kv sv fr wl kl ids w) {v : Value} {c : Nat} (hc : ∀ g, v.ownBlock = some g → col g = c) (h1 : c ≠ 1) : v.ownBlock ≠ some p :=
  fun e => by have := hc p e; rw [h.pc] at this; omega
theorem own_wf {α : Type} {R : RT Try.prog α} {B : Nat} {w : World} {a : Option Addr} {n c : Nat} {l : List α} (h : OwR R B w (Sn.v ⟨a, n, c⟩) l) : n ≤ c ∧ c ≤ 9223372036854775807 := by
  unfold Sn.v at h
  simp only at h
  rcases h.form with ⟨e, _⟩ | ⟨g, cap, e, e1, e2, _⟩
  · injection e with _ e1 e2; omega
  · injection e with _ e3 e4
    unfold maxLen at e2
    omega
theorem own_z {α : Type} {R : RT Try.prog α} {B : Nat} {w : World} {s : Sn} {l : List α} (h : OwR R B w s.v l) : ∀ b q, s.a = some ⟨b, q, none⟩ → q = 0 := fun b q hs => by
  rcases h.form with ⟨e, _⟩ | ⟨g, cap, e, _⟩
  · injection e with e _ _; rw [hs] at e; cases e
  · injection e with e _ _
    rw [hs] at e
    injection e with e
    injection e
theorem own_a {α : Type} {R : RT Try.prog α} {B : Nat} {w : World} {a : Option Addr} {n c : Nat} {l : List α} (h : OwR R B w (Sn.v ⟨a, n, c⟩) l) (hn : 0 < n) : ∃ q, a = some ⟨q, 0, none⟩ := by
  unfold Sn.v at h
  simp only at h
  rcases h.form with ⟨e, _⟩ | ⟨g, cap, e, _⟩
  · injection e with _ e _; omega
  · injection e with e _ _
    exact ⟨g, e⟩
theorem PA.pb {W : World} {col : Nat → Nat} {p : Nat} {tot : Int × Int} {fv wv kv sv : Sn} {fr wl kl : List Sn} {ids : List Int} {i j : Nat} {cont : Nat → List By} {w : World} (h : PA W col p tot fv wv kv sv fr wl kl ids i j cont w) (hi : i = fr.length) :
    PB W col p tot fv wv fr wl kl.length 0 0 col kv sv kl ids w :=
  ⟨h.lg, h.st.mono (fun c hc => by omega), fun k s hk => by
    obtain ⟨a1, a2, a3⟩ := h.rows k s hk
    have hd := h.done k s (by have := (List.getElem?_eq_some_iff.1 hk).1; omega) hk
    rw [hd] at a1
    exact ⟨a1.sl (h.lg.ne a3 (by omega)), a2, fun g hg => ⟨a1.lt hg, a3 g hg⟩, own_z a1, fun _ => a1⟩⟩
theorem Lg.grown {col : Nat → Nat} {p i : Nat} {tot : Int × Int} {fv wv kv sv : Sn} {fr wl kl : List Sn} {ids : List Int} {w w' : World} (h : Lg col p i tot fv wv kv sv fr wl kl ids w) {o : Obj} {v : Value} {c : Nat} (hg : (w.alloc o).grownBy w' v.ownBlock) (hc : ∀ g, v.ownBlock = some g → col g = c) (h1 : c ≠ 1) : Blk w' p 51 (lgC tot fv.v wv.v kv.v sv.v) :=
  h.pb.of_block (by
    rw [hg.block p (by simp; have := h.pb.lt; omega) (fun e => h.ne hc h1 e.symm)]
    exact Below.heap_alloc w o p h.pb.lt)
theorem Lg.close {col : Nat → Nat} {p i : Nat} {tot : Int × Int} {fv wv kv sv : Sn} {fr wl kl : List Sn} {ids : List Int} {w : World} (h : Lg col p i tot fv wv kv sv fr wl kl ids w) :
    Lg (fun b => if 6 ≤ col b then 6 else col b) p 0 tot ⟨none, 0, 0⟩ ⟨none, 0, 0⟩ kv sv [] [] kl ids ((w.setCell ⟨p, 2, none⟩ (.slice none 0 0)).setCell ⟨p, 3, none⟩ (.slice none 0 0)) ∧ Stp (fun c => c = 1) col col w ((w.setCell ⟨p, 2, none⟩ (.slice none 0 0)).setCell ⟨p, 3, none⟩ (.slice none 0 0)) := by
  have s1 : Stp (fun c => c = 1) col col w (w.setCell ⟨p, 2, none⟩ (.slice none 0 0)) := Stp.set (r := fun c => c = 1) (c := 1) rfl h.pc
  have s2 : Stp (fun c => c = 1) col col (w.setCell ⟨p, 2, none⟩ (.slice none 0 0)) ((w.setCell ⟨p, 2, none⟩ (.slice none 0 0)).setCell ⟨p, 3, none⟩ (.slice none 0 0)) := Stp.set (r := fun c => c = 1) (c := 1) rfl h.pc
  have st := s1.trans s2
  refine ⟨⟨((h.pb.set 2 _).set 3 _).eq rfl, by simp [h.pc], OwR.nil _ _, fun g hg => (by cases hg), OwR.nil _ _, fun g hg => (by cases hg),
    st.own h.ko fun g hg => by rw [h.kc g hg]; omega, fun g hg => by simp [h.kc g hg],
    st.own h.so fun g hg => by rw [h.sc g hg]; omega, fun g hg => by simp [h.sc g hg], fun k s x hk hx => ?_⟩, st⟩
  obtain ⟨a1, a2, n, a3, a4, a5⟩ := h.kr k s x hk hx
  exact ⟨a1, a2, n, a3, st.sl a4 fun g hg k => by have := (a5 g hg).2.1; omega, fun g hg => ⟨Nat.lt_of_lt_of_le (a5 g hg).1 st.size, by rw [if_pos (a5 g hg).2.1]; omega, by rw [if_pos (a5 g hg).2.1]; omega⟩⟩
theorem write_ok (W : World) (col : Nat → Nat) (p : Nat) (tot : Int × Int) (fv wv kv sv : Sn) (fr wl kl : List Sn) (ids : List Int) (h : Lg col p 0 tot fv wv kv sv fr wl kl ids W)
    (hlen : ids.length = kl.length) (hb : kl.length + 2 * fr.length ≤ 1073741824) (t0 : 0 ≤ tot.2) (t1 : tot.2 ≤ 1152921504606846976)
    (hr : ∀ (k : Nat) (s : Sn), fr[k]? = some s → ∃ t l, wl[k]? = some t ∧ OwR tY 0 W s.v l ∧ SlX tY p W t.v l ∧ s.n ≤ 1073741824 ∧ (∀ g, s.v.ownBlock = some g → col g = 7 + k)) :
    Calls Try.prog 45 #[.pointer (some ⟨p, 0, none⟩)] W fun e w' => e = .returned (.tuple #[]) ∧ ∃ col' kv' sv' kl' ids', Lg col' p 0 tot ⟨none, 0, 0⟩ ⟨none, 0, 0⟩ kv' sv' [] [] kl' ids' w' ∧ kl'.length = kl.length + 2 * fr.length ∧ ids'.length = kl'.length ∧ Fz col col' W w' := by
  have mix : Try.prog.follows .mixedOrders = true := by kernel_rfl
  have HL := Lib.hid (look_ok W p tot fv wv kv.v sv.v fr wl h.pb h.fs h.ws (by omega) (fun k s hk => by
    obtain ⟨t, l, a1, a2, a3, _, a5⟩ := hr k s hk
    exact ⟨t, l, a1, a2.sl (h.ne a5 (by omega)), a3⟩))
  have HG := Lib.hid h
  obtain ⟨cont0, hc0⟩ : ∃ c : Nat → List By, ∀ k s, fr[k]? = some s → OwR tY 0 W s.v (c k) := by
    have : ∀ k : Nat, ∃ l, ∀ s, fr[k]? = some s → OwR tY 0 W s.v l := fun k => by
      cases e : fr[k]? with
      | none => exact ⟨[], fun s hs => by cases hs⟩
      | some t =>
        obtain ⟨_, l, _, a2, _⟩ := hr k t e
        exact ⟨l, fun s hs => by injection hs with hs; subst hs; exact a2⟩
    exact Classical.axiomOfChoice this
  have HR := Lib.hid (fun k s hk => by obtain ⟨t, l, _, _, _, a4, a5⟩ := hr k s hk; exact ⟨hc0 k s hk, a4, a5⟩ : ∀ (k : Nat) (s : Sn), fr[k]? = some s → OwR tY 0 W s.v (cont0 k) ∧ s.n ≤ 1073741824 ∧ (∀ g, s.v.ownBlock = some g → col g = 7 + k))
  have HLn := Lib.hid hlen
  clear hr hlen h hc0
  go_enter Try.func45, Try.ntmps45
  go_wp2_with fail
  refine HL.out.mono ?_
  rintro e W1 ⟨rfl, hb1⟩
  have st1 : Stp (fun c => 7 ≤ c) col col W W1 := Stp.of_below hb1
  have lg1 := HG.out.step st1 (fun c hc => hc)
  have HSt := Lib.hid st1
  have hPA : Hid (PA W1 col p tot fv wv kv sv fr wl kl ids 0 0 cont0 W1) := by
    refine ⟨lg1, Stp.refl _ _ _, fun k s hk => ?_, fun k s hk => by omega, fun j hj => by omega⟩
    obtain ⟨a1, a2, a3⟩ := HR.out k s hk
    exact ⟨a1.below hb1, a2, a3⟩
  have c1 := lg1.pb.cell 2
  have c3 := lg1.pb.cell 4
  have c1' : W1.cell? ⟨p, 2, none⟩ = some (.slice fv.a fv.n fv.c) := c1
  have c3' : W1.cell? ⟨p, 4, none⟩ = some (.slice kv.a kv.n kv.c) := c3
  have ekn : kv.n = kl.length := own_n lg1.ko
  have efn : fv.n = fr.length := own_n lg1.fo
  obtain ⟨K1, K2, K3⟩ : kv.n ≤ kv.c ∧ kv.c ≤ 9223372036854775807 ∧ True := ⟨(slx_fit (lg1.ko.sl (lg1.ne lg1.kc (by omega)))).2.1, (slx_fit (lg1.ko.sl (lg1.ne lg1.kc (by omega)))).2.2, trivial⟩
  obtain ⟨K4, K5⟩ : fv.n ≤ fv.c ∧ fv.c ≤ 9223372036854775807 := ⟨(slx_fit lg1.fs).2.1, (slx_fit lg1.fs).2.2⟩
  obtain ⟨fa, fn, fc⟩ := fv
  obtain ⟨ka, kn, kc⟩ := kv
  simp only at c1' c3' ekn efn K1 K2 K4 K5
  subst ekn; subst efn
  clear c1 c3 lg1 st1 hb1 HL HG HR K3
  go_wp2
  go_loopw [3] (fun t wr' => ∃ i cont, i ≤ fr.length ∧ t = .int .i64 (i : Int) ∧ Hid (PA W1 col p tot ⟨fa, fr.length, fc⟩ wv ⟨ka, kl.length, kc⟩ sv fr wl kl ids i 0 cont wr')) (fun t _ => fr.length - (intOf t).toNat)
  case atStart => exact ⟨0, cont0, by omega, rfl, hPA⟩
  case round =>
    obtain ⟨i, cont, hi, rfl, hP⟩ := hrel
    clear hPA c1' c3'
    have c1 : wr.cell? ⟨p, 2, none⟩ = some (.slice fa fr.length fc) := hP.out.lg.pb.cell 2
    by_cases hit : i < fr.length
    · have hit' : (i : Int) < (fr.length : Int) := by omega
      have hi0 : (0 : Int) ≤ (i : Int) := by omega
      obtain ⟨⟨sa, sn, sc⟩, hsi⟩ : ∃ s, fr[i]? = some s := ⟨_, List.getElem?_eq_getElem hit⟩
      obtain ⟨b, o, rfl, hbp, _, _⟩ := SlX.ss hP.out.lg.fs hsi
      have hsn : sn ≤ 1073741824 := (hP.out.rows i _ hsi).2.1
      have hwf : sn ≤ sc ∧ sc ≤ 9223372036854775807 := own_wf (hP.out.rows i _ hsi).1
      have hP0 : Hid (PA W1 col p tot ⟨some ⟨b, o, none⟩, fr.length, fc⟩ wv ⟨ka, kl.length, kc⟩ sv fr wl kl ids i 0 cont wr) := hP
      have HSI := Lib.hid hsi
      clear hP hsi
      go_wp2
      go_loopw [5] (fun t wr' => ∃ j cont, j ≤ sn ∧ t = .int .i64 (j : Int) ∧ Hid (PA W1 col p tot ⟨some ⟨b, o, none⟩, fr.length, fc⟩ wv ⟨ka, kl.length, kc⟩ sv fr wl kl ids i j cont wr')) (fun t _ => sn - (intOf t).toNat)
      case atStart => exact ⟨0, cont, by omega, rfl, hP0⟩
      case round =>
        obtain ⟨j, cont', hj, rfl, hP⟩ := hrel
        clear hP0 c1
        have c1 : wr.cell? ⟨p, 2, none⟩ = some (.slice (some ⟨b, o, none⟩) fr.length fc) := hP.out.lg.pb.cell 2
        obtain ⟨b', o', e', _, _, cs⟩ := SlX.ss hP.out.lg.fs HSI.out
        injection e' with e'
        injection e' with e1 e2
        subst e1; subst e2
        simp only at cs
        by_cases hjt : j < sn
        · have hjt' : (j : Int) < (sn : Int) := by omega
          have hj0 : (0 : Int) ≤ (j : Int) := by omega
          have ho := (hP.out.rows i _ HSI.out).1
          obtain ⟨q, rfl⟩ := own_a ho (by omega)
          have fz : wr.frozen? ⟨q, j, none⟩ = false := OwR.frozen ho j
          obtain ⟨x, hx⟩ : ∃ x, (cont' i)[j]? = some x := ⟨_, List.getElem?_eq_getElem (by have := own_n ho; simp only at this; omega)⟩
          have cx : wr.cell? ⟨q, j, none⟩ = some (.int .u8 (x.val : Int)) := OwR.by' ho hx
          clear ho hx
          go_upto_region 9 with (fail)
          refine wp_region_last 12 (fun w' => w'.cell? ⟨p, 2, none⟩ = some (.slice (some ⟨b, o, none⟩) fr.length fc) ∧ w'.cell? ⟨b, o + i, none⟩ = some (.slice (some ⟨q, 0, none⟩) sn sc)) mix ?_
          have cv : wr.drew.cell? ⟨p, 2, none⟩ = some (.slice (some ⟨b, o, none⟩) fr.length fc) ∧ wr.drew.cell? ⟨b, o + i, none⟩ = some (.slice (some ⟨q, 0, none⟩) sn sc) := ⟨c1, cs⟩
          refine wpAnyL_take (i := 0) (v := .pointer (some ⟨p, 0, none⟩)) rfl (by kernel_rfl) (by kernel_rfl) (by kernel_rfl) (fun _ _ _ h => h) rfl (by kernel_rfl) (Or.inl ⟨by rfl, fun w' hw' => by (try go_split_ands); go_simp⟩) cv ?_
          simp only [Act.put, List.getElem_toArray, List.getElem_cons_zero, List.setIfInBounds_toArray, List.set_cons_zero, List.set_cons_succ]
          refine wpAnyL_take (i := 1) (v := .pointer (some ⟨p, 0, none⟩)) rfl (by kernel_rfl) (by kernel_rfl) (by kernel_rfl) (fun _ _ _ h => h) rfl (by kernel_rfl) (Or.inl ⟨by rfl, fun w' hw' => by (try go_split_ands); go_simp⟩) cv ?_
          simp only [Act.put, List.getElem_toArray, List.getElem_cons_zero, List.getElem_cons_succ, List.setIfInBounds_toArray, List.set_cons_zero, List.set_cons_succ]
          refine wpAnyL_take (i := 2) (v := .pointer (some ⟨p, 2, none⟩)) rfl (by kernel_rfl) (by kernel_rfl) (by kernel_rfl) (fun _ _ _ h => h) rfl (by kernel_rfl) (Or.inl ⟨by rfl, fun w' hw' => by (try go_split_ands); go_simp⟩) cv ?_
          simp only [Act.put, List.getElem_toArray, List.getElem_cons_zero, List.getElem_cons_succ, List.setIfInBounds_toArray, List.set_cons_zero, List.set_cons_succ]
          refine wpAnyL_take (i := 3) (v := .slice (some ⟨b, o, none⟩) fr.length fc) rfl (by kernel_rfl) (by kernel_rfl) (by kernel_rfl) (fun _ _ _ h => h) rfl (by kernel_rfl) (Or.inl ⟨by rfl, fun w' hw' => by (try go_split_ands); go_simp⟩) cv ?_
          simp only [Act.put, List.getElem_toArray, List.getElem_cons_zero, List.getElem_cons_succ, List.setIfInBounds_toArray, List.set_cons_zero, List.set_cons_succ]
          refine wpAnyL_take (i := 4) (v := .int .i64 (i : Int)) rfl (by kernel_rfl) (by kernel_rfl) (by kernel_rfl) (fun _ _ _ h => h) rfl (by kernel_rfl) (Or.inl ⟨by rfl, fun w' hw' => by (try go_split_ands); go_simp⟩) cv ?_
          simp only [Act.put, List.getElem_toArray, List.getElem_cons_zero, List.getElem_cons_succ, List.setIfInBounds_toArray, List.set_cons_zero, List.set_cons_succ]
          refine wpAnyL_take (i := 5) (v := .pointer (some ⟨b, o + i, none⟩)) rfl (by kernel_rfl) (by kernel_rfl) (by kernel_rfl) (fun _ _ _ h => h) rfl (by kernel_rfl) (Or.inl ⟨by rfl, fun w' hw' => by (try go_split_ands); go_simp⟩) cv ?_
          simp only [Act.put, List.getElem_toArray, List.getElem_cons_zero, List.getElem_cons_succ, List.setIfInBounds_toArray, List.set_cons_zero, List.set_cons_succ]
          refine wpAnyL_take (i := 6) (v := .slice (some ⟨q, 0, none⟩) sn sc) rfl (by kernel_rfl) (by kernel_rfl) (by kernel_rfl) (fun _ _ _ h => h) rfl (by kernel_rfl) (Or.inl ⟨by rfl, fun w' hw' => by (try go_split_ands); go_simp⟩) cv ?_
          simp only [Act.put, List.getElem_toArray, List.getElem_cons_zero, List.getElem_cons_succ, List.setIfInBounds_toArray, List.set_cons_zero, List.set_cons_succ]
          refine wpAnyL_take (i := 7) (v := .int .i64 (j : Int)) rfl (by kernel_rfl) (by kernel_rfl) (by kernel_rfl) (fun _ _ _ h => h) rfl (by kernel_rfl) (Or.inl ⟨by rfl, fun w' hw' => by (try go_split_ands); go_simp⟩) cv ?_
          simp only [Act.put, List.getElem_toArray, List.getElem_cons_zero, List.getElem_cons_succ, List.setIfInBounds_toArray, List.set_cons_zero, List.set_cons_succ]
          refine wpAnyL_take (i := 8) (v := .int .i64 ((kl.length : Int) + (i : Int))) rfl (by kernel_rfl) (by kernel_rfl) (by kernel_rfl) (fun _ _ _ h => h) rfl (by kernel_rfl) (Or.inl ⟨by rfl, fun w' hw' => by (try go_split_ands); go_simp⟩) cv ?_
          simp only [Act.put, List.getElem_toArray, List.getElem_cons_zero, List.getElem_cons_succ, List.setIfInBounds_toArray, List.set_cons_zero, List.set_cons_succ]
          refine wpAnyL_take (i := 9) (v := .int .i64 (j : Int)) rfl (by kernel_rfl) (by kernel_rfl) (by kernel_rfl) (fun _ _ _ h => h) rfl (by kernel_rfl) (Or.inl ⟨by rfl, fun w' hw' => by (try go_split_ands); go_simp⟩) cv ?_
          simp only [Act.put, List.getElem_toArray, List.getElem_cons_zero, List.getElem_cons_succ, List.setIfInBounds_toArray, List.set_cons_zero, List.set_cons_succ]
          refine wpAnyL_one (i := 10) (by kernel_rfl) rfl (fun K hK => ?_)
          go_simp
          go_wp2_with fail
          refine (bown_ok wr.drew ((kl.length : Int) + (i : Int)) j (by omega) (by omega) (by omega)).mono ?_
          rintro e wz ⟨rfl, rfl⟩
          go_wp2_with fail
          refine hK.out _ _ (fun _ => cv) ?_
          clear hK K
          refine wpAnyL_one (i := 11) (by kernel_rfl) rfl (fun K hK => ?_)
          go_simp
          refine hK.out _ _ (fun _ => cv) ?_
          clear hK K
          have cx2 : wr.drew.cell? ⟨q, j, none⟩ = some (.int .u8 (x.val : Int)) := cx
          have fz2 : wr.drew.frozen? ⟨q, j, none⟩ = false := fz
          refine wpAnyL_one (i := 12) (by kernel_rfl) rfl (fun K hK => ?_)
          go_simp
          refine hK.out _ _ (fun h => absurd rfl h) ?_
          clear hK K
          refine wpAnyL_done (by kernel_rfl) ?_ _
          clear cv cx2 fz2
          go_wp2
          have hPn := Lib.hid ((hP.out.put HSI.out hjt).drew)
          go_roundw
          all_goals first
            | exact ⟨j + 1, _, by omega, by go_num, hPn.out⟩
            | ((repeat apply Exists.intro); exact ⟨⟨j + 1, _, by omega, by go_num, hPn.out⟩, rfl⟩)
            | (simp [intOf] <;> omega)
        · obtain rfl : j = sn := by omega
          have hPn := Lib.hid (hP.out.next HSI.out rfl)
          clear hjt hP
          go_wp2
          go_roundw
          all_goals first
            | exact ⟨i + 1, _, by omega, by go_num, hPn.out⟩
            | ((repeat apply Exists.intro); exact ⟨⟨i + 1, _, by omega, by go_num, hPn.out⟩, rfl⟩)
            | (simp [intOf] <;> omega)
    · obtain rfl : i = fr.length := by omega
      clear hit
      have hB0 := Lib.hid (hP.out.pb rfl)
      clear hP
      go_wp2
      go_loopw [6] (fun t wr' => ∃ (i : Nat) (col' : Nat → Nat) (kv' sv' : Sn) (kl' : List Sn) (ids' : List Int), i ≤ fr.length ∧ t = .int .i64 (i : Int) ∧ kl'.length = kl.length + i ∧ ids'.length = kl'.length ∧ Hid (PB W1 col p tot ⟨fa, fr.length, fc⟩ wv fr wl kl.length i i col' kv' sv' kl' ids' wr')) (fun t _ => fr.length - (intOf t).toNat)
      case atStart => exact ⟨0, _, _, _, _, _, by omega, rfl, rfl, HLn.out, hB0⟩
      case round =>
        obtain ⟨i, col', kv', sv', kl', ids', hi, rfl, hkl, hids, hP⟩ := hrel
        have hklb : kl'.length ≤ 1073741824 := by omega
        have hidb : ids'.length ≤ 1073741824 := by omega
        have HK := Lib.hid hkl
        have HD := Lib.hid hids
        clear hkl hids
        clear hB0
        have c1 : wr.cell? ⟨p, 2, none⟩ = some (.slice fa fr.length fc) := hP.out.lg.pb.cell 2
        by_cases hit : i < fr.length
        · have hit' : (i : Int) < (fr.length : Int) := by omega
          have hi0 : (0 : Int) ≤ (i : Int) := by omega
          obtain ⟨⟨sa, sn, sc⟩, hsi⟩ : ∃ s, fr[i]? = some s := ⟨_, List.getElem?_eq_getElem hit⟩
          obtain ⟨b, o, rfl, hbp, _, cs⟩ := SlX.ss hP.out.lg.fs hsi
          obtain ⟨a1, hsn, a3, a4, a5⟩ := hP.out.rows i _ hsi
          have HO : Hid (OwR tY 0 wr (Sn.v ⟨sa, sn, sc⟩) (mine ((kl.length : Int) + (i : Int)) (sn + 0)) ∧ ∀ g, (Sn.v ⟨sa, sn, sc⟩).ownBlock = some g → col' g = 7 + i) := ⟨a5 (Nat.le_refl _), fun g hg => (a3 g hg).2⟩
          have HP0 := Lib.hid (hP.out.le (Nat.le_succ i))
          have HSI := Lib.hid hsi
          obtain ⟨M, hM⟩ : ∃ M : Nat, (M : Int) = min tot.2 4000 + 70 := ⟨(min tot.2 4000 + 70).toNat, by omega⟩
          simp only at cs hsn
          clear a1 a3 a4 a5 hP hsi
          go_wp2
          go_loopw [8, 9] (fun tg t wr' => ∃ (j : Nat) (ga : Option Addr) (gn gc : Nat) (col'' : Nat → Nat), j ≤ M ∧ tg = .slice ga gn gc ∧ t = .int .i64 (j : Int) ∧ Hid (PB W1 col p tot ⟨some ⟨b, o, none⟩, fr.length, fc⟩ wv fr wl kl.length i (i + 1) col'' kv' sv' kl' ids' wr' ∧ OwR tY 0 wr' (Sn.v ⟨ga, gn, gc⟩) (mine ((kl.length : Int) + (i : Int)) (sn + j)) ∧ ∀ g, (Sn.v ⟨ga, gn, gc⟩).ownBlock = some g → col'' g = 7 + i)) (fun _ t _ => M - (intOf t).toNat)
          case atStart => exact ⟨0, sa, sn, sc, col', by omega, rfl, rfl, HP0.out, HO.out⟩
          case round =>
            obtain ⟨j, ga, gn, gc, col'', hj, rfl, rfl, hQ⟩ := hrel
            clear HP0 HO c1 cs
            have c0 : wr.cell? ⟨p, 1, none⟩ = some (.int .i64 tot.2) := hQ.out.1.lg.pb.cell 1
            have egn := own_n hQ.out.2.1
            rw [mine_len] at egn
            simp only at egn
            subst egn
            obtain ⟨hwf1, hwf2⟩ := own_wf hQ.out.2.1
            by_cases hjt : j < M
            · have hj0 : (0 : Int) ≤ (j : Int) := by omega
              have hjM : (j : Int) < min tot.2 4000 + 70 := by omega
              have hO := Lib.hid hQ.out.2.1
              have hl9 := mine_len ((kl.length : Int) + (i : Int)) (sn + j)
              unfold Sn.v at hO
              go_wp2_with fail
              all_goals (
                refine (bown_ok wr ((kl.length : Int) + (i : Int)) (sn + j) (by omega) (by omega) (by omega)).mono ?_
                rintro e wz ⟨rfl, rfl⟩
                go_wp2_with (at_builtin; refine wpl_pushO tY rfl _ _ rfl 0 _ (mine ((kl.length : Int) + (i : Int)) (sn + j)) rfl (hO.out.alloc _) _ 0 1 1 [bkv ((kl.length : Int) + (i : Int)) (sn + j)] rfl rfl (Nat.succ_pos _) (rangeNew (by rfl) (by rfl)) (by rw [mine_len]; unfold maxLen; simp; omega) (by rw [mine_len]; show _ * 1 ≤ _; simp; omega) (by simp) ?_; intro g' c' w9 hown hgrow hlies hkeep)
                have hown2 : OwR tY 0 w9 (.slice (some ⟨g', 0, none⟩) (sn + j + 1) c') (mine ((kl.length : Int) + (i : Int)) (sn + j) ++ [bkv ((kl.length : Int) + (i : Int)) (sn + j)]) := by rw [mine_len] at hown; exact hown
                obtain ⟨colN, n1, n2, n3⟩ := hQ.out.1.grow HSI.out hQ.out.2.1 hQ.out.2.2 hown2 hgrow hlies hkeep rfl
                have hPn := Lib.hid (And.intro n1 (And.intro n2 (fun g (hg : some g' = some g) => by injection hg with hg; subst hg; exact n3 : ∀ g, some g' = some g → colN g = 7 + i)))
                clear n1 n2 n3 hown hown2 hgrow hlies hkeep hQ hO
                go_roundw
                all_goals first
                  | exact ⟨j + 1, some ⟨g', 0, none⟩, _, c', _, by omega, rfl, by go_num, hPn.out⟩
                  | ((repeat apply Exists.intro); exact ⟨⟨j + 1, some ⟨g', 0, none⟩, _, c', _, by omega, rfl, by go_num, hPn.out⟩, rfl⟩)
                  | (simp [intOf] <;> omega))
            · obtain rfl : j = M := by omega
              have hjM : ¬ ((j : Int) < min tot.2 4000 + 70) := by omega
              have hKo := Lib.hid hQ.out.1.lg.ko
              have hkz := hQ.out.1.lg.pb.cell 4
              obtain ⟨ka2, kn2, kc2⟩ := kv'
              have hkz2 : wr.cell? ⟨p, 4, none⟩ = some (.slice ka2 kn2 kc2) := hkz
              clear hkz
              go_upto_region 20 with (at_builtin; refine wpl_pushL tYY rfl _ _ rfl 0 _ kl' rfl (hKo.out.alloc _) _ 0 1 1 [⟨ga, sn + j, gc⟩] rfl rfl (Nat.succ_pos _) (rangeNew (by rfl) (by rfl)) (by unfold maxLen; simp; omega) (by show _ * 24 ≤ _; simp; omega) (by simp) ?_; intro g' c' w9 hown hgrow hlies; have hp9 := hQ.out.1.lg.grown hgrow hQ.out.1.lg.kc (by omega); have f9 := hp9.frozen 4; have c9 := hp9.cell 4; simp only [lgC, List.getElem?_toArray, List.getElem?_cons_succ, List.getElem?_cons_zero] at c9)
              have hown2 : OwR tYY 0 w9 (.slice (some ⟨g', 0, none⟩) (kl'.length + 1) c') (kl' ++ [⟨ga, sn + j, gc⟩]) := hown
              obtain ⟨colK, st1, lgK⟩ := hQ.out.1.lg.pushK hown2 hgrow hlies HD.out
              have hPK := hQ.out.1.other st1 (fun c hc => by omega) lgK
              have hGs := hQ.out.2.1.sl (hQ.out.1.lg.ne hQ.out.2.2 (by omega))
              have hGb : ∀ g, (Sn.v ⟨ga, sn + j, gc⟩).ownBlock = some g → g < wr.heap.size ∧ col'' g = 7 + i := fun g hg => ⟨hQ.out.2.1.lt hg, hQ.out.2.2 g hg⟩
              have hGs2 := Lib.hid (st1.sl hGs fun g hg hc => by have := (hGb g hg).2; omega)
              have hGb2 := Lib.hid (fun g hg => ⟨Nat.lt_of_lt_of_le (hGb g hg).1 st1.size, (st1.col g (hGb g hg).1).trans (hGb g hg).2⟩ : ∀ g, (Sn.v ⟨ga, sn + j, gc⟩).ownBlock = some g → g < _ ∧ colK g = 7 + i)
              have HPK := Lib.hid hPK
              clear hown hown2 hgrow hlies st1 lgK hPK hGs hGb hQ hKo
              clear f9 c9 hp9
              obtain ⟨wK, hwK⟩ : ∃ x, x = w9.setCell ⟨p, 4, none⟩ (.slice (some ⟨g', 0, none⟩) (kl'.length + 1) c') := ⟨_, rfl⟩
              rw [← hwK] at HPK hGs2 hGb2 ⊢
              clear hwK hkz2 c0
              have hSo := Lib.hid HPK.out.lg.so
              have hsz := HPK.out.lg.pb.cell 5
              obtain ⟨sa2, sn2, sc2⟩ := sv'
              have hsz2 : wK.cell? ⟨p, 5, none⟩ = some (.slice sa2 sn2 sc2) := hsz
              clear hsz
              go_wp2_with (at_builtin; refine wpl_pushL tI rfl _ _ rfl 0 _ ids' rfl (hSo.out.alloc _) _ 0 1 1 [(kl.length : Int) + (i : Int)] rfl rfl (Nat.succ_pos _) (rangeNew (by rfl) (by rfl)) (by unfold maxLen; simp; omega) (by show _ * 8 ≤ _; simp; omega) (by simp) ?_; intro g2 c2 w10 hown hgrow hlies; have hp9 := HPK.out.lg.grown hgrow HPK.out.lg.sc (by omega); have f9 := hp9.frozen 5; have c9 := hp9.cell 5; simp only [lgC, List.getElem?_toArray, List.getElem?_cons_succ, List.getElem?_cons_zero] at c9)
              have hown2 : OwR tI 0 w10 (.slice (some ⟨g2, 0, none⟩) (ids'.length + 1) c2) (ids' ++ [(kl.length : Int) + (i : Int)]) := hown
              obtain ⟨colS, st2, lgS⟩ := HPK.out.lg.pushS (i' := i + 1) hown2 hgrow hlies (by rw [List.length_append, HD.out]; rfl) (by rw [HD.out, List.getElem?_append_right (Nat.le_refl _), Nat.sub_self]; rfl) (by omega) (by omega) (by omega) hGs2.out (Nat.le_succ i) (fun g hg => ⟨(hGb2.out g hg).1, by have := (hGb2.out g hg).2; omega, by have := (hGb2.out g hg).2; omega⟩)
              have hPS := Lib.hid (HPK.out.other st2 (fun c hc => by omega) lgS)
              clear hown hown2 hgrow hlies st2 lgS HPK hGs2 hGb2 hSo hp9 f9 c9
              go_roundw
              all_goals first
                | exact ⟨i + 1, _, _, _, _, _, by omega, by go_num, by rw [List.length_append, HK.out]; rfl, by rw [List.length_append, List.length_append, HD.out]; rfl, hPS.out⟩
                | ((repeat apply Exists.intro); exact ⟨⟨i + 1, _, _, _, _, _, by omega, by go_num, by rw [List.length_append, HK.out]; rfl, by rw [List.length_append, List.length_append, HD.out]; rfl, hPS.out⟩, rfl⟩)
                | (simp [intOf] <;> omega)
        · obtain rfl : i = fr.length := by omega
          clear hit
          have hkl0 := HK.out
          have hB0 := Lib.hid (And.intro HD.out hP.out)
          clear HK HD hP
          go_wp2
          go_loopw [10] (fun t wr' => ∃ (i : Nat) (col' : Nat → Nat) (kv' sv' : Sn) (kl' : List Sn) (ids' : List Int), i ≤ fr.length ∧ t = .int .i64 (i : Int) ∧ kl'.length = kl.length + fr.length + i ∧ ids'.length = kl'.length ∧ Hid (PB W1 col p tot ⟨fa, fr.length, fc⟩ wv fr wl kl.length fr.length fr.length col' kv' sv' kl' ids' wr')) (fun t _ => fr.length - (intOf t).toNat)
          case atStart => exact ⟨0, _, _, _, _, _, by omega, rfl, hkl0, hB0.out.1, hB0.out.2⟩
          case round =>
            clear hB0 hkl0 hklb hidb c1
            obtain ⟨i, col', kv', sv', kl', ids', hi, rfl, hkl, hids, hP⟩ := hrel
            have hklb : kl'.length ≤ 1073741824 := by omega
            have hidb : ids'.length ≤ 1073741824 := by omega
            have HK := Lib.hid hkl
            have HD := Lib.hid hids
            clear hkl hids
            have c1 : wr.cell? ⟨p, 2, none⟩ = some (.slice fa fr.length fc) := hP.out.lg.pb.cell 2
            by_cases hit : i < fr.length
            · have hit' : (i : Int) < (fr.length : Int) := by omega
              have hi0 : (0 : Int) ≤ (i : Int) := by omega
              obtain ⟨⟨sa, sn, sc⟩, hsi⟩ : ∃ s, fr[i]? = some s := ⟨_, List.getElem?_eq_getElem hit⟩
              obtain ⟨b, o, rfl, hbp, hblt, cs⟩ := SlX.ss hP.out.lg.fs hsi
              obtain ⟨a1, hsn, a3, _, _⟩ := hP.out.rows i _ hsi
              obtain ⟨ka2, kn2, kc2⟩ := kv'
              have c3 : wr.cell? ⟨p, 4, none⟩ = some (.slice ka2 kn2 kc2) := hP.out.lg.pb.cell 4
              simp only at cs hsn
              have HSI := Lib.hid hsi
              clear hsi a1 a3 hbp
              go_upto_region 24 with (fail)
              refine wp_region_last 16 (fun w' => w'.cell? ⟨p, 4, none⟩ = some (.slice ka2 kn2 kc2) ∧ w'.cell? ⟨p, 2, none⟩ = some (.slice (some ⟨b, o, none⟩) fr.length fc) ∧ w'.cell? ⟨b, o + i, none⟩ = some (.slice sa sn sc)) mix ?_
              have cv : wr.drew.cell? ⟨p, 4, none⟩ = some (.slice ka2 kn2 kc2) ∧ wr.drew.cell? ⟨p, 2, none⟩ = some (.slice (some ⟨b, o, none⟩) fr.length fc) ∧ wr.drew.cell? ⟨b, o + i, none⟩ = some (.slice sa sn sc) := ⟨c3, c1, cs⟩
              have HCS := Lib.hid (And.intro c3 (And.intro c1 cs))
              clear c1 c3 cs
              refine wpAnyL_take (i := 0) (v := .pointer (some ⟨p, 0, none⟩)) rfl (by kernel_rfl) (by kernel_rfl) (by kernel_rfl) (fun _ _ _ h => h) rfl (by kernel_rfl) (Or.inl ⟨by rfl, fun w' hw' => by (try go_split_ands); go_simp⟩) cv ?_
              simp only [Act.put, List.getElem_toArray, List.getElem_cons_zero, List.setIfInBounds_toArray, List.set_cons_zero, List.set_cons_succ]
              refine wpAnyL_take (i := 1) (v := .pointer (some ⟨p, 0, none⟩)) rfl (by kernel_rfl) (by kernel_rfl) (by kernel_rfl) (fun _ _ _ h => h) rfl (by kernel_rfl) (Or.inl ⟨by rfl, fun w' hw' => by (try go_split_ands); go_simp⟩) cv ?_
              simp only [Act.put, List.getElem_toArray, List.getElem_cons_zero, List.getElem_cons_succ, List.setIfInBounds_toArray, List.set_cons_zero, List.set_cons_succ]
              refine wpAnyL_take (i := 2) (v := .pointer (some ⟨p, 0, none⟩)) rfl (by kernel_rfl) (by kernel_rfl) (by kernel_rfl) (fun _ _ _ h => h) rfl (by kernel_rfl) (Or.inl ⟨by rfl, fun w' hw' => by (try go_split_ands); go_simp⟩) cv ?_
              simp only [Act.put, List.getElem_toArray, List.getElem_cons_zero, List.getElem_cons_succ, List.setIfInBounds_toArray, List.set_cons_zero, List.set_cons_succ]
              refine wpAnyL_take (i := 3) (v := .pointer (some ⟨p, 4, none⟩)) rfl (by kernel_rfl) (by kernel_rfl) (by kernel_rfl) (fun _ _ _ h => h) rfl (by kernel_rfl) (Or.inl ⟨by rfl, fun w' hw' => by (try go_split_ands); go_simp⟩) cv ?_
              simp only [Act.put, List.getElem_toArray, List.getElem_cons_zero, List.getElem_cons_succ, List.setIfInBounds_toArray, List.set_cons_zero, List.set_cons_succ]
              refine wpAnyL_take (i := 4) (v := .slice ka2 kn2 kc2) rfl (by kernel_rfl) (by kernel_rfl) (by kernel_rfl) (fun _ _ _ h => h) rfl (by kernel_rfl) (Or.inl ⟨by rfl, fun w' hw' => by (try go_split_ands); go_simp⟩) cv ?_
              simp only [Act.put, List.getElem_toArray, List.getElem_cons_zero, List.getElem_cons_succ, List.setIfInBounds_toArray, List.set_cons_zero, List.set_cons_succ]
              refine wpAnyL_take (i := 5) (v := .pointer (some ⟨p, 0, none⟩)) rfl (by kernel_rfl) (by kernel_rfl) (by kernel_rfl) (fun _ _ _ h => h) rfl (by kernel_rfl) (Or.inl ⟨by rfl, fun w' hw' => by (try go_split_ands); go_simp⟩) cv ?_
              simp only [Act.put, List.getElem_toArray, List.getElem_cons_zero, List.getElem_cons_succ, List.setIfInBounds_toArray, List.set_cons_zero, List.set_cons_succ]
              refine wpAnyL_take (i := 6) (v := .pointer (some ⟨p, 0, none⟩)) rfl (by kernel_rfl) (by kernel_rfl) (by kernel_rfl) (fun _ _ _ h => h) rfl (by kernel_rfl) (Or.inl ⟨by rfl, fun w' hw' => by (try go_split_ands); go_simp⟩) cv ?_
              simp only [Act.put, List.getElem_toArray, List.getElem_cons_zero, List.getElem_cons_succ, List.setIfInBounds_toArray, List.set_cons_zero, List.set_cons_succ]
              refine wpAnyL_take (i := 7) (v := .pointer (some ⟨p, 2, none⟩)) rfl (by kernel_rfl) (by kernel_rfl) (by kernel_rfl) (fun _ _ _ h => h) rfl (by kernel_rfl) (Or.inl ⟨by rfl, fun w' hw' => by (try go_split_ands); go_simp⟩) cv ?_
              simp only [Act.put, List.getElem_toArray, List.getElem_cons_zero, List.getElem_cons_succ, List.setIfInBounds_toArray, List.set_cons_zero, List.set_cons_succ]
              refine wpAnyL_take (i := 8) (v := .slice (some ⟨b, o, none⟩) fr.length fc) rfl (by kernel_rfl) (by kernel_rfl) (by kernel_rfl) (fun _ _ _ h => h) rfl (by kernel_rfl) (Or.inl ⟨by rfl, fun w' hw' => by (try go_split_ands); go_simp⟩) cv ?_
              simp only [Act.put, List.getElem_toArray, List.getElem_cons_zero, List.getElem_cons_succ, List.setIfInBounds_toArray, List.set_cons_zero, List.set_cons_succ]
              refine wpAnyL_take (i := 9) (v := .int .i64 (i : Int)) rfl (by kernel_rfl) (by kernel_rfl) (by kernel_rfl) (fun _ _ _ h => h) rfl (by kernel_rfl) (Or.inl ⟨by rfl, fun w' hw' => by (try go_split_ands); go_simp⟩) cv ?_
              simp only [Act.put, List.getElem_toArray, List.getElem_cons_zero, List.getElem_cons_succ, List.setIfInBounds_toArray, List.set_cons_zero, List.set_cons_succ]
              refine wpAnyL_take (i := 10) (v := .pointer (some ⟨b, o + i, none⟩)) rfl (by kernel_rfl) (by kernel_rfl) (by kernel_rfl) (fun _ _ _ h => h) rfl (by kernel_rfl) (Or.inl ⟨by rfl, fun w' hw' => by (try go_split_ands); go_simp⟩) cv ?_
              simp only [Act.put, List.getElem_toArray, List.getElem_cons_zero, List.getElem_cons_succ, List.setIfInBounds_toArray, List.set_cons_zero, List.set_cons_succ]
              refine wpAnyL_take (i := 11) (v := .slice sa sn sc) rfl (by kernel_rfl) (by kernel_rfl) (by kernel_rfl) (fun _ _ _ h => h) rfl (by kernel_rfl) (Or.inl ⟨by rfl, fun w' hw' => by (try go_split_ands); go_simp⟩) cv ?_
              simp only [Act.put, List.getElem_toArray, List.getElem_cons_zero, List.getElem_cons_succ, List.setIfInBounds_toArray, List.set_cons_zero, List.set_cons_succ]
              refine wpAnyL_one (i := 12) (by kernel_rfl) rfl (fun K hK => ?_)
              refine step_none rfl (wp_gen fun A hA => ?_)
              have hE : A.tmps[130]?.getD undef = .slice sa sn sc := by rw [hA]; rfl
              have HA := Lib.hid hA
              clear hA
              go_simp
              have hb1 : Below wr.heap.size wr (wr.alloc (.cells #[.slice sa sn sc] 28)).drew := (bAl (bRefl wr) _).drew
              have HN1 := Lib.hid ((Blk.new wr 28 #[.slice sa sn sc]).drew)
              have ck1 : (wr.alloc (.cells #[.slice sa sn sc] 28)).drew.cell? ⟨p, 4, none⟩ = some (.slice ka2 kn2 kc2) ∧ (wr.alloc (.cells #[.slice sa sn sc] 28)).drew.cell? ⟨p, 2, none⟩ = some (.slice (some ⟨b, o, none⟩) fr.length fc) ∧ (wr.alloc (.cells #[.slice sa sn sc] 28)).drew.cell? ⟨b, o + i, none⟩ = some (.slice sa sn sc) :=
                ⟨(hb1.cell (World.block_lt_of_cell? _ _ HCS.out.1)).trans HCS.out.1, (hb1.cell (World.block_lt_of_cell? _ _ HCS.out.2.1)).trans HCS.out.2.1, (hb1.cell (World.block_lt_of_cell? _ _ HCS.out.2.2)).trans HCS.out.2.2⟩
              refine hK.out _ _ (fun _ => ck1) ?_
              clear hK K hE
              obtain rfl := HA.out
              clear HA
              simp only [List.setIfInBounds_toArray, List.set_cons_zero, List.set_cons_succ]
              refine wpAnyL_one (i := 13) (by kernel_rfl) rfl (fun K hK => ?_)
              have hKo : OwR tYY 0 (wr.alloc (.cells #[.slice sa sn sc] 28)).drew (.slice ka2 kn2 kc2) kl' := OwR.below hP.out.lg.ko hb1
              refine step_pushL tYY rfl (.tmp 123) (.tmp 131) rfl 0 (.slice ka2 kn2 kc2) kl' (by rfl) hKo wr.heap.size 0 1 1 [⟨sa, sn, sc⟩] (by rfl) rfl (Nat.succ_pos _) (rangeBlk HN1.out (by rfl)) (by simp; unfold maxLen; omega) (by show _ * 24 ≤ _; simp; omega) (Nat.zero_le _) ?_
              intro g' c' w9 hown hgrow hlies
              have hg2 : (wr.alloc (.cells #[.slice sa sn sc] 28)).grownBy w9 (Value.slice ka2 kn2 kc2).ownBlock := ⟨hgrow.os, hgrow.tape, hgrow.output, hgrow.size, hgrow.block⟩
              have hl2 : (Value.slice ka2 kn2 kc2).ownBlock = some g' ∨ g' = (wr.alloc (.cells #[.slice sa sn sc] 28)).heap.size := hlies
              have hp9 := hP.out.lg.grown hg2 hP.out.lg.kc (by omega)
              have f9 := hp9.frozen 4
              have c39 : w9.cell? ⟨p, 4, none⟩ = some (.slice ka2 kn2 kc2) := hp9.cell 4
              have c19 : w9.cell? ⟨p, 2, none⟩ = some (.slice (some ⟨b, o, none⟩) fr.length fc) := hp9.cell 2
              have cs9 : w9.cell? ⟨b, o + i, none⟩ = some (.slice sa sn sc) := by
                have hfc : col' b = 2 := hP.out.lg.fc b rfl
                have hb9 : w9.heap[b]? = wr.heap[b]? := by
                  rw [hg2.block b (by simp; omega) (fun e => by have := hP.out.lg.kc b e.symm; omega)]
                  exact Below.heap_alloc wr _ b hblt
                exact (World.cell?_of_block hb9).trans HCS.out.2.2
              have cv9 : w9.cell? ⟨p, 4, none⟩ = some (.slice ka2 kn2 kc2) ∧ w9.cell? ⟨p, 2, none⟩ = some (.slice (some ⟨b, o, none⟩) fr.length fc) ∧ w9.cell? ⟨b, o + i, none⟩ = some (.slice sa sn sc) := ⟨c39, c19, cs9⟩
              simp only [Act.put, List.setIfInBounds_toArray]
              refine hK.out _ _ (fun _ => cv9) ?_
              clear hK K
              refine wpAnyL_one (i := 14) (by kernel_rfl) rfl (fun K hK => ?_)
              refine step_none rfl (wp_gen fun A hA => ?_)
              have hE : A.tmps[119]?.getD undef = .pointer (some ⟨p, 0, none⟩) := by rw [hA]; rfl
              have HA := Lib.hid hA
              clear hA
              go_simp
              refine hK.out _ _ (fun _ => cv9) ?_
              clear hK K hE
              obtain rfl := HA.out
              clear HA
              simp only [List.getElem_toArray, List.getElem_cons_zero, List.getElem_cons_succ, List.setIfInBounds_toArray, List.set_cons_zero, List.set_cons_succ]
              refine wpAnyL_one (i := 15) (by kernel_rfl) rfl (fun K hK => ?_)
              refine step_none rfl (wp_gen fun A hA => ?_)
              have hE : A.tmps[133]?.getD undef = .pointer (some ⟨p, 0, none⟩) := by rw [hA]; rfl
              have HA := Lib.hid hA
              clear hA
              go_simp
              refine hK.out _ _ (fun _ => cv9) ?_
              clear hK K hE
              obtain rfl := HA.out
              clear HA
              simp only [List.setIfInBounds_toArray, List.set_cons_zero, List.set_cons_succ]
              refine wpAnyL_one (i := 16) (by kernel_rfl) rfl (fun K hK => ?_)
              refine step_none rfl (wp_gen fun A hA => ?_)
              have hE : A.tmps[134]?.getD undef = .pointer (some ⟨p, 4, none⟩) := by rw [hA]; rfl
              have hE2 : A.tmps[132]?.getD undef = .slice (some ⟨g', 0, none⟩) (kl'.length + 1) c' := by rw [hA]; rfl
              have HA := Lib.hid hA
              clear hA
              go_simp
              refine hK.out _ _ (fun h => absurd rfl h) ?_
              clear hK K hE hE2
              obtain rfl := HA.out
              clear HA
              refine wpAnyL_done (by kernel_rfl) ?_ _
              have hown2 : OwR tYY 0 w9 (.slice (some ⟨g', 0, none⟩) (kl'.length + 1) c') (kl' ++ [⟨sa, sn, sc⟩]) := hown
              obtain ⟨colK, st1, lgK⟩ := hP.out.lg.pushK hown2 hg2 hl2 HD.out
              have HPK := Lib.hid (hP.out.other st1 (fun c hc => by omega) lgK)
              clear f9 c39 c19 cs9 cv9 hp9 cv ck1 hb1 HN1 hKo hown hown2 hgrow hg2 hlies hl2 st1 lgK hP HCS
              obtain ⟨wK, hwK⟩ : ∃ x, x = w9.setCell ⟨p, 4, none⟩ (.slice (some ⟨g', 0, none⟩) (kl'.length + 1) c') := ⟨_, rfl⟩
              rw [← hwK] at HPK ⊢
              clear hwK
              have hSo := Lib.hid HPK.out.lg.so
              have hsz := HPK.out.lg.pb.cell 5
              obtain ⟨sa2, sn2, sc2⟩ := sv'
              have hsz2 : wK.cell? ⟨p, 5, none⟩ = some (.slice sa2 sn2 sc2) := hsz
              clear hsz
              go_wp2_with (at_builtin; refine wpl_pushL tI rfl _ _ rfl 0 _ ids' rfl (hSo.out.alloc _) _ 0 1 1 [(kl.length : Int) + (i : Int)] rfl rfl (Nat.succ_pos _) (rangeNew (by rfl) (by rfl)) (by unfold maxLen; simp; omega) (by show _ * 8 ≤ _; simp; omega) (by simp) ?_; intro g2 c2 w10 hown hgrow hlies; have hp9 := HPK.out.lg.grown hgrow HPK.out.lg.sc (by omega); have f9 := hp9.frozen 5; have c9 := hp9.cell 5; simp only [lgC, List.getElem?_toArray, List.getElem?_cons_succ, List.getElem?_cons_zero] at c9)
              have hown2 : OwR tI 0 w10 (.slice (some ⟨g2, 0, none⟩) (ids'.length + 1) c2) (ids' ++ [(kl.length : Int) + (i : Int)]) := hown
              obtain ⟨a1, _, a3, _, _⟩ := HPK.out.rows i _ HSI.out
              obtain ⟨colS, st2, lgS⟩ := HPK.out.lg.pushS (i' := fr.length) hown2 hgrow hlies (by rw [List.length_append, HD.out]; rfl) (by rw [HD.out, List.getElem?_append_right (Nat.le_refl _), Nat.sub_self]; rfl) (by omega) (by omega) (by show sn ≤ _; omega) a1 (Nat.le_refl _) (fun g hg => ⟨(a3 g hg).1, by have := (a3 g hg).2; omega, by have := (a3 g hg).2; omega⟩)
              have hPS := Lib.hid (HPK.out.other st2 (fun c hc => by omega) lgS)
              clear a1 a3 hown hown2 hgrow hlies st2 lgS HPK hSo hp9 f9 c9
              go_roundw
              all_goals first
                | exact ⟨i + 1, _, _, _, _, _, by omega, by go_num, by rw [List.length_append, HK.out]; rfl, by rw [List.length_append, List.length_append, HD.out]; rfl, hPS.out⟩
                | ((repeat apply Exists.intro); exact ⟨⟨i + 1, _, _, _, _, _, by omega, by go_num, by rw [List.length_append, HK.out]; rfl, by rw [List.length_append, List.length_append, HD.out]; rfl, hPS.out⟩, rfl⟩)
                | (simp [intOf] <;> omega)
            · obtain rfl : i = fr.length := by omega
              clear hit
              have f1 := hP.out.lg.pb.frozen 2
              have f2 := hP.out.lg.pb.frozen 3
              have c2 : wr.cell? ⟨p, 3, none⟩ = some wv.v := hP.out.lg.pb.cell 3
              go_wp2
              go_end0
              obtain ⟨lgE, stE⟩ := hP.out.lg.close
              have st := (HSt.out.mono (r' := fun c => c ≠ 0) (fun c hc => by omega)).trans (hP.out.st.trans (stE.mono (fun c hc => by omega)))
              exact ⟨rfl, _, _, _, _, _, lgE, by have := HK.out; omega, HD.out, st.os, st.tape, st.output, st.size, fun b hb h0 => ⟨st.block b hb (by simp [h0]), by have := st.col b hb; simp only [this, h0]; rfl⟩⟩
end Go.Proofs.Ytfdjdpbiccclfaa
namespace Go.Proofs.Ytfdjdpbiccclfaa
open Go Go.RowKit Go.Wr
set_option maxHeartbeats 4000000
set_option maxRecDepth 100000
section
variable {col col' : Nat → Nat} {p i : Nat} {tot : Int × Int} {fv wv kv sv : Sn} {fr wl kl : List Sn} {ids : List Int} {w w' : World}
theorem Lg.pushF (h : Lg col p i tot fv wv kv sv fr wl kl ids w) {o : Obj} {g n c : Nat} {s : Sn} (ho : OwR tYY 0 w' (.slice (some ⟨g, 0, none⟩) n c) (fr ++ [s])) (hg : (w.alloc o).grownBy w' fv.v.ownBlock) (hl : fv.v.ownBlock = some g ∨ g = (w.alloc o).heap.size) :
    ∃ col', Stp (fun c => c = 1 ∨ c = 2) col col' w (w'.setCell ⟨p, 2, none⟩ (.slice (some ⟨g, 0, none⟩) n c)) ∧ Lg col' p i tot ⟨some ⟨g, 0, none⟩, n, c⟩ wv kv sv (fr ++ [s]) wl kl ids (w'.setCell ⟨p, 2, none⟩ (.slice (some ⟨g, 0, none⟩) n c)) := by
  obtain ⟨V, hV⟩ : ∃ V, V = Value.slice (some ⟨g, 0, none⟩) n c := ⟨_, rfl⟩
  have s1 : Stp (fun c => c = 1 ∨ c = 2) col (fun b => if b = g then 2 else col b) w w' := Stp.grow (Or.inr rfl) h.fo h.fc hg hl
  have hplt := h.pb.lt
  have hpg : p ≠ g := by
    rcases hl with hl | hl
    · intro e; have := h.fc g hl; rw [← e, h.pc] at this; omega
    · simp at hl; omega
  have hp' : Blk w' p 51 (lgC tot fv.v wv.v kv.v sv.v) := h.pb.of_block (by
    rw [hg.block p (by simp; omega) (fun e => by have := h.fc p e.symm; rw [h.pc] at this; omega)]
    exact Below.heap_alloc w o p hplt)
  have s2 : Stp (fun c => c = 1 ∨ c = 2) (fun b => if b = g then 2 else col b) (fun b => if b = g then 2 else col b) w' (w'.setCell ⟨p, 2, none⟩ V) := Stp.set (c := 1) (Or.inl rfl) (by simp [hpg, h.pc])
  have st := s1.trans s2
  have pk : Blk (w'.setCell ⟨p, 2, none⟩ V) p 51 (lgC tot V wv.v kv.v sv.v) := (hp'.set 2 V).eq rfl
  rw [← hV] at ho ⊢
  refine ⟨_, st, pk.eq (by rw [hV]; rfl), (st.col p hplt).trans h.pc,
    ?_, fun q hq => ?_,
    st.own h.wo fun g hg => by rw [h.wc g hg]; omega, fun g hg => (st.col g (h.wo.lt hg)).trans (h.wc g hg),
    st.own h.ko fun g hg => by rw [h.kc g hg]; omega, fun g hg => (st.col g (h.ko.lt hg)).trans (h.kc g hg),
    st.own h.so fun g hg => by rw [h.sc g hg]; omega, fun g hg => (st.col g (h.so.lt hg)).trans (h.sc g hg), fun k s x hk hx => ?_⟩
  · show OwR tYY 0 _ (.slice (some ⟨g, 0, none⟩) n c) _
    rw [← hV]
    exact ho.set_other (fun e => hpg (by rw [hV] at e; injection e with e; exact e.symm))
  · injection hq with hq
    simp only at hq
    subst hq
    simp
  · obtain ⟨a1, a2, n, a3, a4, a5⟩ := h.kr k s x hk hx
    exact ⟨a1, a2, n, a3, st.sl a4 fun g hg k => by have := (a5 g hg).2.1; omega, fun g hg => ⟨Nat.lt_of_lt_of_le (a5 g hg).1 st.size, by rw [st.col g (a5 g hg).1]; exact (a5 g hg).2⟩⟩
theorem Lg.pushW (h : Lg col p i tot fv wv kv sv fr wl kl ids w) {o : Obj} {g n c : Nat} {s : Sn} (ho : OwR tYY 0 w' (.slice (some ⟨g, 0, none⟩) n c) (wl ++ [s])) (hg : (w.alloc o).grownBy w' wv.v.ownBlock) (hl : wv.v.ownBlock = some g ∨ g = (w.alloc o).heap.size) :
    ∃ col', Stp (fun c => c = 1 ∨ c = 3) col col' w (w'.setCell ⟨p, 3, none⟩ (.slice (some ⟨g, 0, none⟩) n c)) ∧ Lg col' p i tot fv ⟨some ⟨g, 0, none⟩, n, c⟩ kv sv fr (wl ++ [s]) kl ids (w'.setCell ⟨p, 3, none⟩ (.slice (some ⟨g, 0, none⟩) n c)) := by
  obtain ⟨V, hV⟩ : ∃ V, V = Value.slice (some ⟨g, 0, none⟩) n c := ⟨_, rfl⟩
  have s1 : Stp (fun c => c = 1 ∨ c = 3) col (fun b => if b = g then 3 else col b) w w' := Stp.grow (Or.inr rfl) h.wo h.wc hg hl
  have hplt := h.pb.lt
  have hpg : p ≠ g := by
    rcases hl with hl | hl
    · intro e; have := h.wc g hl; rw [← e, h.pc] at this; omega
    · simp at hl; omega
  have hp' : Blk w' p 51 (lgC tot fv.v wv.v kv.v sv.v) := h.pb.of_block (by
    rw [hg.block p (by simp; omega) (fun e => by have := h.wc p e.symm; rw [h.pc] at this; omega)]
    exact Below.heap_alloc w o p hplt)
  have s2 : Stp (fun c => c = 1 ∨ c = 3) (fun b => if b = g then 3 else col b) (fun b => if b = g then 3 else col b) w' (w'.setCell ⟨p, 3, none⟩ V) := Stp.set (c := 1) (Or.inl rfl) (by simp [hpg, h.pc])
  have st := s1.trans s2
  have pk : Blk (w'.setCell ⟨p, 3, none⟩ V) p 51 (lgC tot fv.v V kv.v sv.v) := (hp'.set 3 V).eq rfl
  rw [← hV] at ho ⊢
  refine ⟨_, st, pk.eq (by rw [hV]; rfl), (st.col p hplt).trans h.pc,
    st.own h.fo fun g hg => by rw [h.fc g hg]; omega, fun g hg => (st.col g (h.fo.lt hg)).trans (h.fc g hg),
    ?_, fun q hq => ?_,
    st.own h.ko fun g hg => by rw [h.kc g hg]; omega, fun g hg => (st.col g (h.ko.lt hg)).trans (h.kc g hg),
    st.own h.so fun g hg => by rw [h.sc g hg]; omega, fun g hg => (st.col g (h.so.lt hg)).trans (h.sc g hg), fun k s x hk hx => ?_⟩
  · show OwR tYY 0 _ (.slice (some ⟨g, 0, none⟩) n c) _
    rw [← hV]
    exact ho.set_other (fun e => hpg (by rw [hV] at e; injection e with e; exact e.symm))
  · injection hq with hq
    simp only at hq
    subst hq
    simp
  · obtain ⟨a1, a2, n, a3, a4, a5⟩ := h.kr k s x hk hx
    exact ⟨a1, a2, n, a3, st.sl a4 fun g hg k => by have := (a5 g hg).2.1; omega, fun g hg => ⟨Nat.lt_of_lt_of_le (a5 g hg).1 st.size, by rw [st.col g (a5 g hg).1]; exact (a5 g hg).2⟩⟩
theorem Lg.recol (h : Lg col p i tot fv wv kv sv fr wl kl ids w) (hc : ∀ b, b < w.heap.size → col b ≠ 0 → col' b = col b) : Lg col' p i tot fv wv kv sv fr wl kl ids w := by
  have go : ∀ b c, b < w.heap.size → col b = c → c ≠ 0 → col' b = c := fun b c hb e hc0 => (hc b hb (by omega)).trans e
  refine ⟨h.pb, go p 1 h.pb.lt h.pc (by omega), h.fo, fun g hg => go g 2 (h.fo.lt hg) (h.fc g hg) (by omega), h.wo, fun g hg => go g 3 (h.wo.lt hg) (h.wc g hg) (by omega),
    h.ko, fun g hg => go g 4 (h.ko.lt hg) (h.kc g hg) (by omega), h.so, fun g hg => go g 5 (h.so.lt hg) (h.sc g hg) (by omega), fun k s x hk hx => ?_⟩
  obtain ⟨a1, a2, n, a3, a4, a5⟩ := h.kr k s x hk hx
  exact ⟨a1, a2, n, a3, a4, fun g hg => by obtain ⟨b1, b2, b3⟩ := a5 g hg; rw [hc g b1 (by omega)]; exact ⟨b1, b2, b3⟩⟩
theorem Lg.far {r : Nat → Prop} (h : Lg col p i tot fv wv kv sv fr wl kl ids w) (st : Stp r col col' w w') (hr : ∀ c, r c → c = 0 ∨ 7 + i ≤ c) : Lg col' p i tot fv wv kv sv fr wl kl ids w' := by
  have no : ∀ {c : Nat}, 0 < c → c < 7 → ¬ r c := fun h0 hc k => by have := hr _ k; omega
  refine ⟨h.pb.of_block (st.block p h.pb.lt (by rw [h.pc]; exact no (by omega) (by omega))), (st.col p h.pb.lt).trans h.pc,
    st.own h.fo fun g hg => by rw [h.fc g hg]; exact no (by omega) (by omega), fun g hg => (st.col g (h.fo.lt hg)).trans (h.fc g hg),
    st.own h.wo fun g hg => by rw [h.wc g hg]; exact no (by omega) (by omega), fun g hg => (st.col g (h.wo.lt hg)).trans (h.wc g hg),
    st.own h.ko fun g hg => by rw [h.kc g hg]; exact no (by omega) (by omega), fun g hg => (st.col g (h.ko.lt hg)).trans (h.kc g hg),
    st.own h.so fun g hg => by rw [h.sc g hg]; exact no (by omega) (by omega), fun g hg => (st.col g (h.so.lt hg)).trans (h.sc g hg), fun k s x hk hx => ?_⟩
  obtain ⟨a1, a2, n, a3, a4, a5⟩ := h.kr k s x hk hx
  exact ⟨a1, a2, n, a3, st.sl a4 fun g hg k => by have := hr _ k; have := (a5 g hg).2; omega, fun g hg => ⟨Nat.lt_of_lt_of_le (a5 g hg).1 st.size, by rw [st.col g (a5 g hg).1]; exact (a5 g hg).2⟩⟩
theorem Lg.total (h : Lg col p i tot fv wv kv sv fr wl kl ids w) (n t : Int) : Lg col p i (n, t) fv wv kv sv fr wl kl ids ((w.setCell ⟨p, 0, none⟩ (.int .i64 n)).setCell ⟨p, 1, none⟩ (.int .i64 t)) ∧ Stp (fun c => c = 1) col col w ((w.setCell ⟨p, 0, none⟩ (.int .i64 n)).setCell ⟨p, 1, none⟩ (.int .i64 t)) := by
  have s1 : Stp (fun c => c = 1) col col w (w.setCell ⟨p, 0, none⟩ (.int .i64 n)) := Stp.set (r := fun c => c = 1) (c := 1) rfl h.pc
  have s2 : Stp (fun c => c = 1) col col (w.setCell ⟨p, 0, none⟩ (.int .i64 n)) ((w.setCell ⟨p, 0, none⟩ (.int .i64 n)).setCell ⟨p, 1, none⟩ (.int .i64 t)) := Stp.set (r := fun c => c = 1) (c := 1) rfl h.pc
  have st := s1.trans s2
  refine ⟨⟨((h.pb.set 0 _).set 1 _).eq rfl, h.pc, st.own h.fo fun g hg => by rw [h.fc g hg]; omega, h.fc, st.own h.wo fun g hg => by rw [h.wc g hg]; omega, h.wc,
    st.own h.ko fun g hg => by rw [h.kc g hg]; omega, h.kc, st.own h.so fun g hg => by rw [h.sc g hg]; omega, h.sc, fun k s x hk hx => ?_⟩, st⟩
  obtain ⟨a1, a2, n, a3, a4, a5⟩ := h.kr k s x hk hx
  exact ⟨a1, a2, n, a3, st.sl a4 fun g hg k => by have := (a5 g hg).2.1; omega, fun g hg => ⟨Nat.lt_of_lt_of_le (a5 g hg).1 st.size, (a5 g hg).2⟩⟩
end
def Led (U : Nat → Prop) (p n : Nat) (w : World) : Prop :=
  ∃ (col : Nat → Nat) (tot : Int × Int) (fv wv kv sv : Sn) (fr wl kl : List Sn) (ids : List Int), Lg col p 0 tot fv wv kv sv fr wl kl ids w ∧
    ids.length = kl.length ∧ kl.length + 2 * fr.length ≤ 2 * n ∧ wl.length = fr.length ∧ fr.length ≤ 2 ∧ 0 ≤ tot.1 ∧ tot.1 ≤ (n : Int) ∧ 0 ≤ tot.2 ∧ tot.2 ≤ (n : Int) * 1073741824 ∧
    (∀ (k : Nat) (s : Sn), fr[k]? = some s → ∃ t l, wl[k]? = some t ∧ OwR tY 0 w s.v l ∧ SlX tY p w t.v l ∧ s.n ≤ 1073741824 ∧ (∀ g, s.v.ownBlock = some g → col g = 7 + k) ∧ (∀ g, t.v.ownBlock = some g → g < w.heap.size ∧ col g = 6)) ∧
    ∀ b, b < w.heap.size → ¬ U b → col b = 0
theorem Led.lt {U : Nat → Prop} {p n : Nat} {w : World} (h : Led U p n w) : p < w.heap.size := by
  obtain ⟨_, _, _, _, _, _, _, _, _, _, h, _⟩ := h
  exact h.pb.lt
theorem Led.keep {U : Nat → Prop} {p n : Nat} {w w' : World} (h : Led U p n w) (ho : w'.os = w.os) (ht : w'.tape = w.tape) (hu : w'.output = w.output) (hs : w.heap.size ≤ w'.heap.size) (hb : ∀ b, b < w.heap.size → U b → w'.heap[b]? = w.heap[b]?) : Led U p n w' := by
  obtain ⟨col, tot, fv, wv, kv, sv, fr, wl, kl, ids, lg, h1, h2, h3, h4, hc0, hc1, h5, h6, h7, h8⟩ := h
  have st : Stp (fun c => c = 0) col (fun b => if b < w.heap.size then col b else 0) w w' := ⟨ho, ht, hu, hs, fun b hlt hn => hb b hlt (Classical.byContradiction fun k => hn (h8 b hlt k)), fun b hlt => by simp [hlt]⟩
  refine ⟨_, tot, fv, wv, kv, sv, fr, wl, kl, ids, lg.far st (fun c hc => Or.inl hc), h1, h2, h3, h4, hc0, hc1, h5, h6, fun k s hk => ?_, fun b hlt hn => ?_⟩
  · obtain ⟨t, l, a1, a2, a3, a4, a5, a6⟩ := h7 k s hk
    exact ⟨t, l, a1, st.own a2 fun g hg => by rw [a5 g hg]; omega, st.sl a3 fun g hg => by rw [(a6 g hg).2]; omega, a4, fun g hg => (st.col g (a2.lt hg)).trans (a5 g hg), fun g hg => ⟨Nat.lt_of_lt_of_le (a6 g hg).1 hs, (st.col g (a6 g hg).1).trans (a6 g hg).2⟩⟩
  · show (if b < w.heap.size then col b else 0) = 0
    split
    · exact h8 b (by assumption) hn
    · rfl
theorem Led.new (w : World) : Led (fun b => b = w.heap.size) w.heap.size 0 (w.alloc (.cells (lgC (0, 0) (.slice none 0 0) (.slice none 0 0) (.slice none 0 0) (.slice none 0 0)) 51)) := by
  refine ⟨fun b => if b = w.heap.size then 1 else 0, (0, 0), ⟨none, 0, 0⟩, ⟨none, 0, 0⟩, ⟨none, 0, 0⟩, ⟨none, 0, 0⟩, [], [], [], [],
    ⟨Blk.new _ _ _, by simp, OwR.nil _ _, fun g hg => (by cases hg), OwR.nil _ _, fun g hg => (by cases hg), OwR.nil _ _, fun g hg => (by cases hg), OwR.nil _ _, fun g hg => (by cases hg), fun k s x hk => by simp at hk⟩,
    rfl, by simp, rfl, by simp, by simp, by simp, by simp, by simp, fun k s hk => by simp at hk, fun b _ hb => by simp [hb]⟩
structure Fu (U : Nat → Prop) (w w' : World) : Prop where
  os : w'.os = w.os
  tape : w'.tape = w.tape
  output : w'.output = w.output
  size : w.heap.size ≤ w'.heap.size
  block : ∀ b, b < w.heap.size → ¬ U b → w'.heap[b]? = w.heap[b]?
theorem Lg.holds {col : Nat → Nat} {p i : Nat} {tot : Int × Int} {fv wv kv sv : Sn} {fr wl kl : List Sn} {ids : List Int} {w : World} (h : Lg col p i tot fv wv kv sv fr wl kl ids w) (hlen : ids.length = kl.length) (h3 : fr.length ≤ 1099511627776)
    (hs : ∀ (k : Nat) (s : Sn), fr[k]? = some s → ∃ t l, wl[k]? = some t ∧ SlX tY p w s.v l ∧ SlX tY p w t.v l) :
    Calls Try.prog 46 #[.pointer (some ⟨p, 0, none⟩)] w fun e w' => e = .returned (.bool true) ∧ Below w.heap.size w w' :=
  holds_ok w p tot fv wv kv sv fr wl kl ids h.pb h.fs h.ws h3 hs (h.ko.sl (h.ne h.kc (by omega))) (h.so.sl (h.ne h.sc (by omega))) hlen.symm (fun k s hk => by
    have hlt := (List.getElem?_eq_some_iff.1 hk).1
    obtain ⟨x, hx⟩ : ∃ x, ids[k]? = some x := ⟨_, List.getElem?_eq_getElem (by omega)⟩
    obtain ⟨a1, a2, n, a3, a4, _⟩ := h.kr k s x hk hx
    exact ⟨x, n, hx, a1, a2, a3, a4⟩)
theorem done_ok (w : World) (U : Nat → Prop) (p n : Nat) (h : Led U p n w) (hn : n ≤ 268435456) :
    Calls Try.prog 26 #[.pointer (some ⟨p, 0, none⟩)] w fun e w' => e = .returned (.bool true) ∧ Fu U w w' := by
  obtain ⟨col, tot, fv, wv, kv, sv, fr, wl, kl, ids, lg, h1, h2, h3, h4, hc0, hc1, h5, h6, h7, h8⟩ := h
  have HW := Lib.hid (write_ok w col p tot fv wv kv sv fr wl kl ids lg h1 (by omega) h5 (by omega) (fun k s hk => by
    obtain ⟨t, l, a1, a2, a3, a4, a5, _⟩ := h7 k s hk
    exact ⟨t, l, a1, a2, a3, a4, a5⟩))
  have H8 := Lib.hid h8
  clear lg h1 h7 h8 h5 h6 h3
  go_enter Try.func26, Try.ntmps26
  go_wp2_with fail
  refine HW.out.mono ?_
  rintro e w1 ⟨rfl, col', kv', sv', kl', ids', lg, k1, k2, fz⟩
  have HH := Lib.hid (lg.holds k2 (by simp) (fun k s hk => by simp at hk))
  have HF := Lib.hid fz
  clear lg k1 k2 fz HW
  go_wp2_with fail
  refine HH.out.mono ?_
  rintro e w2 ⟨rfl, hb⟩
  have HB := Lib.hid hb
  clear hb HH
  go_wp2
  go_ret
  have f := HF.out
  have b := HB.out
  exact ⟨rfl, b.os.trans f.os, b.tape.trans f.tape, b.output.trans f.output, Nat.le_trans f.size b.size, fun q hq hU => (b.block q (Nat.lt_of_lt_of_le hq f.size)).trans (f.block q hq (H8.out q hq hU)).1⟩
structure Rw (col : Nat → Nat) (p : Nat) (fr wl : List Sn) (cont : Nat → List By) (w : World) : Prop where
  f : ∀ (k : Nat) (s : Sn), fr[k]? = some s → OwR tY 0 w s.v (cont k) ∧ s.n ≤ 1073741824 ∧ ∀ g, s.v.ownBlock = some g → col g = 7 + k
  w : ∀ (k : Nat) (t : Sn), wl[k]? = some t → SlX tY p w t.v (cont k) ∧ ∀ g, t.v.ownBlock = some g → g < w.heap.size ∧ col g = 6
theorem Rw.step {r : Nat → Prop} {col col' : Nat → Nat} {p : Nat} {fr wl : List Sn} {cont : Nat → List By} {w w' : World} (h : Rw col p fr wl cont w) (st : Stp r col col' w w') (hr : ∀ c, r c → c < 6) : Rw col' p fr wl cont w' :=
  ⟨fun k s hk => by
    obtain ⟨a1, a2, a3⟩ := h.f k s hk
    exact ⟨st.own a1 fun g hg e => by have := hr _ e; have := a3 g hg; omega, a2, fun g hg => (st.col g (a1.lt hg)).trans (a3 g hg)⟩,
   fun k t hk => by
    obtain ⟨a1, a2⟩ := h.w k t hk
    exact ⟨st.sl a1 fun g hg e => by have := hr _ e; have := (a2 g hg).2; omega, fun g hg => ⟨Nat.lt_of_lt_of_le (a2 g hg).1 st.size, (st.col g (a2 g hg).1).trans (a2 g hg).2⟩⟩⟩
theorem Rw.more {col : Nat → Nat} {p : Nat} {fr wl : List Sn} {cont : Nat → List By} {w : World} (h : Rw col p fr wl cont w) {t : Sn} (ht : SlX tY p w t.v (cont wl.length)) (hc : ∀ g, t.v.ownBlock = some g → g < w.heap.size ∧ col g = 6) : Rw col p fr (wl ++ [t]) cont w :=
  ⟨h.f, fun k u hk => by
    by_cases e : k < wl.length
    · rw [List.getElem?_append_left e] at hk
      exact h.w k u hk
    · have hl := (List.getElem?_eq_some_iff.1 hk).1
      rw [List.length_append] at hl
      obtain rfl : k = wl.length := by simp only [List.length_cons, List.length_nil] at hl; omega
      rw [List.getElem?_append_right (Nat.le_refl _), Nat.sub_self] at hk
      injection hk with hk
      subst hk
      exact ⟨ht, hc⟩⟩
theorem Led.open {U : Nat → Prop} {p n : Nat} {w : World} (h : Led U p n w) {s : Sn} {l : List By} (ho : OwR tY 0 w s.v l) (hs : s.n ≤ 1073741824) (hU : ∀ g, s.v.ownBlock = some g → ¬ U g) :
    ∃ (col : Nat → Nat) (tot : Int × Int) (fv wv kv sv : Sn) (fr wl kl : List Sn) (ids : List Int) (cont : Nat → List By), Lg col p 0 tot fv wv kv sv fr wl kl ids w ∧
      ids.length = kl.length ∧ kl.length + 2 * fr.length ≤ 2 * n ∧ wl.length = fr.length ∧ fr.length ≤ 2 ∧ 0 ≤ tot.1 ∧ tot.1 ≤ (n : Int) ∧ 0 ≤ tot.2 ∧ tot.2 ≤ (n : Int) * 1073741824 ∧ Rw col p (fr ++ [s]) wl cont w ∧ cont fr.length = l ∧
      ∀ b, b < w.heap.size → ¬ (U b ∨ s.v.ownBlock = some b) → col b = 0 := by
  obtain ⟨col, tot, fv, wv, kv, sv, fr, wl, kl, ids, lg, h1, h2, h3, h4, hc0, hc1, h5, h6, h7, h8⟩ := h
  have hch : ∀ k : Nat, ∃ m : List By, ∀ s, fr[k]? = some s → ∃ t, wl[k]? = some t ∧ OwR tY 0 w s.v m ∧ SlX tY p w t.v m := fun k => by
    cases e : fr[k]? with
    | none => exact ⟨[], fun s hs => by cases hs⟩
    | some t =>
      obtain ⟨u, m, a1, a2, a3, _⟩ := h7 k t e
      exact ⟨m, fun s hs => by injection hs with hs; subst hs; exact ⟨u, a1, a2, a3⟩⟩
  obtain ⟨cont, hcont⟩ := Classical.axiomOfChoice hch
  have hz : ∀ b, b < w.heap.size → s.v.ownBlock = some b → col b = 0 := fun b hb e => h8 b hb (hU b e)
  refine ⟨fun b => if s.v.ownBlock = some b then 7 + fr.length else col b, tot, fv, wv, kv, sv, fr, wl, kl, ids, setF cont fr.length l, lg.recol fun b hb hc => ?_, h1, h2, h3, h4, hc0, hc1, h5, h6, ⟨fun k u hk => ?_, fun k t hk => ?_⟩, setF_self _ _ _, fun b hb hn => ?_⟩
  · exact if_neg fun e => hc (hz b hb e)
  · by_cases e : k < fr.length
    · rw [List.getElem?_append_left e] at hk
      obtain ⟨t, a1, a2, a3⟩ := hcont k u hk
      obtain ⟨_, _, _, _, _, b4, b5, _⟩ := h7 k u hk
      rw [setF_ne (by omega)]
      exact ⟨a2, b4, fun g hg => by
        rw [if_neg (fun e => by have := hz g (a2.lt hg) e; have := b5 g hg; omega)]
        exact b5 g hg⟩
    · have hl := (List.getElem?_eq_some_iff.1 hk).1
      rw [List.length_append] at hl
      obtain rfl : k = fr.length := by simp only [List.length_cons, List.length_nil] at hl; omega
      rw [List.getElem?_append_right (Nat.le_refl _), Nat.sub_self] at hk
      injection hk with hk
      subst hk
      rw [setF_self]
      exact ⟨ho, hs, fun g hg => if_pos hg⟩
  · have hkl := (List.getElem?_eq_some_iff.1 hk).1
    obtain ⟨u, hu⟩ : ∃ u, fr[k]? = some u := ⟨_, List.getElem?_eq_getElem (by omega)⟩
    obtain ⟨t', a1, a2, a3⟩ := hcont k u hu
    obtain ⟨t2, _, b1, _, _, _, _, b6⟩ := h7 k u hu
    rw [hk] at a1 b1
    injection a1 with a1
    injection b1 with b1
    subst a1; subst b1
    rw [setF_ne (by omega)]
    exact ⟨a3, fun g hg => ⟨(b6 g hg).1, by rw [if_neg (fun e => by have := hz g (b6 g hg).1 e; have := (b6 g hg).2; omega)]; exact (b6 g hg).2⟩⟩
  · show (if s.v.ownBlock = some b then 7 + fr.length else col b) = 0
    rw [if_neg fun e => hn (Or.inr e)]
    exact h8 b hb fun k => hn (Or.inl k)
end Go.Proofs.Ytfdjdpbiccclfaa
namespace Go.Proofs.Ytfdjdpbiccclfaa
open Go Go.RowKit Go.Wr
set_option maxHeartbeats 4000000
set_option maxRecDepth 100000
theorem Rw.both {col : Nat → Nat} {p : Nat} {fr wl : List Sn} {cont : Nat → List By} {w : World} (h : Rw col p fr wl cont w) (hl : wl.length = fr.length) : ∀ (k : Nat) (s : Sn), fr[k]? = some s → ∃ t l, wl[k]? = some t ∧ OwR tY 0 w s.v l ∧ SlX tY p w t.v l ∧ s.n ≤ 1073741824 ∧ (∀ g, s.v.ownBlock = some g → col g = 7 + k) ∧ (∀ g, t.v.ownBlock = some g → g < w.heap.size ∧ col g = 6) := fun k s hk => by
  have hlt := (List.getElem?_eq_some_iff.1 hk).1
  obtain ⟨t, ht⟩ : ∃ t, wl[k]? = some t := ⟨_, List.getElem?_eq_getElem (by omega)⟩
  obtain ⟨a1, a2, a3⟩ := h.f k s hk
  obtain ⟨b1, b2⟩ := h.w k t ht
  exact ⟨t, cont k, ht, a1, b1, a2, a3, b2⟩
theorem own_ok (w : World) (U : Nat → Prop) (p n : Nat) (h : Led U p n w) (hn : n ≤ 268435455) (sa : Option Addr) (sn sc : Nat) (l : List By) (ho : OwR tY 0 w (Sn.v ⟨sa, sn, sc⟩) l) (hs : sn ≤ 1073741824) (hU : ∀ g, (Sn.v ⟨sa, sn, sc⟩).ownBlock = some g → ¬ U g) :
    Calls Try.prog 25 #[.pointer (some ⟨p, 0, none⟩), .slice sa sn sc] w fun e w' => e = .returned (.bool true) ∧ Fu (fun b => U b ∨ (Sn.v ⟨sa, sn, sc⟩).ownBlock = some b) w w' ∧ Led (fun b => U b ∨ (Sn.v ⟨sa, sn, sc⟩).ownBlock = some b ∨ (w.heap.size ≤ b ∧ b < w'.heap.size)) p (n + 1) w' := by
  have mix : Try.prog.follows .mixedOrders = true := by kernel_rfl
  obtain ⟨col, tot, fv, wv, kv, sv, fr, wl, kl, ids, cont, lg, h1, h2, h3, h4, hc0, hc1, h5, h6, rw0, hcl, h8⟩ := h.open ho hs hU
  have HW := Lib.hid (And.intro h1 (And.intro h2 h3))
  have H8 := Lib.hid h8
  have hwf := own_wf ho
  have elen : sn = l.length := own_n ho
  have HE := Lib.hid elen
  have HCl := Lib.hid hcl
  clear h ho hU h1 h2 h3 h8 elen hcl
  have c0 : w.cell? ⟨p, 0, none⟩ = some (.int .i64 tot.1) := lg.pb.cell 0
  have f0 := lg.pb.frozen 0
  have c1 : w.cell? ⟨p, 1, none⟩ = some (.int .i64 tot.2) := lg.pb.cell 1
  have f1 := lg.pb.frozen 1
  obtain ⟨lg1, st1⟩ := lg.total (tot.1 + 1) (tot.2 + (sn : Int))
  obtain ⟨w1, hw1⟩ : ∃ x, x = (w.setCell ⟨p, 0, none⟩ (.int .i64 (tot.1 + 1))).setCell ⟨p, 1, none⟩ (.int .i64 (tot.2 + (sn : Int))) := ⟨_, rfl⟩
  have rw1 := rw0.step st1 (fun c hc => by omega)
  rw [← hw1] at lg1 st1 rw1
  have HL1 := Lib.hid lg1
  have HS1 := Lib.hid st1
  have HR1 := Lib.hid rw1
  have HW1 := Lib.hid hw1
  obtain ⟨fa, fn, fc⟩ := fv
  obtain ⟨wa, wn, wc⟩ := wv
  clear lg lg1 st1 rw0 rw1 hw1
  go_enter Try.func25, Try.ntmps25
  go_upto_region 3 with (fail)
  rw [← HW1.out]
  clear c0 f0 c1 f1
  have c1 : w1.cell? ⟨p, 2, none⟩ = some (.slice fa fn fc) := HL1.out.pb.cell 2
  have hFo := Lib.hid HL1.out.fo
  go_upto_region 4 with (at_builtin; refine wpl_pushL tYY rfl _ _ rfl 0 _ fr rfl (hFo.out.alloc _) _ 0 1 1 [⟨sa, sn, sc⟩] rfl rfl (Nat.succ_pos _) (rangeNew (by rfl) (by rfl)) (by unfold maxLen; simp; omega) (by show _ * 24 ≤ _; simp; omega) (by simp) ?_; intro g' c' w9 hown hgrow hlies; have hp9 := HL1.out.grown hgrow HL1.out.fc (by omega); have f9 := hp9.frozen 2; have c9 := hp9.cell 2; simp only [lgC, List.getElem?_toArray, List.getElem?_cons_succ, List.getElem?_cons_zero] at c9)
  have hown2 : OwR tYY 0 w9 (.slice (some ⟨g', 0, none⟩) (fr.length + 1) c') (fr ++ [⟨sa, sn, sc⟩]) := hown
  obtain ⟨col2, st2, lg2⟩ := HL1.out.pushF hown2 hgrow hlies
  have rw2 := HR1.out.step st2 (fun c hc => by omega)
  clear hown hown2 hgrow hlies hp9 f9 c9 c1 hFo
  obtain ⟨w2, hw2⟩ : ∃ x, x = w9.setCell ⟨p, 2, none⟩ (.slice (some ⟨g', 0, none⟩) (fr.length + 1) c') := ⟨_, rfl⟩
  rw [← hw2] at lg2 st2 rw2 ⊢
  clear hw2
  have st12 := (HS1.out.mono (r' := fun c => c ≠ 0) (fun c hc => by omega)).trans (st2.mono (fun c hc => by omega))
  have HL2 := Lib.hid lg2
  have HS2 := Lib.hid st12
  have HR2 := Lib.hid rw2
  clear lg2 st2 rw2 st12 HL1 HS1 HR1 HW1
  have c2 : w2.cell? ⟨p, 3, none⟩ = some (.slice wa wn wc) := HL2.out.pb.cell 3
  have hrow : (fr ++ [(⟨sa, sn, sc⟩ : Sn)])[fr.length]? = some ⟨sa, sn, sc⟩ := by rw [List.getElem?_append_right (Nat.le_refl _), Nat.sub_self]; rfl
  have hsl : SlX tY p w2 (.slice sa sn sc) l := by
    obtain ⟨a1, _, a3⟩ := HR2.out.f _ _ hrow
    rw [HCl.out] at a1
    exact a1.sl (HL2.out.ne a3 (by omega))
  have HSl := Lib.hid hsl
  clear hsl hrow
  go_upto_region 4 with (fail)
  refine wp_region_last 11 (fun w' => w'.cell? ⟨p, 3, none⟩ = some (.slice wa wn wc)) mix ?_
  have cv : w2.drew.cell? ⟨p, 3, none⟩ = some (.slice wa wn wc) := c2
  refine wpAnyL_take (i := 0) (v := .pointer (some ⟨p, 0, none⟩)) rfl (by kernel_rfl) (by kernel_rfl) (by kernel_rfl) (fun _ _ _ h => h) rfl (by kernel_rfl) (Or.inl ⟨by rfl, fun w' hw' => by (try go_split_ands); go_simp⟩) cv ?_
  simp only [Act.put, List.getElem_toArray, List.getElem_cons_zero, List.setIfInBounds_toArray, List.set_cons_zero, List.set_cons_succ]
  refine wpAnyL_take (i := 1) (v := .pointer (some ⟨p, 0, none⟩)) rfl (by kernel_rfl) (by kernel_rfl) (by kernel_rfl) (fun _ _ _ h => h) rfl (by kernel_rfl) (Or.inl ⟨by rfl, fun w' hw' => by (try go_split_ands); go_simp⟩) cv ?_
  simp only [Act.put, List.getElem_toArray, List.getElem_cons_zero, List.getElem_cons_succ, List.setIfInBounds_toArray, List.set_cons_zero, List.set_cons_succ]
  refine wpAnyL_take (i := 2) (v := .pointer (some ⟨p, 0, none⟩)) rfl (by kernel_rfl) (by kernel_rfl) (by kernel_rfl) (fun _ _ _ h => h) rfl (by kernel_rfl) (Or.inl ⟨by rfl, fun w' hw' => by (try go_split_ands); go_simp⟩) cv ?_
  simp only [Act.put, List.getElem_toArray, List.getElem_cons_zero, List.getElem_cons_succ, List.setIfInBounds_toArray, List.set_cons_zero, List.set_cons_succ]
  refine wpAnyL_take (i := 3) (v := .pointer (some ⟨p, 3, none⟩)) rfl (by kernel_rfl) (by kernel_rfl) (by kernel_rfl) (fun _ _ _ h => h) rfl (by kernel_rfl) (Or.inl ⟨by rfl, fun w' hw' => by (try go_split_ands); go_simp⟩) cv ?_
  simp only [Act.put, List.getElem_toArray, List.getElem_cons_zero, List.getElem_cons_succ, List.setIfInBounds_toArray, List.set_cons_zero, List.set_cons_succ]
  refine wpAnyL_take (i := 4) (v := .slice wa wn wc) rfl (by kernel_rfl) (by kernel_rfl) (by kernel_rfl) (fun _ _ _ h => h) rfl (by kernel_rfl) (Or.inl ⟨by rfl, fun w' hw' => by (try go_split_ands); go_simp⟩) cv ?_
  simp only [Act.put, List.getElem_toArray, List.getElem_cons_zero, List.getElem_cons_succ, List.setIfInBounds_toArray, List.set_cons_zero, List.set_cons_succ]
  refine wpAnyL_take (i := 5) (v := .slice sa sn sc) rfl (by kernel_rfl) (by kernel_rfl) (by kernel_rfl) (fun _ _ _ h => h) rfl (by kernel_rfl) (Or.inl ⟨by rfl, fun w' hw' => by (try go_split_ands); go_simp⟩) cv ?_
  simp only [Act.put, List.getElem_toArray, List.getElem_cons_zero, List.getElem_cons_succ, List.setIfInBounds_toArray, List.set_cons_zero, List.set_cons_succ]
  refine wpAnyL_one (i := 6) (by kernel_rfl) rfl (fun K hK => ?_)
  go_simp
  go_wp2_with fail
  refine (copybytesY w2.drew p (.slice sa sn sc) l HSl.out (by have := HE.out; omega)).mono ?_
  rintro e w3 ⟨hb3, ⟨ta, tn, tc⟩, rfl, hv0⟩
  have hv' : OwR tY w2.drew.heap.size w3 (.slice ta tn tc) l := hv0
  clear hv0
  have hb3' : Below w2.heap.size w2 w3 := ⟨hb3.os, hb3.tape, hb3.output, hb3.size, hb3.block⟩
  have st3 : Stp (fun c => c = 1) col2 (fun b => if (Value.slice ta tn tc).ownBlock = some b then 6 else col2 b) w2 w3 := ⟨hb3'.os, hb3'.tape, hb3'.output, hb3'.size, fun b hb _ => hb3'.block b hb, fun b hb => if_neg fun e => by
    have h1 := (hv'.blk e).1
    have h2 : w2.drew.heap.size = w2.heap.size := rfl
    omega⟩
  obtain ⟨col3, hcol3⟩ : ∃ x, x = fun b => if (Value.slice ta tn tc).ownBlock = some b then 6 else col2 b := ⟨_, rfl⟩
  rw [← hcol3] at st3
  have ht3 : SlX tY p w3 (Sn.v ⟨ta, tn, tc⟩) (cont wl.length) := by
    rw [HW.out.2.2, HCl.out]
    refine hv'.sl fun e => ?_
    have h1 := (hv'.blk e).1
    have h2 : w2.drew.heap.size = w2.heap.size := rfl
    have h3 := HL2.out.pb.lt
    omega
  have hc3 : ∀ g, (Sn.v ⟨ta, tn, tc⟩).ownBlock = some g → g < w3.heap.size ∧ col3 g = 6 := fun g hg => ⟨hv'.lt hg, by rw [hcol3]; exact if_pos hg⟩
  have HL3 := Lib.hid ((HL2.out.recol (col' := col2) (fun _ _ _ => rfl)).far (r := fun _ => False) ⟨st3.os, st3.tape, st3.output, st3.size, fun b hb _ => hb3'.block b hb, st3.col⟩ (fun c hc => hc.elim))
  have HR3 := Lib.hid ((HR2.out.step st3 (fun c hc => by omega)).more ht3 hc3)
  have HS3 := Lib.hid (HS2.out.trans (st3.mono (fun c hc => by omega)))
  clear hb3 hb3' st3 ht3 hc3 hcol3 hv' HL2 HR2 HS2 HSl cv c2
  have cv : w3.cell? ⟨p, 3, none⟩ = some (.slice wa wn wc) := HL3.out.pb.cell 3
  go_wp2_with fail
  refine hK.out _ _ (fun _ => cv) ?_
  clear hK K
  refine wpAnyL_one (i := 7) (by kernel_rfl) rfl (fun K hK => ?_)
  refine step_none rfl ?_
  go_simp
  have hb4 : Below w3.heap.size w3 (w3.alloc (.cells #[.slice ta tn tc] 28)) := bAl (bRefl w3) _
  have HN4 := Lib.hid (Blk.new w3 28 #[.slice ta tn tc])
  have cv4 : (w3.alloc (.cells #[.slice ta tn tc] 28)).cell? ⟨p, 3, none⟩ = some (.slice wa wn wc) := (hb4.cell (World.block_lt_of_cell? _ _ cv)).trans cv
  refine hK.out _ _ (fun _ => cv4) ?_
  clear hK K
  refine wpAnyL_one (i := 8) (by kernel_rfl) rfl (fun K hK => ?_)
  have hWo : OwR tYY 0 (w3.alloc (.cells #[.slice ta tn tc] 28)) (.slice wa wn wc) wl := OwR.below HL3.out.wo hb4
  refine step_pushL tYY rfl (.tmp 36) (.tmp 39) rfl 0 (.slice wa wn wc) wl (by rfl) hWo w3.heap.size 0 1 1 [⟨ta, tn, tc⟩] (by rfl) rfl (Nat.succ_pos _) (rangeBlk HN4.out (by rfl)) (by have := HW.out.2.2; simp; unfold maxLen; omega) (by have := HW.out.2.2; show _ * 24 ≤ _; simp; omega) (Nat.zero_le _) ?_
  intro g2 c2 w9 hown hgrow hlies
  have hp9 := HL3.out.grown hgrow HL3.out.wc (by omega)
  have f9 := hp9.frozen 3
  have cv9 : w9.cell? ⟨p, 3, none⟩ = some (.slice wa wn wc) := hp9.cell 3
  simp only [Act.put, List.setIfInBounds_toArray]
  refine hK.out _ _ (fun _ => cv9) ?_
  clear hK K
  refine wpAnyL_one (i := 9) (by kernel_rfl) rfl (fun K hK => ?_)
  go_simp
  refine hK.out _ _ (fun _ => cv9) ?_
  clear hK K
  refine wpAnyL_one (i := 10) (by kernel_rfl) rfl (fun K hK => ?_)
  go_simp
  refine hK.out _ _ (fun _ => cv9) ?_
  clear hK K
  refine wpAnyL_one (i := 11) (by kernel_rfl) rfl (fun K hK => ?_)
  go_simp
  refine hK.out _ _ (fun h => absurd rfl h) ?_
  clear hK K
  refine wpAnyL_done (by kernel_rfl) ?_ _
  have hown2 : OwR tYY 0 w9 (.slice (some ⟨g2, 0, none⟩) (wl.length + 1) c2) (wl ++ [⟨ta, tn, tc⟩]) := hown
  obtain ⟨col4, st4, lg4⟩ := HL3.out.pushW hown2 hgrow hlies
  have rw4 := HR3.out.step st4 (fun c hc => by omega)
  clear f9 cv9 hp9 cv cv4 hb4 HN4 hWo hown hown2 hgrow hlies
  obtain ⟨w4, hw4⟩ : ∃ x, x = w9.setCell ⟨p, 3, none⟩ (.slice (some ⟨g2, 0, none⟩) (wl.length + 1) c2) := ⟨_, rfl⟩
  rw [← hw4] at lg4 st4 rw4 ⊢
  clear hw4
  have HL4 := Lib.hid lg4
  have HR4 := Lib.hid rw4
  have HS4 := Lib.hid (HS3.out.trans (st4.mono (fun c hc => by omega)))
  clear lg4 rw4 st4 HL3 HR3 HS3
  have hFl : (fr ++ [(⟨sa, sn, sc⟩ : Sn)]).length = fr.length + 1 := by rw [List.length_append]; rfl
  have hWl : (wl ++ [(⟨ta, tn, tc⟩ : Sn)]).length = fr.length + 1 := by rw [List.length_append, HW.out.2.2]; rfl
  have hB := HR4.out.both (hWl.trans hFl.symm)
  have HB4 := Lib.hid hB
  have hH4 := HL4.out.holds HW.out.1 (by omega) (fun k s hk => by
    obtain ⟨t, l, a1, a2, a3, _, a5, _⟩ := hB k s hk
    exact ⟨t, l, a1, a2.sl (HL4.out.ne a5 (by omega)), a3⟩)
  have HH4 := Lib.hid hH4
  have hbd := HW.out.2.1
  have HFl := Lib.hid hFl
  have HWl := Lib.hid hWl
  clear hB hH4 hFl hWl
  have c4 : w4.cell? ⟨p, 2, none⟩ = some (.slice (some ⟨g', 0, none⟩) (fr.length + 1) c') := HL4.out.pb.cell 2
  by_cases h3 : fr.length ≤ 1
  · have h3' : ¬ ((fr.length : Int) + 1 ≥ 3) := by omega
    go_wp2_with fail
    refine HH4.out.mono ?_
    rintro e w5 ⟨rfl, hb5⟩
    have HB5 := Lib.hid hb5
    clear hb5 HH4 c4
    go_wp2
    go_ret
    have st5 : Stp (fun c => c ≠ 0) col col4 w w5 := HS4.out.trans (Stp.of_below HB5.out)
    have st5' : Stp (fun _ => False) col4 col4 w4 w5 := Stp.of_below HB5.out
    refine ⟨rfl, ⟨st5.os, st5.tape, st5.output, st5.size, fun b hb hn => st5.block b hb (by simp [H8.out b hb hn])⟩,
      col4, (tot.1 + 1, tot.2 + (sn : Int)), _, _, kv, sv, _, _, kl, ids, HL4.out.step st5' (fun c hc => hc.elim), HW.out.1, by rw [HFl.out]; omega, HWl.out.trans HFl.out.symm, by rw [HFl.out]; omega, by show 0 ≤ tot.1 + 1; omega, by show tot.1 + 1 ≤ ((n + 1 : Nat) : Int); omega, by show 0 ≤ tot.2 + (sn : Int); omega, by show tot.2 + (sn : Int) ≤ ((n + 1 : Nat) : Int) * 1073741824; omega,
      (HR4.out.step st5' (fun c hc => hc.elim)).both (HWl.out.trans HFl.out.symm), fun b hbw hn => ?_⟩
    have hb : b < w.heap.size := Nat.lt_of_not_le fun k => hn (Or.inr (Or.inr ⟨k, hbw⟩))
    exact (HS4.out.col b hb).trans (H8.out b hb fun k => hn (k.imp id Or.inl))
  · have h3' : ((fr.length : Int) + 1 ≥ 3) := by omega
    have hf2 : fr.length = 2 := by omega
    have hw4 := write_ok w4 col4 p (tot.1 + 1, tot.2 + (sn : Int)) _ _ kv sv _ _ kl ids HL4.out HW.out.1 (by rw [HFl.out]; omega) (by show 0 ≤ tot.2 + (sn : Int); omega) (by show tot.2 + (sn : Int) ≤ _; omega) (fun k s hk => by
      obtain ⟨t, l, a1, a2, a3, a4, a5, _⟩ := HB4.out k s hk
      exact ⟨t, l, a1, a2, a3, a4, a5⟩)
    have HW4 := Lib.hid hw4
    have Hf2 := Lib.hid hf2
    clear hw4 HH4 hf2
    go_wp2_with fail
    refine HW4.out.mono ?_
    rintro e w5 ⟨rfl, col5, kv', sv', kl', ids', lg5, k1, k2, fz⟩
    have HH5 := Lib.hid (lg5.holds k2 (by simp) (fun k s hk => by simp at hk))
    have HL5 := Lib.hid lg5
    have HF5 := Lib.hid fz
    have HK1 := Lib.hid k1
    have HK2 := Lib.hid k2
    clear lg5 fz k1 k2 HW4 c4
    go_wp2_with fail
    refine HH5.out.mono ?_
    rintro e w6 ⟨rfl, hb6⟩
    have HB6 := Lib.hid hb6
    clear hb6 HH5
    go_wp2
    go_ret
    have st5' : Stp (fun _ => False) col5 col5 w5 w6 := Stp.of_below HB6.out
    have s4 := HS4.out
    have f5 := HF5.out
    have h0 : ∀ b, b < w.heap.size → ¬ (U b ∨ (Sn.v ⟨sa, sn, sc⟩).ownBlock = some b) → w5.heap[b]? = w.heap[b]? ∧ col5 b = 0 := fun b hb hn => by
      have e1 := H8.out b hb hn
      have e2 := (s4.col b hb).trans e1
      obtain ⟨a1, a2⟩ := f5.block b (Nat.lt_of_lt_of_le hb s4.size) e2
      exact ⟨a1.trans (s4.block b hb (by simp [e1])), a2⟩
    refine ⟨rfl, ⟨st5'.os.trans (f5.os.trans s4.os), st5'.tape.trans (f5.tape.trans s4.tape), st5'.output.trans (f5.output.trans s4.output), Nat.le_trans s4.size (Nat.le_trans f5.size st5'.size),
      fun b hb hn => (st5'.block b (Nat.lt_of_lt_of_le hb (Nat.le_trans s4.size f5.size)) (fun k => k)).trans (h0 b hb hn).1⟩,
      col5, (tot.1 + 1, tot.2 + (sn : Int)), _, _, kv', sv', [], [], kl', ids', HL5.out.step st5' (fun c hc => hc.elim), HK2.out, ?_, rfl, by simp, by show 0 ≤ tot.1 + 1; omega, by show tot.1 + 1 ≤ ((n + 1 : Nat) : Int); omega, by show 0 ≤ tot.2 + (sn : Int); omega, by show tot.2 + (sn : Int) ≤ ((n + 1 : Nat) : Int) * 1073741824; omega, fun k s hk => by simp at hk, fun b hbw hn => ?_⟩
    · have e1 := HK1.out
      have e2 := HFl.out
      have e3 := Hf2.out
      rw [e2] at e1
      simp only [List.length_nil]
      omega
    · have hb : b < w.heap.size := Nat.lt_of_not_le fun k => hn (Or.inr (Or.inr ⟨k, hbw⟩))
      exact (h0 b hb fun k => hn (k.imp id Or.inl)).2
end Go.Proofs.Ytfdjdpbiccclfaa
namespace Go.Proofs.Ytfdjdpbiccclfaa
open Go Go.RowKit Go.Wr
set_option maxHeartbeats 4000000
set_option maxRecDepth 100000
theorem lpv_range {w : World} {b o : Nat} {x : Lp} (h : w.rangeAt b o (lpv x).toList) : w.cell? ⟨b, o, none⟩ = some (.int .i64 x.h) ∧ w.cell? ⟨b, o + 1, none⟩ = some (.int .i64 x.a) ∧ w.cell? ⟨b, o + 2, none⟩ = some (.int .i64 x.b) ∧ w.cell? ⟨b, o + 3, none⟩ = some (.int .i64 x.k) ∧ w.cell? ⟨b, o + 4, none⟩ = some (.int .i64 x.d) :=
  ⟨h 0 _ rfl, h 1 _ rfl, h 2 _ rfl, h 3 _ rfl, h 4 _ rfl⟩
theorem goodLs_drop {l : List Lp} {k : Nat} {x : Lp} (h : l[k]? = some x) : goodLs (l.drop k) = if goodLoop x = true then goodLs (l.drop (k + 1)) else 113 := by
  obtain ⟨hk, rfl⟩ := List.getElem?_eq_some_iff.1 h
  rw [List.drop_eq_getElem_cons hk]
  rfl
theorem goodCs_drop {l : List Cl} {k : Nat} {x : Cl} (h : l[k]? = some x) : goodCs (l.drop k) = if goodClaim x.d x.f x.l = 0 then goodCs (l.drop (k + 1)) else goodClaim x.d x.f x.l := by
  obtain ⟨hk, rfl⟩ := List.getElem?_eq_some_iff.1 h
  rw [List.drop_eq_getElem_cons hk]
  rfl
theorem wpl_loadR {ops : Array Oper} {rest : List Oper} {op : Oper} {a : Act} {w : World} {Q : Exit → Act → World → Prop} (hgd : op.guard = none) (ty : TypeId) (x : Operand) (ho : op.op = .load ty x)
    (b o : Nat) (hx : a.eval x = .pointer (some ⟨b, o, none⟩)) {D : Array Value} (hc : w.rangeAt b o D.toList) {n : Nat} (hr : RowTy Try.prog ty n) (hn : D.size = n)
    (h : wpList Try.prog ops Q rest (a.put op.dst (.agg D)) w) : wpList Try.prog ops Q (op :: rest) a w := by
  obtain ⟨d, hu, hd, hi⟩ := hr
  exact wpList_load_mid hgd ty x ho b o hx D.toList d hc hu hd (by rw [hi]; simp; omega) (by rw [Array.toArray_toList]; exact h)
theorem plain_ok (w : World) (vl vc : Value) (d : Dd) (h : SlD w.heap.size w vl vc d) :
    Calls Try.prog 29 #[.agg #[vl, vc]] w fun e w' => e = .returned (.int .i64 (plainD d)) ∧ Below w.heap.size w w' := by
  obtain ⟨⟨al, capl, rfl, hl⟩, ⟨ac, capc, rfl, hcl⟩, nl, nc, nb⟩ := h
  obtain ⟨ls, cs⟩ := d
  simp only at hl hcl nl nc nb ⊢
  obtain ⟨R, hR⟩ : ∃ R, R = plainD ⟨ls, cs⟩ := ⟨_, rfl⟩
  rw [← hR]
  unfold plainD at hR
  simp only at hR
  have HR := Lib.hid hR
  have HL := Lib.hid hl
  have HC := Lib.hid hcl
  have NB := Lib.hid nb
  clear hR hl hcl nb
  by_cases h1 : 8 < ls.length
  · have h1' : (8 : Int) < (ls.length : Int) := by omega
    go_enter Try.func29, Try.ntmps29
    go_wp2
    go_ret
    exact ⟨by rw [HR.out, if_pos (Or.inl h1)]; rfl, bAl (bRefl w) _⟩
  · have h1' : ¬ (8 : Int) < (ls.length : Int) := by omega
    by_cases h2 : 512 < cs.length
    · have h2' : (512 : Int) < (cs.length : Int) := by omega
      go_enter Try.func29, Try.ntmps29
      go_wp2
      go_ret
      exact ⟨by rw [HR.out, if_pos (Or.inr h2)]; rfl, bAl (bRefl w) _⟩
    · have h2' : ¬ (512 : Int) < (cs.length : Int) := by omega
      have HR2 : Hid (R = if goodLs ls = 0 then goodCs cs else 113) := by
        show _ = _
        rw [HR.out, if_neg (by omega)]
      clear HR
      go_enter Try.func29, Try.ntmps29
      go_wp2
      go_loopw [21] (fun t wr => ∃ k : Nat, k ≤ ls.length ∧ t = .int .i64 k ∧ Hid (goodLs ls = goodLs (ls.drop k)) ∧ Below w.heap.size w wr ∧ Blk wr w.heap.size 26 #[.slice al ls.length capl, .slice ac cs.length capc]) (fun t _ => ls.length - (intOf t).toNat)
      case atStart => exact ⟨0, by omega, rfl, rfl, bAl (bRefl w) _, Blk.new _ _ _⟩
      case round =>
        obtain ⟨k, hk, rfl, he, hbel, hblk⟩ := hrel
        by_cases hlt : k < ls.length
        · have hlt' : (k : Int) < (ls.length : Int) := by omega
          obtain ⟨x, hx⟩ : ∃ x, ls[k]? = some x := ⟨_, List.getElem?_eq_getElem hlt⟩
          obtain ⟨bb, off, rfl, hbb, hra⟩ := HL.out k x hx
          obtain ⟨g0, g1, g2, g3, g4⟩ := lpv_range (rangeAt_below hra hbel hbb)
          have hs := goodLs_drop hx
          rw [← he.out] at hs
          have HS := Lib.hid hs
          have HB := Lib.hid hblk
          have hbl := hblk.lt
          clear hx hra hs he hblk
          go_wp2_with fail
          have t1 := bAl hbel (.cells (lpv x) 54)
          refine (goodloop_ok _ x).mono ?_
          rintro e w1 ⟨rfl, b1⟩
          have t2 := bThen t1 b1
          have B2 := Lib.hid ((HB.out.alloc (.cells (lpv x) 54)).below b1 (HB.out.alloc _).lt)
          clear b1
          cases hg : goodLoop x with
          | false =>
            have e1 : Hid (R = 113) := by
              show _ = _
              rw [HR2.out, HS.out, hg]
              simp
            go_wp2
            go_ret
            exact ⟨by rw [e1.out]; rfl, t2⟩
          | true =>
            have e1 : Hid (goodLs ls = goodLs (ls.drop (k + 1))) := by
              show _ = _
              rw [HS.out, hg, if_pos rfl]
            go_wp2
            go_roundw
            all_goals first
              | exact ⟨k + 1, by omega, by go_num, e1, t2, B2.out⟩
              | ((repeat apply Exists.intro); exact ⟨⟨k + 1, by omega, by go_num, e1, t2, B2.out⟩, rfl⟩)
              | (simp [intOf]; omega)
        · obtain rfl : k = ls.length := by omega
          have HR3 : Hid (R = goodCs cs) := by
            show _ = _
            have := he.out
            rw [List.drop_length] at this
            rw [HR2.out, this]
            rfl
          have c1 := hblk.cell 1
          simp only [List.getElem?_toArray, List.getElem?_cons_zero, List.getElem?_cons_succ] at c1
          clear HR2 he hlt hk hblk
          go_wp2
          go_loopw [32] (fun t wq => ∃ k : Nat, k ≤ cs.length ∧ t = .int .i64 k ∧ Hid (goodCs cs = goodCs (cs.drop k)) ∧ Below w.heap.size w wq) (fun t _ => cs.length - (intOf t).toNat)
          case atStart => exact ⟨0, by omega, rfl, rfl, hbel⟩
          case round =>
            clear hbel
            obtain ⟨k, hk, rfl, he, hbel⟩ := hrel
            by_cases hlt : k < cs.length
            · have hlt' : (k : Int) < (cs.length : Int) := by omega
              obtain ⟨x, hx⟩ : ∃ x, cs[k]? = some x := ⟨_, List.getElem?_eq_getElem hlt⟩
              obtain ⟨bb, off, vx, rfl, hbb, hra, hsl⟩ := HC.out k x hx
              have hs := goodCs_drop hx
              rw [← he.out] at hs
              have HS := Lib.hid hs
              have HRA := Lib.hid (rangeAt_below hra hbel hbb)
              have hv1 : vx.oneCell' = true := by obtain ⟨_, _, rfl, _⟩ := hsl; rfl
              have hsl' := Lib.hid (hsl.below hbel)
              have hnb := NB.out x (List.mem_of_getElem? hx)
              have hsz := hbel.size
              have HV := Lib.hid (goodClaim_vals x.d x.f x.l)
              clear hx hra hs he hsl c1
              go_upto_region 12 with (first
                | (refine wpl_loadR rfl 61 (.tmp 34) rfl bb (off + k * 128) rfl HRA.out rowClaim (bx_size _ _ _) ?_)
                | (refine wpl_store rfl 61 (.tmp 6) (.tmp 35) rfl wr.heap.size 0 rfl rfl (Blk.new wr _ _) rowClaim (bx_size _ _ _) (of_decide_eq_true (by kernel_rfl)) (bx_one _ rfl hv1) ?_; intro wn hO hN))
              rw [spl_all _ _ (by rw [bx_size]; kernel_rfl)] at hN
              have hn1 : wr.heap.size + 1 = wn.heap.size := by rw [hO.size]; simp
              have t1 : Below w.heap.size w wn := (bAl hbel _).trans (hO.below hsz)
              have hslN := Lib.hid ((hsl'.out.below ((Below.refl _ _).alloc hsz _ |>.trans (hO.below hsz))).mono (show w.heap.size ≤ wn.heap.size by omega))
              have HN := Lib.hid hN
              clear hN hO
              go_wp2_with (refine wpl_load rfl 61 (.tmp 6) rfl wr.heap.size 0 rfl HN.out rowClaim (by rw [bx_size]; omega) (bx_all _ _ _) ?_)
              refine (goodclaim_any wn x.d x.f vx x.l hslN.out hnb).mono ?_
              rintro e w1 ⟨rfl, b1⟩
              have t2 := bThen t1 b1
              clear b1
              by_cases hg : goodClaim x.d x.f x.l = 0
              · have e1 : Hid (goodCs cs = goodCs (cs.drop (k + 1))) := by
                  show _ = _
                  rw [HS.out, if_pos hg]
                rw [hg]
                clear hg
                go_wp2
                go_roundw
                all_goals first
                  | exact ⟨k + 1, by omega, by go_num, e1, t2⟩
                  | ((repeat apply Exists.intro); exact ⟨⟨k + 1, by omega, by go_num, e1, t2⟩, rfl⟩)
                  | (simp [intOf]; omega)
              · have e1 : Hid (R = goodClaim x.d x.f x.l) := by
                  show _ = _
                  rw [HR3.out, HS.out, if_neg hg]
                have hr : goodClaim x.d x.f x.l = R := e1.out.symm
                rw [hr] at hg ⊢
                clear hr
                go_wp2
                go_ret
                exact ⟨rfl, t2⟩
            · obtain rfl : k = cs.length := by omega
              have e0 : Hid (R = 0) := by
                show _ = _
                have := he.out
                rw [List.drop_length] at this
                rw [HR3.out, this]
                rfl
              clear he
              go_wp2
              go_ret
              exact ⟨by rw [e0.out]; rfl, hbel⟩
end Go.Proofs.Ytfdjdpbiccclfaa
namespace Go.Wr
open Go Go.RowKit
variable {P : Program}
theorem wpl_gval {ops : Array Oper} {rest : List Oper} {op : Oper} {a : Act} {w : World} {Q : Exit → Act → World → Prop} (hw : Region.wanted op (yielded ops a.tmps) = true) (v : Value) (hrun : (execOp a.eval op).run P w = .ok (.value v) w)
    (h : wpList P ops Q rest (a.put op.dst v) w) : wpList P ops Q (op :: rest) a w := by
  refine wpList_step fun K hK => ?_
  rw [if_pos hw]
  unfold Oper.wp
  rw [hrun]
  exact hK _ _ h
end Go.Wr
namespace Go.Proofs.Ytfdjdpbiccclfaa
open Go Go.RowKit Go.Wr
set_option maxHeartbeats 4000000
set_option maxRecDepth 100000
def sameC (x y : Cl) : Bool := x.d == y.d && (eqTags x.f y.f 0 10 && (eqTags x.f y.f 10 32 && decide (x.l = y.l)))
theorem sameclaim_ok (w : World) (x y : Cl) (v v' : Value) (h : SlC w.heap.size w v x.l) (h' : SlC w.heap.size w v' y.l) (hl : x.l.length ≤ 140737488351232) :
    Calls Try.prog 44 #[.agg (bx (.bool x.d) x.f v), .agg (bx (.bool y.d) y.f v')] w fun e w' => e = .returned (.bool (sameC x y)) ∧ Below w.heap.size w w' := by
  obtain ⟨d, f, l⟩ := x
  obtain ⟨d', f', l'⟩ := y
  simp only at h h' hl
  have H := Lib.hid h
  have H' := Lib.hid h'
  clear h h'
  obtain ⟨t, ht⟩ : ∃ t, t = sameC ⟨d, f, l⟩ ⟨d', f', l'⟩ := ⟨_, rfl⟩
  rw [← ht]
  unfold sameC at ht
  simp only at ht
  have HT := Lib.hid ht
  clear ht
  go_enter Try.func44, Try.ntmps44
  go_upto_region 1 with (fail)
  generalize hW : ((w.alloc (.cells (bx (.bool d) f v) 61)).alloc (.cells (bx (.bool d') f' v') 61)) = W
  have tW : Below w.heap.size w W := by rw [← hW]; exact bAl (bAl (bRefl w) _) _
  have QB : Blk W w.heap.size 61 (bx (.bool d) f v) := by rw [← hW]; exact Blk.alloc (Blk.new _ _ _) _
  have ZB : Blk W (w.heap.size + 1) 61 (bx (.bool d') f' v') := by rw [← hW]; exact Blk.new_at _ _ (by simp)
  have c0 := (QB.cell 0).trans (bx_zero _ _ _)
  have c9 := (QB.cell 127).trans (bx_last _ _ _)
  have k0 := (ZB.cell 0).trans (bx_zero _ _ _)
  have k9 := (ZB.cell 127).trans (bx_last _ _ _)
  have HQ := Lib.hid QB
  have HZ := Lib.hid ZB
  have HS := Lib.hid (H.out.below tW)
  have HS' := Lib.hid (H'.out.below tW)
  clear hW QB ZB H H'
  by_cases hd : d = d'
  · subst hd
    have hdd : (d == d) = true := by simp
    obtain ⟨b1, hb1⟩ : ∃ b, b = eqTags f f' 0 10 := ⟨_, rfl⟩
    obtain ⟨b2, hb2⟩ : ∃ b, b = eqTags f f' 10 32 := ⟨_, rfl⟩
    have kr : ∀ w, (Op.equalIn 10000 57 (.agg (gr f)) (.agg (gr f'))).run Try.prog w = .ok b1 w := fun w => hb1 ▸ run_eq_regs w f f'
    have ks : ∀ w, (Op.equalIn 10000 58 (.agg (gs f)) (.agg (gs f'))).run Try.prog w = .ok b2 w := fun w => hb2 ▸ run_eq_stk w f f'
    have HT2 : Hid (t = (b1 && (b2 && decide (l = l')))) := by show _ = _; rw [HT.out, hdd, ← hb1, ← hb2]; rfl
    have KR := Lib.hid kr
    have KS := Lib.hid ks
    clear kr ks hb1 hb2 HT
    cases b1 with
    | false =>
      have e1 : Hid (t = false) := HT2.out
      go_wp2_with (first
        | (refine wpl_gval (by rfl) (.agg (gr f)) (exec_load 57 (.tmp 11) rfl w.heap.size 1 rfl HQ.out rowRegs (by rw [bx_size]; omega) (bx_regs _ _ _)) ?_)
        | (refine wpl_gval (by rfl) (.agg (gr f')) (exec_load 57 (.tmp 13) rfl (w.heap.size + 1) 1 rfl HZ.out rowRegs (by rw [bx_size]; omega) (bx_regs _ _ _)) ?_)
        | (refine wpl_gval (by rfl) (.bool false) (exec_eql 57 (.tmp 12) (.tmp 14) 57 rfl rfl rfl guardR (KR.out _)) ?_))
      go_ret
      exact ⟨by rw [e1.out]; rfl, tW⟩
    | true =>
      cases b2 with
      | false =>
        have e1 : Hid (t = false) := HT2.out
        go_wp2_with (first
          | (refine wpl_gval (by rfl) (.agg (gr f)) (exec_load 57 (.tmp 11) rfl w.heap.size 1 rfl HQ.out rowRegs (by rw [bx_size]; omega) (bx_regs _ _ _)) ?_)
          | (refine wpl_gval (by rfl) (.agg (gr f')) (exec_load 57 (.tmp 13) rfl (w.heap.size + 1) 1 rfl HZ.out rowRegs (by rw [bx_size]; omega) (bx_regs _ _ _)) ?_)
          | (refine wpl_gval (by rfl) (.bool true) (exec_eql 57 (.tmp 12) (.tmp 14) 57 rfl rfl rfl guardR (KR.out _)) ?_)
          | (refine wpl_gval (by rfl) (.agg (gs f)) (exec_load 58 (.tmp 18) rfl w.heap.size 31 rfl HQ.out rowStk (by rw [bx_size]; omega) (bx_slots _ _ _)) ?_)
          | (refine wpl_gval (by rfl) (.agg (gs f')) (exec_load 58 (.tmp 20) rfl (w.heap.size + 1) 31 rfl HZ.out rowStk (by rw [bx_size]; omega) (bx_slots _ _ _)) ?_)
          | (refine wpl_gval (by rfl) (.bool false) (exec_eql 58 (.tmp 19) (.tmp 21) 58 rfl rfl rfl guardS (KS.out _)) ?_))
        go_ret
        exact ⟨by rw [e1.out]; rfl, tW⟩
      | true =>
        have e1 : Hid (t = decide (l = l')) := by show _ = _; rw [HT2.out, Bool.true_and, Bool.true_and]
        have hWs := tW.size
        go_wp2_with (first
          | (refine wpl_gval (by rfl) (.agg (gr f)) (exec_load 57 (.tmp 11) rfl w.heap.size 1 rfl HQ.out rowRegs (by rw [bx_size]; omega) (bx_regs _ _ _)) ?_)
          | (refine wpl_gval (by rfl) (.agg (gr f')) (exec_load 57 (.tmp 13) rfl (w.heap.size + 1) 1 rfl HZ.out rowRegs (by rw [bx_size]; omega) (bx_regs _ _ _)) ?_)
          | (refine wpl_gval (by rfl) (.bool true) (exec_eql 57 (.tmp 12) (.tmp 14) 57 rfl rfl rfl guardR (KR.out _)) ?_)
          | (refine wpl_gval (by rfl) (.agg (gs f)) (exec_load 58 (.tmp 18) rfl w.heap.size 31 rfl HQ.out rowStk (by rw [bx_size]; omega) (bx_slots _ _ _)) ?_)
          | (refine wpl_gval (by rfl) (.agg (gs f')) (exec_load 58 (.tmp 20) rfl (w.heap.size + 1) 31 rfl HZ.out rowStk (by rw [bx_size]; omega) (bx_slots _ _ _)) ?_)
          | (refine wpl_gval (by rfl) (.bool true) (exec_eql 58 (.tmp 19) (.tmp 21) 58 rfl rfl rfl guardS (KS.out _)) ?_)
          | fail)
        refine (samecons_ok W v v' l l' (HS.out.mono hWs) (HS'.out.mono hWs) hl).mono ?_
        rintro e w2 ⟨rfl, b2⟩
        rw [← e1.out]
        have t2 := bThen tW b2
        go_wp2
        go_ret
        exact ⟨rfl, t2⟩
  · have hdd : (d == d') = false := by simp [hd]
    have e1 : Hid (t = false) := by show _ = _; rw [HT.out, hdd]; rfl
    clear hd
    go_wp2
    go_ret
    exact ⟨by rw [e1.out]; rfl, tW⟩
end Go.Proofs.Ytfdjdpbiccclfaa
namespace Go.Proofs.Ytfdjdpbiccclfaa
open Go Go.RowKit Go.Wr
set_option maxHeartbeats 4000000
set_option maxRecDepth 100000
def EncP (d : Dd) (w : World) (e : Ending) (w' : World) : Prop :=
  Below w.heap.size w w' ∧ ∃ v, e = .returned (.tuple #[v, .int .i64 (encE d)]) ∧ w'.ownsRow w.heap.size 5 1 v (encD d).length (bcells (encD d))
theorem owns_nil (w : World) (B : Nat) : w.ownsRow B 5 1 (.slice none 0 0) 0 (bcells []) := ⟨rfl, Or.inl ⟨rfl, rfl⟩⟩
theorem enc_bad (w : World) (vl vc : Value) (d : Dd) (h : SlD w.heap.size w vl vc d) (hp : plainD d ≠ 0) :
    Calls Try.prog 13 #[.agg #[vl, vc]] w (EncP d w) := by
  have H := Lib.hid h
  have he : encE d = plainD d := by unfold encE; rw [if_neg hp]
  have hd : encD d = [] := by unfold encD; rw [if_neg (by rw [he]; exact hp)]
  have HE := Lib.hid he
  have HD := Lib.hid hd
  clear h he hd
  go_enter Try.func13, Try.ntmps13
  go_wp2_with fail
  refine (plain_ok _ vl vc d ((H.out.below (bAl (bRefl w) _)).mono (by simp))).mono ?_
  rintro e w1 ⟨rfl, b1⟩
  have t1 := bThen (bAl (bRefl w) _) b1
  clear b1
  go_wp2
  go_ret2
  refine ⟨t1, .slice none 0 0, ?_, ?_⟩
  · rw [HE.out]; rfl
  · rw [HD.out]; exact owns_nil _ _
theorem loopsB_succ {l : List Lp} {k : Nat} {x : Lp} (h : l[k]? = some x) : loopsB (l.take (k + 1)) = loopsB (l.take k) ++ loopB x := by
  rw [List.take_add_one, h]
  simp [loopsB]
theorem claimsB_succ {l : List Cl} {k : Nat} {x : Cl} (h : l[k]? = some x) : claimsB (l.take (k + 1)) = claimsB (l.take k) ++ claimB x.d x.f x.l := by
  rw [List.take_add_one, h]
  simp [claimsB]
theorem leb_pos (k x : Nat) : 0 < (leb k x).length := by
  cases k with
  | zero => simp [leb]
  | succ k => unfold leb; split <;> simp
theorem loopB_len (x : Lp) : (loopB x).length ≤ 50 := by
  unfold loopB
  have h1 := leb_len 9 x.h.toNat
  have h2 := leb_len 9 x.a.toNat
  have h3 := leb_len 9 x.b.toNat
  have h4 := leb_len 9 (sg x.k)
  have h5 := leb_len 9 x.d.toNat
  simp only [List.length_append]
  omega
theorem loopsB_len (l : List Lp) : (loopsB l).length ≤ 50 * l.length := by
  induction l with
  | nil => simp [loopsB]
  | cons x l ih =>
    have := loopB_len x
    simp only [loopsB, List.flatMap_cons, List.length_append, List.length_cons] at ih ⊢
    omega
theorem claimsB_len (l : List Cl) (h : ∀ x ∈ l, x.l.length ≤ 3540) : (claimsB l).length ≤ 50000 * l.length := by
  induction l with
  | nil => simp [claimsB]
  | cons x l ih =>
    have h1 := claimB_len x.d x.f x.l
    have h2 := h x (by simp)
    have h3 := ih fun y hy => h y (by simp [hy])
    simp only [claimsB, List.flatMap_cons, List.length_append, List.length_cons] at h3 ⊢
    omega
theorem enc_good (w : World) (vl vc : Value) (d : Dd) (h : SlD w.heap.size w vl vc d) (hp : plainD d = 0) :
    Calls Try.prog 13 #[.agg #[vl, vc]] w (EncP d w) := by
  have H := Lib.hid h
  obtain ⟨n8, n512, gl, gc⟩ := plainD_all hp
  obtain ⟨ls, cs⟩ := d
  obtain ⟨⟨al, capl, rfl, hl⟩, ⟨ac, capc, rfl, hcl⟩, nl, nc, nb⟩ := h
  simp only at n8 n512 gl gc hl hcl
  have HL := Lib.hid hl
  have HC := Lib.hid hcl
  have GL := Lib.hid gl
  have GC := Lib.hid gc
  have HP := Lib.hid hp
  have hll : Hid (∀ x ∈ cs, x.l.length ≤ 3540) := fun x hx => (goodClaim_iff.1 (gc x hx)).len
  clear hl hcl nl nc nb gl gc hp
  have kc := fun (w : World) (C : Array Value) (n c : Nat) => Lib.run_convert_bytes_const (P := Try.prog) w 28 5 C n c Try.underlying28 Try.underlying5
  go_enter Try.func13, Try.ntmps13
  go_wp2_with fail
  refine (plain_ok _ _ _ ⟨ls, cs⟩ ((H.out.below (bAl (bRefl w) _)).mono (by simp))).mono ?_
  rintro e w1 ⟨rfl, b1⟩
  have t1 := bThen (bAl (bRefl w) _) b1
  have DB := (Blk.new w 26 #[.slice al ls.length capl, .slice ac cs.length capc]).below b1 (Blk.new w _ _).lt
  rw [HP.out]
  have hs1 := b1.size
  simp only [World.size_alloc] at hs1
  clear b1
  have HDB := Lib.hid DB
  clear DB H
  go_upto_region 5 with (fail)
  generalize hW : ((w1.alloc (.cells #[.int .u8 87, .int .u8 65, .int .u8 82, .int .u8 49] 5 (4, 5))).alloc (.cells #[.slice (some ⟨w1.heap.size, 0, none⟩) 4 4] 72)) = W
  obtain ⟨p, hp⟩ : ∃ p, p = w1.heap.size + 1 := ⟨_, rfl⟩
  rw [← hp]
  have hp1 : w1.heap.size + 1 ≤ p ∧ p ≤ w1.heap.size + 1 := by omega
  clear hp
  have q0 : CW w.heap.size p w.heap.size w 26 #[.slice al ls.length capl, .slice ac cs.length capc] [87, 65, 82, 49] W := by
    rw [← hW]
    refine ⟨⟨w1.heap.size, 4, #[.int .u8 87, .int .u8 65, .int .u8 82, .int .u8 49], (4, 5), Blk.new_at _ _ (by simp; omega), ?_, by omega, by omega, by simp, by decide, rfl, rfl, Or.inr ⟨rfl, rfl⟩⟩, Fr.of_below (bAl (bAl t1 _) _), (HDB.out.alloc _).alloc _⟩
    have h1 : (w1.alloc (.cells #[.int .u8 87, .int .u8 65, .int .u8 82, .int .u8 49] 5 (4, 5))).heap[w1.heap.size]? = some (.cells #[.int .u8 87, .int .u8 65, .int .u8 82, .int .u8 49] 5 (4, 5)) := heap_alloc_new w1 _
    exact (Below.heap_alloc _ _ w1.heap.size (lt_of_heap h1)).trans h1
  have hne : w.heap.size ≠ p := by omega
  have hB := q0.size (Nat.le_refl _)
  have c0 := q0.blk.cell 0
  have c1 := q0.blk.cell 1
  simp only [List.getElem?_toArray, List.getElem?_cons_zero, List.getElem?_cons_succ] at c0 c1
  have HQ := Lib.hid q0
  have hwl : IntKind.u64.wrap (ls.length : Int) = ls.length := IntWalk.u64_in _ (by omega)
  have hwc : IntKind.u64.wrap (cs.length : Int) = cs.length := IntWalk.u64_in _ (by omega)
  clear q0 hW HDB kc
  go_wp2_with fail
  (with_reducible refine (wnumber_ok _ _ p _ HQ.out.wt hB ls.length (by omega) (by simp)).mono ?_)
  rintro e w2 ⟨rfl, hw, hf⟩
  have q1 := Lib.hid (HQ.out.next hne (by decide) hw hf)
  have hB1 := q1.out.size (Nat.le_refl _)
  have c0 := q1.out.blk.cell 0
  have c1 := q1.out.blk.cell 1
  simp only [List.getElem?_toArray, List.getElem?_cons_zero, List.getElem?_cons_succ] at c0 c1
  obtain ⟨b0, hb0⟩ : ∃ b0, b0 = [87, 65, 82, 49] ++ leb 9 ls.length := ⟨_, rfl⟩
  rw [← hb0] at q1
  have hl0 : b0.length ≤ 14 ∧ 4 < b0.length := by rw [hb0]; have := leb_len 9 ls.length; have := leb_pos 9 ls.length; simp only [List.length_append, List.length_cons, List.length_nil]; omega
  have HB0 := Lib.hid hb0
  clear hw hf HQ hb0 hB
  go_wp2
  go_loopw [28] (fun t wr => ∃ k : Nat, k ≤ ls.length ∧ t = .int .i64 k ∧ CW w.heap.size p w.heap.size w 26 #[.slice al ls.length capl, .slice ac cs.length capc] (b0 ++ loopsB (ls.take k)) wr) (fun t _ => ls.length - (intOf t).toNat)
  case atStart => exact ⟨0, by omega, rfl, by simpa [loopsB] using q1.out⟩
  case round =>
    obtain ⟨k, hk, rfl, hq⟩ := hrel
    have HQ := Lib.hid hq
    have hBr := hq.size (Nat.le_refl _)
    have c0 := hq.blk.cell 0
    have c1 := hq.blk.cell 1
    simp only [List.getElem?_toArray, List.getElem?_cons_zero, List.getElem?_cons_succ] at c0 c1
    have hlb0 := hq.wt.lt
    clear hq q1 hB1
    by_cases hlt : k < ls.length
    · have hlt' : (k : Int) < (ls.length : Int) := by omega
      obtain ⟨x, hx⟩ : ∃ x, ls[k]? = some x := ⟨_, List.getElem?_eq_getElem hlt⟩
      have hg := goodLoop_iff.1 (GL.out x (List.mem_of_getElem? hx))
      obtain ⟨bb, off, ea, hbb, hra⟩ := HL.out k x hx
      subst ea
      obtain ⟨g0, g1, g2, g3, g4⟩ := lpv_range (rangeAt_below hra (HQ.out.fr.below (by omega) (Nat.le_refl _)) hbb)
      have hs := loopsB_succ hx
      have hll0 := loopsB_len (ls.take k)
      have htk : (ls.take k).length ≤ 8 := by simp; omega
      have hq9 : HQ.out.wt.lt.1 = HQ.out.wt.lt.1 := rfl
      obtain ⟨xh, xa, xb, xk, xd⟩ := x
      simp only at hg g0 g1 g2 g3 g4
      obtain ⟨⟨h0, h1⟩, ⟨a0, a1⟩, ⟨bn0, bn1⟩, hk2, d0, d1⟩ := hg
      obtain ⟨xh, rfl⟩ := Int.eq_ofNat_of_zero_le h0
      obtain ⟨xa, rfl⟩ := Int.eq_ofNat_of_zero_le a0
      obtain ⟨xb, rfl⟩ := Int.eq_ofNat_of_zero_le bn0
      obtain ⟨xd, rfl⟩ := Int.eq_ofNat_of_zero_le d0
      have hu1 : IntKind.u64.wrap (xh : Int) = xh := IntWalk.u64_in _ (by omega)
      have hu2 : IntKind.u64.wrap (xa : Int) = xa := IntWalk.u64_in _ (by omega)
      have hu3 : IntKind.u64.wrap (xb : Int) = xb := IntWalk.u64_in _ (by omega)
      have hu4 : IntKind.u64.wrap (xd : Int) = xd := IntWalk.u64_in _ (by omega)
      obtain ⟨s0, hs0⟩ : ∃ s0, s0 = b0 ++ loopsB (ls.take k) := ⟨_, rfl⟩
      rw [← hs0] at HQ
      have hls : s0.length ≤ 500 := by rw [hs0, List.length_append]; omega
      have HS : Hid (b0 ++ loopsB (ls.take (k + 1)) = s0 ++ loopB ⟨xh, xa, xb, xk, xd⟩) := by
        show _ = _
        rw [hs, hs0, List.append_assoc]
      have hlb : wr.heap.size ≠ p := by omega
      have K2 := Lib.hid hk2
      clear hx hra hs hs0 hll0 htk hk2 hq9
      have L1 := leb_len 9 xh
      have L2 := leb_len 9 xa
      have L3 := leb_len 9 xb
      have L4 := leb_len 9 (sg xk)
      go_upto_region 9 with (fail)
      generalize hV : (wr.alloc (.cells #[.int .i64 (xh : Int), .int .i64 (xa : Int), .int .i64 (xb : Int), .int .i64 xk, .int .i64 (xd : Int)] 54)) = V
      have r0 : CW w.heap.size p wr.heap.size wr 54 (lpv ⟨xh, xa, xb, xk, xd⟩) s0 V := by
        rw [← hV]
        exact ⟨HQ.out.wt.below (bAl (bRefl wr) _), Fr.of_below (bAl (bRefl wr) _), Blk.new _ _ _⟩
      have R0 := Lib.hid r0
      have hR0 := r0.size hBr
      have g0 := r0.blk.cell 0
      simp only [lpv, List.getElem?_toArray, List.getElem?_cons_zero] at g0
      clear r0 hV g1 g2 g3 g4
      go_wp2_with fail
      (with_reducible refine (wnumber_ok _ _ p _ R0.out.wt hR0 xh (by omega) (by omega)).mono ?_)
      rintro e u1 ⟨rfl, hw, hf⟩
      have R1 := Lib.hid (R0.out.next hlb (by decide) hw hf)
      have hR1 := R1.out.size hBr
      have g1 := R1.out.blk.cell 1
      simp only [lpv, List.getElem?_toArray, List.getElem?_cons_zero, List.getElem?_cons_succ] at g1
      clear hw hf
      go_wp2_with fail
      (with_reducible refine (wnumber_ok _ _ p _ R1.out.wt hR1 xa (by omega) (by simp only [List.length_append]; omega)).mono ?_)
      rintro e u2 ⟨rfl, hw, hf⟩
      have R2 := Lib.hid (R1.out.next hlb (by decide) hw hf)
      have hR2 := R2.out.size hBr
      have g2 := R2.out.blk.cell 2
      simp only [lpv, List.getElem?_toArray, List.getElem?_cons_zero, List.getElem?_cons_succ] at g2
      clear hw hf
      go_wp2_with fail
      (with_reducible refine (wnumber_ok _ _ p _ R2.out.wt hR2 xb (by omega) (by simp only [List.length_append]; omega)).mono ?_)
      rintro e u3 ⟨rfl, hw, hf⟩
      have R3 := Lib.hid (R2.out.next hlb (by decide) hw hf)
      have hR3 := R3.out.size hBr
      have g3 := R3.out.blk.cell 3
      simp only [lpv, List.getElem?_toArray, List.getElem?_cons_zero, List.getElem?_cons_succ] at g3
      clear hw hf
      go_wp2_with fail
      (with_reducible refine (wsigned_ok _ _ p _ R3.out.wt hR3 xk K2.out (by simp only [List.length_append]; omega)).mono ?_)
      rintro e u4 ⟨rfl, hw, hf⟩
      have R4 := Lib.hid (R3.out.next hlb (by decide) hw hf)
      have hR4 := R4.out.size hBr
      have g4 := R4.out.blk.cell 4
      simp only [lpv, List.getElem?_toArray, List.getElem?_cons_zero, List.getElem?_cons_succ] at g4
      clear hw hf
      go_wp2_with fail
      (with_reducible refine (wnumber_ok _ _ p _ R4.out.wt hR4 xd (by omega) (by simp only [List.length_append]; omega)).mono ?_)
      rintro e u5 ⟨rfl, hw, hf⟩
      have R5 := Lib.hid (R4.out.next hlb (by decide) hw hf)
      have hR5 := R5.out.size hBr
      clear hw hf
      have hfin := HQ.out.next hne (by decide) R5.out.wt R5.out.fr
      have e5 : s0 ++ leb 9 xh ++ leb 9 xa ++ leb 9 xb ++ leb 9 (sg xk) ++ leb 9 xd = b0 ++ loopsB (ls.take (k + 1)) := by
        rw [HS.out]
        simp [loopB]
      rw [e5] at hfin
      clear g0 g1 g2 g3 g4 e5 HS L1 L2 L3 L4
      go_wp2
      go_roundw
      all_goals first
        | exact ⟨k + 1, by omega, by go_num, hfin⟩
        | ((repeat apply Exists.intro); exact ⟨⟨k + 1, by omega, by go_num, hfin⟩, rfl⟩)
        | (simp [intOf]; omega)
    · obtain rfl : k = ls.length := by omega
      rw [List.take_length] at HQ
      obtain ⟨s0, hs0⟩ : ∃ s0, s0 = b0 ++ loopsB ls := ⟨_, rfl⟩
      rw [← hs0] at HQ
      have hls : s0.length ≤ 500 ∧ 4 < s0.length := by rw [hs0, List.length_append]; have := loopsB_len ls; omega
      have HS0 := Lib.hid hs0
      clear hs0 hlt hk
      go_wp2_with fail
      (with_reducible refine (wnumber_ok _ _ p _ HQ.out.wt hBr cs.length (by omega) (by omega)).mono ?_)
      rintro e w3 ⟨rfl, hw, hf⟩
      have q2 := Lib.hid (HQ.out.next hne (by decide) hw hf)
      have hB2 := q2.out.size (Nat.le_refl _)
      have c1 := q2.out.blk.cell 1
      simp only [List.getElem?_toArray, List.getElem?_cons_zero, List.getElem?_cons_succ] at c1
      obtain ⟨s1, hs1'⟩ : ∃ s1, s1 = s0 ++ leb 9 cs.length := ⟨_, rfl⟩
      rw [← hs1'] at q2
      have hls1 : s1.length ≤ 520 ∧ 4 < s1.length := by rw [hs1', List.length_append]; have := leb_len 9 cs.length; omega
      have HS1 := Lib.hid hs1'
      clear hw hf HQ hs1' hBr c0
      go_wp2
      go_loopw [66] (fun t wq => ∃ k : Nat, k ≤ cs.length ∧ t = .int .i64 k ∧ CW w.heap.size p w.heap.size w 26 #[.slice al ls.length capl, .slice ac cs.length capc] (s1 ++ claimsB (cs.take k)) wq) (fun t _ => cs.length - (intOf t).toNat)
      case atStart => exact ⟨0, by omega, rfl, by simpa [claimsB] using q2.out⟩
      case round =>
        obtain ⟨k, hk, rfl, hq⟩ := hrel
        have HQ := Lib.hid hq
        have hBr := hq.size (Nat.le_refl _)
        have hlb0 := hq.wt.lt
        clear hq q2 hB2 c1
        by_cases hlt : k < cs.length
        · have hlt' : (k : Int) < (cs.length : Int) := by omega
          obtain ⟨x, hx⟩ : ∃ x, cs[k]? = some x := ⟨_, List.getElem?_eq_getElem hlt⟩
          obtain ⟨bb, off, vx, ea, hbb, hra, hsl⟩ := HC.out k x hx
          subst ea
          have hbel := HQ.out.fr.below (Nat.le_of_lt (by omega)) (Nat.le_refl _)
          have HRA := Lib.hid (rangeAt_below hra hbel hbb)
          have hv1 : vx.oneCell' = true := by obtain ⟨_, _, rfl, _⟩ := hsl; rfl
          have HSL := Lib.hid (hsl.below hbel)
          have HOK := Lib.hid (goodClaim_iff.1 (GC.out x (List.mem_of_getElem? hx)))
          have hs := claimsB_succ hx
          have hcl := claimsB_len (cs.take k) (fun y hy => hll.out y (List.mem_of_mem_take hy))
          have htk : (cs.take k).length ≤ 512 := by simp; omega
          obtain ⟨s2, hs2⟩ : ∃ s2, s2 = s1 ++ claimsB (cs.take k) := ⟨_, rfl⟩
          rw [← hs2] at HQ
          have hls2 : s2.length ≤ 30000000 := by rw [hs2, List.length_append]; omega
          have HS : Hid (s1 ++ claimsB (cs.take (k + 1)) = s2 ++ claimB x.d x.f x.l) := by
            show _ = _
            rw [hs, hs2, List.append_assoc]
          clear hx hra hsl hbel hs hcl htk hs2
          go_upto_region 19 with (first
            | (refine wpl_loadR rfl 61 (.tmp 68) rfl bb (off + k * 128) rfl HRA.out rowClaim (bx_size _ _ _) ?_)
            | (refine wpl_store rfl 61 (.tmp 9) (.tmp 69) rfl wr.heap.size 0 rfl rfl (Blk.new wr _ _) rowClaim (bx_size _ _ _) (of_decide_eq_true (by kernel_rfl)) (bx_one _ rfl hv1) ?_; intro wn hO hN))
          rw [spl_all _ _ (by rw [bx_size]; kernel_rfl)] at hN
          have hn1 : wr.heap.size + 1 = wn.heap.size := by rw [hO.size]; simp
          have bN : Below wr.heap.size wr wn := ((Below.refl _ _).alloc (Nat.le_refl _) _).trans (hO.below (Nat.le_refl _))
          have hQN := Lib.hid (HQ.out.below bN)
          have HSL2 := Lib.hid (HSL.out.below (bN.mono hBr))
          have HN := Lib.hid hN
          clear hN hO bN HSL
          go_wp2_with (refine wpl_load rfl 61 (.tmp 9) rfl wr.heap.size 0 rfl HN.out rowClaim (by rw [bx_size]; omega) (bx_all _ _ _) ?_)
          (with_reducible refine (wclaim_ok wn w.heap.size p s2 hQN.out.wt (hQN.out.size (Nat.le_refl _)) x.d x.f vx x.l HSL2.out HOK.out.tags HOK.out.conIn (by have := HOK.out.len; omega) (by omega)).mono ?_)
          rintro e w4 ⟨rfl, hw, hf⟩
          have hfin := hQN.out.next hne (by decide) hw hf
          rw [← HS.out] at hfin
          clear hw hf HN
          go_wp2
          go_roundw
          all_goals first
            | exact ⟨k + 1, by omega, by go_num, hfin⟩
            | ((repeat apply Exists.intro); exact ⟨⟨k + 1, by omega, by go_num, hfin⟩, rfl⟩)
            | (simp [intOf]; omega)
        · obtain rfl : k = cs.length := by omega
          rw [List.take_length] at HQ
          have hdb : s1 ++ claimsB cs = deedB ⟨ls, cs⟩ := by
            rw [HS1.out, HS0.out, HB0.out]
            simp [deedB, bodyB]
          rw [hdb] at HQ
          obtain ⟨dl, hdl⟩ : ∃ dl, dl = deedB ⟨ls, cs⟩ := ⟨_, rfl⟩
          have hlen : 4 < dl.length := by rw [hdl, ← hdb, List.length_append]; omega
          rw [← hdl] at HQ
          obtain ⟨v, cv, ov, ov2⟩ := HQ.out.wt.own hlen
          obtain ⟨vo, vcap, rfl⟩ := ov2
          have hbd : dl.length ≤ 30000000 := by
            have := claimsB_len cs hll.out
            rw [hdl, ← hdb, List.length_append]
            omega
          have HDL := Lib.hid hdl
          have OV := Lib.hid ov
          clear hdb hdl ov hlt hk
          by_cases hbig : 4194304 < dl.length
          · have hbig' : (4194304 : Int) < (dl.length : Int) := by omega
            have e2 : Hid (encE ⟨ls, cs⟩ = 2) := by
              show _ = _
              unfold encE
              rw [if_pos HP.out, if_pos (by rw [← HDL.out]; exact hbig)]
            go_wp2
            go_ret2
            refine ⟨HQ.out.fr.below (by omega) (Nat.le_refl _), .slice none 0 0, by rw [e2.out]; rfl, ?_⟩
            rw [show encD ⟨ls, cs⟩ = [] by unfold encD; rw [e2.out]; rfl]
            exact owns_nil _ _
          · have hbig' : ¬ (4194304 : Int) < (dl.length : Int) := by omega
            have e2 : Hid (encE ⟨ls, cs⟩ = 0) := by
              show _ = _
              unfold encE
              rw [if_pos HP.out, if_neg (by rw [← HDL.out]; exact hbig)]
            go_wp2
            go_ret2
            refine ⟨HQ.out.fr.below (by omega) (Nat.le_refl _), _, by rw [e2.out]; rfl, ?_⟩
            rw [show encD ⟨ls, cs⟩ = dl by unfold encD; rw [e2.out, if_pos rfl, HDL.out]]
            exact OV.out
theorem encode_ok (w : World) (vl vc : Value) (d : Dd) (h : SlD w.heap.size w vl vc d) : Calls Try.prog 13 #[.agg #[vl, vc]] w (EncP d w) := by
  by_cases hp : plainD d = 0
  · exact enc_good w vl vc d h hp
  · exact enc_bad w vl vc d h hp
end Go.Proofs.Ytfdjdpbiccclfaa
namespace Go.Proofs.Ytfdjdpbiccclfaa
open Go Go.RowKit Go.Wr
set_option maxHeartbeats 4000000
set_option maxRecDepth 100000
def eqLp (a b : Lp) : Bool := a.h == b.h && (a.a == b.a && (a.b == b.b && (a.k == b.k && a.d == b.d)))
theorem eqLp_iff {a b : Lp} : eqLp a b = true ↔ a = b := by
  cases a; cases b; simp [eqLp]
theorem guardL : Try.prog.eqGuardType Try.prog.depth 54 = false := by kernel_rfl
theorem run_eq_loop (w : World) (d : Nat) (a b : Lp) : (Op.equalIn (d + 2) 54 (.agg (lpv a)) (.agg (lpv b))).run Try.prog w = .ok (eqLp a b) w := by
  have hS : Try.prog.underlying 54 = some (.struct (Try.prog.fieldsOf 54)) := by kernel_rfl
  have hp : Try.prog.stoodInHeld 54 = false := by kernel_rfl
  have ui := Try.underlying3
  have ai := Try.isAgg3
  have si := Try.sizeOf3
  rw [run_equalIn_agg w (d + 1) 54 _ _ hS hp]
  simp only [Program.fieldsOf, Try.underlying54, lpv]
  go_simp
  by_cases h1 : a.h = b.h <;> by_cases h2 : a.a = b.a <;> by_cases h3 : a.b = b.b <;> by_cases h4 : a.k = b.k <;> by_cases h5 : a.d = b.d <;> simp [h1, h2, h3, h4, h5, eqLp]
def sameCs : List Cl → List Cl → Bool
  | [], [] => true
  | x :: l, y :: m => sameC x y && sameCs l m
  | _, _ => false
def sameD (d e : Dd) : Bool := decide (d.ls = e.ls) && sameCs d.cs e.cs
theorem sameCs_len {l : List Cl} : ∀ {m : List Cl}, sameCs l m = true → l.length = m.length := by
  induction l with
  | nil => intro m h; cases m with
    | nil => rfl
    | cons y m => cases h
  | cons x l ih => intro m h; cases m with
    | nil => cases h
    | cons y m =>
      simp only [sameCs, Bool.and_eq_true] at h
      simp only [List.length_cons, ih h.2]
theorem sameCs_iff {l : List Cl} : ∀ {m : List Cl}, sameCs l m = true ↔ l.length = m.length ∧ ∀ (i : Nat) (x y : Cl), l[i]? = some x → m[i]? = some y → sameC x y = true := by
  induction l with
  | nil => intro m; cases m <;> simp [sameCs]
  | cons x l ih =>
    intro m
    cases m with
    | nil => simp [sameCs]
    | cons y m =>
      simp only [sameCs, Bool.and_eq_true, ih, List.length_cons]
      constructor
      · rintro ⟨h1, h2, h3⟩
        refine ⟨by omega, fun i a b ha hb => ?_⟩
        cases i with
        | zero =>
          simp only [List.getElem?_cons_zero, Option.some.injEq] at ha hb
          subst ha hb
          exact h1
        | succ i =>
          simp only [List.getElem?_cons_succ] at ha hb
          exact h3 i a b ha hb
      · rintro ⟨h1, h2⟩
        exact ⟨h2 0 x y rfl rfl, by omega, fun i a b ha hb => h2 (i + 1) a b (by simpa using ha) (by simpa using hb)⟩
theorem exec_loadR {op : Oper} {a : Act} {w : World} (ty : TypeId) (x : Operand) (ho : op.op = .load ty x)
    (b o : Nat) (hx : a.eval x = .pointer (some ⟨b, o, none⟩)) {D : Array Value} (hc : w.rangeAt b o D.toList) {n : Nat} (hr : RowTy Try.prog ty n) (hn : D.size = n) :
    (execOp a.eval op).run Try.prog w = .ok (.value (.agg D)) w := by
  obtain ⟨d, hu, hd, hi⟩ := hr
  have := run_loadAt_mid (P := Try.prog) w b o ty D.toList d hc hu hd (by rw [hi]; simp; omega)
  unfold execOp
  simp only [ho, hx, Sem.run_bind, this, Result.andThen_ok, Array.toArray_toList, Sem.run_pure]
theorem samedeed_ok (w : World) (vl vc vl' vc' : Value) (d d' : Dd) (h : SlD w.heap.size w vl vc d) (h' : SlD w.heap.size w vl' vc' d') :
    Calls Try.prog 22 #[.agg #[vl, vc], .agg #[vl', vc']] w fun e w' => e = .returned (.bool (sameD d d')) ∧ Below w.heap.size w w' := by
  obtain ⟨ls, cs⟩ := d
  obtain ⟨ls', cs'⟩ := d'
  obtain ⟨⟨al, capl, rfl, hl⟩, ⟨ac, capc, rfl, hcl⟩, nl, nc, nb⟩ := h
  obtain ⟨⟨al', capl', rfl, hl'⟩, ⟨ac', capc', rfl, hcl'⟩, nl', nc', nb'⟩ := h'
  simp only at hl hcl nl nc nb hl' hcl' nl' nc' nb'
  have HL := Lib.hid hl
  have HC := Lib.hid hcl
  have HL' := Lib.hid hl'
  have HC' := Lib.hid hcl'
  have NB := Lib.hid nb
  obtain ⟨t, ht⟩ : ∃ t, t = sameD ⟨ls, cs⟩ ⟨ls', cs'⟩ := ⟨_, rfl⟩
  rw [← ht]
  unfold sameD at ht
  simp only at ht
  have HT := Lib.hid ht
  clear hl hcl hl' hcl' nb nb' ht
  by_cases hn : ls.length = ls'.length
  · have hn1 : ((ls.length : Int) != (ls'.length : Int)) = false := by rw [bne_eq_false_iff_eq]; omega
    by_cases hm : cs.length = cs'.length
    · have hm1 : ((cs.length : Int) != (cs'.length : Int)) = false := by rw [bne_eq_false_iff_eq]; omega
      have HN := Lib.hid hn
      have HM := Lib.hid hm
      clear hn hm
      go_enter Try.func22, Try.ntmps22
      go_upto_region 3 with (fail)
      generalize hW : ((w.alloc (.cells #[.slice al ls.length capl, .slice ac cs.length capc] 26)).alloc (.cells #[.slice al' ls'.length capl', .slice ac' cs'.length capc'] 26)) = W
      have tW : Below w.heap.size w W := by rw [← hW]; exact bAl (bAl (bRefl w) _) _
      have QB : Blk W w.heap.size 26 #[.slice al ls.length capl, .slice ac cs.length capc] := by rw [← hW]; exact Blk.alloc (Blk.new _ _ _) _
      have ZB : Blk W (w.heap.size + 1) 26 #[.slice al' ls'.length capl', .slice ac' cs'.length capc'] := by rw [← hW]; exact Blk.new_at _ _ (by simp)
      have HQ := Lib.hid QB
      have HZ := Lib.hid ZB
      clear hW QB ZB
      go_wp2
      go_loopw [5] (fun u wr => ∃ k : Nat, k ≤ ls.length ∧ u = .int .i64 (k : Int) ∧ Hid (∀ i, i < k → ls[i]? = ls'[i]?) ∧ Below w.heap.size w wr ∧ Below W.heap.size W wr) (fun u _ => ls.length - (intOf u).toNat)
      case atStart => exact ⟨0, by omega, rfl, (fun i hi => by omega), tW, bRefl _⟩
      case round =>
        obtain ⟨k, hk, rfl, he, hbel, hbW⟩ := hrel
        have q0 := (HQ.out.below hbW HQ.out.lt).cell 0
        have z0 := (HZ.out.below hbW HZ.out.lt).cell 0
        have q1 := (HQ.out.below hbW HQ.out.lt).cell 1
        have z1 := (HZ.out.below hbW HZ.out.lt).cell 1
        simp only [List.getElem?_toArray, List.getElem?_cons_zero, List.getElem?_cons_succ] at q0 z0 q1 z1
        by_cases hlt : k < ls.length
        · have hlt' : (k : Int) < (ls.length : Int) := by omega
          have hlt2 : (k : Int) < (ls'.length : Int) := by have := HN.out; omega
          obtain ⟨x, hx⟩ : ∃ x, ls[k]? = some x := ⟨_, List.getElem?_eq_getElem hlt⟩
          obtain ⟨y, hy⟩ : ∃ x, ls'[k]? = some x := ⟨_, List.getElem?_eq_getElem (by have := HN.out; omega)⟩
          obtain ⟨bb, off, rfl, hbb, hra⟩ := HL.out k x hx
          obtain ⟨bc, off', rfl, hbc, hrb⟩ := HL'.out k y hy
          obtain ⟨g0, g1, g2, g3, g4⟩ := lpv_range (rangeAt_below hra hbel hbb)
          obtain ⟨k0, k1, k2, k3, k4⟩ := lpv_range (rangeAt_below hrb hbel hbc)
          have HXY := Lib.hid (And.intro hx hy)
          clear hx hy hra hrb
          go_upto_region 6 with (fail)
          refine wp_still mix (by kernel_rfl) ?_
          iterate 10 still_step
          refine wpStill_val (by rfl) (.bool (!eqLp x y)) (exec_neq 54 (.tmp 34) (.tmp 39) 54 rfl rfl rfl guardL (run_eq_loop _ 9998 x y)) ?_
          refine wpStill_nil ?_
          cases hq : eqLp x y with
          | false =>
            have e1 : Hid (t = false) := by
              show _ = _
              rw [HT.out]
              have : ¬ ls = ls' := by
                rintro rfl
                have h2 := HXY.out.1.symm.trans HXY.out.2
                injection h2 with h2
                rw [eqLp_iff.2 h2] at hq
                cases hq
              simp [this]
            clear hq he HXY
            go_wp2
            go_ret
            exact ⟨by rw [e1.out]; rfl, hbel.drew⟩
          | true =>
            have he2 : Hid (∀ i, i < k + 1 → ls[i]? = ls'[i]?) := fun i hi => by
              by_cases hik : i < k
              · exact he.out i hik
              · obtain rfl : i = k := by omega
                rw [HXY.out.1, HXY.out.2, eqLp_iff.1 hq]
            clear hq he HXY
            go_wp2
            go_roundw
            all_goals first
              | exact ⟨k + 1, by omega, by go_num, he2, hbel.drew, hbW.drew⟩
              | ((repeat apply Exists.intro); exact ⟨⟨k + 1, by omega, by go_num, he2, hbel.drew, hbW.drew⟩, rfl⟩)
              | (simp [intOf]; omega)
        · obtain rfl : k = ls.length := by omega
          have HT2 : Hid (t = sameCs cs cs') := by
            show _ = _
            have : ls = ls' := List.ext_getElem? fun i => by
              by_cases hi : i < ls.length
              · exact he.out i hi
              · have := HN.out
                rw [List.getElem?_eq_none (by omega), List.getElem?_eq_none (by omega)]
            rw [HT.out, decide_eq_true this, Bool.true_and]
          clear he hlt hk HT tW
          go_wp2
          go_loopw [6] (fun u wq => ∃ k : Nat, k ≤ cs.length ∧ u = .int .i64 (k : Int) ∧ Hid (∀ i, i < k → ∀ x y : Cl, cs[i]? = some x → cs'[i]? = some y → sameC x y = true) ∧ Below w.heap.size w wq ∧ Below W.heap.size W wq) (fun u _ => cs.length - (intOf u).toNat)
          case atStart => exact ⟨0, by omega, rfl, (fun i hi => by omega), hbel, hbW⟩
          case round =>
            clear hbel hbW q0 z0 q1 z1
            obtain ⟨k, hk, rfl, he, hbel, hbW⟩ := hrel
            have q1 := (HQ.out.below hbW HQ.out.lt).cell 1
            have z1 := (HZ.out.below hbW HZ.out.lt).cell 1
            simp only [List.getElem?_toArray, List.getElem?_cons_zero, List.getElem?_cons_succ] at q1 z1
            by_cases hlt : k < cs.length
            · have hlt' : (k : Int) < (cs.length : Int) := by omega
              have hlt2 : (k : Int) < (cs'.length : Int) := by have := HM.out; omega
              obtain ⟨x, hx⟩ : ∃ x, cs[k]? = some x := ⟨_, List.getElem?_eq_getElem hlt⟩
              obtain ⟨y, hy⟩ : ∃ x, cs'[k]? = some x := ⟨_, List.getElem?_eq_getElem (by have := HM.out; omega)⟩
              obtain ⟨bb, off, vx, rfl, hbb, hra, hsx⟩ := HC.out k x hx
              obtain ⟨bc, off', vy, rfl, hbc, hrb, hsy⟩ := HC'.out k y hy
              have HRA := Lib.hid (rangeAt_below hra hbel hbb)
              have HRB := Lib.hid (rangeAt_below hrb hbel hbc)
              have hsz := hbel.size
              have HSX := Lib.hid ((hsx.below hbel).mono hsz)
              have HSY := Lib.hid ((hsy.below hbel).mono hsz)
              have hnx := NB.out x (List.mem_of_getElem? hx)
              have HXY := Lib.hid (And.intro hx hy)
              clear hx hy hra hrb hsx hsy
              go_upto_region 11 with (fail)
              refine wp_tail 10 mix (by kernel_rfl) ?_
              simp only [List.take_succ_cons, List.take_zero, List.drop_succ_cons, List.drop_zero]
              iterate 4 still_step
              refine wpStill_val (by rfl) (.agg (bx (.bool x.d) x.f vx)) (exec_loadR 61 (.tmp 51) rfl bb (off + k * 128) rfl HRA.out rowClaim (bx_size _ _ _)) ?_
              iterate 4 still_step
              refine wpStill_val (by rfl) (.agg (bx (.bool y.d) y.f vy)) (exec_loadR 61 (.tmp 56) rfl bc (off' + k * 128) rfl HRB.out rowClaim (bx_size _ _ _)) ?_
              refine wpStill_nil ?_
              go_wp2_with fail
              refine (sameclaim_ok wr.drew x y vx vy (HSX.out.below (w' := wr.drew) ⟨rfl, rfl, rfl, Nat.le_refl _, fun _ _ => rfl⟩) (HSY.out.below (w' := wr.drew) ⟨rfl, rfl, rfl, Nat.le_refl _, fun _ _ => rfl⟩) hnx).mono ?_
              rintro e w2 ⟨rfl, b2⟩
              have t2 := bThen hbel.drew b2
              have t3 := bThen hbW.drew b2
              clear b2
              cases hq : sameC x y with
              | false =>
                have e1 : Hid (t = false) := by
                  show _ = _
                  rw [HT2.out, Bool.eq_false_iff]
                  intro e
                  have := (sameCs_iff.1 e).2 k x y HXY.out.1 HXY.out.2
                  rw [hq] at this
                  cases this
                clear hq he HXY
                go_wp2
                go_ret
                exact ⟨by rw [e1.out]; rfl, t2⟩
              | true =>
                have he2 : Hid (∀ i, i < k + 1 → ∀ x y : Cl, cs[i]? = some x → cs'[i]? = some y → sameC x y = true) := fun i hi x' y' hx' hy' => by
                  by_cases hik : i < k
                  · exact he.out i hik x' y' hx' hy'
                  · obtain rfl : i = k := by omega
                    have h1 := hx'.symm.trans HXY.out.1
                    have h2 := hy'.symm.trans HXY.out.2
                    injection h1 with h1
                    injection h2 with h2
                    rw [h1, h2]
                    exact hq
                clear hq he HXY
                go_wp2
                go_roundw
                all_goals first
                  | exact ⟨k + 1, by omega, by go_num, he2, t2, t3⟩
                  | ((repeat apply Exists.intro); exact ⟨⟨k + 1, by omega, by go_num, he2, t2, t3⟩, rfl⟩)
                  | (simp [intOf]; omega)
            · obtain rfl : k = cs.length := by omega
              have e1 : Hid (t = true) := by
                show _ = _
                rw [HT2.out, sameCs_iff]
                exact ⟨HM.out, fun i x y hx hy => he.out i (List.getElem?_eq_some_iff.1 hx).1 x y hx hy⟩
              clear he hlt hk
              go_wp2
              go_ret
              exact ⟨by rw [e1.out]; rfl, hbel⟩
    · have hm1 : ((cs.length : Int) != (cs'.length : Int)) = true := by rw [bne_iff_ne]; omega
      have e1 : Hid (t = false) := by
        show _ = _
        rw [HT.out]
        have : sameCs cs cs' = false := by rw [Bool.eq_false_iff]; exact fun e => hm (sameCs_len e)
        rw [this, Bool.and_false]
      have HN := Lib.hid hn
      clear hn hm
      go_enter Try.func22, Try.ntmps22
      go_wp2
      go_ret
      exact ⟨by rw [e1.out]; rfl, bAl (bAl (bRefl w) _) _⟩
  · have hn' : ((ls.length : Int) != (ls'.length : Int)) = true := by rw [bne_iff_ne]; omega
    have e1 : Hid (t = false) := by
      show _ = _
      rw [HT.out, decide_eq_false (fun e => hn (congrArg List.length e)), Bool.false_and]
    clear hn
    go_enter Try.func22, Try.ntmps22
    go_wp2
    go_ret
    exact ⟨by rw [e1.out]; rfl, bAl (bAl (bRefl w) _) _⟩
end Go.Proofs.Ytfdjdpbiccclfaa
namespace Go.Wr
open Go Go.RowKit
theorem wpl_one {P : Program} {ops : Array Oper} {rest : List Oper} {op : Oper} {a : Act} {w : World} {Q : Exit → Act → World → Prop} (hgd : op.guard = none) {t e : TypeId} {x : Operand} (ho : op.op = .buildSlice t 1 #[(0, x)]) {size : Nat} {z : Value} {D : Array Value} (hx : a.eval x = .agg D) (ht : P.underlying t = some (.slice e)) (hsz : ∀ w, (sizeOf e).run P w = .ok size w) (hz : ∀ w, (zeroValue e).run P w = .ok z w)
    (hD : D.size = size) (h0 : 0 < size) (hle : size ≤ 16777216)
    (h : wpList P ops Q rest (a.put op.dst (.slice (some ⟨w.heap.size, 0, none⟩) 1 1)) (w.alloc (.cells D e))) : wpList P ops Q (op :: rest) a w :=
  wpList_plain hgd fun _ hK => wpo_run _ (exec_one ho hx ht hsz hz hD h0 hle) (hK _ _ h)
end Go.Wr
namespace Go.Proofs.Ytfdjdpbiccclfaa
open Go Go.RowKit Go.Wr
set_option maxHeartbeats 4000000
set_option maxRecDepth 100000
def m7 : Lp := ⟨-7, 0, 0, 0, 0⟩
def m8 : Lp := ⟨-8, 0, 0, 0, 0⟩
def c7 : C3 := ⟨-7, 0, 0⟩
def c8 : C3 := ⟨-8, 0, 0⟩
def dm : Cl × Sn := (⟨true, f0, []⟩, ⟨none, 0, 0⟩)
def dz : Cl × Sn := (⟨false, f0, []⟩, ⟨none, 0, 0⟩)
structure LtC (B : Nat) (w : World) (cs : List (Cl × Sn)) : Prop where
  co : ∀ x ∈ cs, x.2.n = x.1.l.length ∧ OwR tC3 B w (.slice x.2.a (x.1.l.length + 2) x.2.c) (x.1.l ++ [c7, c8])
  dj : cs.Pairwise fun x y => x.2.a ≠ y.2.a
structure Lt (B : Nat) (w : World) (la : Option Addr) (lc : Nat) (ka : Option Addr) (kc : Nat) (ls : List Lp) (cs : List (Cl × Sn)) : Prop where
  lp : OwR tLp B w (.slice la (ls.length + 2) lc) (ls ++ [m7, m8])
  cl : OwR tCl B w (.slice ka (cs.length + 2) kc) (cs ++ [dm, dz])
  cc : LtC B w cs
theorem owr_of_block {α : Type} {R : RT Try.prog α} {B : Nat} {w w' : World} {v : Value} {l : List α} (h : OwR R B w v l) (hb : ∀ g C, Blk w g R.T C → w'.heap[g]? = w.heap[g]?) : OwR R B w' v l :=
  h.keep fun g hg => (h.blk hg).2.elim fun C hC => hb g C hC
theorem below_grown {V W w' : World} {o : Obj} {r : Option Nat} (hb : Below V.heap.size V W) (hg : (W.alloc o).grownBy w' r) (hr : ∀ g, r = some g → V.heap.size ≤ g) : Below V.heap.size V w' :=
  ⟨hg.os.trans hb.os, hg.tape.trans hb.tape, hg.output.trans hb.output, by have := hg.size; have := hb.size; simp at *; omega, fun b hlt => by
    have h1 : b < W.heap.size := Nat.lt_of_lt_of_le hlt hb.size
    exact ((hg.block b (by simp; omega) (fun e => by have := hr b e.symm; omega)).trans (Below.heap_alloc W o b h1)).trans (hb.block b hlt)⟩
theorem LtC.of_block {B : Nat} {w w' : World} {cs : List (Cl × Sn)} (h : LtC B w cs) (hb : ∀ g C, Blk w g 63 C → w'.heap[g]? = w.heap[g]?) : LtC B w' cs :=
  ⟨fun x hx => ⟨(h.co x hx).1, owr_of_block (h.co x hx).2 hb⟩, h.dj⟩
theorem LtC.below {B : Nat} {w w' : World} {cs : List (Cl × Sn)} (h : LtC B w cs) (b : Below w.heap.size w w') : LtC B w' cs := h.of_block fun g _ hg => b.block g hg.lt
theorem Lt.of_block {B : Nat} {w w' : World} {la ka : Option Addr} {lc kc : Nat} {ls : List Lp} {cs : List (Cl × Sn)} (h : Lt B w la lc ka kc ls cs) (hb : ∀ g T C, (T = 54 ∨ T = 61 ∨ T = 63) → Blk w g T C → w'.heap[g]? = w.heap[g]?) : Lt B w' la lc ka kc ls cs :=
  ⟨owr_of_block h.lp fun g C => hb g _ C (Or.inl rfl), owr_of_block h.cl fun g C => hb g _ C (Or.inr (Or.inl rfl)), h.cc.of_block fun g C => hb g _ C (Or.inr (Or.inr rfl))⟩
theorem Lt.below {B : Nat} {w w' : World} {la ka : Option Addr} {lc kc : Nat} {ls : List Lp} {cs : List (Cl × Sn)} (h : Lt B w la lc ka kc ls cs) (b : Below w.heap.size w w') : Lt B w' la lc ka kc ls cs := h.of_block fun g _ _ _ hg => b.block g hg.lt
structure Lq (w : World) (z q : Nat) (vl vc : Value) (ls : List Lp) (ds : List Cl) (la : Option Addr) (lc : Nat) (k : Nat) (ka : Option Addr) (kc : Nat) (cs : List (Cl × Sn)) (wr : World) : Prop where
  bel : Below w.heap.size w wr
  b1 : Blk wr w.heap.size 26 #[vl, vc]
  zb : Blk wr z 26 #[.slice none 0 0, .slice none 0 0]
  qb : Blk wr q 26 #[.slice la ls.length lc, .slice ka k kc]
  lp : OwR tLp w.heap.size wr (.slice la (ls.length + 2) lc) (ls ++ [m7, m8])
  cl : OwR tCl w.heap.size wr (.slice ka k kc) cs
  cm : cs.map (·.1) = ds.take k
  cc : LtC w.heap.size wr cs
theorem Lq.below {w : World} {z q : Nat} {vl vc : Value} {ls : List Lp} {ds : List Cl} {la : Option Addr} {lc k : Nat} {ka : Option Addr} {kc : Nat} {cs : List (Cl × Sn)} {wr w' : World} (h : Lq w z q vl vc ls ds la lc k ka kc cs wr) (b : Below wr.heap.size wr w') : Lq w z q vl vc ls ds la lc k ka kc cs w' :=
  ⟨bThen h.bel b, h.b1.below b h.b1.lt, h.zb.below b h.zb.lt, h.qb.below b h.qb.lt, h.lp.below b, h.cl.below b, h.cm, h.cc.below b⟩
theorem Lq.put {w : World} {z q : Nat} {vl vc : Value} {ls : List Lp} {ds : List Cl} {la : Option Addr} {lc k : Nat} {ka : Option Addr} {kc : Nat} {cs : List (Cl × Sn)} {wr w' : World} (h : Lq w z q vl vc ls ds la lc k ka kc cs wr) (hzq : w.heap.size < z ∧ z < q) {o : Obj} {g c : Nat} {x : Cl} {s : Sn} {n : Nat}
    (hx : ds[k]? = some x) (hown : OwR tCl w.heap.size w' (.slice (some ⟨g, 0, none⟩) (k + 1) c) (cs ++ [(x, s)])) (hg : (wr.alloc o).grownBy w' (Value.slice ka k kc).ownBlock)
    (hs : s.n = x.l.length) (ho : OwR tC3 n wr (.slice s.a (x.l.length + 2) s.c) (x.l ++ [c7, c8])) (hn : ∀ y ∈ cs, ∀ b, y.2.a = some ⟨b, 0, none⟩ → b < n) (hn0 : w.heap.size ≤ n) :
    Lq w z q vl vc ls ds la lc (k + 1) (some ⟨g, 0, none⟩) c (cs ++ [(x, s)]) (w'.setCell ⟨q, 1, none⟩ (.slice (some ⟨g, 0, none⟩) (k + 1) c)) := by
  have hA := h.below (bAl (bRefl wr) o)
  have hoA := ho.alloc o
  have hb : Below w.heap.size w w' := below_grown h.bel hg (fun b hb => (h.cl.blk hb).1)
  have hne : ∀ g T C, T ≠ 61 → Blk (wr.alloc o) g T C → w'.heap[g]? = (wr.alloc o).heap[g]? := fun g T C hT hbk => hg.block _ hbk.lt (fun e => hA.cl.ne hbk (Ne.symm hT) e.symm)
  have hq := hA.qb.of_block (hne _ _ _ (by decide) hA.qb)
  have hset : ∀ g T C, T ≠ 26 → Blk w' g T C → (w'.setCell ⟨q, 1, none⟩ (.slice (some ⟨g, 0, none⟩) (k + 1) c)).heap[g]? = w'.heap[g]? := fun g T C hT hbk => Below.heap_setCell w' ⟨q, 1, none⟩ _ g (blk_ne hbk hq hT)
  have hset2 : ∀ (v : Value) (g : Nat) (T : TypeId) (C : Array Value), T ≠ 26 → Blk w' g T C → (w'.setCell ⟨q, 1, none⟩ v).heap[g]? = w'.heap[g]? := fun v g T C hT hbk => Below.heap_setCell w' ⟨q, 1, none⟩ v g (blk_ne hbk hq hT)
  have hcc := hA.cc.of_block fun g C => hne g _ C (by decide)
  refine ⟨hb.setCell (p := ⟨q, 1, none⟩) (by show w.heap.size ≤ q; omega) _, (hA.b1.of_block (hne _ _ _ (by decide) hA.b1)).set_other q 1 _ (by omega), (hA.zb.of_block (hne _ _ _ (by decide) hA.zb)).set_other q 1 _ (by omega), (hq.set 1 _).eq rfl,
    owr_of_block (owr_of_block hA.lp fun g C => hne g _ C (by decide)) fun g C => hset2 _ g _ C (by decide), owr_of_block hown fun g C => hset2 _ g _ C (by decide), ?_, ?_⟩
  · rw [List.map_append, h.cm, List.take_add_one, hx]
    rfl
  · refine LtC.of_block ?_ fun g C => hset2 _ g _ C (by decide)
    refine ⟨fun y hy => ?_, ?_⟩
    · rcases List.mem_append.1 hy with hy | hy
      · exact hcc.co y hy
      · rw [List.mem_singleton.1 hy]
        exact ⟨hs, (owr_of_block hoA fun g C => hne g _ C (by decide)).mono hn0⟩
    · refine List.pairwise_append.2 ⟨hcc.dj, List.pairwise_singleton _ _, fun y hy t ht e => ?_⟩
      rw [List.mem_singleton.1 ht] at e
      rcases ho.form with ⟨_, e2⟩ | ⟨b, cap, e2, _, _, hb2⟩
      · simp at e2
      · injection e2 with e2
        have := hn y hy b (e.trans e2)
        omega
structure Sml (d : Dd) : Prop where
  n1 : d.ls.length ≤ 1048576
  n2 : d.cs.length ≤ 1048576
  n3 : ∀ c ∈ d.cs, c.l.length ≤ 1048576
end Go.Proofs.Ytfdjdpbiccclfaa
namespace Go.Proofs.Ytfdjdpbiccclfaa
open Go Go.RowKit Go.Wr
set_option maxHeartbeats 4000000
set_option maxRecDepth 100000
theorem SlC.slice {B : Nat} {w : World} {v : Value} {l : List C3} (h : SlC B w v l) : ∃ a c, v = .slice a l.length c := by
  obtain ⟨a, c, e, _⟩ := h
  exact ⟨a, c, e⟩
def LkC (B : Nat) (w : World) (cs : List (Cl × Sn)) : Prop := ∀ x ∈ cs, x.2.n = x.1.l.length ∧ OwR tC3 B w (.slice x.2.a x.1.l.length x.2.c) x.1.l
theorem LkC.of_block {B : Nat} {w w' : World} {cs : List (Cl × Sn)} (h : LkC B w cs) (hb : ∀ g C, Blk w g 63 C → w'.heap[g]? = w.heap[g]?) : LkC B w' cs := fun x hx => ⟨(h x hx).1, owr_of_block (h x hx).2 hb⟩
theorem LkC.below {B : Nat} {w w' : World} {cs : List (Cl × Sn)} (h : LkC B w cs) (b : Below w.heap.size w w') : LkC B w' cs := h.of_block fun g _ hg => b.block g hg.lt
structure Lk (w : World) (z q : Nat) (vl vc : Value) (ls : List Lp) (ds : List Cl) (la : Option Addr) (lc : Nat) (k : Nat) (ka : Option Addr) (kc : Nat) (cs : List (Cl × Sn)) (wr : World) : Prop where
  bel : Below w.heap.size w wr
  b1 : Blk wr w.heap.size 26 #[vl, vc]
  zb : Blk wr z 26 #[.slice none 0 0, .slice none 0 0]
  qb : Blk wr q 26 #[.slice la ls.length lc, .slice ka k kc]
  lp : OwR tLp w.heap.size wr (.slice la ls.length lc) ls
  cl : OwR tCl w.heap.size wr (.slice ka k kc) cs
  cm : cs.map (·.1) = ds.take k
  cc : LkC w.heap.size wr cs
theorem Lk.below {w : World} {z q : Nat} {vl vc : Value} {ls : List Lp} {ds : List Cl} {la : Option Addr} {lc k : Nat} {ka : Option Addr} {kc : Nat} {cs : List (Cl × Sn)} {wr w' : World} (h : Lk w z q vl vc ls ds la lc k ka kc cs wr) (b : Below wr.heap.size wr w') : Lk w z q vl vc ls ds la lc k ka kc cs w' :=
  ⟨bThen h.bel b, h.b1.below b h.b1.lt, h.zb.below b h.zb.lt, h.qb.below b h.qb.lt, h.lp.below b, h.cl.below b, h.cm, h.cc.below b⟩
theorem Lk.put {w : World} {z q : Nat} {vl vc : Value} {ls : List Lp} {ds : List Cl} {la : Option Addr} {lc k : Nat} {ka : Option Addr} {kc : Nat} {cs : List (Cl × Sn)} {wr w' : World} (h : Lk w z q vl vc ls ds la lc k ka kc cs wr) (hzq : w.heap.size < z ∧ z < q) {o : Obj} {g c : Nat} {x : Cl} {s : Sn}
    (hx : ds[k]? = some x) (hown : OwR tCl w.heap.size w' (.slice (some ⟨g, 0, none⟩) (k + 1) c) (cs ++ [(x, s)])) (hg : (wr.alloc o).grownBy w' (Value.slice ka k kc).ownBlock)
    (hs : s.n = x.l.length) (ho : OwR tC3 w.heap.size wr (.slice s.a x.l.length s.c) x.l) :
    Lk w z q vl vc ls ds la lc (k + 1) (some ⟨g, 0, none⟩) c (cs ++ [(x, s)]) (w'.setCell ⟨q, 1, none⟩ (.slice (some ⟨g, 0, none⟩) (k + 1) c)) := by
  have hA := h.below (bAl (bRefl wr) o)
  have hoA := ho.alloc o
  have hb : Below w.heap.size w w' := below_grown h.bel hg (fun b hb => (h.cl.blk hb).1)
  have hne : ∀ g T C, T ≠ 61 → Blk (wr.alloc o) g T C → w'.heap[g]? = (wr.alloc o).heap[g]? := fun g T C hT hbk => hg.block _ hbk.lt (fun e => hA.cl.ne hbk (Ne.symm hT) e.symm)
  have hq := hA.qb.of_block (hne _ _ _ (by decide) hA.qb)
  have hset2 : ∀ (v : Value) (g : Nat) (T : TypeId) (C : Array Value), T ≠ 26 → Blk w' g T C → (w'.setCell ⟨q, 1, none⟩ v).heap[g]? = w'.heap[g]? := fun v g T C hT hbk => Below.heap_setCell w' ⟨q, 1, none⟩ v g (blk_ne hbk hq hT)
  have hcc := hA.cc.of_block fun g C => hne g _ C (by decide)
  refine ⟨hb.setCell (p := ⟨q, 1, none⟩) (by show w.heap.size ≤ q; omega) _, (hA.b1.of_block (hne _ _ _ (by decide) hA.b1)).set_other q 1 _ (by omega), (hA.zb.of_block (hne _ _ _ (by decide) hA.zb)).set_other q 1 _ (by omega), (hq.set 1 _).eq rfl,
    owr_of_block (owr_of_block hA.lp fun g C => hne g _ C (by decide)) fun g C => hset2 _ g _ C (by decide), owr_of_block hown fun g C => hset2 _ g _ C (by decide), ?_, ?_⟩
  · rw [List.map_append, h.cm, List.take_add_one, hx]
    rfl
  · refine LkC.of_block (fun y hy => ?_) fun g C => hset2 _ g _ C (by decide)
    rcases List.mem_append.1 hy with hy | hy
    · exact hcc y hy
    · rw [List.mem_singleton.1 hy]
      exact ⟨hs, owr_of_block hoA fun g C => hne g _ C (by decide)⟩
theorem sld_of {B : Nat} {w : World} {la ka : Option Addr} {lc kc : Nat} {ls : List Lp} {cs : List (Cl × Sn)} (hl : OwR tLp B w (.slice la ls.length lc) ls) (hc : OwR tCl B w (.slice ka cs.length kc) cs) (hk : ∀ x ∈ cs, x.2.n = x.1.l.length ∧ ∃ B', OwR tC3 B' w (.slice x.2.a x.1.l.length x.2.c) x.1.l)
    (hn : Sml ⟨ls, cs.map (·.1)⟩) : SlD w.heap.size w (.slice la ls.length lc) (.slice ka cs.length kc) ⟨ls, cs.map (·.1)⟩ := by
  refine ⟨SlL.of_rds (OwR.rds hl (Nat.le_refl _)), ⟨ka, kc, by rw [List.length_map], fun k x hx => ?_⟩, by have := hn.n1; simp only at this ⊢; omega, by have := hn.n2; simp only at this ⊢; omega, fun c hc => by have := hn.n3 c hc; omega⟩
  simp only [List.getElem?_map, Option.map_eq_some_iff] at hx
  obtain ⟨⟨y, s⟩, hy, rfl⟩ := hx
  obtain ⟨b, o, e, hlt, hr⟩ := OwR.rds hc (Nat.le_refl _) k _ hy
  obtain ⟨e2, B', ho⟩ := hk _ (List.mem_of_getElem? hy)
  refine ⟨b, o, s.v, e, hlt, hr, ?_⟩
  simp only at e2 ho
  have hv : s.v = .slice s.a y.l.length s.c := by unfold Sn.v; rw [e2]
  rw [hv]
  exact SlC.of_rds (OwR.rds ho (Nat.le_refl _))
end Go.Proofs.Ytfdjdpbiccclfaa
namespace Go.Proofs.Ytfdjdpbiccclfaa
open Go Go.RowKit Go.Wr
set_option maxHeartbeats 4000000
set_option maxRecDepth 100000
theorem sameD_rfl (d : Dd) : sameD d d = true := by
  unfold sameD
  simp only [decide_true, Bool.true_and]
  rw [sameCs_iff]
  refine ⟨rfl, fun i x y hx hy => ?_⟩
  rw [hx] at hy
  injection hy with hy
  subst hy
  simp only [sameC, Bool.and_eq_true, beq_self_eq_true, decide_true, and_true, true_and]
  exact ⟨eqTags_iff.2 fun _ _ => rfl, eqTags_iff.2 fun _ _ => rfl⟩
theorem Lt.forms {B : Nat} {w : World} {la ka : Option Addr} {lc kc : Nat} {ls : List Lp} {cs : List (Cl × Sn)} (h : Lt B w la lc ka kc ls cs) :
    (∃ g, la = some ⟨g, 0, none⟩ ∧ B ≤ g ∧ g < w.heap.size) ∧ (∃ g, ka = some ⟨g, 0, none⟩ ∧ B ≤ g ∧ g < w.heap.size) ∧ ls.length + 2 ≤ lc ∧ lc ≤ maxLen ∧ cs.length + 2 ≤ kc ∧ kc ≤ maxLen := by
  rcases h.lp.form with ⟨_, e⟩ | ⟨g, c, e, h1, h2, h3⟩
  · simp at e
  rcases h.cl.form with ⟨_, e'⟩ | ⟨g', c', e', h1', h2', h3'⟩
  · simp at e'
  injection e with e1 _ e3
  injection e' with e1' _ e3'
  subst e1; subst e3; subst e1'; subst e3'
  rw [List.length_append] at h1 h1'
  exact ⟨⟨g, rfl, h3, h.lp.lt rfl⟩, ⟨g', rfl, h3', h.cl.lt rfl⟩, h1, h2, h1', h2'⟩
theorem LtC.form {B : Nat} {w : World} {cs : List (Cl × Sn)} (h : LtC B w cs) {x : Cl × Sn} (hx : x ∈ cs) : ∃ g, x.2.a = some ⟨g, 0, none⟩ ∧ B ≤ g ∧ g < w.heap.size ∧ x.1.l.length + 2 ≤ x.2.c ∧ x.2.c ≤ maxLen := by
  have ho := (h.co x hx).2
  rcases ho.form with ⟨_, e⟩ | ⟨g, c, e, h1, h2, h3⟩
  · simp at e
  injection e with e1 _ e3
  rw [List.length_append] at h1
  refine ⟨g, e1, h3, ho.lt (by rw [e1]; rfl), ?_, ?_⟩
  · rw [e3]; exact h1
  · rw [e3]; exact h2
theorem Lt.sl {B : Nat} {w : World} {la ka : Option Addr} {lc kc : Nat} {ls : List Lp} {cs : List (Cl × Sn)} (h : Lt B w la lc ka kc ls cs) (hn : Sml ⟨ls, cs.map (·.1)⟩) : SlD w.heap.size w (.slice la ls.length lc) (.slice ka cs.length kc) ⟨ls, cs.map (·.1)⟩ := by
  obtain ⟨⟨g, rfl, -, -⟩, ⟨g', rfl, -, -⟩, -⟩ := h.forms
  have hl := OwR.take h.lp (k := ls.length) (by simp)
  have hc := OwR.take h.cl (k := cs.length) (by simp)
  rw [List.take_left] at hl hc
  refine sld_of hl hc (fun x hx => ⟨(h.cc.co x hx).1, B, ?_⟩) hn
  obtain ⟨g, e, -⟩ := h.cc.form hx
  have := (h.cc.co x hx).2
  rw [e] at this ⊢
  have := OwR.take this (k := x.1.l.length) (by simp)
  rwa [List.take_left] at this
theorem at_cell {w : World} {g k n j : Nat} {cs : List Value} {v : Value} (h : At w g (0 + k * n) cs) (hj : cs[j]? = some v) : w.cell? ⟨g, k * n + j, none⟩ = some v := by
  have := h.cell j v hj
  rwa [Nat.zero_add] at this
end Go.Proofs.Ytfdjdpbiccclfaa
namespace Go.Proofs.Ytfdjdpbiccclfaa
open Go Go.RowKit Go.Wr
set_option maxHeartbeats 4000000
set_option maxRecDepth 100000
theorem LtC.set {B i : Nat} {w w' : World} {cs : List (Cl × Sn)} {x x' : Cl} {s : Sn} (h : LtC B w cs) (hx : cs[i]? = some (x, s)) (hn : x'.l.length = x.l.length) (ho : OwR tC3 B w' (.slice s.a (x'.l.length + 2) s.c) (x'.l ++ [c7, c8]))
    (hk : ∀ j y, j ≠ i → cs[j]? = some y → OwR tC3 B w' (.slice y.2.a (y.1.l.length + 2) y.2.c) (y.1.l ++ [c7, c8])) : LtC B w' (cs.set i (x', s)) := by
  have hi := (List.getElem?_eq_some_iff.1 hx).1
  have hg : ∀ (j : Nat) (y : Cl × Sn), (cs.set i (x', s))[j]? = some y → ∃ z, cs[j]? = some z ∧ z.2 = y.2 ∧ (j = i ∧ y = (x', s) ∨ j ≠ i ∧ y = z) := fun j y hy => by
    rw [List.getElem?_set] at hy
    by_cases hj : i = j
    · subst hj
      rw [if_pos rfl, if_pos hi] at hy
      injection hy with hy
      exact ⟨_, hx, by rw [← hy], Or.inl ⟨rfl, hy.symm⟩⟩
    · rw [if_neg hj] at hy
      exact ⟨y, hy, rfl, Or.inr ⟨Ne.symm hj, rfl⟩⟩
  refine ⟨fun y hy => ?_, ?_⟩
  · obtain ⟨j, hj⟩ := List.mem_iff_getElem?.1 hy
    obtain ⟨z, hz, _, ⟨rfl, rfl⟩ | ⟨hji, rfl⟩⟩ := hg j y hj
    · exact ⟨by rw [hn]; exact (h.co _ (List.mem_of_getElem? hx)).1, ho⟩
    · exact ⟨(h.co _ (List.mem_of_getElem? hz)).1, hk j _ hji hz⟩
  · have hd := h.dj
    rw [List.pairwise_iff_getElem] at hd ⊢
    intro a b ha hb hab
    rw [List.length_set] at ha hb
    have e1 : (cs.set i (x', s))[a]? = some (cs.set i (x', s))[a] := List.getElem?_eq_getElem _
    have e2 : (cs.set i (x', s))[b]? = some (cs.set i (x', s))[b] := List.getElem?_eq_getElem _
    obtain ⟨z1, hz1, q1, _⟩ := hg a _ e1
    obtain ⟨z2, hz2, q2, _⟩ := hg b _ e2
    rw [List.getElem?_eq_getElem ha] at hz1
    rw [List.getElem?_eq_getElem hb] at hz2
    injection hz1 with hz1
    injection hz2 with hz2
    rw [← q1, ← q2, ← hz1, ← hz2]
    exact hd a b ha hb hab
end Go.Proofs.Ytfdjdpbiccclfaa
