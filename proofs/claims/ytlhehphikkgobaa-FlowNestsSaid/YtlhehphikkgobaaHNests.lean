/- FlowNests: true of every list of instructions. -/
import Derived.Test.YtlhehphikkgobaaHNesB
import Derived.Deep.RegionHeld
namespace Go.Proofs.Ytlhehphikkgobaa
open Go Go.RowKit Go.Wr Go.Fl
set_option maxHeartbeats 4000000
set_option maxRecDepth 100000

/-- A loop's head, and how many blocks it has. -/
noncomputable def hdI (l : List In) (i : Nat) : Nat := (heads l).getD i 0
noncomputable def szI (l : List In) (i : Nat) : Nat := (ins (lpB l (hdI l i)) (nB l)).length
theorem loL_len (l : List In) (i : Nat) : (loL l (hdI l i)).length = szI l i := by unfold loL szI; rw [nI_len]
theorem hd_self (l : List In) (i : Nat) : lpB l (hdI l i) (hdI l i) = true := lpB_iff.2 Lp.head
theorem hd_ne (l : List In) {i k : Nat} (hi : i < (heads l).length) (hk : k < (heads l).length) (h : k ≠ i) : hdI l k ≠ hdI l i := by
  unfold hdI
  rcases Nat.lt_or_gt_of_ne h with h | h
  · have := heads_sorted l h hi; omega
  · have := heads_sorted l h hk; omega
theorem mem_loL {l : List In} {h : Nat} {z : Int} : z ∈ loL l h ↔ ∃ x : Nat, x < nB l ∧ lpB l h x = true ∧ z = (x : Int) := by
  unfold loL nI ins
  rw [List.mem_map]
  constructor
  · rintro ⟨x, hx, rfl⟩
    obtain ⟨h1, h2⟩ := List.mem_filter.1 hx
    exact ⟨x, List.mem_range.1 h1, h2, rfl⟩
  · rintro ⟨x, h1, h2, rfl⟩
    exact ⟨x, List.mem_filter.2 ⟨List.mem_range.2 h1, h2⟩, rfl⟩
theorem lo_sub {l : List In} {h h' : Nat} (k : ∀ x, Lp (nxt l) (nB l) h x → Lp (nxt l) (nB l) h' x) : ((loL l h).all fun x => (loL l h').contains x) = true := by
  rw [List.all_eq_true]
  intro z hz
  obtain ⟨x, hx, hl, rfl⟩ := mem_loL.1 hz
  rw [loL_has hx, lpB_iff]
  exact k x (lpB_iff.1 hl)
/-- A loop in which another one's head lies: it holds it, and is greater. -/
theorem lo_in {l : List In} (g : G7 l) {i k : Nat} (hi : i < (heads l).length) (hk : k < (heads l).length) (hne : k ≠ i) (h : lpB l (hdI l k) (hdI l i) = true) : ((loL l (hdI l i)).all fun x => (loL l (hdI l k)).contains x) = true ∧ szI l i < szI l k := by
  have n1 := (heads_of l hi).1
  have n2 := (heads_of l hk).1
  have hd := hd_ne l hi hk hne
  have hinc := Lp.inc g.gr n1 n2 (lpB_iff.1 h) (Ne.symm hd)
  refine ⟨lo_sub hinc, ?_⟩
  unfold szI ins
  refine Go.Fl.filter_lt _ (fun x _ hx => lpB_iff.2 (hinc x (lpB_iff.1 hx))) ⟨hdI l k, List.mem_range.2 n2, ?_, hd_self l k⟩
  have := Lp.out g.gr n1 n2 (lpB_iff.1 h) (Ne.symm hd)
  cases e : lpB l (hdI l i) (hdI l k) with
  | false => rfl
  | true => exact absurd (lpB_iff.1 e) this
/-- One that shares a block, and holds not the head, lies within. -/
theorem lo_out {l : List In} (g : G7 l) {i k : Nat} (hi : i < (heads l).length) (hk : k < (heads l).length) (hne : k ≠ i) (h : lpB l (hdI l k) (hdI l i) = false) (hs : ((loL l (hdI l i)).any fun x => (loL l (hdI l k)).contains x) = true) : ((loL l (hdI l k)).all fun x => (loL l (hdI l i)).contains x) = true := by
  have n1 := (heads_of l hi).1
  have n2 := (heads_of l hk).1
  have hd := hd_ne l hi hk hne
  obtain ⟨z, hz, hz2⟩ := List.any_eq_true.1 hs
  obtain ⟨x, hx, hl, rfl⟩ := mem_loL.1 hz
  rw [loL_has hx] at hz2
  rcases Lp.meet g.gr g.rch hx (lpB_iff.1 hl) (lpB_iff.1 hz2) with e | e | e
  · exact absurd e.symm hd
  · exact lo_sub (Lp.inc g.gr n2 n1 e hd)
  · rw [lpB_iff.2 e] at h; cases h
theorem lo_at {l : List In} {i k : Nat} (hi : i < (heads l).length) (hk : k < szI l i) : ∃ x, x < nB l ∧ (loL l (hdI l i))[k]? = some (x : Int) ∧ domB (nxt l) (nB l) (hdI l i : Int) (x : Int) = true := by
  have hlt : k < (ins (lpB l (hdI l i)) (nB l)).length := hk
  obtain ⟨x, hx⟩ : ∃ x, (ins (lpB l (hdI l i)) (nB l))[k]? = some x := ⟨_, List.getElem?_eq_getElem hlt⟩
  have hm := List.mem_of_getElem? hx
  unfold ins at hm
  obtain ⟨h1, h2⟩ := List.mem_filter.1 hm
  have hxn := List.mem_range.1 h1
  exact ⟨x, hxn, by unfold loL nI; rw [List.getElem?_map, hx]; rfl, (dom_iff (heads_of l hi).1 hxn).2 (lpB_iff.1 h2).dom⟩
theorem lo_up {l : List In} {i k x y : Nat} (h1 : (loL l (hdI l i))[k]? = some (x : Int)) (h2 : (loL l (hdI l i))[k + 1]? = some (y : Int)) : x < y := by
  unfold loL nI at h1 h2
  rw [List.getElem?_map] at h1 h2
  obtain ⟨a, ha, ea⟩ := Option.map_eq_some_iff.1 h1
  obtain ⟨b, hb, eb⟩ := Option.map_eq_some_iff.1 h2
  have hp : (ins (lpB l (hdI l i)) (nB l)).Pairwise (· < ·) := List.Pairwise.filter _ List.pairwise_lt_range
  obtain ⟨hk1, e1⟩ := List.getElem?_eq_some_iff.1 ha
  obtain ⟨hk2, e2⟩ := List.getElem?_eq_some_iff.1 hb
  have := List.pairwise_iff_getElem.1 hp k (k + 1) hk1 hk2 (by omega)
  omega
/-- The cells of a loop. -/
theorem ld_at {p : Nat} {w : World} {a0 : Option Addr} {n cap : Nat} {l : List In} (h : Ld p w (.slice a0 n cap) (dL l)) {i : Nat} (hi : i < (heads l).length) :
    ∃ bl ol a c, a0 = some ⟨bl, ol, none⟩ ∧ w.cell? ⟨bl, ol + i * 3, none⟩ = some (.int .i64 (hdI l i : Int)) ∧ w.cell? ⟨bl, ol + i * 3 + 1, none⟩ = some (.slice a (szI l i) c) ∧ w.cell? ⟨bl, ol + i * 3 + 2, none⟩ = some (.int .i64 (parK l i (heads l).length)) ∧ SlX tI p w (.slice a (szI l i) c) (loL l (hdI l i)) := by
  obtain ⟨bl, ol, a, c, e, c0, c1, c2, hs, _⟩ := h.get (dL_get hi)
  have e2 : (nI (ins (lpB l ((heads l).getD i 0)) (nB l))).length = szI l i := by rw [nI_len]; rfl
  simp only at c0 c1 c2 hs
  rw [e2] at c2 hs
  exact ⟨bl, ol, a, c, e, c0, c2, c1, hs⟩
theorem held_drew {w w' : World} {k : Nat} (h : w' = w.drewN k) {a : Addr} {v : Value} (c : w.cell? a = some v) : w'.cell? a = some v := by subst h; exact c
theorem flownests_ok (w : World) (q : Nat) (v : Value) (l : List In) (h : SlX tN q w v l) : Calls Try.prog 14 #[v] w fun e w' => e = .returned (.bool true) ∧ Below w.heap.size w w' := by
  obtain ⟨a0, cap, rfl, h1, h2⟩ := h.form
  have H := Lib.hid h
  unfold maxLen at h2
  clear h
  go_enter Try.func14, Try.ntmps14
  go_wp2_with fail
  refine (taken_ok w q _ l H.out).mono ?_
  rintro e w1 hT
  obtain ⟨b1, rfl | ⟨p, rfl, hpw, hF⟩⟩ := hT.two
  · have HB1 := Lib.hid b1
    clear b1 hT
    go_wp2
    go_ret
    exact ⟨rfl, HB1.out⟩
  · have HB1 := Lib.hid b1
    have HF1 := Lib.hid hF
    clear b1 hF hT
    go_wp2_with fail
    refine HF1.out.blocks.mono ?_
    rintro e w2 ⟨b2, v2, rfl, hd2⟩
    have HB2 := Lib.hid (bThen HB1.out b2)
    have HF2 := Lib.hid (HF1.out.below b2)
    have HG := Lib.hid HF2.out.1
    obtain ⟨ab, cb, rfl, h5, h6⟩ := hd2.form
    have HD2 := Lib.hid hd2
    rw [dB_len] at h5 HD2
    rw [dB_len]
    clear b2 hd2 HF1 HB1
    go_wp2_with fail
    refine HF2.out.loops.mono ?_
    rintro e w3 ⟨b3, v3, rfl, hd3⟩
    have HB3 := Lib.hid (bThen HB2.out b3)
    have HF3 := Lib.hid (HF2.out.below b3)
    have HD3 := Lib.hid (HD2.out.below b3)
    have HL3 := Lib.hid hd3
    obtain ⟨al, cl, rfl, h7, h8⟩ := hd3.form
    rw [dL_len] at h7 HL3
    rw [dL_len]
    obtain ⟨N, hN⟩ : ∃ N, N = (heads l).length := ⟨_, rfl⟩
    have HN := Lib.hid hN
    have hN8 : N ≤ 8 := by rw [hN]; exact HG.out.hd8
    rw [← hN] at h7 HL3 ⊢
    clear b3 hd3 HF2 HB2 HD2 hN
    have hpN : 0 < nB l := HG.out.pos
    have hn5 : nB l ≤ 512 := HG.out.n512
    have hgt : ¬ (8 : Int) < (N : Int) := by omega
    unfold maxLen at h6 h8
    go_wp2
    go_loopw [7] (fun t wr => ∃ i : Nat, i ≤ N ∧ t = .int .i64 (i : Int) ∧ Hid (Below w3.heap.size w3 wr)) (fun t _ => N - (intOf t).toNat)
    case atStart => exact ⟨0, by omega, rfl, bRefl w3⟩
    case round =>
      obtain ⟨i, hi, rfl, hb⟩ := hrel
      by_cases hit : i < N
      · have hit' : (i : Int) < (N : Int) := by omega
        have hi0 : (0 : Int) ≤ (i : Int) := by omega
        have HIN := Lib.hid (show i < (heads l).length by rw [← HN.out]; exact hit)
        obtain ⟨bl, ol, sa, cs, rfl, c0, c1, c2, hs⟩ := ld_at (HL3.out.below hb.out) HIN.out
        obtain ⟨hs1, hs2⟩ := slx_le' hs
        unfold maxLen at hs2
        obtain ⟨hh, hhd⟩ := heads_of l HIN.out
        obtain ⟨pa, hpa⟩ : ∃ x, x = parK l i (heads l).length := ⟨_, rfl⟩
        rw [← hpa] at c2
        have HPA := Lib.hid hpa
        obtain ⟨hx, ehx⟩ : ∃ x, x = hdI l i := ⟨_, rfl⟩
        obtain ⟨sz, esz⟩ : ∃ x, x = szI l i := ⟨_, rfl⟩
        have hhd : Hd (nxt l) (nB l) (hdI l i) := hhd
        have hh : hdI l i < nB l := hh
        rw [← ehx] at c0 hs hhd hh
        rw [← esz] at c1 hs hs1
        have HSX := Lib.hid hs
        have HHD := Lib.hid hhd
        have HHN := Lib.hid hh
        have EHX := Lib.hid ehx
        have ESZ := Lib.hid esz
        clear hs hpa hhd hh ehx esz
        go_upto_region 12 with (fail)
        generalize hW : wr.alloc (.cells #[.int .i64 (hx : Int), .slice sa (sz) cs, .int .i64 pa] 60) = W
        obtain ⟨z, hz⟩ : ∃ z, z = wr.heap.size := ⟨_, rfl⟩
        rw [← hz]
        have bW : Below wr.heap.size wr W := by rw [← hW]; exact bAl (bRefl wr) _
        have pW : Blk W z 60 #[.int .i64 (hx : Int), .slice sa (sz) cs, .int .i64 pa] := by rw [← hW, hz]; exact Blk.new _ _ _
        have HBW := Lib.hid (bThen hb.out bW)
        have HPW := Lib.hid pW
        have HSW := Lib.hid (HSX.out.below bW)
        have HDW := Lib.hid (HD3.out.below HBW.out)
        have HLW := Lib.hid (HL3.out.below HBW.out)
        have d0 : W.cell? ⟨z, 0, none⟩ = some (.int .i64 (hx : Int)) := pW.cell 0
        have d1 : W.cell? ⟨z, 1, none⟩ = some (.slice sa (sz) cs) := pW.cell 1
        have d2 : W.cell? ⟨z, 2, none⟩ = some (.int .i64 pa) := pW.cell 2
        have HH0 := Lib.hid (show (loL l hx).contains (hx : Int) = true by rw [loL_has HHN.out, EHX.out]; exact hd_self l i)
        clear hW hz bW pW c0 c1 c2 HSX hb
        have HPV := Lib.hid (show ∀ j, i = j + 1 → W.cell? ⟨bl, ol + j * 3, none⟩ = some (.int .i64 (hdI l j : Int)) ∧ hdI l j < hx from fun j e => by
          obtain ⟨bl2, ol2, _, _, e2, k0, _⟩ := ld_at HLW.out (i := j) (by have := HIN.out; omega)
          injection e2 with e2
          injection e2 with e21 e22
          subst e21 e22
          exact ⟨k0, by rw [EHX.out]; subst e; exact heads_sorted l (Nat.lt_succ_self j) HIN.out⟩)
        go_cut [74] (fun t wc => t = .bool false ∧ Hid (Below W.heap.size W wc))
        case first =>
          as_aux_lemma =>
          rcases Nat.eq_zero_or_pos i with hi9 | hi9
          · have hng : ¬ (0 : Int) < (i : Int) := by omega
            clear hi9
            refine wp_region_held_drew (S := fun w' => w'.cell? ⟨z, 0, none⟩ = some (.int .i64 (hx : Int)) ∧ w'.cell? ⟨z, 1, none⟩ = some (.slice sa (sz) cs) ∧ w'.cell? ⟨z, 2, none⟩ = some (.int .i64 pa) ∧ Hid (Below W.heap.size W w')) mix ⟨d0, d1, d2, (bRefl W).drew⟩ (fun hS => ?_)
            clear d0 d1 d2
            refine wpAnyH_take (i := 0) (v := .int .i64 (i : Int)) rfl (by kernel_rfl) (by kernel_rfl) (by kernel_rfl) (fun _ _ _ h => h) (Or.inl ⟨by rfl, fun w' hw' => by (try go_split_ands); go_simp <;> omega⟩) hS ?_
            simp only [Act.put, List.getElem_toArray, List.getElem_cons_zero, List.setIfInBounds_toArray, List.set_cons_zero, List.set_cons_succ]
            refine wpAnyH_take (i := 1) (v := .bool false) rfl (by kernel_rfl) (by kernel_rfl) (by kernel_rfl) (fun _ _ _ h => h) (Or.inl ⟨by rfl, fun w' hw' => by (try go_split_ands); go_simp <;> omega⟩) hS ?_
            simp only [Act.put, List.getElem_toArray, List.getElem_cons_zero, List.getElem_cons_succ, List.setIfInBounds_toArray, List.set_cons_zero, List.set_cons_succ]
            refine wpAnyH_take (i := 2) (v := .bool false) rfl (by kernel_rfl) (by kernel_rfl) (by kernel_rfl) (fun _ _ _ h => h) (Or.inl ⟨by rfl, fun w' hw' => by (try go_split_ands); go_simp <;> omega⟩) hS ?_
            simp only [Act.put, List.getElem_toArray, List.getElem_cons_zero, List.getElem_cons_succ, List.setIfInBounds_toArray, List.set_cons_zero, List.set_cons_succ]
            refine wpAnyH_take (i := 3) (v := undef) rfl (by kernel_rfl) (by kernel_rfl) (by kernel_rfl) (fun _ _ _ h => h) (Or.inr ⟨by rfl, rfl⟩) hS ?_
            simp only [Act.put, List.getElem_toArray, List.getElem_cons_zero, List.getElem_cons_succ, List.setIfInBounds_toArray, List.set_cons_zero, List.set_cons_succ]
            refine wpAnyH_take (i := 4) (v := undef) rfl (by kernel_rfl) (by kernel_rfl) (by kernel_rfl) (fun _ _ _ h => h) (Or.inr ⟨by rfl, rfl⟩) hS ?_
            simp only [Act.put, List.getElem_toArray, List.getElem_cons_zero, List.getElem_cons_succ, List.setIfInBounds_toArray, List.set_cons_zero, List.set_cons_succ]
            refine wpAnyH_take (i := 5) (v := undef) rfl (by kernel_rfl) (by kernel_rfl) (by kernel_rfl) (fun _ _ _ h => h) (Or.inr ⟨by rfl, rfl⟩) hS ?_
            simp only [Act.put, List.getElem_toArray, List.getElem_cons_zero, List.getElem_cons_succ, List.setIfInBounds_toArray, List.set_cons_zero, List.set_cons_succ]
            refine wpAnyH_take (i := 6) (v := undef) rfl (by kernel_rfl) (by kernel_rfl) (by kernel_rfl) (fun _ _ _ h => h) (Or.inr ⟨by rfl, rfl⟩) hS ?_
            simp only [Act.put, List.getElem_toArray, List.getElem_cons_zero, List.getElem_cons_succ, List.setIfInBounds_toArray, List.set_cons_zero, List.set_cons_succ]
            refine wpAnyH_take (i := 7) (v := undef) rfl (by kernel_rfl) (by kernel_rfl) (by kernel_rfl) (fun _ _ _ h => h) (Or.inr ⟨by rfl, rfl⟩) hS ?_
            simp only [Act.put, List.getElem_toArray, List.getElem_cons_zero, List.getElem_cons_succ, List.setIfInBounds_toArray, List.set_cons_zero, List.set_cons_succ]
            refine wpAnyH_take (i := 8) (v := undef) rfl (by kernel_rfl) (by kernel_rfl) (by kernel_rfl) (fun _ _ _ h => h) (Or.inr ⟨by rfl, rfl⟩) hS ?_
            simp only [Act.put, List.getElem_toArray, List.getElem_cons_zero, List.getElem_cons_succ, List.setIfInBounds_toArray, List.set_cons_zero, List.set_cons_succ]
            refine wpAnyH_take (i := 9) (v := undef) rfl (by kernel_rfl) (by kernel_rfl) (by kernel_rfl) (fun _ _ _ h => h) (Or.inr ⟨by rfl, rfl⟩) hS ?_
            simp only [Act.put, List.getElem_toArray, List.getElem_cons_zero, List.getElem_cons_succ, List.setIfInBounds_toArray, List.set_cons_zero, List.set_cons_succ]
            refine wpAnyH_take (i := 10) (v := undef) rfl (by kernel_rfl) (by kernel_rfl) (by kernel_rfl) (fun _ _ _ h => h) (Or.inr ⟨by rfl, rfl⟩) hS ?_
            simp only [Act.put, List.getElem_toArray, List.getElem_cons_zero, List.getElem_cons_succ, List.setIfInBounds_toArray, List.set_cons_zero, List.set_cons_succ]
            refine wpAnyH_take (i := 11) (v := undef) rfl (by kernel_rfl) (by kernel_rfl) (by kernel_rfl) (fun _ _ _ h => h) (Or.inr ⟨by rfl, rfl⟩) hS ?_
            simp only [Act.put, List.getElem_toArray, List.getElem_cons_zero, List.getElem_cons_succ, List.setIfInBounds_toArray, List.set_cons_zero, List.set_cons_succ]
            refine wpAnyH_take (i := 12) (v := .bool false) rfl (by kernel_rfl) (by kernel_rfl) (by kernel_rfl) (fun _ _ _ h => h) (Or.inl ⟨by rfl, fun w' hw' => by (try go_split_ands); go_simp <;> omega⟩) hS ?_
            simp only [Act.put, List.getElem_toArray, List.getElem_cons_zero, List.getElem_cons_succ, List.setIfInBounds_toArray, List.set_cons_zero, List.set_cons_succ]
            refine wpAnyH_take (i := 13) (v := .bool false) rfl (by kernel_rfl) (by kernel_rfl) (by kernel_rfl) (fun _ _ _ h => h) (Or.inl ⟨by rfl, fun w' hw' => by (try go_split_ands); go_simp <;> omega⟩) hS ?_
            simp only [Act.put, List.getElem_toArray, List.getElem_cons_zero, List.getElem_cons_succ, List.setIfInBounds_toArray, List.set_cons_zero, List.set_cons_succ]
            refine wpAnyH_take (i := 14) (v := .pointer (some ⟨z, 1, none⟩)) rfl (by kernel_rfl) (by kernel_rfl) (by kernel_rfl) (fun _ _ _ h => h) (Or.inl ⟨by rfl, fun w' hw' => by (try go_split_ands); go_simp <;> omega⟩) hS ?_
            simp only [Act.put, List.getElem_toArray, List.getElem_cons_zero, List.getElem_cons_succ, List.setIfInBounds_toArray, List.set_cons_zero, List.set_cons_succ]
            refine wpAnyH_take (i := 15) (v := .slice sa sz cs) rfl (by kernel_rfl) (by kernel_rfl) (by kernel_rfl) (fun _ _ _ h => h) (Or.inl ⟨by rfl, fun w' hw' => by (try go_split_ands); go_simp <;> omega⟩) hS ?_
            simp only [Act.put, List.getElem_toArray, List.getElem_cons_zero, List.getElem_cons_succ, List.setIfInBounds_toArray, List.set_cons_zero, List.set_cons_succ]
            refine wpAnyH_take (i := 16) (v := .pointer (some ⟨z, 0, none⟩)) rfl (by kernel_rfl) (by kernel_rfl) (by kernel_rfl) (fun _ _ _ h => h) (Or.inl ⟨by rfl, fun w' hw' => by (try go_split_ands); go_simp <;> omega⟩) hS ?_
            simp only [Act.put, List.getElem_toArray, List.getElem_cons_zero, List.getElem_cons_succ, List.setIfInBounds_toArray, List.set_cons_zero, List.set_cons_succ]
            refine wpAnyH_take (i := 17) (v := .int .i64 (hx : Int)) rfl (by kernel_rfl) (by kernel_rfl) (by kernel_rfl) (fun _ _ _ h => h) (Or.inl ⟨by rfl, fun w' hw' => by (try go_split_ands); go_simp <;> omega⟩) hS ?_
            simp only [Act.put, List.getElem_toArray, List.getElem_cons_zero, List.getElem_cons_succ, List.setIfInBounds_toArray, List.set_cons_zero, List.set_cons_succ]
            refine wpAnyH_ready (rs := [18]) (by kernel_rfl) (by simp) ?_
            refine AllReadyH.cons rfl (fun K hK => ?_) AllReadyH.nil
            go_simp
            go_wp2_with fail
            refine (hasL_ok _ p _ _ _ (HSW.out.below hS.2.2.2.out)).mono ?_
            rintro e w4 ⟨rfl, rfl⟩
            rw [HH0.out]
            go_wp2_with fail
            refine hK.out _ _ hS (fun hS => ?_)
            clear hK K
            refine wpAnyH_ready (rs := [19]) (by kernel_rfl) (by simp) ?_
            refine AllReadyH.cons rfl (fun K hK => ?_) AllReadyH.nil
            go_simp
            refine hK.out _ _ hS (fun _ => ?_)
            clear hK K
            refine wpAnyH_take (i := 20) (v := .bool false) rfl (by kernel_rfl) (by kernel_rfl) (by kernel_rfl) (fun _ _ _ h => h) (Or.inl ⟨by rfl, fun w' hw' => by (try go_split_ands); go_simp <;> omega⟩) hS ?_
            simp only [Act.put, List.getElem_toArray, List.getElem_cons_zero, List.getElem_cons_succ, List.setIfInBounds_toArray, List.set_cons_zero, List.set_cons_succ]
            refine wpAnyH_take (i := 21) (v := .bool false) rfl (by kernel_rfl) (by kernel_rfl) (by kernel_rfl) (fun _ _ _ h => h) (Or.inl ⟨by rfl, fun w' hw' => by (try go_split_ands); go_simp <;> omega⟩) hS ?_
            simp only [Act.put, List.getElem_toArray, List.getElem_cons_zero, List.getElem_cons_succ, List.setIfInBounds_toArray, List.set_cons_zero, List.set_cons_succ]
            refine wpAnyH_take (i := 22) (v := .slice ab (nB l) cb) rfl (by kernel_rfl) (by kernel_rfl) (by kernel_rfl) (fun _ _ _ h => h) (Or.inl ⟨by rfl, fun w' hw' => by (try go_split_ands); go_simp <;> omega⟩) hS ?_
            simp only [Act.put, List.getElem_toArray, List.getElem_cons_zero, List.getElem_cons_succ, List.setIfInBounds_toArray, List.set_cons_zero, List.set_cons_succ]
            refine wpAnyH_take (i := 23) (v := .agg #[.int .i64 (hx : Int), .slice sa sz cs, .int .i64 pa]) rfl (by kernel_rfl) (by kernel_rfl) (by kernel_rfl) (fun _ _ _ h => h) (Or.inl ⟨by rfl, fun w' hw' => by (try go_split_ands); go_simp <;> omega⟩) hS ?_
            simp only [Act.put, List.getElem_toArray, List.getElem_cons_zero, List.getElem_cons_succ, List.setIfInBounds_toArray, List.set_cons_zero, List.set_cons_succ]
            refine wpAnyH_ready (rs := [24]) (by kernel_rfl) (by simp) ?_
            refine AllReadyH.cons rfl (fun K hK => ?_) AllReadyH.nil
            go_simp
            go_wp2_with fail
            refine (closed_ok _ p p _ _ l HG.out _ pa (HDW.out.below hS.2.2.2.out) (HSW.out.below hS.2.2.2.out)).mono ?_
            rintro e w5 ⟨rfl, b5⟩
            have hS5 := And.intro ((b5.cell (World.block_lt_of_cell? _ _ hS.1)).trans hS.1) (And.intro ((b5.cell (World.block_lt_of_cell? _ _ hS.2.1)).trans hS.2.1) (And.intro ((b5.cell (World.block_lt_of_cell? _ _ hS.2.2.1)).trans hS.2.2.1) (Lib.hid (bThen hS.2.2.2.out b5))))
            clear hS b5
            go_wp2_with fail
            refine hK.out _ _ hS5 (fun hS => ?_)
            clear hK K hS5
            refine wpAnyH_ready (rs := [25]) (by kernel_rfl) (by simp) ?_
            refine AllReadyH.cons rfl (fun K hK => ?_) AllReadyH.nil
            go_simp
            refine hK.out _ _ hS (fun _ => ?_)
            clear hK K
            refine wpAnyH_take (i := 26) (v := .bool false) rfl (by kernel_rfl) (by kernel_rfl) (by kernel_rfl) (fun _ _ _ h => h) (Or.inl ⟨by rfl, fun w' hw' => by (try go_split_ands); go_simp <;> omega⟩) hS ?_
            simp only [Act.put, List.getElem_toArray, List.getElem_cons_zero, List.getElem_cons_succ, List.setIfInBounds_toArray, List.set_cons_zero, List.set_cons_succ]
            refine wpAnyH_take (i := 27) (v := .bool false) rfl (by kernel_rfl) (by kernel_rfl) (by kernel_rfl) (fun _ _ _ h => h) (Or.inl ⟨by rfl, fun w' hw' => by (try go_split_ands); go_simp <;> omega⟩) hS ?_
            simp only [Act.put, List.getElem_toArray, List.getElem_cons_zero, List.getElem_cons_succ, List.setIfInBounds_toArray, List.set_cons_zero, List.set_cons_succ]
            refine wpAnyH_take (i := 28) (v := .slice ab (nB l) cb) rfl (by kernel_rfl) (by kernel_rfl) (by kernel_rfl) (fun _ _ _ h => h) (Or.inl ⟨by rfl, fun w' hw' => by (try go_split_ands); go_simp <;> omega⟩) hS ?_
            simp only [Act.put, List.getElem_toArray, List.getElem_cons_zero, List.getElem_cons_succ, List.setIfInBounds_toArray, List.set_cons_zero, List.set_cons_succ]
            refine wpAnyH_take (i := 29) (v := .agg #[.int .i64 (hx : Int), .slice sa sz cs, .int .i64 pa]) rfl (by kernel_rfl) (by kernel_rfl) (by kernel_rfl) (fun _ _ _ h => h) (Or.inl ⟨by rfl, fun w' hw' => by (try go_split_ands); go_simp <;> omega⟩) hS ?_
            simp only [Act.put, List.getElem_toArray, List.getElem_cons_zero, List.getElem_cons_succ, List.setIfInBounds_toArray, List.set_cons_zero, List.set_cons_succ]
            refine wpAnyH_ready (rs := [30]) (by kernel_rfl) (by simp) ?_
            refine AllReadyH.cons rfl (fun K hK => ?_) AllReadyH.nil
            go_simp
            go_wp2_with fail
            refine (returns_ok _ p p _ _ l HG.out _ HHD.out HHN.out pa (HDW.out.below hS.2.2.2.out) (HSW.out.below hS.2.2.2.out)).mono ?_
            rintro e w6 ⟨rfl, b6⟩
            have hS6 := And.intro ((b6.cell (World.block_lt_of_cell? _ _ hS.1)).trans hS.1) (And.intro ((b6.cell (World.block_lt_of_cell? _ _ hS.2.1)).trans hS.2.1) (And.intro ((b6.cell (World.block_lt_of_cell? _ _ hS.2.2.1)).trans hS.2.2.1) (Lib.hid (bThen hS.2.2.2.out b6))))
            clear hS b6
            go_wp2_with fail
            refine hK.out _ _ hS6 (fun hS => ?_)
            clear hK K hS6
            refine wpAnyH_ready (rs := [31]) (by kernel_rfl) (by simp) ?_
            refine AllReadyH.cons rfl (fun K hK => ?_) AllReadyH.nil
            go_simp
            refine hK.out _ _ hS (fun _ => ?_)
            clear hK K
            refine wpAnyH_ready (rs := [32]) (by kernel_rfl) (by simp) ?_
            refine AllReadyH.cons rfl (fun K hK => ?_) AllReadyH.nil
            go_simp
            refine hK.out _ _ hS (fun _ => ?_)
            clear hK K
            refine wpAnyH_done (by kernel_rfl) ?_ _
            have hb9 := hS.2.2.2
            clear hS
            go_wp2
            go_meet
            exact ⟨rfl, hb9.out⟩
          · obtain ⟨j, rfl⟩ : ∃ j, i = j + 1 := ⟨i - 1, by omega⟩
            obtain ⟨hpv, hlt9⟩ := HPV.out j rfl
            have hng : (0 : Int) < ((j + 1 : Nat) : Int) := by omega
            have hsb : ((j + 1 : Nat) : Int) - 1 = (j : Int) := by omega
            have hsb2 : (j : Int) + 1 - 1 = (j : Int) := by omega
            have hng2 : (0 : Int) < (j : Int) + 1 := by omega
            have hj0 : (0 : Int) ≤ (j : Int) := by omega
            have hjN : (j : Int) < (N : Int) := by omega
            have hwj : IntKind.i64.wrap (j : Int) = (j : Int) := IntWalk.i64_in _ (by omega)
            clear hi9
            have hge : ¬ (hx : Int) ≤ (hdI l j : Int) := by omega
            refine wp_region_held_drew (S := fun w' => w'.cell? ⟨z, 0, none⟩ = some (.int .i64 (hx : Int)) ∧ w'.cell? ⟨z, 1, none⟩ = some (.slice sa sz cs) ∧ w'.cell? ⟨z, 2, none⟩ = some (.int .i64 pa) ∧ Hid (Below W.heap.size W w')) mix ⟨d0, d1, d2, (bRefl W).drew⟩ (fun hS => ?_)
            have HPX := Lib.hid (show ∀ w', Below W.heap.size W w' → w'.cell? ⟨bl, ol + j * 3, none⟩ = some (.int .i64 (hdI l j : Int)) from fun w' b => (b.cell (World.block_lt_of_cell? _ _ hpv)).trans hpv)
            clear d0 d1 d2 hpv
            refine wpAnyH_take (i := 0) (v := .int .i64 ((j + 1 : Nat) : Int)) rfl (by kernel_rfl) (by kernel_rfl) (by kernel_rfl) (fun _ _ _ h => h) (Or.inl ⟨by rfl, fun w' hw' => by (try go_split_ands); go_simp <;> omega⟩) hS ?_
            simp only [Act.put, List.getElem_toArray, List.getElem_cons_zero, List.setIfInBounds_toArray, List.set_cons_zero, List.set_cons_succ]
            refine wpAnyH_take (i := 1) (v := .bool true) rfl (by kernel_rfl) (by kernel_rfl) (by kernel_rfl) (fun _ _ _ h => h) (Or.inl ⟨by rfl, fun w' hw' => by (try go_split_ands); go_simp <;> omega⟩) hS ?_
            simp only [Act.put, List.getElem_toArray, List.getElem_cons_zero, List.getElem_cons_succ, List.setIfInBounds_toArray, List.set_cons_zero, List.set_cons_succ]
            refine wpAnyH_take (i := 2) (v := .bool true) rfl (by kernel_rfl) (by kernel_rfl) (by kernel_rfl) (fun _ _ _ h => h) (Or.inl ⟨by rfl, fun w' hw' => by (try go_split_ands); go_simp <;> omega⟩) hS ?_
            simp only [Act.put, List.getElem_toArray, List.getElem_cons_zero, List.getElem_cons_succ, List.setIfInBounds_toArray, List.set_cons_zero, List.set_cons_succ]
            refine wpAnyH_take (i := 3) (v := .slice (some ⟨bl, ol, none⟩) N cl) rfl (by kernel_rfl) (by kernel_rfl) (by kernel_rfl) (fun _ _ _ h => h) (Or.inl ⟨by rfl, fun w' hw' => by (try go_split_ands); go_simp <;> omega⟩) hS ?_
            simp only [Act.put, List.getElem_toArray, List.getElem_cons_zero, List.getElem_cons_succ, List.setIfInBounds_toArray, List.set_cons_zero, List.set_cons_succ]
            refine wpAnyH_take (i := 4) (v := .int .i64 ((j + 1 : Nat) : Int)) rfl (by kernel_rfl) (by kernel_rfl) (by kernel_rfl) (fun _ _ _ h => h) (Or.inl ⟨by rfl, fun w' hw' => by (try go_split_ands); go_simp <;> omega⟩) hS ?_
            simp only [Act.put, List.getElem_toArray, List.getElem_cons_zero, List.getElem_cons_succ, List.setIfInBounds_toArray, List.set_cons_zero, List.set_cons_succ]
            refine wpAnyH_take (i := 5) (v := .int .i64 (j : Int)) rfl (by kernel_rfl) (by kernel_rfl) (by kernel_rfl) (fun _ _ _ h => h) (Or.inl ⟨by rfl, fun w' hw' => by (try go_split_ands); go_simp <;> omega⟩) hS ?_
            simp only [Act.put, List.getElem_toArray, List.getElem_cons_zero, List.getElem_cons_succ, List.setIfInBounds_toArray, List.set_cons_zero, List.set_cons_succ]
            refine wpAnyH_take (i := 6) (v := .pointer (some ⟨bl, ol + j * 3, none⟩)) rfl (by kernel_rfl) (by kernel_rfl) (by kernel_rfl) (fun _ _ _ h => h) (Or.inl ⟨by rfl, fun w' hw' => by (try go_split_ands); go_simp <;> omega⟩) hS ?_
            simp only [Act.put, List.getElem_toArray, List.getElem_cons_zero, List.getElem_cons_succ, List.setIfInBounds_toArray, List.set_cons_zero, List.set_cons_succ]
            refine wpAnyH_take (i := 7) (v := .pointer (some ⟨bl, ol + j * 3, none⟩)) rfl (by kernel_rfl) (by kernel_rfl) (by kernel_rfl) (fun _ _ _ h => h) (Or.inl ⟨by rfl, fun w' hw' => by (try go_split_ands); go_simp <;> omega⟩) hS ?_
            simp only [Act.put, List.getElem_toArray, List.getElem_cons_zero, List.getElem_cons_succ, List.setIfInBounds_toArray, List.set_cons_zero, List.set_cons_succ]
            refine wpAnyH_take (i := 8) (v := .int .i64 (hdI l j : Int)) rfl (by kernel_rfl) (by kernel_rfl) (by kernel_rfl) (fun _ _ _ h => h) (Or.inl ⟨by rfl, fun w' hw' => by have hx := HPX.out w' hw'.2.2.2.out; go_simp⟩) hS ?_
            simp only [Act.put, List.getElem_toArray, List.getElem_cons_zero, List.getElem_cons_succ, List.setIfInBounds_toArray, List.set_cons_zero, List.set_cons_succ]
            refine wpAnyH_take (i := 9) (v := .pointer (some ⟨z, 0, none⟩)) rfl (by kernel_rfl) (by kernel_rfl) (by kernel_rfl) (fun _ _ _ h => h) (Or.inl ⟨by rfl, fun w' hw' => by (try go_split_ands); go_simp <;> omega⟩) hS ?_
            simp only [Act.put, List.getElem_toArray, List.getElem_cons_zero, List.getElem_cons_succ, List.setIfInBounds_toArray, List.set_cons_zero, List.set_cons_succ]
            refine wpAnyH_take (i := 10) (v := .int .i64 (hx : Int)) rfl (by kernel_rfl) (by kernel_rfl) (by kernel_rfl) (fun _ _ _ h => h) (Or.inl ⟨by rfl, fun w' hw' => by (try go_split_ands); go_simp <;> omega⟩) hS ?_
            simp only [Act.put, List.getElem_toArray, List.getElem_cons_zero, List.getElem_cons_succ, List.setIfInBounds_toArray, List.set_cons_zero, List.set_cons_succ]
            refine wpAnyH_take (i := 11) (v := .bool false) rfl (by kernel_rfl) (by kernel_rfl) (by kernel_rfl) (fun _ _ _ h => h) (Or.inl ⟨by rfl, fun w' hw' => by (try go_split_ands); go_simp <;> omega⟩) hS ?_
            simp only [Act.put, List.getElem_toArray, List.getElem_cons_zero, List.getElem_cons_succ, List.setIfInBounds_toArray, List.set_cons_zero, List.set_cons_succ]
            refine wpAnyH_take (i := 12) (v := .bool false) rfl (by kernel_rfl) (by kernel_rfl) (by kernel_rfl) (fun _ _ _ h => h) (Or.inl ⟨by rfl, fun w' hw' => by (try go_split_ands); go_simp <;> omega⟩) hS ?_
            simp only [Act.put, List.getElem_toArray, List.getElem_cons_zero, List.getElem_cons_succ, List.setIfInBounds_toArray, List.set_cons_zero, List.set_cons_succ]
            refine wpAnyH_take (i := 13) (v := .bool false) rfl (by kernel_rfl) (by kernel_rfl) (by kernel_rfl) (fun _ _ _ h => h) (Or.inl ⟨by rfl, fun w' hw' => by (try go_split_ands); go_simp <;> omega⟩) hS ?_
            simp only [Act.put, List.getElem_toArray, List.getElem_cons_zero, List.getElem_cons_succ, List.setIfInBounds_toArray, List.set_cons_zero, List.set_cons_succ]
            refine wpAnyH_take (i := 14) (v := .pointer (some ⟨z, 1, none⟩)) rfl (by kernel_rfl) (by kernel_rfl) (by kernel_rfl) (fun _ _ _ h => h) (Or.inl ⟨by rfl, fun w' hw' => by (try go_split_ands); go_simp <;> omega⟩) hS ?_
            simp only [Act.put, List.getElem_toArray, List.getElem_cons_zero, List.getElem_cons_succ, List.setIfInBounds_toArray, List.set_cons_zero, List.set_cons_succ]
            refine wpAnyH_take (i := 15) (v := .slice sa sz cs) rfl (by kernel_rfl) (by kernel_rfl) (by kernel_rfl) (fun _ _ _ h => h) (Or.inl ⟨by rfl, fun w' hw' => by (try go_split_ands); go_simp <;> omega⟩) hS ?_
            simp only [Act.put, List.getElem_toArray, List.getElem_cons_zero, List.getElem_cons_succ, List.setIfInBounds_toArray, List.set_cons_zero, List.set_cons_succ]
            refine wpAnyH_take (i := 16) (v := .pointer (some ⟨z, 0, none⟩)) rfl (by kernel_rfl) (by kernel_rfl) (by kernel_rfl) (fun _ _ _ h => h) (Or.inl ⟨by rfl, fun w' hw' => by (try go_split_ands); go_simp <;> omega⟩) hS ?_
            simp only [Act.put, List.getElem_toArray, List.getElem_cons_zero, List.getElem_cons_succ, List.setIfInBounds_toArray, List.set_cons_zero, List.set_cons_succ]
            refine wpAnyH_take (i := 17) (v := .int .i64 (hx : Int)) rfl (by kernel_rfl) (by kernel_rfl) (by kernel_rfl) (fun _ _ _ h => h) (Or.inl ⟨by rfl, fun w' hw' => by (try go_split_ands); go_simp <;> omega⟩) hS ?_
            simp only [Act.put, List.getElem_toArray, List.getElem_cons_zero, List.getElem_cons_succ, List.setIfInBounds_toArray, List.set_cons_zero, List.set_cons_succ]
            refine wpAnyH_ready (rs := [18]) (by kernel_rfl) (by simp) ?_
            refine AllReadyH.cons rfl (fun K hK => ?_) AllReadyH.nil
            go_simp
            go_wp2_with fail
            refine (hasL_ok _ p _ _ _ (HSW.out.below hS.2.2.2.out)).mono ?_
            rintro e w4 ⟨rfl, rfl⟩
            rw [HH0.out]
            go_wp2_with fail
            refine hK.out _ _ hS (fun hS => ?_)
            clear hK K
            refine wpAnyH_ready (rs := [19]) (by kernel_rfl) (by simp) ?_
            refine AllReadyH.cons rfl (fun K hK => ?_) AllReadyH.nil
            go_simp
            refine hK.out _ _ hS (fun _ => ?_)
            clear hK K
            refine wpAnyH_take (i := 20) (v := .bool false) rfl (by kernel_rfl) (by kernel_rfl) (by kernel_rfl) (fun _ _ _ h => h) (Or.inl ⟨by rfl, fun w' hw' => by (try go_split_ands); go_simp <;> omega⟩) hS ?_
            simp only [Act.put, List.getElem_toArray, List.getElem_cons_zero, List.getElem_cons_succ, List.setIfInBounds_toArray, List.set_cons_zero, List.set_cons_succ]
            refine wpAnyH_take (i := 21) (v := .bool false) rfl (by kernel_rfl) (by kernel_rfl) (by kernel_rfl) (fun _ _ _ h => h) (Or.inl ⟨by rfl, fun w' hw' => by (try go_split_ands); go_simp <;> omega⟩) hS ?_
            simp only [Act.put, List.getElem_toArray, List.getElem_cons_zero, List.getElem_cons_succ, List.setIfInBounds_toArray, List.set_cons_zero, List.set_cons_succ]
            refine wpAnyH_take (i := 22) (v := .slice ab (nB l) cb) rfl (by kernel_rfl) (by kernel_rfl) (by kernel_rfl) (fun _ _ _ h => h) (Or.inl ⟨by rfl, fun w' hw' => by (try go_split_ands); go_simp <;> omega⟩) hS ?_
            simp only [Act.put, List.getElem_toArray, List.getElem_cons_zero, List.getElem_cons_succ, List.setIfInBounds_toArray, List.set_cons_zero, List.set_cons_succ]
            refine wpAnyH_take (i := 23) (v := .agg #[.int .i64 (hx : Int), .slice sa sz cs, .int .i64 pa]) rfl (by kernel_rfl) (by kernel_rfl) (by kernel_rfl) (fun _ _ _ h => h) (Or.inl ⟨by rfl, fun w' hw' => by (try go_split_ands); go_simp <;> omega⟩) hS ?_
            simp only [Act.put, List.getElem_toArray, List.getElem_cons_zero, List.getElem_cons_succ, List.setIfInBounds_toArray, List.set_cons_zero, List.set_cons_succ]
            refine wpAnyH_ready (rs := [24]) (by kernel_rfl) (by simp) ?_
            refine AllReadyH.cons rfl (fun K hK => ?_) AllReadyH.nil
            go_simp
            go_wp2_with fail
            refine (closed_ok _ p p _ _ l HG.out _ pa (HDW.out.below hS.2.2.2.out) (HSW.out.below hS.2.2.2.out)).mono ?_
            rintro e w5 ⟨rfl, b5⟩
            have hS5 := And.intro ((b5.cell (World.block_lt_of_cell? _ _ hS.1)).trans hS.1) (And.intro ((b5.cell (World.block_lt_of_cell? _ _ hS.2.1)).trans hS.2.1) (And.intro ((b5.cell (World.block_lt_of_cell? _ _ hS.2.2.1)).trans hS.2.2.1) (Lib.hid (bThen hS.2.2.2.out b5))))
            clear hS b5
            go_wp2_with fail
            refine hK.out _ _ hS5 (fun hS => ?_)
            clear hK K hS5
            refine wpAnyH_ready (rs := [25]) (by kernel_rfl) (by simp) ?_
            refine AllReadyH.cons rfl (fun K hK => ?_) AllReadyH.nil
            go_simp
            refine hK.out _ _ hS (fun _ => ?_)
            clear hK K
            refine wpAnyH_take (i := 26) (v := .bool false) rfl (by kernel_rfl) (by kernel_rfl) (by kernel_rfl) (fun _ _ _ h => h) (Or.inl ⟨by rfl, fun w' hw' => by (try go_split_ands); go_simp <;> omega⟩) hS ?_
            simp only [Act.put, List.getElem_toArray, List.getElem_cons_zero, List.getElem_cons_succ, List.setIfInBounds_toArray, List.set_cons_zero, List.set_cons_succ]
            refine wpAnyH_take (i := 27) (v := .bool false) rfl (by kernel_rfl) (by kernel_rfl) (by kernel_rfl) (fun _ _ _ h => h) (Or.inl ⟨by rfl, fun w' hw' => by (try go_split_ands); go_simp <;> omega⟩) hS ?_
            simp only [Act.put, List.getElem_toArray, List.getElem_cons_zero, List.getElem_cons_succ, List.setIfInBounds_toArray, List.set_cons_zero, List.set_cons_succ]
            refine wpAnyH_take (i := 28) (v := .slice ab (nB l) cb) rfl (by kernel_rfl) (by kernel_rfl) (by kernel_rfl) (fun _ _ _ h => h) (Or.inl ⟨by rfl, fun w' hw' => by (try go_split_ands); go_simp <;> omega⟩) hS ?_
            simp only [Act.put, List.getElem_toArray, List.getElem_cons_zero, List.getElem_cons_succ, List.setIfInBounds_toArray, List.set_cons_zero, List.set_cons_succ]
            refine wpAnyH_take (i := 29) (v := .agg #[.int .i64 (hx : Int), .slice sa sz cs, .int .i64 pa]) rfl (by kernel_rfl) (by kernel_rfl) (by kernel_rfl) (fun _ _ _ h => h) (Or.inl ⟨by rfl, fun w' hw' => by (try go_split_ands); go_simp <;> omega⟩) hS ?_
            simp only [Act.put, List.getElem_toArray, List.getElem_cons_zero, List.getElem_cons_succ, List.setIfInBounds_toArray, List.set_cons_zero, List.set_cons_succ]
            refine wpAnyH_ready (rs := [30]) (by kernel_rfl) (by simp) ?_
            refine AllReadyH.cons rfl (fun K hK => ?_) AllReadyH.nil
            go_simp
            go_wp2_with fail
            refine (returns_ok _ p p _ _ l HG.out _ HHD.out HHN.out pa (HDW.out.below hS.2.2.2.out) (HSW.out.below hS.2.2.2.out)).mono ?_
            rintro e w6 ⟨rfl, b6⟩
            have hS6 := And.intro ((b6.cell (World.block_lt_of_cell? _ _ hS.1)).trans hS.1) (And.intro ((b6.cell (World.block_lt_of_cell? _ _ hS.2.1)).trans hS.2.1) (And.intro ((b6.cell (World.block_lt_of_cell? _ _ hS.2.2.1)).trans hS.2.2.1) (Lib.hid (bThen hS.2.2.2.out b6))))
            clear hS b6
            go_wp2_with fail
            refine hK.out _ _ hS6 (fun hS => ?_)
            clear hK K hS6
            refine wpAnyH_ready (rs := [31]) (by kernel_rfl) (by simp) ?_
            refine AllReadyH.cons rfl (fun K hK => ?_) AllReadyH.nil
            go_simp
            refine hK.out _ _ hS (fun _ => ?_)
            clear hK K
            refine wpAnyH_ready (rs := [32]) (by kernel_rfl) (by simp) ?_
            refine AllReadyH.cons rfl (fun K hK => ?_) AllReadyH.nil
            go_simp
            refine hK.out _ _ hS (fun _ => ?_)
            clear hK K
            refine wpAnyH_done (by kernel_rfl) ?_ _
            have hb9 := hS.2.2.2
            clear hS
            go_wp2
            go_meet
            exact ⟨rfl, hb9.out⟩
        case rest =>
          obtain ⟨rfl, hbc⟩ := hcut
          obtain ⟨wq, rfl⟩ : ∃ x : World, x = wc := ⟨_, rfl⟩
          have HBQ := Lib.hid (bThen HBW.out hbc.out)
          have HPQ := Lib.hid (HPW.out.below hbc.out HPW.out.lt)
          have HSQ := Lib.hid (HSW.out.below hbc.out)
          have HLQ := Lib.hid (HLW.out.below hbc.out)
          have HFQ := Lib.hid (HF3.out.below HBQ.out)
          clear hbc HBW HPW HSW HDW HLW HPV HH0 d0 d1 d2
          have HZQ := Lib.hid HPQ.out.lt
          have HSL := Lib.hid (show (loL l hx).length = sz by rw [EHX.out, loL_len, ESZ.out])
          go_wp2
          go_loopw [9] (fun t wr => ∃ k : Nat, k ≤ sz ∧ t = .int .i64 (k : Int) ∧ Hid (Below wq.heap.size wq wr)) (fun t _ => sz - (intOf t).toNat)
          case atStart => exact ⟨0, by omega, rfl, bRefl wq⟩
          case round =>
            obtain ⟨k, hk, rfl, hb⟩ := hrel
            have hP := HPQ.out.below hb.out HZQ.out
            have d0 : wr.cell? ⟨z, 0, none⟩ = some (.int .i64 (hx : Int)) := hP.cell 0
            have d1 : wr.cell? ⟨z, 1, none⟩ = some (.slice sa sz cs) := hP.cell 1
            have d2 : wr.cell? ⟨z, 2, none⟩ = some (.int .i64 pa) := hP.cell 2
            have HPR := Lib.hid hP
            clear hP
            by_cases hkt : k < sz
            · as_aux_lemma =>
              have hkt' : (k : Int) < (sz : Int) := by omega
              have hk0 : (0 : Int) ≤ (k : Int) := by omega
              obtain ⟨y, hyn, hyk, hyd⟩ := lo_at HIN.out (k := k) (by rw [← ESZ.out]; exact hkt)
              rw [← EHX.out] at hyk hyd
              obtain ⟨bs, os, rfl, _, _, cy⟩ := SlX.int (HSQ.out.below hb.out) hyk
              have HYD := Lib.hid hyd
              have HFR := Lib.hid (HFQ.out.below (hb.out.drew))
              have HBR := Lib.hid (show Below wq.heap.size wq wr.drew from hb.out.drew)
              clear hyd
              go_upto_region 17 with (fail)
              rcases Nat.eq_zero_or_pos k with hk9 | hk9
              · have hng : ¬ (0 : Int) < (k : Int) := by omega
                clear hk9
                refine wp_region_held_drew (S := fun w' => w'.cell? ⟨z, 0, none⟩ = some (.int .i64 (hx : Int)) ∧ w'.cell? ⟨z, 1, none⟩ = some (.slice (some ⟨bs, os, none⟩) sz cs) ∧ w'.cell? ⟨bs, os + k, none⟩ = some (.int .i64 (y : Int)) ∧ Hid (Below wr.drew.heap.size wr.drew w')) mix ⟨d0, d1, cy, bRefl _⟩ (fun hS => ?_)
                clear d0 d1 d2 cy
                refine wpAnyH_take (i := 0) (v := .pointer (some ⟨p, 0, none⟩)) rfl (by kernel_rfl) (by kernel_rfl) (by kernel_rfl) (fun _ _ _ h => h) (Or.inl ⟨by rfl, fun w' hw' => by (try go_split_ands); go_simp <;> omega⟩) hS ?_
                simp only [Act.put, List.getElem_toArray, List.getElem_cons_zero, List.setIfInBounds_toArray, List.set_cons_zero, List.set_cons_succ]
                refine wpAnyH_take (i := 1) (v := .pointer (some ⟨z, 0, none⟩)) rfl (by kernel_rfl) (by kernel_rfl) (by kernel_rfl) (fun _ _ _ h => h) (Or.inl ⟨by rfl, fun w' hw' => by (try go_split_ands); go_simp <;> omega⟩) hS ?_
                simp only [Act.put, List.getElem_toArray, List.getElem_cons_zero, List.getElem_cons_succ, List.setIfInBounds_toArray, List.set_cons_zero, List.set_cons_succ]
                refine wpAnyH_take (i := 2) (v := .int .i64 (hx : Int)) rfl (by kernel_rfl) (by kernel_rfl) (by kernel_rfl) (fun _ _ _ h => h) (Or.inl ⟨by rfl, fun w' hw' => by (try go_split_ands); go_simp <;> omega⟩) hS ?_
                simp only [Act.put, List.getElem_toArray, List.getElem_cons_zero, List.getElem_cons_succ, List.setIfInBounds_toArray, List.set_cons_zero, List.set_cons_succ]
                refine wpAnyH_take (i := 3) (v := .pointer (some ⟨z, 1, none⟩)) rfl (by kernel_rfl) (by kernel_rfl) (by kernel_rfl) (fun _ _ _ h => h) (Or.inl ⟨by rfl, fun w' hw' => by (try go_split_ands); go_simp <;> omega⟩) hS ?_
                simp only [Act.put, List.getElem_toArray, List.getElem_cons_zero, List.getElem_cons_succ, List.setIfInBounds_toArray, List.set_cons_zero, List.set_cons_succ]
                refine wpAnyH_take (i := 4) (v := .slice (some ⟨bs, os, none⟩) sz cs) rfl (by kernel_rfl) (by kernel_rfl) (by kernel_rfl) (fun _ _ _ h => h) (Or.inl ⟨by rfl, fun w' hw' => by (try go_split_ands); go_simp <;> omega⟩) hS ?_
                simp only [Act.put, List.getElem_toArray, List.getElem_cons_zero, List.getElem_cons_succ, List.setIfInBounds_toArray, List.set_cons_zero, List.set_cons_succ]
                refine wpAnyH_ready (rs := [5]) (by kernel_rfl) (by simp) ?_
                refine AllReadyH.cons rfl (fun K hK => ?_) AllReadyH.nil
                go_simp
                refine hK.out _ _ hS (fun _ => ?_)
                clear hK K
                refine wpAnyH_ready (rs := [6]) (by kernel_rfl) (by simp) ?_
                refine AllReadyH.cons rfl (fun K hK => ?_) AllReadyH.nil
                go_simp
                refine hK.out _ _ hS (fun _ => ?_)
                clear hK K
                refine wpAnyH_ready (rs := [7]) (by kernel_rfl) (by simp) ?_
                refine AllReadyH.cons rfl (fun K hK => ?_) AllReadyH.nil
                go_simp
                refine hK.out _ _ hS (fun _ => ?_)
                clear hK K
                refine wpAnyH_ready (rs := [8]) (by kernel_rfl) (by simp) ?_
                refine AllReadyH.cons rfl (fun K hK => ?_) AllReadyH.nil
                go_simp
                go_wp2_with fail
                refine ((HFR.out.below hS.2.2.2.out).dom _ _).mono ?_
                rintro e w4 ⟨rfl, k1, hw4⟩
                rw [HYD.out]
                have hS4 := And.intro (held_drew hw4 hS.1) (And.intro (held_drew hw4 hS.2.1) (And.intro (held_drew hw4 hS.2.2.1) (Lib.hid (show Below wr.drew.heap.size wr.drew w4 by rw [hw4]; exact bDrewN hS.2.2.2.out k1))))
                clear hS hw4
                go_wp2_with fail
                refine hK.out _ _ hS4 (fun hS => ?_)
                clear hK K hS4
                refine wpAnyH_ready (rs := [9]) (by kernel_rfl) (by simp) ?_
                refine AllReadyH.cons rfl (fun K hK => ?_) AllReadyH.nil
                go_simp
                refine hK.out _ _ hS (fun _ => ?_)
                clear hK K
                refine wpAnyH_ready (rs := [10]) (by kernel_rfl) (by simp) ?_
                refine AllReadyH.cons rfl (fun K hK => ?_) AllReadyH.nil
                go_simp
                refine hK.out _ _ hS (fun _ => ?_)
                clear hK K
                refine wpAnyH_take (i := 11) (v := .int .i64 (k : Int)) rfl (by kernel_rfl) (by kernel_rfl) (by kernel_rfl) (fun _ _ _ h => h) (Or.inl ⟨by rfl, fun w' hw' => by (try go_split_ands); go_simp <;> omega⟩) hS ?_
                simp only [Act.put, List.getElem_toArray, List.getElem_cons_zero, List.getElem_cons_succ, List.setIfInBounds_toArray, List.set_cons_zero, List.set_cons_succ]
                refine wpAnyH_take (i := 12) (v := .bool false) rfl (by kernel_rfl) (by kernel_rfl) (by kernel_rfl) (fun _ _ _ h => h) (Or.inl ⟨by rfl, fun w' hw' => by (try go_split_ands); go_simp <;> omega⟩) hS ?_
                simp only [Act.put, List.getElem_toArray, List.getElem_cons_zero, List.getElem_cons_succ, List.setIfInBounds_toArray, List.set_cons_zero, List.set_cons_succ]
                refine wpAnyH_take (i := 13) (v := .bool false) rfl (by kernel_rfl) (by kernel_rfl) (by kernel_rfl) (fun _ _ _ h => h) (Or.inl ⟨by rfl, fun w' hw' => by (try go_split_ands); go_simp <;> omega⟩) hS ?_
                simp only [Act.put, List.getElem_toArray, List.getElem_cons_zero, List.getElem_cons_succ, List.setIfInBounds_toArray, List.set_cons_zero, List.set_cons_succ]
                refine wpAnyH_take (i := 14) (v := undef) rfl (by kernel_rfl) (by kernel_rfl) (by kernel_rfl) (fun _ _ _ h => h) (Or.inr ⟨by rfl, rfl⟩) hS ?_
                simp only [Act.put, List.getElem_toArray, List.getElem_cons_zero, List.getElem_cons_succ, List.setIfInBounds_toArray, List.set_cons_zero, List.set_cons_succ]
                refine wpAnyH_take (i := 15) (v := undef) rfl (by kernel_rfl) (by kernel_rfl) (by kernel_rfl) (fun _ _ _ h => h) (Or.inr ⟨by rfl, rfl⟩) hS ?_
                simp only [Act.put, List.getElem_toArray, List.getElem_cons_zero, List.getElem_cons_succ, List.setIfInBounds_toArray, List.set_cons_zero, List.set_cons_succ]
                refine wpAnyH_take (i := 16) (v := undef) rfl (by kernel_rfl) (by kernel_rfl) (by kernel_rfl) (fun _ _ _ h => h) (Or.inr ⟨by rfl, rfl⟩) hS ?_
                simp only [Act.put, List.getElem_toArray, List.getElem_cons_zero, List.getElem_cons_succ, List.setIfInBounds_toArray, List.set_cons_zero, List.set_cons_succ]
                refine wpAnyH_take (i := 17) (v := undef) rfl (by kernel_rfl) (by kernel_rfl) (by kernel_rfl) (fun _ _ _ h => h) (Or.inr ⟨by rfl, rfl⟩) hS ?_
                simp only [Act.put, List.getElem_toArray, List.getElem_cons_zero, List.getElem_cons_succ, List.setIfInBounds_toArray, List.set_cons_zero, List.set_cons_succ]
                refine wpAnyH_take (i := 18) (v := undef) rfl (by kernel_rfl) (by kernel_rfl) (by kernel_rfl) (fun _ _ _ h => h) (Or.inr ⟨by rfl, rfl⟩) hS ?_
                simp only [Act.put, List.getElem_toArray, List.getElem_cons_zero, List.getElem_cons_succ, List.setIfInBounds_toArray, List.set_cons_zero, List.set_cons_succ]
                refine wpAnyH_take (i := 19) (v := undef) rfl (by kernel_rfl) (by kernel_rfl) (by kernel_rfl) (fun _ _ _ h => h) (Or.inr ⟨by rfl, rfl⟩) hS ?_
                simp only [Act.put, List.getElem_toArray, List.getElem_cons_zero, List.getElem_cons_succ, List.setIfInBounds_toArray, List.set_cons_zero, List.set_cons_succ]
                refine wpAnyH_take (i := 20) (v := undef) rfl (by kernel_rfl) (by kernel_rfl) (by kernel_rfl) (fun _ _ _ h => h) (Or.inr ⟨by rfl, rfl⟩) hS ?_
                simp only [Act.put, List.getElem_toArray, List.getElem_cons_zero, List.getElem_cons_succ, List.setIfInBounds_toArray, List.set_cons_zero, List.set_cons_succ]
                refine wpAnyH_take (i := 21) (v := undef) rfl (by kernel_rfl) (by kernel_rfl) (by kernel_rfl) (fun _ _ _ h => h) (Or.inr ⟨by rfl, rfl⟩) hS ?_
                simp only [Act.put, List.getElem_toArray, List.getElem_cons_zero, List.getElem_cons_succ, List.setIfInBounds_toArray, List.set_cons_zero, List.set_cons_succ]
                refine wpAnyH_take (i := 22) (v := undef) rfl (by kernel_rfl) (by kernel_rfl) (by kernel_rfl) (fun _ _ _ h => h) (Or.inr ⟨by rfl, rfl⟩) hS ?_
                simp only [Act.put, List.getElem_toArray, List.getElem_cons_zero, List.getElem_cons_succ, List.setIfInBounds_toArray, List.set_cons_zero, List.set_cons_succ]
                refine wpAnyH_take (i := 23) (v := undef) rfl (by kernel_rfl) (by kernel_rfl) (by kernel_rfl) (fun _ _ _ h => h) (Or.inr ⟨by rfl, rfl⟩) hS ?_
                simp only [Act.put, List.getElem_toArray, List.getElem_cons_zero, List.getElem_cons_succ, List.setIfInBounds_toArray, List.set_cons_zero, List.set_cons_succ]
                refine wpAnyH_take (i := 24) (v := undef) rfl (by kernel_rfl) (by kernel_rfl) (by kernel_rfl) (fun _ _ _ h => h) (Or.inr ⟨by rfl, rfl⟩) hS ?_
                simp only [Act.put, List.getElem_toArray, List.getElem_cons_zero, List.getElem_cons_succ, List.setIfInBounds_toArray, List.set_cons_zero, List.set_cons_succ]
                refine wpAnyH_take (i := 25) (v := undef) rfl (by kernel_rfl) (by kernel_rfl) (by kernel_rfl) (fun _ _ _ h => h) (Or.inr ⟨by rfl, rfl⟩) hS ?_
                simp only [Act.put, List.getElem_toArray, List.getElem_cons_zero, List.getElem_cons_succ, List.setIfInBounds_toArray, List.set_cons_zero, List.set_cons_succ]
                refine wpAnyH_take (i := 26) (v := .bool false) rfl (by kernel_rfl) (by kernel_rfl) (by kernel_rfl) (fun _ _ _ h => h) (Or.inl ⟨by rfl, fun w' hw' => by (try go_split_ands); go_simp <;> omega⟩) hS ?_
                simp only [Act.put, List.getElem_toArray, List.getElem_cons_zero, List.getElem_cons_succ, List.setIfInBounds_toArray, List.set_cons_zero, List.set_cons_succ]
                refine wpAnyH_ready (rs := [27]) (by kernel_rfl) (by simp) ?_
                refine AllReadyH.cons rfl (fun K hK => ?_) AllReadyH.nil
                go_simp
                refine hK.out _ _ hS (fun _ => ?_)
                clear hK K
                refine wpAnyH_done (by kernel_rfl) ?_ _
                have hb9 := Lib.hid (bThen HBR.out hS.2.2.2.out)
                clear hS
                go_wp2
                go_roundw
                all_goals first
                  | exact ⟨k + 1, by omega, by go_num, hb9.out⟩
                  | ((repeat apply Exists.intro); exact ⟨⟨k + 1, by omega, by go_num, hb9.out⟩, rfl⟩)
                  | (simp [intOf] <;> omega)
              · obtain ⟨j, rfl⟩ : ∃ j, k = j + 1 := ⟨k - 1, by omega⟩
                obtain ⟨x, _, hxk, _⟩ := lo_at HIN.out (k := j) (by rw [← ESZ.out]; omega)
                rw [← EHX.out] at hxk
                obtain ⟨bs2, os2, e2, _, _, cx⟩ := SlX.int (HSQ.out.below hb.out) hxk
                injection e2 with e2
                injection e2 with e21 e22
                subst e21 e22
                have hup := lo_up (i := i) (by rw [← EHX.out]; exact hxk) (by rw [← EHX.out]; exact hyk)
                have hng : (0 : Int) < ((j + 1 : Nat) : Int) := by omega
                have hng2 : (0 : Int) < (j : Int) + 1 := by omega
                have hsb : ((j + 1 : Nat) : Int) - 1 = (j : Int) := by omega
                have hsb2 : (j : Int) + 1 - 1 = (j : Int) := by omega
                have hj0 : (0 : Int) ≤ (j : Int) := by omega
                have hjs : (j : Int) < (sz : Int) := by omega
                have hjs2 : (j : Int) + 1 < (sz : Int) := by omega
                have hj1 : (0 : Int) ≤ (j : Int) + 1 := by omega
                have hwj : IntKind.i64.wrap (j : Int) = (j : Int) := IntWalk.i64_in _ (by omega)
                have hge : ¬ (y : Int) ≤ (x : Int) := by omega
                clear hk9 hup hxk
                refine wp_region_held_drew (S := fun w' => w'.cell? ⟨z, 0, none⟩ = some (.int .i64 (hx : Int)) ∧ w'.cell? ⟨z, 1, none⟩ = some (.slice (some ⟨bs, os, none⟩) sz cs) ∧ w'.cell? ⟨bs, os + (j + 1), none⟩ = some (.int .i64 (y : Int)) ∧ Hid (Below wr.drew.heap.size wr.drew w')) mix ⟨d0, d1, cy, bRefl _⟩ (fun hS => ?_)
                have HCX := Lib.hid (show ∀ w', Below wr.drew.heap.size wr.drew w' → w'.cell? ⟨bs, os + j, none⟩ = some (.int .i64 (x : Int)) from fun w' b => (b.cell (World.block_lt_of_cell? _ _ (show wr.drew.cell? ⟨bs, os + j, none⟩ = some (.int .i64 (x : Int)) from cx))).trans cx)
                clear d0 d1 d2 cy cx
                refine wpAnyH_take (i := 0) (v := .pointer (some ⟨p, 0, none⟩)) rfl (by kernel_rfl) (by kernel_rfl) (by kernel_rfl) (fun _ _ _ h => h) (Or.inl ⟨by rfl, fun w' hw' => by (try go_split_ands); go_simp <;> omega⟩) hS ?_
                simp only [Act.put, List.getElem_toArray, List.getElem_cons_zero, List.setIfInBounds_toArray, List.set_cons_zero, List.set_cons_succ]
                refine wpAnyH_take (i := 1) (v := .pointer (some ⟨z, 0, none⟩)) rfl (by kernel_rfl) (by kernel_rfl) (by kernel_rfl) (fun _ _ _ h => h) (Or.inl ⟨by rfl, fun w' hw' => by (try go_split_ands); go_simp <;> omega⟩) hS ?_
                simp only [Act.put, List.getElem_toArray, List.getElem_cons_zero, List.getElem_cons_succ, List.setIfInBounds_toArray, List.set_cons_zero, List.set_cons_succ]
                refine wpAnyH_take (i := 2) (v := .int .i64 (hx : Int)) rfl (by kernel_rfl) (by kernel_rfl) (by kernel_rfl) (fun _ _ _ h => h) (Or.inl ⟨by rfl, fun w' hw' => by (try go_split_ands); go_simp <;> omega⟩) hS ?_
                simp only [Act.put, List.getElem_toArray, List.getElem_cons_zero, List.getElem_cons_succ, List.setIfInBounds_toArray, List.set_cons_zero, List.set_cons_succ]
                refine wpAnyH_take (i := 3) (v := .pointer (some ⟨z, 1, none⟩)) rfl (by kernel_rfl) (by kernel_rfl) (by kernel_rfl) (fun _ _ _ h => h) (Or.inl ⟨by rfl, fun w' hw' => by (try go_split_ands); go_simp <;> omega⟩) hS ?_
                simp only [Act.put, List.getElem_toArray, List.getElem_cons_zero, List.getElem_cons_succ, List.setIfInBounds_toArray, List.set_cons_zero, List.set_cons_succ]
                refine wpAnyH_take (i := 4) (v := .slice (some ⟨bs, os, none⟩) sz cs) rfl (by kernel_rfl) (by kernel_rfl) (by kernel_rfl) (fun _ _ _ h => h) (Or.inl ⟨by rfl, fun w' hw' => by (try go_split_ands); go_simp <;> omega⟩) hS ?_
                simp only [Act.put, List.getElem_toArray, List.getElem_cons_zero, List.getElem_cons_succ, List.setIfInBounds_toArray, List.set_cons_zero, List.set_cons_succ]
                refine wpAnyH_ready (rs := [5]) (by kernel_rfl) (by simp) ?_
                refine AllReadyH.cons rfl (fun K hK => ?_) AllReadyH.nil
                go_simp
                refine hK.out _ _ hS (fun _ => ?_)
                clear hK K
                refine wpAnyH_ready (rs := [6]) (by kernel_rfl) (by simp) ?_
                refine AllReadyH.cons rfl (fun K hK => ?_) AllReadyH.nil
                go_simp
                refine hK.out _ _ hS (fun _ => ?_)
                clear hK K
                refine wpAnyH_ready (rs := [7]) (by kernel_rfl) (by simp) ?_
                refine AllReadyH.cons rfl (fun K hK => ?_) AllReadyH.nil
                go_simp
                refine hK.out _ _ hS (fun _ => ?_)
                clear hK K
                refine wpAnyH_ready (rs := [8]) (by kernel_rfl) (by simp) ?_
                refine AllReadyH.cons rfl (fun K hK => ?_) AllReadyH.nil
                go_simp
                go_wp2_with fail
                refine ((HFR.out.below hS.2.2.2.out).dom _ _).mono ?_
                rintro e w4 ⟨rfl, k1, hw4⟩
                rw [HYD.out]
                have hS4 := And.intro (held_drew hw4 hS.1) (And.intro (held_drew hw4 hS.2.1) (And.intro (held_drew hw4 hS.2.2.1) (Lib.hid (show Below wr.drew.heap.size wr.drew w4 by rw [hw4]; exact bDrewN hS.2.2.2.out k1))))
                clear hS hw4
                go_wp2_with fail
                refine hK.out _ _ hS4 (fun hS => ?_)
                clear hK K hS4
                refine wpAnyH_ready (rs := [9]) (by kernel_rfl) (by simp) ?_
                refine AllReadyH.cons rfl (fun K hK => ?_) AllReadyH.nil
                go_simp
                refine hK.out _ _ hS (fun _ => ?_)
                clear hK K
                refine wpAnyH_ready (rs := [10]) (by kernel_rfl) (by simp) ?_
                refine AllReadyH.cons rfl (fun K hK => ?_) AllReadyH.nil
                go_simp
                refine hK.out _ _ hS (fun _ => ?_)
                clear hK K
                refine wpAnyH_take (i := 11) (v := .int .i64 ((j + 1 : Nat) : Int)) rfl (by kernel_rfl) (by kernel_rfl) (by kernel_rfl) (fun _ _ _ h => h) (Or.inl ⟨by rfl, fun w' hw' => by (try go_split_ands); go_simp <;> omega⟩) hS ?_
                simp only [Act.put, List.getElem_toArray, List.getElem_cons_zero, List.getElem_cons_succ, List.setIfInBounds_toArray, List.set_cons_zero, List.set_cons_succ]
                refine wpAnyH_take (i := 12) (v := .bool true) rfl (by kernel_rfl) (by kernel_rfl) (by kernel_rfl) (fun _ _ _ h => h) (Or.inl ⟨by rfl, fun w' hw' => by (try go_split_ands); go_simp <;> omega⟩) hS ?_
                simp only [Act.put, List.getElem_toArray, List.getElem_cons_zero, List.getElem_cons_succ, List.setIfInBounds_toArray, List.set_cons_zero, List.set_cons_succ]
                refine wpAnyH_take (i := 13) (v := .bool true) rfl (by kernel_rfl) (by kernel_rfl) (by kernel_rfl) (fun _ _ _ h => h) (Or.inl ⟨by rfl, fun w' hw' => by (try go_split_ands); go_simp <;> omega⟩) hS ?_
                simp only [Act.put, List.getElem_toArray, List.getElem_cons_zero, List.getElem_cons_succ, List.setIfInBounds_toArray, List.set_cons_zero, List.set_cons_succ]
                refine wpAnyH_take (i := 14) (v := .pointer (some ⟨z, 1, none⟩)) rfl (by kernel_rfl) (by kernel_rfl) (by kernel_rfl) (fun _ _ _ h => h) (Or.inl ⟨by rfl, fun w' hw' => by (try go_split_ands); go_simp <;> omega⟩) hS ?_
                simp only [Act.put, List.getElem_toArray, List.getElem_cons_zero, List.getElem_cons_succ, List.setIfInBounds_toArray, List.set_cons_zero, List.set_cons_succ]
                refine wpAnyH_take (i := 15) (v := .slice (some ⟨bs, os, none⟩) sz cs) rfl (by kernel_rfl) (by kernel_rfl) (by kernel_rfl) (fun _ _ _ h => h) (Or.inl ⟨by rfl, fun w' hw' => by (try go_split_ands); go_simp <;> omega⟩) hS ?_
                simp only [Act.put, List.getElem_toArray, List.getElem_cons_zero, List.getElem_cons_succ, List.setIfInBounds_toArray, List.set_cons_zero, List.set_cons_succ]
                refine wpAnyH_take (i := 16) (v := .int .i64 ((j + 1 : Nat) : Int)) rfl (by kernel_rfl) (by kernel_rfl) (by kernel_rfl) (fun _ _ _ h => h) (Or.inl ⟨by rfl, fun w' hw' => by (try go_split_ands); go_simp <;> omega⟩) hS ?_
                simp only [Act.put, List.getElem_toArray, List.getElem_cons_zero, List.getElem_cons_succ, List.setIfInBounds_toArray, List.set_cons_zero, List.set_cons_succ]
                refine wpAnyH_take (i := 17) (v := .int .i64 (j : Int)) rfl (by kernel_rfl) (by kernel_rfl) (by kernel_rfl) (fun _ _ _ h => h) (Or.inl ⟨by rfl, fun w' hw' => by (try go_split_ands); go_simp <;> omega⟩) hS ?_
                simp only [Act.put, List.getElem_toArray, List.getElem_cons_zero, List.getElem_cons_succ, List.setIfInBounds_toArray, List.set_cons_zero, List.set_cons_succ]
                refine wpAnyH_take (i := 18) (v := .pointer (some ⟨bs, os + j, none⟩)) rfl (by kernel_rfl) (by kernel_rfl) (by kernel_rfl) (fun _ _ _ h => h) (Or.inl ⟨by rfl, fun w' hw' => by (try go_split_ands); go_simp <;> omega⟩) hS ?_
                simp only [Act.put, List.getElem_toArray, List.getElem_cons_zero, List.getElem_cons_succ, List.setIfInBounds_toArray, List.set_cons_zero, List.set_cons_succ]
                refine wpAnyH_take (i := 19) (v := .int .i64 (x : Int)) rfl (by kernel_rfl) (by kernel_rfl) (by kernel_rfl) (fun _ _ _ h => h) (Or.inl ⟨by rfl, fun w' hw' => by have hx := HCX.out w' hw'.2.2.2.out; go_simp⟩) hS ?_
                simp only [Act.put, List.getElem_toArray, List.getElem_cons_zero, List.getElem_cons_succ, List.setIfInBounds_toArray, List.set_cons_zero, List.set_cons_succ]
                refine wpAnyH_take (i := 20) (v := .pointer (some ⟨z, 1, none⟩)) rfl (by kernel_rfl) (by kernel_rfl) (by kernel_rfl) (fun _ _ _ h => h) (Or.inl ⟨by rfl, fun w' hw' => by (try go_split_ands); go_simp <;> omega⟩) hS ?_
                simp only [Act.put, List.getElem_toArray, List.getElem_cons_zero, List.getElem_cons_succ, List.setIfInBounds_toArray, List.set_cons_zero, List.set_cons_succ]
                refine wpAnyH_take (i := 21) (v := .slice (some ⟨bs, os, none⟩) sz cs) rfl (by kernel_rfl) (by kernel_rfl) (by kernel_rfl) (fun _ _ _ h => h) (Or.inl ⟨by rfl, fun w' hw' => by (try go_split_ands); go_simp <;> omega⟩) hS ?_
                simp only [Act.put, List.getElem_toArray, List.getElem_cons_zero, List.getElem_cons_succ, List.setIfInBounds_toArray, List.set_cons_zero, List.set_cons_succ]
                refine wpAnyH_take (i := 22) (v := .int .i64 ((j + 1 : Nat) : Int)) rfl (by kernel_rfl) (by kernel_rfl) (by kernel_rfl) (fun _ _ _ h => h) (Or.inl ⟨by rfl, fun w' hw' => by (try go_split_ands); go_simp <;> omega⟩) hS ?_
                simp only [Act.put, List.getElem_toArray, List.getElem_cons_zero, List.getElem_cons_succ, List.setIfInBounds_toArray, List.set_cons_zero, List.set_cons_succ]
                refine wpAnyH_take (i := 23) (v := .pointer (some ⟨bs, os + (j + 1), none⟩)) rfl (by kernel_rfl) (by kernel_rfl) (by kernel_rfl) (fun _ _ _ h => h) (Or.inl ⟨by rfl, fun w' hw' => by (try go_split_ands); go_simp <;> omega⟩) hS ?_
                simp only [Act.put, List.getElem_toArray, List.getElem_cons_zero, List.getElem_cons_succ, List.setIfInBounds_toArray, List.set_cons_zero, List.set_cons_succ]
                refine wpAnyH_take (i := 24) (v := .int .i64 (y : Int)) rfl (by kernel_rfl) (by kernel_rfl) (by kernel_rfl) (fun _ _ _ h => h) (Or.inl ⟨by rfl, fun w' hw' => by (try go_split_ands); go_simp <;> omega⟩) hS ?_
                simp only [Act.put, List.getElem_toArray, List.getElem_cons_zero, List.getElem_cons_succ, List.setIfInBounds_toArray, List.set_cons_zero, List.set_cons_succ]
                refine wpAnyH_take (i := 25) (v := .bool false) rfl (by kernel_rfl) (by kernel_rfl) (by kernel_rfl) (fun _ _ _ h => h) (Or.inl ⟨by rfl, fun w' hw' => by (try go_split_ands); go_simp <;> omega⟩) hS ?_
                simp only [Act.put, List.getElem_toArray, List.getElem_cons_zero, List.getElem_cons_succ, List.setIfInBounds_toArray, List.set_cons_zero, List.set_cons_succ]
                refine wpAnyH_take (i := 26) (v := .bool false) rfl (by kernel_rfl) (by kernel_rfl) (by kernel_rfl) (fun _ _ _ h => h) (Or.inl ⟨by rfl, fun w' hw' => by (try go_split_ands); go_simp <;> omega⟩) hS ?_
                simp only [Act.put, List.getElem_toArray, List.getElem_cons_zero, List.getElem_cons_succ, List.setIfInBounds_toArray, List.set_cons_zero, List.set_cons_succ]
                refine wpAnyH_ready (rs := [27]) (by kernel_rfl) (by simp) ?_
                refine AllReadyH.cons rfl (fun K hK => ?_) AllReadyH.nil
                go_simp
                refine hK.out _ _ hS (fun _ => ?_)
                clear hK K
                refine wpAnyH_done (by kernel_rfl) ?_ _
                have hb9 := Lib.hid (bThen HBR.out hS.2.2.2.out)
                clear hS hwj
                go_wp2
                go_roundw
                all_goals first
                  | exact ⟨j + 1 + 1, by omega, by go_num, hb9.out⟩
                  | ((repeat apply Exists.intro); exact ⟨⟨j + 1 + 1, by omega, by go_num, hb9.out⟩, rfl⟩)
                  | (simp [intOf] <;> omega)
            · obtain rfl : sz = k := by omega
              have HBQ2 := Lib.hid (bThen HBQ.out hb.out)
              have HSR := Lib.hid (HSQ.out.below hb.out)
              have HLR := Lib.hid (HLQ.out.below hb.out)
              have HZR := Lib.hid HPR.out.lt
              obtain ⟨wd, rfl⟩ : ∃ x : World, x = wr := ⟨_, rfl⟩
              have HD1 := Lib.hid d1
              have HD2 := Lib.hid d2
              have HD0 := Lib.hid d0
              have HP0 := Lib.hid (show (-1 : Int) = parK l i 0 from rfl)
              clear hkt hk hb HPQ HSQ HLQ HFQ d0 d2
              go_wp2
              clear d1
              go_loopw [10, 11] (fun t10 t11 wr => ∃ (k : Nat) (B : Int), k ≤ N ∧ t11 = .int .i64 (k : Int) ∧ t10 = .int .i64 B ∧ Hid (B = parK l i k) ∧ Hid (Below wd.heap.size wd wr)) (fun _ t _ => N - (intOf t).toNat)
              case atStart => exact ⟨0, -1, by omega, rfl, rfl, HP0.out, bRefl wd⟩
              case round =>
                obtain ⟨k, B, hk, rfl, rfl, hB, hb⟩ := hrel
                have hP := HPR.out.below hb.out HZR.out
                have d0 : wr.cell? ⟨z, 0, none⟩ = some (.int .i64 (hx : Int)) := hP.cell 0
                have d1 : wr.cell? ⟨z, 1, none⟩ = some (.slice sa sz cs) := hP.cell 1
                have d2 : wr.cell? ⟨z, 2, none⟩ = some (.int .i64 pa) := hP.cell 2
                have hzl := hP.lt
                clear hP
                by_cases hkt : k < N
                · have hkt' : (k : Int) < (N : Int) := by omega
                  have hk0 : (0 : Int) ≤ (k : Int) := by omega
                  have HKN := Lib.hid (show k < (heads l).length by rw [← HN.out]; exact hkt)
                  obtain ⟨bl2, ol2, sb, cb2, e2, k0, k1, k2, hsk⟩ := ld_at (HLR.out.below hb.out) HKN.out
                  injection e2 with e2
                  injection e2 with e21 e22
                  subst e21 e22
                  obtain ⟨hy, ehy⟩ : ∃ x, x = hdI l k := ⟨_, rfl⟩
                  obtain ⟨sy, esy⟩ : ∃ x, x = szI l k := ⟨_, rfl⟩
                  rw [← ehy] at k0 hsk
                  rw [← esy] at k1 hsk
                  obtain ⟨py, epy⟩ : ∃ x, x = parK l k (heads l).length := ⟨_, rfl⟩
                  rw [← epy] at k2
                  have EHY := Lib.hid ehy
                  have ESY := Lib.hid esy
                  have HSY := Lib.hid hsk
                  clear ehy esy epy hsk
                  go_upto_region 24 with (fail)
                  generalize hW : wr.alloc (.cells #[.int .i64 (hy : Int), .slice sb sy cb2, .int .i64 py] 60) = W
                  obtain ⟨z2, hz2⟩ : ∃ z, z = wr.heap.size := ⟨_, rfl⟩
                  rw [← hz2]
                  have bW : Below wr.heap.size wr W := by rw [← hW]; exact bAl (bRefl wr) _
                  have pW : Blk W z2 60 #[.int .i64 (hy : Int), .slice sb sy cb2, .int .i64 py] := by rw [← hW, hz2]; exact Blk.new _ _ _
                  have e0 : W.cell? ⟨z2, 0, none⟩ = some (.int .i64 (hy : Int)) := pW.cell 0
                  have e1 : W.cell? ⟨z2, 1, none⟩ = some (.slice sb sy cb2) := pW.cell 1
                  have d0 : W.cell? ⟨z, 0, none⟩ = some (.int .i64 (hx : Int)) := (bW.cell (p := ⟨z, 0, none⟩) hzl).trans d0
                  have d1 : W.cell? ⟨z, 1, none⟩ = some (.slice sa sz cs) := (bW.cell (p := ⟨z, 1, none⟩) hzl).trans d1
                  have HBW := Lib.hid (bThen hb.out bW)
                  have HSX := Lib.hid (HSR.out.below HBW.out)
                  have HSYW := Lib.hid (HSY.out.below bW)
                  have HLW := Lib.hid (HLR.out.below HBW.out)
                  have HKN1 := Lib.hid (show k + 1 ≤ N from hkt)
                  clear hW hz2 bW pW k0 k1 k2 HSY hb d2 hzl
                  by_cases hki : k = i
                  · have hb1 : ((k : Int) == (i : Int)) = true := by simp [hki]
                    have hb2 : ((k : Int) != (i : Int)) = false := by simp [hki]
                    have HB9 := Lib.hid (show B = parK l i (k + 1) by rw [parK_skip (Or.inl hki)]; exact hB.out)
                    clear hki hB
                    go_wp2
                    go_roundw
                    all_goals first
                      | exact ⟨k + 1, B, HKN1.out, by go_num, rfl, HB9.out, HBW.out⟩
                      | ((repeat apply Exists.intro); exact ⟨⟨k + 1, B, HKN1.out, by go_num, rfl, HB9.out, HBW.out⟩, rfl⟩)
                      | (simp [intOf] <;> omega)
                  · have hb1 : ((k : Int) == (i : Int)) = false := by simp; omega
                    have hb2 : ((k : Int) != (i : Int)) = true := by simp; omega
                    have HK := Lib.hid hki
                    have HHX := Lib.hid (show (loL l hy).contains (hx : Int) = lpB l hy hx from loL_has HHN.out)
                    clear hki
                    go_wp2_with fail
                    refine (hasL_ok W p _ _ (hx : Int) HSYW.out).mono ?_
                    rintro e w4 ⟨rfl, rfl⟩
                    rw [HHX.out]
                    obtain ⟨W, rfl⟩ : ∃ x : World, x = w4 := ⟨_, rfl⟩
                    cases hr : lpB l hy hx with
                    | false =>
                      have HR := Lib.hid (show lpB l (hdI l k) (hdI l i) = false by rw [← EHY.out, ← EHX.out]; exact hr)
                      have HB9 := Lib.hid (show B = parK l i (k + 1) by rw [parK_skip (Or.inr HR.out)]; exact hB.out)
                      clear hr hB
                      go_wp2_with fail
                      refine (shares_ok W p p _ _ _ _ HSX.out HSYW.out).mono ?_
                      rintro e w4 ⟨rfl, rfl⟩
                      obtain ⟨W, rfl⟩ : ∃ x : World, x = w4 := ⟨_, rfl⟩
                      cases hsh : (loL l hx).any fun x => (loL l hy).contains x with
                      | false =>
                        clear hsh
                        go_wp2
                        go_roundw
                        all_goals first
                          | exact ⟨k + 1, B, HKN1.out, by go_num, rfl, HB9.out, HBW.out⟩
                          | ((repeat apply Exists.intro); exact ⟨⟨k + 1, B, HKN1.out, by go_num, rfl, HB9.out, HBW.out⟩, rfl⟩)
                          | (simp [intOf] <;> omega)
                      | true =>
                        have HWI := Lib.hid (show ((loL l hy).all fun x => (loL l hx).contains x) = true by
                          rw [EHX.out, EHY.out] at hsh ⊢
                          exact lo_out HG.out HIN.out HKN.out HK.out HR.out hsh)
                        clear hsh
                        go_wp2_with fail
                        refine (within_ok W p p _ _ _ _ HSYW.out HSX.out).mono ?_
                        rintro e w4 ⟨rfl, rfl⟩
                        rw [HWI.out]
                        obtain ⟨W, rfl⟩ : ∃ x : World, x = w4 := ⟨_, rfl⟩
                        go_wp2
                        go_roundw
                        all_goals first
                          | exact ⟨k + 1, B, HKN1.out, by go_num, rfl, HB9.out, HBW.out⟩
                          | ((repeat apply Exists.intro); exact ⟨⟨k + 1, B, HKN1.out, by go_num, rfl, HB9.out, HBW.out⟩, rfl⟩)
                          | (simp [intOf] <;> omega)
                    | true =>
                      have HR := Lib.hid (show lpB l (hdI l k) (hdI l i) = true by rw [← EHY.out, ← EHX.out]; exact hr)
                      obtain ⟨hin1, hin2⟩ := lo_in HG.out HIN.out HKN.out HK.out HR.out
                      rw [← EHX.out, ← EHY.out] at hin1
                      rw [← ESZ.out, ← ESY.out] at hin2
                      have HIN1 := Lib.hid hin1
                      have hsz : ¬ (sy : Int) ≤ (sz : Int) := by omega
                      have hpar := parK_in HK.out HR.out
                      clear hr hin1
                      go_wp2_with fail
                      refine (within_ok W p p _ _ _ _ HSX.out HSYW.out).mono ?_
                      rintro e w4 ⟨rfl, rfl⟩
                      rw [HIN1.out]
                      obtain ⟨W, rfl⟩ : ∃ x : World, x = w4 := ⟨_, rfl⟩
                      have hplt := parK_lt l i k
                      rw [← hB.out] at hplt hpar
                      by_cases hneg : B < 0
                      · rw [if_pos (Or.inl hneg)] at hpar
                        have HB9 := Lib.hid hpar.symm
                        clear hpar hB
                        go_upto_region 29 with (fail)
                        go_quiet (fail)
                        rename Nat => nq
                        have HBX := Lib.hid (bDraw HBW.out nq)
                        go_wp2
                        go_roundw
                        all_goals first
                          | exact ⟨k + 1, k, HKN1.out, by go_num, rfl, HB9.out, HBX.out⟩
                          | ((repeat apply Exists.intro); exact ⟨⟨k + 1, k, HKN1.out, by go_num, rfl, HB9.out, HBX.out⟩, rfl⟩)
                          | (simp [intOf] <;> omega)
                      · obtain ⟨b, rfl⟩ := Int.eq_ofNat_of_zero_le (show 0 ≤ B by omega)
                        have hbN : b < N := by omega
                        have hbN' : (b : Int) < (N : Int) := by omega
                        have hb0 : (0 : Int) ≤ (b : Int) := by omega
                        obtain ⟨bl2, ol2, sb2, cb3, e3, _, f1, _, _⟩ := ld_at HLW.out (i := b) (by rw [← HN.out]; exact hbN)
                        injection e3 with e3
                        injection e3 with e31 e32
                        subst e31 e32
                        rw [Int.toNat_natCast] at hpar
                        have hpar : parK l i (k + 1) = if (b : Int) < 0 ∨ szI l k < szI l b then (k : Int) else (b : Int) := hpar
                        rw [← ESY.out] at hpar
                        obtain ⟨sb3, esb⟩ : ∃ x, x = szI l b := ⟨_, rfl⟩
                        rw [← esb] at hpar f1
                        clear esb hneg hB
                        by_cases hlt : sy < sb3
                        · have hlt' : (sy : Int) < (sb3 : Int) := by omega
                          rw [if_pos (Or.inr hlt)] at hpar
                          have HB9 := Lib.hid hpar.symm
                          clear hpar hlt
                          go_upto_region 29 with (fail)
                          go_quiet (fail)
                          rename Nat => nq
                          have HBX := Lib.hid (bDraw HBW.out nq)
                          go_wp2
                          go_roundw
                          all_goals first
                            | exact ⟨k + 1, k, HKN1.out, by go_num, rfl, HB9.out, HBX.out⟩
                            | ((repeat apply Exists.intro); exact ⟨⟨k + 1, k, HKN1.out, by go_num, rfl, HB9.out, HBX.out⟩, rfl⟩)
                            | (simp [intOf] <;> omega)
                        · have hlt' : ¬ (sy : Int) < (sb3 : Int) := by omega
                          rw [if_neg (by omega)] at hpar
                          have HB9 := Lib.hid hpar.symm
                          clear hpar hlt
                          go_upto_region 29 with (fail)
                          go_quiet (fail)
                          rename Nat => nq
                          have HBX := Lib.hid (bDraw HBW.out nq)
                          go_wp2
                          go_roundw
                          all_goals first
                            | exact ⟨k + 1, b, HKN1.out, by go_num, rfl, HB9.out, HBX.out⟩
                            | ((repeat apply Exists.intro); exact ⟨⟨k + 1, b, HKN1.out, by go_num, rfl, HB9.out, HBX.out⟩, rfl⟩)
                            | (simp [intOf] <;> omega)
                · have hkN : k = N := by omega
                  have hBp : B = pa := by rw [hB.out, HPA.out, hkN, HN.out]
                  subst hBp
                  have HBX := Lib.hid (HBQ2.out.trans (hb.out.mono HBQ2.out.size))
                  have hkt' : ¬ (k : Int) < (N : Int) := by omega
                  clear hkN hB hb
                  go_wp2
                  go_roundw
                  all_goals first
                    | exact ⟨i + 1, by omega, by go_num, HBX.out⟩
                    | ((repeat apply Exists.intro); exact ⟨⟨i + 1, by omega, by go_num, HBX.out⟩, rfl⟩)
                    | (simp [intOf] <;> omega)
      · obtain rfl : i = N := by omega
        clear hit
        go_wp2
        go_ret
        exact ⟨rfl, HB3.out.trans (hb.out.mono HB3.out.size)⟩
end Go.Proofs.Ytlhehphikkgobaa
