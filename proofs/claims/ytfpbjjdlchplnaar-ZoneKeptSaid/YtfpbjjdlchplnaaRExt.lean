/- Extend and Reach of the law: variables made anew so that all bounds are met; nothing that was there is turned. -/
import Derived.Test.YtfpbjjdlchplnaaRAsgP
import Derived.Deep.QuietTactic
import Derived.BigQuiet
namespace Go.Proofs.YtfpbjjdlchplnaaR
open Go Go.RowKit Go.Wr
set_option maxHeartbeats 3000000
set_option maxRecDepth 100000

def bcells (r : Nat → Bool) : Array Value := ((List.range 60).map fun k => Value.bool (r k)).toArray
theorem bcells_size (r : Nat → Bool) : (bcells r).size = 60 := by simp [bcells]
theorem bcells_get (r : Nat → Bool) {k : Nat} (hk : k < 60) : (bcells r)[k]? = some (.bool (r k)) := by
  simp only [bcells, List.getElem?_toArray, List.getElem?_map]
  rw [List.getElem?_range hk, Option.map_some]
theorem bcells_congr {r s : Nat → Bool} (h : ∀ k, k < 60 → r k = s k) : bcells r = bcells s := by
  apply Array.ext_getElem?
  intro i
  by_cases hi : i < 60
  · rw [bcells_get _ hi, bcells_get _ hi, h i hi]
  · rw [Array.getElem?_eq_none (by rw [bcells_size]; omega), Array.getElem?_eq_none (by rw [bcells_size]; omega)]
theorem bcells_set (r : Nat → Bool) {k : Nat} (hk : k < 60) (v : Bool) : (bcells r).setIfInBounds k (.bool v) = bcells (fun q => if q = k then v else r q) := by
  apply Array.ext_getElem?
  intro i
  rw [Array.getElem?_setIfInBounds, bcells_size]
  by_cases hi : i < 60
  · rw [bcells_get _ hi, bcells_get _ hi]
    by_cases e : k = i
    · subst e; simp [hk]
    · rw [if_neg e, if_neg (fun h => e h.symm)]
  · rw [Array.getElem?_eq_none (by rw [bcells_size]; omega), Array.getElem?_eq_none (by rw [bcells_size]; omega)]
    have : k ≠ i := by omega
    simp [this]
theorem makeB60 (w : World) : (Instr.makeSlice 90 (.int .i64 60) (.int .i64 60)).run Try.prog w = .ok (.slice (some ⟨w.heap.size, 0, none⟩) 60 60) (w.alloc (.cells (bcells fun _ => false) 4)) := by kernel_rfl

theorem Reach_any (w : World) (b : Nat) (m : Nat → Nat → Int) (hz : ZAt w b ⟨false, m⟩) (hr : Rng m) (i : Int) (j : Nat) :
    Calls Try.prog 32 #[.pointer (some ⟨b, 0, none⟩), .int .i64 i, .int .i64 j] w fun e w' => ∃ g, e = .returned (.slice (some ⟨g, 0, none⟩) 60 60) ∧ Blk w' g 3 (rcells (reachF m j 1125899906842624)) ∧ w.heap.size ≤ g ∧ Below w.heap.size w w' := by
  have Hz := Lib.hid hz
  clear hz
  go_enter Try.func32, Try.ntmps32
  go_wp2_with fail
  refine (reach_any _ b m Hz.out hr i j 1125899906842624 (by omega) (by omega)).mono ?_
  rintro e w1 ⟨g, rfl, hg, hgl, b1⟩
  go_wp2
  go_ret
  exact ⟨g, rfl, hg, hgl, b1⟩

/-- How far Extend has come. -/
structure EInv (m : Nat → Nat → Int) (n : Nat) (f : Nat → Int) (op : Nat → Bool) : Prop where
  mt : MtO m f op
  bnd : Bnd (36310271995674624 + n * 70368744177664) f
  done : ∀ q, q < n → op q = false

theorem EInv.big {m : Nat → Nat → Int} {n : Nat} {f : Nat → Int} {op : Nat → Bool} (h : EInv m n f op) (hn : n ≤ 60) : Bnd 72057594037927936 f := fun q hq => by
  have := h.bnd q hq
  omega

theorem EInv.skip {m : Nat → Nat → Int} {n : Nat} {f : Nat → Int} {op : Nat → Bool} (h : EInv m n f op) (ho : op n = false) : EInv m (n + 1) f op :=
  ⟨h.mt, fun q hq => by have := h.bnd q hq; omega, fun q hq => by
    by_cases e : q = n
    · rw [e]; exact ho
    · exact h.done q (by omega)⟩

theorem EInv.step {m : Nat → Nat → Int} {n : Nat} {f : Nat → Int} {op : Nat → Bool} (h : EInv m n f op) (hcl : Cl 70368744177664 m) (hn : n < 60) : EInv m (n + 1) (putF f n (newV (loS m f op n 60) (hiS m f op n 60))) (clo op n) :=
  ⟨ext_meets hcl h.mt h.bnd (by omega) (by omega) hn, fun q hq => by
    have := ext_bnd (x := n) (op := op) hcl h.bnd (by omega) (by omega) (by omega) hn q hq
    omega, fun q hq => by
    unfold clo
    split
    · rfl
    · exact h.done q (by omega)⟩

theorem EInv.le {m : Nat → Nat → Int} {n : Nat} {f : Nat → Int} {op : Nat → Bool} (h : EInv m n f op) (hcl : Cl 70368744177664 m) (hn : n < 60) : ¬ hiS m f op n 60 < loS m f op n 60 := by
  have := ext_le hcl h.mt h.bnd (by omega) (by omega) hn
  omega

theorem EInv.all {m : Nat → Nat → Int} {f : Nat → Int} {op : Nat → Bool} (h : EInv m 60 f op) : Mt m f := fun p q hp hq hb => h.mt p q hp hq (h.done p hp) (h.done q hq) hb

theorem einv_start {m : Nat → Nat → Int} {l : List Int} {f : Nat → Int} (h : MtO m f (opn l)) (hB : Bnd 36310271995674624 f) : EInv m 1 f (opn l) :=
  ⟨h, fun q hq => by have := hB q hq; omega, fun q hq => by
    obtain rfl : q = 0 := by omega
    unfold opn
    rw [List.any_eq_false]
    intro v _
    simp only [decide_eq_true_eq]
    omega⟩

theorem hiS_same {m : Nat → Nat → Int} {f : Nat → Int} {op : Nat → Bool} {x q : Nat} (h : (q = x ∨ op q = true) ∨ m x q = 2305843009213693952 ∨ ¬ f q + m x q < hiS m f op x q) : hiS m f op x (q + 1) = hiS m f op x q := by
  show (if _ then _ else _) = _
  split
  · rfl
  · rename_i h1
    rw [if_neg]
    rcases h with h | h | h
    · exact absurd (Or.inl h) h1
    · exact absurd (Or.inr h) h1
    · exact h
theorem hiS_low {m : Nat → Nat → Int} {f : Nat → Int} {op : Nat → Bool} {x q : Nat} (h1 : q ≠ x) (h2 : op q = false) (h3 : m x q ≠ 2305843009213693952) (h4 : f q + m x q < hiS m f op x q) : hiS m f op x (q + 1) = f q + m x q := by
  show (if _ then _ else _) = _
  rw [if_neg (by rintro ((h | h) | h); exact h1 h; (rw [h2] at h; cases h); exact h3 h), if_pos h4]
theorem loS_same {m : Nat → Nat → Int} {f : Nat → Int} {op : Nat → Bool} {x q : Nat} (h : (q = x ∨ op q = true) ∨ m q x = 2305843009213693952 ∨ ¬ loS m f op x q < f q - m q x) : loS m f op x (q + 1) = loS m f op x q := by
  show (if _ then _ else _) = _
  split
  · rfl
  · rename_i h1
    rw [if_neg]
    rcases h with h | h | h
    · exact absurd (Or.inl h) h1
    · exact absurd (Or.inr h) h1
    · exact h
theorem loS_high {m : Nat → Nat → Int} {f : Nat → Int} {op : Nat → Bool} {x q : Nat} (h1 : q ≠ x) (h2 : op q = false) (h3 : m q x ≠ 2305843009213693952) (h4 : loS m f op x q < f q - m q x) : loS m f op x (q + 1) = f q - m q x := by
  show (if _ then _ else _) = _
  rw [if_neg (by rintro ((h | h) | h); exact h1 h; (rw [h2] at h; cases h); exact h3 h), if_pos h4]

theorem extend_any (w : World) (b : Nat) (m : Nat → Nat → Int) (hz : ZAt w b ⟨false, m⟩) (hcl : Cl 70368744177664 m) (g : Nat) (f : Nat → Int) (hg : Blk w g 3 (rcells f)) (hB : Bnd 36310271995674624 f) (v : Value) (l : List Int) (hs : SlI w v l) (hop : MtO m f (opn l)) :
    Calls Try.prog 36 #[.pointer (some ⟨b, 0, none⟩), .slice (some ⟨g, 0, none⟩) 60 60, v] w fun e w' => ∃ u, e = .returned (.tuple #[u, .bool true]) ∧ Below w.heap.size w w' := by
  have Hz := Lib.hid hz
  have HC := Lib.hid hcl
  have HR := Lib.hid (hcl.rng (by omega))
  have H0 := Lib.hid (einv_start hop hB)
  have c0 := (hg.cell 0).trans (rcells_get f (by omega))
  have Hg := Lib.hid hg
  obtain ⟨a0, cap, rfl, hl, hcell⟩ := hs
  have Hc := Lib.hid hcell
  have hmk := makeB60
  clear hz hcl hg hcell hop hB
  go_enter Try.func36, Try.ntmps36
  go_wp2_with fail
  clear c0
  refine (withA_any _ g f Hg.out 0 (by omega) (f 0)).mono ?_
  rintro e w1 ⟨g1, rfl, hg1, hgl1, b1⟩
  have hg1' := hg1.eq (show rcells (putF f 0 (f 0)) = rcells f from rcells_congr fun q _ => by unfold putF; split <;> simp_all)
  have hgl := hg1.lt
  clear hg1
  have Hg1 := Lib.hid hg1'
  clear hg1'
  go_wp2
  clear hmk
  have hsz1 := b1.size
  have hne1 : ¬ g1 = w1.heap.size := by omega
  have hne2 : ¬ w1.heap.size = g1 := by omega
  go_loopw [10] (fun t wr => ∃ k : Nat, k ≤ l.length ∧ t = .int .i64 k ∧ Blk wr g1 3 (rcells f) ∧ Blk wr w1.heap.size 4 (bcells (opn (l.take k))) ∧ Below w.heap.size w wr) (fun t _ => l.length - (intOf t).toNat)
  case atStart => exact ⟨0, by omega, rfl, Hg1.out.alloc _, Blk.new _ _ _, bAl b1 _⟩
  case round =>
    obtain ⟨k, hk, rfl, hgf, hop, hbel⟩ := hrel
    by_cases hlk : k < l.length
    · obtain ⟨x, hx⟩ : ∃ x, l[k]? = some x := ⟨_, List.getElem?_eq_getElem hlk⟩
      obtain ⟨bb, off, rfl, h0⟩ := Hc.out k x hx
      rw [← hbel.cell (World.block_lt_of_cell? w _ h0)] at h0
      have Ho := Lib.hid (opn_take hx)
      have hlk' : (k : Int) < (l.length : Int) := by omega
      clear hx
      by_cases hout : x < 1 ∨ 60 ≤ x
      · have hop' : Blk wr w1.heap.size 4 (bcells (opn (l.take (k + 1)))) := hop.eq (bcells_congr fun q _ => by rw [Ho.out q, decide_eq_false (by omega), Bool.or_false])
        have Hgf := Lib.hid hgf
        have Hop := Lib.hid hop'
        clear hop hgf hop'
        by_cases h1 : x < 1
        · clear hout
          go_wp2
          go_roundw
          case rel => exact ⟨k + 1, by omega, by go_num, Hgf.out, Hop.out, hbel⟩
          case measure => simp [intOf]; omega
        · have h2 : 60 ≤ x := by omega
          clear hout
          go_wp2
          go_roundw
          case rel => exact ⟨k + 1, by omega, by go_num, Hgf.out, Hop.out, hbel⟩
          case measure => simp [intOf]; omega
      · obtain ⟨p, rfl⟩ := Int.eq_ofNat_of_zero_le (show 0 ≤ x by omega)
        have hp : p < 60 := by omega
        have hp1 : 1 ≤ (p : Int) := by omega
        have hp2 : (p : Int) < 60 := by omega
        have c1 := (hop.cell p).trans (bcells_get _ hp)
        have f1 := hop.frozen p
        have Hop := Lib.hid hop
        have Hgf := Lib.hid hgf
        clear hop hgf hout
        go_wp2
        go_roundw
        case rel =>
          refine ⟨k + 1, by omega, by go_num, Hgf.out.set_other _ _ _ hne1, (Hop.out.set _ _).eq ?_, hbel.setCell (p := ⟨w1.heap.size, _, none⟩) hsz1 _⟩
          rw [bcells_set _ hp]
          exact bcells_congr fun q _ => by
            rw [Ho.out q]
            by_cases e : q = p
            · rw [if_pos e, decide_eq_true (by omega), Bool.or_true]
            · rw [if_neg e, decide_eq_false (by omega), Bool.or_false]
        case measure => simp [intOf]; omega
    · obtain rfl : k = l.length := by omega
      rw [List.take_length] at hop
      have Hop := Lib.hid hop
      have Hgf := Lib.hid hgf
      clear hop hgf
      go_wp2
      go_loopw [11] (fun t wr => ∃ (n : Nat) (f : Nat → Int) (op : Nat → Bool), n ≤ 60 ∧ t = .int .i64 n ∧ Blk wr g1 3 (rcells f) ∧ Blk wr w1.heap.size 4 (bcells op) ∧ Below w.heap.size w wr ∧ EInv m n f op) (fun t _ => 60 - (intOf t).toNat)
      case atStart => exact ⟨1, f, opn l, by omega, rfl, Hgf.out, Hop.out, hbel, H0.out⟩
      case round =>
        clear hbel
        obtain ⟨n, f, op, hn, rfl, hgf, hop, hbel, hinv⟩ := hrel
        have HI := Lib.hid hinv
        clear hinv
        by_cases hn60 : n < 60
        · have hn60' : (n : Int) < 60 := by omega
          have c1 := (hop.cell n).trans (bcells_get _ hn60)
          have Hop := Lib.hid hop
          have Hgf := Lib.hid hgf
          clear hop hgf
          cases hopn : op n with
          | false =>
            rw [hopn] at c1
            have HO := Lib.hid hopn
            clear hopn
            go_wp2
            go_roundw
            case rel => exact ⟨n + 1, f, op, by omega, by go_num, Hgf.out, Hop.out, hbel, HI.out.skip HO.out⟩
            case measure => simp [intOf]; omega
          | true =>
            rw [hopn] at c1
            have HO := Lib.hid hopn
            clear hopn
            go_wp2
            clear c1
            go_loopw [12, 13, 14] (fun lo hi t wr => ∃ q : Nat, q ≤ 60 ∧ t = .int .i64 q ∧ lo = .int .i64 (loS m f op n q) ∧ hi = .int .i64 (hiS m f op n q) ∧ Blk wr g1 3 (rcells f) ∧ Blk wr w1.heap.size 4 (bcells op) ∧ Below w.heap.size w wr) (fun _ _ t _ => 60 - (intOf t).toNat)
            case atStart => exact ⟨0, by omega, rfl, rfl, rfl, Hgf.out, Hop.out, hbel⟩
            case round =>
              clear hbel
              obtain ⟨q, hq, rfl, rfl, rfl, hgf, hop, hbel⟩ := hrel
              by_cases hq60 : q < 60
              · have hq60' : (q : Int) < 60 := by omega
                by_cases hqn : q = n
                · have hqe : ((q : Int) == (n : Int)) = true := by rw [beq_iff_eq]; omega
                  have E1 := Lib.hid (hiS_same (m := m) (f := f) (Or.inl (Or.inl (a := q = n) (b := op q = true) hqn)))
                  have E2 := Lib.hid (loS_same (m := m) (f := f) (Or.inl (Or.inl (a := q = n) (b := op q = true) hqn)))
                  have HQ := Lib.hid hqn
                  have Hop := Lib.hid hop
                  have Hgf := Lib.hid hgf
                  clear hqn hop hgf
                  go_wp2
                  go_roundw
                  case rel => exact ⟨q + 1, by omega, by go_num, by rw [E2.out], by rw [E1.out], Hgf.out, Hop.out, hbel⟩
                  case measure => simp [intOf]; omega
                · have hqe : ((q : Int) == (n : Int)) = false := by rw [beq_eq_false_iff_ne]; omega
                  have c1 := (hop.cell q).trans (bcells_get _ hq60)
                  cases hopq : op q with
                  | true =>
                    rw [hopq] at c1
                    have E1 := Lib.hid (hiS_same (m := m) (f := f) (Or.inl (Or.inr (a := q = n) (b := op q = true) hopq)))
                    have E2 := Lib.hid (loS_same (m := m) (f := f) (Or.inl (Or.inr (a := q = n) (b := op q = true) hopq)))
                    have HQ := Lib.hid hqn
                    have Hop := Lib.hid hop
                    have Hgf := Lib.hid hgf
                    clear hqn hop hgf hopq
                    go_wp2
                    go_roundw
                    case rel => exact ⟨q + 1, by omega, by go_num, by rw [E2.out], by rw [E1.out], Hgf.out, Hop.out, hbel⟩
                    case measure => simp [intOf]; omega
                  | false =>
                    rw [hopq] at c1
                    have bf := HI.out.big hn q hq60
                    have ru := HR.out n q hn60 hq60
                    have rd := HR.out q n hq60 hn60
                    have bf1 := bf.1
                    have bf2 := bf.2
                    clear bf
                    have hup : (Hid (bndZ ⟨false, m⟩ (n : Int) (q : Int) = (false, 0)) ∧ Hid (hiS m f op n (q + 1) = hiS m f op n q) ∧ (0 : Int) ≤ 0) ∨
                        (Hid (bndZ ⟨false, m⟩ (n : Int) (q : Int) = (true, m n q)) ∧ Hid (hiS m f op n (q + 1) = f q + m n q) ∧ f q + m n q < hiS m f op n q) ∨
                        (Hid (bndZ ⟨false, m⟩ (n : Int) (q : Int) = (true, m n q)) ∧ Hid (hiS m f op n (q + 1) = hiS m f op n q) ∧ ¬ f q + m n q < hiS m f op n q) := by
                      by_cases e : m n q = 2305843009213693952
                      · exact Or.inl ⟨bndZ_none hn60 hq60 e, hiS_same (Or.inr (Or.inl e)), Int.le_refl _⟩
                      · by_cases e2 : f q + m n q < hiS m f op n q
                        · exact Or.inr (Or.inl ⟨bndZ_some hn60 hq60 e, hiS_low hqn hopq e e2, e2⟩)
                        · exact Or.inr (Or.inr ⟨bndZ_some hn60 hq60 e, hiS_same (Or.inr (Or.inr e2)), e2⟩)
                    have hdn : (Hid (bndZ ⟨false, m⟩ (q : Int) (n : Int) = (false, 0)) ∧ Hid (loS m f op n (q + 1) = loS m f op n q) ∧ (0 : Int) ≤ 0) ∨
                        (Hid (bndZ ⟨false, m⟩ (q : Int) (n : Int) = (true, m q n)) ∧ Hid (loS m f op n (q + 1) = f q - m q n) ∧ loS m f op n q < f q - m q n) ∨
                        (Hid (bndZ ⟨false, m⟩ (q : Int) (n : Int) = (true, m q n)) ∧ Hid (loS m f op n (q + 1) = loS m f op n q) ∧ ¬ loS m f op n q < f q - m q n) := by
                      by_cases e : m q n = 2305843009213693952
                      · exact Or.inl ⟨bndZ_none hq60 hn60 e, loS_same (Or.inr (Or.inl e)), Int.le_refl _⟩
                      · by_cases e2 : loS m f op n q < f q - m q n
                        · exact Or.inr (Or.inl ⟨bndZ_some hq60 hn60 e, loS_high hqn hopq e e2, e2⟩)
                        · exact Or.inr (Or.inr ⟨bndZ_some hq60 hn60 e, loS_same (Or.inr (Or.inr e2)), e2⟩)
                    have Hop := Lib.hid hop
                    have Hgf := Lib.hid hgf
                    have HQ := Lib.hid hqn
                    clear hqn hop hgf hopq
                    have ru1 := ru.1
                    have ru2 : m n q ≤ 2305843009213693952 := by omega
                    have rd1 := rd.1
                    have rd2 : m q n ≤ 2305843009213693952 := by omega
                    clear ru rd
                    rcases hup with ⟨HU, E1, cu⟩ | ⟨HU, E1, cu⟩ | ⟨HU, E1, cu⟩ <;> rcases hdn with ⟨HD, E2, cd⟩ | ⟨HD, E2, cd⟩ | ⟨HD, E2, cd⟩
                    all_goals
                      go_wp2_with fail
                      clear c1
                      refine (bound_any _ b ⟨false, m⟩ (ZAt.below Hz.out hbel Hz.out.lt) n q).mono ?_
                      rintro e w2 ⟨rfl, b2⟩
                      rw [HU.out]
                      have t2 := hbel.trans (b2.mono hbel.size)
                      have Hgf2 := Lib.hid (Hgf.out.below b2 Hgf.out.lt)
                      have Hop2 := Lib.hid (Hop.out.below b2 Hop.out.lt)
                      go_wp2_with fail
                      refine (bound_any _ b ⟨false, m⟩ (ZAt.below Hz.out (bAl t2 _) Hz.out.lt) q n).mono ?_
                      rintro e w3 ⟨rfl, b3⟩
                      rw [HD.out]
                      have hg3 := (Hgf2.out.alloc _).below b3 (Hgf2.out.alloc _).lt
                      have ho3 := (Hop2.out.alloc _).below b3 (Hop2.out.alloc _).lt
                      have t3 := (bAl t2 _).trans (b3.mono (bAl t2 _).size)
                      have cq := (hg3.cell q).trans (rcells_get f hq60)
                      have U3 := (Blk.new w2 28 _).below b3 (Blk.lt (Blk.new _ _ _))
                      have cu0 := U3.cell 0
                      have cu1 := U3.cell 1
                      simp only [List.getElem?_toArray, List.getElem?_cons_zero, List.getElem?_cons_succ] at cu0 cu1
                      have U3l := U3.lt
                      clear U3
                      have hg3l := hg3.lt
                      have Hg3 := Lib.hid hg3
                      have Ho3 := Lib.hid ho3
                      clear hg3 ho3 Hgf2 Hop2
                      go_wp2
                      go_quiet (fail)
                      go_wp2
                      try (go_quiet (fail))
                      go_wp2
                      try (go_quiet (fail))
                      go_wp2
                      try (go_quiet (fail))
                      go_wp2
                      go_roundw
                      case rel => exact ⟨q + 1, by omega, by go_num, by rw [E2.out], by rw [E1.out], Hg3.out.alloc _, Ho3.out.alloc _, bDraw (bAl t3 _) _⟩
                      case measure => simp [intOf]; omega
              · obtain rfl : q = 60 := by omega
                have HS := Lib.hid (HI.out.step HC.out hn60)
                have hle := HI.out.le HC.out hn60
                have c1 := (hgf.cell n).trans (rcells_get _ hn60)
                have f1 := hgf.frozen n
                have c2 := (hop.cell n).trans (bcells_get _ hn60)
                have f2 := hop.frozen n
                have hgw : w.heap.size ≤ g1 := hgl1
                have hval : (newV (loS m f op n 60) (hiS m f op n 60) = loS m f op n 60 ∧ -1152921504606846976 < loS m f op n 60) ∨ (newV (loS m f op n 60) (hiS m f op n 60) = hiS m f op n 60 ∧ ¬ -1152921504606846976 < loS m f op n 60 ∧ hiS m f op n 60 < 1152921504606846976) ∨
                    (newV (loS m f op n 60) (hiS m f op n 60) = 0 ∧ ¬ -1152921504606846976 < loS m f op n 60 ∧ ¬ hiS m f op n 60 < 1152921504606846976) := by
                  unfold newV
                  by_cases e1 : -1152921504606846976 < loS m f op n 60
                  · exact Or.inl ⟨if_pos e1, e1⟩
                  · by_cases e2 : hiS m f op n 60 < 1152921504606846976
                    · exact Or.inr (Or.inl ⟨by rw [if_neg e1, if_pos e2], e1, e2⟩)
                    · exact Or.inr (Or.inr ⟨by rw [if_neg e1, if_neg e2], e1, e2⟩)
                have Hop := Lib.hid hop
                have Hgf := Lib.hid hgf
                have hcl : ∀ k, k < 60 → (if k = n then false else op k) = clo op n k := fun k _ => rfl
                have Hcl := Lib.hid hcl
                clear hop hgf hcl
                rcases hval with ⟨ev, d1⟩ | ⟨ev, d1, d2⟩ | ⟨ev, d1, d2⟩
                all_goals
                  have EV := Lib.hid ev
                  clear ev
                  go_wp2
                  go_roundw
                · case rel =>
                    refine ⟨n + 1, _, _, by omega, by go_num, ?_, ?_, ?_, HS.out⟩
                    · refine (((Hgf.out.set _ _).set _ _).set_other _ _ _ hne1).eq ?_
                      rw [rcells_set _ hn60, rcells_set _ hn60]
                      exact rcells_congr fun k _ => by unfold putF; rw [EV.out]; split <;> rfl
                    · exact (((Hop.out.set_other _ _ _ hne2).set_other _ _ _ hne2).set _ _).eq ((bcells_set _ hn60 _).trans (bcells_congr Hcl.out))
                    · exact ((hbel.setCell (p := ⟨g1, _, none⟩) hgw _).setCell (p := ⟨g1, _, none⟩) hgw _).setCell (p := ⟨w1.heap.size, _, none⟩) hsz1 _
                · case measure => simp [intOf]; omega
                · case rel =>
                    refine ⟨n + 1, _, _, by omega, by go_num, ?_, ?_, ?_, HS.out⟩
                    · refine (((Hgf.out.set _ _).set _ _).set_other _ _ _ hne1).eq ?_
                      rw [rcells_set _ hn60, rcells_set _ hn60]
                      exact rcells_congr fun k _ => by unfold putF; rw [EV.out]; split <;> rfl
                    · exact (((Hop.out.set_other _ _ _ hne2).set_other _ _ _ hne2).set _ _).eq ((bcells_set _ hn60 _).trans (bcells_congr Hcl.out))
                    · exact ((hbel.setCell (p := ⟨g1, _, none⟩) hgw _).setCell (p := ⟨g1, _, none⟩) hgw _).setCell (p := ⟨w1.heap.size, _, none⟩) hsz1 _
                · case measure => simp [intOf]; omega
                · case rel =>
                    refine ⟨n + 1, _, _, by omega, by go_num, ?_, ?_, ?_, HS.out⟩
                    · refine ((Hgf.out.set _ _).set_other _ _ _ hne1).eq ?_
                      rw [rcells_set _ hn60]
                      exact rcells_congr fun k _ => by unfold putF; rw [EV.out]
                    · exact ((Hop.out.set_other _ _ _ hne2).set _ _).eq ((bcells_set _ hn60 _).trans (bcells_congr Hcl.out))
                    · exact (hbel.setCell (p := ⟨g1, _, none⟩) hgw _).setCell (p := ⟨w1.heap.size, _, none⟩) hsz1 _
                · case measure => simp [intOf]; omega
        · obtain rfl : n = 60 := by omega
          have Hmt := Lib.hid (HI.out.all.meets)
          have hb60 := HI.out.big hn
          have Hgf := Lib.hid hgf
          have Hop := Lib.hid hop
          clear hgf hop
          go_wp2_with fail
          refine (meets_any _ b ⟨false, m⟩ (ZAt.below Hz.out hbel Hz.out.lt) HR.out g1 f Hgf.out (fun k hk => by have := hb60 k hk; unfold I64; omega)).mono ?_
          rintro e w9 ⟨rfl, b9⟩
          rw [Hmt.out]
          go_wp2
          go_ret2
          exact ⟨_, rfl, hbel.trans (b9.mono hbel.size)⟩

end Go.Proofs.YtfpbjjdlchplnaaR
