/- wrong and With of zone, over any list of bounds that can be read; nothing that was there is turned. -/
import Derived.Test.YtlcmfpfmjkpfoaaAndMore
namespace Go.Proofs.Ytlcmfpfmjkpfoaa
open Go Go.RowKit Go.Wr
set_option maxHeartbeats 1000000

/-- A bound c of i less j, as it is told. -/
structure Cn where
  i : Int
  j : Int
  c : Int

/-- The value v is a slice whose elements are the bounds l. -/
def Sl3 (w : World) (v : Value) (l : List Cn) : Prop :=
  ∃ a0 cap, v = .slice a0 l.length cap ∧ l.length ≤ 9223372036854775807 ∧
    ∀ k x, l[k]? = some x → ∃ b off, a0 = some ⟨b, off, none⟩ ∧ w.cell? ⟨b, off + k * 3, none⟩ = some (.int .i64 x.i) ∧ w.cell? ⟨b, off + k * 3 + 1, none⟩ = some (.int .i64 x.j) ∧ w.cell? ⟨b, off + k * 3 + 2, none⟩ = some (.int .i64 x.c)

theorem Sl3.below {w w' : World} {v : Value} {l : List Cn} (h : Sl3 w v l) (hb : Below w.heap.size w w') : Sl3 w' v l := by
  obtain ⟨a0, cap, hv, hl, hc⟩ := h
  refine ⟨a0, cap, hv, hl, fun k x hx => ?_⟩
  obtain ⟨b, off, ha, h0, h1, h2⟩ := hc k x hx
  have hlt := World.block_lt_of_cell? w _ h0
  exact ⟨b, off, ha, (hb.cell hlt).trans h0, (hb.cell (p := ⟨b, off + k * 3 + 1, none⟩) hlt).trans h1, (hb.cell (p := ⟨b, off + k * 3 + 2, none⟩) hlt).trans h2⟩

def fineC (x : Cn) : Bool := vr x.i && vr x.j && bd x.c
/-- The first fault of a list of bounds. -/
def wrongL : List Cn → Int
  | [] => 0
  | x :: r => if vr x.i && vr x.j then (if bd x.c then wrongL r else 51) else 50

theorem wrongL_drop {l : List Cn} {k : Nat} {x : Cn} (h : l[k]? = some x) : wrongL (l.drop k) = if vr x.i && vr x.j then (if bd x.c then wrongL (l.drop (k + 1)) else 51) else 50 := by
  obtain ⟨hk, rfl⟩ := List.getElem?_eq_some_iff.1 h
  rw [List.drop_eq_getElem_cons hk]
  rfl

theorem wrongL_ok {l : List Cn} (h : wrongL l = 0) : ∀ x ∈ l, vr x.i = true ∧ vr x.j = true ∧ bd x.c = true := by
  induction l with
  | nil => intro x hx; cases hx
  | cons y r ih =>
    intro x hx
    unfold wrongL at h
    by_cases h1 : (vr y.i && vr y.j) = true
    · rw [if_pos h1] at h
      by_cases h2 : bd y.c = true
      · rw [if_pos h2] at h
        rcases List.mem_cons.1 hx with rfl | hx
        · simp only [Bool.and_eq_true] at h1; exact ⟨h1.1, h1.2, h2⟩
        · exact ih h x hx
      · rw [if_neg h2] at h; omega
    · rw [if_neg h1] at h; omega

theorem wrong_any (w : World) (v : Value) (l : List Cn) (hs : Sl3 w v l) :
    Calls Try.prog 31 #[v] w fun e w' => e = .returned (.int .i64 (wrongL l)) ∧ Below w.heap.size w w' := by
  obtain ⟨a0, cap, rfl, hl, hcell⟩ := hs
  have Hc := Lib.hid hcell
  clear hcell
  go_enter Try.func31, Try.ntmps31
  go_wp2
  go_loopw [7] (fun t wr => ∃ k : Nat, k ≤ l.length ∧ t = .int .i64 k ∧ Hid (wrongL l = wrongL (l.drop k)) ∧ Below w.heap.size w wr) (fun t _ => l.length - (intOf t).toNat)
  case atStart => exact ⟨0, by omega, rfl, rfl, Below.refl _ _⟩
  case round =>
    obtain ⟨k, hk, rfl, hw, hbel⟩ := hrel
    by_cases hlt : k < l.length
    · obtain ⟨x, hx⟩ : ∃ x, l[k]? = some x := ⟨_, List.getElem?_eq_getElem hlt⟩
      obtain ⟨b, off, rfl, h0, h1, h2⟩ := Hc.out k x hx
      have hblt := World.block_lt_of_cell? w _ h0
      rw [← hbel.cell hblt] at h0
      rw [← hbel.cell (p := ⟨b, off + k * 3 + 1, none⟩) hblt] at h1
      rw [← hbel.cell (p := ⟨b, off + k * 3 + 2, none⟩) hblt] at h2
      have hd := wrongL_drop hx
      obtain ⟨xi, xj, xc⟩ := x
      simp only at h0 h1 h2 hd
      have Hd := Lib.hid hd
      clear hd hx
      have hb2 : b < wr.heap.size := Nat.lt_of_lt_of_le hblt hbel.size
      cases hvi : vr xi with
      | false =>
        go_wp2_with (go_at_call 23; refine (isVar_any _ _).mono ?_; rintro e w1 ⟨rfl, rfl⟩)
        go_ret
        refine ⟨ret_int ?_, hbel.alloc hbel.size _⟩
        rw [hw.out, Hd.out, hvi]; rfl
      | true =>
        cases hvj : vr xj with
        | false =>
          go_wp2_with (go_at_call 23; refine (isVar_any _ _).mono ?_; rintro e w1 ⟨rfl, rfl⟩)
          go_ret
          refine ⟨ret_int ?_, hbel.alloc hbel.size _⟩
          rw [hw.out, Hd.out, hvi, hvj]; rfl
        | true =>
          cases hbc : bd xc with
          | false =>
            go_wp2_with (first | (go_at_call 23; refine (isVar_any _ _).mono ?_; rintro e w1 ⟨rfl, rfl⟩) | (go_at_call 33; refine (isBound_any _ _).mono ?_; rintro e w1 ⟨rfl, rfl⟩))
            go_ret
            refine ⟨ret_int ?_, hbel.alloc hbel.size _⟩
            rw [hw.out, Hd.out, hvi, hvj, hbc]; rfl
          | true =>
            go_wp2_with (first | (go_at_call 23; refine (isVar_any _ _).mono ?_; rintro e w1 ⟨rfl, rfl⟩) | (go_at_call 33; refine (isBound_any _ _).mono ?_; rintro e w1 ⟨rfl, rfl⟩))
            go_roundw
            case rel =>
              refine ⟨k + 1, by omega, by go_num, ?_, hbel.alloc hbel.size _⟩
              show _ = _
              rw [hw.out, Hd.out, hvi, hvj, hbc]; rfl
            case measure => simp [intOf]; omega
    · obtain rfl : k = l.length := by omega
      go_wp2
      go_ret
      refine ⟨ret_int ?_, hbel⟩
      rw [hw.out, List.drop_length]; rfl

/-- P5.2: bounds added one after the other. -/
def zwith (z : Zn) (l : List Cn) : Zn := l.foldl (fun z x => zand z x.i.toNat x.j.toNat x.c) z

theorem zwith_rng {l : List Cn} : ∀ {z : Zn}, Rng z.m → Rng (zwith z l).m := by
  induction l with
  | nil => intro z h; exact h
  | cons x r ih => intro z h; exact ih (zand_rng h _ _ _)

theorem zwith_take {z : Zn} {l : List Cn} {k : Nat} {x : Cn} (h : l[k]? = some x) : zwith z (l.take (k + 1)) = zand (zwith z (l.take k)) x.i.toNat x.j.toNat x.c := by
  obtain ⟨hk, rfl⟩ := List.getElem?_eq_some_iff.1 h
  rw [List.take_succ_eq_append_getElem hk]
  unfold zwith
  rw [List.foldl_append]
  rfl

theorem vr_iff {v : Int} : vr v = true ↔ 0 ≤ v ∧ v < 60 := by unfold vr; simp
theorem bd_iff {v : Int} : bd v = true ↔ -1152921504606846976 ≤ v ∧ v ≤ 1152921504606846976 := by unfold bd; simp

def RetZE (w : World) (z : Zn) (e : Ending) (w' : World) : Prop := ∃ b, e = .returned (.tuple #[.pointer (some ⟨b, 0, none⟩), .int .i64 0]) ∧ ZAt w' b z ∧ Below w.heap.size w w'

theorem with_bad (w : World) (zp : Value) (v : Value) (l : List Cn) (hs : Sl3 w v l) (hw : wrongL l ≠ 0) :
    Calls Try.prog 19 #[zp, v] w fun e w' => e = .returned (.tuple #[.pointer none, .int .i64 (wrongL l)]) ∧ Below w.heap.size w w' := by
  have hb : (wrongL l != 0) = true := by rw [bne_iff_ne]; exact hw
  go_enter Try.func19, Try.ntmps19
  go_wp2_with (go_at_call 31; refine (wrong_any _ _ _ hs).mono ?_; rintro e w1 ⟨rfl, hbel⟩)
  go_ret2
  exact ⟨rfl, hbel⟩

theorem with_ok (w : World) (b0 : Nat) (z : Zn) (hz : ZAt w b0 z) (hr : Rng z.m) (v : Value) (l : List Cn) (hs : Sl3 w v l) (hw : wrongL l = 0) :
    Calls Try.prog 19 #[.pointer (some ⟨b0, 0, none⟩), v] w (RetZE w (zwith z l)) := by
  have hs' := hs
  obtain ⟨a0, cap, rfl, hl, hcell⟩ := hs
  have Hc := Lib.hid hcell
  have Hs := Lib.hid hs'
  have Hw := Lib.hid hw
  have Hz := Lib.hid hz
  clear hcell hs' hw hz
  go_enter Try.func19, Try.ntmps19
  go_wp2_with (go_at_call 31; refine (wrong_any _ _ _ Hs.out).mono ?_; rintro e w1 ⟨rfl, hbel⟩; rw [Hw.out])
  go_loopw [7, 18] (fun u t wr => ∃ k b : Nat, k ≤ l.length ∧ t = .int .i64 k ∧ u = .pointer (some ⟨b, 0, none⟩) ∧ ZAt wr b (zwith z (l.take k)) ∧ Below w.heap.size w wr) (fun _ t _ => l.length - (intOf t).toNat)
  case atStart => exact ⟨0, b0, by omega, rfl, rfl, ZAt.below Hz.out hbel Hz.out.lt, hbel⟩
  case round =>
    obtain ⟨k, bz, hk, rfl, rfl, hzk, hbel⟩ := hrel
    by_cases hlt : k < l.length
    · obtain ⟨x, hx⟩ : ∃ x, l[k]? = some x := ⟨_, List.getElem?_eq_getElem hlt⟩
      obtain ⟨b, off, rfl, h0, h1, h2⟩ := Hc.out k x hx
      have hblt := World.block_lt_of_cell? w _ h0
      rw [← hbel.cell hblt] at h0
      rw [← hbel.cell (p := ⟨b, off + k * 3 + 1, none⟩) hblt] at h1
      rw [← hbel.cell (p := ⟨b, off + k * 3 + 2, none⟩) hblt] at h2
      have ht := zwith_take (z := z) hx
      have hfin := wrongL_ok Hw.out x (List.mem_of_getElem? hx)
      obtain ⟨xi, xj, xc⟩ := x
      simp only at h0 h1 h2 ht hfin
      obtain ⟨hi, hj, hc⟩ := hfin
      have Ht := Lib.hid ht
      clear ht hx
      rw [vr_iff] at hi hj
      rw [bd_iff] at hc
      obtain ⟨ni, rfl⟩ := Int.eq_ofNat_of_zero_le hi.1
      obtain ⟨nj, rfl⟩ := Int.eq_ofNat_of_zero_le hj.1
      have Hzk := Lib.hid hzk
      have Hr := Lib.hid (zwith_rng (l := l.take k) hr)
      clear hzk
      have hb2 : b < wr.heap.size := Nat.lt_of_lt_of_le hblt hbel.size
      go_wp2_with (go_at_call 32; refine (and_any _ _ _ (Blk.alloc Hzk.out _) Hr.out _ _ _ (by omega) (by omega) (by omega) (by omega)).mono ?_; rintro e w1 ⟨b1, rfl, hz1, hbel1⟩)
      go_roundw
      case rel =>
        refine ⟨k + 1, b1, by omega, by go_num, rfl, ?_, (hbel.alloc hbel.size _).trans (hbel1.mono (by simp; exact Nat.le_succ_of_le hbel.size))⟩
        rw [Ht.out]
        simpa using hz1
      case measure => simp [intOf]; omega
    · obtain rfl : k = l.length := by omega
      go_wp2
      go_ret2
      exact ⟨bz, rfl, by rw [List.take_length] at hzk; exact hzk, hbel⟩

end Go.Proofs.Ytlcmfpfmjkpfoaa
