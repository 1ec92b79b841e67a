/- meets of the law: whether numbers meet each bound of a zone; nothing that was there is turned. -/
import Derived.Test.YtfpbjjdlchplnaaRBackP
import Derived.Test.YtfpbjjdlchplnaaRMet
namespace Go.Proofs.YtfpbjjdlchplnaaR
open Go Go.RowKit Go.Wr
set_option maxHeartbeats 2000000
set_option maxRecDepth 100000

def metAll (l : List Cn) (f : Nat → Int) : Bool := l.all fun x => !decide (x.c < f x.i.toNat - f x.j.toNat)
def meetsB (z : Zn) (f : Nat → Int) : Bool := !z.e && metAll (consL z.m 60) f

theorem metAll_drop {l : List Cn} {f : Nat → Int} {k : Nat} {x : Cn} (h : l[k]? = some x) : metAll (l.drop k) f = (!decide (x.c < f x.i.toNat - f x.j.toNat) && metAll (l.drop (k + 1)) f) := by
  obtain ⟨hk, rfl⟩ := List.getElem?_eq_some_iff.1 h
  rw [List.drop_eq_getElem_cons hk]
  rfl

theorem ret_bool {a b : Bool} (h : a = b) : Ending.returned (.bool a) = .returned (.bool b) := by rw [h]

theorem meets_any (w : World) (b : Nat) (z : Zn) (hz : ZAt w b z) (hr : Rng z.m) (g : Nat) (f : Nat → Int) (hg : Blk w g 3 (rcells f)) (hf : ∀ q, q < 60 → I64 (f q)) :
    Calls Try.prog 33 #[.pointer (some ⟨b, 0, none⟩), .slice (some ⟨g, 0, none⟩) 60 60] w fun e w' => e = .returned (.bool (meetsB z f)) ∧ Below w.heap.size w w' := by
  obtain ⟨e, m⟩ := z
  have Hz := Lib.hid hz
  have Hg := Lib.hid hg
  have hin : ∀ x ∈ consL m 60, (0 ≤ x.i ∧ x.i < 60) ∧ (0 ≤ x.j ∧ x.j < 60) ∧ -2305843009213693952 ≤ x.c ∧ x.c ≤ 2305843009213693952 := fun x hx => by
    obtain ⟨i, j, hi, hj, _, hb, rfl⟩ := mem_consL.1 hx
    have : -1152921504606846976 ≤ m i j ∧ (m i j ≤ 1152921504606846976 ∨ m i j = 2305843009213693952) := hr i j hi hj
    simp only
    omega
  have Hin := Lib.hid hin
  have hcl := consL_len m 60
  clear hz hg hin hr
  cases e with
  | true =>
    go_enter Try.func33, Try.ntmps33
    go_wp2_with fail
    refine (empty_any _ b _ Hz.out).mono ?_
    rintro e w1 ⟨rfl, rfl⟩
    go_wp2
    go_ret
    exact ⟨rfl, bRefl _⟩
  | false =>
    have hm : meetsB ⟨false, m⟩ f = metAll (consL m 60) f := by unfold meetsB; simp
    rw [hm]
    clear hm
    obtain ⟨L, HL⟩ : ∃ L, Hid (L = consL m 60) := ⟨_, rfl⟩
    rw [← HL.out] at Hin hcl ⊢
    go_enter Try.func33, Try.ntmps33
    go_wp2_with fail
    refine (empty_any _ b _ Hz.out).mono ?_
    rintro e w1 ⟨rfl, rfl⟩
    go_wp2_with fail
    refine (cons_any _ b _ Hz.out).mono ?_
    rintro e w1 ⟨v1, rfl, n1, b1⟩
    simp only at n1
    rw [← HL.out] at n1
    have sl1 := n1.sl3 (by omega)
    have G1 := Lib.hid (Blk.below Hg.out b1 Hg.out.lt)
    clear n1
    obtain ⟨a0, cap, rfl, hl, hc⟩ := sl1
    have Hc := Lib.hid hc
    clear hc
    have B1 := Lib.hid b1
    clear b1
    go_wp2
    go_loopw [6] (fun t wr => ∃ k : Nat, k ≤ L.length ∧ t = .int .i64 k ∧ Hid (metAll L f = metAll (L.drop k) f) ∧ Below w1.heap.size w1 wr) (fun t _ => L.length - (intOf t).toNat)
    case atStart => exact ⟨0, by omega, rfl, rfl, bRefl _⟩
    case round =>
      obtain ⟨k, hk, rfl, hd, hbel⟩ := hrel
      by_cases hlt : k < L.length
      · obtain ⟨bb, off, xi, xj, xc, hx, rfl, hbl, h0, h1, h2⟩ := Sl3.at Hc.out hbel hlt
        have hk1 : (k : Int) < (L.length : Int) := by omega
        obtain ⟨hxi, hxj, hxc1, hxc2⟩ := Hin.out _ (List.mem_of_getElem? hx)
        have Hd := Lib.hid (metAll_drop (f := f) hx)
        simp only at hxi hxj hxc1 hxc2
        obtain ⟨ni, rfl⟩ := Int.eq_ofNat_of_zero_le hxi.1
        obtain ⟨nj, rfl⟩ := Int.eq_ofNat_of_zero_le hxj.1
        have hi60 : (ni : Int) < 60 := hxi.2
        have hj60 : (nj : Int) < 60 := hxj.2
        have hgr := Blk.below G1.out hbel G1.out.lt
        have ci := (hgr.cell ni).trans (rcells_get f (by omega))
        have cj := (hgr.cell nj).trans (rcells_get f (by omega))
        have fi := hf ni (by omega)
        have fj := hf nj (by omega)
        simp only [Int.toNat_natCast] at Hd
        clear hgr hxi hxj hx
        cases hq : decide (xc < f ni - f nj) with
        | true =>
          rw [hq] at Hd
          go_wp2
          go_quiet ((go_at_call 42; exact Calls.quiet_of_same (beyond_eq _ _ _ _ fi fj (by omega) (by omega))))
          go_wp2
          go_ret
          exact ⟨ret_bool (by rw [hd.out, Hd.out]; rfl), bDraw (bThen B1.out hbel) _⟩
        | false =>
          rw [hq] at Hd
          go_wp2
          go_quiet ((go_at_call 42; exact Calls.quiet_of_same (beyond_eq _ _ _ _ fi fj (by omega) (by omega))))
          go_wp2
          go_roundw
          case rel => exact ⟨k + 1, by omega, by go_num, by show _ = _; rw [hd.out, Hd.out]; rfl, bDraw hbel _⟩
          case measure => simp [intOf]; omega
      · obtain rfl : k = L.length := by omega
        go_wp2
        go_ret
        exact ⟨ret_bool (by rw [hd.out, List.drop_length]; rfl), bThen B1.out hbel⟩

end Go.Proofs.YtfpbjjdlchplnaaR
