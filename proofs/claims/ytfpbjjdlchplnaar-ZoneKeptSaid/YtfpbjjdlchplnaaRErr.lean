/- Assign and Put of zone for every argument: the error, or the zone; nothing that was there is turned. -/
import Derived.Test.YtfpbjjdlchplnaaRAssign
import Derived.Test.YtfpbjjdlchplnaaRPut
namespace Go.Proofs.YtfpbjjdlchplnaaR
open Go Go.RowKit Go.Wr
set_option maxHeartbeats 2000000
set_option maxRecDepth 100000

/-- A call has answered the error c, or, where c is 0, a pointer to the zone z; nothing that was there is turned. -/
def RetE (w : World) (c : Int) (z : Zn) (e : Ending) (w' : World) : Prop :=
  Below w.heap.size w w' ∧ ((c ≠ 0 ∧ e = .returned (.tuple #[.pointer none, .int .i64 c])) ∨ (c = 0 ∧ ∃ b, e = .returned (.tuple #[.pointer (some ⟨b, 0, none⟩), .int .i64 0]) ∧ ZAt w' b z))

theorem RetE.bad {w w' : World} {c : Int} {z : Zn} {e : Ending} (hc : c ≠ 0) (he : e = .returned (.tuple #[.pointer none, .int .i64 c])) (hb : Below w.heap.size w w') : RetE w c z e w' := ⟨hb, Or.inl ⟨hc, he⟩⟩
theorem RetE.good {w w' : World} {z : Zn} {e : Ending} (h : RetZE w z e w') : RetE w 0 z e w' := by
  obtain ⟨b, he, hz, hb⟩ := h
  exact ⟨hb, Or.inr ⟨rfl, b, he, hz⟩⟩

def asgE (x y c : Int) : Int := if x < 1 ∨ 60 ≤ x ∨ y < 0 ∨ 60 ≤ y then 50 else if bd c then 0 else 51
def asgZ (z : Zn) (x y c : Int) : Zn := if z.e then z else ⟨false, asgT z.m x.toNat y.toNat c⟩

theorem assign_var (w : World) (b : Nat) (x y c : Int) (h : x < 1 ∨ (1 ≤ x ∧ 60 ≤ x) ∨ (1 ≤ x ∧ x < 60 ∧ vr y = false)) :
    Calls Try.prog 37 #[.pointer (some ⟨b, 0, none⟩), .int .i64 x, .int .i64 y, .int .i64 c] w fun e w' => e = .returned (.tuple #[.pointer none, .int .i64 50]) ∧ Below w.heap.size w w' := by
  rcases h with h | ⟨h, h2⟩ | ⟨h, h2, h3⟩
  · go_enter Try.func37, Try.ntmps37
    go_wp2
    go_ret2
    exact ⟨rfl, bRefl _⟩
  · go_enter Try.func37, Try.ntmps37
    go_wp2
    go_ret2
    exact ⟨rfl, bRefl _⟩
  · have H := Lib.hid h3
    clear h3
    go_enter Try.func37, Try.ntmps37
    go_wp2_with (go_at_call 53; refine (isVar_any _ _).mono ?_; rintro e w1 ⟨rfl, rfl⟩; rw [H.out])
    go_ret2
    exact ⟨rfl, bRefl _⟩

theorem assign_const (w : World) (b : Nat) (x y c : Int) (h1 : 1 ≤ x) (h2 : x < 60) (h3 : vr y = true) (h4 : bd c = false) :
    Calls Try.prog 37 #[.pointer (some ⟨b, 0, none⟩), .int .i64 x, .int .i64 y, .int .i64 c] w fun e w' => e = .returned (.tuple #[.pointer none, .int .i64 51]) ∧ Below w.heap.size w w' := by
  have H3 := Lib.hid h3
  have H4 := Lib.hid h4
  clear h3 h4
  go_enter Try.func37, Try.ntmps37
  go_wp2_with (first
    | (go_at_call 53; refine (isVar_any _ _).mono ?_; rintro e w1 ⟨rfl, rfl⟩; rw [H3.out])
    | (go_at_call 61; refine (isBound_any _ _).mono ?_; rintro e w1 ⟨rfl, rfl⟩; rw [H4.out]))
  go_ret2
  exact ⟨rfl, bRefl _⟩

theorem assign_void (w : World) (b : Nat) (m : Nat → Nat → Int) (hz : ZAt w b ⟨true, m⟩) (x y c : Int) (h1 : 1 ≤ x) (h2 : x < 60) (h3 : vr y = true) (h4 : bd c = true) :
    Calls Try.prog 37 #[.pointer (some ⟨b, 0, none⟩), .int .i64 x, .int .i64 y, .int .i64 c] w (RetZE w ⟨true, m⟩) := by
  have H3 := Lib.hid h3
  have H4 := Lib.hid h4
  have hc := hz.emp
  have Hz := Lib.hid hz
  simp only at hc
  clear h3 h4 hz
  go_enter Try.func37, Try.ntmps37
  go_wp2_with (first
    | (go_at_call 53; refine (isVar_any _ _).mono ?_; rintro e w1 ⟨rfl, rfl⟩; rw [H3.out])
    | (go_at_call 61; refine (isBound_any _ _).mono ?_; rintro e w1 ⟨rfl, rfl⟩; rw [H4.out]))
  go_ret2
  exact ⟨b, rfl, Hz.out, bRefl _⟩

theorem assign_any (w : World) (b : Nat) (z : Zn) (hz : ZAt w b z) (hr : Rng z.m) (x y c : Int) :
    Calls Try.prog 37 #[.pointer (some ⟨b, 0, none⟩), .int .i64 x, .int .i64 y, .int .i64 c] w (RetE w (asgE x y c) (asgZ z x y c)) := by
  by_cases hv : x < 1 ∨ 60 ≤ x ∨ y < 0 ∨ 60 ≤ y
  · have e : asgE x y c = 50 := by unfold asgE; rw [if_pos hv]
    rw [e]
    refine (assign_var w b x y c ?_).mono fun e w' ⟨h, hb⟩ => RetE.bad (by omega) h hb
    by_cases h1 : x < 1
    · exact Or.inl h1
    · by_cases h2 : 60 ≤ x
      · exact Or.inr (Or.inl ⟨by omega, h2⟩)
      · refine Or.inr (Or.inr ⟨by omega, by omega, ?_⟩)
        unfold vr; simp; omega
  · have hvy : vr y = true := vr_iff.2 (by omega)
    cases hb : bd c with
    | false =>
      have e : asgE x y c = 51 := by unfold asgE; rw [if_neg hv, hb]; rfl
      rw [e]
      exact (assign_const w b x y c (by omega) (by omega) hvy hb).mono fun e w' ⟨h, hb⟩ => RetE.bad (by omega) h hb
    | true =>
      have e : asgE x y c = 0 := by unfold asgE; rw [if_neg hv, hb]; rfl
      rw [e]
      obtain ⟨ze, m⟩ := z
      cases ze with
      | true => exact (assign_void w b m hz x y c (by omega) (by omega) hvy hb).mono fun e w' h => RetE.good h
      | false =>
        have hbb := bd_iff.1 hb
        obtain ⟨xn, rfl⟩ := Int.eq_ofNat_of_zero_le (show 0 ≤ x by omega)
        obtain ⟨yn, rfl⟩ := Int.eq_ofNat_of_zero_le (show 0 ≤ y by omega)
        exact (assign_ok w b m hz hr xn yn c (by omega) (by omega) (by omega) hbb.1 hbb.2).mono fun e w' h => RetE.good h

def putE (x : Int) (lu ld : List (Bool × Int)) : Int := if x < 1 ∨ 60 ≤ x then 50 else if lu.length ≠ 60 ∨ ld.length ≠ 60 then 1 else if okTo x.toNat lu 60 && okTo x.toNat ld 60 then 0 else 51
def putZ (z : Zn) (x : Int) (lu ld : List (Bool × Int)) : Zn := if z.e then z else zset (putT z.m x.toNat lu ld)

theorem put_var (w : World) (b : Nat) (x : Int) (vu vd : Value) (h : x < 1 ∨ (1 ≤ x ∧ 60 ≤ x)) :
    Calls Try.prog 43 #[.pointer (some ⟨b, 0, none⟩), .int .i64 x, vu, vd] w fun e w' => e = .returned (.tuple #[.pointer none, .int .i64 50]) ∧ Below w.heap.size w w' := by
  rcases h with h | ⟨h, h2⟩
  · go_enter Try.func43, Try.ntmps43
    go_wp2
    go_ret2
    exact ⟨rfl, bRefl _⟩
  · go_enter Try.func43, Try.ntmps43
    go_wp2
    go_ret2
    exact ⟨rfl, bRefl _⟩

theorem put_len (w : World) (b : Nat) (x : Int) (au ad : Option Addr) (nu cu nd cd : Nat) (h1 : 1 ≤ x) (h2 : x < 60) (h : nu ≠ 60 ∨ (nu = 60 ∧ nd ≠ 60)) :
    Calls Try.prog 43 #[.pointer (some ⟨b, 0, none⟩), .int .i64 x, .slice au nu cu, .slice ad nd cd] w fun e w' => e = .returned (.tuple #[.pointer none, .int .i64 1]) ∧ Below w.heap.size w w' := by
  rcases h with h | ⟨rfl, h⟩
  · have hq : ((nu : Int) != 60) = true := by rw [bne_iff_ne]; omega
    have H := Lib.hid h
    clear h
    go_enter Try.func43, Try.ntmps43
    go_wp2
    go_ret2
    exact ⟨rfl, bRefl _⟩
  · have hq : ((nd : Int) != 60) = true := by rw [bne_iff_ne]; omega
    have H := Lib.hid h
    clear h
    go_enter Try.func43, Try.ntmps43
    go_wp2
    go_ret2
    exact ⟨rfl, bRefl _⟩

/-- What bounds of zone answers, by whether all are within range. -/
theorem bounds_is (w : World) (x : Nat) (v : Value) (l : List (Bool × Int)) (hs : SlB w v l) (hlen : l.length = 60) :
    Calls Try.prog 67 #[.int .i64 x, v] w fun e w' => ∃ u, e = .returned (.tuple #[u, .bool (okTo x l 60)]) ∧ Below w.heap.size w w' :=
  (bounds_any w x v l hs hlen).mono fun e w' ⟨hb, h⟩ => by
    rcases h with ⟨h, g, he, _, _⟩ | ⟨h, he⟩
    · exact ⟨_, by rw [h]; exact he, hb⟩
    · exact ⟨_, by rw [h]; exact he, hb⟩

theorem put_const (w : World) (b : Nat) (x : Nat) (vu : Value) (lu : List (Bool × Int)) (hu : SlB w vu lu) (hlu : lu.length = 60) (vd : Value) (ld : List (Bool × Int)) (hd : SlB w vd ld) (hld : ld.length = 60) (h1 : 1 ≤ x) (h2 : x < 60)
    (p q : Bool) (hp : okTo x lu 60 = p) (hq : okTo x ld 60 = q) (h : p = false ∨ (p = true ∧ q = false)) :
    Calls Try.prog 43 #[.pointer (some ⟨b, 0, none⟩), .int .i64 x, vu, vd] w fun e w' => e = .returned (.tuple #[.pointer none, .int .i64 51]) ∧ Below w.heap.size w w' := by
  have HU := Lib.hid hu
  have HD := Lib.hid hd
  have HP := Lib.hid hp
  have HQ := Lib.hid hq
  have HLU := Lib.hid hlu
  have HLD := Lib.hid hld
  obtain ⟨au, cu, rfl, _, _⟩ := hu
  obtain ⟨ad, cd, rfl, _, _⟩ := hd
  rw [hlu] at HU ⊢
  rw [hld] at HD ⊢
  clear hlu hld hp hq
  have h2' : (x : Int) < 60 := by omega
  rcases h with rfl | ⟨rfl, rfl⟩
  all_goals
    go_enter Try.func43, Try.ntmps43
    go_wp2_with fail
    refine (bounds_is _ x _ lu HU.out HLU.out).mono ?_
    rintro e w1 ⟨u1, rfl, b1⟩
    rw [HP.out]
    go_wp2_with fail
    refine (bounds_is _ x _ ld (SlB.below HD.out b1) HLD.out).mono ?_
    rintro e w2 ⟨u2, rfl, b2⟩
    rw [HQ.out]
    go_wp2
    go_ret2
    exact ⟨rfl, bThen b1 b2⟩

theorem put_void (w : World) (b : Nat) (m : Nat → Nat → Int) (hz : ZAt w b ⟨true, m⟩) (x : Nat) (vu : Value) (lu : List (Bool × Int)) (hu : SlB w vu lu) (hlu : lu.length = 60) (vd : Value) (ld : List (Bool × Int)) (hd : SlB w vd ld) (hld : ld.length = 60) (h1 : 1 ≤ x) (h2 : x < 60)
    (hp : okTo x lu 60 = true) (hq : okTo x ld 60 = true) :
    Calls Try.prog 43 #[.pointer (some ⟨b, 0, none⟩), .int .i64 x, vu, vd] w (RetZE w ⟨true, m⟩) := by
  have HU := Lib.hid hu
  have HD := Lib.hid hd
  have HP := Lib.hid hp
  have HQ := Lib.hid hq
  have HLU := Lib.hid hlu
  have HLD := Lib.hid hld
  have HZ := Lib.hid hz
  obtain ⟨au, cu, rfl, _, _⟩ := hu
  obtain ⟨ad, cd, rfl, _, _⟩ := hd
  rw [hlu] at HU ⊢
  rw [hld] at HD ⊢
  clear hlu hld hp hq hz
  have h2' : (x : Int) < 60 := by omega
  go_enter Try.func43, Try.ntmps43
  go_wp2_with fail
  refine (bounds_is _ x _ lu HU.out HLU.out).mono ?_
  rintro e w1 ⟨u1, rfl, b1⟩
  rw [HP.out]
  go_wp2_with fail
  refine (bounds_is _ x _ ld (SlB.below HD.out b1) HLD.out).mono ?_
  rintro e w2 ⟨u2, rfl, b2⟩
  rw [HQ.out]
  have t2 := bThen b1 b2
  have HZ2 := Lib.hid (ZAt.below HZ.out t2 HZ.out.lt)
  have hc := HZ2.out.emp
  simp only at hc
  go_wp2
  go_ret2
  exact ⟨b, rfl, HZ2.out, t2⟩

theorem put_any (w : World) (b : Nat) (z : Zn) (hz : ZAt w b z) (hr : Rng z.m) (x : Int) (vu : Value) (lu : List (Bool × Int)) (hu : SlB w vu lu) (vd : Value) (ld : List (Bool × Int)) (hd : SlB w vd ld) :
    Calls Try.prog 43 #[.pointer (some ⟨b, 0, none⟩), .int .i64 x, vu, vd] w (RetE w (putE x lu ld) (putZ z x lu ld)) := by
  by_cases hv : x < 1 ∨ 60 ≤ x
  · have e : putE x lu ld = 50 := by unfold putE; rw [if_pos hv]
    rw [e]
    exact (put_var w b x vu vd (by omega)).mono fun e w' ⟨h, hb⟩ => RetE.bad (by omega) h hb
  · by_cases hl : lu.length ≠ 60 ∨ ld.length ≠ 60
    · have e : putE x lu ld = 1 := by unfold putE; rw [if_neg hv, if_pos hl]
      rw [e]
      obtain ⟨au, cu, rfl, _, _⟩ := hu
      obtain ⟨ad, cd, rfl, _, _⟩ := hd
      exact (put_len w b x au ad _ cu _ cd (by omega) (by omega) (by omega)).mono fun e w' ⟨h, hb⟩ => RetE.bad (by omega) h hb
    · have hlu : lu.length = 60 := by omega
      have hld : ld.length = 60 := by omega
      obtain ⟨xn, rfl⟩ := Int.eq_ofNat_of_zero_le (show 0 ≤ x by omega)
      have hx1 : 1 ≤ xn := by omega
      have hx : xn < 60 := by omega
      cases hp : okTo xn lu 60 with
      | false =>
        have e : putE xn lu ld = 51 := by unfold putE; rw [if_neg hv, if_neg hl, Int.toNat_natCast, hp]; rfl
        rw [e]
        exact (put_const w b xn vu lu hu hlu vd ld hd hld hx1 hx _ _ hp rfl (Or.inl rfl)).mono fun e w' ⟨h, hb⟩ => RetE.bad (by omega) h hb
      | true =>
        cases hq : okTo xn ld 60 with
        | false =>
          have e : putE xn lu ld = 51 := by unfold putE; rw [if_neg hv, if_neg hl, Int.toNat_natCast, hp, hq]; rfl
          rw [e]
          exact (put_const w b xn vu lu hu hlu vd ld hd hld hx1 hx _ _ hp hq (Or.inr ⟨rfl, rfl⟩)).mono fun e w' ⟨h, hb⟩ => RetE.bad (by omega) h hb
        | true =>
          have e : putE xn lu ld = 0 := by unfold putE; rw [if_neg hv, if_neg hl, Int.toNat_natCast, hp, hq]; rfl
          rw [e]
          obtain ⟨ze, m⟩ := z
          cases ze with
          | true => exact (put_void w b m hz xn vu lu hu hlu vd ld hd hld hx1 hx hp hq).mono fun e w' h => RetE.good h
          | false => exact (put_ok w b m hz hr xn hx1 hx vu lu hu hlu hp vd ld hd hld hq).mono fun e w' h => RetE.good h

end Go.Proofs.YtfpbjjdlchplnaaR
