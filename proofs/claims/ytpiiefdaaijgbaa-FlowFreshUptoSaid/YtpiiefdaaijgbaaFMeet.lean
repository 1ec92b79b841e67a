/- The program's meet: the nearest block that dominates both. -/
import Derived.Test.YtpiiefdaaijgbaaFJmp
namespace Go.Proofs.Ytpiiefdaaijgbaa
open Go Go.RowKit Go.Wr Go.Fl
set_option maxHeartbeats 4000000
set_option maxRecDepth 100000

/-- A flow's places and nearest dominators, as they lie. -/
structure Pd (p n : Nat) (pl : Nat → Nat) (d : Nat → Option Nat) (a4 a5 : Addr) (c4 c5 : Nat) (w : World) : Prop where
  f4 : w.cell? ⟨p, 4, none⟩ = some (.slice (some a4) n c4)
  f5 : w.cell? ⟨p, 5, none⟩ = some (.slice (some a5) n c5)
  s4 : a4.spot = none
  s5 : a5.spot = none
  p4 : ∀ b, b < n → w.cell? ⟨a4.block, a4.off + b, none⟩ = some (.int .i64 (pl b : Int))
  p5 : ∀ b, b < n → w.cell? ⟨a5.block, a5.off + b, none⟩ = some (.int .i64 (oi (d b)))
theorem Pd.drewN {p n : Nat} {pl : Nat → Nat} {d : Nat → Option Nat} {a4 a5 : Addr} {c4 c5 : Nat} {w : World} (h : Pd p n pl d a4 a5 c4 c5 w) (k : Nat) : Pd p n pl d a4 a5 c4 c5 (w.drewN k) := ⟨h.f4, h.f5, h.s4, h.s5, h.p4, h.p5⟩
/-- What meet leaves. -/
def MeetP (d : Nat → Option Nat) (a b : Nat) (w : World) (e : Ending) (w' : World) : Prop := ∃ m : Nat, e = .returned (.int .i64 (m : Int)) ∧ Meet d a b m ∧ ∃ k, w' = w.drewN k
theorem meet_ok (w : World) (p n : Nat) (nx : Nat → List Nat) (pl : Nat → Nat) (d : Nat → Option Nat) (ah : Nat → List Nat) (g : Gr nx pl n ah) (hT : Tb nx pl n d) (b4 o4 b5 o5 c4 c5 : Nat) (h : Pd p n pl d ⟨b4, o4, none⟩ ⟨b5, o5, none⟩ c4 c5 w)
    (a b : Nat) (ha : (d a).isSome) (hb : (d b).isSome) :
    Calls Try.prog 102 #[.pointer (some ⟨p, 0, none⟩), .int .i64 (a : Int), .int .i64 (b : Int)] w (MeetP d a b w) := by
  have H := Lib.hid h
  have HT := Lib.hid hT
  have HG := Lib.hid g
  have HA := Lib.hid ha
  have HB := Lib.hid hb
  clear h hT g ha hb
  go_enter Try.func102, Try.ntmps102
  go_wp2
  go_loopw [1, 2] (fun t1 t2 wr => ∃ (x y k : Nat), t1 = .int .i64 (x : Int) ∧ t2 = .int .i64 (y : Int) ∧ wr = w.drewN k ∧ Hid ((d x).isSome) ∧ Hid ((d y).isSome) ∧ Hid (∀ m, Meet d x y m → Meet d a b m)) (fun t1 t2 _ => pl (intOf t1).toNat + pl (intOf t2).toNat)
  case atStart => exact ⟨a, b, 0, rfl, rfl, rfl, HA.out, HB.out, fun _ h => h⟩
  case round =>
    obtain ⟨x, y, k, rfl, rfl, hw, hx, hy, hm⟩ := hrel
    have HK := Lib.hid (H.out.drewN k)
    rw [← hw] at HK
    have HW := Lib.hid hw
    clear hw
    by_cases exy : x = y
    · subst exy
      go_wp2
      go_ret
      exact ⟨x, rfl, hm.out x (Meet.same d x), k, HW.out⟩
    · have hne : ((x : Int) != (y : Int)) = true := by rw [bne_iff_ne]; omega
      obtain ⟨wo, rfl⟩ : ∃ wo : World, wo = wr := ⟨_, rfl⟩
      have hxn := HT.out.lt_n hx.out
      have hyn := HT.out.lt_n hy.out
      have hpne : pl x ≠ pl y := fun e => exy (HG.out.inj x y hxn hyn e)
      go_wp2
      go_loopw [1] (fun t1 wr => ∃ (x' k' : Nat), t1 = .int .i64 (x' : Int) ∧ wr = w.drewN k' ∧ Hid ((d x').isSome) ∧ Hid (∀ m, Meet d x' y m → Meet d x y m) ∧ pl x' ≤ pl x ∧ (x' = x ∨ pl x' < pl x) ∧ (pl y < pl x ∨ x' = x)) (fun t1 _ => pl (intOf t1).toNat)
      case atStart => exact ⟨x, k, rfl, HW.out, hx.out, (fun _ h => h), Nat.le_refl _, Or.inl rfl, Or.inr rfl⟩
      case round =>
        obtain ⟨x', k', rfl, hw', hx', hm', hle, hlt, hor⟩ := hrel
        have HK' := Lib.hid (H.out.drewN k')
        rw [← hw'] at HK'
        have HW' := Lib.hid hw'
        clear hw'
        have hx'n := HT.out.lt_n hx'.out
        have f4 := HK'.out.f4
        have f5 := HK'.out.f5
        have px := HK'.out.p4 x' hx'n
        have py := HK'.out.p4 y hyn
        have dx := HK'.out.p5 x' hx'n
        simp only at px py dx
        have hxi : (x' : Int) < (n : Int) := by omega
        have hyi : (y : Int) < (n : Int) := by omega
        have hx0 : (0 : Int) ≤ (x' : Int) := by omega
        have hy0 : (0 : Int) ≤ (y : Int) := by omega
        by_cases hgt : pl y < pl x'
        · have hgt' : decide ((pl y : Int) < (pl x' : Int)) = true := decide_eq_true (by omega)
          have hgt2 : (pl y : Int) < (pl x' : Int) := by omega
          obtain ⟨z, hz⟩ := Option.isSome_iff_exists.1 hx'.out
          rw [hz] at dx
          have dx2 : wr.cell? ⟨b5, o5 + x', none⟩ = some (.int .i64 (z : Int)) := dx
          have hx0' : x' ≠ 0 := fun e => by subst e; have := HG.out.p0; omega
          have hzlt := HT.out.lt x' z hz hx0'
          have hzs := (HT.out.bd x' z hz).2.2
          have hmz : Hid (∀ m, Meet d z y m → Meet d x y m) := fun m h => hm'.out m (HT.out.stepL hz hgt h)
          clear dx hz hm' hlt
          go_upto_region 2 with (fail)
          go_quiet (fail)
          go_wp2
          go_roundw
          all_goals first
            | exact ⟨z, k' + nq, rfl, by rw [HW'.out]; simp, hzs, hmz, by omega, Or.inr (by omega), Or.inl (by omega)⟩
            | ((repeat apply Exists.intro); exact ⟨⟨z, k' + nq, rfl, by rw [HW'.out]; simp, hzs, hmz, by omega, Or.inr (by omega), Or.inl (by omega)⟩, rfl⟩)
            | (simp [intOf]; omega)
        · have hgt' : decide ((pl y : Int) < (pl x' : Int)) = false := decide_eq_false (by omega)
          have hgt2 : (pl x' : Int) ≤ (pl y : Int) := by omega
          go_upto_region 2 with (fail)
          go_quiet (fail)
          have HW2 := Lib.hid (show wr.drewN nq = w.drewN (k' + nq) by rw [HW'.out]; simp)
          generalize wr.drewN nq = W2 at HW2 ⊢
          have hM : Hid (∀ m, Meet d x' y m → Meet d a b m) := fun m h => hm.out m (hm'.out m h)
          have hsum : ∀ y', pl y' ≤ pl x' → pl y' ≤ pl y → pl x' + pl y' < pl x + pl y := fun y' h1 h2 => by
            rcases hor with h | h
            · omega
            · subst h; omega
          have HSUM := Lib.hid hsum
          clear f4 f5 px py dx hm hm' HK' HW' hlt hle hor hsum HK HW hgt' hgt hpne
          obtain ⟨kk, hkk⟩ : ∃ kk, kk = k' + nq := ⟨_, rfl⟩
          rw [← hkk] at HW2
          clear hkk
          obtain ⟨wi, rfl⟩ : ∃ wi : World, wi = wr := ⟨_, rfl⟩
          go_wp2
          go_loopw [2] (fun t2 wr => ∃ (y' k2 : Nat), t2 = .int .i64 (y' : Int) ∧ wr = w.drewN k2 ∧ Hid ((d y').isSome) ∧ Hid (∀ m, Meet d x' y' m → Meet d x' y m) ∧ pl y' ≤ pl y) (fun t2 _ => pl (intOf t2).toNat)
          case atStart => exact ⟨y, kk, rfl, HW2.out, hy.out, (fun _ h => h), Nat.le_refl _⟩
          case round =>
            obtain ⟨y', k2, rfl, hw2, hy', hm2, hle2⟩ := hrel
            have HK2 := Lib.hid (H.out.drewN k2)
            rw [← hw2] at HK2
            have HW3 := Lib.hid hw2
            clear hw2 HW2 hgt2 hyi hy0
            have hy'n := HT.out.lt_n hy'.out
            have f4 := HK2.out.f4
            have f5 := HK2.out.f5
            have px := HK2.out.p4 x' hx'n
            have py := HK2.out.p4 y' hy'n
            have dy := HK2.out.p5 y' hy'n
            simp only at px py dy
            have hyi : (y' : Int) < (n : Int) := by omega
            have hy0 : (0 : Int) ≤ (y' : Int) := by omega
            by_cases hgt : pl x' < pl y'
            · have hgt' : decide ((pl x' : Int) < (pl y' : Int)) = true := decide_eq_true (by omega)
              have hgt2 : (pl x' : Int) < (pl y' : Int) := by omega
              obtain ⟨z, hz⟩ := Option.isSome_iff_exists.1 hy'.out
              rw [hz] at dy
              have dy2 : wr.cell? ⟨b5, o5 + y', none⟩ = some (.int .i64 (z : Int)) := dy
              have hy0' : y' ≠ 0 := fun e => by subst e; have := HG.out.p0; omega
              have hzlt := HT.out.lt y' z hz hy0'
              have hzs := (HT.out.bd y' z hz).2.2
              have hmz : Hid (∀ m, Meet d x' z m → Meet d x' y m) := fun m h => hm2.out m (HT.out.stepR hz hgt h)
              clear dy hz hm2
              go_upto_region 4 with (fail)
              go_quiet (fail)
              go_wp2
              go_roundw
              all_goals first
                | exact ⟨z, k2 + nq, rfl, by rw [HW3.out]; simp, hzs, hmz, by omega⟩
                | ((repeat apply Exists.intro); exact ⟨⟨z, k2 + nq, rfl, by rw [HW3.out]; simp, hzs, hmz, by omega⟩, rfl⟩)
                | (simp [intOf]; omega)
            · have hgt' : decide ((pl x' : Int) < (pl y' : Int)) = false := decide_eq_false (by omega)
              have hgt2 : (pl y' : Int) ≤ (pl x' : Int) := by omega
              have hend := HSUM.out y' (by omega) hle2
              have hMM : Hid (∀ m, Meet d x' y' m → Meet d a b m) := fun m h => hM.out m (hm2.out m h)
              go_upto_region 4 with (fail)
              go_quiet (fail)
              have HW5 := Lib.hid (show wr.drewN nq = w.drewN (k2 + nq) by rw [HW3.out]; simp)
              generalize wr.drewN nq = W5 at HW5 ⊢
              clear f4 f5 px py dy hm2 hM HK2 HW3 hgt' hgt HSUM
              go_wp2
              go_roundw
              all_goals first
                | exact ⟨x', y', _, rfl, rfl, HW5.out, hx'.out, hy'.out, hMM.out⟩
                | ((repeat apply Exists.intro); exact ⟨⟨x', y', _, rfl, rfl, HW5.out, hx'.out, hy'.out, hMM.out⟩, rfl⟩)
                | (simp [intOf]; omega)
end Go.Proofs.Ytpiiefdaaijgbaa
