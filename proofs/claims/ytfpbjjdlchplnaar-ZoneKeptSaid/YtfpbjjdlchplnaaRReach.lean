/- The law's reach: each variable stands above j by its own bound, or high above it; less the first. -/
import Derived.Test.YtfpbjjdlchplnaaRMet
namespace Go.Proofs.YtfpbjjdlchplnaaR
open Go Go.RowKit Go.Wr
set_option maxHeartbeats 3000000
set_option maxRecDepth 10000

def rstep (m : Nat → Nat → Int) (j : Nat) (high : Int) (q : Nat) (acc : Int) (k : Nat) : Int :=
  if m q k = 2305843009213693952 then acc else if (m q k + if k = j then 0 else high) < acc then m q k + (if k = j then 0 else high) else acc
def reachA (m : Nat → Nat → Int) (j : Nat) (high : Int) (q n : Nat) : Int := (List.range n).foldl (rstep m j high q) 36028797018963968
def reachF (m : Nat → Nat → Int) (j : Nat) (high : Int) (q : Nat) : Int := reachA m j high q 60 - reachA m j high 0 60

theorem reachA_succ (m : Nat → Nat → Int) (j : Nat) (high : Int) (q n : Nat) : reachA m j high q (n + 1) = rstep m j high q (reachA m j high q n) n := by
  unfold reachA; rw [List.range_succ, List.foldl_append]; rfl

theorem reachA_rng {m : Nat → Nat → Int} (hr : Rng m) (j : Nat) (high : Int) (h0 : 0 ≤ high) {q : Nat} (hq : q < 60) : ∀ n, n ≤ 60 → -1152921504606846976 ≤ reachA m j high q n ∧ reachA m j high q n ≤ 36028797018963968 := by
  intro n
  induction n with
  | zero => intro _; unfold reachA; simp
  | succ n ih =>
    intro hn
    have h1 := ih (by omega)
    have h2 := hr q n hq (by omega)
    rw [reachA_succ]
    unfold rstep
    split
    · exact h1
    · by_cases e : n = j
      · rw [if_pos e]; split <;> omega
      · rw [if_neg e]; split <;> omega

theorem reachF_i64 {m : Nat → Nat → Int} (hr : Rng m) (j : Nat) (high : Int) (h0 : 0 ≤ high) {q : Nat} (hq : q < 60) : I64 (reachF m j high q) := by
  have h1 := reachA_rng hr j high h0 hq 60 (Nat.le_refl _)
  have h2 := reachA_rng hr j high h0 (show 0 < 60 by omega) 60 (Nat.le_refl _)
  unfold reachF I64
  omega

theorem bndZ_none {m : Nat → Nat → Int} {p q : Nat} (_hp : p < 60) (_hq : q < 60) (h : m p q = 2305843009213693952) : bndZ ⟨false, m⟩ (p : Int) (q : Int) = (false, 0) := by
  unfold bndZ
  rw [if_pos (by simp [h])]
theorem bndZ_some {m : Nat → Nat → Int} {p q : Nat} (hp : p < 60) (hq : q < 60) (h : m p q ≠ 2305843009213693952) : bndZ ⟨false, m⟩ (p : Int) (q : Int) = (true, m p q) := by
  have h1 : vr (p : Int) = true := vr_iff.2 (by omega)
  have h2 : vr (q : Int) = true := vr_iff.2 (by omega)
  unfold bndZ
  rw [if_neg (by simp [h1, h2, h])]
  rfl

def way1 (m : Nat → Nat → Int) (j : Nat) (high : Int) (n q : Nat) : Int := if q < n then reachA m j high q 60 else 0
def way2 (m : Nat → Nat → Int) (j : Nat) (high : Int) (n k q : Nat) : Int := if q = n then reachA m j high n k else way1 m j high n q
def way3 (m : Nat → Nat → Int) (j : Nat) (high : Int) (n q : Nat) : Int := if q < n then reachF m j high q else reachA m j high q 60

theorem reach_any (w : World) (b : Nat) (m : Nat → Nat → Int) (hz : ZAt w b ⟨false, m⟩) (hr : Rng m) (i : Int) (j : Nat) (high : Int) (h0 : 0 ≤ high) (h1 : high ≤ 1125899906842624) :
    Calls Try.prog 24 #[.pointer (some ⟨b, 0, none⟩), .int .i64 i, .int .i64 j, .int .i64 high] w fun e w' => ∃ g, e = .returned (.slice (some ⟨g, 0, none⟩) 60 60) ∧ Blk w' g 3 (rcells (reachF m j high)) ∧ w.heap.size ≤ g ∧ Below w.heap.size w w' := by
  have hbl := hz.lt
  have Hz := Lib.hid hz
  clear hz
  have hmk := make60
  go_enter Try.func24, Try.ntmps24
  go_wp2
  clear hmk
  go_loopw [10] (fun t wr => ∃ n : Nat, n ≤ 60 ∧ t = .int .i64 n ∧ Blk wr w.heap.size 3 (rcells (way1 m j high n)) ∧ Below w.heap.size w wr) (fun t _ => 60 - (intOf t).toNat)
  case atStart => exact ⟨0, by omega, rfl, (Blk.new _ _ _).eq (rcells_congr fun q _ => by unfold way1; rw [if_neg (by omega)]), bAl (bRefl _) _⟩
  case round =>
    obtain ⟨n, hn, rfl, hb, hbel⟩ := hrel
    by_cases hlt : n < 60
    · have hlt' : (n : Int) < 60 := by omega
      have f1 := hb.frozen n
      have c1 := (hb.cell n).trans (rcells_get _ hlt)
      have Hb := Lib.hid hb
      clear hb
      go_wp2
      clear c1 f1
      go_loopw [11] (fun t wr => ∃ k : Nat, k ≤ 60 ∧ t = .int .i64 k ∧ Blk wr w.heap.size 3 (rcells (way2 m j high n k)) ∧ Below w.heap.size w wr) (fun t _ => 60 - (intOf t).toNat)
      case atStart =>
        refine ⟨0, by omega, rfl, (Hb.out.set n _).eq ((rcells_set _ hlt _).trans (rcells_congr fun q _ => ?_)), hbel.setCell (by simp) _⟩
        unfold way2
        split
        · rfl
        · rfl
      case round =>
        obtain ⟨k, hk, rfl, hb, hbel⟩ := hrel
        by_cases hlk : k < 60
        · have hlk' : (k : Int) < 60 := by omega
          have Hs := Lib.hid (reachA_succ m j high n k)
          have ha := reachA_rng hr j high h0 hlt k hk
          have hrk := hr n k hlt hlk
          have Hb := Lib.hid hb
          clear hb
          by_cases hno : m n k = 2305843009213693952
          · have Hno := Lib.hid (bndZ_none hlt hlk hno)
            have Hst : Hid (reachA m j high n (k + 1) = reachA m j high n k) := by show _ = _; rw [Hs.out]; unfold rstep; rw [if_pos hno]
            clear hno hrk
            go_wp2_with fail
            refine (bound_any _ b ⟨false, m⟩ (ZAt.below Hz.out hbel hbl) n k).mono ?_
            rintro e w1 ⟨rfl, b1⟩
            rw [Hno.out]
            have t1 := hbel.trans (b1.mono hbel.size)
            go_wp2
            go_roundw
            case rel =>
              refine ⟨k + 1, by omega, by go_num, ((Hb.out.below b1 Hb.out.lt).alloc _).eq (rcells_congr fun q _ => ?_), t1.alloc t1.size _⟩
              unfold way2
              rw [Hst.out]
            case measure => simp [intOf]; omega
          · have Hno := Lib.hid (bndZ_some hlt hlk hno)
            have hrk' : m n k ≤ 1152921504606846976 := by omega
            have Hne := Lib.hid hno
            clear hno
            by_cases hkj : k = j
            · have hq : ((k : Int) != (j : Int)) = false := by rw [bne_eq_false_iff_eq]; omega
              have Hst : Hid (reachA m j high n (k + 1) = if m n k < reachA m j high n k then m n k else reachA m j high n k) := by
                show _ = _; rw [Hs.out]; unfold rstep; rw [if_neg Hne.out, if_pos hkj]; simp
              have Hkj := Lib.hid hkj
              clear hkj
              by_cases hlow : m n k < reachA m j high n k
              · go_wp2_with fail
                refine (bound_any _ b ⟨false, m⟩ (ZAt.below Hz.out hbel hbl) n k).mono ?_
                rintro e w1 ⟨rfl, b1⟩
                rw [Hno.out]
                have t1 := hbel.trans (b1.mono hbel.size)
                have hb1 := Hb.out.below b1 Hb.out.lt
                have hs1 := hb1.lt
                have c1 := (hb1.cell n).trans (rcells_get _ hlt)
                rw [show way2 m j high n k n = reachA m j high n k by unfold way2; rw [if_pos rfl]] at c1
                have f1 := hb1.frozen n
                have Hb1 := Lib.hid hb1
                clear hb1
                go_wp2
                go_roundw
                case rel =>
                  refine ⟨k + 1, by omega, by go_num, ?_, ?_⟩
                  · refine Blk.eq (C := (rcells (way2 m j high n k)).setIfInBounds n (.int .i64 (m n k))) ?_ ?_
                    · first | exact (Hb1.out.alloc _).set _ _ | exact (Hb1.out.set _ _).alloc _
                    · rw [rcells_set _ hlt]
                      refine rcells_congr fun q _ => ?_
                      unfold way2
                      rw [Hst.out, if_pos hlow]
                      split <;> simp_all
                  · first | exact (t1.alloc t1.size _).setCell (by simp) _ | exact (t1.setCell (by simp) _).alloc (by simp; exact t1.size) _
                case measure => simp [intOf]; omega
              · go_wp2_with fail
                refine (bound_any _ b ⟨false, m⟩ (ZAt.below Hz.out hbel hbl) n k).mono ?_
                rintro e w1 ⟨rfl, b1⟩
                rw [Hno.out]
                have t1 := hbel.trans (b1.mono hbel.size)
                have hb1 := Hb.out.below b1 Hb.out.lt
                have hs1 := hb1.lt
                have c1 := (hb1.cell n).trans (rcells_get _ hlt)
                rw [show way2 m j high n k n = reachA m j high n k by unfold way2; rw [if_pos rfl]] at c1
                have Hb1 := Lib.hid hb1
                clear hb1
                go_wp2
                go_roundw
                case rel =>
                  refine ⟨k + 1, by omega, by go_num, (Hb1.out.alloc _).eq (rcells_congr fun q _ => ?_), t1.alloc t1.size _⟩
                  unfold way2
                  rw [Hst.out, if_neg (show ¬ m n k < reachA m j high n k by omega)]
                case measure => simp [intOf]; omega
            · have hq : ((k : Int) != (j : Int)) = true := by rw [bne_iff_ne]; omega
              have Hst : Hid (reachA m j high n (k + 1) = if m n k + high < reachA m j high n k then m n k + high else reachA m j high n k) := by
                show _ = _; rw [Hs.out]; unfold rstep; rw [if_neg Hne.out, if_neg hkj]
              have Hkj := Lib.hid hkj
              clear hkj
              by_cases hlow : m n k + high < reachA m j high n k
              · go_wp2_with fail
                refine (bound_any _ b ⟨false, m⟩ (ZAt.below Hz.out hbel hbl) n k).mono ?_
                rintro e w1 ⟨rfl, b1⟩
                rw [Hno.out]
                have t1 := hbel.trans (b1.mono hbel.size)
                have hb1 := Hb.out.below b1 Hb.out.lt
                have hs1 := hb1.lt
                have c1 := (hb1.cell n).trans (rcells_get _ hlt)
                rw [show way2 m j high n k n = reachA m j high n k by unfold way2; rw [if_pos rfl]] at c1
                have f1 := hb1.frozen n
                have Hb1 := Lib.hid hb1
                clear hb1
                go_wp2
                go_roundw
                case rel =>
                  refine ⟨k + 1, by omega, by go_num, ?_, ?_⟩
                  · refine Blk.eq (C := (rcells (way2 m j high n k)).setIfInBounds n (.int .i64 (m n k + high))) ?_ ?_
                    · first | exact (Hb1.out.alloc _).set _ _ | exact (Hb1.out.set _ _).alloc _
                    · rw [rcells_set _ hlt]
                      refine rcells_congr fun q _ => ?_
                      unfold way2
                      rw [Hst.out, if_pos hlow]
                      split <;> simp_all
                  · first | exact (t1.alloc t1.size _).setCell (by simp) _ | exact (t1.setCell (by simp) _).alloc (by simp; exact t1.size) _
                case measure => simp [intOf]; omega
              · go_wp2_with fail
                refine (bound_any _ b ⟨false, m⟩ (ZAt.below Hz.out hbel hbl) n k).mono ?_
                rintro e w1 ⟨rfl, b1⟩
                rw [Hno.out]
                have t1 := hbel.trans (b1.mono hbel.size)
                have hb1 := Hb.out.below b1 Hb.out.lt
                have hs1 := hb1.lt
                have c1 := (hb1.cell n).trans (rcells_get _ hlt)
                rw [show way2 m j high n k n = reachA m j high n k by unfold way2; rw [if_pos rfl]] at c1
                have Hb1 := Lib.hid hb1
                clear hb1
                go_wp2
                go_roundw
                case rel =>
                  refine ⟨k + 1, by omega, by go_num, (Hb1.out.alloc _).eq (rcells_congr fun q _ => ?_), t1.alloc t1.size _⟩
                  unfold way2
                  rw [Hst.out, if_neg (show ¬ m n k + high < reachA m j high n k by omega)]
                case measure => simp [intOf]; omega
        · obtain rfl : k = 60 := by omega
          have hb' := hb.eq (show rcells (way2 m j high n 60) = rcells (way1 m j high (n + 1)) from rcells_congr fun q _ => by
            unfold way2 way1
            by_cases e : q = n
            · subst e; rw [if_pos rfl, if_pos (by omega)]
            · rw [if_neg e]
              by_cases h : q < n
              · rw [if_pos h, if_pos (by omega)]
              · rw [if_neg h, if_neg (by omega)])
          go_wp2
          go_roundw
          case rel => exact ⟨n + 1, by omega, by go_num, hb', hbel⟩
          case measure => simp [intOf]; omega
    · obtain rfl : n = 60 := by omega
      have hb' := hb.eq (show rcells (way1 m j high 60) = rcells (way3 m j high 0) from rcells_congr fun q hq => by unfold way1 way3; rw [if_pos hq, if_neg (by omega)])
      have c0 := (hb'.cell 0).trans (rcells_get _ (by omega))
      rw [show way3 m j high 0 0 = reachA m j high 0 60 by unfold way3; rw [if_neg (by omega)]] at c0
      have Hb := Lib.hid hb'
      clear hb hb'
      have hz0 := reachA_rng hr j high h0 (show 0 < 60 by omega) 60 (Nat.le_refl _)
      obtain ⟨Z, HZ⟩ : ∃ Z, Hid (Z = reachA m j high 0 60) := ⟨_, rfl⟩
      rw [← HZ.out] at c0 hz0
      go_wp2
      clear c0
      go_loopw [15] (fun t wr => ∃ n : Nat, n ≤ 60 ∧ t = .int .i64 n ∧ Blk wr w.heap.size 3 (rcells (way3 m j high n)) ∧ Below w.heap.size w wr) (fun t _ => 60 - (intOf t).toNat)
      case atStart => exact ⟨0, by omega, rfl, Hb.out, hbel⟩
      case round =>
        obtain ⟨k, hk, rfl, hb, hbel⟩ := hrel
        by_cases hlk : k < 60
        · have hlk' : (k : Int) < 60 := by omega
          have c1 := (hb.cell k).trans (rcells_get _ hlk)
          rw [show way3 m j high k k = reachA m j high k 60 by unfold way3; rw [if_neg (by omega)]] at c1
          have f1 := hb.frozen k
          have ha := reachA_rng hr j high h0 hlk 60 (Nat.le_refl _)
          have Hb := Lib.hid hb
          clear hb
          go_wp2
          go_roundw
          case rel =>
            refine ⟨k + 1, by omega, by go_num, (Hb.out.set _ _).eq ((rcells_set _ hlk _).trans (rcells_congr fun q _ => ?_)), hbel.setCell (by simp) _⟩
            unfold way3
            by_cases e : q = k
            · subst e; rw [if_pos rfl, if_pos (by omega)]; unfold reachF; rw [HZ.out]
            · rw [if_neg e]
              by_cases h : q < k
              · rw [if_pos h, if_pos (by omega)]
              · rw [if_neg h, if_neg (by omega)]
          case measure => simp [intOf]; omega
        · obtain rfl : k = 60 := by omega
          have hb' := hb.eq (show rcells (way3 m j high 60) = rcells (reachF m j high) from rcells_congr fun q hq => by unfold way3; rw [if_pos hq])
          have Hb := Lib.hid hb'
          clear hb hb'
          go_wp2
          go_ret
          exact ⟨_, rfl, Hb.out, Nat.le_refl _, hbel⟩

end Go.Proofs.YtfpbjjdlchplnaaR
