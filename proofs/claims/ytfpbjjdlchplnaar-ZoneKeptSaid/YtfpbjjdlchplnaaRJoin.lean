/- Within, Join and Widen of zone; nothing that was there is turned. -/
import Derived.Test.YtfpbjjdlchplnaaREq
namespace Go.Proofs.YtfpbjjdlchplnaaR
open Go Go.RowKit Go.Wr
set_option maxHeartbeats 1000000
set_option maxRecDepth 100000

def leT (m m' : Nat → Nat → Int) : Bool := (List.range 60).all fun i => (List.range 60).all fun j => decide (m i j ≤ m' i j)

theorem leT_iff {m m' : Nat → Nat → Int} : leT m m' = true ↔ ∀ i j, i < 60 → j < 60 → m i j ≤ m' i j := by
  simp only [leT, List.all_eq_true, List.mem_range, decide_eq_true_eq]
  exact ⟨fun h i j hi hj => h i hi j hj, fun h i hi j hj => h i j hi hj⟩

/-- P5.7. -/
def withinZ (z o : Zn) : Bool := if z.e || o.e then z.e else leT z.m o.m

theorem within_any (w : World) (b b' : Nat) (z o : Zn) (hz : ZAt w b z) (ho : ZAt w b' o) :
    Calls Try.prog 31 #[.pointer (some ⟨b, 0, none⟩), .pointer (some ⟨b', 0, none⟩)] w fun e w' => e = .returned (.bool (withinZ z o)) ∧ Below w.heap.size w w' := by
  obtain ⟨e, m⟩ := z
  obtain ⟨e', m'⟩ := o
  have hc := hz.emp
  have hc' := ho.emp
  simp only at hc hc'
  have hbl := hz.lt
  have hbl' := ho.lt
  have Hz := Lib.hid hz
  have Ho := Lib.hid ho
  clear hz ho
  cases e with
  | true =>
    go_enter Try.func31, Try.ntmps31
    go_wp2
    go_ret
    exact ⟨rfl, bRefl _⟩
  | false =>
    cases e' with
    | true =>
      go_enter Try.func31, Try.ntmps31
      go_wp2
      go_ret
      exact ⟨rfl, bRefl _⟩
    | false =>
      go_enter Try.func31, Try.ntmps31
      go_wp2
      clear hc hc'
      go_loopw [21] (fun t wr => ∃ n : Nat, n ≤ 60 ∧ t = .int .i64 n ∧ Hid (∀ p q, p < n → q < 60 → m p q ≤ m' p q) ∧ Below w.heap.size w wr) (fun t _ => 60 - (intOf t).toNat)
      case atStart => exact ⟨0, by omega, rfl, fun p q hp _ => by omega, bRefl _⟩
      case round =>
        obtain ⟨n, hn, rfl, hall, hbel⟩ := hrel
        by_cases hlt : n < 60
        · have hlt' : (n : Int) < 60 := by omega
          go_wp2
          go_loopw [24] (fun t wr => ∃ k : Nat, k ≤ 60 ∧ t = .int .i64 k ∧ Hid (∀ q, q < k → m n q ≤ m' n q) ∧ Below w.heap.size w wr) (fun t _ => 60 - (intOf t).toNat)
          case atStart => exact ⟨0, by omega, rfl, fun q hq => by omega, hbel⟩
          case round =>
            obtain ⟨k, hk, rfl, hrow, hbel⟩ := hrel
            by_cases hlk : k < 60
            · have hlk' : (k : Int) < 60 := by omega
              have e1 := (ZAt.below Hz.out hbel hbl).entry hlt hlk
              have e2 := (ZAt.below Ho.out hbel hbl').entry hlt hlk
              by_cases hgt : m' n k < m n k
              · go_wp2
                go_quiet (fail)
                go_wp2
                go_ret
                refine ⟨?_, bDraw hbel _⟩
                have : leT m m' = false := by
                  cases hq : leT m m' with
                  | false => rfl
                  | true => have := leT_iff.1 hq n k hlt hlk; omega
                show _ = Ending.returned (.bool (leT m m'))
                rw [this]; rfl
              · go_wp2
                go_quiet (fail)
                go_wp2
                go_roundw
                case rel =>
                  refine ⟨k + 1, by omega, by go_num, ?_, bDraw hbel _⟩
                  intro q hq
                  by_cases e : q = k
                  · subst e; omega
                  · exact hrow.out q (by omega)
                case measure => simp [intOf]; omega
            · obtain rfl : k = 60 := by omega
              go_wp2
              go_roundw
              case rel =>
                refine ⟨n + 1, by omega, by go_num, ?_, hbel⟩
                intro p q hp hq
                by_cases e : p = n
                · subst e; exact hrow.out q hq
                · exact hall.out p q (by omega) hq
              case measure => simp [intOf]; omega
        · obtain rfl : n = 60 := by omega
          go_wp2
          go_ret
          refine ⟨?_, hbel⟩
          show _ = Ending.returned (.bool (leT m m'))
          rw [leT_iff.2 (fun p q hp hq => hall.out p q hp hq)]
          rfl

theorem max_any (a b : Int) (w : World) : Calls Try.prog 65 #[.int .i64 a, .int .i64 b] w fun e w' => e = .returned (.int .i64 (max a b)) ∧ w' = w := by
  by_cases h : a < b
  · go_enter Try.func65, Try.ntmps65
    go_wp2
    go_ret
    exact ⟨ret_int (by omega), rfl⟩
  · go_enter Try.func65, Try.ntmps65
    go_wp2
    go_ret
    exact ⟨ret_int (by omega), rfl⟩

def wid (a b : Int) : Int := if a < b then 2305843009213693952 else a

theorem wid_any (a b : Int) (w : World) : Calls Try.prog 66 #[.int .i64 a, .int .i64 b] w fun e w' => e = .returned (.int .i64 (wid a b)) ∧ w' = w := by
  by_cases h : a < b
  · rw [show wid a b = 2305843009213693952 by unfold wid; rw [if_pos h]]
    go_enter Try.func66, Try.ntmps66
    go_wp2
    go_ret
    exact ⟨rfl, rfl⟩
  · rw [show wid a b = a by unfold wid; rw [if_neg h]]
    go_enter Try.func66, Try.ntmps66
    go_wp2
    go_ret
    exact ⟨rfl, rfl⟩

/-- P5.8: of two zones one, pair by pair. -/
def joinZ (f : Int → Int → Int) (z o : Zn) : Zn := if z.e then o else if o.e then z else ⟨false, fun p q => f (z.m p q) (o.m p q)⟩

theorem joined_max (w : World) (b b' : Nat) (z o : Zn) (hz : ZAt w b z) (ho : ZAt w b' o) :
    Calls Try.prog 64 #[.pointer (some ⟨b, 0, none⟩), .pointer (some ⟨b', 0, none⟩), .func (.func 65) #[] #[]] w (RetZ w (joinZ max z o)) := by
  obtain ⟨e, m⟩ := z
  obtain ⟨e', m'⟩ := o
  have hc := hz.emp
  have hc' := ho.emp
  simp only at hc hc'
  have hbl := hz.lt
  have hbl' := ho.lt
  have Hz := Lib.hid hz
  have Ho := Lib.hid ho
  clear hz ho
  cases e with
  | true =>
    go_enter Try.func64, Try.ntmps64
    go_wp2
    go_ret
    exact ⟨b', rfl, Ho.out, bRefl _⟩
  | false =>
    cases e' with
    | true =>
      go_enter Try.func64, Try.ntmps64
      go_wp2
      go_ret
      exact ⟨b, rfl, Hz.out, bRefl _⟩
    | false =>
      have hZ := zero85
      go_enter Try.func64, Try.ntmps64
      go_wp2_with (first
        | (refine wpl_load rfl 85 (.tmp 21) rfl b 0 rfl Hz.out rowZ (by rw [zcells_size]; omega) (D := zcells false m) (zcells_extract _ _) ?_)
        | (refine wpl_store rfl 85 (.tmp 7) (.tmp 22) rfl w.heap.size 0 rfl (D := zcells false m) rfl (Blk.new _ 85 (zcells false fun _ _ => 0)) rowZ (zcells_size _ _) (by rw [zcells_size]; omega) (zcells_one _ _) ?_; intro w' ho hb))
      have hn := hb.eq (spl_all _ _ (by rw [zcells_size, zcells_size]))
      have hzb : ZAt w' b ⟨false, m⟩ := ho.blk (Blk.alloc Hz.out _) (by omega)
      have hob : ZAt w' b' ⟨false, m'⟩ := ho.blk (Blk.alloc Ho.out _) (by omega)
      have hbel : Below w.heap.size w w' := (bAl (bRefl w) _).trans (ho.below (Nat.le_refl _))
      clear ho hb hZ hc hc'
      have Hf : Hid (∀ p q, (fun p q => max (m p q) (m' p q)) p q = max (m p q) (m' p q)) := fun _ _ => rfl
      generalize (fun p q => max (m p q) (m' p q)) = F at Hf
      go_loopw [23] (fun t wr => ∃ n : Nat, n ≤ 60 ∧ t = .int .i64 n ∧ ZAt wr w.heap.size ⟨false, wayP m F n 0⟩ ∧ ZAt wr b ⟨false, m⟩ ∧ ZAt wr b' ⟨false, m'⟩ ∧ Below w.heap.size w wr)
        (fun t _ => 60 - (intOf t).toNat)
      case atStart => exact ⟨0, by omega, rfl, Blk.eq hn (by unfold zcells; rw [wayP_zero]), hzb, hob, hbel⟩
      case round =>
        obtain ⟨n, hnn, rfl, hn, hzb, hob, hbel⟩ := hrel
        by_cases hlt : n < 60
        · have hlt' : (n : Int) < 60 := by omega
          go_wp2
          go_loopw [26] (fun t wr => ∃ k : Nat, k ≤ 60 ∧ t = .int .i64 k ∧ ZAt wr w.heap.size ⟨false, wayP m F n k⟩ ∧ ZAt wr b ⟨false, m⟩ ∧ ZAt wr b' ⟨false, m'⟩ ∧ Below w.heap.size w wr)
            (fun t _ => 60 - (intOf t).toNat)
          case atStart => exact ⟨0, by omega, rfl, hn, hzb, hob, hbel⟩
          case round =>
            obtain ⟨k, hk, rfl, hn, hzb, hob, hbel⟩ := hrel
            by_cases hlk : k < 60
            · have hlk' : (k : Int) < 60 := by omega
              have e1 := hzb.entry hlt hlk
              have e2 := hob.entry hlt hlk
              have e3 := hn.entry hlt hlk
              have f3 := Blk.frozen hn (1 + n * 60 + k)
              go_wp2
              refine wp_tail 23 mix (by kernel_rfl) ?_
              simp only [List.take_succ_cons, List.take_zero, List.drop_succ_cons, List.drop_zero]
              repeat still_step
              still_call (max_any _ _ _)
              repeat still_step
              refine wpStill_nil ?_
              go_wp2
              go_roundw
              case rel =>
                refine ⟨k + 1, by omega, by go_num, ?_, Blk.set_other (Blk.drew hzb) _ _ _ (by omega), Blk.set_other (Blk.drew hob) _ _ _ (by omega), hbel.drew.setCell (by simp) _⟩
                refine Blk.eq (Blk.set (Blk.drew hn) _ _) ?_
                rw [Nat.add_assoc, zcells_set _ _ hlt hlk]
                unfold zcells
                simp only []
                rw [← wayP_set, Hf.out]
              case measure => simp [intOf]; omega
            · obtain rfl : k = 60 := by omega
              have hn' : ZAt wr w.heap.size ⟨false, wayP m F (n + 1) 0⟩ := Blk.eq hn (by unfold zcells; rw [wayP_row])
              go_wp2
              go_roundw
              case rel => exact ⟨n + 1, by omega, by go_num, hn', hzb, hob, hbel⟩
              case measure => simp [intOf]; omega
        · obtain rfl : n = 60 := by omega
          go_wp2
          go_ret
          refine ⟨w.heap.size, rfl, ?_, hbel⟩
          refine Blk.eq hn ?_
          show zcells false (wayP m F 60 0) = zcells false (fun p q => max (m p q) (m' p q))
          unfold zcells
          rw [wayP_all, show F = fun p q => max (m p q) (m' p q) from funext fun p => funext fun q => Hf.out p q]

theorem join_any (w : World) (b b' : Nat) (z o : Zn) (hz : ZAt w b z) (ho : ZAt w b' o) :
    Calls Try.prog 40 #[.pointer (some ⟨b, 0, none⟩), .pointer (some ⟨b', 0, none⟩)] w (RetZ w (joinZ max z o)) := by
  go_enter Try.func40, Try.ntmps40
  go_wp2_with (go_at_call 64; refine (joined_max _ _ _ _ _ hz ho).mono ?_; rintro e w1 ⟨b1, rfl, hz1, hbel1⟩)
  go_ret
  exact ⟨b1, rfl, hz1, hbel1⟩

theorem joined_wid (w : World) (b b' : Nat) (z o : Zn) (hz : ZAt w b z) (ho : ZAt w b' o) :
    Calls Try.prog 64 #[.pointer (some ⟨b, 0, none⟩), .pointer (some ⟨b', 0, none⟩), .func (.func 66) #[] #[]] w (RetZ w (joinZ wid z o)) := by
  obtain ⟨e, m⟩ := z
  obtain ⟨e', m'⟩ := o
  have hc := hz.emp
  have hc' := ho.emp
  simp only at hc hc'
  have hbl := hz.lt
  have hbl' := ho.lt
  have Hz := Lib.hid hz
  have Ho := Lib.hid ho
  clear hz ho
  cases e with
  | true =>
    go_enter Try.func64, Try.ntmps64
    go_wp2
    go_ret
    exact ⟨b', rfl, Ho.out, bRefl _⟩
  | false =>
    cases e' with
    | true =>
      go_enter Try.func64, Try.ntmps64
      go_wp2
      go_ret
      exact ⟨b, rfl, Hz.out, bRefl _⟩
    | false =>
      have hZ := zero85
      go_enter Try.func64, Try.ntmps64
      go_wp2_with (first
        | (refine wpl_load rfl 85 (.tmp 21) rfl b 0 rfl Hz.out rowZ (by rw [zcells_size]; omega) (D := zcells false m) (zcells_extract _ _) ?_)
        | (refine wpl_store rfl 85 (.tmp 7) (.tmp 22) rfl w.heap.size 0 rfl (D := zcells false m) rfl (Blk.new _ 85 (zcells false fun _ _ => 0)) rowZ (zcells_size _ _) (by rw [zcells_size]; omega) (zcells_one _ _) ?_; intro w' ho hb))
      have hn := hb.eq (spl_all _ _ (by rw [zcells_size, zcells_size]))
      have hzb : ZAt w' b ⟨false, m⟩ := ho.blk (Blk.alloc Hz.out _) (by omega)
      have hob : ZAt w' b' ⟨false, m'⟩ := ho.blk (Blk.alloc Ho.out _) (by omega)
      have hbel : Below w.heap.size w w' := (bAl (bRefl w) _).trans (ho.below (Nat.le_refl _))
      clear ho hb hZ hc hc'
      have Hf : Hid (∀ p q, (fun p q => wid (m p q) (m' p q)) p q = wid (m p q) (m' p q)) := fun _ _ => rfl
      generalize (fun p q => wid (m p q) (m' p q)) = F at Hf
      go_loopw [23] (fun t wr => ∃ n : Nat, n ≤ 60 ∧ t = .int .i64 n ∧ ZAt wr w.heap.size ⟨false, wayP m F n 0⟩ ∧ ZAt wr b ⟨false, m⟩ ∧ ZAt wr b' ⟨false, m'⟩ ∧ Below w.heap.size w wr)
        (fun t _ => 60 - (intOf t).toNat)
      case atStart => exact ⟨0, by omega, rfl, Blk.eq hn (by unfold zcells; rw [wayP_zero]), hzb, hob, hbel⟩
      case round =>
        obtain ⟨n, hnn, rfl, hn, hzb, hob, hbel⟩ := hrel
        by_cases hlt : n < 60
        · have hlt' : (n : Int) < 60 := by omega
          go_wp2
          go_loopw [26] (fun t wr => ∃ k : Nat, k ≤ 60 ∧ t = .int .i64 k ∧ ZAt wr w.heap.size ⟨false, wayP m F n k⟩ ∧ ZAt wr b ⟨false, m⟩ ∧ ZAt wr b' ⟨false, m'⟩ ∧ Below w.heap.size w wr)
            (fun t _ => 60 - (intOf t).toNat)
          case atStart => exact ⟨0, by omega, rfl, hn, hzb, hob, hbel⟩
          case round =>
            obtain ⟨k, hk, rfl, hn, hzb, hob, hbel⟩ := hrel
            by_cases hlk : k < 60
            · have hlk' : (k : Int) < 60 := by omega
              have e1 := hzb.entry hlt hlk
              have e2 := hob.entry hlt hlk
              have e3 := hn.entry hlt hlk
              have f3 := Blk.frozen hn (1 + n * 60 + k)
              go_wp2
              refine wp_tail 23 mix (by kernel_rfl) ?_
              simp only [List.take_succ_cons, List.take_zero, List.drop_succ_cons, List.drop_zero]
              repeat still_step
              still_call (wid_any _ _ _)
              repeat still_step
              refine wpStill_nil ?_
              go_wp2
              go_roundw
              case rel =>
                refine ⟨k + 1, by omega, by go_num, ?_, Blk.set_other (Blk.drew hzb) _ _ _ (by omega), Blk.set_other (Blk.drew hob) _ _ _ (by omega), hbel.drew.setCell (by simp) _⟩
                refine Blk.eq (Blk.set (Blk.drew hn) _ _) ?_
                rw [Nat.add_assoc, zcells_set _ _ hlt hlk]
                unfold zcells
                simp only []
                rw [← wayP_set, Hf.out]
              case measure => simp [intOf]; omega
            · obtain rfl : k = 60 := by omega
              have hn' : ZAt wr w.heap.size ⟨false, wayP m F (n + 1) 0⟩ := Blk.eq hn (by unfold zcells; rw [wayP_row])
              go_wp2
              go_roundw
              case rel => exact ⟨n + 1, by omega, by go_num, hn', hzb, hob, hbel⟩
              case measure => simp [intOf]; omega
        · obtain rfl : n = 60 := by omega
          go_wp2
          go_ret
          refine ⟨w.heap.size, rfl, ?_, hbel⟩
          refine Blk.eq hn ?_
          show zcells false (wayP m F 60 0) = zcells false (fun p q => wid (m p q) (m' p q))
          unfold zcells
          rw [wayP_all, show F = fun p q => wid (m p q) (m' p q) from funext fun p => funext fun q => Hf.out p q]

theorem widen_any (w : World) (b b' : Nat) (z o : Zn) (hz : ZAt w b z) (ho : ZAt w b' o) :
    Calls Try.prog 41 #[.pointer (some ⟨b, 0, none⟩), .pointer (some ⟨b', 0, none⟩)] w (RetZ w (joinZ wid z o)) := by
  go_enter Try.func41, Try.ntmps41
  go_wp2_with (go_at_call 64; refine (joined_wid _ _ _ _ _ hz ho).mono ?_; rintro e w1 ⟨b1, rfl, hz1, hbel1⟩)
  go_ret
  exact ⟨b1, rfl, hz1, hbel1⟩

end Go.Proofs.YtfpbjjdlchplnaaR
