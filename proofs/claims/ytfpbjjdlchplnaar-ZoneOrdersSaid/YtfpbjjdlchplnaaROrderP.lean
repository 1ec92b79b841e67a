/- Plain facts: bounds added in any order give one zone. No program. -/
import Derived.Test.YtfpbjjdlchplnaaRBackP
import Derived.Test.YtfpbjjdlchplnaaRSame
import Derived.Test.YtfpbjjdlchplnaaRBound
import Derived.Test.YtfpbjjdlchplnaaRTurn
namespace Go.Proofs.YtfpbjjdlchplnaaR
open Go Go.RowKit Go.Wr

theorem zand_void {z : Zn} (h : z.e = true → z = zvoid) (i j : Nat) (c : Int) : (zand z i j c).e = true → zand z i j c = zvoid := by
  unfold zand
  repeat' split
  all_goals first
    | exact h
    | (intro _; rfl)
    | (unfold zset; split
       · intro _; rfl
       · intro hh; cases hh)

theorem zwith_void {l : List Cn} : ∀ {z : Zn}, (z.e = true → z = zvoid) → (zwith z l).e = true → zwith z l = zvoid := by
  induction l with
  | nil => intro z h; exact h
  | cons x r ih => intro z h; exact ih (zand_void h _ _ _)

theorem cons_top : consL topT 60 = [] := by
  rw [List.eq_nil_iff_forall_not_mem]
  intro x hx
  obtain ⟨i, j, _, _, h1, h2, _⟩ := mem_consL.1 hx
  unfold topT at h2
  rw [if_neg h1] at h2
  exact h2 rfl

theorem close_void {l : List Cn} (h : (closeZ l).e = true) : closeZ l = zvoid := by
  unfold closeZ at *
  generalize fwT l 60 = T at *
  unfold zset at *
  split
  · rfl
  · rename_i hh; rw [if_neg hh] at h; cases h

theorem wrong_sub {l l' : List Cn} (h : wrongL l = 0) (hs : ∀ x, x ∈ l' → x ∈ l) : wrongL l' = 0 := wrong_of_all fun x hx => by
  obtain ⟨h1, h2, h3⟩ := wrongL_ok h x (hs x hx)
  unfold wrongL
  simp only [h1, h2, h3, Bool.and_self, if_true]
  rfl

/-- What ZoneOrders needs of a list of bounds and a place to cut it, said plainly. -/
structure OrderFacts (L : List Cn) (k : Nat) (z1 z2 z3 z0 z4 : Zn) : Prop where
  one : zwith znew L = z1
  two : zwith znew L.reverse = z2
  three : closeZ L = z3
  zero : zwith znew (L.drop k) = z0
  four : zwith z0 (L.take k) = z4
  wrong : wrongL L = 0
  wrong2 : wrongL L.reverse = 0
  wrong3 : wrongL (L.drop k) = 0
  wrong4 : wrongL (L.take k) = 0
  rng0 : Rng z0.m
  rng3 : Rng z3.m
  s2 : sameZ z1 z2 = true
  s3 : sameZ z1 z3 = true
  s4 : sameZ z1 z4 = true
  e3 : z3.e = z1.e
  c3 : eqL (consL z3.m 60) (rconsL z3.e z3.m) = true
  v1 : z1.e = true → consL z1.m 60 = []
  tri : z1.e = false → ∀ p k q, p < 60 → k < 60 → q < 60 → z1.m p k ≠ 2305843009213693952 → z1.m k q ≠ 2305843009213693952 → z1.m p q ≠ 2305843009213693952 ∧ z1.m p q ≤ z1.m p k + z1.m k q
  rng1 : Rng z1.m

theorem order_facts {L : List Cn} (k : Nat) (hw : wrongL L = 0) (hf : Fine 1099511627776 L) : ∃ z1 z2 z3 z0 z4, OrderFacts L k z1 z2 z3 z0 z4 := by
  have g1 := good_with (K := 1099511627776) (by omega) (by omega) hf
  have hr : ∀ x, x ∈ L ↔ x ∈ L.reverse := fun x => by simp
  have hd : ∀ x, x ∈ L ↔ x ∈ L.drop k ++ L.take k := fun x => by
    rw [List.mem_append, or_comm, ← List.mem_append, List.take_append_drop]
  have g2 := good_with (K := 1099511627776) (by omega) (by omega) (l := L.reverse) (fun x hx => hf x ((hr x).2 hx))
  have g4 := good_with (K := 1099511627776) (by omega) (by omega) (l := L.drop k ++ L.take k) (fun x hx => hf x ((hd x).2 hx))
  have g3 := good_close (K := 1099511627776) (by omega) (by omega) hf
  obtain ⟨a2, b2⟩ := good_two g1 g2 hr
  obtain ⟨a3, b3⟩ := good_two g1 g3 (fun x => Iff.rfl)
  obtain ⟨a4, b4⟩ := good_two g1 g4 hd
  have e4 : zwith znew (L.drop k ++ L.take k) = zwith (zwith znew (L.drop k)) (L.take k) := by
    unfold zwith; rw [List.foldl_append]
  rw [e4] at a4 b4
  have hbs : ∀ x ∈ L, -1152921504606846976 ≤ x.c ∧ x.c ≤ 1152921504606846976 := fun x hx => bd_iff.1 (wrongL_ok hw x hx).2.2
  refine ⟨_, _, _, _, _, ⟨rfl, rfl, rfl, rfl, rfl, hw, ?_, ?_, ?_, zwith_rng topT_rng, zset_rng (fwT_rng hbs 60), sameZ_of a2 b2, sameZ_of a3 b3, sameZ_of a4 b4, a3.symm, ?_, ?_, ?_, zwith_rng topT_rng⟩⟩
  · exact wrong_sub hw fun x hx => (hr x).2 hx
  · exact wrong_sub hw fun x hx => List.mem_of_mem_drop hx
  · exact wrong_sub hw fun x hx => List.mem_of_mem_take hx
  · rw [eqL_iff]
    cases h : (closeZ L).e with
    | false => rfl
    | true => rw [close_void h]; exact cons_top
  · intro h
    rw [zwith_void (fun h => by cases h) h]
    exact cons_top
  · intro h p k q hp hk hq h1 h2
    rcases g1 with ⟨h', _⟩ | ⟨_, ht⟩
    · rw [h] at h'; cases h'
    · exact ht.tri hp hk hq h1 h2

/-- A slice's part behind a place, and ahead of it. -/
theorem Sl3.drop {w : World} {g o cap : Nat} {l : List Cn} (h : Sl3 w (.slice (some ⟨g, o, none⟩) l.length cap) l) {k : Nat} (hk : k ≤ l.length) (cap' : Nat) : Sl3 w (.slice (some ⟨g, o + k * 3, none⟩) (l.length - k) cap') (l.drop k) := by
  obtain ⟨a0, c, hv, hl, hc⟩ := h
  simp only [Value.slice.injEq] at hv
  obtain ⟨rfl, _, _⟩ := hv
  refine ⟨_, cap', by rw [List.length_drop], by rw [List.length_drop]; omega, fun j x hx => ?_⟩
  rw [List.getElem?_drop] at hx
  obtain ⟨b, off, ha, h0, h1, h2⟩ := hc (k + j) x hx
  simp only [Option.some.injEq, Addr.mk.injEq, and_true] at ha
  obtain ⟨rfl, rfl⟩ := ha
  rw [show o + (k + j) * 3 = o + k * 3 + j * 3 by omega] at h0 h1 h2
  exact ⟨_, _, rfl, h0, h1, h2⟩

theorem Sl3.take {w : World} {a : Option Addr} {cap : Nat} {l : List Cn} (h : Sl3 w (.slice a l.length cap) l) {k : Nat} (hk : k ≤ l.length) (cap' : Nat) : Sl3 w (.slice a k cap') (l.take k) := by
  obtain ⟨a0, c, hv, hl, hc⟩ := h
  simp only [Value.slice.injEq] at hv
  obtain ⟨rfl, _, _⟩ := hv
  refine ⟨_, cap', by rw [List.length_take, Nat.min_eq_left hk], by rw [List.length_take]; omega, fun j x hx => ?_⟩
  have hj : j < k := by have := (List.getElem?_eq_some_iff.1 hx).1; rw [List.length_take] at this; omega
  rw [List.getElem?_take, if_pos hj] at hx
  exact hc j x hx

end Go.Proofs.YtfpbjjdlchplnaaR
