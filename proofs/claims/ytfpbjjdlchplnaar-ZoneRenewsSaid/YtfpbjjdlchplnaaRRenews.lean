/- ZoneRenews returns true for every input; nothing that was there is turned. -/
import Derived.Test.YtfpbjjdlchplnaaRNear
import Derived.Test.YtfpbjjdlchplnaaRHoldsP
import Derived.Test.YtfpbjjdlchplnaaRArgO
import Derived.Test.YtfpbjjdlchplnaaRFrame
import Derived.Deep.QuietTactic
import Derived.BigQuiet
import Derived.IntWalk
import Derived.Deep.DeepCutAuto
namespace Go.Proofs.YtfpbjjdlchplnaaR
open Go Go.RowKit Go.Wr
open Go.ChangeShapes Go.WideShapes Go.ChangeAt
set_option maxHeartbeats 8000000
set_option maxRecDepth 100000

theorem ArgC.sl {w : World} {v : Value} {l : List Cn} (h : ArgC w v l) : Sl3 w v l := h.1
theorem ArgC.len {w : World} {v : Value} {l : List Cn} (h : ArgC w v l) : l.length * 24 ≤ 140737488355328 := by have := h.2.1; omega
theorem ArgC.cap {w : World} {v : Value} {l : List Cn} (h : ArgC w v l) : Cap v l.length := h.2.2.2
theorem emod_nat (i : Int) : ∃ p : Nat, p < 60 ∧ i % 60 = (p : Int) := by
  have h1 := Int.emod_nonneg i (show (60 : Int) ≠ 0 by omega)
  have h2 := Int.emod_lt_of_pos i (show (0 : Int) < 60 by omega)
  exact ⟨(i % 60).toNat, by omega, by omega⟩

theorem mt_maxL {m n : Nat → Nat → Int} {f : Nat → Int} (h : Mt m f) (k : Rng n) : Mt (fun p q => max (m p q) (n p q)) f := fun a b ha hb hn => by
  have hn' : max (m a b) (n a b) ≠ 2305843009213693952 := hn
  show f a - f b ≤ max (m a b) (n a b)
  have r := k a b ha hb
  by_cases e : m a b = 2305843009213693952
  · exfalso; apply hn'; omega
  · have := h a b ha hb e; omega
theorem mt_maxR {m n : Nat → Nat → Int} {f : Nat → Int} (h : Mt n f) (k : Rng m) : Mt (fun p q => max (m p q) (n p q)) f := fun a b ha hb hn => by
  have hn' : max (m a b) (n a b) ≠ 2305843009213693952 := hn
  show f a - f b ≤ max (m a b) (n a b)
  have r := k a b ha hb
  by_cases e : n a b = 2305843009213693952
  · exfalso; apply hn'; omega
  · have := h a b ha hb e; omega

theorem loses_tight {l : List Cn} {m : Nat → Nat → Int} (hz : zwith znew (smallL l) = ⟨false, m⟩) : Tight (smallL l) m := by
  have hg0 := good_with (K := 1099511627776) (by omega) (by omega) (small_fine l)
  rw [hz] at hg0
  rcases hg0 with ⟨h, _⟩ | ⟨_, ht0⟩
  · cases h
  · exact ht0

/-- What the law holds of Join's bound. -/
theorem join_bound {l l2 : List Cn} {m n : Nat → Nat → Int} (hz : zwith znew (smallL l) = ⟨false, m⟩) (hz2 : zwith znew (smallL l2) = ⟨false, n⟩) {p q : Nat} (hp : p < 60) (hq : q < 60) :
    (max (m p q) (n p q) ≠ 2305843009213693952 ∧ (reachF m q 1125899906842624 p - reachF m q 1125899906842624 q = max (m p q) (n p q) ∨ reachF n q 1125899906842624 p - reachF n q 1125899906842624 q = max (m p q) (n p q))) ∨
    (max (m p q) (n p q) = 2305843009213693952 ∧ (281474976710656 < reachF m q 1125899906842624 p - reachF m q 1125899906842624 q ∨ 281474976710656 < reachF n q 1125899906842624 p - reachF n q 1125899906842624 q)) := by
  have t1 := loses_tight hz
  have t2 := loses_tight hz2
  have r1 := (loses_cl hz).rng (by omega) p q hp hq
  have r2 := (loses_cl hz2).rng (by omega) p q hp hq
  by_cases e1 : m p q = 2305843009213693952
  · right
    exact ⟨by omega, Or.inl (reach_far t1 (small_fine l) (by omega) (by omega) hp hq e1)⟩
  · by_cases e2 : n p q = 2305843009213693952
    · right
      exact ⟨by omega, Or.inr (reach_far t2 (small_fine l2) (by omega) (by omega) hp hq e2)⟩
    · left
      have a := reach_bound t1 (small_fine l) (by omega) (by omega) hp hq e1
      have b := reach_bound t2 (small_fine l2) (by omega) (by omega) hp hq e2
      refine ⟨by omega, ?_⟩
      rw [a, b]
      omega

/-- What the law holds of Put's answer. -/
theorem renew_facts {m : Nat → Nat → Int} (h : Cl 64871186038784 m) (up dn : List (Bool × Int)) {x : Nat} (hx1 : 1 ≤ x) (hx : x < 60) :
    (okTo x (bndL (nearF up)) 60 = true ∧ okTo x (bndL (nearF dn)) 60 = true) ∧
    ((∃ T, zset (putT m x (bndL (nearF up)) (bndL (nearF dn))) = ⟨true, T⟩) ∨
     (zset (putT m x (bndL (nearF up)) (bndL (nearF dn))) = ⟨false, putT m x (bndL (nearF up)) (bndL (nearF dn))⟩ ∧ Cl 281474976710656 (putT m x (bndL (nearF up)) (bndL (nearF dn))) ∧
      ∀ f, Mt (putT m x (bndL (nearF up)) (bndL (nearF dn))) f →
        (∀ k, k < 60 → k ≠ x → (nearF up k).1 = true → f x - f k ≤ (nearF up k).2) ∧ (∀ k, k < 60 → k ≠ x → (nearF dn k).1 = true → f k - f x ≤ (nearF dn k).2) ∧ MtO m f (opn [(x : Int)]))) := by
  have hNs : ∀ l, Near (abv x (bndL (nearF l))) := fun l k hk hne => by
    rw [abv_bnd hk] at hne ⊢
    by_cases c : k ≠ x ∧ (nearF l k).1 = true
    · rw [if_pos c]; exact nearF_is c.2
    · rw [if_neg c] at hne; exact absurd rfl hne
  have hOs : ∀ l, okTo x (bndL (nearF l)) 60 = true := fun l => okTo_bnd fun k hk hkx he => bd_iff.2 (by have := nearF_is he; omega)
  refine ⟨⟨hOs up, hOs dn⟩, ?_⟩
  by_cases hz : ∀ p, p < 60 → 0 ≤ putT m x (bndL (nearF up)) (bndL (nearF dn)) p p
  · right
    have hcl := put_cl h (hNs up) (hNs dn) hx hz
    refine ⟨zset_zone hz, hcl, fun f hf => ⟨fun k hk hkx he => ?_, fun k hk hkx he => ?_, put_open h (hNs up) (hNs dn) hx1 hx hf⟩⟩
    · have o := (put_own (m := m) h.diag (hOs up) (hOs dn) hk hkx).1
      have r := (put_row (m := m) (lu := bndL (nearF up)) (ld := bndL (nearF dn)) hk hkx).1
      rw [abv_bnd hk, if_pos ⟨hkx, he⟩] at o
      have n := nearF_is he
      have := hf x k hx hk (by rw [r]; omega)
      rw [r] at this
      omega
    · have o := (put_own (m := m) h.diag (hOs up) (hOs dn) hk hkx).2
      have r := (put_row (m := m) (lu := bndL (nearF up)) (ld := bndL (nearF dn)) hk hkx).2
      rw [abv_bnd hk, if_pos ⟨hkx, he⟩] at o
      have n := nearF_is he
      have := hf k x hk hx (by rw [r]; omega)
      rw [r] at this
      omega
  · left
    have : ∃ p, p < 60 ∧ putT m x (bndL (nearF up)) (bndL (nearF dn)) p p < 0 := by
      refine Classical.byContradiction fun hn => hz fun p hp => ?_
      refine Classical.byContradiction fun hn2 => hn ⟨p, hp, by omega⟩
    obtain ⟨p, hp, h0⟩ := this
    exact ⟨_, zset_void hp h0⟩

theorem renews_zone (w : World) (cs : Value) (l : List Cn) (hcs : ArgC w cs l) (ms : Value) (l2 : List Cn) (hms : ArgC w ms l2) (vo : Value) (o : OpA) (ho : ArgO w vo o) (i : Int) (hi : I64 i) (j : Int) (hj : I64 j) (he : (zwith znew (smallL l)).e = false) (he2 : (zwith znew (smallL l2)).e = false) :
    Calls Try.prog 11 #[cs, ms, vo, .int .i64 i, .int .i64 j] w fun e w' => e = .returned (.bool true) ∧ Below w.heap.size w w' := by
  have HC := Lib.hid hcs
  have HM := Lib.hid hms
  have HW := Lib.hid (small_wrong l)
  have HW2 := Lib.hid (small_wrong l2)
  have hln : (smallL l).length * 24 ≤ 140737488355328 := by
    have h1 := hcs.len
    have h2 : (smallL l).length ≤ l.length := List.length_filter_le _ _
    omega
  have hln2 : (smallL l2).length * 24 ≤ 140737488355328 := by
    have h1 := hms.len
    have h2 : (smallL l2).length ≤ l2.length := List.length_filter_le _ _
    omega
  have hzz : zwith znew (smallL l) = ⟨false, (zwith znew (smallL l)).m⟩ := by rw [← he]
  have hzz2 : zwith znew (smallL l2) = ⟨false, (zwith znew (smallL l2)).m⟩ := by rw [← he2]
  obtain ⟨p, hp, ep⟩ := emod_nat i
  obtain ⟨q, hq, eq⟩ := emod_nat j
  obtain ⟨m, Hmm⟩ : ∃ m, Hid (m = (zwith znew (smallL l)).m) := ⟨_, rfl⟩
  obtain ⟨n, Hnn⟩ : ∃ n, Hid (n = (zwith znew (smallL l2)).m) := ⟨_, rfl⟩
  rw [← Hmm.out] at hzz
  rw [← Hnn.out] at hzz2
  have HC1 := Lib.hid (loses_cl hzz)
  have HC2 := Lib.hid (loses_cl hzz2)
  have HR1 : Hid (Rng m) := (loses_cl hzz).rng (by omega)
  have HR2 : Hid (Rng n) := (loses_cl hzz2).rng (by omega)
  obtain ⟨L, HL⟩ : ∃ L, Hid (L = smallL l) := ⟨_, rfl⟩
  obtain ⟨M, HL2⟩ : ∃ M, Hid (M = smallL l2) := ⟨_, rfl⟩
  rw [← HL.out] at HW hln hzz
  rw [← HL2.out] at HW2 hln2 hzz2
  have HJB := Lib.hid (join_bound (by rw [← HL.out]; exact hzz) (by rw [← HL2.out]; exact hzz2) hp hq)
  have HZZ := Lib.hid hzz
  have HZZ2 := Lib.hid hzz2
  have EP := Lib.hid ep
  have EQ := Lib.hid eq
  obtain ⟨ok, oz, oo, ox, oy, oc, sv, sc, su, sd, vs, ocs, up, dn⟩ := o
  obtain ⟨rfl, ⟨_, _, _, hox, _, _⟩, _, _, _, hup, hdn⟩ := ho
  simp only at hox hup hdn
  have HUP := Lib.hid hup
  have HDN := Lib.hid hdn
  clear hcs hms he he2 hzz hzz2 ep eq hup hdn Hmm Hnn
  go_enter Try.func11, Try.ntmps11
  go_wp2_with fail
  refine (new_any _).mono ?_
  rintro e w1 ⟨p1, rfl, z1, b1⟩
  have t1 := bThen (bAl (bRefl w) _) b1
  have X1 := Lib.hid ((Blk.new w 56 _).below b1 (Blk.lt (Blk.new _ _ _)))
  have Z1 := Lib.hid z1
  clear z1 b1
  go_wp2_with fail
  refine (small_any _ _ l (HC.out.sl.below t1) HC.out.cap HC.out.len).mono ?_
  rintro e w2 ⟨v2, rfl, o2, b2⟩
  rw [← HL.out] at o2
  have S2 := Lib.hid (Sl3.own (l := L) o2 rfl (by omega))
  have Z2 := Lib.hid (Z1.out.below b2 Z1.out.lt)
  have X2 := Lib.hid (X1.out.below b2 X1.out.lt)
  have t2 := bThen t1 b2
  clear o2
  go_wp2_with fail
  refine (lcons_any _ _ L S2.out hln).mono ?_
  rintro e w3 ⟨v3, rfl, o3, b3⟩
  have t3 := bThen t2 b3
  have S3 := Lib.hid (Sl3.own o3 rfl (by omega))
  have X3 := Lib.hid (X2.out.below b3 X2.out.lt)
  clear o3
  go_wp2_with fail
  refine (with_ok _ p1 znew (Z2.out.below b3 Z2.out.lt) topT_rng _ L S3.out HW.out).mono ?_
  rintro e w4 ⟨p4, rfl, z4, b4⟩
  rw [HZZ.out] at z4
  have t4 := bThen t3 b4
  have X4 := Lib.hid (X3.out.below b4 X3.out.lt)
  have Z4 := Lib.hid z4
  clear b2 b3 b4 t1 t2 t3 z4 Z1 Z2 X1 X2 X3 S2 S3
  go_wp2_with fail
  refine (new_any _).mono ?_
  rintro e w5 ⟨p5, rfl, z5, b5⟩
  have t5 := bThen t4 b5
  have X5 := Lib.hid (X4.out.below b5 X4.out.lt)
  have Z5 := Lib.hid (Z4.out.below b5 Z4.out.lt)
  have N5 := Lib.hid z5
  clear z5 b5 t4 X4 Z4
  go_wp2_with fail
  refine (small_any _ _ l2 (HM.out.sl.below t5) HM.out.cap HM.out.len).mono ?_
  rintro e w6 ⟨v6, rfl, o6, b6⟩
  rw [← HL2.out] at o6
  have S6 := Lib.hid (Sl3.own (l := M) o6 rfl (by omega))
  have t6 := bThen t5 b6
  have X6 := Lib.hid (X5.out.below b6 X5.out.lt)
  have Z6 := Lib.hid (Z5.out.below b6 Z5.out.lt)
  have N6 := Lib.hid (N5.out.below b6 N5.out.lt)
  clear o6 b6 t5 X5 Z5 N5
  go_wp2_with fail
  refine (lcons_any _ _ M S6.out hln2).mono ?_
  rintro e w7 ⟨v7, rfl, o7, b7⟩
  have S7 := Lib.hid (Sl3.own o7 rfl (by omega))
  have t7 := bThen t6 b7
  have X7 := Lib.hid (X6.out.below b7 X6.out.lt)
  have Z7 := Lib.hid (Z6.out.below b7 Z6.out.lt)
  have N7 := Lib.hid (N6.out.below b7 N6.out.lt)
  clear o7 b7 t6 X6 Z6 N6 S6
  go_wp2_with fail
  refine (with_ok _ p5 znew N7.out topT_rng _ M S7.out HW2.out).mono ?_
  rintro e w8 ⟨p8, rfl, z8, b8⟩
  rw [HZZ2.out] at z8
  have t8 := bThen t7 b8
  have X8 := Lib.hid (X7.out.below b8 X7.out.lt)
  have Z8 := Lib.hid (Z7.out.below b8 Z7.out.lt)
  have O8 := Lib.hid z8
  clear z8 b8 t7 X7 Z7 N7 S7
  go_wp2_with fail
  refine (empty_any _ p4 _ Z8.out).mono ?_
  rintro e w9 ⟨rfl, rfl⟩
  go_wp2_with fail
  refine (empty_any _ p8 _ O8.out).mono ?_
  rintro e w9 ⟨rfl, rfl⟩
  go_wp2_with fail
  refine (place_any i 60 _ hi (by omega) (by omega)).mono ?_
  rintro e w9 ⟨rfl, rfl⟩
  rw [EP.out]
  go_wp2_with fail
  refine (place_any j 60 _ hj (by omega) (by omega)).mono ?_
  rintro e w9 ⟨rfl, rfl⟩
  rw [EQ.out]
  go_wp2_with fail
  refine (join_any _ p4 p8 ⟨false, m⟩ ⟨false, n⟩ Z8.out O8.out).mono ?_
  rintro e w9 ⟨p9, rfl, z9, b9⟩
  have t9 := bThen t8 b9
  have X9 := Lib.hid (X8.out.below b9 X8.out.lt)
  have Z9 := Lib.hid (Z8.out.below b9 Z8.out.lt)
  have O9 := Lib.hid (O8.out.below b9 O8.out.lt)
  have J9 := Lib.hid z9
  clear z9 b9 t8 X8 Z8 O8
  obtain ⟨K, HK⟩ : ∃ K : Nat → Nat → Int, Hid (K = fun p q => max (m p q) (n p q)) := ⟨_, rfl⟩
  have hJ : ZAt w9 p9 ⟨false, K⟩ := by rw [HK.out]; exact J9.out
  have JK := Lib.hid hJ
  have HRK : Hid (Rng K) := by show Rng K; rw [HK.out]; exact max_rng HR1.out HR2.out
  have HMA : Hid (Mt K (reachF m q 1125899906842624)) := by show Mt K _; rw [HK.out]; exact mt_maxL (HC1.out.reach q) HR2.out
  have HMC : Hid (Mt K (reachF n q 1125899906842624)) := by show Mt K _; rw [HK.out]; exact mt_maxR (HC2.out.reach q) HR1.out
  clear hJ J9
  go_wp2_with fail
  refine (bound_any _ p9 ⟨false, K⟩ JK.out p q).mono ?_
  rintro e wa ⟨rfl, ba⟩
  have ta := bThen t9 ba
  have XA := Lib.hid (X9.out.below ba X9.out.lt)
  have ZA := Lib.hid (Z9.out.below ba Z9.out.lt)
  have OA := Lib.hid (O9.out.below ba O9.out.lt)
  have JA := Lib.hid (JK.out.below ba JK.out.lt)
  obtain ⟨A, HAE⟩ : ∃ A, Hid (A = reachF m q 1125899906842624) := ⟨_, rfl⟩
  obtain ⟨C, HCE⟩ : ∃ C, Hid (C = reachF n q 1125899906842624) := ⟨_, rfl⟩
  have hba : Bnd 36310271995674624 A := by rw [HAE.out]; exact HC1.out.reachB (by omega) q
  have hbc : Bnd 36310271995674624 C := by rw [HCE.out]; exact HC2.out.reachB (by omega) q
  have AI : Hid (∀ k, k < 60 → I64 (A k)) := fun k hk => by have := hba k hk; unfold I64; omega
  have CI : Hid (∀ k, k < 60 → I64 (C k)) := fun k hk => by have := hbc k hk; unfold I64; omega
  have kr := HRK.out p q hp hq
  have hb4 : (∃ yb yc, Hid (bndZ ⟨false, K⟩ (p : Int) (q : Int) = (yb, yc)) ∧ yb = true ∧ A p - A q = yc ∧ -1152921504606846976 ≤ yc ∧ yc ≤ 1152921504606846976) ∨
      (∃ yb yc, Hid (bndZ ⟨false, K⟩ (p : Int) (q : Int) = (yb, yc)) ∧ yb = true ∧ C p - C q = yc ∧ -1152921504606846976 ≤ yc ∧ yc ≤ 1152921504606846976) ∨
      (∃ yb yc, Hid (bndZ ⟨false, K⟩ (p : Int) (q : Int) = (yb, yc)) ∧ yb = false ∧ yc = 0 ∧ 281474976710656 < A p - A q) ∨
      (∃ yb yc, Hid (bndZ ⟨false, K⟩ (p : Int) (q : Int) = (yb, yc)) ∧ yb = false ∧ yc = 0 ∧ 281474976710656 < C p - C q) := by
    have ek : K p q = max (m p q) (n p q) := by rw [HK.out]
    have hj := HJB.out
    rw [← ek, ← HAE.out, ← HCE.out] at hj
    rcases hj with ⟨h1, h2 | h2⟩ | ⟨h1, h2 | h2⟩
    · exact Or.inl ⟨_, _, bndZ_some hp hq h1, rfl, h2, by omega, by omega⟩
    · exact Or.inr (Or.inl ⟨_, _, bndZ_some hp hq h1, rfl, h2, by omega, by omega⟩)
    · exact Or.inr (Or.inr (Or.inl ⟨_, _, bndZ_none hp hq h1, rfl, rfl, h2⟩))
    · exact Or.inr (Or.inr (Or.inr ⟨_, _, bndZ_none hp hq h1, rfl, rfl, h2⟩))
  have HB4 := Lib.hid hb4
  have HBA := Lib.hid hba
  have HBC := Lib.hid hbc
  clear hb4 hba hbc kr
  obtain ⟨yb, yc, HB⟩ : ∃ yb yc, Hid (bndZ ⟨false, K⟩ (p : Int) (q : Int) = (yb, yc)) := ⟨_, _, rfl⟩
  rw [HB.out]
  go_wp2_with fail
  refine (Reach_any _ p4 m (Blk.alloc ZA.out _) HR1.out p q).mono ?_
  rintro e wb ⟨ga, rfl, hga, _, bb⟩
  rw [← HAE.out] at hga
  have U3 := Lib.hid ((Blk.new wa 28 _).below bb (Blk.lt (Blk.new _ _ _)))
  have tb := bThen (bAl ta _) bb
  have XB := Lib.hid ((XA.out.alloc _).below bb (XA.out.alloc _).lt)
  have ZB := Lib.hid (ZAt.below (Blk.alloc ZA.out _) bb (Blk.alloc ZA.out _).lt)
  have OB := Lib.hid (ZAt.below (Blk.alloc OA.out _) bb (Blk.alloc OA.out _).lt)
  have JB := Lib.hid (ZAt.below (Blk.alloc JA.out _) bb (Blk.alloc JA.out _).lt)
  have GB := Lib.hid hga
  clear hga bb ta XA ZA OA JA
  go_wp2_with fail
  refine (Reach_any _ p8 n OB.out HR2.out p q).mono ?_
  rintro e wd ⟨gc, rfl, hgc, _, bd⟩
  rw [← HCE.out] at hgc
  have td := bThen tb bd
  have XD := Lib.hid (XB.out.below bd XB.out.lt)
  have ZD := Lib.hid (ZB.out.below bd ZB.out.lt)
  have OD := Lib.hid (OB.out.below bd OB.out.lt)
  have JD := Lib.hid (JB.out.below bd JB.out.lt)
  have GD := Lib.hid (GB.out.below bd GB.out.lt)
  have UD := Lib.hid (U3.out.below bd U3.out.lt)
  have CD := Lib.hid hgc
  have HMA' : Hid (Mt K A) := by show Mt K A; rw [HAE.out]; exact HMA.out
  have HMC' : Hid (Mt K C) := by show Mt K C; rw [HCE.out]; exact HMC.out
  clear hgc bd tb XB ZB OB JB GB U3
  go_wp2_with fail
  refine (meets_any _ p9 ⟨false, K⟩ JD.out HRK.out ga A GD.out AI.out).mono ?_
  rintro e we ⟨rfl, be⟩
  rw [HMA'.out.meets]
  have te := bThen td be
  have XE := Lib.hid (XD.out.below be XD.out.lt)
  have ZE := Lib.hid (ZD.out.below be ZD.out.lt)
  have JE := Lib.hid (JD.out.below be JD.out.lt)
  have GE := Lib.hid (GD.out.below be GD.out.lt)
  have UE := Lib.hid (UD.out.below be UD.out.lt)
  have CE := Lib.hid (CD.out.below be CD.out.lt)
  clear be td XD ZD OD JD GD UD CD
  go_wp2_with fail
  refine (meets_any _ p9 ⟨false, K⟩ JE.out HRK.out gc C CE.out CI.out).mono ?_
  rintro e wf ⟨rfl, bf⟩
  rw [HMC'.out.meets]
  have tf := bThen te bf
  have XF := Lib.hid (XE.out.below bf XE.out.lt)
  have ZF := Lib.hid (ZE.out.below bf ZE.out.lt)
  have GF := Lib.hid (GE.out.below bf GE.out.lt)
  have UF := Lib.hid (UE.out.below bf UE.out.lt)
  have CF := Lib.hid (CE.out.below bf CE.out.lt)
  clear bf te XE ZE JE GE UE CE
  go_upto_region 15 with (fail)
  have hy4 : (yb = true ∧ decide (A p - A q = yc) = true) ∨ (yb = true ∧ decide (A p - A q = yc) = false ∧ C p - C q = yc) ∨ (yb = false ∧ 281474976710656 ≤ A p - A q) ∨ (yb = false ∧ A p - A q < 281474976710656 ∧ 281474976710656 ≤ C p - C q) := by
    have hb := HB.out
    rcases HB4.out with ⟨b, c, h, h1, h2, _⟩ | ⟨b, c, h, h1, h2, _⟩ | ⟨b, c, h, h1, h2, h3⟩ | ⟨b, c, h, h1, h2, h3⟩
    all_goals
      rw [h.out] at hb
      simp only [Prod.mk.injEq] at hb
      obtain ⟨rfl, rfl⟩ := hb
    · exact Or.inl ⟨h1, decide_eq_true h2⟩
    · by_cases e : A p - A q = c
      · exact Or.inl ⟨h1, decide_eq_true e⟩
      · exact Or.inr (Or.inl ⟨h1, decide_eq_false e, h2⟩)
    · exact Or.inr (Or.inr (Or.inl ⟨h1, by omega⟩))
    · by_cases e : A p - A q < 281474976710656
      · exact Or.inr (Or.inr (Or.inr ⟨h1, e, by omega⟩))
      · exact Or.inr (Or.inr (Or.inl ⟨h1, by omega⟩))
  go_cut [152] (fun s wc => s = .bool false ∧ ∃ k, wc = wf.drewN k)
  case first =>
    as_aux_lemma =>
    have u0 : wf.cell? ⟨wa.heap.size, 0, none⟩ = some (.bool yb) := UF.out.cell 0
    have u1 : wf.cell? ⟨wa.heap.size, 1, none⟩ = some (.int .i64 yc) := UF.out.cell 1
    have ap := (GF.out.cell p).trans (rcells_get A hp)
    have aq := (GF.out.cell q).trans (rcells_get A hq)
    have cp := (CF.out.cell p).trans (rcells_get C hp)
    have cq := (CF.out.cell q).trans (rcells_get C hq)
    have bap := HBA.out p hp
    have baq := HBA.out q hq
    have bcp := HBC.out p hp
    have bcq := HBC.out q hq
    have wA : IntKind.i64.wrap (A p - A q) = A p - A q := IntWalk.i64_in _ (by omega)
    have wC : IntKind.i64.wrap (C p - C q) = C p - C q := IntWalk.i64_in _ (by omega)
    have hpi : (p : Int) < 60 := by omega
    have hqi : (q : Int) < 60 := by omega
    have gl := GF.out.lt
    have cl := CF.out.lt
    have ul := UF.out.lt
    rcases hy4 with ⟨rfl, h1⟩ | ⟨rfl, h1, h2⟩ | ⟨rfl, h1⟩ | ⟨rfl, h1, h2⟩
    · have n1 : (A p - A q != yc) = false := by rw [bne_eq_false_iff_eq]; exact of_decide_eq_true h1
      clear h1
      go_quiet (fail)
      go_wp2
      go_meet
      exact ⟨rfl, _, rfl⟩
    · have n1 : (A p - A q != yc) = true := by rw [bne_iff_ne]; exact of_decide_eq_false h1
      have n2 : (C p - C q != yc) = false := by rw [bne_eq_false_iff_eq]; exact h2
      clear h1 h2
      go_quiet (fail)
      go_wp2
      go_meet
      exact ⟨rfl, _, rfl⟩
    · have n1 : decide (A p - A q < 281474976710656) = false := decide_eq_false (by omega)
      clear h1
      go_quiet (fail)
      go_wp2
      go_meet
      exact ⟨rfl, _, rfl⟩
    · have n1 : decide (C p - C q < 281474976710656) = false := decide_eq_false (by omega)
      clear h2
      go_quiet (fail)
      go_wp2
      go_meet
      exact ⟨rfl, _, rfl⟩
  case rest =>
    as_aux_lemma =>
    obtain ⟨rfl, kd, hwc⟩ := hcut
    have tg : Below w.heap.size w wc := by rw [hwc]; exact bDraw tf kd
    have XG := Lib.hid (Blk.drewN XF.out kd)
    have ZG : Hid (ZAt wc p4 ⟨false, m⟩) := by rw [hwc]; exact Blk.drewN ZF.out kd
    rw [← hwc] at XG
    clear hwc hy4 tf XF ZF GF UF CF HB4 HBA HBC HB HRK HMA HMC HMA' HMC' AI CI HJB HC2 HR2 HM
    have c8 : wc.cell? ⟨w.heap.size, 8, none⟩ = some su := XG.out.cell 8
    go_wp2_with fail
    clear c8
    refine (near_any _ _ up (SlB.below HUP.out.1 tg)).mono ?_
    rintro e wh ⟨gu, rfl, hgu, _, bh⟩
    have th := bThen tg bh
    have XH := Lib.hid (XG.out.below bh XG.out.lt)
    have ZH := Lib.hid (ZG.out.below bh ZG.out.lt)
    have UH := Lib.hid hgu
    have c9 : wh.cell? ⟨w.heap.size, 9, none⟩ = some sd := XH.out.cell 9
    clear hgu bh tg XG ZG
    go_wp2_with fail
    clear c9
    refine (near_any _ _ dn (SlB.below HDN.out.1 th)).mono ?_
    rintro e wi ⟨gd, rfl, hgd, _, bi⟩
    have ti := bThen th bi
    have XI := Lib.hid (XH.out.below bi XH.out.lt)
    have ZI := Lib.hid (ZH.out.below bi ZH.out.lt)
    have UI := Lib.hid (UH.out.below bi UH.out.lt)
    have DI := Lib.hid hgd
    have c3 : wi.cell? ⟨w.heap.size, 3, none⟩ = some (.int .i64 ox) := XI.out.cell 3
    clear hgd bi th XH ZH UH
    go_wp2_with fail
    clear c3
    obtain ⟨v0, hv0, ev0⟩ : ∃ v0 : Nat, v0 < 59 ∧ ox % 59 = (v0 : Int) := by
      have h1 := Int.emod_nonneg ox (show (59 : Int) ≠ 0 by omega)
      have h2 := Int.emod_lt_of_pos ox (show (0 : Int) < 59 by omega)
      exact ⟨(ox % 59).toNat, by omega, by omega⟩
    have EV := Lib.hid ev0
    obtain ⟨x, hx1, hx, ex⟩ : ∃ x : Nat, 1 ≤ x ∧ x < 60 ∧ 1 + (v0 : Int) = (x : Int) := ⟨1 + v0, by omega, by omega, by omega⟩
    have EX := Lib.hid ex
    clear ev0 ex
    refine (place_any ox 59 _ hox (by omega) (by omega)).mono ?_
    rintro e wj ⟨rfl, rfl⟩
    rw [EV.out]
    go_wp2_with fail
    rw [EX.out]
    obtain ⟨⟨hOU, hOD⟩, hT⟩ := renew_facts HC1.out up dn hx1 hx
    obtain ⟨T, HT⟩ : ∃ T, Hid (T = putT m x (bndL (nearF up)) (bndL (nearF dn))) := ⟨_, rfl⟩
    rw [← HT.out] at hT
    have HTT := Lib.hid hT
    clear hT
    refine (put_ok _ p4 m ZI.out HR1.out x hx1 hx _ (bndL (nearF up)) (SlB.blk UI.out) (bndL_len _) hOU _ (bndL (nearF dn)) (SlB.blk DI.out) (bndL_len _) hOD).mono ?_
    rintro e wk ⟨pk, rfl, zk, bk⟩
    rw [← HT.out] at zk
    have tk := bThen ti bk
    have ZK := Lib.hid (ZI.out.below bk ZI.out.lt)
    have UK := Lib.hid (UI.out.below bk UI.out.lt)
    have DK := Lib.hid (DI.out.below bk DI.out.lt)
    clear hOU hOD bk ti XI ZI UI DI
    rcases HTT.out with ⟨T', ht⟩ | ⟨ht, hcl, hfs⟩
    · rw [ht] at zk
      have NK := Lib.hid zk
      clear zk ht
      go_wp2_with fail
      refine (empty_any _ pk _ NK.out).mono ?_
      rintro e wl ⟨rfl, rfl⟩
      go_wp2_with (go_at_call 13; refine (awake_any _).mono ?_; rintro e w99 ⟨rfl, b99⟩)
      go_ret
      exact ⟨rfl, bThen tk b99⟩
    · rw [ht] at zk
      have NK := Lib.hid zk
      have HRT : Hid (Rng T) := hcl.rng (by omega)
      have HBF := Lib.hid (hcl.reachB (by omega) q)
      have hmf := hcl.reach q
      obtain ⟨f, Hf⟩ : ∃ f, Hid (f = reachF T q 1125899906842624) := ⟨_, rfl⟩
      rw [← Hf.out] at HBF hmf
      obtain ⟨hfu, hfd, hop⟩ := hfs f hmf
      have HMF := Lib.hid hmf.meets
      have HFU := Lib.hid hfu
      have HFD := Lib.hid hfd
      have HOP := Lib.hid hop
      have FI : Hid (∀ k, k < 60 → I64 (f k)) := fun k hk => by have := HBF.out k hk; unfold I64; omega
      clear zk ht hcl hfs hmf hfu hfd hop HTT
      go_wp2_with fail
      refine (empty_any _ pk _ NK.out).mono ?_
      rintro e wl ⟨rfl, rfl⟩
      go_wp2_with fail
      refine (Reach_any _ pk T NK.out HRT.out p q).mono ?_
      rintro e wl ⟨g, rfl, hg, _, bl⟩
      rw [← Hf.out] at hg
      have tl := bThen tk bl
      have ZL := Lib.hid (ZK.out.below bl ZK.out.lt)
      have NL := Lib.hid (NK.out.below bl NK.out.lt)
      have UL := Lib.hid (UK.out.below bl UK.out.lt)
      have DL := Lib.hid (DK.out.below bl DK.out.lt)
      have GL := Lib.hid hg
      clear hg bl tk ZK NK UK DK
      go_wp2
      go_loopw [25] (fun t wr => ∃ k : Nat, k ≤ 60 ∧ t = .int .i64 k ∧ Below wl.heap.size wl wr) (fun t _ => 60 - (intOf t).toNat)
      case atStart => exact ⟨0, by omega, rfl, bRefl _⟩
      case round =>
        as_aux_lemma =>
        obtain ⟨k, hk, rfl, hbel⟩ := hrel
        have gb := GL.out.below hbel GL.out.lt
        have ub := UL.out.below hbel UL.out.lt
        have db := DL.out.below hbel DL.out.lt
        by_cases hlk : k < 60
        · have hlk' : (k : Int) < 60 := by omega
          have hxi : (x : Int) < 60 := by omega
          have gl := gb.lt
          have ul := ub.lt
          have dl := db.lt
          have gx := (gb.cell x).trans (rcells_get f hx)
          have gk := (gb.cell k).trans (rcells_get f hlk)
          have r0 := (ub.cell (k * 2)).trans (pcells_get _ hlk).1
          have r1 := (ub.cell (k * 2 + 1)).trans (pcells_get _ hlk).2
          have s0 := (db.cell (k * 2)).trans (pcells_get _ hlk).1
          have s1 := (db.cell (k * 2 + 1)).trans (pcells_get _ hlk).2
          have bx := HBF.out x hx
          have bk := HBF.out k hlk
          have wA : IntKind.i64.wrap (f x - f k) = f x - f k := IntWalk.i64_in _ (by omega)
          have wB : IntKind.i64.wrap (f k - f x) = f k - f x := IntWalk.i64_in _ (by omega)
          clear gb ub db
          by_cases hkx : k = x
          · have hq : ((k : Int) != (x : Int)) = false := by rw [bne_eq_false_iff_eq]; omega
            clear hkx
            go_wp2
            go_quiet (fail)
            go_wp2
            go_roundw
            case rel => first | exact ⟨k + 1, by omega, by go_num, bDraw hbel _⟩ | exact ⟨k + 1, by omega, by go_num, hbel⟩ | ((repeat apply Exists.intro); exact ⟨⟨k + 1, by omega, by go_num, bDraw hbel _⟩, rfl⟩)
            case measure => simp [intOf]; omega
          · have hq : ((k : Int) != (x : Int)) = true := by rw [bne_iff_ne]; omega
            have hup : ((nearF up k).1 = true ∧ decide ((nearF up k).2 < f x - f k) = false) ∨ ((nearF up k).1 = false ∧ (0 : Int) ≤ 0) := by
              cases e : (nearF up k).1 with
              | true => exact Or.inl ⟨rfl, decide_eq_false (by have := HFU.out k hlk hkx e; omega)⟩
              | false => exact Or.inr ⟨rfl, Int.le_refl _⟩
            have hdn : ((nearF dn k).1 = true ∧ decide ((nearF dn k).2 < f k - f x) = false) ∨ ((nearF dn k).1 = false ∧ (0 : Int) ≤ 0) := by
              cases e : (nearF dn k).1 with
              | true => exact Or.inl ⟨rfl, decide_eq_false (by have := HFD.out k hlk hkx e; omega)⟩
              | false => exact Or.inr ⟨rfl, Int.le_refl _⟩
            clear hkx
            rcases hup with ⟨eu, du⟩ | ⟨eu, du⟩ <;> rcases hdn with ⟨ed, dd⟩ | ⟨ed, dd⟩
            all_goals
              rw [eu] at r0
              rw [ed] at s0
              clear eu ed
              go_wp2
              go_quiet (fail)
              go_wp2
              go_roundw
              case rel => first | exact ⟨k + 1, by omega, by go_num, bDraw hbel _⟩ | ((repeat apply Exists.intro); exact ⟨⟨k + 1, by omega, by go_num, bDraw hbel _⟩, rfl⟩)
              case measure => simp [intOf]; omega
        · obtain rfl : k = 60 := by omega
          have tm := bThen tl hbel
          have ZM := Lib.hid (ZL.out.below hbel ZL.out.lt)
          have NM := Lib.hid (NL.out.below hbel NL.out.lt)
          have GM := Lib.hid gb
          clear gb ub db
          go_wp2_with fail
          refine (extend_any _ p4 m (Blk.alloc ZM.out _) (HC1.out.wide (by omega)) g f (GM.out.alloc _) HBF.out _ [(x : Int)] (SlI.one ((Blk.new wr 3 #[.int .i64 x]).cell 0) 1) HOP.out).mono ?_
          rintro e wn ⟨ud, rfl, bn⟩
          have tn := bThen (bAl tm _) bn
          have NN := Lib.hid (ZAt.below (Blk.alloc NM.out _) bn (Blk.alloc NM.out _).lt)
          have GN := Lib.hid ((GM.out.alloc _).below bn (GM.out.alloc _).lt)
          clear bn tm ZM NM GM
          go_wp2_with fail
          refine (meets_any _ pk ⟨false, T⟩ NN.out HRT.out g f GN.out FI.out).mono ?_
          rintro e wo ⟨rfl, bo⟩
          rw [HMF.out]
          have to' := bThen tn bo
          go_wp2_with (go_at_call 13; refine (awake_any _).mono ?_; rintro e w99 ⟨rfl, b99⟩)
          go_ret
          exact ⟨rfl, bThen to' b99⟩

theorem renews_void (w : World) (cs : Value) (l : List Cn) (hcs : ArgC w cs l) (ms : Value) (l2 : List Cn) (hms : ArgC w ms l2) (vo : Value) (o : OpA) (ho : ArgO w vo o) (i j : Int) (e1 e2 : Bool) (m1 m2 : Nat → Nat → Int) (he1 : zwith znew (smallL l) = ⟨e1, m1⟩) (he2 : zwith znew (smallL l2) = ⟨e2, m2⟩) (he : e1 = true ∨ (e1 = false ∧ e2 = true)) :
    Calls Try.prog 11 #[cs, ms, vo, .int .i64 i, .int .i64 j] w fun e w' => e = .returned (.bool true) ∧ Below w.heap.size w w' := by
  have HC := Lib.hid hcs
  have HM := Lib.hid hms
  have HW := Lib.hid (small_wrong l)
  have HW2 := Lib.hid (small_wrong l2)
  have hln : (smallL l).length * 24 ≤ 140737488355328 := by
    have h1 := hcs.len
    have h2 : (smallL l).length ≤ l.length := List.length_filter_le _ _
    omega
  have hln2 : (smallL l2).length * 24 ≤ 140737488355328 := by
    have h1 := hms.len
    have h2 : (smallL l2).length ≤ l2.length := List.length_filter_le _ _
    omega
  obtain ⟨L, HL⟩ : ∃ L, Hid (L = smallL l) := ⟨_, rfl⟩
  obtain ⟨M, HL2⟩ : ∃ M, Hid (M = smallL l2) := ⟨_, rfl⟩
  rw [← HL.out] at HW hln he1
  rw [← HL2.out] at HW2 hln2 he2
  have HZ1 := Lib.hid he1
  have HZ2 := Lib.hid he2
  have HE := Lib.hid he
  obtain ⟨rfl, _⟩ := ho
  clear hcs hms he he1 he2
  go_enter Try.func11, Try.ntmps11
  go_wp2_with fail
  refine (new_any _).mono ?_
  rintro e w1 ⟨p1, rfl, z1, b1⟩
  have t1 := bThen (bAl (bRefl w) _) b1
  have X1 := Lib.hid ((Blk.new w 56 _).below b1 (Blk.lt (Blk.new _ _ _)))
  have Z1 := Lib.hid z1
  clear z1 b1
  go_wp2_with fail
  refine (small_any _ _ l (HC.out.sl.below t1) HC.out.cap HC.out.len).mono ?_
  rintro e w2 ⟨v2, rfl, o2, b2⟩
  rw [← HL.out] at o2
  have S2 := Lib.hid (Sl3.own (l := L) o2 rfl (by omega))
  have Z2 := Lib.hid (Z1.out.below b2 Z1.out.lt)
  have X2 := Lib.hid (X1.out.below b2 X1.out.lt)
  have t2 := bThen t1 b2
  clear o2
  go_wp2_with fail
  refine (lcons_any _ _ L S2.out hln).mono ?_
  rintro e w3 ⟨v3, rfl, o3, b3⟩
  have t3 := bThen t2 b3
  have S3 := Lib.hid (Sl3.own o3 rfl (by omega))
  have X3 := Lib.hid (X2.out.below b3 X2.out.lt)
  clear o3
  go_wp2_with fail
  refine (with_ok _ p1 znew (Z2.out.below b3 Z2.out.lt) topT_rng _ L S3.out HW.out).mono ?_
  rintro e w4 ⟨p4, rfl, z4, b4⟩
  rw [HZ1.out] at z4
  have t4 := bThen t3 b4
  have X4 := Lib.hid (X3.out.below b4 X3.out.lt)
  have Z4 := Lib.hid z4
  clear b2 b3 b4 t1 t2 t3 z4 Z1 Z2 X1 X2 X3 S2 S3
  go_wp2_with fail
  refine (new_any _).mono ?_
  rintro e w5 ⟨p5, rfl, z5, b5⟩
  have t5 := bThen t4 b5
  have X5 := Lib.hid (X4.out.below b5 X4.out.lt)
  have Z5 := Lib.hid (Z4.out.below b5 Z4.out.lt)
  have N5 := Lib.hid z5
  clear z5 b5 t4 X4 Z4
  go_wp2_with fail
  refine (small_any _ _ l2 (HM.out.sl.below t5) HM.out.cap HM.out.len).mono ?_
  rintro e w6 ⟨v6, rfl, o6, b6⟩
  rw [← HL2.out] at o6
  have S6 := Lib.hid (Sl3.own (l := M) o6 rfl (by omega))
  have t6 := bThen t5 b6
  have X6 := Lib.hid (X5.out.below b6 X5.out.lt)
  have Z6 := Lib.hid (Z5.out.below b6 Z5.out.lt)
  have N6 := Lib.hid (N5.out.below b6 N5.out.lt)
  clear o6 b6 t5 X5 Z5 N5
  go_wp2_with fail
  refine (lcons_any _ _ M S6.out hln2).mono ?_
  rintro e w7 ⟨v7, rfl, o7, b7⟩
  have S7 := Lib.hid (Sl3.own o7 rfl (by omega))
  have t7 := bThen t6 b7
  have X7 := Lib.hid (X6.out.below b7 X6.out.lt)
  have Z7 := Lib.hid (Z6.out.below b7 Z6.out.lt)
  have N7 := Lib.hid (N6.out.below b7 N6.out.lt)
  clear o7 b7 t6 X6 Z6 N6 S6
  go_wp2_with fail
  refine (with_ok _ p5 znew N7.out topT_rng _ M S7.out HW2.out).mono ?_
  rintro e w8 ⟨p8, rfl, z8, b8⟩
  rw [HZ2.out] at z8
  have t8 := bThen t7 b8
  have X8 := Lib.hid (X7.out.below b8 X7.out.lt)
  have Z8 := Lib.hid (Z7.out.below b8 Z7.out.lt)
  have O8 := Lib.hid z8
  clear z8 b8 t7 X7 Z7 N7 S7
  rcases HE.out with rfl | ⟨rfl, rfl⟩
  · go_wp2_with fail
    refine (empty_any _ p4 _ Z8.out).mono ?_
    rintro e w9 ⟨rfl, rfl⟩
    go_wp2_with (go_at_call 13; refine (awake_any _).mono ?_; rintro e w99 ⟨rfl, b99⟩)
    go_ret
    exact ⟨rfl, bThen t8 b99⟩
  · go_wp2_with fail
    refine (empty_any _ p4 _ Z8.out).mono ?_
    rintro e w9 ⟨rfl, rfl⟩
    go_wp2_with fail
    refine (empty_any _ p8 _ O8.out).mono ?_
    rintro e w9 ⟨rfl, rfl⟩
    go_wp2_with (go_at_call 13; refine (awake_any _).mono ?_; rintro e w99 ⟨rfl, b99⟩)
    go_ret
    exact ⟨rfl, bThen t8 b99⟩

theorem renews_any (w : World) (cs : Value) (l : List Cn) (hcs : ArgC w cs l) (ms : Value) (l2 : List Cn) (hms : ArgC w ms l2) (vo : Value) (o : OpA) (ho : ArgO w vo o) (i : Int) (hi : I64 i) (j : Int) (hj : I64 j) :
    Calls Try.prog 11 #[cs, ms, vo, .int .i64 i, .int .i64 j] w fun e w' => e = .returned (.bool true) ∧ Below w.heap.size w w' := by
  cases he : (zwith znew (smallL l)).e with
  | true => exact renews_void w cs l hcs ms l2 hms vo o ho i j _ _ _ _ rfl rfl (Or.inl he)
  | false =>
    cases he2 : (zwith znew (smallL l2)).e with
    | true => exact renews_void w cs l hcs ms l2 hms vo o ho i j _ _ _ _ rfl rfl (Or.inr ⟨he, he2⟩)
    | false => exact renews_zone w cs l hcs ms l2 hms vo o ho i hi j hj he he2

set_option maxRecDepth 100000 in
theorem zoneRenews_lifted (os : Os) (started : os.Started) (H : Type) (enc : TypeId × Value → H) :
    ReturnsInHanded {} Try.checked os 11 .any (Rows.zoneRenewsSpec.pre6 enc Try.prog Try.f11 Rows.zoneRenewsRow.domain false) (Rows.zoneRenewsSpec.post enc Try.prog Try.f11 false true false false) := by
  refine returnsInHanded_of_change_sized (C := Try.checked) own started (by kernel_rfl) Try.func11
    (ChangeSpec.witness6 (enc := enc) (C := Try.checked) false ⟨#[], #[.slice none 0 0, .slice none 0 0, .agg #[.int .i64 0, .int .i64 0, .int .i64 0, .int .i64 0, .int .i64 0, .int .i64 0, .slice none 0 0, .slice none 0 0, .slice none 0 0, .slice none 0 0], .int .i64 0, .int .i64 0], []⟩ 8 (by kernel_rfl) (by kernel_rfl) (by kernel_rfl) (by kernel_rfl)) ?_
  intro W base args ds gs before hval0 hW hcnd hsz _
  have hval : ∀ (j : Nat) t v, Try.f11.params[j]? = some t → args[j]? = some v → Value.okWide Try.prog W .any base t v := hval0
  have hW' := hW
  obtain ⟨p, q, hA0, hV, rfl, hfz, hnd⟩ := hW
  have hA : DataW.TrodAll enc Try.prog W 0 (fun _ => true) true Try.f11.params.toList args.toList ds p := hA0
  rw [Try.params11] at hA hval hsz
  obtain ⟨v0, vs0, d0, ds0, p0, q0, hargs, rfl, rfl, h0, r0⟩ := trodAll_cons hA
  obtain ⟨v1, vs1, d1, ds1, p1, q1, rfl, rfl, rfl, h1, r1⟩ := trodAll_cons r0
  obtain ⟨v2, vs2, d2, ds2, p2, q2, rfl, rfl, rfl, h2, r2⟩ := trodAll_cons r1
  obtain ⟨v3, vs3, d3, ds3, p3, q3, rfl, rfl, rfl, h3, r3⟩ := trodAll_cons r2
  obtain ⟨v4, vs4, d4, ds4, p4, q4, rfl, rfl, rfl, h4, r4⟩ := trodAll_cons r3
  obtain ⟨rfl, rfl, rfl⟩ := trodAll_nil r4
  obtain rfl : args = #[v0, v1, v2, v3, v4] := by cases args; simp_all
  obtain ⟨rfl, rfl⟩ := trodVars_none hV
  have k0 := h0
  have lt0 : ∀ x ∈ p0, x.block < W.heap.size := by obtain ⟨m, hm⟩ := k0; exact DataW.trod_lt m _ _ _ hm
  obtain ⟨a0, len0, cap0, rfl⟩ := okWide_slice Try.underlying35 (hval 0 35 v0 rfl rfl)
  obtain ⟨l0, g0⟩ : ∃ l, ArgC W (.slice a0 len0 cap0) l := by
    obtain ⟨fuel, hf⟩ := h0
    refine open_rcons (x := (d0, p0)) (by simpa [Value.cells] using hf) (fun e s hd => ?_)
    have hs := sized_slice hsz (j := 0) (t := 35) (elems := e) (spare := s) rfl (by simp only at hd; rw [hd]; rfl) Try.underlying35
    rw [show Try.checked.prog.bytesOf 72 = 24 by kernel_rfl] at hs
    exact Nat.le_trans hs (by decide)
  have k1 := h1
  have lt1 : ∀ x ∈ p1, x.block < W.heap.size := by obtain ⟨m, hm⟩ := k1; exact DataW.trod_lt m _ _ _ hm
  obtain ⟨a1, len1, cap1, rfl⟩ := okWide_slice Try.underlying35 (hval 1 35 v1 rfl rfl)
  obtain ⟨l1, g1⟩ : ∃ l, ArgC W (.slice a1 len1 cap1) l := by
    obtain ⟨fuel, hf⟩ := h1
    refine open_rcons (x := (d1, p1)) (by simpa [Value.cells] using hf) (fun e s hd => ?_)
    have hs := sized_slice hsz (j := 1) (t := 35) (elems := e) (spare := s) rfl (by simp only at hd; rw [hd]; rfl) Try.underlying35
    rw [show Try.checked.prog.bytesOf 72 = 24 by kernel_rfl] at hs
    exact Nat.le_trans hs (by decide)
  have k2 := h2
  have lt2 : ∀ x ∈ p2, x.block < W.heap.size := by obtain ⟨m, hm⟩ := k2; exact DataW.trod_lt m _ _ _ hm
  obtain ⟨o2, g2⟩ : ∃ o, ArgO W v2 o := open_op (hval 2 56 v2 rfl rfl) h2 (fun n hn => Nat.le_trans (of_decide_eq_true (List.all_eq_true.1 hsz n (DataW.weights_mem_each (j := 2) (t := 56) rfl rfl n hn))) (by decide))
  have k3 := h3
  have lt3 : ∀ x ∈ p3, x.block < W.heap.size := by obtain ⟨m, hm⟩ := k3; exact DataW.trod_lt m _ _ _ hm
  obtain ⟨n3, rfl, rfl, rfl, w3⟩ := open_int Try.underlying3 (hval 3 3 v3 rfl rfl) h3
  have k4 := h4
  have lt4 : ∀ x ∈ p4, x.block < W.heap.size := by obtain ⟨m, hm⟩ := k4; exact DataW.trod_lt m _ _ _ hm
  obtain ⟨n4, rfl, rfl, rfl, w4⟩ := open_int Try.underlying3 (hval 4 3 v4 rfl rfl) h4
  clear hA0 hval0 hval hfz hnd hcnd hA
  refine (renews_any W _ l0 g0 _ l1 g1 _ o2 g2 n3 (i64_of_wf w3) n4 (i64_of_wf w4)).mono fun e W' ⟨he, bel⟩ => ?_
  subst he
  exact ⟨_, rfl, _, _, _, [], _, [], hW', trodAll_mk1 (shut_bool Try.underlying4 _), (trodAll_cons_mk (Below.trod laidOut (by kernel_rfl) (of_decide_eq_true (by kernel_rfl)) k0 bel lt0) (trodAll_cons_mk (Below.trod laidOut (by kernel_rfl) (of_decide_eq_true (by kernel_rfl)) k1 bel lt1) (trodAll_cons_mk (Below.trod laidOut (by kernel_rfl) (of_decide_eq_true (by kernel_rfl)) k2 bel lt2) (trodAll_cons_mk (Below.trod laidOut (by kernel_rfl) (of_decide_eq_true (by kernel_rfl)) k3 bel lt3) (trodAll_cons_mk (Below.trod laidOut (by kernel_rfl) (of_decide_eq_true (by kernel_rfl)) k4 bel lt4) trodAll_mk0))))), rfl, bel.frame _, fun h => by cases h⟩

theorem ZoneRenews_holds : Rows.ZoneRenewsSaid :=
  OpenClaim.holds_of_wide 11 Try.f11 rfl rfl rfl rfl rfl rfl rfl ⟨rfl, rfl, rfl, rfl, rfl⟩ rfl rfl rfl rfl rfl (by kernel_rfl) Try.func11 (by kernel_rfl)
    (of_decide_eq_true (by kernel_rfl)) (by unfold Func.isWrapper; rw [if_neg (of_decide_eq_false (by kernel_rfl))]; exact ⟨rfl, rfl⟩)
    (fun os started H enc _ => zoneRenews_lifted os started H enc)
#print axioms ZoneRenews_holds

end Go.Proofs.YtfpbjjdlchplnaaR
