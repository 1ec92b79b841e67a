/- The law's known flow: true. -/
import Derived.Test.YtlhehphikkgobaaHSm
import Derived.Test.YtlhehphikkgobaaFBlk
import Derived.Test.YtlhehphikkgobaaFDoms
import Derived.Test.YtlhehphikkgobaaFJmp
namespace Go.Proofs.Ytlhehphikkgobaa
open Go Go.RowKit Go.Wr Go.Fl
set_option maxHeartbeats 4000000
set_option maxRecDepth 100000

/-- The known flow's data. -/
def smB : List (Int × Int × List Int) := [(0, 1, [1]), (1, 3, [1, 2]), (3, 5, [])]
def smL : List (Int × Int × List Int) := [(1, -1, [1])]
theorem bd_of {w : World} {B p : Nat} {v : Value} {rs : List Bk} (h : OwR tK B w v rs) (hp : p < B) (hl : rs.length = nB smallL) (hr : ∀ (i : Nat) (k : Bk), rs[i]? = some k → k.fr = (frF smallL i : Int) ∧ k.2 = (twF smallL i : Int) ∧ OwR tI B w k.nx.v (nI (nxt smallL i))) : Bd p w v smB := by
  have hne : ∀ {v : Value} {α : Type} {R : RT Try.prog α} {l : List α}, OwR R B w v l → v.ownBlock ≠ some p := fun h e => by have := (h.blk e).1; omega
  rw [sm_n] at hl
  refine ⟨rs, h.sl (hne h), by rw [hl]; rfl, fun i k d hk hd => ?_⟩
  obtain ⟨h1, h2, h3⟩ := hr i k hk
  have h3 := h3.sl (hne h3)
  rw [sm_nxt] at h3
  obtain ⟨f0, t0, f1, t1, f2, t2⟩ := sm_fr
  match i with
  | 0 => cases hd; rw [f0] at h1; rw [t0] at h2; exact ⟨h1, h2, h3⟩
  | 1 => cases hd; rw [f1] at h1; rw [t1] at h2; exact ⟨h1, h2, h3⟩
  | 2 => cases hd; rw [f2] at h1; rw [t2] at h2; exact ⟨h1, h2, h3⟩
  | i + 3 => cases hd
theorem ne_low {α : Type} {R : RT Try.prog α} {w : World} {B p : Nat} {v : Value} {l : List α} (h : OwR R B w v l) (hp : p < B) : v.ownBlock ≠ some p := fun e => by have := (h.blk e).1; omega
theorem two_size (w : World) (o : Obj) : (w.alloc o).heap.size = w.heap.size + 1 := by show (w.heap.push o).size = _; exact Array.size_push _
theorem litB_ok (w : World) (p : Nat) (hp : p < w.heap.size) : Bd p (((w.alloc (.cells #[.int .i64 1] 3)).alloc (.cells #[.int .i64 1, .int .i64 2] 3)).alloc (.cells #[.int .i64 0, .int .i64 1, .slice (some ⟨w.heap.size, 0, none⟩) 1 1, .int .i64 1, .int .i64 3, .slice (some ⟨w.heap.size + 1, 0, none⟩) 2 2, .int .i64 3, .int .i64 5, .slice none 0 0] 58)) (.slice (some ⟨w.heap.size + 1 + 1, 0, none⟩) 3 3) smB := by
  have h1 : OwR tI w.heap.size (w.alloc (.cells #[.int .i64 1] 3)) (.slice (some ⟨w.heap.size, 0, none⟩) 1 1) [1] := OwR.new rfl rfl (by decide)
  have h2 : OwR tI (w.heap.size + 1) ((w.alloc (.cells #[.int .i64 1] 3)).alloc (.cells #[.int .i64 1, .int .i64 2] 3)) (.slice (some ⟨w.heap.size + 1, 0, none⟩) 2 2) [1, 2] := OwR.new (two_size w _).symm rfl (by decide)
  have h3 : OwR tK (w.heap.size + 1 + 1) (((w.alloc (.cells #[.int .i64 1] 3)).alloc (.cells #[.int .i64 1, .int .i64 2] 3)).alloc (.cells #[.int .i64 0, .int .i64 1, .slice (some ⟨w.heap.size, 0, none⟩) 1 1, .int .i64 1, .int .i64 3, .slice (some ⟨w.heap.size + 1, 0, none⟩) 2 2, .int .i64 3, .int .i64 5, .slice none 0 0] 58)) (.slice (some ⟨w.heap.size + 1 + 1, 0, none⟩) 3 3)
      [⟨0, 1, ⟨some ⟨w.heap.size, 0, none⟩, 1, 1⟩⟩, ⟨1, 3, ⟨some ⟨w.heap.size + 1, 0, none⟩, 2, 2⟩⟩, ⟨3, 5, ⟨none, 0, 0⟩⟩] := OwR.new (by rw [two_size, two_size]) rfl (by show 3 ≤ maxLen; unfold maxLen; omega)
  refine ⟨_, h3.sl (ne_low h3 (by omega)), rfl, fun i k d hk hd => ?_⟩
  match i with
  | 0 => cases hd; cases hk; exact ⟨rfl, rfl, ((h1.below (bAl (bRefl _) _)).below (bAl (bRefl _) _)).sl (ne_low h1 (by omega))⟩
  | 1 => cases hd; cases hk; exact ⟨rfl, rfl, (h2.below (bAl (bRefl _) _)).sl (ne_low h2 (by omega))⟩
  | 2 => cases hd; cases hk; exact ⟨rfl, rfl, SlX.nil _ _⟩
  | i + 3 => cases hd
theorem litL_ok (w : World) (p : Nat) (hp : p < w.heap.size) : Ld p ((w.alloc (.cells #[.int .i64 1] 3)).alloc (.cells #[.int .i64 1, .slice (some ⟨w.heap.size, 0, none⟩) 1 1, .int .i64 (-1)] 60)) (.slice (some ⟨w.heap.size + 1, 0, none⟩) 1 1) smL := by
  have h1 : OwR tI w.heap.size (w.alloc (.cells #[.int .i64 1] 3)) (.slice (some ⟨w.heap.size, 0, none⟩) 1 1) [1] := OwR.new rfl rfl (by decide)
  have h2 : OwR tA (w.heap.size + 1) ((w.alloc (.cells #[.int .i64 1] 3)).alloc (.cells #[.int .i64 1, .slice (some ⟨w.heap.size, 0, none⟩) 1 1, .int .i64 (-1)] 60)) (.slice (some ⟨w.heap.size + 1, 0, none⟩) 1 1) [⟨1, ⟨some ⟨w.heap.size, 0, none⟩, 1, 1⟩, -1⟩] := OwR.new (two_size w _).symm rfl (by show 1 ≤ maxLen; unfold maxLen; omega)
  refine ⟨_, h2.sl (ne_low h2 (by omega)), rfl, fun i k d hk hd => ?_⟩
  match i with
  | 0 => cases hd; cases hk; exact ⟨rfl, rfl, (h1.below (bAl (bRefl _) _)).sl (ne_low h1 (by omega))⟩
  | i + 1 => cases hd
theorem one_hd : ∀ E : List Lq, E.map (·.hd) = [1] → ∃ e0, E = [e0] ∧ e0.hd = 1
  | [], h => by cases h
  | [e0], h => ⟨e0, rfl, by simpa using h⟩
  | _ :: _ :: _, h => by have := congrArg List.length h; simp at this
theorem ex_lit (w : World) (p : Nat) (hp : p < w.heap.size) (C : Array Value) (h : C.toList = tN.cs exL) : SlX tN p (w.alloc (.cells C tN.T)) (.slice (some ⟨w.heap.size, 0, none⟩) 2 2) exL := by
  have h8 : OwR tN w.heap.size (w.alloc (.cells C tN.T)) (.slice (some ⟨w.heap.size, 0, none⟩) 2 2) exL := OwR.new rfl h (by decide)
  exact h8.sl (ne_low h8 hp)
theorem bDrewN {n : Nat} {w w' : World} (h : Below n w w') (k : Nat) : Below n w (w'.drewN k) := ⟨h.os, h.tape, h.output, h.size, h.block⟩
theorem dm_12 : domB (nxt smallL) (nB smallL) 1 2 = true := by
  rw [sm_nxt, sm_n]
  exact domB_yes (a := 1) (b := 2) (by omega) (by omega) sN_12
theorem dm_21 : domB (nxt smallL) (nB smallL) 2 1 = false := by
  rw [sm_nxt, sm_n]
  exact domB_no (a := 2) (b := 1) sN_21
theorem known_ok (w : World) : Calls Try.prog 17 #[] w fun e w' => e = .returned (.bool true) ∧ Below w.heap.size w w' := by
  go_enter Try.func17, Try.ntmps17
  go_wp2_with fail
  refine (small_ok _).mono ?_
  rintro e w1 ⟨b1, v1, rfl, ho1⟩
  have HB1 := Lib.hid b1
  have HO1 := Lib.hid ho1
  clear b1 ho1
  go_wp2_with fail
  refine (make_ok _ w1.heap.size _ smallL (HO1.out.sl (fun e => by have := HO1.out.lt e; omega))).mono ?_
  rintro e w2 ⟨b2, hM⟩
  rcases hM with ⟨_, hne⟩ | ⟨_, p, ab, cb, b4, o4, b5, o5, c4, c5, va, vo, vr, vl, bs, ss, E, d, rfl, hp, hF⟩
  · exact absurd (by rw [sm_fine]) hne
  have HB2 := Lib.hid (bThen HB1.out b2)
  have HF := Lib.hid hF
  clear b2 hF HB1 HO1
  have c0 := HF.out.blk.cell 0
  have hplt := HF.out.blk.lt
  have HP := Lib.hid hplt
  have c0 : w2.cell? ⟨p, 0, none⟩ = some (.slice ab (nB smallL) cb) := c0
  go_wp2_with fail
  refine (blocks_ok w2 p smallL _ va vo bs ss HF.out.fw c0 (by rw [sm_n]; omega) (by rw [sm_n]; omega)).mono ?_
  rintro e w3 ⟨b3, v3, rs, rfl, ho3, hrl, hrs⟩
  have HD3 := Lib.hid (bd_of ho3 hplt hrl hrs)
  have HB3 := Lib.hid b3
  clear ho3 hrl hrs b3 c0 hplt
  go_wp2_with fail
  refine (sameBlocks_ok _ p p _ _ smB (HD3.out.below (bAl (bAl (bAl (bRefl w3) _) _) _)) (litB_ok w3 p (Nat.lt_of_lt_of_le HP.out HB3.out.size)) (by decide)).mono ?_
  rintro e w4 ⟨rfl, b4⟩
  have HB4 := Lib.hid (bThen HB3.out ((bAl (bAl (bAl (bRefl w3) _) _) _).trans (b4.mono (by rw [two_size, two_size, two_size]; omega))))
  clear b4 HD3 HB3
  have HF4 := Lib.hid (HF.out.below HB4.out)
  have c6 : w4.cell? ⟨p, 6, none⟩ = some vl := HF4.out.blk.cell 6
  have HBW4 := Lib.hid (bThen HB2.out HB4.out)
  clear HF HB4 HB2
  obtain ⟨e0, rfl, he0⟩ : ∃ e0 : Lq, E = [e0] ∧ e0.hd = 1 := by
    have h := HF4.out.hd
    rw [sm_heads] at h
    exact one_hd E h
  have hla : SlX tA p w4 vl (arI 1 (fun _ => 1) (fun _ => -1) (fun _ => e0.bl)) := by
    have h := HF4.out.la
    rw [show arL [e0] (fun i => parK smallL i (heads smallL).length) = [⟨(e0.hd : Int), e0.bl, parK smallL 0 (heads smallL).length⟩] from rfl, sm_par, he0] at h
    exact h
  have hel : SlX tI p w4 e0.bl.v [1] := by
    have h := HF4.out.el e0 (by simp)
    rw [he0, sm_lp] at h
    exact h
  have HLA := Lib.hid hla
  have HEL := Lib.hid hel
  clear hla hel he0
  go_wp2_with fail
  refine (loops_ok w4 p 1 (fun _ => 1) (fun _ => -1) (fun _ => [1]) (fun _ => e0.bl) vl c6 HLA.out (fun _ _ => HEL.out) (fun _ _ => by decide) (by omega)).mono ?_
  rintro e w5 ⟨b5, v5, row5, rfl, ho5, hr5⟩
  have hp4 := HF4.out.blk.lt
  have HD5 := Lib.hid (show Ld p w5 v5 smL from ⟨_, ho5.sl (ne_low ho5 hp4), rfl, fun i k d hk hd => by
    match i with
    | 0 => cases hd; cases hk; exact ⟨rfl, rfl, (hr5 0 (by omega)).sl (ne_low (hr5 0 (by omega)) hp4)⟩
    | i + 1 => cases hd⟩)
  have HF5 := Lib.hid (HF4.out.below b5)
  have HP5 := Lib.hid (Nat.lt_of_lt_of_le hp4 b5.size)
  have HBW5 := Lib.hid (bThen HBW4.out b5)
  clear ho5 hr5 b5 hp4 HLA HEL c6 HF4 HP HBW4
  go_wp2_with fail
  refine (sameLoops_ok _ p p _ _ smL (HD5.out.below (bAl (bAl (bRefl w5) _) _)) (litL_ok w5 p HP5.out) (by decide)).mono ?_
  rintro e w6 ⟨rfl, b6⟩
  have HB6 := Lib.hid ((bAl (bAl (bRefl w5) _) _).trans (b6.mono (by rw [two_size, two_size]; omega)))
  have HF6 := Lib.hid (HF5.out.below HB6.out)
  have HBW6 := Lib.hid (bThen HBW5.out HB6.out)
  clear b6 HD5 HF5 HB6 HBW5
  have c3 : w6.cell? ⟨p, 3, none⟩ = some vr := HF6.out.blk.cell 3
  go_wp2_with fail
  refine (order_ok w6 p p vr _ c3 HF6.out.ro (by rw [sm_dfs]; decide)).mono ?_
  rintro e w7 ⟨b7, v7, rfl, ho7⟩
  rw [sm_dfs] at ho7
  have HO7 := Lib.hid (show SlX tI p w7 v7 [0, 1, 2] from ho7.sl (ne_low ho7 HF6.out.blk.lt))
  have HF7 := Lib.hid (HF6.out.below b7)
  have HBW7 := Lib.hid (bThen HBW6.out b7)
  clear b7 ho7 HF6 HBW6 c3
  go_wp2_with fail
  have ho8 : OwR tI w7.heap.size (w7.alloc (.cells #[.int .i64 0, .int .i64 1, .int .i64 2] 3)) (.slice (some ⟨w7.heap.size, 0, none⟩) 3 3) [0, 1, 2] := OwR.new rfl rfl (by decide)
  have HO8 := Lib.hid (ho8.sl (ne_low ho8 HF7.out.blk.lt))
  clear ho8
  refine (lawSameInts_ok _ p p _ _ [0, 1, 2] [0, 1, 2] (HO7.out.below (bAl (bRefl w7) _)) HO8.out).mono ?_
  rintro e w8 ⟨rfl, b8⟩
  rw [decide_eq_true (rfl : ([0, 1, 2] : List Int) = [0, 1, 2])]
  have HB8 := Lib.hid ((bAl (bRefl w7) _).trans (b8.mono (by rw [two_size]; omega)))
  have HF8 := Lib.hid (HF7.out.below HB8.out)
  have HBW8 := Lib.hid (bThen HBW7.out HB8.out)
  clear b8 HF7 HBW7 HB8 HO7 HO8
  go_wp2_with fail
  refine (make_ok _ p _ exL (ex_lit w8 p HF8.out.blk.lt _ rfl)).mono ?_
  rintro e w9 ⟨b9, hM⟩
  have b9 : Below w8.heap.size w8 w9 := (bAl (bRefl w8) _).trans (b9.mono (by rw [two_size]; omega))
  rcases hM with ⟨rfl, _⟩ | ⟨hg, _⟩
  rotate_left
  · have := mk_fine hg
    rw [ex_no] at this
    cases this
  rw [ex_no]
  have HF9 := Lib.hid (HF8.out.below b9)
  have HBW9 := Lib.hid (bThen HBW8.out b9)
  clear b9 HF8 HBW8
  have HC2 := Lib.hid (show w9.cell? ⟨p, 2, none⟩ = some vo from HF9.out.blk.cell 2)
  have HC0 := Lib.hid (show w9.cell? ⟨p, 0, none⟩ = some (.slice ab (nB smallL) cb) from HF9.out.blk.cell 0)
  go_wp2_with fail
  refine (block_ok w9 p p vo (ofl smallL) HC2.out HF9.out.fw.so 2).mono ?_
  rintro e w' ⟨rfl, rfl⟩
  rw [show blkOf (ofl smallL) 2 = 1 by rw [sm_ofl]; rfl]
  go_wp2_with fail
  refine (block_ok w' p p vo (ofl smallL) HC2.out HF9.out.fw.so 5).mono ?_
  rintro e w9 ⟨rfl, rfl⟩
  rw [show blkOf (ofl smallL) 5 = -1 by rw [sm_ofl]; rfl]
  go_wp2_with fail
  refine (dominates_ok w9 p (nB smallL) _ _ d _ HF9.out.nd.gr HF9.out.nd.id b4 o4 b5 o5 c4 c5 (HF9.out.nd.pd HF9.out.blk) ab cb HC0.out 1 2).mono ?_
  rintro e w10 ⟨rfl, k, rfl⟩
  rw [dm_12]
  have HFd := Lib.hid (show Fin smallL p ab cb b4 o4 b5 o5 c4 c5 va vo vr vl bs ss [e0] d (w9.drewN k) from HF9.out.below (bDrewN (bRefl w9) k))
  have HBd := Lib.hid (show Below w.heap.size w (w9.drewN k) from bDrewN HBW9.out k)
  have HCd := Lib.hid (show (w9.drewN k).cell? ⟨p, 0, none⟩ = some (.slice ab (nB smallL) cb) from HFd.out.blk.cell 0)
  clear HF9 HBW9 HC2 HC0
  generalize w9.drewN k = w11 at HFd HBd HCd ⊢
  go_wp2_with fail
  refine (dominates_ok w11 p (nB smallL) _ _ d _ HFd.out.nd.gr HFd.out.nd.id b4 o4 b5 o5 c4 c5 (HFd.out.nd.pd HFd.out.blk) ab cb HCd.out 2 1).mono ?_
  rintro e w12 ⟨rfl, k2, rfl⟩
  rw [dm_21]
  have HBe := Lib.hid (show Below w.heap.size w (w11.drewN k2) from bDrewN HBd.out k2)
  generalize w11.drewN k2 = w13 at HBe ⊢
  go_wp2
  go_ret
  exact ⟨rfl, HBe.out⟩
end Go.Proofs.Ytlhehphikkgobaa
