/- The law's awake: it returns true; nothing that was there is turned. -/
import Derived.Test.YtfpbjjdlchplnaaRLcons
namespace Go.Proofs.YtfpbjjdlchplnaaR
open Go Go.RowKit Go.Wr
set_option maxHeartbeats 1000000

theorem Sl3.lit {w : World} {g : Nat} {T : TypeId} {C : Array Value} (h : Blk w g T C) (l : List Cn) (n cap : Nat) (hn : n = l.length) (hC : C.toList = conCells l) (hl : l.length ≤ 9223372036854775807) : Sl3 w (.slice (some ⟨g, 0, none⟩) n cap) l := by
  subst hn
  refine ⟨_, cap, rfl, hl, fun k x hx => ⟨g, 0, rfl, ?_⟩⟩
  obtain ⟨h0, h1, h2⟩ := conCells_get l k x hx
  rw [← hC, Array.getElem?_toList] at h0 h1 h2
  simp only [Nat.zero_add]
  exact ⟨(h.cell _).trans h0, (h.cell _).trans h1, (h.cell _).trans h2⟩

theorem awake_plain : zwith znew [⟨2, 3, 1⟩, ⟨3, 4, 2⟩] = ⟨false, zadd (zadd topT 2 3 1) 3 4 2⟩ := by
  have h1 : zand znew 2 3 1 = ⟨false, zadd topT 2 3 1⟩ := by
    unfold zand znew
    simp only [Bool.false_eq_true, if_false]
    rw [if_neg (by omega), if_neg (by decide), if_neg (by decide), zset_zone (by decide)]
  have h2 : zand ⟨false, zadd topT 2 3 1⟩ 3 4 2 = ⟨false, zadd (zadd topT 2 3 1) 3 4 2⟩ := by
    unfold zand
    simp only [Bool.false_eq_true, if_false]
    rw [if_neg (by omega), if_neg (by decide), if_neg (by decide), zset_zone (by decide)]
  show zand (zand znew 2 3 1) 3 4 2 = _
  rw [h1, h2]

theorem awake_cons : eqL (consL (zadd (zadd topT 2 3 1) 3 4 2) 60) [⟨2, 3, 1⟩, ⟨2, 4, 3⟩, ⟨3, 4, 2⟩] = true := by decide +kernel


theorem awake_any (w : World) : Calls Try.prog 13 #[] w fun e w' => e = .returned (.bool true) ∧ Below w.heap.size w w' := by
  have HP := Lib.hid awake_plain
  have HC := Lib.hid awake_cons
  go_enter Try.func13, Try.ntmps13
  go_wp2_with (first
    | (go_at_call 14; refine (new_any _).mono ?_; rintro e w1 ⟨b1, rfl, hz1, hbel1⟩)
    | (go_at_call 17; refine (with_ok _ b1 znew (Blk.alloc hz1 _) topT_rng _ [⟨2, 3, 1⟩, ⟨3, 4, 2⟩] (Sl3.lit (Blk.new _ _ _) [⟨2, 3, 1⟩, ⟨3, 4, 2⟩] 2 2 rfl rfl (by simp)) (by decide +kernel)).mono ?_; rintro e w2 ⟨b2, rfl, hz2, hbel2⟩; rw [HP.out] at hz2)
    | (go_at_call 15; refine (cons_any _ b2 _ hz2).mono ?_; rintro e w3 ⟨v3, rfl, hn3, hbel3⟩)
    | (go_at_call 28; refine (same_any _ v3 _ _ [⟨2, 3, 1⟩, ⟨2, 4, 3⟩, ⟨3, 4, 2⟩] ((hn3.sl3 (by have := consL_len (zadd (zadd topT 2 3 1) 3 4 2) 60; omega)).below ((Below.refl _ _).alloc (Nat.le_refl _) _)) (Sl3.lit (Blk.new _ _ _) [⟨2, 3, 1⟩, ⟨2, 4, 3⟩, ⟨3, 4, 2⟩] 3 3 rfl rfl (by simp))).mono ?_; rintro e w4 ⟨rfl, hbel4⟩; rw [HC.out]))
  go_ret
  have s1 := hbel1.size
  have s2 := hbel2.size
  have s3 := hbel3.size
  simp at s2
  refine ⟨rfl, ((hbel1.alloc s1 _).trans (hbel2.mono (by simp; omega))).trans ((hbel3.mono (by omega)).trans (((Below.refl _ _).alloc (by omega) _).trans (hbel4.mono (by simp; omega))))⟩

end Go.Proofs.YtfpbjjdlchplnaaR
