/- ZoneNames returns true whatever the memory; nothing that was there is turned. No conditions. -/
import Derived.Test.YtfpbjjdlchplnaaRAwake
import Derived.Test.YtfpbjjdlchplnaaRRows
import Derived.ProofKit
import Derived.OpenShut
import Derived.ChangeOld
namespace Go.Proofs.YtfpbjjdlchplnaaR
open Go Go.RowKit Go.Wr
open Go.ChangeShapes Go.WideShapes Go.ChangeAt
set_option maxHeartbeats 1000000

theorem NewCons.nil {B : Nat} {w : World} {v : Value} {l : List Cn} (h : NewCons B w v l) (hl : l = []) : ∃ a, v = .slice a 0 0 := by
  subst hl
  rcases h with ⟨rfl, _⟩ | ⟨g, C, rfl, _⟩
  · exact ⟨_, rfl⟩
  · exact ⟨_, rfl⟩

theorem topT_cons : consL topT 60 = [] := by
  have h : (consL topT 60).isEmpty = true := by decide +kernel
  exact List.isEmpty_iff.1 h

theorem names_any (w : World) : Calls Try.prog 3 #[] w fun e w' => e = .returned (.bool true) ∧ Below w.heap.size w w' := by
  have HC := Lib.hid topT_cons
  have b1 : bndZ znew 3 3 = (true, 0) := by decide
  have b2 : bndZ znew 0 60 = (false, 0) := by decide
  have B1 := Lib.hid b1
  have B2 := Lib.hid b2
  clear b1 b2
  go_enter Try.func3, Try.ntmps3
  go_wp2_with (first
    | (go_at_call 13; refine (awake_any _).mono ?_; rintro e w1 ⟨rfl, hbel1⟩))
  refine (new_any _).mono ?_
  rintro e w2 ⟨p2, rfl, hz2, hbel2⟩
  go_wp2_with fail
  refine (cons_any _ p2 _ hz2).mono ?_
  rintro e w3 ⟨v3, rfl, hn3, hbel3⟩
  obtain ⟨a3, rfl⟩ := hn3.nil HC.out
  go_wp2_with fail
  refine (new_any _).mono ?_
  rintro e w4 ⟨p4, rfl, hz4, hbel4⟩
  go_wp2_with fail
  refine (bound_any _ p4 _ hz4 3 3).mono ?_
  rintro e w5 ⟨rfl, hbel5⟩
  rw [B1.out]
  go_wp2_with fail
  refine (new_any _).mono ?_
  rintro e w6 ⟨p6, rfl, hz6, hbel6⟩
  go_wp2_with fail
  refine (bound_any _ p6 _ hz6 0 60).mono ?_
  rintro e w7 ⟨rfl, hbel7⟩
  rw [B2.out]
  go_wp2_with fail
  refine (new_any _).mono ?_
  rintro e w8 ⟨p8, rfl, hz8, hbel8⟩
  go_wp2_with fail
  refine (with_ok _ p8 znew (Blk.alloc hz8 _) topT_rng _ [⟨2, 2, -1⟩] (Sl3.lit (Blk.new _ _ _) [⟨2, 2, -1⟩] 1 1 rfl rfl (by simp)) (by decide +kernel)).mono ?_
  rintro e w9 ⟨p9, rfl, hz9, hbel9⟩
  have e9 := hz9.emp
  rw [show (zwith znew [⟨2, 2, -1⟩]).e = true by decide] at e9
  go_wp2_with fail
  refine (new_any _).mono ?_
  rintro e w10 ⟨p10, rfl, hz10, hbel10⟩
  go_wp2_with fail
  refine (with_bad _ _ _ [⟨2, 0, 5⟩, ⟨60, 0, 1⟩] (Sl3.lit (Blk.new _ _ _) [⟨2, 0, 5⟩, ⟨60, 0, 1⟩] 2 2 rfl rfl (by simp)) (by decide +kernel)).mono ?_
  rintro e w11 ⟨rfl, hbel11⟩
  rw [show wrongL [⟨2, 0, 5⟩, ⟨60, 0, 1⟩] = 50 by decide +kernel]
  go_wp2_with fail
  refine (new_any _).mono ?_
  rintro e w12 ⟨p12, rfl, hz12, hbel12⟩
  go_wp2_with fail
  refine (with_bad _ _ _ [⟨2, 0, 1152921504606846977⟩] (Sl3.lit (Blk.new _ _ _) [⟨2, 0, 1152921504606846977⟩] 1 1 rfl rfl (by simp)) (by decide +kernel)).mono ?_
  rintro e w13 ⟨rfl, hbel13⟩
  rw [show wrongL [⟨2, 0, 1152921504606846977⟩] = 51 by decide +kernel]
  go_wp2_with fail
  have u10 := bThen (bRefl w9) hbel10
  have u12 := bThen (bThen (bAl u10 _) hbel11) hbel12
  have u13 := bThen (bAl u12 _) hbel13
  refine (empty_any _ p9 _ (ZAt.below hz9 u13 hz9.lt)).mono ?_
  rintro e w14 ⟨rfl, rfl⟩
  rw [show (zwith znew [⟨2, 2, -1⟩]).e = true by decide]
  go_wp2
  go_ret
  have t2 := bThen hbel1 hbel2
  have t4 := bThen (bThen t2 hbel3) hbel4
  have t6 := bThen (bThen t4 hbel5) hbel6
  have t8 := bThen (bThen t6 hbel7) hbel8
  exact ⟨rfl, bThen (bThen (bAl t8 _) hbel9) u13⟩


theorem own : ownKnob Try.prog.godebug = none := by kernel_rfl
theorem laidOut : laidOutB Try.prog = true := by kernel_rfl

set_option maxRecDepth 100000 in
theorem names_lifted (os : Os) (started : os.Started) (H : Type) (enc : TypeId × Value → H) :
    ReturnsInHanded {} Try.checked os 3 .any (Rows.zoneNamesSpec.pre6 enc Try.prog Try.f3 Rows.zoneNamesRow.domain false) (Rows.zoneNamesSpec.post enc Try.prog Try.f3 false true false false) := by
  refine returnsInHanded_of_change (C := Try.checked) own started (by kernel_rfl) Try.func3
    (ChangeSpec.witness6 (enc := enc) (C := Try.checked) false ⟨#[], #[], []⟩ 8 (by kernel_rfl) (by kernel_rfl) (by kernel_rfl) (by kernel_rfl)) ?_
  intro W base args ds gs before hval0 hW hcnd _
  have hval : ∀ (j : Nat) t v, Try.f3.params[j]? = some t → args[j]? = some v → Value.okWide Try.prog W .any base t v := hval0
  have hW' := hW
  obtain ⟨p, q, hA0, hV, rfl, hfz, hnd⟩ := hW
  have hA : DataW.TrodAll enc Try.prog W 0 (fun _ => true) true Try.f3.params.toList args.toList ds p := hA0
  rw [Try.params3] at hA hval
  obtain ⟨rfl, rfl, rfl⟩ := trodAll_none hA
  obtain ⟨rfl, rfl⟩ := trodVars_none hV
  clear hA0 hval0 hval hfz hnd hcnd
  refine (names_any W).mono fun e W' ⟨he, bel⟩ => ?_
  subst he
  exact ⟨_, rfl, _, _, _, [], [], [], hW', trodAll_mk1 (shut_bool Try.underlying4 _), trodAll_mk0, rfl, bel.frame _, fun h => by cases h⟩

theorem ZoneNames_holds : Rows.ZoneNamesSaid :=
  OpenClaim.holds_of_wide 3 Try.f3 rfl rfl rfl rfl rfl rfl rfl ⟨rfl, rfl, rfl, rfl, rfl⟩ rfl rfl rfl rfl rfl (by kernel_rfl) Try.func3 (by kernel_rfl)
    (of_decide_eq_true (by kernel_rfl)) (by unfold Func.isWrapper; rw [if_neg (of_decide_eq_false (by kernel_rfl))]; exact ⟨rfl, rfl⟩)
    (fun os started H enc _ => names_lifted os started H enc)
#print axioms ZoneNames_holds

end Go.Proofs.YtfpbjjdlchplnaaR
