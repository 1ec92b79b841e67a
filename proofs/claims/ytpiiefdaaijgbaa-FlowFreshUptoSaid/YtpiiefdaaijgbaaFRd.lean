/- The document's rows of an operation of two operands, and of a jump. -/
import Derived.Test.YtpiiefdaaijgbaaFTy
import Derived.OwnWalk
namespace Go.Proofs.Ytpiiefdaaijgbaa
open Go Go.RowKit Go.Wr Go.Fl
set_option maxHeartbeats 4000000
set_option maxRecDepth 100000

/-- Rows put behind a row of its own. -/
def PuR (B : Nat) (w : World) (l : List Rw) (e : Ending) (w' : World) : Prop := Below B w w' ∧ ∃ v, e = .returned v ∧ OwR tR B w' v l
theorem four {i : Int} (h0 : 0 ≤ i) (h4 : i < 4) : i = 0 ∨ i = 1 ∨ i = 2 ∨ i = 3 := by omega
theorem alu_ok (w : World) (B : Nat) (v : Value) (l : List Rw) (h : OwR tR B w v l) (hB : B ≤ w.heap.size) (hl : l.length ≤ 1000) (op digit off : Int) (hd0 : 0 ≤ digit) (hd1 : digit ≤ 15) :
    Calls Try.prog 123 #[v, .int .i64 op, .int .i64 digit, .int .i64 off] w (PuR B w (l ++ aluR op digit off)) := by
  have H := Lib.hid h
  clear h
  obtain ⟨L, hL⟩ : ∃ L, L = l ++ aluR op digit off := ⟨_, rfl⟩
  rw [← hL]
  have HL := Lib.hid hL
  clear hL
  go_enter Try.func123, Try.ntmps123
  go_wp2
  go_loopw [0, 9] (fun t0 t wr => ∃ (v : Value) (i : Int), 0 ≤ i ∧ i ≤ 4 ∧ t0 = v ∧ t = .int .i64 i ∧ Hid (OwR tR B wr v (l ++ (aluR op digit off).take i.toNat)) ∧ Below B w wr) (fun _ t _ => 4 - (intOf t).toNat)
  case atStart => exact ⟨v, 0, by omega, by omega, rfl, rfl, by show OwR _ _ _ _ _; simpa using H.out, Below.refl _ _⟩
  case round =>
    clear H v
    obtain ⟨v, i, h0, h4, rfl, rfl, ho, hb⟩ := hrel
    have hsz := hb.size
    by_cases hlt : i < 4
    · rcases four h0 hlt with rfl | rfl | rfl | rfl
      · clear h0 h4 hlt
        go_wp2_with (at_builtin; refine wpl_push tR rfl _ _ rfl B _ (l ++ (aluR op digit off).take 0) rfl ((ho.out.alloc _).alloc _) _ 0 1 1 [⟨16 * digit + 7, op, 0, false, false, -1, 0, off, -1, 0, true⟩] rfl rfl (rangeNew (by simp) (by rfl)) (by simp; unfold maxLen; omega) (by show _ * 80 ≤ _; simp; omega) (by simp; omega) ?_; intro v' w9 hown hgrow _)
        have b9 : Below B w w9 := ((hb.alloc (by omega) _).alloc (by simp; omega) _).grown hgrow (by simp; omega) (fun q hq => (ho.out.blk hq).1)
        have e : (⟨16 * digit + 7, op, 0, false, false, -1, 0, off, -1, 0, true⟩ : Rw) = ⟨16 * digit + 7, op, 0, false, false, -1, 0, off, -1, 0, true⟩ := by first | rfl | (congr 1; omega)
        rw [e, List.append_assoc] at hown
        exact ⟨⟨v', 1, by omega, by omega, rfl, rfl, hown, b9⟩, by decide⟩
      · clear h0 h4 hlt
        go_wp2_with (at_builtin; refine wpl_push tR rfl _ _ rfl B _ (l ++ (aluR op digit off).take 1) rfl ((ho.out.alloc _).alloc _) _ 0 1 1 [⟨16 * digit + 7 + 8, op, 0, false, true, -1, -1, off, 0, 0, true⟩] rfl rfl (rangeNew (by simp) (by rfl)) (by simp; unfold maxLen; omega) (by show _ * 80 ≤ _; simp; omega) (by simp; omega) ?_; intro v' w9 hown hgrow _)
        have b9 : Below B w w9 := ((hb.alloc (by omega) _).alloc (by simp; omega) _).grown hgrow (by simp; omega) (fun q hq => (ho.out.blk hq).1)
        have e : (⟨16 * digit + 7 + 8, op, 0, false, true, -1, -1, off, 0, 0, true⟩ : Rw) = ⟨16 * digit + 15, op, 0, false, true, -1, -1, off, 0, 0, true⟩ := by first | rfl | (congr 1; omega)
        rw [e, List.append_assoc] at hown
        exact ⟨⟨v', 2, by omega, by omega, rfl, rfl, hown, b9⟩, by decide⟩
      · clear h0 h4 hlt
        go_wp2_with (at_builtin; refine wpl_push tR rfl _ _ rfl B _ (l ++ (aluR op digit off).take 2) rfl ((ho.out.alloc _).alloc _) _ 0 1 1 [⟨16 * digit + 7 - 3, op, 0, true, false, -1, 0, off, -1, 0, true⟩] rfl rfl (rangeNew (by simp) (by rfl)) (by simp; unfold maxLen; omega) (by show _ * 80 ≤ _; simp; omega) (by simp; omega) ?_; intro v' w9 hown hgrow _)
        have b9 : Below B w w9 := ((hb.alloc (by omega) _).alloc (by simp; omega) _).grown hgrow (by simp; omega) (fun q hq => (ho.out.blk hq).1)
        have e : (⟨16 * digit + 7 - 3, op, 0, true, false, -1, 0, off, -1, 0, true⟩ : Rw) = ⟨16 * digit + 4, op, 0, true, false, -1, 0, off, -1, 0, true⟩ := by first | rfl | (congr 1; omega)
        rw [e, List.append_assoc] at hown
        exact ⟨⟨v', 3, by omega, by omega, rfl, rfl, hown, b9⟩, by decide⟩
      · clear h0 h4 hlt
        go_wp2_with (at_builtin; refine wpl_push tR rfl _ _ rfl B _ (l ++ (aluR op digit off).take 3) rfl ((ho.out.alloc _).alloc _) _ 0 1 1 [⟨16 * digit + 7 + 8 - 3, op, 0, true, true, -1, -1, off, 0, 0, true⟩] rfl rfl (rangeNew (by simp) (by rfl)) (by simp; unfold maxLen; omega) (by show _ * 80 ≤ _; simp; omega) (by simp; omega) ?_; intro v' w9 hown hgrow _)
        have b9 : Below B w w9 := ((hb.alloc (by omega) _).alloc (by simp; omega) _).grown hgrow (by simp; omega) (fun q hq => (ho.out.blk hq).1)
        have e : (⟨16 * digit + 7 + 8 - 3, op, 0, true, true, -1, -1, off, 0, 0, true⟩ : Rw) = ⟨16 * digit + 12, op, 0, true, true, -1, -1, off, 0, 0, true⟩ := by first | rfl | (congr 1; omega)
        rw [e, List.append_assoc] at hown
        exact ⟨⟨v', 4, by omega, by omega, rfl, rfl, hown, b9⟩, by decide⟩
    · obtain rfl : i = 4 := by omega
      clear h0 h4 hlt
      go_wp2
      go_ret
      exact ⟨hb, _, rfl, by rw [HL.out]; exact ho.out⟩
theorem jmp_ok (w : World) (B : Nat) (v : Value) (l : List Rw) (h : OwR tR B w v l) (hB : B ≤ w.heap.size) (hl : l.length ≤ 1000) (op digit : Int) (hd0 : 0 ≤ digit) (hd1 : digit ≤ 15) :
    Calls Try.prog 124 #[v, .int .i64 op, .int .i64 digit] w (PuR B w (l ++ jmpR op digit)) := by
  have H := Lib.hid h
  clear h
  obtain ⟨L, hL⟩ : ∃ L, L = l ++ jmpR op digit := ⟨_, rfl⟩
  rw [← hL]
  have HL := Lib.hid hL
  clear hL
  go_enter Try.func124, Try.ntmps124
  go_wp2
  go_loopw [0, 7] (fun t0 t wr => ∃ (v : Value) (i : Int), 0 ≤ i ∧ i ≤ 4 ∧ t0 = v ∧ t = .int .i64 i ∧ Hid (OwR tR B wr v (l ++ (jmpR op digit).take i.toNat)) ∧ Below B w wr) (fun _ t _ => 4 - (intOf t).toNat)
  case atStart => exact ⟨v, 0, by omega, by omega, rfl, rfl, by show OwR _ _ _ _ _; simpa using H.out, Below.refl _ _⟩
  case round =>
    clear H v
    obtain ⟨v, i, h0, h4, rfl, rfl, ho, hb⟩ := hrel
    have hsz := hb.size
    by_cases hlt : i < 4
    · rcases four h0 hlt with rfl | rfl | rfl | rfl
      · clear h0 h4 hlt
        go_wp2_with (at_builtin; refine wpl_push tR rfl _ _ rfl B _ (l ++ (jmpR op digit).take 0) rfl ((ho.out.alloc _).alloc _) _ 0 1 1 [⟨16 * digit + 5, op, 0, false, false, -1, 0, -1, -1, 0, false⟩] rfl rfl (rangeNew (by simp) (by rfl)) (by simp; unfold maxLen; omega) (by show _ * 80 ≤ _; simp; omega) (by simp; omega) ?_; intro v' w9 hown hgrow _)
        have b9 : Below B w w9 := ((hb.alloc (by omega) _).alloc (by simp; omega) _).grown hgrow (by simp; omega) (fun q hq => (ho.out.blk hq).1)
        have e : (⟨16 * digit + 5, op, 0, false, false, -1, 0, -1, -1, 0, false⟩ : Rw) = ⟨16 * digit + 5, op, 0, false, false, -1, 0, -1, -1, 0, false⟩ := by first | rfl | (congr 1; omega)
        rw [e, List.append_assoc] at hown
        exact ⟨⟨v', 1, by omega, by omega, rfl, rfl, hown, b9⟩, by decide⟩
      · clear h0 h4 hlt
        go_wp2_with (at_builtin; refine wpl_push tR rfl _ _ rfl B _ (l ++ (jmpR op digit).take 1) rfl ((ho.out.alloc _).alloc _) _ 0 1 1 [⟨16 * digit + 5 + 8, op, 0, false, true, -1, -1, -1, 0, 0, false⟩] rfl rfl (rangeNew (by simp) (by rfl)) (by simp; unfold maxLen; omega) (by show _ * 80 ≤ _; simp; omega) (by simp; omega) ?_; intro v' w9 hown hgrow _)
        have b9 : Below B w w9 := ((hb.alloc (by omega) _).alloc (by simp; omega) _).grown hgrow (by simp; omega) (fun q hq => (ho.out.blk hq).1)
        have e : (⟨16 * digit + 5 + 8, op, 0, false, true, -1, -1, -1, 0, 0, false⟩ : Rw) = ⟨16 * digit + 13, op, 0, false, true, -1, -1, -1, 0, 0, false⟩ := by first | rfl | (congr 1; omega)
        rw [e, List.append_assoc] at hown
        exact ⟨⟨v', 2, by omega, by omega, rfl, rfl, hown, b9⟩, by decide⟩
      · clear h0 h4 hlt
        go_wp2_with (at_builtin; refine wpl_push tR rfl _ _ rfl B _ (l ++ (jmpR op digit).take 2) rfl ((ho.out.alloc _).alloc _) _ 0 1 1 [⟨16 * digit + 5 + 1, op, 0, true, false, -1, 0, -1, -1, 0, false⟩] rfl rfl (rangeNew (by simp) (by rfl)) (by simp; unfold maxLen; omega) (by show _ * 80 ≤ _; simp; omega) (by simp; omega) ?_; intro v' w9 hown hgrow _)
        have b9 : Below B w w9 := ((hb.alloc (by omega) _).alloc (by simp; omega) _).grown hgrow (by simp; omega) (fun q hq => (ho.out.blk hq).1)
        have e : (⟨16 * digit + 5 + 1, op, 0, true, false, -1, 0, -1, -1, 0, false⟩ : Rw) = ⟨16 * digit + 6, op, 0, true, false, -1, 0, -1, -1, 0, false⟩ := by first | rfl | (congr 1; omega)
        rw [e, List.append_assoc] at hown
        exact ⟨⟨v', 3, by omega, by omega, rfl, rfl, hown, b9⟩, by decide⟩
      · clear h0 h4 hlt
        go_wp2_with (at_builtin; refine wpl_push tR rfl _ _ rfl B _ (l ++ (jmpR op digit).take 3) rfl ((ho.out.alloc _).alloc _) _ 0 1 1 [⟨16 * digit + 5 + 8 + 1, op, 0, true, true, -1, -1, -1, 0, 0, false⟩] rfl rfl (rangeNew (by simp) (by rfl)) (by simp; unfold maxLen; omega) (by show _ * 80 ≤ _; simp; omega) (by simp; omega) ?_; intro v' w9 hown hgrow _)
        have b9 : Below B w w9 := ((hb.alloc (by omega) _).alloc (by simp; omega) _).grown hgrow (by simp; omega) (fun q hq => (ho.out.blk hq).1)
        have e : (⟨16 * digit + 5 + 8 + 1, op, 0, true, true, -1, -1, -1, 0, 0, false⟩ : Rw) = ⟨16 * digit + 14, op, 0, true, true, -1, -1, -1, 0, 0, false⟩ := by first | rfl | (congr 1; omega)
        rw [e, List.append_assoc] at hown
        exact ⟨⟨v', 4, by omega, by omega, rfl, rfl, hown, b9⟩, by decide⟩
    · obtain rfl : i = 4 := by omega
      clear h0 h4 hlt
      go_wp2
      go_ret
      exact ⟨hb, _, rfl, by rw [HL.out]; exact ho.out⟩
end Go.Proofs.Ytpiiefdaaijgbaa
