/- The questions that both flows answer at once: the block of an instruction. -/
import Derived.Test.YtlhehphikkgobaaFJmp
namespace Go.Proofs.Ytlhehphikkgobaa
open Go Go.RowKit Go.Wr Go.Fl
set_option maxHeartbeats 4000000
set_option maxRecDepth 100000

/-- The block of an instruction. -/
def blkOf (l : List Nat) (i : Int) : Int := if i < 0 ∨ (l.length : Int) ≤ i then -1 else (l.getD i.toNat 0 : Nat)
theorem block_ok (w : World) (p q : Nat) (vo : Value) (l : List Nat) (hf : w.cell? ⟨p, 2, none⟩ = some vo) (h : SlX tI q w vo (nI l)) (i : Int) :
    Calls Try.prog 27 #[.pointer (some ⟨p, 0, none⟩), .int .i64 i] w fun e w' => e = .returned (.int .i64 (blkOf l i)) ∧ w' = w := by
  obtain ⟨r, hr⟩ : ∃ r, r = blkOf l i := ⟨_, rfl⟩
  rw [← hr]
  unfold blkOf at hr
  have HR := Lib.hid hr
  obtain ⟨a0, cap, rfl, h1, h2⟩ := h.form
  have H := Lib.hid h
  rw [nI_len] at hf h1 H
  unfold maxLen at h2
  clear hr h
  by_cases k1 : i < 0
  · have e1 : Hid (r = -1) := by show _ = _; rw [HR.out, if_pos (Or.inl k1)]
    go_enter Try.func27, Try.ntmps27
    go_wp2
    go_ret
    exact ⟨retI e1.out.symm, rfl⟩
  · have k1' : 0 ≤ i := by omega
    by_cases k2 : (l.length : Int) ≤ i
    · have e1 : Hid (r = -1) := by show _ = _; rw [HR.out, if_pos (Or.inr k2)]
      clear k1
      go_enter Try.func27, Try.ntmps27
      go_wp2
      go_ret
      exact ⟨retI e1.out.symm, rfl⟩
    · obtain ⟨k, rfl⟩ := Int.eq_ofNat_of_zero_le k1'
      have hk : k < l.length := by omega
      have hk' : (k : Int) < (l.length : Int) := by omega
      obtain ⟨x, hx⟩ : ∃ x, l[k]? = some x := ⟨_, List.getElem?_eq_getElem hk⟩
      have e1 : Hid (r = (x : Int)) := by
        show _ = _
        rw [HR.out, if_neg (by omega), Int.toNat_natCast, List.getD_eq_getElem?_getD, hx]
        rfl
      obtain ⟨b, o, rfl, _, _, hc⟩ := SlX.int H.out (show (nI l)[k]? = some (x : Int) by unfold nI; rw [List.getElem?_map, hx]; rfl)
      clear k1 k2 hx HR
      go_enter Try.func27, Try.ntmps27
      go_wp2
      go_ret
      exact ⟨retI e1.out.symm, rfl⟩
theorem rblock_ok (w : World) (p q : Nat) (vo : Value) (l : List Nat) (hf : w.cell? ⟨p, 4, none⟩ = some vo) (h : SlX tI q w vo (nI l)) (i : Int) :
    Calls Try.prog 28 #[.pointer (some ⟨p, 0, none⟩), .int .i64 i] w fun e w' => e = .returned (.int .i64 (blkOf l i)) ∧ w' = w := by
  obtain ⟨r, hr⟩ : ∃ r, r = blkOf l i := ⟨_, rfl⟩
  rw [← hr]
  unfold blkOf at hr
  have HR := Lib.hid hr
  obtain ⟨a0, cap, rfl, h1, h2⟩ := h.form
  have H := Lib.hid h
  rw [nI_len] at hf h1 H
  unfold maxLen at h2
  clear hr h
  by_cases k1 : i < 0
  · have e1 : Hid (r = -1) := by show _ = _; rw [HR.out, if_pos (Or.inl k1)]
    go_enter Try.func28, Try.ntmps28
    go_wp2
    go_ret
    exact ⟨retI e1.out.symm, rfl⟩
  · have k1' : 0 ≤ i := by omega
    by_cases k2 : (l.length : Int) ≤ i
    · have e1 : Hid (r = -1) := by show _ = _; rw [HR.out, if_pos (Or.inr k2)]
      clear k1
      go_enter Try.func28, Try.ntmps28
      go_wp2
      go_ret
      exact ⟨retI e1.out.symm, rfl⟩
    · obtain ⟨k, rfl⟩ := Int.eq_ofNat_of_zero_le k1'
      have hk : k < l.length := by omega
      have hk' : (k : Int) < (l.length : Int) := by omega
      obtain ⟨x, hx⟩ : ∃ x, l[k]? = some x := ⟨_, List.getElem?_eq_getElem hk⟩
      have e1 : Hid (r = (x : Int)) := by
        show _ = _
        rw [HR.out, if_neg (by omega), Int.toNat_natCast, List.getD_eq_getElem?_getD, hx]
        rfl
      obtain ⟨b, o, rfl, _, _, hc⟩ := SlX.int H.out (show (nI l)[k]? = some (x : Int) by unfold nI; rw [List.getElem?_map, hx]; rfl)
      clear k1 k2 hx HR
      go_enter Try.func28, Try.ntmps28
      go_wp2
      go_ret
      exact ⟨retI e1.out.symm, rfl⟩
end Go.Proofs.Ytlhehphikkgobaa
