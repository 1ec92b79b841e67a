/- Plain: the law's small code, and two exits. -/
import Derived.Test.YtlhehphikkgobaaHLoops
import Derived.Test.YtlhehphikkgobaaFSmall
namespace Go.Proofs.Ytlhehphikkgobaa
open Go Go.RowKit Go.Wr Go.Fl
set_option maxRecDepth 100000

def sN : Nat → List Nat
  | 0 => [1]
  | 1 => [1, 2]
  | _ => []
theorem sm_bl : bl smallL = [(0, 1), (1, 3), (3, 5)] := by decide
theorem sm_n : nB smallL = 3 := by unfold nB; rw [sm_bl]; rfl
theorem sm_nxt : nxt smallL = sN := by
  funext b
  match b with
  | 0 => decide
  | 1 => decide
  | 2 => decide
  | b + 3 => unfold nxt; rw [sm_bl]; rfl
theorem sm_ofl : ofl smallL = [0, 1, 1, 2, 2] := by decide
theorem sm_fr : frF smallL 0 = 0 ∧ twF smallL 0 = 1 ∧ frF smallL 1 = 1 ∧ twF smallL 1 = 3 ∧ frF smallL 2 = 3 ∧ twF smallL 2 = 5 := by unfold frF twF; rw [sm_bl]; decide
theorem sN_mem {u v : Nat} (h : v ∈ sN u) : (u = 0 ∧ v = 1) ∨ (u = 1 ∧ v = 1) ∨ (u = 1 ∧ v = 2) := by
  match u with
  | 0 => simp [sN] at h; omega
  | 1 => simp [sN] at h; omega
  | u + 2 => simp [sN] at h
theorem sN_dfs : DfsL sN [2, 1, 0] := by
  have h2 : Vs sN 1 2 0 (Fl.mark (Fl.mark (Fl.mark (fun _ => false) 0) 1) 2, []) (Fl.mark (Fl.mark (Fl.mark (fun _ => false) 0) 1) 2, [2]) := Vs.fin
  have h1 : Vs sN 1 1 2 (Fl.mark (Fl.mark (Fl.mark (fun _ => false) 0) 1) 2, [2]) (Fl.mark (Fl.mark (Fl.mark (fun _ => false) 0) 1) 2, [2, 1]) := Vs.fin
  have h1b := Vs.down (nx := sN) (b := 1) (k := 1) (c := 2) (s := (Fl.mark (Fl.mark (fun _ => false) 0) 1, [])) rfl rfl h2 h1
  have h1a := Vs.skip (nx := sN) (b := 1) (k := 0) (c := 1) rfl rfl h1b
  have h0 : Vs sN 1 0 1 (Fl.mark (Fl.mark (Fl.mark (fun _ => false) 0) 1) 2, [2, 1]) (Fl.mark (Fl.mark (Fl.mark (fun _ => false) 0) 1) 2, [2, 1, 0]) := Vs.fin
  exact ⟨_, _, Vs.down (nx := sN) (b := 0) (k := 0) (c := 1) (s := (Fl.mark (fun _ => false) 0, [])) rfl rfl h1a h0⟩
theorem sm_dfs : dfsL (nxt smallL) = [2, 1, 0] := by rw [sm_nxt]; exact sN_dfs.eq
theorem sN_rw : ∀ b, b < 3 → ∃ w, RW sN w b := by
  intro b hb
  have r1 : RW sN [1, 0] 1 := RW.step RW.root (by decide)
  match b with
  | 0 => exact ⟨_, RW.root⟩
  | 1 => exact ⟨_, r1⟩
  | 2 => exact ⟨_, RW.step r1 (by decide)⟩
theorem sN_dom {w : List Nat} {b : Nat} (h : RW sN w b) : b = 0 ∨ 1 ∈ w := by
  induction h with
  | root => exact Or.inl rfl
  | step _ hv ih =>
    rcases sN_mem hv with ⟨rfl, rfl⟩ | ⟨rfl, rfl⟩ | ⟨rfl, rfl⟩
    · simp
    · simp
    · rcases ih with ih | ih
      · cases ih
      · simp [ih]
theorem sN_12 : Dom sN 1 2 := fun w h => by
  rcases sN_dom h with h | h
  · cases h
  · exact h
theorem sN_21 : ¬ Dom sN 2 1 := fun h => by
  have := h [1, 0] (RW.step RW.root (by decide))
  simp at this
theorem sN_str : Str sN id 3 := fun u _ v hv hle => by
  rcases sN_mem hv with ⟨rfl, rfl⟩ | ⟨rfl, rfl⟩ | ⟨rfl, rfl⟩
  · simp at hle
  · exact Dom.refl _ _
  · simp at hle
theorem sN_lt : ∀ u, u < 3 → ∀ v ∈ sN u, v < 3 := fun u _ v hv => by
  rcases sN_mem hv with ⟨rfl, rfl⟩ | ⟨rfl, rfl⟩ | ⟨rfl, rfl⟩ <;> omega
theorem sN_hd (h : Nat) : Hd sN 3 h ↔ h = 1 := by
  constructor
  · rintro ⟨u, hu, hm, hd⟩
    rcases sN_mem hm with ⟨rfl, rfl⟩ | ⟨rfl, rfl⟩ | ⟨rfl, rfl⟩
    · rfl
    · rfl
    · exact absurd hd sN_21
  · rintro rfl
    exact ⟨1, by omega, by decide, Dom.refl _ _⟩
theorem sN_lp (x : Nat) : Lp sN 3 1 x ↔ x = 1 := by
  constructor
  · intro h
    induction h with
    | head => rfl
    | latch hu hm hd =>
      rcases sN_mem hm with ⟨rfl, _⟩ | ⟨rfl, _⟩ | ⟨rfl, e⟩
      · have := hd [0] RW.root
        simp at this
      · rfl
      · rfl
    | back _ hne _ _ ih => exact absurd ih hne
  · rintro rfl
    exact Lp.head
theorem sm_heads : heads smallL = [1] := by
  have h : ∀ b, headB smallL b = decide (b = 1) := fun b => by
    have h0 : headB smallL b = true ↔ b = 1 := by rw [headB_iff, sm_nxt, sm_n, sN_hd]
    by_cases e : b = 1
    · rw [h0.2 e]; simp [e]
    · cases hh : headB smallL b with
      | true => exact absurd (h0.1 hh) e
      | false => simp [e]
  unfold heads
  rw [sm_n, show headB smallL = fun b => decide (b = 1) from funext h]
  decide
theorem sm_lp : ins (lpB smallL 1) (nB smallL) = [1] := by
  have h : ∀ b, lpB smallL 1 b = decide (b = 1) := fun b => by
    have h0 : lpB smallL 1 b = true ↔ b = 1 := by rw [lpB_iff, sm_nxt, sm_n, sN_lp]
    by_cases e : b = 1
    · rw [h0.2 e]; simp [e]
    · cases hh : lpB smallL 1 b with
      | true => exact absurd (h0.1 hh) e
      | false => simp [e]
  unfold ins
  rw [sm_n, show lpB smallL 1 = fun b => decide (b = 1) from funext h]
  decide
theorem sm_par : parK smallL 0 (heads smallL).length = -1 := by
  rw [sm_heads]
  simp [parK]
theorem sm_g7 : G7 smallL := by
  refine ⟨⟨⟨⟨⟨⟨⟨by decide, by decide⟩, by decide⟩, ⟨⟨39, false, false, 0, 0, 0, 0, 0⟩, rfl, by decide⟩⟩, by rw [sm_n]; decide⟩, ?_⟩, ?_⟩, by rw [sm_heads]; decide⟩
  · rw [sm_n, sm_nxt]; exact sN_rw
  · rw [sm_n, sm_nxt]; exact fun b hb => no_round sN_str sN_lt hb
theorem sm_fine : mkE smallL = (0, 0) := mk_fine sm_g7
/-- Two exits. -/
def exL : List In := [⟨39, false, false, 0, 0, 0, 0, 0⟩, ⟨39, false, false, 0, 0, 0, 0, 0⟩]
theorem ex_bl : bl exL = [(0, 1), (1, 2)] := by decide
theorem ex_nxt : nxt exL = fun _ => [] := by
  funext b
  match b with
  | 0 => decide
  | 1 => decide
  | b + 2 => unfold nxt; rw [ex_bl]; rfl
theorem ex_no : mkE exL = (1, 42) := by
  have h2 : nB exL = 2 := by unfold nB; rw [ex_bl]; rfl
  have g : G4 exL := ⟨⟨⟨⟨by decide, by decide⟩, by decide⟩, ⟨⟨39, false, false, 0, 0, 0, 0, 0⟩, rfl, by decide⟩⟩, by rw [h2]; decide⟩
  have h := mk_reach g (b := 1) (by rw [h2]; decide) ?_ ?_
  · rw [h]
    unfold frm
    rw [ex_bl]
    rfl
  · rw [ex_nxt]
    rintro ⟨w, h⟩
    cases h with
    | step _ hv => cases hv
  · intro x hx
    obtain rfl : x = 0 := by omega
    exact ⟨_, RW.root⟩
end Go.Proofs.Ytlhehphikkgobaa
