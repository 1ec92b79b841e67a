/- Plain facts of ZoneLoses. No program. -/
import Derived.Test.YtfpbjjdlchplnaaRExt
namespace Go.Proofs.YtfpbjjdlchplnaaR
open Go Go.RowKit Go.Wr

theorem zwith_append (z : Zn) (l l' : List Cn) : zwith z (l ++ l') = zwith (zwith z l) l' := by unfold zwith; rw [List.foldl_append]

theorem fine_append {K : Int} {l l' : List Cn} (h : Fine K l) (h' : Fine K l') : Fine K (l ++ l') := fun x hx => by
  rcases List.mem_append.1 hx with hx | hx
  · exact h x hx
  · exact h' x hx

/-- What With of more bounds makes of a zone. -/
theorem more_facts {l l' : List Cn} {m : Nat → Nat → Int} (hz : zwith znew (smallL l) = ⟨false, m⟩) (q : Nat) (he : (zwith ⟨false, m⟩ (smallL l')).e = false) :
    meetsB ⟨false, (zwith ⟨false, m⟩ (smallL l')).m⟩ (reachF (zwith ⟨false, m⟩ (smallL l')).m q 1125899906842624) = true ∧
    meetsB ⟨false, m⟩ (reachF (zwith ⟨false, m⟩ (smallL l')).m q 1125899906842624) = true ∧ metL (smallL l') (reachF (zwith ⟨false, m⟩ (smallL l')).m q 1125899906842624) = smallL l' := by
  have hf := fine_append (small_fine l) (small_fine l')
  have hg := good_with (K := 1099511627776) (by omega) (by omega) hf
  rw [zwith_append, hz] at hg
  have hg0 := good_with (K := 1099511627776) (by omega) (by omega) (small_fine l)
  rw [hz] at hg0
  rcases hg with ⟨h, _⟩ | ⟨_, ht⟩
  · rw [he] at h; cases h
  · rcases hg0 with ⟨h, _⟩ | ⟨_, ht0⟩
    · cases h
    · exact ⟨(Mt.meets fun _ _ hp hq hb => reach_meets ht q (by omega) (by omega) hp hq hb), (more_meets ht0 ht hf q).meets,
        met_all (fun x hx => (small_mem hx).1) (fun x hx => reach_edge ht (fun y hy => (hf y hy).1) q (by omega) (by omega) (List.mem_append_right _ hx))⟩

theorem loses_cl {l : List Cn} {m : Nat → Nat → Int} (hz : zwith znew (smallL l) = ⟨false, m⟩) : Cl 64871186038784 m := by
  have hg0 := good_with (K := 1099511627776) (by omega) (by omega) (small_fine l)
  rw [hz] at hg0
  rcases hg0 with ⟨h, _⟩ | ⟨_, ht0⟩
  · cases h
  · exact ht0.cl (small_fine l)

theorem Cl.wide {S S' : Int} {m : Nat → Nat → Int} (h : Cl S m) (hS : S ≤ S') : Cl S' m := ⟨h.diag, h.tri, fun p q hp hq hb => by have := h.small p q hp hq hb; omega⟩

theorem putF_i64 {f : Nat → Int} {x : Nat} {v : Int} (hf : ∀ q, q < 60 → I64 (f q)) (hv : I64 v) : ∀ q, q < 60 → I64 (putF f x v q) := fun q hq => by
  unfold putF
  split
  · exact hv
  · exact hf q hq

theorem SlI.one {w : World} {g : Nat} {x : Int} (h : w.cell? ⟨g, 0, none⟩ = some (.int .i64 x)) (c : Nat) : SlI w (.slice (some ⟨g, 0, none⟩) 1 c) [x] :=
  ⟨some ⟨g, 0, none⟩, c, rfl, by simp, fun k n hk => by
    cases k with
    | zero => simp at hk; subst hk; exact ⟨g, 0, rfl, h⟩
    | succ k => simp at hk⟩

end Go.Proofs.YtfpbjjdlchplnaaR
