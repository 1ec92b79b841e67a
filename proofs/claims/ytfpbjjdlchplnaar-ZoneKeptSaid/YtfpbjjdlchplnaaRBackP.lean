/- Plain facts: the bounds that a tight table tells are its own table again. No program. -/
import Derived.Test.YtfpbjjdlchplnaaRCloseP
import Derived.Test.YtfpbjjdlchplnaaRTightP
import Derived.Test.YtfpbjjdlchplnaaREq
import Derived.Test.YtfpbjjdlchplnaaRJoin
namespace Go.Proofs.YtfpbjjdlchplnaaR
open Go Go.RowKit Go.Wr

theorem mem_consL {m : Nat → Nat → Int} {x : Cn} : x ∈ consL m 60 ↔ ∃ i j, i < 60 ∧ j < 60 ∧ i ≠ j ∧ m i j ≠ 2305843009213693952 ∧ x = ⟨i, j, m i j⟩ := by
  unfold consL rowL
  rw [List.mem_flatMap]
  constructor
  · rintro ⟨i, hi, hx⟩
    rw [List.mem_filterMap] at hx
    obtain ⟨j, hj, e⟩ := hx
    by_cases h : i ≠ j ∧ m i j ≠ 2305843009213693952
    · rw [if_pos h] at e
      exact ⟨i, j, List.mem_range.1 hi, List.mem_range.1 hj, h.1, h.2, by injection e with e; exact e.symm⟩
    · rw [if_neg h] at e; cases e
  · rintro ⟨i, j, hi, hj, h1, h2, rfl⟩
    refine ⟨i, List.mem_range.2 hi, ?_⟩
    rw [List.mem_filterMap]
    exact ⟨j, List.mem_range.2 hj, by rw [if_pos ⟨h1, h2⟩]⟩

theorem cons_wrong {m : Nat → Nat → Int} (hr : Rng m) : wrongL (consL m 60) = 0 := wrong_of_all fun x hx => by
  obtain ⟨i, j, hi, hj, _, hb, rfl⟩ := mem_consL.1 hx
  have h := hr i j hi hj
  have h1 : vr (i : Int) = true := vr_iff.2 (by omega)
  have h2 : vr (j : Int) = true := vr_iff.2 (by omega)
  have h3 : bd (m i j) = true := bd_iff.2 (by omega)
  unfold wrongL
  simp only [h1, h2, h3, Bool.and_self, if_true]
  rfl

theorem cons_fine {l : List Cn} {m : Nat → Nat → Int} {K : Int} (ht : Tight l m) (hl : Fine K l) (hK : 0 ≤ K) : Fine (59 * K) (consL m 60) := fun x hx => by
  obtain ⟨i, j, hi, hj, _, hb, rfl⟩ := mem_consL.1 hx
  have := ht.small hl hK hi hj hb
  exact ⟨⟨by simpa using hi, by simpa using hj⟩, this.1, this.2⟩

theorem cons_tight {l : List Cn} {m : Nat → Nat → Int} (ht : Tight l m) : Tight (consL m 60) m := by
  refine Tight.mk' (fun x hx => ?_) ht.diag (fun p k q hp hk hq h1 h2 => ht.tri hp hk hq h1 h2) (fun x hx => ?_) (fun p q hp hq hb => ?_)
  · obtain ⟨i, j, hi, hj, _, _, rfl⟩ := mem_consL.1 hx
    exact ⟨by simpa using hi, by simpa using hj⟩
  · obtain ⟨i, j, hi, hj, _, hb, rfl⟩ := mem_consL.1 hx
    simp only [Int.toNat_natCast]
    exact ⟨hb, Int.le_refl _⟩
  · by_cases e : p = q
    · subst e; exact ⟨0, rfl, ht.diag p hp⟩
    · have := Wk.one (mem_consL.2 ⟨p, q, hp, hq, e, hb, rfl⟩)
      exact ⟨1, by simpa using this⟩

/-- What comes of such bounds is the same zone. -/
theorem good_same {l : List Cn} {m : Nat → Nat → Int} (ht : Tight l m) {z : Zn} (hg : Good (consL m 60) z) : z.e = false ∧ ∀ p q, p < 60 → q < 60 → z.m p q = m p q := by
  have hc := cons_tight ht
  rcases hg with ⟨_, hn⟩ | ⟨he, hz⟩
  · exact absurd hn hc.noNeg
  · exact ⟨he, fun p q hp hq => Tight.unique hz hc (fun x => Iff.rfl) hp hq⟩

theorem good_two {l l' : List Cn} {z o : Zn} (hg : Good l z) (ho : Good l' o) (hs : ∀ x, x ∈ l ↔ x ∈ l') : z.e = o.e ∧ (z.e = false → ∀ p q, p < 60 → q < 60 → z.m p q = o.m p q) := by
  rcases hg with ⟨he, n, p, s, hp, hw, hs0⟩ | ⟨he, ht⟩
  · rcases ho with ⟨he', _⟩ | ⟨he', ht'⟩
    · exact ⟨by rw [he, he'], fun h => by rw [he] at h; cases h⟩
    · exact absurd ⟨n, p, s, hp, Wk.mono (fun x hx => (hs x).1 hx) hw, hs0⟩ ht'.noNeg
  · rcases ho with ⟨he', n, p, s, hp, hw, hs0⟩ | ⟨he', ht'⟩
    · exact absurd ⟨n, p, s, hp, Wk.mono (fun x hx => (hs x).2 hx) hw, hs0⟩ ht.noNeg
    · exact ⟨by rw [he, he'], fun _ p q hp hq => Tight.unique ht ht' hs hp hq⟩

theorem sameZ_of {z o : Zn} (he : z.e = o.e) (h : z.e = false → ∀ p q, p < 60 → q < 60 → z.m p q = o.m p q) : sameZ z o = true := by
  unfold sameZ
  cases hz : z.e with
  | true => rw [hz] at he; rw [← he]; rfl
  | false =>
    rw [hz] at he
    rw [← he, eqT_iff.2 (fun i j hi hj => h hz i j hi hj)]
    rfl

theorem within_of {z o : Zn} (he : z.e = o.e) (h : z.e = false → ∀ p q, p < 60 → q < 60 → z.m p q = o.m p q) : withinZ z o = true := by
  unfold withinZ
  cases hz : z.e with
  | true => rfl
  | false =>
    rw [hz] at he
    rw [← he, leT_iff.2 (fun i j hi hj => by rw [h hz i j hi hj]; exact Int.le_refl _)]
    rfl

end Go.Proofs.YtfpbjjdlchplnaaR
