/- A deed, in plain words: what is wrong with it, its bytes; how it lies in memory. -/
import Derived.Test.YtfdjdpbiccclfaaDGl
namespace Go.Proofs.Ytfdjdpbiccclfaa
open Go Go.RowKit Go.Wr
set_option maxHeartbeats 1000000

/-- A claim: dead or not, its tags, its bounds. -/
structure Cl where
  d : Bool
  f : Nat → Tg
  l : List C3
/-- A deed. -/
structure Dd where
  ls : List Lp
  cs : List Cl

/-- What is wrong with a deed. -/
def goodLs : List Lp → Int
  | [] => 0
  | x :: l => if goodLoop x = true then goodLs l else 113
def goodCs : List Cl → Int
  | [] => 0
  | c :: l => if goodClaim c.d c.f c.l = 0 then goodCs l else goodClaim c.d c.f c.l
def plainD (d : Dd) : Int := if 8 < d.ls.length ∨ 512 < d.cs.length then 112 else if goodLs d.ls = 0 then goodCs d.cs else 113
def loopB (x : Lp) : List Nat := leb 9 x.h.toNat ++ (leb 9 x.a.toNat ++ (leb 9 x.b.toNat ++ (leb 9 (sg x.k) ++ leb 9 x.d.toNat)))
def loopsB (l : List Lp) : List Nat := l.flatMap loopB
def claimsB (l : List Cl) : List Nat := l.flatMap fun c => claimB c.d c.f c.l
def bodyB (d : Dd) : List Nat := leb 9 d.ls.length ++ (loopsB d.ls ++ (leb 9 d.cs.length ++ claimsB d.cs))
def deedB (d : Dd) : List Nat := [87, 65, 82, 49] ++ bodyB d
def encE (d : Dd) : Int := if plainD d = 0 then (if 4194304 < (deedB d).length then 2 else 0) else plainD d
def encD (d : Dd) : List Nat := if encE d = 0 then deedB d else []


/-- A slice of loops, whole in memory below B. -/
def SlL (B : Nat) (w : World) (v : Value) (l : List Lp) : Prop :=
  ∃ a0 cap, v = .slice a0 l.length cap ∧ ∀ k x, l[k]? = some x → ∃ bb off, a0 = some ⟨bb, off, none⟩ ∧ bb < B ∧ w.rangeAt bb (off + k * 5) (lpv x).toList
/-- A slice of claims, whole in memory below B, their bounds too. -/
def SlCl (B : Nat) (w : World) (v : Value) (l : List Cl) : Prop :=
  ∃ a0 cap, v = .slice a0 l.length cap ∧ ∀ k x, l[k]? = some x → ∃ bb off vc, a0 = some ⟨bb, off, none⟩ ∧ bb < B ∧ w.rangeAt bb (off + k * 128) (bx (.bool x.d) x.f vc).toList ∧ SlC B w vc x.l
theorem rangeAt_below {B b o : Nat} {w w' : World} {cs : List Value} (h : w.rangeAt b o cs) (hb : Below B w w') (hlt : b < B) : w'.rangeAt b o cs := fun j v hj => (hb.cell (p := ⟨b, _, none⟩) hlt).trans (h j v hj)
theorem SlL.below {B : Nat} {w w' : World} {v : Value} {l : List Lp} (h : SlL B w v l) (b : Below B w w') : SlL B w' v l := by
  obtain ⟨a0, cap, e, hc⟩ := h
  refine ⟨a0, cap, e, fun k x hx => ?_⟩
  obtain ⟨bb, off, h1, h2, h3⟩ := hc k x hx
  exact ⟨bb, off, h1, h2, rangeAt_below h3 b h2⟩
theorem SlL.mono {B B' : Nat} {w : World} {v : Value} {l : List Lp} (h : SlL B w v l) (hB : B ≤ B') : SlL B' w v l := by
  obtain ⟨a0, cap, e, hc⟩ := h
  refine ⟨a0, cap, e, fun k x hx => ?_⟩
  obtain ⟨bb, off, h1, h2, h3⟩ := hc k x hx
  exact ⟨bb, off, h1, by omega, h3⟩
theorem SlCl.below {B : Nat} {w w' : World} {v : Value} {l : List Cl} (h : SlCl B w v l) (b : Below B w w') : SlCl B w' v l := by
  obtain ⟨a0, cap, e, hc⟩ := h
  refine ⟨a0, cap, e, fun k x hx => ?_⟩
  obtain ⟨bb, off, vc, h1, h2, h3, h4⟩ := hc k x hx
  exact ⟨bb, off, vc, h1, h2, rangeAt_below h3 b h2, h4.below b⟩
theorem SlCl.mono {B B' : Nat} {w : World} {v : Value} {l : List Cl} (h : SlCl B w v l) (hB : B ≤ B') : SlCl B' w v l := by
  obtain ⟨a0, cap, e, hc⟩ := h
  refine ⟨a0, cap, e, fun k x hx => ?_⟩
  obtain ⟨bb, off, vc, h1, h2, h3, h4⟩ := hc k x hx
  exact ⟨bb, off, vc, h1, by omega, h3, h4.mono hB⟩
/-- A deed in memory below B. -/
structure SlD (B : Nat) (w : World) (v v' : Value) (d : Dd) : Prop where
  ls : SlL B w v d.ls
  cs : SlCl B w v' d.cs
  nl : d.ls.length ≤ 140737488351232
  nc : d.cs.length ≤ 140737488351232
  nb : ∀ c ∈ d.cs, c.l.length ≤ 140737488351232
theorem SlD.below {B : Nat} {w w' : World} {v v' : Value} {d : Dd} (h : SlD B w v v' d) (b : Below B w w') : SlD B w' v v' d := ⟨h.ls.below b, h.cs.below b, h.nl, h.nc, h.nb⟩
theorem SlD.mono {B B' : Nat} {w : World} {v v' : Value} {d : Dd} (h : SlD B w v v' d) (hB : B ≤ B') : SlD B' w v v' d := ⟨h.ls.mono hB, h.cs.mono hB, h.nl, h.nc, h.nb⟩

theorem goodclaim_any (w : World) (d : Bool) (f : Nat → Tg) (v : Value) (l : List C3) (hv : SlC w.heap.size w v l) (hll : l.length ≤ 140737488351232) :
    Calls Try.prog 48 #[.agg (bx (.bool d) f v)] w fun e w' => e = .returned (.int .i64 (goodClaim d f l)) ∧ Below w.heap.size w w' := by
  cases d with
  | true => exact goodclaim_dead w f v l hv
  | false => exact goodclaim_live w f v l hv hll
theorem i91 {c : Prop} [Decidable c] {v : Int} (h : v = 0 ∨ v = 91 ∨ v = 111) : (if c then 91 else v) = 0 ∨ (if c then 91 else v) = 91 ∨ (if c then 91 else v) = 111 := by split <;> simp [h]
theorem i111 {c : Prop} [Decidable c] {v : Int} (h : v = 0 ∨ v = 91 ∨ v = 111) : (if c then 111 else v) = 0 ∨ (if c then 111 else v) = 91 ∨ (if c then 111 else v) = 111 := by split <;> simp [h]
theorem goodClaim_vals (d : Bool) (f : Nat → Tg) (l : List C3) : goodClaim d f l = 0 ∨ goodClaim d f l = 90 ∨ goodClaim d f l = 91 ∨ goodClaim d f l = 93 ∨ goodClaim d f l = 111 := by
  have h : ∀ (l : List C3) p, goC p l = 0 ∨ goC p l = 91 ∨ goC p l = 111 := fun l => by
    induction l with
    | nil => intro p; left; cases p <;> rfl
    | cons x l ih =>
      intro p
      unfold goC
      exact i91 (i111 (ih _))
  unfold goodClaim
  split
  · split <;> simp
  · split
    · simp
    · split
      · simp
      · rcases h l none with h | h | h <;> simp [h]
end Go.Proofs.Ytfdjdpbiccclfaa
