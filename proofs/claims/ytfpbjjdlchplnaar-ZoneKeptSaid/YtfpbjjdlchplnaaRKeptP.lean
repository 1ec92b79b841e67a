/- Parts of ZoneKept: what stays where one block is written over; copies that are owned; answers that nobody looks at. -/
import Derived.Test.YtfpbjjdlchplnaaRRoomy
import Derived.Test.YtfpbjjdlchplnaaRErr
import Derived.Test.YtfpbjjdlchplnaaRCopy
import Derived.Test.YtfpbjjdlchplnaaRLbnds
import Derived.Test.YtfpbjjdlchplnaaRCons
namespace Go.Proofs.YtfpbjjdlchplnaaR
open Go Go.RowKit Go.Wr
set_option maxHeartbeats 1000000
set_option maxRecDepth 100000

theorem Blk.ne {w : World} {b b' : Nat} {T T' : TypeId} {C C' : Array Value} (h : Blk w b T C) (h' : Blk w b' T' C') (hT : T ≠ T') : b ≠ b' := fun e => by
  subst e
  have e1 : w.heap[b]? = some (.cells C T (0, 0)) := h
  have e2 : w.heap[b]? = some (.cells C' T' (0, 0)) := h'
  rw [e1] at e2
  injection e2 with e2
  injection e2 with _ e2
  exact hT e2

/-- The worlds differ in block g alone, and where n is 0 not at all. -/
structure Kp (n g : Nat) (w w' : World) : Prop where
  only : Only g w w'
  none : n = 0 → ∀ k : Nat, w'.heap[k]? = w.heap[k]?

theorem Kp.blk {n g b : Nat} {w w' : World} {T : TypeId} {C : Array Value} (h : Kp n g w w') (hb : Blk w b T C) (hne : 0 < n → b ≠ g) : Blk w' b T C := by
  by_cases e : n = 0
  · exact hb.of_block (h.none e b)
  · exact h.only.blk hb (hne (by omega))
theorem Kp.below {n g B : Nat} {w w' : World} (h : Kp n g w w') (hB : B ≤ g) : Below B w w' := h.only.below hB
theorem Kp.refl (n g : Nat) (w : World) : Kp n g w w := ⟨Only.refl _ _, fun _ _ => rfl⟩
theorem Kp.of {n g : Nat} {w w' : World} (hn : 0 < n) (h : Only g w w') : Kp n g w w' := ⟨h, fun e => by omega⟩

theorem Kp.trans {n g : Nat} {a b c : World} (h : Kp n g a b) (k : Kp n g b c) : Kp n g a c := ⟨h.only.trans k.only, fun e i => (k.none e i).trans (h.none e i)⟩
theorem Kp.at {n g : Nat} {w w' : World} (h : Kp n g w w') {i : Nat} (hi : 0 < n → i ≠ g) : w'.heap[i]? = w.heap[i]? := by
  by_cases e : n = 0
  · exact h.none e i
  · exact h.only.block i (hi (by omega))
theorem ownsRow_kp {n g B T s m : Nat} {w w' : World} {v : Value} {xs : List Value} (h : w.ownsRow B T s v m xs) (k : Kp n g w w') (hB : 0 < n → g < B) : w'.ownsRow B T s v m xs := by
  refine ⟨h.1, ?_⟩
  rcases h.2 with h | ⟨g', cap, cur, e, hg, hh, r⟩
  · exact Or.inl h
  · exact Or.inr ⟨g', cap, cur, e, hg, (k.at (fun hn => by have := hB hn; omega)).trans hh, r⟩
theorem ownsRow_below {B T s m : Nat} {w w' : World} {v : Value} {xs : List Value} (h : w.ownsRow B T s v m xs) (b : Below w.heap.size w w') : w'.ownsRow B T s v m xs := by
  refine ⟨h.1, ?_⟩
  rcases h.2 with h | ⟨g', cap, cur, e, hg, hh, r⟩
  · exact Or.inl h
  · have hb : Blk w g' T cur := hh
    exact Or.inr ⟨g', cap, cur, e, hg, (b.block g' hb.lt).trans hh, r⟩
theorem newCons_kp {n g B : Nat} {w w' : World} {v : Value} {l : List Cn} (h : NewCons B w v l) (k : Kp n g w w') (hB : 0 < n → g < B) : NewCons B w' v l := by
  rcases h with h | ⟨g', C, e, hg, hb, r⟩
  · exact Or.inl h
  · exact Or.inr ⟨g', C, e, hg, hb.of_block (k.at fun hn => by have := hB hn; omega), r⟩
theorem newCons_below {B B' : Nat} {w w' : World} {v : Value} {l : List Cn} (h : NewCons B w v l) (k : Below B' w w') (hB : w.heap.size ≤ B') : NewCons B w' v l := by
  rcases h with h | ⟨g', C, e, hg, hb, r⟩
  · exact Or.inl h
  · exact Or.inr ⟨g', C, e, hg, hb.below k (Nat.lt_of_lt_of_le hb.lt hB), r⟩
/-- What Cons of a zone answers, nil or not. -/
theorem newCons_open {B : Nat} {w : World} {v : Value} {l : List Cn} (h : NewCons B w v l) (hB : B ≤ w.heap.size) :
    ∃ a0 g, v = .slice a0 l.length l.length ∧ B ≤ g ∧ (a0 = none → l.length = 0) ∧ (0 < l.length → g < w.heap.size) ∧ (∀ a, a0 = some a → a = ⟨g, 0, none⟩ ∧ ∃ C, Blk w g 34 C ∧ l.length * 3 ≤ C.size) := by
  rcases h with ⟨rfl, rfl⟩ | ⟨g, C, rfl, hg, hb, ht⟩
  · exact ⟨none, w.heap.size, rfl, hB, fun _ => rfl, fun h => by simp at h, fun a h => by cases h⟩
  · refine ⟨some ⟨g, 0, none⟩, g, rfl, hg, (fun h => by cases h), fun _ => hb.lt, fun a h => ⟨by injection h with h; exact h.symm, C, hb, ?_⟩⟩
    have := congrArg List.length ht
    rw [List.length_take, conCells_len] at this
    have e : C.toList.length = C.size := by simp
    omega

/-- The rows of a slice that is nil or fills the head of block g. -/
def RowOf (w : World) (a0 : Option Addr) (g n : Nat) : Prop := (a0 = none → n = 0) ∧ ∀ a, a0 = some a → a = ⟨g, 0, none⟩ ∧ ∃ C, Blk w g 34 C ∧ n * 3 ≤ C.size
theorem RowOf.below {w w' : World} {a0 : Option Addr} {g n : Nat} (h : RowOf w a0 g n) (b : Below w.heap.size w w') : RowOf w' a0 g n :=
  ⟨h.1, fun a ha => by obtain ⟨e, C, hb, hn⟩ := h.2 a ha; exact ⟨e, C, hb.below b hb.lt, hn⟩⟩
theorem RowOf.alloc {w : World} {a0 : Option Addr} {g n : Nat} (h : RowOf w a0 g n) (o : Obj) : RowOf (w.alloc o) a0 g n := h.below (bAl (bRefl w) o)
theorem RowOf.kp {w w' : World} {a0 : Option Addr} {g n m g' : Nat} (h : RowOf w a0 g n) (k : Kp m g' w w') (hne : 0 < m → g ≠ g') : RowOf w' a0 g n :=
  ⟨h.1, fun a ha => by obtain ⟨e, C, hb, hn⟩ := h.2 a ha; exact ⟨e, C, hb.of_block (k.at hne), hn⟩⟩
theorem RowOf.ne {w : World} {a0 : Option Addr} {g n b : Nat} {T : TypeId} {C : Array Value} (h : RowOf w a0 g n) (hb : Blk w b T C) (hT : T ≠ 34) : 0 < n → b ≠ g := fun hn => by
  cases a0 with
  | none => have := h.1 rfl; omega
  | some a =>
    obtain ⟨_, C', hc, _⟩ := h.2 a rfl
    exact Blk.ne hb hc hT
theorem RowOf.isSome {w : World} {a0 : Option Addr} {g n : Nat} (h : RowOf w a0 g n) (hn : 0 < n) : a0 = some ⟨g, 0, none⟩ := by
  cases a0 with
  | none => have := h.1 rfl; omega
  | some a => rw [(h.2 a rfl).1]
theorem RowOf.olds {w : World} {a0 : Option Addr} {g n : Nat} (h : RowOf w a0 g n) : ∃ olds : List Value, olds.length = n * 3 ∧ ∀ b, a0 = some b → ∀ j u, olds[j]? = some u → w.cell? (b.add j) = some u := by
  cases a0 with
  | none =>
    have := h.1 rfl
    subst this
    exact ⟨[], rfl, fun b hb => by cases hb⟩
  | some a =>
    obtain ⟨rfl, C, hb, hn⟩ := h.2 a rfl
    refine ⟨C.toList.take (n * 3), by rw [List.length_take]; simp; omega, fun b hb' j u hu => ?_⟩
    injection hb' with hb'
    subst hb'
    rw [List.getElem?_take] at hu
    split at hu
    · rw [Array.getElem?_toList] at hu
      rw [Addr.add_lit, Nat.zero_add]
      exact (hb.cell j).trans hu
    · cases hu
/-- A slice that grows at its end. -/
def AppR (B : Nat) (w : World) (u : Value) (a0 : Option Addr) (n k : Nat) : Prop := (k = 0 ∧ u = .slice a0 n n) ∨ ∃ xs, w.ownsRow B 34 3 u (n + k) xs

theorem SlI.pre {w : World} {B g n cap : Nat} {l r : List Int} (h : w.ownsRow B 3 1 (.slice (some ⟨g, 0, none⟩) n cap) n (intCells l ++ intCells r)) (hn : n = l.length + r.length) (hl : n ≤ 9223372036854775807) : SlI w (.slice (some ⟨g, 0, none⟩) l.length cap) l := by
  refine ⟨some ⟨g, 0, none⟩, cap, rfl, by omega, fun k x hx => ⟨g, 0, rfl, ?_⟩⟩
  have hk : k < l.length := (List.getElem?_eq_some_iff.1 hx).1
  rw [Nat.zero_add]
  refine (h.cellAt k (by omega)).trans ?_
  have hlen : (intCells l).length = l.length := by unfold intCells; simp
  rw [List.getElem?_append_left (by omega)]
  unfold intCells
  rw [List.getElem?_map, hx]
  rfl

theorem copy_own (w : World) (v : Value) (l : List Int) (hs : SlI w v l) (hnn : ∀ n c, v = .slice none n c → c = 0) (hlen : l.length * 8 ≤ 140737488355328) :
    Calls Try.prog 35 #[v] w fun e w' => ∃ v', e = .returned v' ∧ w'.ownsRow w.heap.size 3 1 v' l.length (intCells l) ∧ Below w.heap.size w w' := by
  obtain ⟨a0, cap, rfl, hl, hc⟩ := hs
  obtain ⟨i, hi, hz0, hz1, hz2⟩ := info_parts infoI
  cases a0 with
  | none =>
    have hl0 : l = [] := by
      cases l with
      | nil => rfl
      | cons x r => obtain ⟨b, off, h, _⟩ := hc 0 x rfl; cases h
    subst hl0
    obtain rfl : cap = 0 := hnn _ _ rfl
    clear hc hnn
    go_enter Try.func35, Try.ntmps35
    go_wp2_with (at_builtin; refine wpList_append_own_none rfl _ _ _ rfl w.heap.size 3 i 1 Try.underlying36 hi (.slice none 0 0) 0 [] rfl (World.ownsRow_nil _ _ _ _) rfl ?_)
    go_ret
    exact ⟨_, rfl, World.ownsRow_nil _ _ _ _, Below.refl _ _⟩
  | some ad =>
    clear hnn
    have hn : ∀ j u, (intCells l)[j]? = some u → w.cell? (ad.add j) = some u := fun j u h => by
      unfold intCells at h
      rw [List.getElem?_map] at h
      cases hx : l[j]? with
      | none => rw [hx] at h; cases h
      | some n =>
        rw [hx] at h
        obtain ⟨b, off, ha, h0⟩ := hc j n hx
        injection ha with ha
        subst ha
        rw [Addr.add_lit, h0]
        exact h
    have Hn := Lib.hid hn
    have ho : ∀ u ∈ intCells l, u.oneCell' = true := fun u hu => by
      unfold intCells at hu
      obtain ⟨n, _, rfl⟩ := List.mem_map.1 hu
      rfl
    have Ho := Lib.hid ho
    have hlc : (intCells l).length = l.length * 1 := by unfold intCells; simp
    clear hn ho hc
    go_enter Try.func35, Try.ntmps35
    go_wp2_with (at_builtin; refine wpList_append_own _ rfl _ _ _ rfl w.heap.size 3 i _ 1 8 Try.underlying36 hi hz0 hz1 hz2 rfl (by omega) (.slice none 0 0) 0 [] rfl (World.ownsRow_nil _ _ _ _) ad l.length cap (intCells l) rfl hlc Hn.out Ho.out (by unfold maxLen; omega) (by omega) (by simp) ?_; intro v' w' hown' hgrow hnil)
    go_ret
    rw [List.nil_append, Nat.zero_add] at hown'
    exact ⟨v', rfl, hown', (Below.refl _ _).grown hgrow (Nat.le_refl _) (fun g hg => by cases hg)⟩

/-- A call whose answer nobody looks at. -/
def AnyRet (w : World) (e : Ending) (w' : World) : Prop := ∃ v, e = .returned v ∧ Below w.heap.size w w'
theorem RetE.any {w w' : World} {c : Int} {z : Zn} {e : Ending} (h : RetE w c z e w') : AnyRet w e w' := by
  obtain ⟨hb, h | ⟨_, b, h, _⟩⟩ := h
  · exact ⟨_, h.2, hb⟩
  · exact ⟨_, h, hb⟩
end Go.Proofs.YtfpbjjdlchplnaaR
