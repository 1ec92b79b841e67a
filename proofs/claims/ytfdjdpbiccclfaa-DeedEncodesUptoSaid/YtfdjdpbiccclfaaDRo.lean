/- A row of bounds of the function's own; tags put into a claim; what reading a claim comes to, step by step. -/
import Derived.Test.YtfdjdpbiccclfaaDRc
import Derived.Laws.OwnMore
import Derived.Deep.AppendLies
namespace Go.Proofs.Ytfdjdpbiccclfaa
open Go Go.RowKit Go.Wr
set_option maxHeartbeats 1000000

def conC (l : List C3) : List Value := l.flatMap fun x => [.int .i64 x.i, .int .i64 x.j, .int .i64 x.c]
theorem conC_app (l : List C3) (x : C3) : conC (l ++ [x]) = conC l ++ [.int .i64 x.i, .int .i64 x.j, .int .i64 x.c] := by simp [conC]
theorem conC_len (l : List C3) : (conC l).length = l.length * 3 := by
  induction l with
  | nil => rfl
  | cons x r ih => simp only [conC, List.flatMap_cons, List.length_append, List.length_cons, List.length_nil] at *; omega
theorem conC_get (l : List C3) : ∀ (k : Nat) (x : C3), l[k]? = some x → (conC l)[k * 3]? = some (.int .i64 x.i) ∧ (conC l)[k * 3 + 1]? = some (.int .i64 x.j) ∧ (conC l)[k * 3 + 2]? = some (.int .i64 x.c) := by
  induction l with
  | nil => intro k x h; simp at h
  | cons y r ih =>
    intro k x h
    have e : conC (y :: r) = .int .i64 y.i :: .int .i64 y.j :: .int .i64 y.c :: conC r := rfl
    cases k with
    | zero => simp at h; subst h; rw [e]; simp
    | succ k =>
      have h' : r[k]? = some x := by simpa using h
      obtain ⟨h0, h1, h2⟩ := ih k x h'
      rw [e, show (k + 1) * 3 = k * 3 + 3 by omega]
      exact ⟨by simpa using h0, by simpa using h1, by simpa using h2⟩

/-- A row of bounds in new memory, nobody else's. -/
def OwC (B : Nat) (w : World) (v : Value) (l : List C3) : Prop := w.ownsRow B 63 3 v l.length (conC l)
theorem OwC.nil (B : Nat) (w : World) : OwC B w (.slice none 0 0) [] := ⟨rfl, Or.inl ⟨rfl, rfl⟩⟩
theorem OwC.mono {B B' : Nat} {w : World} {v : Value} {l : List C3} (h : OwC B w v l) (hB : B' ≤ B) : OwC B' w v l := by
  obtain ⟨h1, h2⟩ := h
  refine ⟨h1, h2.imp id ?_⟩
  rintro ⟨g, cap, cur, h3, h4, h5⟩
  exact ⟨g, cap, cur, h3, by omega, h5⟩
theorem OwC.of_block {B : Nat} {w w' : World} {v : Value} {l : List C3} (h : OwC B w v l) (hb : ∀ g C, Blk w g 63 C → w'.heap[g]? = w.heap[g]?) : OwC B w' v l := by
  obtain ⟨h1, h2⟩ := h
  refine ⟨h1, h2.imp id ?_⟩
  rintro ⟨g, cap, cur, h3, h4, h5, h6⟩
  exact ⟨g, cap, cur, h3, h4, (hb g cur h5).trans h5, h6⟩
theorem OwC.ex {B p : Nat} {w w' : World} {v : Value} {l : List C3} {T : TypeId} {C : Array Value} (h : OwC B w v l) (hx : Ex p w w') (hp : Blk w p T C) (hT : 63 ≠ T) : OwC B w' v l :=
  h.of_block fun g _ hg => hx.block g hg.lt (blk_ne hg hp hT)
theorem OwC.below {B : Nat} {w w' : World} {v : Value} {l : List C3} (h : OwC B w v l) (b : Below w.heap.size w w') : OwC B w' v l :=
  h.of_block fun g _ hg => b.block g hg.lt
theorem OwC.set {B b i : Nat} {w : World} {v x : Value} {l : List C3} {T : TypeId} {C : Array Value} (h : OwC B w v l) (hb : Blk w b T C) (hT : 63 ≠ T) : OwC B (w.setCell ⟨b, i, none⟩ x) v l :=
  h.of_block fun g _ hg => Below.heap_setCell w ⟨b, i, none⟩ x g (blk_ne hg hb hT)
theorem OwC.cells {B : Nat} {w : World} {v : Value} {l : List C3} (h : OwC B w v l) : ∃ a0 cap, v = .slice a0 l.length cap ∧ l.length ≤ cap ∧ (l ≠ [] → ∃ g, a0 = some ⟨g, 0, none⟩ ∧ B ≤ g ∧ g < w.heap.size ∧ (∃ C, Blk w g 63 C)) ∧
    ∀ k x, l[k]? = some x → ∃ g, a0 = some ⟨g, 0, none⟩ ∧ g < w.heap.size ∧ w.cell? ⟨g, k * 3, none⟩ = some (.int .i64 x.i) ∧ w.cell? ⟨g, k * 3 + 1, none⟩ = some (.int .i64 x.j) ∧ w.cell? ⟨g, k * 3 + 2, none⟩ = some (.int .i64 x.c) := by
  obtain ⟨h1, h2⟩ := h
  rcases h2 with ⟨rfl, h0⟩ | ⟨g, cap, cur, rfl, hg, hb, hle, hcap, hsz, htk⟩
  · have := List.eq_nil_of_length_eq_zero h0
    subst this
    exact ⟨none, 0, rfl, by simp, fun h => absurd rfl h, fun k x hx => by simp at hx⟩
  · have hb' : Blk w g 63 cur := hb
    refine ⟨some ⟨g, 0, none⟩, cap, rfl, hle, fun _ => ⟨g, rfl, hg, hb'.lt, cur, hb'⟩, fun k x hx => ⟨g, rfl, hb'.lt, ?_⟩⟩
    have hk : k < l.length := (List.getElem?_eq_some_iff.1 hx).1
    obtain ⟨h0, h1, h2⟩ := conC_get l k x hx
    rw [← htk] at h0 h1 h2
    rw [List.getElem?_take, if_pos (by omega), Array.getElem?_toList] at h0 h1 h2
    exact ⟨(hb'.cell _).trans h0, (hb'.cell _).trans h1, (hb'.cell _).trans h2⟩
theorem OwC.sl {B B' : Nat} {w : World} {v : Value} {l : List C3} (h : OwC B w v l) (hB : w.heap.size ≤ B') : SlC B' w v l := by
  obtain ⟨a0, cap, rfl, _, _, hc⟩ := h.cells
  refine ⟨a0, cap, rfl, fun k x hx => ?_⟩
  obtain ⟨g, h1, h2, h3, h4, h5⟩ := hc k x hx
  exact ⟨g, 0, h1, by omega, by rw [Nat.zero_add]; exact h3, by rw [Nat.zero_add]; exact h4, by rw [Nat.zero_add]; exact h5⟩
theorem OwC.last {B p : Nat} {w : World} {v : Value} {l : List C3} {T : TypeId} {C : Array Value} (h : OwC B w v l) (hp : Blk w p T C) (hT : 63 ≠ T) : LastC p w v l.length l.getLast? := by
  obtain ⟨a0, cap, rfl, _, hn, hc⟩ := h.cells
  by_cases hl : l = []
  · subst hl; exact Or.inl ⟨rfl, rfl⟩
  · right
    have hpos : 0 < l.length := List.length_pos_iff.2 hl
    obtain ⟨g, rfl, _, hgl, C', hg⟩ := hn hl
    have hx : l[l.length - 1]? = some (l[l.length - 1]'(by omega)) := List.getElem?_eq_getElem _
    obtain ⟨g', e, _, h3, h4, h5⟩ := hc _ _ hx
    simp only [Option.some.injEq, Addr.mk.injEq, and_true] at e
    subst e
    refine ⟨l[l.length - 1]'(by omega), l.length - 1, g, 0, cap, ?_, by omega, rfl, blk_ne hg hp hT, hgl, by rw [Nat.zero_add]; exact h3, by rw [Nat.zero_add]; exact h4, by rw [Nat.zero_add]; exact h5⟩
    rw [List.getLast?_eq_getElem?]
    exact hx

theorem bx_at (a : Value) (f : Nat → Tg) (b : Value) (i : Nat) : (bx a f b)[i]? = if i = 0 then some a else if i < 127 then some (.int .i64 (tcomp (f ((i - 1) / 3)) ((i - 1) % 3))) else if i = 127 then some b else none := by
  by_cases h0 : i = 0
  · subst h0; rw [bx_zero]; rfl
  · rw [if_neg h0]
    by_cases h1 : i < 127
    · rw [if_pos h1]
      have := bx_succ a f b (i := i - 1) (by omega)
      rw [show 1 + (i - 1) = i by omega] at this
      rw [this, gc_at f (by omega)]
    · rw [if_neg h1]
      by_cases h2 : i = 127
      · subst h2; rw [bx_last]; rfl
      · rw [if_neg h2, Array.getElem?_eq_none (by rw [bx_size]; omega)]
theorem bx_put (a : Value) (f : Nat → Tg) (b : Value) {k : Nat} (hk : k < 42) (t : Tg) {o : Nat} (ho : o = 1 + k * 3) :
    (((bx a f b).setIfInBounds o (.int .i64 t.k)).setIfInBounds (o + 1) (.int .i64 t.t)).setIfInBounds (o + 2) (.int .i64 t.m) = bx a (putT f k t) b := by
  subst ho
  apply Array.ext_getElem?
  intro i
  simp only [Array.getElem?_setIfInBounds, Array.size_setIfInBounds, bx_size, bx_at, putT]
  by_cases h0 : i = 0
  · subst h0
    rw [if_neg (by omega), if_neg (by omega), if_neg (by omega)]
    simp
  · by_cases h127 : i < 127
    · simp only [h0, h127, if_true, if_false]
      by_cases h1 : 1 + k * 3 + 2 = i
      · rw [if_pos h1, if_pos (by omega), if_pos (by omega), show (i - 1) % 3 = 2 by omega]; rfl
      · rw [if_neg h1]
        by_cases h2 : 1 + k * 3 + 1 = i
        · rw [if_pos h2, if_pos (by omega), if_pos (by omega), show (i - 1) % 3 = 1 by omega]; rfl
        · rw [if_neg h2]
          by_cases h3 : 1 + k * 3 = i
          · rw [if_pos h3, if_pos (by omega), if_pos (by omega), show (i - 1) % 3 = 0 by omega]; rfl
          · rw [if_neg h3, if_neg (by omega)]
    · rw [if_neg (by omega), if_neg (by omega), if_neg (by omega)]
      simp [h0, h127]

section
variable {α β γ : Type}
theorem pBind_assoc (p : Ps α) (q : α → Ps β) (r : β → Ps γ) : pBind (pBind p q) r = pBind p fun x => pBind (q x) r := by
  funext b a
  unfold pBind
  cases p b a <;> rfl
theorem pPure_bind (x : α) (q : α → Ps β) : pBind (pPure x) q = q x := rfl
theorem pBind_at {p : Ps α} {q : α → Ps β} {b : List Nat} {a m : Nat} {x : α} (h : p b a = .ok (x, m)) : pBind p q b a = q x b m := by unfold pBind; rw [h]
theorem pBind_no {p : Ps α} {q : α → Ps β} {b : List Nat} {a : Nat} {e : Nat × Int} (h : p b a = .error e) : pBind p q b a = .error e := by unfold pBind; rw [h]
end
def pClB (f : Nat → Tg) : Ps Cl := pBind (pMost 3540 112) fun n => pMap (fun l => ⟨false, f, l⟩) (pCons n [])
def pClS (f : Nat → Tg) : Ps Cl := pBind (pMost 32 112) fun n => pBind (pSlots n (-1) f) pClB
theorem pClaim_eq : pClaim = pBind (pBnd 1 110) fun live => if live = 0 then pPure ⟨true, f0, []⟩ else pBind (pRegs 10 0 f0) pClS := rfl
theorem pRegs_succ (n i : Nat) (f : Nat → Tg) (G : (Nat → Tg) → Ps Cl) : pBind (pRegs (n + 1) i f) G = pBind (pTag false) fun t => pBind (pRegs n (i + 1) (putT f i t)) G := pBind_assoc _ _ _
theorem pSlots_succ (n : Nat) (l : Int) (f : Nat → Tg) (G : (Nat → Tg) → Ps Cl) :
    pBind (pSlots (n + 1) l f) G = pBind (pChk (fun i : Nat => decide (l < (i : Int))) 111 (pBnd 31 90)) fun i => pBind (pTag true) fun t => pBind (pSlots n i (putT f (10 + i) t)) G := by
  show pBind (pBind _ _) _ = _
  rw [pBind_assoc]
  congr 1
  funext i
  exact pBind_assoc _ _ _
theorem pMap_bind {α β γ : Type} (f : β → γ) (p : Ps α) (q : α → Ps β) : pMap f (pBind p q) = pBind p fun x => pMap f (q x) := by
  funext b a
  unfold pMap pBind
  cases p b a <;> rfl
theorem pCons_succ (n : Nat) (l : List C3) (g : List C3 → Cl) : pMap g (pCons (n + 1) l) = pBind (pCon l.getLast?) fun x => pMap g (pCons n (l ++ [x])) := pMap_bind _ _ _

/-- What reading a claim leaves. -/
def isCl (B : Nat) (x : Cl) (v : Value) (w : World) : Prop := ∃ vc, v = .agg (bx (.bool x.d) x.f vc) ∧ OwC B w vc x.l
end Go.Proofs.Ytfdjdpbiccclfaa
