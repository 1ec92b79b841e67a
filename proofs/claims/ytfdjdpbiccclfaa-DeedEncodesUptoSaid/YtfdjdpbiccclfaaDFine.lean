/- What reading has in common. -/
import Derived.Test.YtfdjdpbiccclfaaDParse
import Derived.Test.YtfdjdpbiccclfaaDPlc
namespace Go.Proofs.Ytfdjdpbiccclfaa
open Go Go.RowKit Go.Wr
set_option maxHeartbeats 1000000

/-! What reading has in common: what is cut, what lies behind. -/
structure Fine {α : Type} (p : Ps α) : Prop where
  fwd : ∀ b a x a', a ≤ b.length → p b a = .ok (x, a') → a ≤ a' ∧ a' ≤ b.length
  loc : ∀ b c a x a', a ≤ b.length → p b a = .ok (x, a') → (∀ i, a ≤ i → i < a' → b[i]? = c[i]?) → p c a = .ok (x, a')
  cut : ∀ b a x a' k, a ≤ b.length → p b a = .ok (x, a') → a ≤ k → k < a' → p (b.take k) a = .error (k, 110)
  place : ∀ b a y e, a ≤ b.length → p b a = .error (y, e) → y ≤ b.length ∧ e ≠ 0

section
variable {α β : Type}
theorem pBind_ok {p : Ps α} {q : α → Ps β} {b : List Nat} {a : Nat} {y : β} {a' : Nat} : pBind p q b a = .ok (y, a') ↔ ∃ x m, p b a = .ok (x, m) ∧ q x b m = .ok (y, a') := by
  unfold pBind
  cases h : p b a with
  | error e => simp
  | ok v =>
    obtain ⟨x, m⟩ := v
    exact ⟨fun h2 => ⟨x, m, rfl, h2⟩, fun ⟨x', m', h1, h2⟩ => by
      simp only [Except.ok.injEq, Prod.mk.injEq] at h1
      obtain ⟨rfl, rfl⟩ := h1
      exact h2⟩
theorem pBind_err {p : Ps α} {q : α → Ps β} {b : List Nat} {a : Nat} {e : Nat × Int} : pBind p q b a = .error e ↔ p b a = .error e ∨ ∃ x m, p b a = .ok (x, m) ∧ q x b m = .error e := by
  unfold pBind
  cases h : p b a with
  | error e => simp
  | ok v =>
    obtain ⟨x, m⟩ := v
    exact ⟨fun h2 => Or.inr ⟨x, m, rfl, h2⟩, fun h0 => by
      rcases h0 with h1 | ⟨x', m', h1, h2⟩
      · cases h1
      · simp only [Except.ok.injEq, Prod.mk.injEq] at h1
        obtain ⟨rfl, rfl⟩ := h1
        exact h2⟩
theorem pChk_ok {c : α → Bool} {e : Int} {p : Ps α} {b : List Nat} {a : Nat} {y : α} {a' : Nat} : pChk c e p b a = .ok (y, a') ↔ p b a = .ok (y, a') ∧ c y = true := by
  unfold pChk
  cases h : p b a with
  | error e => simp
  | ok v =>
    obtain ⟨x, m⟩ := v
    by_cases hc : c x = true
    · simp only [hc, if_true, Except.ok.injEq, Prod.mk.injEq]
      constructor
      · rintro ⟨rfl, rfl⟩; exact ⟨⟨rfl, rfl⟩, hc⟩
      · exact fun h => h.1
    · simp only [hc, if_false, Except.ok.injEq, Prod.mk.injEq, reduceCtorEq, false_iff, not_and, Bool.false_eq_true]
      rintro ⟨rfl, rfl⟩ h
      exact hc h
theorem pChk_err {c : α → Bool} {e : Int} {p : Ps α} {b : List Nat} {a : Nat} {y : Nat × Int} : pChk c e p b a = .error y ↔ p b a = .error y ∨ (y = (a, e) ∧ ∃ x m, p b a = .ok (x, m) ∧ c x = false) := by
  unfold pChk
  cases h : p b a with
  | error e => simp
  | ok v =>
    obtain ⟨x, m⟩ := v
    by_cases hc : c x = true
    · simp only [hc, if_true]
      constructor
      · intro h0; cases h0
      · rintro (h0 | ⟨_, x', m', h1, h2⟩)
        · cases h0
        · simp only [Except.ok.injEq, Prod.mk.injEq] at h1
          obtain ⟨rfl, rfl⟩ := h1
          rw [hc] at h2
          cases h2
    · have hc' : c x = false := by simpa using hc
      simp only [hc', Bool.false_eq_true, if_false]
      constructor
      · intro h0
        simp only [Except.error.injEq] at h0
        exact Or.inr ⟨h0.symm, x, m, rfl, hc'⟩
      · rintro (h0 | ⟨h0, _⟩)
        · cases h0
        · rw [h0]
theorem pMap_ok {f : α → β} {p : Ps α} {b : List Nat} {a : Nat} {y : β} {a' : Nat} : pMap f p b a = .ok (y, a') ↔ ∃ x, p b a = .ok (x, a') ∧ y = f x := by
  unfold pMap
  cases h : p b a with
  | error e => simp
  | ok v =>
    obtain ⟨x, m⟩ := v
    simp only [Except.ok.injEq, Prod.mk.injEq]
    constructor
    · rintro ⟨rfl, rfl⟩; exact ⟨x, ⟨rfl, rfl⟩, rfl⟩
    · rintro ⟨x', ⟨rfl, rfl⟩, rfl⟩; exact ⟨rfl, rfl⟩
theorem pMap_err {f : α → β} {p : Ps α} {b : List Nat} {a : Nat} {e : Nat × Int} : pMap f p b a = .error e ↔ p b a = .error e := by
  unfold pMap
  cases h : p b a with
  | error e => simp
  | ok v => obtain ⟨x, m⟩ := v; simp

theorem Fine.pure (x : α) : Fine (pPure x) where
  fwd b a x a' hb h := by simp only [pPure, Except.ok.injEq, Prod.mk.injEq] at h; omega
  loc b c a x a' hb h _ := h
  cut b a x a' k hb h h1 h2 := by simp only [pPure, Except.ok.injEq, Prod.mk.injEq] at h; omega
  place b a y e hb h := by simp [pPure] at h

theorem take_get {b : List Nat} {k i : Nat} (h : i < k) : b[i]? = (b.take k)[i]? := by rw [List.getElem?_take, if_pos h]
theorem Fine.bind {p : Ps α} {q : α → Ps β} (hp : Fine p) (hq : ∀ x, Fine (q x)) : Fine (pBind p q) where
  fwd b a y a' hb h := by
    obtain ⟨x, m, h1, h2⟩ := pBind_ok.1 h
    have := hp.fwd b a x m hb h1
    have := (hq x).fwd b m y a' this.2 h2
    omega
  loc b c a y a' hb h hc := by
    obtain ⟨x, m, h1, h2⟩ := pBind_ok.1 h
    have hf := hp.fwd b a x m hb h1
    have hg := (hq x).fwd b m y a' hf.2 h2
    exact pBind_ok.2 ⟨x, m, hp.loc b c a x m hb h1 (fun i hi hj => hc i hi (by omega)), (hq x).loc b c m y a' hf.2 h2 (fun i hi hj => hc i (by omega) hj)⟩
  cut b a y a' k hb h k1 k2 := by
    obtain ⟨x, m, h1, h2⟩ := pBind_ok.1 h
    have hf := hp.fwd b a x m hb h1
    by_cases hm : k < m
    · exact pBind_err.2 (Or.inl (hp.cut b a x m k hb h1 k1 hm))
    · exact pBind_err.2 (Or.inr ⟨x, m, hp.loc b _ a x m hb h1 (fun i _ hj => take_get (by omega)), (hq x).cut b m y a' k hf.2 h2 (by omega) k2⟩)
  place b a y e hb h := by
    rcases pBind_err.1 h with h | ⟨x, m, h1, h2⟩
    · exact hp.place b a y e hb h
    · exact (hq x).place b m y e (hp.fwd b a x m hb h1).2 h2
theorem Fine.chk {p : Ps α} (c : α → Bool) {e : Int} (he : e ≠ 0) (hp : Fine p) : Fine (pChk c e p) where
  fwd b a x a' hb h := hp.fwd b a x a' hb (pChk_ok.1 h).1
  loc b c' a x a' hb h hc := pChk_ok.2 ⟨hp.loc b c' a x a' hb (pChk_ok.1 h).1 hc, (pChk_ok.1 h).2⟩
  cut b a x a' k hb h k1 k2 := pChk_err.2 (Or.inl (hp.cut b a x a' k hb (pChk_ok.1 h).1 k1 k2))
  place b a y e' hb h := by
    rcases pChk_err.1 h with h | ⟨h, _⟩
    · exact hp.place b a y e' hb h
    · simp only [Prod.mk.injEq] at h
      obtain ⟨rfl, rfl⟩ := h
      exact ⟨hb, he⟩
theorem Fine.map {p : Ps α} (f : α → β) (hp : Fine p) : Fine (pMap f p) where
  fwd b a x a' hb h := by obtain ⟨y, h1, _⟩ := pMap_ok.1 h; exact hp.fwd b a y a' hb h1
  loc b c' a x a' hb h hc := by obtain ⟨y, h1, h2⟩ := pMap_ok.1 h; exact pMap_ok.2 ⟨y, hp.loc b c' a y a' hb h1 hc, h2⟩
  cut b a x a' k hb h k1 k2 := by obtain ⟨y, h1, h2⟩ := pMap_ok.1 h; exact pMap_err.2 (hp.cut b a y a' k hb h1 k1 k2)
  place b a y e' hb h := hp.place b a y e' hb (pMap_err.1 h)
end
theorem pByte_ok {b : List Nat} {a x a' : Nat} : pByte b a = .ok (x, a') ↔ b[a]? = some x ∧ a' = a + 1 := by
  unfold pByte
  cases h : b[a]? with
  | none => simp
  | some y => simp only [Except.ok.injEq, Prod.mk.injEq, Option.some.injEq]; exact ⟨fun ⟨h1, h2⟩ => ⟨h1, h2.symm⟩, fun ⟨h1, h2⟩ => ⟨h1, h2.symm⟩⟩
theorem pByte_err {b : List Nat} {a : Nat} (h : b[a]? = none) : pByte b a = .error (b.length, 110) := by unfold pByte; rw [h]
theorem Fine.byte : Fine pByte where
  fwd b a x a' hb h := by
    obtain ⟨h1, rfl⟩ := pByte_ok.1 h
    have := (List.getElem?_eq_some_iff.1 h1).1
    omega
  loc b c a x a' hb h hc := by
    obtain ⟨h1, rfl⟩ := pByte_ok.1 h
    exact pByte_ok.2 ⟨by rw [← hc a (by omega) (by omega)]; exact h1, rfl⟩
  cut b a x a' k hb h k1 k2 := by
    obtain ⟨h1, rfl⟩ := pByte_ok.1 h
    obtain rfl : k = a := by omega
    rw [pByte_err (by rw [List.getElem?_take, if_neg (by omega)]), List.length_take, Nat.min_eq_left hb]
  place b a y e hb h := by
    unfold pByte at h
    cases hx : b[a]? with
    | none => rw [hx] at h; simp only [Except.error.injEq, Prod.mk.injEq] at h; omega
    | some z => rw [hx] at h; cases h
/-- A fault that has been foreseen: no reading succeeds here. -/
theorem fail_ok {α : Type} {y : Nat} {e : Int} {b : List Nat} {a : Nat} {v : α × Nat} : pFail y e b a = .ok v ↔ False := by simp [pFail]
theorem pGrp_loc {y : Nat} : ∀ (f k acc : Nat) (b c : List Nat) (a x a' : Nat), a ≤ b.length → pGrp y f k acc b a = .ok (x, a') → (∀ i, a ≤ i → i < a' → b[i]? = c[i]?) → pGrp y f k acc c a = .ok (x, a') ∧ a < a' ∧ a' ≤ b.length := by
  intro f
  induction f with
  | zero => intro k acc b c a x a' _ h; cases h
  | succ f ih =>
    intro k acc b c a x a' hb h hc
    obtain ⟨g, n, h1, h2⟩ := pBind_ok.1 h
    have hf := Fine.byte.fwd b a g n hb h1
    have hn := (pByte_ok.1 h1).2
    by_cases h3 : g < 128
    · rw [if_pos h3] at h2
      by_cases h4 : g = 0 ∧ 0 < k
      · rw [if_pos h4] at h2; cases h2
      · rw [if_neg h4] at h2
        simp only [pPure, Except.ok.injEq, Prod.mk.injEq] at h2
        obtain ⟨rfl, rfl⟩ := h2
        refine ⟨pBind_ok.2 ⟨g, n, Fine.byte.loc b c a g n hb h1 hc, ?_⟩, by omega, hf.2⟩
        rw [if_pos h3, if_neg h4]
        rfl
    · rw [if_neg h3] at h2
      have hi := ih (k + 1) _ b c n x a' hf.2 h2 (fun i hi hj => hc i (by omega) hj)
      refine ⟨pBind_ok.2 ⟨g, n, Fine.byte.loc b c a g n hb h1 (fun i hi' hj => hc i hi' (by omega)), ?_⟩, by omega, hi.2.2⟩
      rw [if_neg h3]
      exact hi.1
theorem pGrp_cut {y : Nat} : ∀ (f k acc : Nat) (b : List Nat) (a x a' n : Nat), a ≤ b.length → pGrp y f k acc b a = .ok (x, a') → a ≤ n → n < a' → pGrp y f k acc (b.take n) a = .error (n, 110) := by
  intro f
  induction f with
  | zero => intro k acc b a x a' n _ h; cases h
  | succ f ih =>
    intro k acc b a x a' n hb h n1 n2
    obtain ⟨g, m, h1, h2⟩ := pBind_ok.1 h
    have hf := Fine.byte.fwd b a g m hb h1
    have hm := (pByte_ok.1 h1).2
    by_cases hn : n < m
    · exact pBind_err.2 (Or.inl (Fine.byte.cut b a g m n hb h1 n1 hn))
    · refine pBind_err.2 (Or.inr ⟨g, m, Fine.byte.loc b _ a g m hb h1 (fun i _ hj => take_get (by omega)), ?_⟩)
      by_cases h3 : g < 128
      · rw [if_pos h3] at h2
        by_cases h4 : g = 0 ∧ 0 < k
        · rw [if_pos h4] at h2; cases h2
        · rw [if_neg h4] at h2
          simp only [pPure, Except.ok.injEq, Prod.mk.injEq] at h2
          omega
      · rw [if_neg h3] at h2 ⊢
        exact ih (k + 1) _ b m x a' n hf.2 h2 (by omega) n2
theorem pGrp_place {y : Nat} : ∀ (f k acc : Nat) (b : List Nat) (a z : Nat) (e : Int), a ≤ b.length → y ≤ b.length → pGrp y f k acc b a = .error (z, e) → z ≤ b.length ∧ e ≠ 0 := by
  intro f
  induction f with
  | zero =>
    intro k acc b a z e _ hy h
    simp only [pGrp, pFail, Except.error.injEq, Prod.mk.injEq] at h
    omega
  | succ f ih =>
    intro k acc b a z e hb hy h
    rcases pBind_err.1 h with h | ⟨g, m, h1, h2⟩
    · exact Fine.byte.place b a z e hb h
    · have hf := Fine.byte.fwd b a g m hb h1
      by_cases h3 : g < 128
      · rw [if_pos h3] at h2
        by_cases h4 : g = 0 ∧ 0 < k
        · rw [if_pos h4] at h2
          simp only [pFail, Except.error.injEq, Prod.mk.injEq] at h2
          omega
        · rw [if_neg h4] at h2; cases h2
      · rw [if_neg h3] at h2
        exact ih (k + 1) _ b m z e hf.2 hy h2
theorem Fine.num : Fine pNum where
  fwd b a x a' hb h := by
    have := pGrp_loc 9 0 0 b b a x a' hb h (fun _ _ _ => rfl)
    omega
  loc b c a x a' hb h hc := (pGrp_loc 9 0 0 b c a x a' hb h hc).1
  cut b a x a' k hb h k1 k2 := pGrp_cut 9 0 0 b a x a' k hb h k1 k2
  place b a y e hb h := pGrp_place 9 0 0 b a y e hb hb h
theorem Fine.most (h : Nat) {e : Int} (he : e ≠ 0) : Fine (pMost h e) := Fine.chk _ he Fine.num
theorem Fine.sig {e : Int} (he : e ≠ 0) : Fine (pSig e) := Fine.chk _ he (Fine.map _ Fine.num)
theorem Fine.bnd (h : Nat) {e : Int} (he : e ≠ 0) : Fine (pBnd h e) := Fine.chk _ he Fine.byte
theorem Fine.ite {α : Type} {c : Prop} [Decidable c] {p q : Ps α} (hp : Fine p) (hq : Fine q) : Fine (if c then p else q) := by split <;> assumption
theorem Fine.tag (s : Bool) : Fine (pTag s) :=
  Fine.bind (Fine.bnd _ (by decide)) fun k => Fine.ite (Fine.bind (Fine.bnd _ (by decide)) fun t => Fine.pure _) (Fine.ite (Fine.bind (Fine.chk _ (by decide) Fine.byte) fun m => Fine.pure _) (Fine.pure _))
theorem Fine.regs : ∀ (n i : Nat) (f : Nat → Tg), Fine (pRegs n i f)
  | 0, _, f => Fine.pure f
  | n + 1, i, f => Fine.bind (Fine.tag false) fun t => Fine.regs n (i + 1) (putT f i t)
theorem Fine.slots : ∀ (n : Nat) (l : Int) (f : Nat → Tg), Fine (pSlots n l f)
  | 0, _, f => Fine.pure f
  | n + 1, l, f => Fine.bind (Fine.chk _ (by decide) (Fine.bnd _ (by decide))) fun i => Fine.bind (Fine.tag true) fun t => Fine.slots n i (putT f (10 + i) t)
theorem Fine.pair (p : Option C3) : Fine (pPair p) :=
  Fine.chk _ (by decide) (Fine.bind (Fine.bnd _ (by decide)) fun i => Fine.map _ (Fine.chk _ (by decide) (Fine.bnd _ (by decide))))
theorem Fine.con (p : Option C3) : Fine (pCon p) := Fine.bind (Fine.pair p) fun x => Fine.map _ (Fine.sig (by decide))
theorem Fine.cons : ∀ (n : Nat) (l : List C3), Fine (pCons n l)
  | 0, l => Fine.pure l
  | n + 1, l => Fine.bind (Fine.con _) fun x => Fine.cons n (l ++ [x])
theorem Fine.claim : Fine pClaim :=
  Fine.bind (Fine.bnd _ (by decide)) fun live => Fine.ite (Fine.pure _) (Fine.bind (Fine.regs _ _ _) fun f => Fine.bind (Fine.most _ (by decide)) fun n => Fine.bind (Fine.slots _ _ _) fun f => Fine.bind (Fine.most _ (by decide)) fun n => Fine.map _ (Fine.cons _ _))
theorem Fine.loop : Fine pLoop :=
  Fine.bind (Fine.most _ (by decide)) fun h => Fine.bind (Fine.most _ (by decide)) fun a => Fine.bind (Fine.most _ (by decide)) fun b => Fine.bind (Fine.sig (by decide)) fun k => Fine.map _ (Fine.most _ (by decide))
theorem Fine.loops : ∀ (n : Nat) (l : List Lp), Fine (pLoops n l)
  | 0, l => Fine.pure l
  | n + 1, l => Fine.bind Fine.loop fun x => Fine.loops n (l ++ [x])
theorem Fine.claims : ∀ (n : Nat) (l : List Cl), Fine (pClaims n l)
  | 0, l => Fine.pure l
  | n + 1, l => Fine.bind Fine.claim fun x => Fine.claims n (l ++ [x])
theorem Fine.body : Fine pBody :=
  Fine.bind (Fine.most _ (by decide)) fun n => Fine.bind (Fine.loops _ _) fun ls => Fine.bind (Fine.most _ (by decide)) fun n => Fine.map _ (Fine.claims _ _)
end Go.Proofs.Ytfdjdpbiccclfaa
