/- What the law needs, one part after another: walks of functions and plain laws. No conditions but those that each law names. -/
import Derived.Test.YtfdjdpbiccclfaaFraa
import Derived.Laws.BitsLemmas
import Derived.Laws.OwnMore
import Derived.Deep.AppendLies
import Derived.Test.YtfdjdpbiccclfaaProg
import Derived.OrdersHeld
import Derived.Deep.RegionHeld
import Derived.Deep.CutBlock
import Derived.Deep.DeepCutAuto
import Derived.Laws.BytesArg
namespace Go.Proofs.Ytfdjdpbiccclfaa
open Go Go.RowKit Go.Wr
set_option maxHeartbeats 1000000
structure Fine {α : Type} (p : Ps α) : Prop where
  fwd : ∀ b a x a', a ≤ b.length → p b a = .ok (x, a') → a ≤ a' ∧ a' ≤ b.length
  loc : ∀ b c a x a', a ≤ b.length → p b a = .ok (x, a') → (∀ i, a ≤ i → i < a' → b[i]? = c[i]?) → p c a = .ok (x, a')
  cut : ∀ b a x a' k, a ≤ b.length → p b a = .ok (x, a') → a ≤ k → k < a' → p (b.take k) a = .error (k, 110)
  place : ∀ b a y e, a ≤ b.length → p b a = .error (y, e) → y ≤ b.length ∧ e ≠ 0
section
variable {α β : Type}
theorem pBind_ok {p : Ps α} {q : α → Ps β} {b : List Nat} {a : Nat} {y : β} {a' : Nat} : pBind p q b a = .ok (y, a') ↔ ∃ x m, p b a = .ok (x, m) ∧ q x b m = .ok (y, a') := by
  unfold pBind
  cases h : p b a with
  | error e => simp
  | ok v =>
    obtain ⟨x, m⟩ := v
    exact ⟨fun h2 => ⟨x, m, rfl, h2⟩, fun ⟨x', m', h1, h2⟩ => by
      simp only [Except.ok.injEq, Prod.mk.injEq] at h1
      obtain ⟨rfl, rfl⟩ := h1
      exact h2⟩
theorem pBind_err {p : Ps α} {q : α → Ps β} {b : List Nat} {a : Nat} {e : Nat × Int} : pBind p q b a = .error e ↔ p b a = .error e ∨ ∃ x m, p b a = .ok (x, m) ∧ q x b m = .error e := by
  unfold pBind
  cases h : p b a with
  | error e => simp
  | ok v =>
    obtain ⟨x, m⟩ := v
    exact ⟨fun h2 => Or.inr ⟨x, m, rfl, h2⟩, fun h0 => by
      rcases h0 with h1 | ⟨x', m', h1, h2⟩
      · cases h1
      · simp only [Except.ok.injEq, Prod.mk.injEq] at h1
        obtain ⟨rfl, rfl⟩ := h1
        exact h2⟩
theorem pChk_ok {c : α → Bool} {e : Int} {p : Ps α} {b : List Nat} {a : Nat} {y : α} {a' : Nat} : pChk c e p b a = .ok (y, a') ↔ p b a = .ok (y, a') ∧ c y = true := by
  unfold pChk
  cases h : p b a with
  | error e => simp
  | ok v =>
    obtain ⟨x, m⟩ := v
    by_cases hc : c x = true
    · simp only [hc, if_true, Except.ok.injEq, Prod.mk.injEq]
      constructor
      · rintro ⟨rfl, rfl⟩; exact ⟨⟨rfl, rfl⟩, hc⟩
      · exact fun h => h.1
    · simp only [hc, if_false, Except.ok.injEq, Prod.mk.injEq, reduceCtorEq, false_iff, not_and, Bool.false_eq_true]
      rintro ⟨rfl, rfl⟩ h
      exact hc h
theorem pChk_err {c : α → Bool} {e : Int} {p : Ps α} {b : List Nat} {a : Nat} {y : Nat × Int} : pChk c e p b a = .error y ↔ p b a = .error y ∨ (y = (a, e) ∧ ∃ x m, p b a = .ok (x, m) ∧ c x = false) := by
  unfold pChk
  cases h : p b a with
  | error e => simp
  | ok v =>
    obtain ⟨x, m⟩ := v
    by_cases hc : c x = true
    · simp only [hc, if_true]
      constructor
      · intro h0; cases h0
      · rintro (h0 | ⟨_, x', m', h1, h2⟩)
        · cases h0
        · simp only [Except.ok.injEq, Prod.mk.injEq] at h1
          obtain ⟨rfl, rfl⟩ := h1
          rw [hc] at h2
          cases h2
    · have hc' : c x = false := by simpa using hc
      simp only [hc', Bool.false_eq_true, if_false]
      constructor
      · intro h0
        simp only [Except.error.injEq] at h0
        exact Or.inr ⟨h0.symm, x, m, rfl, hc'⟩
      · rintro (h0 | ⟨h0, _⟩)
        · cases h0
        · rw [h0]
theorem pMap_ok {f : α → β} {p : Ps α} {b : List Nat} {a : Nat} {y : β} {a' : Nat} : pMap f p b a = .ok (y, a') ↔ ∃ x, p b a = .ok (x, a') ∧ y = f x := by
  unfold pMap
  cases h : p b a with
  | error e => simp
  | ok v =>
    obtain ⟨x, m⟩ := v
    simp only [Except.ok.injEq, Prod.mk.injEq]
    constructor
    · rintro ⟨rfl, rfl⟩; exact ⟨x, ⟨rfl, rfl⟩, rfl⟩
    · rintro ⟨x', ⟨rfl, rfl⟩, rfl⟩; exact ⟨rfl, rfl⟩
theorem pMap_err {f : α → β} {p : Ps α} {b : List Nat} {a : Nat} {e : Nat × Int} : pMap f p b a = .error e ↔ p b a = .error e := by
  unfold pMap
  cases h : p b a with
  | error e => simp
  | ok v => obtain ⟨x, m⟩ := v; simp
theorem Fine.pure (x : α) : Fine (pPure x) where
  fwd b a x a' hb h := by simp only [pPure, Except.ok.injEq, Prod.mk.injEq] at h; omega
  loc b c a x a' hb h _ := h
  cut b a x a' k hb h h1 h2 := by simp only [pPure, Except.ok.injEq, Prod.mk.injEq] at h; omega
  place b a y e hb h := by simp [pPure] at h
theorem take_get {b : List Nat} {k i : Nat} (h : i < k) : b[i]? = (b.take k)[i]? := by rw [List.getElem?_take, if_pos h]
theorem Fine.bind {p : Ps α} {q : α → Ps β} (hp : Fine p) (hq : ∀ x, Fine (q x)) : Fine (pBind p q) where
  fwd b a y a' hb h := by
    obtain ⟨x, m, h1, h2⟩ := pBind_ok.1 h
    have := hp.fwd b a x m hb h1
    have := (hq x).fwd b m y a' this.2 h2
    omega
  loc b c a y a' hb h hc := by
    obtain ⟨x, m, h1, h2⟩ := pBind_ok.1 h
    have hf := hp.fwd b a x m hb h1
    have hg := (hq x).fwd b m y a' hf.2 h2
    exact pBind_ok.2 ⟨x, m, hp.loc b c a x m hb h1 (fun i hi hj => hc i hi (by omega)), (hq x).loc b c m y a' hf.2 h2 (fun i hi hj => hc i (by omega) hj)⟩
  cut b a y a' k hb h k1 k2 := by
    obtain ⟨x, m, h1, h2⟩ := pBind_ok.1 h
    have hf := hp.fwd b a x m hb h1
    by_cases hm : k < m
    · exact pBind_err.2 (Or.inl (hp.cut b a x m k hb h1 k1 hm))
    · exact pBind_err.2 (Or.inr ⟨x, m, hp.loc b _ a x m hb h1 (fun i _ hj => take_get (by omega)), (hq x).cut b m y a' k hf.2 h2 (by omega) k2⟩)
  place b a y e hb h := by
    rcases pBind_err.1 h with h | ⟨x, m, h1, h2⟩
    · exact hp.place b a y e hb h
    · exact (hq x).place b m y e (hp.fwd b a x m hb h1).2 h2
theorem Fine.chk {p : Ps α} (c : α → Bool) {e : Int} (he : e ≠ 0) (hp : Fine p) : Fine (pChk c e p) where
  fwd b a x a' hb h := hp.fwd b a x a' hb (pChk_ok.1 h).1
  loc b c' a x a' hb h hc := pChk_ok.2 ⟨hp.loc b c' a x a' hb (pChk_ok.1 h).1 hc, (pChk_ok.1 h).2⟩
  cut b a x a' k hb h k1 k2 := pChk_err.2 (Or.inl (hp.cut b a x a' k hb (pChk_ok.1 h).1 k1 k2))
  place b a y e' hb h := by
    rcases pChk_err.1 h with h | ⟨h, _⟩
    · exact hp.place b a y e' hb h
    · simp only [Prod.mk.injEq] at h
      obtain ⟨rfl, rfl⟩ := h
      exact ⟨hb, he⟩
theorem Fine.map {p : Ps α} (f : α → β) (hp : Fine p) : Fine (pMap f p) where
  fwd b a x a' hb h := by obtain ⟨y, h1, _⟩ := pMap_ok.1 h; exact hp.fwd b a y a' hb h1
  loc b c' a x a' hb h hc := by obtain ⟨y, h1, h2⟩ := pMap_ok.1 h; exact pMap_ok.2 ⟨y, hp.loc b c' a y a' hb h1 hc, h2⟩
  cut b a x a' k hb h k1 k2 := by obtain ⟨y, h1, h2⟩ := pMap_ok.1 h; exact pMap_err.2 (hp.cut b a y a' k hb h1 k1 k2)
  place b a y e' hb h := hp.place b a y e' hb (pMap_err.1 h)
end
theorem pByte_ok {b : List Nat} {a x a' : Nat} : pByte b a = .ok (x, a') ↔ b[a]? = some x ∧ a' = a + 1 := by
  unfold pByte
  cases h : b[a]? with
  | none => simp
  | some y => simp only [Except.ok.injEq, Prod.mk.injEq, Option.some.injEq]; exact ⟨fun ⟨h1, h2⟩ => ⟨h1, h2.symm⟩, fun ⟨h1, h2⟩ => ⟨h1, h2.symm⟩⟩
theorem pByte_err {b : List Nat} {a : Nat} (h : b[a]? = none) : pByte b a = .error (b.length, 110) := by unfold pByte; rw [h]
theorem Fine.byte : Fine pByte where
  fwd b a x a' hb h := by
    obtain ⟨h1, rfl⟩ := pByte_ok.1 h
    have := (List.getElem?_eq_some_iff.1 h1).1
    omega
  loc b c a x a' hb h hc := by
    obtain ⟨h1, rfl⟩ := pByte_ok.1 h
    exact pByte_ok.2 ⟨by rw [← hc a (by omega) (by omega)]; exact h1, rfl⟩
  cut b a x a' k hb h k1 k2 := by
    obtain ⟨h1, rfl⟩ := pByte_ok.1 h
    obtain rfl : k = a := by omega
    rw [pByte_err (by rw [List.getElem?_take, if_neg (by omega)]), List.length_take, Nat.min_eq_left hb]
  place b a y e hb h := by
    unfold pByte at h
    cases hx : b[a]? with
    | none => rw [hx] at h; simp only [Except.error.injEq, Prod.mk.injEq] at h; omega
    | some z => rw [hx] at h; cases h
theorem pGrp_loc {y : Nat} : ∀ (f k acc : Nat) (b c : List Nat) (a x a' : Nat), a ≤ b.length → pGrp y f k acc b a = .ok (x, a') → (∀ i, a ≤ i → i < a' → b[i]? = c[i]?) → pGrp y f k acc c a = .ok (x, a') ∧ a < a' ∧ a' ≤ b.length := by
  intro f
  induction f with
  | zero => intro k acc b c a x a' _ h; cases h
  | succ f ih =>
    intro k acc b c a x a' hb h hc
    obtain ⟨g, n, h1, h2⟩ := pBind_ok.1 h
    have hf := Fine.byte.fwd b a g n hb h1
    have hn := (pByte_ok.1 h1).2
    by_cases h3 : g < 128
    · rw [if_pos h3] at h2
      by_cases h4 : g = 0 ∧ 0 < k
      · rw [if_pos h4] at h2; cases h2
      · rw [if_neg h4] at h2
        simp only [pPure, Except.ok.injEq, Prod.mk.injEq] at h2
        obtain ⟨rfl, rfl⟩ := h2
        refine ⟨pBind_ok.2 ⟨g, n, Fine.byte.loc b c a g n hb h1 hc, ?_⟩, by omega, hf.2⟩
        rw [if_pos h3, if_neg h4]
        rfl
    · rw [if_neg h3] at h2
      have hi := ih (k + 1) _ b c n x a' hf.2 h2 (fun i hi hj => hc i (by omega) hj)
      refine ⟨pBind_ok.2 ⟨g, n, Fine.byte.loc b c a g n hb h1 (fun i hi' hj => hc i hi' (by omega)), ?_⟩, by omega, hi.2.2⟩
      rw [if_neg h3]
      exact hi.1
theorem pGrp_cut {y : Nat} : ∀ (f k acc : Nat) (b : List Nat) (a x a' n : Nat), a ≤ b.length → pGrp y f k acc b a = .ok (x, a') → a ≤ n → n < a' → pGrp y f k acc (b.take n) a = .error (n, 110) := by
  intro f
  induction f with
  | zero => intro k acc b a x a' n _ h; cases h
  | succ f ih =>
    intro k acc b a x a' n hb h n1 n2
    obtain ⟨g, m, h1, h2⟩ := pBind_ok.1 h
    have hf := Fine.byte.fwd b a g m hb h1
    have hm := (pByte_ok.1 h1).2
    by_cases hn : n < m
    · exact pBind_err.2 (Or.inl (Fine.byte.cut b a g m n hb h1 n1 hn))
    · refine pBind_err.2 (Or.inr ⟨g, m, Fine.byte.loc b _ a g m hb h1 (fun i _ hj => take_get (by omega)), ?_⟩)
      by_cases h3 : g < 128
      · rw [if_pos h3] at h2
        by_cases h4 : g = 0 ∧ 0 < k
        · rw [if_pos h4] at h2; cases h2
        · rw [if_neg h4] at h2
          simp only [pPure, Except.ok.injEq, Prod.mk.injEq] at h2
          omega
      · rw [if_neg h3] at h2 ⊢
        exact ih (k + 1) _ b m x a' n hf.2 h2 (by omega) n2
theorem pGrp_place {y : Nat} : ∀ (f k acc : Nat) (b : List Nat) (a z : Nat) (e : Int), a ≤ b.length → y ≤ b.length → pGrp y f k acc b a = .error (z, e) → z ≤ b.length ∧ e ≠ 0 := by
  intro f
  induction f with
  | zero =>
    intro k acc b a z e _ hy h
    simp only [pGrp, pFail, Except.error.injEq, Prod.mk.injEq] at h
    omega
  | succ f ih =>
    intro k acc b a z e hb hy h
    rcases pBind_err.1 h with h | ⟨g, m, h1, h2⟩
    · exact Fine.byte.place b a z e hb h
    · have hf := Fine.byte.fwd b a g m hb h1
      by_cases h3 : g < 128
      · rw [if_pos h3] at h2
        by_cases h4 : g = 0 ∧ 0 < k
        · rw [if_pos h4] at h2
          simp only [pFail, Except.error.injEq, Prod.mk.injEq] at h2
          omega
        · rw [if_neg h4] at h2; cases h2
      · rw [if_neg h3] at h2
        exact ih (k + 1) _ b m z e hf.2 hy h2
theorem Fine.num : Fine pNum where
  fwd b a x a' hb h := by
    have := pGrp_loc 9 0 0 b b a x a' hb h (fun _ _ _ => rfl)
    omega
  loc b c a x a' hb h hc := (pGrp_loc 9 0 0 b c a x a' hb h hc).1
  cut b a x a' k hb h k1 k2 := pGrp_cut 9 0 0 b a x a' k hb h k1 k2
  place b a y e hb h := pGrp_place 9 0 0 b a y e hb hb h
theorem Fine.most (h : Nat) {e : Int} (he : e ≠ 0) : Fine (pMost h e) := Fine.chk _ he Fine.num
theorem Fine.sig {e : Int} (he : e ≠ 0) : Fine (pSig e) := Fine.chk _ he (Fine.map _ Fine.num)
theorem Fine.bnd (h : Nat) {e : Int} (he : e ≠ 0) : Fine (pBnd h e) := Fine.chk _ he Fine.byte
theorem Fine.ite {α : Type} {c : Prop} [Decidable c] {p q : Ps α} (hp : Fine p) (hq : Fine q) : Fine (if c then p else q) := by split <;> assumption
theorem Fine.tag (s : Bool) : Fine (pTag s) :=
  Fine.bind (Fine.bnd _ (by decide)) fun k => Fine.ite (Fine.bind (Fine.bnd _ (by decide)) fun t => Fine.pure _) (Fine.ite (Fine.bind (Fine.chk _ (by decide) Fine.byte) fun m => Fine.pure _) (Fine.pure _))
theorem Fine.regs : ∀ (n i : Nat) (f : Nat → Tg), Fine (pRegs n i f)
  | 0, _, f => Fine.pure f
  | n + 1, i, f => Fine.bind (Fine.tag false) fun t => Fine.regs n (i + 1) (putT f i t)
theorem Fine.slots : ∀ (n : Nat) (l : Int) (f : Nat → Tg), Fine (pSlots n l f)
  | 0, _, f => Fine.pure f
  | n + 1, l, f => Fine.bind (Fine.chk _ (by decide) (Fine.bnd _ (by decide))) fun i => Fine.bind (Fine.tag true) fun t => Fine.slots n i (putT f (10 + i) t)
theorem Fine.pair (p : Option C3) : Fine (pPair p) :=
  Fine.chk _ (by decide) (Fine.bind (Fine.bnd _ (by decide)) fun i => Fine.map _ (Fine.chk _ (by decide) (Fine.bnd _ (by decide))))
theorem Fine.con (p : Option C3) : Fine (pCon p) := Fine.bind (Fine.pair p) fun x => Fine.map _ (Fine.sig (by decide))
theorem Fine.cons : ∀ (n : Nat) (l : List C3), Fine (pCons n l)
  | 0, l => Fine.pure l
  | n + 1, l => Fine.bind (Fine.con _) fun x => Fine.cons n (l ++ [x])
theorem Fine.claim : Fine pClaim :=
  Fine.bind (Fine.bnd _ (by decide)) fun live => Fine.ite (Fine.pure _) (Fine.bind (Fine.regs _ _ _) fun f => Fine.bind (Fine.most _ (by decide)) fun n => Fine.bind (Fine.slots _ _ _) fun f => Fine.bind (Fine.most _ (by decide)) fun n => Fine.map _ (Fine.cons _ _))
theorem Fine.loop : Fine pLoop :=
  Fine.bind (Fine.most _ (by decide)) fun h => Fine.bind (Fine.most _ (by decide)) fun a => Fine.bind (Fine.most _ (by decide)) fun b => Fine.bind (Fine.sig (by decide)) fun k => Fine.map _ (Fine.most _ (by decide))
theorem Fine.loops : ∀ (n : Nat) (l : List Lp), Fine (pLoops n l)
  | 0, l => Fine.pure l
  | n + 1, l => Fine.bind Fine.loop fun x => Fine.loops n (l ++ [x])
theorem Fine.claims : ∀ (n : Nat) (l : List Cl), Fine (pClaims n l)
  | 0, l => Fine.pure l
  | n + 1, l => Fine.bind Fine.claim fun x => Fine.claims n (l ++ [x])
theorem Fine.body : Fine pBody :=
  Fine.bind (Fine.most _ (by decide)) fun n => Fine.bind (Fine.loops _ _) fun ls => Fine.bind (Fine.most _ (by decide)) fun n => Fine.map _ (Fine.claims _ _)
end Go.Proofs.Ytfdjdpbiccclfaa
namespace Go.Proofs.Ytfdjdpbiccclfaa
open Go Go.RowKit Go.Wr
set_option maxHeartbeats 4000000
set_option maxRecDepth 100000
theorem rbounded_ok (w : World) (B p a : Nat) (b : List Nat) (vb : Value) (h : Rdr B p b a w vb) (high : Nat) (er : Int) :
    Calls Try.prog 76 #[.pointer (some ⟨p, 0, none⟩), .int .i64 (high : Int), .int .i64 er] w (RP B p b vb (pBnd high er b a) isNat w) := by
  have H := Lib.hid h
  have c1 := h.blk.cell 1
  simp only [List.getElem?_toArray, List.getElem?_cons_zero, List.getElem?_cons_succ] at c1
  clear h
  go_enter Try.func76, Try.ntmps76
  go_wp2_with fail
  refine (rbyte_ok w B p a b vb H.out).mono ?_
  rintro e w1 hr
  cases hb : pByte b a with
  | error y =>
    obtain ⟨y, ye⟩ := y
    obtain ⟨rfl, hx⟩ := hr.err hb
    have e1 : Hid (pBnd high er b a = .error (y, ye)) := by show _ = _; unfold pBnd pChk; rw [hb]
    clear hr hb
    go_wp2
    exact ⟨rfl, RP.mk_err e1.out hx⟩
  | ok v =>
    obtain ⟨x, m⟩ := v
    obtain ⟨v, rfl, rfl, hd, hx⟩ := hr.ok hb
    obtain ⟨x256, rfl, _⟩ := H.out.byte_lt hb
    have HD := Lib.hid hd
    by_cases hlt : x ≤ high
    · have hlt' : ¬ (high : Int) < (x : Int) := by omega
      have e1 : Hid (pBnd high er b a = .ok (x, a + 1)) := by show _ = _; unfold pBnd pChk; rw [hb]; simp [hlt]
      clear hr hb hd
      go_wp2
      go_ret
      exact RP.mk_ok e1.out rfl HD.out hx
    · have hlt' : (high : Int) < (x : Int) := by omega
      have e1 : Hid (pBnd high er b a = .error (a, er)) := by show _ = _; unfold pBnd pChk; rw [hb]; simp [hlt]
      clear hr hb hd
      go_wp2_with fail
      refine (giveup_ok _ _ a er).mono ?_
      rintro e w2 ⟨rfl, rfl⟩
      go_wp2
      exact ⟨rfl, RP.mk_err e1.out hx⟩
theorem grp_next {acc g k : Nat} (hk : k < 9) (hacc : acc < 2 ^ (7 * k)) : acc + g % 128 * 2 ^ (7 * k) < 2 ^ (7 * (k + 1)) ∧ 2 ^ (7 * (k + 1)) ≤ 9223372036854775808 := by
  have e : 2 ^ (7 * (k + 1)) = 128 * 2 ^ (7 * k) := by rw [show 7 * (k + 1) = 7 + 7 * k by omega, Nat.pow_add]
  have h2 : 2 ^ (7 * k) ≤ 2 ^ 56 := Nat.pow_le_pow_right (by decide) (by omega)
  have h3 : g % 128 * 2 ^ (7 * k) ≤ 127 * 2 ^ (7 * k) := Nat.mul_le_mul_right _ (by omega)
  have h4 : (2 : Nat) ^ 56 = 72057594037927936 := by decide
  rw [e]
  constructor
  · omega
  · omega
theorem grp_or {acc g k : Nat} (hk : k < 9) (hg : g < 256) (hacc : acc < 2 ^ (7 * k)) : bits BinOp.or IntKind.i64 (acc : Int) (wrap64 (bits BinOp.and IntKind.i64 (g : Int) 127 * 2 ^ (7 * k))) = ((acc + g % 128 * 2 ^ (7 * k) : Nat) : Int) := by
  have hn := grp_next (g := g) hk hacc
  have wr : ∀ n : Int, 0 ≤ n → n < 2 ^ 63 → IntKind.i64.wrap n = n := fun n h0 h1 => by rw [IntKind.wrap_i64]; omega
  have e1 : bits BinOp.and IntKind.i64 (g : Int) 127 = ((g % 128 : Nat) : Int) := by
    have := (bits_nat .i64 63 (by decide) wr g 127 (by omega) (by omega)).1
    have h2 : g &&& 127 = g % 128 := Nat.and_two_pow_sub_one_eq_mod g 7
    rw [h2] at this
    exact this
  have hp : (2 : Int) ^ (7 * k) = ((2 ^ (7 * k) : Nat) : Int) := by simp
  have e2 : wrap64 (bits BinOp.and IntKind.i64 (g : Int) 127 * 2 ^ (7 * k)) = ((g % 128 * 2 ^ (7 * k) : Nat) : Int) := by
    rw [e1, hp, ← Int.natCast_mul]
    unfold wrap64
    omega
  rw [e2, (bits_nat .i64 63 (by decide) wr acc _ (by omega) (by omega)).2]
  have h3 := Nat.shiftLeft_add_eq_or_of_lt hacc (g % 128)
  rw [Nat.shiftLeft_eq] at h3
  rw [Nat.or_comm, ← h3, Nat.add_comm]
theorem rnumber_ok (w : World) (B p a : Nat) (b : List Nat) (vb : Value) (h : Rdr B p b a w vb) :
    Calls Try.prog 75 #[.pointer (some ⟨p, 0, none⟩)] w (RP B p b vb (pNum b a) isNat w) := by
  have H := Lib.hid h
  have c1 := h.blk.cell 1
  simp only [List.getElem?_toArray, List.getElem?_cons_zero, List.getElem?_cons_succ] at c1
  clear h
  obtain ⟨R, hR⟩ : ∃ R, R = pNum b a := ⟨_, rfl⟩
  rw [← hR]
  have HR := Lib.hid hR
  clear hR
  go_enter Try.func75, Try.ntmps75
  go_wp2
  go_loopw [4, 11] (fun t c wr => ∃ k acc m : Nat, k ≤ 9 ∧ c = .int .i64 (k : Int) ∧ t = .int .i64 (acc : Int) ∧ acc < 2 ^ (7 * k) ∧ Hid (R = pGrp a (9 - k) k acc b m) ∧ Rdr B p b m wr vb ∧ Ex p w wr) (fun _ c _ => 9 - (intOf c).toNat)
  case atStart => exact ⟨0, 0, a, by omega, rfl, rfl, by simp, HR.out, H.out, Ex.refl _ _⟩
  case round =>
    obtain ⟨k, acc, m, hk, rfl, rfl, hacc, he, hd, hx⟩ := hrel
    by_cases hlt : k < 9
    · have hlt' : (k : Int) < 9 := by omega
      have HD := Lib.hid hd
      have HA := Lib.hid hacc
      clear hd hacc
      go_wp2_with fail
      refine (rbyte_ok wr B p m b vb HD.out).mono ?_
      rintro e w1 hr
      cases hb : pByte b m with
      | error y =>
        obtain ⟨y, ye⟩ := y
        obtain ⟨rfl, hx2⟩ := hr.err hb
        have e1 : Hid (R = .error (y, ye)) := by
          show _ = _
          rw [he.out, show 9 - k = (8 - k) + 1 by omega]
          simp only [pGrp, pBind, hb]
        clear hr hb he
        go_wp2
        exact ⟨rfl, RP.mk_err e1.out (hx.trans hx2)⟩
      | ok v =>
        obtain ⟨g, m'⟩ := v
        obtain ⟨v, rfl, rfl, hd2, hx2⟩ := hr.ok hb
        obtain ⟨x256, rfl, _⟩ := HD.out.byte_lt hb
        have hX := hx.trans hx2
        have HD2 := Lib.hid hd2
        have HB := Lib.hid hb
        clear hr hb hd2 hx hx2
        have hor := grp_or (g := g) hlt x256 HA.out
        obtain ⟨ac2, hac⟩ : ∃ n, n = acc + g % 128 * 2 ^ (7 * k) := ⟨_, rfl⟩
        have hnx := (grp_next (g := g) hlt HA.out).1
        rw [← hac] at hor hnx
        have HN := Lib.hid hnx
        have he2 : Hid (R = if g < 128 then (if g = 0 ∧ 0 < k then .error (a, 110) else .ok (ac2, m + 1)) else pGrp a (8 - k) (k + 1) ac2 b (m + 1)) := by
          show _ = _
          rw [he.out, show 9 - k = (8 - k) + 1 by omega]
          simp only [pGrp, pBind, HB.out, ← hac]
          by_cases h1 : g < 128
          · rw [if_pos h1, if_pos h1]
            by_cases h2 : g = 0 ∧ 0 < k
            · rw [if_pos h2, if_pos h2]; rfl
            · rw [if_neg h2, if_neg h2]; rfl
          · rw [if_neg h1, if_neg h1]
        clear hnx hac he HB
        by_cases h1 : g < 128
        · have h1' : (g : Int) < 128 := by omega
          by_cases h2 : g = 0 ∧ 0 < k
          · obtain ⟨rfl, hk0⟩ := h2
            have hk0' : (0 : Int) < (k : Int) := by omega
            have e1 : Hid (R = .error (a, 110)) := by
              show _ = _
              rw [he2.out, if_pos (by omega), if_pos ⟨rfl, hk0⟩]
            clear he2
            go_wp2_with fail
            refine (giveup_ok _ _ a 110).mono ?_
            rintro e w2 ⟨rfl, rfl⟩
            go_wp2
            exact ⟨rfl, RP.mk_err e1.out hX⟩
          · have e1 : Hid (R = .ok (ac2, m + 1)) := by
              show _ = _
              rw [he2.out, if_pos h1, if_neg h2]
            clear he2
            by_cases h3 : g = 0
            · obtain rfl : k = 0 := by omega
              subst h3
              have hor2 : bits BinOp.or IntKind.i64 (acc : Int) (wrap64 (bits BinOp.and IntKind.i64 0 127)) = (ac2 : Int) := by simpa using hor
              clear hor
              go_wp2
              go_ret
              exact RP.mk_ok e1.out rfl HD2.out hX
            · go_wp2
              go_ret
              exact RP.mk_ok e1.out rfl HD2.out hX
        · have h1' : ¬ (g : Int) < 128 := by omega
          have e1 : Hid (R = pGrp a (9 - (k + 1)) (k + 1) ac2 b (m + 1)) := by
            show _ = _
            rw [he2.out, if_neg h1, show 9 - (k + 1) = 8 - k by omega]
          clear he2
          go_wp2
          refine ⟨⟨k + 1, ac2, m + 1, by omega, by go_num, rfl, HN.out, e1, HD2.out, hX⟩, ?_⟩
          simp only [intOf]
          omega
    · obtain rfl : k = 9 := by omega
      have e1 : Hid (R = .error (a, 110)) := by
        show _ = _
        rw [he.out]
        rfl
      clear he
      go_wp2_with fail
      refine (giveup_ok _ _ a 110).mono ?_
      rintro e w2 ⟨rfl, rfl⟩
      go_wp2
      exact ⟨rfl, RP.mk_err e1.out hx⟩
theorem pGrp_lt {from' : Nat} {b : List Nat} : ∀ (f k acc m x m' : Nat), f + k = 9 → acc < 2 ^ (7 * k) → pGrp from' f k acc b m = .ok (x, m') → x < 9223372036854775808 := by
  intro f
  induction f with
  | zero => intro k acc m x m' _ _ h; cases h
  | succ f ih =>
    intro k acc m x m' hf ha h
    obtain ⟨g, n, h1, h2⟩ := pBind_ok.1 h
    have hn := grp_next (g := g) (by omega) ha
    by_cases h3 : g < 128
    · rw [if_pos h3] at h2
      by_cases h4 : g = 0 ∧ 0 < k
      · rw [if_pos h4] at h2; cases h2
      · rw [if_neg h4] at h2
        simp only [pPure, Except.ok.injEq, Prod.mk.injEq] at h2
        omega
    · rw [if_neg h3] at h2
      exact ih (k + 1) _ n x m' (by omega) hn.1 h2
theorem pNum_lt {b : List Nat} {a x m : Nat} (h : pNum b a = .ok (x, m)) : x < 9223372036854775808 := pGrp_lt 9 0 0 a x m rfl (by decide) h
theorem rmost_ok (w : World) (B p a : Nat) (b : List Nat) (vb : Value) (h : Rdr B p b a w vb) (high : Nat) (er : Int) :
    Calls Try.prog 55 #[.pointer (some ⟨p, 0, none⟩), .int .i64 (high : Int), .int .i64 er] w (RP B p b vb (pMost high er b a) isNat w) := by
  have H := Lib.hid h
  have c1 := h.blk.cell 1
  simp only [List.getElem?_toArray, List.getElem?_cons_zero, List.getElem?_cons_succ] at c1
  clear h
  go_enter Try.func55, Try.ntmps55
  go_wp2_with fail
  refine (rnumber_ok w B p a b vb H.out).mono ?_
  rintro e w1 hr
  cases hb : pNum b a with
  | error y =>
    obtain ⟨y, ye⟩ := y
    obtain ⟨rfl, hx⟩ := hr.err hb
    have e1 : Hid (pMost high er b a = .error (y, ye)) := by show _ = _; unfold pMost pChk; rw [hb]
    clear hr hb
    go_wp2
    exact ⟨rfl, RP.mk_err e1.out hx⟩
  | ok v =>
    obtain ⟨x, m⟩ := v
    obtain ⟨v, rfl, rfl, hd, hx⟩ := hr.ok hb
    have HD := Lib.hid hd
    by_cases hlt : x ≤ high
    · have hlt' : ¬ (high : Int) < (x : Int) := by omega
      have e1 : Hid (pMost high er b a = .ok (x, m)) := by show _ = _; unfold pMost pChk; rw [hb]; simp [hlt]
      clear hr hb hd
      go_wp2
      go_ret
      exact RP.mk_ok e1.out rfl HD.out hx
    · have hlt' : (high : Int) < (x : Int) := by omega
      have e1 : Hid (pMost high er b a = .error (a, er)) := by show _ = _; unfold pMost pChk; rw [hb]; simp [hlt]
      clear hr hb hd
      go_wp2_with fail
      refine (giveup_ok _ _ a er).mono ?_
      rintro e w2 ⟨rfl, rfl⟩
      go_wp2
      exact ⟨rfl, RP.mk_err e1.out hx⟩
theorem unz_bits {x : Nat} (h : x < 9223372036854775808) : bits BinOp.xor IntKind.i64 ((x : Int) / 2) (wrap64 (-bits BinOp.and IntKind.i64 (x : Int) 1)) = unz x := by
  have wr : ∀ n : Int, 0 ≤ n → n < 2 ^ 63 → IntKind.i64.wrap n = n := fun n h0 h1 => by rw [IntKind.wrap_i64]; omega
  have e1 : bits BinOp.and IntKind.i64 (x : Int) 1 = ((x % 2 : Nat) : Int) := by
    have := (bits_nat .i64 63 (by decide) wr x 1 (by omega) (by omega)).1
    rw [Nat.and_one_is_mod] at this
    exact this
  have e2 : (x : Int) / 2 = ((x / 2 : Nat) : Int) := by omega
  rw [e1, e2]
  unfold unz
  by_cases hp : x % 2 = 0
  · rw [hp, if_pos rfl]
    have e3 : wrap64 (-((0 : Nat) : Int)) = 0 := by unfold wrap64; omega
    rw [e3]
    show IntKind.i64.wrap ((BitVec.ofInt 64 ((x / 2 : Nat) : Int) ^^^ BitVec.ofInt 64 0).toNat : Int) = _
    rw [show BitVec.ofInt 64 0 = 0#64 by decide, BitVec.xor_zero, BitVec.ofInt_natCast, BitVec.toNat_ofNat, Nat.mod_eq_of_lt (by omega)]
    exact wr _ (by omega) (by omega)
  · rw [if_neg hp, show x % 2 = 1 by omega]
    have e3 : wrap64 (-((1 : Nat) : Int)) = -1 := by unfold wrap64; omega
    rw [e3]
    show IntKind.i64.wrap ((BitVec.ofInt 64 ((x / 2 : Nat) : Int) ^^^ BitVec.ofInt 64 (-1)).toNat : Int) = _
    rw [show BitVec.ofInt 64 (-1) = BitVec.allOnes 64 by decide, BitVec.xor_allOnes, BitVec.toNat_not, BitVec.ofInt_natCast, BitVec.toNat_ofNat, Nat.mod_eq_of_lt (by omega), IntKind.wrap_i64]
    omega
theorem rsigned_ok (w : World) (B p a : Nat) (b : List Nat) (vb : Value) (h : Rdr B p b a w vb) (er : Int) :
    Calls Try.prog 56 #[.pointer (some ⟨p, 0, none⟩), .int .i64 er] w (RP B p b vb (pSig er b a) isInt w) := by
  have H := Lib.hid h
  have c1 := h.blk.cell 1
  simp only [List.getElem?_toArray, List.getElem?_cons_zero, List.getElem?_cons_succ] at c1
  clear h
  go_enter Try.func56, Try.ntmps56
  go_wp2_with fail
  refine (rnumber_ok w B p a b vb H.out).mono ?_
  rintro e w1 hr
  cases hb : pNum b a with
  | error y =>
    obtain ⟨y, ye⟩ := y
    obtain ⟨rfl, hx⟩ := hr.err hb
    have e1 : Hid (pSig er b a = .error (y, ye)) := by show _ = _; unfold pSig pChk pMap; rw [hb]
    clear hr hb
    go_wp2
    exact ⟨rfl, RP.mk_err e1.out hx⟩
  | ok v =>
    obtain ⟨x, m⟩ := v
    obtain ⟨v, rfl, rfl, hd, hx⟩ := hr.ok hb
    have HD := Lib.hid hd
    have hxl := pNum_lt hb
    have HB := Lib.hid hb
    clear hr hb hd
    have hu := unz_bits hxl
    go_wp2_with fail
    refine (within_ok _ _ _ _).mono ?_
    rintro e w2 ⟨rfl, rfl⟩
    cases hi : inB (unz x) (-1099511627776) 1099511627776 with
    | false =>
      have e1 : Hid (pSig er b a = .error (a, er)) := by show _ = _; unfold pSig pChk pMap; rw [HB.out]; simp [hi]
      clear hi
      go_wp2_with fail
      refine (giveup_ok _ _ a er).mono ?_
      rintro e w3 ⟨rfl, rfl⟩
      go_wp2
      exact ⟨rfl, RP.mk_err e1.out hx⟩
    | true =>
      have e1 : Hid (pSig er b a = .ok (unz x, m)) := by show _ = _; unfold pSig pChk pMap; rw [HB.out]; simp [hi]
      clear hi
      go_wp2
      go_ret
      exact RP.mk_ok e1.out rfl HD.out hx
theorem rbounded_eq (w : World) (B p a : Nat) (b : List Nat) (vb : Value) (h : Rdr B p b a w vb) (high : Nat) (er : Int) {hi : Int} (hh : hi = (high : Int)) :
    Calls Try.prog 76 #[.pointer (some ⟨p, 0, none⟩), .int .i64 hi, .int .i64 er] w (RP B p b vb (pBnd high er b a) isNat w) := hh ▸ rbounded_ok w B p a b vb h high er
theorem rmost_eq (w : World) (B p a : Nat) (b : List Nat) (vb : Value) (h : Rdr B p b a w vb) (high : Nat) (er : Int) {hi : Int} (hh : hi = (high : Int)) :
    Calls Try.prog 55 #[.pointer (some ⟨p, 0, none⟩), .int .i64 hi, .int .i64 er] w (RP B p b vb (pMost high er b a) isNat w) := hh ▸ rmost_ok w B p a b vb h high er
end Go.Proofs.Ytfdjdpbiccclfaa
namespace Go.Proofs.Ytfdjdpbiccclfaa
open Go Go.RowKit Go.Wr
set_option maxHeartbeats 4000000
set_option maxRecDepth 100000
def isTag (t : Tg) (v : Value) (_ : World) : Prop := v = .agg (tgv t)
theorem isrow_yes (w : World) (k : Int) (h : k = 5 ∨ k = 6) : Calls Try.prog 71 #[.int .i64 k] w fun e w' => e = .returned (.bool true) ∧ w' = w := by
  refine (isrow_ok w k).mono fun e w' ⟨h1, h2⟩ => ⟨?_, h2⟩
  rw [h1]
  congr 2
  simpa using h
theorem isrow_no (w : World) (k : Int) (h : ¬ (k = 5 ∨ k = 6)) : Calls Try.prog 71 #[.int .i64 k] w fun e w' => e = .returned (.bool false) ∧ w' = w := by
  refine (isrow_ok w k).mono fun e w' ⟨h1, h2⟩ => ⟨?_, h2⟩
  rw [h1]
  congr 2
  simp
  omega
theorem rtag_ok (w : World) (B p a : Nat) (b : List Nat) (vb : Value) (h : Rdr B p b a w vb) (slot : Bool) :
    Calls Try.prog 77 #[.pointer (some ⟨p, 0, none⟩), .bool slot] w (RP B p b vb (pTag slot b a) isTag w) := by
  have H := Lib.hid h
  have hpl := h.lt
  obtain ⟨R, hR⟩ : ∃ R, R = pTag slot b a := ⟨_, rfl⟩
  rw [← hR]
  have HR := Lib.hid hR
  clear h hR
  go_enter Try.func77, Try.ntmps77
  go_wp2_with fail
  (with_reducible refine (rbounded_eq _ B p a b vb (H.out.below (bAl (bRefl w) _)) 6 90 (by omega)).mono ?_)
  rintro e w1 hr
  have xA : Ex p w (w.alloc (.cells #[.int .i64 0, .int .i64 0, .int .i64 0] 56)) := (Ex.refl p w).alloc _
  have ZB : Blk (w.alloc (.cells #[.int .i64 0, .int .i64 0, .int .i64 0] 56)) w.heap.size 56 #[.int .i64 0, .int .i64 0, .int .i64 0] := Blk.new _ _ _
  cases hb : pBnd 6 90 b a with
  | error y =>
    obtain ⟨y, ye⟩ := y
    obtain ⟨rfl, hx⟩ := hr.err hb
    have e1 : Hid (R = .error (y, ye)) := by show _ = _; rw [HR.out]; unfold pTag pBind; rw [hb]
    clear hr hb ZB
    go_wp2
    exact ⟨rfl, RP.mk_err e1.out (xA.trans hx)⟩
  | ok v =>
    obtain ⟨k, m⟩ := v
    obtain ⟨v, rfl, rfl, hd, hx⟩ := hr.ok hb
    have hk6 : k ≤ 6 := by have := (pChk_ok.1 hb).2; simpa using this
    have HX := Lib.hid (xA.trans hx)
    have HZ := Lib.hid (hx.blk ZB (by omega))
    have hzl := HZ.out.lt
    have HD := Lib.hid hd
    have HR2 : Hid (R = (if k = 5 ∨ k = 6 then pBind (pBnd 7 90) fun t => pPure ⟨k, t, 0⟩ else if slot = true ∧ k = 0 then pBind (pChk (fun m => decide (m ≠ 0)) 90 pByte) fun m => pPure ⟨k, 0, m⟩ else pPure ⟨k, 0, 0⟩) b m) := by
      show _ = _
      rw [HR.out]
      unfold pTag
      conv => lhs; unfold pBind
      rw [hb]
      rfl
    clear hr hb ZB hd hx xA HR H
    go_wp2_with fail
    have NB : Blk (w1.alloc (.cells #[.int .i64 (k : Int), .int .i64 0, .int .i64 0] 56)) w1.heap.size 56 #[.int .i64 (k : Int), .int .i64 0, .int .i64 0] := Blk.new _ _ _
    have HX1 := Lib.hid (HX.out.alloc (.cells #[.int .i64 (k : Int), .int .i64 0, .int .i64 0] 56))
    have HZ1 := Lib.hid (HZ.out.alloc (.cells #[.int .i64 (k : Int), .int .i64 0, .int .i64 0] 56))
    have HD1 := Lib.hid (HD.out.below (bAl (bRefl w1) (.cells #[.int .i64 (k : Int), .int .i64 0, .int .i64 0] 56)))
    by_cases hr : k = 5 ∨ k = 6
    · (with_reducible refine (isrow_yes _ _ (by omega)).mono ?_)
      rintro e w2 ⟨rfl, rfl⟩
      have HR3 : Hid (R = pBind (pBnd 7 90) (fun t => pPure ⟨k, t, 0⟩) b m) := by
        show _ = _
        rw [HR2.out, if_pos hr]
      clear HR2 hr
      have HNB := Lib.hid NB
      clear NB
      go_wp2_with fail
      (with_reducible refine (rbounded_eq _ B p m b vb HD1.out 7 90 (by omega)).mono ?_)
      rintro e w2 hr
      cases hb : pBnd 7 90 b m with
      | error y =>
        obtain ⟨y, ye⟩ := y
        obtain ⟨rfl, hx⟩ := hr.err hb
        have e1 : Hid (R = .error (y, ye)) := by show _ = _; rw [HR3.out]; unfold pBind; rw [hb]
        clear hr hb
        go_wp2
        exact ⟨rfl, RP.mk_err e1.out (HX1.out.trans hx)⟩
      | ok v =>
        obtain ⟨t, m2⟩ := v
        obtain ⟨v, rfl, rfl, hd, hx⟩ := hr.ok hb
        have e1 : Hid (R = .ok (⟨k, t, 0⟩, m2)) := by show _ = _; rw [HR3.out]; unfold pBind; rw [hb]; rfl
        have HX2 := Lib.hid (HX1.out.trans hx)
        have hz2 := hx.blk HZ1.out (by omega)
        have hn2 := hx.blk HNB.out (by omega)
        have n0 := hn2.cell 0
        have n1 := hn2.cell 1
        have n2 := hn2.cell 2
        have f1 := hn2.frozen 1
        have z0 := hz2.frozen 0
        have z1 := hz2.frozen 1
        have z2 := hz2.frozen 2
        have y0 := hz2.cell 0
        have y1 := hz2.cell 1
        have y2 := hz2.cell 2
        simp only [List.getElem?_toArray, List.getElem?_cons_zero, List.getElem?_cons_succ] at n0 n1 n2 y0 y1 y2
        have HZ2 := Lib.hid hz2
        have HD2 := Lib.hid hd
        have hl2 := hz2.lt
        clear hr hb hd hx hz2 hn2 HR3 HNB
        go_wp2
        refine ret_cell rfl rfl (((((HZ2.out.set_other w1.heap.size 1 _ (by omega)).set 0 _).set 1 _).set 2 _).eq rfl) rowTag rfl ?_
        refine RP.mk_ok e1.out rfl ?_ ?_
        · exact (((HD2.out.set_other _ (by omega) (by have := HD2.out.hp; omega)).set_other _ (by omega) (by have := HD2.out.hp; omega)).set_other _ (by omega) (by have := HD2.out.hp; omega)).set_other _ (by omega) (by have := HD2.out.hp; omega)
        · exact (((HX2.out.set_new _ (by omega)).set_new _ (by omega)).set_new _ (by omega)).set_new _ (by omega)
    · (with_reducible refine (isrow_no _ _ (by omega)).mono ?_)
      rintro e w2 ⟨rfl, rfl⟩
      by_cases hs : slot = true ∧ k = 0
      · obtain ⟨rfl, rfl⟩ := hs
        have HR3 : Hid (R = pBind (pChk (fun m => decide (m ≠ 0)) 90 pByte) (fun m => pPure ⟨((0 : Nat) : Int), 0, m⟩) b m) := by
          show _ = _
          rw [HR2.out, if_neg hr, if_pos ⟨rfl, rfl⟩]
        clear HR2 hr
        rw [show ((0 : Nat) : Int) = 0 from rfl] at HR3 HX1 HZ1 HD1 NB
        have n0 := NB.cell 0
        simp only [List.getElem?_toArray, List.getElem?_cons_zero] at n0
        have c1 := HD1.out.blk.cell 1
        simp only [List.getElem?_toArray, List.getElem?_cons_zero, List.getElem?_cons_succ] at c1
        have HNB := Lib.hid NB
        clear NB
        go_wp2_with fail
        (with_reducible refine (rbyte_ok _ B p m b vb HD1.out).mono ?_)
        rintro e w2 hr
        cases hb : pByte b m with
        | error y =>
          obtain ⟨y, ye⟩ := y
          obtain ⟨rfl, hx⟩ := hr.err hb
          have e1 : Hid (R = .error (y, ye)) := by show _ = _; rw [HR3.out]; unfold pBind pChk; rw [hb]
          clear hr hb
          go_wp2
          exact ⟨rfl, RP.mk_err e1.out (HX1.out.trans hx)⟩
        | ok v =>
          obtain ⟨x, m2⟩ := v
          obtain ⟨v, rfl, rfl, hd, hx⟩ := hr.ok hb
          have HX2 := Lib.hid (HX1.out.trans hx)
          have hz2 := hx.blk HZ1.out (by omega)
          have hn2 := hx.blk HNB.out (by omega)
          have n0 := hn2.cell 0
          have n1 := hn2.cell 1
          have n2 := hn2.cell 2
          have f2 := hn2.frozen 2
          have z0 := hz2.frozen 0
          have z1 := hz2.frozen 1
          have z2 := hz2.frozen 2
          have y0 := hz2.cell 0
          have y1 := hz2.cell 1
          have y2 := hz2.cell 2
          simp only [List.getElem?_toArray, List.getElem?_cons_zero, List.getElem?_cons_succ] at n0 n1 n2 y0 y1 y2
          have HZ2 := Lib.hid hz2
          have HD2 := Lib.hid hd
          have hl2 := hz2.lt
          have hxs := hx.size
          by_cases h0 : x = 0
          · subst h0
            have e1 : Hid (R = .error (m, 90)) := by show _ = _; rw [HR3.out]; unfold pBind pChk; rw [hb]; rfl
            clear hr hb hd hx hz2 hn2 HR3 HNB
            go_wp2_with fail
            refine (giveup_ok _ _ m 90).mono ?_
            rintro e w3 ⟨rfl, rfl⟩
            go_wp2
            refine ⟨rfl, RP.mk_err e1.out ?_⟩
            exact HX2.out.set_new _ (by omega)
          · have e1 : Hid (R = .ok (⟨0, 0, x⟩, m2)) := by show _ = _; rw [HR3.out]; unfold pBind pChk; rw [hb]; simp [h0, pPure]
            have h0' : ¬ (x : Int) = 0 := by omega
            clear hr hb hd hx hz2 hn2 HR3 HNB
            go_wp2
            refine ret_cell rfl rfl (((((HZ2.out.set_other w1.heap.size 2 _ (by omega)).set 0 _).set 1 _).set 2 _).eq rfl) rowTag rfl ?_
            refine RP.mk_ok e1.out rfl ?_ ?_
            · exact (((HD2.out.set_other _ (by omega) (by have := HD2.out.hp; omega)).set_other _ (by omega) (by have := HD2.out.hp; omega)).set_other _ (by omega) (by have := HD2.out.hp; omega)).set_other _ (by omega) (by have := HD2.out.hp; omega)
            · exact (((HX2.out.set_new _ (by omega)).set_new _ (by omega)).set_new _ (by omega)).set_new _ (by omega)
      · have e1 : Hid (R = .ok (⟨k, 0, 0⟩, m)) := by
          show _ = _
          rw [HR2.out, if_neg hr, if_neg hs]
          rfl
        have n0 := NB.cell 0
        have n1 := NB.cell 1
        have n2 := NB.cell 2
        have z0 := HZ.out.frozen 0
        have z1 := HZ.out.frozen 1
        have z2 := HZ.out.frozen 2
        have y0 := HZ.out.cell 0
        have y1 := HZ.out.cell 1
        have y2 := HZ.out.cell 2
        simp only [List.getElem?_toArray, List.getElem?_cons_zero, List.getElem?_cons_succ] at n0 n1 n2 y0 y1 y2
        clear HR2 NB
        cases slot with
        | false =>
          clear hs
          go_wp2
          refine ret_cell rfl rfl (((((HZ.out.set 0 _).set 1 _).set 2 _).alloc _).eq rfl) rowTag rfl ?_
          refine RP.mk_ok e1.out rfl ?_ ?_
          · exact (((HD.out.set_other _ (by omega) (by have := HD.out.hp; omega)).set_other _ (by omega) (by have := HD.out.hp; omega)).set_other _ (by omega) (by have := HD.out.hp; omega)).below (bAl (bRefl _) _)
          · exact (((HX.out.set_new _ (by omega)).set_new _ (by omega)).set_new _ (by omega)).alloc _
        | true =>
          have hk0 : ¬ (k : Int) = 0 := fun e => hs ⟨rfl, by omega⟩
          clear hs
          go_wp2
          refine ret_cell rfl rfl (((((HZ.out.set 0 _).set 1 _).set 2 _).alloc _).eq rfl) rowTag rfl ?_
          refine RP.mk_ok e1.out rfl ?_ ?_
          · exact (((HD.out.set_other _ (by omega) (by have := HD.out.hp; omega)).set_other _ (by omega) (by have := HD.out.hp; omega)).set_other _ (by omega) (by have := HD.out.hp; omega)).below (bAl (bRefl _) _)
          · exact (((HX.out.set_new _ (by omega)).set_new _ (by omega)).set_new _ (by omega)).alloc _
end Go.Proofs.Ytfdjdpbiccclfaa
namespace Go.Proofs.Ytfdjdpbiccclfaa
open Go Go.RowKit Go.Wr
set_option maxHeartbeats 4000000
set_option maxRecDepth 100000
def isCon (x : C3) (v : Value) (_ : World) : Prop := v = .agg (c3v x)
theorem rowCon : RowTy Try.prog 63 3 := ⟨_, Try.underlying63, rfl, by kernel_rfl⟩
def LastC (p : Nat) (w : World) (v : Value) (k : Nat) (prev : Option C3) : Prop :=
  (k = 0 ∧ prev = none) ∨ ∃ y n bb off cap, prev = some y ∧ k = n + 1 ∧ v = .slice (some ⟨bb, off, none⟩) k cap ∧ bb ≠ p ∧ bb < w.heap.size ∧ w.cell? ⟨bb, off + n * 3, none⟩ = some (.int .i64 y.i) ∧ w.cell? ⟨bb, off + n * 3 + 1, none⟩ = some (.int .i64 y.j) ∧ w.cell? ⟨bb, off + n * 3 + 2, none⟩ = some (.int .i64 y.c)
theorem Ex.cell {p : Nat} {w w' : World} (h : Ex p w w') {b o : Nat} (h1 : b < w.heap.size) (h2 : b ≠ p) : w'.cell? ⟨b, o, none⟩ = w.cell? ⟨b, o, none⟩ := World.cell?_of_block (a := ⟨b, o, none⟩) (h.block b h1 h2)
theorem rises_yes (w : World) (a b : C3) (v : Bool) (h : rises a b = v) {i j c i' j' c' : Int} (h1 : i = a.i) (h2 : j = a.j) (h3 : c = a.c) (h4 : i' = b.i) (h5 : j' = b.j) (h6 : c' = b.c) :
    Calls Try.prog 70 #[.agg #[.int .i64 i, .int .i64 j, .int .i64 c], .agg #[.int .i64 i', .int .i64 j', .int .i64 c']] w fun e w' => e = .returned (.bool v) ∧ Below w.heap.size w w' := by
  subst h1 h2 h3 h4 h5 h6 h
  exact rises_ok w a b
theorem pChk_at {α : Type} {c : α → Bool} {e : Int} {p : Ps α} {b : List Nat} {a a' : Nat} {x : α} (h : p b a = .ok (x, a')) : pChk c e p b a = if c x = true then .ok (x, a') else .error (a, e) := by unfold pChk; rw [h]
def ahd (prev : Option C3) (x : Nat × Nat) : Bool := match prev with | some y => rises y ⟨x.1, x.2, 0⟩ | none => true
theorem pPair_at {prev : Option C3} {b : List Nat} {a a' : Nat} {x : Nat × Nat} (h : pBind (pBnd 59 91) (fun i => pMap (fun j => (i, j)) (pChk (fun j => decide (j ≠ i)) 91 (pBnd 59 91))) b a = .ok (x, a')) : pPair prev b a = if ahd prev x = true then .ok (x, a') else .error (a, 111) := pChk_at h
theorem rcon_ok (w : World) (B p a : Nat) (b : List Nat) (vb : Value) (h : Rdr B p b a w vb) (va : Value) (k : Nat) (prev : Option C3) (hl : LastC p w va k prev) (hk : k ≤ 3600) :
    Calls Try.prog 78 #[.pointer (some ⟨p, 0, none⟩), va, .int .i64 (k : Int)] w (RP B p b vb (pCon prev b a) isCon w) := by
  have H := Lib.hid h
  have hpl := h.lt
  have hBp := h.hp
  have HL := Lib.hid hl
  have c1 := h.blk.cell 1
  simp only [List.getElem?_toArray, List.getElem?_cons_zero, List.getElem?_cons_succ] at c1
  obtain ⟨R, hR⟩ : ∃ R, R = pCon prev b a := ⟨_, rfl⟩
  rw [← hR]
  have HR := Lib.hid hR
  clear h hR hl
  go_enter Try.func78, Try.ntmps78
  go_wp2_with fail
  have xA : Ex p w (w.alloc (.cells #[.int .i64 0, .int .i64 0, .int .i64 0] 63)) := (Ex.refl p w).alloc _
  have ZB : Blk (w.alloc (.cells #[.int .i64 0, .int .i64 0, .int .i64 0] 63)) w.heap.size 63 #[.int .i64 0, .int .i64 0, .int .i64 0] := Blk.new _ _ _
  (with_reducible refine (rbounded_eq _ B p a b vb (H.out.below (bAl (bRefl w) _)) 59 91 (by omega)).mono ?_)
  rintro e w1 hr
  cases hb : pBnd 59 91 b a with
  | error y =>
    obtain ⟨y, ye⟩ := y
    obtain ⟨rfl, hx⟩ := hr.err hb
    have e1 : Hid (R = .error (y, ye)) := by show _ = _; rw [HR.out]; exact pBind_err.2 (Or.inl (pChk_err.2 (Or.inl (pBind_err.2 (Or.inl hb)))))
    clear hr hb ZB
    go_wp2
    exact ⟨rfl, RP.mk_err e1.out (xA.trans hx)⟩
  | ok v =>
    obtain ⟨i, m⟩ := v
    obtain ⟨v, rfl, rfl, hd, hx⟩ := hr.ok hb
    have hi := (pChk_ok.1 hb).2
    simp only [decide_eq_true_eq] at hi
    have HX := Lib.hid (xA.trans hx)
    have HZ := Lib.hid (hx.blk ZB (by omega))
    have hzl := HZ.out.lt
    have HD := Lib.hid hd
    have HB1 := Lib.hid hb
    have c1 := hd.blk.cell 1
    have hp1 := hd.lt
    simp only [List.getElem?_toArray, List.getElem?_cons_zero, List.getElem?_cons_succ] at c1
    clear hr hb ZB hd hx xA H
    go_wp2_with fail
    have NB : Blk (w1.alloc (.cells #[.int .i64 (i : Int), .int .i64 0, .int .i64 0] 63)) w1.heap.size 63 #[.int .i64 (i : Int), .int .i64 0, .int .i64 0] := Blk.new _ _ _
    have HX1 := Lib.hid (HX.out.alloc (.cells #[.int .i64 (i : Int), .int .i64 0, .int .i64 0] 63))
    have HZ1 := Lib.hid (HZ.out.alloc (.cells #[.int .i64 (i : Int), .int .i64 0, .int .i64 0] 63))
    have HD1 := Lib.hid (HD.out.below (bAl (bRefl w1) (.cells #[.int .i64 (i : Int), .int .i64 0, .int .i64 0] 63)))
    have HNB := Lib.hid NB
    clear NB
    (with_reducible refine (rbounded_eq _ B p m b vb HD1.out 59 91 (by omega)).mono ?_)
    rintro e w2 hr
    cases hb : pBnd 59 91 b m with
    | error y =>
      obtain ⟨y, ye⟩ := y
      obtain ⟨rfl, hx⟩ := hr.err hb
      have e1 : Hid (R = .error (y, ye)) := by show _ = _; rw [HR.out]; exact pBind_err.2 (Or.inl (pChk_err.2 (Or.inl (pBind_err.2 (Or.inr ⟨i, m, HB1.out, pMap_err.2 (pChk_err.2 (Or.inl hb))⟩)))))
      clear hr hb
      go_wp2
      exact ⟨rfl, RP.mk_err e1.out (HX1.out.trans hx)⟩
    | ok v =>
      obtain ⟨j, m2⟩ := v
      obtain ⟨v, rfl, rfl, hd, hx⟩ := hr.ok hb
      have hj := (pChk_ok.1 hb).2
      simp only [decide_eq_true_eq] at hj
      have HX2 := Lib.hid (HX1.out.trans hx)
      have hz2 := hx.blk HZ1.out (by omega)
      have hn2 := hx.blk HNB.out (by omega)
      have n0 := hn2.cell 0
      have n1 := hn2.cell 1
      have n2 := hn2.cell 2
      have f1 := hn2.frozen 1
      have f2 := hn2.frozen 2
      simp only [List.getElem?_toArray, List.getElem?_cons_zero, List.getElem?_cons_succ] at n0 n1 n2
      have HZ2 := Lib.hid hz2
      have HN2 := Lib.hid hn2
      have HD2 := Lib.hid hd
      have hl2 := hz2.lt
      have hn2l := hn2.lt
      have hxs := hx.size
      have HB2 := Lib.hid hb
      clear hr hb hd hx hz2 hn2 HNB HZ1 HX1 HD1
      by_cases hji : j = i
      · subst hji
        have e1 : Hid (R = .error (m, 91)) := by show _ = _; rw [HR.out]; exact pBind_err.2 (Or.inl (pChk_err.2 (Or.inl (pBind_err.2 (Or.inr ⟨j, m, HB1.out, pMap_err.2 (pChk_err.2 (Or.inr ⟨rfl, j, m2, HB2.out, by simp⟩))⟩)))))
        clear HR HB1 HB2
        go_wp2_with fail
        refine (giveup_ok _ _ m 91).mono ?_
        rintro e w3 ⟨rfl, rfl⟩
        go_wp2
        exact ⟨rfl, RP.mk_err e1.out (HX2.out.set_new _ (by omega))⟩
      · have hji' : ¬ (j : Int) = (i : Int) := by omega
        have e2 : pBind (pBnd 59 91) (fun i => pMap (fun j => (i, j)) (pChk (fun j => decide (j ≠ i)) 91 (pBnd 59 91))) b a = .ok ((i, j), m2) :=
          pBind_ok.2 ⟨i, m, HB1.out, pMap_ok.2 ⟨j, pChk_ok.2 ⟨HB2.out, by simpa using hji⟩, rfl⟩⟩
        have HP : Hid (pPair prev b a = if ahd prev (i, j) = true then .ok ((i, j), m2) else .error (a, 111)) := pPair_at e2
        clear HB1 HB2 hji e2
        go_upto_region 7 with (fail)
        generalize hV : w2.setCell ⟨w1.heap.size, 1, none⟩ (.int .i64 (j : Int)) = V
        have xV : Ex p w V := by rw [← hV]; exact HX2.out.set_new _ (by omega)
        have qV : Rdr B p b m2 V vb := by rw [← hV]; exact HD2.out.set_other _ (by omega) (by omega)
        have zV : Blk V w.heap.size 63 #[.int .i64 0, .int .i64 0, .int .i64 0] := by rw [← hV]; exact HZ2.out.set_other _ _ _ (by omega)
        have nV : Blk V w1.heap.size 63 #[.int .i64 (i : Int), .int .i64 (j : Int), .int .i64 0] := by rw [← hV]; exact (HN2.out.set 1 _).eq rfl
        have hVl := xV.size
        obtain ⟨q, hq⟩ : ∃ q, q = w1.heap.size := ⟨_, rfl⟩
        rw [← hq] at nV hzl ⊢
        have hqp : q ≠ p ∧ w.heap.size < q := by omega
        clear hV hq hn2l hl2 hxs HX2 HD2 HZ2 HN2 HX HZ HD n0 n1 n2 f1 f2
        have HXV := Lib.hid xV
        have HDV := Lib.hid qV
        have HZV := Lib.hid zV
        have HNV := Lib.hid nV
        have n0 := nV.cell 0
        have n1 := nV.cell 1
        have n2 := nV.cell 2
        simp only [List.getElem?_toArray, List.getElem?_cons_zero, List.getElem?_cons_succ] at n0 n1 n2
        clear xV qV zV nV
        rcases HL.out with ⟨rfl, rfl⟩ | ⟨y, n, bb, off, cap, rfl, rfl, rfl, hbp, hbl, y0, y1, y2⟩
        · have HP2 : Hid (pPair none b a = .ok ((i, j), m2)) := by show _ = _; rw [HP.out]; rfl
          clear HP HL c1
          go_quiet (fail)
          have HXD : Hid (Ex p w (V.drewN nq)) := HXV.out.drewN nq
          have HDD : Hid (Rdr B p b m2 (V.drewN nq) vb) := HDV.out.below ⟨rfl, rfl, rfl, Nat.le_refl _, fun _ _ => rfl⟩
          have HZD : Hid (Blk (V.drewN nq) w.heap.size 63 #[.int .i64 0, .int .i64 0, .int .i64 0]) := HZV.out.drewN nq
          have HND : Hid (Blk (V.drewN nq) q 63 #[.int .i64 (i : Int), .int .i64 (j : Int), .int .i64 0]) := HNV.out.drewN nq
          have c1 := HDD.out.blk.cell 1
          simp only [List.getElem?_toArray, List.getElem?_cons_zero, List.getElem?_cons_succ] at c1
          clear HXV HDV HZV HNV n0 n1 n2
          go_wp2_with fail
          refine (rsigned_ok _ B p m2 b vb HDD.out 91).mono ?_
          rintro e w4 hr
          cases hb : pSig 91 b m2 with
          | error y =>
            obtain ⟨y, ye⟩ := y
            obtain ⟨rfl, hx⟩ := hr.err hb
            have e1 : Hid (R = .error (y, ye)) := by show _ = _; rw [HR.out]; exact pBind_err.2 (Or.inr ⟨(i, j), m2, HP2.out, pMap_err.2 hb⟩)
            clear hr hb
            go_wp2
            exact ⟨rfl, RP.mk_err e1.out (HXD.out.trans hx)⟩
          | ok v =>
            obtain ⟨c, m3⟩ := v
            obtain ⟨v, rfl, rfl, hd, hx⟩ := hr.ok hb
            have e1 : Hid (R = .ok (⟨i, j, c⟩, m3)) := by show _ = _; rw [HR.out]; exact pBind_ok.2 ⟨(i, j), m2, HP2.out, pMap_ok.2 ⟨c, hb, rfl⟩⟩
            have HX4 := Lib.hid (HXD.out.trans hx)
            have zb := hx.blk HZD.out (by omega)
            have nb := hx.blk HND.out (by omega)
            have n0 := nb.cell 0
            have n1 := nb.cell 1
            have n2 := nb.cell 2
            have f2 := nb.frozen 2
            have z0 := zb.frozen 0
            have z1 := zb.frozen 1
            have z2 := zb.frozen 2
            have y0 := zb.cell 0
            have y1 := zb.cell 1
            have y2 := zb.cell 2
            simp only [List.getElem?_toArray, List.getElem?_cons_zero, List.getElem?_cons_succ] at n0 n1 n2 y0 y1 y2
            have HZ4 := Lib.hid zb
            have HD4 := Lib.hid hd
            have hzl4 := zb.lt
            have hql4 := nb.lt
            clear hr hb hd hx zb nb HXD HDD HZD HND HR HP2
            go_wp2
            refine ret_cell rfl rfl (((((HZ4.out.set_other q 2 _ (by omega)).set 0 _).set 1 _).set 2 _).eq rfl) rowCon rfl ?_
            refine RP.mk_ok e1.out rfl ?_ ?_
            · exact (((HD4.out.set_other _ (by omega) (by omega)).set_other _ (by omega) (by omega)).set_other _ (by omega) (by omega)).set_other _ (by omega) (by omega)
            · exact (((HX4.out.set_new _ (by omega)).set_new _ (by omega)).set_new _ (by omega)).set_new _ (by omega)
        · have hk0 : (0 : Int) < ((n + 1 : Nat) : Int) := by omega
          rw [← HXV.out.cell hbl hbp] at y0 y1 y2
          have hwr : IntKind.i64.wrap (n : Int) = n := IntWalk.i64_in _ (by omega)
          have hlt0 : (n : Int) < (n : Int) + 1 := by omega
          clear HL
          refine wp_tail 9 mix (by kernel_rfl) ?_
          simp only [List.take_succ_cons, List.take_zero, List.drop_succ_cons, List.drop_zero]
          iterate 9 still_step
          refine wpStill_nil ?_
          go_wp2_with fail
          (with_reducible refine (rises_yes _ y ⟨i, j, 0⟩ _ rfl rfl rfl rfl rfl rfl rfl).mono ?_)
          rintro e w3 ⟨rfl, b2⟩
          have HXD : Hid (Ex p w w3) := HXV.out.drew.trans (Ex.of_below b2)
          have HDD : Hid (Rdr B p b m2 w3 vb) := (HDV.out.drew).below b2
          have HZD : Hid (Blk w3 w.heap.size 63 #[.int .i64 0, .int .i64 0, .int .i64 0]) := (Blk.drew HZV.out).below b2 HZV.out.lt
          have HND : Hid (Blk w3 q 63 #[.int .i64 (i : Int), .int .i64 (j : Int), .int .i64 0]) := (Blk.drew HNV.out).below b2 HNV.out.lt
          have c1 := HDD.out.blk.cell 1
          simp only [List.getElem?_toArray, List.getElem?_cons_zero, List.getElem?_cons_succ] at c1
          clear b2 HXV HDV HZV HNV n0 n1 n2 y0 y1 y2
          cases hri : rises y ⟨i, j, 0⟩ with
          | false =>
            have e1 : Hid (R = .error (a, 111)) := by show _ = _; rw [HR.out]; exact pBind_err.2 (Or.inl (by rw [HP.out]; simp [ahd, hri]))
            clear hri HP HR
            go_wp2_with fail
            refine (giveup_ok _ _ a 111).mono ?_
            rintro e w4 ⟨rfl, rfl⟩
            go_wp2
            exact ⟨rfl, RP.mk_err e1.out HXD.out⟩
          | true =>
            have HP2 : Hid (pPair (some y) b a = .ok ((i, j), m2)) := by show _ = _; rw [HP.out]; simp [ahd, hri]
            clear hri HP
            go_wp2_with fail
            refine (rsigned_ok _ B p m2 b vb HDD.out 91).mono ?_
            rintro e w4 hr
            cases hb : pSig 91 b m2 with
            | error y =>
              obtain ⟨y, ye⟩ := y
              obtain ⟨rfl, hx⟩ := hr.err hb
              have e1 : Hid (R = .error (y, ye)) := by show _ = _; rw [HR.out]; exact pBind_err.2 (Or.inr ⟨(i, j), m2, HP2.out, pMap_err.2 hb⟩)
              clear hr hb
              go_wp2
              exact ⟨rfl, RP.mk_err e1.out (HXD.out.trans hx)⟩
            | ok v =>
              obtain ⟨c, m3⟩ := v
              obtain ⟨v, rfl, rfl, hd, hx⟩ := hr.ok hb
              have e1 : Hid (R = .ok (⟨i, j, c⟩, m3)) := by show _ = _; rw [HR.out]; exact pBind_ok.2 ⟨(i, j), m2, HP2.out, pMap_ok.2 ⟨c, hb, rfl⟩⟩
              have HX4 := Lib.hid (HXD.out.trans hx)
              have zb := hx.blk HZD.out (by omega)
              have nb := hx.blk HND.out (by omega)
              have n0 := nb.cell 0
              have n1 := nb.cell 1
              have n2 := nb.cell 2
              have f2 := nb.frozen 2
              have z0 := zb.frozen 0
              have z1 := zb.frozen 1
              have z2 := zb.frozen 2
              have y0 := zb.cell 0
              have y1 := zb.cell 1
              have y2 := zb.cell 2
              simp only [List.getElem?_toArray, List.getElem?_cons_zero, List.getElem?_cons_succ] at n0 n1 n2 y0 y1 y2
              have HZ4 := Lib.hid zb
              have HD4 := Lib.hid hd
              have hzl4 := zb.lt
              have hql4 := nb.lt
              clear hr hb hd hx zb nb HXD HDD HZD HND HR HP2
              go_wp2
              refine ret_cell rfl rfl (((((HZ4.out.set_other q 2 _ (by omega)).set 0 _).set 1 _).set 2 _).eq rfl) rowCon rfl ?_
              refine RP.mk_ok e1.out rfl ?_ ?_
              · exact (((HD4.out.set_other _ (by omega) (by omega)).set_other _ (by omega) (by omega)).set_other _ (by omega) (by omega)).set_other _ (by omega) (by omega)
              · exact (((HX4.out.set_new _ (by omega)).set_new _ (by omega)).set_new _ (by omega)).set_new _ (by omega)
end Go.Proofs.Ytfdjdpbiccclfaa
namespace Go.Proofs.Ytfdjdpbiccclfaa
open Go Go.RowKit Go.Wr
set_option maxHeartbeats 1000000
def conC (l : List C3) : List Value := l.flatMap fun x => [.int .i64 x.i, .int .i64 x.j, .int .i64 x.c]
theorem conC_app (l : List C3) (x : C3) : conC (l ++ [x]) = conC l ++ [.int .i64 x.i, .int .i64 x.j, .int .i64 x.c] := by simp [conC]
theorem conC_get (l : List C3) : ∀ (k : Nat) (x : C3), l[k]? = some x → (conC l)[k * 3]? = some (.int .i64 x.i) ∧ (conC l)[k * 3 + 1]? = some (.int .i64 x.j) ∧ (conC l)[k * 3 + 2]? = some (.int .i64 x.c) := by
  induction l with
  | nil => intro k x h; simp at h
  | cons y r ih =>
    intro k x h
    have e : conC (y :: r) = .int .i64 y.i :: .int .i64 y.j :: .int .i64 y.c :: conC r := rfl
    cases k with
    | zero => simp at h; subst h; rw [e]; simp
    | succ k =>
      have h' : r[k]? = some x := by simpa using h
      obtain ⟨h0, h1, h2⟩ := ih k x h'
      rw [e, show (k + 1) * 3 = k * 3 + 3 by omega]
      exact ⟨by simpa using h0, by simpa using h1, by simpa using h2⟩
def OwC (B : Nat) (w : World) (v : Value) (l : List C3) : Prop := w.ownsRow B 63 3 v l.length (conC l)
theorem OwC.nil (B : Nat) (w : World) : OwC B w (.slice none 0 0) [] := ⟨rfl, Or.inl ⟨rfl, rfl⟩⟩
theorem OwC.mono {B B' : Nat} {w : World} {v : Value} {l : List C3} (h : OwC B w v l) (hB : B' ≤ B) : OwC B' w v l := by
  obtain ⟨h1, h2⟩ := h
  refine ⟨h1, h2.imp id ?_⟩
  rintro ⟨g, cap, cur, h3, h4, h5⟩
  exact ⟨g, cap, cur, h3, by omega, h5⟩
theorem OwC.of_block {B : Nat} {w w' : World} {v : Value} {l : List C3} (h : OwC B w v l) (hb : ∀ g C, Blk w g 63 C → w'.heap[g]? = w.heap[g]?) : OwC B w' v l := by
  obtain ⟨h1, h2⟩ := h
  refine ⟨h1, h2.imp id ?_⟩
  rintro ⟨g, cap, cur, h3, h4, h5, h6⟩
  exact ⟨g, cap, cur, h3, h4, (hb g cur h5).trans h5, h6⟩
theorem OwC.ex {B p : Nat} {w w' : World} {v : Value} {l : List C3} {T : TypeId} {C : Array Value} (h : OwC B w v l) (hx : Ex p w w') (hp : Blk w p T C) (hT : 63 ≠ T) : OwC B w' v l :=
  h.of_block fun g _ hg => hx.block g hg.lt (blk_ne hg hp hT)
theorem OwC.below {B : Nat} {w w' : World} {v : Value} {l : List C3} (h : OwC B w v l) (b : Below w.heap.size w w') : OwC B w' v l :=
  h.of_block fun g _ hg => b.block g hg.lt
theorem OwC.set {B b i : Nat} {w : World} {v x : Value} {l : List C3} {T : TypeId} {C : Array Value} (h : OwC B w v l) (hb : Blk w b T C) (hT : 63 ≠ T) : OwC B (w.setCell ⟨b, i, none⟩ x) v l :=
  h.of_block fun g _ hg => Below.heap_setCell w ⟨b, i, none⟩ x g (blk_ne hg hb hT)
theorem OwC.cells {B : Nat} {w : World} {v : Value} {l : List C3} (h : OwC B w v l) : ∃ a0 cap, v = .slice a0 l.length cap ∧ l.length ≤ cap ∧ (l ≠ [] → ∃ g, a0 = some ⟨g, 0, none⟩ ∧ B ≤ g ∧ g < w.heap.size ∧ (∃ C, Blk w g 63 C)) ∧
    ∀ k x, l[k]? = some x → ∃ g, a0 = some ⟨g, 0, none⟩ ∧ g < w.heap.size ∧ w.cell? ⟨g, k * 3, none⟩ = some (.int .i64 x.i) ∧ w.cell? ⟨g, k * 3 + 1, none⟩ = some (.int .i64 x.j) ∧ w.cell? ⟨g, k * 3 + 2, none⟩ = some (.int .i64 x.c) := by
  obtain ⟨h1, h2⟩ := h
  rcases h2 with ⟨rfl, h0⟩ | ⟨g, cap, cur, rfl, hg, hb, hle, hcap, hsz, htk⟩
  · have := List.eq_nil_of_length_eq_zero h0
    subst this
    exact ⟨none, 0, rfl, by simp, fun h => absurd rfl h, fun k x hx => by simp at hx⟩
  · have hb' : Blk w g 63 cur := hb
    refine ⟨some ⟨g, 0, none⟩, cap, rfl, hle, fun _ => ⟨g, rfl, hg, hb'.lt, cur, hb'⟩, fun k x hx => ⟨g, rfl, hb'.lt, ?_⟩⟩
    have hk : k < l.length := (List.getElem?_eq_some_iff.1 hx).1
    obtain ⟨h0, h1, h2⟩ := conC_get l k x hx
    rw [← htk] at h0 h1 h2
    rw [List.getElem?_take, if_pos (by omega), Array.getElem?_toList] at h0 h1 h2
    exact ⟨(hb'.cell _).trans h0, (hb'.cell _).trans h1, (hb'.cell _).trans h2⟩
theorem OwC.sl {B B' : Nat} {w : World} {v : Value} {l : List C3} (h : OwC B w v l) (hB : w.heap.size ≤ B') : SlC B' w v l := by
  obtain ⟨a0, cap, rfl, _, _, hc⟩ := h.cells
  refine ⟨a0, cap, rfl, fun k x hx => ?_⟩
  obtain ⟨g, h1, h2, h3, h4, h5⟩ := hc k x hx
  exact ⟨g, 0, h1, by omega, by rw [Nat.zero_add]; exact h3, by rw [Nat.zero_add]; exact h4, by rw [Nat.zero_add]; exact h5⟩
theorem OwC.last {B p : Nat} {w : World} {v : Value} {l : List C3} {T : TypeId} {C : Array Value} (h : OwC B w v l) (hp : Blk w p T C) (hT : 63 ≠ T) : LastC p w v l.length l.getLast? := by
  obtain ⟨a0, cap, rfl, _, hn, hc⟩ := h.cells
  by_cases hl : l = []
  · subst hl; exact Or.inl ⟨rfl, rfl⟩
  · right
    have hpos : 0 < l.length := List.length_pos_iff.2 hl
    obtain ⟨g, rfl, _, hgl, C', hg⟩ := hn hl
    have hx : l[l.length - 1]? = some (l[l.length - 1]'(by omega)) := List.getElem?_eq_getElem _
    obtain ⟨g', e, _, h3, h4, h5⟩ := hc _ _ hx
    simp only [Option.some.injEq, Addr.mk.injEq, and_true] at e
    subst e
    refine ⟨l[l.length - 1]'(by omega), l.length - 1, g, 0, cap, ?_, by omega, rfl, blk_ne hg hp hT, hgl, by rw [Nat.zero_add]; exact h3, by rw [Nat.zero_add]; exact h4, by rw [Nat.zero_add]; exact h5⟩
    rw [List.getLast?_eq_getElem?]
    exact hx
theorem bx_at (a : Value) (f : Nat → Tg) (b : Value) (i : Nat) : (bx a f b)[i]? = if i = 0 then some a else if i < 127 then some (.int .i64 (tcomp (f ((i - 1) / 3)) ((i - 1) % 3))) else if i = 127 then some b else none := by
  by_cases h0 : i = 0
  · subst h0; rw [bx_zero]; rfl
  · rw [if_neg h0]
    by_cases h1 : i < 127
    · rw [if_pos h1]
      have := bx_succ a f b (i := i - 1) (by omega)
      rw [show 1 + (i - 1) = i by omega] at this
      rw [this, gc_at f (by omega)]
    · rw [if_neg h1]
      by_cases h2 : i = 127
      · subst h2; rw [bx_last]; rfl
      · rw [if_neg h2, Array.getElem?_eq_none (by rw [bx_size]; omega)]
theorem bx_put (a : Value) (f : Nat → Tg) (b : Value) {k : Nat} (hk : k < 42) (t : Tg) {o : Nat} (ho : o = 1 + k * 3) :
    (((bx a f b).setIfInBounds o (.int .i64 t.k)).setIfInBounds (o + 1) (.int .i64 t.t)).setIfInBounds (o + 2) (.int .i64 t.m) = bx a (putT f k t) b := by
  subst ho
  apply Array.ext_getElem?
  intro i
  simp only [Array.getElem?_setIfInBounds, Array.size_setIfInBounds, bx_size, bx_at, putT]
  by_cases h0 : i = 0
  · subst h0
    rw [if_neg (by omega), if_neg (by omega), if_neg (by omega)]
    simp
  · by_cases h127 : i < 127
    · simp only [h0, h127, if_true, if_false]
      by_cases h1 : 1 + k * 3 + 2 = i
      · rw [if_pos h1, if_pos (by omega), if_pos (by omega), show (i - 1) % 3 = 2 by omega]; rfl
      · rw [if_neg h1]
        by_cases h2 : 1 + k * 3 + 1 = i
        · rw [if_pos h2, if_pos (by omega), if_pos (by omega), show (i - 1) % 3 = 1 by omega]; rfl
        · rw [if_neg h2]
          by_cases h3 : 1 + k * 3 = i
          · rw [if_pos h3, if_pos (by omega), if_pos (by omega), show (i - 1) % 3 = 0 by omega]; rfl
          · rw [if_neg h3, if_neg (by omega)]
    · rw [if_neg (by omega), if_neg (by omega), if_neg (by omega)]
      simp [h0, h127]
section
variable {α β γ : Type}
theorem pBind_assoc (p : Ps α) (q : α → Ps β) (r : β → Ps γ) : pBind (pBind p q) r = pBind p fun x => pBind (q x) r := by
  funext b a
  unfold pBind
  cases p b a <;> rfl
theorem pBind_at {p : Ps α} {q : α → Ps β} {b : List Nat} {a m : Nat} {x : α} (h : p b a = .ok (x, m)) : pBind p q b a = q x b m := by unfold pBind; rw [h]
theorem pBind_no {p : Ps α} {q : α → Ps β} {b : List Nat} {a : Nat} {e : Nat × Int} (h : p b a = .error e) : pBind p q b a = .error e := by unfold pBind; rw [h]
end
def pClB (f : Nat → Tg) : Ps Cl := pBind (pMost 3540 112) fun n => pMap (fun l => ⟨false, f, l⟩) (pCons n [])
def pClS (f : Nat → Tg) : Ps Cl := pBind (pMost 32 112) fun n => pBind (pSlots n (-1) f) pClB
theorem pClaim_eq : pClaim = pBind (pBnd 1 110) fun live => if live = 0 then pPure ⟨true, f0, []⟩ else pBind (pRegs 10 0 f0) pClS := rfl
theorem pRegs_succ (n i : Nat) (f : Nat → Tg) (G : (Nat → Tg) → Ps Cl) : pBind (pRegs (n + 1) i f) G = pBind (pTag false) fun t => pBind (pRegs n (i + 1) (putT f i t)) G := pBind_assoc _ _ _
theorem pSlots_succ (n : Nat) (l : Int) (f : Nat → Tg) (G : (Nat → Tg) → Ps Cl) :
    pBind (pSlots (n + 1) l f) G = pBind (pChk (fun i : Nat => decide (l < (i : Int))) 111 (pBnd 31 90)) fun i => pBind (pTag true) fun t => pBind (pSlots n i (putT f (10 + i) t)) G := by
  show pBind (pBind _ _) _ = _
  rw [pBind_assoc]
  congr 1
  funext i
  exact pBind_assoc _ _ _
theorem pMap_bind {α β γ : Type} (f : β → γ) (p : Ps α) (q : α → Ps β) : pMap f (pBind p q) = pBind p fun x => pMap f (q x) := by
  funext b a
  unfold pMap pBind
  cases p b a <;> rfl
theorem pCons_succ (n : Nat) (l : List C3) (g : List C3 → Cl) : pMap g (pCons (n + 1) l) = pBind (pCon l.getLast?) fun x => pMap g (pCons n (l ++ [x])) := pMap_bind _ _ _
def isCl (B : Nat) (x : Cl) (v : Value) (w : World) : Prop := ∃ vc, v = .agg (bx (.bool x.d) x.f vc) ∧ OwC B w vc x.l
end Go.Proofs.Ytfdjdpbiccclfaa
namespace Go.Wr
open Go
section
variable {P : Program} {ops : Array Oper} {Q : Exit → Act → World → Prop} {md : Region.Mode} {S : World → Prop} {last : Nat}
def wpAnyL (P : Program) (md : Region.Mode) (ops : Array Oper) (Q : Exit → Act → World → Prop) (S : World → Prop) (last : Nat) : Nat → Array Bool → Act → World → Prop
  | 0, listed, a, w => Region.ready md ops listed = [] ∧ Q .normal a w
  | fuel + 1, listed, a, w =>
    (Region.ready md ops listed = [] → Q .normal a w) ∧
    ∀ i ∈ Region.ready md ops listed, wpOp P ops Q i (fun a' w' => (i ≠ last → S w') ∧ wpAnyL P md ops Q S last fuel (listed.setIfInBounds i true) a' w') a w
theorem wpAny_of_last : ∀ (fuel : Nat) (listed : Array Bool) (a : Act) (w : World), wpAnyL P md ops Q S last fuel listed a w → wpAny P md ops Q fuel listed a w
  | 0, _, _, _, h => h
  | fuel + 1, _, _, _, h => ⟨h.1, fun i hi => wpOp_mono (fun a' w' h' => wpAny_of_last fuel _ a' w' h'.2) (h.2 i hi)⟩
theorem wpAnyL_first {i : Nat} {oi : Oper} {v : Value} (hi : ops[i]? = some oi) (hsel : ∀ (j : Nat) (o : Oper) cs b, ops[j]? = some o → o.op ≠ .select cs b)
    (hQ : ∀ c a w, Q (.panic c) (a.put oi.dst v) w → Q (.panic c) a w) {ol : Oper} (hl : ops[last]? = some ol) (hw : ∃ e ∈ ol.after, Region.binds md e = true ∧ e.on = i) :
    ∀ (fuel : Nat) (listed : Array Bool) (a : Act) (w : World),
      (∀ j oj, ops[j]? = some oj → j ≠ i → listed.getD j true = false → (∀ e ∈ oj.after, Region.binds md e = true → e.on ≠ i) → oi.apart ops oj = true) →
      i ∈ Region.ready md ops listed → YieldsIf P ops S oi v a → S w →
      wpAnyL P md ops Q S last fuel (listed.setIfInBounds i true) (a.put oi.dst v) w → wpAnyL P md ops Q S last (fuel + 1) listed a w := by
  intro fuel
  induction fuel with
  | zero =>
    intro listed a w _ hr hy hS H
    refine ⟨fun h => (by rw [h] at hr; cases hr), fun j hj => ?_⟩
    by_cases hji : j = i
    · subst hji; exact hy.wpOp hi hS ⟨fun _ => hS, H⟩
    · have := ready_mono hj hji
      rw [H.1] at this
      cases this
  | succ fuel ih =>
    intro listed a w hfree hr hy hS H
    refine ⟨fun h => (by rw [h] at hr; cases hr), fun j hj => ?_⟩
    by_cases hji : j = i
    · subst hji; exact hy.wpOp hi hS ⟨fun _ => hS, H⟩
    · have h1 := H.2 j (ready_mono hj hji)
      obtain ⟨hjun, oj, hoj, hall⟩ := mem_ready.1 hj
      have hnot : ∀ e ∈ oj.after, Region.binds md e = true → e.on ≠ i := fun e he hb heq => by
        have h1 := hall e he hb
        have h0 := (mem_ready.1 hr).1
        rw [heq] at h1
        rcases Nat.lt_or_ge i listed.size with h' | h'
        · simp [h'] at h0 h1; rw [h0] at h1; cases h1
        · simp [Array.getElem?_eq_none h'] at h1
      have hjl : j ≠ last := fun e => by
        subst e
        rw [hl] at hoj
        injection hoj with hoj
        subst hoj
        obtain ⟨e, he, hb, heq⟩ := hw
        exact hnot e he hb heq
      have h2 := wpOp_putIf hoj (hfree j oj hoj hji hjun hnot) (fun cs b => hsel i oi cs b hi) (fun cs b => hsel j oj cs b hoj) hQ hy h1
      have hfree' : ∀ k ok, ops[k]? = some ok → k ≠ i → (listed.setIfInBounds j true).getD k true = false →
          (∀ e ∈ ok.after, Region.binds md e = true → e.on ≠ i) → oi.apart ops ok = true := fun k ok hk hki hun hno => by
        refine hfree k ok hk hki ?_ hno
        by_cases hjk : j = k
        · subst hjk; exact hjun
        · rw [getD_set_ne true hjk] at hun; exact hun
      refine wpOp_mono (fun a' w' h3 => ⟨h3.2.1, ih (listed.setIfInBounds j true) a' w' hfree' (ready_mono hr (Ne.symm hji)) h3.1 (h3.2.1 hjl) ?_⟩) h2
      rw [Array.setIfInBounds_comm _ _ hji]
      exact h3.2.2
theorem wpAnyL_take {i : Nat} {oi : Oper} {v : Value} {fuel : Nat} {listed : Array Bool} {a : Act} {w : World} (hi : ops[i]? = some oi)
    (hs : Region.noSelect ops = true) (hf : Region.free md ops listed i = true) (hr : (Region.ready md ops listed).contains i = true)
    (hQ : ∀ c a w, Q (.panic c) (a.put oi.dst v) w → Q (.panic c) a w) {ol : Oper} (hl : ops[last]? = some ol) (hw : (ol.after.any fun e => Region.binds md e && e.on == i) = true) (hy : YieldsIf P ops S oi v a) (hS : S w)
    (h : wpAnyL P md ops Q S last fuel (listed.setIfInBounds i true) (a.put oi.dst v) w) : wpAnyL P md ops Q S last (fuel + 1) listed a w :=
  wpAnyL_first hi (Region.noSelect_spec hs) hQ hl (by
    obtain ⟨e, he, hb⟩ := Array.any_eq_true'.1 hw
    simp only [Bool.and_eq_true, beq_iff_eq] at hb
    exact ⟨e, he, hb.1, hb.2⟩) fuel listed a w (Region.free_spec hi hf) (by simpa using hr) hy hS h
theorem wpAnyL_one {i : Nat} {o : Oper} {fuel : Nat} {listed : Array Bool} {a : Act} {w : World} (hr : Region.ready md ops listed = [i]) (ho : ops[i]? = some o)
    (h : ∀ K' : Act → World → Prop, Shut (∀ a w, (i ≠ last → S w) → wpAnyL P md ops Q S last fuel (listed.setIfInBounds i true) a w → K' a w) → if Region.wanted o (yielded ops a.tmps) = true then Oper.wp P o a w K' Q else K' (a.put o.dst undef) w) :
    wpAnyL P md ops Q S last (fuel + 1) listed a w :=
  ⟨fun h0 => (by rw [h0] at hr; cases hr), fun j hj => by
    rw [hr] at hj
    rcases List.mem_singleton.1 hj with rfl
    exact wpOp_step ho (fun K' hK => h K' (fun a w hS hW => hK a w ⟨hS, hW⟩))⟩
theorem wpAnyL_done {listed : Array Bool} {a : Act} {w : World} (hr : Region.ready md ops listed = []) (h : Q .normal a w) : ∀ fuel, wpAnyL P md ops Q S last fuel listed a w
  | 0 => ⟨hr, h⟩
  | _ + 1 => ⟨fun _ => h, by rw [hr]; simp⟩
theorem wp_region_last {id : Nat} {a : Act} {w : World} (last : Nat) (S : World → Prop) (hm : P.follows .mixedOrders = true)
    (h : wpAnyL P .any ops Q S last ops.size (Array.replicate ops.size false) a w.drew) : (Code.region id ops true).wp P Q a w :=
  wp_region_any hm (wpAny_of_last _ _ _ _ h)
end
end Go.Wr
namespace Go.Proofs.Ytfdjdpbiccclfaa
open Go Go.RowKit Go.Wr
set_option maxHeartbeats 4000000
set_option maxRecDepth 100000
theorem infoC3 : (Try.prog.info? 63).map (fun i => (i.zero, i.size, i.bytes)) = some (some (.agg #[.int .i64 0, .int .i64 0, .int .i64 0]), 3, 24) := by kernel_rfl
theorem builtC (parts : List (Nat × Value)) : Try.prog.built 61 parts = Instr.fill (#[(0, 1), (1, 30), (31, 96), (127, 1)][·]?) (bx (.bool false) f0 (.slice none 0 0)) parts := by kernel_rfl
theorem spl_zero (a a' b : Value) (f : Nat → Tg) : spl (bx a f b) 0 #[a'] = bx a' f b := by
  unfold spl bx
  simp
theorem builtDead : Try.prog.built 61 [(0, .bool true)] = some (bx (.bool true) f0 (.slice none 0 0)) := by
  rw [builtC, fill_bool _ _ _ _ _ 0 rfl (by rw [bx_size]; omega), spl_zero]
  rfl
theorem bx_dead : (bx (.bool false) f0 (.slice none 0 0)).setIfInBounds 0 (.bool true) = bx (.bool true) f0 (.slice none 0 0) := by simp [bx]
theorem Ex.only {p g : Nat} {w w' w'' : World} (h : Ex p w w') (ho : Only g w' w'') (hg : w.heap.size ≤ g) : Ex p w w'' := by
  have hb := ho.below hg
  exact ⟨hb.os.trans h.os, hb.tape.trans h.tape, hb.output.trans h.output, Nat.le_trans h.size hb.size, fun k hk h1 => (hb.block k hk).trans (h.block k hk h1)⟩
theorem Rdr.only {B p a g : Nat} {b : List Nat} {w w' : World} {vb : Value} (h : Rdr B p b a w vb) (ho : Only g w w') (hg : g ≠ p) (hB : B ≤ g) : Rdr B p b a w' vb :=
  ⟨ho.blk h.blk (Ne.symm hg), h.by'.below (ho.below hB), h.hp, h.at', h.len⟩
structure CS (B p q : Nat) (b : List Nat) (vb : Value) (w : World) (m : Nat) (f : Nat → Tg) (vc : Value) (l : List C3) (wr : World) : Prop where
  rd : Rdr B p b m wr vb
  ex : Ex p w wr
  zb : Blk wr w.heap.size 61 (bx (.bool false) f0 (.slice none 0 0))
  qb : Blk wr q 61 (bx (.bool false) f vc)
  ow : OwC w.heap.size wr vc l
theorem CS.next {B p q : Nat} {b : List Nat} {vb : Value} {w : World} {m m' : Nat} {f : Nat → Tg} {vc : Value} {l : List C3} {wr w' : World} (h : CS B p q b vb w m f vc l wr) (hx : Ex p wr w') (hd : Rdr B p b m' w' vb) (h1 : w.heap.size ≠ p) (h2 : q ≠ p) : CS B p q b vb w m' f vc l w' :=
  ⟨hd, h.ex.trans hx, hx.blk h.zb h1, hx.blk h.qb h2, h.ow.ex hx h.rd.blk (by decide)⟩
theorem CS.tag {B p q : Nat} {b : List Nat} {vb : Value} {w : World} {m : Nat} {f : Nat → Tg} {vc : Value} {l : List C3} {wr : World} (h : CS B p q b vb w m f vc l wr) (h1 : w.heap.size < q) (h2 : q ≠ p) (h3 : B ≤ q) {k : Nat} (hk : k < 42) (t : Tg) {o : Nat} (ho : o = 1 + k * 3) :
    CS B p q b vb w m (putT f k t) vc l (((wr.setCell ⟨q, o, none⟩ (.int .i64 t.k)).setCell ⟨q, o + 1, none⟩ (.int .i64 t.t)).setCell ⟨q, o + 2, none⟩ (.int .i64 t.m)) :=
  ⟨((h.rd.set_other _ h2 h3).set_other _ h2 h3).set_other _ h2 h3, ((h.ex.set_new _ (by omega)).set_new _ (by omega)).set_new _ (by omega),
    ((h.zb.set_other q _ _ (by omega)).set_other q _ _ (by omega)).set_other q _ _ (by omega), (((h.qb.set o _).set (o + 1) _).set (o + 2) _).eq (bx_put _ _ _ hk t ho),
    ((h.ow.set h.qb (by decide)).set (h.qb.set o _) (by decide)).set ((h.qb.set o _).set (o + 1) _) (by decide)⟩
theorem bx_setlast (a : Value) (f : Nat → Tg) (b c : Value) : (bx a f b).setIfInBounds 127 c = bx a f c := by
  apply Array.ext_getElem?
  intro i
  simp only [Array.getElem?_setIfInBounds, bx_size, bx_at]
  by_cases h : 127 = i
  · subst h; simp
  · rw [if_neg h]
    have : ¬ i = 127 := fun e => h e.symm
    simp [this]
theorem OwC.ne {B b : Nat} {w : World} {v : Value} {l : List C3} {T : TypeId} {C : Array Value} (h : OwC B w v l) (hb : Blk w b T C) (hT : 63 ≠ T) : v.ownBlock ≠ some b := by
  rcases h.2 with ⟨rfl, _⟩ | ⟨g, cap, cur, rfl, _, hg, _⟩
  · intro e; cases e
  · intro e
    injection e with e
    exact blk_ne (T := 63) (C := cur) hg hb hT e
theorem Ex.below_trans {p : Nat} {w w' w'' : World} (h : Ex p w w') (hb : Below w.heap.size w' w'') : Ex p w w'' :=
  ⟨hb.os.trans h.os, hb.tape.trans h.tape, hb.output.trans h.output, Nat.le_trans h.size hb.size, fun k hk h1 => (hb.block k hk).trans (h.block k hk h1)⟩
theorem CS.drew {B p q : Nat} {b : List Nat} {vb : Value} {w : World} {m : Nat} {f : Nat → Tg} {vc : Value} {l : List C3} {wr : World} (h : CS B p q b vb w m f vc l wr) : CS B p q b vb w m f vc l wr.drew :=
  ⟨h.rd.drew, h.ex.drew, h.zb, h.qb, h.ow⟩
theorem CS.grow {B p q : Nat} {b : List Nat} {vb : Value} {w : World} {m : Nat} {f : Nat → Tg} {vc : Value} {l : List C3} {wr w3 : World} (h : CS B p q b vb w m f vc l wr) (hpw : p < w.heap.size) (hBp : B ≤ p) (hzq : w.heap.size < q) (x : C3) {o : Obj} {v' : Value}
    (hown : w3.ownsRow w.heap.size 63 3 v' (l.length + 1) (conC l ++ [.int .i64 x.i, .int .i64 x.j, .int .i64 x.c])) (hg : (wr.alloc o).grownBy w3 vc.ownBlock) :
    CS B p q b vb w m f v' (l ++ [x]) (w3.setCell ⟨q, 127, none⟩ v') := by
  have hs := h.ex.size
  have hb : Below w.heap.size wr w3 := ((bRefl wr).mono hs |>.alloc hs o).grown hg (by simp; omega) (fun g hg => (h.ow.lt g hg).1)
  have hZ : Blk w3 w.heap.size 61 (bx (.bool false) f0 (.slice none 0 0)) := (h.zb.alloc o).of_block (hg.block _ (h.zb.alloc o).lt (h.ow.ne h.zb (by decide)).symm)
  have hQ : Blk w3 q 61 (bx (.bool false) f vc) := (h.qb.alloc o).of_block (hg.block _ (h.qb.alloc o).lt (h.ow.ne h.qb (by decide)).symm)
  have hO : OwC w.heap.size w3 v' (l ++ [x]) := by
    unfold OwC
    rw [conC_app, List.length_append]
    exact hown
  have hR : Rdr B p b m w3 vb := ⟨h.rd.blk.of_block (hb.block p hpw), h.rd.by'.below ⟨hb.os, hb.tape, hb.output, hb.size, fun k hk => hb.block k (by omega)⟩, h.rd.hp, h.rd.at', h.rd.len⟩
  exact ⟨hR.set_other _ (by omega) (by omega), (h.ex.below_trans hb).set_new _ (by omega), hZ.set_other q _ _ (by omega), (hQ.set 127 v').eq (bx_setlast _ _ _ _), hO.set hQ (by decide)⟩
theorem RP.cases {α : Type} {B p : Nat} {b : List Nat} {vb : Value} {r : Except (Nat × Int) (α × Nat)} {out : α → Value → World → Prop} {w w' : World} {e : Ending} (h : RP B p b vb r out w e w') :
    (∃ y ye, r = .error (y, ye) ∧ e = .panicked [stopV y ye] ∧ Ex p w w') ∨ ∃ x a v, r = .ok (x, a) ∧ e = .returned v ∧ out x v w' ∧ Rdr B p b a w' vb ∧ Ex p w w' := by
  cases hr : r with
  | error y => exact Or.inl ⟨y.1, y.2, rfl, h.err hr⟩
  | ok y =>
    obtain ⟨v, h1, h2⟩ := h.ok hr
    exact Or.inr ⟨y.1, y.2, v, rfl, h1, h2⟩
theorem rcon_eq (w : World) (B p a : Nat) (b : List Nat) (vb : Value) (h : Rdr B p b a w vb) (va : Value) (k : Nat) (prev : Option C3) (hl : LastC p w va k prev) (hk : k ≤ 3600) {ki : Int} (hki : ki = (k : Int)) :
    Calls Try.prog 78 #[.pointer (some ⟨p, 0, none⟩), va, .int .i64 ki] w (RP B p b vb (pCon prev b a) isCon w) := hki ▸ rcon_ok w B p a b vb h va k prev hl hk
theorem rclaim_ok (w : World) (B p a : Nat) (b : List Nat) (vb : Value) (h : Rdr B p b a w vb) :
    Calls Try.prog 57 #[.pointer (some ⟨p, 0, none⟩)] w (RP B p b vb (pClaim b a) (isCl w.heap.size) w) := by
  have H := Lib.hid h
  have hpl := h.lt
  have hBp := h.hp
  obtain ⟨R, hR⟩ : ∃ R, R = pClaim b a := ⟨_, rfl⟩
  rw [← hR]
  rw [pClaim_eq] at hR
  have HR := Lib.hid hR
  have hz := zeroClaim
  clear h hR
  go_enter Try.func57, Try.ntmps57
  go_upto_region 1 with (fail)
  generalize hW : w.alloc (.cells (bx (.bool false) f0 (.slice none 0 0)) 61) = W
  have xW : Ex p w W := by rw [← hW]; exact (Ex.refl p w).alloc _
  have qW : Rdr B p b a W vb := by rw [← hW]; exact H.out.below (bAl (bRefl w) _)
  have zW : Blk W w.heap.size 61 (bx (.bool false) f0 (.slice none 0 0)) := by rw [← hW]; exact Blk.new _ _ _
  have hWs := zW.lt
  have HX := Lib.hid xW
  have HZ := Lib.hid zW
  have HQ := Lib.hid qW
  clear hW xW qW zW H
  go_wp2_with fail
  (with_reducible refine (rbounded_eq _ B p a b vb HQ.out 1 110 (by omega)).mono ?_)
  rintro e w1 hr
  cases hb : pBnd 1 110 b a with
  | error y =>
    obtain ⟨y, ye⟩ := y
    obtain ⟨rfl, hx⟩ := hr.err hb
    have e1 : Hid (R = .error (y, ye)) := by show _ = _; rw [HR.out]; exact pBind_no hb
    clear hr hb
    go_wp2
    exact ⟨rfl, RP.mk_err e1.out (HX.out.trans hx)⟩
  | ok v =>
    obtain ⟨live, m⟩ := v
    obtain ⟨v, rfl, rfl, hd, hx⟩ := hr.ok hb
    have HR2 : Hid (R = (if live = 0 then pPure ⟨true, f0, []⟩ else pBind (pRegs 10 0 f0) pClS) b m) := by show _ = _; rw [HR.out]; exact pBind_at hb
    have HX1 := Lib.hid (HX.out.trans hx)
    have HZ1 := Lib.hid (hx.blk HZ.out (by omega))
    have HD1 := Lib.hid hd
    have hs1 := hx.size
    clear hr hb hd hx HX HZ HQ HR
    by_cases hl : live = 0
    · subst hl
      have e1 : Hid (R = .ok (⟨true, f0, []⟩, m)) := HR2.out
      clear HR2
      go_wp2_with (first
        | (refine wpl_build rfl 61 _ rfl builtDead ?_)
        | (refine wpl_store rfl 61 (.tmp 2) (.tmp 12) rfl w.heap.size 0 rfl rfl HZ1.out rowClaim (bx_size _ _ _) (of_decide_eq_true (by kernel_rfl)) (bx_one _ rfl rfl) ?_; intro wn hO hN))
      rw [bx_dead, spl_all _ _ (by rw [bx_size, bx_size])] at hN
      refine ret_cell rfl rfl hN (by rw [bx_size]; exact rowClaim) rfl ?_
      exact RP.mk_ok e1.out ⟨_, rfl, OwC.nil _ _⟩ (HD1.out.only hO (by omega) (by omega)) (HX1.out.only hO (Nat.le_refl _))
    · have hl' : ¬ (live : Int) = 0 := by omega
      have hl2 : ((live : Int) == 0) = false := by rw [beq_eq_false_iff_ne]; omega
      have HR3 : Hid (R = pBind (pRegs 10 0 f0) pClS b m) := by show _ = _; rw [HR2.out, if_neg hl]
      clear HR2 hl
      go_upto_region 4 with (fail)
      generalize hV : w1.alloc (.cells (bx (.bool false) f0 (.slice none 0 0)) 61) = V
      obtain ⟨q, hq⟩ : ∃ q, q = w1.heap.size := ⟨_, rfl⟩
      rw [← hq]
      have cs0 : CS B p q b vb w m f0 (.slice none 0 0) [] V := by
        rw [← hV]
        exact ⟨HD1.out.below (bAl (bRefl w1) _), HX1.out.alloc _, HZ1.out.alloc _, Blk.new_at _ _ hq, OwC.nil _ _⟩
      have hzp : w.heap.size ≠ p := by omega
      have hzq : w.heap.size < q := by omega
      have hqp : q ≠ p := by omega
      have hqB : B ≤ q := by omega
      have HC0 := Lib.hid cs0
      clear hV hq HD1 HX1 HZ1 hs1 hWs cs0 hz
      go_wp2
      go_loopw [13] (fun t wr => ∃ (k : Nat) (f : Nat → Tg) (m : Nat), k ≤ 10 ∧ t = .int .i64 (k : Int) ∧ Hid (R = pBind (pRegs (10 - k) k f) pClS b m) ∧ Hid (CS B p q b vb w m f (.slice none 0 0) [] wr)) (fun t _ => 10 - (intOf t).toNat)
      case atStart => exact ⟨0, f0, m, by omega, rfl, HR3, HC0⟩
      case round =>
        clear HR3 HC0
        obtain ⟨k, f, m, hk, rfl, HE, HC⟩ := hrel
        by_cases hlt : k < 10
        · have hlt' : (k : Int) < 10 := by omega
          have HE2 : Hid (R = (pBind (pTag false) fun t => pBind (pRegs (9 - k) (k + 1) (putT f k t)) pClS) b m) := by
            show _ = _
            rw [HE.out, show 10 - k = (9 - k) + 1 by omega, pRegs_succ]
          clear HE
          go_wp2_with fail
          refine (rtag_ok wr B p m b vb HC.out.rd false).mono ?_
          rintro e w2 hr
          cases hb : pTag false b m with
          | error y =>
            obtain ⟨y, ye⟩ := y
            obtain ⟨rfl, hx⟩ := hr.err hb
            have e1 : Hid (R = .error (y, ye)) := by show _ = _; rw [HE2.out]; exact pBind_no hb
            clear hr hb
            go_wp2
            exact ⟨rfl, RP.mk_err e1.out (HC.out.ex.trans hx)⟩
          | ok v =>
            obtain ⟨t, m2⟩ := v
            obtain ⟨v, rfl, rfl, hd, hx⟩ := hr.ok hb
            have HE3 : Hid (R = pBind (pRegs (10 - (k + 1)) (k + 1) (putT f k t)) pClS b m2) := by show _ = _; rw [HE2.out, show 10 - (k + 1) = 9 - k by omega]; exact pBind_at hb
            have HC2 := Lib.hid (HC.out.next hx hd hzp hqp)
            obtain ⟨b0, b1, b2⟩ := bx_tag (.bool false) f (.slice none 0 0) (show k < 42 by omega)
            have c0 := (HC2.out.qb.cell (1 + k * 3)).trans b0
            have c1 := (HC2.out.qb.cell (1 + k * 3 + 1)).trans b1
            have c2 := (HC2.out.qb.cell (1 + k * 3 + 2)).trans b2
            have g0 := HC2.out.qb.frozen (1 + k * 3)
            have g1 := HC2.out.qb.frozen (1 + k * 3 + 1)
            have g2 := HC2.out.qb.frozen (1 + k * 3 + 2)
            clear hr hb hd hx HE2 HC b0 b1 b2
            unfold tgv
            go_wp2
            go_roundw
            all_goals first
              | exact ⟨k + 1, putT f k t, m2, by omega, by go_num, HE3, HC2.out.tag hzq hqp hqB (by omega) t (by omega)⟩
              | ((repeat apply Exists.intro); exact ⟨⟨k + 1, putT f k t, m2, by omega, by go_num, HE3, HC2.out.tag hzq hqp hqB (by omega) t (by omega)⟩, rfl⟩)
              | (simp [intOf]; omega)
        · obtain rfl : k = 10 := by omega
          have HE2 : Hid (R = pClS f b m) := by show _ = _; rw [HE.out]; rfl
          clear HE hlt hk
          unfold pClS at HE2
          go_wp2_with fail
          (with_reducible refine (rmost_eq wr B p m b vb HC.out.rd 32 112 (by omega)).mono ?_)
          rintro e w2 hr
          cases hb : pMost 32 112 b m with
          | error y =>
            obtain ⟨y, ye⟩ := y
            obtain ⟨rfl, hx⟩ := hr.err hb
            have e1 : Hid (R = .error (y, ye)) := by show _ = _; rw [HE2.out]; exact pBind_no hb
            clear hr hb
            go_wp2
            exact ⟨rfl, RP.mk_err e1.out (HC.out.ex.trans hx)⟩
          | ok v =>
            obtain ⟨n, m2⟩ := v
            obtain ⟨v, rfl, rfl, hd, hx⟩ := hr.ok hb
            have hn32 := (pChk_ok.1 hb).2
            simp only [decide_eq_true_eq] at hn32
            have HE3 : Hid (R = pBind (pSlots n (-1) f) pClB b m2) := by show _ = _; rw [HE2.out]; exact pBind_at hb
            have HC2 := Lib.hid (HC.out.next hx hd hzp hqp)
            clear hr hb hd hx HE2 HC
            go_wp2
            go_loopw [5, 24] (fun la t wr => ∃ (k : Nat) (last : Int) (f : Nat → Tg) (m : Nat), k ≤ n ∧ la = .int .i64 last ∧ t = .int .i64 (k : Int) ∧ Hid (R = pBind (pSlots (n - k) last f) pClB b m) ∧ Hid (CS B p q b vb w m f (.slice none 0 0) [] wr)) (fun _ t _ => n - (intOf t).toNat)
            case atStart => exact ⟨0, -1, f, m2, by omega, rfl, rfl, HE3, HC2⟩
            case round =>
              clear HE3 HC2
              obtain ⟨k, last, f, m, hk, rfl, rfl, HE, HC⟩ := hrel
              by_cases hlt : k < n
              · have hlt' : (k : Int) < (n : Int) := by omega
                have HE2 : Hid (R = (pBind (pChk (fun i : Nat => decide (last < (i : Int))) 111 (pBnd 31 90)) fun i => pBind (pTag true) fun t => pBind (pSlots (n - (k + 1)) i (putT f (10 + i) t)) pClB) b m) := by
                  show _ = _
                  rw [HE.out, show n - k = (n - (k + 1)) + 1 by omega, pSlots_succ]
                have c1 := HC.out.rd.blk.cell 1
                simp only [List.getElem?_toArray, List.getElem?_cons_zero, List.getElem?_cons_succ] at c1
                clear HE
                go_wp2_with fail
                (with_reducible refine (rbounded_eq wr B p m b vb HC.out.rd 31 90 (by omega)).mono ?_)
                rintro e w2 hr
                cases hb : pBnd 31 90 b m with
                | error y =>
                  obtain ⟨y, ye⟩ := y
                  obtain ⟨rfl, hx⟩ := hr.err hb
                  have e1 : Hid (R = .error (y, ye)) := by show _ = _; rw [HE2.out]; exact pBind_no (pChk_err.2 (Or.inl hb))
                  clear hr hb
                  go_wp2
                  exact ⟨rfl, RP.mk_err e1.out (HC.out.ex.trans hx)⟩
                | ok v =>
                  obtain ⟨i, m2⟩ := v
                  obtain ⟨v, rfl, rfl, hd, hx⟩ := hr.ok hb
                  have hi31 := (pChk_ok.1 hb).2
                  simp only [decide_eq_true_eq] at hi31
                  have HC2 := Lib.hid (HC.out.next hx hd hzp hqp)
                  have HB := Lib.hid hb
                  clear hr hb hd hx HC c1
                  by_cases hil : (i : Int) ≤ last
                  · have e1 : Hid (R = .error (m, 111)) := by
                      show _ = _
                      rw [HE2.out]
                      refine pBind_no (pChk_err.2 (Or.inr ⟨rfl, i, m2, HB.out, ?_⟩))
                      simp only [decide_eq_false_iff_not]
                      omega
                    clear HE2 HB
                    go_wp2_with fail
                    refine (giveup_ok _ _ m 111).mono ?_
                    rintro e w3 ⟨rfl, rfl⟩
                    go_wp2
                    exact ⟨rfl, RP.mk_err e1.out HC2.out.ex⟩
                  · have hil' : last < (i : Int) := by omega
                    have HE3 : Hid (R = (pBind (pTag true) fun t => pBind (pSlots (n - (k + 1)) i (putT f (10 + i) t)) pClB) b m2) := by
                      show _ = _
                      rw [HE2.out]
                      exact pBind_at (pChk_ok.2 ⟨HB.out, by simpa using hil'⟩)
                    have hi32 : (i : Int) < 32 := by omega
                    clear HE2 HB
                    go_wp2_with fail
                    refine (rtag_ok w2 B p m2 b vb HC2.out.rd true).mono ?_
                    rintro e w3 hr
                    cases hb : pTag true b m2 with
                    | error y =>
                      obtain ⟨y, ye⟩ := y
                      obtain ⟨rfl, hx⟩ := hr.err hb
                      have e1 : Hid (R = .error (y, ye)) := by show _ = _; rw [HE3.out]; exact pBind_no hb
                      clear hr hb
                      go_wp2
                      exact ⟨rfl, RP.mk_err e1.out (HC2.out.ex.trans hx)⟩
                    | ok v =>
                      obtain ⟨t, m3⟩ := v
                      obtain ⟨v, rfl, rfl, hd, hx⟩ := hr.ok hb
                      have HE4 : Hid (R = pBind (pSlots (n - (k + 1)) i (putT f (10 + i) t)) pClB b m3) := by show _ = _; rw [HE3.out]; exact pBind_at hb
                      have HC3 := Lib.hid (HC2.out.next hx hd hzp hqp)
                      obtain ⟨b0, b1, b2⟩ := bx_tag (.bool false) f (.slice none 0 0) (show 10 + i < 42 by omega)
                      have ei : 1 + (10 + i) * 3 = 31 + i * 3 := by omega
                      rw [ei] at b0 b1 b2
                      have c0 := (HC3.out.qb.cell (31 + i * 3)).trans b0
                      have c1 := (HC3.out.qb.cell (31 + i * 3 + 1)).trans b1
                      have c2 := (HC3.out.qb.cell (31 + i * 3 + 2)).trans b2
                      have g0 := HC3.out.qb.frozen (31 + i * 3)
                      have g1 := HC3.out.qb.frozen (31 + i * 3 + 1)
                      have g2 := HC3.out.qb.frozen (31 + i * 3 + 2)
                      clear hr hb hd hx HE3 HC2 b0 b1 b2 ei
                      unfold tgv
                      go_wp2
                      go_roundw
                      all_goals first
                        | exact ⟨k + 1, i, putT f (10 + i) t, m3, by omega, rfl, by go_num, HE4, HC3.out.tag hzq hqp hqB (by omega) t (by omega)⟩
                        | ((repeat apply Exists.intro); exact ⟨⟨k + 1, i, putT f (10 + i) t, m3, by omega, rfl, by go_num, HE4, HC3.out.tag hzq hqp hqB (by omega) t (by omega)⟩, rfl⟩)
                        | (simp [intOf]; omega)
              · obtain rfl : k = n := by omega
                have HE2 : Hid (R = pClB f b m) := by show _ = _; rw [HE.out, Nat.sub_self]; rfl
                clear HE hlt hk
                unfold pClB at HE2
                go_wp2_with fail
                (with_reducible refine (rmost_eq wr B p m b vb HC.out.rd 3540 112 (by omega)).mono ?_)
                rintro e w2 hr
                cases hb : pMost 3540 112 b m with
                | error y =>
                  obtain ⟨y, ye⟩ := y
                  obtain ⟨rfl, hx⟩ := hr.err hb
                  have e1 : Hid (R = .error (y, ye)) := by show _ = _; rw [HE2.out]; exact pBind_no hb
                  clear hr hb
                  go_wp2
                  exact ⟨rfl, RP.mk_err e1.out (HC.out.ex.trans hx)⟩
                | ok v =>
                  obtain ⟨n, m2⟩ := v
                  obtain ⟨v, rfl, rfl, hd, hx⟩ := hr.ok hb
                  have hn := (pChk_ok.1 hb).2
                  simp only [decide_eq_true_eq] at hn
                  have HE3 : Hid (R = pMap (fun l => ⟨false, f, l⟩) (pCons n []) b m2) := by show _ = _; rw [HE2.out]; exact pBind_at hb
                  have HC2 := Lib.hid (HC.out.next hx hd hzp hqp)
                  clear hr hb hd hx HE2 HC hn32
                  go_wp2
                  go_loopw [47] (fun t wr => ∃ (k : Nat) (l : List C3) (vc : Value) (m : Nat), k ≤ n ∧ l.length = k ∧ t = .int .i64 (k : Int) ∧ Hid (R = pMap (fun l => ⟨false, f, l⟩) (pCons (n - k) l) b m) ∧ Hid (CS B p q b vb w m f vc l wr)) (fun t _ => n - (intOf t).toNat)
                  case atStart => exact ⟨0, [], _, m2, by omega, rfl, rfl, HE3, HC2⟩
                  case round =>
                    clear HE3 HC2
                    obtain ⟨k, l, vc, m, hk, hll, rfl, HE, HC⟩ := hrel
                    subst hll
                    by_cases hlt : l.length < n
                    · have hlt' : (l.length : Int) < (n : Int) := by omega
                      have HE2 : Hid (R = (pBind (pCon l.getLast?) fun x => pMap (fun l => ⟨false, f, l⟩) (pCons (n - (l.length + 1)) (l ++ [x]))) b m) := by
                        show _ = _
                        rw [HE.out, show n - l.length = (n - (l.length + 1)) + 1 by omega, pCons_succ]
                      clear HE
                      have cv : wr.drew.cell? ⟨q, 127, none⟩ = some vc := (HC.out.qb.cell 127).trans (bx_last _ _ _)
                      obtain ⟨i, hi, hz0, hz1, hz2⟩ := info_parts infoC3
                      have Hi := Lib.hid hi
                      have HCd := Lib.hid HC.out.drew
                      have HL0 := Lib.hid (HCd.out.ow.last HCd.out.rd.blk (by decide))
                      clear hi HC
                      go_upto_region 22 with (fail)
                      refine wp_region_last 10 (fun w' => w'.cell? ⟨q, 127, none⟩ = some vc) mix ?_
                      refine wpAnyL_take (i := 0) (v := .pointer (some ⟨q, 127, none⟩)) rfl (by kernel_rfl) (by kernel_rfl) (by kernel_rfl) (fun _ _ _ h => h) rfl (by kernel_rfl) (Or.inl ⟨by rfl, fun w' hw' => by go_simp⟩) cv ?_
                      simp only [Act.put, List.getElem_toArray, List.getElem_cons_zero, List.setIfInBounds_toArray, List.set_cons_zero, List.set_cons_succ]
                      refine wpAnyL_take (i := 1) (v := vc) rfl (by kernel_rfl) (by kernel_rfl) (by kernel_rfl) (fun _ _ _ h => h) rfl (by kernel_rfl) (Or.inl ⟨by rfl, fun w' hw' => by go_simp⟩) cv ?_
                      simp only [Act.put, List.getElem_toArray, List.getElem_cons_zero, List.getElem_cons_succ, List.setIfInBounds_toArray, List.set_cons_zero, List.set_cons_succ]
                      refine wpAnyL_take (i := 2) (v := .pointer (some ⟨p, 0, none⟩)) rfl (by kernel_rfl) (by kernel_rfl) (by kernel_rfl) (fun _ _ _ h => h) rfl (by kernel_rfl) (Or.inl ⟨by rfl, fun w' hw' => by go_simp⟩) cv ?_
                      simp only [Act.put, List.getElem_toArray, List.getElem_cons_zero, List.getElem_cons_succ, List.setIfInBounds_toArray, List.set_cons_zero, List.set_cons_succ]
                      refine wpAnyL_take (i := 3) (v := .pointer (some ⟨q, 127, none⟩)) rfl (by kernel_rfl) (by kernel_rfl) (by kernel_rfl) (fun _ _ _ h => h) rfl (by kernel_rfl) (Or.inl ⟨by rfl, fun w' hw' => by go_simp⟩) cv ?_
                      simp only [Act.put, List.getElem_toArray, List.getElem_cons_zero, List.getElem_cons_succ, List.setIfInBounds_toArray, List.set_cons_zero, List.set_cons_succ]
                      refine wpAnyL_take (i := 4) (v := vc) rfl (by kernel_rfl) (by kernel_rfl) (by kernel_rfl) (fun _ _ _ h => h) rfl (by kernel_rfl) (Or.inl ⟨by rfl, fun w' hw' => by go_simp⟩) cv ?_
                      simp only [Act.put, List.getElem_toArray, List.getElem_cons_zero, List.getElem_cons_succ, List.setIfInBounds_toArray, List.set_cons_zero, List.set_cons_succ]
                      refine wpAnyL_take (i := 5) (v := .int .i64 (l.length : Int)) rfl (by kernel_rfl) (by kernel_rfl) (by kernel_rfl) (fun _ _ _ h => h) rfl (by kernel_rfl) (Or.inl ⟨by rfl, fun w' hw' => by go_simp⟩) cv ?_
                      simp only [Act.put, List.getElem_toArray, List.getElem_cons_zero, List.getElem_cons_succ, List.setIfInBounds_toArray, List.set_cons_zero, List.set_cons_succ]
                      refine wpAnyL_one (i := 6) (by kernel_rfl) rfl (fun K hK => ?_)
                      go_simp
                      go_wp2_with fail
                      (with_reducible refine (rcon_eq _ B p m b vb HCd.out.rd vc l.length l.getLast? HL0.out (by omega) rfl).mono ?_)
                      rintro e w2 hr
                      rcases hr.cases with ⟨y, ye, hb, rfl, hx⟩ | ⟨x, m2, v, hb, rfl, hv, hd, hx⟩
                      · have e1 : Hid (R = .error (y, ye)) := by
                          show _ = _
                          rw [HE2.out]
                          exact pBind_no hb
                        clear hb hr
                        go_wp2
                        exact ⟨rfl, RP.mk_err e1.out (HCd.out.ex.trans hx)⟩
                      have HE3 : Hid (R = pMap (fun l => ⟨false, f, l⟩) (pCons (n - (l.length + 1)) (l ++ [x])) b m2) := by
                        show _ = _
                        rw [HE2.out]
                        exact pBind_at hb
                      have HC2 := Lib.hid (HCd.out.next hx hd hzp hqp)
                      have cv2 : w2.cell? ⟨q, 127, none⟩ = some vc := (HC2.out.qb.cell 127).trans (bx_last _ _ _)
                      have hql2 := HC2.out.qb.lt
                      have hsw2 := HC2.out.ex.size
                      clear hb hr hd hx
                      unfold isCon c3v at hv
                      subst hv
                      go_wp2_with fail
                      refine hK.out _ _ (fun _ => cv2) ?_
                      clear hK K
                      refine wpAnyL_one (i := 7) (by kernel_rfl) rfl (fun K hK => ?_)
                      go_simp
                      refine hK.out _ _ (fun _ => ((HC2.out.qb.alloc _).cell 127).trans (bx_last _ _ _)) ?_
                      clear hK K
                      refine wpAnyL_one (i := 8) (by kernel_rfl) rfl (fun K hK => ?_)
                      refine step_append_lies _ (by rfl) _ _ _ (by rfl) w.heap.size 63 i _ 3 24 Try.underlying59 Hi.out hz0 hz1 hz2 rfl (by omega) vc l.length (conC l) (by rfl) (HC2.out.ow.below (bAl (bRefl w2) _)) ⟨w2.heap.size, 0, none⟩ 1 1 [.int .i64 x.i, .int .i64 x.j, .int .i64 x.c] (by rfl) (by rfl)
                        (World.news_of_block (cs := #[.int .i64 x.i, .int .i64 x.j, .int .i64 x.c]) (t := 63) (fr := (0, 0)) (heap_alloc_new w2 _)) (by simp [Value.oneCell']) (by omega) (by unfold maxLen; omega) (by omega) (by simp; omega) (w2.heap.size + 1) (by simp) ?_
                      intro g cap' w3 hown hgrow hat hlt1
                      have hq3 := (HC2.out.qb.alloc (.cells #[.int .i64 x.i, .int .i64 x.j, .int .i64 x.c] 63)).of_block (hgrow.block q (HC2.out.qb.alloc _).lt (HC2.out.ow.ne HC2.out.qb (by decide)).symm)
                      have cv3 := (hq3.cell 127).trans (bx_last _ _ _)
                      have g3 := hq3.frozen 127
                      have HC3 := Lib.hid (HC2.out.grow hpl hBp hzq x hown hgrow)
                      clear hown hgrow hat
                      refine hK.out _ _ (fun _ => cv3) ?_
                      clear hK K
                      refine wpAnyL_take (i := 9) (v := .pointer (some ⟨q, 127, none⟩)) rfl (by kernel_rfl) (by kernel_rfl) (by kernel_rfl) (fun _ _ _ h => h) rfl (by kernel_rfl) (Or.inl ⟨by rfl, fun w' hw' => by go_simp⟩) cv3 ?_
                      simp only [Act.put, List.getElem_toArray, List.getElem_cons_zero, List.getElem_cons_succ, List.setIfInBounds_toArray, List.set_cons_zero, List.set_cons_succ]
                      refine wpAnyL_one (i := 10) (by kernel_rfl) rfl (fun K hK => ?_)
                      go_simp
                      refine hK.out _ _ (fun h => absurd rfl h) ?_
                      clear hK K
                      refine wpAnyL_done (by kernel_rfl) ?_ _
                      have hll : (l ++ [x]).length = l.length + 1 := by simp
                      clear cv
                      go_wp2
                      go_roundw
                      all_goals first
                        | exact ⟨l.length + 1, l ++ [x], _, m2, by omega, hll, by go_num, HE3, HC3⟩
                        | ((repeat apply Exists.intro); exact ⟨⟨l.length + 1, l ++ [x], _, m2, by omega, hll, by go_num, HE3, HC3⟩, rfl⟩)
                        | (simp [intOf]; omega)
                    · obtain rfl : l.length = n := by omega
                      have e1 : Hid (R = .ok (⟨false, f, l⟩, m)) := by show _ = _; rw [HE.out, Nat.sub_self]; rfl
                      clear HE hlt hk
                      have HZB := Lib.hid HC.out.zb
                      have HQB := Lib.hid HC.out.qb
                      have hv1 : vc.oneCell' = true := by obtain ⟨a0, cap, e, _⟩ := HC.out.ow.cells; rw [e]; rfl
                      go_wp2_with (first
                        | (refine wpl_load rfl 61 (.tmp 3) rfl q 0 rfl HQB.out rowClaim (by rw [bx_size]; omega) (bx_all _ _ _) ?_)
                        | (refine wpl_store rfl 61 (.tmp 2) (.tmp 61) rfl w.heap.size 0 rfl rfl HZB.out rowClaim (bx_size _ _ _) (of_decide_eq_true (by kernel_rfl)) (bx_one _ rfl hv1) ?_; intro wn hO hN))
                      rw [spl_all _ _ (by rw [bx_size, bx_size])] at hN
                      refine ret_cell rfl rfl hN (by rw [bx_size]; exact rowClaim) rfl ?_
                      refine RP.mk_ok e1.out ⟨_, rfl, ?_⟩ (HC.out.rd.only hO (by omega) (by omega)) (HC.out.ex.only hO (Nat.le_refl _))
                      exact HC.out.ow.of_block fun g _ hg => hO.block g (blk_ne hg HZB.out (by decide))
end Go.Proofs.Ytfdjdpbiccclfaa
namespace Go.Proofs.Ytfdjdpbiccclfaa
open Go Go.RowKit Go.Wr
set_option maxHeartbeats 1000000
theorem own_of_block {B : Nat} {e : TypeId} {size n : Nat} {w w' : World} {v : Value} {xs : List Value} (h : w.ownsRow B e size v n xs) (hb : ∀ g C, Blk w g e C → w'.heap[g]? = w.heap[g]?) : w'.ownsRow B e size v n xs := by
  obtain ⟨h1, h2⟩ := h
  refine ⟨h1, h2.imp id ?_⟩
  rintro ⟨g, cap, cur, h3, h4, h5, h6⟩
  exact ⟨g, cap, cur, h3, h4, (hb g cur h5).trans h5, h6⟩
theorem own_of_ne {B : Nat} {e : TypeId} {size n : Nat} {w w' : World} {v : Value} {xs : List Value} (h : w.ownsRow B e size v n xs) (hb : ∀ g, v.ownBlock = some g → w'.heap[g]? = w.heap[g]?) : w'.ownsRow B e size v n xs := by
  obtain ⟨h1, h2⟩ := h
  refine ⟨h1, h2.imp id ?_⟩
  rintro ⟨g, cap, cur, rfl, h4, h5, h6⟩
  exact ⟨g, cap, cur, rfl, h4, (hb g rfl).trans h5, h6⟩
theorem own_ne {B : Nat} {e : TypeId} {size n b : Nat} {w : World} {v : Value} {xs : List Value} {T : TypeId} {C : Array Value} (h : w.ownsRow B e size v n xs) (hb : Blk w b T C) (hT : e ≠ T) : v.ownBlock ≠ some b := by
  rcases h.2 with ⟨rfl, _⟩ | ⟨g, cap, cur, rfl, _, hg, _⟩
  · intro e; cases e
  · intro e'
    injection e' with e'
    exact blk_ne (T := e) (C := cur) hg hb hT e'
theorem own_mono {B B' : Nat} {e : TypeId} {size n : Nat} {w : World} {v : Value} {xs : List Value} (h : w.ownsRow B e size v n xs) (hB : B' ≤ B) : w.ownsRow B' e size v n xs := by
  obtain ⟨h1, h2⟩ := h
  refine ⟨h1, h2.imp id ?_⟩
  rintro ⟨g, cap, cur, h3, h4, h5⟩
  exact ⟨g, cap, cur, h3, by omega, h5⟩
def lpC (l : List Lp) : List Value := l.flatMap fun x => (lpv x).toList
theorem lpC_app (l : List Lp) (x : Lp) : lpC (l ++ [x]) = lpC l ++ [.int .i64 x.h, .int .i64 x.a, .int .i64 x.b, .int .i64 x.k, .int .i64 x.d] := by simp [lpC, lpv]
def clC (l : List (Cl × Value)) : List Value := l.flatMap fun x => (bx (.bool x.1.d) x.1.f x.2).toList
theorem clC_app (l : List (Cl × Value)) (x : Cl × Value) : clC (l ++ [x]) = clC l ++ (bx (.bool x.1.d) x.1.f x.2).toList := by simp [clC]
def OwL (B : Nat) (w : World) (v : Value) (l : List Lp) : Prop := w.ownsRow B 54 5 v l.length (lpC l)
def OwK (B : Nat) (w : World) (v : Value) (l : List (Cl × Value)) : Prop := w.ownsRow B 61 128 v l.length (clC l)
def Apart (l : List (Cl × Value)) : Prop := l.Pairwise fun x y => ∀ g, x.2.ownBlock = some g → y.2.ownBlock ≠ some g
structure OwD (B : Nat) (w : World) (vl vc : Value) (ls : List Lp) (cs : List (Cl × Value)) : Prop where
  lp : OwL B w vl ls
  cl : OwK B w vc cs
  co : ∀ x ∈ cs, OwC B w x.2 x.1.l
  dj : Apart cs
theorem OwD.nil (B : Nat) (w : World) : OwD B w (.slice none 0 0) (.slice none 0 0) [] [] :=
  ⟨⟨rfl, Or.inl ⟨rfl, rfl⟩⟩, ⟨rfl, Or.inl ⟨rfl, rfl⟩⟩, (fun _ h => by cases h), List.Pairwise.nil⟩
theorem OwD.of_block {B : Nat} {w w' : World} {vl vc : Value} {ls : List Lp} {cs : List (Cl × Value)} (h : OwD B w vl vc ls cs) (hb : ∀ g T C, (T = 54 ∨ T = 61 ∨ T = 63) → Blk w g T C → w'.heap[g]? = w.heap[g]?) : OwD B w' vl vc ls cs :=
  ⟨own_of_block h.lp fun g C => hb g _ C (Or.inl rfl), own_of_block h.cl fun g C => hb g _ C (Or.inr (Or.inl rfl)), fun x hx => (h.co x hx).of_block fun g C => hb g _ C (Or.inr (Or.inr rfl)), h.dj⟩
theorem OwD.ex {B p : Nat} {w w' : World} {vl vc : Value} {ls : List Lp} {cs : List (Cl × Value)} {C : Array Value} (h : OwD B w vl vc ls cs) (hx : Ex p w w') (hp : Blk w p 89 C) : OwD B w' vl vc ls cs :=
  h.of_block fun g T C' hT hg => hx.block g hg.lt (blk_ne hg hp (by rcases hT with rfl | rfl | rfl <;> decide))
theorem OwD.below {B : Nat} {w w' : World} {vl vc : Value} {ls : List Lp} {cs : List (Cl × Value)} (h : OwD B w vl vc ls cs) (b : Below w.heap.size w w') : OwD B w' vl vc ls cs :=
  h.of_block fun g _ _ _ hg => b.block g hg.lt
theorem OwD.set {B b i : Nat} {w : World} {vl vc x : Value} {ls : List Lp} {cs : List (Cl × Value)} {T : TypeId} {C : Array Value} (h : OwD B w vl vc ls cs) (hb : Blk w b T C) (h1 : 54 ≠ T) (h2 : 61 ≠ T) (h3 : 63 ≠ T) : OwD B (w.setCell ⟨b, i, none⟩ x) vl vc ls cs :=
  h.of_block fun g _ _ hT hg => Below.heap_setCell w ⟨b, i, none⟩ x g (blk_ne hg hb (by rcases hT with rfl | rfl | rfl <;> assumption))
theorem OwD.mono {B B' : Nat} {w : World} {vl vc : Value} {ls : List Lp} {cs : List (Cl × Value)} (h : OwD B w vl vc ls cs) (hB : B' ≤ B) : OwD B' w vl vc ls cs :=
  ⟨own_mono h.lp hB, own_mono h.cl hB, fun x hx => (h.co x hx).mono hB, h.dj⟩
def isDd (B : Nat) (d : Dd) (v : Value) (w : World) : Prop := ∃ vl vc cs, v = .agg #[vl, vc] ∧ cs.map (·.1) = d.cs ∧ OwD B w vl vc d.ls cs
def pEnd (b : List Nat) (r : Except (Nat × Int) (Dd × Nat)) : Except (Nat × Int) (Dd × Nat) := match r with | .error e => .error e | .ok (d, a) => if a < b.length then .error (a, 110) else .ok (d, a)
def pDeedR (b : List Nat) : Except (Nat × Int) (Dd × Nat) :=
  if b.length < 4 then .error (b.length, 110) else if b.take 4 ≠ [87, 65, 82, 49] then .error (0, 110) else pEnd b (pBody b 4)
theorem pDeed_R (b : List Nat) : pDeed b = (pDeedR b).map (·.1) := by
  unfold pDeed pDeedR pEnd
  split
  · rfl
  · split
    · rfl
    · cases pBody b 4 with
      | error e => rfl
      | ok v =>
        obtain ⟨d, a⟩ := v
        simp only
        split <;> rfl
def pBodyC (ls : List Lp) : Ps Dd := pBind (pMost 512 112) fun n => pMap (fun cs => ⟨ls, cs⟩) (pClaims n [])
theorem pBody_eq : pBody = pBind (pMost 8 112) fun n => pBind (pLoops n []) pBodyC := rfl
theorem pLoops_succ (n : Nat) (l : List Lp) (G : List Lp → Ps Dd) : pBind (pLoops (n + 1) l) G = pBind pLoop fun x => pBind (pLoops n (l ++ [x])) G := pBind_assoc _ _ _
theorem pClaims_succ (n : Nat) (l : List Cl) (g : List Cl → Dd) : pMap g (pClaims (n + 1) l) = pBind pClaim fun x => pMap g (pClaims n (l ++ [x])) := pMap_bind _ _ _
theorem pMap_then {α β γ : Type} (f : α → β) (p : Ps α) (q : β → Ps γ) : pBind (pMap f p) q = pBind p fun x => q (f x) := by
  funext b a
  unfold pMap pBind
  dsimp only
  cases p b a with
  | error e => rfl
  | ok v => obtain ⟨x, m⟩ := v; rfl
theorem pLoop_then (K : Lp → Ps Dd) : pBind pLoop K = pBind (pMost 511 113) fun h => pBind (pMost 59 113) fun a => pBind (pMost 59 113) fun b => pBind (pSig 113) fun k => pBind (pMost 1099511627776 113) fun d => K ⟨h, a, b, k, d⟩ := by
  unfold pLoop
  simp only [pBind_assoc, pMap_then]
structure DS (B p q : Nat) (b : List Nat) (vb : Value) (w : World) (m : Nat) (vl vc : Value) (ls : List Lp) (cs : List (Cl × Value)) (wr : World) : Prop where
  rd : Rdr B p b m wr vb
  ex : Ex p w wr
  zb : Blk wr w.heap.size 26 #[.slice none 0 0, .slice none 0 0]
  qb : Blk wr q 26 #[vl, vc]
  ow : OwD w.heap.size wr vl vc ls cs
section
variable {B p q : Nat} {b : List Nat} {vb : Value} {w : World} {m m' : Nat} {vl vc : Value} {ls : List Lp} {cs : List (Cl × Value)} {wr w' w3 : World}
theorem DS.next (h : DS B p q b vb w m vl vc ls cs wr) (hx : Ex p wr w') (hd : Rdr B p b m' w' vb) (h1 : w.heap.size ≠ p) (h2 : q ≠ p) : DS B p q b vb w m' vl vc ls cs w' :=
  ⟨hd, h.ex.trans hx, hx.blk h.zb h1, hx.blk h.qb h2, h.ow.ex hx h.rd.blk⟩
theorem DS.drew (h : DS B p q b vb w m vl vc ls cs wr) : DS B p q b vb w m vl vc ls cs wr.drew :=
  ⟨h.rd.drew, h.ex.drew, h.zb, h.qb, h.ow.of_block fun _ _ _ _ _ => rfl⟩
theorem DS.alloc (h : DS B p q b vb w m vl vc ls cs wr) (o : Obj) : DS B p q b vb w m vl vc ls cs (wr.alloc o) :=
  ⟨h.rd.below (bAl (bRefl wr) o), h.ex.alloc o, h.zb.alloc o, h.qb.alloc o, h.ow.below (bAl (bRefl wr) o)⟩
theorem DS.set (h : DS B p q b vb w m vl vc ls cs wr) (hpw : p < w.heap.size) (hBp : B ≤ p) {t i : Nat} {T : TypeId} {C : Array Value} (ht : Blk wr t T C) (h0 : w.heap.size ≤ t) (h1 : 54 ≠ T) (h2 : 61 ≠ T) (h3 : 63 ≠ T) (h4 : 26 ≠ T) (x : Value) : DS B p q b vb w m vl vc ls cs (wr.setCell ⟨t, i, none⟩ x) :=
  ⟨h.rd.set_other _ (by omega) (by omega), h.ex.set_new _ h0, h.zb.set_other t _ _ (blk_ne h.zb ht h4), h.qb.set_other t _ _ (blk_ne h.qb ht h4), h.ow.set ht h1 h2 h3⟩
theorem DS.setL (h : DS B p q b vb w m vl vc ls cs wr) (hpw : p < w.heap.size) (hBp : B ≤ p) {t i : Nat} {C : Array Value} (ht : Blk wr t 54 C) (h0 : w.heap.size ≤ t) (hne : vl.ownBlock ≠ some t) (x : Value) : DS B p q b vb w m vl vc ls cs (wr.setCell ⟨t, i, none⟩ x) :=
  ⟨h.rd.set_other _ (by omega) (by omega), h.ex.set_new _ h0, h.zb.set_other t _ _ (blk_ne h.zb ht (by decide)), h.qb.set_other t _ _ (blk_ne h.qb ht (by decide)),
    ⟨own_of_ne h.ow.lp fun g hg => Below.heap_setCell wr ⟨t, i, none⟩ x g (fun e => hne (hg.trans (congrArg some e))), own_of_block h.ow.cl fun g _ hg => Below.heap_setCell wr ⟨t, i, none⟩ x g (blk_ne hg ht (by decide)), fun y hy => (h.ow.co y hy).set ht (by decide), h.ow.dj⟩⟩
theorem DS.grow_loop (h : DS B p q b vb w m vl vc ls cs wr) (hpw : p < w.heap.size) (hBp : B ≤ p) (hzq : w.heap.size < q) (x : Lp) {o : Obj} {v' : Value}
    (hown : w3.ownsRow w.heap.size 54 5 v' (ls.length + 1) (lpC ls ++ [.int .i64 x.h, .int .i64 x.a, .int .i64 x.b, .int .i64 x.k, .int .i64 x.d])) (hg : (wr.alloc o).grownBy w3 vl.ownBlock) :
    DS B p q b vb w m v' vc (ls ++ [x]) cs (w3.setCell ⟨q, 0, none⟩ v') := by
  have hs := h.ex.size
  have hA := h.alloc o
  have hb : Below w.heap.size wr w3 := ((bRefl wr).mono hs |>.alloc hs o).grown hg (by simp; omega) (fun g hg => (h.ow.lp.lt g hg).1)
  have hZ : Blk w3 w.heap.size 26 #[.slice none 0 0, .slice none 0 0] := hA.zb.of_block (hg.block _ hA.zb.lt (own_ne h.ow.lp h.zb (by decide)).symm)
  have hQ : Blk w3 q 26 #[vl, vc] := hA.qb.of_block (hg.block _ hA.qb.lt (own_ne h.ow.lp h.qb (by decide)).symm)
  have hne : ∀ g T C, T ≠ 54 → Blk (wr.alloc o) g T C → w3.heap[g]? = (wr.alloc o).heap[g]? := fun g T C hT hbk => hg.block _ hbk.lt (own_ne hA.ow.lp hbk (Ne.symm hT)).symm
  have hO : OwD w.heap.size w3 v' vc (ls ++ [x]) cs :=
    ⟨by unfold OwL; rw [lpC_app, List.length_append]; exact hown, own_of_block hA.ow.cl fun g C => hne g _ C (by decide), fun y hy => (hA.ow.co y hy).of_block fun g C => hne g _ C (by decide), hA.ow.dj⟩
  have hR : Rdr B p b m w3 vb := ⟨h.rd.blk.of_block (hb.block p hpw), h.rd.by'.below ⟨hb.os, hb.tape, hb.output, hb.size, fun k hk => hb.block k (by omega)⟩, h.rd.hp, h.rd.at', h.rd.len⟩
  exact ⟨hR.set_other _ (by omega) (by omega), (h.ex.below_trans hb).set_new _ (by omega), hZ.set_other q _ _ (by omega), (hQ.set 0 v').eq rfl, hO.set hQ (by decide) (by decide) (by decide)⟩
theorem DS.grow_claim (h : DS B p q b vb w m vl vc ls cs wr) (hpw : p < w.heap.size) (hBp : B ≤ p) (hzq : w.heap.size < q) (x : Cl) (vx : Value) {n : Nat} (hx : OwC n wr vx x.l) (hn : ∀ y ∈ cs, ∀ g, y.2.ownBlock = some g → g < n) (hn0 : w.heap.size ≤ n) {o : Obj} {v' : Value}
    (hown : w3.ownsRow w.heap.size 61 128 v' (cs.length + 1) (clC cs ++ (bx (.bool x.d) x.f vx).toList)) (hg : (wr.alloc o).grownBy w3 vc.ownBlock) :
    DS B p q b vb w m vl v' ls (cs ++ [(x, vx)]) (w3.setCell ⟨q, 1, none⟩ v') := by
  have hs := h.ex.size
  have hA := h.alloc o
  have hb : Below w.heap.size wr w3 := ((bRefl wr).mono hs |>.alloc hs o).grown hg (by simp; omega) (fun g hg => (h.ow.cl.lt g hg).1)
  have hZ : Blk w3 w.heap.size 26 #[.slice none 0 0, .slice none 0 0] := hA.zb.of_block (hg.block _ hA.zb.lt (own_ne h.ow.cl h.zb (by decide)).symm)
  have hQ : Blk w3 q 26 #[vl, vc] := hA.qb.of_block (hg.block _ hA.qb.lt (own_ne h.ow.cl h.qb (by decide)).symm)
  have hne : ∀ g T C, T ≠ 61 → Blk (wr.alloc o) g T C → w3.heap[g]? = (wr.alloc o).heap[g]? := fun g T C hT hbk => hg.block _ hbk.lt (own_ne hA.ow.cl hbk (Ne.symm hT)).symm
  have hxA : OwC n (wr.alloc o) vx x.l := hx.below (bAl (bRefl wr) o)
  have hx3 : OwC n w3 vx x.l := hxA.of_block fun g C => hne g _ C (by decide)
  have hO : OwD w.heap.size w3 vl v' ls (cs ++ [(x, vx)]) := by
    refine ⟨own_of_block hA.ow.lp fun g C => hne g _ C (by decide), ?_, fun y hy => ?_, ?_⟩
    · unfold OwK
      rw [clC_app, List.length_append]
      exact hown
    · rcases List.mem_append.1 hy with hy | hy
      · exact (hA.ow.co y hy).of_block fun g C => hne g _ C (by decide)
      · rw [List.mem_singleton.1 hy]
        exact hx3.mono hn0
    · refine List.pairwise_append.2 ⟨hA.ow.dj, List.pairwise_singleton _ _, fun y hy z hz g hgy hgz => ?_⟩
      rw [List.mem_singleton.1 hz] at hgz
      have h1 := hn y hy g hgy
      have h2 := (hx.lt g hgz).1
      omega
  have hR : Rdr B p b m w3 vb := ⟨h.rd.blk.of_block (hb.block p hpw), h.rd.by'.below ⟨hb.os, hb.tape, hb.output, hb.size, fun k hk => hb.block k (by omega)⟩, h.rd.hp, h.rd.at', h.rd.len⟩
  exact ⟨hR.set_other _ (by omega) (by omega), (h.ex.below_trans hb).set_new _ (by omega), hZ.set_other q _ _ (by omega), (hQ.set 1 v').eq rfl, hO.set hQ (by decide) (by decide) (by decide)⟩
theorem OwD.lt (h : OwD B w vl vc ls cs) : ∀ y ∈ cs, ∀ g, y.2.ownBlock = some g → g < w.heap.size := fun y hy g hg => ((h.co y hy).lt g hg).2
end
theorem infoLp : (Try.prog.info? 54).map (fun i => (i.zero, i.size, i.bytes)) = some (some (.agg #[.int .i64 0, .int .i64 0, .int .i64 0, .int .i64 0, .int .i64 0]), 5, 40) := by kernel_rfl
theorem infoCl : (Try.prog.info? 61).map (fun i => (i.zero, i.size, i.bytes)) = some (some (.agg (bx (.bool false) f0 (.slice none 0 0))), 128, 1040) := by kernel_rfl
end Go.Proofs.Ytfdjdpbiccclfaa
namespace Go.Wr
open Go Go.RowKit
variable {P : Program}
theorem run_one {t e : TypeId} {size : Nat} {z : Value} {D : Array Value} (w : World) (ht : P.underlying t = some (.slice e)) (hsz : ∀ w, (sizeOf e).run P w = .ok size w) (hz : ∀ w, (zeroValue e).run P w = .ok z w)
    (hD : D.size = size) (h0 : 0 < size) (hle : size ≤ 16777216) :
    (Instr.buildSlice t 1 #[(0, .agg D)]).run P w = .ok (.slice (some ⟨w.heap.size, 0, none⟩) 1 1) (w.alloc (.cells D e)) := by
  have hf : ∀ C : Array Value, C.size = size → Instr.fill (fun i => some (i * size, size)) C [(0, .agg D)] = some D := fun C hC => by
    rw [fill_agg _ C 0 D [] 0 size (by simp) hD (by omega), spl_all _ _ (by omega)]
    rfl
  unfold Instr.buildSlice
  simp only [Sem.run_bind, run_underlying ht, Result.andThen_ok, hsz, Nat.one_mul]
  rw [if_neg (by omega), if_neg (by omega)]
  simp only [Sem.run_bind, Sem.run_pure, Result.andThen_ok, hz]
  rw [hf _ (by simp)]
  simp only [Sem.run_bind, Sem.run_pure]
  rfl
theorem wpo_run {op : Oper} {a : Act} {w w' : World} {K : Act → World → Prop} {Q : Exit → Act → World → Prop} (v : Value) (hrun : (execOp a.eval op).run P w = .ok (.value v) w') (h : K (a.put op.dst v) w') : Oper.wp P op a w K Q := by
  unfold Oper.wp
  rw [hrun]
  exact h
theorem exec_one {op : Oper} {a : Act} {w : World} {t e : TypeId} {x : Operand} (ho : op.op = .buildSlice t 1 #[(0, x)]) {size : Nat} {z : Value} {D : Array Value} (hx : a.eval x = .agg D) (ht : P.underlying t = some (.slice e)) (hsz : ∀ w, (sizeOf e).run P w = .ok size w) (hz : ∀ w, (zeroValue e).run P w = .ok z w)
    (hD : D.size = size) (h0 : 0 < size) (hle : size ≤ 16777216) :
    (execOp a.eval op).run P w = .ok (.value (.slice (some ⟨w.heap.size, 0, none⟩) 1 1)) (w.alloc (.cells D e)) := by
  have h := run_one (P := P) w ht hsz hz hD h0 hle
  unfold execOp
  simp only [ho]
  simp only [List.map_toArray, List.map_cons, List.map_nil, hx, Sem.run_bind, h, Result.andThen_ok, Sem.run_pure]
end Go.Wr
namespace Go.Proofs.Ytfdjdpbiccclfaa
open Go Go.RowKit Go.Wr
theorem sizeClaim : ∀ w, (sizeOf 61).run Try.prog w = .ok 128 w := fun _ => by kernel_rfl
end Go.Proofs.Ytfdjdpbiccclfaa
namespace Go.Proofs.Ytfdjdpbiccclfaa
open Go Go.RowKit Go.Wr
set_option maxHeartbeats 4000000
set_option maxRecDepth 100000
theorem rowDeed : RowTy Try.prog 26 2 := ⟨_, Try.underlying26, rfl, by kernel_rfl⟩
theorem own_slice {B : Nat} {e : TypeId} {size n : Nat} {w : World} {v : Value} {xs : List Value} (h : w.ownsRow B e size v n xs) : ∃ a c, v = .slice a n c := by
  rcases h.2 with ⟨rfl, rfl⟩ | ⟨g, cap, cur, rfl, _⟩
  · exact ⟨none, 0, rfl⟩
  · exact ⟨_, _, rfl⟩
theorem back256 {l : List Nat} (h : ∀ x ∈ l, x < 256) : (l.map fun x => UInt8.ofNat (Int.ofNat x).toNat).map UInt8.toNat = l := by
  induction l with
  | nil => rfl
  | cons y l ih =>
    simp only [List.map_cons]
    rw [ih fun x hx => h x (by simp [hx])]
    have := h y (by simp)
    congr 1
    show (UInt8.ofNat y).toNat = y
    rw [UInt8.toNat_ofNat']
    omega
theorem magic_iff {l : List Nat} (h : ∀ x ∈ l, x < 256) : (strOfNums (l.map Int.ofNat)).toList = [87, 65, 82, 49] ↔ l = [87, 65, 82, 49] := by
  rw [ByteArray.toList_eq, strOfNums_data, List.map_map]
  constructor
  · intro e
    have e2 := congrArg (List.map UInt8.toNat) e
    have e3 := back256 h
    rw [show (l.map fun x => UInt8.ofNat (Int.ofNat x).toNat) = l.map ((fun n : Int => UInt8.ofNat n.toNat) ∘ Int.ofNat) from rfl, e2] at e3
    rw [← e3]
    rfl
  · rintro rfl
    rfl
theorem rdeed_ok (w : World) (B p a : Nat) (b : List Nat) (vb : Value) (h : Rdr B p b a w vb) :
    Calls Try.prog 39 #[.pointer (some ⟨p, 0, none⟩)] w (RP B p b vb (pDeedR b) (isDd w.heap.size) w) := by
  have H := Lib.hid h
  have hpl := h.lt
  have hBp := h.hp
  have hbl := h.len
  obtain ⟨R, hR⟩ : ∃ R, R = pDeedR b := ⟨_, rfl⟩
  rw [← hR]
  have HR := Lib.hid hR
  clear h hR
  go_enter Try.func39, Try.ntmps39
  go_upto_region 1 with (fail)
  generalize hW : w.alloc (.cells #[.slice none 0 0, .slice none 0 0] 26) = W
  have xW : Ex p w W := by rw [← hW]; exact (Ex.refl p w).alloc _
  have qW : Rdr B p b a W vb := by rw [← hW]; exact H.out.below (bAl (bRefl w) _)
  have zW : Blk W w.heap.size 26 #[.slice none 0 0, .slice none 0 0] := by rw [← hW]; exact Blk.new _ _ _
  have hWs := zW.lt
  have HX := Lib.hid xW
  have HZ := Lib.hid zW
  have HQ := Lib.hid qW
  clear hW xW qW zW H
  obtain ⟨a0, cap, hvb, hc1, hc2, hcell⟩ := HQ.out.by'
  have c0 := HQ.out.blk.cell 0
  simp only [List.getElem?_toArray, List.getElem?_cons_zero] at c0
  rw [hvb] at c0
  have HCL := Lib.hid hcell
  have HVB := Lib.hid hvb
  clear hvb hcell
  go_wp2
  go_loopw [6] (fun t wr => ∃ k : Nat, k ≤ 4 ∧ k ≤ b.length ∧ t = .int .i64 (k : Int) ∧ wr = W) (fun t _ => 4 - (intOf t).toNat)
  case atStart => exact ⟨0, by omega, by omega, rfl, rfl⟩
  case round =>
    obtain ⟨k, hk, hkb, rfl, rfl⟩ := hrel
    by_cases hlt : k < 4
    · have hlt' : (k : Int) < 4 := by omega
      by_cases hbk : b.length ≤ k
      · have hbk' : (b.length : Int) ≤ (k : Int) := by omega
        have e1 : Hid (R = .error (b.length, 110)) := by show _ = _; rw [HR.out]; unfold pDeedR; rw [if_pos (by omega)]
        clear HR
        go_wp2_with fail
        refine (giveup_ok _ _ b.length 110).mono ?_
        rintro e w2 ⟨rfl, rfl⟩
        go_wp2
        exact ⟨rfl, RP.mk_err e1.out HX.out⟩
      · have hbk' : ¬ (b.length : Int) ≤ (k : Int) := by omega
        go_wp2
        go_roundw
        all_goals first
          | exact ⟨k + 1, by omega, by omega, by go_num, trivial⟩
          | ((repeat apply Exists.intro); exact ⟨⟨k + 1, by omega, by omega, by go_num, trivial⟩, rfl⟩)
          | (simp [intOf]; omega)
    · obtain rfl : k = 4 := by omega
      obtain ⟨y0, hy0⟩ : ∃ y, b[0]? = some y := ⟨_, List.getElem?_eq_getElem (by omega)⟩
      obtain ⟨bb, off, rfl, hbb, _, _⟩ := HCL.out 0 y0 hy0
      have hcap4 : (4 : Int) ≤ (cap : Int) := by omega
      have h4 : (b.take 4).length = 4 := by simp; omega
      have kb : (convert 28 9 (.slice (some ⟨bb, off, none⟩) 4 cap)).run Try.prog wr = .ok (.string (strOfNums ((b.take 4).map Int.ofNat))) wr := by
        refine run_convert_bytes_arg wr 28 5 Try.underlying28 Try.underlying5 bb off 4 cap _ (by simp; omega) (fun i hi => ?_) 9 Try.underlying9
        obtain ⟨yi, hyi⟩ : ∃ y, b[i]? = some y := ⟨_, List.getElem?_eq_getElem (by omega)⟩
        obtain ⟨bb', off', ea, _, _, hci⟩ := HCL.out i yi hyi
        simp only [Option.some.injEq, Addr.mk.injEq, and_true] at ea
        obtain ⟨rfl, rfl⟩ := ea
        rw [hci, List.getD_eq_getElem?_getD, List.getElem?_map, List.getElem?_take, if_pos hi, hyi]
        rfl
      have h256 : ∀ x ∈ b.take 4, x < 256 := fun x hx => by
        obtain ⟨i, hi⟩ := List.mem_iff_getElem?.1 (List.mem_of_mem_take hx)
        obtain ⟨_, _, _, _, h3, _⟩ := HCL.out i x hi
        exact h3
      have hmi := magic_iff h256
      obtain ⟨S, hS⟩ : ∃ S, S = strOfNums ((b.take 4).map Int.ofNat) := ⟨_, rfl⟩
      rw [← hS] at kb hmi
      have c1 := HQ.out.blk.cell 1
      have f1 := HQ.out.blk.frozen 1
      simp only [List.getElem?_toArray, List.getElem?_cons_zero, List.getElem?_cons_succ] at c1
      clear hy0 hlt hk hS h256 h4
      by_cases hm : b.take 4 = [87, 65, 82, 49]
      · have hms : (S.toList == [87, 65, 82, 49]) = true := by rw [beq_iff_eq]; exact hmi.2 hm
        have HR2 : Hid (R = pEnd b (pBody b 4)) := by show _ = _; rw [HR.out]; unfold pDeedR; rw [if_neg (by omega), if_neg (by simpa using hm)]
        clear hm hmi HR
        go_upto_region 11 with (fail)
        generalize hV : (wr.setCell ⟨p, 1, none⟩ (.int .i64 4)).alloc (.cells #[.slice none 0 0, .slice none 0 0] 26) = V
        obtain ⟨q, hq⟩ : ∃ q, q = wr.heap.size := ⟨_, rfl⟩
        have ds0 : DS B p q b vb w 4 (.slice none 0 0) (.slice none 0 0) [] [] V := by
          have hr4 : Rdr B p b 4 (wr.setCell ⟨p, 1, none⟩ (.int .i64 4)) vb :=
            ⟨(HQ.out.blk.set 1 _).eq rfl, HQ.out.by'.below ((Below.refl B wr).setCell (p := ⟨p, 1, none⟩) hBp _), hBp, hkb, hbl⟩
          rw [← hV]
          exact ⟨hr4.below (bAl (bRefl _) _), (HX.out.set 1 _).alloc _, (HZ.out.set_other p 1 _ (by omega)).alloc _, Blk.new_at _ _ (by simp [hq]), OwD.nil _ _⟩
        rw [← hq]
        have hzp : w.heap.size ≠ p := by omega
        have hzq : w.heap.size < q := by omega
        have hqp : q ≠ p := by omega
        have HC0 := Lib.hid ds0
        clear hV hq HX HZ HQ HCL HVB c0 c1 f1 kb hms hcap4 hkb hc1 hc2 hWs ds0 hbb
        rw [pBody_eq] at HR2
        go_wp2_with fail
        (with_reducible refine (rmost_eq _ B p 4 b vb HC0.out.rd 8 112 (by omega)).mono ?_)
        rintro e w2 hr
        rcases hr.cases with ⟨y, ye, hb, rfl, hx⟩ | ⟨n, m, v, hb, rfl, rfl, hd, hx⟩
        · have e1 : Hid (R = .error (y, ye)) := by show _ = _; rw [HR2.out, pBind_no hb]; rfl
          clear hr hb
          go_wp2
          exact ⟨rfl, RP.mk_err e1.out (HC0.out.ex.trans hx)⟩
        have hn8 := (pChk_ok.1 hb).2
        simp only [decide_eq_true_eq] at hn8
        have HE0 : Hid (R = pEnd b (pBind (pLoops n []) pBodyC b m)) := by show _ = _; rw [HR2.out, pBind_at hb]
        have HC1 := Lib.hid (HC0.out.next hx hd hzp hqp)
        clear hr hb hd hx HR2 HC0
        go_wp2
        go_loopw [38] (fun t wr => ∃ (k : Nat) (ls : List Lp) (vl : Value) (m : Nat), k ≤ n ∧ ls.length = k ∧ t = .int .i64 (k : Int) ∧ Hid (R = pEnd b (pBind (pLoops (n - k) ls) pBodyC b m)) ∧ Hid (DS B p q b vb w m vl (.slice none 0 0) ls [] wr)) (fun t _ => n - (intOf t).toNat)
        case atStart => exact ⟨0, [], _, m, by omega, rfl, rfl, HE0, HC1⟩
        case round =>
          clear HE0 HC1
          obtain ⟨k, ls, vl, m, hk, hll, rfl, HE, HC⟩ := hrel
          subst hll
          by_cases hlt : ls.length < n
          · have hlt' : (ls.length : Int) < (n : Int) := by omega
            have HE2 : Hid (R = pEnd b ((pBind (pMost 511 113) fun h => pBind (pMost 59 113) fun a => pBind (pMost 59 113) fun b => pBind (pSig 113) fun k => pBind (pMost 1099511627776 113) fun d => pBind (pLoops (n - (ls.length + 1)) (ls ++ [⟨h, a, b, k, d⟩])) pBodyC) b m)) := by
              show _ = _
              rw [HE.out, show n - ls.length = (n - (ls.length + 1)) + 1 by omega, pLoops_succ, pLoop_then]
            clear HE
            have cvl := HC.out.ow.lp.lt
            have hwz := HC.out.zb.lt
            have HCA := Lib.hid (HC.out.alloc (.cells #[.int .i64 0, .int .i64 0, .int .i64 0, .int .i64 0, .int .i64 0] 54))
            have TB : Blk (wr.alloc (.cells #[.int .i64 0, .int .i64 0, .int .i64 0, .int .i64 0, .int .i64 0] 54)) wr.heap.size 54 #[.int .i64 0, .int .i64 0, .int .i64 0, .int .i64 0, .int .i64 0] := Blk.new _ _ _
            go_upto_region 14 with (fail)
            generalize hV : wr.alloc (.cells #[.int .i64 0, .int .i64 0, .int .i64 0, .int .i64 0, .int .i64 0] 54) = V
            rw [hV] at HCA TB
            obtain ⟨t, ht⟩ : ∃ t, t = wr.heap.size := ⟨_, rfl⟩
            rw [← ht] at TB cvl hwz ⊢
            have hne : vl.ownBlock ≠ some t := fun e => by have := (cvl t e).2; omega
            have htp : t ≠ p := by omega
            have htw : w.heap.size ≤ t := by omega
            have D0 := HCA
            have T0 := Lib.hid TB
            have E0 := HE2
            clear hV ht cvl hwz HC HCA TB HE2
            go_wp2_with fail
            (with_reducible refine (rmost_eq _ B p _ b vb D0.out.rd 511 113 (by omega)).mono ?_)
            rintro e w3 hr
            rcases hr.cases with ⟨y, ye, hb, rfl, hx⟩ | ⟨zh, m0, v, hb, rfl, rfl, hd, hx⟩
            · have e1 : Hid (R = .error (y, ye)) := by show _ = _; rw [E0.out, pBind_no hb]; rfl
              clear hr hb
              go_wp2
              exact ⟨rfl, RP.mk_err e1.out (D0.out.ex.trans hx)⟩
            have E1 : Hid (R = pEnd b ((pBind (pMost 59 113) fun a => pBind (pMost 59 113) fun b => pBind (pSig 113) fun k => pBind (pMost 1099511627776 113) fun d => pBind (pLoops (n - (ls.length + 1)) (ls ++ [⟨zh, a, b, k, d⟩])) pBodyC) b m0)) := by show _ = _; rw [E0.out, pBind_at hb]
            have DN := D0.out.next hx hd hzp hqp
            have TN := hx.blk T0.out htp
            have ct0 := TN.cell 0
            have ft0 := TN.frozen 0
            simp only [List.getElem?_toArray, List.getElem?_cons_zero] at ct0
            have D1 := Lib.hid (DN.setL (i := 0) hpl hBp TN htw hne (.int .i64 (zh : Int)))
            have T1 : Hid (Blk (w3.setCell ⟨t, 0, none⟩ (.int .i64 (zh : Int))) t 54 #[.int .i64 (zh : Int), .int .i64 0, .int .i64 0, .int .i64 0, .int .i64 0]) := (TN.set 0 _).eq rfl
            clear hr hb hd hx DN TN D0 T0 E0
            go_wp2_with fail
            (with_reducible refine (rmost_eq _ B p _ b vb D1.out.rd 59 113 (by omega)).mono ?_)
            rintro e w4 hr
            rcases hr.cases with ⟨y, ye, hb, rfl, hx⟩ | ⟨za, m1, v, hb, rfl, rfl, hd, hx⟩
            · have e1 : Hid (R = .error (y, ye)) := by show _ = _; rw [E1.out, pBind_no hb]; rfl
              clear hr hb
              go_wp2
              exact ⟨rfl, RP.mk_err e1.out (D1.out.ex.trans hx)⟩
            have E2 : Hid (R = pEnd b ((pBind (pMost 59 113) fun b => pBind (pSig 113) fun k => pBind (pMost 1099511627776 113) fun d => pBind (pLoops (n - (ls.length + 1)) (ls ++ [⟨zh, za, b, k, d⟩])) pBodyC) b m1)) := by show _ = _; rw [E1.out, pBind_at hb]
            have DN := D1.out.next hx hd hzp hqp
            have TN := hx.blk T1.out htp
            have ct1 := TN.cell 1
            have ft1 := TN.frozen 1
            simp only [List.getElem?_toArray, List.getElem?_cons_zero, List.getElem?_cons_succ] at ct1
            have D2 := Lib.hid (DN.setL (i := 1) hpl hBp TN htw hne (.int .i64 (za : Int)))
            have T2 : Hid (Blk (w4.setCell ⟨t, 1, none⟩ (.int .i64 (za : Int))) t 54 #[.int .i64 (zh : Int), .int .i64 (za : Int), .int .i64 0, .int .i64 0, .int .i64 0]) := (TN.set 1 _).eq rfl
            clear hr hb hd hx DN TN ct0 ft0 D1 T1 E1
            go_wp2_with fail
            (with_reducible refine (rmost_eq _ B p _ b vb D2.out.rd 59 113 (by omega)).mono ?_)
            rintro e w5 hr
            rcases hr.cases with ⟨y, ye, hb, rfl, hx⟩ | ⟨zb, m2, v, hb, rfl, rfl, hd, hx⟩
            · have e1 : Hid (R = .error (y, ye)) := by show _ = _; rw [E2.out, pBind_no hb]; rfl
              clear hr hb
              go_wp2
              exact ⟨rfl, RP.mk_err e1.out (D2.out.ex.trans hx)⟩
            have E3 : Hid (R = pEnd b ((pBind (pSig 113) fun k => pBind (pMost 1099511627776 113) fun d => pBind (pLoops (n - (ls.length + 1)) (ls ++ [⟨zh, za, zb, k, d⟩])) pBodyC) b m2)) := by show _ = _; rw [E2.out, pBind_at hb]
            have DN := D2.out.next hx hd hzp hqp
            have TN := hx.blk T2.out htp
            have ct2 := TN.cell 2
            have ft2 := TN.frozen 2
            simp only [List.getElem?_toArray, List.getElem?_cons_zero, List.getElem?_cons_succ] at ct2
            have D3 := Lib.hid (DN.setL (i := 2) hpl hBp TN htw hne (.int .i64 (zb : Int)))
            have T3 : Hid (Blk (w5.setCell ⟨t, 2, none⟩ (.int .i64 (zb : Int))) t 54 #[.int .i64 (zh : Int), .int .i64 (za : Int), .int .i64 (zb : Int), .int .i64 0, .int .i64 0]) := (TN.set 2 _).eq rfl
            clear hr hb hd hx DN TN ct1 ft1 D2 T2 E2
            go_wp2_with fail
            (with_reducible refine (rsigned_ok _ B p _ b vb D3.out.rd 113).mono ?_)
            rintro e w6 hr
            rcases hr.cases with ⟨y, ye, hb, rfl, hx⟩ | ⟨zk, m3, v, hb, rfl, rfl, hd, hx⟩
            · have e1 : Hid (R = .error (y, ye)) := by show _ = _; rw [E3.out, pBind_no hb]; rfl
              clear hr hb
              go_wp2
              exact ⟨rfl, RP.mk_err e1.out (D3.out.ex.trans hx)⟩
            have E4 : Hid (R = pEnd b ((pBind (pMost 1099511627776 113) fun d => pBind (pLoops (n - (ls.length + 1)) (ls ++ [⟨zh, za, zb, zk, d⟩])) pBodyC) b m3)) := by show _ = _; rw [E3.out, pBind_at hb]
            have DN := D3.out.next hx hd hzp hqp
            have TN := hx.blk T3.out htp
            have ct3 := TN.cell 3
            have ft3 := TN.frozen 3
            simp only [List.getElem?_toArray, List.getElem?_cons_zero, List.getElem?_cons_succ] at ct3
            have D4 := Lib.hid (DN.setL (i := 3) hpl hBp TN htw hne (.int .i64 zk))
            have T4 : Hid (Blk (w6.setCell ⟨t, 3, none⟩ (.int .i64 zk)) t 54 #[.int .i64 (zh : Int), .int .i64 (za : Int), .int .i64 (zb : Int), .int .i64 zk, .int .i64 0]) := (TN.set 3 _).eq rfl
            clear hr hb hd hx DN TN ct2 ft2 D3 T3 E3
            go_wp2_with fail
            (with_reducible refine (rmost_eq _ B p _ b vb D4.out.rd 1099511627776 113 (by omega)).mono ?_)
            rintro e w7 hr
            rcases hr.cases with ⟨y, ye, hb, rfl, hx⟩ | ⟨zd, m4, v, hb, rfl, rfl, hd, hx⟩
            · have e1 : Hid (R = .error (y, ye)) := by show _ = _; rw [E4.out, pBind_no hb]; rfl
              clear hr hb
              go_wp2
              exact ⟨rfl, RP.mk_err e1.out (D4.out.ex.trans hx)⟩
            have E5 : Hid (R = pEnd b ((pBind (pLoops (n - (ls.length + 1)) (ls ++ [⟨zh, za, zb, zk, zd⟩])) pBodyC) b m4)) := by show _ = _; rw [E4.out, pBind_at hb]
            have DN := D4.out.next hx hd hzp hqp
            have TN := hx.blk T4.out htp
            have ct4 := TN.cell 4
            have ft4 := TN.frozen 4
            simp only [List.getElem?_toArray, List.getElem?_cons_zero, List.getElem?_cons_succ] at ct4
            have D5 := Lib.hid (DN.setL (i := 4) hpl hBp TN htw hne (.int .i64 (zd : Int)))
            have T5 : Hid (Blk (w7.setCell ⟨t, 4, none⟩ (.int .i64 (zd : Int))) t 54 #[.int .i64 (zh : Int), .int .i64 (za : Int), .int .i64 (zb : Int), .int .i64 zk, .int .i64 (zd : Int)]) := (TN.set 4 _).eq rfl
            clear hr hb hd hx DN TN ct3 ft3 D4 T4 E4
            go_upto_region 19 with (fail)
            clear ct4 ft4
            generalize hU : w7.setCell ⟨t, 4, none⟩ (.int .i64 (zd : Int)) = U
            rw [hU] at D5 T5
            have l0 := T5.out.cell 0
            have l1 := T5.out.cell 1
            have l2 := T5.out.cell 2
            have l3 := T5.out.cell 3
            have l4 := T5.out.cell 4
            have cq := D5.out.qb.cell 0
            simp only [List.getElem?_toArray, List.getElem?_cons_zero, List.getElem?_cons_succ] at l0 l1 l2 l3 l4 cq
            obtain ⟨i, hi, hz0, hz1, hz2⟩ := info_parts infoLp
            have Hi := Lib.hid hi
            have hsz := D5.out.ex.size
            have hUt := T5.out.lt
            have hUq := D5.out.qb.lt
            clear hi hU
            go_wp2_with (at_builtin; refine wpList_append_own _ rfl _ _ _ rfl w.heap.size 54 i _ 5 40 Try.underlying23 Hi.out hz0 hz1 hz2 rfl (by omega) vl ls.length (lpC ls) rfl (D5.out.ow.lp.alloc _) ⟨U.heap.size, 0, none⟩ 1 1 [.int .i64 (zh : Int), .int .i64 (za : Int), .int .i64 (zb : Int), .int .i64 zk, .int .i64 (zd : Int)] rfl rfl (World.news_of_block (cs := #[.int .i64 (zh : Int), .int .i64 (za : Int), .int .i64 (zb : Int), .int .i64 zk, .int .i64 (zd : Int)]) (t := 54) (fr := (0, 0)) (heap_alloc_new U _)) (by simp [Value.oneCell']) (by unfold maxLen; omega) (by omega) (by simp; omega) ?_; intro v' w9 hown hgrow hnil; obtain ⟨g, c', rfl, _⟩ := hown.form (by omega); have hq3 := (D5.out.qb.alloc (.cells #[.int .i64 (zh : Int), .int .i64 (za : Int), .int .i64 (zb : Int), .int .i64 zk, .int .i64 (zd : Int)] 54)).of_block (hgrow.block q (D5.out.qb.alloc _).lt (own_ne D5.out.ow.lp D5.out.qb (by decide)).symm); have cq3 : w9.cell? ⟨q, 0, none⟩ = some vl := hq3.cell 0; have g3 := hq3.frozen 0; have D6 := Lib.hid (D5.out.grow_loop hpl hBp hzq ⟨zh, za, zb, zk, zd⟩ hown hgrow); clear hown hgrow hnil)
            have hll : (ls ++ [(⟨zh, za, zb, zk, zd⟩ : Lp)]).length = ls.length + 1 := by simp
            go_roundw
            all_goals first
              | exact ⟨ls.length + 1, ls ++ [⟨zh, za, zb, zk, zd⟩], _, m4, by omega, hll, by go_num, E5, D6⟩
              | ((repeat apply Exists.intro); exact ⟨⟨ls.length + 1, ls ++ [⟨zh, za, zb, zk, zd⟩], _, m4, by omega, hll, by go_num, E5, D6⟩, rfl⟩)
              | (simp [intOf]; omega)
          · obtain rfl : ls.length = n := by omega
            have HE2 : Hid (R = pEnd b (pBodyC ls b m)) := by show _ = _; rw [HE.out, Nat.sub_self]; rfl
            clear HE hlt hk
            unfold pBodyC at HE2
            go_wp2_with fail
            (with_reducible refine (rmost_eq _ B p m b vb HC.out.rd 512 112 (by omega)).mono ?_)
            rintro e w2 hr
            rcases hr.cases with ⟨y, ye, hb, rfl, hx⟩ | ⟨n, m2, v, hb, rfl, rfl, hd, hx⟩
            · have e1 : Hid (R = .error (y, ye)) := by show _ = _; rw [HE2.out, pBind_no hb]; rfl
              clear hr hb
              go_wp2
              exact ⟨rfl, RP.mk_err e1.out (HC.out.ex.trans hx)⟩
            have hn := (pChk_ok.1 hb).2
            simp only [decide_eq_true_eq] at hn
            have HE3 : Hid (R = pEnd b (pMap (fun cs => ⟨ls, cs⟩) (pClaims n []) b m2)) := by show _ = _; rw [HE2.out, pBind_at hb]
            have HC2 := Lib.hid (HC.out.next hx hd hzp hqp)
            clear hr hb hd hx HE2 HC hn8
            go_wp2
            go_loopw [64] (fun t wr => ∃ (k : Nat) (cs : List (Cl × Value)) (vc : Value) (m : Nat), k ≤ n ∧ cs.length = k ∧ t = .int .i64 (k : Int) ∧ Hid (R = pEnd b (pMap (fun cs => ⟨ls, cs⟩) (pClaims (n - k) (cs.map (·.1))) b m)) ∧ Hid (DS B p q b vb w m vl vc ls cs wr)) (fun t _ => n - (intOf t).toNat)
            case atStart => exact ⟨0, [], _, m2, by omega, rfl, rfl, HE3, HC2⟩
            case round =>
              clear HE3 HC2
              obtain ⟨k, cs, vc, m, hk, hll, rfl, HE, HC⟩ := hrel
              subst hll
              by_cases hlt : cs.length < n
              · have hlt' : (cs.length : Int) < (n : Int) := by omega
                have HE2 : Hid (R = pEnd b ((pBind pClaim fun x => pMap (fun cs => ⟨ls, cs⟩) (pClaims (n - (cs.length + 1)) (cs.map (·.1) ++ [x]))) b m)) := by
                  show _ = _
                  rw [HE.out, show n - cs.length = (n - (cs.length + 1)) + 1 by omega, pClaims_succ]
                have cv : wr.drew.cell? ⟨q, 1, none⟩ = some vc := HC.out.qb.cell 1
                obtain ⟨i, hi, hz0, hz1, hz2⟩ := info_parts infoCl
                have Hi := Lib.hid hi
                have HCd := Lib.hid HC.out.drew
                have hlts := HC.out.ow.lt
                have HLT := Lib.hid hlts
                clear hi HC HE hlts
                go_upto_region 23 with (fail)
                refine wp_region_last 7 (fun w' => w'.cell? ⟨q, 1, none⟩ = some vc) mix ?_
                refine wpAnyL_take (i := 0) (v := .pointer (some ⟨q, 1, none⟩)) rfl (by kernel_rfl) (by kernel_rfl) (by kernel_rfl) (fun _ _ _ h => h) rfl (by kernel_rfl) (Or.inl ⟨by rfl, fun w' hw' => by go_simp⟩) cv ?_
                simp only [Act.put, List.getElem_toArray, List.getElem_cons_zero, List.setIfInBounds_toArray, List.set_cons_zero, List.set_cons_succ]
                refine wpAnyL_take (i := 1) (v := vc) rfl (by kernel_rfl) (by kernel_rfl) (by kernel_rfl) (fun _ _ _ h => h) rfl (by kernel_rfl) (Or.inl ⟨by rfl, fun w' hw' => by go_simp⟩) cv ?_
                simp only [Act.put, List.getElem_toArray, List.getElem_cons_zero, List.getElem_cons_succ, List.setIfInBounds_toArray, List.set_cons_zero, List.set_cons_succ]
                refine wpAnyL_take (i := 2) (v := .pointer (some ⟨p, 0, none⟩)) rfl (by kernel_rfl) (by kernel_rfl) (by kernel_rfl) (fun _ _ _ h => h) rfl (by kernel_rfl) (Or.inl ⟨by rfl, fun w' hw' => by go_simp⟩) cv ?_
                simp only [Act.put, List.getElem_toArray, List.getElem_cons_zero, List.getElem_cons_succ, List.setIfInBounds_toArray, List.set_cons_zero, List.set_cons_succ]
                refine wpAnyL_one (i := 3) (by kernel_rfl) rfl (fun K hK => ?_)
                go_simp
                go_wp2_with fail
                (with_reducible refine (rclaim_ok _ B p m b vb HCd.out.rd).mono ?_)
                rintro e w2 hr
                rcases hr.cases with ⟨y, ye, hb, rfl, hx⟩ | ⟨x, m2, v, hb, rfl, hv, hd, hx⟩
                · have e1 : Hid (R = .error (y, ye)) := by show _ = _; rw [HE2.out, pBind_no hb]; rfl
                  clear hb hr
                  go_wp2
                  exact ⟨rfl, RP.mk_err e1.out (HCd.out.ex.trans hx)⟩
                have HE3 : Hid (R = pEnd b (pMap (fun cs => ⟨ls, cs⟩) (pClaims (n - (cs.length + 1)) (cs.map (·.1) ++ [x])) b m2)) := by show _ = _; rw [HE2.out, pBind_at hb]
                have HC2 := Lib.hid (HCd.out.next hx hd hzp hqp)
                obtain ⟨vx, rfl, hox⟩ := hv
                have HOX := Lib.hid hox
                have cv2 : w2.cell? ⟨q, 1, none⟩ = some vc := HC2.out.qb.cell 1
                have hql2 := HC2.out.qb.lt
                have hsw2 := HC2.out.ex.size
                have hsw1 := HCd.out.ex.size
                have hv1 : vx.oneCell' = true := by obtain ⟨a0, cap, e, _⟩ := hox.cells; rw [e]; rfl
                clear hb hr hd hx hox HE2
                go_wp2_with fail
                refine hK.out _ _ (fun _ => cv2) ?_
                clear hK K
                refine wpAnyL_one (i := 4) (by kernel_rfl) rfl (fun K hK => ?_)
                rw [if_pos (by rfl)]
                refine wpo_run _ (exec_one rfl (D := bx (.bool x.d) x.f vx) (by rfl) Try.underlying24 sizeClaim zeroClaim (bx_size _ _ _) (by omega) (by omega)) ?_
                refine hK.out _ _ (fun _ => (HC2.out.qb.alloc _).cell 1) ?_
                clear hK K
                simp only [Act.put, List.getElem_toArray, List.getElem_cons_zero, List.getElem_cons_succ, List.setIfInBounds_toArray, List.set_cons_zero, List.set_cons_succ]
                refine wpAnyL_one (i := 5) (by kernel_rfl) rfl (fun K hK => ?_)
                refine step_append_lies _ (by rfl) _ _ _ (by rfl) w.heap.size 61 i _ 128 1040 Try.underlying24 Hi.out hz0 hz1 hz2 (bx_size _ _ _) (by omega) vc cs.length (clC cs) (by rfl) (HC2.out.alloc (.cells (bx (.bool x.d) x.f vx) 61)).ow.cl ⟨w2.heap.size, 0, none⟩ 1 1 (bx (.bool x.d) x.f vx).toList (by rfl) (by simp [bx_size])
                  (World.news_of_block (cs := bx (.bool x.d) x.f vx) (t := 61) (fr := (0, 0)) (heap_alloc_new w2 _)) (bx_one _ rfl hv1) (by omega) (by unfold maxLen; omega) (by omega) (by simp; omega) (w2.heap.size + 1) (by simp) ?_
                intro g cap' w3 hown hgrow hat hlt1
                have hq3 := (HC2.out.qb.alloc (.cells (bx (.bool x.d) x.f vx) 61)).of_block (hgrow.block q (HC2.out.qb.alloc _).lt (own_ne HC2.out.ow.cl HC2.out.qb (by decide)).symm)
                have cv3 : w3.cell? ⟨q, 1, none⟩ = some vc := hq3.cell 1
                have g3 := hq3.frozen 1
                have HC3 := Lib.hid (HC2.out.grow_claim hpl hBp hzq x vx HOX.out HLT.out hsw1 hown hgrow)
                clear hown hgrow hat
                refine hK.out _ _ (fun _ => cv3) ?_
                clear hK K
                simp only [Act.put, List.getElem_toArray, List.getElem_cons_zero, List.getElem_cons_succ, List.setIfInBounds_toArray, List.set_cons_zero, List.set_cons_succ]
                refine wpAnyL_take (i := 6) (v := .pointer (some ⟨q, 1, none⟩)) rfl (by kernel_rfl) (by kernel_rfl) (by kernel_rfl) (fun _ _ _ h => h) rfl (by kernel_rfl) (Or.inl ⟨by rfl, fun w' hw' => by go_simp⟩) cv3 ?_
                simp only [Act.put, List.getElem_toArray, List.getElem_cons_zero, List.getElem_cons_succ, List.setIfInBounds_toArray, List.set_cons_zero, List.set_cons_succ]
                refine wpAnyL_one (i := 7) (by kernel_rfl) rfl (fun K hK => ?_)
                go_simp
                refine hK.out _ _ (fun h => absurd rfl h) ?_
                clear hK K
                refine wpAnyL_done (by kernel_rfl) ?_ _
                have hll : (cs ++ [(x, vx)]).length = cs.length + 1 := by simp
                have HE4 : Hid (R = pEnd b (pMap (fun cs => ⟨ls, cs⟩) (pClaims (n - (cs.length + 1)) ((cs ++ [(x, vx)]).map (·.1))) b m2)) := by show _ = _; rw [HE3.out]; simp
                clear cv HE3
                go_wp2
                go_roundw
                all_goals first
                  | exact ⟨cs.length + 1, cs ++ [(x, vx)], _, m2, by omega, hll, by go_num, HE4, HC3⟩
                  | ((repeat apply Exists.intro); exact ⟨⟨cs.length + 1, cs ++ [(x, vx)], _, m2, by omega, hll, by go_num, HE4, HC3⟩, rfl⟩)
                  | (simp [intOf]; omega)
              · obtain rfl : cs.length = n := by omega
                have HE2 : Hid (R = pEnd b (.ok (⟨ls, cs.map (·.1)⟩, m))) := by show _ = _; rw [HE.out, Nat.sub_self]; rfl
                clear HE hlt hk
                obtain ⟨al, capl, rfl⟩ := own_slice HC.out.ow.lp
                obtain ⟨ac, capc, rfl⟩ := own_slice HC.out.ow.cl
                have c0 : wr.cell? ⟨p, 0, none⟩ = some vb := HC.out.rd.blk.cell 0
                have c1 : wr.cell? ⟨p, 1, none⟩ = some (.int .i64 (m : Int)) := HC.out.rd.blk.cell 1
                obtain ⟨a0, capb, hvb, _⟩ := HC.out.rd.by'
                rw [hvb] at c0
                have hml := HC.out.rd.at'
                have q0 : wr.cell? ⟨q, 0, none⟩ = some (.slice al ls.length capl) := HC.out.qb.cell 0
                have q1 : wr.cell? ⟨q, 1, none⟩ = some (.slice ac cs.length capc) := HC.out.qb.cell 1
                have z0 : wr.cell? ⟨w.heap.size, 0, none⟩ = some (.slice none 0 0) := HC.out.zb.cell 0
                have z1 : wr.cell? ⟨w.heap.size, 1, none⟩ = some (.slice none 0 0) := HC.out.zb.cell 1
                have y0 := HC.out.zb.frozen 0
                have y1 := HC.out.zb.frozen 1
                have HVB := Lib.hid hvb
                clear hvb
                by_cases hmb : m < b.length
                · have hmb' : (m : Int) < (b.length : Int) := by omega
                  have e1 : Hid (R = .error (m, 110)) := by show _ = _; rw [HE2.out]; exact if_pos hmb
                  clear HE2
                  go_wp2_with fail
                  go_quiet (fail)
                  go_wp2_with fail
                  refine (giveup_ok _ _ m 110).mono ?_
                  rintro e w2 ⟨rfl, rfl⟩
                  go_wp2
                  exact ⟨rfl, RP.mk_err e1.out (HC.out.ex.drewN _)⟩
                · have hmb' : ¬ (m : Int) < (b.length : Int) := by omega
                  have e1 : Hid (R = .ok (⟨ls, cs.map (·.1)⟩, m)) := by show _ = _; rw [HE2.out]; exact if_neg hmb
                  clear HE2
                  go_wp2_with fail
                  go_quiet (fail)
                  go_wp2
                  refine ret_cell rfl rfl ((((HC.out.zb.drewN nq).set 0 (.slice al ls.length capl)).set 1 (.slice ac cs.length capc)).eq (C' := #[.slice al ls.length capl, .slice ac cs.length capc]) rfl) rowDeed rfl ?_
                  have hDn := HC.out.rd.below (w' := wr.drewN nq) ⟨rfl, rfl, rfl, Nat.le_refl _, fun _ _ => rfl⟩
                  refine RP.mk_ok e1.out ⟨_, _, cs, rfl, rfl, ?_⟩ ?_ ?_
                  · exact ((HC.out.ow.of_block (w' := wr.drewN nq) fun _ _ _ _ _ => rfl).set (HC.out.zb.drewN nq) (by decide) (by decide) (by decide)).set ((HC.out.zb.drewN nq).set 0 _) (by decide) (by decide) (by decide)
                  · exact (hDn.set_other _ (by omega) (by omega)).set_other _ (by omega) (by omega)
                  · exact ((HC.out.ex.drewN nq).set_new _ (by omega)).set_new _ (by omega)
      · have hms : (S.toList == [87, 65, 82, 49]) = false := by rw [beq_eq_false_iff_ne]; exact fun e => hm (hmi.1 e)
        have e1 : Hid (R = .error (0, 110)) := by show _ = _; rw [HR.out]; unfold pDeedR; rw [if_neg (by omega), if_pos hm]
        clear hm HR hmi
        go_wp2_with fail
        refine (giveup_ok _ _ 0 110).mono ?_
        rintro e w2 ⟨rfl, rfl⟩
        go_wp2
        exact ⟨rfl, RP.mk_err e1.out HX.out⟩
end Go.Proofs.Ytfdjdpbiccclfaa
