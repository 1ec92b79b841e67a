/- A law of our own, over any program: a region that draws its order, whose first n operations only read, the others in one forced order; some of the first ones, that hang on no memory, may come among the others. -/
import Derived.StillTailTactics
namespace Go.Wr
open Go

section
variable {P : Program} {ops : Array Oper} {md : Region.Mode} {w : World}

/-- Each heavy operation ahead of n is waited for, by n or by a later heavy one. -/
def sinkH (md : Region.Mode) (ops : Array Oper) (n : Nat) (hv : List Nat) : Bool :=
  hv.all fun i => decide (i < n) && (List.range (n + 1)).any fun j => decide (i < j) && (j == n || hv.contains j) && Region.waitsFor md ops j i

/-- Each operation behind n waits for one from n on. -/
def chainW (md : Region.Mode) (ops : Array Oper) (n : Nat) : Bool :=
  (List.range ops.size).all fun t => decide (t ≤ n) || (List.range t).any fun j => decide (n ≤ j) && Region.waitsFor md ops t j

/-- All heavy operations have been. -/
def AllH (hv : List Nat) (listed : Array Bool) : Prop := ∀ i ∈ hv, listed.getD i false = true

theorem tail_waitsH {n : Nat} {hv : List Nat} {listed : Array Bool} (hs : sinkH md ops n hv = true) (hc : chainW md ops n = true) (inv : HeadInv md ops n listed) :
    ∀ (d i : Nat), n - i = d → i ∈ hv → listed.getD i true = false → ∀ t, n ≤ t → t ∉ Region.ready md ops listed := by
  intro d
  induction d using Nat.strongRecOn with
  | _ d ih =>
    intro i hd hi hun t ht hr
    obtain ⟨_, ot, hot, hall⟩ := mem_ready.1 hr
    have htlt : t < ops.size := (Array.getElem?_eq_some_iff.1 hot).1
    have h0 := List.all_eq_true.1 hs i hi
    simp only [Bool.and_eq_true, decide_eq_true_eq] at h0
    obtain ⟨hin, h1⟩ := h0
    by_cases htn : t = n
    · subst htn
      obtain ⟨j, hj, hj2⟩ := List.any_eq_true.1 h1
      simp only [Bool.and_eq_true, decide_eq_true_eq, Bool.or_eq_true, beq_iff_eq, List.contains_iff_mem] at hj2
      obtain ⟨⟨hij, hjt⟩, hw⟩ := hj2
      obtain ⟨oj, hoj, e, he, hb, hon⟩ := Region.waitsFor_spec hw
      rcases hjt with rfl | hjv
      · have : oj = ot := Option.some.inj (hoj.symm.trans hot)
        subst this
        have h2 := hall e he hb
        rw [hon, getD_both hun] at h2
        cases h2
      · cases hl : listed.getD j false with
        | true =>
          have h2 := inv.closed j oj hoj hl e he hb
          rw [hon, getD_both hun] at h2
          cases h2
        | false =>
          have h3 := List.all_eq_true.1 hs j hjv
          simp only [Bool.and_eq_true, decide_eq_true_eq] at h3
          have hjs : j < listed.size := by rw [inv.size]; omega
          exact ih (t - j) (by omega) j rfl hjv (getD_in hjs hl) t (Nat.le_refl _) hr
    · have h1 := List.all_eq_true.1 hc t (List.mem_range.2 htlt)
      simp only [Bool.or_eq_true, decide_eq_true_eq] at h1
      rcases h1 with h1 | h1
      · omega
      · obtain ⟨j, hj, hj2⟩ := List.any_eq_true.1 h1
        simp only [Bool.and_eq_true, decide_eq_true_eq] at hj2
        have hjt := List.mem_range.1 hj
        obtain ⟨o', ho', e, he, hb, hon⟩ := Region.waitsFor_spec hj2.2
        have : o' = ot := Option.some.inj (ho'.symm.trans hot)
        subst this
        have h2 := hall e he hb
        rw [hon, getD_both (inv.tail j hj2.1 (by omega))] at h2
        cases h2

/-- What a step of an operation that only reads carries over. -/
theorem stOp_putR {j : Nat} {oi oj : Oper} {v : Value} {R : Act → Prop} (hj : ops[j]? = some oj) (hap : oi.apart ops oj = true)
    (hsj : ∀ cs b, oj.op ≠ .select cs b) (hR : ∀ a, R a → ∀ u, R (a.put oj.dst u)) {K : Act → Prop} {a : Act}
    (hy : R a) (h : stOp P ops w j K (a.put oi.dst v)) : stOp P ops w j (fun a' => R a' ∧ K (a'.put oi.dst v)) a := by
  obtain ⟨h1, h2, h3⟩ := Oper.apart_spec hap
  unfold stOp at *
  simp only [hj] at *
  rw [wanted_put oj a oi.dst v h1] at h
  split
  · rename_i hw
    simp only [hw, if_true] at h
    unfold Oper.still at *
    rw [execOp_put oj hsj a oi.dst v h1] at h
    generalize (execOp a.eval oj).run P w = r at *
    cases r with
    | ok n w' =>
      cases n <;> simp only [Oper.stillUpon] at h ⊢
      case value u => exact ⟨h.1, hR a hy u, by rw [← Act.put_comm a v u h2]; exact h.2⟩
      case skip => exact ⟨h.1, hR a hy _, by rw [← Act.put_comm a v undef h2]; exact h.2⟩
      case enter f args => obtain ⟨hw', u, hc, hn⟩ := h; exact ⟨hw', u, hc, hR a hy u, by rw [← Act.put_comm a v u h2]; exact hn⟩
    | halt x w' => simp only [Oper.stillUpon] at h
  · rename_i hw
    simp only [hw] at h
    exact ⟨hR a hy _, by rw [← Act.put_comm a v undef h2]; exact h⟩

/-- The operations ahead of n in whatever order, as far as those behind don't come among them. -/
def wpM (P : Program) (md : Region.Mode) (ops : Array Oper) (w : World) (n : Nat) (hv : List Nat) (Q : Exit → Act → World → Prop) : Nat → Array Bool → Act → Prop
  | 0, listed, a => wpAny P md ops Q 0 listed a w
  | f + 1, listed, a =>
    (¬ AllH hv listed → Region.ready md ops listed ≠ [] ∧ ∀ j ∈ Region.ready md ops listed, j < n) ∧
    (∀ j ∈ Region.ready md ops listed, j < n → stOp P ops w j (wpM P md ops w n hv Q f (listed.setIfInBounds j true)) a) ∧
    (AllH hv listed → wpAny P md ops Q (f + 1) listed a w)

theorem wpM_any {n : Nat} {hv : List Nat} {Q : Exit → Act → World → Prop} : ∀ (f : Nat) (listed : Array Bool) (a : Act), wpM P md ops w n hv Q f listed a → wpAny P md ops Q f listed a w
  | 0, _, _, h => h
  | f + 1, listed, a, h => by
    by_cases hA : AllH hv listed
    · exact h.2.2 hA
    · exact ⟨fun h0 => absurd h0 (h.1 hA).1, fun i hi => wpOp_of_stOp (fun a' h' => wpM_any f _ a' h') (h.2.1 i hi ((h.1 hA).2 i hi))⟩

theorem panic_put {Q : Exit → Act → World → Prop} (hQ : ∀ c a (d : Tmp) v w, Q (.panic c) (a.put (some d) v) w → Q (.panic c) a w) (d : Option Tmp) (v : Value) : ∀ c a w, Q (.panic c) (a.put d v) w → Q (.panic c) a w := fun c a w h => by
  cases d with
  | none => exact h
  | some d => exact hQ c a d v w h

theorem wpM_first {n i : Nat} {hv : List Nat} {oi : Oper} {v : Value} {Q : Exit → Act → World → Prop} (hi : ops[i]? = some oi) (hsel : ∀ (j : Nat) (o : Oper) cs b, ops[j]? = some o → o.op ≠ .select cs b)
    (hs : sinkH md ops n hv = true) (hc : chainW md ops n = true) (hin : i < n) (hQ : ∀ c a (d : Tmp) v w, Q (.panic c) (a.put (some d) v) w → Q (.panic c) a w) :
    ∀ (f : Nat) (listed : Array Bool) (a : Act), HeadInv md ops n listed →
      (∀ j oj, ops[j]? = some oj → j ≠ i → listed.getD j true = false → (∀ e ∈ oj.after, Region.binds md e = true → e.on ≠ i) → oi.apart ops oj = true) →
      i ∈ Region.ready md ops listed → YieldsAt P ops w oi v a → (i ∉ hv → Yields P ops oi v a) →
      wpM P md ops w n hv Q f (listed.setIfInBounds i true) (a.put oi.dst v) → wpM P md ops w n hv Q (f + 1) listed a := by
  intro f
  induction f with
  | zero =>
    intro listed a inv hfree hr hy hl H
    have hun := (mem_ready.1 hr).1
    refine ⟨fun hA => ⟨fun h => (by rw [h] at hr; cases hr), fun j hj => ?_⟩, fun j hj hjn => ?_, fun hA => ?_⟩
    · rcases Nat.lt_or_ge j n with h | h
      · exact h
      · exfalso
        apply hA
        intro k hk
        cases hl : listed.getD k false with
        | true => rfl
        | false =>
          have h3 := List.all_eq_true.1 hs k hk
          simp only [Bool.and_eq_true, decide_eq_true_eq] at h3
          obtain ⟨oj, hoj⟩ : ∃ o, ops[j]? = some o := ⟨_, (mem_ready.1 hj).2.choose_spec.1⟩
          have hjs : j < ops.size := (Array.getElem?_eq_some_iff.1 hoj).1
          exact absurd hj (tail_waitsH hs hc inv _ k rfl hk (getD_in (by rw [inv.size]; omega) hl) j h)
    · by_cases hji : j = i
      · subst hji; exact hy.stOp hi H
      · have := ready_mono hj hji
        have h0 : Region.ready md ops (listed.setIfInBounds i true) = [] := H.1
        rw [h0] at this
        cases this
    · have hni : i ∉ hv := fun hm => by have h1 := hA i hm; rw [getD_both hun] at h1; cases h1
      exact wpAny_first hi hsel (panic_put hQ _ _) 0 listed a w hfree hr (hl hni) H
  | succ f ih =>
    intro listed a inv hfree hr hy hl H
    have hun := (mem_ready.1 hr).1
    refine ⟨fun hA => ⟨fun h => (by rw [h] at hr; cases hr), fun j hj => ?_⟩, fun j hj hjn => ?_, fun hA => ?_⟩
    · rcases Nat.lt_or_ge j n with h | h
      · exact h
      · exfalso
        apply hA
        intro k hk
        cases hl : listed.getD k false with
        | true => rfl
        | false =>
          have h3 := List.all_eq_true.1 hs k hk
          simp only [Bool.and_eq_true, decide_eq_true_eq] at h3
          obtain ⟨oj, hoj⟩ : ∃ o, ops[j]? = some o := ⟨_, (mem_ready.1 hj).2.choose_spec.1⟩
          have hjs : j < ops.size := (Array.getElem?_eq_some_iff.1 hoj).1
          exact absurd hj (tail_waitsH hs hc inv _ k rfl hk (getD_in (by rw [inv.size]; omega) hl) j h)
    · by_cases hji : j = i
      · subst hji; exact hy.stOp hi H
      · have h1 := H.2.1 j (ready_mono hj hji) hjn
        obtain ⟨hjun, oj, hoj, hall⟩ := mem_ready.1 hj
        have hnot : ∀ e ∈ oj.after, Region.binds md e = true → e.on ≠ i := fun e he hb heq => by
          have h1 := hall e he hb
          rw [heq, getD_both hun] at h1
          cases h1
        have hap := hfree j oj hoj hji hjun hnot
        obtain ⟨_, _, a3⟩ := Oper.apart_spec hap
        have h2 := stOp_putR (R := fun a' => YieldsAt P ops w oi v a' ∧ (i ∉ hv → Yields P ops oi v a')) hoj hap (fun cs b => hsel j oj cs b hoj)
          (fun a ha u => ⟨ha.1.of_same (execOp_put oi (fun cs b => hsel i oi cs b hi) a oj.dst u a3) (wanted_put oi a oj.dst u a3), fun hm => by
            have h := ha.2 hm
            unfold Yields at *
            rw [execOp_put oi (fun cs b => hsel i oi cs b hi) a oj.dst u a3, wanted_put oi a oj.dst u a3]
            exact h⟩) ⟨hy, hl⟩ h1
        have hfree' : ∀ k ok, ops[k]? = some ok → k ≠ i → (listed.setIfInBounds j true).getD k true = false →
            (∀ e ∈ ok.after, Region.binds md e = true → e.on ≠ i) → oi.apart ops ok = true := fun k ok hk hki hun hno => by
          refine hfree k ok hk hki ?_ hno
          by_cases hjk : j = k
          · subst hjk; exact hjun
          · rw [getD_set_ne true hjk] at hun; exact hun
        refine stOp_mono (fun a' h3 => ih (listed.setIfInBounds j true) a' (inv.set hj hjn) hfree' (ready_mono hr (Ne.symm hji)) h3.1.1 h3.1.2 ?_) h2
        rw [Array.setIfInBounds_comm _ _ hji]
        exact h3.2
    · have hni : i ∉ hv := fun hm => by have h1 := hA i hm; rw [getD_both hun] at h1; cases h1
      have hA' : AllH hv (listed.setIfInBounds i true) := fun k hk => getD_set_true (hA k hk)
      exact wpAny_first hi hsel (panic_put hQ _ _) (f + 1) listed a w hfree hr (hl hni) (H.2.2 hA')

/-- The operations ahead, in the order of the text; those that aren't heavy yield the same in whatever memory. -/
def wpHd (P : Program) (ops : Array Oper) (w : World) (hv : List Nat) (Q : Act → Prop) : Nat → List Oper → Act → Prop
  | _, [], a => Q a
  | k, o :: rest, a => ∃ v, YieldsAt P ops w o v a ∧ (k ∉ hv → Yields P ops o v a) ∧ wpHd P ops w hv Q (k + 1) rest (a.put o.dst v)

theorem wpHd_nil {hv : List Nat} {Q : Act → Prop} {k : Nat} {a : Act} (h : Q a) : wpHd P ops w hv Q k [] a := h

theorem yieldsAt_of {o : Oper} {a : Act} {K : Act → Prop} (h : if Region.wanted o (yielded ops a.tmps) then o.still P a w K else K (a.put o.dst undef)) : ∃ v, YieldsAt P ops w o v a ∧ K (a.put o.dst v) := by
  by_cases hw : Region.wanted o (yielded ops a.tmps) = true
  · simp only [hw, if_true, Oper.still] at h
    generalize hr : (execOp a.eval o).run P w = r at h
    cases r with
    | ok n w' =>
      cases n <;> simp only [Oper.stillUpon] at h
      case value u => obtain ⟨rfl, h2⟩ := h; exact ⟨u, .inl ⟨hw, .inl hr⟩, h2⟩
      case skip => obtain ⟨rfl, h2⟩ := h; exact ⟨undef, .inl ⟨hw, .inr (.inl ⟨hr, rfl⟩)⟩, h2⟩
      case enter f args => obtain ⟨rfl, v, hc, h2⟩ := h; exact ⟨v, .inl ⟨hw, .inr (.inr ⟨f, args, hr, hc⟩)⟩, h2⟩
    | halt x w' => simp only [Oper.stillUpon] at h
  · simp only [hw] at h
    exact ⟨undef, .inr ⟨by simpa using hw, rfl⟩, h⟩

/-- A step of a heavy operation. -/
theorem wpHd_step {hv : List Nat} {Q : Act → Prop} {k : Nat} {a : Act} {o : Oper} {rest : List Oper} (hk : hv.contains k = true)
    (h : ∀ K : Act → Prop, (∀ a, wpHd P ops w hv Q (k + 1) rest a → K a) → if Region.wanted o (yielded ops a.tmps) then o.still P a w K else K (a.put o.dst undef)) : wpHd P ops w hv Q k (o :: rest) a := by
  obtain ⟨v, hy, hK⟩ := yieldsAt_of (h _ fun _ h => h)
  exact ⟨v, hy, fun hn => absurd (List.contains_iff_mem.1 hk) hn, hK⟩

theorem wpHd_light {hv : List Nat} {Q : Act → Prop} {k : Nat} {a : Act} {o : Oper} {rest : List Oper} {v : Value} (hg : o.guard = none) (hy : ∀ w, (execOp a.eval o).run P w = .ok (.value v) w)
    (h : wpHd P ops w hv Q (k + 1) rest (a.put o.dst v)) : wpHd P ops w hv Q k (o :: rest) a := by
  have hw : Region.wanted o (yielded ops a.tmps) = true := by unfold Region.wanted; rw [hg]
  exact ⟨v, .inl ⟨hw, .inl (hy w)⟩, fun _ => .inl ⟨hw, hy⟩, h⟩

/-- A light one: a value moved. -/
theorem wpHd_move {hv : List Nat} {Q : Act → Prop} {k : Nat} {a : Act} {o : Oper} {rest : List Oper} (x : Operand) (hg : o.guard = none) (ho : o.op = .move x)
    (h : wpHd P ops w hv Q (k + 1) rest (a.put o.dst (a.eval x))) : wpHd P ops w hv Q k (o :: rest) a :=
  wpHd_light hg (fun w => by unfold execOp; simp only [ho]; rfl) h

/-- A light one: the lesser of two integers. -/
theorem wpHd_min {hv : List Nat} {Q : Act → Prop} {k : Nat} {a : Act} {o : Oper} {rest : List Oper} (x y : Operand) (ts : Array TypeId) (hg : o.guard = none) (ho : o.op = .call { callee := .builtin .min, args := #[x, y], argTypes := ts })
    {kx ky : IntKind} {m n : Int} (hx : a.eval x = .int kx m) (hy : a.eval y = .int ky n)
    (h : wpHd P ops w hv Q (k + 1) rest (a.put o.dst (.int kx (if n < m then n else m)))) : wpHd P ops w hv Q k (o :: rest) a :=
  wpHd_light hg (fun w => by
    unfold execOp
    simp only [ho]
    simp [resolve, invoke, builtin, Builtin.min_, Builtin.min2, hx, hy]) h

/-- The first operations may come in the order of the text; then t holds. -/
def lexTo (md : Region.Mode) (ops : Array Oper) (t : Array Bool → Bool) : Nat → Nat → Array Bool → Bool
  | 0, _, listed => t listed
  | f + 1, k, listed => (Region.ready md ops listed).contains k && Region.free md ops listed k && lexTo md ops t f (k + 1) (listed.setIfInBounds k true)

theorem wpM_lex {n g : Nat} {hv : List Nat} {Q : Exit → Act → World → Prop} {Lq : Act → Prop} {t : Array Bool → Bool} (hsel : Region.noSelect ops = true) (hs : sinkH md ops n hv = true) (hc : chainW md ops n = true)
    (hQ : ∀ c a (d : Tmp) v w, Q (.panic c) (a.put (some d) v) w → Q (.panic c) a w) (hL : ∀ listed a, t listed = true → Lq a → wpAny P md ops Q (g + 1) listed a w) :
    ∀ (l : List Oper) (k : Nat) (listed : Array Bool) (a : Act), (∀ j, j < l.length → l[j]? = ops[k + j]?) → k + l.length = n → HeadInv md ops n listed → (∀ i, i < k → listed.getD i false = true) →
    lexTo md ops t l.length k listed = true → wpHd P ops w hv Lq k l a →
    wpM P md ops w n hv Q (l.length + (g + 1)) listed a
  | [], k, listed, a, _, hk, inv, hd, hB, h => by
    have hk' : k = n := by simpa using hk
    subst hk'
    have hA : AllH hv listed := fun i hi => by
      have h3 := List.all_eq_true.1 hs i hi
      simp only [Bool.and_eq_true, decide_eq_true_eq] at h3
      exact hd i h3.1
    rw [List.length_nil, Nat.zero_add]
    refine ⟨fun hn => absurd hA hn, fun j hj hjn => ?_, fun _ => hL listed a (by simpa [lexTo] using hB) h⟩
    have h1 := (mem_ready.1 hj).1
    rw [← Bool.not_eq_true] at h1
    exfalso
    apply h1
    have h2 := hd j hjn
    rcases Nat.lt_or_ge j listed.size with h' | h'
    · simp [h'] at h2 ⊢; exact h2
    · simp [Array.getElem?_eq_none h'] at h2
  | o :: l, k, listed, a, hl, hk, inv, hd, hB, h => by
    have h0 : ops[k]? = some o := by simpa using (hl 0 (by simp)).symm
    simp only [List.length_cons, lexTo, Bool.and_eq_true] at hB
    obtain ⟨⟨hr, hf⟩, hB'⟩ := hB
    have hkn : k < n := by simp only [List.length_cons] at hk; omega
    have hr' : k ∈ Region.ready md ops listed := by simpa using hr
    obtain ⟨v, hy, hly, hK⟩ := h
    have hks : k < listed.size := by rw [inv.size]; exact (Array.getElem?_eq_some_iff.1 h0).1
    have ih := wpM_lex hsel hs hc hQ hL l (k + 1) (listed.setIfInBounds k true) (a.put o.dst v) (fun j hj => by have := hl (j + 1) (by simp; omega); simpa [Nat.add_assoc, Nat.add_comm 1 j] using this)
      (by simp only [List.length_cons] at hk; omega) (inv.set hr' hkn) (fun i hi => by
        by_cases e : i = k
        · subst e; simp [hks]
        · exact getD_set_true (hd i (by omega))) hB' hK
    have := wpM_first h0 (Region.noSelect_spec hsel) hs hc hkn hQ (l.length + (g + 1)) listed a inv (Region.free_spec h0 hf) hr' hy hly ih
    rw [List.length_cons, show l.length + 1 + (g + 1) = l.length + (g + 1) + 1 by omega]
    exact this

/-- What the law asks of a region, for the kernel. -/
def floatB (md : Region.Mode) (ops : Array Oper) (n : Nat) (hv : List Nat) : Bool :=
  Region.noSelect ops && decide (n < ops.size) && sinkH md ops n hv && chainW md ops n && lexTo md ops (fun listed => Region.seqB md ops (ops.size - n) n listed) n 0 (Array.replicate ops.size false)

theorem wp_float {id : Nat} {Q : Exit → Act → World → Prop} {a : Act} {w : World} {l : List Oper} (n : Nat) (hv : List Nat) (hm : P.follows .mixedOrders = true) (hB : floatB .any l.toArray n hv = true)
    (hQ : ∀ c a (d : Tmp) v w, Q (.panic c) (a.put (some d) v) w → Q (.panic c) a w)
    (h : wpHd P l.toArray w.drew hv (fun a' => wpList P l.toArray Q (l.drop n) a' w.drew) 0 (l.take n) a) : (Code.region id l.toArray true).wp P Q a w := by
  simp only [floatB, Bool.and_eq_true, decide_eq_true_eq] at hB
  obtain ⟨⟨⟨⟨hsel, hn⟩, hs⟩, hc⟩, hlex⟩ := hB
  have hn' : n < l.length := by simpa using hn
  have htl : (l.take n).length = n := by simp; omega
  obtain ⟨g, hg⟩ : ∃ g, l.toArray.size - n = g + 1 := ⟨l.toArray.size - n - 1, by omega⟩
  have hdl : (l.drop n).length = g + 1 := by rw [← hg]; simp
  have inv0 : HeadInv .any l.toArray n (Array.replicate l.toArray.size false) :=
    ⟨by simp, fun j oj _ hl => (by rw [getD_replicate_false] at hl; cases hl), fun t _ ht => getD_in (by simpa using ht) (getD_replicate_false _ _)⟩
  rw [hg] at hlex
  refine wp_region_any hm ?_
  have H := wpM_lex (md := .any) (P := P) (g := g) (w := w.drew) (Q := Q) (Lq := fun a' => wpList P l.toArray Q (l.drop n) a' w.drew) hsel hs hc hQ (fun listed a hsq hq => by
    have := wpAny_of_seq (md := .any) (Q' := Q) (l.drop n) n listed a w.drew (fun j => by simp [List.getElem?_drop]) (by rw [hdl]; exact hsq) hq
    rwa [hdl] at this) (l.take n) 0 (Array.replicate l.toArray.size false) a (fun j hj => by
    have hj' : j < n := by rw [htl] at hj; exact hj
    simp [hj']) (by simpa using htl) inv0 (fun i hi => by omega) (by rw [htl]; exact hlex) h
  have := wpM_any _ _ _ H
  rw [htl, show n + (g + 1) = l.toArray.size by omega] at this
  exact this

/-- What the middle leaves to those behind. -/
def midQ (Q : Exit → Act → World → Prop) (J : Act → World → Prop) : Exit → Act → World → Prop
  | .normal, a, w => J a w
  | e, a, w => Q e a w
theorem midQ_normal {Q : Exit → Act → World → Prop} {J : Act → World → Prop} {a : Act} {w : World} (h : J a w) : midQ Q J .normal a w := h

theorem wpOp_mid {Q : Exit → Act → World → Prop} {J : Act → World → Prop} {i : Nat} {K : Act → World → Prop} {a : Act} {w : World} (h : wpOp P ops (midQ Q J) i K a w) : wpOp P ops Q i K a w := by
  unfold wpOp at *
  split
  · rename_i ho; simp only [ho] at h; exact h
  · rename_i o ho
    simp only [ho] at h
    split
    · rename_i hw
      simp only [hw, if_true] at h
      rcases h with h | ⟨h1, h2⟩
      · left
        unfold Oper.wp at *
        generalize (execOp a.eval o).run P w = r at *
        cases r with
        | ok n w' =>
          cases n <;> simp only [Oper.upon] at h ⊢ <;> exact h
        | halt x w' => cases x <;> simp only [Oper.upon] at h ⊢ <;> exact h
      · exact Or.inr ⟨h1, h2⟩
    · rename_i hw; simp only [hw] at h; exact h

/-- m operations in one forced order, then the others in the order of the text. -/
def seqThen (md : Region.Mode) (ops : Array Oper) (g : Nat) : Nat → Nat → Array Bool → Bool
  | 0, k, listed => Region.lexFrom md ops g k listed
  | m + 1, k, listed => decide (Region.ready md ops listed = [k]) && seqThen md ops g m (k + 1) (listed.setIfInBounds k true)

theorem wpAny_mid {g : Nat} {Q : Exit → Act → World → Prop} {J : Act → World → Prop} {k' : Nat} (hJ : ∀ listed a w, Region.lexFrom md ops g k' listed = true → J a w → wpAny P md ops Q g listed a w) :
    ∀ (l : List Oper) (k : Nat) (listed : Array Bool) (a : Act) (w : World), (∀ j, j < l.length → l[j]? = ops[k + j]?) → k + l.length = k' → seqThen md ops g l.length k listed = true → wpList P ops (midQ Q J) l a w → wpAny P md ops Q (l.length + g) listed a w
  | [], k, listed, a, w, _, hk, hB, h => by
    have : k = k' := by simpa using hk
    subst this
    rw [List.length_nil, Nat.zero_add]
    exact hJ listed a w (by simpa [seqThen] using hB) h
  | o :: l, k, listed, a, w, hl, hk, hB, h => by
    have h0 : ops[k]? = some o := by simpa using (hl 0 (by simp)).symm
    simp only [List.length_cons, seqThen, Bool.and_eq_true, decide_eq_true_eq] at hB
    rw [List.length_cons, show l.length + 1 + g = (l.length + g) + 1 by omega]
    refine ⟨fun h1 => (by rw [hB.1] at h1; cases h1), fun i hi => ?_⟩
    rw [hB.1] at hi
    have hik : i = k := by simpa using hi
    subst hik
    have hw : wpOp P ops (midQ Q J) i (wpList P ops (midQ Q J) l) a w := by unfold wpOp; simp only [h0]; exact h
    exact wpOp_mono (fun a' w' h' => wpAny_mid hJ l (i + 1) _ a' w' (fun j hj => by have := hl (j + 1) (by simp; omega); simpa [Nat.add_assoc, Nat.add_comm 1 j] using this) (by simp only [List.length_cons] at hk; omega) hB.2 h') (wpOp_mid hw)

def midB (md : Region.Mode) (ops : Array Oper) (n m : Nat) : Bool :=
  Region.noSelect ops && decide (0 < m) && decide (n + m ≤ ops.size) && sinkH md ops n (List.range n) && chainW md ops n && lexTo md ops (fun listed => seqThen md ops (ops.size - (n + m)) m n listed) n 0 (Array.replicate ops.size false)

theorem wpHd_of_still {Q : Act → Prop} {n : Nat} : ∀ (l : List Oper) (k : Nat) (a : Act), k + l.length ≤ n → wpStill P ops w Q l a → wpHd P ops w (List.range n) Q k l a
  | [], _, _, _, h => h
  | o :: l, k, a, hk, h => by
    obtain ⟨v, hy, hK⟩ := yieldsAt_of h
    simp only [List.length_cons] at hk
    exact ⟨v, hy, fun hn => absurd (List.mem_range.2 (by omega)) hn, wpHd_of_still l (k + 1) _ (by omega) hK⟩

/-- A region that draws its order: n operations that read, m in one forced order, the others again reading, in the memory that those have left. -/
theorem wp_mid {id : Nat} {Q : Exit → Act → World → Prop} {a : Act} {w : World} {l : List Oper} (n m : Nat) (hm : P.follows .mixedOrders = true) (hB : midB .any l.toArray n m = true)
    (hQ : ∀ c a (d : Tmp) v w, Q (.panic c) (a.put (some d) v) w → Q (.panic c) a w)
    (h : wpStill P l.toArray w.drew (fun a1 => wpList P l.toArray (midQ Q fun a2 w2 => wpStill P l.toArray w2 (fun a3 => Q .normal a3 w2) (l.drop (n + m)) a2) ((l.drop n).take m) a1 w.drew) (l.take n) a) : (Code.region id l.toArray true).wp P Q a w := by
  simp only [midB, Bool.and_eq_true, decide_eq_true_eq] at hB
  obtain ⟨⟨⟨⟨⟨hsel, hm0⟩, hnm⟩, hs⟩, hc⟩, hlex⟩ := hB
  have hnm' : n + m ≤ l.length := by simpa using hnm
  have htl : (l.take n).length = n := by simp; omega
  have hml : ((l.drop n).take m).length = m := by simp; omega
  obtain ⟨g, hg⟩ : ∃ g, l.toArray.size - n = g + 1 := ⟨l.toArray.size - n - 1, by simp; omega⟩
  have inv0 : HeadInv .any l.toArray n (Array.replicate l.toArray.size false) :=
    ⟨by simp, fun j oj _ hl => (by rw [getD_replicate_false] at hl; cases hl), fun t _ ht => getD_in (by simpa using ht) (getD_replicate_false _ _)⟩
  have hdl : (l.drop (n + m)).length = l.toArray.size - (n + m) := by simp
  refine wp_region_any hm ?_
  have H := wpM_lex (md := .any) (P := P) (g := g) (w := w.drew) (Q := Q) (hv := List.range n) (n := n) (Lq := fun a1 => wpList P l.toArray (midQ Q fun a2 w2 => wpStill P l.toArray w2 (fun a3 => Q .normal a3 w2) (l.drop (n + m)) a2) ((l.drop n).take m) a1 w.drew)
    (t := fun listed => seqThen .any l.toArray (l.toArray.size - (n + m)) m n listed) hsel hs hc hQ (fun listed a hsq hq => by
    have := wpAny_mid (md := .any) (Q := Q) (g := l.toArray.size - (n + m)) (k' := n + m) (fun listed a w hlx hj => by
      have hS := wpAnyS_lex (md := .any) hsel (l.drop (n + m)) (n + m) listed a (fun j => by simp [List.getElem?_drop]) (by rw [hdl]; exact hlx) hj
      have := wpAny_of_still (Q' := Q) (fun a h => h) _ _ _ hS
      rwa [hdl] at this) ((l.drop n).take m) n listed a w.drew (fun j hj => by
        have hj' : j < m := by rw [hml] at hj; exact hj
        simp [hj', List.getElem?_drop]) (by rw [hml]) (by rw [hml]; exact hsq) hq
    rw [hml, show m + (l.toArray.size - (n + m)) = g + 1 by omega] at this
    exact this) (l.take n) 0 (Array.replicate l.toArray.size false) a (fun j hj => by
    have hj' : j < n := by rw [htl] at hj; exact hj
    simp [hj']) (by simpa using htl) inv0 (fun i hi => by omega) (by rw [htl]; exact hlex) (wpHd_of_still _ 0 a (by rw [htl]; omega) h)
  have := wpM_any _ _ _ H
  rw [htl, show n + (g + 1) = l.toArray.size by simp at *; omega] at this
  exact this
end
end Go.Wr
