/- The document's pieces of a claim. -/
import Derived.Test.YtfdjdpbiccclfaaDEg
import Derived.Laws.AppendOwnNone
import Derived.Deep.RegionHeld3
import Derived.Deep.AppendLies
namespace Go.Proofs.Ytfdjdpbiccclfaa
open Go Go.RowKit Go.Wr
set_option maxHeartbeats 4000000
set_option maxRecDepth 100000

def regsP (f : Nat → Tg) (k : Nat) : List Pc := (List.range k).flatMap fun i => tagP (f i) false
def slotP (f : Nat → Tg) (i : Nat) : List Pc := if f (10 + i) = tz then [] else ⟨1, i⟩ :: tagP (f (10 + i)) true
def slotsP (f : Nat → Tg) (k : Nat) : List Pc := (List.range k).flatMap (slotP f)
def conP (x : C3) : List Pc := [⟨1, x.i⟩, ⟨1, x.j⟩, ⟨3, x.c⟩]
def consP (l : List C3) (k : Nat) : List Pc := (l.take k).flatMap conP
def claimP (d : Bool) (f : Nat → Tg) (l : List C3) : List Pc :=
  if d = true then [⟨1, 0⟩] else [⟨1, 1⟩] ++ regsP f 10 ++ [⟨2, toldN f 32⟩] ++ slotsP f 32 ++ [⟨2, l.length⟩] ++ consP l l.length
theorem regsP_succ (f : Nat → Tg) (k : Nat) : regsP f (k + 1) = regsP f k ++ tagP (f k) false := by simp [regsP, List.range_succ]
theorem slotsP_succ (f : Nat → Tg) (k : Nat) : slotsP f (k + 1) = slotsP f k ++ slotP f k := by simp [slotsP, List.range_succ]
theorem consP_succ (l : List C3) (k : Nat) (x : C3) (h : l[k]? = some x) : consP l (k + 1) = consP l k ++ conP x := by
  unfold consP
  rw [List.take_add_one, h]
  simp
theorem regsP_len (f : Nat → Tg) (k : Nat) : (regsP f k).length ≤ 2 * k := by
  induction k with
  | zero => simp [regsP]
  | succ k ih =>
    rw [regsP_succ, List.length_append]
    have := tagP_len (f k) false
    omega
theorem slotP_len (f : Nat → Tg) (k : Nat) : (slotP f k).length ≤ 3 := by
  unfold slotP
  split
  · simp
  · have := tagP_len (f (10 + k)) true
    simp only [List.length_cons]
    omega
theorem slotsP_len (f : Nat → Tg) (k : Nat) : (slotsP f k).length ≤ 3 * k := by
  induction k with
  | zero => simp [slotsP]
  | succ k ih =>
    rw [slotsP_succ, List.length_append]
    have := slotP_len f k
    omega
theorem consP_len (l : List C3) (k : Nat) : (consP l k).length ≤ 3 * k := by
  induction k generalizing l with
  | zero => simp [consP]
  | succ k ih =>
    cases l with
    | nil => simp [consP]
    | cons x l =>
      have := ih l
      have e : consP (x :: l) (k + 1) = conP x ++ consP l k := by simp [consP]
      rw [e, List.length_append]
      simp only [conP, List.length_cons, List.length_nil]
      omega
theorem tagpieces_eq (w : World) (B : Nat) (v : Value) (l : List Pc) (h : OwP B w v l) (hB : B ≤ w.heap.size) (hl : l.length ≤ 1099511000000) (t : Tg) (slot : Bool) {a b c : Int} (ha : a = t.k) (hb : b = t.t) (hc : c = t.m) :
    Calls Try.prog 53 #[v, .agg #[.int .i64 a, .int .i64 b, .int .i64 c], .bool slot] w (PuP B w (l ++ tagP t slot)) := by
  subst ha hb hc
  exact tagpieces_ok w B v l h hB hl t slot
theorem guardT : Try.prog.eqGuardType Try.prog.depth 56 = false := by kernel_rfl

/-- A row of pieces, and a claim's block of the function's own that stays. -/
structure PW (B q : Nat) (w : World) (C : Array Value) (l : List Pc) (v : Value) (wr : World) : Prop where
  ow : OwP B wr v l
  fr : Ft 80 B w wr
  blk : Blk wr q 61 C
theorem PW.next {B q : Nat} {w wr w' : World} {C : Array Value} {l l' : List Pc} {v v' : Value} (h : PW B q w C l v wr) (hf : Ft 80 B wr w') (ho : OwP B w' v' l') : PW B q w C l' v' w' :=
  ⟨ho, h.fr.trans hf, hf.blk h.blk (by decide)⟩
theorem PW.size {B q : Nat} {w wr : World} {C : Array Value} {l : List Pc} {v : Value} (h : PW B q w C l v wr) (hB : B ≤ w.heap.size) : B ≤ wr.heap.size := Nat.le_trans hB h.fr.size
theorem OwP.keep {B B' : Nat} {w w' : World} {v : Value} {l : List Pc} (h : OwP B w v l) (hs : w.heap.size ≤ B') (hf : Ft 80 B' w w') : OwP B w' v l := by
  obtain ⟨h1, h2⟩ := h
  refine ⟨h1, ?_⟩
  rcases h2 with h2 | ⟨g, cap, cur, rfl, hb, hh, r⟩
  · exact Or.inl h2
  · exact Or.inr ⟨g, cap, cur, rfl, hb, hf.block g _ hh (Or.inl (by have := lt_of_heap hh; omega)), r⟩

theorem ownp_form {B : Nat} {w : World} {v : Value} {l : List Pc} (h : OwP B w v l) : (v = .slice none 0 0 ∧ l = []) ∨ ∃ g cap cur, v = .slice (some ⟨g, 0, none⟩) l.length cap ∧ B ≤ g ∧ Blk w g 80 cur ∧ cur.toList.take (l.length * 2) = pcC l := by
  obtain ⟨_, h2⟩ := h
  rcases h2 with ⟨rfl, h0⟩ | ⟨g, cap, cur, rfl, hg, hb, _, _, _, htk⟩
  · exact Or.inl ⟨rfl, List.eq_nil_of_length_eq_zero h0⟩
  · exact Or.inr ⟨g, cap, cur, rfl, hg, hb, htk⟩
theorem Ft.mono {T : TypeId} {B B' : Nat} {w w' : World} (h : Ft T B w w') (hB : B' ≤ B) : Ft T B' w w' :=
  ⟨h.os, h.tape, h.output, h.size, fun k o h1 h2 => h.block k o h1 (h2.imp (fun h => by omega) id)⟩
theorem Ft.drew {T : TypeId} {B : Nat} {w w' : World} (h : Ft T B w w') : Ft T B w w'.drew := ⟨h.os, h.tape, h.output, h.size, h.block⟩
theorem OwP.apart {B b : Nat} {w : World} {v : Value} {l : List Pc} {T : TypeId} {C : Array Value} (h : OwP B w v l) (hb : Blk w b T C) (hT : T ≠ 80) : v.ownBlock ≠ some b := fun e => by
  rcases ownp_form h with ⟨rfl, _⟩ | ⟨g, cap, cur, rfl, _, hg, _⟩
  · cases e
  · simp only [Value.ownBlock, Option.some.injEq] at e
    subst e
    have h1 : w.heap[g]? = _ := hb
    have h2 : w.heap[g]? = _ := hg
    rw [h1] at h2
    injection h2 with h2
    injection h2 with _ h2
    exact hT h2
theorem OwP.lowApart {B b : Nat} {w : World} {v : Value} {l : List Pc} (h : OwP B w v l) (hb : b < B) : v.ownBlock ≠ some b := fun e => by
  rcases ownp_form h with ⟨rfl, _⟩ | ⟨g, cap, cur, rfl, hg, _⟩
  · cases e
  · simp only [Value.ownBlock, Option.some.injEq] at e
    omega
theorem OwP.far {B : Nat} {w w' : World} {v : Value} {l : List Pc} {row : Option Nat} (h : OwP B w v l) (hg : w.grownBy w' row) (hne : ∀ g, v.ownBlock = some g → row ≠ some g) : OwP B w' v l := by
  obtain ⟨h1, h2⟩ := h
  refine ⟨h1, ?_⟩
  rcases h2 with h2 | ⟨g, cap, cur, rfl, hb, hh, r⟩
  · exact Or.inl h2
  · refine Or.inr ⟨g, cap, cur, rfl, hb, ?_, r⟩
    rw [hg.block g (lt_of_heap hh) (fun e => hne g rfl e.symm)]
    exact hh
theorem OwP.own_lt {B : Nat} {w : World} {v : Value} {l : List Pc} (h : OwP B w v l) {g : Nat} (e : v.ownBlock = some g) : B ≤ g ∧ g < w.heap.size := by
  rcases ownp_form h with ⟨rfl, _⟩ | ⟨g', cap, cur, rfl, hg, hb, _⟩
  · cases e
  · simp only [Value.ownBlock, Option.some.injEq] at e
    subst e
    exact ⟨hg, lt_of_heap hb⟩

/-- As wpl_push; which block may have turned is told too. -/
theorem wpl_pushG {ops : Array Oper} {rest : List Oper} {op : Oper} {a : Act} {w : World} {Q : Exit → Act → World → Prop} (hgd : op.guard = none) (s x : Operand)
    (ho : op.op = .call { callee := .builtin .append, args := #[s, x], argTypes := #[78, 78] })
    (B : Nat) (v : Value) (l : List Pc) (hs : a.eval s = v) (hown : OwP B w v l)
    (g n c : Nat) (m : List Pc) (hx : a.eval x = .slice (some ⟨g, 0, none⟩) n c) (hn : n = m.length) (hnews : ∀ j u, (pcC m)[j]? = some u → w.cell? ⟨g, j, none⟩ = some u)
    (hl : l.length + m.length ≤ 1099511627776) (hB : B ≤ w.heap.size)
    (h : ∀ v' w', OwP B w' v' (l ++ m) → w.grownBy w' v.ownBlock → wpList Try.prog ops Q rest (a.put op.dst v') w') : wpList Try.prog ops Q (op :: rest) a w := by
  obtain ⟨i, hi, hz0, hz1, hz2⟩ := info_parts infoP
  subst hn
  refine wpList_append_own w hgd s x _ ho B 80 i _ 2 16 Try.underlying78 hi hz0 hz1 hz2 rfl (by omega) v l.length (pcC l) hs hown ⟨g, 0, none⟩ m.length c (pcC m) hx (pcC_len m) (fun j u hj => by rw [Addr.add_lit, Nat.zero_add]; exact hnews j u hj) (pcC_one m) (by unfold maxLen; omega) (by omega) hB ?_
  intro v' w' h1 h2 _
  refine h v' w' ?_ h2
  unfold OwP
  rw [pcC_append, List.length_append]
  exact h1
/-- A row of its own is put behind another. -/
theorem wpl_pushAll {ops : Array Oper} {rest : List Oper} {op : Oper} {a : Act} {w : World} {Q : Exit → Act → World → Prop} (hgd : op.guard = none) (s x : Operand)
    (ho : op.op = .call { callee := .builtin .append, args := #[s, x], argTypes := #[78, 78] })
    (B B2 : Nat) (v : Value) (l : List Pc) (hs : a.eval s = v) (hown : OwP B w v l) (mv : Value) (m : List Pc) (hx : a.eval x = mv) (hm : OwP B2 w mv m)
    (hl : l.length + m.length ≤ 1099511627776) (hB : B ≤ w.heap.size)
    (h : ∀ v' w', OwP B w' v' (l ++ m) → Ft 80 B w w' → wpList Try.prog ops Q rest (a.put op.dst v') w') : wpList Try.prog ops Q (op :: rest) a w := by
  rcases ownp_form hm with ⟨rfl, rfl⟩ | ⟨g, cap, cur, rfl, hg, hb, htk⟩
  · obtain ⟨i, hi, hz0, hz1, hz2⟩ := info_parts infoP
    refine wpList_append_own_none hgd s x _ ho B 80 i 2 Try.underlying78 hi v l.length (pcC l) hs hown hx ?_
    exact h v w (by rw [List.append_nil]; exact hown) (Ft.refl _ _ _)
  · refine wpl_push hgd s x ho B v l hs hown g m.length cap m hx rfl (fun j u hu => ?_) hl hB h
    rw [hb.cell j]
    rw [← htk, List.getElem?_take] at hu
    split at hu
    · simpa using hu
    · cases hu

theorem claimpieces_dead (w : World) (B : Nat) (v : Value) (l : List Pc) (h : OwP B w v l) (hB : B ≤ w.heap.size) (hl : l.length ≤ 1099510000000) (f : Nat → Tg) (vc : Value) (c : List C3) :
    Calls Try.prog 34 #[v, .agg (bx (.bool true) f vc)] w (PuP B w (l ++ claimP true f c)) := by
  have H := Lib.hid h
  clear h
  obtain ⟨R, hR⟩ : ∃ R, R = l ++ claimP true f c := ⟨_, rfl⟩
  rw [← hR]
  have HR := Lib.hid hR
  clear hR
  go_enter Try.func34, Try.ntmps34
  go_upto_region 1 with (fail)
  generalize hW : (w.alloc (.cells (bx (.bool true) f vc) 61)) = W
  have hf : Ft 80 B w W := by rw [← hW]; exact (Ft.refl _ _ _).alloc _
  have QB : Blk W w.heap.size 61 (bx (.bool true) f vc) := by rw [← hW]; exact Blk.new _ _ _
  have HO : Hid (OwP B W v l) := by rw [← hW]; exact H.out.alloc _
  have c0 := (QB.cell 0).trans (bx_zero _ _ _)
  have hs := hf.size
  clear hW QB
  go_wp2_with (at_builtin; refine wpl_push rfl _ _ rfl B v l rfl (HO.out.alloc _) _ _ _ [⟨1, 0⟩] rfl rfl (newsAt rfl rfl) (by simp; omega) (by simp; omega) ?_; intro v1 w1 ho1 hb1)
  go_ret
  exact ⟨(hf.alloc _).trans hb1, v1, rfl, by rw [HR.out]; exact ho1⟩

theorem claimpieces_live (w : World) (B : Nat) (v : Value) (l : List Pc) (h : OwP B w v l) (hB : B ≤ w.heap.size) (hl : l.length ≤ 1099510000000) (f : Nat → Tg) (vc : Value) (c : List C3) (hc : SlC B w vc c) (hcl : c.length ≤ 3600) :
    Calls Try.prog 34 #[v, .agg (bx (.bool false) f vc)] w (PuP B w (l ++ claimP false f c)) := by
  obtain ⟨R, hR⟩ : ∃ R, R = l ++ claimP false f c := ⟨_, rfl⟩
  rw [← hR]
  have HR := Lib.hid hR
  clear hR
  have HV := Lib.hid hc
  obtain ⟨a0, cap, rfl, _⟩ := hc
  have H := Lib.hid h
  clear h
  go_enter Try.func34, Try.ntmps34
  go_upto_region 1 with (fail)
  generalize hW : (w.alloc (.cells (bx (.bool false) f (.slice a0 c.length cap)) 61)) = W
  have PW0 : PW B w.heap.size w (bx (.bool false) f (.slice a0 c.length cap)) l v W := by
    rw [← hW]
    exact ⟨H.out.alloc _, (Ft.refl _ _ _).alloc _, Blk.new _ _ _⟩
  have c0 := (PW0.blk.cell 0).trans (bx_zero _ _ _)
  have hBW := PW0.size hB
  have hql := PW0.blk.lt
  have H0 := Lib.hid PW0
  clear hW PW0 H
  go_wp2_with (at_builtin; refine wpl_push rfl _ _ rfl B v l rfl (H0.out.ow.alloc _) _ _ _ [⟨1, 1⟩] rfl rfl (newsAt rfl rfl) (by simp; omega) (by simp; omega) ?_; intro v1 w1 ho1 hb1)
  have H1 := Lib.hid (H0.out.next (((Ft.refl _ _ _).alloc _).trans hb1) ho1)
  clear H0 ho1 hb1 hBW hql c0
  go_loopw [0, 5] (fun v t wr => ∃ k : Nat, k ≤ 10 ∧ t = .int .i64 k ∧ PW B w.heap.size w (bx (.bool false) f (.slice a0 c.length cap)) (l ++ [⟨1, 1⟩] ++ regsP f k) v wr) (fun _ t _ => 10 - (intOf t).toNat)
  case atStart => exact ⟨0, by omega, rfl, by simpa [regsP] using H1.out⟩
  case round =>
    obtain ⟨k, hk, rfl, hpw⟩ := hrel
    by_cases hlt : k < 10
    · have hlt' : (k : Int) < 10 := by omega
      obtain ⟨b0, b1, b2⟩ := bx_tag (.bool false) f (.slice a0 c.length cap) (show k < 42 by omega)
      have d0 := (hpw.blk.cell (1 + k * 3)).trans b0
      have d1 := (hpw.blk.cell (1 + k * 3 + 1)).trans b1
      have d2 := (hpw.blk.cell (1 + k * 3 + 2)).trans b2
      have hql := hpw.blk.lt
      have hBr := hpw.size hB
      have hrl := regsP_len f k
      have HP := Lib.hid hpw
      clear hpw b0 b1 b2 H1
      go_wp2_with fail
      refine (tagpieces_ok wr B _ _ HP.out.ow hBr (by simp; omega) (f k) false).mono ?_
      rintro e w2 ⟨hf, v2, rfl, ho⟩
      have h2 := HP.out.next hf ho
      rw [List.append_assoc, ← regsP_succ] at h2
      have H2 := Lib.hid h2
      clear h2 hf ho HP d0 d1 d2
      go_wp2
      go_roundw
      case rel => exact ⟨k + 1, by omega, by go_num, H2.out⟩
      case measure => simp [intOf]; omega
    · obtain rfl : k = 10 := by omega
      have hBr := hpw.size hB
      have hrl := regsP_len f 10
      obtain ⟨l1, hl1⟩ : ∃ l1, l1 = l ++ [⟨1, 1⟩] ++ regsP f 10 := ⟨_, rfl⟩
      rw [← hl1] at hpw
      have hll : l1.length ≤ l.length + 21 := by rw [hl1]; simp; omega
      have HL1 := Lib.hid hl1
      have HP := Lib.hid hpw
      clear hpw hl1 hrl H1 hk hlt
      obtain ⟨W2, rfl⟩ : ∃ x : World, x = wr := ⟨_, rfl⟩
      go_wp2
      go_loopw [6, 7, 8] (fun s m t wr => ∃ k : Nat, k ≤ 32 ∧ t = .int .i64 k ∧ s = .int .i64 (toldN f k) ∧ OwP W2.heap.size wr m (slotsP f k) ∧ Ft 80 W2.heap.size W2 wr) (fun _ _ t _ => 32 - (intOf t).toNat)
      case atStart => exact ⟨0, by omega, rfl, rfl, OwP.nil _ _, Ft.refl _ _ _⟩
      case round =>
        obtain ⟨k, hk, rfl, rfl, hom, hfm⟩ := hrel
        have htl := toldN_le f k
        have hsl := slotsP_len f k
        have hqb := hfm.blk HP.out.blk (by decide)
        have hsz := hfm.size
        by_cases hlt : k < 32
        · have hlt' : (k : Int) < 32 := by omega
          obtain ⟨b0, b1, b2⟩ := bx_tag (.bool false) f (.slice a0 c.length cap) (show 10 + k < 42 by omega)
          have c0 := (hqb.cell (1 + (10 + k) * 3)).trans b0
          have c1 := (hqb.cell (1 + (10 + k) * 3 + 1)).trans b1
          have c2 := (hqb.cell (1 + (10 + k) * 3 + 2)).trans b2
          rw [show 1 + (10 + k) * 3 = 31 + k * 3 by omega] at c0 c1 c2
          have hql := hqb.lt
          have hs := toldN_succ f k
          have hS := slotsP_succ f k
          have HM := Lib.hid (And.intro hom hfm)
          have HQ := Lib.hid hqb
          have B0 := b0
          have B1 := b1
          have B2 := b2
          clear b0 b1 b2 hom hfm hqb
          by_cases he : f (10 + k) = tz
          · rw [he] at c0 c1 c2
            rw [if_pos he, Nat.add_zero] at hs
            have hS2 : slotsP f (k + 1) = slotsP f k := by rw [hS]; simp [slotP, he]
            have HS := Lib.hid hS2
            simp only [tz] at c0 c1 c2
            clear he hS hS2
            go_wp2
            go_roundw
            case rel => exact ⟨k + 1, by omega, by go_num, by rw [hs, Nat.add_zero], by rw [HS.out]; exact HM.out⟩
            case measure => simp [intOf]; omega
          · rw [if_neg he] at hs
            have HE := Lib.hid he
            have hne := eqTg_tz he
            have HNE := Lib.hid hne
            have hS2 : slotsP f (k + 1) = slotsP f k ++ [⟨1, (k : Int)⟩] ++ tagP (f (10 + k)) true := by rw [hS]; simp [slotP, he]
            have HS := Lib.hid hS2
            clear he hne hS hS2
            go_wp2_with (first
              | (exact absurd (tz_of (by assumption) (by assumption) (by assumption)) HE.out)
              | (at_builtin; refine wpl_push rfl _ _ rfl W2.heap.size _ (slotsP f k) rfl (HM.out.1.alloc _) _ _ _ [⟨1, (k : Int)⟩] rfl rfl (newsAt rfl rfl) (by simp; omega) (by simp; omega) ?_; intro v5 w5 ho5 hb5; have fm := (Ft.alloc (Ft.refl 80 W2.heap.size wr) (.cells #[.int .i64 1, .int .i64 (k : Int)] 80)).trans hb5; have q5 := fm.blk HQ.out (by decide); have c0 := (q5.cell (1 + (10 + k) * 3)).trans B0; have c1 := (q5.cell (1 + (10 + k) * 3 + 1)).trans B1; have c2 := (q5.cell (1 + (10 + k) * 3 + 2)).trans B2; rw [show 1 + (10 + k) * 3 = 31 + k * 3 by omega] at c0 c1 c2; have M5 := Lib.hid (And.intro ho5 (HM.out.2.trans fm)); have hs5 : W2.heap.size ≤ w5.heap.size := Nat.le_trans hsz fm.size; have hq5 := q5.lt; clear q5 fm ho5 hb5))
            all_goals
              refine (tagpieces_eq w5 W2.heap.size _ _ M5.out.1 hs5 (by simp; omega) (f (10 + k)) true (by omega) (by omega) (by omega)).mono ?_
              rintro e w6 ⟨hf6, v6, rfl, ho6⟩
              have h6 := And.intro ho6 (M5.out.2.trans hf6)
              rw [← HS.out] at h6
              have H6 := Lib.hid h6
              clear h6 hf6 ho6 M5 HM HQ HS HNE HE c0 c1 c2
              go_wp2
              go_roundw
            all_goals first
              | exact ⟨k + 1, by omega, by go_num, by rw [hs]; go_num, H6.out⟩
              | ((repeat apply Exists.intro); exact ⟨⟨k + 1, by omega, by go_num, by rw [hs]; go_num, H6.out⟩, rfl⟩)
              | (simp [intOf]; omega)
        · obtain rfl : k = 32 := by omega
          have hne : ∀ g, u7.ownBlock = some g → u0.ownBlock ≠ some g := fun g e e' => by
            have h1 := hom.own_lt e
            have h2 := HP.out.ow.own_lt e'
            omega
          have HNE := Lib.hid hne
          have HM := Lib.hid hom
          have H0 : Hid (PW B w.heap.size w (bx (.bool false) f (.slice a0 c.length cap)) l1 u0 wr) := ⟨HP.out.ow.keep (Nat.le_refl _) hfm, HP.out.fr.trans (hfm.mono (HP.out.size hB)), hqb⟩
          have hBw := H0.out.size hB
          clear hne hom hfm hqb HP hlt hk
          go_upto_region 18 with (at_builtin; refine wpl_pushG rfl _ _ rfl B u0 l1 rfl (H0.out.ow.alloc _) _ _ _ [⟨2, toldN f 32⟩] rfl rfl (newsAt rfl rfl) (by simp; omega) (by simp; omega) ?_; intro v3 w3 ho3 hg3)
          have f3 : Ft 80 B wr w3 := ((Ft.refl _ B wr).alloc _).trans (Ft.grown (H0.out.ow.alloc _) hg3)
          have M3 := Lib.hid ((HM.out.alloc _).far hg3 HNE.out)
          have H3 := Lib.hid (H0.out.next f3 ho3)
          have hB3 := H3.out.size hB
          have hsl := slotsP_len f 32
          clear H0 HM HNE f3 ho3 hg3 hBw
          go_upto_region 19 with (at_builtin; refine wpl_pushAll rfl _ _ rfl B W2.heap.size v3 _ rfl H3.out.ow u7 (slotsP f 32) rfl M3.out (by simp; omega) hB3 ?_; intro v4 w4 ho4 hb4)
          have h4 := H3.out.next hb4 ho4
          have cv := (h4.blk.cell 127).trans (bx_last _ _ _)
          have hB4 := h4.size hB
          have hql := h4.blk.lt
          have H4 := Lib.hid h4
          clear H3 M3 h4 hb4 ho4 hB3
          go_upto_region 20 with (at_builtin; refine wpl_push rfl _ _ rfl B v4 _ rfl (H4.out.ow.alloc _) _ _ _ [⟨2, c.length⟩] rfl rfl (newsAt rfl rfl) (by simp; omega) (by simp; omega) ?_; intro v5 w5 ho5 hb5)
          have h5 := H4.out.next (((Ft.refl _ B w4).alloc _).trans hb5) ho5
          obtain ⟨l5, hl5⟩ : ∃ l5, l5 = l1 ++ [⟨2, (toldN f 32 : Int)⟩] ++ slotsP f 32 ++ [⟨2, (c.length : Int)⟩] := ⟨_, rfl⟩
          rw [← hl5] at h5
          have hll5 : l5.length ≤ l.length + 200 := by rw [hl5]; simp; omega
          have HL5 := Lib.hid hl5
          have H5 := Lib.hid h5
          clear H4 h5 hb5 ho5 hB4 hl5 cv hql hsl
          go_wp2
          go_loopw [0, 9] (fun u t wr => ∃ k : Nat, k ≤ c.length ∧ t = .int .i64 k ∧ PW B w.heap.size w (bx (.bool false) f (.slice a0 c.length cap)) (l5 ++ consP c k) u wr) (fun _ t _ => c.length - (intOf t).toNat)
          case atStart => exact ⟨0, by omega, rfl, by simpa [consP] using H5.out⟩
          case round =>
            clear H5
            obtain ⟨k, hk, rfl, hpw⟩ := hrel
            have cv := (hpw.blk.cell 127).trans (bx_last _ _ _)
            have hbl := hpw.blk.lt
            have hBr := hpw.size hB
            have hrl := consP_len c k
            by_cases hlt : k < c.length
            · have hlt' : (k : Int) < (c.length : Int) := by omega
              have hk0 : (0 : Int) ≤ (k : Int) := Int.natCast_nonneg _
              obtain ⟨x, hx⟩ : ∃ x, c[k]? = some x := ⟨_, List.getElem?_eq_getElem hlt⟩
              obtain ⟨a1, cap1, ev, hcell⟩ := HV.out
              simp only [Value.slice.injEq, true_and] at ev
              obtain ⟨rfl, rfl⟩ := ev
              obtain ⟨bb, off, rfl, hbb, g0, g1, g2⟩ := hcell k x hx
              have hbel := hpw.fr.below hB
              rw [← hbel.cell (p := ⟨bb, _, none⟩) hbb] at g0 g1 g2
              have n1 := hpw.ow.lowApart hbb
              have n2 := hpw.ow.apart hpw.blk (by decide)
              have hs := consP_succ c k x hx
              rw [show conP x = [⟨1, x.i⟩, ⟨1, x.j⟩, ⟨3, x.c⟩] from rfl] at hs
              have HS := Lib.hid hs
              have H7 := Lib.hid hpw
              have HCell := Lib.hid hcell
              obtain ⟨i, hi, hz0, hz1, hz2⟩ := info_parts infoP
              clear hx hcell hs hpw hbel
              go_wp2_with fail
              go_region_held3 (fun w' => w'.cell? ⟨w.heap.size, 127, none⟩ = some (.slice (some ⟨bb, off, none⟩) c.length cap) ∧ w'.cell? ⟨bb, off + k * 3, none⟩ = some (.int .i64 x.i) ∧ w'.cell? ⟨bb, off + k * 3 + 1, none⟩ = some (.int .i64 x.j) ∧ w'.cell? ⟨bb, off + k * 3 + 2, none⟩ = some (.int .i64 x.c))
                (first
                  | go_keep
                  | (go_split_ands
                     refine ⟨?_, ?_, ?_, ?_⟩
                     · (rw [hgrow.cell_far _ (by simp; omega) (Ne.symm n2)]; assumption)
                     · (rw [hgrow.cell_far _ (by simp; omega) (Ne.symm n1)]; assumption)
                     · (rw [hgrow.cell_far _ (by simp; omega) (Ne.symm n1)]; assumption)
                     · (rw [hgrow.cell_far _ (by simp; omega) (Ne.symm n1)]; assumption)))
                ((refine step_append_lies _ (by rfl) _ _ _ (by rfl) B 80 i _ 2 16 Try.underlying78 hi hz0 hz1 hz2 rfl (by omega) u0 (l5 ++ consP c k).length (pcC (l5 ++ consP c k)) (by rfl) ((H7.out.ow.alloc _).drew)
                    ⟨wr.heap.size, 0, none⟩ 3 3 (pcC (conP x)) (by rfl) (by rfl) (World.news_of_block (cs := #[.int .i64 1, .int .i64 x.i, .int .i64 1, .int .i64 x.j, .int .i64 3, .int .i64 x.c]) (t := 80) (fr := (0, 0)) (heap_alloc_new wr _)) (pcC_one _)
                    (by omega) (by unfold maxLen; simp; omega) (by simp; omega) (by simp; omega) (wr.heap.size + 1) (by simp) ?_; intro g cap' w1 hown1 hgrow hat hlt1))
              have hn := H7.out.next ((((Ft.refl _ B wr).alloc _).drew).trans (Ft.grown ((H7.out.ow.alloc _).drew) hgrow)) (l' := l5 ++ consP c (k + 1)) (v' := .slice (some ⟨g, 0, none⟩) (l5.length + (consP c k).length + 3) cap') (by
                unfold OwP
                rw [HS.out, ← List.append_assoc, pcC_append (l5 ++ consP c k)]
                simp only [List.length_append] at hown1 ⊢
                exact hown1)
              have HN := Lib.hid hn
              clear hn hown1 hgrow hat H7 HS n1 n2
              go_wp2
              go_roundw
              all_goals first
                | exact ⟨k + 1, by omega, by go_num, HN.out⟩
                | ((repeat apply Exists.intro); exact ⟨⟨k + 1, by omega, by go_num, HN.out⟩, rfl⟩)
                | (simp [intOf]; omega)
            · obtain rfl : k = c.length := by omega
              have H7 := Lib.hid hpw
              clear hpw
              go_wp2
              go_ret
              refine ⟨H7.out.fr, _, rfl, ?_⟩
              have := H7.out.ow
              rw [HL5.out, HL1.out] at this
              rw [HR.out]
              unfold claimP
              simpa using this
end Go.Proofs.Ytfdjdpbiccclfaa
