/- FlowNests: from each of a loop's blocks a way within it leads back to the head. -/
import Derived.Test.YtlhehphikkgobaaHNesA
namespace Go.Proofs.Ytlhehphikkgobaa
open Go Go.RowKit Go.Wr Go.Fl
set_option maxHeartbeats 4000000
set_option maxRecDepth 100000

/-- Blocks that are home: of the loop, each once. -/
structure Hom (l : List In) (h : Nat) (m : List Nat) : Prop where
  nd : m.Nodup
  lp : ∀ x ∈ m, lpB l h x = true
  lt : ∀ x ∈ m, x < nB l
theorem Hom.nil (l : List In) (h : Nat) : Hom l h [] := ⟨List.nodup_nil, fun x hx => by simp at hx, fun x hx => by simp at hx⟩
theorem Hom.push {l : List In} {h : Nat} {m : List Nat} (k : Hom l h m) {x : Nat} (h1 : x ∉ m) (h2 : lpB l h x = true) (h3 : x < nB l) : Hom l h (m ++ [x]) := by
  refine ⟨?_, fun y hy => ?_, fun y hy => ?_⟩
  · rw [List.nodup_append]
    exact ⟨k.nd, by simp, fun a ha b hb => by simp at hb; subst hb; intro e; subst e; exact h1 ha⟩
  · rcases List.mem_append.1 hy with hy | hy
    · exact k.lp y hy
    · simp at hy; subst hy; exact h2
  · rcases List.mem_append.1 hy with hy | hy
    · exact k.lt y hy
    · simp at hy; subst hy; exact h3
theorem Hom.len {l : List In} {h : Nat} {m : List Nat} (k : Hom l h m) : m.length ≤ nB l := nodup_len (nB l) m k.nd k.lt
/-- The first k edges of u lead neither to the head nor home. -/
def NoQ (l : List In) (h : Nat) (m : List Nat) (u k : Nat) : Prop := ∀ (j y : Nat), j < k → (nxt l u)[j]? = some y → y ≠ h ∧ ¬ (y ∈ m ∧ lpB l h y = true)
theorem NoQ.zero (l : List In) (h : Nat) (m : List Nat) (u : Nat) : NoQ l h m u 0 := fun j y hj => by omega
theorem NoQ.succ {l : List In} {h : Nat} {m : List Nat} {u k y : Nat} (q : NoQ l h m u k) (hy : (nxt l u)[k]? = some y) (h1 : y ≠ h) (h2 : ¬ (y ∈ m ∧ lpB l h y = true)) : NoQ l h m u (k + 1) := fun j z hj hz => by
  by_cases e : j < k
  · exact q j z e hz
  · obtain rfl : j = k := by omega
    rw [hy] at hz
    injection hz with hz
    subst hz
    exact ⟨h1, h2⟩
theorem nI_mem (m : List Nat) (x : Nat) : (nI m).contains (x : Int) = decide (x ∈ m) := by
  rw [Bool.eq_iff_iff, nI_has, decide_eq_true_iff]
/-- All are home where none is to be added. -/
theorem Hom.all {l : List In} (g : G7 l) {h : Nat} (k : Hd (nxt l) (nB l) h) (hn : h < nB l) {m : List Nat} (hq : ∀ x ∈ ins (lpB l h) (nB l), x ∉ m → NoQ l h m x (nxt l x).length) : ((loL l h).all fun x => (nI m).contains x) = true := by
  rw [List.all_eq_true]
  intro z hz
  unfold loL nI at hz
  obtain ⟨x, hx, rfl⟩ := List.mem_map.1 hz
  rw [nI_mem, decide_eq_true_iff]
  have hmem : ∀ u, Lp (nxt l) (nB l) h u → u ∈ ins (lpB l h) (nB l) := fun u hu => by
    unfold ins
    rw [List.mem_filter]
    exact ⟨List.mem_range.2 (hu.lt hn), lpB_iff.2 hu⟩
  have hx2 : Lp (nxt l) (nB l) h x := by
    unfold ins at hx
    exact lpB_iff.1 (List.mem_filter.1 hx).2
  refine Hd.home g.gr g.rch k (V := fun x => x ∈ m) (fun u hu hnu y hy => ?_) x hx2
  obtain ⟨j, hj, e⟩ := List.mem_iff_getElem.1 hy
  have := hq u (hmem u hu) hnu j y hj (by rw [List.getElem?_eq_getElem hj, e])
  exact ⟨this.1, fun h9 => this.2 ⟨h9.1, lpB_iff.2 h9.2⟩⟩
theorem slx_le' {α : Type} {R : RT Try.prog α} {p : Nat} {w : World} {a : Option Addr} {n c : Nat} {l : List α} (h : SlX R p w (.slice a n c) l) : n ≤ c ∧ c ≤ maxLen := by
  obtain ⟨a1, c1, e, h1, h2⟩ := h.form
  injection e with _ e1 e2
  subst e2
  exact ⟨by omega, h2⟩
theorem returns_ok (w : World) (p q : Nat) (v s : Value) (l : List In) (g : G7 l) (h : Nat) (hh : Hd (nxt l) (nB l) h) (hhn : h < nB l) (pa : Int) (hD : Bd p w v (dB l)) (hS : SlX tI q w s (loL l h)) :
    Calls Try.prog 38 #[v, .agg #[.int .i64 (h : Int), s, .int .i64 pa]] w fun e w' => e = .returned (.bool true) ∧ Below w.heap.size w w' := by
  obtain ⟨ab, cb, rfl, h5, h6⟩ := hD.form
  obtain ⟨sa, cs, rfl, h7, h8⟩ := hS.form
  rw [dB_len] at h5 hD
  rw [dB_len]
  obtain ⟨L, hL⟩ : ∃ L, L = ins (lpB l h) (nB l) := ⟨_, rfl⟩
  have eL : loL l h = nI L := by unfold loL; rw [hL]
  have hLn : L.length ≤ nB l := by rw [hL]; exact ins_len _ _
  have hLm : ∀ x ∈ L, lpB l h x = true ∧ x < nB l := fun x hx => by
    rw [hL] at hx
    unfold ins at hx
    obtain ⟨h1, h2⟩ := List.mem_filter.1 hx
    exact ⟨h2, List.mem_range.1 h1⟩
  have hL0 : h ∈ L := by
    rw [hL]
    unfold ins
    rw [List.mem_filter]
    exact ⟨List.mem_range.2 hhn, lpB_iff.2 Lp.head⟩
  have hLp : 0 < L.length := List.length_pos_iff.2 (fun e => by rw [e] at hL0; cases hL0)
  rw [eL] at hS h7 ⊢
  rw [nI_len] at hS h7 ⊢
  have HD := Lib.hid hD
  have HS := Lib.hid hS
  have HG := Lib.hid g
  have HH := Lib.hid hh
  have HL := Lib.hid hL
  have HLM := Lib.hid hLm
  have HEL := Lib.hid eL
  have hpN : 0 < nB l := g.pos
  have hn5 : nB l ≤ 512 := g.n512
  unfold maxLen at h6 h8
  obtain ⟨bs, os, rfl, _⟩ := hS.get (k := 0) (x := (L[0]'hLp : Int)) (by unfold nI; rw [List.getElem?_map, List.getElem?_eq_getElem hLp]; rfl)
  clear hD hS hL g hh hLm eL hL0
  go_enter Try.func38, Try.ntmps38
  go_upto_region 1 with (fail)
  generalize hW : w.alloc (.cells #[.int .i64 (h : Int), .slice (some ⟨bs, os, none⟩) L.length cs, .int .i64 pa] 60) = W
  obtain ⟨z, hz⟩ : ∃ z, z = w.heap.size := ⟨_, rfl⟩
  rw [← hz]
  have bW : Below w.heap.size w W := by rw [← hW]; exact bAl (bRefl w) _
  have pW : Blk W z 60 #[.int .i64 (h : Int), .slice (some ⟨bs, os, none⟩) L.length cs, .int .i64 pa] := by rw [← hW, hz]; exact Blk.new _ _ _
  have d1 : W.cell? ⟨z, 1, none⟩ = some (.slice (some ⟨bs, os, none⟩) L.length cs) := pW.cell 1
  have HB := Lib.hid bW
  have HPW := Lib.hid pW
  have HZ := Lib.hid pW.lt
  have d1a : (W.alloc (.cells #[] 3)).cell? ⟨z, 1, none⟩ = some (.slice (some ⟨bs, os, none⟩) L.length cs) := (pW.alloc _).cell 1
  have HNW := Lib.hid (slx_range tI (HS.out.below (bAl bW (.cells #[] 3))))
  have HO0 := Lib.hid (own_empty W)
  clear hW hz bW pW
  go_upto_region 2 with (at_builtin; refine wpl_push tI rfl _ _ rfl W.heap.size (.slice (some ⟨W.heap.size, 0, none⟩) 0 0) [] (by rfl) HO0.out bs os L.length cs (nI L) (by rfl) (by rw [nI_len]) HNW.out (by rw [nI_len]; unfold maxLen; simp; omega) (by rw [nI_len]; show _ * 8 ≤ _; simp; omega) (by simp) ?_; intro v2 w2 hown hgrow hform; obtain ⟨gL, cL, rfl, _⟩ := hform (fun e => by have h9 := congrArg List.length e; rw [nI_len] at h9; rw [h9] at hLp; exact absurd hLp (by simp)))
  have HOL := Lib.hid hown
  have hgz : ∀ g, (Value.slice (some ⟨W.heap.size, 0, none⟩) 0 0).ownBlock = some g → W.heap.size ≤ g := fun g e => by cases e; exact Nat.le_refl _
  have HB2 := Lib.hid (((bRefl W).alloc (Nat.le_refl _) (.cells #[] 3)).grown hgrow (by simp) hgz)
  have HPL := Lib.hid (show Below w.heap.size w w2 from bThen HB.out HB2.out)
  have HP2 := Lib.hid (HPW.out.below HB2.out HPW.out.lt)
  have HD2 := Lib.hid (HD.out.below HPL.out)
  have HS2 := Lib.hid (HS.out.below HPL.out)
  have hown : OwR tI W.heap.size w2 (.slice (some ⟨gL, 0, none⟩) L.length cL) (nI L) := by rw [← nI_len L]; simpa using HOL.out
  have hsl : SlX tI z w2 (.slice (some ⟨gL, 0, none⟩) L.length cL) (nI L) := hown.sl (ne_low hown HZ.out)
  have HSL := Lib.hid hsl
  clear hown hgrow hform HO0 HNW hgz d1 d1a hsl HOL
  go_upto_region 3 with (fail)
  rw [nI_len]
  have hcL : cL ≤ 9223372036854775807 := by have := (slx_le' HSL.out).2; unfold maxLen at this; omega
  have HOH := Lib.hid (show OwR tI w2.heap.size w2 (.slice none 0 0) (nI []) from OwR.nil _ _)
  have HH0 := Lib.hid (Hom.nil l h)
  have HZ2 := Lib.hid (Nat.lt_of_lt_of_le HZ.out HB2.out.size)
  have dh := HP2.out.cell 0
  have db := HP2.out.cell 1
  simp only [List.getElem?_toArray, List.getElem?_cons_zero, List.getElem?_cons_succ] at dh db
  have hzl := HP2.out.lt
  have HDH := Lib.hid dh
  have HDB := Lib.hid db
  clear dh db
  go_wp2
  go_loopg [6, 7] (2 * nB l + 1) (fun M t6 t7 wr => ∃ (v6 : Value) (m : Bool) (Hm : List Nat), t6 = v6 ∧ t7 = .bool m ∧ Hid (OwR tI w2.heap.size wr v6 (nI Hm)) ∧ Hid (Hom l h Hm) ∧ Hid (Below w2.heap.size w2 wr) ∧ Hid (m = false → ∀ (j x : Nat), j < L.length → L[j]? = some x → x ∉ Hm → NoQ l h Hm x (nxt l x).length) ∧ M = 2 * (nB l - Hm.length) + (if m then 1 else 0))
  case atStart => exact ⟨_, true, [], rfl, rfl, HOH.out, HH0.out, bRefl w2, (fun e => by cases e), by simp⟩
  case round =>
    clear HOH HH0
    obtain ⟨v6, m, Hm0, rfl, rfl, hO, hM, hB, hP, hm⟩ := hrel
    cases m with
    | false =>
      have hall := Lib.hid (Hom.all HG.out HH.out hhn (m := Hm0) (fun x hx hn => by
        rw [← HL.out] at hx
        obtain ⟨j, hj, e⟩ := List.mem_iff_getElem.1 hx
        exact hP.out rfl j x hj (by rw [List.getElem?_eq_getElem hj, e]) hn))
      have db : wr.cell? ⟨z, 1, none⟩ = some (.slice (some ⟨bs, os, none⟩) L.length cs) := (hB.out.cell (p := ⟨z, 1, none⟩) hzl).trans HDB.out
      have HS9 := Lib.hid (HS2.out.below hB.out)
      have HO9 := Lib.hid (hO.out.sl (p := z) (ne_low hO.out HZ2.out))
      have HF := Lib.hid (bThen HPL.out hB.out)
      clear hP hm hM
      go_wp2_with fail
      refine (within_ok wr q z _ _ _ _ HS9.out HO9.out).mono ?_
      rintro e w9 ⟨rfl, rfl⟩
      rw [← HEL.out, hall.out]
      go_wp2
      go_ret
      exact ⟨rfl, HF.out⟩
    | true =>
      have hmn := hM.out.len
      simp only [if_true] at hm
      have HO1 := Lib.hid hO.out
      have HB1 := Lib.hid hB.out
      have HM1 := Lib.hid hM.out
      obtain ⟨wo, rfl⟩ : ∃ x : World, x = wr := ⟨_, rfl⟩
      clear hO hB hM hP
      go_wp2
      go_loopw [6, 7, 8] (fun t6 t7 t8 wr => ∃ (v6 : Value) (m : Bool) (Hm : List Nat) (i : Nat), i ≤ L.length ∧ t6 = v6 ∧ t7 = .bool m ∧ t8 = .int .i64 (i : Int) ∧ Hid (OwR tI w2.heap.size wr v6 (nI Hm)) ∧ Hid (Hom l h Hm) ∧ Hid (Below w2.heap.size w2 wr) ∧ Hid (m = false → ∀ (j x : Nat), j < i → L[j]? = some x → x ∉ Hm → NoQ l h Hm x (nxt l x).length) ∧ Hid (Hm0.length + (if m then 1 else 0) ≤ Hm.length)) (fun _ _ t _ => L.length - (intOf t).toNat)
      case atStart => exact ⟨_, false, Hm0, 0, by omega, rfl, rfl, rfl, HO1.out, HM1.out, HB1.out, (fun _ j x hj => by omega), (show _ ≤ _ by simp)⟩
      case round =>
        clear HO1 HB1 HM1
        obtain ⟨v6, m, Hm, i, hi, rfl, rfl, rfl, hO, hM, hB, hP, hln⟩ := hrel
        by_cases hit : i < L.length
        · have hit' : (i : Int) < (L.length : Int) := by omega
          have hi0 : (0 : Int) ≤ (i : Int) := by omega
          obtain ⟨u, hu⟩ : ∃ u, L[i]? = some u := ⟨_, List.getElem?_eq_getElem hit⟩
          have hun := (HLM.out u (List.mem_of_getElem? hu)).2
          have HUL := Lib.hid (HLM.out u (List.mem_of_getElem? hu)).1
          have hun' : ¬ (nB l : Int) ≤ (u : Int) := by omega
          have hun2 : (u : Int) < (nB l : Int) := by omega
          have hu0 : ¬ (u : Int) < 0 := by omega
          have hu1 : (0 : Int) ≤ (u : Int) := by omega
          obtain ⟨bl, ol, e1, _, _, cu⟩ := SlX.int (HSL.out.below hB.out) (show (nI L)[i]? = some (u : Int) by unfold nI; rw [List.getElem?_map, hu]; rfl)
          injection e1 with e1
          injection e1 with e11 e12
          subst e11 e12
          simp only [Nat.zero_add] at cu
          have HU := Lib.hid hu
          have HO9 := Lib.hid (hO.out.sl (p := z) (ne_low hO.out HZ2.out))
          clear hu
          go_wp2_with fail
          refine (hasL_ok wr z _ _ (u : Int) HO9.out).mono ?_
          rintro e w9 ⟨rfl, rfl⟩
          rw [nI_mem]
          obtain ⟨wi, rfl⟩ : ∃ x : World, x = w9 := ⟨_, rfl⟩
          have HNI := Lib.hid (show i + 1 ≤ L.length from hit)
          by_cases hin : u ∈ Hm
          · rw [decide_eq_true hin]
            have HP9 : Hid (m = false → ∀ (j x : Nat), j < i + 1 → L[j]? = some x → x ∉ Hm → NoQ l h Hm x (nxt l x).length) := fun e j x hj hx hn => by
              by_cases e9 : j < i
              · exact hP.out e j x e9 hx hn
              · obtain rfl : j = i := by omega
                rw [HU.out] at hx
                injection hx with hx
                subst hx
                exact absurd hin hn
            clear hin hP
            go_wp2
            go_roundw
            all_goals first
              | exact ⟨_, m, Hm, i + 1, HNI.out, rfl, rfl, by go_num, hO.out, hM.out, hB.out, HP9.out, hln.out⟩
              | ((repeat apply Exists.intro); exact ⟨⟨_, m, Hm, i + 1, HNI.out, rfl, rfl, by go_num, hO.out, hM.out, hB.out, HP9.out, hln.out⟩, rfl⟩)
              | (simp [intOf] <;> omega)
          · rw [decide_eq_false hin]
            have HO1 := Lib.hid hO.out
            have HB1 := Lib.hid hB.out
            have HM1 := Lib.hid hM.out
            have HLN1 := Lib.hid hln.out
            have HP1 : Hid (m = false → (∀ (j x : Nat), j < i → L[j]? = some x → x ∉ Hm → NoQ l h Hm x (nxt l x).length) ∧ u ∉ Hm ∧ NoQ l h Hm u 0) := fun e => ⟨hP.out e, hin, NoQ.zero l h Hm u⟩
            have hx2 := nxt_two l u
            clear hin hO hB hM hln hP cu
            go_wp2
            go_loopw [6, 7, 10] (fun t6 t7 t10 wr => ∃ (v6 : Value) (m : Bool) (Hm : List Nat) (k : Nat), k ≤ (nxt l u).length ∧ t6 = v6 ∧ t7 = .bool m ∧ t10 = .int .i64 (k : Int) ∧ Hid (OwR tI w2.heap.size wr v6 (nI Hm)) ∧ Hid (Hom l h Hm) ∧ Hid (Below w2.heap.size w2 wr) ∧ Hid (m = false → (∀ (j x : Nat), j < i → L[j]? = some x → x ∉ Hm → NoQ l h Hm x (nxt l x).length) ∧ u ∉ Hm ∧ NoQ l h Hm u k) ∧ Hid (Hm0.length + (if m then 1 else 0) ≤ Hm.length)) (fun _ _ t _ => (nxt l u).length - (intOf t).toNat)
            case atStart => exact ⟨_, m, Hm, 0, by omega, rfl, rfl, rfl, HO1.out, HM1.out, HB1.out, HP1.out, HLN1.out⟩
            case round =>
              clear HO1 HB1 HM1 HP1 HLN1
              obtain ⟨v6, m, Hm, k, hk, rfl, rfl, rfl, hO, hM, hB, hP, hln⟩ := hrel
              obtain ⟨bb, off, an, cn, e2, _, _, c2, hnx, _⟩ := (HD2.out.below hB.out).get (dB_get hun)
              subst e2
              simp only at c2 hnx
              rw [nI_len] at c2 hnx
              have HNX := Lib.hid hnx
              clear hnx
              by_cases hkt : k < (nxt l u).length
              · have hkt' : (k : Int) < ((nxt l u).length : Int) := by omega
                have hk0 : (0 : Int) ≤ (k : Int) := by omega
                obtain ⟨y, hy⟩ : ∃ y, (nxt l u)[k]? = some y := ⟨_, List.getElem?_eq_getElem hkt⟩
                have hyn := HG.out.nlt u hun y (List.mem_of_getElem? hy)
                obtain ⟨bv, ov, rfl, _, _, cv⟩ := SlX.int HNX.out (show (nI (nxt l u))[k]? = some (y : Int) by unfold nI; rw [List.getElem?_map, hy]; rfl)
                have HY := Lib.hid hy
                have HKN := Lib.hid (show k + 1 ≤ (nxt l u).length from hkt)
                have dh : wr.cell? ⟨z, 0, none⟩ = some (.int .i64 (h : Int)) := (hB.out.cell (p := ⟨z, 0, none⟩) hzl).trans HDH.out
                have db : wr.cell? ⟨z, 1, none⟩ = some (.slice (some ⟨bs, os, none⟩) L.length cs) := (hB.out.cell (p := ⟨z, 1, none⟩) hzl).trans HDB.out
                have HO9 := Lib.hid (hO.out.sl (p := z) (ne_low hO.out HZ2.out))
                have HSr := Lib.hid (HS2.out.below hB.out)
                have HLB := Lib.hid (show (nI L).contains (y : Int) = lpB l h y by rw [← HEL.out]; exact loL_has hyn)
                clear hy
                by_cases hyh : y = h
                · have hyb : ((y : Int) == (h : Int)) = true := by simp [hyh]
                  clear hyh
                  go_wp2_with fail
                  refine (hasL_ok wr z _ _ (u : Int) HO9.out).mono ?_
                  rintro e w9 ⟨rfl, rfl⟩
                  rw [nI_mem]
                  obtain ⟨wr, rfl⟩ : ∃ x : World, x = w9 := ⟨_, rfl⟩
                  by_cases hun9 : u ∈ Hm
                  · rw [decide_eq_true hun9]
                    have HP9 : Hid (m = false → (∀ (j x : Nat), j < i → L[j]? = some x → x ∉ Hm → NoQ l h Hm x (nxt l x).length) ∧ u ∉ Hm ∧ NoQ l h Hm u (k + 1)) := fun e => absurd hun9 (hP.out e).2.1
                    clear hun9 hP
                    go_wp2
                    go_roundw
                    all_goals first
                      | exact ⟨_, m, Hm, k + 1, HKN.out, rfl, rfl, by go_num, hO.out, hM.out, hB.out, HP9.out, hln.out⟩
                      | ((repeat apply Exists.intro); exact ⟨⟨_, m, Hm, k + 1, HKN.out, rfl, rfl, by go_num, hO.out, hM.out, hB.out, HP9.out, hln.out⟩, rfl⟩)
                      | (simp [intOf] <;> omega)
                  · rw [decide_eq_false hun9]
                    have HM9 := Lib.hid (hM.out.push hun9 HUL.out hun)
                    have hmn9 := hM.out.len
                    have hsz := hB.out.size
                    have hl9 := hln.out
                    clear hun9 hP cv c2 dh db
                    go_wp2_with (at_builtin; refine wpl_push tI rfl _ _ rfl w2.heap.size _ (nI Hm) (by rfl) (hO.out.alloc _) _ 0 1 1 [(u : Int)] (by rfl) rfl (rangeNew (by rfl) (by rfl)) (by rw [nI_len]; unfold maxLen; simp; omega) (by rw [nI_len]; show _ * 8 ≤ _; simp; omega) (by simp; omega) ?_; intro v7 w10 hown2 hgrow2 hform2)
                    have hB9 := (bAl hB.out (.cells #[.int .i64 (u : Int)] 3)).grown hgrow2 (by simp; omega) (fun g e => (hO.out.blk e).1)
                    have hLN : Hid (Hm0.length + (if true then 1 else 0) ≤ (Hm ++ [u]).length) := by
                      show _ ≤ _
                      rw [List.length_append]
                      simp only [if_true, List.length_cons, List.length_nil]
                      split at hl9 <;> omega
                    exact ⟨⟨_, true, Hm ++ [u], k + 1, HKN.out, rfl, rfl, by go_num, by rw [nI_app]; exact hown2, HM9.out, hB9, (fun e => by cases e), hLN⟩, by simp [intOf]; omega⟩
                · have hyb : ((y : Int) == (h : Int)) = false := by simp; omega
                  go_wp2_with fail
                  refine (hasL_ok wr z _ _ (y : Int) HO9.out).mono ?_
                  rintro e w9 ⟨rfl, rfl⟩
                  rw [nI_mem]
                  obtain ⟨wr, rfl⟩ : ∃ x : World, x = w9 := ⟨_, rfl⟩
                  by_cases hym : y ∈ Hm
                  · rw [decide_eq_true hym]
                    go_wp2_with fail
                    refine (hasL_ok wr q _ _ (y : Int) HSr.out).mono ?_
                    rintro e w9 ⟨rfl, rfl⟩
                    rw [HLB.out]
                    obtain ⟨wr, rfl⟩ : ∃ x : World, x = w9 := ⟨_, rfl⟩
                    cases hyl : lpB l h y with
                    | true =>
                      clear hyl hym hyh
                      go_wp2_with fail
                      refine (hasL_ok wr z _ _ (u : Int) HO9.out).mono ?_
                      rintro e w9 ⟨rfl, rfl⟩
                      rw [nI_mem]
                      obtain ⟨wr, rfl⟩ : ∃ x : World, x = w9 := ⟨_, rfl⟩
                      by_cases hun9 : u ∈ Hm
                      · rw [decide_eq_true hun9]
                        have HP9 : Hid (m = false → (∀ (j x : Nat), j < i → L[j]? = some x → x ∉ Hm → NoQ l h Hm x (nxt l x).length) ∧ u ∉ Hm ∧ NoQ l h Hm u (k + 1)) := fun e => absurd hun9 (hP.out e).2.1
                        clear hun9 hP
                        go_wp2
                        go_roundw
                        all_goals first
                          | exact ⟨_, m, Hm, k + 1, HKN.out, rfl, rfl, by go_num, hO.out, hM.out, hB.out, HP9.out, hln.out⟩
                          | ((repeat apply Exists.intro); exact ⟨⟨_, m, Hm, k + 1, HKN.out, rfl, rfl, by go_num, hO.out, hM.out, hB.out, HP9.out, hln.out⟩, rfl⟩)
                          | (simp [intOf] <;> omega)
                      · rw [decide_eq_false hun9]
                        have HM9 := Lib.hid (hM.out.push hun9 HUL.out hun)
                        have hmn9 := hM.out.len
                        have hsz := hB.out.size
                        have hl9 := hln.out
                        clear hun9 hP cv c2 dh db
                        go_wp2_with (at_builtin; refine wpl_push tI rfl _ _ rfl w2.heap.size _ (nI Hm) (by rfl) (hO.out.alloc _) _ 0 1 1 [(u : Int)] (by rfl) rfl (rangeNew (by rfl) (by rfl)) (by rw [nI_len]; unfold maxLen; simp; omega) (by rw [nI_len]; show _ * 8 ≤ _; simp; omega) (by simp; omega) ?_; intro v7 w10 hown2 hgrow2 hform2)
                        have hB9 := (bAl hB.out (.cells #[.int .i64 (u : Int)] 3)).grown hgrow2 (by simp; omega) (fun g e => (hO.out.blk e).1)
                        have hLN : Hid (Hm0.length + (if true then 1 else 0) ≤ (Hm ++ [u]).length) := by
                          show _ ≤ _
                          rw [List.length_append]
                          simp only [if_true, List.length_cons, List.length_nil]
                          split at hl9 <;> omega
                        exact ⟨⟨_, true, Hm ++ [u], k + 1, HKN.out, rfl, rfl, by go_num, by rw [nI_app]; exact hown2, HM9.out, hB9, (fun e => by cases e), hLN⟩, by simp [intOf]; omega⟩
                    | false =>
                      have HP9 : Hid (m = false → (∀ (j x : Nat), j < i → L[j]? = some x → x ∉ Hm → NoQ l h Hm x (nxt l x).length) ∧ u ∉ Hm ∧ NoQ l h Hm u (k + 1)) := fun e => ⟨(hP.out e).1, (hP.out e).2.1, (hP.out e).2.2.succ HY.out hyh (fun e9 => by rw [hyl] at e9; cases e9.2)⟩
                      clear hyl hym hyh hP
                      go_wp2
                      go_roundw
                      all_goals first
                        | exact ⟨_, m, Hm, k + 1, HKN.out, rfl, rfl, by go_num, hO.out, hM.out, hB.out, HP9.out, hln.out⟩
                        | ((repeat apply Exists.intro); exact ⟨⟨_, m, Hm, k + 1, HKN.out, rfl, rfl, by go_num, hO.out, hM.out, hB.out, HP9.out, hln.out⟩, rfl⟩)
                        | (simp [intOf] <;> omega)
                  · rw [decide_eq_false hym]
                    have HP9 : Hid (m = false → (∀ (j x : Nat), j < i → L[j]? = some x → x ∉ Hm → NoQ l h Hm x (nxt l x).length) ∧ u ∉ Hm ∧ NoQ l h Hm u (k + 1)) := fun e => ⟨(hP.out e).1, (hP.out e).2.1, (hP.out e).2.2.succ HY.out hyh (fun e9 => hym e9.1)⟩
                    clear hym hyh hP
                    go_wp2
                    go_roundw
                    all_goals first
                      | exact ⟨_, m, Hm, k + 1, HKN.out, rfl, rfl, by go_num, hO.out, hM.out, hB.out, HP9.out, hln.out⟩
                      | ((repeat apply Exists.intro); exact ⟨⟨_, m, Hm, k + 1, HKN.out, rfl, rfl, by go_num, hO.out, hM.out, hB.out, HP9.out, hln.out⟩, rfl⟩)
                      | (simp [intOf] <;> omega)
              · obtain rfl : k = (nxt l u).length := by omega
                have HP9 : Hid (m = false → ∀ (j x : Nat), j < i + 1 → L[j]? = some x → x ∉ Hm → NoQ l h Hm x (nxt l x).length) := fun e j x hj hx hn => by
                  by_cases e9 : j < i
                  · exact (hP.out e).1 j x e9 hx hn
                  · obtain rfl : j = i := by omega
                    rw [HU.out] at hx
                    injection hx with hx
                    subst hx
                    exact (hP.out e).2.2
                clear hP hkt
                go_wp2
                go_roundw
                all_goals first
                  | exact ⟨_, m, Hm, i + 1, HNI.out, rfl, rfl, by go_num, hO.out, hM.out, hB.out, HP9.out, hln.out⟩
                  | ((repeat apply Exists.intro); exact ⟨⟨_, m, Hm, i + 1, HNI.out, rfl, rfl, by go_num, hO.out, hM.out, hB.out, HP9.out, hln.out⟩, rfl⟩)
                  | (simp [intOf] <;> omega)
        · obtain rfl : i = L.length := by omega
          have hmn9 := hM.out.len
          have hl9 := hln.out
          clear hit
          go_wp2
          go_roundg (2 * (nB l - Hm.length) + (if m then 1 else 0))
          case measure =>
            cases m with
            | true => rw [if_pos rfl] at hl9 ⊢; omega
            | false => rw [if_neg (by simp)] at hl9 ⊢; omega
          case rel => exact ⟨_, m, Hm, rfl, rfl, hO.out, hM.out, hB.out, hP.out, rfl⟩
end Go.Proofs.Ytlhehphikkgobaa
