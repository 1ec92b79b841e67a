/- The laws' sameBlocks and sameLoops, of rows that hold the same; the program's Blocks and Loops. -/
import Derived.Test.YtlhehphikkgobaaFMake
import Derived.Test.YtlhehphikkgobaaFCq
namespace Go.Proofs.Ytlhehphikkgobaa
open Go Go.RowKit Go.Wr Go.Fl
set_option maxHeartbeats 4000000
set_option maxRecDepth 100000

/-- Blocks to be read: first, behind the last, edges. -/
structure Bd (p : Nat) (w : World) (v : Value) (D : List (Int × Int × List Int)) : Prop where
  sl : ∃ bs : List Bk, SlX tK p w v bs ∧ bs.length = D.length ∧ ∀ (i : Nat) (k : Bk) (d : Int × Int × List Int), bs[i]? = some k → D[i]? = some d → k.fr = d.1 ∧ k.2 = d.2.1 ∧ SlX tI p w k.nx.v d.2.2
theorem Bd.below {p : Nat} {w w' : World} {v : Value} {D : List (Int × Int × List Int)} (h : Bd p w v D) (b : Below w.heap.size w w') : Bd p w' v D := by
  obtain ⟨bs, h1, h2, h3⟩ := h.sl
  exact ⟨bs, h1.below b, h2, fun i k d hk hd => ⟨(h3 i k d hk hd).1, (h3 i k d hk hd).2.1, (h3 i k d hk hd).2.2.below b⟩⟩
theorem Bd.form {p : Nat} {w : World} {v : Value} {D : List (Int × Int × List Int)} (h : Bd p w v D) : ∃ a0 cap, v = .slice a0 D.length cap ∧ D.length ≤ cap ∧ cap ≤ maxLen := by
  obtain ⟨bs, h1, h2, _⟩ := h.sl
  obtain ⟨a0, cap, e, h3, h4⟩ := h1.form
  rw [h2] at e h3
  exact ⟨a0, cap, e, h3, h4⟩
theorem Bd.get {p : Nat} {w : World} {a0 : Option Addr} {n cap : Nat} {D : List (Int × Int × List Int)} (h : Bd p w (.slice a0 n cap) D) {i : Nat} {d : Int × Int × List Int} (hd : D[i]? = some d) :
    ∃ b o a c, a0 = some ⟨b, o, none⟩ ∧ w.cell? ⟨b, o + i * 3, none⟩ = some (.int .i64 d.1) ∧ w.cell? ⟨b, o + i * 3 + 1, none⟩ = some (.int .i64 d.2.1) ∧ w.cell? ⟨b, o + i * 3 + 2, none⟩ = some (.slice a d.2.2.length c) ∧ SlX tI p w (.slice a d.2.2.length c) d.2.2 ∧ b < w.heap.size := by
  obtain ⟨bs, h1, h2, h3⟩ := h.sl
  have hi : i < bs.length := by rw [h2]; exact (List.getElem?_eq_some_iff.1 hd).1
  obtain ⟨k, hk⟩ : ∃ k, bs[i]? = some k := ⟨_, List.getElem?_eq_getElem hi⟩
  obtain ⟨b, o, e, _, hat⟩ := h1.get hk
  obtain ⟨c0, c1, c2⟩ := at_bk hat
  have e3 : tK.n = 3 := rfl
  rw [e3] at c0 c1 c2
  obtain ⟨q1, q2, q3⟩ := h3 i k d hk hd
  obtain ⟨a, c, en, _, _⟩ := q3.form
  rw [q1] at c0
  rw [q2] at c1
  rw [en] at c2 q3
  exact ⟨b, o, a, c, e, c0, c1, c2, q3, hat.1⟩
theorem sameBlocks_ok (w : World) (p q : Nat) (v v' : Value) (D : List (Int × Int × List Int)) (h : Bd p w v D) (h' : Bd q w v' D) (hD : D.length ≤ 1048576) :
    Calls Try.prog 19 #[v, v'] w fun e w' => e = .returned (.bool true) ∧ Below w.heap.size w w' := by
  obtain ⟨a0, cap, rfl, h1, h2⟩ := h.form
  obtain ⟨a1, cap', rfl, h1', h2'⟩ := h'.form
  have H := Lib.hid h
  have H' := Lib.hid h'
  unfold maxLen at h2 h2'
  clear h h'
  go_enter Try.func19, Try.ntmps19
  go_wp2
  go_loopw [5] (fun t wr => ∃ i : Nat, i ≤ D.length ∧ t = .int .i64 (i : Int) ∧ Hid (Below w.heap.size w wr)) (fun t _ => D.length - (intOf t).toNat)
  case atStart => exact ⟨0, by omega, rfl, bRefl w⟩
  case round =>
    obtain ⟨i, hi, rfl, hb⟩ := hrel
    by_cases hli : i < D.length
    · have hli' : (i : Int) < (D.length : Int) := by omega
      have hi0 : (0 : Int) ≤ (i : Int) := by omega
      obtain ⟨⟨d1, d2, d3⟩, hd⟩ : ∃ d, D[i]? = some d := ⟨_, List.getElem?_eq_getElem hli⟩
      obtain ⟨b, o, a, c, rfl, c0, c1, c2, hs, _⟩ := (H.out.below hb.out).get hd
      obtain ⟨b', o', a', c', rfl, c0', c1', c2', hs', _⟩ := (H'.out.below hb.out).get hd
      have HS := Lib.hid hs
      have HS' := Lib.hid hs'
      simp only at c0 c1 c2 c0' c1' c2'
      clear hs hs' hd
      go_upto_region 6 with (fail)
      have e0 : wr.drew.cell? ⟨b, o + i * 3, none⟩ = some (.int .i64 d1) := c0
      have e1 : wr.drew.cell? ⟨b, o + i * 3 + 1, none⟩ = some (.int .i64 d2) := c1
      have e2 : wr.drew.cell? ⟨b, o + i * 3 + 2, none⟩ = some (.slice a d3.length c) := c2
      have e0' : wr.drew.cell? ⟨b', o' + i * 3, none⟩ = some (.int .i64 d1) := c0'
      have e1' : wr.drew.cell? ⟨b', o' + i * 3 + 1, none⟩ = some (.int .i64 d2) := c1'
      have e2' : wr.drew.cell? ⟨b', o' + i * 3 + 2, none⟩ = some (.slice a' d3.length c') := c2'
      have hb9 := Lib.hid (show Below w.heap.size w wr.drew from hb.out.drew)
      have HSd := Lib.hid (show SlX tI p wr.drew (.slice a d3.length c) d3 from HS.out.below (bRefl wr).drew)
      have HSd' := Lib.hid (show SlX tI q wr.drew (.slice a' d3.length c') d3 from HS'.out.below (bRefl wr).drew)
      refine wp_tail 35 mix (by kernel_rfl) ?_
      simp only [List.take_succ_cons, List.take_zero, List.drop_succ_cons, List.drop_zero]
      iterate 35 still_step
      refine wpStill_nil ?_
      clear c0 c1 c2 c0' c1' c2' e0 e1 e2 e0' e1' e2' HS HS' hb
      go_wp2_with fail
      refine (lawSameInts_ok _ p q _ _ d3 d3 HSd.out HSd'.out).mono ?_
      rintro e w3 ⟨rfl, b3⟩
      rw [decide_eq_true (rfl : d3 = d3)]
      have HB3 := Lib.hid (hb9.out.trans (b3.mono hb9.out.size))
      clear b3 HSd HSd' hb9
      go_wp2
      go_roundw
      all_goals first
        | exact ⟨i + 1, by omega, by go_num, HB3.out⟩
        | ((repeat apply Exists.intro); exact ⟨⟨i + 1, by omega, by go_num, HB3.out⟩, rfl⟩)
        | (simp [intOf]; omega)
    · obtain rfl : i = D.length := by omega
      clear hli
      go_wp2
      go_ret
      exact ⟨rfl, hb.out⟩
theorem at_ar {w : World} {b o : Nat} {k : Ar} (h : At w b o (tA.f k)) : w.cell? ⟨b, o, none⟩ = some (.int .i64 k.hd) ∧ w.cell? ⟨b, o + 1, none⟩ = some k.bl.v ∧ w.cell? ⟨b, o + 2, none⟩ = some (.int .i64 k.pa) :=
  ⟨h.cell 0 _ rfl, h.cell 1 _ rfl, h.cell 2 _ rfl⟩
/-- Loops to be read: head, parent, blocks. -/
structure Ld (p : Nat) (w : World) (v : Value) (D : List (Int × Int × List Int)) : Prop where
  sl : ∃ bs : List Ar, SlX tA p w v bs ∧ bs.length = D.length ∧ ∀ (i : Nat) (k : Ar) (d : Int × Int × List Int), bs[i]? = some k → D[i]? = some d → k.hd = d.1 ∧ k.pa = d.2.1 ∧ SlX tI p w k.bl.v d.2.2
theorem Ld.below {p : Nat} {w w' : World} {v : Value} {D : List (Int × Int × List Int)} (h : Ld p w v D) (b : Below w.heap.size w w') : Ld p w' v D := by
  obtain ⟨bs, h1, h2, h3⟩ := h.sl
  exact ⟨bs, h1.below b, h2, fun i k d hk hd => ⟨(h3 i k d hk hd).1, (h3 i k d hk hd).2.1, (h3 i k d hk hd).2.2.below b⟩⟩
theorem Ld.form {p : Nat} {w : World} {v : Value} {D : List (Int × Int × List Int)} (h : Ld p w v D) : ∃ a0 cap, v = .slice a0 D.length cap ∧ D.length ≤ cap ∧ cap ≤ maxLen := by
  obtain ⟨bs, h1, h2, _⟩ := h.sl
  obtain ⟨a0, cap, e, h3, h4⟩ := h1.form
  rw [h2] at e h3
  exact ⟨a0, cap, e, h3, h4⟩
theorem Ld.get {p : Nat} {w : World} {a0 : Option Addr} {n cap : Nat} {D : List (Int × Int × List Int)} (h : Ld p w (.slice a0 n cap) D) {i : Nat} {d : Int × Int × List Int} (hd : D[i]? = some d) :
    ∃ b o a c, a0 = some ⟨b, o, none⟩ ∧ w.cell? ⟨b, o + i * 3, none⟩ = some (.int .i64 d.1) ∧ w.cell? ⟨b, o + i * 3 + 2, none⟩ = some (.int .i64 d.2.1) ∧ w.cell? ⟨b, o + i * 3 + 1, none⟩ = some (.slice a d.2.2.length c) ∧ SlX tI p w (.slice a d.2.2.length c) d.2.2 ∧ b < w.heap.size := by
  obtain ⟨bs, h1, h2, h3⟩ := h.sl
  have hi : i < bs.length := by rw [h2]; exact (List.getElem?_eq_some_iff.1 hd).1
  obtain ⟨k, hk⟩ : ∃ k, bs[i]? = some k := ⟨_, List.getElem?_eq_getElem hi⟩
  obtain ⟨b, o, e, _, hat⟩ := h1.get hk
  obtain ⟨c0, c2, c1⟩ := at_ar hat
  have e3 : tA.n = 3 := rfl
  rw [e3] at c0 c1 c2
  obtain ⟨q1, q2, q3⟩ := h3 i k d hk hd
  obtain ⟨a, c, en, _, _⟩ := q3.form
  rw [q1] at c0
  rw [q2] at c1
  rw [en] at c2 q3
  exact ⟨b, o, a, c, e, c0, c1, c2, q3, hat.1⟩
theorem sameLoops_ok (w : World) (p q : Nat) (v v' : Value) (D : List (Int × Int × List Int)) (h : Ld p w v D) (h' : Ld q w v' D) (hD : D.length ≤ 1048576) :
    Calls Try.prog 21 #[v, v'] w fun e w' => e = .returned (.bool true) ∧ Below w.heap.size w w' := by
  obtain ⟨a0, cap, rfl, h1, h2⟩ := h.form
  obtain ⟨a1, cap', rfl, h1', h2'⟩ := h'.form
  have H := Lib.hid h
  have H' := Lib.hid h'
  unfold maxLen at h2 h2'
  clear h h'
  go_enter Try.func21, Try.ntmps21
  go_wp2
  go_loopw [5] (fun t wr => ∃ i : Nat, i ≤ D.length ∧ t = .int .i64 (i : Int) ∧ Hid (Below w.heap.size w wr)) (fun t _ => D.length - (intOf t).toNat)
  case atStart => exact ⟨0, by omega, rfl, bRefl w⟩
  case round =>
    obtain ⟨i, hi, rfl, hb⟩ := hrel
    by_cases hli : i < D.length
    · have hli' : (i : Int) < (D.length : Int) := by omega
      have hi0 : (0 : Int) ≤ (i : Int) := by omega
      obtain ⟨⟨d1, d2, d3⟩, hd⟩ : ∃ d, D[i]? = some d := ⟨_, List.getElem?_eq_getElem hli⟩
      obtain ⟨b, o, a, c, rfl, c0, c1, c2, hs, _⟩ := (H.out.below hb.out).get hd
      obtain ⟨b', o', a', c', rfl, c0', c1', c2', hs', _⟩ := (H'.out.below hb.out).get hd
      have HS := Lib.hid hs
      have HS' := Lib.hid hs'
      simp only at c0 c1 c2 c0' c1' c2'
      clear hs hs' hd
      go_upto_region 6 with (fail)
      have e0 : wr.drew.cell? ⟨b, o + i * 3, none⟩ = some (.int .i64 d1) := c0
      have e1 : wr.drew.cell? ⟨b, o + i * 3 + 2, none⟩ = some (.int .i64 d2) := c1
      have e2 : wr.drew.cell? ⟨b, o + i * 3 + 1, none⟩ = some (.slice a d3.length c) := c2
      have e0' : wr.drew.cell? ⟨b', o' + i * 3, none⟩ = some (.int .i64 d1) := c0'
      have e1' : wr.drew.cell? ⟨b', o' + i * 3 + 2, none⟩ = some (.int .i64 d2) := c1'
      have e2' : wr.drew.cell? ⟨b', o' + i * 3 + 1, none⟩ = some (.slice a' d3.length c') := c2'
      have hb9 := Lib.hid (show Below w.heap.size w wr.drew from hb.out.drew)
      have HSd := Lib.hid (show SlX tI p wr.drew (.slice a d3.length c) d3 from HS.out.below (bRefl wr).drew)
      have HSd' := Lib.hid (show SlX tI q wr.drew (.slice a' d3.length c') d3 from HS'.out.below (bRefl wr).drew)
      refine wp_tail 35 mix (by kernel_rfl) ?_
      simp only [List.take_succ_cons, List.take_zero, List.drop_succ_cons, List.drop_zero]
      iterate 35 still_step
      refine wpStill_nil ?_
      clear c0 c1 c2 c0' c1' c2' e0 e1 e2 e0' e1' e2' HS HS' hb
      go_wp2_with fail
      refine (lawSameInts_ok _ p q _ _ d3 d3 HSd.out HSd'.out).mono ?_
      rintro e w3 ⟨rfl, b3⟩
      rw [decide_eq_true (rfl : d3 = d3)]
      have HB3 := Lib.hid (hb9.out.trans (b3.mono hb9.out.size))
      clear b3 HSd HSd' hb9
      go_wp2
      go_roundw
      all_goals first
        | exact ⟨i + 1, by omega, by go_num, HB3.out⟩
        | ((repeat apply Exists.intro); exact ⟨⟨i + 1, by omega, by go_num, HB3.out⟩, rfl⟩)
        | (simp [intOf]; omega)
    · obtain rfl : i = D.length := by omega
      clear hli
      go_wp2
      go_ret
      exact ⟨rfl, hb.out⟩
end Go.Proofs.Ytlhehphikkgobaa
