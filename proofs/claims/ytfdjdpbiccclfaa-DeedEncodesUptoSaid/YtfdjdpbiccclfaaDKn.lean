/- A deed of a function's own is a readable one; the law's small deed, there and back. -/
import Derived.Test.YtfdjdpbiccclfaaDSm
namespace Go.Proofs.Ytfdjdpbiccclfaa
open Go Go.RowKit Go.Wr
set_option maxHeartbeats 4000000
set_option maxRecDepth 100000

theorem encS : encE dS = 0 ∧ encD dS = bS := by constructor <;> decide +kernel
theorem decS : (decD bS).2 = (0, 0) ∧ sameD dS (decD bS).1 = true := by constructor <;> decide +kernel
theorem dec9 : (decD [87, 65, 82, 49, 9]).2 = (4, 112) := by decide +kernel
theorem decS_len : (decD bS).1.ls.length ≤ 8 ∧ (decD bS).1.cs.length ≤ 512 ∧ ∀ c ∈ (decD bS).1.cs, c.l.length ≤ 3540 := by refine ⟨?_, ?_, ?_⟩ <;> decide +kernel

theorem flat_get {α : Type} (f : α → List Value) (n : Nat) (hf : ∀ x, (f x).length = n) (l : List α) : ∀ (k j : Nat) (x : α) (v : Value), l[k]? = some x → (f x)[j]? = some v → (l.flatMap f)[k * n + j]? = some v := by
  induction l with
  | nil => intro k j x v h; simp at h
  | cons y r ih =>
    intro k j x v h hv
    simp only [List.flatMap_cons]
    cases k with
    | zero =>
      simp only [List.getElem?_cons_zero, Option.some.injEq] at h
      subst h
      rw [Nat.zero_mul, Nat.zero_add, List.getElem?_append_left (List.getElem?_eq_some_iff.1 hv).1]
      exact hv
    | succ k =>
      simp only [List.getElem?_cons_succ] at h
      have hl := hf y
      rw [List.getElem?_append_right (by rw [hl, Nat.succ_mul]; omega), hl, show (k + 1) * n + j - n = k * n + j by rw [Nat.succ_mul]; omega]
      exact ih k j x v h hv
/-- An own row read at one of its cells. -/
theorem own_cell {B : Nat} {e : TypeId} {size n : Nat} {w : World} {v : Value} {xs : List Value} (h : w.ownsRow B e size v n xs) (hl : xs.length = n * size) : ∃ a0 cap, v = .slice a0 n cap ∧ n ≤ cap ∧ (n ≠ 0 → ∃ g, a0 = some ⟨g, 0, none⟩ ∧ B ≤ g ∧ g < w.heap.size ∧ ∀ j u, xs[j]? = some u → w.cell? ⟨g, j, none⟩ = some u) := by
  rcases h.2 with ⟨rfl, h0⟩ | ⟨g, cap, cur, rfl, hg, hb, hle, hcap, hsz, htk⟩
  · subst h0
    exact ⟨none, 0, rfl, Nat.le_refl _, fun h => absurd rfl h⟩
  · have hb' : Blk w g e cur := hb
    refine ⟨some ⟨g, 0, none⟩, cap, rfl, hle, fun _ => ⟨g, rfl, hg, hb'.lt, fun j u hj => ?_⟩⟩
    rw [hb'.cell j]
    rw [← htk, List.getElem?_take] at hj
    split at hj
    · rw [← hj, Array.getElem?_toList]
    · cases hj
theorem lpC_len (l : List Lp) : (lpC l).length = l.length * 5 := by
  induction l with
  | nil => rfl
  | cons x r ih => simp only [lpC, List.flatMap_cons, List.length_append, List.length_cons, lpv, List.length_nil] at *; omega
theorem clC_len (l : List (Cl × Value)) : (clC l).length = l.length * 128 := by
  induction l with
  | nil => rfl
  | cons x r ih =>
    have hb := bx_size (.bool x.1.d) x.1.f x.2
    simp only [clC, List.flatMap_cons, List.length_append, List.length_cons, Array.length_toList] at *
    omega
theorem OwD.sl {B : Nat} {w : World} {vl vc : Value} {ls : List Lp} {cs : List (Cl × Value)} (h : OwD B w vl vc ls cs) (h1 : ls.length ≤ 8) (h2 : cs.length ≤ 512) (h3 : ∀ x ∈ cs, x.1.l.length ≤ 3540) :
    SlD w.heap.size w vl vc ⟨ls, cs.map (·.1)⟩ := by
  refine ⟨?_, ?_, by show ls.length ≤ _; omega, by simp; omega, ?_⟩
  · obtain ⟨a0, cap, rfl, _, hc⟩ := own_cell h.lp (lpC_len ls)
    refine ⟨a0, cap, rfl, fun k x hx => ?_⟩
    have hk : k < ls.length := (List.getElem?_eq_some_iff.1 hx).1
    obtain ⟨g, rfl, _, hg, hcell⟩ := hc (by omega)
    refine ⟨g, 0, rfl, hg, fun j v hj => ?_⟩
    rw [Nat.zero_add]
    exact hcell _ _ (flat_get (fun x => (lpv x).toList) 5 (fun x => rfl) ls k j x v hx hj)
  · obtain ⟨a0, cap, rfl, _, hc⟩ := own_cell h.cl (clC_len cs)
    refine ⟨a0, cap, by simp, fun k x hx => ?_⟩
    simp only [List.getElem?_map, Option.map_eq_some_iff] at hx
    obtain ⟨⟨x', vx⟩, hx, rfl⟩ := hx
    have hk : k < cs.length := (List.getElem?_eq_some_iff.1 hx).1
    obtain ⟨g, rfl, _, hg, hcell⟩ := hc (by omega)
    refine ⟨g, 0, vx, rfl, hg, fun j v hj => ?_, (h.co _ (List.mem_of_getElem? hx)).sl (Nat.le_refl _)⟩
    rw [Nat.zero_add]
    exact hcell _ _ (flat_get (fun x : Cl × Value => (bx (.bool x.1.d) x.1.f x.2).toList) 128 (fun x => by rw [Array.length_toList, bx_size]) cs k j _ v hx hj)
  · intro c hc
    simp only [List.mem_map] at hc
    obtain ⟨x, hx, rfl⟩ := hc
    have := h3 x hx
    omega
theorem isDd_sl {B : Nat} {d : Dd} {v : Value} {w : World} (h : isDd B d v w) (h1 : d.ls.length ≤ 8) (h2 : d.cs.length ≤ 512) (h3 : ∀ c ∈ d.cs, c.l.length ≤ 3540) : ∃ al nl cl ac nc cc, v = .agg #[.slice al nl cl, .slice ac nc cc] ∧ SlD w.heap.size w (.slice al nl cl) (.slice ac nc cc) d := by
  obtain ⟨vl, vc, cs, rfl, hcs, ho⟩ := h
  obtain ⟨al, cl, rfl⟩ := own_slice ho.lp
  obtain ⟨ac, cc, rfl⟩ := own_slice ho.cl
  refine ⟨_, _, _, _, _, _, rfl, ?_⟩
  have hlen : cs.length = d.cs.length := by rw [← hcs, List.length_map]
  have := ho.sl h1 (by omega) (fun x hx => h3 x.1 (by rw [← hcs]; exact List.mem_map_of_mem hx))
  rw [hcs] at this
  exact this

theorem SlD.up {w w' : World} {v v' : Value} {d : Dd} (h : SlD w.heap.size w v v' d) (b : Below w.heap.size w w') : SlD w'.heap.size w' v v' d := (h.below b).mono b.size
theorem SlBy.up {w w' : World} {v : Value} {l : List Nat} (h : SlBy w.heap.size w v l) (b : Below w.heap.size w w') : SlBy w'.heap.size w' v l := (h.below b).mono b.size
theorem SlC.up {w w' : World} {v : Value} {l : List C3} (h : SlC w.heap.size w v l) (b : Below w.heap.size w w') : SlC w'.heap.size w' v l := (h.below b).mono b.size
theorem DecP.out' {b : List Nat} {w w' : World} {e : Ending} (h : DecP b w e w') {d : Dd} {a : Nat} {er : Int} (hd : decD b = (d, a, er)) : Below w.heap.size w w' ∧ ∃ v, e = .returned (.tuple #[v, .int .i64 (a : Int), .int .i64 er]) ∧ isDd w.heap.size d v w' := by
  unfold DecP at h
  rw [hd] at h
  exact h
theorem decS_eq : decD bS = ((decD bS).1, 0, 0) := by
  have := decS.1
  exact Prod.ext rfl this
theorem dec9_eq : decD [87, 65, 82, 49, 9] = ((decD [87, 65, 82, 49, 9]).1, 4, 112) := Prod.ext rfl dec9

theorem known_ok (w : World) : Calls Try.prog 11 #[] w fun e w' => e = .returned (.bool true) ∧ Below w.heap.size w w' := by
  go_enter Try.func11, Try.ntmps11
  go_wp2_with fail
  refine (small_ok _).mono ?_
  rintro e w1 ⟨vl, vc, vb, rfl, hd, hb, b1⟩
  obtain ⟨al, cl, hvl, _⟩ := hd.ls
  obtain ⟨ac, cc, hvc, _⟩ := hd.cs
  subst hvl hvc
  have HD := Lib.hid hd
  have HB := Lib.hid hb
  clear hd hb
  go_wp2_with fail
  have bA : Below w1.heap.size w1 (w1.alloc (.cells #[.slice al dS.ls.length cl, .slice ac dS.cs.length cc] 26)) := bAl (bRefl w1) _
  have TA : Blk (w1.alloc (.cells #[.slice al dS.ls.length cl, .slice ac dS.cs.length cc] 26)) w1.heap.size 26 #[.slice al dS.ls.length cl, .slice ac dS.cs.length cc] := Blk.new _ _ _
  have HDA := Lib.hid (HD.out.up bA)
  refine (encode_ok _ _ _ dS HDA.out).mono ?_
  rintro e w2 ⟨b2, vx, rfl, hown⟩
  rw [encS.1]
  rw [encS.2] at hown
  have HX := Lib.hid (SlBy.of_own hown (by decide))
  have T2 := Lib.hid (TA.below b2 TA.lt)
  have HD2 := Lib.hid (HDA.out.up b2)
  have HB2 := Lib.hid ((HB.out.up bA).up b2)
  have t2 := bThen (bThen b1 bA) b2
  have hl2 := T2.out.lt
  clear hown bA TA HDA HD HB b2
  go_wp2_with fail
  refine (decode_ok _ vb bS HB2.out).mono ?_
  rintro e w3 hr
  obtain ⟨b3, vd, rfl, hdd⟩ := hr.out' decS_eq
  obtain ⟨al', nl', cl', ac', nc', cc', rfl, hsd⟩ := isDd_sl hdd decS_len.1 decS_len.2.1 decS_len.2.2
  have HX3 := Lib.hid (HX.out.up b3)
  have HB3 := Lib.hid (HB2.out.up b3)
  have HD3 := Lib.hid (HD2.out.up b3)
  have T3 := Lib.hid (T2.out.below b3 T2.out.lt)
  have HE3 := Lib.hid hsd
  have t3 := bThen t2 b3
  have hl3 := T3.out.lt
  clear hr hdd hsd b3 HX HB2 HD2 T2
  go_wp2_with fail
  generalize hA : (w3.alloc (.cells #[.slice al' nl' cl', .slice ac' nc' cc'] 26)).alloc (.cells #[.int .u8 87, .int .u8 65, .int .u8 82, .int .u8 49, .int .u8 9] 5) = A
  have bA : Below w3.heap.size w3 A := by rw [← hA]; exact bAl (bAl (bRefl w3) _) _
  have E4 : Blk A w3.heap.size 26 #[.slice al' nl' cl', .slice ac' nc' cc'] := by rw [← hA]; exact (Blk.new _ _ _).alloc _
  have N4 : Blk A (w3.heap.size + 1) 5 #[.int .u8 87, .int .u8 65, .int .u8 82, .int .u8 49, .int .u8 9] := by rw [← hA]; exact Blk.new_at _ _ (by simp)
  have T4 := T3.out.below bA T3.out.lt
  refine (decode_ok _ _ [87, 65, 82, 49, 9] (SlBy.lit (l := [87, 65, 82, 49, 9]) N4 (by kernel_rfl) (by decide) (by decide))).mono ?_
  rintro e w4 hr
  obtain ⟨b4, vd, rfl, hdd⟩ := hr.out' dec9_eq
  obtain ⟨vl9, vc9, cs9, rfl, _, ho9⟩ := hdd
  obtain ⟨al9, cl9, rfl⟩ := own_slice ho9.lp
  obtain ⟨ac9, cc9, rfl⟩ := own_slice ho9.cl
  have HX4 := Lib.hid ((HX3.out.up bA).up b4)
  have HB4 := Lib.hid ((HB3.out.up bA).up b4)
  have HD4 := Lib.hid ((HD3.out.up bA).up b4)
  have HE4 := Lib.hid ((HE3.out.up bA).up b4)
  have T4 := Lib.hid (T4.below b4 T4.lt)
  have E4 := Lib.hid (E4.below b4 E4.lt)
  have t4 := bThen (bThen t3 bA) b4
  have h4 := T4.out.lt
  have h5 := E4.out.lt
  clear hr ho9 b4 bA hA N4 HX3 HB3 HD3 HE3 T3 t3 t2
  go_wp2_with fail
  generalize hA : w4.alloc (.cells #[.slice al9 (decD [87, 65, 82, 49, 9]).1.ls.length cl9, .slice ac9 cs9.length cc9] 26) = A
  have bA : Below w4.heap.size w4 A := by rw [← hA]; exact bAl (bRefl w4) _
  have HX5 := Lib.hid (HX4.out.up bA)
  have HB5 := Lib.hid (HB4.out.up bA)
  have HD5 := Lib.hid (HD4.out.up bA)
  have HE5 := Lib.hid (HE4.out.up bA)
  have T5 := T4.out.below bA T4.out.lt
  have E5 := E4.out.below bA E4.out.lt
  have t5 := bThen t4 bA
  have c0 := T5.cell 0
  have c1 := T5.cell 1
  have e0 := E5.cell 0
  have e1 := E5.cell 1
  simp only [List.getElem?_toArray, List.getElem?_cons_zero, List.getElem?_cons_succ] at c0 c1 e0 e1
  clear hA bA T5 E5 HX4 HB4 HD4 HE4 T4 E4 t4
  (with_reducible refine (samebytes_ok _ _ _ vb vx bS bS HB5.out HX5.out).mono ?_)
  rintro e w5 ⟨rfl, rfl⟩
  rw [show decide (bS = bS) = true from decide_eq_true rfl]
  go_wp2_with fail
  (with_reducible refine (samedeed_ok _ _ _ _ _ dS (decD bS).1 HD5.out HE5.out).mono ?_)
  rintro e w6 ⟨rfl, b6⟩
  rw [decS.2]
  have t6 := bThen t5 b6
  go_wp2
  go_ret
  exact ⟨rfl, t6⟩
end Go.Proofs.Ytfdjdpbiccclfaa
