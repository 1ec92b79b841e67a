/- DeedCut returns true for every input; nothing that was there is turned. -/
import Derived.Test.YtfdjdpbiccclfaaDCopy
import Derived.Test.YtfdjdpbiccclfaaDUnlike
namespace Go.Proofs.Ytfdjdpbiccclfaa
open Go Go.RowKit Go.Wr
open Go.ChangeShapes Go.WideShapes Go.ChangeAt Go.Deep
set_option maxHeartbeats 4000000
set_option maxRecDepth 100000

theorem encD_err {d : Dd} (h : encE d ≠ 0) : encD d = [] := by
  unfold encD
  rw [if_neg h]

theorem bcells_append (l m : List Nat) : bcells (l ++ m) = bcells l ++ bcells m := List.map_append
theorem bcells_set (l : List Nat) (k x : Nat) : bcells (l.set k x) = (bcells l).set k (.int .u8 (x : Int)) := List.map_set
theorem SlBy.some' {B : Nat} {w : World} {a0 : Option Addr} {n c : Nat} {b : List Nat} (h : SlBy B w (.slice a0 n c) b) (hb : b ≠ []) : ∃ ad, a0 = some ad := by
  obtain ⟨a1, cap, e, h1, h2, hc⟩ := h
  simp only [Value.slice.injEq] at e
  obtain ⟨rfl, rfl, rfl⟩ := e
  obtain ⟨x, hx⟩ : ∃ x, b[0]? = some x := ⟨_, List.getElem?_eq_getElem (List.length_pos_iff.2 hb)⟩
  obtain ⟨bb, off, e, _⟩ := hc 0 x hx
  exact ⟨_, e⟩
theorem tmod_k (a : Int) (L : Nat) (h6 : 6 ≤ L) (h4 : L ≤ 4194304) : ∃ k : Nat, k < L ∧ (wrap64 (a.tmod ↑L + ↑L)).tmod ↑L = (k : Int) := by
  have h1 := Int.tmod_lt_of_pos a (b := (L : Int)) (by omega)
  have h2 := Int.lt_tmod_of_pos a (b := (L : Int)) (by omega)
  have h3 : wrap64 (a.tmod ↑L + ↑L) = a.tmod ↑L + ↑L := by unfold wrap64; omega
  rw [h3]
  have h5 := Int.tmod_nonneg (↑L : Int) (a := a.tmod ↑L + ↑L) (by omega)
  have h7 := Int.tmod_lt_of_pos (a.tmod ↑L + ↑L) (b := (L : Int)) (by omega)
  exact ⟨((a.tmod ↑L + ↑L).tmod ↑L).toNat, by omega, by omega⟩
theorem mix_ne (b : List Nat) (k x y : Nat) (hx : b[k]? = some x) (hy : 0 < y ∧ y < 256) (_ : x < 256) : b.set k ((x + y) % 256) ≠ b := by
  intro e
  have hk := (List.getElem?_eq_some_iff.1 hx).1
  have := congrArg (fun l => l[k]?) e
  simp only [List.getElem?_set_self hk, hx, Option.some.injEq] at this
  omega
theorem set_256 {b : List Nat} (h : ∀ x ∈ b, x < 256) (k x : Nat) (hx : x < 256) : ∀ y ∈ b.set k x, y < 256 := fun y hy => by
  rcases List.mem_or_eq_of_mem_set hy with h1 | h1
  · exact h y h1
  · omega

theorem SlBy.take {B : Nat} {w : World} {a0 : Option Addr} {n c : Nat} {l : List Nat} (h : SlBy B w (.slice a0 n c) l) {k : Nat} (hk : k ≤ n) : SlBy B w (.slice a0 k c) (l.take k) := by
  obtain ⟨a1, c1, e, h1, h2, h3⟩ := h
  simp only [Value.slice.injEq] at e
  obtain ⟨rfl, rfl, rfl⟩ := e
  have hl : (l.take k).length = k := by rw [List.length_take]; omega
  refine ⟨a0, c, by rw [hl], by omega, h2, fun j x hj => ?_⟩
  rw [List.getElem?_take] at hj
  split at hj
  · exact h3 j x hj
  · cases hj


theorem cut_ok (w : World) (vl vc : Value) (d : Dd) (h : SlD w.heap.size w vl vc d) (a : Int) (_ : I64 a) (y : Int) (hy : 0 ≤ y ∧ y < 256) (vm : Value) (m : List Nat) (hm : SlBy w.heap.size w vm m) (hml : m.length ≤ 140737488351232) :
    Calls Try.prog 10 #[.agg #[vl, vc], .int .i64 a, .int .u8 y, vm] w fun e w' => e = .returned (.bool true) ∧ Below w.heap.size w w' := by
  obtain ⟨y, rfl⟩ := Int.eq_ofNat_of_zero_le hy.1
  obtain ⟨al, cl, hvl, _⟩ := h.ls
  obtain ⟨ac, cc, hvc, _⟩ := h.cs
  obtain ⟨am, cm, hvm, hm1, hm2, _⟩ := id hm
  subst hvl hvc hvm
  have H := Lib.hid h
  have HM := Lib.hid hm
  have HML := Lib.hid hml
  have HM1 := Lib.hid (And.intro hm1 hm2)
  clear h hm hml hm1 hm2
  go_enter Try.func10, Try.ntmps10
  go_upto_region 1 with (fail)
  generalize hW : (w.alloc (.cells #[.slice al d.ls.length cl, .slice ac d.cs.length cc] 26)) = W
  have bW : Below w.heap.size w W := by rw [← hW]; exact bAl (bRefl w) _
  have P0 : Blk W w.heap.size 26 #[.slice al d.ls.length cl, .slice ac d.cs.length cc] := by rw [← hW]; exact Blk.new _ _ _
  have H0 := Lib.hid (H.out.up bW)
  have M0 := Lib.hid (HM.out.up bW)
  clear hW H HM
  go_wp2_with fail
  refine (known_ok _).mono ?_
  rintro e w1 ⟨rfl, b1⟩
  have H1 := Lib.hid (H0.out.up b1)
  have M1 := Lib.hid (M0.out.up b1)
  have P1 := P0.below b1 P0.lt
  have t1 := bThen bW b1
  have c0 := P1.cell 0
  have c1 := P1.cell 1
  simp only [List.getElem?_toArray, List.getElem?_cons_zero, List.getElem?_cons_succ] at c0 c1
  have HP1 := Lib.hid P1
  clear H0 M0 P0 bW b1 P1
  go_wp2_with fail
  refine (encode_ok _ _ _ d H1.out).mono ?_
  rintro e w2 ⟨b2, v1, rfl, hown⟩
  have H2 := Lib.hid (H1.out.up b2)
  have M2 := Lib.hid (M1.out.up b2)
  have P2 := HP1.out.below b2 HP1.out.lt
  have t2 := bThen t1 b2
  have HP2 := Lib.hid P2
  clear H1 M1 HP1 t1 b2 P2 c0 c1
  obtain ⟨e1, he1⟩ : ∃ n, n = encE d := ⟨_, rfl⟩
  rw [← he1]
  by_cases h1 : e1 = 0
  · have h0 : encE d = 0 := by rw [← he1]; exact h1
    subst h1
    have h6 := enc_six h0
    have h4 : (encD d).length ≤ 4194304 := by rw [(enc_facts h0).2.1]; exact (enc_facts h0).2.2
    have h256 := encD_256 d
    obtain ⟨b, hb⟩ : ∃ b, b = encD d := ⟨_, rfl⟩
    rw [← hb] at hown h6 h4 h256
    obtain ⟨g, cb, hv1, _⟩ := hown.form (by omega)
    subst hv1
    have HO := Lib.hid hown
    have HS := Lib.hid (SlBy.of_own hown h256)
    have HB := Lib.hid hb
    have H00 := Lib.hid h0
    have H256 := Lib.hid h256
    have hone : ∀ u ∈ bcells m, u.oneCell' = true := fun u hu => by
      obtain ⟨n, _, rfl⟩ := List.mem_map.1 hu
      rfl
    have HONE := Lib.hid hone
    clear hown hb h0 h256 he1 hone
    go_upto_region 9 with (fail)
    obtain ⟨k, hkL, hk⟩ := tmod_k a b.length h6 h4
    rw [hk]
    clear hk
    have hk0 : (0 : Int) ≤ (k : Int) := by omega
    have hkb : (k : Int) ≤ (b.length : Int) := by omega
    have hkl : (k : Int) < (b.length : Int) := by omega
    have hkc : b.length ≤ cb := by
      obtain ⟨_, _, e, h1, _⟩ := HS.out
      simp only [Value.slice.injEq] at e
      omega
    go_wp2_with fail
    have hSk := HS.out.take (k := k) (by omega)
    refine (decode_ok _ _ _ hSk).mono ?_
    rintro e w3 hr
    have hdc : decD (List.take k b) = ((decD (List.take k b)).1, k, 110) := by
      have := dec_cut H00.out (k := k) (by rw [← HB.out]; exact hkL)
      rw [← HB.out] at this
      exact Prod.ext rfl this
    obtain ⟨b3, vd, rfl, hvd⟩ := hr.out' hdc
    obtain ⟨vl3, vc3, cs3, rfl, _, ho3⟩ := hvd
    obtain ⟨al3, cl3, rfl⟩ := own_slice ho3.lp
    obtain ⟨ac3, cc3, rfl⟩ := own_slice ho3.cl
    clear ho3
    have H3 := Lib.hid (H2.out.up b3)
    have M3 := Lib.hid (M2.out.up b3)
    have S3 := Lib.hid (HS.out.up b3)
    have P3 := HP2.out.below b3 HP2.out.lt
    have t3 := bThen t2 b3
    have hk0' : ((k : Int) != k) = false := by simp
    have HP3 := Lib.hid P3
    clear hr H2 M2 HS HO HP2 t2 b3 P3 hdc hSk
    go_upto_region 12 with (fail)
    generalize hW4 : w3.alloc _ = w4
    have b4 : Below w3.heap.size w3 w4 := by rw [← hW4]; exact bAl (bRefl w3) _
    have H4 := Lib.hid (H3.out.up b4)
    have M4 := Lib.hid (M3.out.up b4)
    have S4 := Lib.hid (S3.out.up b4)
    have P4 := HP3.out.below b4 HP3.out.lt
    have t4 := bThen t3 b4
    clear hW4 H3 M3 S3 HP3 t3 b4
    by_cases hy0 : y = 0
    · subst hy0
      clear P4 H4
      by_cases hm0 : m = []
      · have hml0 : ((m.length : Int) == 0) = true := by rw [hm0]; rfl
        go_wp2
        go_ret
        exact ⟨rfl, t4⟩
      · have hmp : 0 < m.length := List.length_pos_iff.2 hm0
        have hml0 : ((m.length : Int) == 0) = false := by rw [beq_eq_false_iff_ne]; omega
        obtain ⟨ad, rfl⟩ := M4.out.some' hm0
        have HM0 := Lib.hid hm0
        clear hm0
        go_wp2_with fail
        refine (copybytes_ok _ _ b S4.out (by omega)).mono ?_
        rintro e w5 ⟨b5, v5, rfl, hown, _⟩
        obtain ⟨g5, c5, rfl, hg5, _⟩ := hown.form (by omega)
        have M5 := Lib.hid (M4.out.up b5)
        obtain ⟨_, _, hnews⟩ := M5.out.news rfl HM0.out
        have HN := Lib.hid hnews
        have H256M := Lib.hid M5.out.lt256
        obtain ⟨i, hi, hz0, hz1, hz2⟩ := info_parts infoU8
        have Hi := Lib.hid hi
        have HO := Lib.hid hown
        have hsz : w4.heap.size ≤ w5.heap.size := b5.size
        have HB5 := Lib.hid b5
        clear hnews hi hown M4 S4 b5 M5
        go_wp2_with (at_builtin; refine wpList_append_own_wide _ rfl _ _ _ rfl w4.heap.size 5 i _ 1 1 Try.underlying28 Hi.out hz0 hz1 hz2 rfl (by omega) _ b.length (bcells b) rfl HO.out ad m.length cm (bcells m) rfl (by rw [bcells_len, Nat.mul_one]) HN.out HONE.out (by have := HML.out; unfold maxLen; omega) (by have := HML.out; omega) hsz ?_; intro v6 w6 hown hgrow hnil)
        have b6 : Below w4.heap.size w4 w6 := HB5.out.grown hgrow hsz (fun g hg => by
          cases hg
          exact hg5)
        rw [← bcells_append, ← List.length_append] at hown
        obtain ⟨g6, c6, rfl, _⟩ := hown.form (by rw [List.length_append]; omega)
        have h256n : ∀ x ∈ b ++ m, x < 256 := fun x hx => (List.mem_append.1 hx).elim (H256.out x) (H256M.out x)
        have S6 := Lib.hid (SlBy.of_own hown h256n)
        have t6 := bThen t4 b6
        clear hown hgrow hnil b6 HB5 t4 HO HN Hi h256n
        go_wp2_with fail
        refine (decode_ok _ _ _ S6.out).mono ?_
        rintro e w7 hr
        have hdm := dec_more H00.out HM0.out
        rw [← HB.out] at hdm
        have hmm := HML.out
        by_cases hbig : 4194304 < (b ++ m).length
        · rw [if_pos hbig] at hdm
          have hdm' : decD (b ++ m) = ((decD (b ++ m)).1, 0, 2) := Prod.ext rfl hdm
          obtain ⟨b7, v7, rfl, _⟩ := hr.out' hdm'
          have t7 := bThen t6 b7
          rw [List.length_append] at hbig
          have hbig' : (4194304 : Int) < (b.length : Int) + (m.length : Int) := by omega
          clear hr hdm hdm' S6 t6 b7 hbig
          go_wp2
          go_ret
          exact ⟨rfl, t7⟩
        · rw [if_neg hbig] at hdm
          have hdm' : decD (b ++ m) = ((decD (b ++ m)).1, b.length, 110) := Prod.ext rfl hdm
          obtain ⟨b7, v7, rfl, _⟩ := hr.out' hdm'
          have t7 := bThen t6 b7
          rw [List.length_append] at hbig
          have hbig' : ¬ (4194304 : Int) < (b.length : Int) + (m.length : Int) := by omega
          have hbb : ((b.length : Int) == (b.length : Int)) = true := by simp
          clear hr hdm hdm' S6 t6 b7 hbig
          go_wp2
          go_ret
          exact ⟨rfl, t7⟩
    · have hyb : ((y : Int) != 0) = true := by rw [bne_iff_ne]; omega
      go_wp2_with fail
      refine (copybytes_ok _ _ b S4.out (by omega)).mono ?_
      rintro e w5 ⟨b5, v5, rfl, hown, _⟩
      obtain ⟨g5, c5, rfl, hg5, _⟩ := hown.form (by omega)
      obtain ⟨x5, hx5⟩ : ∃ x, b[k]? = some x := ⟨_, List.getElem?_eq_getElem hkL⟩
      have hxm := H256.out x5 (List.mem_of_getElem? hx5)
      have hc5 := hown.cellAt k (by omega)
      have hf5 := hown.frozenAt k
      rw [show (bcells b)[k]? = some (.int .u8 (x5 : Int)) by simp [bcells, List.getElem?_map, hx5]] at hc5
      have HP4 := Lib.hid P4
      have HO5 := Lib.hid hown
      have HB5 := Lib.hid b5
      have hsz : w4.heap.size ≤ w5.heap.size := b5.size
      clear P4 b5 hown
      go_upto_region 15 with (fail)
      have hmix : ((x5 : Int) + (y : Int)) % 256 = (((x5 + y) % 256 : Nat) : Int) := by omega
      rw [hmix]
      obtain ⟨hs1, hs2⟩ := HO5.out.stored k (.int .u8 (((x5 + y) % 256 : Nat) : Int))
      rw [← bcells_set] at hs1
      generalize hW6 : w5.setCell _ _ = w6
      rw [hW6] at hs1 hs2
      have hl6 : (b.set k ((x5 + y) % 256)).length = b.length := List.length_set
      have hne := mix_ne b k x5 y hx5 (by omega) hxm
      have h256c := set_256 H256.out k ((x5 + y) % 256) (by omega)
      generalize b.set k ((x5 + y) % 256) = bc at hs1 hl6 hne h256c
      rw [← hl6] at hs1
      have b6 : Below w4.heap.size w4 w6 := HB5.out.grown hs2 hsz (fun g hg => by
          cases hg
          exact hg5)
      have C6 := SlBy.of_own hs1 h256c
      rw [hl6] at C6
      have HC6 := Lib.hid C6
      have H6 := Lib.hid (H4.out.up b6)
      have M6 := Lib.hid (M4.out.up b6)
      have S6 := Lib.hid (S4.out.up b6)
      have P6 := HP4.out.below b6 HP4.out.lt
      have t6 := bThen t4 b6
      have HP6 := Lib.hid P6
      have HNE := Lib.hid hne
      have HCC := Lib.hid h256c
      clear H4 M4 S4 HP4 P6 b6 hs1 hs2 hW6 hg5 hc5 hf5 HO5 HB5 hsz hmix C6 hne h256c t4 hl6
      go_wp2_with fail
      refine (decode_ok _ _ bc HC6.out).mono ?_
      rintro e w7 ⟨b7, vd, rfl, hd⟩
      have hn := dec_len bc HCC.out
      have hby := dec_byte (d := d) HCC.out (by rw [← HB.out]; exact HNE.out)
      obtain ⟨al7, nl7, cl7, ac7, nc7, cc7, rfl, hsd⟩ := isDd_sl hd hn.1 hn.2.1 hn.2.2
      obtain ⟨x, hx⟩ : ∃ x, x = (decD bc).1 := ⟨_, rfl⟩
      obtain ⟨p7, hp7⟩ : ∃ p, p = (decD bc).2.1 := ⟨_, rfl⟩
      obtain ⟨e7, he7⟩ : ∃ p, p = (decD bc).2.2 := ⟨_, rfl⟩
      rw [← hp7, ← he7]
      rw [← hx, ← he7] at hby
      rw [← hx] at hsd
      have H7 := Lib.hid (H6.out.up b7)
      have M7 := Lib.hid (M6.out.up b7)
      have S7 := Lib.hid (S6.out.up b7)
      have P7 := HP6.out.below b7 HP6.out.lt
      have t7 := bThen t6 b7
      have HP7 := Lib.hid P7
      have HSD := Lib.hid hsd
      have HBY := Lib.hid hby
      clear H6 M6 S6 HP6 P7 b7 hn hx hp7 he7 hd hsd hby t6 HC6
      go_upto_region 16 with (fail)
      have HQ8 := Lib.hid (show Blk (w7.alloc (.cells #[.slice al7 nl7 cl7, .slice ac7 nc7 cc7] 26)) w7.heap.size 26 #[.slice al7 nl7 cl7, .slice ac7 nc7 cc7] from Blk.new _ _ _)
      generalize hW8 : w7.alloc _ = w4
      rw [hW8] at HQ8
      have b8 : Below w7.heap.size w7 w4 := by rw [← hW8]; exact bAl (bRefl w7) _
      have H8 := Lib.hid (H7.out.up b8)
      have X8 := Lib.hid (HSD.out.up b8)
      have M8 := Lib.hid (M7.out.up b8)
      have S8 := Lib.hid (S7.out.up b8)
      have P8 := HP7.out.below b8 HP7.out.lt
      have t8 := bThen t7 b8
      have c0 := P8.cell 0
      have c1 := P8.cell 1
      have d0 := HQ8.out.cell 0
      have d1 := HQ8.out.cell 1
      simp only [List.getElem?_toArray, List.getElem?_cons_zero, List.getElem?_cons_succ] at c0 c1 d0 d1
      clear hW8 H7 M7 S7 HP7 t7 b8 P8 HSD HQ8
      by_cases h7 : e7 = 0
      · subst h7
        go_wp2_with fail
        (with_reducible refine (samedeed_ok _ _ _ _ _ d x H8.out X8.out).mono ?_)
        rintro e w4 ⟨rfl, b9⟩
        have hsf : sameD d x = false := by
          cases hs : sameD d x with
          | false => rfl
          | true => exact absurd (by simp [hs]) HBY.out
        rw [hsf]
        have M4 := Lib.hid (M8.out.up b9)
        have S4 := Lib.hid (S8.out.up b9)
        have t4 := bThen t8 b9
        clear M8 S8 H8 X8 t8 b9 c0 c1 d0 d1 hsf
        go_upto_region 18 with (fail)
        by_cases hm0 : m = []
        · have hml0 : ((m.length : Int) == 0) = true := by rw [hm0]; rfl
          go_wp2
          go_ret
          exact ⟨rfl, t4⟩
        · have hmp : 0 < m.length := List.length_pos_iff.2 hm0
          have hml0 : ((m.length : Int) == 0) = false := by rw [beq_eq_false_iff_ne]; omega
          obtain ⟨ad, rfl⟩ := M4.out.some' hm0
          have HM0 := Lib.hid hm0
          clear hm0
          go_wp2_with fail
          refine (copybytes_ok _ _ b S4.out (by omega)).mono ?_
          rintro e w5 ⟨b5, v5, rfl, hown, _⟩
          obtain ⟨g5, c5, rfl, hg5, _⟩ := hown.form (by omega)
          have M5 := Lib.hid (M4.out.up b5)
          obtain ⟨_, _, hnews⟩ := M5.out.news rfl HM0.out
          have HN := Lib.hid hnews
          have H256M := Lib.hid M5.out.lt256
          obtain ⟨i, hi, hz0, hz1, hz2⟩ := info_parts infoU8
          have Hi := Lib.hid hi
          have HO := Lib.hid hown
          have hsz : w4.heap.size ≤ w5.heap.size := b5.size
          have HB5 := Lib.hid b5
          clear hnews hi hown M4 S4 b5 M5
          go_wp2_with (at_builtin; refine wpList_append_own_wide _ rfl _ _ _ rfl w4.heap.size 5 i _ 1 1 Try.underlying28 Hi.out hz0 hz1 hz2 rfl (by omega) _ b.length (bcells b) rfl HO.out ad m.length cm (bcells m) rfl (by rw [bcells_len, Nat.mul_one]) HN.out HONE.out (by have := HML.out; unfold maxLen; omega) (by have := HML.out; omega) hsz ?_; intro v6 w6 hown hgrow hnil)
          have b6 : Below w4.heap.size w4 w6 := HB5.out.grown hgrow hsz (fun g hg => by
            cases hg
            exact hg5)
          rw [← bcells_append, ← List.length_append] at hown
          obtain ⟨g6, c6, rfl, _⟩ := hown.form (by rw [List.length_append]; omega)
          have h256n : ∀ x ∈ b ++ m, x < 256 := fun x hx => (List.mem_append.1 hx).elim (H256.out x) (H256M.out x)
          have S6 := Lib.hid (SlBy.of_own hown h256n)
          have t6 := bThen t4 b6
          clear hown hgrow hnil b6 HB5 t4 HO HN Hi h256n
          go_wp2_with fail
          refine (decode_ok _ _ _ S6.out).mono ?_
          rintro e w7 hr
          have hdm := dec_more H00.out HM0.out
          rw [← HB.out] at hdm
          have hmm := HML.out
          by_cases hbig : 4194304 < (b ++ m).length
          · rw [if_pos hbig] at hdm
            have hdm' : decD (b ++ m) = ((decD (b ++ m)).1, 0, 2) := Prod.ext rfl hdm
            obtain ⟨b7, v7, rfl, _⟩ := hr.out' hdm'
            have t7 := bThen t6 b7
            rw [List.length_append] at hbig
            have hbig' : (4194304 : Int) < (b.length : Int) + (m.length : Int) := by omega
            clear hr hdm hdm' S6 t6 b7 hbig
            go_wp2
            go_ret
            exact ⟨rfl, t7⟩
          · rw [if_neg hbig] at hdm
            have hdm' : decD (b ++ m) = ((decD (b ++ m)).1, b.length, 110) := Prod.ext rfl hdm
            obtain ⟨b7, v7, rfl, _⟩ := hr.out' hdm'
            have t7 := bThen t6 b7
            rw [List.length_append] at hbig
            have hbig' : ¬ (4194304 : Int) < (b.length : Int) + (m.length : Int) := by omega
            have hbb : ((b.length : Int) == (b.length : Int)) = true := by simp
            clear hr hdm hdm' S6 t6 b7 hbig
            go_wp2
            go_ret
            exact ⟨rfl, t7⟩
      · have h7' : (e7 == 0) = false := by rw [beq_eq_false_iff_ne]; exact h7
        have M4 := M8
        have S4 := S8
        have t4 := t8
        clear M8 S8 H8 X8 t8 c0 c1 d0 d1
        go_upto_region 18 with (fail)
        by_cases hm0 : m = []
        · have hml0 : ((m.length : Int) == 0) = true := by rw [hm0]; rfl
          go_wp2
          go_ret
          exact ⟨rfl, t4⟩
        · have hmp : 0 < m.length := List.length_pos_iff.2 hm0
          have hml0 : ((m.length : Int) == 0) = false := by rw [beq_eq_false_iff_ne]; omega
          obtain ⟨ad, rfl⟩ := M4.out.some' hm0
          have HM0 := Lib.hid hm0
          clear hm0
          go_wp2_with fail
          refine (copybytes_ok _ _ b S4.out (by omega)).mono ?_
          rintro e w5 ⟨b5, v5, rfl, hown, _⟩
          obtain ⟨g5, c5, rfl, hg5, _⟩ := hown.form (by omega)
          have M5 := Lib.hid (M4.out.up b5)
          obtain ⟨_, _, hnews⟩ := M5.out.news rfl HM0.out
          have HN := Lib.hid hnews
          have H256M := Lib.hid M5.out.lt256
          obtain ⟨i, hi, hz0, hz1, hz2⟩ := info_parts infoU8
          have Hi := Lib.hid hi
          have HO := Lib.hid hown
          have hsz : w4.heap.size ≤ w5.heap.size := b5.size
          have HB5 := Lib.hid b5
          clear hnews hi hown M4 S4 b5 M5
          go_wp2_with (at_builtin; refine wpList_append_own_wide _ rfl _ _ _ rfl w4.heap.size 5 i _ 1 1 Try.underlying28 Hi.out hz0 hz1 hz2 rfl (by omega) _ b.length (bcells b) rfl HO.out ad m.length cm (bcells m) rfl (by rw [bcells_len, Nat.mul_one]) HN.out HONE.out (by have := HML.out; unfold maxLen; omega) (by have := HML.out; omega) hsz ?_; intro v6 w6 hown hgrow hnil)
          have b6 : Below w4.heap.size w4 w6 := HB5.out.grown hgrow hsz (fun g hg => by
            cases hg
            exact hg5)
          rw [← bcells_append, ← List.length_append] at hown
          obtain ⟨g6, c6, rfl, _⟩ := hown.form (by rw [List.length_append]; omega)
          have h256n : ∀ x ∈ b ++ m, x < 256 := fun x hx => (List.mem_append.1 hx).elim (H256.out x) (H256M.out x)
          have S6 := Lib.hid (SlBy.of_own hown h256n)
          have t6 := bThen t4 b6
          clear hown hgrow hnil b6 HB5 t4 HO HN Hi h256n
          go_wp2_with fail
          refine (decode_ok _ _ _ S6.out).mono ?_
          rintro e w7 hr
          have hdm := dec_more H00.out HM0.out
          rw [← HB.out] at hdm
          have hmm := HML.out
          by_cases hbig : 4194304 < (b ++ m).length
          · rw [if_pos hbig] at hdm
            have hdm' : decD (b ++ m) = ((decD (b ++ m)).1, 0, 2) := Prod.ext rfl hdm
            obtain ⟨b7, v7, rfl, _⟩ := hr.out' hdm'
            have t7 := bThen t6 b7
            rw [List.length_append] at hbig
            have hbig' : (4194304 : Int) < (b.length : Int) + (m.length : Int) := by omega
            clear hr hdm hdm' S6 t6 b7 hbig
            go_wp2
            go_ret
            exact ⟨rfl, t7⟩
          · rw [if_neg hbig] at hdm
            have hdm' : decD (b ++ m) = ((decD (b ++ m)).1, b.length, 110) := Prod.ext rfl hdm
            obtain ⟨b7, v7, rfl, _⟩ := hr.out' hdm'
            have t7 := bThen t6 b7
            rw [List.length_append] at hbig
            have hbig' : ¬ (4194304 : Int) < (b.length : Int) + (m.length : Int) := by omega
            have hbb : ((b.length : Int) == (b.length : Int)) = true := by simp
            clear hr hdm hdm' S6 t6 b7 hbig
            go_wp2
            go_ret
            exact ⟨rfl, t7⟩
  · have hl : encD d = [] := encD_err (by rw [← he1]; exact h1)
    rw [hl] at hown
    obtain ⟨an, cn, hv1⟩ := own_slice hown
    subst hv1
    have hne : (e1 != 0) = true := by rw [bne_iff_ne]; exact h1
    clear he1 hown
    simp only [List.length_nil]
    go_wp2
    go_ret
    exact ⟨rfl, t2⟩

theorem u8_of_wf {n : Int} (h : (Lit.int .u8 n).wf = true) : 0 ≤ n ∧ n < 256 := by
  simp [Lit.wf, IntKind.min, IntKind.max, IntKind.signed, IntKind.bits] at h
  omega
theorem open_byz {H : Type} {enc : TypeId × Value → H} {w : World} {base : Nat} {held : Bool} {a0 : Option Addr} {len cap : Nat} {fuel : Nat} {x : DataW H × List MemPlace} (h : DataW.trod enc Try.prog w base (fun _ => true) held fuel 28 [.slice a0 len cap] = some x) (hz : ∀ n ∈ x.1.weights Try.prog 28, n ≤ reachBytes) :
    ∃ b, SlBy w.heap.size w (.slice a0 len cap) b ∧ b.length ≤ 140737488351232 := by
  obtain ⟨b, hb⟩ := open_by h
  refine ⟨b, hb, ?_⟩
  have hl : b.length = len := by
    obtain ⟨_, _, e, _⟩ := hb
    simp only [Value.slice.injEq] at e
    omega
  rw [hl]
  rcases open_slice Try.underlying28 h with ⟨hcs, _⟩ | ⟨a, len', cap', m, n', D, Pl, hcs, _, _, _, _, hd, _⟩
  · simp only [List.cons.injEq, Value.slice.injEq, and_true] at hcs
    omega
  · simp only [List.cons.injEq, Value.slice.injEq, and_true] at hcs
    have hw := hz ((len' + (m - len')) * Try.prog.bytesOf 5) (by rw [hd]; simp [DataW.weights, Try.underlying28])
    rw [show Try.prog.bytesOf 5 = 1 by kernel_rfl] at hw
    have hr : reachBytes = 140737488351232 := rfl
    rw [hr] at hw
    omega

-- The row's step.
set_option maxRecDepth 100000 in
theorem deedCut_lifted (os : Os) (started : os.Started) (H : Type) (enc : TypeId × Value → H) :
    ReturnsInHanded {} Try.checked os 10 .any (Rows.deedCutSpec.pre6 enc Try.prog Try.f10 Rows.deedCutRow.domain false) (Rows.deedCutSpec.post enc Try.prog Try.f10 false true false false) := by
  refine returnsInHanded_of_change_sized (C := Try.checked) own started (by kernel_rfl) Try.func10
    (ChangeSpec.witness6 (enc := enc) (C := Try.checked) false ⟨#[], #[.agg #[.slice none 0 0, .slice none 0 0], .int .i64 0, .int .u8 0, .slice none 0 0], []⟩ 8 (by kernel_rfl) (by kernel_rfl) (by kernel_rfl) (by kernel_rfl)) ?_
  intro W base args ds gs before hval0 hW hcnd hsz _
  have hval : ∀ (j : Nat) t v, Try.f10.params[j]? = some t → args[j]? = some v → Value.okWide Try.prog W .any base t v := hval0
  have hW' := hW
  obtain ⟨p, q, hA0, hV, rfl, hfz, hnd⟩ := hW
  have hA : DataW.TrodAll enc Try.prog W 0 (fun _ => true) true Try.f10.params.toList args.toList ds p := hA0
  rw [Try.params10] at hA hval hsz
  obtain ⟨v0, vs0, d0, ds0, p0, q0, hargs, rfl, rfl, h0, r0⟩ := trodAll_cons hA
  obtain ⟨v1, vs1, d1, ds1, p1, q1, rfl, rfl, rfl, h1, r1⟩ := trodAll_cons r0
  obtain ⟨v2, vs2, d2, ds2, p2, q2, rfl, rfl, rfl, h2, r2⟩ := trodAll_cons r1
  obtain ⟨v3, vs3, d3, ds3, p3, q3, rfl, rfl, rfl, h3, r3⟩ := trodAll_cons r2
  obtain ⟨rfl, rfl, rfl⟩ := trodAll_nil r3
  obtain rfl : args = #[v0, v1, v2, v3] := by cases args; simp_all
  obtain ⟨rfl, rfl⟩ := trodVars_none hV
  have k0 := h0
  have lt0 : ∀ x ∈ p0, x.block < W.heap.size := by obtain ⟨m, hm⟩ := k0; exact DataW.trod_lt m _ _ _ hm
  obtain ⟨al0, nl0, cl0, ac0, nc0, cc0, o0, rfl, g0⟩ := open_deed h0 (hval 0 26 v0 rfl rfl) (fun n hn => of_decide_eq_true (List.all_eq_true.1 hsz n (DataW.weights_mem_each (j := 0) (t := 26) rfl rfl n hn)))
  have k1 := h1
  have lt1 : ∀ x ∈ p1, x.block < W.heap.size := by obtain ⟨m, hm⟩ := k1; exact DataW.trod_lt m _ _ _ hm
  obtain ⟨n1, rfl, rfl, rfl, w1⟩ := open_int Try.underlying3 (hval 1 3 v1 rfl rfl) h1
  have k2 := h2
  have lt2 : ∀ x ∈ p2, x.block < W.heap.size := by obtain ⟨m, hm⟩ := k2; exact DataW.trod_lt m _ _ _ hm
  obtain ⟨n2, rfl, rfl, rfl, w2⟩ := open_int Try.underlying5 (hval 2 5 v2 rfl rfl) h2
  have k3 := h3
  have lt3 : ∀ x ∈ p3, x.block < W.heap.size := by obtain ⟨m, hm⟩ := k3; exact DataW.trod_lt m _ _ _ hm
  obtain ⟨a3, len3, cap3, rfl⟩ := okWide_slice Try.underlying28 (hval 3 28 v3 rfl rfl)
  obtain ⟨l3, g3, z3⟩ : ∃ l, SlBy W.heap.size W (.slice a3 len3 cap3) l ∧ l.length ≤ 140737488351232 := by
    obtain ⟨fuel, hf⟩ := h3
    exact open_byz (x := (d3, p3)) (by simpa [Value.cells] using hf) (fun n hn => of_decide_eq_true (List.all_eq_true.1 hsz n (DataW.weights_mem_each (j := 3) (t := 28) rfl rfl n hn)))
  clear hA0 hval0 hval hfz hnd hcnd hA
  refine (cut_ok W _ _ o0 g0 n1 (i64_of_wf w1) n2 (u8_of_wf w2) _ l3 g3 z3).mono fun e W' ⟨he, bel⟩ => ?_
  subst he
  exact ⟨_, rfl, _, _, _, [], _, [], hW', trodAll_mk1 (shut_bool Try.underlying4 _), (trodAll_cons_mk (Below.trod laidOut (by kernel_rfl) (of_decide_eq_true (by kernel_rfl)) k0 bel lt0) (trodAll_cons_mk (Below.trod laidOut (by kernel_rfl) (of_decide_eq_true (by kernel_rfl)) k1 bel lt1) (trodAll_cons_mk (Below.trod laidOut (by kernel_rfl) (of_decide_eq_true (by kernel_rfl)) k2 bel lt2) (trodAll_cons_mk (Below.trod laidOut (by kernel_rfl) (of_decide_eq_true (by kernel_rfl)) k3 bel lt3) trodAll_mk0)))), rfl, bel.frame _, fun h => by cases h⟩

theorem DeedCut_holds : Rows.DeedCutSaid :=
  OpenClaim.holds_of_wide 10 Try.f10 rfl rfl rfl rfl rfl rfl rfl ⟨rfl, rfl, rfl, rfl, rfl⟩ rfl rfl rfl rfl rfl (by kernel_rfl) Try.func10 (by kernel_rfl)
    (of_decide_eq_true (by kernel_rfl)) (by unfold Func.isWrapper; rw [if_neg (of_decide_eq_false (by kernel_rfl))]; exact ⟨rfl, rfl⟩)
    (fun os started H enc _ => deedCut_lifted os started H enc)
#print axioms DeedCut_holds

end Go.Proofs.Ytfdjdpbiccclfaa
