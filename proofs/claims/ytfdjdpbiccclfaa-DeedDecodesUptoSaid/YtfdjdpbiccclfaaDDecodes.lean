/- DeedDecodes returns true for every input of small bulk; nothing that was there is turned. -/
import Derived.Test.YtfdjdpbiccclfaaDLb
import Derived.Test.YtfdjdpbiccclfaaDCf
namespace Go.Proofs.Ytfdjdpbiccclfaa
open Go Go.RowKit Go.Wr
open Go.ChangeShapes Go.WideShapes Go.ChangeAt Go.Deep
set_option maxHeartbeats 4000000
set_option maxRecDepth 100000

/-- Bytes are copied over the beginning of a block; no other block turns. -/
theorem wpl_copy_ex {ops : Array Oper} {rest : List Oper} {op : Oper} {a : Act} {w : World} {Q : Exit → Act → World → Prop} (hgd : op.guard = none) (d s : Operand)
    (ho : op.op = .call { callee := .builtin .copy, args := #[d, s], argTypes := #[28, 28] }) (g : Nat) (L b : List Nat) (sp : Option Addr) (n c : Nat)
    (hd : a.eval d = .slice (some ⟨g, 0, none⟩) b.length n) (hs : a.eval s = .slice sp b.length c) (hg : Blk w g 5 (bcells L).toArray)
    (hpos : 0 < (bcells b).length → ∃ ad, sp = some ad ∧ ∀ (j : Nat) (u : Value), (bcells b)[j]? = some u → w.cell? (ad.add j) = some u) (hfit : 0 + (bcells b).length ≤ (bcells L).length)
    (h : ∀ w', Ex g w w' → Blk w' g 5 (bcells (b ++ L.drop b.length)).toArray → wpList Try.prog ops Q rest (a.put op.dst (goInt (bcells b).length)) w') : wpList Try.prog ops Q (op :: rest) a w := by
  by_cases h0 : b = []
  · subst h0
    refine wpList_copy_nothing hgd d s 28 28 ho 5 Try.underlying28 sizeU8 _ _ _ _ _ _ hd hs (by simp) ?_
    exact h w (Ex.refl _ _) (by simpa using hg)
  · obtain ⟨ad, rfl, hsrc⟩ := hpos (by rw [bcells_len]; exact List.length_pos_iff.2 h0)
    refine wpList_copy_own hgd d s 28 28 ho 5 Try.underlying28 sizeU8 g 0 b.length n ad b.length c hd hs (bcells L).toArray 5 hg (bcells b) (by rw [bcells_len]; exact (Nat.min_self _).symm) hsrc (by simpa using hfit) (bcells_ones b) ?_
    refine h _ ⟨rfl, rfl, rfl, by simp [World.setRow], fun k _ hk => setRow_other w g k _ hk⟩ ?_
    have := setRow_heap w g (bcells L).toArray (((bcells L).toArray.toList.take 0 ++ (bcells b ++ (bcells L).toArray.toList.drop (0 + (bcells b).length))).toArray) 5 (0, 0) hg
    refine Blk.eq this ?_
    simp [bcells]
theorem sameD_refl (d : Dd) : sameD d d = true := by
  unfold sameD
  simp only [decide_true, Bool.true_and]
  rw [sameCs_iff]
  refine ⟨rfl, fun i x y hx hy => ?_⟩
  rw [hx] at hy
  injection hy with hy
  subst hy
  exact sameC_iff.2 ⟨rfl, fun _ _ => rfl, rfl⟩
/-- A decoded deed, in a form that stays while other rows are written. -/
structure DdAt (B : Nat) (w : World) (al : Option Addr) (nl cl : Nat) (ac : Option Addr) (nc cc : Nat) (d : Dd) : Prop where
  ow : ∃ cs, cs.map (·.1) = d.cs ∧ OwD B w (.slice al nl cl) (.slice ac nc cc) d.ls cs
  n1 : d.ls.length ≤ 8
  n2 : d.cs.length ≤ 512
  n3 : ∀ c ∈ d.cs, c.l.length ≤ 3540
theorem DdAt.sl {B : Nat} {w : World} {al ac : Option Addr} {nl cl nc cc : Nat} {d : Dd} (h : DdAt B w al nl cl ac nc cc d) : SlD w.heap.size w (.slice al nl cl) (.slice ac nc cc) d := by
  obtain ⟨⟨cs, hcs, ho⟩, h1, h2, h3⟩ := h
  have hlen : cs.length = d.cs.length := by rw [← hcs, List.length_map]
  have := ho.sl h1 (by omega) (fun x hx => h3 x.1 (by rw [← hcs]; exact List.mem_map_of_mem hx))
  rw [hcs] at this
  exact this
theorem DdAt.up {B : Nat} {w w' : World} {al ac : Option Addr} {nl cl nc cc : Nat} {d : Dd} (h : DdAt B w al nl cl ac nc cc d) (b : Below w.heap.size w w') : DdAt B w' al nl cl ac nc cc d := by
  obtain ⟨⟨cs, hcs, ho⟩, h1, h2, h3⟩ := h
  exact ⟨⟨cs, hcs, ho.below b⟩, h1, h2, h3⟩
theorem DdAt.ex {B g : Nat} {w w' : World} {C : Array Value} {al ac : Option Addr} {nl cl nc cc : Nat} {d : Dd} (h : DdAt B w al nl cl ac nc cc d) (hx : Ex g w w') (hg : Blk w g 5 C) : DdAt B w' al nl cl ac nc cc d := by
  obtain ⟨⟨cs, hcs, ho⟩, h1, h2, h3⟩ := h
  exact ⟨⟨cs, hcs, ho.of_block fun k T C' hT hk => hx.block k hk.lt (blk_ne hk hg (by rcases hT with rfl | rfl | rfl <;> decide))⟩, h1, h2, h3⟩
theorem DdAt.keep {B : Nat} {w w' : World} {al ac : Option Addr} {nl cl nc cc : Nat} {d : Dd} (h : DdAt B w al nl cl ac nc cc d) (hx : ∀ k T C, Blk w k T C → T ≠ 26 → Blk w' k T C) : DdAt B w' al nl cl ac nc cc d := by
  obtain ⟨⟨cs, hcs, ho⟩, h1, h2, h3⟩ := h
  exact ⟨⟨cs, hcs, ho.of_block fun k T C hT hk => (hx k T C hk (by rcases hT with rfl | rfl | rfl <;> decide)).trans (show w.heap[k]? = _ from hk).symm⟩, h1, h2, h3⟩
theorem DecP.at' {b : List Nat} {w w' : World} {e : Ending} (h : DecP b w e w') (h256 : ∀ x ∈ b, x < 256) : Below w.heap.size w w' ∧ ∃ al nl cl ac nc cc, e = .returned (.tuple #[.agg #[.slice al nl cl, .slice ac nc cc], .int .i64 ((decD b).2.1 : Int), .int .i64 (decD b).2.2]) ∧ DdAt w.heap.size w' al nl cl ac nc cc (decD b).1 := by
  obtain ⟨hb, v, rfl, vl, vc, cs, rfl, hcs, ho⟩ := h
  have hn := dec_len b h256
  obtain ⟨al, cl, rfl⟩ := own_slice ho.lp
  obtain ⟨ac, cc, rfl⟩ := own_slice ho.cl
  exact ⟨hb, al, _, cl, ac, _, cc, rfl, ⟨cs, hcs, ho⟩, hn.1, hn.2.1, hn.2.2⟩

theorem Ldr.up {p g i n : Nat} {w0 wr w' : World} {b : List Nat} (h : Ldr p g w0 b i n wr) (hb : Below wr.heap.size wr w') : Ldr p g w0 b i n w' :=
  ⟨h.pb.below hb h.pb.lt, h.gb.below hb h.gb.lt, h.ex.trans (Ex.of_below hb), h.hg, h.hp⟩
theorem SlBy.of_blk' {B g n k : Nat} {w : World} {L : List Nat} (hb : Blk w g 5 (bcells L).toArray) (hg : g < B) (h256 : ∀ x ∈ L.take k, x < 256) (hk : k ≤ L.length) (hn : k ≤ n) (hm : n ≤ maxLen) : SlBy B w (.slice (some ⟨g, 0, none⟩) k n) (L.take k) := by
  refine ⟨some ⟨g, 0, none⟩, n, by rw [List.length_take, Nat.min_eq_left hk], by rw [List.length_take, Nat.min_eq_left hk]; exact hn, hm, fun i x hx => ?_⟩
  have hlt := h256 x (List.mem_of_getElem? hx)
  rw [List.getElem?_take] at hx
  split at hx
  · refine ⟨g, 0, rfl, hg, hlt, ?_⟩
    rw [hb.cell, Nat.zero_add, List.getElem?_toArray]
    simp [bcells, hx]
  · cases hx
theorem xor1 : ∀ z : Fin 256, bits BinOp.xor IntKind.u8 ((z.val : Nat) : Int) 1 = ((z.val ^^^ 1 : Nat) : Int) := by decide +kernel
theorem xor1_lt : ∀ z : Fin 256, z.val ^^^ 1 < 256 := by decide +kernel
theorem decodes_ok (w : World) (v : Value) (b : List Nat) (h : SlBy w.heap.size w v b) (hl : b.length ≤ 1099511627776) : Calls Try.prog 5 #[v] w fun e w' => e = .returned (.bool true) ∧ Below w.heap.size w w' := by
  have H := Lib.hid h
  have h256 := h.lt256
  obtain ⟨a0, cap, hv, hc1, hc2, _⟩ := h
  subst hv
  unfold maxLen at hc2
  have H256 := Lib.hid h256
  clear h256
  go_enter Try.func5, Try.ntmps5
  go_wp2_with fail
  refine (known_ok _).mono ?_
  rintro e w1 ⟨rfl, b1⟩
  have H1 := Lib.hid (H.out.up b1)
  go_upto_region 4 with (fail)
  generalize hW : w1.alloc _ = W
  obtain ⟨p, hp⟩ : ∃ p, p = w1.heap.size := ⟨_, rfl⟩
  have bW : Below w1.heap.size w1 W := by rw [← hW]; exact bAl (bRefl w1) _
  have PB : Blk W p 40 #[.slice none 0 0] := by rw [← hW, hp]; exact Blk.new _ _ _
  have H2 := Lib.hid (H1.out.below bW)
  have tW := bThen b1 bW
  rw [← hp] at H2 ⊢
  have HPB := Lib.hid PB
  have hpw : w.heap.size ≤ p := by have := b1.size; omega
  clear hW bW PB H1 b1 hp
  go_wp2_with fail
  refine (lend_ok W p HPB.out _ b p H2.out (Nat.le_refl _) hl).mono ?_
  rintro e w2 ⟨g, rfl, hL⟩
  have hwp := HPB.out.lt
  have hgp := hL.hg
  have x2 := hL.ex
  have hs2 := SlBy.of_blk (B := w2.heap.size) (n := 4 * b.length + 200) (k := b.length) hL.gb hL.gb.lt (room_256 H256.out) (by rw [room_len (by omega)]; omega) (by omega) (by unfold maxLen; omega)
  rw [room_take] at hs2
  have HL := Lib.hid hL
  have HS2 := Lib.hid hs2
  have HB2 := Lib.hid (H2.out.below (x2.below (Nat.le_refl _) (Nat.le_of_lt hwp)))
  have t2 := tW.trans (x2.below (B := w.heap.size) (by omega) (by have := tW.size; omega))
  clear hL hs2 HPB H2 tW x2
  go_wp2_with fail
  refine (decode_ok _ _ b HS2.out).mono ?_
  rintro e w3 hr
  obtain ⟨b3, al, nl, cl, ac, nc, cc, rfl, hd⟩ := hr.at' H256.out
  obtain ⟨x, hx⟩ : ∃ x, x = (decD b).1 := ⟨_, rfl⟩
  obtain ⟨pl, hpl⟩ : ∃ x, x = (decD b).2.1 := ⟨_, rfl⟩
  obtain ⟨er, her⟩ : ∃ x, x = (decD b).2.2 := ⟨_, rfl⟩
  rw [← hx] at hd
  rw [← hpl, ← her]
  have HXX := Lib.hid hx
  have HPL := Lib.hid hpl
  have HER := Lib.hid her
  have HL3 := Lib.hid (HL.out.up b3)
  have HS3 := Lib.hid (HS2.out.up b3)
  have HB3 := Lib.hid (HB2.out.below (b3.mono (Nat.le_of_lt HL.out.pb.lt)))
  have HD3 := Lib.hid hd
  have t3 := t2.trans (b3.mono t2.size)
  clear hr hd b3 HL HS2 HB2 t2 hx hpl her
  go_upto_region 6 with (fail)
  generalize hV : w3.alloc _ = V
  obtain ⟨q5, hq5⟩ : ∃ q, q = w3.heap.size := ⟨_, rfl⟩
  have b4 : Below w3.heap.size w3 V := by rw [← hV]; exact bAl (bRefl w3) _
  have Q5 : Blk V q5 26 #[.slice al nl cl, .slice ac nc cc] := by rw [← hV, hq5]; exact Blk.new _ _ _
  rw [← hq5]
  have HPG := Lib.hid (show w.heap.size ≤ q5 by have := t3.size; omega)
  have HL4 := Lib.hid (HL3.out.up b4)
  have HS4 := Lib.hid (HS3.out.up b4)
  have HB4 := Lib.hid ((HB3.out.mono (B' := w3.heap.size) (by have := HL3.out.pb.lt; omega)).up b4)
  have HD4 := Lib.hid (HD3.out.up b4)
  have HQ4 := Lib.hid Q5
  have t4 := t3.trans (b4.mono t3.size)
  clear hV hq5 b4 Q5 HL3 HS3 HB3 HD3 t3
  go_wp2_with fail
  refine (rdecode_ok _ _ b HB4.out).mono ?_
  rintro e w5 hr
  obtain ⟨b5, al', nl', cl', ac', nc', cc', rfl, hd'⟩ := hr.at' H256.out
  rw [← HXX.out] at hd'
  rw [← HPL.out, ← HER.out]
  have HL5 := Lib.hid (HL4.out.up b5)
  have HS5 := Lib.hid (HS4.out.up b5)
  have HB5 := Lib.hid (HB4.out.up b5)
  have HD5 := Lib.hid (HD4.out.up b5)
  have HQ5 := Lib.hid (HQ4.out.below b5 HQ4.out.lt)
  have HE5 := Lib.hid hd'
  have t5 := t4.trans (b5.mono t4.size)
  clear hr hd' b5 HL4 HS4 HB4 HD4 HQ4 t4
  go_upto_region 7 with (fail)
  generalize hV : w5.alloc _ = V7
  obtain ⟨q8, hq8⟩ : ∃ q, q = w5.heap.size := ⟨_, rfl⟩
  have b7 : Below w5.heap.size w5 V7 := by rw [← hV]; exact bAl (bRefl w5) _
  have Q8 : Blk V7 q8 26 #[.slice al' nl' cl', .slice ac' nc' cc'] := by rw [← hV, hq8]; exact Blk.new _ _ _
  rw [← hq8]
  have HNE := Lib.hid (show q5 ≠ q8 by have := HQ5.out.lt; omega)
  have HQG := Lib.hid (show w.heap.size ≤ q8 by have := t5.size; omega)
  have HL7 := Lib.hid (HL5.out.up b7)
  have HB7 := Lib.hid (HB5.out.up b7)
  have HD7 := Lib.hid (HD5.out.up b7)
  have HE7 := Lib.hid (HE5.out.up b7)
  have HQ7 := Lib.hid (HQ5.out.below b7 HQ5.out.lt)
  have HR7 := Lib.hid Q8
  have t7 := t5.trans (b7.mono t5.size)
  clear hV hq8 b7 Q8 HL5 HS5 HB5 HD5 HE5 HQ5 t5
  have c0 := HQ7.out.cell 0
  have c1 := HQ7.out.cell 1
  have d0 := HR7.out.cell 0
  have d1 := HR7.out.cell 1
  simp only [List.getElem?_toArray, List.getElem?_cons_zero, List.getElem?_cons_succ] at c0 c1 d0 d1
  go_wp2_with fail
  (with_reducible refine (samedeed_ok _ _ _ _ _ x x HD7.out.sl HE7.out.sl).mono ?_)
  rintro e w8 ⟨rfl, b8⟩
  rw [sameD_refl]
  have HL8 := Lib.hid (HL7.out.up b8)
  have HB8 := Lib.hid (HB7.out.up b8)
  have HD8 := Lib.hid (HD7.out.up b8)
  have HE8 := Lib.hid (HE7.out.up b8)
  have HQ8 := Lib.hid (HQ7.out.below b8 HQ7.out.lt)
  have HR8 := Lib.hid (HR7.out.below b8 HR7.out.lt)
  have t8 := t7.trans (b8.mono t7.size)
  clear b8 HL7 HB7 HD7 HE7 HQ7 HR7 t7 c0 c1 d0 d1
  go_wp2_with fail
  refine (back_ok' w8 p g _ b HL8.out _ w8.heap.size HB8.out hl).mono ?_
  rintro e w9 ⟨rfl, hx9, L, hLl, hg9⟩
  have hgw : w.heap.size ≤ g := by have := HL8.out.hg; have := HL8.out.hp; omega
  have t9 := t8.trans (hx9.below hgw t8.size)
  have HD9 := Lib.hid (HD8.out.ex hx9 HL8.out.gb)
  have HE9 := Lib.hid (HE8.out.ex hx9 HL8.out.gb)
  have HQ9 := Lib.hid (hx9.blk HQ8.out (blk_ne HQ8.out HL8.out.gb (by decide)))
  have HR9 := Lib.hid (hx9.blk HR8.out (blk_ne HR8.out HL8.out.gb (by decide)))
  have HG9 := Lib.hid hg9
  have HLL := Lib.hid hLl
  clear hx9 hg9 hLl HL8 HB8 HD8 HE8 HQ8 HR8 t8
  have c0 := HQ9.out.cell 0
  have c1 := HQ9.out.cell 1
  have d0 := HR9.out.cell 0
  have d1 := HR9.out.cell 1
  simp only [List.getElem?_toArray, List.getElem?_cons_zero, List.getElem?_cons_succ] at c0 c1 d0 d1
  go_wp2_with fail
  (with_reducible refine (samedeed_ok _ _ _ _ _ x x HD9.out.sl HE9.out.sl).mono ?_)
  rintro e w10 ⟨rfl, b10⟩
  rw [sameD_refl]
  have HQ10 := Lib.hid (HQ9.out.below b10 HQ9.out.lt)
  have HR10 := Lib.hid (HR9.out.below b10 HR9.out.lt)
  have HG10 := Lib.hid (HG9.out.below b10 HG9.out.lt)
  have t10 := t9.trans (b10.mono t9.size)
  have HB10 := Lib.hid (H.out.below t10)
  have hga := HG10.out.lt
  clear b10 HD9 HE9 HQ9 HR9 HG9 t9 c0 c1 d0 d1
  have hn : (bcells b).length = Nat.min b.length b.length := by rw [bcells_len]; exact (Nat.min_self _).symm
  have hpos : 0 < (bcells b).length → ∃ ad, a0 = some ad ∧ ∀ (j : Nat) (u : Value), (bcells b)[j]? = some u → w10.cell? (ad.add j) = some u := fun hp => by
    rw [bcells_len] at hp
    have hne : b ≠ [] := List.length_pos_iff.1 hp
    obtain ⟨_, cp, ev, _, _, hcell⟩ := HB10.out
    simp only [Value.slice.injEq, true_and] at ev
    obtain ⟨y, hy⟩ : ∃ y, b[0]? = some y := ⟨_, List.getElem?_eq_getElem hp⟩
    obtain ⟨bb, off, e, _⟩ := hcell 0 y hy
    rw [← ev.1] at e
    exact ⟨_, e, (SlBy.news HB10.out (congrArg (fun a => Value.slice a b.length cap) e) hne).2.2⟩
  have hfit : 0 + (bcells b).length ≤ (bcells L).length := by rw [bcells_len, bcells_len, HLL.out]; omega
  have HNn := Lib.hid hn
  have HPos := Lib.hid hpos
  have HFit := Lib.hid hfit
  have HOne := Lib.hid (bcells_ones b)
  clear hn hpos hfit
  go_upto_region 10 with (refine wpl_copy_ex rfl (.tmp 56) (.tmp 57) rfl g L b a0 (4 * b.length + 200) cap rfl rfl HG10.out (fun hp => HPos.out hp) HFit.out ?_; intro w11 hx11 G11)
  have HQ11 := Lib.hid (hx11.blk HQ10.out (blk_ne HQ10.out HG10.out (by decide)))
  have HR11 := Lib.hid (hx11.blk HR10.out (blk_ne HR10.out HG10.out (by decide)))
  have t11 := t10.trans (hx11.below hgw t10.size)
  have HG11 := Lib.hid G11
  clear hx11 G11 HQ10 HR10 HG10 HB10 t10 HNn HPos HFit HOne hga
  by_cases hk : 0 < b.length
  · have hk' : (0 : Int) < (b.length : Int) := by omega
    obtain ⟨j, hj⟩ : ∃ j : Nat, j = b.length / 2 := ⟨_, rfl⟩
    have hjl : j < b.length := by omega
    have hjd : (b.length : Int) / 2 = (j : Int) := by omega
    have hji : (j : Int) < (b.length : Int) := by omega
    obtain ⟨y, hy⟩ : ∃ y, b[j]? = some y := ⟨_, List.getElem?_eq_getElem hjl⟩
    have hy256 := H256.out y (List.mem_of_getElem? hy)
    have cg : w11.cell? ⟨g, j, none⟩ = some (.int .u8 (y : Int)) := by
      rw [HG11.out.cell, List.getElem?_toArray]
      unfold bcells
      rw [List.map_append, List.getElem?_append_left (by simpa using hjl), List.getElem?_map, hy]
      rfl
    have fg := HG11.out.frozen j
    have hgl := HG11.out.lt
    have hxor := xor1 ⟨y, hy256⟩
    simp only at hxor
    obtain ⟨z, hz⟩ : ∃ z, z = y ^^^ 1 := ⟨_, rfl⟩
    rw [← hz] at hxor
    have hz256 : z < 256 := by rw [hz]; exact xor1_lt ⟨y, hy256⟩
    have HZ := Lib.hid hz256
    clear hj hy hy256 hz hz256
    go_upto_region 12 with (fail)
    generalize hV : w11.setCell _ _ = w12
    have hg12 := (HG11.out.set j (.int .u8 (z : Int))).eq (C' := (bcells (b.set j z ++ L.drop b.length)).toArray) (by
      unfold bcells
      simp only [List.setIfInBounds_toArray, List.map_append]
      rw [List.set_append_left _ _ (by simpa using hjl), List.map_set]
      rfl)
    have hq12 := HQ11.out.set_other g j (.int .u8 (z : Int)) (blk_ne HQ11.out HG11.out (by decide))
    have hr12 := HR11.out.set_other g j (.int .u8 (z : Int)) (blk_ne HR11.out HG11.out (by decide))
    have t12 := t11.setCell (p := ⟨g, j, none⟩) hgw (.int .u8 (z : Int))
    rw [hV] at hg12 hq12 hr12 t12
    obtain ⟨b2, hb2⟩ : ∃ b2, b2 = b.set j z := ⟨_, rfl⟩
    rw [← hb2] at hg12
    have hl2 : b2.length = b.length := by rw [hb2, List.length_set]
    have h2562 : ∀ q ∈ b2, q < 256 := by rw [hb2]; exact set_256 H256.out j z HZ.out
    have HG12 := Lib.hid hg12
    have HQ12 := Lib.hid hq12
    have HR12 := Lib.hid hr12
    have HL2 := Lib.hid hl2
    have H2562 := Lib.hid h2562
    clear hV hg12 hq12 hr12 hb2 hl2 h2562 HG11 HQ11 HR11 t11 cg fg hxor hjd hji
    have hs12 := SlBy.of_blk' (B := w12.heap.size) (n := 4 * b.length + 200) (k := b.length) HG12.out HG12.out.lt (by rw [← HL2.out, List.take_left]; exact H2562.out) (by rw [List.length_append, HL2.out]; omega) (by omega) (by unfold maxLen; omega)
    rw [← HL2.out, List.take_left, HL2.out] at hs12
    have HS12 := Lib.hid hs12
    clear hs12
    go_wp2_with fail
    refine (copybytes_ok _ _ b2 HS12.out (by rw [HL2.out]; omega)).mono ?_
    rintro e w13 ⟨b13, v13, rfl, hown, _⟩
    have HS13 := Lib.hid (SlBy.of_own hown H2562.out)
    have HG13 := Lib.hid (HG12.out.below b13 HG12.out.lt)
    have HQ13 := Lib.hid (HQ12.out.below b13 HQ12.out.lt)
    have HR13 := Lib.hid (HR12.out.below b13 HR12.out.lt)
    have t13 := t12.trans (b13.mono t12.size)
    clear b13 hown HS12 HQ12 HR12 HG12 t12
    go_wp2_with fail
    refine (rdecode_ok _ _ b2 HS13.out).mono ?_
    rintro e w14 hr
    obtain ⟨b14, al2, nl2, cl2, ac2, nc2, cc2, rfl, hd⟩ := hr.at' H2562.out
    obtain ⟨y2, hy2⟩ : ∃ x, x = (decD b2).1 := ⟨_, rfl⟩
    obtain ⟨pl2, hpl2⟩ : ∃ x, x = (decD b2).2.1 := ⟨_, rfl⟩
    obtain ⟨er2, her2⟩ : ∃ x, x = (decD b2).2.2 := ⟨_, rfl⟩
    rw [← hy2] at hd
    rw [← hpl2, ← her2]
    have HYY := Lib.hid hy2
    have HPL2 := Lib.hid hpl2
    have HER2 := Lib.hid her2
    have HD14 := Lib.hid hd
    have HG14 := Lib.hid (HG13.out.below b14 HG13.out.lt)
    have HQ14 := Lib.hid (HQ13.out.below b14 HQ13.out.lt)
    have HR14 := Lib.hid (HR13.out.below b14 HR13.out.lt)
    have t14 := t13.trans (b14.mono t13.size)
    clear hr hd b14 HS13 HG13 HQ13 HR13 t13 hy2 hpl2 her2
    have d0 := HR14.out.cell 0
    have d1 := HR14.out.cell 1
    simp only [List.getElem?_toArray, List.getElem?_cons_zero, List.getElem?_cons_succ] at d0 d1
    have e0 := HR14.out.frozen 0
    have e1 := HR14.out.frozen 1
    go_upto_region 13 with (fail)
    generalize hV : (w14.setCell _ _).setCell _ _ = w15
    have keep : ∀ k T C, Blk w14 k T C → T ≠ 26 → Blk w15 k T C := fun k T C hb hT => by
      have hne := blk_ne hb HR14.out hT
      rw [← hV]
      exact (hb.set_other q8 0 _ hne).set_other q8 1 _ hne
    have hr15 : Blk w15 q8 26 #[.slice al2 nl2 cl2, .slice ac2 nc2 cc2] := by
      rw [← hV]
      exact ((HR14.out.set 0 _).set 1 _).eq rfl
    have hq15 : Blk w15 q5 26 #[.slice al nl cl, .slice ac nc cc] := by
      rw [← hV]
      exact (HQ14.out.set_other q8 0 _ HNE.out).set_other q8 1 _ HNE.out
    have t15 : Below w.heap.size w w15 := by
      rw [← hV]
      exact (t14.setCell (p := ⟨q8, 0, none⟩) HQG.out _).setCell (p := ⟨q8, 1, none⟩) HQG.out _
    have HD15 := Lib.hid (HD14.out.keep keep)
    have HG15 := Lib.hid (keep _ _ _ HG14.out (by decide))
    have HQ15 := Lib.hid hq15
    have HR15 := Lib.hid hr15
    clear keep hV hr15 hq15 HD14 HG14 HQ14 HR14 t14 d0 d1 e0 e1
    have hs15 := SlBy.of_blk' (B := w15.heap.size) (n := 4 * b.length + 200) (k := b.length) HG15.out HG15.out.lt (by rw [← HL2.out, List.take_left]; exact H2562.out) (by rw [List.length_append, HL2.out]; omega) (by omega) (by unfold maxLen; omega)
    rw [← HL2.out, List.take_left, HL2.out] at hs15
    have HS15 := Lib.hid hs15
    clear hs15
    go_wp2_with fail
    refine (decode_ok _ _ b2 HS15.out).mono ?_
    rintro e w16 hr
    obtain ⟨b16, al3, nl3, cl3, ac3, nc3, cc3, rfl, hd⟩ := hr.at' H2562.out
    rw [← HYY.out] at hd
    rw [← HPL2.out, ← HER2.out]
    have HE16 := Lib.hid hd
    have HD16 := Lib.hid (HD15.out.up b16)
    have HQ16 := Lib.hid (HQ15.out.below b16 HQ15.out.lt)
    have HR16 := Lib.hid (HR15.out.below b16 HR15.out.lt)
    have t16 := t15.trans (b16.mono t15.size)
    clear hr hd b16 HS15 HG15 HQ15 HR15 HD15 t15
    have d0 := HQ16.out.cell 0
    have d1 := HQ16.out.cell 1
    simp only [List.getElem?_toArray, List.getElem?_cons_zero, List.getElem?_cons_succ] at d0 d1
    have e0 := HQ16.out.frozen 0
    have e1 := HQ16.out.frozen 1
    go_upto_region 14 with (fail)
    generalize hV : (w16.setCell _ _).setCell _ _ = w17
    have keep : ∀ k T C, Blk w16 k T C → T ≠ 26 → Blk w17 k T C := fun k T C hb hT => by
      have hne := blk_ne hb HQ16.out hT
      rw [← hV]
      exact (hb.set_other q5 0 _ hne).set_other q5 1 _ hne
    have hq17 : Blk w17 q5 26 #[.slice al3 nl3 cl3, .slice ac3 nc3 cc3] := by
      rw [← hV]
      exact ((HQ16.out.set 0 _).set 1 _).eq rfl
    have hr17 : Blk w17 q8 26 #[.slice al2 nl2 cl2, .slice ac2 nc2 cc2] := by
      rw [← hV]
      exact (HR16.out.set_other q5 0 _ HNE.out.symm).set_other q5 1 _ HNE.out.symm
    have t17 : Below w.heap.size w w17 := by
      rw [← hV]
      exact (t16.setCell (p := ⟨q5, 0, none⟩) HPG.out _).setCell (p := ⟨q5, 1, none⟩) HPG.out _
    have HD17 := Lib.hid (HD16.out.keep keep)
    have HE17 := Lib.hid (HE16.out.keep keep)
    clear keep hV HD16 HE16 HQ16 HR16 t16 d0 d1 e0 e1
    have c0 := hq17.cell 0
    have c1 := hq17.cell 1
    have d0 := hr17.cell 0
    have d1 := hr17.cell 1
    simp only [List.getElem?_toArray, List.getElem?_cons_zero, List.getElem?_cons_succ] at c0 c1 d0 d1
    clear hq17 hr17
    go_wp2_with fail
    (with_reducible refine (samedeed_ok _ _ _ _ _ y2 y2 HE17.out.sl HD17.out.sl).mono ?_)
    rintro e w18 ⟨rfl, b18⟩
    rw [sameD_refl]
    have t18 := t17.trans (b18.mono t17.size)
    clear b18 t17 c0 c1 d0 d1
    go_wp2_with fail
    go_ret
    exact ⟨rfl, t18⟩
  · have hb0 : b.length = 0 := by omega
    have hk' : ¬ (0 : Int) < (b.length : Int) := by omega
    obtain ⟨b2, hb2⟩ : ∃ b2, b2 = b := ⟨_, rfl⟩
    have hl2 : b2.length = b.length := by rw [hb2]
    have h2562 : ∀ q ∈ b2, q < 256 := by rw [hb2]; exact H256.out
    have hg11 := HG11.out
    rw [← hb2, hl2] at hg11
    have HG12 := Lib.hid hg11
    have HQ12 := HQ11
    have HR12 := HR11
    have HL2 := Lib.hid hl2
    have H2562 := Lib.hid h2562
    obtain ⟨w12, hw12⟩ : ∃ x, x = w11 := ⟨_, rfl⟩
    rw [← hw12] at HG12 HQ12 HR12 t11 ⊢
    have t12 := t11
    clear hb2 hl2 h2562 hg11 HG11 HQ11 HR11 t11 hw12 hb0
    go_upto_region 12 with (fail)
    have hs12 := SlBy.of_blk' (B := w12.heap.size) (n := 4 * b.length + 200) (k := b.length) HG12.out HG12.out.lt (by rw [← HL2.out, List.take_left]; exact H2562.out) (by rw [List.length_append, HL2.out]; omega) (by omega) (by unfold maxLen; omega)
    rw [← HL2.out, List.take_left, HL2.out] at hs12
    have HS12 := Lib.hid hs12
    clear hs12
    go_wp2_with fail
    refine (copybytes_ok _ _ b2 HS12.out (by rw [HL2.out]; omega)).mono ?_
    rintro e w13 ⟨b13, v13, rfl, hown, _⟩
    have HS13 := Lib.hid (SlBy.of_own hown H2562.out)
    have HG13 := Lib.hid (HG12.out.below b13 HG12.out.lt)
    have HQ13 := Lib.hid (HQ12.out.below b13 HQ12.out.lt)
    have HR13 := Lib.hid (HR12.out.below b13 HR12.out.lt)
    have t13 := t12.trans (b13.mono t12.size)
    clear b13 hown HS12 HQ12 HR12 HG12 t12
    go_wp2_with fail
    refine (rdecode_ok _ _ b2 HS13.out).mono ?_
    rintro e w14 hr
    obtain ⟨b14, al2, nl2, cl2, ac2, nc2, cc2, rfl, hd⟩ := hr.at' H2562.out
    obtain ⟨y2, hy2⟩ : ∃ x, x = (decD b2).1 := ⟨_, rfl⟩
    obtain ⟨pl2, hpl2⟩ : ∃ x, x = (decD b2).2.1 := ⟨_, rfl⟩
    obtain ⟨er2, her2⟩ : ∃ x, x = (decD b2).2.2 := ⟨_, rfl⟩
    rw [← hy2] at hd
    rw [← hpl2, ← her2]
    have HYY := Lib.hid hy2
    have HPL2 := Lib.hid hpl2
    have HER2 := Lib.hid her2
    have HD14 := Lib.hid hd
    have HG14 := Lib.hid (HG13.out.below b14 HG13.out.lt)
    have HQ14 := Lib.hid (HQ13.out.below b14 HQ13.out.lt)
    have HR14 := Lib.hid (HR13.out.below b14 HR13.out.lt)
    have t14 := t13.trans (b14.mono t13.size)
    clear hr hd b14 HS13 HG13 HQ13 HR13 t13 hy2 hpl2 her2
    have d0 := HR14.out.cell 0
    have d1 := HR14.out.cell 1
    simp only [List.getElem?_toArray, List.getElem?_cons_zero, List.getElem?_cons_succ] at d0 d1
    have e0 := HR14.out.frozen 0
    have e1 := HR14.out.frozen 1
    go_upto_region 13 with (fail)
    generalize hV : (w14.setCell _ _).setCell _ _ = w15
    have keep : ∀ k T C, Blk w14 k T C → T ≠ 26 → Blk w15 k T C := fun k T C hb hT => by
      have hne := blk_ne hb HR14.out hT
      rw [← hV]
      exact (hb.set_other q8 0 _ hne).set_other q8 1 _ hne
    have hr15 : Blk w15 q8 26 #[.slice al2 nl2 cl2, .slice ac2 nc2 cc2] := by
      rw [← hV]
      exact ((HR14.out.set 0 _).set 1 _).eq rfl
    have hq15 : Blk w15 q5 26 #[.slice al nl cl, .slice ac nc cc] := by
      rw [← hV]
      exact (HQ14.out.set_other q8 0 _ HNE.out).set_other q8 1 _ HNE.out
    have t15 : Below w.heap.size w w15 := by
      rw [← hV]
      exact (t14.setCell (p := ⟨q8, 0, none⟩) HQG.out _).setCell (p := ⟨q8, 1, none⟩) HQG.out _
    have HD15 := Lib.hid (HD14.out.keep keep)
    have HG15 := Lib.hid (keep _ _ _ HG14.out (by decide))
    have HQ15 := Lib.hid hq15
    have HR15 := Lib.hid hr15
    clear keep hV hr15 hq15 HD14 HG14 HQ14 HR14 t14 d0 d1 e0 e1
    have hs15 := SlBy.of_blk' (B := w15.heap.size) (n := 4 * b.length + 200) (k := b.length) HG15.out HG15.out.lt (by rw [← HL2.out, List.take_left]; exact H2562.out) (by rw [List.length_append, HL2.out]; omega) (by omega) (by unfold maxLen; omega)
    rw [← HL2.out, List.take_left, HL2.out] at hs15
    have HS15 := Lib.hid hs15
    clear hs15
    go_wp2_with fail
    refine (decode_ok _ _ b2 HS15.out).mono ?_
    rintro e w16 hr
    obtain ⟨b16, al3, nl3, cl3, ac3, nc3, cc3, rfl, hd⟩ := hr.at' H2562.out
    rw [← HYY.out] at hd
    rw [← HPL2.out, ← HER2.out]
    have HE16 := Lib.hid hd
    have HD16 := Lib.hid (HD15.out.up b16)
    have HQ16 := Lib.hid (HQ15.out.below b16 HQ15.out.lt)
    have HR16 := Lib.hid (HR15.out.below b16 HR15.out.lt)
    have t16 := t15.trans (b16.mono t15.size)
    clear hr hd b16 HS15 HG15 HQ15 HR15 HD15 t15
    have d0 := HQ16.out.cell 0
    have d1 := HQ16.out.cell 1
    simp only [List.getElem?_toArray, List.getElem?_cons_zero, List.getElem?_cons_succ] at d0 d1
    have e0 := HQ16.out.frozen 0
    have e1 := HQ16.out.frozen 1
    go_upto_region 14 with (fail)
    generalize hV : (w16.setCell _ _).setCell _ _ = w17
    have keep : ∀ k T C, Blk w16 k T C → T ≠ 26 → Blk w17 k T C := fun k T C hb hT => by
      have hne := blk_ne hb HQ16.out hT
      rw [← hV]
      exact (hb.set_other q5 0 _ hne).set_other q5 1 _ hne
    have hq17 : Blk w17 q5 26 #[.slice al3 nl3 cl3, .slice ac3 nc3 cc3] := by
      rw [← hV]
      exact ((HQ16.out.set 0 _).set 1 _).eq rfl
    have hr17 : Blk w17 q8 26 #[.slice al2 nl2 cl2, .slice ac2 nc2 cc2] := by
      rw [← hV]
      exact (HR16.out.set_other q5 0 _ HNE.out.symm).set_other q5 1 _ HNE.out.symm
    have t17 : Below w.heap.size w w17 := by
      rw [← hV]
      exact (t16.setCell (p := ⟨q5, 0, none⟩) HPG.out _).setCell (p := ⟨q5, 1, none⟩) HPG.out _
    have HD17 := Lib.hid (HD16.out.keep keep)
    have HE17 := Lib.hid (HE16.out.keep keep)
    clear keep hV HD16 HE16 HQ16 HR16 t16 d0 d1 e0 e1
    have c0 := hq17.cell 0
    have c1 := hq17.cell 1
    have d0 := hr17.cell 0
    have d1 := hr17.cell 1
    simp only [List.getElem?_toArray, List.getElem?_cons_zero, List.getElem?_cons_succ] at c0 c1 d0 d1
    clear hq17 hr17
    go_wp2_with fail
    (with_reducible refine (samedeed_ok _ _ _ _ _ y2 y2 HE17.out.sl HD17.out.sl).mono ?_)
    rintro e w18 ⟨rfl, b18⟩
    rw [sameD_refl]
    have t18 := t17.trans (b18.mono t17.size)
    clear b18 t17 c0 c1 d0 d1
    go_wp2_with fail
    go_ret
    exact ⟨rfl, t18⟩
end Go.Proofs.Ytfdjdpbiccclfaa
