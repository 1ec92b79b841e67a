/- CopyClaim, CopyDeed, back, turned: what DeedEncodes calls. -/
import Derived.Test.YtfdjdpbiccclfaaDLent
/- CopyClaim and CopyDeed: a deed in memory of its own. No conditions but those that each law names. -/
namespace Go.Proofs.Ytfdjdpbiccclfaa
open Go Go.RowKit Go.Wr
set_option maxHeartbeats 4000000
set_option maxRecDepth 100000

theorem SlC.slice {B : Nat} {w : World} {v : Value} {l : List C3} (h : SlC B w v l) : ∃ a c, v = .slice a l.length c := by
  obtain ⟨a, c, e, _⟩ := h
  exact ⟨a, c, e⟩
theorem copyclaim_ok (w : World) (B : Nat) (d : Bool) (f : Nat → Tg) (v : Value) (l : List C3) (h : SlC B w v l) (hB : B ≤ w.heap.size) (hl : l.length ≤ 1099511627776) :
    Calls Try.prog 36 #[.agg (bx (.bool d) f v)] w fun e w' => Below w.heap.size w w' ∧ ∃ a c, e = .returned (.agg (bx (.bool d) f (.slice a l.length c))) ∧ OwR tC3 w.heap.size w' (.slice a l.length c) l := by
  obtain ⟨xa, xc, rfl⟩ := h.slice
  have H := Lib.hid h
  clear h
  go_enter Try.func36, Try.ntmps36
  go_upto_region 1 with (fail)
  generalize hW : (w.alloc (.cells (bx (.bool d) f (.slice xa l.length xc)) 61)).alloc _ = W
  obtain ⟨z, hz⟩ : ∃ z, z = w.heap.size + 1 := ⟨_, rfl⟩
  have b1 : Blk W w.heap.size 61 (bx (.bool d) f (.slice xa l.length xc)) := by rw [← hW]; exact (Blk.new _ _ _).alloc _
  have z1 : ∃ C, Blk W z 61 C ∧ C.size = 128 := by rw [← hW, hz]; exact ⟨_, Blk.new_at _ _ (by simp), bx_size (.bool false) f0 (.slice none 0 0)⟩
  have bW : Below w.heap.size w W := by rw [← hW]; exact bAl (bAl (bRefl w) _) _
  rw [← hz]
  have hzw : w.heap.size < z := by omega
  obtain ⟨C, z1, hC⟩ := z1
  clear hW hz
  have HS := Lib.hid (H.out.below (bW.mono hB))
  have c1 := (b1.cell 127).trans (bx_last _ _ _)
  have H1 := Lib.hid b1
  have HZ := Lib.hid z1
  have HB := Lib.hid bW
  clear b1 z1 bW H
  go_wp2_with fail
  refine (copycons_ok W B _ l HS.out hl).mono ?_
  rintro e w2 ⟨b2, a, c, rfl, ho⟩
  have H12 := Lib.hid (H1.out.below b2 H1.out.lt)
  have HZ2 := Lib.hid (HZ.out.below b2 HZ.out.lt)
  have HB2 := Lib.hid (bThen HB.out b2)
  have HO2 := Lib.hid (ho.mono HB.out.size)
  have c2 := (H12.out.cell 127).trans (bx_last _ _ _)
  have f2 := H12.out.frozen 127
  clear b2 ho c1 H1 HZ HB HS
  go_upto_region 2 with (fail)
  have H13 := Lib.hid (show Blk (w2.setCell ⟨w.heap.size, 127, none⟩ (.slice a l.length c)) w.heap.size 61 (bx (.bool d) f (.slice a l.length c)) from (H12.out.set 127 _).eq (bx_setlast _ _ _ _))
  have HZ3 := Lib.hid (HZ2.out.set_other w.heap.size 127 (.slice a l.length c) (by omega))
  have HB3 := Lib.hid (HB2.out.setCell (p := ⟨w.heap.size, 127, none⟩) (Nat.le_refl _) (.slice a l.length c))
  have HO3 := Lib.hid (HO2.out.set_other (i := 127) (x := .slice a l.length c) (HO2.out.ne H12.out (by decide)))
  generalize w2.setCell ⟨w.heap.size, 127, none⟩ (.slice a l.length c) = W3 at H13 HZ3 HB3 HO3 ⊢
  clear c2 f2 H12 HZ2 HB2 HO2
  go_wp2_with (first
    | (refine wpl_load rfl 61 (.tmp 1) rfl w.heap.size 0 rfl H13.out rowClaim (by rw [bx_size]; omega) (bx_all _ _ _) ?_)
    | (refine wpl_store rfl 61 (.tmp 2) (.tmp 7) rfl z 0 rfl rfl HZ3.out rowClaim (bx_size _ _ _) (by rw [hC]; omega) (bx_one _ rfl rfl) ?_; intro wn hO hN))
  rw [spl_all _ _ (by rw [bx_size, hC])] at hN
  refine ret_cell rfl rfl hN (by rw [bx_size]; exact rowClaim) rfl ?_
  refine ⟨HB3.out.trans (hO.below (by omega)), a, c, rfl, HO3.out.keep fun g hg => ?_⟩
  exact hO.block g (fun e => HO3.out.ne HZ3.out (by decide) (by rw [hg, e]))
/-- The bounds of claims, each in a row of its own. -/
def LkC (B : Nat) (w : World) (cs : List (Cl × Sn)) : Prop := ∀ x ∈ cs, x.2.n = x.1.l.length ∧ OwR tC3 B w (.slice x.2.a x.1.l.length x.2.c) x.1.l
theorem LkC.of_block {B : Nat} {w w' : World} {cs : List (Cl × Sn)} (h : LkC B w cs) (hb : ∀ g C, Blk w g 63 C → w'.heap[g]? = w.heap[g]?) : LkC B w' cs := fun x hx => ⟨(h x hx).1, owr_of_block (h x hx).2 hb⟩
theorem LkC.below {B : Nat} {w w' : World} {cs : List (Cl × Sn)} (h : LkC B w cs) (b : Below w.heap.size w w') : LkC B w' cs := h.of_block fun g _ hg => b.block g hg.lt
/-- The state of CopyDeed behind k claims. -/
structure Lk (w : World) (z q : Nat) (vl vc : Value) (ls : List Lp) (ds : List Cl) (la : Option Addr) (lc : Nat) (k : Nat) (ka : Option Addr) (kc : Nat) (cs : List (Cl × Sn)) (wr : World) : Prop where
  bel : Below w.heap.size w wr
  b1 : Blk wr w.heap.size 26 #[vl, vc]
  zb : Blk wr z 26 #[.slice none 0 0, .slice none 0 0]
  qb : Blk wr q 26 #[.slice la ls.length lc, .slice ka k kc]
  lp : OwR tLp w.heap.size wr (.slice la ls.length lc) ls
  cl : OwR tCl w.heap.size wr (.slice ka k kc) cs
  cm : cs.map (·.1) = ds.take k
  cc : LkC w.heap.size wr cs
theorem Lk.below {w : World} {z q : Nat} {vl vc : Value} {ls : List Lp} {ds : List Cl} {la : Option Addr} {lc k : Nat} {ka : Option Addr} {kc : Nat} {cs : List (Cl × Sn)} {wr w' : World} (h : Lk w z q vl vc ls ds la lc k ka kc cs wr) (b : Below wr.heap.size wr w') : Lk w z q vl vc ls ds la lc k ka kc cs w' :=
  ⟨bThen h.bel b, h.b1.below b h.b1.lt, h.zb.below b h.zb.lt, h.qb.below b h.qb.lt, h.lp.below b, h.cl.below b, h.cm, h.cc.below b⟩
theorem Lk.put {w : World} {z q : Nat} {vl vc : Value} {ls : List Lp} {ds : List Cl} {la : Option Addr} {lc k : Nat} {ka : Option Addr} {kc : Nat} {cs : List (Cl × Sn)} {wr w' : World} (h : Lk w z q vl vc ls ds la lc k ka kc cs wr) (hzq : w.heap.size < z ∧ z < q) {o : Obj} {g c : Nat} {x : Cl} {s : Sn}
    (hx : ds[k]? = some x) (hown : OwR tCl w.heap.size w' (.slice (some ⟨g, 0, none⟩) (k + 1) c) (cs ++ [(x, s)])) (hg : (wr.alloc o).grownBy w' (Value.slice ka k kc).ownBlock)
    (hs : s.n = x.l.length) (ho : OwR tC3 w.heap.size wr (.slice s.a x.l.length s.c) x.l) :
    Lk w z q vl vc ls ds la lc (k + 1) (some ⟨g, 0, none⟩) c (cs ++ [(x, s)]) (w'.setCell ⟨q, 1, none⟩ (.slice (some ⟨g, 0, none⟩) (k + 1) c)) := by
  have hA := h.below (bAl (bRefl wr) o)
  have hoA := ho.alloc o
  have hb : Below w.heap.size w w' := below_grown h.bel hg (fun b hb => (h.cl.blk hb).1)
  have hne : ∀ g T C, T ≠ 61 → Blk (wr.alloc o) g T C → w'.heap[g]? = (wr.alloc o).heap[g]? := fun g T C hT hbk => hg.block _ hbk.lt (fun e => hA.cl.ne hbk (Ne.symm hT) e.symm)
  have hq := hA.qb.of_block (hne _ _ _ (by decide) hA.qb)
  have hset2 : ∀ (v : Value) (g : Nat) (T : TypeId) (C : Array Value), T ≠ 26 → Blk w' g T C → (w'.setCell ⟨q, 1, none⟩ v).heap[g]? = w'.heap[g]? := fun v g T C hT hbk => Below.heap_setCell w' ⟨q, 1, none⟩ v g (blk_ne hbk hq hT)
  have hcc := hA.cc.of_block fun g C => hne g _ C (by decide)
  refine ⟨hb.setCell (p := ⟨q, 1, none⟩) (by show w.heap.size ≤ q; omega) _, (hA.b1.of_block (hne _ _ _ (by decide) hA.b1)).set_other q 1 _ (by omega), (hA.zb.of_block (hne _ _ _ (by decide) hA.zb)).set_other q 1 _ (by omega), (hq.set 1 _).eq rfl,
    owr_of_block (owr_of_block hA.lp fun g C => hne g _ C (by decide)) fun g C => hset2 _ g _ C (by decide), owr_of_block hown fun g C => hset2 _ g _ C (by decide), ?_, ?_⟩
  · rw [List.map_append, h.cm, List.take_add_one, hx]
    rfl
  · refine LkC.of_block (fun y hy => ?_) fun g C => hset2 _ g _ C (by decide)
    rcases List.mem_append.1 hy with hy | hy
    · exact hcc y hy
    · rw [List.mem_singleton.1 hy]
      exact ⟨hs, owr_of_block hoA fun g C => hne g _ C (by decide)⟩
/-- Rows of one's own, read as a deed. -/
theorem sld_of {B : Nat} {w : World} {la ka : Option Addr} {lc kc : Nat} {ls : List Lp} {cs : List (Cl × Sn)} (hl : OwR tLp B w (.slice la ls.length lc) ls) (hc : OwR tCl B w (.slice ka cs.length kc) cs) (hk : ∀ x ∈ cs, x.2.n = x.1.l.length ∧ ∃ B', OwR tC3 B' w (.slice x.2.a x.1.l.length x.2.c) x.1.l)
    (hn : Sml ⟨ls, cs.map (·.1)⟩) : SlD w.heap.size w (.slice la ls.length lc) (.slice ka cs.length kc) ⟨ls, cs.map (·.1)⟩ := by
  refine ⟨SlL.of_rds (OwR.rds hl (Nat.le_refl _)), ⟨ka, kc, by rw [List.length_map], fun k x hx => ?_⟩, by have := hn.n1; simp only at this ⊢; omega, by have := hn.n2; simp only at this ⊢; omega, fun c hc => by have := hn.n3 c hc; omega⟩
  simp only [List.getElem?_map, Option.map_eq_some_iff] at hx
  obtain ⟨⟨y, s⟩, hy, rfl⟩ := hx
  obtain ⟨b, o, e, hlt, hr⟩ := OwR.rds hc (Nat.le_refl _) k _ hy
  obtain ⟨e2, B', ho⟩ := hk _ (List.mem_of_getElem? hy)
  refine ⟨b, o, s.v, e, hlt, hr, ?_⟩
  simp only at e2 ho
  have hv : s.v = .slice s.a y.l.length s.c := by unfold Sn.v; rw [e2]
  rw [hv]
  exact SlC.of_rds (OwR.rds ho (Nat.le_refl _))
/-- CopyDeed: the same deed in new memory. -/
theorem copydeed_ok (w : World) (vl vc : Value) (d : Dd) (h : SlD w.heap.size w vl vc d) (hn : Sml d) : Calls Try.prog 18 #[.agg #[vl, vc]] w fun e w' =>
    Below w.heap.size w w' ∧ ∃ (vl' vc' : Value), e = .returned (.agg #[vl', vc']) ∧ SlD w'.heap.size w' vl' vc' d := by
  have mix : Try.prog.follows .mixedOrders = true := by kernel_rfl
  have HSM := Lib.hid hn
  obtain ⟨ls, ds⟩ := d
  obtain ⟨⟨al, capl, rfl, hl⟩, ⟨ac, capc, rfl, hcl⟩, -, -, -⟩ := h
  obtain ⟨n1, n2, n3⟩ := hn
  simp only at hl hcl n1 n2 n3 ⊢
  have HL := Lib.hid (show Rds tLp w.heap.size w al ls from hl)
  have HC := Lib.hid hcl
  have HN := Lib.hid n3
  clear hl hcl n3
  go_enter Try.func18, Try.ntmps18
  go_upto_region 2 with (fail)
  generalize hW : ((w.alloc (.cells #[.slice al ls.length capl, .slice ac ds.length capc] 26)).alloc _).alloc _ = W
  obtain ⟨q, hq⟩ : ∃ q, q = w.heap.size + 1 + 1 := ⟨_, rfl⟩
  obtain ⟨z, hz⟩ : ∃ z, z = w.heap.size + 1 := ⟨_, rfl⟩
  have b1 : Blk W w.heap.size 26 #[.slice al ls.length capl, .slice ac ds.length capc] := by rw [← hW]; exact ((Blk.new _ _ _).alloc _).alloc _
  have z1 : Blk W z 26 #[.slice none 0 0, .slice none 0 0] := by rw [← hW, hz]; exact (Blk.new_at _ _ (by simp)).alloc _
  have q1 : Blk W q 26 #[.slice none 0 0, .slice none 0 0] := by rw [← hW, hq]; exact Blk.new_at _ _ (by simp)
  have bW : Below w.heap.size w W := by rw [← hW]; exact bAl (bAl (bAl (bRefl w) _) _) _
  rw [← hq, ← hz]
  have hzq : w.heap.size < z ∧ z < q := by omega
  clear hW hq hz
  have c0 := b1.cell 0
  have c1 := q1.cell 0
  simp only [List.getElem?_toArray, List.getElem?_cons_zero] at c0 c1
  have HB := Lib.hid (And.intro b1 (And.intro z1 q1))
  have HW := Lib.hid bW
  clear b1 z1 q1 bW
  go_upto_region 3 with (at_builtin; refine wpl_copyNil tLp rfl _ _ rfl rfl w.heap.size al ls.length capl ls rfl rfl (HL.out.below HW.out) (by unfold maxLen; omega) (by show _ * 40 ≤ _; omega) ?_; intro v' w4 hown hb4; obtain ⟨a4, d4, rfl⟩ := owr_form hown; have c4 := (HB.out.2.2.below hb4 HB.out.2.2.lt).cell 0; simp only [List.getElem?_toArray, List.getElem?_cons_zero] at c4; have HO := Lib.hid hown; have HB4 := Lib.hid hb4; have f1 := (HB.out.2.2.below hb4 HB.out.2.2.lt).frozen 0; clear hown hb4)
  have hL : Hid (Lk w z q (.slice al ls.length capl) (.slice ac ds.length capc) ls ds a4 d4 0 none 0 [] (w4.setCell ⟨q, 0, none⟩ (.slice a4 ls.length d4))) :=
    ⟨(bThen HW.out HB4.out).setCell (p := ⟨q, 0, none⟩) (by show w.heap.size ≤ q; omega) _, (HB.out.1.below HB4.out HB.out.1.lt).set_other q 0 _ (by omega), (HB.out.2.1.below HB4.out HB.out.2.1.lt).set_other q 0 _ (by omega), ((HB.out.2.2.below HB4.out HB.out.2.2.lt).set 0 _).eq rfl, (HO.out.mono HW.out.size).set_other (HO.out.ne (HB.out.2.2.below HB4.out HB.out.2.2.lt) (by decide)), OwR.nil _ _, by simp, (fun x hx => by cases hx)⟩
  generalize w4.setCell ⟨q, 0, none⟩ (.slice a4 ls.length d4) = W at hL ⊢
  clear HB HW HB4 HO f1 c4 c0 c1
  go_wp2
  go_loopw [4] (fun t wr => ∃ (k : Nat) (ka : Option Addr) (kc : Nat) (cs : List (Cl × Sn)), k ≤ ds.length ∧ t = .int .i64 (k : Int) ∧ Hid (cs.length = k) ∧ Hid (Lk w z q (.slice al ls.length capl) (.slice ac ds.length capc) ls ds a4 d4 k ka kc cs wr)) (fun t _ => ds.length - (intOf t).toNat)
  case atStart => exact ⟨0, none, 0, [], by omega, rfl, rfl, hL⟩
  case round =>
    clear hL
    obtain ⟨k, ka, kc, cs, hk, rfl, hck, hq⟩ := hrel
    obtain ⟨V, rfl⟩ : ∃ x : World, x = wr := ⟨_, rfl⟩
    have d1 := hq.out.b1.cell 1
    have d2 := hq.out.qb.cell 1
    simp only [List.getElem?_toArray, List.getElem?_cons_zero, List.getElem?_cons_succ] at d1 d2
    by_cases hlt : k < ds.length
    · have hlt' : (k : Int) < (ds.length : Int) := by omega
      obtain ⟨x, hx⟩ : ∃ x, ds[k]? = some x := ⟨_, List.getElem?_eq_getElem hlt⟩
      have hnx := HN.out x (List.mem_of_getElem? hx)
      obtain ⟨bb, off, vx, ea, hbb, hra, hsl⟩ := HC.out k x hx
      obtain ⟨xa, xc, rfl⟩ := hsl.slice
      have hra2 := rangeAt_below hra hq.out.bel hbb
      have HSL := Lib.hid (hsl.below hq.out.bel)
      have HX := Lib.hid hx
      subst ea
      clear hx hra hsl
      have HQ := Lib.hid hq.out
      have cvS : ∀ w', Below w.heap.size V w' → Blk w' q 26 #[.slice a4 ls.length d4, .slice ka k kc] → Blk w' w.heap.size 26 #[.slice al ls.length capl, .slice (some ⟨bb, off, none⟩) ds.length capc] → w'.cell? ⟨q, 1, none⟩ = some (.slice ka k kc) ∧ w'.cell? ⟨w.heap.size, 1, none⟩ = some (.slice (some ⟨bb, off, none⟩) ds.length capc) ∧ Hid (w'.rangeAt bb (off + k * 128) (bx (.bool x.d) x.f (.slice xa x.l.length xc)).toList) := fun w' b h1 h2 =>
        ⟨h1.cell 1, h2.cell 1, rangeAt_below hra2 b hbb⟩
      have HCV := Lib.hid cvS
      clear cvS hra2 hq
      go_upto_region 6 with (fail)
      have cv := HCV.out V.drew (Below.refl w.heap.size V).drew HQ.out.qb HQ.out.b1
      clear d1 d2
      refine wp_region_last 11 (fun w' => w'.cell? ⟨q, 1, none⟩ = some (.slice ka k kc) ∧ w'.cell? ⟨w.heap.size, 1, none⟩ = some (.slice (some ⟨bb, off, none⟩) ds.length capc) ∧ Hid (w'.rangeAt bb (off + k * 128) (bx (.bool x.d) x.f (.slice xa x.l.length xc)).toList)) mix ?_
      refine wpAnyL_take (i := 0) (v := .pointer (some ⟨q, 1, none⟩)) rfl (by kernel_rfl) (by kernel_rfl) (by kernel_rfl) (fun _ _ _ h => h) rfl (by kernel_rfl) (Or.inl ⟨by rfl, fun w' hw' => by (try go_split_ands); go_simp⟩) cv ?_
      simp only [Act.put, List.getElem_toArray, List.getElem_cons_zero, List.setIfInBounds_toArray, List.set_cons_zero, List.set_cons_succ]
      refine wpAnyL_take (i := 1) (v := .slice ka k kc) rfl (by kernel_rfl) (by kernel_rfl) (by kernel_rfl) (fun _ _ _ h => h) rfl (by kernel_rfl) (Or.inl ⟨by rfl, fun w' hw' => by (try go_split_ands); go_simp⟩) cv ?_
      simp only [Act.put, List.getElem_toArray, List.getElem_cons_zero, List.getElem_cons_succ, List.setIfInBounds_toArray, List.set_cons_zero, List.set_cons_succ]
      refine wpAnyL_take (i := 2) (v := .pointer (some ⟨w.heap.size, 1, none⟩)) rfl (by kernel_rfl) (by kernel_rfl) (by kernel_rfl) (fun _ _ _ h => h) rfl (by kernel_rfl) (Or.inl ⟨by rfl, fun w' hw' => by (try go_split_ands); go_simp⟩) cv ?_
      simp only [Act.put, List.getElem_toArray, List.getElem_cons_zero, List.getElem_cons_succ, List.setIfInBounds_toArray, List.set_cons_zero, List.set_cons_succ]
      refine wpAnyL_take (i := 3) (v := .slice (some ⟨bb, off, none⟩) ds.length capc) rfl (by kernel_rfl) (by kernel_rfl) (by kernel_rfl) (fun _ _ _ h => h) rfl (by kernel_rfl) (Or.inl ⟨by rfl, fun w' hw' => by (try go_split_ands); go_simp⟩) cv ?_
      simp only [Act.put, List.getElem_toArray, List.getElem_cons_zero, List.getElem_cons_succ, List.setIfInBounds_toArray, List.set_cons_zero, List.set_cons_succ]
      refine wpAnyL_take (i := 4) (v := .int .i64 (k : Int)) rfl (by kernel_rfl) (by kernel_rfl) (by kernel_rfl) (fun _ _ _ h => h) rfl (by kernel_rfl) (Or.inl ⟨by rfl, fun w' hw' => by (try go_split_ands); go_simp⟩) cv ?_
      simp only [Act.put, List.getElem_toArray, List.getElem_cons_zero, List.getElem_cons_succ, List.setIfInBounds_toArray, List.set_cons_zero, List.set_cons_succ]
      refine wpAnyL_take (i := 5) (v := .pointer (some ⟨bb, off + k * 128, none⟩)) rfl (by kernel_rfl) (by kernel_rfl) (by kernel_rfl) (fun _ _ _ h => h) rfl (by kernel_rfl) (Or.inl ⟨by rfl, fun w' hw' => by (try go_split_ands); go_simp⟩) cv ?_
      simp only [Act.put, List.getElem_toArray, List.getElem_cons_zero, List.getElem_cons_succ, List.setIfInBounds_toArray, List.set_cons_zero, List.set_cons_succ]
      refine wpAnyL_take (i := 6) (v := .agg (bx (.bool x.d) x.f (.slice xa x.l.length xc))) rfl (by kernel_rfl) (by kernel_rfl) (by kernel_rfl) (fun _ _ _ h => h) rfl (by kernel_rfl) (Or.inl ⟨by rfl, fun w' hw' => exec_loadR 61 (.tmp 23) rfl bb (off + k * 128) rfl hw'.2.2.out rowClaim (bx_size _ _ _)⟩) cv ?_
      simp only [Act.put, List.getElem_toArray, List.getElem_cons_zero, List.getElem_cons_succ, List.setIfInBounds_toArray, List.set_cons_zero, List.set_cons_succ]
      refine wpAnyL_one (i := 7) (by kernel_rfl) rfl (fun K hK => ?_)
      go_simp
      go_wp2_with fail
      refine (copyclaim_ok V.drew w.heap.size x.d x.f _ x.l HSL.out HQ.out.bel.size (by omega)).mono ?_
      rintro e w2 ⟨b2, a2, d2, rfl, o2⟩
      have HB2 := Lib.hid (show Below V.heap.size V w2 from (bRefl V).drew.trans b2)
      have HO2 := Lib.hid (show OwR tC3 V.heap.size w2 (.slice a2 x.l.length d2) x.l from o2)
      clear b2 o2 cv
      go_wp2_with fail
      have HQ2 := Lib.hid (HQ.out.below HB2.out)
      refine hK.out _ _ (fun _ => HCV.out _ (HB2.out.mono HQ.out.bel.size) HQ2.out.qb HQ2.out.b1) ?_
      clear hK K
      refine wpAnyL_one (i := 8) (by kernel_rfl) rfl (fun K hK => ?_)
      rw [if_pos (by rfl)]
      refine wpo_run _ (exec_one rfl (D := bx (.bool x.d) x.f (.slice a2 x.l.length d2)) (by rfl) Try.underlying24 sizeClaim zeroClaim (bx_size _ _ _) (by omega) (by omega)) ?_
      refine hK.out _ _ (fun _ => HCV.out _ ((bAl HB2.out _).mono HQ.out.bel.size) (HQ2.out.qb.alloc _) (HQ2.out.b1.alloc _)) ?_
      clear hK K
      simp only [Act.put, List.getElem_toArray, List.getElem_cons_zero, List.getElem_cons_succ, List.setIfInBounds_toArray, List.set_cons_zero, List.set_cons_succ]
      refine wpAnyL_one (i := 9) (by kernel_rfl) rfl (fun K hK => ?_)
      refine step_push tCl rfl (.tmp 19) (.tmp 26) rfl w.heap.size (.slice ka k kc) cs (by rfl) (HQ2.out.cl.alloc _) w2.heap.size 0 1 1 [(x, ⟨a2, x.l.length, d2⟩)] (by rfl) rfl (rangeNew (by rfl) (by rw [RT.cs_one]; rfl)) (by rw [hck.out]; unfold maxLen; simp; omega) (by rw [hck.out]; show _ * 1040 ≤ _; simp; omega) (by have := HQ2.out.bel.size; simp; omega) ?_
      intro v' w9 hown hgrow hform
      obtain ⟨g2, d9, e9, hc1, hc2, hBg⟩ := hform (by simp)
      have e10 : v' = .slice (some ⟨g2, 0, none⟩) (k + 1) d9 := by rw [e9, hck.out]; rfl
      rw [e10] at hown ⊢
      have hne : ∀ g T C, T ≠ 61 → Blk (w2.alloc (.cells (bx (.bool x.d) x.f (.slice a2 x.l.length d2)) 61)) g T C → w9.heap[g]? = (w2.alloc (.cells (bx (.bool x.d) x.f (.slice a2 x.l.length d2)) 61)).heap[g]? := fun g T C hT hbk => hgrow.block _ hbk.lt (fun e => (HQ2.out.cl.alloc _).ne hbk (Ne.symm hT) e.symm)
      have q12 := (HQ2.out.qb.alloc (.cells (bx (.bool x.d) x.f (.slice a2 x.l.length d2)) 61)).of_block (hne _ _ _ (by decide) (HQ2.out.qb.alloc _))
      have b12 := (HQ2.out.b1.alloc (.cells (bx (.bool x.d) x.f (.slice a2 x.l.length d2)) 61)).of_block (hne _ _ _ (by decide) (HQ2.out.b1.alloc _))
      have bb9 : Below w.heap.size V w9 := (((bAl HB2.out _).mono HQ.out.bel.size)).grown hgrow (by have h1 := HQ.out.bel.size; have h2 := HB2.out.size; simp; omega) (fun b hb => (HQ.out.cl.blk hb).1)
      have cv9 := HCV.out w9 bb9 q12 b12
      have f9 := q12.frozen 1
      have c9 := cv9.1
      have HQ9 := HQ2.out.put hzq HX.out hown hgrow rfl (HO2.out.mono HQ.out.bel.size)
      clear hown hgrow hform hne q12 b12 bb9 e9 e10
      refine hK.out _ _ (fun _ => cv9) ?_
      clear hK K
      simp only [Act.put, List.getElem_toArray, List.getElem_cons_zero, List.getElem_cons_succ, List.setIfInBounds_toArray, List.set_cons_zero, List.set_cons_succ]
      refine wpAnyL_one (i := 10) (by kernel_rfl) rfl (fun K hK => ?_)
      go_simp
      refine hK.out _ _ (fun _ => cv9) ?_
      clear hK K
      refine wpAnyL_one (i := 11) (by kernel_rfl) rfl (fun K hK => ?_)
      go_simp
      refine hK.out _ _ (fun h => absurd rfl h) ?_
      clear hK K
      refine wpAnyL_done (by kernel_rfl) ?_ _
      have hck2 : (cs ++ [(x, (⟨a2, x.l.length, d2⟩ : Sn))]).length = k + 1 := by rw [List.length_append, hck.out]; rfl
      clear cv9 f9 c9
      go_wp2
      go_roundw
      all_goals first
        | exact ⟨k + 1, _, _, _, by omega, by go_num, hck2, HQ9⟩
        | ((repeat apply Exists.intro); exact ⟨⟨k + 1, _, _, _, by omega, by go_num, hck2, HQ9⟩, rfl⟩)
        | (simp [intOf] <;> omega)
    · obtain rfl : k = ds.length := by omega
      have HQ := Lib.hid hq.out
      clear hq
      have c0 := HQ.out.qb.cell 0
      have z0 := HQ.out.zb.cell 0
      have z1 := HQ.out.zb.cell 1
      have y0 := HQ.out.zb.frozen 0
      have y1 := HQ.out.zb.frozen 1
      simp only [List.getElem?_toArray, List.getElem?_cons_zero, List.getElem?_cons_succ] at c0 z0 z1
      go_wp2
      refine ret_cell rfl rfl (((HQ.out.zb.set 0 _).set 1 _).eq (C' := #[.slice a4 ls.length d4, .slice ka ds.length kc]) rfl) rowDeed rfl ?_
      have hb1 : Below w.heap.size w ((V.setCell ⟨z, 0, none⟩ (.slice a4 ls.length d4)).setCell ⟨z, 1, none⟩ (.slice ka ds.length kc)) := (HQ.out.bel.setCell (p := ⟨z, 0, none⟩) (by show w.heap.size ≤ z; omega) _).setCell (p := ⟨z, 1, none⟩) (by show w.heap.size ≤ z; omega) _
      refine ⟨hb1, _, _, rfl, ?_⟩
      have keep : ∀ (g : Nat) (T : TypeId) (C : Array Value), T ≠ 26 → Blk V g T C → ((V.setCell ⟨z, 0, none⟩ (.slice a4 ls.length d4)).setCell ⟨z, 1, none⟩ (.slice ka ds.length kc)).heap[g]? = V.heap[g]? := fun g T C hT hbk => by
        have hne := blk_ne hbk HQ.out.zb hT
        exact (Below.heap_setCell _ ⟨z, 1, none⟩ _ g hne).trans (Below.heap_setCell V ⟨z, 0, none⟩ _ g hne)
      have hl := owr_of_block HQ.out.lp fun g C => keep g _ C (by decide)
      have hc := owr_of_block HQ.out.cl fun g C => keep g _ C (by decide)
      have hk := HQ.out.cc.of_block fun g C => keep g _ C (by decide)
      have hm : cs.map (·.1) = ds := by rw [HQ.out.cm, List.take_length]
      have e := hck.out
      clear keep
      generalize (V.setCell ⟨z, 0, none⟩ (.slice a4 ls.length d4)).setCell ⟨z, 1, none⟩ (.slice ka ds.length kc) = W9 at hb1 hl hc hk ⊢
      rw [← e] at hc ⊢
      have := sld_of hl hc (fun x hx => ⟨(hk x hx).1, _, (hk x hx).2⟩) (by rw [hm]; exact HSM.out)
      rwa [hm] at this
end Go.Proofs.Ytfdjdpbiccclfaa

/- back: all of a lent deed lies there as it was lent, marks too. No conditions but those that each law names. -/
namespace Go.Proofs.Ytfdjdpbiccclfaa
open Go Go.RowKit Go.Wr
set_option maxHeartbeats 4000000
set_option maxRecDepth 100000

theorem sameD_rfl (d : Dd) : sameD d d = true := by
  unfold sameD
  simp only [decide_true, Bool.true_and]
  rw [sameCs_iff]
  refine ⟨rfl, fun i x y hx hy => ?_⟩
  rw [hx] at hy
  injection hy with hy
  subst hy
  simp only [sameC, Bool.and_eq_true, beq_self_eq_true, decide_true, and_true, true_and]
  exact ⟨eqTags_iff.2 fun _ _ => rfl, eqTags_iff.2 fun _ _ => rfl⟩
theorem Lt.forms {B : Nat} {w : World} {la ka : Option Addr} {lc kc : Nat} {ls : List Lp} {cs : List (Cl × Sn)} (h : Lt B w la lc ka kc ls cs) :
    (∃ g, la = some ⟨g, 0, none⟩ ∧ B ≤ g ∧ g < w.heap.size) ∧ (∃ g, ka = some ⟨g, 0, none⟩ ∧ B ≤ g ∧ g < w.heap.size) ∧ ls.length + 2 ≤ lc ∧ lc ≤ maxLen ∧ cs.length + 2 ≤ kc ∧ kc ≤ maxLen := by
  rcases h.lp.form with ⟨_, e⟩ | ⟨g, c, e, h1, h2, h3⟩
  · simp at e
  rcases h.cl.form with ⟨_, e'⟩ | ⟨g', c', e', h1', h2', h3'⟩
  · simp at e'
  injection e with e1 _ e3
  injection e' with e1' _ e3'
  subst e1; subst e3; subst e1'; subst e3'
  rw [List.length_append] at h1 h1'
  exact ⟨⟨g, rfl, h3, h.lp.lt rfl⟩, ⟨g', rfl, h3', h.cl.lt rfl⟩, h1, h2, h1', h2'⟩
theorem LtC.form {B : Nat} {w : World} {cs : List (Cl × Sn)} (h : LtC B w cs) {x : Cl × Sn} (hx : x ∈ cs) : ∃ g, x.2.a = some ⟨g, 0, none⟩ ∧ B ≤ g ∧ g < w.heap.size ∧ x.1.l.length + 2 ≤ x.2.c ∧ x.2.c ≤ maxLen := by
  have ho := (h.co x hx).2
  rcases ho.form with ⟨_, e⟩ | ⟨g, c, e, h1, h2, h3⟩
  · simp at e
  injection e with e1 _ e3
  rw [List.length_append] at h1
  refine ⟨g, e1, h3, ho.lt (by rw [e1]; rfl), ?_, ?_⟩
  · rw [e3]; exact h1
  · rw [e3]; exact h2
/-- A lent deed can be read. -/
theorem Lt.sl {B : Nat} {w : World} {la ka : Option Addr} {lc kc : Nat} {ls : List Lp} {cs : List (Cl × Sn)} (h : Lt B w la lc ka kc ls cs) (hn : Sml ⟨ls, cs.map (·.1)⟩) : SlD w.heap.size w (.slice la ls.length lc) (.slice ka cs.length kc) ⟨ls, cs.map (·.1)⟩ := by
  obtain ⟨⟨g, rfl, -, -⟩, ⟨g', rfl, -, -⟩, -⟩ := h.forms
  have hl := OwR.take h.lp (k := ls.length) (by simp)
  have hc := OwR.take h.cl (k := cs.length) (by simp)
  rw [List.take_left] at hl hc
  refine sld_of hl hc (fun x hx => ⟨(h.cc.co x hx).1, B, ?_⟩) hn
  obtain ⟨g, e, -⟩ := h.cc.form hx
  have := (h.cc.co x hx).2
  rw [e] at this ⊢
  have := OwR.take this (k := x.1.l.length) (by simp)
  rwa [List.take_left] at this
theorem at_cell {w : World} {g k n j : Nat} {cs : List Value} {v : Value} (h : At w g (0 + k * n) cs) (hj : cs[j]? = some v) : w.cell? ⟨g, k * n + j, none⟩ = some v := by
  have := h.cell j v hj
  rwa [Nat.zero_add] at this
theorem back_ok2 (w : World) (B : Nat) (la ka : Option Addr) (lc kc : Nat) (vl vc : Value) (ls : List Lp) (cs : List (Cl × Sn)) (h : Lt B w la lc ka kc ls cs) (hd : SlD w.heap.size w vl vc ⟨ls, cs.map (·.1)⟩) (hn : Sml ⟨ls, cs.map (·.1)⟩) :
    Calls Try.prog 16 #[.agg #[.slice la ls.length lc, .slice ka cs.length kc], .agg #[vl, vc]] w fun e w' => e = .returned (.bool true) ∧ Below w.heap.size w w' := by
  have H := Lib.hid h
  have HD := Lib.hid hd
  have HN := Lib.hid hn
  obtain ⟨⟨al, capl, rfl, -⟩, ⟨ac, capc, rfl, -⟩, -, -, -⟩ := hd
  obtain ⟨⟨g, rfl, hg1, hg2⟩, ⟨p, rfl, hp1, hp2⟩, k1, k2, k3, k4⟩ := h.forms
  unfold maxLen at k2 k4
  have n1 := hn.n1
  have n2 := hn.n2
  simp only [List.length_map] at n1 n2
  have a1 : w.cell? ⟨g, ls.length * 5, none⟩ = some (.int .i64 (-7)) := at_cell (j := 0) (OwR.at h.lp (k := ls.length) (by rw [List.getElem?_append_right (Nat.le_refl _), Nat.sub_self]; rfl)) rfl
  have a2 : w.cell? ⟨g, (ls.length + 1) * 5, none⟩ = some (.int .i64 (-8)) := at_cell (j := 0) (OwR.at h.lp (k := ls.length + 1) (by rw [List.getElem?_append_right (by omega), Nat.add_sub_cancel_left]; rfl)) rfl
  have t1 := OwR.at h.cl (k := cs.length) (x := dm) (by rw [List.getElem?_append_right (Nat.le_refl _), Nat.sub_self]; rfl)
  have t2 := OwR.at h.cl (k := cs.length + 1) (x := dz) (by rw [List.getElem?_append_right (by omega), Nat.add_sub_cancel_left]; rfl)
  have b1 : w.cell? ⟨p, cs.length * 128, none⟩ = some (.bool true) := at_cell (j := 0) t1 (by rw [Array.getElem?_toList]; exact bx_zero _ _ _)
  have b2 : w.cell? ⟨p, (cs.length + 1) * 128, none⟩ = some (.bool false) := at_cell (j := 0) t2 (by rw [Array.getElem?_toList]; exact bx_zero _ _ _)
  have b3 : w.cell? ⟨p, cs.length * 128 + 127, none⟩ = some (.slice none 0 0) := at_cell t1 (by rw [Array.getElem?_toList]; exact bx_last _ _ _)
  have b4 : w.cell? ⟨p, (cs.length + 1) * 128 + 127, none⟩ = some (.slice none 0 0) := at_cell t2 (by rw [Array.getElem?_toList]; exact bx_last _ _ _)
  have HA := Lib.hid (And.intro a1 (And.intro a2 (And.intro b1 (And.intro b2 (And.intro b3 b4)))))
  clear h hn t1 t2 a1 a2 b1 b2 b3 b4
  go_enter Try.func16, Try.ntmps16
  go_upto_region 1 with (fail)
  generalize hW : (w.alloc (.cells #[.slice (some ⟨g, 0, none⟩) ls.length lc, .slice (some ⟨p, 0, none⟩) cs.length kc] 26)).alloc _ = W
  obtain ⟨z, hz⟩ : ∃ z, z = w.heap.size + 1 := ⟨_, rfl⟩
  have q1 : Blk W w.heap.size 26 #[.slice (some ⟨g, 0, none⟩) ls.length lc, .slice (some ⟨p, 0, none⟩) cs.length kc] := by rw [← hW]; exact (Blk.new _ _ _).alloc _
  have z1 : Blk W z 26 #[.slice al ls.length capl, .slice ac cs.length capc] := by rw [← hW, hz]; exact Blk.new_at _ _ (by simp)
  have bW : Below w.heap.size w W := by rw [← hW]; exact bAl (bAl (bRefl w) _) _
  rw [← hz]
  clear hW hz
  have HQ := Lib.hid q1
  have HZ := Lib.hid z1
  have HB := Lib.hid bW
  have c0 := q1.cell 0
  have c1 := q1.cell 1
  have z0 := z1.cell 0
  have z2 := z1.cell 1
  simp only [List.getElem?_toArray, List.getElem?_cons_zero, List.getElem?_cons_succ] at c0 c1 z0 z2
  clear q1 z1 bW
  have s1 : IntKind.i64.wrap ((ls.length : Int) + 2) = (ls.length : Int) + 2 := IntWalk.i64_in _ (by omega)
  have s2 : ((ls.length : Int) + 2).toNat = ls.length + 2 := by omega
  go_wp2_with fail
  refine (samedeed_ok W _ _ _ _ ⟨ls, cs.map (·.1)⟩ ⟨ls, cs.map (·.1)⟩ (by have := (H.out.below HB.out).sl HN.out; exact this) (by have := (HD.out.below HB.out).mono HB.out.size; simp only [List.length_map] at this; exact this)).mono ?_
  rintro e w2 ⟨rfl, b2⟩
  rw [sameD_rfl]
  have HB2 := Lib.hid (bThen HB.out b2)
  have HQ2 := Lib.hid (HQ.out.below b2 HQ.out.lt)
  obtain ⟨a1, a2, a3, a4, a5, a6⟩ := HA.out
  have a1 := (HB2.out.cell (p := ⟨g, _, none⟩) hg2).trans a1
  have a2 := (HB2.out.cell (p := ⟨g, _, none⟩) hg2).trans a2
  have a3 := (HB2.out.cell (p := ⟨p, _, none⟩) hp2).trans a3
  have a4 := (HB2.out.cell (p := ⟨p, _, none⟩) hp2).trans a4
  have a5 := (HB2.out.cell (p := ⟨p, _, none⟩) hp2).trans a5
  have a6 := (HB2.out.cell (p := ⟨p, _, none⟩) hp2).trans a6
  have d1 := HQ2.out.cell 1
  simp only [List.getElem?_toArray, List.getElem?_cons_zero, List.getElem?_cons_succ] at d1
  have s3 : IntKind.i64.wrap ((ls.length : Int) + 1) = (ls.length : Int) + 1 := IntWalk.i64_in _ (by omega)
  have s4 : ((ls.length : Int) + 1).toNat = ls.length + 1 := by omega
  have s5 : IntKind.i64.wrap ((cs.length : Int) + 1) = (cs.length : Int) + 1 := IntWalk.i64_in _ (by omega)
  have s6 : ((cs.length : Int) + 1).toNat = cs.length + 1 := by omega
  have s7 : IntKind.i64.wrap ((cs.length : Int) + 2) = (cs.length : Int) + 2 := IntWalk.i64_in _ (by omega)
  have s8 : ((cs.length : Int) + 2).toNat = cs.length + 2 := by omega
  have HLT := Lib.hid (H.out.below HB2.out)
  clear c0 c1 z0 z2 HZ HB HQ b2 HA HD
  go_wp2
  clear a1 a2 a3 a4 a5 a6
  go_loopw [8] (fun t wr => ∃ i : Nat, i ≤ cs.length ∧ t = .int .i64 (i : Int) ∧ wr = w2) (fun t _ => cs.length - (intOf t).toNat)
  case atStart => exact ⟨0, by omega, rfl, rfl⟩
  case round =>
    obtain ⟨i, hi, rfl, rfl⟩ := hrel
    by_cases hlt : i < cs.length
    · have hlt' : (i : Int) < (cs.length : Int) := by omega
      obtain ⟨⟨x, s⟩, hx⟩ : ∃ x, cs[i]? = some x := ⟨_, List.getElem?_eq_getElem hlt⟩
      have hm := List.mem_of_getElem? hx
      obtain ⟨b, eb, -, -, j1, j2⟩ := HLT.out.cc.form hm
      obtain ⟨en, ho⟩ := HLT.out.cc.co _ hm
      have nx := HN.out.n3 x (List.mem_map.2 ⟨_, hm, rfl⟩)
      have hat := OwR.at HLT.out.cl (k := i) (x := (x, s)) (by rw [List.getElem?_append_left hlt]; exact hx)
      have e0 : wr.cell? ⟨p, i * 128 + 127, none⟩ = some (.slice s.a s.n s.c) := at_cell hat (by rw [Array.getElem?_toList]; exact bx_last _ _ _)
      simp only at eb en ho j1 j2
      rw [eb] at ho e0
      rw [en] at e0
      unfold maxLen at j2
      have e1 : wr.cell? ⟨b, x.l.length * 3, none⟩ = some (.int .i64 (-7)) := at_cell (j := 0) (OwR.at ho (k := x.l.length) (by rw [List.getElem?_append_right (Nat.le_refl _), Nat.sub_self]; rfl)) rfl
      have e2 : wr.cell? ⟨b, (x.l.length + 1) * 3, none⟩ = some (.int .i64 (-8)) := at_cell (j := 0) (OwR.at ho (k := x.l.length + 1) (by rw [List.getElem?_append_right (by omega), Nat.add_sub_cancel_left]; rfl)) rfl
      have u1 : IntKind.i64.wrap ((x.l.length : Int) + 2) = (x.l.length : Int) + 2 := IntWalk.i64_in _ (by omega)
      have u2 : ((x.l.length : Int) + 2).toNat = x.l.length + 2 := by omega
      have u3 : IntKind.i64.wrap ((x.l.length : Int) + 1) = (x.l.length : Int) + 1 := IntWalk.i64_in _ (by omega)
      have u4 : ((x.l.length : Int) + 1).toNat = x.l.length + 1 := by omega
      clear hx hm eb en ho hat
      go_wp2
      go_roundw
      all_goals first
        | exact ⟨i + 1, by omega, by go_num, trivial⟩
        | (simp [intOf] <;> omega)
    · have hlt' : ¬ (i : Int) < (cs.length : Int) := by omega
      go_wp2
      go_ret
      exact ⟨rfl, HB2.out⟩
end Go.Proofs.Ytfdjdpbiccclfaa

/- turned: something in what was lent is another thing now. No conditions but those that each law names. -/
namespace Go.Proofs.Ytfdjdpbiccclfaa
open Go Go.RowKit Go.Wr
set_option maxHeartbeats 4000000
set_option maxRecDepth 100000

def xr (x : Int) : Int := bits BinOp.xor IntKind.i64 x 1
def tL : List Lp → List Lp
  | [] => []
  | x :: l => ⟨x.h, x.a, x.b, xr x.k, x.d⟩ :: l
def tK (f : Nat → Tg) (v : Int) : Nat → Tg := fun j => if j = 3 then ⟨v, (f 3).t, (f 3).m⟩ else f j
def tB (l : List C3) : List C3 := match l[l.length - 1]? with
  | none => l
  | some y => l.set (l.length - 1) ⟨y.i, y.j, xr y.c⟩
def tX (x : Cl) : Cl := ⟨x.d, tK x.f (xr (x.f 3).k), tB x.l⟩
def tC (k : Nat) (cs : List (Cl × Sn)) : List (Cl × Sn) := cs.zipIdx.map fun x => if x.2 % 2 = 0 ∧ x.2 < k then (tX x.1.1, x.1.2) else x.1
theorem tB_len (l : List C3) : (tB l).length = l.length := by unfold tB; split <;> simp
theorem tC_len (k : Nat) (cs : List (Cl × Sn)) : (tC k cs).length = cs.length := by simp [tC]
theorem tC_get (k : Nat) (cs : List (Cl × Sn)) (i : Nat) : (tC k cs)[i]? = cs[i]?.map fun x => if i % 2 = 0 ∧ i < k then (tX x.1, x.2) else x := by
  unfold tC
  rw [List.getElem?_map, List.getElem?_zipIdx]
  cases cs[i]? <;> simp
theorem tC_zero (cs : List (Cl × Sn)) : tC 0 cs = cs := by
  apply List.ext_getElem?
  intro i
  rw [tC_get]
  cases cs[i]? <;> simp
theorem tC_at {cs : List (Cl × Sn)} {i : Nat} {x : Cl × Sn} (hx : cs[i]? = some x) : (tC i cs)[i]? = some x := by rw [tC_get, hx]; simp
theorem tC_step {cs : List (Cl × Sn)} {i : Nat} {x : Cl × Sn} (hx : cs[i]? = some x) (h2 : i % 2 = 0) : (tC i cs).set i (tX x.1, x.2) = tC (i + 2) cs := by
  apply List.ext_getElem?
  intro j
  rw [List.getElem?_set, tC_get, tC_get, tC_len]
  by_cases hj : i = j
  · subst hj
    have hi := (List.getElem?_eq_some_iff.1 hx).1
    rw [if_pos rfl, if_pos hi, hx, Option.map_some, if_pos ⟨h2, by omega⟩]
  · rw [if_neg hj]
    cases hc : cs[j]? with
    | none => rfl
    | some y =>
      rw [Option.map_some, Option.map_some]
      congr 1
      by_cases h3 : j % 2 = 0 ∧ j < i
      · rw [if_pos h3, if_pos ⟨h3.1, by omega⟩]
      · rw [if_neg h3, if_neg (fun h => h3 ⟨h.1, by omega⟩)]
theorem tC_end {cs : List (Cl × Sn)} {i : Nat} (h : cs.length ≤ i) : tC i cs = tC cs.length cs := by
  apply List.ext_getElem?
  intro j
  rw [tC_get, tC_get]
  cases hc : cs[j]? with
  | none => rfl
  | some y =>
    have := (List.getElem?_eq_some_iff.1 hc).1
    rw [Option.map_some, Option.map_some]
    congr 1
    by_cases h3 : j % 2 = 0
    · rw [if_pos ⟨h3, by omega⟩, if_pos ⟨h3, by omega⟩]
    · rw [if_neg (fun h => h3 h.1), if_neg (fun h => h3 h.1)]

theorem LtC.set {B i : Nat} {w w' : World} {cs : List (Cl × Sn)} {x x' : Cl} {s : Sn} (h : LtC B w cs) (hx : cs[i]? = some (x, s)) (hn : x'.l.length = x.l.length) (ho : OwR tC3 B w' (.slice s.a (x'.l.length + 2) s.c) (x'.l ++ [c7, c8]))
    (hk : ∀ j y, j ≠ i → cs[j]? = some y → OwR tC3 B w' (.slice y.2.a (y.1.l.length + 2) y.2.c) (y.1.l ++ [c7, c8])) : LtC B w' (cs.set i (x', s)) := by
  have hi := (List.getElem?_eq_some_iff.1 hx).1
  have hg : ∀ (j : Nat) (y : Cl × Sn), (cs.set i (x', s))[j]? = some y → ∃ z, cs[j]? = some z ∧ z.2 = y.2 ∧ (j = i ∧ y = (x', s) ∨ j ≠ i ∧ y = z) := fun j y hy => by
    rw [List.getElem?_set] at hy
    by_cases hj : i = j
    · subst hj
      rw [if_pos rfl, if_pos hi] at hy
      injection hy with hy
      exact ⟨_, hx, by rw [← hy], Or.inl ⟨rfl, hy.symm⟩⟩
    · rw [if_neg hj] at hy
      exact ⟨y, hy, rfl, Or.inr ⟨Ne.symm hj, rfl⟩⟩
  refine ⟨fun y hy => ?_, ?_⟩
  · obtain ⟨j, hj⟩ := List.mem_iff_getElem?.1 hy
    obtain ⟨z, hz, _, ⟨rfl, rfl⟩ | ⟨hji, rfl⟩⟩ := hg j y hj
    · exact ⟨by rw [hn]; exact (h.co _ (List.mem_of_getElem? hx)).1, ho⟩
    · exact ⟨(h.co _ (List.mem_of_getElem? hz)).1, hk j _ hji hz⟩
  · have hd := h.dj
    rw [List.pairwise_iff_getElem] at hd ⊢
    intro a b ha hb hab
    rw [List.length_set] at ha hb
    have e1 : (cs.set i (x', s))[a]? = some (cs.set i (x', s))[a] := List.getElem?_eq_getElem _
    have e2 : (cs.set i (x', s))[b]? = some (cs.set i (x', s))[b] := List.getElem?_eq_getElem _
    obtain ⟨z1, hz1, q1, _⟩ := hg a _ e1
    obtain ⟨z2, hz2, q2, _⟩ := hg b _ e2
    rw [List.getElem?_eq_getElem ha] at hz1
    rw [List.getElem?_eq_getElem hb] at hz2
    injection hz1 with hz1
    injection hz2 with hz2
    rw [← q1, ← q2, ← hz1, ← hz2]
    exact hd a b ha hb hab
theorem bx_kind (d : Value) (f : Nat → Tg) (a : Value) (v : Int) : (bx d f a).toList.set 10 (.int .i64 v) = (bx d (tK f v) a).toList := by
  have key : (gc f).toList.set 9 (.int .i64 v) = (gc (tK f v)).toList := by
    apply List.ext_getElem?
    intro i
    rw [List.getElem?_set]
    by_cases hi : i < 126
    · have h1 : (gc f).toList[i]? = some (.int .i64 (tcomp (f (i / 3)) (i % 3))) := by rw [Array.getElem?_toList]; exact gc_at f hi
      have h2 : (gc (tK f v)).toList[i]? = some (.int .i64 (tcomp (tK f v (i / 3)) (i % 3))) := by rw [Array.getElem?_toList]; exact gc_at _ hi
      rw [h1, h2]
      have hl : (gc f).toList.length = 126 := by simp [gc_size]
      by_cases h9 : 9 = i
      · subst h9
        rw [if_pos rfl, if_pos (by omega)]
        rfl
      · rw [if_neg h9]
        congr 2
        unfold tK
        by_cases h3 : i / 3 = 3
        · rw [if_pos h3, h3]
          have : i % 3 = 1 ∨ i % 3 = 2 := by omega
          unfold tcomp
          rcases this with h | h <;> simp [h]
        · rw [if_neg h3]
    · have hl : (gc f).toList.length = 126 := by simp [gc_size]
      have hl2 : (gc (tK f v)).toList.length = 126 := by simp [gc_size]
      rw [if_neg (by omega), List.getElem?_eq_none (by omega), List.getElem?_eq_none (by omega)]
  unfold bx
  simp only [List.set_cons_succ]
  rw [List.set_append_left _ _ (by simp [gc_size]), key]
/-- A tag's kind is written. -/
theorem Lt.setTag {B i p : Nat} {w : World} {la : Option Addr} {lc kc : Nat} {ls : List Lp} {cs : List (Cl × Sn)} {x : Cl} {s : Sn} (h : Lt B w la lc (some ⟨p, 0, none⟩) kc ls cs) (hx : cs[i]? = some (x, s)) (v : Int) :
    Lt B (w.setCell ⟨p, i * 128 + 10, none⟩ (.int .i64 v)) la lc (some ⟨p, 0, none⟩) kc ls (cs.set i (⟨x.d, tK x.f v, x.l⟩, s)) := by
  have hi := (List.getElem?_eq_some_iff.1 hx).1
  obtain ⟨_, Cp, hp⟩ := h.cl.blk rfl
  have keep : ∀ g T C, T ≠ 61 → Blk w g T C → (w.setCell ⟨p, i * 128 + 10, none⟩ (.int .i64 v)).heap[g]? = w.heap[g]? := fun g T C hT hb => Below.heap_setCell w ⟨p, _, none⟩ _ g (blk_ne hb hp hT)
  have hc := OwR.set (k := i) (j := 10) (x := (x, s)) (y := (⟨x.d, tK x.f v, x.l⟩, s)) (v := .int .i64 v) h.cl (by rw [List.getElem?_append_left hi]; exact hx) (by decide) (bx_kind _ _ _ _)
  have hcc := h.cc.of_block fun g C => keep g _ C (by decide)
  rw [List.set_append_left _ _ hi] at hc
  refine ⟨owr_of_block h.lp fun g C => keep g _ C (by decide), by rw [List.length_set]; exact hc, ?_⟩
  exact hcc.set hx rfl (hcc.co _ (List.mem_of_getElem? hx)).2 (fun j y _ hy => (hcc.co _ (List.mem_of_getElem? hy)).2)
/-- A bound's number is written. -/
theorem Lt.setCon {B i m b : Nat} {w : World} {la ka : Option Addr} {lc kc : Nat} {ls : List Lp} {cs : List (Cl × Sn)} {x : Cl} {s : Sn} {y : C3} (h : Lt B w la lc ka kc ls cs) (hx : cs[i]? = some (x, s)) (hy : x.l[m]? = some y) (hb : s.a = some ⟨b, 0, none⟩) (v : Int) :
    Lt B (w.setCell ⟨b, m * 3 + 2, none⟩ (.int .i64 v)) la lc ka kc ls (cs.set i (⟨x.d, x.f, x.l.set m ⟨y.i, y.j, v⟩⟩, s)) := by
  have hi := (List.getElem?_eq_some_iff.1 hx).1
  have hm := (List.getElem?_eq_some_iff.1 hy).1
  have ho := (h.cc.co _ (List.mem_of_getElem? hx)).2
  simp only at ho
  rw [hb] at ho
  obtain ⟨_, Cb, hcb⟩ := ho.blk rfl
  have keep : ∀ g T C, T ≠ 63 → Blk w g T C → (w.setCell ⟨b, m * 3 + 2, none⟩ (.int .i64 v)).heap[g]? = w.heap[g]? := fun g T C hT hbk => Below.heap_setCell w ⟨b, _, none⟩ _ g (blk_ne hbk hcb hT)
  have hs := OwR.set (k := m) (j := 2) (x := y) (y := ⟨y.i, y.j, v⟩) (v := .int .i64 v) ho (by rw [List.getElem?_append_left hm]; exact hy) (by decide) rfl
  rw [List.set_append_left _ _ hm] at hs
  have hcl := owr_of_block h.cl fun g C => keep g _ C (by decide)
  have hce : tCl.cs (cs.set i (⟨x.d, x.f, x.l.set m ⟨y.i, y.j, v⟩⟩, s) ++ [dm, dz]) = tCl.cs (cs ++ [dm, dz]) := by
    have hmap : (cs.set i (⟨x.d, x.f, x.l.set m ⟨y.i, y.j, v⟩⟩, s)).map tCl.f = cs.map tCl.f := by
      apply List.ext_getElem?
      intro j
      rw [List.getElem?_map, List.getElem?_map, List.getElem?_set]
      by_cases hj : i = j
      · subst hj
        rw [if_pos rfl, if_pos hi, hx]
        rfl
      · rw [if_neg hj]
    rw [tCl.cs_app, tCl.cs_app]
    congr 1
    unfold RT.cs
    rw [List.flatMap_def, List.flatMap_def, hmap]
  refine ⟨owr_of_block h.lp fun g C => keep g _ C (by decide), ?_, ?_⟩
  · unfold OwR at hcl ⊢
    rw [hce]
    simp only [List.length_append, List.length_set] at hcl ⊢
    exact hcl
  · refine h.cc.set (x' := ⟨x.d, x.f, x.l.set m ⟨y.i, y.j, v⟩⟩) hx (by simp) ?_ (fun j z hji hz => ?_)
    · simp only [List.length_set]
      rw [hb]
      exact hs
    · have hoz := (h.cc.co _ (List.mem_of_getElem? hz)).2
      obtain ⟨g, eg, -⟩ := h.cc.form (List.mem_of_getElem? hz)
      refine hoz.set_other fun e => ?_
      rw [eg] at e
      have hgb : g = b := by injection e
      have hjl := (List.getElem?_eq_some_iff.1 hz).1
      have hd := List.pairwise_iff_getElem.1 h.cc.dj
      have g1 : cs[j] = z := by rw [List.getElem?_eq_getElem hjl] at hz; injection hz
      have g2 : cs[i] = (x, s) := by rw [List.getElem?_eq_getElem hi] at hx; injection hx
      rcases Nat.lt_or_gt_of_ne hji with hlt | hgt
      · have := hd j i hjl hi hlt
        rw [g1, g2, eg, hb, hgb] at this
        exact this rfl
      · have := hd i j hi hjl hgt
        rw [g1, g2, eg, hb, hgb] at this
        exact this rfl
theorem Lt.setLoop {B g : Nat} {w : World} {ka : Option Addr} {lc kc : Nat} {x : Lp} {ls : List Lp} {cs : List (Cl × Sn)} (h : Lt B w (some ⟨g, 0, none⟩) lc ka kc (x :: ls) cs) (v : Int) :
    Lt B (w.setCell ⟨g, 3, none⟩ (.int .i64 v)) (some ⟨g, 0, none⟩) lc ka kc (⟨x.h, x.a, x.b, v, x.d⟩ :: ls) cs := by
  obtain ⟨_, Cg, hg⟩ := h.lp.blk rfl
  have keep : ∀ k T C, T ≠ 54 → Blk w k T C → (w.setCell ⟨g, 3, none⟩ (.int .i64 v)).heap[k]? = w.heap[k]? := fun k T C hT hb => Below.heap_setCell w ⟨g, _, none⟩ _ k (blk_ne hb hg hT)
  have hl := OwR.set (k := 0) (j := 3) (x := x) (y := ⟨x.h, x.a, x.b, v, x.d⟩) (v := .int .i64 v) h.lp rfl (by decide) rfl
  have e : 0 * tLp.n + 3 = 3 := by omega
  rw [e] at hl
  exact ⟨hl, owr_of_block h.cl fun k C => keep k _ C (by decide), h.cc.of_block fun k C => keep k _ C (by decide)⟩
/-- What holds while a lent deed is turned. -/
def Tn (B q : Nat) (la ka : Option Addr) (lc kc : Nat) (n m : Nat) (ls : List Lp) (cs : List (Cl × Sn)) (w wr : World) : Prop :=
  Below B w wr ∧ Blk wr q 26 #[.slice la n lc, .slice ka m kc] ∧ Lt B wr la lc ka kc ls cs ∧ ∀ k C, Blk w k 26 C → Blk wr k 26 C
theorem turned_ok (w : World) (B : Nat) (la ka : Option Addr) (lc kc : Nat) (ls : List Lp) (cs : List (Cl × Sn)) (h : Lt B w la lc ka kc ls cs) (hn : Sml ⟨ls, cs.map (·.1)⟩) (hB : B ≤ w.heap.size) :
    Calls Try.prog 17 #[.agg #[.slice la ls.length lc, .slice ka cs.length kc]] w fun e w' => e = .returned (.tuple #[]) ∧ Below B w w' ∧ Lt B w' la lc ka kc (tL ls) (tC cs.length cs) ∧ ∀ k C, Blk w k 26 C → Blk w' k 26 C := by
  have mix : Try.prog.follows .mixedOrders = true := by kernel_rfl
  have H := Lib.hid h
  have HN := Lib.hid hn
  obtain ⟨⟨g, rfl, hg1, hg2⟩, ⟨p, rfl, hp1, hp2⟩, k1, k2, k3, k4⟩ := h.forms
  unfold maxLen at k2 k4
  have n1 := hn.n1
  have n2 := hn.n2
  simp only [List.length_map] at n1 n2
  clear h hn
  go_enter Try.func17, Try.ntmps17
  go_upto_region 1 with (fail)
  generalize hW : w.alloc _ = W
  obtain ⟨q, hq⟩ : ∃ q, q = w.heap.size := ⟨_, rfl⟩
  rw [← hq]
  have HS := Lib.hid (show Tn B q (some ⟨g, 0, none⟩) (some ⟨p, 0, none⟩) lc kc ls.length cs.length ls cs w W by
    rw [← hW, hq]
    exact ⟨(bAl (bRefl w) _).mono hB, Blk.new _ _ _, H.out.below (bAl (bRefl w) _), fun k C hk => hk.alloc _⟩)
  have hgq : g < q ∧ p < q ∧ B ≤ q := by omega
  clear hW hq
  have c0 := HS.out.2.1.cell 0
  simp only [List.getElem?_toArray, List.getElem?_cons_zero] at c0
  go_upto_if 7 with (fail)
  go_cut [8] (fun t wc => Hid (Tn B q (some ⟨g, 0, none⟩) (some ⟨p, 0, none⟩) lc kc ls.length cs.length (tL ls) cs w wc))
  case first =>
    cases ls with
    | nil =>
      go_wp2
      go_meet
      exact HS.out
    | cons x ls =>
      have hpos : (0 : Int) < ((ls.length + 1 : Nat) : Int) := by omega
      simp only [List.length_cons] at c0 n1 k1 HS HN ⊢
      have e3 : W.cell? ⟨g, 3, none⟩ = some (.int .i64 x.k) := at_cell (k := 0) (n := tLp.n) (j := 3) (OwR.at HS.out.2.2.1.lp (k := 0) (x := x) rfl) rfl
      have cv : W.drew.cell? ⟨q, 0, none⟩ = some (.slice (some ⟨g, 0, none⟩) (ls.length + 1) lc) ∧ W.drew.cell? ⟨g, 3, none⟩ = some (.int .i64 x.k) := ⟨c0, e3⟩
      have f3 : W.drew.frozen? ⟨g, 3, none⟩ = false := OwR.frozen HS.out.2.2.1.lp 3
      go_upto_region 2 with (fail)
      refine wp_region_last 10 (fun w' => w'.cell? ⟨q, 0, none⟩ = some (.slice (some ⟨g, 0, none⟩) (ls.length + 1) lc) ∧ w'.cell? ⟨g, 3, none⟩ = some (.int .i64 x.k)) mix ?_
      refine wpAnyL_take (i := 0) (v := .pointer (some ⟨q, 0, none⟩)) rfl (by kernel_rfl) (by kernel_rfl) (by kernel_rfl) (fun _ _ _ h => h) rfl (by kernel_rfl) (Or.inl ⟨by rfl, fun w' hw' => by (try go_split_ands); go_simp⟩) cv ?_
      simp only [Act.put, List.getElem_toArray, List.getElem_cons_zero, List.setIfInBounds_toArray, List.set_cons_zero, List.set_cons_succ]
      refine wpAnyL_take (i := 1) (v := .slice (some ⟨g, 0, none⟩) (ls.length + 1) lc) rfl (by kernel_rfl) (by kernel_rfl) (by kernel_rfl) (fun _ _ _ h => h) rfl (by kernel_rfl) (Or.inl ⟨by rfl, fun w' hw' => by (try go_split_ands); go_simp⟩) cv ?_
      simp only [Act.put, List.getElem_toArray, List.getElem_cons_zero, List.getElem_cons_succ, List.setIfInBounds_toArray, List.set_cons_zero, List.set_cons_succ]
      refine wpAnyL_take (i := 2) (v := .pointer (some ⟨q, 0, none⟩)) rfl (by kernel_rfl) (by kernel_rfl) (by kernel_rfl) (fun _ _ _ h => h) rfl (by kernel_rfl) (Or.inl ⟨by rfl, fun w' hw' => by (try go_split_ands); go_simp⟩) cv ?_
      simp only [Act.put, List.getElem_toArray, List.getElem_cons_zero, List.getElem_cons_succ, List.setIfInBounds_toArray, List.set_cons_zero, List.set_cons_succ]
      refine wpAnyL_take (i := 3) (v := .slice (some ⟨g, 0, none⟩) (ls.length + 1) lc) rfl (by kernel_rfl) (by kernel_rfl) (by kernel_rfl) (fun _ _ _ h => h) rfl (by kernel_rfl) (Or.inl ⟨by rfl, fun w' hw' => by (try go_split_ands); go_simp⟩) cv ?_
      simp only [Act.put, List.getElem_toArray, List.getElem_cons_zero, List.getElem_cons_succ, List.setIfInBounds_toArray, List.set_cons_zero, List.set_cons_succ]
      refine wpAnyL_take (i := 4) (v := .pointer (some ⟨g, 0, none⟩)) rfl (by kernel_rfl) (by kernel_rfl) (by kernel_rfl) (fun _ _ _ h => h) rfl (by kernel_rfl) (Or.inl ⟨by rfl, fun w' hw' => by (try go_split_ands); go_simp⟩) cv ?_
      simp only [Act.put, List.getElem_toArray, List.getElem_cons_zero, List.getElem_cons_succ, List.setIfInBounds_toArray, List.set_cons_zero, List.set_cons_succ]
      refine wpAnyL_take (i := 5) (v := .pointer (some ⟨g, 3, none⟩)) rfl (by kernel_rfl) (by kernel_rfl) (by kernel_rfl) (fun _ _ _ h => h) rfl (by kernel_rfl) (Or.inl ⟨by rfl, fun w' hw' => by (try go_split_ands); go_simp⟩) cv ?_
      simp only [Act.put, List.getElem_toArray, List.getElem_cons_zero, List.getElem_cons_succ, List.setIfInBounds_toArray, List.set_cons_zero, List.set_cons_succ]
      refine wpAnyL_take (i := 6) (v := .int .i64 x.k) rfl (by kernel_rfl) (by kernel_rfl) (by kernel_rfl) (fun _ _ _ h => h) rfl (by kernel_rfl) (Or.inl ⟨by rfl, fun w' hw' => by (try go_split_ands); go_simp⟩) cv ?_
      simp only [Act.put, List.getElem_toArray, List.getElem_cons_zero, List.getElem_cons_succ, List.setIfInBounds_toArray, List.set_cons_zero, List.set_cons_succ]
      refine wpAnyL_take (i := 7) (v := .int .i64 (bits BinOp.xor IntKind.i64 x.k 1)) rfl (by kernel_rfl) (by kernel_rfl) (by kernel_rfl) (fun _ _ _ h => h) rfl (by kernel_rfl) (Or.inl ⟨by rfl, fun w' hw' => by (try go_split_ands); go_simp⟩) cv ?_
      simp only [Act.put, List.getElem_toArray, List.getElem_cons_zero, List.getElem_cons_succ, List.setIfInBounds_toArray, List.set_cons_zero, List.set_cons_succ]
      refine wpAnyL_one (i := 8) (by kernel_rfl) rfl (fun K hK => ?_)
      go_simp
      refine hK.out _ _ (fun _ => cv) ?_
      clear hK K
      refine wpAnyL_one (i := 9) (by kernel_rfl) rfl (fun K hK => ?_)
      go_simp
      refine hK.out _ _ (fun _ => cv) ?_
      clear hK K
      refine wpAnyL_one (i := 10) (by kernel_rfl) rfl (fun K hK => ?_)
      go_simp
      refine hK.out _ _ (fun h => absurd rfl h) ?_
      clear hK K
      refine wpAnyL_done (by kernel_rfl) ?_ _
      have hS2 : Hid (Tn B q (some ⟨g, 0, none⟩) (some ⟨p, 0, none⟩) lc kc (ls.length + 1) cs.length (tL (x :: ls)) cs w (W.drew.setCell ⟨g, 3, none⟩ (.int .i64 (bits BinOp.xor IntKind.i64 x.k 1)))) :=
        ⟨HS.out.1.drew.setCell (p := ⟨g, 3, none⟩) hg1 _, HS.out.2.1.drew.set_other g 3 _ (by omega), Lt.setLoop (HS.out.2.2.1.below (bRefl W).drew) _, fun k C hk => (HS.out.2.2.2 k C hk).drew.set_other g 3 _ (fun e => (HS.out.2.2.1.lp.blk rfl).2.elim fun Cg hg => blk_ne (HS.out.2.2.2 k C hk) hg (by decide) e)⟩
      clear cv f3 e3 c0 HS
      go_wp2
      go_meet
      exact hS2
  case rest =>
  have HC := hcut
  clear hcut HS c0
  go_wp2
  go_loopw [2] (fun t wr => ∃ i : Nat, i ≤ cs.length + 1 ∧ i % 2 = 0 ∧ t = .int .i64 (i : Int) ∧ Hid (Tn B q (some ⟨g, 0, none⟩) (some ⟨p, 0, none⟩) lc kc ls.length cs.length (tL ls) (tC i cs) w wr)) (fun t _ => cs.length + 1 - (intOf t).toNat)
  case atStart => exact ⟨0, by omega, rfl, rfl, by rw [tC_zero]; exact HC.out⟩
  case round =>
    obtain ⟨i, hi, hi2, rfl, hq⟩ := hrel
    obtain ⟨V, rfl⟩ : ∃ x : World, x = wr := ⟨_, rfl⟩
    clear HC
    have d1 := hq.out.2.1.cell 1
    simp only [List.getElem?_toArray, List.getElem?_cons_zero, List.getElem?_cons_succ] at d1
    by_cases hlt : i < cs.length
    · have hlt' : (i : Int) < (cs.length : Int) := by omega
      obtain ⟨⟨x, s⟩, hx⟩ : ∃ x, cs[i]? = some x := ⟨_, List.getElem?_eq_getElem hlt⟩
      have nx := HN.out.n3 x (List.mem_map.2 ⟨_, List.mem_of_getElem? hx, rfl⟩)
      have hx2 := tC_at hx
      have hat := OwR.at hq.out.2.2.1.cl (k := i) (x := (x, s)) (by rw [List.getElem?_append_left (by rw [tC_len]; exact hlt)]; exact hx2)
      have e10 : V.cell? ⟨p, i * 128 + 10, none⟩ = some (.int .i64 (x.f 3).k) := at_cell hat (by rw [Array.getElem?_toList]; exact (bx_succ _ _ _ (by omega : 9 < 126)).trans (gc_get x.f (by omega : 3 < 42)).1)
      have f10 : V.frozen? ⟨p, i * 128 + 10, none⟩ = false := OwR.frozen hq.out.2.2.1.cl _
      have HX := Lib.hid (And.intro hx hx2)
      have HQ := Lib.hid hq.out
      clear hx hx2 hat hq
      go_upto_region 6 with (fail)
      have cv : V.drew.cell? ⟨q, 1, none⟩ = some (.slice (some ⟨p, 0, none⟩) cs.length kc) ∧ V.drew.cell? ⟨p, i * 128 + 10, none⟩ = some (.int .i64 (x.f 3).k) := ⟨d1, e10⟩
      have f11 : V.drew.frozen? ⟨p, i * 128 + 10, none⟩ = false := f10
      refine wp_region_last 16 (fun w' => w'.cell? ⟨q, 1, none⟩ = some (.slice (some ⟨p, 0, none⟩) cs.length kc) ∧ w'.cell? ⟨p, i * 128 + 10, none⟩ = some (.int .i64 (x.f 3).k)) mix ?_
      refine wpAnyL_take (i := 0) (v := .pointer (some ⟨q, 1, none⟩)) rfl (by kernel_rfl) (by kernel_rfl) (by kernel_rfl) (fun _ _ _ h => h) rfl (by kernel_rfl) (Or.inl ⟨by rfl, fun w' hw' => by (try go_split_ands); go_simp⟩) cv ?_
      simp only [Act.put, List.getElem_toArray, List.getElem_cons_zero, List.setIfInBounds_toArray, List.set_cons_zero, List.set_cons_succ]
      refine wpAnyL_take (i := 1) (v := .slice (some ⟨p, 0, none⟩) cs.length kc) rfl (by kernel_rfl) (by kernel_rfl) (by kernel_rfl) (fun _ _ _ h => h) rfl (by kernel_rfl) (Or.inl ⟨by rfl, fun w' hw' => by (try go_split_ands); go_simp⟩) cv ?_
      simp only [Act.put, List.getElem_toArray, List.getElem_cons_zero, List.getElem_cons_succ, List.setIfInBounds_toArray, List.set_cons_zero, List.set_cons_succ]
      refine wpAnyL_take (i := 2) (v := .int .i64 (i : Int)) rfl (by kernel_rfl) (by kernel_rfl) (by kernel_rfl) (fun _ _ _ h => h) rfl (by kernel_rfl) (Or.inl ⟨by rfl, fun w' hw' => by (try go_split_ands); go_simp⟩) cv ?_
      simp only [Act.put, List.getElem_toArray, List.getElem_cons_zero, List.getElem_cons_succ, List.setIfInBounds_toArray, List.set_cons_zero, List.set_cons_succ]
      refine wpAnyL_take (i := 3) (v := .pointer (some ⟨q, 1, none⟩)) rfl (by kernel_rfl) (by kernel_rfl) (by kernel_rfl) (fun _ _ _ h => h) rfl (by kernel_rfl) (Or.inl ⟨by rfl, fun w' hw' => by (try go_split_ands); go_simp⟩) cv ?_
      simp only [Act.put, List.getElem_toArray, List.getElem_cons_zero, List.getElem_cons_succ, List.setIfInBounds_toArray, List.set_cons_zero, List.set_cons_succ]
      refine wpAnyL_take (i := 4) (v := .slice (some ⟨p, 0, none⟩) cs.length kc) rfl (by kernel_rfl) (by kernel_rfl) (by kernel_rfl) (fun _ _ _ h => h) rfl (by kernel_rfl) (Or.inl ⟨by rfl, fun w' hw' => by (try go_split_ands); go_simp⟩) cv ?_
      simp only [Act.put, List.getElem_toArray, List.getElem_cons_zero, List.getElem_cons_succ, List.setIfInBounds_toArray, List.set_cons_zero, List.set_cons_succ]
      refine wpAnyL_take (i := 5) (v := .int .i64 (i : Int)) rfl (by kernel_rfl) (by kernel_rfl) (by kernel_rfl) (fun _ _ _ h => h) rfl (by kernel_rfl) (Or.inl ⟨by rfl, fun w' hw' => by (try go_split_ands); go_simp⟩) cv ?_
      simp only [Act.put, List.getElem_toArray, List.getElem_cons_zero, List.getElem_cons_succ, List.setIfInBounds_toArray, List.set_cons_zero, List.set_cons_succ]
      refine wpAnyL_take (i := 6) (v := .pointer (some ⟨p, i * 128, none⟩)) rfl (by kernel_rfl) (by kernel_rfl) (by kernel_rfl) (fun _ _ _ h => h) rfl (by kernel_rfl) (Or.inl ⟨by rfl, fun w' hw' => by (try go_split_ands); go_simp⟩) cv ?_
      simp only [Act.put, List.getElem_toArray, List.getElem_cons_zero, List.getElem_cons_succ, List.setIfInBounds_toArray, List.set_cons_zero, List.set_cons_succ]
      refine wpAnyL_take (i := 7) (v := .pointer (some ⟨p, i * 128 + 1, none⟩)) rfl (by kernel_rfl) (by kernel_rfl) (by kernel_rfl) (fun _ _ _ h => h) rfl (by kernel_rfl) (Or.inl ⟨by rfl, fun w' hw' => by (try go_split_ands); go_simp⟩) cv ?_
      simp only [Act.put, List.getElem_toArray, List.getElem_cons_zero, List.getElem_cons_succ, List.setIfInBounds_toArray, List.set_cons_zero, List.set_cons_succ]
      refine wpAnyL_take (i := 8) (v := .pointer (some ⟨p, i * 128 + 10, none⟩)) rfl (by kernel_rfl) (by kernel_rfl) (by kernel_rfl) (fun _ _ _ h => h) rfl (by kernel_rfl) (Or.inl ⟨by rfl, fun w' hw' => by (try go_split_ands); go_simp⟩) cv ?_
      simp only [Act.put, List.getElem_toArray, List.getElem_cons_zero, List.getElem_cons_succ, List.setIfInBounds_toArray, List.set_cons_zero, List.set_cons_succ]
      refine wpAnyL_take (i := 9) (v := .pointer (some ⟨p, i * 128 + 10, none⟩)) rfl (by kernel_rfl) (by kernel_rfl) (by kernel_rfl) (fun _ _ _ h => h) rfl (by kernel_rfl) (Or.inl ⟨by rfl, fun w' hw' => by (try go_split_ands); go_simp⟩) cv ?_
      simp only [Act.put, List.getElem_toArray, List.getElem_cons_zero, List.getElem_cons_succ, List.setIfInBounds_toArray, List.set_cons_zero, List.set_cons_succ]
      refine wpAnyL_take (i := 10) (v := .int .i64 (x.f 3).k) rfl (by kernel_rfl) (by kernel_rfl) (by kernel_rfl) (fun _ _ _ h => h) rfl (by kernel_rfl) (Or.inl ⟨by rfl, fun w' hw' => by (try go_split_ands); go_simp⟩) cv ?_
      simp only [Act.put, List.getElem_toArray, List.getElem_cons_zero, List.getElem_cons_succ, List.setIfInBounds_toArray, List.set_cons_zero, List.set_cons_succ]
      refine wpAnyL_take (i := 11) (v := .int .i64 (bits BinOp.xor IntKind.i64 (x.f 3).k 1)) rfl (by kernel_rfl) (by kernel_rfl) (by kernel_rfl) (fun _ _ _ h => h) rfl (by kernel_rfl) (Or.inl ⟨by rfl, fun w' hw' => by (try go_split_ands); go_simp⟩) cv ?_
      simp only [Act.put, List.getElem_toArray, List.getElem_cons_zero, List.getElem_cons_succ, List.setIfInBounds_toArray, List.set_cons_zero, List.set_cons_succ]
      refine wpAnyL_one (i := 12) (by kernel_rfl) rfl (fun K hK => ?_)
      go_simp
      refine hK.out _ _ (fun _ => cv) ?_
      clear hK K
      refine wpAnyL_one (i := 13) (by kernel_rfl) rfl (fun K hK => ?_)
      go_simp
      refine hK.out _ _ (fun _ => cv) ?_
      clear hK K
      refine wpAnyL_one (i := 14) (by kernel_rfl) rfl (fun K hK => ?_)
      go_simp
      refine hK.out _ _ (fun _ => cv) ?_
      clear hK K
      refine wpAnyL_one (i := 15) (by kernel_rfl) rfl (fun K hK => ?_)
      go_simp
      refine hK.out _ _ (fun _ => cv) ?_
      clear hK K
      refine wpAnyL_one (i := 16) (by kernel_rfl) rfl (fun K hK => ?_)
      go_simp
      refine hK.out _ _ (fun h => absurd rfl h) ?_
      clear hK K
      refine wpAnyL_done (by kernel_rfl) ?_ _
      generalize hV1 : (V.setCell ⟨p, i * 128 + 10, none⟩ (.int .i64 (bits BinOp.xor IntKind.i64 (x.f 3).k 1))).drew = V1
      have hb1 : Below B w V1 := by rw [← hV1]; exact (HQ.out.1.setCell (p := ⟨p, _, none⟩) hp1 _).drew
      have hq1 : Blk V1 q 26 #[.slice (some ⟨g, 0, none⟩) ls.length lc, .slice (some ⟨p, 0, none⟩) cs.length kc] := by rw [← hV1]; exact (HQ.out.2.1.set_other p _ _ (by omega)).drew
      have hl1 : Lt B V1 (some ⟨g, 0, none⟩) lc (some ⟨p, 0, none⟩) kc (tL ls) ((tC i cs).set i (⟨x.d, tK x.f (xr (x.f 3).k), x.l⟩, s)) := by rw [← hV1]; exact (Lt.setTag HQ.out.2.2.1 HX.out.2 _).below (bRefl _).drew
      have hk1 : ∀ k C, Blk w k 26 C → Blk V1 k 26 C := fun k C hk => by
        rw [← hV1]
        exact ((HQ.out.2.2.2 k C hk).set_other p _ _ (fun e => (HQ.out.2.2.1.cl.blk rfl).2.elim fun Cg hg => blk_ne (HQ.out.2.2.2 k C hk) hg (by decide) e)).drew
      have HK1 := Lib.hid hk1
      clear hV1 hk1
      have hi3 : i < (tC i cs).length := by rw [tC_len]; exact hlt
      have hx3 : ((tC i cs).set i (⟨x.d, tK x.f (xr (x.f 3).k), x.l⟩, s))[i]? = some (⟨x.d, tK x.f (xr (x.f 3).k), x.l⟩, s) := by rw [List.getElem?_set, if_pos rfl, if_pos hi3]
      have hm3 := List.mem_of_getElem? hx3
      obtain ⟨b, eb, hb2, hb3, j1, j2⟩ := hl1.cc.form hm3
      obtain ⟨en, ho⟩ := hl1.cc.co _ hm3
      simp only at eb en ho j1 j2
      unfold maxLen at j2
      have hat := OwR.at hl1.cl (k := i) (by rw [List.getElem?_append_left (by rw [List.length_set]; exact hi3)]; exact hx3)
      have e127 : V1.cell? ⟨p, i * 128 + 127, none⟩ = some (.slice (some ⟨b, 0, none⟩) x.l.length s.c) := at_cell hat (by rw [Array.getElem?_toList]; refine (bx_last _ _ _).trans ?_; show some (Value.slice s.a s.n s.c) = _; rw [eb, en])
      have d1' := hq1.cell 1
      simp only [List.getElem?_toArray, List.getElem?_cons_zero, List.getElem?_cons_succ] at d1'
      have HB1 := Lib.hid hb1
      have HQ1 := Lib.hid hq1
      have HL1 := Lib.hid hl1
      have HX3 := Lib.hid (And.intro hx3 eb)
      have hbq : b ≠ q := fun e => by
        rw [eb] at ho
        obtain ⟨_, Cb, hcb⟩ := ho.blk rfl
        exact blk_ne hcb hq1 (by decide) e
      have HO := Lib.hid ho
      clear cv e10 f10 f11 HQ d1 hb1 hq1 hl1 hx3 hm3 hat ho
      by_cases h0 : x.l.length = 0
      · have htb : tB x.l = x.l := by rw [List.eq_nil_of_length_eq_zero h0]; rfl
        have HS2 := Lib.hid (show Tn B q (some ⟨g, 0, none⟩) (some ⟨p, 0, none⟩) lc kc ls.length cs.length (tL ls) (tC (i + 2) cs) w V1 by
          refine ⟨HB1.out, HQ1.out, ?_, HK1.out⟩
          rw [← tC_step HX.out.1 hi2]
          have e : tX x = ⟨x.d, tK x.f (xr (x.f 3).k), x.l⟩ := by unfold tX; rw [htb]
          rw [e]
          exact HL1.out)
        clear htb HX HL1 HQ1 HB1 HX3 HO
        go_wp2
        go_roundw
        all_goals first
          | exact ⟨i + 2, by omega, by omega, by go_num, HS2.out⟩
          | ((repeat apply Exists.intro); exact ⟨⟨i + 2, by omega, by omega, by go_num, HS2.out⟩, rfl⟩)
          | (simp [intOf] <;> omega)
      · obtain ⟨m, hm⟩ : ∃ m, x.l.length = m + 1 := ⟨x.l.length - 1, by omega⟩
        obtain ⟨y, hy⟩ : ∃ y, x.l[m]? = some y := ⟨_, List.getElem?_eq_getElem (by omega)⟩
        have ho := HO.out
        rw [eb] at ho
        have e2 : V1.cell? ⟨b, m * 3 + 2, none⟩ = some (.int .i64 y.c) := at_cell (j := 2) (OwR.at ho (k := m) (by rw [List.getElem?_append_left (by omega)]; exact hy)) rfl
        have f2 : V1.frozen? ⟨b, m * 3 + 2, none⟩ = false := OwR.frozen ho _
        have hpos : (0 : Int) < (x.l.length : Int) := by omega
        have hsub : (x.l.length : Int) - 1 = (m : Int) := by omega
        have hml : (m : Int) < (x.l.length : Int) := by omega
        have hwm : IntKind.i64.wrap (m : Int) = (m : Int) := IntWalk.i64_in _ (by omega)
        have hml2 : m < x.l.length := by omega
        have HM := Lib.hid (And.intro hm hy)
        clear ho hm hy h0
        go_upto_region 9 with (fail)
        have cv : V1.drew.cell? ⟨q, 1, none⟩ = some (.slice (some ⟨p, 0, none⟩) cs.length kc) ∧ V1.drew.cell? ⟨p, i * 128 + 127, none⟩ = some (.slice (some ⟨b, 0, none⟩) x.l.length s.c) ∧ V1.drew.cell? ⟨b, m * 3 + 2, none⟩ = some (.int .i64 y.c) := ⟨d1', e127, e2⟩
        have f3 : V1.drew.frozen? ⟨b, m * 3 + 2, none⟩ = false := f2
        refine wp_region_last 22 (fun w' => w'.cell? ⟨q, 1, none⟩ = some (.slice (some ⟨p, 0, none⟩) cs.length kc) ∧ w'.cell? ⟨p, i * 128 + 127, none⟩ = some (.slice (some ⟨b, 0, none⟩) x.l.length s.c) ∧ w'.cell? ⟨b, m * 3 + 2, none⟩ = some (.int .i64 y.c)) mix ?_
        refine wpAnyL_take (i := 0) (v := .pointer (some ⟨q, 1, none⟩)) rfl (by kernel_rfl) (by kernel_rfl) (by kernel_rfl) (fun _ _ _ h => h) rfl (by kernel_rfl) (Or.inl ⟨by rfl, fun w' hw' => by (try go_split_ands); go_simp⟩) cv ?_
        simp only [Act.put, List.getElem_toArray, List.getElem_cons_zero, List.setIfInBounds_toArray, List.set_cons_zero, List.set_cons_succ]
        refine wpAnyL_take (i := 1) (v := .slice (some ⟨p, 0, none⟩) cs.length kc) rfl (by kernel_rfl) (by kernel_rfl) (by kernel_rfl) (fun _ _ _ h => h) rfl (by kernel_rfl) (Or.inl ⟨by rfl, fun w' hw' => by (try go_split_ands); go_simp⟩) cv ?_
        simp only [Act.put, List.getElem_toArray, List.getElem_cons_zero, List.getElem_cons_succ, List.setIfInBounds_toArray, List.set_cons_zero, List.set_cons_succ]
        refine wpAnyL_take (i := 2) (v := .int .i64 (i : Int)) rfl (by kernel_rfl) (by kernel_rfl) (by kernel_rfl) (fun _ _ _ h => h) rfl (by kernel_rfl) (Or.inl ⟨by rfl, fun w' hw' => by (try go_split_ands); go_simp⟩) cv ?_
        simp only [Act.put, List.getElem_toArray, List.getElem_cons_zero, List.getElem_cons_succ, List.setIfInBounds_toArray, List.set_cons_zero, List.set_cons_succ]
        refine wpAnyL_take (i := 3) (v := .pointer (some ⟨p, i * 128, none⟩)) rfl (by kernel_rfl) (by kernel_rfl) (by kernel_rfl) (fun _ _ _ h => h) rfl (by kernel_rfl) (Or.inl ⟨by rfl, fun w' hw' => by (try go_split_ands); go_simp⟩) cv ?_
        simp only [Act.put, List.getElem_toArray, List.getElem_cons_zero, List.getElem_cons_succ, List.setIfInBounds_toArray, List.set_cons_zero, List.set_cons_succ]
        refine wpAnyL_take (i := 4) (v := .pointer (some ⟨p, i * 128 + 127, none⟩)) rfl (by kernel_rfl) (by kernel_rfl) (by kernel_rfl) (fun _ _ _ h => h) rfl (by kernel_rfl) (Or.inl ⟨by rfl, fun w' hw' => by (try go_split_ands); go_simp⟩) cv ?_
        simp only [Act.put, List.getElem_toArray, List.getElem_cons_zero, List.getElem_cons_succ, List.setIfInBounds_toArray, List.set_cons_zero, List.set_cons_succ]
        refine wpAnyL_take (i := 5) (v := .slice (some ⟨b, 0, none⟩) x.l.length s.c) rfl (by kernel_rfl) (by kernel_rfl) (by kernel_rfl) (fun _ _ _ h => h) rfl (by kernel_rfl) (Or.inl ⟨by rfl, fun w' hw' => by (try go_split_ands); go_simp⟩) cv ?_
        simp only [Act.put, List.getElem_toArray, List.getElem_cons_zero, List.getElem_cons_succ, List.setIfInBounds_toArray, List.set_cons_zero, List.set_cons_succ]
        refine wpAnyL_take (i := 6) (v := .int .i64 (x.l.length : Int)) rfl (by kernel_rfl) (by kernel_rfl) (by kernel_rfl) (fun _ _ _ h => h) rfl (by kernel_rfl) (Or.inl ⟨by rfl, fun w' hw' => by (try go_split_ands); go_simp⟩) cv ?_
        simp only [Act.put, List.getElem_toArray, List.getElem_cons_zero, List.getElem_cons_succ, List.setIfInBounds_toArray, List.set_cons_zero, List.set_cons_succ]
        refine wpAnyL_take (i := 7) (v := .int .i64 (m : Int)) rfl (by kernel_rfl) (by kernel_rfl) (by kernel_rfl) (fun _ _ _ h => h) rfl (by kernel_rfl) (Or.inl ⟨by rfl, fun w' hw' => by (try go_split_ands); go_simp⟩) cv ?_
        simp only [Act.put, List.getElem_toArray, List.getElem_cons_zero, List.getElem_cons_succ, List.setIfInBounds_toArray, List.set_cons_zero, List.set_cons_succ]
        refine wpAnyL_take (i := 8) (v := .pointer (some ⟨q, 1, none⟩)) rfl (by kernel_rfl) (by kernel_rfl) (by kernel_rfl) (fun _ _ _ h => h) rfl (by kernel_rfl) (Or.inl ⟨by rfl, fun w' hw' => by (try go_split_ands); go_simp⟩) cv ?_
        simp only [Act.put, List.getElem_toArray, List.getElem_cons_zero, List.getElem_cons_succ, List.setIfInBounds_toArray, List.set_cons_zero, List.set_cons_succ]
        refine wpAnyL_take (i := 9) (v := .slice (some ⟨p, 0, none⟩) cs.length kc) rfl (by kernel_rfl) (by kernel_rfl) (by kernel_rfl) (fun _ _ _ h => h) rfl (by kernel_rfl) (Or.inl ⟨by rfl, fun w' hw' => by (try go_split_ands); go_simp⟩) cv ?_
        simp only [Act.put, List.getElem_toArray, List.getElem_cons_zero, List.getElem_cons_succ, List.setIfInBounds_toArray, List.set_cons_zero, List.set_cons_succ]
        refine wpAnyL_take (i := 10) (v := .int .i64 (i : Int)) rfl (by kernel_rfl) (by kernel_rfl) (by kernel_rfl) (fun _ _ _ h => h) rfl (by kernel_rfl) (Or.inl ⟨by rfl, fun w' hw' => by (try go_split_ands); go_simp⟩) cv ?_
        simp only [Act.put, List.getElem_toArray, List.getElem_cons_zero, List.getElem_cons_succ, List.setIfInBounds_toArray, List.set_cons_zero, List.set_cons_succ]
        refine wpAnyL_take (i := 11) (v := .pointer (some ⟨p, i * 128, none⟩)) rfl (by kernel_rfl) (by kernel_rfl) (by kernel_rfl) (fun _ _ _ h => h) rfl (by kernel_rfl) (Or.inl ⟨by rfl, fun w' hw' => by (try go_split_ands); go_simp⟩) cv ?_
        simp only [Act.put, List.getElem_toArray, List.getElem_cons_zero, List.getElem_cons_succ, List.setIfInBounds_toArray, List.set_cons_zero, List.set_cons_succ]
        refine wpAnyL_take (i := 12) (v := .pointer (some ⟨p, i * 128 + 127, none⟩)) rfl (by kernel_rfl) (by kernel_rfl) (by kernel_rfl) (fun _ _ _ h => h) rfl (by kernel_rfl) (Or.inl ⟨by rfl, fun w' hw' => by (try go_split_ands); go_simp⟩) cv ?_
        simp only [Act.put, List.getElem_toArray, List.getElem_cons_zero, List.getElem_cons_succ, List.setIfInBounds_toArray, List.set_cons_zero, List.set_cons_succ]
        refine wpAnyL_take (i := 13) (v := .slice (some ⟨b, 0, none⟩) x.l.length s.c) rfl (by kernel_rfl) (by kernel_rfl) (by kernel_rfl) (fun _ _ _ h => h) rfl (by kernel_rfl) (Or.inl ⟨by rfl, fun w' hw' => by (try go_split_ands); go_simp⟩) cv ?_
        simp only [Act.put, List.getElem_toArray, List.getElem_cons_zero, List.getElem_cons_succ, List.setIfInBounds_toArray, List.set_cons_zero, List.set_cons_succ]
        refine wpAnyL_take (i := 14) (v := .int .i64 (x.l.length : Int)) rfl (by kernel_rfl) (by kernel_rfl) (by kernel_rfl) (fun _ _ _ h => h) rfl (by kernel_rfl) (Or.inl ⟨by rfl, fun w' hw' => by (try go_split_ands); go_simp⟩) cv ?_
        simp only [Act.put, List.getElem_toArray, List.getElem_cons_zero, List.getElem_cons_succ, List.setIfInBounds_toArray, List.set_cons_zero, List.set_cons_succ]
        refine wpAnyL_take (i := 15) (v := .int .i64 (m : Int)) rfl (by kernel_rfl) (by kernel_rfl) (by kernel_rfl) (fun _ _ _ h => h) rfl (by kernel_rfl) (Or.inl ⟨by rfl, fun w' hw' => by (try go_split_ands); go_simp⟩) cv ?_
        simp only [Act.put, List.getElem_toArray, List.getElem_cons_zero, List.getElem_cons_succ, List.setIfInBounds_toArray, List.set_cons_zero, List.set_cons_succ]
        refine wpAnyL_take (i := 16) (v := .pointer (some ⟨b, m * 3, none⟩)) rfl (by kernel_rfl) (by kernel_rfl) (by kernel_rfl) (fun _ _ _ h => h) rfl (by kernel_rfl) (Or.inl ⟨by rfl, fun w' hw' => by (try go_split_ands); go_simp⟩) cv ?_
        simp only [Act.put, List.getElem_toArray, List.getElem_cons_zero, List.getElem_cons_succ, List.setIfInBounds_toArray, List.set_cons_zero, List.set_cons_succ]
        refine wpAnyL_take (i := 17) (v := .pointer (some ⟨b, m * 3 + 2, none⟩)) rfl (by kernel_rfl) (by kernel_rfl) (by kernel_rfl) (fun _ _ _ h => h) rfl (by kernel_rfl) (Or.inl ⟨by rfl, fun w' hw' => by (try go_split_ands); go_simp⟩) cv ?_
        simp only [Act.put, List.getElem_toArray, List.getElem_cons_zero, List.getElem_cons_succ, List.setIfInBounds_toArray, List.set_cons_zero, List.set_cons_succ]
        refine wpAnyL_take (i := 18) (v := .int .i64 y.c) rfl (by kernel_rfl) (by kernel_rfl) (by kernel_rfl) (fun _ _ _ h => h) rfl (by kernel_rfl) (Or.inl ⟨by rfl, fun w' hw' => by (try go_split_ands); go_simp⟩) cv ?_
        simp only [Act.put, List.getElem_toArray, List.getElem_cons_zero, List.getElem_cons_succ, List.setIfInBounds_toArray, List.set_cons_zero, List.set_cons_succ]
        refine wpAnyL_take (i := 19) (v := .int .i64 (bits BinOp.xor IntKind.i64 y.c 1)) rfl (by kernel_rfl) (by kernel_rfl) (by kernel_rfl) (fun _ _ _ h => h) rfl (by kernel_rfl) (Or.inl ⟨by rfl, fun w' hw' => by (try go_split_ands); go_simp⟩) cv ?_
        simp only [Act.put, List.getElem_toArray, List.getElem_cons_zero, List.getElem_cons_succ, List.setIfInBounds_toArray, List.set_cons_zero, List.set_cons_succ]
        refine wpAnyL_one (i := 20) (by kernel_rfl) rfl (fun K hK => ?_)
        go_simp
        refine hK.out _ _ (fun _ => cv) ?_
        clear hK K
        refine wpAnyL_one (i := 21) (by kernel_rfl) rfl (fun K hK => ?_)
        go_simp
        refine hK.out _ _ (fun _ => cv) ?_
        clear hK K
        refine wpAnyL_one (i := 22) (by kernel_rfl) rfl (fun K hK => ?_)
        go_simp
        refine hK.out _ _ (fun h => absurd rfl h) ?_
        clear hK K
        refine wpAnyL_done (by kernel_rfl) ?_ _
        have HS2 := Lib.hid (show Tn B q (some ⟨g, 0, none⟩) (some ⟨p, 0, none⟩) lc kc ls.length cs.length (tL ls) (tC (i + 2) cs) w (V1.setCell ⟨b, m * 3 + 2, none⟩ (.int .i64 (bits BinOp.xor IntKind.i64 y.c 1))).drew by
          have ho2 := HO.out
          rw [eb] at ho2
          refine ⟨(HB1.out.setCell (p := ⟨b, _, none⟩) hb2 _).drew, (HQ1.out.set_other b _ _ (Ne.symm hbq)).drew, ?_, fun k C hk => ((HK1.out k C hk).set_other b _ _ (fun e => (ho2.blk rfl).2.elim fun Cg hg => blk_ne (HK1.out k C hk) hg (by decide) e)).drew⟩
          have := (Lt.setCon HL1.out HX3.out.1 HM.out.2 HX3.out.2 (bits BinOp.xor IntKind.i64 y.c 1)).below (bRefl _).drew
          rw [List.set_set] at this
          rw [← tC_step HX.out.1 hi2]
          have e : tX x = ⟨x.d, tK x.f (xr (x.f 3).k), x.l.set m ⟨y.i, y.j, xr y.c⟩⟩ := by
            unfold tX tB
            rw [HM.out.1, Nat.add_sub_cancel, HM.out.2]
          rw [e]
          exact this)
        clear cv f3 e2 f2 HX HL1 HQ1 HB1 HX3 HO HM
        go_wp2
        go_roundw
        all_goals first
          | exact ⟨i + 2, by omega, by omega, by go_num, HS2.out⟩
          | ((repeat apply Exists.intro); exact ⟨⟨i + 2, by omega, by omega, by go_num, HS2.out⟩, rfl⟩)
          | (simp [intOf] <;> omega)
    · have hlt' : ¬ (i : Int) < (cs.length : Int) := by omega
      have HL := Lib.hid (show Below B w V ∧ Lt B V (some ⟨g, 0, none⟩) lc (some ⟨p, 0, none⟩) kc (tL ls) (tC cs.length cs) ∧ ∀ k C, Blk w k 26 C → Blk V k 26 C by
        refine ⟨hq.out.1, ?_, hq.out.2.2.2⟩
        rw [← tC_end (i := i) (by omega)]
        exact hq.out.2.2.1)
      clear hq
      go_wp2
      go_end0
      exact ⟨rfl, HL.out.1, HL.out.2⟩
theorem tL_len (ls : List Lp) : (tL ls).length = ls.length := by cases ls <;> rfl
/-- What was turned is a deed to be read, in its old place. -/
theorem turned_sl {B : Nat} {w : World} {la ka : Option Addr} {lc kc : Nat} {ls : List Lp} {cs : List (Cl × Sn)} (h : Lt B w la lc ka kc (tL ls) (tC cs.length cs)) (hn : Sml ⟨ls, cs.map (·.1)⟩) :
    ∃ d, SlD w.heap.size w (.slice la ls.length lc) (.slice ka cs.length kc) d ∧ Sml d := by
  have hs : Sml ⟨tL ls, (tC cs.length cs).map (·.1)⟩ := by
    refine ⟨by rw [tL_len]; exact hn.n1, ?_, fun c hc => ?_⟩
    · have := hn.n2
      simp only [List.length_map] at this ⊢
      rw [tC_len]
      exact this
    · simp only [List.mem_map] at hc
      obtain ⟨y, hy, rfl⟩ := hc
      obtain ⟨i, hi⟩ := List.mem_iff_getElem?.1 hy
      rw [tC_get] at hi
      cases hx : cs[i]? with
      | none => rw [hx] at hi; cases hi
      | some x =>
        have hx' := hn.n3 x.1 (List.mem_map.2 ⟨_, List.mem_of_getElem? hx, rfl⟩)
        rw [hx, Option.map_some] at hi
        injection hi with hi
        rw [← hi]
        split
        · show (tB x.1.l).length ≤ _
          rw [tB_len]
          exact hx'
        · exact hx'
  have := h.sl hs
  rw [tL_len, tC_len] at this
  exact ⟨_, this, hs⟩
end Go.Proofs.Ytfdjdpbiccclfaa
