/- Decode of deed: the deed, or the first fault and its place. -/
import Derived.Test.YtfdjdpbiccclfaaDRe
import Derived.Recover
import Derived.Defers
import Derived.Deep.RegionHeld3
namespace Go.Proofs.Ytfdjdpbiccclfaa
open Go Go.RowKit Go.Wr
set_option maxHeartbeats 4000000
set_option maxRecDepth 100000

theorem catch_idle (w : World) (p q r : Value) :
    CallsD Try.prog 38 #[p, q, r] .returning w fun e u' w' => e = .returned (.tuple #[]) ∧ u' = .returning ∧ w' = w := by
  refine callsD_of_wpS Try.func38 rfl fun c₀ cs hu => ?_
  apply wpS_seq
  apply wpS_region
  simp [wpOpsS, go_sem, recoverD, hu, Try.ntmps38, Exit.thenS]
  refine wpS_of_wp ?_
  go_wp2
  cases c₀
  simp_all [bodyPostS, results, Try.results38]

theorem run_ta (T : TypeId) (v : Value) (w : World) : (Instr.typeAssert (.iface 86 v) T 86 true).run Try.prog w = .ok (.tuple #[v, .bool true]) w := by
  unfold Instr.typeAssert
  simp [run_underlying Try.underlying86, Sem.run_pure]
theorem catch_stop (w : World) (p q r : Nat) (a : Nat) (er : Int) (older : List PanicEntry) {vl vc x y : Value} (hp : Blk w p 26 #[vl, vc]) (hq : Blk w q 3 #[x]) (hr : Blk w r 29 #[y]) :
    CallsD Try.prog 38 #[.pointer (some ⟨p, 0, none⟩), .pointer (some ⟨q, 0, none⟩), .pointer (some ⟨r, 0, none⟩)] (.panicking (stopV a er :: older)) w fun e u' w' =>
      e = .returned (.tuple #[]) ∧ u' = .panicking ({ stopV a er with recovered := true } :: older) ∧
      w' = (((((w.alloc (.cells #[.int .i64 (a : Int), .int .i64 er] 86)).setCell ⟨p, 0, none⟩ (.slice none 0 0)).setCell ⟨p, 1, none⟩ (.slice none 0 0)).setCell ⟨q, 0, none⟩ (.int .i64 (a : Int))).setCell ⟨r, 0, none⟩ (.int .i64 er)).drew := by
  have p0 := hp.cell 0
  have p1 := hp.cell 1
  have q0 := hq.cell 0
  have r0 := hr.cell 0
  have g0 := hp.frozen 0
  have g1 := hp.frozen 1
  have g2 := hq.frozen 0
  have g3 := hr.frozen 0
  have hpl := hp.lt
  have hql := hq.lt
  have hrl := hr.lt
  have npq := blk_ne hp hq (by decide)
  have npr := blk_ne hp hr (by decide)
  have nqr := blk_ne hq hr (by decide)
  simp only [List.getElem?_toArray, List.getElem?_cons_zero, List.getElem?_cons_succ] at p0 p1 q0 r0
  unfold stopV
  refine callsD_of_wpS Try.func38 rfl fun c₀ cs hu => ?_
  apply wpS_seq
  apply wpS_region
  simp [wpOpsS, go_sem, recoverD, hu, Try.ntmps38, Exit.thenS]
  refine wpS_of_wp ?_
  have kt := run_ta
  change Code.wp Try.prog _ _ { tmps := #[.pointer (some ⟨p, 0, none⟩), .pointer (some ⟨q, 0, none⟩), .pointer (some ⟨r, 0, none⟩), undef, undef, undef, .iface 86 (.agg #[.int .i64 (a : Int), .int .i64 er]), undef, undef, undef, undef, undef, undef, undef, undef, undef, undef], defers := [] } w
  go_upto_region 7 with (fail)
  generalize hV : w.alloc (.cells #[.int .i64 (a : Int), .int .i64 er] 86) = V
  obtain ⟨s, hs⟩ : ∃ s, s = w.heap.size := ⟨_, rfl⟩
  rw [← hs]
  have hS : Blk V s 86 #[.int .i64 (a : Int), .int .i64 er] := by rw [← hV, hs]; exact Blk.new _ _ _
  have hP : Blk V p 26 #[vl, vc] := by rw [← hV]; exact hp.alloc _
  have hQ : Blk V q 3 #[x] := by rw [← hV]; exact hq.alloc _
  have hR : Blk V r 29 #[y] := by rw [← hV]; exact hr.alloc _
  have p0 := hP.cell 0
  have p1 := hP.cell 1
  have q0 := hQ.cell 0
  have r0 := hR.cell 0
  have s0 := hS.cell 0
  have s1 := hS.cell 1
  have g0 := hP.frozen 0
  have g1 := hP.frozen 1
  have g2 := hQ.frozen 0
  have g3 := hR.frozen 0
  simp only [List.getElem?_toArray, List.getElem?_cons_zero, List.getElem?_cons_succ] at p0 p1 q0 r0 s0 s1
  have nps := blk_ne hP hS (by decide)
  have nqs := blk_ne hQ hS (by decide)
  have nrs := blk_ne hR hS (by decide)
  have HV := Lib.hid hV
  clear hV hs hp hq hr hP hQ hR hS hpl hql hrl kt
  go_region_held3 (fun w' => w'.cell? ⟨s, 0, none⟩ = some (.int .i64 (a : Int)) ∧ w'.cell? ⟨s, 1, none⟩ = some (.int .i64 er)) (go_keep) (fail)
  go_wp2
  have hV := HV.out
  subst hV
  cases c₀
  simp_all [bodyPostS, results, Try.results38]

/-- What Decode leaves. -/
def DecP (b : List Nat) (w : World) (e : Ending) (w' : World) : Prop :=
  Below w.heap.size w w' ∧ ∃ v, e = .returned (.tuple #[v, .int .i64 ((decD b).2.1 : Int), .int .i64 (decD b).2.2]) ∧ isDd w.heap.size (decD b).1 v w'
theorem isDd_nil (B : Nat) (w : World) : isDd B ⟨[], []⟩ (.agg #[.slice none 0 0, .slice none 0 0]) w := ⟨_, _, [], rfl, rfl, OwD.nil _ _⟩

theorem dec_res (w : World) (tmps : Array Value) (p q r : Nat) (al ac : Option Addr) (nl cl nc cc : Nat) (x y : Int) (h2 : tmps.getD 2 undef = .pointer (some ⟨p, 0, none⟩)) (h3 : tmps.getD 3 undef = .pointer (some ⟨q, 0, none⟩)) (h4 : tmps.getD 4 undef = .pointer (some ⟨r, 0, none⟩))
    (c0 : w.cell? ⟨p, 0, none⟩ = some (.slice al nl cl)) (c1 : w.cell? ⟨p, 1, none⟩ = some (.slice ac nc cc)) (c2 : w.cell? ⟨q, 0, none⟩ = some (.int .i64 x)) (c3 : w.cell? ⟨r, 0, none⟩ = some (.int .i64 y)) :
    (results Try.f20 tmps).run Try.prog w = .ok (.tuple #[.agg #[.slice al nl cl, .slice ac nc cc], .int .i64 x, .int .i64 y]) w := by
  simp only [Array.getD_eq_getD_getElem?] at h2 h3 h4
  simp [results, Try.results20, go_sem, h2, h3, h4, c0, c1, c2, c3]
theorem DecP.mk' {b : List Nat} {w w' : World} {v : Value} {d : Dd} {a : Nat} {e : Int} (hd : decD b = (d, a, e)) (hb : Below w.heap.size w w') (hv : isDd w.heap.size d v w') : DecP b w (.returned (.tuple #[v, .int .i64 (a : Int), .int .i64 e])) w' := by
  refine ⟨hb, v, ?_, ?_⟩
  · rw [hd]
  · rw [hd]; exact hv
theorem decode_long (w : World) (v : Value) (b : List Nat) (h : SlBy w.heap.size w v b) (hl : 4194304 < b.length) : Calls Try.prog 20 #[v] w (DecP b w) := by
  obtain ⟨a0, cap, rfl, hc1, hc2, hcell⟩ := h
  have hd : decD b = (⟨[], []⟩, 0, 2) := by unfold decD; rw [if_pos hl]
  have hl' : (4194304 : Int) < (b.length : Int) := by omega
  have HD := Lib.hid hd
  clear hcell hd
  go_enter_defers Try.func20, Try.ntmps20
  go_wp2
  have hP := ((Blk.new w 26 #[.slice none 0 0, .slice none 0 0]).alloc (.cells #[.int .i64 0] 3)).alloc (.cells #[.int .i64 2] 29)
  have hQ : Blk (((w.alloc (.cells #[.slice none 0 0, .slice none 0 0] 26)).alloc (.cells #[.int .i64 0] 3)).alloc (.cells #[.int .i64 2] 29)) (w.heap.size + 1) 3 #[.int .i64 0] := (Blk.new_at _ _ (by simp)).alloc _
  have hR : Blk (((w.alloc (.cells #[.slice none 0 0, .slice none 0 0] 26)).alloc (.cells #[.int .i64 0] 3)).alloc (.cells #[.int .i64 2] 29)) (w.heap.size + 1 + 1) 29 #[.int .i64 2] := Blk.new_at _ _ (by simp)
  exact ⟨_, dec_res _ _ _ _ _ none none 0 0 0 0 0 2 rfl rfl rfl (hP.cell 0) (hP.cell 1) (hQ.cell 0) (hR.cell 0), DecP.mk' (a := 0) HD.out (bAl (bAl (bAl (bRefl w) _) _) _) (isDd_nil _ _)⟩

theorem decD_ok {b : List Nat} {d : Dd} {a : Nat} (hl : b.length ≤ 4194304) (h : pDeedR b = .ok (d, a)) : decD b = (d, 0, 0) := by
  unfold decD
  rw [if_neg (by omega), pDeed_R, h]
  rfl
theorem decD_err {b : List Nat} {a : Nat} {e : Int} (hl : b.length ≤ 4194304) (h : pDeedR b = .error (a, e)) : decD b = (⟨[], []⟩, a, e) := by
  unfold decD
  rw [if_neg (by omega), pDeed_R, h]
  rfl

theorem decode_short (w : World) (v : Value) (b : List Nat) (h : SlBy w.heap.size w v b) (hl : b.length ≤ 4194304) : Calls Try.prog 20 #[v] w (DecP b w) := by
  have H := Lib.hid h
  obtain ⟨a0, cap, hv, hc1, hc2, hcell⟩ := h
  have hl' : ¬ (4194304 : Int) < (b.length : Int) := by omega
  have hmf : ∀ (fn : Fn) (first cap : Array Value) (w : World), (Instr.makeFunc fn first cap).run Try.prog w = .ok (.func fn first cap) w := fun _ _ _ _ => rfl
  subst hv
  clear hcell
  go_enter_defers Try.func20, Try.ntmps20
  go_upto_region 5 with (fail)
  generalize hW : (((w.alloc (.cells #[.slice none 0 0, .slice none 0 0] 26)).alloc (.cells #[.int .i64 0] 3)).alloc (.cells #[.int .i64 0] 29)).alloc (.cells #[.slice a0 b.length cap, .int .i64 0] 89) = W
  have hP : Blk W w.heap.size 26 #[.slice none 0 0, .slice none 0 0] := by rw [← hW]; exact (((Blk.new _ _ _).alloc _).alloc _).alloc _
  have hQ : Blk W (w.heap.size + 1) 3 #[.int .i64 0] := by rw [← hW]; exact ((Blk.new_at _ _ (by simp)).alloc _).alloc _
  have hR : Blk W (w.heap.size + 1 + 1) 29 #[.int .i64 0] := by rw [← hW]; exact (Blk.new_at _ _ (by simp)).alloc _
  have bW : Below w.heap.size w W := by rw [← hW]; exact bAl (bAl (bAl (bAl (bRefl w) _) _) _) _
  have hD : Rdr w.heap.size (w.heap.size + 1 + 1 + 1) b 0 W (.slice a0 b.length cap) :=
    ⟨by rw [← hW]; exact Blk.new_at _ _ (by simp), H.out.below bW, by omega, by omega, hl⟩
  obtain ⟨z, hz⟩ : ∃ z, z = w.heap.size := ⟨_, rfl⟩
  have hWl := hD.lt
  have HP := Lib.hid hP
  have HQ := Lib.hid hQ
  have HR := Lib.hid hR
  have HB := Lib.hid bW
  have HD := Lib.hid hD
  clear hW hP hQ hR bW hD H hmf
  go_wp2_with fail
  (with_reducible refine (rdeed_ok _ _ _ 0 b _ HD.out).mono ?_)
  rintro e w1 hr
  rcases hr.cases with ⟨y, ye, hb, rfl, hx⟩ | ⟨d, m, v, hb, rfl, hv, hd, hx⟩
  · have hP1 := hx.blk HP.out (by omega)
    have hQ1 := hx.blk HQ.out (by omega)
    have hR1 := hx.blk HR.out (by omega)
    have b1 := HB.out.trans (hx.below (B := w.heap.size) (by omega) HB.out.size)
    have H1 := Lib.hid hP1
    have H2 := Lib.hid hQ1
    have H3 := Lib.hid hR1
    have H4 := Lib.hid b1
    have e1 := Lib.hid (decD_err hl hb)
    clear hr hb hx hP1 hQ1 hR1 b1
    go_wp2
    refine leaves_cons (f := 38) (args := #[.pointer (some ⟨w.heap.size, 0, none⟩), .pointer (some ⟨w.heap.size + 1, 0, none⟩), .pointer (some ⟨w.heap.size + 1 + 1, 0, none⟩)]) (by simp) (by simp [go_sem]) ?_
    refine (catch_stop _ _ _ _ y ye [] H1.out H2.out H3.out).mono ?_
    rintro e u w2 ⟨rfl, rfl, rfl⟩
    have p2 := ((((H1.out.alloc (.cells #[.int .i64 (y : Int), .int .i64 ye] 86)).set 0 (.slice none 0 0)).set 1 (.slice none 0 0)).set_other (w.heap.size + 1) 0 (.int .i64 (y : Int)) (by omega)).set_other (w.heap.size + 1 + 1) 0 (.int .i64 ye) (by omega)
    have q2 := ((((H2.out.alloc (.cells #[.int .i64 (y : Int), .int .i64 ye] 86)).set_other w.heap.size 0 (.slice none 0 0) (by omega)).set_other w.heap.size 1 (.slice none 0 0) (by omega)).set 0 (.int .i64 (y : Int))).set_other (w.heap.size + 1 + 1) 0 (.int .i64 ye) (by omega)
    have r2 := ((((H3.out.alloc (.cells #[.int .i64 (y : Int), .int .i64 ye] 86)).set_other w.heap.size 0 (.slice none 0 0) (by omega)).set_other w.heap.size 1 (.slice none 0 0) (by omega)).set_other (w.heap.size + 1) 0 (.int .i64 (y : Int)) (by omega)).set 0 (.int .i64 ye)
    show ∃ v, _ ∧ _
    refine ⟨_, dec_res _ _ _ _ _ none none 0 0 0 0 (y : Int) ye rfl rfl rfl (p2.cell 0) (p2.cell 1) (q2.cell 0) (r2.cell 0), DecP.mk' e1.out ?_ (isDd_nil _ _)⟩
    have hs := H4.out.size
    exact (((((H4.out.alloc hs _).setCell (p := ⟨w.heap.size, 0, none⟩) (Nat.le_refl _) _).setCell (p := ⟨w.heap.size, 1, none⟩) (Nat.le_refl _) _).setCell (p := ⟨w.heap.size + 1, 0, none⟩) (Nat.le_succ _) _).setCell (p := ⟨w.heap.size + 1 + 1, 0, none⟩) (by show w.heap.size ≤ w.heap.size + 1 + 1; omega) _).drew
  · have hP1 := hx.blk HP.out (by omega)
    have hQ1 := hx.blk HQ.out (by omega)
    have hR1 := hx.blk HR.out (by omega)
    have b1 := HB.out.trans (hx.below (B := w.heap.size) (by omega) HB.out.size)
    obtain ⟨vl, vc, cs, rfl, hcs, how⟩ := hv
    obtain ⟨al, capl, rfl⟩ := own_slice how.lp
    obtain ⟨ac, capc, rfl⟩ := own_slice how.cl
    have e1 := Lib.hid (decD_ok hl hb)
    have c0 := hP1.cell 0
    have c1 := hP1.cell 1
    have c2 := hQ1.cell 0
    have c3 := hR1.cell 0
    have f0 := hP1.frozen 0
    have f1 := hP1.frozen 1
    have f2 := hQ1.frozen 0
    have f3 := hR1.frozen 0
    simp only [List.getElem?_toArray, List.getElem?_cons_zero, List.getElem?_cons_succ] at c0 c1 c2 c3
    have hW1 := HB.out.size
    have H1 := Lib.hid hP1
    have H2 := Lib.hid hQ1
    have H3 := Lib.hid hR1
    have H4 := Lib.hid b1
    have H5 := Lib.hid how
    have H6 := Lib.hid hcs
    clear hr hb hx hP1 hQ1 hR1 b1 how hd hcs
    go_wp2
    refine leaves_cons (f := 38) (args := #[.pointer (some ⟨w.heap.size, 0, none⟩), .pointer (some ⟨w.heap.size + 1, 0, none⟩), .pointer (some ⟨w.heap.size + 1 + 1, 0, none⟩)]) (by simp) (by simp [go_sem]) ?_
    refine (catch_idle _ _ _ _).mono ?_
    rintro e u w2 ⟨rfl, rfl, rfl⟩
    have p2 := (((H1.out.set 0 (.slice al d.ls.length capl)).set 1 (.slice ac cs.length capc)).set_other (w.heap.size + 1) 0 (.int .i64 0) (by omega)).set_other (w.heap.size + 1 + 1) 0 (.int .i64 0) (by omega)
    have q2 := (((H2.out.set_other w.heap.size 0 (.slice al d.ls.length capl) (by omega)).set_other w.heap.size 1 (.slice ac cs.length capc) (by omega)).set 0 (.int .i64 0)).set_other (w.heap.size + 1 + 1) 0 (.int .i64 0) (by omega)
    have r2 := (((H3.out.set_other w.heap.size 0 (.slice al d.ls.length capl) (by omega)).set_other w.heap.size 1 (.slice ac cs.length capc) (by omega)).set_other (w.heap.size + 1) 0 (.int .i64 0) (by omega)).set 0 (.int .i64 0)
    have hs := H4.out.size
    show ∃ v, _ ∧ _
    refine ⟨_, dec_res _ _ _ _ _ al ac d.ls.length capl cs.length capc 0 0 rfl rfl rfl (p2.cell 0) (p2.cell 1) (q2.cell 0) (r2.cell 0), DecP.mk' (a := 0) e1.out ?_ ⟨_, _, cs, rfl, H6.out, ?_⟩⟩
    · exact (((H4.out.setCell (p := ⟨w.heap.size, 0, none⟩) (Nat.le_refl _) _).setCell (p := ⟨w.heap.size, 1, none⟩) (Nat.le_refl _) _).setCell (p := ⟨w.heap.size + 1, 0, none⟩) (Nat.le_succ _) _).setCell (p := ⟨w.heap.size + 1 + 1, 0, none⟩) (by show w.heap.size ≤ w.heap.size + 1 + 1; omega) _
    · have s1 := (H5.out.mono hW1).set (i := 0) (x := .slice al d.ls.length capl) H1.out (by decide) (by decide) (by decide)
      have s2 := s1.set (i := 1) (x := .slice ac cs.length capc) (H1.out.set 0 _) (by decide) (by decide) (by decide)
      have s3 := s2.set (i := 0) (x := .int .i64 0) ((H2.out.set_other w.heap.size 0 (.slice al d.ls.length capl) (by omega)).set_other w.heap.size 1 (.slice ac cs.length capc) (by omega)) (by decide) (by decide) (by decide)
      exact s3.set (i := 0) (x := .int .i64 0) (((H3.out.set_other w.heap.size 0 (.slice al d.ls.length capl) (by omega)).set_other w.heap.size 1 (.slice ac cs.length capc) (by omega)).set_other (w.heap.size + 1) 0 (.int .i64 0) (by omega)) (by decide) (by decide) (by decide)

theorem decode_ok (w : World) (v : Value) (b : List Nat) (h : SlBy w.heap.size w v b) : Calls Try.prog 20 #[v] w (DecP b w) := by
  by_cases hl : b.length ≤ 4194304
  · exact decode_short w v b h hl
  · exact decode_long w v b h (by omega)
end Go.Proofs.Ytfdjdpbiccclfaa
