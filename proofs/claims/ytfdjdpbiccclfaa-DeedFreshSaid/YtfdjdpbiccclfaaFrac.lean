/- What the law needs, one part after another: walks of functions and plain laws. No conditions but those that each law names. -/
import Derived.Test.YtfdjdpbiccclfaaFrab
import Derived.Recover
import Derived.Defers
import Derived.Deep.RegionHeld3
import Derived.Deep.RegionHeld
import Derived.Deep.AppendLies
namespace Go.Wr
open Go Go.RowKit
section
variable {P : Program}
theorem wpo_build {op : Oper} {a : Act} {w : World} {K : Act → World → Prop} {Q : Exit → Act → World → Prop} (t : TypeId) (l : List (Nat × Operand)) (ho : op.op = .build t l.toArray) {D : Array Value} (hD : P.built t (l.map (fun x => (x.1, a.eval x.2))) = some D)
    (h : K (a.put op.dst (.agg D)) w) : Oper.wp P op a w K Q := by
  have hps' : ((l.toArray).map fun (i, x) => (i, a.eval x)).toList = l.map (fun x => (x.1, a.eval x.2)) := by simp
  refine wp_build t l.toArray ho (by rw [hps', hD]; rfl) ?_
  rw [hps', hD]
  exact h
theorem run_append_zero (t ty e : TypeId) (i : TypeInfo) (w : World) (ht : P.underlying t = some (.slice e)) (hi : P.info? e = some i) (a0 : Option Addr) (c : Nat) :
    (Builtin.append_ #[t, t] ty #[.slice none 0 0, .slice a0 0 c]).run P w = .ok (.slice none 0 0) w := by
  cases a0 with
  | none => simp [Builtin.append_, run_underlying ht, sizeOf, typeInfo, hi, Builtin.lenOf, Builtin.firstCells]
  | some ad =>
    have h0 : (loadCells ad 0).run P w = .ok #[] w := run_loadCells_list w ad [] (fun j v h => by cases h)
    simp [Builtin.append_, run_underlying ht, sizeOf, typeInfo, hi, Builtin.lenOf, Builtin.firstCells, h0]
end
section
variable {P : Program} {α : Type} {R : RT P α}
def Rds (R : RT P α) (B : Nat) (w : World) (a0 : Option Addr) (l : List α) : Prop := ∀ k x, l[k]? = some x → ∃ b o, a0 = some ⟨b, o, none⟩ ∧ b < B ∧ w.rangeAt b (o + k * R.n) (R.f x)
theorem Rds.below {B : Nat} {w w' : World} {a0 : Option Addr} {l : List α} (h : Rds R B w a0 l) (b : Below B w w') : Rds R B w' a0 l := fun k x hx => by
  obtain ⟨g, o, e, hlt, hr⟩ := h k x hx
  exact ⟨g, o, e, hlt, fun j v hj => (b.cell (p := ⟨g, _, none⟩) hlt).trans (hr j v hj)⟩
theorem Rds.range {B b o : Nat} {w : World} {l : List α} (h : Rds R B w (some ⟨b, o, none⟩) l) : w.rangeAt b o (R.cs l) := by
  intro j v hj
  have hn := R.npos
  have hjl : j < (R.cs l).length := by
    rcases Nat.lt_or_ge j (R.cs l).length with h1 | h1
    · exact h1
    · rw [List.getElem?_eq_none h1] at hj; cases hj
  rw [R.cs_len] at hjl
  have hk : j / R.n < l.length := Nat.div_lt_of_lt_mul (by rw [Nat.mul_comm]; exact hjl)
  have hr : j % R.n < R.n := Nat.mod_lt _ hn
  have hx : l[j / R.n]? = some l[j / R.n] := List.getElem?_eq_getElem hk
  have e : j / R.n * R.n + j % R.n = j := by rw [Nat.mul_comm]; exact Nat.div_add_mod j R.n
  obtain ⟨b', o', e1, _, c⟩ := h _ _ hx
  injection e1 with e1
  injection e1 with e1 e2
  subst e1; subst e2
  have g := R.cs_get l (j / R.n) (j % R.n) _ hx hr
  rw [e, hj] at g
  have := c (j % R.n) v g.symm
  rw [Nat.add_assoc, e] at this
  exact this
theorem wpl_copyNil (R : RT P α) {ops : Array Oper} {rest : List Oper} {op : Oper} {a : Act} {w : World} {Q : Exit → Act → World → Prop} (hgd : op.guard = none) (s x : Operand)
    (ho : op.op = .call { callee := .builtin .append, args := #[s, x], argTypes := #[R.S, R.S] }) (hs : a.eval s = .slice none 0 0)
    (B : Nat) (a0 : Option Addr) (n c : Nat) (l : List α) (hx : a.eval x = .slice a0 n c) (hn : n = l.length) (hr : Rds R B w a0 l)
    (hl : l.length ≤ maxLen) (hby : l.length * R.bs ≤ 140737488355328)
    (h : ∀ v' w', OwR R w.heap.size w' v' l → Below w.heap.size w w' → wpList P ops Q rest (a.put op.dst v') w') : wpList P ops Q (op :: rest) a w := by
  by_cases h0 : l = []
  · subst h0
    subst hn
    obtain ⟨i, hi, hz0, hz1, hz2⟩ := info_parts R.info
    refine wpList_plain hgd fun K hK => ?_
    have hrun := run_append_zero (P := P) R.S op.type R.T i w R.und hi a0 c
    unfold Oper.wp execOp
    simp only [ho, resolve, invoke, builtin, Sem.run_bind, Sem.run_pure, Result.andThen_ok, List.map_toArray, List.map_cons, List.map_nil, hs, hx, List.length_nil, hrun]
    exact hK _ _ (h _ _ (OwR.nil _ _) (bRefl w))
  · obtain ⟨b, o, rfl, _, _⟩ := hr 0 _ (List.getElem?_eq_getElem (List.length_pos_iff.2 h0))
    refine wpl_push R hgd s x ho w.heap.size (.slice none 0 0) [] hs (OwR.nil _ _) b o n c l hx hn hr.range (by simpa using hl) (by simpa using hby) (Nat.le_refl _) ?_
    intro v' w' hown hgrow _
    exact h v' w' hown ⟨hgrow.os, hgrow.tape, hgrow.output, hgrow.size, fun k hk => hgrow.block k hk (fun e => by cases e)⟩
end
end Go.Wr
namespace Go.Proofs.Ytfdjdpbiccclfaa
open Go Go.RowKit Go.Wr
set_option maxHeartbeats 1000000
structure Sn where
  a : Option Addr
  n : Nat
  c : Nat
def Sn.v (s : Sn) : Value := .slice s.a s.n s.c
def tC3 : RT Try.prog C3 := ⟨63, 59, 3, 24, .agg #[.int .i64 0, .int .i64 0, .int .i64 0], fun x => (c3v x).toList, fun _ => rfl, fun x u hu => by simp [c3v] at hu; rcases hu with rfl | rfl | rfl <;> rfl, by kernel_rfl, infoC3, by decide, rfl⟩
def tLp : RT Try.prog Lp := ⟨54, 23, 5, 40, .agg #[.int .i64 0, .int .i64 0, .int .i64 0, .int .i64 0, .int .i64 0], fun x => (lpv x).toList, fun _ => rfl, fun x u hu => by simp [lpv] at hu; rcases hu with rfl | rfl | rfl | rfl | rfl <;> rfl, by kernel_rfl, infoLp, by decide, rfl⟩
def tCl : RT Try.prog (Cl × Sn) := ⟨61, 24, 128, 1040, .agg (bx (.bool false) f0 (.slice none 0 0)), fun x => (bx (.bool x.1.d) x.1.f x.2.v).toList, fun _ => by simp [bx_size], fun x => bx_one _ rfl rfl, by kernel_rfl, infoCl, by decide, bx_size _ _ _⟩
theorem SlL.rds {B : Nat} {w : World} {v : Value} {l : List Lp} (h : SlL B w v l) : ∃ a0 cap, v = .slice a0 l.length cap ∧ Rds tLp B w a0 l := h
theorem SlL.of_rds {B cap : Nat} {w : World} {a0 : Option Addr} {l : List Lp} (h : Rds tLp B w a0 l) : SlL B w (.slice a0 l.length cap) l := ⟨a0, cap, rfl, h⟩
theorem rangeC3 {w : World} {b o : Nat} {x : C3} : w.rangeAt b o (c3v x).toList ↔ w.cell? ⟨b, o, none⟩ = some (.int .i64 x.i) ∧ w.cell? ⟨b, o + 1, none⟩ = some (.int .i64 x.j) ∧ w.cell? ⟨b, o + 2, none⟩ = some (.int .i64 x.c) := by
  constructor
  · intro h
    exact ⟨h 0 _ rfl, h 1 _ rfl, h 2 _ rfl⟩
  · rintro ⟨h0, h1, h2⟩ j v hj
    match j, hj with
    | 0, hj => injection hj with hj; subst hj; exact h0
    | 1, hj => injection hj with hj; subst hj; exact h1
    | 2, hj => injection hj with hj; subst hj; exact h2
    | j + 3, hj => simp [c3v] at hj
theorem SlC.rds {B : Nat} {w : World} {v : Value} {l : List C3} (h : SlC B w v l) : ∃ a0 cap, v = .slice a0 l.length cap ∧ Rds tC3 B w a0 l := by
  obtain ⟨a0, cap, e, hc⟩ := h
  refine ⟨a0, cap, e, fun k x hx => ?_⟩
  obtain ⟨b, o, h1, h2, h3⟩ := hc k x hx
  exact ⟨b, o, h1, h2, rangeC3.2 h3⟩
theorem SlC.of_rds {B cap : Nat} {w : World} {a0 : Option Addr} {l : List C3} (h : Rds tC3 B w a0 l) : SlC B w (.slice a0 l.length cap) l := by
  refine ⟨a0, cap, rfl, fun k x hx => ?_⟩
  obtain ⟨b, o, h1, h2, h3⟩ := h k x hx
  exact ⟨b, o, h1, h2, rangeC3.1 h3⟩
theorem OwR.rds {α : Type} {R : RT Try.prog α} {B B' n c : Nat} {w : World} {a0 : Option Addr} {l : List α} (h : OwR R B w (.slice a0 n c) l) (hB : w.heap.size ≤ B') : Rds R B' w a0 l := fun k x hx => by
  rcases h.form with ⟨e, rfl⟩ | ⟨g, cap, e, _⟩
  · cases hx
  · injection e with e1
    subst e1
    have := OwR.at h hx
    exact ⟨g, 0, rfl, Nat.lt_of_lt_of_le this.1 hB, this.2⟩
theorem owr_form {α : Type} {R : RT Try.prog α} {B : Nat} {w : World} {v : Value} {l : List α} (h : OwR R B w v l) : ∃ a c, v = .slice a l.length c := by
  rcases h.form with ⟨e, e2⟩ | ⟨g, c', e, _⟩
  · subst e2; exact ⟨none, 0, e⟩
  · exact ⟨_, c', e⟩
end Go.Proofs.Ytfdjdpbiccclfaa
namespace Go.Proofs.Ytfdjdpbiccclfaa
open Go Go.RowKit Go.Wr
set_option maxHeartbeats 4000000
set_option maxRecDepth 100000
theorem catch_idle (w : World) (p q r : Value) :
    CallsD Try.prog 38 #[p, q, r] .returning w fun e u' w' => e = .returned (.tuple #[]) ∧ u' = .returning ∧ w' = w := by
  refine callsD_of_wpS Try.func38 rfl fun c₀ cs hu => ?_
  apply wpS_seq
  apply wpS_region
  simp [wpOpsS, go_sem, recoverD, hu, Try.ntmps38, Exit.thenS]
  refine wpS_of_wp ?_
  go_wp2
  cases c₀
  simp_all [bodyPostS, results, Try.results38]
theorem run_ta (T : TypeId) (v : Value) (w : World) : (Instr.typeAssert (.iface 86 v) T 86 true).run Try.prog w = .ok (.tuple #[v, .bool true]) w := by
  unfold Instr.typeAssert
  simp [run_underlying Try.underlying86, Sem.run_pure]
theorem catch_stop (w : World) (p q r : Nat) (a : Nat) (er : Int) (older : List PanicEntry) {vl vc x y : Value} (hp : Blk w p 26 #[vl, vc]) (hq : Blk w q 3 #[x]) (hr : Blk w r 29 #[y]) :
    CallsD Try.prog 38 #[.pointer (some ⟨p, 0, none⟩), .pointer (some ⟨q, 0, none⟩), .pointer (some ⟨r, 0, none⟩)] (.panicking (stopV a er :: older)) w fun e u' w' =>
      e = .returned (.tuple #[]) ∧ u' = .panicking ({ stopV a er with recovered := true } :: older) ∧
      w' = (((((w.alloc (.cells #[.int .i64 (a : Int), .int .i64 er] 86)).setCell ⟨p, 0, none⟩ (.slice none 0 0)).setCell ⟨p, 1, none⟩ (.slice none 0 0)).setCell ⟨q, 0, none⟩ (.int .i64 (a : Int))).setCell ⟨r, 0, none⟩ (.int .i64 er)).drew := by
  have p0 := hp.cell 0
  have p1 := hp.cell 1
  have q0 := hq.cell 0
  have r0 := hr.cell 0
  have g0 := hp.frozen 0
  have g1 := hp.frozen 1
  have g2 := hq.frozen 0
  have g3 := hr.frozen 0
  have hpl := hp.lt
  have hql := hq.lt
  have hrl := hr.lt
  have npq := blk_ne hp hq (by decide)
  have npr := blk_ne hp hr (by decide)
  have nqr := blk_ne hq hr (by decide)
  simp only [List.getElem?_toArray, List.getElem?_cons_zero, List.getElem?_cons_succ] at p0 p1 q0 r0
  unfold stopV
  refine callsD_of_wpS Try.func38 rfl fun c₀ cs hu => ?_
  apply wpS_seq
  apply wpS_region
  simp [wpOpsS, go_sem, recoverD, hu, Try.ntmps38, Exit.thenS]
  refine wpS_of_wp ?_
  have kt := run_ta
  change Code.wp Try.prog _ _ { tmps := #[.pointer (some ⟨p, 0, none⟩), .pointer (some ⟨q, 0, none⟩), .pointer (some ⟨r, 0, none⟩), undef, undef, undef, .iface 86 (.agg #[.int .i64 (a : Int), .int .i64 er]), undef, undef, undef, undef, undef, undef, undef, undef, undef, undef], defers := [] } w
  go_upto_region 7 with (fail)
  generalize hV : w.alloc (.cells #[.int .i64 (a : Int), .int .i64 er] 86) = V
  obtain ⟨s, hs⟩ : ∃ s, s = w.heap.size := ⟨_, rfl⟩
  rw [← hs]
  have hS : Blk V s 86 #[.int .i64 (a : Int), .int .i64 er] := by rw [← hV, hs]; exact Blk.new _ _ _
  have hP : Blk V p 26 #[vl, vc] := by rw [← hV]; exact hp.alloc _
  have hQ : Blk V q 3 #[x] := by rw [← hV]; exact hq.alloc _
  have hR : Blk V r 29 #[y] := by rw [← hV]; exact hr.alloc _
  have p0 := hP.cell 0
  have p1 := hP.cell 1
  have q0 := hQ.cell 0
  have r0 := hR.cell 0
  have s0 := hS.cell 0
  have s1 := hS.cell 1
  have g0 := hP.frozen 0
  have g1 := hP.frozen 1
  have g2 := hQ.frozen 0
  have g3 := hR.frozen 0
  simp only [List.getElem?_toArray, List.getElem?_cons_zero, List.getElem?_cons_succ] at p0 p1 q0 r0 s0 s1
  have nps := blk_ne hP hS (by decide)
  have nqs := blk_ne hQ hS (by decide)
  have nrs := blk_ne hR hS (by decide)
  have HV := Lib.hid hV
  clear hV hs hp hq hr hP hQ hR hS hpl hql hrl kt
  go_region_held3 (fun w' => w'.cell? ⟨s, 0, none⟩ = some (.int .i64 (a : Int)) ∧ w'.cell? ⟨s, 1, none⟩ = some (.int .i64 er)) (go_keep) (fail)
  go_wp2
  have hV := HV.out
  subst hV
  cases c₀
  simp_all [bodyPostS, results, Try.results38]
def DecP (b : List Nat) (w : World) (e : Ending) (w' : World) : Prop :=
  Below w.heap.size w w' ∧ ∃ v, e = .returned (.tuple #[v, .int .i64 ((decD b).2.1 : Int), .int .i64 (decD b).2.2]) ∧ isDd w.heap.size (decD b).1 v w'
theorem isDd_nil (B : Nat) (w : World) : isDd B ⟨[], []⟩ (.agg #[.slice none 0 0, .slice none 0 0]) w := ⟨_, _, [], rfl, rfl, OwD.nil _ _⟩
theorem dec_res (w : World) (tmps : Array Value) (p q r : Nat) (al ac : Option Addr) (nl cl nc cc : Nat) (x y : Int) (h2 : tmps.getD 2 undef = .pointer (some ⟨p, 0, none⟩)) (h3 : tmps.getD 3 undef = .pointer (some ⟨q, 0, none⟩)) (h4 : tmps.getD 4 undef = .pointer (some ⟨r, 0, none⟩))
    (c0 : w.cell? ⟨p, 0, none⟩ = some (.slice al nl cl)) (c1 : w.cell? ⟨p, 1, none⟩ = some (.slice ac nc cc)) (c2 : w.cell? ⟨q, 0, none⟩ = some (.int .i64 x)) (c3 : w.cell? ⟨r, 0, none⟩ = some (.int .i64 y)) :
    (results Try.f20 tmps).run Try.prog w = .ok (.tuple #[.agg #[.slice al nl cl, .slice ac nc cc], .int .i64 x, .int .i64 y]) w := by
  simp only [Array.getD_eq_getD_getElem?] at h2 h3 h4
  simp [results, Try.results20, go_sem, h2, h3, h4, c0, c1, c2, c3]
theorem DecP.mk' {b : List Nat} {w w' : World} {v : Value} {d : Dd} {a : Nat} {e : Int} (hd : decD b = (d, a, e)) (hb : Below w.heap.size w w') (hv : isDd w.heap.size d v w') : DecP b w (.returned (.tuple #[v, .int .i64 (a : Int), .int .i64 e])) w' := by
  refine ⟨hb, v, ?_, ?_⟩
  · rw [hd]
  · rw [hd]; exact hv
theorem decode_long (w : World) (v : Value) (b : List Nat) (h : SlBy w.heap.size w v b) (hl : 4194304 < b.length) : Calls Try.prog 20 #[v] w (DecP b w) := by
  obtain ⟨a0, cap, rfl, hc1, hc2, hcell⟩ := h
  have hd : decD b = (⟨[], []⟩, 0, 2) := by unfold decD; rw [if_pos hl]
  have hl' : (4194304 : Int) < (b.length : Int) := by omega
  have HD := Lib.hid hd
  clear hcell hd
  go_enter_defers Try.func20, Try.ntmps20
  go_wp2
  have hP := ((Blk.new w 26 #[.slice none 0 0, .slice none 0 0]).alloc (.cells #[.int .i64 0] 3)).alloc (.cells #[.int .i64 2] 29)
  have hQ : Blk (((w.alloc (.cells #[.slice none 0 0, .slice none 0 0] 26)).alloc (.cells #[.int .i64 0] 3)).alloc (.cells #[.int .i64 2] 29)) (w.heap.size + 1) 3 #[.int .i64 0] := (Blk.new_at _ _ (by simp)).alloc _
  have hR : Blk (((w.alloc (.cells #[.slice none 0 0, .slice none 0 0] 26)).alloc (.cells #[.int .i64 0] 3)).alloc (.cells #[.int .i64 2] 29)) (w.heap.size + 1 + 1) 29 #[.int .i64 2] := Blk.new_at _ _ (by simp)
  exact ⟨_, dec_res _ _ _ _ _ none none 0 0 0 0 0 2 rfl rfl rfl (hP.cell 0) (hP.cell 1) (hQ.cell 0) (hR.cell 0), DecP.mk' (a := 0) HD.out (bAl (bAl (bAl (bRefl w) _) _) _) (isDd_nil _ _)⟩
theorem decD_ok {b : List Nat} {d : Dd} {a : Nat} (hl : b.length ≤ 4194304) (h : pDeedR b = .ok (d, a)) : decD b = (d, 0, 0) := by
  unfold decD
  rw [if_neg (by omega), pDeed_R, h]
  rfl
theorem decD_err {b : List Nat} {a : Nat} {e : Int} (hl : b.length ≤ 4194304) (h : pDeedR b = .error (a, e)) : decD b = (⟨[], []⟩, a, e) := by
  unfold decD
  rw [if_neg (by omega), pDeed_R, h]
  rfl
theorem decode_short (w : World) (v : Value) (b : List Nat) (h : SlBy w.heap.size w v b) (hl : b.length ≤ 4194304) : Calls Try.prog 20 #[v] w (DecP b w) := by
  have H := Lib.hid h
  obtain ⟨a0, cap, hv, hc1, hc2, hcell⟩ := h
  have hl' : ¬ (4194304 : Int) < (b.length : Int) := by omega
  have hmf : ∀ (fn : Fn) (first cap : Array Value) (w : World), (Instr.makeFunc fn first cap).run Try.prog w = .ok (.func fn first cap) w := fun _ _ _ _ => rfl
  subst hv
  clear hcell
  go_enter_defers Try.func20, Try.ntmps20
  go_upto_region 5 with (fail)
  generalize hW : (((w.alloc (.cells #[.slice none 0 0, .slice none 0 0] 26)).alloc (.cells #[.int .i64 0] 3)).alloc (.cells #[.int .i64 0] 29)).alloc (.cells #[.slice a0 b.length cap, .int .i64 0] 89) = W
  have hP : Blk W w.heap.size 26 #[.slice none 0 0, .slice none 0 0] := by rw [← hW]; exact (((Blk.new _ _ _).alloc _).alloc _).alloc _
  have hQ : Blk W (w.heap.size + 1) 3 #[.int .i64 0] := by rw [← hW]; exact ((Blk.new_at _ _ (by simp)).alloc _).alloc _
  have hR : Blk W (w.heap.size + 1 + 1) 29 #[.int .i64 0] := by rw [← hW]; exact (Blk.new_at _ _ (by simp)).alloc _
  have bW : Below w.heap.size w W := by rw [← hW]; exact bAl (bAl (bAl (bAl (bRefl w) _) _) _) _
  have hD : Rdr w.heap.size (w.heap.size + 1 + 1 + 1) b 0 W (.slice a0 b.length cap) :=
    ⟨by rw [← hW]; exact Blk.new_at _ _ (by simp), H.out.below bW, by omega, by omega, hl⟩
  obtain ⟨z, hz⟩ : ∃ z, z = w.heap.size := ⟨_, rfl⟩
  have hWl := hD.lt
  have HP := Lib.hid hP
  have HQ := Lib.hid hQ
  have HR := Lib.hid hR
  have HB := Lib.hid bW
  have HD := Lib.hid hD
  clear hW hP hQ hR bW hD H hmf
  go_wp2_with fail
  (with_reducible refine (rdeed_ok _ _ _ 0 b _ HD.out).mono ?_)
  rintro e w1 hr
  rcases hr.cases with ⟨y, ye, hb, rfl, hx⟩ | ⟨d, m, v, hb, rfl, hv, hd, hx⟩
  · have hP1 := hx.blk HP.out (by omega)
    have hQ1 := hx.blk HQ.out (by omega)
    have hR1 := hx.blk HR.out (by omega)
    have b1 := HB.out.trans (hx.below (B := w.heap.size) (by omega) HB.out.size)
    have H1 := Lib.hid hP1
    have H2 := Lib.hid hQ1
    have H3 := Lib.hid hR1
    have H4 := Lib.hid b1
    have e1 := Lib.hid (decD_err hl hb)
    clear hr hb hx hP1 hQ1 hR1 b1
    go_wp2
    refine leaves_cons (f := 38) (args := #[.pointer (some ⟨w.heap.size, 0, none⟩), .pointer (some ⟨w.heap.size + 1, 0, none⟩), .pointer (some ⟨w.heap.size + 1 + 1, 0, none⟩)]) (by simp) (by simp [go_sem]) ?_
    refine (catch_stop _ _ _ _ y ye [] H1.out H2.out H3.out).mono ?_
    rintro e u w2 ⟨rfl, rfl, rfl⟩
    have p2 := ((((H1.out.alloc (.cells #[.int .i64 (y : Int), .int .i64 ye] 86)).set 0 (.slice none 0 0)).set 1 (.slice none 0 0)).set_other (w.heap.size + 1) 0 (.int .i64 (y : Int)) (by omega)).set_other (w.heap.size + 1 + 1) 0 (.int .i64 ye) (by omega)
    have q2 := ((((H2.out.alloc (.cells #[.int .i64 (y : Int), .int .i64 ye] 86)).set_other w.heap.size 0 (.slice none 0 0) (by omega)).set_other w.heap.size 1 (.slice none 0 0) (by omega)).set 0 (.int .i64 (y : Int))).set_other (w.heap.size + 1 + 1) 0 (.int .i64 ye) (by omega)
    have r2 := ((((H3.out.alloc (.cells #[.int .i64 (y : Int), .int .i64 ye] 86)).set_other w.heap.size 0 (.slice none 0 0) (by omega)).set_other w.heap.size 1 (.slice none 0 0) (by omega)).set_other (w.heap.size + 1) 0 (.int .i64 (y : Int)) (by omega)).set 0 (.int .i64 ye)
    show ∃ v, _ ∧ _
    refine ⟨_, dec_res _ _ _ _ _ none none 0 0 0 0 (y : Int) ye rfl rfl rfl (p2.cell 0) (p2.cell 1) (q2.cell 0) (r2.cell 0), DecP.mk' e1.out ?_ (isDd_nil _ _)⟩
    have hs := H4.out.size
    exact (((((H4.out.alloc hs _).setCell (p := ⟨w.heap.size, 0, none⟩) (Nat.le_refl _) _).setCell (p := ⟨w.heap.size, 1, none⟩) (Nat.le_refl _) _).setCell (p := ⟨w.heap.size + 1, 0, none⟩) (Nat.le_succ _) _).setCell (p := ⟨w.heap.size + 1 + 1, 0, none⟩) (by show w.heap.size ≤ w.heap.size + 1 + 1; omega) _).drew
  · have hP1 := hx.blk HP.out (by omega)
    have hQ1 := hx.blk HQ.out (by omega)
    have hR1 := hx.blk HR.out (by omega)
    have b1 := HB.out.trans (hx.below (B := w.heap.size) (by omega) HB.out.size)
    obtain ⟨vl, vc, cs, rfl, hcs, how⟩ := hv
    obtain ⟨al, capl, rfl⟩ := own_slice how.lp
    obtain ⟨ac, capc, rfl⟩ := own_slice how.cl
    have e1 := Lib.hid (decD_ok hl hb)
    have c0 := hP1.cell 0
    have c1 := hP1.cell 1
    have c2 := hQ1.cell 0
    have c3 := hR1.cell 0
    have f0 := hP1.frozen 0
    have f1 := hP1.frozen 1
    have f2 := hQ1.frozen 0
    have f3 := hR1.frozen 0
    simp only [List.getElem?_toArray, List.getElem?_cons_zero, List.getElem?_cons_succ] at c0 c1 c2 c3
    have hW1 := HB.out.size
    have H1 := Lib.hid hP1
    have H2 := Lib.hid hQ1
    have H3 := Lib.hid hR1
    have H4 := Lib.hid b1
    have H5 := Lib.hid how
    have H6 := Lib.hid hcs
    clear hr hb hx hP1 hQ1 hR1 b1 how hd hcs
    go_wp2
    refine leaves_cons (f := 38) (args := #[.pointer (some ⟨w.heap.size, 0, none⟩), .pointer (some ⟨w.heap.size + 1, 0, none⟩), .pointer (some ⟨w.heap.size + 1 + 1, 0, none⟩)]) (by simp) (by simp [go_sem]) ?_
    refine (catch_idle _ _ _ _).mono ?_
    rintro e u w2 ⟨rfl, rfl, rfl⟩
    have p2 := (((H1.out.set 0 (.slice al d.ls.length capl)).set 1 (.slice ac cs.length capc)).set_other (w.heap.size + 1) 0 (.int .i64 0) (by omega)).set_other (w.heap.size + 1 + 1) 0 (.int .i64 0) (by omega)
    have q2 := (((H2.out.set_other w.heap.size 0 (.slice al d.ls.length capl) (by omega)).set_other w.heap.size 1 (.slice ac cs.length capc) (by omega)).set 0 (.int .i64 0)).set_other (w.heap.size + 1 + 1) 0 (.int .i64 0) (by omega)
    have r2 := (((H3.out.set_other w.heap.size 0 (.slice al d.ls.length capl) (by omega)).set_other w.heap.size 1 (.slice ac cs.length capc) (by omega)).set_other (w.heap.size + 1) 0 (.int .i64 0) (by omega)).set 0 (.int .i64 0)
    have hs := H4.out.size
    show ∃ v, _ ∧ _
    refine ⟨_, dec_res _ _ _ _ _ al ac d.ls.length capl cs.length capc 0 0 rfl rfl rfl (p2.cell 0) (p2.cell 1) (q2.cell 0) (r2.cell 0), DecP.mk' (a := 0) e1.out ?_ ⟨_, _, cs, rfl, H6.out, ?_⟩⟩
    · exact (((H4.out.setCell (p := ⟨w.heap.size, 0, none⟩) (Nat.le_refl _) _).setCell (p := ⟨w.heap.size, 1, none⟩) (Nat.le_refl _) _).setCell (p := ⟨w.heap.size + 1, 0, none⟩) (Nat.le_succ _) _).setCell (p := ⟨w.heap.size + 1 + 1, 0, none⟩) (by show w.heap.size ≤ w.heap.size + 1 + 1; omega) _
    · have s1 := (H5.out.mono hW1).set (i := 0) (x := .slice al d.ls.length capl) H1.out (by decide) (by decide) (by decide)
      have s2 := s1.set (i := 1) (x := .slice ac cs.length capc) (H1.out.set 0 _) (by decide) (by decide) (by decide)
      have s3 := s2.set (i := 0) (x := .int .i64 0) ((H2.out.set_other w.heap.size 0 (.slice al d.ls.length capl) (by omega)).set_other w.heap.size 1 (.slice ac cs.length capc) (by omega)) (by decide) (by decide) (by decide)
      exact s3.set (i := 0) (x := .int .i64 0) (((H3.out.set_other w.heap.size 0 (.slice al d.ls.length capl) (by omega)).set_other w.heap.size 1 (.slice ac cs.length capc) (by omega)).set_other (w.heap.size + 1) 0 (.int .i64 0) (by omega)) (by decide) (by decide) (by decide)
theorem decode_ok (w : World) (v : Value) (b : List Nat) (h : SlBy w.heap.size w v b) : Calls Try.prog 20 #[v] w (DecP b w) := by
  by_cases hl : b.length ≤ 4194304
  · exact decode_short w v b h hl
  · exact decode_long w v b h (by omega)
end Go.Proofs.Ytfdjdpbiccclfaa
namespace Go.Proofs.Ytfdjdpbiccclfaa
open Go Go.RowKit Go.Wr
set_option maxHeartbeats 4000000
set_option maxRecDepth 100000
theorem conv_by {B : Nat} {w : World} {v : Value} {b : List Nat} (h : SlBy B w v b) : (convert 28 9 v).run Try.prog w = .ok (.string (strOfNums (b.map Int.ofNat))) w := by
  obtain ⟨a0, cap, rfl, hc1, hc2, hcell⟩ := h
  cases a0 with
  | none =>
    have hb : b = [] := by
      cases b with
      | nil => rfl
      | cons x l => obtain ⟨_, _, e, _⟩ := hcell 0 x rfl; cases e
    subst hb
    exact run_convert_bytes_nil w 28 5 Try.underlying28 Try.underlying5 _ _ 9 Try.underlying9
  | some ad =>
    by_cases hb : b = []
    · subst hb
      obtain ⟨bb, off, sp⟩ := ad
      rw [run_convert_bytes_string w 28 9 5 _ _ _ Try.underlying28 Try.underlying5 Try.underlying9]
      simp [Conv.bytesToString, loadCells, strOfNums, Sem.run_bind]
      rfl
    · obtain ⟨y, hy⟩ : ∃ y, b[0]? = some y := ⟨_, List.getElem?_eq_getElem (List.length_pos_iff.2 hb)⟩
      obtain ⟨bb, off, e, _⟩ := hcell 0 y hy
      injection e with e
      subst e
      refine run_convert_bytes_arg w 28 5 Try.underlying28 Try.underlying5 bb off b.length cap _ (by simp) (fun i hi => ?_) 9 Try.underlying9
      obtain ⟨yi, hyi⟩ : ∃ y, b[i]? = some y := ⟨_, List.getElem?_eq_getElem hi⟩
      obtain ⟨bb', off', ea, _, _, hci⟩ := hcell i yi hyi
      simp only [Option.some.injEq, Addr.mk.injEq, and_true] at ea
      obtain ⟨rfl, rfl⟩ := ea
      rw [hci, List.getD_eq_getElem?_getD, List.getElem?_map, hyi]
      rfl
theorem SlBy.lt256 {B : Nat} {w : World} {v : Value} {b : List Nat} (h : SlBy B w v b) : ∀ x ∈ b, x < 256 := fun x hx => by
  obtain ⟨i, hi⟩ := List.mem_iff_getElem?.1 hx
  obtain ⟨_, _, _, _, _, hc⟩ := h
  obtain ⟨_, _, _, _, h3, _⟩ := hc i x hi
  exact h3
theorem strOf_iff {l m : List Nat} (h : ∀ x ∈ l, x < 256) (h' : ∀ x ∈ m, x < 256) : (strOfNums (l.map Int.ofNat)).toList = (strOfNums (m.map Int.ofNat)).toList ↔ l = m := by
  rw [ByteArray.toList_eq, ByteArray.toList_eq, strOfNums_data, strOfNums_data, List.map_map, List.map_map]
  constructor
  · intro e
    have e2 := congrArg (List.map UInt8.toNat) e
    have e3 := back256 h
    have e4 := back256 h'
    rw [show (l.map fun x => UInt8.ofNat (Int.ofNat x).toNat) = l.map ((fun n : Int => UInt8.ofNat n.toNat) ∘ Int.ofNat) from rfl] at e3
    rw [show (m.map fun x => UInt8.ofNat (Int.ofNat x).toNat) = m.map ((fun n : Int => UInt8.ofNat n.toNat) ∘ Int.ofNat) from rfl] at e4
    rw [← e3, ← e4, e2]
  · rintro rfl; rfl
theorem samebytes_ok (w : World) (B B' : Nat) (v v' : Value) (b b' : List Nat) (h : SlBy B w v b) (h' : SlBy B' w v' b') :
    Calls Try.prog 15 #[v, v'] w fun e w' => e = .returned (.bool (decide (b = b'))) ∧ w' = w := by
  have k1 := conv_by h
  have k2 := conv_by h'
  have hi := strOf_iff h.lt256 h'.lt256
  obtain ⟨S, hS⟩ : ∃ S, S = strOfNums (b.map Int.ofNat) := ⟨_, rfl⟩
  obtain ⟨S', hS'⟩ : ∃ S, S = strOfNums (b'.map Int.ofNat) := ⟨_, rfl⟩
  rw [← hS] at k1 hi
  rw [← hS'] at k2 hi
  clear hS hS' h h'
  obtain ⟨t, ht⟩ : ∃ t, t = decide (b = b') := ⟨_, rfl⟩
  have hst : (S.toList == S'.toList) = t := by rw [ht, Bool.eq_iff_iff, beq_iff_eq, decide_eq_true_eq]; exact hi
  rw [← ht]
  clear ht hi
  go_enter Try.func15, Try.ntmps15
  go_wp2
  go_ret
  exact ⟨rfl, rfl⟩
def eqC3 (a b : C3) : Bool := a.i == b.i && (a.j == b.j && a.c == b.c)
theorem eqC3_iff {a b : C3} : eqC3 a b = true ↔ a = b := by
  cases a; cases b; simp [eqC3]
theorem guardC : Try.prog.eqGuardType Try.prog.depth 63 = false := by kernel_rfl
theorem run_eq_con (w : World) (d : Nat) (a b : C3) : (Op.equalIn (d + 2) 63 (.agg (c3v a)) (.agg (c3v b))).run Try.prog w = .ok (eqC3 a b) w := by
  have hS : Try.prog.underlying 63 = some (.struct (Try.prog.fieldsOf 63)) := by kernel_rfl
  have hp : Try.prog.stoodInHeld 63 = false := by kernel_rfl
  have ui := Try.underlying3
  have ai := Try.isAgg3
  have si := Try.sizeOf3
  rw [run_equalIn_agg w (d + 1) 63 _ _ hS hp]
  simp only [Program.fieldsOf, Try.underlying63, c3v]
  go_simp
  by_cases h1 : a.i = b.i <;> by_cases h2 : a.j = b.j <;> by_cases h3 : a.c = b.c <;> simp [h1, h2, h3, eqC3]
theorem samecons_ok (w : World) (v v' : Value) (l l' : List C3) (h : SlC w.heap.size w v l) (h' : SlC w.heap.size w v' l') (hl : l.length ≤ 140737488351232) :
    Calls Try.prog 64 #[v, v'] w fun e w' => e = .returned (.bool (decide (l = l'))) ∧ Below w.heap.size w w' := by
  obtain ⟨a0, cap, rfl, hc⟩ := h
  obtain ⟨a0', cap', rfl, hc'⟩ := h'
  have HC := Lib.hid hc
  have HC' := Lib.hid hc'
  obtain ⟨t, ht⟩ : ∃ t, t = decide (l = l') := ⟨_, rfl⟩
  rw [← ht]
  have HT := Lib.hid ht
  clear hc hc' ht
  by_cases hn : l.length = l'.length
  · have hn' : ((l.length : Int) != (l'.length : Int)) = false := by rw [bne_eq_false_iff_eq]; omega
    have HN := Lib.hid hn
    clear hn
    go_enter Try.func64, Try.ntmps64
    go_wp2
    go_loopw [5] (fun u wr => ∃ k : Nat, k ≤ l.length ∧ u = .int .i64 (k : Int) ∧ Hid (∀ i, i < k → l[i]? = l'[i]?) ∧ Below w.heap.size w wr) (fun u _ => l.length - (intOf u).toNat)
    case atStart => exact ⟨0, by omega, rfl, (fun i hi => by omega), bRefl _⟩
    case round =>
      obtain ⟨k, hk, rfl, he, hbel⟩ := hrel
      by_cases hlt : k < l.length
      · have hlt' : (k : Int) < (l.length : Int) := by omega
        have hlt2 : (k : Int) < (l'.length : Int) := by have := HN.out; omega
        obtain ⟨x, hx⟩ : ∃ x, l[k]? = some x := ⟨_, List.getElem?_eq_getElem hlt⟩
        obtain ⟨y, hy⟩ : ∃ x, l'[k]? = some x := ⟨_, List.getElem?_eq_getElem (by have := HN.out; omega)⟩
        obtain ⟨bb, off, rfl, hbb, g0, g1, g2⟩ := HC.out k x hx
        obtain ⟨bc, off', rfl, hbc, k0, k1, k2⟩ := HC'.out k y hy
        rw [← hbel.cell (p := ⟨bb, _, none⟩) hbb] at g0 g1 g2
        rw [← hbel.cell (p := ⟨bc, _, none⟩) hbc] at k0 k1 k2
        have HXY := Lib.hid (And.intro hx hy)
        clear hx hy
        go_upto_region 6 with (fail)
        refine wp_still mix (by kernel_rfl) ?_
        iterate 8 still_step
        refine wpStill_val (by rfl) (.bool (!eqC3 x y)) (exec_neq 63 (.tmp 20) (.tmp 24) 63 rfl rfl rfl guardC (run_eq_con _ 9998 x y)) ?_
        refine wpStill_nil ?_
        cases hq : eqC3 x y with
        | false =>
          have e1 : Hid (t = false) := by
            show _ = _
            rw [HT.out, decide_eq_false_iff_not]
            rintro rfl
            have h2 := HXY.out.1.symm.trans HXY.out.2
            injection h2 with h2
            rw [eqC3_iff.2 h2] at hq
            cases hq
          clear hq he HXY
          go_wp2
          go_ret
          exact ⟨by rw [e1.out]; rfl, hbel.drew⟩
        | true =>
          have he2 : Hid (∀ i, i < k + 1 → l[i]? = l'[i]?) := fun i hi => by
            by_cases hik : i < k
            · exact he.out i hik
            · obtain rfl : i = k := by omega
              rw [HXY.out.1, HXY.out.2, eqC3_iff.1 hq]
          clear hq he HXY
          go_wp2
          go_roundw
          all_goals first
            | exact ⟨k + 1, by omega, by go_num, he2, hbel.drew⟩
            | ((repeat apply Exists.intro); exact ⟨⟨k + 1, by omega, by go_num, he2, hbel.drew⟩, rfl⟩)
            | (simp [intOf]; omega)
      · obtain rfl : k = l.length := by omega
        have e1 : Hid (t = true) := by
          show _ = _
          rw [HT.out, decide_eq_true_eq]
          exact List.ext_getElem? fun i => by
            by_cases hi : i < l.length
            · exact he.out i hi
            · have := HN.out
              rw [List.getElem?_eq_none (by omega), List.getElem?_eq_none (by omega)]
        clear he hlt hk
        go_wp2
        go_ret
        exact ⟨by rw [e1.out]; rfl, hbel⟩
  · have hn' : ((l.length : Int) != (l'.length : Int)) = true := by rw [bne_iff_ne]; omega
    have e1 : Hid (t = false) := by show _ = _; rw [HT.out, decide_eq_false_iff_not]; rintro rfl; exact hn rfl
    go_enter Try.func64, Try.ntmps64
    go_wp2
    go_ret
    exact ⟨by rw [e1.out]; rfl, bRefl _⟩
end Go.Proofs.Ytfdjdpbiccclfaa
namespace Go.Wr
open Go Go.RowKit
section
variable {P : Program} {α : Type} {R : RT P α}
theorem wpl_pushL (R : RT P α) {ops : Array Oper} {rest : List Oper} {op : Oper} {a : Act} {w : World} {Q : Exit → Act → World → Prop} (hgd : op.guard = none) (s x : Operand)
    (ho : op.op = .call { callee := .builtin .append, args := #[s, x], argTypes := #[R.S, R.S] })
    (B : Nat) (v : Value) (l : List α) (hs : a.eval s = v) (hown : OwR R B w v l)
    (b o n c : Nat) (m : List α) (hx : a.eval x = .slice (some ⟨b, o, none⟩) n c) (hn : n = m.length) (hm : 0 < m.length) (hnews : w.rangeAt b o (R.cs m))
    (hl : l.length + m.length ≤ maxLen) (hby : (l.length + m.length) * R.bs ≤ 140737488355328) (hB : B ≤ w.heap.size)
    (h : ∀ g c' w', OwR R B w' (.slice (some ⟨g, 0, none⟩) (l.length + m.length) c') (l ++ m) → w.grownBy w' v.ownBlock → (v.ownBlock = some g ∨ g = w.heap.size) → wpList P ops Q rest (a.put op.dst (.slice (some ⟨g, 0, none⟩) (l.length + m.length) c')) w') : wpList P ops Q (op :: rest) a w := by
  obtain ⟨i, hi, hz0, hz1, hz2⟩ := info_parts R.info
  subst hn
  refine wpList_append_lies w hgd s x _ ho B R.T i _ R.n R.bs R.und hi hz0 hz1 hz2 R.zs R.npos v l.length (R.cs l) hs hown ⟨b, o, none⟩ m.length c (R.cs m) hx (R.cs_len m) (fun j u hj => by rw [Addr.add_lit]; exact hnews j u hj) (R.cs_ones m) hm hl hby hB w.heap.size rfl ?_
  intro g cap w' h1 h2 h3 _
  refine h g cap w' ?_ h2 h3
  unfold OwR
  rw [R.cs_app, List.length_append]
  exact h1
theorem step_pushL (R : RT P α) {ops : Array Oper} {op : Oper} {a : Act} {w : World} {K : Act → World → Prop} {Q : Exit → Act → World → Prop} {E : Prop} (hgd : op.guard = none) (s x : Operand)
    (ho : op.op = .call { callee := .builtin .append, args := #[s, x], argTypes := #[R.S, R.S] })
    (B : Nat) (v : Value) (l : List α) (hs : a.eval s = v) (hown : OwR R B w v l)
    (b o n c : Nat) (m : List α) (hx : a.eval x = .slice (some ⟨b, o, none⟩) n c) (hn : n = m.length) (hm : 0 < m.length) (hnews : w.rangeAt b o (R.cs m))
    (hl : l.length + m.length ≤ maxLen) (hby : (l.length + m.length) * R.bs ≤ 140737488355328) (hB : B ≤ w.heap.size)
    (h : ∀ g c' w', OwR R B w' (.slice (some ⟨g, 0, none⟩) (l.length + m.length) c') (l ++ m) → w.grownBy w' v.ownBlock → (v.ownBlock = some g ∨ g = w.heap.size) → K (a.put op.dst (.slice (some ⟨g, 0, none⟩) (l.length + m.length) c')) w') :
    if Region.wanted op (yielded ops a.tmps) = true then Oper.wp P op a w K Q else E := by
  obtain ⟨i, hi, hz0, hz1, hz2⟩ := info_parts R.info
  subst hn
  refine step_append_lies w hgd s x _ ho B R.T i _ R.n R.bs R.und hi hz0 hz1 hz2 R.zs R.npos v l.length (R.cs l) hs hown ⟨b, o, none⟩ m.length c (R.cs m) hx (R.cs_len m) (fun j u hj => by rw [Addr.add_lit]; exact hnews j u hj) (R.cs_ones m) hm hl hby hB w.heap.size rfl ?_
  intro g cap w' h1 h2 h3 _
  refine h g cap w' ?_ h2 h3
  unfold OwR
  rw [R.cs_app, List.length_append]
  exact h1
theorem SlX.keepB {p : Nat} {w w' : World} {v : Value} {l : List α} (h : SlX R p w v l) (hs : w.heap.size ≤ w'.heap.size) (hb : ∀ g, g < w.heap.size → v.ownBlock = some g → w'.heap[g]? = w.heap[g]?) : SlX R p w' v l := by
  obtain ⟨a0, cap, rfl, h1, h2, hc⟩ := h
  refine ⟨a0, cap, rfl, h1, h2, fun k x hk => ?_⟩
  obtain ⟨b, o, rfl, e2, e3⟩ := hc k x hk
  exact ⟨b, o, rfl, e2, Nat.lt_of_lt_of_le e3.1 hs, fun j u hj => (World.cell?_of_block (hb b e3.1 rfl)).trans (e3.2 j u hj)⟩
end
end Go.Wr
namespace Go.Proofs.Ytfdjdpbiccclfaa
open Go Go.RowKit Go.Wr
set_option maxHeartbeats 4000000
set_option maxRecDepth 100000
abbrev By := Fin 256
theorem oneSimp {l : List Value} (h : l.all Value.oneCell' = true) : ∀ u ∈ l, u.oneCell' = true := List.all_eq_true.1 h
def tY : RT Try.prog By := ⟨5, 28, 1, 1, .int .u8 0, fun x => [.int .u8 (x.val : Int)], fun _ => rfl, fun _ => oneSimp rfl, by kernel_rfl, by kernel_rfl, by decide, by decide⟩
def tI : RT Try.prog Int := ⟨3, 49, 1, 8, .int .i64 0, fun x => [.int .i64 x], fun _ => rfl, fun _ => oneSimp rfl, by kernel_rfl, by kernel_rfl, by decide, by decide⟩
def tYY : RT Try.prog Sn := ⟨28, 48, 1, 24, .slice none 0 0, fun s => [s.v], fun _ => rfl, fun _ => oneSimp rfl, by kernel_rfl, by kernel_rfl, by decide, by decide⟩
theorem OwR.slz {α : Type} {R : RT Try.prog α} {B : Nat} {w : World} {v : Value} {l : List α} (h : OwR R B w v l) : SlX R w.heap.size w v l := OwR.sl h (fun e => by have := OwR.lt h e; omega)
theorem SlX.int {p : Nat} {w : World} {a0 : Option Addr} {n cap : Nat} {l : List Int} (h : SlX tI p w (.slice a0 n cap) l) {k : Nat} {x : Int} (hk : l[k]? = some x) :
    ∃ b o, a0 = some ⟨b, o, none⟩ ∧ b ≠ p ∧ b < w.heap.size ∧ w.cell? ⟨b, o + k, none⟩ = some (.int .i64 x) := by
  obtain ⟨b, o, e, hne, hat⟩ := h.get hk
  refine ⟨b, o, e, hne, hat.1, ?_⟩
  have := hat.cell 0 _ rfl
  have e1 : o + k * tI.n + 0 = o + k := by show o + k * 1 + 0 = _; omega
  rw [e1] at this
  exact this
theorem SlX.by' {p : Nat} {w : World} {a0 : Option Addr} {n cap : Nat} {l : List By} (h : SlX tY p w (.slice a0 n cap) l) {k : Nat} {x : By} (hk : l[k]? = some x) :
    ∃ b o, a0 = some ⟨b, o, none⟩ ∧ b ≠ p ∧ b < w.heap.size ∧ w.cell? ⟨b, o + k, none⟩ = some (.int .u8 (x.val : Int)) := by
  obtain ⟨b, o, e, hne, hat⟩ := h.get hk
  refine ⟨b, o, e, hne, hat.1, ?_⟩
  have := hat.cell 0 _ rfl
  have e1 : o + k * tY.n + 0 = o + k := by show o + k * 1 + 0 = _; omega
  rw [e1] at this
  exact this
theorem SlX.ss {p : Nat} {w : World} {a0 : Option Addr} {n cap : Nat} {l : List Sn} (h : SlX tYY p w (.slice a0 n cap) l) {k : Nat} {x : Sn} (hk : l[k]? = some x) :
    ∃ b o, a0 = some ⟨b, o, none⟩ ∧ b ≠ p ∧ b < w.heap.size ∧ w.cell? ⟨b, o + k, none⟩ = some (.slice x.a x.n x.c) := by
  obtain ⟨b, o, e, hne, hat⟩ := h.get hk
  refine ⟨b, o, e, hne, hat.1, ?_⟩
  have := hat.cell 0 _ rfl
  have e1 : o + k * tYY.n + 0 = o + k := by show o + k * 1 + 0 = _; omega
  rw [e1] at this
  exact this
theorem OwR.by' {B g n c : Nat} {w : World} {l : List By} (h : OwR tY B w (.slice (some ⟨g, 0, none⟩) n c) l) {k : Nat} {x : By} (hk : l[k]? = some x) : w.cell? ⟨g, k, none⟩ = some (.int .u8 (x.val : Int)) := by
  have := (h.at hk).cell 0 _ rfl
  have e1 : 0 + k * tY.n + 0 = k := by show 0 + k * 1 + 0 = _; omega
  rw [e1] at this
  exact this
def setF {α : Type} (f : Nat → α) (k : Nat) (x : α) : Nat → α := fun i => if i = k then x else f i
theorem setF_self {α : Type} (f : Nat → α) (k : Nat) (x : α) : setF f k x k = x := by simp [setF]
theorem setF_ne {α : Type} {f : Nat → α} {k i : Nat} {x : α} (h : i ≠ k) : setF f k x i = f i := by simp [setF, h]
theorem slx_fit {α : Type} {R : RT Try.prog α} {p : Nat} {w : World} {a : Option Addr} {n c : Nat} {l : List α} (h : SlX R p w (.slice a n c) l) : n = l.length ∧ n ≤ c ∧ c ≤ 9223372036854775807 := by
  obtain ⟨a1, c1, e, h1, h2⟩ := h.form
  injection e with _ e1 e2
  subst e1; subst e2
  unfold maxLen at h2
  exact ⟨rfl, h1, by omega⟩
theorem SlX.slby {p : Nat} {w : World} {v : Value} {l : List By} (h : SlX tY p w v l) : SlBy w.heap.size w v (l.map (·.val)) := by
  obtain ⟨a0, cap, rfl, h1, h2⟩ := h.form
  refine ⟨a0, cap, by rw [List.length_map], by rw [List.length_map]; exact h1, h2, fun k x hx => ?_⟩
  rw [List.getElem?_map] at hx
  cases hl : l[k]? with
  | none => rw [hl] at hx; cases hx
  | some y =>
    rw [hl] at hx
    injection hx with hx
    subst hx
    obtain ⟨b, o, e, _, hlt, hc⟩ := SlX.by' h hl
    exact ⟨b, o, e, hlt, y.isLt, hc⟩
theorem map_val {l l' : List By} : l.map (·.val) = l'.map (·.val) ↔ l = l' := by
  constructor
  · intro h
    induction l generalizing l' with
    | nil => cases l' with
      | nil => rfl
      | cons b t => simp at h
    | cons a t ih => cases l' with
      | nil => simp at h
      | cons b t' =>
        simp only [List.map_cons, List.cons.injEq] at h
        rw [Fin.ext h.1, ih h.2]
  · intro h; rw [h]
theorem samebytesY (w : World) (p q : Nat) (v v' : Value) (l l' : List By) (h : SlX tY p w v l) (h' : SlX tY q w v' l') :
    Calls Try.prog 15 #[v, v'] w fun e w' => e = .returned (.bool (decide (l = l'))) ∧ Below w.heap.size w w' := by
  refine (samebytes_ok w _ _ v v' _ _ (SlX.slby h) (SlX.slby h')).mono ?_
  rintro e w' ⟨rfl, rfl⟩
  have : decide (l.map (·.val) = l'.map (·.val)) = decide (l = l') := decide_eq_decide.2 map_val
  rw [this]
  exact ⟨rfl, bRefl _⟩
theorem slx_rds {p : Nat} {w : World} {a0 : Option Addr} {n cap : Nat} {l : List By} (h : SlX tY p w (.slice a0 n cap) l) : Rds tY w.heap.size w a0 l := fun k x hx => by
  obtain ⟨b, o, e, _, hat⟩ := h.get hx
  exact ⟨b, o, e, hat.1, hat.2⟩
theorem copybytesY (w : World) (p : Nat) (v : Value) (l : List By) (h : SlX tY p w v l) (hl : l.length ≤ 1099511627776) :
    Calls Try.prog 24 #[v] w fun e w' => Below w.heap.size w w' ∧ ∃ s : Sn, e = .returned (.slice s.a s.n s.c) ∧ OwR tY w.heap.size w' s.v l := by
  obtain ⟨a0, cap, rfl, h1, h2⟩ := h.form
  have HR := Lib.hid (slx_rds h)
  clear h
  go_enter Try.func24, Try.ntmps24
  go_wp2_with (at_builtin; refine wpl_copyNil tY rfl _ _ rfl rfl w.heap.size a0 l.length cap l rfl rfl HR.out (by unfold maxLen; omega) (by show _ * 1 ≤ _; omega) ?_; intro v' w' hown hb)
  have HO := Lib.hid hown
  have HB := Lib.hid hb
  obtain ⟨a, c, rfl⟩ := owr_form hown
  clear hown hb
  go_wp2
  go_ret
  exact ⟨HB.out, ⟨a, _, c⟩, rfl, HO.out⟩
def bkv (id : Int) (j : Nat) : By := Fin.ofNat 256 (37 * id.toNat + 11 * j + id.toNat / 7)
theorem bown_ok (w : World) (id : Int) (j : Nat) (h0 : 0 ≤ id) (h1 : id ≤ 1099511627) (hj : j ≤ 1099511627776) :
    Calls Try.prog 66 #[.int .i64 id, .int .i64 (j : Int)] w fun e w' => e = .returned (.int .u8 ((bkv id j).val : Int)) ∧ w' = w := by
  obtain ⟨k, rfl⟩ := Int.eq_ofNat_of_zero_le h0
  have s1 : IntKind.i64.wrap (37 * (k : Int)) = 37 * (k : Int) := IntWalk.i64_in _ (by omega)
  have s2 : IntKind.i64.wrap (11 * (j : Int)) = 11 * (j : Int) := IntWalk.i64_in _ (by omega)
  have s3 : IntKind.i64.wrap (37 * (k : Int) + 11 * (j : Int)) = 37 * (k : Int) + 11 * (j : Int) := IntWalk.i64_in _ (by omega)
  have s4 : IntKind.i64.wrap ((k : Int) / 7) = (k : Int) / 7 := IntWalk.i64_in _ (by omega)
  have s5 : IntKind.i64.wrap (37 * (k : Int) + 11 * (j : Int) + (k : Int) / 7) = 37 * (k : Int) + 11 * (j : Int) + (k : Int) / 7 := IntWalk.i64_in _ (by omega)
  have s6 : IntKind.u8.wrap (37 * (k : Int) + 11 * (j : Int) + (k : Int) / 7) = ((bkv (k : Int) j).val : Int) := by
    rw [IntKind.wrap_u8]
    unfold bkv
    simp only [Fin.ofNat, Int.toNat_natCast]
    omega
  have s7 : Int.tdiv (k : Int) 7 = (k : Int) / 7 := by rw [Int.tdiv_eq_ediv_of_nonneg (by omega)]
  go_enter Try.func66, Try.ntmps66
  go_wp2
  go_ret
  exact ⟨by first | rfl | (rw [← s6]; rfl), rfl⟩
end Go.Proofs.Ytfdjdpbiccclfaa
namespace Go.Proofs.Ytfdjdpbiccclfaa
open Go Go.RowKit Go.Wr
set_option maxHeartbeats 4000000
set_option maxRecDepth 100000
def lgC (tot : Int × Int) (fv wv kv sv : Value) : Array Value := #[.int .i64 tot.1, .int .i64 tot.2, fv, wv, kv, sv, .bool false]
theorem lg_still {w : World} {p : Nat} {tot : Int × Int} {fv wv kv sv : Value} (h : Blk w p 51 (lgC tot fv wv kv sv)) : Below w.heap.size w (w.setCell ⟨p, 6, none⟩ (.bool false)) ∧ Blk (w.setCell ⟨p, 6, none⟩ (.bool false)) p 51 (lgC tot fv wv kv sv) := by
  have e := h.set 6 (.bool false)
  have e2 : (lgC tot fv wv kv sv).setIfInBounds 6 (.bool false) = lgC tot fv wv kv sv := rfl
  rw [e2] at e
  have hb := (Below.refl 0 w).setCell (p := ⟨p, 6, none⟩) (Nat.zero_le _) (.bool false)
  refine ⟨⟨hb.os, hb.tape, hb.output, hb.size, fun k hk => ?_⟩, e⟩
  by_cases hkp : k = p
  · subst hkp
    have e1 : (w.setCell ⟨k, 6, none⟩ (.bool false)).heap[k]? = some (.cells (lgC tot fv wv kv sv) 51 (0, 0)) := e
    have e3 : w.heap[k]? = some (.cells (lgC tot fv wv kv sv) 51 (0, 0)) := h
    rw [e1, e3]
  · exact Below.heap_setCell w ⟨p, 6, none⟩ _ k hkp
theorem look_ok (W : World) (p : Nat) (tot : Int × Int) (fv wv : Sn) (kv sv : Value) (fr wl : List Sn) (hp : Blk W p 51 (lgC tot fv.v wv.v kv sv))
    (hf : SlX tYY p W fv.v fr) (hw : SlX tYY p W wv.v wl) (h3 : fr.length ≤ 1099511627776)
    (hs : ∀ (k : Nat) (s : Sn), fr[k]? = some s → ∃ t l, wl[k]? = some t ∧ SlX tY p W s.v l ∧ SlX tY p W t.v l) :
    Calls Try.prog 65 #[.pointer (some ⟨p, 0, none⟩)] W fun e w' => e = .returned (.tuple #[]) ∧ Below W.heap.size W w' := by
  have mix : Try.prog.follows .mixedOrders = true := by kernel_rfl
  obtain ⟨fa, fn, fc⟩ := fv
  obtain ⟨wa, wn, wc⟩ := wv
  unfold Sn.v at hp hf hw
  simp only at hp hf hw
  obtain ⟨rfl, f1, f2⟩ := slx_fit hf
  obtain ⟨rfl, g1, g2⟩ := slx_fit hw
  have HF := Lib.hid hf
  have HW := Lib.hid hw
  have HS := Lib.hid hs
  have HP := Lib.hid hp
  obtain ⟨P, hPd⟩ : ∃ P : World → Prop, P = fun w' => Below W.heap.size W w' ∧ Blk w' p 51 (lgC tot (.slice fa fr.length fc) (.slice wa wl.length wc) kv sv) := ⟨_, rfl⟩
  have HPd := Lib.hid hPd
  have cell : ∀ w', P w' → w'.cell? ⟨p, 2, none⟩ = some (.slice fa fr.length fc) ∧ w'.cell? ⟨p, 3, none⟩ = some (.slice wa wl.length wc) ∧ w'.cell? ⟨p, 6, none⟩ = some (.bool false) ∧ w'.frozen? ⟨p, 6, none⟩ = false := fun w' h => by
    rw [hPd] at h
    exact ⟨h.2.cell 2, h.2.cell 3, h.2.cell 6, h.2.frozen 6⟩
  have HC := Lib.hid cell
  have h0 : P W := by rw [hPd]; exact ⟨bRefl W, hp⟩
  clear hf hw hs hp hPd cell
  go_enter Try.func65, Try.ntmps65
  go_wp2
  go_loopw [2] (fun t wr' => ∃ i : Nat, i ≤ fr.length ∧ t = .int .i64 (i : Int) ∧ Hid (P wr')) (fun t _ => fr.length - (intOf t).toNat)
  case atStart => exact ⟨0, by omega, rfl, h0⟩
  case round =>
    obtain ⟨i, hi, rfl, hb⟩ := hrel
    clear h0
    obtain ⟨c1, c2, c5, _⟩ := HC.out _ hb.out
    by_cases hit : i < fr.length
    · have hit' : (i : Int) < (fr.length : Int) := by omega
      have hi0 : (0 : Int) ≤ (i : Int) := by omega
      obtain ⟨⟨sa, sn, sc⟩, hsi⟩ : ∃ s, fr[i]? = some s := ⟨_, List.getElem?_eq_getElem hit⟩
      obtain ⟨⟨ta, tn, tc⟩, l, hti, k1, k2⟩ := HS.out i _ hsi
      have hwt : i < wl.length := (List.getElem?_eq_some_iff.1 hti).1
      have hwt' : (i : Int) < (wl.length : Int) := by omega
      have hb1 := hb.out
      rw [HPd.out] at hb1
      obtain ⟨b, o, rfl, _, _, cs⟩ := SlX.ss (HF.out.below hb1.1) hsi
      obtain ⟨b', o', rfl, _, _, ct⟩ := SlX.ss (HW.out.below hb1.1) hti
      unfold Sn.v at k1 k2
      simp only at cs ct k1 k2
      have K1 := Lib.hid k1
      have K2 := Lib.hid k2
      clear hsi hti k1 k2 hb1
      go_upto_region 3 with (fail)
      refine wp_region_held_drew (S := fun w' => w'.cell? ⟨p, 2, none⟩ = some (.slice (some ⟨b, o, none⟩) fr.length fc) ∧ w'.cell? ⟨p, 3, none⟩ = some (.slice (some ⟨b', o', none⟩) wl.length wc) ∧ w'.cell? ⟨p, 6, none⟩ = some (.bool false) ∧ w'.cell? ⟨b, o + i, none⟩ = some (.slice sa sn sc) ∧ w'.cell? ⟨b', o' + i, none⟩ = some (.slice ta tn tc) ∧ Hid (P w')) mix ⟨c1, c2, c5, cs, ct, by have := hb.out; rw [HPd.out] at this ⊢; exact ⟨⟨this.1.os, this.1.tape, this.1.output, this.1.size, this.1.block⟩, this.2⟩⟩ (fun hS => ?_)
      clear c1 c2 c5 cs ct hb
      refine wpAnyH_take (i := 0) (v := .pointer (some ⟨p, 0, none⟩)) rfl (by kernel_rfl) (by kernel_rfl) (by kernel_rfl) (fun _ _ _ h => h) (Or.inl ⟨by rfl, fun w' hw' => by (try go_split_ands); go_simp <;> omega⟩) hS ?_
      simp only [Act.put, List.getElem_toArray, List.getElem_cons_zero, List.setIfInBounds_toArray, List.set_cons_zero, List.set_cons_succ]
      refine wpAnyH_take (i := 1) (v := .pointer (some ⟨p, 0, none⟩)) rfl (by kernel_rfl) (by kernel_rfl) (by kernel_rfl) (fun _ _ _ h => h) (Or.inl ⟨by rfl, fun w' hw' => by (try go_split_ands); go_simp <;> omega⟩) hS ?_
      simp only [Act.put, List.getElem_toArray, List.getElem_cons_zero, List.getElem_cons_succ, List.setIfInBounds_toArray, List.set_cons_zero, List.set_cons_succ]
      refine wpAnyH_take (i := 2) (v := .pointer (some ⟨p, 0, none⟩)) rfl (by kernel_rfl) (by kernel_rfl) (by kernel_rfl) (fun _ _ _ h => h) (Or.inl ⟨by rfl, fun w' hw' => by (try go_split_ands); go_simp <;> omega⟩) hS ?_
      simp only [Act.put, List.getElem_toArray, List.getElem_cons_zero, List.getElem_cons_succ, List.setIfInBounds_toArray, List.set_cons_zero, List.set_cons_succ]
      refine wpAnyH_take (i := 3) (v := .pointer (some ⟨p, 6, none⟩)) rfl (by kernel_rfl) (by kernel_rfl) (by kernel_rfl) (fun _ _ _ h => h) (Or.inl ⟨by rfl, fun w' hw' => by (try go_split_ands); go_simp <;> omega⟩) hS ?_
      simp only [Act.put, List.getElem_toArray, List.getElem_cons_zero, List.getElem_cons_succ, List.setIfInBounds_toArray, List.set_cons_zero, List.set_cons_succ]
      refine wpAnyH_take (i := 4) (v := .bool false) rfl (by kernel_rfl) (by kernel_rfl) (by kernel_rfl) (fun _ _ _ h => h) (Or.inl ⟨by rfl, fun w' hw' => by (try go_split_ands); go_simp <;> omega⟩) hS ?_
      simp only [Act.put, List.getElem_toArray, List.getElem_cons_zero, List.getElem_cons_succ, List.setIfInBounds_toArray, List.set_cons_zero, List.set_cons_succ]
      refine wpAnyH_take (i := 5) (v := .bool false) rfl (by kernel_rfl) (by kernel_rfl) (by kernel_rfl) (fun _ _ _ h => h) (Or.inl ⟨by rfl, fun w' hw' => by (try go_split_ands); go_simp <;> omega⟩) hS ?_
      simp only [Act.put, List.getElem_toArray, List.getElem_cons_zero, List.getElem_cons_succ, List.setIfInBounds_toArray, List.set_cons_zero, List.set_cons_succ]
      refine wpAnyH_take (i := 6) (v := .pointer (some ⟨p, 0, none⟩)) rfl (by kernel_rfl) (by kernel_rfl) (by kernel_rfl) (fun _ _ _ h => h) (Or.inl ⟨by rfl, fun w' hw' => by (try go_split_ands); go_simp <;> omega⟩) hS ?_
      simp only [Act.put, List.getElem_toArray, List.getElem_cons_zero, List.getElem_cons_succ, List.setIfInBounds_toArray, List.set_cons_zero, List.set_cons_succ]
      refine wpAnyH_take (i := 7) (v := .pointer (some ⟨p, 0, none⟩)) rfl (by kernel_rfl) (by kernel_rfl) (by kernel_rfl) (fun _ _ _ h => h) (Or.inl ⟨by rfl, fun w' hw' => by (try go_split_ands); go_simp <;> omega⟩) hS ?_
      simp only [Act.put, List.getElem_toArray, List.getElem_cons_zero, List.getElem_cons_succ, List.setIfInBounds_toArray, List.set_cons_zero, List.set_cons_succ]
      refine wpAnyH_take (i := 8) (v := .pointer (some ⟨p, 2, none⟩)) rfl (by kernel_rfl) (by kernel_rfl) (by kernel_rfl) (fun _ _ _ h => h) (Or.inl ⟨by rfl, fun w' hw' => by (try go_split_ands); go_simp <;> omega⟩) hS ?_
      simp only [Act.put, List.getElem_toArray, List.getElem_cons_zero, List.getElem_cons_succ, List.setIfInBounds_toArray, List.set_cons_zero, List.set_cons_succ]
      refine wpAnyH_take (i := 9) (v := .slice (some ⟨b, o, none⟩) fr.length fc) rfl (by kernel_rfl) (by kernel_rfl) (by kernel_rfl) (fun _ _ _ h => h) (Or.inl ⟨by rfl, fun w' hw' => by (try go_split_ands); go_simp <;> omega⟩) hS ?_
      simp only [Act.put, List.getElem_toArray, List.getElem_cons_zero, List.getElem_cons_succ, List.setIfInBounds_toArray, List.set_cons_zero, List.set_cons_succ]
      refine wpAnyH_take (i := 10) (v := .int .i64 (i : Int)) rfl (by kernel_rfl) (by kernel_rfl) (by kernel_rfl) (fun _ _ _ h => h) (Or.inl ⟨by rfl, fun w' hw' => by (try go_split_ands); go_simp <;> omega⟩) hS ?_
      simp only [Act.put, List.getElem_toArray, List.getElem_cons_zero, List.getElem_cons_succ, List.setIfInBounds_toArray, List.set_cons_zero, List.set_cons_succ]
      refine wpAnyH_take (i := 11) (v := .pointer (some ⟨b, o + i, none⟩)) rfl (by kernel_rfl) (by kernel_rfl) (by kernel_rfl) (fun _ _ _ h => h) (Or.inl ⟨by rfl, fun w' hw' => by (try go_split_ands); go_simp <;> omega⟩) hS ?_
      simp only [Act.put, List.getElem_toArray, List.getElem_cons_zero, List.getElem_cons_succ, List.setIfInBounds_toArray, List.set_cons_zero, List.set_cons_succ]
      refine wpAnyH_take (i := 12) (v := .slice sa sn sc) rfl (by kernel_rfl) (by kernel_rfl) (by kernel_rfl) (fun _ _ _ h => h) (Or.inl ⟨by rfl, fun w' hw' => by (try go_split_ands); go_simp <;> omega⟩) hS ?_
      simp only [Act.put, List.getElem_toArray, List.getElem_cons_zero, List.getElem_cons_succ, List.setIfInBounds_toArray, List.set_cons_zero, List.set_cons_succ]
      refine wpAnyH_take (i := 13) (v := .pointer (some ⟨p, 0, none⟩)) rfl (by kernel_rfl) (by kernel_rfl) (by kernel_rfl) (fun _ _ _ h => h) (Or.inl ⟨by rfl, fun w' hw' => by (try go_split_ands); go_simp <;> omega⟩) hS ?_
      simp only [Act.put, List.getElem_toArray, List.getElem_cons_zero, List.getElem_cons_succ, List.setIfInBounds_toArray, List.set_cons_zero, List.set_cons_succ]
      refine wpAnyH_take (i := 14) (v := .pointer (some ⟨p, 0, none⟩)) rfl (by kernel_rfl) (by kernel_rfl) (by kernel_rfl) (fun _ _ _ h => h) (Or.inl ⟨by rfl, fun w' hw' => by (try go_split_ands); go_simp <;> omega⟩) hS ?_
      simp only [Act.put, List.getElem_toArray, List.getElem_cons_zero, List.getElem_cons_succ, List.setIfInBounds_toArray, List.set_cons_zero, List.set_cons_succ]
      refine wpAnyH_take (i := 15) (v := .pointer (some ⟨p, 3, none⟩)) rfl (by kernel_rfl) (by kernel_rfl) (by kernel_rfl) (fun _ _ _ h => h) (Or.inl ⟨by rfl, fun w' hw' => by (try go_split_ands); go_simp <;> omega⟩) hS ?_
      simp only [Act.put, List.getElem_toArray, List.getElem_cons_zero, List.getElem_cons_succ, List.setIfInBounds_toArray, List.set_cons_zero, List.set_cons_succ]
      refine wpAnyH_take (i := 16) (v := .slice (some ⟨b', o', none⟩) wl.length wc) rfl (by kernel_rfl) (by kernel_rfl) (by kernel_rfl) (fun _ _ _ h => h) (Or.inl ⟨by rfl, fun w' hw' => by (try go_split_ands); go_simp <;> omega⟩) hS ?_
      simp only [Act.put, List.getElem_toArray, List.getElem_cons_zero, List.getElem_cons_succ, List.setIfInBounds_toArray, List.set_cons_zero, List.set_cons_succ]
      refine wpAnyH_take (i := 17) (v := .int .i64 (i : Int)) rfl (by kernel_rfl) (by kernel_rfl) (by kernel_rfl) (fun _ _ _ h => h) (Or.inl ⟨by rfl, fun w' hw' => by (try go_split_ands); go_simp <;> omega⟩) hS ?_
      simp only [Act.put, List.getElem_toArray, List.getElem_cons_zero, List.getElem_cons_succ, List.setIfInBounds_toArray, List.set_cons_zero, List.set_cons_succ]
      refine wpAnyH_take (i := 18) (v := .pointer (some ⟨b', o' + i, none⟩)) rfl (by kernel_rfl) (by kernel_rfl) (by kernel_rfl) (fun _ _ _ h => h) (Or.inl ⟨by rfl, fun w' hw' => by (try go_split_ands); go_simp <;> omega⟩) hS ?_
      simp only [Act.put, List.getElem_toArray, List.getElem_cons_zero, List.getElem_cons_succ, List.setIfInBounds_toArray, List.set_cons_zero, List.set_cons_succ]
      refine wpAnyH_take (i := 19) (v := .slice ta tn tc) rfl (by kernel_rfl) (by kernel_rfl) (by kernel_rfl) (fun _ _ _ h => h) (Or.inl ⟨by rfl, fun w' hw' => by (try go_split_ands); go_simp <;> omega⟩) hS ?_
      simp only [Act.put, List.getElem_toArray, List.getElem_cons_zero, List.getElem_cons_succ, List.setIfInBounds_toArray, List.set_cons_zero, List.set_cons_succ]
      refine wpAnyH_ready (rs := [20]) (by kernel_rfl) (by simp) ?_
      refine AllReadyH.cons rfl (fun K hK => ?_) AllReadyH.nil
      go_simp
      go_wp2_with fail
      have hS6 := hS.2.2.2.2.2.out
      rw [HPd.out] at hS6
      have hx1 := K1.out.below hS6.1
      have hx2 := K2.out.below hS6.1
      refine (samebytesY _ p p (.slice sa sn sc) (.slice ta tn tc) l l hx1 hx2).mono ?_
      rintro e w8 ⟨rfl, hb8⟩
      rw [decide_eq_true (rfl : l = l)]
      have hP8 : P w8 := by rw [HPd.out]; exact ⟨bThen hS6.1 hb8, hS6.2.below hb8 hS6.2.lt⟩
      have hS8 : w8.cell? ⟨p, 2, none⟩ = some (.slice (some ⟨b, o, none⟩) fr.length fc) ∧ w8.cell? ⟨p, 3, none⟩ = some (.slice (some ⟨b', o', none⟩) wl.length wc) ∧ w8.cell? ⟨p, 6, none⟩ = some (.bool false) ∧ w8.cell? ⟨b, o + i, none⟩ = some (.slice sa sn sc) ∧ w8.cell? ⟨b', o' + i, none⟩ = some (.slice ta tn tc) ∧ Hid (P w8) :=
        ⟨(HC.out _ hP8).1, (HC.out _ hP8).2.1, (HC.out _ hP8).2.2.1, (hb8.cell (World.block_lt_of_cell? _ _ hS.2.2.2.1)).trans hS.2.2.2.1, (hb8.cell (World.block_lt_of_cell? _ _ hS.2.2.2.2.1)).trans hS.2.2.2.2.1, hP8⟩
      clear hS6 hx1 hx2 hb8 hS hP8
      go_wp2_with fail
      refine hK.out _ _ hS8 (fun hS => ?_)
      clear hK K hS8
      refine wpAnyH_ready (rs := [21]) (by kernel_rfl) (by simp) ?_
      refine AllReadyH.cons rfl (fun K hK => ?_) AllReadyH.nil
      go_simp
      refine hK.out _ _ hS (fun _ => ?_)
      clear hK K
      refine wpAnyH_ready (rs := [22]) (by kernel_rfl) (by simp) ?_
      refine AllReadyH.cons rfl (fun K hK => ?_) AllReadyH.nil
      go_simp
      refine hK.out _ _ hS (fun _ => ?_)
      clear hK K
      refine wpAnyH_ready (rs := [23]) (by kernel_rfl) (by simp) ?_
      refine AllReadyH.cons rfl (fun K hK => ?_) AllReadyH.nil
      go_simp
      refine hK.out _ _ hS (fun _ => ?_)
      clear hK K
      refine wpAnyH_ready (rs := [24]) (by kernel_rfl) (by simp) ?_
      refine AllReadyH.cons rfl (fun K hK => ?_) AllReadyH.nil
      go_simp
      refine hK.out _ _ hS (fun _ => ?_)
      clear hK K
      have hF := (HC.out _ hS.2.2.2.2.2.out).2.2.2
      refine wpAnyH_ready (rs := [25]) (by kernel_rfl) (by simp) ?_
      refine AllReadyH.cons rfl (fun K hK => ?_) AllReadyH.nil
      go_simp
      have hS6 := hS.2.2.2.2.2.out
      rw [HPd.out] at hS6
      obtain ⟨s1, s2⟩ := lg_still hS6.2
      obtain ⟨w9, hw9⟩ : ∃ x, x = w8.setCell ⟨p, 6, none⟩ (.bool false) := ⟨_, rfl⟩
      rw [← hw9] at s1 s2 ⊢
      have hP9 : P w9 := by rw [HPd.out]; exact ⟨bThen hS6.1 s1, s2⟩
      have hS9 : w9.cell? ⟨p, 2, none⟩ = some (.slice (some ⟨b, o, none⟩) fr.length fc) ∧ w9.cell? ⟨p, 3, none⟩ = some (.slice (some ⟨b', o', none⟩) wl.length wc) ∧ w9.cell? ⟨p, 6, none⟩ = some (.bool false) ∧ w9.cell? ⟨b, o + i, none⟩ = some (.slice sa sn sc) ∧ w9.cell? ⟨b', o' + i, none⟩ = some (.slice ta tn tc) ∧ Hid (P w9) :=
        ⟨(HC.out _ hP9).1, (HC.out _ hP9).2.1, (HC.out _ hP9).2.2.1, (s1.cell (World.block_lt_of_cell? _ _ hS.2.2.2.1)).trans hS.2.2.2.1, (s1.cell (World.block_lt_of_cell? _ _ hS.2.2.2.2.1)).trans hS.2.2.2.2.1, hP9⟩
      refine hK.out _ _ hS9 (fun hS => ?_)
      clear hK K hS9 hw9 s1 s2 hS6
      refine wpAnyH_done (by kernel_rfl) ?_ _
      have hb3 := hS.2.2.2.2.2
      clear hS
      go_wp2
      go_roundw
      all_goals first
        | exact ⟨i + 1, by omega, by go_num, hb3.out⟩
        | ((repeat apply Exists.intro); exact ⟨⟨i + 1, by omega, by go_num, hb3.out⟩, rfl⟩)
        | (simp [intOf] <;> omega)
    · obtain rfl : i = fr.length := by omega
      clear hit
      go_wp2
      go_end0
      have hb1 := hb.out
      rw [HPd.out] at hb1
      exact ⟨rfl, hb1.1⟩
def mine (id : Int) (n : Nat) : List By := (List.range n).map fun j : Nat => bkv id j
theorem mine_get {id : Int} {n k : Nat} (h : k < n) : (mine id n)[k]? = some (bkv id k) := by
  unfold mine
  rw [List.getElem?_map, List.getElem?_range h]
  rfl
theorem mine_len (id : Int) (n : Nat) : (mine id n).length = n := by simp [mine]
theorem holds_ok (W : World) (p : Nat) (tot : Int × Int) (fv wv kv sv : Sn) (fr wl kl : List Sn) (ids : List Int) (hp : Blk W p 51 (lgC tot fv.v wv.v kv.v sv.v))
    (hf : SlX tYY p W fv.v fr) (hw : SlX tYY p W wv.v wl) (h3 : fr.length ≤ 1099511627776)
    (hs : ∀ (k : Nat) (s : Sn), fr[k]? = some s → ∃ t l, wl[k]? = some t ∧ SlX tY p W s.v l ∧ SlX tY p W t.v l)
    (hk : SlX tYY p W kv.v kl) (hi : SlX tI p W sv.v ids) (hl : kl.length = ids.length)
    (hks : ∀ (k : Nat) (s : Sn), kl[k]? = some s → ∃ (x : Int) (n : Nat), ids[k]? = some x ∧ 0 ≤ x ∧ x ≤ 1099511627 ∧ n ≤ 1099511627776 ∧ SlX tY p W s.v (mine x n)) :
    Calls Try.prog 46 #[.pointer (some ⟨p, 0, none⟩)] W fun e w' => e = .returned (.bool true) ∧ Below W.heap.size W w' := by
  have mix : Try.prog.follows .mixedOrders = true := by kernel_rfl
  have HL := Lib.hid (look_ok W p tot fv wv kv.v sv.v fr wl hp hf hw h3 hs)
  obtain ⟨fa, fn, fc⟩ := fv
  obtain ⟨wa, wn, wc⟩ := wv
  obtain ⟨ka, kn, kc⟩ := kv
  obtain ⟨ia, iN, ic⟩ := sv
  unfold Sn.v at hp hf hw hk hi
  simp only at hp hf hw hk hi
  clear hf hw hs h3
  obtain ⟨rfl, f1, f2⟩ := slx_fit hk
  obtain ⟨rfl, g1, g2⟩ := slx_fit hi
  have HF := Lib.hid hk
  have HI := Lib.hid hi
  have HS := Lib.hid hks
  have HP := Lib.hid hp
  have HLn := Lib.hid hl
  obtain ⟨P, hPd⟩ : ∃ P : World → Prop, P = fun w' => Below W.heap.size W w' ∧ Blk w' p 51 (lgC tot (.slice fa fn fc) (.slice wa wn wc) (.slice ka kl.length kc) (.slice ia ids.length ic)) := ⟨_, rfl⟩
  have HPd := Lib.hid hPd
  have cell : ∀ w', P w' → w'.cell? ⟨p, 4, none⟩ = some (.slice ka kl.length kc) ∧ w'.cell? ⟨p, 5, none⟩ = some (.slice ia ids.length ic) ∧ w'.cell? ⟨p, 6, none⟩ = some (.bool false) ∧ w'.frozen? ⟨p, 6, none⟩ = false := fun w' h => by
    rw [hPd] at h
    exact ⟨h.2.cell 4, h.2.cell 5, h.2.cell 6, h.2.frozen 6⟩
  have HC := Lib.hid cell
  clear hk hi hks hPd cell hl
  go_enter Try.func46, Try.ntmps46
  go_wp2_with fail
  refine HL.out.mono ?_
  rintro e w1 ⟨rfl, hb1⟩
  have h0 : Hid (P w1) := by show P w1; rw [HPd.out]; exact ⟨hb1, HP.out.below hb1 HP.out.lt⟩
  clear hp hb1 HP HL
  go_wp2
  go_loopw [3] (fun t wr' => ∃ i : Nat, i ≤ kl.length ∧ t = .int .i64 (i : Int) ∧ Hid (P wr')) (fun t _ => kl.length - (intOf t).toNat)
  case atStart => exact ⟨0, by omega, rfl, h0⟩
  case round =>
    obtain ⟨i, hi, rfl, hb⟩ := hrel
    clear h0
    obtain ⟨c1, c2, c5, _⟩ := HC.out _ hb.out
    by_cases hit : i < kl.length
    · have hit' : (i : Int) < (kl.length : Int) := by omega
      have hi0 : (0 : Int) ≤ (i : Int) := by omega
      obtain ⟨⟨sa, sn, sc⟩, hsi⟩ : ∃ s, kl[i]? = some s := ⟨_, List.getElem?_eq_getElem hit⟩
      obtain ⟨x, n, hx, x0, x1, n1, k1⟩ := HS.out i _ hsi
      have hwt' : (i : Int) < (ids.length : Int) := by have := HLn.out; omega
      have hb1 := hb.out
      rw [HPd.out] at hb1
      obtain ⟨b, o, rfl, _, hblt, cs⟩ := SlX.ss (HF.out.below hb1.1) hsi
      obtain ⟨b', o', rfl, _, hblt', ci⟩ := SlX.int (HI.out.below hb1.1) hx
      unfold Sn.v at k1
      simp only at cs ci k1
      obtain ⟨en, q1, q2⟩ := slx_fit k1
      rw [mine_len] at en
      subst en
      have K1 := Lib.hid k1
      obtain ⟨w2, hw2⟩ : ∃ w2, w2 = wr := ⟨_, rfl⟩
      have HQ : Hid (P w2 ∧ w2.cell? ⟨b, o + i, none⟩ = some (.slice sa sn sc) ∧ w2.cell? ⟨b', o' + i, none⟩ = some (.int .i64 x)) := by rw [hw2]; exact ⟨hb.out, cs, ci⟩
      have hbl : b < w2.heap.size := by rw [hw2]; exact hblt
      have hbl' : b' < w2.heap.size := by rw [hw2]; exact hblt'
      have HB2 : Hid (Below W.heap.size W w2) := by rw [hw2]; exact hb1.1
      have hstart : Below w2.heap.size w2 wr := by rw [hw2]; exact bRefl wr
      have hpw : P wr := hb.out
      clear hsi hx k1 hw2 hb hb1 hblt hblt'
      go_wp2
      go_loopw [4] (fun t wr' => ∃ j : Nat, j ≤ sn ∧ t = .int .i64 (j : Int) ∧ Hid (Below w2.heap.size w2 wr' ∧ P wr')) (fun t _ => sn - (intOf t).toNat)
      case atStart => exact ⟨0, by omega, rfl, hstart, hpw⟩
      case round =>
        obtain ⟨j, hj, rfl, hb⟩ := hrel
        clear hstart hpw cs ci c1 c2 c5
        obtain ⟨c1, c2, c5, _⟩ := HC.out _ hb.out.2
        have cs := (hb.out.1.cell (p := ⟨b, o + i, none⟩) hbl).trans HQ.out.2.1
        have ci := (hb.out.1.cell (p := ⟨b', o' + i, none⟩) hbl').trans HQ.out.2.2
        by_cases hjt : j < sn
        · have hjt' : (j : Int) < (sn : Int) := by omega
          have hj0 : (0 : Int) ≤ (j : Int) := by omega
          have hb1 := hb.out.2
          rw [HPd.out] at hb1
          obtain ⟨b2, o2, rfl, _, hblt2, cj⟩ := SlX.by' (K1.out.below hb1.1) (mine_get hjt)
          clear hb1
          obtain ⟨val, hval⟩ : ∃ v : Int, v = ((bkv x j).val : Int) := ⟨_, rfl⟩
          have hne : (val != val) = false := by simp
          rw [← hval] at cj
          go_upto_region 8 with (fail)
          refine wp_region_held_drew (S := fun w' => w'.cell? ⟨p, 4, none⟩ = some (.slice (some ⟨b, o, none⟩) kl.length kc) ∧ w'.cell? ⟨p, 5, none⟩ = some (.slice (some ⟨b', o', none⟩) ids.length ic) ∧ w'.cell? ⟨p, 6, none⟩ = some (.bool false) ∧ w'.cell? ⟨b, o + i, none⟩ = some (.slice (some ⟨b2, o2, none⟩) sn sc) ∧ w'.cell? ⟨b', o' + i, none⟩ = some (.int .i64 x) ∧ w'.cell? ⟨b2, o2 + j, none⟩ = some (.int .u8 val) ∧ b2 < w'.heap.size ∧ Hid (Below w2.heap.size w2 w' ∧ P w')) mix ⟨c1, c2, c5, cs, ci, cj, hblt2, by have := hb.out; rw [HPd.out] at this ⊢; exact ⟨⟨this.1.os, this.1.tape, this.1.output, this.1.size, this.1.block⟩, ⟨this.2.1.os, this.2.1.tape, this.2.1.output, this.2.1.size, this.2.1.block⟩, this.2.2⟩⟩ (fun hS => ?_)
          clear c1 c2 c5 cs ci cj hb hblt2
          refine wpAnyH_take (i := 0) (v := .pointer (some ⟨p, 0, none⟩)) rfl (by kernel_rfl) (by kernel_rfl) (by kernel_rfl) (fun _ _ _ h => h) (Or.inl ⟨by rfl, fun w' hw' => by (try go_split_ands); go_simp <;> omega⟩) hS ?_
          simp only [Act.put, List.getElem_toArray, List.getElem_cons_zero, List.setIfInBounds_toArray, List.set_cons_zero, List.set_cons_succ]
          refine wpAnyH_take (i := 1) (v := .pointer (some ⟨p, 0, none⟩)) rfl (by kernel_rfl) (by kernel_rfl) (by kernel_rfl) (fun _ _ _ h => h) (Or.inl ⟨by rfl, fun w' hw' => by (try go_split_ands); go_simp <;> omega⟩) hS ?_
          simp only [Act.put, List.getElem_toArray, List.getElem_cons_zero, List.getElem_cons_succ, List.setIfInBounds_toArray, List.set_cons_zero, List.set_cons_succ]
          refine wpAnyH_take (i := 2) (v := .pointer (some ⟨p, 0, none⟩)) rfl (by kernel_rfl) (by kernel_rfl) (by kernel_rfl) (fun _ _ _ h => h) (Or.inl ⟨by rfl, fun w' hw' => by (try go_split_ands); go_simp <;> omega⟩) hS ?_
          simp only [Act.put, List.getElem_toArray, List.getElem_cons_zero, List.getElem_cons_succ, List.setIfInBounds_toArray, List.set_cons_zero, List.set_cons_succ]
          refine wpAnyH_take (i := 3) (v := .pointer (some ⟨p, 6, none⟩)) rfl (by kernel_rfl) (by kernel_rfl) (by kernel_rfl) (fun _ _ _ h => h) (Or.inl ⟨by rfl, fun w' hw' => by (try go_split_ands); go_simp <;> omega⟩) hS ?_
          simp only [Act.put, List.getElem_toArray, List.getElem_cons_zero, List.getElem_cons_succ, List.setIfInBounds_toArray, List.set_cons_zero, List.set_cons_succ]
          refine wpAnyH_take (i := 4) (v := .bool false) rfl (by kernel_rfl) (by kernel_rfl) (by kernel_rfl) (fun _ _ _ h => h) (Or.inl ⟨by rfl, fun w' hw' => by (try go_split_ands); go_simp <;> omega⟩) hS ?_
          simp only [Act.put, List.getElem_toArray, List.getElem_cons_zero, List.getElem_cons_succ, List.setIfInBounds_toArray, List.set_cons_zero, List.set_cons_succ]
          refine wpAnyH_take (i := 5) (v := .bool false) rfl (by kernel_rfl) (by kernel_rfl) (by kernel_rfl) (fun _ _ _ h => h) (Or.inl ⟨by rfl, fun w' hw' => by (try go_split_ands); go_simp <;> omega⟩) hS ?_
          simp only [Act.put, List.getElem_toArray, List.getElem_cons_zero, List.getElem_cons_succ, List.setIfInBounds_toArray, List.set_cons_zero, List.set_cons_succ]
          refine wpAnyH_take (i := 6) (v := .pointer (some ⟨p, 0, none⟩)) rfl (by kernel_rfl) (by kernel_rfl) (by kernel_rfl) (fun _ _ _ h => h) (Or.inl ⟨by rfl, fun w' hw' => by (try go_split_ands); go_simp <;> omega⟩) hS ?_
          simp only [Act.put, List.getElem_toArray, List.getElem_cons_zero, List.getElem_cons_succ, List.setIfInBounds_toArray, List.set_cons_zero, List.set_cons_succ]
          refine wpAnyH_take (i := 7) (v := .pointer (some ⟨p, 0, none⟩)) rfl (by kernel_rfl) (by kernel_rfl) (by kernel_rfl) (fun _ _ _ h => h) (Or.inl ⟨by rfl, fun w' hw' => by (try go_split_ands); go_simp <;> omega⟩) hS ?_
          simp only [Act.put, List.getElem_toArray, List.getElem_cons_zero, List.getElem_cons_succ, List.setIfInBounds_toArray, List.set_cons_zero, List.set_cons_succ]
          refine wpAnyH_take (i := 8) (v := .pointer (some ⟨p, 4, none⟩)) rfl (by kernel_rfl) (by kernel_rfl) (by kernel_rfl) (fun _ _ _ h => h) (Or.inl ⟨by rfl, fun w' hw' => by (try go_split_ands); go_simp <;> omega⟩) hS ?_
          simp only [Act.put, List.getElem_toArray, List.getElem_cons_zero, List.getElem_cons_succ, List.setIfInBounds_toArray, List.set_cons_zero, List.set_cons_succ]
          refine wpAnyH_take (i := 9) (v := .slice (some ⟨b, o, none⟩) kl.length kc) rfl (by kernel_rfl) (by kernel_rfl) (by kernel_rfl) (fun _ _ _ h => h) (Or.inl ⟨by rfl, fun w' hw' => by (try go_split_ands); go_simp <;> omega⟩) hS ?_
          simp only [Act.put, List.getElem_toArray, List.getElem_cons_zero, List.getElem_cons_succ, List.setIfInBounds_toArray, List.set_cons_zero, List.set_cons_succ]
          refine wpAnyH_take (i := 10) (v := .int .i64 (i : Int)) rfl (by kernel_rfl) (by kernel_rfl) (by kernel_rfl) (fun _ _ _ h => h) (Or.inl ⟨by rfl, fun w' hw' => by (try go_split_ands); go_simp <;> omega⟩) hS ?_
          simp only [Act.put, List.getElem_toArray, List.getElem_cons_zero, List.getElem_cons_succ, List.setIfInBounds_toArray, List.set_cons_zero, List.set_cons_succ]
          refine wpAnyH_take (i := 11) (v := .pointer (some ⟨b, o + i, none⟩)) rfl (by kernel_rfl) (by kernel_rfl) (by kernel_rfl) (fun _ _ _ h => h) (Or.inl ⟨by rfl, fun w' hw' => by (try go_split_ands); go_simp <;> omega⟩) hS ?_
          simp only [Act.put, List.getElem_toArray, List.getElem_cons_zero, List.getElem_cons_succ, List.setIfInBounds_toArray, List.set_cons_zero, List.set_cons_succ]
          refine wpAnyH_take (i := 12) (v := .slice (some ⟨b2, o2, none⟩) sn sc) rfl (by kernel_rfl) (by kernel_rfl) (by kernel_rfl) (fun _ _ _ h => h) (Or.inl ⟨by rfl, fun w' hw' => by (try go_split_ands); go_simp <;> omega⟩) hS ?_
          simp only [Act.put, List.getElem_toArray, List.getElem_cons_zero, List.getElem_cons_succ, List.setIfInBounds_toArray, List.set_cons_zero, List.set_cons_succ]
          refine wpAnyH_take (i := 13) (v := .int .i64 (j : Int)) rfl (by kernel_rfl) (by kernel_rfl) (by kernel_rfl) (fun _ _ _ h => h) (Or.inl ⟨by rfl, fun w' hw' => by (try go_split_ands); go_simp <;> omega⟩) hS ?_
          simp only [Act.put, List.getElem_toArray, List.getElem_cons_zero, List.getElem_cons_succ, List.setIfInBounds_toArray, List.set_cons_zero, List.set_cons_succ]
          refine wpAnyH_take (i := 14) (v := .pointer (some ⟨b2, o2 + j, none⟩)) rfl (by kernel_rfl) (by kernel_rfl) (by kernel_rfl) (fun _ _ _ h => h) (Or.inl ⟨by rfl, fun w' hw' => by (try go_split_ands); go_simp <;> omega⟩) hS ?_
          simp only [Act.put, List.getElem_toArray, List.getElem_cons_zero, List.getElem_cons_succ, List.setIfInBounds_toArray, List.set_cons_zero, List.set_cons_succ]
          refine wpAnyH_take (i := 15) (v := .int .u8 val) rfl (by kernel_rfl) (by kernel_rfl) (by kernel_rfl) (fun _ _ _ h => h) (Or.inl ⟨by rfl, fun w' hw' => by (try go_split_ands); go_simp <;> omega⟩) hS ?_
          simp only [Act.put, List.getElem_toArray, List.getElem_cons_zero, List.getElem_cons_succ, List.setIfInBounds_toArray, List.set_cons_zero, List.set_cons_succ]
          refine wpAnyH_take (i := 16) (v := .pointer (some ⟨p, 0, none⟩)) rfl (by kernel_rfl) (by kernel_rfl) (by kernel_rfl) (fun _ _ _ h => h) (Or.inl ⟨by rfl, fun w' hw' => by (try go_split_ands); go_simp <;> omega⟩) hS ?_
          simp only [Act.put, List.getElem_toArray, List.getElem_cons_zero, List.getElem_cons_succ, List.setIfInBounds_toArray, List.set_cons_zero, List.set_cons_succ]
          refine wpAnyH_take (i := 17) (v := .pointer (some ⟨p, 0, none⟩)) rfl (by kernel_rfl) (by kernel_rfl) (by kernel_rfl) (fun _ _ _ h => h) (Or.inl ⟨by rfl, fun w' hw' => by (try go_split_ands); go_simp <;> omega⟩) hS ?_
          simp only [Act.put, List.getElem_toArray, List.getElem_cons_zero, List.getElem_cons_succ, List.setIfInBounds_toArray, List.set_cons_zero, List.set_cons_succ]
          refine wpAnyH_take (i := 18) (v := .pointer (some ⟨p, 5, none⟩)) rfl (by kernel_rfl) (by kernel_rfl) (by kernel_rfl) (fun _ _ _ h => h) (Or.inl ⟨by rfl, fun w' hw' => by (try go_split_ands); go_simp <;> omega⟩) hS ?_
          simp only [Act.put, List.getElem_toArray, List.getElem_cons_zero, List.getElem_cons_succ, List.setIfInBounds_toArray, List.set_cons_zero, List.set_cons_succ]
          refine wpAnyH_take (i := 19) (v := .slice (some ⟨b', o', none⟩) ids.length ic) rfl (by kernel_rfl) (by kernel_rfl) (by kernel_rfl) (fun _ _ _ h => h) (Or.inl ⟨by rfl, fun w' hw' => by (try go_split_ands); go_simp <;> omega⟩) hS ?_
          simp only [Act.put, List.getElem_toArray, List.getElem_cons_zero, List.getElem_cons_succ, List.setIfInBounds_toArray, List.set_cons_zero, List.set_cons_succ]
          refine wpAnyH_take (i := 20) (v := .int .i64 (i : Int)) rfl (by kernel_rfl) (by kernel_rfl) (by kernel_rfl) (fun _ _ _ h => h) (Or.inl ⟨by rfl, fun w' hw' => by (try go_split_ands); go_simp <;> omega⟩) hS ?_
          simp only [Act.put, List.getElem_toArray, List.getElem_cons_zero, List.getElem_cons_succ, List.setIfInBounds_toArray, List.set_cons_zero, List.set_cons_succ]
          refine wpAnyH_take (i := 21) (v := .pointer (some ⟨b', o' + i, none⟩)) rfl (by kernel_rfl) (by kernel_rfl) (by kernel_rfl) (fun _ _ _ h => h) (Or.inl ⟨by rfl, fun w' hw' => by (try go_split_ands); go_simp <;> omega⟩) hS ?_
          simp only [Act.put, List.getElem_toArray, List.getElem_cons_zero, List.getElem_cons_succ, List.setIfInBounds_toArray, List.set_cons_zero, List.set_cons_succ]
          refine wpAnyH_take (i := 22) (v := .int .i64 x) rfl (by kernel_rfl) (by kernel_rfl) (by kernel_rfl) (fun _ _ _ h => h) (Or.inl ⟨by rfl, fun w' hw' => by (try go_split_ands); go_simp <;> omega⟩) hS ?_
          simp only [Act.put, List.getElem_toArray, List.getElem_cons_zero, List.getElem_cons_succ, List.setIfInBounds_toArray, List.set_cons_zero, List.set_cons_succ]
          refine wpAnyH_take (i := 23) (v := .int .i64 (j : Int)) rfl (by kernel_rfl) (by kernel_rfl) (by kernel_rfl) (fun _ _ _ h => h) (Or.inl ⟨by rfl, fun w' hw' => by (try go_split_ands); go_simp <;> omega⟩) hS ?_
          simp only [Act.put, List.getElem_toArray, List.getElem_cons_zero, List.getElem_cons_succ, List.setIfInBounds_toArray, List.set_cons_zero, List.set_cons_succ]
          refine wpAnyH_ready (rs := [24]) (by kernel_rfl) (by simp) ?_
          refine AllReadyH.cons rfl (fun K hK => ?_) AllReadyH.nil
          go_simp
          go_wp2_with fail
          refine (bown_ok wr.drew x j x0 x1 (by omega)).mono ?_
          rintro e wz ⟨rfl, rfl⟩
          rw [← hval]
          go_wp2_with fail
          refine hK.out _ _ hS (fun hS => ?_)
          clear hK K
          refine wpAnyH_take (i := 25) (v := .bool false) rfl (by kernel_rfl) (by kernel_rfl) (by kernel_rfl) (fun _ _ _ h => h) (Or.inl ⟨by rfl, fun w' hw' => by (try go_split_ands); go_simp <;> omega⟩) hS ?_
          simp only [Act.put, List.getElem_toArray, List.getElem_cons_zero, List.getElem_cons_succ, List.setIfInBounds_toArray, List.set_cons_zero, List.set_cons_succ]
          refine wpAnyH_take (i := 26) (v := .bool false) rfl (by kernel_rfl) (by kernel_rfl) (by kernel_rfl) (fun _ _ _ h => h) (Or.inl ⟨by rfl, fun w' hw' => by (try go_split_ands); go_simp <;> omega⟩) hS ?_
          simp only [Act.put, List.getElem_toArray, List.getElem_cons_zero, List.getElem_cons_succ, List.setIfInBounds_toArray, List.set_cons_zero, List.set_cons_succ]
          refine wpAnyH_ready (rs := [27]) (by kernel_rfl) (by simp) ?_
          refine AllReadyH.cons rfl (fun K hK => ?_) AllReadyH.nil
          go_simp
          refine hK.out _ _ hS (fun _ => ?_)
          clear hK K
          refine wpAnyH_ready (rs := [28]) (by kernel_rfl) (by simp) ?_
          refine AllReadyH.cons rfl (fun K hK => ?_) AllReadyH.nil
          go_simp
          refine hK.out _ _ hS (fun _ => ?_)
          clear hK K
          have hF := (HC.out _ hS.2.2.2.2.2.2.2.out.2).2.2.2
          refine wpAnyH_ready (rs := [29]) (by kernel_rfl) (by simp) ?_
          refine AllReadyH.cons rfl (fun K hK => ?_) AllReadyH.nil
          go_simp
          have hS6 := hS.2.2.2.2.2.2.2.out.2
          rw [HPd.out] at hS6
          obtain ⟨s1, s2⟩ := lg_still hS6.2
          have hP9 : P (wr.drew.setCell ⟨p, 6, none⟩ (.bool false)) := by rw [HPd.out]; exact ⟨bThen hS6.1 s1, s2⟩
          refine hK.out _ _ ⟨(HC.out _ hP9).1, (HC.out _ hP9).2.1, (HC.out _ hP9).2.2.1, (s1.cell (World.block_lt_of_cell? _ _ hS.2.2.2.1)).trans hS.2.2.2.1, (s1.cell (World.block_lt_of_cell? _ _ hS.2.2.2.2.1)).trans hS.2.2.2.2.1, (s1.cell (World.block_lt_of_cell? _ _ hS.2.2.2.2.2.1)).trans hS.2.2.2.2.2.1, Nat.lt_of_lt_of_le hS.2.2.2.2.2.2.1 s1.size, bThen hS.2.2.2.2.2.2.2.out.1 s1, hP9⟩ (fun hS => ?_)
          clear hK K s1 s2 hS6 hP9
          refine wpAnyH_done (by kernel_rfl) ?_ _
          have hb3 := hS.2.2.2.2.2.2.2
          clear hS
          go_wp2
          go_roundw
          all_goals first
            | exact ⟨j + 1, by omega, by go_num, hb3.out⟩
            | ((repeat apply Exists.intro); exact ⟨⟨j + 1, by omega, by go_num, hb3.out⟩, rfl⟩)
            | (simp [intOf] <;> omega)
        · obtain rfl : j = sn := by omega
          clear hjt
          go_wp2
          go_roundw
          all_goals first
            | exact ⟨i + 1, by omega, by go_num, hb.out.2⟩
            | ((repeat apply Exists.intro); exact ⟨⟨i + 1, by omega, by go_num, hb.out.2⟩, rfl⟩)
            | (simp [intOf] <;> omega)
    · obtain rfl : i = kl.length := by omega
      clear hit
      go_wp2
      go_ret
      have hb1 := hb.out
      rw [HPd.out] at hb1
      exact ⟨rfl, hb1.1⟩
end Go.Proofs.Ytfdjdpbiccclfaa
namespace Go.Wr
open Go Go.RowKit
section
variable {P : Program} (w : World)
theorem run_append_keep (t ty : TypeId) (base : Nat) (e : TypeId) (i : TypeInfo) (z : Value) (size bytes : Nat) (ht : P.underlying t = some (.slice e)) (hi : P.info? e = some i) (hz : i.zero = some z)
    (hsize : i.size = size) (hby : i.bytes = bytes) (hzs : z.cells.size = size) (hsz : 0 < size)
    (v : Value) (n : Nat) (xs : List Value) (hown : w.ownsRow base e size v n xs)
    (ad : Addr) (m c : Nat) (news : List Value) (hl : news.length = m * size) (hnews : ∀ j u, news[j]? = some u → w.cell? (ad.add j) = some u) (h1 : ∀ u ∈ news, u.oneCell' = true)
    (hm : 0 < m) (h63 : n + m ≤ maxLen) (hbytes : (n + m) * bytes ≤ 140737488355328) (hbase : base ≤ w.heap.size) :
    ∃ g cap w', (Builtin.append_ #[t, t] ty #[v, .slice (some ad) m c]).run P w = .ok (.slice (some ⟨g, 0, none⟩) (n + m) cap) w' ∧
      w'.ownsRow base e size (.slice (some ⟨g, 0, none⟩) (n + m) cap) (n + m) (xs ++ news) ∧ w.grownBy w' v.ownBlock ∧ (v.ownBlock = some g ∨ g = w.heap.size) ∧
      (∀ q, v.ownBlock = some q → ∀ j u, xs[j]? = some u → w'.cell? ⟨q, j, none⟩ = some u) := by
  obtain ⟨g, cap, w', hr, h2, h3, h4, h5⟩ := run_append_lies (P := P) w t ty base e i z size bytes ht hi hz hsize hby hzs hsz v n xs hown ad m c news hl hnews h1 hm h63 hbytes hbase w.heap.size rfl
  refine ⟨g, cap, w', hr, h2, h3, h4, fun q hq j u hu => ?_⟩
  have lit : ∀ b k : Nat, (⟨b, 0, none⟩ : Addr).add k = ⟨b, k, none⟩ := fun b k => by unfold Addr.add; split <;> simp_all
  have hold := hown.cells hq
  by_cases hgq : g = q
  · subst hgq
    have := h2.cells (g := g) rfl j u (by rw [List.getElem?_append_left (List.getElem?_eq_some_iff.1 hu).1]; exact hu)
    rw [lit] at this
    exact this
  · have hc := hold j u hu
    rw [lit] at hc
    rw [← hc]
    refine World.cell?_of_block ?_
    have hown' := hown
    rcases hown'.2 with ⟨rfl, _⟩ | ⟨g', cap', cur, rfl, hb, hg, hnc, hcm, hcs, htake⟩
    · cases hq
    · injection hq with hq
      simp only at hq
      subst hq
      subst hsize
      subst hby
      by_cases hroom : n + m ≤ cap'
      · have hfit : n * i.size + news.length ≤ cur.size := by rw [hl, hcs, ← Nat.add_mul]; exact Nat.mul_le_mul_right _ hroom
        have hr2 := run_append_room (P := P) w t ty e i ht hi g' n cap' cur hg ad m c news hl hnews h1 hroom hfit
        rw [hr] at hr2
        injection hr2 with e1 _
        injection e1 with e1
        injection e1 with e1
        injection e1 with e1
        exact absurd e1 hgq
      · have hr2 := run_append_grow (P := P) w t ty e i z ht hi hz ⟨g', 0, none⟩ n cap' xs hown.1 (hown.cells (g := g') rfl) ad m c news hl hnews (by omega) (by simp only [maxLen] at h63; omega) (growslice_fits (by omega) hbytes)
        rw [hr] at hr2
        injection hr2 with _ e2
        subst e2
        exact heap_alloc_old w.drew _ (Array.getElem?_eq_some_iff.1 hg).1
theorem wpList_append_keep {ops : Array Oper} {rest : List Oper} {o : Oper} {a : Act} {Q : Exit → Act → World → Prop} (hgd : o.guard = none) (s x : Operand) (t : TypeId)
    (ho : o.op = .call { callee := .builtin .append, args := #[s, x], argTypes := #[t, t] })
    (base : Nat) (e : TypeId) (i : TypeInfo) (z : Value) (size bytes : Nat) (ht : P.underlying t = some (.slice e)) (hi : P.info? e = some i) (hz : i.zero = some z)
    (hsize : i.size = size) (hby : i.bytes = bytes) (hzs : z.cells.size = size) (hsz : 0 < size)
    (v : Value) (n : Nat) (xs : List Value) (hs : a.eval s = v) (hown : w.ownsRow base e size v n xs)
    (ad : Addr) (m c : Nat) (news : List Value) (hx : a.eval x = .slice (some ad) m c) (hl : news.length = m * size) (hnews : ∀ j u, news[j]? = some u → w.cell? (ad.add j) = some u) (h1 : ∀ u ∈ news, u.oneCell' = true)
    (hm : 0 < m) (h63 : n + m ≤ maxLen) (hbytes : (n + m) * bytes ≤ 140737488355328) (hbase : base ≤ w.heap.size)
    (h : ∀ g cap w', w'.ownsRow base e size (.slice (some ⟨g, 0, none⟩) (n + m) cap) (n + m) (xs ++ news) → w.grownBy w' v.ownBlock → (v.ownBlock = some g ∨ g = w.heap.size) → (∀ q, v.ownBlock = some q → ∀ j u, xs[j]? = some u → w'.cell? ⟨q, j, none⟩ = some u) → wpList P ops Q rest (a.put o.dst (.slice (some ⟨g, 0, none⟩) (n + m) cap)) w') : wpList P ops Q (o :: rest) a w := by
  refine wpList_plain hgd fun K hK => ?_
  obtain ⟨g, cap, w', hr, h2, h3, h4, h5⟩ := run_append_keep (P := P) w t o.type base e i z size bytes ht hi hz hsize hby hzs hsz v n xs hown ad m c news hl hnews h1 hm h63 hbytes hbase
  unfold Oper.wp execOp
  simp only [ho, resolve, invoke, builtin, Sem.run_bind, Sem.run_pure, Result.andThen_ok, List.map_toArray, List.map_cons, List.map_nil, hs, hx, hr]
  exact hK _ _ (h g cap w' h2 h3 h4 h5)
end
section
variable {P : Program} {α : Type} {R : RT P α}
theorem wpl_pushO (R : RT P α) {ops : Array Oper} {rest : List Oper} {op : Oper} {a : Act} {w : World} {Q : Exit → Act → World → Prop} (hgd : op.guard = none) (s x : Operand)
    (ho : op.op = .call { callee := .builtin .append, args := #[s, x], argTypes := #[R.S, R.S] })
    (B : Nat) (v : Value) (l : List α) (hs : a.eval s = v) (hown : OwR R B w v l)
    (b o n c : Nat) (m : List α) (hx : a.eval x = .slice (some ⟨b, o, none⟩) n c) (hn : n = m.length) (hm : 0 < m.length) (hnews : w.rangeAt b o (R.cs m))
    (hl : l.length + m.length ≤ maxLen) (hby : (l.length + m.length) * R.bs ≤ 140737488355328) (hB : B ≤ w.heap.size)
    (h : ∀ g c' w', OwR R B w' (.slice (some ⟨g, 0, none⟩) (l.length + m.length) c') (l ++ m) → w.grownBy w' v.ownBlock → (v.ownBlock = some g ∨ g = w.heap.size) → (∀ q, v.ownBlock = some q → ∀ j u, (R.cs l)[j]? = some u → w'.cell? ⟨q, j, none⟩ = some u) → wpList P ops Q rest (a.put op.dst (.slice (some ⟨g, 0, none⟩) (l.length + m.length) c')) w') : wpList P ops Q (op :: rest) a w := by
  obtain ⟨i, hi, hz0, hz1, hz2⟩ := info_parts R.info
  subst hn
  refine wpList_append_keep w hgd s x _ ho B R.T i _ R.n R.bs R.und hi hz0 hz1 hz2 R.zs R.npos v l.length (R.cs l) hs hown ⟨b, o, none⟩ m.length c (R.cs m) hx (R.cs_len m) (fun j u hj => by rw [Addr.add_lit]; exact hnews j u hj) (R.cs_ones m) hm hl hby hB ?_
  intro g cap w' h1 h2 h3 h4
  refine h g cap w' ?_ h2 h3 h4
  unfold OwR
  rw [R.cs_app, List.length_append]
  exact h1
end
end Go.Wr
namespace Go.Proofs.Ytfdjdpbiccclfaa
open Go Go.RowKit Go.Wr
structure Stp (r : Nat → Prop) (col col' : Nat → Nat) (w w' : World) : Prop where
  os : w'.os = w.os
  tape : w'.tape = w.tape
  output : w'.output = w.output
  size : w.heap.size ≤ w'.heap.size
  block : ∀ b, b < w.heap.size → ¬ r (col b) → w'.heap[b]? = w.heap[b]?
  col : ∀ b, b < w.heap.size → col' b = col b
section
variable {r : Nat → Prop} {col col' : Nat → Nat} {w w' : World}
theorem Stp.of_below (h : Below w.heap.size w w') : Stp r col col w w' := ⟨h.os, h.tape, h.output, h.size, fun b hb _ => h.block b hb, fun _ _ => rfl⟩
theorem Stp.refl (r : Nat → Prop) (col : Nat → Nat) (w : World) : Stp r col col w w := Stp.of_below (bRefl w)
theorem Stp.trans {col2 : Nat → Nat} {w2 : World} (h : Stp r col col' w w') (k : Stp r col' col2 w' w2) : Stp r col col2 w w2 :=
  ⟨k.os.trans h.os, k.tape.trans h.tape, k.output.trans h.output, Nat.le_trans h.size k.size,
    fun b hb hr => (k.block b (Nat.lt_of_lt_of_le hb h.size) (by rw [h.col b hb]; exact hr)).trans (h.block b hb hr),
    fun b hb => (k.col b (Nat.lt_of_lt_of_le hb h.size)).trans (h.col b hb)⟩
theorem Stp.mono {r' : Nat → Prop} (h : Stp r col col' w w') (hr : ∀ c, r c → r' c) : Stp r' col col' w w' := ⟨h.os, h.tape, h.output, h.size, fun b hb hn => h.block b hb (fun k => hn (hr _ k)), h.col⟩
theorem Stp.own {α : Type} {R : RT Try.prog α} {B : Nat} {v : Value} {l : List α} (h : Stp r col col' w w') (ho : OwR R B w v l) (hc : ∀ g, v.ownBlock = some g → ¬ r (col g)) : OwR R B w' v l :=
  ho.keep fun g hg => h.block g (ho.lt hg) (hc g hg)
theorem Stp.sl {α : Type} {R : RT Try.prog α} {p : Nat} {v : Value} {l : List α} (h : Stp r col col' w w') (ho : SlX R p w v l) (hc : ∀ g, v.ownBlock = some g → ¬ r (col g)) : SlX R p w' v l :=
  ho.keepB h.size fun g hlt hg => h.block g hlt (hc g hg)
theorem Stp.set {c : Nat} (hr : r c) {b i : Nat} {v : Value} (hb : col b = c) : Stp r col col w (w.setCell ⟨b, i, none⟩ v) := by
  have h := (Below.refl 0 w).setCell (p := ⟨b, i, none⟩) (Nat.zero_le _) v
  exact ⟨h.os, h.tape, h.output, h.size, fun k _ hn => Below.heap_setCell w ⟨b, i, none⟩ v k (fun e => hn (by have e' : k = b := e; rw [e', hb]; exact hr)), fun _ _ => rfl⟩
theorem Stp.grow {α : Type} {R : RT Try.prog α} {c : Nat} (hr : r c) {v : Value} {l : List α} {o : Obj} (_ho : OwR R 0 w v l) (hc : ∀ g, v.ownBlock = some g → col g = c) (hg : (w.alloc o).grownBy w' v.ownBlock) {g : Nat} (hl : v.ownBlock = some g ∨ g = (w.alloc o).heap.size) :
    Stp r col (fun b => if b = g then c else col b) w w' := by
  have hz : (w.alloc o).heap.size = w.heap.size + 1 := by simp
  refine ⟨hg.os, hg.tape, hg.output, Nat.le_trans (by rw [hz]; omega) hg.size, fun b hb hn => ?_, fun b hb => ?_⟩
  · rw [hg.block b (by rw [hz]; omega) (fun e => hn (by rw [hc b e.symm]; exact hr))]
    exact Below.heap_alloc w o b hb
  · by_cases e : b = g
    · subst e
      rcases hl with hl | hl
      · rw [if_pos rfl, hc b hl]
      · omega
    · rw [if_neg e]
end
structure Lg (col : Nat → Nat) (p i : Nat) (tot : Int × Int) (fv wv kv sv : Sn) (fr wl kl : List Sn) (ids : List Int) (w : World) : Prop where
  pb : Blk w p 51 (lgC tot fv.v wv.v kv.v sv.v)
  pc : col p = 1
  fo : OwR tYY 0 w fv.v fr
  fc : ∀ g, fv.v.ownBlock = some g → col g = 2
  wo : OwR tYY 0 w wv.v wl
  wc : ∀ g, wv.v.ownBlock = some g → col g = 3
  ko : OwR tYY 0 w kv.v kl
  kc : ∀ g, kv.v.ownBlock = some g → col g = 4
  so : OwR tI 0 w sv.v ids
  sc : ∀ g, sv.v.ownBlock = some g → col g = 5
  kr : ∀ (k : Nat) (s : Sn) (x : Int), kl[k]? = some s → ids[k]? = some x → 0 ≤ x ∧ x ≤ 1099511627 ∧ ∃ n, n ≤ 1099511627776 ∧ SlX tY p w s.v (mine x n) ∧ ∀ g, s.v.ownBlock = some g → g < w.heap.size ∧ 6 ≤ col g ∧ col g < 7 + i
section
variable {col col' : Nat → Nat} {p i : Nat} {tot : Int × Int} {fv wv kv sv : Sn} {fr wl kl : List Sn} {ids : List Int} {w w' : World}
theorem Lg.step {r : Nat → Prop} (h : Lg col p i tot fv wv kv sv fr wl kl ids w) (st : Stp r col col' w w') (hr : ∀ c, r c → 7 + i ≤ c) : Lg col' p i tot fv wv kv sv fr wl kl ids w' := by
  have no : ∀ {c : Nat}, c < 7 → ¬ r c := fun hc k => by have := hr _ k; omega
  refine ⟨h.pb.of_block (st.block p h.pb.lt (by rw [h.pc]; exact no (by omega))), (st.col p h.pb.lt).trans h.pc,
    st.own h.fo fun g hg => by rw [h.fc g hg]; exact no (by omega), fun g hg => (st.col g (h.fo.lt hg)).trans (h.fc g hg),
    st.own h.wo fun g hg => by rw [h.wc g hg]; exact no (by omega), fun g hg => (st.col g (h.wo.lt hg)).trans (h.wc g hg),
    st.own h.ko fun g hg => by rw [h.kc g hg]; exact no (by omega), fun g hg => (st.col g (h.ko.lt hg)).trans (h.kc g hg),
    st.own h.so fun g hg => by rw [h.sc g hg]; exact no (by omega), fun g hg => (st.col g (h.so.lt hg)).trans (h.sc g hg), fun k s x hk hx => ?_⟩
  obtain ⟨a1, a2, n, a3, a4, a5⟩ := h.kr k s x hk hx
  exact ⟨a1, a2, n, a3, st.sl a4 fun g hg k => by have := hr _ k; have := (a5 g hg).2.2; omega, fun g hg => ⟨Nat.lt_of_lt_of_le (a5 g hg).1 st.size, by rw [st.col g (a5 g hg).1]; exact (a5 g hg).2⟩⟩
theorem Lg.pushK (h : Lg col p i tot fv wv kv sv fr wl kl ids w) {o : Obj} {g n c : Nat} {s : Sn} (ho : OwR tYY 0 w' (.slice (some ⟨g, 0, none⟩) n c) (kl ++ [s])) (hg : (w.alloc o).grownBy w' kv.v.ownBlock) (hl : kv.v.ownBlock = some g ∨ g = (w.alloc o).heap.size) (hlen : ids.length = kl.length) :
    ∃ col', Stp (fun c => c = 1 ∨ c = 4) col col' w (w'.setCell ⟨p, 4, none⟩ (.slice (some ⟨g, 0, none⟩) n c)) ∧ Lg col' p i tot fv wv ⟨some ⟨g, 0, none⟩, n, c⟩ sv fr wl (kl ++ [s]) ids (w'.setCell ⟨p, 4, none⟩ (.slice (some ⟨g, 0, none⟩) n c)) := by
  obtain ⟨V, hV⟩ : ∃ V, V = Value.slice (some ⟨g, 0, none⟩) n c := ⟨_, rfl⟩
  have s1 : Stp (fun c => c = 1 ∨ c = 4) col (fun b => if b = g then 4 else col b) w w' := Stp.grow (Or.inr rfl) h.ko h.kc hg hl
  have hplt := h.pb.lt
  have hpg : p ≠ g := by
    rcases hl with hl | hl
    · intro e; have := h.kc g hl; rw [← e, h.pc] at this; omega
    · simp at hl; omega
  have hp' : Blk w' p 51 (lgC tot fv.v wv.v kv.v sv.v) := h.pb.of_block (by
    rw [hg.block p (by simp; omega) (fun e => by have := h.kc p e.symm; rw [h.pc] at this; omega)]
    exact Below.heap_alloc w o p hplt)
  have s2 : Stp (fun c => c = 1 ∨ c = 4) (fun b => if b = g then 4 else col b) (fun b => if b = g then 4 else col b) w' (w'.setCell ⟨p, 4, none⟩ V) := Stp.set (c := 1) (Or.inl rfl) (by simp [hpg, h.pc])
  have st := s1.trans s2
  have pk : Blk (w'.setCell ⟨p, 4, none⟩ V) p 51 (lgC tot fv.v wv.v V sv.v) := (hp'.set 4 V).eq rfl
  rw [← hV] at ho ⊢
  refine ⟨_, st, pk.eq (by rw [hV]; rfl), (st.col p hplt).trans h.pc,
    st.own h.fo fun g hg => by rw [h.fc g hg]; omega, fun g hg => (st.col g (h.fo.lt hg)).trans (h.fc g hg),
    st.own h.wo fun g hg => by rw [h.wc g hg]; omega, fun g hg => (st.col g (h.wo.lt hg)).trans (h.wc g hg),
    ?_, fun q hq => ?_,
    st.own h.so fun g hg => by rw [h.sc g hg]; omega, fun g hg => (st.col g (h.so.lt hg)).trans (h.sc g hg), fun k s x hk hx => ?_⟩
  · show OwR tYY 0 _ (.slice (some ⟨g, 0, none⟩) n c) _
    rw [← hV]
    exact ho.set_other (fun e => hpg (by rw [hV] at e; injection e with e; exact e.symm))
  · injection hq with hq
    simp only at hq
    subst hq
    simp
  · have hk2 : kl[k]? = some s := by
      rw [List.getElem?_append_left (by have := (List.getElem?_eq_some_iff.1 hx).1; omega)] at hk
      exact hk
    obtain ⟨a1, a2, n, a3, a4, a5⟩ := h.kr k s x hk2 hx
    exact ⟨a1, a2, n, a3, st.sl a4 fun g hg k => by have := (a5 g hg).2.1; omega, fun g hg => ⟨Nat.lt_of_lt_of_le (a5 g hg).1 st.size, by rw [st.col g (a5 g hg).1]; exact (a5 g hg).2⟩⟩
theorem Lg.pushS (h : Lg col p i tot fv wv kv sv fr wl kl ids w) {o : Obj} {g n c : Nat} {x : Int} {s : Sn} {m i' : Nat} (ho : OwR tI 0 w' (.slice (some ⟨g, 0, none⟩) n c) (ids ++ [x])) (hg : (w.alloc o).grownBy w' sv.v.ownBlock) (hl : sv.v.ownBlock = some g ∨ g = (w.alloc o).heap.size) (hlen : kl.length = ids.length + 1)
    (hs : kl[ids.length]? = some s) (x0 : 0 ≤ x) (x1 : x ≤ 1099511627) (hm : m ≤ 1099511627776) (hsl : SlX tY p w s.v (mine x m)) (hi : i ≤ i') (hsc : ∀ g, s.v.ownBlock = some g → g < w.heap.size ∧ 6 ≤ col g ∧ col g < 7 + i') :
    ∃ col', Stp (fun c => c = 1 ∨ c = 5) col col' w (w'.setCell ⟨p, 5, none⟩ (.slice (some ⟨g, 0, none⟩) n c)) ∧ Lg col' p i' tot fv wv kv ⟨some ⟨g, 0, none⟩, n, c⟩ fr wl kl (ids ++ [x]) (w'.setCell ⟨p, 5, none⟩ (.slice (some ⟨g, 0, none⟩) n c)) := by
  obtain ⟨V, hV⟩ : ∃ V, V = Value.slice (some ⟨g, 0, none⟩) n c := ⟨_, rfl⟩
  have s1 : Stp (fun c => c = 1 ∨ c = 5) col (fun b => if b = g then 5 else col b) w w' := Stp.grow (Or.inr rfl) h.so h.sc hg hl
  have hplt := h.pb.lt
  have hpg : p ≠ g := by
    rcases hl with hl | hl
    · intro e; have := h.sc g hl; rw [← e, h.pc] at this; omega
    · simp at hl; omega
  have hp' : Blk w' p 51 (lgC tot fv.v wv.v kv.v sv.v) := h.pb.of_block (by
    rw [hg.block p (by simp; omega) (fun e => by have := h.sc p e.symm; rw [h.pc] at this; omega)]
    exact Below.heap_alloc w o p hplt)
  have s2 : Stp (fun c => c = 1 ∨ c = 5) (fun b => if b = g then 5 else col b) (fun b => if b = g then 5 else col b) w' (w'.setCell ⟨p, 5, none⟩ V) := Stp.set (c := 1) (Or.inl rfl) (by simp [hpg, h.pc])
  have st := s1.trans s2
  have pk : Blk (w'.setCell ⟨p, 5, none⟩ V) p 51 (lgC tot fv.v wv.v kv.v V) := (hp'.set 5 V).eq rfl
  rw [← hV] at ho ⊢
  refine ⟨_, st, pk.eq (by rw [hV]; rfl), (st.col p hplt).trans h.pc,
    st.own h.fo fun g hg => by rw [h.fc g hg]; omega, fun g hg => (st.col g (h.fo.lt hg)).trans (h.fc g hg),
    st.own h.wo fun g hg => by rw [h.wc g hg]; omega, fun g hg => (st.col g (h.wo.lt hg)).trans (h.wc g hg),
    st.own h.ko fun g hg => by rw [h.kc g hg]; omega, fun g hg => (st.col g (h.ko.lt hg)).trans (h.kc g hg),
    ?_, fun q hq => ?_, fun k s' x' hk hx => ?_⟩
  · show OwR tI 0 _ (.slice (some ⟨g, 0, none⟩) n c) _
    rw [← hV]
    exact ho.set_other (fun e => hpg (by rw [hV] at e; injection e with e; exact e.symm))
  · injection hq with hq
    simp only at hq
    subst hq
    simp
  · have hkl := (List.getElem?_eq_some_iff.1 hk).1
    by_cases e : k = ids.length
    · subst e
      rw [hs] at hk
      injection hk with hk
      subst hk
      rw [List.getElem?_append_right (Nat.le_refl _), Nat.sub_self] at hx
      injection hx with hx
      subst hx
      exact ⟨x0, x1, m, hm, st.sl hsl fun g hg k => by have := (hsc g hg).2.1; omega, fun g hg => ⟨Nat.lt_of_lt_of_le (hsc g hg).1 st.size, by rw [st.col g (hsc g hg).1]; exact (hsc g hg).2⟩⟩
    · rw [List.getElem?_append_left (by omega)] at hx
      obtain ⟨a1, a2, n, a3, a4, a5⟩ := h.kr k s' x' hk hx
      exact ⟨a1, a2, n, a3, st.sl a4 fun g hg k => by have := (a5 g hg).2.1; omega, fun g hg => ⟨Nat.lt_of_lt_of_le (a5 g hg).1 st.size, by rw [st.col g (a5 g hg).1]; exact ⟨(a5 g hg).2.1, by have := (a5 g hg).2.2; omega⟩⟩⟩
end
end Go.Proofs.Ytfdjdpbiccclfaa
namespace Go.Proofs.Ytfdjdpbiccclfaa
open Go Go.RowKit Go.Wr
set_option maxHeartbeats 4000000
set_option maxRecDepth 100000
structure PA (W : World) (col : Nat → Nat) (p : Nat) (tot : Int × Int) (fv wv kv sv : Sn) (fr wl kl : List Sn) (ids : List Int) (i j : Nat) (cont : Nat → List By) (w : World) : Prop where
  lg : Lg col p 0 tot fv wv kv sv fr wl kl ids w
  st : Stp (fun c => 7 ≤ c) col col W w
  rows : ∀ (k : Nat) (s : Sn), fr[k]? = some s → OwR tY 0 w s.v (cont k) ∧ s.n ≤ 1073741824 ∧ ∀ g, s.v.ownBlock = some g → col g = 7 + k
  done : ∀ (k : Nat) (s : Sn), k < i → fr[k]? = some s → cont k = mine ((kl.length : Int) + (k : Int)) s.n
  part : ∀ j' : Nat, j' < j → (cont i)[j']? = some (bkv ((kl.length : Int) + (i : Int)) j')
theorem own_n {α : Type} {R : RT Try.prog α} {B : Nat} {w : World} {s : Sn} {l : List α} (h : OwR R B w s.v l) : s.n = l.length := by
  rcases h.form with ⟨e, rfl⟩ | ⟨g, cap, e, _, _, _⟩
  · injection e
  · injection e
section
variable {W : World} {col : Nat → Nat} {p : Nat} {tot : Int × Int} {fv wv kv sv : Sn} {fr wl kl : List Sn} {ids : List Int} {i j : Nat} {cont : Nat → List By} {w : World}
theorem PA.put (h : PA W col p tot fv wv kv sv fr wl kl ids i j cont w) {q n c : Nat} (hs : fr[i]? = some ⟨some ⟨q, 0, none⟩, n, c⟩) (hj : j < n) :
    PA W col p tot fv wv kv sv fr wl kl ids i (j + 1) (setF cont i ((cont i).set j (bkv ((kl.length : Int) + (i : Int)) j))) (w.setCell ⟨q, j, none⟩ (.int .u8 ((bkv ((kl.length : Int) + (i : Int)) j).val : Int))) := by
  obtain ⟨ho, hn, hc⟩ := h.rows i _ hs
  have hcq := hc q rfl
  have s1 : Stp (fun c => 7 ≤ c) col col w (w.setCell ⟨q, j, none⟩ (.int .u8 ((bkv ((kl.length : Int) + (i : Int)) j).val : Int))) := Stp.set (c := 7 + i) (by omega) hcq
  have hlen := own_n ho
  simp only at hlen
  obtain ⟨x, hx⟩ : ∃ x, (cont i)[j]? = some x := ⟨_, List.getElem?_eq_getElem (by omega)⟩
  refine ⟨h.lg.step s1 (fun c hc => hc), h.st.trans s1, fun k s hk => ?_, fun k s hk hf => ?_, fun j' hj' => ?_⟩
  · by_cases e : k = i
    · subst e
      rw [hs] at hk
      injection hk with hk
      subst hk
      rw [setF_self]
      refine ⟨?_, hn, hc⟩
      have := ho.set (k := j) (j := 0) (x := x) (y := bkv ((kl.length : Int) + (k : Int)) j) (v := .int .u8 ((bkv ((kl.length : Int) + (k : Int)) j).val : Int)) hx (by decide) rfl
      have e : j * tY.n + 0 = j := by show j * 1 + 0 = j; omega
      rw [e] at this
      exact this
    · rw [setF_ne e]
      obtain ⟨a1, a2, a3⟩ := h.rows k s hk
      exact ⟨a1.set_other fun e' => by have := a3 q e'; omega, a2, a3⟩
  · rw [setF_ne (by omega)]
    exact h.done k s hk hf
  · rw [setF_self, List.getElem?_set]
    by_cases e : j = j'
    · subst e
      rw [if_pos rfl, if_pos (by omega)]
    · rw [if_neg e]
      exact h.part j' (by omega)
theorem PA.next (h : PA W col p tot fv wv kv sv fr wl kl ids i j cont w) {s : Sn} (hs : fr[i]? = some s) (hj : j = s.n) : PA W col p tot fv wv kv sv fr wl kl ids (i + 1) 0 cont w := by
  refine ⟨h.lg, h.st, h.rows, fun k t hk hf => ?_, fun j' hj' => by omega⟩
  by_cases e : k = i
  · subst e
    rw [hs] at hf
    injection hf with hf
    subst hf
    have hl := own_n (h.rows k _ hs).1
    refine List.ext_getElem? fun m => ?_
    by_cases hm : m < s.n
    · rw [h.part m (by omega), mine_get hm]
    · rw [List.getElem?_eq_none (by omega), List.getElem?_eq_none (by rw [mine_len]; omega)]
  · exact h.done k t (by omega) hf
end
theorem PA.drew {W : World} {col : Nat → Nat} {p : Nat} {tot : Int × Int} {fv wv kv sv : Sn} {fr wl kl : List Sn} {ids : List Int} {i j : Nat} {cont : Nat → List By} {w : World} (h : PA W col p tot fv wv kv sv fr wl kl ids i j cont w) : PA W col p tot fv wv kv sv fr wl kl ids i j cont w.drew := by
  have b : Below w.heap.size w w.drew := (bRefl w).drew
  exact ⟨h.lg.step (r := fun _ => False) (Stp.of_below b) (fun c hc => hc.elim), h.st.trans (Stp.of_below b), fun k s hk => by
    obtain ⟨a1, a2, a3⟩ := h.rows k s hk
    exact ⟨a1.below b, a2, a3⟩, h.done, h.part⟩
structure PB (W : World) (col0 : Nat → Nat) (p : Nat) (tot : Int × Int) (fv wv : Sn) (fr wl : List Sn) (first i o : Nat) (col : Nat → Nat) (kv sv : Sn) (kl : List Sn) (ids : List Int) (w : World) : Prop where
  lg : Lg col p i tot fv wv kv sv fr wl kl ids w
  st : Stp (fun c => c ≠ 0) col0 col W w
  rows : ∀ (k : Nat) (s : Sn), fr[k]? = some s → SlX tY p w s.v (mine ((first : Int) + (k : Int)) s.n) ∧ s.n ≤ 1073741824 ∧ (∀ g, s.v.ownBlock = some g → g < w.heap.size ∧ col g = 7 + k) ∧ (∀ b q, s.a = some ⟨b, q, none⟩ → q = 0) ∧ (o ≤ k → OwR tY 0 w s.v (mine ((first : Int) + (k : Int)) s.n))
section
variable {W : World} {col0 col : Nat → Nat} {p : Nat} {tot : Int × Int} {fv wv kv sv : Sn} {fr wl kl : List Sn} {ids : List Int} {first i o : Nat} {w w' : World}
theorem PB.le (h : PB W col0 p tot fv wv fr wl first i o col kv sv kl ids w) {o' : Nat} (ho : o ≤ o') : PB W col0 p tot fv wv fr wl first i o' col kv sv kl ids w :=
  ⟨h.lg, h.st, fun k s hk => by obtain ⟨a1, a2, a3, a4, a5⟩ := h.rows k s hk; exact ⟨a1, a2, a3, a4, fun hk => a5 (by omega)⟩⟩
theorem PB.other {r : Nat → Prop} {col' : Nat → Nat} {kv' sv' : Sn} {kl' : List Sn} {ids' : List Int} {i' : Nat} (h : PB W col0 p tot fv wv fr wl first i o col kv sv kl ids w) (st : Stp r col col' w w') (hr : ∀ c, r c → c ≠ 0 ∧ c < 7) (lg : Lg col' p i' tot fv wv kv' sv' fr wl kl' ids' w') :
    PB W col0 p tot fv wv fr wl first i' o col' kv' sv' kl' ids' w' :=
  ⟨lg, h.st.trans (st.mono fun c hc => (hr c hc).1), fun k s hk => by
    obtain ⟨a1, a2, a3, a4, a5⟩ := h.rows k s hk
    have no : ∀ g, s.v.ownBlock = some g → ¬ r (col g) := fun g hg k => by have := hr _ k; have := (a3 g hg).2; omega
    exact ⟨st.sl a1 no, a2, fun g hg => ⟨Nat.lt_of_lt_of_le (a3 g hg).1 st.size, (st.col g (a3 g hg).1).trans (a3 g hg).2⟩, a4, fun hk => st.own (a5 hk) no⟩⟩
theorem mine_snoc (x : Int) (n : Nat) : mine x n ++ [bkv x n] = mine x (n + 1) := by
  unfold mine
  rw [List.range_succ, List.map_append]
  rfl
theorem csI_get {l : List By} {k : Nat} {x : By} (h : l[k]? = some x) : (tY.cs l)[k]? = some (.int .u8 (x.val : Int)) := by
  have e := tY.cs_get l k 0 x h (by decide)
  have e2 : k * tY.n + 0 = k := by show k * 1 + 0 = k; omega
  rw [e2] at e
  exact e
theorem PB.grow (h : PB W col0 p tot fv wv fr wl first i (i + 1) col kv sv kl ids w) {s G : Sn} {j : Nat} (hs : fr[i]? = some s) (ho : OwR tY 0 w G.v (mine ((first : Int) + (i : Int)) (s.n + j))) (hc : ∀ g, G.v.ownBlock = some g → col g = 7 + i)
    {ob : Obj} {g n c : Nat} {y : By} (hown : OwR tY 0 w' (.slice (some ⟨g, 0, none⟩) n c) (mine ((first : Int) + (i : Int)) (s.n + j) ++ [y])) (hg : (w.alloc ob).grownBy w' G.v.ownBlock) (hl : G.v.ownBlock = some g ∨ g = (w.alloc ob).heap.size)
    (hk : ∀ q, G.v.ownBlock = some q → ∀ (k : Nat) (u : Value), (tY.cs (mine ((first : Int) + (i : Int)) (s.n + j)))[k]? = some u → w'.cell? ⟨q, k, none⟩ = some u) (hy : y = bkv ((first : Int) + (i : Int)) (s.n + j)) :
    ∃ col', PB W col0 p tot fv wv fr wl first i (i + 1) col' kv sv kl ids w' ∧ OwR tY 0 w' (.slice (some ⟨g, 0, none⟩) n c) (mine ((first : Int) + (i : Int)) (s.n + (j + 1))) ∧ col' g = 7 + i := by
  have st : Stp (fun c => c = 7 + i) col (fun b => if b = g then 7 + i else col b) w w' := Stp.grow (r := fun c => c = 7 + i) rfl ho hc hg hl
  refine ⟨_, ⟨h.lg.step st (fun c hc => by omega), h.st.trans (st.mono fun c hc => by omega), fun k t ht => ?_⟩, ?_, by simp⟩
  · obtain ⟨a1, a2, a3, a4, a5⟩ := h.rows k t ht
    refine ⟨?_, a2, fun q hq => ⟨Nat.lt_of_lt_of_le (a3 q hq).1 st.size, (st.col q (a3 q hq).1).trans (a3 q hq).2⟩, a4, fun hk => st.own (a5 hk) fun q hq e => by have := (a3 q hq).2; omega⟩
    by_cases e : k = i
    · subst e
      rw [hs] at ht
      injection ht with ht
      subst ht
      obtain ⟨a0, cap, e0, b1, b2, b3⟩ := a1
      refine ⟨a0, cap, e0, b1, b2, fun m x hm => ?_⟩
      obtain ⟨b, q, rfl, hbp, hat⟩ := b3 m x hm
      have hq0 : q = 0 := a4 b q (by unfold Sn.v at e0; injection e0)
      subst hq0
      refine ⟨b, 0, rfl, hbp, Nat.lt_of_lt_of_le hat.1 st.size, fun z u hu => ?_⟩
      have hz : z = 0 := by
        have := (List.getElem?_eq_some_iff.1 hu).1
        rw [tY.len] at this
        have e1 : tY.n = 1 := rfl
        omega
      subst hz
      have e1 : (0 : Nat) + m * tY.n + 0 = m := by show 0 + m * 1 + 0 = m; omega
      have hm2 : m < s.n := by have := (List.getElem?_eq_some_iff.1 hm).1; rw [mine_len] at this; exact this
      by_cases hb : G.v.ownBlock = some b
      · have hu2 : u = .int .u8 (x.val : Int) := by injection hu with hu; exact hu.symm
        rw [e1]
        refine hk b hb m u ?_
        rw [hu2]
        refine csI_get ?_
        rw [mine_get hm2] at hm
        rw [mine_get (by omega)]
        exact hm
      · refine Eq.trans (World.cell?_of_block ?_) (hat.2 0 u hu)
        show w'.heap[b]? = w.heap[b]?
        rw [hg.block b (by simp; have := hat.1; omega) (fun e => hb e.symm)]
        exact Below.heap_alloc w ob b hat.1
    · exact st.sl a1 fun q hq e => by have := (a3 q hq).2; omega
  · rw [hy, mine_snoc] at hown
    exact hown
end
end Go.Proofs.Ytfdjdpbiccclfaa
