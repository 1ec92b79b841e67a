/- The document's cursor: its state, a fault, a byte. -/
import Derived.Test.YtfdjdpbiccclfaaDRn
import Derived.Test.YtfdjdpbiccclfaaDEa
namespace Go.Proofs.Ytfdjdpbiccclfaa
open Go Go.RowKit Go.Wr
set_option maxHeartbeats 4000000
set_option maxRecDepth 100000

/-- A cursor at p over the bytes b, at a; no fault so far. -/
structure CuL (B p : Nat) (b : List Nat) (a : Nat) (w : World) (vb : Value) : Prop where
  blk : Blk w p 93 #[vb, .int .i64 (a : Int), .int .i64 0, .int .i64 0]
  by' : SlBy B w vb b
  hp : B ≤ p
  at' : a ≤ b.length
  len : b.length ≤ 4194304
/-- A cursor that has met its first fault. -/
structure CuD (B p : Nat) (b : List Nat) (y : Nat) (er : Int) (w : World) (vb : Value) : Prop where
  blk : ∃ a : Nat, Blk w p 93 #[vb, .int .i64 (a : Int), .int .i64 (y : Int), .int .i64 er]
  by' : SlBy B w vb b
  hp : B ≤ p
  er' : er ≠ 0
  len : b.length ≤ 4194304
section
variable {B p a y : Nat} {er : Int} {b : List Nat} {w w' : World} {vb : Value}
theorem CuL.lt (h : CuL B p b a w vb) : p < w.heap.size := h.blk.lt
theorem CuD.lt (h : CuD B p b y er w vb) : p < w.heap.size := by obtain ⟨_, hb⟩ := h.blk; exact hb.lt
theorem CuL.below (h : CuL B p b a w vb) (hb : Below w.heap.size w w') : CuL B p b a w' vb :=
  ⟨h.blk.below hb h.blk.lt, h.by'.below ((Ex.of_below (p := p) hb).below h.hp (Nat.le_trans h.hp (Nat.le_of_lt h.blk.lt))), h.hp, h.at', h.len⟩
theorem CuD.below (h : CuD B p b y er w vb) (hb : Below w.heap.size w w') : CuD B p b y er w' vb :=
  ⟨by obtain ⟨a, hk⟩ := h.blk; exact ⟨a, hk.below hb hk.lt⟩, h.by'.below ((Ex.of_below (p := p) hb).below h.hp (Nat.le_trans h.hp (Nat.le_of_lt h.lt))), h.hp, h.er', h.len⟩
theorem CuL.alloc (h : CuL B p b a w vb) (o : Obj) : CuL B p b a (w.alloc o) vb := h.below (bAl (bRefl w) o)
theorem CuD.alloc (h : CuD B p b y er w vb) (o : Obj) : CuD B p b y er (w.alloc o) vb := h.below (bAl (bRefl w) o)
theorem CuL.drewN (h : CuL B p b a w vb) (n : Nat) : CuL B p b a (w.drewN n) vb := h.below ⟨rfl, rfl, rfl, Nat.le_refl _, fun _ _ => rfl⟩
theorem CuD.drewN (h : CuD B p b y er w vb) (n : Nat) : CuD B p b y er (w.drewN n) vb := h.below ⟨rfl, rfl, rfl, Nat.le_refl _, fun _ _ => rfl⟩
theorem CuL.drew (h : CuL B p b a w vb) : CuL B p b a w.drew vb := h.below ⟨rfl, rfl, rfl, Nat.le_refl _, fun _ _ => rfl⟩
theorem CuD.drew (h : CuD B p b y er w vb) : CuD B p b y er w.drew vb := h.below ⟨rfl, rfl, rfl, Nat.le_refl _, fun _ _ => rfl⟩
theorem CuL.set_other (h : CuL B p b a w vb) {q i : Nat} (v : Value) (hq : q ≠ p) (hB : B ≤ q) : CuL B p b a (w.setCell ⟨q, i, none⟩ v) vb :=
  ⟨h.blk.set_other q i v (fun e => hq e.symm), h.by'.below ((Below.refl B w).setCell (p := ⟨q, i, none⟩) hB v), h.hp, h.at', h.len⟩
theorem CuD.set_other (h : CuD B p b y er w vb) {q i : Nat} (v : Value) (hq : q ≠ p) (hB : B ≤ q) : CuD B p b y er (w.setCell ⟨q, i, none⟩ v) vb :=
  ⟨by obtain ⟨a, hk⟩ := h.blk; exact ⟨a, hk.set_other q i v (fun e => hq e.symm)⟩, h.by'.below ((Below.refl B w).setCell (p := ⟨q, i, none⟩) hB v), h.hp, h.er', h.len⟩
end
/-- What a function of the cursor leaves: a value and the cursor further on; or the first fault. -/
def RC {α : Type} (B p : Nat) (b : List Nat) (vb : Value) (r : Except (Nat × Int) (α × Nat)) (out : α → Value → World → Prop) (w : World) (e : Ending) (w' : World) : Prop :=
  match r with
  | .ok (x, a) => ∃ v, e = .returned v ∧ out x v w' ∧ CuL B p b a w' vb ∧ Ex p w w'
  | .error (y, er) => ∃ x v, e = .returned v ∧ out x v w' ∧ CuD B p b y er w' vb ∧ Ex p w w'
section
variable {α : Type} {B p : Nat} {b : List Nat} {vb : Value} {r : Except (Nat × Int) (α × Nat)} {out : α → Value → World → Prop} {w w' : World} {e : Ending}
theorem RC.err (h : RC B p b vb r out w e w') {y : Nat} {er : Int} (hr : r = .error (y, er)) : ∃ x v, e = .returned v ∧ out x v w' ∧ CuD B p b y er w' vb ∧ Ex p w w' := by subst hr; exact h
theorem RC.ok (h : RC B p b vb r out w e w') {x : α} {a : Nat} (hr : r = .ok (x, a)) : ∃ v, e = .returned v ∧ out x v w' ∧ CuL B p b a w' vb ∧ Ex p w w' := by subst hr; exact h
theorem RC.mk_err {y : Nat} {er : Int} {x : α} {v : Value} (hr : r = .error (y, er)) (ho : out x v w') (hd : CuD B p b y er w' vb) (hx : Ex p w w') : RC B p b vb r out w (.returned v) w' := by subst hr; exact ⟨x, v, rfl, ho, hd, hx⟩
theorem RC.mk_ok {x : α} {a : Nat} {v : Value} (hr : r = .ok (x, a)) (ho : out x v w') (hd : CuL B p b a w' vb) (hx : Ex p w w') : RC B p b vb r out w (.returned v) w' := by subst hr; exact ⟨v, rfl, ho, hd, hx⟩
theorem CuL.byte_lt {a x m : Nat} (h : CuL B p b a w vb) (hx : pByte b a = .ok (x, m)) : x < 256 ∧ m = a + 1 ∧ a < b.length := by
  unfold pByte at hx
  cases hb : b[a]? with
  | none => rw [hb] at hx; cases hx
  | some y =>
    rw [hb] at hx
    simp only [Except.ok.injEq, Prod.mk.injEq] at hx
    obtain ⟨rfl, rfl⟩ := hx
    obtain ⟨_, _, _, _, _, hc⟩ := h.by'
    obtain ⟨_, _, _, _, h3, _⟩ := hc a y hb
    exact ⟨h3, rfl, (List.getElem?_eq_some_iff.1 hb).1⟩
end

theorem cfault_ok (w : World) (B p a : Nat) (b : List Nat) (vb : Value) (h : CuL B p b a w vb) (y : Nat) (er : Int) (he : er ≠ 0) :
    Calls Try.prog 40 #[.pointer (some ⟨p, 0, none⟩), .int .i64 (y : Int), .int .i64 er] w fun e w' => e = .returned (.tuple #[]) ∧ CuD B p b y er w' vb ∧ Ex p w w' := by
  have H := Lib.hid h
  have c2 := h.blk.cell 2
  have c3 := h.blk.cell 3
  have f2 := h.blk.frozen 2
  have f3 := h.blk.frozen 3
  have hpl := h.blk.lt
  simp only [List.getElem?_toArray, List.getElem?_cons_zero, List.getElem?_cons_succ] at c2 c3
  have HE := Lib.hid he
  clear h he
  go_enter Try.func40, Try.ntmps40
  go_wp2
  go_end0
  refine ⟨rfl, ⟨⟨a, ?_⟩, ?_, H.out.hp, HE.out, H.out.len⟩, ((Ex.refl p w).set _ _).set _ _⟩
  · exact ((H.out.blk.set 2 (.int .i64 (y : Int))).set 3 (.int .i64 er)).eq rfl
  · exact H.out.by'.below (((Ex.refl p w).set 2 _ |>.set 3 _).below H.out.hp (Nat.le_trans H.out.hp (Nat.le_of_lt hpl)))

/-- A byte; 0 where there is none, or where a fault was met. -/
def RB (B p : Nat) (b : List Nat) (vb : Value) (r : Except (Nat × Int) (Nat × Nat)) (w : World) (e : Ending) (w' : World) : Prop :=
  match r with
  | .ok (x, a) => e = .returned (.int .i64 (x : Int)) ∧ CuL B p b a w' vb ∧ Ex p w w'
  | .error (y, er) => e = .returned (.int .i64 0) ∧ CuD B p b y er w' vb ∧ Ex p w w'
theorem RB.err {B p : Nat} {b : List Nat} {vb : Value} {r : Except (Nat × Int) (Nat × Nat)} {w w' : World} {e : Ending} (h : RB B p b vb r w e w') {y : Nat} {er : Int} (hr : r = .error (y, er)) : e = .returned (.int .i64 0) ∧ CuD B p b y er w' vb ∧ Ex p w w' := by subst hr; exact h
theorem RB.ok {B p : Nat} {b : List Nat} {vb : Value} {r : Except (Nat × Int) (Nat × Nat)} {w w' : World} {e : Ending} (h : RB B p b vb r w e w') {x a : Nat} (hr : r = .ok (x, a)) : e = .returned (.int .i64 (x : Int)) ∧ CuL B p b a w' vb ∧ Ex p w w' := by subst hr; exact h
theorem RB.rc {B p : Nat} {b : List Nat} {vb : Value} {r : Except (Nat × Int) (Nat × Nat)} {w w' : World} {e : Ending} (h : RB B p b vb r w e w') : RC B p b vb r isNat w e w' := by
  cases r with
  | ok v => obtain ⟨x, a⟩ := v; exact ⟨_, h.1, rfl, h.2⟩
  | error v => obtain ⟨y, er⟩ := v; exact ⟨0, _, h.1, rfl, h.2⟩

theorem cbyte_dead0 (w : World) (B p y : Nat) (er : Int) (b : List Nat) (vb : Value) (h : CuD B p b y er w vb) :
    Calls Try.prog 60 #[.pointer (some ⟨p, 0, none⟩)] w (RB B p b vb (.error (y, er)) w) := by
  have H := Lib.hid h
  obtain ⟨a, hb⟩ := h.blk
  have c3 := hb.cell 3
  simp only [List.getElem?_toArray, List.getElem?_cons_zero, List.getElem?_cons_succ] at c3
  have hne : (er != 0) = true := by rw [bne_iff_ne]; exact h.er'
  clear h hb
  go_enter Try.func60, Try.ntmps60
  go_wp2
  go_ret
  exact ⟨rfl, H.out, Ex.refl p w⟩
theorem cbyte_dead (w : World) (B p y : Nat) (er : Int) (b : List Nat) (vb : Value) (h : CuD B p b y er w vb) :
    Calls Try.prog 60 #[.pointer (some ⟨p, 0, none⟩)] w (RC B p b vb (.error (y, er) : Except (Nat × Int) (Nat × Nat)) isNat w) :=
  (cbyte_dead0 w B p y er b vb h).mono fun _ _ h => h.rc

theorem cbyte_ok0 (w : World) (B p a : Nat) (b : List Nat) (vb : Value) (h : CuL B p b a w vb) :
    Calls Try.prog 60 #[.pointer (some ⟨p, 0, none⟩)] w (RB B p b vb (pByte b a) w) := by
  have H := Lib.hid h
  obtain ⟨hblk, ⟨a0, cap, rfl, hc1, hc2, hcell⟩, hp, hat, hlen⟩ := h
  have c0 := hblk.cell 0
  have c1 := hblk.cell 1
  have c3 := hblk.cell 3
  have f1 := hblk.frozen 1
  simp only [List.getElem?_toArray, List.getElem?_cons_zero, List.getElem?_cons_succ] at c0 c1 c3
  have HC := Lib.hid hcell
  unfold maxLen at hc2
  clear hblk hcell
  cases hx : b[a]? with
  | none =>
    have hge : b.length ≤ a := by simpa using hx
    have hge' : (b.length : Int) ≤ (a : Int) := by omega
    have e1 : Hid (pByte b a = .error (b.length, 110)) := by show _ = _; unfold pByte; rw [hx]
    clear hx
    go_enter Try.func60, Try.ntmps60
    go_upto_region 3 with (fail)
    go_quiet (fail)
    go_wp2_with fail
    refine (cfault_ok _ B p a b _ (H.out.drewN _) b.length 110 (by decide)).mono ?_
    rintro e w1 ⟨rfl, hd, hx⟩
    have HD := Lib.hid hd
    clear hd
    go_wp2
    go_ret
    rw [e1.out]
    exact ⟨rfl, HD.out, ((Ex.refl p w).drewN _).trans hx⟩
  | some x =>
    have hlt : a < b.length := (List.getElem?_eq_some_iff.1 hx).1
    have hlt' : ¬ (b.length : Int) ≤ (a : Int) := by omega
    obtain ⟨bb, off, rfl, hbb, hx256, hcx⟩ := HC.out a x hx
    have e1 : Hid (pByte b a = .ok (x, a + 1)) := by show _ = _; unfold pByte; rw [hx]
    have hw1 : IntKind.i64.wrap ((a : Int) + 1) = (a : Int) + 1 := IntWalk.i64_in _ (by omega)
    clear hx
    go_enter Try.func60, Try.ntmps60
    go_upto_region 3 with (fail)
    go_quiet (fail)
    go_upto_region 7 with (fail)
    generalize hV : (w.drewN nq).setCell ⟨p, 1, none⟩ (.int .i64 ((a : Int) + 1)) = V
    have xV : Ex p w V := by rw [← hV]; exact ((Ex.refl p w).drewN _).set _ _
    have qV : CuL B p b (a + 1) V (.slice (some ⟨bb, off, none⟩) b.length cap) := by
      have hpl := H.out.lt
      refine ⟨?_, H.out.by'.below (xV.below hp (by omega)), hp, by omega, hlen⟩
      rw [← hV]
      exact ((H.out.blk.drewN nq).set 1 _).eq rfl
    have c0 := qV.blk.cell 0
    have c1 := qV.blk.cell 1
    simp only [List.getElem?_toArray, List.getElem?_cons_zero, List.getElem?_cons_succ] at c0 c1
    have hcx := ((xV.below hp (by have := H.out.lt; omega)).cell (p := ⟨bb, off + a, none⟩) hbb).trans hcx
    have QV := Lib.hid qV
    have hwa : IntKind.i64.wrap (a : Int) = a := IntWalk.i64_in _ (by omega)
    clear hV qV f1
    go_quiet (fail)
    go_wp2
    go_ret
    rw [e1.out]
    exact ⟨rfl, QV.out.drewN _, xV.drewN _⟩
theorem cbyte_ok (w : World) (B p a : Nat) (b : List Nat) (vb : Value) (h : CuL B p b a w vb) :
    Calls Try.prog 60 #[.pointer (some ⟨p, 0, none⟩)] w (RC B p b vb (pByte b a) isNat w) := (cbyte_ok0 w B p a b vb h).mono fun _ _ h => h.rc
end Go.Proofs.Ytfdjdpbiccclfaa
