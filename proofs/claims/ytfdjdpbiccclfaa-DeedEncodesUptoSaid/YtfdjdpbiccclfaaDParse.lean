/- Reading a deed's bytes, in plain words: parsers that read from the left and stop at the first fault, with its place. -/
import Derived.Test.YtfdjdpbiccclfaaDDd
namespace Go.Proofs.Ytfdjdpbiccclfaa
open Go Go.RowKit Go.Wr
set_option maxHeartbeats 1000000

def Ps (α : Type) := List Nat → Nat → Except (Nat × Int) (α × Nat)
section
variable {α β : Type}
def pPure (x : α) : Ps α := fun _ a => .ok (x, a)
def pFail (at' : Nat) (e : Int) : Ps α := fun _ _ => .error (at', e)
def pBind (p : Ps α) (q : α → Ps β) : Ps β := fun b a => match p b a with | .error e => .error e | .ok (x, a') => q x b a'
/-- What is read must be so; else the fault is where it begins. -/
def pChk (c : α → Bool) (e : Int) (p : Ps α) : Ps α := fun b a => match p b a with | .error e => .error e | .ok (x, a') => if c x = true then .ok (x, a') else .error (a, e)
def pMap (f : α → β) (p : Ps α) : Ps β := fun b a => match p b a with | .error e => .error e | .ok (x, a') => .ok (f x, a')
end
def pByte : Ps Nat := fun b a => match b[a]? with | some x => .ok (x, a + 1) | none => .error (b.length, 110)
def pGrp (from' : Nat) : Nat → Nat → Nat → Ps Nat
  | 0, _, _ => pFail from' 110
  | f + 1, k, x => pBind pByte fun g => if g < 128 then (if g = 0 ∧ 0 < k then pFail from' 110 else pPure (x + g % 128 * 2 ^ (7 * k))) else pGrp from' f (k + 1) (x + g % 128 * 2 ^ (7 * k))
def pNum : Ps Nat := fun b a => pGrp a 9 0 0 b a
def pMost (high : Nat) (e : Int) : Ps Nat := pChk (fun x => decide (x ≤ high)) e pNum
def unz (x : Nat) : Int := if x % 2 = 0 then ((x / 2 : Nat) : Int) else -((x / 2 : Nat) : Int) - 1
def pSig (e : Int) : Ps Int := pChk (fun y => inB y (-1099511627776) 1099511627776) e (pMap unz pNum)
def pBnd (high : Nat) (e : Int) : Ps Nat := pChk (fun x => decide (x ≤ high)) e pByte
def pTag (slot : Bool) : Ps Tg := pBind (pBnd 6 90) fun k =>
  if k = 5 ∨ k = 6 then pBind (pBnd 7 90) fun t => pPure ⟨k, t, 0⟩
  else if slot = true ∧ k = 0 then pBind (pChk (fun m => decide (m ≠ 0)) 90 pByte) fun m => pPure ⟨k, 0, m⟩
  else pPure ⟨k, 0, 0⟩
def putT (f : Nat → Tg) (i : Nat) (t : Tg) : Nat → Tg := fun k => if k = i then t else f k
def pRegs : Nat → Nat → (Nat → Tg) → Ps (Nat → Tg)
  | 0, _, f => pPure f
  | n + 1, i, f => pBind (pTag false) fun t => pRegs n (i + 1) (putT f i t)
def pSlots : Nat → Int → (Nat → Tg) → Ps (Nat → Tg)
  | 0, _, f => pPure f
  | n + 1, last, f => pBind (pChk (fun i : Nat => decide (last < (i : Int))) 111 (pBnd 31 90)) fun i => pBind (pTag true) fun t => pSlots n i (putT f (10 + i) t)
def pPair (prev : Option C3) : Ps (Nat × Nat) :=
  pChk (fun x => match prev with | some y => rises y ⟨x.1, x.2, 0⟩ | none => true) 111 (pBind (pBnd 59 91) fun i => pMap (fun j => (i, j)) (pChk (fun j => decide (j ≠ i)) 91 (pBnd 59 91)))
def pCon (prev : Option C3) : Ps C3 := pBind (pPair prev) fun x => pMap (fun c => ⟨x.1, x.2, c⟩) (pSig 91)
def pCons : Nat → List C3 → Ps (List C3)
  | 0, l => pPure l
  | n + 1, l => pBind (pCon l.getLast?) fun x => pCons n (l ++ [x])
def pClaim : Ps Cl := pBind (pBnd 1 110) fun live =>
  if live = 0 then pPure ⟨true, f0, []⟩
  else pBind (pRegs 10 0 f0) fun f => pBind (pMost 32 112) fun n => pBind (pSlots n (-1) f) fun f => pBind (pMost 3540 112) fun n => pMap (fun l => ⟨false, f, l⟩) (pCons n [])
def pLoop : Ps Lp := pBind (pMost 511 113) fun h => pBind (pMost 59 113) fun a => pBind (pMost 59 113) fun b => pBind (pSig 113) fun k => pMap (fun d : Nat => ⟨h, a, b, k, d⟩) (pMost 1099511627776 113)
def pLoops : Nat → List Lp → Ps (List Lp)
  | 0, l => pPure l
  | n + 1, l => pBind pLoop fun x => pLoops n (l ++ [x])
def pClaims : Nat → List Cl → Ps (List Cl)
  | 0, l => pPure l
  | n + 1, l => pBind pClaim fun x => pClaims n (l ++ [x])
def pBody : Ps Dd := pBind (pMost 8 112) fun n => pBind (pLoops n []) fun ls => pBind (pMost 512 112) fun n => pMap (fun cs => ⟨ls, cs⟩) (pClaims n [])
def pDeed (b : List Nat) : Except (Nat × Int) Dd :=
  if b.length < 4 then .error (b.length, 110) else if b.take 4 ≠ [87, 65, 82, 49] then .error (0, 110)
  else match pBody b 4 with | .error e => .error e | .ok (d, a) => if a < b.length then .error (a, 110) else .ok d
def decD (b : List Nat) : Dd × Nat × Int :=
  if 4194304 < b.length then (⟨[], []⟩, 0, 2) else match pDeed b with | .ok d => (d, 0, 0) | .error (a, e) => (⟨[], []⟩, a, e)

end Go.Proofs.Ytfdjdpbiccclfaa
