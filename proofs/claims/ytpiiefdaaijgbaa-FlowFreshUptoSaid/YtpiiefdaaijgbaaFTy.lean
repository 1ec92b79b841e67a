/- The types of elements of the flow's rows. -/
import Derived.Test.YtpiiefdaaijgbaaFCk
import Derived.Test.YtpiiefdaaijgbaaFRow
namespace Go.Proofs.Ytpiiefdaaijgbaa
open Go Go.RowKit Go.Wr Go.Fl
set_option maxHeartbeats 1000000

/-- A slice, as an element. -/
structure Sv where
  a : Option Addr
  n : Nat
  c : Nat
def Sv.v (s : Sv) : Value := .slice s.a s.n s.c
theorem Sv.v_mk (a : Option Addr) (n c : Nat) : Sv.v ⟨a, n, c⟩ = .slice a n c := rfl
/-- A block, as it lies in memory. -/
structure Bk where
  fr : Int
  to : Int
  nx : Sv
/-- A loop, as it lies in memory. -/
structure Ar where
  hd : Int
  bl : Sv
  pa : Int
def rwv (y : Rw) : List Value := [.int .i64 y.code, .int .i64 y.op, .int .i64 y.sz, .bool y.nar, .bool y.reg, .int .i64 y.dst, .int .i64 y.src, .int .i64 y.off, .int .i64 y.imm, .int .i64 y.second, .bool y.wr]
theorem oneSimp {l : List Value} (h : l.all Value.oneCell' = true) : ∀ u ∈ l, u.oneCell' = true := List.all_eq_true.1 h

def tI : RT Try.prog Int := ⟨3, 36, 1, 8, .int .i64 0, fun x => [.int .i64 x], fun _ => rfl, fun _ => oneSimp rfl, by kernel_rfl, by kernel_rfl, by decide, by decide⟩
def tB : RT Try.prog Bool := ⟨4, 61, 1, 1, .bool false, fun x => [.bool x], fun _ => rfl, fun _ => oneSimp rfl, by kernel_rfl, by kernel_rfl, by decide, by decide⟩
def tN : RT Try.prog In := ⟨57, 23, 8, 56, .agg #[.int .i64 0, .bool false, .bool false, .int .i64 0, .int .i64 0, .int .i64 0, .int .i64 0, .int .i64 0], fun x => (inv x).toList, fun _ => rfl, fun _ => oneSimp rfl, by kernel_rfl, by kernel_rfl, by decide, by decide⟩
def tR : RT Try.prog Rw := ⟨166, 152, 11, 80, .agg #[.int .i64 0, .int .i64 0, .int .i64 0, .bool false, .bool false, .int .i64 0, .int .i64 0, .int .i64 0, .int .i64 0, .int .i64 0, .bool false], fun y => rwv y, fun _ => rfl, fun _ => oneSimp rfl, by kernel_rfl, by kernel_rfl, by decide, by decide⟩
def tK : RT Try.prog Bk := ⟨54, 47, 3, 40, .agg #[.int .i64 0, .int .i64 0, .slice none 0 0], fun b => [.int .i64 b.fr, .int .i64 b.to, b.nx.v], fun _ => rfl, fun _ => oneSimp rfl, by kernel_rfl, by kernel_rfl, by decide, by decide⟩
def tA : RT Try.prog Ar := ⟨52, 49, 3, 40, .agg #[.int .i64 0, .slice none 0 0, .int .i64 0], fun b => [.int .i64 b.hd, b.bl.v, .int .i64 b.pa], fun _ => rfl, fun _ => oneSimp rfl, by kernel_rfl, by kernel_rfl, by decide, by decide⟩
def tS : RT Try.prog (Int × Int) := ⟨140, 135, 2, 16, .agg #[.int .i64 0, .int .i64 0], fun x => [.int .i64 x.1, .int .i64 x.2], fun _ => rfl, fun _ => oneSimp rfl, by kernel_rfl, by kernel_rfl, by decide, by decide⟩
def tII : RT Try.prog Sv := ⟨36, 66, 1, 24, .slice none 0 0, fun s => [s.v], fun _ => rfl, fun _ => oneSimp rfl, by kernel_rfl, by kernel_rfl, by decide, by decide⟩
def tBB : RT Try.prog Sv := ⟨61, 73, 1, 24, .slice none 0 0, fun s => [s.v], fun _ => rfl, fun _ => oneSimp rfl, by kernel_rfl, by kernel_rfl, by decide, by decide⟩
def tP : RT Try.prog Nat := ⟨131, 149, 1, 8, .pointer none, fun g => [.pointer (some ⟨g, 0, none⟩)], fun _ => rfl, fun _ => oneSimp rfl, by kernel_rfl, by kernel_rfl, by decide, by decide⟩
end Go.Proofs.Ytpiiefdaaijgbaa
