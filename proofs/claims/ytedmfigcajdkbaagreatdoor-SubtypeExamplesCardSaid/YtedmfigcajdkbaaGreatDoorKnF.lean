/-
  Calls that are known, by the kernel: written by a program (wip/tools/known.py).
-/
import Derived.Test.YtedmfigcajdkbaaGreatDoorKnC
namespace Go.Proofs.YtedmfigcajdkbaaGreatDoor
open Go.Tel

def k18 : Known := ⟨0, 0, 0, 14,
    [.ptr 1 0, .agg [.pv (.sc (.int .i64 (.ofNat 2))), .pv (.sc (.string ⟨#[78, 101, 115, 116]⟩)), .pv (.sc (.int .i64 (.ofNat 0))), .capped [[.sc (.int .i64 (.ofNat 2)), .sc (.string
    ⟨#[73, 110, 116]⟩), .sc (.int .i64 (.ofNat 0)), .list []]]], .agg [.pv (.sc (.int .i64 (.ofNat 2))), .pv (.sc (.string ⟨#[66, 111, 120]⟩)), .pv (.sc (.int .i64 (.ofNat 0))), .capped
    [[.sc (.int .i64 (.ofNat 2)), .sc (.string ⟨#[73, 110, 116]⟩), .sc (.int .i64 (.ofNat 0)), .list []]]]],
    sto1,
    .pv (.sc (.bool false)),
    sto1⟩
theorem k18Ev (mu : TypeId → Bool) (rr : FuncId → Bool) (pl : Nat → Option Plan) : eqRes k18.v k18.s' (callK env [] 400 ⟨k18.n0, k18.ro, k18.rt, mu, rr, pl⟩ k18.f k18.args k18.s) = true := by kernel_rfl
theorem k18Ok : k18.Ok env :=
  Known.of_check good (ks := []) (by simp) 400 k18 k18Ev

def k19 : Known := ⟨0, 0, 0, 14,
    [.ptr 1 0, .agg [.pv (.sc (.int .i64 (.ofNat 2))), .pv (.sc (.string ⟨#[78, 101, 115, 116]⟩)), .pv (.sc (.int .i64 (.ofNat 0))), .capped [[.sc (.int .i64 (.ofNat 2)), .sc (.string
    ⟨#[73, 110, 116]⟩), .sc (.int .i64 (.ofNat 0)), .list []]]], .agg [.pv (.sc (.int .i64 (.ofNat 6))), .pv (.sc (.string ⟨#[]⟩)), .pv (.sc (.int .i64 (.ofNat 0))), .capped [[.sc (.int
    .i64 (.ofNat 0)), .sc (.string ⟨#[]⟩), .sc (.int .i64 (.ofNat 0)), .list []], [.sc (.int .i64 (.ofNat 2)), .sc (.string ⟨#[66, 111, 120]⟩), .sc (.int .i64 (.ofNat 0)), .list [[.sc
    (.int .i64 (.ofNat 2)), .sc (.string ⟨#[66, 111, 120]⟩), .sc (.int .i64 (.ofNat 0)), .list [[.sc (.int .i64 (.ofNat 5)), .sc (.string ⟨#[]⟩), .sc (.int .i64 (.ofNat 0)), .list
    []]]]]]]]],
    sto1,
    .pv (.sc (.bool true)),
    sto1⟩
theorem k19Ev (mu : TypeId → Bool) (rr : FuncId → Bool) (pl : Nat → Option Plan) : eqRes k19.v k19.s' (callK env [] 400 ⟨k19.n0, k19.ro, k19.rt, mu, rr, pl⟩ k19.f k19.args k19.s) = true := by kernel_rfl
theorem k19Ok : k19.Ok env :=
  Known.of_check good (ks := []) (by simp) 400 k19 k19Ev

end Go.Proofs.YtedmfigcajdkbaaGreatDoor
