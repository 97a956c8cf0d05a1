/-
  Calls that are known, by the kernel: written by a program (wip/tools/known.py).
-/
import Derived.Test.YtedmfigcajdkbaaGreatDoorKnB
namespace Go.Proofs.YtedmfigcajdkbaaGreatDoor
open Go.Tel

def k10 : Known := ⟨0, 0, 0, 14,
    [.ptr 1 0, .agg [.pv (.sc (.int .i64 (.ofNat 6))), .pv (.sc (.string ⟨#[]⟩)), .pv (.sc (.int .i64 (.ofNat 0))), .capped [[.sc (.int .i64 (.ofNat 4)), .sc (.string ⟨#[]⟩), .sc (.int
    .i64 (.ofNat 0)), .list [[.sc (.int .i64 (.ofNat 2)), .sc (.string ⟨#[66, 111, 111, 108]⟩), .sc (.int .i64 (.ofNat 0)), .list []], [.sc (.int .i64 (.ofNat 2)), .sc (.string ⟨#[73,
    110, 116]⟩), .sc (.int .i64 (.ofNat 0)), .list []]]], [.sc (.int .i64 (.ofNat 3)), .sc (.string ⟨#[]⟩), .sc (.int .i64 (.ofNat 0)), .list [[.sc (.int .i64 (.ofNat 5)), .sc (.string
    ⟨#[]⟩), .sc (.int .i64 (.ofNat 0)), .list []], [.sc (.int .i64 (.ofNat 2)), .sc (.string ⟨#[66, 111, 120]⟩), .sc (.int .i64 (.ofNat 0)), .list [[.sc (.int .i64 (.ofNat 5)), .sc
    (.string ⟨#[]⟩), .sc (.int .i64 (.ofNat 0)), .list []]]]]]]], .agg [.pv (.sc (.int .i64 (.ofNat 4))), .pv (.sc (.string ⟨#[]⟩)), .pv (.sc (.int .i64 (.ofNat 0))), .capped [[.sc
    (.int .i64 (.ofNat 3)), .sc (.string ⟨#[]⟩), .sc (.int .i64 (.ofNat 0)), .list [[.sc (.int .i64 (.ofNat 2)), .sc (.string ⟨#[73, 110, 116]⟩), .sc (.int .i64 (.ofNat 0)), .list []],
    [.sc (.int .i64 (.ofNat 6)), .sc (.string ⟨#[]⟩), .sc (.int .i64 (.ofNat 0)), .list [[.sc (.int .i64 (.ofNat 0)), .sc (.string ⟨#[]⟩), .sc (.int .i64 (.ofNat 0)), .list []], [.sc
    (.int .i64 (.ofNat 2)), .sc (.string ⟨#[66, 111, 120]⟩), .sc (.int .i64 (.ofNat 0)), .list [[.sc (.int .i64 (.ofNat 5)), .sc (.string ⟨#[]⟩), .sc (.int .i64 (.ofNat 0)), .list
    []]]]]]]], [.sc (.int .i64 (.ofNat 3)), .sc (.string ⟨#[]⟩), .sc (.int .i64 (.ofNat 0)), .list [[.sc (.int .i64 (.ofNat 2)), .sc (.string ⟨#[66, 111, 111, 108]⟩), .sc (.int .i64
    (.ofNat 0)), .list []], [.sc (.int .i64 (.ofNat 6)), .sc (.string ⟨#[]⟩), .sc (.int .i64 (.ofNat 0)), .list [[.sc (.int .i64 (.ofNat 0)), .sc (.string ⟨#[]⟩), .sc (.int .i64 (.ofNat
    0)), .list []], [.sc (.int .i64 (.ofNat 2)), .sc (.string ⟨#[66, 111, 120]⟩), .sc (.int .i64 (.ofNat 0)), .list [[.sc (.int .i64 (.ofNat 5)), .sc (.string ⟨#[]⟩), .sc (.int .i64
    (.ofNat 0)), .list []]]]]]]]]]],
    sto1,
    .pv (.sc (.bool true)),
    sto1⟩
theorem k10Ev (mu : TypeId → Bool) (rr : FuncId → Bool) (pl : Nat → Option Plan) : eqRes k10.v k10.s' (callK env [] 400 ⟨k10.n0, k10.ro, k10.rt, mu, rr, pl⟩ k10.f k10.args k10.s) = true := by kernel_rfl
theorem k10Ok : k10.Ok env :=
  Known.of_check good (ks := []) (by simp) 400 k10 k10Ev

def k11 : Known := ⟨0, 0, 0, 14,
    [.ptr 1 0, .agg [.pv (.sc (.int .i64 (.ofNat 6))), .pv (.sc (.string ⟨#[]⟩)), .pv (.sc (.int .i64 (.ofNat 0))), .capped [[.sc (.int .i64 (.ofNat 0)), .sc (.string ⟨#[]⟩), .sc (.int
    .i64 (.ofNat 0)), .list []], [.sc (.int .i64 (.ofNat 3)), .sc (.string ⟨#[]⟩), .sc (.int .i64 (.ofNat 0)), .list [[.sc (.int .i64 (.ofNat 5)), .sc (.string ⟨#[]⟩), .sc (.int .i64
    (.ofNat 0)), .list []], [.sc (.int .i64 (.ofNat 2)), .sc (.string ⟨#[66, 111, 120]⟩), .sc (.int .i64 (.ofNat 0)), .list [[.sc (.int .i64 (.ofNat 5)), .sc (.string ⟨#[]⟩), .sc (.int
    .i64 (.ofNat 0)), .list []]]]]]]], .agg [.pv (.sc (.int .i64 (.ofNat 4))), .pv (.sc (.string ⟨#[]⟩)), .pv (.sc (.int .i64 (.ofNat 0))), .capped [[.sc (.int .i64 (.ofNat 3)), .sc
    (.string ⟨#[]⟩), .sc (.int .i64 (.ofNat 0)), .list [[.sc (.int .i64 (.ofNat 2)), .sc (.string ⟨#[73, 110, 116]⟩), .sc (.int .i64 (.ofNat 0)), .list []], [.sc (.int .i64 (.ofNat 6)),
    .sc (.string ⟨#[]⟩), .sc (.int .i64 (.ofNat 0)), .list [[.sc (.int .i64 (.ofNat 0)), .sc (.string ⟨#[]⟩), .sc (.int .i64 (.ofNat 0)), .list []], [.sc (.int .i64 (.ofNat 2)), .sc
    (.string ⟨#[66, 111, 120]⟩), .sc (.int .i64 (.ofNat 0)), .list [[.sc (.int .i64 (.ofNat 5)), .sc (.string ⟨#[]⟩), .sc (.int .i64 (.ofNat 0)), .list []]]]]]]], [.sc (.int .i64
    (.ofNat 3)), .sc (.string ⟨#[]⟩), .sc (.int .i64 (.ofNat 0)), .list [[.sc (.int .i64 (.ofNat 2)), .sc (.string ⟨#[66, 111, 111, 108]⟩), .sc (.int .i64 (.ofNat 0)), .list []], [.sc
    (.int .i64 (.ofNat 6)), .sc (.string ⟨#[]⟩), .sc (.int .i64 (.ofNat 0)), .list [[.sc (.int .i64 (.ofNat 0)), .sc (.string ⟨#[]⟩), .sc (.int .i64 (.ofNat 0)), .list []], [.sc (.int
    .i64 (.ofNat 2)), .sc (.string ⟨#[66, 111, 120]⟩), .sc (.int .i64 (.ofNat 0)), .list [[.sc (.int .i64 (.ofNat 5)), .sc (.string ⟨#[]⟩), .sc (.int .i64 (.ofNat 0)), .list
    []]]]]]]]]]],
    sto1,
    .pv (.sc (.bool false)),
    sto1⟩
theorem k11Ev (mu : TypeId → Bool) (rr : FuncId → Bool) (pl : Nat → Option Plan) : eqRes k11.v k11.s' (callK env [] 400 ⟨k11.n0, k11.ro, k11.rt, mu, rr, pl⟩ k11.f k11.args k11.s) = true := by kernel_rfl
theorem k11Ok : k11.Ok env :=
  Known.of_check good (ks := []) (by simp) 400 k11 k11Ev

end Go.Proofs.YtedmfigcajdkbaaGreatDoor
