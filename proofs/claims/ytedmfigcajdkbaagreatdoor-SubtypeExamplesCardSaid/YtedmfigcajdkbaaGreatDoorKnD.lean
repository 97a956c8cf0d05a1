/-
  Calls that are known, by the kernel: written by a program (wip/tools/known.py).
-/
import Derived.Test.YtedmfigcajdkbaaGreatDoorKnC
namespace Go.Proofs.YtedmfigcajdkbaaGreatDoor
open Go.Tel

def k12 : Known := ⟨0, 0, 0, 14,
    [.ptr 1 0, .agg [.pv (.sc (.int .i64 (.ofNat 3))), .pv (.sc (.string ⟨#[]⟩)), .pv (.sc (.int .i64 (.ofNat 0))), .capped [[.sc (.int .i64 (.ofNat 2)), .sc (.string ⟨#[73, 110,
    116]⟩), .sc (.int .i64 (.ofNat 0)), .list []], [.sc (.int .i64 (.ofNat 2)), .sc (.string ⟨#[66, 111, 120]⟩), .sc (.int .i64 (.ofNat 0)), .list [[.sc (.int .i64 (.ofNat 0)), .sc
    (.string ⟨#[]⟩), .sc (.int .i64 (.ofNat 0)), .list []]]]]], .agg [.pv (.sc (.int .i64 (.ofNat 6))), .pv (.sc (.string ⟨#[]⟩)), .pv (.sc (.int .i64 (.ofNat 0))), .capped [[.sc (.int
    .i64 (.ofNat 0)), .sc (.string ⟨#[]⟩), .sc (.int .i64 (.ofNat 0)), .list []], [.sc (.int .i64 (.ofNat 3)), .sc (.string ⟨#[]⟩), .sc (.int .i64 (.ofNat 0)), .list [[.sc (.int .i64
    (.ofNat 5)), .sc (.string ⟨#[]⟩), .sc (.int .i64 (.ofNat 0)), .list []], [.sc (.int .i64 (.ofNat 2)), .sc (.string ⟨#[66, 111, 120]⟩), .sc (.int .i64 (.ofNat 0)), .list [[.sc (.int
    .i64 (.ofNat 5)), .sc (.string ⟨#[]⟩), .sc (.int .i64 (.ofNat 0)), .list []]]]]]]]],
    sto1,
    .pv (.sc (.bool true)),
    sto1⟩
theorem k12Ev (mu : TypeId → Bool) (rr : FuncId → Bool) (pl : Nat → Option Plan) : eqRes k12.v k12.s' (callK env [] 400 ⟨k12.n0, k12.ro, k12.rt, mu, rr, pl⟩ k12.f k12.args k12.s) = true := by kernel_rfl
theorem k12Ok : k12.Ok env :=
  Known.of_check good (ks := []) (by simp) 400 k12 k12Ev

def k13 : Known := ⟨0, 0, 0, 14,
    [.ptr 1 0, .agg [.pv (.sc (.int .i64 (.ofNat 3))), .pv (.sc (.string ⟨#[]⟩)), .pv (.sc (.int .i64 (.ofNat 0))), .capped [[.sc (.int .i64 (.ofNat 2)), .sc (.string ⟨#[73, 110,
    116]⟩), .sc (.int .i64 (.ofNat 0)), .list []], [.sc (.int .i64 (.ofNat 2)), .sc (.string ⟨#[66, 111, 120]⟩), .sc (.int .i64 (.ofNat 0)), .list [[.sc (.int .i64 (.ofNat 2)), .sc
    (.string ⟨#[66, 111, 111, 108]⟩), .sc (.int .i64 (.ofNat 0)), .list []]]]]], .agg [.pv (.sc (.int .i64 (.ofNat 6))), .pv (.sc (.string ⟨#[]⟩)), .pv (.sc (.int .i64 (.ofNat 0))),
    .capped [[.sc (.int .i64 (.ofNat 0)), .sc (.string ⟨#[]⟩), .sc (.int .i64 (.ofNat 0)), .list []], [.sc (.int .i64 (.ofNat 3)), .sc (.string ⟨#[]⟩), .sc (.int .i64 (.ofNat 0)), .list
    [[.sc (.int .i64 (.ofNat 5)), .sc (.string ⟨#[]⟩), .sc (.int .i64 (.ofNat 0)), .list []], [.sc (.int .i64 (.ofNat 2)), .sc (.string ⟨#[66, 111, 120]⟩), .sc (.int .i64 (.ofNat 0)),
    .list [[.sc (.int .i64 (.ofNat 5)), .sc (.string ⟨#[]⟩), .sc (.int .i64 (.ofNat 0)), .list []]]]]]]]],
    sto1,
    .pv (.sc (.bool false)),
    sto1⟩
theorem k13Ev (mu : TypeId → Bool) (rr : FuncId → Bool) (pl : Nat → Option Plan) : eqRes k13.v k13.s' (callK env [] 400 ⟨k13.n0, k13.ro, k13.rt, mu, rr, pl⟩ k13.f k13.args k13.s) = true := by kernel_rfl
theorem k13Ok : k13.Ok env :=
  Known.of_check good (ks := []) (by simp) 400 k13 k13Ev

def k14 : Known := ⟨0, 0, 0, 14,
    [.ptr 1 0, .agg [.pv (.sc (.int .i64 (.ofNat 1))), .pv (.sc (.string ⟨#[]⟩)), .pv (.sc (.int .i64 (.ofNat 0))), .capped []], .agg [.pv (.sc (.int .i64 (.ofNat 2))), .pv (.sc
    (.string ⟨#[73, 110, 116]⟩)), .pv (.sc (.int .i64 (.ofNat 0))), .capped []]],
    sto1,
    .pv (.sc (.bool true)),
    sto1⟩
theorem k14Ev (mu : TypeId → Bool) (rr : FuncId → Bool) (pl : Nat → Option Plan) : eqRes k14.v k14.s' (callK env [] 400 ⟨k14.n0, k14.ro, k14.rt, mu, rr, pl⟩ k14.f k14.args k14.s) = true := by kernel_rfl
theorem k14Ok : k14.Ok env :=
  Known.of_check good (ks := []) (by simp) 400 k14 k14Ev

end Go.Proofs.YtedmfigcajdkbaaGreatDoor
