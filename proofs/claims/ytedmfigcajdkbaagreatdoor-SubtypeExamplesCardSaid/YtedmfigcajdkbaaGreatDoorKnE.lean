/-
  Calls that are known, by the kernel: written by a program (wip/tools/known.py).
-/
import Derived.Test.YtedmfigcajdkbaaGreatDoorKnC
namespace Go.Proofs.YtedmfigcajdkbaaGreatDoor
open Go.Tel

def k15 : Known := ⟨0, 0, 0, 14,
    [.ptr 1 0, .agg [.pv (.sc (.int .i64 (.ofNat 2))), .pv (.sc (.string ⟨#[73, 110, 116]⟩)), .pv (.sc (.int .i64 (.ofNat 0))), .capped []], .agg [.pv (.sc (.int .i64 (.ofNat 1))), .pv
    (.sc (.string ⟨#[]⟩)), .pv (.sc (.int .i64 (.ofNat 0))), .capped []]],
    sto1,
    .pv (.sc (.bool false)),
    sto1⟩
theorem k15Ev (mu : TypeId → Bool) (rr : FuncId → Bool) (pl : Nat → Option Plan) : eqRes k15.v k15.s' (callK env [] 400 ⟨k15.n0, k15.ro, k15.rt, mu, rr, pl⟩ k15.f k15.args k15.s) = true := by kernel_rfl
theorem k15Ok : k15.Ok env :=
  Known.of_check good (ks := []) (by simp) 400 k15 k15Ev

def k16 : Known := ⟨0, 0, 0, 14,
    [.ptr 1 0, .agg [.pv (.sc (.int .i64 (.ofNat 3))), .pv (.sc (.string ⟨#[]⟩)), .pv (.sc (.int .i64 (.ofNat 0))), .capped []], .agg [.pv (.sc (.int .i64 (.ofNat 0))), .pv (.sc
    (.string ⟨#[]⟩)), .pv (.sc (.int .i64 (.ofNat 0))), .capped []]],
    sto1,
    .pv (.sc (.bool true)),
    sto1⟩
theorem k16Ev (mu : TypeId → Bool) (rr : FuncId → Bool) (pl : Nat → Option Plan) : eqRes k16.v k16.s' (callK env [] 400 ⟨k16.n0, k16.ro, k16.rt, mu, rr, pl⟩ k16.f k16.args k16.s) = true := by kernel_rfl
theorem k16Ok : k16.Ok env :=
  Known.of_check good (ks := []) (by simp) 400 k16 k16Ev

end Go.Proofs.YtedmfigcajdkbaaGreatDoor
