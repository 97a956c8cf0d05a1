/-
  Calls that are known, by the kernel: written by a program (wip/tools/known.py).
-/
import Derived.Test.YtghaphbkhdhmdaaGreatDoorKnA
set_option linter.unusedSimpArgs false
set_option linter.unusedVariables false
namespace Go.Proofs.YtghaphbkhdhmdaaGreatDoor
open Go.Tel

def sto1 : Sto := ⟨[[.mobj [⟨.string ⟨#[73, 110, 116]⟩, .int .i64 (.ofNat 0), 0⟩, ⟨.string ⟨#[66, 111, 111, 108]⟩, .int .i64 (.ofNat 1), 1⟩, ⟨.string ⟨#[83, 116, 114, 105, 110, 103]⟩, .int .i64
    (.ofNat 2), 2⟩, ⟨.string ⟨#[78, 105, 108]⟩, .int .i64 (.ofNat 3), 3⟩, ⟨.string ⟨#[66, 111, 120]⟩, .int .i64 (.ofNat 4), 4⟩, ⟨.string ⟨#[67, 101, 108, 108]⟩, .int .i64 (.ofNat 5),
    5⟩, ⟨.string ⟨#[73, 110, 116, 66, 111, 120]⟩, .int .i64 (.ofNat 6), 6⟩, ⟨.string ⟨#[83, 104, 97, 112, 101]⟩, .int .i64 (.ofNat 7), 7⟩, ⟨.string ⟨#[68, 111, 116]⟩, .int .i64 (.ofNat
    8), 8⟩, ⟨.string ⟨#[68, 105, 115, 107]⟩, .int .i64 (.ofNat 9), 9⟩, ⟨.string ⟨#[80, 97, 105, 114]⟩, .int .i64 (.ofNat 10), 10⟩, ⟨.string ⟨#[78, 101, 115, 116]⟩, .int .i64 (.ofNat
    11), 11⟩] 12], [.own 0 [[.sc (.string ⟨#[73, 110, 116]⟩), .sc (.int .i64 (.ofNat 0)), .sc (.int .i64 (.ofNat 0)), .sc (.string ⟨#[]⟩), .sc (.int .i64 (.ofNat 0)), .list [], .sc
    (.bool true), .list []], [.sc (.string ⟨#[66, 111, 111, 108]⟩), .sc (.int .i64 (.ofNat 0)), .sc (.int .i64 (.ofNat 0)), .sc (.string ⟨#[]⟩), .sc (.int .i64 (.ofNat 0)), .list [],
    .sc (.bool true), .list []], [.sc (.string ⟨#[83, 116, 114, 105, 110, 103]⟩), .sc (.int .i64 (.ofNat 0)), .sc (.int .i64 (.ofNat 0)), .sc (.string ⟨#[]⟩), .sc (.int .i64 (.ofNat
    0)), .list [], .sc (.bool true), .list []], [.sc (.string ⟨#[78, 105, 108]⟩), .sc (.int .i64 (.ofNat 0)), .sc (.int .i64 (.ofNat 0)), .sc (.string ⟨#[]⟩), .sc (.int .i64 (.ofNat
    0)), .list [], .sc (.bool true), .list []], [.sc (.string ⟨#[66, 111, 120]⟩), .sc (.int .i64 (.ofNat 1)), .sc (.int .i64 (.ofNat 0)), .sc (.string ⟨#[]⟩), .sc (.int .i64 (.ofNat
    0)), .list [], .sc (.bool false), .list []], [.sc (.string ⟨#[67, 101, 108, 108]⟩), .sc (.int .i64 (.ofNat 1)), .sc (.int .i64 (.ofNat 2)), .sc (.string ⟨#[66, 111, 120]⟩), .sc
    (.int .i64 (.ofNat 0)), .list [[.sc (.int .i64 (.ofNat 5)), .sc (.string ⟨#[]⟩), .sc (.int .i64 (.ofNat 0)), .list []]], .sc (.bool true), .list [[.sc (.string ⟨#[105, 116, 101,
    109]⟩), .sc (.int .i64 (.ofNat 5)), .sc (.string ⟨#[]⟩), .sc (.int .i64 (.ofNat 0)), .list []]]], [.sc (.string ⟨#[73, 110, 116, 66, 111, 120]⟩), .sc (.int .i64 (.ofNat 0)), .sc
    (.int .i64 (.ofNat 2)), .sc (.string ⟨#[66, 111, 120]⟩), .sc (.int .i64 (.ofNat 0)), .list [[.sc (.int .i64 (.ofNat 2)), .sc (.string ⟨#[73, 110, 116]⟩), .sc (.int .i64 (.ofNat 0)),
    .list []]], .sc (.bool true), .list [[.sc (.string ⟨#[105, 116, 101, 109]⟩), .sc (.int .i64 (.ofNat 2)), .sc (.string ⟨#[73, 110, 116]⟩), .sc (.int .i64 (.ofNat 0)), .list []]]],
    [.sc (.string ⟨#[83, 104, 97, 112, 101]⟩), .sc (.int .i64 (.ofNat 0)), .sc (.int .i64 (.ofNat 0)), .sc (.string ⟨#[]⟩), .sc (.int .i64 (.ofNat 0)), .list [], .sc (.bool false),
    .list []], [.sc (.string ⟨#[68, 111, 116]⟩), .sc (.int .i64 (.ofNat 0)), .sc (.int .i64 (.ofNat 2)), .sc (.string ⟨#[83, 104, 97, 112, 101]⟩), .sc (.int .i64 (.ofNat 0)), .list [],
    .sc (.bool true), .list []], [.sc (.string ⟨#[68, 105, 115, 107]⟩), .sc (.int .i64 (.ofNat 0)), .sc (.int .i64 (.ofNat 2)), .sc (.string ⟨#[83, 104, 97, 112, 101]⟩), .sc (.int .i64
    (.ofNat 0)), .list [], .sc (.bool true), .list [[.sc (.string ⟨#[114, 97, 100, 105, 117, 115]⟩), .sc (.int .i64 (.ofNat 2)), .sc (.string ⟨#[73, 110, 116]⟩), .sc (.int .i64 (.ofNat
    0)), .list []]]], [.sc (.string ⟨#[80, 97, 105, 114]⟩), .sc (.int .i64 (.ofNat 2)), .sc (.int .i64 (.ofNat 0)), .sc (.string ⟨#[]⟩), .sc (.int .i64 (.ofNat 0)), .list [], .sc (.bool
    true), .list [[.sc (.string ⟨#[102, 105, 114, 115, 116]⟩), .sc (.int .i64 (.ofNat 5)), .sc (.string ⟨#[]⟩), .sc (.int .i64 (.ofNat 0)), .list []], [.sc (.string ⟨#[115, 101, 99,
    111, 110, 100]⟩), .sc (.int .i64 (.ofNat 5)), .sc (.string ⟨#[]⟩), .sc (.int .i64 (.ofNat 1)), .list []]]], [.sc (.string ⟨#[78, 101, 115, 116]⟩), .sc (.int .i64 (.ofNat 1)), .sc
    (.int .i64 (.ofNat 2)), .sc (.string ⟨#[66, 111, 120]⟩), .sc (.int .i64 (.ofNat 0)), .list [[.sc (.int .i64 (.ofNat 2)), .sc (.string ⟨#[66, 111, 120]⟩), .sc (.int .i64 (.ofNat 0)),
    .list [[.sc (.int .i64 (.ofNat 5)), .sc (.string ⟨#[]⟩), .sc (.int .i64 (.ofNat 0)), .list []]]]], .sc (.bool true), .list [[.sc (.string ⟨#[105, 110, 110, 101, 114]⟩), .sc (.int
    .i64 (.ofNat 2)), .sc (.string ⟨#[66, 111, 120]⟩), .sc (.int .i64 (.ofNat 0)), .list [[.sc (.int .i64 (.ofNat 5)), .sc (.string ⟨#[]⟩), .sc (.int .i64 (.ofNat 0)), .list []]]]]]],
    .mref 0], [.own 9 [[.sc (.string ⟨#[73, 110, 116]⟩), .sc (.int .i64 (.ofNat 0)), .sc (.int .i64 (.ofNat 0)), .sc (.string ⟨#[]⟩), .sc (.int .i64 (.ofNat 0)), .list [], .sc (.bool
    true), .list []], [.sc (.string ⟨#[66, 111, 111, 108]⟩), .sc (.int .i64 (.ofNat 0)), .sc (.int .i64 (.ofNat 0)), .sc (.string ⟨#[]⟩), .sc (.int .i64 (.ofNat 0)), .list [], .sc
    (.bool true), .list []], [.sc (.string ⟨#[83, 116, 114, 105, 110, 103]⟩), .sc (.int .i64 (.ofNat 0)), .sc (.int .i64 (.ofNat 0)), .sc (.string ⟨#[]⟩), .sc (.int .i64 (.ofNat 0)),
    .list [], .sc (.bool true), .list []], [.sc (.string ⟨#[78, 105, 108]⟩), .sc (.int .i64 (.ofNat 0)), .sc (.int .i64 (.ofNat 0)), .sc (.string ⟨#[]⟩), .sc (.int .i64 (.ofNat 0)),
    .list [], .sc (.bool true), .list []], [.sc (.string ⟨#[66, 111, 120]⟩), .sc (.int .i64 (.ofNat 1)), .sc (.int .i64 (.ofNat 0)), .sc (.string ⟨#[]⟩), .sc (.int .i64 (.ofNat 0)),
    .list [], .sc (.bool false), .list []], [.sc (.string ⟨#[67, 101, 108, 108]⟩), .sc (.int .i64 (.ofNat 1)), .sc (.int .i64 (.ofNat 2)), .sc (.string ⟨#[66, 111, 120]⟩), .sc (.int
    .i64 (.ofNat 0)), .list [[.sc (.int .i64 (.ofNat 5)), .sc (.string ⟨#[]⟩), .sc (.int .i64 (.ofNat 0)), .list []]], .sc (.bool true), .list [[.sc (.string ⟨#[105, 116, 101, 109]⟩),
    .sc (.int .i64 (.ofNat 5)), .sc (.string ⟨#[]⟩), .sc (.int .i64 (.ofNat 0)), .list []]]], [.sc (.string ⟨#[73, 110, 116, 66, 111, 120]⟩), .sc (.int .i64 (.ofNat 0)), .sc (.int .i64
    (.ofNat 2)), .sc (.string ⟨#[66, 111, 120]⟩), .sc (.int .i64 (.ofNat 0)), .list [[.sc (.int .i64 (.ofNat 2)), .sc (.string ⟨#[73, 110, 116]⟩), .sc (.int .i64 (.ofNat 0)), .list
    []]], .sc (.bool true), .list [[.sc (.string ⟨#[105, 116, 101, 109]⟩), .sc (.int .i64 (.ofNat 2)), .sc (.string ⟨#[73, 110, 116]⟩), .sc (.int .i64 (.ofNat 0)), .list []]]], [.sc
    (.string ⟨#[83, 104, 97, 112, 101]⟩), .sc (.int .i64 (.ofNat 0)), .sc (.int .i64 (.ofNat 0)), .sc (.string ⟨#[]⟩), .sc (.int .i64 (.ofNat 0)), .list [], .sc (.bool false), .list
    []], [.sc (.string ⟨#[68, 111, 116]⟩), .sc (.int .i64 (.ofNat 0)), .sc (.int .i64 (.ofNat 2)), .sc (.string ⟨#[83, 104, 97, 112, 101]⟩), .sc (.int .i64 (.ofNat 0)), .list [], .sc
    (.bool true), .list []], [.sc (.string ⟨#[68, 105, 115, 107]⟩), .sc (.int .i64 (.ofNat 0)), .sc (.int .i64 (.ofNat 2)), .sc (.string ⟨#[83, 104, 97, 112, 101]⟩), .sc (.int .i64
    (.ofNat 0)), .list [], .sc (.bool true), .list [[.sc (.string ⟨#[114, 97, 100, 105, 117, 115]⟩), .sc (.int .i64 (.ofNat 2)), .sc (.string ⟨#[73, 110, 116]⟩), .sc (.int .i64 (.ofNat
    0)), .list []]]], [.sc (.string ⟨#[80, 97, 105, 114]⟩), .sc (.int .i64 (.ofNat 2)), .sc (.int .i64 (.ofNat 0)), .sc (.string ⟨#[]⟩), .sc (.int .i64 (.ofNat 0)), .list [], .sc (.bool
    true), .list [[.sc (.string ⟨#[102, 105, 114, 115, 116]⟩), .sc (.int .i64 (.ofNat 5)), .sc (.string ⟨#[]⟩), .sc (.int .i64 (.ofNat 0)), .list []], [.sc (.string ⟨#[115, 101, 99,
    111, 110, 100]⟩), .sc (.int .i64 (.ofNat 5)), .sc (.string ⟨#[]⟩), .sc (.int .i64 (.ofNat 1)), .list []]]], [.sc (.string ⟨#[78, 101, 115, 116]⟩), .sc (.int .i64 (.ofNat 1)), .sc
    (.int .i64 (.ofNat 2)), .sc (.string ⟨#[66, 111, 120]⟩), .sc (.int .i64 (.ofNat 0)), .list [[.sc (.int .i64 (.ofNat 2)), .sc (.string ⟨#[66, 111, 120]⟩), .sc (.int .i64 (.ofNat 0)),
    .list [[.sc (.int .i64 (.ofNat 5)), .sc (.string ⟨#[]⟩), .sc (.int .i64 (.ofNat 0)), .list []]]]], .sc (.bool true), .list [[.sc (.string ⟨#[105, 110, 110, 101, 114]⟩), .sc (.int
    .i64 (.ofNat 2)), .sc (.string ⟨#[66, 111, 120]⟩), .sc (.int .i64 (.ofNat 0)), .list [[.sc (.int .i64 (.ofNat 5)), .sc (.string ⟨#[]⟩), .sc (.int .i64 (.ofNat 0)), .list []]]]]]]],
    [.pv (.sc (.int .i64 (.ofNat 0))), .pv (.sc (.string ⟨#[]⟩)), .pv (.sc (.int .i64 (.ofNat 0))), .capped []], [.pv (.sc (.int .i64 (.ofNat 2))), .pv (.sc (.int .i64 (.ofNat 0)))],
    [.pv (.sc (.int .i64 (.ofNat 0))), .pv (.sc (.string ⟨#[]⟩)), .pv (.sc (.int .i64 (.ofNat 0))), .capped []], [.pv (.sc (.int .i64 (.ofNat 2))), .pv (.sc (.int .i64 (.ofNat 0)))],
    [.pv (.sc (.int .i64 (.ofNat 0))), .pv (.sc (.string ⟨#[]⟩)), .pv (.sc (.int .i64 (.ofNat 0))), .capped []], [.pv (.sc (.int .i64 (.ofNat 2))), .pv (.sc (.int .i64 (.ofNat 1)))],
    [.pv (.sc (.int .i64 (.ofNat 0))), .pv (.sc (.string ⟨#[]⟩)), .pv (.sc (.int .i64 (.ofNat 0))), .capped []], [.pv (.sc (.int .i64 (.ofNat 2))), .pv (.sc (.int .i64 (.ofNat 0)))],
    [.pv (.sc (.int .i64 (.ofNat 0))), .pv (.sc (.string ⟨#[]⟩)), .pv (.sc (.int .i64 (.ofNat 0))), .capped []], [.pv (.sc (.int .i64 (.ofNat 2))), .pv (.sc (.int .i64 (.ofNat 24)))],
    [.pv (.sc (.int .i64 (.ofNat 0))), .pv (.sc (.string ⟨#[]⟩)), .pv (.sc (.int .i64 (.ofNat 0))), .capped []], [.pv (.sc (.int .i64 (.ofNat 2))), .pv (.sc (.int .i64 (.ofNat 11)))],
    [.pv (.sc (.int .i64 (.ofNat 3))), .pv (.sc (.string ⟨#[]⟩)), .pv (.sc (.int .i64 (.ofNat 0))), .capped []], [.pv (.sc (.int .i64 (.ofNat 0))), .pv (.sc (.int .i64 (.ofNat 0)))],
    [.pv (.sc (.int .i64 (.ofNat 6))), .pv (.sc (.string ⟨#[]⟩)), .pv (.sc (.int .i64 (.ofNat 0))), .capped [[.sc (.int .i64 (.ofNat 0)), .sc (.string ⟨#[]⟩), .sc (.int .i64 (.ofNat
    0)), .list []], [.sc (.int .i64 (.ofNat 6)), .sc (.string ⟨#[]⟩), .sc (.int .i64 (.ofNat 0)), .list [[.sc (.int .i64 (.ofNat 0)), .sc (.string ⟨#[]⟩), .sc (.int .i64 (.ofNat 0)),
    .list []], [.sc (.int .i64 (.ofNat 2)), .sc (.string ⟨#[66, 111, 120]⟩), .sc (.int .i64 (.ofNat 0)), .list [[.sc (.int .i64 (.ofNat 5)), .sc (.string ⟨#[]⟩), .sc (.int .i64 (.ofNat
    0)), .list []]]]]]]], [.pv (.sc (.int .i64 (.ofNat 0))), .pv (.sc (.int .i64 (.ofNat 0)))]], [(12, 50), (4, 50), (5, 50), (6, 50), (7, 50), (8, 50), (9, 50), (10, 50), (11, 50),
    (12, 50), (12, 50), (12, 50)]⟩

def k1 : Known := ⟨0, 0, 0, 7,
    [.ptr 1 0, .pv (.sc (.string ⟨#[40, 117, 110, 105, 111, 110, 32, 73, 110, 116, 32, 66, 111, 111, 108, 41]⟩))],
    sto1,
    .tuple [.agg [.pv (.sc (.int .i64 (.ofNat 4))), .pv (.sc (.string ⟨#[]⟩)), .pv (.sc (.int .i64 (.ofNat 0))), .pv (.list [[.sc (.int .i64 (.ofNat 2)), .sc (.string ⟨#[66, 111, 111,
    108]⟩), .sc (.int .i64 (.ofNat 0)), .list []], [.sc (.int .i64 (.ofNat 2)), .sc (.string ⟨#[73, 110, 116]⟩), .sc (.int .i64 (.ofNat 0)), .list []]])], .agg [.pv (.sc (.int .i64
    (.ofNat 0))), .pv (.sc (.int .i64 (.ofNat 0)))]],
    sto1⟩
theorem k1Ev (mu : TypeId → Bool) (rr : FuncId → Bool) (pl : Nat → Option Plan) : eqRes k1.v k1.s' (callK env [] 400 ⟨k1.n0, k1.ro, k1.rt, mu, rr, pl⟩ k1.f k1.args k1.s) = true := by kernel_rfl
theorem k1Ok : k1.Ok env :=
  Known.of_check good (ks := []) (by simp) 400 k1 k1Ev

def sto2 : Sto := ⟨[[.mobj [⟨.string ⟨#[73, 110, 116]⟩, .int .i64 (.ofNat 0), 0⟩, ⟨.string ⟨#[66, 111, 111, 108]⟩, .int .i64 (.ofNat 1), 1⟩, ⟨.string ⟨#[83, 116, 114, 105, 110, 103]⟩, .int .i64
    (.ofNat 2), 2⟩, ⟨.string ⟨#[78, 105, 108]⟩, .int .i64 (.ofNat 3), 3⟩, ⟨.string ⟨#[66, 111, 120]⟩, .int .i64 (.ofNat 4), 4⟩, ⟨.string ⟨#[67, 101, 108, 108]⟩, .int .i64 (.ofNat 5),
    5⟩, ⟨.string ⟨#[73, 110, 116, 66, 111, 120]⟩, .int .i64 (.ofNat 6), 6⟩, ⟨.string ⟨#[83, 104, 97, 112, 101]⟩, .int .i64 (.ofNat 7), 7⟩, ⟨.string ⟨#[68, 111, 116]⟩, .int .i64 (.ofNat
    8), 8⟩, ⟨.string ⟨#[68, 105, 115, 107]⟩, .int .i64 (.ofNat 9), 9⟩, ⟨.string ⟨#[80, 97, 105, 114]⟩, .int .i64 (.ofNat 10), 10⟩, ⟨.string ⟨#[78, 101, 115, 116]⟩, .int .i64 (.ofNat
    11), 11⟩] 12], [.own 0 [[.sc (.string ⟨#[73, 110, 116]⟩), .sc (.int .i64 (.ofNat 0)), .sc (.int .i64 (.ofNat 0)), .sc (.string ⟨#[]⟩), .sc (.int .i64 (.ofNat 0)), .list [], .sc
    (.bool true), .list []], [.sc (.string ⟨#[66, 111, 111, 108]⟩), .sc (.int .i64 (.ofNat 0)), .sc (.int .i64 (.ofNat 0)), .sc (.string ⟨#[]⟩), .sc (.int .i64 (.ofNat 0)), .list [],
    .sc (.bool true), .list []], [.sc (.string ⟨#[83, 116, 114, 105, 110, 103]⟩), .sc (.int .i64 (.ofNat 0)), .sc (.int .i64 (.ofNat 0)), .sc (.string ⟨#[]⟩), .sc (.int .i64 (.ofNat
    0)), .list [], .sc (.bool true), .list []], [.sc (.string ⟨#[78, 105, 108]⟩), .sc (.int .i64 (.ofNat 0)), .sc (.int .i64 (.ofNat 0)), .sc (.string ⟨#[]⟩), .sc (.int .i64 (.ofNat
    0)), .list [], .sc (.bool true), .list []], [.sc (.string ⟨#[66, 111, 120]⟩), .sc (.int .i64 (.ofNat 1)), .sc (.int .i64 (.ofNat 0)), .sc (.string ⟨#[]⟩), .sc (.int .i64 (.ofNat
    0)), .list [], .sc (.bool false), .list []], [.sc (.string ⟨#[67, 101, 108, 108]⟩), .sc (.int .i64 (.ofNat 1)), .sc (.int .i64 (.ofNat 2)), .sc (.string ⟨#[66, 111, 120]⟩), .sc
    (.int .i64 (.ofNat 0)), .list [[.sc (.int .i64 (.ofNat 5)), .sc (.string ⟨#[]⟩), .sc (.int .i64 (.ofNat 0)), .list []]], .sc (.bool true), .list [[.sc (.string ⟨#[105, 116, 101,
    109]⟩), .sc (.int .i64 (.ofNat 5)), .sc (.string ⟨#[]⟩), .sc (.int .i64 (.ofNat 0)), .list []]]], [.sc (.string ⟨#[73, 110, 116, 66, 111, 120]⟩), .sc (.int .i64 (.ofNat 0)), .sc
    (.int .i64 (.ofNat 2)), .sc (.string ⟨#[66, 111, 120]⟩), .sc (.int .i64 (.ofNat 0)), .list [[.sc (.int .i64 (.ofNat 2)), .sc (.string ⟨#[73, 110, 116]⟩), .sc (.int .i64 (.ofNat 0)),
    .list []]], .sc (.bool true), .list [[.sc (.string ⟨#[105, 116, 101, 109]⟩), .sc (.int .i64 (.ofNat 2)), .sc (.string ⟨#[73, 110, 116]⟩), .sc (.int .i64 (.ofNat 0)), .list []]]],
    [.sc (.string ⟨#[83, 104, 97, 112, 101]⟩), .sc (.int .i64 (.ofNat 0)), .sc (.int .i64 (.ofNat 0)), .sc (.string ⟨#[]⟩), .sc (.int .i64 (.ofNat 0)), .list [], .sc (.bool false),
    .list []], [.sc (.string ⟨#[68, 111, 116]⟩), .sc (.int .i64 (.ofNat 0)), .sc (.int .i64 (.ofNat 2)), .sc (.string ⟨#[83, 104, 97, 112, 101]⟩), .sc (.int .i64 (.ofNat 0)), .list [],
    .sc (.bool true), .list []], [.sc (.string ⟨#[68, 105, 115, 107]⟩), .sc (.int .i64 (.ofNat 0)), .sc (.int .i64 (.ofNat 2)), .sc (.string ⟨#[83, 104, 97, 112, 101]⟩), .sc (.int .i64
    (.ofNat 0)), .list [], .sc (.bool true), .list [[.sc (.string ⟨#[114, 97, 100, 105, 117, 115]⟩), .sc (.int .i64 (.ofNat 2)), .sc (.string ⟨#[73, 110, 116]⟩), .sc (.int .i64 (.ofNat
    0)), .list []]]], [.sc (.string ⟨#[80, 97, 105, 114]⟩), .sc (.int .i64 (.ofNat 2)), .sc (.int .i64 (.ofNat 0)), .sc (.string ⟨#[]⟩), .sc (.int .i64 (.ofNat 0)), .list [], .sc (.bool
    true), .list [[.sc (.string ⟨#[102, 105, 114, 115, 116]⟩), .sc (.int .i64 (.ofNat 5)), .sc (.string ⟨#[]⟩), .sc (.int .i64 (.ofNat 0)), .list []], [.sc (.string ⟨#[115, 101, 99,
    111, 110, 100]⟩), .sc (.int .i64 (.ofNat 5)), .sc (.string ⟨#[]⟩), .sc (.int .i64 (.ofNat 1)), .list []]]], [.sc (.string ⟨#[78, 101, 115, 116]⟩), .sc (.int .i64 (.ofNat 1)), .sc
    (.int .i64 (.ofNat 2)), .sc (.string ⟨#[66, 111, 120]⟩), .sc (.int .i64 (.ofNat 0)), .list [[.sc (.int .i64 (.ofNat 2)), .sc (.string ⟨#[66, 111, 120]⟩), .sc (.int .i64 (.ofNat 0)),
    .list [[.sc (.int .i64 (.ofNat 5)), .sc (.string ⟨#[]⟩), .sc (.int .i64 (.ofNat 0)), .list []]]]], .sc (.bool true), .list [[.sc (.string ⟨#[105, 110, 110, 101, 114]⟩), .sc (.int
    .i64 (.ofNat 2)), .sc (.string ⟨#[66, 111, 120]⟩), .sc (.int .i64 (.ofNat 0)), .list [[.sc (.int .i64 (.ofNat 5)), .sc (.string ⟨#[]⟩), .sc (.int .i64 (.ofNat 0)), .list []]]]]]],
    .mref 0], [.own 9 [[.sc (.string ⟨#[73, 110, 116]⟩), .sc (.int .i64 (.ofNat 0)), .sc (.int .i64 (.ofNat 0)), .sc (.string ⟨#[]⟩), .sc (.int .i64 (.ofNat 0)), .list [], .sc (.bool
    true), .list []], [.sc (.string ⟨#[66, 111, 111, 108]⟩), .sc (.int .i64 (.ofNat 0)), .sc (.int .i64 (.ofNat 0)), .sc (.string ⟨#[]⟩), .sc (.int .i64 (.ofNat 0)), .list [], .sc
    (.bool true), .list []], [.sc (.string ⟨#[83, 116, 114, 105, 110, 103]⟩), .sc (.int .i64 (.ofNat 0)), .sc (.int .i64 (.ofNat 0)), .sc (.string ⟨#[]⟩), .sc (.int .i64 (.ofNat 0)),
    .list [], .sc (.bool true), .list []], [.sc (.string ⟨#[78, 105, 108]⟩), .sc (.int .i64 (.ofNat 0)), .sc (.int .i64 (.ofNat 0)), .sc (.string ⟨#[]⟩), .sc (.int .i64 (.ofNat 0)),
    .list [], .sc (.bool true), .list []], [.sc (.string ⟨#[66, 111, 120]⟩), .sc (.int .i64 (.ofNat 1)), .sc (.int .i64 (.ofNat 0)), .sc (.string ⟨#[]⟩), .sc (.int .i64 (.ofNat 0)),
    .list [], .sc (.bool false), .list []], [.sc (.string ⟨#[67, 101, 108, 108]⟩), .sc (.int .i64 (.ofNat 1)), .sc (.int .i64 (.ofNat 2)), .sc (.string ⟨#[66, 111, 120]⟩), .sc (.int
    .i64 (.ofNat 0)), .list [[.sc (.int .i64 (.ofNat 5)), .sc (.string ⟨#[]⟩), .sc (.int .i64 (.ofNat 0)), .list []]], .sc (.bool true), .list [[.sc (.string ⟨#[105, 116, 101, 109]⟩),
    .sc (.int .i64 (.ofNat 5)), .sc (.string ⟨#[]⟩), .sc (.int .i64 (.ofNat 0)), .list []]]], [.sc (.string ⟨#[73, 110, 116, 66, 111, 120]⟩), .sc (.int .i64 (.ofNat 0)), .sc (.int .i64
    (.ofNat 2)), .sc (.string ⟨#[66, 111, 120]⟩), .sc (.int .i64 (.ofNat 0)), .list [[.sc (.int .i64 (.ofNat 2)), .sc (.string ⟨#[73, 110, 116]⟩), .sc (.int .i64 (.ofNat 0)), .list
    []]], .sc (.bool true), .list [[.sc (.string ⟨#[105, 116, 101, 109]⟩), .sc (.int .i64 (.ofNat 2)), .sc (.string ⟨#[73, 110, 116]⟩), .sc (.int .i64 (.ofNat 0)), .list []]]], [.sc
    (.string ⟨#[83, 104, 97, 112, 101]⟩), .sc (.int .i64 (.ofNat 0)), .sc (.int .i64 (.ofNat 0)), .sc (.string ⟨#[]⟩), .sc (.int .i64 (.ofNat 0)), .list [], .sc (.bool false), .list
    []], [.sc (.string ⟨#[68, 111, 116]⟩), .sc (.int .i64 (.ofNat 0)), .sc (.int .i64 (.ofNat 2)), .sc (.string ⟨#[83, 104, 97, 112, 101]⟩), .sc (.int .i64 (.ofNat 0)), .list [], .sc
    (.bool true), .list []], [.sc (.string ⟨#[68, 105, 115, 107]⟩), .sc (.int .i64 (.ofNat 0)), .sc (.int .i64 (.ofNat 2)), .sc (.string ⟨#[83, 104, 97, 112, 101]⟩), .sc (.int .i64
    (.ofNat 0)), .list [], .sc (.bool true), .list [[.sc (.string ⟨#[114, 97, 100, 105, 117, 115]⟩), .sc (.int .i64 (.ofNat 2)), .sc (.string ⟨#[73, 110, 116]⟩), .sc (.int .i64 (.ofNat
    0)), .list []]]], [.sc (.string ⟨#[80, 97, 105, 114]⟩), .sc (.int .i64 (.ofNat 2)), .sc (.int .i64 (.ofNat 0)), .sc (.string ⟨#[]⟩), .sc (.int .i64 (.ofNat 0)), .list [], .sc (.bool
    true), .list [[.sc (.string ⟨#[102, 105, 114, 115, 116]⟩), .sc (.int .i64 (.ofNat 5)), .sc (.string ⟨#[]⟩), .sc (.int .i64 (.ofNat 0)), .list []], [.sc (.string ⟨#[115, 101, 99,
    111, 110, 100]⟩), .sc (.int .i64 (.ofNat 5)), .sc (.string ⟨#[]⟩), .sc (.int .i64 (.ofNat 1)), .list []]]], [.sc (.string ⟨#[78, 101, 115, 116]⟩), .sc (.int .i64 (.ofNat 1)), .sc
    (.int .i64 (.ofNat 2)), .sc (.string ⟨#[66, 111, 120]⟩), .sc (.int .i64 (.ofNat 0)), .list [[.sc (.int .i64 (.ofNat 2)), .sc (.string ⟨#[66, 111, 120]⟩), .sc (.int .i64 (.ofNat 0)),
    .list [[.sc (.int .i64 (.ofNat 5)), .sc (.string ⟨#[]⟩), .sc (.int .i64 (.ofNat 0)), .list []]]]], .sc (.bool true), .list [[.sc (.string ⟨#[105, 110, 110, 101, 114]⟩), .sc (.int
    .i64 (.ofNat 2)), .sc (.string ⟨#[66, 111, 120]⟩), .sc (.int .i64 (.ofNat 0)), .list [[.sc (.int .i64 (.ofNat 5)), .sc (.string ⟨#[]⟩), .sc (.int .i64 (.ofNat 0)), .list []]]]]]]],
    [.pv (.sc (.int .i64 (.ofNat 0))), .pv (.sc (.string ⟨#[]⟩)), .pv (.sc (.int .i64 (.ofNat 0))), .capped []], [.pv (.sc (.int .i64 (.ofNat 2))), .pv (.sc (.int .i64 (.ofNat 0)))],
    [.pv (.sc (.int .i64 (.ofNat 0))), .pv (.sc (.string ⟨#[]⟩)), .pv (.sc (.int .i64 (.ofNat 0))), .capped []], [.pv (.sc (.int .i64 (.ofNat 2))), .pv (.sc (.int .i64 (.ofNat 0)))],
    [.pv (.sc (.int .i64 (.ofNat 0))), .pv (.sc (.string ⟨#[]⟩)), .pv (.sc (.int .i64 (.ofNat 0))), .capped []], [.pv (.sc (.int .i64 (.ofNat 2))), .pv (.sc (.int .i64 (.ofNat 1)))],
    [.pv (.sc (.int .i64 (.ofNat 0))), .pv (.sc (.string ⟨#[]⟩)), .pv (.sc (.int .i64 (.ofNat 0))), .capped []], [.pv (.sc (.int .i64 (.ofNat 2))), .pv (.sc (.int .i64 (.ofNat 0)))],
    [.pv (.sc (.int .i64 (.ofNat 0))), .pv (.sc (.string ⟨#[]⟩)), .pv (.sc (.int .i64 (.ofNat 0))), .capped []], [.pv (.sc (.int .i64 (.ofNat 2))), .pv (.sc (.int .i64 (.ofNat 24)))],
    [.pv (.sc (.int .i64 (.ofNat 0))), .pv (.sc (.string ⟨#[]⟩)), .pv (.sc (.int .i64 (.ofNat 0))), .capped []], [.pv (.sc (.int .i64 (.ofNat 2))), .pv (.sc (.int .i64 (.ofNat 11)))],
    [.pv (.sc (.int .i64 (.ofNat 3))), .pv (.sc (.string ⟨#[]⟩)), .pv (.sc (.int .i64 (.ofNat 0))), .capped []], [.pv (.sc (.int .i64 (.ofNat 0))), .pv (.sc (.int .i64 (.ofNat 0)))],
    [.pv (.sc (.int .i64 (.ofNat 6))), .pv (.sc (.string ⟨#[]⟩)), .pv (.sc (.int .i64 (.ofNat 0))), .capped [[.sc (.int .i64 (.ofNat 0)), .sc (.string ⟨#[]⟩), .sc (.int .i64 (.ofNat
    0)), .list []], [.sc (.int .i64 (.ofNat 6)), .sc (.string ⟨#[]⟩), .sc (.int .i64 (.ofNat 0)), .list [[.sc (.int .i64 (.ofNat 0)), .sc (.string ⟨#[]⟩), .sc (.int .i64 (.ofNat 0)),
    .list []], [.sc (.int .i64 (.ofNat 2)), .sc (.string ⟨#[66, 111, 120]⟩), .sc (.int .i64 (.ofNat 0)), .list [[.sc (.int .i64 (.ofNat 5)), .sc (.string ⟨#[]⟩), .sc (.int .i64 (.ofNat
    0)), .list []]]]]]]], [.pv (.sc (.int .i64 (.ofNat 0))), .pv (.sc (.int .i64 (.ofNat 0)))], [.pv (.sc (.int .i64 (.ofNat 4))), .pv (.sc (.string ⟨#[]⟩)), .pv (.sc (.int .i64 (.ofNat
    0))), .pv (.list [[.sc (.int .i64 (.ofNat 2)), .sc (.string ⟨#[66, 111, 111, 108]⟩), .sc (.int .i64 (.ofNat 0)), .list []], [.sc (.int .i64 (.ofNat 2)), .sc (.string ⟨#[73, 110,
    116]⟩), .sc (.int .i64 (.ofNat 0)), .list []]])], [.pv (.sc (.int .i64 (.ofNat 0))), .pv (.sc (.int .i64 (.ofNat 0)))]], [(12, 50), (4, 50), (5, 50), (6, 50), (7, 50), (8, 50), (9,
    50), (10, 50), (11, 50), (12, 50), (12, 50), (12, 50)]⟩

def k2 : Known := ⟨0, 0, 0, 7,
    [.ptr 1 0, .pv (.sc (.string ⟨#[40, 117, 110, 105, 111, 110, 32, 73, 110, 116, 32, 77, 105, 115, 115, 105, 110, 103, 41]⟩))],
    sto2,
    .tuple [.agg [.pv (.sc (.int .i64 (.ofNat 0))), .pv (.sc (.string ⟨#[]⟩)), .pv (.sc (.int .i64 (.ofNat 0))), .capped []], .agg [.pv (.sc (.int .i64 (.ofNat 5))), .pv (.sc (.int .i64
    (.ofNat 0)))]],
    sto2⟩
theorem k2Ev (mu : TypeId → Bool) (rr : FuncId → Bool) (pl : Nat → Option Plan) : eqRes k2.v k2.s' (callK env [] 400 ⟨k2.n0, k2.ro, k2.rt, mu, rr, pl⟩ k2.f k2.args k2.s) = true := by kernel_rfl
theorem k2Ok : k2.Ok env :=
  Known.of_check good (ks := []) (by simp) 400 k2 k2Ev

end Go.Proofs.YtghaphbkhdhmdaaGreatDoor
