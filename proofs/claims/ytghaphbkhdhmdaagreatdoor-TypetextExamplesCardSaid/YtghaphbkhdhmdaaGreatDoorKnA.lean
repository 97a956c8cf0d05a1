/-
  Calls that are known, by the kernel: written by a program (wip/tools/known.py).
-/
import Derived.Test.YtghaphbkhdhmdaaGreatDoorGood
set_option linter.unusedSimpArgs false
set_option linter.unusedVariables false
namespace Go.Proofs.YtghaphbkhdhmdaaGreatDoor
open Go.Tel

def sto0 : Sto := ⟨[[.mobj [⟨.string ⟨#[73, 110, 116]⟩, .int .i64 (.ofNat 0), 0⟩, ⟨.string ⟨#[66, 111, 111, 108]⟩, .int .i64 (.ofNat 1), 1⟩, ⟨.string ⟨#[83, 116, 114, 105, 110, 103]⟩, .int .i64
    (.ofNat 2), 2⟩, ⟨.string ⟨#[78, 105, 108]⟩, .int .i64 (.ofNat 3), 3⟩, ⟨.string ⟨#[66, 111, 120]⟩, .int .i64 (.ofNat 4), 4⟩, ⟨.string ⟨#[67, 101, 108, 108]⟩, .int .i64 (.ofNat 5),
    5⟩, ⟨.string ⟨#[73, 110, 116, 66, 111, 120]⟩, .int .i64 (.ofNat 6), 6⟩, ⟨.string ⟨#[83, 104, 97, 112, 101]⟩, .int .i64 (.ofNat 7), 7⟩, ⟨.string ⟨#[68, 111, 116]⟩, .int .i64 (.ofNat
    8), 8⟩, ⟨.string ⟨#[68, 105, 115, 107]⟩, .int .i64 (.ofNat 9), 9⟩, ⟨.string ⟨#[80, 97, 105, 114]⟩, .int .i64 (.ofNat 10), 10⟩, ⟨.string ⟨#[78, 101, 115, 116]⟩, .int .i64 (.ofNat
    11), 11⟩] 12], [.own 0 [[.sc (.string ⟨#[73, 110, 116]⟩), .sc (.int .i64 (.ofNat 0)), .sc (.int .i64 (.ofNat 0)), .sc (.string ⟨#[]⟩), .sc (.int .i64 (.ofNat 0)), .list [], .sc
    (.bool true), .list []], [.sc (.string ⟨#[66, 111, 111, 108]⟩), .sc (.int .i64 (.ofNat 0)), .sc (.int .i64 (.ofNat 0)), .sc (.string ⟨#[]⟩), .sc (.int .i64 (.ofNat 0)), .list [],
    .sc (.bool true), .list []], [.sc (.string ⟨#[83, 116, 114, 105, 110, 103]⟩), .sc (.int .i64 (.ofNat 0)), .sc (.int .i64 (.ofNat 0)), .sc (.string ⟨#[]⟩), .sc (.int .i64 (.ofNat
    0)), .list [], .sc (.bool true), .list []], [.sc (.string ⟨#[78, 105, 108]⟩), .sc (.int .i64 (.ofNat 0)), .sc (.int .i64 (.ofNat 0)), .sc (.string ⟨#[]⟩), .sc (.int .i64 (.ofNat
    0)), .list [], .sc (.bool true), .list []], [.sc (.string ⟨#[66, 111, 120]⟩), .sc (.int .i64 (.ofNat 1)), .sc (.int .i64 (.ofNat 0)), .sc (.string ⟨#[]⟩), .sc (.int .i64 (.ofNat
    0)), .list [], .sc (.bool false), .list []], [.sc (.string ⟨#[67, 101, 108, 108]⟩), .sc (.int .i64 (.ofNat 1)), .sc (.int .i64 (.ofNat 2)), .sc (.string ⟨#[66, 111, 120]⟩), .sc
    (.int .i64 (.ofNat 0)), .list [[.sc (.int .i64 (.ofNat 5)), .sc (.string ⟨#[]⟩), .sc (.int .i64 (.ofNat 0)), .list []]], .sc (.bool true), .list [[.sc (.string ⟨#[105, 116, 101,
    109]⟩), .sc (.int .i64 (.ofNat 5)), .sc (.string ⟨#[]⟩), .sc (.int .i64 (.ofNat 0)), .list []]]], [.sc (.string ⟨#[73, 110, 116, 66, 111, 120]⟩), .sc (.int .i64 (.ofNat 0)), .sc
    (.int .i64 (.ofNat 2)), .sc (.string ⟨#[66, 111, 120]⟩), .sc (.int .i64 (.ofNat 0)), .list [[.sc (.int .i64 (.ofNat 2)), .sc (.string ⟨#[73, 110, 116]⟩), .sc (.int .i64 (.ofNat 0)),
    .list []]], .sc (.bool true), .list [[.sc (.string ⟨#[105, 116, 101, 109]⟩), .sc (.int .i64 (.ofNat 2)), .sc (.string ⟨#[73, 110, 116]⟩), .sc (.int .i64 (.ofNat 0)), .list []]]],
    [.sc (.string ⟨#[83, 104, 97, 112, 101]⟩), .sc (.int .i64 (.ofNat 0)), .sc (.int .i64 (.ofNat 0)), .sc (.string ⟨#[]⟩), .sc (.int .i64 (.ofNat 0)), .list [], .sc (.bool false),
    .list []], [.sc (.string ⟨#[68, 111, 116]⟩), .sc (.int .i64 (.ofNat 0)), .sc (.int .i64 (.ofNat 2)), .sc (.string ⟨#[83, 104, 97, 112, 101]⟩), .sc (.int .i64 (.ofNat 0)), .list [],
    .sc (.bool true), .list []], [.sc (.string ⟨#[68, 105, 115, 107]⟩), .sc (.int .i64 (.ofNat 0)), .sc (.int .i64 (.ofNat 2)), .sc (.string ⟨#[83, 104, 97, 112, 101]⟩), .sc (.int .i64
    (.ofNat 0)), .list [], .sc (.bool true), .list [[.sc (.string ⟨#[114, 97, 100, 105, 117, 115]⟩), .sc (.int .i64 (.ofNat 2)), .sc (.string ⟨#[73, 110, 116]⟩), .sc (.int .i64 (.ofNat
    0)), .list []]]], [.sc (.string ⟨#[80, 97, 105, 114]⟩), .sc (.int .i64 (.ofNat 2)), .sc (.int .i64 (.ofNat 0)), .sc (.string ⟨#[]⟩), .sc (.int .i64 (.ofNat 0)), .list [], .sc (.bool
    true), .list [[.sc (.string ⟨#[102, 105, 114, 115, 116]⟩), .sc (.int .i64 (.ofNat 5)), .sc (.string ⟨#[]⟩), .sc (.int .i64 (.ofNat 0)), .list []], [.sc (.string ⟨#[115, 101, 99,
    111, 110, 100]⟩), .sc (.int .i64 (.ofNat 5)), .sc (.string ⟨#[]⟩), .sc (.int .i64 (.ofNat 1)), .list []]]], [.sc (.string ⟨#[78, 101, 115, 116]⟩), .sc (.int .i64 (.ofNat 1)), .sc
    (.int .i64 (.ofNat 2)), .sc (.string ⟨#[66, 111, 120]⟩), .sc (.int .i64 (.ofNat 0)), .list [[.sc (.int .i64 (.ofNat 2)), .sc (.string ⟨#[66, 111, 120]⟩), .sc (.int .i64 (.ofNat 0)),
    .list [[.sc (.int .i64 (.ofNat 5)), .sc (.string ⟨#[]⟩), .sc (.int .i64 (.ofNat 0)), .list []]]]], .sc (.bool true), .list [[.sc (.string ⟨#[105, 110, 110, 101, 114]⟩), .sc (.int
    .i64 (.ofNat 2)), .sc (.string ⟨#[66, 111, 120]⟩), .sc (.int .i64 (.ofNat 0)), .list [[.sc (.int .i64 (.ofNat 5)), .sc (.string ⟨#[]⟩), .sc (.int .i64 (.ofNat 0)), .list []]]]]]],
    .mref 0], [.own 9 [[.sc (.string ⟨#[73, 110, 116]⟩), .sc (.int .i64 (.ofNat 0)), .sc (.int .i64 (.ofNat 0)), .sc (.string ⟨#[]⟩), .sc (.int .i64 (.ofNat 0)), .list [], .sc (.bool
    true), .list []], [.sc (.string ⟨#[66, 111, 111, 108]⟩), .sc (.int .i64 (.ofNat 0)), .sc (.int .i64 (.ofNat 0)), .sc (.string ⟨#[]⟩), .sc (.int .i64 (.ofNat 0)), .list [], .sc
    (.bool true), .list []], [.sc (.string ⟨#[83, 116, 114, 105, 110, 103]⟩), .sc (.int .i64 (.ofNat 0)), .sc (.int .i64 (.ofNat 0)), .sc (.string ⟨#[]⟩), .sc (.int .i64 (.ofNat 0)),
    .list [], .sc (.bool true), .list []], [.sc (.string ⟨#[78, 105, 108]⟩), .sc (.int .i64 (.ofNat 0)), .sc (.int .i64 (.ofNat 0)), .sc (.string ⟨#[]⟩), .sc (.int .i64 (.ofNat 0)),
    .list [], .sc (.bool true), .list []], [.sc (.string ⟨#[66, 111, 120]⟩), .sc (.int .i64 (.ofNat 1)), .sc (.int .i64 (.ofNat 0)), .sc (.string ⟨#[]⟩), .sc (.int .i64 (.ofNat 0)),
    .list [], .sc (.bool false), .list []], [.sc (.string ⟨#[67, 101, 108, 108]⟩), .sc (.int .i64 (.ofNat 1)), .sc (.int .i64 (.ofNat 2)), .sc (.string ⟨#[66, 111, 120]⟩), .sc (.int
    .i64 (.ofNat 0)), .list [[.sc (.int .i64 (.ofNat 5)), .sc (.string ⟨#[]⟩), .sc (.int .i64 (.ofNat 0)), .list []]], .sc (.bool true), .list [[.sc (.string ⟨#[105, 116, 101, 109]⟩),
    .sc (.int .i64 (.ofNat 5)), .sc (.string ⟨#[]⟩), .sc (.int .i64 (.ofNat 0)), .list []]]], [.sc (.string ⟨#[73, 110, 116, 66, 111, 120]⟩), .sc (.int .i64 (.ofNat 0)), .sc (.int .i64
    (.ofNat 2)), .sc (.string ⟨#[66, 111, 120]⟩), .sc (.int .i64 (.ofNat 0)), .list [[.sc (.int .i64 (.ofNat 2)), .sc (.string ⟨#[73, 110, 116]⟩), .sc (.int .i64 (.ofNat 0)), .list
    []]], .sc (.bool true), .list [[.sc (.string ⟨#[105, 116, 101, 109]⟩), .sc (.int .i64 (.ofNat 2)), .sc (.string ⟨#[73, 110, 116]⟩), .sc (.int .i64 (.ofNat 0)), .list []]]], [.sc
    (.string ⟨#[83, 104, 97, 112, 101]⟩), .sc (.int .i64 (.ofNat 0)), .sc (.int .i64 (.ofNat 0)), .sc (.string ⟨#[]⟩), .sc (.int .i64 (.ofNat 0)), .list [], .sc (.bool false), .list
    []], [.sc (.string ⟨#[68, 111, 116]⟩), .sc (.int .i64 (.ofNat 0)), .sc (.int .i64 (.ofNat 2)), .sc (.string ⟨#[83, 104, 97, 112, 101]⟩), .sc (.int .i64 (.ofNat 0)), .list [], .sc
    (.bool true), .list []], [.sc (.string ⟨#[68, 105, 115, 107]⟩), .sc (.int .i64 (.ofNat 0)), .sc (.int .i64 (.ofNat 2)), .sc (.string ⟨#[83, 104, 97, 112, 101]⟩), .sc (.int .i64
    (.ofNat 0)), .list [], .sc (.bool true), .list [[.sc (.string ⟨#[114, 97, 100, 105, 117, 115]⟩), .sc (.int .i64 (.ofNat 2)), .sc (.string ⟨#[73, 110, 116]⟩), .sc (.int .i64 (.ofNat
    0)), .list []]]], [.sc (.string ⟨#[80, 97, 105, 114]⟩), .sc (.int .i64 (.ofNat 2)), .sc (.int .i64 (.ofNat 0)), .sc (.string ⟨#[]⟩), .sc (.int .i64 (.ofNat 0)), .list [], .sc (.bool
    true), .list [[.sc (.string ⟨#[102, 105, 114, 115, 116]⟩), .sc (.int .i64 (.ofNat 5)), .sc (.string ⟨#[]⟩), .sc (.int .i64 (.ofNat 0)), .list []], [.sc (.string ⟨#[115, 101, 99,
    111, 110, 100]⟩), .sc (.int .i64 (.ofNat 5)), .sc (.string ⟨#[]⟩), .sc (.int .i64 (.ofNat 1)), .list []]]], [.sc (.string ⟨#[78, 101, 115, 116]⟩), .sc (.int .i64 (.ofNat 1)), .sc
    (.int .i64 (.ofNat 2)), .sc (.string ⟨#[66, 111, 120]⟩), .sc (.int .i64 (.ofNat 0)), .list [[.sc (.int .i64 (.ofNat 2)), .sc (.string ⟨#[66, 111, 120]⟩), .sc (.int .i64 (.ofNat 0)),
    .list [[.sc (.int .i64 (.ofNat 5)), .sc (.string ⟨#[]⟩), .sc (.int .i64 (.ofNat 0)), .list []]]]], .sc (.bool true), .list [[.sc (.string ⟨#[105, 110, 110, 101, 114]⟩), .sc (.int
    .i64 (.ofNat 2)), .sc (.string ⟨#[66, 111, 120]⟩), .sc (.int .i64 (.ofNat 0)), .list [[.sc (.int .i64 (.ofNat 5)), .sc (.string ⟨#[]⟩), .sc (.int .i64 (.ofNat 0)), .list []]]]]]]]],
    [(12, 50), (4, 50), (5, 50), (6, 50), (7, 50), (8, 50), (9, 50), (10, 50), (11, 50), (12, 50), (12, 50), (12, 50)]⟩

def k0 : Known := ⟨0, 0, 0, 4,
    [.capped [[.sc (.string ⟨#[66, 111, 120]⟩), .sc (.int .i64 (.ofNat 1)), .sc (.int .i64 (.ofNat 0)), .sc (.string ⟨#[]⟩), .sc (.int .i64 (.ofNat 0)), .list [], .sc (.bool false),
    .list []], [.sc (.string ⟨#[67, 101, 108, 108]⟩), .sc (.int .i64 (.ofNat 1)), .sc (.int .i64 (.ofNat 2)), .sc (.string ⟨#[66, 111, 120]⟩), .sc (.int .i64 (.ofNat 0)), .list [[.sc
    (.int .i64 (.ofNat 5)), .sc (.string ⟨#[]⟩), .sc (.int .i64 (.ofNat 0)), .list []]], .sc (.bool true), .list [[.sc (.string ⟨#[105, 116, 101, 109]⟩), .sc (.int .i64 (.ofNat 5)), .sc
    (.string ⟨#[]⟩), .sc (.int .i64 (.ofNat 0)), .list []]]], [.sc (.string ⟨#[73, 110, 116, 66, 111, 120]⟩), .sc (.int .i64 (.ofNat 0)), .sc (.int .i64 (.ofNat 2)), .sc (.string ⟨#[66,
    111, 120]⟩), .sc (.int .i64 (.ofNat 0)), .list [[.sc (.int .i64 (.ofNat 2)), .sc (.string ⟨#[73, 110, 116]⟩), .sc (.int .i64 (.ofNat 0)), .list []]], .sc (.bool true), .list [[.sc
    (.string ⟨#[105, 116, 101, 109]⟩), .sc (.int .i64 (.ofNat 2)), .sc (.string ⟨#[73, 110, 116]⟩), .sc (.int .i64 (.ofNat 0)), .list []]]], [.sc (.string ⟨#[83, 104, 97, 112, 101]⟩),
    .sc (.int .i64 (.ofNat 0)), .sc (.int .i64 (.ofNat 0)), .sc (.string ⟨#[]⟩), .sc (.int .i64 (.ofNat 0)), .list [], .sc (.bool false), .list []], [.sc (.string ⟨#[68, 111, 116]⟩),
    .sc (.int .i64 (.ofNat 0)), .sc (.int .i64 (.ofNat 2)), .sc (.string ⟨#[83, 104, 97, 112, 101]⟩), .sc (.int .i64 (.ofNat 0)), .list [], .sc (.bool true), .list []], [.sc (.string
    ⟨#[68, 105, 115, 107]⟩), .sc (.int .i64 (.ofNat 0)), .sc (.int .i64 (.ofNat 2)), .sc (.string ⟨#[83, 104, 97, 112, 101]⟩), .sc (.int .i64 (.ofNat 0)), .list [], .sc (.bool true),
    .list [[.sc (.string ⟨#[114, 97, 100, 105, 117, 115]⟩), .sc (.int .i64 (.ofNat 2)), .sc (.string ⟨#[73, 110, 116]⟩), .sc (.int .i64 (.ofNat 0)), .list []]]], [.sc (.string ⟨#[80,
    97, 105, 114]⟩), .sc (.int .i64 (.ofNat 2)), .sc (.int .i64 (.ofNat 0)), .sc (.string ⟨#[]⟩), .sc (.int .i64 (.ofNat 0)), .list [], .sc (.bool true), .list [[.sc (.string ⟨#[102,
    105, 114, 115, 116]⟩), .sc (.int .i64 (.ofNat 5)), .sc (.string ⟨#[]⟩), .sc (.int .i64 (.ofNat 0)), .list []], [.sc (.string ⟨#[115, 101, 99, 111, 110, 100]⟩), .sc (.int .i64
    (.ofNat 5)), .sc (.string ⟨#[]⟩), .sc (.int .i64 (.ofNat 1)), .list []]]], [.sc (.string ⟨#[78, 101, 115, 116]⟩), .sc (.int .i64 (.ofNat 1)), .sc (.int .i64 (.ofNat 2)), .sc
    (.string ⟨#[66, 111, 120]⟩), .sc (.int .i64 (.ofNat 0)), .list [[.sc (.int .i64 (.ofNat 2)), .sc (.string ⟨#[66, 111, 120]⟩), .sc (.int .i64 (.ofNat 0)), .list [[.sc (.int .i64
    (.ofNat 5)), .sc (.string ⟨#[]⟩), .sc (.int .i64 (.ofNat 0)), .list []]]]], .sc (.bool true), .list [[.sc (.string ⟨#[105, 110, 110, 101, 114]⟩), .sc (.int .i64 (.ofNat 2)), .sc
    (.string ⟨#[66, 111, 120]⟩), .sc (.int .i64 (.ofNat 0)), .list [[.sc (.int .i64 (.ofNat 5)), .sc (.string ⟨#[]⟩), .sc (.int .i64 (.ofNat 0)), .list []]]]]]]],
    ⟨[], []⟩,
    .tuple [.ptr 1 0, .ptr 2 0, .pv (.sc (.bool true))],
    sto0⟩
theorem k0Ev (mu : TypeId → Bool) (rr : FuncId → Bool) (pl : Nat → Option Plan) : eqRes k0.v k0.s' (callK env [] 400 ⟨k0.n0, k0.ro, k0.rt, mu, rr, pl⟩ k0.f k0.args k0.s) = true := by kernel_rfl
theorem k0Ok : k0.Ok env :=
  Known.of_check good (ks := []) (by simp) 400 k0 k0Ev

end Go.Proofs.YtghaphbkhdhmdaaGreatDoor
