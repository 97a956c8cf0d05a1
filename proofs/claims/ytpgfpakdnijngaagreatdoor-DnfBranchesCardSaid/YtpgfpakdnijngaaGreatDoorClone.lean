/- slices.Clone. -/
import Derived.Test.YtpgfpakdnijngaaGreatDoorTab
import Derived.WalkKit
set_option linter.all false
namespace Go.Proofs.YtpgfpakdnijngaaGreatDoor
open Go.Tel Go.RowKit
set_option maxRecDepth 100000 in
theorem y6 (w:World) (base:Option Addr) (cap:Nat):Calls Tryz.prog 57 #[.slice base 0 cap] w λe w'=>∃b',e=.returned (.slice b' 0 0)/\(w'=w\/∃o,w'=Mk w o):=by
 cases base with
 | none=>
  go_enter Tryz.func57,Tryz.ntmps57
  go_wp2
  simp only[PY Tryz.underlying23,Option.isNone_none,Result.andThen_ok]
  go_wp2
  all_goals go_ret
  all_goals exact⟨_,rfl,.inl rfl⟩
 | some a=>
  go_enter Tryz.func57,Tryz.ntmps57
  go_wp2
  simp only[PY Tryz.underlying23,Option.isNone_some,Result.andThen_ok]
  go_wp2
  all_goals go_ret
  all_goals exact⟨_,rfl,.inr ⟨_,rfl⟩⟩
end Go.Proofs.YtpgfpakdnijngaaGreatDoor
