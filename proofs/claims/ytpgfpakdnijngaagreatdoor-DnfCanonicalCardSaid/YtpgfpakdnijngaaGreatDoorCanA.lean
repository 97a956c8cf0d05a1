/-
  DnfCanonical: the contract. For every start in which the listed variables hold what the program's text lays, and for every input, the call returns true.
-/
import Derived.Test.YtpgfpakdnijngaaGreatDoorCards
import Derived.Test.YtpgfpakdnijngaaGreatDoorTie
import Derived.Test.YtpgfpakdnijngaaGreatDoorGood
import Derived.Test.YtpgfpakdnijngaaGreatDoorGlobCan
import Derived.Test.YtpgfpakdnijngaaGreatDoorTJ
import Derived.Test.YtpgfpakdnijngaaGreatDoorCk
import Derived.Test.YtpgfpakdnijngaaGreatDoorWvF
import Derived.ProofKit
import Derived.OpenShut
import Derived.Deep.DeepHandedRow
import Derived.Deep.DeepWitnessRowRef
import Derived.LaidMore
import Derived.LaidHandle
set_option linter.all false
namespace Go.Proofs.YtpgfpakdnijngaaGreatDoor.dnfCanonical
open Go.ChangeShapes Go.WideShapes Go.ChangeAt Go.RowKit Go.Tel
theorem own:ownKnob Tryz.prog.godebug=none:=by kernel_rfl
theorem AHT:Tryz.prog.cellsOf 3=1:=by kernel_rfl
theorem AHU:Tryz.prog.bytesOf 3=8:=by kernel_rfl
theorem eI:AL (env sB) 16 [] λv=>v=BB true:=
 ⟨_,rfl,λL s=>A8.jW (SE (args':=[]) (by kernel_rfl) (by kernel_rfl) (by simp[AU]) rfl sC L s)⟩
set_option maxRecDepth 100000 in
theorem contract (H:Type) (enc:TypeId×Value->H) (W:World) (base:Nat) (args:Array Value) (ds gs:List (DataW H)) (before:List MemPlace)
  (hval:∀(j:Nat) t v,Tryz.f8.params[j]?=some t->args[j]?=some v->Value.okWide Tryz.prog W .any base t v)
  (hW:DataW.Whole enc Tryz.prog Tryz.f8.params.toList Rows.dnfCanonicalSpec.vars false W args.toList ds gs before) (hL:laidMetH Tryz.prog Rows.dnfCanonicalRow.laid W)
  (hsz:(DataW.weightsEach Tryz.prog (Tryz.f8.params.toList++(OpenSpec.ofChange Rows.dnfCanonicalSpec).bare.plain.varTypes Tryz.prog) (ds++gs)).all (·<=reachBytes)=true) :
  Calls Tryz.prog 8 args W λe W'=>∃v,e=.returned v/\Rows.dnfCanonicalSpec.post enc Tryz.prog Tryz.f8 false true false false W args v W':=by
 have hW':=hW;obtain⟨p,q,hA0,hV,rfl,hfz,hnd⟩:=hW;have hA:DataW.TrodAll enc Tryz.prog W 0 (λ_=>true) true Tryz.f8.params.toList args.toList ds p:=hA0;rw[Tryz.params8] at hA hval hsz;obtain⟨v0,vs0,d0,ds0,p0,q0,ATV,rfl,rfl,h0,r0⟩:=trodAll_cons hA;obtain⟨rfl,rfl,rfl⟩:=trodAll_nil r0;obtain rfl:args=#[v0]:=by cases args; simp_all
 obtain⟨rfl,rfl⟩:=trodVars_none hV;obtain⟨zs0,V0,T0,B0⟩:=nX Tryz.underlying22 Tryz.underlying3 AHT AHU (hval 0 22 v0 rfl rfl) h0;simp only[Eu,ED,DataW.weightsEach,List.all_append,AD] at hsz;obtain⟨w0,_⟩:=hsz;clear hA0;simp only[Hj] at hW';obtain⟨v,rfl,hc⟩:=nY num eI (W:=tb1) rfl (by unfold Short; decide) (by decide) zs0 (Nat.lt_trans (B0 w0) (by decide))
 have hargs:VL (AI.bare λb _=>b<W.heap.size) W [.pv (.list (AY zs0))] [v0]:=
  .cons V0 (.nil)
 refine(ZY (good sB rfl) (AMP hL) hargs (hc L0 ⟨[],[]⟩)).mono λe W' ⟨he,hg⟩=>?_
 subst he
 refine⟨_,rfl,Um (pv:=[]) hW' (λ_ _ _=>trodAll_cons_mk (shut_bool Tryz.underlying4 _) trodAll_mk0)
  (λsp hsp=>trodAll_cons_mk (T0 W' hg sp λx hx=>hsp x (by simp[hx])) (trodAll_mk0))
  (λ_ _=>rfl) (by simp) hg (ok_one (by kernel_rfl) rfl (okWide_bool_mk Tryz.underlying4 _))⟩
def start:Array Value:=#[.slice none 0 0]
set_option maxRecDepth 100000 in
theorem sD (os:Os):laidMet Tryz.prog Rows.dnfCanonicalRow.laid ((World.doorLaid Tryz.prog 77 os).forCall (λ_ _=>0) ⟨#[],start,[]⟩).memory:=
 laidMet_of_run' 8 (by kernel_rfl) (by kernel_rfl)
set_option maxRecDepth 100000 in
theorem nZ (os:Os):laidMetH Tryz.prog Rows.dnfCanonicalRow.laid ((World.doorLaid Tryz.prog 77 os).forCall (λ_ _=>0) ⟨#[],start,[]⟩).memory:=by
 rw[MakeChecks.laidMetH_plain _ _ _ (by kernel_rfl)];exact sD os
theorem reads (os:Os) {H:Type} (enc:TypeId×Value->H):∃places,DataW.whole enc Tryz.prog ((World.doorLaid Tryz.prog 77 os).forCall (λ_ _=>0) ⟨#[],start,[]⟩).memory Tryz.f8.params.toList Rows.dnfCanonicalSpec.vars false start.toList 8 =
  some ([.nil],[],places):=
 ⟨[],by kernel_rfl⟩
set_option maxRecDepth 100000 in
theorem lifted (os:Os) (started:os.Started) (H:Type) (enc:TypeId×Value->H) (F:Stop.Interp) :
  ReturnsInHanded {} Tryz.checked os 8 .any ((OpenSpec.ofChange Rows.dnfCanonicalSpec).preRow enc Tryz.prog Tryz.f8 Rows.dnfCanonicalRow.domain false Rows.dnfCanonicalRow.laid) (((OpenSpec.ofChange Rows.dnfCanonicalSpec).at F).post enc Tryz.prog Tryz.f8 false true false false):=by
 obtain⟨places,hx⟩:=reads os enc
 refine returnsInHanded_of_row (C:=Tryz.checked) (s:=OpenSpec.ofChange Rows.dnfCanonicalSpec) own started (by kernel_rfl) Tryz.func8
  (witness_row_atRef (enc:=enc) (C:=Tryz.checked) false (World.doorLaid Tryz.prog 77 os) start rfl (by kernel_rfl) (by kernel_rfl) (by kernel_rfl)
   (OpenSpec.preRow_of_cond 8 hx (by kernel_rfl) (λk hk=>by cases hk) (by kernel_rfl) (nZ os))) ?_
 intro W base args ds gs before hval hW _ _ hsz hL _ _;exact contract H enc W base args ds gs before hval hW hL hsz
end Go.Proofs.YtpgfpakdnijngaaGreatDoor.dnfCanonical
