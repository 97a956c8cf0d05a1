/-
  DnfExpand: the contract. For every start in which the listed variables hold what the program's text lays, and for every input, the call returns true.
-/
import Derived.Test.YtpgfpakdnijngaaGreatDoorCards
import Derived.Test.YtpgfpakdnijngaaGreatDoorTie
import Derived.Test.YtpgfpakdnijngaaGreatDoorGood
import Derived.Test.YtpgfpakdnijngaaGreatDoorGlobExp
import Derived.Test.YtpgfpakdnijngaaGreatDoorTI
import Derived.Test.YtpgfpakdnijngaaGreatDoorCk
import Derived.Test.YtpgfpakdnijngaaGreatDoorWvF
import Derived.ProofKit
import Derived.OpenShut
import Derived.Deep.DeepHandedRow
import Derived.Deep.DeepWitnessRowRef
import Derived.LaidMore
import Derived.LaidHandle
set_option linter.all false
namespace Go.Proofs.YtpgfpakdnijngaaGreatDoor.dnfExpand
open Go.ChangeShapes Go.WideShapes Go.ChangeAt Go.RowKit Go.Tel
theorem own:ownKnob Tryz.prog.godebug=none:=by kernel_rfl
theorem AI9:Tryz.prog.cellsOf 3=1:=by kernel_rfl
theorem AJA:Tryz.prog.bytesOf 3=8:=by kernel_rfl
theorem JN:AL (env sN) 16 [] λv=>v=BB true:=
 ⟨_,rfl,λL s=>BD.je (SN (args':=[]) (by kernel_rfl) (by kernel_rfl) (by simp[AY]) rfl qy L s)⟩
set_option maxRecDepth 100000 in
theorem contract (H:Type) (enc:TypeId×Value->H) (W:World) (base:Nat) (args:Array Value) (ds gs:List (DataW H)) (before:List MemPlace)
  (hval:∀(j:Nat) t v,Tryz.f3.params[j]?=some t->args[j]?=some v->Value.okWide Tryz.prog W .any base t v)
  (hW:DataW.Whole enc Tryz.prog Tryz.f3.params.toList Rows.dnfExpandSpec.vars false W args.toList ds gs before) (hL:laidMetH Tryz.prog Rows.dnfExpandRow.laid W)
  (hsz:(DataW.weightsEach Tryz.prog (Tryz.f3.params.toList++(OpenSpec.ofChange Rows.dnfExpandSpec).bare.plain.varTypes Tryz.prog) (ds++gs)).all (·<=reachBytes)=true) :
  Calls Tryz.prog 3 args W λe W'=>∃v,e=.returned v/\Rows.dnfExpandSpec.post enc Tryz.prog Tryz.f3 false true false false W args v W':=by
 have hW':=hW;obtain⟨p,q,hA0,hV,rfl,hfz,hnd⟩:=hW;have hA:DataW.TrodAll enc Tryz.prog W 0 (λ_=>true) true Tryz.f3.params.toList args.toList ds p:=hA0;rw[Tryz.params3] at hA hval hsz;obtain⟨v0,vs0,d0,ds0,p0,q0,AV2,rfl,rfl,h0,r0⟩:=trodAll_cons hA;obtain⟨v1,vs1,d1,ds1,p1,q1,AV3,rfl,rfl,h1,r1⟩:=trodAll_cons r0;obtain⟨rfl,rfl,rfl⟩:=trodAll_nil r1;obtain rfl:args=#[v0,v1]:=by cases args; simp_all
 obtain⟨rfl,rfl⟩:=trodVars_none hV;obtain⟨zs0,V0,T0,B0⟩:=nj Tryz.underlying22 Tryz.underlying3 AI9 AJA (hval 0 22 v0 rfl rfl) h0;obtain⟨n1,e1,V1,_,T1⟩:=ACQ Tryz.underlying3 (hval 1 3 v1 rfl rfl) h1;simp only[Dh,Cb,DataW.weightsEach,W7,AE] at hsz;obtain⟨w0,w1,_⟩:=hsz;clear hA0;simp only[Gd] at hW';obtain⟨v,rfl,hc⟩:=nk num JN (W:=tb1) rfl (by unfold Short; decide) (by decide) zs0 (Nat.lt_trans (B0 w0) (by decide)) n1
 have hargs:VL (AH.bare λb _=>b<W.heap.size) W [.pv (.list (AX zs0)),AA n1] [v0,v1]:=
  .cons V0 (.cons V1 (.nil))
 refine(Zi (good sN rfl) (AOf hL) hargs (hc L0 ⟨[],[]⟩)).mono λe W' ⟨he,hg⟩=>?_
 subst he
 refine⟨_,rfl,Ug (pv:=[]) hW' (λ_ _ _=>trodAll_cons_mk (shut_bool Tryz.underlying4 _) trodAll_mk0)
  (λsp hsp=>trodAll_cons_mk (T0 W' hg sp λx hx=>hsp x (by simp[hx])) (trodAll_cons_mk (T1 W' sp) (trodAll_mk0)))
  (λ_ _=>rfl) (by simp) hg (ok_one (by kernel_rfl) rfl (okWide_bool_mk Tryz.underlying4 _))⟩
def start:Array Value:=#[.slice none 0 0,.int .i64 0]
set_option maxRecDepth 100000 in
theorem sO (os:Os):laidMet Tryz.prog Rows.dnfExpandRow.laid ((World.doorLaid Tryz.prog 77 os).forCall (λ_ _=>0) ⟨#[],start,[]⟩).memory:=
 laidMet_of_run' 8 (by kernel_rfl) (by kernel_rfl)
set_option maxRecDepth 100000 in
theorem nr (os:Os):laidMetH Tryz.prog Rows.dnfExpandRow.laid ((World.doorLaid Tryz.prog 77 os).forCall (λ_ _=>0) ⟨#[],start,[]⟩).memory:=by
 rw[MakeChecks.laidMetH_plain _ _ _ (by kernel_rfl)];exact sO os
theorem reads (os:Os) {H:Type} (enc:TypeId×Value->H):∃places,DataW.whole enc Tryz.prog ((World.doorLaid Tryz.prog 77 os).forCall (λ_ _=>0) ⟨#[],start,[]⟩).memory Tryz.f3.params.toList Rows.dnfExpandSpec.vars false start.toList 8 =
  some ([.nil,.lit (.int .i64 0)],[],places):=
 ⟨[],by kernel_rfl⟩
set_option maxRecDepth 100000 in
theorem lifted (os:Os) (started:os.Started) (H:Type) (enc:TypeId×Value->H) (F:Stop.Interp) :
  ReturnsInHanded {} Tryz.checked os 3 .any ((OpenSpec.ofChange Rows.dnfExpandSpec).preRow enc Tryz.prog Tryz.f3 Rows.dnfExpandRow.domain false Rows.dnfExpandRow.laid) (((OpenSpec.ofChange Rows.dnfExpandSpec).at F).post enc Tryz.prog Tryz.f3 false true false false):=by
 obtain⟨places,hx⟩:=reads os enc
 refine returnsInHanded_of_row (C:=Tryz.checked) (s:=OpenSpec.ofChange Rows.dnfExpandSpec) own started (by kernel_rfl) Tryz.func3
  (witness_row_atRef (enc:=enc) (C:=Tryz.checked) false (World.doorLaid Tryz.prog 77 os) start rfl (by kernel_rfl) (by kernel_rfl) (by kernel_rfl)
   (OpenSpec.preRow_of_cond 8 hx (by kernel_rfl) (λk hk=>by cases hk) (by kernel_rfl) (nr os))) ?_
 intro W base args ds gs before hval hW _ _ hsz hL _ _;exact contract H enc W base args ds gs before hval hW hL hsz
end Go.Proofs.YtpgfpakdnijngaaGreatDoor.dnfExpand
