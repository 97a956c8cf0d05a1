/-
  DnfDistributes: the contract. For every start in which the listed variables hold what the program's text lays, and for every input, the call returns true.
-/
import Derived.Test.YtpgfpakdnijngaaGreatDoorCards
import Derived.Test.YtpgfpakdnijngaaGreatDoorTie
import Derived.Test.YtpgfpakdnijngaaGreatDoorGood
import Derived.Test.YtpgfpakdnijngaaGreatDoorGlobDis
import Derived.Test.YtpgfpakdnijngaaGreatDoorTJ
import Derived.Test.YtpgfpakdnijngaaGreatDoorTC
import Derived.Test.YtpgfpakdnijngaaGreatDoorCk
import Derived.Test.YtpgfpakdnijngaaGreatDoorWvF
import Derived.ProofKit
import Derived.OpenShut
import Derived.Deep.DeepHandedRow
import Derived.Deep.DeepWitnessRowRef
import Derived.LaidMore
import Derived.LaidHandle
set_option linter.unusedSimpArgs false
set_option linter.unusedVariables false
namespace Go.Proofs.YtpgfpakdnijngaaGreatDoor.dnfDistributes
open Go.ChangeShapes Go.WideShapes Go.ChangeAt Go.RowKit Go.Tel
theorem own:ownKnob Tryz.prog.godebug=none:=by kernel_rfl
theorem nr:Tryz.prog.cellsOf 3=1:=by kernel_rfl
theorem nu:Tryz.prog.bytesOf 3=8:=by kernel_rfl
theorem c8:AW (env nv) 16 [] fun v=>v=BB true:=
 ⟨_,rfl,fun L s=>BC.iB (SC (args':=[]) (by kernel_rfl) (by kernel_rfl) (by simp[AN]) rfl nk L s)⟩
set_option maxRecDepth 100000 in
theorem contract (H:Type) (enc:TypeId×Value->H) (W:World) (base:Nat) (args:Array Value) (ds gs:List (DataW H)) (before:List MemPlace)
  (hval:∀ (j:Nat) t v,Tryz.f5.params[j]?=some t->args[j]?=some v->Value.okWide Tryz.prog W .any base t v)
  (hW:DataW.Whole enc Tryz.prog Tryz.f5.params.toList Rows.dnfDistributesSpec.vars false W args.toList ds gs before) (hL:laidMetH Tryz.prog Rows.dnfDistributesRow.laid W)
  (hsz:(DataW.weightsEach Tryz.prog (Tryz.f5.params.toList++(OpenSpec.ofChange Rows.dnfDistributesSpec).bare.plain.varTypes Tryz.prog) (ds++gs)).all (·<=reachBytes)=true) :
  Calls Tryz.prog 5 args W fun e W'=>∃ v,e=.returned v/\Rows.dnfDistributesSpec.post enc Tryz.prog Tryz.f5 false true false false W args v W':=by
 have hW':=hW;obtain⟨p,q,hA0,hV,rfl,hfz,hnd⟩:=hW;have hA:DataW.TrodAll enc Tryz.prog W 0 (fun _=>true) true Tryz.f5.params.toList args.toList ds p:=hA0;rw[Tryz.params5] at hA hval hsz;obtain⟨v0,vs0,d0,ds0,p0,q0,ANK,rfl,rfl,h0,r0⟩:=trodAll_cons hA;obtain⟨v1,vs1,d1,ds1,p1,q1,ANM,rfl,rfl,h1,r1⟩:=trodAll_cons r0;obtain⟨rfl,rfl,rfl⟩:=trodAll_nil r1;obtain rfl:args=#[v0,v1]:=by cases args; simp_all
 obtain⟨rfl,rfl⟩:=trodVars_none hV;obtain⟨zs0,V0,T0,B0⟩:=VE Tryz.underlying22 Tryz.underlying3 nr nu (hval 0 22 v0 rfl rfl) h0;obtain⟨zs1,V1,T1,B1⟩:=VE Tryz.underlying22 Tryz.underlying3 nr nu (hval 1 22 v1 rfl rfl) h1;simp only[EZ,Di,DataW.weightsEach,OI,AG] at hsz;obtain⟨w0,w1,_⟩:=hsz;clear hA0;simp only[IC] at hW';obtain⟨v,rfl,hc⟩:=ku num c8 (W:=tb1) rfl (by unfold Short; decide) (by decide) zs0 zs1 (Wu (B0 w0) (by decide)) (Wu (B1 w1) (by decide))
 have hargs:VL (AH.bare fun b _=>b<W.heap.size) W [.pv (.list (A4 zs0)),.pv (.list (A4 zs1))] [v0,v1]:=
  .cons V0 (.cons V1 (.nil))
 refine(Y8 (good nv rfl) (AHL hL) hargs (hc L0 ⟨[],[]⟩)).mono fun e W' ⟨he,hg⟩=>?_
 subst he
 refine⟨_,rfl,Ua (pv:=[]) hW' (fun _ _ _=>trodAll_cons_mk (shut_bool Tryz.underlying4 _) trodAll_mk0)
  (fun sp hsp=>trodAll_cons_mk (T0 W' hg sp fun x hx=>hsp x (by simp[hx])) (trodAll_cons_mk (T1 W' hg sp fun x hx=>hsp x (by simp[hx])) (trodAll_mk0)))
  (fun _ _=>rfl) (by simp) hg (ok_one (by kernel_rfl) rfl (okWide_bool_mk Tryz.underlying4 _))⟩
def start:Array Value:=#[.slice none 0 0,.slice none 0 0]
set_option maxRecDepth 100000 in
theorem nw (os:Os):laidMet Tryz.prog Rows.dnfDistributesRow.laid ((World.doorLaid Tryz.prog 77 os).forCall (fun _ _=>0) ⟨#[],start,[]⟩).memory:=
 laidMet_of_run' 8 (by kernel_rfl) (by kernel_rfl)
set_option maxRecDepth 100000 in
theorem kz (os:Os):laidMetH Tryz.prog Rows.dnfDistributesRow.laid ((World.doorLaid Tryz.prog 77 os).forCall (fun _ _=>0) ⟨#[],start,[]⟩).memory:=by
 rw[MakeChecks.laidMetH_plain _ _ _ (by kernel_rfl)];exact nw os
theorem reads (os:Os) {H:Type} (enc:TypeId×Value->H):∃ places,DataW.whole enc Tryz.prog ((World.doorLaid Tryz.prog 77 os).forCall (fun _ _=>0) ⟨#[],start,[]⟩).memory Tryz.f5.params.toList Rows.dnfDistributesSpec.vars false start.toList 8 =
  some ([.nil,.nil],[],places):=
 ⟨[],by kernel_rfl⟩
set_option maxRecDepth 100000 in
theorem lifted (os:Os) (started:os.Started) (H:Type) (enc:TypeId×Value->H) (F:Stop.Interp) :
  ReturnsInHanded {} Tryz.checked os 5 .any ((OpenSpec.ofChange Rows.dnfDistributesSpec).preRow enc Tryz.prog Tryz.f5 Rows.dnfDistributesRow.domain false Rows.dnfDistributesRow.laid) (((OpenSpec.ofChange Rows.dnfDistributesSpec).at F).post enc Tryz.prog Tryz.f5 false true false false):=by
 obtain⟨places,hx⟩:=reads os enc
 refine returnsInHanded_of_row (C:=Tryz.checked) (s:=OpenSpec.ofChange Rows.dnfDistributesSpec) own started (by kernel_rfl) Tryz.func5
  (witness_row_atRef (enc:=enc) (C:=Tryz.checked) false (World.doorLaid Tryz.prog 77 os) start rfl (by kernel_rfl) (by kernel_rfl) (by kernel_rfl)
   (OpenSpec.preRow_of_cond 8 hx (by kernel_rfl) (fun k hk=>by cases hk) (by kernel_rfl) (kz os))) ?_
 intro W base args ds gs before hval hW _ _ hsz hL _ _;exact contract H enc W base args ds gs before hval hW hL hsz
end Go.Proofs.YtpgfpakdnijngaaGreatDoor.dnfDistributes
