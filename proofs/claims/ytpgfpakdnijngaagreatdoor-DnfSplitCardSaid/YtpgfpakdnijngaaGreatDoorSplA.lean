/-
  DnfSplit: the contract. For every start in which the listed variables hold what the program's text lays, and for every input, the call returns true.
-/
import Derived.Test.YtpgfpakdnijngaaGreatDoorCards
import Derived.Test.YtpgfpakdnijngaaGreatDoorTie
import Derived.Test.YtpgfpakdnijngaaGreatDoorGood
import Derived.Test.YtpgfpakdnijngaaGreatDoorGlobSpl
import Derived.Test.YtpgfpakdnijngaaGreatDoorTJ
import Derived.Test.YtpgfpakdnijngaaGreatDoorTB
import Derived.Test.YtpgfpakdnijngaaGreatDoorCk
import Derived.Test.YtpgfpakdnijngaaGreatDoorWvF
import Derived.ProofKit
import Derived.OpenShut
import Derived.Deep.DeepHandedRow
import Derived.Deep.DeepWitnessRowRef
import Derived.LaidMore
import Derived.LaidHandle
set_option linter.all false
namespace Go.Proofs.YtpgfpakdnijngaaGreatDoor.dnfSplit
open Go.ChangeShapes Go.WideShapes Go.ChangeAt Go.RowKit Go.Tel
theorem own:ownKnob Tryz.prog.godebug=none:=AW
theorem AGC:Tryz.prog.cellsOf 3=1:=AW
theorem AGD:Tryz.prog.bytesOf 3=8:=AW
theorem Jr:Af (env uB) 16 [] λv=>v=BB true:=
 ⟨_,rfl,λL s=>BW.kg (Th (args':=[]) AW AW (by simp[BR]) rfl sY L s)⟩
set_option maxRecDepth 100000 in
theorem contract (H:Type) (enc:TypeId×Value->H) (W:World) (base:Nat) (args:Array Value) (ds gs:List (DataW H)) (before:List MemPlace)
  (hval:∀(j:Nat) t v,Tryz.f6.params[j]?=some t->args[j]?=some v->Value.okWide Tryz.prog W .any base t v)
  (hW:DataW.Whole enc Tryz.prog Tryz.f6.params.toList Rows.dnfSplitSpec.vars false W args.toList ds gs before) (hL:laidMetH Tryz.prog Rows.dnfSplitRow.laid W)
  (hsz:(DataW.weightsEach Tryz.prog (Tryz.f6.params.toList++(OpenSpec.ofChange Rows.dnfSplitSpec).bare.plain.varTypes Tryz.prog) (ds++gs)).all (·<=reachBytes)=true) :
  Calls Tryz.prog 6 args W λe W'=>∃v,e=.returned v/\Rows.dnfSplitSpec.post enc Tryz.prog Tryz.f6 false true false false W args v W':=by
 have hW':=hW;obtain⟨p,q,hA0,hV,rfl,hfz,hnd⟩:=hW;have hA:DataW.TrodAll enc Tryz.prog W 0 (λ_=>true) true Tryz.f6.params.toList args.toList ds p:=hA0;rw[Tryz.params6] at hA hval hsz;obtain⟨v0,vs0,d0,ds0,p0,q0,AXh,rfl,rfl,h0,r0⟩:=trodAll_cons hA;obtain⟨v1,vs1,d1,ds1,p1,q1,AXi,rfl,rfl,h1,r1⟩:=trodAll_cons r0;obtain⟨v2,vs2,d2,ds2,p2,q2,AXj,rfl,rfl,h2,r2⟩:=trodAll_cons r1;obtain⟨rfl,rfl,rfl⟩:=trodAll_nil r2;obtain rfl:args=#[v0,v1,v2]:=by cases args; simp_all
 obtain⟨rfl,rfl⟩:=trodVars_none hV;obtain⟨zs0,V0,T0,B0⟩:=oU Tryz.underlying22 Tryz.underlying3 AGC AGD (hval 0 22 v0 rfl rfl) h0;obtain⟨n1,e1,V1,_,T1⟩:=ki Tryz.underlying3 (hval 1 3 v1 rfl rfl) h1;obtain⟨n2,e2,V2,_,T2⟩:=ki Tryz.underlying3 (hval 2 3 v2 rfl rfl) h2;simp only[DH,Cm,DataW.weightsEach,YR,AH] at hsz;obtain⟨w0,w1,w2,_⟩:=hsz;clear hA0;simp only[HO] at hW';obtain⟨v,rfl,hc⟩:=oV num Jr (W:=tb1) rfl (by unfold Short; decide) AI zs0 (YS (B0 w0) AI) n1 n2
 have hargs:VL (AP.bare λb _=>b<W.heap.size) W [.pv (.list (Ab zs0)),AG n1,AG n2] [v0,v1,v2]:=
  .cons V0 (.cons V1 (.cons V2 (.nil)))
 refine(bL (good uB rfl) (ANp hL) hargs (hc L0 ⟨[],[]⟩)).mono λe W' ⟨he,hg⟩=>?_
 subst he
 refine⟨_,rfl,Vy (pv:=[]) hW' (λ_ _ _=>trodAll_cons_mk (shut_bool Tryz.underlying4 _) trodAll_mk0)
  (λsp hsp=>trodAll_cons_mk (T0 W' hg sp λx hx=>hsp x (by simp[hx])) (trodAll_cons_mk (T1 W' sp) (trodAll_cons_mk (T2 W' sp) (trodAll_mk0))))
  (λ_ _=>rfl) AD hg (ok_one AW rfl (okWide_bool_mk Tryz.underlying4 _))⟩
def start:Array Value:=#[.slice none 0 0,.int .i64 0,.int .i64 0]
set_option maxRecDepth 100000 in
theorem uM (os:Os):laidMet Tryz.prog Rows.dnfSplitRow.laid ((World.doorLaid Tryz.prog 77 os).forCall (λ_ _=>0) ⟨#[],start,[]⟩).memory:=
 laidMet_of_run' 8 AW AW
set_option maxRecDepth 100000 in
theorem oW (os:Os):laidMetH Tryz.prog Rows.dnfSplitRow.laid ((World.doorLaid Tryz.prog 77 os).forCall (λ_ _=>0) ⟨#[],start,[]⟩).memory:=by
 rw[MakeChecks.laidMetH_plain _ _ _ AW];exact uM os
theorem reads (os:Os) {H:Type} (enc:TypeId×Value->H):∃places,DataW.whole enc Tryz.prog ((World.doorLaid Tryz.prog 77 os).forCall (λ_ _=>0) ⟨#[],start,[]⟩).memory Tryz.f6.params.toList Rows.dnfSplitSpec.vars false start.toList 8 =
  some ([.nil,.lit (.int .i64 0),.lit (.int .i64 0)],[],places):=
 ⟨[],AW⟩
set_option maxRecDepth 100000 in
theorem lifted (os:Os) (started:os.Started) (H:Type) (enc:TypeId×Value->H) (F:Stop.Interp) :
  ReturnsInHanded {} Tryz.checked os 6 .any ((OpenSpec.ofChange Rows.dnfSplitSpec).preRow enc Tryz.prog Tryz.f6 Rows.dnfSplitRow.domain false Rows.dnfSplitRow.laid) (((OpenSpec.ofChange Rows.dnfSplitSpec).at F).post enc Tryz.prog Tryz.f6 false true false false):=by
 obtain⟨places,hx⟩:=reads os enc
 refine returnsInHanded_of_row (C:=Tryz.checked) (s:=OpenSpec.ofChange Rows.dnfSplitSpec) own started AW Tryz.func6
  (witness_row_atRef (enc:=enc) (C:=Tryz.checked) false (World.doorLaid Tryz.prog 77 os) start rfl AW AW AW
   (OpenSpec.preRow_of_cond 8 hx AW (λk hk=>by cases hk) AW (oW os))) ?_
 intro W base args ds gs before hval hW _ _ hsz hL _ _;exact contract H enc W base args ds gs before hval hW hL hsz
end Go.Proofs.YtpgfpakdnijngaaGreatDoor.dnfSplit
