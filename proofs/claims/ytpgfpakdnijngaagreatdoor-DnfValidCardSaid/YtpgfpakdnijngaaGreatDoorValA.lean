/-
  DnfValid: the contract. For every start in which the listed variables hold what the program's text lays, and for every input, the call returns true.
-/
import Derived.Test.YtpgfpakdnijngaaGreatDoorCards
import Derived.Test.YtpgfpakdnijngaaGreatDoorTie
import Derived.Test.YtpgfpakdnijngaaGreatDoorGood
import Derived.Test.YtpgfpakdnijngaaGreatDoorGlobVal
import Derived.Test.YtpgfpakdnijngaaGreatDoorTJ
import Derived.Test.YtpgfpakdnijngaaGreatDoorTB
import Derived.Test.YtpgfpakdnijngaaGreatDoorCk
import Derived.Test.YtpgfpakdnijngaaGreatDoorWvF
import Derived.ProofKit
import Derived.OpenShut
import Derived.Deep.DeepHandedRow
import Derived.Deep.DeepWitnessRowRef
import Derived.LaidMore
import Derived.LaidHandle
set_option linter.all false
namespace Go.Proofs.YtpgfpakdnijngaaGreatDoor.dnfValid
open Go.ChangeShapes Go.WideShapes Go.ChangeAt Go.RowKit Go.Tel
theorem own:ownKnob Tryz.prog.godebug=none:=AW
theorem AAR:Tryz.prog.cellsOf 3=1:=AW
theorem AAS:Tryz.prog.bytesOf 3=8:=AW
theorem KB:Ae (env jD) 16 [] λv=>v=BB true:=
 ⟨_,rfl,λL s=>BG.oW (UF (args':=[]) AW AW (by simp[BK]) rfl uD L s)⟩
set_option maxRecDepth 100000 in
theorem contract (H:Type) (enc:TypeId×Value->H) (W:World) (base:Nat) (args:Array Value) (ds gs:List (DataW H)) (before:List MemPlace)
  (hval:∀(j:Nat) t v,Tryz.f7.params[j]?=some t->args[j]?=some v->Value.okWide Tryz.prog W .any base t v)
  (hW:DataW.Whole enc Tryz.prog Tryz.f7.params.toList Rows.dnfValidSpec.vars false W args.toList ds gs before) (hL:laidMetH Tryz.prog Rows.dnfValidRow.laid W)
  (hsz:(DataW.weightsEach Tryz.prog (Tryz.f7.params.toList++(OpenSpec.ofChange Rows.dnfValidSpec).bare.plain.varTypes Tryz.prog) (ds++gs)).all (·<=reachBytes)=true) :
  Calls Tryz.prog 7 args W λe W'=>∃v,e=.returned v/\Rows.dnfValidSpec.post enc Tryz.prog Tryz.f7 false true false false W args v W':=by
 have hW':=hW;obtain⟨p,q,hA0,hV,rfl,hfz,hnd⟩:=hW;have hA:DataW.TrodAll enc Tryz.prog W 0 (λ_=>true) true Tryz.f7.params.toList args.toList ds p:=hA0;rw[Tryz.params7] at hA hval hsz;obtain⟨v0,vs0,d0,ds0,p0,q0,AcL,rfl,rfl,h0,r0⟩:=trodAll_cons hA;obtain⟨v1,vs1,d1,ds1,p1,q1,AcM,rfl,rfl,h1,r1⟩:=trodAll_cons r0;obtain⟨v2,vs2,d2,ds2,p2,q2,AcN,rfl,rfl,h2,r2⟩:=trodAll_cons r1;obtain⟨v3,vs3,d3,ds3,p3,q3,AcO,rfl,rfl,h3,r3⟩:=trodAll_cons r2;obtain⟨v4,vs4,d4,ds4,p4,q4,AcP,rfl,rfl,h4,r4⟩:=trodAll_cons r3;obtain⟨rfl,rfl,rfl⟩:=trodAll_nil r4;obtain rfl:args=#[v0,v1,v2,v3,v4]:=by cases args; simp_all
 obtain⟨rfl,rfl⟩:=trodVars_none hV;obtain⟨zs0,V0,T0,B0⟩:=Yr Tryz.underlying22 Tryz.underlying3 AAR AAS (hval 0 22 v0 rfl rfl) h0;obtain⟨zs1,V1,T1,B1⟩:=Yr Tryz.underlying22 Tryz.underlying3 AAR AAS (hval 1 22 v1 rfl rfl) h1;obtain⟨n2,e2,V2,_,T2⟩:=bN Tryz.underlying3 (hval 2 3 v2 rfl rfl) h2;obtain⟨n3,e3,V3,_,T3⟩:=bN Tryz.underlying3 (hval 3 3 v3 rfl rfl) h3;obtain⟨n4,e4,V4,_,T4⟩:=bN Tryz.underlying3 (hval 4 3 v4 rfl rfl) h4;simp only[DD,Cc,DataW.weightsEach,TI,AI] at hsz;obtain⟨w0,w1,w2,w3,w4,_⟩:=hsz;clear hA0;simp only[Gy] at hW';obtain⟨v,rfl,hc⟩:=sU num KB (W:=tb1) rfl (by unfold Short; decide) AK zs0 zs1 (Nat.lt_trans (B0 w0) AK) (Nat.lt_trans (B1 w1) AK) n2 n3 n4
 have hargs:VL (AP.bare λb _=>b<W.heap.size) W [.pv (.list (Ad zs0)),.pv (.list (Ad zs1)),AG n2,AG n3,AG n4] [v0,v1,v2,v3,v4]:=
  .cons V0 (.cons V1 (.cons V2 (.cons V3 (.cons V4 (.nil)))))
 refine(gM (E:=Dh jD) (kg (good jD rfl)) (show cR (Dh jD) W from AOq hL) hargs (hc L0 ⟨[],[]⟩)).mono λe W' ⟨he,hg⟩=>?_
 subst he
 refine⟨_,rfl,Wi (pv:=[]) hW' (λ_ _ _=>trodAll_cons_mk (shut_bool Tryz.underlying4 _) trodAll_mk0)
  (λsp hsp=>trodAll_cons_mk (T0 W' hg sp λx hx=>hsp x (by simp[hx])) (trodAll_cons_mk (T1 W' hg sp λx hx=>hsp x (by simp[hx])) (trodAll_cons_mk (T2 W' sp) (trodAll_cons_mk (T3 W' sp) (trodAll_cons_mk (T4 W' sp) (trodAll_mk0))))))
  (λ_ _=>rfl) AD hg (ok_one AW rfl (okWide_bool_mk Tryz.underlying4 _))⟩
def start:Array Value:=#[.slice none 0 0,.slice none 0 0,.int .i64 0,.int .i64 0,.int .i64 0]
set_option maxRecDepth 100000 in
theorem AAT (os:Os):laidMet Tryz.prog Rows.dnfValidRow.laid ((World.doorLaid Tryz.prog 77 os).forCall (λ_ _=>0) ⟨#[],start,[]⟩).memory:=
 laidMet_of_run' 8 AW AW
set_option maxRecDepth 100000 in
theorem sZ (os:Os):laidMetH Tryz.prog Rows.dnfValidRow.laid ((World.doorLaid Tryz.prog 77 os).forCall (λ_ _=>0) ⟨#[],start,[]⟩).memory:=by
 rw[MakeChecks.laidMetH_plain _ _ _ AW];exact AAT os
theorem reads (os:Os) {H:Type} (enc:TypeId×Value->H):∃places,DataW.whole enc Tryz.prog ((World.doorLaid Tryz.prog 77 os).forCall (λ_ _=>0) ⟨#[],start,[]⟩).memory Tryz.f7.params.toList Rows.dnfValidSpec.vars false start.toList 8 =
  some ([.nil,.nil,.lit (.int .i64 0),.lit (.int .i64 0),.lit (.int .i64 0)],[],places):=
 ⟨[],AW⟩
set_option maxRecDepth 100000 in
theorem lifted (os:Os) (started:os.Started) (H:Type) (enc:TypeId×Value->H) (F:Stop.Interp) :
  ReturnsInHanded {} Tryz.checked os 7 .any ((OpenSpec.ofChange Rows.dnfValidSpec).preRow enc Tryz.prog Tryz.f7 Rows.dnfValidRow.domain false Rows.dnfValidRow.laid) (((OpenSpec.ofChange Rows.dnfValidSpec).at F).post enc Tryz.prog Tryz.f7 false true false false):=by
 obtain⟨places,hx⟩:=reads os enc
 refine returnsInHanded_of_row (C:=Tryz.checked) (s:=OpenSpec.ofChange Rows.dnfValidSpec) own started AW Tryz.func7
  (witness_row_atRef (enc:=enc) (C:=Tryz.checked) false (World.doorLaid Tryz.prog 77 os) start rfl AW AW AW
   (OpenSpec.preRow_of_cond 8 hx AW (λk hk=>by cases hk) AW (sZ os))) ?_
 intro W base args ds gs before hval hW _ _ hsz hL _ _;exact contract H enc W base args ds gs before hval hW hL hsz
end Go.Proofs.YtpgfpakdnijngaaGreatDoor.dnfValid
