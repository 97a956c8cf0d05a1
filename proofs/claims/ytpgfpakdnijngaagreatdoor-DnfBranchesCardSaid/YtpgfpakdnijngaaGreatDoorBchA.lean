/- The contract of DnfBranches. -/
import Derived.Test.YtpgfpakdnijngaaGreatDoorCards
import Derived.Test.YtpgfpakdnijngaaGreatDoorTie
import Derived.Test.YtpgfpakdnijngaaGreatDoorGood
import Derived.Test.YtpgfpakdnijngaaGreatDoorGlobBch
import Derived.Test.YtpgfpakdnijngaaGreatDoorTL
import Derived.Test.YtpgfpakdnijngaaGreatDoorTB
import Derived.Test.YtpgfpakdnijngaaGreatDoorCk
import Derived.Test.YtpgfpakdnijngaaGreatDoorWvF
import Derived.ProofKit
import Derived.OpenShut
import Derived.Deep.DeepHandedRow
import Derived.Deep.DeepWitnessRowRef
import Derived.LaidMore
import Derived.LaidHandle
set_option linter.all false
namespace Go.Proofs.YtpgfpakdnijngaaGreatDoor.dnfBranches
open Go.ChangeShapes Go.WideShapes Go.ChangeAt Go.RowKit Go.Tel
open Option renaming some->Y,none->G
open Bool renaming true->Z,false->ϴ
theorem own:ownKnob Tryz.prog.godebug=none:=Ac
theorem AEs:Tryz.prog.cellsOf 3=1:=Ac
theorem AEt:Tryz.prog.bytesOf 3=8:=Ac
theorem Jv:Ah (env qy) 16 [] λv=>v=BB true:=
 ⟨_,rfl,λL s=>Bk.kn (TP (args':=[]) Ac Ac (by simp[BZ]) rfl qz L s)⟩
set_option maxRecDepth 100000 in
theorem contract (H:Type) (enc:TypeId×Value->H) (W:World) (base:Nat) (args:Array Value) (ds u:List (DataW H)) (C:List MemPlace)
  (f:∀(j:Nat) t v,Tryz.f9.params[j]?=Y t->args[j]?=Y v->Value.okWide Tryz.prog W .any base t v)
  (y:DataW.Whole enc Tryz.prog Tryz.f9.params.toList Rows.dnfBranchesSpec.vars ϴ W args.toList ds u C) (I:laidMetH Tryz.prog Rows.dnfBranchesRow.laid W)
  (i:(DataW.weightsEach Tryz.prog (Tryz.f9.params.toList++(OpenSpec.ofChange Rows.dnfBranchesSpec).bare.plain.varTypes Tryz.prog) (ds++u)).all (·<=reachBytes)=Z) :
  Calls Tryz.prog 9 args W λe d=>∃v,e=.returned v/\Rows.dnfBranchesSpec.post enc Tryz.prog Tryz.f9 ϴ Z ϴ ϴ W args v d:=by
 have o:=y;obtain⟨p,q,r,K,rfl,κ,μ⟩:=y;have hA:DataW.TrodAll enc Tryz.prog W 0 (λ_=>Z) Z Tryz.f9.params.toList args.toList ds p:=r;rw[Tryz.params9] at hA f i;obtain⟨k,ν,σ,ξ,τ,q0,η,rfl,rfl,L,M⟩:=trodAll_cons hA;obtain⟨l,ο,υ,π,φ,q1,θ,rfl,rfl,N,O⟩:=trodAll_cons M;obtain⟨m,ρ,χ,ς,ψ,ω,ι,rfl,rfl,Q,S⟩:=trodAll_cons O;obtain⟨rfl,rfl,rfl⟩:=trodAll_nil S;obtain rfl:args=#[k,l,m]:=by cases args; simp_all
 obtain⟨rfl,rfl⟩:=trodVars_none K;obtain⟨s,T,T0,U⟩:=oT Tryz.underlying22 Tryz.underlying3 AEs AEt (f 0 22 k rfl rfl) L;obtain⟨z,Γ,X,_,α⟩:=ko Tryz.underlying3 (f 1 3 l rfl rfl) N;obtain⟨A,Δ,β,_,γ⟩:=ko Tryz.underlying3 (f 2 3 m rfl rfl) Q;simp only[DV,Ct,DataW.weightsEach,Ya,AK] at i;obtain⟨δ,Θ,Λ,_⟩:=i;clear r;simp only[G9] at o;obtain⟨v,rfl,ε⟩:=oU num Jv (W:=tb1) rfl (by unfold Short; decide) AH s (Yb (U δ) AH) z A
 have D:VL (AZ.bare λb _=>b<W.heap.size) W [.pv (.list (Ai s)),AG z,AG A] [k,l,m]:=
  .cons T (.cons X (.cons β (.nil)))
 refine(ak (good qy rfl) (ALb I) D (ε L0 ⟨[],[]⟩)).mono λe d ⟨ζ,B⟩=>?_
 subst ζ
 refine⟨_,rfl,V6 (pv:=[]) o (λ_ _ _=>trodAll_cons_mk (shut_bool Tryz.underlying4 _) trodAll_mk0)
  (λn E=>trodAll_cons_mk (T0 d B n λx hx=>E x (by simp[hx])) (trodAll_cons_mk (α d n) (trodAll_cons_mk (γ d n) (trodAll_mk0))))
  (λ_ _=>rfl) AD B (ok_one Ac rfl (okWide_bool_mk Tryz.underlying4 _))⟩
def start:Array Value:=#[.slice G 0 0,.int .i64 0,.int .i64 0]
set_option maxRecDepth 100000 in
theorem rC (os:Os):laidMet Tryz.prog Rows.dnfBranchesRow.laid ((World.doorLaid Tryz.prog 77 os).forCall (λ_ _=>0) ⟨#[],start,[]⟩).memory:=
 laidMet_of_run' 8 Ac Ac
set_option maxRecDepth 100000 in
theorem oV (os:Os):laidMetH Tryz.prog Rows.dnfBranchesRow.laid ((World.doorLaid Tryz.prog 77 os).forCall (λ_ _=>0) ⟨#[],start,[]⟩).memory:=by
 rw[MakeChecks.laidMetH_plain _ _ _ Ac];exact rC os
theorem reads (os:Os) {H:Type} (enc:TypeId×Value->H):∃b,DataW.whole enc Tryz.prog ((World.doorLaid Tryz.prog 77 os).forCall (λ_ _=>0) ⟨#[],start,[]⟩).memory Tryz.f9.params.toList Rows.dnfBranchesSpec.vars ϴ start.toList 8 =
  Y ([.nil,.lit (.int .i64 0),.lit (.int .i64 0)],[],b):=
 ⟨[],Ac⟩
set_option maxRecDepth 100000 in
theorem lifted (os:Os) (b:os.Started) (H:Type) (enc:TypeId×Value->H) (F:Stop.Interp) :
  ReturnsInHanded {} Tryz.checked os 9 .any ((OpenSpec.ofChange Rows.dnfBranchesSpec).preRow enc Tryz.prog Tryz.f9 Rows.dnfBranchesRow.domain ϴ Rows.dnfBranchesRow.laid) (((OpenSpec.ofChange Rows.dnfBranchesSpec).at F).post enc Tryz.prog Tryz.f9 ϴ Z ϴ ϴ):=by
 obtain⟨r,hx⟩:=reads os enc
 refine returnsInHanded_of_row (C:=Tryz.checked) (s:=OpenSpec.ofChange Rows.dnfBranchesSpec) own b Ac Tryz.func9
  (witness_row_atRef (enc:=enc) (C:=Tryz.checked) ϴ (World.doorLaid Tryz.prog 77 os) start rfl Ac Ac Ac
   (OpenSpec.preRow_of_cond 8 hx Ac (λk l=>by cases l) Ac (oV os))) ?_
 intro W e f m n d i o _ _ j p _ _;exact contract H enc W e f m n d i o p j
end Go.Proofs.YtpgfpakdnijngaaGreatDoor.dnfBranches
