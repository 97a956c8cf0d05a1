/- slices.Backward. -/
import Derived.Test.YtpgfpakdnijngaaGreatDoorTab
import Derived.RangeFuncBox
import Derived.RangeFuncLeaves
import Derived.Shelf.Abstract
import Derived.WalkKit
import Derived.OwnWalkIn
import Derived.TacticsInMore
import Derived.LoopNIn
import Derived.LoopIn
set_option linter.all false
namespace Go.Proofs.YtpgfpakdnijngaaGreatDoor
open Go.Tel Go.RowKit Go.Shelf
attribute [local go_sem] Oper.semAt_some
set_option maxRecDepth 100000 in
set_option maxHeartbeats 4000000 in
theorem oS (sz:Nat) (hsz:Dy Tryz.prog 25=some sz) (l b len cap:Nat) (base:Option Addr) (W:World) (J:Nat->World->Prop) (Jx:World->Prop) (hlen:len<=1000000000000000000)
  (hcell:W.cell? ⟨b,0,none⟩=some (.slice base len cap))
  (qv:∀j W1,j<len->J (j+1) W1->W1.cell? ⟨b,0,none⟩=some (.slice base len cap)/\∃bb o x,base=some ⟨bb,o,none⟩/\(∀q,q<sz->∃v,W1.cell? ⟨bb,o+j*sz+q,none⟩=some v)/\(Instr.loadAt 25 (.pointer (some ⟨bb,o+j*sz,none⟩))).run Tryz.prog W1=.ok x W1 /\
   YieldAt (FW none) 0 Tryz.prog l #[.int .i64 j,x] W1 λe W'=>(e=.returned (.bool true)/\J j W')\/(e=.returned (.bool false)/\Jx W'))
  (h0:J len W) :
  CallsIn (FW none) 0 Tryz.prog 106 #[.func (.yield l) #[] #[],.pointer (some ⟨b,0,none⟩)] W λe W'=>(∃v,e=.returned v)/\(J 0 W'\/Jx W'):=by
 have hro:(FW none).round=none:=rfl;obtain rfl:sz=4:=(Ft (hsz.symm.trans (show Dy Tryz.prog 25=some 4 by kernel_rfl)));refine callsIn_of_wp Tryz.func106 rfl Ay ?_ hro;simp only[Tryz.ntmps106,List.size_toArray,CP,CQ,Nat.reduceAdd,Nat.reduceSub,Array.replicate_succ,Array.replicate_zero,List.push_toArray,List.append_toArray,Ct,DV]
 gi_wp2
 gi_loopw [3] (λi wr=>∃k:Nat,k<=len/\i=.int .i64 ((k:Int)-1)/\J k wr)
  (λi _=>(intOf i+1).toNat)
 case atStart=>exact⟨len,AU _,AD,h0⟩
 case round=>
  obtain⟨k,hk,rfl,hJs⟩:=hrel;cases k with
  | zero=>
   gi_wp2
   go_end0
   exact⟨⟨_,rfl⟩,.inl hJs⟩
  | succ k=>
   obtain⟨hc,bb,o,x,rfl,hcs,hx,fn,tmps,assign,body,hy,hR⟩:=qv k wr AA hJs;have hk1:((k+1:Nat):Int)-1=k:=AA;simp only[hk1] at *;obtain⟨v0,c0⟩:=hcs 0 AA;obtain⟨v1,c1⟩:=hcs 1 AA;obtain⟨v2,c2⟩:=hcs 2 AA;obtain⟨v3,c3⟩:=hcs 3 AA;clear hcs qv;simp only[G8] at c0;obtain⟨i,hi,hi4⟩:=FY hsz
   have hx':=V5 (P:=Tryz.prog) (w:=wr) (b:=bb) (o:=o+k*4) [v0,v1,v2,v3] Tryz.underlying25 hi (by simp[hi4]) (λj u hj=>by
    match j,hj with
    | 0,hj=>simp at hj; subst hj; simpa using c0
    | 1,hj=>simp at hj; subst hj; exact c1
    | 2,hj=>simp at hj; subst hj; exact c2
    | 3,hj=>simp at hj; subst hj; exact c3)
   obtain rfl:x=.agg #[v0,v1,v2,v3]:=by
    rw[hx'] at hx;simpa using hx.symm
   clear hx hx' hi hi4
   gi_wp2
   refine⟨rfl,hR.mono ?_⟩;rintro e W3 (⟨rfl,hJ3⟩|⟨rfl,AVn⟩)
   .gi_wp2
    go_roundw
    case rel=>exact⟨k,AA,AD,hJ3⟩
    case measure=>simp[intOf]
   .gi_wp2
    refine bodyPost_ret (results_none rfl _ _ _) rfl ?_;exact⟨⟨_,rfl⟩,.inr AVn⟩
theorem qw:Tryz.f106.body.isSome=true:=Ac
theorem qx:(Tryz.f106.name== "runtime.NumGoroutine")=false:=Ac
theorem ALa:TN Tryz.prog 106 25:=⟨⟨Tryz.f106,Tryz.func106,qw,qx⟩,oS⟩
end Go.Proofs.YtpgfpakdnijngaaGreatDoor
