/-
  Terms ts plain data; their size and depth.
-/
import Derived.Test.YtpgfpakdnijngaaGreatDoorW1
import Derived.Test.YtpgfpakdnijngaaGreatDoorWpH
set_option linter.all false
namespace Go.Proofs.YtpgfpakdnijngaaGreatDoor
open Go.Tel
open List renaming length->F
open Option renaming some->Y,none->G
open Bool renaming true->Z,false->ϴ
attribute [local simp] Hr MD Ir JL EK E3 Ee wO setCells Hw EX Dd Co Ex alive Dh Jf Qk bU Gq Iu Gl Hs K9 Iv gX fY okB gY gZ gh gi gj ag gm gp gu gv gw gx gy gz hG hJ hO okF hY iA iB iC iD Tu iE Ow Ox Oy Oz iG iH iI iJ iK iL iM iP iQ iR GG iT fZ iU iV iW iX iY iZ ia ic ie ig C0
inductive Ty where
 | mk (kind:Int) (name:Ϝ) (index:Int) (args:List Ty)
abbrev Ϣ:=List Ty
mutual
def Av:Ty->Ϧ
 | .mk k n i ts=>[.sc (.int .i64 k),.sc (.string ⟨n.toArray⟩),.sc (.int .i64 i),.list (Aj ts)]
def Aj:Ϣ->Ϯ
 | []=>[]
 | v::b=>Av v::Aj b
end
theorem Iw:∀l,Aj l=l.map Av
 | []=>by rfl
 | v::b=>by simp[Aj,Iw b]
theorem Aq (v:Ty):F (Av v)=4:=by cases v; rfl
theorem Ae (l:Ϣ):F (Aj l)=F l:=by simp[Iw]
theorem BK {l:Ϣ} {i:Nat} {a:Ty} (h:l[i]?=Y a):(Aj l)[i]?=Y (Av a):=by grind[Iw]
def BD (v:Ty) (x:AV):Prop:=match v with
 | .mk k n i ts=>∃a,x=.agg [AG k,SS n,AG i,a]/\A3 a (Aj ts)
def BD.Bo (v:Ty):BD v (.agg ((Av v).map .pv)):=by
 cases v with
 | mk k n s b=>exact⟨_,AX,.list _⟩
theorem drop_cons {α:Type} {l:List α} {i:Nat} {a:α} (h:l[i]?=Y a):l.drop i=a::l.drop (i+1):=by grind[List.drop_eq_getElem_cons]
mutual
def AP:Ty->Nat
 | .mk _ _ _ ts=>Ak ts+1
def Ak:Ϣ->Nat
 | []=>0
 | a::l=>AP a+Ak l
end
mutual
def Al:Ty->Nat
 | .mk _ _ _ ts=>Cp ts+1
def Cp:Ϣ->Nat
 | []=>0
 | a::l=>max (Al a) (Cp l)
end
def size_pos (t:Ty):0<AP t:=by cases t; simp[AP]
theorem Bl:∀l:Ϣ,F l<=Ak l
 | []=>by simp
 | a::l=>by
  have:=size_pos a;have:=Bl l
  grind[Ak]
mutual
def Tv:∀t:Ty,Al t<=AP t
 | .mk _ _ _ ts=>by
  have:=W8 ts
  grind[Al,AP]
def W8:∀l:Ϣ,Cp l<=Ak l
 | []=>by simp[Cp]
 | a::l=>by
  have:=Tv a;have:=W8 l
  grind[Cp,Ak]
end
def FG:∀{l:Ϣ} {a:Ty},a∈l->AP a<=Ak l
 | [],_,h=>by cases h
 | b::l,a,h=>by
  simp only[Ak];rcases BF.1 h with rfl|h
  .omega
  .have:=FG h; omega
section
variable {R:Nat->Option Ϧ}
def o4 {ts:Ϣ} {a:AV} (o:A3 a (Aj ts)) (A:Ak ts<2 ^ 60) (p:∀t∈ts,Ah (env R) 84 [.agg ((Av t).map .pv)] λr=>r=AG (AP t)) {Post:AV->Prop} :
  ∀(j i c:Nat) (s:AY),i+j=F ts->c+Ak (ts.drop i)<2 ^ 61->Post (AG ((c+Ak (ts.drop i):Nat):Int))->ABV R 0 0 0 (AG c) a (AG (F ts)) (AG i) s (QP Post):=by
 have z:=Bl ts;intro j
 induction j with
 | zero=>
  intro i c s u b d;refine ABW ?_;have e:¬ ((i:Int)<F ts):=AA;simp[e];refine ALx ?_
  simp_all[QP,Ak]
 | succ j m=>
  intro i c s u b d;refine ABW ?_;have e:((i:Int)<F ts):=AA;have⟨t,f⟩:∃t,ts[i]?=Y t:=⟨_,Az AA⟩;have y:=drop_cons f;rw[y] at d b;simp only[Ak] at d b;simp[e];refine ALy ?_;refine BL o (row:=Av t) AA (by grind[BK]) (Aq t) AA ?_;have e3:=p t (A8 f);have e4:AP t<=Ak ts:=FG (A8 f);obtain⟨k,n,x,l⟩:=t;simp only[Av,CH,DC] at e3;simp[Av,S6,Tw,S7,Tx];refine AI e3 ?_;rintro v rfl;simp only[Dh];refine⟨⟨Ay,Ay⟩,Ci AA AA (ALz ?_)⟩;simp only[Dh];refine⟨⟨Ay,Ay⟩,Ci AA AA ?_⟩;have:=m (i+1) (c+AP (.mk k n x l)) ⟨s.bs++[[AG k,SS n,AG x,.pv (.list (Aj l))]],s.ts⟩ AA AA AB
  grind
mutual
def Q2:∀(t:Ty),AP t<2 ^ 60->∀(x:AV),BD t x->Ah (env R) 84 [x] λr=>r=AG (AP t)
 | .mk k n i ts,h,x,hx=>by
  obtain⟨a,rfl,b⟩:=hx;simp only[AP] at h;have d:=Tz ts AA;refine e84 (u0:=.agg [AG k,SS n,AG i,a]) (by simp[b.close]) (AL0 ?_);simp[b.ok,b.BG,Ae];refine o4 b AA d (F ts) 0 1 _ AA AB ?_
  grind[AP]
def Tz:∀(l:Ϣ),Ak l<2 ^ 60->∀t∈l,Ah (env R) 84 [.agg ((Av t).map .pv)] λr=>r=AG (AP t)
 | [],_,_,h=>by cases h
 | e::l,b,a,h=>by
  simp only[Ak] at b;rcases BF.1 h with h' | h'
  .rw[h']
   exact Q2 e AA _ (BD.Bo e)
  .exact Tz l AA a h'
end
end
section
variable {R:Nat->Option Ϧ}
def ij {k i:Int} {n:Ϝ} {ts:Ϣ} {a:AV} (d:A3 a (Aj ts)) (z:Ak ts<2 ^ 60) (o:∀t∈ts,Ah (env R) 71 [.agg ((Av t).map .pv)] λr=>r=AG (AP t)) {Post:AV->Prop} :
  ∀(j q c:Nat),q+j=F ts->c+Ak (ts.drop q)<2 ^ 61->Post (AG ((c+Ak (ts.drop q):Nat):Int))->ABX R 0 0 0 (.ptr 0 0) (AG c) (AG q) ⟨[[AG k,SS n,AG i,a]],[]⟩ (QP Post):=by
 have y:=Bl ts;intro j
 induction j with
 | zero=>
  intro q c p e b;refine ABY ?_;have f:¬ ((q:Int)<F ts):=AA;simp[d.BG,Ae,f];refine AL1 ?_
  simp_all[QP,Ak]
 | succ j m=>
  intro q c p e b;refine ABY ?_;have f:((q:Int)<F ts):=AA;have⟨t,l⟩:∃t,ts[q]?=Y t:=⟨_,Az AA⟩;have s:=drop_cons l;rw[s] at b e;simp only[Ak] at b e;simp[d.BG,Ae,f];refine AL2 ?_;simp;refine BL d (row:=Av t) AA (by grind[BK]) (Aq t) AA ?_;have e3:=o t (A8 l);have e4:AP t<=Ak ts:=FG (A8 l);obtain⟨k,n,x,u⟩:=t;simp only[Av,CH,DC] at e3;simp[Av];refine AI e3 ?_;rintro v rfl;simp only[Dh];refine⟨⟨Ay,Ay⟩,Ci AA AA (AL3 ?_)⟩;simp only[Dh];refine⟨⟨Ay,Ay⟩,Ci AA AA ?_⟩;have:=m (q+1) (c+AP (.mk k n x u)) AA AA (by simpa[Sn] using b);simpa using this
mutual
def O0:∀(t:Ty),AP t<2 ^ 60->∀(x:AV),BD t x->Ah (env R) 71 [x] λr=>r=AG (AP t)
 | .mk k n i ts,h,x,hx=>by
  obtain⟨a,rfl,b⟩:=hx;simp only[AP] at h;have d:=R2 ts AA;refine e71 (u0:=.agg [AG k,SS n,AG i,a]) (by simp[b.close]) (AL4 ?_);simp[b.ok];refine ij b AA d (F ts) 0 1 AA AB ?_
  grind[AP]
def R2:∀(l:Ϣ),Ak l<2 ^ 60->∀t∈l,Ah (env R) 71 [.agg ((Av t).map .pv)] λr=>r=AG (AP t)
 | [],_,_,h=>by cases h
 | e::l,b,a,h=>by
  simp only[Ak] at b;rcases BF.1 h with h' | h'
  .rw[h']
   exact O0 e AA _ (BD.Bo e)
  .exact R2 l AA a h'
end
def iq {ts:Ϣ} {a:AV} (m:A3 a (Aj ts)) (C:Ak ts<2 ^ 60) (o:∀t∈ts,Ah (env R) 85 [.agg ((Av t).map .pv)] λr=>r=AG (Al t)) {Post:AV->Prop} :
  ∀(j i c:Nat) (s:AY),i+j=F ts->c<2 ^ 60->Post (AG ((max c (Cp (ts.drop i))+1:Nat):Int))->ABZ R 0 0 0 (AG c) a (AG (F ts)) (AG i) s (QP Post):=by
 have B:=Bl ts;intro j
 induction j with
 | zero=>
  intro i c s p u b;refine ABa ?_;have d:¬ ((i:Int)<F ts):=AA;simp[d];refine AL5 ?_;have z:ts.drop i=[]:=CR AA;rw[z] at b;simp only[Cp,Nat.max_zero] at b;simp only[Dh];refine⟨⟨Ay,Ay⟩,Ci AA AA ?_⟩;exact⟨_,GG,AB⟩
 | succ j l=>
  intro i c s p u b;refine ABa ?_;have d:((i:Int)<F ts):=AA;have⟨t,e⟩:∃t,ts[i]?=Y t:=⟨_,Az AA⟩;have A:=drop_cons e;rw[A] at b;simp only[Cp] at b;simp[d];refine AL6 ?_;refine BL m (row:=Av t) AA (by grind[BK]) (Aq t) AA ?_;have e3:=o t (A8 e);have e4:AP t<=Ak ts:=FG (A8 e);have e5:=Tv t;obtain⟨k,n,x,f⟩:=t;simp only[Av,CH,DC] at e3;simp[Av,S6,Tw,S7,Tx];refine AI e3 ?_;rintro v rfl;refine W9 (x:=.tmp 13) (y:=.tmp 15) (t:=#[3,3]) AX rfl rfl (AL7 ?_);simp only[Dh];refine⟨⟨Ay,Ay⟩,Ci AA AA ?_⟩;have:=l (i+1) (max c (Al (.mk k n x f))) ⟨s.bs++[[AG k,SS n,AG x,.pv (.list (Aj f))]],s.ts⟩ AA AA AB
  grind
mutual
def T1:∀(t:Ty),AP t<2 ^ 60->∀(x:AV),BD t x->Ah (env R) 85 [x] λr=>r=AG (Al t)
 | .mk k n i ts,h,x,hx=>by
  obtain⟨a,rfl,b⟩:=hx;simp only[AP] at h;have d:=R3 ts AA;refine e85 (u0:=.agg [AG k,SS n,AG i,a]) (by simp[b.close]) (AL8 ?_);simp[b.ok,b.BG,Ae];refine iq b AA d (F ts) 0 0 _ AA AA ?_;rfl
def R3:∀(l:Ϣ),Ak l<2 ^ 60->∀t∈l,Ah (env R) 85 [.agg ((Av t).map .pv)] λr=>r=AG (Al t)
 | [],_,_,h=>by cases h
 | e::l,b,a,h=>by
  simp only[Ak] at b;rcases BF.1 h with h' | h'
  .rw[h']
   exact T1 e AA _ (BD.Bo e)
  .exact R3 l AA a h'
end
def bV {k i:Int} {n:Ϝ} {ts:Ϣ} {a:AV} (d:A3 a (Aj ts)) (B:Ak ts<2 ^ 60) (m:∀t∈ts,Ah (env R) 72 [.agg ((Av t).map .pv)] λr=>r=AG (Al t)) {Post:AV->Prop} :
  ∀(j q c:Nat),q+j=F ts->c<2 ^ 60->Post (AG ((max c (Cp (ts.drop q))+1:Nat):Int))->ABb R 0 0 0 (.ptr 0 0) (AG c) (AG q) ⟨[[AG k,SS n,AG i,a]],[]⟩ (QP Post):=by
 have A:=Bl ts;intro j
 induction j with
 | zero=>
  intro q c o p b;refine ABc ?_;have e:¬ ((q:Int)<F ts):=AA;simp[d.BG,Ae,e];refine AL9 ?_;have s:ts.drop q=[]:=CR AA;rw[s] at b;simp only[Cp,Nat.max_zero] at b;simp only[Dh];refine⟨⟨Ay,Ay⟩,Ci AA AA ?_⟩;exact⟨_,GG,AB⟩
 | succ j l=>
  intro q c o p b;refine ABc ?_;have e:((q:Int)<F ts):=AA;have⟨t,f⟩:∃t,ts[q]?=Y t:=⟨_,Az AA⟩;have u:=drop_cons f;rw[u] at b;simp only[Cp] at b;simp[d.BG,Ae,e];refine AMA ?_;simp;refine BL d (row:=Av t) AA (by grind[BK]) (Aq t) AA ?_;have e3:=m t (A8 f);have e4:AP t<=Ak ts:=FG (A8 f);have e5:=Tv t;obtain⟨k,n,x,z⟩:=t;simp only[Av,CH,DC] at e3;simp[Av];refine AI e3 ?_;rintro v rfl;refine W9 (x:=.tmp 12) (y:=.tmp 18) (t:=#[3,3]) AX rfl rfl (AMB ?_);simp only[Dh];refine⟨⟨Ay,Ay⟩,Ci AA AA ?_⟩;have:=l (q+1) (max c (Al (.mk k n x z))) AA AA AB
  grind
mutual
def R4:∀(t:Ty),AP t<2 ^ 60->∀(x:AV),BD t x->Ah (env R) 72 [x] λr=>r=AG (Al t)
 | .mk k n i ts,h,x,hx=>by
  obtain⟨a,rfl,b⟩:=hx;simp only[AP] at h;have d:=Px ts AA;refine e72 (u0:=.agg [AG k,SS n,AG i,a]) (by simp[b.close]) (AMC ?_);simp[b.ok];refine bV b AA d (F ts) 0 0 AA AA ?_;rfl
def Px:∀(l:Ϣ),Ak l<2 ^ 60->∀t∈l,Ah (env R) 72 [.agg ((Av t).map .pv)] λr=>r=AG (Al t)
 | [],_,_,h=>by cases h
 | e::l,b,a,h=>by
  simp only[Ak] at b;rcases BF.1 h with h' | h'
  .rw[h']
   exact R4 e AA _ (BD.Bo e)
  .exact Px l AA a h'
end
end
def Dz (k:Int) (j:Nat):Nat:=bif k==6&&j==1 then 1 else 0
mutual
def CJ (u:Nat):Ty->Bool
 | .mk k _ i ts=>bif k==5&&decide ((u:Int)<=i) then ϴ else De u k 0 ts
def De (u:Nat) (k:Int) (j:Nat):Ϣ->Bool
 | []=>Z
 | t::l=>CJ (u+Dz k j) t&&De u k (j+1) l
end
mutual
theorem Py:∀t:Ty,Mu (Av t) (Av t)=Z
 | .mk k n i ts=>by simp[Av,Mu,OH,F7,Ie,Dm ts]
theorem Dm:∀l:Ϣ,JI (Aj l) (Aj l)=Z
 | []=>by rfl
 | t::l=>by simp[Aj,JI,Py t,Dm l]
end
def Q3 (k:Int) (j:Nat):Dz k j<=1:=by grind[Dz]
section
variable {R:Nat->Option Ϧ}
def ME {k i:Int} {n:Ϝ} {a:AV} {rows:Ϯ} (b:A3 a rows) (j:Nat):Ah (env R) 119 [.agg [AG k,SS n,AG i,a],AG j] λr=>r=AG (Dz k j):=by
 refine AV9 (u0:=.agg [AG k,SS n,AG i,a]) (u1:=AG j) (by simp[b.close]) (AFE ?_);have d:(((j:Int))==1)=(j==1):=AB;cases e:(k==6) with
 | false=>
  simp[-beq_iff_eq,b.ok,e];refine sP ?_;simp[*,QP,Dz]
 | true=>
  cases f:(j==1) with
  | false=>
   rw[f] at d;simp[-beq_iff_eq,b.ok,e,d];refine sP ?_;simp[*,QP,Dz]
  | true=>
   rw[f] at d;simp[-beq_iff_eq,QP,QI,b.ok,e,d,Dz,f]
def WM {k i:Int} {n:Ϝ} {a:AV} {rows:Ϯ} (b:A3 a rows) (j:Nat):Ah (env R) 151 [.agg [AG k,SS n,AG i,a],AG j] λr=>r=AG (Dz k j):=by
 refine AWA (u0:=.agg [AG k,SS n,AG i,a]) (u1:=AG j) (by simp[b.close]) (AFF ?_);have d:(((j:Int))==1)=(j==1):=AB;cases e:(k==6) with
 | false=>
  simp[-beq_iff_eq,b.ok,e];refine sQ ?_;simp[*,QP,Dz]
 | true=>
  cases f:(j==1) with
  | false=>
   rw[f] at d;simp[-beq_iff_eq,b.ok,e,d];refine sQ ?_;simp[*,QP,Dz]
  | true=>
   rw[f] at d;simp[-beq_iff_eq,QP,QI,b.ok,e,d,Dz,f]
def bW {k i:Int} {n:Ϝ} {ts:Ϣ} {a:AV} {u:Nat} (e:A3 a (Aj ts)) (E:Ak ts<2 ^ 60) (H:u<2 ^ 60)
  (z:∀t∈ts,∀v,v<=u+1->Ah (env R) 141 [.agg ((Av t).map .pv),AG v] λr=>r=BB (CJ v t)) {Post:AV->Prop} :
  ∀(j q:Nat) (m:Ϩ),q+j=F ts->Post (BB (De u k q (ts.drop q)))->sR R 0 0 0 (AG u) (.ptr 0 0) a (AG (F ts)) (AG q) ⟨[AG k,SS n,AG i,a]::m,[]⟩ (QP Post):=by
 have D:=Bl ts;intro j
 induction j with
 | zero=>
  intro q m A b;refine sS ?_;have d:¬ ((q:Int)<F ts):=AA;simp[d];refine AFG ?_
  simp_all[QP,De]
 | succ j y=>
  intro q m A b;refine sS ?_;have d:((q:Int)<F ts):=AA;have⟨t,f⟩:∃t,ts[q]?=Y t:=⟨_,Az AA⟩;have B:=drop_cons f;rw[B] at b;simp only[De] at b;simp[d];refine AFH ?_;refine BL e (row:=Av t) AA (by grind[BK]) (Aq t) AA ?_;have hb:=Q3 k q;have e3:=z t (A8 f) (u+Dz k q) AA;obtain⟨l,o,x,p⟩:=t;simp only[Av,CH,DC] at e3;simp[Av,S6,Tw,S7,Tx];refine AI (ME e q) ?_;rintro v rfl;simp only[Dh];refine⟨⟨Ay,Ay⟩,Ci AA AA ?_⟩;have C:(u:Int)+(Dz k q:Int)=((u+Dz k q:Nat):Int):=AA;rw[C];refine AI e3 ?_;rintro v rfl;cases s:CJ (u+Dz k q) (.mk l o x p) with
  | false=>
   rw[s] at b;simp[QP,QI,D9,JY,OH,F7,Ie,Dm]
   grind
  | true=>
   rw[s] at b;simp[D9,JY,OH,F7,Ie,Dm];refine AFI ?_;simp only[Dh];refine⟨⟨Ay,Ay⟩,Ci AA AA ?_⟩;have:=y (q+1) (m++[[AG l,SS o,AG x,.pv (.list (Aj p))]]) AA (by simpa using b);simpa using this
mutual
def M9:∀(t:Ty),AP t<2 ^ 60->∀(u:Nat),u+AP t<2 ^ 60->∀(x:AV),BD t x->Ah (env R) 141 [x,AG u] λr=>r=BB (CJ u t)
 | .mk k n i ts,h,u,j,x,hx=>by
  obtain⟨a,rfl,d⟩:=hx;simp only[AP] at h j;have l:=Pz ts AA (u+1) AA
  suffices H:∀Post:AV->Prop,Post (BB (CJ u (.mk k n i ts)))->sU R 0 0 0 (.agg [AG k,SS n,AG i,a]) (AG u) ⟨[],[]⟩ (QP Post) from
   AWB (u0:=.agg [AG k,SS n,AG i,a]) (u1:=AG u) (by simp[d.close]) (H _ rfl)
  intro Post b;refine AFJ ?_;simp only[CJ] at b
  have o:Post (BB (De u k 0 ts))->sV R 0 0 0 (AG u) (.ptr 0 0) ⟨[[AG k,SS n,AG i,a]],[]⟩ (QP Post):=by
   intro p;refine AFK ?_;simp[d.BG,Ae];exact bW (m:=[]) d AA AA l (F ts) 0 AA AB
  cases e:(k==5) with
  | false=>
   rw[e] at b;simp[-beq_iff_eq,d.ok,e]
   grind
  | true=>
   rw[e] at b;cases f:decide ((u:Int)<=i) with
   | true=>
    rw[f] at b;simpa[-beq_iff_eq,-decide_eq_true_eq,QP,QI,d.ok,e,f] using b
   | false=>
    rw[f] at b;simp[-beq_iff_eq,-decide_eq_false_iff_not,d.ok,e,f]
    grind
def Pz:∀(l:Ϣ),Ak l<2 ^ 60->∀(w:Nat),w+Ak l<2 ^ 60->∀t∈l,∀v,v<=w->Ah (env R) 141 [.agg ((Av t).map .pv),AG v] λr=>r=BB (CJ v t)
 | [],_,_,_,_,h=>by cases h
 | e::l,b,w,d,a,h=>by
  simp only[Ak] at b d;rcases BF.1 h with h' | h'
  .rw[h']
   exact λv f=>M9 e AA v AA _ (BD.Bo e)
  .exact Pz l AA w AA a h'
end
end
theorem Kt {l:Ϛ} {i:Nat} {n:Int} (h:l[i]?=Y n):(Ai l)[i]?=Y [.sc (.int .i64 n)]:=by grind[Ai]
def bX {a:AV} {ts:Ϣ} (h:A3 a (Aj ts)):D9 a a=true:=by
 rcases h with rfl|rfl <;> simp[D9,OH,Dm]
theorem MF:∀l:Ϛ,JI (Ai l) (Ai l)=Z
 | []=>by rfl
 | t::l=>by
  have:=MF l
  grind[Ai,JI,Mu,OH,F7]
section
variable {R:Nat->Option Ϧ}
theorem bZ {l:Ϛ} {x:AV} (hx:A3 x (Ai l)) (S:F l<2 ^ 40) (v:Int) {Post:AV->Prop} (L:∀r m,A3 r (Ai m)->m≠[]->F m<=F l+1->Post r) (q:Nat) (e:q<=F l) :
  sX R 0 0 0 x (AG v) (AG q) ⟨[],[]⟩ (QP Post):=by
 refine AFL ?_;have u:F (Ai l)=F l:=BP l;have y:((Ai l).all λr=>F r==1)=true:=by grind[Dw]
 have d:∀(p t:Option AV) (a b:Nat) (s:AY) (K:AV->Prop),GH 0 p=Y a->GH (F l) t=Y b->a<=b->b<=F l->K (.pv (.list (((Ai l).take b).drop a)))->o5 s 1 x p t G K:=by
  intro p t a b s K f j B C D;have E:=hx.rowsOf;rcases hx with rfl|rfl
  .simp only[o5,E,wO,u]
   exact⟨a,b,f,j,⟨B,C,y⟩,D⟩
  .simp only[o5,E,wO,u]
   exact⟨a,b,f,j,⟨B,C,y⟩,D⟩
 have o:GH 0 (Y (AG q))=Y q:=AX;have H:GH (F l) (Y (AG q))=Y q:=AX;have M:((Ai l).take q).drop 0=Ai (l.take q):=by simp[*,Ai]
 have N:((Ai l).take (F l)).drop q=Ai (l.drop q):=by grind[Ai,List.map_drop]
 simp[HJ,GC,Ee,wO,C0,CZ];refine d G (Y (AG q)) 0 q _ _ rfl H AA e ?_;rw[M];have T:∀(m:Ϛ),F m=F (Ai m):=λm=>(BP m).symm
 refine Q4 (ts:=[]) (x:=[]) (rows:=[]) (m:=Ai (l.take q)) (.inl rfl) AD AD Dw AA (D7 (.inl (.list _)) Dw) O1 AB AB ?_;intro U W I;simp[HJ,GC,Ee,wO,C0,CZ,setCells];refine Q4 (ts:=[]) (m:=Ai [v]) I AD AB Dw AA (D7 (.inl (.AE _)) Dw) O1 AB AB ?_;intro X α z;refine d (Y (AG q)) G q (F l) _ _ o rfl e AA ?_;rw[N];have O:[]++Ai (l.take q)++Ai [v]=Ai (l.take q++[v]):=by simp[Ai]
 rw[O] at z;refine Q4 (ts:=[]) (m:=Ai (l.drop q)) z AD Dw Dw AA (D7 (.inl (.list _)) Dw) O1 AB AB ?_;intro β γ A;have e3:Ai (l.take q++[v])++Ai (l.drop q)=Ai (l.take q++[v]++l.drop q):=by simp[Ai]
 rw[e3] at A;refine⟨?_,?_,?_⟩
 .refine d (Y (AG q)) G q (F l) _ _ o rfl e AA ?_
  grind[D9,OH,MF]
 .refine d (Y (AG q)) G q (F l) _ _ o rfl e AA ?_
  grind[D9,OH,MF]
 .have⟨Q,f,j⟩:=A.BA.closed ([]:Ϩ) 0
  exact⟨Q,f,L _ _ j AD AB⟩
theorem bf {l:Ϛ} {x:AV} (hx:A3 x (Ai l)) (e:F l<2 ^ 40) (v:Int) {Post:AV->Prop} (f:∀r m,A3 r (Ai m)->m≠[]->F m<=F l+1->Post r) (q:Nat) (j:q<=F l) :
  sY R 0 0 0 x (AG v) (AG q) ⟨[],[]⟩ (QP Post):=by
 refine AFM ?_;have d:F (Ai l)=F l:=BP l
 by_cases h:q<F l
 .have b:((q:Int)<F l):=by omega
  have⟨t,o⟩:∃t,l[q]?=Y t:=⟨_,Az AA⟩;simp[hx.BG,d,b];refine BL hx (row:=[.sc (.int .i64 t)]) AA (by grind[Kt]) rfl AA ?_;simp;refine⟨λ_=>?_,λ_=>bZ hx e v f q j⟩;simp[QP,QI,hx.close]
  grind
 .have b:¬ ((q:Int)<F l):=by omega
  simp[hx.BG,d,b]
  grind[bZ]
def o6 {l:Ϛ} {x:AV} (hx:A3 x (Ai l)) (e:F l<2 ^ 40) (v:Int) {Post:AV->Prop} (f:∀r m,A3 r (Ai m)->m≠[]->F m<=F l+1->Post r) :
  ∀(j q:Nat),q+j=F l->sZ R 0 0 0 x (AG v) (AG q) ⟨[],[]⟩ (QP Post):=by
 have d:F (Ai l)=F l:=BP l;intro j
 induction j with
 | zero=>
  intro q o;refine sg ?_;have b:¬ ((q:Int)<F l):=AA;simp[hx.BG,d,b]
  grind[bf]
 | succ j p=>
  intro q o;refine sg ?_;have b:((q:Int)<F l):=AA;have⟨t,s⟩:∃t,l[q]?=Y t:=⟨_,Az AA⟩;simp[hx.BG,d,b];refine BL hx (row:=[.sc (.int .i64 t)]) AA (by simp[*,Kt]) rfl AA ?_;simp;refine⟨λ_=>?_,λ_=>bf hx e v f q AA⟩;refine AFN ?_;simp only[Dh];refine⟨⟨Ay,Ay⟩,Ci AA AA ?_⟩;have:=p (q+1) AA
  grind
def T2 {l:Ϛ} {x:AV} (hx:A3 x (Ai l)) (b:F l<2 ^ 40) (v:Int):Ah (env R) 150 [x,AG v] λr=>∃m,A3 r (Ai m)/\m≠[]/\F m<=F l+1:=by
 refine AWC (u0:=x) (u1:=AG v) (by simp[hx.close]) (AFO ?_);exact o6 hx b v (λr m d e f=>⟨m,d,e,f⟩) (F l) 0 AA
def Q5 {k i:Int} {n:Ϝ} {ts:Ϣ} {a:AV} {u:Nat} (b:A3 a (Aj ts)) (L:Ak ts<2 ^ 39) (M:u<2 ^ 60)
  (A:∀t∈ts,∀v,v<=u+1->∀(l:Ϛ) (y:AV),A3 y (Ai l)->F l+AP t<2 ^ 40 ->
   Ah (env R) 126 [.agg ((Av t).map .pv),AG v,y] λr=>∃m,A3 r (Ai m)/\(m=[]<->l=[]/\CJ v t=Z)/\F m<=F l+AP t) {Post:AV->Prop} :
  ∀(j q:Nat) (l:Ϛ) (y:AV),A3 y (Ai l)->F l+Ak (ts.drop q)<2 ^ 40->q+j=F ts ->
   (∀r m,A3 r (Ai m)->(m=[]<->l=[]/\De u k q (ts.drop q)=Z)->F m<=F l+Ak (ts.drop q)->Post r) ->
   sj R 0 0 0 (AG u) y (.ptr 0 0) (AG q) ⟨[[AG k,SS n,AG i,a]],[]⟩ (QP Post):=by
 have H:=Bl ts;intro j
 induction j with
 | zero=>
  intro q l y e f B d;refine sk ?_;have o:¬ ((q:Int)<F ts):=AA;simp[b.BG,Ae,o];refine AFP ?_;have C:ts.drop q=[]:=CR AA;rw[C] at d;exact⟨y,e.close _ _ _,d y l e (by simp[De]) AD⟩
 | succ j z=>
  intro q l y e f B d;refine sk ?_;have o:((q:Int)<F ts):=AA;have⟨t,p⟩:∃t,ts[q]?=Y t:=⟨_,Az AA⟩;have D:=drop_cons p;rw[D] at d f;simp only[De,Ak] at d f;simp[b.BG,Ae,o];refine AFQ ?_;simp;refine BL b (row:=Av t) AA (by grind[BK]) (Aq t) AA ?_;have hb:=Q3 k q;have e3:=A t (A8 p) (u+Dz k q) AA l y e AA;have s:=BK p;obtain⟨N,O,x,Q⟩:=t;simp only[Av,CH,DC] at e3 s;simp[Av];refine AI (WM b q) ?_;rintro v rfl;simp only[Dh];refine⟨⟨Ay,Ay⟩,Ci AA AA ?_⟩;have E:(u:Int)+(Dz k q:Int)=((u+Dz k q:Nat):Int):=AA;rw[E];refine AI e3 ?_;rintro v ⟨m,hm,I,K⟩;simp[D9,bX b,JY,OH,Mu,F7,Ie,Dm];refine⟨BL b AA Bp AD AA (by simp[*,D9,OH,Mu,F7,Ie,Dm]),AFR ?_⟩;simp only[Dh];refine⟨⟨Ay,Ay⟩,Ci AA AA ?_⟩;have:=z (q+1) m v hm AA AA AB
  grind
mutual
def free_spec:∀(t:Ty),AP t<2 ^ 39->∀(u:Nat),u+AP t<2 ^ 60->∀(x:AV),BD t x->∀(l:Ϛ) (y:AV),A3 y (Ai l)->F l+AP t<2 ^ 40 ->
  Ah (env R) 126 [x,AG u,y] λr=>∃m,A3 r (Ai m)/\(m=[]<->l=[]/\CJ u t=Z)/\F m<=F l+AP t
 | .mk k n i ts,h,u,s,x,hx,l,y,o,z=>by
  obtain⟨a,rfl,e⟩:=hx;simp only[AP] at h s z;have p:=T3 ts AA (u+1) AA
  suffices H:∀Post:AV->Prop,(∀r m,A3 r (Ai m)->(m=[]<->l=[]/\CJ u (.mk k n i ts)=Z)->F m<=F l+AP (.mk k n i ts)->Post r)->sq R 0 0 0 (.agg [AG k,SS n,AG i,a]) (AG u) y ⟨[],[]⟩ (QP Post) from
   AWD (u0:=.agg [AG k,SS n,AG i,a]) (u1:=AG u) (u2:=y) (by simp[e.close,o.close]) (H _ λr m f j A=>⟨m,f,j,A⟩)
  intro Post d;refine AFS ?_;simp only[CJ,AP] at d;cases f:(k==5) with
  | false=>
   rw[f] at d;simp[-beq_iff_eq,e.ok,f];refine ir ?_;exact Q5 e AA AA p (F ts) 0 l y o AB AA (λr m a b c=>d r m a AB AB)
  | true=>
   rw[f] at d;cases j:decide ((u:Int)<=i) with
   | true=>
    rw[j] at d;simp[-beq_iff_eq,-decide_eq_true_eq,e.ok,f,j,iu];refine AI (T2 o AA _) ?_;rintro v ⟨m,hm,C,D⟩;refine ir ?_;refine Q5 e AA AA p (F ts) 0 m v hm AB AA (λr B a b c=>d r B a ?_ AB)
    grind
   | false=>
    rw[j] at d;simp[-beq_iff_eq,-decide_eq_false_iff_not,e.ok,f,j];refine ir ?_;exact Q5 e AA AA p (F ts) 0 l y o AB AA (λr m a b c=>d r m a AB AB)
def T3:∀(l:Ϣ),Ak l<2 ^ 39->∀(w:Nat),w+Ak l<2 ^ 60->∀t∈l,∀v,v<=w->∀(z:Ϛ) (y:AV),A3 y (Ai z)->F z+AP t<2 ^ 40 ->
   Ah (env R) 126 [.agg ((Av t).map .pv),AG v,y] λr=>∃m,A3 r (Ai m)/\(m=[]<->z=[]/\CJ v t=Z)/\F m<=F z+AP t
 | [],_,_,_,_,h=>by cases h
 | e::l,b,w,d,a,h=>by
  simp only[Ak] at b d;rcases BF.1 h with h' | h'
  .rw[h']
   exact λv o z y f j=>free_spec e AA v AA _ (BD.Bo e) z y f j
  .exact T3 l AA w AA a h'
end
def JE {t:Ty} (h:AP t<2 ^ 38) {x:AV} (hx:BD t x):Ah (env R) 48 [x] λr=>r=BB (CJ 0 t):=by
 obtain⟨k,n,i,ts⟩:=t;obtain⟨a,rfl,b⟩:=hx;refine e48 (u0:=.agg [AG k,SS n,AG i,a]) (by simp[b.close]) (AMD ?_);simp[b.ok]
 have d:Ah (env R) 96 [.agg [AG k,SS n,AG i,a]] λr=>∃m,A3 r (Ai m)/\(m=[]<->CJ 0 (.mk k n i ts)=Z):=by
  refine e96 (u0:=.agg [AG k,SS n,AG i,a]) (by simp[b.close]) (AME ?_);simp[b.ok];refine AI (free_spec (.mk k n i ts) AA 0 AA _ ⟨a,rfl,b⟩ [] (.AE []) (.AE []) AB) ?_;rintro v ⟨m,hm,e,_⟩;exact⟨v,hm.close _ _ _,m,hm,AB⟩
 refine AI d ?_;rintro v ⟨m,hm,e⟩;simp[QP,QI,hm.BG,BP];cases f:CJ 0 (.mk k n i ts) with
 | true=>
  grind
 | false=>
  simp[*]
end
mutual
def plain:Ty->Bool
 | .mk k n i ts=>k==5||CJ 0 (.mk k n i ts)||(k==2&&Eo ts)
def Eo:Ϣ->Bool
 | []=>Z
 | t::l=>plain t&&Eo l
end
section
variable {R:Nat->Option Ϧ}
def su {f:FuncId} {g:Ty->Bool} {ts:Ϣ} {y:AV} (o:A3 y (Aj ts)) (C:Ak ts<2 ^ 60) (hf:∀t∈ts,Ah (env R) f [.agg ((Av t).map .pv)] λr=>r=BB (g t)) {Post:AV->Prop} :
  ∀(j q:Nat),q+j=F ts->(∀i:Int,decide (0<=i)=(ts.drop q).any g->Post (AG i))->ZM R 0 0 0 y (.func (.func f) [] []) (AG (F ts)) (AG q) ⟨[],[]⟩ (QP Post):=by
 have B:=Bl ts;intro j
 induction j with
 | zero=>
  intro q p b;refine Q6 ?_;have d:¬ ((q:Int)<F ts):=AA;simp[d];refine iw ?_
  simp_all[QP]
 | succ j m=>
  intro q p b;refine Q6 ?_;have d:((q:Int)<F ts):=AA;have⟨t,l⟩:∃t,ts[q]?=Y t:=⟨_,Az AA⟩;have s:=drop_cons l;rw[s] at b;simp[d];refine iy ?_;refine BL o (row:=Av t) AA (by simp[*,BK]) (Aq t) AA ?_;have e3:=hf t (A8 l);cases e:g t with
  | true=>
   rw[e] at e3;have:=b q AB;obtain⟨u,z,x,A⟩:=t;simp only[Av,CH,DC] at e3;simp[Av];refine AI e3 ?_;simp[*,QP]
  | false=>
   rw[e] at e3;simp only[PX,e,Fy] at b;obtain⟨u,z,x,A⟩:=t;simp only[Av,CH,DC] at e3;simp[Av];refine AI e3 ?_;rintro v rfl;simp;refine iz ?_;simp only[Dh];refine⟨⟨Ay,Ay⟩,Ci AA AA ?_⟩;have:=m (q+1) AA b;simpa using this
def OZ {f:FuncId} {g:Ty->Bool} {ts:Ϣ} {y:AV} (b:A3 y (Aj ts)) (d:Ak ts<2 ^ 60) (hf:∀t∈ts,Ah (env R) f [.agg ((Av t).map .pv)] λr=>r=BB (g t)) :
  Ah (env R) 94 [y,.func (.func f) [] []] λr=>r=BB (ts.any g):=by
 have e:Ah (env R) 125 [y,.func (.func f) [] []] λr=>∃i:Int,r=AG i/\decide (0<=i)=ts.any g:=by
  refine AWE (by simp[Da,b.F9,F9]) (jA ?_);simp[b.BG,Ae];exact su b d hf (F ts) 0 AA (λi h=>⟨i,rfl,AB⟩)
 refine e94 (by simp[Da,b.F9,F9]) (sw ?_);refine AI e ?_;rintro v ⟨i,rfl,h⟩;simp only[Dh];refine⟨⟨Ay,Ay⟩,_,GG,?_⟩;rw[<-h]
mutual
def ZN:∀(t:Ty),AP t<2 ^ 38->∀(x:AV),BD t x->Ah (env R) 161 [x] λr=>r=BB (plain t)
 | .mk k n i ts,h,x,hx=>by
  obtain⟨a,rfl,b⟩:=hx;have l:=h;simp only[AP] at h;have e:=NA k n i ts AA a b;have f:Ah (env R) 141 [.agg [AG k,SS n,AG i,a],AG 0] λr=>r=BB (CJ 0 (.mk k n i ts)):=M9 (.mk k n i ts) AA 0 AA _ ⟨a,rfl,b⟩
  refine AWF (u0:=.agg [AG k,SS n,AG i,a]) (by simp[b.close]) (AFT ?_);cases d:(k==5) with
  | true=>simp[-beq_iff_eq,QP,QI,b.ok,d,plain]
  | false=>
   simp[-beq_iff_eq,b.ok,d];refine AI f ?_;rintro v rfl;cases m:CJ 0 (.mk k n i ts) with
   | true=>simp[*,QP,plain]
   | false=>
    cases o:(k==2) with
    | false=>simp[*,QP,plain]
    | true=>
     have j:k=2:=AB;subst j;simp;refine AI e ?_;simp[*,QP,plain]
def NA (k:Int) (n:Ϝ) (i:Int):∀(ts:Ϣ),Ak ts<2 ^ 38->∀(a:AV),A3 a (Aj ts)->Ah (env R) 140 [.agg [AG k,SS n,AG i,a]] λr=>r=BB (Eo ts)
 | ts,h,a,b=>by
  have d:=R5 ts h;refine AWG (u0:=.agg [AG k,SS n,AG i,a]) (by simp[b.close]) (AFU ?_);simp[b.ok]
  have hf:∀t∈ts,Ah (env R) 160 [.agg ((Av t).map .pv)] λr=>r=BB (!plain t):=by
   intro t f;have e:=d t f;refine AWH (by cases t; rfl) (AFV ?_);obtain⟨j,m,x,o⟩:=t;simp only[Av,CH,DC] at e;simp[Av];refine AI e ?_;simp[*,QP]
  refine AI (OZ b AA hf) ?_;rintro v rfl
  have:(!ts.any λt=>!plain t)=Eo ts:=by
   clear d hf b h
   induction ts with
   | nil=>rfl
   | cons t l d=>grind[Eo]
  simp[*,QP]
def R5:∀(l:Ϣ),Ak l<2 ^ 38->∀t∈l,Ah (env R) 161 [.agg ((Av t).map .pv)] λr=>r=BB (plain t)
 | [],_,_,h=>by cases h
 | e::l,b,a,h=>by
  simp only[Ak] at b;rcases BF.1 h with h' | h'
  .rw[h']
   exact ZN e AA _ (BD.Bo e)
  .exact R5 l AA a h'
end
def bg {k i:Int} {n:Ϝ} {ts:Ϣ} {a:AV} (d:A3 a (Aj ts)) (B:Ak ts<2 ^ 38) (o:∀t∈ts,Ah (env R) 110 [.agg ((Av t).map .pv)] λr=>r=BB (plain t)) {Post:AV->Prop} :
  ∀(j q:Nat),q+j=F ts->Post (BB (k==2&&Eo (ts.drop q)))->sx R 0 0 0 (.ptr 0 0) (AG q) ⟨[[AG k,SS n,AG i,a]],[]⟩ (QP Post):=by
 have A:=Bl ts;intro j
 induction j with
 | zero=>
  intro q p b;refine sy ?_;have e:¬ ((q:Int)<F ts):=AA;simp[d.BG,Ae,e];refine AFW ?_
  simp_all[QP,Eo]
 | succ j m=>
  intro q p b;refine sy ?_;have e:((q:Int)<F ts):=AA;have⟨t,f⟩:∃t,ts[q]?=Y t:=⟨_,Az AA⟩;have s:=drop_cons f;rw[s] at b;simp only[Eo] at b;simp[d.BG,Ae,e];refine AFX ?_;simp;refine BL d (row:=Av t) AA (by simp[*,BK]) (Aq t) AA ?_;have e3:=o t (A8 f);have C:=Aq t;cases l:plain t with
  | true=>
   rw[l] at e3 b;obtain⟨u,y,x,z⟩:=t;simp only[Av,CH,DC] at e3;simp[Av];refine AI e3 ?_;rintro v rfl;simp;refine AFY ?_;simp only[Dh];refine⟨⟨Ay,Ay⟩,Ci AA AA ?_⟩;have:=m (q+1) AA (by simpa using b);simpa using this
  | false=>
   rw[l] at e3 b;obtain⟨u,y,x,z⟩:=t;simp only[Av,CH,DC] at e3;simp[Av];refine AI e3 ?_
   simp_all[QP]
mutual
def bh:∀(t:Ty),AP t<2 ^ 38->∀(x:AV),BD t x->Ah (env R) 110 [x] λr=>r=BB (plain t)
 | .mk k n i ts,h,x,hx=>by
  obtain⟨a,rfl,d⟩:=hx;have f:=h;simp only[AP] at h;have j:=MG ts AA;have l:Ah (env R) 48 [.agg [AG k,SS n,AG i,a]] λr=>r=BB (CJ 0 (.mk k n i ts)):=JE f ⟨a,rfl,d⟩
  suffices H:∀Post:AV->Prop,Post (BB (plain (.mk k n i ts)))->s3 R 0 0 0 (.agg [AG k,SS n,AG i,a]) ⟨[],[]⟩ (QP Post) from
   AWI (u0:=.agg [AG k,SS n,AG i,a]) (by simp[d.close]) (H _ rfl)
  intro Post b;refine AFZ ?_;simp only[plain] at b;cases e:(k==5) with
  | true=>
   rw[e] at b;simpa[-beq_iff_eq,QP,QI,d.ok,e] using b
  | false=>
   rw[e] at b;simp[-beq_iff_eq,d.ok,e];refine AI l ?_;rintro v rfl;cases m:CJ 0 (.mk k n i ts) with
   | true=>
    simp_all[QP]
   | false=>
    rw[m] at b;simp[-beq_iff_eq];refine AFa ?_;exact bg d AA j (F ts) 0 AA AB
def MG:∀(l:Ϣ),Ak l<2 ^ 38->∀t∈l,Ah (env R) 110 [.agg ((Av t).map .pv)] λr=>r=BB (plain t)
 | [],_,_,h=>by cases h
 | e::l,b,a,h=>by
  simp only[Ak] at b;rcases BF.1 h with h' | h'
  .rw[h']
   exact bh e AA _ (BD.Bo e)
  .exact MG l AA a h'
end
end
def isLet (n:Int):Bool:=(decide (97<=n)&&decide (n<=122))||(decide (65<=n)&&decide (n<=90))
def T4 (n:Int):Bool:=decide (48<=n)&&decide (n<=57)
def Q7 (n:Int):Bool:=isLet n||T4 n||n==95||n==45
abbrev BY (n:Int):AV:=.pv (.sc (.int .u8 n))
def NB (l:Ϝ):Bool:=l != []&&decide (F l<=24)&&(match l with|[]=>ϴ|c::_=>isLet c.toNat)&&l.all λc=>!((c.toNat:Int)==45)&&Q7 c.toNat
def Ml:List Ϝ:=[[65,110,121],[78,101,118,101,114],[116,117,112,108,101],[117,110,105,111,110],[101,120,105,115,116,115]]
section
variable {R:Nat->Option Ϧ}
def R6 (n:Int):Ah (env R) 155 [BY n] λr=>r=BB (isLet n):=by
 refine AWJ rfl (AFb ?_)
 by_cases b:97<=n <;> by_cases d:n<=122 <;> by_cases e:65<=n <;> by_cases f:n<=90 <;> simp[QP,QI,isLet,b,d,e,f]
def P0 (n:Int):Ah (env R) 135 [BY n] λr=>r=BB (isLet n):=by
 refine AWK rfl (AFc ?_)
 by_cases b:97<=n <;> by_cases d:n<=122 <;> by_cases e:65<=n <;> by_cases f:n<=90 <;> simp[QP,QI,isLet,b,d,e,f]
def jB (n:Int):Ah (env R) 173 [BY n] λr=>r=BB (T4 n):=by
 refine AWL rfl (AFd ?_)
 by_cases b:48<=n <;> by_cases d:n<=57 <;> simp[QP,QI,T4,b,d]
def bk (n:Int):Ah (env R) 154 [BY n] λr=>r=BB (T4 n):=by
 refine AWM rfl (AFe ?_)
 by_cases b:48<=n <;> by_cases d:n<=57 <;> simp[QP,QI,T4,b,d]
def WN (n:Int):Ah (env R) 158 [BY n] λr=>r=BB (Q7 n):=by
 refine AWN rfl (AFf ?_);refine AI (R6 n) ?_;rintro v rfl;cases b:isLet n with
 | true=>simp[QP,QI,Q7,b]
 | false=>
  simp;refine AI (jB n) ?_;rintro v rfl;cases d:T4 n with
  | true=>simp[QP,QI,Q7,d]
  | false=>cases e:(n==95) <;> cases f:(n==45) <;> simp[-beq_iff_eq,-beq_eq_false_iff_ne,QP,QI,Q7,b,d,e,f]
def T5 (n:Int):Ah (env R) 136 [BY n] λr=>r=BB (Q7 n):=by
 refine AWO rfl (AFg ?_);refine AI (P0 n) ?_;rintro v rfl;cases b:isLet n with
 | true=>simp[QP,QI,Q7,b]
 | false=>
  simp;refine AI (bk n) ?_;rintro v rfl;cases d:T4 n with
  | true=>simp[QP,QI,Q7,d]
  | false=>cases e:(n==95) <;> cases f:(n==45) <;> simp[-beq_iff_eq,-beq_eq_false_iff_ne,QP,QI,Q7,b,d,e,f]
def T6 (n:Int):Ah (env R) 157 [BY n] λr=>r=BB (!(n==45)&&Q7 n):=by
 refine AWP rfl (AFh ?_);cases h:(n==45) with
 | true=>simp[-beq_iff_eq,-beq_eq_false_iff_ne,QP,QI,h,bne]
 | false=>
  simp[-beq_iff_eq,-beq_eq_false_iff_ne,h,bne];refine AI (WN n) ?_;rintro v rfl;simp[-beq_iff_eq,-beq_eq_false_iff_ne,QP,QI]
def jC {f:FuncId} {g:Int->Bool} {l:Ϝ} (t:F l<2 ^ 60) (hf:∀n:Int,Ah (env R) f [BY n] λr=>r=BB (g n)) {Post:AV->Prop} :
  ∀(j q:Nat),q+j=F l->Post (BB ((l.drop q).all λc=>g c.toNat))->s5 R 0 0 0 (SS l) (.func (.func f) [] []) (AG q) ⟨[],[]⟩ (QP Post):=by
 intro j
 induction j with
 | zero=>
  intro q p b;refine s6 ?_;have d:¬ ((q:Int)<F l):=AA;simp[d];refine AFi ?_;have s:l.drop q=[]:=CR AA;rw[s] at b;simpa[QP,QI] using b
 | succ j o=>
  intro q p b;refine s6 ?_;have d:((q:Int)<F l):=AA;have⟨c,e⟩:∃c,l[q]?=Y c:=⟨_,Az AA⟩;rw[drop_cons e] at b;simp[d];refine AFj ?_;refine⟨AA,c,by simpa using e,?_⟩;refine AI (hf c.toNat) ?_;rintro v rfl;cases m:g c.toNat with
  | true=>
   rw[FX,m] at b;simp;refine AFk ?_;simp only[Dh];refine⟨⟨Ay,Ay⟩,Ci AA AA ?_⟩;have:=o (q+1) AA (by simpa using b);simpa using this
  | false=>
   rw[FX,m] at b;simpa[QP,QI] using b
def ZO {l:Ϝ} (j:F l<2 ^ 60):Ah (env R) 138 [SS l] λr=>r=BB (NB l):=by
 have ev:Ah (env R) 156 [SS l,.func (.func 157) [] []] λr=>r=BB (l.all λc=>!((c.toNat:Int)==45)&&Q7 c.toNat):=by
  refine AWQ (u0:=SS l) (u1:=.func (.func 157) [] []) AD (AFl ?_);exact jC j T6 (F l) 0 AA AD
 refine AWR (u0:=SS l) AD (AFm ?_);cases l with
 | nil=>simp[QP,QI,NB]
 | cons c l=>
  by_cases d:F (c::l)<=24
  .have f:((F (c::l):Nat):Int)<=24:=by omega
   have b:((F l:Int)+1<=24):=by simpa using f
   simp[b,XA];refine AI (R6 c.toNat) ?_;rintro v rfl;cases e:isLet c.toNat with
   | false=>simp[QP,QI,NB,e]
   | true=>
    simp;refine AI ev ?_;rintro v rfl;have:F l+1<=24:=by simpa using d
    simp[QP,QI,NB,e,this]
  .have b:¬ ((F l:Int)+1<=24):=by simp at d; omega
   have:¬ (F l+1<=24):=by simpa using d
   simp[QP,QI,b,NB,this]
def bl {l:Ϝ} (t:F l<2 ^ 60) {Post:AV->Prop} :
  ∀(j q:Nat),q+j=F l->Post (BB ((l.drop q).all λc=>!((c.toNat:Int)==45)&&Q7 c.toNat))->s7 R 0 0 0 (SS l) (AG q) ⟨[],[]⟩ (QP Post):=by
 intro j
 induction j with
 | zero=>
  intro q r b;refine s8 ?_;have f:¬ ((q:Int)<F l):=AA;simp[f];refine AFn ?_;have s:l.drop q=[]:=CR AA;rw[s] at b;simpa[QP,QI] using b
 | succ j p=>
  intro q r b;refine s8 ?_;have f:((q:Int)<F l):=AA;have⟨c,m⟩:∃c,l[q]?=Y c:=⟨_,Az AA⟩;rw[drop_cons m] at b;simp[f];refine AFo ?_;refine⟨AA,c,by simpa using m,?_⟩;refine AI (T5 c.toNat) ?_;rintro v rfl;cases o:Q7 c.toNat with
  | false=>
   rw[FX,o,Sr,HB] at b;simpa[QP,QI] using b
  | true=>
   rw[FX,o,Hj] at b;simp;refine⟨AA,c,by simpa using m,?_⟩
   by_cases d:((c.toNat:Int)=45)
   .have e:((c.toNat:Int)==45)=true:=by simpa using d
    rw[e,Nj,HB] at b;simp[QP,QI];exact⟨λ_=>b,λh=>absurd d h⟩
   .have e:((c.toNat:Int)==45)=false:=by simpa using d
    rw[e,PW,Cm] at b;simp;refine⟨λh=>absurd h d,λ_=>AFp ?_⟩;simp only[Dh];refine⟨⟨Ay,Ay⟩,Ci AA AA ?_⟩;have:=p (q+1) AA (by simpa using b);simpa using this
def bn {l:Ϝ} (j:F l<2 ^ 60):Ah (env R) 108 [SS l] λr=>r=BB (NB l):=by
 refine AWS (u0:=SS l) AD (AFq ?_);cases l with
 | nil=>simp[QP,QI,NB]
 | cons c l=>
  have d:¬ ((F l:Int)+1<1):=AA
  by_cases e:F l+1<=24
  .have b:¬ (24<(F l:Int)+1):=by omega
   simp[d,b,XA];refine AI (P0 c.toNat) ?_;rintro v rfl;cases f:isLet c.toNat with
   | false=>simp[QP,QI,NB,f]
   | true=>
    simp;refine AFr ?_;refine bl j (F (c::l)) 0 AA ?_;simp[NB,f,e]
  .have b:(24<(F l:Int)+1):=by omega
   simp[QP,QI,d,b,NB,e]
def ZP {l:Ϝ}:Ah (env R) 109 [SS l] λr=>r=BB (Ml.contains l):=by
 refine AWT (u0:=SS l) AD (AFs ?_)
 by_cases d:l=[65,110,121]
 .subst d; simp[QP,QI,Ml]
 by_cases e:l=[78,101,118,101,114]
 .subst e; simp[QP,QI,Ml]
 by_cases f:l=[116,117,112,108,101]
 .subst f; simp[QP,QI,Ml]
 by_cases j:l=[117,110,105,111,110]
 .subst j; simp[QP,QI,Ml]
 by_cases m:l=[101,120,105,115,116,115]
 .subst m; simp[QP,QI,Ml]
 have o:(l==[65,110,121])=false:=by simpa using d
 have p:(l==[78,101,118,101,114])=false:=by simpa using e
 have s:(l==[116,117,112,108,101])=false:=by simpa using f
 have t:(l==[117,110,105,111,110])=false:=by simpa using j
 have u:(l==[101,120,105,115,116,115])=false:=by simpa using m
 have b:Ml.contains l=false:=by simp[Ml,d,e,f,j,m]
 simp[-beq_iff_eq,-beq_eq_false_iff_ne,-List.contains_eq_mem,QP,QI,b,o,p,s,t,u]
def FB (l:List Ϝ):Ϯ:=l.map λs=>[.sc (.string ⟨s.toArray⟩)]
def bp (l:List Ϝ):F (FB l)=F l:=by simp[FB]
def bq {l:List Ϝ} {i:Nat} {n:Ϝ} (h:l[i]?=Y n):(FB l)[i]?=Y [.sc (.string ⟨n.toArray⟩)]:=by simp[FB,h]
def jD {l:List Ϝ} {w:Ϝ} {y:AV} (o:A3 y (FB l)) (s:F l<2 ^ 60) {Post:AV->Prop} :
  ∀(j q:Nat),q+j=F l->(∀i:Int,decide (0<=i)=(l.drop q).contains w->Post (AG i))->s9 R 0 0 0 y (SS w) (AG (F l)) (AG q) ⟨[],[]⟩ (QP Post):=by
 intro j
 induction j with
 | zero=>
  intro q p b;refine tA ?_;have d:¬ ((q:Int)<F l):=AA;simp[d];refine AFt ?_;have r:l.drop q=[]:=CR AA;rw[r] at b;have:=b (-1) AD;simpa[QP,QI] using this
 | succ j m=>
  intro q p b;refine tA ?_;have d:((q:Int)<F l):=AA;have⟨t,f⟩:∃t,l[q]?=Y t:=⟨_,Az AA⟩;rw[drop_cons f] at b;simp[d];refine AFu ?_;refine BL o (row:=[.sc (.string ⟨t.toArray⟩)]) AA (by simpa using bq f) rfl AA ?_
  by_cases e:w=t
  .subst e
   have:=b q AD;simpa[QP,QI] using this
  .simp[e]
   refine AFv ?_;simp only[Dh];refine⟨⟨Ay,Ay⟩,Ci AA AA ?_⟩;have:=m (q+1) AA (λi h=>b i (by rw[h]; simp[e]));simpa using this
def T7 {l:List Ϝ} {w:Ϝ} {y:AV} (b:A3 y (FB l)) (d:F l<2 ^ 60):Ah (env R) 139 [y,SS w] λr=>r=BB (l.contains w):=by
 have e:Ah (env R) 159 [y,SS w] λr=>∃i:Int,r=AG i/\decide (0<=i)=l.contains w:=by
  refine AWU (u0:=y) (u1:=SS w) (by simp[b.close]) (AFw ?_);simp[b.BG,bp];exact jD b d (F l) 0 AA (λi h=>⟨i,rfl,by simpa using h⟩)
 refine AWV (u0:=y) (u1:=SS w) (by simp[b.close]) (AFx ?_);refine AI e ?_;rintro v ⟨i,rfl,h⟩;simp only[Dh];refine⟨⟨Ay,Ay⟩,_,GG,?_⟩;rw[<-h]
end
def T8:Ϣ->Bool
 | []=>ϴ
 | t::_=>CJ 0 t
def shape (k:Int) (n:Ϝ) (i:Int) (ts:Ϣ):Bool:=
 bif k==0||k==1 then F ts==0
 else bif k==2 then NB n&&!Ml.contains n&&decide (F ts<=6)&&Eo ts
 else bif k==3 then decide (F ts<=6)
 else bif k==4 then decide (2<=F ts)
 else bif k==5 then F ts==0&&decide (0<=i)&&decide (i<=200)
 else bif k==6 then F ts==2&&T8 ts
 else ϴ
def root (k:Int) (n:Ϝ) (i:Int) (ts:Ϣ):Bool:=(k==2||n==[])&&(k==5||i==0)&&shape k n i ts
mutual
def A2:Ty->Bool
 | .mk k n i ts=>root k n i ts&&BO ts
def BO:Ϣ->Bool
 | []=>Z
 | t::l=>A2 t&&BO l
end
def Tu (n:Ϝ):Prop:=F n<2 ^ 60
mutual
def ZQ:Ty->Prop
 | .mk _ n _ ts=>Tu n/\SV ts
def SV:Ϣ->Prop
 | []=>True
 | t::l=>ZQ t/\SV l
end
section
variable {R:Nat->Option Ϧ}
def AFy:(env R).G 2=Y (FE Ml):=rfl
def o7:FE Ml=[.list (FB Ml)]:=rfl
section
variable {k i:Int} {n:Ϝ} {ts:Ϣ} {a:AV} {Post:AV->Prop}
theorem sh0 (b:A3 a (Aj ts)) (d:Post (BB (F ts==0))):NC R 0 0 0 (.ptr 0 0) (AG k) (BB Z) ⟨[[AG k,SS n,AG i,a]],[]⟩ (QP Post):=by
 refine O2 ⟨λ_=>?_,AD⟩;have e:((F ts:Int)==0)=(F ts==0):=AB;simpa[-beq_iff_eq,-beq_eq_false_iff_ne,QP,QI,b.BG,Ae,e] using d
theorem sh2 (e:A3 a (Aj ts)) (hs:Ak ts<2 ^ 38) (hn:Tu n) (b:Post (BB (NB n&&!Ml.contains n&&decide (F ts<=6)&&Eo ts))) :
  NC R 0 0 0 (.ptr 0 0) (AG 2) (BB ϴ) ⟨[[AG 2,SS n,AG i,a]],[]⟩ (QP Post):=by
 have m:=Bl ts;refine O2 ⟨AD,λ_=>⟨⟨rfl,rfl⟩,⟨λ_=>?_,AD⟩⟩⟩;simp only[Hr,MD,Ir,JL,EK,E3,Ee,wO,setCells,Hw,EX,Dd,Co,Ex,alive,Dh,Jf,Qk,bU,Gq,Iu,Gl,Hs,K9,Iv,gX,fY,okB,gY,gZ,gh,gi,gj,ag,gm,gp,gu,gv,gw,gx,gy,gz,hG,hJ,hO,okF,hY,iA,iB,iC,iD,Tu,iE,Ow,Ox,Oy,Oz,iG,iH,iI,iJ,iK,iL,iM,iP,iQ,iR,GG,iT,fZ,iU,iV,iW,iX,iY,iZ,ia,ic,ie,ig,C0];simp only[JS,Ia,CP,CY,HA];refine⟨Ay,AI (ZO hn) ?_⟩;rintro v rfl;cases f:NB n with
 | false=>
  rw[f] at b;simpa[QP,QI] using b
 | true=>
  simp[AFy,o7];refine AI (T7 (.list _) (by simp[Ml])) ?_;rintro v rfl;cases l:Ml.contains n with
  | true=>
   simp_all[QP]
  | false=>
   rw[f,l] at b
   by_cases j:F ts<=6
   .have d:((F ts:Int)<=6):=by omega
    rw[Ax j] at b;simp[e.BG,Ae,d];refine AI (NA 2 n i ts hs a e) ?_
    simp_all[QP]
   .have d:¬ ((F ts:Int)<=6):=by omega
    rw[A5 j] at b;simpa[QP,QI,e.BG,Ae,d] using b
theorem sh3 (b:A3 a (Aj ts)) (d:Post (BB (decide (F ts<=6)))):NC R 0 0 0 (.ptr 0 0) (AG 3) (BB ϴ) ⟨[[AG 3,SS n,AG i,a]],[]⟩ (QP Post):=by
 refine O2 ⟨AD,λ_=>⟨⟨rfl,rfl⟩,⟨AD,λ_=>⟨⟨rfl,rfl⟩,⟨λ_=>?_,AD⟩⟩⟩⟩⟩;have e:decide ((F ts:Int)<=6)=decide (F ts<=6):=AB;simpa[-decide_eq_true_eq,QP,QI,b.BG,Ae,e] using d
theorem sh4 (b:A3 a (Aj ts)) (d:Post (BB (decide (2<=F ts)))):NC R 0 0 0 (.ptr 0 0) (AG 4) (BB ϴ) ⟨[[AG 4,SS n,AG i,a]],[]⟩ (QP Post):=by
 refine O2 ⟨AD,λ_=>⟨⟨rfl,rfl⟩,⟨AD,λ_=>⟨⟨rfl,rfl⟩,⟨AD,λ_=>⟨⟨rfl,rfl⟩,⟨λ_=>?_,AD⟩⟩⟩⟩⟩⟩⟩;have e:decide (2<=(F ts:Int))=decide (2<=F ts):=AB;simpa[-decide_eq_true_eq,QP,QI,b.BG,Ae,e] using d
theorem sh5 (b:A3 a (Aj ts)) (d:Post (BB (F ts==0&&decide (0<=i)&&decide (i<=200)))):NC R 0 0 0 (.ptr 0 0) (AG 5) (BB ϴ) ⟨[[AG 5,SS n,AG i,a]],[]⟩ (QP Post):=by
 refine O2 ⟨AD,λ_=>⟨⟨rfl,rfl⟩,⟨AD,λ_=>⟨⟨rfl,rfl⟩,⟨AD,λ_=>⟨⟨rfl,rfl⟩,⟨AD,λ_=>⟨⟨rfl,rfl⟩,⟨λ_=>?_,AD⟩⟩⟩⟩⟩⟩⟩⟩⟩;cases ts with
 | cons t l=>
  have m:¬ ((F l:Int)+1=0):=AA;have j:((F l:Int)+1==0)=false:=AX;simpa[-beq_iff_eq,-beq_eq_false_iff_ne,QP,QI,b.BG,Ae,j] using d
 | nil=>
  by_cases e:0<=i
  .by_cases f:i<=200
   .simpa[QP,QI,b.BG,Ae,e,f] using d
   .simpa[QP,QI,b.BG,Ae,e,f] using d
  .simpa[QP,QI,b.BG,Ae,e] using d
theorem sh6 (d:A3 a (Aj ts)) (hs:Ak ts<2 ^ 38) (e:Post (BB (F ts==2&&T8 ts))):NC R 0 0 0 (.ptr 0 0) (AG 6) (BB ϴ) ⟨[[AG 6,SS n,AG i,a]],[]⟩ (QP Post):=by
 refine O2 ⟨AD,λ_=>⟨⟨rfl,rfl⟩,⟨AD,λ_=>⟨⟨rfl,rfl⟩,⟨AD,λ_=>⟨⟨rfl,rfl⟩,⟨AD,λ_=>⟨⟨rfl,rfl⟩,⟨AD,λ_=>⟨⟨rfl,rfl⟩,⟨λ_=>?_,AD⟩⟩⟩⟩⟩⟩⟩⟩⟩⟩⟩
 by_cases c:F ts=2
 .have j:((F ts:Int)=2):=by omega
  obtain⟨t,l,rfl⟩:∃t l,ts=t::l:=by
   cases ts with
   | nil=>grind
   | cons t l=>simp
  simp only[Ak] at hs;have e3:Ah (env R) 141 [.agg ((Av t).map .pv),AG 0] λr=>r=BB (CJ 0 t):=M9 t AA 0 AA _ (BD.Bo t)
  have o:Post (BB (CJ 0 t)):=by grind[T8]
  have f:((F l:Int)+1=2):=AB;simp[d.BG,Ae,f];refine BL d (row:=Av t) AA AX (Aq t) AA ?_;obtain⟨p,s,x,u⟩:=t;simp only[Av,CH,DC] at e3;simp[Av];refine AI e3 ?_;simp[*,QP]
 .have j:¬ ((F ts:Int)=2):=by omega
  have b:(F ts==2)=false:=AB;rw[b] at e;have m:((F ts:Int)==2)=false:=AB;simpa[-beq_iff_eq,-beq_eq_false_iff_ne,QP,QI,d.BG,Ae,m] using e
theorem sh7 (d:¬ k=2) (e:¬ k=3) (f:¬ k=4) (j:¬ k=5) (l:¬ k=6) (b:Post (BB ϴ)):NC R 0 0 0 (.ptr 0 0) (AG k) (BB ϴ) ⟨[[AG k,SS n,AG i,a]],[]⟩ (QP Post):=by
 refine O2 ⟨AD,λ_=>⟨⟨rfl,rfl⟩,⟨AB,λ_=>⟨⟨rfl,rfl⟩,⟨AB,λ_=>⟨⟨rfl,rfl⟩,⟨AB,λ_=>⟨⟨rfl,rfl⟩,⟨AB,λ_=>⟨⟨rfl,rfl⟩,⟨AB,λ_=>AFz ?_⟩⟩⟩⟩⟩⟩⟩⟩⟩⟩⟩;exact⟨_,GG,b⟩
theorem MH (e:A3 a (Aj ts)) (hs:Ak ts<2 ^ 38) (hn:Tu n) (f:Post (BB (shape k n i ts))):tB R 0 0 0 (.ptr 0 0) ⟨[[AG k,SS n,AG i,a]],[]⟩ (QP Post):=by
 refine AF0 ?_
 by_cases b:k=0
 .subst b
  simp
  grind[sh0,shape]
 by_cases d:k=1
 .subst d
  simp
  grind[sh0,shape]
 have j:(k==0)=false:=AB;have l:(k==1)=false:=AB;simp[b]
 grind[sh2,shape,sh3,sh4,sh5,sh6,sh7]
end
def T9 {k i:Int} {n:Ϝ} {ts:Ϣ} {a:AV} (d:A3 a (Aj ts)) (hs:Ak ts<2 ^ 38) (hn:Tu n):Ah (env R) 116 [.agg [AG k,SS n,AG i,a]] λr=>r=BB (root k n i ts):=by
 suffices H:∀Post:AV->Prop,Post (BB (root k n i ts))->tC R 0 0 0 (.agg [AG k,SS n,AG i,a]) ⟨[],[]⟩ (QP Post) from
  AWW (u0:=.agg [AG k,SS n,AG i,a]) (by simp[d.close]) (H _ rfl)
 intro Post b;refine AF1 ?_;unfold root at b;cases l:(k==2) with
 | true=>
  have e:k=2:=AB;subst e
  by_cases f:i=0
  .subst f
   simp[d.ok]
   grind[MH]
  .have j:(i==0)=false:=by grind
   rw[j] at b;simpa[QP,QI,d.ok,f,bne,j] using b
 | false=>
  have e:¬ k=2:=AB;rw[l] at b
  by_cases o:n=[]
  .subst o
   cases m:(k==5) with
   | true=>
    have e5:k=5:=AB;subst e5;simp[d.ok]
    grind[MH]
   | false=>
    have e5:¬ k=5:=AB;rw[m] at b
    by_cases f:i=0
    .subst f
     simp[d.ok,e,e5,bne,l,m]
     grind[MH]
    .have j:(i==0)=false:=by grind
     rw[j] at b;simpa[QP,QI,d.ok,e,e5,f,bne,l,m,j] using b
  .have p:(n==[])=false:=by grind
   rw[p] at b;simpa[QP,QI,d.ok,e,o,bne,l,p] using b
end
def DJ (t:Ty):Int:=bif decide (200<AP t)||decide (12<Al t) then 4 else bif A2 t then 0 else 2
section
variable {R:Nat->Option Ϧ}
mutual
def Mi:∀(t:Ty),AP t<2 ^ 38->ZQ t->∀(x:AV),BD t x->Ah (env R) 86 [x] λr=>r=BB (A2 t)
 | .mk k n i ts,h,d,x,hx=>by
  obtain⟨a,rfl,b⟩:=hx;simp only[AP] at h;simp only[ZQ] at d;have f:=LZ ts AA d.2;refine e86 (u0:=.agg [AG k,SS n,AG i,a]) (by simp[b.close]) (AMF ?_);simp[b.ok];refine AI (T9 b AA d.1) ?_;rintro v rfl;cases j:root k n i ts with
  | false=>simp[*,QP,A2]
  | true=>
   have hf:∀t∈ts,Ah (env R) 117 [.agg ((Av t).map .pv)] λr=>r=BB (!A2 t):=by
    intro t m;have e:=f t m;refine AWX (by cases t; rfl) (AF2 ?_);obtain⟨o,p,x,s⟩:=t;simp only[Av,CH,DC] at e;simp[Av];refine AI e ?_;simp[*,QP]
   simp;refine AI (OZ b AA hf) ?_;rintro v rfl
   have:(!ts.any λt=>!A2 t)=BO ts:=by
    clear f hf b h j d
    induction ts with
    | nil=>rfl
    | cons t l f=>grind[BO]
   simp[*,QP,A2]
def LZ:∀(l:Ϣ),Ak l<2 ^ 38->SV l->∀t∈l,Ah (env R) 86 [.agg ((Av t).map .pv)] λr=>r=BB (A2 t)
 | [],_,_,_,h=>by cases h
 | e::l,d,b,a,h=>by
  simp only[Ak] at d;simp only[SV] at b;rcases BF.1 h with h' | h'
  .rw[h']
   exact Mi e AA b.1 _ (BD.Bo e)
  .exact LZ l AA b.2 a h'
end
section
variable {k i:Int} {n:Ϝ} {ts:Ϣ} {a:AV} {Post:AV->Prop}
def zZ (m:A3 a (Aj ts)) (B:Ak ts<2 ^ 38) (o:∀t∈ts,Ah (env R) 73 [.agg ((Av t).map .pv)] λr=>r=BB (A2 t)) :
  ∀(j q:Nat),q+j=F ts->Post (BB (BO (ts.drop q)))->ABd R 0 0 0 (.ptr 0 0) (AG (F ts)) (AG q) ⟨[[AG k,SS n,AG i,a]],[]⟩ (QP Post):=by
 have A:=Bl ts;intro j
 induction j with
 | zero=>
  intro q p b;refine ABe ?_;have d:¬ ((q:Int)<F ts):=AA;simp[d];refine AMG ?_
  simp_all[QP,BO]
 | succ j l=>
  intro q p b;refine ABe ?_;have d:((q:Int)<F ts):=AA;have⟨t,e⟩:∃t,ts[q]?=Y t:=⟨_,Az AA⟩;have s:=drop_cons e;rw[s] at b;simp only[BO] at b;simp[d];refine AMH ?_;simp;refine BL m (row:=Av t) AA (by simp[*,BK]) (Aq t) AA ?_;have e3:=o t (A8 e);cases f:A2 t with
  | true=>
   rw[f] at e3 b;obtain⟨u,y,x,z⟩:=t;simp only[Av,CH,DC] at e3;simp[Av];refine AI e3 ?_;rintro v rfl;simp;refine AF3 ?_;simp only[Dh];refine⟨⟨Ay,Ay⟩,Ci AA AA ?_⟩;have:=l (q+1) AA (by simpa using b);simpa using this
  | false=>
   rw[f] at e3 b;obtain⟨u,y,x,z⟩:=t;simp only[Av,CH,DC] at e3;simp[Av];refine AI e3 ?_
   simp_all[QP]
theorem S8 (b:A3 a (Aj ts)) (d:Ak ts<2 ^ 38) (e:∀t∈ts,Ah (env R) 73 [.agg ((Av t).map .pv)] λr=>r=BB (A2 t)) (f:Post (BB (BO ts))) :
  ABf R 0 0 0 (.ptr 0 0) (AG (F ts)) ⟨[[AG k,SS n,AG i,a]],[]⟩ (QP Post):=
 AMI (zZ b d e (F ts) 0 AA AB)
def tD (l:A3 a (Aj ts)) (m:Ak ts<2 ^ 38) (B:∀t∈ts,Ah (env R) 73 [.agg ((Av t).map .pv)] λr=>r=BB (A2 t)) :
  ∀(j q:Nat),q+j=F ts->Post (BB (Eo (ts.drop q)&&BO ts))->ABg R 0 0 0 (.ptr 0 0) (AG (F ts)) (AG q) ⟨[[AG k,SS n,AG i,a]],[]⟩ (QP Post):=by
 have A:=Bl ts;intro j
 induction j with
 | zero=>
  intro q o b;refine ABh ?_
  simp_all[S8,Eo]
 | succ j f=>
  intro q o b;refine ABh ?_;have p:((q:Int)<F ts):=AA;have⟨t,d⟩:∃t,ts[q]?=Y t:=⟨_,Az AA⟩;have s:=drop_cons d;rw[s] at b;simp only[Eo] at b;simp[p];refine AMJ ?_;simp;refine BL l (row:=Av t) AA (by simp[*,BK]) (Aq t) AA ?_;have e3:=MG (R:=R) ts m t (A8 d);cases e:plain t with
  | true=>
   rw[e] at e3 b;obtain⟨u,y,x,z⟩:=t;simp only[Av,CH,DC] at e3;simp[Av];refine AI e3 ?_;rintro v rfl;simp;refine AF4 ?_;simp only[Dh];refine⟨⟨Ay,Ay⟩,Ci AA AA ?_⟩;have:=f (q+1) AA (by simpa using b);simpa using this
  | false=>
   rw[e] at e3 b;obtain⟨u,y,x,z⟩:=t;simp only[Av,CH,DC] at e3;simp[Av];refine AI e3 ?_
   simp_all[QP]
def wf0 (d:Post (BB (F ts==0&&BO ts))):R7 R 0 0 0 (.ptr 0 0) (AG (F ts)) (AG k) (BB Z) ⟨[[AG k,SS n,AG i,a]],[]⟩ (QP Post):=by
 refine UA ⟨λ_=>?_,AD⟩;cases ts with
 | nil=>simp_all[QP,BO]
 | cons t l=>
  have b:((F l:Int)+1==0)=false:=AX;simpa[-beq_iff_eq,-beq_eq_false_iff_ne,QP,QI,b] using d
theorem wf5 (d:Post (BB (F ts==0&&decide (0<=i)&&decide (i<=200)&&BO ts))):R7 R 0 0 0 (.ptr 0 0) (AG (F ts)) (AG 5) (BB ϴ) ⟨[[AG 5,SS n,AG i,a]],[]⟩ (QP Post):=by
 refine UA ⟨AD,λ_=>⟨⟨rfl,rfl⟩,⟨λ_=>?_,AD⟩⟩⟩;cases ts with
 | cons t l=>
  have b:((F l:Int)+1==0)=false:=AX;simpa[-beq_iff_eq,-beq_eq_false_iff_ne,QP,QI,b] using d
 | nil=>
  by_cases e:0<=i
  .by_cases f:i<=200
   .simp_all[QP,BO]
   .simpa[QP,QI,e,f,BO] using d
  .simpa[QP,QI,e,BO] using d
theorem wf2 (e:A3 a (Aj ts)) (f:Ak ts<2 ^ 38) (hn:Tu n) (j:∀t∈ts,Ah (env R) 73 [.agg ((Av t).map .pv)] λr=>r=BB (A2 t))
  (d:Post (BB (NB n&&!Ml.contains n&&decide (F ts<=6)&&Eo ts&&BO ts))):R7 R 0 0 0 (.ptr 0 0) (AG (F ts)) (AG 2) (BB ϴ) ⟨[[AG 2,SS n,AG i,a]],[]⟩ (QP Post):=by
 refine UA ⟨AD,λ_=>⟨⟨rfl,rfl⟩,⟨AD,λ_=>⟨⟨rfl,rfl⟩,⟨λ_=>?_,AD⟩⟩⟩⟩⟩;simp only[Hr,MD,Ir,JL,EK,E3,Ee,wO,setCells,Hw,EX,Dd,Co,Ex,alive,Dh,Jf,Qk,bU,Gq,Iu,Gl,Hs,K9,Iv,gX,fY,okB,gY,gZ,gh,gi,gj,ag,gm,gp,gu,gv,gw,gx,gy,gz,hG,hJ,hO,okF,hY,iA,iB,iC,iD,Tu,iE,Ow,Ox,Oy,Oz,iG,iH,iI,iJ,iK,iL,iM,iP,iQ,iR,GG,iT,fZ,iU,iV,iW,iX,iY,iZ,ia,ic,ie,ig,C0];simp only[JS,Ia,CP,CY,HA];refine⟨Ay,AI (bn hn) ?_⟩;rintro v rfl;cases l:NB n with
 | false=>
  simp_all[QP]
 | true=>
  simp;refine AI ZP ?_;rintro v rfl;cases m:Ml.contains n with
  | true=>
   simp_all[QP]
  | false=>
   rw[l,m] at d
   by_cases o:F ts<=6
   .have b:¬ (6<(F ts:Int)):=by omega
    rw[Ax o] at d;simp[b];exact AMK (tD e f j (F ts) 0 AA AB)
   .have b:(6<(F ts:Int)):=by omega
    simp_all[QP]
theorem wf3 (e:A3 a (Aj ts)) (f:Ak ts<2 ^ 38) (j:∀t∈ts,Ah (env R) 73 [.agg ((Av t).map .pv)] λr=>r=BB (A2 t)) (d:Post (BB (decide (F ts<=6)&&BO ts))) :
  R7 R 0 0 0 (.ptr 0 0) (AG (F ts)) (AG 3) (BB ϴ) ⟨[[AG 3,SS n,AG i,a]],[]⟩ (QP Post):=by
 refine UA ⟨AD,λ_=>⟨⟨rfl,rfl⟩,⟨AD,λ_=>⟨⟨rfl,rfl⟩,⟨AD,λ_=>⟨⟨rfl,rfl⟩,⟨λ_=>?_,AD⟩⟩⟩⟩⟩⟩⟩
 by_cases c:F ts<=6
 .have b:¬ (6<(F ts:Int)):=by omega
  rw[Ax c] at d;simp[b]
  grind[S8]
 .have b:(6<(F ts:Int)):=by omega
  simp_all[QP]
theorem wf4 (e:A3 a (Aj ts)) (f:Ak ts<2 ^ 38) (j:∀t∈ts,Ah (env R) 73 [.agg ((Av t).map .pv)] λr=>r=BB (A2 t)) (d:Post (BB (decide (2<=F ts)&&BO ts))) :
  R7 R 0 0 0 (.ptr 0 0) (AG (F ts)) (AG 4) (BB ϴ) ⟨[[AG 4,SS n,AG i,a]],[]⟩ (QP Post):=by
 refine UA ⟨AD,λ_=>⟨⟨rfl,rfl⟩,⟨AD,λ_=>⟨⟨rfl,rfl⟩,⟨AD,λ_=>⟨⟨rfl,rfl⟩,⟨AD,λ_=>⟨⟨rfl,rfl⟩,⟨λ_=>?_,AD⟩⟩⟩⟩⟩⟩⟩⟩⟩
 by_cases c:2<=F ts
 .have b:¬ ((F ts:Int)<2):=by omega
  rw[Ax c] at d;simp[b]
  grind[S8]
 .have b:((F ts:Int)<2):=by omega
  simp_all[QP]
theorem wf6 (f:A3 a (Aj ts)) (j:Ak ts<2 ^ 38) (p:∀t∈ts,Ah (env R) 73 [.agg ((Av t).map .pv)] λr=>r=BB (A2 t)) (e:Post (BB (F ts==2&&T8 ts&&BO ts))) :
  R7 R 0 0 0 (.ptr 0 0) (AG (F ts)) (AG 6) (BB ϴ) ⟨[[AG 6,SS n,AG i,a]],[]⟩ (QP Post):=by
 refine UA ⟨AD,λ_=>⟨⟨rfl,rfl⟩,⟨AD,λ_=>⟨⟨rfl,rfl⟩,⟨AD,λ_=>⟨⟨rfl,rfl⟩,⟨AD,λ_=>⟨⟨rfl,rfl⟩,⟨AD,λ_=>⟨⟨rfl,rfl⟩,⟨λ_=>?_,AD⟩⟩⟩⟩⟩⟩⟩⟩⟩⟩⟩
 by_cases c:F ts=2
 .obtain⟨t,l,rfl⟩:∃t l,ts=t::l:=by
   cases ts with
   | nil=>grind
   | cons t l=>simp
  have o:=j;simp only[Ak] at o;have e3:Ah (env R) 48 [.agg ((Av t).map .pv)] λr=>r=BB (CJ 0 t):=JE AA (BD.Bo t)
  have d:Post (BB (CJ 0 t&&BO (t::l))):=by
   rw[show F (t::l)==2 by grind] at e;simpa[T8] using e
  have b:((F (t::l):Int) != 2)=false:=by
   rw[c]; rfl
  simp only[Hr,MD,Ir,JL,EK,E3,Ee,wO,setCells,Hw,EX,Dd,Co,Ex,alive,Dh,Jf,Qk,bU,Gq,Iu,Gl,Hs,K9,Iv,gX,fY,okB,gY,gZ,gh,gi,gj,ag,gm,gp,gu,gv,gw,gx,gy,gz,hG,hJ,hO,okF,hY,iA,iB,iC,iD,Tu,iE,Ow,Ox,Oy,Oz,iG,iH,iI,iJ,iK,iL,iM,iP,iQ,iR,GG,iT,fZ,iU,iV,iW,iX,iY,iZ,ia,ic,ie,ig,C0,b];refine⟨⟨Ay,Ay⟩,?_⟩;simp;refine BL f (row:=Av t) AA (by simp[Aj]) (Aq t) AA ?_;obtain⟨s,u,x,y⟩:=t;simp only[Av,CH,DC] at e3;simp[Av];refine AI e3 ?_;rintro v rfl;cases m:CJ 0 (.mk s u x y) with
  | false=>
   rw[m] at d;simpa[QP,QI] using d
  | true=>
   rw[m] at d;simp;have:=S8 (n:=n) (k:=6) (i:=i) f j p (by simpa using d)
   grind
 .have A:¬ ((F ts:Int)=2):=by omega
  have b:(F ts==2)=false:=AB;rw[b] at e;have z:((F ts:Int) != 2)=true:=AB;simpa[-bne_iff_ne,QP,QI,z] using e
theorem wf7 (d:¬ k=5) (e:¬ k=2) (f:¬ k=3) (j:¬ k=4) (l:¬ k=6) (b:Post (BB ϴ)):R7 R 0 0 0 (.ptr 0 0) (AG (F ts)) (AG k) (BB ϴ) ⟨[[AG k,SS n,AG i,a]],[]⟩ (QP Post):=by
 refine UA ⟨AD,λ_=>⟨⟨rfl,rfl⟩,⟨AB,λ_=>⟨⟨rfl,rfl⟩,⟨AB,λ_=>⟨⟨rfl,rfl⟩,⟨AB,λ_=>⟨⟨rfl,rfl⟩,⟨AB,λ_=>⟨⟨rfl,rfl⟩,⟨AB,λ_=>?_⟩⟩⟩⟩⟩⟩⟩⟩⟩⟩⟩;exact⟨_,GG,b⟩
theorem Q8 (f:A3 a (Aj ts)) (hs:Ak ts<2 ^ 38) (hn:Tu n) (j:∀t∈ts,Ah (env R) 73 [.agg ((Av t).map .pv)] λr=>r=BB (A2 t)) (l:Post (BB (shape k n i ts&&BO ts))) :
  ABi R 0 0 0 (.ptr 0 0) (AG (F ts)) ⟨[[AG k,SS n,AG i,a]],[]⟩ (QP Post):=by
 refine AML ?_
 by_cases b:k=0
 .simp_all[wf0,shape]
 by_cases m:k=1
 .simp_all[wf0,shape]
 have o:(k==0)=false:=AB;have d:(k==1)=false:=AB;simp[b];have e:(BB (k==1):AV)=BB false:=by rw[d]
 grind[wf2,shape,wf3,wf4,wf5,wf6,wf7]
end
end
abbrev ph (v:Nat):Ty:=.mk 7 [] v []
abbrev var (i:Int):Ty:=.mk 5 [] i []
def AW:Int:=1073741824
structure Br where
 AN:Ϣ
 AM:Ty
abbrev Ϥ:=List Br
def ah {α:Type} (d:α) (g:Ty->Ty->α):Ϣ->α
 | [b,e]=>g b e
 | _=>d
mutual
def Bq (f:Int->Ty):Ty->Ty
 | .mk k n i ts=>bif k==5 then f i else bif k==2||k==3 then .mk k n i (B4 f ts) else .mk k n i ts
def B4 (f:Int->Ty):Ϣ->Ϣ
 | []=>[]
 | t::l=>Bq f t::B4 f l
end
def HE (n:Nat):Ty->Ty:=Bq λi=>bif decide (0<=i)&&!(i==AW) then var (i+n) else var i
def o8:Ty->Ty:=Bq λi=>var (-1-i)
def Gm (n:Nat):Ty->Ty:=Bq λi=>bif i==-1 then var n else bif decide (i<0) then var (i+1) else var i
def Ht (n m:Int):Ty->Ty:=Bq λi=>bif i==n then var m else var i
mutual
def oA (p:Int->Bool):Ty->Bool
 | .mk k _ i ts=>bif k==5 then p i else k==2&&UB p ts
def UB (p:Int->Bool):Ϣ->Bool
 | []=>ϴ
 | t::l=>oA p t||UB p l
end
mutual
def oI (p:Int->Bool):Ty->Bool
 | .mk k n i ts=>bif k==2 then oA p (.mk k n i ts) else k==3&&KV p ts
def KV (p:Int->Bool):Ϣ->Bool
 | []=>ϴ
 | t::l=>oI p t||KV p l
end
mutual
def Af:Ty->Ϛ
 | .mk k _ i ts=>bif k==5 then [i] else bif k==3 then B5 ts else []
def B5:Ϣ->Ϛ
 | []=>[]
 | t::l=>Af t++B5 l
end
mutual
def Mn (b:Ty):Ty->Nat->Ty
 | .mk c n i ts,k=>bif c==5 then(bif k==0 then b else .mk c n i ts) else bif c==3 then .mk c n i (He b ts k) else .mk c n i ts
def He (b:Ty):Ϣ->Nat->Ϣ
 | [],_=>[]
 | t::l,k=>bif decide (k<F (Af t)) then Mn b t k::l else t::He b l (k-F (Af t))
end
def El (b:Ty):Option Nat:=(Af b).findIdx? (·==AW)
def CA (b:Br) (k:Nat) (c:Br):Br:=⟨b.AN++c.AN,Mn (HE (F b.AN) c.AM) b.AM k⟩
section
variable (A7:Nat->Bool)
def Fl {α β:Type} (g:α->Option (List β)):List α->List β->Option (List β)
 | [],b=>Y b
 | a::l,b=>match g a with
  | none=>G
  | some r=>bif A7 (F (b++r)) then G else Fl g l (b++r)
def DQ (l:Ϥ):Nat->Br->Option Ϥ
 | 0,b=>Y [b]
 | f+1,b=>match El b.AM with
  | none=>Y [b]
  | some k=>Fl A7 (λc=>DQ l f (CA b k c)) l []
def Dn (LA:Option Ϥ) (d:Ty) (b:Br):Option Ϥ:=
 bif oI (·==(F b.AN:Int)) (Gm (F b.AN) b.AM) then Y [⟨b.AN++[d],Gm (F b.AN) b.AM⟩]
 else match El (Ht (F b.AN) AW (Gm (F b.AN) b.AM)) with
  | none=>Y [⟨b.AN,Ht (F b.AN) AW (Gm (F b.AN) b.AM)⟩]
  | some _=>match LA with
   | none=>G
   | some l=>DQ A7 l (F (Af b.AM)) ⟨b.AN,Ht (F b.AN) AW (Gm (F b.AN) b.AM)⟩
def GU (out:Ϥ) (l:Ϥ):Ϥ:=out.flatMap λb=>l.map λc=>⟨b.AN++c.AN,match b.AM with
 | .mk _ _ _ d=>.mk 3 [] 0 (d++[HE (F b.AN) c.AM])⟩
def H7:List Ϥ->Ϥ->Option Ϥ
 | [],b=>Y b
 | l::d,b=>bif A7 (F (GU b l)) then G else H7 d (GU b l)
def FH {α:Type}:List (Option α)->Option (List α)
 | []=>Y []
 | none::_=>G
 | some a::l=>match FH l with
  | none=>G
  | some r=>Y (a::r)
def DR:Nat->Ty->Option Ϥ
 | 0,_=>G
 | f+1,.mk k n i ts=>
  bif k==0 then Y [⟨[],.mk k n i ts⟩]
  else bif k==2||k==5 then Y [⟨[],o8 (.mk k n i ts)⟩]
  else bif k==3 then match FH (ts.map (DR f)) with
   | none=>G
   | some d=>bif d.any List.isEmpty then Y [] else H7 A7 d [⟨[],.mk 3 [] 0 []⟩]
  else bif k==4 then match FH (ts.map (DR f)) with
   | none=>G
   | some d=>bif A7 (F d.flatten) then G else Y d.flatten
  else bif k==6 then ah (Y []) (λb e=>match DR f e with
    | none=>G
    | some l=>Fl A7 (Dn A7 (DR f b) b) l []) ts
  else Y []
mutual
def sub (v:Nat) (u:Nat):Ty->Ty
 | .mk k n i ts=>bif k==5 then(bif i==(u:Int) then ph v else bif decide ((u:Int)<i) then .mk k n (i-1) ts else .mk k n i ts) else .mk k n i (LB v u k 0 ts)
def LB (v:Nat) (u:Nat) (k:Int) (j:Nat):Ϣ->Ϣ
 | []=>[]
 | t::l=>sub v (u+Dz k j) t::LB v u k (j+1) l
end
mutual
def DZ (v:Nat) (inv:Bool):Ty->Bool
 | .mk k _ i ts=>bif k==7 then i==(v:Int)&&!inv else GV v (inv&&!(k==2)) ts
def GV (v:Nat) (inv:Bool):Ϣ->Bool
 | []=>ϴ
 | t::l=>DZ v inv t||GV v inv l
end
mutual
def Bi (m:Int->Bool):Ty->Nat
 | .mk k _ i ts=>bif k==7 then(bif m i then 1 else 0) else bif k==3 then Cz m ts else 0
def Cz (m:Int->Bool):Ϣ->Nat
 | []=>0
 | t::l=>Bi m t+Cz m l
end
mutual
def JM (m:Int->Bool) (b:Ty):Ty->Nat->Ty
 | .mk c n i ts,k=>bif c==7 then(bif m i&&k==0 then b else .mk c n i ts) else bif c==3 then .mk c n i (Ka m b ts k) else .mk c n i ts
def Ka (m:Int->Bool) (b:Ty):Ϣ->Nat->Ϣ
 | [],_=>[]
 | t::l,k=>bif decide (k<Bi m t) then JM m b t k::l else t::Ka m b l (k-Bi m t)
end
abbrev FT:=Option Ϣ×Ϣ
def Ce {α:Type} (g:α->Ϣ->FT):List α->Ϣ->Ϣ->FT
 | [],b,B=>(Y b,B)
 | a::l,b,B=>match g a B with
  | (G,B)=>(G,B)
  | (Y r,B)=>bif A7 (F (b++r)) then(G,B) else Ce g l (b++r) B
def CT (ex:Ϣ->FT) (v:Nat):Nat->Ty->Ϣ->FT
 | 0,t,B=>(Y [t],B)
 | f+1,t,B=>bif DZ v ϴ t then match ex B with
   | (G,B)=>(G,B)
   | (Y b,B)=>Ce A7 (λc B=>CT ex v f (JM (·==(v:Int)) c t 0) B) b [] B
  else(Y [t],B)
def Bw (ex:Ϣ->FT) (v:Nat) (t:Ty) (B:Ϣ):FT:=
 bif DZ v Z t then(Y [t],B) else CT A7 ex v (Bi (·==(v:Int)) t) t B
def Df:List Ϣ->List Ϣ->Option (List Ϣ)
 | [],b=>Y b
 | l::d,b=>bif A7 (F (b.flatMap λp=>l.map λx=>p++[x])) then G else Df d (b.flatMap λp=>l.map λx=>p++[x])
def G1 (ex:Ty->Ϣ->FT):Ϣ->Ϣ->Bool->Ϣ->(Ϣ×Bool)×Ϣ
 | [],b,ok,B=>((b,ok),B)
 | t::l,b,ok,B=>match ex t B with
  | (G,B)=>G1 ex l b ϴ B
  | (Y r,B)=>G1 ex l (b++r) ok B
def Ey (ex:Ty->Ϣ->FT):Ϣ->List Ϣ->Ϣ->Option (List Ϣ)×Ϣ
 | [],b,B=>(Y b,B)
 | t::l,b,B=>match ex t B with
  | (G,B)=>(G,B)
  | (Y r,B)=>Ey ex l (b++[r]) B
def BI:Nat->Ty->Ϣ->FT
 | 0,_,B=>(G,B)
 | f+1,.mk k n i ts,B=>
  bif k==0||k==2||k==7 then(bif A7 1 then G else Y [.mk k n i ts],B)
  else bif k==4 then match G1 (BI f) ts [] Z B with
   | ((d,ok),B)=>(bif ok&&!A7 (F d) then Y d else G,B)
  else bif k==3 then match Ey (BI f) ts [] B with
   | (G,B)=>(G,B)
   | (Y m,B)=>bif m.any List.isEmpty then(Y [],B) else match Df A7 m [[]] with
    | none=>(G,B)
    | some all=>(bif A7 (F all) then G else Y (all.map (.mk 3 [] 0)),B)
  else bif k==6 then ah (Y [],B) (λb o=>match BI f (sub (F B) 0 o) (B++[b]) with
    | (G,e)=>(G,e)
    | (Y l,e)=>match Ce A7 (Bw A7 (BI f b) (F B)) l [] e with
     | (G,j)=>(G,j)
     | (Y d,j)=>(bif A7 (F d) then G else Y d,j)) ts
  else(bif A7 0 then G else Y [],B)
end
mutual
def vis:Ty->Ϛ
 | .mk k _ i ts=>bif k==5 then [i] else bif k==2||k==3 then DU ts else []
def DU:Ϣ->Ϛ
 | []=>[]
 | t::l=>vis t++DU l
end
def P1 (t:Ty):Bool:=A2 t&&CJ 0 t
mutual
def pl:Ty->Bool
 | .mk k n i ts=>bif k==5 then n==[]&&ts.isEmpty else bif k==2 then WO ts else P1 (.mk k n i ts)
def WO:Ϣ->Bool
 | []=>Z
 | t::l=>pl t&&WO l
end
mutual
def bd:Ty->Bool
 | .mk k n i ts=>bif k==5 then n==[]&&ts.isEmpty else bif k==2 then WO ts else bif k==3 then ND ts else P1 (.mk k n i ts)
def ND:Ϣ->Bool
 | []=>Z
 | t::l=>bd t&&ND l
end
def lK {k i:Int} {n:Ϝ} {ts:Ϣ} (b:k≠6) (h:P1 (.mk k n i ts)=Z):∀t∈ts,P1 t=true:=by
 unfold P1 at h;simp only[AK,A2,CJ] at h;obtain⟨⟨_,d⟩,e⟩:=h;have f:De 0 k 0 ts=true:=AB;have k6:(k==6)=false:=AB;have hb:∀j,Dz k j=0:=λj=>by simp[Dz,k6]
 have:∀(l:Ϣ) (j:Nat),BO l=Z->De 0 k j l=Z->∀t∈l,P1 t=true:=by
  intro l
  induction l with
  | nil=>simp
  | cons a l m=>
   grind[BO,De,P1]
 grind
theorem UC {k i:Int} {n:Ϝ} {ts:Ϣ} (h:P1 (.mk k n i ts)=Z):k≠5/\k≠7:=by grind[P1,A2,CJ,root,shape]
mutual
theorem Hu:∀(t:Ty) (f:Int->Ty),P1 t=Z->Bq f t=t
 | .mk k n i ts,f,h=>by
  have j:=UC h;have e:(k==5)=false:=AB;rw[Bq,e];simp only[AL];cases b:(k==2||k==3) with
  | false=>rfl
  | true=>
   have d:k≠6:=AB;simp only[AQ];rw[br ts f (lK d h)]
theorem br:∀(l:Ϣ) (f:Int->Ty),(∀t∈l,P1 t=Z)->B4 f l=l
 | [],_,_=>rfl
 | t::l,f,h=>by
  rw[B4,Hu t f (h t AD),br l f λt b=>h t (C4 _ b)]
end
mutual
theorem UD:∀(t:Ty),P1 t=Z->vis t=[]
 | .mk k n i ts,h=>by
  have f:=UC h;have e:(k==5)=false:=AB;rw[vis,e];simp only[AL];cases b:(k==2||k==3) with
  | false=>rfl
  | true=>
   have d:k≠6:=AB;simp only[AQ];exact lM ts (lK d h)
theorem lM:∀(l:Ϣ),(∀t∈l,P1 t=Z)->DU l=[]
 | [],_=>rfl
 | t::l,h=>by
  rw[DU,UD t (h t AD),lM l λt b=>h t (C4 _ b)];rfl
end
mutual
def Gn (f:Int->Ty) (g:Int->Int):∀t:Ty,Bq f (Bq (λi=>var (g i)) t)=Bq (λi=>f (g i)) t
 | .mk k n i ts=>by
  rw[Bq,Bq];cases d:(k==5) with
  | true=>rfl
  | false=>
   cases b:(k==2||k==3) with
   | false=>grind[Bq]
   | true=>simp only[AL,AQ,Bq,d,b,UE f g ts]
def UE (f:Int->Ty) (g:Int->Int):∀l:Ϣ,B4 f (B4 (λi=>var (g i)) l)=B4 (λi=>f (g i)) l
 | []=>rfl
 | t::l=>by simp only[B4,Gn f g t,UE f g l]
end
mutual
theorem Cc {f g:Int->Ty}:∀(t:Ty),(∀i∈vis t,f i=g i)->Bq f t=Bq g t
 | .mk k n i ts,h=>by
  rw[Bq,Bq];rw[vis] at h;cases d:(k==5) with
  | true=>
   grind
  | false=>
   rw[d] at h;cases b:(k==2||k==3) with
   | false=>rfl
   | true=>
    rw[b] at h;simp only[AL,AQ] at h ⊢;rw[R8 ts h]
theorem R8 {f g:Int->Ty}:∀(l:Ϣ),(∀i∈DU l,f i=g i)->B4 f l=B4 g l
 | [],_=>rfl
 | t::l,h=>by
  simp only[DU,CU] at h;rw[B4,B4,Cc t λi b=>h i (.inl b),R8 l λi b=>h i (.inr b)]
end
mutual
def Jg (g:Int->Int):∀t:Ty,vis (Bq (λi=>var (g i)) t)=(vis t).map g
 | .mk k n i ts=>by
  rw[Bq,vis];cases d:(k==5) with
  | true=>rfl
  | false=>
   cases b:(k==2||k==3) with
   | false=>grind[vis]
   | true=>simp only[AL,AQ,vis,d,b,bt g ts]
def bt (g:Int->Int):∀l:Ϣ,DU (B4 (λi=>var (g i)) l)=(DU l).map g
 | []=>rfl
 | t::l=>by simp only[B4,DU,Jg g t,bt g l,Sl]
end
mutual
def Dp (g:Int->Int):∀t:Ty,Af (Bq (λi=>var (g i)) t)=(Af t).map g
 | .mk k n i ts=>by
  rw[Bq,Af];cases b:(k==5) with
  | true=>rfl
  | false=>
   cases d:(k==3) with
   | true=>simp only[AL,AQ,Af,b,d,Dx,XB g ts]
   | false=>
    grind[Af]
def XB (g:Int->Int):∀l:Ϣ,B5 (B4 (λi=>var (g i)) l)=(B5 l).map g
 | []=>rfl
 | t::l=>by simp only[B4,B5,Dp g t,XB g l,Sl]
end
mutual
def G2:∀(t:Ty),∀i∈Af t,i∈vis t
 | .mk k n i ts=>by
  rw[Af,vis];cases b:(k==5) with
  | true=>simp
  | false=>
   cases d:(k==3) with
   | true=>simpa using XC ts
   | false=>simp
def XC:∀(l:Ϣ),∀i∈B5 l,i∈DU l
 | []=>by simp[B5]
 | t::l=>by
  intro i hi;simp only[B5,DU,CU] at hi ⊢;rcases hi with hi|hi
  .exact .inl (G2 t i hi)
  .exact .inr (XC l i hi)
end
mutual
def tE (p:Int->Bool) (g:Int->Int):∀t:Ty,pl t=Z->oA p (Bq (λi=>var (g i)) t)=oA (λi=>p (g i)) t
 | .mk k n i ts,h=>by
  rw[Bq,oA];cases b:(k==5) with
  | true=>rfl
  | false=>
   cases d:(k==2) with
   | true=>
    rw[pl,b,d] at h;simp only[AL,AQ] at h;simp only[AL,AQ,oA,b,d,D6,Cm,lN p g ts h]
   | false=>
    grind[oA]
def lN (p:Int->Bool) (g:Int->Int):∀l:Ϣ,WO l=Z->UB p (B4 (λi=>var (g i)) l)=UB (λi=>p (g i)) l
 | [],_=>rfl
 | t::l,h=>by
  simp only[WO,AK] at h;simp only[B4,UB,tE p g t h.1,lN p g l h.2]
end
mutual
def cC {p q:Int->Bool}:∀t:Ty,(∀i∈vis t,p i=q i)->oA p t=oA q t
 | .mk k n i ts,h=>by
  rw[vis] at h;rw[oA,oA];cases b:(k==5) with
  | true=>grind
  | false=>
   rw[b] at h;cases d:(k==2) with
   | false=>simp
   | true=>
    rw[d] at h;simp only[AL,AQ,D6] at h ⊢;rw[XD ts h]
def XD {p q:Int->Bool}:∀l:Ϣ,(∀i∈DU l,p i=q i)->UB p l=UB q l
 | [],_=>rfl
 | t::l,h=>by
  simp only[DU,CU] at h;rw[UB,UB,cC t λi b=>h i (.inl b),XD l λi b=>h i (.inr b)]
end
mutual
theorem UF {p q:Int->Bool}:∀t:Ty,(∀i∈vis t,p i=q i)->oI p t=oI q t
 | .mk k n i ts,h=>by
  have e:=cC (.mk k n i ts) h;rw[vis] at h;rw[oI,oI];cases f:(k==2) with
  | true=>grind
  | false=>
   cases b:(k==3) with
   | false=>simp
   | true=>
    have d:(k==5)=false:=AB;rw[d,b] at h;simp only[AL,AQ,Dx] at h;simp only[AL,Cm];exact XE ts h
theorem XE {p q:Int->Bool}:∀l:Ϣ,(∀i∈DU l,p i=q i)->KV p l=KV q l
 | [],_=>rfl
 | t::l,h=>by
  simp only[DU,CU] at h;rw[KV,KV,UF t λi b=>h i (.inl b),XE l λi b=>h i (.inr b)]
end
mutual
def AF5 (g:Int->Int):∀t:Ty,pl t=Z->pl (Bq (λi=>var (g i)) t)=Z
 | .mk k n i ts,h=>by
  rw[Bq];cases b:(k==5) with
  | true=>rfl
  | false=>
   cases d:(k==2) with
   | true=>
    rw[pl,b,d] at h;simp only[AL,AQ] at h;simp only[AL,AQ,D6,pl,b,d,ZR g ts h]
   | false=>
    have f:P1 (.mk k n i ts)=true:=by grind[pl]
    have e:=Hu (.mk k n i ts) (λi=>var (g i)) f
    grind[Bq]
def ZR (g:Int->Int):∀l:Ϣ,WO l=Z->WO (B4 (λi=>var (g i)) l)=Z
 | [],_=>rfl
 | t::l,h=>by
  simp only[WO,AK] at h;simp only[B4,WO,AF5 g t h.1,ZR g l h.2,F0]
end
mutual
def O3 (g:Int->Int):∀t:Ty,bd t=Z->bd (Bq (λi=>var (g i)) t)=Z
 | .mk k n i ts,h=>by
  rw[Bq];cases b:(k==5) with
  | true=>rfl
  | false=>
   cases d:(k==2) with
   | true=>
    simp_all[bd,ZR]
   | false=>
    cases e:(k==3) with
    | true=>
     rw[bd,b,d,e] at h;simp only[AL,AQ] at h;simp only[AL,AQ,Dx,bd,b,d,e,lO g ts h]
    | false=>
     grind
def lO (g:Int->Int):∀l:Ϣ,ND l=Z->ND (B4 (λi=>var (g i)) l)=Z
 | [],_=>rfl
 | t::l,h=>by
  simp only[ND,AK] at h;simp only[B4,ND,O3 g t h.1,lO g l h.2,F0]
end
mutual
def jE (p:Int->Bool) (g:Int->Int):∀t:Ty,bd t=Z->oI p (Bq (λi=>var (g i)) t)=oI (λi=>p (g i)) t
 | .mk k n i ts,h=>by
  cases b:(k==2) with
  | true=>
   have e:k=2:=AB;subst e;have f:pl (.mk 2 n i ts)=true:=Bp;have:=tE p g (.mk 2 n i ts) f
   assumption
  | false=>
   rw[Bq,oI];cases j:(k==5) with
   | true=>
    grind[oI]
   | false=>
    cases d:(k==3) with
    | true=>
     rw[bd,j,b,d] at h;simp only[AL,AQ] at h;simp only[AL,AQ,Dx,oI,b,d,Cm,lQ p g ts h]
    | false=>grind[oI]
def lQ (p:Int->Bool) (g:Int->Int):∀l:Ϣ,ND l=Z->KV p (B4 (λi=>var (g i)) l)=KV (λi=>p (g i)) l
 | [],_=>rfl
 | t::l,h=>by
  simp only[ND,AK] at h;simp only[B4,KV,jE p g t h.1,lQ p g l h.2]
end
theorem HK {k i:Int} {n:Ϝ} {ts:Ϣ} (h:A2 (.mk k n i ts)=Z):k≠7:=by grind[A2,root,shape]
mutual
theorem MI (v:Nat):∀(t:Ty) (inv:Bool),A2 t=Z->DZ v inv t=ϴ
 | .mk k n i ts,inv,h=>by
  have b:(k==7)=false:=by grind[HK]
  simp only[A2,AK] at h;rw[DZ,b];simp only[AL];exact R9 v ts _ h.2
theorem R9 (v:Nat):∀(l:Ϣ) (inv:Bool),BO l=Z->GV v inv l=ϴ
 | [],_,_=>rfl
 | t::l,inv,h=>by
  simp only[BO,AK] at h;rw[GV,MI v t inv h.1,R9 v l inv h.2];rfl
end
theorem N1 {t:Ty} (h:P1 t=Z):A2 t=true:=by grind[P1]
section
variable (φ:Int->Nat)
abbrev tr (b:Ty):Ty:=Bq (λi=>ph (φ i)) b
abbrev SW (l:Ϣ):Ϣ:=B4 (λi=>ph (φ i)) l
mutual
def za (v:Nat):∀b:Ty,pl b=Z->DZ v ϴ (tr φ b)=oA (λi=>φ i==v) b
 | .mk k n i ts,h=>by
  rw[tr,Bq,oA];cases j:(k==5) with
  | true=>
   grind[DZ]
  | false=>
   cases l:(k==2) with
   | true=>
    have d:k=2:=AB;subst d;rw[pl] at h;have:=P3 v ts AB
    assumption
   | false=>
    have f:P1 (.mk k n i ts)=true:=by grind[pl]
    have e:=Hu (.mk k n i ts) (λi=>ph (φ i)) f
    grind[Bq,MI,N1]
def P3 (v:Nat):∀l:Ϣ,WO l=Z->GV v ϴ (SW φ l)=UB (λi=>φ i==v) l
 | [],_=>rfl
 | t::l,h=>by
  simp only[WO,AK] at h;rw[SW,B4,GV,UB];rw[za v t h.1,P3 v l h.2]
end
mutual
def ZS (v:Nat):∀b:Ty,bd b=Z->DZ v Z (tr φ b)=oI (λi=>φ i==v) b
 | .mk k n i ts,h=>by
  rw[tr,Bq,oI];cases e:(k==5) with
  | true=>
   grind[DZ]
  | false=>
   cases f:(k==2) with
   | true=>
    simp_all[bd,P3,DZ,oA]
   | false=>
    cases j:(k==3) with
    | true=>
     have d:k=3:=AB;subst d;rw[bd] at h;have:=cD v ts AB
     assumption
    | false=>
     grind[bd,MI,N1]
def cD (v:Nat):∀l:Ϣ,ND l=Z->GV v Z (SW φ l)=KV (λi=>φ i==v) l
 | [],_=>rfl
 | t::l,h=>by
  simp only[ND,AK] at h;rw[SW,B4,GV,KV,ZS v t h.1,cD v l h.2]
end
mutual
def tF (v:Nat):∀b:Ty,bd b=Z->DZ v ϴ (tr φ b)=(oI (λi=>φ i==v) b||(Af b).any λi=>φ i==v)
 | .mk k n i ts,h=>by
  rw[tr,Bq,oI,Af];cases e:(k==5) with
  | true=>
   grind[DZ]
  | false=>
   cases f:(k==2) with
   | true=>
    simp_all[bd,P3,DZ,oA]
   | false=>
    cases j:(k==3) with
    | true=>
     have d:k=3:=AB;subst d;rw[bd] at h;have:=lR v ts AB
     assumption
    | false=>
     grind[bd,MI,N1]
def lR (v:Nat):∀l:Ϣ,ND l=Z->GV v ϴ (SW φ l)=(KV (λi=>φ i==v) l||(B5 l).any λi=>φ i==v)
 | [],_=>rfl
 | t::l,h=>by
  simp only[ND,AK] at h;rw[SW,B4,GV,KV,B5,tF v t h.1,lR v l h.2,List.any_append]
  grind
end
mutual
def NF (m:Int->Bool):∀b:Ty,bd b=Z->Bi m (tr φ b)=(Af b).countP λi=>m (φ i)
 | .mk k n i ts,h=>by
  rw[tr,Bq,Af];cases e:(k==5) with
  | true=>
   rfl
  | false=>
   cases f:(k==3) with
   | true=>
    have d:k=3:=AB;subst d;rw[bd] at h;have:=lS m ts AB
    assumption
   | false=>
    grind[bd,UC,Bi]
def lS (m:Int->Bool):∀l:Ϣ,ND l=Z->Cz m (SW φ l)=(B5 l).countP λi=>m (φ i)
 | [],_=>rfl
 | t::l,h=>by
  simp only[ND,AK] at h;rw[SW,B4,Cz,B5,NF m t h.1,lS m l h.2,Sq]
end
mutual
def tG (m:Int->Bool) (c:Ty):∀(b:Ty) (k j:Nat),bd b=Z->(∃x,(Af b)[k]?=Y x/\m (φ x)=Z)->((Af b).take k).countP (λi=>m (φ i))=j->tr φ (Mn c b k)=JM m (tr φ c) (tr φ b) j
 | .mk k n i ts,q,j,h,hx,d=>by
  cases f:(k==5) with
  | true=>
   grind[Af,Mn,Bq,JM]
  | false=>
   cases l:(k==3) with
   | true=>
    have e:k=3:=AB;subst e;rw[bd] at h;rw[Af] at hx d;have:=tH m c ts q j AB AB AB
    grind[Mn,Bq,JM]
   | false=>
    grind[Af]
def tH (m:Int->Bool) (c:Ty):∀(l:Ϣ) (k j:Nat),ND l=Z->(∃x,(B5 l)[k]?=Y x/\m (φ x)=Z)->((B5 l).take k).countP (λi=>m (φ i))=j->SW φ (He c l k)=Ka m (tr φ c) (SW φ l) j
 | [],q,j,_,hx,_=>by rfl
 | t::l,q,j,h,hx,b=>by
  simp only[ND,AK] at h;obtain⟨x,hx,hm⟩:=hx;rw[B5] at hx b;have f:=NF φ m t h.1;rw[show SW φ (t::l)=tr φ t::SW φ l from rfl]
  by_cases e:q<F (Af t)
  .rw[C3 e] at hx
   rw[Yh AA] at b;have d:j<Bi m (tr φ t):=by grind[List.take_append_drop]
   rw[He,Ka,Ax e,Ax d];simp only[AQ];rw[<-tG m c t q j h.1 ⟨x,hx,hm⟩ b];rfl
  .rw[Ei AA] at hx
   rw[List.take_append,CC AA,Sq,<-f] at b;have d:¬ j<Bi m (tr φ t):=AA;rw[He,Ka,A5 e,A5 d];simp only[AL];rw[<-tH m c l (q-F (Af t)) (j-Bi m (tr φ t)) h.2 ⟨x,hx,hm⟩ AA];rfl
end
end
section
variable (c:Ty)
mutual
theorem N2:∀(b:Ty) (k:Nat),k<F (Af b)->Af (Mn c b k)=(Af b).take k++(Af c++(Af b).drop (k+1))
 | .mk q n i ts,k,d=>by
  rw[Af] at d ⊢;rw[Mn];cases e:(q==5) with
  | true=>
   grind
  | false=>
   rw[e] at d;cases f:(q==3) with
   | true=>
    rw[f] at d;simp only[AL,AQ] at d ⊢;rw[Af,e,f];exact cE ts k d
   | false=>grind
theorem cE:∀(l:Ϣ) (k:Nat),k<F (B5 l)->B5 (He c l k)=(B5 l).take k++(Af c++(B5 l).drop (k+1))
 | [],k,b=>by grind[B5]
 | t::l,k,b=>by
  rw[B5] at b ⊢;rw[He]
  by_cases h:k<F (Af t)
  .rw[Ax h]
   simp only[AQ,B5];rw[N2 t k h,Yh AA,List.drop_append_of_le_length AA];simp
  .rw[A5 h]
   simp only[AL,B5];have d:k-F (Af t)<F (B5 l):=AB;have e:(Af t).take k=Af t:=CC AA;have f:(Af t).drop (k+1)=[]:=CR AA;rw[cE l _ d,List.take_append,e,List.drop_append,f]
   grind
end
mutual
def jF:∀(b:Ty) (k:Nat),∀i∈vis (Mn c b k),i∈vis b\/i∈vis c
 | .mk q n j ts,k,i,d=>by
  rw[Mn] at d;cases e:(q==5) with
  | true=>
   grind
  | false=>
   rw[e] at d;cases f:(q==3) with
   | true=>
    rw[f] at d;simp only[AL,AQ] at d;rw[vis,e,f] at d ⊢;simp only[AL,Dx,AQ] at d ⊢;exact lT ts k i d
   | false=>
    grind
def lT:∀(l:Ϣ) (k:Nat),∀i∈DU (He c l k),i∈DU l\/i∈vis c
 | [],k,i,hi=>by grind[He]
 | t::l,k,i,hi=>by
  rw[He] at hi;simp only[DU,CU];cases b:decide (k<F (Af t)) with
  | true=>
   rw[b] at hi;simp only[AQ,DU,CU] at hi;rcases hi with hi|hi
   .rcases jF t k i hi with h|h
    all_goals grind
   grind
  | false=>
   rw[b] at hi;simp only[AL,DU,CU] at hi;rcases hi with hi|hi
   .grind
   .rcases lT l _ i hi with h|h
    all_goals grind
end
mutual
def ABj (p:Int->Bool):∀(b:Ty) (k:Nat),oI p (Mn c b k)=Z->oI p b=Z\/oI p c=Z
 | .mk q n j ts,k,d=>by
  rw[Mn] at d;cases e:(q==5) with
  | true=>
   grind
  | false=>
   rw[e] at d;cases l:(q==3) with
   | true=>
    have f:q=3:=AB;subst f;simp only[AL,AQ,CS] at d;rw[oI] at d ⊢;simp only[show((3:Int)==2)=ϴ from rfl,AL,CS,Cm] at d ⊢;exact tI p ts k d
   | false=>
    grind
def tI (p:Int->Bool):∀(l:Ϣ) (k:Nat),KV p (He c l k)=Z->KV p l=Z\/oI p c=Z
 | [],k,hi=>by grind[He]
 | t::l,k,hi=>by
  rw[He] at hi;simp only[KV,D5];cases b:decide (k<F (Af t)) with
  | true=>
   rw[b] at hi;simp only[AQ,KV,D5] at hi;rcases hi with hi|hi
   .rcases ABj p t k hi with h|h
    all_goals grind
   grind
  | false=>
   rw[b] at hi;simp only[AL,KV,D5] at hi;rcases hi with hi|hi
   .grind
   .rcases tI p l _ hi with h|h
    all_goals grind
end
mutual
def tJ (d:bd c=Z):∀(b:Ty) (k:Nat),bd b=Z->bd (Mn c b k)=Z
 | .mk q n j ts,k,h=>by
  rw[Mn];cases f:(q==5) with
  | true=>
   grind
  | false=>
   cases l:(q==3) with
   | true=>
    have e:q=3:=AB;subst e;rw[bd] at h;simp only[AL,AQ];rw[bd];have:=tK d ts k AB
    grind
   | false=>grind
def tK (b:bd c=Z):∀(l:Ϣ) (k:Nat),ND l=Z->ND (He c l k)=Z
 | [],k,h=>h
 | t::l,k,h=>by
  simp only[ND,AK] at h;rw[He];cases decide (k<F (Af t)) with
  | true=>simp[ND,tJ b t k h.1,h.2]
  | false=>simp[ND,tK b l _ h.2,h.1]
end
end
mutual
theorem tL:∀(b:Ty),pl b=Z->∀i∈vis b,oA (·==i) b=Z
 | .mk k n j ts,h,i,d=>by
  rw[vis] at d;rw[oA];cases e:(k==5) with
  | true=>rw[e] at d; simp at d; simp[d]
  | false=>
   cases f:(k==2) with
   | true=>
    rw[pl,e,f] at h;rw[e,f] at d;simp only[AL,AQ,D6] at h d;simp[lU ts h i d]
   | false=>
    have l:P1 (.mk k n j ts)=true:=by grind[pl]
    have:=UD _ l
    grind[vis]
theorem lU:∀(l:Ϣ),WO l=Z->∀i∈DU l,UB (·==i) l=Z
 | [],_,i,hi=>by cases hi
 | t::l,h,i,hi=>by
  simp only[WO,AK] at h;rw[DU,CU] at hi;rw[UB,D5];rcases hi with hi|hi
  .exact .inl (tL t h.1 i hi)
  .exact .inr (lU l h.2 i hi)
end
mutual
def XF:∀(b:Ty),bd b=Z->∀i∈vis b,i∈Af b\/oI (·==i) b=Z
 | .mk k n j ts,h,i,d=>by
  cases e:(k==2) with
  | true=>
   grind[pl,bd,oI,tL]
  | false=>
   rw[vis] at d;rw[Af,oI];cases f:(k==5) with
   | true=>grind
   | false=>
    cases l:(k==3) with
    | true=>
     rw[bd,f,e,l] at h;rw[f,e,l] at d;simp only[AL,AQ,Dx] at h d;have:=UG ts h i d
     grind
    | false=>
     grind
def UG:∀(l:Ϣ),ND l=Z->∀i∈DU l,i∈B5 l\/KV (·==i) l=Z
 | [],_,i,hi=>by cases hi
 | t::l,h,i,hi=>by
  simp only[ND,AK] at h;rw[DU,CU] at hi;rw[B5,CU,KV,D5];rcases hi with hi|hi
  .rcases XF t h.1 i hi with h' | h'
   all_goals grind
  .rcases UG l h.2 i hi with h' | h'
   all_goals grind
end
mutual
theorem tM (p:Int->Bool):∀(b:Ty),oI p b=Z->∃i∈vis b,p i=Z
 | .mk k n j ts,h=>by
  rw[oI] at h;cases d:(k==2) with
  | true=>
   rw[d] at h;simp only[AQ] at h;exact tN p _ h
  | false=>
   rw[d] at h;simp only[AL,AK] at h;have e:k=3:=AB;subst e;rw[vis];simpa using lV p ts h.2
theorem lV (p:Int->Bool):∀(l:Ϣ),KV p l=Z->∃i∈DU l,p i=Z
 | [],h=>by cases h
 | t::l,h=>by
  rw[KV,D5] at h;rw[DU];rcases h with h|h
  .have⟨i,b,d⟩:=tM p t h
   grind
  .have⟨i,b,d⟩:=lV p l h
   grind
theorem tN (p:Int->Bool):∀(b:Ty),oA p b=Z->∃i∈vis b,p i=Z
 | .mk k n j ts,h=>by
  rw[oA] at h;rw[vis];cases d:(k==5) with
  | true=>
   grind
  | false=>
   rw[d] at h;simp only[AL,AK] at h;simpa[h.1] using lW p ts h.2
theorem lW (p:Int->Bool):∀(l:Ϣ),UB p l=Z->∃i∈DU l,p i=Z
 | [],h=>by cases h
 | t::l,h=>by
  rw[UB,D5] at h;rw[DU];rcases h with h|h
  .have⟨i,b,d⟩:=tN p t h
   grind
  .have⟨i,b,d⟩:=lW p l h
   grind
end
mutual
def inst (σ:Ϟ) (u:Nat):Ty->Ty
 | .mk k n i ts=>bif k==5 then(bif decide ((u:Int)<=i) then(match σ[(i-u).toNat]? with
  | some v=>ph v
  | none=>.mk k n i ts) else .mk k n i ts) else .mk k n i (Dg σ u k 0 ts)
def Dg (σ:Ϟ) (u:Nat) (k:Int) (j:Nat):Ϣ->Ϣ
 | []=>[]
 | t::l=>inst σ (u+Dz k j) t::Dg σ u k (j+1) l
end
def Dq {u:Nat} {k i:Int} {n:Ϝ} {ts:Ϣ} (h:CJ u (.mk k n i ts)=Z) (b:k≠5):De u k 0 ts=true:=by grind[CJ]
def Iy {u:Nat} {i:Int} {n:Ϝ} {ts:Ϣ} (h:CJ u (.mk 5 n i ts)=Z):i<u:=by grind[CJ]
theorem EL {n:Ϝ} {i:Int} {ts:Ϣ} (h:A2 (.mk 5 n i ts)=Z):n=[]/\ts=[]/\0<=i:=by grind[A2,root,shape]
mutual
theorem Ig (σ:Ϟ):∀(t:Ty) (u:Nat),A2 t=Z->CJ u t=Z->inst σ u t=t
 | .mk k n i ts,u,b,d=>by
  rw[inst]
  by_cases e:k=5
  .subst e
   have:=Iy d
   grind
  .have f:(k==5)=false:=by grind
   simp only[A2,AK] at b;rw[f];simp only[AL];rw[cG σ ts u k 0 b.2 (Dq d e)]
theorem cG (σ:Ϟ):∀(l:Ϣ) (u:Nat) (k:Int) (j:Nat),BO l=Z->De u k j l=Z->Dg σ u k j l=l
 | [],_,_,_,_,_=>rfl
 | t::l,u,k,j,b,d=>by
  simp only[BO,AK] at b;simp only[De,AK] at d;rw[Dg,Ig σ t _ b.1 d.1,cG σ l u k (j+1) b.2 d.2]
end
mutual
def J9 (v:Nat) (σ:Ϟ):∀(t:Ty) (u:Nat),A2 t=Z->CJ (u+1+F σ) t=Z->sub v u (inst σ (u+1) t)=inst (v::σ) u t
 | .mk k n i ts,u,b,d=>by
  rw[inst,inst]
  by_cases f:k=5
  .subst f
   have o:=Iy d;obtain⟨rfl,rfl,p⟩:=EL b;simp only[CS,AQ]
   by_cases r:(u:Int)+1<=i
   .have l:((u+1:Nat):Int)<=i:=by omega
    have m:(u:Int)<=i:=AA;rw[Ax l,Ax m];simp only[AQ];have e:(i-(u:Int)).toNat=(i-((u+1:Nat):Int)).toNat+1:=AA;rw[e,Ia];have⟨w,s⟩:∃w,σ[(i-((u+1:Nat):Int)).toNat]?=Y w:=⟨_,Az AA⟩
    simp_all[sub,LB]
   grind[sub]
  .have j:(k==5)=false:=by grind
   simp only[A2,AK] at b;rw[j];simp only[AL];rw[sub,j];simp only[AL];rw[XG v σ ts u k 0 b.2 (Dq d f)]
def XG (v:Nat) (σ:Ϟ):∀(l:Ϣ) (u:Nat) (k:Int) (j:Nat),BO l=Z->De (u+1+F σ) k j l=Z->LB v u k j (Dg σ (u+1) k j l)=Dg (v::σ) u k j l
 | [],_,_,_,_,_=>rfl
 | t::l,u,k,j,b,d=>by
  simp only[BO,AK] at b;simp only[De,AK] at d;rw[Dg,LB,Dg];have e:u+1+Dz k j=u+Dz k j+1:=AA;rw[e,J9 v σ t (u+Dz k j) b.1 AB,XG v σ l u k (j+1) b.2 d.2]
end
theorem SA {n:Ϝ} {i:Int} {ts:Ϣ} (h:A2 (.mk 2 n i ts)=Z):Eo ts=true:=by grind[A2,root,shape]
mutual
def O4 (σ:Ϟ):∀(t:Ty),A2 t=Z->plain t=Z->CJ (F σ) t=Z->pl t=Z/\inst σ 0 t=tr (λi=>σ.getD i.toNat 0) t
 | .mk k n i ts,b,l,d=>by
  by_cases f:k=5
  .subst f
   obtain⟨rfl,rfl,m⟩:=EL b;have o:=Iy d
   grind[pl,inst,Bq]
  .have p:(k==5)=false:=by grind
   by_cases j:k=2
   .subst j
    have e:=SA b;simp only[A2,AK] at b;have⟨q1,r⟩:=SB σ ts 2 AH 0 b.2 e (Dq d AH)
    grind[pl,inst,Bq]
   grind[plain,P1,pl,Ig,Hu]
def SB (σ:Ϟ):∀(l:Ϣ) (k:Int),k≠6->∀(j:Nat),BO l=Z->Eo l=Z->De (F σ) k j l=Z->WO l=Z/\Dg σ 0 k j l=SW (λi=>σ.getD i.toNat 0) l
 | [],_,_,_,_,_,_=>⟨rfl,rfl⟩
 | t::l,k,f,j,b,d,e=>by
  simp only[BO,AK] at b;simp only[Eo,AK] at d;have m:(k==6)=false:=AB;have hb:Dz k j=0:=by simp[Dz,m]
  simp only[De,AK,hb,G8] at e;have⟨q1,o⟩:=O4 σ t b.1 d.1 e.1;have⟨r,p⟩:=SB σ l k f (j+1) b.2 d.2 e.2;refine⟨by grind[WO],?_⟩;rw[Dg,hb,G8,o,p];rfl
end
mutual
def Q9 (u:Nat):∀(t:Ty),A2 t=Z->CJ u t=Z->∀i∈vis t,0<=i/\i<u
 | .mk k n j ts,e,f,i,d=>by
  rw[vis] at d
  by_cases l:k=5
  .subst l
   obtain⟨rfl,rfl,o⟩:=EL e;have:=Iy f
   grind
  .have m:(k==5)=false:=by grind
   rw[m] at d;cases b:(k==2||k==3) with
   | false=>grind
   | true=>
    rw[b] at d;simp only[AL,AQ] at d;simp only[A2,AK] at e;exact UH u ts k AB 0 e.2 (Dq f l) i d
def UH (u:Nat):∀(l:Ϣ) (k:Int),k≠6->∀(j:Nat),BO l=Z->De u k j l=Z->∀i∈DU l,0<=i/\i<u
 | [],_,_,_,_,_,i,hi=>by cases hi
 | t::l,k,e,j,b,d,i,hi=>by
  simp only[BO,AK] at b;have f:(k==6)=false:=AB;have hb:Dz k j=0:=by simp[Dz,f]
  simp only[De,AK,hb,G8] at d;rw[DU,CU] at hi;rcases hi with hi|hi
  .exact Q9 u t b.1 d.1 i hi
  .exact UH u l k e (j+1) b.2 d.2 i hi
end
end Go.Proofs.YtpgfpakdnijngaaGreatDoor
