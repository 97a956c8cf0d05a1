/-
  What calls of strconv.Itoa and strconv.Atoi answer, where the evaluator is told.
-/
import Derived.Test.YtpgfpakdnijngaaGreatDoorEvI
import Derived.Lib.ItoaNum
import Derived.Lib.Atoi
import Derived.Lib.LaidTab
import Derived.Lib.ConvBytes
import Derived.Sort.Grow
import Derived.Deep.Draws
set_option linter.all false
namespace Go.Tel
open Option renaming some->Y,none->G
open Go renaming World->ϙ,TypeId->ϝ,Program->ϟ,FuncId->ϣ,IntKind->ϥ
def Ld:Nat->Nat->Ϝ->Ϝ
 | 0,_,acc=>acc
 | f+1,n,acc=>bif Nat.blt n 10 then UInt8.ofNat (48+n % 10)::acc else Ld f (n / 10) (UInt8.ofNat (48+n % 10)::acc)
def Hf (n:Nat):Ϝ:=Ld 20 n []
def Lf:Ϝ->Nat->Option Nat
 | [],a=>Y a
 | c::l,a=>bif Nat.ble 48 c.toNat&&Nat.ble c.toNat 57 then Lf l (a*10+(c.toNat-48)) else G
def oy (_:Ba) (args:Ϭ) (s:AY):Option (AV×AY):=match args with
 | [.pv (.sc (.int .i64 (.ofNat n)))]=>bif Nat.blt n 1099511627776 then Y (.pv (.sc (.string ⟨(Hf n).toArray⟩)),s) else G
 | _=>G
def gV (_:Ba) (args:Ϭ) (s:AY):Option (AV×AY):=match args with
 | [.pv (.sc (.string b))]=>bif Nat.ble 1 b.data.toList.length&&Nat.ble b.data.toList.length 18 then match Lf b.data.toList 0 with
  | some n=>Y (.tuple [.pv (.sc (.int .i64 (.ofNat n))),.pv (.sc .nilIface)],s)
  | none=>G
  else G
 | _=>G
def YL:∀(f n:Nat) (acc:Ϝ),n<10 ^ f->0<f->Ld f n acc=Lib.decDigits n++acc
 | 0,_,_,_,h=>absurd h AA
 | f+1,n,acc,h,_=>by
  rw[Ld,Lib.decDigits]
  by_cases hn:n<10
  .grind[Nat.blt,Nat.ble_eq_true_of_le]
  .have e:Nat.blt n 10=false:=by
    cases hb:Nat.blt n 10 with
    | false=>rfl
    | true=>exact absurd (Fz hb) AA
   rw[e,dif_neg hn];have hf:0<f:=AB;have b:n / 10<10 ^ f:=AA;simp only[AL];rw[YL f (n / 10) _ b hf];simp
def qE {n:Nat} (h:n<1099511627776):Lib.itoa (n:Int)=Hf n:=by
 have b:¬ (n:Int)<0:=AA;rw[Lib.itoa,if_neg b,Hf,YL 20 n [] AA AH];simp
theorem YM:∀(l:Ϝ) (a:Nat),Lib.decFrom a l=Lf l a
 | [],_=>rfl
 | c::l,a=>by
  rw[Lib.decFrom,Lf,Lib.digitVal]
  by_cases h:48<=c.toNat/\c.toNat<=57
  .rw[if_pos h,Yp h.1,Yp h.2]
   exact YM l _
  grind[Nat.le_of_ble_eq_true]
def kD {l:Ϝ} {n:Nat} (d:1<=l.length) (h:Lf l 0=Y n):Lib.atoi l=Y (n:Int):=by
 cases l with
 | nil=>grind
 | cons c l=>
  have e:=h;rw[Lf] at h;cases hb:Nat.ble 48 c.toNat&&Nat.ble c.toNat 57 with
  | false=>grind
  | true=>
   simp only[AK] at hb;have f:=Fz hb.1
   have i:(c==45)=false:=by
    cases b:c==45 with
    | false=>rfl
    | true=>
     simp_all
   have j:(c==43)=false:=by
    cases b:c==43 with
    | false=>rfl
    | true=>
     simp_all
   grind[Lib.atoi,Lib.decNat,YM]
def Inv.draws {E:Env} {L:Ba} {g:AZ} {s:AY}:∀(k:Nat) {w:ϙ},Inv E g w s->Ext L g w g (w.drewN k)/\Inv E g (w.drewN k) s
 | 0,w,h=>⟨Ext.refl L g w,h⟩
 | k+1,w,h=>by
  have⟨b,d⟩:=Inv.draws (L:=L) k h;have⟨e,f⟩:=d.drew (L:=L);exact⟨b.trans e,f⟩
def Inv.ARB {E:Env} {L:Ba} {s:AY}:∀(os:List Obj) {g:AZ} {w:ϙ},Inv E g w s->∃g',Ext L g w g' (Sort.grow w ⟨os⟩)/\Inv E g' (Sort.grow w ⟨os⟩) s
 | [],g,w,h=>⟨g,by grind[Sort.grow_empty,Ext.refl]⟩
 | o::os,g,w,h=>by
  have⟨b,d⟩:=h.ku (L:=L) o;have⟨g',f,i⟩:=Inv.ARB (L:=L) os d
  have e:Sort.grow w ⟨o::os⟩=Sort.grow (Mk w o) ⟨os⟩:=by
   refine Jp ?_ rfl rfl rfl rfl;apply Ng
   show(w.heap++(⟨o::os⟩:Array Obj)).toList=((w.heap.push o)++(⟨os⟩:Array Obj)).toList
   simp
  rw[e];exact⟨g',b.trans f,i⟩
def Pv (k:ϥ) (b:Ϛ):Ϧ:=b.map λz=>.sc (.int k z)
def AIe {E:Env} {g:AZ} {w:ϙ} {s:AY} (h:Inv E g w s) {gl:Nat} {name:String} {k:ϥ} {b:Ϛ} (u:b≠[]) (d:E.G gl=Y (Pv k b)) (hn:E.P.globalNamed name=Y gl):Lib.TabIs E.P w name k b:=by
 have l:∀j (z:Int),b[j]?=Y z->w.cell? ⟨gl,j,G⟩=Y (.int k z):=by
  intro j z m;have⟨v,_,x,n⟩:=h.GF gl _ d j (.sc (.int k z)) (by simp[Pv,m]);cases n;omega
 have⟨_,f⟩:=h.D4 gl _ d;have p:(Pv k b).length=b.length:=by simp[Pv]
 rw[p] at f;unfold Lib.TabIs World.var?;rw[hn];simp only[Ye]
 obtain⟨r,i⟩:∃z,b[0]?=Y z:=by
  cases b with
  | nil=>grind
  | cons z _=>simp
 have t:=l 0 r i;unfold World.cell? at t f;cases y:w.heap[gl]? with
 | none=>grind
 | some o=>
  cases o with
  | cells A e B=>
   simp only;congr 1;apply Sk
   grind[World.cell?]
  | _=>grind
def sF {P:ϟ} {W:ϙ} {i:List (String×DataW Unit)} {n:String} {k:ϥ} {d:Ϛ} {g m:Nat} {t e:ϝ} (h:laidMet P i W) (hm:(n,Lib.tabData k d)∈i)
  (x:P.globalNamed n=Y g) (o:(P.globals[g]?).map (·.type)=Y t) (y:P.underlying t=Y (.array m e)) (A:P.underlying e=Y (.int k)) (r:P.cellsOf e=1) (s:P.cellsOf t=m) (M:d≠[]) :
  (∀j c,(Pv k d)[j]?=Y c->∃v,g<W.heap.size/\W.cell? ⟨g,j,G⟩=Y v/\VP (λb _=>b<W.heap.size) W c v)/\g<W.heap.size/\W.cell? ⟨g,(Pv k d).length,G⟩=none:=by
 obtain⟨ps,B,_⟩:=h;have⟨N,O,Q,I,p,C,D,S,E⟩:=Ot B n _ hm;obtain rfl:=Ft (x.symm.trans C);obtain rfl:=Ft (o.symm.trans D);have K:=Lib.cells_of_tab y A r s E;have T:∀j,W.cell? ⟨g,j,G⟩=(d.map λz=>Value.int k z)[j]?:=λj=>by grind[World.var?_cell]
 have U:(Pv k d).length=d.length:=by simp[Pv]
 obtain⟨H,L⟩:∃z,d[0]?=Y z:=by
  cases d with
  | nil=>grind
  | cons z _=>simp
 refine⟨λj c f=>?_,IM (a:=⟨g,0,G⟩) (v:=.int k H) AB,AB⟩;rw[Pv,E8] at f;cases u:d[j]? with
 | none=>grind
 | some z=>
  rw[u] at f;cases f;have l:W.cell? ⟨g,j,G⟩=Y (.int k z):=AB;exact⟨_,IM l,l,.sc _⟩
structure ALv (P:ϟ) (f:ϣ) (name:String):Prop where
 body:MC P f
 call:∀(n:Int),-9223372036854775808<=n->n<=9223372036854775807->∀w:ϙ,Lib.TabIs P w name .u64 Lib.pow10Tab ->
  Calls P f #[.int .i64 n] w λe w'=>e=.returned (.string ⟨(Lib.itoa n).toArray⟩)/\∃k os,w'=Sort.grow (w.drewN k) os
def zQ {E:Env} {f:ϣ} {name:String} {gl:Nat} (b:ALv E.P f name) (o:E.G gl=Y (Pv .u64 Lib.pow10Tab)) (hn:E.P.globalNamed name=Y gl):Q1 E f oy:=by
 intro L B s C v g w D h d i;refine⟨b.body,?_⟩;unfold oy at h;split at h
 .rename_i n
  obtain⟨u,us,rfl,p,j⟩:=i.cases;have:=j.Fb;subst this;have:=p.DX;subst this;cases hb:Nat.blt n 1099511627776 with
  | false=>grind
  | true=>
   rw[hb] at h;simp only[AQ,BU,Bg] at h;obtain⟨rfl,rfl⟩:=h;have l:n<1099511627776:=Fz hb;have m:Lib.pow10Tab≠[]:=by grind[Lib.pow10Tab_length]
   refine(b.call (Int.ofNat n) AD AB w (AIe d m o hn)).mono ?_;rintro e H ⟨rfl,k,r,rfl⟩;have⟨t,x⟩:=d.draws (L:=L) k;have⟨y,z,A⟩:=Inv.ARB (L:=L) r.toList x;refine⟨_,y,rfl,?_,t.trans z,A⟩;have:Lib.itoa (Int.ofNat n)=Hf n:=qE l;rw[this];exact .pv (.sc _)
 grind
def Vr (w:ϙ) (e:ϝ) (t:ByteArray):∃o,Lib.bytesWorld w e t=Mk (Bt w) o:=by
 have b:(Lib.bytesWorld w e t).heap.size=w.heap.size+1:=by grind[Lib.bytesWorld,World.freeze,World.alloc,World.drew_eq]
 have⟨o,d⟩:∃o,(Lib.bytesWorld w e t).heap[w.heap.size]?=Y o:=⟨_,Array.getElem?_eq_getElem AA⟩;refine⟨o,Jp ?_ ?_ ?_ ?_ ?_⟩
 all_goals grind[Bt,Lib.bytesWorld,World.freeze,World.alloc,Mk,World.drew_eq]
structure ALw (P:ϟ) (f:ϣ) (u8:ϝ):Prop where
 body:MC P f
 call:∀(s:ByteArray) (n:Int),s.size<=18->Lib.atoi s.data.toList=Y n->∀w:ϙ,
  Calls P f #[.string s] w λe w'=>e=.returned (.tuple #[.int .i64 n,.nilIface])/\∃t,w'=Lib.bytesWorld w u8 t
def zR {E:Env} {f:ϣ} {l:ϝ} (m:ALw E.P f l):Q1 E f gV:=by
 intro L D s H v g w I h x p;refine⟨m.body,?_⟩;unfold gV at h;split at h
 .rename_i b
  obtain⟨u,us,rfl,d,r⟩:=p.cases;have:=r.Fb;subst this;have:=d.DX;subst this;cases hb:Nat.ble 1 b.data.toList.length&&Nat.ble b.data.toList.length 18 with
  | false=>rw[hb] at h; cases h
  | true=>
   rw[hb] at h;simp only[AQ] at h;simp only[AK] at hb;have j:=Fz hb.1;have k:=Fz hb.2;cases d:Lf b.data.toList 0 with
   | none=>rw[d] at h; cases h
   | some n=>
    rw[d] at h;simp only[BU,Bg] at h;obtain⟨rfl,rfl⟩:=h;refine(m.call b n (by show b.data.size<=18; simpa using k) (kD j d) w).mono ?_;rintro e K ⟨rfl,t,rfl⟩;have⟨o,y⟩:=Vr w l t;rw[y];have⟨z,A⟩:=x.drew (L:=L);have⟨B,C⟩:=A.ku (L:=L) o;refine⟨_,_,rfl,?_,z.trans B,C⟩
    exact .tuple rfl λi c v j k=>by
     match i with
     | 0=>
      cases j;cases k;exact .pv (.sc _)
     | 1=>
      cases j;cases k;exact .pv (.sc _)
     | i+2=>grind
 grind
end Go.Tel
