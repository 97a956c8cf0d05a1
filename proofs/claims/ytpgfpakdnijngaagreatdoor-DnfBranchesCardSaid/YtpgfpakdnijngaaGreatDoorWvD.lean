/-
  Helpers for proofs about unknown arguments.
-/
import Derived.Test.YtpgfpakdnijngaaGreatDoorWvC
set_option linter.all false
namespace Go.Tel
open Option renaming some->Y,none->G
open Bool renaming true->Z,false->ϴ
theorem wrap64 {n:Int} (b:-9223372036854775808<=n) (d:n<9223372036854775808):IntKind.wrap .i64 n=n:=by grind[IntKind.wrap,IntKind.signed,IntKind.bits]
def Ci {n:Int} {K:AV->Prop} (b:-9223372036854775808<=n) (d:n<9223372036854775808) (h:K (AG n)):iu .i64 n K:=by grind[iu,wrap64]
def A3 (a:AV) (rows:Ϯ):Prop:=a=.pv (.list rows)\/a=.AE rows
def A3.list (rows:Ϯ):A3 (.pv (.list rows)) rows:=.inl rfl
theorem A3.AE (rows:Ϯ):A3 (.AE rows) rows:=.inr rfl
theorem A3.rowsOf {a:AV} {rows:Ϯ} (h:A3 a rows):rowsOf a=Y rows:=by rcases h with rfl|rfl <;> rfl
def A3.ok {a:AV} {rows:Ϯ} (h:A3 a rows):BS a=true:=by rcases h with rfl|rfl <;> rfl
def A3.Jw {a:AV} {rows:Ϯ} (h:A3 a rows):Jw a=true:=by rcases h with rfl|rfl <;> rfl
theorem A3.F9 {a:AV} {rows:Ϯ} (h:A3 a rows):F9 a=true:=by rcases h with rfl|rfl <;> rfl
def A3.KX {a:AV} {rows:Ϯ} (h:A3 a rows):KX a=Y (.list rows):=by rcases h with rfl|rfl <;> rfl
theorem A3.close {a:AV} {rows:Ϯ} (h:A3 a rows) (bs:Ϩ) (n m:Nat):close bs n m a=Y a:=by rcases h with rfl|rfl <;> rfl
def A3.cells {a:AV} {rows:Ϯ} (h:A3 a rows):cellsOf a=[a]:=by rcases h with rfl|rfl <;> rfl
theorem A3.BG {a:AV} {rows:Ϯ} (h:A3 a rows) (s:AY):BG s a=Y rows.length:=by rcases h with rfl|rfl <;> rfl
theorem A3.A6 {a:AV} {rows:Ϯ} (h:A3 a rows) (n:Nat):A6 n a=true:=by rcases h with rfl|rfl <;> rfl
theorem BL {s:AY} {k:Nat} {x:AV} {rows:Ϯ} {i:Int} {row:Ϧ} {K:AV->Prop} (hx:A3 x rows) (b:0<=i) (d:rows[i.toNat]?=Y row) (e:row.length=k) (f:k≠0) (h:K (.DF row 0)):OK s k x (AG i) K:=by
 rcases hx with rfl|rfl
 .exact⟨b,row,d,e,f,h⟩
 .exact⟨b,row,d,e,f,h⟩
def gX {k:IntKind} {n:Int}:BS (.pv (.sc (.int k n)))=true:=rfl
def fY {k:IntKind} {n:Int}:cellsOf (.pv (.sc (.int k n)))=[.pv (.sc (.int k n))]:=rfl
def okB {b:Bool}:BS (.pv (.sc (.bool b)))=true:=rfl
def gY {b:Bool}:cellsOf (.pv (.sc (.bool b)))=[.pv (.sc (.bool b))]:=rfl
def gZ {b:ByteArray}:BS (.pv (.sc (.string b)))=true:=rfl
def gh {b:ByteArray}:cellsOf (.pv (.sc (.string b)))=[.pv (.sc (.string b))]:=rfl
def gi {r:Ϯ}:BS (.pv (.list r))=true:=rfl
def gj {r:Ϯ}:cellsOf (.pv (.list r))=[.pv (.list r)]:=rfl
def ag {r:Ϯ}:BS (.AE r)=true:=rfl
def gm {r:Ϯ}:cellsOf (.AE r)=[.AE r]:=rfl
def gp {t:Nat} {r:Ϯ}:BS (.own t r)=true:=rfl
def gu {t:Nat} {r:Ϯ}:cellsOf (.own t r)=[.own t r]:=rfl
def gv {i o:Nat}:BS (.ptr i o)=true:=rfl
def gw {i o:Nat}:cellsOf (.ptr i o)=[.ptr i o]:=rfl
def gx {i o:Nat}:BS (.EF i o)=true:=rfl
def gy {i o:Nat}:cellsOf (.EF i o)=[.EF i o]:=rfl
def gz {r:Ϧ} {o:Nat}:BS (.DF r o)=true:=rfl
def hG {r:Ϧ} {o:Nat}:cellsOf (.DF r o)=[.DF r o]:=rfl
def hJ {i o l z:Nat}:BS (.ref i o l z)=true:=rfl
def hO {i o l z:Nat}:cellsOf (.ref i o l z)=[.ref i o l z]:=rfl
def okF {f:Fn} {a b:Ϭ}:BS (.func f a b)=true:=rfl
def hY {f:Fn} {a b:Ϭ}:cellsOf (.func f a b)=[.func f a b]:=rfl
def iA {t:TypeId} {v:AV}:BS (.iface t v)=true:=rfl
def iB {t:TypeId} {v:AV}:cellsOf (.iface t v)=[.iface t v]:=rfl
def iC {i:Nat}:BS (.Hl i)=true:=rfl
def iD {i:Nat}:cellsOf (.Hl i)=[.Hl i]:=rfl
theorem Tu :BS (.pv (.sc (.pointer G)))=true:=rfl
def iE :cellsOf (.pv (.sc (.pointer G)))=[.pv (.sc (.pointer G))]:=rfl
def Ow :BS (.pv (.sc .nilFunc))=true:=rfl
def Ox :cellsOf (.pv (.sc .nilFunc))=[.pv (.sc .nilFunc)]:=rfl
def Oy :BS (.pv (.sc .nilIface))=true:=rfl
def Oz :cellsOf (.pv (.sc .nilIface))=[.pv (.sc .nilIface)]:=rfl
def iG {cs:Ϭ}:cellsOf (.agg cs)=cs:=rfl
def iH {r:Ϯ}:rowsOf (.pv (.list r))=Y r:=rfl
def iK {r:Ϯ} (s:AY):BG s (.pv (.list r))=Y r.length:=rfl
def iI {r:Ϯ}:rowsOf (.AE r)=Y r:=rfl
def iL {r:Ϯ} (s:AY):BG s (.AE r)=Y r.length:=rfl
def iJ {t:Nat} {r:Ϯ}:rowsOf (.own t r)=Y r:=rfl
def iM {t:Nat} {r:Ϯ} (s:AY):BG s (.own t r)=Y r.length:=rfl
def iP {p:PV}:KX (.pv p)=Y p:=rfl
def iQ {r:Ϯ}:KX (.AE r)=Y (.list r):=rfl
def iR {t:Nat} {r:Ϯ}:KX (.own t r)=Y (.list r):=rfl
def GG {bs:Ϩ} {n m:Nat} {p:PV}:close bs n m (.pv p)=Y (.pv p):=AX
def iT {bs:Ϩ} {n m:Nat} {r:Ϯ}:close bs n m (.AE r)=Y (.AE r):=AX
def fZ {bs:Ϩ} {n t:Nat} {r:Ϯ}:close bs n 0 (.own t r)=Y (.pv (.list r)):=AX
def iU {bs:Ϩ} {n m:Nat} {f:Fn}:close bs n m (.func f [] [])=Y (.func f [] []):=AX
def iV {bs:Ϩ} {n m:Nat} {cs:Ϭ}:close bs n m (.agg cs)=(BZ bs n m cs).map .agg:=by grind[close]
def iW {bs:Ϩ} {n m:Nat} {cs:Ϭ}:close bs n m (.tuple cs)=(BZ bs n m cs).map .tuple:=by grind[close]
def iX {bs:Ϩ} {n m:Nat}:BZ bs n m []=Y []:=AX
def iY {bs:Ϩ} {n m:Nat} {c:AV} {cs:Ϭ}:BZ bs n m (c::cs)=(close bs n m c).bind λc=>(BZ bs n m cs).map (c::·):=by
 rw[BZ];cases close bs n m c <;> cases BZ bs n m cs <;> rfl
def iZ {p:PV}:Jw (.pv p)=true:=AX
def ia {r:Ϯ}:Jw (.AE r)=true:=AX
def ic {t:Nat} {r:Ϯ}:Jw (.own t r)=true:=AX
def ie:JB []=true:=AX
def ig {c:AV} {cs:Ϭ}:JB (c::cs)=(Jw c&&JB cs):=AX
def S6 {α:Type} (l m:List α) (k:Nat):(l++m)[l.length+k]?=m[k]?:=AB
def S7 {α:Type} (l m:List α) (k:Nat) (v:α):(l++m).set (l.length+k) v=l++m.set k v:=AD
def Tw {α:Type} (l m:List α):(l++m)[l.length]?=m[0]?:=S6 l m 0
def Tx {α:Type} (l m:List α) (v:α):(l++m).set l.length v=l++m.set 0 v:=S7 l m 0 v
def BM (s:AY):Prop:=∀b∈s.bs,Ap s.bs.length b=Z
def BN (a:AV) (rows:Ϯ):Prop:=A3 a rows\/∃t,a=.own t rows
def BN.ok {a:AV} {rows:Ϯ} (h:BN a rows):BS a=true:=by
 rcases h with h|⟨t,rfl⟩
 .exact h.ok
 rfl
def BN.Jw {a:AV} {rows:Ϯ} (h:BN a rows):Jw a=true:=by
 rcases h with h|⟨t,rfl⟩
 .exact h.Jw
 rfl
def BN.KX {a:AV} {rows:Ϯ} (h:BN a rows):KX a=Y (.list rows):=by
 rcases h with h|⟨t,rfl⟩
 .exact h.KX
 rfl
theorem BN.A6 {a:AV} {rows:Ϯ} (h:BN a rows) (n:Nat):A6 n a=true:=by
 rcases h with h|⟨t,rfl⟩
 .exact h.A6 n
 rfl
theorem BN.BG {a:AV} {rows:Ϯ} (h:BN a rows) (s:AY):BG s a=Y rows.length:=by
 rcases h with h|⟨t,rfl⟩
 .exact h.BG s
 rfl
theorem BN.rowsOf {a:AV} {rows:Ϯ} (h:BN a rows):rowsOf a=Y rows:=by
 rcases h with h|⟨t,rfl⟩
 .exact h.rowsOf
 rfl
def BN.cells {a:AV} {rows:Ϯ} (h:BN a rows):cellsOf a=[a]:=by
 rcases h with h|⟨t,rfl⟩
 .exact h.cells
 rfl
def BN.closed {a:AV} {rows:Ϯ} (h:BN a rows) (bs:Ϩ) (n:Nat):∃b,close bs n 0 a=Y b/\A3 b rows:=by
 rcases h with h|⟨t,rfl⟩
 .exact⟨a,h.close _ _ _,h⟩
 .exact⟨_,fZ,.list _⟩
theorem BN.close {a:AV} {rows:Ϯ} (h:BN a rows) (bs:Ϩ) (n m:Nat):∃b,close bs n m a=Y b/\BN b rows:=by
 rcases h with h|⟨t,rfl⟩
 .exact⟨a,h.close _ _ _,.inl h⟩
 .by_cases d:t<m
  .exact⟨.own t rows,by grind[Tel.close],.inr ⟨t,rfl⟩⟩
  .exact⟨.pv (.list rows),by grind[Tel.close],.inl (.list _)⟩
theorem ABw {rr:Bool} {n:Nat} {Post:Ϡ} {p:PV} {s:AY} (b:((s.bs.take n).all (Ap n))=Z) (h:Post (.pv p) ⟨s.bs.take n,s.ts⟩):QM rr n Post (.pv p) s:=
 ⟨_,_,by grind[IA,IG,Tel.close],h⟩
def Zf {rr:Bool} {n:Nat} {Post:Ϡ} {cs ds:Ϭ} {s:AY} (b:((s.bs.take n).all (Ap n))=Z) (d:BZ s.bs n s.ts.length cs=Y ds) (h:Post (.agg ds) ⟨s.bs.take n,s.ts⟩):QM rr n Post (.agg cs) s:=
 ⟨_,_,by grind[IA,IG,Tel.close],h⟩
def KF {rr:Bool} {n:Nat} {Post:Ϡ} {cs ds:Ϭ} {s:AY} (b:((s.bs.take n).all (Ap n))=Z) (d:BZ s.bs n s.ts.length cs=Y ds) (h:Post (.tuple ds) ⟨s.bs.take n,s.ts⟩):QM rr n Post (.tuple cs) s:=
 ⟨_,_,by grind[IA,IG,Tel.close],h⟩
def Ai (l:Ϛ):Ϯ:=l.map λn=>[.sc (.int .i64 n)]
def BP (l:Ϛ):(Ai l).length=l.length:=by simp[Ai]
structure Src where
 ints:Ϛ
 cell:AV
 rows:BN cell (Ai ints)
def Src.length (l:Src):Nat:=l.ints.length
def Src.of (l:Ϛ):Src:=⟨l,.pv (.list (Ai l)),.inl (.list _)⟩
def Src.YH (l:Ϛ):(Src.of l).length=l.length:=rfl
def Src.AO6 (l:Src) (s:AY):BG s l.cell=Y l.length:=by rw[l.rows.BG,BP]; rfl
def Src.ag (l:Src):BS l.cell=true:=l.rows.ok
def Src.AYd (l:Src) (n:Nat):A6 n l.cell=true:=l.rows.A6 n
def Bc {s:AY} {k:Nat} {x:AV} {rows:Ϯ} {i:Int} {row:Ϧ} {K:AV->Prop} (hx:BN x rows) (b:0<=i) (d:rows[i.toNat]?=Y row) (e:row.length=k) (f:k≠0) (h:K (.DF row 0)):OK s k x (AG i) K:=by
 rcases hx with hx|⟨t,rfl⟩
 .grind[BL]
 .exact⟨b,row,d,e,f,h⟩
def PE (l:Src) (k:Nat):Ϭ:=[l.cell,AG k]
structure OM (bs:Ϩ) (id:Nat) (l:Src):Prop where
 lt:id<bs.length
 ok:∀b∈bs,Ap bs.length b=Z
 len:l.length<2 ^ 61
def ST (bs:Ϩ) (id:Nat) (l:Src) (k:Nat):Ϩ:=bs.set id (PE l k)
theorem GZ {bs:Ϩ} {id:Nat} {l:Src} {k:Nat}:(ST bs id l k).length=bs.length:=by simp[ST]
theorem RY {bs:Ϩ} {id:Nat} {l:Src} {k:Nat} (h:id<bs.length) (m:Ϩ):(ST bs id l k++m)[id]?=Y (PE l k):=by grind[ST]
theorem AH2 {bs:Ϩ} {id:Nat} {l:Src} {k k':Nat} (h:id<bs.length) (m:Ϩ):(ST bs id l k++m).set id (PE l k')=ST bs id l k'++m:=by simp[*,ST]
mutual
theorem V3 {n m:Nat} (h:n<=m):∀(v:AV),A6 n v=Z->A6 m v=Z
 | .ptr id _,d=>by simp[A6] at d ⊢; omega
 | .ref id _ _ _,d=>by simp[A6] at d ⊢; omega
 | .Hl id,d=>by simp[A6] at d ⊢; omega
 | .bz id _ _,d=>by simp[A6] at d ⊢; omega
 | .func _ a b,d=>by
  simp[A6] at d ⊢;exact⟨BV h a d.1,BV h b d.2⟩
 | .iface _ v,d=>by
  simp[A6] at d ⊢;exact V3 h v d
 | .agg e,d=>by
  simp[A6] at d ⊢;exact BV h e d
 | .tuple e,d=>by
  simp[A6] at d ⊢;exact BV h e d
 | .pv _,_=>by rfl
 | .EF _ _,_=>by rfl
 | .DF _ _,_=>by rfl
 | .AE _,_=>by rfl
 | .own _ _,_=>by rfl
 | .Gy,_=>by rfl
 | .PZ _ _,_=>by rfl
theorem BV {n m:Nat} (h:n<=m):∀(l:Ϭ),Ap n l=Z->Ap m l=Z
 | [],_=>by rfl
 | c::d,b=>by
  simp[Ap] at b ⊢;exact⟨V3 h c b.1,BV h d b.2⟩
end
theorem TM (l:Src) (k n:Nat):Ap n (PE l k)=true:=by simp[PE,Ap,A6,l.AYd]
def LI (bs m:Ϩ):Prop:=∀b∈m,Ap (bs.length+m.length) b=Z
def OM.all {bs:Ϩ} {id:Nat} {l:Src} (h:OM bs id l) {m:Ϩ} (hm:LI bs m) (k:Nat):((ST bs id l k++m).all (Ap (bs.length+m.length)))=true:=by
 rw[Cl];intro b hb;rcases CU.1 hb with h1|h1
 .rcases kZ h1 with h2|h2
  .exact BV AA b (h.ok b h2)
  grind[TM]
 .exact hm b h1
def D1 (lo:Nat) (ts:List (Nat×TypeId)) (k:TypeId) (a:AV) (rows:Ϯ):Prop:=a=.AE rows\/∃t,a=.own t rows/\ts[t]?=Y (rows.length,k)/\lo<=t
def D1.BA {lo:Nat} {ts:Ϫ} {k:Nat} {a:AV} {rows:Ϯ} (h:D1 lo ts k a rows):BN a rows:=by
 rcases h with rfl|⟨t,rfl,_⟩
 .exact .inl (.AE _)
 .exact .inr ⟨t,rfl⟩
def D1.grow {lo:Nat} {ts x:Ϫ} {k:Nat} {a:AV} {rows:Ϯ} (h:D1 lo ts k a rows):D1 lo (ts++x) k a rows:=by
 rcases h with rfl|⟨t,rfl,d,b⟩
 .exact .inl rfl
 .refine .inr ⟨t,rfl,?_,b⟩
  grind
theorem Li:∀row:Ϧ,C0 (row.map .pv)=Y row
 | []=>rfl
 | p::row=>by simp[C0,KX,Li row]
def NL {L:Ba} {bs:Ϩ} {ts x:List (Nat×TypeId)} {e:TypeId} {k bytes:Nat} {a:AV} {rows:Ϯ} {row:Ϧ} {K:Ϡ} (y:D1 ts.length (ts++x) e a rows) (D:L.rt<=ts.length) (A:∀r∈rows,r.length=k) (B:row.length=k) (H:0<k)
  (i:(row.map AV.pv).all BS=Z) (hb:(rows.length+1)*bytes<=2 ^ 45) (j:rows.length+1<=2 ^ 45) (h:∀l m,D1 ts.length (ts++m) e l (rows++[row])->K l ⟨bs,ts++m⟩) :
  I6 ϴ L ⟨bs,ts++x⟩ e k bytes a (.AE [row]) K:=by
 have p:DS ⟨bs,ts++x⟩ k (.AE [row])=Y (row.map .pv):=by grind[DS,rowsOf]
 have d:(rows.all λr=>r.length==k)=true:=AB;have C:row.length / k=1:=by simp[*]
 have s:CZ k 1 row=[row]:=by grind[CZ]
 unfold I6;rw[p]
 obtain⟨c,b,I⟩:∃c b,row=c::b:=by
  cases row with
  | nil=>grind
  | cons c b=>simp
 have f:row.map AV.pv=.pv c::b.map .pv:=AB;have z:(AV.pv c::b.map .pv).length / k=1:=AB;have u:C0 (AV.pv c::b.map .pv)=Y row:=by grind[Li]
 rw[f] at i;simp only[wO,f,i,z,u,s];refine⟨Ay,?_⟩;rcases y with rfl|⟨t,rfl,n,o⟩
 .refine⟨⟨hb,j,d⟩,?_⟩
  have:=h (.own (ts++x).length (rows++[row])) (x++[(rows.length+1,e)]) (.inr ⟨_,rfl,AD,AD⟩)
  grind
 .refine⟨⟨hb,j,n,AA,d⟩,?_⟩
  have E:t<(ts++x).length:=(BJ.1 n).1;have M:(ts++x).set t (rows.length+1,e)=ts++x.set (t-ts.length) (rows.length+1,e):=Yk _ _ o;have:=h (.own t (rows++[row])) (x.set (t-ts.length) (rows.length+1,e)) (.inr ⟨_,rfl,AB,o⟩)
  grind
def kS (n:Int):ax n n=true:=by cases n <;> simp[ax]
def aZ (l:Ϝ):F2 l l=true:=by grind[Rx]
theorem F7 (k:IntKind) (n:Int):zD (.int k n) (.int k n)=true:=by simp[zD,kS]
theorem Ie (b:ByteArray):zD (.string b) (.string b)=true:=by simp[zD,aZ]
end Go.Tel
