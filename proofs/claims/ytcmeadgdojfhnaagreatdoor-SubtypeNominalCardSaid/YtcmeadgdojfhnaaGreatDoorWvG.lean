/-
  What a point of a function's code needs, as a text over signs that are not known: 'conv => reduce' writes it out (a proposition would be left alone).
-/
import Derived.Test.YtcmeadgdojfhnaaGreatDoorWvF
set_option linter.unusedSimpArgs false
set_option linter.unusedVariables false
set_option linter.unusedVariables false
namespace Go.Tel
structure Alg (Ω : Type) where
  cI : Int → AV
  cB : Bool → AV
  cS : List Nat → AV
  ln : Sto → Nat
  ps : Sto → List AV → Sto
  nv : AV → Option Nat
  no : Ω
  ye : Ω
  an : Ω → Ω → Ω
  sz : Nat → Nat → Ω
  fz : Bool → Nat → Nat → Nat → Nat → Ω
  fm : Nat → Nat → Nat → Nat → Ω
  pk : AV → AV → AV → (AV → Ω) → Ω
  nw : Sto → List AV → (AV → Sto → Ω) → Ω
  bx : Sto → AV → (AV → Sto → Ω) → Ω
  bz : Sto → TypeId → AV → (AV → Sto → Ω) → Ω
  bu : List AV → List (Nat × Nat × AV) → (AV → Ω) → Ω
  bs : Bool → Sto → Nat → List AV → Nat → List (Nat × Nat × AV) → (AV → Sto → Ω) → Ω
  ld : Sto → Option Nat → AV → (AV → Ω) → Ω
  st : Sto → Nat → AV → AV → (Sto → Ω) → Ω
  ni : Sto → AV → (AV → Ω) → Ω
  fa : Sto → AV → Nat → (AV → Ω) → Ω
  fl : Option Nat → AV → Nat → (AV → Ω) → Ω
  ix : Sto → Nat → AV → AV → (AV → Ω) → Ω
  ex : AV → Nat → (AV → Ω) → Ω
  sl : Sto → Nat → AV → Option AV → Option AV → Option AV → (AV → Ω) → Ω
  le : Sto → AV → (AV → Ω) → Ω
  sn : AV → (AV → Ω) → Ω
  si : AV → AV → (AV → Ω) → Ω
  ap : Bool → Sto → TypeId → Nat → Nat → AV → AV → (AV → Sto → Ω) → Ω
  ca : AV → List AV → Sto → (AV → Sto → Ω) → Ω
  it : IntKind → BinOp → AV → AV → (AV → Ω) → Ω
  sr : BinOp → AV → AV → (AV → Ω) → Ω
  bo : BinOp → AV → AV → (AV → Ω) → Ω
  np : Sto → Option Nat → Option Nat → BinOp → AV → AV → (AV → Ω) → Ω
  nn : Sto → Option Nat → Option Nat → Option Nat → BinOp → AV → AV → (AV → Ω) → Ω
  nt : AV → (AV → Ω) → Ω
  ci : IntKind → AV → (AV → Ω) → Ω
  ay : Sto → En → Nat → Nat → (AV → Sto → Ω) → Ω
  gk : AV → Bool → Sto → ((AV → Sto → Ω) → Ω) → (AV → Sto → Ω) → Ω
  fu : Sto → TypeId → Nat → Nat → AV → AV → AV → AV → (AV → Sto → Ω) → Ω
  fw : Sto → Nat → Nat → AV → AV → AV → AV → (AV → Sto → Ω) → Ω
  co : AV → Ω → Ω → Ω
  qr : AV → Sto → Ω
  pt : Nat → En → Sto → Ω
  ne : AV → AV → Ω
  eq : AV → AV → Ω
  eh : AV → Sto → List AV → Ω
section
variable {Ω : Type} (a : Alg Ω) (E : Env) (f N : Nat)
abbrev rG (x : AV) : AV := match x with
  | .pv (.sc (.int .i64 n)) => a.cI n
  | .pv (.sc (.bool b)) => a.cB b
  | .pv (.sc (.string b)) => a.cS (b.data.toList.map UInt8.toNat)
  | x => x
abbrev oG {α : Type} (x : Option α) (K : α → Ω) : Ω := match x with
  | some x => K x
  | none => a.no
abbrev evG (lk : Lk) : Operand → Option AV
  | .tmp t => lk t
  | .const v => some (rG a (ofConst v))
  | .global g => some (.gptr g 0)
  | .func f => some (.func (.func f) [] [])
noncomputable abbrev evGs (lk : Lk) (l : List Operand) (K : List AV → Ω) : Ω :=
  List.rec (motive := fun _ => (List AV → Ω) → Ω) (fun K => K []) (fun x _ ih K => oG a (evG a lk x) fun v => ih fun vs => K (v :: vs)) l K
noncomputable abbrev evGp (lk : Lk) (pl : Nat → Option (Nat × Nat)) (l : List (Nat × Operand)) (K : List (Nat × Nat × AV) → Ω) : Ω :=
  List.rec (motive := fun _ => (List (Nat × Nat × AV) → Ω) → Ω) (fun K => K []) (fun x _ ih K => oG a (pl x.1) fun q => oG a (evG a lk x.2) fun v => ih fun vs => K ((q.1, q.2, v) :: vs)) l K
abbrev evGo (lk : Lk) (x : Option Operand) (K : Option AV → Ω) : Ω := match x with
  | none => K none
  | some x => oG a (evG a lk x) fun v => K (some v)
abbrev nlG (lk : Lk) (x : Operand) : Option Nat := match x with
  | .tmp t => match lk t with
    | some v => a.nv v
    | none => none
  | x => nilL lk x
noncomputable abbrev zG (l : List AV) : List AV := List.rec [] (fun x _ ih => rG a x :: ih) l
noncomputable abbrev opG (p i : Nat) (en : En) (lk : Lk) (s : Sto) (o : Oper) (K : AV → Sto → Ω) : Ω := match o.op with
  | .move x => oG a (evG a lk x) fun x => K x s
  | .assign x => oG a (evG a lk x) fun x => K x s
  | .pick c x y => oG a (evG a lk c) fun c => oG a (evG a lk x) fun x => oG a (evG a lk y) fun y => a.pk c x y fun v => K v s
  | .alloc t => oG a (zeroOf E.P t) fun z => match E.bz t with
    | true => match z with
      | .pv (.sc (.pointer none)) :: r => a.nw s (.bz (a.ln s) t (r.length + 1) :: zG a r) K
      | z => a.nw s (zG a z) K
    | false => a.nw s (zG a z) K
  | .box t x => oG a (evG a lk x) fun x => match E.bz t with
    | true => a.bz s t x K
    | false => a.bx s x K
  | .build t ps => oG a (zeroOf E.P t) fun z => match E.P.underlying t with
    | some (.struct l) => evGp a lk (placeF E.P l) ps.toList fun ps => a.bu (zG a z) ps fun v => K v s
    | _ => oG a (placeT E.P t) fun pl => evGp a lk pl ps.toList fun ps => a.bu (zG a z) ps fun v => K v s
  | .buildSlice t len ps => oG a (elemS E.P t) fun e => match e with
    | (e, i, z) => evGp a lk (fun j => some (j * i.size, i.size)) ps.toList fun ps => a.bs (E.mu f e && !E.mu f (e + 1000000)) s i.size (zG a z) len ps K
  | .load t x => oG a (evG a lk x) fun x => oG a (ldK E.P t) fun k => a.ld s k x fun v => K v s
  | .store t y x => oG a (evG a lk y) fun y => oG a (evG a lk x) fun x => oG a (sizeA E.P t) fun k => a.st s k y x fun s => K (.tuple []) s
  | .nilCheck x => oG a (evG a lk x) fun x => a.ni s x fun v => K v s
  | .fieldAddr t x i => oG a (evG a lk x) fun x => oG a (offF E.P t i) fun d => a.fa s x d.offset fun v => K v s
  | .field t x i => oG a (evG a lk x) fun x => oG a (offF E.P t i) fun d => oG a (ldK E.P d.type) fun k => a.fl k x d.offset fun v => K v s
  | .indexAddr t x i => oG a (evG a lk x) fun x => oG a (evG a lk i) fun i => oG a (elemS E.P t) fun e => a.ix s e.2.1.size x i fun v => K v s
  | .extract x i => oG a (evG a lk x) fun x => a.ex x i fun v => K v s
  | .makeFunc fn x y => evGs a lk x.toList fun x => evGs a lk y.toList fun y => K (.func fn x y) s
  | .makeInterface t x => oG a (evG a lk x) fun x => K (.iface t x) s
  | .slice t x lo hi mx => match E.P.underlying t with
    | some (.slice e) => oG a (sizeA E.P e) fun k => oG a (evG a lk x) fun x => evGo a lk lo fun lo => evGo a lk hi fun hi => evGo a lk mx fun mx => a.sl s k x lo hi mx fun v => K v s
    | _ => a.ay s en p i K
  | .call c => match c.callee with
    | .builtin .len => match c.args.toList, c.argTypes.toList with
      | [x], [t] => oG a (evG a lk x) fun x => match E.P.underlying t with
        | some .string => a.sn x fun v => K v s
        | _ => a.le s x fun v => K v s
      | _, _ => a.no
    | .builtin .append => match c.args.toList, c.argTypes.toList with
      | [x, y], t :: _ => oG a (evG a lk x) fun x => oG a (evG a lk y) fun y => oG a (elemS E.P t) fun e => a.an (a.sz e.2.2.length e.2.1.size) (a.ap (E.mu f e.1) s e.1 e.2.1.size e.2.1.bytes x y K)
      | _, _ => a.no
    | .builtin _ => a.ay s en p i K
    | .value g => oG a (evG a lk g) fun g => evGs a lk c.args.toList fun l => a.ca g l s K
    | _ => a.no
  | .binOp op t x y _ => oG a (evG a lk x) fun u => oG a (evG a lk y) fun v => match E.P.underlying t with
    | some (.int k) => a.it k op u v fun v => K v s
    | some .string => a.sr op u v fun v => K v s
    | some .bool => a.bo op u v fun v => K v s
    | some (.interface _) => a.ay s en p i K
    | some (.pointer _) => a.np s (nlG a lk x) (nlG a lk y) op u v fun v => K v s
    | _ => a.nn s (typeKind E.P t) (nlG a lk x) (nlG a lk y) op u v fun v => K v s
  | .unOp op _ x => match op with
    | .not => oG a (evG a lk x) fun x => a.nt x fun v => K v s
    | _ => a.ay s en p i K
  | .index t x j => match E.P.underlying t with
    | some .string => oG a (evG a lk x) fun x => oG a (evG a lk j) fun j => a.si x j fun v => K v s
    | _ => a.ay s en p i K
  | .convert t u x => match E.P.underlying t, E.P.underlying u with
    | some (.int _), some (.int k) => oG a (evG a lk x) fun x => a.ci k x fun v => K v s
    | _, _ => a.ay s en p i K
  | _ => a.ay s en p i K
abbrev gdG (ops : Array Oper) (lk : Lk) (s : Sto) (o : Oper) (W : (AV → Sto → Ω) → Ω) (K : AV → Sto → Ω) : Ω := match o.guard with
  | none => W K
  | some (_, want) => match guardTmp ops o with
    | none => K (.tuple []) s
    | some t => oG a (lk t) fun g => a.gk g want s W K
abbrev puG (d : Option Nat) (v : AV) (en : En) : En := match d with
  | none => en
  | some d => (d, v) :: en
noncomputable abbrev fsG (k : Fuse) (x : Bool) (en : En) (s : Sto) (K : En → Sto → Ω) : Ω :=
  oG a (elemS E.P k.t) fun e => oG a (evG a (lkE en) k.x) fun u => oG a (evG a (lkE en) k.y) fun y => oG a (evG a (lkE en) k.ix) fun ix => oG a (evG a (lkE en) k.v) fun v => match x && E.mu f e.1 with
    | true => a.an (a.fm k.te e.1 e.2.2.length e.2.1.size) (a.fw s e.2.1.size e.2.1.bytes u y ix v fun r s => K ((k.p, .junk) :: (k.d, r) :: en) s)
    | false => a.an (a.fz (E.mu f e.1) k.te e.1 e.2.2.length e.2.1.size) (a.fu s e.1 e.2.1.size e.2.1.bytes u y ix v fun r s => K ((k.p, .junk) :: (k.d, r) :: en) s)
noncomputable abbrev inG (p : Nat) (ops : Array Oper) (l : List Ins) : Nat → En → Sto → (En → Sto → Ω) → Ω :=
  List.rec (motive := fun _ => Nat → En → Sto → (En → Sto → Ω) → Ω) (fun _ en s K => K en s)
    (fun (i : Ins) _ ih n en s K => match i with
      | .one o => gdG a ops (lkE en) s o (opG a E f p n en (lkE en) s o) fun v s => ih (n + 1) (puG o.dst v en) s K
      | .fus k => fsG a E f k false en s fun en s => ih (n + 3) en s K) l
noncomputable abbrev qG (p i : Nat) (ops : Array Oper) (en : En) (lk : Lk) (s : Sto) (o : Oper) (K : AV → Ω) : Ω := match o.op with
  | .makeSlice _ l c => gdG a ops lk s o (fun K => oG a (evG a lk l) fun l => oG a (evG a lk c) fun c => a.an (a.eq l (a.cI 0)) (a.an (a.eq c (a.cI 0)) (K (.capped []) s))) fun v _ => K v
  | _ => gdG a ops lk s o (opG a E f p i en lk s o) fun v _ => K v
noncomputable abbrev f1G (p : Nat) (ops : Array Oper) (cls : List Cls) (l : List Nat) : En → Sto → (En → Sto → Ω) → Ω :=
  List.rec (motive := fun _ => En → Sto → (En → Sto → Ω) → Ω) (fun en s K => K en s)
    (fun (i : Nat) _ ih en s K => match ops[i]?, cls[i]? with
      | some o, some (.q _) => qG a E f p i ops en (lkE en) s o fun v => ih (puG o.dst v en) s K
      | some o, some (.h _) => match o.op with
        | .alloc t => oG a (zeroOf E.P t) fun z => ih (puG o.dst (.ptr (a.ln s) 0) en) (a.ps s (zG a z)) K
        | _ => a.no
      | _, _ => a.no) l
noncomputable abbrev rsG (p : Nat) (ops : Array Oper) (cls : List Cls) (l : List Nat) : En → Sto → List Sto → (En → Sto → List Sto → Ω) → Ω :=
  List.rec (motive := fun _ => En → Sto → List Sto → (En → Sto → List Sto → Ω) → Ω) (fun en s acc K => K en s acc)
    (fun (i : Nat) _ ih en s acc K => match ops[i]?, cls[i]? with
      | some o, some (.q _) => qG a E f p i ops en (lkE en) s o fun v => ih (puG o.dst v en) s acc K
      | some o, some (.w _) => gdG a ops (lkE en) s o (opG a E f p i en (lkE en) s o) fun v s => ih (puG o.dst v en) s (s :: acc) K
      | some o, some (.fa _ j x) => match ops[j]?, ops[x]? with
        | some o1, some o2 => oG a (fused o o1 o2) fun k => fsG a E f k true en s fun en s => ih en s (s :: acc) K
        | _, _ => a.no
      | _, _ => ih en s acc K) l
noncomputable abbrev ckG (p : Nat) (ops : Array Oper) (cls : List Cls) (war : List (List Nat)) (e0 e1 : En) (σ : List Sto) (l : List (Nat × Nat)) (K : Ω) : Ω :=
  List.rec (motive := fun _ => Ω) K
    (fun (q : Nat × Nat) _ ih => a.an (match ops[q.1]?, cls[q.1]?, σ[q.2]? with
      | some o, some (.q _), some s => qG a E f p q.1 ops e1 (lkAt war e0 e1 q.1) s o fun v => match o.dst with
        | some d => oG a (lkE e1 d) fun u => a.eq v u
        | none => a.ye
      | some o, some (.h _), some s => match o.op, o.dst with
        | .alloc t, some d => oG a (zeroOf E.P t) fun z => oG a (lkE e1 d) fun u => a.eh u s (zG a z)
        | _, _ => a.no
      | _, _, _ => a.no) ih) l
noncomputable abbrev mrG (ops : Array Oper) (p : Plan) (e0 e1 : En) (r : AV) (l : List Nat) (K : Ω) : Ω :=
  List.rec (motive := fun _ => Ω) K (fun (m : Nat) _ ih => match ops[m]?, p.cls[m]? with
    | some om, some (.w _) => match om.op with
      | .store _ y _ => a.an (oG a (evG a (lkAt p.war e0 e1 m) y) fun x => a.ne x r) ih
      | _ => ih
    | _, _ => ih) l
noncomputable abbrev muG (ops : Array Oper) (p : Plan) (e0 e1 : En) (l : List Nat) (K : Ω) : Ω :=
  List.rec (motive := fun _ => Ω) K (fun (i : Nat) _ ih => match p.cls[i]? with
    | some (.fa _ j x) => match muFa E (LFE E f 0 0 0) ops i j x with
      | true => match ops[i]? with
        | some o => match o.dst with
          | some d => oG a (lkE e1 d) fun r => mrG a ops p e0 e1 r p.rest ih
          | none => ih
        | none => ih
      | false => ih
    | _ => ih) l
noncomputable abbrev rgG (q : Nat) (p : Plan) (ops : Array Oper) (en : En) (s : Sto) (K : En → Sto → Ω) : Ω :=
  f1G a E f q ops p.cls p.first en s fun e1 s1 => rsG a E f q ops p.cls p.rest e1 s1 [s1] fun e2 s2 acc => match noMu E (LFE E f 0 0 0) ops p.cls p.rest with
    | true => ckG a E f q ops p.cls p.war en e2 acc.reverse p.chk (K e2 s2)
    | false => muG a E f ops p en e2 p.rest (ckG a E f q ops p.cls p.war en e2 acc.reverse p.chk (K e2 s2))
inductive FrG where
  | seq (p : Nat) (b : Code)
  | blk (id : Nat)
  | loop (p : Nat) (b : Code)
noncomputable abbrev reG (lk : Lk) (s : Sto) (rs : List ResultVar) : (List AV → Ω) → Ω :=
  List.rec (motive := fun _ => (List AV → Ω) → Ω) (fun K => K [])
    (fun (r : ResultVar) _ ih K => match r with
      | .tmp t => oG a (lk t) fun v => ih fun vs => K (v :: vs)
      | .cell c t => oG a (lk c) fun c => oG a (ldK E.P t) fun k => a.ld s k c fun v => ih fun vs => K (v :: vs)) rs
variable (lv : Nat → List Nat) (ct : Nat → Bool) (rs : List ResultVar)
noncomputable abbrev ueG (ks : List FrG) : Option Nat → En → Sto → Ω :=
  List.rec (motive := fun _ => Option Nat → En → Sto → Ω)
    (fun o en s => match o with
      | none => reG a E (lkE en) s rs fun vs => a.qr (packA vs) s
      | some _ => a.no)
    (fun (fr : FrG) _ ih o en s => match fr with
      | .seq p b => match o with
        | none => match b with
          | .ret => reG a E (lkE en) s rs fun vs => a.qr (packA vs) s
          | .skip => ih none en s
          | .exit j => ih (some j) en s
          | b => a.pt p (prune lv b en) s
        | some j => ih (some j) en s
      | .blk id => match o with
        | none => ih none en s
        | some j => match Nat.beq j id with
          | true => ih none en s
          | false => ih (some j) en s
      | .loop p b => match o with
        | none => a.pt p (prune lv b en) s
        | some j => ih (some j) en s) ks
noncomputable abbrev wpG (c : Code) : Nat → List FrG → En → Sto → Ω :=
  Code.rec (motive := fun _ => Nat → List FrG → En → Sto → Ω)
    (fun _ ks en s => ueG a E lv rs ks none en s)
    (fun id ops d p ks en s => match d with
      | false => inG a E f p ops (insts ops.toList) 0 en s fun en s => ueG a E lv rs ks none en s
      | true => oG a (E.plan f id) fun q => rgG a E f p q ops en s fun en s => ueG a E lv rs ks none en s)
    (fun x b iha ihb p ks en s => match x with
      | .region id ops d => match d with
        | false => inG a E f (2 * p) ops (insts ops.toList) 0 en s fun en s => match cutB ct b with
          | true => a.pt (2 * p + 1) (prune lv b en) s
          | false => ihb (2 * p + 1) ks en s
        | true => oG a (E.plan f id) fun q => rgG a E f (2 * p) q ops en s fun en s => match cutB ct b with
          | true => a.pt (2 * p + 1) (prune lv b en) s
          | false => ihb (2 * p + 1) ks en s
      | _ => iha (2 * p) (.seq (2 * p + 1) b :: ks) en s)
    (fun c _ _ iha ihb p ks en s => oG a (evG a (lkE en) c) fun c => a.co c (iha (2 * p) ks en s) (ihb (2 * p + 1) ks en s))
    (fun id _ ih p ks en s => ih (2 * p) (.blk id :: ks) en s)
    (fun b _ p ks en s => a.pt p (prune lv b en) s)
    (fun g ps x b _ _ p ks en s => a.pt p (prune lv (.rangeFunc g ps x b) en) s)
    (fun j _ ks en s => ueG a E lv rs ks (some j) en s)
    (fun _ _ _ _ _ _ => a.no)
    (fun _ _ _ _ _ => a.no)
    (fun _ _ _ _ _ => a.no)
    (fun _ _ en s => reG a E (lkE en) s rs fun vs => a.qr (packA vs) s)
    (fun _ _ _ _ _ => a.no) c
end
def cF (_ : Nat) : Bool := false
noncomputable def pth (n : Nat) : List Nat := Nat.rec (fun _ l => l) (fun _ h n l => bif Nat.ble n 1 then l else h (Nat.div n 2) (Nat.mod n 2::l)) 64 n []
noncomputable def aG (l : List Nat) : Code → List Frame → Code × List Frame := List.rec (fun c k => (c, k)) (fun i _ h c k => match c with
  | .seq a b => Nat.rec (h a (.seq b :: k)) (fun _ _ => h b k) i
  | .cond _ a b => Nat.rec (h a k) (fun _ _ => h b k) i
  | .block j b => h b (.blk j :: k)
  | .loop b => h b (.loop b :: k)
  | _ => (c, k)) l
noncomputable def aT (c : Code) (n : Nat) : Code × List Frame := aG (pth n) c []
noncomputable def aGG (l : List Nat) : Nat → Code → List FrG → Nat × Code × List FrG := List.rec (fun p c k => (p, c, k)) (fun i _ h p c k => match c with
  | .seq a b => Nat.rec (h (2 * p) a (.seq (2 * p + 1) b :: k)) (fun _ _ => h (2 * p + 1) b k) i
  | .cond _ a b => Nat.rec (h (2 * p) a k) (fun _ _ => h (2 * p + 1) b k) i
  | .block j b => h (2 * p) b (.blk j :: k)
  | .loop b => h (2 * p) b (.loop p b :: k)
  | _ => (p, c, k)) l
noncomputable def ln (l : List (List Nat)) : Nat → List Nat := List.rec (fun _ => []) (fun a _ ih n => Nat.rec a (fun m _ => ih m) n) l
noncomputable abbrev ptG {Ω : Type} (a : Alg Ω) (E : Env) (f : Nat) (lv : Nat → List Nat) (ct : Nat → Bool) (rs : List ResultVar) (b : Code) (p : Nat) (en : En) (s : Sto) : Ω := match aGG (pth p) 1 b [] with
  | (p, c, ks) => match c with
    | .loop c => wpG a E f lv ct rs c (2 * p) (.loop p c :: ks) en s
    | .rangeFunc _ _ _ _ => a.no
    | c => wpG a E f lv ct rs c p ks en s
def Wf (E : Env) (f : Nat) (fn : Func) (n0 ro rt p : Nat) (en : En) (s : Sto) (Q : AV → Sto → Prop) : Prop := Wp E (LFE E f n0 ro rt) fn.ntmps fn.results.toList (aT (fn.body.getD .skip) p).1 (aT (fn.body.getD .skip) p).2 en s Q
abbrev sN (l : List Nat) : AV := SS (l.map UInt8.ofNat)
abbrev lnS (s : Sto) : Nat := s.bs.length
abbrev psS (s : Sto) (z : List AV) : Sto := ⟨s.bs ++ [z], s.ts⟩
abbrev szP (a b : Nat) : Prop := a = b ∧ b ≠ 0
abbrev fzP (m : Bool) (t e a b : Nat) : Prop := m = false ∧ t = e ∧ a = b ∧ b ≠ 0
abbrev fmP (t e a b : Nat) : Prop := t = e ∧ a = b ∧ b ≠ 0
abbrev apP (L : Lim) (m : Bool) (s : Sto) (e k b : Nat) (x y : AV) (K : AV → Sto → Prop) : Prop := wApp m L s e k b x y K
abbrev ayP (E : Env) (L : Lim) (fn : Func) (s : Sto) (en : En) (p i : Nat) (K : AV → Sto → Prop) : Prop := wAnyT E L s (lkE en) (opOf (aT (fn.body.getD .skip) p).1 i) K
abbrev gkP (g : AV) (w : Bool) (s : Sto) (W : (AV → Sto → Prop) → Prop) (K : AV → Sto → Prop) : Prop := wGK g w s W K
abbrev eqaP (a b : AV) : Prop := eqA a b = true
abbrev ehP (u : AV) (s : Sto) (z : List AV) : Prop := wO (idOf u) fun id => wO s.bs[id]? fun cs => eqAL cs z = true
noncomputable abbrev wpcT (E : Env) (L : Lim) (N : Nat) (lv : Nat → List Nat) (ct : Nat → Bool) (rs : List ResultVar) (Q : AV → Sto → Prop) (q : Code × List Frame) (en : En) (s : Sto) : Prop := match q.1 with
  | .loop c => wpc E L N lv ct rs Q c (.loop c :: q.2) en s
  | c => wpc E L N lv ct rs Q c q.2 en s
theorem wpcT_sound {E : Env} {L : Lim} {N : Nat} {lv : Nat → List Nat} {ct : Nat → Bool} {rs : List ResultVar} {Q : AV → Sto → Prop} {q : Code × List Frame} {en : En} {s : Sto} (h : wpcT E L N lv ct rs Q q en s) : Wp E L N rs q.1 q.2 en s Q := by
  obtain ⟨c, ks⟩ := q
  cases c <;> first | exact wpl_sound (lv := lv) (ct := ct) h | exact wpc_sound (lv := lv) (ct := ct) _ _ _ _ h
theorem pD {E : Env} {f n0 ro rt p : Nat} {fn : Func} {en : En} {X : ∀ Ω : Type, (Int → AV) → (Bool → AV) → (List Nat → AV) → (Sto → Nat) → (Sto → List AV → Sto) → (AV → Option Nat) → Ω → Ω → (Ω → Ω → Ω) → (Nat → Nat → Ω) → (Bool → Nat → Nat → Nat → Nat → Ω) → (Nat → Nat → Nat → Nat → Ω) → (AV → AV → AV → (AV → Ω) → Ω) → (Sto → List AV → (AV → Sto → Ω) → Ω) → (Sto → AV → (AV → Sto → Ω) → Ω) → (Sto → TypeId → AV → (AV → Sto → Ω) → Ω) → (List AV → List (Nat × Nat × AV) → (AV → Ω) → Ω) → (Bool → Sto → Nat → List AV → Nat → List (Nat × Nat × AV) → (AV → Sto → Ω) → Ω) → (Sto → Option Nat → AV → (AV → Ω) → Ω) → (Sto → Nat → AV → AV → (Sto → Ω) → Ω) → (Sto → AV → (AV → Ω) → Ω) → (Sto → AV → Nat → (AV → Ω) → Ω) → (Option Nat → AV → Nat → (AV → Ω) → Ω) → (Sto → Nat → AV → AV → (AV → Ω) → Ω) → (AV → Nat → (AV → Ω) → Ω) → (Sto → Nat → AV → Option AV → Option AV → Option AV → (AV → Ω) → Ω) → (Sto → AV → (AV → Ω) → Ω) → (AV → (AV → Ω) → Ω) → (AV → AV → (AV → Ω) → Ω) → (Bool → Sto → TypeId → Nat → Nat → AV → AV → (AV → Sto → Ω) → Ω) → (AV → List AV → Sto → (AV → Sto → Ω) → Ω) → (IntKind → BinOp → AV → AV → (AV → Ω) → Ω) → (BinOp → AV → AV → (AV → Ω) → Ω) → (BinOp → AV → AV → (AV → Ω) → Ω) → (Sto → Option Nat → Option Nat → BinOp → AV → AV → (AV → Ω) → Ω) → (Sto → Option Nat → Option Nat → Option Nat → BinOp → AV → AV → (AV → Ω) → Ω) → (AV → (AV → Ω) → Ω) → (IntKind → AV → (AV → Ω) → Ω) → (Sto → En → Nat → Nat → (AV → Sto → Ω) → Ω) → (AV → Bool → Sto → ((AV → Sto → Ω) → Ω) → (AV → Sto → Ω) → Ω) → (Sto → TypeId → Nat → Nat → AV → AV → AV → AV → (AV → Sto → Ω) → Ω) → (Sto → Nat → Nat → AV → AV → AV → AV → (AV → Sto → Ω) → Ω) → (AV → Ω → Ω → Ω) → (AV → Sto → Ω) → (Nat → En → Sto → Ω) → (AV → AV → Ω) → (AV → AV → Ω) → (AV → Sto → List AV → Ω) → Sto → Ω} {A : Sto → (AV → Sto → Prop) → Prop} (lv : Nat → List Nat) (ct : Nat → Bool) (P : Sto → (AV → Sto → Prop) → Prop)
    (e0 : P = Wf E f fn n0 ro rt p en := by exact rfl)
    (e1 : ∀ Ω f0 f1 f2 f3 f4 f5 f6 f7 f8 f9 f10 f11 f12 f13 f14 f15 f16 f17 f18 f19 f20 f21 f22 f23 f24 f25 f26 f27 f28 f29 f30 f31 f32 f33 f34 f35 f36 f37 f38 f39 f40 f41 f42 f43 f44 f45 f46 f47 s, X Ω f0 f1 f2 f3 f4 f5 f6 f7 f8 f9 f10 f11 f12 f13 f14 f15 f16 f17 f18 f19 f20 f21 f22 f23 f24 f25 f26 f27 f28 f29 f30 f31 f32 f33 f34 f35 f36 f37 f38 f39 f40 f41 f42 f43 f44 f45 f46 f47 s = ptG ⟨f0, f1, f2, f3, f4, f5, f6, f7, f8, f9, f10, f11, f12, f13, f14, f15, f16, f17, f18, f19, f20, f21, f22, f23, f24, f25, f26, f27, f28, f29, f30, f31, f32, f33, f34, f35, f36, f37, f38, f39, f40, f41, f42, f43, f44, f45, f46, f47⟩ E f lv ct fn.results.toList (fn.body.getD .skip) p en s := by (intros; conv => (rhs; reduce; try simp only [Int.reduceOfNat, Int.reduceNegSucc])))
    (e2 : A = fun s Q => X Prop I64 BB sN lnS psS nilV False True And szP fzP fmP wPick wNew wBox wBoxZ wBuild wBsl (wLd E) (wSt (LFE E f n0 ro rt)) wNil wFad wFld wIdx wExt wSlc wLen wSlen wSidx (apP (LFE E f n0 ro rt)) (wCall E (LFE E f n0 ro rt)) wInt wStr wBool wNeP wNeN wNot wConvI (ayP E (LFE E f n0 ro rt) fn) gkP (wFu (LFE E f n0 ro rt)) (wFuM (LFE E f n0 ro rt)) wCond Q (fun p en s => Wf E f fn n0 ro rt p en s Q) neId eqaP ehP s := by (conv => (rhs; dsimp only [sN, lnS, psS, szP, fzP, fmP, apP, ayP, gkP, eqaP, ehP, List.map, UInt8.reduceOfNat])))
    (e3 : ∀ s Q, A s Q = wpcT E (LFE E f n0 ro rt) fn.ntmps lv ct fn.results.toList Q (aT (fn.body.getD .skip) p) en s := by (intros; kernel_rfl)) ⦃s : Sto⦄ ⦃Q : AV → Sto → Prop⦄ (h : A s Q) : P s Q := by
  rw [e0]
  exact wpcT_sound (e3 s Q ▸ h)
section
variable (E : (Nat → Option (List PV)) → Env) (f : Nat) (fn : Func) (p : Nat)
abbrev k0 (R : Nat → Option (List PV)) (n0 ro rt : Nat) := Wf (E R) f fn n0 ro rt p []
abbrev k1 (a0 : Nat) (R : Nat → Option (List PV)) (n0 ro rt : Nat) (x0 : AV) := Wf (E R) f fn n0 ro rt p [(a0, x0)]
abbrev k2 (a0 a1 : Nat) (R : Nat → Option (List PV)) (n0 ro rt : Nat) (x0 x1 : AV) := Wf (E R) f fn n0 ro rt p [(a0, x0), (a1, x1)]
abbrev k3 (a0 a1 a2 : Nat) (R : Nat → Option (List PV)) (n0 ro rt : Nat) (x0 x1 x2 : AV) := Wf (E R) f fn n0 ro rt p [(a0, x0), (a1, x1), (a2, x2)]
abbrev k4 (a0 a1 a2 a3 : Nat) (R : Nat → Option (List PV)) (n0 ro rt : Nat) (x0 x1 x2 x3 : AV) := Wf (E R) f fn n0 ro rt p [(a0, x0), (a1, x1), (a2, x2), (a3, x3)]
abbrev k5 (a0 a1 a2 a3 a4 : Nat) (R : Nat → Option (List PV)) (n0 ro rt : Nat) (x0 x1 x2 x3 x4 : AV) := Wf (E R) f fn n0 ro rt p [(a0, x0), (a1, x1), (a2, x2), (a3, x3), (a4, x4)]
abbrev k6 (a0 a1 a2 a3 a4 a5 : Nat) (R : Nat → Option (List PV)) (n0 ro rt : Nat) (x0 x1 x2 x3 x4 x5 : AV) := Wf (E R) f fn n0 ro rt p [(a0, x0), (a1, x1), (a2, x2), (a3, x3), (a4, x4), (a5, x5)]
abbrev k7 (a0 a1 a2 a3 a4 a5 a6 : Nat) (R : Nat → Option (List PV)) (n0 ro rt : Nat) (x0 x1 x2 x3 x4 x5 x6 : AV) := Wf (E R) f fn n0 ro rt p [(a0, x0), (a1, x1), (a2, x2), (a3, x3), (a4, x4), (a5, x5), (a6, x6)]
abbrev k8 (a0 a1 a2 a3 a4 a5 a6 a7 : Nat) (R : Nat → Option (List PV)) (n0 ro rt : Nat) (x0 x1 x2 x3 x4 x5 x6 x7 : AV) := Wf (E R) f fn n0 ro rt p [(a0, x0), (a1, x1), (a2, x2), (a3, x3), (a4, x4), (a5, x5), (a6, x6), (a7, x7)]
abbrev k9 (a0 a1 a2 a3 a4 a5 a6 a7 a8 : Nat) (R : Nat → Option (List PV)) (n0 ro rt : Nat) (x0 x1 x2 x3 x4 x5 x6 x7 x8 : AV) := Wf (E R) f fn n0 ro rt p [(a0, x0), (a1, x1), (a2, x2), (a3, x3), (a4, x4), (a5, x5), (a6, x6), (a7, x7), (a8, x8)]
abbrev k10 (a0 a1 a2 a3 a4 a5 a6 a7 a8 a9 : Nat) (R : Nat → Option (List PV)) (n0 ro rt : Nat) (x0 x1 x2 x3 x4 x5 x6 x7 x8 x9 : AV) := Wf (E R) f fn n0 ro rt p [(a0, x0), (a1, x1), (a2, x2), (a3, x3), (a4, x4), (a5, x5), (a6, x6), (a7, x7), (a8, x8), (a9, x9)]
abbrev k11 (a0 a1 a2 a3 a4 a5 a6 a7 a8 a9 a10 : Nat) (R : Nat → Option (List PV)) (n0 ro rt : Nat) (x0 x1 x2 x3 x4 x5 x6 x7 x8 x9 x10 : AV) := Wf (E R) f fn n0 ro rt p [(a0, x0), (a1, x1), (a2, x2), (a3, x3), (a4, x4), (a5, x5), (a6, x6), (a7, x7), (a8, x8), (a9, x9), (a10, x10)]
abbrev k12 (a0 a1 a2 a3 a4 a5 a6 a7 a8 a9 a10 a11 : Nat) (R : Nat → Option (List PV)) (n0 ro rt : Nat) (x0 x1 x2 x3 x4 x5 x6 x7 x8 x9 x10 x11 : AV) := Wf (E R) f fn n0 ro rt p [(a0, x0), (a1, x1), (a2, x2), (a3, x3), (a4, x4), (a5, x5), (a6, x6), (a7, x7), (a8, x8), (a9, x9), (a10, x10), (a11, x11)]
abbrev k13 (a0 a1 a2 a3 a4 a5 a6 a7 a8 a9 a10 a11 a12 : Nat) (R : Nat → Option (List PV)) (n0 ro rt : Nat) (x0 x1 x2 x3 x4 x5 x6 x7 x8 x9 x10 x11 x12 : AV) := Wf (E R) f fn n0 ro rt p [(a0, x0), (a1, x1), (a2, x2), (a3, x3), (a4, x4), (a5, x5), (a6, x6), (a7, x7), (a8, x8), (a9, x9), (a10, x10), (a11, x11), (a12, x12)]
end
section
variable (E : Env) {f : FuncId} {fn : Func} {s : Sto} {P : AV → Prop} {P2 : AV → Sto → Prop} {L : Lim} {l l2 : List AV}
abbrev okV (E : Env) (f : FuncId) (fn : Func) (n : Nat) : Bool × Kind × Bool × Bool := (fn.body.isSome, E.kind f, E.clone f, Nat.ble n fn.ntmps)
theorem okV_all {k : Kind} {n : Nat} (e : okV E f fn n = (true, k, false, true)) : fn.body = some (fn.body.getD .skip) ∧ E.kind f = k ∧ E.clone f = false ∧ n ≤ fn.ntmps := by
  simp only [okV, Prod.mk.injEq] at e
  obtain ⟨e1, e2, e3, e4⟩ := e
  obtain ⟨b, e1⟩ := Option.isSome_iff_exists.1 e1
  exact ⟨by simp [e1], e2, e3, Nat.le_of_ble_eq_true e4⟩
theorem rdL (hf : E.P.funcs[f]? = some fn) (e : okV E f fn l.length = (true, .rd, false, true)) (hc : closeL [] 0 0 l = some l2) (h : Wf E f fn 0 0 0 1 (argEnv 0 l2) ⟨[], []⟩ (QP P)) : PureC E f l P :=
  have ⟨a, b, c, d⟩ := okV_all E e
  call_rd hf a b c d hc h
theorem riL (hf : E.P.funcs[f]? = some fn) (e : okV E f fn l.length = (true, .rd, false, true)) (hc : closeL [] 0 0 l = none) (h : Wf E f fn s.bs.length s.bs.length s.ts.length 1 (argEnv 0 l) s (QI s.bs.length s.ts.length P)) : ∃ v, P v ∧ ∀ L, CallE E L f l s v s :=
  have ⟨a, b, c, d⟩ := okV_all E e
  call_rdI hf a b c d hc h
theorem ipL (hf : E.P.funcs[f]? = some fn) (e : okV E f fn l.length = (true, .im, false, true)) (hc : noIdL l = true) (h : Wf E f fn 0 0 0 1 (argEnv 0 l) ⟨[], []⟩ (QP P)) : PureC E f l P :=
  have ⟨a, b, c, d⟩ := okV_all E e
  call_imp hf a b c d hc h
theorem imL (hf : E.P.funcs[f]? = some fn) (e : okV E f fn l.length = (true, .im, false, true)) (hc : noIdL l = false) (h : Wf E f fn 0 L.ro L.rt 1 (argEnv 0 l) s (QM (L.rr f) s.bs.length P2)) : ∃ v s', P2 v s' ∧ CallE E L f l s v s' :=
  have ⟨a, b, c, d⟩ := okV_all E e
  call_im hf a b c d hc h
theorem stL (hf : E.P.funcs[f]? = some fn) (e : okV E f fn l.length = (true, .st, false, true)) (h : Wf E f fn 0 L.ro L.rt 1 (argEnv 0 l) s (QM (L.rr f) s.bs.length P2)) : ∃ v s', P2 v s' ∧ CallE E L f l s v s' :=
  have ⟨a, b, c, d⟩ := okV_all E e
  call_st hf a b c d h
theorem esL (hf : E.P.funcs[f]? = some fn) (e : okV E f fn l.length = (true, .esc, false, true)) (h : Wf E f fn L.n0 L.ro L.rt 1 (argEnv 0 l) s P2) : ∃ v s', P2 v s' ∧ CallE E L f l s v s' :=
  have ⟨a, b, c, d⟩ := okV_all E e
  call_esc hf a b c d h
end
section
variable (E : Env) {f : FuncId} {fn : Func} (hf : E.P.funcs[f]? = some fn)
include hf
theorem rd0 (e : okV E f fn 0 = (true, .rd, false, true) := by kernel_rfl) ⦃Post : AV → Prop⦄ (hcl : closeL [] 0 0 [] = some []) (h : Wf E f fn 0 0 0 1 [] ⟨[], []⟩ (QP Post)) : PureC E f [] Post := rdL E hf e hcl h
theorem rd1 (e : okV E f fn 1 = (true, .rd, false, true) := by kernel_rfl) ⦃t0 : AV⦄ ⦃u0 : AV⦄ ⦃Post : AV → Prop⦄ (hcl : closeL [] 0 0 [t0] = some [u0]) (h : Wf E f fn 0 0 0 1 [(0, u0)] ⟨[], []⟩ (QP Post)) : PureC E f [t0] Post := rdL E hf e hcl h
theorem rd2 (e : okV E f fn 2 = (true, .rd, false, true) := by kernel_rfl) ⦃t0 t1 : AV⦄ ⦃u0 u1 : AV⦄ ⦃Post : AV → Prop⦄ (hcl : closeL [] 0 0 [t0, t1] = some [u0, u1]) (h : Wf E f fn 0 0 0 1 [(0, u0), (1, u1)] ⟨[], []⟩ (QP Post)) : PureC E f [t0, t1] Post := rdL E hf e hcl h
theorem rd3 (e : okV E f fn 3 = (true, .rd, false, true) := by kernel_rfl) ⦃t0 t1 t2 : AV⦄ ⦃u0 u1 u2 : AV⦄ ⦃Post : AV → Prop⦄ (hcl : closeL [] 0 0 [t0, t1, t2] = some [u0, u1, u2]) (h : Wf E f fn 0 0 0 1 [(0, u0), (1, u1), (2, u2)] ⟨[], []⟩ (QP Post)) : PureC E f [t0, t1, t2] Post := rdL E hf e hcl h
theorem ri2 (e : okV E f fn 2 = (true, .rd, false, true) := by kernel_rfl) ⦃t0 t1 : AV⦄ ⦃s : Sto⦄ ⦃Post : AV → Prop⦄ (hcl : closeL [] 0 0 [t0, t1] = none) (h : Wf E f fn s.bs.length s.bs.length s.ts.length 1 [(0, t0), (1, t1)] s (QI s.bs.length s.ts.length Post)) : ∃ v, Post v ∧ ∀ L, CallE E L f [t0, t1] s v s := riL E hf e hcl h
theorem ri3 (e : okV E f fn 3 = (true, .rd, false, true) := by kernel_rfl) ⦃t0 t1 t2 : AV⦄ ⦃s : Sto⦄ ⦃Post : AV → Prop⦄ (hcl : closeL [] 0 0 [t0, t1, t2] = none) (h : Wf E f fn s.bs.length s.bs.length s.ts.length 1 [(0, t0), (1, t1), (2, t2)] s (QI s.bs.length s.ts.length Post)) : ∃ v, Post v ∧ ∀ L, CallE E L f [t0, t1, t2] s v s := riL E hf e hcl h
theorem ip1 (e : okV E f fn 1 = (true, .im, false, true) := by kernel_rfl) ⦃t0 : AV⦄ ⦃Post : AV → Prop⦄ (hn : noIdL [t0] = true) (h : Wf E f fn 0 0 0 1 [(0, t0)] ⟨[], []⟩ (QP Post)) : PureC E f [t0] Post := ipL E hf e hn h
theorem ip2 (e : okV E f fn 2 = (true, .im, false, true) := by kernel_rfl) ⦃t0 t1 : AV⦄ ⦃Post : AV → Prop⦄ (hn : noIdL [t0, t1] = true) (h : Wf E f fn 0 0 0 1 [(0, t0), (1, t1)] ⟨[], []⟩ (QP Post)) : PureC E f [t0, t1] Post := ipL E hf e hn h
theorem im1 (e : okV E f fn 1 = (true, .im, false, true) := by kernel_rfl) ⦃t0 : AV⦄ ⦃L : Lim⦄ ⦃s : Sto⦄ ⦃Post : AV → Sto → Prop⦄ (hn : noIdL [t0] = false) (h : Wf E f fn 0 L.ro L.rt 1 [(0, t0)] s (QM (L.rr f) s.bs.length Post)) : ∃ v s', Post v s' ∧ CallE E L f [t0] s v s' := imL E hf e hn h
theorem im2 (e : okV E f fn 2 = (true, .im, false, true) := by kernel_rfl) ⦃t0 t1 : AV⦄ ⦃L : Lim⦄ ⦃s : Sto⦄ ⦃Post : AV → Sto → Prop⦄ (hn : noIdL [t0, t1] = false) (h : Wf E f fn 0 L.ro L.rt 1 [(0, t0), (1, t1)] s (QM (L.rr f) s.bs.length Post)) : ∃ v s', Post v s' ∧ CallE E L f [t0, t1] s v s' := imL E hf e hn h
theorem im3 (e : okV E f fn 3 = (true, .im, false, true) := by kernel_rfl) ⦃t0 t1 t2 : AV⦄ ⦃L : Lim⦄ ⦃s : Sto⦄ ⦃Post : AV → Sto → Prop⦄ (hn : noIdL [t0, t1, t2] = false) (h : Wf E f fn 0 L.ro L.rt 1 [(0, t0), (1, t1), (2, t2)] s (QM (L.rr f) s.bs.length Post)) : ∃ v s', Post v s' ∧ CallE E L f [t0, t1, t2] s v s' := imL E hf e hn h
theorem im4 (e : okV E f fn 4 = (true, .im, false, true) := by kernel_rfl) ⦃t0 t1 t2 t3 : AV⦄ ⦃L : Lim⦄ ⦃s : Sto⦄ ⦃Post : AV → Sto → Prop⦄ (hn : noIdL [t0, t1, t2, t3] = false) (h : Wf E f fn 0 L.ro L.rt 1 [(0, t0), (1, t1), (2, t2), (3, t3)] s (QM (L.rr f) s.bs.length Post)) : ∃ v s', Post v s' ∧ CallE E L f [t0, t1, t2, t3] s v s' := imL E hf e hn h
theorem st0 (e : okV E f fn 0 = (true, .st, false, true) := by kernel_rfl) ⦃L : Lim⦄ ⦃s : Sto⦄ ⦃Post : AV → Sto → Prop⦄ (h : Wf E f fn 0 L.ro L.rt 1 [] s (QM (L.rr f) s.bs.length Post)) : ∃ v s', Post v s' ∧ CallE E L f [] s v s' := stL E hf e h
theorem st1 (e : okV E f fn 1 = (true, .st, false, true) := by kernel_rfl) ⦃t0 : AV⦄ ⦃L : Lim⦄ ⦃s : Sto⦄ ⦃Post : AV → Sto → Prop⦄ (h : Wf E f fn 0 L.ro L.rt 1 [(0, t0)] s (QM (L.rr f) s.bs.length Post)) : ∃ v s', Post v s' ∧ CallE E L f [t0] s v s' := stL E hf e h
theorem st2 (e : okV E f fn 2 = (true, .st, false, true) := by kernel_rfl) ⦃t0 t1 : AV⦄ ⦃L : Lim⦄ ⦃s : Sto⦄ ⦃Post : AV → Sto → Prop⦄ (h : Wf E f fn 0 L.ro L.rt 1 [(0, t0), (1, t1)] s (QM (L.rr f) s.bs.length Post)) : ∃ v s', Post v s' ∧ CallE E L f [t0, t1] s v s' := stL E hf e h
theorem es1 (e : okV E f fn 1 = (true, .esc, false, true) := by kernel_rfl) ⦃t0 : AV⦄ ⦃L : Lim⦄ ⦃s : Sto⦄ ⦃Post : AV → Sto → Prop⦄ (h : Wf E f fn L.n0 L.ro L.rt 1 [(0, t0)] s Post) : ∃ v s', Post v s' ∧ CallE E L f [t0] s v s' := esL E hf e h
theorem es2 (e : okV E f fn 2 = (true, .esc, false, true) := by kernel_rfl) ⦃t0 t1 : AV⦄ ⦃L : Lim⦄ ⦃s : Sto⦄ ⦃Post : AV → Sto → Prop⦄ (h : Wf E f fn L.n0 L.ro L.rt 1 [(0, t0), (1, t1)] s Post) : ∃ v s', Post v s' ∧ CallE E L f [t0, t1] s v s' := esL E hf e h
theorem es3 (e : okV E f fn 3 = (true, .esc, false, true) := by kernel_rfl) ⦃t0 t1 t2 : AV⦄ ⦃L : Lim⦄ ⦃s : Sto⦄ ⦃Post : AV → Sto → Prop⦄ (h : Wf E f fn L.n0 L.ro L.rt 1 [(0, t0), (1, t1), (2, t2)] s Post) : ∃ v s', Post v s' ∧ CallE E L f [t0, t1, t2] s v s' := esL E hf e h
end
end Go.Tel
