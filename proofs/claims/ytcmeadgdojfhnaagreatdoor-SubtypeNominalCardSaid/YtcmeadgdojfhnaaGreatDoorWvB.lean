/-
  What a piece of code needs so that it answers as wanted: definitions.
-/
import Derived.Test.YtcmeadgdojfhnaaGreatDoorWvA
set_option linter.unusedSimpArgs false
set_option linter.unusedVariables false
namespace Go.Tel
abbrev En := List (Nat × AV)
noncomputable abbrev lkE (env : En) (t : Nat) : Option AV :=
  List.rec (motive := fun _ => Option AV) none (fun (p : Nat × AV) _ ih => bif Nat.beq t p.1 then some p.2 else ih) env
abbrev wPut (N : Nat) (d : Option Nat) (v : AV) (env : En) (K : En → Prop) : Prop := match d with
  | none => K env
  | some d => match Nat.blt d N with
    | true => K ((d, v) :: env)
    | false => False
def wGd (g : AV) (want : Bool) (A B : Prop) : Prop := match g with
  | .pv (.sc (.bool b)) => (b = want → A) ∧ (b ≠ want → B)
  | .tuple [] => B
  | _ => False
def wGK (g : AV) (want : Bool) (s : Sto) (W : (AV → Sto → Prop) → Prop) (K : AV → Sto → Prop) : Prop := wGd g want (W K) (K (.tuple []) s)
abbrev wGuarded (ops : Array Oper) (lk : Lk) (o : Oper) (s : Sto) (W : (AV → Sto → Prop) → Prop) (K : AV → Sto → Prop) : Prop := match o.guard with
  | none => W K
  | some (_, want) => match guardTmp ops o with
    | none => K (.tuple []) s
    | some d => wO (lk d) fun g => wGK g want s W K
abbrev wAct (E : Env) (L : Lim) (lk : Lk) (s : Sto) (o : Oper) (K : AV → Sto → Prop) : Prop := match o.op with
  | .call c => match c.callee with
    | .builtin _ => wOp E L lk s o K
    | .value f => wO (evL lk f) fun f => wO (evLs lk c.args.toList) fun args => wCall E L f args s K
    | _ => False
  | _ => wOp E L lk s o K
def wFu (L : Lim) (s : Sto) (e : TypeId) (k bytes : Nat) (x y ix v : AV) (K : AV → Sto → Prop) : Prop :=
  (∃ z, rowsOf y = some [z] ∧ z.length = k ∧ (z.map AV.pv).all okCell = true) ∧ natOfA ix = (rowsOf x).map List.length ∧ wRow L s e k bytes x v K
noncomputable abbrev wFus (E : Env) (L : Lim) (N : Nat) (k : Fuse) (env : En) (s : Sto) (K : En → Sto → Prop) : Prop :=
  wO (elemS E.P k.t) fun e => (L.mu e.1 = false ∧ k.te = e.1 ∧ e.2.2.length = e.2.1.size ∧ e.2.1.size ≠ 0) ∧
  wO (evL (lkE env) k.x) fun x => wO (evL (lkE env) k.y) fun y => wO (evL (lkE env) k.ix) fun ix => wO (evL (lkE env) k.v) fun v =>
    wFu L s e.1 e.2.1.size e.2.1.bytes x y ix v fun r s => wPut N (some k.d) r env fun env => wPut N (some k.p) .junk env fun env => K env s
def wFuM (L : Lim) (s : Sto) (k bytes : Nat) (x y ix v : AV) (K : AV → Sto → Prop) : Prop :=
  ∃ id len old zs, x = .ref id 0 len k ∧ natOfA ix = some len ∧ srcCells s k y = some zs ∧ s.bs[id]? = some old ∧
    (zs.length = k ∧ zs.all okCell = true ∧ (cellsOf v).length = k ∧ (cellsOf v).all okCell = true ∧ len * k ≤ old.length ∧ alive s id = true ∧ (len + 1) * bytes ≤ 2 ^ 45 ∧ len + 1 ≤ 2 ^ 45 ∧ L.ro ≤ id) ∧
    K (.ref s.bs.length 0 (len + 1) k) ⟨s.bs.set id [] ++ [old.take (len * k) ++ cellsOf v], s.ts⟩
noncomputable abbrev wFusX (E : Env) (L : Lim) (N : Nat) (k : Fuse) (env : En) (s : Sto) (K : En → Sto → Prop) : Prop :=
  wO (elemS E.P k.t) fun e => match L.mu e.1 with
  | false => (L.mu e.1 = false ∧ k.te = e.1 ∧ e.2.2.length = e.2.1.size ∧ e.2.1.size ≠ 0) ∧
    wO (evL (lkE env) k.x) fun x => wO (evL (lkE env) k.y) fun y => wO (evL (lkE env) k.ix) fun ix => wO (evL (lkE env) k.v) fun v =>
      wFu L s e.1 e.2.1.size e.2.1.bytes x y ix v fun r s => wPut N (some k.d) r env fun env => wPut N (some k.p) .junk env fun env => K env s
  | true => (k.te = e.1 ∧ e.2.2.length = e.2.1.size ∧ e.2.1.size ≠ 0) ∧
    wO (evL (lkE env) k.x) fun x => wO (evL (lkE env) k.y) fun y => wO (evL (lkE env) k.ix) fun ix => wO (evL (lkE env) k.v) fun v =>
      wFuM L s e.2.1.size e.2.1.bytes x y ix v fun r s => wPut N (some k.d) r env fun env => wPut N (some k.p) .junk env fun env => K env s
def neId (a r : AV) : Prop := ∀ id o id0 q l z, a = .ptr id o → r = .ref id0 q l z → id ≠ id0
inductive Ins where
  | one (o : Oper)
  | fus (k : Fuse)
def insts : List Oper → List Ins
  | [] => []
  | o :: rest =>
    let one := Ins.one o :: insts rest
    match rest with
    | o1 :: o2 :: rest' => match fused o o1 o2 with
      | some k => .fus k :: insts rest'
      | none => one
    | _ => one
noncomputable abbrev wIns (E : Env) (L : Lim) (N : Nat) (ops : Array Oper) (l : List Ins) : En → Sto → (En → Sto → Prop) → Prop :=
  List.rec (motive := fun _ => En → Sto → (En → Sto → Prop) → Prop) (fun env s K => K env s)
    (fun (i : Ins) _ ih env s K => match i with
      | .one o => wGuarded ops (lkE env) o s (wAct E L (lkE env) s o) fun v s => wPut N o.dst v env fun env => ih env s K
      | .fus k => wFus E L N k env s fun env s => ih env s K) l
noncomputable abbrev wOps (E : Env) (L : Lim) (N : Nat) (ops : Array Oper) (l : List Oper) (env : En) (s : Sto) (K : En → Sto → Prop) : Prop := wIns E L N ops (insts l) env s K
abbrev quietable (E : Env) (L : Lim) (o : Oper) : Bool := match o.op with
  | .alloc _ | .box _ _ | .store _ _ _ | .makeMap _ _ | .mapUpdate _ _ _ _ | .insert _ _ _ _ => false
  | .makeSlice _ _ _ => false
  | .call { callee := .builtin .delete, .. } => false
  | .buildSlice t _ _ => match E.P.underlying t with
    | some (.slice elem) => !muL L elem
    | _ => false
  | .call { callee := .builtin .append, .. } => false
  | _ => true
abbrev mkZ (P : Program) (t : TypeId) : Bool := match makeSliceA P ⟨[], []⟩ t (.pv (.sc (.int .i64 0))) (.pv (.sc (.int .i64 0))) with
  | some (.capped [], _) => true
  | _ => false
abbrev wQuiet (E : Env) (L : Lim) (ops : Array Oper) (lk : Lk) (s : Sto) (o : Oper) (K : AV → Prop) : Prop :=
  match quietable E L o with
  | true => wGuarded ops lk o s (wOp E L lk s o) fun v _ => K v
  | false => match o.op with
    | .makeSlice t l c => match mkZ E.P t with
      | true => wGuarded ops lk o s (fun K => wO (evL lk l) fun l => wO (evL lk c) fun c => eqA l (.pv (.sc (.int .i64 0))) = true ∧ eqA c (.pv (.sc (.int .i64 0))) = true ∧ K (.capped []) s) fun v _ => K v
      | false => False
    | _ => False
abbrev wH (E : Env) (lk : Lk) (o : Oper) (K : List AV → (Nat → AV) → Prop) : Prop := match o.op with
  | .alloc t => wO (zeroOf E.P t) fun z => match E.bz t with
    | true => False
    | false => K z (fun id => .ptr id 0)
  | _ => ∃ cs mk, (∀ ρ, Agr lk ρ → hcells E ρ o = some (cs, mk)) ∧ K cs mk
noncomputable abbrev wFirst (E : Env) (L : Lim) (N : Nat) (ops : Array Oper) (cls : List Cls) (l : List Nat) : En → Sto → (En → Sto → Prop) → Prop :=
  List.rec (motive := fun _ => En → Sto → (En → Sto → Prop) → Prop) (fun env s K => K env s)
    (fun (i : Nat) _ ih env s K => match ops[i]?, cls[i]? with
      | some o, some (.q _) => wQuiet E L ops (lkE env) s o fun v => wPut N o.dst v env fun env => ih env s K
      | some o, some (.h _) => wH E (lkE env) o fun cs mk => wPut N o.dst (mk s.bs.length) env fun env => ih env ⟨s.bs ++ [cs], s.ts⟩ K
      | _, _ => False) l
noncomputable abbrev wRest (E : Env) (L : Lim) (N : Nat) (ops : Array Oper) (cls : List Cls) (l : List Nat) : En → Sto → List Sto → (En → Sto → List Sto → Prop) → Prop :=
  List.rec (motive := fun _ => En → Sto → List Sto → (En → Sto → List Sto → Prop) → Prop) (fun env s acc K => K env s acc)
    (fun (i : Nat) _ ih env s acc K => match ops[i]?, cls[i]? with
      | some o, some (.q _) => wQuiet E L ops (lkE env) s o fun v => wPut N o.dst v env fun env => ih env s acc K
      | some o, some (.w _) => wGuarded ops (lkE env) o s (wAct E L (lkE env) s o) fun v s => wPut N o.dst v env fun env => ih env s (s :: acc) K
      | some o, some (.fa _ j x) => match ops[j]?, ops[x]? with
        | some o1, some o2 => match fused o o1 o2 with
          | some k => wFusX E L N k env s fun env s => ih env s (s :: acc) K
          | none => False
        | _, _ => False
      | some _, some .fj => ih env s acc K
      | some _, some .fx => ih env s acc K
      | _, _ => False) l
noncomputable abbrev lkAt (war : List (List Nat)) (env0 envf : En) (i t : Nat) : Option AV := bif has (warOf war i) t then lkE env0 t else lkE envf t
noncomputable abbrev wChk (E : Env) (L : Lim) (ops : Array Oper) (cls : List Cls) (war : List (List Nat)) (env0 envf : En) (σ : List Sto) (l : List (Nat × Nat)) (K : Prop) : Prop :=
  List.rec (motive := fun _ => Prop) K
    (fun (p : Nat × Nat) _ ih => (match ops[p.1]?, cls[p.1]?, σ[p.2]? with
      | some o, some (.q _), some s => wQuiet E L ops (lkAt war env0 envf p.1) s o fun v => match o.dst with
        | some d => wO (lkE envf d) fun u => eqA v u = true
        | none => True
      | some o, some (.h _), some s => wH E (lkAt war env0 envf p.1) o fun cs _ => match o.dst with
        | some d => wO (lkE envf d) fun u => wO (idOf u) fun id => wO s.bs[id]? fun cs' => eqAL cs' cs = true
        | none => False
      | _, _, _ => False) ∧ ih) l
noncomputable abbrev wMuR (ops : Array Oper) (p : Plan) (env0 envf : En) (r : AV) (l : List Nat) (K : Prop) : Prop :=
  List.rec (motive := fun _ => Prop) K (fun (m : Nat) _ ih => match ops[m]?, p.cls[m]? with
    | some om, some (.w _) => match om.op with
      | .store _ y _ => (wO (evL (lkAt p.war env0 envf m) y) fun a => neId a r) ∧ ih
      | _ => ih
    | _, _ => ih) l
noncomputable abbrev wMuA (E : Env) (L : Lim) (ops : Array Oper) (p : Plan) (env0 envf : En) (l : List Nat) (K : Prop) : Prop :=
  List.rec (motive := fun _ => Prop) K (fun (i : Nat) _ ih => match p.cls[i]? with
    | some (.fa _ j x) => match muFa E L ops i j x with
      | true => match ops[i]? with
        | some o => match o.dst with
          | some d => wO (lkE envf d) fun r => wMuR ops p env0 envf r p.rest ih
          | none => ih
        | none => ih
      | false => ih
    | _ => ih) l
noncomputable abbrev wReg (E : Env) (L : Lim) (N : Nat) (p : Plan) (ops : Array Oper) (env : En) (s : Sto) (K : En → Sto → Prop) : Prop := match noMu E L ops p.cls p.rest with
  | true => wFirst E L N ops p.cls p.first env s fun env1 s1 => wRest E L N ops p.cls p.rest env1 s1 [s1] fun env2 s2 acc => wChk E L ops p.cls p.war env env2 acc.reverse p.chk (K env2 s2)
  | false => wFirst E L N ops p.cls p.first env s fun env1 s1 => wRest E L N ops p.cls p.rest env1 s1 [s1] fun env2 s2 acc => wMuA E L ops p env env2 p.rest (wChk E L ops p.cls p.war env env2 acc.reverse p.chk (K env2 s2))
def sub : Code → List Nat → Code
  | c, [] => c
  | .seq a b, i :: p => match i with
    | 0 => sub a p
    | _ => sub b p
  | .cond _ a b, i :: p => match i with
    | 0 => sub a p
    | _ => sub b p
  | .block _ b, _ :: p => sub b p
  | .loop b, _ :: p => sub b p
  | c, _ => c
def opOf (c : Code) (i : Nat) : Oper := match c with
  | .region _ ops _ => ops[i]?.getD ⟨none, .move (.tmp 0), 0, "", #[], none⟩
  | _ => ⟨none, .move (.tmp 0), 0, "", #[], none⟩
def wAnyT (E : Env) (L : Lim) (s : Sto) (lk : Lk) (o : Oper) (K : AV → Sto → Prop) : Prop := wAny E L lk s o K
def CodeE (E : Env) (L : Lim) (c : Code) (st : St) (o : Out) (st' : St) : Prop :=
  ∃ n, ∀ m k, n ≤ m → n ≤ k → evW E (callN E m) k L c st = some (o, st')
inductive Frame where
  | seq (b : Code)
  | blk (id : Nat)
  | loop (b : Code)
def Unw (E : Env) (L : Lim) (Q : Out → St → Prop) : List Frame → Out → St → Prop
  | [], o, st => Q o st
  | .seq b :: ks, o, st => match o with
    | .norm => ∃ o st', CodeE E L b st o st' ∧ Unw E L Q ks o st'
    | o => Unw E L Q ks o st
  | .blk id :: ks, o, st => match o with
    | .exit j => bif Nat.beq j id then Unw E L Q ks .norm st else Unw E L Q ks (.exit j) st
    | o => Unw E L Q ks o st
  | .loop b :: ks, o, st => match o with
    | .norm => ∃ o st', CodeE E L (.loop b) st o st' ∧ Unw E L Q ks o st'
    | o => Unw E L Q ks o st
def Fin (E : Env) (rs : List ResultVar) (QR : AV → Sto → Prop) (o : Out) (st : St) : Prop :=
  (∀ id, o ≠ .exit id) ∧ ∃ vs, resultsA E st rs = some vs ∧ QR (packA vs) st.s
def Wp (E : Env) (L : Lim) (N : Nat) (rs : List ResultVar) (c : Code) (ks : List Frame) (env : En) (s : Sto) (QR : AV → Sto → Prop) : Prop :=
  ∀ ρ, Agr (lkE env) ρ → ∃ o st, CodeE E L c ⟨N, ρ, s⟩ o st ∧ Unw E L (Fin E rs QR) ks o st
abbrev keyOf : Code → Option Nat
  | .region id _ _ => some id
  | .seq a b => match keyOf a with
    | some k => some k
    | none => keyOf b
  | .cond _ a b => match keyOf a with
    | some k => some k
    | none => keyOf b
  | .block _ b => keyOf b
  | .loop b => keyOf b
  | .rangeFunc _ _ a _ => keyOf a
  | _ => none
noncomputable abbrev prune (lv : Nat → List Nat) (c : Code) (env : En) : En := match keyOf c with
  | some k => (lv k).filterMap fun t => match lkE env t with
    | some v => some (t, v)
    | none => none
  | none => env
noncomputable abbrev wRes (E : Env) (lk : Lk) (s : Sto) (rs : List ResultVar) : (List AV → Prop) → Prop :=
  List.rec (motive := fun _ => (List AV → Prop) → Prop) (fun K => K [])
    (fun (r : ResultVar) _ ih K => match r with
      | .tmp t => wO (lk t) fun v => ih fun vs => K (v :: vs)
      | .cell a t => wO (lk a) fun a => wO (ldK E.P t) fun k => wLd E s k a fun v => ih fun vs => K (v :: vs)) rs
def wCond (c : AV) (A B : Prop) : Prop := match c with
  | .pv (.sc (.bool t)) => (t = true → A) ∧ (t = false → B)
  | _ => False
noncomputable abbrev wUE (E : Env) (L : Lim) (N : Nat) (lv : Nat → List Nat) (rs : List ResultVar) (QR : AV → Sto → Prop) (ks : List Frame) : Option Nat → En → Sto → Prop :=
  List.rec (motive := fun _ => Option Nat → En → Sto → Prop)
    (fun o env s => match o with
      | none => wRes E (lkE env) s rs fun vs => QR (packA vs) s
      | some _ => False)
    (fun (fr : Frame) (ks : List Frame) ih o env s => match fr with
      | .seq b => match o with
        | none => match b with
          | .ret => wRes E (lkE env) s rs fun vs => QR (packA vs) s
          | .skip => ih none env s
          | .exit j => ih (some j) env s
          | b => Wp E L N rs b ks (prune lv b env) s QR
        | some j => ih (some j) env s
      | .blk id => match o with
        | none => ih none env s
        | some j => match Nat.beq j id with
          | true => ih none env s
          | false => ih (some j) env s
      | .loop b => match o with
        | none => Wp E L N rs (.loop b) ks (prune lv b env) s QR
        | some j => ih (some j) env s) ks
abbrev cutB (ct : Nat → Bool) (c : Code) : Bool := match keyOf c with
  | some k => ct k
  | none => false
noncomputable abbrev wpc (E : Env) (L : Lim) (N : Nat) (lv : Nat → List Nat) (ct : Nat → Bool) (rs : List ResultVar) (QR : AV → Sto → Prop) (c : Code) : List Frame → En → Sto → Prop :=
  Code.rec (motive := fun _ => List Frame → En → Sto → Prop)
    (fun ks env s => wUE E L N lv rs QR ks none env s)
    (fun id ops d ks env s => match d with
      | false => wOps E L N ops ops.toList env s fun env s => wUE E L N lv rs QR ks none env s
      | true => wO (L.pl id) fun p => wReg E L N p ops env s fun env s => wUE E L N lv rs QR ks none env s)
    (fun a b iha ihb ks env s => match a with
      | .region id ops d => match d with
        | false => wOps E L N ops ops.toList env s fun env s => match cutB ct b with
          | true => Wp E L N rs b ks (prune lv b env) s QR
          | false => ihb ks env s
        | true => wO (L.pl id) fun p => wReg E L N p ops env s fun env s => match cutB ct b with
          | true => Wp E L N rs b ks (prune lv b env) s QR
          | false => ihb ks env s
      | _ => iha (.seq b :: ks) env s)
    (fun c _ _ iha ihb ks env s => wO (evL (lkE env) c) fun c => wCond c (iha ks env s) (ihb ks env s))
    (fun id _ ih ks env s => ih (.blk id :: ks) env s)
    (fun b _ ks env s => Wp E L N rs (.loop b) ks (prune lv b env) s QR)
    (fun g ps a b _ _ ks env s => Wp E L N rs (.rangeFunc g ps a b) ks (prune lv (.rangeFunc g ps a b) env) s QR)
    (fun j ks env s => wUE E L N lv rs QR ks (some j) env s)
    (fun _ _ _ _ _ => False)
    (fun _ _ _ _ => False)
    (fun _ _ _ _ => False)
    (fun _ env s => wRes E (lkE env) s rs fun vs => QR (packA vs) s)
    (fun _ _ _ _ => False) c
end Go.Tel
/-
  What a region needs is enough.
-/
namespace Go.Tel
theorem Agr.put {env : En} {ρ : Nat → AV} (h : Agr (lkE env) ρ) (d : Nat) (v : AV) : Agr (lkE ((d, v) :: env)) (upd ρ d v) := by
  intro t u hu
  have hu' : (bif Nat.beq t d then some v else lkE env t) = some u := hu
  unfold upd
  cases hb : Nat.beq t d with
  | true => grind
  | false => rw [hb] at hu'; exact h t u hu'
theorem wPut_sound {N : Nat} {d : Option Nat} {v : AV} {env : En} {K : En → Prop} {ρ : Nat → AV} {s : Sto} (h : wPut N d v env K) (hA : Agr (lkE env) ρ) :
    ∃ env' ρ', putA ⟨N, ρ, s⟩ d v = some ⟨N, ρ', s⟩ ∧ Agr (lkE env') ρ' ∧ K env' := by
  cases d with
  | none => exact ⟨env, ρ, rfl, hA, h⟩
  | some d =>
    simp only [wPut] at h
    cases hb : Nat.blt d N with
    | false => grind
    | true =>
      rw [hb] at h
      exact ⟨_, upd ρ d v, by simp [putA, hb], hA.put d v, h⟩
theorem wGuarded_sound {ops : Array Oper} {lk : Lk} {o : Oper} {s : Sto} {W : (AV → Sto → Prop) → Prop} {K : AV → Sto → Prop} {ρ : Nat → AV} (h : wGuarded ops lk o s W K) (hA : Agr lk ρ) :
    (guardOk ops ρ o = some true ∧ W K) ∨ (guardOk ops ρ o = some false ∧ K (.tuple []) s) := by
  unfold wGuarded at h
  unfold guardOk
  split at h
  · grind
  · rename_i j want hg
    rw [hg]
    simp only
    split at h
    · grind
    · rename_i d ht
      rw [ht]
      obtain ⟨g, h1, h⟩ := wO_inv h
      simp only [hA d g h1]
      unfold wGK wGd at h
      split at h
      · rename_i b
        by_cases hb : b = want
        all_goals grind
      all_goals grind
theorem wAct_sound {E : Env} {L : Lim} {lk : Lk} {s : Sto} {o : Oper} {K : AV → Sto → Prop} {ρ : Nat → AV} (h : wAct E L lk s o K) (hA : Agr lk ρ) :
    ∃ v s' n, (∀ m, n ≤ m → actA E L (callN E m L) ρ s o = some (v, s')) ∧ K v s' := by
  have plain : wOp E L lk s o K → (∀ cf, actA E L cf ρ s o = opA E L ρ s o) → ∃ v s' n, (∀ m, n ≤ m → actA E L (callN E m L) ρ s o = some (v, s')) ∧ K v s' := by
    intro h ho
    obtain ⟨v, s', h1, h2⟩ := wOp_sound hA h
    exact ⟨v, s', 0, fun m _ => by rw [ho, h1], h2⟩
  obtain ⟨dst, op, type, pos, after, guard⟩ := o
  cases op with
  | call c =>
    obtain ⟨callee, args, ts⟩ := c
    cases callee with
    | builtin b => exact plain h fun cf => rfl
    | value f =>
      obtain ⟨fv, h1, h⟩ := wO_inv h
      obtain ⟨as, h2, h⟩ := wO_inv h
      unfold wCall at h
      split at h
      · rename_i g first captured
        obtain ⟨v, s', ⟨n, hn⟩, hK⟩ := h
        refine ⟨v, s', n, fun m hm => ?_, hK⟩
        grind[actA,calleeA,evL_eq,evLs_eq]
      grind
    | _ => grind
  | _ => exact plain h fun cf => by rfl
theorem wFu_sound {L : Lim} {s : Sto} {e : TypeId} {i : TypeInfo} {x y ix v : AV} {K : AV → Sto → Prop} (h : wFu L s e i.size i.bytes x y ix v K) :
    ∃ z n rows row r s', rowsOf y = some [z] ∧ z.length = i.size ∧ (z.map AV.pv).all okCell = true ∧ natOfA ix = some n ∧ rowsOf x = some rows ∧ n = rows.length ∧ toPVs (cellsOf v) = some row ∧ row.length = i.size ∧ (cellsOf v).all okCell = true ∧
      appendRow L s e i x row = some (r, s') ∧ K r s' := by
  obtain ⟨⟨z, h1, h2, h3⟩, h4, h5, h⟩ := h
  grind[rowsOf,appendRow]
theorem wFus_sound {E : Env} {L : Lim} {N : Nat} {k : Fuse} {env : En} {s : Sto} {K : En → Sto → Prop} {ρ : Nat → AV} (h : wFus E L N k env s K) (hA : Agr (lkE env) ρ) :
    ∃ v s' env' ρ', fuseA E L ρ s k = some (v, s') ∧ fuseSt ⟨N, ρ, s⟩ k v s' = some ⟨N, ρ', s'⟩ ∧ Agr (lkE env') ρ' ∧ K env' s' := by
  obtain ⟨e, h1, ⟨h2, h3, h4, h5⟩, h⟩ := wO_inv h
  obtain ⟨x, hx, h⟩ := wO_inv h
  obtain ⟨y, hy, h⟩ := wO_inv h
  obtain ⟨ix, hix, h⟩ := wO_inv h
  obtain ⟨v, hv, h⟩ := wO_inv h
  obtain ⟨e1, e2, e3⟩ := elemS_inv h1
  obtain ⟨z, n, rows, row, r, s', k1, k2, k3, k4, k5, k6, k7, k8, k9, k10, k11⟩ := wFu_sound h
  obtain ⟨env1, ρ1, p1, p2, p3⟩ := wPut_sound (s := s') k11 hA
  obtain ⟨env2, ρ2, q1, q2, q3⟩ := wPut_sound (s := s') p3 p2
  grind[fuseA,evL_eq,fuseSt]
theorem wFuM_sound {L : Lim} {s : Sto} {i : TypeInfo} {x y ix v : AV} {K : AV → Sto → Prop} (h : wFuM L s i.size i.bytes x y ix v K) {E : Env} {k : Fuse} {e : TypeId} {z : List AV} {ρ : Nat → AV}
    (e1 : E.P.underlying k.t = some (.slice e)) (e2 : E.P.info? e = some i) (e3 : zeroOf E.P e = some z) (h2 : L.mu e = true) (h3 : k.te = e) (h4 : z.length = i.size) (h5 : i.size ≠ 0)
    (hx : evalO ρ k.x = x) (hy : evalO ρ k.y = y) (hix : evalO ρ k.ix = ix) (hv : evalO ρ k.v = v) :
    ∃ r s', fuseX E L ρ s k = some (r, s') ∧ K r s' := by
  obtain ⟨id, len, old, zs, rfl, k1, k2, k3, ⟨k4, k5, k6, k7, k8, k9, k10, k11, k12⟩, k13⟩ := h
  refine ⟨_, _, ?_, k13⟩
  have ha : fuseA E L ρ s k = none := by
    unfold fuseA
    simp only [e1]
    rw [if_neg (by rw [h2]; simp)]
  rw [fuseX, ha]
  unfold fuseM
  simp only [e1, e2, e3, hx, hy, hix, hv, k1, k2, k3, Option.map_some]
  rw [if_pos ⟨h2, h3⟩]
  exact if_pos ⟨trivial, k4, k6, k7, k5, h5, by simp [h4], trivial, trivial, k8, k9, k10, k11, k12⟩
theorem wFusX_sound {E : Env} {L : Lim} {N : Nat} {k : Fuse} {env : En} {s : Sto} {K : En → Sto → Prop} {ρ : Nat → AV} (h : wFusX E L N k env s K) (hA : Agr (lkE env) ρ) :
    ∃ v s' env' ρ', fuseX E L ρ s k = some (v, s') ∧ fuseSt ⟨N, ρ, s⟩ k v s' = some ⟨N, ρ', s'⟩ ∧ Agr (lkE env') ρ' ∧ K env' s' := by
  obtain ⟨e, h1, h⟩ := wO_inv h
  split at h
  · obtain ⟨v, s', env', ρ', a1, a2⟩ := wFus_sound (K := K) (show wFus E L N k env s K by unfold wFus; rw [h1]; exact h) hA
    exact ⟨v, s', env', ρ', by rw [fuseX, a1], a2⟩
  · rename_i hmu
    obtain ⟨⟨h3, h4, h5⟩, h⟩ := h
    obtain ⟨x, hx, h⟩ := wO_inv h
    obtain ⟨y, hy, h⟩ := wO_inv h
    obtain ⟨ix, hix, h⟩ := wO_inv h
    obtain ⟨v, hv, h⟩ := wO_inv h
    obtain ⟨e1, e2, e3⟩ := elemS_inv h1
    obtain ⟨r, s', k10, k11⟩ := wFuM_sound h e1 e2 e3 hmu h3 h4 h5 (evL_eq hA hx) (evL_eq hA hy) (evL_eq hA hix) (evL_eq hA hv)
    obtain ⟨env1, ρ1, p1, p2, p3⟩ := wPut_sound (s := s') k11 hA
    obtain ⟨env2, ρ2, q1, q2, q3⟩ := wPut_sound (s := s') p3 p2
    exact ⟨r, s', env2, ρ2, k10, by simp only [fuseSt, p1, q1], q2, q3⟩
theorem opsA_one {E : Env} {L : Lim} {cf : CallF} {ops : Array Oper} {o : Oper} {rest : List Oper} {st : St} (hf : fuseNone o rest = true) : opsA E L cf ops (o :: rest) st = match guardOk ops st.ρ o with
      | some true => match stepA E L cf st o with
        | some st => opsA E L cf ops rest st
        | none => none
      | some false => match putA st o.dst (.tuple []) with
        | some st => opsA E L cf ops rest st
        | none => none
      | none => none := by
  match rest, hf with
  | [], _ => rfl
  | [o1], _ => rfl
  | o1 :: o2 :: rest', hf =>
    grind[opsA,fuseNone]
theorem insts_one {o : Oper} {rest : List Oper} (hf : fuseNone o rest = true) : insts (o :: rest) = .one o :: insts rest := by
  match rest, hf with
  | [], _ => rfl
  | [o1], _ => rfl
  | o1 :: o2 :: rest', hf =>
    grind[insts,fuseNone]
theorem wOps_one {E : Env} {L : Lim} {N : Nat} {ops : Array Oper} {o : Oper} {rest : List Oper} {env : En} {s : Sto} {K : En → Sto → Prop} (hf : fuseNone o rest = true) :
    wOps E L N ops (o :: rest) env s K = wGuarded ops (lkE env) o s (wAct E L (lkE env) s o) fun v s => wPut N o.dst v env fun env => wOps E L N ops rest env s K := by simp[*,wOps,insts_one]
theorem wOps_fus {E : Env} {L : Lim} {N : Nat} {ops : Array Oper} {o o1 o2 : Oper} {rest : List Oper} {env : En} {s : Sto} {K : En → Sto → Prop} {k : Fuse} (hk : fused o o1 o2 = some k) :
    wOps E L N ops (o :: o1 :: o2 :: rest) env s K = wFus E L N k env s fun env s => wOps E L N ops rest env s K := by simp[*,insts,wOps]
theorem wOps_sound {E : Env} {L : Lim} {N : Nat} {ops : Array Oper} {K : En → Sto → Prop} : ∀ (b : Nat) (l : List Oper), l.length ≤ b → ∀ (env : En) (s : Sto) (ρ : Nat → AV), wOps E L N ops l env s K → Agr (lkE env) ρ →
    ∃ env' ρ' s' n, (∀ m, n ≤ m → opsA E L (callN E m L) ops l ⟨N, ρ, s⟩ = some ⟨N, ρ', s'⟩) ∧ Agr (lkE env') ρ' ∧ K env' s' := by
  intro b
  induction b with
  | zero =>
    intro l hl env s ρ h hA
    have : l = [] := List.length_eq_zero_iff.1 (by omega)
    subst this
    exact ⟨env, ρ, s, 0, fun m _ => rfl, hA, h⟩
  | succ b ih =>
    intro l hl env s ρ h hA
    cases l with
    | nil => exact ⟨env, ρ, s, 0, fun m _ => rfl, hA, h⟩
    | cons o rest =>
      have hl' : rest.length ≤ b := by simpa using hl
      cases hf : fuseNone o rest with
      | true =>
        rw [wOps_one hf] at h
        rcases wGuarded_sound h hA with ⟨hg, h⟩ | ⟨hg, h⟩
        · obtain ⟨v, s1, n1, h1, h2⟩ := wAct_sound h hA
          obtain ⟨env1, ρ1, p1, p2, p3⟩ := wPut_sound (s := s1) h2 hA
          obtain ⟨env2, ρ2, s2, n2, q1, q2, q3⟩ := ih rest hl' env1 s1 ρ1 p3 p2
          refine ⟨env2, ρ2, s2, n1 + n2, fun m hm => ?_, q2, q3⟩
          rw [opsA_one hf]
          simp only [hg, stepA, h1 m (by omega), p1]
          exact q1 m (by omega)
        · obtain ⟨env1, ρ1, p1, p2, p3⟩ := wPut_sound (s := s) h hA
          obtain ⟨env2, ρ2, s2, n2, q1, q2, q3⟩ := ih rest hl' env1 s ρ1 p3 p2
          refine ⟨env2, ρ2, s2, n2, fun m hm => ?_, q2, q3⟩
          rw [opsA_one hf]
          simp only [hg, p1]
          exact q1 m hm
      | false =>
        match rest, hf, hl', h with
        | [], hf, _, _ => simp_all[fuseNone]
        | [o1], hf, _, _ => simp [fuseNone] at hf
        | o1 :: o2 :: rest', hf, hl', h =>
          cases hk : fused o o1 o2 with
          | none => simp_all[fuseNone]
          | some k =>
            rw [wOps_fus hk] at h
            obtain ⟨v, s1, env1, ρ1, p1, p2, p3, p4⟩ := wFus_sound h hA
            obtain ⟨env2, ρ2, s2, n2, q1, q2, q3⟩ := ih rest' (by simp at hl'; omega) env1 s1 ρ1 p4 p3
            refine ⟨env2, ρ2, s2, n2, fun m hm => ?_, q2, q3⟩
            simp[*,opsA]
theorem quietA_of {E : Env} {L : Lim} {ρ : Nat → AV} {s s' : Sto} {o : Oper} {v : AV} (hq : quietable E L o = true) (h : opA E L ρ s o = some (v, s')) : quietA E L ρ s o = some v := by grind[quietA_eq,quietO]
theorem mkZ0 {P : Program} {t : TypeId} (h : mkZ P t = true) (s : Sto) : makeSliceA P s t (.pv (.sc (.int .i64 0))) (.pv (.sc (.int .i64 0))) = some (.capped [], s) := by
  unfold mkZ at h
  unfold makeSliceA at h ⊢
  cases h1 : P.underlying t with
  | none => simp [h1] at h
  | some d =>
    rw [h1] at h
    cases d with
    | slice e =>
      simp only at h ⊢
      cases h2 : P.info? e with
      | none => simp [h2] at h
      | some i =>
        cases h3 : zeroOf P e with
        | none => simp [h2, h3] at h
        | some z =>
          simp only [h2, h3] at h ⊢
          split at h
          · rename_i hc
            rw [if_pos (by have h4 := hc; simp at h4; simpa using h4.1)]
            simp
          · cases h
    | _ => simp at h
theorem wQuiet_sound {E : Env} {L : Lim} {ops : Array Oper} {lk : Lk} {s : Sto} {o : Oper} {K : AV → Prop} {ρ : Nat → AV} (h : wQuiet E L ops lk s o K) (hA : Agr lk ρ) : ∃ v, quietG E L ops ρ s o = some v ∧ K v := by
  unfold wQuiet at h
  cases hq : quietable E L o with
  | false =>
    rw [hq] at h
    simp only at h
    split at h
    · rename_i t l c ho
      split at h
      · rename_i hz
        unfold quietG
        rcases wGuarded_sound h hA with ⟨hg, h⟩ | ⟨hg, h⟩
        · obtain ⟨vl, hl, h⟩ := wO_inv h
          obtain ⟨vc, hc, h⟩ := wO_inv h
          obtain ⟨h1, h2, h3⟩ := h
          rw [hg]
          refine ⟨_, ?_, h3⟩
          have e1 := evL_eq hA hl
          have e2 := evL_eq hA hc
          have z1 := eqA_sound _ _ h1
          have z2 := eqA_sound _ _ h2
          subst z1; subst z2
          simp only [quietA, ho, opA, e1, e2, mkZ0 hz s]
        simp[*]
      · exact h.elim
    · exact h.elim
  | true =>
    rw [hq] at h
    unfold quietG
    rcases wGuarded_sound h hA with ⟨hg, h⟩ | ⟨hg, h⟩
    · obtain ⟨v, s', h1, h2⟩ := wOp_sound hA h
      rw [hg]
      exact ⟨v, quietA_of hq h1, h2⟩
    simp[*]
theorem wH_sound {E : Env} {lk : Lk} {o : Oper} {K : List AV → (Nat → AV) → Prop} {ρ : Nat → AV} (h : wH E lk o K) (hA : Agr lk ρ) : ∃ cs mk, hcells E ρ o = some (cs, mk) ∧ K cs mk := by grind[wO_inv,hcells]
theorem wFirst_sound {E : Env} {L : Lim} {N : Nat} {ops : Array Oper} {cls : List Cls} {K : En → Sto → Prop} : ∀ (l : List Nat) (env : En) (s : Sto) (ρ : Nat → AV), wFirst E L N ops cls l env s K → Agr (lkE env) ρ →
    ∃ env' ρ' s', firstA E L ops cls l ⟨N, ρ, s⟩ = some ⟨N, ρ', s'⟩ ∧ Agr (lkE env') ρ' ∧ K env' s'
  | [], env, s, ρ, h, hA => ⟨env, ρ, s, rfl, hA, h⟩
  | i :: rest, env, s, ρ, h, hA => by
    change (match ops[i]?, cls[i]? with
      | some o, some (.q _) => wQuiet E L ops (lkE env) s o fun v => wPut N o.dst v env fun env => wFirst E L N ops cls rest env s K
      | some o, some (.h _) => wH E (lkE env) o fun cs mk => wPut N o.dst (mk s.bs.length) env fun env => wFirst E L N ops cls rest env ⟨s.bs ++ [cs], s.ts⟩ K
      | _, _ => False) at h
    split at h
    · rename_i o ts ho hc
      obtain ⟨v, h1, h2⟩ := wQuiet_sound h hA
      obtain ⟨env1, ρ1, p1, p2, p3⟩ := wPut_sound (s := s) h2 hA
      obtain ⟨env2, ρ2, s2, q1, q2, q3⟩ := wFirst_sound rest env1 s ρ1 p3 p2
      refine ⟨env2, ρ2, s2, ?_, q2, q3⟩
      simp[*,firstA]
    · rename_i o ts ho hc
      obtain ⟨cs, mk, h1, h2⟩ := wH_sound h hA
      obtain ⟨env1, ρ1, p1, p2, p3⟩ := wPut_sound (s := ⟨s.bs ++ [cs], s.ts⟩) h2 hA
      obtain ⟨env2, ρ2, s2, q1, q2, q3⟩ := wFirst_sound rest env1 _ ρ1 p3 p2
      refine ⟨env2, ρ2, s2, ?_, q2, q3⟩
      simp[*,firstA]
    grind
theorem wRest_sound {E : Env} {L : Lim} {N : Nat} {ops : Array Oper} {cls : List Cls} {K : En → Sto → List Sto → Prop} : ∀ (l : List Nat) (env : En) (s : Sto) (acc : List Sto) (ρ : Nat → AV), wRest E L N ops cls l env s acc K → Agr (lkE env) ρ →
    ∃ env' ρ' s' acc' n, (∀ m, n ≤ m → restA E L (callN E m L) ops cls l ⟨N, ρ, s⟩ acc = some (⟨N, ρ', s'⟩, acc')) ∧ Agr (lkE env') ρ' ∧ K env' s' acc'
  | [], env, s, acc, ρ, h, hA => ⟨env, ρ, s, acc, 0, fun _ _ => rfl, hA, h⟩
  | i :: rest, env, s, acc, ρ, h, hA => by
    change (match ops[i]?, cls[i]? with
      | some o, some (.q _) => wQuiet E L ops (lkE env) s o fun v => wPut N o.dst v env fun env => wRest E L N ops cls rest env s acc K
      | some o, some (.w _) => wGuarded ops (lkE env) o s (wAct E L (lkE env) s o) fun v s => wPut N o.dst v env fun env => wRest E L N ops cls rest env s (s :: acc) K
      | some o, some (.fa _ j x) => match ops[j]?, ops[x]? with
        | some o1, some o2 => match fused o o1 o2 with
          | some k => wFusX E L N k env s fun env s => wRest E L N ops cls rest env s (s :: acc) K
          | none => False
        | _, _ => False
      | some _, some .fj => wRest E L N ops cls rest env s acc K
      | some _, some .fx => wRest E L N ops cls rest env s acc K
      | _, _ => False) at h
    split at h
    · rename_i o ts ho hc
      obtain ⟨v, h1, h2⟩ := wQuiet_sound h hA
      obtain ⟨env1, ρ1, p1, p2, p3⟩ := wPut_sound (s := s) h2 hA
      obtain ⟨env2, ρ2, s2, acc2, n2, q1, q2, q3⟩ := wRest_sound rest env1 s acc ρ1 p3 p2
      refine ⟨env2, ρ2, s2, acc2, n2, fun m hm => ?_, q2, q3⟩
      simp only [restA, ho, hc, h1, p1]
      exact q1 m hm
    · rename_i o r ho hc
      have : ∃ v s1 n1, (∀ m, n1 ≤ m → actG E L (callN E m L) ops ρ s o = some (v, s1)) ∧ wPut N o.dst v env fun env => wRest E L N ops cls rest env s1 (s1 :: acc) K := by
        rcases wGuarded_sound h hA with ⟨hg, h⟩ | ⟨hg, h⟩
        · obtain ⟨v, s1, n1, h1, h2⟩ := wAct_sound h hA
          exact ⟨v, s1, n1, fun m hm => by simp only [actG, hg, h1 m hm], h2⟩
        · exact ⟨_, s, 0, fun m hm => by simp only [actG, hg], h⟩
      obtain ⟨v, s1, n1, h1, h2⟩ := this
      obtain ⟨env1, ρ1, p1, p2, p3⟩ := wPut_sound (s := s1) h2 hA
      obtain ⟨env2, ρ2, s2, acc2, n2, q1, q2, q3⟩ := wRest_sound rest env1 s1 _ ρ1 p3 p2
      refine ⟨env2, ρ2, s2, acc2, n1 + n2, fun m hm => ?_, q2, q3⟩
      simp only [restA, ho, hc, h1 m (by omega), p1]
      exact q1 m (by omega)
    · rename_i o r j x ho hc
      split at h
      · rename_i o1 o2 hj hx
        split at h
        · rename_i k hk
          obtain ⟨v, s1, env1, ρ1, p1, p2, p3, p4⟩ := wFusX_sound h hA
          obtain ⟨env2, ρ2, s2, acc2, n2, q1, q2, q3⟩ := wRest_sound rest env1 s1 _ ρ1 p4 p3
          refine ⟨env2, ρ2, s2, acc2, n2, fun m hm => ?_, q2, q3⟩
          simp only [restA, ho, hc, hj, hx, hk, p1, p2]
          exact q1 m hm
        · exact h.elim
      · exact h.elim
    · rename_i o ho hc
      obtain ⟨env2, ρ2, s2, acc2, n2, q1, q2, q3⟩ := wRest_sound rest env s acc ρ h hA
      refine ⟨env2, ρ2, s2, acc2, n2, fun m hm => ?_, q2, q3⟩
      simp only [restA, ho, hc]
      exact q1 m hm
    · rename_i o ho hc
      obtain ⟨env2, ρ2, s2, acc2, n2, q1, q2, q3⟩ := wRest_sound rest env s acc ρ h hA
      refine ⟨env2, ρ2, s2, acc2, n2, fun m hm => ?_, q2, q3⟩
      simp only [restA, ho, hc]
      exact q1 m hm
    · exact h.elim
theorem Agr.at_ {war : List (List Nat)} {env0 envf : En} {ρ0 ρf : Nat → AV} (h0 : Agr (lkE env0) ρ0) (hf : Agr (lkE envf) ρf) (i : Nat) : Agr (lkAt war env0 envf i) (envAt war ρ0 ρf i) := by
  intro t v hv
  unfold lkAt at hv
  unfold envAt
  cases hb : has (warOf war i) t with
  | true => rw [hb] at hv; exact h0 t v hv
  | false => rw [hb] at hv; exact hf t v hv
theorem wChk_sound {E : Env} {L : Lim} {ops : Array Oper} {cls : List Cls} {war : List (List Nat)} {env0 envf : En} {ρ0 ρf : Nat → AV} {σ : List Sto} (h0 : Agr (lkE env0) ρ0) (hf : Agr (lkE envf) ρf) {K : Prop} :
    ∀ l, wChk E L ops cls war env0 envf σ l K → chkA E L ops cls war ρ0 ρf σ l = true ∧ K
  | [], h => ⟨rfl, h⟩
  | (i, k) :: rest, h => by
    obtain ⟨h, h'⟩ := h
    obtain ⟨r1, r2⟩ := wChk_sound h0 hf rest h'
    refine ⟨?_, r2⟩
    simp only [chkA, r1, Bool.and_true]
    split at h
    · rename_i o ts s ho hc hs
      obtain ⟨v, h1, h2⟩ := wQuiet_sound h (Agr.at_ h0 hf i)
      simp only [ho, hc, hs, h1]
      cases hd : o.dst with
      | none => rfl
      | some d =>
        rw [hd] at h2
        obtain ⟨u, h3, h4⟩ := wO_inv h2
        simp only [hf d u h3, h4]
    · rename_i o ts s ho hc hs
      obtain ⟨cs, mk, h1, h2⟩ := wH_sound h (Agr.at_ h0 hf i)
      simp only [ho, hc, hs, h1]
      cases hd : o.dst with
      | none => simp_all
      | some d =>
        rw [hd] at h2
        obtain ⟨u, h3, h4⟩ := wO_inv h2
        obtain ⟨id, h5, h6⟩ := wO_inv h4
        obtain ⟨cs', h7, h8⟩ := wO_inv h6
        simp only [hf d u h3, h5, h7, h8]
    simp[*]
theorem wMuR_sound {ops : Array Oper} {p : Plan} {env0 envf : En} {ρ0 ρf : Nat → AV} {id0 off len sz : Nat} (h0 : Agr (lkE env0) ρ0) (hf : Agr (lkE envf) ρf) {K : Prop} :
    ∀ l, wMuR ops p env0 envf (.ref id0 off len sz) l K → muRow ops p ρ0 ρf id0 l = true ∧ K
  | [], h => ⟨rfl, h⟩
  | m :: l, h => by
    change (match ops[m]?, p.cls[m]? with
      | some om, some (.w _) => match om.op with
        | .store _ y _ => (wO (evL (lkAt p.war env0 envf m) y) fun a => neId a (.ref id0 off len sz)) ∧ wMuR ops p env0 envf (.ref id0 off len sz) l K
        | _ => wMuR ops p env0 envf (.ref id0 off len sz) l K
      | _, _ => wMuR ops p env0 envf (.ref id0 off len sz) l K) at h
    rw [muRow]
    split at h
    · rename_i om r ho hc
      simp only [ho, hc]
      split at h
      · rename_i t y z hop
        obtain ⟨h1, h2⟩ := h
        obtain ⟨a, h3, h4⟩ := wO_inv h1
        obtain ⟨h5, h6⟩ := wMuR_sound h0 hf l h2
        refine ⟨?_, h6⟩
        simp only [hop, evL_eq (Agr.at_ h0 hf m) h3, h5, Bool.and_true]
        split
        · rename_i id o
          have := h4 id o id0 off len sz rfl rfl
          exact congrArg Bool.not (Bool.eq_false_iff.2 fun e => this (Nat.eq_of_beq_eq_true e))
        · rfl
      · obtain ⟨h5, h6⟩ := wMuR_sound h0 hf l h
        refine ⟨?_, h6⟩
        rw [h5, Bool.and_true]
        split
        · rename_i hn _ _ _ _ hop
          exact absurd hop (hn _ _ _)
        · rfl
    · rename_i hn
      obtain ⟨h5, h6⟩ := wMuR_sound h0 hf l h
      refine ⟨?_, h6⟩
      rw [h5, Bool.and_true]
      split
      · rename_i om r ho hc
        exact absurd hc (hn _ _ ho)
      · rfl
theorem wMuA_sound {E : Env} {L : Lim} {ops : Array Oper} {p : Plan} {env0 envf : En} {ρ0 ρf : Nat → AV} (h0 : Agr (lkE env0) ρ0) (hf : Agr (lkE envf) ρf) {K : Prop} :
    ∀ l, wMuA E L ops p env0 envf l K → muAll E L ops p ρ0 ρf l = true ∧ K
  | [], h => ⟨rfl, h⟩
  | i :: l, h => by
    change (match p.cls[i]? with
      | some (.fa _ j x) => match muFa E L ops i j x with
        | true => match ops[i]? with
          | some o => match o.dst with
            | some d => wO (lkE envf d) fun r => wMuR ops p env0 envf r p.rest (wMuA E L ops p env0 envf l K)
            | none => wMuA E L ops p env0 envf l K
          | none => wMuA E L ops p env0 envf l K
        | false => wMuA E L ops p env0 envf l K
      | _ => wMuA E L ops p env0 envf l K) at h
    have hrec : wMuA E L ops p env0 envf l K → muAll E L ops p ρ0 ρf l = true ∧ K := fun h => wMuA_sound h0 hf l h
    rw [muAll]
    split at h
    · rename_i r j x hc
      simp only [hc]
      split at h
      · rename_i hm
        simp only [hm, cond_true]
        split at h
        · rename_i o ho
          simp only [ho]
          split at h
          · rename_i d hd
            obtain ⟨r, h1, h2⟩ := wO_inv h
            simp only [hd, hf d r h1]
            cases r with
            | ref id0 off len sz =>
              obtain ⟨h3, h4⟩ := wMuR_sound h0 hf _ h2
              obtain ⟨h5, h6⟩ := hrec h4
              exact ⟨by simp only [h3, h5, Bool.and_true], h6⟩
            | _ => exact (by
                have : ∀ (r : AV) (q : List Nat), (wMuR ops p env0 envf r q (wMuA E L ops p env0 envf l K)) → wMuA E L ops p env0 envf l K := fun r q => by
                  induction q with
                  | nil => exact fun h => h
                  | cons m q ih =>
                    intro h
                    change (match ops[m]?, p.cls[m]? with
                      | some om, some (.w _) => match om.op with
                        | .store _ y _ => (wO (evL (lkAt p.war env0 envf m) y) fun a => neId a r) ∧ wMuR ops p env0 envf r q (wMuA E L ops p env0 envf l K)
                        | _ => wMuR ops p env0 envf r q (wMuA E L ops p env0 envf l K)
                      | _, _ => wMuR ops p env0 envf r q (wMuA E L ops p env0 envf l K)) at h
                    split at h
                    · split at h
                      · exact ih h.2
                      · exact ih h
                    · exact ih h
                obtain ⟨h5, h6⟩ := hrec (this _ _ h2)
                exact ⟨by simp only [h5, Bool.and_true], h6⟩)
          · rename_i hd
            simp only [hd]
            simpa using hrec h
        · rename_i ho
          simp only [ho]
          simpa using hrec h
      · rename_i hm
        simp only [hm, cond_false]
        simpa using hrec h
    · rename_i hn
      obtain ⟨h5, h6⟩ := hrec h
      refine ⟨?_, h6⟩
      rw [h5, Bool.and_true]
      split
      · rename_i r j x hc
        exact absurd hc (hn _ _ _)
      · rfl
theorem wReg_sound {E : Env} {L : Lim} {N : Nat} {p : Plan} {ops : Array Oper} {env : En} {s : Sto} {K : En → Sto → Prop} {ρ : Nat → AV} (h : wReg E L N p ops env s K) (hA : Agr (lkE env) ρ) :
    ∃ env' ρ' s' n, (∀ m, n ≤ m → regA E L (callN E m L) p ops ⟨N, ρ, s⟩ = some ⟨N, ρ', s'⟩) ∧ Agr (lkE env') ρ' ∧ K env' s' := by
  unfold wReg at h
  split at h
  · rename_i hmu
    obtain ⟨env1, ρ1, s1, a1, a2, a3⟩ := wFirst_sound _ _ _ _ h hA
    obtain ⟨env2, ρ2, s2, acc, n, b1, b2, b3⟩ := wRest_sound _ _ _ _ _ a3 a2
    obtain ⟨c1, c2⟩ := wChk_sound hA b2 _ b3
    refine ⟨env2, ρ2, s2, n, fun m hm => ?_, b2, c2⟩
    simp[*,regA,muChk]
  · obtain ⟨env1, ρ1, s1, a1, a2, a3⟩ := wFirst_sound _ _ _ _ h hA
    obtain ⟨env2, ρ2, s2, acc, n, b1, b2, b3⟩ := wRest_sound _ _ _ _ _ a3 a2
    obtain ⟨d1, d2⟩ := wMuA_sound hA b2 _ b3
    obtain ⟨c1, c2⟩ := wChk_sound hA b2 _ d2
    refine ⟨env2, ρ2, s2, n, fun m hm => ?_, b2, c2⟩
    simp only [regA, a1, b1 m hm, c1, muChk, d1, Bool.or_true, Bool.and_true, cond_true]
end Go.Tel
