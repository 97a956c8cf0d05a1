/-
  Names in terms, the program: slices.BinarySearch, slices.Insert, sets of words.
-/
import Derived.Test.YtmipbilokjkjiaaGreatDoorTE
import Derived.Test.YtmipbilokjkjiaaGreatDoorW2
set_option linter.unusedSimpArgs false
set_option linter.unusedVariables false
namespace Go.Proofs.YtmipbilokjkjiaaGreatDoor
open Go.Tel
attribute [local simp] wNew wBox wBoxZ markT wCond wBuild fillS wO setCells wSt wLd wPart LFE wFad alive wInt wStr wGK wGd wPick wExt wLen wSlen wNot wNil okI ceI okB ceB okS ceS okL ceL okC ceC okO ceO okP ceP okG ceG okE ceE okR ceR okF ceF okX ceX okM ceM okN ceN okNf ceNf okNi ceNi ceA roL roC roO leL leC leO tpP tpC tpO clP clC clO clF clA clT clN clL nbP nbC nbO nbN nbL toPVs
theorem CallE.of_told {E : Env} {L : Lim} {f : FuncId} {args : List AV} {s s' : Sto} {v : AV} {T : Lim → List AV → Sto → Option (AV × Sto)} {fn : Func} (hfn : E.P.funcs[f]? = some fn) (hc : E.clone f = true) (ht : E.told f = some T) (h : T L args s = some (v, s')) : CallE E L f args s v s' := by
  refine ⟨1, fun m hm => ?_⟩
  obtain ⟨m, rfl⟩ : ∃ m', m = m' + 1 := ⟨m - 1, by omega⟩
  simp only [callN, hfn, hc, cond_true, toldA, ht, h]
section
variable {R : Nat → Option (List PV)}
theorem cnan_spec (w : List UInt8) : PureC (env R) 133 [SS w] fun r => r = BB false := by
  refine e133 (u0 := SS w) (by simp) (p133_0 ?_)
  simp [QP, QI]
theorem snan_spec (w : List UInt8) : PureC (env R) 123 [SS w] fun r => r = BB false := by
  refine e123 (u0 := SS w) (by simp) (p123_0 ?_)
  simp [QP, QI]
theorem less_spec (a b : List UInt8) : PureC (env R) 122 [SS a, SS b] fun r => ∃ c, r = BB c := by
  refine e122 (u0 := SS a) (u1 := SS b) (by simp) (p122_0 ?_)
  refine wCall_pure (cnan_spec a) ?_
  rintro v rfl
  simp [QP, QI]
def WRep (bs : List (List AV)) (l : List (List UInt8)) (x : AV) : Prop := (x = .capped [] ∧ l = []) ∨ ∃ id, x = .ref id 0 l.length 1 ∧ bs[id]? = some (l.map SS) ∧ l ≠ []
theorem alive_words {s : Sto} {id : Nat} {l : List (List UInt8)} (hid : s.bs[id]? = some (l.map SS)) (hne : l ≠ []) : alive s id = true := by
  obtain ⟨c, r, hc⟩ : ∃ c r, l = c :: r := by
    cases l with
    | nil => exact absurd rfl hne
    | cons c r => exact ⟨c, r, rfl⟩
  simp only [alive, hid, hc, List.map_cons]
theorem st_eql {a b : List UInt8} {K : AV → Prop} (h : K (BB (a == b))) : wStr .eql (SS a) (SS b) K := h
theorem gk_u {want : Bool} {s : Sto} {W : (AV → Sto → Prop) → Prop} {K : AV → Sto → Prop} (h : K (.tuple []) s) : wGK (.tuple []) want s W K := h
theorem idx_ref {s : Sto} {id i : Nat} {l : List (List UInt8)} {w : List UInt8} (hid : s.bs[id]? = some (l.map SS)) (hne : l ≠ []) (hw : l[i]? = some w) {K : AV → Prop} (h : K (SS w)) : wIdx s 1 (.ref id 0 l.length 1) (I64 i) fun a => wLd (env R) s none a K := by
  have hi : i < l.length := (List.getElem?_eq_some_iff.1 hw).1
  refine ⟨⟨by omega, by omega, rfl, alive_words hid hne⟩, ?_⟩
  simp only [wLd, hid, wO, wPart]
  have e : 0 + ((i : Int).toNat) * 1 = i := by omega
  rw [e, List.getElem?_map, hw]
  exact h
theorem bsearch_loop {w : List UInt8} {l : List (List UInt8)} {id : Nat} {s : Sto} (hid : s.bs[id]? = some (l.map SS)) (hne : l ≠ []) (hl : l.length < 2 ^ 40) {Post : AV → Prop} (hP : ∀ (i : Nat) b, i ≤ l.length → (b = true → l[i]? = some w) → Post (.tuple [I64 i, BB b])) {n0 ro rt n m : Nat} :
    ∀ (d i j : Nat), j - i ≤ d → i ≤ j → j ≤ l.length → P104_1 R n0 ro rt (.ref id 0 l.length 1) (SS w) (I64 l.length) (I64 i) (I64 j) s (QI n m Post) := by
  have fin : ∀ (i : Nat) b, i ≤ l.length → (b = true → l[i]? = some w) → QI n m Post (.tuple [I64 i, BB b]) s := fun i b h1 h2 => ⟨_, by simp, hP i b h1 h2⟩
  intro d
  induction d with
  | zero =>
    intro i j h1 h2 h3
    have e : i = j := by omega
    subst e
    refine p104_1 (in_lss ?_)
    simp only [Int.lt_irrefl, decide_false]
    refine co_f (p104_3 (in_lss ?_))
    by_cases hi : i < l.length
    · obtain ⟨u, hu⟩ : ∃ u, l[i]? = some u := ⟨_, List.getElem?_eq_getElem hi⟩
      have b1 : decide ((i : Int) < (l.length : Int)) = true := by simpa using hi
      rw [b1]
      refine gk_t (gk_t ?_)
      refine gk_t ?_
      have hi' : i < l.length := hi
      refine ⟨⟨by omega, by omega, rfl, alive_words hid hne⟩, ?_⟩
      have e : 0 + ((i : Int).toNat) * 1 = i := by omega
      rw [e]
      refine gk_t ?_
      simp only [wLd, hid, wO, wPart, List.getElem?_map, hu, Option.map_some]
      refine gk_t (gk_t (st_eql ?_))
      cases hb : (u == w) with
      | true =>
        have huw : u = w := by simpa using hb
        subst huw
        refine gk_t ?_
        refine gk_f (by simp) (gk_f (by simp) (gk_f (by simp) (gk_f (by simp) (gk_f (by simp) (gk_f (by simp) (gk_u (gk_u (gk_f (by simp) ?_))))))))
        exact gk_t (pk (pk (fin i true h3 fun _ => hu)))
      | false =>
        refine gk_t ?_
        refine gk_t (gk_t (gk_t ?_))
        refine ⟨⟨by omega, by omega, rfl, alive_words hid hne⟩, ?_⟩
        rw [e]
        refine gk_t ?_
        simp only [wLd, hid, wO, wPart, List.getElem?_map, hu, Option.map_some]
        refine gk_t ?_
        refine wCall_pure (snan_spec u) ?_
        rintro v rfl
        refine gk_t ?_
        refine gk_f (by simp) (gk_f (by simp) ?_)
        exact gk_t (pk (gk_t (pk (pk (fin i false h3 (by simp))))))
    · have b1 : decide ((i : Int) < (l.length : Int)) = false := by simpa using hi
      rw [b1]
      refine gk_f (by simp) (gk_f (by simp) (gk_f (by simp) (gk_f (by simp) (gk_f (by simp) (gk_f (by simp) (gk_f (by simp) ?_))))))
      refine gk_u (gk_u (gk_u (gk_u (gk_u (gk_u (gk_u (gk_u (gk_u ?_))))))))
      exact gk_f (by simp) (pk (fin i false h3 (by simp)))
  | succ d ih =>
    intro i j h1 h2 h3
    by_cases hij : i < j
    · refine p104_1 (in_lss ?_)
      have b1 : decide ((i : Int) < (j : Int)) = true := by simpa using hij
      rw [b1]
      refine co_t (p104_2 (in_add (by omega) (by omega) ?_))
      have hw1 : IntKind.u64.wrap ((i : Int) + j) = (i : Int) + j := by
        unfold IntKind.wrap
        simp [IntKind.bits, IntKind.signed]
        omega
      have hconv : ∀ (K : AV → Prop), K (.pv (.sc (.int .u64 ((i : Int) + j)))) → wConvI .u64 (I64 ((i : Int) + j)) K := by
        intro K h
        simp only [wConvI, hw1]
        exact h
      refine hconv _ ?_
      have hshr : ∀ (K : AV → Prop), K (.pv (.sc (.int .u64 (((i + j) / 2 : Nat) : Int)))) → wInt .u64 .shr (.pv (.sc (.int .u64 ((i : Int) + j)))) (.pv (.sc (.int .u64 1))) K := by
        intro K h
        refine ⟨⟨rfl, rfl⟩, by omega, ?_⟩
        have e : ((i : Int) + j).fdiv (2 ^ (min (1 : Int).toNat IntKind.u64.bits)) = (((i + j) / 2 : Nat) : Int) := by
          have : (2 : Int) ^ (min (1 : Int).toNat IntKind.u64.bits) = 2 := by decide
          rw [this, Int.fdiv_eq_ediv_of_nonneg _ (by omega)]
          omega
        rw [e]
        exact h
      refine hshr _ ?_
      have hw2 : IntKind.i64.wrap ((((i + j) / 2 : Nat) : Int)) = (((i + j) / 2 : Nat) : Int) := by
        unfold IntKind.wrap
        simp [IntKind.bits, IntKind.signed]
        omega
      have hconv2 : ∀ (K : AV → Prop), K (I64 (((i + j) / 2 : Nat) : Int)) → wConvI .i64 (.pv (.sc (.int .u64 (((i + j) / 2 : Nat) : Int)))) K := by
        intro K h
        simp only [wConvI, hw2]
        exact h
      refine hconv2 _ ?_
      generalize hh : (i + j) / 2 = h at *
      obtain ⟨u, hu⟩ : ∃ u, l[h]? = some u := ⟨_, List.getElem?_eq_getElem (by omega)⟩
      refine idx_ref hid hne hu ?_
      refine wCall_pure (less_spec u w) ?_
      rintro v ⟨c, rfl⟩
      cases c with
      | true =>
        refine co_t (in_add (by omega) (by omega) ?_)
        have := ih (h + 1) j (by omega) (by omega) h3
        simpa using this
      | false => exact co_f (ih i h (by omega) (by omega) (by omega))
    · exact ih i j (by omega) h2 h3
theorem bsearch_spec {w : List UInt8} {l : List (List UInt8)} {x : AV} {s : Sto} (hx : WRep s.bs l x) (hl : l.length < 2 ^ 40) :
    ∃ v, (∃ (i : Nat) (b : Bool), v = .tuple [I64 i, BB b] ∧ i ≤ l.length ∧ (b = true → l[i]? = some w)) ∧ ∀ L, CallE (env R) L 104 [x, SS w] s v s := by
  rcases hx with ⟨rfl, rfl⟩ | ⟨id, rfl, hid, hne⟩
  · have : PureC (env R) 104 [.capped [], SS w] fun v => ∃ (i : Nat) (b : Bool), v = .tuple [I64 i, BB b] ∧ i ≤ ([] : List (List UInt8)).length ∧ (b = true → ([] : List (List UInt8))[i]? = some w) := by
      refine e104 (u0 := .capped []) (u1 := SS w) (by simp) (p104_0 ?_)
      simp
      refine p104_1 ?_
      simp
      refine p104_3 ?_
      simp [QP, QI]
    obtain ⟨v, h1, h2⟩ := this
    exact ⟨v, h1, fun L => h2 L s⟩
  · have hcl : closeL [] 0 0 [.ref id 0 l.length 1, SS w] = none := by simp [closeL, Tel.close, refRows]
    refine i104 hcl (p104_0 ?_)
    have hal := alive_words hid hne
    have hlen : ∀ K : AV → Prop, K (I64 l.length) → wLen s (.ref id 0 l.length 1) K := by
      intro K h
      simp only [wLen, lenA, hal, cond_true, wO]
      exact h
    refine hlen _ ?_
    exact bsearch_loop hid hne hl (fun i b h1 h2 => ⟨i, b, rfl, h1, h2⟩) _ 0 l.length (Nat.le_refl _) (by omega) (Nat.le_refl _)
end
end Go.Proofs.YtmipbilokjkjiaaGreatDoor
/-
  Names in terms, the program.
-/
namespace Go.Proofs.YtmipbilokjkjiaaGreatDoor
open Go.Tel
attribute [local simp] wNew wBox wBoxZ markT wCond wBuild fillS wO setCells wSt wLd wPart LFE wFad alive wInt wStr wGK wGd wPick wExt wLen wSlen wNot wNil okI ceI okB ceB okS ceS okL ceL okC ceC okO ceO okP ceP okG ceG okE ceE okR ceR okF ceF okX ceX okM ceM okN ceN okNf ceNf okNi ceNi ceA roL roC roO leL leC leO tpP tpC tpO clP clC clO clF clA clT clN clL nbP nbC nbO nbN nbL toPVs
mutual
def noms : Ty → List (List UInt8)
  | .mk k n _ ts => (bif k == 2 then [n] else []) ++ nomsL ts
def nomsL : List Ty → List (List UInt8)
  | [] => []
  | t :: l => noms t ++ nomsL l
end
theorem insert_mem {l : List (List UInt8)} {w x : List UInt8} {i : Nat} : x ∈ l.take i ++ w :: l.drop i ↔ x ∈ l ∨ x = w := by
  rw [List.mem_append, List.mem_cons]
  have : x ∈ l ↔ x ∈ l.take i ∨ x ∈ l.drop i := by
    rw [← List.mem_append, List.take_append_drop]
  rw [this]
  constructor
  · rintro (h | h | h)
    · exact .inl (.inl h)
    · exact .inr h
    · exact .inl (.inr h)
  · rintro ((h | h) | h)
    · exact .inl h
    · exact .inr (.inr h)
    · exact .inr (.inl h)
theorem insert_len {l : List (List UInt8)} {w : List UInt8} {i : Nat} (hi : i ≤ l.length) : (l.take i ++ w :: l.drop i).length = l.length + 1 := by
  simp
  omega
def NS (q : Nat) (l : List (List UInt8)) (bs : List (List AV)) : Prop := ∃ x, bs[q]? = some [x] ∧ WRep bs l x
structure Stp (q : Nat) (l l' : List (List UInt8)) (new : List (List UInt8)) (s s' : Sto) : Prop where
  ns : NS q l' s'.bs
  mem : ∀ x, x ∈ l' ↔ x ∈ l ∨ x ∈ new
  len : l'.length ≤ l.length + new.length
  ts : s'.ts = s.ts
  grow : s.bs.length ≤ s'.bs.length
  keep : ∀ (p : Nat) (k : Int) (r : List AV), s.bs[p]? = some (I64 k :: r) → s'.bs[p]? = some (I64 k :: r)
section
variable {R : Nat → Option (List PV)}
theorem words_ok (l : List (List UInt8)) : (l.map SS).all okCell = true := by
  rw [List.all_eq_true]
  intro x hx
  obtain ⟨w, _, rfl⟩ := List.mem_map.1 hx
  rfl
theorem insert_call {w : List UInt8} {l : List (List UInt8)} {x : AV} {s : Sto} {q i : Nat} (hq : s.bs[q]? = some [x]) (hx : WRep s.bs l x) (hl : l.length < 2 ^ 20) (hi : i ≤ l.length) {L : Lim} (hro : L.ro = 0) :
    ∃ id bs', CallE (env R) L 105 [x, I64 i, .capped [[.sc (.string ⟨w.toArray⟩)]]] s (.ref id 0 (l.length + 1) 1) ⟨bs', s.ts⟩ ∧ bs'[id]? = some ((l.take i ++ w :: l.drop i).map SS) ∧ bs'[q]? = some [x] ∧ q ≠ id ∧ s.bs.length ≤ bs'.length ∧ q < bs'.length ∧
      (∀ (p : Nat) (k : Int) (r : List AV), s.bs[p]? = some (I64 k :: r) → bs'[p]? = some (I64 k :: r)) := by
  have hql : q < s.bs.length := (List.getElem?_eq_some_iff.1 hq).1
  have ei : (I64 i) = .pv (.sc (.int .i64 (.ofNat i))) := rfl
  rcases hx with ⟨rfl, rfl⟩ | ⟨id, rfl, hid, hne⟩
  · have hi0 : i = 0 := by simpa using hi
    subst hi0
    refine ⟨s.bs.length, s.bs ++ [[SS w]], CallE.of_told Tryz.func105 (by kernel_rfl) (T := insT) (by kernel_rfl) ?_, ?_, ?_, by omega, by simp, by simp; omega, ?_⟩
    · simp only [insT]
      simp [okCell]
    · simp
    · rw [List.getElem?_append_left hql, hq]
    · intro p k r hp
      have : p < s.bs.length := (List.getElem?_eq_some_iff.1 hp).1
      rw [List.getElem?_append_left this, hp]
  · have hil : id < s.bs.length := (List.getElem?_eq_some_iff.1 hid).1
    have hne' : id ≠ q := by
      intro e
      subst e
      rw [hq] at hid
      cases l with
      | nil => exact hne rfl
      | cons c r => simp at hid
    have h1 : 1 ≤ l.length := by
      cases l with
      | nil => exact absurd rfl hne
      | cons c r => simp
    refine ⟨s.bs.length, s.bs.set id [] ++ [(l.take i ++ w :: l.drop i).map SS], CallE.of_told Tryz.func105 (by kernel_rfl) (T := insT) (by kernel_rfl) ?_, ?_, ?_, by omega, by simp, by simp; omega, ?_⟩
    · have b1 : Nat.beq l.length (l.map SS).length = true := by simp
      have b2 : Nat.ble 1 l.length = true := by simpa using h1
      have b3 : Nat.ble i l.length = true := by simpa using hi
      have b4 : Nat.ble l.length 1000000000 = true := by simp; omega
      have b5 : Nat.ble L.ro id = true := by simp [hro]
      have b6 := words_ok l
      simp only [insT, hid, okCell, b1, b2, b3, b4, b5, b6, Bool.and_self, cond_true]
      simp [List.map_take, List.map_drop]
    · rw [List.getElem?_append_right (by simp)]
      simp
    · rw [List.getElem?_append_left (by simpa using hql), List.getElem?_set_ne hne', hq]
    · intro p k r hp
      have hpl : p < s.bs.length := (List.getElem?_eq_some_iff.1 hp).1
      have : id ≠ p := by
        intro e
        subst e
        rw [hp] at hid
        cases l with
        | nil => exact hne rfl
        | cons c r => simp at hid
      rw [List.getElem?_append_left (by simpa using hpl), List.getElem?_set_ne this, hp]
theorem add_spec {w : List UInt8} {l : List (List UInt8)} {s : Sto} {q : Nat} (hns : NS q l s.bs) (hl : l.length < 2 ^ 20) {L : Lim} (hro : L.ro = 0) (hn0 : L.n0 = 0) :
    ∃ v s', (v = .tuple [] ∧ ∃ l', Stp q l l' [w] s s') ∧ CallE (env R) L 81 [.ptr q 0, SS w] s v s' := by
  obtain ⟨x, hq, hx⟩ := hns
  have hql : q < s.bs.length := (List.getElem?_eq_some_iff.1 hq).1
  refine m81 (p81_0 ?_)
  simp [hq]
  obtain ⟨v, ⟨i, b, rfl, hi, hb⟩, hc⟩ := bsearch_spec (R := R) (w := w) hx (by omega)
  refine ⟨_, _, hc _, ?_⟩
  simp
  cases b with
  | true =>
    simp
    refine ⟨l, ⟨x, hq, hx⟩, fun y => ⟨.inl, ?_⟩, by simp, rfl, Nat.le_refl _, fun _ _ _ h => h⟩
    rintro (h | h)
    · exact h
    · simp only [List.mem_cons, List.not_mem_nil, or_false] at h
      rw [h]
      exact List.mem_of_getElem? (hb rfl)
  | false =>
    simp [hq, wBsl, repl, rowsBy]
    obtain ⟨id, bs', h1, h2, h3, h4, h5, h6, h7⟩ := insert_call (R := R) (w := w) hq hx hl hi (L := LFE (env R) 81 L.n0 L.ro L.rt) hro
    refine ⟨_, _, h1, ?_⟩
    simp [h3, hro, hn0]
    have hset : ∀ y, (bs'.set q y)[q]? = some y := fun y => by simp [h6]
    refine ⟨l.take i ++ w :: l.drop i, ⟨_, hset _, .inr ⟨id, by rw [insert_len hi], by rw [List.getElem?_set_ne h4]; exact h2, by simp⟩⟩, fun y => ?_, by rw [insert_len hi]; simp, rfl, by simpa using h5, ?_⟩
    · rw [insert_mem]
      simp
    · intro p k r hp
      have : q ≠ p := by
        intro e
        subst e
        rw [hq] at hp
        simp at hp
        rcases hx with ⟨rfl, _⟩ | ⟨id, rfl, _⟩ <;> simp at hp
      simp only
      rw [List.getElem?_set_ne this]
      exact h7 p k r hp
theorem Stp.trans {q : Nat} {l l1 l2 n1 n2 : List (List UInt8)} {s s1 s2 : Sto} (h1 : Stp q l l1 n1 s s1) (h2 : Stp q l1 l2 n2 s1 s2) : Stp q l l2 (n1 ++ n2) s s2 := by
  refine ⟨h2.ns, fun x => ?_, ?_, by rw [h2.ts, h1.ts], Nat.le_trans h1.grow h2.grow, fun p k r h => h2.keep p k r (h1.keep p k r h)⟩
  · rw [h2.mem, h1.mem, List.mem_append]
    constructor
    · rintro ((h | h) | h)
      · exact .inl h
      · exact .inr (.inl h)
      · exact .inr (.inr h)
    · rintro (h | h | h)
      · exact .inl (.inl h)
      · exact .inl (.inr h)
      · exact .inr h
  · have := h1.len
    have := h2.len
    rw [List.length_append]
    omega
theorem Stp.push {q : Nat} {l : List (List UInt8)} {s : Sto} (h : NS q l s.bs) (b : List AV) : Stp q l l [] s ⟨s.bs ++ [b], s.ts⟩ := by
  obtain ⟨x, hq, hx⟩ := h
  have hql : q < s.bs.length := (List.getElem?_eq_some_iff.1 hq).1
  refine ⟨⟨x, by rw [List.getElem?_append_left hql, hq], ?_⟩, by simp, by simp, rfl, by simp, fun p k r hp => ?_⟩
  · rcases hx with ⟨h1, h2⟩ | ⟨id, h1, h2, h3⟩
    · exact .inl ⟨h1, h2⟩
    · exact .inr ⟨id, h1, by rw [List.getElem?_append_left (List.getElem?_eq_some_iff.1 h2).1, h2], h3⟩
  · rw [List.getElem?_append_left (List.getElem?_eq_some_iff.1 hp).1, hp]
theorem noms_len (k i : Int) (n : List UInt8) (ts : List Ty) (h : (nomsL ts).length ≤ sizeL ts) : (noms (.mk k n i ts)).length ≤ size (.mk k n i ts) := by
  simp only [noms, size, List.length_append]
  cases (k == 2) <;> simp <;> omega
mutual
theorem noms_le : ∀ t : Ty, (noms t).length ≤ size t
  | .mk k n i ts => noms_len k i n ts (nomsL_le ts)
theorem nomsL_le : ∀ l : List Ty, (nomsL l).length ≤ sizeL l
  | [] => by simp [nomsL]
  | t :: l => by
    have h1 := noms_le t
    have h2 := nomsL_le l
    simp only [nomsL, sizeL, List.length_append]
    omega
end
def CollS (R : Nat → Option (List PV)) (t : Ty) : Prop := ∀ (x : AV), TRep t x → ∀ (q : Nat) (l : List (List UInt8)) (s : Sto) (L : Lim), NS q l s.bs → l.length + size t < 2 ^ 19 → L.ro = 0 → L.n0 = 0 →
  ∃ v s', (v = .tuple [] ∧ ∃ l', Stp q l l' (noms t) s s') ∧ CallE (env R) L 55 [x, .ptr q 0] s v s'
theorem coll_loop {ts : List Ty} {a : AV} (ha : RowsA a (rowsT ts)) (hl : sizeL ts < 2 ^ 30) (ih : ∀ t ∈ ts, CollS R t) {q : Nat} {l0 : List (List UInt8)} {s0 : Sto} {L : Lim} (hro : L.ro = 0) (hn0 : L.n0 = 0) {Post : AV → Sto → Prop} {pre : List (List UInt8)}
    (hP : ∀ l' s', Stp q l0 l' (pre ++ nomsL ts) s0 s' → Post (.tuple []) s') (hlen : l0.length + pre.length + sizeL ts < 2 ^ 19) :
    ∀ (j i : Nat) (l : List (List UInt8)) (s : Sto) (don : List (List UInt8)), i + j = ts.length → Stp q l0 l (pre ++ don) s0 s → don ++ nomsL (ts.drop i) = nomsL ts → don.length + sizeL (ts.drop i) ≤ sizeL ts → P55_2 R L.n0 L.ro L.rt (.ptr q 0) a (I64 ts.length) (I64 i) s Post := by
  have h60 := sizeL_len ts
  intro j
  induction j with
  | zero =>
    intro i l s don hi hs hd _
    refine p55_2 (in_lss ?_)
    have h1 : ¬ ((i : Int) < ts.length) := by omega
    simp only [h1, decide_false]
    refine co_f ?_
    have h2 : ts.drop i = [] := List.drop_of_length_le (by omega)
    rw [h2] at hd
    simp only [nomsL, List.append_nil] at hd
    rw [hd] at hs
    exact hP l s hs
  | succ j ihj =>
    intro i l s don hi hs hd hsz
    refine p55_2 (in_lss ?_)
    have h1 : ((i : Int) < ts.length) := by omega
    simp only [h1, decide_true]
    refine co_t (p55_3 ?_)
    obtain ⟨t, ht⟩ : ∃ t, ts[i]? = some t := ⟨_, List.getElem?_eq_getElem (by omega)⟩
    rw [drop_cons ht] at hd hsz
    simp only [nomsL, sizeL] at hd hsz
    refine wIdx_rows ha (row := rowT t) (by omega) (by simpa using rowsT_get ht) (rowT_len t) (by omega) (ld_row (rowT_len t) ?_)
    have hrep := TRep.of_row t
    have hcol := ih t (List.mem_of_getElem? ht) _ hrep
    obtain ⟨k, n, x, es⟩ := t
    simp only [rowT, List.map_cons, List.map_nil] at hcol ⊢
    have hst := Stp.push hs.ns [I64 k, SS n, I64 x, .pv (.list (rowsT es))]
    have hlb := hs.len
    simp only [List.length_append] at hlb
    simp [get_app, get_app0, set_app, set_app0, hro]
    obtain ⟨v, s1, ⟨rfl, l1, h3⟩, hc⟩ := hcol q l ⟨s.bs ++ [[I64 k, SS n, I64 x, .pv (.list (rowsT es))]], s.ts⟩ (LFE (env R) 55 L.n0 L.ro L.rt) hst.ns (by omega) hro hn0
    refine ⟨_, _, by simpa [hro] using hc, ?_⟩
    refine p55_4 (in_add (by omega) (by omega) ?_)
    have hall := (hs.trans hst).trans h3
    simp only [List.append_nil, List.append_assoc] at hall
    have := ihj (i + 1) l1 s1 (don ++ noms (.mk k n x es)) (by omega) hall (by rw [List.append_assoc]; exact hd) (by
      have := noms_le (.mk k n x es)
      rw [List.length_append]
      omega)
    simpa [hro] using this
mutual
theorem coll_spec : ∀ (t : Ty), CollS R t
  | .mk k n i ts => by
    intro x hx q l s L hns hl hro hn0
    obtain ⟨a, rfl, ha⟩ := hx
    simp only [size] at hl
    have ih := colls_spec ts
    suffices H : ∀ Post : AV → Sto → Prop, (∀ l' s', Stp q l l' (noms (.mk k n i ts)) s s' → Post (.tuple []) s') → P55_0 R L.n0 L.ro L.rt (.agg [I64 k, SS n, I64 i, a]) (.ptr q 0) s Post from
      m55 (H _ fun l' s' h => ⟨rfl, l', h⟩)
    intro Post hP
    refine p55_0 ?_
    have hst := Stp.push hns [I64 k, SS n, I64 i, a]
    have g0 : (s.bs ++ [[I64 k, SS n, I64 i, a]])[s.bs.length]? = some [I64 k, SS n, I64 i, a] := by simp
    have tail : ∀ (pre l1 : List (List UInt8)) (s1 : Sto), Stp q l l1 pre s s1 → pre ++ nomsL ts = noms (.mk k n i ts) → pre.length ≤ 1 → s1.bs[s.bs.length]? = some [I64 k, SS n, I64 i, a] → P55_1 R L.n0 L.ro L.rt (.ptr q 0) (.ptr s.bs.length 0) s1 Post := by
      intro pre l1 s1 h1 h2 h3 h4
      refine p55_1 ?_
      simp [h4, ha.lenA, rowsT_len]
      have := coll_loop (R := R) (q := q) (l0 := l) (s0 := s) (L := L) (pre := pre) (Post := Post) ha (by omega) ih hro hn0 (fun l' s' h => hP l' s' (by rw [← h2]; exact h)) (by omega) ts.length 0 l1 s1 [] (by omega) (by simpa using h1) (by simp) (by simp)
      simpa using this
    simp [ha.ok]
    cases hk : (k == 2) with
    | true =>
      have e2 : k = 2 := by simpa using hk
      subst e2
      simp
      refine wCall_do (add_spec (R := R) (w := n) (q := q) (s := ⟨s.bs ++ [[I64 2, SS n, I64 i, a]], s.ts⟩) (l := l) (L := LFE (env R) 55 L.n0 L.ro L.rt) hst.ns (by omega) hro hn0) ?_
      rintro v s1 ⟨rfl, l1, h1⟩
      refine tail [n] l1 s1 ?_ ?_ (by simp) (h1.keep _ _ _ g0)
      · simpa using hst.trans h1
      · simp [noms]
    | false =>
      have e2 : ¬ k = 2 := by simpa using hk
      simp [e2]
      exact tail [] l _ hst (by simp [noms, hk]) (by simp) g0
theorem colls_spec : ∀ (l : List Ty), ∀ t ∈ l, CollS R t
  | [], _, h => by cases h
  | e :: l, a, h => by
    rcases List.mem_cons.1 h with h' | h'
    · rw [h']
      exact coll_spec e
    · exact colls_spec l a h'
end
theorem WRep.closed {bs : List (List AV)} {l : List (List UInt8)} {x : AV} (h : WRep bs l x) : ∃ x', close bs 0 0 x = some x' ∧ RowsA x' (strRows l) := by
  rcases h with ⟨rfl, rfl⟩ | ⟨id, rfl, hid, hne⟩
  · exact ⟨.capped [], by simp [close], by simp [strRows]; exact .capped _⟩
  · have hpv : ∀ l : List (List UInt8), toPVs (l.map SS) = some (l.map fun w => PV.sc (.string ⟨w.toArray⟩)) := by
      intro l
      induction l with
      | nil => rfl
      | cons w l ih => simp [toPVs, toPV, ih]
    have hrb : ∀ l : List (List UInt8), rowsBy 1 l.length (l.map fun w => PV.sc (.string ⟨w.toArray⟩)) = strRows l := by
      intro l
      induction l with
      | nil => rfl
      | cons w l ih => simp [rowsBy, strRows, ih]
    have hemp : (l.map SS).isEmpty = false := by
      cases l with
      | nil => exact absurd rfl hne
      | cons c r => rfl
    refine ⟨.pv (.list (strRows l)), ?_, .list _⟩
    have ht : ((l.map SS).drop 0).take (l.length * 1) = l.map SS := by
      rw [List.drop_zero, List.take_of_length_le (by simp)]
    simp only [close, refRows, hid, hemp, ht, hpv, hrb]
    simp
theorem names_spec {t : Ty} (h : size t < 2 ^ 18) {x : AV} (hx : TRep t x) : PureC (env R) 29 [x] fun r => ∃ l, RowsA r (strRows l) ∧ (∀ w, w ∈ l ↔ w ∈ noms t) ∧ l.length ≤ size t := by
  have hc := coll_spec (R := R) t x hx 1 []
  have hle := noms_le t
  generalize hn : noms t = N at *
  generalize size t = z at *
  obtain ⟨k, n, i, ts⟩ := t
  obtain ⟨a, rfl, ha⟩ := hx
  refine e29 (u0 := .agg [I64 k, SS n, I64 i, a]) (by simp [ha.close]) (p29_0 ?_)
  simp [ha.ok]
  refine wCall_do (hc ⟨[[I64 k, SS n, I64 i, a], [.capped []]], []⟩ (LFE (env R) 29 0 0 0) ⟨.capped [], rfl, .inl ⟨rfl, rfl⟩⟩ (by simp; omega) rfl rfl) ?_
  rintro v s1 ⟨rfl, l', h1⟩
  obtain ⟨y, hy, hw⟩ := h1.ns
  obtain ⟨y', hcl, hr⟩ := hw.closed
  simp [hy]
  refine ⟨y', hcl, l', hr, fun w => ?_, ?_⟩
  · rw [h1.mem]
    simp
  · have := h1.len
    simp at this
    omega
end
end Go.Proofs.YtmipbilokjkjiaaGreatDoor
/-
  Names in terms, the reference; Contains.
-/
namespace Go.Proofs.YtmipbilokjkjiaaGreatDoor
open Go.Tel
attribute [local simp] wNew wBox wBoxZ markT wCond wBuild fillS wO setCells wSt wLd wPart LFE wFad alive wInt wStr wGK wGd wPick wExt wLen wSlen wNot wNil okI ceI okB ceB okS ceS okL ceL okC ceC okO ceO okP ceP okG ceG okE ceE okR ceR okF ceF okX ceX okM ceM okN ceN okNf ceNf okNi ceNi ceA roL roC roO leL leC leO tpP tpC tpO clP clC clO clF clA clT clN clL nbP nbC nbO nbN nbL toPVs
section
variable {R : Nat → Option (List PV)}
def RColl (R : Nat → Option (List PV)) (t : Ty) : Prop := ∀ (x : AV), TRep t x → ∀ (l : List (List UInt8)) (y : AV), RowsA y (strRows l) → l.length + size t < 2 ^ 39 →
  PureC (env R) 64 [x, y] fun r => ∃ m, RowsA r (strRows m) ∧ (∀ w, w ∈ m ↔ w ∈ l ∨ w ∈ noms t) ∧ m.length ≤ l.length + size t
end
end Go.Proofs.YtmipbilokjkjiaaGreatDoor
/-
  Names of variables.
-/
namespace Go.Proofs.YtmipbilokjkjiaaGreatDoor
open Go.Tel
def dig (n : Nat) : List UInt8 := bif decide (n < 10) then [UInt8.ofNat (48 + n)] else bif decide (n < 100) then [UInt8.ofNat (48 + n / 10), UInt8.ofNat (48 + n % 10)] else [UInt8.ofNat (48 + n / 100), UInt8.ofNat (48 + n / 10 % 10), UInt8.ofNat (48 + n % 10)]
def isS (v : Option AV) (l : List UInt8) : Bool := match v with
  | some (.pv (.sc (.string b))) => bytesEq b.data.toList l
  | _ => false
theorem isS_eq {v : Option AV} {l : List UInt8} (h : isS v l = true) : v = some (SS l) := by
  unfold isS at h
  split at h
  · rename_i b
    rw [bytesEq_iff, beq_iff_eq] at h
    subst h
    rfl
  · simp at h
def nameAt (i : Nat) : List UInt8 := bif decide (i < 26) then [UInt8.ofNat (65 + i)] else UInt8.ofNat (65 + i % 26) :: 95 :: dig (i / 26)
def freshI (used : List (List UInt8)) : Nat → Nat → Nat
  | 0, i => i
  | f + 1, i => bif used.contains (nameAt i) then freshI used f (i + 1) else i
def fresh (used : List (List UInt8)) : List UInt8 := nameAt (freshI used 259 0)
theorem u8_inj {a b : Nat} (ha : a < 256) (hb : b < 256) (h : UInt8.ofNat a = UInt8.ofNat b) : a = b := by
  have h1 : (UInt8.ofNat a).toNat = (UInt8.ofNat b).toNat := by rw [h]
  simpa [Nat.mod_eq_of_lt ha, Nat.mod_eq_of_lt hb] using h1
theorem nameAt_inj {i j : Nat} (hi : i < 260) (hj : j < 260) (h : nameAt i = nameAt j) : i = j := by
  unfold nameAt at h
  cases bi : decide (i < 26) with
  | true =>
    have hi' : i < 26 := by simpa using bi
    cases bj : decide (j < 26) with
    | true =>
      have hj' : j < 26 := by simpa using bj
      rw [bi, bj] at h
      simp only [cond_true, List.cons.injEq, and_true] at h
      have := u8_inj (by omega) (by omega) h
      omega
    | false =>
      rw [bi, bj] at h
      simp at h
  | false =>
    have hi' : ¬ i < 26 := by simpa using bi
    cases bj : decide (j < 26) with
    | true =>
      rw [bi, bj] at h
      simp at h
    | false =>
      have hj' : ¬ j < 26 := by simpa using bj
      have d : ∀ k, k < 260 → dig (k / 26) = [UInt8.ofNat (48 + k / 26)] := by
        intro k hk
        have : decide (k / 26 < 10) = true := by simp; omega
        simp [dig, this]
      rw [bi, bj] at h
      simp only [cond_false, d i hi, d j hj, List.cons.injEq, and_true, true_and] at h
      have h1 := u8_inj (by omega) (by omega) h.1
      have h2 := u8_inj (by omega) (by omega) h.2
      omega
theorem length_le_of_nodup {α : Type} [DecidableEq α] : ∀ (l m : List α), l.Nodup → (∀ x ∈ l, x ∈ m) → l.length ≤ m.length
  | [], _, _, _ => by simp
  | a :: l, m, h, hs => by
    rw [List.nodup_cons] at h
    have h1 := length_le_of_nodup l (m.erase a) h.2 (fun x hx => (List.mem_erase_of_ne (by rintro rfl; exact h.1 hx)).2 (hs x (List.mem_cons_of_mem _ hx)))
    have h2 : a ∈ m := hs a (by simp)
    have h3 := List.length_erase_of_mem h2
    have h4 := List.length_pos_of_mem h2
    simp only [List.length_cons]
    omega
theorem names_nodup : ((List.range 260).map nameAt).Nodup := by
  rw [List.nodup_iff_pairwise_ne, List.pairwise_map]
  have h := List.nodup_range (n := 260)
  rw [List.nodup_iff_pairwise_ne] at h
  refine List.Pairwise.imp_of_mem ?_ h
  intro a b ha hb hne e
  exact hne (nameAt_inj (List.mem_range.1 ha) (List.mem_range.1 hb) e)
theorem freshI_all {used : List (List UInt8)} : ∀ (f i : Nat), used.contains (nameAt (freshI used f i)) = true → freshI used f i = i + f ∧ ∀ j, i ≤ j → j ≤ i + f → used.contains (nameAt j) = true
  | 0, i, h => by
    refine ⟨rfl, fun j h1 h2 => ?_⟩
    have : j = i := by omega
    subst this
    exact h
  | f + 1, i, h => by
    simp only [freshI] at h ⊢
    cases hc : used.contains (nameAt i) with
    | false =>
      rw [hc] at h
      simp only [cond_false] at h
      rw [hc] at h
      simp at h
    | true =>
      rw [hc] at h
      simp only [cond_true] at h ⊢
      obtain ⟨h1, h2⟩ := freshI_all f (i + 1) h
      refine ⟨by omega, fun j a b => ?_⟩
      by_cases e : j = i
      · subst e; exact hc
      · exact h2 j (by omega) (by omega)
theorem fresh_new {used : List (List UInt8)} (h : used.length < 260) : used.contains (nameAt (freshI used 259 0)) = false := by
  cases hc : used.contains (nameAt (freshI used 259 0)) with
  | false => rfl
  | true =>
    obtain ⟨_, h2⟩ := freshI_all 259 0 hc
    have := length_le_of_nodup _ used names_nodup (by
      intro x hx
      obtain ⟨j, hj, rfl⟩ := List.mem_map.1 hx
      have hj := List.mem_range.1 hj
      simpa using h2 j (by omega) (by omega))
    simp at this
    omega
theorem freshI_lt {used : List (List UInt8)} : ∀ (f i : Nat), freshI used f i ≤ i + f
  | 0, i => Nat.le_refl _
  | f + 1, i => by
    simp only [freshI]
    have := freshI_lt (used := used) f (i + 1)
    cases used.contains (nameAt i) <;> simp <;> omega
theorem nameAt_len {i : Nat} (h : i < 260) : (nameAt i).length ≤ 3 := by
  unfold nameAt
  cases bi : decide (i < 26) with
  | true => simp
  | false =>
    have : decide (i / 26 < 10) = true := by simp; omega
    simp [dig, this]
theorem dig_len (n : Nat) : (dig n).length ≤ 3 := by
  unfold dig
  cases decide (n < 10) <;> cases decide (n < 100) <;> simp
theorem fresh_len {used : List (List UInt8)} : (fresh used).length ≤ 3 := nameAt_len (by have := freshI_lt (used := used) 259 0; omega)
theorem freshI_congr {u v : List (List UInt8)} (h : ∀ w, w ∈ u ↔ w ∈ v) : ∀ f i, freshI u f i = freshI v f i
  | 0, _ => rfl
  | f + 1, i => by
    have e : u.contains (nameAt i) = v.contains (nameAt i) := by
      rw [Bool.eq_iff_iff]
      simpa using h (nameAt i)
    simp only [freshI, e, freshI_congr h f (i + 1)]
theorem fresh_congr {u v : List (List UInt8)} (h : ∀ w, w ∈ u ↔ w ∈ v) : fresh u = fresh v := by
  unfold fresh
  rw [freshI_congr h]
section
variable {R : Nat → Option (List PV)}
theorem itoa_all : ((List.range 100).all fun n => isS (pureV (env R) 60 58 [I64 n]) (dig n)) = true := by kernel_rfl
theorem itoa_spec {n : Nat} (h : n < 100) : PureC (env R) 58 [I64 n] fun r => r = SS (dig n) :=
  ⟨_, rfl, fun L s => CallE.of_some (callN_pure (args' := [I64 n]) (by kernel_rfl) (by kernel_rfl) (by simp [closeL, close]) rfl (isS_eq (List.all_eq_true.1 itoa_all n (List.mem_range.2 h))) L s)⟩
end
end Go.Proofs.YtmipbilokjkjiaaGreatDoor
/-
  Names of variables: the first free one, both versions.
-/
namespace Go.Proofs.YtmipbilokjkjiaaGreatDoor
open Go.Tel
theorem wAnyT_conv {E : Env} {L : Lim} {s : Sto} {lk : Lk} {o : Oper} {K : AV → Sto → Prop} {a b : TypeId} {x : Operand} {k : IntKind} {v u : Value} (ho : o.op = .convert a b x) (ha : E.P.underlying a = some (.int k)) (hx : evL lk x = some (.pv (.sc v)))
    (hq : quick E.P (convert a b v) = some u) (hu : ofVal u = .pv (.sc u)) (h : K (.pv (.sc u)) s) : wAnyT E L s lk o K := by
  refine ⟨.pv (.sc u), s, fun ρ hA => ?_, h⟩
  have ex := evL_eq hA hx
  have h1 : allConc ρ o.op.operands.toList = true := by
    have e : o.op.operands.toList = [x] := by rw [ho]; rfl
    rw [e]
    simp [allConc, ex, conc]
  have h2 : quickOp E ρ o = some (.pv (.sc u)) := by
    have : quick E.P (execOp (fun z => (conc (evalO ρ z)).getD undef) o) = some (.value u) := by
      unfold execOp
      rw [ho]
      simp only [ex, conc, Option.getD_some]
      exact quick_bind hq rfl
    simp only [quickOp, h1, if_true, this, hu]
  unfold opA
  rw [ho]
  simp only [ha, h2]
section
variable {R : Nat → Option (List PV)}
def isR (v : Option Value) (l : List UInt8) : Bool := match v with
  | some (.string b) => bytesEq b.data.toList l
  | _ => false
theorem isR_eq {v : Option Value} {l : List UInt8} (h : isR v l = true) : v = some (.string ⟨l.toArray⟩) := by
  unfold isR at h
  split at h
  · rename_i b
    rw [bytesEq_iff, beq_iff_eq] at h
    subst h
    rfl
  · simp at h
theorem rune_all : ((List.range 26).all fun j => isR (quick Tryz.prog (convert 21 9 (.int .i32 (65 + j)))) [UInt8.ofNat (65 + j)]) = true := by kernel_rfl
theorem rune_one {j : Nat} (h : j < 26) : quick Tryz.prog (convert 21 9 (.int .i32 (65 + j))) = some (.string ⟨[UInt8.ofNat (65 + j)].toArray⟩) := isR_eq (List.all_eq_true.1 rune_all j (List.mem_range.2 h))
theorem st_add {a b : List UInt8} {K : AV → Prop} (hl : a.length + b.length < 2 ^ 63) (h : K (SS (a ++ b))) : wStr .add (SS a) (SS b) K := by
  simp only [wStr]
  exact ⟨by simpa using hl, by simpa using h⟩
theorem nt_t {K : AV → Prop} (h : K (BB false)) : wNot (BB true) K := h
theorem nt_f {K : AV → Prop} (h : K (BB true)) : wNot (BB false) K := h
theorem tmod_nat (a b : Nat) : ((a : Int).tmod b) = ((a % b : Nat) : Int) := by
  rw [Int.tmod_eq_emod_of_nonneg (by omega)]
  omega
theorem tdiv_nat (a b : Nat) : ((a : Int).tdiv b) = ((a / b : Nat) : Int) := by
  rw [Int.tdiv_eq_ediv_of_nonneg (by omega)]
  omega
theorem fresh_loop {bs : List (List AV)} {id : Nat} {z b nm sc : AV} {N S : List (List UInt8)} {ts : List (Nat × TypeId)} (hid : bs[id]? = some [z, b, nm]) (hnm : RowsA nm (strRows N)) (hN : N.length < 2 ^ 60) (hS : S.length < 2 ^ 60) {n0 ro rt : Nat}
    (hsc : ∀ w, ∃ r, (r = BB (S.contains w)) ∧ ∀ L s, CallE (env R) L 84 [sc, SS w] s r s) {QR : AV → Sto → Prop} :
    ∀ (f i : Nat), i + f ≤ 259 → (N ++ S).contains (nameAt (freshI (N ++ S) f i)) = false → QR (SS (nameAt (freshI (N ++ S) f i))) ⟨bs, ts⟩ → P59_1 R n0 ro rt (.ptr id 0) sc (I64 i) ⟨bs, ts⟩ QR := by
  have al : alive ⟨bs, ts⟩ id = true := by simp [alive, hid]
  have name : ∀ (i : Nat) (QR : AV → Sto → Prop), i ≤ 259 → P59_2 R n0 ro rt (.ptr id 0) sc (I64 i) (SS (nameAt i)) ⟨bs, ts⟩ QR → P59_1 R n0 ro rt (.ptr id 0) sc (I64 i) ⟨bs, ts⟩ QR := by
    intro i QR hi h
    have hj : i % 26 < 26 := Nat.mod_lt _ (by omega)
    refine p59_1 ?_
    refine ⟨⟨rfl, rfl⟩, by omega, ?_⟩
    have e1 : ((i : Int).tmod 26) = ((i % 26 : Nat) : Int) := tmod_nat i 26
    rw [e1]
    refine in_add (by omega) (by omega) ?_
    have hw : IntKind.i32.wrap (65 + ((i % 26 : Nat) : Int)) = 65 + ((i % 26 : Nat) : Int) := by
      unfold IntKind.wrap
      simp [IntKind.bits, IntKind.signed]
      omega
    simp only [wConvI, hw]
    refine wAnyT_conv (a := 21) (b := 9) (x := .tmp 12) (k := .i32) (v := .int .i32 (65 + ((i % 26 : Nat) : Int))) (by kernel_rfl) (by kernel_rfl) rfl (rune_one hj) rfl ?_
    refine in_geq ?_
    unfold nameAt at h
    cases bi : decide (i < 26) with
    | true =>
      have hi' : i < 26 := by simpa using bi
      have b1 : decide ((i : Int) ≥ 26) = false := by simp; omega
      rw [b1]
      rw [bi, cond_true] at h
      rw [Nat.mod_eq_of_lt hi']
      exact co_f h
    | false =>
      have hi' : ¬ i < 26 := by simpa using bi
      have b1 : decide ((i : Int) ≥ 26) = true := by simp; omega
      rw [b1]
      rw [bi, cond_false] at h
      refine co_t ?_
      refine ⟨⟨rfl, rfl⟩, by omega, ?_⟩
      have e2 : ((i : Int).tdiv 26) = ((i / 26 : Nat) : Int) := tdiv_nat i 26
      rw [e2]
      have e3 : IntKind.i64.wrap ((i / 26 : Nat) : Int) = ((i / 26 : Nat) : Int) := by
        unfold IntKind.wrap
        simp [IntKind.bits, IntKind.signed]
        omega
      simp only [wAri, e3]
      refine wCall_pure (itoa_spec (by omega)) ?_
      rintro r rfl
      have hd := dig_len (i / 26)
      refine st_add (by simp; omega) (st_add (by simp; omega) ?_)
      simpa using h
  have test : ∀ (i : Nat) (QR : AV → Sto → Prop), i ≤ 259 → ((N ++ S).contains (nameAt i) = false → QR (SS (nameAt i)) ⟨bs, ts⟩) → ((N ++ S).contains (nameAt i) = true → P59_3 R n0 ro rt (.ptr id 0) sc (I64 i) ⟨bs, ts⟩ QR) → P59_1 R n0 ro rt (.ptr id 0) sc (I64 i) ⟨bs, ts⟩ QR := by
    intro i QR hi h1 h2
    refine name i QR hi (p59_2 ?_)
    refine ⟨al, al, ?_⟩
    simp only [wLd, hid, wO, wPart]
    simp only [List.getElem?_cons_succ, List.getElem?_cons_zero, Nat.zero_add]
    refine wCall_pure (containsS_spec hnm hN) ?_
    rintro v rfl
    have hc : (N ++ S).contains (nameAt i) = (N.contains (nameAt i) || S.contains (nameAt i)) := by
      rw [Bool.eq_iff_iff]
      simp
    cases c1 : N.contains (nameAt i) with
    | true =>
      rw [hc, c1, Bool.true_or] at h2
      refine nt_t (gk_f (by simp) (gk_f (by simp) (gk_f (by simp) (gk_f (by simp) ?_))))
      exact pk (co_f (h2 rfl))
    | false =>
      rw [hc, c1, Bool.false_or] at h1 h2
      refine nt_f (gk_t (gk_t (gk_t ?_)))
      obtain ⟨r, rfl, hr⟩ := hsc (nameAt i)
      refine ⟨_, _, hr _ _, ?_⟩
      cases c2 : S.contains (nameAt i) with
      | true => exact gk_t (nt_t (pk (co_f (h2 c2))))
      | false => exact gk_t (nt_f (pk (co_t (h1 c2))))
  intro f
  induction f with
  | zero =>
    intro i hi hc hQ
    simp only [freshI] at hc hQ
    exact test i QR (by omega) (fun _ => hQ) (fun h => by rw [hc] at h; simp at h)
  | succ f ih =>
    intro i hi hc hQ
    refine test i QR (by omega) (fun h => ?_) (fun h => ?_)
    · simp only [freshI, h, cond_false] at hQ
      exact hQ
    · simp only [freshI, h, cond_true] at hc hQ
      refine p59_3 (in_add (by omega) (by omega) ?_)
      have := ih (i + 1) (by omega) hc hQ
      simpa using this
end
end Go.Proofs.YtmipbilokjkjiaaGreatDoor
