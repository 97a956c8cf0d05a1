/-
  Small rules: what a point of a function's code needs, one constructor at a time.
-/
import Derived.Test.YtpmafnbhkhdaiaaGreatDoorL1
import Derived.Test.YtpmafnbhkhdaiaaGreatDoorWpH
set_option linter.unusedSimpArgs false
set_option linter.unusedVariables false
namespace Go.Proofs.YtpmafnbhkhdaiaaGreatDoor
open Go.Tel
theorem gk_t {b : Bool} {s : Sto} {W : (AV → Sto → Prop) → Prop} {K : AV → Sto → Prop} (h : W K) : wGK (BB b) b s W K := ⟨fun _ => h, fun h => absurd rfl h⟩
theorem gk_f {b c : Bool} {s : Sto} {W : (AV → Sto → Prop) → Prop} {K : AV → Sto → Prop} (hn : b ≠ c) (h : K (.tuple []) s) : wGK (BB b) c s W K := ⟨fun h => absurd h hn, fun _ => h⟩
theorem gk_ft {s : Sto} {W : (AV → Sto → Prop) → Prop} {K : AV → Sto → Prop} (h : K (.tuple []) s) : wGK (BB false) true s W K := gk_f (by decide) h
theorem co_t {A B : Prop} (h : A) : wCond (BB true) A B := ⟨fun _ => h, fun h => by cases h⟩
theorem co_f {A B : Prop} (h : B) : wCond (BB false) A B := ⟨fun h => (by cases h), fun _ => h⟩
theorem in_eql {k : IntKind} {a b : Int} {K : AV → Prop} (h : K (BB (a == b))) : wInt k .eql (.pv (.sc (.int k a))) (.pv (.sc (.int k b))) K := ⟨⟨rfl, rfl⟩, h⟩
theorem in_neq {k : IntKind} {a b : Int} {K : AV → Prop} (h : K (BB (a != b))) : wInt k .neq (.pv (.sc (.int k a))) (.pv (.sc (.int k b))) K := ⟨⟨rfl, rfl⟩, h⟩
theorem in_lss {a b : Int} {K : AV → Prop} (h : K (BB (a < b))) : wInt .i64 .lss (I64 a) (I64 b) K := ⟨⟨rfl, rfl⟩, h⟩
theorem in_leq {a b : Int} {K : AV → Prop} (h : K (BB (a ≤ b))) : wInt .i64 .leq (I64 a) (I64 b) K := ⟨⟨rfl, rfl⟩, h⟩
theorem in_geq {a b : Int} {K : AV → Prop} (h : K (BB (a ≥ b))) : wInt .i64 .geq (I64 a) (I64 b) K := ⟨⟨rfl, rfl⟩, h⟩
theorem in_add {a b : Int} {K : AV → Prop} (h1 : -(2 ^ 63) ≤ a + b) (h2 : a + b < 2 ^ 63) (h : K (I64 (a + b))) : wInt .i64 .add (I64 a) (I64 b) K := ⟨⟨rfl, rfl⟩, wAri_fit h1 h2 h⟩
theorem in_sub {a b : Int} {K : AV → Prop} (h1 : -(2 ^ 63) ≤ a - b) (h2 : a - b < 2 ^ 63) (h : K (I64 (a - b))) : wInt .i64 .sub (I64 a) (I64 b) K := ⟨⟨rfl, rfl⟩, wAri_fit h1 h2 h⟩
theorem bd_of {z ps cs : _} {K : AV → Prop} (hf : fillS z ps = some cs) (h : K (.agg cs)) : wBuild z ps K := by
  simp only [wBuild, hf, wO]
  exact h
theorem nt {b : Bool} {K : AV → Prop} (h : K (BB !b)) : wNot (BB b) K := h
theorem ex_of {l : List AV} {i : Nat} {v : AV} {K : AV → Prop} (hi : l[i]? = some v) (h : K v) : wExt (.tuple l) i K := by
  simp only [wExt, wO, hi]
  exact h
theorem bx_of {s : Sto} {v : AV} {cs : List AV} {K : AV → Sto → Prop} (hc : cellsOf v = cs) (ho : cs.all okCell = true) (h : K (.ptr s.bs.length 0) ⟨s.bs ++ [cs], s.ts⟩) : wBox s v K := by
  unfold wBox
  rw [hc]
  exact ⟨ho, h⟩
theorem new_of {s : Sto} {cs : List AV} {K : AV → Sto → Prop} (h : K (.ptr s.bs.length 0) ⟨s.bs ++ [cs], s.ts⟩) : wNew s cs K := h
theorem al_of {s : Sto} {id : Nat} {c : AV} {cs : List AV} (h : s.bs[id]? = some (c :: cs)) : alive s id = true := by
  simp [alive, h]
theorem nil_of {s : Sto} {id off : Nat} {K : AV → Prop} (ha : alive s id = true) (h : K (.ptr id off)) : wNil s (.ptr id off) K := ⟨ha, h⟩
theorem fad_of {s : Sto} {id off d : Nat} {K : AV → Prop} (ha : alive s id = true) (h : K (.ptr id (off + d))) : wFad s (.ptr id off) d K := ⟨ha, h⟩
theorem ld_of {E : Env} {s : Sto} {id off : Nat} {cs : List AV} {v : AV} {K : AV → Prop} (hb : s.bs[id]? = some cs) (hv : cs[off]? = some v) (h : K v) : wLd E s none (.ptr id off) K := by
  simp only [wLd, hb, wO, wPart, hv]
  exact h
theorem ldk_of {E : Env} {s : Sto} {id k : Nat} {cs : List AV} {K : AV → Prop} (hb : s.bs[id]? = some cs) (hk : cs.length = k) (h : K (.agg cs)) : wLd E s (some k) (.ptr id 0) K := by
  simp only [wLd, hb, wO, wPart, List.drop_zero]
  refine ⟨by omega, ?_⟩
  rw [List.take_of_length_le (by omega)]
  exact h
theorem len_of {s : Sto} {a : AV} {n : Nat} {K : AV → Prop} (hl : lenA s a = some n) (h : K (I64 n)) : wLen s a K := by
  simp only [wLen, hl, wO]
  exact h
theorem sln {w : List UInt8} {K : AV → Prop} (h : K (I64 w.length)) : wSlen (SS w) K := by simpa [wSlen] using h
theorem st_all {L : Lim} {s : Sto} {id k : Nat} {cs old : List AV} {K : Sto → Prop} (hb : s.bs[id]? = some old) (hk : cs.length = k) (ho : old.length = k) (h0 : 0 < k) (hro : L.ro ≤ id) (hok : cs.all okCell = true) (hn : L.n0 ≤ id ∨ noBlkL cs = true) (h : K ⟨s.bs.set id cs, s.ts⟩) : wSt L s k (.ptr id 0) (.agg cs) K := by
  have hce : cellsOf (.agg cs) = cs := rfl
  have hset : ∀ (a b : List AV), a.length = b.length → setCells a 0 b = b := by
    intro a b hab
    have gen : ∀ (b pre old : List AV), old.length = b.length → setCells (pre ++ old) pre.length b = pre ++ b := by
      intro b
      induction b with
      | nil => intro pre old h; cases old with
        | nil => rfl
        | cons _ _ => simp at h
      | cons x b ih =>
        intro pre old h
        cases old with
        | nil => simp at h
        | cons y old =>
          have := ih (pre ++ [x]) old (by simpa using h)
          simp only [List.length_append, List.length_cons, List.length_nil, List.append_assoc, List.cons_append, List.nil_append] at this
          rw [setCells]
          simpa using this
    simpa using gen b [] a hab
  simp only [wSt, hb, wO, hce]
  refine ⟨⟨hk, by omega, hro, hok, hn, by omega⟩, ?_⟩
  rw [hset old cs (by omega)]
  exact h
theorem st_one {L : Lim} {s : Sto} {id off : Nat} {v : AV} {cs : List AV} {K : Sto → Prop} (hb : s.bs[id]? = some cs) (ho : off < cs.length) (hc : cellsOf v = [v]) (hro : L.ro ≤ id) (hok : okCell v = true) (hn : L.n0 ≤ id ∨ noBlk v = true) (h : K ⟨s.bs.set id (cs.set off v), s.ts⟩) : wSt L s 1 (.ptr id off) v K := by
  simp only [wSt, hb, wO, hc]
  refine ⟨⟨rfl, by simp; omega, hro, by simp [hok], hn.imp (fun h => h) fun h => by simp [noBlkL, h], by omega⟩, ?_⟩
  simpa [setCells] using h
theorem eqA_ptr (a b : Nat) : Tel.eqA (.ptr a b) (.ptr a b) = true := by simp [Tel.eqA]
theorem get_last (bs : List (List AV)) (b : List AV) : (bs ++ [b])[bs.length]? = some b := by simp
theorem get_self {bs : List (List AV)} {j : Nat} {c b : List AV} (h : bs[j]? = some c) : (bs.set j b)[j]? = some b := by
  have := (List.getElem?_eq_some_iff.1 h).1
  simp [this]
end Go.Proofs.YtpmafnbhkhdaiaaGreatDoor
