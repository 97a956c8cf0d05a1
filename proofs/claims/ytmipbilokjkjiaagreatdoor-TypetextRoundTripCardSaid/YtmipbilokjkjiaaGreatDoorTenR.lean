/-
  A told call: sexpr.Parse, by a plain parser of lists of words.
-/
import Derived.Test.YtmipbilokjkjiaaGreatDoorTenK
set_option linter.unusedSimpArgs false
set_option linter.unusedVariables false
namespace Go.Tel
def wB (c : UInt8) : Bool := (Nat.ble 97 c.toNat && Nat.ble c.toNat 122) || ((Nat.ble 65 c.toNat && Nat.ble c.toNat 90) || ((Nat.ble 48 c.toNat && Nat.ble c.toNat 57) || (Nat.beq c.toNat 95 || Nat.beq c.toNat 45)))
def nodeR (k : Int) (w : List UInt8) (cs : List (List PV)) (o : Nat) : List PV := [.sc (.int .i64 k), .sc (.string ⟨w.toArray⟩), .list cs, .sc (.int .i64 o)]
def parG : Nat → List UInt8 → Nat → List (Nat × List (List PV)) → Option (List (List PV))
  | 0, _, _, _ => none
  | _ + 1, [], _, st => match st with
    | [(_, cs)] => some cs
    | _ => none
  | f + 1, c :: r, p, st =>
    bif Nat.beq c.toNat 32 then parG f r (p + 1) st
    else bif Nat.beq c.toNat 40 then bif Nat.ble st.length 40 then parG f r (p + 1) ((p, []) :: st) else none
    else bif Nat.beq c.toNat 41 then match st with
      | (o, cs) :: (o', cs') :: st' => parG f r (p + 1) ((o', cs' ++ [nodeR 3 [] cs o]) :: st')
      | _ => none
    else bif wB c then bif Nat.ble ((c :: r).takeWhile wB).length 24 then match st with
        | (o, cs) :: st' => parG f ((c :: r).drop ((c :: r).takeWhile wB).length) (p + ((c :: r).takeWhile wB).length) ((o, cs ++ [nodeR 1 ((c :: r).takeWhile wB) [] p]) :: st')
        | [] => none
      else none
    else none
def parP (l : List UInt8) : Option (List (List PV)) := bif Nat.ble l.length 65536 then parG (l.length + 1) l 0 [(0, [])] else none
def parPT (_ : Lim) (args : List AV) (s : Sto) : Option (AV × Sto) := match args with
  | [.pv (.sc (.string b))] => match parP b.data.toList with
    | some rows => some (.tuple [.pv (.list rows), .agg [.pv (.sc (.int .i64 0)), .pv (.sc (.int .i64 0))]], s)
    | none => none
  | _ => none
theorem parPT_ok {E E0 : Env} (hG0 : Good E0) (hG : E.G = E0.G) (hP : E.P = E0.P) {f all : FuncId} {tl tf tn tp : TypeId} (hc : ParC E.P f all tl tf tn tp) (htn : tn ≠ tp)
    (H : ∀ l rows, parP l = some rows → ∃ n s', callN E0 n L00 all [.ptr 1 0] (parI ⟨l.toArray⟩) = some (.tuple [], s') ∧ parR s' = some rows) : ToldOk E f parPT := by
  refine par_ok hG0 hG hP hc htn fun L args s s' v h => ?_
  unfold parPT at h
  split at h
  · rename_i b
    split at h
    · rename_i rows hr
      simp only [aLs0001, aLs0003] at h
      obtain ⟨rfl, rfl⟩ := h
      obtain ⟨n, s2, h1, h2⟩ := H _ _ hr
      exact ⟨rfl, b, _, n, s2, rfl, rfl, by simpa using h1, h2⟩
    · simp at h
  · simp at h
end Go.Tel
