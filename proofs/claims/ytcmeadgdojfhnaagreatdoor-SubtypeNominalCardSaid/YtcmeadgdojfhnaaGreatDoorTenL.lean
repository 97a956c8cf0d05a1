/-
  A told call: slices.Insert of one element of one cell.
-/
import Derived.Test.YtcmeadgdojfhnaaGreatDoorTenJ
import Derived.Laws.Externs
import GoSem.Extern.SlicesOverlaps
set_option linter.unusedSimpArgs false
set_option linter.unusedVariables false
namespace Go.Tel
def insT (L : Lim) (args : List AV) (s : Sto) : Option (AV × Sto) := match args with
  | [x, .pv (.sc (.int .i64 (.ofNat i))), .capped [[c]]] => match x with
    | .ref id 0 len 1 => match s.bs[id]? with
      | some cs =>
        bif okCell (.pv c) && (Nat.beq len cs.length && (Nat.ble 1 len && (Nat.ble i len && (Nat.ble len 1000000000 && (Nat.ble L.ro id && cs.all okCell))))) then
          some (.ref s.bs.length 0 (len + 1) 1, { s with bs := s.bs.set id [] ++ [cs.take i ++ .pv c :: cs.drop i] })
        else none
      | none => none
    | .capped [] => bif Nat.beq i 0 && okCell (.pv c) then some (.ref s.bs.length 0 1 1, { s with bs := s.bs ++ [[.pv c]] }) else none
    | _ => none
  | _ => none
theorem overlaps_run {P : Program} {w : World} {params results : Array TypeId} {t e : TypeId} {i : TypeInfo} {yb yo b o n m c1 c2 : Nat} {y : Value} {vs : List Value} {et : TypeId} (hp : params[0]? = some t) (ht : P.underlying t = some (.slice e)) (hi : P.info? e = some i) (h1 : i.size = 1)
    (hy : w.cell? ⟨yb, yo, none⟩ = some y) (hb : w.heap[b]? = some (.cells ⟨vs⟩ et (0, 0))) (hv : vs ≠ []) (hne : yb ≠ b) :
    (Extern.SlicesOverlaps.overlaps params results #[.slice (some ⟨yb, yo, none⟩) n c1, .slice (some ⟨b, o, none⟩) m c2]).run P w = .ok (.bool false) w := by
  have hys : ∃ ey ny, w.shape? yb = some (ey, ny + 1) := by
    unfold World.cell? at hy
    unfold World.shape?
    split at hy
    · rename_i cs ey fz h
      rw [h]
      simp only at hy
      have : yo < cs.size := by grind
      exact ⟨ey, cs.size - 1, by grind⟩
    grind
  obtain ⟨ey, ny, hys⟩ := hys
  have hbs : w.shape? b = some (et, vs.length) := shape_of_heap hb
  have hfz : ∀ o, w.frozen? ⟨b, o, none⟩ = false := fun o => by grind[World.frozen?]
  have hvl : vs.length ≠ 0 := by grind
  have hd : Extern.SlicesOverlaps.overlaps params results #[.slice (some ⟨yb, yo, none⟩) n c1, .slice (some ⟨b, o, none⟩) m c2] = (do
      let some t := params[0]? | stuck _
      let .slice elem ← underlying t | stuck _
      let size ← sizeOf elem
      if n = 0 ∨ m = 0 ∨ size = 0 then pure (.bool false)
      else if yb != b && (← frozen ⟨yb, yo, none⟩) && (← frozen ⟨b, o, none⟩) then unsupported .addressObserved
      else do
        if yb != b then do
          noView ⟨yb, yo, none⟩; noView ⟨b, o, none⟩
          if ← mayBeOne ⟨yb, yo, none⟩ ⟨b, o, none⟩ then return .bool ((← choose _) == 1)
        pure (.bool (yb == b && yo < o + m * size && o < yo + n * size))) := rfl
  simp[*,run_underlying,run_sizeOf,noView,viewAt,mayBeOne,stringish]
structure InsC (P : Program) (f fo : FuncId) (t e ti : TypeId) : Prop where
  body : HasBody P f
  ht : P.underlying t = some (.slice e)
  hti : P.underlying ti = some (.int .i64)
  info : ∃ i z, P.info? e = some i ∧ i.size = 1 ∧ i.bytes ≤ 16 ∧ i.zero = some z ∧ z.cells = #[z] ∧ z.oneCell' = true
  zero : ∃ z, zeroOf P e = some [z]
  endR : ∀ (w w1 : World) (s : Option Addr) (len cap yb yo ycap : Nat) (v1 : Value), len ≤ cap →
    (Builtin.append_ #[t, t] t #[.slice s len cap, .slice (some ⟨yb, yo, none⟩) 1 ycap]).run P w = .ok v1 w1 →
    Calls P f #[.slice s len cap, .int .i64 len, .slice (some ⟨yb, yo, none⟩) 1 ycap] w fun e' w' => e' = .returned v1 ∧ w' = w1
  ov : ∀ (w : World) (yb yo ycap b o m c2 : Nat) (y : Value) (vs : List Value) (et : TypeId), w.cell? ⟨yb, yo, none⟩ = some y → w.heap[b]? = some (.cells ⟨vs⟩ et (0, 0)) → vs ≠ [] → yb ≠ b →
    (callFunc fo #[.slice (some ⟨yb, yo, none⟩) 1 ycap, .slice (some ⟨b, o, none⟩) m c2]).run P w = .ok (.value (.bool false)) w
  roomR : ∀ (w : World) (b len cap yb yo ycap i : Nat), len ≤ 1000000000000000000 → len + 1 ≤ cap → i < len → ∀ (w1 w2 : World),
    (callFunc fo #[.slice (some ⟨yb, yo, none⟩) 1 ycap, .slice (some ⟨b, i + 1, none⟩) (len - i) (cap - (i + 1))]).run P w = .ok (.value (.bool false)) w →
    (Builtin.copy_ #[t, t] ti #[.slice (some ⟨b, i + 1, none⟩) (len - i) (cap - (i + 1)), .slice (some ⟨b, i, none⟩) (len + 1 - i) (cap - i)]).run P w.drew = .ok (goInt (len - i : Nat)) w1 →
    (Builtin.copy_ #[t, t] ti #[.slice (some ⟨b, i, none⟩) (len + 1 - i) (cap - i), .slice (some ⟨yb, yo, none⟩) 1 ycap]).run P w1 = .ok (goInt (1 : Nat)) w2 →
    Calls P f #[.slice (some ⟨b, 0, none⟩) len cap, .int .i64 i, .slice (some ⟨yb, yo, none⟩) 1 ycap] w fun e' w' => e' = .returned (.slice (some ⟨b, 0, none⟩) (len + 1) cap) ∧ w' = w2
  growR : ∀ (w : World) (b len cap yb yo ycap i sz cap2 : Nat), len ≤ 1000000000000000000 → len ≤ cap → cap < len + 1 → i < len → len + 1 ≤ cap2 → ∀ (w1 w2 w3 : World),
    (Builtin.append_ #[t, ti] t #[.slice (some ⟨b, 0, none⟩) i cap, .int .i64 ((len : Int) + 1 - (i : Int))]).run P w = .ok (.slice (some ⟨sz, 0, none⟩) (len + 1) cap2) w1 →
    (Builtin.copy_ #[t, t] ti #[.slice (some ⟨sz, i, none⟩) (len + 1 - i) (cap2 - i), .slice (some ⟨yb, yo, none⟩) 1 ycap]).run P w1 = .ok (goInt (1 : Nat)) w2 →
    (Builtin.copy_ #[t, t] ti #[.slice (some ⟨sz, i + 1, none⟩) (len - i) (cap2 - (i + 1)), .slice (some ⟨b, i, none⟩) (len - i) (cap - i)]).run P w2.drew = .ok (goInt (len - i : Nat)) w3 →
    Calls P f #[.slice (some ⟨b, 0, none⟩) len cap, .int .i64 i, .slice (some ⟨yb, yo, none⟩) 1 ycap] w fun e' w' => e' = .returned (.slice (some ⟨sz, 0, none⟩) (len + 1) cap2) ∧ w' = w3
theorem firstCells_row {P : Program} {w : World} {b o n m cap : Nat} (us : List Value) (hl : us.length = n) (h : ∀ (j : Nat) u, us[j]? = some u → w.cell? ⟨b, o + j, none⟩ = some u) :
    (Builtin.firstCells 1 n (.slice (some ⟨b, o, none⟩) m cap)).run P w = .ok us.toArray w := by grind[loadCells_run,Builtin.firstCells]
theorem ins_list (vs : List Value) (c : Value) (i len : Nat) (hi : i ≤ len) (hl : len + 1 ≤ vs.length) :
    (setV (setV vs (i + 1) ((vs.drop i).take (len - i))) i [c]).take (len + 1) = (vs.take len).take i ++ c :: (vs.take len).drop i := by
  have h1 : ((vs.drop i).take (len - i)).length = len - i := by grind
  have hA : ((vs.take len).take i).length = i := by grind
  have hM : (setV vs (i + 1) ((vs.drop i).take (len - i))).length = vs.length := setV_length _ _ _
  apply List.ext_getElem?
  intro q
  rw [List.getElem?_take]
  by_cases hq : q < len + 1
  · rw [if_pos hq]
    rcases Nat.lt_trichotomy q i with h | h | h
    · grind[setV_get]
    · grind[setV]
    · obtain ⟨r, rfl⟩ : ∃ r, q = i + 1 + r := ⟨q - i - 1, by omega⟩
      have hr : r < ((vs.drop i).take (len - i)).length := by omega
      rw [setV_get _ _ _ _ (.inr (by simp)), setV_get_in _ vs (i + 1) r _ (List.getElem?_eq_getElem hr) (by omega), List.getElem?_append_right (by omega), hA]
      grind
  grind
theorem ins_list2 (A vs : List Value) (c : Value) (i len : Nat) (hi : i ≤ len) (hl : len ≤ vs.length) (hA : len + 1 ≤ A.length) (hp : A.take i = vs.take i) :
    (setV (setV A i [c]) (i + 1) ((vs.drop i).take (len - i))).take (len + 1) = (vs.take len).take i ++ c :: (vs.take len).drop i := by
  have h1 : ((vs.drop i).take (len - i)).length = len - i := by grind
  have hB : ((vs.take len).take i).length = i := by grind
  have hM : (setV A i [c]).length = A.length := setV_length _ _ _
  apply List.ext_getElem?
  intro q
  rw [List.getElem?_take]
  by_cases hq : q < len + 1
  · rw [if_pos hq]
    rcases Nat.lt_trichotomy q i with h | h | h
    · grind[setV_get]
    · grind[setV,setV_get]
    · obtain ⟨r, rfl⟩ : ∃ r, q = i + 1 + r := ⟨q - i - 1, by omega⟩
      have hr : r < ((vs.drop i).take (len - i)).length := by omega
      rw [setV_get_in _ _ (i + 1) r _ (List.getElem?_eq_getElem hr) (by omega), List.getElem?_append_right (by omega), hB]
      grind
  grind
theorem insT_ok {E : Env} {f fo : FuncId} {t e ti : TypeId} (hc : InsC E.P f fo t e ti) : ToldOk E f insT := by
  intro L args s s' v g w vs h hI hargs
  refine ⟨hc.body, ?_⟩
  obtain ⟨i0, z, hi, hs1, hby, hz, hzc, hzo⟩ := hc.info
  obtain ⟨zz, hzz⟩ := hc.zero
  unfold insT at h
  split at h
  · rename_i x i c
    obtain ⟨u, us, rfl, hu, hn⟩ := hargs.cases
    obtain ⟨u1, us1, rfl, hu1, hn1⟩ := hn.cases
    obtain ⟨u2, us2, rfl, hu2, hn2⟩ := hn1.cases
    have := hn2.nil_inv; subst this
    have := hu1.scv_inv; subst this
    have hyV := hu2
    cases hu2 with
    | @capped _ base yb yo ysz ff hr =>
      have hysz : ysz = 1 := by simpa using (hr.hsz [c] (by simp)).symm
      subst hysz
      have := hr.hbase (by simp) (by omega)
      subst this
      obtain ⟨hyI, hyc⟩ := hr.hc 0 [c] 0 c rfl rfl
      have hyv := hr.hv 0 [c] 0 c rfl rfl
      simp only [Nat.zero_mul, Nat.add_zero] at hyI hyc
      simp only [List.length_cons, List.length_nil, Nat.zero_add] at hyV hargs ⊢
      generalize hy0 : ff 0 0 = yv at hyc hyv
      have happ : ∀ (x u : _) (r : AV) (s1 : Sto) (sb : Option Addr) (len cap : Nat), V g w x u → u = .slice sb len cap → len ≤ cap → appendA E.P ⟨L.n0, L.ro, L.rt, fun _ => true, L.rr, L.pl⟩ s t x (.capped [[c]]) = some (r, s1) →
          Calls E.P f #[u, .int .i64 len, .slice (some ⟨yb, yo, none⟩) 1 1] w fun e w' => ∃ v' g', e = .returned v' ∧ V g' w' r v' ∧ Ext L g w g' w' ∧ Inv E g' w' s1 := by
        intro x u r s1 sb len cap hx he hlc ha
        obtain ⟨v', w', g', k1, k2, k3, k4⟩ := appendA_sound (T := t) (u := t) (ts := []) hI hx hyV hc.ht (by simp) ha
        subst he
        refine (hc.endR w w' sb len cap yb yo 1 v' hlc k1).mono ?_
        rintro e w'' ⟨rfl, rfl⟩
        exact ⟨v', g', rfl, k2, k3.lim rfl rfl, k4⟩
      split at h
      · rename_i id len
        split at h
        · rename_i cs hcs
          cases hcond : (okCell (.pv c) && (Nat.beq len cs.length && (Nat.ble 1 len && (Nat.ble i len && (Nat.ble len 1000000000 && (Nat.ble L.ro id && cs.all okCell)))))) with
          | false => grind
          | true =>
            rw [hcond] at h
            simp only [cond_true, Option.some.injEq, Prod.mk.injEq] at h
            obtain ⟨rfl, rfl⟩ := h
            simp only [Bool.and_eq_true] at hcond
            obtain ⟨b1, b2, b3, b4, b5, b6, b7⟩ := hcond
            have b2 := Nat.eq_of_beq_eq_true b2
            have b3 := Nat.le_of_ble_eq_true b3
            have b4 := Nat.le_of_ble_eq_true b4
            have b5 := Nat.le_of_ble_eq_true b5
            have b6 := Nat.le_of_ble_eq_true b6
            have hyone : yv.oneCell' = true := okCell_one (.pv hyv) b1
            cases hu with
            | refD hd =>
              have := hI.deadE id hd
              grind
            | @ref _ _ _ _ b cap n te hblk hcap hsh hnn =>
              obtain ⟨cs', vs, e', k1, k2, kle, k3⟩ := hI.blk id b hblk
              rw [hcs] at k1; simp only [Option.some.injEq] at k1; subst k1
              rw [shape_of_heap k2] at hsh
              simp only [Option.some.injEq, Prod.mk.injEq] at hsh
              obtain ⟨he, hnv⟩ := hsh
              subst he hnv
              have hcv : cap ≤ vs.length := by omega
              have hne : yb ≠ b := fun q => hI.blkI id b yo hblk (q ▸ hyI)
              have hvs : vs ≠ [] := fun q => by grind
              have hone : ∀ u ∈ vs.take len, u.oneCell' = true := by rw [b2]; exact k3.one b7
              have hM1 : ((vs.drop i).take (len - i)).length = len - i := by grind
              have hMone : ∀ u ∈ (vs.drop i).take (len - i), u.oneCell' = true := fun u hu => hone u (by
                have : (vs.drop i).take (len - i) = (vs.take len).drop i := by rw [List.drop_take]
                grind)
              have hcl : (cs.take i ++ AV.pv c :: cs.drop i).length = len + 1 := by grind
              have k3' : VL g w cs (vs.take len) := by grind
              have hVLc : ∀ (w2 : World) (e2 : Ext L g w g w2), VL g w2 (cs.take i ++ AV.pv c :: cs.drop i) ((vs.take len).take i ++ yv :: (vs.take len).drop i) := fun w2 e2 =>
                ((k3'.mono e2).take i).append (.cons ((V.pv hyv).mono e2) ((k3'.mono e2).drop i))
              by_cases hil : i = len
              · subst hil
                have ha : appendA E.P ⟨L.n0, L.ro, L.rt, fun _ => true, L.rr, L.pl⟩ s t (.ref id 0 i 1) (.capped [[c]]) = some (.ref s.bs.length 0 (i + 1) 1, { s with bs := s.bs.set id [] ++ [cs.take i ++ AV.pv c :: cs.drop i] }) := by
                  have hal : alive s id = true := by
                    unfold alive
                    rw [hcs]
                    cases cs with
                    | nil => grind
                    | cons a l => rfl
                  unfold appendA
                  have hby2 : (i + 1) * i0.bytes ≤ 2 ^ 45 := Nat.le_trans (Nat.mul_le_mul_left _ hby) (by omega)
                  simp [hc.ht, hi, hzz, hs1, srcCells, rowsOf, b1, hcs, hal, b2, b6]
                  grind
                exact happ _ _ _ _ _ i cap (.ref hblk hcap (shape_of_heap k2) (by omega)) rfl hcap ha
              · have hlt : i < len := by omega
                by_cases hroom : len + 1 ≤ cap
                · have k2d : w.drew.heap[b]? = some (.cells ⟨vs⟩ e' (0, 0)) := k2
                  have hr1 := run_copy (P := E.P) (w := w.drew) (t := t) (u := t) (elem := e) (T := ti) (i := i0) (b := b) (o := i + 1) (dl := len - i) (dc := cap - (i + 1)) (x := .slice (some ⟨b, i, none⟩) (len + 1 - i) (cap - i)) (n := len + 1 - i) (us := (vs.drop i).take (len - i)) (vs := vs) (et := e') hc.ht hi hs1
                    (by rfl) (by grind[firstCells_row,cell_of_heap]) hMone k2d (by omega)
                  rw [show Nat.min (len + 1 - i) (len - i) = len - i from Nat.min_eq_right (by omega)] at hr1
                  have k2e : (putRowB w.drew b (setV vs (i + 1) ((vs.drop i).take (len - i))) e').heap[b]? = some (.cells ⟨setV vs (i + 1) ((vs.drop i).take (len - i))⟩ e' (0, 0)) := by grind[heap_putRowB]
                  have hr2 := run_copy (P := E.P) (w := putRowB w.drew b (setV vs (i + 1) ((vs.drop i).take (len - i))) e') (t := t) (u := t) (elem := e) (T := ti) (i := i0) (b := b) (o := i) (dl := len + 1 - i) (dc := cap - i) (x := .slice (some ⟨yb, yo, none⟩) 1 1) (n := 1) (us := [yv]) (vs := setV vs (i + 1) ((vs.drop i).take (len - i))) (et := e') hc.ht hi hs1
                    (by rfl) (by
                      rw [show Nat.min 1 (len + 1 - i) = 1 from Nat.min_eq_left (by omega)]
                      exact firstCells_row [yv] rfl (fun j u hj => by
                        cases j with
                        | zero =>
                          simp at hj; subst hj
                          rw [Nat.add_zero, cell?_congr (w := w) (by rw [heap_putRowB, if_neg (Ne.symm hne)]; rfl)]
                          omega
                        | succ j => grind)) (by grind) k2e (by grind[setV_length])
                  rw [show Nat.min 1 (len + 1 - i) = 1 from Nat.min_eq_left (by omega), putRowB_putRowB] at hr2
                  refine (hc.roomR w b len cap yb yo 1 i (by omega) hroom hlt _ _ (hc.ov w yb yo 1 b (i + 1) (len - i) (cap - (i + 1)) yv vs e' hyc k2 hvs hne) hr1 hr2).mono ?_
                  rintro ex w' ⟨rfl, rfl⟩
                  obtain ⟨e1, i1⟩ := hI.drew (L := L)
                  have htk := ins_list vs yv i len b4 (by omega)
                  obtain ⟨r1, r2⟩ := i1.growB (L := L) (cs' := cs.take i ++ AV.pv c :: cs.drop i) (vs' := setV (setV vs (i + 1) ((vs.drop i).take (len - i))) i [yv]) hblk k2d (by grind[setV_length]) b6
                    (by grind[setV_length]) (by grind)
                  refine ⟨_, _, rfl, ?_, e1.trans r1, r2⟩
                  refine V.ref (n := vs.length) (e := e') (by simp [Ghost.addB]) hroom ?_ (by omega)
                  have hat : (putRowB (drewW w) b (setV (setV vs (i + 1) ((vs.drop i).take (len - i))) i [yv]) e').heap[b]? = some (.cells ⟨setV (setV vs (i + 1) ((vs.drop i).take (len - i))) i [yv]⟩ e' (0, 0)) := by grind[heap_putRowB,drewW]
                  have := shape_of_heap hat
                  rw [setV_length, setV_length] at this
                  exact this
                · have hosl : (vs.take i).length = i := by grind
                  obtain ⟨cap2, rest, hc1, hc2, hrun⟩ := run_append_make (P := E.P) (w := w) (T := t) (base := some ⟨b, 0, none⟩) (sLen := i) (sCap := cap) (n := len + 1 - i) (os := vs.take i) hc.ht hi hc.hti hs1 hz hzc
                    (firstCells_row _ hosl (fun j u hj => by grind[cell_of_heap,drewW])) (by omega) (by omega) (by omega) (Nat.le_trans (Nat.mul_le_mul_left _ hby) (by omega)) (by omega)
                  have e1 : i + (len + 1 - i) = len + 1 := by omega
                  have e2 : ((len + 1 - i : Nat) : Int) = (len : Int) + 1 - (i : Int) := by omega
                  rw [e1] at hc1 hc2 hrun
                  rw [e2] at hrun
                  have hsz : b < w.heap.size := lt_of_heap k2
                  have hAl : (vs.take i ++ List.replicate (len + 1 - i) z ++ rest).length = cap2 := by grind
                  have hAt : (vs.take i ++ List.replicate (len + 1 - i) z ++ rest).take i = vs.take i := by
                    rw [List.append_assoc, List.take_left' hosl]
                  have hw1 : (pushW (drewW w) (vs.take i ++ List.replicate (len + 1 - i) z ++ rest) e).heap[w.heap.size]? = some (.cells ⟨vs.take i ++ List.replicate (len + 1 - i) z ++ rest⟩ e (0, 0)) := by grind[heap_pushW,drewW]
                  have hyb : yb < w.heap.size := hI.Ilt _ _ hyI
                  have hr1 := run_copy (P := E.P) (w := pushW (drewW w) (vs.take i ++ List.replicate (len + 1 - i) z ++ rest) e) (t := t) (u := t) (elem := e) (T := ti) (i := i0) (b := w.heap.size) (o := i) (dl := len + 1 - i) (dc := cap2 - i) (x := .slice (some ⟨yb, yo, none⟩) 1 1) (n := 1) (us := [yv]) (et := e) hc.ht hi hs1
                    (by rfl) (by
                      rw [show Nat.min 1 (len + 1 - i) = 1 from Nat.min_eq_left (by omega)]
                      exact firstCells_row [yv] rfl (fun j u hj => by grind[cell?_congr,heap_pushW_lt,drewW])) (by grind) hw1 (by grind)
                  have hpp : putRowB (pushW (drewW w) (vs.take i ++ List.replicate (len + 1 - i) z ++ rest) e) w.heap.size (setV (vs.take i ++ List.replicate (len + 1 - i) z ++ rest) i [yv]) e = pushW (drewW w) (setV (vs.take i ++ List.replicate (len + 1 - i) z ++ rest) i [yv]) e :=
                    putRowB_pushW (w := drewW w)
                  rw [show Nat.min 1 (len + 1 - i) = 1 from Nat.min_eq_left (by omega), hpp] at hr1
                  have hw2 : (pushW (drewW w) (setV (vs.take i ++ List.replicate (len + 1 - i) z ++ rest) i [yv]) e).drew.heap[w.heap.size]? = some (.cells ⟨setV (vs.take i ++ List.replicate (len + 1 - i) z ++ rest) i [yv]⟩ e (0, 0)) := by
                    show (pushW (drewW w) (setV (vs.take i ++ List.replicate (len + 1 - i) z ++ rest) i [yv]) e).heap[w.heap.size]? = _
                    grind[heap_pushW,drewW]
                  have hr2 := run_copy (P := E.P) (w := (pushW (drewW w) (setV (vs.take i ++ List.replicate (len + 1 - i) z ++ rest) i [yv]) e).drew) (t := t) (u := t) (elem := e) (T := ti) (i := i0) (b := w.heap.size) (o := i + 1) (dl := len - i) (dc := cap2 - (i + 1)) (x := .slice (some ⟨b, i, none⟩) (len - i) (cap - i)) (n := len - i) (us := (vs.drop i).take (len - i)) (et := e) hc.ht hi hs1
                    (by rfl) (by
                      rw [show Nat.min (len - i) (len - i) = len - i from Nat.min_self _]
                      exact firstCells_row _ hM1 (fun j u hj => by
                        show (pushW (drewW w) (setV (vs.take i ++ List.replicate (len + 1 - i) z ++ rest) i [yv]) e).cell? ⟨b, i + j, none⟩ = _
                        grind[heap_pushW_lt,drewW,cell_of_heap])) hMone hw2 (by grind[setV_length])
                  rw [show Nat.min (len - i) (len - i) = len - i from Nat.min_self _] at hr2
                  have hfin : putRowB (pushW (drewW w) (setV (vs.take i ++ List.replicate (len + 1 - i) z ++ rest) i [yv]) e).drew w.heap.size (setV (setV (vs.take i ++ List.replicate (len + 1 - i) z ++ rest) i [yv]) (i + 1) ((vs.drop i).take (len - i))) e
                      = pushW (drewW (drewW w)) (setV (setV (vs.take i ++ List.replicate (len + 1 - i) z ++ rest) i [yv]) (i + 1) ((vs.drop i).take (len - i))) e :=
                    putRowB_pushW (w := drewW (drewW w)) (us := setV (setV (vs.take i ++ List.replicate (len + 1 - i) z ++ rest) i [yv]) (i + 1) ((vs.drop i).take (len - i))) (vs := setV (vs.take i ++ List.replicate (len + 1 - i) z ++ rest) i [yv])
                  rw [hfin] at hr2
                  refine (hc.growR w b len cap yb yo 1 i w.heap.size cap2 (by omega) hcap (by omega) hlt hc1 _ _ _ hrun hr1 hr2).mono ?_
                  rintro ex w' ⟨rfl, rfl⟩
                  obtain ⟨x1, y1⟩ := hI.drew (L := L)
                  obtain ⟨x2, y2⟩ := y1.drew (L := L)
                  obtain ⟨x3, y3⟩ := y2.kill (L := L) hblk b6
                  have htk := ins_list2 (vs.take i ++ List.replicate (len + 1 - i) z ++ rest) vs yv i len b4 (by omega) (by omega) hAt
                  obtain ⟨x4, y4⟩ := y3.pushB (L := L) (cs := cs.take i ++ AV.pv c :: cs.drop i) (vs := setV (setV (vs.take i ++ List.replicate (len + 1 - i) z ++ rest) i [yv]) (i + 1) ((vs.drop i).take (len - i))) e
                    (by grind[setV_length]) (by rw [hcl, htk]; exact (hVLc _ (x1.trans x2)).mono x3)
                  refine ⟨_, _, rfl, ?_, ((x1.trans x2).trans x3).trans x4, y4⟩
                  refine V.ref (n := cap2) (e := e) (by simp [Ghost.addB, drewW]) hc1 ?_ (by simp)
                  grind[drewW,heap_pushW,shape_of_heap,setV_length]
        grind
      · cases hcond : (Nat.beq i 0 && okCell (.pv c)) with
        | false => grind
        | true =>
          rw [hcond] at h
          simp only [cond_true, Option.some.injEq, Prod.mk.injEq] at h
          obtain ⟨rfl, rfl⟩ := h
          simp only [Bool.and_eq_true] at hcond
          obtain ⟨b1, b2⟩ := hcond
          have := Nat.eq_of_beq_eq_true b1
          subst this
          have hu' := hu
          cases hu with
          | @capped _ base b o sz f2 hr2 =>
            refine happ _ _ _ _ base 0 0 hu' rfl (Nat.le_refl _) ?_
            unfold appendA
            simp [hc.ht, hi, hzz, hs1, srcCells, rowsOf, b2]
            omega
      grind
  grind
end Go.Tel
