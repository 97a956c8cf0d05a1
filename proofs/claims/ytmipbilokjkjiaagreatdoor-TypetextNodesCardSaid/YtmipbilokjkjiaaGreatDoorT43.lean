/-
  The law TypetextNodes, but for its sanity check.
-/
import Derived.Test.YtmipbilokjkjiaaGreatDoorTG
set_option linter.unusedSimpArgs false
set_option linter.unusedVariables false
namespace Go.Proofs.YtmipbilokjkjiaaGreatDoor
open Go.Tel
attribute [local simp] wNew wBox wBoxZ markT wCond wBuild fillS wO setCells wSt wLd wPart LFE wFad alive wInt wStr wGK wGd wPick wExt wLen wSlen wNot wNil okI ceI okB ceB okS ceS okL ceL okC ceC okO ceO okP ceP okG ceG okE ceE okR ceR okF ceF okX ceX okM ceM okN ceN okNf ceNf okNi ceNi ceA roL roC roO leL leC leO tpP tpC tpO clP clC clO clF clA clT clN clL nbP nbC nbO nbN nbL toPVs
def scopeW : List (List UInt8) := [[65], [66], [120, 49], [65], [66, 111, 120]]
section
variable {R : Nat → Option (List PV)}
theorem node_of {n : Nd} (hf : fewN n) {x : AV} (hx : NRepO n x) : PureC (env R) 23 [x] fun r => NRep n r := by
  obtain ⟨x', h1, h2, h3⟩ := hx.closed
  exact PureC.of_closed (by kernel_rfl) (by kernel_rfl) (args' := [x']) (by simp [h1]) (by simp [h3]) (node_spec n hf x' h2)
theorem rfrom_of {n : Nd} (h : nsize n < 2 ^ 60) (hf : fewN n) (ho : okNd n) {vars : List (List UInt8)} {v x : AV} (hv : RowsA v (strRows vars)) (hvl : vars.length + grow n < 2 ^ 38) (hx : NRepO n x) :
    PureC (env R) 24 [x, v] fun r => ∃ y, r = .tuple [y, FA (fromR n vars).2.1 (fromR n vars).2.2] ∧ TRep (fromR n vars).1 y := by
  obtain ⟨x', h1, h2, h3⟩ := hx.closed
  exact PureC.of_closed (by kernel_rfl) (by kernel_rfl) (args' := [x', v]) (by simp [h1, hv.close]) (by simp [h3, hv.close]) (rfromNode_spec h hf ho hv hvl h2)
theorem fromR_size (n : Nd) (vars : List (List UInt8)) : size (fromR n vars).1 < 2 ^ 38 := by
  unfold fromR
  cases conv n vars with
  | inl e => simp [size, sizeL]
  | inr t =>
    simp only
    cases hv : (verdict t == 0) with
    | false => simp [size, sizeL]
    | true =>
      simp only [cond_true]
      have h0 : verdict t = 0 := by simpa using hv
      unfold verdict at h0
      by_cases h : 200 < size t
      · rw [decide_eq_true h] at h0
        simp at h0
      · omega
set_option maxRecDepth 20000 in
set_option maxHeartbeats 4000000 in
theorem law5_spec (hcheck : PureC (env R) 11 [] fun v => v = BB true) {S W T : List (List UInt8)} (hS : (env R).G 1 = some (strRow S)) (hW : (env R).G 2 = some (strRow W)) (hT : (env R).G 3 = some (strRow T)) (sS : Short S) (sW : Short W) (sT : Short T) (h9 : 9 ≤ T.length) (l : List Int) (hl : l.length < 2 ^ 50) (n : Int) :
    PureC (env R) 5 [.pv (.list (intRows l)), I64 n] fun v => v = BB true := by
  refine e5 (u0 := .pv (.list (intRows l))) (u1 := I64 n) (by simp) (p5_0 ?_)
  have hB : Base [StB l 0] 0 l := ⟨by simp, by simp [StB_ids], by omega⟩
  have hST : ∀ k, Tel.ST [StB l 0] 0 l k = [StB l k] := fun k => by simp [Tel.ST]
  have h0 : LocB [StB l 0] [] := fun b hb => by cases hb
  have hb0 : ∀ (s : Sto) (K : AV → Sto → Prop), K (.capped (strRows scopeW)) s → wBsl false s 1 [(SS [])] 5 [(0, 1, (SS [65])), (1, 1, (SS [66])), (2, 1, (SS [120, 49])), (3, 1, (SS [65])), (4, 1, (SS [66, 111, 120]))] K := by
    intro s K hK
    simp [wBsl, repl, rowsBy]
    simpa [scopeW, strRows] using hK
  refine hb0 _ _ ?_
  refine wCall_pure (mod_spec n 6 (by omega) (by omega)) ?_
  rintro v ⟨r, rfl, hr1, hr2⟩
  obtain ⟨j, rfl⟩ := Int.eq_ofNat_of_zero_le hr1
  have hsl : ∀ (s : Sto) (K : AV → Prop), K (.pv (.list (strRows (scopeW.take j)))) → wSlc s 1 (.capped (strRows scopeW)) none (some (I64 j)) none K := by
    intro s K hK
    simp only [wSlc, rowsOf, wO]
    refine ⟨0, j, rfl, by simp [optNat, natOfA], ⟨by omega, by simp [scopeW, strRows]; omega, by simp [scopeW, strRows]⟩, ?_⟩
    simpa [strRows, List.map_take] using hK
  refine hsl _ _ ?_
  have hvl : (scopeW.take j).length < 10 := by simp [scopeW]; omega
  generalize scopeW.take j = vars at hvl ⊢
  refine wCall_do (new_spec l _ _) ?_
  rintro v s1 ⟨rfl, rfl⟩
  have e0 : (⟨[] ++ [StB l 0], []⟩ : Sto) = ⟨Tel.ST [StB l 0] 0 l 0 ++ [], []⟩ := by simp [hST]
  show wCall (env R) _ _ _ ⟨[] ++ [StB l 0], []⟩ _
  rw [e0]
  refine wCall_do (anyNode_spec hB hS hW sS sW 4 (by omega) h0 (k := 0) (by omega) (LFE (env R) 5 0 0 0) (by simp [LFE]) [] (by simp [LFE])) ?_
  rintro x s1 ⟨a, k1, x1, hx, ha, _, hk1, rfl⟩
  simp only [hST, List.append_nil, List.nil_append]
  obtain ⟨ca, sa, csa, oa⟩ := a
  have hx' := hx
  obtain ⟨p, rfl, hp⟩ := hx'
  have hZ : ∀ (K : Sto → Prop), K ⟨[StB l k1, [I64 ca, SS sa, p, I64 oa]], x1⟩ → wSt (LFE (env R) 5 0 0 0) ⟨[StB l k1] ++ [[(I64 0), (SS []), (.capped []), (I64 0)]], x1⟩ 4 (.ptr [StB l k1].length 0) (.agg [I64 ca, SS sa, p, I64 oa]) K := by
    intro K hK
    simp [hp.ok]
    exact hK
  simp only [wNew]
  refine hZ _ ?_
  have h1 : LocB [StB l 0] [[I64 ca, SS sa, p, I64 oa]] := by
    intro b hb
    simp only [List.mem_cons, List.not_mem_nil, or_false] at hb
    rw [hb]
    simp [idsLtL, idsLt, hp.idsLt]
  have e1 : ∀ k, (⟨[StB l k, [I64 ca, SS sa, p, I64 oa]], x1⟩ : Sto) = ⟨Tel.ST [StB l 0] 0 l k ++ [[I64 ca, SS sa, p, I64 oa]], x1⟩ := fun k => by simp [hST]
  rw [e1]
  refine wCall_do (typeNode_spec hB hT sT h9 4 (by omega) h1 hk1 (LFE (env R) 5 0 0 0) (by simp [LFE]) x1 (by simp [LFE])) ?_
  rintro y s1 ⟨b, k2, x2, hy, hb, hk2, hk3, rfl⟩
  rw [hST]
  obtain ⟨cb, sb, csb, ob⟩ := b
  have hy' := hy
  obtain ⟨q, rfl, hq⟩ := hy'
  have A0 := node_of (R := R) ha.2.1 hx
  have A1 := fun {z : AV} (hz : NRep (.mk ca sa csa oa) z) => fromNode_spec (R := R) (n := .mk ca sa csa oa) (by have := ha.2.2.1; omega) ha.2.1 ha.1 (vars := vars) (.list _) (by have := ha.2.2.2; omega) hz
  have A2 := rfrom_of (R := R) (n := .mk ca sa csa oa) (by have := ha.2.2.1; omega) ha.2.1 ha.1 (vars := vars) (.list _) (by have := ha.2.2.2; omega) hx
  have B0 := node_of (R := R) hb.2.1 hy
  have B1 := fun {z : AV} (hz : NRep (.mk cb sb csb ob) z) => fromNode_spec (R := R) (n := .mk cb sb csb ob) (by have := hb.2.2.1; omega) hb.2.1 hb.1 (vars := vars) (.list _) (by have := hb.2.2.2; omega) hz
  have B2 := rfrom_of (R := R) (n := .mk cb sb csb ob) (by have := hb.2.2.1; omega) hb.2.1 hb.1 (vars := vars) (.list _) (by have := hb.2.2.2; omega) hy
  have sz1 := fromR_size (.mk ca sa csa oa) vars
  have sz2 := fromR_size (.mk cb sb csb ob) vars
  generalize fromR (.mk ca sa csa oa) vars = F at A1 A2 sz1
  generalize fromR (.mk cb sb csb ob) vars = G at B1 B2 sz2
  obtain ⟨t1, k1', o1'⟩ := F
  obtain ⟨t2, k2', o2'⟩ := G
  simp only at A1 A2 B1 B2 sz1 sz2
  clear ha hb hS hW hT sS sW sT h9
  have C1 := fun {y y' : AV} (hy : TRep t1 y) (hy' : TRep t1 y') => tyEqual_spec (R := R) sz1 hy hy'
  have C2 := fun {y y' : AV} (hy : TRep t2 y) (hy' : TRep t2 y') => tyEqual_spec (R := R) sz2 hy hy'
  obtain ⟨kt1, nt1, it1, tt1⟩ := t1
  obtain ⟨kt2, nt2, it2, tt2⟩ := t2
  simp [hp.ok, hq.ok]
  refine wCall_pure A0 ?_
  intro z1 hz1
  refine wCall_pure (A1 hz1) ?_
  rintro _ ⟨y1, rfl, hy1⟩
  have hy1' := hy1
  obtain ⟨a1, rfl, ha1⟩ := hy1'
  simp [ha1.ok, hp.ok]
  refine wCall_pure A2 ?_
  rintro _ ⟨y2, rfl, hy2⟩
  have hy2' := hy2
  obtain ⟨a2, rfl, ha2⟩ := hy2'
  simp [ha2.ok, hq.ok]
  refine wCall_pure B0 ?_
  intro z2 hz2
  refine wCall_pure (B1 hz2) ?_
  rintro _ ⟨y3, rfl, hy3⟩
  have hy3' := hy3
  obtain ⟨a3, rfl, ha3⟩ := hy3'
  simp [ha3.ok, hq.ok]
  refine wCall_pure B2 ?_
  rintro _ ⟨y4, rfl, hy4⟩
  have hy4' := hy4
  obtain ⟨a4, rfl, ha4⟩ := hy4'
  simp [ha4.ok]
  refine wCall_pure hcheck ?_
  rintro _ rfl
  simp
  refine wCall_pure (fault_spec k1' o1' k1' o1') ?_
  rintro _ rfl
  simp
  refine wCall_pure (C1 hy1 hy2) ?_
  rintro _ ⟨b1, rfl, hb1⟩
  have e1 : b1 = true := hb1.2 rfl
  subst e1
  simp
  refine wCall_pure (fault_spec k2' o2' k2' o2') ?_
  rintro _ rfl
  simp
  refine wCall_pure (C2 hy3 hy4) ?_
  rintro _ ⟨b2, rfl, hb2⟩
  have e2 : b2 = true := hb2.2 rfl
  subst e2
  simp [QP, QI]
end
end Go.Proofs.YtmipbilokjkjiaaGreatDoor
