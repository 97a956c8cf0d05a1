/-
  Single operations, part 9: slices cut and made, conversions, nil.
-/
import Derived.Test.YtcmeadgdojfhnaaGreatDoorEvC
import Derived.Laws.BytesString
set_option linter.unusedSimpArgs false
set_option linter.unusedVariables false
namespace Go.Tel
theorem natOfA_sound {g : Ghost} {w : World} {x : AV} {v : Value} {n : Nat} (h : V g w x v) (hn : natOfA x = some n) : ∃ k, v = .int k n := by
  unfold natOfA at hn
  split at hn
  · rename_i k m
    split at hn
    · simp at hn; subst hn
      exact ⟨k, by rw [h.scv_inv]; grind⟩
    grind
  grind
theorem run_sliceBound {P : Program} {w : World} {k : IntKind} {n y : Nat} {c : BoundsCode} (h : n ≤ y) : (Instr.sliceBound (.int k n) y c).run P w = .ok n w := by simp[*,Instr.sliceBound,asIntOf]
theorem VP.nil {I : Nat → Nat → Prop} {w : World} (base : Option Addr) (cap : Nat) : VP I w (.list []) (.slice base 0 cap) :=
  VP.of_rows (b := 0) (o := 0) (sz := 0) (f := fun _ _ => undef) (RowsAt.nil) (Nat.zero_le _)
theorem RowsAt.sub {I : Nat → Nat → Prop} {w : World} {rows : List (List PV)} {base : Option Addr} {b o sz : Nat} {f : Nat → Nat → Value} (h : RowsAt I w rows base b o sz f) (l hh cap k : Nat)
    (hh' : hh ≤ rows.length) (hc : hh ≤ cap) (hk : ∀ r ∈ rows, r.length = k) :
    RowsAt I w ((rows.take hh).drop l) (if cap = l then base else base.map (·.add (l * k))) b (o + l * sz) sz (fun i j => f (i + l) j) := by
  have get : ∀ i row, ((rows.take hh).drop l)[i]? = some row → rows[i + l]? = some row := fun i row hr => by grind
  refine ⟨fun row hr => ?_, fun hne hs => ?_, fun i row j c hr hj => ?_, fun i row j c hr hj => ?_⟩
  · exact h.hsz row (List.mem_of_mem_take (List.mem_of_mem_drop hr))
  · have hlt : l < hh := by simp_all
    have hrn : rows ≠ [] := by grind
    have hb := h.hbase hrn hs
    have hsk : sz = k := by
      obtain ⟨r, rs, rfl⟩ : ∃ r rs, rows = r :: rs := by cases rows with | nil => grind | cons r rs => simp
      rw [← h.hsz r (by simp)]; grind
    grind[addr_add]
  · have := h.hc (i + l) row j c (get i row hr) hj
    grind
  · exact h.hv (i + l) row j c (get i row hr) hj
theorem sliceA_sound {E : Env} {g : Ghost} {w : World} {s : Sto} (hI : Inv E g w s) {P : Program} {t : TypeId} {x v : AV} {xv : Value} {lo hi mx : Option AV} {lov hiv mxv : Option Value}
    (hx : V g w x xv) (hlo : ∀ a, lo = some a → ∃ b, lov = some b ∧ V g w a b) (hlo' : lo = none → lov = none) (hhi : ∀ a, hi = some a → ∃ b, hiv = some b ∧ V g w a b) (hhi' : hi = none → hiv = none)
    (hmx : ∀ a, mx = some a → ∃ b, mxv = some b ∧ V g w a b) (hmx' : mx = none → mxv = none) (h : sliceA P s t x lo hi mx = some v) :
    ∃ v', (Instr.sliceAt t xv lov hiv mxv).run P w = .ok v' w ∧ V g w v v' := by
  unfold sliceA at h
  split at h
  · rename_i elem hu
    split at h
    · rename_i k hk
      obtain ⟨ti, hti, his⟩ := sizeA_info hk
      have bounds : ∀ (len cap l hh m : Nat), optNat len hi = some hh → optNat 0 lo = some l → l ≤ hh → hh ≤ len → len ≤ cap →
          ((mx = none ∧ m = cap) ∨ (∃ a, mx = some a ∧ natOfA a = some m ∧ m = hh ∧ hi.isSome = true)) →
          (Instr.sliceBounds true len cap lov hiv mxv).run P w = .ok (l, hh, m) w := by
        intro len cap l hh m e1 e2 h1 h2 h3 h4
        have hlov : ∀ c, (match lov with | some v => Instr.sliceBound v hh c | none => pure 0 : Sem Nat).run P w = .ok l w := by
          intro c
          cases lo with
          | none => simp_all[optNat]
          | some a =>
            grind[natOfA_sound,optNat,run_sliceBound]
        rcases h4 with ⟨hm, rfl⟩ | ⟨a, hm, hma, rfl, hsome⟩
        · rw [hmx' hm]
          cases hi with
          | none =>
            rw [hhi' rfl]
            simp [optNat] at e1
            subst e1
            simp only [Instr.sliceBounds, Sem.run_bind, Sem.run_pure, Result.andThen_ok]
            have := hlov .sliceB
            grind[Sem.run_bind,Sem.run_pure,Result.andThen_ok]
          | some a =>
            obtain ⟨b, hb, hv⟩ := hhi a rfl
            obtain ⟨k, rfl⟩ := natOfA_sound hv (by assumption)
            rw [hb]
            simp only [Instr.sliceBounds, Sem.run_bind, Sem.run_pure, Result.andThen_ok, run_sliceBound (show hh ≤ m by omega)]
            have := hlov .sliceB
            grind[Sem.run_bind,Sem.run_pure,Result.andThen_ok]
        · obtain ⟨bm, hbm, hvm⟩ := hmx a hm
          obtain ⟨km, rfl⟩ := natOfA_sound hvm hma
          rw [hbm]
          cases hi with
          | none => grind
          | some a' =>
            obtain ⟨b, hb, hv⟩ := hhi a' rfl
            obtain ⟨k, rfl⟩ := natOfA_sound hv (by assumption)
            rw [hb]
            simp only [Instr.sliceBounds, Sem.run_bind, Result.andThen_ok, run_sliceBound (show m ≤ cap by omega), run_sliceBound (Nat.le_refl m)]
            have := hlov .slice3C
            grind[Sem.run_bind,Sem.run_pure,Result.andThen_ok]
      have run : ∀ (a : Option Addr) (len cap l hh m : Nat), (Instr.sliceBounds true len cap lov hiv mxv).run P w = .ok (l, hh, m) w →
          (Instr.sliceAt t (.slice a len cap) lov hiv mxv).run P w = .ok (.slice (if m = l then a else a.map (·.add (l * k))) (hh - l) (m - l)) w := by
        intro a len cap l hh m hb
        simp[*,Instr.sliceAt,Instr.slice,run_underlying,run_sizeOf]
      split at h
      · rename_i id off len sz
        split at h
        · rename_i hh l e1 e2
          split at h
          · rename_i hc
            obtain ⟨h1, h2, rfl, hk0, hal⟩ := hc
            cases hx with
            | refD hd => exact absurd hd (hI.alive hal)
            | @ref _ _ _ _ b cap n e hblk hcap hs hn =>
              have hb := bounds len cap l hh cap e1 e2 h1 h2 hcap (.inl ⟨rfl, rfl⟩)
              refine ⟨_, run _ _ _ _ _ _ hb, ?_⟩
              split at h
              · rename_i hlh
                subst hlh
                simp at h; subst h
                rw [Nat.sub_self]
                exact .pv (VP.nil _ _)
              · rename_i hlh
                simp at h; subst h
                rw [if_neg (by omega)]
                simp only [Option.map_some, addr_add]
                refine V.ref hblk (by omega) hs ?_
                have : l * sz + (cap - l) * sz = cap * sz := by rw [← Nat.add_mul]; grind
                omega
          grind
        · rename_i hh l m e1 e2
          split at h
          · rename_i mm hm
            split at h
            · rename_i hc
              obtain ⟨rfl, h2, rfl, hsome, hal⟩ := hc
              simp at h; subst h
              cases hx with
              | refD hd => exact absurd hd (hI.alive hal)
              | @ref _ _ _ _ b cap n e hblk hcap hs hn =>
                have hb := bounds len cap mm mm mm e1 e2 (Nat.le_refl _) h2 hcap (.inr ⟨m, rfl, hm, rfl, hsome⟩)
                refine ⟨_, run _ _ _ _ _ _ hb, ?_⟩
                rw [Nat.sub_self]
                exact V.capped (rows := []) (b := 0) (o := 0) (sz := 0) (f := fun _ _ => undef) RowsAt.nil
            grind
          grind
        grind
      · split at h
        · rename_i rows hrows
          obtain ⟨base, cap, b, o, sz, f, rfl, hcap, hr⟩ := rowsOf_sound hx hrows
          split at h
          · rename_i hh l e1 e2
            split at h
            · rename_i hc
              obtain ⟨h1, h2, hall⟩ := hc
              have hlen : ((rows.take hh).drop l).length = hh - l := by grind
              split at h
              · simp at h; subst h
                have hb := bounds rows.length cap l hh cap e1 e2 h1 h2 hcap (.inl ⟨rfl, rfl⟩)
                refine ⟨_, run _ _ _ _ _ _ hb, ?_⟩
                have := VP.of_rows (hr.sub l hh cap k h2 (by omega) (all_len hall)) (show ((rows.take hh).drop l).length ≤ cap - l by omega)
                rw [hlen] at this
                exact .pv this
              · rename_i m
                split at h
                · rename_i mm hm
                  split at h
                  · rename_i hmm
                    obtain ⟨rfl, hsome⟩ := hmm
                    simp at h; subst h
                    have hb := bounds rows.length cap l mm mm e1 e2 h1 h2 hcap (.inr ⟨m, rfl, hm, rfl, hsome⟩)
                    refine ⟨_, run _ _ _ _ _ _ hb, ?_⟩
                    have := V.capped (g := g) (w := w) (hr.sub l mm mm k h2 (Nat.le_refl _) (all_len hall))
                    grind
                  grind
                grind
            grind
          grind
        grind
    grind
  grind
end Go.Tel
