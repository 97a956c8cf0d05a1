/-
  Format, the program.
-/
import Derived.Test.YtmipbilokjkjiaaGreatDoorFB
set_option linter.unusedSimpArgs false
set_option linter.unusedVariables false
namespace Go.Proofs.YtmipbilokjkjiaaGreatDoor
open Go.Tel
attribute [local simp] wNew wBox wBoxZ markT wCond wBuild fillS wO setCells wSt wLd wPart LFE wFad alive wInt wStr wGK wGd wPick wExt wLen wSlen wNot wNil okI ceI okB ceB okS ceS okL ceL okC ceC okO ceO okP ceP okG ceG okE ceE okR ceR okF ceF okX ceX okM ceM okN ceN okNf ceNf okNi ceNi ceA roL roC roO leL leC leO tpP tpC tpO clP clC clO clF clA clT clN clL nbP nbC nbO nbN nbL toPVs
mutual
theorem fmt_congr {N M : List (List UInt8)} (h : ∀ w, w ∈ N ↔ w ∈ M) : ∀ (t : Ty) (sc : List (List UInt8)), fmt N t sc = fmt M t sc
  | .mk k n i ts, sc => by
    have e : fresh (N ++ sc) = fresh (M ++ sc) := fresh_congr (fun w => by rw [List.mem_append, List.mem_append, h])
    have el := fmtL_congr h ts
    by_cases h6 : k = 6
    · subst h6
      by_cases h2 : ts.length = 2
      · obtain ⟨b, body, rfl⟩ : ∃ b body, ts = [b, body] := by
          rcases ts with _ | ⟨x1, _ | ⟨x2, _ | ⟨x3, r⟩⟩⟩ <;> simp at h2
          exact ⟨_, _, rfl⟩
        rw [fmt_ex, fmt_ex, e, fmt_congr h b, fmt_congr h body]
      · rw [fmt_bad _ _ _ _ _ h2, fmt_bad _ _ _ _ _ h2]
    · rw [fmt_eq _ _ _ _ _ _ h6, fmt_eq _ _ _ _ _ _ h6, el]
theorem fmtL_congr {N M : List (List UInt8)} (h : ∀ w, w ∈ N ↔ w ∈ M) : ∀ (l : List Ty) (sc : List (List UInt8)), fmtL N l sc = fmtL M l sc
  | [], sc => by simp [fmtL]
  | t :: l, sc => by rw [fmtL, fmtL, fmt_congr h t, fmtL_congr h l]
end
theorem isId_len {n : List UInt8} (h : isId n = true) : n.length ≤ 24 := by
  unfold isId at h
  simp only [Bool.and_eq_true, decide_eq_true_eq] at h
  exact h.1.1.2
theorem isId_ne {n : List UInt8} (h : isId n = true) : n ≠ [] := by
  intro e
  subst e
  simp [isId] at h
theorem valid_name {k i : Int} {n : List UInt8} {ts : List Ty} (h : root k n i ts = true) : (k = 2 → isId n = true) ∧ (k ≠ 2 → n = []) := by
  simp only [root, Bool.and_eq_true] at h
  refine ⟨fun e => ?_, fun e => ?_⟩
  · subst e
    have := h.2
    unfold shape at this
    simp at this
    exact this.1.1.1
  · have := h.1.1
    simpa [e] using this
theorem hdT_len {k i : Int} {n : List UInt8} {ts : List Ty} (h : root k n i ts = true) : (hdT k n).length ≤ 24 := by
  unfold hdT
  by_cases h2 : k = 2
  · subst h2
    exact isId_len ((valid_name h).1 rfl)
  · have b2 : (k == 2) = false := by simpa using h2
    rw [b2]
    cases (k == 3) <;> simp
theorem varT_len {sc : List (List UInt8)} (h : ∀ w ∈ sc, w.length ≤ 24) (i : Int) : (varT sc i).length ≤ 24 := by
  unfold varT
  have hd := dig_len (i - sc.length).toNat
  generalize dig (i - sc.length).toNat = d at hd ⊢
  split
  · rename_i w hw
    have := h w (List.mem_of_getElem? hw)
    cases decide (i < (sc.length : Int)) <;> simp <;> omega
  · simp; omega
mutual
theorem fmt_len {N : List (List UInt8)} : ∀ (t : Ty), valid t = true → ∀ (sc : List (List UInt8)), (∀ w ∈ sc, w.length ≤ 24) → (fmt N t sc).length + 1 ≤ 64 * size t
  | .mk k n i ts, hv, sc, hsc => by
    simp only [valid, Bool.and_eq_true] at hv
    have hl := fmtL_len (N := N) ts hv.2 sc hsc
    have hhd := hdT_len hv.1
    simp only [size]
    by_cases h6 : k = 6
    · subst h6
      obtain ⟨b, body, rfl⟩ : ∃ b body, ts = [b, body] := by
        have h2 := (root_kind hv.1).2.2 rfl
        rcases ts with _ | ⟨x1, _ | ⟨x2, _ | ⟨x3, r⟩⟩⟩ <;> simp at h2
        exact ⟨_, _, rfl⟩
      rw [fmt_ex]
      have hf := fresh_len (used := N ++ sc)
      simp only [validL, Bool.and_eq_true] at hv
      have h1 := fmt_len (N := N) b hv.2.1 [] (fun _ h => by cases h)
      have h2 := fmt_len (N := N) body hv.2.2.1 (sc ++ [fresh (N ++ sc)]) (by
        intro w hw
        rcases List.mem_append.1 hw with h | h
        · exact hsc w h
        · simp only [List.mem_cons, List.not_mem_nil, or_false] at h
          rw [h]; omega)
      simp only [sizeL, List.length_append, List.length_cons, List.length_nil]
      omega
    · rw [fmt_eq _ _ _ _ _ _ h6]
      have hvar := varT_len hsc i
      cases (k == 0) with
      | true => simp; omega
      | false =>
        cases (k == 1) with
        | true => simp; omega
        | false =>
          cases (k == 5) with
          | true => simp; omega
          | false =>
            cases hz : (k == 2 && ts.length == 0) with
            | true =>
              simp only [cond_false, cond_true]
              have : k = 2 := by simp at hz; exact hz.1
              have := isId_len ((valid_name hv.1).1 this)
              omega
            | false =>
              simp only [cond_false, List.length_append, List.length_cons, List.length_nil]
              omega
theorem fmtL_len {N : List (List UInt8)} : ∀ (l : List Ty), validL l = true → ∀ (sc : List (List UInt8)), (∀ w ∈ sc, w.length ≤ 24) → (fmtL N l sc).length ≤ 64 * sizeL l
  | [], _, sc, _ => by simp [fmtL]
  | t :: l, hv, sc, hsc => by
    simp only [validL, Bool.and_eq_true] at hv
    have h1 := fmt_len (N := N) t hv.1 sc hsc
    have h2 := fmtL_len (N := N) l hv.2 sc hsc
    simp only [fmtL, sizeL, List.length_append, List.length_cons, List.length_nil]
    omega
end
theorem fmt_ne {N : List (List UInt8)} : ∀ (t : Ty), valid t = true → fmt N t [] ≠ []
  | .mk k n i ts, hv => by
    simp only [valid, Bool.and_eq_true] at hv
    by_cases h6 : k = 6
    · subst h6
      obtain ⟨b, body, rfl⟩ : ∃ b body, ts = [b, body] := by
        have h2 := (root_kind hv.1).2.2 rfl
        rcases ts with _ | ⟨x1, _ | ⟨x2, _ | ⟨x3, r⟩⟩⟩ <;> simp at h2
        exact ⟨_, _, rfl⟩
      rw [fmt_ex]
      simp
    · rw [fmt_eq _ _ _ _ _ _ h6]
      cases (k == 0) with
      | true => simp
      | false =>
        cases (k == 1) with
        | true => simp
        | false =>
          cases (k == 5) with
          | true => simp [varT]
          | false =>
            cases hz : (k == 2 && ts.length == 0) with
            | true =>
              have : k = 2 := by simp at hz; exact hz.1
              exact isId_ne ((valid_name hv.1).1 this)
            | false => simp
def textT (t : Ty) : List UInt8 := bif verdict t == 0 then fmt (noms t) t [] else []
theorem verdict_zero {t : Ty} (h : verdict t = 0) : size t ≤ 200 ∧ depth t ≤ 12 ∧ valid t = true := by
  unfold verdict at h
  by_cases h1 : 200 < size t
  · rw [decide_eq_true h1] at h
    simp at h
  by_cases h2 : 12 < depth t
  · rw [decide_eq_true h2] at h
    simp at h
  refine ⟨by omega, by omega, ?_⟩
  rw [decide_eq_false h1, decide_eq_false h2] at h
  cases hv : valid t with
  | true => rfl
  | false => rw [hv] at h; simp at h
theorem byteRows_bytes : ∀ (l : List UInt8), byteRows (byteRs l) = some l
  | [] => rfl
  | b :: l => by
    have h := byteRows_bytes l
    have hb : Nat.blt b.toNat 256 = true := by
      have := b.toNat_lt
      simp
      omega
    have e : byteRs (b :: l) = [.sc (.int .u8 (.ofNat b.toNat))] :: byteRs l := rfl
    rw [e]
    simp [byteRows, hb, h]
theorem strT_buf {L : Lim} {id : Nat} {s : Sto} {x : AV} {r : List AV} {tok : Nat} {c : UInt8} {cs : List UInt8} (hid : s.bs[id]? = some (x :: .own tok (byteRs (c :: cs)) :: r)) (htok : s.ts[tok]? = some ((c :: cs).length, 5)) (hrt : L.rt = 0)
    (b1 : Nat.beq (c :: cs).length (byteRs (c :: cs)).length = true) (b2 : Nat.ble (byteRs (c :: cs)).length 1000000000000000000 = true) : Go.Tel.strT 5 L [.ptr id 0] s = some (SS (c :: cs), s) := by
  unfold Go.Tel.strT
  simp only [hid]
  rw [byteRows_bytes, htok]
  have b3 : Nat.ble 0 tok = true := by simp
  simp only [b1, b2, b3, hrt]
  simp
section
variable {R : Nat → Option (List PV)}
theorem format_spec {t : Ty} (h : size t < 2 ^ 60) (ho : okT t) (hsm : smallV t = true) {x : AV} (hx : TRep t x) : PureC (env R) 10 [x] fun r => r = SS (textT t) := by
  have ev := validate_spec (R := R) h ho hx
  have hx' := hx
  obtain ⟨k, n, i, ts⟩ := t
  obtain ⟨a, rfl, ha⟩ := hx
  suffices H : ∀ Post : AV → Prop, Post (SS (textT (.mk k n i ts))) → P10_0 R 0 0 0 (.agg [I64 k, SS n, I64 i, a]) ⟨[], []⟩ (QP Post) from
    e10 (u0 := .agg [I64 k, SS n, I64 i, a]) (by simp [ha.close]) (H _ rfl)
  intro Post hP
  refine p10_0 ?_
  simp [ha.ok]
  refine wCall_pure ev ?_
  rintro r rfl
  by_cases h0 : verdict (.mk k n i ts) = 0
  · obtain ⟨z1, z2, z3⟩ := verdict_zero h0
    have ht : textT (.mk k n i ts) = fmt (noms (.mk k n i ts)) (.mk k n i ts) [] := by
      unfold textT
      rw [h0]
      rfl
    rw [h0]
    simp
    refine p10_1 ?_
    have hld : ∀ (m : List (List AV)) (t : List (Nat × TypeId)) (K : AV → Prop), K (.agg [I64 k, SS n, I64 i, a]) → wLd (env R) ⟨[I64 k, SS n, I64 i, a] :: m, t⟩ (some 4) (.ptr 0 0) K := by
      intro m t K h
      simp
      exact h
    refine hld _ _ _ ?_
    refine wCall_pure (names_spec (by omega) hx') ?_
    rintro r ⟨N, hN, hmem, hlen⟩
    rw [ht] at hP
    have hfc := fmt_congr (N := N) (M := noms (.mk k n i ts)) hmem (.mk k n i ts) []
    rw [← hfc] at hP
    have hfl := fmt_len (N := N) (.mk k n i ts) z3 [] (fun _ h => by cases h)
    have hne := fmt_ne (N := N) (.mk k n i ts) z3
    have hb : ∀ (s : Sto) (K : AV → Sto → Prop), K (.ptr s.bs.length 0) ⟨s.bs ++ [FBlk s.bs.length true (.capped []) r], s.ts⟩ → wBuild [.pv (.sc (.pointer none)), .capped [], .capped []] [(2, 1, r)] fun a9 => wBoxZ s 71 a9 K := by
      intro s K hK
      refine bd_of (cs := [.pv (.sc (.pointer none)), .capped [], r]) (by simp [hN.ok, hN.cells]) ?_
      simp [hN.ok, FBlk] at hK ⊢
      exact ⟨rfl, hK⟩
    refine hb _ _ ?_
    simp only [List.length_cons, List.length_nil, List.cons_append, List.nil_append]
    have hs : OkS ⟨[[I64 k, SS n, I64 i, a], FBlk 1 true (.capped []) r], []⟩ := by
      intro b hb
      simp only [List.mem_cons, List.not_mem_nil, or_false] at hb
      rcases hb with rfl | rfl <;> simp [idsLtL, idsLt, ha.idsLt, FBlk, hN.idsLt]
    obtain ⟨v, s', ⟨z, buf, ts', rfl, hbuf⟩, hc⟩ := fmt_spec (R := R) hN (.mk k n i ts) z3 hsm [] (.capped []) (.inl (by simp [strRows]; exact .capped _)) (fun _ => .capped _) (by simp; omega) (by omega) _ hx' [[I64 k, SS n, I64 i, a], FBlk 1 true (.capped []) r] 1 true (.capped []) [] [] (LFE (env R) 10 0 0 0) rfl hs (.inl ⟨rfl, rfl⟩) (by simp; omega) rfl rfl
    refine hld _ _ _ ?_
    refine ⟨v, _, hc, ?_⟩
    generalize fmt N (.mk k n i ts) [] = w at hP hfl hne hbuf
    have hst : ∀ K : AV → Sto → Prop, K (SS w) ⟨[[I64 k, SS n, I64 i, a], FBlk 1 z buf r], ts'⟩ → wCall (env R) (LFE (env R) 10 0 0 0) (.func (.func 31) [] []) [.ptr 1 0] ⟨[[I64 k, SS n, I64 i, a], FBlk 1 z buf r], ts'⟩ K := by
      intro K hK
      refine ⟨_, _, CallE.of_told Tryz.func31 (by kernel_rfl) (T := Go.Tel.strT 5) (by kernel_rfl) ?_, hK⟩
      rcases hbuf with ⟨_, hw⟩ | ⟨tok, rfl, htok⟩
      · exact absurd hw hne
      · obtain ⟨c, cs, hc⟩ : ∃ c cs, w = c :: cs := by
          cases w with
          | nil => exact absurd rfl hne
          | cons c cs => exact ⟨c, cs, rfl⟩
        subst hc
        have b1 : Nat.beq (c :: cs).length (byteRs (c :: cs)).length = true := by simp [byteRs_len]
        have b2 : Nat.ble (byteRs (c :: cs)).length 1000000000000000000 = true := by
          rw [byteRs_len]
          simp only [List.length_cons] at hfl ⊢
          simp only [size] at hfl z1
          simp
          omega
        simp only [List.nil_append] at htok
        exact strT_buf (id := 1) (L := LFE (env R) 10 0 0 0) rfl (by simpa using htok) rfl b1 b2
    have hset : (List.set [[I64 k, SS n, I64 i, a], FBlk 1 true (.capped []) r] 1 (FBlk 1 z buf r)) = [[I64 k, SS n, I64 i, a], FBlk 1 z buf r] := rfl
    rw [hset]
    have hnil : ∀ K : AV → Prop, K (.ptr 1 0) → wNil ⟨[[I64 k, SS n, I64 i, a], FBlk 1 z buf r], ts'⟩ (.ptr 1 0) K := fun K hK => ⟨rfl, hK⟩
    have hfad : ∀ K : AV → Prop, K (.ptr 1 0) → wFad ⟨[[I64 k, SS n, I64 i, a], FBlk 1 z buf r], ts'⟩ (.ptr 1 0) 0 K := fun K hK => ⟨rfl, hK⟩
    refine hnil _ (hfad _ (hst _ ?_))
    exact ⟨_, by simp [close], hP⟩
  · have b0 : (verdict (.mk k n i ts) == 0) = false := by simpa using h0
    have ht : textT (.mk k n i ts) = [] := by
      unfold textT
      rw [b0]
      rfl
    rw [ht] at hP
    simp [QP, QI, h0]
    exact hP
end
end Go.Proofs.YtmipbilokjkjiaaGreatDoor
/-
  The text of a term tells the term: words.
-/
namespace Go.Proofs.YtmipbilokjkjiaaGreatDoor
open Go.Tel
def Dl : List UInt8 → Prop
  | [] => True
  | c :: _ => c = 32 ∨ c = 41
def wch (c : UInt8) : Bool := !(c == 32) && (!(c == 41) && !(c == 40))
theorem word_cut : ∀ {w v r s : List UInt8}, w.all wch = true → v.all wch = true → Dl r → Dl s → w ++ r = v ++ s → w = v ∧ r = s
  | [], [], r, s, _, _, _, _, h => ⟨rfl, h⟩
  | [], c :: v, r, s, _, hv, hr, _, h => by
    simp only [List.nil_append, List.cons_append] at h
    subst h
    simp only [List.all_cons, Bool.and_eq_true] at hv
    rcases hr with h | h <;> simp [h, wch] at hv
  | c :: w, [], r, s, hw, _, _, hs, h => by
    simp only [List.nil_append, List.cons_append] at h
    subst h
    simp only [List.all_cons, Bool.and_eq_true] at hw
    rcases hs with h | h <;> simp [h, wch] at hw
  | c :: w, d :: v, r, s, hw, hv, hr, hs, h => by
    simp only [List.cons_append, List.cons.injEq] at h
    simp only [List.all_cons, Bool.and_eq_true] at hw hv
    obtain ⟨rfl, h⟩ := h
    obtain ⟨rfl, h'⟩ := word_cut hw.2 hv.2 hr hs h
    exact ⟨rfl, h'⟩
theorem isId_wch {n : List UInt8} (h : isId n = true) : n.all wch = true := by
  unfold isId at h
  simp only [Bool.and_eq_true] at h
  rw [List.all_eq_true] at h ⊢
  intro c hc
  have h1 := (h.2 c hc)
  simp only [Bool.and_eq_true] at h1
  have h2 := h1.2
  cases hw : wch c with
  | true => rfl
  | false =>
    have : c = 32 ∨ c = 41 ∨ c = 40 := by
      unfold wch at hw
      by_cases a : c = 32
      · exact .inl a
      · by_cases b : c = 41
        · exact .inr (.inl b)
        · by_cases d : c = 40
          · exact .inr (.inr d)
          · simp [a, b, d] at hw
    rcases this with rfl | rfl | rfl <;> exact absurd h2 (by decide)
theorem isId_head {n : List UInt8} (h : isId n = true) : ∃ c r, n = c :: r ∧ isLet c.toNat = true := by
  unfold isId at h
  simp only [Bool.and_eq_true] at h
  cases n with
  | nil => simp at h
  | cons c r => exact ⟨c, r, rfl, h.1.2⟩
theorem isId_no36 {n r : List UInt8} (h : isId n = true) : n ≠ 36 :: r := by
  intro e
  obtain ⟨c, r', rfl, hc⟩ := isId_head h
  cases e
  exact absurd hc (by decide)
theorem dig_all : ((List.range 100).all fun a => (dig a).all wch && (List.range 100).all fun b => !(dig a == dig b) || a == b) = true := by kernel_rfl
theorem dig_inj {a b : Nat} (ha : a < 100) (hb : b < 100) (h : dig a = dig b) : a = b := by
  have h1 := List.all_eq_true.1 dig_all a (List.mem_range.2 ha)
  simp only [Bool.and_eq_true] at h1
  have h2 := List.all_eq_true.1 h1.2 b (List.mem_range.2 hb)
  rw [h] at h2
  simpa using h2
theorem dig_wch {a : Nat} (ha : a < 100) : (dig a).all wch = true := by
  have h1 := List.all_eq_true.1 dig_all a (List.mem_range.2 ha)
  simp only [Bool.and_eq_true] at h1
  exact h1.1
theorem nameAt_all : ((List.range 260).all fun i => isId (nameAt i) && !resv.contains (nameAt i)) = true := by kernel_rfl
theorem fresh_name {used : List (List UInt8)} : isId (fresh used) = true ∧ resv.contains (fresh used) = false := by
  have := freshI_lt (used := used) 259 0
  have h1 := List.all_eq_true.1 nameAt_all (freshI used 259 0) (List.mem_range.2 (by omega))
  simpa [fresh] using h1
structure Sc (N M sc : List (List UInt8)) : Prop where
  newN : ∀ w ∈ sc, w ∉ N
  newM : ∀ w ∈ sc, w ∉ M
  name : ∀ w ∈ sc, isId w = true ∧ resv.contains w = false
  dup : sc.Nodup
theorem Sc.nil {N M : List (List UInt8)} : Sc N M [] := ⟨fun _ h => (by cases h), fun _ h => (by cases h), fun _ h => (by cases h), List.nodup_nil⟩
theorem Sc.push {N M sc : List (List UInt8)} (h : Sc N M sc) {w : List UInt8} (hN : w ∉ N ++ sc) (hM : w ∉ M ++ sc) (hw : isId w = true ∧ resv.contains w = false) : Sc N M (sc ++ [w]) := by
  simp only [List.mem_append, not_or] at hN hM
  refine ⟨?_, ?_, ?_, ?_⟩
  · intro x hx
    rcases List.mem_append.1 hx with hx | hx
    · exact h.newN x hx
    · rw [List.mem_singleton.1 hx]; exact hN.1
  · intro x hx
    rcases List.mem_append.1 hx with hx | hx
    · exact h.newM x hx
    · rw [List.mem_singleton.1 hx]; exact hM.1
  · intro x hx
    rcases List.mem_append.1 hx with hx | hx
    · exact h.name x hx
    · rw [List.mem_singleton.1 hx]; exact hw
  · rw [List.nodup_append]
    refine ⟨h.dup, by simp, ?_⟩
    intro a ha b hb
    rw [List.mem_singleton.1 hb]
    rintro rfl
    exact hN.2 ha
theorem fresh_notin {used : List (List UInt8)} (h : used.length < 260) : fresh used ∉ used := by
  intro hc
  have := fresh_new h
  rw [show nameAt (freshI used 259 0) = fresh used from rfl] at this
  simp [hc] at this
theorem varT_cases {sc : List (List UInt8)} {i : Int} (h0 : 0 ≤ i) : (∃ j w, i = (sc.length : Int) - 1 - (j : Nat) ∧ sc[j]? = some w ∧ varT sc i = w) ∨ ((sc.length : Int) ≤ i ∧ varT sc i = 36 :: dig (i - sc.length).toNat) := by
  by_cases h : i < sc.length
  · left
    obtain ⟨w, hw⟩ : ∃ w, sc[((sc.length : Int) - 1 - i).toNat]? = some w := ⟨_, List.getElem?_eq_getElem (by omega)⟩
    refine ⟨_, w, by omega, hw, ?_⟩
    unfold varT
    rw [hw]
    simp [h]
  · right
    refine ⟨by omega, ?_⟩
    unfold varT
    split
    · simp [h]
    · rfl
theorem varT_inj {N M sc : List (List UInt8)} (hs : Sc N M sc) {i j : Int} (hi : 0 ≤ i) (hj : 0 ≤ j) (hi2 : i < 100) (hj2 : j < 100) (h : varT sc i = varT sc j) : i = j := by
  rcases varT_cases (sc := sc) hi with ⟨a, w, e1, ha, hw⟩ | ⟨e1, hw⟩ <;> rcases varT_cases (sc := sc) hj with ⟨b, v, e2, hb, hv⟩ | ⟨e2, hv⟩
  · rw [hw, hv] at h
    subst h
    have hal : a < sc.length := (List.getElem?_eq_some_iff.1 ha).1
    have := (List.getElem?_inj hal hs.dup).1 (ha.trans hb.symm)
    omega
  · rw [hw, hv] at h
    exact absurd h (isId_no36 (hs.name w (List.mem_of_getElem? ha)).1)
  · rw [hw, hv] at h
    exact absurd h.symm (isId_no36 (hs.name v (List.mem_of_getElem? hb)).1)
  · rw [hw, hv] at h
    have := dig_inj (by omega) (by omega) (List.cons.inj h).2
    omega
theorem root_cases {k i : Int} {n : List UInt8} {ts : List Ty} (h : root k n i ts = true) :
    (k = 0 ∧ n = [] ∧ i = 0 ∧ ts = []) ∨ (k = 1 ∧ n = [] ∧ i = 0 ∧ ts = []) ∨ (k = 2 ∧ i = 0 ∧ isId n = true ∧ resv.contains n = false) ∨ (k = 3 ∧ n = [] ∧ i = 0) ∨ (k = 4 ∧ n = [] ∧ i = 0 ∧ ts ≠ []) ∨ (k = 5 ∧ n = [] ∧ ts = [] ∧ 0 ≤ i) ∨ (k = 6 ∧ n = [] ∧ i = 0 ∧ ∃ b body, ts = [b, body]) := by
  unfold root at h
  simp only [Bool.and_eq_true, Bool.or_eq_true, beq_iff_eq] at h
  obtain ⟨⟨h1, h2⟩, h3⟩ := h
  unfold shape at h3
  by_cases k0 : k = 0
  · subst k0
    simp at h1 h2 h3
    exact .inl ⟨rfl, h1, h2, h3⟩
  by_cases k1 : k = 1
  · subst k1
    simp at h1 h2 h3
    exact .inr (.inl ⟨rfl, h1, h2, h3⟩)
  by_cases k2 : k = 2
  · subst k2
    simp [-List.contains_eq_mem] at h1 h2 h3
    exact .inr (.inr (.inl ⟨rfl, h2, h3.1.1.1, h3.1.1.2⟩))
  by_cases k3 : k = 3
  · subst k3
    simp at h1 h2 h3
    exact .inr (.inr (.inr (.inl ⟨rfl, h1, h2⟩)))
  by_cases k4 : k = 4
  · subst k4
    simp at h1 h2 h3
    refine .inr (.inr (.inr (.inr (.inl ⟨rfl, h1, h2, ?_⟩))))
    rintro rfl
    simp at h3
  by_cases k5 : k = 5
  · subst k5
    simp at h1 h2 h3
    exact .inr (.inr (.inr (.inr (.inr (.inl ⟨rfl, h1, h3.1.1, h3.1.2⟩)))))
  by_cases k6 : k = 6
  · subst k6
    simp at h1 h2 h3
    refine .inr (.inr (.inr (.inr (.inr (.inr ⟨rfl, h1, h2, ?_⟩)))))
    rcases ts with _ | ⟨b, _ | ⟨c, _ | ⟨d, l⟩⟩⟩ <;> simp at h3
    exact ⟨_, _, rfl⟩
  · simp [k0, k1, k2, k3, k4, k5, k6] at h3
end Go.Proofs.YtmipbilokjkjiaaGreatDoor
/-
  The text of a term tells the term.
-/
namespace Go.Proofs.YtmipbilokjkjiaaGreatDoor
open Go.Tel
def atomW (k : Int) (n : List UInt8) (i : Int) (sc : List (List UInt8)) : List UInt8 := bif k == 0 then [65, 110, 121] else bif k == 1 then [78, 101, 118, 101, 114] else bif k == 5 then varT sc i else n
def isAt (k : Int) (ts : List Ty) : Bool := k == 0 || (k == 1 || (k == 5 || (k == 2 && ts.length == 0)))
theorem fmt_atom {N : List (List UInt8)} {k i : Int} {n : List UInt8} {ts : List Ty} {sc : List (List UInt8)} (h : isAt k ts = true) : fmt N (.mk k n i ts) sc = atomW k n i sc := by
  unfold isAt at h
  simp only [Bool.or_eq_true, Bool.and_eq_true, beq_iff_eq] at h
  have h6 : k ≠ 6 := by omega
  rw [fmt_eq N k n i ts sc h6]
  unfold atomW
  rcases h with rfl | rfl | rfl | ⟨rfl, h⟩ <;> simp
  · simp [h]
def hdX (k : Int) (n : List UInt8) : List UInt8 := bif k == 6 then [101, 120, 105, 115, 116, 115] else hdT k n
def tlX (N : List (List UInt8)) (k : Int) (ts : List Ty) (sc : List (List UInt8)) : List UInt8 := bif k == 6 then
    match ts with
    | [b, body] => 32 :: (fresh (N ++ sc) ++ 32 :: (fmt N b [] ++ 32 :: (fmt N body (sc ++ [fresh (N ++ sc)]) ++ [41])))
    | _ => []
  else fmtL N ts sc ++ [41]
theorem fmt_node {N : List (List UInt8)} {k i : Int} {n : List UInt8} {ts : List Ty} {sc : List (List UInt8)} (hr : root k n i ts = true) (h : isAt k ts = false) : fmt N (.mk k n i ts) sc = 40 :: (hdX k n ++ tlX N k ts sc) := by
  by_cases h6 : k = 6
  · subst h6
    rcases root_cases hr with h | h | h | h | h | h | ⟨_, rfl, rfl, b, body, rfl⟩
    · omega
    · omega
    · omega
    · omega
    · omega
    · omega
    · rw [fmt_ex]
      simp [hdX, tlX]
  · rw [fmt_eq N k n i ts sc h6]
    have b6 : (k == 6) = false := by simpa using h6
    unfold isAt at h
    simp only [Bool.or_eq_false_iff] at h
    obtain ⟨h0, h1, h5, h2⟩ := h
    unfold hdX tlX
    rw [h0, h1, h5, h2, b6]
    simp
theorem tlX_dl {N : List (List UInt8)} {k i : Int} {n : List UInt8} {ts : List Ty} {sc : List (List UInt8)} (hr : root k n i ts = true) (r : List UInt8) : Dl (tlX N k ts sc ++ r) := by
  unfold tlX
  cases b6 : (k == 6) with
  | true =>
    have h6 : k = 6 := by simpa using b6
    subst h6
    rcases root_cases hr with h | h | h | h | h | h | ⟨_, rfl, rfl, b, body, rfl⟩
    · omega
    · omega
    · omega
    · omega
    · omega
    · omega
    · exact .inl rfl
  | false =>
    cases ts with
    | nil => exact .inr rfl
    | cons t l => exact .inl rfl
theorem varT_word {N M sc : List (List UInt8)} (hs : Sc N M sc) {i : Int} (h0 : 0 ≤ i) (h1 : i < 100) : (varT sc i).all wch = true ∧ varT sc i ≠ [] ∧ resv.contains (varT sc i) = false ∧ (isId (varT sc i) = true → varT sc i ∉ N ∧ varT sc i ∉ M) := by
  rcases varT_cases (sc := sc) h0 with ⟨a, w, e1, ha, hw⟩ | ⟨e1, hw⟩
  · rw [hw]
    have hm := List.mem_of_getElem? ha
    have hn := hs.name w hm
    obtain ⟨c, r, rfl, _⟩ := isId_head hn.1
    exact ⟨isId_wch hn.1, by simp, hn.2, fun _ => ⟨hs.newN _ hm, hs.newM _ hm⟩⟩
  · rw [hw]
    refine ⟨?_, by simp, by simp [resv], fun h => absurd rfl (isId_no36 h)⟩
    rw [List.all_cons, dig_wch (by omega)]
    rfl
theorem atomW_word {N M sc : List (List UInt8)} (hs : Sc N M sc) {k i : Int} {n : List UInt8} {ts : List Ty} (hr : root k n i ts = true) (ha : isAt k ts = true) (hv : k = 5 → i < 100) : (atomW k n i sc).all wch = true ∧ atomW k n i sc ≠ [] := by
  rcases root_cases hr with ⟨rfl, h⟩ | ⟨rfl, h⟩ | ⟨rfl, _, hn, _⟩ | ⟨rfl, h⟩ | ⟨rfl, h⟩ | ⟨rfl, rfl, rfl, h0⟩ | ⟨rfl, h⟩
  · exact ⟨by simp [atomW, wch], by simp [atomW]⟩
  · exact ⟨by simp [atomW, wch], by simp [atomW]⟩
  · obtain ⟨c, r, rfl, _⟩ := isId_head hn
    exact ⟨isId_wch hn, by simp [atomW]⟩
  · simp [isAt] at ha
  · simp [isAt] at ha
  · have := varT_word hs h0 (hv rfl)
    exact ⟨this.1, this.2.1⟩
  · simp [isAt] at ha
theorem at_inj {N M sc : List (List UInt8)} (hs : Sc N M sc) {k i k' i' : Int} {n n' : List UInt8} {ts us : List Ty} (hr : root k n i ts = true) (hr' : root k' n' i' us = true) (ha : isAt k ts = true) (ha' : isAt k' us = true) (hv : k = 5 → i < 100) (hv' : k' = 5 → i' < 100)
    (hn : k = 2 → n ∈ N) (hn' : k' = 2 → n' ∈ M) (h : atomW k n i sc = atomW k' n' i' sc) : Ty.mk k n i ts = .mk k' n' i' us := by
  have e2 : isAt 2 ts = true → ts = [] := fun h => by simpa [isAt] using h
  have e2' : isAt 2 us = true → us = [] := fun h => by simpa [isAt] using h
  have A : resv.contains [65, 110, 121] = true := by decide
  have B : resv.contains [78, 101, 118, 101, 114] = true := by decide
  have C : ∀ {x y : List UInt8}, resv.contains x = true → resv.contains y = false → x ≠ y := by
    rintro x y hx hy rfl
    rw [hx] at hy
    cases hy
  rcases root_cases hr with ⟨rfl, rfl, rfl, rfl⟩ | ⟨rfl, rfl, rfl, rfl⟩ | ⟨rfl, rfl, hi, hre⟩ | ⟨rfl, _⟩ | ⟨rfl, _⟩ | ⟨rfl, rfl, rfl, h0⟩ | ⟨rfl, _⟩ <;> first
    | (simp [isAt] at ha; done)
    | (rcases root_cases hr' with ⟨rfl, rfl, rfl, rfl⟩ | ⟨rfl, rfl, rfl, rfl⟩ | ⟨rfl, rfl, hi', hre'⟩ | ⟨rfl, _⟩ | ⟨rfl, _⟩ | ⟨rfl, rfl, rfl, h0'⟩ | ⟨rfl, _⟩ <;> first
        | (simp [isAt] at ha'; done)
        | rfl
        | (simp [atomW] at h; done)
        | (exact absurd h (C A hre'))
        | (exact absurd h (C B hre'))
        | (exact absurd h.symm (C A hre))
        | (exact absurd h.symm (C B hre))
        | (exact absurd h (C A (varT_word hs h0' (hv' rfl)).2.2.1))
        | (exact absurd h (C B (varT_word hs h0' (hv' rfl)).2.2.1))
        | (exact absurd h.symm (C A (varT_word hs h0 (hv rfl)).2.2.1))
        | (exact absurd h.symm (C B (varT_word hs h0 (hv rfl)).2.2.1))
        | (have e : n = n' := h
           rw [e2 ha, e2' ha', e])
        | (have e : n = varT sc i' := h
           rw [e] at hn hi
           exact absurd (hn rfl) ((varT_word hs h0' (hv' rfl)).2.2.2 hi).1)
        | (have e : varT sc i = n' := h
           rw [← e] at hn' hi'
           exact absurd (hn' rfl) ((varT_word hs h0 (hv rfl)).2.2.2 hi').2)
        | (have e : varT sc i = varT sc i' := h
           rw [varT_inj hs h0 h0' (hv rfl) (hv' rfl) e]))
theorem hdX_inj {k i k' i' : Int} {n n' : List UInt8} {ts us : List Ty} (hr : root k n i ts = true) (hr' : root k' n' i' us = true) (ha : isAt k ts = false) (ha' : isAt k' us = false) (h : hdX k n = hdX k' n') : k = k' ∧ n = n' ∧ i = i' := by
  have A : resv.contains [116, 117, 112, 108, 101] = true := by decide
  have B : resv.contains [117, 110, 105, 111, 110] = true := by decide
  have D : resv.contains [101, 120, 105, 115, 116, 115] = true := by decide
  have C : ∀ {x y : List UInt8}, resv.contains x = true → resv.contains y = false → x ≠ y := by
    rintro x y hx hy rfl
    rw [hx] at hy
    cases hy
  rcases root_cases hr with ⟨rfl, rfl, rfl, rfl⟩ | ⟨rfl, rfl, rfl, rfl⟩ | ⟨rfl, rfl, hi, hre⟩ | ⟨rfl, rfl, rfl⟩ | ⟨rfl, rfl, rfl, _⟩ | ⟨rfl, rfl, rfl, h0⟩ | ⟨rfl, rfl, rfl, _⟩ <;> first
    | (simp [isAt] at ha; done)
    | (rcases root_cases hr' with ⟨rfl, rfl, rfl, rfl⟩ | ⟨rfl, rfl, rfl, rfl⟩ | ⟨rfl, rfl, hi', hre'⟩ | ⟨rfl, rfl, rfl⟩ | ⟨rfl, rfl, rfl, _⟩ | ⟨rfl, rfl, rfl, h0'⟩ | ⟨rfl, rfl, rfl, _⟩ <;> first
        | (simp [isAt] at ha'; done)
        | exact ⟨rfl, rfl, rfl⟩
        | exact ⟨rfl, h, rfl⟩
        | (exact absurd h (C A hre'))
        | (exact absurd h (C B hre'))
        | (exact absurd h (C D hre'))
        | (exact absurd h.symm (C A hre))
        | (exact absurd h.symm (C B hre))
        | (exact absurd h.symm (C D hre))
        | (simp [hdX, hdT] at h; done))
theorem hdX_word {k i : Int} {n : List UInt8} {ts : List Ty} (hr : root k n i ts = true) (ha : isAt k ts = false) : (hdX k n).all wch = true := by
  rcases root_cases hr with ⟨rfl, rfl, rfl, rfl⟩ | ⟨rfl, rfl, rfl, rfl⟩ | ⟨rfl, rfl, hi, hre⟩ | ⟨rfl, rfl, rfl⟩ | ⟨rfl, rfl, rfl, _⟩ | ⟨rfl, rfl, rfl, h0⟩ | ⟨rfl, rfl, rfl, _⟩ <;> first
    | (simp [isAt] at ha; done)
    | exact isId_wch hi
    | (simp [hdX, hdT, wch]; done)
theorem noms_mem : ∀ {l : List Ty} {a : Ty} {w : List UInt8}, a ∈ l → w ∈ noms a → w ∈ nomsL l
  | [], _, _, h, _ => by cases h
  | b :: l, a, w, h, hw => by
    simp only [nomsL, List.mem_append]
    rcases List.mem_cons.1 h with rfl | h
    · exact .inl hw
    · exact .inr (noms_mem h hw)
theorem fmtL_inj {N M sc : List (List UInt8)} : ∀ (ts us : List Ty), (∀ t ∈ ts, ∀ u ∈ us, ∀ r s, Dl r → Dl s → fmt N t sc ++ r = fmt M u sc ++ s → t = u ∧ r = s) → ∀ r s, fmtL N ts sc ++ (41 :: r) = fmtL M us sc ++ (41 :: s) → ts = us ∧ r = s
  | [], [], _, r, s, h => by simpa [fmtL] using h
  | [], u :: us, _, r, s, h => by simp [fmtL] at h
  | t :: ts, [], _, r, s, h => by simp [fmtL] at h
  | t :: ts, u :: us, ih, r, s, h => by
    simp only [fmtL, List.append_assoc, List.cons_append, List.nil_append, List.cons.injEq, true_and] at h
    have dl : ∀ (N : List (List UInt8)) (ts : List Ty) (r : List UInt8), Dl (fmtL N ts sc ++ (41 :: r)) := by
      intro N ts r
      cases ts with
      | nil => exact .inr rfl
      | cons t l => exact .inl rfl
    obtain ⟨e1, h1⟩ := ih t (by simp) u (by simp) _ _ (dl N ts r) (dl M us s) h
    obtain ⟨e2, h2⟩ := fmtL_inj ts us (fun t ht u hu => ih t (List.mem_cons_of_mem _ ht) u (List.mem_cons_of_mem _ hu)) r s h1
    exact ⟨by rw [e1, e2], h2⟩
end Go.Proofs.YtmipbilokjkjiaaGreatDoor
/-
  The text of a term tells the term: all terms.
-/
namespace Go.Proofs.YtmipbilokjkjiaaGreatDoor
open Go.Tel
theorem Dl.c32 {r : List UInt8} : Dl (32 :: r) := .inl rfl
theorem Dl.c41 {r : List UInt8} : Dl (41 :: r) := .inr rfl
theorem fmt_inj {N M : List (List UInt8)} (hN : N.length ≤ 200) (hM : M.length ≤ 200) : ∀ (f : Nat) (t u : Ty) (sc : List (List UInt8)), size t ≤ f → Sc N M sc → sc.length + depth t ≤ 30 → valid t = true → valid u = true → smallV t = true → smallV u = true →
    (∀ w ∈ noms t, w ∈ N) → (∀ w ∈ noms u, w ∈ M) → ∀ r s, Dl r → Dl s → fmt N t sc ++ r = fmt M u sc ++ s → t = u ∧ r = s
  | 0, t, _, _, hs, _, _, _, _, _, _, _, _, _, _, _, _, _ => by
    have := size_pos t
    omega
  | f + 1, .mk k n i ts, .mk k' n' i' us, sc, hs, hS, hd, hv, hv', hm, hm', hn, hn', r, s, hr, hs', h => by
    simp only [size] at hs
    simp only [depth] at hd
    simp only [valid, Bool.and_eq_true] at hv hv'
    simp only [smallV, Bool.and_eq_true, Bool.or_eq_true, Bool.not_eq_true', decide_eq_true_eq] at hm hm'
    have v5 : k = 5 → i < 100 := fun e => by simpa [e] using hm.1
    have v5' : k' = 5 → i' < 100 := fun e => by simpa [e] using hm'.1
    have nk : k = 2 → n ∈ N := fun e => hn n (by simp [noms, e])
    have nk' : k' = 2 → n' ∈ M := fun e => hn' n' (by simp [noms, e])
    cases ha : isAt k ts with
    | true =>
      cases ha' : isAt k' us with
      | true =>
        rw [fmt_atom ha, fmt_atom ha'] at h
        obtain ⟨e, e'⟩ := word_cut (atomW_word hS hv.1 ha v5).1 (atomW_word hS hv'.1 ha' v5').1 hr hs' h
        exact ⟨at_inj hS hv.1 hv'.1 ha ha' v5 v5' nk nk' e, e'⟩
      | false =>
        rw [fmt_atom ha, fmt_node hv'.1 ha'] at h
        have hw := atomW_word hS hv.1 ha v5
        obtain ⟨c, w, hc⟩ := List.exists_cons_of_ne_nil hw.2
        rw [hc] at h hw
        simp only [List.cons_append, List.cons.injEq] at h
        have := hw.1
        simp [h.1, wch] at this
    | false =>
      cases ha' : isAt k' us with
      | true =>
        rw [fmt_atom ha', fmt_node hv.1 ha] at h
        have hw := atomW_word hS hv'.1 ha' v5'
        obtain ⟨c, w, hc⟩ := List.exists_cons_of_ne_nil hw.2
        rw [hc] at h hw
        simp only [List.cons_append, List.cons.injEq] at h
        have := hw.1
        simp [← h.1, wch] at this
      | false =>
        rw [fmt_node hv'.1 ha', fmt_node hv.1 ha] at h
        simp only [List.cons_append, List.append_assoc, List.cons.injEq, true_and] at h
        obtain ⟨e, g⟩ := word_cut (hdX_word hv.1 ha) (hdX_word hv'.1 ha') (tlX_dl hv.1 r) (tlX_dl hv'.1 s) h
        clear h
        obtain ⟨rfl, rfl, rfl⟩ := hdX_inj hv.1 hv'.1 ha ha' e
        have ih : ∀ (sc' : List (List UInt8)), Sc N M sc' → sc'.length + depthL ts ≤ 30 → ∀ t ∈ ts, ∀ u ∈ us, ∀ r s, Dl r → Dl s → fmt N t sc' ++ r = fmt M u sc' ++ s → t = u ∧ r = s := by
          intro sc' hS' hd' t ht u hu
          have a1 := size_mem ht
          have a2 := depth_mem ht
          exact fmt_inj hN hM f t u sc' (by omega) hS' (by omega) (validL_mem hv.2 ht) (validL_mem hv'.2 hu) (smallVs_mem hm.2 ht) (smallVs_mem hm'.2 hu)
            (fun w hw => hn w (by simp only [noms, List.mem_append]; exact .inr (noms_mem ht hw))) (fun w hw => hn' w (by simp only [noms, List.mem_append]; exact .inr (noms_mem hu hw)))
        by_cases h6 : k = 6
        · subst h6
          rcases root_cases hv.1 with h' | h' | h' | h' | h' | h' | ⟨_, _, _, b, body, rfl⟩ <;> try omega
          rcases root_cases hv'.1 with h' | h' | h' | h' | h' | h' | ⟨_, _, _, b', body', rfl⟩ <;> try omega
          have id1 := fresh_name (used := N ++ sc)
          have id2 := fresh_name (used := M ++ sc)
          have ni1 : fresh (N ++ sc) ∉ N ++ sc := fresh_notin (by simp; omega)
          have ni2 : fresh (M ++ sc) ∉ M ++ sc := fresh_notin (by simp; omega)
          simp only [tlX, beq_self_eq_true, cond_true, List.cons_append, List.append_assoc, List.cons.injEq, true_and, List.nil_append] at g
          obtain ⟨e1, g1⟩ := word_cut (isId_wch id1.1) (isId_wch id2.1) Dl.c32 Dl.c32 g
          rw [← e1] at g1 ni2
          simp only [List.cons.injEq, true_and] at g1
          simp only [depthL] at hd
          obtain ⟨eb, g2⟩ := ih [] Sc.nil (by simp [depthL]; omega) b (by simp) b' (by simp) _ _ Dl.c32 Dl.c32 g1
          simp only [List.cons.injEq, true_and] at g2
          obtain ⟨ec, g3⟩ := ih (sc ++ [fresh (N ++ sc)]) (hS.push ni1 ni2 id1) (by simp [depthL]; omega) body (by simp) body' (by simp) _ _ Dl.c41 Dl.c41 g2
          simp only [List.cons.injEq, true_and] at g3
          exact ⟨by rw [eb, ec], g3⟩
        · have b6 : (k == 6) = false := by simpa using h6
          simp only [tlX, b6, cond_false, List.append_assoc, List.cons_append, List.nil_append] at g
          obtain ⟨el, g1⟩ := fmtL_inj ts us (ih sc hS (by omega)) r s g
          exact ⟨by rw [el], g1⟩
theorem textT_inj {t u : Ty} (ht : verdict t = 0) (hu : verdict u = 0) (st : smallV t = true) (su : smallV u = true) (h : textT t = textT u) : t = u := by
  unfold textT at h
  rw [ht, hu] at h
  simp only [beq_self_eq_true, cond_true] at h
  obtain ⟨a1, a2, a3⟩ := verdict_zero ht
  obtain ⟨b1, b2, b3⟩ := verdict_zero hu
  have l1 := noms_le t
  have l2 := noms_le u
  exact (fmt_inj (by omega) (by omega) (size t) t u [] (Nat.le_refl _) Sc.nil (by simp; omega) a3 b3 st su (fun _ h => h) (fun _ h => h) [] [] trivial trivial (by simpa using h)).1
end Go.Proofs.YtmipbilokjkjiaaGreatDoor
