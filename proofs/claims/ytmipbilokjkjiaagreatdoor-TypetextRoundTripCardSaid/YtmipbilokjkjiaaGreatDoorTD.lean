/-
  strings.Builder: what is written.
-/
import Derived.Test.YtmipbilokjkjiaaGreatDoorTC
import Derived.Test.YtmipbilokjkjiaaGreatDoorW1
import Derived.Test.YtmipbilokjkjiaaGreatDoorTB
set_option linter.unusedSimpArgs false
set_option linter.unusedVariables false
namespace Go.Proofs.YtmipbilokjkjiaaGreatDoor
open Go.Tel
def byteRs (l : List UInt8) : List (List PV) := l.map fun b => [.sc (.int .u8 b.toNat)]
theorem byteRs_len (l : List UInt8) : (byteRs l).length = l.length := by simp [byteRs]
def BufR (ts : List (Nat × TypeId)) (out : List UInt8) (a : AV) : Prop := (a = .capped [] ∧ out = []) ∨ ∃ t, a = .own t (byteRs out) ∧ ts[t]? = some (out.length, 5)
theorem BufR.ok {ts : List (Nat × TypeId)} {out : List UInt8} {a : AV} (h : BufR ts out a) : okCell a = true := by rcases h with ⟨rfl, _⟩ | ⟨t, rfl, _⟩ <;> rfl
theorem BufR.noBlk {ts : List (Nat × TypeId)} {out : List UInt8} {a : AV} (h : BufR ts out a) : noBlk a = true := by rcases h with ⟨rfl, _⟩ | ⟨t, rfl, _⟩ <;> rfl
theorem BufR.cells {ts : List (Nat × TypeId)} {out : List UInt8} {a : AV} (h : BufR ts out a) : cellsOf a = [a] := by rcases h with ⟨rfl, _⟩ | ⟨t, rfl, _⟩ <;> rfl
theorem BufR.idsLt {ts : List (Nat × TypeId)} {out : List UInt8} {a : AV} (h : BufR ts out a) (n : Nat) : idsLt n a = true := by rcases h with ⟨rfl, _⟩ | ⟨t, rfl, _⟩ <;> rfl
theorem byteRs_row (l : List UInt8) : ((byteRs l).all fun r => r.length == 1) = true := by
  rw [aLs0015]
  intro r hr
  obtain ⟨b, _, rfl⟩ := aLs0052.1 hr
  rfl
theorem rowsBy_bytes : ∀ (l : List UInt8), rowsBy 1 l.length (l.map fun b => PV.sc (.int .u8 b.toNat)) = byteRs l
  | [] => rfl
  | b :: l => by
    have := rowsBy_bytes l
    simp [rowsBy, byteRs] at this ⊢
    exact this
theorem wApp_bytes {L : Lim} {bs : List (List AV)} {ts : List (Nat × TypeId)} {out w : List UInt8} {a y : AV} {K : AV → Sto → Prop} (ha : BufR ts out a) (hrt : L.rt = 0) (hl : out.length + w.length ≤ 2 ^ 40)
    (hy : srcCells ⟨bs, ts⟩ 1 y = some (w.map fun b => .pv (.sc (.int .u8 b.toNat)))) (h : ∀ a' ts', BufR ts' (out ++ w) a' → K a' ⟨bs, ts'⟩) : wApp false L ⟨bs, ts⟩ 5 1 1 a y K := by
  unfold wApp
  rw [hy]
  cases w with
  | nil =>
    have h0 := h a ts (by simpa using ha)
    rcases ha with ⟨rfl, _⟩ | ⟨t, rfl, _⟩ <;> exact h0
  | cons b w =>
    have htp : toPVs ((b :: w).map fun b => AV.pv (.sc (.int .u8 b.toNat))) = some ((b :: w).map fun b => PV.sc (.int .u8 b.toNat)) := by
      have := toPVs_map ((b :: w).map fun b => PV.sc (.int .u8 b.toNat))
      rw [List.map_map] at this
      exact this
    have hok : (((b :: w).map fun b => AV.pv (.sc (.int .u8 b.toNat))).all okCell) = true := by
      rw [aLs0015]
      intro x hx
      obtain ⟨c, _, rfl⟩ := aLs0052.1 hx
      rfl
    have hlen : ((b :: w).map fun b => AV.pv (.sc (.int .u8 b.toNat))).length / 1 = (b :: w).length := by simp
    have hrb := rowsBy_bytes (b :: w)
    have e : byteRs out ++ byteRs (b :: w) = byteRs (out ++ b :: w) := by simp [byteRs]
    rw [aLs0018] at htp hok hlen ⊢
    simp only [wO, hok, hlen, htp, hrb, byteRs_len]
    refine ⟨aLs0000, ?_⟩
    simp only [aLs0010] at hl ⊢
    rcases ha with ⟨rfl, rfl⟩ | ⟨t, rfl, ht⟩
    · simp only [aLs0020] at hl ⊢
      refine ⟨⟨by omega, by omega, by simp⟩, ?_⟩
      have := h (.own ts.length (byteRs ([] ++ b :: w))) (ts ++ [(w.length + 1, 5)]) (.inr ⟨_, rfl, by simp⟩)
      simpa using this
    · simp only [byteRs_len]
      refine ⟨⟨by omega, by omega, ht, by omega, byteRs_row out⟩, ?_⟩
      have hlt := (aLs0014.1 ht).1
      have := h (.own t (byteRs (out ++ b :: w))) (ts.set t (out.length + (w.length + 1), 5)) (.inr ⟨t, rfl, by simp [hlt]⟩)
      rw [e]
      exact this
def FBlk (id : Nat) (z : Bool) (buf nm : AV) : List AV := [bif z then .bz id 71 3 else .ptr id 0, buf, nm]
section
variable {R : Nat → Option (List PV)}
theorem copy_call {bs : List (List AV)} {id : Nat} {z : Bool} {buf nm : AV} {ts : List (Nat × TypeId)} (hid : bs[id]? = some (FBlk id z buf nm)) {L : Lim} (hro : L.ro = 0) (hn0 : L.n0 = 0) :
    CallE (env R) L 82 [.ptr id 0] ⟨bs, ts⟩ (.tuple []) ⟨bs.set id (FBlk id false buf nm), ts⟩ := by
  refine CallE.of_told Tryz.func82 (by kernel_rfl) (T := copyT okB) (by kernel_rfl) ?_
  cases z with
  | false =>
    have : bs.set id (FBlk id false buf nm) = bs := by
      obtain ⟨hl, e⟩ := aLs0014.1 hid
      rw [← e]
      simp
    rw [this]
    simp only [copyT, hid, FBlk, aLs0009]
    simp
  | true =>
    have h1 : okB 71 3 = true := by kernel_rfl
    have h2 : Nat.ble 0 id = true := by simp
    simp only [copyT, hid, FBlk, aLs0004, h1, hro, hn0, h2]
    simp
def Wrote (bs : List (List AV)) (id : Nat) (nm : AV) (out : List UInt8) (s' : Sto) : Prop := ∃ z buf ts', s' = ⟨bs.set id (FBlk id z buf nm), ts'⟩ ∧ BufR ts' out buf
theorem FBlk_ids {id : Nat} {buf nm : AV} {ts : List (Nat × TypeId)} {out : List UInt8} {names : List (List PV)} {n : Nat} (hb : BufR ts out buf) (hnm : RowsA nm names) (h : id < n) : idsLtL n (FBlk id false buf nm) = true := by
  simp [FBlk, idsLtL, idsLt, hb.idsLt, hnm.idsLt, h]
theorem okS_fb {bs : List (List AV)} {id : Nat} {buf nm : AV} {ts : List (Nat × TypeId)} {out : List UInt8} {names : List (List PV)} (hs : OkS ⟨bs, []⟩) (hb : BufR ts out buf) (hnm : RowsA nm names) (hlt : id < bs.length) (m : List (List AV)) :
    (((bs.set id (FBlk id false buf nm) ++ m).take bs.length).all (idsLtL bs.length)) = true := by
  rw [take_set, aLs0015]
  intro x hx
  rcases aLs0053 hx with h | h
  · exact hs x h
  · rw [h]; exact FBlk_ids hb hnm hlt
theorem writeString_spec {bs : List (List AV)} {id : Nat} {z : Bool} {buf nm : AV} {names : List (List PV)} {ts : List (Nat × TypeId)} {out w : List UInt8} (hid : bs[id]? = some (FBlk id z buf nm)) (hs : OkS ⟨bs, []⟩) (hb : BufR ts out buf) (hnm : RowsA nm names) (hl : out.length + w.length ≤ 2 ^ 40) {L : Lim} (hro : L.ro = 0) (hrt : L.rt = 0) :
    ∃ v s', Wrote bs id nm (out ++ w) s' ∧ CallE (env R) L 56 [.ptr id 0, SS w] ⟨bs, ts⟩ v s' := by
  have hlt : id < bs.length := (aLs0014.1 hid).1
  refine m56 (by simp [noIdL, noId]) (p56_0 ?_)
  refine ⟨_, _, copy_call hid (L := LFE (env R) 56 0 L.ro L.rt) hro rfl, ?_⟩
  have g0 : ∀ buf', (bs.set id (FBlk id false buf' nm))[id]? = some (FBlk id false buf' nm) := fun buf' => by simp [hlt]
  have ss : ∀ b b' : List AV, (bs.set id b).set id b' = bs.set id b' := fun b b' => by simp
  have al : ∀ buf' t, alive ⟨bs.set id (FBlk id false buf' nm), t⟩ id = true := fun buf' t => by have := g0 buf'; simp only [alive, this]; rfl
  refine ⟨al _ _, al _ _, ?_⟩
  simp only [wLd, g0, wO, wPart, xL, xM, xF, xG]
  simp only [FBlk, aLs0027, aLs0017, aLs0031]
  refine ⟨by simp, ?_⟩
  have hsrc : srcCells ⟨bs.set id [bif false then .bz id 71 3 else .ptr id 0, buf, nm], ts⟩ 1 (SS w) = some (w.map fun b => .pv (.sc (.int .u8 b.toNat))) := by
    simp [srcCells]
  refine wApp_bytes hb hrt hl hsrc ?_
  intro a' ts' ha'
  have := al buf ts'
  refine ⟨al _ _, al _ _, ?_⟩
  have e1 := ha'.cells
  have e2 := ha'.ok
  have e3 := ha'.noBlk
  have gg := g0 buf
  simp only [FBlk] at gg
  simp only [wSt, gg, wO, e1]
  refine ⟨⟨rfl, by simp, by simp [LFE, hro], by simp [e2], .inl (by simp [LFE]), by omega⟩, ?_⟩
  simp only [setCells, ss]
  simp only [wSlen]
  have e5 : bs.set id ([bif false then .bz id 71 3 else .ptr id 0, buf, nm].set (0 + 1) a') = bs.set id (FBlk id false a' nm) := rfl
  rw [e5]
  have hq := okS_fb hs ha' hnm hlt []
  simp only [aLs0056] at hq
  have etk : (bs.set id (FBlk id false a' nm)).take bs.length = bs.set id (FBlk id false a' nm) := aLs0019 (by simp)
  exact QM_tuple (ds := [I64 w.length, .pv (.sc .nilIface)]) hq (by simp [closeL, close]) ⟨false, a', ts', by rw [etk], ha'⟩
theorem writeByte_spec {bs : List (List AV)} {id : Nat} {z : Bool} {buf nm : AV} {names : List (List PV)} {ts : List (Nat × TypeId)} {out : List UInt8} {c : UInt8} (hid : bs[id]? = some (FBlk id z buf nm)) (hs : OkS ⟨bs, []⟩) (hb : BufR ts out buf) (hnm : RowsA nm names) (hl : out.length + 1 ≤ 2 ^ 40) {L : Lim} (hro : L.ro = 0) (hrt : L.rt = 0) :
    ∃ v s', Wrote bs id nm (out ++ [c]) s' ∧ CallE (env R) L 60 [.ptr id 0, .pv (.sc (.int .u8 c.toNat))] ⟨bs, ts⟩ v s' := by
  have hlt : id < bs.length := (aLs0014.1 hid).1
  refine m60 (by simp [noIdL, noId]) (p60_0 ?_)
  refine ⟨_, _, copy_call hid (L := LFE (env R) 60 0 L.ro L.rt) hro rfl, ?_⟩
  have g0 : ∀ buf', (bs.set id (FBlk id false buf' nm))[id]? = some (FBlk id false buf' nm) := fun buf' => by simp [hlt]
  have ss : ∀ b b' : List AV, (bs.set id b).set id b' = bs.set id b' := fun b b' => by simp
  have al : ∀ buf' t, alive ⟨bs.set id (FBlk id false buf' nm), t⟩ id = true := fun buf' t => by have := g0 buf'; simp only [alive, this]; rfl
  refine ⟨al _ _, al _ _, ?_⟩
  simp only [wLd, g0, wO, wPart, xL, xM, xF, xG]
  simp only [FBlk, aLs0027, aLs0017, aLs0031]
  have hb1 : ∀ (s : Sto) (K : AV → Sto → Prop), K (.capped [[.sc (.int .u8 c.toNat)]]) s → wBsl false s 1 [(.pv (.sc (.int .u8 0)))] 1 [(0, 1, .pv (.sc (.int .u8 c.toNat)))] K := by
    intro s K hK
    simp [wBsl, repl, fillS, wO, toPVs, toPV, rowsBy, setCells, cellsOf, okCell]
    exact hK
  refine hb1 _ _ ⟨by simp, ?_⟩
  have hsrc : srcCells ⟨bs.set id [bif false then .bz id 71 3 else .ptr id 0, buf, nm], ts⟩ 1 (.capped [[.sc (.int .u8 c.toNat)]]) = some ([c].map fun b => .pv (.sc (.int .u8 b.toNat))) := by
    simp [srcCells, rowsOf]
  refine wApp_bytes hb hrt (by simpa using hl) hsrc ?_
  intro a' ts' ha'
  refine ⟨al _ _, al _ _, ?_⟩
  have e1 := ha'.cells
  have e2 := ha'.ok
  have e3 := ha'.noBlk
  have gg := g0 buf
  simp only [FBlk] at gg
  simp only [wSt, gg, wO, e1]
  refine ⟨⟨rfl, by simp, by simp [LFE, hro], by simp [e2], .inl (by simp [LFE]), by omega⟩, ?_⟩
  simp only [setCells, ss]
  have e5 : bs.set id ([bif false then .bz id 71 3 else .ptr id 0, buf, nm].set (0 + 1) a') = bs.set id (FBlk id false a' nm) := rfl
  rw [e5]
  have hq := okS_fb hs ha' hnm hlt []
  simp only [aLs0056] at hq
  have etk : (bs.set id (FBlk id false a' nm)).take bs.length = bs.set id (FBlk id false a' nm) := aLs0019 (by simp)
  exact QM_pv hq ⟨false, a', ts', by rw [etk], ha'⟩
end
section
variable {R : Nat → Option (List PV)}
def Wr (R : Nat → Option (List PV)) (f : FuncId) (args : List AV) (nm : AV) (w : List UInt8) : Prop := ∀ (bs : List (List AV)) (id : Nat) (z : Bool) (buf : AV) (ts : List (Nat × TypeId)) (out : List UInt8) (L : Lim),
  bs[id]? = some (FBlk id z buf nm) → OkS ⟨bs, []⟩ → BufR ts out buf → out.length + w.length ≤ 2 ^ 40 → L.ro = 0 → L.rt = 0 → ∃ v s', Wrote bs id nm (out ++ w) s' ∧ CallE (env R) L f (.ptr id 0 :: args) ⟨bs, ts⟩ v s'
theorem wr_string {nm : AV} {names : List (List PV)} (hnm : RowsA nm names) (w : List UInt8) : Wr R 56 [SS w] nm w :=
  fun _ _ _ _ _ _ _ h1 h2 h3 h4 h5 h6 => writeString_spec h1 h2 h3 hnm h4 h5 h6
theorem wr_byte {nm : AV} {names : List (List PV)} (hnm : RowsA nm names) (c : UInt8) : Wr R 60 [.pv (.sc (.int .u8 c.toNat))] nm [c] :=
  fun _ _ _ _ _ _ _ h1 h2 h3 h4 h5 h6 => writeByte_spec h1 h2 h3 hnm (by simpa using h4) h5 h6
def Fs (bs : List (List AV)) (id : Nat) (nm : AV) (out : List UInt8) (more : List (List AV)) (s : Sto) : Prop := ∃ z buf ts, s = ⟨bs.set id (FBlk id z buf nm) ++ more, ts⟩ ∧ BufR ts out buf
variable {bs : List (List AV)} {id : Nat} {nm : AV} {out w : List UInt8} {more : List (List AV)} {s : Sto}
theorem Fs.first {z : Bool} {buf : AV} {ts : List (Nat × TypeId)} (hid : bs[id]? = some (FBlk id z buf nm)) (hb : BufR ts out buf) (more : List (List AV)) : Fs bs id nm out more ⟨bs ++ more, ts⟩ := by
  refine ⟨z, buf, ts, ?_, hb⟩
  obtain ⟨hl, e⟩ := aLs0014.1 hid
  rw [← e]
  simp
theorem FBlk_ids' {z : Bool} {buf : AV} {ts : List (Nat × TypeId)} {names : List (List PV)} {n : Nat} (hb : BufR ts out buf) (hnm : RowsA nm names) (h : id < n) : idsLtL n (FBlk id z buf nm) = true := by
  cases z <;> simp [FBlk, idsLtL, idsLt, hb.idsLt, hnm.idsLt, h]
theorem okS_fs {z : Bool} {buf : AV} {ts : List (Nat × TypeId)} {names : List (List PV)} (hs : OkS ⟨bs, []⟩) (hb : BufR ts out buf) (hnm : RowsA nm names) (hlt : id < bs.length) (hm : ∀ b ∈ more, ∀ n, idsLtL n b = true) : OkS ⟨bs.set id (FBlk id z buf nm) ++ more, []⟩ := by
  intro x hx
  rcases aLs0016.1 hx with h | h
  · rcases aLs0053 h with h | h
    · exact idsLtL_mono (by simp) _ (hs x h)
    · rw [h]; exact FBlk_ids' hb hnm (by simp; omega)
  · exact hm x h _
theorem Fs.wr {names : List (List PV)} {f : FuncId} {args : List AV} (hF : Fs bs id nm out more s) (hW : Wr R f args nm w) (hs : OkS ⟨bs, []⟩) (hnm : RowsA nm names) (hlt : id < bs.length) (hm : ∀ b ∈ more, ∀ n, idsLtL n b = true) (hl : out.length + w.length ≤ 2 ^ 40) {L : Lim} (hro : L.ro = 0) (hrt : L.rt = 0) {K : AV → Sto → Prop}
    (h : ∀ v s', Fs bs id nm (out ++ w) more s' → K v s') : wCall (env R) L (.func (.func f) [] []) (.ptr id 0 :: args) s K := by
  obtain ⟨z, buf, ts, rfl, hb⟩ := hF
  have hg : (bs.set id (FBlk id z buf nm) ++ more)[id]? = some (FBlk id z buf nm) := by
    rw [aLs0012 (by simpa using hlt)]
    simp [hlt]
  obtain ⟨v, s', ⟨z', buf', ts', rfl, hb'⟩, hc⟩ := hW _ id z buf ts out L hg (okS_fs hs hb hnm hlt hm) hb hl hro hrt
  have e : (bs.set id (FBlk id z buf nm) ++ more).set id (FBlk id z' buf' nm) = bs.set id (FBlk id z' buf' nm) ++ more := by
    rw [List.set_append_left _ _ (by simpa using hlt)]
    simp
  rw [e] at hc
  exact ⟨v, _, by simpa using hc, h v _ ⟨z', buf', ts', rfl, hb'⟩⟩
theorem Fs.nil (hF : Fs bs id nm out more s) (hlt : id < bs.length) {K : AV → Prop} (h : K (.ptr id 0)) : wNil s (.ptr id 0) K := by
  obtain ⟨z, buf, ts, rfl, hb⟩ := hF
  have hg : (bs.set id (FBlk id z buf nm) ++ more)[id]? = some (FBlk id z buf nm) := by
    rw [aLs0012 (by simpa using hlt)]
    simp [hlt]
  refine ⟨?_, h⟩
  simp only [alive, hg]
  rfl
theorem Fs.fad (hF : Fs bs id nm out more s) (hlt : id < bs.length) {d : Nat} {K : AV → Prop} (h : K (.ptr id d)) : wFad s (.ptr id 0) d K := by
  obtain ⟨z, buf, ts, rfl, hb⟩ := hF
  have hg : (bs.set id (FBlk id z buf nm) ++ more)[id]? = some (FBlk id z buf nm) := by
    rw [aLs0012 (by simpa using hlt)]
    simp [hlt]
  refine ⟨?_, by simpa using h⟩
  simp only [alive, hg]
  rfl
theorem Fs.get (hF : Fs bs id nm out more s) (j : Nat) : s.bs[bs.length + j]? = more[j]? := by
  obtain ⟨z, buf, ts, rfl, hb⟩ := hF
  exact mid_get _ _ _
theorem Fs.get0 (hF : Fs bs id nm out more s) : s.bs[bs.length]? = more[0]? := hF.get 0
theorem Fs.bfad {b : List AV} (hF : Fs bs id nm out (b :: more) s) {c : AV} {r : List AV} (hb : b = c :: r) {d : Nat} {K : AV → Prop} (h : K (.ptr bs.length d)) : wFad s (.ptr bs.length 0) d K := by
  refine ⟨?_, by simpa using h⟩
  simp only [alive, hF.get0, aLs0017, hb]
theorem Fs.bld {b : List AV} (hF : Fs bs id nm out (b :: more) s) {d : Nat} {c : AV} (hc : b[d]? = some c) {K : AV → Prop} (h : K c) : wLd (env R) s none (.ptr bs.length d) K := by
  simp only [wLd, hF.get0, aLs0017, wO, wPart, hc, xL, xM, xF, xG]
  exact h
theorem Fs.fin {names : List (List PV)} (hF : Fs bs id nm out more s) (hs : OkS ⟨bs, []⟩) (hnm : RowsA nm names) (hlt : id < bs.length) {rr : Bool} {Post : AV → Sto → Prop} (h : ∀ s', Wrote bs id nm out s' → Post (.tuple []) s') : QM rr bs.length Post (.tuple []) s := by
  obtain ⟨z, buf, ts, rfl, hb⟩ := hF
  refine QM_tuple (ds := []) ?_ (by simp [closeL]) (h _ ⟨z, buf, ts, by simp only [take_set], hb⟩)
  rw [take_set, aLs0015]
  intro x hx
  rcases aLs0053 hx with h | h
  · exact hs x h
  · rw [h]; exact FBlk_ids' hb hnm hlt
theorem Fs.push (hF : Fs bs id nm out more s) (b : List AV) : Fs bs id nm out (more ++ [b]) ⟨s.bs ++ [b], s.ts⟩ := by
  obtain ⟨z, buf, ts, rfl, hb⟩ := hF
  exact ⟨z, buf, ts, by simp, hb⟩
theorem Fs.toks (hF : Fs bs id nm out more s) (x : List (Nat × TypeId)) : Fs bs id nm out more ⟨s.bs, s.ts ++ x⟩ := by
  obtain ⟨z, buf, ts, rfl, hb⟩ := hF
  refine ⟨z, buf, ts ++ x, rfl, ?_⟩
  rcases hb with h | ⟨t, h1, h2⟩
  · exact .inl h
  · exact .inr ⟨t, h1, by rw [aLs0012 (aLs0014.1 h2).1, h2]⟩
theorem Fs.len (hF : Fs bs id nm out more s) : s.bs.length = bs.length + more.length := by
  obtain ⟨z, buf, ts, rfl, hb⟩ := hF
  simp
end
attribute [local simp] wNew wBox wBoxZ markT wCond wBuild fillS wO setCells wSt wLd wPart LFE wFad alive wInt wStr wGK wGd wPick wExt wLen wSlen wNot wNil okI ceI okB ceB okS ceS okL ceL okC ceC okO ceO okP ceP okG ceG okE ceE okR ceR okF ceF okX ceX okM ceM okN ceN okNf ceNf okNi ceNi ceA roL roC roO leL leC leO tpP tpC tpO clP clC clO clF clA clT clN clL nbP nbC nbO nbN nbL toPVs g0 g1 xI xL xM xF xG xC lf Y4 Y5
def varT (sc : List (List UInt8)) (i : Int) : List UInt8 := match sc[((sc.length : Int) - 1 - i).toNat]? with
  | some w => bif decide (i < sc.length) then w else 36 :: dig (i - sc.length).toNat
  | none => 36 :: dig (i - sc.length).toNat
def hdT (k : Int) (n : List UInt8) : List UInt8 := bif k == 2 then n else bif k == 3 then [116, 117, 112, 108, 101] else [117, 110, 105, 111, 110]
mutual
def fmt (N : List (List UInt8)) : Ty → List (List UInt8) → List UInt8
  | .mk k n i ts, sc =>
    bif k == 0 then [65, 110, 121]
    else bif k == 1 then [78, 101, 118, 101, 114]
    else bif k == 5 then varT sc i
    else bif k == 6 then
      match ts with
      | [b, body] => [40, 101, 120, 105, 115, 116, 115, 32] ++ fresh (N ++ sc) ++ [32] ++ fmt N b [] ++ [32] ++ fmt N body (sc ++ [fresh (N ++ sc)]) ++ [41]
      | _ => []
    else bif k == 2 && ts.length == 0 then n
    else [40] ++ hdT k n ++ fmtL N ts sc ++ [41]
def fmtL (N : List (List UInt8)) : List Ty → List (List UInt8) → List UInt8
  | [], _ => []
  | t :: l, sc => [32] ++ fmt N t sc ++ fmtL N l sc
end
theorem fmt_eq (N : List (List UInt8)) (k : Int) (n : List UInt8) (i : Int) (ts : List Ty) (sc : List (List UInt8)) (h6 : k ≠ 6) : fmt N (.mk k n i ts) sc =
    bif k == 0 then [65, 110, 121]
    else bif k == 1 then [78, 101, 118, 101, 114]
    else bif k == 5 then varT sc i
    else bif k == 2 && ts.length == 0 then n
    else [40] ++ hdT k n ++ fmtL N ts sc ++ [41] := by
  have b6 : (k == 6) = false := by simpa using h6
  rcases ts with _ | ⟨b, _ | ⟨body, _ | ⟨z, r⟩⟩⟩ <;> rw [fmt] <;> first
    | (simp only [b6, aLs0009])
    | (intro b body h
       simp at h)
theorem fmt_ex (N : List (List UInt8)) (n : List UInt8) (i : Int) (b body : Ty) (sc : List (List UInt8)) : fmt N (.mk 6 n i [b, body]) sc =
    [40, 101, 120, 105, 115, 116, 115, 32] ++ fresh (N ++ sc) ++ [32] ++ fmt N b [] ++ [32] ++ fmt N body (sc ++ [fresh (N ++ sc)]) ++ [41] := by
  rw [fmt]
  rfl
theorem fmt_bad (N : List (List UInt8)) (n : List UInt8) (i : Int) (ts : List Ty) (sc : List (List UInt8)) (h : ts.length ≠ 2) : fmt N (.mk 6 n i ts) sc = [] := by
  rcases ts with _ | ⟨b, _ | ⟨body, _ | ⟨z, r⟩⟩⟩ <;> first
    | exact absurd rfl h
    | (rw [fmt]
       · rfl
       · intro b body h
         simp at h)
mutual
def smallV : Ty → Bool
  | .mk k _ i ts => (!(k == 5) || decide (i < 100)) && smallVs ts
def smallVs : List Ty → Bool
  | [] => true
  | t :: l => smallV t && smallVs l
end
theorem validL_mem : ∀ {l : List Ty} {a : Ty}, validL l = true → a ∈ l → valid a = true
  | [], _, _, h => by cases h
  | b :: l, a, h1, h => by
    simp only [validL, aLs0002] at h1
    rcases aLs0006.1 h with rfl | h
    · exact h1.1
    · exact validL_mem h1.2 h
theorem depth_mem : ∀ {l : List Ty} {a : Ty}, a ∈ l → depth a ≤ depthL l
  | [], _, h => by cases h
  | b :: l, a, h => by
    simp only [depthL]
    rcases aLs0006.1 h with rfl | h
    · omega
    · have := depth_mem h; omega
section
variable {R : Nat → Option (List PV)}
def FmtS (R : Nat → Option (List PV)) (N : List (List UInt8)) (nm : AV) (t : Ty) (sc : List (List UInt8)) (v : AV) : Prop := ∀ (x : AV), TRep t x → Wr R 30 [x, v] nm (fmt N t sc)
theorem list_wr {N : List (List UInt8)} {nm : AV} {names : List (List PV)} (hnm : RowsA nm names) {ts : List Ty} {a v : AV} {sc : List (List UInt8)} (ha : RowsA a (rowsT ts)) (hl : ts.length < 2 ^ 30) {hd : List UInt8} (ih : ∀ t ∈ ts, FmtS R N nm t sc v) : Wr R 57 [SS hd, a, v] nm ([40] ++ hd ++ fmtL N ts sc ++ [41]) := by
  intro bs id z buf tk out L hid hs hb hlen hro hrt
  have hlt : id < bs.length := (aLs0014.1 hid).1
  simp only [aLs0011, aLs0010, aLs0020] at hlen
  refine m57 (by simp [noIdL, noId]) (p57_0 ?_)
  have hF0 : Fs bs id nm out [] ⟨bs, tk⟩ := by
    have := Fs.first hid hb []
    simpa using this
  refine hF0.nil hlt (hF0.fad hlt (st_add (by simp; omega) ?_))
  refine hF0.wr (wr_string hnm ([40] ++ hd)) hs hnm hlt (fun b h => by cases h) (by simp; omega) (by simp [LFE, hro]) (by simp [LFE, hrt]) ?_
  intro v1 s1 hF1
  have hlenA : ∀ (s : Sto) (K : AV → Prop), K (I64 ts.length) → wLen s a K := by
    intro s K h
    simp only [wLen, ha.lenA, wO, rowsT_len]
    exact h
  refine hlenA _ _ ?_
  suffices H : ∀ (j i : Nat) (more : List (List AV)) (s : Sto) (don : List UInt8), i + j = ts.length → Fs bs id nm (out ++ ([40] ++ hd) ++ don) more s → (∀ b ∈ more, ∀ n, idsLtL n b = true) → don ++ fmtL N (ts.drop i) sc = fmtL N ts sc →
      P57_1 R 0 L.ro L.rt (.ptr id 0) v a (I64 ts.length) (I64 i) s (QM (L.rr 57) bs.length fun _ s' => Wrote bs id nm (out ++ ([40] ++ hd ++ fmtL N ts sc ++ [41])) s') by
    have := H ts.length 0 [] s1 [] (by omega) (by simpa using hF1) (fun b h => by cases h) (by simp)
    simpa using this
  intro j
  induction j with
  | zero =>
    intro i more s don hi hF hm hd'
    refine p57_1 (in_lss ?_)
    have h1 : ¬ ((i : Int) < ts.length) := by omega
    simp only [h1, aLs0080]
    have h2 : ts.drop i = [] := aLs0024 (by omega)
    rw [h2] at hd'
    simp only [fmtL, aLs0056] at hd'
    subst hd'
    refine co_f (p57_3 (hF.nil hlt (hF.fad hlt ?_)))
    refine hF.wr (wr_byte hnm 41) hs hnm hlt hm (by simp; omega) (by simp [LFE, hro]) (by simp [LFE, hrt]) ?_
    intro v2 s2 hF2
    refine hF2.fin hs hnm hlt fun s' h => ?_
    simpa using h
  | succ j ihj =>
    intro i more s don hi hF hm hd'
    refine p57_1 (in_lss ?_)
    have h1 : ((i : Int) < ts.length) := by omega
    simp only [h1, aLs0087]
    refine co_t (p57_2 ?_)
    obtain ⟨t, ht⟩ : ∃ t, ts[i]? = some t := ⟨_, aLs0008 (by omega)⟩
    rw [drop_cons ht] at hd'
    simp only [fmtL] at hd'
    have hsum : (fmtL N ts sc).length = don.length + 1 + (fmt N t sc).length + (fmtL N (ts.drop (i + 1)) sc).length := by
      rw [← hd']
      simp
      omega
    refine wIdx_rows ha (row := rowT t) (by omega) (by simpa using rowsT_get ht) (rowT_len t) (by omega) (ld_row (rowT_len t) ?_)
    have hrep := TRep.of_row t
    have hF' := hF.push [I64 0, SS [], I64 0, .capped []]
    have hlen' := hF.len
    simp only [wNew]
    obtain ⟨k, n, x, es⟩ := t
    have hF2 := hF.push ((rowT (.mk k n x es)).map .pv)
    have hst : ∀ K : Sto → Prop, K ⟨s.bs ++ [(rowT (.mk k n x es)).map .pv], s.ts⟩ → wSt (LFE (env R) 57 0 L.ro L.rt) ⟨s.bs ++ [[I64 0, SS [], I64 0, .capped []]], s.ts⟩ 4 (.ptr s.bs.length 0) (.agg ((rowT (.mk k n x es)).map .pv)) K := by
      intro K h
      simp [rowT, hro]
      simpa [rowT] using h
    refine hst _ ?_
    have hld : ∀ (t : List (Nat × TypeId)) (s' : Sto), s'.bs[s.bs.length]? = some ((rowT (.mk k n x es)).map .pv) → ∀ K : AV → Prop, K (.agg ((rowT (.mk k n x es)).map .pv)) → wLd (env R) s' (some 4) (.ptr s.bs.length 0) K := by
      intro t s' hg K h
      simp only [wLd, hg, wO, wPart, aLs0062, rowT_len, aLs0040, xL, xM, xF, xG]
      refine ⟨by omega, ?_⟩
      rw [aLs0019 (by simp [rowT_len])]
      exact h
    refine hF2.nil hlt (hF2.fad hlt ?_)
    have hm2 : ∀ b ∈ more ++ [(rowT (.mk k n x es)).map .pv], ∀ n, idsLtL n b = true := by
      intro b hb' n'
      rcases aLs0016.1 hb' with h | h
      · exact hm b h n'
      · simp only [aLs0006, aLs0048, aLs0049] at h
        rw [h]
        simp [rowT, idsLtL, idsLt]
    refine hF2.wr (wr_byte hnm 32) hs hnm hlt hm2 (by simp; omega) (by simp [LFE, hro]) (by simp [LFE, hrt]) ?_
    intro v3 s3 hF3
    refine hld [] s3 (by rw [hlen', hF3.get]; simp) _ ?_
    refine hF3.wr (ih _ (aLs0013 ht) _ hrep) hs hnm hlt hm2 (by simp; omega) (by simp [LFE, hro]) (by simp [LFE, hrt]) ?_
    intro v4 s4 hF4
    refine p57_4 (in_add (by omega) (by omega) ?_)
    have := ihj (i + 1) _ s4 (don ++ ([32] ++ fmt N (.mk k n x es) sc)) (by omega) (by simpa using hF4) hm2 (by rw [← hd']; simp)
    simpa using this
end
theorem root_kind {k i : Int} {n : List UInt8} {ts : List Ty} (h : root k n i ts = true) : (k = 0 ∨ k = 1 ∨ k = 2 ∨ k = 3 ∨ k = 4 ∨ k = 5 ∨ k = 6) ∧ (k = 5 → 0 ≤ i ∧ i ≤ 200) ∧ (k = 6 → ts.length = 2) := by
  simp only [root, aLs0002] at h
  have h3 := h.2
  unfold shape at h3
  by_cases h0 : k = 0
  · subst h0; simp
  by_cases h1 : k = 1
  · subst h1; simp
  by_cases h2 : k = 2
  · subst h2; simp
  by_cases h3' : k = 3
  · subst h3'; simp
  by_cases h4 : k = 4
  · subst h4; simp
  by_cases h5 : k = 5
  · subst h5
    simp at h3
    exact ⟨by simp, fun _ => ⟨h3.1.2, h3.2⟩, by simp⟩
  by_cases h6 : k = 6
  · subst h6
    simp at h3
    exact ⟨by simp, by simp, fun _ => h3.1⟩
  simp [h0, h1, h2, h3', h4, h5, h6] at h3
section
variable {R : Nat → Option (List PV)}
theorem cloneO_spec {vars : List (List UInt8)} {v : AV} (hv : RowsO v (strRows vars)) (h0 : vars = [] → RowsA v []) (hl : vars.length < 2 ^ 40) {L : Lim} {s : Sto} (hrt : L.rt ≤ s.ts.length) :
    ∃ r s', (∃ x', s' = ⟨s.bs, s.ts ++ x'⟩ ∧ Apd s.ts.length (s.ts ++ x') 9 r (strRows vars)) ∧ CallE (env R) L 61 [v] s r s' := by
  rcases hv with hv | ⟨t, rfl⟩
  · exact cloneS_spec hv hl hrt
  cases vars with
  | nil =>
    have := h0 rfl
    rcases this with h | h <;> simp at h
  | cons w l =>
    have he : emptyArg [AV.own t (strRows (w :: l))] = false := rfl
    have key : P61_0 R L.n0 L.ro L.rt (.own t (strRows (w :: l))) s (fun r s' => ∃ x', s' = ⟨s.bs, s.ts ++ x'⟩ ∧ Apd s.ts.length (s.ts ++ x') 9 r (strRows (w :: l))) := by
      refine p61_0 ?_
      have hnn : ∀ K : AV → Prop, K (BB false) → wNeN s (some 1) (nilV (.own t (strRows (w :: l)))) (some 1) .eql (.own t (strRows (w :: l))) (.capped []) K := by
        intro K h
        refine ⟨?_, h⟩
        rfl
      refine hnn _ ⟨by simp, fun _ => p61_1 ?_⟩
      simp [wBsl, repl, fillS, wO, toPVs, rowsBy]
      have hL : (strRows (w :: l)).length = l.length + 1 := by simp [strRows]
      simp only [aLs0010] at hl
      have := wApp_rows (L := LFE (env R) 61 L.n0 L.ro L.rt) (bs := s.bs) (ts := s.ts) (x := []) (e := 9) (k := 1) (bytes := 16) (a := .capped []) (y := .own t (strRows (w :: l))) (rows := []) (m := strRows (w :: l))
        (K := fun r s' => ∃ x', s' = ⟨s.bs, s.ts ++ x'⟩ ∧ Apd s.ts.length (s.ts ++ x') 9 r (strRows (w :: l))) (.inl rfl) hrt (by simp) strRows_row (by omega) (srcCells_rows (.inr ⟨t, rfl⟩) strRows_row) strRows_ok (by rw [hL]; simp; omega) (by rw [hL]; simp; omega)
        (fun a x h => ⟨x, rfl, by simpa using h⟩)
      simpa using this
    exact call_esc2 (fn := Tryz.f61) (body := b61) Tryz.func61 (by kernel_rfl) (by kernel_rfl) (by kernel_rfl) (by kernel_rfl) he (aLs0022 (by kernel_rfl)) (mpK key (by kernel_rfl))
theorem containsO_spec {l : List (List UInt8)} {w : List UInt8} {y : AV} (hy : RowsO y (strRows l)) (hl : l.length < 2 ^ 60) : PureC (env R) 84 [y, SS w] fun r => r = BB (l.contains w) := by
  obtain ⟨y', hc, hr⟩ := hy.closed ([] : List (List AV)) 0
  exact PureC.of_closed (args' := [y', SS w]) (by kernel_rfl) (by kernel_rfl) (by simp [hc]) (by simp [hr.close]) (containsS_spec hr hl)
theorem fresh_call {bs : List (List AV)} {id : Nat} {nm sc : AV} {out : List UInt8} {more : List (List AV)} {N S : List (List UInt8)} {s : Sto} (hF : Fs bs id nm out more s) (hlt : id < bs.length) (hs : OkS ⟨bs, []⟩) (hm : ∀ b ∈ more, ∀ n, idsLtL n b = true) (hnm : RowsA nm (strRows N)) (hsc : RowsO sc (strRows S)) (hN : N.length + S.length < 260)
    {L : Lim} {K : AV → Sto → Prop} (h : K (SS (fresh (N ++ S))) s) : wCall (env R) L (.func (.func 59) [] []) [.ptr id 0, sc] s K := by
  obtain ⟨z, buf, ts, rfl, hb⟩ := hF
  have hg : (bs.set id (FBlk id z buf nm) ++ more)[id]? = some (FBlk id z buf nm) := by
    rw [aLs0012 (by simpa using hlt)]
    simp [hlt]
  have hok := okS_fs (z := z) (more := more) hs hb hnm hlt hm
  refine wCall_do (Post := fun v s' => v = SS (fresh (N ++ S)) ∧ s' = ⟨bs.set id (FBlk id z buf nm) ++ more, ts⟩) (m59 (by simp [noIdL, noId]) (p59_0 ?_)) ?_
  · refine fresh_loop (N := N) (S := S) hg hnm (by omega) (by omega) (fun w => ?_) 259 0 (by omega) (fresh_new (by rw [aLs0011]; exact hN)) ?_
    · obtain ⟨r, h1, h2⟩ := containsO_spec (R := R) (w := w) hsc (by omega)
      exact ⟨r, h1, h2⟩
    · refine QM_pv ?_ ⟨rfl, ?_⟩
      · rw [aLs0019 (aLs0005 _), aLs0015]
        exact fun x hx => hok x hx
      · simp only
        rw [aLs0019 (aLs0005 _)]
  · rintro v s' ⟨rfl, rfl⟩
    exact h
mutual
theorem fmt_spec {N : List (List UInt8)} {nm : AV} (hnm : RowsA nm (strRows N)) : ∀ (t : Ty), valid t = true → smallV t = true → ∀ (sc : List (List UInt8)) (v : AV), RowsO v (strRows sc) → (sc = [] → RowsA v []) → N.length + sc.length + depth t < 260 → size t < 2 ^ 30 → FmtS R N nm t sc v
  | .mk k n i ts, hv, hsm, sc, v, hsc, hsc0, hlen, hsz => by
    intro x hx bs id z buf tk out L hid hs hb hl hro hrt
    obtain ⟨a, rfl, ha⟩ := hx
    have hlt : id < bs.length := (aLs0014.1 hid).1
    simp only [valid, aLs0002] at hv
    simp only [smallV, aLs0002] at hsm
    simp only [depth] at hlen
    obtain ⟨hkind, hk5, hk6⟩ := root_kind hv.1
    have ih := fmts_spec hnm ts hv.2 hsm.2
    simp only [size] at hsz
    have h6 : ts.length < 2 ^ 30 := by have := sizeL_len ts; omega
    refine m30 (by simp [noIdL, noId]) (p30_0 ?_)
    have hbox : ∀ K : AV → Sto → Prop, K (.ptr bs.length 0) ⟨bs ++ [[I64 k, SS n, I64 i, a]], tk⟩ → wBox ⟨bs, tk⟩ (.agg [I64 k, SS n, I64 i, a]) K := by
      intro K h
      simp only [wBox, wNew]
      refine ⟨?_, h⟩
      simp [ha.ok]
    refine hbox _ ?_
    have hF : Fs bs id nm out [[I64 k, SS n, I64 i, a]] ⟨bs ++ [[I64 k, SS n, I64 i, a]], tk⟩ := Fs.first hid hb _
    have hm : ∀ b ∈ [[I64 k, SS n, I64 i, a]], ∀ m, idsLtL m b = true := by
      intro b hb' m
      simp only [aLs0006, aLs0048, aLs0049] at hb'
      rw [hb']
      simp [idsLtL, idsLt, ha.idsLt]
    have ro' : (LFE (env R) 30 0 L.ro L.rt).ro = 0 := hro
    have rt' : (LFE (env R) 30 0 L.ro L.rt).rt = 0 := hrt
    have one : ∀ w : List UInt8, fmt N (.mk k n i ts) sc = w → wNil ⟨bs ++ [[I64 k, SS n, I64 i, a]], tk⟩ (.ptr id 0) fun a13 => wFad ⟨bs ++ [[I64 k, SS n, I64 i, a]], tk⟩ a13 0 fun a14 => wCall (env R) (LFE (env R) 30 0 L.ro L.rt) (.func (.func 56) [] []) [a14, SS w] ⟨bs ++ [[I64 k, SS n, I64 i, a]], tk⟩ fun a15 s1 =>
        QM (L.rr 30) bs.length (fun _ s' => Wrote bs id nm (out ++ fmt N (.mk k n i ts) sc) s') (.tuple []) s1 := by
      intro w hw
      refine hF.nil hlt (hF.fad hlt ?_)
      rw [hw] at hl
      refine hF.wr (wr_string hnm w) hs hnm hlt hm hl ro' rt' ?_
      intro v1 s1 hF1
      refine hF1.fin hs hnm hlt fun s' h => ?_
      rw [hw]
      exact h
    refine hF.bfad rfl (hF.bld rfl (in_eql ?_))
    have lst : ∀ hd : List UInt8, fmt N (.mk k n i ts) sc = [40] ++ hd ++ fmtL N ts sc ++ [41] → wCall (env R) (LFE (env R) 30 0 L.ro L.rt) (.func (.func 57) [] []) [.ptr id 0, SS hd, a, v] ⟨bs ++ [[I64 k, SS n, I64 i, a]], tk⟩ fun a28 s1 =>
        QM (L.rr 30) bs.length (fun _ s' => Wrote bs id nm (out ++ fmt N (.mk k n i ts) sc) s') (.tuple []) s1 := by
      intro hd hw
      rw [hw] at hl
      refine hF.wr (list_wr hnm (hd := hd) ha h6 (fun t ht => ih t ht sc v hsc hsc0 (by have := depth_mem ht; omega) (by have := size_mem ht; omega))) hs hnm hlt hm hl ro' rt' ?_
      intro v1 s1 hF1
      refine hF1.fin hs hnm hlt fun s' h => ?_
      rw [hw]
      exact h
    by_cases h0 : k = 0
    · subst h0
      exact co_t (one _ (by rw [fmt_eq _ _ _ _ _ _ (by omega)]; rfl))
    have b0 : (k == 0) = false := by simpa using h0
    rw [b0]
    refine co_f (in_eql ?_)
    by_cases h1 : k = 1
    · subst h1
      exact co_t (one _ (by rw [fmt_eq _ _ _ _ _ _ (by omega)]; rfl))
    have b1 : (k == 1) = false := by simpa using h1
    rw [b1]
    refine co_f (in_eql ?_)
    by_cases h3 : k = 3
    · subst h3
      refine co_t (hF.bfad rfl (hF.bld rfl ?_))
      exact lst _ (by rw [fmt_eq _ _ _ _ _ _ (by omega)]; rfl)
    have b3 : (k == 3) = false := by simpa using h3
    rw [b3]
    refine co_f (in_eql ?_)
    by_cases h4 : k = 4
    · subst h4
      refine co_t (hF.bfad rfl (hF.bld rfl ?_))
      exact lst _ (by rw [fmt_eq _ _ _ _ _ _ (by omega)]; rfl)
    have b4 : (k == 4) = false := by simpa using h4
    rw [b4]
    refine co_f (in_eql ?_)
    by_cases h5 : k = 5
    · subst h5
      obtain ⟨hi0, hi200⟩ := hk5 rfl
      have hi100 : i < 100 := by simpa using hsm.1
      refine co_t ?_
      have hlenS : ∀ (s : Sto) (K : AV → Prop), K (I64 sc.length) → wLen s v K := by
        intro s K h
        simp only [wLen, hsc.lenA, wO, strRows_len]
        exact h
      have hw : fmt N (.mk 5 n i ts) sc = varT sc i := by
        rw [fmt_eq _ _ _ _ _ _ (by omega)]
        rfl
      rw [hw] at hl ⊢
      refine hlenS _ _ (in_sub (by omega) (by omega) (hF.bfad rfl (hF.bld rfl (in_sub (by omega) (by omega) (in_geq ?_)))))
      by_cases hc : (sc.length : Int) - 1 - i ≥ 0
      · have bc : decide ((sc.length : Int) - 1 - i ≥ 0) = true := by simpa using hc
        rw [bc]
        obtain ⟨w, hw'⟩ : ∃ w, sc[((sc.length : Int) - 1 - i).toNat]? = some w := ⟨_, aLs0008 (by omega)⟩
        have hv' : varT sc i = w := by
          unfold varT
          rw [hw']
          have : decide (i < (sc.length : Int)) = true := by simp; omega
          simp [this]
        rw [hv'] at hl ⊢
        refine co_t (hF.nil hlt (hF.fad hlt ?_))
        refine wIdx_rowsO hsc (row := [.sc (.string ⟨w.toArray⟩)]) (by omega) (by simpa using strRows_get hw') rfl (by omega) (ld_str ?_)
        refine hF.wr (wr_string hnm w) hs hnm hlt hm hl ro' rt' ?_
        intro v1 s1 hF1
        exact hF1.fin hs hnm hlt fun s' h => h
      · have bc : decide ((sc.length : Int) - 1 - i ≥ 0) = false := by simpa using hc
        rw [bc]
        obtain ⟨j, hj⟩ := aLs0081 (show 0 ≤ i - (sc.length : Int) by omega)
        have hv' : varT sc i = 36 :: dig j := by
          unfold varT
          have : decide (i < (sc.length : Int)) = false := by simp; omega
          rw [hj]
          cases sc[((sc.length : Int) - 1 - i).toNat]? <;> simp [this]
        rw [hv'] at hl ⊢
        refine co_f (hF.nil hlt (hF.fad hlt (hF.bfad rfl (hF.bld rfl ?_))))
        refine hlenS _ _ (in_sub (by omega) (by omega) ?_)
        rw [hj]
        refine wCall_pure (itoa_spec (by omega)) ?_
        rintro r rfl
        have hd := dig_len j
        refine st_add (by simp; omega) ?_
        refine hF.wr (wr_string hnm ([36] ++ dig j)) hs hnm hlt hm hl ro' rt' ?_
        intro v1 s1 hF1
        refine ⟨hF.nil hlt (by simp [eqA]), hF.fad hlt (by simp [eqA]), ?_⟩
        exact hF1.fin hs hnm hlt fun s' h => h
    have b5 : (k == 5) = false := by simpa using h5
    rw [b5]
    refine co_f (in_eql ?_)
    by_cases h6' : k = 6
    · subst h6'
      have h2 := hk6 rfl
      obtain ⟨b, body, rfl⟩ : ∃ b body, ts = [b, body] := by
        rcases ts with _ | ⟨x1, _ | ⟨x2, _ | ⟨x3, r⟩⟩⟩ <;> simp at h2
        exact ⟨_, _, rfl⟩
      simp only [depthL, sizeL] at hlen hsz
      rw [fmt_ex] at hl ⊢
      have hfl := fresh_len (used := N ++ sc)
      simp only [aLs0011, aLs0010, aLs0020] at hl
      refine co_t ?_
      refine fresh_call hF hlt hs hm hnm hsc (by omega) ?_
      generalize fresh (N ++ sc) = f at hfl hl ⊢
      refine hF.nil hlt (hF.fad hlt (st_add (by simp; omega) (st_add (by simp; omega) ?_)))
      refine hF.wr (wr_string hnm _) hs hnm hlt hm (by simp; omega) ro' rt' ?_
      intro v1 s1 hF1
      refine hF1.bfad rfl (hF1.bld rfl ?_)
      refine wIdx_rows ha (row := rowT b) (by omega) (by simp [rowsT]) (rowT_len b) (by omega) (ld_row (rowT_len b) ?_)
      refine hF1.wr (ih b (by simp) [] (.capped []) (.inl (by simp [strRows]; exact .capped _)) (fun _ => .capped _) (by simp; omega) (by omega) _ (TRep.of_row b)) hs hnm hlt hm (by simp; omega) ro' rt' ?_
      intro v2 s2 hF2
      refine hF2.nil hlt (hF2.fad hlt ?_)
      refine hF2.wr (wr_byte hnm 32) hs hnm hlt hm (by simp; omega) ro' rt' ?_
      intro v3 s3 hF3
      refine hF3.bfad rfl (hF3.bld rfl ?_)
      refine wIdx_rows ha (row := rowT body) (by omega) (by simp [rowsT]) (rowT_len body) (by omega) (ld_row (rowT_len body) ?_)
      refine wCall_do (cloneO_spec hsc hsc0 (by omega) (s := s3) (L := LFE (env R) 30 0 L.ro L.rt) (by rw [rt']; omega)) ?_
      rintro w s4 ⟨x1, rfl, hw⟩
      have hF4 := hF3.toks x1
      have hb1 : ∀ (s : Sto) (K : AV → Sto → Prop), K (.capped [[.sc (.string ⟨f.toArray⟩)]]) s → wBsl false s 1 [SS []] 1 [(0, 1, SS f)] K := by
        intro s K h
        simp [wBsl, repl, rowsBy]
        exact h
      refine hb1 _ _ ⟨by simp, ?_⟩
      have hsl : (strRows sc).length = sc.length := strRows_len sc
      refine wApp_row (bs := s3.bs) (ts := s3.ts) (x := x1) (row := [.sc (.string ⟨f.toArray⟩)]) hw (by rw [rt']; omega) strRows_row rfl (by omega) (by simp [okCell]) (by rw [hsl]; omega) (by rw [hsl]; omega) ?_
      intro w2 x2 hw2
      have e5 : strRows sc ++ [[.sc (.string ⟨f.toArray⟩)]] = strRows (sc ++ [f]) := by simp [strRows]
      rw [e5] at hw2
      have hF5 := hF3.toks x2
      refine hF5.wr (ih body (by simp) (sc ++ [f]) w2 hw2.rowsO (fun h => by simp at h) (by simp; omega) (by omega) _ (TRep.of_row body)) hs hnm hlt hm (by simp; omega) ro' rt' ?_
      intro v6 s6 hF6
      have q1 : eqA (.ptr bs.length 3) (.ptr bs.length 3) = true := by simp [eqA]
      have q2 := eqA_self (.inl ha)
      have q3 : eqA (.eptr (rowT body) 0) (.eptr (rowT body) 0) = true := by simp [eqA, eqPL_row]
      have q4 : eqA (.agg ((rowT body).map AV.pv)) (.agg ((rowT body).map AV.pv)) = true := by
        obtain ⟨k1, n1, i1, t1⟩ := body
        simp [rowT, eqA, eqAL, eqP, eqV_int, eqV_str, eqPLL_rows]
      have q5 : ∀ s : Sto, wIdx s 4 a (I64 1) fun v => eqA v (.eptr (rowT body) 0) = true := fun s => wIdx_rows ha (row := rowT body) (by omega) (by simp [rowsT]) (rowT_len body) (by omega) q3
      refine ⟨hF4.bfad rfl q1, hF5.bfad rfl q1, hF4.bld rfl q2, hF5.bld rfl q2, q5 _, q5 _, ld_row (rowT_len body) q4, ld_row (rowT_len body) q4, ?_⟩
      refine hF6.nil hlt (hF6.fad hlt ?_)
      refine hF6.wr (wr_byte hnm 41) hs hnm hlt hm (by simp; omega) ro' rt' ?_
      intro v7 s7 hF7
      refine hF7.fin hs hnm hlt fun s' h => ?_
      simpa using h
    have b6 : (k == 6) = false := by simpa using h6'
    rw [b6]
    refine co_f (in_eql ?_)
    have h2 : k = 2 := by omega
    subst h2
    refine co_t (hF.bfad rfl (hF.bld rfl ?_))
    have hlenA : ∀ (s : Sto) (K : AV → Prop), K (I64 ts.length) → wLen s a K := by
      intro s K h
      simp only [wLen, ha.lenA, wO, rowsT_len]
      exact h
    refine hlenA _ _ (in_eql ?_)
    by_cases hz : ts.length = 0
    · have b0 : ((ts.length : Int) == 0) = true := by rw [hz]; rfl
      have b1 : (ts.length == 0) = true := by rw [hz]; rfl
      rw [b0]
      have hw : fmt N (.mk 2 n i ts) sc = n := by
        rw [fmt_eq _ _ _ _ _ _ (by omega), b1]
        rfl
      refine co_t (hF.nil hlt (hF.fad hlt (hF.bfad rfl (hF.bld rfl ?_))))
      rw [hw] at hl ⊢
      refine hF.wr (wr_string hnm n) hs hnm hlt hm hl ro' rt' ?_
      intro v1 s1 hF1
      exact hF1.fin hs hnm hlt fun s' h => h
    · have b0 : ((ts.length : Int) == 0) = false := by rw [aLs0088]; omega
      have b1 : (ts.length == 0) = false := by simpa using hz
      rw [b0]
      refine co_f (p30_1 (hF.bfad rfl (hF.bld rfl (hF.bfad rfl (hF.bld rfl ?_)))))
      exact lst n (by rw [fmt_eq _ _ _ _ _ _ (by omega), b1]; rfl)
theorem fmts_spec {N : List (List UInt8)} {nm : AV} (hnm : RowsA nm (strRows N)) : ∀ (l : List Ty), validL l = true → smallVs l = true → ∀ t ∈ l, ∀ (sc : List (List UInt8)) (v : AV), RowsO v (strRows sc) → (sc = [] → RowsA v []) → N.length + sc.length + depth t < 260 → size t < 2 ^ 30 → FmtS R N nm t sc v
  | [], _, _, _, h => by cases h
  | e :: l, hv, hsm, t, h => by
    simp only [validL, aLs0002] at hv
    simp only [smallVs, aLs0002] at hsm
    rcases aLs0006.1 h with h' | h'
    · rw [h']
      exact fmt_spec hnm e hv.1 hsm.1
    · exact fmts_spec hnm l hv.2 hsm.2 t h'
end
end
mutual
theorem fmt_congr {N M : List (List UInt8)} (h : ∀ w, w ∈ N ↔ w ∈ M) : ∀ (t : Ty) (sc : List (List UInt8)), fmt N t sc = fmt M t sc
  | .mk k n i ts, sc => by
    have e : fresh (N ++ sc) = fresh (M ++ sc) := fresh_congr (fun w => by rw [aLs0016, aLs0016, h])
    have el := fmtL_congr h ts
    by_cases h6 : k = 6
    · subst h6
      by_cases h2 : ts.length = 2
      · obtain ⟨b, body, rfl⟩ : ∃ b body, ts = [b, body] := by
          rcases ts with _ | ⟨x1, _ | ⟨x2, _ | ⟨x3, r⟩⟩⟩ <;> simp at h2
          exact ⟨_, _, rfl⟩
        rw [fmt_ex, fmt_ex, e, fmt_congr h b, fmt_congr h body]
      · rw [fmt_bad _ _ _ _ _ h2, fmt_bad _ _ _ _ _ h2]
    · rw [fmt_eq _ _ _ _ _ _ h6, fmt_eq _ _ _ _ _ _ h6, el]
theorem fmtL_congr {N M : List (List UInt8)} (h : ∀ w, w ∈ N ↔ w ∈ M) : ∀ (l : List Ty) (sc : List (List UInt8)), fmtL N l sc = fmtL M l sc
  | [], sc => by simp [fmtL]
  | t :: l, sc => by rw [fmtL, fmtL, fmt_congr h t, fmtL_congr h l]
end
theorem isId_len {n : List UInt8} (h : isId n = true) : n.length ≤ 24 := by
  unfold isId at h
  simp only [aLs0002, aLs0079] at h
  exact h.1.1.2
theorem isId_ne {n : List UInt8} (h : isId n = true) : n ≠ [] := by
  intro e
  subst e
  simp [isId] at h
theorem valid_name {k i : Int} {n : List UInt8} {ts : List Ty} (h : root k n i ts = true) : (k = 2 → isId n = true) ∧ (k ≠ 2 → n = []) := by
  simp only [root, aLs0002] at h
  refine ⟨fun e => ?_, fun e => ?_⟩
  · subst e
    have := h.2
    unfold shape at this
    simp at this
    exact this.1.1.1
  · have := h.1.1
    simpa [e] using this
theorem hdT_len {k i : Int} {n : List UInt8} {ts : List Ty} (h : root k n i ts = true) : (hdT k n).length ≤ 24 := by
  unfold hdT
  by_cases h2 : k = 2
  · subst h2
    exact isId_len ((valid_name h).1 rfl)
  · have b2 : (k == 2) = false := by simpa using h2
    rw [b2]
    cases (k == 3) <;> simp
theorem varT_len {sc : List (List UInt8)} (h : ∀ w ∈ sc, w.length ≤ 24) (i : Int) : (varT sc i).length ≤ 24 := by
  unfold varT
  have hd := dig_len (i - sc.length).toNat
  generalize dig (i - sc.length).toNat = d at hd ⊢
  split
  · rename_i w hw
    have := h w (aLs0013 hw)
    cases decide (i < (sc.length : Int)) <;> simp <;> omega
  · simp; omega
mutual
theorem fmt_len {N : List (List UInt8)} : ∀ (t : Ty), valid t = true → ∀ (sc : List (List UInt8)), (∀ w ∈ sc, w.length ≤ 24) → (fmt N t sc).length + 1 ≤ 64 * size t
  | .mk k n i ts, hv, sc, hsc => by
    simp only [valid, aLs0002] at hv
    have hl := fmtL_len (N := N) ts hv.2 sc hsc
    have hhd := hdT_len hv.1
    simp only [size]
    by_cases h6 : k = 6
    · subst h6
      obtain ⟨b, body, rfl⟩ : ∃ b body, ts = [b, body] := by
        have h2 := (root_kind hv.1).2.2 rfl
        rcases ts with _ | ⟨x1, _ | ⟨x2, _ | ⟨x3, r⟩⟩⟩ <;> simp at h2
        exact ⟨_, _, rfl⟩
      rw [fmt_ex]
      have hf := fresh_len (used := N ++ sc)
      simp only [validL, aLs0002] at hv
      have h1 := fmt_len (N := N) b hv.2.1 [] (fun _ h => by cases h)
      have h2 := fmt_len (N := N) body hv.2.2.1 (sc ++ [fresh (N ++ sc)]) (by
        intro w hw
        rcases aLs0016.1 hw with h | h
        · exact hsc w h
        · simp only [aLs0006, aLs0048, aLs0049] at h
          rw [h]; omega)
      simp only [sizeL, aLs0011, aLs0010, aLs0020]
      omega
    · rw [fmt_eq _ _ _ _ _ _ h6]
      have hvar := varT_len hsc i
      cases (k == 0) with
      | true => simp; omega
      | false =>
        cases (k == 1) with
        | true => simp; omega
        | false =>
          cases (k == 5) with
          | true => simp; omega
          | false =>
            cases hz : (k == 2 && ts.length == 0) with
            | true =>
              simp only [aLs0009, aLs0004]
              have : k = 2 := by simp at hz; exact hz.1
              have := isId_len ((valid_name hv.1).1 this)
              omega
            | false =>
              simp only [aLs0009, aLs0011, aLs0010, aLs0020]
              omega
theorem fmtL_len {N : List (List UInt8)} : ∀ (l : List Ty), validL l = true → ∀ (sc : List (List UInt8)), (∀ w ∈ sc, w.length ≤ 24) → (fmtL N l sc).length ≤ 64 * sizeL l
  | [], _, sc, _ => by simp [fmtL]
  | t :: l, hv, sc, hsc => by
    simp only [validL, aLs0002] at hv
    have h1 := fmt_len (N := N) t hv.1 sc hsc
    have h2 := fmtL_len (N := N) l hv.2 sc hsc
    simp only [fmtL, sizeL, aLs0011, aLs0010, aLs0020]
    omega
end
theorem fmt_ne {N : List (List UInt8)} : ∀ (t : Ty), valid t = true → fmt N t [] ≠ []
  | .mk k n i ts, hv => by
    simp only [valid, aLs0002] at hv
    by_cases h6 : k = 6
    · subst h6
      obtain ⟨b, body, rfl⟩ : ∃ b body, ts = [b, body] := by
        have h2 := (root_kind hv.1).2.2 rfl
        rcases ts with _ | ⟨x1, _ | ⟨x2, _ | ⟨x3, r⟩⟩⟩ <;> simp at h2
        exact ⟨_, _, rfl⟩
      rw [fmt_ex]
      simp
    · rw [fmt_eq _ _ _ _ _ _ h6]
      cases (k == 0) with
      | true => simp
      | false =>
        cases (k == 1) with
        | true => simp
        | false =>
          cases (k == 5) with
          | true => simp [varT]
          | false =>
            cases hz : (k == 2 && ts.length == 0) with
            | true =>
              have : k = 2 := by simp at hz; exact hz.1
              exact isId_ne ((valid_name hv.1).1 this)
            | false => simp
def textT (t : Ty) : List UInt8 := bif verdict t == 0 then fmt (noms t) t [] else []
theorem verdict_zero {t : Ty} (h : verdict t = 0) : size t ≤ 200 ∧ depth t ≤ 12 ∧ valid t = true := by
  unfold verdict at h
  by_cases h1 : 200 < size t
  · rw [aLs0033 h1] at h
    simp at h
  by_cases h2 : 12 < depth t
  · rw [aLs0033 h2] at h
    simp at h
  refine ⟨by omega, by omega, ?_⟩
  rw [aLs0035 h1, aLs0035 h2] at h
  cases hv : valid t with
  | true => rfl
  | false => rw [hv] at h; simp at h
theorem byteRows_bytes : ∀ (l : List UInt8), byteRows (byteRs l) = some l
  | [] => rfl
  | b :: l => by
    have h := byteRows_bytes l
    have hb : Nat.blt b.toNat 256 = true := by
      have := b.toNat_lt
      simp
      omega
    have e : byteRs (b :: l) = [.sc (.int .u8 (.ofNat b.toNat))] :: byteRs l := rfl
    rw [e]
    simp [byteRows, hb, h]
theorem strT_buf {L : Lim} {id : Nat} {s : Sto} {x : AV} {r : List AV} {tok : Nat} {c : UInt8} {cs : List UInt8} (hid : s.bs[id]? = some (x :: .own tok (byteRs (c :: cs)) :: r)) (htok : s.ts[tok]? = some ((c :: cs).length, 5)) (hrt : L.rt = 0)
    (b1 : Nat.beq (c :: cs).length (byteRs (c :: cs)).length = true) (b2 : Nat.ble (byteRs (c :: cs)).length 1000000000000000000 = true) : Go.Tel.strT 5 L [.ptr id 0] s = some (SS (c :: cs), s) := by
  unfold Go.Tel.strT
  simp only [hid]
  rw [byteRows_bytes, htok]
  have b3 : Nat.ble 0 tok = true := by simp
  simp only [b1, b2, b3, hrt]
  simp
section
variable {R : Nat → Option (List PV)}
theorem format_spec {t : Ty} (h : size t < 2 ^ 60) (ho : okT t) (hsm : smallV t = true) {x : AV} (hx : TRep t x) : PureC (env R) 10 [x] fun r => r = SS (textT t) := by
  have ev := validate_spec (R := R) h ho hx
  have hx' := hx
  obtain ⟨k, n, i, ts⟩ := t
  obtain ⟨a, rfl, ha⟩ := hx
  suffices H : ∀ Post : AV → Prop, Post (SS (textT (.mk k n i ts))) → P10_0 R 0 0 0 (.agg [I64 k, SS n, I64 i, a]) ⟨[], []⟩ (QP Post) from
    e10 (u0 := .agg [I64 k, SS n, I64 i, a]) (by simp [ha.close]) (H _ rfl)
  intro Post hP
  refine p10_0 ?_
  simp [ha.ok]
  refine wCall_pure ev ?_
  rintro r rfl
  by_cases h0 : verdict (.mk k n i ts) = 0
  · obtain ⟨z1, z2, z3⟩ := verdict_zero h0
    have ht : textT (.mk k n i ts) = fmt (noms (.mk k n i ts)) (.mk k n i ts) [] := by
      unfold textT
      rw [h0]
      rfl
    rw [h0]
    simp
    refine p10_1 ?_
    have hld : ∀ (m : List (List AV)) (t : List (Nat × TypeId)) (K : AV → Prop), K (.agg [I64 k, SS n, I64 i, a]) → wLd (env R) ⟨[I64 k, SS n, I64 i, a] :: m, t⟩ (some 4) (.ptr 0 0) K := by
      intro m t K h
      simp
      exact h
    refine hld _ _ _ ?_
    refine wCall_pure (names_spec (by omega) hx') ?_
    rintro r ⟨N, hN, hmem, hlen⟩
    rw [ht] at hP
    have hfc := fmt_congr (N := N) (M := noms (.mk k n i ts)) hmem (.mk k n i ts) []
    rw [← hfc] at hP
    have hfl := fmt_len (N := N) (.mk k n i ts) z3 [] (fun _ h => by cases h)
    have hne := fmt_ne (N := N) (.mk k n i ts) z3
    have hb : ∀ (s : Sto) (K : AV → Sto → Prop), K (.ptr s.bs.length 0) ⟨s.bs ++ [FBlk s.bs.length true (.capped []) r], s.ts⟩ → wBuild [.pv (.sc (.pointer none)), .capped [], .capped []] [(2, 1, r)] fun a9 => wBoxZ s 71 a9 K := by
      intro s K hK
      refine bd_of (cs := [.pv (.sc (.pointer none)), .capped [], r]) (by simp [hN.ok, hN.cells]) ?_
      simp [hN.ok, FBlk] at hK ⊢
      exact ⟨rfl, hK⟩
    refine hb _ _ ?_
    simp only [aLs0010, aLs0020, aLs0037, aLs0041]
    have hs : OkS ⟨[[I64 k, SS n, I64 i, a], FBlk 1 true (.capped []) r], []⟩ := by
      intro b hb
      simp only [aLs0006, aLs0048, aLs0049] at hb
      rcases hb with rfl | rfl <;> simp [idsLtL, idsLt, ha.idsLt, FBlk, hN.idsLt]
    obtain ⟨v, s', ⟨z, buf, ts', rfl, hbuf⟩, hc⟩ := fmt_spec (R := R) hN (.mk k n i ts) z3 hsm [] (.capped []) (.inl (by simp [strRows]; exact .capped _)) (fun _ => .capped _) (by simp; omega) (by omega) _ hx' [[I64 k, SS n, I64 i, a], FBlk 1 true (.capped []) r] 1 true (.capped []) [] [] (LFE (env R) 10 0 0 0) rfl hs (.inl ⟨rfl, rfl⟩) (by simp; omega) rfl rfl
    refine hld _ _ _ ?_
    refine ⟨v, _, hc, ?_⟩
    generalize fmt N (.mk k n i ts) [] = w at hP hfl hne hbuf
    have hst : ∀ K : AV → Sto → Prop, K (SS w) ⟨[[I64 k, SS n, I64 i, a], FBlk 1 z buf r], ts'⟩ → wCall (env R) (LFE (env R) 10 0 0 0) (.func (.func 31) [] []) [.ptr 1 0] ⟨[[I64 k, SS n, I64 i, a], FBlk 1 z buf r], ts'⟩ K := by
      intro K hK
      refine ⟨_, _, CallE.of_told Tryz.func31 (by kernel_rfl) (T := Go.Tel.strT 5) (by kernel_rfl) ?_, hK⟩
      rcases hbuf with ⟨_, hw⟩ | ⟨tok, rfl, htok⟩
      · exact absurd hw hne
      · obtain ⟨c, cs, hc⟩ : ∃ c cs, w = c :: cs := by
          cases w with
          | nil => exact absurd rfl hne
          | cons c cs => exact ⟨c, cs, rfl⟩
        subst hc
        have b1 : Nat.beq (c :: cs).length (byteRs (c :: cs)).length = true := by simp [byteRs_len]
        have b2 : Nat.ble (byteRs (c :: cs)).length 1000000000000000000 = true := by
          rw [byteRs_len]
          simp only [aLs0010] at hfl ⊢
          simp only [size] at hfl z1
          simp
          omega
        simp only [aLs0041] at htok
        exact strT_buf (id := 1) (L := LFE (env R) 10 0 0 0) rfl (by simpa using htok) rfl b1 b2
    have hset : (List.set [[I64 k, SS n, I64 i, a], FBlk 1 true (.capped []) r] 1 (FBlk 1 z buf r)) = [[I64 k, SS n, I64 i, a], FBlk 1 z buf r] := rfl
    rw [hset]
    have hnil : ∀ K : AV → Prop, K (.ptr 1 0) → wNil ⟨[[I64 k, SS n, I64 i, a], FBlk 1 z buf r], ts'⟩ (.ptr 1 0) K := fun K hK => ⟨rfl, hK⟩
    have hfad : ∀ K : AV → Prop, K (.ptr 1 0) → wFad ⟨[[I64 k, SS n, I64 i, a], FBlk 1 z buf r], ts'⟩ (.ptr 1 0) 0 K := fun K hK => ⟨rfl, hK⟩
    refine hnil _ (hfad _ (hst _ ?_))
    exact ⟨_, by simp [close], hP⟩
  · have b0 : (verdict (.mk k n i ts) == 0) = false := by simpa using h0
    have ht : textT (.mk k n i ts) = [] := by
      unfold textT
      rw [b0]
      rfl
    rw [ht] at hP
    simp [QP, QI, h0]
    exact hP
end
section
variable {R : Nat → Option (List PV)}
def RFmtS (R : Nat → Option (List PV)) (N : List (List UInt8)) (nm : AV) (t : Ty) (sc : List (List UInt8)) : Prop := ∀ (x v : AV), TRep t x → RowsO v (strRows sc) → PureC (env R) 37 [x, nm, v] fun r => r = SS (fmt N t sc)
theorem rfmt_close {N : List (List UInt8)} {nm : AV} {names : List (List PV)} (hnm : RowsA nm names) {t : Ty} {sc : List (List UInt8)} (h : ∀ (x v : AV), TRep t x → RowsA v (strRows sc) → PureC (env R) 37 [x, nm, v] fun r => r = SS (fmt N t sc)) : RFmtS R N nm t sc := by
  intro x v hx hv
  obtain ⟨v', hc, hr⟩ := hv.closed ([] : List (List AV)) 0
  have := h x v' hx hr
  obtain ⟨k, n, i, ts⟩ := t
  obtain ⟨a, rfl, ha⟩ := hx
  exact PureC.of_closed (args' := [.agg [I64 k, SS n, I64 i, a], nm, v']) (by kernel_rfl) (by kernel_rfl) (by simp [hc, ha.close, hnm.close]) (by simp [hr.close, ha.close, hnm.close]) this
theorem rlist_loop {N : List (List UInt8)} {nm : AV} {k i : Int} {n : List UInt8} {ts : List Ty} {a v : AV} {sc : List (List UInt8)} (ha : RowsA a (rowsT ts)) (hv : RowsA v (strRows sc)) (hl : ts.length < 2 ^ 30) (ih : ∀ t ∈ ts, RFmtS R N nm t sc) {Post : AV → Prop} {hd : List UInt8} (hlen : hd.length + (fmtL N ts sc).length < 2 ^ 40) (hP : Post (SS (hd ++ fmtL N ts sc ++ [41]))) :
    ∀ (j q : Nat) (acc : List UInt8), q + j = ts.length → acc ++ fmtL N (ts.drop q) sc = hd ++ fmtL N ts sc → P37_4 R 0 0 0 nm v (.ptr 0 0) (SS acc) (I64 q) ⟨[[I64 k, SS n, I64 i, a]], []⟩ (QP Post) := by
  have fad : ∀ (d : Nat) (K : AV → Prop), K (.ptr 0 d) → wFad ⟨[[I64 k, SS n, I64 i, a]], []⟩ (.ptr 0 0) d K := fun d K h => ⟨rfl, by simpa using h⟩
  have ld : ∀ (d : Nat) (c : AV), [I64 k, SS n, I64 i, a][d]? = some c → ∀ K : AV → Prop, K c → wLd (env R) ⟨[[I64 k, SS n, I64 i, a]], []⟩ none (.ptr 0 d) K := by
    intro d c hc K h
    simp only [wLd, wO, wPart, aLs0017, hc, xL, xM, xF, xG]
    exact h
  have hlenA : ∀ (s : Sto) (K : AV → Prop), K (I64 ts.length) → wLen s a K := by
    intro s K h
    simp only [wLen, ha.lenA, wO, rowsT_len]
    exact h
  intro j
  induction j with
  | zero =>
    intro q acc hq hacc
    refine p37_4 (fad _ _ (ld 3 _ rfl _ (hlenA _ _ (in_lss ?_))))
    have h1 : ¬ ((q : Int) < ts.length) := by omega
    simp only [h1, aLs0080]
    refine co_f (p37_6 ?_)
    have h2 : ts.drop q = [] := aLs0024 (by omega)
    rw [h2] at hacc
    simp only [fmtL, aLs0056] at hacc
    subst hacc
    refine st_add (by simp; omega) ?_
    exact ⟨SS (hd ++ fmtL N ts sc ++ [41]), by simp, hP⟩
  | succ j ihj =>
    intro q acc hq hacc
    refine p37_4 (fad _ _ (ld 3 _ rfl _ (hlenA _ _ (in_lss ?_))))
    have h1 : ((q : Int) < ts.length) := by omega
    obtain ⟨t, ht⟩ : ∃ t, ts[q]? = some t := ⟨_, aLs0008 (by omega)⟩
    rw [drop_cons ht] at hacc
    simp only [fmtL] at hacc
    have hsum : acc.length + 1 + (fmt N t sc).length ≤ hd.length + (fmtL N ts sc).length := by
      have := congrArg List.length hacc
      simp only [aLs0011, aLs0010, aLs0020] at this
      omega
    simp only [h1, aLs0087]
    refine co_t (p37_5 (fad _ _ (ld 3 _ rfl _ ?_)))
    refine wIdx_rows ha (row := rowT t) (by omega) (by simpa using rowsT_get ht) (rowT_len t) (by omega) (ld_row (rowT_len t) ?_)
    refine wCall_pure (ih t (aLs0013 ht) _ _ (TRep.of_row t) (.inl hv)) ?_
    rintro r rfl
    refine st_add (by simp; omega) (st_add (by simp; omega) ?_)
    refine p37_7 (in_add (by omega) (by omega) ?_)
    have := ihj (q + 1) (acc ++ ([32] ++ fmt N t sc)) (by omega) (by rw [← hacc]; simp)
    simpa using this
mutual
theorem rfmt_spec {N : List (List UInt8)} {nm : AV} (hnm : RowsA nm (strRows N)) : ∀ (t : Ty), valid t = true → smallV t = true → ∀ (sc : List (List UInt8)), (∀ w ∈ sc, w.length ≤ 24) → N.length + sc.length + depth t < 260 → size t < 2 ^ 30 → RFmtS R N nm t sc
  | .mk k n i ts, hv, hsm, sc, hsc, hlen, hsz => by
    refine rfmt_close hnm ?_
    intro x v hx hvs
    have hfl := fmt_len (N := N) (.mk k n i ts) hv sc hsc
    obtain ⟨a, rfl, ha⟩ := hx
    simp only [valid, aLs0002] at hv
    simp only [smallV, aLs0002] at hsm
    simp only [depth] at hlen
    simp only [size] at hsz hfl
    have hlts := sizeL_len ts
    obtain ⟨hkind, hk5, hk6⟩ := root_kind hv.1
    have ih := rfmts_spec hnm ts hv.2 hsm.2
    suffices H : ∀ Post : AV → Prop, Post (SS (fmt N (.mk k n i ts) sc)) → P37_0 R 0 0 0 (.agg [I64 k, SS n, I64 i, a]) nm v ⟨[], []⟩ (QP Post) from
      e37 (u0 := .agg [I64 k, SS n, I64 i, a]) (u1 := nm) (u2 := v) (by simp [ha.close, hnm.close, hvs.close]) (H _ rfl)
    intro Post hP
    refine p37_0 ?_
    have hbox : ∀ K : AV → Sto → Prop, K (.ptr 0 0) ⟨[[I64 k, SS n, I64 i, a]], []⟩ → wBox ⟨[], []⟩ (.agg [I64 k, SS n, I64 i, a]) K := by
      intro K h
      simp [ha.ok]
      exact h
    refine hbox _ ?_
    have fad : ∀ (d : Nat) (K : AV → Prop), K (.ptr 0 d) → wFad ⟨[[I64 k, SS n, I64 i, a]], []⟩ (.ptr 0 0) d K := fun d K h => ⟨rfl, by simpa using h⟩
    have fadT : ∀ (t : List (Nat × TypeId)) (d : Nat) (K : AV → Prop), K (.ptr 0 d) → wFad ⟨[[I64 k, SS n, I64 i, a]], t⟩ (.ptr 0 0) d K := fun t d K h => ⟨rfl, by simpa using h⟩
    have ld : ∀ (t : List (Nat × TypeId)) (d : Nat) (c : AV), [I64 k, SS n, I64 i, a][d]? = some c → ∀ K : AV → Prop, K c → wLd (env R) ⟨[[I64 k, SS n, I64 i, a]], t⟩ none (.ptr 0 d) K := by
      intro t d c hc K h
      simp only [wLd, wO, wPart, aLs0017, hc, xL, xM, xF, xG]
      exact h
    have fin : ∀ w : List UInt8, fmt N (.mk k n i ts) sc = w → ∀ t, QP Post (SS w) ⟨[[I64 k, SS n, I64 i, a]], t⟩ := fun w hw t => ⟨SS w, by simp, by rw [← hw]; exact hP⟩
    refine fad _ _ (ld _ 0 _ rfl _ (in_eql ?_))
    by_cases h0 : k = 0
    · subst h0
      exact co_t (fin _ (by rw [fmt_eq _ _ _ _ _ _ (by omega)]; rfl) _)
    have b0 : (k == 0) = false := by simpa using h0
    rw [b0]
    refine co_f (in_eql ?_)
    by_cases h1 : k = 1
    · subst h1
      exact co_t (fin _ (by rw [fmt_eq _ _ _ _ _ _ (by omega)]; rfl) _)
    have b1 : (k == 1) = false := by simpa using h1
    rw [b1]
    refine co_f (in_eql ?_)
    by_cases h5 : k = 5
    · subst h5
      obtain ⟨hi0, hi200⟩ := hk5 rfl
      have hi100 : i < 100 := by simpa using hsm.1
      refine co_t (fad _ _ (ld _ 2 _ rfl _ ?_))
      have hlenS : ∀ (s : Sto) (K : AV → Prop), K (I64 sc.length) → wLen s v K := by
        intro s K h
        simp only [wLen, hvs.lenA, wO, strRows_len]
        exact h
      have hw : fmt N (.mk 5 n i ts) sc = varT sc i := by
        rw [fmt_eq _ _ _ _ _ _ (by omega)]
        rfl
      refine hlenS _ _ (in_lss ?_)
      by_cases hc : i < (sc.length : Int)
      · have bc : decide (i < (sc.length : Int)) = true := by simpa using hc
        rw [bc]
        obtain ⟨w, hw'⟩ : ∃ w, sc[((sc.length : Int) - 1 - i).toNat]? = some w := ⟨_, aLs0008 (by omega)⟩
        have hv' : varT sc i = w := by
          unfold varT
          rw [hw']
          simp [bc]
        refine co_t (hlenS _ _ (in_sub (by omega) (by omega) (fad _ _ (ld _ 2 _ rfl _ (in_sub (by omega) (by omega) ?_)))))
        refine wIdx_rows hvs (row := [.sc (.string ⟨w.toArray⟩)]) (by omega) (by simpa using strRows_get hw') rfl (by omega) (ld_str ?_)
        exact fin _ (by rw [hw, hv']) _
      · have bc : decide (i < (sc.length : Int)) = false := by simpa using hc
        rw [bc]
        obtain ⟨j, hj⟩ := aLs0081 (show 0 ≤ i - (sc.length : Int) by omega)
        have hv' : varT sc i = 36 :: dig j := by
          unfold varT
          rw [hj]
          cases sc[((sc.length : Int) - 1 - i).toNat]? <;> simp [bc]
        refine co_f (p37_1 (fad _ _ (ld _ 2 _ rfl _ (hlenS _ _ (in_sub (by omega) (by omega) ?_)))))
        rw [hj]
        refine wCall_pure (digits_spec (by omega)) ?_
        rintro r rfl
        have hd := dig_len j
        refine st_add (by simp; omega) ?_
        exact fin _ (by rw [hw, hv']; rfl) _
    have b5 : (k == 5) = false := by simpa using h5
    rw [b5]
    refine co_f (in_eql ?_)
    by_cases h6' : k = 6
    · subst h6'
      have h2 := hk6 rfl
      obtain ⟨b, body, rfl⟩ : ∃ b body, ts = [b, body] := by
        rcases ts with _ | ⟨x1, _ | ⟨x2, _ | ⟨x3, r⟩⟩⟩ <;> simp at h2
        exact ⟨_, _, rfl⟩
      simp only [depthL, sizeL] at hlen hsz hfl
      have hff := fresh_len (used := N ++ sc)
      have hex := fmt_ex N n i b body sc
      rw [hex] at hfl
      simp only [aLs0011, aLs0010, aLs0020] at hfl
      refine co_t ?_
      have hb0 : ∀ (s : Sto) (K : AV → Sto → Prop), K (.capped []) s → wBsl false s 1 [SS []] 0 [] K := by
        intro s K h
        simp [wBsl, repl, fillS, wO, toPVs, rowsBy]
        exact h
      have hb1 : ∀ (f : List UInt8) (s : Sto) (K : AV → Sto → Prop), K (.capped [[.sc (.string ⟨f.toArray⟩)]]) s → wBsl false s 1 [SS []] 1 [(0, 1, SS f)] K := by
        intro f s K h
        simp [wBsl, repl, rowsBy]
        exact h
      have hslN : (strRows N).length = N.length := strRows_len N
      have hsl : (strRows sc).length = sc.length := strRows_len sc
      refine hb0 _ _ ⟨by simp, ?_⟩
      refine wApp_rows (ts := []) (x := []) (rows := []) (m := strRows N) (.inl rfl) (by simp [LFE]) (by simp) strRows_row (by omega) (srcCells_rows (.inl hnm) strRows_row) strRows_ok (by rw [hslN]; simp; omega) (by rw [hslN]; simp; omega) ?_
      intro a1 x1 ha1
      refine ⟨by simp, ?_⟩
      refine wApp_rows (ts := []) (x := x1) (m := strRows sc) ha1 (by simp [LFE]) (by simpa using strRows_row) strRows_row (by omega) (srcCells_rows (.inl hvs) strRows_row) strRows_ok (by simp [hslN, hsl]; omega) (by simp [hslN, hsl]; omega) ?_
      intro a2 x2 ha2
      have e2 : [] ++ strRows N ++ strRows sc = strRows (N ++ sc) := by simp [strRows]
      rw [e2] at ha2
      obtain ⟨a3, hc3, hr3⟩ := ha2.rowsO.closed ([] : List (List AV)) 0
      have efr : PureC (env R) 63 [a2] fun r => r = SS (fresh (N ++ sc)) := by
        exact PureC.of_closed (args' := [a3]) (by kernel_rfl) (by kernel_rfl) (by simp [hc3]) (by simp [hr3.close]) (rfresh_spec hr3 (by rw [aLs0011]; omega))
      refine wCall_pure efr ?_
      rintro r rfl
      have hsc2 : ∀ w ∈ sc ++ [fresh (N ++ sc)], w.length ≤ 24 := by
        intro w hw
        rcases aLs0016.1 hw with h | h
        · exact hsc w h
        · simp only [aLs0006, aLs0048, aLs0049] at h
          rw [h]; omega
      have ihb := ih b (by simp) [] (fun _ h => by cases h) (by simp; omega) (by omega)
      have ihbody := ih body (by simp) (sc ++ [fresh (N ++ sc)]) hsc2 (by simp; omega) (by omega)
      generalize fresh (N ++ sc) = f at hff hfl hex ihbody hsc2 ⊢
      refine st_add (by simp; omega) (st_add (by simp; omega) ?_)
      refine fadT _ _ _ (ld _ 3 _ rfl _ ?_)
      refine wIdx_rows ha (row := rowT b) (by omega) (by simp [rowsT]) (rowT_len b) (by omega) (ld_row (rowT_len b) ?_)
      refine wCall_pure (ihb _ _ (TRep.of_row b) (.inl (by simp [strRows]; exact .capped _))) ?_
      rintro r rfl
      refine st_add (by simp; omega) (st_add (by simp; omega) ?_)
      refine fadT _ _ _ (ld _ 3 _ rfl _ ?_)
      refine wIdx_rows ha (row := rowT body) (by omega) (by simp [rowsT]) (rowT_len body) (by omega) (ld_row (rowT_len body) ?_)
      refine hb0 _ _ ⟨by simp, ?_⟩
      refine wApp_rows (ts := []) (x := x2) (rows := []) (m := strRows sc) (.inl rfl) (by simp [LFE]) (by simp) strRows_row (by omega) (srcCells_rows (.inl hvs) strRows_row) strRows_ok (by rw [hsl]; simp; omega) (by rw [hsl]; simp; omega) ?_
      intro a4 x4 ha4
      refine hb1 f _ _ ⟨by simp, ?_⟩
      refine wApp_row (ts := []) (x := x4) (row := [.sc (.string ⟨f.toArray⟩)]) ha4 (by simp [LFE]) (by simpa using strRows_row) rfl (by omega) (by simp [okCell]) (by simp [hsl]; omega) (by simp [hsl]; omega) ?_
      intro a5 x5 ha5
      have e5 : [] ++ strRows sc ++ [[.sc (.string ⟨f.toArray⟩)]] = strRows (sc ++ [f]) := by simp [strRows]
      rw [e5] at ha5
      refine wCall_pure (ihbody _ _ (TRep.of_row body) ha5.rowsO) ?_
      rintro r rfl
      refine st_add (by simp; omega) (st_add (by simp; omega) ?_)
      have q1 : eqA (.ptr 0 3) (.ptr 0 3) = true := by simp [eqA]
      have q2 := eqA_self (.inl ha)
      have q3 : eqA (.eptr (rowT body) 0) (.eptr (rowT body) 0) = true := by simp [eqA, eqPL_row]
      have q4 : eqA (.agg ((rowT body).map AV.pv)) (.agg ((rowT body).map AV.pv)) = true := by
        obtain ⟨k1, n1, i1, t1⟩ := body
        simp [rowT, eqA, eqAL, eqP, eqV_int, eqV_str, eqPLL_rows]
      have q5 : ∀ s : Sto, wIdx s 4 a (I64 1) fun v => eqA v (.eptr (rowT body) 0) = true := fun s => wIdx_rows ha (row := rowT body) (by omega) (by simp [rowsT]) (rowT_len body) (by omega) q3
      have s1 := st_add (a := [40, 101, 120, 105, 115, 116, 115, 32]) (b := f) (K := fun v => eqA v (SS ([40, 101, 120, 105, 115, 116, 115, 32] ++ f)) = true) (by simp; omega) (eqA_SS _)
      have s2 := st_add (a := [40, 101, 120, 105, 115, 116, 115, 32] ++ f) (b := [32]) (K := fun v => eqA v (SS ([40, 101, 120, 105, 115, 116, 115, 32] ++ f ++ [32])) = true) (by simp; omega) (eqA_SS _)
      have s3 := st_add (a := [40, 101, 120, 105, 115, 116, 115, 32] ++ f ++ [32]) (b := fmt N b []) (K := fun v => eqA v (SS ([40, 101, 120, 105, 115, 116, 115, 32] ++ f ++ [32] ++ fmt N b [])) = true) (by simp; omega) (eqA_SS _)
      have s4 := st_add (a := [40, 101, 120, 105, 115, 116, 115, 32] ++ f ++ [32] ++ fmt N b []) (b := [32]) (K := fun v => eqA v (SS ([40, 101, 120, 105, 115, 116, 115, 32] ++ f ++ [32] ++ fmt N b [] ++ [32])) = true) (by simp; omega) (eqA_SS _)
      refine ⟨s1, s1, s1, s1, s2, s2, s2, s2, s3, s3, s3, s4, s4, s4, fadT _ _ _ q1, fadT _ _ _ q1, fadT _ _ _ q1, ld _ 3 _ rfl _ q2, ld _ 3 _ rfl _ q2, ld _ 3 _ rfl _ q2, q5 _, q5 _, q5 _, ld_row (rowT_len body) q4, ld_row (rowT_len body) q4, ld_row (rowT_len body) q4, ?_⟩
      exact fin _ (by rw [hex]) _
    have b6 : (k == 6) = false := by simpa using h6'
    rw [b6]
    refine co_f (in_eql ?_)
    have lst : ∀ hd : List UInt8, fmt N (.mk k n i ts) sc = hd ++ fmtL N ts sc ++ [41] → P37_3 R 0 0 0 nm v (.ptr 0 0) (SS hd) ⟨[[I64 k, SS n, I64 i, a]], []⟩ (QP Post) := by
      intro hd hw
      rw [hw] at hP hfl
      simp only [aLs0011, aLs0010, aLs0020] at hfl
      refine p37_3 ?_
      exact rlist_loop ha hvs (by omega) (fun t ht => ih t ht sc hsc (by have := depth_mem ht; omega) (by have := size_mem ht; omega)) (by omega) hP ts.length 0 hd (by omega) (by simp)
    by_cases h2 : k = 2
    · subst h2
      have hn := isId_len ((valid_name hv.1).1 rfl)
      refine co_t (fad _ _ (ld _ 3 _ rfl _ ?_))
      have hlenA : ∀ (s : Sto) (K : AV → Prop), K (I64 ts.length) → wLen s a K := by
        intro s K h
        simp only [wLen, ha.lenA, wO, rowsT_len]
        exact h
      refine hlenA _ _ (in_eql ?_)
      by_cases hz : ts.length = 0
      · have b0 : ((ts.length : Int) == 0) = true := by rw [hz]; rfl
        have b1 : (ts.length == 0) = true := by rw [hz]; rfl
        rw [b0]
        refine co_t (fad _ _ (ld _ 1 _ rfl _ ?_))
        exact fin _ (by rw [fmt_eq _ _ _ _ _ _ (by omega), b1]; rfl) _
      · have b0 : ((ts.length : Int) == 0) = false := by rw [aLs0088]; omega
        have b1 : (ts.length == 0) = false := by simpa using hz
        rw [b0]
        refine co_f (p37_2 (fad _ _ (ld _ 1 _ rfl _ (st_add (by simp; omega) ?_))))
        exact lst _ (by rw [fmt_eq _ _ _ _ _ _ (by omega), b1]; rfl)
    have b2 : (k == 2) = false := by simpa using h2
    rw [b2]
    refine co_f (in_eql ?_)
    by_cases h3 : k = 3
    · subst h3
      exact co_t (lst _ (by rw [fmt_eq _ _ _ _ _ _ (by omega)]; rfl))
    have b3 : (k == 3) = false := by simpa using h3
    rw [b3]
    have h4 : k = 4 := by omega
    subst h4
    exact co_f (lst _ (by rw [fmt_eq _ _ _ _ _ _ (by omega)]; rfl))
theorem rfmts_spec {N : List (List UInt8)} {nm : AV} (hnm : RowsA nm (strRows N)) : ∀ (l : List Ty), validL l = true → smallVs l = true → ∀ t ∈ l, ∀ (sc : List (List UInt8)), (∀ w ∈ sc, w.length ≤ 24) → N.length + sc.length + depth t < 260 → size t < 2 ^ 30 → RFmtS R N nm t sc
  | [], _, _, _, h => by cases h
  | e :: l, hv, hsm, t, h => by
    simp only [validL, aLs0002] at hv
    simp only [smallVs, aLs0002] at hsm
    rcases aLs0006.1 h with h' | h'
    · rw [h']
      exact rfmt_spec hnm e hv.1 hsm.1
    · exact rfmts_spec hnm l hv.2 hsm.2 t h'
end
end
section
variable {R : Nat → Option (List PV)}
theorem rformat_spec {t : Ty} (h : size t < 2 ^ 60) (ho : okT t) (hsm : smallV t = true) {x : AV} (hx : TRep t x) : PureC (env R) 12 [x] fun r => r = SS (textT t) := by
  have ev := rvalidate_spec (R := R) h ho hx
  have hx' := hx
  obtain ⟨k, n, i, ts⟩ := t
  obtain ⟨a, rfl, ha⟩ := hx
  suffices H : ∀ Post : AV → Prop, Post (SS (textT (.mk k n i ts))) → P12_0 R 0 0 0 (.agg [I64 k, SS n, I64 i, a]) ⟨[], []⟩ (QP Post) from
    e12 (u0 := .agg [I64 k, SS n, I64 i, a]) (by simp [ha.close]) (H _ rfl)
  intro Post hP
  refine p12_0 ?_
  simp [ha.ok]
  refine wCall_pure ev ?_
  rintro r rfl
  by_cases h0 : verdict (.mk k n i ts) = 0
  · obtain ⟨z1, z2, z3⟩ := verdict_zero h0
    have ht : textT (.mk k n i ts) = fmt (noms (.mk k n i ts)) (.mk k n i ts) [] := by
      unfold textT
      rw [h0]
      rfl
    rw [h0]
    simp
    refine p12_1 ?_
    have hld : ∀ (m : List (List AV)) (t : List (Nat × TypeId)) (K : AV → Prop), K (.agg [I64 k, SS n, I64 i, a]) → wLd (env R) ⟨[I64 k, SS n, I64 i, a] :: m, t⟩ (some 4) (.ptr 0 0) K := by
      intro m t K h
      simp
      exact h
    refine hld _ _ _ (hld _ _ _ ?_)
    refine wCall_pure (rnames_spec (by omega) hx') ?_
    rintro r ⟨N, hN, hmem, hlen⟩
    rw [ht] at hP
    have hfc := fmt_congr (N := N) (M := noms (.mk k n i ts)) hmem (.mk k n i ts) []
    rw [← hfc] at hP
    refine wCall_pure (rfmt_spec (R := R) hN (.mk k n i ts) z3 hsm [] (fun _ h => by cases h) (by simp; omega) (by omega) _ (.capped []) hx' (.inl (by simp [strRows]; exact .capped _))) ?_
    rintro r rfl
    refine ⟨hld _ _ _ ?_, ?_⟩
    · simp [eqA, eqAL, eqP, eqV_int, eqV_str, eqA_self (.inl ha)]
    · exact ⟨SS (fmt N (.mk k n i ts) []), by simp, hP⟩
  · have b0 : (verdict (.mk k n i ts) == 0) = false := by simpa using h0
    have ht : textT (.mk k n i ts) = [] := by
      unfold textT
      rw [b0]
      rfl
    rw [ht] at hP
    simp [QP, QI, h0]
    exact hP
end
def TRepO (v : Ty) (x : AV) : Prop := match v with
  | .mk k n i ts => ∃ a, x = .agg [I64 k, SS n, I64 i, a] ∧ RowsO a (rowsT ts)
theorem TRepO.closed {v : Ty} {x : AV} (h : TRepO v x) : ∃ x', close [] 0 0 x = some x' ∧ TRep v x' ∧ close [] 0 0 x' = some x' := by
  obtain ⟨k, n, i, ts⟩ := v
  obtain ⟨a, rfl, ha⟩ := h
  obtain ⟨a', h1, h2⟩ := ha.closed [] 0
  exact ⟨.agg [I64 k, SS n, I64 i, a'], by simp [h1], ⟨a', rfl, h2⟩, by simp [h2.close]⟩
def TyB (B : Nat) (t : Ty) : Prop := okT t ∧ smallV t = true ∧ size t ≤ B
theorem TyB.mono {B C : Nat} {t : Ty} (h : TyB B t) (hl : B ≤ C) : TyB C t := ⟨h.1, h.2.1, aLs0057 h.2.2 hl⟩
theorem TyB.leaf {B : Nat} {k i : Int} {n : List UInt8} (hn : n.length < 2 ^ 60) (hi : i < 100) (hB : 0 < B) : TyB B (.mk k n i []) := by
  refine ⟨?_, ?_, ?_⟩
  · simp only [okT, okTs]
    exact ⟨hn, aLs0000⟩
  · simp [smallV, smallVs, hi]
  · simp only [size, sizeL]
    omega
def TysB (B : Nat) (l : List Ty) : Prop := okTs l ∧ smallVs l = true ∧ sizeL l ≤ B
theorem TysB.nil {B : Nat} : TysB B [] := by simp [TysB, okTs, smallVs, sizeL]
theorem TysB.cons {B C D : Nat} {t : Ty} {l : List Ty} (h : TyB B t) (h' : TysB C l) (hl : B + C ≤ D) : TysB D (t :: l) := by
  obtain ⟨a1, a2, a3⟩ := h
  obtain ⟨b1, b2, b3⟩ := h'
  refine ⟨⟨a1, b1⟩, ?_, ?_⟩
  · simp [smallVs, a2, b2]
  · simp only [sizeL]; omega
theorem TysB.snoc : ∀ {l : List Ty} {B C D : Nat} {t : Ty}, TysB C l → TyB B t → B + C ≤ D → TysB D (l ++ [t])
  | [], B, C, D, t, _, h, hl => TysB.cons h TysB.nil (C := 0) (by omega)
  | u :: l, B, C, D, t, h', h, hl => by
    obtain ⟨b1, b2, b3⟩ := h'
    simp only [okTs] at b1
    simp only [smallVs, aLs0002] at b2
    simp only [sizeL] at b3
    have := TysB.snoc (C := sizeL l) (D := B + sizeL l) ⟨b1.2, b2.2, aLs0005 _⟩ h (aLs0005 _)
    exact TysB.cons (B := size u) ⟨b1.1, b2.1, aLs0005 _⟩ this (by omega)
theorem TyB.node {B : Nat} {k i : Int} {n : List UInt8} {l : List Ty} (hn : n.length < 2 ^ 60) (hi : i < 100) (h : TysB B l) : TyB (B + 1) (.mk k n i l) := by
  obtain ⟨b1, b2, b3⟩ := h
  refine ⟨?_, ?_, ?_⟩
  · simp only [okT]
    exact ⟨hn, b1⟩
  · simp [smallV, b2, hi]
  · simp only [size]
    omega
mutual
theorem clos_mono {u v : Nat} (h : u ≤ v) : ∀ t : Ty, clos u t = true → clos v t = true
  | .mk k n i ts, hc => by
    simp only [clos] at hc ⊢
    cases hb : (k == 5 && decide ((u : Int) ≤ i)) with
    | true => rw [hb] at hc; simp at hc
    | false =>
      rw [hb] at hc
      have : (k == 5 && decide ((v : Int) ≤ i)) = false := by
        simp only [aLs0120, aLs0121] at hb ⊢
        rcases hb with hb | hb
        · exact .inl hb
        · exact .inr (by omega)
      rw [this]
      exact closL_mono h k 0 ts hc
theorem closL_mono {u v : Nat} (h : u ≤ v) (k : Int) : ∀ (j : Nat) (l : List Ty), closL u k j l = true → closL v k j l = true
  | _, [], _ => rfl
  | j, t :: l, hc => by
    simp only [closL, aLs0002] at hc ⊢
    exact ⟨clos_mono (by omega) t hc.1, closL_mono h k (j + 1) l hc.2⟩
end
theorem closL_all {v : Nat} {k : Int} (h6 : k ≠ 6) : ∀ (j : Nat) (l : List Ty), (∀ t ∈ l, clos v t = true) → closL v k j l = true
  | _, [], _ => rfl
  | j, t :: l, h => by
    have b6 : (k == 6) = false := by simpa using h6
    simp only [closL, aLs0002]
    refine ⟨?_, closL_all h6 (j + 1) l fun u hu => h u (aLs0046 _ hu)⟩
    have := h t (by simp)
    simpa [bnd, b6] using this
def TyV (v B : Nat) (t : Ty) : Prop := TyB B t ∧ clos v t = true
def TysV (v B : Nat) (l : List Ty) : Prop := TysB B l ∧ ∀ t ∈ l, clos v t = true
theorem TyV.mono {v B C : Nat} {t : Ty} (h : TyV v B t) (hl : B ≤ C) : TyV v C t := ⟨h.1.mono hl, h.2⟩
theorem TyV.up {u v B : Nat} {t : Ty} (h : TyV u B t) (hl : u ≤ v) : TyV v B t := ⟨h.1, clos_mono hl t h.2⟩
theorem TyV.leaf {v B : Nat} {k i : Int} {n : List UInt8} (hn : n.length < 2 ^ 60) (hi : i < 100) (hB : 0 < B) (hv : k = 5 → i < v) : TyV v B (.mk k n i []) := by
  refine ⟨TyB.leaf hn hi hB, ?_⟩
  simp only [clos, closL]
  have : (k == 5 && decide ((v : Int) ≤ i)) = false := by
    simp only [aLs0120, aLs0121, aLs0088, ne_eq]
    by_cases h5 : k = 5
    · exact .inr (by have := hv h5; omega)
    · exact .inl h5
  rw [this]
  rfl
theorem TysV.nil {v B : Nat} : TysV v B [] := ⟨TysB.nil, fun _ h => by cases h⟩
theorem TysV.cons {v B C D : Nat} {t : Ty} {l : List Ty} (h : TyV v B t) (h' : TysV v C l) (hl : B + C ≤ D) : TysV v D (t :: l) :=
  ⟨TysB.cons h.1 h'.1 hl, fun u hu => by
    rcases aLs0006.1 hu with rfl | hu
    · exact h.2
    · exact h'.2 u hu⟩
theorem TysV.snoc {v : Nat} {l : List Ty} {B C D : Nat} {t : Ty} (h' : TysV v C l) (h : TyV v B t) (hl : B + C ≤ D) : TysV v D (l ++ [t]) :=
  ⟨TysB.snoc h'.1 h.1 hl, fun u hu => by
    rcases aLs0016.1 hu with hu | hu
    · exact h'.2 u hu
    · simp only [aLs0054] at hu; rw [hu]; exact h.2⟩
theorem TyV.node {v B : Nat} {k i : Int} {n : List UInt8} {l : List Ty} (hn : n.length < 2 ^ 60) (hi : i < 100) (h : TysV v B l) (hk : k ≠ 5 ∧ k ≠ 6) : TyV v (B + 1) (.mk k n i l) := by
  refine ⟨TyB.node hn hi h.1, ?_⟩
  have b5 : (k == 5) = false := by simpa using hk.1
  simp only [clos, b5, aLs0063, aLs0009]
  exact closL_all hk.2 0 l h.2
theorem TyV.pair {v B C D : Nat} {k : Int} {t u : Ty} (hk : k ≠ 5 ∧ k ≠ 6) (h : TyV v B t) (h' : TyV v C u) (hl : B + C + 1 ≤ D) : TyV v D (.mk k [] 0 [t, u]) :=
  (TyV.node (B := B + C) (by simp) (by omega) (TysV.cons h (TysV.cons h' TysV.nil (C := 0) (aLs0005 _)) (aLs0005 _)) hk).mono hl
theorem TyV.ex {v B C D : Nat} {t u : Ty} (h : TyV 0 B t) (h' : TyV (v + 1) C u) (hl : B + C + 1 ≤ D) : TyV v D (.mk 6 [] 0 [t, u]) := by
  refine ⟨((TyB.node (B := B + C) (by simp) (by omega) (TysB.cons h.1 (TysB.cons h'.1 TysB.nil (C := 0) (aLs0005 _)) (aLs0005 _)))).mono hl, ?_⟩
  have h1 := clos_mono (aLs0042 v) t h.2
  have h2 := h'.2
  simp [clos, closL, bnd, h1, h2]
theorem rowsT_append (l m : List Ty) : rowsT (l ++ m) = rowsT l ++ rowsT m := by simp [rowsT_eq]
theorem rowT_ok (v : Ty) : ((rowT v).map AV.pv).all okCell = true := by cases v; simp [rowT, okI, okS, okL]
theorem ApdT.eqA {lo : Nat} {ts : List (Nat × Nat)} {k : Nat} {a : AV} {es : List Ty} (h : Apd lo ts k a (rowsT es)) : Tel.eqA a a = true := by
  rcases h with rfl | ⟨t, rfl, _⟩
  · simp [Tel.eqA, eqPLL_rows]
  · simp [Tel.eqA, eqPLL_rows]
section
variable {bs : List (List AV)} {id : Nat} {l : Src}
theorem QM_ty {rr : Bool} {N : Nat} (hB : Base bs id l) {m r : List (List AV)} (hm : LocB bs m) {k : Nat} {ts : List (Nat × Nat)} {Post : AV → Sto → Prop} (hN : N = bs.length + m.length) {c i : Int} {n : List UInt8} {es : List Ty} {a : AV} (ha : RowsO a (rowsT es))
    (h : ∀ x, TRepO (.mk c n i es) x → Post x ⟨ST bs id l k ++ m, ts⟩) : QM rr N Post (.agg [I64 c, SS n, I64 i, a]) ⟨ST bs id l k ++ (m ++ r), ts⟩ := by
  subst hN
  have e : (ST bs id l k ++ (m ++ r)).take (bs.length + m.length) = ST bs id l k ++ m := by
    rw [← aLs0023, aLs0111 (by simp [ST_len]), aLs0019 (by simp [ST_len])]
  obtain ⟨a', h1, h2⟩ := ha.close (ST bs id l k ++ (m ++ r)) (bs.length + m.length) ts.length
  refine QM_agg (ds := [I64 c, SS n, I64 i, a']) ?_ (by simp [h1]) ?_
  · simp only [e]
    exact hB.all hm k
  · simp only [e]
    exact h _ ⟨a', rfl, h2⟩
variable {R : Nat → Option (List PV)}
theorem ty_leaf (hB : Base bs id l) {m r : List (List AV)} (hm : LocB bs m) {k : Nat} {ts : List (Nat × Nat)} {Post : AV → Sto → Prop} {rr : Bool} {N : Nat} {L' : Lim} {Z : List AV} (hZ : Z.length = 4) (hN : N = bs.length + m.length) (hro : L'.ro ≤ id) (hn0 : L'.n0 = 0) {c i : Int} {n : List UInt8} {es : List Ty} {a : AV} (ha : RowsO a (rowsT es))
    (h : ∀ x, TRepO (.mk c n i es) x → Post x ⟨ST bs id l k ++ m, ts⟩) :
    wSt L' ⟨ST bs id l k ++ (m ++ Z :: r), ts⟩ 4 (.ptr (bs.length + m.length) 0) (.agg [I64 c, SS n, I64 i, a]) fun s1 => wLd (env R) s1 (some 4) (.ptr (bs.length + m.length) 0) fun r => QM rr N Post r s1 := by
  have hlt := hB.lt
  obtain ⟨z0, z1, z2, z3, rfl⟩ : ∃ z0 z1 z2 z3, Z = [z0, z1, z2, z3] := by
    rcases Z with _ | ⟨a, _ | ⟨b, _ | ⟨c, _ | ⟨d, _ | ⟨e, l⟩⟩⟩⟩⟩ <;> simp at hZ
    exact ⟨_, _, _, _, rfl⟩
  simp [loc_get0, loc_set0, show L'.ro ≤ bs.length + m.length by omega, hn0, ha.ok, ha.noBlk]
  exact QM_ty hB hm hN ha h
theorem tyO_leaf (hB : Base bs id l) {m r : List (List AV)} (hm : LocB bs m) {k : Nat} {ts : List (Nat × Nat)} {Post : AV → Sto → Prop} {rr : Bool} {N : Nat} {L' : Lim} {Z : List AV} (hZ : Z.length = 4) (hN : N = bs.length + m.length) (hro : L'.ro ≤ id) (hn0 : L'.n0 = 0) {t : Ty} {v : AV} (hv : TRepO t v)
    (h : ∀ x, TRepO t x → Post x ⟨ST bs id l k ++ m, ts⟩) :
    wSt L' ⟨ST bs id l k ++ (m ++ Z :: r), ts⟩ 4 (.ptr (bs.length + m.length) 0) v fun s1 => wLd (env R) s1 (some 4) (.ptr (bs.length + m.length) 0) fun r => QM rr N Post r s1 := by
  obtain ⟨c, n, i, es⟩ := t
  obtain ⟨a, rfl, ha⟩ := hv
  exact ty_leaf hB hm hZ hN hro hn0 ha h
theorem namedA_spec {n : List UInt8} {a : AV} {rows : List (List PV)} (ha : RowsA a rows) : PureC (env R) 36 [SS n, a] fun r => r = .agg [I64 2, SS n, I64 0, a] := by
  refine e36 (u0 := SS n) (u1 := a) (by simp [ha.close]) (p36_0 ?_)
  simp [QP, QI, ha.ok, ha.cells, ha.close]
theorem unionA_spec {a : AV} {rows : List (List PV)} (ha : RowsA a rows) : PureC (env R) 49 [a] fun r => r = .agg [I64 4, SS [], I64 0, a] := by
  refine e49 (u0 := a) (by simp [ha.close]) (p49_0 ?_)
  simp [QP, QI, ha.ok, ha.cells, ha.close]
end
def DeclRow (r : List PV) : Prop := ∃ (name : List UInt8) (n : Nat) (rest : List PV), r = .sc (.string ⟨name.toArray⟩) :: .sc (.int .i64 n) :: rest ∧ rest.length = 6 ∧ n ≤ 2 ∧ name.length < 2 ^ 50 ∧ (r.map AV.pv).all okCell = true
structure Decls (v : AV) (rows : List (List PV)) : Prop where
  rep : RowsO v rows
  row : ∀ r ∈ rows, DeclRow r
  len : rows.length < 100
section
variable {bs : List (List AV)} {id : Nat} {l : Src} {R : Nat → Option (List PV)}
def GenT (R : Nat → Option (List PV)) (bs : List (List AV)) (id : Nat) (l : Src) (dv : AV) (f : FuncId) (d : Int) (rank : Nat) (μ : Nat) : Prop := ∀ {m : List (List AV)}, LocB bs m → ∀ {k : Nat}, k ≤ l.length → ∀ (vars : Nat), (vars : Int) + d ≤ 90 → (l.length - k) * 100 + rank < μ → ∀ (L : Lim), L.ro ≤ id → ∀ (ts : List (Nat × Nat)), L.rt ≤ ts.length →
    ∃ v s', (∃ t k' x, TRepO t v ∧ TyV vars (8 * (k' - k) + 1) t ∧ k ≤ k' ∧ k' ≤ l.length ∧ s' = ⟨ST bs id l k' ++ m, ts ++ x⟩) ∧ CallE (env R) L f [.ptr id 0, dv, I64 d, I64 vars] ⟨ST bs id l k ++ m, ts⟩ v s'
abbrev Z4 : List AV := [I64 0, SS [], I64 0, .capped []]
theorem Z4_ids {m : List (List AV)} (hm : LocB bs m) : LocB bs (m ++ [Z4]) := locB_push hm (by simp [idsLtL, idsLt])
theorem decl_get {dv : AV} {rows : List (List PV)} (hd : Decls dv rows) {r : Int} (h0 : 0 ≤ r) (h1 : r < rows.length) : ∃ row, rows[r.toNat]? = some row ∧ DeclRow row ∧ row.length = 8 := by
  obtain ⟨row, hr⟩ : ∃ row, rows[r.toNat]? = some row := ⟨_, aLs0008 (by omega)⟩
  have h := hd.row row (aLs0013 hr)
  refine ⟨row, hr, h, ?_⟩
  obtain ⟨name, n, rest, rfl, h6, _⟩ := h
  simp [h6]
theorem leaf_name {W : List (List UInt8)} (hW : (env R).G 4 = some (strRow W)) (h4 : W.length = 4) (sW : Short W) {r : Int} (h0 : 0 ≤ r) (h1 : r < 4) : ∃ w, W[r.toNat]? = some w ∧ w.length < 2 ^ 60 := by
  obtain ⟨w, hw⟩ : ∃ w, W[r.toNat]? = some w := ⟨_, aLs0008 (by omega)⟩
  exact ⟨w, hw, sW.1 w (aLs0013 hw)⟩
theorem named_step (hB : Base bs id l) {W : List (List UInt8)} (hW : (env R).G 4 = some (strRow W)) (h4 : W.length = 4) (sW : Short W) {dv : AV} {rows : List (List PV)} (hD : Decls dv rows) (μ : Nat)
    (iha : ∀ e : Int, -1 ≤ e → e ≤ 20 → GenT R bs id l dv 51 e (3 * (e + 1).toNat) μ) (d : Nat) (hd : d ≤ 20) : GenT R bs id l dv 48 d (3 * d + 1) (μ + 1) := by
  intro m hm k hk vars hvars hμ L hro ts hrt
  have hlen := hB.len
  have hlt := hB.lt
  suffices H : ∀ (rr : Bool) (N : Nat) (Post : AV → Sto → Prop), N = bs.length + m.length → (∀ t v k' x, TRepO t v → TyV vars (8 * (k' - k) + 1) t → k ≤ k' → k' ≤ l.length → Post v ⟨ST bs id l k' ++ m, ts ++ x⟩) → P48_0 R 0 L.ro L.rt (.ptr id 0) dv (I64 d) (I64 vars) ⟨ST bs id l k ++ m, ts⟩ (QM rr N Post) from
    m48 (by simp [noIdL, noId]) (H _ _ _ (by simp [ST_len]) fun t v k' x h1 h2 h3 h4 => ⟨t, k', x, h1, h2, h3, h4, rfl⟩)
  intro rr N Post hN hP
  have hrl := hD.len
  have g1 : ∀ n, L.ro ≤ bs.length + m.length + n := fun n => by omega
  refine p48_0 ?_
  simp only [wNew, aLs0023, aLs0011, ST_len]
  have hlenD : ∀ (s : Sto) (K : AV → Prop), K (I64 rows.length) → wLen s dv K := by
    intro s K h
    simp only [wLen, hD.rep.lenA, wO]
    exact h
  refine hlenD _ _ (in_add (by omega) (by omega) ?_)
  refine wCall_do (next_spec2 (n := (rows.length : Int) + 4) hB (Z4_ids hm) hk (by omega) (by omega) _ (by simpa [LFE] using hro) ts) ?_
  rintro v s1 ⟨r, k1, rfl, hr1, hr2, hk1, hk2, hk3, rfl⟩
  refine in_lss ?_
  by_cases hr : r < 4
  · have b4 : decide (r < 4) = true := by simpa using hr
    rw [b4]
    obtain ⟨w, hw, hwl⟩ := leaf_name hW h4 sW hr1 hr
    refine co_t (ld_glob hW (idx_str hr1 hw (ld_str ?_)))
    refine wCall_pure (namedA_spec (.capped [])) ?_
    rintro v rfl
    exact ty_leaf (R := R) (Post := Post) (rr := rr) (N := N) (k := k1) (ts := ts) (Z := Z4) (r := []) (es := []) (a := .capped []) (c := 2) (i := 0) (n := w) (L' := LFE (env R) 48 0 L.ro L.rt) hB hm rfl hN hro rfl (by simp [rowsT]; exact .inl (.capped _)) (fun x hx => by
      have := hP _ x k1 [] hx (TyV.leaf hwl (by omega) (by omega) (by omega)) hk1 hk2
      simpa using this)
  · have b4 : decide (r < 4) = false := by simpa using hr
    rw [b4]
    have hkk : k < k1 := hk3 (by omega)
    obtain ⟨row, hrow, ⟨name, ar, rest, rfl, h6, har, hnl, hok⟩, h8⟩ := decl_get hD (r := r - 4) (by omega) (by omega)
    refine co_f (p48_1 (in_sub (by omega) (by omega) ?_))
    refine wIdx_rowsO hD.rep (row := .sc (.string ⟨name.toArray⟩) :: .sc (.int .i64 ar) :: rest) (by omega) hrow h8 (by omega) ?_
    have hld8 : ∀ (s : Sto) (K : AV → Prop), K (.agg ((.sc (.string ⟨name.toArray⟩) :: .sc (.int .i64 ar) :: rest).map AV.pv)) → wLd (env R) s (some 8) (.eptr (.sc (.string ⟨name.toArray⟩) :: .sc (.int .i64 ar) :: rest) 0) K := by
      intro s K h
      simp only [wLd, wPart, aLs0062, h8, aLs0040, xL, xM, xF, xG]
      refine ⟨by omega, ?_⟩
      rw [aLs0019 (by simp [h6])]
      exact h
    refine hld8 _ _ ?_
    simp only [wNew]
    have eA : ∀ (k : Nat) (b : List AV) (t : List (Nat × Nat)), (⟨(ST bs id l k ++ (m ++ [Z4])) ++ [b], t⟩ : Sto) = ⟨ST bs id l k ++ (m ++ [Z4, b]), t⟩ := fun k b t => by simp
    have eL : (ST bs id l k1 ++ (m ++ [Z4])).length = bs.length + m.length + 1 := by simp [ST_len]; omega
    simp only [eL, eA]
    have hst8 : ∀ K : Sto → Prop, K ⟨ST bs id l k1 ++ (m ++ [Z4, (PV.sc (.string ⟨name.toArray⟩) :: .sc (.int .i64 ar) :: rest).map AV.pv]), ts⟩ → wSt (LFE (env R) 48 0 L.ro L.rt) ⟨ST bs id l k1 ++ (m ++ [Z4, [(SS []), (I64 0), (I64 0), (SS []), (I64 0), (.capped []), (BB false), (.capped [])]]), ts⟩ 8 (.ptr (bs.length + m.length + 1) 0) (.agg ((PV.sc (.string ⟨name.toArray⟩) :: .sc (.int .i64 ar) :: rest).map AV.pv)) K := by
      intro K h
      have hce : cellsOf (.agg ((PV.sc (.string ⟨name.toArray⟩) :: .sc (.int .i64 ar) :: rest).map AV.pv)) = (PV.sc (.string ⟨name.toArray⟩) :: .sc (.int .i64 ar) :: rest).map AV.pv := rfl
      simp only [wSt, loc_get, aLs0027, aLs0017, wO, hce, aLs0062]
      refine ⟨⟨h8, by rw [h8]; simp, by have := g1 1; simp [LFE]; omega, hok, .inl (by simp [LFE]), by omega⟩, ?_⟩
      rw [loc_set]
      obtain ⟨x0, x1, x2, x3, x4, x5, rfl⟩ : ∃ x0 x1 x2 x3 x4 x5, rest = [x0, x1, x2, x3, x4, x5] := by
        rcases rest with _ | ⟨a, _ | ⟨b, _ | ⟨c, _ | ⟨d, _ | ⟨e, _ | ⟨f, _ | ⟨g, r⟩⟩⟩⟩⟩⟩⟩ <;> simp at h6
        exact ⟨_, _, _, _, _, _, rfl⟩
      simpa [setCells] using h
    refine hst8 _ ?_
    generalize hDB : (PV.sc (.string ⟨name.toArray⟩) :: .sc (.int .i64 ar) :: rest).map AV.pv = DB
    have hDB0 : DB[0]? = some (SS name) := by rw [← hDB]; rfl
    have hDB1 : DB[1]? = some (I64 ar) := by rw [← hDB]; rfl
    have hDBi : ∀ n, idsLtL n DB = true := by
      intro n
      rw [← hDB]
      clear hDB hld8 hst8 hok h8 hrow hDB0 hDB1
      generalize (PV.sc (.string ⟨name.toArray⟩) :: .sc (.int .i64 ar) :: rest) = R0
      induction R0 with
      | nil => rfl
      | cons p R0 ih => simpa [idsLtL, idsLt] using ih
    have hDBn : DB ≠ [] := by intro e; rw [e] at hDB0; simp at hDB0
    have alD : ∀ (k : Nat) (b : List AV) (t : List (Nat × Nat)), alive ⟨ST bs id l k ++ (m ++ Z4 :: DB :: [b]), t⟩ (bs.length + m.length + 1) = true := by
      intro k b t
      obtain ⟨c, r, hc⟩ : ∃ c r, DB = c :: r := by
        cases DB with
        | nil => exact absurd rfl hDBn
        | cons c r => exact ⟨c, r, rfl⟩
      simp only [alive, loc_get, aLs0027, aLs0017, hc]
    have fad0 : ∀ (K : AV → Prop), K (.ptr (bs.length + m.length + 1) 0) → wFad ⟨ST bs id l k1 ++ (m ++ [Z4, DB]), ts⟩ (.ptr (bs.length + m.length + 1) 0) 0 K := by
      intro K h
      obtain ⟨c, r, hc⟩ : ∃ c r, DB = c :: r := by
        cases DB with
        | nil => exact absurd rfl hDBn
        | cons c r => exact ⟨c, r, rfl⟩
      refine ⟨?_, h⟩
      simp only [alive, loc_get, aLs0027, aLs0017, hc]
    have ld0 : ∀ (K : AV → Prop), K (SS name) → wLd (env R) ⟨ST bs id l k1 ++ (m ++ [Z4, DB]), ts⟩ none (.ptr (bs.length + m.length + 1) 0) K := by
      intro K h
      simp only [wLd, loc_get, aLs0027, aLs0017, wO, wPart, hDB0, xL, xM, xF, xG]
      exact h
    refine fad0 _ (ld0 _ ?_)
    refine bd_of (cs := [I64 2, SS name, I64 0, .capped []]) (by simp) ?_
    have eA2 : ∀ (k : Nat) (b : List AV) (t : List (Nat × Nat)), (⟨(ST bs id l k ++ (m ++ [Z4, DB])) ++ [b], t⟩ : Sto) = ⟨ST bs id l k ++ (m ++ [Z4, DB, b]), t⟩ := fun k b t => by simp
    have eL2 : (ST bs id l k1 ++ (m ++ [Z4, DB])).length = bs.length + m.length + 2 := by simp [ST_len]; omega
    simp only [eL2, eA2]
    have hst4 : ∀ K : Sto → Prop, K ⟨ST bs id l k1 ++ (m ++ [Z4, DB, [I64 2, SS name, I64 0, .capped []]]), ts⟩ → wSt (LFE (env R) 48 0 L.ro L.rt) ⟨ST bs id l k1 ++ (m ++ [Z4, DB, Z4]), ts⟩ 4 (.ptr (bs.length + m.length + 2) 0) (.agg [I64 2, SS name, I64 0, .capped []]) K := by
      intro K h
      have := g1 2
      simp [loc_get, loc_set, this]
      exact h
    refine hst4 _ ?_
    have loop : ∀ (j q k2 : Nat) (x : List (Nat × Nat)) (a : AV) (es : List Ty), q + j = ar → k1 ≤ k2 → k2 ≤ l.length → es.length = q → TysV vars (8 * (k2 - k1) + q) es → Apd ts.length (ts ++ x) 25 a (rowsT es) →
        P48_2 R 0 L.ro L.rt (.ptr id 0) dv (I64 d) (I64 vars) (.ptr (bs.length + m.length) 0) (.ptr (bs.length + m.length + 1) 0) (.ptr (bs.length + m.length + 2) 0) (I64 q) ⟨ST bs id l k2 ++ (m ++ [Z4, DB, [I64 2, SS name, I64 0, a]]), ts ++ x⟩ (QM rr N Post) := by
      intro j
      induction j with
      | zero =>
        intro q k2 x a es hq hk1' hk2' hes hqs ha
        have ho := ha.rowsO
        refine p48_2 ⟨alD _ _ _, ?_⟩
        simp only [wLd, loc_get, aLs0027, aLs0017, wO, wPart, aLs0031, hDB1, xL, xM, xF, xG]
        refine in_lss ?_
        have h1 : ¬ ((q : Int) < ar) := by omega
        simp only [h1, aLs0080]
        refine co_f (p48_4 ?_)
        have := ty_leaf (R := R) (Post := Post) (rr := rr) (N := N) (k := k2) (ts := ts ++ x) (Z := Z4) (r := [DB, [I64 2, SS name, I64 0, a]]) (L' := LFE (env R) 48 0 L.ro L.rt) hB hm rfl hN hro rfl ho (c := 2) (i := 0) (n := name) (fun y hy => hP _ y k2 x hy ((TyV.node (by omega) (by omega) hqs (by omega)).mono (by omega)) (by omega) hk2')
        simpa [wLd, wO, wPart, loc_get] using this
      | succ j ihj =>
        intro q k2 x a es hq hk1' hk2' hes hqs ha
        have ho := ha.rowsO
        refine p48_2 ⟨alD _ _ _, ?_⟩
        simp only [wLd, loc_get, aLs0027, aLs0017, wO, wPart, aLs0031, hDB1, xL, xM, xF, xG]
        refine in_lss ?_
        have h1 : ((q : Int) < ar) := by omega
        simp only [h1, aLs0087]
        refine co_t (p48_3 ?_)
        have hm2 : LocB bs (m ++ [Z4, DB, [I64 2, SS name, I64 0, a]]) := locB_push hm (by
          intro b hb
          simp only [aLs0006, aLs0048, aLs0049] at hb
          rcases hb with rfl | rfl | rfl
          · simp [idsLtL, idsLt]
          · exact hDBi _
          · simp [idsLtL, idsLt, ho.idsLt])
        simp [loc_get, loc_get0, loc_set, loc_set0]
        refine wAri_fit (by omega) (by omega) ?_
        refine wCall_do (iha ((d : Int) - 1) (by omega) (by omega) hm2 hk2' vars (by omega) (by
          have : (l.length - k2) * 100 ≤ (l.length - k1) * 100 := aLs0034 _ (by omega)
          have : (l.length - k1 + 1) * 100 ≤ (l.length - k) * 100 := aLs0034 _ (by omega)
          omega) (LFE (env R) 48 0 L.ro L.rt) hro (ts ++ x) (by simp [LFE]; omega)) ?_
        rintro v s1 ⟨t, k3, x2, hv, hqn, hk4, hk5, rfl⟩
        obtain ⟨c1, n1, i1, es1⟩ := t
        obtain ⟨b, rfl, hb⟩ := hv
        simp [wBsl, repl, hb.ok, hb.toPV, loc_get, loc_get0, loc_set, loc_set0]
        have hrow : rowsBy 4 1 [PV.sc (.int .i64 c1), .sc (.string ⟨n1.toArray⟩), .sc (.int .i64 i1), .list (rowsT es1)] = [rowT (.mk c1 n1 i1 es1)] := by simp [rowsBy, rowT]
        rw [hrow]
        have ha2 : Apd ts.length (ts ++ (x ++ x2)) 25 a (rowsT es) := by
          rw [← aLs0023]
          exact ha.grow
        refine wApp_row ha2 hrt (fun r hr => rowsT_four r hr) (rowT_len _) (by omega) (rowT_ok _) (by simp [rowsT_len]; omega) (by simp [rowsT_len]; omega) ?_
        intro a' x' ha'
        have ho' := ha'.rowsO
        have := g1 2
        simp [loc_get, loc_get0, loc_set, loc_set0, ho'.ok, ho'.cells, ho'.noBlk, this]
        refine ⟨by simp [eqA], ?_, ?_⟩
        · simpa [ApdT.eqA] using ApdT.eqA ha
        refine p48_5 (in_add (by omega) (by omega) ?_)
        have ha3 : Apd ts.length (ts ++ x') 25 a' (rowsT (es ++ [.mk c1 n1 i1 es1])) := by
          rw [rowsT_append]
          simpa [rowsT] using ha'
        have := ihj (q + 1) k3 x' a' (es ++ [.mk c1 n1 i1 es1]) (by omega) (by omega) hk5 (by simp; omega) (TysV.snoc hqs hqn (by omega)) ha3
        simpa using this
    have := loop ar 0 k1 [] (.capped []) [] (by omega) (aLs0005 _) hk2 rfl TysV.nil (.inl (by simp [rowsT]))
    simpa using this
end
section
variable {bs : List (List AV)} {id : Nat} {l : Src} {R : Nat → Option (List PV)}
theorem arg_step (hB : Base bs id l) {W : List (List UInt8)} (hW : (env R).G 4 = some (strRow W)) (h4 : W.length = 4) (sW : Short W) {dv : AV} (μ : Nat)
    (ihn : ∀ d : Nat, d ≤ 20 → GenT R bs id l dv 48 d (3 * d + 1) μ) (iht : ∀ d : Nat, d ≤ 20 → GenT R bs id l dv 26 d (3 * d + 2) μ) (e : Int) (he : -1 ≤ e) (he2 : e ≤ 20) : GenT R bs id l dv 51 e (3 * (e + 1).toNat) (μ + 1) := by
  intro m hm k hk vars hvars hμ L hro ts hrt
  have hlen := hB.len
  have hlt := hB.lt
  suffices H : ∀ (rr : Bool) (N : Nat) (Post : AV → Sto → Prop), N = bs.length + m.length → (∀ t v k' x, TRepO t v → TyV vars (8 * (k' - k) + 1) t → k ≤ k' → k' ≤ l.length → Post v ⟨ST bs id l k' ++ m, ts ++ x⟩) → P51_0 R 0 L.ro L.rt (.ptr id 0) dv (I64 e) (I64 vars) ⟨ST bs id l k ++ m, ts⟩ (QM rr N Post) from
    m51 (by simp [noIdL, noId]) (H _ _ _ (by simp [ST_len]) fun t v k' x h1 h2 h3 h4 => ⟨t, k', x, h1, h2, h3, h4, rfl⟩)
  intro rr N Post hN hP
  have hm' := Z4_ids hm
  have fin : ∀ (k1 : Nat) (x : List (Nat × Nat)) (t : Ty) (v : AV), TRepO t v → TyV vars (8 * (k1 - k) + 1) t → k ≤ k1 → k1 ≤ l.length → wSt (LFE (env R) 51 0 L.ro L.rt) ⟨ST bs id l k1 ++ (m ++ [Z4]), ts ++ x⟩ 4 (.ptr (bs.length + m.length) 0) v fun s1 => wLd (env R) s1 (some 4) (.ptr (bs.length + m.length) 0) fun r => QM rr N Post r s1 :=
    fun k1 x t v hv hb h1 h2 => tyO_leaf (R := R) (Post := Post) (rr := rr) (N := N) (k := k1) (ts := ts ++ x) (Z := Z4) (r := []) (L' := LFE (env R) 51 0 L.ro L.rt) hB hm rfl hN hro rfl hv (fun y hy => hP t y k1 x hy hb h1 h2)
  have fin0 : ∀ (k1 : Nat) (t : Ty) (v : AV), TRepO t v → TyV vars (8 * (k1 - k) + 1) t → k ≤ k1 → k1 ≤ l.length → wSt (LFE (env R) 51 0 L.ro L.rt) ⟨ST bs id l k1 ++ (m ++ [Z4]), ts⟩ 4 (.ptr (bs.length + m.length) 0) v fun s1 => wLd (env R) s1 (some 4) (.ptr (bs.length + m.length) 0) fun r => QM rr N Post r s1 := by
    intro k1 t v hv hb h1 h2
    have := fin k1 [] t v hv hb h1 h2
    simpa using this
  refine p51_0 ?_
  simp only [wNew, aLs0023, aLs0011, ST_len]
  refine wCall_do (next_spec (n := 6) hB hm' hk (by omega) (by omega) _ (by simpa [LFE] using hro) ts) ?_
  rintro v s1 ⟨r, k1, rfl, hr1, hr2, hk1, hk2, rfl⟩
  have mu1 : (l.length - k1) * 100 ≤ (l.length - k) * 100 := aLs0034 _ (by omega)
  have rest : wInt .i64 .leq (I64 e) (I64 0) fun a25 =>
 wCond a25 (
 wLd (env R) ⟨ST bs id l k1 ++ (m ++ [Z4]), ts⟩ none (.gptr 4 0) fun a26 =>
 wCall (env R) (LFE (env R) 51 0 L.ro L.rt) (.func (.func 44) [] []) [(.ptr id 0), (I64 4)] ⟨ST bs id l k1 ++ (m ++ [Z4]), ts⟩ fun a28 s1x8 =>
 wIdx s1x8 1 a26 a28 fun a29 =>
 wLd (env R) s1x8 none a29 fun a30 =>
 wCall (env R) (LFE (env R) 51 0 L.ro L.rt) (.func (.func 36) [] []) [a30, (.capped [])] s1x8 fun a31 s1x9 =>
 wSt (LFE (env R) 51 0 L.ro L.rt) s1x9 4 (.ptr (bs.length + m.length) 0) a31 fun s1x10 =>
(wLd (env R) s1x8 none (.gptr 4 0) fun v => eqA v a26 = true) ∧
 wLd (env R) s1x10 (some 4) (.ptr (bs.length + m.length) 0) fun rx11 =>
 QM rr N Post rx11 s1x10) (
 wInt .i64 .lss (I64 r) (I64 4) fun a34 =>
 wCond a34 (
 wCall (env R) (LFE (env R) 51 0 L.ro L.rt) (.func (.func 48) [] []) [(.ptr id 0), dv, (I64 e), (I64 vars)] ⟨ST bs id l k1 ++ (m ++ [Z4]), ts⟩ fun a39 s1x12 =>
 wSt (LFE (env R) 51 0 L.ro L.rt) s1x12 4 (.ptr (bs.length + m.length) 0) a39 fun s1x13 =>
 wLd (env R) s1x13 (some 4) (.ptr (bs.length + m.length) 0) fun rx14 =>
 QM rr N Post rx14 s1x13) (
 P51_1 R 0 L.ro L.rt (.ptr id 0) dv (I64 e) (.ptr (bs.length + m.length) 0) ⟨ST bs id l k1 ++ (m ++ [Z4]), ts⟩ (QM rr N Post))) := by
    refine in_leq ?_
    by_cases h0 : e ≤ 0
    · have b0 : decide (e ≤ 0) = true := by simpa using h0
      rw [b0]
      refine co_t (ld_glob hW ?_)
      refine wCall_do (next_spec (n := 4) hB hm' hk2 (by omega) (by omega) _ (by simpa [LFE] using hro) ts) ?_
      rintro v s1 ⟨r2, k2, rfl, hr3, hr4, hk3, hk4, rfl⟩
      obtain ⟨w, hw, hwl⟩ := leaf_name hW h4 sW hr3 hr4
      refine idx_str hr3 hw (ld_str ?_)
      refine wCall_pure (namedA_spec (.capped [])) ?_
      rintro v rfl
      exact wSt_and (ld_glob hW (eqA_strRows W)) (fin0 k2 (.mk 2 w 0 []) _ ⟨_, rfl, by simp [rowsT]; exact .inl (.capped _)⟩ (TyV.leaf hwl (by omega) (by omega) (by omega)) (by omega) hk4)
    · have b0 : decide (e ≤ 0) = false := by simpa using h0
      rw [b0]
      obtain ⟨d, rfl⟩ := aLs0081 (show 0 ≤ e by omega)
      refine co_f (in_lss ?_)
      cases b4 : decide (r < 4) with
      | true =>
        refine co_t ?_
        refine wCall_do (ihn d (by omega) hm' hk2 vars (by omega) (by omega) (LFE (env R) 51 0 L.ro L.rt) hro ts (by simpa [LFE] using hrt)) ?_
        rintro v s1 ⟨t, k3, x, hv, hb, hk3, hk4, rfl⟩
        exact fin k3 x t v hv (hb.mono (by omega)) (by omega) hk4
      | false =>
        refine co_f (p51_1 (in_sub (by omega) (by omega) ?_))
        have e3 : ((d : Nat) : Int) - 1 = ((d - 1 : Nat) : Int) := by omega
        rw [e3]
        refine wCall_do (iht (d - 1) (by omega) hm' hk2 0 (by omega) (by omega) (LFE (env R) 51 0 L.ro L.rt) hro ts (by simpa [LFE] using hrt)) ?_
        rintro v s1 ⟨t, k3, x, hv, hb, hk3, hk4, rfl⟩
        exact fin k3 x t v hv ((hb.up (aLs0042 _)).mono (by omega)) (by omega) hk4
  refine in_lss ?_
  cases b2 : decide (r < 2) with
  | false => exact gk_f (by simp) (gk_f (by simp) (pk (co_f rest)))
  | true =>
    refine gk_t (gk_t (in_gtr (pk ?_)))
    by_cases hv0 : vars = 0
    · have b0 : decide ((vars : Int) > 0) = false := by simp; omega
      rw [b0]
      exact co_f rest
    · have b0 : decide ((vars : Int) > 0) = true := by simp; omega
      rw [b0]
      refine co_t ?_
      refine wCall_do (next_spec (n := vars) hB hm' hk2 (by omega) (by omega) _ (by simpa [LFE] using hro) ts) ?_
      rintro v s1 ⟨r2, k2, rfl, hr3, hr4, hk3, hk4, rfl⟩
      refine wCall_pure (var_spec r2) ?_
      rintro v rfl
      exact fin0 k2 (.mk 5 [] r2 []) _ ⟨_, rfl, by simp [rowsT]; exact .inl (.capped _)⟩ (TyV.leaf (by simp) (by omega) (by omega) (by omega)) (by omega) hk4
end
end Go.Proofs.YtmipbilokjkjiaaGreatDoor
