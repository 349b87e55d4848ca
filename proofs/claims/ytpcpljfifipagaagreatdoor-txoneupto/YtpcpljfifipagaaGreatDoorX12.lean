/- A part of the proof: the engine that walks Go code, the walks of the broker, or their laws (TvEngY TvEngZ TvEngZ2 TvEngZ3 TvEngZ4 TvEngZ5 TvEngZ6). -/
import Derived.Test.YtpcpljfifipagaaGreatDoorX11
import Derived.Laws.Externs
set_option linter.unusedSimpArgs false
set_option linter.unusedVariables false
namespace Go.Eng
section
section
variable {P : Program} {D : Types} (hD : Types.ok P D) {E : Ent} {N : Nat} {M : Imm} {ψ : Psi} {s : AS} {a : Act} {w : World} {Q : AX → AS → Prop}
theorem RepL.deads {M : Imm} {ψ : Psi} (vs : List Value) : RepL M ψ (List.replicate vs.length .dead) vs := by
  induction vs with
  | nil => simp only [List.length_nil, List.replicate_zero, RepL]
  | cons v vs ih => simp only [List.length_cons, List.replicate_succ, RepL, Rep]; exact ⟨v, vs, rfl, trivial, ih⟩
theorem At.spread (h : At E N M ψ s a w) {l : Loc} {cs : List AV} {i : LI} (hg : s.g l = some cs) (hi : ψ l = some i) (n : Nat) (hn : cs.length + n ≤ i.sz) : At E N M ψ (s.obj l (cs ++ List.replicate n .dead)) a w := by
  have hgo : (s.obj l (cs ++ List.replicate n .dead)).g = upd s.g l (some (cs ++ List.replicate n .dead)) := AS.obj_g s l _
  have hs : ∀ x, (upd s.g l (some (cs ++ List.replicate n .dead)) x).isSome → (s.g x).isSome := by
    intro x hx
    by_cases e : x = l
    · subst e; rw [hg]; rfl
    · rwa [upd_other _ _ e] at hx
  refine ⟨?_, ?_, ?_, h.n, h.d⟩
  · rw [hgo]
    exact ⟨h.since.os, h.since.tape, h.since.output, h.since.size, h.since.blk, h.since.le, h.since.psi, h.since.newM, h.since.newψ, fun x i h1 h2 => h.since.live x i (hs x h1) h2⟩
  · rw [hgo]
    refine ⟨h.sr.imm, ?_, ?_, fun x x' i i' h1 h2 => h.sr.apart x x' i i' (hs x h1) (hs x' h2), fun x i h1 => h.sr.mt x i (hs x h1), fun k i m j h1 h2 h3 => h.sr.sep k i m j h1 (hs _ h2) h3, h.sr.lt, ?_⟩
    · intro x ds hx j hj
      by_cases e : x = l
      · subst e
        rw [upd_same] at hx
        cases hx
        rw [hi] at hj
        cases hj
        obtain ⟨vs, T, a1, a2, a3, a4, a5⟩ := h.sr.obj x cs hg i hi
        have hlen : (cs ++ List.replicate n AV.dead).length = cs.length + n := by simp
        refine ⟨vs, T, a1, a2, by rw [hlen]; exact hn, a4, ?_⟩
        rw [hlen, List.take_add]
        refine a5.append ?_
        have hl : ((vs.toList.drop cs.length).take n).length = n := by
          rw [List.length_take, List.length_drop, Array.length_toList]
          omega
        have := RepL.deads (M := M) (ψ := ψ.at x) ((vs.toList.drop cs.length).take n)
        rwa [hl] at this
      · rw [upd_other _ _ e] at hx; exact h.sr.obj x ds hx j hj
    · intro x ds hx hi'
      by_cases e : x = l
      · subst e
        rw [hi] at hi'; cases hi'
      · rw [upd_other _ _ e] at hx; exact h.sr.empt x ds hx hi'
    · obtain ⟨B, hB⟩ := h.sr.fin
      refine ⟨B, fun m hm => ⟨(hB m hm).1, ?_⟩⟩
      rw [upd_other]
      · exact (hB m hm).2
      · rintro rfl
        rw [(hB m hm).1] at hi; cases hi
  · cases l <;> exact h.sl
theorem J_extend {c : Code} (t : Nat) {l : Loc} {es off n cap : Nat} (ht : lookS s.S t = .oc l es off n cap) {cs : List AV} (hg : s.g l = some cs) (m : Nat) (hm : cs.length + m ≤ off + cap * es) (h : J P E N c Q (s.obj l (cs ++ List.replicate m .dead))) : J P E N c Q s := by
  intro M ψ a w hat
  have hr := hat.sl t
  rw [ht] at hr
  simp only [Rep] at hr
  obtain ⟨i, hi, hv, hnc, hcm, hsz⟩ := hr
  exact h M ψ a w (hat.spread hg hi m (by omega))
theorem frozen_none {w : World} {b : Nat} {vs : Array Value} {T : TypeId} (h : w.heap[b]? = some (.cells vs T (0, 0))) (o : Nat) : w.frozen? ⟨b, o, none⟩ = false := by
  simp [World.frozen?, h]
include hD in
theorem overlaps_of {f : FuncId} {fn : Func} {tS tR e : TypeId} {d : TD} {es0 sz0 by0 : Nat} {z0 : List Value} (hf : P.funcs[f]? = some fn) (hname : (fn.name == "runtime.NumGoroutine") = false)
    (hb : fn.body.isNone = true) (hn : Extern.findNext fn = none) (he : Extern.find fn = some (Extern.SlicesOverlaps.overlaps #[tS, tS] #[tR]))
    (hS : D tS = some ⟨.slice e, sz0, by0, z0⟩) (hE : D e = some d) {H : Heap} {n : Nat} {cs : List AV} (hH : H n = some cs) (m : Nat) (vc : List AV) (hvc : vc ≠ []) (es off k c : Nat) :
    PCalls P f [.sl m vc, .oc (.h n) es off k c] H fun r H' => r = .ret (.v (.bool false)) ∧ H' = H := by
  intro M ψ w vals hst hsr hr
  have ht : P.underlying tS = some (.slice e) := (hD _ _ hS).2
  simp only [RepL, Rep] at hr
  obtain ⟨u1, r1, rfl, ⟨a, cap, rfl, hm1, hm2, hm3⟩, u2, r2, rfl, ⟨i, hi, rfl, hk1, hk2, hk3⟩, rfl⟩ := hr
  obtain ⟨b, o, vs, rfl, himm, hrep⟩ := hm3 hvc
  obtain ⟨ws, T, g1, g2, g3, g4, g5⟩ := hsr.obj (.h n) cs hH i hi
  obtain ⟨v0, hv0⟩ : ∃ v0, vs[0]? = some v0 := by
    cases vs with
    | nil => have := hrep.length; cases vc with
      | nil => exact absurd rfl hvc
      | cons _ _ => simp at this
    | cons v vs => exact ⟨v, rfl⟩
  have hM := himm 0 v0 hv0
  have hne : b ≠ i.b := by
    rintro rfl
    have := hsr.mt (.h n) i (by show (H n).isSome = true; rw [hH]; rfl) hi (o + 0)
    rw [this] at hM; cases hM
  have hcell := (hsr.imm b (o + 0) v0 hM).1
  obtain ⟨cb, Tb, fb, hheap, hsz⟩ : ∃ cb Tb fb, w.heap[b]? = some (.cells cb Tb fb) ∧ 0 < cb.size := by
    simp only [World.cell?] at hcell
    split at hcell
    · rename_i cb Tb fb hq
      refine ⟨cb, Tb, fb, hq, ?_⟩
      simp at hcell
      have := (Array.getElem?_eq_some_iff.mp hcell).1
      omega
    · cases hcell
  refine .inr ⟨.bool false, w, ?_, M, ψ, H, .ret (.v (.bool false)), hst, Since.refl _ _ _ _, hsr, ⟨_, rfl, by simp only [Rep]⟩, rfl, rfl⟩
  rw [run_callFunc_extern hf hname hb hn he]
  have hsA : w.shape? b = some (Tb, cb.size) := by simp [World.shape?, hheap]
  have hsB : w.shape? i.b = some (T, ws.size) := by simp [World.shape?, g1]
  have hsz' := run_sizeOf (hD _ _ hE)
  have hnb : (b != i.b) = true := by simpa using hne
  have hnb' : (b == i.b) = false := by simpa using hne
  have hfb : ∀ o, w.frozen? ⟨i.b, o, none⟩ = false := frozen_none g1
  have key : (Extern.SlicesOverlaps.overlaps #[tS, tS] #[tR] #[.slice (some ⟨b, o, none⟩) m cap, .slice (some ⟨i.b, off, none⟩) k c]).run P w = .ok (.bool false) w := by
    change Sem.run P (α := Value) (do
      let some t := (#[tS, tS] : Array TypeId)[0]? | stuck "slices.overlaps: no parameter types"
      let .slice elem ← underlying t | stuck "slices.overlaps: slice type expected"
      let size ← sizeOf elem
      match (some ⟨b, o, none⟩ : Option Addr), (some ⟨i.b, off, none⟩ : Option Addr) with
      | some a, some b =>
        if m = 0 ∨ k = 0 ∨ size = 0 then pure (Value.bool false)
        else if a.block != b.block && (← frozen a) && (← frozen b) then unsupported .addressObserved
        else do
          if a.block != b.block then do
            noView a; noView b
            if ← mayBeOne a b then return Value.bool ((← choose (.extern "sameAddr.stringBytes" 2)) == 1)
          pure (Value.bool (a.block == b.block && a.off < b.off + k * size && b.off < a.off + m * size))
      | _, _ => pure (Value.bool false)) w = _
    by_cases h0 : m = 0 ∨ k = 0 ∨ d.size = 0
    · simp [run_underlying ht, hsz', h0]
    · have hcz : cb.size ≠ 0 := by omega
      cases hcs : cb.size with
      | zero => exact absurd hcs hcz
      | succ q =>
        rw [hcs] at hsA
        have hstr : w.frozen? ⟨b, o, none⟩ = true ∨ w.frozen? ⟨b, o, none⟩ = false := by cases w.frozen? ⟨b, o, none⟩ <;> simp
        rcases hstr with hfa | hfa
        · simp [run_underlying ht, hsz', h0, hnb, hnb', frozen, noView, viewAt, mayBeOne, stringish, shape, Sem.run, hsA, hsB, hfb, hfa]
        · have hq : w.frozen? ⟨b, q + 1, none⟩ = true ∨ w.frozen? ⟨b, q + 1, none⟩ = false := by cases w.frozen? ⟨b, q + 1, none⟩ <;> simp
          rcases hq with hfe | hfe <;>
          simp [run_underlying ht, hsz', h0, hnb, hnb', frozen, noView, viewAt, mayBeOne, stringish, shape, Sem.run, hsA, hsB, hfb, hfa, hfe]
  simp [key, Result.andThen]
end
end
section
section
variable {P : Program} {D : Types} {E : Ent} {N : Nat} {M : Imm} {ψ : Psi} {s : AS} {a : Act} {w : World} {Q : AX → AS → Prop}
theorem At.newNil (h : At E N M ψ s a w) : ∃ n, s.H n = none ∧ At E N M ψ { s with H := fun m => if m = n then some [] else s.H m } a w := by
  obtain ⟨B, hB⟩ := h.sr.fin
  obtain ⟨hψ, hH⟩ := hB B (Nat.le_refl _)
  have hH' : s.H B = none := hH
  have hg : ∀ l cs, (mkG s.L (fun m => if m = B then some [] else s.H m)) l = some cs → (s.g l = some cs) ∨ (l = .h B ∧ cs = []) := by
    intro l cs hl
    cases l with
    | l k => exact .inl hl
    | h n =>
      by_cases e : n = B
      · subst e
        simp only [mkG, if_true] at hl
        cases hl
        exact .inr ⟨rfl, rfl⟩
      · simp only [mkG, if_neg e] at hl
        exact .inl hl
  have hs : ∀ l, ((mkG s.L (fun m => if m = B then some [] else s.H m)) l).isSome → ∀ i, ψ l = some i → (s.g l).isSome := by
    intro l hl i hi
    obtain ⟨cs, hc⟩ := Option.isSome_iff_exists.mp hl
    rcases hg l cs hc with e | ⟨rfl, _⟩
    · rw [e]; rfl
    · rw [hψ] at hi; cases hi
  refine ⟨B, hH', ⟨h.since.os, h.since.tape, h.since.output, h.since.size, h.since.blk, h.since.le, h.since.psi, h.since.newM, h.since.newψ, fun l i h1 h2 => h.since.live l i (hs l h1 i h2) h2⟩,
    ⟨h.sr.imm, ?_, ?_, fun l l' i i' h1 h2 h3 h4 => h.sr.apart l l' i i' (hs l h1 i h3) (hs l' h2 i' h4) h3 h4, fun l i h1 h2 => h.sr.mt l i (hs l h1 i h2) h2, fun k i m j h1 h2 h3 => h.sr.sep k i m j h1 (hs _ h2 j h3) h3, h.sr.lt, ?_⟩, h.sl, h.n, h.d⟩
  · intro l cs hl i hi
    rcases hg l cs hl with e | ⟨rfl, _⟩
    · exact h.sr.obj l cs e i hi
    · rw [hψ] at hi; cases hi
  · intro l cs hl hi
    rcases hg l cs hl with e | ⟨_, e⟩
    · exact h.sr.empt l cs e hi
    · exact e
  · refine ⟨B + 1, fun m hm => ⟨(hB m (by omega)).1, ?_⟩⟩
    show (if m = B then some [] else s.H m) = none
    rw [if_neg (by omega)]
    exact (hB m (by omega)).2
theorem J_nil {c : Code} (t es : Nat) (ht : lookS s.S t = .sl0) (h : ∀ n, s.H n = none → J P E N c Q { s with S := setS s.S t (.os (.h n) es 0 0), H := fun m => if m = n then some [] else s.H m }) : J P E N c Q s := by
  intro M ψ a w hat
  obtain ⟨n, hn, hat'⟩ := hat.newNil
  have hr := hat.sl t
  rw [ht] at hr
  simp only [Rep] at hr
  refine h n hn M ψ a w (hat'.wit (t := t) (x := .os (.h n) es 0 0) ?_)
  simp only [Rep]
  exact .inl ⟨trivial, trivial, hr⟩
end
end
section
def drawOkR (ops : List Oper) (qs ts : List Nat) (lt : Nat → List Nat) : Bool :=
  let ms := masks ops
  let n := ops.length
  ((List.range n).all fun i => (qs.contains i != ts.contains i)) && (qs ++ ts).all (fun i => decide (i < n)) &&
  ((List.range n).all fun i => (List.range n).all fun j => i == j || (match ops[i]?, ops[j]? with
    | some a, some b => (match a.dst, b.dst with
      | some x, some y => x != y
      | _, _ => true) && (match b.dst with
      | some y => if (looks ops a).contains y && qs.contains j then bef ms i j else true
      | none => true)
    | _, _ => false)) &&
  ((List.range n).all fun i => match ops[i]? with
    | some a => (match a.dst with
      | some y => !(looks ops a).contains y
      | none => true)
    | none => false) &&
  (qs.all fun q => ts.all fun t => ((lt t).contains q || bef ms t q)) &&
  ((List.range ts.length).all fun i => (List.range i).all fun j => bef ms (ts.getD i 0) (ts.getD j 0)) &&
  ((List.range n).all fun i => match ops[i]? with
    | some a => (dirs a).all fun j => decide (j < i)
    | none => false) &&
  (qs.all fun q => match ops[q]? with
    | some a => a.dst.isSome
    | none => false)
def drawOk2R (cfg : Cfg) (ops : List Oper) (qs ts : List Nat) (lt : Nat → List Nat) : Bool :=
  (ts.all fun t => (lt t).all fun q => match ops[q]? with
    | some o => plainOp o.op && o.guard.isNone
    | none => false) &&
  (qs.all fun q => match ops[q]? with
    | some o => (isNew cfg o).isNone || o.guard.isNone
    | none => false) &&
  ((List.range qs.length).all fun i => (List.range i).all fun j => decide (qs.getD j 0 < qs.getD i 0))
structure DFR (cfg : Cfg) (ops : List Oper) (qs ts : List Nat) (lt : Nat → List Nat) : Prop where
  part : ∀ i, i < ops.length → (i ∈ qs ∨ i ∈ ts)
  excl : ∀ i, i ∈ qs → i ∉ ts
  ltq : ∀ i ∈ qs, i < ops.length
  ltt : ∀ i ∈ ts, i < ops.length
  dst : ∀ (i j : Nat) (a b : Oper) (x y : Nat), i ≠ j → ops[i]? = some a → ops[j]? = some b → a.dst = some x → b.dst = some y → x ≠ y
  rd : ∀ (i j : Nat) (a b : Oper) (y : Nat), i ≠ j → ops[i]? = some a → ops[j]? = some b → b.dst = some y → y ∈ looks ops a → j ∈ qs → bef (masks ops) i j = true
  own : ∀ (i : Nat) (a : Oper) (y : Nat), ops[i]? = some a → a.dst = some y → y ∉ looks ops a
  qt : ∀ q ∈ qs, ∀ t ∈ ts, q ∈ lt t ∨ bef (masks ops) t q = true
  tt : ∀ (i j : Nat), i < ts.length → j < i → bef (masks ops) (ts.getD i 0) (ts.getD j 0) = true
  dir : ∀ (i : Nat) (a : Oper), ops[i]? = some a → ∀ j ∈ dirs a, j < i
  qd : ∀ q ∈ qs, ∃ o k, ops[q]? = some o ∧ o.dst = some k
  pl : ∀ t ∈ ts, ∀ q ∈ lt t, ∀ o, ops[q]? = some o → plainOp o.op = true ∧ o.guard = none
  nw : ∀ q ∈ qs, ∀ o, ops[q]? = some o → isNew cfg o ≠ none → o.guard = none
  inc : ∀ (i j : Nat), i < qs.length → j < i → qs.getD j 0 < qs.getD i 0
theorem DFR.of {cfg : Cfg} {ops : List Oper} {qs ts : List Nat} {lt : Nat → List Nat} (h1 : drawOkR ops qs ts lt = true) (h2 : drawOk2R cfg ops qs ts lt = true) : DFR cfg ops qs ts lt := by
  unfold drawOkR at h1
  unfold drawOk2R at h2
  simp only [Bool.and_eq_true, List.all_eq_true, List.mem_range, decide_eq_true_eq] at h1 h2
  obtain ⟨⟨⟨⟨⟨⟨⟨c1, c2⟩, c3⟩, c4⟩, c5⟩, c6⟩, c7⟩, c8⟩ := h1
  obtain ⟨⟨d1, d2⟩, d3⟩ := h2
  have lt_of : ∀ (i : Nat) (a : Oper), ops[i]? = some a → i < ops.length := by
    intro i a h
    rcases Nat.lt_or_ge i ops.length with h' | h'
    · exact h'
    · rw [List.getElem?_eq_none h'] at h; cases h
  have ltq : ∀ i ∈ qs, i < ops.length := fun i hi => c2 i (List.mem_append.2 (.inl hi))
  have ltt : ∀ i ∈ ts, i < ops.length := fun i hi => c2 i (List.mem_append.2 (.inr hi))
  refine ⟨?_, ?_, ltq, ltt, ?_, ?_, ?_, ?_, fun i j h1 h2 => c6 i h1 j h2, ?_, ?_, ?_, ?_, fun i j h1 h2 => d3 i h1 j h2⟩
  · intro i hi
    have := c1 i hi
    by_cases hq : i ∈ qs
    · exact .inl hq
    · right
      simpa [hq] using this
  · intro i hi ht
    have := c1 i (ltq i hi)
    simp [hi, ht] at this
  · intro i j a b x y hne ha hb hx hy
    have := c3 i (lt_of i a ha) j (lt_of j b hb)
    simp only [ha, hb, hx, hy, Bool.or_eq_true, Bool.and_eq_true, bne_iff_ne, beq_iff_eq] at this
    rcases this with h | h
    · exact absurd h hne
    · exact h.1
  · intro i j a b y hne ha hb hy hl hjq
    have := c3 i (lt_of i a ha) j (lt_of j b hb)
    simp only [ha, hb, hy, Bool.or_eq_true, Bool.and_eq_true, beq_iff_eq] at this
    rcases this with h | h
    · exact absurd h hne
    · have h := h.2
      rw [if_pos ⟨by simpa using hl, by simpa using hjq⟩] at h
      exact h
  · intro i a y ha hy
    have := c4 i (lt_of i a ha)
    simp only [ha, hy] at this
    simpa using this
  · intro q hq t ht
    have := c5 q hq t ht
    rw [Bool.or_eq_true] at this
    exact this.imp (fun h => by simpa using h) id
  · intro i a ha j hj
    have := c7 i (lt_of i a ha)
    simp only [ha, List.all_eq_true, decide_eq_true_eq] at this
    exact this j hj
  · intro q hq
    have := c8 q hq
    split at this
    · rename_i a ha
      obtain ⟨k, hk⟩ := Option.isSome_iff_exists.1 this
      exact ⟨a, k, ha, hk⟩
    · cases this
  · intro t ht q hq o ho
    have := d1 t ht q hq
    simp only [ho, Bool.and_eq_true, Option.isNone_iff_eq_none] at this
    exact this
  · intro q hq o ho hn
    have := d2 q hq
    simp only [ho, Bool.or_eq_true, Option.isNone_iff_eq_none] at this
    rcases this with h | h
    · exact absurd h hn
    · exact h
theorem bef_ltR {cfg : Cfg} {ops : List Oper} {qs ts : List Nat} {lt : Nat → List Nat} (F : DFR cfg ops qs ts lt) : ∀ (i j : Nat) (o : Oper), ops[i]? = some o → bef (masks ops) i j = true → j < i := by
  intro i
  induction i using Nat.strongRecOn with
  | _ i ih =>
    intro j o ho hb
    obtain ⟨m, hm, rfl | ⟨hlt, hb'⟩⟩ := (masks_spec ops).2 i o ho j hb
    · exact F.dir i o ho _ hm
    · have hml : m < ops.length := by
        have : i < ops.length := by
          rcases Nat.lt_or_ge i ops.length with h | h
          · exact h
          · rw [List.getElem?_eq_none h] at ho; cases ho
        omega
      have := ih m hlt j ops[m] (List.getElem?_eq_getElem hml) hb'
      omega
theorem DFR.apart {cfg : Cfg} {ops : List Oper} {qs ts : List Nat} {lt : Nat → List Nat} (F : DFR cfg ops qs ts lt) : qs.Pairwise (Apart ops) := by
  rw [List.pairwise_iff_getElem]
  intro i j hi hj hij o o' k' ho ho' hk'
  have hlt : qs[i] < qs[j] := by
    have := F.inc j i hj hij
    simpa [List.getD_eq_getElem?_getD, hi, hj] using this
  refine ⟨fun hl => ?_, fun hd => ?_⟩
  · have := bef_ltR F _ _ o ho (F.rd _ _ o o' k' (by omega) ho ho' hk' hl (List.getElem_mem _))
    omega
  · exact F.dst _ _ o o' k' k' (by omega) ho ho' hd hk' rfl
def evTsR (P : Program) (D : Types) (cfg : Cfg) (all : List Oper) (lt : Nat → List Nat) (Kp : AV → AS → Prop) (K : AS → Prop) : List Nat → AS → Prop
  | [], s => K s
  | t :: r, s =>
    match all[t]? with
    | none => False
    | some o => o.guard = none ∧ evOp P D cfg o s Kp fun s' => LateOk D all s s' (lt t) ∧ evTsR P D cfg all lt Kp K r s'
section
variable {ops : Array Oper} {qs ts : List Nat} {lt : Nat → List Nat}
variable {P : Program} {D : Types} (hD : Types.ok P D) {E : Ent} {cfg : Cfg} {M : Imm} {ψ : Psi} {s : AS} {a : Act} {w : World} {Q : AX → AS → Prop}
structure InvR (P : Program) (D : Types) (E : Ent) (cfg : Cfg) (Q : AX → AS → Prop) (ops : Array Oper) (qs : List Nat) (lt : Nat → List Nat) (listed : Array Bool) (rest : List Nat) (M : Imm) (ψ : Psi) (s : AS) (a : Act) (w : World) : Prop where
  size : listed.size = ops.size
  closed : Closed ops.toList fun i => listed.getD i false
  rest0 : ∀ t ∈ rest, listed.getD t false = false
  ev : evTsR P D cfg ops.toList lt (fun x s => Q (.panic x) s) (Q .normal) rest s
  qc : ∀ q ∈ qs, listed.getD q false = false → ∃ o, ops.toList[q]? = some o ∧ QC P D cfg ops.toList s o
  fresh : ∀ q ∈ qs, listed.getD q false = false → ∀ o k, ops.toList[q]? = some o → isNew cfg o = some k → ψ (.l k) = none
  at_ : At E cfg.N M ψ (s.min (Xof ops.toList qs fun i => listed.getD i false) (Yof cfg ops.toList qs fun i => listed.getD i false)) a w
theorem InvR.closed_set {P : Program} {D : Types} {E : Ent} {cfg : Cfg} {Q : AX → AS → Prop} {listed : Array Bool} {rest : List Nat} {M : Imm} {ψ : Psi} {s : AS} {a : Act} {w : World}
    (I : InvR P D E cfg Q ops qs lt listed rest M ψ s a w) {i : Nat} {o : Oper} (ho : ops[i]? = some o) (hi : i < listed.size) (hd : ∀ j ∈ dirs o, listed.getD j false = true) : Closed ops.toList fun j => (listed.setIfInBounds i true).getD j false := by
  intro m om hom hm j hj
  simp only [getD_set hi, Bool.or_eq_true, decide_eq_true_eq] at hm ⊢
  right
  rcases hm with rfl | hm
  · have : om = o := by
      rw [← Array.getElem?_toList] at ho
      rw [ho] at hom; cases hom; rfl
    subst this
    exact hd j hj
  · exact I.closed m om hom hm j hj
include hD in
theorem draw_goR (F : DFR cfg ops.toList qs ts lt) : ∀ (fuel : Nat) (listed : Array Bool) (done rest : List Nat) (M : Imm) (ψ : Psi) (s : AS) (a : Act) (w : World),
    listed.toList.count false ≤ fuel → ts = done ++ rest → (∀ t ∈ done, listed.getD t false = true) → InvR P D E cfg Q ops qs lt listed rest M ψ s a w → wpAny P .any ops (QR E cfg.N Q) fuel listed a w := by
  intro fuel
  induction fuel with
  | zero =>
    intro listed done rest M ψ s a w hf hts hdone I
    have hall : ∀ i, i < ops.size → listed.getD i false = true := by
      intro i hi
      have hi' : i < listed.size := by rw [I.size]; exact hi
      have h0 := List.count_eq_zero.1 (Nat.le_zero.1 hf)
      have : listed[i] ≠ false := fun e => h0 (by rw [← e]; simp)
      simpa [hi'] using this
    have hX : ∀ k, Xof ops.toList qs (fun i => listed.getD i false) k = false := by
      intro k
      rw [Bool.eq_false_iff]
      intro h
      obtain ⟨q, hq, hl, _⟩ := Xof_true.1 h
      rw [hall q (by simpa using F.ltq q hq)] at hl; cases hl
    have hY : ∀ k, Yof cfg ops.toList qs (fun i => listed.getD i false) k = false := by
      intro k
      rw [Bool.eq_false_iff]
      intro h
      obtain ⟨q, hq, hl, _⟩ := Yof_true.1 h
      rw [hall q (by simpa using F.ltq q hq)] at hl; cases hl
    have hr : rest = [] := by
      cases rest with
      | nil => rfl
      | cons t r =>
        have := I.rest0 t (by simp)
        rw [hall t (by simpa using F.ltt t (by rw [hts]; simp))] at this; cases this
    subst hr
    refine ⟨?_, M, ψ, s, ?_, I.ev⟩
    · rw [List.eq_nil_iff_forall_not_mem]
      intro i hi
      obtain ⟨h0, o, ho, _⟩ := mem_ready.1 hi
      have hlt : i < ops.size := (Array.getElem?_eq_some_iff.1 ho).1
      have h1 := hall i hlt
      have hi' : i < listed.size := by rw [I.size]; exact hlt
      simp [hi'] at h0 h1
      rw [h0] at h1; cases h1
    · have := I.at_
      unfold AS.min at this
      rw [minS_false _ _ hX, minL_false _ _ hY] at this
      exact this
  | succ fuel ih =>
    intro listed done rest M ψ s a w hf hts hdone I
    refine ⟨fun hempty => ?_, fun i hi => ?_⟩
    ·
      have hall : ∀ i, i < ops.size → listed.getD i false = true := by
        intro i
        induction i using Nat.strongRecOn with
        | _ i ihi =>
          intro hi
          by_cases hl : listed.getD i false = true
          · exact hl
          · exfalso
            have hi' : i < listed.size := by rw [I.size]; exact hi
            have : i ∈ Region.ready .any ops listed := by
              rw [mem_ready]
              refine ⟨by simpa [hi'] using hl, ops[i], by simp [hi], fun e he hb => ?_⟩
              have hmem : e.on ∈ dirs ops[i] := by
                unfold dirs
                exact List.mem_map.2 ⟨e, List.mem_filter.2 ⟨by simpa using he, hb⟩, rfl⟩
              have hlt := F.dir i ops[i] (by simp [hi]) _ hmem
              exact ihi e.on hlt (by omega)
            rw [hempty] at this
            cases this
      have hX : ∀ k, Xof ops.toList qs (fun i => listed.getD i false) k = false := by
        intro k
        rw [Bool.eq_false_iff]
        intro h
        obtain ⟨q, hq, hl, _⟩ := Xof_true.1 h
        rw [hall q (by simpa using F.ltq q hq)] at hl; cases hl
      have hY : ∀ k, Yof cfg ops.toList qs (fun i => listed.getD i false) k = false := by
        intro k
        rw [Bool.eq_false_iff]
        intro h
        obtain ⟨q, hq, hl, _⟩ := Yof_true.1 h
        rw [hall q (by simpa using F.ltq q hq)] at hl; cases hl
      have hr : rest = [] := by
        cases rest with
        | nil => rfl
        | cons t r =>
          have := I.rest0 t (by simp)
          rw [hall t (by simpa using F.ltt t (by rw [hts]; simp))] at this; cases this
      subst hr
      refine ⟨M, ψ, s, ?_, I.ev⟩
      have := I.at_
      unfold AS.min at this
      rw [minS_false _ _ hX, minL_false _ _ hY] at this
      exact this
    ·
      obtain ⟨h0, o, ho, hafter⟩ := mem_ready.1 hi
      have hlt : i < ops.size := (Array.getElem?_eq_some_iff.1 ho).1
      have hi' : i < listed.size := by rw [I.size]; exact hlt
      have hli : listed.getD i false = false := by simpa [hi'] using h0
      have ho' : ops.toList[i]? = some o := by simpa using ho
      have hdirs : ∀ j ∈ dirs o, listed.getD j false = true := by
        intro j hj
        unfold dirs at hj
        obtain ⟨e, he, rfl⟩ := List.mem_map.1 hj
        obtain ⟨he, hb⟩ := List.mem_filter.1 he
        exact hafter e (by simpa using he) hb
      have hbef : ∀ j, bef (masks ops.toList) i j = true → listed.getD j false = true := fun j hb => I.closed.mask i o ho' hdirs j hb
      have hcl := I.closed_set ho hi' hdirs
      have hcount : (listed.setIfInBounds i true).toList.count false ≤ fuel := by
        have : listed.toList[i]? = some false := by
          have : listed[i] = false := by simpa [hi'] using hli
          simp [hi', this]
        have := count_set this
        simp only [Array.toList_setIfInBounds]
        omega
      have hsz : (listed.setIfInBounds i true).size = ops.size := by simp [I.size]
      have hld : ∀ j, (listed.setIfInBounds i true).getD j false = (decide (j = i) || listed.getD j false) := fun j => getD_set hi'
      have hlook : ∀ t ∈ looks ops.toList o, Xof ops.toList qs (fun i => listed.getD i false) t = false := by
        intro t ht
        rw [Bool.eq_false_iff]
        intro h
        obtain ⟨q, hq, hl, oq, hoq, hdq⟩ := Xof_true.1 h
        by_cases hqi : i = q
        · subst hqi
          rw [ho'] at hoq; cases hoq
          exact F.own i o t ho' hdq ht
        · have := hbef q (F.rd i q o oq t hqi ho' hoq hdq ht hq)
          rw [hl] at this; cases this
      rcases F.part i (by simpa using hlt) with hq | ht
      ·
        obtain ⟨o2, ho2, hqc⟩ := I.qc i hq hli
        rw [ho'] at ho2; cases ho2
        obtain ⟨hd, k, b, hk, hw, htr, hfa⟩ := hqc
        have hSm : ∀ t ∈ looks ops.toList o, lookS (s.min (Xof ops.toList qs fun i => listed.getD i false) (Yof cfg ops.toList qs fun i => listed.getD i false)).S t = lookS s.S t := by
          intro t ht
          show lookS (minS _ _) t = _
          rw [lookS_minS, hlook t ht]; rfl
        have hXi : ∀ j, Xof ops.toList qs (fun m => (listed.setIfInBounds i true).getD m false) j = (decide (j ≠ k) && Xof ops.toList qs (fun i => listed.getD i false) j) := by
          intro j
          rw [Bool.eq_iff_iff, Bool.and_eq_true, Xof_true, Xof_true, decide_eq_true_eq]
          constructor
          · rintro ⟨q, hq', hl, oq, hoq, hdq⟩
            simp only [hld, Bool.or_eq_false_iff, decide_eq_false_iff_not] at hl
            refine ⟨fun e => ?_, q, hq', hl.2, oq, hoq, hdq⟩
            subst e
            exact F.dst q i oq o j j hl.1 hoq ho' hdq hk rfl
          · rintro ⟨hne, q, hq', hl, oq, hoq, hdq⟩
            refine ⟨q, hq', ?_, oq, hoq, hdq⟩
            simp only [hld, Bool.or_eq_false_iff, decide_eq_false_iff_not]
            refine ⟨fun e => ?_, hl⟩
            subst e
            rw [ho'] at hoq; cases hoq
            rw [hk] at hdq; cases hdq
            exact hne rfl
        have hYi : ∀ j, Yof cfg ops.toList qs (fun m => (listed.setIfInBounds i true).getD m false) j = (decide (isNew cfg o ≠ some j) && Yof cfg ops.toList qs (fun i => listed.getD i false) j) := by
          intro j
          rw [Bool.eq_iff_iff, Bool.and_eq_true, Yof_true, Yof_true, decide_eq_true_eq]
          constructor
          · rintro ⟨q, hq', hl, oq, hoq, hdq⟩
            simp only [hld, Bool.or_eq_false_iff, decide_eq_false_iff_not] at hl
            refine ⟨fun e => ?_, q, hq', hl.2, oq, hoq, hdq⟩
            exact F.dst q i oq o j j hl.1 hoq ho' (isNew_dst hdq) (isNew_dst e) rfl
          · rintro ⟨hne, q, hq', hl, oq, hoq, hdq⟩
            refine ⟨q, hq', ?_, oq, hoq, hdq⟩
            simp only [hld, Bool.or_eq_false_iff, decide_eq_false_iff_not]
            refine ⟨fun e => ?_, hl⟩
            subst e
            rw [ho'] at hoq; cases hoq
            exact hne hdq
        have after : ∀ (v : AV) (ob : Option (List AV)) (M' : Imm) (ψ' : Psi) (a' : Act) (w' : World), lookS s.S k = v → (∀ cs, ob = some cs → isNew cfg o = some k ∧ lookL s.L k = some cs) → (ob = none → isNew cfg o = none) →
            At E cfg.N M' ψ' ((s.min (Xof ops.toList qs fun i => listed.getD i false) (Yof cfg ops.toList qs fun i => listed.getD i false)).add (some k) v ob) a' w' → (∀ j, (ob.isSome = true → j ≠ k) → ψ' (.l j) = ψ (.l j)) →
            wpAny P .any ops (QR E cfg.N Q) fuel (listed.setIfInBounds i true) a' w' := by
          intro v ob M' ψ' a' w' hv hob hob' hat hψ
          refine ih _ done rest M' ψ' s a' w' hcount hts (fun t ht => by rw [hld, hdone t ht]; simp) ⟨hsz, hcl, fun t ht => ?_, I.ev, fun q hq' hl => ?_, fun q hq' hl oq kq hoq hkq => ?_, ?_⟩
          · rw [hld, I.rest0 t ht]
            have : t ≠ i := fun e => F.excl i hq (by rw [hts, ← e]; simp [ht])
            simp [this]
          · rw [hld, Bool.or_eq_false_iff] at hl
            exact I.qc q hq' hl.2
          · rw [hld, Bool.or_eq_false_iff, decide_eq_false_iff_not] at hl
            rw [hψ kq fun _ e => F.dst q i oq o kq k hl.1 hoq ho' (isNew_dst hkq) hk e]
            exact I.fresh q hq' hl.2 oq kq hoq hkq
          · refine hat.congr (fun j => ?_) ?_
            · left
              show lookS (minS _ _) j = _
              rw [lookS_minS, hXi, lookS_add]
              show _ = if j = k then v else lookS (minS _ _) j
              rw [lookS_minS]
              by_cases hj : j = k
              · subst hj; simp [hv]
              · simp [hj]
            · funext l
              cases l with
              | h n => cases ob <;> rfl
              | l j =>
                show lookL (minL _ _) j = lookL (AS.add _ _ _ _).L j
                rw [lookL_minL, hYi, lookL_add]
                cases ob with
                | none =>
                  rw [hob' rfl]
                  show _ = lookL (minL _ _) j
                  rw [lookL_minL]
                  simp
                | some cs =>
                  obtain ⟨h1, h2⟩ := hob cs rfl
                  rw [h1]
                  show _ = if j = k then some cs else lookL (minL _ _) j
                  rw [lookL_minL]
                  by_cases hj : j = k
                  · subst hj; simp [h2]
                  · have : k ≠ j := Ne.symm hj
                    simp [hj, this]
        refine wpOp_wanted ho I.at_ (Wanted_congr hSm hw) (fun hb => ?_) (fun hb => ?_)
        · subst hb
          obtain ⟨ob, hqv, hcs⟩ := htr rfl
          obtain ⟨n1, n2⟩ := QV_new hqv
          have hob : ∀ cs, ob = some cs → isNew cfg o = some k ∧ lookL s.L k = some cs := by
            intro cs hc
            obtain ⟨k', h1, h2⟩ := n1 cs hc
            rw [hk] at h1; cases h1
            exact ⟨h2, hcs cs hc⟩
          have hqv' := QV_congr (s' := s.min (Xof ops.toList qs fun i => listed.getD i false) (Yof cfg ops.toList qs fun i => listed.getD i false)) (fun t ht => (hSm t (mem_looks ht)).symm) rfl (by
            intro x l off cs hx hev hg
            cases l with
            | h n => exact hg
            | l j =>
              show lookL (minL _ _) j = _
              rw [lookL_minL]
              have hrep := Rep.evA I.at_.sl x
              rw [hev] at hrep
              simp only [Rep] at hrep
              obtain ⟨li, hli', _⟩ := hrep
              have : Yof cfg ops.toList qs (fun i => listed.getD i false) j = false := by
                rw [Bool.eq_false_iff]
                intro h
                obtain ⟨q, hq', hl, oq, hoq, hkq⟩ := Yof_true.1 h
                rw [I.fresh q hq' hl oq j hoq hkq] at hli'
                cases hli'
              rw [this]
              exact hg) hqv
          refine QV_ok hD I.at_ o hd hqv' (fun k' hk' hs => ?_) (fun a' w' M' ψ' hat hψ => ?_)
          · rw [hk] at hk'; cases hk'
            obtain ⟨cs, hc⟩ := Option.isSome_iff_exists.1 hs
            obtain ⟨h1, h2⟩ := hob cs hc
            refine ⟨I.fresh i hq hli o k ho' h1, ?_⟩
            show lookL (minL _ _) k = none
            rw [lookL_minL, Yof_true.2 ⟨i, hq, hli, o, ho', h1⟩]
            rfl
          · rw [hk] at hat
            refine after _ ob M' ψ' a' w' rfl hob n2 hat fun j hj => hψ j fun k' hk' hs => ?_
            rw [hk] at hk'; cases hk'
            exact hj hs
        · subst hb
          have hnn : isNew cfg o = none := by
            by_cases hn : isNew cfg o = none
            · exact hn
            · have hg := F.nw i hq o ho' hn
              unfold Wanted at hw
              simp only [hg] at hw
              cases hw
          have hat := I.at_.set (dst := o.dst) (rep_v M ψ undef) (okDst_lt hd)
          rw [hk] at hat ⊢
          refine after (.v undef) none M ψ _ w (hfa rfl) (fun cs e => (by cases e)) (fun _ => hnn) hat fun _ _ => rfl
      ·
        obtain ⟨t, r, rfl⟩ : ∃ t r, rest = t :: r := by
          cases rest with
          | nil =>
            have := hdone i (by simpa [hts] using ht)
            rw [hli] at this; cases this
          | cons t r => exact ⟨t, r, rfl⟩
        have hit : i = t := by
          rw [hts] at ht
          rcases List.mem_append.1 ht with ht | ht
          · have := hdone i ht
            rw [hli] at this; cases this
          · rcases List.mem_cons.1 ht with rfl | ht
            · rfl
            · exfalso
              obtain ⟨m, hm, rfl⟩ := List.mem_iff_getElem.1 ht
              have hlen : ts.length = done.length + (r.length + 1) := by rw [hts]; simp
              have e1 : ts.getD (done.length + (m + 1)) 0 = r[m] := by
                rw [hts, List.getD_eq_getElem?_getD, List.getElem?_append_right (by omega)]
                simp [hm]
              have e2 : ts.getD done.length 0 = t := by
                rw [hts, List.getD_eq_getElem?_getD, List.getElem?_append_right (by omega)]
                simp
              have := F.tt (done.length + (m + 1)) done.length (by omega) (by omega)
              rw [e1, e2] at this
              have := hbef t this
              rw [I.rest0 t (by simp)] at this; cases this
        subst hit
        have hev := I.ev
        simp only [evTsR, ho'] at hev
        obtain ⟨hg, hev⟩ := hev
        have hlate : ∀ q ∈ qs, listed.getD q false = false → q ∈ lt i := by
          intro q hq hl
          rcases F.qt q hq i ht with h | h
          · exact h
          · rw [hbef q h] at hl; cases hl
        have hY : ∀ k, Yof cfg ops.toList qs (fun i => listed.getD i false) k = false := by
          intro k
          rw [Bool.eq_false_iff]
          intro h
          obtain ⟨q, hq, hl, oq, hoq, hkq⟩ := Yof_true.1 h
          have := (F.pl i ht q (hlate q hq hl) oq hoq).1
          unfold isNew at hkq
          split at hkq
          · rename_i e; rw [e] at this; cases this
          · rename_i e; rw [e] at this; cases this
          · cases hkq
        have hsim : Sim (Xof ops.toList qs fun i => listed.getD i false) (s.min (Xof ops.toList qs fun i => listed.getD i false) (Yof cfg ops.toList qs fun i => listed.getD i false)) s := by
          refine ⟨?_, rfl, fun j => lookS_minS s.S _ j⟩
          exact minL_false _ _ hY
        have hXd : ∀ k, o.dst = some k → Xof ops.toList qs (fun i => listed.getD i false) k = false := by
          intro k hk
          rw [Bool.eq_false_iff]
          intro h
          obtain ⟨q, hq, hl, oq, hoq, hkq⟩ := Xof_true.1 h
          exact F.dst q i oq o k k (fun e => F.excl q hq (by rw [e]; exact ht)) hoq ho' hkq hk rfl
        have hev' := evOp_sim hsim (fun t ht => hlook t (mem_looks ht)) hXd hev
        refine wpOp_wanted (b := true) ho I.at_ (by simp [Wanted, hg]) (fun _ => ?_) (fun e => by cases e)
        refine evOp_ok hD I.at_ o hev' ?_ ?_
        · intro x s' M' ψ' v a' w' hat hx hp
          obtain ⟨r', hQ, hL, hH⟩ := hp
          refine ⟨M', ψ', s', r'.S, x, v, hat, rfl, hx, ?_⟩
          obtain ⟨S1, L1, H1⟩ := s'
          obtain ⟨S2, L2, H2⟩ := r'
          cases hL; cases hH
          exact hQ
        · rintro a' w' ⟨M', ψ', s', hat, r', ⟨hl, hr'⟩, hsim'⟩
          have hXi : ∀ j, Xof ops.toList qs (fun m => (listed.setIfInBounds i true).getD m false) j = Xof ops.toList qs (fun i => listed.getD i false) j := by
            intro j
            rw [Bool.eq_iff_iff, Xof_true, Xof_true]
            constructor
            · rintro ⟨q, hq', hl, h⟩
              simp only [hld, Bool.or_eq_false_iff, decide_eq_false_iff_not] at hl
              exact ⟨q, hq', hl.2, h⟩
            · rintro ⟨q, hq', hl, h⟩
              refine ⟨q, hq', ?_, h⟩
              simp only [hld, Bool.or_eq_false_iff, decide_eq_false_iff_not]
              exact ⟨fun e => F.excl q hq' (by rw [e]; exact ht), hl⟩
          refine ih _ (done ++ [i]) r M' ψ' r' a' w' hcount (by rw [hts]; simp) (fun t ht' => ?_) ⟨hsz, hcl, fun t ht' => ?_, hr', fun q hq' hl' => ?_, fun q hq' hl' oq kq hoq hkq => ?_, ?_⟩
          · rcases List.mem_append.1 ht' with h | h
            · rw [hld, hdone t h]; simp
            · simp at h; subst h; rw [hld]; simp
          · rw [hld, I.rest0 t (by simp [ht'])]
            have : t ≠ i := by
              rintro rfl
              obtain ⟨m, hm, he⟩ := List.mem_iff_getElem.1 ht'
              have hlen : ts.length = done.length + (r.length + 1) := by rw [hts]; simp
              have e1 : ts.getD (done.length + (m + 1)) 0 = r[m] := by
                rw [hts, List.getD_eq_getElem?_getD, List.getElem?_append_right (by omega)]
                simp [hm]
              have e2 : ts.getD done.length 0 = t := by
                rw [hts, List.getD_eq_getElem?_getD, List.getElem?_append_right (by omega)]
                simp
              have := F.tt (done.length + (m + 1)) done.length (by omega) (by omega)
              rw [e1, e2, he] at this
              have := bef_ltR F _ _ o ho' this
              omega
            simp [this]
          · rw [hld, Bool.or_eq_false_iff] at hl'
            obtain ⟨oq, hoq, hqc⟩ := I.qc q hq' hl'.2
            obtain ⟨p1, p2⟩ := F.pl i ht q (hlate q hq' hl'.2) oq hoq
            obtain ⟨o3, k3, ho3, hk3, e1, e2⟩ := LateOk_mem hl (hlate q hq' hl'.2)
            rw [hoq] at ho3; cases ho3
            exact ⟨oq, hoq, hqc.late p1 p2 hk3 e1 e2⟩
          · exfalso
            rw [hld, Bool.or_eq_false_iff] at hl'
            have := hY kq
            rw [Bool.eq_false_iff] at this
            exact this (Yof_true.2 ⟨q, hq', hl'.2, oq, hoq, hkq⟩)
          · refine hat.congr (fun j => ?_) ?_
            · left
              show lookS (minS _ _) j = _
              rw [lookS_minS, hXi, hsim'.2.2 j]
            · have hY' : ∀ k, Yof cfg ops.toList qs (fun m => (listed.setIfInBounds i true).getD m false) k = false := by
                intro k
                rw [Bool.eq_false_iff]
                intro h
                obtain ⟨q, hq, hl, oq, hoq, hkq⟩ := Yof_true.1 h
                simp only [hld, Bool.or_eq_false_iff] at hl
                have := hY k
                rw [Bool.eq_false_iff] at this
                exact this (Yof_true.2 ⟨q, hq, hl.2, oq, hoq, hkq⟩)
              rw [hsim'.g]
              show mkG (minL _ _) _ = _
              rw [minL_false _ _ hY']
              rfl
end
section
variable {P : Program} {D : Types} (hD : Types.ok P D) {E : Ent} {cfg : Cfg} {M : Imm} {ψ : Psi} {s : AS} {a : Act} {w : World} {Q : AX → AS → Prop}
include hD in
theorem J_drawR {id : Nat} {ops : Array Oper} (qs ts : List Nat) (lt : Nat → List Nat) (hm : P.follows .mixedOrders = true) (h1 : drawOkR ops.toList qs ts lt = true) (h2 : drawOk2R cfg ops.toList qs ts lt = true)
    (h : evQs P D cfg ops.toList qs (s.pre (newKs cfg ops.toList qs)) fun s0 => evTsR P D cfg ops.toList lt (fun x s => Q (.panic x) s) (Q .normal) ts s0) : J P E cfg.N (.region id ops true) Q s := by
  intro M ψ a w hat
  have F := DFR.of h1 h2
  refine wp_region_any hm ?_
  have hat1 : At E cfg.N M ψ s a { w with drawn := w.drawn + 1 } := hat.drew
  obtain ⟨ψ', hat', g1, g2, g3⟩ := hat1.pre (newKs cfg ops.toList qs) s ψ hat1
  obtain ⟨s0, hts, hqc⟩ := evQs_ok qs [] _ h (by simp) (by simp) F.apart (fun q hq => by
    obtain ⟨o, k, ho, hk⟩ := F.qd q hq
    exact ⟨o, k, ho, hk, F.own q o k ho hk⟩)
  obtain ⟨hts, hH, hS, hL⟩ := hts
  have hfalse : ∀ i, i < ops.size → (Array.replicate ops.size false).getD i false = false := fun i hi => by simp [hi]
  have hall : ∀ i, (Array.replicate ops.size false).getD i false = false := fun i => by
    by_cases hi : i < ops.size <;> simp [hi]
  refine draw_goR (qs := qs) (ts := ts) (lt := lt) hD F _ _ [] ts M ψ' s0 _ _ ?_ rfl (by simp) ⟨by simp, fun i o ho hl => ?_, fun t _ => hall t, hts, fun q hq _ => hqc q hq, fun q hq _ o k ho hk => (g1 k (mem_newKs.2 ⟨q, hq, o, ho, hk⟩)).1, ?_⟩
  · exact Nat.le_trans List.count_le_length (by simp)
  · simp only [hall] at hl; cases hl
  · refine hat'.congr (fun j => ?_) ?_
    · show lookS (minS _ _) j = _ ∨ lookS (minS _ _) j = _
      rw [lookS_minS]
      by_cases hx : Xof ops.toList qs (fun i => (Array.replicate ops.size false).getD i false) j = true
      · right; rw [hx]; rfl
      · left
        rw [if_neg hx]
        refine hS j fun q hq o ho hd => hx (Xof_true.2 ⟨q, hq, hall q, o, ho, hd⟩)
    · funext l
      cases l with
      | h n => show s0.H n = _; rw [hH]; rfl
      | l j =>
        show lookL (minL _ _) j = lookL _ j
        rw [lookL_minL]
        by_cases hy : Yof cfg ops.toList qs (fun i => (Array.replicate ops.size false).getD i false) j = true
        · obtain ⟨q, hq, _, o, ho, hk⟩ := Yof_true.1 hy
          rw [hy, (g1 j (mem_newKs.2 ⟨q, hq, o, ho, hk⟩)).2]
          rfl
        · rw [if_neg hy]
          exact hL j fun q hq o ho hd => hy (Yof_true.2 ⟨q, hq, hall q, o, ho, hd⟩)
include hD in
theorem J_drawR' {id : Nat} {ops : Array Oper} (qs ts : List Nat) (lt : Nat → List Nat) (hm : P.follows .mixedOrders = true) (h1 : drawOkR ops.toList qs ts lt = true) (h2 : drawOk2R cfg ops.toList qs ts lt = true)
    (h : evQs' P D cfg ops.toList qs (s.pre (newKs cfg ops.toList qs)) fun s0 => evTsR P D cfg ops.toList lt (fun x s => Q (.panic x) s) (Q .normal) ts s0) : J P E cfg.N (.region id ops true) Q s :=
  J_drawR hD qs ts lt hm h1 h2 (evQs'_imp qs _ h)
end
end
section
mutual
theorem kill_of_noL (k : Nat) : ∀ (x : AV), AV.noL x = true → AV.kill k x = x
  | .v _, _ => rfl
  | .dead, _ => rfl
  | .p (.l _) _, h => by simp [AV.noL] at h
  | .p (.h _) _, _ => by simp [AV.kill]
  | .vp _, _ => rfl
  | .sl _ _, _ => rfl
  | .sl0, _ => rfl
  | .os (.l _) _ _ _, h => by simp [AV.noL] at h
  | .os (.h _) _ _ _, _ => by simp [AV.kill]
  | .oc (.l _) _ _ _ _, h => by simp [AV.noL] at h
  | .oc (.h _) _ _ _ _, _ => by simp [AV.kill]
  | .agg cs, h => by simp only [AV.noL] at h; simp only [AV.kill, killL_of_noLL k cs h]
  | .tup cs, h => by simp only [AV.noL] at h; simp only [AV.kill, killL_of_noLL k cs h]
  | .fn f cs, h => by simp only [AV.noL] at h; simp only [AV.kill, killL_of_noLL k cs h]
  | .ifc t x, h => by simp only [AV.noL] at h; simp only [AV.kill, kill_of_noL k x h]
theorem killL_of_noLL (k : Nat) : ∀ (cs : List AV), AV.noLL cs = true → AV.killL k cs = cs
  | [], _ => rfl
  | c :: cs, h => by
    simp only [AV.noLL, Bool.and_eq_true] at h
    simp only [AV.killL, kill_of_noL k c h.1, killL_of_noLL k cs h.2]
end
section
variable {P : Program} {D : Types} (hD : Types.ok P D) {E : Ent} {N : Nat} {M : Imm} {ψ : Psi} {s : AS} {a : Act} {w : World} {Q : AX → AS → Prop}
include hD in
theorem J_slice0 {id : Nat} {ops : Array Oper} {o1 o2 o3 : Oper} {x y p q d t e sz by0 : Nat} {z0 : List Value} {de : TD} (hops : ops.toList = [o1, o2, o3]) (h1 : o1.op = .move (.tmp x)) (d1 : o1.dst = some p) (g1 : o1.guard = none)
    (h2 : o2.op = .move (.tmp y)) (d2 : o2.dst = some q) (g2 : o2.guard = none) (h3 : o3.op = .slice t (.tmp p) (some (.tmp q)) none none) (d3 : o3.dst = some d) (g3 : o3.guard = none)
    (hT : D t = some ⟨.slice e, sz, by0, z0⟩) (hE : D e = some de) (hp : p < N) (hq : q < N) (hdN : d < N) (hpq : p ≠ q) (hpy : p ≠ y)
    {l : Loc} {es : Nat} (hx : lookS s.S x = .os l es 0 0) (hy : lookS s.S y = .v (.int .i64 0))
    (h : Q .normal (((s.set (some p) (.os l es 0 0)).set (some q) (.v (.int .i64 0))).set (some d) .dead)) : J P E N (.region id ops false) Q s := by
  intro M ψ a w hat
  refine wp_region ?_
  have k0 : ops[0]? = some o1 := by have := congrArg (fun l => l[0]?) hops; simpa using this
  have k1 : ops[1]? = some o2 := by have := congrArg (fun l => l[1]?) hops; simpa using this
  have k2 : ops[2]? = some o3 := by have := congrArg (fun l => l[2]?) hops; simpa using this
  have hsz : ops.size = 3 := by have := congrArg List.length hops; simpa using this
  have hrange : List.range ops.size = [0, 1, 2] := by rw [hsz]; rfl
  rw [hrange]
  have rx := hat.sl x
  rw [hx] at rx
  have ry := hat.sl y
  rw [hy] at ry
  have hat1 := hat.set (dst := some p) rx (fun k hk => by cases hk; exact hp)
  have hat2 := hat1.set (dst := some q) ry (fun k hk => by cases hk; exact hq)
  have hp2 := hat2.sl p
  have hlook : lookS ((s.set (some p) (.os l es 0 0)).set (some q) (.v (.int .i64 0))).S p = .os l es 0 0 := by
    simp only [AS.set, lookS_setS, if_neg hpq, if_true]
  rw [hlook] at hp2
  have hview := hat2.wit (t := p) (x := .sl 0 []) (by
    simp only [Rep] at hp2 ⊢
    rcases hp2 with ⟨_, _, b, hb⟩ | ⟨i, cap, hi, hb, h1, h2, _⟩
    · exact ⟨b, 0, hb, Nat.le_refl _, Nat.zero_le _, fun hne => absurd rfl hne⟩
    · exact ⟨_, cap, hb, h1, h2, fun hne => absurd rfl hne⟩)
  have hev : evP D (((s.set (some p) (.os l es 0 0)).set (some q) (.v (.int .i64 0))).set (some p) (.sl 0 [])).S (((s.set (some p) (.os l es 0 0)).set (some q) (.v (.int .i64 0))).set (some p) (.sl 0 [])).g o3.op = some (((0 : Int) ≤ 0 ∧ (0 : Int) ≤ 0 ∧ (0 : Int) ≤ ((0 : Nat) : Int)), .sl 0 []) := by
    rw [h3]
    have e1 : evA (((s.set (some p) (.os l es 0 0)).set (some q) (.v (.int .i64 0))).set (some p) (.sl 0 [])).S (.tmp p) = .sl 0 [] := by simp only [evA, AS.set, lookS_setS, if_true]
    have e2 : evA (((s.set (some p) (.os l es 0 0)).set (some q) (.v (.int .i64 0))).set (some p) (.sl 0 [])).S (.tmp q) = .v (.int .i64 0) := by simp only [evA, AS.set, lookS_setS, if_neg (Ne.symm hpq), if_true]
    simp only [evP, Option.map_some, Option.map_none, e1, e2, evSlice, hT, hE, evBounds, AV.int]
    simp
  obtain ⟨z, hz1, hz2⟩ := evP_ok hD hview.sl hview.sr o3 hev ⟨Int.le_refl _, Int.le_refl _, Int.le_refl _⟩
  simp only [wpOps, k0, Region.wanted, g1, if_true]
  refine .inl ?_
  unfold Oper.wp
  have r1 : (execOp a.eval o1).run P w = .ok (.value (a.tmps.getD x undef)) w := by simp [execOp, h1, Act.eval]
  rw [r1, Oper.upon_value, d1]
  simp only [k1, g2, if_true]
  refine .inl ?_
  have r2 : (execOp (a.put (some p) (a.tmps.getD x undef)).eval o2).run P w = .ok (.value (a.tmps.getD y undef)) w := by
    simp [execOp, h2, Act.eval, Act.put, Array.getD_eq_getD_getElem?, Array.getElem?_setIfInBounds, hpy]
  rw [r2, Oper.upon_value, d2]
  simp only [k2, g3, if_true]
  refine .inl ?_
  rw [hz1, Oper.upon_value, d3]
  exact ⟨M, ψ, _, hat2.set (x := .dead) (v := z) (dst := some d) (by simp only [Rep]) (fun k hk => by cases hk; exact hdN), h⟩
end
end
section
def evQh (P : Program) (D : Types) (cfg : Cfg) (o : Oper) (s : AS) (K : AV → Option (List AV) → Prop) : Prop :=
  match o.op with
  | .alloc t =>
    match D t with
    | some d => evQN cfg o.dst (AV.ofVs d.zero) K
    | none => False
  | .box t x =>
    match (evA s.S x).cells with
    | some ds => evQN cfg o.dst ds K
    | none => False
  | .buildSlice t len parts =>
    match D t with
    | some ⟨.slice e, _, _, _⟩ =>
      match D e with
      | some d =>
        match fillA (fun i => some (i * d.size, d.size)) (List.replicate len (AV.ofVs d.zero)).flatten (parts.toList.map fun x => (x.1, evA s.S x.2)) with
        | some cs => len * d.size ≤ 16777216 ∧ d.zero.length = d.size ∧ 0 < d.size ∧ if len = 0 then K .sl0 none else AV.noLL cs = true ∧ K (.sl len cs) none
        | none => False
      | none => False
    | _ => False
  | .call ⟨.value f, args, _⟩ =>
    match evA s.S f with
    | .fn id caps => AV.noLL (args.toList.map (evA s.S) ++ caps) = true ∧ ∃ v, PCalls P id (args.toList.map (evA s.S) ++ caps) s.H (fun e H' => e = .ret v ∧ H' = s.H) ∧ K v none
    | _ => False
  | op =>
    match evP D s.S s.g op with
    | some (c, r) => c ∧ K r none
    | none => False
section
variable {P : Program} {D : Types} {cfg : Cfg} {s : AS}
theorem evQh_ex {o : Oper} {K : AV → Option (List AV) → Prop} (h : evQh P D cfg o s K) : ∃ v ob, QV P D cfg o s v ob ∧ K v ob := by
  have hqn : ∀ {dst : Option Nat} {cs : List AV}, evQN cfg dst cs K → ∃ v ob, QN cfg dst cs v ob ∧ K v ob := by
    intro dst cs h
    unfold evQN at h
    unfold QN
    split at h
    · rename_i k
      split at h
      · rename_i hf; exact ⟨.vp cs, none, by show (if cfg.fz k then _ else _); rw [if_pos hf]; exact ⟨h.1, rfl, rfl⟩, h.2⟩
      · rename_i hf; exact ⟨.p (.l k) 0, some cs, by show (if cfg.fz k then _ else _); rw [if_neg hf]; exact ⟨rfl, rfl⟩, h⟩
    · exact h.elim
  obtain ⟨dst, op, ty, pos, after, guard⟩ := o
  unfold evQh at h
  unfold QV
  cases op
  case alloc t =>
    dsimp only at h ⊢
    split at h
    · rename_i d hd
      simp only [hd]
      exact hqn h
    · exact h.elim
  case box t x =>
    dsimp only at h ⊢
    split at h
    · rename_i ds hd
      simp only [hd]
      exact hqn h
    · exact h.elim
  case buildSlice t len parts =>
    dsimp only at h ⊢
    split at h
    · rename_i e1 _ _ _ hd
      simp only [hd]
      split at h
      · rename_i d he
        simp only [he]
        split at h
        · rename_i cs hf
          simp only [hf]
          obtain ⟨h1, h2, h3, h4⟩ := h
          split at h4
          · rename_i h0; exact ⟨_, _, ⟨h1, h2, h3, rfl, by rw [if_pos h0]⟩, h4⟩
          · rename_i h0; exact ⟨_, _, ⟨h1, h2, h3, rfl, by rw [if_neg h0]; exact ⟨h4.1, rfl⟩⟩, h4.2⟩
        · exact h.elim
      · exact h.elim
    · exact h.elim
  case call c =>
    obtain ⟨callee, args, ts⟩ := c
    cases callee
    case value f =>
      dsimp only at h ⊢
      split at h
      · rename_i id caps hf
        simp only [hf]
        obtain ⟨h1, v, h2, h3⟩ := h
        exact ⟨v, none, ⟨h1, rfl, h2⟩, h3⟩
      · exact h.elim
    all_goals
      dsimp only at h ⊢
      split at h
      · rename_i c r hp
        simp only [hp]
        exact ⟨_, _, ⟨h.1, rfl, rfl⟩, h.2⟩
      · exact h.elim
  all_goals
    dsimp only at h ⊢
    split at h
    · rename_i c r hp
      simp only [hp]
      exact ⟨_, _, ⟨h.1, rfl, rfl⟩, h.2⟩
    · exact h.elim
def evQsh (P : Program) (D : Types) (cfg : Cfg) (all : List Oper) : List Nat → AS → (AS → Prop) → Prop
  | [], s, K => K s
  | q :: r, s, K =>
    match all[q]? with
    | none => False
    | some o => okDst cfg.N o.dst = true ∧
      match o.guard with
      | none => evQh P D cfg o s fun v ob => (ob.isSome = true → ∀ k, o.dst = some k → lookL s.L k = none) ∧ evQsh P D cfg all r (s.add o.dst v ob) K
      | some (j, want) =>
        match guardSlot all j with
        | some d =>
          match lookS s.S d with
          | .v (.bool b) => guardB b want (evQh P D cfg o (s.set (some d) (.v (.bool want))) fun v ob => (ob.isSome = true → ∀ k, o.dst = some k → lookL s.L k = none) ∧ evQsh P D cfg all r ((s.set (some d) (.v (.bool want))).add o.dst v ob) K) (evQsh P D cfg all r ((s.set (some d) (.v (.bool (!want)))).add o.dst (.v undef) none) K)
          | x => x.isUnd = true ∧ evQsh P D cfg all r (s.add o.dst (.v undef) none) K
        | none => False
theorem evQsh_imp {all : List Oper} {K : AS → Prop} : ∀ (r : List Nat) (s : AS), evQsh P D cfg all r s K → evQs P D cfg all r s K := by
  intro r
  induction r with
  | nil => intro s h; exact h
  | cons q r ih =>
    intro s h
    unfold evQsh at h
    unfold evQs
    split at h
    · exact h.elim
    · rename_i o ho
      simp only [ho]
      refine ⟨h.1, ?_⟩
      have h := h.2
      split at h
      · rename_i hg
        simp only [hg]
        obtain ⟨v, ob, h1, h2, h3⟩ := evQh_ex h
        exact ⟨v, ob, h1, h2, ih _ h3⟩
      · rename_i j want hg
        simp only [hg]
        split at h
        · rename_i d hd
          simp only [hd]
          split at h
          · rename_i b hb
            simp only [hb]
            refine ⟨fun e => ?_, fun e => ih _ (h.2 e)⟩
            obtain ⟨v, ob, h1, h2, h3⟩ := evQh_ex (h.1 e)
            exact ⟨v, ob, h1, h2, ih _ h3⟩
          · rename_i x hne
            split
            · rename_i b hb; exact absurd hb (hne b)
            · exact ⟨h.1, ih _ h.2⟩
        · exact h.elim
variable (hD : Types.ok P D) {E : Ent} {Q : AX → AS → Prop}
include hD in
theorem J_drawH {id : Nat} {ops : Array Oper} (qs ts : List Nat) (lt : Nat → List Nat) (hm : P.follows .mixedOrders = true) (h1 : drawOkR ops.toList qs ts lt = true) (h2 : drawOk2R cfg ops.toList qs ts lt = true)
    (h : evQsh P D cfg ops.toList qs (s.pre (newKs cfg ops.toList qs)) fun s0 => evTsR P D cfg ops.toList lt (fun x s => Q (.panic x) s) (Q .normal) ts s0) : J P E cfg.N (.region id ops true) Q s :=
  J_drawR hD qs ts lt hm h1 h2 (evQsh_imp qs _ h)
end
end
section
section
variable {P : Program} {D : Types} {E : Ent} {N : Nat} {M : Imm} {ψ : Psi} {s : AS} {a : Act} {w : World} {Q : AX → AS → Prop}
theorem At.reL (h : At E N M ψ s a w) {k : Nat} {cs ds : List AV} (hk : lookL s.L k = some cs) (hlen : ds.length = cs.length) (hr : ∀ vs, RepL M ψ cs vs → RepL M ψ ds vs) : At E N M ψ { s with L := setL s.L k ds } a w := by
  have hg : s.g (.l k) = some cs := hk
  have hgo : ({ s with L := setL s.L k ds } : AS).g = upd s.g (.l k) (some ds) := mkG_setL s.L s.H k ds
  have hs : ∀ x, (upd s.g (.l k) (some ds) x).isSome → (s.g x).isSome := by
    intro x hx
    by_cases e : x = .l k
    · subst e; rw [hg]; rfl
    · rwa [upd_other _ _ e] at hx
  refine ⟨?_, ?_, h.sl, h.n, h.d⟩
  · rw [hgo]
    exact ⟨h.since.os, h.since.tape, h.since.output, h.since.size, h.since.blk, h.since.le, h.since.psi, h.since.newM, h.since.newψ, fun x i h1 h2 => h.since.live x i (hs x h1) h2⟩
  · rw [hgo]
    refine ⟨h.sr.imm, ?_, ?_, fun x x' i i' h1 h2 => h.sr.apart x x' i i' (hs x h1) (hs x' h2), fun x i h1 => h.sr.mt x i (hs x h1), fun k' i m j h1 h2 h3 => h.sr.sep k' i m j h1 (hs _ h2) h3, h.sr.lt, ?_⟩
    · intro x xs hx i hi
      by_cases e : x = .l k
      · subst e
        rw [upd_same] at hx
        cases hx
        obtain ⟨vs, T, a1, a2, a3, a4, a5⟩ := h.sr.obj (.l k) cs hg i hi
        exact ⟨vs, T, a1, a2, by omega, a4, by rw [hlen]; exact hr _ a5⟩
      · rw [upd_other _ _ e] at hx; exact h.sr.obj x xs hx i hi
    · intro x xs hx hi
      by_cases e : x = .l k
      · subst e
        rw [upd_same] at hx
        cases hx
        have := h.sr.empt (.l k) cs hg hi
        subst this
        exact List.eq_nil_of_length_eq_zero hlen
      · rw [upd_other _ _ e] at hx; exact h.sr.empt x xs hx hi
    · obtain ⟨B, hB⟩ := h.sr.fin
      refine ⟨B, fun m hm => ⟨(hB m hm).1, ?_⟩⟩
      rw [upd_other _ _ (fun e => by cases e)]
      exact (hB m hm).2
theorem RepL.nilAt {M : Imm} {ψ : Psi} (pre post : List AV) (n es : Nat) : ∀ vs, RepL M ψ (pre ++ .sl0 :: post) vs → RepL M ψ (pre ++ .os (.h n) es 0 0 :: post) vs := by
  induction pre with
  | nil =>
    intro vs h
    simp only [List.nil_append, RepL, Rep] at h ⊢
    obtain ⟨u, us, h1, h2, h3⟩ := h
    exact ⟨u, us, h1, .inl ⟨trivial, trivial, h2⟩, h3⟩
  | cons c pre ih =>
    intro vs h
    simp only [List.cons_append, RepL] at h ⊢
    obtain ⟨u, us, h1, h2, h3⟩ := h
    exact ⟨u, us, h1, h2, ih us h3⟩
theorem J_nilCell {c : Code} (k es : Nat) (pre post : List AV) (hk : lookL s.L k = some (pre ++ .sl0 :: post)) (h : ∀ n, s.H n = none → J P E N c Q { s with L := setL s.L k (pre ++ .os (.h n) es 0 0 :: post), H := fun m => if m = n then some [] else s.H m }) : J P E N c Q s := by
  intro M ψ a w hat
  obtain ⟨n, hn, hat'⟩ := hat.newNil
  exact h n hn M ψ a w (hat'.reL (k := k) hk (by simp) (RepL.nilAt pre post n es))
end
end
section
mutual
def AV.hfree : AV → Bool
  | .p (.l k) _ => decide (k < 899)
  | .p (.h _) _ => false
  | .os (.l k) _ _ _ => decide (k < 899)
  | .os (.h _) _ _ _ => false
  | .oc (.l k) _ _ _ _ => decide (k < 899)
  | .oc (.h _) _ _ _ _ => false
  | .agg cs => AV.hfreeL cs
  | .tup cs => AV.hfreeL cs
  | .fn _ cs => AV.hfreeL cs
  | .ifc _ x => AV.hfree x
  | .v _ => true
  | .dead => true
  | .vp _ => true
  | .sl _ _ => true
  | .sl0 => true
def AV.hfreeL : List AV → Bool
  | [] => true
  | c :: cs => AV.hfree c && AV.hfreeL cs
end
theorem hfreeL_mem {cs : List AV} (h : AV.hfreeL cs = true) : ∀ x ∈ cs, AV.hfree x = true := by
  induction cs with
  | nil => intro x hx; cases hx
  | cons c cs ih =>
    simp only [AV.hfreeL, Bool.and_eq_true] at h
    intro x hx
    rcases List.mem_cons.mp hx with rfl | hx
    · exact h.1
    · exact ih h.2 x hx
theorem hfreeL_of {cs : List AV} (h : ∀ x ∈ cs, AV.hfree x = true) : AV.hfreeL cs = true := by
  induction cs with
  | nil => rfl
  | cons c cs ih =>
    simp only [AV.hfreeL, Bool.and_eq_true]
    exact ⟨h c (List.mem_cons_self ..), ih fun x hx => h x (List.mem_cons_of_mem _ hx)⟩
mutual
theorem ren_hfree (k n : Nat) (hk : 899 ≤ k) : ∀ (x : AV), AV.hfree x = true → AV.ren (adoptF k n) x = x
  | .p (.l j) _, h => by
    simp only [AV.hfree, decide_eq_true_eq] at h
    simp [AV.ren, adoptF, show j ≠ k from by omega]
  | .p (.h _) _, h => by simp [AV.hfree] at h
  | .os (.l j) _ _ _, h => by
    simp only [AV.hfree, decide_eq_true_eq] at h
    simp [AV.ren, adoptF, show j ≠ k from by omega]
  | .os (.h _) _ _ _, h => by simp [AV.hfree] at h
  | .oc (.l j) _ _ _ _, h => by
    simp only [AV.hfree, decide_eq_true_eq] at h
    simp [AV.ren, adoptF, show j ≠ k from by omega]
  | .oc (.h _) _ _ _ _, h => by simp [AV.hfree] at h
  | .agg cs, h => by simp only [AV.hfree] at h; simp only [AV.ren, renL_hfree k n hk cs h]
  | .tup cs, h => by simp only [AV.hfree] at h; simp only [AV.ren, renL_hfree k n hk cs h]
  | .fn _ cs, h => by simp only [AV.hfree] at h; simp only [AV.ren, renL_hfree k n hk cs h]
  | .ifc _ x, h => by simp only [AV.hfree] at h; simp only [AV.ren, ren_hfree k n hk x h]
  | .v _, _ => rfl
  | .dead, _ => rfl
  | .vp _, _ => rfl
  | .sl _ _, _ => rfl
  | .sl0, _ => rfl
theorem renL_hfree (k n : Nat) (hk : 899 ≤ k) : ∀ (cs : List AV), AV.hfreeL cs = true → AV.renL (adoptF k n) cs = cs
  | [], _ => rfl
  | c :: cs, h => by
    simp only [AV.hfreeL, Bool.and_eq_true] at h
    simp only [AV.renL, ren_hfree k n hk c h.1, renL_hfree k n hk cs h.2]
end
theorem frz_hfree (k : Nat) (hk : 899 ≤ k) (cs : List AV) (x : AV) (h : AV.hfree x = true) : AV.frz k cs x = x := by
  cases x with
  | p l off =>
    cases l with
    | l j => simp only [AV.hfree, decide_eq_true_eq] at h; simp [AV.frz, show j ≠ k from by omega]
    | h j => simp [AV.hfree] at h
  | os l es off n =>
    cases l with
    | l j => simp only [AV.hfree, decide_eq_true_eq] at h; simp [AV.frz, show j ≠ k from by omega]
    | h j => simp [AV.hfree] at h
  | oc l es off n c =>
    cases l with
    | l j => simp only [AV.hfree, decide_eq_true_eq] at h; simp [AV.frz, show j ≠ k from by omega]
    | h j => simp [AV.hfree] at h
  | _ => rfl
def AV.hz (n : Nat) (cs : List AV) : AV → AV
  | .p (.h m) off => if m = n then .vp (cs.drop off) else .p (.h m) off
  | .os (.h m) es off j => if m = n then (if off + j * es ≤ cs.length then .sl j ((cs.drop off).take (j * es)) else .dead) else .os (.h m) es off j
  | .oc (.h m) es off j c => if m = n then .dead else .oc (.h m) es off j c
  | x => x
def AV.flatOk : AV → Bool
  | .p (.h _) _ => true
  | .os (.h _) _ _ _ => true
  | .oc (.h _) _ _ _ _ => true
  | .p (.l k) _ => decide (k < 1000)
  | .os (.l k) _ _ _ => decide (k < 1000)
  | .oc (.l k) _ _ _ _ => decide (k < 1000)
  | x => AV.hfree x
theorem flatOk_of {x : AV} (h : AV.hfree x = true) : AV.flatOk x = true := by
  cases x with
  | p l off => cases l <;> simp_all [AV.flatOk, AV.hfree]; omega
  | os l es off n => cases l <;> simp_all [AV.flatOk, AV.hfree]; omega
  | oc l es off n c => cases l <;> simp_all [AV.flatOk, AV.hfree]; omega
  | _ => exact h
theorem hz_hfree (n : Nat) (cs : List AV) {x : AV} (h : AV.hfree x = true) : AV.hz n cs x = x := by
  cases x with
  | p l off => cases l <;> simp_all [AV.hz, AV.hfree]
  | os l es off n => cases l <;> simp_all [AV.hz, AV.hfree]
  | oc l es off n c => cases l <;> simp_all [AV.hz, AV.hfree]
  | _ => rfl
theorem frz_ren (n : Nat) (cs : List AV) (x : AV) (h : AV.flatOk x = true) : AV.frz 1000 cs (AV.ren (adoptF 1000 n) x) = AV.hz n cs x := by
  by_cases hf : AV.hfree x = true
  · rw [ren_hfree 1000 n (by omega) x hf, frz_hfree 1000 (by omega) cs x hf, hz_hfree n cs hf]
  · cases x with
    | p l off =>
      cases l with
      | l j =>
        simp only [AV.flatOk, decide_eq_true_eq] at h
        have : j ≠ 1000 := by omega
        simp [AV.ren, adoptF, AV.frz, AV.hz, this]
      | h m =>
        by_cases e : m = n
        · simp [AV.ren, adoptF, AV.frz, AV.hz, e]
        · simp [AV.ren, adoptF, AV.frz, AV.hz, e]
    | os l es off j =>
      cases l with
      | l q =>
        simp only [AV.flatOk, decide_eq_true_eq] at h
        have : q ≠ 1000 := by omega
        simp [AV.ren, adoptF, AV.frz, AV.hz, this]
      | h m =>
        by_cases e : m = n
        · simp [AV.ren, adoptF, AV.frz, AV.hz, e]
        · simp [AV.ren, adoptF, AV.frz, AV.hz, e]
    | oc l es off j c =>
      cases l with
      | l q =>
        simp only [AV.flatOk, decide_eq_true_eq] at h
        have : q ≠ 1000 := by omega
        simp [AV.ren, adoptF, AV.frz, AV.hz, this]
      | h m =>
        by_cases e : m = n
        · simp [AV.ren, adoptF, AV.frz, AV.hz, e]
        · simp [AV.ren, adoptF, AV.frz, AV.hz, e]
    | _ => exact absurd h hf
theorem hz_flat (n : Nat) (cs xs : List AV) (h : AV.hfreeL xs = true) : xs.map (AV.hz n cs) = xs := by
  induction xs with
  | nil => rfl
  | cons x r ih =>
    simp only [AV.hfreeL, Bool.and_eq_true] at h
    rw [List.map_cons, hz_hfree n cs h.1, ih h.2]
def hzS (n : Nat) (cs : List AV) (S : Slots) : Slots := S.map fun e => (e.1, AV.hz n cs e.2)
theorem hzS_free (n : Nat) (cs : List AV) (S : Slots) (h : ∀ e ∈ S, AV.hfree e.2 = true) : hzS n cs S = S := by
  induction S with
  | nil => rfl
  | cons e r ih =>
    have := ih fun x hx => h x (List.mem_cons_of_mem _ hx)
    simp only [hzS, List.map_cons] at this ⊢
    rw [this, hz_hfree n cs (h e (List.mem_cons_self ..))]
def hzL (n : Nat) (cs : List AV) (L : List (Nat × List AV)) : List (Nat × List AV) := L.map fun e => (e.1, e.2.map (AV.hz n cs))
theorem hzL_free (n : Nat) (cs : List AV) (L : List (Nat × List AV)) (h : ∀ e ∈ L, AV.hfreeL e.2 = true) : hzL n cs L = L := by
  induction L with
  | nil => rfl
  | cons e r ih =>
    have := ih fun x hx => h x (List.mem_cons_of_mem _ hx)
    simp only [hzL, List.map_cons] at this ⊢
    rw [this, hz_flat n cs e.2 (h e (List.mem_cons_self ..))]
section
variable {P : Program} {D : Types} {E : Ent} {N : Nat} {M : Imm} {ψ : Psi} {s s' s'' : AS} {a : Act} {w : World} {Q : AX → AS → Prop}
def Turns (s s' : AS) : Prop := ∀ E N M ψ a w, At E N M ψ s a w → ∃ M' ψ', At E N M' ψ' s' a w
theorem Turns.refl (s : AS) : Turns s s := fun _ _ M ψ _ _ h => ⟨M, ψ, h⟩
theorem Turns.trans (h : Turns s s') (k : Turns s' s'') : Turns s s'' := fun E N M ψ a w hat => by
  obtain ⟨M', ψ', h'⟩ := h E N M ψ a w hat
  exact k E N M' ψ' a w h'
theorem J_turn {c : Code} (h : Turns s s') (hJ : J P E N c Q s') : J P E N c Q s := fun M ψ a w hat => by
  obtain ⟨M', ψ', h'⟩ := h E N M ψ a w hat
  exact hJ M' ψ' a w h'
theorem Turns.adopt (k n : Nat) {cs : List AV} (hn : s.H n = some cs) : Turns s (s.adopt k n cs) := fun E N M ψ a w hat => by
  obtain ⟨ψ', h⟩ := hat.adopt k n hn
  exact ⟨M, ψ', h⟩
theorem Turns.freeze {k : Nat} {cs : List AV} (hk : lookL s.L k = some cs) (hno : AV.noLL cs = true) : Turns s (s.frz k cs) := fun E N M ψ a w hat => by
  obtain ⟨M', h⟩ := hat.freeze hk hno
  exact ⟨M', ψ, h⟩
theorem Turns.weakH {H : Heap} (hH : ∀ m cs, H m = some cs → s.H m = some cs) : Turns s { s with H := H } := fun E N M ψ a w hat => ⟨M, ψ, hat.weakenH hH⟩
theorem Turns.reL {k : Nat} {cs ds : List AV} (hk : lookL s.L k = some cs) (hlen : ds.length = cs.length) (hr : ∀ M ψ vs, RepL M ψ cs vs → RepL M ψ ds vs) : Turns s { s with L := setL s.L k ds } := fun E N M ψ a w hat => ⟨M, ψ, hat.reL hk hlen (hr M ψ)⟩
theorem Turns.has {T : Slots} {L : List (Nat × List AV)} {H : Heap} (h : Has T L H s) : Turns s ⟨T, L, H⟩ := fun E N M ψ a w hat => by
  obtain ⟨S, L', H'⟩ := s
  obtain ⟨h1, h2, h3⟩ := h
  simp only at h1 h2 h3
  subst h2; subst h3
  refine ⟨M, ψ, hat.since, hat.sr, fun k => ?_, hat.n, hat.d⟩
  show Rep M ψ (lookS T k) _
  rcases subS_look h1 k with e | e
  · rw [e]; exact hat.sl k
  · rw [e]; simp only [Rep]
theorem Turns.hfrz (n : Nat) {cs : List AV} (hn : s.H n = some cs) (hcs : AV.hfreeL cs = true) (hno : AV.noLL cs = true) (hS : ∀ e ∈ s.S, AV.flatOk e.2 = true) (hL : ∀ e ∈ s.L, e.1 < 1000 ∧ ∀ x ∈ e.2, AV.flatOk x = true) : Turns s ⟨hzS n cs s.S, hzL n cs s.L, s.H.put n none⟩ := by
  refine (Turns.adopt 1000 n hn).trans ?_
  have hc : AV.renL (adoptF 1000 n) cs = cs := renL_hfree 1000 n (by omega) cs hcs
  refine (Turns.freeze (k := 1000) (cs := cs) (by simp [AS.adopt, lookL, hc]) hno).trans ?_
  have e : (s.adopt 1000 n cs).frz 1000 cs = ⟨hzS n cs s.S, hzL n cs s.L, s.H.put n none⟩ := by
    have e1 : ∀ S : Slots, (∀ e ∈ S, AV.flatOk e.2 = true) → frzS (renSf (adoptF 1000 n) S) 1000 cs = hzS n cs S := by
      intro S
      induction S with
      | nil => intro _; rfl
      | cons x r ih =>
        intro hS
        obtain ⟨j, x⟩ := x
        simp only [renSf, frzS, hzS, List.map_cons]
        rw [frz_ren n cs x (hS (j, x) (List.mem_cons_self ..)), ih fun e he => hS e (List.mem_cons_of_mem _ he)]
        rfl
    have e2 : ∀ xs : List AV, (∀ x ∈ xs, AV.flatOk x = true) → frzC (AV.renL (adoptF 1000 n) xs) 1000 cs = xs.map (AV.hz n cs) := by
      intro xs
      induction xs with
      | nil => intro _; rfl
      | cons x r ih =>
        intro hx
        simp only [AV.renL, frzC, List.map_cons]
        rw [frz_ren n cs x (hx x (List.mem_cons_self ..)), ih fun e he => hx e (List.mem_cons_of_mem _ he)]
    have e3 : ∀ L : List (Nat × List AV), (∀ e ∈ L, e.1 < 1000 ∧ ∀ x ∈ e.2, AV.flatOk x = true) → frzL (renLf (adoptF 1000 n) 1000 L) 1000 cs = hzL n cs L := by
      intro L
      induction L with
      | nil => intro _; rfl
      | cons x r ih =>
        intro hL
        obtain ⟨j, ds⟩ := x
        have hj := hL (j, ds) (List.mem_cons_self ..)
        have hne : ¬ 1000 = j := by have := hj.1; simp only at this; omega
        simp only [renLf, if_neg (Ne.symm hne), frzL, if_neg hne, hzL, List.map_cons]
        rw [e2 ds hj.2, ih fun e he => hL e (List.mem_cons_of_mem _ he)]
        rfl
    simp only [AS.adopt, AS.frz, frzL, if_true, hc, e1 s.S hS, e3 s.L hL]
  rw [e]
  exact Turns.refl _
theorem lookS_enumS (cells : List AV) (k i : Nat) {x : AV} (h : cells[i]? = some x) : lookS (enumS k cells) (k + i) = x := by
  induction cells generalizing k i with
  | nil => simp at h
  | cons c cs ih =>
    simp only [enumS, lookS]
    cases i with
    | zero => simp at h; simp [h]
    | succ i =>
      simp at h
      rw [if_neg (by omega), show k + (i + 1) = k + 1 + i from by omega]
      exact ih (k + 1) i h
theorem PCalls.turn {f : FuncId} {args : List AV} {H : Heap} {Q Q0 : AE → Heap → Prop} (h : PCalls P f args H Q0) (hq : ∀ r H', Q0 r H' → ∃ cells cells' H0, r = .ret (.agg cells) ∧ Turns ⟨enumS 0 cells, [], H'⟩ ⟨enumS 0 cells', [], H0⟩ ∧ cells'.length = cells.length ∧ AV.noLL cells' = true ∧ Q (.ret (.agg cells')) H0) : PCalls P f args H Q := by
  have key : ∀ M ψ w e w', CPost M ψ H w Q0 e w' → CPost M ψ H w Q e w' := by
    rintro M ψ w e w' ⟨M', ψ', H', r, h1, h2, h3, h4, h5⟩
    obtain ⟨cells, cells', H0, rfl, ht, hlen, hno, hQ⟩ := hq r H' h5
    cases e with
    | returned v =>
      obtain ⟨x, hx, hrep⟩ := h4
      cases hx
      simp only [Rep] at hrep
      obtain ⟨vs, rfl, hr, h1c⟩ := hrep
      have hat : At ⟨M', ψ', hOnly H', w', []⟩ vs.length M' ψ' ⟨enumS 0 cells, [], H'⟩ { tmps := vs.toArray, defers := [] } w' := by
        refine ⟨Since.refl _ _ _ _, h3, ?_, by simp, rfl⟩
        refine slots_enum M' ψ' cells vs 0 _ hr fun i v hi => ?_
        rw [Nat.zero_add, Array.getD_eq_getD_getElem?]
        simp [hi]
      obtain ⟨M2, ψ2, hat2⟩ := ht _ _ _ _ _ _ hat
      have hr2 : RepL M2 ψ2 cells' vs := by
        refine RepL.of_get (by rw [hr.length, hlen]) fun i c hc => ?_
        have hlt : i < vs.length := by
          rw [hr.length, ← hlen]
          rcases Nat.lt_or_ge i cells'.length with h' | h'
          · exact h'
          · rw [List.getElem?_eq_none h'] at hc; cases hc
        refine ⟨vs[i], List.getElem?_eq_getElem hlt, ?_⟩
        have := hat2.sl i
        have hl := lookS_enumS cells' 0 i hc
        rw [Nat.zero_add] at hl
        rw [hl, Array.getD_eq_getD_getElem?] at this
        simpa [hlt] using this
      refine ⟨M2, ψ2.strip, H0, .ret (.agg cells'), Psi.strip_strip _, h2.trans hat2.since.heapOnly, hat2.sr.heapOnly, ⟨.agg cells', rfl, ?_⟩, hQ⟩
      simp only [Rep]
      exact ⟨vs, rfl, RepL.noL cells' hno hr2, h1c⟩
    | panicked c =>
      obtain ⟨x, v, hx, _⟩ := h4
      cases hx
    | outgrown => exact h4.elim
  intro M ψ w vals h1 h2 h3
  rcases h M ψ w vals h1 h2 h3 with ⟨h4, h5⟩ | ⟨v, w', h4, h5⟩
  · exact .inl ⟨h4, h5.mono fun e w' => key M ψ w e w'⟩
  · exact .inr ⟨v, w', h4, key M ψ w _ w' h5⟩
end
end
end Go.Eng
