/- A part of the proof: the engine that walks Go code, the walks of the broker, or their laws (TvEngK TvEngL TvEngM). -/
import Derived.Test.YtpcpljfifipagaaGreatDoorX04
import Derived.Lib.SliceRun
set_option linter.unusedSimpArgs false
set_option linter.unusedVariables false
namespace Go.Eng
section
section
variable {P : Program} {D : Types} (hD : Types.ok P D) {E : Ent} {cfg : Cfg} {M : Imm} {ψ : Psi} {s : AS} {a : Act} {w : World}
theorem RepL.map_evA (h : SlotsR M ψ s.S a.tmps) (xs : List Operand) : RepL M ψ (xs.map (evA s.S)) (xs.map a.eval) := by
  induction xs with
  | nil => simp [RepL]
  | cons x xs ih => simp only [List.map_cons, RepL]; exact ⟨_, _, rfl, Rep.evA h x, ih⟩
theorem ofVs_length (l : List Value) : (AV.ofVs l).length = l.length := by
  induction l with
  | nil => rfl
  | cons x l ih => simp [AV.ofVs, ih]
theorem fillA_length {place : Nat → Option (Nat × Nat)} : ∀ (parts : List (Nat × AV)) (cells out : List AV), fillA place cells parts = some out → out.length = cells.length := by
  intro parts
  induction parts with
  | nil => intro cells out h; simp only [fillA] at h; cases h; rfl
  | cons e rest ih =>
    intro cells out h
    obtain ⟨i, x⟩ := e
    simp only [fillA] at h
    split at h
    · split at h
      · rename_i hc
        rw [ih _ _ h]
        simp
        omega
      · cases h
    · cases h
include hD in
theorem evOp_ok (h : At E cfg.N M ψ s a w) (o : Oper) {Kp : AV → AS → Prop} {K : AS → Prop} (hev : evOp P D cfg o s Kp K) {next : Act → World → Prop} {Q : Exit → Act → World → Prop}
    (hp : PanR E cfg.N Kp Q) (hn : ∀ a w, NextR E cfg.N K a w → next a w) : o.wp P a w next Q := by
  have A := fun x => Rep.evA h.sl x
  obtain ⟨dst, op, ty, pos, after, guard⟩ := o
  unfold evOp at hev
  simp only at hev
  obtain ⟨hd, hev⟩ := hev
  unfold Oper.wp
  have fallback : ∀ c r, evP D s.S s.g op = some (c, r) → c → K (s.set dst r) → ({ dst := dst, op := op, type := ty, pos := pos, after := after, guard := guard } : Oper).upon P a next Q ((execOp a.eval { dst := dst, op := op, type := ty, pos := pos, after := after, guard := guard }).run P w) := by
    intro c r hpe hc hk
    obtain ⟨z, h1, h2⟩ := evP_ok hD h.sl h.sr { dst := dst, op := op, type := ty, pos := pos, after := after, guard := guard } hpe hc
    rw [h1, Oper.upon_value]
    exact hn _ _ ⟨_, _, _, h.set h2 (okDst_lt hd), hk⟩
  split at hev
  ·
    rename_i t x v
    split at hev
    · rename_i l off ds d hx hv hdt
      split at hev
      · rename_i cs hg
        obtain ⟨h1, h2, h3, hk⟩ := hev
        obtain ⟨w', e1, e2⟩ := evStore_ok hD h (o := { dst := dst, op := .store t x v, type := ty, pos := pos, after := after, guard := guard }) rfl hd hx hv hdt hg h1 h2 h3 hk
        rw [e1, Oper.upon_skip]
        exact hn _ _ e2
      · exact hev.elim
    · exact hev.elim
  ·
    rename_i t
    split at hev
    · rename_i d hdt
      obtain ⟨z, hz, hzc⟩ := run_zeroValue (hD _ _ hdt) w
      obtain ⟨⟨i, zv, q1, q2, q3, q4, q5, q6⟩, _⟩ := hD _ _ hdt
      have hone : ∀ u ∈ d.zero, u.oneCell' = true := by simpa using q6
      have hr := newCells_ok h hd hev (us := z.cells.toList) (by rw [hzc]; exact RepL.ofVs M ψ d.zero) (by rw [hzc]; exact hone) t
      have e1 : (execOp a.eval { dst := dst, op := .alloc t, type := ty, pos := pos, after := after, guard := guard }).run P w = .ok (.value (.pointer (some ⟨w.heap.size, 0, none⟩))) (w.alloc (.cells z.cells.toList.toArray t)) := by
        simp [execOp, Instr.alloc, hz, newVar, newRow]
      rw [e1, Oper.upon_value]
      exact hn _ _ hr
    · exact hev.elim
  ·
    rename_i t v
    split at hev
    · rename_i ds hv
      obtain ⟨hc, hone⟩ := (A v).cells hv
      have hr := newCells_ok h hd hev hc hone t
      have e1 : (execOp a.eval { dst := dst, op := .box t v, type := ty, pos := pos, after := after, guard := guard }).run P w = .ok (.value (.pointer (some ⟨w.heap.size, 0, none⟩))) (w.alloc (.cells (a.eval v).cells.toList.toArray t)) := by
        simp [execOp, Instr.box, newVar, newRow]
      rw [e1, Oper.upon_value]
      exact hn _ _ hr
    · exact hev.elim
  ·
    rename_i t len parts
    split at hev
    · rename_i e _ _ _ hdt
      have hq := (hD _ _ hdt).2
      simp only [TKok] at hq
      split at hev
      · rename_i d hde
        have hsz := run_sizeOf (hD _ _ hde) w
        obtain ⟨z, hz, hzc⟩ := run_zeroValue (hD _ _ hde) w
        obtain ⟨⟨i, zv, q1, q2, q3, q4, q5, q6⟩, _⟩ := hD _ _ hde
        have hone : ∀ u ∈ d.zero, u.oneCell' = true := by simpa using q6
        split at hev
        · rename_i cs hf
          obtain ⟨hb, hzl, hpos, hk⟩ := hev
          have hzs : z.cells.size = d.size := by rw [← hzl, ← hzc]; simp
          have hrow : ((Array.range (len * d.size)).map (z.cells[· % z.cells.size]!)).toList = (List.replicate len z.cells.toList).flatten := by
            rw [← hzs]; exact zero_row z.cells len
          obtain ⟨vout, e1, e2, e3⟩ := fill_ok (M := M) (ψ := ψ) (place' := fun i => some (i * d.size, d.size)) (fun _ _ x => x) _ (parts.toList.map fun x => (x.1, a.eval x.2)) _ ((Array.range (len * d.size)).map (z.cells[· % z.cells.size]!)) _ hf
            (by rw [hrow, hzc]; exact (RepL.ofVs M ψ d.zero).flatten len)
            (by
              rw [hrow, hzc]
              intro u hu
              simp only [List.mem_flatten, List.mem_replicate] at hu
              obtain ⟨l, ⟨_, rfl⟩, hu⟩ := hu
              exact hone u hu) (by simp)
            (by
              intro j x hj
              simp only [List.getElem?_map, Option.map_eq_some_iff] at hj
              obtain ⟨q, hq', rfl⟩ := hj
              exact ⟨a.eval q.2, by rw [List.getElem?_map, hq']; rfl, A q.2⟩)
          have erun : (execOp a.eval { dst := dst, op := .buildSlice t len parts, type := ty, pos := pos, after := after, guard := guard }).run P w = .ok (.value (.slice (some ⟨w.heap.size, 0, none⟩) len len)) (w.alloc (.cells vout.toList.toArray e)) := by
            by_cases h0 : len * d.size = 0
            · have hlen0 : len = 0 := by
                rcases Nat.eq_zero_or_pos len with h' | h'
                · exact h'
                · have := Nat.mul_pos h' hpos; omega
              simp only [hlen0, Nat.zero_mul, Array.range_zero', List.map_toArray, List.map_nil] at e1
              have hle : ¬ (16777216 < len * d.size) := by omega
              simp only [execOp, Instr.buildSlice, Sem.run_bind, run_underlying hq, Result.andThen_ok, hsz, Sem.run_ite, hlen0, Nat.zero_mul]
              simp [Array.range_zero', e1, newRow]
            · have hle : ¬ (16777216 < len * d.size) := by omega
              simp only [execOp, Instr.buildSlice, Sem.run_bind, run_underlying hq, Result.andThen_ok, hsz, Sem.run_ite]
              simp [hle, h0, hz, e1, newRow]
          rw [erun, Oper.upon_value]
          refine hn _ _ ?_
          have hlen : vout.toList.length = len * d.size := by
            rw [e2.length, fillA_length _ _ _ hf]
            simp [ofVs_length, hzl]
          have hmx : len ≤ maxLen := by
            have : len * 1 ≤ len * d.size := Nat.mul_le_mul_left _ hpos
            unfold maxLen
            omega
          split at hk
          · rename_i h0
            subst h0
            obtain ⟨hle, hat⟩ := h.imm e3 e
            refine ⟨_, _, _, hat.set ?_ (okDst_lt hd), hk⟩
            simp only [Rep]
            exact ⟨_, rfl⟩
          · rename_i h0
            unfold newSl at hk
            split at hk
            · rename_i k
              split at hk
              · obtain ⟨hle, hat⟩ := h.imm e3 e
                refine ⟨_, _, _, hat.set ?_ (okDst_lt hd), hk.2⟩
                simp only [Rep]
                exact ⟨_, _, rfl, Nat.le_refl _, hmx, fun _ => ⟨_, _, vout.toList, rfl, Imm.with_at _ _ _, RepL.mono hle _ (Psi.le_refl _) (e2.noLL' hk.1)⟩⟩
              · refine ⟨_, _, _, (h.new k (Nat.le_of_eq e2.length.symm) (by rw [List.take_of_length_le (Nat.le_of_eq e2.length)]; exact e2) e3 e).set ?_ (okDst_lt hd), hk⟩
                simp only [Rep]
                exact .inr ⟨⟨w.heap.size, vout.toList.length⟩, _, by simp [Psi.put], rfl, Nat.le_refl _, hmx, by simp only [hlen, Nat.zero_add]⟩
            · exact hk.elim
        · exact hev.elim
      · exact hev.elim
    · exact hev.elim
  ·
    rename_i args ts
    split at hev
    · rename_i x y t t' hargs hts
      have ha : args = #[x, y] := by apply Array.ext'; simpa using hargs
      have ht : ts = #[t, t'] := by apply Array.ext'; simpa using hts
      subst ha; subst ht
      split at hev
      rotate_left
      ·
        rename_i htu
        split at hev
        · rename_i e _ _ _ k _ _ _ hdt hdu
          have hq := (hD _ _ hdt).2
          have hqu := (hD _ _ hdu).2
          simp only [TKok] at hq hqu
          split at hev
          · rename_i d hde
            obtain ⟨hpos, hzl, hev⟩ := hev
            split at hev
            · rename_i m l es off i cap hy hx
              split at hev
              · rename_i cs hg
                obtain ⟨rfl, m0, m1, m2, m3, m4, m5, hk⟩ := hev
                have rx := A x
                rw [hx] at rx
                have ry := A y
                rw [hy] at ry
                simp only [Rep] at ry
                obtain ⟨q, rfl⟩ : ∃ q : Nat, m = q := ⟨m.toNat, by omega⟩
                simp only [Int.toNat_natCast] at m4 m5 hk
                obtain ⟨v, w', r1, r2⟩ := evMake_ok (P := P) (ty := ty) h htu hq hqu (hD _ _ hde) hpos hzl rx hg (by omega) m3 m4 m5 hd hk
                have erun : (execOp a.eval { dst := dst, op := .call ⟨.builtin .append, #[x, y], #[t, t']⟩, type := ty, pos := pos, after := after, guard := guard }).run P w = .ok (.value v) w' := by
                  simp [execOp, resolve, invoke, builtin, ry, r1]
                rw [erun, Oper.upon_value]
                exact hn _ _ r2
              · exact hev.elim
            · exact hev.elim
          · exact hev.elim
        · exact hev.elim
      rename_i htt
      subst htt
      have erun : ∀ (v : Value) (w' : World), (Builtin.append_ #[t, t] ty #[a.eval x, a.eval y]).run P w = .ok v w' →
          (execOp a.eval { dst := dst, op := .call ⟨.builtin .append, #[x, y], #[t, t]⟩, type := ty, pos := pos, after := after, guard := guard }).run P w = .ok (.value v) w' := by
        intro v w' hr
        simp [execOp, resolve, invoke, builtin, hr]
      split at hev
      · rename_i e _ _ _ hdt
        have hq := (hD _ _ hdt).2
        simp only [TKok] at hq
        split at hev
        · rename_i d hde
          obtain ⟨hpos, hzl, hev⟩ := hev
          split at hev
          · rename_i c m news hsrc
            obtain ⟨hc, hev⟩ := hev
            obtain ⟨b, cap, us, hy, u1, u2, u3, u4⟩ := evSrc_ok h.sr hsrc hc (A y)
            split at hev
            · rename_i hx
              obtain ⟨b1, b2, hk⟩ := hev
              have rx := A x
              rw [hx] at rx
              simp only [Rep] at rx
              obtain ⟨bx, hxv⟩ := rx
              obtain ⟨v, w', r1, r2⟩ := evAppend0_ok (P := P) (ty := ty) (cap := cap) (bx := bx) h hq (hD _ _ hde) hpos hzl u1 u2 u3 u4 b1 b2 hd hk
              rw [erun v w' (by rw [hxv, hy]; exact r1), Oper.upon_value]
              exact hn _ _ r2
            · rename_i k es n hx
              split at hev
              · rename_i cs hg
                obtain ⟨rfl, b0, b1, b2, hk⟩ := hev
                have rx := A x
                rw [hx] at rx
                obtain ⟨v, w', r1, r2⟩ := evAppendL_ok (P := P) (ty := ty) (cap := cap) h hq (hD _ _ hde) hpos hzl u1 u2 u3 u4 rx hg b0 b1 b2 hd hk
                rw [erun v w' (by rw [hy]; exact r1), Oper.upon_value]
                exact hn _ _ r2
              · exact hev.elim
            · rename_i k es n hx
              split at hev
              · rename_i cs hg
                obtain ⟨rfl, b0, b1, b2, b3, hk⟩ := hev
                have rx := A x
                rw [hx] at rx
                obtain ⟨v, w', r1, r2⟩ := evAppendH_ok (P := P) (ty := ty) (cap := cap) h hq (hD _ _ hde) hpos hzl u1 u2 b3 u3 u4 rx hg b0 b1 b2 hd hk
                rw [erun v w' (by rw [hy]; exact r1), Oper.upon_value]
                exact hn _ _ r2
              · exact hev.elim
            · rename_i l es n cp hx
              split at hev
              · rename_i cs hg
                obtain ⟨rfl, b0, b1, b2, hk⟩ := hev
                have rx := A x
                rw [hx] at rx
                obtain ⟨v, w', r1, r2⟩ := evAppendC_ok (P := P) (ty := ty) (cap := cap) h hq (hD _ _ hde) u1 u2 u3 u4 rx hg b0 b1 b2 hd hk
                rw [erun v w' (by rw [hy]; exact r1), Oper.upon_value]
                exact hn _ _ r2
              · exact hev.elim
            · exact hev.elim
          · exact hev.elim
        · exact hev.elim
      · exact hev.elim
    · exact hev.elim
  ·
    rename_i args ts
    split at hev
    · rename_i x t hargs hts
      have ha : args = #[x] := by apply Array.ext'; simpa using hargs
      have ht : ts = #[t] := by apply Array.ext'; simpa using hts
      subst ha; subst ht
      split at hev
      · rename_i e _ _ _ hdt
        have hq := (hD _ _ hdt).2
        simp only [TKok] at hq
        split at hev
        · rename_i d hde
          obtain ⟨hzl, hev⟩ := hev
          split at hev
          · rename_i l es off n cp hx
            split at hev
            · rename_i cs hg
              obtain ⟨rfl, b0, hk⟩ := hev
              have rx := A x
              rw [hx] at rx
              obtain ⟨w', r1, r2⟩ := evClear_ok (P := P) (ty := ty) h hq (hD _ _ hde) hzl rx hg b0 hd hk
              have erun : (execOp a.eval { dst := dst, op := .call ⟨.builtin .clear, #[x], #[t]⟩, type := ty, pos := pos, after := after, guard := guard }).run P w = .ok (.value (.tuple #[])) w' := by
                simp [execOp, resolve, invoke, builtin, r1]
              rw [erun, Oper.upon_value]
              exact hn _ _ r2
            · exact hev.elim
          · rename_i n cs hx
            obtain ⟨rfl, hk⟩ := hev
            have rx := A x
            rw [hx] at rx
            simp only [Rep] at rx
            obtain ⟨b, cap, hv, _⟩ := rx
            have erun : (execOp a.eval { dst := dst, op := .call ⟨.builtin .clear, #[x], #[t]⟩, type := ty, pos := pos, after := after, guard := guard }).run P w = .ok (.value (.tuple #[])) w := by
              cases b <;> simp [execOp, resolve, invoke, builtin, hv, Builtin.clear_, run_underlying hq]
            rw [erun, Oper.upon_value]
            exact hn _ _ ⟨_, _, _, h.set (rep_v _ _ undef) (okDst_lt hd), hk⟩
          · exact hev.elim
        · exact hev.elim
      · exact hev.elim
    · exact hev.elim
  ·
    rename_i args ts
    split at hev
    · rename_i x y t t' hargs hts
      have ha : args = #[x, y] := by apply Array.ext'; simpa using hargs
      have ht : ts = #[t, t'] := by apply Array.ext'; simpa using hts
      subst ha; subst ht
      split at hev
      · rename_i e _ _ _ hdt
        have hq := (hD _ _ hdt).2
        simp only [TKok] at hq
        split at hev
        · rename_i d hde
          split at hev
          · rename_i c m news hsrc
            obtain ⟨hc, hev⟩ := hev
            obtain ⟨b, cap, us, hy, u1, u2, u3, u4⟩ := evSrc_ok h.sr hsrc hc (A y)
            split at hev
            · rename_i l es off n cp hx
              split at hev
              · rename_i cs hg
                obtain ⟨rfl, b0, b1, hk⟩ := hev
                have rx := A x
                rw [hx] at rx
                obtain ⟨v, w', r1, r2⟩ := evCopy_ok (P := P) (ty := ty) (cap := cap) (t' := t') h hq (hD _ _ hde) u1 u2 u3 u4 rx hg b0 b1 hd hk
                have erun : (execOp a.eval { dst := dst, op := .call ⟨.builtin .copy, #[x, y], #[t, t']⟩, type := ty, pos := pos, after := after, guard := guard }).run P w = .ok (.value v) w' := by
                  simp [execOp, resolve, invoke, builtin, hy, r1]
                rw [erun, Oper.upon_value]
                exact hn _ _ r2
              · exact hev.elim
            · exact hev.elim
          · exact hev.elim
        · exact hev.elim
      · exact hev.elim
    · exact hev.elim
  ·
    rename_i t x ty'
    split at hev
    · rename_i f hf
      unfold evNil at hf
      split at hf
      · rename_i e _ _ _ hdt
        have hq := (hD _ _ hdt).2
        simp only [TKok] at hq
        have rx := A x
        have key : ∀ b n c, a.eval x = .slice b n c → (f b.isNone) → ({ dst := dst, op := .binOp .eql t x (.const (.slice none 0 0)) ty', type := ty, pos := pos, after := after, guard := guard } : Oper).upon P a next Q ((execOp a.eval { dst := dst, op := .binOp .eql t x (.const (.slice none 0 0)) ty', type := ty, pos := pos, after := after, guard := guard }).run P w) := by
          intro b n c hv hb
          have hrun := Lib.run_eql_slice_nil (P := P) w t e b n c 0 0 hq
          have erun : (execOp a.eval { dst := dst, op := .binOp .eql t x (.const (.slice none 0 0)) ty', type := ty, pos := pos, after := after, guard := guard }).run P w = .ok (.value (.bool b.isNone)) w := by
            have hgd : eqGuard .eql t x (.const (.slice none 0 0)) (.slice b n c) (.slice none 0 0) = pure () := by unfold eqGuard; rfl
            have he : a.eval (.const (.slice none 0 0)) = .slice none 0 0 := rfl
            simp only [execOp, hv, he, hgd, Sem.run_bind, Sem.run_pure, Result.andThen_ok, hrun]
          rw [erun, Oper.upon_value]
          exact hn _ _ ⟨_, _, _, h.set (rep_v _ _ _) (okDst_lt hd), hev _ hb⟩
        split at hf
        · rename_i n cs hx
          cases hf
          rw [hx] at rx
          simp only [Rep] at rx
          obtain ⟨b, cap, hv, _, _, hcs⟩ := rx
          refine key b _ _ hv fun hb => ?_
          by_cases hc : cs = []
          · exact hc
          · obtain ⟨b', o, vs, rfl, _⟩ := hcs hc
            cases hb
        · rename_i hx
          cases hf
          rw [hx] at rx
          simp only [Rep] at rx
          obtain ⟨b, hv⟩ := rx
          exact key b _ _ hv trivial
        · rename_i l es off n hx
          cases hf
          rw [hx] at rx
          simp only [Rep] at rx
          rcases rx with ⟨_, hn0, b, hv⟩ | ⟨i, cap, _, hv, _⟩
          · exact key b _ _ hv fun _ => hn0
          · exact key _ _ _ hv fun hb => by cases hb
        · rename_i l es off n c hx
          cases hf
          rw [hx] at rx
          simp only [Rep] at rx
          obtain ⟨i, _, hv, _⟩ := rx
          exact key _ _ _ hv rfl
        · cases hf
      · cases hf
    · exact hev.elim
  ·
    rename_i f args ts
    split at hev
    · rename_i id caps hf
      obtain ⟨hno, hcall⟩ := hev
      have rf := A f
      rw [hf] at rf
      simp only [Rep] at rf
      obtain ⟨vs, hfv, hcaps⟩ := rf
      have hreps := (RepL.map_evA (a := a) h.sl args.toList).append hcaps
      have hargs : args.map a.eval ++ vs.toArray = (args.toList.map a.eval ++ vs).toArray := by apply Array.ext'; simp
      have hpc := hcall M ψ.strip w (args.toList.map a.eval ++ vs) (Psi.strip_strip ψ) h.sr.heapOnly (hreps.noLL' hno)
      have erun : (execOp a.eval { dst := dst, op := .call ⟨.value f, args, ts⟩, type := ty, pos := pos, after := after, guard := guard }).run P w = (callFunc id (args.toList.map a.eval ++ vs).toArray).run P w := by
        simp only [execOp, resolve, Sem.run_bind, hfv, Deferred.ofValue, Sem.run_pure, Result.andThen_ok, invoke, Array.empty_append, hargs]
      have done : ∀ e w', CPost M ψ.strip s.H w (fun r H' => match r with
          | .ret v => K ({ s with H := H' }.set dst v)
          | .panic v => Kp v { s with H := H' }) e w' → match e with
            | .returned v => next (a.put dst v) w'
            | .panicked chain => Q (.panic chain) a w'
            | .outgrown => LetsOut Q := by
        rintro e w' ⟨M', ψ', H', r, c1, c2, c3, c4, c5⟩
        obtain ⟨hle, hat⟩ := h.call c1 c2 c3
        cases e with
        | returned v =>
          obtain ⟨x, rfl, hx⟩ := c4
          exact hn _ _ ⟨_, _, _, hat.set (Rep.mono (Imm.le_refl _) _ hle hx) (okDst_lt hd), c5⟩
        | panicked chain =>
          obtain ⟨x, v, rfl, rfl, hx⟩ := c4
          exact hp x _ _ _ v a w' hat (Rep.mono (Imm.le_refl _) _ hle hx) c5
        | outgrown => exact c4.elim
      rcases hpc with ⟨⟨fn, hfn, hbody, hname⟩, hcalls⟩ | ⟨v, w', hrun, hpost⟩
      · have hb : fn.body ≠ none := by intro hfb; rw [hfb] at hbody; cases hbody
        have hname' : fn.name ≠ "runtime.NumGoroutine" := by simpa using hname
        have : (callFunc id (args.toList.map a.eval ++ vs).toArray).run P w = .ok (.enter id (args.toList.map a.eval ++ vs).toArray) w := by
          simp [callFunc, hfn, hname', hb]
        rw [erun, this, Oper.upon_enter]
        refine hcalls.mono fun e w' hpost => ?_
        have := done e w' hpost
        cases e <;> exact this
      · rw [erun, hrun, Oper.upon_value]
        exact done (.returned v) w' hpost
    · exact hev.elim
  ·
    rename_i x
    split at hev
    · rename_i t y hx
      have rx := A x
      rw [hx] at rx
      have rx' := rx
      simp only [Rep] at rx
      obtain ⟨u, hu, _⟩ := rx
      have : (execOp a.eval { dst := dst, op := .panic x, type := ty, pos := pos, after := after, guard := guard }).run P w = .halt (.panic (.iface t u)) w := by
        simp [execOp, hu, Instr.panic]
      rw [this, Oper.upon_panic]
      exact hp (.ifc t y) s M ψ (.iface t u) a w h (by rw [← hu]; exact rx') hev
    · exact hev.elim
  · split at hev
    · rename_i c r hpe
      exact fallback c r hpe hev.1 hev.2
    · exact hev.elim
end
end
section
def AV.isUnd : AV → Bool
  | .v (.tuple _) => true
  | _ => false
def guardSlot (all : List Oper) (j : Nat) : Option Nat := (all[j]?).bind (·.dst)
def guardB (b want : Bool) (X Y : Prop) : Prop := (b = want → X) ∧ (b = !want → Y)
theorem guardB_tt (X Y : Prop) : guardB true true X Y = X := by simp [guardB]
theorem guardB_tf (X Y : Prop) : guardB true false X Y = Y := by simp [guardB]
theorem guardB_ft (X Y : Prop) : guardB false true X Y = Y := by simp [guardB]
theorem guardB_ff (X Y : Prop) : guardB false false X Y = X := by simp [guardB]
def evOps (P : Program) (D : Types) (cfg : Cfg) (all : List Oper) : List Oper → AS → (AV → AS → Prop) → (AS → Prop) → Prop
  | [], s, _, K => K s
  | o :: rest, s, Kp, K =>
    match o.guard with
    | none => evOp P D cfg o s Kp fun s' => evOps P D cfg all rest s' Kp K
    | some (j, want) =>
      match guardSlot all j with
      | some d =>
        match lookS s.S d with
        | .v (.bool b) => guardB b want (evOp P D cfg o (s.set (some d) (.v (.bool want))) Kp fun s' => evOps P D cfg all rest s' Kp K) (okDst cfg.N o.dst = true ∧ evOps P D cfg all rest ((s.set (some d) (.v (.bool (!want)))).set o.dst (.v undef)) Kp K)
        | x => x.isUnd = true ∧ okDst cfg.N o.dst = true ∧ evOps P D cfg all rest (s.set o.dst (.v undef)) Kp K
      | none => False
inductive AX where
  | normal
  | exit (id : Nat)
  | goto (l : Nat)
  | ret
  | panic (x : AV)
def QR (E : Ent) (N : Nat) (Q : AX → AS → Prop) : Exit → Act → World → Prop
  | .normal, a, w => NextR E N (Q .normal) a w
  | .exit id, a, w => NextR E N (Q (.exit id)) a w
  | .goto l, a, w => NextR E N (Q (.goto l)) a w
  | .ret, a, w => NextR E N (Q .ret) a w
  | .panic chain, a, w => ∃ M ψ s S' x v, At E N M ψ s a w ∧ chain = [{ v, recovered := false }] ∧ Rep M ψ x v ∧ Q (.panic x) { s with S := S' }
  | .outgrown, _, _ => False
def J (P : Program) (E : Ent) (N : Nat) (c : Code) (Q : AX → AS → Prop) (s : AS) : Prop := ∀ M ψ a w, At E N M ψ s a w → c.wp P (QR E N Q) a w
def thenQ (n : AS → Prop) (Q : AX → AS → Prop) : AX → AS → Prop
  | .normal, s => n s
  | e, s => Q e s
def blockQ (id : Nat) (Q : AX → AS → Prop) : AX → AS → Prop
  | .exit i, s => if i = id then Q .normal s else Q (.exit i) s
  | e, s => Q e s
section
variable {P : Program} {D : Types} (hD : Types.ok P D) {E : Ent} {cfg : Cfg} {N : Nat} {M : Imm} {ψ : Psi} {s : AS} {a : Act} {w : World} {Q : AX → AS → Prop}
theorem panR (E : Ent) (N : Nat) (Q : AX → AS → Prop) : PanR E N (fun x s => Q (.panic x) s) (QR E N Q) :=
  fun x s M ψ v a w h1 h2 h3 => ⟨M, ψ, s, s.S, x, v, h1, rfl, h2, h3⟩
theorem At.wit (h : At E N M ψ s a w) {t : Nat} {x : AV} (hx : Rep M ψ x (a.tmps.getD t undef)) : At E N M ψ (s.set (some t) x) a w := by
  refine ⟨h.since, h.sr, fun j => ?_, h.n, h.d⟩
  show Rep M ψ (lookS (setS s.S t x) j) _
  rw [lookS_setS]
  by_cases hj : j = t
  · subst hj; rw [if_pos rfl]; exact hx
  · rw [if_neg hj]; exact h.sl j
theorem getElem?_of_getD {tmps : Array Value} {d : Nat} {b : Bool} (h : tmps.getD d undef = .bool b) : tmps[d]? = some (.bool b) := by
  rw [Array.getD_eq_getD_getElem?] at h
  cases hh : tmps[d]? with
  | none => rw [hh] at h; cases h
  | some v => rw [hh] at h; simp at h; rw [h]
include hD in
theorem evOps_ok (all : List Oper) : ∀ (rest : List Oper) (k : Nat) (s : AS) (M : Imm) (ψ : Psi) (a : Act) (w : World), all.drop k = rest → At E cfg.N M ψ s a w →
    evOps P D cfg all rest s (fun x s => Q (.panic x) s) (Q .normal) → wpOps P all.toArray (QR E cfg.N Q) (List.range' k rest.length) a w := by
  intro rest
  induction rest with
  | nil =>
    intro k s M ψ a w _ h hev
    simp only [List.length_nil, List.range'_zero, wpOps]
    exact ⟨M, ψ, s, h, hev⟩
  | cons o rest ih =>
    intro k s M ψ a w hdrop h hev
    have hk : all[k]? = some o := by
      have := congrArg (fun l => l[0]?) hdrop
      simpa using this
    have hdrop' : all.drop (k + 1) = rest := by
      have := congrArg List.tail hdrop
      simpa using this
    have hk' : all.toArray[k]? = some o := by simpa using hk
    simp only [List.length_cons, List.range'_succ, wpOps, hk']
    have step : ∀ s, At E cfg.N M ψ s a w → evOp P D cfg o s (fun x s => Q (.panic x) s) (fun s' => evOps P D cfg all rest s' (fun x s => Q (.panic x) s) (Q .normal)) → o.wp P a w (wpOps P all.toArray (QR E cfg.N Q) (List.range' (k + 1) rest.length)) (QR E cfg.N Q) := by
      intro s h hop
      refine evOp_ok hD h o hop (panR E cfg.N Q) ?_
      rintro a' w' ⟨M', ψ', s', h1, h2⟩
      exact ih (k + 1) s' M' ψ' a' w' hdrop' h1 h2
    have skip : ∀ s, At E cfg.N M ψ s a w → okDst cfg.N o.dst = true → evOps P D cfg all rest (s.set o.dst (.v undef)) (fun x s => Q (.panic x) s) (Q .normal) → wpOps P all.toArray (QR E cfg.N Q) (List.range' (k + 1) rest.length) (a.put o.dst undef) w :=
      fun s h hd hr => ih (k + 1) _ M ψ _ w hdrop' (h.set (rep_v _ _ _) (okDst_lt hd)) hr
    simp only [evOps] at hev
    split at hev
    · rename_i hg
      simp only [Region.wanted, hg, if_true]
      exact .inl (step s h hev)
    · rename_i j want hg
      split at hev
      · rename_i d hd
        have hy : ((all.toArray[j]?).bind (·.dst)) = some d := by simpa [guardSlot] using hd
        have hrep := h.sl.look d
        split at hev
        · rename_i b hb
          rw [hb] at hrep
          simp only [Rep] at hrep
          have hyl : yielded all.toArray a.tmps j = some b := by
            unfold yielded
            rw [hy]
            simp [getElem?_of_getD hrep]
          simp only [Region.wanted, hg, hyl]
          by_cases hbw : b = want
          · subst hbw
            simp only [BEq.rfl, if_true]
            exact .inl (step _ (h.wit (by rw [hrep]; exact rep_v _ _ _)) (hev.1 rfl))
          · have : (some b == some want) = false := by simpa using hbw
            simp only [this, Bool.false_eq_true, if_false]
            have hb' : b = !want := by cases b <;> cases want <;> simp_all
            obtain ⟨e1, e2⟩ := hev.2 hb'
            exact skip _ (h.wit (by rw [hrep, hb']; exact rep_v _ _ _)) e1 e2
        · rename_i x hne
          obtain ⟨hu, e1, e2⟩ := hev
          have hyl : yielded all.toArray a.tmps j = none := by
            unfold yielded
            rw [hy]
            generalize lookS s.S d = x at *
            unfold AV.isUnd at hu
            split at hu
            · simp only [Rep] at hrep
              rw [Array.getD_eq_getD_getElem?] at hrep
              simp only [Option.bind_some]
              cases hh : a.tmps[d]? with
              | none => rfl
              | some v => rw [hh] at hrep; simp at hrep; rw [hrep]
            · cases hu
          simp only [Region.wanted, hg, hyl]
          have : ((none : Option Bool) == some want) = false := rfl
          simp only [this, Bool.false_eq_true, if_false]
          exact skip s h e1 e2
      · exact hev.elim
include hD in
theorem J_region {id : Nat} {ops : Array Oper} (h : evOps P D cfg ops.toList ops.toList s (fun x s => Q (.panic x) s) (Q .normal)) : J P E cfg.N (.region id ops false) Q s := by
  intro M ψ a w hat
  have := evOps_ok hD (E := E) (Q := Q) ops.toList ops.toList 0 s M ψ a w rfl hat h
  refine wp_region ?_
  rw [List.range_eq_range']
  simpa using this
theorem J_seq {x y : Code} (h : J P E N x (thenQ (J P E N y Q) Q) s) : J P E N (.seq x y) Q s := by
  intro M ψ a w hat
  refine wp_seq (wp_mono (h M ψ a w hat) ?_)
  intro e a' w' h'
  cases e with
  | normal => obtain ⟨M', ψ', s', h1, h2⟩ := h'; exact h2 M' ψ' a' w' h1
  | exit id => exact h'
  | goto l => exact h'
  | ret => exact h'
  | panic chain => exact h'
  | outgrown => exact h'
theorem J_cond {c : Operand} {x y : Code} {t : Bool} (hc : evA s.S c = .v (.bool t)) (ht : t = true → J P E N x Q s) (hf : t = false → J P E N y Q s) : J P E N (.cond c x y) Q s := by
  intro M ψ a w hat
  have hr := Rep.evA hat.sl c
  rw [hc] at hr
  simp only [Rep] at hr
  exact wp_cond_split hr (fun e => ht e M ψ a w hat) (fun e => hf e M ψ a w hat)
theorem J_block {id : Nat} {c : Code} (h : J P E N c (blockQ id Q) s) : J P E N (.block id c) Q s := by
  intro M ψ a w hat
  refine wp_block (wp_mono (h M ψ a w hat) ?_)
  intro e a' w' h'
  cases e with
  | normal => exact h'
  | exit i =>
    obtain ⟨M', ψ', s', h1, h2⟩ := h'
    simp only [Exit.inBlock]
    simp only [blockQ] at h2
    split
    · rename_i e; rw [if_pos e] at h2; exact ⟨M', ψ', s', h1, h2⟩
    · rename_i e; rw [if_neg e] at h2; exact ⟨M', ψ', s', h1, h2⟩
  | goto l => exact h'
  | ret => exact h'
  | panic chain => exact h'
  | outgrown => exact h'
theorem J_skip (h : Q .normal s) : J P E N .skip Q s := fun M ψ a w hat => wp_skip ⟨M, ψ, s, hat, h⟩
theorem J_exit {id : Nat} (h : Q (.exit id) s) : J P E N (.exit id) Q s := fun M ψ a w hat => wp_exit ⟨M, ψ, s, hat, h⟩
theorem J_ret (h : Q .ret s) : J P E N .ret Q s := fun M ψ a w hat => wp_ret ⟨M, ψ, s, hat, h⟩
theorem J_loop {c : Code} (R : Nat → AS → Prop) {n : Nat} (h0 : R n s) (h : ∀ n s, R n s → J P E N c (thenQ (fun s' => ∃ m, m < n ∧ R m s') Q) s) : J P E N (.loop c) Q s := by
  intro M ψ a w hat b k cs
  have key : ∀ n s M ψ a w, R n s → At E N M ψ s a w → ∃ e a' w', QR E N Q e a' w' ∧ Arrives P (lone (b.at a (.code c :: .inLoop c :: k)) cs w) b k cs e a' w' := by
    intro n
    induction n using Nat.strongRecOn with
    | _ n ih =>
      intro s M ψ a w hR hat
      obtain ⟨e, a₁, w₁, hq, harr⟩ := h n s hR M ψ a w hat b (.inLoop c :: k) cs
      cases e with
      | normal =>
        obtain ⟨M', ψ', s', h1, m, hm, hR'⟩ := hq
        obtain ⟨e₂, a₂, w₂, hq₂, harr₂⟩ := ih m hm s' M' ψ' a₁ w₁ hR' h1
        exact ⟨e₂, a₂, w₂, hq₂, .of_steps (Steps.trans harr (.one step_inLoop)) harr₂⟩
      | exit id => exact ⟨.exit id, a₁, w₁, hq, .pass (x := .inLoop c) rfl (fun _ _ => .inl (by simp)) harr⟩
      | goto l => exact ⟨.goto l, a₁, w₁, hq, .pass (x := .inLoop c) rfl (fun _ _ => .inl (by simp)) harr⟩
      | ret => exact ⟨.ret, a₁, w₁, hq, .pass (x := .inLoop c) rfl (fun _ _ => .inl (by simp)) harr⟩
      | panic ch => exact ⟨.panic ch, a₁, w₁, hq, .pass (x := .inLoop c) rfl (fun _ _ => .inl (by simp)) harr⟩
      | outgrown => exact hq.elim
  obtain ⟨e, a', w', hq, harr⟩ := key n s M ψ a w h0 hat
  exact ⟨e, a', w', hq, .of_steps (.one step_loop) harr⟩
theorem J_weaken {c : Code} {S' : Slots} (hS : ∀ k, lookS S' k = lookS s.S k ∨ lookS S' k = .dead) (h : J P E N c Q { s with S := S' }) : J P E N c Q s := by
  intro M ψ a w hat
  refine h M ψ a w ⟨hat.since, hat.sr, fun k => ?_, hat.n, hat.d⟩
  show Rep M ψ (lookS S' k) _
  rcases hS k with e | e
  · rw [e]; exact hat.sl k
  · rw [e]; simp only [Rep]
def keepS : Slots → List Nat → Slots
  | [], _ => []
  | (j, x) :: r, ks => if ks.contains j then (j, x) :: keepS r ks else keepS r ks
theorem lookS_keepS (S : Slots) (ks : List Nat) (k : Nat) : lookS (keepS S ks) k = lookS S k ∨ lookS (keepS S ks) k = .dead := by
  by_cases hk : ks.contains k = true
  · left
    induction S with
    | nil => rfl
    | cons x r ih =>
      obtain ⟨j, a⟩ := x
      simp only [keepS]
      split
      · simp only [lookS, ih]
      · rename_i hj
        have : k ≠ j := by rintro rfl; exact hj hk
        simp only [lookS, if_neg this, ih]
  · right
    induction S with
    | nil => rfl
    | cons x r ih =>
      obtain ⟨j, a⟩ := x
      simp only [keepS]
      split
      · rename_i hj
        have : k ≠ j := by rintro rfl; exact hk hj
        simp only [lookS, if_neg this, ih]
      · exact ih
def AV.frz (k : Nat) (cs : List AV) : AV → AV
  | .p l off => if l = .l k then .vp (cs.drop off) else .p l off
  | .os l es off n => if l = .l k then (if off + n * es ≤ cs.length then .sl n ((cs.drop off).take (n * es)) else .dead) else .os l es off n
  | .oc l es off n c => if l = .l k then .dead else .oc l es off n c
  | x => x
theorem Rep.frz {k : Nat} {cs : List AV} {us : List Value} {i : LI} {M' : Imm} (hψ : ψ (.l k) = some i) (hM : M.le M') (hat : ImmAt M' i.b 0 us) (hr : RepL M' ψ.strip cs us) {x : AV} {v : Value} (h : Rep M ψ x v) : Rep M' ψ (x.frz k cs) v := by
  have h' := Rep.mono hM x (Psi.le_refl ψ) h
  cases x with
  | p l off =>
    simp only [AV.frz]
    split
    · rename_i e
      subst e
      simp only [Rep] at h ⊢
      obtain ⟨j, hj, rfl⟩ := h
      rw [hψ] at hj
      cases hj
      refine ⟨i.b, off, us.drop off, rfl, ?_, hr.drop off⟩
      have := hat.drop off
      rwa [Nat.zero_add] at this
    · exact h'
  | os l es off n =>
    simp only [AV.frz]
    split
    · rename_i e
      subst e
      split
      · rename_i hlen
        simp only [Rep] at h ⊢
        rcases h with ⟨rfl, rfl, a', rfl⟩ | ⟨j, cap, hj, rfl, h1, h2, h3⟩
        · exact ⟨a', 0, rfl, Nat.le_refl _, Nat.zero_le _, fun hne => absurd (by simp) hne⟩
        · rw [hψ] at hj
          cases hj
          refine ⟨_, cap, rfl, h1, h2, fun _ => ⟨i.b, off, (us.drop off).take (n * es), rfl, ?_, (hr.drop off).take _⟩⟩
          have := (hat.drop off).take (n * es)
          rwa [Nat.zero_add] at this
      · simp only [Rep]
    · exact h'
  | oc l es off n c =>
    simp only [AV.frz]
    split
    · simp only [Rep]
    · exact h'
  | v y => exact h'
  | dead => exact h'
  | vp cs => exact h'
  | sl n cs => exact h'
  | sl0 => exact h'
  | agg cs => exact h'
  | tup cs => exact h'
  | fn f cs => exact h'
  | ifc t y => exact h'
def frzS : Slots → Nat → List AV → Slots
  | [], _, _ => []
  | (j, x) :: r, k, cs => (j, AV.frz k cs x) :: frzS r k cs
def frzC : List AV → Nat → List AV → List AV
  | [], _, _ => []
  | x :: r, k, cs => AV.frz k cs x :: frzC r k cs
def frzL : List (Nat × List AV) → Nat → List AV → List (Nat × List AV)
  | [], _, _ => []
  | (j, ds) :: r, k, cs => if k = j then frzL r k cs else (j, frzC ds k cs) :: frzL r k cs
def AS.frz (s : AS) (k : Nat) (cs : List AV) : AS := { S := frzS s.S k cs, L := frzL s.L k cs, H := s.H }
theorem lookL_frzL (L : List (Nat × List AV)) (k : Nat) (cs : List AV) (j : Nat) : lookL (frzL L k cs) j = if j = k then none else (lookL L j).map (fun ds => frzC ds k cs) := by
  induction L with
  | nil => simp [frzL, lookL]
  | cons e r ih =>
    obtain ⟨i, ds⟩ := e
    simp only [frzL]
    by_cases h : k = i
    · subst h
      simp only [if_true, ih, lookL]
      by_cases hj : j = k <;> simp [hj]
    · simp only [if_neg h, lookL, ih]
      by_cases hj : j = i
      · subst hj; simp [Ne.symm h]
      · simp [hj]
theorem RepL.frz {k : Nat} {cs : List AV} {us : List Value} {i : LI} {M' : Imm} (hψ : ψ (.l k) = some i) (hM : M.le M') (hat : ImmAt M' i.b 0 us) (hr : RepL M' ψ.strip cs us) {xs : List AV} {vs : List Value} (h : RepL M ψ xs vs) : RepL M' ψ (frzC xs k cs) vs := by
  induction xs generalizing vs with
  | nil => simpa only [frzC, RepL] using h
  | cons x xs ih =>
    simp only [frzC, RepL] at h ⊢
    obtain ⟨u, vs', rfl, h1, h2⟩ := h
    exact ⟨u, vs', rfl, h1.frz hψ hM hat hr, ih h2⟩
theorem frzC_length (xs : List AV) (k : Nat) (cs : List AV) : (frzC xs k cs).length = xs.length := by
  induction xs with
  | nil => rfl
  | cons x xs ih => simp [frzC, ih]
theorem lookS_frzS (S : Slots) (k : Nat) (cs : List AV) (j : Nat) : lookS (frzS S k cs) j = AV.frz k cs (lookS S j) := by
  induction S with
  | nil => rfl
  | cons y r ih =>
    obtain ⟨i, x⟩ := y
    simp only [frzS, lookS, ih]
    split <;> rfl
theorem At.freeze {k : Nat} {cs : List AV} (h : At E N M ψ s a w) (hk : lookL s.L k = some cs) (hno : AV.noLL cs = true) : ∃ M', At E N M' ψ (s.frz k cs) a w := by
  have hg : s.g (.l k) = some cs := hk
  cases hψ : ψ (.l k) with
  | none =>
    have hcs := h.sr.empt _ _ hg hψ
    subst hcs
    have hx : ∀ {x : AV} {v : Value}, Rep M ψ x v → Rep M ψ (x.frz k []) v := by
      intro x v hx
      cases x with
      | p l off =>
        simp only [AV.frz]
        split
        · rename_i e
          subst e
          simp only [Rep] at hx
          obtain ⟨j, hj, _⟩ := hx
          rw [hψ] at hj; cases hj
        · exact hx
      | os l es off n =>
        simp only [AV.frz]
        split
        · rename_i e
          subst e
          split
          · simp only [Rep] at hx ⊢
            rcases hx with ⟨rfl, rfl, a', rfl⟩ | ⟨j, cap, hj, _⟩
            · exact ⟨a', 0, rfl, Nat.le_refl _, Nat.zero_le _, fun hne => absurd (by simp) hne⟩
            · rw [hψ] at hj; cases hj
          · simp only [Rep]
        · exact hx
      | oc l es off n c =>
        simp only [AV.frz]
        split
        · simp only [Rep]
        · exact hx
      | _ => exact hx
    have hxL : ∀ {xs : List AV} {vs : List Value}, RepL M ψ xs vs → RepL M ψ (frzC xs k []) vs := by
      intro xs
      induction xs with
      | nil => intro vs hr; simpa only [frzC, RepL] using hr
      | cons x xs ih =>
        intro vs hr
        simp only [frzC, RepL] at hr ⊢
        obtain ⟨u, vs', rfl, h1, h2⟩ := hr
        exact ⟨u, vs', rfl, hx h1, ih h2⟩
    have hsome : ∀ l, ((s.frz k []).g l).isSome → (s.g l).isSome := by
      intro l hl
      cases l with
      | l j =>
        have hl : (lookL (frzL s.L k []) j).isSome := hl
        rw [lookL_frzL] at hl
        split at hl
        · cases hl
        · show (lookL s.L j).isSome; simpa using hl
      | h n => exact hl
    refine ⟨M, ⟨?_, ⟨h.sr.imm, ?_, ?_, ?_, ?_, h.sr.sep, h.sr.lt, h.sr.fin⟩, ?_, h.n, h.d⟩⟩
    · exact ⟨h.since.os, h.since.tape, h.since.output, h.since.size, h.since.blk, h.since.le, h.since.psi, h.since.newM, h.since.newψ, fun l i h1 h2 => h.since.live l i (hsome l h1) h2⟩
    · intro l ds hl i hi
      cases l with
      | l j =>
        have hl : lookL (frzL s.L k []) j = some ds := hl
        rw [lookL_frzL] at hl
        split at hl
        · cases hl
        · simp only [Option.map_eq_some_iff] at hl
          obtain ⟨ds', hd, rfl⟩ := hl
          obtain ⟨vs, T, a1, a2, a3, a4, a5⟩ := h.sr.obj (.l j) ds' hd i hi
          exact ⟨vs, T, a1, a2, by rw [frzC_length]; exact a3, a4, by rw [frzC_length]; exact hxL a5⟩
      | h n => exact h.sr.obj (.h n) ds hl i hi
    · intro l ds hl hn
      cases l with
      | l j =>
        have hl : lookL (frzL s.L k []) j = some ds := hl
        rw [lookL_frzL] at hl
        split at hl
        · cases hl
        · simp only [Option.map_eq_some_iff] at hl
          obtain ⟨ds', hd, rfl⟩ := hl
          rw [h.sr.empt (.l j) ds' hd hn]; rfl
      | h n => exact h.sr.empt (.h n) ds hl hn
    · intro l l' i i' h1 h2
      exact h.sr.apart l l' i i' (hsome l h1) (hsome l' h2)
    · intro l i h1
      exact h.sr.mt l i (hsome l h1)
    · intro j
      show Rep M ψ (lookS (frzS s.S k []) j) _
      rw [lookS_frzS]
      exact hx (h.sl j)
  | some i =>
    obtain ⟨us, hlen, hrep, hle, hsr⟩ := h.sr.freeze hg hψ
    have hst : RepL (M.with i.b us) ψ.strip cs us := RepL.mono hle _ (Psi.le_refl _) (hrep.noLL' hno)
    have hat := Imm.with_at M i.b us
    have hsome : ∀ l, ((s.frz k cs).g l).isSome → (upd s.g (.l k) none l).isSome := by
      intro l hl
      cases l with
      | l j =>
        have hl : (lookL (frzL s.L k cs) j).isSome := hl
        rw [lookL_frzL] at hl
        split at hl
        · cases hl
        · rename_i hj
          rw [upd_other _ _ (fun e => hj (by cases e; rfl))]
          show (lookL s.L j).isSome; simpa using hl
      | h n => rw [upd_other _ _ (fun e => by cases e)]; exact hl
    have hsome' : ∀ l, (upd s.g (.l k) none l).isSome → (s.g l).isSome := by
      intro l hl
      by_cases e : l = .l k
      · subst e; simp [upd_same] at hl
      · rwa [upd_other _ _ e] at hl
    refine ⟨M.with i.b us, ⟨?_, ⟨hsr.imm, ?_, ?_, ?_, ?_, (fun k' i' n j h1 h2 h3 => hsr.sep k' i' n j h1 (by rw [upd_other _ _ (fun e => by cases e)]; exact h2) h3), hsr.lt, (h.sr.fin)⟩, ?_, h.n, h.d⟩⟩
    · exact h.since.with (h.since.live _ i (by simp [hg]) hψ) hle (fun l hl => hsome' l (hsome l hl))
    · intro l ds hl j hj
      cases l with
      | l q =>
        have hl : lookL (frzL s.L k cs) q = some ds := hl
        rw [lookL_frzL] at hl
        split at hl
        · cases hl
        · simp only [Option.map_eq_some_iff] at hl
          obtain ⟨ds', hd, rfl⟩ := hl
          obtain ⟨vs, T, a1, a2, a3, a4, a5⟩ := h.sr.obj (.l q) ds' hd j hj
          exact ⟨vs, T, a1, a2, by rw [frzC_length]; exact a3, a4, by rw [frzC_length]; exact RepL.frz hψ hle hat hst a5⟩
      | h n =>
        exact hsr.obj (.h n) ds (by rw [upd_other _ _ (fun e => by cases e)]; exact hl) j hj
    · intro l ds hl hn
      cases l with
      | l q =>
        have hl : lookL (frzL s.L k cs) q = some ds := hl
        rw [lookL_frzL] at hl
        split at hl
        · cases hl
        · simp only [Option.map_eq_some_iff] at hl
          obtain ⟨ds', hd, rfl⟩ := hl
          rw [h.sr.empt (.l q) ds' hd hn]; rfl
      | h n => exact h.sr.empt (.h n) ds hl hn
    · intro l l' j j' h1 h2
      exact hsr.apart l l' j j' (hsome l h1) (hsome l' h2)
    · intro l j h1
      exact hsr.mt l j (hsome l h1)
    · intro j
      show Rep (M.with i.b us) ψ (lookS (frzS s.S k cs) j) _
      rw [lookS_frzS]
      exact (h.sl j).frz hψ hle hat hst
theorem J_freeze {c : Code} (k : Nat) {cs : List AV} (hk : lookL s.L k = some cs) (hno : AV.noLL cs = true) (h : J P E N c Q (s.frz k cs)) : J P E N c Q s := by
  intro M ψ a w hat
  obtain ⟨M', hat'⟩ := hat.freeze hk hno
  exact h M' ψ a w hat'
end
end
section
def enumS : Nat → List AV → Slots
  | _, [] => []
  | k, x :: xs => (k, x) :: enumS (k + 1) xs
def evRes (D : Types) (s : AS) : ResultVar → Option (Prop × AV)
  | .tmp t => some (True, lookS s.S t)
  | .cell a t => match D t with
    | some d => if d.known then (if d.agg then (evLoad s.g (lookS s.S a) d.size).map fun r => (r.1, .agg r.2) else (evLoad s.g (lookS s.S a) 1).map fun r => (r.1, r.2.headD .dead)) else none
    | none => none
def evResL (D : Types) (s : AS) : List ResultVar → Option (Prop × List AV)
  | [] => some (True, [])
  | r :: rs => match evRes D s r, evResL D s rs with
    | some (c, x), some (c', xs) => some (c ∧ c', x :: xs)
    | _, _ => none
def evResult (D : Types) (s : AS) (rs : List ResultVar) : Option (Prop × AV) :=
  match evResL D s rs with
  | some (c, [x]) => some (c, x)
  | some (c, xs) => some (c, .tup xs)
  | none => none
def retQ (D : Types) (rs : List ResultVar) (Q : AE → Heap → Prop) : AX → AS → Prop
  | .normal, s => match evResult D s rs with
    | some (c, x) => c ∧ x.noL = true ∧ Q (.ret x) s.H
    | none => False
  | .ret, s => match evResult D s rs with
    | some (c, x) => c ∧ x.noL = true ∧ Q (.ret x) s.H
    | none => False
  | .panic x, s => x.noL = true ∧ Q (.panic x) s.H
  | _, _ => False
section
variable {P : Program} {D : Types} (hD : Types.ok P D) {E : Ent} {cfg : Cfg} {N : Nat} {M : Imm} {ψ : Psi} {s : AS} {a : Act} {w : World}
include hD in
theorem evRes_ok (h : At E N M ψ s a w) {r : ResultVar} {c : Prop} {x : AV} (he : evRes D s r = some (c, x)) (hc : c) :
    ∃ v, (match r with
      | .tmp t => (pure (a.tmps.getD t undef) : Sem Value)
      | .cell ad t => do loadVar t (← asAddr (a.tmps.getD ad undef))).run P w = .ok v w ∧ Rep M ψ x v := by
  cases r with
  | tmp t => simp only [evRes] at he; cases he; exact ⟨_, rfl, h.sl.look t⟩
  | cell ad t =>
    simp only [evRes] at he
    split at he
    · rename_i d hd
      split at he
      · rename_i hk
        have hag := run_isAgg (hD _ _ hd) hk
        have hsz := run_sizeOf (hD _ _ hd)
        have hx := h.sl.look ad
        split at he
        · rename_i hagg
          simp only [Option.map_eq_some_iff] at he
          obtain ⟨⟨c', cs⟩, h1, h2⟩ := he
          cases h2
          obtain ⟨b, o, us, hv, hl, hrep, h1c, hcell⟩ := evLoad_ok h.sr h1 hc hx
          have e := run_loadCells_list (P := P) w ⟨b, o, none⟩ us hcell
          rw [hl] at e
          refine ⟨.agg us.toArray, by simp [hv, asAddr, loadVar, hag, hagg, hsz, e], ?_⟩
          simp only [Rep]
          exact ⟨us, rfl, hrep, h1c⟩
        · rename_i hagg
          simp only [Option.map_eq_some_iff] at he
          obtain ⟨⟨c', cs⟩, h1, h2⟩ := he
          cases h2
          obtain ⟨b, o, us, hv, hl, hrep, h1c, hcell⟩ := evLoad_ok h.sr h1 hc hx
          obtain ⟨u, rfl, hu⟩ := hrep.headD hl
          have e := hcell 0 u rfl
          simp [add_plain] at e
          have hagg' : d.agg = false := by simpa using hagg
          exact ⟨u, by simp [hv, asAddr, loadVar, hag, hagg', e], hu⟩
      · cases he
    · cases he
include hD in
theorem evResL_ok (h : At E N M ψ s a w) : ∀ (rs : List ResultVar) (c : Prop) (xs : List AV), evResL D s rs = some (c, xs) → c →
    ∃ vs : List Value, (rs.mapM (m := Sem) fun r => match r with
      | .tmp t => (pure (a.tmps.getD t undef) : Sem Value)
      | .cell ad t => do loadVar t (← asAddr (a.tmps.getD ad undef))).run P w = .ok vs w ∧ RepL M ψ xs vs := by
  intro rs
  induction rs with
  | nil => intro c xs he hc; simp only [evResL] at he; cases he; exact ⟨[], rfl, by simp only [RepL]⟩
  | cons r rs ih =>
    intro c xs he hc
    simp only [evResL] at he
    split at he
    · rename_i c1 x c2 xs' h1 h2
      cases he
      obtain ⟨v, e1, e2⟩ := evRes_ok hD h h1 hc.1
      obtain ⟨vs, e3, e4⟩ := ih _ _ h2 hc.2
      refine ⟨v :: vs, ?_, by simp only [RepL]; exact ⟨v, vs, rfl, e2, e4⟩⟩
      simp only [List.mapM_cons, Sem.run_bind, e1, Result.andThen_ok, e3, Sem.run_pure]
    · cases he
include hD in
theorem evResult_ok (h : At E N M ψ s a w) {fn : Func} {c : Prop} {x : AV} (he : evResult D s fn.results.toList = some (c, x)) (hc : c) : ∃ v, (results fn a.tmps).run P w = .ok v w ∧ Rep M ψ x v := by
  have key : ∀ c xs, evResL D s fn.results.toList = some (c, xs) → c → ∃ vs : List Value, (results fn a.tmps).run P w = .ok (if h : vs.length = 1 then vs[0] else .tuple vs.toArray) w ∧ RepL M ψ xs vs := by
    intro c xs h1 hc
    obtain ⟨vs, e1, e2⟩ := evResL_ok hD h _ c xs h1 hc
    refine ⟨vs, ?_, e2⟩
    have e1' : (fn.results.mapM (m := Sem) fun r => match r with
      | .tmp t => (pure (a.tmps.getD t undef) : Sem Value)
      | .cell ad t => do loadVar t (← asAddr (a.tmps.getD ad undef))).run P w = .ok vs.toArray w := by
      rw [Array.mapM_eq_mapM_toList, Sem.run_map, e1]; rfl
    unfold results
    rw [Sem.run_bind]
    have hf : (fun r => match r with
      | .tmp t => (pure (a.tmps.getD t undef) : Sem Value)
      | .cell ad t => do loadVar t (← asAddr (a.tmps.getD ad undef)) : ResultVar → Sem Value) = (fun
    | .tmp t => pure (a.tmps.getD t undef)
    | .cell a' t => do loadVar t (← asAddr (a.tmps.getD a' undef))) := by funext r; cases r <;> rfl
    rw [hf] at e1'
    refine Eq.trans (congrArg (fun r => Result.andThen r _) e1') ?_
    simp
  unfold evResult at he
  split at he
  · rename_i c' x' h1
    cases he
    obtain ⟨vs, e1, e2⟩ := key _ _ h1 hc
    simp only [RepL] at e2
    obtain ⟨u, us, rfl, hu, rfl⟩ := e2
    exact ⟨u, by rw [e1]; simp, hu⟩
  · rename_i c' xs hne h1
    cases he
    obtain ⟨vs, e1, e2⟩ := key _ _ h1 hc
    have hlen := e2.length
    have hv : vs.length ≠ 1 := by
      intro h1'
      rw [h1'] at hlen
      cases xs with
      | nil => simp at hlen
      | cons y ys =>
        have : ys = [] := List.eq_nil_of_length_eq_zero (by simpa using hlen.symm)
        subst this
        exact hne y rfl
    refine ⟨.tuple vs.toArray, by rw [e1, dif_neg hv], ?_⟩
    simp only [Rep]
    exact ⟨vs, rfl, e2⟩
  · cases he
theorem Since.heapOnly {M0 : Imm} {ψ0 : Psi} {g0 : Store} {w0 : World} {L : List (Nat × List AV)} {H : Heap} (h : Since M0 ψ0 g0 w0 M ψ (mkG L H) w) : Since M0 ψ0 g0 w0 M ψ.strip (hOnly H) w := by
  refine ⟨h.os, h.tape, h.output, h.size, h.blk, h.le, h.psi, h.newM, fun l i hl => h.newψ l i (ψ.strip_le l i hl), fun l i h1 h2 => ?_⟩
  cases l with
  | l k => simp [hOnly, mkG, lookL] at h1
  | h n => exact h.live (.h n) i h1 h2
theorem slots_enum (M : Imm) (ψ : Psi) : ∀ (args : List AV) (vals : List Value) (k : Nat) (tmps : Array Value), RepL M ψ args vals → (∀ i v, vals[i]? = some v → tmps.getD (k + i) undef = v) → SlotsR M ψ (enumS k args) tmps := by
  intro args
  induction args with
  | nil => intro vals k tmps _ _ j; simp only [enumS, lookS, Rep]
  | cons x xs ih =>
    intro vals k tmps hr hv j
    simp only [RepL] at hr
    obtain ⟨u, us, rfl, h1, h2⟩ := hr
    simp only [enumS, lookS]
    split
    · rename_i e
      subst e
      have := hv 0 u rfl
      simp only [Nat.add_zero] at this
      rw [this]
      exact h1
    · refine ih us (k + 1) tmps h2 (fun i v hi => ?_) j
      rw [show k + 1 + i = k + (i + 1) from by omega]
      exact hv (i + 1) v (by simpa using hi)
include hD in
theorem PCalls.of_J {f : FuncId} {fn : Func} {c : Code} {args : List AV} {H : Heap} {Q : AE → Heap → Prop} (hf : P.funcs[f]? = some fn) (hb : fn.body = some c) (hname : (fn.name == "runtime.NumGoroutine") = false)
    (hlen : args.length ≤ fn.ntmps) (h : ∀ E, J P E fn.ntmps c (retQ D fn.results.toList Q) { S := enumS 0 args, L := [], H := H }) : PCalls P f args H Q := by
  intro M ψ w vals hst hsr hreps
  have hvl := hreps.length
  refine .inl ⟨⟨fn, hf, by rw [hb]; rfl, hname⟩, calls_of_wp hf hb ?_⟩
  have hat : At ⟨M, ψ, hOnly H, w, []⟩ fn.ntmps M ψ { S := enumS 0 args, L := [], H := H } { tmps := vals.toArray ++ Array.replicate (fn.ntmps - vals.toArray.size) undef, defers := [] } w := by
    refine ⟨Since.refl M ψ _ w, hsr, ?_, ?_, rfl⟩
    · refine slots_enum M ψ args vals 0 _ hreps fun i v hi => ?_
      have hlt : i < vals.length := by
        rcases Nat.lt_or_ge i vals.length with h' | h'
        · exact h'
        · rw [List.getElem?_eq_none h'] at hi; cases hi
      rw [Nat.zero_add, Array.getD_eq_getD_getElem?, Array.getElem?_append_left (by simpa using hlt)]
      simp [hi]
    · simp
      omega
  refine wp_mono (h ⟨M, ψ, hOnly H, w, []⟩ M ψ _ w hat) ?_
  have fin : ∀ a' w' M' ψ' s' c x, At ⟨M, ψ, hOnly H, w, []⟩ fn.ntmps M' ψ' s' a' w' → evResult D s' fn.results.toList = some (c, x) → c → x.noL = true → Q (.ret x) s'.H →
      a'.defers = [] ∧ ∃ v, (results fn a'.tmps).run P w' = .ok v w' ∧ CPost M ψ H w Q (.returned v) w' := by
    intro a' w' M' ψ' s' c x h1 h2 h3 h4 h5
    obtain ⟨v, e1, e2⟩ := evResult_ok hD h1 h2 h3
    exact ⟨h1.d, v, e1, M', ψ'.strip, s'.H, .ret x, Psi.strip_strip _, h1.since.heapOnly, h1.sr.heapOnly, ⟨x, rfl, Rep.noL x h4 e2⟩, h5⟩
  intro e a' w' hq
  cases e with
  | normal =>
    obtain ⟨M', ψ', s', h1, h2⟩ := hq
    simp only [retQ] at h2
    split at h2
    · rename_i c' x he; exact fin a' w' M' ψ' s' c' x h1 he h2.1 h2.2.1 h2.2.2
    · exact h2.elim
  | ret =>
    obtain ⟨M', ψ', s', h1, h2⟩ := hq
    simp only [retQ] at h2
    split at h2
    · rename_i c' x he; exact fin a' w' M' ψ' s' c' x h1 he h2.1 h2.2.1 h2.2.2
    · exact h2.elim
  | panic chain =>
    obtain ⟨M', ψ', s', S', x, v, h1, h2, h3, h4, h5⟩ := hq
    exact ⟨h1.d, M', ψ'.strip, s'.H, .panic x, Psi.strip_strip _, h1.since.heapOnly, h1.sr.heapOnly, ⟨x, v, rfl, h2, Rep.noL x h4 h3⟩, h5⟩
  | exit id => obtain ⟨_, _, _, _, h2⟩ := hq; exact h2.elim
  | goto l => obtain ⟨_, _, _, _, h2⟩ := hq; exact h2.elim
  | outgrown => exact hq.elim
include hD in
theorem PCalls.of_J' {f : FuncId} {fn : Func} {c : Code} {args : List AV} {H : Heap} {Q : AE → Heap → Prop} (hf : P.funcs[f]? = some fn) (hb : fn.body = some c) (hname : (fn.name == "runtime.NumGoroutine") = false)
    (hlen : args.length ≤ fn.ntmps) (h : ∀ E QF, (∀ e s, retQ D fn.results.toList Q e s → QF e s) → J P E fn.ntmps c QF { S := enumS 0 args, L := [], H := H }) : PCalls P f args H Q :=
  PCalls.of_J hD hf hb hname hlen fun E => h E _ fun _ _ h => h
theorem J_seq' {x y : Code} {Q : AX → AS → Prop} (h : ∀ K : AS → Prop, (∀ s', J P E N y Q s' → K s') → J P E N x (thenQ K Q) s) : J P E N (.seq x y) Q s :=
  J_seq (h _ fun _ h => h)
end
end
end Go.Eng
