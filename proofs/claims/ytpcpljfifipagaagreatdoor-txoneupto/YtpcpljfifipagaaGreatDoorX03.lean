/- A part of the proof: the engine that walks Go code, the walks of the broker, or their laws (TvEngD TvEngE TvEngF TvEngG TvEngH). -/
import Derived.Test.YtpcpljfifipagaaGreatDoorX02
import Derived.Laws.StructEq
set_option linter.unusedSimpArgs false
set_option linter.unusedVariables false
namespace Go.Eng
section
theorem rep_v (M : Imm) (ψ : Psi) (x : Value) : Rep M ψ (.v x) x := by simp only [Rep]
theorem run_equalIn_func_nil {P : Program} (w : World) (d : Nat) (t : TypeId) (f : Fn) (a c : Array Value) {q1 q2 : Array TypeId} {q3 : Bool} (h : P.underlying t = some (.func q1 q2 q3)) : (Op.equalIn (d + 1) t (.func f a c) .nilFunc).run P w = .ok false w := by
  simp [Op.equalIn, run_underlying h]
theorem run_equalIn_nil_nil {P : Program} (w : World) (d : Nat) (t : TypeId) {q1 q2 : Array TypeId} {q3 : Bool} (h : P.underlying t = some (.func q1 q2 q3)) : (Op.equalIn (d + 1) t .nilFunc .nilFunc).run P w = .ok true w := by
  simp [Op.equalIn, run_underlying h]
theorem run_fieldEq (P : Program) (D : Types) (hD : Types.ok P D) (w : World) (d : Nat) (M : Imm) (ψ : Psi) {t : TypeId} {x y : AV} {u v : Value} {r : Bool} (h : fieldEq (D t) x y = some r) (hx : Rep M ψ x u) (hy : Rep M ψ y v) :
    (Op.equalIn (d + 1) t u v).run P w = .ok r w ∧ ∀ w' : World, (isAgg t).run P w' = .ok false w' := by
  unfold fieldEq at h
  split at h
  · rename_i hq
    have hq' := (hD _ _ hq).2
    simp only [TKok] at hq'
    simp only [Rep] at hx hy
    subst hx; subst hy
    split at h
    · rename_i hk; subst hk; cases h
      exact ⟨run_equalIn_int w d t _ _ _ _ hq', fun w' => by simp [isAgg, run_underlying hq']⟩
    · cases h
  · rename_i hq
    have hq' := (hD _ _ hq).2
    simp only [TKok] at hq'
    simp only [Rep] at hx hy
    subst hx; subst hy
    cases h
    exact ⟨run_equalIn_bool' w d t _ _ hq', fun w' => by simp [isAgg, run_underlying hq']⟩
  · rename_i hq
    have hq' := (hD _ _ hq).2
    simp only [TKok] at hq'
    simp only [Rep] at hx hy
    subst hx; subst hy
    cases h
    exact ⟨run_equalIn_string w d t _ _ hq', fun w' => by simp [isAgg, run_underlying hq']⟩
  · cases h
theorem run_eqFields (P : Program) (D : Types) (hD : Types.ok P D) (w : World) (d : Nat) (M : Imm) (ψ : Psi) : ∀ (fields : List Field) (n : Nat) (xs ys : List AV) (us vs : List Value) (a b : Array Value) (r : Bool),
    fieldsEq D n (fields.map fun f => (f.offset, f.type)) xs ys = some r → (fields.all fun f => f.name != "_") = true → RepL M ψ xs us → RepL M ψ ys vs →
    (∀ i, a[n + i]? = us[i]?) → (∀ i, b[n + i]? = vs[i]?) → (Op.eqFields (d + 1) a b fields).run P w = .ok r w := by
  intro fields
  induction fields with
  | nil =>
    intro n xs ys us vs a b r hc _ _ _ _ _
    cases xs <;> cases ys <;> simp [fieldsEq] at hc
    subst hc; simp [Op.eqFields]
  | cons f fs ih =>
    intro n xs ys us vs a b r hc hn hx hy h1 h2
    simp only [List.all_cons, Bool.and_eq_true] at hn
    obtain ⟨hn1, hn⟩ := hn
    have hname : f.name ≠ "_" := by simpa using hn1
    cases xs with
    | nil => simp [fieldsEq] at hc
    | cons x xs =>
      cases ys with
      | nil => simp [fieldsEq] at hc
      | cons y ys =>
        simp only [List.map_cons, fieldsEq] at hc
        split at hc
        · rename_i ho
          split at hc
          · rename_i p q hp hq
            cases hc
            simp only [RepL] at hx hy
            obtain ⟨u, us, rfl, hxu, hx⟩ := hx
            obtain ⟨v, vs, rfl, hyv, hy⟩ := hy
            have a0 : a[f.offset]? = some u := by have := h1 0; simpa [ho] using this
            have b0 : b[f.offset]? = some v := by have := h2 0; simpa [ho] using this
            obtain ⟨e1, e2⟩ := run_fieldEq P D hD w d M ψ hp hxu hyv
            have rest := ih (n + 1) xs ys us vs a b q hq hn hx hy
              (fun i => by have := h1 (i + 1); rw [show n + 1 + i = n + (i + 1) from by omega]; simpa using this)
              (fun i => by have := h2 (i + 1); rw [show n + 1 + i = n + (i + 1) from by omega]; simpa using this)
            simp only [Op.eqFields, if_pos hname, part, Sem.run_bind, e2, Result.andThen_ok, a0, b0, Bool.false_eq_true, if_false, Sem.run_pure, e1]
            cases p
            · simp
            · simpa using rest
          · cases hc
        · cases hc
theorem evBin_ok (P : Program) (D : Types) (hD : Types.ok P D) (w : World) (M : Imm) (ψ : Psi) {op : BinOp} {t : TypeId} {x y r : AV} {c : Prop} (ox oy : Operand) {u v : Value} (h : evBin D op t x y = some (c, r)) (hc : c) (hx : Rep M ψ x u) (hy : Rep M ψ y v) :
    ∃ z, (do eqGuard op t ox oy u v; binOp op t u v).run P w = .ok z w ∧ Rep M ψ r z := by
  unfold evBin at h
  split at h
  ·
    simp only [Rep] at hx hy
    subst hx; subst hy
    rename_i k a j b
    have hg : eqGuard op t ox oy (.int k a) (.int j b) = pure () := eqGuard_at_int op t ox oy _ k a
    rw [hg]
    split at h
    · cases h
      refine ⟨_, ?_, rep_v _ _ _⟩
      have : ¬ b < 0 := by omega
      simp [binOp, Op.shift, this]
    · cases h
      refine ⟨_, ?_, rep_v _ _ _⟩
      have : ¬ b < 0 := by omega
      simp [binOp, Op.shift, this]
    · split at h
      · rename_i hk; subst hk
        split at h <;> first
          | (cases h
             refine ⟨_, ?_, rep_v _ _ _⟩
             first
               | (simp [binOp, Op.intArith, Op.intCmp, Op.intBits, hc]; done)
               | (simp [binOp, Op.intDiv, hc]; done)
               | (simp [binOp, Op.intCmp]; rfl))
          | cases h
      · cases h
  ·
    simp only [Rep] at hx hy
    subst hx; subst hy
    rename_i a b
    have hg : eqGuard op t ox oy (.string a) (.string b) = pure () := eqGuard_at_string op t ox oy _ a
    rw [hg]
    split at h <;> first
      | (cases h
         refine ⟨_, ?_, rep_v _ _ _⟩
         first
           | (simp [binOp, Op.stringOp, sEq, sLt]; done)
           | (have : ¬ (9223372036854775807 < ((a.size : Int) + (b.size : Int))) := by omega
              simp [binOp, Op.stringOp, this]; done))
      | cases h
  ·
    simp only [Rep] at hx hy
    subst hx; subst hy
    rename_i k a j b
    have hg : eqGuard op t ox oy (.float k a) (.float j b) = pure () := eqGuard_at_float op t ox oy _ k a
    rw [hg]
    split at h
    · rename_i hk; subst hk
      split at h <;> first
        | (cases h
           refine ⟨_, ?_, rep_v _ _ _⟩
           simp [binOp, Op.floatCmp]; done)
        | cases h
    · cases h
  ·
    simp only [Rep] at hx hy
    subst hx; subst hy
    rename_i a b
    have hg : eqGuard op t ox oy (.bool a) (.bool b) = pure () := eqGuard_at_bool op t ox oy _ a
    rw [hg]
    split at h
    · rename_i hq
      have hq' := (hD _ _ hq).2
      simp only [TKok] at hq'
      split at h <;> first
        | (cases h
           refine ⟨_, ?_, rep_v _ _ _⟩
           simp [binOp, Op.equal, Op.maxDepth, run_equalIn_bool' _ _ t _ _ hq']; done)
        | cases h
    · cases h
  ·
    simp only [Rep] at hx hy
    obtain ⟨vs, rfl, _⟩ := hx
    subst hy
    split at h
    · rename_i hq
      have hq' := (hD _ _ hq).2
      simp only [TKok] at hq'
      obtain ⟨q1, q2, q3, hq'⟩ := hq'
      split at h <;> first
        | (cases h
           refine ⟨_, ?_, rep_v _ _ _⟩
           rw [show eqGuard _ t ox oy (Value.func _ _ _) _ = pure () from eqGuard_at_func _ t ox oy _ _ _ _]
           simp [binOp, Op.equal, Op.maxDepth, run_equalIn_func_nil _ _ t _ _ _ hq']; done)
        | cases h
    · cases h
  · simp only [Rep] at hx hy
    subst hx; subst hy
    split at h
    · rename_i hq
      have hq' := (hD _ _ hq).2
      simp only [TKok] at hq'
      obtain ⟨q1, q2, q3, hq'⟩ := hq'
      split at h <;> first
        | (cases h
           refine ⟨_, ?_, rep_v _ _ _⟩
           rw [show eqGuard _ t ox oy Value.nilFunc _ = pure () from eqGuard_at_nilFunc _ t ox oy _]
           simp [binOp, Op.equal, Op.maxDepth, run_equalIn_nil_nil _ _ t hq']; done)
        | cases h
    · cases h
  ·
    simp only [Rep] at hx hy
    obtain ⟨us, rfl, hx, _⟩ := hx
    obtain ⟨vs, rfl, hy, _⟩ := hy
    split at h
    · rename_i fs _ _ _ hq
      have hq' := (hD _ _ hq).2
      simp only [TKok] at hq'
      obtain ⟨fields, h1, h2, _, h3⟩ := hq'
      obtain ⟨h3, h4, h5⟩ := h3 trivial
      have hf : P.fieldsOf t = fields := by simp [Program.fieldsOf, h1]
      split at h
      · rename_i r' hr
        rw [← h2] at hr
        cases h
        have he := run_eqFields P D hD w 9998 M ψ fields.toList 0 _ _ us vs us.toArray vs.toArray r' hr h5 hx hy (fun i => by simp) (fun i => by simp)
        refine ⟨_, ?_, rep_v _ _ _⟩
        simp only [Sem.run_bind, run_eqGuard_agg w _ t ox oy _ _ h4, Result.andThen_ok, run_eql_struct, run_equalIn_struct (P := P) w 9999 t _ _ (by rw [hf]; exact h1) h3, hf, he]
      · rename_i r' hr
        rw [← h2] at hr
        cases h
        have he := run_eqFields P D hD w 9998 M ψ fields.toList 0 _ _ us vs us.toArray vs.toArray r' hr h5 hx hy (fun i => by simp) (fun i => by simp)
        refine ⟨_, ?_, rep_v _ _ _⟩
        simp only [Sem.run_bind, run_eqGuard_agg w _ t ox oy _ _ h4, Result.andThen_ok, run_neq_struct, run_equalIn_struct (P := P) w 9999 t _ _ (by rw [hf]; exact h1) h3, hf, he]
      · cases h
    · cases h
  · cases h
end
section
def AV.one : AV → Bool
  | .v x => x.oneCell'
  | .dead => false
  | .agg _ => false
  | .tup _ => false
  | _ => true
theorem Rep.one {M : Imm} {ψ : Psi} {x : AV} {v : Value} (h : Rep M ψ x v) (hx : x.one = true) : v.oneCell' = true := by
  cases x with
  | v y => simp only [Rep] at h; subst h; exact hx
  | dead => simp [AV.one] at hx
  | agg _ => simp [AV.one] at hx
  | tup _ => simp [AV.one] at hx
  | p l off => simp only [Rep] at h; obtain ⟨i, _, rfl⟩ := h; rfl
  | vp cs => simp only [Rep] at h; obtain ⟨b, o, vs, rfl, _⟩ := h; rfl
  | sl n cs => simp only [Rep] at h; obtain ⟨a, cap, rfl, _⟩ := h; rfl
  | sl0 => simp only [Rep] at h; obtain ⟨a, rfl⟩ := h; rfl
  | os l es off n => simp only [Rep] at h; rcases h with ⟨_, _, a, rfl⟩ | ⟨i, cap, _, rfl, _⟩ <;> rfl
  | oc l es off n c => simp only [Rep] at h; obtain ⟨i, _, rfl, _⟩ := h; rfl
  | fn f cs => simp only [Rep] at h; obtain ⟨vs, rfl, _⟩ := h; rfl
  | ifc t y => simp only [Rep] at h; obtain ⟨u, rfl, _⟩ := h; rfl
def AV.cells : AV → Option (List AV)
  | .agg cs => some cs
  | x => if x.one then some [x] else none
theorem cells_one {v : Value} (h : v.oneCell' = true) : v.cells = #[v] := by
  cases v <;> first | rfl | simp [Value.oneCell'] at h
theorem Rep.cells {M : Imm} {ψ : Psi} {x : AV} {v : Value} {cs : List AV} (h : Rep M ψ x v) (hx : x.cells = some cs) : RepL M ψ cs v.cells.toList ∧ ∀ u ∈ v.cells.toList, u.oneCell' = true := by
  by_cases hagg : ∃ ds, x = .agg ds
  · obtain ⟨ds, rfl⟩ := hagg
    simp only [AV.cells] at hx
    cases hx
    simp only [Rep] at h
    obtain ⟨vs, rfl, h2, h3⟩ := h
    exact ⟨h2, h3⟩
  · have : x.one = true ∧ cs = [x] := by
      cases x <;> simp only [AV.cells] at hx <;> first
        | (split at hx <;> first | (cases hx; exact ⟨by assumption, rfl⟩) | cases hx)
        | (exact absurd ⟨_, rfl⟩ hagg)
    obtain ⟨h1, rfl⟩ := this
    have hv := h.one h1
    rw [cells_one hv]
    refine ⟨by simp only [RepL]; exact ⟨v, [], rfl, h, rfl⟩, ?_⟩
    intro u hu
    simp at hu
    subst hu
    exact hv
def fillA (place : Nat → Option (Nat × Nat)) (cells : List AV) : List (Nat × AV) → Option (List AV)
  | [] => some cells
  | (i, x) :: rest =>
    match place i, x.cells with
    | some (off, size), some xs => if xs.length = size ∧ off + size ≤ cells.length then fillA place (cells.take off ++ xs ++ cells.drop (off + size)) rest else none
    | _, _ => none
theorem foldl_set (off : Nat) : ∀ (vs : List Value) (k : Nat) (cells : Array Value), off + k + vs.length ≤ cells.size →
    ((vs.zipIdx k).foldl (fun cs (x : Value × Nat) => cs.setIfInBounds (off + x.2) x.1) cells).toList = cells.toList.take (off + k) ++ vs ++ cells.toList.drop (off + k + vs.length) := by
  intro vs
  induction vs with
  | nil => intro k cells _; simp
  | cons v vs ih =>
    intro k cells h
    simp only [List.zipIdx_cons, List.foldl_cons]
    rw [ih (k + 1) _ (by simp at h ⊢; omega)]
    have e := list_seg_step cells.toList (off + k) v vs (by simp at h ⊢; omega)
    simpa [Array.toList_setIfInBounds, Nat.add_assoc] using e
theorem fill_ok {M : Imm} {ψ : Psi} {place place' : Nat → Option (Nat × Nat)} (hpp : ∀ i r, place i = some r → place' i = some r) : ∀ (parts : List (Nat × AV)) (vparts : List (Nat × Value)) (cells : List AV) (vcells : Array Value) (out : List AV),
    fillA place cells parts = some out → RepL M ψ cells vcells.toList → (∀ u ∈ vcells.toList, u.oneCell' = true) → parts.length = vparts.length →
    (∀ (j : Nat) (e : Nat × AV), parts[j]? = some e → ∃ v : Value, vparts[j]? = some (e.1, v) ∧ Rep M ψ e.2 v) →
    ∃ vout, Instr.fill place' vcells vparts = some vout ∧ RepL M ψ out vout.toList ∧ ∀ u ∈ vout.toList, u.oneCell' = true := by
  intro parts
  induction parts with
  | nil =>
    intro vparts cells vcells out h hr h1 hl _
    simp only [fillA] at h
    cases h
    have : vparts = [] := List.eq_nil_of_length_eq_zero (by simpa using hl.symm)
    subst this
    exact ⟨vcells, rfl, hr, h1⟩
  | cons e rest ih =>
    intro vparts cells vcells out h hr h1 hl hp
    obtain ⟨i, x⟩ := e
    cases vparts with
    | nil => simp at hl
    | cons ve vrest =>
      obtain ⟨v, hv, hxv⟩ := hp 0 (i, x) rfl
      simp at hv
      subst hv
      simp only [fillA] at h
      split at h
      · rename_i off size xs hpl hxs
        split at h
        · rename_i hc
          obtain ⟨c1, c2⟩ := hc
          obtain ⟨r1, r2⟩ := hxv.cells hxs
          have hlen : v.cells.size = size := by rw [← c1, ← r1.length]; simp
          have hvl : vcells.size = cells.length := by rw [← hr.length]; simp
          have hfold := foldl_set off v.cells.toList 0 vcells (by simp; omega)
          have hz : (v.cells.zipIdx.foldl (fun cs (x : Value × Nat) => cs.setIfInBounds (off + x.2) x.1) vcells).toList = vcells.toList.take off ++ v.cells.toList ++ vcells.toList.drop (off + size) := by
            rw [← Array.foldl_toList, Array.toList_zipIdx]
            simpa [hlen] using hfold
          obtain ⟨vout, e1, e2, e3⟩ := ih vrest _ (v.cells.zipIdx.foldl (fun cs (x : Value × Nat) => cs.setIfInBounds (off + x.2) x.1) vcells) out h
            (by rw [hz]; exact ((hr.take off).append r1).append (hr.drop _))
            (by
              rw [hz]; intro u hu
              simp only [List.mem_append] at hu
              rcases hu with (hu | hu) | hu
              · exact h1 u (List.mem_of_mem_take hu)
              · exact r2 u hu
              · exact h1 u (List.mem_of_mem_drop hu))
            (by simpa using hl)
            (fun j e hj => by obtain ⟨v', h3, h4⟩ := hp (j + 1) e (by simpa using hj); exact ⟨v', by simpa using h3, h4⟩)
          refine ⟨vout, ?_, e2, e3⟩
          simp only [Instr.fill, hpp _ _ hpl]
          rw [if_neg (by simp [hlen]; omega)]
          exact e1
        · cases h
      · cases h
def TD.known (d : TD) : Bool := match d.k with
  | .other => false
  | _ => true
def pickAV (t : Bool) (a b : AV) : AV := if t then a else b
def evLoad (g : Store) (x : AV) (n : Nat) : Option (Prop × List AV) :=
  match x with
  | .p l off => match g l with
    | some cs => some (off + n ≤ cs.length, (cs.drop off).take n)
    | none => none
  | .vp cs => some (n ≤ cs.length, cs.take n)
  | _ => none
def AV.int (x : AV) : Option Int := match x with
  | .v (.int _ n) => some n
  | _ => none
def evBounds (lo hi : Option AV) (len : Nat) : Option (Int × Int) :=
  match lo, hi with
  | none, none => some (0, (len : Int))
  | some l, none => l.int.map fun a => (a, (len : Int))
  | none, some h => h.int.map fun b => (0, b)
  | some l, some h => match l.int, h.int with
    | some a, some b => some (a, b)
    | _, _ => none
def evSlice (D : Types) (t : TypeId) (x : AV) (lo hi : Option AV) : Option (Prop × AV) :=
  match x with
  | .v (.string s) => match D t, evBounds lo hi s.size with
    | some ⟨.str, _, _, _⟩, some (l, h) => some (0 ≤ l ∧ l ≤ h ∧ h ≤ (s.size : Int), .v (.string (s.extract l.toNat h.toNat)))
    | _, _ => none
  | .sl n cs => match D t, evBounds lo hi n with
    | some ⟨.slice e, _, _, _⟩, some (l, h) => match D e with
      | some d => some (0 ≤ l ∧ l ≤ h ∧ h ≤ (n : Int), .sl (h - l).toNat ((cs.drop (l.toNat * d.size)).take ((h - l).toNat * d.size)))
      | none => none
    | _, _ => none
  | .sl0 => match D t, evBounds lo hi 0 with
    | some ⟨.slice e, _, _, _⟩, some (l, h) => match D e with
      | some _ => some (0 ≤ l ∧ l ≤ h ∧ h ≤ (0 : Int), .sl0)
      | none => none
    | _, _ => none
  | .os loc es off n => match D t, lo, evBounds lo hi n with
    | some ⟨.slice e, _, _, _⟩, none, some (_, h) => match D e with
      | some _ => some (0 ≤ h ∧ h ≤ (n : Int), .os loc es off h.toNat)
      | none => none
    | some ⟨.slice e, _, _, _⟩, some _, some (l, h) => match D e with
      | some d => if d.size = es then some (0 ≤ l ∧ l < h ∧ h ≤ (n : Int), .os loc es (off + l.toNat * es) (h - l).toNat) else none
      | none => none
    | _, _, _ => none
  | .oc loc es off n c => match D t, lo, evBounds lo hi n with
    | some ⟨.slice e, _, _, _⟩, none, some (_, h) => match D e with
      | some _ => some (0 ≤ h ∧ h ≤ (c : Int), .oc loc es off h.toNat c)
      | none => none
    | some ⟨.slice e, _, _, _⟩, some _, some (l, h) => match D e with
      | some d => if d.size = es then some (0 ≤ l ∧ l ≤ h ∧ h ≤ (c : Int), if l < (c : Int) then .oc loc es (off + l.toNat * es) (h - l).toNat (c - l.toNat) else .sl 0 []) else none
      | none => none
    | _, _, _ => none
  | _ => none
def evUn (op : UnOp) (x : AV) : Option (Prop × AV) :=
  match op, x with
  | .not, .v (.bool b) => some (True, .v (.bool (!b)))
  | .neg, .v (.int k n) => some (True, .v (.int k (k.wrap (0 - n))))
  | _, _ => none
def evConv (D : Types) (src dst : TypeId) (x : AV) : Option (Prop × AV) :=
  match x, D src, D dst with
  | .v (.int _ n), some ⟨.int _, _, _, _⟩, some ⟨.int k, _, _, _⟩ => some (True, .v (.int k (k.wrap n)))
  | .v (.string s), some ⟨.str, _, _, _⟩, some ⟨.str, _, _, _⟩ => some (True, .v (.string s))
  | _, _, _ => none
def evP (D : Types) (S : Slots) (g : Store) : Op → Option (Prop × AV)
  | .move x => some (True, evA S x)
  | .assign x => some (True, evA S x)
  | .pick c a b => match evA S c with
    | .v (.bool t) => some (True, pickAV t (evA S a) (evA S b))
    | _ => none
  | .nilCheck x => match evA S x with
    | .p l off => some (True, .p l off)
    | .vp cs => some (True, .vp cs)
    | .fn f cs => some (True, .fn f cs)
    | _ => none
  | .binOp op t x y _ => evBin D op t (evA S x) (evA S y)
  | .unOp op _ x => evUn op (evA S x)
  | .convert src dst x => evConv D src dst (evA S x)
  | .makeInterface t x => match D t with
    | some ⟨.other, _, _, _⟩ => none
    | some _ => some (True, .ifc t (evA S x))
    | none => none
  | .makeFunc (.func f) fs cs => if fs.size = 0 then some (True, .fn f (cs.toList.map (evA S))) else none
  | .extract t ix => match evA S t with
    | .tup vs => match vs[ix]? with
      | some v => some (True, v)
      | none => none
    | _ => none
  | .load t x => match D t with
    | some d => if d.known then (if d.agg then (evLoad g (evA S x) d.size).map fun r => (r.1, .agg r.2) else (evLoad g (evA S x) 1).map fun r => (r.1, r.2.headD .dead)) else none
    | none => none
  | .fieldAddr s x f => match D s with
    | some ⟨.struct fs _, _, _, _⟩ => match fs[f]? with
      | some (o, t) => match D t with
        | some d => if d.size = 0 then none else match evA S x with
          | .p l off => some (True, .p l (off + o))
          | .vp cs => some (True, .vp (cs.drop o))
          | _ => none
        | none => none
      | none => none
    | _ => none
  | .field s x f => match D s with
    | some ⟨.struct fs _, _, _, _⟩ => match fs[f]?, evA S x with
      | some (o, t), .agg cs => match D t with
        | some d => if d.known then (if d.agg then some (True, .agg ((cs.drop o).take d.size)) else some (o < cs.length, (cs.drop o).headD .dead)) else none
        | none => none
      | _, _ => none
    | _ => none
  | .indexAddr t x ix => match D t with
    | some ⟨.slice e, _, _, _⟩ => match D e, evA S ix with
      | some d, .v (.int _ j) => match evA S x with
        | .sl n cs => some (0 ≤ j ∧ j < (n : Int) ∧ j.toNat * d.size < cs.length, .vp (cs.drop (j.toNat * d.size)))
        | .os l es off n => if d.size = es then some (0 ≤ j ∧ j < (n : Int), .p l (off + j.toNat * es)) else none
        | _ => none
      | _, _ => none
    | some ⟨.arr n e, _, _, _⟩ => match D e, evA S ix with
      | some d, .v (.int _ j) => match evA S x with
        | .vp cs => some (0 ≤ j ∧ j < (n : Int), .vp (cs.drop (j.toNat * d.size)))
        | .p l off => some (0 ≤ j ∧ j < (n : Int), .p l (off + j.toNat * d.size))
        | _ => none
      | _, _ => none
    | _ => none
  | .index t x ix => match D t, evA S x, evA S ix with
    | some ⟨.str, _, _, _⟩, .v (.string s), .v (.int _ j) => some (0 ≤ j ∧ j < (s.size : Int), .v (.int .u8 (s.get! j.toNat).toNat))
    | _, _, _ => none
  | .slice t x lo hi none => evSlice D t (evA S x) (lo.map (evA S)) (hi.map (evA S))
  | .slice t x none (some hi) (some mx) => match D t, evA S hi, evA S mx with
    | some ⟨.slice e, _, _, _⟩, .v (.int _ 0), .v (.int _ 0) => match D e, evA S x with
      | some _, .sl _ _ => some (True, .sl0)
      | some _, .sl0 => some (True, .sl0)
      | some _, .os _ _ _ _ => some (True, .sl0)
      | _, _ => none
    | _, _, _ => none
  | .slice t x (some lo) (some hi) (some mx) => match D t, evA S lo, evA S hi, evA S mx with
    | some ⟨.slice e, _, _, _⟩, .v (.int _ l), .v (.int _ h), .v (.int _ m) => match D e, evA S x with
      | some _, .os _ _ _ n => some (0 ≤ l ∧ l ≤ h ∧ h ≤ m ∧ m ≤ (n : Int), .dead)
      | some _, .oc _ _ _ _ c => some (0 ≤ l ∧ l ≤ h ∧ h ≤ m ∧ m ≤ (c : Int), .dead)
      | _, _ => none
    | _, _, _, _ => none
  | .build t parts => match D t with
    | some ⟨.struct fs _, _, _, z⟩ =>
      (fillA (fun i => match fs[i]? with
        | some (o, ft) => (D ft).map fun d => (o, d.size)
        | none => none) (AV.ofVs z) (parts.toList.map fun e => (e.1, evA S e.2))).map fun cs => (True, .agg cs)
    | _ => none
  | .call ⟨.builtin .len, args, ts⟩ => match args.toList, ts.toList with
    | [x], [t] => match D t, evA S x with
      | some ⟨.str, _, _, _⟩, .v (.string s) => some (True, .v (.int .i64 s.size))
      | some ⟨.slice _, _, _, _⟩, .sl n _ => some (True, .v (.int .i64 n))
      | some ⟨.slice _, _, _, _⟩, .sl0 => some (True, .v (.int .i64 0))
      | some ⟨.slice _, _, _, _⟩, .os _ _ _ n => some (True, .v (.int .i64 n))
      | some ⟨.slice _, _, _, _⟩, .oc _ _ _ n _ => some (True, .v (.int .i64 n))
      | _, _ => none
    | _, _ => none
  | .call ⟨.builtin .cap, args, ts⟩ => match args.toList, ts.toList with
    | [x], [t] => match D t, evA S x with
      | some ⟨.slice _, _, _, _⟩, .oc _ _ _ _ c => some (True, .v (.int .i64 c))
      | _, _ => none
    | _, _ => none
  | _ => none
end
section
section
variable {P : Program} {D : Types} (hD : Types.ok P D) {M : Imm} {ψ : Psi} {g : Store} {w : World}
theorem Rep.at_le {l : Loc} {x : AV} {v : Value} (h : Rep M (ψ.at l) x v) : Rep M ψ x v := by
  cases l with
  | l k => exact h
  | h k => exact Rep.mono (Imm.le_refl M) _ (Psi.strip_le ψ) h
theorem RepL.at_le {l : Loc} {x : List AV} {v : List Value} (h : RepL M (ψ.at l) x v) : RepL M ψ x v := by
  cases l with
  | l k => exact h
  | h k => exact RepL.mono (Imm.le_refl M) _ (Psi.strip_le ψ) h
theorem RepL.of_strip {x : List AV} {v : List Value} (h : RepL M ψ.strip x v) : RepL M ψ x v := RepL.mono (Imm.le_refl M) _ (Psi.strip_le ψ) h
theorem mapM_get {α β : Type} (f : α → Option β) : ∀ (l : List α) (r : List β), l.mapM f = some r → ∀ (i : Nat) (x : α), l[i]? = some x → r[i]? = f x
  | [], r, h, i, x, hx => by simp at hx
  | y :: l, r, h, i, x, hx => by
    simp only [List.mapM_cons, Option.bind_eq_bind, Option.pure_def] at h
    cases hy : f y with
    | none => rw [hy] at h; simp at h
    | some b =>
      rw [hy] at h
      simp only [Option.bind_some] at h
      cases hl : l.mapM f with
      | none => rw [hl] at h; simp at h
      | some rs =>
        rw [hl] at h
        simp at h
        subst h
        cases i with
        | zero => simp at hx; subst hx; simp [hy]
        | succ i => simp at hx; simpa using mapM_get f l rs hl i x hx
theorem evLoad_ok (hr : SR M ψ g w) {x : AV} {n : Nat} {c : Prop} {cs : List AV} {v : Value} (h : evLoad g x n = some (c, cs)) (hc : c) (hx : Rep M ψ x v) :
    ∃ b o us, v = .pointer (some ⟨b, o, none⟩) ∧ us.length = n ∧ RepL M ψ cs us ∧ (∀ u ∈ us, u.oneCell' = true) ∧ ∀ (j : Nat) (u : Value), us[j]? = some u → w.cell? ((⟨b, o, none⟩ : Addr).add j) = some u := by
  unfold evLoad at h
  split at h
  · rename_i l off
    split at h
    · rename_i cs' hg
      cases h
      simp only [Rep] at hx
      obtain ⟨i, hi, rfl⟩ := hx
      obtain ⟨us, h1, h2, h3, h4⟩ := hr.load hg hi hc
      exact ⟨i.b, off, us, rfl, h1, h2.at_le, h3, fun j u hj => by rw [add_plain]; exact h4 j u hj⟩
    · cases h
  · rename_i cs'
    cases h
    simp only [Rep] at hx
    obtain ⟨b, o, vs, rfl, h1, h2⟩ := hx
    obtain ⟨e1, e2, e3, e4⟩ := hr.loadImm h1 h2 hc
    exact ⟨b, o, vs.take n, rfl, e1, e2.of_strip, e3, fun j u hj => by rw [add_plain]; exact e4 j u hj⟩
  · cases h
theorem run_isAgg {t : TypeId} {d : TD} (h : TDok P t d) (hk : d.known = true) (w : World) : (isAgg t).run P w = .ok d.agg w := by
  obtain ⟨_, h⟩ := h
  unfold TD.agg
  cases hdk : d.k <;> rw [hdk] at h <;> simp only [TKok] at h
  case other => simp [TD.known, hdk] at hk
  case struct fs eq => obtain ⟨fields, h, _⟩ := h; simp [isAgg, run_underlying h]
  case ptr => obtain ⟨e, h⟩ := h; simp [isAgg, run_underlying h]
  case func => obtain ⟨a, b, c, h⟩ := h; simp [isAgg, run_underlying h]
  all_goals simp [isAgg, run_underlying h]
theorem run_sizeOf {t : TypeId} {d : TD} (h : TDok P t d) (w : World) : (sizeOf t).run P w = .ok d.size w := by
  obtain ⟨⟨i, z, h1, h2, _⟩, _⟩ := h
  simp [sizeOf, typeInfo, h1, h2]
theorem run_zeroValue {t : TypeId} {d : TD} (h : TDok P t d) (w : World) : ∃ z, (zeroValue t).run P w = .ok z w ∧ z.cells.toList = d.zero := by
  obtain ⟨⟨i, z, h1, _, _, h4, h5, _⟩, _⟩ := h
  exact ⟨z, by simp [zeroValue, typeInfo, h1, h4], h5⟩
theorem RepL.headD {x : List AV} {v : List Value} (h : RepL M ψ x v) (hv : v.length = 1) : ∃ u, v = [u] ∧ Rep M ψ (x.headD .dead) u := by
  cases x with
  | nil => simp only [RepL] at h; subst h; simp at hv
  | cons c cs =>
    simp only [RepL] at h
    obtain ⟨u, us, rfl, h1, _⟩ := h
    have : us = [] := List.eq_nil_of_length_eq_zero (by simpa using hv)
    subst this
    exact ⟨u, rfl, h1⟩
theorem AV.int_rep {x : AV} {n : Int} {v : Value} (h : x.int = some n) (hx : Rep M ψ x v) : ∃ k, v = .int k n := by
  unfold AV.int at h
  split at h
  · cases h; simp only [Rep] at hx; exact ⟨_, hx⟩
  · cases h
theorem run_bounds {lo hi : Option AV} {vlo vhi : Option Value} {len cap : Nat} {l h : Int} (isSlice : Bool) (hb : evBounds lo hi len = some (l, h)) (h0 : 0 ≤ l) (h1 : l ≤ h) (h2 : h ≤ (cap : Int)) (hlc : len ≤ cap)
    (hl : ∀ x, lo = some x → ∃ v, vlo = some v ∧ Rep M ψ x v) (hln : lo = none → vlo = none) (hh : ∀ x, hi = some x → ∃ v, vhi = some v ∧ Rep M ψ x v) (hhn : hi = none → vhi = none) :
    (Instr.sliceBounds isSlice len cap vlo vhi none).run P w = .ok (l.toNat, h.toNat, cap) w := by
  have sb : ∀ (k : IntKind) (i : Int) (y : Nat) (code : BoundsCode), 0 ≤ i → i ≤ (y : Int) → (Instr.sliceBound (.int k i) y code).run P w = .ok i.toNat w := fun k i y code a b => run_sliceBound w k i y code a b
  unfold evBounds at hb
  split at hb
  · cases hb
    rw [hln rfl, hhn rfl]
    simp [Instr.sliceBounds]
  · rename_i x
    simp only [Option.map_eq_some_iff] at hb
    obtain ⟨a, ha, hb⟩ := hb
    cases hb
    obtain ⟨v, rfl, hv⟩ := hl x rfl
    obtain ⟨k, rfl⟩ := AV.int_rep ha hv
    rw [hhn rfl]
    simp [Instr.sliceBounds, sb k l len _ h0 h1]
  · rename_i x
    simp only [Option.map_eq_some_iff] at hb
    obtain ⟨a, ha, hb⟩ := hb
    cases hb
    obtain ⟨v, rfl, hv⟩ := hh x rfl
    obtain ⟨k, rfl⟩ := AV.int_rep ha hv
    rw [hln rfl]
    simp [Instr.sliceBounds, sb k h cap _ h1 (by omega)]
  · rename_i x y
    split at hb
    · rename_i a b ha hb'
      cases hb
      obtain ⟨v, rfl, hv⟩ := hl x rfl
      obtain ⟨k, rfl⟩ := AV.int_rep ha hv
      obtain ⟨v, rfl, hv⟩ := hh y rfl
      obtain ⟨k', rfl⟩ := AV.int_rep hb' hv
      have e1 := sb k' h cap (if isSlice then BoundsCode.sliceAcap else BoundsCode.sliceAlen) (by omega) (by omega)
      have e2 := sb k l h.toNat BoundsCode.sliceB h0 (by omega)
      simp [Instr.sliceBounds, e1, e2]
    · cases hb
include hD in
theorem evSlice_ok {t : TypeId} {x r : AV} {lo hi : Option AV} {c : Prop} {v : Value} {vlo vhi : Option Value} (h : evSlice D t x lo hi = some (c, r)) (hc : c) (hx : Rep M ψ x v)
    (hl : ∀ x, lo = some x → ∃ v, vlo = some v ∧ Rep M ψ x v) (hln : lo = none → vlo = none) (hh : ∀ x, hi = some x → ∃ v, vhi = some v ∧ Rep M ψ x v) (hhn : hi = none → vhi = none) :
    ∃ z, (Instr.sliceAt t v vlo vhi none).run P w = .ok z w ∧ Rep M ψ r z := by
  unfold evSlice at h
  split at h
  · rename_i s
    simp only [Rep] at hx
    subst hx
    split at h
    · rename_i l b hq hb
      cases h
      have hq' := (hD _ _ hq).2
      simp only [TKok] at hq'
      obtain ⟨c0, c1, c2⟩ := hc
      have e := run_bounds (P := P) (w := w) (cap := s.size) false hb c0 c1 c2 (Nat.le_refl _) hl hln hh hhn
      exact ⟨_, by simp [Instr.sliceAt, Instr.slice, run_underlying hq', e], rep_v _ _ _⟩
    · cases h
  · rename_i n cs
    simp only [Rep] at hx
    obtain ⟨a, cap, rfl, hn, hm, hcs⟩ := hx
    split at h
    · rename_i e _ _ _ l b hq hb
      have hq' := (hD _ _ hq).2
      simp only [TKok] at hq'
      split at h
      · rename_i d hd
        cases h
        obtain ⟨c0, c1, c2⟩ := hc
        have eb := run_bounds (P := P) (w := w) (cap := cap) true hb c0 c1 (by omega) hn hl hln hh hhn
        have es := run_sizeOf (hD _ _ hd) w
        refine ⟨_, by simp [Instr.sliceAt, Instr.slice, run_underlying hq', eb, es]; rfl, ?_⟩
        simp only [Rep]
        refine ⟨_, _, by rw [show b.toNat - l.toNat = (b - l).toNat from by omega], by omega, by omega, fun hne => ?_⟩
        have hne' : cs ≠ [] := by
          rintro rfl
          simp at hne
        obtain ⟨b', o, vs, rfl, h5, h6⟩ := hcs hne'
        have hlt : l < b := by
          rcases Int.lt_or_eq_of_le c1 with h' | h'
          · exact h'
          · subst h'; simp at hne
        rw [if_neg (by omega)]
        refine ⟨b', o + l.toNat * d.size, _, by simp [add_plain], (h5.drop (l.toNat * d.size)).take ((b - l).toNat * d.size), (h6.drop _).take _⟩
      · cases h
    · cases h
  · simp only [Rep] at hx
    obtain ⟨a, rfl⟩ := hx
    split at h
    · rename_i e _ _ _ l b hq hb
      have hq' := (hD _ _ hq).2
      simp only [TKok] at hq'
      split at h
      · rename_i d hd
        cases h
        obtain ⟨c0, c1, c2⟩ := hc
        have eb := run_bounds (P := P) (w := w) (cap := 0) true hb c0 c1 (by simpa using c2) (Nat.le_refl _) hl hln hh hhn
        have es := run_sizeOf (hD _ _ hd) w
        have l0 : l.toNat = 0 := by omega
        have b0 : b.toNat = 0 := by omega
        refine ⟨_, by simp [Instr.sliceAt, Instr.slice, run_underlying hq', eb, es]; rfl, ?_⟩
        simp only [Rep, l0, b0]
        exact ⟨_, rfl⟩
      · cases h
    · cases h
  · rename_i loc es off n
    split at h
    · rename_i e _ _ _ _ b hq hb
      have hq' := (hD _ _ hq).2
      simp only [TKok] at hq'
      split at h
      · rename_i d hd
        cases h
        obtain ⟨c0, c1⟩ := hc
        have hsz := run_sizeOf (hD _ _ hd) w
        have hb' : evBounds none hi n = some (0, b) := by
          unfold evBounds at hb ⊢
          split at hb <;> simp_all
        simp only [Rep] at hx
        rcases hx with ⟨rfl, rfl, a, rfl⟩ | ⟨i, cap, hi', rfl, hn, hm, ho⟩
        · have eb := run_bounds (P := P) (w := w) (cap := 0) true hb' (Int.le_refl 0) c0 c1 (Nat.le_refl _) hl hln hh hhn
          have b0 : b.toNat = 0 := by omega
          refine ⟨_, by simp [Instr.sliceAt, Instr.slice, run_underlying hq', eb, hsz]; rfl, ?_⟩
          rw [b0]; simp only [Rep]
          exact .inl ⟨by trivial, by trivial, _, rfl⟩
        · have eb := run_bounds (P := P) (w := w) (cap := cap) true hb' (Int.le_refl 0) c0 (by omega) hn hl hln hh hhn
          refine ⟨_, by simp [Instr.sliceAt, Instr.slice, run_underlying hq', eb, hsz]; rfl, ?_⟩
          simp only [Rep]
          refine .inr ⟨i, cap, hi', ?_, by omega, hm, ho⟩
          by_cases hcap : cap = 0
          · simp [hcap]
          · rw [if_neg hcap]; simp [Addr.add]
      · cases h
    · rename_i e _ _ _ _ l b hq hb
      have hq' := (hD _ _ hq).2
      simp only [TKok] at hq'
      split at h
      · rename_i d hd
        split at h
        · rename_i hes
          cases h
          obtain ⟨c0, c1, c2⟩ := hc
          have hsz := run_sizeOf (hD _ _ hd) w
          simp only [Rep] at hx
          rcases hx with ⟨rfl, rfl, a, rfl⟩ | ⟨i, cap, hi', rfl, hn, hm, ho⟩
          · exfalso; simp at c2; omega
          · have eb := run_bounds (P := P) (w := w) (cap := cap) true hb c0 (by omega) (by omega) hn hl hln hh hhn
            refine ⟨_, by simp [Instr.sliceAt, Instr.slice, run_underlying hq', eb, hsz]; rfl, ?_⟩
            simp only [Rep]
            refine .inr ⟨i, cap - l.toNat, hi', ?_, by omega, by omega, ?_⟩
            · rw [if_neg (by omega)]
              simp [add_plain, hes]
              omega
            · rw [Nat.sub_mul]
              have : l.toNat * es ≤ cap * es := Nat.mul_le_mul_right _ (by omega)
              omega
        · cases h
      · cases h
    · cases h
  · rename_i loc es off n cap
    simp only [Rep] at hx
    obtain ⟨i, hi', rfl, hn, hm, ho⟩ := hx
    split at h
    · rename_i e _ _ _ _ b hq hb
      have hq' := (hD _ _ hq).2
      simp only [TKok] at hq'
      split at h
      · rename_i d hd
        cases h
        obtain ⟨c0, c1⟩ := hc
        have hsz := run_sizeOf (hD _ _ hd) w
        have hb' : evBounds none hi n = some (0, b) := by
          unfold evBounds at hb ⊢
          split at hb <;> simp_all
        have eb := run_bounds (P := P) (w := w) (cap := cap) true hb' (Int.le_refl 0) c0 c1 hn hl hln hh hhn
        refine ⟨_, by simp [Instr.sliceAt, Instr.slice, run_underlying hq', eb, hsz]; rfl, ?_⟩
        simp only [Rep]
        refine ⟨i, hi', ?_, by omega, hm, ho⟩
        by_cases hcap : cap = 0
        · simp [hcap]
        · rw [if_neg hcap]; simp [Addr.add]
      · cases h
    · rename_i e _ _ _ _ l b hq hb
      have hq' := (hD _ _ hq).2
      simp only [TKok] at hq'
      split at h
      · rename_i d hd
        split at h
        · rename_i hes
          cases h
          obtain ⟨c0, c1, c2⟩ := hc
          have hsz := run_sizeOf (hD _ _ hd) w
          have eb := run_bounds (P := P) (w := w) (cap := cap) true hb c0 c1 c2 hn hl hln hh hhn
          refine ⟨_, by simp [Instr.sliceAt, Instr.slice, run_underlying hq', eb, hsz]; rfl, ?_⟩
          by_cases hlc : l < (cap : Int)
          · rw [if_pos hlc]
            simp only [Rep]
            refine ⟨i, hi', ?_, by omega, by omega, ?_⟩
            · rw [if_neg (by omega)]
              simp [add_plain, hes]
              omega
            · rw [Nat.sub_mul]
              have : l.toNat * es ≤ cap * es := Nat.mul_le_mul_right _ (by omega)
              omega
          · rw [if_neg hlc]
            simp only [Rep]
            exact ⟨_, _, by rw [show b.toNat - l.toNat = 0 from by omega], Nat.zero_le _, by omega, fun hne => absurd rfl hne⟩
        · cases h
      · cases h
    · cases h
  · cases h
include hD in
theorem evP_ok {S : Slots} {a : Act} (hs : SlotsR M ψ S a.tmps) (hr : SR M ψ g w) (o : Oper) {c : Prop} {r : AV} (h : evP D S g o.op = some (c, r)) (hc : c) :
    ∃ z, (execOp a.eval o).run P w = .ok (.value z) w ∧ Rep M ψ r z := by
  have A := fun x => Rep.evA hs x
  obtain ⟨dst, op, ty, pos, after, guard⟩ := o
  simp only at h
  cases op <;> simp only [evP] at h
  case move x => cases h; exact ⟨_, by simp [execOp], A x⟩
  case assign x => cases h; exact ⟨_, by simp [execOp], A x⟩
  case pick ct x y =>
    have hct := A ct
    split at h
    · rename_i t ht
      cases h
      rw [ht] at hct
      simp only [Rep] at hct
      refine ⟨if t then a.eval x else a.eval y, by simp only [execOp, hct, asBool]; cases t <;> simp, ?_⟩
      cases t
      · exact A y
      · exact A x
    · cases h
  case nilCheck x =>
    have hx := A x
    split at h
    · rename_i l off ht
      cases h
      rw [ht] at hx
      have hx' := hx
      simp only [Rep] at hx
      obtain ⟨i, _, hv⟩ := hx
      rw [hv] at hx'
      exact ⟨_, by simp [execOp, hv], hx'⟩
    · rename_i cs ht
      cases h
      rw [ht] at hx
      have hx' := hx
      simp only [Rep] at hx
      obtain ⟨b, o, vs, hv, _⟩ := hx
      rw [hv] at hx'
      exact ⟨_, by simp [execOp, hv], hx'⟩
    · rename_i f cs ht
      cases h
      rw [ht] at hx
      have hx' := hx
      simp only [Rep] at hx
      obtain ⟨vs, hv, _⟩ := hx
      rw [hv] at hx'
      exact ⟨_, by simp [execOp, hv], hx'⟩
    · cases h
  case binOp op t x y yt =>
    obtain ⟨z, h1, h2⟩ := evBin_ok P D hD w M ψ x y h hc (A x) (A y)
    refine ⟨z, ?_, h2⟩
    simp only [execOp, Sem.run_bind] at h1 ⊢
    simp only [h1, Result.andThen_ok, Sem.run_pure]
  case unOp op t x =>
    have hx := A x
    unfold evUn at h
    split at h
    · rename_i b hb
      cases h
      rw [hb] at hx
      simp only [Rep] at hx
      exact ⟨_, by simp [execOp, hx, Op.unary], rep_v _ _ _⟩
    · rename_i k n hb
      cases h
      rw [hb] at hx
      simp only [Rep] at hx
      exact ⟨_, by simp [execOp, hx, Op.unary, Op.intArith], rep_v _ _ _⟩
    · cases h
  case convert src dst x =>
    have hx := A x
    unfold evConv at h
    split at h
    · rename_i k n _ _ _ _ k' _ _ _ hb hs' hd'
      cases h
      rw [hb] at hx
      simp only [Rep] at hx
      have hq := (hD _ _ hd').2
      simp only [TKok] at hq
      have hq2 := (hD _ _ hs').2
      simp only [TKok] at hq2
      have hsrc : (P.underlying src).isSome = true := by simp [hq2]
      have hk : P.underlying dst = some (.int (P.intKind dst)) := by simp [Program.intKind, hq]
      exact ⟨_, by simp [execOp, hx, run_convert_int w src dst k n hsrc hk]; rfl, by simp only [Program.intKind, hq]; exact rep_v _ _ _⟩
    · rename_i s _ _ _ _ _ _ hb hs' hd'
      cases h
      rw [hb] at hx
      simp only [Rep] at hx
      have hq := (hD _ _ hd').2
      have hq2 := (hD _ _ hs').2
      simp only [TKok] at hq hq2
      exact ⟨_, by simp [execOp, hx, convert, run_underlying hq, run_underlying hq2], rep_v _ _ _⟩
    · cases h
  case makeInterface t x =>
    split at h
    · cases h
    · rename_i d hne hd
      cases h
      have hq := (hD _ _ hd).2
      have hconc : P.concrete t = true := by
        unfold Program.concrete
        cases hk : d.k <;> rw [hk] at hq <;> simp only [TKok] at hq
        case other =>
          exfalso
          obtain ⟨k, s1, s2, s3⟩ := d
          simp at hk
          subst hk
          exact hne _ _ _ rfl
        case struct fs eq => obtain ⟨_, hq, _⟩ := hq; simp [hq]
        case ptr => obtain ⟨_, hq⟩ := hq; simp [hq]
        case func => obtain ⟨_, _, _, hq⟩ := hq; simp [hq]
        all_goals simp [hq]
      refine ⟨_, by simp [execOp, run_makeInterface w t _ hconc]; rfl, ?_⟩
      simp only [Rep]
      exact ⟨_, rfl, A x⟩
    · cases h
  case makeFunc fn fs cs =>
    cases fn <;> simp only [evP] at h <;> try (cases h; done)
    rename_i f
    split at h
    · rename_i hfs
      cases h
      refine ⟨_, by simp [execOp, Instr.makeFunc]; rfl, ?_⟩
      simp only [Rep]
      have e : cs.map a.eval = (cs.toList.map a.eval).toArray := by apply Array.ext'; simp
      refine ⟨cs.toList.map a.eval, by rw [Array.eq_empty_of_size_eq_zero hfs, e]; simp, ?_⟩
      refine RepL.of_get (by simp) fun i c hc => ?_
      simp only [List.getElem?_map, Option.map_eq_some_iff] at hc
      obtain ⟨x, hx, rfl⟩ := hc
      exact ⟨a.eval x, by rw [List.getElem?_map, hx]; rfl, A x⟩
    · cases h
  case extract t ix =>
    have ht := A t
    split at h
    · rename_i vs hvs
      rw [hvs] at ht
      simp only [Rep] at ht
      obtain ⟨us, hu, hrep⟩ := ht
      split at h
      · rename_i v hv
        cases h
        obtain ⟨u, h1, h2⟩ := hrep.get hv
        have h1' : us.toArray[ix]? = some u := by simpa using h1
        exact ⟨u, by simp [execOp, hu, Instr.extract, h1'], h2⟩
      · cases h
    · cases h
  case load t x =>
    have hx := A x
    split at h
    · rename_i d hd
      split at h
      · rename_i hk
        have hag := run_isAgg (hD _ _ hd) hk
        have hsz := run_sizeOf (hD _ _ hd)
        split at h
        · rename_i hagg
          simp only [Option.map_eq_some_iff] at h
          obtain ⟨⟨c', cs⟩, h1, h2⟩ := h
          cases h2
          obtain ⟨b, o, us, hv, hl, hrep, h1c, hcell⟩ := evLoad_ok hr h1 hc hx
          have e := run_loadCells_list (P := P) w ⟨b, o, none⟩ us hcell
          rw [hl] at e
          refine ⟨.agg us.toArray, by simp [execOp, hv, Instr.loadAt, Instr.sureAddr, loadVar, hag, hagg, hsz, e], ?_⟩
          simp only [Rep]
          exact ⟨us, rfl, hrep, h1c⟩
        · rename_i hagg
          simp only [Option.map_eq_some_iff] at h
          obtain ⟨⟨c', cs⟩, h1, h2⟩ := h
          cases h2
          obtain ⟨b, o, us, hv, hl, hrep, h1c, hcell⟩ := evLoad_ok hr h1 hc hx
          obtain ⟨u, rfl, hu⟩ := hrep.headD hl
          have e := hcell 0 u rfl
          simp [add_plain] at e
          have hagg' : d.agg = false := by simpa using hagg
          exact ⟨u, by simp [execOp, hv, Instr.loadAt, Instr.sureAddr, loadVar, hag, hagg', e], hu⟩
      · cases h
    · cases h
  case fieldAddr s x f =>
    have hx := A x
    split at h
    · rename_i fs _ _ _ _ hd
      have hq := (hD _ _ hd).2
      simp only [TKok] at hq
      obtain ⟨fields, hu, hfs, _⟩ := hq
      split at h
      · rename_i o t hf
        split at h
        · rename_i d hdt
          have hsz := run_sizeOf (hD _ _ hdt)
          split at h
          · cases h
          · rename_i hz
            rw [← hfs] at hf
            simp only [List.getElem?_map, Option.map_eq_some_iff] at hf
            obtain ⟨fld, hfld, hff⟩ := hf
            have hfld' : fields[f]? = some fld := by simpa using hfld
            have ho : fld.offset = o := congrArg Prod.fst hff
            have ht : fld.type = t := congrArg Prod.snd hff
            split at h
            · rename_i l off hp
              cases h
              rw [hp] at hx
              simp only [Rep] at hx
              obtain ⟨i, hi, hv⟩ := hx
              refine ⟨_, by simp [execOp, hv, Instr.fieldAt, run_underlying hu, hfld', Instr.sureAddr, fieldPlace, ht, hsz, hz, add_plain, ho]; rfl, ?_⟩
              simp only [Rep]
              exact ⟨i, hi, rfl⟩
            · rename_i cs hp
              cases h
              rw [hp] at hx
              simp only [Rep] at hx
              obtain ⟨b, o', vs, hv, h5, h6⟩ := hx
              refine ⟨_, by simp [execOp, hv, Instr.fieldAt, run_underlying hu, hfld', Instr.sureAddr, fieldPlace, ht, hsz, hz, add_plain, ho]; rfl, ?_⟩
              simp only [Rep]
              exact ⟨b, o' + o, vs.drop o, rfl, h5.drop o, h6.drop o⟩
            · cases h
        · cases h
      · cases h
    · cases h
  case field s x f =>
    have hx := A x
    split at h
    · rename_i fs _ _ _ _ hd
      have hq := (hD _ _ hd).2
      simp only [TKok] at hq
      obtain ⟨fields, hu, hfs, _⟩ := hq
      split at h
      · rename_i o t cs hf hcs
        rw [hcs] at hx
        simp only [Rep] at hx
        obtain ⟨vs, hv, hrep, h1c⟩ := hx
        rw [← hfs] at hf
        simp only [List.getElem?_map, Option.map_eq_some_iff] at hf
        obtain ⟨fld, hfld, hff⟩ := hf
        have hfld' : fields[f]? = some fld := by simpa using hfld
        have ho : fld.offset = o := congrArg Prod.fst hff
        have ht : fld.type = t := congrArg Prod.snd hff
        split at h
        · rename_i d hdt
          have hsz := run_sizeOf (hD _ _ hdt)
          split at h
          · rename_i hk
            have hag := run_isAgg (hD _ _ hdt) hk
            split at h
            · rename_i hagg
              cases h
              refine ⟨.agg (vs.toArray.extract o (o + d.size)), by simp [execOp, hv, Instr.field, run_underlying hu, hfld', part, ht, ho, hag, hagg, asAgg, hsz], ?_⟩
              simp only [Rep]
              refine ⟨(vs.drop o).take d.size, ?_, (hrep.drop o).take _, fun u hu' => h1c u (List.mem_of_mem_drop (List.mem_of_mem_take hu'))⟩
              congr 1
              apply Array.ext'
              simp [List.extract_eq_take_drop]
            · rename_i hagg
              cases h
              have hagg' : d.agg = false := by simpa using hagg
              have hl := hrep.length
              have hc' : cs[o]? = some ((cs.drop o).headD .dead) := by
                rw [List.headD_eq_head?_getD, List.head?_drop, List.getElem?_eq_getElem hc]; rfl
              obtain ⟨u, h1, h2⟩ := hrep.get hc'
              exact ⟨u, by simp [execOp, hv, Instr.field, run_underlying hu, hfld', part, ht, ho, hag, hagg', asAgg, h1], h2⟩
          · cases h
        · cases h
      · cases h
    · cases h
  case indexAddr t x ix =>
    have hx := A x
    have hix := A ix
    split at h
    · rename_i e _ _ _ hd
      have hq := (hD _ _ hd).2
      simp only [TKok] at hq
      split at h
      · rename_i d k j hde hj
        have hsz := run_sizeOf (hD _ _ hde)
        rw [hj] at hix
        simp only [Rep] at hix
        split at h
        · rename_i n cs hcs
          cases h
          rw [hcs] at hx
          simp only [Rep] at hx
          obtain ⟨a', cap, hv, hn, hm, hcells⟩ := hx
          obtain ⟨c0, c1, c2⟩ := hc
          obtain ⟨b, o, vs, rfl, h5, h6⟩ := hcells (by rintro rfl; simp at c2)
          refine ⟨_, by simp [execOp, hv, hix, Instr.indexAt, asIntOf, run_underlying hq, c0, c1, hsz, add_plain]; rfl, ?_⟩
          simp only [Rep]
          exact ⟨b, _, _, rfl, h5.drop _, h6.drop _⟩
        · rename_i l es off n hcs
          split at h
          · rename_i hes
            cases h
            rw [hcs] at hx
            simp only [Rep] at hx
            obtain ⟨c0, c1⟩ := hc
            rcases hx with ⟨_, rfl, _⟩ | ⟨i, cap, hi, hv, hn, hm, ho⟩
            · simp at c1; omega
            · refine ⟨_, by simp [execOp, hv, hix, Instr.indexAt, asIntOf, run_underlying hq, c0, c1, hsz, add_plain, hes]; rfl, ?_⟩
              simp only [Rep]
              exact ⟨i, hi, rfl⟩
          · cases h
        · cases h
      · cases h
    · rename_i n e _ _ _ hd
      have hq := (hD _ _ hd).2
      simp only [TKok] at hq
      split at h
      · rename_i d k j hde hj
        have hsz := run_sizeOf (hD _ _ hde)
        rw [hj] at hix
        simp only [Rep] at hix
        split at h
        · rename_i cs hcs
          cases h
          rw [hcs] at hx
          simp only [Rep] at hx
          obtain ⟨b, o, vs, hv, h5, h6⟩ := hx
          obtain ⟨c0, c1⟩ := hc
          refine ⟨_, by simp [execOp, hv, hix, Instr.indexAt, Instr.sureAddr, asIntOf, run_underlying hq, c0, c1, hsz, add_plain]; rfl, ?_⟩
          simp only [Rep]
          exact ⟨b, _, _, rfl, h5.drop _, h6.drop _⟩
        · rename_i l off hcs
          cases h
          rw [hcs] at hx
          simp only [Rep] at hx
          obtain ⟨i, hi, hv⟩ := hx
          obtain ⟨c0, c1⟩ := hc
          refine ⟨_, by simp [execOp, hv, hix, Instr.indexAt, Instr.sureAddr, asIntOf, run_underlying hq, c0, c1, hsz, add_plain]; rfl, ?_⟩
          simp only [Rep]
          exact ⟨i, hi, rfl⟩
        · cases h
      · cases h
    · cases h
  case index t x ix =>
    have hx := A x
    have hix := A ix
    split at h
    · rename_i s _ j hd hs' hj
      cases h
      have hq := (hD _ _ hd).2
      simp only [TKok] at hq
      rw [hs'] at hx
      rw [hj] at hix
      simp only [Rep] at hx hix
      obtain ⟨c0, c1⟩ := hc
      have hlt : j.toNat < s.size := by omega
      have hget : s[j.toNat]? = some (s.get! j.toNat) := by
        rw [getElem?_pos s j.toNat hlt]
        simp [ByteArray.get!, hlt, getElem!_pos, ByteArray.getElem_eq_getElem_data]
      exact ⟨_, by simp [execOp, hx, hix, Instr.index, asIntOf, run_underlying hq, c0, hget], rep_v _ _ _⟩
    · cases h
  case call c' =>
    obtain ⟨callee, args, ts⟩ := c'
    cases callee <;> (try simp only [evP] at h) <;> try (cases h; done)
    rename_i bi
    cases bi <;> (try simp only [evP] at h) <;> try (cases h; done)
    case cap =>
      split at h
      · rename_i x t hx' ht'
        have ha : args = #[x] := by apply Array.ext'; simpa using hx'
        have ht : ts = #[t] := by apply Array.ext'; simpa using ht'
        subst ha; subst ht
        have hx := A x
        split at h
        · rename_i l es off n c' hd hs'
          cases h
          have hq := (hD _ _ hd).2
          simp only [TKok] at hq
          rw [hs'] at hx
          simp only [Rep] at hx
          obtain ⟨i, _, hv, _⟩ := hx
          exact ⟨_, by simp [execOp, resolve, invoke, builtin, Builtin.cap_, run_underlying hq, hv, goInt], rep_v _ _ _⟩
        · cases h
      · cases h
    case len =>
      split at h
      · rename_i x t hx' ht'
        have ha : args = #[x] := by apply Array.ext'; simpa using hx'
        have ht : ts = #[t] := by apply Array.ext'; simpa using ht'
        subst ha; subst ht
        have hx := A x
        split at h
        · rename_i s hd hs'
          cases h
          have hq := (hD _ _ hd).2
          simp only [TKok] at hq
          rw [hs'] at hx
          simp only [Rep] at hx
          exact ⟨_, by simp [execOp, resolve, invoke, builtin, Builtin.len_, run_underlying hq, hx, goInt], rep_v _ _ _⟩
        · rename_i n cs hd hs'
          cases h
          have hq := (hD _ _ hd).2
          simp only [TKok] at hq
          rw [hs'] at hx
          simp only [Rep] at hx
          obtain ⟨a', cap, hv, _⟩ := hx
          exact ⟨_, by simp [execOp, resolve, invoke, builtin, Builtin.len_, run_underlying hq, hv, goInt], rep_v _ _ _⟩
        · rename_i hd hs'
          cases h
          have hq := (hD _ _ hd).2
          simp only [TKok] at hq
          rw [hs'] at hx
          simp only [Rep] at hx
          obtain ⟨a', hv⟩ := hx
          exact ⟨_, by simp [execOp, resolve, invoke, builtin, Builtin.len_, run_underlying hq, hv, goInt], rep_v _ _ _⟩
        · rename_i l es off n hd hs'
          cases h
          have hq := (hD _ _ hd).2
          simp only [TKok] at hq
          rw [hs'] at hx
          simp only [Rep] at hx
          rcases hx with ⟨_, rfl, a', hv⟩ | ⟨i, cap, _, hv, _⟩
          · exact ⟨_, by simp [execOp, resolve, invoke, builtin, Builtin.len_, run_underlying hq, hv, goInt], rep_v _ _ _⟩
          · exact ⟨_, by simp [execOp, resolve, invoke, builtin, Builtin.len_, run_underlying hq, hv, goInt], rep_v _ _ _⟩
        · rename_i l es off n c' hd hs'
          cases h
          have hq := (hD _ _ hd).2
          simp only [TKok] at hq
          rw [hs'] at hx
          simp only [Rep] at hx
          obtain ⟨i, _, hv, _⟩ := hx
          exact ⟨_, by simp [execOp, resolve, invoke, builtin, Builtin.len_, run_underlying hq, hv, goInt], rep_v _ _ _⟩
        · cases h
      · cases h
  case slice t x lo hi mx =>
    have hx := A x
    cases mx with
    | none =>
      simp only [evP] at h
      obtain ⟨z, h1, h2⟩ := evSlice_ok (P := P) (w := w) hD h hc hx (vlo := lo.map a.eval) (vhi := hi.map a.eval)
        (by intro y hy; cases lo with
          | none => cases hy
          | some l => simp at hy; subst hy; exact ⟨_, rfl, A l⟩)
        (by intro hn; cases lo with
          | none => rfl
          | some l => cases hn)
        (by intro y hy; cases hi with
          | none => cases hy
          | some l => simp at hy; subst hy; exact ⟨_, rfl, A l⟩)
        (by intro hn; cases hi with
          | none => rfl
          | some l => cases hn)
      exact ⟨z, by simp [execOp, h1], h2⟩
    | some m =>
      cases hi with
      | none => cases lo <;> simp [evP] at h
      | some hi =>
      have hhi := A hi
      have hm := A m
      cases lo with
      | some lo =>
        have hlo := A lo
        simp only [evP] at h
        split at h
        · rename_i e _ _ _ k l k' h' k'' m' hd h0 h0' h0''
          have hq := (hD _ _ hd).2
          simp only [TKok] at hq
          rw [h0] at hlo
          rw [h0'] at hhi
          rw [h0''] at hm
          simp only [Rep] at hlo hhi hm
          have key : ∀ (a' : Option Addr) (n' cap : Nat), 0 ≤ l → l ≤ h' → h' ≤ m' → m' ≤ (cap : Int) → ∀ d, D e = some d → ∃ z, (execOp a.eval { dst := dst, op := .slice t x (some lo) (some hi) (some m), type := ty, pos := pos, after := after, guard := guard }).run P w = .ok (.value z) w ∨ a.eval x ≠ .slice a' n' cap := by
            intro a' n' cap c0 c1 c2 c3 d hde
            by_cases hv : a.eval x = .slice a' n' cap
            · have hsz := run_sizeOf (hD _ _ hde)
              have e1 := run_sliceBound (P := P) w k'' m' cap .slice3Acap (by omega) (by omega)
              have e2 := run_sliceBound (P := P) w k' h' m'.toNat .slice3B (by omega) (by omega)
              have e3 := run_sliceBound (P := P) w k l h'.toNat .slice3C (by omega) (by omega)
              exact ⟨_, .inl (by simp [execOp, hv, hlo, hhi, hm, Instr.sliceAt, Instr.slice, run_underlying hq, Instr.sliceBounds, e1, e2, e3, hsz]; rfl)⟩
            · exact ⟨undef, .inr hv⟩
          split at h
          · rename_i d l0 es off n hde hcs
            cases h
            obtain ⟨c0, c1, c2, c3⟩ := hc
            rw [hcs] at hx
            simp only [Rep] at hx
            rcases hx with ⟨_, rfl, a', hv⟩ | ⟨i, cap, _, hv, hnc, _⟩
            · obtain ⟨z, hz | hz⟩ := key a' 0 0 c0 c1 c2 (by omega) d hde
              · exact ⟨z, hz, by simp only [Rep]⟩
              · exact absurd hv hz
            · obtain ⟨z, hz | hz⟩ := key _ n cap c0 c1 c2 (by omega) d hde
              · exact ⟨z, hz, by simp only [Rep]⟩
              · exact absurd hv hz
          · rename_i d l0 es off n cap hde hcs
            cases h
            obtain ⟨c0, c1, c2, c3⟩ := hc
            rw [hcs] at hx
            simp only [Rep] at hx
            obtain ⟨i, _, hv, hnc, _⟩ := hx
            obtain ⟨z, hz | hz⟩ := key _ n cap c0 c1 c2 (by omega) d hde
            · exact ⟨z, hz, by simp only [Rep]⟩
            · exact absurd hv hz
          · cases h
        · cases h
      | none =>
      simp only [evP] at h
      split at h
      · rename_i e _ _ _ k k' hd h0 h0'
        have hq := (hD _ _ hd).2
        simp only [TKok] at hq
        rw [h0] at hhi
        rw [h0'] at hm
        simp only [Rep] at hhi hm
        split at h
        · rename_i d n cs hde hcs
          cases h
          have hsz := run_sizeOf (hD _ _ hde)
          rw [hcs] at hx
          simp only [Rep] at hx
          obtain ⟨a', cap, hv, _⟩ := hx
          refine ⟨.slice a' 0 0, by simp [execOp, hv, hhi, hm, Instr.sliceAt, Instr.slice, run_underlying hq, Instr.sliceBounds, run_sliceBound, hsz], ?_⟩
          simp only [Rep]
          exact ⟨_, rfl⟩
        · rename_i d hde hcs
          cases h
          have hsz := run_sizeOf (hD _ _ hde)
          rw [hcs] at hx
          simp only [Rep] at hx
          obtain ⟨a', hv⟩ := hx
          refine ⟨.slice a' 0 0, by simp [execOp, hv, hhi, hm, Instr.sliceAt, Instr.slice, run_underlying hq, Instr.sliceBounds, run_sliceBound, hsz], ?_⟩
          simp only [Rep]
          exact ⟨_, rfl⟩
        · rename_i d l es off n hde hcs
          cases h
          have hsz := run_sizeOf (hD _ _ hde)
          rw [hcs] at hx
          simp only [Rep] at hx
          rcases hx with ⟨_, _, a', hv⟩ | ⟨i, cap, _, hv, _⟩
          · refine ⟨.slice a' 0 0, by simp [execOp, hv, hhi, hm, Instr.sliceAt, Instr.slice, run_underlying hq, Instr.sliceBounds, run_sliceBound, hsz], ?_⟩
            simp only [Rep]
            exact ⟨_, rfl⟩
          · refine ⟨.slice (some ⟨i.b, off, none⟩) 0 0, by simp [execOp, hv, hhi, hm, Instr.sliceAt, Instr.slice, run_underlying hq, Instr.sliceBounds, run_sliceBound, hsz], ?_⟩
            simp only [Rep]
            exact ⟨_, rfl⟩
        · cases h
      · cases h
  case build t parts =>
    split at h
    · rename_i fs eq sz by' zr hd
      simp only [Option.map_eq_some_iff] at h
      obtain ⟨cs, hf, hcs⟩ := h
      cases hcs
      have hq := (hD _ _ hd).2
      simp only [TKok] at hq
      obtain ⟨fields, hu, hfs, ⟨places, hpl⟩, _⟩ := hq
      obtain ⟨z, hz, hzc⟩ := run_zeroValue (hD _ _ hd) w
      simp only at hzc
      have hone : ∀ u ∈ zr, u.oneCell' = true := by
        obtain ⟨⟨i, z', _, _, _, _, h5, h6⟩, _⟩ := hD _ _ hd
        simpa using h6
      have hrun := run_places (P := P) w fields.toList places hpl
      have hget : ∀ (i : Nat) (r : Nat × Nat), (match (fs[i]? : Option (Nat × TypeId)) with
        | some (o, ft) => (D ft).map fun (d : TD) => (o, d.size)
        | none => none) = some r → places[i]? = some r := by
        intro i r hir
        rw [← hfs] at hir
        simp only [List.getElem?_map] at hir
        cases hfi : fields.toList[i]? with
        | none => rw [hfi] at hir; simp at hir
        | some fld =>
          rw [hfi] at hir
          simp only [Option.map_some, Option.map_eq_some_iff] at hir
          obtain ⟨d, hdt, rfl⟩ := hir
          obtain ⟨⟨i', z', h1, h2, _⟩, _⟩ := hD _ _ hdt
          have := mapM_get _ _ _ hpl i fld hfi
          rw [this, h1]
          simp [h2]
      obtain ⟨vout, e1, e2, e3⟩ := fill_ok (M := M) (ψ := ψ) hget _ (parts.toList.map fun e => (e.1, a.eval e.2)) _ z.cells _ hf (by rw [hzc]; exact RepL.ofVs M ψ zr) (by rw [hzc]; exact hone) (by simp)
        (by
          intro j e hj
          simp only [List.getElem?_map, Option.map_eq_some_iff] at hj
          obtain ⟨q, hq', rfl⟩ := hj
          exact ⟨a.eval q.2, by rw [List.getElem?_map, hq']; rfl, A q.2⟩)
      refine ⟨.agg vout, ?_, ?_⟩
      · simp [execOp, Instr.build, run_underlying hu, hz, Array.mapM_eq_mapM_toList, hrun, e1]
      · simp only [Rep]
        exact ⟨vout.toList, by simp, e2, e3⟩
    · cases h
  all_goals cases h
end
end
section
abbrev Heap := Nat → Option (List AV)
structure AS where
  S : Slots
  L : List (Nat × List AV)
  H : Heap
def lookL : List (Nat × List AV) → Nat → Option (List AV)
  | [], _ => none
  | (j, cs) :: r, k => if k = j then some cs else lookL r k
def renL : List (Nat × List AV) → Nat → List (Nat × List AV)
  | [], _ => []
  | (j, cs) :: r, k => if k = j then renL r k else (j, AV.killL k cs) :: renL r k
def setL : List (Nat × List AV) → Nat → List AV → List (Nat × List AV)
  | [], k, cs => [(k, cs)]
  | (j, ds) :: r, k, cs => if k = j then (k, cs) :: r else (j, ds) :: setL r k cs
def renS : Slots → Nat → Slots
  | [], _ => []
  | (j, x) :: r, k => (j, AV.kill k x) :: renS r k
def mkG (L : List (Nat × List AV)) (H : Heap) : Store
  | .l k => lookL L k
  | .h n => H n
def AS.g (s : AS) : Store := mkG s.L s.H
theorem lookL_renL (L : List (Nat × List AV)) (k j : Nat) : lookL (renL L k) j = if j = k then none else (lookL L j).map (AV.killL k) := by
  induction L with
  | nil => simp [renL, lookL]
  | cons e r ih =>
    obtain ⟨i, cs⟩ := e
    simp only [renL]
    by_cases h : k = i
    · subst h
      simp only [if_true, ih, lookL]
      by_cases hj : j = k
      · simp [hj]
      · simp [hj]
    · simp only [if_neg h, lookL, ih]
      by_cases hj : j = i
      · subst hj
        simp [Ne.symm h]
      · simp [hj]
theorem lookL_setL (L : List (Nat × List AV)) (k : Nat) (cs : List AV) (j : Nat) : lookL (setL L k cs) j = if j = k then some cs else lookL L j := by
  induction L with
  | nil => simp [setL, lookL]
  | cons e r ih =>
    obtain ⟨i, ds⟩ := e
    simp only [setL]
    by_cases h : k = i
    · subst h
      simp only [if_true, lookL]
      by_cases hj : j = k <;> simp [hj]
    · simp only [if_neg h, lookL, ih]
      by_cases hj : j = i
      · subst hj; simp [Ne.symm h]
      · simp [hj]
theorem mkG_renL (L : List (Nat × List AV)) (H : Heap) (k : Nat) : mkG (renL L k) H = (mkG L H).renew k none := by
  funext l
  cases l with
  | l j => simp only [mkG, Store.renew, lookL_renL]
  | h n => rfl
theorem mkG_setL (L : List (Nat × List AV)) (H : Heap) (k : Nat) (cs : List AV) : mkG (setL L k cs) H = upd (mkG L H) (.l k) (some cs) := by
  funext l
  cases l with
  | l j => by_cases h : j = k <;> simp [mkG, upd, lookL_setL, h]
  | h n => simp [mkG, upd]
theorem mkG_cons (L : List (Nat × List AV)) (H : Heap) (k : Nat) (cs : List AV) : mkG ((k, cs) :: L) H = upd (mkG L H) (.l k) (some cs) := by
  funext l
  cases l with
  | l j => by_cases h : j = k <;> simp [mkG, upd, lookL, h]
  | h n => simp [mkG, upd]
def AS.set (s : AS) (d : Option Nat) (x : AV) : AS := match d with
  | some d => { s with S := setS s.S d x }
  | none => s
def AS.obj (s : AS) (l : Loc) (cs : List AV) : AS := match l with
  | .l k => { s with L := setL s.L k cs }
  | .h n => { s with H := fun m => if m = n then some cs else s.H m }
theorem AS.obj_g (s : AS) (l : Loc) (cs : List AV) : (s.obj l cs).g = upd s.g l (some cs) := by
  cases l with
  | l k => exact mkG_setL s.L s.H k cs
  | h n =>
    funext x
    cases x with
    | l j => simp [AS.g, AS.obj, mkG, upd]
    | h m => simp [AS.g, AS.obj, mkG, upd]
def AS.new (s : AS) (k : Nat) (cs : List AV) : AS := { S := renS s.S k, L := (k, cs) :: renL s.L k, H := s.H }
theorem AS.new_g (s : AS) (k : Nat) (cs : List AV) : (s.new k cs).g = upd (s.g.renew k none) (.l k) (some cs) := by
  show mkG ((k, cs) :: renL s.L k) s.H = _
  rw [mkG_cons, mkG_renL]; rfl
structure Ent where
  M : Imm
  ψ : Psi
  g : Store
  w : World
  ds : List Deferred
structure At (E : Ent) (N : Nat) (M : Imm) (ψ : Psi) (s : AS) (a : Act) (w : World) : Prop where
  since : Since E.M E.ψ E.g E.w M ψ s.g w
  sr : SR M ψ s.g w
  sl : SlotsR M ψ s.S a.tmps
  n : a.tmps.size = N
  d : a.defers = E.ds
section
variable {E : Ent} {N : Nat} {M : Imm} {ψ : Psi} {s : AS} {a : Act} {w : World}
theorem At.set (h : At E N M ψ s a w) {x : AV} {v : Value} (hx : Rep M ψ x v) {dst : Option Nat} (hd : ∀ d, dst = some d → d < N) : At E N M ψ (s.set dst x) (a.put dst v) w := by
  cases dst with
  | none => exact h
  | some d => exact ⟨h.since, h.sr, h.sl.set (by rw [h.n]; exact hd d rfl) hx, by simp [Act.put, h.n], h.d⟩
theorem lookS_renS (S : Slots) (k j : Nat) : lookS (renS S k) j = AV.kill k (lookS S j) := by
  induction S with
  | nil => rfl
  | cons x r ih =>
    obtain ⟨i, a⟩ := x
    simp only [renS, lookS, ih]
    split <;> rfl
theorem SlotsR.ren {S : Slots} {tmps : Array Value} (h : SlotsR M ψ S tmps) (k : Nat) (i : Option LI) : SlotsR M (ψ.put k i) (renS S k) tmps := by
  intro j
  rw [lookS_renS]
  exact (h j).renew k i
theorem At.new (h : At E N M ψ s a w) (k : Nat) {cs : List AV} {us : List Value} (hlen : cs.length ≤ us.length) (hr : RepL M ψ cs (us.take cs.length)) (h1 : ∀ u ∈ us, u.oneCell' = true) (T : TypeId) :
    At E N M (ψ.put k (some ⟨w.heap.size, us.length⟩)) (s.new k (AV.killL k cs)) a (w.alloc (.cells us.toArray T)) := by
  have hd := h.sr.drop k
  have hk : (ψ.put k none) (.l k) = none := by simp [Psi.put]
  have hgk : (s.g.renew k none) (.l k) = none := by simp [Store.renew]
  have e : (ψ.put k none).put k (some ⟨w.heap.size, us.length⟩) = ψ.put k (some ⟨w.heap.size, us.length⟩) := by
    funext l
    cases l with
    | l j => by_cases hj : j = k <;> simp [Psi.put, hj]
    | h n => rfl
  have ha := hd.alloc (cs := AV.killL k cs) k hk hgk T (by rw [AV.killL_length]; exact hlen) (by rw [AV.killL_length]; exact hr.renew k none) h1
  rw [e] at ha
  refine ⟨?_, by rw [AS.new_g]; exact ha, ?_, h.n, h.d⟩
  · have := ((h.since.drop k).put k ⟨w.heap.size, us.length⟩ (.inl h.since.size) (some (AV.killL k cs))).alloc (.cells us.toArray T)
    rw [e] at this
    rw [AS.new_g]
    exact this
  · exact h.sl.ren k _
theorem At.imm (h : At E N M ψ s a w) {us : List Value} (h1 : ∀ u ∈ us, u.oneCell' = true) (T : TypeId) :
    M.le (M.with w.heap.size us) ∧ At E N (M.with w.heap.size us) ψ s a (w.alloc (.cells us.toArray T)) := by
  obtain ⟨hle, hs⟩ := h.sr.allocImm T h1
  exact ⟨hle, (h.since.with (.inl h.since.size) hle (fun _ x => x)).alloc _, hs, h.sl.mono hle (Psi.le_refl _), h.n, h.d⟩
theorem At.store (h : At E N M ψ s a w) {l : Loc} {cs ds : List AV} {i : LI} {off : Nat} {us : List Value} (hg : s.g l = some cs) (hψ : ψ l = some i) (hn : off + ds.length ≤ cs.length) (hr : RepL M (ψ.at l) ds us) (h1 : ∀ u ∈ us, u.oneCell' = true) :
    ∃ vs T, w.heap[i.b]? = some (.cells vs T (0, 0)) ∧ off + us.length ≤ vs.size ∧
      At E N M ψ (s.obj l (cs.take off ++ ds ++ cs.drop (off + ds.length))) a (w.setRow i.b (vs.toList.take off ++ us ++ vs.toList.drop (off + us.length)).toArray) := by
  obtain ⟨vs, T, h2, h3, h4⟩ := h.sr.store hg hψ hn hr h1
  refine ⟨vs, T, h2, h3, ?_, by rw [AS.obj_g]; exact h4, ?_, h.n, h.d⟩
  · rw [AS.obj_g]
    refine h.since.setRow (h.since.live l i (by simp [hg]) hψ) _ fun x hx => ?_
    by_cases e : x = l
    · subst e; simp [hg]
    · rwa [upd_other _ _ e] at hx
  · cases l <;> exact h.sl
theorem At.drew (h : At E N M ψ s a w) : At E N M ψ s a w.drew := ⟨h.since.drew, h.sr.drew, h.sl, h.n, h.d⟩
end
end
section
def CellsAt (w : World) (a : Addr) (us : List Value) : Prop := ∀ (j : Nat) (u : Value), us[j]? = some u → w.cell? (a.add j) = some u
theorem run_append_grown {P : Program} {w : World} {t ty e : TypeId} {d : TD} (ht : P.underlying t = some (.slice e)) (hd : TDok P e d)
    {base : Option Addr} {n cap m c : Nat} {b : Addr} {news olds : List Value} (hn : news.length = m * d.size) (hnews : CellsAt w b news) (ho : olds.length = n * d.size)
    (hold : (∃ a, base = some a ∧ CellsAt w a olds) ∨ (base = none ∧ n = 0 ∧ cap = 0)) (hgrow : cap < n + m) (hmax : n + m ≤ maxLen) (hby : (n + m) * d.bytes ≤ 140737488355328) :
    ∃ z newCap, (Builtin.append_ #[t, t] ty #[.slice base n cap, .slice (some b) m c]).run P w = .ok (.slice (some ⟨w.heap.size, 0, none⟩) (n + m) newCap) (w.drew.alloc (.cells ((olds ++ news ++ z).toArray) e)) ∧
      n + m ≤ newCap ∧ newCap ≤ maxLen ∧ z.length = (newCap - (n + m)) * d.zero.length ∧ ∀ u ∈ z, u.oneCell' = true := by
  obtain ⟨⟨i, zv, hi, hs, hb, hz, hzc, hone⟩, _⟩ := hd
  have hge := grownCap_ge w (n + m) cap e
  have hcm : grownCap w (n + m) cap e ≤ maxLen := grownCap_le_maxLen w (n + m) cap e hmax
  have hfit := growslice_fits (bytes := d.bytes) hgrow hby
  rw [← hs] at hn ho
  rw [← hb] at hfit
  have hmx : ((n + m : Nat) : Int) ≤ 9223372036854775807 := by unfold maxLen at hmax; omega
  refine ⟨(Builtin.zeroCells zv.cells (grownCap w (n + m) cap e - (n + m))).toList, grownCap w (n + m) cap e, ?_, hge, hcm, ?_, ?_⟩
  · rcases hold with ⟨a, rfl, hc⟩ | ⟨rfl, rfl, rfl⟩
    · have := run_append_grow (P := P) w t ty e i zv ht hi hz a n cap olds ho hc b m c news hn hnews hgrow hmx hfit
      rw [this]
      congr 2
      simp
    · have h0 : olds = [] := List.eq_nil_of_length_eq_zero (by simpa using ho)
      subst h0
      have := run_append_nil (P := P) w t ty e i zv ht hi hz b m c news hn hnews (by omega) (by simpa using hmx) (by
        rw [nextslicecap_zero (by omega)] at hfit
        simpa using hfit)
      simp only [Nat.zero_add] at this ⊢
      rw [this]
      congr 2
      simp
  · simp [Builtin.zeroCells, ← hzc]
  · intro u hu
    simp only [Builtin.zeroCells, Array.toList_map, List.mem_map] at hu
    obtain ⟨q, hq, rfl⟩ := hu
    have hq' : q < (grownCap w (n + m) cap e - (n + m)) * zv.cells.size := by simpa using hq
    have hpos : 0 < zv.cells.size := by
      rcases Nat.eq_zero_or_pos zv.cells.size with h | h
      · rw [h] at hq'; simp at hq'
      · exact h
    have hlt := Nat.mod_lt q hpos
    rw [getElem!_pos zv.cells (q % zv.cells.size) hlt]
    have hm : zv.cells[q % zv.cells.size] ∈ d.zero := by rw [← hzc]; simp
    exact (List.all_eq_true.1 hone) _ hm
theorem run_append_room' {P : Program} {w : World} {t ty e : TypeId} {d : TD} (ht : P.underlying t = some (.slice e)) (hd : TDok P e d)
    {g off n cap m c : Nat} {y : Option Addr} {news : List Value} {vs : Array Value} {T : TypeId} (hg : w.heap[g]? = some (.cells vs T (0, 0))) (hn : news.length = m * d.size) (hy : (∃ b, y = some b ∧ CellsAt w b news) ∨ (y = none ∧ news = []))
    (h1 : ∀ u ∈ news, u.oneCell' = true) (hroom : n + m ≤ cap) (hfit : off + n * d.size + news.length ≤ vs.size) :
    (Builtin.append_ #[t, t] ty #[.slice (some ⟨g, off, none⟩) n cap, .slice y m c]).run P w =
      .ok (.slice (some ⟨g, off, none⟩) (n + m) cap) (w.setRow g (vs.toList.take (off + n * d.size) ++ news ++ vs.toList.drop (off + n * d.size + news.length)).toArray) := by
  obtain ⟨⟨i, zv, hi, hs, hb, hz, hzc, hone⟩, _⟩ := hd
  have hst := run_storeCells_at P g (off + n * d.size) T news 0 vs w hg (by simpa using hfit) h1
  simp only [Nat.add_zero] at hst
  rw [← hs] at hn hst ⊢
  have hf : (Builtin.firstCells i.size m (.slice y m c)).run P w = .ok news.toArray w := by
    rcases hy with ⟨b, rfl, hc⟩ | ⟨rfl, rfl⟩
    · exact run_firstCells_some (P := P) w i.size m b m c news hn hc
    · simp [Builtin.firstCells]
  simp [Builtin.append_, run_underlying ht, sizeOf, typeInfo, hi, Builtin.lenOf, hroom, hf, add_plain, hst]
theorem run_append_nothing {P : Program} {w : World} {t ty e : TypeId} {d : TD} (ht : P.underlying t = some (.slice e)) (hd : TDok P e d) {base y : Option Addr} {c : Nat} :
    (Builtin.append_ #[t, t] ty #[.slice base 0 0, .slice y 0 c]).run P w = .ok (.slice base 0 0) w := by
  obtain ⟨⟨i, zv, hi, hs, hb, hz, hzc, hone⟩, _⟩ := hd
  cases y <;> cases base <;> simp [Builtin.append_, run_underlying ht, sizeOf, typeInfo, hi, Builtin.lenOf, Builtin.firstCells, loadCells, loadCellsFrom, storeCells]
inductive AE where
  | ret (x : AV)
  | panic (x : AV)
def hOnly (H : Heap) : Store := mkG [] H
def EndR (M : Imm) (ψ : Psi) (r : AE) : Ending → Prop
  | .returned v => ∃ x, r = .ret x ∧ Rep M ψ x v
  | .panicked chain => ∃ x v, r = .panic x ∧ chain = [{ v, recovered := false }] ∧ Rep M ψ x v
  | .outgrown => False
def CPost (M : Imm) (ψ : Psi) (H : Heap) (w : World) (Q : AE → Heap → Prop) (e : Ending) (w' : World) : Prop :=
  ∃ M' ψ' H' r, ψ'.strip = ψ' ∧ Since M ψ (hOnly H) w M' ψ' (hOnly H') w' ∧ SR M' ψ' (hOnly H') w' ∧ EndR M' ψ' r e ∧ Q r H'
def Enters (P : Program) (f : FuncId) : Prop := ∃ fn, P.funcs[f]? = some fn ∧ fn.body.isSome = true ∧ (fn.name == "runtime.NumGoroutine") = false
def PCalls (P : Program) (f : FuncId) (args : List AV) (H : Heap) (Q : AE → Heap → Prop) : Prop :=
  ∀ M ψ w vals, ψ.strip = ψ → SR M ψ (hOnly H) w → RepL M ψ args vals →
    (Enters P f ∧ Calls P f vals.toArray w (CPost M ψ H w Q)) ∨ ∃ v w', (callFunc f vals.toArray).run P w = .ok (.value v) w' ∧ CPost M ψ H w Q (.returned v) w'
theorem PCalls.mono {P : Program} {f : FuncId} {args : List AV} {H : Heap} {Q Q' : AE → Heap → Prop} (h : PCalls P f args H Q) (hq : ∀ r H', Q r H' → Q' r H') : PCalls P f args H Q' := by
  have hc : ∀ M ψ w e w', CPost M ψ H w Q e w' → CPost M ψ H w Q' e w' := fun M ψ w e w' ⟨M', ψ', H', r, h1, h2, h3, h4, h5⟩ => ⟨M', ψ', H', r, h1, h2, h3, h4, hq _ _ h5⟩
  intro M ψ w vals h1 h2 h3
  rcases h M ψ w vals h1 h2 h3 with ⟨h4, h5⟩ | ⟨v, w', h4, h5⟩
  · exact .inl ⟨h4, h5.mono fun e w' => hc M ψ w e w'⟩
  · exact .inr ⟨v, w', h4, hc M ψ w _ w' h5⟩
def PFun (P : Program) (f : FuncId) (args : List AV) (r : AV) : Prop := ∀ H, PCalls P f args H fun e H' => e = .ret r ∧ H' = H
def Psi.join (ψ ψ' : Psi) : Psi
  | .l k => ψ (.l k)
  | .h n => ψ' (.h n)
section
variable {E : Ent} {N : Nat} {M : Imm} {ψ : Psi} {s : AS} {a : Act} {w : World}
theorem At.call (h : At E N M ψ s a w) {M' : Imm} {ψ' : Psi} {H' : Heap} {w' : World} (hst : ψ'.strip = ψ') (hs : Since M ψ.strip (hOnly s.H) w M' ψ' (hOnly H') w') (hr : SR M' ψ' (hOnly H') w') :
    ψ'.le (ψ.join ψ') ∧ At E N M' (ψ.join ψ') { s with H := H' } a w' := by
  have hno : ∀ k, ψ' (.l k) = none := fun k => by rw [← hst]; rfl
  have hle : ψ'.le (ψ.join ψ') := by
    intro l i hl
    cases l with
    | l k => rw [hno] at hl; cases hl
    | h n => exact hl
  have hleψ : ψ.le (ψ.join ψ') := by
    intro l i hl
    cases l with
    | l k => exact hl
    | h n => exact hs.psi n i hl
  have hjs : (ψ.join ψ').strip = ψ'.strip := by funext l; cases l <;> rfl
  have hsep : ∀ k i, ψ (.l k) = some i → ∀ l j, ((hOnly s.H) l).isSome → ψ.strip l = some j → j.b ≠ i.b := by
    intro k i hk l j hlive hj
    cases l with
    | l q => simp [Psi.strip] at hj
    | h n => exact fun e => h.sr.sep k i n j hk hlive hj e.symm
  have hnotfresh : ∀ k i, ψ (.l k) = some i → ¬ FreshB ψ.strip (hOnly s.H) w i.b := by
    intro k i hk hf
    rcases hf with hf | ⟨l, j, h1, h2, h3⟩
    · have := h.sr.lt _ i hk; omega
    · exact hsep k i hk l j h1 h2 h3
  have hblk : ∀ k i, ψ (.l k) = some i → w'.heap[i.b]? = w.heap[i.b]? := fun k i hk => hs.blk _ (h.sr.lt _ i hk) fun l j h1 h2 => hsep k i hk l j h1 h2
  have hfresh : ∀ b, FreshB ψ.strip (hOnly s.H) w b → FreshB E.ψ E.g E.w b := by
    intro b hb
    rcases hb with hb | ⟨l, j, h1, h2, h3⟩
    · exact .inl (Nat.le_trans h.since.size hb)
    · cases l with
      | l q => simp [Psi.strip] at h2
      | h n => exact h3 ▸ h.since.live (.h n) j h1 h2
  refine ⟨hle, ?_, ?_, h.sl.mono hs.le hleψ, h.n, h.d⟩
  · refine ⟨hs.os.trans h.since.os, hs.tape.trans h.since.tape, hs.output.trans h.since.output, Nat.le_trans h.since.size hs.size, ?_, h.since.le.trans hs.le, ?_, ?_, ?_, ?_⟩
    · intro k hk hl
      rw [hs.blk k (Nat.lt_of_lt_of_le hk h.since.size), h.since.blk k hk hl]
      intro l j h1 h2 e
      cases l with
      | l q => simp [Psi.strip] at h2
      | h n =>
        rcases h.since.live (.h n) j h1 h2 with hf | ⟨l', i', q1, q2, q3⟩
        · omega
        · exact hl l' i' q1 q2 (q3.trans e)
    · intro n i hi; exact hs.psi n i (h.since.psi n i hi)
    · intro b o v hv
      rcases hs.newM b o v hv with h1 | h1
      · exact h.since.newM b o v h1
      · exact .inr (hfresh b h1)
    · intro l i hi
      cases l with
      | l k => exact h.since.newψ (.l k) i hi
      | h n =>
        rcases hs.newψ (.h n) i hi with h1 | h1
        · exact h.since.newψ (.h n) i h1
        · exact .inr (hfresh _ h1)
    · intro l i h1 hi
      cases l with
      | l k => exact h.since.live (.l k) i h1 hi
      | h n => exact hfresh _ (hs.live (.h n) i h1 hi)
  · refine ⟨hr.imm, ?_, ?_, ?_, ?_, ?_, ?_, hr.fin⟩
    · intro l cs hg i hi
      cases l with
      | l k =>
        obtain ⟨vs, T, a1, a2, a3, a4, a5⟩ := h.sr.obj (.l k) cs hg i hi
        exact ⟨vs, T, (hblk k i hi).trans a1, a2, a3, a4, RepL.mono hs.le _ hleψ a5⟩
      | h n =>
        obtain ⟨vs, T, a1, a2, a3, a4, a5⟩ := hr.obj (.h n) cs hg i hi
        refine ⟨vs, T, a1, a2, a3, a4, ?_⟩
        show RepL M' (ψ.join ψ').strip cs _
        rw [hjs]
        exact a5
    · intro l cs hg hn
      cases l with
      | l k => exact h.sr.empt (.l k) cs hg hn
      | h n => exact hr.empt (.h n) cs hg hn
    · intro l l' i i' hg hg' hi hi' hb
      cases l with
      | l k =>
        cases l' with
        | l k' => exact h.sr.apart (.l k) (.l k') i i' hg hg' hi hi' hb
        | h n => exact absurd (hb ▸ hs.live (.h n) i' hg' hi') (hnotfresh k i hi)
      | h n =>
        cases l' with
        | l k' => exact absurd (hb ▸ hs.live (.h n) i hg hi) (hnotfresh k' i' hi')
        | h n' => exact hr.apart (.h n) (.h n') i i' hg hg' hi hi' hb
    · intro l i hg hi o
      cases l with
      | l k =>
        cases hM : M' i.b o with
        | none => rfl
        | some v =>
          rcases hs.newM _ _ _ hM with h1 | h1
          · rw [h.sr.mt (.l k) i hg hi o] at h1; cases h1
          · exact absurd h1 (hnotfresh k i hi)
      | h n => exact hr.mt (.h n) i hg hi o
    · intro k i n j hi hg hj
      have h1 := hs.live (.h n) j hg hj
      intro e
      rw [← e] at h1
      exact hnotfresh k i hi h1
    · intro l i hi
      cases l with
      | l k => exact Nat.lt_of_lt_of_le (h.sr.lt (.l k) i hi) hs.size
      | h n => exact hr.lt (.h n) i hi
theorem SR.heapOnly {L : List (Nat × List AV)} {H : Heap} (h : SR M ψ (mkG L H) w) : SR M ψ.strip (hOnly H) w := by
  have hψ : ∀ l i, ψ.strip l = some i → ψ l = some i := ψ.strip_le
  have hg : ∀ l, (hOnly H l).isSome → (mkG L H l).isSome := fun l hl => by
    cases l with
    | l k => simp [hOnly, mkG, lookL] at hl
    | h n => exact hl
  refine ⟨h.imm, ?_, ?_, ?_, ?_, ?_, ?_, h.fin⟩
  · intro l cs hl i hi
    cases l with
    | l k => simp [hOnly, mkG, lookL] at hl
    | h n =>
      obtain ⟨vs, T, a1, a2, a3, a4, a5⟩ := h.obj (.h n) cs hl i hi
      refine ⟨vs, T, a1, a2, a3, a4, ?_⟩
      show RepL M ψ.strip.strip cs _
      rw [Psi.strip_strip]
      exact a5
  · intro l cs hl hn
    cases l with
    | l k => simp [hOnly, mkG, lookL] at hl
    | h n => exact h.empt (.h n) cs hl hn
  · intro l l' i i' h1 h2 h3 h4 h5
    exact h.apart l l' i i' (hg l h1) (hg l' h2) (hψ l i h3) (hψ l' i' h4) h5
  · intro l i h1 h2
    exact h.mt l i (hg l h1) (hψ l i h2)
  · intro k i n j h1
    simp [Psi.strip] at h1
  · intro l i h1
    exact h.lt l i (hψ l i h1)
end
end
end Go.Eng
