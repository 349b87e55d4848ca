/- A part of the proof: the engine that walks Go code, the walks of the broker, or their laws (TvEngN TvEngO TvEngP). -/
import Derived.Test.YtpcpljfifipagaaGreatDoorX05
import Derived.Orders
set_option linter.unusedSimpArgs false
set_option linter.unusedVariables false
namespace Go.Eng
section
def dirs (o : Oper) : List Nat := (o.after.toList.filter fun e => Region.binds .any e).map (·.on)
def maskOf (acc : List Nat) (js : List Nat) : Nat := js.foldl (fun s j => s ||| 2 ^ j ||| acc.getD j 0) 0
def masks (ops : List Oper) : List Nat := ops.foldl (fun acc o => acc ++ [maskOf acc (dirs o)]) []
theorem maskOf_bit (acc : List Nat) (b : Nat) : ∀ (js : List Nat) (s : Nat), (js.foldl (fun s j => s ||| 2 ^ j ||| acc.getD j 0) s).testBit b = true → s.testBit b = true ∨ ∃ j ∈ js, b = j ∨ (acc.getD j 0).testBit b = true
  | [], s, h => .inl h
  | j :: js, s, h => by
    simp only [List.foldl_cons] at h
    rcases maskOf_bit acc b js _ h with h' | ⟨i, hi, h'⟩
    · simp only [Nat.testBit_or, Bool.or_eq_true] at h'
      rcases h' with (h' | h') | h'
      · exact .inl h'
      · rw [Nat.testBit_two_pow] at h'
        exact .inr ⟨j, by simp, .inl (by have := of_decide_eq_true h'; exact this.symm)⟩
      · exact .inr ⟨j, by simp, .inr h'⟩
    · exact .inr ⟨i, by simp [hi], h'⟩
theorem masks_spec (ops : List Oper) : (masks ops).length = ops.length ∧ ∀ (i : Nat) (o : Oper), ops[i]? = some o → ∀ b, ((masks ops).getD i 0).testBit b = true → ∃ j ∈ dirs o, b = j ∨ (j < i ∧ ((masks ops).getD j 0).testBit b = true) := by
  unfold masks
  suffices h : ∀ (l pre : List Oper) (acc : List Nat), acc.length = pre.length → (∀ (i : Nat) (o : Oper), pre[i]? = some o → ∀ b, (acc.getD i 0).testBit b = true → ∃ j ∈ dirs o, b = j ∨ (j < i ∧ (acc.getD j 0).testBit b = true)) →
      (l.foldl (fun acc o => acc ++ [maskOf acc (dirs o)]) acc).length = (pre ++ l).length ∧ ∀ (i : Nat) (o : Oper), (pre ++ l)[i]? = some o → ∀ b, ((l.foldl (fun acc o => acc ++ [maskOf acc (dirs o)]) acc).getD i 0).testBit b = true →
        ∃ j ∈ dirs o, b = j ∨ (j < i ∧ ((l.foldl (fun acc o => acc ++ [maskOf acc (dirs o)]) acc).getD j 0).testBit b = true) by
    have := h ops [] [] rfl (fun i o h => by simp at h)
    simpa using this
  intro l
  induction l with
  | nil => intro pre acc h1 h2; simpa using ⟨h1, h2⟩
  | cons x l ih =>
    intro pre acc h1 h2
    simp only [List.foldl_cons]
    have := ih (pre ++ [x]) (acc ++ [maskOf acc (dirs x)]) (by simp [h1]) (by
      intro i o hi b hb
      have hlift : ∀ j, j < acc.length → (acc ++ [maskOf acc (dirs x)]).getD j 0 = acc.getD j 0 := fun j hj => by
        simp [List.getD_eq_getElem?_getD, List.getElem?_append_left hj]
      rcases Nat.lt_or_ge i pre.length with hlt | hge
      · rw [List.getElem?_append_left hlt] at hi
        rw [hlift i (by omega)] at hb
        obtain ⟨j, hj, h'⟩ := h2 i o hi b hb
        refine ⟨j, hj, h'.imp id fun ⟨a, c⟩ => ⟨a, ?_⟩⟩
        rw [hlift j (by omega)]
        exact c
      · have hie : i = pre.length := by
          have : i < (pre ++ [x]).length := by
            rcases Nat.lt_or_ge i (pre ++ [x]).length with h | h
            · exact h
            · rw [List.getElem?_eq_none h] at hi; cases hi
          simp at this; omega
        subst hie
        simp at hi
        subst hi
        have : (acc ++ [maskOf acc (dirs x)]).getD pre.length 0 = maskOf acc (dirs x) := by simp [List.getD_eq_getElem?_getD, ← h1]
        rw [this] at hb
        rcases maskOf_bit acc b _ 0 hb with h' | ⟨j, hj, h'⟩
        · simp at h'
        · refine ⟨j, hj, h'.imp id fun c => ?_⟩
          have hjl : j < acc.length := by
            rcases Nat.lt_or_ge j acc.length with h | h
            · exact h
            · rw [List.getD_eq_getElem?_getD, List.getElem?_eq_none h] at c; simp at c
          exact ⟨by omega, by rw [hlift j hjl]; exact c⟩)
    simpa using this
def Closed (ops : List Oper) (li : Nat → Bool) : Prop := ∀ (i : Nat) (o : Oper), ops[i]? = some o → li i = true → ∀ j ∈ dirs o, li j = true
theorem Closed.mask {ops : List Oper} {li : Nat → Bool} (h : Closed ops li) : ∀ (i : Nat) (o : Oper), ops[i]? = some o → (∀ j ∈ dirs o, li j = true) → ∀ b, ((masks ops).getD i 0).testBit b = true → li b = true := by
  intro i
  induction i using Nat.strongRecOn with
  | _ i ih =>
    intro o ho hd b hb
    obtain ⟨j, hj, rfl | ⟨hlt, hb'⟩⟩ := (masks_spec ops).2 i o ho b hb
    · exact hd _ hj
    · have hjl : j < ops.length := by
        have : i < ops.length := by
          rcases Nat.lt_or_ge i ops.length with h | h
          · exact h
          · rw [List.getElem?_eq_none h] at ho; cases ho
        omega
      exact ih j hlt ops[j] (List.getElem?_eq_getElem hjl) (h j _ (List.getElem?_eq_getElem hjl) (hd j hj)) b hb'
def looks (all : List Oper) (o : Oper) : List Nat :=
  (o.op.operands.toList.filterMap fun | .tmp t => some t | _ => none) ++ (match o.guard with
    | some (j, _) => (guardSlot all j).toList
    | none => [])
def bef (ms : List Nat) (i j : Nat) : Bool := (ms.getD i 0).testBit j
def drawOk (ops : List Oper) (qs ts late : List Nat) : Bool :=
  let ms := masks ops
  let n := ops.length
  ((List.range n).all fun i => (qs.contains i != ts.contains i)) && (qs ++ ts).all (fun i => decide (i < n)) &&
  ((List.range n).all fun i => (List.range n).all fun j => i == j || (match ops[i]?, ops[j]? with
    | some a, some b => (match a.dst, b.dst with
      | some x, some y => x != y
      | _, _ => true) && (match b.dst with
      | some y => if (looks ops a).contains y then bef ms i j else true
      | none => true)
    | _, _ => false)) &&
  ((List.range n).all fun i => match ops[i]? with
    | some a => (match a.dst with
      | some y => !(looks ops a).contains y
      | none => true)
    | none => false) &&
  (qs.all fun q => ts.all fun t => !bef ms q t && (late.contains q || bef ms t q)) &&
  ((List.range ts.length).all fun i => (List.range i).all fun j => bef ms (ts.getD i 0) (ts.getD j 0)) &&
  ((List.range n).all fun i => match ops[i]? with
    | some a => (dirs a).all fun j => decide (j < i)
    | none => false) &&
  (qs.all fun q => match ops[q]? with
    | some a => a.dst.isSome
    | none => false)
def minS : Slots → (Nat → Bool) → Slots
  | [], _ => []
  | (j, x) :: r, X => if X j then minS r X else (j, x) :: minS r X
def minL : List (Nat × List AV) → (Nat → Bool) → List (Nat × List AV)
  | [], _ => []
  | (j, x) :: r, X => if X j then minL r X else (j, x) :: minL r X
theorem lookS_minS (S : Slots) (X : Nat → Bool) (k : Nat) : lookS (minS S X) k = if X k then .dead else lookS S k := by
  induction S with
  | nil => simp [minS, lookS]
  | cons e r ih =>
    obtain ⟨j, x⟩ := e
    simp only [minS]
    by_cases hj : X j = true
    · simp only [hj, if_true, ih, lookS]
      by_cases hk : k = j
      · subst hk; simp [hj]
      · simp [hk]
    · have hj' : X j = false := by simpa using hj
      simp only [hj', Bool.false_eq_true, if_false, lookS, ih]
      by_cases hk : k = j
      · subst hk; simp [hj']
      · simp [hk]
theorem lookL_minL (L : List (Nat × List AV)) (X : Nat → Bool) (k : Nat) : lookL (minL L X) k = if X k then none else lookL L k := by
  induction L with
  | nil => simp [minL, lookL]
  | cons e r ih =>
    obtain ⟨j, x⟩ := e
    simp only [minL]
    by_cases hj : X j = true
    · simp only [hj, if_true, ih, lookL]
      by_cases hk : k = j
      · subst hk; simp [hj]
      · simp [hk]
    · have hj' : X j = false := by simpa using hj
      simp only [hj', Bool.false_eq_true, if_false, lookL, ih]
      by_cases hk : k = j
      · subst hk; simp [hj']
      · simp [hk]
theorem evA_congr {S S' : Slots} {xs : Array Operand} (h : ∀ t, Operand.tmp t ∈ xs.toList → lookS S t = lookS S' t) : ∀ x ∈ xs.toList, evA S x = evA S' x := by
  intro x hx
  cases x with
  | tmp t => exact h t hx
  | const c => rfl
  | global g => rfl
  | func f => rfl
theorem evP_congr {D : Types} {S S' : Slots} {g : Store} (op : Op) (h : ∀ t, Operand.tmp t ∈ op.operands.toList → lookS S t = lookS S' t) : evP D S g op = evP D S' g op := by
  have A := evA_congr h
  cases op
  case slice t x lo hi mx =>
    have hx := A x (by simp [Op.operands])
    have hl : lo.map (evA S) = lo.map (evA S') := by
      cases lo with
      | none => rfl
      | some l => simp [A l (by simp [Op.operands])]
    have hh : hi.map (evA S) = hi.map (evA S') := by
      cases hi with
      | none => rfl
      | some l => simp [A l (by simp [Op.operands])]
    cases mx with
    | none => simp only [evP, hx, hl, hh]
    | some m =>
      have hm := A m (by simp [Op.operands])
      cases lo with
      | some l =>
        cases hi with
        | none => rfl
        | some h' =>
          have hl' := A l (by simp [Op.operands])
          have hh' := A h' (by simp [Op.operands])
          simp only [evP, hx, hh', hm, hl']
      | none =>
        cases hi with
        | none => rfl
        | some h' =>
          have hh' := A h' (by simp [Op.operands])
          simp only [evP, hx, hh', hm]
  case build t parts =>
    have : (parts.toList.map fun e => (e.1, evA S e.2)) = parts.toList.map fun e => (e.1, evA S' e.2) := by
      apply List.map_congr_left
      intro e he
      rw [A e.2 (by simp [Op.operands]; exact ⟨e.1, by simpa using he⟩)]
    simp only [evP, this]
  case makeFunc fn fs cs =>
    have : cs.toList.map (evA S) = cs.toList.map (evA S') := by
      apply List.map_congr_left
      intro e he
      exact A e (by simp [Op.operands]; exact .inr (by simpa using he))
    cases fn <;> simp only [evP, this]
  case call c =>
    obtain ⟨callee, args, ts⟩ := c
    cases callee with
    | value f => rfl
    | invoke r m => rfl
    | builtin b =>
      cases b <;> try rfl
      all_goals
        simp only [evP]
        split
        · rename_i x t hx ht
          rw [A x (by simp [Op.operands, Call.operands, hx])]
        · rfl
  all_goals first
    | rfl
    | (simp [Op.operands] at A; simp only [evP, A])
theorem evLoad_mono {g g' : Store} {x : AV} {n : Nat} {r : Prop × List AV} (hg : ∀ l off cs, x = .p l off → g l = some cs → g' l = some cs) (h : evLoad g x n = some r) : evLoad g' x n = some r := by
  unfold evLoad at h ⊢
  split at h
  · rename_i l off
    split at h
    · rename_i cs hcs
      rw [hg l off cs rfl hcs]
      exact h
    · cases h
  · exact h
  · cases h
theorem evP_mono {D : Types} {S : Slots} {g g' : Store} {op : Op} {r : Prop × AV} (hg : ∀ x l off cs, x ∈ op.operands.toList → evA S x = .p l off → g l = some cs → g' l = some cs) (h : evP D S g op = some r) : evP D S g' op = some r := by
  cases op
  case load t x =>
    simp only [evP] at h ⊢
    split at h
    · rename_i d hd
      have hx := fun l off cs e => hg x l off cs (by simp [Op.operands]) e
      split at h
      · rename_i hk
        split at h
        · rename_i hagg
          simp only [Option.map_eq_some_iff] at h
          obtain ⟨q, h1, h2⟩ := h
          simp only [hd, hk, hagg, if_true]
          rw [evLoad_mono hx h1]
          exact congrArg some h2
        · rename_i hagg
          simp only [Option.map_eq_some_iff] at h
          obtain ⟨q, h1, h2⟩ := h
          simp only [hd, hk, if_true]
          rw [if_neg hagg, evLoad_mono hx h1]
          exact congrArg some h2
      · cases h
    · cases h
  case slice t x lo hi mx =>
    cases mx with
    | none => simpa only [evP] using h
    | some m =>
      cases lo with
      | some l =>
        cases hi with
        | none => simp [evP] at h
        | some h' => simpa only [evP] using h
      | none =>
        cases hi with
        | none => simp [evP] at h
        | some h' => simpa only [evP] using h
  case makeFunc fn fs cs => cases fn <;> first | (simpa only [evP] using h) | simp [evP] at h
  case call c =>
    obtain ⟨callee, args, ts⟩ := c
    cases callee with
    | value f => simp [evP] at h
    | invoke r m => simp [evP] at h
    | builtin b => cases b <;> first | (simp [evP] at h; done) | (simpa only [evP] using h)
  all_goals first
    | (simp [evP] at h; done)
    | (simpa only [evP] using h)
end
section
def QN (cfg : Cfg) (dst : Option Nat) (cs : List AV) (v : AV) (ob : Option (List AV)) : Prop :=
  match dst with
  | some k => if cfg.fz k then AV.noLL cs = true ∧ v = .vp cs ∧ ob = none else v = .p (.l k) 0 ∧ ob = some cs
  | none => False
def QV (P : Program) (D : Types) (cfg : Cfg) (o : Oper) (s : AS) (v : AV) (ob : Option (List AV)) : Prop :=
  match o.op with
  | .alloc t =>
    match D t with
    | some d => QN cfg o.dst (AV.ofVs d.zero) v ob
    | none => False
  | .box t x =>
    match (evA s.S x).cells with
    | some ds => QN cfg o.dst ds v ob
    | none => False
  | .buildSlice t len parts =>
    match D t with
    | some ⟨.slice e, _, _, _⟩ =>
      match D e with
      | some d =>
        match fillA (fun i => some (i * d.size, d.size)) (List.replicate len (AV.ofVs d.zero)).flatten (parts.toList.map fun x => (x.1, evA s.S x.2)) with
        | some cs => len * d.size ≤ 16777216 ∧ d.zero.length = d.size ∧ 0 < d.size ∧ ob = none ∧ if len = 0 then v = .sl0 else AV.noLL cs = true ∧ v = .sl len cs
        | none => False
      | none => False
    | _ => False
  | .call ⟨.value f, args, _⟩ =>
    match evA s.S f with
    | .fn id caps => AV.noLL (args.toList.map (evA s.S) ++ caps) = true ∧ ob = none ∧ PCalls P id (args.toList.map (evA s.S) ++ caps) s.H fun e H' => e = .ret v ∧ H' = s.H
    | _ => False
  | op =>
    match evP D s.S s.g op with
    | some (c, r) => c ∧ v = r ∧ ob = none
    | none => False
def AS.add (s : AS) (dst : Option Nat) (v : AV) (ob : Option (List AV)) : AS :=
  match dst, ob with
  | some k, some cs => { s with S := setS s.S k v, L := (k, cs) :: s.L }
  | some k, none => { s with S := setS s.S k v }
  | none, _ => s
def AS.min (s : AS) (X Y : Nat → Bool) : AS := { S := minS s.S X, L := minL s.L Y, H := s.H }
def Wanted (all : List Oper) (s : AS) (o : Oper) (b : Bool) : Prop :=
  match o.guard with
  | none => b = true
  | some (j, want) =>
    match guardSlot all j with
    | some d =>
      match lookS s.S d with
      | .v (.bool t) => b = (t == want)
      | x => x.isUnd = true ∧ b = false
    | none => False
section
variable {P : Program} {D : Types} (hD : Types.ok P D) {E : Ent} {cfg : Cfg} {M : Imm} {ψ : Psi} {s : AS} {a : Act} {w : World}
theorem At.congr {s' : AS} (h : At E cfg.N M ψ s a w) (hS : ∀ k, lookS s'.S k = lookS s.S k ∨ lookS s'.S k = .dead) (hg : s'.g = s.g) : At E cfg.N M ψ s' a w := by
  refine ⟨by rw [hg]; exact h.since, by rw [hg]; exact h.sr, fun k => ?_, h.n, h.d⟩
  rcases hS k with e | e
  · rw [e]; exact h.sl k
  · rw [e]; simp only [Rep]
theorem At.alloc (h : At E cfg.N M ψ s a w) (k : Nat) (hk : ψ (.l k) = none) (hg : s.g (.l k) = none) {cs : List AV} {us : List Value} (hr : RepL M ψ cs us) (h1 : ∀ u ∈ us, u.oneCell' = true) (T : TypeId) :
    At E cfg.N M (ψ.put k (some ⟨w.heap.size, us.length⟩)) { s with L := (k, cs) :: s.L } a (w.alloc (.cells us.toArray T)) := by
  have hle : ψ.le (ψ.put k (some ⟨w.heap.size, us.length⟩)) := by
    intro l i hl
    refine Psi.put_ne ψ k _ l i ?_ hl
    rintro rfl
    rw [hk] at hl
    cases hl
  have ha := h.sr.alloc k hk hg T (Nat.le_of_eq hr.length.symm) (by rw [List.take_of_length_le (Nat.le_of_eq hr.length)]; exact hr) h1
  have e : ({ s with L := (k, cs) :: s.L } : AS).g = upd s.g (.l k) (some cs) := mkG_cons s.L s.H k cs
  refine ⟨?_, by rw [e]; exact ha, h.sl.mono (Imm.le_refl M) hle, h.n, h.d⟩
  rw [e]
  exact (h.since.put k ⟨w.heap.size, us.length⟩ (.inl h.since.size) (some cs)).alloc _
theorem QN_ok {cs : List AV} {us : List Value} (h : At E cfg.N M ψ s a w) {dst : Option Nat} (hd : okDst cfg.N dst = true) {v : AV} {ob : Option (List AV)} (hq : QN cfg dst cs v ob) (hr : RepL M ψ cs us) (h1 : ∀ u ∈ us, u.oneCell' = true) (T : TypeId)
    (hk : ∀ k, dst = some k → ob.isSome = true → ψ (.l k) = none ∧ s.g (.l k) = none) :
    ∃ M' ψ', At E cfg.N M' ψ' (s.add dst v ob) (a.put dst (.pointer (some ⟨w.heap.size, 0, none⟩))) (w.alloc (.cells us.toArray T)) ∧ ∀ j, (∀ k, dst = some k → ob.isSome = true → j ≠ k) → ψ' (.l j) = ψ (.l j) := by
  unfold QN at hq
  split at hq
  · rename_i k
    split at hq
    · obtain ⟨hn, rfl, rfl⟩ := hq
      obtain ⟨hle, hat⟩ := h.imm h1 T
      refine ⟨_, ψ, hat.set (dst := some k) ?_ (okDst_lt hd), fun _ _ => rfl⟩
      simp only [Rep]
      exact ⟨_, _, us, rfl, Imm.with_at _ _ _, RepL.mono hle _ (Psi.le_refl _) (hr.noLL' hn)⟩
    · obtain ⟨rfl, rfl⟩ := hq
      obtain ⟨h2, h3⟩ := hk k rfl rfl
      refine ⟨_, _, (h.alloc k h2 h3 hr h1 T).set (dst := some k) ?_ (okDst_lt hd), fun j hj => ?_⟩
      · simp only [Rep]
        exact ⟨⟨w.heap.size, us.length⟩, by simp [Psi.put], rfl⟩
      · simp [Psi.put, hj k rfl rfl]
  · exact hq.elim
include hD in
theorem buildSlice_run (h : At E cfg.N M ψ s a w) (o : Oper) {t : TypeId} {len : Nat} {parts : Array (Nat × Operand)} (ho : o.op = .buildSlice t len parts) {e : TypeId} {sz by' : Nat} {zr : List Value} (hdt : D t = some ⟨.slice e, sz, by', zr⟩) {d : TD} (hde : D e = some d) {cs : List AV}
    (hf : fillA (fun i => some (i * d.size, d.size)) (List.replicate len (AV.ofVs d.zero)).flatten (parts.toList.map fun x => (x.1, evA s.S x.2)) = some cs) (hb : len * d.size ≤ 16777216) (hzl : d.zero.length = d.size) (hpos : 0 < d.size) :
    ∃ vout : List Value, (execOp a.eval o).run P w = .ok (.value (.slice (some ⟨w.heap.size, 0, none⟩) len len)) (w.alloc (.cells vout.toArray e)) ∧ RepL M ψ cs vout ∧ (∀ u ∈ vout, u.oneCell' = true) ∧ len ≤ maxLen := by
  have A := fun x => Rep.evA h.sl x
  have hq := (hD _ _ hdt).2
  simp only [TKok] at hq
  have hsz := run_sizeOf (hD _ _ hde) w
  obtain ⟨z, hz, hzc⟩ := run_zeroValue (hD _ _ hde) w
  obtain ⟨⟨i, zv, q1, q2, q3, q4, q5, q6⟩, _⟩ := hD _ _ hde
  have hone : ∀ u ∈ d.zero, u.oneCell' = true := by simpa using q6
  have hzs : z.cells.size = d.size := by rw [← hzl, ← hzc]; simp
  have hrow : ((Array.range (len * d.size)).map (z.cells[· % z.cells.size]!)).toList = (List.replicate len z.cells.toList).flatten := by
    rw [← hzs]; exact zero_row z.cells len
  obtain ⟨vout, e1, e2, e3⟩ := fill_ok (M := M) (ψ := ψ) (place' := fun i => some (i * d.size, d.size)) (fun _ _ x => x) _ (parts.toList.map fun x => (x.1, a.eval x.2)) _ ((Array.range (len * d.size)).map (z.cells[· % z.cells.size]!)) _ hf
    (by rw [hrow, hzc]; exact (RepL.ofVs M ψ d.zero).flatten len)
    (by
      rw [hrow, hzc]
      intro u hu
      simp only [List.mem_flatten, List.mem_replicate] at hu
      obtain ⟨l, ⟨_, rfl⟩, hu⟩ := hu
      exact hone u hu) (by simp)
    (by
      intro j x hj
      simp only [List.getElem?_map, Option.map_eq_some_iff] at hj
      obtain ⟨q, hq', rfl⟩ := hj
      exact ⟨a.eval q.2, by rw [List.getElem?_map, hq']; rfl, A q.2⟩)
  refine ⟨vout.toList, ?_, e2, e3, ?_⟩
  · by_cases h0 : len * d.size = 0
    · have hlen0 : len = 0 := by
        rcases Nat.eq_zero_or_pos len with h' | h'
        · exact h'
        · have := Nat.mul_pos h' hpos; omega
      simp only [hlen0, Nat.zero_mul, Array.range_zero', List.map_toArray, List.map_nil] at e1
      simp only [execOp, ho, Instr.buildSlice, Sem.run_bind, run_underlying hq, Result.andThen_ok, hsz, Sem.run_ite, hlen0, Nat.zero_mul]
      simp [Array.range_zero', e1, newRow]
    · have hle : ¬ (16777216 < len * d.size) := by omega
      simp only [execOp, ho, Instr.buildSlice, Sem.run_bind, run_underlying hq, Result.andThen_ok, hsz, Sem.run_ite]
      simp [hle, h0, hz, e1, newRow]
  · have : len * 1 ≤ len * d.size := Nat.mul_le_mul_left _ hpos
    unfold maxLen
    omega
include hD in
theorem QV_ok (h : At E cfg.N M ψ s a w) (o : Oper) (hd : okDst cfg.N o.dst = true) {v : AV} {ob : Option (List AV)} (hq : QV P D cfg o s v ob) (hk : ∀ k, o.dst = some k → ob.isSome = true → ψ (.l k) = none ∧ s.g (.l k) = none)
    {next : Act → World → Prop} {Q : Exit → Act → World → Prop} (hn : ∀ a' w' M' ψ', At E cfg.N M' ψ' (s.add o.dst v ob) a' w' → (∀ j, (∀ k, o.dst = some k → ob.isSome = true → j ≠ k) → ψ' (.l j) = ψ (.l j)) → next a' w') : o.wp P a w next Q := by
  have A := fun x => Rep.evA h.sl x
  obtain ⟨dst, op, ty, pos, after, guard⟩ := o
  unfold QV at hq
  simp only at hq hd hk
  unfold Oper.wp
  split at hq
  · rename_i t
    split at hq
    · rename_i d hdt
      obtain ⟨z, hz, hzc⟩ := run_zeroValue (hD _ _ hdt) w
      obtain ⟨⟨i, zv, q1, q2, q3, q4, q5, q6⟩, _⟩ := hD _ _ hdt
      have hone : ∀ u ∈ d.zero, u.oneCell' = true := by simpa using q6
      obtain ⟨M', ψ', hat, hψ⟩ := QN_ok h hd hq (us := z.cells.toList) (by rw [hzc]; exact RepL.ofVs M ψ d.zero) (by rw [hzc]; exact hone) t hk
      have e1 : (execOp a.eval { dst := dst, op := .alloc t, type := ty, pos := pos, after := after, guard := guard }).run P w = .ok (.value (.pointer (some ⟨w.heap.size, 0, none⟩))) (w.alloc (.cells z.cells.toList.toArray t)) := by
        simp [execOp, Instr.alloc, hz, newVar, newRow]
      rw [e1, Oper.upon_value]
      exact hn _ _ _ _ hat hψ
    · exact hq.elim
  · rename_i t x
    split at hq
    · rename_i ds hv
      obtain ⟨hc, hone⟩ := (A x).cells hv
      obtain ⟨M', ψ', hat, hψ⟩ := QN_ok h hd hq hc hone t hk
      have e1 : (execOp a.eval { dst := dst, op := .box t x, type := ty, pos := pos, after := after, guard := guard }).run P w = .ok (.value (.pointer (some ⟨w.heap.size, 0, none⟩))) (w.alloc (.cells (a.eval x).cells.toList.toArray t)) := by
        simp [execOp, Instr.box, newVar, newRow]
      rw [e1, Oper.upon_value]
      exact hn _ _ _ _ hat hψ
    · exact hq.elim
  · rename_i t len parts
    split at hq
    · rename_i e sz by' zr hdt
      split at hq
      · rename_i d hde
        split at hq
        · rename_i cs hf
          obtain ⟨h1, h2, h3, rfl, h4⟩ := hq
          obtain ⟨vout, e1, e2, e3, e4⟩ := buildSlice_run hD h { dst := dst, op := .buildSlice t len parts, type := ty, pos := pos, after := after, guard := guard } rfl hdt hde hf h1 h2 h3
          rw [e1, Oper.upon_value]
          obtain ⟨hle, hat⟩ := h.imm e3 e
          split at h4
          · rename_i h0
            subst h0; subst h4
            refine hn _ _ _ ψ (by
              have := hat.set (dst := dst) (x := .sl0) (v := .slice (some ⟨w.heap.size, 0, none⟩) 0 0) (by simp only [Rep]; exact ⟨_, rfl⟩) (okDst_lt hd)
              cases dst <;> exact this) fun _ _ => rfl
          · obtain ⟨hno, rfl⟩ := h4
            refine hn _ _ _ ψ (by
              have := hat.set (dst := dst) (x := .sl len cs) (v := .slice (some ⟨w.heap.size, 0, none⟩) len len) (by
                simp only [Rep]
                exact ⟨_, _, rfl, Nat.le_refl _, e4, fun _ => ⟨_, _, vout, rfl, Imm.with_at _ _ _, RepL.mono hle _ (Psi.le_refl _) (e2.noLL' hno)⟩⟩) (okDst_lt hd)
              cases dst <;> exact this) fun _ _ => rfl
        · exact hq.elim
      · exact hq.elim
    · exact hq.elim
  · rename_i f args ts
    split at hq
    · rename_i id caps hf
      obtain ⟨hno, rfl, hcall⟩ := hq
      have rf := A f
      rw [hf] at rf
      simp only [Rep] at rf
      obtain ⟨vs, hfv, hcaps⟩ := rf
      have hreps := (RepL.map_evA (a := a) h.sl args.toList).append hcaps
      have hargs : args.map a.eval ++ vs.toArray = (args.toList.map a.eval ++ vs).toArray := by apply Array.ext'; simp
      have hpc := hcall M ψ.strip w (args.toList.map a.eval ++ vs) (Psi.strip_strip ψ) h.sr.heapOnly (hreps.noLL' hno)
      have erun : (execOp a.eval { dst := dst, op := .call ⟨.value f, args, ts⟩, type := ty, pos := pos, after := after, guard := guard }).run P w = (callFunc id (args.toList.map a.eval ++ vs).toArray).run P w := by
        simp only [execOp, resolve, Sem.run_bind, hfv, Deferred.ofValue, Sem.run_pure, Result.andThen_ok, invoke, Array.empty_append, hargs]
      have done : ∀ e w', CPost M ψ.strip s.H w (fun e H' => e = .ret v ∧ H' = s.H) e w' → match e with
            | .returned v => next (a.put dst v) w'
            | .panicked chain => Q (.panic chain) a w'
            | .outgrown => LetsOut Q := by
        rintro e w' ⟨M', ψ', H', r, c1, c2, c3, c4, rfl, rfl⟩
        obtain ⟨hle, hat⟩ := h.call c1 c2 c3
        cases e with
        | returned u =>
          obtain ⟨x, hx, hr⟩ := c4
          cases hx
          refine hn _ _ M' (ψ.join ψ') (by
            have := hat.set (dst := dst) (Rep.mono (Imm.le_refl _) _ hle hr) (okDst_lt hd)
            cases dst <;> exact this) fun _ _ => rfl
        | panicked chain => obtain ⟨x, u, hx, _⟩ := c4; cases hx
        | outgrown => exact c4.elim
      rcases hpc with ⟨⟨fn, hfn, hbody, hname⟩, hcalls⟩ | ⟨u, w', hrun, hpost⟩
      · have hb : fn.body ≠ none := by intro hfb; rw [hfb] at hbody; cases hbody
        have hname' : fn.name ≠ "runtime.NumGoroutine" := by simpa using hname
        have : (callFunc id (args.toList.map a.eval ++ vs).toArray).run P w = .ok (.enter id (args.toList.map a.eval ++ vs).toArray) w := by
          simp [callFunc, hfn, hname', hb]
        rw [erun, this, Oper.upon_enter]
        refine hcalls.mono fun e w' hpost => ?_
        have := done e w' hpost
        cases e <;> exact this
      · rw [erun, hrun, Oper.upon_value]
        exact done (.returned u) w' hpost
    · exact hq.elim
  · split at hq
    · rename_i c r hpe
      obtain ⟨hc, rfl, rfl⟩ := hq
      obtain ⟨z, h1, h2⟩ := evP_ok hD h.sl h.sr { dst := dst, op := op, type := ty, pos := pos, after := after, guard := guard } hpe hc
      rw [h1, Oper.upon_value]
      refine hn _ _ M ψ (by
        have := h.set (dst := dst) h2 (okDst_lt hd)
        cases dst <;> exact this) fun _ _ => rfl
    · exact hq.elim
end
end
section
set_option maxRecDepth 4000
def plainOp : Op → Bool
  | .alloc _ => false
  | .box _ _ => false
  | .buildSlice _ _ _ => false
  | .call ⟨.value _, _, _⟩ => false
  | _ => true
def isNew (cfg : Cfg) (o : Oper) : Option Nat := match o.op with
  | .alloc _ => o.dst.bind fun k => if cfg.fz k then none else some k
  | .box _ _ => o.dst.bind fun k => if cfg.fz k then none else some k
  | _ => none
def evQs (P : Program) (D : Types) (cfg : Cfg) (all : List Oper) : List Nat → AS → (AS → Prop) → Prop
  | [], s, K => K s
  | q :: r, s, K =>
    match all[q]? with
    | none => False
    | some o => okDst cfg.N o.dst = true ∧
      match o.guard with
      | none => ∃ v ob, QV P D cfg o s v ob ∧ (ob.isSome = true → ∀ k, o.dst = some k → lookL s.L k = none) ∧ evQs P D cfg all r (s.add o.dst v ob) K
      | some (j, want) =>
        match guardSlot all j with
        | some d =>
          match lookS s.S d with
          | .v (.bool b) => guardB b want (∃ v ob, QV P D cfg o (s.set (some d) (.v (.bool want))) v ob ∧ (ob.isSome = true → ∀ k, o.dst = some k → lookL s.L k = none) ∧ evQs P D cfg all r ((s.set (some d) (.v (.bool want))).add o.dst v ob) K) (evQs P D cfg all r ((s.set (some d) (.v (.bool (!want)))).add o.dst (.v undef) none) K)
          | x => x.isUnd = true ∧ evQs P D cfg all r (s.add o.dst (.v undef) none) K
        | none => False
def LateOk (D : Types) (all : List Oper) (s s' : AS) : List Nat → Prop
  | [] => True
  | i :: r => (match all[i]? with
    | some o => o.guard = none ∧ plainOp o.op = true ∧ (match o.dst with
      | some k => lookS s'.S k = lookS s.S k
      | none => False) ∧ evP D s'.S s'.g o.op = evP D s.S s.g o.op
    | none => False) ∧ LateOk D all s s' r
def evTs (P : Program) (D : Types) (cfg : Cfg) (all : List Oper) (late : List Nat) (Kp : AV → AS → Prop) (K : AS → Prop) : List Nat → AS → Prop
  | [], s => K s
  | t :: r, s =>
    match all[t]? with
    | none => False
    | some o => o.guard = none ∧ evOp P D cfg o s Kp fun s' => LateOk D all s s' late ∧ evTs P D cfg all late Kp K r s'
def QC (P : Program) (D : Types) (cfg : Cfg) (all : List Oper) (s : AS) (o : Oper) : Prop :=
  okDst cfg.N o.dst = true ∧ ∃ k b, o.dst = some k ∧ Wanted all s o b ∧ (b = true → ∃ ob, QV P D cfg o s (lookS s.S k) ob ∧ ∀ cs, ob = some cs → lookL s.L k = some cs) ∧ (b = false → lookS s.S k = .v undef)
def newKs (cfg : Cfg) (all : List Oper) (qs : List Nat) : List Nat :=
  qs.filterMap fun q => (all[q]?).bind fun o => match o.op with
    | .alloc _ => o.dst.bind fun k => if cfg.fz k then none else some k
    | .box _ _ => o.dst.bind fun k => if cfg.fz k then none else some k
    | _ => none
def AS.pre (s : AS) : List Nat → AS
  | [] => s
  | k :: r => AS.pre { S := renS s.S k, L := renL s.L k, H := s.H } r
section
variable {P : Program} {D : Types} (hD : Types.ok P D) {E : Ent} {cfg : Cfg} {M : Imm} {ψ : Psi} {s : AS} {a : Act} {w : World}
theorem QV_new {o : Oper} {v : AV} {ob : Option (List AV)} (h : QV P D cfg o s v ob) : (∀ cs, ob = some cs → ∃ k, o.dst = some k ∧ isNew cfg o = some k) ∧ (ob = none → isNew cfg o = none) := by
  have hqn : ∀ {dst : Option Nat} {cs : List AV}, QN cfg dst cs v ob → (∀ ds, ob = some ds → ∃ k, dst = some k ∧ (dst.bind fun k => if cfg.fz k then none else some k) = some k) ∧ (ob = none → (dst.bind fun k => if cfg.fz k then none else some k) = none) := by
    intro dst cs h
    unfold QN at h
    split at h
    · rename_i k
      split at h
      · rename_i hf
        obtain ⟨_, _, rfl⟩ := h
        exact ⟨fun _ e => (by cases e), fun _ => (by simp [hf])⟩
      · rename_i hf
        obtain ⟨_, rfl⟩ := h
        exact ⟨fun _ _ => ⟨k, rfl, (by simp [hf])⟩, fun e => (by cases e)⟩
    · exact h.elim
  unfold QV at h
  unfold isNew
  split at h
  · rename_i t ho
    rw [ho]
    split at h
    · exact hqn h
    · exact h.elim
  · rename_i t x ho
    rw [ho]
    split at h
    · exact hqn h
    · exact h.elim
  · rename_i t len parts ho
    rw [ho]
    split at h
    · split at h
      · split at h
        · obtain ⟨_, _, _, rfl, _⟩ := h
          exact ⟨fun _ e => (by cases e), fun _ => rfl⟩
        · exact h.elim
      · exact h.elim
    · exact h.elim
  · rename_i f args ts ho
    rw [ho]
    split at h
    · obtain ⟨_, rfl, _⟩ := h
      exact ⟨fun _ e => (by cases e), fun _ => rfl⟩
    · exact h.elim
  · rename_i op h1 h2 h3 h4
    split at h
    · obtain ⟨_, _, rfl⟩ := h
      refine ⟨fun _ e => (by cases e), fun _ => ?_⟩
      split
      · rename_i e; exact absurd e (h1 _)
      · rename_i e; exact absurd e (h2 _ _)
      · rfl
    · exact h.elim
theorem QV_congr {o : Oper} {s s' : AS} {v : AV} {ob : Option (List AV)} (hS : ∀ t, Operand.tmp t ∈ o.op.operands.toList → lookS s.S t = lookS s'.S t) (hH : s'.H = s.H)
    (hg : ∀ x l off cs, x ∈ o.op.operands.toList → evA s'.S x = .p l off → s.g l = some cs → s'.g l = some cs) (h : QV P D cfg o s v ob) : QV P D cfg o s' v ob := by
  have A := evA_congr hS
  unfold QV at h ⊢
  split at h
  · rename_i t ho; exact h
  · rename_i t x ho
    rw [← A x (by rw [ho]; simp [Op.operands])]
    exact h
  · rename_i t len parts ho
    have : (parts.toList.map fun e => (e.1, evA s'.S e.2)) = parts.toList.map fun e => (e.1, evA s.S e.2) := by
      apply List.map_congr_left
      intro e he
      rw [A e.2 (by rw [ho]; simp [Op.operands]; exact ⟨e.1, by simpa using he⟩)]
    rw [this]
    exact h
  · rename_i f args ts ho
    have h1 := A f (by rw [ho]; simp [Op.operands, Call.operands])
    have h2 : args.toList.map (evA s.S) = args.toList.map (evA s'.S) := by
      apply List.map_congr_left
      intro e he
      exact A e (by rw [ho]; simp [Op.operands, Call.operands]; exact .inr (by simpa using he))
    rw [← h1, ← h2, hH]
    exact h
  · split at h
    · rename_i c r hpe
      have e1 : evP D s'.S s.g o.op = some (c, r) := by rw [← evP_congr o.op hS]; exact hpe
      have e2 := evP_mono hg e1
      rw [e2]
      exact h
    · exact h.elim
theorem Wanted_bool {all : List Oper} {o : Oper} {s : AS} {j d : Nat} {want b : Bool} (hg : o.guard = some (j, want)) (hd : guardSlot all j = some d) (hb : lookS s.S d = .v (.bool b)) : Wanted all s o (b == want) := by
  unfold Wanted
  split
  · rename_i h; rw [hg] at h; cases h
  · rename_i j' want' h
    rw [hg] at h
    cases h
    split
    · rename_i d' h'
      rw [hd] at h'
      cases h'
      split
      · rename_i t h''; rw [hb] at h''; cases h''; rfl
      · rename_i hne; exact absurd hb (hne b)
    · rename_i h'; rw [hd] at h'; cases h'
theorem Wanted_congr {all : List Oper} {o : Oper} {s s' : AS} {b : Bool} (hS : ∀ t ∈ looks all o, lookS s'.S t = lookS s.S t) (h : Wanted all s o b) : Wanted all s' o b := by
  unfold Wanted at h ⊢
  split at h
  · exact h
  · rename_i j want hg
    split at h
    · rename_i d hd
      rw [hS d (by simp [looks, hg, hd])]
      exact h
    · exact h.elim
theorem At.pre (h : At E cfg.N M ψ s a w) : ∀ (ks : List Nat) (s : AS) (ψ : Psi), At E cfg.N M ψ s a w → ∃ ψ', At E cfg.N M ψ' (s.pre ks) a w ∧ (∀ k ∈ ks, ψ' (.l k) = none ∧ lookL (s.pre ks).L k = none) ∧ (∀ k, ψ (.l k) = none → ψ' (.l k) = none) ∧ ∀ k, lookL s.L k = none → lookL (s.pre ks).L k = none := by
  intro ks
  induction ks with
  | nil => intro s ψ h; exact ⟨ψ, h, by simp, fun _ h => h, fun _ h => h⟩
  | cons k r ih =>
    intro s ψ h
    have h1 : At E cfg.N M (ψ.put k none) { S := renS s.S k, L := renL s.L k, H := s.H } a w := by
      refine ⟨?_, ?_, h.sl.ren k none, h.n, h.d⟩
      · have := h.since.drop k; show Since _ _ _ _ _ _ (mkG (renL s.L k) s.H) _; rw [mkG_renL]; exact this
      · have := h.sr.drop k; show SR _ _ (mkG (renL s.L k) s.H) _; rw [mkG_renL]; exact this
    obtain ⟨ψ', g1, g2, g3, g4⟩ := ih _ _ h1
    have hk0 : lookL (renL s.L k) k = none := by rw [lookL_renL]; simp
    refine ⟨ψ', g1, ?_, fun j hj => g3 j ?_, fun j hj => g4 j ?_⟩
    · intro j hj
      rcases List.mem_cons.1 hj with rfl | hj
      · exact ⟨g3 _ (by simp [Psi.put]), g4 _ hk0⟩
      · exact g2 j hj
    · simp only [Psi.put]; split
      · rfl
      · exact hj
    · rw [lookL_renL]; split
      · rfl
      · rw [hj]; rfl
theorem lookS_add (s : AS) (k : Nat) (v : AV) (ob : Option (List AV)) (j : Nat) : lookS (s.add (some k) v ob).S j = if j = k then v else lookS s.S j := by
  cases ob <;> exact lookS_setS s.S k v j
theorem H_add (s : AS) (d : Option Nat) (v : AV) (ob : Option (List AV)) : (s.add d v ob).H = s.H := by
  cases d <;> cases ob <;> rfl
theorem lookL_add (s : AS) (k : Nat) (v : AV) (ob : Option (List AV)) (j : Nat) : lookL (s.add (some k) v ob).L j = match ob with
    | some cs => if j = k then some cs else lookL s.L j
    | none => lookL s.L j := by
  cases ob <;> rfl
theorem g_add (s : AS) (k : Nat) (v : AV) (ob : Option (List AV)) (hf : ob.isSome = true → lookL s.L k = none) (l : Loc) (cs : List AV) (h : s.g l = some cs) : (s.add (some k) v ob).g l = some cs := by
  cases l with
  | h n => cases ob <;> exact h
  | l j =>
    show lookL (s.add (some k) v ob).L j = some cs
    have h' : lookL s.L j = some cs := h
    rw [lookL_add]
    cases ob with
    | none => exact h'
    | some ds =>
      simp only
      split
      · rename_i e; subst e; rw [hf rfl] at h'; cases h'
      · exact h'
theorem mem_looks {all : List Oper} {o : Oper} {t : Nat} (h : Operand.tmp t ∈ o.op.operands.toList) : t ∈ looks all o := by
  simp only [looks, List.mem_append, List.mem_filterMap]
  exact .inl ⟨.tmp t, h, rfl⟩
theorem QC.add {all : List Oper} {o : Oper} (h : QC P D cfg all s o) {k' : Nat} {v : AV} {ob : Option (List AV)} (h1 : k' ∉ looks all o) (h2 : o.dst ≠ some k') (hf : ob.isSome = true → lookL s.L k' = none) : QC P D cfg all (s.add (some k') v ob) o := by
  obtain ⟨hd, k, b, hk, hw, ht, hn⟩ := h
  have hne : k ≠ k' := fun e => h2 (by rw [hk, e])
  have hS : ∀ t ∈ looks all o, lookS (s.add (some k') v ob).S t = lookS s.S t := fun t ht => by
    rw [lookS_add]
    split
    · rename_i e; subst e; exact absurd ht h1
    · rfl
  refine ⟨hd, k, b, hk, Wanted_congr hS hw, fun hb => ?_, fun hb => ?_⟩
  · obtain ⟨ob', q1, q2⟩ := ht hb
    refine ⟨ob', ?_, fun cs hcs => ?_⟩
    · rw [lookS_add, if_neg hne]
      exact QV_congr (fun t h => (hS t (mem_looks h)).symm) (H_add _ _ _ _) (fun x l off cs _ _ hg => g_add s k' v ob hf l cs hg) q1
    · have := g_add s k' v ob hf (.l k) cs (q2 cs hcs)
      exact this
  · rw [lookS_add, if_neg hne]; exact hn hb
def Apart (all : List Oper) (q q' : Nat) : Prop := ∀ o o' k', all[q]? = some o → all[q']? = some o' → o'.dst = some k' → k' ∉ looks all o ∧ o.dst ≠ some k'
theorem QC.same {all : List Oper} {o : Oper} {s s' : AS} (h : QC P D cfg all s o) (hS : ∀ j, lookS s'.S j = lookS s.S j) (hL : s'.L = s.L) (hH : s'.H = s.H) : QC P D cfg all s' o := by
  obtain ⟨hd, k, b, hk, hw, ht, hn⟩ := h
  refine ⟨hd, k, b, hk, Wanted_congr (fun t _ => hS t) hw, fun hb => ?_, fun hb => by rw [hS]; exact hn hb⟩
  obtain ⟨ob, q1, q2⟩ := ht hb
  refine ⟨ob, ?_, fun cs hcs => by rw [hL]; exact q2 cs hcs⟩
  rw [hS]
  refine QV_congr (fun t _ => (hS t).symm) hH (fun x l off cs _ _ hg => ?_) q1
  cases l with
  | l j => show lookL s'.L j = _; rw [hL]; exact hg
  | h n => show s'.H n = _; rw [hH]; exact hg
theorem evQs_ok {all : List Oper} {K : AS → Prop} : ∀ (r done : List Nat) (s : AS), evQs P D cfg all r s K → (∀ q ∈ done, ∃ o, all[q]? = some o ∧ QC P D cfg all s o) → (∀ q ∈ done, ∀ q' ∈ r, Apart all q q') → r.Pairwise (Apart all) → (∀ q ∈ r, ∃ o k, all[q]? = some o ∧ o.dst = some k ∧ k ∉ looks all o) →
    ∃ s0, (K s0 ∧ s0.H = s.H ∧ (∀ j, (∀ q ∈ r, ∀ o, all[q]? = some o → o.dst ≠ some j) → lookS s0.S j = lookS s.S j) ∧ ∀ j, (∀ q ∈ r, ∀ o, all[q]? = some o → isNew cfg o ≠ some j) → lookL s0.L j = lookL s.L j) ∧ ∀ q ∈ done ++ r, ∃ o, all[q]? = some o ∧ QC P D cfg all s0 o := by
  intro r
  induction r with
  | nil => intro done s h hd _ _ _; exact ⟨s, ⟨h, rfl, fun _ _ => rfl, fun _ _ => rfl⟩, by simpa using hd⟩
  | cons q r ih =>
    intro done s h hd hap hpw hdst
    obtain ⟨o, k, ho, hk, hkl⟩ := hdst q (by simp)
    simp only [evQs, ho] at h
    obtain ⟨hok, h⟩ := h
    obtain ⟨hq, hpw'⟩ := List.pairwise_cons.1 hpw
    have step : ∀ (s : AS), (∀ q ∈ done, ∃ o, all[q]? = some o ∧ QC P D cfg all s o) → ∀ (v : AV) (ob : Option (List AV)) (b : Bool), (ob.isSome = true → lookL s.L k = none) → Wanted all s o b → (b = true → QV P D cfg o s v ob) → (b = false → v = .v undef) → (b = false → ob = none) → evQs P D cfg all r (s.add (some k) v ob) K →
        ∃ s0, (K s0 ∧ s0.H = s.H ∧ (∀ j, (∀ q' ∈ q :: r, ∀ o, all[q']? = some o → o.dst ≠ some j) → lookS s0.S j = lookS s.S j) ∧ ∀ j, (∀ q' ∈ q :: r, ∀ o, all[q']? = some o → isNew cfg o ≠ some j) → lookL s0.L j = lookL s.L j) ∧ ∀ q' ∈ done ++ q :: r, ∃ o, all[q']? = some o ∧ QC P D cfg all s0 o := by
      intro s hd v ob b hf hw hv hu hnb hev
      have hS : ∀ t ∈ looks all o, lookS (s.add (some k) v ob).S t = lookS s.S t := fun t ht => by
        rw [lookS_add]
        split
        · rename_i e; subst e; exact absurd ht hkl
        · rfl
      have hself : QC P D cfg all (s.add (some k) v ob) o := by
        refine ⟨hok, k, b, hk, Wanted_congr hS hw, fun hb => ⟨ob, ?_, fun cs hcs => ?_⟩, fun hb => ?_⟩
        · rw [lookS_add, if_pos rfl]
          exact QV_congr (fun t h => (hS t (mem_looks h)).symm) (H_add _ _ _ _) (fun x l off cs _ _ hg => g_add s k v ob hf l cs hg) (hv hb)
        · rw [lookL_add, hcs]; simp
        · rw [lookS_add, if_pos rfl]; exact hu hb
      obtain ⟨s0, ⟨h1, hH, hSS, hLL⟩, h2⟩ := ih (done ++ [q]) (s.add (some k) v ob) hev (by
          intro q' hq'
          rcases List.mem_append.1 hq' with hq' | hq'
          · obtain ⟨o', ho', hqc⟩ := hd q' hq'
            obtain ⟨a1, a2⟩ := hap q' hq' q (by simp) o' o k ho' ho hk
            exact ⟨o', ho', hqc.add a1 a2 hf⟩
          · simp at hq'; subst hq'; exact ⟨o, ho, hself⟩)
        (by
          intro q' hq' q'' hq''
          rcases List.mem_append.1 hq' with hq' | hq'
          · exact hap q' hq' q'' (by simp [hq''])
          · simp at hq'; subst hq'; exact hq q'' hq'') hpw' (fun q' hq' => hdst q' (by simp [hq']))
      refine ⟨s0, ⟨h1, by rw [hH, H_add], fun j hj => ?_, fun j hj => ?_⟩, fun q' hq' => h2 q' (by simpa using hq')⟩
      · rw [hSS j fun q' hq' => hj q' (by simp [hq']), lookS_add, if_neg]
        rintro rfl
        exact hj q (by simp) o ho hk
      · rw [hLL j fun q' hq' => hj q' (by simp [hq']), lookL_add]
        cases ob with
        | none => rfl
        | some cs =>
          simp only
          rw [if_neg]
          rintro rfl
          cases b with
          | false => cases hnb rfl
          | true =>
            obtain ⟨k', e1, e2⟩ := (QV_new (hv rfl)).1 cs rfl
            rw [hk] at e1; cases e1
            exact hj q (by simp) o ho e2
    split at h
    · rename_i hg
      obtain ⟨v, ob, h1, h2, h3⟩ := h
      rw [hk] at h3
      exact step s hd v ob true (fun hs => h2 hs k hk) (by simp [Wanted, hg]) (fun _ => h1) (fun e => by cases e) (fun e => by cases e) h3
    · rename_i j want hg
      split at h
      · rename_i d hd'
        split at h
        · rename_i b hb
          have hwt : Wanted all s o (b == want) := Wanted_bool hg hd' hb
          have same : ∀ c, b = c → ∀ j, lookS (s.set (some d) (.v (.bool c))).S j = lookS s.S j := by
            intro c hc j
            show lookS (setS s.S d _) j = _
            rw [lookS_setS]
            split
            · rename_i e; subst e; rw [hb, hc]
            · rfl
          have conv : ∀ c, b = c → (∃ s0, (K s0 ∧ s0.H = (s.set (some d) (.v (.bool c))).H ∧ (∀ j, (∀ q' ∈ q :: r, ∀ o, all[q']? = some o → o.dst ≠ some j) → lookS s0.S j = lookS (s.set (some d) (.v (.bool c))).S j) ∧ ∀ j, (∀ q' ∈ q :: r, ∀ o, all[q']? = some o → isNew cfg o ≠ some j) → lookL s0.L j = lookL (s.set (some d) (.v (.bool c))).L j) ∧ ∀ q' ∈ done ++ q :: r, ∃ o, all[q']? = some o ∧ QC P D cfg all s0 o) →
              ∃ s0, (K s0 ∧ s0.H = s.H ∧ (∀ j, (∀ q' ∈ q :: r, ∀ o, all[q']? = some o → o.dst ≠ some j) → lookS s0.S j = lookS s.S j) ∧ ∀ j, (∀ q' ∈ q :: r, ∀ o, all[q']? = some o → isNew cfg o ≠ some j) → lookL s0.L j = lookL s.L j) ∧ ∀ q' ∈ done ++ q :: r, ∃ o, all[q']? = some o ∧ QC P D cfg all s0 o := by
            rintro c hc ⟨s0, ⟨e1, e2, e3, e4⟩, e5⟩
            exact ⟨s0, ⟨e1, e2, fun j hj => (e3 j hj).trans (same c hc j), e4⟩, e5⟩
          have hdc : ∀ c, b = c → ∀ q ∈ done, ∃ o, all[q]? = some o ∧ QC P D cfg all (s.set (some d) (.v (.bool c))) o := by
            intro c hc q' hq'
            obtain ⟨o', ho', hqc⟩ := hd q' hq'
            exact ⟨o', ho', hqc.same (same c hc) rfl rfl⟩
          by_cases hbw : b = want
          · obtain ⟨v, ob, h1, h2, h3⟩ := h.1 hbw
            rw [hk] at h3
            exact conv want hbw (step _ (hdc want hbw) v ob true (fun hs => h2 hs k hk) (Wanted_congr (fun t _ => same want hbw t) (by rw [show (b == want) = true from by rw [hbw]; cases want <;> rfl] at hwt; exact hwt)) (fun _ => h1) (fun e => by cases e) (fun e => by cases e) h3)
          · have hb2 : b = !want := by cases b <;> cases want <;> first | rfl | exact absurd rfl hbw
            have h3 := h.2 hb2
            rw [hk] at h3
            exact conv (!want) hb2 (step _ (hdc (!want) hb2) _ none false (fun e => by cases e) (Wanted_congr (fun t _ => same (!want) hb2 t) (by rw [show (b == want) = false from by cases b <;> cases want <;> first | rfl | exact absurd rfl hbw] at hwt; exact hwt)) (fun e => by cases e) (fun _ => rfl) (fun _ => rfl) h3)
        · rename_i x hne
          obtain ⟨hu, h3⟩ := h
          rw [hk] at h3
          refine step s hd _ none false (fun e => by cases e) ?_ (fun e => by cases e) (fun _ => rfl) (fun _ => rfl) h3
          unfold Wanted
          simp only [hg, hd']
          exact ⟨hu, by trivial⟩
      · exact h.elim
def Sim (X : Nat → Bool) (s s' : AS) : Prop := s.L = s'.L ∧ s.H = s'.H ∧ ∀ j, lookS s.S j = if X j then .dead else lookS s'.S j
theorem Sim.min (X : Nat → Bool) (s : AS) : Sim X { s with S := minS s.S X } s := ⟨rfl, rfl, fun j => lookS_minS s.S X j⟩
theorem Sim.g {X : Nat → Bool} {s s' : AS} (h : Sim X s s') : s.g = s'.g := by unfold AS.g; rw [h.1, h.2.1]
theorem Sim.set {X : Nat → Bool} {s s' : AS} (h : Sim X s s') {dst : Option Nat} (hd : ∀ k, dst = some k → X k = false) (v : AV) : Sim X (s.set dst v) (s'.set dst v) := by
  cases dst with
  | none => exact h
  | some k =>
    refine ⟨h.1, h.2.1, fun j => ?_⟩
    simp only [AS.set, lookS_setS]
    split
    · rename_i e; subst e; rw [hd _ rfl]; rfl
    · exact h.2.2 j
theorem Sim.obj {X : Nat → Bool} {s s' : AS} (h : Sim X s s') (l : Loc) (cs : List AV) : Sim X (s.obj l cs) (s'.obj l cs) := by
  cases l with
  | l k => exact ⟨by simp only [AS.obj]; rw [h.1], h.2.1, h.2.2⟩
  | h n => exact ⟨h.1, by simp only [AS.obj]; rw [h.2.1], h.2.2⟩
theorem Sim.new {X : Nat → Bool} {s s' : AS} (h : Sim X s s') (k : Nat) (cs : List AV) : Sim X (s.new k cs) (s'.new k cs) := by
  refine ⟨by simp only [AS.new]; rw [h.1], h.2.1, fun j => ?_⟩
  simp only [AS.new, lookS_renS, h.2.2 j]
  split <;> rfl
theorem Sim.heap {X : Nat → Bool} {s s' : AS} (h : Sim X s s') (H : Heap) : Sim X { s with H := H } { s' with H := H } := ⟨h.1, rfl, h.2.2⟩
theorem evOp_sim {o : Oper} {X : Nat → Bool} {s' : AS} (hs : Sim X s' s) (hX : ∀ t, Operand.tmp t ∈ o.op.operands.toList → X t = false) (hd : ∀ k, o.dst = some k → X k = false) {Kp : AV → AS → Prop} {K : AS → Prop} (h : evOp P D cfg o s Kp K) :
    evOp P D cfg o s' (fun x r => ∃ r', Kp x r' ∧ r.L = r'.L ∧ r.H = r'.H) (fun r => ∃ r', K r' ∧ Sim X r r') := by
  have hS : ∀ t, Operand.tmp t ∈ o.op.operands.toList → lookS s'.S t = lookS s.S t := fun t ht => by rw [hs.2.2, hX t ht]; rfl
  have A := evA_congr hS
  have hg := hs.g
  have hnewC : ∀ dst cs, (∀ k, dst = some k → X k = false) → newCells cfg s dst cs K → newCells cfg s' dst cs (fun r => ∃ r', K r' ∧ Sim X r r') := by
    intro dst cs hd h
    unfold newCells at h ⊢
    split at h
    · rename_i k
      split at h
      · rename_i hf
        simp only [hf, if_true]
        exact ⟨h.1, _, h.2, hs.set hd _⟩
      · rename_i hf
        simp only [hf, if_false, Bool.false_eq_true]
        exact ⟨_, h, (hs.new k _).set hd _⟩
    · exact h.elim
  have hnewS : ∀ dst es m cs, (∀ k, dst = some k → X k = false) → newSl cfg s dst es m cs K → newSl cfg s' dst es m cs (fun r => ∃ r', K r' ∧ Sim X r r') := by
    intro dst es m cs hd h
    unfold newSl at h ⊢
    split at h
    · rename_i k
      split at h
      · rename_i hf
        simp only [hf, if_true]
        exact ⟨h.1, _, h.2, hs.set hd _⟩
      · rename_i hf
        simp only [hf, if_false, Bool.false_eq_true]
        exact ⟨_, h, (hs.new k _).set hd _⟩
    · exact h.elim
  have fb : (match evP D s.S s.g o.op with
    | some (c, r) => c ∧ K (s.set o.dst r)
    | none => False) → (match evP D s'.S s'.g o.op with
    | some (c, r) => c ∧ (fun r => ∃ r', K r' ∧ Sim X r r') (s'.set o.dst r)
    | none => False) := by
    intro h
    rw [evP_congr (S' := s.S) (g := s'.g) (D := D) _ hS, hg]
    split at h
    · exact ⟨h.1, _, h.2, hs.set hd _⟩
    · exact h.elim
  obtain ⟨dst, op, ty, pos, after, guard⟩ := o
  unfold evOp at h ⊢
  simp only at h hd A fb ⊢
  obtain ⟨h0, h⟩ := h
  refine ⟨h0, ?_⟩
  cases op
  case store t x v =>
    simp only [Op.operands] at A
    have ax := A x (by simp)
    have av := A v (by simp)
    simp only [ax, av, hg] at h ⊢
    split at h
    · rename_i l off ds d e1 e2 e3
      try simp only [e1, e2, e3]
      split at h
      · rename_i cs e4
        try simp only [e4]
        exact ⟨h.1, h.2.1, h.2.2.1, _, h.2.2.2, (hs.obj l _).set hd _⟩
      · exact h.elim
    · exact h.elim
  case alloc t =>
    dsimp only at h ⊢
    split at h
    · rename_i d e1
      try simp only [e1]
      exact hnewC _ _ hd h
    · exact h.elim
  case box t v =>
    simp only [Op.operands] at A
    have av := A v (by simp)
    dsimp only at h ⊢
    rw [av]
    split at h
    · rename_i ds e1
      try simp only [e1]
      exact hnewC _ _ hd h
    · exact h.elim
  case buildSlice t len parts =>
    have : (parts.toList.map fun e => (e.1, evA s'.S e.2)) = parts.toList.map fun e => (e.1, evA s.S e.2) := by
      apply List.map_congr_left
      intro e he
      rw [A e.2 (by simp [Op.operands]; exact ⟨e.1, by simpa using he⟩)]
    dsimp only at h ⊢
    rw [this]
    split at h
    · rename_i e1
      try simp only [e1]
      split at h
      · rename_i e2
        try simp only [e2]
        split at h
        · rename_i e3
          try simp only [e3]
          refine ⟨h.1, h.2.1, h.2.2.1, ?_⟩
          have h := h.2.2.2
          split at h
          · rename_i h0; rw [if_pos h0]; exact ⟨_, h, hs.set hd _⟩
          · rename_i h0; rw [if_neg h0]; exact hnewS _ _ _ _ hd h
        · exact h.elim
      · exact h.elim
    · exact h.elim
  case panic x =>
    simp only [Op.operands] at A
    have ax := A x (by simp)
    simp only [ax] at h ⊢
    split at h
    · exact ⟨_, h, hs.1, hs.2.1⟩
    · exact h.elim
  case call c =>
    obtain ⟨callee, args, ts⟩ := c
    cases callee with
    | value f =>
      have h1 := A f (by simp [Op.operands, Call.operands])
      have h2 : args.toList.map (evA s'.S) = args.toList.map (evA s.S) := by
        apply List.map_congr_left
        intro e he
        exact A e (by simp [Op.operands, Call.operands]; exact .inr (by simpa using he))
      simp only [h1, h2, hs.2.1] at h ⊢
      split at h
      · rename_i id caps e1
        refine ⟨h.1, h.2.mono fun r H' hr => ?_⟩
        cases r with
        | ret v => exact ⟨_, hr, (hs.heap H').set hd v⟩
        | panic v => exact ⟨_, hr, hs.1, rfl⟩
      · exact h.elim
    | invoke r m => simp only [evP] at h
    | builtin b =>
      cases b
      case append =>
        have h2 : ∀ x ∈ args.toList, evA s'.S x = evA s.S x := fun x hx => A x (by simp [Op.operands, Call.operands]; simpa using hx)
        dsimp only at h ⊢
        split at h
        · rename_i x y t t' ex et
          have ax := h2 x (by rw [ex]; simp)
          have ay := h2 y (by rw [ex]; simp)
          rw [ax, ay, hg]
          split at h
          rotate_left
          · rename_i htt
            rw [if_neg htt]
            split at h
            · split at h
              · refine ⟨h.1, h.2.1, ?_⟩
                have h := h.2.2
                split at h
                · split at h
                  · exact ⟨h.1, h.2.1, h.2.2.1, h.2.2.2.1, h.2.2.2.2.1, h.2.2.2.2.2.1, h.2.2.2.2.2.2.1, hnewS _ _ _ _ hd h.2.2.2.2.2.2.2⟩
                  · exact h.elim
                · exact h.elim
              · exact h.elim
            · exact h.elim
          rename_i htt
          rw [if_pos htt]
          split at h
          · split at h
            · refine ⟨h.1, h.2.1, ?_⟩
              have h := h.2.2
              split at h
              · refine ⟨h.1, ?_⟩
                have h := h.2
                split at h
                · exact ⟨h.1, h.2.1, hnewS _ _ _ _ hd h.2.2⟩
                · split at h
                  · exact ⟨h.1, h.2.1, h.2.2.1, h.2.2.2.1, _, h.2.2.2.2, (hs.new _ _).set hd _⟩
                  · exact h.elim
                · rw [show s'.H = s.H from hs.2.1]
                  split at h
                  · exact ⟨h.1, h.2.1, h.2.2.1, h.2.2.2.1, h.2.2.2.2.1, fun k' hk' => ⟨_, h.2.2.2.2.2 k' hk', (hs.heap _).set hd _⟩⟩
                  · exact h.elim
                · split at h
                  · exact ⟨h.1, h.2.1, h.2.2.1, h.2.2.2.1, _, h.2.2.2.2, (hs.obj _ _).set hd _⟩
                  · exact h.elim
                · exact h.elim
              · exact h.elim
            · exact h.elim
          · exact h.elim
        · exact h.elim
      case clear =>
        have h2 : ∀ x ∈ args.toList, evA s'.S x = evA s.S x := fun x hx => A x (by simp [Op.operands, Call.operands]; simpa using hx)
        dsimp only at h ⊢
        split at h
        · rename_i x t ex et
          have ax := h2 x (by rw [ex]; simp)
          rw [ax, hg]
          split at h
          · split at h
            · refine ⟨h.1, ?_⟩
              have h := h.2
              split at h
              · split at h
                · exact ⟨h.1, h.2.1, _, h.2.2, (hs.obj _ _).set hd _⟩
                · exact h.elim
              · exact ⟨h.1, _, h.2, hs.set hd _⟩
              · exact h.elim
            · exact h.elim
          · exact h.elim
        · exact h.elim
      case copy =>
        have h2 : ∀ x ∈ args.toList, evA s'.S x = evA s.S x := fun x hx => A x (by simp [Op.operands, Call.operands]; simpa using hx)
        dsimp only at h ⊢
        split at h
        · rename_i x y t t' ex et
          have ax := h2 x (by rw [ex]; simp)
          have ay := h2 y (by rw [ex]; simp)
          rw [ax, ay, hg]
          split at h
          · split at h
            · split at h
              · refine ⟨h.1, ?_⟩
                have h := h.2
                split at h
                · split at h
                  · exact ⟨h.1, h.2.1, h.2.2.1, _, h.2.2.2, (hs.obj _ _).set hd _⟩
                  · exact h.elim
                · exact h.elim
              · exact h.elim
            · exact h.elim
          · exact h.elim
        · exact h.elim
      all_goals exact fb h
  case binOp bop t x y ty' =>
    have nil : ∀ (h : match evNil D t (evA s.S x) with
          | some f => ∀ b, f b → K (s.set dst (.v (.bool b)))
          | none => False), (match evNil D t (evA s'.S x) with
          | some f => ∀ b, f b → ∃ r', K r' ∧ Sim X (s'.set dst (.v (.bool b))) r'
          | none => False) := by
      intro h
      rw [A x (by simp [Op.operands])]
      split at h
      · exact fun b hb => ⟨_, h b hb, hs.set hd _⟩
      · exact h.elim
    cases bop
    case eql =>
      cases y
      case const v =>
        cases v
        case slice b n c =>
          cases b
          case none =>
            cases n
            case zero =>
              cases c
              case zero => exact nil h
              case succ => exact fb h
            case succ => exact fb h
          case some => exact fb h
        all_goals exact fb h
      all_goals exact fb h
    all_goals exact fb h
  all_goals exact fb h
end
end
end Go.Eng
