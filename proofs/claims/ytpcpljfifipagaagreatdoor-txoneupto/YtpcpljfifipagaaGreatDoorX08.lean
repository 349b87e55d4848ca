/- A part of the proof: the engine that walks Go code, the walks of the broker, or their laws (TvEngQ TvEngR TvEngS TvEngT). -/
import Derived.Test.YtpcpljfifipagaaGreatDoorX07
set_option linter.unusedSimpArgs false
set_option linter.unusedVariables false
namespace Go.Eng
section
set_option maxRecDepth 4000
def drawOk2 (cfg : Cfg) (ops : List Oper) (qs late : List Nat) : Bool :=
  (late.all fun q => match ops[q]? with
    | some o => plainOp o.op && o.guard.isNone
    | none => false) &&
  (qs.all fun q => match ops[q]? with
    | some o => (isNew cfg o).isNone || o.guard.isNone
    | none => false) &&
  ((List.range qs.length).all fun i => (List.range i).all fun j => decide (qs.getD j 0 < qs.getD i 0))
structure DF (cfg : Cfg) (ops : List Oper) (qs ts late : List Nat) : Prop where
  part : ∀ i, i < ops.length → (i ∈ qs ∨ i ∈ ts)
  excl : ∀ i, i ∈ qs → i ∉ ts
  ltq : ∀ i ∈ qs, i < ops.length
  ltt : ∀ i ∈ ts, i < ops.length
  dst : ∀ (i j : Nat) (a b : Oper) (x y : Nat), i ≠ j → ops[i]? = some a → ops[j]? = some b → a.dst = some x → b.dst = some y → x ≠ y
  rd : ∀ (i j : Nat) (a b : Oper) (y : Nat), i ≠ j → ops[i]? = some a → ops[j]? = some b → b.dst = some y → y ∈ looks ops a → bef (masks ops) i j = true
  own : ∀ (i : Nat) (a : Oper) (y : Nat), ops[i]? = some a → a.dst = some y → y ∉ looks ops a
  qt : ∀ q ∈ qs, ∀ t ∈ ts, q ∈ late ∨ bef (masks ops) t q = true
  tt : ∀ (i j : Nat), i < ts.length → j < i → bef (masks ops) (ts.getD i 0) (ts.getD j 0) = true
  dir : ∀ (i : Nat) (a : Oper), ops[i]? = some a → ∀ j ∈ dirs a, j < i
  qd : ∀ q ∈ qs, ∃ o k, ops[q]? = some o ∧ o.dst = some k
  pl : ∀ q ∈ late, ∀ o, ops[q]? = some o → plainOp o.op = true ∧ o.guard = none
  nw : ∀ q ∈ qs, ∀ o, ops[q]? = some o → isNew cfg o ≠ none → o.guard = none
  inc : ∀ (i j : Nat), i < qs.length → j < i → qs.getD j 0 < qs.getD i 0
theorem DF.of {cfg : Cfg} {ops : List Oper} {qs ts late : List Nat} (h1 : drawOk ops qs ts late = true) (h2 : drawOk2 cfg ops qs late = true) : DF cfg ops qs ts late := by
  unfold drawOk at h1
  unfold drawOk2 at h2
  simp only [Bool.and_eq_true, List.all_eq_true, List.mem_range, decide_eq_true_eq] at h1 h2
  obtain ⟨⟨⟨⟨⟨⟨⟨c1, c2⟩, c3⟩, c4⟩, c5⟩, c6⟩, c7⟩, c8⟩ := h1
  obtain ⟨⟨d1, d2⟩, d3⟩ := h2
  have lt_of : ∀ (i : Nat) (a : Oper), ops[i]? = some a → i < ops.length := by
    intro i a h
    rcases Nat.lt_or_ge i ops.length with h' | h'
    · exact h'
    · rw [List.getElem?_eq_none h'] at h; cases h
  have ltq : ∀ i ∈ qs, i < ops.length := fun i hi => c2 i (List.mem_append.2 (.inl hi))
  have ltt : ∀ i ∈ ts, i < ops.length := fun i hi => c2 i (List.mem_append.2 (.inr hi))
  refine ⟨?_, ?_, ltq, ltt, ?_, ?_, ?_, ?_, fun i j h1 h2 => c6 i h1 j h2, ?_, ?_, ?_, ?_, fun i j h1 h2 => d3 i h1 j h2⟩
  · intro i hi
    have := c1 i hi
    by_cases hq : i ∈ qs
    · exact .inl hq
    · right
      simpa [hq] using this
  · intro i hi ht
    have := c1 i (ltq i hi)
    simp [hi, ht] at this
  · intro i j a b x y hne ha hb hx hy
    have := c3 i (lt_of i a ha) j (lt_of j b hb)
    simp only [ha, hb, hx, hy, Bool.or_eq_true, Bool.and_eq_true, bne_iff_ne, beq_iff_eq] at this
    rcases this with h | h
    · exact absurd h hne
    · exact h.1
  · intro i j a b y hne ha hb hy hl
    have := c3 i (lt_of i a ha) j (lt_of j b hb)
    simp only [ha, hb, hy, Bool.or_eq_true, Bool.and_eq_true, beq_iff_eq] at this
    rcases this with h | h
    · exact absurd h hne
    · have h := h.2
      rw [if_pos (by simpa using hl)] at h
      exact h
  · intro i a y ha hy
    have := c4 i (lt_of i a ha)
    simp only [ha, hy] at this
    simpa using this
  · intro q hq t ht
    have := (c5 q hq t ht).2
    rw [Bool.or_eq_true] at this
    exact this.imp (fun h => by simpa using h) id
  · intro i a ha j hj
    have := c7 i (lt_of i a ha)
    simp only [ha, List.all_eq_true, decide_eq_true_eq] at this
    exact this j hj
  · intro q hq
    have := c8 q hq
    split at this
    · rename_i a ha
      obtain ⟨k, hk⟩ := Option.isSome_iff_exists.1 this
      exact ⟨a, k, ha, hk⟩
    · cases this
  · intro q hq o ho
    have := d1 q hq
    simp only [ho, Bool.and_eq_true, Option.isNone_iff_eq_none] at this
    exact this
  · intro q hq o ho hn
    have := d2 q hq
    simp only [ho, Bool.or_eq_true, Option.isNone_iff_eq_none] at this
    rcases this with h | h
    · exact absurd h hn
    · exact h
theorem bef_lt {cfg : Cfg} {ops : List Oper} {qs ts late : List Nat} (F : DF cfg ops qs ts late) : ∀ (i j : Nat) (o : Oper), ops[i]? = some o → bef (masks ops) i j = true → j < i := by
  intro i
  induction i using Nat.strongRecOn with
  | _ i ih =>
    intro j o ho hb
    obtain ⟨m, hm, rfl | ⟨hlt, hb'⟩⟩ := (masks_spec ops).2 i o ho j hb
    · exact F.dir i o ho _ hm
    · have hml : m < ops.length := by
        have : i < ops.length := by
          rcases Nat.lt_or_ge i ops.length with h | h
          · exact h
          · rw [List.getElem?_eq_none h] at ho; cases ho
        omega
      have := ih m hlt j ops[m] (List.getElem?_eq_getElem hml) hb'
      omega
theorem DF.apart {cfg : Cfg} {ops : List Oper} {qs ts late : List Nat} (F : DF cfg ops qs ts late) : qs.Pairwise (Apart ops) := by
  rw [List.pairwise_iff_getElem]
  intro i j hi hj hij o o' k' ho ho' hk'
  have hlt : qs[i] < qs[j] := by
    have := F.inc j i hj hij
    simpa [List.getD_eq_getElem?_getD, hi, hj] using this
  refine ⟨fun hl => ?_, fun hd => ?_⟩
  · have := bef_lt F _ _ o ho (F.rd _ _ o o' k' (by omega) ho ho' hk' hl)
    omega
  · exact F.dst _ _ o o' k' k' (by omega) ho ho' hd hk' rfl
theorem minL_false (L : List (Nat × List AV)) (Y : Nat → Bool) (h : ∀ k, Y k = false) : minL L Y = L := by
  induction L with
  | nil => rfl
  | cons e r ih => obtain ⟨j, x⟩ := e; simp [minL, h, ih]
theorem minS_false (S : Slots) (Y : Nat → Bool) (h : ∀ k, Y k = false) : minS S Y = S := by
  induction S with
  | nil => rfl
  | cons e r ih => obtain ⟨j, x⟩ := e; simp [minS, h, ih]
section
variable {P : Program} {D : Types} (hD : Types.ok P D) {E : Ent} {cfg : Cfg} {M : Imm} {ψ : Psi} {s : AS} {a : Act} {w : World} {Q : AX → AS → Prop}
theorem QV_plain {o : Oper} {v : AV} {ob : Option (List AV)} (hp : plainOp o.op = true) : QV P D cfg o s v ob = (match evP D s.S s.g o.op with
    | some (c, r) => c ∧ v = r ∧ ob = none
    | none => False) := by
  obtain ⟨dst, op, ty, pos, after, guard⟩ := o
  simp only at hp ⊢
  unfold QV
  cases op
  case alloc => cases hp
  case box => cases hp
  case buildSlice => cases hp
  case call c =>
    obtain ⟨callee, args, ts⟩ := c
    cases callee
    · cases hp
    · rfl
    · rfl
  all_goals rfl
def Xof (all : List Oper) (qs : List Nat) (li : Nat → Bool) (k : Nat) : Bool := qs.any fun q => !li q && (all[q]?.bind (·.dst) == some k)
def Yof (cfg : Cfg) (all : List Oper) (qs : List Nat) (li : Nat → Bool) (k : Nat) : Bool := qs.any fun q => !li q && (all[q]?.bind (isNew cfg) == some k)
theorem Xof_true {all : List Oper} {qs : List Nat} {li : Nat → Bool} {k : Nat} : Xof all qs li k = true ↔ ∃ q ∈ qs, li q = false ∧ ∃ o, all[q]? = some o ∧ o.dst = some k := by
  simp [Xof, List.any_eq_true, Option.bind_eq_some_iff]
theorem Yof_true {all : List Oper} {qs : List Nat} {li : Nat → Bool} {k : Nat} : Yof cfg all qs li k = true ↔ ∃ q ∈ qs, li q = false ∧ ∃ o, all[q]? = some o ∧ isNew cfg o = some k := by
  simp [Yof, List.any_eq_true, Option.bind_eq_some_iff]
theorem isNew_dst {o : Oper} {k : Nat} (h : isNew cfg o = some k) : o.dst = some k := by
  unfold isNew at h
  split at h
  · simp only [Option.bind_eq_some_iff] at h
    obtain ⟨j, h1, h2⟩ := h
    split at h2 <;> simp_all
  · simp only [Option.bind_eq_some_iff] at h
    obtain ⟨j, h1, h2⟩ := h
    split at h2 <;> simp_all
  · cases h
theorem wpOp_wanted {ops : Array Oper} {i : Nat} {o : Oper} (ho : ops[i]? = some o) (h : At E cfg.N M ψ s a w) {b : Bool} (hw : Wanted ops.toList s o b) {K : Act → World → Prop} {QQ : Exit → Act → World → Prop}
    (ht : b = true → o.wp P a w K QQ) (hf : b = false → K (a.put o.dst undef) w) : wpOp P ops QQ i K a w := by
  unfold wpOp
  simp only [ho]
  have hwant : Region.wanted o (yielded ops a.tmps) = b := by
    unfold Wanted at hw
    split at hw
    · rename_i hg
      simp [Region.wanted, hg, hw]
    · rename_i j want hg
      split at hw
      · rename_i d hd
        have hy : ((ops[j]?).bind (·.dst)) = some d := by simpa [guardSlot] using hd
        have hrep := h.sl.look d
        split at hw
        · rename_i t hb
          rw [hb] at hrep
          simp only [Rep] at hrep
          have hyl : yielded ops a.tmps j = some t := by
            unfold yielded
            rw [hy]
            simp [getElem?_of_getD hrep]
          simp only [Region.wanted, hg, hyl, hw]
          cases t <;> cases want <;> rfl
        · rename_i x hne
          obtain ⟨hu, rfl⟩ := hw
          have hyl : yielded ops a.tmps j = none := by
            unfold yielded
            rw [hy]
            generalize lookS s.S d = x at *
            unfold AV.isUnd at hu
            split at hu
            · simp only [Rep] at hrep
              rw [Array.getD_eq_getD_getElem?] at hrep
              simp only [Option.bind_some]
              cases hh : a.tmps[d]? with
              | none => rfl
              | some v => rw [hh] at hrep; simp at hrep; subst hrep; rfl
            · cases hu
          simp [Region.wanted, hg, hyl]
      · exact hw.elim
  rw [hwant]
  cases b
  · exact hf rfl
  · exact .inl (ht rfl)
theorem mem_newKs {all : List Oper} {qs : List Nat} {k : Nat} : k ∈ newKs cfg all qs ↔ ∃ q ∈ qs, ∃ o, all[q]? = some o ∧ isNew cfg o = some k := by
  unfold newKs
  rw [List.mem_filterMap]
  constructor
  · rintro ⟨q, hq, h⟩
    rw [Option.bind_eq_some_iff] at h
    obtain ⟨o, ho, h⟩ := h
    exact ⟨q, hq, o, ho, h⟩
  · rintro ⟨q, hq, o, ho, h⟩
    refine ⟨q, hq, ?_⟩
    rw [Option.bind_eq_some_iff]
    exact ⟨o, ho, h⟩
theorem LateOk_mem {all : List Oper} {s s' : AS} {late : List Nat} (h : LateOk D all s s' late) {q : Nat} (hq : q ∈ late) : ∃ o k, all[q]? = some o ∧ o.dst = some k ∧ lookS s'.S k = lookS s.S k ∧ evP D s'.S s'.g o.op = evP D s.S s.g o.op := by
  induction late with
  | nil => cases hq
  | cons i r ih =>
    unfold LateOk at h
    obtain ⟨h1, h2⟩ := h
    rcases List.mem_cons.1 hq with rfl | hq
    · split at h1
      · rename_i o ho
        obtain ⟨_, _, h3, h4⟩ := h1
        split at h3
        · rename_i k hk
          exact ⟨o, k, ho, hk, h3, h4⟩
        · exact h3.elim
      · exact h1.elim
    · exact ih h2 hq
theorem QC.late {all : List Oper} {o : Oper} {s s' : AS} (h : QC P D cfg all s o) (hp : plainOp o.op = true) (hg : o.guard = none) {k : Nat} (hk : o.dst = some k) (h1 : lookS s'.S k = lookS s.S k) (h2 : evP D s'.S s'.g o.op = evP D s.S s.g o.op) : QC P D cfg all s' o := by
  obtain ⟨hd, k', b, hk', hw, ht, hn⟩ := h
  obtain rfl : k = k' := by rw [hk] at hk'; cases hk'; rfl
  have hb : b = true := by simpa [Wanted, hg] using hw
  subst hb
  refine ⟨hd, k, true, hk, by simp [Wanted, hg], fun _ => ?_, fun e => (by cases e)⟩
  obtain ⟨ob, q1, _⟩ := ht rfl
  rw [QV_plain hp] at q1
  refine ⟨none, ?_, fun cs e => (by cases e)⟩
  rw [QV_plain hp, h1, h2]
  split at q1
  · exact ⟨q1.1, q1.2.1, rfl⟩
  · exact q1.elim
section
variable {ops : Array Oper} {qs ts late : List Nat}
structure Inv (P : Program) (D : Types) (E : Ent) (cfg : Cfg) (Q : AX → AS → Prop) (ops : Array Oper) (qs late : List Nat) (listed : Array Bool) (rest : List Nat) (M : Imm) (ψ : Psi) (s : AS) (a : Act) (w : World) : Prop where
  size : listed.size = ops.size
  closed : Closed ops.toList fun i => listed.getD i false
  rest0 : ∀ t ∈ rest, listed.getD t false = false
  ev : evTs P D cfg ops.toList late (fun x s => Q (.panic x) s) (Q .normal) rest s
  qc : ∀ q ∈ qs, listed.getD q false = false → ∃ o, ops.toList[q]? = some o ∧ QC P D cfg ops.toList s o
  fresh : ∀ q ∈ qs, listed.getD q false = false → ∀ o k, ops.toList[q]? = some o → isNew cfg o = some k → ψ (.l k) = none
  at_ : At E cfg.N M ψ (s.min (Xof ops.toList qs fun i => listed.getD i false) (Yof cfg ops.toList qs fun i => listed.getD i false)) a w
theorem count_set {l : List Bool} {i : Nat} (h : l[i]? = some false) : (l.set i true).count false + 1 = l.count false := by
  induction l generalizing i with
  | nil => simp at h
  | cons b l ih =>
    cases i with
    | zero => simp at h; subst h; simp
    | succ i =>
      simp only [List.getElem?_cons_succ] at h
      have := ih h
      simp only [List.set_cons_succ, List.count_cons]
      omega
theorem getD_set {listed : Array Bool} {i j : Nat} (hi : i < listed.size) : (listed.setIfInBounds i true).getD j false = (decide (j = i) || listed.getD j false) := by
  by_cases h : i = j
  · subst h
    simp [hi]
  · rw [getD_set_ne false h]
    simp [Ne.symm h]
theorem Inv.closed_set {P : Program} {D : Types} {E : Ent} {cfg : Cfg} {Q : AX → AS → Prop} {listed : Array Bool} {rest : List Nat} {M : Imm} {ψ : Psi} {s : AS} {a : Act} {w : World}
    (I : Inv P D E cfg Q ops qs late listed rest M ψ s a w) {i : Nat} {o : Oper} (ho : ops[i]? = some o) (hi : i < listed.size) (hd : ∀ j ∈ dirs o, listed.getD j false = true) : Closed ops.toList fun j => (listed.setIfInBounds i true).getD j false := by
  intro m om hom hm j hj
  simp only [getD_set hi, Bool.or_eq_true, decide_eq_true_eq] at hm ⊢
  right
  rcases hm with rfl | hm
  · have : om = o := by
      rw [← Array.getElem?_toList] at ho
      rw [ho] at hom; cases hom; rfl
    subst this
    exact hd j hj
  · exact I.closed m om hom hm j hj
include hD in
theorem draw_go (F : DF cfg ops.toList qs ts late) : ∀ (fuel : Nat) (listed : Array Bool) (done rest : List Nat) (M : Imm) (ψ : Psi) (s : AS) (a : Act) (w : World),
    listed.toList.count false ≤ fuel → ts = done ++ rest → (∀ t ∈ done, listed.getD t false = true) → Inv P D E cfg Q ops qs late listed rest M ψ s a w → wpAny P .any ops (QR E cfg.N Q) fuel listed a w := by
  intro fuel
  induction fuel with
  | zero =>
    intro listed done rest M ψ s a w hf hts hdone I
    have hall : ∀ i, i < ops.size → listed.getD i false = true := by
      intro i hi
      have hi' : i < listed.size := by rw [I.size]; exact hi
      have h0 := List.count_eq_zero.1 (Nat.le_zero.1 hf)
      have : listed[i] ≠ false := fun e => h0 (by rw [← e]; simp)
      simpa [hi'] using this
    have hX : ∀ k, Xof ops.toList qs (fun i => listed.getD i false) k = false := by
      intro k
      rw [Bool.eq_false_iff]
      intro h
      obtain ⟨q, hq, hl, _⟩ := Xof_true.1 h
      rw [hall q (by simpa using F.ltq q hq)] at hl; cases hl
    have hY : ∀ k, Yof cfg ops.toList qs (fun i => listed.getD i false) k = false := by
      intro k
      rw [Bool.eq_false_iff]
      intro h
      obtain ⟨q, hq, hl, _⟩ := Yof_true.1 h
      rw [hall q (by simpa using F.ltq q hq)] at hl; cases hl
    have hr : rest = [] := by
      cases rest with
      | nil => rfl
      | cons t r =>
        have := I.rest0 t (by simp)
        rw [hall t (by simpa using F.ltt t (by rw [hts]; simp))] at this; cases this
    subst hr
    refine ⟨?_, M, ψ, s, ?_, I.ev⟩
    · rw [List.eq_nil_iff_forall_not_mem]
      intro i hi
      obtain ⟨h0, o, ho, _⟩ := mem_ready.1 hi
      have hlt : i < ops.size := (Array.getElem?_eq_some_iff.1 ho).1
      have h1 := hall i hlt
      have hi' : i < listed.size := by rw [I.size]; exact hlt
      simp [hi'] at h0 h1
      rw [h0] at h1; cases h1
    · have := I.at_
      unfold AS.min at this
      rw [minS_false _ _ hX, minL_false _ _ hY] at this
      exact this
  | succ fuel ih =>
    intro listed done rest M ψ s a w hf hts hdone I
    refine ⟨fun hempty => ?_, fun i hi => ?_⟩
    ·
      have hall : ∀ i, i < ops.size → listed.getD i false = true := by
        intro i
        induction i using Nat.strongRecOn with
        | _ i ihi =>
          intro hi
          by_cases hl : listed.getD i false = true
          · exact hl
          · exfalso
            have hi' : i < listed.size := by rw [I.size]; exact hi
            have : i ∈ Region.ready .any ops listed := by
              rw [mem_ready]
              refine ⟨by simpa [hi'] using hl, ops[i], by simp [hi], fun e he hb => ?_⟩
              have hmem : e.on ∈ dirs ops[i] := by
                unfold dirs
                exact List.mem_map.2 ⟨e, List.mem_filter.2 ⟨by simpa using he, hb⟩, rfl⟩
              have hlt := F.dir i ops[i] (by simp [hi]) _ hmem
              exact ihi e.on hlt (by omega)
            rw [hempty] at this
            cases this
      have hX : ∀ k, Xof ops.toList qs (fun i => listed.getD i false) k = false := by
        intro k
        rw [Bool.eq_false_iff]
        intro h
        obtain ⟨q, hq, hl, _⟩ := Xof_true.1 h
        rw [hall q (by simpa using F.ltq q hq)] at hl; cases hl
      have hY : ∀ k, Yof cfg ops.toList qs (fun i => listed.getD i false) k = false := by
        intro k
        rw [Bool.eq_false_iff]
        intro h
        obtain ⟨q, hq, hl, _⟩ := Yof_true.1 h
        rw [hall q (by simpa using F.ltq q hq)] at hl; cases hl
      have hr : rest = [] := by
        cases rest with
        | nil => rfl
        | cons t r =>
          have := I.rest0 t (by simp)
          rw [hall t (by simpa using F.ltt t (by rw [hts]; simp))] at this; cases this
      subst hr
      refine ⟨M, ψ, s, ?_, I.ev⟩
      have := I.at_
      unfold AS.min at this
      rw [minS_false _ _ hX, minL_false _ _ hY] at this
      exact this
    ·
      obtain ⟨h0, o, ho, hafter⟩ := mem_ready.1 hi
      have hlt : i < ops.size := (Array.getElem?_eq_some_iff.1 ho).1
      have hi' : i < listed.size := by rw [I.size]; exact hlt
      have hli : listed.getD i false = false := by simpa [hi'] using h0
      have ho' : ops.toList[i]? = some o := by simpa using ho
      have hdirs : ∀ j ∈ dirs o, listed.getD j false = true := by
        intro j hj
        unfold dirs at hj
        obtain ⟨e, he, rfl⟩ := List.mem_map.1 hj
        obtain ⟨he, hb⟩ := List.mem_filter.1 he
        exact hafter e (by simpa using he) hb
      have hbef : ∀ j, bef (masks ops.toList) i j = true → listed.getD j false = true := fun j hb => I.closed.mask i o ho' hdirs j hb
      have hcl := I.closed_set ho hi' hdirs
      have hcount : (listed.setIfInBounds i true).toList.count false ≤ fuel := by
        have : listed.toList[i]? = some false := by
          have : listed[i] = false := by simpa [hi'] using hli
          simp [hi', this]
        have := count_set this
        simp only [Array.toList_setIfInBounds]
        omega
      have hsz : (listed.setIfInBounds i true).size = ops.size := by simp [I.size]
      have hld : ∀ j, (listed.setIfInBounds i true).getD j false = (decide (j = i) || listed.getD j false) := fun j => getD_set hi'
      have hlook : ∀ t ∈ looks ops.toList o, Xof ops.toList qs (fun i => listed.getD i false) t = false := by
        intro t ht
        rw [Bool.eq_false_iff]
        intro h
        obtain ⟨q, hq, hl, oq, hoq, hdq⟩ := Xof_true.1 h
        by_cases hqi : i = q
        · subst hqi
          rw [ho'] at hoq; cases hoq
          exact F.own i o t ho' hdq ht
        · have := hbef q (F.rd i q o oq t hqi ho' hoq hdq ht)
          rw [hl] at this; cases this
      rcases F.part i (by simpa using hlt) with hq | ht
      ·
        obtain ⟨o2, ho2, hqc⟩ := I.qc i hq hli
        rw [ho'] at ho2; cases ho2
        obtain ⟨hd, k, b, hk, hw, htr, hfa⟩ := hqc
        have hSm : ∀ t ∈ looks ops.toList o, lookS (s.min (Xof ops.toList qs fun i => listed.getD i false) (Yof cfg ops.toList qs fun i => listed.getD i false)).S t = lookS s.S t := by
          intro t ht
          show lookS (minS _ _) t = _
          rw [lookS_minS, hlook t ht]; rfl
        have hXi : ∀ j, Xof ops.toList qs (fun m => (listed.setIfInBounds i true).getD m false) j = (decide (j ≠ k) && Xof ops.toList qs (fun i => listed.getD i false) j) := by
          intro j
          rw [Bool.eq_iff_iff, Bool.and_eq_true, Xof_true, Xof_true, decide_eq_true_eq]
          constructor
          · rintro ⟨q, hq', hl, oq, hoq, hdq⟩
            simp only [hld, Bool.or_eq_false_iff, decide_eq_false_iff_not] at hl
            refine ⟨fun e => ?_, q, hq', hl.2, oq, hoq, hdq⟩
            subst e
            exact F.dst q i oq o j j hl.1 hoq ho' hdq hk rfl
          · rintro ⟨hne, q, hq', hl, oq, hoq, hdq⟩
            refine ⟨q, hq', ?_, oq, hoq, hdq⟩
            simp only [hld, Bool.or_eq_false_iff, decide_eq_false_iff_not]
            refine ⟨fun e => ?_, hl⟩
            subst e
            rw [ho'] at hoq; cases hoq
            rw [hk] at hdq; cases hdq
            exact hne rfl
        have hYi : ∀ j, Yof cfg ops.toList qs (fun m => (listed.setIfInBounds i true).getD m false) j = (decide (isNew cfg o ≠ some j) && Yof cfg ops.toList qs (fun i => listed.getD i false) j) := by
          intro j
          rw [Bool.eq_iff_iff, Bool.and_eq_true, Yof_true, Yof_true, decide_eq_true_eq]
          constructor
          · rintro ⟨q, hq', hl, oq, hoq, hdq⟩
            simp only [hld, Bool.or_eq_false_iff, decide_eq_false_iff_not] at hl
            refine ⟨fun e => ?_, q, hq', hl.2, oq, hoq, hdq⟩
            exact F.dst q i oq o j j hl.1 hoq ho' (isNew_dst hdq) (isNew_dst e) rfl
          · rintro ⟨hne, q, hq', hl, oq, hoq, hdq⟩
            refine ⟨q, hq', ?_, oq, hoq, hdq⟩
            simp only [hld, Bool.or_eq_false_iff, decide_eq_false_iff_not]
            refine ⟨fun e => ?_, hl⟩
            subst e
            rw [ho'] at hoq; cases hoq
            exact hne hdq
        have after : ∀ (v : AV) (ob : Option (List AV)) (M' : Imm) (ψ' : Psi) (a' : Act) (w' : World), lookS s.S k = v → (∀ cs, ob = some cs → isNew cfg o = some k ∧ lookL s.L k = some cs) → (ob = none → isNew cfg o = none) →
            At E cfg.N M' ψ' ((s.min (Xof ops.toList qs fun i => listed.getD i false) (Yof cfg ops.toList qs fun i => listed.getD i false)).add (some k) v ob) a' w' → (∀ j, (ob.isSome = true → j ≠ k) → ψ' (.l j) = ψ (.l j)) →
            wpAny P .any ops (QR E cfg.N Q) fuel (listed.setIfInBounds i true) a' w' := by
          intro v ob M' ψ' a' w' hv hob hob' hat hψ
          refine ih _ done rest M' ψ' s a' w' hcount hts (fun t ht => by rw [hld, hdone t ht]; simp) ⟨hsz, hcl, fun t ht => ?_, I.ev, fun q hq' hl => ?_, fun q hq' hl oq kq hoq hkq => ?_, ?_⟩
          · rw [hld, I.rest0 t ht]
            have : t ≠ i := fun e => F.excl i hq (by rw [hts, ← e]; simp [ht])
            simp [this]
          · rw [hld, Bool.or_eq_false_iff] at hl
            exact I.qc q hq' hl.2
          · rw [hld, Bool.or_eq_false_iff, decide_eq_false_iff_not] at hl
            rw [hψ kq fun _ e => F.dst q i oq o kq k hl.1 hoq ho' (isNew_dst hkq) hk e]
            exact I.fresh q hq' hl.2 oq kq hoq hkq
          · refine hat.congr (fun j => ?_) ?_
            · left
              show lookS (minS _ _) j = _
              rw [lookS_minS, hXi, lookS_add]
              show _ = if j = k then v else lookS (minS _ _) j
              rw [lookS_minS]
              by_cases hj : j = k
              · subst hj; simp [hv]
              · simp [hj]
            · funext l
              cases l with
              | h n => cases ob <;> rfl
              | l j =>
                show lookL (minL _ _) j = lookL (AS.add _ _ _ _).L j
                rw [lookL_minL, hYi, lookL_add]
                cases ob with
                | none =>
                  rw [hob' rfl]
                  show _ = lookL (minL _ _) j
                  rw [lookL_minL]
                  simp
                | some cs =>
                  obtain ⟨h1, h2⟩ := hob cs rfl
                  rw [h1]
                  show _ = if j = k then some cs else lookL (minL _ _) j
                  rw [lookL_minL]
                  by_cases hj : j = k
                  · subst hj; simp [h2]
                  · have : k ≠ j := Ne.symm hj
                    simp [hj, this]
        refine wpOp_wanted ho I.at_ (Wanted_congr hSm hw) (fun hb => ?_) (fun hb => ?_)
        · subst hb
          obtain ⟨ob, hqv, hcs⟩ := htr rfl
          obtain ⟨n1, n2⟩ := QV_new hqv
          have hob : ∀ cs, ob = some cs → isNew cfg o = some k ∧ lookL s.L k = some cs := by
            intro cs hc
            obtain ⟨k', h1, h2⟩ := n1 cs hc
            rw [hk] at h1; cases h1
            exact ⟨h2, hcs cs hc⟩
          have hqv' := QV_congr (s' := s.min (Xof ops.toList qs fun i => listed.getD i false) (Yof cfg ops.toList qs fun i => listed.getD i false)) (fun t ht => (hSm t (mem_looks ht)).symm) rfl (by
            intro x l off cs hx hev hg
            cases l with
            | h n => exact hg
            | l j =>
              show lookL (minL _ _) j = _
              rw [lookL_minL]
              have hrep := Rep.evA I.at_.sl x
              rw [hev] at hrep
              simp only [Rep] at hrep
              obtain ⟨li, hli', _⟩ := hrep
              have : Yof cfg ops.toList qs (fun i => listed.getD i false) j = false := by
                rw [Bool.eq_false_iff]
                intro h
                obtain ⟨q, hq', hl, oq, hoq, hkq⟩ := Yof_true.1 h
                rw [I.fresh q hq' hl oq j hoq hkq] at hli'
                cases hli'
              rw [this]
              exact hg) hqv
          refine QV_ok hD I.at_ o hd hqv' (fun k' hk' hs => ?_) (fun a' w' M' ψ' hat hψ => ?_)
          · rw [hk] at hk'; cases hk'
            obtain ⟨cs, hc⟩ := Option.isSome_iff_exists.1 hs
            obtain ⟨h1, h2⟩ := hob cs hc
            refine ⟨I.fresh i hq hli o k ho' h1, ?_⟩
            show lookL (minL _ _) k = none
            rw [lookL_minL, Yof_true.2 ⟨i, hq, hli, o, ho', h1⟩]
            rfl
          · rw [hk] at hat
            refine after _ ob M' ψ' a' w' rfl hob n2 hat fun j hj => hψ j fun k' hk' hs => ?_
            rw [hk] at hk'; cases hk'
            exact hj hs
        · subst hb
          have hnn : isNew cfg o = none := by
            by_cases hn : isNew cfg o = none
            · exact hn
            · have hg := F.nw i hq o ho' hn
              unfold Wanted at hw
              simp only [hg] at hw
              cases hw
          have hat := I.at_.set (dst := o.dst) (rep_v M ψ undef) (okDst_lt hd)
          rw [hk] at hat ⊢
          refine after (.v undef) none M ψ _ w (hfa rfl) (fun cs e => (by cases e)) (fun _ => hnn) hat fun _ _ => rfl
      ·
        obtain ⟨t, r, rfl⟩ : ∃ t r, rest = t :: r := by
          cases rest with
          | nil =>
            have := hdone i (by simpa [hts] using ht)
            rw [hli] at this; cases this
          | cons t r => exact ⟨t, r, rfl⟩
        have hit : i = t := by
          rw [hts] at ht
          rcases List.mem_append.1 ht with ht | ht
          · have := hdone i ht
            rw [hli] at this; cases this
          · rcases List.mem_cons.1 ht with rfl | ht
            · rfl
            · exfalso
              obtain ⟨m, hm, rfl⟩ := List.mem_iff_getElem.1 ht
              have hlen : ts.length = done.length + (r.length + 1) := by rw [hts]; simp
              have e1 : ts.getD (done.length + (m + 1)) 0 = r[m] := by
                rw [hts, List.getD_eq_getElem?_getD, List.getElem?_append_right (by omega)]
                simp [hm]
              have e2 : ts.getD done.length 0 = t := by
                rw [hts, List.getD_eq_getElem?_getD, List.getElem?_append_right (by omega)]
                simp
              have := F.tt (done.length + (m + 1)) done.length (by omega) (by omega)
              rw [e1, e2] at this
              have := hbef t this
              rw [I.rest0 t (by simp)] at this; cases this
        subst hit
        have hev := I.ev
        simp only [evTs, ho'] at hev
        obtain ⟨hg, hev⟩ := hev
        have hlate : ∀ q ∈ qs, listed.getD q false = false → q ∈ late := by
          intro q hq hl
          rcases F.qt q hq i ht with h | h
          · exact h
          · rw [hbef q h] at hl; cases hl
        have hY : ∀ k, Yof cfg ops.toList qs (fun i => listed.getD i false) k = false := by
          intro k
          rw [Bool.eq_false_iff]
          intro h
          obtain ⟨q, hq, hl, oq, hoq, hkq⟩ := Yof_true.1 h
          have := (F.pl q (hlate q hq hl) oq hoq).1
          unfold isNew at hkq
          split at hkq
          · rename_i e; rw [e] at this; cases this
          · rename_i e; rw [e] at this; cases this
          · cases hkq
        have hsim : Sim (Xof ops.toList qs fun i => listed.getD i false) (s.min (Xof ops.toList qs fun i => listed.getD i false) (Yof cfg ops.toList qs fun i => listed.getD i false)) s := by
          refine ⟨?_, rfl, fun j => lookS_minS s.S _ j⟩
          exact minL_false _ _ hY
        have hXd : ∀ k, o.dst = some k → Xof ops.toList qs (fun i => listed.getD i false) k = false := by
          intro k hk
          rw [Bool.eq_false_iff]
          intro h
          obtain ⟨q, hq, hl, oq, hoq, hkq⟩ := Xof_true.1 h
          exact F.dst q i oq o k k (fun e => F.excl q hq (by rw [e]; exact ht)) hoq ho' hkq hk rfl
        have hev' := evOp_sim hsim (fun t ht => hlook t (mem_looks ht)) hXd hev
        refine wpOp_wanted (b := true) ho I.at_ (by simp [Wanted, hg]) (fun _ => ?_) (fun e => by cases e)
        refine evOp_ok hD I.at_ o hev' ?_ ?_
        · intro x s' M' ψ' v a' w' hat hx hp
          obtain ⟨r', hQ, hL, hH⟩ := hp
          refine ⟨M', ψ', s', r'.S, x, v, hat, rfl, hx, ?_⟩
          obtain ⟨S1, L1, H1⟩ := s'
          obtain ⟨S2, L2, H2⟩ := r'
          cases hL; cases hH
          exact hQ
        · rintro a' w' ⟨M', ψ', s', hat, r', ⟨hl, hr'⟩, hsim'⟩
          have hXi : ∀ j, Xof ops.toList qs (fun m => (listed.setIfInBounds i true).getD m false) j = Xof ops.toList qs (fun i => listed.getD i false) j := by
            intro j
            rw [Bool.eq_iff_iff, Xof_true, Xof_true]
            constructor
            · rintro ⟨q, hq', hl, h⟩
              simp only [hld, Bool.or_eq_false_iff, decide_eq_false_iff_not] at hl
              exact ⟨q, hq', hl.2, h⟩
            · rintro ⟨q, hq', hl, h⟩
              refine ⟨q, hq', ?_, h⟩
              simp only [hld, Bool.or_eq_false_iff, decide_eq_false_iff_not]
              exact ⟨fun e => F.excl q hq' (by rw [e]; exact ht), hl⟩
          refine ih _ (done ++ [i]) r M' ψ' r' a' w' hcount (by rw [hts]; simp) (fun t ht' => ?_) ⟨hsz, hcl, fun t ht' => ?_, hr', fun q hq' hl' => ?_, fun q hq' hl' oq kq hoq hkq => ?_, ?_⟩
          · rcases List.mem_append.1 ht' with h | h
            · rw [hld, hdone t h]; simp
            · simp at h; subst h; rw [hld]; simp
          · rw [hld, I.rest0 t (by simp [ht'])]
            have : t ≠ i := by
              rintro rfl
              obtain ⟨m, hm, he⟩ := List.mem_iff_getElem.1 ht'
              have hlen : ts.length = done.length + (r.length + 1) := by rw [hts]; simp
              have e1 : ts.getD (done.length + (m + 1)) 0 = r[m] := by
                rw [hts, List.getD_eq_getElem?_getD, List.getElem?_append_right (by omega)]
                simp [hm]
              have e2 : ts.getD done.length 0 = t := by
                rw [hts, List.getD_eq_getElem?_getD, List.getElem?_append_right (by omega)]
                simp
              have := F.tt (done.length + (m + 1)) done.length (by omega) (by omega)
              rw [e1, e2, he] at this
              have := bef_lt F _ _ o ho' this
              omega
            simp [this]
          · rw [hld, Bool.or_eq_false_iff] at hl'
            obtain ⟨oq, hoq, hqc⟩ := I.qc q hq' hl'.2
            obtain ⟨p1, p2⟩ := F.pl q (hlate q hq' hl'.2) oq hoq
            obtain ⟨o3, k3, ho3, hk3, e1, e2⟩ := LateOk_mem hl (hlate q hq' hl'.2)
            rw [hoq] at ho3; cases ho3
            exact ⟨oq, hoq, hqc.late p1 p2 hk3 e1 e2⟩
          · exfalso
            rw [hld, Bool.or_eq_false_iff] at hl'
            have := hY kq
            rw [Bool.eq_false_iff] at this
            exact this (Yof_true.2 ⟨q, hq', hl'.2, oq, hoq, hkq⟩)
          · refine hat.congr (fun j => ?_) ?_
            · left
              show lookS (minS _ _) j = _
              rw [lookS_minS, hXi, hsim'.2.2 j]
            · have hY' : ∀ k, Yof cfg ops.toList qs (fun m => (listed.setIfInBounds i true).getD m false) k = false := by
                intro k
                rw [Bool.eq_false_iff]
                intro h
                obtain ⟨q, hq, hl, oq, hoq, hkq⟩ := Yof_true.1 h
                simp only [hld, Bool.or_eq_false_iff] at hl
                have := hY k
                rw [Bool.eq_false_iff] at this
                exact this (Yof_true.2 ⟨q, hq, hl.2, oq, hoq, hkq⟩)
              rw [hsim'.g]
              show mkG (minL _ _) _ = _
              rw [minL_false _ _ hY']
              rfl
end
def evDraw (P : Program) (D : Types) (cfg : Cfg) (ops : List Oper) (qs ts late : List Nat) (s : AS) (Kp : AV → AS → Prop) (K : AS → Prop) : Prop :=
  evQs P D cfg ops qs (s.pre (newKs cfg ops qs)) fun s0 => evTs P D cfg ops late Kp K ts s0
include hD in
theorem J_draw {id : Nat} {ops : Array Oper} (qs ts late : List Nat) (hm : P.follows .mixedOrders = true) (h1 : drawOk ops.toList qs ts late = true) (h2 : drawOk2 cfg ops.toList qs late = true)
    (h : evDraw P D cfg ops.toList qs ts late s (fun x s => Q (.panic x) s) (Q .normal)) : J P E cfg.N (.region id ops true) Q s := by
  intro M ψ a w hat
  have F := DF.of h1 h2
  refine wp_region_any hm ?_
  have hat1 : At E cfg.N M ψ s a { w with drawn := w.drawn + 1 } := hat.drew
  obtain ⟨ψ', hat', g1, g2, g3⟩ := hat1.pre (newKs cfg ops.toList qs) s ψ hat1
  obtain ⟨s0, hts, hqc⟩ := evQs_ok qs [] _ h (by simp) (by simp) F.apart (fun q hq => by
    obtain ⟨o, k, ho, hk⟩ := F.qd q hq
    exact ⟨o, k, ho, hk, F.own q o k ho hk⟩)
  obtain ⟨hts, hH, hS, hL⟩ := hts
  have hfalse : ∀ i, i < ops.size → (Array.replicate ops.size false).getD i false = false := fun i hi => by simp [hi]
  have hall : ∀ i, (Array.replicate ops.size false).getD i false = false := fun i => by
    by_cases hi : i < ops.size <;> simp [hi]
  refine draw_go (qs := qs) (ts := ts) (late := late) hD F _ _ [] ts M ψ' s0 _ _ ?_ rfl (by simp) ⟨by simp, fun i o ho hl => ?_, fun t _ => hall t, hts, fun q hq _ => hqc q hq, fun q hq _ o k ho hk => (g1 k (mem_newKs.2 ⟨q, hq, o, ho, hk⟩)).1, ?_⟩
  · exact Nat.le_trans List.count_le_length (by simp)
  · simp only [hall] at hl; cases hl
  · refine hat'.congr (fun j => ?_) ?_
    · show lookS (minS _ _) j = _ ∨ lookS (minS _ _) j = _
      rw [lookS_minS]
      by_cases hx : Xof ops.toList qs (fun i => (Array.replicate ops.size false).getD i false) j = true
      · right; rw [hx]; rfl
      · left
        rw [if_neg hx]
        refine hS j fun q hq o ho hd => hx (Xof_true.2 ⟨q, hq, hall q, o, ho, hd⟩)
    · funext l
      cases l with
      | h n => show s0.H n = _; rw [hH]; rfl
      | l j =>
        show lookL (minL _ _) j = lookL _ j
        rw [lookL_minL]
        by_cases hy : Yof cfg ops.toList qs (fun i => (Array.replicate ops.size false).getD i false) j = true
        · obtain ⟨q, hq, _, o, ho, hk⟩ := Yof_true.1 hy
          rw [hy, (g1 j (mem_newKs.2 ⟨q, hq, o, ho, hk⟩)).2]
          rfl
        · rw [if_neg hy]
          exact hL j fun q hq o ho hd => hy (Yof_true.2 ⟨q, hq, hall q, o, ho, hd⟩)
end
end
section
mutual
def AV.ren (f : Loc → Option Loc) : AV → AV
  | .p l off => match f l with
    | some l' => .p l' off
    | none => .dead
  | .os l es off n => match f l with
    | some l' => .os l' es off n
    | none => .dead
  | .oc l es off n c => match f l with
    | some l' => .oc l' es off n c
    | none => .dead
  | .agg cs => .agg (AV.renL f cs)
  | .tup cs => .tup (AV.renL f cs)
  | .fn g cs => .fn g (AV.renL f cs)
  | .ifc t x => .ifc t (AV.ren f x)
  | .v x => .v x
  | .dead => .dead
  | .vp cs => .vp cs
  | .sl n cs => .sl n cs
  | .sl0 => .sl0
def AV.renL (f : Loc → Option Loc) : List AV → List AV
  | [] => []
  | c :: cs => AV.ren f c :: AV.renL f cs
end
theorem AV.renL_length (f : Loc → Option Loc) (cs : List AV) : (AV.renL f cs).length = cs.length := by
  induction cs with
  | nil => rfl
  | cons c cs ih => simp [AV.renL, ih]
mutual
theorem Rep.ren {M : Imm} {ψ ψ' : Psi} {f : Loc → Option Loc} (hs : ψ.strip.le ψ'.strip) (hψ : ∀ l l' i, f l = some l' → ψ l = some i → ψ' l' = some i) : ∀ (av : AV) {w : Value}, Rep M ψ av w → Rep M ψ' (av.ren f) w
  | .v x, _, h => by simpa only [AV.ren, Rep] using h
  | .dead, _, _ => by simp only [AV.ren, Rep]
  | .p l off, _, h => by
    simp only [AV.ren]
    split
    · rename_i l' hl
      simp only [Rep] at h ⊢
      obtain ⟨i, h1, h2⟩ := h
      exact ⟨i, hψ _ _ _ hl h1, h2⟩
    · simp only [Rep]
  | .vp cs, _, h => by
    simp only [AV.ren, Rep] at h ⊢
    obtain ⟨b, o, vs, h1, h2, h3⟩ := h
    exact ⟨b, o, vs, h1, h2, RepL.mono (Imm.le_refl M) cs hs h3⟩
  | .sl n cs, _, h => by
    simp only [AV.ren, Rep] at h ⊢
    obtain ⟨a, cap, h1, h2, h3, h4⟩ := h
    refine ⟨a, cap, h1, h2, h3, fun hn => ?_⟩
    obtain ⟨b, o, vs, h5, h6, h7⟩ := h4 hn
    exact ⟨b, o, vs, h5, h6, RepL.mono (Imm.le_refl M) cs hs h7⟩
  | .sl0, _, h => by simpa only [AV.ren, Rep] using h
  | .os l es off n, _, h => by
    simp only [AV.ren]
    split
    · rename_i l' hl
      simp only [Rep] at h ⊢
      rcases h with h | ⟨i, cap, h1, h2⟩
      · exact .inl h
      · exact .inr ⟨i, cap, hψ _ _ _ hl h1, h2⟩
    · simp only [Rep]
  | .oc l es off n c, _, h => by
    simp only [AV.ren]
    split
    · rename_i l' hl
      simp only [Rep] at h ⊢
      obtain ⟨i, h1, h2⟩ := h
      exact ⟨i, hψ _ _ _ hl h1, h2⟩
    · simp only [Rep]
  | .agg cs, _, h => by
    simp only [AV.ren, Rep] at h ⊢
    obtain ⟨vs, h1, h2, h3⟩ := h
    exact ⟨vs, h1, RepL.ren hs hψ cs h2, h3⟩
  | .tup cs, _, h => by
    simp only [AV.ren, Rep] at h ⊢
    obtain ⟨vs, h1, h2⟩ := h
    exact ⟨vs, h1, RepL.ren hs hψ cs h2⟩
  | .fn g cs, _, h => by
    simp only [AV.ren, Rep] at h ⊢
    obtain ⟨vs, h1, h2⟩ := h
    exact ⟨vs, h1, RepL.ren hs hψ cs h2⟩
  | .ifc t x, _, h => by
    simp only [AV.ren, Rep] at h ⊢
    obtain ⟨u, h1, h2⟩ := h
    exact ⟨u, h1, Rep.ren hs hψ x h2⟩
theorem RepL.ren {M : Imm} {ψ ψ' : Psi} {f : Loc → Option Loc} (hs : ψ.strip.le ψ'.strip) (hψ : ∀ l l' i, f l = some l' → ψ l = some i → ψ' l' = some i) : ∀ (cs : List AV) {vs : List Value}, RepL M ψ cs vs → RepL M ψ' (AV.renL f cs) vs
  | [], _, h => by simpa only [AV.renL, RepL] using h
  | c :: cs, _, h => by
    simp only [AV.renL, RepL] at h ⊢
    obtain ⟨u, us, h1, h2, h3⟩ := h
    exact ⟨u, us, h1, Rep.ren hs hψ c h2, RepL.ren hs hψ cs h3⟩
end
def renSf (f : Loc → Option Loc) : Slots → Slots
  | [] => []
  | (j, x) :: r => (j, AV.ren f x) :: renSf f r
def renLf (f : Loc → Option Loc) (k : Nat) : List (Nat × List AV) → List (Nat × List AV)
  | [] => []
  | (j, cs) :: r => if j = k then renLf f k r else (j, AV.renL f cs) :: renLf f k r
theorem lookS_renSf (f : Loc → Option Loc) (S : Slots) (j : Nat) : lookS (renSf f S) j = AV.ren f (lookS S j) := by
  induction S with
  | nil => rfl
  | cons x r ih =>
    obtain ⟨i, a⟩ := x
    simp only [renSf, lookS, ih]
    split <;> rfl
theorem lookL_renLf (f : Loc → Option Loc) (k : Nat) (L : List (Nat × List AV)) (j : Nat) : lookL (renLf f k L) j = if j = k then none else (lookL L j).map (AV.renL f) := by
  induction L with
  | nil => simp [renLf, lookL]
  | cons e r ih =>
    obtain ⟨i, cs⟩ := e
    simp only [renLf]
    by_cases h : i = k
    · subst h
      simp only [if_true, ih, lookL]
      by_cases hj : j = i <;> simp [hj]
    · simp only [if_neg h, lookL, ih]
      by_cases hj : j = i
      · subst hj; simp [h]
      · simp [hj]
def escF (L : List (Nat × List AV)) (k n : Nat) : Loc → Option Loc
  | .l j => if j = k then some (.h n) else if (lookL L j).isSome then some (.l j) else none
  | .h m => some (.h m)
def AS.esc (s : AS) (k n : Nat) (cs : List AV) : AS := { S := renSf (escF s.L k n) s.S, L := renLf (escF s.L k n) k s.L, H := s.H.put n (some cs) }
def adoptF (k n : Nat) : Loc → Option Loc
  | .l j => if j = k then none else some (.l j)
  | .h m => if m = n then some (.l k) else some (.h m)
def AS.adopt (s : AS) (k n : Nat) (cs : List AV) : AS := { S := renSf (adoptF k n) s.S, L := (k, AV.renL (adoptF k n) cs) :: renLf (adoptF k n) k s.L, H := s.H.put n none }
def escPsi (ψ : Psi) (L : List (Nat × List AV)) (k n : Nat) : Psi
  | .l j => if j = k then none else if (lookL L j).isSome then ψ (.l j) else none
  | .h m => if m = n then ψ (.l k) else ψ (.h m)
def adoptPsi (ψ : Psi) (k n : Nat) : Psi
  | .l j => if j = k then ψ (.h n) else ψ (.l j)
  | .h m => ψ (.h m)
section
variable {P : Program} {E : Ent} {N : Nat} {M : Imm} {ψ : Psi} {s : AS} {a : Act} {w : World} {Q : AX → AS → Prop}
theorem At.esc (h : At E N M ψ s a w) {k n : Nat} {cs : List AV} (hk : lookL s.L k = some cs) (hno : AV.noLL cs = true) (hn : ψ (.h n) = none) (hn' : s.H n = none) : ∃ ψ', At E N M ψ' (s.esc k n cs) a w := by
  refine ⟨escPsi ψ s.L k n, ?_⟩
  generalize hψ' : escPsi ψ s.L k n = ψ'
  have p1 : ∀ j, ψ' (.l j) = if j = k then none else if (lookL s.L j).isSome then ψ (.l j) else none := fun j => by rw [← hψ']; rfl
  have p2 : ∀ m, ψ' (.h m) = if m = n then ψ (.l k) else ψ (.h m) := fun m => by rw [← hψ']; rfl
  have hgk : s.g (.l k) = some cs := hk
  have hst : ψ.strip.le ψ'.strip := by
    intro l i hl
    cases l with
    | l j => simp [Psi.strip] at hl
    | h m =>
      show ψ' (.h m) = some i
      rw [p2]
      split
      · rename_i e; subst e; simp only [Psi.strip] at hl; rw [hn] at hl; cases hl
      · exact hl
  have hren : ∀ l l' i, escF s.L k n l = some l' → ψ l = some i → ψ' l' = some i := by
    intro l l' i hl hi
    cases l with
    | l j =>
      simp only [escF] at hl
      split at hl
      · rename_i e; cases hl; subst e; rw [p2, if_pos rfl]; exact hi
      · rename_i e
        split at hl
        · rename_i e2; cases hl; rw [p1, if_neg e, if_pos e2]; exact hi
        · cases hl
    | h m =>
      simp only [escF] at hl
      cases hl
      rw [p2, if_neg (fun e => by subst e; rw [hn] at hi; cases hi)]
      exact hi
  have back : ∀ l i, ψ' l = some i → (∃ j, l = .l j ∧ j ≠ k ∧ (lookL s.L j).isSome = true ∧ ψ (.l j) = some i) ∨ (l = .h n ∧ ψ (.l k) = some i) ∨ ∃ m, l = .h m ∧ m ≠ n ∧ ψ (.h m) = some i := by
    intro l i hl
    cases l with
    | l j =>
      rw [p1] at hl
      split at hl
      · cases hl
      · rename_i e
        split at hl
        · rename_i e2; exact .inl ⟨j, rfl, e, e2, hl⟩
        · cases hl
    | h m =>
      rw [p2] at hl
      split at hl
      · rename_i e; exact .inr (.inl ⟨by rw [e], hl⟩)
      · rename_i e; exact .inr (.inr ⟨m, rfl, e, hl⟩)
  have gl : ∀ j, (s.esc k n cs).g (.l j) = if j = k then none else (lookL s.L j).map (AV.renL (escF s.L k n)) := fun j => lookL_renLf _ _ _ _
  have gh : ∀ m, (s.esc k n cs).g (.h m) = if m = n then some cs else s.H m := fun m => rfl
  have old : ∀ l i, ((s.esc k n cs).g l).isSome → ψ' l = some i → ∃ l0, (s.g l0).isSome ∧ ψ l0 = some i ∧ ((∃ j, l = .l j ∧ j ≠ k ∧ l0 = .l j) ∨ (l = .h n ∧ l0 = .l k) ∨ ∃ m, l = .h m ∧ m ≠ n ∧ l0 = .h m) := by
    intro l i hg hl
    rcases back l i hl with ⟨j, rfl, e1, e2, e3⟩ | ⟨rfl, e3⟩ | ⟨m, rfl, e1, e3⟩
    · exact ⟨.l j, e2, e3, .inl ⟨j, rfl, e1, rfl⟩⟩
    · exact ⟨.l k, by rw [hgk]; rfl, e3, .inr (.inl ⟨rfl, rfl⟩)⟩
    · refine ⟨.h m, ?_, e3, .inr (.inr ⟨m, rfl, e1, rfl⟩)⟩
      rw [gh, if_neg e1] at hg
      exact hg
  refine ⟨?_, ⟨h.sr.imm, ?_, ?_, ?_, ?_, ?_, ?_, ?_⟩, ?_, h.n, h.d⟩
  · refine ⟨h.since.os, h.since.tape, h.since.output, h.since.size, h.since.blk, h.since.le, ?_, h.since.newM, ?_, ?_⟩
    · intro m i hm
      have := h.since.psi m i hm
      rw [p2, if_neg (fun e => by subst e; rw [hn] at this; cases this)]
      exact this
    · intro l i hl
      rcases back l i hl with ⟨j, rfl, e1, e2, e3⟩ | ⟨rfl, e3⟩ | ⟨m, rfl, e1, e3⟩
      · exact h.since.newψ _ _ e3
      · exact .inr (h.since.live (.l k) i (by rw [hgk]; rfl) e3)
      · exact h.since.newψ _ _ e3
    · intro l i hg hl
      obtain ⟨l0, q1, q2, _⟩ := old l i hg hl
      exact h.since.live l0 i q1 q2
  · intro l ds hg i hl
    cases l with
    | l j =>
      rw [gl] at hg
      split at hg
      · cases hg
      · rename_i e
        simp only [Option.map_eq_some_iff] at hg
        obtain ⟨ds', hd, rfl⟩ := hg
        rw [p1, if_neg e, hd] at hl
        obtain ⟨vs, T, a1, a2, a3, a4, a5⟩ := h.sr.obj (.l j) ds' hd i hl
        exact ⟨vs, T, a1, a2, by rw [AV.renL_length]; exact a3, a4, by rw [AV.renL_length]; exact RepL.ren hst hren _ a5⟩
    | h m =>
      rw [gh] at hg
      rw [p2] at hl
      split at hg
      · rename_i e
        cases hg
        rw [if_pos e] at hl
        obtain ⟨vs, T, a1, a2, a3, a4, a5⟩ := h.sr.obj (.l k) cs hgk i hl
        exact ⟨vs, T, a1, a2, a3, a4, RepL.mono (Imm.le_refl M) _ hst (RepL.noL _ hno a5)⟩
      · rename_i e
        rw [if_neg e] at hl
        obtain ⟨vs, T, a1, a2, a3, a4, a5⟩ := h.sr.obj (.h m) ds hg i hl
        exact ⟨vs, T, a1, a2, a3, a4, RepL.mono (Imm.le_refl M) _ hst a5⟩
  · intro l ds hg hl
    cases l with
    | l j =>
      rw [gl] at hg
      split at hg
      · cases hg
      · rename_i e
        simp only [Option.map_eq_some_iff] at hg
        obtain ⟨ds', hd, rfl⟩ := hg
        rw [p1, if_neg e, hd] at hl
        rw [h.sr.empt (.l j) ds' hd hl]; rfl
    | h m =>
      rw [gh] at hg
      rw [p2] at hl
      split at hg
      · rename_i e
        cases hg
        rw [if_pos e] at hl
        exact h.sr.empt (.l k) cs hgk hl
      · rename_i e
        rw [if_neg e] at hl
        exact h.sr.empt (.h m) ds hg hl
  · intro l l' i i' hg hg' hl hl' hb
    obtain ⟨l0, q1, q2, q3⟩ := old l i hg hl
    obtain ⟨l1, r1, r2, r3⟩ := old l' i' hg' hl'
    have := h.sr.apart l0 l1 i i' q1 r1 q2 r2 hb
    subst this
    rcases q3 with ⟨j, rfl, e1, rfl⟩ | ⟨rfl, rfl⟩ | ⟨m, rfl, e1, rfl⟩ <;> rcases r3 with ⟨j', rfl, e2, e3⟩ | ⟨rfl, e3⟩ | ⟨m', rfl, e2, e3⟩ <;> first | rfl | (cases e3; done) | (cases e3; first | rfl | exact absurd rfl e1 | exact absurd rfl e2)
  · intro l i hg hl
    obtain ⟨l0, q1, q2, _⟩ := old l i hg hl
    exact h.sr.mt l0 i q1 q2
  · intro j i m i' hj hg hm hb
    rcases back _ _ hj with ⟨j', e0, e1, e2, e3⟩ | ⟨e0, _⟩ | ⟨m', e0, _⟩
    · cases e0
      obtain ⟨l1, r1, r2, r3⟩ := old _ i' hg hm
      have := h.sr.apart (.l j) l1 i i' e2 r1 e3 r2 hb
      subst this
      rcases r3 with ⟨_, e, _, _⟩ | ⟨_, e⟩ | ⟨_, _, _, e⟩
      · cases e
      · cases e; exact e1 rfl
      · cases e
    · cases e0
    · cases e0
  · intro l i hl
    rcases back l i hl with ⟨j, rfl, e1, e2, e3⟩ | ⟨rfl, e3⟩ | ⟨m, rfl, e1, e3⟩
    · exact h.sr.lt _ _ e3
    · exact h.sr.lt _ _ e3
    · exact h.sr.lt _ _ e3
  · obtain ⟨B, hB⟩ := h.sr.fin
    refine ⟨max B (n + 1), fun m hm => ?_⟩
    have hmn : m ≠ n := by omega
    rw [p2, gh, if_neg hmn, if_neg hmn]
    exact hB m (by omega)
  · intro j
    show Rep M ψ' (lookS (renSf _ s.S) j) _
    rw [lookS_renSf]
    exact Rep.ren hst hren _ (h.sl j)
theorem At.adopt (h : At E N M ψ s a w) (k n : Nat) {cs : List AV} (hn : s.H n = some cs) : ∃ ψ', At E N M ψ' (s.adopt k n cs) a w := by
  refine ⟨adoptPsi ψ k n, ?_⟩
  generalize hψ' : adoptPsi ψ k n = ψ'
  have p1 : ∀ j, ψ' (.l j) = if j = k then ψ (.h n) else ψ (.l j) := fun j => by rw [← hψ']; rfl
  have p2 : ∀ m, ψ' (.h m) = ψ (.h m) := fun m => by rw [← hψ']; rfl
  have hgn : s.g (.h n) = some cs := hn
  have hstr : ψ'.strip = ψ.strip := by
    funext l
    cases l with
    | l j => rfl
    | h m => exact p2 m
  have hst : ψ.strip.le ψ'.strip := by rw [hstr]; exact Psi.le_refl _
  have hren : ∀ l l' i, adoptF k n l = some l' → ψ l = some i → ψ' l' = some i := by
    intro l l' i hl hi
    cases l with
    | l j =>
      simp only [adoptF] at hl
      split at hl
      · cases hl
      · rename_i e; cases hl; rw [p1, if_neg e]; exact hi
    | h m =>
      simp only [adoptF] at hl
      split at hl
      · rename_i e; cases hl; subst e; rw [p1, if_pos rfl]; exact hi
      · cases hl; rw [p2]; exact hi
  have gl : ∀ j, (s.adopt k n cs).g (.l j) = if j = k then some (AV.renL (adoptF k n) cs) else (lookL s.L j).map (AV.renL (adoptF k n)) := by
    intro j
    show lookL ((k, _) :: renLf _ k s.L) j = _
    simp only [lookL, lookL_renLf]
    split <;> rfl
  have gh : ∀ m, (s.adopt k n cs).g (.h m) = if m = n then none else s.H m := fun m => rfl
  have old : ∀ l i, ((s.adopt k n cs).g l).isSome → ψ' l = some i → ∃ l0, (s.g l0).isSome ∧ ψ l0 = some i ∧ ((∃ j, l = .l j ∧ j ≠ k ∧ l0 = .l j) ∨ (l = .l k ∧ l0 = .h n) ∨ ∃ m, l = .h m ∧ m ≠ n ∧ l0 = .h m) := by
    intro l i hg hl
    cases l with
    | l j =>
      rw [gl] at hg
      rw [p1] at hl
      by_cases e : j = k
      · rw [if_pos e] at hl
        exact ⟨.h n, by rw [hgn]; rfl, hl, .inr (.inl ⟨by rw [e], rfl⟩)⟩
      · rw [if_neg e] at hl hg
        exact ⟨.l j, by show (lookL s.L j).isSome = true; simpa using hg, hl, .inl ⟨j, rfl, e, rfl⟩⟩
    | h m =>
      rw [gh] at hg
      rw [p2] at hl
      by_cases e : m = n
      · rw [if_pos e] at hg; cases hg
      · rw [if_neg e] at hg
        exact ⟨.h m, hg, hl, .inr (.inr ⟨m, rfl, e, rfl⟩)⟩
  refine ⟨?_, ⟨h.sr.imm, ?_, ?_, ?_, ?_, ?_, ?_, ?_⟩, ?_, h.n, h.d⟩
  · refine ⟨h.since.os, h.since.tape, h.since.output, h.since.size, h.since.blk, h.since.le, ?_, h.since.newM, ?_, ?_⟩
    · intro m i hm
      rw [p2]; exact h.since.psi m i hm
    · intro l i hl
      cases l with
      | l j =>
        rw [p1] at hl
        split at hl
        · exact .inr (h.since.live (.h n) i (by rw [hgn]; rfl) hl)
        · exact h.since.newψ _ _ hl
      | h m => rw [p2] at hl; exact h.since.newψ _ _ hl
    · intro l i hg hl
      obtain ⟨l0, q1, q2, _⟩ := old l i hg hl
      exact h.since.live l0 i q1 q2
  · intro l ds hg i hl
    cases l with
    | l j =>
      rw [gl] at hg
      rw [p1] at hl
      split at hg
      · rename_i e
        cases hg
        rw [if_pos e] at hl
        obtain ⟨vs, T, a1, a2, a3, a4, a5⟩ := h.sr.obj (.h n) cs hgn i hl
        refine ⟨vs, T, a1, a2, by rw [AV.renL_length]; exact a3, a4, ?_⟩
        rw [AV.renL_length]
        exact RepL.ren (ψ := ψ) hst hren _ (RepL.mono (Imm.le_refl M) _ (Psi.strip_le ψ) a5)
      · rename_i e
        rw [if_neg e] at hl
        simp only [Option.map_eq_some_iff] at hg
        obtain ⟨ds', hd, rfl⟩ := hg
        obtain ⟨vs, T, a1, a2, a3, a4, a5⟩ := h.sr.obj (.l j) ds' hd i hl
        exact ⟨vs, T, a1, a2, by rw [AV.renL_length]; exact a3, a4, by rw [AV.renL_length]; exact RepL.ren hst hren _ a5⟩
    | h m =>
      rw [gh] at hg
      rw [p2] at hl
      split at hg
      · cases hg
      · obtain ⟨vs, T, a1, a2, a3, a4, a5⟩ := h.sr.obj (.h m) ds hg i hl
        refine ⟨vs, T, a1, a2, a3, a4, ?_⟩
        show RepL M ψ'.strip _ _
        rw [hstr]; exact a5
  · intro l ds hg hl
    cases l with
    | l j =>
      rw [gl] at hg
      rw [p1] at hl
      split at hg
      · rename_i e
        cases hg
        rw [if_pos e] at hl
        rw [h.sr.empt (.h n) cs hgn hl]; rfl
      · rename_i e
        rw [if_neg e] at hl
        simp only [Option.map_eq_some_iff] at hg
        obtain ⟨ds', hd, rfl⟩ := hg
        rw [h.sr.empt (.l j) ds' hd hl]; rfl
    | h m =>
      rw [gh] at hg
      rw [p2] at hl
      split at hg
      · cases hg
      · exact h.sr.empt (.h m) ds hg hl
  · intro l l' i i' hg hg' hl hl' hb
    obtain ⟨l0, q1, q2, q3⟩ := old l i hg hl
    obtain ⟨l1, r1, r2, r3⟩ := old l' i' hg' hl'
    have := h.sr.apart l0 l1 i i' q1 r1 q2 r2 hb
    subst this
    rcases q3 with ⟨j, rfl, e1, rfl⟩ | ⟨rfl, rfl⟩ | ⟨m, rfl, e1, rfl⟩ <;> rcases r3 with ⟨j', rfl, e2, e3⟩ | ⟨rfl, e3⟩ | ⟨m', rfl, e2, e3⟩ <;> first | rfl | (cases e3; done) | (cases e3; first | rfl | exact absurd rfl e1 | exact absurd rfl e2)
  · intro l i hg hl
    obtain ⟨l0, q1, q2, _⟩ := old l i hg hl
    exact h.sr.mt l0 i q1 q2
  · intro j i m i' hj hg hm hb
    rw [gh] at hg
    rw [p1] at hj
    rw [p2] at hm
    split at hg
    · cases hg
    · rename_i e
      split at hj
      · have := h.sr.apart (.h n) (.h m) i i' (by rw [hgn]; rfl) hg hj hm hb
        cases this; exact e rfl
      · exact h.sr.sep j i m i' hj hg hm hb
  · intro l i hl
    cases l with
    | l j =>
      rw [p1] at hl
      split at hl
      · exact h.sr.lt _ _ hl
      · exact h.sr.lt _ _ hl
    | h m => rw [p2] at hl; exact h.sr.lt _ _ hl
  · obtain ⟨B, hB⟩ := h.sr.fin
    refine ⟨B, fun m hm => ?_⟩
    rw [p2, gh]
    refine ⟨(hB m hm).1, ?_⟩
    split
    · rfl
    · exact (hB m hm).2
  · intro j
    show Rep M ψ' (lookS (renSf _ s.S) j) _
    rw [lookS_renSf]
    exact Rep.ren hst hren _ (h.sl j)
theorem J_escape {c : Code} (k : Nat) {cs : List AV} (hk : lookL s.L k = some cs) (hno : AV.noLL cs = true) (h : ∀ n, s.H n = none → J P E N c Q (s.esc k n cs)) : J P E N c Q s := by
  intro M ψ a w hat
  obtain ⟨B, hB⟩ := hat.sr.fin
  obtain ⟨ψ', hat'⟩ := hat.esc hk hno (hB B (Nat.le_refl _)).1 (hB B (Nat.le_refl _)).2
  exact h B (hB B (Nat.le_refl _)).2 M ψ' a w hat'
theorem J_adopt {c : Code} (k n : Nat) {cs : List AV} (hn : s.H n = some cs) (h : J P E N c Q (s.adopt k n cs)) : J P E N c Q s := by
  intro M ψ a w hat
  obtain ⟨ψ', hat'⟩ := hat.adopt k n hn
  exact h M ψ' a w hat'
def AS.hfrz (s : AS) (n : Nat) (cs : List AV) : AS := (s.adopt 1000000 n cs).frz 1000000 (AV.renL (adoptF 1000000 n) cs)
end
end
section
theorem lookS_keepS_not (S : Slots) (ks : List Nat) (k : Nat) (h : k ∉ ks) : lookS (keepS S ks) k = .dead := by
  induction S with
  | nil => rfl
  | cons e r ih =>
    obtain ⟨j, x⟩ := e
    simp only [keepS]
    split
    · rename_i hj
      simp only [lookS]
      rw [if_neg (by rintro rfl; exact h (by simpa using hj))]
      exact ih
    · exact ih
section
variable {P : Program} {E : Ent} {N : Nat} {M : Imm} {ψ : Psi} {s : AS} {a : Act} {w : World} {Q : AX → AS → Prop}
theorem J_reveal {c : Code} (t : Nat) {l : Loc} {es n : Nat} (hn : 0 < n) (ht : lookS s.S t = .os l es 0 n) {cs : List AV} (hg : s.g l = some cs) (h : ∀ cap, n ≤ cap → cs.length ≤ cap * es → cap ≤ maxLen → J P E N c Q { s with S := setS s.S t (.oc l es 0 n cap) }) : J P E N c Q s := by
  intro M ψ a w hat
  have hr := hat.sl t
  rw [ht] at hr
  simp only [Rep] at hr
  rcases hr with ⟨_, h0, _⟩ | ⟨i, cap, hi, hv, hnc, hcm, hsz⟩
  · omega
  · refine h cap hnc ?_ hcm M ψ a w (hat.wit ?_)
    · obtain ⟨vs, T, _, _, h3, _⟩ := hat.sr.obj l cs hg i hi
      omega
    · simp only [Rep]
      exact ⟨i, hi, hv, hnc, hcm, hsz⟩
theorem J_forget {c : Code} (t : Nat) {l : Loc} {es off n cap : Nat} (ht : lookS s.S t = .oc l es off n cap) (h : J P E N c Q { s with S := setS s.S t (.os l es off n) }) : J P E N c Q s := by
  intro M ψ a w hat
  have hr := hat.sl t
  rw [ht] at hr
  simp only [Rep] at hr
  obtain ⟨i, hi, hv, hnc, hcm, hsz⟩ := hr
  refine h M ψ a w (hat.wit ?_)
  simp only [Rep]
  exact .inr ⟨i, cap, hi, hv, hnc, hcm, hsz⟩
theorem At.trunc (h : At E N M ψ s a w) {l : Loc} {cs : List AV} (hg : s.g l = some cs) (n : Nat) : At E N M ψ (s.obj l (cs.take n)) a w := by
  have hgo : (s.obj l (cs.take n)).g = upd s.g l (some (cs.take n)) := AS.obj_g s l _
  have hs : ∀ x, (upd s.g l (some (cs.take n)) x).isSome → (s.g x).isSome := by
    intro x hx
    by_cases e : x = l
    · subst e; rw [hg]; rfl
    · rwa [upd_other _ _ e] at hx
  refine ⟨?_, ?_, ?_, h.n, h.d⟩
  · rw [hgo]
    exact ⟨h.since.os, h.since.tape, h.since.output, h.since.size, h.since.blk, h.since.le, h.since.psi, h.since.newM, h.since.newψ, fun x i h1 h2 => h.since.live x i (hs x h1) h2⟩
  · rw [hgo]
    refine ⟨h.sr.imm, ?_, ?_, fun x x' i i' h1 h2 => h.sr.apart x x' i i' (hs x h1) (hs x' h2), fun x i h1 => h.sr.mt x i (hs x h1), fun k i m j h1 h2 h3 => h.sr.sep k i m j h1 (hs _ h2) h3, h.sr.lt, ?_⟩
    · intro x ds hx i hi
      by_cases e : x = l
      · subst e
        rw [upd_same] at hx
        cases hx
        obtain ⟨vs, T, a1, a2, a3, a4, a5⟩ := h.sr.obj x cs hg i hi
        have hlen : (cs.take n).length ≤ cs.length := by rw [List.length_take]; exact Nat.min_le_right _ _
        refine ⟨vs, T, a1, a2, by omega, a4, ?_⟩
        have := a5.take n
        rw [List.take_take] at this
        rw [List.length_take]
        exact this
      · rw [upd_other _ _ e] at hx; exact h.sr.obj x ds hx i hi
    · intro x ds hx hi
      by_cases e : x = l
      · subst e
        rw [upd_same] at hx
        cases hx
        rw [h.sr.empt x cs hg hi]; simp
      · rw [upd_other _ _ e] at hx; exact h.sr.empt x ds hx hi
    · obtain ⟨B, hB⟩ := h.sr.fin
      refine ⟨B, fun m hm => ⟨(hB m hm).1, ?_⟩⟩
      rw [upd_other]
      · exact (hB m hm).2
      · rintro rfl
        rw [(hB m hm).2] at hg; cases hg
  · cases l <;> exact h.sl
theorem J_trunc {c : Code} (l : Loc) {cs : List AV} (hg : s.g l = some cs) (n : Nat) (h : J P E N c Q (s.obj l (cs.take n))) : J P E N c Q s :=
  fun M ψ a w hat => h M ψ a w (hat.trunc hg n)
theorem J_bool {x y : Code} (d : Nat) (b : Bool) (live : List Nat) (h1 : J P E N x (thenQ (fun s' => s'.L = s.L ∧ s'.H = s.H ∧ lookS s'.S d = .v (.bool b) ∧ ∀ k ∈ live, lookS s'.S k = lookS s.S k) Q) s)
    (h2 : J P E N y Q (AS.set { s with S := keepS s.S live } (some d) (.v (.bool b)))) : J P E N (.seq x y) Q s := by
  refine J_seq ?_
  intro M ψ a w hat
  refine wp_mono (h1 M ψ a w hat) ?_
  intro e a' w' hq
  cases e with
  | normal =>
    obtain ⟨M', ψ', s', hat', e1, e2, e3, e4⟩ := hq
    refine ⟨M', ψ', s', hat', ?_⟩
    show J P E N y Q s'
    intro M2 ψ2 a2 w2 hat2
    refine h2 M2 ψ2 a2 w2 ?_
    have hk : ∀ j, lookS (keepS s.S live) j = lookS s'.S j ∨ lookS (keepS s.S live) j = .dead := by
      intro j
      by_cases hj : j ∈ live
      · rcases lookS_keepS s.S live j with h | h
        · left; rw [h, e4 j hj]
        · exact .inr h
      · right; exact lookS_keepS_not s.S live j hj
    obtain ⟨S', L', H'⟩ := s'
    simp only at e1 e2 e3 e4 hk
    subst e1; subst e2
    refine ⟨hat2.since, hat2.sr, fun j => ?_, hat2.n, hat2.d⟩
    show Rep M2 ψ2 (lookS (setS (keepS s.S live) d (.v (.bool b))) j) _
    rw [lookS_setS]
    by_cases hj : j = d
    · subst hj; rw [if_pos rfl, ← e3]; exact hat2.sl j
    · rw [if_neg hj]
      rcases hk j with h | h
      · rw [h]; exact hat2.sl j
      · rw [h]; simp only [Rep]
  | exit i => exact hq
  | goto i => exact hq
  | ret => exact hq
  | panic c => exact hq
  | outgrown => exact hq
end
end
section
def subS : Slots → Slots → Prop
  | [], _ => True
  | (k, x) :: r, S => lookS S k = x ∧ subS r S
def Has (T : Slots) (L : List (Nat × List AV)) (H : Heap) (s : AS) : Prop := subS T s.S ∧ s.L = L ∧ s.H = H
theorem subS_look {T S : Slots} (h : subS T S) (k : Nat) : lookS T k = lookS S k ∨ lookS T k = .dead := by
  induction T with
  | nil => exact .inr rfl
  | cons e r ih =>
    obtain ⟨j, x⟩ := e
    simp only [subS] at h
    simp only [lookS]
    split
    · rename_i e; subst e; exact .inl h.1.symm
    · exact ih h.2
theorem J_loop' {P : Program} {E : Ent} {N : Nat} {c : Code} {Q : AX → AS → Prop} {s : AS} (R : Nat → AS → Prop) {n : Nat} (h0 : R n s) (h : ∀ n s, R n s → ∀ K : AS → Prop, (∀ m s', m < n → R m s' → K s') → J P E N c (thenQ K Q) s) : J P E N (.loop c) Q s :=
  J_loop R h0 fun n s hr => h n s hr _ fun m s' hm hr' => ⟨m, hm, hr'⟩
theorem J_has {P : Program} {E : Ent} {N : Nat} {c : Code} {Q : AX → AS → Prop} {T : Slots} {L : List (Nat × List AV)} {H : Heap} {s : AS} (h : Has T L H s) (hJ : J P E N c Q ⟨T, L, H⟩) : J P E N c Q s := by
  obtain ⟨S, L', H'⟩ := s
  obtain ⟨h1, h2, h3⟩ := h
  simp only at h1 h2 h3
  subst h2; subst h3
  exact J_weaken (fun k => subS_look h1 k) hJ
mutual
def AV.norm : AV → AV
  | .sl0 => .sl 0 []
  | .agg cs => .agg (AV.normL cs)
  | .tup cs => .tup (AV.normL cs)
  | .v x => .v x
  | .dead => .dead
  | .p l off => .p l off
  | .vp cs => .vp cs
  | .sl n cs => .sl n cs
  | .os l es off n => .os l es off n
  | .oc l es off n c => .oc l es off n c
  | .fn f cs => .fn f cs
  | .ifc t x => .ifc t (AV.norm x)
def AV.normL : List AV → List AV
  | [] => []
  | c :: cs => AV.norm c :: AV.normL cs
end
mutual
theorem Rep.norm {M : Imm} {ψ : Psi} : ∀ (av : AV) {w : Value}, Rep M ψ av w → Rep M ψ av.norm w
  | .v x, _, h => h
  | .dead, _, h => h
  | .p l off, _, h => h
  | .vp cs, _, h => h
  | .sl n cs, _, h => h
  | .sl0, _, h => by
    simp only [Rep] at h
    obtain ⟨a, rfl⟩ := h
    simp only [AV.norm, Rep]
    exact ⟨a, 0, rfl, Nat.le_refl _, Nat.zero_le _, fun hne => absurd rfl hne⟩
  | .os l es off n, _, h => h
  | .oc l es off n c, _, h => h
  | .agg cs, _, h => by
    simp only [AV.norm, Rep] at h ⊢
    obtain ⟨vs, h1, h2, h3⟩ := h
    exact ⟨vs, h1, RepL.norm cs h2, h3⟩
  | .tup cs, _, h => by
    simp only [AV.norm, Rep] at h ⊢
    obtain ⟨vs, h1, h2⟩ := h
    exact ⟨vs, h1, RepL.norm cs h2⟩
  | .fn f cs, _, h => h
  | .ifc t x, _, h => by
    simp only [AV.norm, Rep] at h ⊢
    obtain ⟨u, h1, h2⟩ := h
    exact ⟨u, h1, Rep.norm x h2⟩
theorem RepL.norm {M : Imm} {ψ : Psi} : ∀ (cs : List AV) {vs : List Value}, RepL M ψ cs vs → RepL M ψ (AV.normL cs) vs
  | [], _, h => h
  | c :: cs, _, h => by
    simp only [AV.normL, RepL] at h ⊢
    obtain ⟨u, us, h1, h2, h3⟩ := h
    exact ⟨u, us, h1, Rep.norm c h2, RepL.norm cs h3⟩
end
section
variable {P : Program} {f : FuncId} {args : List AV} {r : AV} {H : Heap} {Q : AE → Heap → Prop}
theorem PCalls.norm {Q' : AE → Heap → Prop} (h : PCalls P f args H fun e H' => match e with
    | .ret x => Q' (.ret x.norm) H'
    | .panic x => Q' (.panic x) H') : PCalls P f args H Q' := by
  have key : ∀ M ψ w e w', CPost M ψ H w (fun e H' => match e with
    | .ret x => Q' (.ret x.norm) H'
    | .panic x => Q' (.panic x) H') e w' → CPost M ψ H w Q' e w' := by
    rintro M ψ w e w' ⟨M', ψ', H', r, h1, h2, h3, h4, h5⟩
    cases e with
    | returned v =>
      obtain ⟨x, rfl, hx⟩ := h4
      exact ⟨M', ψ', H', .ret x.norm, h1, h2, h3, ⟨_, rfl, Rep.norm x hx⟩, h5⟩
    | panicked c =>
      obtain ⟨x, v, rfl, hc, hx⟩ := h4
      exact ⟨M', ψ', H', .panic x, h1, h2, h3, ⟨x, v, rfl, hc, hx⟩, h5⟩
    | outgrown => exact h4.elim
  intro M ψ w vals h1 h2 h3
  rcases h M ψ w vals h1 h2 h3 with ⟨h4, h5⟩ | ⟨v, w', h4, h5⟩
  · exact .inl ⟨h4, h5.mono fun e w' => key M ψ w e w'⟩
  · exact .inr ⟨v, w', h4, key M ψ w _ w' h5⟩
theorem PFun.call (h : PFun P f args r) (hk : Q (.ret r) H) : PCalls P f args H Q :=
  PCalls.mono (h H) (by rintro _ _ ⟨rfl, rfl⟩; exact hk)
theorem PFun.plain {vs : List Value} {v : Value} (h : ∀ w, (callFunc f vs.toArray).run P w = .ok (.value v) w) : PFun P f (vs.map .v) (.v v) := by
  intro H M ψ w vals hst hsr hr
  have e : vals = vs := by
    clear h
    induction vs generalizing vals with
    | nil => simp only [List.map_nil, RepL] at hr; exact hr
    | cons x xs ih =>
      simp only [List.map_cons, RepL, Rep] at hr
      obtain ⟨u, us, rfl, rfl, h3⟩ := hr
      rw [ih us h3]
  subst e
  exact .inr ⟨v, w, h w, M, ψ, H, .ret (.v v), hst, Since.refl _ _ _ _, hsr, ⟨_, rfl, by simp only [Rep]⟩, rfl, rfl⟩
variable {D : Types} (hD : Types.ok P D)
include hD in
theorem PFun.of_J {fn : Func} {c : Code} (hf : P.funcs[f]? = some fn) (hb : fn.body = some c) (hname : (fn.name == "runtime.NumGoroutine") = false) (hlen : args.length ≤ fn.ntmps)
    (h : ∀ H E QF, (∀ e s, retQ D fn.results.toList (fun e H' => match e with
      | .ret x => x.norm = r ∧ H' = H
      | .panic _ => False) e s → QF e s) → J P E fn.ntmps c QF { S := enumS 0 args, L := [], H := H }) : PFun P f args r := by
  intro H
  refine PCalls.norm (PCalls.mono (PCalls.of_J' hD hf hb hname hlen (Q := fun e H' => match e with
      | .ret x => x.norm = r ∧ H' = H
      | .panic _ => False) (h H)) ?_)
  intro e H' he
  cases e with
  | ret x => obtain ⟨rfl, rfl⟩ := he; exact ⟨rfl, rfl⟩
  | panic x => exact he.elim
end
end
end Go.Eng
