/- A part of the proof: the engine that walks Go code, the walks of the broker, or their laws (TvEngU TvEngV TvEngW). -/
import Derived.Test.YtpcpljfifipagaaGreatDoorX08
set_option linter.unusedSimpArgs false
set_option linter.unusedVariables false
namespace Go.Eng
section
def evQN (cfg : Cfg) (dst : Option Nat) (cs : List AV) (K : AV → Option (List AV) → Prop) : Prop :=
  match dst with
  | some k => if cfg.fz k then AV.noLL cs = true ∧ K (.vp cs) none else K (.p (.l k) 0) (some cs)
  | none => False
def evQ (P : Program) (D : Types) (cfg : Cfg) (o : Oper) (s : AS) (K : AV → Option (List AV) → Prop) : Prop :=
  match o.op with
  | .alloc t =>
    match D t with
    | some d => evQN cfg o.dst (AV.ofVs d.zero) K
    | none => False
  | .box t x =>
    match (evA s.S x).cells with
    | some ds => evQN cfg o.dst ds K
    | none => False
  | .buildSlice t len parts =>
    match D t with
    | some ⟨.slice e, _, _, _⟩ =>
      match D e with
      | some d =>
        match fillA (fun i => some (i * d.size, d.size)) (List.replicate len (AV.ofVs d.zero)).flatten (parts.toList.map fun x => (x.1, evA s.S x.2)) with
        | some cs => len * d.size ≤ 16777216 ∧ d.zero.length = d.size ∧ 0 < d.size ∧ if len = 0 then K .sl0 none else AV.noLL cs = true ∧ K (.sl len cs) none
        | none => False
      | none => False
    | _ => False
  | .call ⟨.value f, args, _⟩ =>
    match evA s.S f with
    | .fn id caps => AV.noLL (args.toList.map (evA s.S) ++ caps) = true ∧ ∃ v, (∀ H, PCalls P id (args.toList.map (evA s.S) ++ caps) H fun e H' => e = .ret v ∧ H' = H) ∧ K v none
    | _ => False
  | op =>
    match evP D s.S s.g op with
    | some (c, r) => c ∧ K r none
    | none => False
section
variable {P : Program} {D : Types} {cfg : Cfg} {s : AS}
theorem evQ_ex {o : Oper} {K : AV → Option (List AV) → Prop} (h : evQ P D cfg o s K) : ∃ v ob, QV P D cfg o s v ob ∧ K v ob := by
  have hqn : ∀ {dst : Option Nat} {cs : List AV}, evQN cfg dst cs K → ∃ v ob, QN cfg dst cs v ob ∧ K v ob := by
    intro dst cs h
    unfold evQN at h
    unfold QN
    split at h
    · rename_i k
      split at h
      · rename_i hf; exact ⟨.vp cs, none, by show (if cfg.fz k then _ else _); rw [if_pos hf]; exact ⟨h.1, rfl, rfl⟩, h.2⟩
      · rename_i hf; exact ⟨.p (.l k) 0, some cs, by show (if cfg.fz k then _ else _); rw [if_neg hf]; exact ⟨rfl, rfl⟩, h⟩
    · exact h.elim
  obtain ⟨dst, op, ty, pos, after, guard⟩ := o
  unfold evQ at h
  unfold QV
  cases op
  case alloc t =>
    dsimp only at h ⊢
    split at h
    · rename_i d hd
      simp only [hd]
      exact hqn h
    · exact h.elim
  case box t x =>
    dsimp only at h ⊢
    split at h
    · rename_i ds hd
      simp only [hd]
      exact hqn h
    · exact h.elim
  case buildSlice t len parts =>
    dsimp only at h ⊢
    split at h
    · rename_i e1 _ _ _ hd
      simp only [hd]
      split at h
      · rename_i d he
        simp only [he]
        split at h
        · rename_i cs hf
          simp only [hf]
          obtain ⟨h1, h2, h3, h4⟩ := h
          split at h4
          · rename_i h0; exact ⟨_, _, ⟨h1, h2, h3, rfl, by rw [if_pos h0]⟩, h4⟩
          · rename_i h0; exact ⟨_, _, ⟨h1, h2, h3, rfl, by rw [if_neg h0]; exact ⟨h4.1, rfl⟩⟩, h4.2⟩
        · exact h.elim
      · exact h.elim
    · exact h.elim
  case call c =>
    obtain ⟨callee, args, ts⟩ := c
    cases callee
    case value f =>
      dsimp only at h ⊢
      split at h
      · rename_i id caps hf
        simp only [hf]
        obtain ⟨h1, v, h2, h3⟩ := h
        exact ⟨v, none, ⟨h1, rfl, h2 s.H⟩, h3⟩
      · exact h.elim
    all_goals
      dsimp only at h ⊢
      split at h
      · rename_i c r hp
        simp only [hp]
        exact ⟨_, _, ⟨h.1, rfl, rfl⟩, h.2⟩
      · exact h.elim
  all_goals
    dsimp only at h ⊢
    split at h
    · rename_i c r hp
      simp only [hp]
      exact ⟨_, _, ⟨h.1, rfl, rfl⟩, h.2⟩
    · exact h.elim
def evQs' (P : Program) (D : Types) (cfg : Cfg) (all : List Oper) : List Nat → AS → (AS → Prop) → Prop
  | [], s, K => K s
  | q :: r, s, K =>
    match all[q]? with
    | none => False
    | some o => okDst cfg.N o.dst = true ∧
      match o.guard with
      | none => evQ P D cfg o s fun v ob => (ob.isSome = true → ∀ k, o.dst = some k → lookL s.L k = none) ∧ evQs' P D cfg all r (s.add o.dst v ob) K
      | some (j, want) =>
        match guardSlot all j with
        | some d =>
          match lookS s.S d with
          | .v (.bool b) => guardB b want (evQ P D cfg o (s.set (some d) (.v (.bool want))) fun v ob => (ob.isSome = true → ∀ k, o.dst = some k → lookL s.L k = none) ∧ evQs' P D cfg all r ((s.set (some d) (.v (.bool want))).add o.dst v ob) K) (evQs' P D cfg all r ((s.set (some d) (.v (.bool (!want)))).add o.dst (.v undef) none) K)
          | x => x.isUnd = true ∧ evQs' P D cfg all r (s.add o.dst (.v undef) none) K
        | none => False
theorem evQs'_imp {all : List Oper} {K : AS → Prop} : ∀ (r : List Nat) (s : AS), evQs' P D cfg all r s K → evQs P D cfg all r s K := by
  intro r
  induction r with
  | nil => intro s h; exact h
  | cons q r ih =>
    intro s h
    unfold evQs' at h
    unfold evQs
    split at h
    · exact h.elim
    · rename_i o ho
      simp only [ho]
      refine ⟨h.1, ?_⟩
      have h := h.2
      split at h
      · rename_i hg
        simp only [hg]
        obtain ⟨v, ob, h1, h2, h3⟩ := evQ_ex h
        exact ⟨v, ob, h1, h2, ih _ h3⟩
      · rename_i j want hg
        simp only [hg]
        split at h
        · rename_i d hd
          simp only [hd]
          split at h
          · rename_i b hb
            simp only [hb]
            refine ⟨fun e => ?_, fun e => ih _ (h.2 e)⟩
            obtain ⟨v, ob, h1, h2, h3⟩ := evQ_ex (h.1 e)
            exact ⟨v, ob, h1, h2, ih _ h3⟩
          · rename_i x hne
            split
            · rename_i b hb; exact absurd hb (hne b)
            · exact ⟨h.1, ih _ h.2⟩
        · exact h.elim
variable (hD : Types.ok P D) {E : Ent} {Q : AX → AS → Prop}
include hD in
theorem J_draw' {id : Nat} {ops : Array Oper} (qs ts late : List Nat) (hm : P.follows .mixedOrders = true) (h1 : drawOk ops.toList qs ts late = true) (h2 : drawOk2 cfg ops.toList qs late = true)
    (h : evQs' P D cfg ops.toList qs (s.pre (newKs cfg ops.toList qs)) fun s0 => evTs P D cfg ops.toList late (fun x s => Q (.panic x) s) (Q .normal) ts s0) : J P E cfg.N (.region id ops true) Q s :=
  J_draw hD qs ts late hm h1 h2 (evQs'_imp qs _ h)
end
end
section
section
variable {P : Program} {f : FuncId}
theorem vals_of_plain {M : Imm} {ψ : Psi} {vs vals : List Value} (hr : RepL M ψ (vs.map .v) vals) : vals = vs := by
  induction vs generalizing vals with
  | nil => simp only [List.map_nil, RepL] at hr; exact hr
  | cons x xs ih =>
    simp only [List.map_cons, RepL, Rep] at hr
    obtain ⟨u, us, rfl, rfl, h3⟩ := hr
    rw [ih h3]
theorem PFun.of_row {vs us : List Value} {n c : Nat} {T : TypeId} (he : Enters P f) (hn : n ≤ c) (hc : c ≤ maxLen) (h1 : ∀ u ∈ us, u.oneCell' = true) {cs : List AV} (hcs : ∀ M ψ, RepL M ψ cs us)
    (h : ∀ w, Calls P f vs.toArray w fun e w' => e = .returned (.slice (some ⟨w.heap.size, 0, none⟩) n c) ∧ w' = w.alloc (.cells us.toArray T)) : PFun P f (vs.map .v) (.sl n cs) := by
  intro H M ψ w vals hst hsr hr
  have := vals_of_plain hr
  subst this
  refine .inl ⟨he, (h w).mono ?_⟩
  rintro e w' ⟨rfl, rfl⟩
  obtain ⟨hle, hs⟩ := hsr.allocImm T h1
  have hsince := ((Since.refl M ψ (hOnly H) w).with (b := w.heap.size) (us := us) (.inl (Nat.le_refl _)) hle (fun _ x => x)).alloc (.cells us.toArray T)
  refine ⟨_, ψ, H, .ret (.sl n cs), hst, hsince, hs, ⟨_, rfl, ?_⟩, rfl, rfl⟩
  simp only [Rep]
  exact ⟨_, c, rfl, hn, hc, fun _ => ⟨_, _, us, rfl, Imm.with_at _ _ _, hcs _ _⟩⟩
end
end
section
section
variable {P : Program} {D : Types} {E : Ent} {cfg : Cfg} {N : Nat} {M : Imm} {ψ : Psi} {s : AS} {a : Act} {w : World} {Q : AX → AS → Prop}
theorem At.weakenH (h : At E N M ψ s a w) {H : Heap} (hH : ∀ m cs, H m = some cs → s.H m = some cs) : At E N M ψ { s with H := H } a w := by
  have hg : ∀ l cs, (mkG s.L H) l = some cs → s.g l = some cs := by
    intro l cs hl
    cases l with
    | l k => exact hl
    | h n => exact hH n cs hl
  have hs : ∀ l, ((mkG s.L H) l).isSome → (s.g l).isSome := by
    intro l hl
    obtain ⟨cs, hc⟩ := Option.isSome_iff_exists.mp hl
    rw [hg l cs hc]; rfl
  refine ⟨⟨h.since.os, h.since.tape, h.since.output, h.since.size, h.since.blk, h.since.le, h.since.psi, h.since.newM, h.since.newψ, fun l i h1 h2 => h.since.live l i (hs l h1) h2⟩,
    ⟨h.sr.imm, fun l cs hl => h.sr.obj l cs (hg l cs hl), fun l cs hl => h.sr.empt l cs (hg l cs hl), fun l l' i i' h1 h2 => h.sr.apart l l' i i' (hs l h1) (hs l' h2), fun l i h1 => h.sr.mt l i (hs l h1), fun k i m j h1 h2 h3 => h.sr.sep k i m j h1 (hs _ h2) h3, h.sr.lt, ?_⟩, h.sl, h.n, h.d⟩
  obtain ⟨B, hB⟩ := h.sr.fin
  refine ⟨B, fun m hm => ⟨(hB m hm).1, ?_⟩⟩
  cases e : H m with
  | none => exact e
  | some cs =>
    have e1 := hH m cs e
    have e2 : s.H m = none := (hB m hm).2
    rw [e2] at e1; cases e1
theorem J_weakenH {c : Code} (H : Heap) (hH : ∀ m cs, H m = some cs → s.H m = some cs) (h : J P E N c Q { s with H := H }) : J P E N c Q s :=
  fun M ψ a w hat => h M ψ a w (hat.weakenH hH)
theorem FreshB.back {M0 M1 : Imm} {ψ0 ψ1 : Psi} {g0 g1 : Store} {w0 w1 : World} (h : Since M0 ψ0 g0 w0 M1 ψ1 g1 w1) {b : Nat} (hb : FreshB ψ1 g1 w1 b) : FreshB ψ0 g0 w0 b := by
  rcases hb with hb | ⟨l, i, h1, h2, rfl⟩
  · exact .inl (Nat.le_trans h.size hb)
  · exact h.live l i h1 h2
theorem Since.trans {M0 M1 M2 : Imm} {ψ0 ψ1 ψ2 : Psi} {g0 g1 g2 : Store} {w0 w1 w2 : World} (h : Since M0 ψ0 g0 w0 M1 ψ1 g1 w1) (k : Since M1 ψ1 g1 w1 M2 ψ2 g2 w2) : Since M0 ψ0 g0 w0 M2 ψ2 g2 w2 := by
  refine ⟨k.os.trans h.os, k.tape.trans h.tape, k.output.trans h.output, Nat.le_trans h.size k.size, ?_, h.le.trans k.le, fun n i e => k.psi n i (h.psi n i e), ?_, ?_, fun l i h1 h2 => (k.live l i h1 h2).back h⟩
  · intro b hb hno
    rw [k.blk b (Nat.lt_of_lt_of_le hb h.size) ?_, h.blk b hb hno]
    intro l i h1 h2 e
    rcases h.live l i h1 h2 with h3 | ⟨l', i', h3, h4, h5⟩
    · omega
    · exact hno l' i' h3 h4 (h5.trans e)
  · intro b o v e
    rcases k.newM b o v e with e | e
    · exact h.newM b o v e
    · exact .inr (e.back h)
  · intro l i e
    rcases k.newψ l i e with e | e
    · exact h.newψ l i e
    · exact .inr (e.back h)
def Ent.here (E : Ent) (M : Imm) (ψ : Psi) (s : AS) (w : World) : Ent := ⟨M, ψ, s.g, w, E.ds⟩
theorem At.here (h : At E N M ψ s a w) : At (E.here M ψ s w) N M ψ s a w := ⟨Since.refl _ _ _ _, h.sr, h.sl, h.n, h.d⟩
theorem At.back (h : At E N M ψ s a w) {M' : Imm} {ψ' : Psi} {s' : AS} {a' : Act} {w' : World} (k : At (E.here M ψ s w) N M' ψ' s' a' w') : At E N M' ψ' s' a' w' :=
  ⟨h.since.trans k.since, k.sr, k.sl, k.n, k.d⟩
end
end
end Go.Eng
