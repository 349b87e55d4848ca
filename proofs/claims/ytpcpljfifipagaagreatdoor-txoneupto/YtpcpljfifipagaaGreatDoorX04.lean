/- A part of the proof: the engine that walks Go code, the walks of the broker, or their laws (TvEngI TvEngJ TvEngJ2). -/
import Derived.Test.YtpcpljfifipagaaGreatDoorX03
set_option linter.unusedSimpArgs false
set_option linter.unusedVariables false
namespace Go.Eng
section
def Heap.put (H : Heap) (n : Nat) (cs : Option (List AV)) : Heap := fun m => if m = n then cs else H m
structure Cfg where
  N : Nat
  fz : Nat → Bool
def evSrc (g : Store) (es : Nat) : AV → Option (Prop × Nat × List AV)
  | .sl m cs => some (cs.length = m * es, m, cs)
  | .sl0 => some (True, 0, [])
  | .os l es' off m => match g l with
    | some cs => some (es' = es ∧ off + m * es ≤ cs.length, m, (cs.drop off).take (m * es))
    | none => none
  | .oc l es' off m _ => match g l with
    | some cs => some (es' = es ∧ off + m * es ≤ cs.length, m, (cs.drop off).take (m * es))
    | none => none
  | _ => none
def evNil (D : Types) (t : TypeId) (x : AV) : Option (Bool → Prop) :=
  match D t with
  | some ⟨.slice _, _, _, _⟩ =>
    match x with
    | .sl _ cs => some fun b => b = true → cs = []
    | .sl0 => some fun _ => True
    | .os _ _ _ n => some fun b => b = true → n = 0
    | .oc _ _ _ _ _ => some fun b => b = false
    | _ => none
  | _ => none
def okDst (N : Nat) (d : Option Nat) : Bool := match d with
  | some d => decide (d < N)
  | none => true
def noLFor (l : Loc) (ds : List AV) : Prop := match l with
  | .l _ => True
  | .h _ => AV.noLL ds = true
def newCells (cfg : Cfg) (s : AS) (dst : Option Nat) (cs : List AV) (K : AS → Prop) : Prop :=
  match dst with
  | some k => if cfg.fz k then AV.noLL cs = true ∧ K (s.set dst (.vp cs)) else K ((s.new k (AV.killL k cs)).set dst (.p (.l k) 0))
  | none => False
def newSl (cfg : Cfg) (s : AS) (dst : Option Nat) (es m : Nat) (cs : List AV) (K : AS → Prop) : Prop :=
  match dst with
  | some k => if cfg.fz k then AV.noLL cs = true ∧ K (s.set dst (.sl m cs)) else K ((s.new k (AV.killL k cs)).set dst (.os (.l k) es 0 m))
  | none => False
def evOp (P : Program) (D : Types) (cfg : Cfg) (o : Oper) (s : AS) (Kp : AV → AS → Prop) (K : AS → Prop) : Prop :=
  okDst cfg.N o.dst = true ∧
  match o.op with
  | .store t x v =>
    match evA s.S x, (evA s.S v).cells, D t with
    | .p l off, some ds, some d =>
      match s.g l with
      | some cs => ds.length = d.size ∧ off + ds.length ≤ cs.length ∧ noLFor l ds ∧ K ((s.obj l (cs.take off ++ ds ++ cs.drop (off + ds.length))).set o.dst (.v undef))
      | none => False
    | _, _, _ => False
  | .alloc t =>
    match D t with
    | some d => newCells cfg s o.dst (AV.ofVs d.zero) K
    | none => False
  | .box t v =>
    match (evA s.S v).cells with
    | some ds => newCells cfg s o.dst ds K
    | none => False
  | .buildSlice t len parts =>
    match D t with
    | some ⟨.slice e, _, _, _⟩ =>
      match D e with
      | some d =>
        match fillA (fun i => some (i * d.size, d.size)) (List.replicate len (AV.ofVs d.zero)).flatten (parts.toList.map fun x => (x.1, evA s.S x.2)) with
        | some cs => len * d.size ≤ 16777216 ∧ d.zero.length = d.size ∧ 0 < d.size ∧ if len = 0 then K (s.set o.dst .sl0) else newSl cfg s o.dst d.size len cs K
        | none => False
      | none => False
    | _ => False
  | .call ⟨.builtin .append, args, ts⟩ =>
    match args.toList, ts.toList with
    | [x, y], [t, t'] =>
      if t = t' then
      match D t with
      | some ⟨.slice e, _, _, _⟩ =>
        match D e with
        | some d =>
          0 < d.size ∧ d.zero.length = d.size ∧
          match evSrc s.g d.size (evA s.S y) with
          | some (c, m, news) =>
            c ∧
            match evA s.S x with
            | .sl0 => m * d.bytes ≤ 140737488355328 ∧ m ≤ 9223372036854775807 ∧ newSl cfg s o.dst d.size m news K
            | .os (.l k) es 0 n =>
              match s.g (.l k) with
              | some cs => es = d.size ∧ n * es = cs.length ∧ (n + m) * d.bytes ≤ 140737488355328 ∧ n + m ≤ 9223372036854775807 ∧
                  K ((s.new k (AV.killL k (cs ++ news))).set o.dst (.os (.l k) es 0 (n + m)))
              | none => False
            | .os (.h k) es 0 n =>
              match s.H k with
              | some cs => es = d.size ∧ n * es = cs.length ∧ (n + m) * d.bytes ≤ 140737488355328 ∧ n + m ≤ 9223372036854775807 ∧ AV.noLL news = true ∧
                  ∀ k', k' = k ∨ s.H k' = none → K (AS.set { s with H := (s.H.put k none).put k' (some (cs ++ news)) } o.dst (.os (.h k') es 0 (n + m)))
              | none => False
            | .oc l es 0 i cap =>
              match s.g l with
              | some cs => es = d.size ∧ i + m ≤ cap ∧ (i + m) * es ≤ cs.length ∧ noLFor l news ∧ K ((s.obj l (cs.take (i * es) ++ news ++ cs.drop (i * es + news.length))).set o.dst (.oc l es 0 (i + m) cap))
              | none => False
            | _ => False
          | none => False
        | none => False
      | _ => False
      else
      match D t, D t' with
      | some ⟨.slice e, _, _, _⟩, some ⟨.int _, _, _, _⟩ =>
        match D e with
        | some d =>
          0 < d.size ∧ d.zero.length = d.size ∧
          match evA s.S y, evA s.S x with
          | .v (.int .i64 m), .oc l es off i cap =>
            match s.g l with
            | some cs => es = d.size ∧ 0 ≤ m ∧ m ≤ 9223372036854775807 ∧ (cap : Int) < i + m ∧ off + i * es ≤ cs.length ∧ (i + m.toNat) * d.bytes ≤ 140737488355328 ∧ i + m.toNat ≤ 9223372036854775807 ∧
                newSl cfg s o.dst es (i + m.toNat) ((cs.drop off).take (i * es) ++ (List.replicate m.toNat (AV.ofVs d.zero)).flatten) K
            | none => False
          | _, _ => False
        | none => False
      | _, _ => False
    | _, _ => False
  | .call ⟨.builtin .clear, args, ts⟩ =>
    match args.toList, ts.toList with
    | [x], [t] =>
      match D t with
      | some ⟨.slice e, _, _, _⟩ =>
        match D e with
        | some d =>
          d.zero.length = d.size ∧
          match evA s.S x with
          | .oc l es off n _ =>
            match s.g l with
            | some cs => es = d.size ∧ off + n * es ≤ cs.length ∧ K ((s.obj l (cs.take off ++ (List.replicate n (AV.ofVs d.zero)).flatten ++ cs.drop (off + n * es))).set o.dst (.v undef))
            | none => False
          | .sl n _ => n = 0 ∧ K (s.set o.dst (.v undef))
          | _ => False
        | none => False
      | _ => False
    | _, _ => False
  | .call ⟨.builtin .copy, args, ts⟩ =>
    match args.toList, ts.toList with
    | [x, y], [t, _] =>
      match D t with
      | some ⟨.slice e, _, _, _⟩ =>
        match D e with
        | some d =>
          match evSrc s.g d.size (evA s.S y) with
          | some (c, m, news) =>
            c ∧
            match evA s.S x with
            | .oc l es off n _ =>
              match s.g l with
              | some cs => es = d.size ∧ off + n * es ≤ cs.length ∧ noLFor l news ∧
                  K ((s.obj l (cs.take off ++ news.take (min m n * es) ++ cs.drop (off + min m n * es))).set o.dst (.v (.int .i64 (min m n : Nat))))
              | none => False
            | _ => False
          | none => False
        | none => False
      | _ => False
    | _, _ => False
  | .binOp .eql t x (.const (.slice none 0 0)) _ =>
    match evNil D t (evA s.S x) with
    | some f => ∀ b, f b → K (s.set o.dst (.v (.bool b)))
    | none => False
  | .call ⟨.value f, args, _⟩ =>
    match evA s.S f with
    | .fn id caps =>
      let vs := args.toList.map (evA s.S) ++ caps
      AV.noLL vs = true ∧ PCalls P id vs s.H fun r H' => match r with
        | .ret v => K ({ s with H := H' }.set o.dst v)
        | .panic v => Kp v { s with H := H' }
    | _ => False
  | .panic x =>
    match evA s.S x with
    | .ifc t y => Kp (.ifc t y) s
    | _ => False
  | op =>
    match evP D s.S s.g op with
    | some (c, r) => c ∧ K (s.set o.dst r)
    | none => False
def NextR (E : Ent) (N : Nat) (K : AS → Prop) (a : Act) (w : World) : Prop := ∃ M ψ s, At E N M ψ s a w ∧ K s
def PanR (E : Ent) (N : Nat) (Kp : AV → AS → Prop) (Q : Exit → Act → World → Prop) : Prop :=
  ∀ x s M ψ v a w, At E N M ψ s a w → Rep M ψ x v → Kp x s → Q (.panic [{ v, recovered := false }]) a w
section
variable {P : Program} {D : Types} (hD : Types.ok P D) {E : Ent} {cfg : Cfg} {M : Imm} {ψ : Psi} {s : AS} {a : Act} {w : World}
theorem okDst_lt {d : Option Nat} (h : okDst cfg.N d = true) : ∀ k, d = some k → k < cfg.N := by
  intro k hk; subst hk; simpa [okDst] using h
theorem RepL.noLL' {cs : List AV} {vs : List Value} (h : RepL M ψ cs vs) (hn : AV.noLL cs = true) : RepL M ψ.strip cs vs := RepL.noL cs hn h
theorem newCells_ok {cs : List AV} {us : List Value} (h : At E cfg.N M ψ s a w) {dst : Option Nat} (hd : okDst cfg.N dst = true) {K : AS → Prop} (hk : newCells cfg s dst cs K) (hr : RepL M ψ cs us) (h1 : ∀ u ∈ us, u.oneCell' = true) (T : TypeId) :
    NextR E cfg.N K (a.put dst (.pointer (some ⟨w.heap.size, 0, none⟩))) (w.alloc (.cells us.toArray T)) := by
  unfold newCells at hk
  split at hk
  · rename_i k
    split at hk
    · obtain ⟨hn, hk⟩ := hk
      obtain ⟨hle, hat⟩ := h.imm h1 T
      refine ⟨_, _, _, hat.set ?_ (okDst_lt hd), hk⟩
      simp only [Rep]
      exact ⟨_, _, us, rfl, Imm.with_at _ _ _, RepL.mono hle _ (Psi.le_refl _) (hr.noLL' hn)⟩
    · refine ⟨_, _, _, (h.new k (Nat.le_of_eq hr.length.symm) (by rw [List.take_of_length_le (Nat.le_of_eq hr.length)]; exact hr) h1 T).set ?_ (okDst_lt hd), hk⟩
      simp only [Rep]
      exact ⟨⟨w.heap.size, us.length⟩, by simp [Psi.put], rfl⟩
  · exact hk.elim
theorem evSrc_ok {es m : Nat} {y : AV} {c : Prop} {news : List AV} {v : Value} (hs : SR M ψ s.g w) (h : evSrc s.g es y = some (c, m, news)) (hc : c) (hv : Rep M ψ y v) :
    ∃ b cap us, v = .slice b m cap ∧ us.length = m * es ∧ RepL M ψ news us ∧ (∀ u ∈ us, u.oneCell' = true) ∧ ((∃ ad, b = some ad ∧ CellsAt w ad us) ∨ (us = [] ∧ news = [])) := by
  unfold evSrc at h
  split at h
  · rename_i m' cs
    cases h
    simp only [Rep] at hv
    obtain ⟨b, cap, rfl, _, _, h4⟩ := hv
    by_cases hne : news = []
    · subst hne
      exact ⟨b, cap, [], rfl, by simpa using hc, by simp only [RepL], by simp, .inr ⟨rfl, rfl⟩⟩
    · obtain ⟨bb, o, vs, rfl, h5, h6⟩ := h4 hne
      obtain ⟨e1, e2, e3, e4⟩ := hs.loadImm h5 h6 (Nat.le_refl _)
      have ht : vs.take news.length = vs := List.take_of_length_le (by rw [h6.length]; exact Nat.le_refl _)
      rw [ht] at e1 e2 e3 e4
      exact ⟨_, cap, vs, rfl, by rw [e1, hc], h6.of_strip, e3, .inl ⟨_, rfl, fun j u hj => by rw [add_plain]; exact e4 j u hj⟩⟩
  · cases h
    simp only [Rep] at hv
    obtain ⟨b, rfl⟩ := hv
    exact ⟨b, 0, [], rfl, by simp, by simp only [RepL], by simp, .inr ⟨rfl, rfl⟩⟩
  · rename_i l es' off m'
    split at h
    · rename_i cs hg
      cases h
      obtain ⟨rfl, hl⟩ := hc
      simp only [Rep] at hv
      rcases hv with ⟨_, rfl, b, rfl⟩ | ⟨i, cap, hi, rfl, _⟩
      · exact ⟨b, 0, [], rfl, by simp, by simp [RepL], by simp, .inr ⟨rfl, by simp⟩⟩
      · obtain ⟨us, e1, e2, e3, e4⟩ := hs.load hg hi hl
        exact ⟨_, cap, us, rfl, e1, e2.at_le, e3, .inl ⟨_, rfl, fun j u hj => by rw [add_plain]; exact e4 j u hj⟩⟩
    · cases h
  · rename_i l es' off m' cap
    split at h
    · rename_i cs hg
      cases h
      obtain ⟨rfl, hl⟩ := hc
      simp only [Rep] at hv
      obtain ⟨i, hi, rfl, _⟩ := hv
      obtain ⟨us, e1, e2, e3, e4⟩ := hs.load hg hi hl
      exact ⟨_, cap, us, rfl, e1, e2.at_le, e3, .inl ⟨_, rfl, fun j u hj => by rw [add_plain]; exact e4 j u hj⟩⟩
    · cases h
  · cases h
end
end
section
section
variable {M : Imm} {ψ : Psi} {g : Store} {w : World}
theorem SR.extend (h : SR M ψ g w) {l : Loc} {cs ds : List AV} {i : LI} {us : List Value} (hg : g l = some cs) (hψ : ψ l = some i) (hn : cs.length + ds.length ≤ i.sz) (hr : RepL M (ψ.at l) ds us) (h1 : ∀ u ∈ us, u.oneCell' = true) :
    ∃ vs T, w.heap[i.b]? = some (.cells vs T (0, 0)) ∧ vs.size = i.sz ∧
      SR M ψ (upd g l (some (cs ++ ds))) (w.setRow i.b (vs.toList.take cs.length ++ us ++ vs.toList.drop (cs.length + us.length)).toArray) := by
  obtain ⟨vs, T, hh, hs, hl, hone, hrep⟩ := h.obj l cs hg i hψ
  have hul : us.length = ds.length := hr.length
  have hvl : vs.toList.length = i.sz := by simpa using hs
  have hup : ∀ x, (upd g l (some (cs ++ ds)) x).isSome → (g x).isSome := by
    intro x hx
    by_cases e : x = l
    · subst e; simp [hg]
    · rwa [upd_other _ _ e] at hx
  have hfin : ∃ B, ∀ n, B ≤ n → ψ (.h n) = none ∧ upd g l (some (cs ++ ds)) (.h n) = none := by
    obtain ⟨B, hB⟩ := h.fin
    refine ⟨B, fun n hn => ⟨(hB n hn).1, ?_⟩⟩
    rw [upd_other]
    · exact (hB n hn).2
    · rintro rfl
      rw [(hB n hn).2] at hg; cases hg
  refine ⟨vs, T, hh, hs, ⟨?_, ?_, ?_, ?_, ?_, fun k i' n j h1 h2 h3 => h.sep k i' n j h1 (hup _ h2) h3, ?_, hfin⟩⟩
  · intro b o v hv
    have := h.imm b o v hv
    refine ⟨?_, this.2⟩
    rw [cell_setRow_other _ _ _ _ ?_]
    · exact this.1
    · intro e
      have e : b = i.b := e
      have := h.mt l i (by simp [hg]) hψ o
      rw [← e, hv] at this
      cases this
  · intro x xs hx j hj
    by_cases e : x = l
    · subst e
      rw [upd_same] at hx
      rw [hψ] at hj
      cases hj
      cases hx
      refine ⟨_, T, setRow_heap _ _ _ _ _ _ hh, ?_, ?_, ?_, ?_⟩
      · simp only [List.size_toArray, List.length_append, List.length_take, List.length_drop, hvl]; omega
      · simp only [List.length_append]; omega
      · intro u hu
        simp only [List.mem_append] at hu
        rcases hu with (hu | hu) | hu
        · exact hone u (List.mem_of_mem_take hu)
        · exact h1 u hu
        · exact hone u (List.mem_of_mem_drop hu)
      · have := hrep.append hr
        have he : (vs.toList.take cs.length ++ us ++ vs.toList.drop (cs.length + us.length)).take (cs ++ ds).length = vs.toList.take cs.length ++ us := by
          rw [List.take_left' (by simp [hul, hvl]; omega)]
        rw [he]
        exact this
    · rw [upd_other _ _ e] at hx
      have hne : j.b ≠ i.b := fun hb => e (h.apart x l j i (by simp [hx]) (by simp [hg]) hj hψ hb)
      obtain ⟨vs', T', a1, a2, a3, a4, a5⟩ := h.obj x xs hx j hj
      exact ⟨vs', T', by rw [setRow_other _ _ _ _ hne]; exact a1, a2, a3, a4, a5⟩
  · intro x xs hx hn'
    by_cases e : x = l
    · subst e; rw [hψ] at hn'; cases hn'
    · rw [upd_other _ _ e] at hx; exact h.empt x xs hx hn'
  · intro x x' j j' hx hx'
    exact h.apart x x' j j' (hup x hx) (hup x' hx')
  · intro x j hx
    exact h.mt x j (hup x hx)
  · intro x j hj
    rw [setRow_size]; exact h.lt x j hj
theorem SR.hush (h : SR M ψ g w) {k : Nat} {xs : List AV} (hg : g (.l k) = some xs) : SR M ψ (upd (g.renew k none) (.l k) (some (AV.killL k xs))) w := by
  have hsome : ∀ x, (upd (g.renew k none) (.l k) (some (AV.killL k xs)) x).isSome → (g x).isSome := by
    intro x hx
    by_cases e : x = .l k
    · subst e; simp [hg]
    · rw [upd_other _ _ e] at hx
      cases x with
      | l j =>
        by_cases e' : j = k
        · exact absurd (by rw [e']) e
        · simpa [Store.renew, e'] using hx
      | h n => exact hx
  have hk : ∀ {cs : List AV} {vs : List Value}, RepL M ψ cs vs → RepL M ψ (AV.killL k cs) vs := fun hr => RepL.kill (Psi.le_refl _) (fun _ _ _ x => x) _ hr
  refine ⟨h.imm, ?_, ?_, ?_, ?_, fun k i' n j h1 h2 h3 => h.sep k i' n j h1 (hsome _ h2) h3, h.lt, ?_⟩
  rotate_right
  · obtain ⟨B, hB⟩ := h.fin
    exact ⟨B, fun n hn => ⟨(hB n hn).1, by rw [upd_other _ _ (fun e => by cases e)]; exact (hB n hn).2⟩⟩
  · intro x cs hx i hi
    by_cases e : x = .l k
    · subst e
      rw [upd_same] at hx
      cases hx
      obtain ⟨vs, T, a1, a2, a3, a4, a5⟩ := h.obj _ _ hg i hi
      exact ⟨vs, T, a1, a2, by rw [AV.killL_length]; exact a3, a4, by rw [AV.killL_length]; exact hk a5⟩
    · rw [upd_other _ _ e] at hx
      cases x with
      | l j =>
        by_cases e' : j = k
        · exact absurd (by rw [e']) e
        · simp only [Store.renew, if_neg e', Option.map_eq_some_iff] at hx
          obtain ⟨ys, hy, rfl⟩ := hx
          obtain ⟨vs, T, a1, a2, a3, a4, a5⟩ := h.obj _ _ hy i hi
          exact ⟨vs, T, a1, a2, by rw [AV.killL_length]; exact a3, a4, by rw [AV.killL_length]; exact hk a5⟩
      | h n => exact h.obj _ _ hx i hi
  · intro x cs hx hn
    by_cases e : x = .l k
    · subst e
      rw [upd_same] at hx
      cases hx
      rw [h.empt _ _ hg hn]
      rfl
    · rw [upd_other _ _ e] at hx
      cases x with
      | l j =>
        by_cases e' : j = k
        · exact absurd (by rw [e']) e
        · simp only [Store.renew, if_neg e', Option.map_eq_some_iff] at hx
          obtain ⟨ys, hy, rfl⟩ := hx
          rw [h.empt _ _ hy hn]
          rfl
      | h n => exact h.empt _ _ hx hn
  · intro x x' i i' hx hx'
    exact h.apart x x' i i' (hsome x hx) (hsome x' hx')
  · intro x i hx
    exact h.mt x i (hsome x hx)
theorem SR.newEmpty (h : SR M ψ g w) (k : Nat) : SR M (ψ.put k none) (upd (g.renew k none) (.l k) (some [])) w := by
  have h := h.drop k
  have hk : (ψ.put k none) (.l k) = none := by simp [Psi.put]
  refine ⟨h.imm, ?_, ?_, ?_, ?_, fun k' i' n j h1 h2 h3 => h.sep k' i' n j h1 (by rw [upd_other _ _ (fun e => by cases e)] at h2; exact h2) h3, h.lt, ?_⟩
  rotate_right
  · obtain ⟨B, hB⟩ := h.fin
    exact ⟨B, fun n hn => ⟨(hB n hn).1, by rw [upd_other _ _ (fun e => by cases e)]; exact (hB n hn).2⟩⟩
  · intro x cs hx i hi
    by_cases e : x = .l k
    · subst e; rw [hk] at hi; cases hi
    · rw [upd_other _ _ e] at hx; exact h.obj x cs hx i hi
  · intro x cs hx hn
    by_cases e : x = .l k
    · subst e; rw [upd_same] at hx; cases hx; rfl
    · rw [upd_other _ _ e] at hx; exact h.empt x cs hx hn
  · intro x x' i i' hx hx' hi hi' hb
    by_cases e : x = .l k
    · subst e; rw [hk] at hi; cases hi
    · by_cases e' : x' = .l k
      · subst e'; rw [hk] at hi'; cases hi'
      · rw [upd_other _ _ e] at hx
        rw [upd_other _ _ e'] at hx'
        exact h.apart x x' i i' hx hx' hi hi' hb
  · intro x i hx hi
    by_cases e : x = .l k
    · subst e; rw [hk] at hi; cases hi
    · rw [upd_other _ _ e] at hx; exact h.mt x i hx hi
end
section
variable {E : Ent} {N : Nat} {M : Imm} {ψ : Psi} {s : AS} {a : Act} {w : World}
theorem At.newEmpty (h : At E N M ψ s a w) (k : Nat) : At E N M (ψ.put k none) (s.new k []) a w := by
  refine ⟨?_, by rw [AS.new_g]; exact h.sr.newEmpty k, h.sl.ren k none, h.n, h.d⟩
  have hd := h.since.drop k
  rw [AS.new_g]
  refine ⟨hd.os, hd.tape, hd.output, hd.size, hd.blk, hd.le, hd.psi, hd.newM, hd.newψ, fun x i h1 h2 => ?_⟩
  by_cases e : x = .l k
  · subst e; simp [Psi.put] at h2
  · rw [upd_other _ _ e] at h1; exact hd.live x i h1 h2
theorem At.extend (h : At E N M ψ s a w) {k : Nat} {cs ds : List AV} {i : LI} {us : List Value} (hg : s.g (.l k) = some cs) (hψ : ψ (.l k) = some i) (hn : cs.length + ds.length ≤ i.sz) (hr : RepL M ψ ds us) (h1 : ∀ u ∈ us, u.oneCell' = true) :
    ∃ vs T, w.heap[i.b]? = some (.cells vs T (0, 0)) ∧ vs.size = i.sz ∧
      At E N M ψ (s.new k (AV.killL k (cs ++ ds))) a (w.setRow i.b (vs.toList.take cs.length ++ us ++ vs.toList.drop (cs.length + us.length)).toArray) := by
  obtain ⟨vs, T, h2, h3, h4⟩ := h.sr.extend hg hψ hn hr h1
  have h5 := h4.hush (k := k) (xs := cs ++ ds) (upd_same _ _ _)
  have e : upd ((upd s.g (.l k) (some (cs ++ ds))).renew k none) (.l k) (some (AV.killL k (cs ++ ds))) = upd (s.g.renew k none) (.l k) (some (AV.killL k (cs ++ ds))) := by
    funext l
    cases l with
    | l j => by_cases hj : j = k <;> simp [upd, Store.renew, hj]
    | h n => simp [upd, Store.renew]
  rw [e] at h5
  refine ⟨vs, T, h2, h3, ?_, by rw [AS.new_g]; exact h5, ?_, h.n, h.d⟩
  · rw [AS.new_g]
    refine h.since.setRow (h.since.live _ i (by simp [hg]) hψ) _ fun x hx => ?_
    by_cases e : x = .l k
    · subst e; simp [hg]
    · rw [upd_other _ _ e] at hx
      cases x with
      | l j =>
        by_cases e' : j = k
        · exact absurd (by rw [e']) e
        · simpa [Store.renew, e'] using hx
      | h n => exact hx
  · intro j
    show Rep M ψ (lookS (renS s.S k) j) _
    rw [lookS_renS]
    exact Rep.kill (Psi.le_refl _) (fun _ _ _ x => x) _ (h.sl j)
end
def Psi.putH (ψ : Psi) (n : Nat) (i : LI) : Psi
  | .l j => ψ (.l j)
  | .h m => if m = n then some i else ψ (.h m)
section
variable {E : Ent} {N : Nat} {M : Imm} {ψ : Psi} {s : AS} {a : Act} {w : World}
theorem At.newH (h : At E N M ψ s a w) {n : Nat} (hn : ψ (.h n) = none) (hn' : s.H n = none) {cs : List AV} {us : List Value} (hlen : cs.length ≤ us.length) (hr : RepL M ψ.strip cs (us.take cs.length)) (h1 : ∀ u ∈ us, u.oneCell' = true) (T : TypeId) :
    ψ.le (ψ.putH n ⟨w.heap.size, us.length⟩) ∧ At E N M (ψ.putH n ⟨w.heap.size, us.length⟩) { s with H := s.H.put n (some cs) } a (w.alloc (.cells us.toArray T)) := by
  generalize hψ' : ψ.putH n ⟨w.heap.size, us.length⟩ = ψ'
  have p1 : ∀ j, ψ' (.l j) = ψ (.l j) := fun j => by rw [← hψ']; rfl
  have p2 : ∀ m, ψ' (.h m) = if m = n then some ⟨w.heap.size, us.length⟩ else ψ (.h m) := fun m => by rw [← hψ']; rfl
  have hle : ψ.le ψ' := by
    intro l i hl
    cases l with
    | l j => rw [p1]; exact hl
    | h m => rw [p2, if_neg (fun e => by subst e; rw [hn] at hl; cases hl)]; exact hl
  have old : ∀ l i, ψ' l = some i → (l = .h n ∧ i = ⟨w.heap.size, us.length⟩) ∨ (l ≠ .h n ∧ ψ l = some i) := by
    intro l i hl
    cases l with
    | l j => rw [p1] at hl; exact .inr ⟨(fun e => by cases e), hl⟩
    | h m =>
      rw [p2] at hl
      split at hl
      · rename_i e; cases hl; exact .inl ⟨by rw [e], rfl⟩
      · rename_i e; exact .inr ⟨fun e' => e (by cases e'; rfl), hl⟩
  have hg : ∀ l, l ≠ .h n → ({ s with H := s.H.put n (some cs) } : AS).g l = s.g l := by
    intro l hl
    cases l with
    | l j => rfl
    | h m => show (if m = n then some cs else s.H m) = s.H m; rw [if_neg (fun e => hl (by rw [e]))]
  have hgn : ({ s with H := s.H.put n (some cs) } : AS).g (.h n) = some cs := by show (if n = n then some cs else s.H n) = _; rw [if_pos rfl]
  have hMlt : ∀ b o v, M b o = some v → b < w.heap.size := fun b o v hv => World.block_lt_of_cell? w ⟨b, o, none⟩ (h.sr.imm b o v hv).1
  have hsince := h.since.alloc (.cells us.toArray T)
  refine ⟨hle, ⟨hsince.os, hsince.tape, hsince.output, hsince.size, hsince.blk, hsince.le, ?_, hsince.newM, ?_, ?_⟩, ⟨?_, ?_, ?_, ?_, ?_, ?_, ?_, ?_⟩, h.sl.mono (Imm.le_refl M) hle, h.n, h.d⟩
  · intro m i hm
    exact hle _ _ (h.since.psi m i hm)
  · intro l i hl
    rcases old l i hl with ⟨rfl, rfl⟩ | ⟨_, e⟩
    · exact .inr (.inl h.since.size)
    · exact h.since.newψ _ _ e
  · intro l i hl hi
    rcases old l i hi with ⟨rfl, rfl⟩ | ⟨e0, e⟩
    · exact .inl h.since.size
    · rw [hg l e0] at hl; exact h.since.live l i hl e
  · intro b o v hv
    refine ⟨?_, (h.sr.imm b o v hv).2⟩
    rw [World.cell?_alloc_lt _ _ _ (by exact hMlt b o v hv)]
    exact (h.sr.imm b o v hv).1
  · intro l ds hl i hi
    rcases old l i hi with ⟨rfl, rfl⟩ | ⟨e0, e⟩
    · rw [hgn] at hl
      cases hl
      refine ⟨us.toArray, T, heap_alloc_new _ _, by simp, hlen, by simpa using h1, ?_⟩
      exact RepL.mono (Imm.le_refl M) _ hle.strip hr
    · rw [hg l e0] at hl
      obtain ⟨vs, T', a1, a2, a3, a4, a5⟩ := h.sr.obj l ds hl i e
      exact ⟨vs, T', (by show (w.heap.push _)[i.b]? = _; rw [Array.getElem?_push, if_neg (Nat.ne_of_lt (h.sr.lt l i e))]; exact a1), a2, a3, a4, RepL.mono (Imm.le_refl M) _ (Psi.at_le hle l) a5⟩
  · intro l ds hl hi
    by_cases e : l = .h n
    · subst e; rw [p2, if_pos rfl] at hi; cases hi
    · rw [hg l e] at hl
      refine h.sr.empt l ds hl ?_
      cases hψl : ψ l with
      | none => rfl
      | some i => rw [hle _ _ hψl] at hi; cases hi
  · intro l l' i i' hl hl' hi hi' hb
    rcases old l i hi with ⟨rfl, rfl⟩ | ⟨e0, e⟩
    · rcases old l' i' hi' with ⟨rfl, rfl⟩ | ⟨e1, e'⟩
      · rfl
      · have := h.sr.lt l' i' e'; simp only at hb; omega
    · rcases old l' i' hi' with ⟨rfl, rfl⟩ | ⟨e1, e'⟩
      · have := h.sr.lt l i e; simp only at hb; omega
      · rw [hg l e0] at hl; rw [hg l' e1] at hl'; exact h.sr.apart l l' i i' hl hl' e e' hb
  · intro l i hl hi o
    rcases old l i hi with ⟨rfl, rfl⟩ | ⟨e0, e⟩
    · cases hM : M w.heap.size o with
      | none => rfl
      | some v => exact absurd (hMlt _ _ _ hM) (by simp)
    · rw [hg l e0] at hl; exact h.sr.mt l i hl e o
  · intro j i m i' hj hm hi' hb
    rw [p1] at hj
    rcases old _ i' hi' with ⟨e1, rfl⟩ | ⟨e0, e⟩
    · have := h.sr.lt _ i hj; simp only at hb; omega
    · rw [hg _ e0] at hm; exact h.sr.sep j i m i' hj hm e hb
  · intro l i hi
    rw [World.size_alloc]
    rcases old l i hi with ⟨rfl, rfl⟩ | ⟨_, e⟩
    · simp
    · have := h.sr.lt l i e; omega
  · obtain ⟨B, hB⟩ := h.sr.fin
    refine ⟨max B (n + 1), fun m hm => ?_⟩
    have hmn : m ≠ n := by omega
    rw [p2, if_neg hmn, hg _ (fun e => hmn (by cases e; rfl))]
    exact hB m (by omega)
theorem At.dropH (h : At E N M ψ s a w) (n : Nat) : At E N M ψ { s with H := s.H.put n none } a w := by
  have hg : ∀ l cs, ({ s with H := s.H.put n none } : AS).g l = some cs → s.g l = some cs := by
    intro l cs hl
    cases l with
    | l j => exact hl
    | h m =>
      have hl : (if m = n then none else s.H m) = some cs := hl
      split at hl
      · cases hl
      · exact hl
  have hgs : ∀ l, (({ s with H := s.H.put n none } : AS).g l).isSome → (s.g l).isSome := by
    intro l hl
    obtain ⟨cs, hcs⟩ := Option.isSome_iff_exists.1 hl
    rw [hg l cs hcs]; rfl
  refine ⟨⟨h.since.os, h.since.tape, h.since.output, h.since.size, h.since.blk, h.since.le, h.since.psi, h.since.newM, h.since.newψ, fun l i h1 h2 => h.since.live l i (hgs l h1) h2⟩,
    ⟨h.sr.imm, fun l cs hl => h.sr.obj l cs (hg l cs hl), fun l cs hl => h.sr.empt l cs (hg l cs hl), fun l l' i i' h1 h2 => h.sr.apart l l' i i' (hgs l h1) (hgs l' h2), fun l i h1 => h.sr.mt l i (hgs l h1), fun k i m j h1 h2 h3 => h.sr.sep k i m j h1 (hgs _ h2) h3, h.sr.lt, ?_⟩, h.sl, h.n, h.d⟩
  obtain ⟨B, hB⟩ := h.sr.fin
  refine ⟨B, fun m hm => ⟨(hB m hm).1, ?_⟩⟩
  show (if m = n then none else s.H m) = none
  split
  · rfl
  · exact (hB m hm).2
theorem At.extendH (h : At E N M ψ s a w) {n : Nat} {cs ds : List AV} {i : LI} {us : List Value} (hg : s.H n = some cs) (hψ : ψ (.h n) = some i) (hn : cs.length + ds.length ≤ i.sz) (hr : RepL M ψ.strip ds us) (h1 : ∀ u ∈ us, u.oneCell' = true) :
    ∃ vs T, w.heap[i.b]? = some (.cells vs T (0, 0)) ∧ vs.size = i.sz ∧
      At E N M ψ { s with H := s.H.put n (some (cs ++ ds)) } a (w.setRow i.b (vs.toList.take cs.length ++ us ++ vs.toList.drop (cs.length + us.length)).toArray) := by
  obtain ⟨vs, T, h2, h3, h4⟩ := h.sr.extend (l := .h n) hg hψ hn hr h1
  have e : ({ s with H := s.H.put n (some (cs ++ ds)) } : AS).g = upd s.g (.h n) (some (cs ++ ds)) := by
    funext l
    cases l with
    | l j => simp [upd]; rfl
    | h m => by_cases e : m = n <;> simp [upd, e, Heap.put, AS.g, mkG]
  refine ⟨vs, T, h2, h3, ?_, by rw [e]; exact h4, h.sl, h.n, h.d⟩
  rw [e]
  have hg' : s.g (.h n) = some cs := hg
  refine h.since.setRow (h.since.live (.h n) i (by rw [hg']; rfl) hψ) _ fun x hx => ?_
  by_cases e : x = .h n
  · subst e; rw [hg']; rfl
  · rwa [upd_other _ _ e] at hx
end
theorem RepL.flatten {M : Imm} {ψ : Psi} {zs : List AV} {us : List Value} (h : RepL M ψ zs us) (n : Nat) : RepL M ψ (List.replicate n zs).flatten (List.replicate n us).flatten := by
  induction n with
  | zero => simp [RepL]
  | succ n ih => simp only [List.replicate_succ, List.flatten_cons]; exact h.append ih
theorem zero_row (z : Array Value) (len : Nat) : ((Array.range (len * z.size)).map (z[· % z.size]!)).toList = (List.replicate len z.toList).flatten := by
  induction len with
  | zero => simp
  | succ n ih =>
    rw [List.replicate_succ', List.flatten_append, ← ih]
    apply List.ext_getElem?
    intro j
    simp only [Array.toList_map, Array.toList_range, List.getElem?_map, List.flatten_cons, List.flatten_nil, List.append_nil]
    by_cases h1 : j < n * z.size
    · rw [List.getElem?_append_left (by simpa using h1)]
      simp [h1, Nat.add_mul, Nat.lt_add_right]
    · rw [List.getElem?_append_right (by simpa using h1)]
      simp only [List.length_map, List.length_range]
      by_cases h2 : j < (n + 1) * z.size
      · have h3 : j - n * z.size < z.size := by rw [Nat.add_mul] at h2; omega
        have h4 : j % z.size = j - n * z.size := by
          conv => lhs; rw [show j = (j - n * z.size) + z.size * n from by rw [Nat.mul_comm z.size n]; omega]
          rw [Nat.add_mul_mod_self_left, Nat.mod_eq_of_lt h3]
        simp [h2, h4, h3]
      · have h3 : ¬ (j - n * z.size < z.size) := by rw [Nat.add_mul] at h2; omega
        simp [h2, h3]
section
variable {P : Program} {D : Types} (hD : Types.ok P D) {E : Ent} {cfg : Cfg} {M : Imm} {ψ : Psi} {s : AS} {a : Act} {w : World}
theorem run_storeVar_at {t : TypeId} {d : TD} (hd : TDok P t d) {g o : Nat} {v : Value} {vs : Array Value} {T : TypeId} (hg : w.heap[g]? = some (.cells vs T (0, 0))) (hl : v.cells.size = d.size) (hf : o + v.cells.size ≤ vs.size) (h1 : ∀ u ∈ v.cells.toList, u.oneCell' = true) :
    (Instr.storeAt t (.pointer (some ⟨g, o, none⟩)) v).run P w = .ok () (w.setRow g (vs.toList.take o ++ v.cells.toList ++ vs.toList.drop (o + v.cells.size)).toArray) := by
  have hst := run_storeCells_at P g o T v.cells.toList 0 vs w hg (by simpa using hf) h1
  simp only [Nat.add_zero, Array.length_toList] at hst
  have hsz := run_sizeOf hd w
  simp [Instr.storeAt, Instr.sureAddr, storeVar, hsz, hl, hst]
include hD in
theorem evStore_ok (h : At E cfg.N M ψ s a w) {o : Oper} {t : TypeId} {x v : Operand} (ho : o.op = .store t x v) (hd : okDst cfg.N o.dst = true) {K : AS → Prop} {l : Loc} {off : Nat} {ds cs : List AV} {d : TD}
    (hx : evA s.S x = .p l off) (hv : (evA s.S v).cells = some ds) (hdt : D t = some d) (hg : s.g l = some cs) (h1 : ds.length = d.size) (h2 : off + ds.length ≤ cs.length) (h3 : noLFor l ds)
    (hk : K ((s.obj l (cs.take off ++ ds ++ cs.drop (off + ds.length))).set o.dst (.v undef))) :
    ∃ w', (execOp a.eval o).run P w = .ok .skip w' ∧ NextR E cfg.N K (a.put o.dst undef) w' := by
  have rx := Rep.evA h.sl x
  have rv := Rep.evA h.sl v
  rw [hx] at rx
  simp only [Rep] at rx
  obtain ⟨i, hi, hxv⟩ := rx
  obtain ⟨hc, hone⟩ := rv.cells hv
  have hc' : RepL M (ψ.at l) ds (a.eval v).cells.toList := by
    cases l with
    | l k => exact hc
    | h n => exact hc.noLL' h3
  obtain ⟨vs, T, e1, e2, e3⟩ := h.store hg hi h2 hc' hone
  have hlen : (a.eval v).cells.size = ds.length := by rw [← hc.length]; simp
  have hrun := run_storeVar_at (P := P) (w := w) (hD _ _ hdt) (v := a.eval v) e1 (by rw [hlen, h1]) (by simpa using e2) hone
  refine ⟨_, by simp [execOp, ho, hxv, hrun], _, _, _, e3.set (rep_v _ _ _) (okDst_lt hd), ?_⟩
  exact hk
theorem evAppend0_ok (h : At E cfg.N M ψ s a w) {t ty e : TypeId} {d : TD} (ht : P.underlying t = some (.slice e)) (hd : TDok P e d) (hpos : 0 < d.size) (hzl : d.zero.length = d.size) {news : List AV} {m cap : Nat} {bx b : Option Addr} {us : List Value}
    (hl : us.length = m * d.size) (hr : RepL M ψ news us) (h1 : ∀ u ∈ us, u.oneCell' = true) (hb : (∃ ad, b = some ad ∧ CellsAt w ad us) ∨ (us = [] ∧ news = [])) (hby : m * d.bytes ≤ 140737488355328) (hmax : m ≤ 9223372036854775807)
    {dst : Option Nat} (hdst : okDst cfg.N dst = true) {K : AS → Prop}
    (hk : newSl cfg s dst d.size m news K) :
    ∃ v w', (Builtin.append_ #[t, t] ty #[.slice bx 0 0, .slice b m cap]).run P w = .ok v w' ∧ NextR E cfg.N K (a.put dst v) w' := by
  cases dst with
  | none => exact hk.elim
  | some k =>
    simp only [newSl] at hk
    by_cases hm : m = 0
    · subst hm
      have hus : us = [] := List.eq_nil_of_length_eq_zero (by simpa using hl)
      subst hus
      have hnews : news = [] := by
        cases news with
        | nil => rfl
        | cons c cs => simp only [RepL] at hr; obtain ⟨_, _, h', _⟩ := hr; cases h'
      subst hnews
      refine ⟨_, w, run_append_nothing ht hd, ?_⟩
      split at hk
      · refine ⟨_, _, _, h.set ?_ (okDst_lt hdst), hk.2⟩
        simp only [Rep]
        exact ⟨bx, 0, rfl, Nat.le_refl _, Nat.zero_le _, fun hne => absurd rfl hne⟩
      · refine ⟨_, _, _, (h.newEmpty k).set ?_ (okDst_lt hdst), hk⟩
        simp only [Rep]
        exact .inl ⟨by trivial, by trivial, bx, rfl⟩
    · have hne : us ≠ [] := by
        rintro rfl
        have := Nat.mul_pos (Nat.pos_of_ne_zero hm) hpos
        simp only [List.length_nil] at hl
        omega
      rcases hb with ⟨ad, rfl, hcells⟩ | ⟨hus, _⟩
      · obtain ⟨z, newCap, e1, e2, e3, e4, e5⟩ := run_append_grown (P := P) (w := w) (ty := ty) (c := cap) ht hd hl hcells (olds := []) (n := 0) (cap := 0) (base := bx) (by simp)
          (by cases bx with
            | none => exact .inr ⟨rfl, rfl, rfl⟩
            | some q => exact .inl ⟨q, rfl, fun j u hj => by simp at hj⟩) (by omega) (by unfold maxLen; omega) (by simpa using hby)
        simp only [Nat.zero_add, List.nil_append] at e1 e2 e4
        have hall : ∀ u ∈ us ++ z, u.oneCell' = true := fun u hu => by
          rcases List.mem_append.1 hu with hu | hu
          · exact h1 u hu
          · exact e5 u hu
        have hdr := h.drew
        refine ⟨_, _, e1, ?_⟩
        split at hk
        · obtain ⟨hle, hat⟩ := hdr.imm hall e
          refine ⟨_, _, _, hat.set ?_ (okDst_lt hdst), hk.2⟩
          simp only [Rep]
          refine ⟨_, newCap, rfl, e2, e3, fun _ => ⟨w.heap.size, 0, us, rfl, ?_, RepL.mono hle _ (Psi.le_refl _) (hr.noLL' hk.1)⟩⟩
          intro q u hq
          have := Imm.with_at M w.heap.size (us ++ z) q u (by rw [List.getElem?_append_left]; exact hq; rcases Nat.lt_or_ge q us.length with h' | h'; exact h'; rw [List.getElem?_eq_none h'] at hq; cases hq)
          exact this
        · have hlen := hr.length
          refine ⟨_, _, _, (hdr.new k (cs := news) (us := us ++ z) (by simp; omega) (by rw [← hlen, List.take_left]; exact hr) hall e).set ?_ (okDst_lt hdst), hk⟩
          simp only [Rep]
          refine .inr ⟨⟨w.heap.size, (us ++ z).length⟩, newCap, by simp [Psi.put], rfl, e2, e3, ?_⟩
          simp only [List.length_append, hl, e4, hzl, Nat.zero_add, ← Nat.add_mul]
          congr 1
          omega
      · exact absurd hus hne
theorem evAppendH_ok (h : At E cfg.N M ψ s a w) {t ty e : TypeId} {d : TD} (ht : P.underlying t = some (.slice e)) (hd : TDok P e d) (hpos : 0 < d.size) (hzl : d.zero.length = d.size) {news cs : List AV} {m n cap k : Nat} {b : Option Addr} {us : List Value} {vx : Value}
    (hl : us.length = m * d.size) (hr : RepL M ψ news us) (hno : AV.noLL news = true) (h1 : ∀ u ∈ us, u.oneCell' = true) (hb : (∃ ad, b = some ad ∧ CellsAt w ad us) ∨ (us = [] ∧ news = []))
    (hx : Rep M ψ (.os (.h k) d.size 0 n) vx) (hg : s.H k = some cs) (hn : n * d.size = cs.length) (hby : (n + m) * d.bytes ≤ 140737488355328) (hmax : n + m ≤ 9223372036854775807)
    {dst : Option Nat} (hdst : okDst cfg.N dst = true) {K : AS → Prop} (hk : ∀ k', k' = k ∨ s.H k' = none → K (AS.set { s with H := (s.H.put k none).put k' (some (cs ++ news)) } dst (.os (.h k') d.size 0 (n + m)))) :
    ∃ v w', (Builtin.append_ #[t, t] ty #[vx, .slice b m cap]).run P w = .ok v w' ∧ NextR E cfg.N K (a.put dst v) w' := by
  have hnl := hr.length
  have hrs : RepL M ψ.strip news us := RepL.noL _ hno hr
  have hput : (s.H.put k none).put k (some (cs ++ news)) = s.H.put k (some (cs ++ news)) := by
    funext m'
    simp only [Heap.put]
    split <;> rfl
  have grow : ∀ (bx : Option Addr) (capx : Nat) (olds : List Value), olds.length = n * d.size → RepL M ψ.strip cs olds → (∀ u ∈ olds, u.oneCell' = true) → ((∃ q, bx = some q ∧ CellsAt w q olds) ∨ (bx = none ∧ n = 0 ∧ capx = 0)) → n ≤ capx → capx < n + m →
      ∃ v w', (Builtin.append_ #[t, t] ty #[.slice bx n capx, .slice b m cap]).run P w = .ok v w' ∧ NextR E cfg.N K (a.put dst v) w' := by
    intro bx capx olds ho hro hoo hbx hnc hlt
    have hnews : ∃ ad, b = some ad ∧ CellsAt w ad us := by
      rcases hb with hb | ⟨hus, hnil⟩
      · exact hb
      · exfalso
        rw [hus] at hl
        have : m = 0 := by
          rcases Nat.eq_zero_or_pos m with h' | h'
          · exact h'
          · have := Nat.mul_pos h' hpos; simp only [List.length_nil] at hl; omega
        omega
    obtain ⟨ad, rfl, hcells⟩ := hnews
    obtain ⟨z, newCap, e1, e2, e3, e4, e5⟩ := run_append_grown (P := P) (w := w) (ty := ty) (c := cap) ht hd hl hcells ho hbx hlt (by unfold maxLen; omega) hby
    have hall : ∀ u ∈ olds ++ us ++ z, u.oneCell' = true := fun u hu => by
      simp only [List.mem_append] at hu
      rcases hu with (hu | hu) | hu
      · exact hoo u hu
      · exact h1 u hu
      · exact e5 u hu
    have hol := hro.length
    obtain ⟨B, hB⟩ := h.sr.fin
    have hdr := (h.drew).dropH k
    have hBk : B ≠ k := fun e => by
      have := (hB B (Nat.le_refl _)).2
      have hh : s.H B = none := this
      rw [e, hg] at hh; cases hh
    obtain ⟨hle, hat⟩ := hdr.newH (n := B) (hB B (Nat.le_refl _)).1 (by show (if B = k then none else s.H B) = none; rw [if_neg hBk]; exact (hB B (Nat.le_refl _)).2) (cs := cs ++ news) (us := olds ++ us ++ z) (by simp; omega)
      (by
        have : (olds ++ us ++ z).take (cs ++ news).length = olds ++ us := by rw [List.take_left' (by simp; omega)]
        rw [this]
        exact hro.append hrs) hall e
    refine ⟨_, _, e1, _, _, _, hat.set ?_ (okDst_lt hdst), hk B (.inr (hB B (Nat.le_refl _)).2)⟩
    simp only [Rep]
    refine .inr ⟨⟨w.heap.size, (olds ++ us ++ z).length⟩, newCap, by simp [Psi.putH], rfl, e2, e3, ?_⟩
    simp only [List.length_append, hl, e4, hzl, ho, Nat.zero_add, ← Nat.add_mul]
    congr 1
    omega
  simp only [Rep] at hx
  rcases hx with ⟨_, rfl, bx, rfl⟩ | ⟨i, capx, hi, rfl, hnc, hcm, hsz⟩
  · have hcs : cs = [] := List.eq_nil_of_length_eq_zero (by simpa using hn.symm)
    subst hcs
    by_cases hm : m = 0
    · subst hm
      have hus : us = [] := List.eq_nil_of_length_eq_zero (by simpa using hl)
      subst hus
      have hnews : news = [] := List.eq_nil_of_length_eq_zero (by simpa using hnl.symm)
      subst hnews
      have hk' := hk k (.inl rfl)
      rw [hput] at hk'
      have hsame : s.H.put k (some ([] ++ [])) = s.H := by
        funext m'
        simp only [Heap.put]
        split
        · rename_i e; rw [e, hg]; rfl
        · rfl
      rw [hsame] at hk'
      refine ⟨_, w, run_append_nothing ht hd, _, _, _, h.set ?_ (okDst_lt hdst), hk'⟩
      simp only [Rep]
      exact .inl ⟨by trivial, by trivial, bx, rfl⟩
    · refine grow bx 0 [] (by simp) (by simp only [RepL]) (by simp) ?_ (Nat.le_refl _) (by omega)
      cases bx with
      | none => exact .inr ⟨rfl, rfl, rfl⟩
      | some q => exact .inl ⟨q, rfl, fun j u hj => by simp at hj⟩
  · by_cases hroom : n + m ≤ capx
    · have hfit : cs.length + news.length ≤ i.sz := by
        rw [← hnl, hl, ← hn, ← Nat.add_mul, ← hsz, Nat.zero_add]
        exact Nat.mul_le_mul_right _ hroom
      obtain ⟨vs, T, e1, e2, e3⟩ := h.extendH hg hi hfit hrs h1
      have hrun := run_append_room' (P := P) (w := w) (t := t) (ty := ty) (off := 0) (n := n) (cap := capx) (c := cap) ht hd e1 hl (y := b)
        (by rcases hb with hb | ⟨h', _⟩
            · exact .inl hb
            · subst h'
              cases b with
              | none => exact .inr ⟨rfl, rfl⟩
              | some q => exact .inl ⟨q, rfl, fun j u hj => by simp at hj⟩) h1 hroom (by rw [e2, hl, Nat.zero_add, ← Nat.add_mul, ← hsz, Nat.zero_add]; exact Nat.mul_le_mul_right _ hroom)
      rw [Nat.zero_add, hn] at hrun
      have hk' := hk k (.inl rfl)
      rw [hput] at hk'
      refine ⟨_, _, hrun, _, _, _, e3.set ?_ (okDst_lt hdst), hk'⟩
      simp only [Rep]
      exact .inr ⟨i, capx, hi, rfl, hroom, hcm, hsz⟩
    · obtain ⟨olds, o1, o2, o3, o4⟩ := h.sr.load (l := .h k) (off := 0) (n := cs.length) hg hi (by omega)
      simp only [List.drop_zero, List.take_length, Psi.at] at o2
      exact grow _ capx olds (by rw [o1, hn]) o2 o3 (.inl ⟨_, rfl, fun j u hj => by rw [add_plain]; exact o4 j u hj⟩) hnc (by omega)
theorem evAppendL_ok (h : At E cfg.N M ψ s a w) {t ty e : TypeId} {d : TD} (ht : P.underlying t = some (.slice e)) (hd : TDok P e d) (hpos : 0 < d.size) (hzl : d.zero.length = d.size) {news cs : List AV} {m n cap k : Nat} {b : Option Addr} {us : List Value} {vx : Value}
    (hl : us.length = m * d.size) (hr : RepL M ψ news us) (h1 : ∀ u ∈ us, u.oneCell' = true) (hb : (∃ ad, b = some ad ∧ CellsAt w ad us) ∨ (us = [] ∧ news = []))
    (hx : Rep M ψ (.os (.l k) d.size 0 n) vx) (hg : s.g (.l k) = some cs) (hn : n * d.size = cs.length) (hby : (n + m) * d.bytes ≤ 140737488355328) (hmax : n + m ≤ 9223372036854775807)
    {dst : Option Nat} (hdst : okDst cfg.N dst = true) {K : AS → Prop} (hk : K ((s.new k (AV.killL k (cs ++ news))).set dst (.os (.l k) d.size 0 (n + m)))) :
    ∃ v w', (Builtin.append_ #[t, t] ty #[vx, .slice b m cap]).run P w = .ok v w' ∧ NextR E cfg.N K (a.put dst v) w' := by
  have hnl := hr.length
  have grow : ∀ (bx : Option Addr) (capx : Nat) (olds : List Value), olds.length = n * d.size → RepL M ψ cs olds → (∀ u ∈ olds, u.oneCell' = true) → ((∃ q, bx = some q ∧ CellsAt w q olds) ∨ (bx = none ∧ n = 0 ∧ capx = 0)) → n ≤ capx → capx < n + m →
      ∃ v w', (Builtin.append_ #[t, t] ty #[.slice bx n capx, .slice b m cap]).run P w = .ok v w' ∧ NextR E cfg.N K (a.put dst v) w' := by
    intro bx capx olds ho hro hoo hbx hnc hlt
    have hnews : ∃ ad, b = some ad ∧ CellsAt w ad us := by
      rcases hb with hb | ⟨hus, hnil⟩
      · exact hb
      · exfalso
        rw [hus] at hl
        have : m = 0 := by
          rcases Nat.eq_zero_or_pos m with h' | h'
          · exact h'
          · have := Nat.mul_pos h' hpos; simp only [List.length_nil] at hl; omega
        omega
    obtain ⟨ad, rfl, hcells⟩ := hnews
    obtain ⟨z, newCap, e1, e2, e3, e4, e5⟩ := run_append_grown (P := P) (w := w) (ty := ty) (c := cap) ht hd hl hcells ho hbx hlt (by unfold maxLen; omega) hby
    have hall : ∀ u ∈ olds ++ us ++ z, u.oneCell' = true := fun u hu => by
      simp only [List.mem_append] at hu
      rcases hu with (hu | hu) | hu
      · exact hoo u hu
      · exact h1 u hu
      · exact e5 u hu
    have hol := hro.length
    refine ⟨_, _, e1, _, _, _, (h.drew.new k (cs := cs ++ news) (us := olds ++ us ++ z) (by simp; omega) ?_ hall e).set ?_ (okDst_lt hdst), hk⟩
    · have : (olds ++ us ++ z).take (cs ++ news).length = olds ++ us := by rw [List.take_left' (by simp; omega)]
      rw [this]
      exact hro.append hr
    · simp only [Rep]
      refine .inr ⟨⟨w.heap.size, (olds ++ us ++ z).length⟩, newCap, by simp [Psi.put], rfl, e2, e3, ?_⟩
      simp only [List.length_append, hl, e4, hzl, ho, Nat.zero_add, ← Nat.add_mul]
      congr 1
      omega
  simp only [Rep] at hx
  rcases hx with ⟨_, rfl, bx, rfl⟩ | ⟨i, capx, hi, rfl, hnc, hcm, hsz⟩
  · have hcs : cs = [] := List.eq_nil_of_length_eq_zero (by simpa using hn.symm)
    subst hcs
    by_cases hm : m = 0
    · subst hm
      have hus : us = [] := List.eq_nil_of_length_eq_zero (by simpa using hl)
      subst hus
      have hnews : news = [] := List.eq_nil_of_length_eq_zero (by simpa using hnl.symm)
      subst hnews
      refine ⟨_, w, run_append_nothing ht hd, _, _, _, (h.newEmpty k).set ?_ (okDst_lt hdst), hk⟩
      simp only [Rep]
      exact .inl ⟨by trivial, by trivial, bx, rfl⟩
    · refine grow bx 0 [] (by simp) (by simp only [RepL]) (by simp) ?_ (Nat.le_refl _) (by omega)
      cases bx with
      | none => exact .inr ⟨rfl, rfl, rfl⟩
      | some q => exact .inl ⟨q, rfl, fun j u hj => by simp at hj⟩
  · by_cases hroom : n + m ≤ capx
    · have hfit : cs.length + news.length ≤ i.sz := by
        rw [← hnl, hl, ← hn, ← Nat.add_mul, ← hsz, Nat.zero_add]
        exact Nat.mul_le_mul_right _ hroom
      obtain ⟨vs, T, e1, e2, e3⟩ := h.extend hg hi hfit hr h1
      have hrun := run_append_room' (P := P) (w := w) (t := t) (ty := ty) (off := 0) (n := n) (cap := capx) (c := cap) ht hd e1 hl (y := b)
        (by rcases hb with hb | ⟨h', _⟩
            · exact .inl hb
            · subst h'
              cases b with
              | none => exact .inr ⟨rfl, rfl⟩
              | some q => exact .inl ⟨q, rfl, fun j u hj => by simp at hj⟩) h1 hroom (by rw [e2, hl, Nat.zero_add, ← Nat.add_mul, ← hsz, Nat.zero_add]; exact Nat.mul_le_mul_right _ hroom)
      rw [Nat.zero_add, hn] at hrun
      refine ⟨_, _, hrun, _, _, _, e3.set ?_ (okDst_lt hdst), hk⟩
      simp only [Rep]
      exact .inr ⟨i, capx, hi, rfl, hroom, hcm, hsz⟩
    · obtain ⟨olds, o1, o2, o3, o4⟩ := h.sr.load (off := 0) (n := cs.length) hg hi (by omega)
      simp only [List.drop_zero, List.take_length, Psi.at] at o2
      exact grow _ capx olds (by rw [o1, hn]) o2 o3 (.inl ⟨_, rfl, fun j u hj => by rw [add_plain]; exact o4 j u hj⟩) hnc (by omega)
end
end
section
set_option maxRecDepth 4000
theorem ofVs_length' (l : List Value) : (AV.ofVs l).length = l.length := by
  induction l with
  | nil => rfl
  | cons x l ih => simp [AV.ofVs, ih]
section
variable {P : Program} {D : Types} (hD : Types.ok P D) {E : Ent} {cfg : Cfg} {M : Imm} {ψ : Psi} {s : AS} {a : Act} {w : World}
theorem run_zeroCells {e : TypeId} {d : TD} (hd : TDok P e d) (hpos : 0 < d.size) (hzl : d.zero.length = d.size) (w : World) (n : Nat) : ∃ z, (zeroValue e).run P w = .ok z w ∧ (Builtin.zeroCells z.cells n).toList = (List.replicate n d.zero).flatten := by
  obtain ⟨z, hz, hzc⟩ := run_zeroValue hd w
  refine ⟨z, hz, ?_⟩
  have := zero_row z.cells n
  rw [hzc] at this
  exact this
theorem run_append_make {w : World} {t u ty e : TypeId} {k : IntKind} {d : TD} (htu : t ≠ u) (ht : P.underlying t = some (.slice e)) (hu : P.underlying u = some (.int k)) (hd : TDok P e d) (hpos : 0 < d.size) (hzl : d.zero.length = d.size)
    {b : Addr} {n cap m : Nat} {olds : List Value} (ho : olds.length = n * d.size) (hold : CellsAt w b olds) (hgrow : cap < n + m) (hm0 : m ≠ 0) (hmm : (m : Int) ≤ 9223372036854775807) (hmax : n + m ≤ maxLen) (hby : (n + m) * d.bytes ≤ 140737488355328) :
    ∃ z newCap, (Builtin.append_ #[t, u] ty #[.slice (some b) n cap, .int .i64 m]).run P w = .ok (.slice (some ⟨w.heap.size, 0, none⟩) (n + m) newCap) (w.drew.alloc (.cells ((olds ++ (List.replicate m d.zero).flatten ++ z).toArray) e)) ∧
      n + m ≤ newCap ∧ newCap ≤ maxLen ∧ z.length = (newCap - (n + m)) * d.zero.length ∧ ∀ u ∈ z, u.oneCell' = true := by
  have hd0 := hd
  obtain ⟨⟨i, zv, hi, hs, hb, hz, hzc, hone⟩, _⟩ := hd
  have hge := grownCap_ge w (n + m) cap e
  have hcm : grownCap w (n + m) cap e ≤ maxLen := grownCap_le_maxLen w (n + m) cap e hmax
  have hfit := growslice_fits (bytes := d.bytes) hgrow hby
  obtain ⟨z1, e1, e2⟩ := run_zeroCells hd0 hpos hzl w m
  have hz1 : z1 = zv := by
    have : (zeroValue e).run P w = .ok zv w := by simp [zeroValue, typeInfo, hi, hz]
    rw [this] at e1; cases e1; rfl
  subst hz1
  refine ⟨(Builtin.zeroCells z1.cells (grownCap w (n + m) cap e - (n + m))).toList, grownCap w (n + m) cap e, ?_, hge, hcm, ?_, ?_⟩
  · have hn : ¬ (n + m ≤ cap) := by omega
    have hwrap : IntKind.i64.wrap (m : Int) = m := by rw [IntKind.wrap_i64]; omega
    have hmx : ¬ (9223372036854775807 < ((n : Int) + (m : Int))) := by unfold maxLen at hmax; omega
    have hmb : ¬ (281474976710656 < (m : Int) * (i.bytes : Int)) := by
      rw [hb]
      have : m * d.bytes ≤ (n + m) * d.bytes := Nat.mul_le_mul_right _ (Nat.le_add_left _ _)
      have h2 : m * d.bytes ≤ 140737488355328 := Nat.le_trans this hby
      have h3 : ((m * d.bytes : Nat) : Int) ≤ 140737488355328 := by omega
      rw [Int.natCast_mul] at h3
      omega
    have h48' : ¬ (281474976710656 < Builtin.nextslicecap (n + m) cap * i.bytes) := by rw [hb]; omega
    have hfo := run_firstCells_some (P := P) w.drew i.size n b n cap olds (by rw [hs]; exact ho) (fun j v hj => by have := hold j v hj; simpa using this)
    have hsz0 : i.size ≠ 0 := by rw [hs]; omega
    have hneg : ¬ ((m : Int) < 0) := by omega
    simp [Builtin.append_, run_underlying ht, run_underlying hu, sizeOf, typeInfo, zeroValue, hi, hz, Builtin.lenOf, hn, hmx, hmb, h48', Question.forced, hfo, newRow, grownCap, hwrap, asInt, asIntOf, hm0, hsz0, hneg]
    rw [if_neg (Nat.mul_ne_zero hm0 hsz0)]
    congr 3
    apply Array.ext'
    simp [List.append_assoc, ← e2]
  · simp [Builtin.zeroCells, ← hzc]
  · intro u hu
    simp only [Builtin.zeroCells, Array.toList_map, List.mem_map] at hu
    obtain ⟨q, hq, rfl⟩ := hu
    have hq' : q < (grownCap w (n + m) cap e - (n + m)) * z1.cells.size := by simpa using hq
    have hpos : 0 < z1.cells.size := by
      rcases Nat.eq_zero_or_pos z1.cells.size with h | h
      · rw [h] at hq'; simp at hq'
      · exact h
    have hlt := Nat.mod_lt q hpos
    rw [getElem!_pos z1.cells (q % z1.cells.size) hlt]
    have hm : z1.cells[q % z1.cells.size] ∈ d.zero := by rw [← hzc]; simp
    exact (List.all_eq_true.1 hone) _ hm
theorem At.splice (h : At E cfg.N M ψ s a w) {l : Loc} {cs ds : List AV} {i : LI} {off : Nat} {us : List Value} (hg : s.g l = some cs) (hψ : ψ l = some i) (hn : off + ds.length ≤ cs.length) (hr : RepL M (ψ.at l) ds us) (h1 : ∀ u ∈ us, u.oneCell' = true) :
    ∃ w', (storeCells ⟨i.b, off, none⟩ us).run P w = .ok () w' ∧ At E cfg.N M ψ (s.obj l (cs.take off ++ ds ++ cs.drop (off + ds.length))) a w' := by
  obtain ⟨vs, T, e1, e2, e3⟩ := h.store hg hψ hn hr h1
  have hst := run_storeCells_at P i.b off T us 0 vs w e1 (by simpa using e2) h1
  simp only [Nat.add_zero] at hst
  exact ⟨_, hst, e3⟩
theorem evAppendC_ok (h : At E cfg.N M ψ s a w) {t ty e : TypeId} {d : TD} (ht : P.underlying t = some (.slice e)) (hd : TDok P e d) {news cs : List AV} {m n cap c : Nat} {l : Loc} {b : Option Addr} {us : List Value} {vx : Value}
    (hl : us.length = m * d.size) (hr : RepL M ψ news us) (h1 : ∀ u ∈ us, u.oneCell' = true) (hb : (∃ ad, b = some ad ∧ CellsAt w ad us) ∨ (us = [] ∧ news = []))
    (hx : Rep M ψ (.oc l d.size 0 n c) vx) (hg : s.g l = some cs) (hnm : n + m ≤ c) (hfit : (n + m) * d.size ≤ cs.length) (hno : noLFor l news)
    {dst : Option Nat} (hdst : okDst cfg.N dst = true) {K : AS → Prop} (hk : K ((s.obj l (cs.take (n * d.size) ++ news ++ cs.drop (n * d.size + news.length))).set dst (.oc l d.size 0 (n + m) c))) :
    ∃ v w', (Builtin.append_ #[t, t] ty #[vx, .slice b m cap]).run P w = .ok v w' ∧ NextR E cfg.N K (a.put dst v) w' := by
  simp only [Rep] at hx
  obtain ⟨i, hi, rfl, hnc, hcm, hsz⟩ := hx
  have hnl := hr.length
  have hfit' : n * d.size + news.length ≤ cs.length := by rw [← hnl, hl, ← Nat.add_mul]; exact hfit
  have hr' : RepL M (ψ.at l) news us := by
    cases l with
    | l k => exact hr
    | h k => exact hr.noLL' hno
  obtain ⟨vs, T, e1, e2, e3⟩ := h.store hg hi hfit' hr' h1
  have hrun := run_append_room' (P := P) (w := w) (t := t) (ty := ty) (off := 0) (n := n) (cap := c) (c := cap) ht hd e1 hl (y := b)
    (by rcases hb with hb | ⟨h', _⟩
        · exact .inl hb
        · subst h'
          cases b with
          | none => exact .inr ⟨rfl, rfl⟩
          | some q => exact .inl ⟨q, rfl, fun j u hj => by simp at hj⟩) h1 hnm (by rw [Nat.zero_add]; exact e2)
  rw [Nat.zero_add] at hrun
  refine ⟨_, _, hrun, _, _, _, e3.set ?_ (okDst_lt hdst), hk⟩
  simp only [Rep]
  exact ⟨i, hi, rfl, hnm, hcm, hsz⟩
theorem evMake_ok (h : At E cfg.N M ψ s a w) {t u ty e : TypeId} {k : IntKind} {d : TD} (htu : t ≠ u) (ht : P.underlying t = some (.slice e)) (hu : P.underlying u = some (.int k)) (hd : TDok P e d) (hpos : 0 < d.size) (hzl : d.zero.length = d.size) {cs : List AV} {m n c off : Nat} {l : Loc} {vx : Value}
    (hx : Rep M ψ (.oc l d.size off n c) vx) (hg : s.g l = some cs) (hgrow : c < n + m) (hfit : off + n * d.size ≤ cs.length) (hby : (n + m) * d.bytes ≤ 140737488355328) (hmax : n + m ≤ 9223372036854775807)
    {dst : Option Nat} (hdst : okDst cfg.N dst = true) {K : AS → Prop} (hk : newSl cfg s dst d.size (n + m) ((cs.drop off).take (n * d.size) ++ (List.replicate m (AV.ofVs d.zero)).flatten) K) :
    ∃ v w', (Builtin.append_ #[t, u] ty #[vx, .int .i64 m]).run P w = .ok v w' ∧ NextR E cfg.N K (a.put dst v) w' := by
  simp only [Rep] at hx
  obtain ⟨i, hi, rfl, hnc, hcm, hsz⟩ := hx
  obtain ⟨olds, o1, o2, o3, o4⟩ := h.sr.load (off := off) (n := n * d.size) hg hi hfit
  have o2' : RepL M ψ ((cs.drop off).take (n * d.size)) olds := o2.at_le
  obtain ⟨z, newCap, e1, e2, e3, e4, e5⟩ := run_append_make (P := P) (w := w) (ty := ty) htu ht hu hd hpos hzl (b := ⟨i.b, off, none⟩) (n := n) (cap := c) (m := m) (olds := olds) o1 (fun j u hj => by rw [add_plain]; exact o4 j u hj) hgrow (by omega) (by omega) (by unfold maxLen; omega) hby
  have hz1 : ∀ u ∈ d.zero, u.oneCell' = true := by
    obtain ⟨⟨_, _, _, _, _, _, _, q⟩, _⟩ := hd
    simpa using q
  have hzr : RepL M ψ (List.replicate m (AV.ofVs d.zero)).flatten (List.replicate m d.zero).flatten := (RepL.ofVs M ψ d.zero).flatten m
  have hzlen : ((List.replicate m d.zero).flatten).length = m * d.size := by simp [hzl]
  have hall : ∀ u ∈ olds ++ (List.replicate m d.zero).flatten ++ z, u.oneCell' = true := fun u hu => by
    simp only [List.mem_append] at hu
    rcases hu with (hu | hu) | hu
    · exact o3 u hu
    · simp only [List.mem_flatten, List.mem_replicate] at hu
      obtain ⟨q, ⟨_, rfl⟩, hu⟩ := hu
      exact hz1 u hu
    · exact e5 u hu
  have hr := o2'.append hzr
  have hrl := hr.length
  have htk : (olds ++ (List.replicate m d.zero).flatten ++ z).take ((cs.drop off).take (n * d.size) ++ (List.replicate m (AV.ofVs d.zero)).flatten).length = olds ++ (List.replicate m d.zero).flatten := List.take_left' hrl
  cases dst with
  | none => exact hk.elim
  | some q =>
    simp only [newSl] at hk
    refine ⟨_, _, e1, ?_⟩
    have hlen2 : (olds ++ (List.replicate m d.zero).flatten).length = (n + m) * d.size := by rw [List.length_append, o1, hzlen, Nat.add_mul]
    split at hk
    · obtain ⟨hle, hat⟩ := h.drew.imm hall e
      refine ⟨_, _, _, hat.set ?_ (okDst_lt hdst), hk.2⟩
      simp only [Rep]
      refine ⟨_, newCap, rfl, e2, e3, fun _ => ⟨w.heap.size, 0, _, rfl, ?_, RepL.mono hle _ (Psi.le_refl _) (hr.noLL' hk.1)⟩⟩
      intro j u hj
      have := Imm.with_at M w.heap.size (olds ++ (List.replicate m d.zero).flatten ++ z) j u (by rw [List.getElem?_append_left]; exact hj; rcases Nat.lt_or_ge j (olds ++ (List.replicate m d.zero).flatten).length with h' | h'; exact h'; rw [List.getElem?_eq_none h'] at hj; cases hj)
      exact this
    · refine ⟨_, _, _, (h.drew.new q (cs := (cs.drop off).take (n * d.size) ++ (List.replicate m (AV.ofVs d.zero)).flatten) (us := olds ++ (List.replicate m d.zero).flatten ++ z) (by rw [← hrl]; simp) (by rw [htk]; exact hr) hall e).set ?_ (okDst_lt hdst), hk⟩
      simp only [Rep]
      refine .inr ⟨⟨w.heap.size, (olds ++ (List.replicate m d.zero).flatten ++ z).length⟩, newCap, by simp [Psi.put], rfl, e2, e3, ?_⟩
      simp only [Nat.zero_add]
      rw [List.length_append, hlen2, e4, hzl, ← Nat.add_mul]
      congr 1
      omega
theorem evClear_ok (h : At E cfg.N M ψ s a w) {t ty e : TypeId} {d : TD} (ht : P.underlying t = some (.slice e)) (hd : TDok P e d) (hzl : d.zero.length = d.size) {cs : List AV} {n c off : Nat} {l : Loc} {vx : Value}
    (hx : Rep M ψ (.oc l d.size off n c) vx) (hg : s.g l = some cs) (hfit : off + n * d.size ≤ cs.length)
    {dst : Option Nat} (hdst : okDst cfg.N dst = true) {K : AS → Prop} (hk : K ((s.obj l (cs.take off ++ (List.replicate n (AV.ofVs d.zero)).flatten ++ cs.drop (off + n * d.size))).set dst (.v undef))) :
    ∃ w', (Builtin.clear_ #[t] ty #[vx]).run P w = .ok (.tuple #[]) w' ∧ NextR E cfg.N K (a.put dst undef) w' := by
  simp only [Rep] at hx
  obtain ⟨i, hi, rfl, hnc, hcm, hsz⟩ := hx
  have hz1 : ∀ u ∈ d.zero, u.oneCell' = true := by
    obtain ⟨⟨_, _, _, _, _, _, _, q⟩, _⟩ := hd
    simpa using q
  obtain ⟨z, hz, hzc⟩ := run_zeroValue hd w
  have hzz : (Builtin.zeroCells z.cells n).toList = (List.replicate n d.zero).flatten := by
    have := zero_row z.cells n
    rw [hzc] at this
    exact this
  have hlen : ((List.replicate n (AV.ofVs d.zero)).flatten).length = n * d.size := by simp [ofVs_length', hzl]
  obtain ⟨w', e1, e2⟩ := h.splice (P := P) hg hi (off := off) (ds := (List.replicate n (AV.ofVs d.zero)).flatten) (us := (List.replicate n d.zero).flatten) (by rw [hlen]; exact hfit) ((RepL.ofVs M _ d.zero).flatten n) (by
    intro u hu
    simp only [List.mem_flatten, List.mem_replicate] at hu
    obtain ⟨q, ⟨_, rfl⟩, hu⟩ := hu
    exact hz1 u hu)
  rw [hlen] at e2
  by_cases hn : n = 0
  · subst hn
    have hsame : cs.take off ++ (List.replicate 0 (AV.ofVs d.zero)).flatten ++ cs.drop (off + 0 * d.size) = cs := by simp
    rw [hsame] at hk
    have hge : (s.obj l cs).g = s.g := by
      rw [AS.obj_g]
      funext x
      by_cases e : x = l
      · subst e; rw [upd_same, hg]
      · rw [upd_other _ _ e]
    have hat : At E cfg.N M ψ (s.obj l cs) a w := ⟨by rw [hge]; exact h.since, by rw [hge]; exact h.sr, by cases l <;> exact h.sl, h.n, h.d⟩
    exact ⟨w, by simp [Builtin.clear_, run_underlying ht], M, ψ, _, hat.set (rep_v M ψ undef) (okDst_lt hdst), hk⟩
  · refine ⟨w', ?_, M, ψ, _, e2.set (rep_v M ψ undef) (okDst_lt hdst), hk⟩
    obtain ⟨n', rfl⟩ : ∃ n', n = n' + 1 := ⟨n - 1, by omega⟩
    simp [Builtin.clear_, run_underlying ht, hz, hzz, e1]
theorem evCopy_ok (h : At E cfg.N M ψ s a w) {t t' ty e : TypeId} {d : TD} (ht : P.underlying t = some (.slice e)) (hd : TDok P e d) {news cs : List AV} {m n c off cap : Nat} {l : Loc} {b : Option Addr} {us : List Value} {vx : Value}
    (hl : us.length = m * d.size) (hr : RepL M ψ news us) (h1 : ∀ u ∈ us, u.oneCell' = true) (hb : (∃ ad, b = some ad ∧ CellsAt w ad us) ∨ (us = [] ∧ news = []))
    (hx : Rep M ψ (.oc l d.size off n c) vx) (hg : s.g l = some cs) (hfit : off + n * d.size ≤ cs.length) (hno : noLFor l news)
    {dst : Option Nat} (hdst : okDst cfg.N dst = true) {K : AS → Prop} (hk : K ((s.obj l (cs.take off ++ news.take (min m n * d.size) ++ cs.drop (off + min m n * d.size))).set dst (.v (.int .i64 (min m n : Nat))))) :
    ∃ v w', (Builtin.copy_ #[t, t'] ty #[vx, .slice b m cap]).run P w = .ok v w' ∧ NextR E cfg.N K (a.put dst v) w' := by
  simp only [Rep] at hx
  obtain ⟨i, hi, rfl, hnc, hcm, hsz⟩ := hx
  have hnl := hr.length
  have hsz' := run_sizeOf hd w
  have hq : min m n * d.size ≤ news.length := by rw [← hnl, hl]; exact Nat.mul_le_mul_right _ (Nat.min_le_left _ _)
  have hlen : (news.take (min m n * d.size)).length = min m n * d.size := by rw [List.length_take]; omega
  have hr' : RepL M (ψ.at l) news us := by
    cases l with
    | l k => exact hr
    | h k => exact hr.noLL' hno
  have hmn : min m n * d.size ≤ n * d.size := Nat.mul_le_mul_right _ (Nat.min_le_right _ _)
  obtain ⟨w', e1, e2⟩ := h.splice (P := P) hg hi (off := off) (ds := news.take (min m n * d.size)) (us := us.take (min m n * d.size)) (by rw [hlen]; omega) (hr'.take _) (fun u hu => h1 u (List.mem_of_mem_take hu))
  rw [hlen] at e2
  have hf : (Builtin.firstCells d.size (min m n) (.slice b m cap)).run P w = .ok (us.take (min m n * d.size)).toArray w := by
    rcases hb with ⟨ad, rfl, hc⟩ | ⟨rfl, _⟩
    · refine run_firstCells_some (P := P) w d.size (min m n) ad m cap _ (by rw [List.length_take]; omega) (fun j v hj => hc j v ?_)
      rw [List.getElem?_take] at hj
      split at hj
      · exact hj
      · cases hj
    · simp at hl
      have h0 : min m n * d.size = 0 := by
        have : min m n * d.size ≤ m * d.size := Nat.mul_le_mul_right _ (Nat.min_le_left _ _)
        omega
      cases b with
      | none => simp [Builtin.firstCells]
      | some ad => exact run_firstCells_some (P := P) w d.size (min m n) ad m cap _ (by simp [h0]) (fun j v hj => by simp at hj)
  refine ⟨.int .i64 (min m n : Nat), w', ?_, M, ψ, _, e2.set (by simp only [Rep]) (okDst_lt hdst), hk⟩
  have hmin : Nat.min m n = min m n := rfl
  simp [Builtin.copy_, run_underlying ht, Builtin.lenOf, hmin, hsz', hf, e1, goInt]
end
end
end Go.Eng
