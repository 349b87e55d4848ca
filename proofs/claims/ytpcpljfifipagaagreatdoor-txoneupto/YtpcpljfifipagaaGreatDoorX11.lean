/- A part of the proof: the engine that walks Go code, the walks of the broker, or their laws (TvEngX). -/
import Derived.Test.YtpcpljfifipagaaGreatDoorX10
import Derived.MapKept
set_option linter.unusedSimpArgs false
set_option linter.unusedVariables false
namespace Go.Eng
def MapAt (E : Ent) (b : Nat) (ns : List Int) (w : World) : Prop :=
  E.w.heap.size ≤ b ∧ ∃ es clk, w.heap[b]? = some (.map es clk) ∧ es.toList.map (fun x => (x.key, x.val)) = ns.map fun n => (Value.int .i64 n, Value.int .i64 1)
def QX (E : Ent) (N : Nat) (b : Nat) (Q : AX → AS → List Int → Prop) : Exit → Act → World → Prop
  | .normal, a, w => ∃ M ψ s m, At E N M ψ s a w ∧ MapAt E b m w ∧ Q .normal s m
  | .exit id, a, w => ∃ M ψ s m, At E N M ψ s a w ∧ MapAt E b m w ∧ Q (.exit id) s m
  | .goto l, a, w => ∃ M ψ s m, At E N M ψ s a w ∧ MapAt E b m w ∧ Q (.goto l) s m
  | .ret, a, w => ∃ M ψ s m, At E N M ψ s a w ∧ MapAt E b m w ∧ Q .ret s m
  | .panic chain, a, w => ∃ M ψ s S' x v m, At E N M ψ s a w ∧ chain = [{ v, recovered := false }] ∧ Rep M ψ x v ∧ Q (.panic x) { s with S := S' } m
  | .outgrown, _, _ => False
def JX (P : Program) (E : Ent) (N b : Nat) (c : Code) (Q : AX → AS → List Int → Prop) (s : AS) (m : List Int) : Prop :=
  ∀ M ψ a w, At E N M ψ s a w → MapAt E b m w → c.wp P (QX E N b Q) a w
def thenX (n : AS → List Int → Prop) (Q : AX → AS → List Int → Prop) : AX → AS → List Int → Prop
  | .normal, s, m => n s m
  | e, s, m => Q e s m
def blockX (id : Nat) (Q : AX → AS → List Int → Prop) : AX → AS → List Int → Prop
  | .exit i, s, m => if i = id then Q .normal s m else Q (.exit i) s m
  | e, s, m => Q e s m
section
variable {P : Program} {D : Types} (hD : Types.ok P D) {E : Ent} {cfg : Cfg} {N b : Nat} {M : Imm} {ψ : Psi} {s : AS} {m : List Int} {a : Act} {w : World} {Q : AX → AS → List Int → Prop}
theorem MapAt.stays (hat : At E N M ψ s a w) (hm : MapAt E b m w) {M' : Imm} {ψ' : Psi} {s' : AS} {a' : Act} {w' : World} (k : At (E.here M ψ s w) N M' ψ' s' a' w') : MapAt E b m w' := by
  obtain ⟨h1, es, clk, h2, h3⟩ := hm
  refine ⟨h1, es, clk, ?_, h3⟩
  have hlt : b < w.heap.size := by
    rcases Nat.lt_or_ge b w.heap.size with h | h
    · exact h
    · rw [Array.getElem?_eq_none h] at h2; cases h2
  rw [← h2]
  refine k.since.blk b hlt ?_
  intro l i hl hi e
  obtain ⟨cs, hc⟩ := Option.isSome_iff_exists.mp hl
  obtain ⟨vs, T, h4, _⟩ := hat.sr.obj l cs hc i hi
  subst e
  have h2' : w.heap[i.b]? = some (.map es clk) := h2
  rw [h4] at h2'
  cases h2'
theorem JX_seq {x y : Code} (h : JX P E N b x (thenX (JX P E N b y Q) Q) s m) : JX P E N b (.seq x y) Q s m := by
  intro M ψ a w hat hm
  refine wp_seq (wp_mono (h M ψ a w hat hm) ?_)
  intro e a' w' h'
  cases e with
  | normal => obtain ⟨M', ψ', s', m', h1, h2, h3⟩ := h'; exact h3 M' ψ' a' w' h1 h2
  | exit id => exact h'
  | goto l => exact h'
  | ret => exact h'
  | panic chain => exact h'
  | outgrown => exact h'
theorem JX_seq' {x y : Code} (h : ∀ K : AS → List Int → Prop, (∀ s' m', JX P E N b y Q s' m' → K s' m') → JX P E N b x (thenX K Q) s m) : JX P E N b (.seq x y) Q s m :=
  JX_seq (h _ fun _ _ h => h)
theorem JX_cond {c : Operand} {x y : Code} {t : Bool} (hc : evA s.S c = .v (.bool t)) (ht : t = true → JX P E N b x Q s m) (hf : t = false → JX P E N b y Q s m) : JX P E N b (.cond c x y) Q s m := by
  intro M ψ a w hat hm
  have hr := Rep.evA hat.sl c
  rw [hc] at hr
  simp only [Rep] at hr
  exact wp_cond_split hr (fun e => ht e M ψ a w hat hm) (fun e => hf e M ψ a w hat hm)
theorem JX_block {id : Nat} {c : Code} (h : JX P E N b c (blockX id Q) s m) : JX P E N b (.block id c) Q s m := by
  intro M ψ a w hat hm
  refine wp_block (wp_mono (h M ψ a w hat hm) ?_)
  intro e a' w' h'
  cases e with
  | normal => exact h'
  | exit i =>
    obtain ⟨M', ψ', s', m', h1, h1', h2⟩ := h'
    simp only [Exit.inBlock]
    simp only [blockX] at h2
    split
    · rename_i e; rw [if_pos e] at h2; exact ⟨M', ψ', s', m', h1, h1', h2⟩
    · rename_i e; rw [if_neg e] at h2; exact ⟨M', ψ', s', m', h1, h1', h2⟩
  | goto l => exact h'
  | ret => exact h'
  | panic chain => exact h'
  | outgrown => exact h'
theorem JX_skip (h : Q .normal s m) : JX P E N b .skip Q s m := fun M ψ a w hat hm => wp_skip ⟨M, ψ, s, m, hat, hm, h⟩
theorem JX_exit {id : Nat} (h : Q (.exit id) s m) : JX P E N b (.exit id) Q s m := fun M ψ a w hat hm => wp_exit ⟨M, ψ, s, m, hat, hm, h⟩
theorem JX_ret (h : Q .ret s m) : JX P E N b .ret Q s m := fun M ψ a w hat hm => wp_ret ⟨M, ψ, s, m, hat, hm, h⟩
theorem JX_loop {c : Code} (R : Nat → AS → List Int → Prop) {n : Nat} (h0 : R n s m) (h : ∀ n s m, R n s m → ∀ K : AS → List Int → Prop, (∀ k s' m', k < n → R k s' m' → K s' m') → JX P E N b c (thenX K Q) s m) : JX P E N b (.loop c) Q s m := by
  intro M ψ a w hat hm bb k cs
  have key : ∀ n s m M ψ a w, R n s m → At E N M ψ s a w → MapAt E b m w → ∃ e a' w', QX E N b Q e a' w' ∧ Arrives P (lone (bb.at a (.code c :: .inLoop c :: k)) cs w) bb k cs e a' w' := by
    intro n
    induction n using Nat.strongRecOn with
    | _ n ih =>
      intro s m M ψ a w hR hat hm
      obtain ⟨e, a₁, w₁, hq, harr⟩ := h n s m hR (fun s' m' => ∃ k, k < n ∧ R k s' m') (fun k s' m' h1 h2 => ⟨k, h1, h2⟩) M ψ a w hat hm bb (.inLoop c :: k) cs
      cases e with
      | normal =>
        obtain ⟨M', ψ', s', m', h1, h1', j, hj, hR'⟩ := hq
        obtain ⟨e₂, a₂, w₂, hq₂, harr₂⟩ := ih j hj s' m' M' ψ' a₁ w₁ hR' h1 h1'
        exact ⟨e₂, a₂, w₂, hq₂, .of_steps (Steps.trans harr (.one step_inLoop)) harr₂⟩
      | exit id => exact ⟨.exit id, a₁, w₁, hq, .pass (x := .inLoop c) rfl (fun _ _ => .inl (by simp)) harr⟩
      | goto l => exact ⟨.goto l, a₁, w₁, hq, .pass (x := .inLoop c) rfl (fun _ _ => .inl (by simp)) harr⟩
      | ret => exact ⟨.ret, a₁, w₁, hq, .pass (x := .inLoop c) rfl (fun _ _ => .inl (by simp)) harr⟩
      | panic ch => exact ⟨.panic ch, a₁, w₁, hq, .pass (x := .inLoop c) rfl (fun _ _ => .inl (by simp)) harr⟩
      | outgrown => exact hq.elim
  obtain ⟨e, a', w', hq, harr⟩ := key n s m M ψ a w h0 hat hm
  exact ⟨e, a', w', hq, .of_steps (.one step_loop) harr⟩
theorem JX_has {c : Code} {T : Slots} {L : List (Nat × List AV)} {H : Heap} (h : Has T L H s) (hJ : JX P E N b c Q ⟨T, L, H⟩ m) : JX P E N b c Q s m := by
  obtain ⟨S, L', H'⟩ := s
  obtain ⟨h1, h2, h3⟩ := h
  simp only at h1 h2 h3
  subst h2; subst h3
  intro M ψ a w hat hm
  refine hJ M ψ a w ⟨hat.since, hat.sr, fun k => ?_, hat.n, hat.d⟩ hm
  rcases subS_look h1 k with e | e
  · rw [e]; exact hat.sl k
  · rw [e]; simp only [Rep]
def evOpM (P : Program) (D : Types) (cfg : Cfg) (tm b : Nat) (o : Oper) (s : AS) (m : List Int) (Kp : AV → AS → List Int → Prop) (K : AS → List Int → Prop) : Prop :=
  match o.op with
  | .lookup t x k false => okDst cfg.N o.dst = true ∧ t = tm ∧ evA s.S x = .v (.map (some b)) ∧
      match evA s.S k with
      | .v (.int .i64 n) => K (s.set o.dst (.v (.int .i64 (if n ∈ m then 1 else 0)))) m
      | _ => False
  | .mapUpdate t x k v => okDst cfg.N o.dst = true ∧ t = tm ∧ evA s.S x = .v (.map (some b)) ∧ evA s.S v = .v (.int .i64 1) ∧
      match evA s.S k with
      | .v (.int .i64 n) => n ∉ m ∧ K (s.set o.dst (.v undef)) (m ++ [n])
      | _ => False
  | _ => evOp P D cfg o s (fun x s' => Kp x s' m) fun s' => K s' m
def evOpsM (P : Program) (D : Types) (cfg : Cfg) (tm b : Nat) (all : List Oper) : List Oper → AS → List Int → (AV → AS → List Int → Prop) → (AS → List Int → Prop) → Prop
  | [], s, m, _, K => K s m
  | o :: rest, s, m, Kp, K =>
    match o.guard with
    | none => evOpM P D cfg tm b o s m Kp fun s' m' => evOpsM P D cfg tm b all rest s' m' Kp K
    | some (j, want) =>
      match guardSlot all j with
      | some d =>
        match lookS s.S d with
        | .v (.bool c) => guardB c want (evOpM P D cfg tm b o (s.set (some d) (.v (.bool want))) m Kp fun s' m' => evOpsM P D cfg tm b all rest s' m' Kp K) (okDst cfg.N o.dst = true ∧ evOpsM P D cfg tm b all rest ((s.set (some d) (.v (.bool (!want)))).set o.dst (.v undef)) m Kp K)
        | x => x.isUnd = true ∧ okDst cfg.N o.dst = true ∧ evOpsM P D cfg tm b all rest (s.set o.dst (.v undef)) m Kp K
      | none => False
include hD in
theorem evOpM_ok {tm : Nat} (hm1 : P.underlying tm = some (.map 3 3)) (hm2 : P.underlying 3 = some (.int .i64)) (hm3 : ∀ w, (zeroValue 3).run P w = .ok (.int .i64 0) w)
    (h : At E cfg.N M ψ s a w) (hm : MapAt E b m w) (o : Oper) {K : AS → List Int → Prop} (hev : evOpM P D cfg tm b o s m (fun x s m => Q (.panic x) s m) K) {next : Act → World → Prop}
    (hn : ∀ a w, (∃ M ψ s m, At E cfg.N M ψ s a w ∧ MapAt E b m w ∧ K s m) → next a w) : o.wp P a w next (QX E cfg.N b Q) := by
  have A := fun x => Rep.evA h.sl x
  unfold evOpM at hev
  split at hev
  · rename_i t x k hop
    obtain ⟨hd, rfl, hx, hk⟩ := hev
    split at hk
    · rename_i n hkn
      obtain ⟨hb, es, clk, hh, hes⟩ := hm
      have ex := A x
      rw [hx] at ex
      simp only [Rep] at ex
      have ek := A k
      rw [hkn] at ek
      simp only [Rep] at ek
      have hkeys : ∀ y ∈ es.toList, ∃ n ∈ m, y.key = .int .i64 n ∧ y.val = .int .i64 1 := by
        intro y hy
        have : (y.key, y.val) ∈ m.map fun n => (Value.int .i64 n, Value.int .i64 1) := by rw [← hes]; exact List.mem_map_of_mem hy
        obtain ⟨n, hn, e⟩ := List.mem_map.mp this
        simp only [Prod.mk.injEq] at e
        exact ⟨n, hn, e.1.symm, e.2.symm⟩
      have hkey : MapKept.IsKey (.int .i64) (.int .i64 n) := rfl
      have hrun : (execOp a.eval o).run P w = .ok (.value (.int .i64 (if n ∈ m then 1 else 0))) w := by
        rcases MapKept.findNow_spec hkey es.toList 0 (fun y hy => by obtain ⟨n', _, e, _⟩ := hkeys y hy; rw [e]; rfl) with ⟨h1, h2⟩ | ⟨j, e0, h1, h2, h3⟩
        · have hno : n ∉ m := by
            intro hmem
            have : (Value.int .i64 n, Value.int .i64 1) ∈ es.toList.map fun x => (x.key, x.val) := by rw [hes]; exact List.mem_map.mpr ⟨n, hmem, rfl⟩
            obtain ⟨y, hy, e⟩ := List.mem_map.mp this
            simp only [Prod.mk.injEq] at e
            exact h2 y hy e.1
          rw [if_neg hno]
          simp [execOp, hop, Instr.lookup, run_underlying hm1, ex, ek, MapKept.run_getObj_map hh, MapKept.run_checkKey hm2 hkey, MapKept.run_findKey hm2 h1, hm3, Result.andThen]
        · obtain ⟨n', hn', e1, e2⟩ := hkeys e0 (List.mem_of_getElem? h2)
          have : n' = n := by rw [e1] at h3; cases h3; rfl
          subst this
          rw [if_pos hn']
          rw [e2] at h1
          simp [execOp, hop, Instr.lookup, run_underlying hm1, ex, ek, MapKept.run_getObj_map hh, MapKept.run_checkKey hm2 hkey, MapKept.run_findKey hm2 h1, Result.andThen]
      unfold Oper.wp
      rw [hrun, Oper.upon_value]
      exact hn _ _ ⟨M, ψ, _, m, h.set (by simp only [Rep]) (okDst_lt hd), ⟨hb, es, clk, hh, hes⟩, hk⟩
    · exact hk.elim
  · rename_i t x k v hop
    obtain ⟨hd, rfl, hx, hv, hk⟩ := hev
    split at hk
    · rename_i n hkn
      obtain ⟨hno, hk⟩ := hk
      obtain ⟨hb, es, clk, hh, hes⟩ := hm
      have ex := A x
      rw [hx] at ex
      simp only [Rep] at ex
      have ek := A k
      rw [hkn] at ek
      simp only [Rep] at ek
      have ev := A v
      rw [hv] at ev
      simp only [Rep] at ev
      have hkeys : ∀ y ∈ es.toList, ∃ n ∈ m, y.key = .int .i64 n ∧ y.val = .int .i64 1 := by
        intro y hy
        have : (y.key, y.val) ∈ m.map fun n => (Value.int .i64 n, Value.int .i64 1) := by rw [← hes]; exact List.mem_map_of_mem hy
        obtain ⟨n, hn, e⟩ := List.mem_map.mp this
        simp only [Prod.mk.injEq] at e
        exact ⟨n, hn, e.1.symm, e.2.symm⟩
      have hkey : MapKept.IsKey (.int .i64) (.int .i64 n) := rfl
      have hlt : b < w.heap.size := by
        rcases Nat.lt_or_ge b w.heap.size with h | h
        · exact h
        · rw [Array.getElem?_eq_none h] at hh; cases hh
      let o' : Obj := .map (es.push { key := .int .i64 n, val := .int .i64 1, born := clk }) (clk + 1)
      let w' : World := { w with heap := w.heap.setIfInBounds b o' }
      have hrun : (execOp a.eval o).run P w = .ok .skip w' := by
        rcases MapKept.findNow_spec hkey es.toList 0 (fun y hy => by obtain ⟨n', _, e, _⟩ := hkeys y hy; rw [e]; rfl) with ⟨h1, h2⟩ | ⟨j, e0, h1, h2, h3⟩
        · simp [execOp, hop, Instr.mapUpdate, run_underlying hm1, ex, ek, ev, MapKept.run_getObj_map hh, MapKept.run_checkKey hm2 hkey, MapKept.run_findKey hm2 h1, MapKept.run_setObj_map _ hh, Result.andThen, w', o']
        · obtain ⟨n', hn', e1, e2⟩ := hkeys e0 (List.mem_of_getElem? h2)
          have : n' = n := by rw [e1] at h3; cases h3; rfl
          subst this
          exact absurd hn' hno
      have hother : ∀ c, c ≠ b → w'.heap[c]? = w.heap[c]? := fun c hc => by
        show (w.heap.setIfInBounds b o')[c]? = _
        rw [Array.getElem?_setIfInBounds_ne (Ne.symm hc)]
      have hcells : ∀ c vs T fz, w.heap[c]? = some (.cells vs T fz) → c ≠ b := by
        intro c vs T fz hc e
        subst e
        have hh' : w.heap[c]? = some (.map es clk) := hh
        rw [hc] at hh'
        cases hh'
      have hat : At E cfg.N M ψ s a w' := by
        refine ⟨⟨h.since.os, h.since.tape, h.since.output, ?_, ?_, h.since.le, h.since.psi, h.since.newM, h.since.newψ, h.since.live⟩, ⟨?_, ?_, h.sr.empt, h.sr.apart, h.sr.mt, h.sr.sep, ?_, h.sr.fin⟩, h.sl, h.n, h.d⟩
        · show _ ≤ (w.heap.setIfInBounds b o').size
          rw [Array.size_setIfInBounds]; exact h.since.size
        · intro c hc hno
          rw [hother c (by omega)]
          exact h.since.blk c hc hno
        · intro c off u hu
          obtain ⟨e1, e2⟩ := h.sr.imm c off u hu
          refine ⟨?_, e2⟩
          have hne : c ≠ b := by
            rintro rfl
            have hh' : w.heap[c]? = some (.map es clk) := hh
            simp [World.cell?, hh'] at e1
          rw [← e1]
          simp only [World.cell?]
          rw [hother c hne]
        · intro l cs hl i hi
          obtain ⟨vs, T, q1, q2⟩ := h.sr.obj l cs hl i hi
          exact ⟨vs, T, by rw [hother _ (hcells _ _ _ _ q1)]; exact q1, q2⟩
        · intro l i hi
          show _ < (w.heap.setIfInBounds b o').size
          rw [Array.size_setIfInBounds]; exact h.sr.lt l i hi
      have hmap : MapAt E b (m ++ [n]) w' := by
        refine ⟨hb, es.push { key := .int .i64 n, val := .int .i64 1, born := clk }, clk + 1, ?_, ?_⟩
        · show (w.heap.setIfInBounds b o')[b]? = _
          rw [Array.getElem?_setIfInBounds_self_of_lt hlt]
        · rw [Array.toList_push, List.map_append, List.map_append, hes]; rfl
      unfold Oper.wp
      rw [hrun, Oper.upon_skip]
      exact hn _ _ ⟨M, ψ, _, _, hat.set (rep_v _ _ _) (okDst_lt hd), hmap, hk⟩
    · exact hk.elim
  · refine evOp_ok hD h.here o hev ?_ ?_
    · intro x s' M' ψ' v a' w' h1 h2 h3
      exact ⟨M', ψ', s', s'.S, x, v, m, h.back h1, rfl, h2, h3⟩
    · rintro a' w' ⟨M', ψ', s', h1, h2⟩
      exact hn _ _ ⟨M', ψ', s', m, h.back h1, hm.stays h h1, h2⟩
include hD in
theorem evOpsM_ok {tm : Nat} (hm1 : P.underlying tm = some (.map 3 3)) (hm2 : P.underlying 3 = some (.int .i64)) (hm3 : ∀ w, (zeroValue 3).run P w = .ok (.int .i64 0) w)
    (all : List Oper) : ∀ (rest : List Oper) (k : Nat) (s : AS) (m : List Int) (M : Imm) (ψ : Psi) (a : Act) (w : World), all.drop k = rest → At E cfg.N M ψ s a w → MapAt E b m w →
    evOpsM P D cfg tm b all rest s m (fun x s m => Q (.panic x) s m) (Q .normal) → wpOps P all.toArray (QX E cfg.N b Q) (List.range' k rest.length) a w := by
  intro rest
  induction rest with
  | nil =>
    intro k s m M ψ a w _ h hm hev
    simp only [List.length_nil, List.range'_zero, wpOps]
    exact ⟨M, ψ, s, m, h, hm, hev⟩
  | cons o rest ih =>
    intro k s m M ψ a w hdrop h hm hev
    have hk : all[k]? = some o := by
      have := congrArg (fun l => l[0]?) hdrop
      simpa using this
    have hdrop' : all.drop (k + 1) = rest := by
      have := congrArg List.tail hdrop
      simpa using this
    have hk' : all.toArray[k]? = some o := by simpa using hk
    simp only [List.length_cons, List.range'_succ, wpOps, hk']
    have step : ∀ s, At E cfg.N M ψ s a w → evOpM P D cfg tm b o s m (fun x s m => Q (.panic x) s m) (fun s' m' => evOpsM P D cfg tm b all rest s' m' (fun x s m => Q (.panic x) s m) (Q .normal)) → o.wp P a w (wpOps P all.toArray (QX E cfg.N b Q) (List.range' (k + 1) rest.length)) (QX E cfg.N b Q) := by
      intro s h hop
      refine evOpM_ok hD hm1 hm2 hm3 h hm o hop ?_
      rintro a' w' ⟨M', ψ', s', m', h1, h2, h3⟩
      exact ih (k + 1) s' m' M' ψ' a' w' hdrop' h1 h2 h3
    have skip : ∀ s, At E cfg.N M ψ s a w → okDst cfg.N o.dst = true → evOpsM P D cfg tm b all rest (s.set o.dst (.v undef)) m (fun x s m => Q (.panic x) s m) (Q .normal) → wpOps P all.toArray (QX E cfg.N b Q) (List.range' (k + 1) rest.length) (a.put o.dst undef) w :=
      fun s h hd hr => ih (k + 1) _ m M ψ _ w hdrop' (h.set (rep_v _ _ _) (okDst_lt hd)) hm hr
    simp only [evOpsM] at hev
    split at hev
    · rename_i hg
      simp only [Region.wanted, hg, if_true]
      exact .inl (step s h hev)
    · rename_i j want hg
      split at hev
      · rename_i d hd
        have hy : ((all.toArray[j]?).bind (·.dst)) = some d := by simpa [guardSlot] using hd
        have hrep := h.sl.look d
        split at hev
        · rename_i c hb
          rw [hb] at hrep
          simp only [Rep] at hrep
          have hyl : yielded all.toArray a.tmps j = some c := by
            unfold yielded
            rw [hy]
            simp [getElem?_of_getD hrep]
          simp only [Region.wanted, hg, hyl]
          by_cases hbw : c = want
          · subst hbw
            simp only [BEq.rfl, if_true]
            exact .inl (step _ (h.wit (by rw [hrep]; exact rep_v _ _ _)) (hev.1 rfl))
          · have : (some c == some want) = false := by simpa using hbw
            simp only [this, Bool.false_eq_true, if_false]
            have hb' : c = !want := by cases c <;> cases want <;> simp_all
            obtain ⟨e1, e2⟩ := hev.2 hb'
            exact skip _ (h.wit (by rw [hrep, hb']; exact rep_v _ _ _)) e1 e2
        · rename_i x hne
          obtain ⟨hu, e1, e2⟩ := hev
          have hyl : yielded all.toArray a.tmps j = none := by
            unfold yielded
            rw [hy]
            generalize lookS s.S d = x at *
            unfold AV.isUnd at hu
            split at hu
            · simp only [Rep] at hrep
              rw [Array.getD_eq_getD_getElem?] at hrep
              simp only [Option.bind_some]
              cases hh : a.tmps[d]? with
              | none => rfl
              | some v => rw [hh] at hrep; simp at hrep; rw [hrep]
            · cases hu
          simp only [Region.wanted, hg, hyl]
          have : ((none : Option Bool) == some want) = false := rfl
          simp only [this, Bool.false_eq_true, if_false]
          exact skip s h e1 e2
      · exact hev.elim
include hD in
theorem JX_region {tm : Nat} (hm1 : P.underlying tm = some (.map 3 3)) (hm2 : P.underlying 3 = some (.int .i64)) (hm3 : ∀ w, (zeroValue 3).run P w = .ok (.int .i64 0) w)
    {id : Nat} {ops : Array Oper} (h : evOpsM P D cfg tm b ops.toList ops.toList s m (fun x s m => Q (.panic x) s m) (Q .normal)) : JX P E cfg.N b (.region id ops false) Q s m := by
  intro M ψ a w hat hm
  have := evOpsM_ok hD hm1 hm2 hm3 (E := E) (Q := Q) ops.toList ops.toList 0 s m M ψ a w rfl hat hm h
  refine wp_region ?_
  rw [List.range_eq_range']
  simpa using this
theorem JX_bool {x y : Code} (d : Nat) (t : Bool) (live : List Nat) (h1 : JX P E N b x (thenX (fun s' m' => m' = m ∧ s'.L = s.L ∧ s'.H = s.H ∧ lookS s'.S d = .v (.bool t) ∧ ∀ k ∈ live, lookS s'.S k = lookS s.S k) Q) s m)
    (h2 : JX P E N b y Q (AS.set { s with S := keepS s.S live } (some d) (.v (.bool t))) m) : JX P E N b (.seq x y) Q s m := by
  refine JX_seq ?_
  intro M ψ a w hat hm
  refine wp_mono (h1 M ψ a w hat hm) ?_
  intro e a' w' hq
  cases e with
  | normal =>
    obtain ⟨M', ψ', s', m', hat', hm', rfl, e1, e2, e3, e4⟩ := hq
    refine ⟨M', ψ', s', m', hat', hm', ?_⟩
    show JX P E N b y Q s' m'
    intro M2 ψ2 a2 w2 hat2 hm2
    refine h2 M2 ψ2 a2 w2 ?_ hm2
    have hg : (AS.set { s with S := keepS s.S live } (some d) (.v (.bool t))).g = s'.g := by
      simp only [AS.set, AS.g]; rw [e1, e2]
    refine ⟨by rw [hg]; exact hat2.since, by rw [hg]; exact hat2.sr, fun j => ?_, hat2.n, hat2.d⟩
    show Rep M2 ψ2 (lookS (setS (keepS s.S live) d (.v (.bool t))) j) _
    rw [lookS_setS]
    by_cases hj : j = d
    · subst hj; rw [if_pos rfl]; have := hat2.sl j; rw [e3] at this; exact this
    · rw [if_neg hj]
      by_cases hl : j ∈ live
      · rcases lookS_keepS s.S live j with e | e
        · rw [e, ← e4 j hl]; exact hat2.sl j
        · rw [e]; simp only [Rep]
      · rw [lookS_keepS_not _ _ _ hl]; simp only [Rep]
  | exit id => exact hq
  | goto l => exact hq
  | ret => exact hq
  | panic chain => exact hq
  | outgrown => exact hq
theorem At.allocAny (h : At E N M ψ s a w) (o : Obj) : At E N M ψ s a (w.alloc o) := by
  have hMlt : ∀ b o v, M b o = some v → b < w.heap.size := fun b o v hv => World.block_lt_of_cell? w ⟨b, o, none⟩ (h.sr.imm b o v hv).1
  refine ⟨h.since.alloc o, ⟨?_, ?_, h.sr.empt, h.sr.apart, h.sr.mt, h.sr.sep, ?_, h.sr.fin⟩, h.sl, h.n, h.d⟩
  · intro c off u hu
    refine ⟨?_, (h.sr.imm c off u hu).2⟩
    rw [World.cell?_alloc_lt _ _ _ (hMlt c off u hu)]
    exact (h.sr.imm c off u hu).1
  · intro x xs hx i hi
    obtain ⟨vs, T', a1, a2, a3, a4, a5⟩ := h.sr.obj x xs hx i hi
    refine ⟨vs, T', ?_, a2, a3, a4, a5⟩
    rw [heap_alloc_old _ _ (h.sr.lt x i hi)]
    exact a1
  · intro x i hi
    rw [World.size_alloc]
    have := h.sr.lt x i hi
    omega
include hD in
theorem J_makeMap {Q : AX → AS → Prop} {ops : Array Oper} {o : Oper} {rest : List Oper} {t d id : Nat} {y : Code} (hops : ops.toList = o :: rest) (ho : o.op = .makeMap t none) (hg : o.guard = none) (hd : o.dst = some d) (hdN : d < cfg.N)
    (h : ∀ b, evOps P D cfg ops.toList rest (s.set (some d) (.v (.map (some b)))) (fun _ _ => False) (fun s' => ∀ E, JX P E cfg.N b y (fun e s _ => Q e s) s' [])) : J P E cfg.N (.seq (.region id ops false) y) Q s := by
  intro M ψ a w hat
  have hk' : ops[0]? = some o := by
    have := congrArg (fun l => l[0]?) hops
    simpa using this
  have hsz : ops.size = rest.length + 1 := by
    have := congrArg List.length hops
    simpa using this
  have hrun : (execOp a.eval o).run P w = .ok (.value (.map (some w.heap.size))) (w.alloc (.map #[] 0)) := by
    have : (Instr.makeMap t none).run P w = .ok (.map (some w.heap.size)) (w.alloc (.map #[] 0)) := rfl
    simp [execOp, ho, this, Result.andThen]
  have hat1 : At E cfg.N M ψ (s.set (some d) (.v (.map (some w.heap.size)))) (a.put (some d) (.map (some w.heap.size))) (w.alloc (.map #[] 0)) :=
    (hat.allocAny _).set (by simp only [Rep]) (fun k hk => by cases hk; exact hdN)
  have hm1 : MapAt E w.heap.size [] (w.alloc (.map #[] 0)) := by
    refine ⟨hat.since.size, #[], 0, ?_, rfl⟩
    show (w.heap.push (.map #[] 0))[w.heap.size]? = _
    exact Array.getElem?_push_size
  have key := evOps_ok hD (E := E.here M ψ (s.set (some d) (.v (.map (some w.heap.size)))) (w.alloc (.map #[] 0))) (Q := fun e s' => match e with
    | .normal => ∀ E, JX P E cfg.N w.heap.size y (fun e s _ => Q e s) s' []
    | _ => False) ops.toList rest 1 _ M ψ _ _ (by rw [hops]; rfl) hat1.here (h w.heap.size)
  refine wp_seq (wp_mono (Q := QR (E.here M ψ (s.set (some d) (.v (.map (some w.heap.size)))) (w.alloc (.map #[] 0))) cfg.N (fun e s' => match e with
    | .normal => ∀ E, JX P E cfg.N w.heap.size y (fun e s _ => Q e s) s' []
    | _ => False)) (wp_region ?_) ?_)
  · rw [List.range_eq_range', hsz, List.range'_succ]
    simp only [wpOps, hk', Region.wanted, hg, if_true]
    refine .inl ?_
    unfold Oper.wp
    rw [hrun, Oper.upon_value, hd]
    simpa using key
  · intro e a' w' hq
    cases e with
    | normal =>
      obtain ⟨M', ψ', s', h1, h2⟩ := hq
      refine wp_mono (h2 E M' ψ' a' w' (hat1.back h1) (hm1.stays hat1 h1)) ?_
      intro e a'' w'' hq'
      cases e with
      | normal => obtain ⟨M3, ψ3, s3, m3, e1, _, e3⟩ := hq'; exact ⟨M3, ψ3, s3, e1, e3⟩
      | exit id => obtain ⟨M3, ψ3, s3, m3, e1, _, e3⟩ := hq'; exact ⟨M3, ψ3, s3, e1, e3⟩
      | goto l => obtain ⟨M3, ψ3, s3, m3, e1, _, e3⟩ := hq'; exact ⟨M3, ψ3, s3, e1, e3⟩
      | ret => obtain ⟨M3, ψ3, s3, m3, e1, _, e3⟩ := hq'; exact ⟨M3, ψ3, s3, e1, e3⟩
      | panic chain => obtain ⟨M3, ψ3, s3, S3, x, v, m3, e1, e2, e3, e4⟩ := hq'; exact ⟨M3, ψ3, s3, S3, x, v, e1, e2, e3, e4⟩
      | outgrown => exact hq'.elim
    | exit id => obtain ⟨_, _, _, _, h2⟩ := hq; exact h2.elim
    | goto l => obtain ⟨_, _, _, _, h2⟩ := hq; exact h2.elim
    | ret => obtain ⟨_, _, _, _, h2⟩ := hq; exact h2.elim
    | panic chain => obtain ⟨_, _, _, _, _, _, _, _, _, h2⟩ := hq; exact h2.elim
    | outgrown => exact hq.elim
end
end Go.Eng
