/- A part of the proof: the engine that walks Go code, the walks of the broker, or their laws (Vc). -/
import Derived.Test.YtpcpljfifipagaaGreatDoorX31
import Derived.WideKeyArgs
import Derived.Deep.DeepHandedRow
import Derived.OpenShut
import Derived.Test.YtpcpljfifipagaaGreatDoorX14
set_option linter.unusedSimpArgs false
set_option linter.unusedVariables false
set_option maxHeartbeats 8000000
set_option maxRecDepth 20000
namespace Go.Proofs.YtpcpljfifipagaaGreatDoor
open Go.Eng Go.Tv Go.ChangeShapes Go.WideShapes Go.WideElems
structure Stayed (W W' : World) : Prop where
  os : W'.os = W.os
  out : W'.output = W.output
  blk : ∀ k, k < W.heap.size → W'.heap[k]? = W.heap[k]?
theorem calls_true {f : FuncId} {fn : Func} {args : List AV} {vals : List Value} {W : World} (hfn : Tryz.prog.funcs[f]? = some fn) {c : Code} (hb : fn.body = some c) (hn : (fn.name == "runtime.NumGoroutine") = false)
    (h : PFun Tryz.prog f args (abool true)) (ha : RepL (immW W) noψ args vals) : Calls Tryz.prog f vals.toArray W fun e W' => e = .returned (.bool true) ∧ Stayed W W' := by
  rcases h (fun _ => none) (immW W) noψ W vals noψ_strip (SR_immW W) ha with ⟨_, hc⟩ | ⟨v, w', hr, _⟩
  · refine hc.mono ?_
    rintro e W' ⟨M', ψ', H', r, _, hs, _, he, rfl, rfl⟩
    cases e with
    | returned v =>
      obtain ⟨x, hx, hv⟩ := he
      cases hx
      simp only [Rep] at hv
      subst hv
      exact ⟨rfl, hs.os, hs.output, fun k hk => hs.blk k hk fun l i hl => by cases l <;> simp [hOnly, mkG, lookL] at hl⟩
    | panicked c => obtain ⟨x, v, hx, _⟩ := he; cases hx
    | outgrown => exact he.elim
  · exfalso
    simp [callFunc, hfn, hn, hb, go_sem] at hr
    split at hr <;> cases hr
theorem Stayed.cell {W W' : World} (h : Stayed W W') {a : Addr} (ha : a.block < W.heap.size) : W'.cell? a = W.cell? a := by
  unfold World.cell?
  rw [h.blk _ ha]
theorem Stayed.same {W W' : World} (h : Stayed W W') {p : MemPlace} (hp : p.block < W.heap.size) : W.sameAt W' p := by
  cases p with
  | cell b off => exact h.cell hp
  | map b => exact h.blk b hp
theorem Stayed.kept {W W' : World} (h : Stayed W W') (may : MemPlace → Prop) : W.keptBut W' may := by
  refine ⟨h.os, h.out, fun i hi => ?_⟩
  rw [h.blk i hi]
  split
  · rename_i c t fr c' t' fr' e1 e2
    rw [e1] at e2; cases e2
    exact ⟨rfl, rfl, rfl, fun _ _ => rfl⟩
  · rename_i es cl es' cl' e1 e2
    rw [e1] at e2; cases e2
    exact .inr ⟨rfl, rfl⟩
  · rfl
section
variable {H : Type} {en : TypeId × Value → H} {W W' : World}
theorem all_stays (hl : laidOutB Tryz.prog = true) : ∀ {ts : List TypeId} {vs : List Value} {ds : List (DataW H)} {ps : List MemPlace} {sp : Nat → Bool}, (∀ t ∈ ts, Tryz.prog.readableRec t = true ∧ t < Tryz.prog.types.size) →
    DataW.TrodAll en Tryz.prog W 0 (fun _ => true) true ts vs ds ps → (∀ p ∈ ps, W.sameAt W' p) → (∀ p ∈ ps, sp p.block = true) → DataW.TrodAll en Tryz.prog W' 0 sp true ts vs ds ps
  | [], vs, ds, ps, sp, _, h, _, _ => by
    obtain ⟨rfl, rfl, rfl⟩ := trodAll_nil h
    exact rfl
  | t :: ts, vs, ds, ps, sp, ht, h, h1, h2 => by
    obtain ⟨v, vs1, d, ds1, a, b, rfl, rfl, rfl, g1, g2⟩ := trodAll_cons h
    obtain ⟨r1, r2⟩ := ht t (List.mem_cons_self ..)
    exact ⟨a, b, Trod_stays hl r1 r2 g1 (fun p hp => h1 p (List.mem_append_left _ hp)) (fun p hp => h2 p (List.mem_append_left _ hp)), all_stays hl (fun t ht' => ht t (List.mem_cons_of_mem _ ht')) g2 (fun p hp => h1 p (List.mem_append_right _ hp)) (fun p hp => h2 p (List.mem_append_right _ hp)), rfl⟩
theorem val_slice {P : Program} {t e : TypeId} (ht : P.underlying t = some (.slice e)) {v : Value} {base : Nat} (hv : Value.okWide P W .any base t v) : ∀ cs, v ≠ .agg cs := by
  rintro cs rfl
  simp only [Value.okWide, ht, Cell.okWide, Cell.ok] at hv
theorem val_struct {P : Program} {t : TypeId} {fs : Array Field} (ht : P.underlying t = some (.struct fs)) {v : Value} {base : Nat} (hv : Value.okWide P W .any base t v) : ∃ cs, v = .agg cs := by
  simp only [Value.okWide, ht] at hv
  obtain ⟨cs, rfl, _⟩ := hv
  exact ⟨cs, rfl⟩
theorem arg_slice {α : Type} {t : TypeId} {g : α → AV} {fit : α → Prop} (hd : Dec t (fun a => [g a]) fit) {v : Value} (hva : ∀ cs, v ≠ .agg cs)
    {d : DataW H} {p : List MemPlace} (h : DataW.Trod en Tryz.prog W 0 (fun _ => true) true t v d p) : ∃ a, Rep (immW W) noψ (g a) v ∧ (Rows.uptoBulk d ≤ bulkMax → fit a) := by
  obtain ⟨fuel, h⟩ := h
  obtain ⟨a, h1, _, h3⟩ := hd h
  refine ⟨a, ?_, h3⟩
  simp only [RepL] at h1
  obtain ⟨u, us, e1, e2, rfl⟩ := h1
  cases v with
  | agg cs => exact absurd rfl (hva cs)
  | _ => simp [Value.cells] at e1; rw [e1]; exact e2
theorem arg_struct {α : Type} {t : TypeId} {enc : α → List AV} {fit : α → Prop} (hd : Dec t enc fit) {v : Value} (hv : ∃ cs, v = .agg cs)
    {d : DataW H} {p : List MemPlace} (h : DataW.Trod en Tryz.prog W 0 (fun _ => true) true t v d p) : ∃ a, Rep (immW W) noψ (.agg (enc a)) v ∧ (Rows.uptoBulk d ≤ bulkMax → fit a) := by
  obtain ⟨fuel, h⟩ := h
  obtain ⟨a, h1, h2, h3⟩ := hd h
  refine ⟨a, ?_, h3⟩
  obtain ⟨cs, rfl⟩ := hv
  simp only [Rep]
  exact ⟨cs.toList, by simp, by simpa [Value.cells] using h1, by simpa [Value.cells] using h2⟩
end
end Go.Proofs.YtpcpljfifipagaaGreatDoor
