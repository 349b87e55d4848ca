/- A part of the proof: the engine that walks Go code, the walks of the broker, or their laws (TvEngB). -/
import Derived.Test.YtpcpljfifipagaaGreatDoorX00
import Derived.Laws.AppendOwn
set_option linter.unusedSimpArgs false
set_option linter.unusedVariables false
namespace Go.Eng
def Psi.at (ψ : Psi) : Loc → Psi
  | .l _ => ψ
  | .h _ => ψ.strip
theorem Psi.at_le {ψ ψ' : Psi} (h : ψ.le ψ') (l : Loc) : (ψ.at l).le (ψ'.at l) := by
  cases l with
  | l k => exact h
  | h k => exact h.strip
abbrev Store := Loc → Option (List AV)
def upd (g : Store) (l : Loc) (cs : Option (List AV)) : Store := fun x => if x = l then cs else g x
theorem upd_same (g : Store) (l : Loc) (cs : Option (List AV)) : upd g l cs l = cs := by simp [upd]
theorem upd_other (g : Store) {l x : Loc} (cs : Option (List AV)) (h : x ≠ l) : upd g l cs x = g x := by simp [upd, h]
structure SR (M : Imm) (ψ : Psi) (g : Store) (w : World) : Prop where
  imm : ∀ b o v, M b o = some v → w.cell? ⟨b, o, none⟩ = some v ∧ v.oneCell' = true
  obj : ∀ l cs, g l = some cs → ∀ i, ψ l = some i → ∃ vs T, w.heap[i.b]? = some (.cells vs T (0, 0)) ∧ vs.size = i.sz ∧ cs.length ≤ i.sz ∧ (∀ u ∈ vs.toList, u.oneCell' = true) ∧ RepL M (ψ.at l) cs (vs.toList.take cs.length)
  empt : ∀ l cs, g l = some cs → ψ l = none → cs = []
  apart : ∀ l l' i i', (g l).isSome → (g l').isSome → ψ l = some i → ψ l' = some i' → i.b = i'.b → l = l'
  mt : ∀ l i, (g l).isSome → ψ l = some i → ∀ o, M i.b o = none
  sep : ∀ k i n j, ψ (.l k) = some i → (g (.h n)).isSome → ψ (.h n) = some j → i.b ≠ j.b
  lt : ∀ l i, ψ l = some i → i.b < w.heap.size
  fin : ∃ B, ∀ n, B ≤ n → ψ (.h n) = none ∧ g (.h n) = none
def FreshB (ψ0 : Psi) (g0 : Store) (w0 : World) (b : Nat) : Prop := w0.heap.size ≤ b ∨ ∃ l i, (g0 l).isSome ∧ ψ0 l = some i ∧ i.b = b
structure Since (M0 : Imm) (ψ0 : Psi) (g0 : Store) (w0 : World) (M : Imm) (ψ : Psi) (g : Store) (w : World) : Prop where
  os : w.os = w0.os
  tape : w.tape = w0.tape
  output : w.output = w0.output
  size : w0.heap.size ≤ w.heap.size
  blk : ∀ k, k < w0.heap.size → (∀ l i, (g0 l).isSome → ψ0 l = some i → i.b ≠ k) → w.heap[k]? = w0.heap[k]?
  le : M0.le M
  psi : ∀ n i, ψ0 (.h n) = some i → ψ (.h n) = some i
  newM : ∀ b o v, M b o = some v → M0 b o = some v ∨ FreshB ψ0 g0 w0 b
  newψ : ∀ l i, ψ l = some i → ψ0 l = some i ∨ FreshB ψ0 g0 w0 i.b
  live : ∀ l i, (g l).isSome → ψ l = some i → FreshB ψ0 g0 w0 i.b
theorem Since.refl (M : Imm) (ψ : Psi) (g : Store) (w : World) : Since M ψ g w M ψ g w :=
  ⟨rfl, rfl, rfl, Nat.le_refl _, fun _ _ _ => rfl, Imm.le_refl _, fun _ _ h => h, fun _ _ _ h => .inl h, fun _ _ h => .inl h, fun l i h1 h2 => .inr ⟨l, i, h1, h2, rfl⟩⟩
theorem add_plain (b o n : Nat) : (⟨b, o, none⟩ : Addr).add n = ⟨b, o + n, none⟩ := by unfold Addr.add; split <;> simp_all
theorem SR.load {M : Imm} {ψ : Psi} {g : Store} {w : World} (h : SR M ψ g w) {l : Loc} {cs : List AV} {i : LI} {off n : Nat} (hg : g l = some cs) (hψ : ψ l = some i) (hn : off + n ≤ cs.length) :
    ∃ us, us.length = n ∧ RepL M (ψ.at l) ((cs.drop off).take n) us ∧ (∀ u ∈ us, u.oneCell' = true) ∧ ∀ (j : Nat) (u : Value), us[j]? = some u → w.cell? ⟨i.b, off + j, none⟩ = some u := by
  obtain ⟨vs, T, hh, hs, hl, h1, hr⟩ := h.obj l cs hg i hψ
  refine ⟨((vs.toList.take cs.length).drop off).take n, ?_, (hr.drop off).take n, ?_, ?_⟩
  · simp only [List.length_take, List.length_drop, Array.length_toList]; omega
  · intro u hu
    exact h1 u (List.mem_of_mem_take (List.mem_of_mem_drop (List.mem_of_mem_take hu)))
  · intro j u hu
    rw [List.getElem?_take] at hu
    split at hu
    · rw [List.getElem?_drop, List.getElem?_take] at hu
      split at hu
      · simp only [World.cell?, hh]
        simpa using hu
      · cases hu
    · cases hu
theorem SR.loadImm {M : Imm} {ψ : Psi} {g : Store} {w : World} (h : SR M ψ g w) {ψ' : Psi} {cs : List AV} {b o n : Nat} {vs : List Value} (hi : ImmAt M b o vs) (hr : RepL M ψ' cs vs) (hn : n ≤ cs.length) :
    (vs.take n).length = n ∧ RepL M ψ' (cs.take n) (vs.take n) ∧ (∀ u ∈ vs.take n, u.oneCell' = true) ∧ ∀ (j : Nat) (u : Value), (vs.take n)[j]? = some u → w.cell? ⟨b, o + j, none⟩ = some u := by
  have hl := hr.length
  refine ⟨by rw [List.length_take]; omega, hr.take n, ?_, ?_⟩
  · intro u hu
    obtain ⟨j, hj⟩ := List.getElem?_of_mem (List.mem_of_mem_take hu)
    exact (h.imm _ _ _ (hi j u hj)).2
  · intro j u hu
    exact (h.imm _ _ _ (hi.take n j u hu)).1
theorem RepL.splice {M : Imm} {ψ : Psi} {cs ds : List AV} {vs us : List Value} (h : RepL M ψ cs vs) (k : RepL M ψ ds us) (off : Nat) :
    RepL M ψ (cs.take off ++ ds ++ cs.drop (off + ds.length)) (vs.take off ++ us ++ vs.drop (off + us.length)) := by
  rw [k.length]
  exact ((h.take off).append k).append (h.drop _)
theorem SR.store {M : Imm} {ψ : Psi} {g : Store} {w : World} (h : SR M ψ g w) {l : Loc} {cs ds : List AV} {i : LI} {off : Nat} {us : List Value} (hg : g l = some cs) (hψ : ψ l = some i)
    (hn : off + ds.length ≤ cs.length) (hr : RepL M (ψ.at l) ds us) (h1 : ∀ u ∈ us, u.oneCell' = true) :
    ∃ vs T, w.heap[i.b]? = some (.cells vs T (0, 0)) ∧ off + us.length ≤ vs.size ∧
      SR M ψ (upd g l (some (cs.take off ++ ds ++ cs.drop (off + ds.length)))) (w.setRow i.b (vs.toList.take off ++ us ++ vs.toList.drop (off + us.length)).toArray) := by
  obtain ⟨vs, T, hh, hs, hl, hone, hrep⟩ := h.obj l cs hg i hψ
  have hul : us.length = ds.length := hr.length
  have hup : ∀ x, (upd g l (some (cs.take off ++ ds ++ cs.drop (off + ds.length))) x).isSome → (g x).isSome := by
    intro x hx
    by_cases e : x = l
    · subst e; simp [hg]
    · rwa [upd_other _ _ e] at hx
  have hfin : ∃ B, ∀ n, B ≤ n → ψ (.h n) = none ∧ upd g l (some (cs.take off ++ ds ++ cs.drop (off + ds.length))) (.h n) = none := by
    obtain ⟨B, hB⟩ := h.fin
    refine ⟨B, fun n hn => ⟨(hB n hn).1, ?_⟩⟩
    rw [upd_other]
    · exact (hB n hn).2
    · rintro rfl
      rw [(hB n hn).2] at hg; cases hg
  refine ⟨vs, T, hh, by omega, ⟨?_, ?_, ?_, ?_, ?_, fun k i' n j h1 h2 h3 => h.sep k i' n j h1 (hup _ h2) h3, ?_, hfin⟩⟩
  · intro b o v hv
    have := h.imm b o v hv
    refine ⟨?_, this.2⟩
    rw [cell_setRow_other _ _ _ _ ?_]
    · exact this.1
    · intro e
      have e : b = i.b := e
      have := h.mt l i (by simp [hg]) hψ o
      rw [← e, hv] at this
      cases this
  · intro x xs hx j hj
    by_cases e : x = l
    · subst e
      rw [upd_same] at hx
      rw [hψ] at hj
      cases hj
      cases hx
      refine ⟨_, T, setRow_heap _ _ _ _ _ _ hh, ?_, ?_, ?_, ?_⟩
      · simp only [List.size_toArray, List.length_append, List.length_take, List.length_drop, Array.length_toList]; omega
      · simp only [List.length_append, List.length_take, List.length_drop]; omega
      · intro u hu
        simp only [List.mem_append] at hu
        rcases hu with (hu | hu) | hu
        · exact hone u (List.mem_of_mem_take hu)
        · exact h1 u hu
        · exact hone u (List.mem_of_mem_drop hu)
      · have := hrep.splice hr off
        have hlen : (List.take off cs ++ ds ++ List.drop (off + ds.length) cs).length = cs.length := by
          simp only [List.length_append, List.length_take, List.length_drop]; omega
        rw [hlen]
        have he : (vs.toList.take off ++ us ++ vs.toList.drop (off + us.length)).take cs.length = (vs.toList.take cs.length).take off ++ us ++ (vs.toList.take cs.length).drop (off + us.length) := by
          have hvl : vs.toList.length = i.sz := by simpa using hs
          apply List.ext_getElem?
          intro q
          simp only [List.getElem?_take, List.getElem?_append, List.getElem?_drop, List.length_append, List.length_take, hvl]
          have e1 : min off i.sz = off := by omega
          have e2 : min cs.length i.sz = cs.length := by omega
          have e3 : min off cs.length = off := by omega
          rw [e1, e2, e3]
          by_cases c1 : q < cs.length
          · by_cases c2 : q < off
            · have c4 : q < off + us.length := by omega
              simp only [if_pos c1, if_pos c2, if_pos c4]
            · by_cases c3 : q < off + us.length
              · simp only [if_pos c1, if_neg c2, if_pos c3]
              · have c4 : off + us.length + (q - (off + us.length)) < cs.length := by omega
                simp only [if_pos c1, if_neg c3, if_pos c4]
          · have c3 : ¬ q < off + us.length := by omega
            have c4 : ¬ off + us.length + (q - (off + us.length)) < cs.length := by omega
            simp only [if_neg c1, if_neg c3, if_neg c4]
        rw [he]
        exact this
    · rw [upd_other _ _ e] at hx
      have hne : j.b ≠ i.b := fun hb => e (h.apart x l j i (by simp [hx]) (by simp [hg]) hj hψ hb)
      obtain ⟨vs', T', a1, a2, a3, a4, a5⟩ := h.obj x xs hx j hj
      exact ⟨vs', T', by rw [setRow_other _ _ _ _ hne]; exact a1, a2, a3, a4, a5⟩
  · intro x xs hx hn'
    by_cases e : x = l
    · subst e; rw [hψ] at hn'; cases hn'
    · rw [upd_other _ _ e] at hx; exact h.empt x xs hx hn'
  · intro x x' j j' hx hx'
    exact h.apart x x' j j' (hup x hx) (hup x' hx')
  · intro x j hx
    exact h.mt x j (hup x hx)
  · intro x j hj
    rw [setRow_size]; exact h.lt x j hj
theorem Since.setRow {M0 : Imm} {ψ0 : Psi} {g0 : Store} {w0 : World} {M : Imm} {ψ : Psi} {g : Store} {w : World} (h : Since M0 ψ0 g0 w0 M ψ g w) {b : Nat} (hb : FreshB ψ0 g0 w0 b) (c : Array Value) {g' : Store} (hg : ∀ l, (g' l).isSome → (g l).isSome) : Since M0 ψ0 g0 w0 M ψ g' (w.setRow b c) := by
  refine ⟨h.os, h.tape, h.output, by rw [setRow_size]; exact h.size, fun k hk hl => ?_, h.le, h.psi, h.newM, h.newψ, fun l i h1 h2 => h.live l i (hg l h1) h2⟩
  rw [setRow_other]
  · exact h.blk k hk hl
  · rintro rfl
    rcases hb with hb | ⟨l, i, h1, h2, h3⟩
    · omega
    · exact hl l i h1 h2 h3
def Store.renew (g : Store) (k : Nat) (cs : Option (List AV)) : Store
  | .l j => if j = k then cs else (g (.l j)).map (AV.killL k)
  | .h n => g (.h n)
def Psi.put (ψ : Psi) (k : Nat) (i : Option LI) : Psi
  | .l j => if j = k then i else ψ (.l j)
  | .h n => ψ (.h n)
theorem Psi.put_strip (ψ : Psi) (k : Nat) (i : Option LI) : (ψ.put k i).strip = ψ.strip := by funext l; cases l <;> rfl
theorem Psi.put_ne (ψ : Psi) (k : Nat) (i : Option LI) (l : Loc) (j : LI) (h : l ≠ .l k) (hj : ψ l = some j) : ψ.put k i l = some j := by
  cases l with
  | l n => simp only [Psi.put]; rw [if_neg (fun e => h (by rw [e]))]; exact hj
  | h n => exact hj
theorem RepL.renew {M : Imm} {ψ : Psi} (k : Nat) (i : Option LI) {cs : List AV} {vs : List Value} (h : RepL M ψ cs vs) : RepL M (ψ.put k i) (AV.killL k cs) vs :=
  RepL.kill (by rw [Psi.put_strip]; exact Psi.le_refl _) (fun l j => Psi.put_ne ψ k i l j) cs h
theorem Rep.renew {M : Imm} {ψ : Psi} (k : Nat) (i : Option LI) {c : AV} {v : Value} (h : Rep M ψ c v) : Rep M (ψ.put k i) (AV.kill k c) v :=
  Rep.kill (by rw [Psi.put_strip]; exact Psi.le_refl _) (fun l j => Psi.put_ne ψ k i l j) c h
theorem AV.killL_length (k : Nat) (cs : List AV) : (AV.killL k cs).length = cs.length := by
  induction cs with
  | nil => rfl
  | cons c cs ih => simp [AV.killL, ih]
theorem SR.drop {M : Imm} {ψ : Psi} {g : Store} {w : World} (h : SR M ψ g w) (k : Nat) : SR M (ψ.put k none) (g.renew k none) w := by
  have hsome : ∀ x, (g.renew k none x).isSome → (g x).isSome ∧ x ≠ .l k := by
    intro x hx
    cases x with
    | l j =>
      by_cases e : j = k
      · simp [Store.renew, e] at hx
      · simp [Store.renew, e] at hx
        exact ⟨hx, fun e' => e (by cases e'; rfl)⟩
    | h n => exact ⟨hx, fun e => by cases e⟩
  have hψ' : ∀ x i, ψ.put k none x = some i → ψ x = some i ∧ x ≠ .l k := by
    intro x i hx
    cases x with
    | l j =>
      by_cases e : j = k
      · simp [Psi.put, e] at hx
      · simp [Psi.put, e] at hx
        exact ⟨hx, fun e' => e (by cases e'; rfl)⟩
    | h n => exact ⟨hx, fun e => by cases e⟩
  refine ⟨h.imm, ?_, ?_, ?_, ?_, ?_, ?_, h.fin⟩
  · intro x xs hx i hi
    obtain ⟨hi, hne⟩ := hψ' x i hi
    cases x with
    | l j =>
      have e : j ≠ k := fun e => hne (by rw [e])
      simp only [Store.renew, if_neg e, Option.map_eq_some_iff] at hx
      obtain ⟨ys, hy, rfl⟩ := hx
      obtain ⟨vs, T, a1, a2, a3, a4, a5⟩ := h.obj _ _ hy i hi
      refine ⟨vs, T, a1, a2, by rw [AV.killL_length]; exact a3, a4, ?_⟩
      rw [AV.killL_length]
      exact RepL.renew k none a5
    | h n =>
      obtain ⟨vs, T, a1, a2, a3, a4, a5⟩ := h.obj _ _ hx i hi
      refine ⟨vs, T, a1, a2, a3, a4, ?_⟩
      show RepL M (ψ.put k none).strip xs _
      rw [Psi.put_strip]
      exact a5
  · intro x xs hx hn
    cases x with
    | l j =>
      by_cases e : j = k
      · simp [Store.renew, e] at hx
      · simp only [Store.renew, if_neg e, Option.map_eq_some_iff] at hx
        obtain ⟨ys, hy, rfl⟩ := hx
        simp [Psi.put, e] at hn
        rw [h.empt _ _ hy hn]
        rfl
    | h n => exact h.empt _ _ hx hn
  · intro x x' i i' hx hx' hi hi'
    exact h.apart x x' i i' (hsome x hx).1 (hsome x' hx').1 (hψ' x i hi).1 (hψ' x' i' hi').1
  · intro x i hx hi
    exact h.mt x i (hsome x hx).1 (hψ' x i hi).1
  · intro j i n j' hi hg hj
    exact h.sep j i n j' (hψ' _ _ hi).1 hg hj
  · intro x i hi
    exact h.lt x i (hψ' x i hi).1
theorem Since.drop {M0 : Imm} {ψ0 : Psi} {g0 : Store} {w0 : World} {M : Imm} {ψ : Psi} {g : Store} {w : World} (h : Since M0 ψ0 g0 w0 M ψ g w) (k : Nat) : Since M0 ψ0 g0 w0 M (ψ.put k none) (g.renew k none) w := by
  have hψ' : ∀ x i, ψ.put k none x = some i → ψ x = some i := by
    intro x i hx
    cases x with
    | l j =>
      by_cases e : j = k
      · simp [Psi.put, e] at hx
      · simpa [Psi.put, e] using hx
    | h n => exact hx
  refine ⟨h.os, h.tape, h.output, h.size, h.blk, h.le, h.psi, h.newM, fun x i hx => h.newψ x i (hψ' x i hx), fun x i h1 h2 => h.live x i ?_ (hψ' x i h2)⟩
  cases x with
  | l j =>
    by_cases e : j = k
    · simp [Store.renew, e] at h1
    · simpa [Store.renew, e] using h1
  | h n => exact h1
theorem SR.alloc {M : Imm} {ψ : Psi} {g : Store} {w : World} (h : SR M ψ g w) (k : Nat) (hk : ψ (.l k) = none) (hgk : g (.l k) = none) {cs : List AV} {us : List Value} (T : TypeId)
    (hlen : cs.length ≤ us.length) (hr : RepL M ψ cs (us.take cs.length)) (h1 : ∀ u ∈ us, u.oneCell' = true) :
    SR M (ψ.put k (some ⟨w.heap.size, us.length⟩)) (upd g (.l k) (some cs)) (w.alloc (.cells us.toArray T)) := by
  have hle : ψ.le (ψ.put k (some ⟨w.heap.size, us.length⟩)) := by
    intro l i hl
    refine Psi.put_ne ψ k _ l i ?_ hl
    rintro rfl
    rw [hk] at hl
    cases hl
  have hold : ∀ x i, x ≠ .l k → ψ.put k (some ⟨w.heap.size, us.length⟩) x = some i → ψ x = some i := by
    intro x i hx hi
    cases x with
    | l j => simp only [Psi.put] at hi; rw [if_neg (fun e => hx (by rw [e]))] at hi; exact hi
    | h n => exact hi
  have hnew : ψ.put k (some ⟨w.heap.size, us.length⟩) (.l k) = some ⟨w.heap.size, us.length⟩ := by simp [Psi.put]
  have hMlt : ∀ b o v, M b o = some v → b < w.heap.size := fun b o v hv => World.block_lt_of_cell? w ⟨b, o, none⟩ (h.imm b o v hv).1
  refine ⟨?_, ?_, ?_, ?_, ?_, ?_, ?_, ?_⟩
  · intro b o v hv
    refine ⟨?_, (h.imm b o v hv).2⟩
    rw [World.cell?_alloc_lt _ _ _ (by exact hMlt b o v hv)]
    exact (h.imm b o v hv).1
  · intro x xs hx i hi
    by_cases e : x = .l k
    · subst e
      rw [upd_same] at hx
      cases hx
      rw [hnew] at hi
      cases hi
      refine ⟨us.toArray, T, heap_alloc_new _ _, by simp, hlen, by simpa using h1, ?_⟩
      simp only [Psi.at]
      exact RepL.mono (Imm.le_refl M) _ hle hr
    · rw [upd_other _ _ e] at hx
      have hi' := hold x i e hi
      obtain ⟨vs, T', a1, a2, a3, a4, a5⟩ := h.obj x xs hx i hi'
      refine ⟨vs, T', ?_, a2, a3, a4, RepL.mono (Imm.le_refl M) _ (Psi.at_le hle x) a5⟩
      rw [heap_alloc_old _ _ _ (h.lt x i hi')]
      exact a1
  · intro x xs hx hn
    by_cases e : x = .l k
    · subst e; rw [hnew] at hn; cases hn
    · rw [upd_other _ _ e] at hx
      refine h.empt x xs hx ?_
      cases x with
      | l j => simp only [Psi.put] at hn; rw [if_neg (fun e' => e (by rw [e']))] at hn; exact hn
      | h n => exact hn
  · intro x x' i i' hx hx' hi hi' hb
    by_cases e : x = .l k
    · subst e
      by_cases e' : x' = .l k
      · rw [e']
      · rw [hnew] at hi
        cases hi
        have := h.lt x' i' (hold x' i' e' hi')
        simp only at hb
        omega
    · by_cases e' : x' = .l k
      · subst e'
        rw [hnew] at hi'
        cases hi'
        have := h.lt x i (hold x i e hi)
        simp only at hb
        omega
      · rw [upd_other _ _ e] at hx
        rw [upd_other _ _ e'] at hx'
        exact h.apart x x' i i' hx hx' (hold x i e hi) (hold x' i' e' hi') hb
  · intro x i hx hi o
    by_cases e : x = .l k
    · subst e
      rw [hnew] at hi
      cases hi
      cases hM : M w.heap.size o with
      | none => rfl
      | some v => exact absurd (hMlt _ _ _ hM) (by simp)
    · rw [upd_other _ _ e] at hx
      exact h.mt x i hx (hold x i e hi) o
  · intro j i n j' hi hg hj
    by_cases e : j = k
    · subst e
      rw [hnew] at hi
      cases hi
      have := h.lt (.h n) j' hj
      simp only
      omega
    · exact h.sep j i n j' (hold _ _ (fun e' => e (by cases e'; rfl)) hi) hg hj
  · intro x i hi
    rw [World.size_alloc]
    by_cases e : x = .l k
    · subst e
      rw [hnew] at hi
      cases hi
      simp
    · have := h.lt x i (hold x i e hi)
      omega
  · exact h.fin
theorem Since.alloc {M0 : Imm} {ψ0 : Psi} {g0 : Store} {w0 : World} {M : Imm} {ψ : Psi} {g : Store} {w : World} (h : Since M0 ψ0 g0 w0 M ψ g w) (o : Obj) : Since M0 ψ0 g0 w0 M ψ g (w.alloc o) := by
  refine ⟨h.os, h.tape, h.output, by rw [World.size_alloc]; have := h.size; omega, fun k hk hl => ?_, h.le, h.psi, h.newM, h.newψ, h.live⟩
  rw [heap_alloc_old _ _ _ (by have := h.size; omega)]
  exact h.blk k hk hl
theorem Since.put {M0 : Imm} {ψ0 : Psi} {g0 : Store} {w0 : World} {M : Imm} {ψ : Psi} {g : Store} {w : World} (h : Since M0 ψ0 g0 w0 M ψ g w) (k : Nat) (i : LI) (hb : FreshB ψ0 g0 w0 i.b) (cs : Option (List AV)) : Since M0 ψ0 g0 w0 M (ψ.put k (some i)) (upd g (.l k) cs) w := by
  refine ⟨h.os, h.tape, h.output, h.size, h.blk, h.le, h.psi, h.newM, fun x j hx => ?_, fun x j h1 hx => ?_⟩
  · cases x with
    | l n =>
      by_cases e : n = k
      · simp [Psi.put, e] at hx
        subst hx
        exact .inr hb
      · simp [Psi.put, e] at hx
        exact h.newψ _ _ hx
    | h n => exact h.newψ _ _ hx
  · cases x with
    | l n =>
      by_cases e : n = k
      · simp [Psi.put, e] at hx
        subst hx
        exact hb
      · simp [Psi.put, e] at hx
        rw [upd_other _ _ (fun e' => e (by cases e'; rfl))] at h1
        exact h.live _ _ h1 hx
    | h n => rw [upd_other _ _ (fun e' => by cases e')] at h1; exact h.live _ _ h1 hx
theorem SR.drew {M : Imm} {ψ : Psi} {g : Store} {w : World} (h : SR M ψ g w) : SR M ψ g w.drew := ⟨h.imm, h.obj, h.empt, h.apart, h.mt, h.sep, h.lt, h.fin⟩
theorem Since.drew {M0 : Imm} {ψ0 : Psi} {g0 : Store} {w0 : World} {M : Imm} {ψ : Psi} {g : Store} {w : World} (h : Since M0 ψ0 g0 w0 M ψ g w) : Since M0 ψ0 g0 w0 M ψ g w.drew := ⟨h.os, h.tape, h.output, h.size, h.blk, h.le, h.psi, h.newM, h.newψ, h.live⟩
def Imm.with (M : Imm) (b : Nat) (us : List Value) : Imm := fun b' o => if b' = b then us[o]? else M b' o
theorem Imm.le_with (M : Imm) (b : Nat) (us : List Value) (h : ∀ o, M b o = none) : M.le (M.with b us) := by
  intro b' o v hv
  unfold Imm.with
  split
  · rename_i e; subst e; rw [h o] at hv; cases hv
  · exact hv
theorem Imm.with_at (M : Imm) (b : Nat) (us : List Value) : ImmAt (M.with b us) b 0 us := by
  intro k u h
  simp [Imm.with, h]
theorem SR.allocImm {M : Imm} {ψ : Psi} {g : Store} {w : World} (h : SR M ψ g w) {us : List Value} (T : TypeId) (h1 : ∀ u ∈ us, u.oneCell' = true) :
    M.le (M.with w.heap.size us) ∧ SR (M.with w.heap.size us) ψ g (w.alloc (.cells us.toArray T)) := by
  have hMlt : ∀ b o v, M b o = some v → b < w.heap.size := fun b o v hv => World.block_lt_of_cell? w ⟨b, o, none⟩ (h.imm b o v hv).1
  have hnone : ∀ o, M w.heap.size o = none := fun o => by
    cases hM : M w.heap.size o with
    | none => rfl
    | some v => exact absurd (hMlt _ _ _ hM) (by simp)
  have hle := Imm.le_with M w.heap.size us hnone
  refine ⟨hle, ?_, ?_, h.empt, h.apart, ?_, h.sep, ?_, h.fin⟩
  · intro b o v hv
    by_cases e : b = w.heap.size
    · subst e
      simp only [Imm.with, if_true] at hv
      refine ⟨?_, h1 v (List.mem_of_getElem? hv)⟩
      rw [World.cell?_alloc_new]
      simpa using hv
    · simp only [Imm.with, if_neg e] at hv
      refine ⟨?_, (h.imm b o v hv).2⟩
      rw [World.cell?_alloc_lt _ _ _ (by exact hMlt b o v hv)]
      exact (h.imm b o v hv).1
  · intro x xs hx i hi
    obtain ⟨vs, T', a1, a2, a3, a4, a5⟩ := h.obj x xs hx i hi
    refine ⟨vs, T', ?_, a2, a3, a4, RepL.mono hle _ (Psi.le_refl _) a5⟩
    rw [heap_alloc_old _ _ _ (h.lt x i hi)]
    exact a1
  · intro x i hx hi o
    have := h.lt x i hi
    simp only [Imm.with]
    rw [if_neg (by omega)]
    exact h.mt x i hx hi o
  · intro x i hi
    rw [World.size_alloc]
    have := h.lt x i hi
    omega
theorem Since.with {M0 : Imm} {ψ0 : Psi} {g0 : Store} {w0 : World} {M : Imm} {ψ : Psi} {g : Store} {w : World} (h : Since M0 ψ0 g0 w0 M ψ g w) {b : Nat} {us : List Value} (hb : FreshB ψ0 g0 w0 b) (hle : M.le (M.with b us)) {g' : Store} (hg : ∀ l, (g' l).isSome → (g l).isSome) : Since M0 ψ0 g0 w0 (M.with b us) ψ g' w := by
  refine ⟨h.os, h.tape, h.output, h.size, h.blk, h.le.trans hle, h.psi, fun b' o v hv => ?_, h.newψ, fun l i h1 h2 => h.live l i (hg l h1) h2⟩
  by_cases e : b' = b
  · subst e; exact .inr hb
  · simp only [Imm.with, if_neg e] at hv
    exact h.newM _ _ _ hv
theorem SR.freeze {M : Imm} {ψ : Psi} {g : Store} {w : World} (h : SR M ψ g w) {k : Nat} {cs : List AV} {i : LI} (hg : g (.l k) = some cs) (hψ : ψ (.l k) = some i) :
    ∃ us, us.length = cs.length ∧ RepL M ψ cs us ∧ M.le (M.with i.b us) ∧ SR (M.with i.b us) ψ (upd g (.l k) none) w := by
  obtain ⟨vs, T, hh, hs, hl, hone, hrep⟩ := h.obj _ cs hg i hψ
  have hnone := h.mt _ i (by simp [hg]) hψ
  have hle := Imm.le_with M i.b (vs.toList.take cs.length) hnone
  have hsome : ∀ x, (upd g (.l k) none x).isSome → (g x).isSome ∧ x ≠ .l k := by
    intro x hx
    by_cases e : x = .l k
    · subst e; simp [upd_same] at hx
    · rw [upd_other _ _ e] at hx; exact ⟨hx, e⟩
  refine ⟨vs.toList.take cs.length, ?_, hrep, hle, ?_, ?_, ?_, ?_, ?_, fun k i' n j h1 h2 h3 => h.sep k i' n j h1 (hsome _ h2).1 h3, h.lt, ?_⟩
  · have hvl : vs.toList.length = i.sz := by simpa using hs
    rw [List.length_take, hvl]; omega
  · intro b o v hv
    by_cases e : b = i.b
    · subst e
      simp only [Imm.with, if_true] at hv
      refine ⟨?_, hone v (List.mem_of_mem_take (List.mem_of_getElem? hv))⟩
      rw [List.getElem?_take] at hv
      split at hv
      · simp only [World.cell?, hh]; simpa using hv
      · cases hv
    · simp only [Imm.with, if_neg e] at hv
      exact h.imm b o v hv
  · intro x xs hx j hj
    have hx' := hsome x (by simp [hx])
    rw [upd_other _ _ hx'.2] at hx
    obtain ⟨vs', T', a1, a2, a3, a4, a5⟩ := h.obj x xs hx j hj
    exact ⟨vs', T', a1, a2, a3, a4, RepL.mono hle _ (Psi.le_refl _) a5⟩
  · intro x xs hx hn
    have hx' := hsome x (by simp [hx])
    rw [upd_other _ _ hx'.2] at hx
    exact h.empt x xs hx hn
  · intro x x' j j' hx hx'
    exact h.apart x x' j j' (hsome x hx).1 (hsome x' hx').1
  · intro x j hx hj o
    have hx' := hsome x hx
    have hne : j.b ≠ i.b := fun hb => hx'.2 (h.apart x (.l k) j i hx'.1 (by simp [hg]) hj hψ hb)
    simp only [Imm.with, if_neg hne]
    exact h.mt x j hx'.1 hj o
  · obtain ⟨B, hB⟩ := h.fin
    exact ⟨B, fun n hn => ⟨(hB n hn).1, by rw [upd_other _ _ (fun e => by cases e)]; exact (hB n hn).2⟩⟩
end Go.Eng
