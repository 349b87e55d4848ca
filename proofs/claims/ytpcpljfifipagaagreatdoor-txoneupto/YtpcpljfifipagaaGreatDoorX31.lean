/- A part of the proof: the engine that walks Go code, the walks of the broker, or their laws (Va Vb). -/
import Derived.Test.YtpcpljfifipagaaGreatDoorX24
import Derived.Test.YtpcpljfifipagaaGreatDoorX30
import Derived.ChangeShapes
import Derived.ChangeArms
import Derived.Test.YtpcpljfifipagaaGreatDoorX14
set_option linter.unusedSimpArgs false
set_option linter.unusedVariables false
set_option maxHeartbeats 8000000
set_option maxRecDepth 20000
namespace Go.Proofs.YtpcpljfifipagaaGreatDoor
open Go.Eng Go.Tv
section
def immW (w : World) : Imm := fun b o => (w.cell? ⟨b, o, none⟩).bind fun v => if v.oneCell' then some v else none
def noψ : Psi := fun _ => none
theorem noψ_strip : noψ.strip = noψ := by funext l; cases l <;> rfl
theorem immW_some {w : World} {b o : Nat} {v : Value} (h : w.cell? ⟨b, o, none⟩ = some v) (h1 : v.oneCell' = true) : immW w b o = some v := by simp only [immW, h, Option.bind_some, h1, if_true]
theorem SR_immW (w : World) : SR (immW w) noψ (hOnly fun _ => none) w := {
  imm := fun b o v h => by
    unfold immW at h
    rw [Option.bind_eq_some_iff] at h
    obtain ⟨u, h1, h2⟩ := h
    split at h2
    · rename_i h3; cases h2; exact ⟨h1, h3⟩
    · cases h2
  obj := fun l cs h i hi => by simp [noψ] at hi
  empt := fun l cs h => by cases l <;> simp [hOnly, mkG, lookL] at h
  apart := fun l l' i i' _ _ h => by simp [noψ] at h
  mt := fun l i _ h => by simp [noψ] at h
  sep := fun k i n j h => by simp [noψ] at h
  lt := fun l i h => by simp [noψ] at h
  fin := ⟨0, fun n _ => ⟨rfl, rfl⟩⟩ }
def bulkMax : Nat := 1048576
def Dec {α : Type} (t : TypeId) (enc : α → List AV) (fit : α → Prop) : Prop :=
  ∀ {H : Type} {en : TypeId × Value → H} {w : World} {fuel : Nat} {cs : List Value} {x : DataW H × List MemPlace}, DataW.trod en Tryz.prog w 0 (fun _ => true) true fuel t cs = some x →
    ∃ a, RepL (immW w) noψ (enc a) cs ∧ (∀ u ∈ cs, u.oneCell' = true) ∧ (Rows.uptoBulk x.1 ≤ bulkMax → fit a)
theorem one_cell {v : Value} (h : v.oneCell' = true) : ∀ u ∈ [v], u.oneCell' = true := by
  intro u hu
  rw [List.mem_singleton] at hu
  subst hu
  exact h
theorem dec_int {t : TypeId} (ht : Tryz.prog.underlying t = some (.int .i64)) : Dec t Num.enc fun _ => True := by
  intro H en w fuel cs x h
  obtain ⟨n, rfl, rfl, _⟩ := DataW.trod_int ht h
  exact ⟨n, by simp [Num.enc, RepL, Rep], one_cell rfl, fun _ => trivial⟩
def Boo.enc (b : Bool) : List AV := [abool b]
theorem dec_bool {t : TypeId} (ht : Tryz.prog.underlying t = some .bool) : Dec t Boo.enc fun _ => True := by
  intro H en w fuel cs x h
  obtain ⟨n, rfl, rfl⟩ := DataW.trod_bool ht h
  exact ⟨n, by simp [Boo.enc, RepL, Rep], one_cell rfl, fun _ => trivial⟩
theorem dec_str {t : TypeId} (ht : Tryz.prog.underlying t = some .string) : Dec t Str.enc fun s => s.size ≤ bulkMax := by
  intro H en w fuel cs x h
  obtain ⟨s, rfl, rfl, _⟩ := DataW.trod_string ht h
  refine ⟨s, by simp only [Str.enc, RepL, Rep]; exact ⟨_, _, rfl, rfl, rfl⟩, one_cell rfl, fun hb => ?_⟩
  simp only [bulks.string_eq] at hb
  have : s.data.toList.length = s.size := Array.length_toList
  omega
def Flt.enc (n : Nat) : List AV := [.v (.float .f64 n)]
theorem dec_flt {t : TypeId} (ht : Tryz.prog.underlying t = some (.float .f64)) : Dec t Flt.enc fun _ => True := by
  intro H en w fuel cs x h
  obtain ⟨n, rfl⟩ : ∃ n, cs = [.float .f64 n] := by
    cases fuel with
    | zero => simp [DataW.trod] at h
    | succ n =>
      unfold DataW.trod at h
      rw [ht] at h
      split at h <;> simp_all
  exact ⟨n, by simp [Flt.enc, RepL, Rep], one_cell rfl, fun _ => trivial⟩
theorem ImmAt.append {M : Imm} {b o : Nat} {vs us : List Value} (h : ImmAt M b o vs) (k : ImmAt M b (o + vs.length) us) : ImmAt M b o (vs ++ us) := by
  intro i u hi
  rcases Nat.lt_or_ge i vs.length with hl | hl
  · rw [List.getElem?_append_left hl] at hi
    exact h i u hi
  · rw [List.getElem?_append_right hl] at hi
    have := k _ u hi
    rwa [show o + vs.length + (i - vs.length) = o + i from by omega] at this
theorem cells_get {w : World} {a : Addr} {n : Nat} {cs : List Value} (h : w.cells? 0 a n = some cs) : cs.length = n ∧ ∀ j u, cs[j]? = some u → w.cell? (a.add j) = some u := by
  unfold World.cells? at h
  rw [if_pos (Nat.zero_le _)] at h
  have hl := mapM_some_length h
  refine ⟨by simpa using hl, fun j u hj => ?_⟩
  have hjl : j < n := by
    rcases Nat.lt_or_ge j cs.length with h' | h'
    · have : cs.length = n := by simpa using hl
      omega
    · rw [List.getElem?_eq_none h'] at hj; cases hj
  have := mapM_some_get h j j (by simp [hjl])
  rw [hj] at this
  exact this
theorem dec_slice {α : Type} {t e : TypeId} {k : Nat} {enc : α → List AV} {fit : α → Prop} (ht : Tryz.prog.underlying t = some (.slice e)) (hk : Tryz.prog.cellsOf e = k) (hpos : 0 < k) (hlen : ∀ a, (enc a).length = k) (hd : Dec e enc fit) :
    Dec t (fun xs : List α => [asl enc xs]) fun xs => xs.length ≤ bulkMax ∧ ∀ a ∈ xs, fit a := by
  intro H en w fuel cs x h
  rcases DataW.trod_slice ht h with ⟨rfl, rfl⟩ | ⟨a, len, cap, elems, rest, n, rfl, rfl, rfl, _, hl, hm, hel, hget, _, _⟩
  · refine ⟨[], ?_, one_cell rfl, fun _ => ⟨by simp, by simp⟩⟩
    simp only [RepL, List.flatMap_nil, List.length_nil]
    exact ⟨_, _, rfl, by simp only [Rep]; exact ⟨none, 0, rfl, Nat.le_refl _, by unfold maxLen; omega, fun hn => absurd rfl hn⟩, rfl⟩
  have key : ∀ m, m ≤ len → ∃ xs : List α, ∃ vs : List Value, xs.length = m ∧ vs.length = m * k ∧ RepL (immW w) noψ (xs.flatMap enc) vs ∧ (∀ j u, vs[j]? = some u → ∃ s, a = ⟨a.block, a.off, s⟩ ∧ w.cell? (a.add j) = some u ∧ u.oneCell' = true) ∧ ∀ y ∈ xs, ∃ d ∈ elems, Rows.uptoBulk d.1 ≤ bulkMax → fit y := by
    intro m
    induction m with
    | zero => exact fun _ => ⟨[], [], rfl, by simp, by simp [RepL], by simp, by simp⟩
    | succ m ih =>
      intro hm1
      obtain ⟨xs, vs, h1, h2, h3, h4, h5⟩ := ih (by omega)
      have hg := hget m (by omega)
      rw [List.getElem?_eq_getElem (by omega), Option.bind_eq_some_iff] at hg
      obtain ⟨cs', hc, htr⟩ := hg
      obtain ⟨y, r1, r2, r3⟩ := hd htr
      obtain ⟨l1, l2⟩ := cells_get hc
      rw [hk] at l1
      refine ⟨xs ++ [y], vs ++ cs', by simp [h1], by rw [List.length_append, h2, l1, Nat.succ_mul], ?_, ?_, ?_⟩
      · rw [List.flatMap_append]
        exact h3.append (by simpa using r1)
      · intro j u hj
        rcases Nat.lt_or_ge j vs.length with hjl | hjl
        · rw [List.getElem?_append_left hjl] at hj
          exact h4 j u hj
        · rw [List.getElem?_append_right hjl] at hj
          have hw := l2 _ u hj
          refine ⟨a.spot, rfl, ?_, r2 u (List.mem_of_getElem? hj)⟩
          have e : (a.add (m * Tryz.prog.cellsOf e)).add (j - vs.length) = a.add j := by
            rw [hk]
            rw [h2] at hjl ⊢
            unfold Addr.add
            by_cases e1 : m * k = 0
            · rw [e1]; simp
            · by_cases e2 : j - m * k = 0
              · have : j = m * k := by omega
                subst this
                simp [e1]
              · rw [if_neg e1, if_neg e2, if_neg (by omega)]
                simp only [Addr.mk.injEq]
                exact ⟨trivial, by omega, trivial⟩
          rwa [e] at hw
      · intro z hz
        rcases List.mem_append.mp hz with hz | hz
        · exact h5 z hz
        · simp at hz; subst hz
          exact ⟨elems[m], List.getElem_mem _, r3⟩
  obtain ⟨xs, vs, h1, h2, h3, h4, h5⟩ := key len (Nat.le_refl _)
  refine ⟨xs, ?_, one_cell rfl, fun hb => ⟨?_, fun y hy => ?_⟩⟩
  · simp only [RepL]
    refine ⟨_, _, rfl, ?_, rfl⟩
    simp only [Rep]
    refine ⟨some a, cap, by rw [h1], by omega, hm, fun hne => ?_⟩
    have hspot : a.spot = none := by
      have hl0 : 0 < vs.length := by rw [h3.length]; exact List.length_pos_iff.mpr hne
      obtain ⟨s, _, hc, _⟩ := h4 0 _ (List.getElem?_eq_getElem hl0)
      have := World.cell?_spot hc
      simpa [Addr.add] using this
    obtain ⟨b, o, sp⟩ := a
    simp only at hspot
    subst hspot
    refine ⟨b, o, vs, rfl, fun j u hj => ?_, by rw [noψ_strip]; exact h3⟩
    obtain ⟨_, _, hc, h1c⟩ := h4 j u hj
    rw [add_plain] at hc
    exact immW_some hc h1c
  · have := bulks.slice_le (elems.map (·.1)) (rest.map (·.1))
    simp only [List.length_map] at this
    simp only at hb
    omega
  · obtain ⟨d, hd1, hd2⟩ := h5 y hy
    refine hd2 ?_
    have e1 := bulks.slice_elems (elems.map (·.1)) (rest.map (·.1))
    have e2 := bulks.part_le (List.mem_map_of_mem (f := (·.1)) hd1)
    simp only at hb
    omega
theorem RepL.field {M : Imm} {ψ : Psi} {A B : List AV} {cs : List Value} (o n : Nat) (hA : RepL M ψ A ((cs.drop o).take n)) (hB : RepL M ψ B (cs.drop (o + n))) : RepL M ψ (A ++ B) (cs.drop o) := by
  have := hA.append hB
  rwa [← List.drop_drop, List.take_append_drop] at this
theorem RepL.over {M : Imm} {ψ : Psi} {cs : List Value} {n : Nat} (h : cs.length = n) : RepL M ψ [] (cs.drop n) := by
  rw [List.drop_eq_nil_of_le (by omega)]; rfl
theorem all_field {p : Value → Prop} {cs : List Value} (o n : Nat) (hA : ∀ u ∈ (cs.drop o).take n, p u) (hB : ∀ u ∈ cs.drop (o + n), p u) : ∀ u ∈ cs.drop o, p u := by
  intro u hu
  rw [← List.take_append_drop n (cs.drop o), List.drop_drop] at hu
  rcases List.mem_append.mp hu with h | h
  · exact hA u h
  · exact hB u h
theorem all_over {p : Value → Prop} {cs : List Value} {n : Nat} (h : cs.length = n) : ∀ u ∈ cs.drop n, p u := by
  rw [List.drop_eq_nil_of_le (by omega)]; simp
theorem agg_part {H : Type} {l : List (DataW H × List MemPlace)} {d : DataW H × List MemPlace} (h : d ∈ l) (hb : Rows.uptoBulk (DataW.agg (l.map (·.1))) ≤ bulkMax) : Rows.uptoBulk d.1 ≤ bulkMax := by
  have := bulks.part_le (List.mem_map_of_mem (f := (·.1)) h)
  simp only [Rows.uptoBulk] at hb
  omega
end
section
theorem flen_Pro1 : ∀ x : Pro, (Pro.enc x).length = 5 := fun _ => rfl
theorem c3 : Tryz.prog.cellsOf 3 = 1 := by kernel_rfl
theorem c4 : Tryz.prog.cellsOf 4 = 1 := by kernel_rfl
theorem c9 : Tryz.prog.cellsOf 9 = 1 := by kernel_rfl
theorem c81 : Tryz.prog.cellsOf 81 = 1 := by kernel_rfl
theorem c83 : Tryz.prog.cellsOf 83 = 4 := by kernel_rfl
theorem c85 : Tryz.prog.cellsOf 85 = 5 := by kernel_rfl
theorem c31 : Tryz.prog.cellsOf 31 = 1 := by kernel_rfl
theorem c33 : Tryz.prog.cellsOf 33 = 5 := by kernel_rfl
theorem c35 : Tryz.prog.cellsOf 35 = 14 := by kernel_rfl
theorem dec_Val : Dec 83 Val.enc (fun _ => True) := by
  intro H en w fuel cs x h
  obtain ⟨xs, n, rfl, rfl, hl, hx, hf⟩ := DataW.trod_struct Tryz.underlying83 h
  rw [c83] at hl
  have hx : xs.length = 4 := hx
  obtain ⟨y0, y1, y2, y3, rfl⟩ : ∃ y0 y1 y2 y3, xs = [y0, y1, y2, y3] := by
    match xs, hx with
    | [y0, y1, y2, y3], _ => exact ⟨y0, y1, y2, y3, rfl⟩
  have f0 := hf 0 _ rfl
  replace f0 : DataW.trod en Tryz.prog w 0 (fun _ => true) true n 3 ((cs.drop 0).take (Tryz.prog.cellsOf 3)) = some y0 := f0
  have f1 := hf 1 _ rfl
  replace f1 : DataW.trod en Tryz.prog w 0 (fun _ => true) true n 3 ((cs.drop 1).take (Tryz.prog.cellsOf 3)) = some y1 := f1
  have f2 := hf 2 _ rfl
  replace f2 : DataW.trod en Tryz.prog w 0 (fun _ => true) true n 9 ((cs.drop 2).take (Tryz.prog.cellsOf 9)) = some y2 := f2
  have f3 := hf 3 _ rfl
  replace f3 : DataW.trod en Tryz.prog w 0 (fun _ => true) true n 81 ((cs.drop 3).take (Tryz.prog.cellsOf 81)) = some y3 := f3
  rw [c3] at f0
  obtain ⟨a0, r0, o0, g0⟩ := (dec_int Tryz.underlying3) f0
  rw [c3] at f1
  obtain ⟨a1, r1, o1, g1⟩ := (dec_int Tryz.underlying3) f1
  rw [c9] at f2
  obtain ⟨a2, r2, o2, g2⟩ := (dec_str Tryz.underlying9) f2
  rw [c81] at f3
  obtain ⟨a3, r3, o3, g3⟩ := (dec_flt Tryz.underlying81) f3
  have R4 := RepL.over (M := immW w) (ψ := noψ) hl
  have O4 : ∀ u ∈ cs.drop 4, u.oneCell' = true := all_over hl
  have R3 := RepL.field 3 1 r3 R4
  have O3 := all_field 3 1 o3 O4
  have R2 := RepL.field 2 1 r2 R3
  have O2 := all_field 2 1 o2 O3
  have R1 := RepL.field 1 1 r1 R2
  have O1 := all_field 1 1 o1 O2
  have R0 := RepL.field 0 1 r0 R1
  have O0 := all_field 0 1 o0 O1
  rw [List.drop_zero] at R0 O0
  have E : Num.enc a0 ++ (Num.enc a1 ++ (Str.enc a2 ++ (Flt.enc a3 ++ []))) = Val.enc ⟨a0, a1, a2, a3⟩ := rfl
  refine ⟨⟨a0, a1, a2, a3⟩, cast (congrArg (fun l => RepL (immW w) noψ l cs) E) R0, O0, fun hb => ?_⟩
  exact trivial
theorem dec_Pro : Dec 85 Pro.enc (fun p => p.name.size ≤ bulkMax) := by
  intro H en w fuel cs x h
  obtain ⟨xs, n, rfl, rfl, hl, hx, hf⟩ := DataW.trod_struct Tryz.underlying85 h
  rw [c85] at hl
  have hx : xs.length = 2 := hx
  obtain ⟨y0, y1, rfl⟩ : ∃ y0 y1, xs = [y0, y1] := by
    match xs, hx with
    | [y0, y1], _ => exact ⟨y0, y1, rfl⟩
  have f0 := hf 0 _ rfl
  replace f0 : DataW.trod en Tryz.prog w 0 (fun _ => true) true n 9 ((cs.drop 0).take (Tryz.prog.cellsOf 9)) = some y0 := f0
  have f1 := hf 1 _ rfl
  replace f1 : DataW.trod en Tryz.prog w 0 (fun _ => true) true n 83 ((cs.drop 1).take (Tryz.prog.cellsOf 83)) = some y1 := f1
  rw [c9] at f0
  obtain ⟨a0, r0, o0, g0⟩ := (dec_str Tryz.underlying9) f0
  rw [c83] at f1
  obtain ⟨a1, r1, o1, g1⟩ := dec_Val f1
  have R2 := RepL.over (M := immW w) (ψ := noψ) hl
  have O2 : ∀ u ∈ cs.drop 5, u.oneCell' = true := all_over hl
  have R1 := RepL.field 1 4 r1 R2
  have O1 := all_field 1 4 o1 O2
  have R0 := RepL.field 0 1 r0 R1
  have O0 := all_field 0 1 o0 O1
  rw [List.drop_zero] at R0 O0
  have E : Str.enc a0 ++ (Val.enc a1 ++ []) = Pro.enc ⟨a0, a1⟩ := rfl
  refine ⟨⟨a0, a1⟩, cast (congrArg (fun l => RepL (immW w) noψ l cs) E) R0, O0, fun hb => ?_⟩
  have B0 := agg_part (d := y0) (by simp) hb
  exact g0 B0
theorem dec_Pros : Dec 31 (fun xs : List Pro => [asl Pro.enc xs]) fun xs => xs.length ≤ bulkMax ∧ ∀ p ∈ xs, p.name.size ≤ bulkMax := dec_slice Tryz.underlying31 c85 (by decide) flen_Pro1 dec_Pro
theorem dec_Msg : Dec 33 Msg.enc (MsgFit) := by
  intro H en w fuel cs x h
  obtain ⟨xs, n, rfl, rfl, hl, hx, hf⟩ := DataW.trod_struct Tryz.underlying33 h
  rw [c33] at hl
  have hx : xs.length = 5 := hx
  obtain ⟨y0, y1, y2, y3, y4, rfl⟩ : ∃ y0 y1 y2 y3 y4, xs = [y0, y1, y2, y3, y4] := by
    match xs, hx with
    | [y0, y1, y2, y3, y4], _ => exact ⟨y0, y1, y2, y3, y4, rfl⟩
  have f0 := hf 0 _ rfl
  replace f0 : DataW.trod en Tryz.prog w 0 (fun _ => true) true n 9 ((cs.drop 0).take (Tryz.prog.cellsOf 9)) = some y0 := f0
  have f1 := hf 1 _ rfl
  replace f1 : DataW.trod en Tryz.prog w 0 (fun _ => true) true n 9 ((cs.drop 1).take (Tryz.prog.cellsOf 9)) = some y1 := f1
  have f2 := hf 2 _ rfl
  replace f2 : DataW.trod en Tryz.prog w 0 (fun _ => true) true n 31 ((cs.drop 2).take (Tryz.prog.cellsOf 31)) = some y2 := f2
  have f3 := hf 3 _ rfl
  replace f3 : DataW.trod en Tryz.prog w 0 (fun _ => true) true n 4 ((cs.drop 3).take (Tryz.prog.cellsOf 4)) = some y3 := f3
  have f4 := hf 4 _ rfl
  replace f4 : DataW.trod en Tryz.prog w 0 (fun _ => true) true n 3 ((cs.drop 4).take (Tryz.prog.cellsOf 3)) = some y4 := f4
  rw [c9] at f0
  obtain ⟨a0, r0, o0, g0⟩ := (dec_str Tryz.underlying9) f0
  rw [c9] at f1
  obtain ⟨a1, r1, o1, g1⟩ := (dec_str Tryz.underlying9) f1
  rw [c31] at f2
  obtain ⟨a2, r2, o2, g2⟩ := dec_Pros f2
  rw [c4] at f3
  obtain ⟨a3, r3, o3, g3⟩ := (dec_bool Tryz.underlying4) f3
  rw [c3] at f4
  obtain ⟨a4, r4, o4, g4⟩ := (dec_int Tryz.underlying3) f4
  have R5 := RepL.over (M := immW w) (ψ := noψ) hl
  have O5 : ∀ u ∈ cs.drop 5, u.oneCell' = true := all_over hl
  have R4 := RepL.field 4 1 r4 R5
  have O4 := all_field 4 1 o4 O5
  have R3 := RepL.field 3 1 r3 R4
  have O3 := all_field 3 1 o3 O4
  have R2 := RepL.field 2 1 r2 R3
  have O2 := all_field 2 1 o2 O3
  have R1 := RepL.field 1 1 r1 R2
  have O1 := all_field 1 1 o1 O2
  have R0 := RepL.field 0 1 r0 R1
  have O0 := all_field 0 1 o0 O1
  rw [List.drop_zero] at R0 O0
  have E : Str.enc a0 ++ (Str.enc a1 ++ ([asl Pro.enc a2] ++ (Boo.enc a3 ++ (Num.enc a4 ++ [])))) = Msg.enc ⟨a0, a1, a2, a3, a4⟩ := rfl
  refine ⟨⟨a0, a1, a2, a3, a4⟩, cast (congrArg (fun l => RepL (immW w) noψ l cs) E) R0, O0, fun hb => ?_⟩
  have B0 := agg_part (d := y0) (by simp) hb
  have B2 := agg_part (d := y2) (by simp) hb
  exact ⟨Nat.le_trans (g0 B0) (by unfold bulkMax; omega), Nat.le_trans (g2 B2).1 (by unfold bulkMax; omega), fun p hp => Nat.le_trans ((g2 B2).2 p hp) (by unfold bulkMax; omega)⟩
theorem dec_Oper : Dec 35 Oper.enc (OFit) := by
  intro H en w fuel cs x h
  obtain ⟨xs, n, rfl, rfl, hl, hx, hf⟩ := DataW.trod_struct Tryz.underlying35 h
  rw [c35] at hl
  have hx : xs.length = 10 := hx
  obtain ⟨y0, y1, y2, y3, y4, y5, y6, y7, y8, y9, rfl⟩ : ∃ y0 y1 y2 y3 y4 y5 y6 y7 y8 y9, xs = [y0, y1, y2, y3, y4, y5, y6, y7, y8, y9] := by
    match xs, hx with
    | [y0, y1, y2, y3, y4, y5, y6, y7, y8, y9], _ => exact ⟨y0, y1, y2, y3, y4, y5, y6, y7, y8, y9, rfl⟩
  have f0 := hf 0 _ rfl
  replace f0 : DataW.trod en Tryz.prog w 0 (fun _ => true) true n 3 ((cs.drop 0).take (Tryz.prog.cellsOf 3)) = some y0 := f0
  have f1 := hf 1 _ rfl
  replace f1 : DataW.trod en Tryz.prog w 0 (fun _ => true) true n 3 ((cs.drop 1).take (Tryz.prog.cellsOf 3)) = some y1 := f1
  have f2 := hf 2 _ rfl
  replace f2 : DataW.trod en Tryz.prog w 0 (fun _ => true) true n 3 ((cs.drop 2).take (Tryz.prog.cellsOf 3)) = some y2 := f2
  have f3 := hf 3 _ rfl
  replace f3 : DataW.trod en Tryz.prog w 0 (fun _ => true) true n 3 ((cs.drop 3).take (Tryz.prog.cellsOf 3)) = some y3 := f3
  have f4 := hf 4 _ rfl
  replace f4 : DataW.trod en Tryz.prog w 0 (fun _ => true) true n 9 ((cs.drop 4).take (Tryz.prog.cellsOf 9)) = some y4 := f4
  have f5 := hf 5 _ rfl
  replace f5 : DataW.trod en Tryz.prog w 0 (fun _ => true) true n 9 ((cs.drop 5).take (Tryz.prog.cellsOf 9)) = some y5 := f5
  have f6 := hf 6 _ rfl
  replace f6 : DataW.trod en Tryz.prog w 0 (fun _ => true) true n 4 ((cs.drop 6).take (Tryz.prog.cellsOf 4)) = some y6 := f6
  have f7 := hf 7 _ rfl
  replace f7 : DataW.trod en Tryz.prog w 0 (fun _ => true) true n 4 ((cs.drop 7).take (Tryz.prog.cellsOf 4)) = some y7 := f7
  have f8 := hf 8 _ rfl
  replace f8 : DataW.trod en Tryz.prog w 0 (fun _ => true) true n 4 ((cs.drop 8).take (Tryz.prog.cellsOf 4)) = some y8 := f8
  have f9 := hf 9 _ rfl
  replace f9 : DataW.trod en Tryz.prog w 0 (fun _ => true) true n 33 ((cs.drop 9).take (Tryz.prog.cellsOf 33)) = some y9 := f9
  rw [c3] at f0
  obtain ⟨a0, r0, o0, g0⟩ := (dec_int Tryz.underlying3) f0
  rw [c3] at f1
  obtain ⟨a1, r1, o1, g1⟩ := (dec_int Tryz.underlying3) f1
  rw [c3] at f2
  obtain ⟨a2, r2, o2, g2⟩ := (dec_int Tryz.underlying3) f2
  rw [c3] at f3
  obtain ⟨a3, r3, o3, g3⟩ := (dec_int Tryz.underlying3) f3
  rw [c9] at f4
  obtain ⟨a4, r4, o4, g4⟩ := (dec_str Tryz.underlying9) f4
  rw [c9] at f5
  obtain ⟨a5, r5, o5, g5⟩ := (dec_str Tryz.underlying9) f5
  rw [c4] at f6
  obtain ⟨a6, r6, o6, g6⟩ := (dec_bool Tryz.underlying4) f6
  rw [c4] at f7
  obtain ⟨a7, r7, o7, g7⟩ := (dec_bool Tryz.underlying4) f7
  rw [c4] at f8
  obtain ⟨a8, r8, o8, g8⟩ := (dec_bool Tryz.underlying4) f8
  rw [c33] at f9
  obtain ⟨a9, r9, o9, g9⟩ := dec_Msg f9
  have R10 := RepL.over (M := immW w) (ψ := noψ) hl
  have O10 : ∀ u ∈ cs.drop 14, u.oneCell' = true := all_over hl
  have R9 := RepL.field 9 5 r9 R10
  have O9 := all_field 9 5 o9 O10
  have R8 := RepL.field 8 1 r8 R9
  have O8 := all_field 8 1 o8 O9
  have R7 := RepL.field 7 1 r7 R8
  have O7 := all_field 7 1 o7 O8
  have R6 := RepL.field 6 1 r6 R7
  have O6 := all_field 6 1 o6 O7
  have R5 := RepL.field 5 1 r5 R6
  have O5 := all_field 5 1 o5 O6
  have R4 := RepL.field 4 1 r4 R5
  have O4 := all_field 4 1 o4 O5
  have R3 := RepL.field 3 1 r3 R4
  have O3 := all_field 3 1 o3 O4
  have R2 := RepL.field 2 1 r2 R3
  have O2 := all_field 2 1 o2 O3
  have R1 := RepL.field 1 1 r1 R2
  have O1 := all_field 1 1 o1 O2
  have R0 := RepL.field 0 1 r0 R1
  have O0 := all_field 0 1 o0 O1
  rw [List.drop_zero] at R0 O0
  have E : Num.enc a0 ++ (Num.enc a1 ++ (Num.enc a2 ++ (Num.enc a3 ++ (Str.enc a4 ++ (Str.enc a5 ++ (Boo.enc a6 ++ (Boo.enc a7 ++ (Boo.enc a8 ++ (Msg.enc a9 ++ []))))))))) = Oper.enc ⟨a0, a1, a2, a3, a4, a5, a6, a7, a8, a9⟩ := rfl
  refine ⟨⟨a0, a1, a2, a3, a4, a5, a6, a7, a8, a9⟩, cast (congrArg (fun l => RepL (immW w) noψ l cs) E) R0, O0, fun hb => ?_⟩
  have B4 := agg_part (d := y4) (by simp) hb
  have B5 := agg_part (d := y5) (by simp) hb
  have B9 := agg_part (d := y9) (by simp) hb
  exact ⟨g9 B9, Nat.le_trans (g4 B4) (by unfold bulkMax; omega), Nat.le_trans (g5 B5) (by unfold bulkMax; omega)⟩
theorem dec_Opers : Dec 22 (fun xs : List Tv.Oper => [asl Oper.enc xs]) fun xs => xs.length ≤ bulkMax ∧ ∀ p ∈ xs, OFit p := dec_slice Tryz.underlying22 c35 (by decide) len_Oper dec_Oper
end
end Go.Proofs.YtpcpljfifipagaaGreatDoor
