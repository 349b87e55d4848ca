/- A part of the proof: the engine that walks Go code, the walks of the broker, or their laws (La TE TF TG TH TI TJ TK). -/
import Derived.Test.YtpcpljfifipagaaGreatDoorX24
import Derived.Test.YtpcpljfifipagaaGreatDoorX14
set_option linter.unusedSimpArgs false
set_option linter.unusedVariables false
set_option maxHeartbeats 8000000
set_option maxRecDepth 20000
namespace Go.Proofs.YtpcpljfifipagaaGreatDoor
open Go.Eng Go.Tv
section
theorem sEq_iff (a b : ByteArray) : sEq a b = true ↔ a = b := by
  unfold sEq
  rw [ByteArray.toList_eq, ByteArray.toList_eq, beq_iff_eq]
  exact ⟨fun h => ByteArray.ext (Array.toList_inj.mp h), fun h => by rw [h]⟩
theorem sEq_self (a : ByteArray) : sEq a a = true := (sEq_iff a a).mpr rfl
theorem sEq_ne {a b : ByteArray} : sEq a b = false ↔ a ≠ b := by
  rw [← Bool.not_eq_true, sEq_iff]
structure Cmp {κ : Type} (c : κ → κ → Int) : Prop where
  refl : ∀ a, c a a = 0
  eq : ∀ a b, c a b = 0 → a = b
  anti : ∀ a b, c a b < 0 ↔ 0 < c b a
  trans : ∀ a b d, c a b < 0 → c b d < 0 → c a d < 0
theorem u8_lt_trans {a b c : UInt8} (h : a < b) (k : b < c) : a < c := by
  rw [UInt8.lt_iff_toNat_lt] at *; omega
theorem bytes_refl : ∀ a : List UInt8, Lib.compareBytes a a = 0
  | [] => by unfold Lib.compareBytes; rfl
  | a :: xs => by
    unfold Lib.compareBytes
    rw [if_neg (UInt8.lt_irrefl a), if_neg (UInt8.lt_irrefl a)]
    exact bytes_refl xs
theorem bytes_eq : ∀ a b : List UInt8, Lib.compareBytes a b = 0 → a = b
  | [], [], _ => rfl
  | [], _ :: _, h => by unfold Lib.compareBytes at h; cases h
  | _ :: _, [], h => by unfold Lib.compareBytes at h; cases h
  | a :: xs, b :: ys, h => by
    unfold Lib.compareBytes at h
    split at h
    · cases h
    · split at h
      · cases h
      · rename_i h1 h2
        rw [UInt8.lt_iff_toNat_lt] at h1 h2
        have e : a = b := UInt8.toNat_inj.mp (by omega)
        rw [e, bytes_eq xs ys h]
theorem bytes_anti : ∀ a b : List UInt8, Lib.compareBytes a b < 0 ↔ 0 < Lib.compareBytes b a
  | [], [] => by unfold Lib.compareBytes; omega
  | [], _ :: _ => by unfold Lib.compareBytes; omega
  | _ :: _, [] => by unfold Lib.compareBytes; omega
  | a :: xs, b :: ys => by
    unfold Lib.compareBytes
    by_cases h1 : a < b
    · have h2 : ¬ b < a := by rw [UInt8.lt_iff_toNat_lt] at *; omega
      rw [if_pos h1, if_neg h2, if_pos h1]; omega
    · by_cases h2 : b < a
      · rw [if_neg h1, if_pos h2, if_pos h2]; omega
      · rw [if_neg h1, if_neg h2, if_neg h2, if_neg h1]
        exact bytes_anti xs ys
theorem bytes_trans : ∀ a b c : List UInt8, Lib.compareBytes a b < 0 → Lib.compareBytes b c < 0 → Lib.compareBytes a c < 0
  | _, [], [], _, h => by unfold Lib.compareBytes at h; omega
  | [], [], _ :: _, h, _ => by unfold Lib.compareBytes at h; omega
  | _ :: _, [], _ :: _, h, _ => by unfold Lib.compareBytes at h; omega
  | _, _ :: _, [], _, h => by unfold Lib.compareBytes at h; omega
  | [], _ :: _, _ :: _, _, _ => by unfold Lib.compareBytes; omega
  | a :: xs, b :: ys, c :: zs, h, k => by
    unfold Lib.compareBytes at h k ⊢
    by_cases h1 : a < b
    · by_cases k1 : b < c
      · rw [if_pos (u8_lt_trans h1 k1)]; omega
      · rw [if_neg k1] at k
        by_cases k2 : c < b
        · rw [if_pos k2] at k; omega
        · have e : b = c := UInt8.toNat_inj.mp (by rw [UInt8.lt_iff_toNat_lt] at k1 k2; omega)
          rw [← e, if_pos h1]; omega
    · rw [if_neg h1] at h
      by_cases h2 : b < a
      · rw [if_pos h2] at h; omega
      · rw [if_neg h2] at h
        have e : a = b := UInt8.toNat_inj.mp (by rw [UInt8.lt_iff_toNat_lt] at h1 h2; omega)
        rw [e]
        by_cases k1 : b < c
        · rw [if_pos k1]; omega
        · rw [if_neg k1] at k ⊢
          by_cases k2 : c < b
          · rw [if_pos k2] at k; omega
          · rw [if_neg k2] at k ⊢
            exact bytes_trans xs ys zs h k
theorem scmp_cmp : Cmp scmp := {
  refl := fun a => bytes_refl _
  eq := fun a b h => ByteArray.ext (Array.toList_inj.mp (bytes_eq _ _ h))
  anti := fun a b => bytes_anti _ _
  trans := fun a b d => bytes_trans _ _ _ }
theorem icmp_cmp : Cmp icmp := {
  refl := fun a => by simp [icmp]
  eq := fun a b h => by unfold icmp at h; split at h <;> (try split at h) <;> omega
  anti := fun a b => by unfold icmp; split <;> split <;> (try split) <;> omega
  trans := fun a b d h k => by unfold icmp at *; split at h <;> (try split at h) <;> split at k <;> (try split at k) <;> split <;> (try split) <;> omega }
theorem or2_lt {a b : Int} : or2 a b < 0 ↔ a < 0 ∨ a = 0 ∧ b < 0 := by unfold or2; split <;> omega
theorem or2_gt {a b : Int} : 0 < or2 a b ↔ 0 < a ∨ a = 0 ∧ 0 < b := by unfold or2; split <;> omega
theorem or2_zero {a b : Int} : or2 a b = 0 ↔ a = 0 ∧ b = 0 := by unfold or2; split <;> omega
theorem Cmp.pair {κ μ : Type} {c : κ → κ → Int} {d : μ → μ → Int} (h : Cmp c) (k : Cmp d) : Cmp fun (a b : κ × μ) => or2 (c a.1 b.1) (d a.2 b.2) := {
  refl := fun a => or2_zero.mpr ⟨h.refl _, k.refl _⟩
  eq := fun a b e => by
    obtain ⟨e1, e2⟩ := or2_zero.mp e
    exact Prod.ext (h.eq _ _ e1) (k.eq _ _ e2)
  anti := fun a b => by
    rw [or2_lt, or2_gt, h.anti, k.anti]
    constructor
    · rintro (e | ⟨e1, e2⟩)
      · exact .inl e
      · have := h.eq _ _ e1
        rw [this]
        exact .inr ⟨h.refl _, e2⟩
    · rintro (e | ⟨e1, e2⟩)
      · exact .inl e
      · have := h.eq _ _ e1
        rw [this]
        exact .inr ⟨h.refl _, e2⟩
  trans := fun a b e h1 h2 => by
    rw [or2_lt] at *
    rcases h1 with h1 | ⟨h1, h1'⟩
    · rcases h2 with h2 | ⟨h2, h2'⟩
      · exact .inl (h.trans _ _ _ h1 h2)
      · rw [← h.eq _ _ h2]; exact .inl h1
    · rw [h.eq _ _ h1]
      rcases h2 with h2 | ⟨h2, h2'⟩
      · exact .inl h2
      · exact .inr ⟨h2, k.trans _ _ _ h1' h2'⟩ }
section
variable {α κ : Type} {c : κ → κ → Int} (hc : Cmp c) (k : α → κ)
def Up (c : κ → κ → Int) (k : α → κ) (xs : List α) : Prop := xs.Pairwise fun a b => c (k a) (k b) < 0
theorem Cmp.gt {a b : κ} (hc : Cmp c) (h1 : ¬ c a b < 0) (h2 : c a b ≠ 0) : c b a < 0 := by
  rw [hc.anti]
  omega
include hc in
theorem rising_iff {f : α → α → Int} (hf : ∀ a b, f a b = c (k a) (k b)) : ∀ xs : List α, rising f xs = true ↔ Up c k xs
  | [] => by simp [rising, Up]
  | [a] => by simp [rising, Up]
  | a :: b :: r => by
    have ih := rising_iff hf (b :: r)
    simp only [rising, Bool.and_eq_true, decide_eq_true_eq, ih, hf]
    constructor
    · rintro ⟨h1, h2⟩
      refine List.pairwise_cons.mpr ⟨fun x hx => ?_, h2⟩
      rcases List.mem_cons.mp hx with rfl | hx
      · exact h1
      · exact hc.trans _ _ _ h1 ((List.pairwise_cons.mp h2).1 x hx)
    · intro h
      obtain ⟨h1, h2⟩ := List.pairwise_cons.mp h
      exact ⟨h1 b (List.mem_cons_self ..), h2⟩
theorem Up.sub {xs ys : List α} (h : Up c k ys) (hs : xs.Sublist ys) : Up c k xs := List.Pairwise.sublist hs h
theorem Up.filter {xs : List α} (h : Up c k xs) (p : α → Bool) : Up c k (xs.filter p) := h.sub k List.filter_sublist
theorem Up.erase {xs : List α} (h : Up c k xs) (i : Nat) : Up c k (xs.eraseIdx i) := h.sub k (List.eraseIdx_sublist ..)
theorem Up.keys {xs : List α} : Up c k xs ↔ (xs.map k).Pairwise fun a b => c a b < 0 := by unfold Up; rw [List.pairwise_map]
theorem Up.set {xs : List α} (h : Up c k xs) (i : Nat) {x y : α} (hx : xs[i]? = some x) (hy : k y = k x) : Up c k (xs.set i y) := by
  rw [Up.keys] at h ⊢
  have : (xs.set i y).map k = xs.map k := by
    rw [List.map_set, hy]
    apply List.ext_getElem?
    intro j
    rw [List.getElem?_set]
    split
    · rename_i e; subst e
      split
      · rw [List.getElem?_map, hx]; rfl
      · rw [List.getElem?_eq_none (by omega)]
    · rfl
  rw [this]; exact h
theorem bsGo_spec {lt : Nat → Bool} (mono : ∀ i j, i ≤ j → lt j = true → lt i = true) : ∀ (n i j : Nat), n = j - i → i ≤ j → (∀ m, m < i → lt m = true) → (∀ m, j ≤ m → lt m = false) →
    (∀ m, m < bsGo lt i j → lt m = true) ∧ ∀ m, bsGo lt i j ≤ m → lt m = false := by
  intro n
  induction n using Nat.strongRecOn with
  | _ n ih =>
    intro i j hn hij h1 h2
    rcases Nat.lt_or_ge i j with hlt | hge
    · rcases Bool.eq_false_or_eq_true (lt ((i + j) / 2)) with hl | hl
      · rw [bsGo_lt lt hlt hl]
        exact ih (j - ((i + j) / 2 + 1)) (by omega) _ _ rfl (by omega) (fun m hm => mono m _ (by omega) hl) h2
      · rw [bsGo_ge lt hlt hl]
        refine ih ((i + j) / 2 - i) (by omega) _ _ rfl (by omega) h1 fun m hm => ?_
        rcases Bool.eq_false_or_eq_true (lt m) with e | e
        · have := mono _ _ hm e; rw [hl] at this; cases this
        · exact e
    · rw [bsGo_eq lt hge]
      have : i = j := by omega
      subst this
      exact ⟨h1, h2⟩
theorem ltAt_some {g : α → Int} {xs : List α} {i : Nat} (h : ltAt g xs i = true) : ∃ x, xs[i]? = some x ∧ g x < 0 := by
  unfold ltAt at h
  split at h
  · rename_i x hx; exact ⟨x, hx, by simpa using h⟩
  · cases h
theorem ltAt_of {g : α → Int} {xs : List α} {i : Nat} {x : α} (h : xs[i]? = some x) : ltAt g xs i = decide (g x < 0) := by simp [ltAt, h]
theorem Up.get {xs : List α} (h : Up c k xs) {i j : Nat} {x y : α} (hx : xs[i]? = some x) (hy : xs[j]? = some y) (hij : i < j) : c (k x) (k y) < 0 := by
  have hi : i < xs.length := by
    rcases Nat.lt_or_ge i xs.length with h' | h'
    · exact h'
    · rw [List.getElem?_eq_none h'] at hx; cases hx
  have hj : j < xs.length := by
    rcases Nat.lt_or_ge j xs.length with h' | h'
    · exact h'
    · rw [List.getElem?_eq_none h'] at hy; cases hy
  have := List.pairwise_iff_getElem.mp h i j hi hj hij
  rw [List.getElem?_eq_getElem hi] at hx
  rw [List.getElem?_eq_getElem hj] at hy
  cases hx; cases hy
  exact this
include hc in
theorem bsearch_spec {xs : List α} (h : Up c k xs) (y : κ) {g : α → Int} (hg : ∀ x, g x = c (k x) y) : (∀ x ∈ xs.take (bsearch g xs), g x < 0) ∧ ∀ x ∈ xs.drop (bsearch g xs), ¬ g x < 0 := by
  have mono : ∀ i j, i ≤ j → ltAt g xs j = true → ltAt g xs i = true := by
    intro i j hij hj
    rcases Nat.eq_or_lt_of_le hij with rfl | hlt
    · exact hj
    obtain ⟨x, hx, hxl⟩ := ltAt_some hj
    have hjl : j < xs.length := by
      rcases Nat.lt_or_ge j xs.length with h' | h'
      · exact h'
      · rw [List.getElem?_eq_none h'] at hx; cases hx
    obtain ⟨z, hz⟩ : ∃ z, xs[i]? = some z := ⟨_, List.getElem?_eq_getElem (by omega)⟩
    rw [ltAt_of hz, decide_eq_true_eq, hg]
    rw [hg] at hxl
    exact hc.trans _ _ _ (h.get k hz hx hlt) hxl
  have := bsGo_spec mono xs.length 0 xs.length (by omega) (by omega) (fun m hm => by omega) (fun m hm => by simp [ltAt, List.getElem?_eq_none hm])
  obtain ⟨s1, s2⟩ := this
  change (∀ m, m < bsearch g xs → _) at s1
  change (∀ m, bsearch g xs ≤ m → _) at s2
  constructor
  · intro x hx
    obtain ⟨m, hm⟩ := List.getElem?_of_mem hx
    rw [List.getElem?_take] at hm
    split at hm
    · rename_i hlt
      have := s1 m hlt
      rw [ltAt_of hm] at this
      simpa using this
    · cases hm
  · intro x hx
    obtain ⟨m, hm⟩ := List.getElem?_of_mem hx
    rw [List.getElem?_drop] at hm
    have := s2 _ (Nat.le_add_right (bsearch g xs) m)
    rw [ltAt_of hm] at this
    simpa using this
include hc in
theorem Up.ins {xs : List α} (h : Up c k xs) (y : α) {g : α → Int} (hg : ∀ x, g x = c (k x) (k y)) (hne : ∀ x ∈ xs, g x ≠ 0) : Up c k (insAt (bsearch g xs) y xs) := by
  obtain ⟨s1, s2⟩ := bsearch_spec hc k h (k y) hg
  unfold insAt Up
  rw [List.pairwise_append, List.pairwise_cons]
  have hb : ∀ x ∈ xs.take (bsearch g xs), c (k x) (k y) < 0 := fun x hx => by rw [← hg]; exact s1 x hx
  have ha : ∀ x ∈ xs.drop (bsearch g xs), c (k y) (k x) < 0 := fun x hx => hc.gt (by rw [← hg]; exact s2 x hx) (by rw [← hg]; exact hne x (List.mem_of_mem_drop hx))
  refine ⟨h.sub k (List.take_sublist ..), ⟨ha, h.sub k (List.drop_sublist ..)⟩, fun x hx z hz => ?_⟩
  rcases List.mem_cons.mp hz with rfl | hz
  · exact hb x hx
  · exact hc.trans _ _ _ (hb x hx) (ha z hz)
include hc in
theorem bfound_iff {xs : List α} (h : Up c k xs) (y : κ) {g : α → Int} (hg : ∀ x, g x = c (k x) y) : bfound g xs = true ↔ ∃ x ∈ xs, g x = 0 := by
  constructor
  · intro hb
    unfold bfound at hb
    split at hb
    · rename_i x hx; exact ⟨x, List.mem_of_getElem? hx, by simpa using hb⟩
    · cases hb
  · rintro ⟨x, hx, hx0⟩
    obtain ⟨s1, s2⟩ := bsearch_spec hc k h y hg
    have hmem : x ∈ xs.drop (bsearch g xs) := by
      rw [← List.take_append_drop (bsearch g xs) xs] at hx
      rcases List.mem_append.mp hx with hx | hx
      · have := s1 x hx; omega
      · exact hx
    unfold bfound
    cases hd : xs.drop (bsearch g xs) with
    | nil => rw [hd] at hmem; cases hmem
    | cons z zs =>
      have hz : xs[bsearch g xs]? = some z := by
        have := congrArg (fun l => l[0]?) hd
        simpa using this
      rw [hz]
      rw [hd] at hmem
      rcases List.mem_cons.mp hmem with rfl | hmem
      · simpa using hx0
      · exfalso
        have hup : Up c k (z :: zs) := by rw [← hd]; exact h.sub k (List.drop_sublist ..)
        have h1 := (List.pairwise_cons.mp hup).1 x hmem
        have h2 := s2 z (by rw [hd]; exact List.mem_cons_self ..)
        rw [hg] at h2 hx0
        rw [hc.eq _ _ hx0] at h1
        exact h2 h1
end
end
section
attribute [local simp] plainOp Heap.put D_36 D_42 D_33 D_50 D_77 D_37 D_24 D_25 D_26 D_27 D_28 D_87 D_30 D_54 D_46 D_89 D_105 D_103 D_102 D_35 D_101 D_80 D_118 D_124 D_121 D_108 D_110 D_112 D_114 fieldsEq fieldEq
attribute [local simp ↓] evTsR evQsh evQh
attribute [-simp] List.length_flatMap
theorem cell_at {cs : List AV} {i k : Nat} {e : List AV} (h : (cs.drop i).take k = e) (o : Nat) (v : AV) (he : e[o]? = some v) : cs.drop (i + o) = v :: cs.drop (i + o + 1) := by
  subst h
  rw [List.getElem?_take] at he
  split at he
  · rw [List.getElem?_drop] at he
    exact drop_at he
  · cases he
def declareT (o : Tv.Oper) (t : Turn) : Except Int Turn :=
  if 0 ≤ atQ t.core.queues o.queue then
    match t.core.queues[(atQ t.core.queues o.queue).toNat]? with
    | none => .error 32
    | some q => if (q.durable == o.durable) && (q.depth == o.n) then .ok t else .error 32
  else
    let r := newQ o.queue o.durable o.n
    if r.2 ≠ 0 then .error r.2 else
    if ¬ t.core.queues.length < 16 then .error 34 else
    .ok { t with core := { t.core with queues := insAt (bsearch (fun x => byNameQ x r.1) t.core.queues) r.1 t.core.queues } }
theorem declareT_fun (N : TN) (t : Turn) (o : Tv.Oper) (F H : Heap) (hf : CFit t.core) (hof : OFit o) (h : TAt N t F H) : PCalls Tryz.prog 118 [.p (.h N.x) 0, .agg o.enc] H (TurnQ N F (declareT o t)) := by
  have hkeep := h.keeps
  have h0 := h
  obtain ⟨cls, P, hO, hcl⟩ := h0
  have hx : H N.x = some (xrow N t.out.length) := hO.get _ _ (by simp [objs])
  have hc : H N.c = some (crow N t.core cls.length) := hO.get _ _ (by simp [objs])
  have hq : H N.q = some (t.core.queues.flatMap Queue.enc) := hO.get _ _ (by simp [objs])
  have hnq := hf.nq
  refine PCalls.of_J' D_ok Tryz.func118 rfl (by decide) (le' rfl) fun E QF hF => ?_
  change J _ E 81 _ _ _
  refine J_seq' fun K1 hK1 => J1 3 ?_
  simp [Oper.enc, Msg.enc]
  refine hK1 _ (J_seq' fun K2 hK2 => J_seq' fun K3 hK3 => J1 3 ?_)
  simp
  refine (atH_fun N t F H hf.nq o.queue h).mono ?_
  rintro r H' ⟨rfl, hHe⟩
  obtain rfl : H = H' := hHe.symm
  simp
  refine hK3 _ (J_seq' fun K4 hK4 => J1 3 ?_)
  simp
  refine hK4 _ (J_cond rfl (fun hd => ?_) fun hd => J_skip ?_)
  · have hat : 0 ≤ atQ t.core.queues o.queue := by simpa using hd
    obtain ⟨i, q, hi, hqi, hil⟩ := atQ_some hat
    have hqa := at_Queue t.core.queues hqi
    have hres : declareT o t = if (q.durable == o.durable) && (q.depth == o.n) then .ok t else .error 32 := by
      simp only [declareT, hi, Int.toNat_natCast, hqi]
      rw [if_pos (by omega)]
    rw [hres] at hF
    rw [hi]
    have hqa1 := cell_at hqa 1 (abool q.durable) rfl
    have hqa2 := cell_at hqa 2 (aint q.depth) rfl
    refine J_seq' fun K5 hK5 => D1 3 [0,1,2,3,4,5,6,7,8,9,10,11,12,13,14,15,16,17,18,19,20,21,22,23,24,25,26,27,28,29] [30] (fun _ => []) rfl (by decide) (by decide) ?_
    have fin : ∀ S L, ((q.durable == o.durable) && (q.depth == o.n)) = true → K5 ⟨S, L, H⟩ := by
      intro S L hb
      refine hK5 _ (J_ret (hF _ _ ?_))
      rw [if_pos hb]
      simp [Tryz.f118, TurnQ]
      exact ⟨N, rfl, rfl, h⟩
    have bad : ∀ S L, ((q.durable == o.durable) && (q.depth == o.n)) = false → QF (.panic (stop 32)) ⟨S, L, H⟩ := by
      intro S L hb
      refine hF _ _ ?_
      simp [hb, stop]
      exact TurnQ.err hkeep
    by_cases d1 : q.durable = o.durable
    · by_cases d2 : q.depth = o.n
      · simp [hx, hc, xrow, crow, hq, hqa1, hqa2, d1, d2]
        repeat refine And.intro (by omega) ?_
        refine unless_tt 32 fun v => ?_
        simp
        exact fin _ _ (by simp [d1, d2])
      · simp [hx, hc, xrow, crow, hq, hqa1, hqa2, d1, d2]
        repeat refine And.intro (by omega) ?_
        rw [show (q.depth == o.n) = false from by simp [d2]]
        refine unless_ff 32 ?_
        exact bad _ _ (by simp [d1, d2])
    · simp [hx, hc, xrow, crow, hq, hqa1, hqa2, d1]
      repeat refine And.intro (by omega) ?_
      refine unless_ff 32 ?_
      exact bad _ _ (by simp [d1])
  · have hat : ¬ 0 ≤ atQ t.core.queues o.queue := by simpa using hd
    have hd' : declareT o t = if (newQ o.queue o.durable o.n).2 ≠ 0 then .error (newQ o.queue o.durable o.n).2 else if ¬ t.core.queues.length < 16 then .error 34 else .ok { t with core := { t.core with queues := insAt (bsearch (fun x => byNameQ x (newQ o.queue o.durable o.n).1) t.core.queues) (newQ o.queue o.durable o.n).1 t.core.queues } } := by
      simp only [declareT]
      rw [if_neg hat]
    rw [hd'] at hF
    simp only [thenQ]
    refine hK2 _ (J_seq' fun K5 hK5 => J1 3 ?_)
    simp
    refine (new_fun o.queue o.durable o.n hof.q).call ?_
    generalize newQ o.queue o.durable o.n = r at hF
    obtain ⟨q, e⟩ := r
    simp only at hF
    simp [len_Queue, kill_Queue]
    refine hK5 _ (J_seq' fun K6 hK6 => J1 3 ?_)
    by_cases he : e = 0
    rotate_left
    · simp
      refine fail_no he (hF _ _ ?_)
      simp [he, stop]
      exact TurnQ.err hkeep
    subst he
    simp
    refine fail_ok fun v => ?_
    simp
    refine hK6 _ (J_seq' fun K7 hK7 => J1 3 ?_)
    by_cases hl : t.core.queues.length < 16
    rotate_left
    · simp [hx, hc, xrow, crow, hl, show ¬ (t.core.queues.length : Int) < 16 from by omega]
      refine unless_ff 34 (hF _ _ ?_)
      simp [hl, stop]
      exact TurnQ.err hkeep
    simp [hx, hc, xrow, crow, hl, show (t.core.queues.length : Int) < 16 from by omega]
    refine unless_tt 34 fun v => ?_
    simp
    refine hK7 _ (D1 3 [0,1,2,3,4,5,6,7,8,9,10,11,13,14] [12,15] (fun t => match t with | 12 => [0,1,2,3,13,14] | _ => []) rfl (by decide) (by decide) ?_)
    simp [hx, hc, xrow, crow, len_Queue, take_Queue, noLL_Queue]
    refine (insert_Queue t.core.queues hnq q 183 byNameQ (fun x _ => byNameQ_fun183 x q) H N.q hq).mono ?_
    rintro r H1 hrow
    have hbl := bsearch_le (fun x => byNameQ x q) t.core.queues
    have hil := insAt_len hbl q
    obtain ⟨k1, rfl, hx1, hc1, hT⟩ := row_q hO hcl _ hil.symm hrow
    simp [hc1, hx1, xrow, crow]
    refine ⟨⟨True, _, ⟨trivial, rfl⟩, trivial, rfl⟩, ?_⟩
    refine hF _ _ ?_
    simp [Tryz.f118, TurnQ, hl]
    refine ⟨{ N with q := k1 }, rfl, rfl, ?_⟩
    simpa [crow] using hT
def subscribeT (o : Tv.Oper) (t : Turn) : Except Int Turn :=
  if !(conn o.conn o.sub && decide (1 ≤ o.n) && decide (o.n ≤ 32)) then .error 1 else
  if atQ t.core.queues o.queue < 0 then .error 33 else
  if t.core.subs.any (subSame ⟨o.conn, o.sub, o.queue, o.n, o.auto⟩) then .error 32 else
  if ¬ t.core.subs.length < 32 then .error 34 else
  .ok { t with core := { t.core with subs := insAt (bsearch (fun x => bySub x ⟨o.conn, o.sub, o.queue, o.n, o.auto⟩) t.core.subs) ⟨o.conn, o.sub, o.queue, o.n, o.auto⟩ t.core.subs } }
theorem subscribeT_fun (N : TN) (t : Turn) (o : Tv.Oper) (F H : Heap) (hf : CFit t.core) (h : TAt N t F H) : PCalls Tryz.prog 125 [.p (.h N.x) 0, .agg o.enc] H (TurnQ N F (subscribeT o t)) := by
  have hkeep := h.keeps
  have h0 := h
  obtain ⟨cls, P, hO, hcl⟩ := h0
  have hx : H N.x = some (xrow N t.out.length) := hO.get _ _ (by simp [objs])
  have hc : H N.c = some (crow N t.core cls.length) := hO.get _ _ (by simp [objs])
  have hsb : H N.s = some (t.core.subs.flatMap Sub.enc) := hO.get _ _ (by simp [objs])
  have hns := hf.ns
  refine PCalls.of_J' D_ok Tryz.func125 rfl (by decide) (le' rfl) fun E QF hF => ?_
  change J _ E 72 _ _ _
  refine J_seq' fun K1 hK1 => J1 3 ?_
  simp [Oper.enc, Msg.enc]
  refine hK1 _ (J_seq' fun K2 hK2 => J1 3 ?_)
  have bad : ∀ S L, (conn o.conn o.sub && decide (1 ≤ o.n) && decide (o.n ≤ 32)) = false → QF (.panic (stop 1)) ⟨S, L, H⟩ := by
    intro S L hb
    refine hF _ _ ?_
    simp only [subscribeT, hb]
    simp [stop]
    exact TurnQ.err hkeep
  rcases Bool.eq_false_or_eq_true (conn o.conn o.sub) with c1 | c1
  rotate_left
  · simp
    refine (conn_fun _ _).call ?_
    rw [c1]
    simp
    refine unless_ff 1 (bad _ _ (by simp [c1]))
  by_cases c2 : 1 ≤ o.n
  rotate_left
  · simp
    refine (conn_fun _ _).call ?_
    rw [c1]
    simp [c2, show o.n < 1 from by omega]
    refine unless_ff 1 (bad _ _ (by simp [c1, c2]))
  by_cases c3 : o.n ≤ 32
  rotate_left
  · simp
    refine (conn_fun _ _).call ?_
    rw [c1]
    simp [c2, c3, show ¬ o.n < 1 from by omega, show 32 < o.n from by omega]
    refine unless_ff 1 (bad _ _ (by simp [c1, c2, c3]))
  simp
  refine (conn_fun _ _).call ?_
  rw [c1]
  simp [c2, c3, show ¬ o.n < 1 from by omega, show ¬ 32 < o.n from by omega]
  refine unless_tt 1 fun v => ?_
  simp
  refine hK2 _ (J_seq' fun K3 hK3 => J1 3 ?_)
  simp
  refine (queue_fun N t F H hf.nq o.queue h).mono ?_
  rintro r H' ⟨hHe, rfl⟩
  obtain rfl : H = H' := hHe.symm
  rcases Int.lt_or_le (atQ t.core.queues o.queue) 0 with hneg | hat
  · have hat : ¬ 0 ≤ atQ t.core.queues o.queue := by omega
    rw [if_neg hat]
    refine hF _ _ ?_
    simp [subscribeT, c1, c2, c3, hneg, stop]
    exact TurnQ.err hkeep
  rw [if_pos hat]
  simp
  refine hK3 _ (J_seq' fun K4 hK4 => J1 3 ?_)
  simp
  obtain ⟨s, hs⟩ : ∃ s : Tv.Sub, s = ⟨o.conn, o.sub, o.queue, o.n, o.auto⟩ := ⟨_, rfl⟩
  have hres : subscribeT o t = if t.core.subs.any (subSame s) then .error 32 else if ¬ t.core.subs.length < 32 then .error 34 else .ok { t with core := { t.core with subs := insAt (bsearch (fun x => bySub x s) t.core.subs) s t.core.subs } } := by
    rw [hs]
    simp only [subscribeT, c1, c2, c3]
    rw [if_neg (by simp), if_neg (by omega)]
  rw [hres] at hF
  have hse : s.enc = [aint o.conn, aint o.sub, astr o.queue, aint o.n, abool o.auto] := by rw [hs]; rfl
  refine hK4 _ (J_freeze 4 (cs := s.enc) (by simp [lookL, hse]) (noLL_Sub s) ?_)
  refine J_has (T := [(0, .p (.h N.x) 0), (3, .vp o.enc), (4, .vp s.enc)]) (L := []) (H := H) ⟨by simp [AS.frz, frzS, frzL, frzC, AV.frz, Oper.enc, Msg.enc], by simp [AS.frz, frzL], by simp [AS.frz]⟩ ?_
  refine J_seq' fun K5 hK5 => J1 3 ?_
  simp [hx, hc, xrow, crow, noLL_Sub]
  refine (containsH_Sub t.core.subs hns 203 [.vp s.enc] (by simp [noLL_Sub]) (subSame s) (fun x _ => subSame_fun x s) H N.s hsb).mono ?_
  rintro r H' ⟨rfl, hHe⟩
  obtain rfl : H = H' := hHe.symm
  rcases Bool.eq_false_or_eq_true (t.core.subs.any (subSame s)) with c4 | c4
  · rw [c4]
    simp
    refine unless_ff 32 (hF _ _ ?_)
    rw [if_pos c4]
    simp [stop]
    exact TurnQ.err hkeep
  rw [if_neg (show ¬ (t.core.subs.any (subSame s) = true) from by rw [c4]; simp)] at hF
  rw [c4]
  simp
  refine unless_tt 32 fun v => ?_
  simp
  refine hK5 _ (J_seq' fun K6 hK6 => J1 3 ?_)
  by_cases hl : t.core.subs.length < 32
  rotate_left
  · simp [hx, hc, xrow, crow, hl, show ¬ (t.core.subs.length : Int) < 32 from by omega]
    refine unless_ff 34 (hF _ _ ?_)
    simp [hl, stop]
    exact TurnQ.err hkeep
  simp [hx, hc, xrow, crow, hl, show (t.core.subs.length : Int) < 32 from by omega]
  refine unless_tt 34 fun v => ?_
  simp
  refine hK6 _ (D1 3 [0,1,2,3,4,5,6,7,8,9,10,11,13,14] [12,15] (fun t => match t with | 12 => [0,1,2,3,13,14] | _ => []) rfl (by decide) (by decide) ?_)
  simp [hx, hc, xrow, crow, len_Sub, take_Sub, noLL_Sub]
  refine (insert_Sub t.core.subs hns s 59 bySub (fun x _ => bySub_fun x s) H N.s hsb).mono ?_
  rintro r H1 hrow
  have hbl := bsearch_le (fun x => bySub x s) t.core.subs
  have hil := insAt_len hbl s
  obtain ⟨k1, rfl, hx1, hc1, hT⟩ := row_s hO hcl _ hil.symm hrow
  simp [hc1, hx1, xrow, crow]
  refine ⟨⟨True, _, ⟨trivial, rfl⟩, trivial, rfl⟩, ?_⟩
  refine hF _ _ ?_
  simp [Tryz.f125, TurnQ, hl]
  refine ⟨{ N with s := k1 }, rfl, rfl, ?_⟩
  simpa [crow] using hT
end
section
attribute [local simp] plainOp Heap.put D_36 D_42 D_33 D_50 D_77 D_37 D_24 D_25 D_26 D_27 D_28 D_87 D_30 D_54 D_46 D_89 D_105 D_103 D_102 D_35 D_101 D_80 D_118 D_124 D_121 D_31 D_108 D_110 D_112 D_114
attribute [local simp ↓] evTsR evQsh evQh
attribute [-simp] List.length_flatMap
theorem TAt.addOut' {N : TN} {t : Turn} {F H H' : Heap} (h : TAt N t F H) (y : Out) (k' : Nat) (hk : k' = N.o ∨ H k' = none) (h1 : H' N.x = some [.p (.h N.c) 0, .os (.h k') 11 0 (t.out.length + 1)]) (h2 : H' k' = some (t.out.flatMap Out.enc ++ y.enc)) (h3 : ∀ m, m ≠ N.x → m ≠ N.o → m ≠ k' → H' m = H m) : TAt { N with o := k' } { t with out := t.out ++ [y] } F H' := by
  obtain ⟨cls, P, hO, hcl⟩ := h
  have hx : H N.x = some (xrow N t.out.length) := hO.get _ _ (by simp [objs])
  have hxo : N.x ≠ N.o := by
    have := hO.1
    simp only [objs, List.map_cons, List.nodup_cons, List.mem_cons, not_or] at this
    exact this.1.2.2.2.2.2.2.1
  have hkx : k' ≠ N.x := by
    rcases hk with rfl | hk
    · exact Ne.symm hxo
    · rintro rfl; rw [hx] at hk; cases hk
  refine ⟨cls, P, ?_, hcl⟩
  have s1 := Owns.replace (pre := [(N.x, xrow N t.out.length), (N.c, crow N t.core cls.length), (N.q, t.core.queues.flatMap Queue.enc), (N.b, t.core.binds.flatMap Bind.enc), (N.s, t.core.subs.flatMap Sub.enc), (N.k, t.core.kept.flatMap Msg.enc), (N.l, cls.flatMap Cl.enc)]) (n := N.o) (cs := t.out.flatMap Out.enc) (post := P) hO (H' := fun m => if m = N.x then H m else H' m) (n' := k') (cs' := t.out.flatMap Out.enc ++ y.enc) hk (by simp [hkx, h2]) (fun m a b => by
    by_cases e : m = N.x
    · simp [e]
    · simp [e, h3 m e a b])
  have s2 := Owns.replace (pre := []) s1 (H' := H') (n' := N.x) (cs' := [.p (.h N.c) 0, .os (.h k') 11 0 (t.out.length + 1)]) (.inl rfl) h1 (fun m a b => by simp [a])
  simpa [objs, xrow, crow, List.flatMap_append] using s2
def keptOut (o : Tv.Oper) (m : Msg) : Out := ⟨o.conn, o.sub, 0, o.queue, false, true, m⟩
def keptOuts (o : Tv.Oper) (ms : List Msg) : List Out := (ms.filter fun m => matchOk o.text m.topic).map (keptOut o)
def bindAdd (o : Tv.Oper) (t : Turn) : Except Int Turn :=
  if t.core.binds.any (bindSame ⟨o.queue, o.text⟩) then .ok t else
  if ¬ t.core.binds.length < 64 then .error 34 else
  .ok { t with core := { t.core with binds := insAt (bsearch (fun x => byBind x ⟨o.queue, o.text⟩) t.core.binds) ⟨o.queue, o.text⟩ t.core.binds } }
def bindT (o : Tv.Oper) (t : Turn) : Except Int Turn :=
  if atQ t.core.queues o.queue < 0 then .error 33 else
  if !patternOk o.text then .error 30 else
  match bindAdd o t with
  | .error e => .error e
  | .ok t1 =>
    if !o.keep then .ok t1 else
    if !conn o.conn o.sub then .error 1 else
    .ok { t1 with out := t1.out ++ keptOuts o t1.core.kept }
theorem bindAdd_same {o : Tv.Oper} {t t1 : Turn} (h : bindAdd o t = .ok t1) : t1.core.kept = t.core.kept ∧ t1.out = t.out := by
  unfold bindAdd at h
  split at h
  · cases h; exact ⟨rfl, rfl⟩
  · split at h
    · cases h
    · cases h; exact ⟨rfl, rfl⟩
theorem bindT_fun (N : TN) (t : Turn) (o : Tv.Oper) (F H : Heap) (hf : CFit t.core) (hof : OFit o) (hlo : t.out.length ≤ 2000000) (h : TAt N t F H) : PCalls Tryz.prog 120 [.p (.h N.x) 0, .agg o.enc] H (TurnQ N F (bindT o t)) := by
  have hkeep := h.keeps
  have h0 := h
  obtain ⟨cls, P, hO, hcl⟩ := h0
  have hx : H N.x = some (xrow N t.out.length) := hO.get _ _ (by simp [objs])
  have hc : H N.c = some (crow N t.core cls.length) := hO.get _ _ (by simp [objs])
  have hb : H N.b = some (t.core.binds.flatMap Bind.enc) := hO.get _ _ (by simp [objs])
  have hnb := hf.nb
  refine PCalls.of_J' D_ok Tryz.func120 rfl (by decide) (le' rfl) fun E QF hF => ?_
  change J _ E 103 _ _ _
  refine J_seq' fun K1 hK1 => J1 3 ?_
  simp [Oper.enc, Msg.enc]
  refine hK1 _ (J_seq' fun K2 hK2 => J1 3 ?_)
  simp
  refine (queue_fun N t F H hf.nq o.queue h).mono ?_
  rintro r H' ⟨hHe, rfl⟩
  obtain rfl : H = H' := hHe.symm
  rcases Int.lt_or_le (atQ t.core.queues o.queue) 0 with hneg | hat
  · have hat : ¬ 0 ≤ atQ t.core.queues o.queue := by omega
    rw [if_neg hat]
    refine hF _ _ ?_
    simp [bindT, hneg, stop]
    exact TurnQ.err hkeep
  rw [if_pos hat]
  simp
  refine hK2 _ (J_seq' fun K3 hK3 => J1 3 ?_)
  simp
  refine (pattern_fun _ hof.t).call ?_
  rcases Bool.eq_false_or_eq_true (patternOk o.text) with hp | hp
  rotate_left
  · rw [hp]
    simp
    refine unless_ff 30 (hF _ _ ?_)
    simp only [bindT, hp]
    rw [if_neg (by omega)]
    simp [stop]
    exact TurnQ.err hkeep
  rw [hp]
  simp
  refine unless_tt 30 fun v => ?_
  simp
  have hres : bindT o t = match bindAdd o t with
    | .error e => .error e
    | .ok t1 =>
      if !o.keep then .ok t1 else
      if !conn o.conn o.sub then .error 1 else
      .ok { t1 with out := t1.out ++ keptOuts o t1.core.kept } := by
    simp only [bindT, hp]
    rw [if_neg (by omega), if_neg (by simp)]
  obtain ⟨b, hbe⟩ : ∃ b : Tv.Bind, b = ⟨o.queue, o.text⟩ := ⟨_, rfl⟩
  have hbb : b.enc = [astr o.queue, astr o.text] := by rw [hbe]; rfl
  refine hK3 _ (J_seq' fun K4 hK4 => J1 3 ?_)
  simp
  refine hK4 _ (J_has (T := [(0, .p (.h N.x) 0), (3, .vp o.enc), (4, .p (.l 4) 0)]) (L := [(4, b.enc)]) (H := H) ⟨by simp [Oper.enc, Msg.enc], by simp [hbb], by simp⟩ ?_)
  refine J_seq' fun K5 hK5 => J_seq' fun K6 hK6 => J_drawH D_ok (cfg := ⟨103, fun k => k == 3⟩) [0,1,2,3,4,5,6,7,8,9] [] (fun _ => []) rfl (by decide) (by decide) ?_
  simp [hx, hc, xrow, crow, len_Bind, take_Bind, noLL_Bind]
  refine ⟨_, containsB_fun t.core.binds hnb b H N.b hb, ?_⟩
  have hadd : bindAdd o t = if t.core.binds.any (bindSame b) then .ok t else if ¬ t.core.binds.length < 64 then .error 34 else .ok { t with core := { t.core with binds := insAt (bsearch (fun x => byBind x b) t.core.binds) b t.core.binds } } := by
    rw [hbe]; rfl
  simp
  have rest : ∀ (S : Slots) (L : List (Nat × List AV)) (H1 : Heap) (N1 : TN) (t1 : Turn), bindAdd o t = .ok t1 → N1.x = N.x → N1.c = N.c → TAt N1 t1 F H1 → subS [(0, .p (.h N.x) 0), (3, .vp o.enc)] S → K5 ⟨S, L, H1⟩ := by
    intro S L H1 N1 t1 hok n1 n2 hT1 hS
    obtain ⟨sk, so⟩ := bindAdd_same hok
    rw [hok] at hres
    rw [hres] at hF
    simp only at hF
    refine hK5 _ (J_has (T := [(0, .p (.h N.x) 0), (3, .vp o.enc)]) (L := L) (H := H1) ⟨hS, rfl, rfl⟩ ?_)
    have hT2 := hT1
    obtain ⟨cls1, P1, hO1, hcl1⟩ := hT2
    have hx1 : H1 N.x = some (xrow N1 t.out.length) := by rw [← n1, ← so]; exact hO1.get _ _ (by simp [objs])
    have hc1 : H1 N.c = some (crow N1 t1.core cls1.length) := by rw [← n2]; exact hO1.get _ _ (by simp [objs])
    have hkp1 : H1 N1.k = some (t.core.kept.flatMap Msg.enc) := by rw [← sk]; exact hO1.get _ _ (by simp [objs])
    refine J_seq' fun K8 hK8 => J_seq' fun K9 hK9 => J1 3 ?_
    simp [Oper.enc, Msg.enc]
    refine hK9 _ (J_cond rfl (fun hd => ?_) fun hd => J_skip ?_)
    · have hkp : o.keep = false := by simpa using hd
      refine J_ret (hF _ _ ?_)
      simp [hkp, Tryz.f120, TurnQ]
      exact ⟨N1, n1, n2, hT1⟩
    have hkp : o.keep = true := by simpa using hd
    simp only [thenQ]
    refine hK8 _ (J_seq' fun K10 hK10 => J1 3 ?_)
    simp
    refine (conn_fun _ _).call ?_
    rcases Bool.eq_false_or_eq_true (conn o.conn o.sub) with hcn | hcn
    rotate_left
    · rw [hcn]
      simp
      refine unless_ff 1 (hF _ _ ?_)
      simp [hkp, hcn, stop]
      exact TurnQ.err hT1.keeps
    rw [hcn]
    simp
    refine unless_tt 1 fun v => ?_
    simp
    refine hK10 _ (J_seq' fun K11 hK11 => J1 3 ?_)
    simp [hx1, hc1, xrow, crow, n2]
    have hnk := hf.nk
    have hkf := hf.k
    rw [sk] at hF
    refine hK11 _ (J_block ?_)
    have hfin : ∀ (k' : Nat) (S : Slots) (L : List (Nat × List AV)) (H2 : Heap), TAt { N1 with o := k' } { t1 with out := t1.out ++ keptOuts o t.core.kept } F H2 → QF .normal ⟨S, L, H2⟩ := by
      intro k' S L H2 hT'
      refine hF _ _ ?_
      simp [Tryz.f120, TurnQ, hkp, hcn]
      exact ⟨{ N1 with o := k' }, n1, n2, hT'⟩
    rw [sk]
    generalize hms : t.core.kept = ms at hkp1 hnk hkf hfin
    refine J_loop' (fun m s' => ∃ (i k' : Nat), i ≤ ms.length ∧ m = ms.length - i ∧ TAt { N1 with o := k' } { t1 with out := t1.out ++ keptOuts o (ms.take i) } F s'.H ∧ Has [(0, .p (.h N.x) 0), (3, .vp o.enc), (70, .os (.h N1.k) 5 0 ms.length), (71, aint ms.length), (72, aint i)] s'.L s'.H s') (n := ms.length) ⟨0, N1.o, by omega, by omega, by simpa [keptOuts] using hT1, by simp [Oper.enc, Msg.enc]⟩ ?_
    clear hK1 hK2 hK3 hK4 hK5 hK6 hK8 hK9 hK10 hK11 hF
    rintro m s' ⟨i, k1, hi, hm, hT', hs'⟩ K hK
    refine J_has hs' ?_
    generalize s'.H = H3 at hT'
    generalize s'.L = L3
    refine J_seq' fun K12 hK12 => J1 3 ?_
    simp
    refine hK12 _ (J_seq' fun K13 hK13 => J_cond rfl (fun hc => J_skip ?_) fun hc => J_exit ?_)
    · simp at hc
      obtain ⟨x, hxi⟩ : ∃ x, ms[i]? = some x := ⟨_, List.getElem?_eq_getElem (by omega)⟩
      have hat := at_Msg ms hxi
      have hxf := hkf x (List.mem_of_getElem? hxi)
      have hT4 := hT'
      obtain ⟨cls3, P3, hO3, hcl3⟩ := hT4
      have hkp3 : H3 N1.k = some (ms.flatMap Msg.enc) := by
        have := hO3.get N1.k (t1.core.kept.flatMap Msg.enc) (by simp [objs])
        rw [this, sk, hms]
      simp only [thenQ, blockQ]
      refine hK13 _ (J_seq' fun K14 hK14 => J_block (J_seq' fun K15 hK15 => J1 3 ?_))
      simp [hkp3, hat, len_Msg, noLL_Msg, kill_Msg]
      repeat refine And.intro (by omega) ?_
      refine hK15 _ (J_has (T := [(0, .p (.h N.x) 0), (3, .vp o.enc), (6, .p (.l 6) 0), (70, .os (.h N1.k) 5 0 ms.length), (71, aint ms.length), (72, aint i)]) (L := (6, x.enc) :: renL L3 6) (H := H3) ⟨by simp, rfl, rfl⟩ ?_)
      generalize renL L3 6 = L4
      have step : ∀ (S : Slots) (L : List (Nat × List AV)) (H4 : Heap) (k' : Nat), subS [(0, .p (.h N.x) 0), (3, .vp o.enc), (70, .os (.h N1.k) 5 0 ms.length), (71, aint ms.length), (72, aint i)] S → TAt { N1 with o := k' } { t1 with out := t1.out ++ keptOuts o (ms.take (i + 1)) } F H4 → K14 ⟨S, L, H4⟩ := by
        intro S L H4 k' hS hTn
        refine hK14 _ (J_has (T := [(0, .p (.h N.x) 0), (3, .vp o.enc), (70, .os (.h N1.k) 5 0 ms.length), (71, aint ms.length), (72, aint i)]) (L := L) (H := H4) ⟨hS, rfl, rfl⟩ (J1 3 ?_))
        simp
        refine hK (ms.length - (i + 1)) _ (by omega) ⟨i + 1, k', by omega, rfl, hTn, ?_⟩
        simp
        rw [w64 (by omega) (by omega)]
      refine J_seq' fun K16 hK16 => J1 3 ?_
      simp [Msg.enc, Oper.enc]
      refine (match_fun _ _ hof.t hxf.topic).call ?_
      simp
      refine hK16 _ (J_cond rfl (fun hd => ?_) fun hd => J_skip ?_)
      · have hmt : matchOk o.text x.topic = true := by simpa using hd
        have hk1 : keptOuts o (ms.take (i + 1)) = keptOuts o (ms.take i) ++ [keptOut o x] := by
          rw [List.take_add_one, hxi]; simp [keptOuts, hmt]
        refine J_seq' fun K17 hK17 => J1 3 ?_
        simp
        refine (clone_Pro x.props hxf.props).call ?_
        simp
        refine hK17 _ (J_has (T := [(0, .p (.h N.x) 0), (3, .vp o.enc), (6, .p (.l 6) 0), (70, .os (.h N1.k) 5 0 ms.length), (71, aint ms.length), (72, aint i)]) (L := (6, x.enc) :: L4) (H := H3) ⟨by simp [Oper.enc, Msg.enc], by simp [Msg.enc], rfl⟩ ?_)
        have hxk : N.x ≠ k1 := by rw [← n1]; exact (objs_ne hO3).2.2.2.2.2.2.1
        have hx3 : H3 N.x = some (xrow { N1 with o := k1 } (t1.out ++ keptOuts o (ms.take i)).length) := by rw [← n1]; exact hO3.get _ _ (by simp [objs])
        have ho3 : H3 k1 = some ((t1.out ++ keptOuts o (ms.take i)).flatMap Out.enc) := hO3.get _ _ (by simp [objs])
        have hnout : (t1.out ++ keptOuts o (ms.take i)).length ≤ 4000000 := by
          have h1 : (keptOuts o (ms.take i)).length ≤ i := by
            simp only [keptOuts, List.length_map]
            exact Nat.le_trans (List.length_filter_le _ _) (by rw [List.length_take]; omega)
          rw [List.length_append, so]; omega
        generalize hos : t1.out ++ keptOuts o (ms.take i) = os at hT' hx3 ho3 hnout
        refine J_drawR' D_ok (cfg := ⟨103, fun k => k == 3 || k == 98⟩) [0,1,2,3,4,5,6,7,8,9,10,11,12,13,15,16] [14,17] (fun t => match t with | 14 => [0,15,16] | _ => []) rfl (by decide) (by decide) ?_
        simp [hx3, ho3, xrow, Msg.enc, Oper.enc, hxk]
        have go : ∀ (k' : Nat) (S : Slots) (L : List (Nat × List AV)) (H5 : Heap), subS [(0, .p (.h N.x) 0), (3, .vp o.enc), (70, .os (.h N1.k) 5 0 ms.length), (71, aint ms.length), (72, aint i)] S → (k' = k1 ∨ H3 k' = none) → H5 N.x = some [.p (.h N1.c) 0, .os (.h k') 11 0 (os.length + 1)] → H5 k' = some (os.flatMap Out.enc ++ Out.enc (keptOut o x)) → (∀ m, m ≠ N.x → m ≠ k1 → m ≠ k' → H5 m = H3 m) → K14 ⟨S, L, H5⟩ := by
          intro k' S L H5 hS hk g1 g2 g3
          have hfin := hT'.addOut' (keptOut o x) k' hk (by rw [← n1] at g1; exact g1) g2 (by rw [← n1] at g3; exact g3)
          refine step S L H5 k' hS ?_
          rw [hk1, ← List.append_assoc, hos]
          exact hfin
        refine ⟨by omega, by omega, go k1 _ _ _ (by simp [Oper.enc, Msg.enc]) (.inl rfl) (by simp) (by simp [Ne.symm hxk, Out.enc, Msg.enc, keptOut]) (fun m a b c => by simp [a, b]), fun k' hk' => ?_⟩
        have hxk2 : N.x ≠ k' := by rintro rfl; rw [hx3] at hk'; cases hk'
        simp [hxk2]
        exact go k' _ _ _ (by simp [Oper.enc, Msg.enc]) (.inr hk') (by simp) (by simp [Ne.symm hxk2, Out.enc, Msg.enc, keptOut]) (fun m a b c => by simp [a, b, c])
      · have hmt : matchOk o.text x.topic = false := by simpa using hd
        have hk1 : keptOuts o (ms.take (i + 1)) = keptOuts o (ms.take i) := by
          rw [List.take_add_one, hxi]; simp [keptOuts, hmt]
        exact step _ _ _ k1 (by simp [Oper.enc, Msg.enc]) (by rw [hk1]; exact hT')
    · simp at hc
      have hie : i = ms.length := by omega
      subst hie
      simp only [thenQ, blockQ, if_true]
      rw [List.take_of_length_le (Nat.le_refl _)] at hT'
      exact hfin _ _ _ _ hT'
  refine hK6 _ ?_
  refine J_cond rfl (fun hd => ?_) fun hd => J_skip ?_
  · have hany : t.core.binds.any (bindSame b) = false := by simpa using hd
    rw [if_neg (by rw [hany]; simp)] at hadd
    refine J_seq' fun K7 hK7 => J1 3 ?_
    by_cases hl : t.core.binds.length < 64
    rotate_left
    · simp [hx, hc, xrow, crow, hl, show ¬ (t.core.binds.length : Int) < 64 from by omega]
      refine unless_ff 34 (hF _ _ ?_)
      rw [hres, hadd]
      simp [hl, stop]
      exact TurnQ.err hkeep
    rw [if_neg (by omega)] at hadd
    simp [hx, hc, xrow, crow, hl, show (t.core.binds.length : Int) < 64 from by omega]
    refine unless_tt 34 fun v => ?_
    simp
    refine hK7 _ (D1 3 [0,1,2,3,4,5,6,7,8,9,10,11,13,14] [12,15] (fun t => match t with | 12 => [0,1,2,3,13,14] | _ => []) rfl (by decide) (by decide) ?_)
    simp [hx, hc, xrow, crow, len_Bind, take_Bind, noLL_Bind]
    refine (insert_Bind t.core.binds hnb b 57 byBind (fun x _ => byBind_fun x b) H N.b hb).mono ?_
    rintro r H1 hrow
    have hbl := bsearch_le (fun x => byBind x b) t.core.binds
    have hil := insAt_len hbl b
    obtain ⟨k1, rfl, hx1, hc1, hT⟩ := row_b hO hcl _ hil.symm hrow
    simp [hc1, hx1, xrow, crow]
    refine ⟨⟨True, _, ⟨trivial, rfl⟩, trivial, rfl⟩, ?_⟩
    refine rest _ _ _ { N with b := k1 } _ hadd rfl rfl (by simpa [crow] using hT) (by simp)
  · have hany : t.core.binds.any (bindSame b) = true := by simpa using hd
    rw [if_pos hany] at hadd
    simp only [thenQ]
    exact rest _ _ _ N t hadd rfl rfl h (by simp)
end
section
attribute [local simp] plainOp Heap.put D_36 D_42 D_33 D_50 D_77 D_37 D_24 D_25 D_26 D_27 D_28 D_87 D_30 D_54 D_46 D_89 D_105 D_103 D_102 D_35 D_101 D_80 D_118 D_124 D_121 D_31 D_108 D_110 D_112 D_114
attribute [local simp ↓] evTsR evQsh evQh
attribute [-simp] List.length_flatMap
theorem take_fit {q : Queue} {c s : Int} {hold : Bool} (h : QFit q) : QFit (take q c s hold).1 := by
  unfold take
  split
  · exact noQueue_fit
  · rename_i hb
    have hg : qGood q = true := by
      simp only [takeBad, Bool.not_eq_true, Bool.or_eq_false_iff] at hb
      simpa using hb.1.1.1.1.1
    have hl := good_len hg
    split
    · exact noQueue_fit
    · rename_i x xs hi
      have hit := h.items
      have him := h.im
      rw [hi] at hl hit him
      simp only [List.length_cons] at hl hit
      split
      · refine ⟨h.name, ?_, ?_, fun y hy => him y (List.mem_cons_of_mem _ hy), fun y hy => ?_⟩
        · show xs.length ≤ _; omega
        · simp only [List.length_append, List.length_cons, List.length_nil]; omega
        · rcases List.mem_append.mp hy with hy | hy
          · exact h.hm y hy
          · simp at hy; subst hy; exact him x (List.mem_cons_self ..)
      · exact ⟨h.name, by show xs.length ≤ _; omega, h.held, fun y hy => him y (List.mem_cons_of_mem _ hy), h.hm⟩
theorem take_less {q : Queue} {c s : Int} {hold : Bool} (h : (take q c s hold).2.2.2 = 0) : q.items.length = (take q c s hold).1.items.length + 1 := by
  unfold take at h ⊢
  split at h
  · cases h
  · rename_i hb
    rw [if_neg hb]
    split at h
    · cases h
    · rename_i x xs hi
      split <;> simp [hi]
def serves (q : Queue) (s : Tv.Sub) : Bool := sEq s.queue q.name && (s.auto || decide ((holds q s.conn s.sub : Int) < s.window))
theorem serves_fun (s : Tv.Sub) (q : Queue) (hq : q.held.length ≤ 2000000) : PFun Tryz.prog 136 [.agg s.enc, .vp q.enc] (abool (serves q s)) := by
  refine PFun.of_J D_ok Tryz.func136 rfl (by decide) (le' rfl) fun H E QF hF => ?_
  change J _ E 24 _ _ _
  refine J_seq' fun K1 hK1 => J1 2 ?_
  simp [Sub.enc]
  refine hK1 _ (J_seq' fun K2 hK2 => D1 2 [0,1,2,3,4,5,6,7,8,9,10,11,12,13,14,15,16,17,18,19] [20] (fun _ => []) rfl (by decide) (by decide) ?_)
  have done : ∀ (b : Bool) S L, serves q s = b → lookS S 3 = abool b → K2 ⟨S, L, H⟩ := by
    intro b S L hb hl
    refine hK2 _ (J_ret (hF _ _ ?_))
    simp [Tryz.f136]
    rw [hl, hb]
    exact ⟨rfl, rfl⟩
  rcases Bool.eq_false_or_eq_true (sEq s.queue q.name) with e1 | e1
  · rcases Bool.eq_false_or_eq_true s.auto with e2 | e2
    · simp [Queue.enc, e1, e2]
      exact done true _ _ (by simp [serves, e1, e2]) (by simp)
    · have hh := holds_fun q s.conn s.sub hq
      simp only [Queue.enc] at hh
      simp [Queue.enc, e1, e2]
      refine ⟨_, hh, ?_⟩
      simp
      exact done (decide ((holds q s.conn s.sub : Int) < s.window)) _ _ (by simp [serves, e1, e2]) (by simp)
  · simp [Queue.enc, e1]
    exact done false _ _ (by simp [serves, e1]) (by simp)
def feed : Nat → Turn → Nat → Except Int Turn
  | 0, t, _ => .ok t
  | n + 1, t, i => match t.core.queues[i]? with
    | none => .ok t
    | some q => if idx (serves q) t.core.subs < 0 then .ok t else
      match t.core.subs[(idx (serves q) t.core.subs).toNat]? with
      | none => .ok t
      | some s => match takeT t i s.conn s.sub (!s.auto) with
        | .error e => .error e
        | .ok t' => feed n t' i
def feedAll (t : Turn) (i : Nat) : Except Int Turn := match t.core.queues[i]? with
  | none => .ok t
  | some q => feed q.items.length t i
def pumpStep (t : Turn) (i : Nat) : Except Int Turn := match expireT t i with
  | .error e => .error e
  | .ok t1 => feedAll t1 i
def pumpT (t : Turn) : Except Int Turn := stepsQ pumpStep t.core.queues.length 0 t
end
section
attribute [local simp] plainOp Heap.put D_36 D_42 D_33 D_50 D_77 D_37 D_24 D_25 D_26 D_27 D_28 D_87 D_30 D_54 D_46 D_89 D_105 D_103 D_102 D_35 D_101 D_80 D_118 D_124 D_121 D_31 D_108 D_110 D_112 D_114
attribute [local simp ↓] evTsR evQsh evQh
attribute [-simp] List.length_flatMap
theorem takeT_ok {t t' : Turn} {i : Nat} {c s : Int} {hold : Bool} {q : Queue} (hq : t.core.queues[i]? = some q) (h : takeT t i c s hold = .ok t') : ∃ q', t'.core.queues[i]? = some q' ∧ q.items.length = q'.items.length + 1 ∧ t'.out.length = t.out.length + 1 ∧ t'.core.queues.length = t.core.queues.length ∧ (CFit t.core → CFit t'.core) := by
  simp only [takeT, hq] at h
  split at h
  · cases h
  · rename_i he
    cases h
    have hil : i < t.core.queues.length := by
      rcases Nat.lt_or_ge i t.core.queues.length with h' | h'
      · exact h'
      · rw [List.getElem?_eq_none h'] at hq; cases hq
    refine ⟨(take q c s hold).1, by simp [setQ, hil], take_less (by simpa using he), by simp, by simp [setQ], fun hf => ?_⟩
    exact hf.setQ i _ (take_fit (hf.q q (List.mem_of_getElem? hq)))
theorem stepsQ_succ {f : Turn → Nat → Except Int Turn} {n i : Nat} {t : Turn} : stepsQ f (n + 1) i t = match f t i with | .error e => .error e | .ok t' => stepsQ f n (i + 1) t' := rfl
theorem expire_cap {t t' : Turn} {i : Nat} {q q' : Queue} {now : Int} (hq : t.core.queues[i]? = some q) (h : put t i (expire q now) = .ok t') (hq' : t'.core.queues[i]? = some q') : q'.items.length ≤ 64 ∧ t'.out = t.out := by
  unfold put at h
  split at h
  · cases h
  · rename_i he
    cases h
    have hil : i < t.core.queues.length := by
      rcases Nat.lt_or_ge i t.core.queues.length with h' | h'
      · exact h'
      · rw [List.getElem?_eq_none h'] at hq; cases hq
    refine ⟨?_, rfl⟩
    simp only [setQ, List.getElem?_set_self hil, Option.some.injEq] at hq'
    subst hq'
    unfold expire at he ⊢
    split at he
    · simp at he
    · rename_i hg
      rw [if_neg hg]
      have hg' : qGood q = true := by simpa using hg
      have := good_len hg'
      have h2 : (q.items.filter fun x => !expd now x).length ≤ q.items.length := List.length_filter_le _ _
      show (q.items.filter fun x => !expd now x).length ≤ 64
      omega
theorem pumpT_fun (N : TN) (t : Turn) (F H : Heap) (hf : CFit t.core) (hl : t.core.queues.length ≤ 16) (ho : t.out.length ≤ 1000) (h : TAt N t F H) : PCalls Tryz.prog 52 [.p (.h N.x) 0] H (TurnQ N F (pumpT t)) := by
  have h0 := h
  obtain ⟨cls, P, hO, hcl⟩ := h0
  have hx : H N.x = some (xrow N t.out.length) := hO.get _ _ (by simp [objs])
  have hc : H N.c = some (crow N t.core cls.length) := hO.get _ _ (by simp [objs])
  refine PCalls.of_J' D_ok Tryz.func52 rfl (by decide) (le' rfl) fun E QF hF => ?_
  change J _ E 101 _ _ _
  refine J_seq' fun K1 hK1 => J0 ?_
  simp [hx, hc, xrow, crow]
  refine hK1 _ (J_block ?_)
  have hres : pumpT t = stepsQ pumpStep t.core.queues.length 0 t := rfl
  obtain ⟨n, hn⟩ : ∃ n, t.core.queues.length = n := ⟨_, rfl⟩
  rw [hres, hn] at hF
  rw [hn] at hl
  refine J_loop' (fun m s' => ∃ (i : Nat) (N' : TN) (t' : Turn), i ≤ n ∧ m = n - i ∧ t'.core.queues.length = n ∧ t'.out.length ≤ 1000 + 64 * i ∧ CFit t'.core ∧ N'.x = N.x ∧ N'.c = N.c ∧ TAt N' t' F s'.H ∧ stepsQ pumpStep (n - i) i t' = stepsQ pumpStep n 0 t ∧ Has [(0, .p (.h N.x) 0), (15, aint n), (16, aint i)] s'.L s'.H s') (n := n) ⟨0, N, t, by omega, by omega, hn, by omega, hf, rfl, rfl, h, rfl, by simp [hn]⟩ ?_
  clear hK1
  rintro m s' ⟨i, N', t', hi, hm, hl', ho', hf', n1, n2, hT', hst, hs'⟩ K hK
  refine J_has hs' ?_
  generalize s'.H = H3 at hT'
  generalize s'.L = L
  refine J_seq' fun K5 hK5 => J0 ?_
  simp
  refine hK5 _ (J_seq' fun K6 hK6 => J_cond rfl (fun hc => J_skip ?_) fun hc => J_exit ?_)
  rotate_left
  · simp at hc
    have hie : i = n := by omega
    subst hie
    simp only [thenQ, blockQ, if_true]
    refine hF _ _ ?_
    rw [← hst]
    simp [Tryz.f52, stepsQ]
    exact ⟨⟨_, rfl⟩, N', n1, n2, hT'⟩
  simp at hc
  simp only [thenQ, blockQ]
  have hT4 := hT'
  obtain ⟨cls3, P3, hO3, hcl3⟩ := hT4
  have hx3 : H3 N.x = some (xrow N' t'.out.length) := by rw [← n1]; exact hO3.get _ _ (by simp [objs])
  have hc3 : H3 N.c = some (crow N' t'.core cls3.length) := by rw [← n2]; exact hO3.get _ _ (by simp [objs])
  have hq3 : H3 N'.q = some (t'.core.queues.flatMap Queue.enc) := hO3.get _ _ (by simp [objs])
  obtain ⟨q, hqi⟩ : ∃ q, t'.core.queues[i]? = some q := ⟨_, List.getElem?_eq_getElem (by omega)⟩
  have hmem : q ∈ t'.core.queues := List.mem_of_getElem? hqi
  have hqa := at_Queue t'.core.queues hqi
  have hexp : expireT t' i = put t' i (expire q t'.core.now) := by simp only [expireT, withQ, hqi]
  refine hK6 _ (J_seq' fun K7 hK7 => J_block (J_seq' fun K8 hK8 => J0 ?_))
  simp
  refine hK8 _ (J_seq' fun K9 hK9 => D0 [0,1,2,3,4,5,6,7,8,9,10,11,12,13,14,15,16,17,18,19,20,21] [22,23] (fun t => match t with | 22 => [20] | _ => []) rfl (by decide) (by decide) ?_)
  simp [hx3, hc3, xrow, crow, n2, hq3, hqa, noLL_Queue]
  repeat refine And.intro (by omega) ?_
  refine ⟨_, expire_fun q t'.core.now (hf'.q q hmem), ?_⟩
  simp [len_Queue, kill_Queue]
  refine ⟨by rw [lookL_renL]; simp, ?_⟩
  refine hK9 _ (J_seq' fun K10 hK10 => D0 [0,1,2,3,4] [5] (fun _ => []) rfl (by decide) (by decide) ?_)
  simp
  rw [← n1]
  refine ⟨_, putf_fun N' i, ?_⟩
  simp [len_Queue, take_Queue, noLL_Queue]
  refine (put_fun N' t' F H3 (expire q t'.core.now).1 (expire q t'.core.now).2 i (by omega) hT').mono ?_
  rintro r H4 hQ
  rcases hQ.split with ⟨e, he, rfl, hk⟩ | ⟨t2, v, he, rfl, N2, m1, m2, hT2⟩
  · simp [stop]
    refine hF _ _ ?_
    have : stepsQ pumpStep n 0 t = .error e := by
      rw [← hst, show n - i = (n - (i + 1)) + 1 from by omega, stepsQ_succ]
      simp only [pumpStep, hexp]
      rw [show expire q t'.core.now = ((expire q t'.core.now).1, (expire q t'.core.now).2) from rfl, he]
    simp [this]
    exact ⟨rfl, hk⟩
  simp
  have hef := expire_fit (now := t'.core.now) (hf'.q q hmem)
  have hf2 := put_fit he hf' hef
  have hl2 := (put_len he).trans hl'
  obtain ⟨q2, hqi2⟩ : ∃ q, t2.core.queues[i]? = some q := ⟨_, List.getElem?_eq_getElem (by omega)⟩
  have hcap : q2.items.length ≤ 64 ∧ t2.out = t'.out := expire_cap hqi he hqi2
  have hsp : pumpStep t' i = feed q2.items.length t2 i := by
    simp only [pumpStep, hexp]
    rw [show expire q t'.core.now = ((expire q t'.core.now).1, (expire q t'.core.now).2) from rfl, he]
    simp only [feedAll, hqi2]
  refine hK10 _ (J_block ?_)
  refine J_loop' (fun m s' => ∃ (N' : TN) (t' : Turn) (q' : Queue), t'.core.queues.length = n ∧ t'.core.queues[i]? = some q' ∧ q'.items.length = m ∧ t'.out.length + m ≤ 1000 + 64 * (i + 1) ∧ CFit t'.core ∧ N'.x = N.x ∧ N'.c = N.c ∧ TAt N' t' F s'.H ∧ feed m t' i = feed q2.items.length t2 i ∧ Has [(0, .p (.h N.x) 0), (2, aint i), (15, aint n), (16, aint i)] s'.L s'.H s') (n := q2.items.length) ⟨N2, t2, q2, hl2, hqi2, rfl, by rw [hcap.2]; omega, hf2, m1.trans n1, m2.trans n2, hT2, rfl, by simp [n1]⟩ ?_
  have hnext : ∀ (S : Slots) (L : List (Nat × List AV)) (H5 : Heap) (N' : TN) (t3 : Turn) (m : Nat), feed m t3 i = .ok t3 → t3.core.queues.length = n → t3.out.length ≤ 1000 + 64 * (i + 1) → CFit t3.core → N'.x = N.x → N'.c = N.c → TAt N' t3 F H5 → feed m t3 i = feed q2.items.length t2 i → subS [(0, .p (.h N.x) 0), (2, aint i), (15, aint n), (16, aint i)] S → K7 ⟨S, L, H5⟩ := by
    intro S L H5 N' t3 m hfd hl3 ho3 hf3 n1 n2 hT3 hfe hS
    refine hK7 _ (J_has (T := [(0, .p (.h N.x) 0), (2, aint i), (15, aint n), (16, aint i)]) (L := L) (H := H5) ⟨hS, rfl, rfl⟩ (J0 ?_))
    simp
    refine hK (n - (i + 1)) _ (by omega) ⟨i + 1, N', t3, by omega, rfl, hl3, ho3, hf3, n1, n2, hT3, ?_, ?_⟩
    · rw [← hst, show n - i = (n - (i + 1)) + 1 from by omega, stepsQ_succ, hsp, ← hfe, hfd]
    · simp
      rw [w64 (by omega) (by omega)]
  clear hT' hO3 hx3 hc3 hq3 hK8 hK9 hK10 hK5 hK6 hT2
  rintro m s' ⟨N4, t4, q4, hl4, hqi4, hm4, ho4, hf4, k1, k2, hT4, hfe4, hs4⟩ Kc hKc
  refine J_has hs4 ?_
  generalize s'.H = H5 at hT4
  generalize s'.L = L5
  have hT5 := hT4
  obtain ⟨cls5, P5, hO5, hcl5⟩ := hT5
  have hx5 : H5 N.x = some (xrow N4 t4.out.length) := by rw [← k1]; exact hO5.get _ _ (by simp [objs])
  have hc5 : H5 N.c = some (crow N4 t4.core cls5.length) := by rw [← k2]; exact hO5.get _ _ (by simp [objs])
  have hq5 : H5 N4.q = some (t4.core.queues.flatMap Queue.enc) := hO5.get _ _ (by simp [objs])
  have hs5 : H5 N4.s = some (t4.core.subs.flatMap Sub.enc) := hO5.get _ _ (by simp [objs])
  have hmem4 : q4 ∈ t4.core.queues := List.mem_of_getElem? hqi4
  have hqa4 := at_Queue t4.core.queues hqi4
  have hqa5 := cell_at hqa4 5 (asl Itm.enc q4.items) rfl
  have hil4 : i < t4.core.queues.length := by omega
  have hbnd : q4.items.length ≤ 2000000 := (hf4.q q4 hmem4).items
  have hS4 : ∀ S : Slots, subS [(0, .p (.h N.x) 0), (2, aint i), (15, aint n), (16, aint i)] S → True := fun _ _ => trivial
  refine J_seq' fun K11 hK11 => J_seq' fun K12 hK12 => J0 ?_
  simp [hx5, hc5, xrow, crow, k2, hq5, hqa5]
  repeat refine And.intro (by omega) ?_
  refine hK12 _ (J_cond rfl (fun hc => J_skip ?_) fun hc => J_exit ?_)
  rotate_left
  · have hm0 : m = 0 := by simp at hc; rw [← hm4, hc]; rfl
    subst hm0
    simp only [thenQ, blockQ, if_true]
    exact hnext _ _ H5 N4 t4 0 rfl hl4 (by omega) hf4 k1 k2 hT4 hfe4 (by simp)
  have hm0 : m ≠ 0 := by simp at hc; omega
  simp only [thenQ, blockQ]
  refine hK11 _ (J_block (J_seq' fun K13 hK13 => J0 ?_))
  simp [hx5, hc5, xrow, crow, k2, hq5, hqa4, len_Queue, noLL_Queue, kill_Queue]
  repeat refine And.intro (by omega) ?_
  refine hK13 _ (J_freeze 5 (cs := q4.enc) (by simp [lookL]) (noLL_Queue _) ?_)
  refine J_has (T := [(0, .p (.h N.x) 0), (2, aint i), (5, .vp q4.enc), (15, aint n), (16, aint i)]) (L := _) (H := H5) ⟨by simp [AS.frz, frzS, AV.frz], rfl, by simp [AS.frz]⟩ ?_
  generalize (AS.frz _ _ _).L = L6
  refine J_seq' fun K14 hK14 => J0 ?_
  simp [hx5, hc5, xrow, crow, k2, noLL_Queue]
  refine (indexH_Sub t4.core.subs hf4.ns 136 [.vp q4.enc] (by simp [noLL_Queue]) (serves q4) (fun s _ => serves_fun s q4 (hf4.q q4 hmem4).held) H5 N4.s hs5).mono ?_
  rintro e H' ⟨rfl, hHe⟩
  obtain rfl : H5 = H' := hHe.symm
  simp
  refine hK14 _ (J_seq' fun K15 hK15 => J_seq' fun K16 hK16 => J0 ?_)
  have hmm : m = (m - 1) + 1 := by omega
  rcases idx_spec (serves q4) t4.core.subs with ⟨i1, i2⟩ | ⟨j, s, i1, i2, i3, _⟩
  · simp [i1]
    refine hK16 _ (J_cond rfl (fun hc => J_exit ?_) fun hc => absurd hc (by simp))
    simp [thenQ, blockQ]
    have hfd : feed m t4 i = .ok t4 := by rw [hmm]; simp only [feed, hqi4, i1]; rfl
    exact hnext _ _ H5 N4 t4 m hfd hl4 (by omega) hf4 k1 k2 hT4 hfe4 (by simp)
  have hjl : j < t4.core.subs.length := by
    rcases Nat.lt_or_ge j t4.core.subs.length with h | h
    · exact h
    · rw [List.getElem?_eq_none h] at i2; cases i2
  have hsa := at_Sub t4.core.subs i2
  have hns := hf4.ns
  have hfd : feed m t4 i = match takeT t4 i s.conn s.sub (!s.auto) with | .error e => .error e | .ok t' => feed (m - 1) t' i := by
    rw [hmm]
    simp only [feed, hqi4, i1, Int.toNat_natCast, i2]
    rw [if_neg (by omega)]
    rfl
  simp [i1]
  refine hK16 _ (J_cond rfl (fun hc => absurd hc (by simp)) fun hc => J_skip ?_)
  simp only [thenQ, blockQ]
  refine hK15 _ (J_seq' fun K17 hK17 => J0 ?_)
  simp [hx5, hc5, xrow, crow, k2, hs5, hsa, len_Sub, noLL_Sub, kill_Sub]
  repeat refine And.intro (by omega) ?_
  refine hK17 _ (J0 ?_)
  simp [Sub.enc]
  rw [← k1]
  refine (takeT_fun N4 t4 i s.conn s.sub (!s.auto) F H5 hf4 hil4 (by omega) hT4).mono ?_
  rintro r H6 hQ
  rcases hQ.split with ⟨e, he, rfl, hk⟩ | ⟨t5, v, he, rfl, N5, m1, m2, hT5⟩
  · simp [stop]
    refine hF _ _ ?_
    have : stepsQ pumpStep n 0 t = .error e := by
      rw [← hst, show n - i = (n - (i + 1)) + 1 from by omega, stepsQ_succ, hsp, ← hfe4, hfd, he]
    simp [this]
    exact ⟨rfl, hk⟩
  simp
  obtain ⟨q5, g1, g2, g3, g4, g5⟩ := takeT_ok hqi4 he
  refine hKc (m - 1) _ (by omega) ⟨N5, t5, q5, g4.trans hl4, g1, by omega, by omega, g5 hf4, m1.trans k1, m2.trans k2, hT5, ?_, ?_⟩
  · rw [← hfe4, hfd, he]
  · simp [k1]
end
section
attribute [local simp] D_257 D_26 D_46 D_24 D_25 D_54 D_27 D_33 D_50 D_42 D_77 D_28 D_89 D_87 D_244 D_131 D_130 plainOp
attribute [local simp ↓] evTsR
attribute [-simp] List.length_flatMap
theorem len_Cl (x : Cl) : (Cl.enc x).length = 2 := rfl
theorem flen_Cl (xs : List Cl) : (xs.flatMap Cl.enc).length = xs.length * 2 := flat_len len_Cl xs
theorem noLL_Cl (x : Cl) : AV.noLL (Cl.enc x) = true := by
  unfold Cl.enc; cases x.loc with
  | none => rfl
  | some p => rfl
theorem noLLf_Cl (xs : List Cl) : AV.noLL (xs.flatMap Cl.enc) = true := noLL_flat noLL_Cl xs
theorem kill_Cl (k : Nat) (x : Cl) : AV.killL k (Cl.enc x) = Cl.enc x := by
  unfold Cl.enc; cases x.loc with
  | none => rfl
  | some p => simp [AV.killL, AV.kill]
theorem killf_Cl (k : Nat) (xs : List Cl) : AV.killL k (xs.flatMap Cl.enc) = xs.flatMap Cl.enc := killL_flat (kill_Cl k) xs
theorem at_Cl (xs : List Cl) {i : Nat} {x : Cl} (h : xs[i]? = some x) : ((xs.flatMap Cl.enc).drop (i * 2)).take 2 = Cl.enc x := flat_at len_Cl xs h
theorem take_Cl (x : Cl) : List.take 2 (Cl.enc x) = Cl.enc x := rfl
attribute [local simp] flen_Cl noLLf_Cl killf_Cl
theorem indexH_Cl (xs : List Cl) (hx : xs.length ≤ 2000000) (g : FuncId) (caps : List AV) (hcaps : AV.noLL caps = true) (p : Cl → Bool) (hp : ∀ x ∈ xs, PFun Tryz.prog g (.agg (Cl.enc x) :: caps) (abool (p x))) (H : Heap) (k : Nat) (hH : H k = some (xs.flatMap Cl.enc)) : PCalls Tryz.prog 144 [.os (.h k) 2 0 xs.length, .fn g caps] H fun e H' => e = .ret (aint (idx p xs)) ∧ H' = H := by
  refine PCalls.of_J' D_ok Tryz.func144 rfl (by decide) (le' rfl) fun E QF hF => ?_
  change J _ E 19 _ _ _
  refine J_seq' fun K1 hK1 => J0 ?_
  simp [hH]
  refine hK1 _ (J_seq' fun K2 hK2 => J_seq' fun K3 hK3 => J0 ?_)
  simp [hH]
  refine hK3 _ (J_block ?_)
  refine J_loop' (fun m s' => ∃ i : Nat, i ≤ xs.length ∧ m = xs.length - i ∧ idx p xs = idxFrom p (xs.drop i) i ∧ Has [(0, .os (.h k) 2 0 xs.length), (1, .fn g caps), (7, aint xs.length), (8, aint i)] [] H s') (n := xs.length) ⟨0, by omega, by omega, rfl, by simp⟩ ?_
  rintro m s' ⟨i, hi, hm, hidx, hs'⟩ K hK
  refine J_has hs' ?_
  refine J_seq' fun K4 hK4 => J0 ?_
  simp [hH]
  refine hK4 _ (J_seq' fun K5 hK5 => J_cond rfl (fun hc => J_skip ?_) fun hc => J_exit ?_)
  · simp at hc
    obtain ⟨x, hxi⟩ : ∃ x, xs[i]? = some x := ⟨_, List.getElem?_eq_getElem (by omega)⟩
    have hat := at_Cl xs hxi
    have hmem : x ∈ xs := List.mem_of_getElem? hxi
    have hdr : xs.drop i = x :: xs.drop (i + 1) := drop_at hxi
    simp only [thenQ, blockQ]
    refine hK5 _ (J_seq' fun K6 hK6 => J_block (J_seq' fun K7 hK7 => J0 ?_))
    simp [hH]
    refine hK7 _ (J_seq' fun K8 hK8 => J0 ?_)
    simp [hat, hcaps, noLL_Cl, len_Cl, hH]
    refine ⟨by omega, by omega, (hp x hmem).call ?_⟩
    simp
    refine hK8 _ (J_cond rfl (fun hd => ?_) fun hd => J_skip ?_)
    · have hpx : p x = true := by simpa using hd
      refine J_seq' fun K9 hK9 => J0 ?_
      simp [hH]
      refine hK9 _ (J_ret (hF _ _ ?_))
      simp [Tryz.f144]
      rw [hidx, hdr]
      simp [idxFrom, hpx]
    · have hpx : p x = false := by simpa using hd
      simp only [thenQ, blockQ]
      refine hK6 _ (J0 ?_)
      simp [hH]
      refine hK (xs.length - (i + 1)) _ (by omega) ⟨i + 1, by omega, rfl, ?_, ?_⟩
      · rw [hidx, hdr]; simp [idxFrom, hpx]
      · simp
        rw [w64 (by omega) (by omega)]
  · simp at hc
    simp only [thenQ, blockQ, if_true]
    refine hK2 _ (J_seq' fun K10 hK10 => J0 ?_)
    simp [hH]
    refine hK10 _ (J_ret (hF _ _ ?_))
    simp [Tryz.f144]
    rw [hidx, List.drop_eq_nil_of_le (by omega)]
    rfl
theorem bs_Cl (xs : List Cl) (hx : xs.length ≤ 2000000) (y : ByteArray) (g : FuncId) (caps : List AV) (hcaps : AV.noLL caps = true) (f : Cl → Int) (hp : ∀ x ∈ xs, PFun Tryz.prog g (.agg (Cl.enc x) :: astr y :: caps) (aint (f x))) (H : Heap) (k : Nat) (hH : H k = some (xs.flatMap Cl.enc)) : PCalls Tryz.prog 251 [.os (.h k) 2 0 xs.length, astr y, .fn g caps] H fun e H' => e = .ret (.tup [aint (bsearch f xs : Nat), abool (bfound f xs)]) ∧ H' = H := by
  refine PCalls.of_J' D_ok Tryz.func251 rfl (by decide) (le' rfl) fun E QF hF => ?_
  change J _ E 49 _ _ _
  refine J_seq' fun K1 hK1 => J0 ?_
  simp [hH]
  refine hK1 _ (J_seq' fun K2 hK2 => J0 ?_)
  simp [hH]
  refine hK2 _ (J_seq' fun K3 hK3 => J0 ?_)
  simp [hH]
  refine hK3 _ (J_seq' fun K4 hK4 => J_block ?_)
  refine J_loop' (fun m s' => ∃ i j : Nat, i ≤ j ∧ j ≤ xs.length ∧ m = j - i ∧ bsGo (ltAt f xs) i j = bsearch f xs ∧ Has [(0, .os (.h k) 2 0 xs.length), (1, astr y), (2, .fn g caps), (8, aint xs.length), (9, aint i), (10, aint j)] [] H s') (n := xs.length) ⟨0, xs.length, by omega, by omega, by omega, rfl, by simp⟩ ?_
  rintro m s' ⟨i, j, hij, hj, hm, hb, hs'⟩ K hK
  refine J_has hs' ?_
  refine J_seq' fun K5 hK5 => J_seq' fun K6 hK6 => J0 ?_
  simp [hH]
  refine hK6 _ (J_cond rfl (fun hc => J_skip ?_) fun hc => J_exit ?_)
  · simp at hc
    have hmid : (i + j) / 2 < xs.length := by omega
    obtain ⟨x, hxi⟩ : ∃ x, xs[(i + j) / 2]? = some x := ⟨_, List.getElem?_eq_getElem hmid⟩
    have hat := at_Cl xs hxi
    have hmem : x ∈ xs := List.mem_of_getElem? hxi
    have hlt : ltAt f xs ((i + j) / 2) = decide (f x < 0) := by simp [ltAt, hxi]
    simp only [thenQ, blockQ]
    refine hK5 _ (J_block (J_seq' fun K7 hK7 => J0 ?_))
    simp [hH, evConv]
    rw [mid_eq i j (by omega)]
    have hm1 : i ≤ (i + j) / 2 := by omega
    have hm2 : (i + j) / 2 < j := by omega
    have hbl := fun h => bsGo_lt (ltAt f xs) (i := i) (j := j) hc h
    have hbg := fun h => bsGo_ge (ltAt f xs) (i := i) (j := j) hc h
    generalize (i + j) / 2 = mid at *
    refine hK7 _ (J_seq' fun K8 hK8 => J0 ?_)
    simp [hat, hcaps, noLL_Cl, len_Cl, hH, take_Cl]
    refine ⟨by omega, by omega, (hp x hmem).call ?_⟩
    simp
    refine hK8 _ (J_cond rfl (fun hd => ?_) fun hd => ?_)
    · have hpx : ltAt f xs mid = true := by rw [hlt]; simpa using hd
      refine J0 ?_
      simp [hH]
      refine hK (j - (mid + 1)) _ (by omega) ⟨mid + 1, j, by omega, hj, rfl, ?_, ?_⟩
      · rw [← hb, hbl hpx]
      · simp
        rw [w64 (by omega) (by omega)]
    · have hpx : ltAt f xs mid = false := by rw [hlt]; simpa using hd
      refine J0 ?_
      simp [hH]
      refine hK (mid - i) _ (by omega) ⟨i, mid, by omega, by omega, rfl, ?_, ?_⟩
      · rw [← hb, hbg hpx]
      · simp
  · simp at hc
    have hbi : i = bsearch f xs := by rw [← hb, bsGo_eq _ hc]
    simp only [thenQ, blockQ, if_true]
    refine hK4 _ (J_seq' fun K9 hK9 => ?_)
    rcases Nat.lt_or_ge i xs.length with hlt | hge
    · obtain ⟨x, hxi⟩ : ∃ x, xs[i]? = some x := ⟨_, List.getElem?_eq_getElem hlt⟩
      have hat := at_Cl xs hxi
      have hmem : x ∈ xs := List.mem_of_getElem? hxi
      refine J0 ?_
      simp [hat, hcaps, noLL_Cl, len_Cl, hH, hlt, take_Cl]
      refine ⟨by omega, (hp x hmem).call ?_⟩
      simp
      refine hK9 _ (J_ret (hF _ _ ?_))
      simp [Tryz.f251, ← hbi, bfound, hxi]
    · refine J0 ?_
      simp [hH, show ¬ i < xs.length from by omega]
      refine hK9 _ (J_ret (hF _ _ ?_))
      simp [Tryz.f251, ← hbi, bfound, List.getElem?_eq_none hge]
end
section
attribute [local simp] D_257 D_26 D_46 D_24 D_25 D_54 D_27 D_33 D_50 D_42 D_77 D_28 D_89 D_87 D_244 D_131 D_130 plainOp renSf renLf AV.ren AV.renL escF adoptF AS.esc AS.adopt AS.frz frzS frzL frzC AV.frz Heap.put flen_Cl noLLf_Cl killf_Cl
attribute [local simp ↓] evTsR
attribute [-simp] List.length_flatMap
theorem ov_Cl {H : Heap} {k : Nat} {cs : List AV} (hH : H k = some cs) (y : Cl) (off m c : Nat) : PCalls Tryz.prog 275 [.sl 1 (Cl.enc y), .oc (.h k) 2 off m c] H fun r H' => r = .ret (.v (.bool false)) ∧ H' = H :=
  overlaps_of D_ok (es0 := 0) (tS := 28) (tR := 4) (e := 89) Tryz.func275 (by kernel_rfl) (by kernel_rfl) (by kernel_rfl) (by kernel_rfl) D_28 D_89 hH 1 (Cl.enc y) (by simp [Cl.enc, Itm.enc]) 2 off m c
theorem ins_Cl (xs : List Cl) (hx : xs.length ≤ 2000000) (i : Nat) (hi : i ≤ xs.length) (y : Cl) (H : Heap) (k : Nat) (hH : H k = some (xs.flatMap Cl.enc)) : PCalls Tryz.prog 242 [.os (.h k) 2 0 xs.length, aint i, .sl 1 (Cl.enc y)] H (OwnRow 2 H k (xs.length + 1) ((insAt i y xs).flatMap Cl.enc)) := by
  have hlen : (xs.flatMap Cl.enc).length = xs.length * 2 := flen_Cl xs
  have hylen : (Cl.enc y).length = 2 := len_Cl y
  have hynl : AV.noLL (Cl.enc y) = true := noLL_Cl y
  have hins : (insAt i y xs).flatMap Cl.enc = (xs.flatMap Cl.enc).take (i * 2) ++ (Cl.enc y ++ (xs.flatMap Cl.enc).drop (i * 2)) := by
    rw [insAt, List.flatMap_append, List.flatMap_cons, flat_take len_Cl, flat_drop len_Cl]
  refine PCalls.of_J' D_ok Tryz.func242 rfl (by decide) (le' rfl) fun E QF hF => ?_
  change J _ E 95 _ _ _
  refine J_seq' fun K1 hK1 => J0 ?_
  simp
  refine hK1 _ (J_seq' fun K2 hK2 => ?_)
  rcases Nat.lt_or_ge i xs.length with hlt | hge
  · refine J_reveal 0 (l := .h k) (es := 2) (n := xs.length) (by omega) (by simp) (cs := xs.flatMap Cl.enc) (by simpa using hH) fun cap hc1 hc2 hc3 => ?_
    simp only [maxLen] at hc3
    refine J0 ?_
    simp [hH]
    refine ⟨⟨by omega, by omega⟩, hK2 _ (J_seq' fun K3 hK3 => J0 ?_)⟩
    simp
    refine hK3 _ (J_seq' fun K4 hK4 => J_seq' fun K5 hK5 => J0 ?_)
    simp
    refine hK5 _ (J_cond rfl (fun hc => by simp at hc) fun _ => J_skip ?_)
    simp only [thenQ]
    refine hK4 _ (J_seq' fun K6 hK6 => J0 ?_)
    simp
    refine hK6 _ (J_seq' fun K7 hK7 => J_seq' fun K8 hK8 => J0 ?_)
    simp
    refine hK8 _ (J_cond rfl (fun hc => by simp at hc; omega) fun _ => J_skip ?_)
    simp only [thenQ]
    refine hK7 _ (J_seq' fun K9 hK9 => J_seq' fun K10 hK10 => J0 ?_)
    simp
    have hw1 : IntKind.i64.wrap ((xs.length : Int) + 1) = ((xs.length + 1 : Nat) : Int) := by rw [w64 (by omega) (by omega)]; omega
    have hw2 : IntKind.i64.wrap ((i : Int) + 1) = ((i + 1 : Nat) : Int) := by rw [w64 (by omega) (by omega)]; omega
    rw [hw1]
    refine hK10 _ (J_cond rfl (fun hc => ?_) fun hc => J_skip ?_)
    · simp at hc
      have hw3 : IntKind.i64.wrap (((xs.length + 1 : Nat) : Int) - (i : Int)) = ((xs.length + 1 - i : Nat) : Int) := by rw [w64 (by omega) (by omega)]; omega
      refine J_seq' fun K11 hK11 => J0 ?_
      simp [hH]
      rw [hw1, hw3]
      simp
      have hkz : AV.killL 40 (List.take (i * 2) (xs.flatMap Cl.enc) ++ (List.replicate (xs.length + 1 - i) ([AV.v (Value.string { data := #[] }), AV.sl0])).flatten) = List.take (i * 2) (xs.flatMap Cl.enc) ++ (List.replicate (xs.length + 1 - i) ([AV.v (Value.string { data := #[] }), AV.sl0])).flatten := by
        rw [killL_app, flat_take len_Cl, killf_Cl, killL_rep _ _ _ (by simp)]
      have hZ : ((List.replicate (xs.length + 1 - i) ([AV.v (Value.string { data := #[] }), AV.sl0])).flatten).length = (xs.length + 1 - i) * 2 := len_rep _ _ 2 rfl
      rw [hkz]
      generalize (List.replicate (xs.length + 1 - i) ([AV.v (Value.string { data := #[] }), AV.sl0])).flatten = Z at hZ
      refine ⟨by omega, by omega, by omega, by omega, by omega, by omega, hK11 _ ?_⟩
      have hl40 : (List.take (i * 2) (xs.flatMap Cl.enc) ++ Z).length = (xs.length + 1) * 2 := by rw [List.length_append, List.length_take, hlen, hZ]; omega
      have hgrow := grow_cells (A := xs.flatMap Cl.enc) (Y := Cl.enc y) (Z := Z) (p := i * 2) (b := (xs.length - i) * 2) (e := 2) (by rw [hlen]; omega) hylen (by rw [hZ]; omega)
      rw [← hins] at hgrow
      generalize hC0 : List.take (i * 2) (xs.flatMap Cl.enc) ++ Z = C0 at hl40 hgrow
      refine J_has (T := [(0, .oc (.h k) 2 0 xs.length cap), (1, aint i), (2, .sl 1 (Cl.enc y)), (7, aint 1), (9, .os (.l 40) 2 0 (xs.length + 1)), (6, .sl0)]) (L := [(40, C0)]) (H := H) ⟨by simp; omega, by simp [hC0], rfl⟩ ?_
      refine J_reveal 9 (l := .l 40) (es := 2) (n := xs.length + 1) (by omega) (by simp) (cs := C0) (by simp) fun cap2 he1 he2 he3 => ?_
      simp
      refine J_seq' fun K12 hK12 => J0 ?_
      simp [show i < cap2 from by omega, hylen, show min 1 (xs.length + 1 - i) = 1 from by omega, hl40, take_Cl]
      refine ⟨by omega, by omega, hK12 _ ?_⟩
      have hl41 : (C0.take (i * 2) ++ (Cl.enc y ++ C0.drop (i * 2 + 2))).length = (xs.length + 1) * 2 := by
        simp only [List.length_append, List.length_take, List.length_drop, hl40, hylen]; omega
      generalize hC1 : C0.take (i * 2) ++ (Cl.enc y ++ C0.drop (i * 2 + 2)) = C1 at hl41 hgrow
      refine J_has (T := [(0, .oc (.h k) 2 0 xs.length cap), (1, aint i), (2, .sl 1 (Cl.enc y)), (7, aint 1), (9, .oc (.l 40) 2 0 (xs.length + 1) cap2), (6, .sl0)]) (L := [(40, C1)]) (H := H) ⟨by simp, by simp [hC1], rfl⟩ ?_
      refine J_seq' fun K13 hK13 => D0 [0,1,2,3,4,5,6,7] [8] (fun _ => []) rfl (by decide) (by decide) ?_
      have hi1 : (i : Int) + 1 < (cap2 : Int) := by omega
      have hi2 : ((xs.length : Int) + 1 - ((i : Int) + 1)).toNat = xs.length - i := by omega
      simp [show i < cap from by omega, hi1, hi2, hH, hl41, hw2]
      repeat refine And.intro (by omega) ?_
      refine hK13 _ ?_
      refine J_has (T := [(9, .oc (.l 40) 2 0 (xs.length + 1) cap2), (6, .sl0)]) (L := [(40, (insAt i y xs).flatMap Cl.enc)]) (H := H) ⟨by simp, by
        show [(40, List.take ((i + 1) * 2) C1 ++ _)] = _
        rw [show (i + 1) * 2 = i * 2 + 2 from by omega, List.take_take, Nat.min_self, List.take_of_length_le (l := List.drop (i * 2) (xs.flatMap Cl.enc)) (by rw [List.length_drop, hlen]; omega), hgrow], rfl⟩ ?_
      refine J_seq' fun K14 hK14 => J0 ?_
      simp
      refine hK14 _ ?_
      refine J_forget 6 (l := .l 40) (es := 2) (off := 0) (n := xs.length + 1) (cap := cap2) (by simp) ?_
      simp
      refine J_escape 40 (by simp; rfl) (by simp) fun k' hk' => ?_
      simp
      refine J_ret (hF _ _ ?_)
      simp [Tryz.f242]
      exact .mk k' (.inr hk') (fun m h1 h2 => by simp [h2]) (by simp)
    · simp at hc
      simp only [thenQ]
      refine hK9 _ (J_extend 0 (l := .h k) (es := 2) (off := 0) (n := xs.length) (cap := cap) (by simp) (cs := xs.flatMap Cl.enc) (by simpa using hH) 2 (by rw [hlen]; omega) ?_)
      simp
      refine J_seq' fun K11 hK11 => J0 ?_
      simp
      rw [hw1]
      refine ⟨⟨by omega, by omega⟩, hK11 _ ?_⟩
      have hdead : ([AV.dead, AV.dead] : List AV).length = 2 := rfl
      have hdnl : AV.noLL ([AV.dead, AV.dead] : List AV) = true := by simp
      have hroom := room_cells (A := xs.flatMap Cl.enc) (Y := Cl.enc y) (X := [AV.dead, AV.dead]) (p := i * 2) (b := (xs.length - i) * 2) (e := 2) (by rw [hlen]; omega) hylen hdead
      rw [← hins] at hroom
      have hl0 : (xs.flatMap Cl.enc ++ [AV.dead, AV.dead]).length = (xs.length + 1) * 2 := by rw [List.length_append, hlen, hdead]; omega
      have hn0 : AV.noLL (xs.flatMap Cl.enc ++ [AV.dead, AV.dead]) = true := by rw [noLL_app, noLLf_Cl, hdnl]; rfl
      generalize hC0 : xs.flatMap Cl.enc ++ [AV.dead, AV.dead] = C0 at hroom hl0 hn0
      refine J_has (T := [(0, .oc (.h k) 2 0 (xs.length + 1) cap), (1, aint i), (2, .sl 1 (Cl.enc y)), (7, aint 1), (6, .sl0)]) (L := []) (H := fun m => if m = k then some C0 else H m) ⟨by simp, rfl, rfl⟩ ?_
      have hi1 : (i : Int) + 1 < (cap : Int) := by omega
      have hi2 : ((xs.length : Int) + 1 - ((i : Int) + 1)).toNat = xs.length - i := by omega
      refine J_seq' fun K12 hK12 => J_seq' fun K13 hK13 => J0 ?_
      simp [hw2, hi1, hi2]
      repeat refine And.intro (by omega) ?_
      refine (ov_Cl (H := fun m => if m = k then some C0 else H m) (k := k) (cs := C0) (by simp) y _ _ _).mono ?_
      rintro e H' ⟨rfl, rfl⟩
      simp
      refine hK13 _ (J_cond rfl (fun _ => ?_) fun hc => by simp at hc)
      refine J_seq' fun K14 hK14 => D0 [0,1,2,3,4,5,6,7] [8] (fun _ => []) rfl (by decide) (by decide) ?_
      simp [hw2, hi1, hi2, show i < cap from by omega, hl0]
      refine ⟨by omega, by omega, by omega, by omega, noLL_take _ (noLL_drop _ hn0), hK14 _ ?_⟩
      have hC1l : (C0.take (i * 2 + 2) ++ ((C0.drop (i * 2)).take ((xs.length - i) * 2) ++ C0.drop (i * 2 + 2 + (xs.length - i) * 2))).length = (xs.length + 1) * 2 := by
        simp only [List.length_append, List.length_take, List.length_drop, hl0]; omega
      generalize hC1 : C0.take (i * 2 + 2) ++ ((C0.drop (i * 2)).take ((xs.length - i) * 2) ++ C0.drop (i * 2 + 2 + (xs.length - i) * 2)) = C1 at hroom hC1l
      refine J_has (T := [(0, .oc (.h k) 2 0 (xs.length + 1) cap), (1, aint i), (2, .sl 1 (Cl.enc y)), (7, aint 1), (6, .sl0)]) (L := []) (H := fun m => if m = k then some C1 else H m) ⟨by simp, rfl, by
        funext m
        by_cases hm : m = k
        · subst hm
          show (if m = m then some _ else _) = (if m = m then some C1 else H m)
          rw [if_pos rfl, if_pos rfl, show min (xs.length + 1 - i) (xs.length - i) = xs.length - i from by omega, List.take_take, Nat.min_eq_left (by omega), show (i + 1) * 2 = i * 2 + 2 from by omega, hC1]
        · show (if m = k then some _ else _) = (if m = k then some C1 else H m)
          rw [if_neg hm, if_neg hm, if_neg hm]⟩ ?_
      refine J_seq' fun K15 hK15 => J0 ?_
      simp [show i < cap from by omega, show min 1 (xs.length + 1 - i) = 1 from by omega, hC1l, hylen, take_Cl, hynl]
      repeat refine And.intro (by omega) ?_
      refine hK15 _ ?_
      refine J_has (T := [(0, .oc (.h k) 2 0 (xs.length + 1) cap), (6, .sl0)]) (L := []) (H := fun m => if m = k then some ((insAt i y xs).flatMap Cl.enc) else H m) ⟨by simp, rfl, by
        funext m
        by_cases hm : m = k
        · subst hm
          show (if m = m then some _ else _) = (if m = m then some _ else H m)
          rw [if_pos rfl, if_pos rfl, hroom]
        · show (if m = k then some _ else _) = (if m = k then some _ else H m)
          rw [if_neg hm, if_neg hm, if_neg hm]⟩ ?_
      refine J_seq' fun K16 hK16 => J0 ?_
      simp
      refine hK16 _ ?_
      refine J_forget 6 (l := .h k) (es := 2) (off := 0) (n := xs.length + 1) (cap := cap) (by simp) ?_
      simp
      refine J_ret (hF _ _ ?_)
      simp [Tryz.f242]
      exact .mk k (.inl rfl) (fun m h1 h2 => by simp [h2]) (by simp)
  · have hie : i = xs.length := by omega
    subst hie
    rcases Nat.eq_zero_or_pos xs.length with h0 | h0
    · refine J_slice0 D_ok (x := 0) (y := 1) (p := 10) (q := 11) (d := 12) (t := 28) (l := .h k) (es := 2) rfl rfl rfl rfl rfl rfl rfl rfl rfl rfl D_28 D_89 (by decide) (by decide) (by decide) (by decide) (by decide) (by simp [h0]) (by simp [h0]) ?_
      refine hK2 _ (J_has (T := [(0, .os (.h k) 2 0 xs.length), (1, aint xs.length), (2, .sl 1 (Cl.enc y)), (6, .sl0)]) (L := []) (H := H) (by simp [h0]) ?_)
      refine J_seq' fun K3 hK3 => J0 ?_
      simp
      refine hK3 _ (J_seq' fun K4 hK4 => J_seq' fun K5 hK5 => J0 ?_)
      simp
      refine hK5 _ (J_cond rfl (fun hc => by simp at hc) fun _ => J_skip ?_)
      simp only [thenQ]
      refine hK4 _ (J_seq' fun K6 hK6 => J0 ?_)
      simp
      refine hK6 _ (J_seq' fun K7 hK7 => J_seq' fun K8 hK8 => J0 ?_)
      simp
      refine hK8 _ (J_cond rfl (fun _ => ?_) fun hc => by simp at hc)
      refine J_seq' fun K9 hK9 => J0 ?_
      simp [hH, hylen, hynl]
      have fin : (insAt xs.length y xs).flatMap Cl.enc = xs.flatMap Cl.enc ++ Cl.enc y := by
        rw [hins, List.take_of_length_le (by rw [hlen]; exact Nat.le_refl _), List.drop_eq_nil_of_le (by rw [hlen]; exact Nat.le_refl _), List.append_nil]
      refine ⟨by omega, by omega, hK9 _ (J_ret (hF _ _ ?_)), fun k' hk' => hK9 _ (J_ret (hF _ _ ?_))⟩
      · simp [Tryz.f242]
        exact .mk k (.inl rfl) (fun m h1 h2 => by simp [h1]) (by simp [fin])
      · simp [Tryz.f242]
        exact .mk k' (.inr hk') (fun m h1 h2 => by simp [h1, h2]) (by simp [fin])
    · refine J_reveal 0 (l := .h k) (es := 2) (n := xs.length) (by omega) (by simp) (cs := xs.flatMap Cl.enc) (by simpa using hH) fun cap hc1 hc2 hc3 => ?_
      simp only [maxLen] at hc3
      refine J0 ?_
      simp [hH]
      refine ⟨by omega, hK2 _ (J_forget 0 (l := .h k) (es := 2) (off := 0) (n := xs.length) (cap := cap) (by simp) ?_)⟩
      simp
      refine J_seq' fun K3 hK3 => J0 ?_
      simp
      refine hK3 _ (J_seq' fun K4 hK4 => J_seq' fun K5 hK5 => J0 ?_)
      simp
      refine hK5 _ (J_cond rfl (fun hc => by simp at hc) fun _ => J_skip ?_)
      simp only [thenQ]
      refine hK4 _ (J_seq' fun K6 hK6 => J0 ?_)
      simp
      refine hK6 _ (J_seq' fun K7 hK7 => J_seq' fun K8 hK8 => J0 ?_)
      simp
      refine hK8 _ (J_cond rfl (fun _ => ?_) fun hc => by simp at hc)
      refine J_seq' fun K9 hK9 => J0 ?_
      simp [hH, hylen, hynl]
      have fin : (insAt xs.length y xs).flatMap Cl.enc = xs.flatMap Cl.enc ++ Cl.enc y := by
        rw [hins, List.take_of_length_le (by rw [hlen]; exact Nat.le_refl _), List.drop_eq_nil_of_le (by rw [hlen]; exact Nat.le_refl _), List.append_nil]
      refine ⟨by omega, by omega, hK9 _ (J_ret (hF _ _ ?_)), fun k' hk' => hK9 _ (J_ret (hF _ _ ?_))⟩
      · simp [Tryz.f242]
        exact .mk k (.inl rfl) (fun m h1 h2 => by simp [h1]) (by simp [fin])
      · simp [Tryz.f242]
        exact .mk k' (.inr hk') (fun m h1 h2 => by simp [h1, h2]) (by simp [fin])
end
section
attribute [local simp] D_257 D_26 D_46 D_24 D_25 D_54 D_27 D_33 D_50 D_42 D_77 D_28 D_89 D_87 D_244 D_131 D_130 plainOp renSf renLf AV.ren AV.renL escF adoptF AS.esc AS.adopt AS.frz frzS frzL frzC AV.frz Heap.put flen_Cl noLLf_Cl killf_Cl
attribute [local simp ↓] evTsR
attribute [-simp] List.length_flatMap
theorem del_Cl (xs : List Cl) (hx : xs.length ≤ 2000000) (i : Nat) (hi : i < xs.length) (H : Heap) (k : Nat) (hH : H k = some (xs.flatMap Cl.enc)) : PCalls Tryz.prog 200 [.os (.h k) 2 0 xs.length, aint i, aint ((i : Int) + 1)] H (OwnRow 2 H k (xs.length - 1) ((xs.eraseIdx i).flatMap Cl.enc)) := by
  have hlen : (xs.flatMap Cl.enc).length = xs.length * 2 := flen_Cl xs
  have hnl : AV.noLL (xs.flatMap Cl.enc) = true := noLLf_Cl xs
  have hers : (xs.eraseIdx i).flatMap Cl.enc = (xs.flatMap Cl.enc).take (i * 2) ++ (xs.flatMap Cl.enc).drop (i * 2 + 2) := by
    rw [List.eraseIdx_eq_take_drop_succ, List.flatMap_append, flat_take len_Cl, ← flat_drop len_Cl, Nat.succ_mul]
  generalize xs.flatMap Cl.enc = A at hH hlen hnl hers
  generalize (xs.eraseIdx i).flatMap Cl.enc = T at hers
  generalize xs.length = n0 at *
  obtain ⟨N, rfl⟩ : ∃ N, n0 = N + 1 := ⟨n0 - 1, by omega⟩
  rw [show N + 1 - 1 = N from rfl]
  refine PCalls.of_J' D_ok Tryz.func200 rfl (by decide) (le' rfl) fun E QF hF => ?_
  change J _ E 33 _ _ _
  refine J_seq' fun K1 hK1 => J0 ?_
  simp
  refine hK1 _ ?_
  refine J_reveal 0 (l := .h k) (es := 2) (n := N + 1) (by omega) (by simp) (cs := A) (by simpa using hH) fun cap hc1 hc2 hc3 => ?_
  simp only [maxLen] at hc3
  simp
  refine J_seq' fun K2 hK2 => J0 ?_
  simp [hH]
  repeat refine And.intro (by omega) ?_
  refine hK2 _ (J_seq' fun K3 hK3 => J_seq' fun K4 hK4 => J0 ?_)
  simp
  refine hK4 _ (J_cond rfl (fun hc => by simp at hc; omega) fun _ => J_skip ?_)
  simp only [thenQ]
  refine hK3 _ (J_seq' fun K5 hK5 => J0 ?_)
  simp
  refine hK5 _ (J_seq' fun K6 hK6 => D0 [0,1,2,3,4,5] [6,7] (fun _ => []) rfl (by decide) (by decide) ?_)
  have rest : ∀ C1 : List AV, C1.length = (N + 1) * 2 → C1.take (N * 2) = T → ∀ s', Has [(0, .oc (.h k) 2 0 N cap), (7, aint ((N : Int) + 1)), (6, .sl0)] [] (fun m => if m = k then some C1 else H m) s' → K6 s' := by
    intro C1 hl hT s' hs'
    refine hK6 _ (J_has hs' ?_)
    refine J_seq' fun K7 hK7 => J0 ?_
    have hi3 : (((N : Int) + 1) - (N : Int)).toNat = 1 := by omega
    have hi4 : (N : Int) < (cap : Int) := by omega
    simp [show N < cap from by omega, hi3, hi4, hl]
    repeat refine And.intro (by omega) ?_
    refine hK7 _ (J_seq' fun K8 hK8 => J0 ?_)
    simp
    refine hK8 _ ?_
    refine J_forget 6 (l := .h k) (es := 2) (off := 0) (n := N) (cap := cap) (by simp) ?_
    simp
    refine J_trunc (.h k) (by simp; rfl) (N * 2) ?_
    simp
    refine J_ret (hF _ _ ?_)
    simp [Tryz.f200]
    refine .mk k (.inl rfl) (fun m h1 h2 => by simp [h2]) ?_
    show (if k = k then some _ else _) = some T
    rw [if_pos rfl, List.take_append_of_le_length (by rw [List.length_take, hl]; omega), List.take_take, Nat.min_self, hT]
  rcases Nat.lt_or_ge (i + 1) cap with hcap | hcap
  · have hi1 : (i : Int) + 1 < (cap : Int) := by omega
    have hi2 : (((N : Int) + 1) - ((i : Int) + 1)).toNat = N - i := by omega
    have hi3 : i + (N - i) = N := by omega
    have hi4 : i + 1 + (N - i) = N + 1 := by omega
    simp [hH, hlen, hnl, hi1, hi2, hi3]
    repeat refine And.intro (by omega) ?_
    refine ⟨noLL_take _ (noLL_drop _ hnl), ?_⟩
    refine rest (A.take (i * 2) ++ (A.drop (i * 2 + 2) ++ A.drop (N * 2))) ?_ ?_ _ ⟨by simp, rfl, ?_⟩
    · simp only [List.length_append, List.length_take, List.length_drop, hlen]; omega
    · rw [← List.append_assoc, List.take_append_of_le_length (by simp only [List.length_append, List.length_take, List.length_drop, hlen]; omega), List.take_of_length_le (by simp only [List.length_append, List.length_take, List.length_drop, hlen]; omega), hers]
    · funext m
      by_cases hm : m = k
      · subst hm
        show (if m = m then some _ else _) = (if m = m then some _ else H m)
        rw [if_pos rfl, if_pos rfl, List.take_of_length_le (l := List.drop ((i + 1) * 2) A) (by rw [List.length_drop, hlen]; omega), show (i + 1) * 2 = i * 2 + 2 from by omega]
        congr 4
        omega
      · show (if m = k then some _ else _) = (if m = k then some _ else H m)
        rw [if_neg hm, if_neg hm]
  · have hi1 : ¬ (i : Int) + 1 < (cap : Int) := by omega
    have hi5 : i = N := by omega
    subst hi5
    simp [hH, hlen, hnl, hi1]
    repeat refine And.intro (by omega) ?_
    refine rest A hlen ?_ _ ⟨by simp, rfl, rfl⟩
    rw [hers, List.drop_eq_nil_of_le (by rw [hlen]; omega), List.append_nil]
theorem delf_Cl (xs : List Cl) (hx : xs.length ≤ 2000000) (g : FuncId) (caps : List AV) (hcaps : AV.noLL caps = true) (p : Cl → Bool) (hp : ∀ x ∈ xs, PFun Tryz.prog g (.agg (Cl.enc x) :: caps) (abool (p x))) (H : Heap) (k : Nat) (hH : H k = some (xs.flatMap Cl.enc)) : PCalls Tryz.prog 201 [.os (.h k) 2 0 xs.length, .fn g caps] H (OwnRow 2 H k (xs.filter fun x => !p x).length ((xs.filter fun x => !p x).flatMap Cl.enc)) := by
  have hlen : (xs.flatMap Cl.enc).length = xs.length * 2 := flen_Cl xs
  refine PCalls.of_J' D_ok Tryz.func201 rfl (by decide) (le' rfl) fun E QF hF => ?_
  change J _ E 42 _ _ _
  refine J_seq' fun K1 hK1 => J0 ?_
  simp
  refine hK1 _ (J_seq' fun K2 hK2 => J0 ?_)
  simp [hcaps]
  refine (indexH_Cl xs hx g caps hcaps p hp H k hH).mono ?_
  rintro e H' ⟨rfl, hHe⟩
  obtain rfl : H = H' := hHe.symm
  simp
  refine hK2 _ (J_seq' fun K3 hK3 => J_seq' fun K4 hK4 => J0 ?_)
  simp
  rcases idx_spec p xs with ⟨h1, h2⟩ | ⟨i0, x0, h1, h2, h3, h4⟩
  · have hf : xs.filter (fun x => !p x) = xs := List.filter_eq_self.mpr fun x hx => by simp [h2 x hx]
    rw [h1]
    refine hK4 _ (J_cond rfl (fun _ => ?_) fun hc => by simp at hc)
    refine J_seq' fun K5 hK5 => J0 ?_
    simp
    refine hK5 _ (J_ret (hF _ _ ?_))
    simp [Tryz.f201]
    rw [hf]
    exact .mk k (.inl rfl) (fun m h1 h2 => rfl) hH
  have hi0 : i0 < xs.length := by
    rcases Nat.lt_or_ge i0 xs.length with h | h
    · exact h
    · rw [List.getElem?_eq_none h] at h2; cases h2
  have hfirst : xs.take i0 = (xs.take i0).filter fun x => !p x := by
    refine (List.filter_eq_self.mpr fun x hx => ?_).symm
    obtain ⟨j, hj⟩ := List.getElem?_of_mem hx
    rw [List.getElem?_take] at hj
    split at hj
    · rename_i hlt; simp [h4 j x hlt hj]
    · cases hj
  have hfirst2 : (xs.take (i0 + 1)).filter (fun x => !p x) = xs.take i0 := by
    rw [List.take_add_one, h2, List.filter_append, ← hfirst]
    simp [h3]
  rw [h1]
  refine hK4 _ (J_cond rfl (fun hc => by simp at hc) fun _ => J_skip ?_)
  simp only [thenQ]
  refine hK3 _ (J_seq' fun K6 hK6 => J_seq' fun K7 hK7 => J0 ?_)
  simp
  refine hK7 _ (J_block ?_)
  refine J_loop' (fun m s' => ∃ i j : Nat, ∃ C : List AV, i < j ∧ j ≤ xs.length ∧ m = xs.length - j ∧ ((xs.take j).filter fun x => !p x).length = i ∧ C.length = xs.length * 2 ∧ C.take (i * 2) = ((xs.take j).filter fun x => !p x).flatMap Cl.enc ∧ C.drop (j * 2) = (xs.drop j).flatMap Cl.enc ∧ Has [(0, .os (.h k) 2 0 xs.length), (1, .fn g caps), (4, .sl0), (5, aint i), (6, aint j)] s'.L (fun m => if m = k then some C else H m) s') (n := xs.length - (i0 + 1)) ⟨i0, i0 + 1, xs.flatMap Cl.enc, by omega, by omega, rfl, by rw [hfirst2, List.length_take]; omega, hlen, by rw [flat_take len_Cl, hfirst2], by rw [flat_drop len_Cl], ?_⟩ ?_
  · refine ⟨?_, rfl, ?_⟩
    · simp
      rw [w64 (by omega) (by omega)]
    · exact (heap_same hH).symm
  rintro m s' ⟨i, j, C, hij, hj, hm, hfl, hCl, hCt, hCd, hs'⟩ K hK
  refine J_has hs' ?_
  refine J_seq' fun K8 hK8 => J_seq' fun K9 hK9 => J0 ?_
  simp
  refine hK9 _ (J_cond rfl (fun hc => J_skip ?_) fun hc => J_exit ?_)
  · simp at hc
    obtain ⟨x, hxj⟩ : ∃ x, xs[j]? = some x := ⟨_, List.getElem?_eq_getElem (by omega)⟩
    have hmem : x ∈ xs := List.mem_of_getElem? hxj
    have hat : List.take 2 (List.drop (j * 2) C) = Cl.enc x := by
      rw [hCd, drop_at hxj, List.flatMap_cons, List.take_append_of_le_length (by rw [len_Cl]; exact Nat.le_refl _), List.take_of_length_le (by rw [len_Cl]; exact Nat.le_refl _)]
    have hCd2 : C.drop ((j + 1) * 2) = (xs.drop (j + 1)).flatMap Cl.enc := by
      rw [show (j + 1) * 2 = j * 2 + 2 from by omega, ← List.drop_drop, hCd, drop_at hxj, List.flatMap_cons, List.drop_append_of_le_length (by rw [len_Cl]; exact Nat.le_refl _), List.drop_of_length_le (by rw [len_Cl]; exact Nat.le_refl _), List.nil_append]
    simp only [thenQ, blockQ]
    refine hK8 _ (J_seq' fun K10 hK10 => J_block (J_seq' fun K11 hK11 => J0 ?_))
    simp [hat, hCl, len_Cl, kill_Cl, killL_of_noLL 7 caps hcaps]
    repeat refine And.intro (by omega) ?_
    refine hK11 _ (J_seq' fun K12 hK12 => J0 ?_)
    simp [len_Cl, take_Cl, noLL_Cl, hcaps]
    refine (hp x hmem).call ?_
    simp
    refine hK12 _ (J_cond rfl (fun hd => ?_) fun hd => J_skip ?_)
    · have hpx : p x = false := by simpa using hd
      have hf2 : (xs.take (j + 1)).filter (fun x => !p x) = (xs.take j).filter (fun x => !p x) ++ [x] := by
        rw [List.take_add_one, hxj, List.filter_append]; simp [hpx]
      refine J_seq' fun K13 hK13 => J0 ?_
      simp [len_Cl, take_Cl, noLL_Cl, hCl]
      repeat refine And.intro (by omega) ?_
      refine hK13 _ ?_
      refine J0 ?_
      simp
      refine hK10 _ (J0 ?_)
      simp
      refine hK (xs.length - (j + 1)) _ (by omega) ⟨i + 1, j + 1, C.take (i * 2) ++ (Cl.enc x ++ C.drop (i * 2 + 2)), by omega, by omega, rfl, ?_, ?_, ?_, ?_, ?_, rfl, ?_⟩
      · rw [hf2, List.length_append, hfl]; rfl
      · simp only [List.length_append, List.length_take, List.length_drop, hCl, len_Cl]; omega
      · rw [hf2, List.flatMap_append, ← hCt, ← List.append_assoc, List.take_append_of_le_length (by simp only [List.length_append, List.length_take, hCl, len_Cl]; omega), List.take_of_length_le (by simp only [List.length_append, List.length_take, hCl, len_Cl]; omega)]
        simp
      · rw [← hCd2, List.drop_append, List.drop_of_length_le (by simp only [List.length_take, hCl]; omega), List.nil_append, List.length_take, hCl, List.drop_append, List.drop_of_length_le (by rw [len_Cl]; omega), List.nil_append, len_Cl, List.drop_drop]
        congr 1
        omega
      · simp
        rw [w64 (by omega) (by omega), w64 (by omega) (by omega)]
        exact ⟨rfl, rfl⟩
      · funext m
        by_cases hm : m = k
        · subst hm; simp
        · simp [hm]
    · have hpx : p x = true := by simpa using hd
      have hf2 : (xs.take (j + 1)).filter (fun x => !p x) = (xs.take j).filter (fun x => !p x) := by
        rw [List.take_add_one, hxj, List.filter_append]; simp [hpx]
      simp only [thenQ, blockQ]
      refine hK10 _ (J0 ?_)
      simp
      refine hK (xs.length - (j + 1)) _ (by omega) ⟨i, j + 1, C, by omega, by omega, rfl, by rw [hf2, hfl], hCl, by rw [hf2, hCt], hCd2, ?_, rfl, rfl⟩
      simp
      rw [w64 (by omega) (by omega)]
  · simp at hc
    have hje : j = xs.length := by omega
    subst hje
    rw [List.take_of_length_le (Nat.le_refl _)] at hfl hCt
    simp only [thenQ, blockQ, if_true]
    refine hK6 _ ?_
    refine J_reveal 0 (l := .h k) (es := 2) (n := xs.length) (by omega) (by simp) (cs := C) (by simp) fun cap hc1 hc2 hc3 => ?_
    simp only [maxLen] at hc3
    simp
    refine J_seq' fun K14 hK14 => J0 ?_
    simp [show i < cap from by omega, hCl]
    repeat refine And.intro (by omega) ?_
    refine hK14 _ (J_seq' fun K15 hK15 => J0 ?_)
    simp
    repeat refine And.intro (by omega) ?_
    refine hK15 _ ?_
    refine J_forget 4 (l := .h k) (es := 2) (off := 0) (n := i) (cap := cap) (by simp) ?_
    simp
    refine J_trunc (.h k) (by simp; rfl) (i * 2) ?_
    simp
    refine J_ret (hF _ _ ?_)
    simp [Tryz.f201]
    rw [hfl]
    refine .mk k (.inl rfl) (fun m h1 h2 => by simp [h2]) ?_
    show (if k = k then some _ else _) = some _
    rw [if_pos rfl, List.take_append_of_le_length (by rw [List.length_take, hCl]; omega), List.take_take, Nat.min_self, hCt]
end
end Go.Proofs.YtpcpljfifipagaaGreatDoor
