/- A part of the proof: the engine that walks Go code, the walks of the broker, or their laws (Tu Tv Tw Tx Tz TA TB TC TD). -/
import Derived.Test.YtpcpljfifipagaaGreatDoorX22
import Derived.Test.YtpcpljfifipagaaGreatDoorX14
set_option linter.unusedSimpArgs false
set_option linter.unusedVariables false
set_option maxHeartbeats 8000000
set_option maxRecDepth 20000
namespace Go.Proofs.YtpcpljfifipagaaGreatDoor
open Go.Eng Go.Tv
attribute [local simp] plainOp D_36 D_42 D_33 D_50 D_77 D_37 D_24 D_25 D_26 D_27 D_28 D_87 D_30 D_54 D_46 D_89 D_105 D_103 D_102 D_35 D_101 D_80
attribute [local simp ↓] evTsR evQsh evQh
attribute [-simp] List.length_flatMap
section
def stop (e : Int) : AV := .ifc 101 (.agg [aint e])
def UnlessQ (b : Bool) (e : Int) (H : Heap) (r : AE) (H' : Heap) : Prop := H' = H ∧ if b then ∃ v, r = .ret v else r = .panic (stop e)
theorem unless_fun (b : Bool) (e : Int) (H : Heap) : PCalls Tryz.prog 179 [abool b, aint e] H (UnlessQ b e H) := by
  refine PCalls.of_J' D_ok Tryz.func179 rfl (by decide) (le' rfl) fun E QF hF => ?_
  change J _ E 9 _ _ _
  refine J_seq' fun K1 hK1 => J0 ?_
  simp
  refine hK1 _ (J_cond rfl (fun hd => ?_) fun hd => J_skip ?_)
  · have hb : b = false := by simpa using hd
    subst hb
    refine J0 ?_
    simp
    refine hF _ _ ?_
    simp [UnlessQ, stop]
  · have hb : b = true := by simpa using hd
    subst hb
    refine hF _ _ ?_
    simp [Tryz.f179, UnlessQ]
theorem fail_fun (e : Int) (H : Heap) : PCalls Tryz.prog 181 [aint e] H (UnlessQ (e == 0) e H) := by
  refine PCalls.of_J' D_ok Tryz.func181 rfl (by decide) (le' rfl) fun E QF hF => ?_
  change J _ E 7 _ _ _
  refine J_seq' fun K1 hK1 => J0 ?_
  simp
  refine hK1 _ (J_cond rfl (fun hd => ?_) fun hd => J_skip ?_)
  · have hb : (e == 0) = false := by simpa using hd
    refine J0 ?_
    simp
    refine hF _ _ ?_
    simp [UnlessQ, stop, hb]
  · have hb : (e == 0) = true := by simpa using hd
    refine hF _ _ ?_
    simp [Tryz.f181, UnlessQ, hb]
theorem unless_tt (e : Int) {H : Heap} {K : AE → Heap → Prop} (h : ∀ v, K (.ret v) H) : PCalls Tryz.prog 179 [abool true, aint e] H K := by
  refine (unless_fun true e H).mono ?_
  rintro r H' ⟨rfl, hr⟩
  simp at hr
  obtain ⟨v, rfl⟩ := hr
  exact h v
theorem unless_ff (e : Int) {H : Heap} {K : AE → Heap → Prop} (h : K (.panic (stop e)) H) : PCalls Tryz.prog 179 [abool false, aint e] H K := by
  refine (unless_fun false e H).mono ?_
  rintro r H' ⟨rfl, hr⟩
  simp at hr
  subst hr
  exact h
theorem fail_ok {H : Heap} {K : AE → Heap → Prop} (h : ∀ v, K (.ret v) H) : PCalls Tryz.prog 181 [aint 0] H K := by
  refine (fail_fun 0 H).mono ?_
  rintro r H' ⟨rfl, hr⟩
  simp at hr
  obtain ⟨v, rfl⟩ := hr
  exact h v
theorem fail_no {e : Int} (he : e ≠ 0) {H : Heap} {K : AE → Heap → Prop} (h : K (.panic (stop e)) H) : PCalls Tryz.prog 181 [aint e] H K := by
  refine (fail_fun e H).mono ?_
  rintro r H' ⟨rfl, hr⟩
  simp [he] at hr
  subst hr
  exact h
def Owns (O : List (Nat × List AV)) (F H : Heap) : Prop := (O.map (·.1)).Nodup ∧ (∀ e ∈ O, H e.1 = some e.2) ∧ ∀ m cs, F m = some cs → m ∉ O.map (·.1) ∧ H m = some cs
theorem Owns.replace {pre post : List (Nat × List AV)} {n n' : Nat} {cs cs' : List AV} {F H H' : Heap} (h : Owns (pre ++ (n, cs) :: post) F H) (hn : n' = n ∨ H n' = none) (h1 : H' n' = some cs') (h2 : ∀ m, m ≠ n → m ≠ n' → H' m = H m) : Owns (pre ++ (n', cs') :: post) F H' := by
  obtain ⟨a1, a2, a3⟩ := h
  rw [List.map_append, List.map_cons] at a1
  obtain ⟨p1, p2, p4⟩ := List.nodup_append.mp a1
  obtain ⟨p2, p3⟩ := List.nodup_cons.mp p2
  have other : ∀ e, (e ∈ pre ∨ e ∈ post) → e.1 ≠ n ∧ e.1 ≠ n' := by
    intro e he
    have hne : e.1 ≠ n := by
      rcases he with he | he
      · exact p4 e.1 (List.mem_map_of_mem he) n (List.mem_cons_self ..)
      · intro e1; exact p2 (List.mem_map.mpr ⟨e, he, e1⟩)
    refine ⟨hne, ?_⟩
    rcases hn with rfl | hn
    · exact hne
    · intro e1
      have := a2 e (List.mem_append.mpr (he.imp_right (List.mem_cons_of_mem _)))
      rw [e1, hn] at this; cases this
  have othern : ∀ m, m ∈ pre.map (·.1) ∨ m ∈ post.map (·.1) → m ≠ n ∧ m ≠ n' := by
    rintro m (hm | hm) <;> obtain ⟨e, he, rfl⟩ := List.mem_map.mp hm
    · exact other e (.inl he)
    · exact other e (.inr he)
  refine ⟨?_, ?_, ?_⟩
  · rw [List.map_append, List.map_cons]
    refine List.nodup_append.mpr ⟨p1, List.nodup_cons.mpr ⟨fun hx => (othern _ (.inr hx)).2 rfl, p3⟩, fun a ha b hb => ?_⟩
    rcases List.mem_cons.mp hb with rfl | hb
    · exact (othern a (.inl ha)).2
    · exact p4 a ha b (List.mem_cons_of_mem _ hb)
  · intro e he
    rcases List.mem_append.mp he with he | he
    · rw [h2 e.1 (other e (.inl he)).1 (other e (.inl he)).2]; exact a2 e (List.mem_append.mpr (.inl he))
    · rcases List.mem_cons.mp he with rfl | he
      · exact h1
      · rw [h2 e.1 (other e (.inr he)).1 (other e (.inr he)).2]; exact a2 e (List.mem_append.mpr (.inr (List.mem_cons_of_mem _ he)))
  · intro m c hm
    obtain ⟨b1, b2⟩ := a3 m c hm
    rw [List.map_append, List.map_cons] at b1 ⊢
    have hmn : m ≠ n := by rintro rfl; exact b1 (List.mem_append.mpr (.inr (List.mem_cons_self ..)))
    have hmn' : m ≠ n' := by
      rcases hn with rfl | hn
      · exact hmn
      · rintro rfl; rw [hn] at b2; cases b2
    refine ⟨fun hx => ?_, by rw [h2 m hmn hmn']; exact b2⟩
    rcases List.mem_append.mp hx with hx | hx
    · exact b1 (List.mem_append.mpr (.inl hx))
    · rcases List.mem_cons.mp hx with hx | hx
      · exact hmn' hx
      · exact b1 (List.mem_append.mpr (.inr (List.mem_cons_of_mem _ hx)))
structure Cl where
  name : ByteArray
  packets : List Int
  loc : Option Nat
def Cl.client (c : Cl) : Client := ⟨c.name, c.packets⟩
def Cl.enc (k : Cl) : List AV := [astr k.name, match k.loc with
  | some p => .os (.h p) 1 0 k.packets.length
  | none => .sl0]
def ClIs (P : List (Nat × List AV)) (c : Cl) : Prop := match c.loc with
  | some p => (p, c.packets.flatMap Num.enc) ∈ P
  | none => c.packets = []
def ClsAre (ks : List Client) (cs : List Cl) (P : List (Nat × List AV)) : Prop := cs.map Cl.client = ks ∧ (∀ c ∈ cs, ClIs P c) ∧ (cs.filterMap Cl.loc).Nodup
structure Turn where
  core : Core
  out : List Out
structure TN where
  x : Nat
  c : Nat
  q : Nat
  b : Nat
  s : Nat
  k : Nat
  l : Nat
  o : Nat
def crow (N : TN) (t : Core) (m : Nat) : List AV := [aint t.now, .os (.h N.q) 7 0 t.queues.length, .os (.h N.b) 2 0 t.binds.length, .os (.h N.s) 5 0 t.subs.length, .os (.h N.k) 5 0 t.kept.length, .os (.h N.l) 2 0 m]
def xrow (N : TN) (n : Nat) : List AV := [.p (.h N.c) 0, .os (.h N.o) 11 0 n]
def objs (N : TN) (t : Turn) (cls : List Cl) (P : List (Nat × List AV)) : List (Nat × List AV) :=
  (N.x, xrow N t.out.length) :: (N.c, crow N t.core cls.length) :: (N.q, t.core.queues.flatMap Queue.enc) :: (N.b, t.core.binds.flatMap Bind.enc) :: (N.s, t.core.subs.flatMap Sub.enc) :: (N.k, t.core.kept.flatMap Msg.enc) :: (N.l, cls.flatMap Cl.enc) :: (N.o, t.out.flatMap Out.enc) :: P
def TAt (N : TN) (t : Turn) (F H : Heap) : Prop := ∃ cls P, Owns (objs N t cls P) F H ∧ ClsAre t.core.clients cls P
def TurnQ (N : TN) (F : Heap) (m : Except Int Turn) (r : AE) (H' : Heap) : Prop := match m with
  | .ok t => (∃ v, r = .ret v) ∧ ∃ N', N'.x = N.x ∧ N'.c = N.c ∧ TAt N' t F H'
  | .error e => r = .panic (stop e) ∧ ∀ m cs, F m = some cs → H' m = some cs
theorem TAt.keeps {N : TN} {t : Turn} {F H : Heap} (h : TAt N t F H) : ∀ m cs, F m = some cs → H m = some cs := by
  obtain ⟨cls, P, ⟨_, _, h3⟩, _⟩ := h
  exact fun m cs hm => (h3 m cs hm).2
def tick (o : Tv.Oper) (t : Turn) : Except Int Turn :=
  if decide (0 ≤ o.n) && decide (o.n ≤ 1099511627776 - t.core.now) then .ok { t with core := { t.core with now := t.core.now + o.n } } else .error 1
theorem tick_fun (N : TN) (t : Turn) (o : Tv.Oper) (F H : Heap) (hn : 0 ≤ t.core.now ∧ t.core.now ≤ 1099511627776) (h : TAt N t F H) : PCalls Tryz.prog 132 [.p (.h N.x) 0, .agg o.enc] H (TurnQ N F (tick o t)) := by
  have hkeep := h.keeps
  obtain ⟨cls, P, hO, hcl⟩ := h
  have hx : H N.x = some (xrow N t.out.length) := hO.2.1 (N.x, xrow N t.out.length) (by simp [objs])
  have hc : H N.c = some (crow N t.core cls.length) := hO.2.1 (N.c, crow N t.core cls.length) (by simp [objs])
  have hxc : N.x ≠ N.c := by have := hO.1; simp [objs] at this; exact this.1.1
  refine PCalls.of_J' D_ok Tryz.func132 rfl (by decide) (le' rfl) fun E QF hF => ?_
  change J _ E 33 _ _ _
  refine J_seq' fun K1 hK1 => J1 3 ?_
  simp [Oper.enc, Msg.enc]
  have hw : IntKind.i64.wrap (1099511627776 - t.core.now) = 1099511627776 - t.core.now := w64 (by omega) (by omega)
  refine hK1 _ (J_seq' fun K2 hK2 => D1 3 [0,1,2,3,4,5,6,7,8,9,10,11,12,13,14,15] [16] (fun _ => []) rfl (by decide) (by decide) ?_)
  rcases Int.lt_or_le o.n 0 with e1 | e1
  · have ht : tick o t = .error 1 := by simp [tick, show ¬ 0 ≤ o.n from by omega]
    simp [e1, show ¬ 0 ≤ o.n from by omega, hx, hc, xrow, crow, hw]
    refine unless_ff 1 (hF _ _ ?_)
    simp [TurnQ, ht, stop]
    exact hkeep
  · rcases Int.lt_or_le (1099511627776 - t.core.now) o.n with e2 | e2
    · have ht : tick o t = .error 1 := by simp [tick, show ¬ o.n ≤ 1099511627776 - t.core.now from by omega]
      simp [e1, show ¬ o.n < 0 from by omega, hx, hc, xrow, crow, hw, e2, show ¬ o.n ≤ 1099511627776 - t.core.now from by omega]
      refine unless_ff 1 (hF _ _ ?_)
      simp [TurnQ, ht, stop]
      exact hkeep
    · have ht : tick o t = .ok { t with core := { t.core with now := t.core.now + o.n } } := by simp [tick, e1, e2]
      simp [e1, show ¬ o.n < 0 from by omega, hx, hc, xrow, crow, hw, e2, show ¬ 1099511627776 - t.core.now < o.n from by omega]
      refine unless_tt 1 fun v => ?_
      simp
      refine hK2 _ (D1 3 [0,1,2,3,4,5,6,7,8,9,10,11] [12] (fun _ => []) rfl (by decide) (by decide) ?_)
      simp [hx, hc, xrow, crow]
      have hw2 : IntKind.i64.wrap (t.core.now + o.n) = t.core.now + o.n := w64 (by omega) (by omega)
      rw [hw2]
      refine hF _ _ ?_
      simp [Tryz.f132, TurnQ, ht]
      refine ⟨N, rfl, rfl, cls, P, ?_, hcl⟩
      exact Owns.replace (pre := [(N.x, xrow N t.out.length)]) hO (.inl rfl) (by simp [crow]) (fun m a b => by simp [a])
end
section
attribute [local simp] D_118
theorem Owns.get {O : List (Nat × List AV)} {F H : Heap} (h : Owns O F H) (n : Nat) (cs : List AV) (hm : (n, cs) ∈ O) : H n = some cs := h.2.1 (n, cs) hm
theorem atH_fun (N : TN) (t : Turn) (F H : Heap) (hl : t.core.queues.length ≤ 2000000) (name : ByteArray) (h : TAt N t F H) : PCalls Tryz.prog 69 [.p (.h N.x) 0, astr name] H fun r H' => r = .ret (aint (atQ t.core.queues name)) ∧ H' = H := by
  obtain ⟨cls, P, hO, hcl⟩ := h
  have hx : H N.x = some (xrow N t.out.length) := hO.get _ _ (by simp [objs])
  have hc : H N.c = some (crow N t.core cls.length) := hO.get _ _ (by simp [objs])
  have hq : H N.q = some (t.core.queues.flatMap Queue.enc) := hO.get _ _ (by simp [objs])
  refine PCalls.of_J' D_ok Tryz.func69 rfl (by decide) (le' rfl) fun E QF hF => ?_
  change J _ E 14 _ _ _
  refine J_seq' fun K1 hK1 => J1 3 ?_
  simp
  refine hK1 _ (J_seq' fun K2 hK2 => J1 3 ?_)
  simp [hx, hc, xrow, crow]
  refine (indexH_Queue t.core.queues hl 142 [.vp [astr name]] rfl (nameIs name) (fun q _ => nameIs_fun q name) H N.q hq).mono ?_
  rintro e H' ⟨rfl, hHe⟩
  obtain rfl : H = H' := hHe.symm
  simp
  refine hK2 _ (J_ret (hF _ _ ?_))
  simp [Tryz.f69, atQ]
def QueueQ (qs : List Queue) (name : ByteArray) (H : Heap) (r : AE) (H' : Heap) : Prop := H' = H ∧ r = if 0 ≤ atQ qs name then .ret (aint (atQ qs name)) else .panic (stop 33)
theorem queue_fun (N : TN) (t : Turn) (F H : Heap) (hl : t.core.queues.length ≤ 2000000) (name : ByteArray) (h : TAt N t F H) : PCalls Tryz.prog 184 [.p (.h N.x) 0, astr name] H (QueueQ t.core.queues name H) := by
  refine PCalls.of_J' D_ok Tryz.func184 rfl (by decide) (le' rfl) fun E QF hF => ?_
  change J _ E 13 _ _ _
  refine J_seq' fun K1 hK1 => J0 ?_
  simp
  refine hK1 _ (J_seq' fun K2 hK2 => J0 ?_)
  simp
  refine (atH_fun N t F H hl name h).mono ?_
  rintro e H' ⟨rfl, hHe⟩
  obtain rfl : H = H' := hHe.symm
  simp
  refine hK2 _ (J_seq' fun K3 hK3 => J0 ?_)
  rcases Int.lt_or_le (atQ t.core.queues name) 0 with e | e
  · simp [show ¬ 0 ≤ atQ t.core.queues name from by omega]
    refine unless_ff 33 (hF _ _ ?_)
    simp [QueueQ, stop, show ¬ 0 ≤ atQ t.core.queues name from by omega]
  · simp [e]
    refine unless_tt 33 fun v => ?_
    simp
    refine hK3 _ (J_seq' fun K4 hK4 => J0 ?_)
    simp
    refine hK4 _ (J_ret (hF _ _ ?_))
    simp [Tryz.f184, QueueQ, e]
theorem putf_fun (N : TN) (i : Int) : PFun Tryz.prog 134 [.p (.h N.x) 0, aint i] (.fn 210 [.vp [.p (.h N.x) 0], .vp [aint i]]) := by
  refine PFun.of_J D_ok Tryz.func134 rfl (by decide) (le' rfl) fun H E QF hF => ?_
  change J _ E 6 _ _ _
  refine J_seq' fun K1 hK1 => J2 2 3 ?_
  simp
  refine hK1 _ (J_seq' fun K2 hK2 => J2 2 3 ?_)
  simp
  refine hK2 _ (J_ret (hF _ _ ?_))
  simp [Tryz.f134]
def setQ (t : Turn) (i : Nat) (q : Queue) : Turn := { t with core := { t.core with queues := t.core.queues.set i q } }
def put (t : Turn) (i : Nat) (r : Queue × Int) : Except Int Turn := if r.2 ≠ 0 then .error r.2 else .ok (setQ t i r.1)
theorem flat_set {α : Type} {enc : α → List AV} {k : Nat} (h : ∀ x, (enc x).length = k) (xs : List α) (i : Nat) (y : α) (hi : i < xs.length) : (xs.set i y).flatMap enc = (xs.flatMap enc).take (i * k) ++ (enc y ++ (xs.flatMap enc).drop (i * k + k)) := by
  rw [List.set_eq_take_append_cons_drop, if_pos hi, List.flatMap_append, List.flatMap_cons, flat_take h, ← Nat.succ_mul, flat_drop h]
theorem TAt.setQ {N : TN} {t : Turn} {F H H' : Heap} (h : TAt N t F H) {i : Nat} (hi : i < t.core.queues.length) (q : Queue) (h1 : H' N.q = some ((t.core.queues.flatMap Queue.enc).take (i * 7) ++ (q.enc ++ (t.core.queues.flatMap Queue.enc).drop (i * 7 + 7)))) (h2 : ∀ m, m ≠ N.q → H' m = H m) : TAt N (Proofs.YtpcpljfifipagaaGreatDoor.setQ t i q) F H' := by
  obtain ⟨cls, P, hO, hcl⟩ := h
  refine ⟨cls, P, ?_, hcl⟩
  have := Owns.replace (pre := [(N.x, xrow N t.out.length), (N.c, crow N t.core cls.length)]) hO (H' := H') (n' := N.q) (.inl rfl) h1 (fun m a b => h2 m a)
  rw [← flat_set len_Queue _ _ _ hi] at this
  simpa [objs, Proofs.YtpcpljfifipagaaGreatDoor.setQ, crow] using this
theorem put_fun (N : TN) (t : Turn) (F H : Heap) (q : Queue) (e : Int) (i : Nat) (hi : i < t.core.queues.length) (h : TAt N t F H) : PCalls Tryz.prog 210 [.agg q.enc, aint e, .vp [.p (.h N.x) 0], .vp [aint i]] H (TurnQ N F (put t i (q, e))) := by
  have hkeep := h.keeps
  have h0 := h
  obtain ⟨cls, P, hO, hcl⟩ := h0
  have hx : H N.x = some (xrow N t.out.length) := hO.get _ _ (by simp [objs])
  have hc : H N.c = some (crow N t.core cls.length) := hO.get _ _ (by simp [objs])
  have hq : H N.q = some (t.core.queues.flatMap Queue.enc) := hO.get _ _ (by simp [objs])
  refine PCalls.of_J' D_ok Tryz.func210 rfl (by decide) (le' rfl) fun E QF hF => ?_
  change J _ E 18 _ _ _
  refine J_seq' fun K1 hK1 => J1 4 ?_
  simp [Queue.enc]
  refine hK1 _ (J_seq' fun K2 hK2 => J1 4 ?_)
  by_cases he : e = 0
  · subst he
    simp
    refine fail_ok fun v => ?_
    simp
    refine hK2 _ (D1 4 [0,1,2,3,4,5,6,7,8,9] [10] (fun _ => []) rfl (by decide) (by decide) ?_)
    simp [hx, hc, xrow, crow, hq]
    refine ⟨by omega, by omega, hF _ _ ?_⟩
    simp [Tryz.f210, TurnQ, put]
    exact ⟨N, rfl, rfl, h.setQ hi q (by simp [Queue.enc]) (fun m a => by simp [a])⟩
  · simp
    refine fail_no he (hF _ _ ?_)
    simp [TurnQ, put, he, stop]
    exact hkeep
end
section
attribute [local simp] Heap.put D_118
structure OFit (o : Tv.Oper) : Prop where
  m : MsgFit o.msg
  q : o.queue.size ≤ 1099511627776
  t : o.text.size ≤ 1100000
theorem atQ_some {qs : List Queue} {name : ByteArray} (h : 0 ≤ atQ qs name) : ∃ i q, atQ qs name = ((i : Nat) : Int) ∧ qs[i]? = some q ∧ i < qs.length := by
  rcases idx_spec (nameIs name) qs with ⟨h1, _⟩ | ⟨i, q, h1, h2, _, _⟩
  · unfold atQ at h; rw [h1] at h; omega
  · refine ⟨i, q, h1, h2, ?_⟩
    rcases Nat.lt_or_ge i qs.length with h' | h'
    · exact h'
    · rw [List.getElem?_eq_none h'] at h2; cases h2
def withQ (t : Turn) (i : Nat) (f : Queue → Queue × Int) : Except Int Turn := match t.core.queues[i]? with
  | some q => put t i (f q)
  | none => .error 33
def settleT (o : Tv.Oper) (again : Bool) (t : Turn) : Except Int Turn :=
  if 0 ≤ atQ t.core.queues o.queue then withQ t (atQ t.core.queues o.queue).toNat fun q => settle q o.conn o.n again else .error 33
theorem TurnQ.err {N : TN} {F H : Heap} {e : Int} (h : ∀ m cs, F m = some cs → H m = some cs) : TurnQ N F (.error e) (.panic (stop e)) H := ⟨rfl, h⟩
theorem settleT_fun (N : TN) (t : Turn) (o : Tv.Oper) (again : Bool) (F H : Heap) (hf : CFit t.core) (h : TAt N t F H) : PCalls Tryz.prog 129 [.p (.h N.x) 0, .agg o.enc, abool again] H (TurnQ N F (settleT o again t)) := by
  have hkeep := h.keeps
  have h0 := h
  obtain ⟨cls, P, hO, hcl⟩ := h0
  have hx : H N.x = some (xrow N t.out.length) := hO.get _ _ (by simp [objs])
  have hc : H N.c = some (crow N t.core cls.length) := hO.get _ _ (by simp [objs])
  have hq : H N.q = some (t.core.queues.flatMap Queue.enc) := hO.get _ _ (by simp [objs])
  refine PCalls.of_J' D_ok Tryz.func129 rfl (by decide) (le' rfl) fun E QF hF => ?_
  change J _ E 38 _ _ _
  refine J_seq' fun K1 hK1 => J1 4 ?_
  simp [Oper.enc, Msg.enc]
  refine hK1 _ (J_seq' fun K2 hK2 => J1 4 ?_)
  simp
  refine (queue_fun N t F H hf.nq o.queue h).mono ?_
  rintro r H' ⟨hHe, rfl⟩
  obtain rfl : H = H' := hHe.symm
  rcases Int.lt_or_le (atQ t.core.queues o.queue) 0 with hneg | hat
  · have hat : ¬ 0 ≤ atQ t.core.queues o.queue := by omega
    rw [if_neg hat]
    refine hF _ _ ?_
    simp [settleT, hat, stop]
    exact TurnQ.err hkeep
  obtain ⟨i, q, hi, hqi, hil⟩ := atQ_some hat
  have hmem : q ∈ t.core.queues := List.mem_of_getElem? hqi
  have hs : settleT o again t = put t i (settle q o.conn o.n again) := by simp only [settleT, withQ, hi, Int.toNat_natCast, hqi]; rw [if_pos (by omega)]
  rw [if_pos hat, hi]
  have hqa := at_Queue t.core.queues hqi
  simp
  refine hK2 _ (J_seq' fun K3 hK3 => D1 4 [0,1,2,3,4,5,6,7,8,9,10,11,12,13,14,15,16,17,18,19] [20,21] (fun t => match t with | 20 => [18] | _ => []) rfl (by decide) (by decide) ?_)
  simp [hx, hc, xrow, crow, hq, hqa, noLL_Queue]
  repeat refine And.intro (by omega) ?_
  refine ⟨_, settle_fun q o.conn o.n again (hf.q q hmem), ?_⟩
  simp [len_Queue, kill_Queue]
  refine hK3 _ (D1 4 [0,1,2,3,4] [5] (fun _ => []) rfl (by decide) (by decide) ?_)
  simp
  refine ⟨_, putf_fun N i, ?_⟩
  simp [len_Queue, take_Queue, noLL_Queue]
  refine (put_fun N t F H (settle q o.conn o.n again).1 (settle q o.conn o.n again).2 i hil h).mono ?_
  rintro r H' hQ
  rw [hs] at hF
  generalize put t i (settle q o.conn o.n again) = m at hQ hF
  cases m with
  | error e =>
    obtain ⟨rfl, hk⟩ := hQ
    simp [stop]
    refine hF _ _ ?_
    simp
    exact ⟨rfl, hk⟩
  | ok t' =>
    obtain ⟨⟨v, rfl⟩, hN⟩ := hQ
    simp
    refine hF _ _ ?_
    simp [Tryz.f129]
    exact ⟨⟨_, rfl⟩, hN⟩
theorem TurnQ.split {N : TN} {F H' : Heap} {m : Except Int Turn} {r : AE} (h : TurnQ N F m r H') : (∃ e, m = .error e ∧ r = .panic (stop e) ∧ ∀ k cs, F k = some cs → H' k = some cs) ∨ ∃ t' v, m = .ok t' ∧ r = .ret v ∧ ∃ N', N'.x = N.x ∧ N'.c = N.c ∧ TAt N' t' F H' := by
  cases m with
  | error e => exact .inl ⟨e, rfl, h.1, h.2⟩
  | ok t' => obtain ⟨⟨v, hv⟩, hN⟩ := h; exact .inr ⟨t', v, rfl, hv, hN⟩
def ackT (o : Tv.Oper) (t : Turn) : Except Int Turn := settleT o false t
def nackT (o : Tv.Oper) (t : Turn) : Except Int Turn := settleT o o.auto t
theorem ackT_fun (N : TN) (t : Turn) (o : Tv.Oper) (F H : Heap) (hf : CFit t.core) (h : TAt N t F H) : PCalls Tryz.prog 128 [.p (.h N.x) 0, .agg o.enc] H (TurnQ N F (ackT o t)) := by
  refine PCalls.of_J' D_ok Tryz.func128 rfl (by decide) (le' rfl) fun E QF hF => ?_
  change J _ E 7 _ _ _
  refine J_seq' fun K1 hK1 => J1 3 ?_
  simp [len_Oper, noLL_Oper]
  refine hK1 _ (J1 3 ?_)
  simp [len_Oper, take_Oper, noLL_Oper]
  refine (settleT_fun N t o false F H hf h).mono ?_
  rintro r H' hQ
  rcases hQ.split with ⟨e, he, rfl, hk⟩ | ⟨t', v, he, rfl, hN⟩
  · simp [stop]
    refine hF _ _ ?_
    simp [ackT, he]
    exact ⟨rfl, hk⟩
  · simp
    refine hF _ _ ?_
    simp [Tryz.f128, ackT, he]
    exact ⟨⟨_, rfl⟩, hN⟩
theorem nackT_fun (N : TN) (t : Turn) (o : Tv.Oper) (F H : Heap) (hf : CFit t.core) (h : TAt N t F H) : PCalls Tryz.prog 130 [.p (.h N.x) 0, .agg o.enc] H (TurnQ N F (nackT o t)) := by
  refine PCalls.of_J' D_ok Tryz.func130 rfl (by decide) (le' rfl) fun E QF hF => ?_
  change J _ E 9 _ _ _
  refine J_seq' fun K1 hK1 => J1 3 ?_
  simp [Oper.enc, Msg.enc]
  refine hK1 _ (J1 3 ?_)
  simp
  refine PCalls.mono (show PCalls Tryz.prog 129 [.p (.h N.x) 0, .agg o.enc, abool o.auto] H _ from settleT_fun N t o o.auto F H hf h) ?_
  rintro r H' hQ
  rcases hQ.split with ⟨e, he, rfl, hk⟩ | ⟨t', v, he, rfl, hN⟩
  · simp [stop]
    refine hF _ _ ?_
    simp [nackT, he]
    exact ⟨rfl, hk⟩
  · simp
    refine hF _ _ ?_
    simp [Tryz.f130, nackT, he]
    exact ⟨⟨_, rfl⟩, hN⟩
theorem TAt.addOut {N : TN} {t : Turn} {F H H' : Heap} (h : TAt N t F H) (y : Out) (k' : Nat) (hk : k' = N.o ∨ H k' = none) (h1 : H' N.x = some [.p (.h N.c) 0, .os (.h k') 11 0 (t.out.length + 1)]) (h2 : H' k' = some (t.out.flatMap Out.enc ++ y.enc)) (h3 : ∀ m, m ≠ N.x → m ≠ N.o → m ≠ k' → H' m = H m) : ∃ N', N'.x = N.x ∧ N'.c = N.c ∧ TAt N' { t with out := t.out ++ [y] } F H' := by
  obtain ⟨cls, P, hO, hcl⟩ := h
  have hx : H N.x = some (xrow N t.out.length) := hO.get _ _ (by simp [objs])
  have hxo : N.x ≠ N.o := by
    have := hO.1
    simp only [objs, List.map_cons, List.nodup_cons, List.mem_cons, not_or] at this
    exact this.1.2.2.2.2.2.2.1
  have hkx : k' ≠ N.x := by
    rcases hk with rfl | hk
    · exact Ne.symm hxo
    · rintro rfl; rw [hx] at hk; cases hk
  refine ⟨{ N with o := k' }, rfl, rfl, cls, P, ?_, hcl⟩
  have s1 := Owns.replace (pre := [(N.x, xrow N t.out.length), (N.c, crow N t.core cls.length), (N.q, t.core.queues.flatMap Queue.enc), (N.b, t.core.binds.flatMap Bind.enc), (N.s, t.core.subs.flatMap Sub.enc), (N.k, t.core.kept.flatMap Msg.enc), (N.l, cls.flatMap Cl.enc)]) (n := N.o) (cs := t.out.flatMap Out.enc) (post := P) hO (H' := fun m => if m = N.x then H m else H' m) (n' := k') (cs' := t.out.flatMap Out.enc ++ y.enc) hk (by simp [hkx, h2]) (fun m a b => by
    by_cases e : m = N.x
    · simp [e]
    · simp [e, h3 m e a b])
  have s2 := Owns.replace (pre := []) s1 (H' := H') (n' := N.x) (cs' := [.p (.h N.c) 0, .os (.h k') 11 0 (t.out.length + 1)]) (.inl rfl) h1 (fun m a b => by simp [a])
  simpa [objs, xrow, crow, List.flatMap_append] using s2
def takeT (t : Turn) (i : Nat) (conn sub : Int) (hold : Bool) : Except Int Turn := match t.core.queues[i]? with
  | none => .error 33
  | some q =>
    let r := take q conn sub hold
    if r.2.2.2 ≠ 0 then .error r.2.2.2 else
    .ok { (setQ t i r.1) with out := t.out ++ [⟨conn, sub, r.2.1, r.1.name, r.2.2.1.again, false, r.2.2.1.msg⟩] }
theorem takeT_fun (N : TN) (t : Turn) (i : Nat) (conn sub : Int) (hold : Bool) (F H : Heap) (hf : CFit t.core) (hi : i < t.core.queues.length) (ho : t.out.length ≤ 2000000) (h : TAt N t F H) : PCalls Tryz.prog 137 [.p (.h N.x) 0, aint i, aint conn, aint sub, abool hold] H (TurnQ N F (takeT t i conn sub hold)) := by
  have hkeep := h.keeps
  have h0 := h
  obtain ⟨cls, P, hO, hcl⟩ := h0
  have hx : H N.x = some (xrow N t.out.length) := hO.get _ _ (by simp [objs])
  have hc : H N.c = some (crow N t.core cls.length) := hO.get _ _ (by simp [objs])
  have hq : H N.q = some (t.core.queues.flatMap Queue.enc) := hO.get _ _ (by simp [objs])
  obtain ⟨q, hqi⟩ : ∃ q, t.core.queues[i]? = some q := ⟨_, List.getElem?_eq_getElem hi⟩
  have hmem : q ∈ t.core.queues := List.mem_of_getElem? hqi
  have hqa := at_Queue t.core.queues hqi
  refine PCalls.of_J' D_ok Tryz.func137 rfl (by decide) (le' rfl) fun E QF hF => ?_
  change J _ E 64 _ _ _
  refine J_seq' fun K1 hK1 => J0 ?_
  simp [hx, hc, xrow, crow, hq, hqa, noLL_Queue, len_Queue]
  repeat refine And.intro (by omega) ?_
  refine (take_fun q conn sub hold (hf.q q hmem)).call ?_
  simp [kill_Queue, kill_Itm, len_Queue, len_Itm, take_Queue, take_Itm]
  have htk : takeT t i conn sub hold = (if (take q conn sub hold).2.2.2 ≠ 0 then .error (take q conn sub hold).2.2.2 else .ok { (setQ t i (take q conn sub hold).1) with out := t.out ++ [⟨conn, sub, (take q conn sub hold).2.1, (take q conn sub hold).1.name, (take q conn sub hold).2.2.1.again, false, (take q conn sub hold).2.2.1.msg⟩] }) := by
    simp only [takeT, hqi]
  rw [htk] at hF
  generalize take q conn sub hold = r at hF ⊢
  obtain ⟨q', tag, x, e⟩ := r
  simp only at hF
  refine hK1 _ ?_
  refine J_has (T := [(0, .p (.h N.x) 0), (1, aint i), (2, aint conn), (3, aint sub), (10, .p (.l 10) 0), (11, aint tag), (12, .p (.l 12) 0), (13, aint e)]) (L := [(12, x.enc), (10, q'.enc)]) (H := H) ⟨by simp, rfl, rfl⟩ ?_
  refine J_seq' fun K2 hK2 => J0 ?_
  by_cases he : e = 0
  · subst he
    simp
    refine fail_ok fun v => ?_
    simp
    refine hK2 _ (J_seq' fun K3 hK3 => D0 [0,1,2,3,4,5,6,7,8,9] [10] (fun _ => []) rfl (by decide) (by decide) ?_)
    simp [hx, hc, xrow, crow, hq, len_Queue, noLL_Queue, take_Queue]
    repeat refine And.intro (by omega) ?_
    have hT1 := h.setQ (H' := fun m => if m = N.q then some ((t.core.queues.flatMap Queue.enc).take (i * 7) ++ (q'.enc ++ (t.core.queues.flatMap Queue.enc).drop (i * 7 + 7))) else H m) hi q' (by simp) (fun m a => by simp [a])
    obtain ⟨H1, hH1⟩ : ∃ H1 : Heap, H1 = fun m => if m = N.q then some ((t.core.queues.flatMap Queue.enc).take (i * 7) ++ (q'.enc ++ (t.core.queues.flatMap Queue.enc).drop (i * 7 + 7))) else H m := ⟨_, rfl⟩
    rw [← hH1] at hT1
    refine hK3 _ (J_has (T := [(0, .p (.h N.x) 0), (2, aint conn), (3, aint sub), (10, .p (.l 10) 0), (11, aint tag), (12, .p (.l 12) 0)]) (L := [(12, x.enc), (10, q'.enc)]) (H := H1) ⟨by simp, rfl, hH1.symm⟩ ?_)
    have hT2 := hT1
    obtain ⟨cls1, P1, hO1, _⟩ := hT2
    have hx1 : H1 N.x = some (xrow N t.out.length) := hO1.get _ _ (by simp [objs, setQ])
    have ho1 : H1 N.o = some (t.out.flatMap Out.enc) := hO1.get _ _ (by simp [objs, setQ])
    have hxo : N.x ≠ N.o := by
      have := hO1.1
      simp only [objs, List.map_cons, List.nodup_cons, List.mem_cons, not_or] at this
      exact this.1.2.2.2.2.2.2.1
    refine D1 60 [0,1,2,3,4,5,6,7,8,9,10,11,12,13,14,15,17,18] [16,19] (fun t => match t with | 16 => [0,17,18] | _ => []) rfl (by decide) (by decide) ?_
    simp [hx1, ho1, xrow, Queue.enc, Itm.enc, Msg.enc, hxo]
    have go : ∀ (k' : Nat) (S : Slots) (L : List (Nat × List AV)) (H3 : Heap), (k' = N.o ∨ H1 k' = none) → H3 N.x = some [.p (.h N.c) 0, .os (.h k') 11 0 (t.out.length + 1)] → H3 k' = some (t.out.flatMap Out.enc ++ Out.enc ⟨conn, sub, tag, q'.name, x.again, false, x.msg⟩) → (∀ m, m ≠ N.x → m ≠ N.o → m ≠ k' → H3 m = H1 m) → QF .normal ⟨S, L, H3⟩ := by
      intro k' S L H3 hk g1 g2 g3
      have hfin := hT1.addOut ⟨conn, sub, tag, q'.name, x.again, false, x.msg⟩ k' hk g1 g2 g3
      refine hF _ _ ?_
      simp [Tryz.f137, TurnQ]
      exact hfin
    refine ⟨by omega, by omega, go N.o _ _ _ (.inl rfl) (by simp) (by simp [Ne.symm hxo, Out.enc, Msg.enc]) (fun m a b c => by simp [a, b]), fun k' hk' => ?_⟩
    have hxk : N.x ≠ k' := by rintro rfl; rw [hx1] at hk'; cases hk'
    simp [hxk]
    exact go k' _ _ _ (.inr hk') (by simp) (by simp [Ne.symm hxk, Out.enc, Msg.enc]) (fun m a b c => by simp [a, b, c])
  · simp
    refine fail_no he (hF _ _ ?_)
    simp [he, stop]
    exact TurnQ.err hkeep
end
section
attribute [local simp] Heap.put D_118
theorem QFit.back {q : Queue} {f : Queue × Int} : True := trivial
theorem expire_fit {q : Queue} {now : Int} (h : QFit q) : QFit (expire q now).1 := by
  unfold expire
  split
  · exact ⟨by decide, by decide, by decide, by simp [noQueue], by simp [noQueue]⟩
  · refine ⟨h.name, Nat.le_trans (List.length_filter_le _ _) h.items, h.held, fun x hx => h.im x (List.mem_filter.mp hx).1, h.hm⟩
theorem CFit.setQ {c : Core} (h : CFit c) (i : Nat) (q : Queue) (hq : QFit q) : CFit { c with queues := c.queues.set i q } := by
  refine ⟨by simpa using h.nq, h.nb, h.ns, h.nk, h.nc, fun x hx => ?_, h.b, h.k, h.c⟩
  rcases List.mem_or_eq_of_mem_set hx with hx | rfl
  · exact h.q x hx
  · exact hq
def expireT (t : Turn) (i : Nat) : Except Int Turn := withQ t i fun q => expire q t.core.now
def getT (o : Tv.Oper) (t : Turn) : Except Int Turn :=
  if !conn o.conn o.sub then .error 1 else
  if atQ t.core.queues o.queue < 0 then .error 33 else
  match expireT t (atQ t.core.queues o.queue).toNat with
  | .error e => .error e
  | .ok t1 => takeT t1 (atQ t.core.queues o.queue).toNat o.conn o.sub (!o.auto)
theorem getT_fun (N : TN) (t : Turn) (o : Tv.Oper) (F H : Heap) (hf : CFit t.core) (ho : t.out.length ≤ 2000000) (h : TAt N t F H) : PCalls Tryz.prog 127 [.p (.h N.x) 0, .agg o.enc] H (TurnQ N F (getT o t)) := by
  have hkeep := h.keeps
  have h0 := h
  obtain ⟨cls, P, hO, hcl⟩ := h0
  have hx : H N.x = some (xrow N t.out.length) := hO.get _ _ (by simp [objs])
  have hc : H N.c = some (crow N t.core cls.length) := hO.get _ _ (by simp [objs])
  have hq : H N.q = some (t.core.queues.flatMap Queue.enc) := hO.get _ _ (by simp [objs])
  refine PCalls.of_J' D_ok Tryz.func127 rfl (by decide) (le' rfl) fun E QF hF => ?_
  change J _ E 54 _ _ _
  refine J_seq' fun K1 hK1 => J1 3 ?_
  simp [Oper.enc, Msg.enc]
  refine hK1 _ (J_seq' fun K2 hK2 => J1 3 ?_)
  simp
  refine (conn_fun _ _).call ?_
  rcases Bool.eq_false_or_eq_true (conn o.conn o.sub) with hcn | hcn
  rotate_left
  · rw [hcn]
    simp
    refine unless_ff 1 (hF _ _ ?_)
    simp [getT, hcn, stop]
    exact TurnQ.err hkeep
  rw [hcn]
  simp
  refine unless_tt 1 fun v => ?_
  simp
  refine hK2 _ (J_seq' fun K3 hK3 => J1 3 ?_)
  simp
  refine (queue_fun N t F H hf.nq o.queue h).mono ?_
  rintro r H' ⟨hHe, rfl⟩
  obtain rfl : H = H' := hHe.symm
  rcases Int.lt_or_le (atQ t.core.queues o.queue) 0 with hneg | hat
  · have hat : ¬ 0 ≤ atQ t.core.queues o.queue := by omega
    rw [if_neg hat]
    refine hF _ _ ?_
    simp [getT, hcn, hneg, stop]
    exact TurnQ.err hkeep
  obtain ⟨i, q, hi, hqi, hil⟩ := atQ_some hat
  have hmem : q ∈ t.core.queues := List.mem_of_getElem? hqi
  have hqa := at_Queue t.core.queues hqi
  have hs : getT o t = match put t i (expire q t.core.now) with
    | .error e => .error e
    | .ok t1 => takeT t1 i o.conn o.sub (!o.auto) := by
    simp only [getT, hcn, expireT, withQ, hi, Int.toNat_natCast, hqi]
    rw [if_neg (by simp), if_neg (by omega)]
  rw [hs] at hF
  rw [if_pos hat, hi]
  simp
  refine hK3 _ (J_seq' fun K4 hK4 => D1 3 [0,1,2,3,4,5,6,7,8,9,10,11,12,13,14,15,16,17,18,19,20,21] [22,23] (fun t => match t with | 22 => [20] | _ => []) rfl (by decide) (by decide) ?_)
  simp [hx, hc, xrow, crow, hq, hqa, noLL_Queue]
  repeat refine And.intro (by omega) ?_
  refine ⟨_, expire_fun q t.core.now (hf.q q hmem), ?_⟩
  simp [len_Queue, kill_Queue]
  have hef := expire_fit (now := t.core.now) (hf.q q hmem)
  refine hK4 _ (J_seq' fun K5 hK5 => D1 3 [0,1,2,3,4] [5] (fun _ => []) rfl (by decide) (by decide) ?_)
  simp
  refine ⟨_, putf_fun N i, ?_⟩
  simp [len_Queue, take_Queue, noLL_Queue]
  refine (put_fun N t F H (expire q t.core.now).1 (expire q t.core.now).2 i hil h).mono ?_
  rintro r H' hQ
  by_cases he : (expire q t.core.now).2 = 0
  rotate_left
  · have hp : put t i (expire q t.core.now) = .error (expire q t.core.now).2 := by simp [put, he]
    rw [show ((expire q t.core.now).1, (expire q t.core.now).2) = expire q t.core.now from rfl, hp] at hQ
    obtain ⟨rfl, hk⟩ := hQ
    rw [hp] at hF
    simp [stop]
    refine hF _ _ ?_
    simp
    exact ⟨rfl, hk⟩
  have hp : put t i (expire q t.core.now) = .ok (setQ t i (expire q t.core.now).1) := by simp [put, he]
  rw [show ((expire q t.core.now).1, (expire q t.core.now).2) = expire q t.core.now from rfl, hp] at hQ
  obtain ⟨⟨v, rfl⟩, N1, e1, e2, hT1⟩ := hQ
  rw [hp] at hF
  simp
  refine hK5 _ (J1 3 ?_)
  simp
  rw [← e1]
  refine (takeT_fun N1 (setQ t i (expire q t.core.now).1) i o.conn o.sub (!o.auto) F H' (hf.setQ i _ hef) (by simpa [setQ] using hil) ho hT1).mono ?_
  rintro r H2 hQ
  simp only at hF
  rcases hQ.split with ⟨e, he, rfl, hk⟩ | ⟨t', v, he, rfl, N', n1, n2, hN⟩
  · simp [stop]
    refine hF _ _ ?_
    simp [he]
    exact ⟨rfl, hk⟩
  · simp
    refine hF _ _ ?_
    simp [Tryz.f127, he]
    exact ⟨⟨_, rfl⟩, N', n1.trans e1, n2.trans e2, hN⟩
end
section
attribute [local simp] Heap.put D_118 D_124 D_121
theorem objs_ne {N : TN} {t : Turn} {cls : List Cl} {P : List (Nat × List AV)} {F H : Heap} (h : Owns (objs N t cls P) F H) : N.x ≠ N.c ∧ N.x ≠ N.q ∧ N.x ≠ N.b ∧ N.x ≠ N.s ∧ N.x ≠ N.k ∧ N.x ≠ N.l ∧ N.x ≠ N.o ∧ N.c ≠ N.q ∧ N.c ≠ N.b ∧ N.c ≠ N.s ∧ N.c ≠ N.k ∧ N.c ≠ N.l ∧ N.c ≠ N.o := by
  have := h.1
  simp only [objs, List.map_cons, List.nodup_cons, List.mem_cons, not_or] at this
  obtain ⟨⟨a1, a2, a3, a4, a5, a6, a7, _⟩, ⟨b1, b2, b3, b4, b5, b6, _⟩, _⟩ := this
  exact ⟨a1, a2, a3, a4, a5, a6, a7, b1, b2, b3, b4, b5, b6⟩
theorem Owns.set_q {N : TN} {t : Turn} {cls : List Cl} {P : List (Nat × List AV)} {F H H' : Heap} (hO : Owns (objs N t cls P) F H) (xs : List Queue) (k' : Nat) (hk : k' = N.q ∨ H k' = none) (h1 : H' N.c = some (crow { N with q := k' } { t.core with queues := xs } cls.length)) (h2 : H' k' = some (xs.flatMap Queue.enc)) (h3 : ∀ m, m ≠ N.c → m ≠ N.q → m ≠ k' → H' m = H m) : Owns (objs { N with q := k' } { t with core := { t.core with queues := xs } } cls P) F H' := by
  have hc : H N.c = some (crow N t.core cls.length) := hO.get _ _ (by simp [objs])
  have hne := objs_ne hO
  have hkc : k' ≠ N.c := by
    rcases hk with rfl | hk
    · exact fun e => by simp [e] at hne
    · rintro rfl; rw [hc] at hk; cases hk
  have s1 := Owns.replace (pre := [(N.x, xrow N t.out.length), (N.c, crow N t.core cls.length)]) (n := N.q) (cs := t.core.queues.flatMap Queue.enc) hO (H' := fun m => if m = N.c then H m else H' m) (n' := k') (cs' := xs.flatMap Queue.enc) hk (by simp [hkc, h2]) (fun m a b => by
    by_cases e : m = N.c
    · simp [e]
    · simp [e, h3 m e a b])
  have s2 := Owns.replace (pre := [(N.x, xrow N t.out.length)]) s1 (H' := H') (n' := N.c) (cs' := crow { N with q := k' } { t.core with queues := xs } cls.length) (.inl rfl) h1 (fun m a b => by simp [a])
  simpa [objs, xrow, crow] using s2
theorem Owns.set_b {N : TN} {t : Turn} {cls : List Cl} {P : List (Nat × List AV)} {F H H' : Heap} (hO : Owns (objs N t cls P) F H) (xs : List Tv.Bind) (k' : Nat) (hk : k' = N.b ∨ H k' = none) (h1 : H' N.c = some (crow { N with b := k' } { t.core with binds := xs } cls.length)) (h2 : H' k' = some (xs.flatMap Bind.enc)) (h3 : ∀ m, m ≠ N.c → m ≠ N.b → m ≠ k' → H' m = H m) : Owns (objs { N with b := k' } { t with core := { t.core with binds := xs } } cls P) F H' := by
  have hc : H N.c = some (crow N t.core cls.length) := hO.get _ _ (by simp [objs])
  have hne := objs_ne hO
  have hkc : k' ≠ N.c := by
    rcases hk with rfl | hk
    · exact fun e => by simp [e] at hne
    · rintro rfl; rw [hc] at hk; cases hk
  have s1 := Owns.replace (pre := [(N.x, xrow N t.out.length), (N.c, crow N t.core cls.length), (N.q, t.core.queues.flatMap Queue.enc)]) (n := N.b) (cs := t.core.binds.flatMap Bind.enc) hO (H' := fun m => if m = N.c then H m else H' m) (n' := k') (cs' := xs.flatMap Bind.enc) hk (by simp [hkc, h2]) (fun m a b => by
    by_cases e : m = N.c
    · simp [e]
    · simp [e, h3 m e a b])
  have s2 := Owns.replace (pre := [(N.x, xrow N t.out.length)]) s1 (H' := H') (n' := N.c) (cs' := crow { N with b := k' } { t.core with binds := xs } cls.length) (.inl rfl) h1 (fun m a b => by simp [a])
  simpa [objs, xrow, crow] using s2
theorem Owns.set_s {N : TN} {t : Turn} {cls : List Cl} {P : List (Nat × List AV)} {F H H' : Heap} (hO : Owns (objs N t cls P) F H) (xs : List Tv.Sub) (k' : Nat) (hk : k' = N.s ∨ H k' = none) (h1 : H' N.c = some (crow { N with s := k' } { t.core with subs := xs } cls.length)) (h2 : H' k' = some (xs.flatMap Sub.enc)) (h3 : ∀ m, m ≠ N.c → m ≠ N.s → m ≠ k' → H' m = H m) : Owns (objs { N with s := k' } { t with core := { t.core with subs := xs } } cls P) F H' := by
  have hc : H N.c = some (crow N t.core cls.length) := hO.get _ _ (by simp [objs])
  have hne := objs_ne hO
  have hkc : k' ≠ N.c := by
    rcases hk with rfl | hk
    · exact fun e => by simp [e] at hne
    · rintro rfl; rw [hc] at hk; cases hk
  have s1 := Owns.replace (pre := [(N.x, xrow N t.out.length), (N.c, crow N t.core cls.length), (N.q, t.core.queues.flatMap Queue.enc), (N.b, t.core.binds.flatMap Bind.enc)]) (n := N.s) (cs := t.core.subs.flatMap Sub.enc) hO (H' := fun m => if m = N.c then H m else H' m) (n' := k') (cs' := xs.flatMap Sub.enc) hk (by simp [hkc, h2]) (fun m a b => by
    by_cases e : m = N.c
    · simp [e]
    · simp [e, h3 m e a b])
  have s2 := Owns.replace (pre := [(N.x, xrow N t.out.length)]) s1 (H' := H') (n' := N.c) (cs' := crow { N with s := k' } { t.core with subs := xs } cls.length) (.inl rfl) h1 (fun m a b => by simp [a])
  simpa [objs, xrow, crow] using s2
theorem Owns.set_k {N : TN} {t : Turn} {cls : List Cl} {P : List (Nat × List AV)} {F H H' : Heap} (hO : Owns (objs N t cls P) F H) (xs : List Msg) (k' : Nat) (hk : k' = N.k ∨ H k' = none) (h1 : H' N.c = some (crow { N with k := k' } { t.core with kept := xs } cls.length)) (h2 : H' k' = some (xs.flatMap Msg.enc)) (h3 : ∀ m, m ≠ N.c → m ≠ N.k → m ≠ k' → H' m = H m) : Owns (objs { N with k := k' } { t with core := { t.core with kept := xs } } cls P) F H' := by
  have hc : H N.c = some (crow N t.core cls.length) := hO.get _ _ (by simp [objs])
  have hne := objs_ne hO
  have hkc : k' ≠ N.c := by
    rcases hk with rfl | hk
    · exact fun e => by simp [e] at hne
    · rintro rfl; rw [hc] at hk; cases hk
  have s1 := Owns.replace (pre := [(N.x, xrow N t.out.length), (N.c, crow N t.core cls.length), (N.q, t.core.queues.flatMap Queue.enc), (N.b, t.core.binds.flatMap Bind.enc), (N.s, t.core.subs.flatMap Sub.enc)]) (n := N.k) (cs := t.core.kept.flatMap Msg.enc) hO (H' := fun m => if m = N.c then H m else H' m) (n' := k') (cs' := xs.flatMap Msg.enc) hk (by simp [hkc, h2]) (fun m a b => by
    by_cases e : m = N.c
    · simp [e]
    · simp [e, h3 m e a b])
  have s2 := Owns.replace (pre := [(N.x, xrow N t.out.length)]) s1 (H' := H') (n' := N.c) (cs' := crow { N with k := k' } { t.core with kept := xs } cls.length) (.inl rfl) h1 (fun m a b => by simp [a])
  simpa [objs, xrow, crow] using s2
def connIs (c : Int) (s : Tv.Sub) : Bool := s.conn == c
theorem connIs_fun (s : Tv.Sub) (o : Tv.Oper) : PFun Tryz.prog 208 [.agg s.enc, .vp o.enc] (abool (connIs o.conn s)) := by
  refine PFun.of_J D_ok Tryz.func208 rfl (by decide) (le' rfl) fun H E QF hF => ?_
  change J _ E 9 _ _ _
  refine J_seq' fun K1 hK1 => J1 2 ?_
  simp [Sub.enc]
  refine hK1 _ (J_seq' fun K2 hK2 => J1 2 ?_)
  simp [Oper.enc]
  refine hK2 _ (J_ret (hF _ _ ?_))
  simp [Tryz.f208, connIs]
end
section
attribute [local simp] Heap.put D_118 D_124 D_121
theorem insAt_mem {α : Type} {i : Nat} {y : α} {xs : List α} {z : α} (h : z ∈ insAt i y xs) : z = y ∨ z ∈ xs := by
  simp only [insAt, List.mem_append, List.mem_cons] at h
  rcases h with h | h | h
  · exact .inr (List.mem_of_mem_take h)
  · exact .inl h
  · exact .inr (List.mem_of_mem_drop h)
theorem noQueue_fit : QFit noQueue := ⟨by decide, by decide, by decide, by simp [noQueue], by simp [noQueue]⟩
theorem relStep_msgs {c s : Int} {o : Queue} {h : Hold} (h1 : ∀ x ∈ o.items, MsgFit x.msg) (h2 : ∀ x ∈ o.held, MsgFit x.item.msg) (h3 : MsgFit h.item.msg) : (∀ x ∈ (relStep c s o h).items, MsgFit x.msg) ∧ (∀ x ∈ (relStep c s o h).held, MsgFit x.item.msg) ∧ (relStep c s o h).name = o.name := by
  unfold relStep
  split
  · refine ⟨fun x hx => ?_, h2, rfl⟩
    rcases insAt_mem hx with rfl | hx
    · exact h3
    · exact h1 x hx
  · refine ⟨h1, fun x hx => ?_, rfl⟩
    rcases List.mem_append.mp hx with hx | hx
    · exact h2 x hx
    · simp at hx; subst hx; exact h3
theorem relFold_fit {c s : Int} : ∀ (hs : List Hold) (o : Queue), (∀ x ∈ o.items, MsgFit x.msg) → (∀ x ∈ o.held, MsgFit x.item.msg) → (∀ x ∈ hs, MsgFit x.item.msg) → (∀ x ∈ (hs.foldl (relStep c s) o).items, MsgFit x.msg) ∧ (∀ x ∈ (hs.foldl (relStep c s) o).held, MsgFit x.item.msg) ∧ (hs.foldl (relStep c s) o).name = o.name ∧ (hs.foldl (relStep c s) o).items.length + (hs.foldl (relStep c s) o).held.length = o.items.length + o.held.length + hs.length
  | [], o, h1, h2, _ => ⟨h1, h2, rfl, by simp⟩
  | h :: hs, o, h1, h2, h3 => by
    obtain ⟨a1, a2, a3⟩ := relStep_msgs (c := c) (s := s) h1 h2 (h3 h (by simp))
    obtain ⟨b1, b2, b3, b4⟩ := relFold_fit hs (relStep c s o h) a1 a2 (fun x hx => h3 x (by simp [hx]))
    refine ⟨b1, b2, b3.trans a3, ?_⟩
    rw [List.foldl_cons, b4, relStep_len]
    simp only [List.length_cons]
    omega
theorem release_fit {q : Queue} {c s : Int} (h : QFit q) : QFit (release q c s).1 := by
  unfold release
  split
  · exact noQueue_fit
  · rename_i hg
    have hg' : qGood q = true := by simpa using hg
    have hl := good_len hg'
    obtain ⟨b1, b2, b3, b4⟩ := relFold_fit (c := c) (s := s) q.held { q with held := [] } h.im (by simp) h.hm
    simp only [List.length_nil, Nat.add_zero] at b4
    have b5 : (List.foldl (relStep c s) { q with held := [] } q.held).items.length ≤ 2000000 := by have := h.items; have := h.held; omega
    have b6 : (List.foldl (relStep c s) { q with held := [] } q.held).held.length ≤ 2000000 := by have := h.items; have := h.held; omega
    exact ⟨by rw [b3]; exact h.name, b5, b6, b1, b2⟩
def subIs (c s : Int) (x : Tv.Sub) : Bool := (x.conn == c) && (x.sub == s)
theorem subIs_fun (x : Tv.Sub) (o : Tv.Oper) : PFun Tryz.prog 205 [.agg x.enc, .vp o.enc] (abool (subIs o.conn o.sub x)) := by
  refine PFun.of_J D_ok Tryz.func205 rfl (by decide) (le' rfl) fun H E QF hF => ?_
  change J _ E 16 _ _ _
  refine J_seq' fun K1 hK1 => J1 2 ?_
  simp [Sub.enc]
  refine hK1 _ (J_seq' fun K2 hK2 => J1 2 ?_)
  by_cases e : x.conn = o.conn
  · simp [Oper.enc, e]
    refine hK2 _ (J_ret (hF _ _ ?_))
    simp [Tryz.f205, subIs, e]
  · simp [Oper.enc, e]
    refine hK2 _ (J_ret (hF _ _ ?_))
    simp [Tryz.f205, subIs, e]
def unsubT (o : Tv.Oper) (t : Turn) : Except Int Turn :=
  match t.core.subs[(idx (subIs o.conn o.sub) t.core.subs).toNat]? with
  | none => .error 33
  | some s =>
    if idx (subIs o.conn o.sub) t.core.subs < 0 then .error 33 else
    if atQ t.core.queues s.queue < 0 then .error 33 else
    withQ { t with core := { t.core with subs := t.core.subs.eraseIdx (idx (subIs o.conn o.sub) t.core.subs).toNat } } (atQ t.core.queues s.queue).toNat fun q => release q o.conn o.sub
theorem unsubT_fun (N : TN) (t : Turn) (o : Tv.Oper) (F H : Heap) (hf : CFit t.core) (h : TAt N t F H) : PCalls Tryz.prog 126 [.p (.h N.x) 0, .agg o.enc] H (TurnQ N F (unsubT o t)) := by
  have hkeep := h.keeps
  have h0 := h
  obtain ⟨cls, P, hO, hcl⟩ := h0
  have hx : H N.x = some (xrow N t.out.length) := hO.get _ _ (by simp [objs])
  have hc : H N.c = some (crow N t.core cls.length) := hO.get _ _ (by simp [objs])
  have hq : H N.q = some (t.core.queues.flatMap Queue.enc) := hO.get _ _ (by simp [objs])
  have hsb : H N.s = some (t.core.subs.flatMap Sub.enc) := hO.get _ _ (by simp [objs])
  have hne := objs_ne hO
  refine PCalls.of_J' D_ok Tryz.func126 rfl (by decide) (le' rfl) fun E QF hF => ?_
  change J _ E 74 _ _ _
  refine J_seq' fun K1 hK1 => J1 3 ?_
  simp [len_Oper, noLL_Oper]
  refine hK1 _ (J_seq' fun K2 hK2 => J1 3 ?_)
  simp [hx, hc, xrow, crow, noLL_Oper]
  refine (indexH_Sub t.core.subs hf.ns 205 [.vp o.enc] rfl (subIs o.conn o.sub) (fun s _ => subIs_fun s o) H N.s hsb).mono ?_
  rintro e H' ⟨rfl, hHe⟩
  obtain rfl : H = H' := hHe.symm
  simp
  refine hK2 _ (J_seq' fun K3 hK3 => J1 3 ?_)
  rcases idx_spec (subIs o.conn o.sub) t.core.subs with ⟨i1, i2⟩ | ⟨j, s, i1, i2, i3, _⟩
  · simp [i1]
    refine unless_ff 33 (hF _ _ ?_)
    have hs : unsubT o t = .error 33 := by
      simp only [unsubT, i1]
      split
      · rfl
      · rfl
    simp [hs, stop]
    exact TurnQ.err hkeep
  have hjl : j < t.core.subs.length := by
    rcases Nat.lt_or_ge j t.core.subs.length with h | h
    · exact h
    · rw [List.getElem?_eq_none h] at i2; cases i2
  have hsa := at_Sub t.core.subs i2
  have hns := hf.ns
  simp [i1]
  refine unless_tt 33 fun v => ?_
  simp
  refine hK3 _ (J_seq' fun K4 hK4 => J1 3 ?_)
  have hsa2 : List.drop (j * 5 + 2) (t.core.subs.flatMap Sub.enc) = astr s.queue :: List.drop (j * 5 + 3) (t.core.subs.flatMap Sub.enc) := by
    have e1 : List.take 1 (List.drop (j * 5 + 2) (t.core.subs.flatMap Sub.enc)) = [astr s.queue] := by rw [sub_at hsa (by omega)]; rfl
    have e2 := List.take_append_drop 1 (List.drop (j * 5 + 2) (t.core.subs.flatMap Sub.enc))
    rw [e1, List.drop_drop] at e2
    exact e2.symm
  simp [hx, hc, xrow, crow, hsb, hsa2]
  repeat refine And.intro (by omega) ?_
  refine (queue_fun N t F H hf.nq s.queue h).mono ?_
  rintro r H' ⟨hHe, rfl⟩
  obtain rfl : H = H' := hHe.symm
  rcases Int.lt_or_le (atQ t.core.queues s.queue) 0 with hneg | hat
  · have hat : ¬ 0 ≤ atQ t.core.queues s.queue := by omega
    rw [if_neg hat]
    refine hF _ _ ?_
    have hs : unsubT o t = .error 33 := by
      simp only [unsubT, i1, Int.toNat_natCast, i2]
      rw [if_neg (by omega), if_pos hneg]
    simp [hs, stop]
    exact TurnQ.err hkeep
  obtain ⟨i, q, hi, hqi, hil⟩ := atQ_some hat
  have hmem : q ∈ t.core.queues := List.mem_of_getElem? hqi
  have hqa := at_Queue t.core.queues hqi
  let t1 : Turn := { t with core := { t.core with subs := t.core.subs.eraseIdx j } }
  have hs : unsubT o t = put t1 i (release q o.conn o.sub) := by
    simp only [unsubT, i1, Int.toNat_natCast, i2, hi, withQ, hqi]
    rw [if_neg (by omega), if_neg (by omega)]
  rw [hs] at hF
  rw [if_pos hat, hi]
  simp
  refine hK4 _ (J_seq' fun K5 hK5 => D1 3 [0,1,2,3,4,5,6,7,8,9,10,11,12,13,15,16] [14,17] (fun t => match t with | 14 => [0,1,2,3,15,16] | _ => []) rfl (by decide) (by decide) ?_)
  simp [hx, hc, xrow, crow]
  have hwj : IntKind.i64.wrap ((j : Int) + 1) = (j : Int) + 1 := w64 (by omega) (by omega)
  rw [hwj]
  refine (del_Sub t.core.subs hf.ns j hjl H N.s hsb).mono ?_
  rintro r H1 ⟨k', hk', rfl, hfr, hcl'⟩
  have hkc : k' ≠ N.c := by
    rcases hk' with rfl | hk'
    · exact fun e => by simp [e] at hne
    · rintro rfl; rw [hc] at hk'; cases hk'
  have hkx : k' ≠ N.x := by
    rcases hk' with rfl | hk'
    · exact fun e => by simp [e] at hne
    · rintro rfl; rw [hx] at hk'; cases hk'
  have hc1 : H1 N.c = some (crow N t.core cls.length) := by rw [hfr N.c hne.2.2.2.2.2.2.2.2.2.1 (Ne.symm hkc), hc]
  have hx1 : H1 N.x = some (xrow N t.out.length) := by rw [hfr N.x hne.2.2.2.1 (Ne.symm hkx), hx]
  simp [hc1, hx1, xrow, crow]
  refine ⟨⟨True, _, ⟨trivial, rfl⟩, trivial, rfl⟩, ?_⟩
  have hO2 := hO.set_s (H' := fun m => if m = N.c then some (crow { N with s := k' } { t.core with subs := t.core.subs.eraseIdx j } cls.length) else H1 m) (t.core.subs.eraseIdx j) k' hk' (by simp) (by simp [hkc, hcl']) (fun m a b c => by simp [a, hfr m b c])
  obtain ⟨H2, hH2⟩ : ∃ H2 : Heap, H2 = fun m => if m = N.c then some (crow { N with s := k' } { t.core with subs := t.core.subs.eraseIdx j } cls.length) else H1 m := ⟨_, rfl⟩
  rw [← hH2] at hO2
  have hT2 : TAt { N with s := k' } t1 F H2 := ⟨cls, P, hO2, hcl⟩
  have hx2 : H2 N.x = some (xrow N t.out.length) := hO2.get _ _ (by simp [objs, xrow])
  have hc2 : H2 N.c = some (crow { N with s := k' } t1.core cls.length) := hO2.get _ _ (by simp [objs, t1])
  have hq2 : H2 N.q = some (t.core.queues.flatMap Queue.enc) := hO2.get _ _ (by simp [objs])
  refine hK5 _ (J_has (T := [(0, .p (.h N.x) 0), (3, .vp o.enc), (5, aint i)]) (L := []) (H := H2) ⟨by simp, by simp, by rw [hH2]; simp [crow, List.length_eraseIdx, hjl]⟩ ?_)
  refine J_seq' fun K6 hK6 => D1 3 [0,1,2,3,4,5,6,7,8,9,10,11,12,13,14,15,16,17,18] [19,20] (fun t => match t with | 19 => [17] | _ => []) rfl (by decide) (by decide) ?_
  simp [hx2, hc2, xrow, crow, t1, hq2, hqa, noLL_Queue, Oper.enc]
  repeat refine And.intro (by omega) ?_
  refine ⟨_, release_fun q o.conn o.sub (hf.q q hmem), ?_⟩
  simp [len_Queue, kill_Queue]
  refine hK6 _ (D1 3 [0,1,2,3,4] [5] (fun _ => []) rfl (by decide) (by decide) ?_)
  simp
  refine ⟨_, putf_fun N i, ?_⟩
  simp [len_Queue, take_Queue, noLL_Queue]
  refine (put_fun _ t1 F H2 (release q o.conn o.sub).1 (release q o.conn o.sub).2 i hil hT2).mono ?_
  rintro r H' hQ
  rcases hQ.split with ⟨e, he, rfl, hk⟩ | ⟨t', v, he, rfl, N', n1, n2, hN⟩
  · simp [stop]
    refine hF _ _ ?_
    simp [he]
    exact ⟨rfl, hk⟩
  · simp
    refine hF _ _ ?_
    simp [Tryz.f126, he]
    exact ⟨⟨_, rfl⟩, N', n1, n2, hN⟩
end
section
attribute [local simp] Heap.put D_118 D_124 D_121
theorem row_q {N : TN} {t : Turn} {cls : List Cl} {P : List (Nat × List AV)} {F H H1 : Heap} {r : AE} {n : Nat} (hO : Owns (objs N t cls P) F H) (hcl : ClsAre t.core.clients cls P) (xs : List Queue) (hn : n = xs.length) (h : OwnRow 7 H N.q n (xs.flatMap Queue.enc) r H1) : ∃ k', r = .ret (.os (.h k') 7 0 xs.length) ∧ H1 N.x = some (xrow N t.out.length) ∧ H1 N.c = some (crow N t.core cls.length) ∧ TAt { N with q := k' } { t with core := { t.core with queues := xs } } F (fun m => if m = N.c then some (crow { N with q := k' } { t.core with queues := xs } cls.length) else H1 m) := by
  subst hn
  obtain ⟨k', hk', rfl, hfr, hcl'⟩ := h
  have hx : H N.x = some (xrow N t.out.length) := hO.get _ _ (by simp [objs])
  have hc : H N.c = some (crow N t.core cls.length) := hO.get _ _ (by simp [objs])
  have hne := objs_ne hO
  have hkc : k' ≠ N.c := by
    rcases hk' with rfl | hk'
    · exact fun e => by simp [e] at hne
    · rintro rfl; rw [hc] at hk'; cases hk'
  have hkx : k' ≠ N.x := by
    rcases hk' with rfl | hk'
    · exact fun e => by simp [e] at hne
    · rintro rfl; rw [hx] at hk'; cases hk'
  refine ⟨k', rfl, ?_, ?_, cls, P, hO.set_q (H' := _) xs k' hk' (by simp) (by simp [hkc, hcl']) (fun m a b c => by simp [a, hfr m b c]), hcl⟩
  · rw [hfr N.x hne.2.1 (Ne.symm hkx), hx]
  · rw [hfr N.c hne.2.2.2.2.2.2.2.1 (Ne.symm hkc), hc]
theorem row_b {N : TN} {t : Turn} {cls : List Cl} {P : List (Nat × List AV)} {F H H1 : Heap} {r : AE} {n : Nat} (hO : Owns (objs N t cls P) F H) (hcl : ClsAre t.core.clients cls P) (xs : List Tv.Bind) (hn : n = xs.length) (h : OwnRow 2 H N.b n (xs.flatMap Bind.enc) r H1) : ∃ k', r = .ret (.os (.h k') 2 0 xs.length) ∧ H1 N.x = some (xrow N t.out.length) ∧ H1 N.c = some (crow N t.core cls.length) ∧ TAt { N with b := k' } { t with core := { t.core with binds := xs } } F (fun m => if m = N.c then some (crow { N with b := k' } { t.core with binds := xs } cls.length) else H1 m) := by
  subst hn
  obtain ⟨k', hk', rfl, hfr, hcl'⟩ := h
  have hx : H N.x = some (xrow N t.out.length) := hO.get _ _ (by simp [objs])
  have hc : H N.c = some (crow N t.core cls.length) := hO.get _ _ (by simp [objs])
  have hne := objs_ne hO
  have hkc : k' ≠ N.c := by
    rcases hk' with rfl | hk'
    · exact fun e => by simp [e] at hne
    · rintro rfl; rw [hc] at hk'; cases hk'
  have hkx : k' ≠ N.x := by
    rcases hk' with rfl | hk'
    · exact fun e => by simp [e] at hne
    · rintro rfl; rw [hx] at hk'; cases hk'
  refine ⟨k', rfl, ?_, ?_, cls, P, hO.set_b (H' := _) xs k' hk' (by simp) (by simp [hkc, hcl']) (fun m a b c => by simp [a, hfr m b c]), hcl⟩
  · rw [hfr N.x hne.2.2.1 (Ne.symm hkx), hx]
  · rw [hfr N.c hne.2.2.2.2.2.2.2.2.1 (Ne.symm hkc), hc]
theorem row_s {N : TN} {t : Turn} {cls : List Cl} {P : List (Nat × List AV)} {F H H1 : Heap} {r : AE} {n : Nat} (hO : Owns (objs N t cls P) F H) (hcl : ClsAre t.core.clients cls P) (xs : List Tv.Sub) (hn : n = xs.length) (h : OwnRow 5 H N.s n (xs.flatMap Sub.enc) r H1) : ∃ k', r = .ret (.os (.h k') 5 0 xs.length) ∧ H1 N.x = some (xrow N t.out.length) ∧ H1 N.c = some (crow N t.core cls.length) ∧ TAt { N with s := k' } { t with core := { t.core with subs := xs } } F (fun m => if m = N.c then some (crow { N with s := k' } { t.core with subs := xs } cls.length) else H1 m) := by
  subst hn
  obtain ⟨k', hk', rfl, hfr, hcl'⟩ := h
  have hx : H N.x = some (xrow N t.out.length) := hO.get _ _ (by simp [objs])
  have hc : H N.c = some (crow N t.core cls.length) := hO.get _ _ (by simp [objs])
  have hne := objs_ne hO
  have hkc : k' ≠ N.c := by
    rcases hk' with rfl | hk'
    · exact fun e => by simp [e] at hne
    · rintro rfl; rw [hc] at hk'; cases hk'
  have hkx : k' ≠ N.x := by
    rcases hk' with rfl | hk'
    · exact fun e => by simp [e] at hne
    · rintro rfl; rw [hx] at hk'; cases hk'
  refine ⟨k', rfl, ?_, ?_, cls, P, hO.set_s (H' := _) xs k' hk' (by simp) (by simp [hkc, hcl']) (fun m a b c => by simp [a, hfr m b c]), hcl⟩
  · rw [hfr N.x hne.2.2.2.1 (Ne.symm hkx), hx]
  · rw [hfr N.c hne.2.2.2.2.2.2.2.2.2.1 (Ne.symm hkc), hc]
theorem row_k {N : TN} {t : Turn} {cls : List Cl} {P : List (Nat × List AV)} {F H H1 : Heap} {r : AE} {n : Nat} (hO : Owns (objs N t cls P) F H) (hcl : ClsAre t.core.clients cls P) (xs : List Msg) (hn : n = xs.length) (h : OwnRow 5 H N.k n (xs.flatMap Msg.enc) r H1) : ∃ k', r = .ret (.os (.h k') 5 0 xs.length) ∧ H1 N.x = some (xrow N t.out.length) ∧ H1 N.c = some (crow N t.core cls.length) ∧ TAt { N with k := k' } { t with core := { t.core with kept := xs } } F (fun m => if m = N.c then some (crow { N with k := k' } { t.core with kept := xs } cls.length) else H1 m) := by
  subst hn
  obtain ⟨k', hk', rfl, hfr, hcl'⟩ := h
  have hx : H N.x = some (xrow N t.out.length) := hO.get _ _ (by simp [objs])
  have hc : H N.c = some (crow N t.core cls.length) := hO.get _ _ (by simp [objs])
  have hne := objs_ne hO
  have hkc : k' ≠ N.c := by
    rcases hk' with rfl | hk'
    · exact fun e => by simp [e] at hne
    · rintro rfl; rw [hc] at hk'; cases hk'
  have hkx : k' ≠ N.x := by
    rcases hk' with rfl | hk'
    · exact fun e => by simp [e] at hne
    · rintro rfl; rw [hx] at hk'; cases hk'
  refine ⟨k', rfl, ?_, ?_, cls, P, hO.set_k (H' := _) xs k' hk' (by simp) (by simp [hkc, hcl']) (fun m a b c => by simp [a, hfr m b c]), hcl⟩
  · rw [hfr N.x hne.2.2.2.2.1 (Ne.symm hkx), hx]
  · rw [hfr N.c hne.2.2.2.2.2.2.2.2.2.2.1 (Ne.symm hkc), hc]
def PutQ (N : TN) (F : Heap) (m : Except Int Turn) (r : AE) (H' : Heap) : Prop := match m with
  | .ok t => (∃ v, r = .ret v) ∧ TAt N t F H'
  | .error e => r = .panic (stop e) ∧ ∀ m cs, F m = some cs → H' m = some cs
theorem putN_fun (N : TN) (t : Turn) (F H : Heap) (q : Queue) (e : Int) (i : Nat) (hi : i < t.core.queues.length) (h : TAt N t F H) : PCalls Tryz.prog 210 [.agg q.enc, aint e, .vp [.p (.h N.x) 0], .vp [aint i]] H (PutQ N F (put t i (q, e))) := by
  have hkeep := h.keeps
  have h0 := h
  obtain ⟨cls, P, hO, hcl⟩ := h0
  have hx : H N.x = some (xrow N t.out.length) := hO.get _ _ (by simp [objs])
  have hc : H N.c = some (crow N t.core cls.length) := hO.get _ _ (by simp [objs])
  have hq : H N.q = some (t.core.queues.flatMap Queue.enc) := hO.get _ _ (by simp [objs])
  refine PCalls.of_J' D_ok Tryz.func210 rfl (by decide) (le' rfl) fun E QF hF => ?_
  change J _ E 18 _ _ _
  refine J_seq' fun K1 hK1 => J1 4 ?_
  simp [Queue.enc]
  refine hK1 _ (J_seq' fun K2 hK2 => J1 4 ?_)
  by_cases he : e = 0
  · subst he
    simp
    refine fail_ok fun v => ?_
    simp
    refine hK2 _ (D1 4 [0,1,2,3,4,5,6,7,8,9] [10] (fun _ => []) rfl (by decide) (by decide) ?_)
    simp [hx, hc, xrow, crow, hq]
    refine ⟨by omega, by omega, hF _ _ ?_⟩
    simp [Tryz.f210, PutQ, put]
    exact h.setQ hi q (by simp [Queue.enc]) (fun m a => by simp [a])
  · simp
    refine fail_no he (hF _ _ ?_)
    simp [PutQ, put, he, stop]
    exact hkeep
theorem PutQ.split {N : TN} {F H' : Heap} {m : Except Int Turn} {r : AE} (h : PutQ N F m r H') : (∃ e, m = .error e ∧ r = .panic (stop e) ∧ ∀ k cs, F k = some cs → H' k = some cs) ∨ ∃ t' v, m = .ok t' ∧ r = .ret v ∧ TAt N t' F H' := by
  cases m with
  | error e => exact .inl ⟨e, rfl, h.1, h.2⟩
  | ok t' => obtain ⟨⟨v, hv⟩, hN⟩ := h; exact .inr ⟨t', v, rfl, hv, hN⟩
def stepsQ (f : Turn → Nat → Except Int Turn) : Nat → Nat → Turn → Except Int Turn
  | 0, _, t => .ok t
  | n + 1, i, t => match f t i with
    | .error e => .error e
    | .ok t' => stepsQ f n (i + 1) t'
def relT (c : Int) (t : Turn) (i : Nat) : Except Int Turn := withQ t i fun q => release q c (-1)
def detachT (o : Tv.Oper) (t : Turn) : Except Int Turn :=
  if !conn o.conn 0 then .error 1 else
  stepsQ (relT o.conn) t.core.queues.length 0 { t with core := { t.core with subs := t.core.subs.filter fun s => !connIs o.conn s } }
theorem put_len {t t' : Turn} {i : Nat} {r : Queue × Int} (h : put t i r = .ok t') : t'.core.queues.length = t.core.queues.length := by
  unfold put at h
  split at h
  · cases h
  · cases h; simp [setQ]
theorem put_fit {t t' : Turn} {i : Nat} {r : Queue × Int} (h : put t i r = .ok t') (hf : CFit t.core) (hr : QFit r.1) : CFit t'.core := by
  unfold put at h
  split at h
  · cases h
  · cases h; exact hf.setQ i _ hr
theorem detachT_fun (N : TN) (t : Turn) (o : Tv.Oper) (F H : Heap) (hf : CFit t.core) (h : TAt N t F H) : PCalls Tryz.prog 131 [.p (.h N.x) 0, .agg o.enc] H (TurnQ N F (detachT o t)) := by
  have hkeep := h.keeps
  have h0 := h
  obtain ⟨cls, P, hO, hcl⟩ := h0
  have hx : H N.x = some (xrow N t.out.length) := hO.get _ _ (by simp [objs])
  have hc : H N.c = some (crow N t.core cls.length) := hO.get _ _ (by simp [objs])
  have hsb : H N.s = some (t.core.subs.flatMap Sub.enc) := hO.get _ _ (by simp [objs])
  refine PCalls.of_J' D_ok Tryz.func131 rfl (by decide) (le' rfl) fun E QF hF => ?_
  change J _ E 60 _ _ _
  refine J_seq' fun K1 hK1 => J1 3 ?_
  simp [Oper.enc, Msg.enc]
  refine hK1 _ (J_seq' fun K2 hK2 => J1 3 ?_)
  simp
  refine (conn_fun _ _).call ?_
  rcases Bool.eq_false_or_eq_true (conn o.conn 0) with hcn | hcn
  rotate_left
  · rw [hcn]
    simp
    refine unless_ff 1 (hF _ _ ?_)
    simp [detachT, hcn, stop]
    exact TurnQ.err hkeep
  rw [hcn]
  simp
  refine unless_tt 1 fun v => ?_
  simp
  refine hK2 _ (J_seq' fun K3 hK3 => D1 3 [0,1,2,3,4,5,6,7,8,9,10,11,13,14] [12,15] (fun t => match t with | 12 => [0,1,2,3,13,14] | _ => []) rfl (by decide) (by decide) ?_)
  simp [hx, hc, xrow, crow]
  have hfs := delf_Sub t.core.subs hf.ns 208 [.vp o.enc] (by simp [noLL_Oper]) (connIs o.conn) (fun s _ => connIs_fun s o) H N.s hsb
  simp only [Oper.enc, Msg.enc, List.append_assoc, List.cons_append, List.nil_append] at hfs
  refine hfs.mono ?_
  rintro r H1 hrow
  obtain ⟨k', rfl, hx1, hc1, hT⟩ := row_s hO hcl _ rfl hrow
  simp [hc1, hx1, xrow, crow]
  refine ⟨⟨True, _, ⟨trivial, rfl⟩, trivial, rfl⟩, ?_⟩
  let t1 : Turn := { t with core := { t.core with subs := t.core.subs.filter fun s => !connIs o.conn s } }
  have hf1 : CFit t1.core := ⟨hf.nq, hf.nb, Nat.le_trans (List.length_filter_le _ _) hf.ns, hf.nk, hf.nc, hf.q, hf.b, hf.k, hf.c⟩
  have hres : detachT o t = stepsQ (relT o.conn) t.core.queues.length 0 t1 := by simp [detachT, hcn, t1]
  rw [hres] at hF
  change TAt _ t1 F _ at hT
  obtain ⟨H2, hH2⟩ : ∃ H2 : Heap, H2 = fun m => if m = N.c then some (crow { N with s := k' } t1.core cls.length) else H1 m := ⟨_, rfl⟩
  have hT2 : TAt { N with s := k' } t1 F H2 := by rw [hH2]; exact hT
  have hT3 := hT2
  obtain ⟨cls2, P2, hO2, hcl2⟩ := hT3
  have hx2 : H2 N.x = some (xrow N t.out.length) := hO2.get _ _ (by simp [objs, xrow, t1])
  have hc2 : H2 N.c = some (crow { N with s := k' } t1.core cls2.length) := hO2.get _ _ (by simp [objs, t1])
  refine hK3 _ (J_has (T := [(0, .p (.h N.x) 0), (3, .vp o.enc)]) (L := []) (H := H2) ⟨by simp [Oper.enc, Msg.enc], by simp, by rw [hH2]; simp [crow, t1]⟩ ?_)
  refine J_seq' fun K4 hK4 => J1 3 ?_
  simp [hx2, hc2, xrow, crow]
  refine hK4 _ (J_block ?_)
  have hnq := hf.nq
  obtain ⟨n, hn⟩ : ∃ n, t.core.queues.length = n := ⟨_, rfl⟩
  have hlen1 : t1.core.queues.length = n := hn
  rw [hn] at hres hF hnq
  refine J_loop' (fun m s' => ∃ (i : Nat) (N' : TN) (t' : Turn), i ≤ n ∧ m = n - i ∧ t'.core.queues.length = n ∧ CFit t'.core ∧ N'.x = N.x ∧ N'.c = N.c ∧ TAt N' t' F s'.H ∧ stepsQ (relT o.conn) (n - i) i t' = stepsQ (relT o.conn) n 0 t1 ∧ Has [(0, .p (.h N.x) 0), (3, .vp o.enc), (33, aint n), (34, aint i)] s'.L s'.H s') (n := n) ⟨0, { N with s := k' }, t1, by omega, by omega, hlen1, hf1, rfl, rfl, by simpa using hT2, rfl, by simp [hlen1]⟩ ?_
  clear hK1 hK2 hK3 hK4
  rintro m s' ⟨i, N', t', hi, hm, hl', hf', n1, n2, hT', hst, hs'⟩ K hK
  refine J_has hs' ?_
  generalize s'.H = H3 at hT'
  generalize s'.L = L
  refine J_seq' fun K5 hK5 => J1 3 ?_
  simp
  refine hK5 _ (J_seq' fun K6 hK6 => J_cond rfl (fun hc => J_skip ?_) fun hc => J_exit ?_)
  · simp at hc
    simp only [thenQ, blockQ]
    refine hK6 _ (J_seq' fun K7 hK7 => J_block (J_seq' fun K8 hK8 => J1 3 ?_))
    simp
    have hT4 := hT'
    obtain ⟨cls3, P3, hO3, hcl3⟩ := hT4
    have hx3 : H3 N.x = some (xrow N' t'.out.length) := by rw [← n1]; exact hO3.get _ _ (by simp [objs])
    have hc3 : H3 N.c = some (crow N' t'.core cls3.length) := by rw [← n2]; exact hO3.get _ _ (by simp [objs])
    have hq3 : H3 N'.q = some (t'.core.queues.flatMap Queue.enc) := hO3.get _ _ (by simp [objs])
    obtain ⟨q, hqi⟩ : ∃ q, t'.core.queues[i]? = some q := ⟨_, List.getElem?_eq_getElem (by omega)⟩
    have hmem : q ∈ t'.core.queues := List.mem_of_getElem? hqi
    have hqa := at_Queue t'.core.queues hqi
    have hstep : relT o.conn t' i = put t' i (release q o.conn (-1)) := by simp only [relT, withQ, hqi]
    refine hK8 _ (J_seq' fun K9 hK9 => D1 3 [0,1,2,3,4,5,6,7,8,9,10,11,12,13,14,15,16] [17,18] (fun t => match t with | 17 => [15] | _ => []) rfl (by decide) (by decide) ?_)
    simp [hx3, hc3, xrow, crow, n2, hq3, hqa, noLL_Queue, Oper.enc]
    repeat refine And.intro (by omega) ?_
    refine ⟨_, release_fun q o.conn (-1) (hf'.q q hmem), ?_⟩
    simp [len_Queue, kill_Queue]
    refine ⟨by rw [lookL_renL]; simp, ?_⟩
    refine hK9 _ (D1 3 [0,1,2,3,4] [5] (fun _ => []) rfl (by decide) (by decide) ?_)
    simp
    rw [← n1]
    refine ⟨_, putf_fun N' i, ?_⟩
    simp [len_Queue, take_Queue, noLL_Queue]
    refine (put_fun N' t' F H3 (release q o.conn (-1)).1 (release q o.conn (-1)).2 i (by omega) hT').mono ?_
    rintro r H' hQ
    rcases hQ.split with ⟨e, he, rfl, hk⟩ | ⟨t2, v, he, rfl, N2, m1, m2, hN⟩
    · simp [stop]
      refine hF _ _ ?_
      have : stepsQ (relT o.conn) n 0 t1 = .error e := by
        rw [← hst, show n - i = (n - (i + 1)) + 1 from by omega]
        simp only [stepsQ]
        rw [hstep, he]
      simp [this]
      exact ⟨rfl, hk⟩
    · simp
      refine hK7 _ (J1 3 ?_)
      simp
      refine hK (n - (i + 1)) _ (by omega) ⟨i + 1, N2, t2, by omega, rfl, (put_len he).trans hl', put_fit he hf' (release_fit (hf'.q q hmem)), m1.trans n1, m2.trans n2, hN, ?_, ?_⟩
      · rw [← hst, show n - i = (n - (i + 1)) + 1 from by omega]
        simp only [stepsQ]
        rw [hstep, he]
      · simp [n1, Oper.enc]
        rw [w64 (by omega) (by omega)]
  · simp at hc
    have hie : i = n := by omega
    subst hie
    simp only [thenQ, blockQ, if_true]
    refine hF _ _ ?_
    rw [← hst]
    simp [Tryz.f131, stepsQ]
    exact ⟨⟨_, rfl⟩, N', n1, n2, hT'⟩
end
section
attribute [local simp] Heap.put D_118 D_124 D_121 D_108 D_110 D_112 D_114
theorem byNameQ_fun183 (a b : Queue) : PFun Tryz.prog 183 [.agg a.enc, .agg b.enc] (aint (byNameQ a b)) := by
  refine PFun.of_J D_ok Tryz.func183 rfl (by decide) (le' rfl) fun H E QF hF => ?_
  change J _ E 10 _ _ _
  refine J_seq' fun K1 hK1 => J2 2 3 ?_
  simp [Queue.enc]
  refine hK1 _ (J_seq' fun K2 hK2 => J2 2 3 ?_)
  simp
  refine (scmp_fun _ _).call ?_
  simp
  refine hK2 _ (J_ret (hF _ _ ?_))
  simp [Tryz.f183, byNameQ]
def byTopicM (a b : Msg) : Int := scmp a.topic b.topic
theorem byTopicM_fun247 (a b : Msg) : PFun Tryz.prog 247 [.agg a.enc, .agg b.enc] (aint (byTopicM a b)) := by
  refine PFun.of_J D_ok Tryz.func247 rfl (by decide) (le' rfl) fun H E QF hF => ?_
  change J _ E 10 _ _ _
  refine J_seq' fun K1 hK1 => J2 2 3 ?_
  simp [Msg.enc]
  refine hK1 _ (J_seq' fun K2 hK2 => J2 2 3 ?_)
  simp
  refine (scmp_fun _ _).call ?_
  simp
  refine hK2 _ (J_ret (hF _ _ ?_))
  simp [Tryz.f247, byTopicM]
def bindOf (w : ByteArray) (x : Tv.Bind) : Bool := sEq x.queue w
theorem bindOf_fun (x : Tv.Bind) (o : Tv.Oper) : PFun Tryz.prog 186 [.agg x.enc, .vp o.enc] (abool (bindOf o.queue x)) := by
  refine PFun.of_J D_ok Tryz.func186 rfl (by decide) (le' rfl) fun H E QF hF => ?_
  change J _ E 9 _ _ _
  refine J_seq' fun K1 hK1 => J1 2 ?_
  simp [Bind.enc]
  refine hK1 _ (J_seq' fun K2 hK2 => J1 2 ?_)
  simp [Oper.enc, Msg.enc]
  refine hK2 _ (J_ret (hF _ _ ?_))
  simp [Tryz.f186, bindOf]
def subOf (w : ByteArray) (x : Tv.Sub) : Bool := sEq x.queue w
theorem subOf_fun (x : Tv.Sub) (o : Tv.Oper) : PFun Tryz.prog 188 [.agg x.enc, .vp o.enc] (abool (subOf o.queue x)) := by
  refine PFun.of_J D_ok Tryz.func188 rfl (by decide) (le' rfl) fun H E QF hF => ?_
  change J _ E 9 _ _ _
  refine J_seq' fun K1 hK1 => J1 2 ?_
  simp [Sub.enc]
  refine hK1 _ (J_seq' fun K2 hK2 => J1 2 ?_)
  simp [Oper.enc, Msg.enc]
  refine hK2 _ (J_ret (hF _ _ ?_))
  simp [Tryz.f188, subOf]
def subSame (y x : Tv.Sub) : Bool := bySub x y == 0
theorem subSame_fun (x y : Tv.Sub) : PFun Tryz.prog 203 [.agg x.enc, .vp y.enc] (abool (subSame y x)) := by
  refine PFun.of_J D_ok Tryz.func203 rfl (by decide) (le' rfl) fun H E QF hF => ?_
  change J _ E 8 _ _ _
  refine J_seq' fun K1 hK1 => J1 2 ?_
  simp [len_Sub, noLL_Sub]
  refine hK1 _ (J_seq' fun K2 hK2 => J1 2 ?_)
  simp [len_Sub, noLL_Sub, take_Sub]
  refine (bySub_fun x y).call ?_
  simp
  refine hK2 _ (J_ret (hF _ _ ?_))
  simp [Tryz.f203, subSame]
def leadsB (o : Tv.Oper) (name : ByteArray) (b : Tv.Bind) : Bool := sEq b.queue name && matchOk b.pattern o.msg.topic
theorem leadsB_fun (b : Tv.Bind) (o : Tv.Oper) (name : ByteArray) (hb : b.pattern.size ≤ 1100000) (ho : o.msg.topic.size ≤ 1100000) : PFun Tryz.prog 245 [.agg b.enc, .vp [astr name], .vp o.enc] (abool (leadsB o name b)) := by
  refine PFun.of_J D_ok Tryz.func245 rfl (by decide) (le' rfl) fun H E QF hF => ?_
  change J _ E 17 _ _ _
  refine J_seq' fun K1 hK1 => J1 3 ?_
  simp [Bind.enc]
  refine hK1 _ (J_seq' fun K2 hK2 => J1 3 ?_)
  rcases Bool.eq_false_or_eq_true (sEq b.queue name) with e | e
  · simp [Oper.enc, Msg.enc, e]
    refine (match_fun _ _ hb ho).call ?_
    simp
    refine hK2 _ (J_ret (hF _ _ ?_))
    simp [Tryz.f245, leadsB, e]
  · simp [Oper.enc, Msg.enc, e]
    refine hK2 _ (J_ret (hF _ _ ?_))
    simp [Tryz.f245, leadsB, e]
theorem insert_Queue (xs : List Queue) (hx : xs.length ≤ 2000000) (y : Queue) (g : FuncId) (f : Queue → Queue → Int) (hp : ∀ x ∈ xs, PFun Tryz.prog g [.agg (Queue.enc x), .agg (Queue.enc y)] (aint (f x y))) (H : Heap) (k : Nat) (hH : H k = some (xs.flatMap Queue.enc)) : PCalls Tryz.prog 182 [.os (.h k) 7 0 xs.length, .agg (Queue.enc y), .fn g []] H (OwnRow 7 H k (xs.length + 1) ((insAt (bsearch (fun x => f x y) xs) y xs).flatMap Queue.enc)) := by
  refine PCalls.of_J' D_ok Tryz.func182 rfl (by decide) (le' rfl) fun E QF hF => ?_
  change J _ E 21 _ _ _
  refine J_seq' fun K1 hK1 => J1 4 ?_
  simp [len_Queue, noLL_Queue]
  refine hK1 _ (J_seq' fun K2 hK2 => J1 4 ?_)
  simp [len_Queue, noLL_Queue, take_Queue]
  refine (bs_Queue xs hx y g [] rfl (fun x => f x y) hp H k hH).mono ?_
  rintro e H' ⟨rfl, hHe⟩
  obtain rfl : H = H' := hHe.symm
  have hbl := bsearch_le (fun x => f x y) xs
  generalize bsearch (fun x => f x y) xs = i at hbl hF
  simp
  refine hK2 _ (J_seq' fun K3 hK3 => J2 4 19 ?_)
  simp [len_Queue, noLL_Queue, take_Queue]
  refine (ins_Queue xs hx i hbl y H k hH).mono ?_
  rintro e H1 ⟨k', hk', rfl, hfr, hcl⟩
  simp
  refine hK3 _ (J_ret (hF _ _ ?_))
  simp [Tryz.f182]
  exact OwnRow.mk k' hk' hfr hcl
theorem insert_Bind (xs : List Tv.Bind) (hx : xs.length ≤ 2000000) (y : Tv.Bind) (g : FuncId) (f : Tv.Bind → Tv.Bind → Int) (hp : ∀ x ∈ xs, PFun Tryz.prog g [.agg (Bind.enc x), .agg (Bind.enc y)] (aint (f x y))) (H : Heap) (k : Nat) (hH : H k = some (xs.flatMap Bind.enc)) : PCalls Tryz.prog 190 [.os (.h k) 2 0 xs.length, .agg (Bind.enc y), .fn g []] H (OwnRow 2 H k (xs.length + 1) ((insAt (bsearch (fun x => f x y) xs) y xs).flatMap Bind.enc)) := by
  refine PCalls.of_J' D_ok Tryz.func190 rfl (by decide) (le' rfl) fun E QF hF => ?_
  change J _ E 21 _ _ _
  refine J_seq' fun K1 hK1 => J1 4 ?_
  simp [len_Bind, noLL_Bind]
  refine hK1 _ (J_seq' fun K2 hK2 => J1 4 ?_)
  simp [len_Bind, noLL_Bind, take_Bind]
  refine (bs_Bind xs hx y g [] rfl (fun x => f x y) hp H k hH).mono ?_
  rintro e H' ⟨rfl, hHe⟩
  obtain rfl : H = H' := hHe.symm
  have hbl := bsearch_le (fun x => f x y) xs
  generalize bsearch (fun x => f x y) xs = i at hbl hF
  simp
  refine hK2 _ (J_seq' fun K3 hK3 => J2 4 19 ?_)
  simp [len_Bind, noLL_Bind, take_Bind]
  refine (ins_Bind xs hx i hbl y H k hH).mono ?_
  rintro e H1 ⟨k', hk', rfl, hfr, hcl⟩
  simp
  refine hK3 _ (J_ret (hF _ _ ?_))
  simp [Tryz.f190]
  exact OwnRow.mk k' hk' hfr hcl
theorem insert_Sub (xs : List Tv.Sub) (hx : xs.length ≤ 2000000) (y : Tv.Sub) (g : FuncId) (f : Tv.Sub → Tv.Sub → Int) (hp : ∀ x ∈ xs, PFun Tryz.prog g [.agg (Sub.enc x), .agg (Sub.enc y)] (aint (f x y))) (H : Heap) (k : Nat) (hH : H k = some (xs.flatMap Sub.enc)) : PCalls Tryz.prog 204 [.os (.h k) 5 0 xs.length, .agg (Sub.enc y), .fn g []] H (OwnRow 5 H k (xs.length + 1) ((insAt (bsearch (fun x => f x y) xs) y xs).flatMap Sub.enc)) := by
  refine PCalls.of_J' D_ok Tryz.func204 rfl (by decide) (le' rfl) fun E QF hF => ?_
  change J _ E 21 _ _ _
  refine J_seq' fun K1 hK1 => J1 4 ?_
  simp [len_Sub, noLL_Sub]
  refine hK1 _ (J_seq' fun K2 hK2 => J1 4 ?_)
  simp [len_Sub, noLL_Sub, take_Sub]
  refine (bs_Sub xs hx y g [] rfl (fun x => f x y) hp H k hH).mono ?_
  rintro e H' ⟨rfl, hHe⟩
  obtain rfl : H = H' := hHe.symm
  have hbl := bsearch_le (fun x => f x y) xs
  generalize bsearch (fun x => f x y) xs = i at hbl hF
  simp
  refine hK2 _ (J_seq' fun K3 hK3 => J2 4 19 ?_)
  simp [len_Sub, noLL_Sub, take_Sub]
  refine (ins_Sub xs hx i hbl y H k hH).mono ?_
  rintro e H1 ⟨k', hk', rfl, hfr, hcl⟩
  simp
  refine hK3 _ (J_ret (hF _ _ ?_))
  simp [Tryz.f204]
  exact OwnRow.mk k' hk' hfr hcl
theorem insert_Msg (xs : List Msg) (hx : xs.length ≤ 2000000) (y : Msg) (g : FuncId) (f : Msg → Msg → Int) (hp : ∀ x ∈ xs, PFun Tryz.prog g [.agg (Msg.enc x), .agg (Msg.enc y)] (aint (f x y))) (H : Heap) (k : Nat) (hH : H k = some (xs.flatMap Msg.enc)) : PCalls Tryz.prog 250 [.os (.h k) 5 0 xs.length, .agg (Msg.enc y), .fn g []] H (OwnRow 5 H k (xs.length + 1) ((insAt (bsearch (fun x => f x y) xs) y xs).flatMap Msg.enc)) := by
  refine PCalls.of_J' D_ok Tryz.func250 rfl (by decide) (le' rfl) fun E QF hF => ?_
  change J _ E 21 _ _ _
  refine J_seq' fun K1 hK1 => J1 4 ?_
  simp [len_Msg, noLL_Msg]
  refine hK1 _ (J_seq' fun K2 hK2 => J1 4 ?_)
  simp [len_Msg, noLL_Msg, take_Msg]
  refine (bs_Msg xs hx y g [] rfl (fun x => f x y) hp H k hH).mono ?_
  rintro e H' ⟨rfl, hHe⟩
  obtain rfl : H = H' := hHe.symm
  have hbl := bsearch_le (fun x => f x y) xs
  generalize bsearch (fun x => f x y) xs = i at hbl hF
  simp
  refine hK2 _ (J_seq' fun K3 hK3 => J2 4 19 ?_)
  simp [len_Msg, noLL_Msg, take_Msg]
  refine (ins_Msg xs hx i hbl y H k hH).mono ?_
  rintro e H1 ⟨k', hk', rfl, hfr, hcl⟩
  simp
  refine hK3 _ (J_ret (hF _ _ ?_))
  simp [Tryz.f250]
  exact OwnRow.mk k' hk' hfr hcl
end
section
attribute [local simp] Heap.put D_118 D_124 D_121 D_108 D_110 D_112 D_114 fieldsEq fieldEq
def removeT (o : Tv.Oper) (t : Turn) : Except Int Turn :=
  if atQ t.core.queues o.queue < 0 then .error 33 else
  .ok { t with core := { t.core with queues := t.core.queues.eraseIdx (atQ t.core.queues o.queue).toNat, binds := t.core.binds.filter fun b => !bindOf o.queue b, subs := t.core.subs.filter fun s => !subOf o.queue s } }
theorem removeT_fun (N : TN) (t : Turn) (o : Tv.Oper) (F H : Heap) (hf : CFit t.core) (h : TAt N t F H) : PCalls Tryz.prog 119 [.p (.h N.x) 0, .agg o.enc] H (TurnQ N F (removeT o t)) := by
  have hkeep := h.keeps
  have h0 := h
  obtain ⟨cls, P, hO, hcl⟩ := h0
  have hx : H N.x = some (xrow N t.out.length) := hO.get _ _ (by simp [objs])
  have hc : H N.c = some (crow N t.core cls.length) := hO.get _ _ (by simp [objs])
  have hq : H N.q = some (t.core.queues.flatMap Queue.enc) := hO.get _ _ (by simp [objs])
  refine PCalls.of_J' D_ok Tryz.func119 rfl (by decide) (le' rfl) fun E QF hF => ?_
  change J _ E 56 _ _ _
  refine J_seq' fun K1 hK1 => J1 3 ?_
  simp [Oper.enc, Msg.enc]
  refine hK1 _ (J_seq' fun K2 hK2 => J1 3 ?_)
  simp
  refine (queue_fun N t F H hf.nq o.queue h).mono ?_
  rintro r H' ⟨hHe, rfl⟩
  obtain rfl : H = H' := hHe.symm
  rcases Int.lt_or_le (atQ t.core.queues o.queue) 0 with hneg | hat
  · have hat : ¬ 0 ≤ atQ t.core.queues o.queue := by omega
    rw [if_neg hat]
    refine hF _ _ ?_
    simp [removeT, hneg, stop]
    exact TurnQ.err hkeep
  obtain ⟨i, q, hi, hqi, hil⟩ := atQ_some hat
  have hres : removeT o t = .ok { t with core := { t.core with queues := t.core.queues.eraseIdx i, binds := t.core.binds.filter fun b => !bindOf o.queue b, subs := t.core.subs.filter fun s => !subOf o.queue s } } := by
    simp only [removeT, hi, Int.toNat_natCast]
    rw [if_neg (by omega)]
  rw [hres] at hF
  have hnq := hf.nq
  rw [if_pos hat, hi]
  simp
  refine hK2 _ (J_seq' fun K3 hK3 => D1 3 [0,1,2,3,4,5,6,7,8,9,10,11,12,13,15,16] [14,17] (fun t => match t with | 14 => [0,1,2,3,15,16] | _ => []) rfl (by decide) (by decide) ?_)
  simp [hx, hc, xrow, crow]
  have hwj : IntKind.i64.wrap ((i : Int) + 1) = (i : Int) + 1 := w64 (by omega) (by omega)
  rw [hwj]
  refine (del_Queue t.core.queues hf.nq i hil H N.q hq).mono ?_
  rintro r H1 hrow
  obtain ⟨k1, rfl, hx1, hc1, hT⟩ := row_q hO hcl _ (by rw [List.length_eraseIdx, if_pos hil]) hrow
  simp [hc1, hx1, xrow, crow]
  refine ⟨⟨True, _, ⟨trivial, rfl⟩, trivial, rfl⟩, ?_⟩
  obtain ⟨t1, ht1⟩ : ∃ t1 : Turn, t1 = { t with core := { t.core with queues := t.core.queues.eraseIdx i } } := ⟨_, rfl⟩
  obtain ⟨N1, hN1⟩ : ∃ N1 : TN, N1 = { N with q := k1 } := ⟨_, rfl⟩
  have e1 : N.x = N1.x := by rw [hN1]
  have e2 : N.c = N1.c := by rw [hN1]
  obtain ⟨H2, hH2⟩ : ∃ H2 : Heap, H2 = fun m => if m = N.c then some (crow { N with q := k1 } { t.core with queues := t.core.queues.eraseIdx i } cls.length) else H1 m := ⟨_, rfl⟩
  rw [← hH2] at hT
  have hT2 : TAt N1 t1 F H2 := by rw [ht1, hN1]; exact hT
  refine hK3 _ (J_has (T := [(0, .p (.h N.x) 0), (3, .vp o.enc)]) (L := []) (H := H2) ⟨by simp [Oper.enc, Msg.enc], by simp, by rw [hH2]; simp [crow, List.length_eraseIdx, hil]⟩ ?_)
  have hres2 : Except.ok (ε := Int) { t with core := { t.core with queues := t.core.queues.eraseIdx i, binds := t.core.binds.filter fun b => !bindOf o.queue b, subs := t.core.subs.filter fun s => !subOf o.queue s } } = .ok { t1 with core := { t1.core with binds := t1.core.binds.filter fun b => !bindOf o.queue b, subs := t1.core.subs.filter fun s => !subOf o.queue s } } := by rw [ht1]
  rw [hres2] at hF
  rw [e1]
  have hnb : t1.core.binds.length ≤ 2000000 := by rw [ht1]; exact hf.nb
  have hns : t1.core.subs.length ≤ 2000000 := by rw [ht1]; exact hf.ns
  clear hT hrow hx hc hq hx1 hc1 hO hcl hH2 hres hres2 ht1 hN1 hK1 hK2 hK3 hkeep h
  obtain ⟨cls2, P2, hO2, hcl2⟩ := hT2
  have hx2 : H2 N1.x = some (xrow N1 t1.out.length) := hO2.get _ _ (by simp [objs])
  have hc2 : H2 N1.c = some (crow N1 t1.core cls2.length) := hO2.get _ _ (by simp [objs])
  have hb2 : H2 N1.b = some (t1.core.binds.flatMap Bind.enc) := hO2.get _ _ (by simp [objs])
  refine J_seq' fun K4 hK4 => D1 3 [0,1,2,3,4,5,6,7,8,9,10,11,13,14] [12,15] (fun t => match t with | 12 => [0,1,2,3,13,14] | _ => []) rfl (by decide) (by decide) ?_
  simp [hx2, hc2, xrow, crow]
  refine (delf_Bind t1.core.binds hnb 186 [.vp o.enc] (by simp [noLL_Oper]) (bindOf o.queue) (fun s _ => bindOf_fun s o) H2 N1.b hb2).mono ?_
  rintro r H3 hrow
  obtain ⟨k2, rfl, hx3, hc3, hT⟩ := row_b hO2 hcl2 _ rfl hrow
  simp [hc3, hx3, xrow, crow]
  refine ⟨⟨True, _, ⟨trivial, rfl⟩, trivial, rfl⟩, ?_⟩
  obtain ⟨H4, hH4⟩ : ∃ H4 : Heap, H4 = fun m => if m = N1.c then some (crow { N1 with b := k2 } { t1.core with binds := t1.core.binds.filter fun b => !bindOf o.queue b } cls2.length) else H3 m := ⟨_, rfl⟩
  rw [← hH4] at hT
  refine hK4 _ (J_has (T := [(0, .p (.h N1.x) 0), (3, .vp o.enc)]) (L := []) (H := H4) ⟨by simp, by simp, by rw [hH4]; simp [crow]⟩ ?_)
  obtain ⟨cls4, P4, hO4, hcl4⟩ := hT
  have hx4 : H4 N1.x = some (xrow N1 t1.out.length) := hO4.get _ _ (by simp [objs, xrow])
  have hc4 : H4 N1.c = some (crow { N1 with b := k2 } { t1.core with binds := t1.core.binds.filter fun b => !bindOf o.queue b } cls4.length) := hO4.get _ _ (by simp [objs])
  have hs4 : H4 N1.s = some (t1.core.subs.flatMap Sub.enc) := hO4.get _ _ (by simp [objs])
  refine D1 3 [0,1,2,3,4,5,6,7,8,9,10,11,13,14] [12,15] (fun t => match t with | 12 => [0,1,2,3,13,14] | _ => []) rfl (by decide) (by decide) ?_
  simp [hx4, hc4, xrow, crow]
  refine (delf_Sub t1.core.subs hns 188 [.vp o.enc] (by simp [noLL_Oper]) (subOf o.queue) (fun s _ => subOf_fun s o) H4 N1.s hs4).mono ?_
  rintro r H5 hrow
  obtain ⟨k3, rfl, hx5, hc5, hT⟩ := row_s hO4 hcl4 _ rfl hrow
  simp at hx5 hc5
  simp [hc5, hx5, xrow, crow]
  refine ⟨⟨True, _, ⟨trivial, rfl⟩, trivial, rfl⟩, ?_⟩
  refine hF _ _ ?_
  simp [Tryz.f119, TurnQ]
  refine ⟨{ N1 with b := k2, s := k3 }, e1.symm, e2.symm, ?_⟩
  simpa [crow] using hT
def bindSame (y x : Tv.Bind) : Bool := sEq y.queue x.queue && sEq y.pattern x.pattern
theorem indexB_fun (xs : List Tv.Bind) (hx : xs.length ≤ 2000000) (y : Tv.Bind) (H : Heap) (k : Nat) (hH : H k = some (xs.flatMap Bind.enc)) : PCalls Tryz.prog 191 [.os (.h k) 2 0 xs.length, .agg y.enc] H fun e H' => e = .ret (aint (idx (bindSame y) xs)) ∧ H' = H := by
  refine PCalls.of_J' D_ok Tryz.func191 rfl (by decide) (le' rfl) fun E QF hF => ?_
  change J _ E 19 _ _ _
  refine J_seq' fun K1 hK1 => J1 3 ?_
  simp [Bind.enc]
  refine hK1 _ (J_seq' fun K2 hK2 => J_seq' fun K3 hK3 => J1 3 ?_)
  simp
  refine hK3 _ (J_block ?_)
  refine J_loop' (fun m s' => ∃ i : Nat, i ≤ xs.length ∧ m = xs.length - i ∧ idx (bindSame y) xs = idxFrom (bindSame y) (xs.drop i) i ∧ Has [(0, .os (.h k) 2 0 xs.length), (3, .vp y.enc), (7, aint xs.length), (8, aint i)] [] H s') (n := xs.length) ⟨0, by omega, by omega, rfl, by simp [Bind.enc]⟩ ?_
  rintro m s' ⟨i, hi, hm, hidx, hs'⟩ K hK
  refine J_has hs' ?_
  refine J_seq' fun K4 hK4 => J1 3 ?_
  simp
  refine hK4 _ (J_seq' fun K5 hK5 => J_cond rfl (fun hc => J_skip ?_) fun hc => J_exit ?_)
  · simp at hc
    obtain ⟨x, hxi⟩ : ∃ x, xs[i]? = some x := ⟨_, List.getElem?_eq_getElem (by omega)⟩
    have hat := at_Bind xs hxi
    have hmem : x ∈ xs := List.mem_of_getElem? hxi
    have hdr : xs.drop i = x :: xs.drop (i + 1) := drop_at hxi
    simp only [thenQ, blockQ]
    refine hK5 _ (J_seq' fun K6 hK6 => J_block (J_seq' fun K7 hK7 => J1 3 ?_))
    simp
    refine hK7 _ (J_seq' fun K8 hK8 => D1 3 [0,1,2,3,4,5] [] (fun _ => []) rfl (by decide) (by decide) ?_)
    simp [hat, hH, Bind.enc]
    repeat refine And.intro (by omega) ?_
    refine hK8 _ (J_cond rfl (fun hd => ?_) fun hd => J_skip ?_)
    · have hpx : bindSame y x = true := by simpa [bindSame] using hd
      refine J_seq' fun K9 hK9 => J1 3 ?_
      simp
      refine hK9 _ (J_ret (hF _ _ ?_))
      simp [Tryz.f191]
      rw [hidx, hdr]
      simp [idxFrom, hpx]
    · have hpx : bindSame y x = false := by rw [← Bool.not_eq_true]; intro hh; simp [bindSame] at hh; simp [hh] at hd
      simp only [thenQ, blockQ]
      refine hK6 _ (J1 3 ?_)
      simp
      refine hK (xs.length - (i + 1)) _ (by omega) ⟨i + 1, by omega, rfl, ?_, ?_⟩
      · rw [hidx, hdr]; simp [idxFrom, hpx]
      · simp [Bind.enc]
        rw [w64 (by omega) (by omega)]
  · simp at hc
    simp only [thenQ, blockQ, if_true]
    refine hK2 _ (J_seq' fun K10 hK10 => J1 3 ?_)
    simp
    refine hK10 _ (J_ret (hF _ _ ?_))
    simp [Tryz.f191]
    rw [hidx, List.drop_eq_nil_of_le (by omega)]
    rfl
theorem containsB_fun (xs : List Tv.Bind) (hx : xs.length ≤ 2000000) (y : Tv.Bind) (H : Heap) (k : Nat) (hH : H k = some (xs.flatMap Bind.enc)) : PCalls Tryz.prog 189 [.os (.h k) 2 0 xs.length, .agg y.enc] H fun e H' => e = .ret (abool (xs.any (bindSame y))) ∧ H' = H := by
  refine PCalls.of_J' D_ok Tryz.func189 rfl (by decide) (le' rfl) fun E QF hF => ?_
  change J _ E 9 _ _ _
  refine J_seq' fun K1 hK1 => J1 3 ?_
  simp [len_Bind, noLL_Bind]
  refine hK1 _ (J_seq' fun K2 hK2 => J1 3 ?_)
  simp [len_Bind, noLL_Bind, take_Bind]
  refine (indexB_fun xs hx y H k hH).mono ?_
  rintro e H' ⟨rfl, hHe⟩
  obtain rfl : H = H' := hHe.symm
  simp
  refine hK2 _ (J_ret (hF _ _ ?_))
  simp [Tryz.f189]
  exact idx_any _ _
def unbindT (o : Tv.Oper) (t : Turn) : Except Int Turn :=
  if idx (bindSame ⟨o.queue, o.text⟩) t.core.binds < 0 then .error 33 else
  .ok { t with core := { t.core with binds := t.core.binds.eraseIdx (idx (bindSame ⟨o.queue, o.text⟩) t.core.binds).toNat } }
theorem unbindT_fun (N : TN) (t : Turn) (o : Tv.Oper) (F H : Heap) (hf : CFit t.core) (h : TAt N t F H) : PCalls Tryz.prog 121 [.p (.h N.x) 0, .agg o.enc] H (TurnQ N F (unbindT o t)) := by
  have hkeep := h.keeps
  have h0 := h
  obtain ⟨cls, P, hO, hcl⟩ := h0
  have hx : H N.x = some (xrow N t.out.length) := hO.get _ _ (by simp [objs])
  have hc : H N.c = some (crow N t.core cls.length) := hO.get _ _ (by simp [objs])
  have hb : H N.b = some (t.core.binds.flatMap Bind.enc) := hO.get _ _ (by simp [objs])
  have hnb := hf.nb
  refine PCalls.of_J' D_ok Tryz.func121 rfl (by decide) (le' rfl) fun E QF hF => ?_
  change J _ E 38 _ _ _
  refine J_seq' fun K1 hK1 => J1 3 ?_
  simp [Oper.enc, Msg.enc]
  refine hK1 _ (J_seq' fun K2 hK2 => J_drawH D_ok (cfg := ⟨38, fun k => k == 3⟩) [0,1,2,3,4,5,6,7,8,9,10,11,12] [13] (fun _ => []) rfl (by decide) (by decide) ?_)
  simp [hx, hc, xrow, crow]
  refine ⟨_, indexB_fun t.core.binds hnb ⟨o.queue, o.text⟩ H N.b hb, ?_⟩
  rcases idx_spec (bindSame ⟨o.queue, o.text⟩) t.core.binds with ⟨i1, i2⟩ | ⟨j, s, i1, i2, i3, _⟩
  · simp [i1]
    refine hK2 _ (J_seq' fun K3 hK3 => J1 3 ?_)
    simp
    refine unless_ff 33 (hF _ _ ?_)
    simp [unbindT, i1, stop]
    exact TurnQ.err hkeep
  have hjl : j < t.core.binds.length := by
    rcases Nat.lt_or_ge j t.core.binds.length with h | h
    · exact h
    · rw [List.getElem?_eq_none h] at i2; cases i2
  have hres : unbindT o t = .ok { t with core := { t.core with binds := t.core.binds.eraseIdx j } } := by
    simp only [unbindT, i1, Int.toNat_natCast]
    rw [if_neg (by omega)]
  rw [hres] at hF
  simp [i1]
  refine hK2 _ (J_seq' fun K3 hK3 => J1 3 ?_)
  simp
  refine unless_tt 33 fun v => ?_
  simp
  refine hK3 _ (D1 3 [0,1,2,3,4,5,6,7,8,9,10,11,12,13,15,16] [14,17] (fun t => match t with | 14 => [0,1,2,3,15,16] | _ => []) rfl (by decide) (by decide) ?_)
  simp [hx, hc, xrow, crow]
  have hwj : IntKind.i64.wrap ((j : Int) + 1) = (j : Int) + 1 := w64 (by omega) (by omega)
  rw [hwj]
  refine (del_Bind t.core.binds hnb j hjl H N.b hb).mono ?_
  rintro r H1 hrow
  obtain ⟨k1, rfl, hx1, hc1, hT⟩ := row_b hO hcl _ (by rw [List.length_eraseIdx, if_pos hjl]) hrow
  simp [hc1, hx1, xrow, crow]
  refine ⟨⟨True, _, ⟨trivial, rfl⟩, trivial, rfl⟩, ?_⟩
  refine hF _ _ ?_
  simp [Tryz.f121, TurnQ]
  refine ⟨{ N with b := k1 }, rfl, rfl, ?_⟩
  simpa [crow, List.length_eraseIdx, hjl] using hT
end
end Go.Proofs.YtpcpljfifipagaaGreatDoor
