/- A part of the proof: the engine that walks Go code, the walks of the broker, or their laws (TQ TR TS Lc). -/
import Derived.Test.YtpcpljfifipagaaGreatDoorX26
import Derived.Test.YtpcpljfifipagaaGreatDoorX22
import Derived.Test.YtpcpljfifipagaaGreatDoorX14
set_option linter.unusedSimpArgs false
set_option linter.unusedVariables false
set_option maxHeartbeats 8000000
set_option maxRecDepth 20000
namespace Go.Proofs.YtpcpljfifipagaaGreatDoor
open Go.Eng Go.Tv
section
attribute [local simp] plainOp Heap.put flen_Cl noLLf_Cl killf_Cl D_36 D_42 D_33 D_50 D_77 D_37 D_24 D_25 D_26 D_27 D_28 D_87 D_30 D_54 D_46 D_89 D_105 D_103 D_102 D_35 D_101 D_80 D_118 D_124 D_121 D_31 D_257 D_244 D_131 D_130
attribute [local simp ↓] evTsR evQsh evQh
attribute [-simp] List.length_flatMap
def noteAdd (o : Tv.Oper) (t : Turn) : Except Int Turn :=
  if bfound (byClient o.text) t.core.clients then .ok t else
  if ¬ t.core.clients.length < 16 then .error 34 else
  .ok { t with core := { t.core with clients := insAt (bsearch (byClient o.text) t.core.clients) ⟨o.text, []⟩ t.core.clients } }
def notePk (o : Tv.Oper) (i : Nat) (t : Turn) : Except Int (Turn × Bool) := match t.core.clients[i]? with
  | none => .error 34
  | some k =>
    if bfound (ncmp o.n) k.packets then .ok (t, true) else
    if ¬ k.packets.length < 32 then .error 34 else
    .ok ({ t with core := { t.core with clients := t.core.clients.set i ⟨k.name, insAt (bsearch (ncmp o.n) k.packets) o.n k.packets⟩ } }, false)
def noteT (o : Tv.Oper) (t : Turn) : Except Int (Turn × Bool) :=
  if !wordOk o.text then .error 31 else
  if !packet o.n then .error 1 else
  match noteAdd o t with
  | .error e => .error e
  | .ok t1 => notePk o (bsearch (byClient o.text) t.core.clients) t1
def NoteQ (N : TN) (F : Heap) (m : Except Int (Turn × Bool)) (r : AE) (H' : Heap) : Prop := match m with
  | .ok (t, b) => r = .ret (abool b) ∧ ∃ N', N'.x = N.x ∧ N'.c = N.c ∧ TAt N' t F H'
  | .error e => r = .panic (stop e) ∧ ∀ m cs, F m = some cs → H' m = some cs
theorem NoteQ.err {N : TN} {F H : Heap} {e : Int} (h : ∀ m cs, F m = some cs → H m = some cs) : NoteQ N F (.error e) (.panic (stop e)) H := ⟨rfl, h⟩
theorem bs_nil {α : Type} (f : α → Int) : bsearch f ([] : List α) = 0 ∧ bfound f ([] : List α) = false := by
  have h : bsearch f ([] : List α) = 0 := by have := bsearch_le f ([] : List α); simpa using this
  exact ⟨h, by simp [bfound, h]⟩
theorem noteT_fun (N : TN) (t : Turn) (o : Tv.Oper) (F H : Heap) (hf : CFit t.core) (hof : OFit o) (h : TAt N t F H) : PCalls Tryz.prog 193 [.p (.h N.x) 0, .agg o.enc] H (NoteQ N F (noteT o t)) := by
  have hkeep := h.keeps
  have h0 := h
  obtain ⟨cls, P, hO, hcl⟩ := h0
  have hx : H N.x = some (xrow N t.out.length) := hO.get _ _ (by simp [objs])
  have hc : H N.c = some (crow N t.core cls.length) := hO.get _ _ (by simp [objs])
  have hL : H N.l = some (cls.flatMap Cl.enc) := hO.get _ _ (by simp [objs])
  have hlen : cls.length = t.core.clients.length := by rw [← hcl.1, List.length_map]
  have hlc : cls.length ≤ 2000000 := by have := hf.nc; omega
  refine PCalls.of_J' D_ok Tryz.func193 rfl (by decide) (le' rfl) fun E QF hF => ?_
  change J _ E 113 _ _ _
  refine J_seq' fun K1 hK1 => J1 3 ?_
  simp [Oper.enc, Msg.enc]
  refine hK1 _ (J_seq' fun K2 hK2 => J1 3 ?_)
  simp
  refine (name_fun _ (by have := hof.t; omega)).call ?_
  rcases Bool.eq_false_or_eq_true (wordOk o.text) with hw | hw
  rotate_left
  · rw [hw]
    simp
    refine unless_ff 31 (hF _ _ ?_)
    simp [noteT, hw, stop]
    exact NoteQ.err hkeep
  rw [hw]
  simp
  refine unless_tt 31 fun v => ?_
  simp
  refine hK2 _ (J_seq' fun K3 hK3 => J1 3 ?_)
  simp
  refine (packet_fun _).call ?_
  rcases Bool.eq_false_or_eq_true (packet o.n) with hp | hp
  rotate_left
  · rw [hp]
    simp
    refine unless_ff 1 (hF _ _ ?_)
    simp [noteT, hw, hp, stop]
    exact NoteQ.err hkeep
  rw [hp]
  simp
  refine unless_tt 1 fun v => ?_
  simp
  have hres : noteT o t = match noteAdd o t with
    | .error e => .error e
    | .ok t1 => notePk o (bsearch (byClient o.text) t.core.clients) t1 := by
    simp only [noteT, hw, hp]
    rw [if_neg (by simp), if_neg (by simp)]
  rw [hres] at hF
  refine hK3 _ (J_seq' fun K4 hK4 => J1 3 ?_)
  simp
  refine (client_fun N t F H hf.nc o.text h).mono ?_
  rintro r H' ⟨hHe, rfl⟩
  obtain rfl : H = H' := hHe.symm
  simp
  have hil : bsearch (byClient o.text) t.core.clients ≤ t.core.clients.length := bsearch_le _ _
  have hadd : noteAdd o t = if bfound (byClient o.text) t.core.clients then .ok t else if ¬ t.core.clients.length < 16 then .error 34 else .ok { t with core := { t.core with clients := insAt (bsearch (byClient o.text) t.core.clients) ⟨o.text, []⟩ t.core.clients } } := rfl
  have hfat := fun hb => bfound_at (f := byClient o.text) (xs := t.core.clients) hb
  generalize hie : bsearch (byClient o.text) t.core.clients = i at hil hadd hF hfat ⊢
  refine hK4 _ (J_has (T := [(0, .p (.h N.x) 0), (3, .vp o.enc), (5, aint i), (6, abool (bfound (byClient o.text) t.core.clients))]) (L := []) (H := H) ⟨by simp [Oper.enc, Msg.enc], by simp, by simp⟩ ?_)
  refine J_seq' fun K5 hK5 => ?_
  have rest : ∀ (S : Slots) (L : List (Nat × List AV)) (H1 : Heap) (N1 : TN) (t1 : Turn) (k : Client), noteAdd o t = .ok t1 → t1.core.clients[i]? = some k → k.packets.length ≤ 2000000 → t1.core.clients.length ≤ 2000000 → N1.x = N.x → N1.c = N.c → TAt N1 t1 F H1 → subS [(0, .p (.h N.x) 0), (3, .vp o.enc), (5, aint i)] S → K5 ⟨S, L, H1⟩ := by
    intro S L H1 N1 t1 k hok hki hkl hnc n1 n2 hT1 hS
    rw [hok] at hF
    simp only at hF
    clear hx hc hL hO hcl hlen hlc hadd hres
    have hkeep1 := hT1.keeps
    have hT2 := hT1
    obtain ⟨cls, P, hO, hcl⟩ := hT2
    have hlen : cls.length = t1.core.clients.length := by rw [← hcl.1, List.length_map]
    have hlc : cls.length ≤ 2000000 := by omega
    obtain ⟨c, hcc, rfl⟩ : ∃ c : Cl, cls[i]? = some c ∧ c.client = k := by
      rw [← hcl.1, List.getElem?_map] at hki
      cases hq : cls[i]? with
      | none => rw [hq] at hki; cases hki
      | some c => rw [hq] at hki; exact ⟨c, rfl, by simpa using hki⟩
    have hil : i < cls.length := by
      rcases Nat.lt_or_ge i cls.length with h' | h'
      · exact h'
      · rw [List.getElem?_eq_none h'] at hcc; cases hcc
    have hx : H1 N.x = some (xrow N1 t1.out.length) := by rw [← n1]; exact hO.get _ _ (by simp [objs])
    have hc : H1 N.c = some (crow N1 t1.core cls.length) := by rw [← n2]; exact hO.get _ _ (by simp [objs])
    have hL : H1 N1.l = some (cls.flatMap Cl.enc) := hO.get _ _ (by simp [objs])
    have hIs := hcl.2.1 c (List.mem_of_getElem? hcc)
    have hat := at_Cl cls hcc
    have hneN := objs_ne hO
    have hpk : notePk o i t1 = if bfound (ncmp o.n) c.packets then .ok (t1, true) else if ¬ c.packets.length < 32 then .error 34 else .ok ({ t1 with core := { t1.core with clients := t1.core.clients.set i ⟨c.name, insAt (bsearch (ncmp o.n) c.packets) o.n c.packets⟩ } }, false) := by
      simp only [notePk, hki]; rfl
    rw [hpk] at hF
    replace hkl : c.packets.length ≤ 2000000 := hkl
    refine hK5 _ (J_has (T := [(0, .p (.h N.x) 0), (3, .vp o.enc), (5, aint i)]) (L := L) (H := H1) ⟨hS, rfl, rfl⟩ ?_)
    unfold ClIs at hIs
    have fin : ∀ (k' : Nat) (S : Slots) (L : List (Nat × List AV)) (H2 : Heap), bfound (ncmp o.n) c.packets = false → c.packets.length < 32 → (c.loc = some k' ∨ H1 k' = none) → H2 k' = some ((insAt (bsearch (ncmp o.n) c.packets) o.n c.packets).flatMap Num.enc) → H2 N1.l = some ((cls.set i ⟨c.name, insAt (bsearch (ncmp o.n) c.packets) o.n c.packets, some k'⟩).flatMap Cl.enc) → (∀ m, m ≠ N1.l → c.loc ≠ some m → m ≠ k' → H2 m = H1 m) → QF .ret ⟨(4, abool false) :: S, L, H2⟩ := by
      intro k' S L H2 hb hlt hk g1 g2 g3
      obtain ⟨P2, hO2, hcl2⟩ := Owns.pk hO hcl hcc _ k' hk g1 g2 g3
      refine hF _ _ ?_
      rw [if_neg (by rw [hb]; simp), if_neg (by omega)]
      simp [Tryz.f193, NoteQ]
      exact ⟨N1, n1, n2, _, P2, hO2, hcl2⟩
    cases hloc : c.loc with
    | none =>
      rw [hloc] at hIs
      simp only at hIs
      have hat1 := cell_at hat 1 .sl0 (by simp [Cl.enc, hloc])
      obtain ⟨b1, b2⟩ := bs_nil (ncmp o.n)
      rw [hIs, b1, b2] at fin
      rw [hIs, b2] at hF
      refine J_seq' fun K8 hK8 => J_drawH D_ok (cfg := ⟨113, fun k => k == 3⟩) [0,1,2,3,4,5,6,7,8,9,10,11,12,13,14,15,16] [17,18] (fun t => match t with | 17 => [16] | _ => []) rfl (by decide) (by decide) ?_
      simp [hx, hc, xrow, crow, hL, hat1, Oper.enc, n2]
      repeat refine And.intro (by omega) ?_
      refine ⟨_, bsn_nil o.n H1, ?_⟩
      simp
      refine hK8 _ (J_has (T := [(0, .p (.h N.x) 0), (3, .vp o.enc), (5, aint i), (7, aint 0), (8, abool false)]) (L := L) (H := H1) ⟨by simp [Oper.enc], rfl, rfl⟩ ?_)
      refine J_seq' fun K9 hK9 => J_seq' fun K10 hK10 => J1 3 ?_
      simp
      refine hK10 _ (J_cond rfl (fun hd => by simp at hd) fun hd => J_skip ?_)
      simp only [thenQ]
      refine hK9 _ (J_seq' fun K12 hK12 => J1 3 ?_)
      simp [hx, hc, xrow, crow, hL, hat1, n2]
      repeat refine And.intro (by omega) ?_
      refine unless_tt 34 fun v => ?_
      simp
      refine hK12 _ (J_seq' fun K13 hK13 => D1 3 [0,1,2,3,4,5,6,7,8,9,10,11,12,13,14,15,16,17,18,19,20,21,22,24,25] [23,26] (fun t => match t with | 23 => [0,1,2,3,4,5,6,7,24,25] | _ => []) rfl (by decide) (by decide) ?_)
      simp [hx, hc, xrow, crow, hL, hat1, Oper.enc, n2]
      repeat refine And.intro (by omega) ?_
      refine (insn_nil o.n H1).mono ?_
      rintro r H2 ⟨k', hk', rfl, hfr, hk2⟩
      have hkl' : k' ≠ N1.l := by rintro rfl; rw [hL] at hk'; cases hk'
      have hkx' : k' ≠ N.x := by rintro rfl; rw [hx] at hk'; cases hk'
      have hkc' : k' ≠ N.c := by rintro rfl; rw [hc] at hk'; cases hk'
      have hL2 : H2 N1.l = some (cls.flatMap Cl.enc) := by rw [hfr _ (Ne.symm hkl'), hL]
      have hx2 : H2 N.x = some (xrow N1 t1.out.length) := by rw [hfr _ (Ne.symm hkx'), hx]
      have hc2 : H2 N.c = some (crow N1 t1.core cls.length) := by rw [hfr _ (Ne.symm hkc'), hc]
      simp [hx2, hc2, xrow, crow, hL2, n2]
      refine ⟨⟨⟨True, _, ⟨trivial, rfl⟩, trivial, rfl⟩, ⟨True, _, ⟨trivial, rfl⟩, trivial, rfl⟩⟩, by omega, ?_⟩
      refine hK13 _ (J_seq' fun K14 hK14 => J1 3 ?_)
      simp
      refine hK14 _ (J_ret ?_)
      rw [Cl_set hcc (insAt 0 o.n []) k' 1 rfl]
      refine fin k' _ _ _ rfl (by decide) (.inr hk') ?_ ?_ ?_
      · simp [hkl', hk2, insAt]
      · simp
      · intro m a b d
        simp [a, hfr m d]
    | some p =>
      rw [hloc] at hIs
      simp only at hIs
      have hp1 : H1 p = some (c.packets.flatMap Num.enc) := hO.get _ _ (by simp [objs, hIs])
      have hat1 := cell_at hat 1 (.os (.h p) 1 0 c.packets.length) (by simp [Cl.enc, hloc])
      have hpN : p ≠ N1.x ∧ p ≠ N1.c ∧ p ≠ N1.l := by
        have := hO.1
        simp only [objs, List.map_cons, List.nodup_cons, List.mem_cons, not_or] at this
        have hm : p ∈ P.map (·.1) := List.mem_map_of_mem (f := Prod.fst) hIs
        refine ⟨?_, ?_, ?_⟩ <;> rintro rfl
        · exact this.1.2.2.2.2.2.2.2 hm
        · exact this.2.1.2.2.2.2.2.2 hm
        · exact this.2.2.2.2.2.2.1.2 hm
      refine J_seq' fun K8 hK8 => J_drawH D_ok (cfg := ⟨113, fun k => k == 3⟩) [0,1,2,3,4,5,6,7,8,9,10,11,12,13,14,15,16] [17,18] (fun t => match t with | 17 => [16] | _ => []) rfl (by decide) (by decide) ?_
      simp [hx, hc, xrow, crow, hL, hat1, Oper.enc, n2]
      repeat refine And.intro (by omega) ?_
      refine ⟨_, bsn_fun c.packets hkl o.n H1 p hp1, ?_⟩
      simp
      have hbl : bsearch (ncmp o.n) c.packets ≤ c.packets.length := bsearch_le _ _
      generalize bsearch (ncmp o.n) c.packets = j at hbl fin hF ⊢
      refine hK8 _ (J_has (T := [(0, .p (.h N.x) 0), (3, .vp o.enc), (5, aint i), (7, aint j), (8, abool (bfound (ncmp o.n) c.packets))]) (L := L) (H := H1) ⟨by simp [Oper.enc], rfl, rfl⟩ ?_)
      refine J_seq' fun K9 hK9 => J_seq' fun K10 hK10 => J1 3 ?_
      simp
      refine hK10 _ (J_cond rfl (fun hd => ?_) fun hd => J_skip ?_)
      · have hb : bfound (ncmp o.n) c.packets = true := by simpa using hd
        refine J_seq' fun K11 hK11 => J1 3 ?_
        simp
        refine hK11 _ (J_ret (hF _ _ ?_))
        rw [if_pos hb]
        simp [Tryz.f193, NoteQ]
        exact ⟨N1, n1, n2, hT1⟩
      have hb : bfound (ncmp o.n) c.packets = false := by simpa using hd
      simp only [thenQ]
      refine hK9 _ (J_seq' fun K12 hK12 => J1 3 ?_)
      by_cases hl : c.packets.length < 32
      rotate_left
      · simp [hx, hc, xrow, crow, hL, hat1, n2, show ¬ (c.packets.length : Int) < 32 from by omega]
        repeat refine And.intro (by omega) ?_
        refine unless_ff 34 (hF _ _ ?_)
        rw [if_neg (by rw [hb]; simp)]
        simp [hl, stop]
        exact NoteQ.err hkeep1
      simp [hx, hc, xrow, crow, hL, hat1, n2, show (c.packets.length : Int) < 32 from by omega]
      repeat refine And.intro (by omega) ?_
      refine unless_tt 34 fun v => ?_
      simp
      refine hK12 _ (J_seq' fun K13 hK13 => D1 3 [0,1,2,3,4,5,6,7,8,9,10,11,12,13,14,15,16,17,18,19,20,21,22,24,25] [23,26] (fun t => match t with | 23 => [0,1,2,3,4,5,6,7,24,25] | _ => []) rfl (by decide) (by decide) ?_)
      simp [hx, hc, xrow, crow, hL, hat1, Oper.enc, n2]
      repeat refine And.intro (by omega) ?_
      refine (ins_Num c.packets hkl j hbl o.n H1 p hp1).mono ?_
      rintro r H2 ⟨k', hk', rfl, hfr, hk2⟩
      have hkl' : k' ≠ N1.l := by
        rcases hk' with rfl | hk'
        · exact hpN.2.2
        · rintro rfl; rw [hL] at hk'; cases hk'
      have hkx' : k' ≠ N.x := by
        rcases hk' with rfl | hk'
        · rw [← n1]; exact hpN.1
        · rintro rfl; rw [hx] at hk'; cases hk'
      have hkc' : k' ≠ N.c := by
        rcases hk' with rfl | hk'
        · rw [← n2]; exact hpN.2.1
        · rintro rfl; rw [hc] at hk'; cases hk'
      have hL2 : H2 N1.l = some (cls.flatMap Cl.enc) := by rw [hfr _ (Ne.symm hpN.2.2) (Ne.symm hkl'), hL]
      have hx2 : H2 N.x = some (xrow N1 t1.out.length) := by rw [hfr _ (by rw [← n1]; exact Ne.symm hpN.1) (Ne.symm hkx'), hx]
      have hc2 : H2 N.c = some (crow N1 t1.core cls.length) := by rw [hfr _ (by rw [← n2]; exact Ne.symm hpN.2.1) (Ne.symm hkc'), hc]
      simp [hx2, hc2, xrow, crow, hL2, n2]
      refine ⟨⟨⟨True, _, ⟨trivial, rfl⟩, trivial, rfl⟩, ⟨True, _, ⟨trivial, rfl⟩, trivial, rfl⟩⟩, by omega, ?_⟩
      refine hK13 _ (J_seq' fun K14 hK14 => J1 3 ?_)
      simp
      refine hK14 _ (J_ret ?_)
      have hin := insAt_len hbl o.n
      rw [Cl_set hcc (insAt j o.n c.packets) k' _ (by rw [hin])]
      refine fin k' _ _ _ hb hl ?_ ?_ ?_ ?_
      · rcases hk' with rfl | hk'
        · exact .inl hloc
        · exact .inr hk'
      · simp [hkl', hk2]
      · simp
      · intro m a b d
        simp only [if_neg a]
        exact hfr m (fun e => b (by rw [hloc, e])) d
  refine J_seq' fun K6 hK6 => J1 3 ?_
  rcases Bool.eq_false_or_eq_true (bfound (byClient o.text) t.core.clients) with hb | hb
  · rw [hb]
    simp
    refine hK6 _ (J_cond rfl (fun hd => by simp at hd) fun hd => J_skip ?_)
    simp only [thenQ]
    obtain ⟨k0, g1, g2, g3⟩ := hfat hb
    rw [if_pos hb] at hadd
    exact rest _ _ _ N t k0 hadd g1 (hf.c k0 (List.mem_of_getElem? g1)).1 hf.nc rfl rfl h (by simp)
  · rw [hb]
    simp
    refine hK6 _ (J_cond rfl (fun hd => ?_) fun hd => by simp at hd)
    rw [if_neg (by rw [hb]; simp)] at hadd
    refine J_seq' fun K7 hK7 => J1 3 ?_
    by_cases hl : t.core.clients.length < 16
    rotate_left
    · simp [hx, hc, xrow, crow, hlen, hl, show ¬ (t.core.clients.length : Int) < 16 from by omega]
      refine unless_ff 34 (hF _ _ ?_)
      rw [hadd]
      simp [hl, stop]
      exact NoteQ.err hkeep
    rw [if_neg (by omega)] at hadd
    simp [hx, hc, xrow, crow, hlen, hl, show (t.core.clients.length : Int) < 16 from by omega]
    refine unless_tt 34 fun v => ?_
    simp
    refine hK7 _ (D1 3 [0,1,2,3,4,5,6,7,8,9,10,11,12,13,14,15,17,18] [16,19] (fun t => match t with | 16 => [0,1,2,3,17,18] | _ => []) rfl (by decide) (by decide) ?_)
    simp [hx, hc, xrow, crow, Oper.enc]
    refine PCalls.mono (show PCalls Tryz.prog 242 [.os (.h N.l) 2 0 cls.length, aint i, .sl 1 (Cl.enc ⟨o.text, [], none⟩)] H _ from ins_Cl cls hlc i (by omega) ⟨o.text, [], none⟩ H N.l hL) ?_
    rintro r H1 hrow
    have hil2 := insAt_len (show i ≤ cls.length by omega) (⟨o.text, [], none⟩ : Cl)
    obtain ⟨k', rfl, hx1, hc1, hO1⟩ := row_l hO _ hil2.symm hrow
    simp [hc1, hx1, xrow, crow]
    refine ⟨⟨True, _, ⟨trivial, rfl⟩, trivial, rfl⟩, ?_⟩
    refine rest _ _ _ { N with l := k' } _ ⟨o.text, []⟩ hadd ?_ (by simp) ?_ rfl rfl ⟨_, P, ?_, hcl.ins i o.text⟩ (by simp [Oper.enc])
    · simp only [insAt]
      rw [List.getElem?_append_right (by rw [List.length_take]; omega), List.length_take, Nat.min_eq_left hil, Nat.sub_self]
      rfl
    · have := insAt_len hil (⟨o.text, []⟩ : Client)
      simp only
      have := hf.nc
      omega
    · rw [objs_clients]
      simpa [crow, hil2] using hO1
end
section
attribute [local simp] plainOp Heap.put flen_Cl noLLf_Cl killf_Cl D_36 D_42 D_33 D_50 D_77 D_37 D_24 D_25 D_26 D_27 D_28 D_87 D_30 D_54 D_46 D_89 D_105 D_103 D_102 D_35 D_101 D_80 D_118 D_124 D_121 D_31 D_257 D_244 D_131 D_130
attribute [local simp ↓] evTsR evQsh evQh
attribute [-simp] List.length_flatMap
theorem indexH_MsgS (xs : List Msg) (hx : xs.length ≤ 2000000) (g : FuncId) (caps : List AV) (hcaps : AV.noLL caps = true) (p : Msg → Bool) (H : Heap) (hp : ∀ x ∈ xs, PCalls Tryz.prog g (.agg (Msg.enc x) :: caps) H fun e H' => e = .ret (abool (p x)) ∧ H' = H) (k : Nat) (hH : H k = some (xs.flatMap Msg.enc)) : PCalls Tryz.prog 143 [.os (.h k) 5 0 xs.length, .fn g caps] H fun e H' => e = .ret (aint (idx p xs)) ∧ H' = H := by
  refine PCalls.of_J' D_ok Tryz.func143 rfl (by decide) (le' rfl) fun E QF hF => ?_
  change J _ E 19 _ _ _
  refine J_seq' fun K1 hK1 => J0 ?_
  simp [hH]
  refine hK1 _ (J_seq' fun K2 hK2 => J_seq' fun K3 hK3 => J0 ?_)
  simp [hH]
  refine hK3 _ (J_block ?_)
  refine J_loop' (fun m s' => ∃ i : Nat, i ≤ xs.length ∧ m = xs.length - i ∧ idx p xs = idxFrom p (xs.drop i) i ∧ Has [(0, .os (.h k) 5 0 xs.length), (1, .fn g caps), (7, aint xs.length), (8, aint i)] [] H s') (n := xs.length) ⟨0, by omega, by omega, rfl, by simp⟩ ?_
  rintro m s' ⟨i, hi, hm, hidx, hs'⟩ K hK
  refine J_has hs' ?_
  refine J_seq' fun K4 hK4 => J0 ?_
  simp [hH]
  refine hK4 _ (J_seq' fun K5 hK5 => J_cond rfl (fun hc => J_skip ?_) fun hc => J_exit ?_)
  · simp at hc
    obtain ⟨x, hxi⟩ : ∃ x, xs[i]? = some x := ⟨_, List.getElem?_eq_getElem (by omega)⟩
    have hat := at_Msg xs hxi
    have hmem : x ∈ xs := List.mem_of_getElem? hxi
    have hdr : xs.drop i = x :: xs.drop (i + 1) := drop_at hxi
    simp only [thenQ, blockQ]
    refine hK5 _ (J_seq' fun K6 hK6 => J_block (J_seq' fun K7 hK7 => J0 ?_))
    simp [hH]
    refine hK7 _ (J_seq' fun K8 hK8 => J0 ?_)
    simp [hat, hcaps, noLL_Msg, len_Msg, hH]
    refine ⟨by omega, by omega, (hp x hmem).mono ?_⟩
    rintro e H' ⟨rfl, hHe⟩
    obtain rfl : H = H' := hHe.symm
    simp
    refine hK8 _ (J_cond rfl (fun hd => ?_) fun hd => J_skip ?_)
    · have hpx : p x = true := by simpa using hd
      refine J_seq' fun K9 hK9 => J0 ?_
      simp [hH]
      refine hK9 _ (J_ret (hF _ _ ?_))
      simp [Tryz.f143]
      rw [hidx, hdr]
      simp [idxFrom, hpx]
    · have hpx : p x = false := by simpa using hd
      simp only [thenQ, blockQ]
      refine hK6 _ (J0 ?_)
      simp [hH]
      refine hK (xs.length - (i + 1)) _ (by omega) ⟨i + 1, by omega, rfl, ?_, ?_⟩
      · rw [hidx, hdr]; simp [idxFrom, hpx]
      · simp
        rw [w64 (by omega) (by omega)]
  · simp at hc
    simp only [thenQ, blockQ, if_true]
    refine hK2 _ (J_seq' fun K10 hK10 => J0 ?_)
    simp [hH]
    refine hK10 _ (J_ret (hF _ _ ?_))
    simp [Tryz.f143]
    rw [hidx, List.drop_eq_nil_of_le (by omega)]
    rfl
theorem delf_MsgS (xs : List Msg) (hx : xs.length ≤ 2000000) (g : FuncId) (caps : List AV) (hcaps : AV.noLL caps = true) (p : Msg → Bool) (H : Heap) (k : Nat) (hp : ∀ x ∈ xs, ∀ H1 : Heap, (∀ m, m ≠ k → H1 m = H m) → PCalls Tryz.prog g (.agg (Msg.enc x) :: caps) H1 fun e H' => e = .ret (abool (p x)) ∧ H' = H1) (hH : H k = some (xs.flatMap Msg.enc)) : PCalls Tryz.prog 248 [.os (.h k) 5 0 xs.length, .fn g caps] H (OwnRow 5 H k (xs.filter fun x => !p x).length ((xs.filter fun x => !p x).flatMap Msg.enc)) := by
  have hlen : (xs.flatMap Msg.enc).length = xs.length * 5 := flen_Msg xs
  refine PCalls.of_J' D_ok Tryz.func248 rfl (by decide) (le' rfl) fun E QF hF => ?_
  change J _ E 42 _ _ _
  refine J_seq' fun K1 hK1 => J0 ?_
  simp
  refine hK1 _ (J_seq' fun K2 hK2 => J0 ?_)
  simp [hcaps]
  refine (indexH_MsgS xs hx g caps hcaps p H (fun x hx => hp x hx H fun _ _ => rfl) k hH).mono ?_
  rintro e H' ⟨rfl, hHe⟩
  obtain rfl : H = H' := hHe.symm
  simp
  refine hK2 _ (J_seq' fun K3 hK3 => J_seq' fun K4 hK4 => J0 ?_)
  simp
  rcases idx_spec p xs with ⟨h1, h2⟩ | ⟨i0, x0, h1, h2, h3, h4⟩
  · have hf : xs.filter (fun x => !p x) = xs := List.filter_eq_self.mpr fun x hx => by simp [h2 x hx]
    rw [h1]
    refine hK4 _ (J_cond rfl (fun _ => ?_) fun hc => by simp at hc)
    refine J_seq' fun K5 hK5 => J0 ?_
    simp
    refine hK5 _ (J_ret (hF _ _ ?_))
    simp [Tryz.f248]
    rw [hf]
    exact .mk k (.inl rfl) (fun m h1 h2 => rfl) hH
  have hi0 : i0 < xs.length := by
    rcases Nat.lt_or_ge i0 xs.length with h | h
    · exact h
    · rw [List.getElem?_eq_none h] at h2; cases h2
  have hfirst : xs.take i0 = (xs.take i0).filter fun x => !p x := by
    refine (List.filter_eq_self.mpr fun x hx => ?_).symm
    obtain ⟨j, hj⟩ := List.getElem?_of_mem hx
    rw [List.getElem?_take] at hj
    split at hj
    · rename_i hlt; simp [h4 j x hlt hj]
    · cases hj
  have hfirst2 : (xs.take (i0 + 1)).filter (fun x => !p x) = xs.take i0 := by
    rw [List.take_add_one, h2, List.filter_append, ← hfirst]
    simp [h3]
  rw [h1]
  refine hK4 _ (J_cond rfl (fun hc => by simp at hc) fun _ => J_skip ?_)
  simp only [thenQ]
  refine hK3 _ (J_seq' fun K6 hK6 => J_seq' fun K7 hK7 => J0 ?_)
  simp
  refine hK7 _ (J_block ?_)
  refine J_loop' (fun m s' => ∃ i j : Nat, ∃ C : List AV, i < j ∧ j ≤ xs.length ∧ m = xs.length - j ∧ ((xs.take j).filter fun x => !p x).length = i ∧ C.length = xs.length * 5 ∧ C.take (i * 5) = ((xs.take j).filter fun x => !p x).flatMap Msg.enc ∧ C.drop (j * 5) = (xs.drop j).flatMap Msg.enc ∧ Has [(0, .os (.h k) 5 0 xs.length), (1, .fn g caps), (4, .sl0), (5, aint i), (6, aint j)] s'.L (fun m => if m = k then some C else H m) s') (n := xs.length - (i0 + 1)) ⟨i0, i0 + 1, xs.flatMap Msg.enc, by omega, by omega, rfl, by rw [hfirst2, List.length_take]; omega, hlen, by rw [flat_take len_Msg, hfirst2], by rw [flat_drop len_Msg], ?_⟩ ?_
  · refine ⟨?_, rfl, ?_⟩
    · simp
      rw [w64 (by omega) (by omega)]
    · exact (heap_same hH).symm
  rintro m s' ⟨i, j, C, hij, hj, hm, hfl, hCl, hCt, hCd, hs'⟩ K hK
  refine J_has hs' ?_
  refine J_seq' fun K8 hK8 => J_seq' fun K9 hK9 => J0 ?_
  simp
  refine hK9 _ (J_cond rfl (fun hc => J_skip ?_) fun hc => J_exit ?_)
  · simp at hc
    obtain ⟨x, hxj⟩ : ∃ x, xs[j]? = some x := ⟨_, List.getElem?_eq_getElem (by omega)⟩
    have hmem : x ∈ xs := List.mem_of_getElem? hxj
    have hat : List.take 5 (List.drop (j * 5) C) = Msg.enc x := by
      rw [hCd, drop_at hxj, List.flatMap_cons, List.take_append_of_le_length (by rw [len_Msg]; exact Nat.le_refl _), List.take_of_length_le (by rw [len_Msg]; exact Nat.le_refl _)]
    have hCd2 : C.drop ((j + 1) * 5) = (xs.drop (j + 1)).flatMap Msg.enc := by
      rw [show (j + 1) * 5 = j * 5 + 5 from by omega, ← List.drop_drop, hCd, drop_at hxj, List.flatMap_cons, List.drop_append_of_le_length (by rw [len_Msg]; exact Nat.le_refl _), List.drop_of_length_le (by rw [len_Msg]; exact Nat.le_refl _), List.nil_append]
    simp only [thenQ, blockQ]
    refine hK8 _ (J_seq' fun K10 hK10 => J_block (J_seq' fun K11 hK11 => J0 ?_))
    simp [hat, hCl, len_Msg, kill_Msg, killL_of_noLL 7 caps hcaps]
    repeat refine And.intro (by omega) ?_
    refine hK11 _ (J_seq' fun K12 hK12 => J0 ?_)
    simp [len_Msg, take_Msg, noLL_Msg, hcaps]
    refine (hp x hmem _ (fun m hm => by simp [hm])).mono ?_
    rintro e H' ⟨rfl, rfl⟩
    simp
    refine hK12 _ (J_cond rfl (fun hd => ?_) fun hd => J_skip ?_)
    · have hpx : p x = false := by simpa using hd
      have hf2 : (xs.take (j + 1)).filter (fun x => !p x) = (xs.take j).filter (fun x => !p x) ++ [x] := by
        rw [List.take_add_one, hxj, List.filter_append]; simp [hpx]
      refine J_seq' fun K13 hK13 => J0 ?_
      simp [len_Msg, take_Msg, noLL_Msg, hCl]
      repeat refine And.intro (by omega) ?_
      refine hK13 _ ?_
      refine J0 ?_
      simp
      refine hK10 _ (J0 ?_)
      simp
      refine hK (xs.length - (j + 1)) _ (by omega) ⟨i + 1, j + 1, C.take (i * 5) ++ (Msg.enc x ++ C.drop (i * 5 + 5)), by omega, by omega, rfl, ?_, ?_, ?_, ?_, ?_, rfl, ?_⟩
      · rw [hf2, List.length_append, hfl]; rfl
      · simp only [List.length_append, List.length_take, List.length_drop, hCl, len_Msg]; omega
      · rw [hf2, List.flatMap_append, ← hCt, ← List.append_assoc, List.take_append_of_le_length (by simp only [List.length_append, List.length_take, hCl, len_Msg]; omega), List.take_of_length_le (by simp only [List.length_append, List.length_take, hCl, len_Msg]; omega)]
        simp
      · rw [← hCd2, List.drop_append, List.drop_of_length_le (by simp only [List.length_take, hCl]; omega), List.nil_append, List.length_take, hCl, List.drop_append, List.drop_of_length_le (by rw [len_Msg]; omega), List.nil_append, len_Msg, List.drop_drop]
        congr 1
        omega
      · simp
        rw [w64 (by omega) (by omega), w64 (by omega) (by omega)]
        exact ⟨rfl, rfl⟩
      · funext m
        by_cases hm : m = k
        · subst hm; simp
        · simp [hm]
    · have hpx : p x = true := by simpa using hd
      have hf2 : (xs.take (j + 1)).filter (fun x => !p x) = (xs.take j).filter (fun x => !p x) := by
        rw [List.take_add_one, hxj, List.filter_append]; simp [hpx]
      simp only [thenQ, blockQ]
      refine hK10 _ (J0 ?_)
      simp
      refine hK (xs.length - (j + 1)) _ (by omega) ⟨i, j + 1, C, by omega, by omega, rfl, by rw [hf2, hfl], hCl, by rw [hf2, hCt], hCd2, ?_, rfl, rfl⟩
      simp
      rw [w64 (by omega) (by omega)]
  · simp at hc
    have hje : j = xs.length := by omega
    subst hje
    rw [List.take_of_length_le (Nat.le_refl _)] at hfl hCt
    simp only [thenQ, blockQ, if_true]
    refine hK6 _ ?_
    refine J_reveal 0 (l := .h k) (es := 5) (n := xs.length) (by omega) (by simp) (cs := C) (by simp) fun cap hc1 hc2 hc3 => ?_
    simp only [maxLen] at hc3
    simp
    refine J_seq' fun K14 hK14 => J0 ?_
    simp [show i < cap from by omega, hCl]
    repeat refine And.intro (by omega) ?_
    refine hK14 _ (J_seq' fun K15 hK15 => J0 ?_)
    simp
    repeat refine And.intro (by omega) ?_
    refine hK15 _ ?_
    refine J_forget 4 (l := .h k) (es := 5) (off := 0) (n := i) (cap := cap) (by simp) ?_
    simp
    refine J_trunc (.h k) (by simp; rfl) (i * 5) ?_
    simp
    refine J_ret (hF _ _ ?_)
    simp [Tryz.f248]
    rw [hfl]
    refine .mk k (.inl rfl) (fun m h1 h2 => by simp [h2]) ?_
    show (if k = k then some _ else _) = some _
    rw [if_pos rfl, List.take_append_of_le_length (by rw [List.length_take, hCl]; omega), List.take_take, Nat.min_self, hCt]
theorem TAt.sub {N : TN} {t : Turn} {F F' H : Heap} (h : TAt N t F' H) (hF : ∀ m cs, F m = some cs → F' m = some cs) : TAt N t F H := by
  obtain ⟨cls, P, ⟨a, b, c⟩, d⟩ := h
  exact ⟨cls, P, ⟨a, b, fun m cs hm => c m cs (hF m cs hm)⟩, d⟩
theorem TAt.plus {N : TN} {t : Turn} {F H : Heap} (h : TAt N t F H) (n : Nat) (hn : H n = none) (cs : List AV) : TAt N t (F.put n (some cs)) (H.put n (some cs)) := by
  obtain ⟨cls, P, ⟨a, b, c⟩, d⟩ := h
  have hno : n ∉ (objs N t cls P).map (·.1) := by
    intro hx
    obtain ⟨e, he, rfl⟩ := List.mem_map.mp hx
    rw [b e he] at hn; cases hn
  refine ⟨cls, P, ⟨a, fun e he => ?_, fun m c' hm => ?_⟩, d⟩
  · have : e.1 ≠ n := fun h => hno (h ▸ List.mem_map_of_mem (f := Prod.fst) he)
    simp [this, b e he]
  · by_cases hmn : m = n
    · subst hmn
      simp at hm ⊢
      exact ⟨fun x hx => hno (List.mem_map.mpr ⟨_, hx, rfl⟩), hm⟩
    · simp [hmn] at hm ⊢
      have := c m c' hm
      exact ⟨fun x hx => this.1 (List.mem_map.mpr ⟨_, hx, rfl⟩), this.2⟩
def topicIs (w : ByteArray) (y : Msg) : Bool := sEq y.topic w
theorem topicIs_fun (y m : Msg) (n : Nat) (H : Heap) (hn : H n = some m.enc) : PCalls Tryz.prog 249 [.agg y.enc, .p (.h n) 0] H fun e H' => e = .ret (abool (topicIs m.topic y)) ∧ H' = H := by
  refine PCalls.of_J' D_ok Tryz.func249 rfl (by decide) (le' rfl) fun E QF hF => ?_
  change J _ E 9 _ _ _
  refine J_seq' fun K1 hK1 => J1 2 ?_
  simp [Msg.enc]
  refine hK1 _ (J_seq' fun K2 hK2 => J1 2 ?_)
  simp [hn, Msg.enc]
  refine hK2 _ (J_ret (hF _ _ ?_))
  simp [Tryz.f249, topicIs]
def keepT (m : Msg) (t : Turn) : Except Int Turn :=
  if isE m.body then .ok { t with core := { t.core with kept := t.core.kept.filter fun y => !topicIs m.topic y } } else
  if ¬ (t.core.kept.filter fun y => !topicIs m.topic y).length < 16 then .error 34 else
  .ok { t with core := { t.core with kept := insAt (bsearch (fun x => byTopicM x m) (t.core.kept.filter fun y => !topicIs m.topic y)) m (t.core.kept.filter fun y => !topicIs m.topic y) } }
theorem keepT_fun (N : TN) (t : Turn) (m : Msg) (F H : Heap) (hf : CFit t.core) (hm : MsgFit m) (h : TAt N t F H) : PCalls Tryz.prog 196 [.p (.h N.x) 0, .agg m.enc] H (TurnQ N F (keepT m t)) := by
  refine PCalls.of_J' D_ok Tryz.func196 rfl (by decide) (le' rfl) fun E QF hF => ?_
  change J _ E 53 _ _ _
  refine J_seq' fun K1 hK1 => J0 ?_
  simp [Msg.enc]
  refine hK1 _ (J_escape 3 (cs := m.enc) (by simp [lookL, Msg.enc]) (noLL_Msg m) fun n hn => ?_)
  have hn : H n = none := hn
  refine J_has (T := [(0, .p (.h N.x) 0), (3, .p (.h n) 0)]) (L := []) (H := H.put n (some m.enc)) ⟨by simp [AS.esc, renSf, AV.ren, escF], by simp [AS.esc, renLf], by simp [AS.esc]⟩ ?_
  have hT := h.plus n hn m.enc
  have hFF : ∀ k cs, F k = some cs → (F.put n (some m.enc)) k = some cs := by
    intro k cs hk
    have : k ≠ n := by rintro rfl; rw [h.keeps _ _ hk] at hn; cases hn
    simp [this, hk]
  have hFn : (F.put n (some m.enc)) n = some m.enc := by simp
  generalize F.put n (some m.enc) = F1 at hT hFF hFn
  generalize H.put n (some m.enc) = H0 at hT
  have hkeep := hT.keeps
  have h0 := hT
  obtain ⟨cls, P, hO, hcl⟩ := h0
  have hn0 : H0 n = some m.enc := hkeep _ _ hFn
  have hx : H0 N.x = some (xrow N t.out.length) := hO.get _ _ (by simp [objs])
  have hc : H0 N.c = some (crow N t.core cls.length) := hO.get _ _ (by simp [objs])
  have hk : H0 N.k = some (t.core.kept.flatMap Msg.enc) := hO.get _ _ (by simp [objs])
  have hnN : ∀ e ∈ objs N t cls P, e.1 ≠ n := fun e he hen => (hO.2.2 n _ hFn).1 (List.mem_map.mpr ⟨e, he, hen⟩)
  have hnk : n ≠ N.k := Ne.symm (hnN (N.k, t.core.kept.flatMap Msg.enc) (by simp [objs]))
  refine J_seq' fun K2 hK2 => J0 ?_
  simp
  refine hK2 _ (J_seq' fun K3 hK3 => D0 [0,1,2,3,4,5,6,7,8,9,10,11,13,14] [12,15] (fun t => match t with | 12 => [0,1,2,3,13,14] | _ => []) rfl (by decide) (by decide) ?_)
  simp [hx, hc, xrow, crow]
  refine (delf_MsgS t.core.kept hf.nk 249 [.p (.h n) 0] rfl (topicIs m.topic) H0 N.k (fun y _ H1 hH1 => topicIs_fun y m n H1 (by rw [hH1 n hnk, hn0])) hk).mono ?_
  rintro r H1 hrow
  obtain ⟨k1, rfl, hx1, hc1, hT1⟩ := row_k hO hcl _ rfl hrow
  simp [hc1, hx1, xrow, crow]
  refine ⟨⟨True, _, ⟨trivial, rfl⟩, trivial, rfl⟩, ?_⟩
  obtain ⟨t1, ht1⟩ : ∃ t1 : Turn, t1 = { t with core := { t.core with kept := t.core.kept.filter fun y => !topicIs m.topic y } } := ⟨_, rfl⟩
  obtain ⟨N1, hN1⟩ : ∃ N1 : TN, N1 = { N with k := k1 } := ⟨_, rfl⟩
  have hkk : t1.core.kept = t.core.kept.filter fun y => !topicIs m.topic y := by rw [ht1]
  have hres : keepT m t = if isE m.body then .ok t1 else if ¬ t1.core.kept.length < 16 then .error 34 else .ok { t1 with core := { t1.core with kept := insAt (bsearch (fun x => byTopicM x m) t1.core.kept) m t1.core.kept } } := by rw [ht1]; rfl
  rw [hres] at hF
  have hkl : t1.core.kept.length ≤ 2000000 := by rw [hkk]; exact Nat.le_trans (List.length_filter_le _ _) hf.nk
  have n1 : N1.x = N.x := by rw [hN1]
  have n2 : N1.c = N.c := by rw [hN1]
  obtain ⟨H2, hH2⟩ : ∃ H2 : Heap, H2 = fun m => if m = N.c then some (crow N1 t1.core cls.length) else H1 m := ⟨_, rfl⟩
  have hT2 : TAt N1 t1 F1 H2 := by rw [hH2, hN1, ht1]; exact hT1
  clear hT1
  refine hK3 _ (J_has (T := [(0, .p (.h N.x) 0), (3, .p (.h n) 0), (4, .fn 247 [])]) (L := []) (H := H2) ⟨by simp, rfl, by simp [hH2, hN1, ht1, crow]⟩ ?_)
  have hkeep2 := hT2.keeps
  have hn2 : H2 n = some m.enc := hkeep2 _ _ hFn
  have h2 := hT2
  obtain ⟨cls2, P2, hO2, hcl2⟩ := h2
  have hx2 : H2 N.x = some (xrow N1 t1.out.length) := by rw [← n1]; exact hO2.get _ _ (by simp [objs])
  have hc2 : H2 N.c = some (crow N1 t1.core cls2.length) := by rw [← n2]; exact hO2.get _ _ (by simp [objs])
  have hk2 : H2 N1.k = some (t1.core.kept.flatMap Msg.enc) := hO2.get _ _ (by simp [objs])
  clear hx hc hk hO hcl hkeep hT hx1 hc1
  refine J_seq' fun K4 hK4 => J_seq' fun K5 hK5 => J0 ?_
  simp [hn2, Msg.enc, sEq_empty, sEq_empty']
  refine hK5 _ (J_cond rfl (fun hd => ?_) fun hd => J_skip ?_)
  · have he : isE m.body = true := by simpa using hd
    refine J_ret (hF _ _ ?_)
    rw [if_pos he]
    simp [Tryz.f196, TurnQ]
    exact ⟨N1, n1, n2, hT2.sub hFF⟩
  have he : isE m.body = false := by simpa using hd
  rw [if_neg (by rw [he]; simp)] at hF
  simp only [thenQ]
  refine hK4 _ (J_seq' fun K6 hK6 => J0 ?_)
  by_cases hl : t1.core.kept.length < 16
  rotate_left
  · simp [hx2, hc2, xrow, crow, n2, show ¬ (t1.core.kept.length : Int) < 16 from by omega]
    refine unless_ff 34 (hF _ _ ?_)
    simp [hl, stop]
    exact TurnQ.err (fun k cs hk => hkeep2 k cs (hFF k cs hk))
  rw [if_neg (by omega)] at hF
  simp [hx2, hc2, xrow, crow, n2, show (t1.core.kept.length : Int) < 16 from by omega]
  refine unless_tt 34 fun v => ?_
  simp
  refine hK6 _ (J_seq' fun K7 hK7 => J0 ?_)
  simp [hn2, Msg.enc]
  refine (clone_Pro m.props hm.props).call ?_
  simp [hn2, Msg.enc]
  refine hK7 _ (J_has (T := [(0, .p (.h N.x) 0), (3, .p (.h n) 0), (4, .fn 247 [])]) (L := []) (H := H2) ⟨by simp, rfl, by
    simp
    exact heap_same (by rw [hn2]; simp [Msg.enc])⟩ ?_)
  refine D0 [0,1,2,3,4,5,6,7,8,9,10,11,12,14,15] [13,16] (fun t => match t with | 13 => [0,1,2,3,14,15] | _ => []) rfl (by decide) (by decide) ?_
  simp [hx2, hc2, xrow, crow, n2, hn2, len_Msg, noLL_Msg, take_Msg]
  refine (insert_Msg t1.core.kept hkl m 247 byTopicM (fun x _ => byTopicM_fun247 x m) H2 N1.k hk2).mono ?_
  rintro r H3 hrow
  have hbl := bsearch_le (fun x => byTopicM x m) t1.core.kept
  have hil := insAt_len hbl m
  obtain ⟨k3, rfl, hx3, hc3, hT3⟩ := row_k hO2 hcl2 _ hil.symm hrow
  rw [n1] at hx3
  rw [n2] at hc3
  simp [hc3, hx3, xrow, crow, n2]
  refine ⟨⟨True, _, ⟨trivial, rfl⟩, trivial, rfl⟩, ?_⟩
  refine hF _ _ ?_
  simp [Tryz.f196, TurnQ]
  refine ⟨{ N1 with k := k3 }, n1, n2, ?_⟩
  simpa [crow, n2] using hT3.sub hFF
end
section
attribute [local simp] plainOp Heap.put flen_Cl noLLf_Cl killf_Cl D_36 D_42 D_33 D_50 D_77 D_37 D_24 D_25 D_26 D_27 D_28 D_87 D_30 D_54 D_46 D_89 D_105 D_103 D_102 D_35 D_101 D_80 D_118 D_124 D_121 D_31 D_257 D_244 D_131 D_130
attribute [local simp ↓] evTsR evQsh evQh
attribute [-simp] List.length_flatMap
def leadsT (c : Core) (o : Tv.Oper) (name : ByteArray) : Bool := if isE o.queue then c.binds.any (leadsB o name) else sEq name o.queue
theorem leadsT_fun (N : TN) (t : Turn) (o : Tv.Oper) (name : ByteArray) (F H : Heap) (hf : CFit t.core) (hof : OFit o) (h : TAt N t F H) : PCalls Tryz.prog 194 [.p (.h N.x) 0, .agg o.enc, astr name] H fun r H' => r = .ret (abool (leadsT t.core o name)) ∧ H' = H := by
  obtain ⟨cls, P, hO, hcl⟩ := h
  have hx : H N.x = some (xrow N t.out.length) := hO.get _ _ (by simp [objs])
  have hc : H N.c = some (crow N t.core cls.length) := hO.get _ _ (by simp [objs])
  have hb : H N.b = some (t.core.binds.flatMap Bind.enc) := hO.get _ _ (by simp [objs])
  refine PCalls.of_J' D_ok Tryz.func194 rfl (by decide) (le' rfl) fun E QF hF => ?_
  change J _ E 23 _ _ _
  refine J_seq' fun K1 hK1 => J2 4 5 ?_
  simp [Oper.enc, Msg.enc]
  refine hK1 _ (J_seq' fun K2 hK2 => J_seq' fun K3 hK3 => J2 4 5 ?_)
  simp [sEq_empty, sEq_empty']
  refine hK3 _ (J_cond rfl (fun hd => ?_) fun hd => J_skip ?_)
  · have he : isE o.queue = false := by simpa using hd
    refine J_seq' fun K4 hK4 => J2 4 5 ?_
    simp
    refine hK4 _ (J_ret (hF _ _ ?_))
    simp [Tryz.f194, leadsT, he]
  have he : isE o.queue = true := by simpa using hd
  simp only [thenQ]
  refine hK2 _ (J_has (T := [(0, .p (.h N.x) 0), (4, .vp o.enc), (5, .vp [astr name])]) (L := []) (H := H) ⟨by simp [Oper.enc, Msg.enc], by simp, by simp⟩ ?_)
  refine J_seq' fun K5 hK5 => J2 4 5 ?_
  simp [hx, hc, xrow, crow, noLL_Oper]
  refine (containsH_Bind t.core.binds hf.nb 245 [.vp [astr name], .vp o.enc] (by simp [noLL_Oper]) (leadsB o name) (fun b hb => leadsB_fun b o name (hf.b b hb) hof.m.topic) H N.b hb).mono ?_
  rintro e H' ⟨rfl, hHe⟩
  obtain rfl : H = H' := hHe.symm
  simp
  refine hK5 _ (J_ret (hF _ _ ?_))
  simp [Tryz.f194, leadsT, he]
theorem push_fit {q : Queue} {m : Msg} (hq : QFit q) (hm : MsgFit m) : QFit (push q m).1 := by
  unfold push
  split
  · exact noQueue_fit
  split
  · exact noQueue_fit
  split
  · exact noQueue_fit
  rename_i h1 h2 h3
  have hg : qGood q = true := by
    rcases Bool.eq_false_or_eq_true (qGood q) with e | e
    · exact e
    · exact absurd (.inl e) h1
  have := good_len hg
  refine ⟨hq.name, ?_, hq.held, fun x hx => ?_, hq.hm⟩
  · show (q.items ++ [_]).length ≤ _
    rw [List.length_append]; simp; omega
  · rcases List.mem_append.mp hx with hx | hx
    · exact hq.im x hx
    · simp at hx; subst hx; exact hm
def pubStep (o : Tv.Oper) (t : Turn) (i : Nat) : Except Int Turn := match t.core.queues[i]? with
  | none => .ok t
  | some q => if leadsT t.core o q.name && (decide (o.msg.til = 0) || decide (t.core.now < o.msg.til)) then put t i (push q o.msg) else .ok t
def pubEnd (o : Tv.Oper) (t : Turn) : Except Int Turn := if o.keep then keepT o.msg t else .ok t
def pubRest (o : Tv.Oper) (t : Turn) : Except Int Turn :=
  if !isE o.queue && decide (atQ t.core.queues o.queue < 0) then .error 33 else
  match stepsQ (pubStep o) t.core.queues.length 0 t with
  | .error e => .error e
  | .ok t' => pubEnd o t'
def publishT (o : Tv.Oper) (t : Turn) : Except Int Turn :=
  if !msgOk o.msg then .error 36 else
  if isE o.text then pubRest o t else
  match noteT o t with
  | .error e => .error e
  | .ok (t1, b) => if b then .ok t1 else pubRest o t1
theorem noteAdd_same {o : Tv.Oper} {t t1 : Turn} (h : noteAdd o t = .ok t1) : t1.core.now = t.core.now ∧ t1.core.queues = t.core.queues ∧ t1.core.binds = t.core.binds ∧ t1.core.subs = t.core.subs ∧ t1.core.kept = t.core.kept ∧ t1.out = t.out := by
  unfold noteAdd at h
  split at h
  · cases h; exact ⟨rfl, rfl, rfl, rfl, rfl, rfl⟩
  · split at h
    · cases h
    · cases h; exact ⟨rfl, rfl, rfl, rfl, rfl, rfl⟩
theorem notePk_same {o : Tv.Oper} {i : Nat} {t t1 : Turn} {b : Bool} (h : notePk o i t = .ok (t1, b)) : t1.core.now = t.core.now ∧ t1.core.queues = t.core.queues ∧ t1.core.binds = t.core.binds ∧ t1.core.subs = t.core.subs ∧ t1.core.kept = t.core.kept ∧ t1.out = t.out := by
  unfold notePk at h
  split at h
  · cases h
  · split at h
    · cases h; exact ⟨rfl, rfl, rfl, rfl, rfl, rfl⟩
    · split at h
      · cases h
      · cases h; exact ⟨rfl, rfl, rfl, rfl, rfl, rfl⟩
theorem noteT_ok {o : Tv.Oper} {t t1 : Turn} {b : Bool} (h : noteT o t = .ok (t1, b)) : wordOk o.text = true ∧ packet o.n = true ∧ ∃ t0, noteAdd o t = .ok t0 ∧ notePk o (bsearch (byClient o.text) t.core.clients) t0 = .ok (t1, b) := by
  unfold noteT at h
  split at h
  · cases h
  rename_i h1
  split at h
  · cases h
  rename_i h2
  refine ⟨by simpa using h1, by simpa using h2, ?_⟩
  split at h
  · cases h
  · rename_i t0 h0; exact ⟨t0, h0, h⟩
theorem noteT_same {o : Tv.Oper} {t t1 : Turn} {b : Bool} (h : noteT o t = .ok (t1, b)) : t1.core.now = t.core.now ∧ t1.core.queues = t.core.queues ∧ t1.core.binds = t.core.binds ∧ t1.core.subs = t.core.subs ∧ t1.core.kept = t.core.kept ∧ t1.out = t.out := by
  obtain ⟨_, _, t0, h1, h2⟩ := noteT_ok h
  obtain ⟨a1, a2, a3, a4, a5, a6⟩ := noteAdd_same h1
  obtain ⟨b1, b2, b3, b4, b5, b6⟩ := notePk_same h2
  exact ⟨b1.trans a1, b2.trans a2, b3.trans a3, b4.trans a4, b5.trans a5, b6.trans a6⟩
theorem noteT_fit {o : Tv.Oper} {t t1 : Turn} {b : Bool} (h : noteT o t = .ok (t1, b)) (hf : CFit t.core) (hof : OFit o) : CFit t1.core := by
  obtain ⟨s1, s2, s3, s4, s5, _⟩ := noteT_same h
  obtain ⟨_, _, t0, h1, h2⟩ := noteT_ok h
  have hc0 : t0.core.clients.length ≤ 2000000 ∧ ∀ x ∈ t0.core.clients, x.packets.length ≤ 2000000 ∧ x.name.size ≤ 1099511627776 := by
    unfold noteAdd at h1
    split at h1
    · cases h1; exact ⟨hf.nc, hf.c⟩
    · split at h1
      · cases h1
      · cases h1
        have hl := insAt_len (bsearch_le (byClient o.text) t.core.clients) (⟨o.text, []⟩ : Client)
        refine ⟨?_, fun x hx => ?_⟩
        · show (insAt _ _ _).length ≤ _
          rw [hl]; omega
        · rcases insAt_mem hx with rfl | hx
          · exact ⟨by simp, by have := hof.t; show o.text.size ≤ _; omega⟩
          · exact hf.c x hx
  have hc1 : t1.core.clients.length ≤ 2000000 ∧ ∀ x ∈ t1.core.clients, x.packets.length ≤ 2000000 ∧ x.name.size ≤ 1099511627776 := by
    unfold notePk at h2
    split at h2
    · cases h2
    · rename_i k hk
      split at h2
      · cases h2; exact hc0
      · split at h2
        · cases h2
        · cases h2
          refine ⟨by simpa using hc0.1, fun x hx => ?_⟩
          rcases List.mem_or_eq_of_mem_set hx with hx | rfl
          · exact hc0.2 x hx
          · have hl := insAt_len (bsearch_le (ncmp o.n) k.packets) o.n
            refine ⟨?_, (hc0.2 k (List.mem_of_getElem? hk)).2⟩
            show (insAt _ _ _).length ≤ _
            rw [hl]; omega
  exact ⟨by rw [s2]; exact hf.nq, by rw [s3]; exact hf.nb, by rw [s4]; exact hf.ns, by rw [s5]; exact hf.nk, hc1.1, by rw [s2]; exact hf.q, by rw [s3]; exact hf.b, by rw [s5]; exact hf.k, hc1.2⟩
theorem NoteQ.split {N : TN} {F H' : Heap} {m : Except Int (Turn × Bool)} {r : AE} (h : NoteQ N F m r H') : (∃ e, m = .error e ∧ r = .panic (stop e) ∧ ∀ k cs, F k = some cs → H' k = some cs) ∨ ∃ t' b, m = .ok (t', b) ∧ r = .ret (abool b) ∧ ∃ N', N'.x = N.x ∧ N'.c = N.c ∧ TAt N' t' F H' := by
  cases m with
  | error e => exact .inl ⟨e, rfl, h.1, h.2⟩
  | ok p => obtain ⟨t', b⟩ := p; exact .inr ⟨t', b, rfl, h.1, h.2⟩
theorem pubStep_len {o : Tv.Oper} {t t' : Turn} {i : Nat} (h : pubStep o t i = .ok t') : t'.core.queues.length = t.core.queues.length ∧ t'.out = t.out := by
  unfold pubStep at h
  split at h
  · cases h; exact ⟨rfl, rfl⟩
  · split at h
    · exact ⟨put_len h, by unfold put at h; split at h; · cases h
                           · cases h; rfl⟩
    · cases h; exact ⟨rfl, rfl⟩
theorem publishT_fun (N : TN) (t : Turn) (o : Tv.Oper) (F H : Heap) (hf : CFit t.core) (hof : OFit o) (h : TAt N t F H) : PCalls Tryz.prog 122 [.p (.h N.x) 0, .agg o.enc] H (TurnQ N F (publishT o t)) := by
  have hkeep := h.keeps
  refine PCalls.of_J' D_ok Tryz.func122 rfl (by decide) (le' rfl) fun E QF hF => ?_
  change J _ E 79 _ _ _
  refine J_seq' fun K1 hK1 => J1 3 ?_
  simp [Oper.enc, Msg.enc]
  refine hK1 _ (J_has (T := [(0, .p (.h N.x) 0), (3, .vp o.enc)]) (L := []) (H := H) ⟨by simp [Oper.enc, Msg.enc], by simp, by simp⟩ ?_)
  have hmsg : List.take 5 (List.drop 9 o.enc) = o.msg.enc := rfl
  refine J_seq' fun K2 hK2 => J1 3 ?_
  simp [Oper.enc, Msg.enc]
  refine PCalls.mono (show PCalls Tryz.prog 20 [.agg o.msg.enc] H _ from message_fun o.msg hof.m.topic hof.m.props hof.m.names H) ?_
  rintro r H' ⟨rfl, hHe⟩
  obtain rfl : H = H' := hHe.symm
  rcases Bool.eq_false_or_eq_true (msgOk o.msg) with hm | hm
  rotate_left
  · rw [hm]
    simp
    refine unless_ff 36 (hF _ _ ?_)
    simp [publishT, hm, stop]
    exact TurnQ.err hkeep
  rw [hm]
  simp
  refine unless_tt 36 fun v => ?_
  simp
  have hres : publishT o t = if isE o.text then pubRest o t else match noteT o t with
      | .error e => .error e
      | .ok (t1, b) => if b then .ok t1 else pubRest o t1 := by
    simp only [publishT, hm]
    rw [if_neg (by simp)]
  rw [hres] at hF
  refine hK2 _ (J_has (T := [(0, .p (.h N.x) 0), (3, .vp o.enc)]) (L := []) (H := H) ⟨by simp [Oper.enc, Msg.enc], by simp, by simp⟩ ?_)
  refine J_seq' fun K3 hK3 => ?_
  have rest : ∀ (S : Slots) (L : List (Nat × List AV)) (H1 : Heap) (N1 : TN) (t1 : Turn), (∀ e s, retQ D Tryz.f122.results.toList (TurnQ N F (pubRest o t1)) e s → QF e s) → CFit t1.core → N1.x = N.x → N1.c = N.c → TAt N1 t1 F H1 → subS [(0, .p (.h N.x) 0), (3, .vp o.enc)] S → K3 ⟨S, L, H1⟩ := by
    clear hF hres hK2 hK1
    intro S L H1 N1 t1 hF hf1 n1 n2 hT1 hS
    have hkeep1 := hT1.keeps
    have h0 := hT1
    obtain ⟨cls, P, hO, hcl⟩ := h0
    have hx : H1 N.x = some (xrow N1 t1.out.length) := by rw [← n1]; exact hO.get _ _ (by simp [objs])
    have hc : H1 N.c = some (crow N1 t1.core cls.length) := by rw [← n2]; exact hO.get _ _ (by simp [objs])
    refine hK3 _ (J_has (T := [(0, .p (.h N.x) 0), (3, .vp o.enc)]) (L := L) (H := H1) ⟨hS, rfl, rfl⟩ ?_)
    refine J_seq' fun K5 hK5 => J_seq' fun K6 hK6 => J1 3 ?_
    simp [Oper.enc, Msg.enc, sEq_empty, sEq_empty']
    have loop : ∀ (S : Slots) (L : List (Nat × List AV)), (∀ e s, retQ D Tryz.f122.results.toList (TurnQ N F (match stepsQ (pubStep o) t1.core.queues.length 0 t1 with
        | .error e => .error e
        | .ok t' => pubEnd o t')) e s → QF e s) → subS [(0, .p (.h N.x) 0), (3, .vp o.enc)] S → K5 ⟨S, L, H1⟩ := by
      clear hF
      intro S L hF hS
      refine hK5 _ (J_has (T := [(0, .p (.h N.x) 0), (3, .vp o.enc)]) (L := L) (H := H1) ⟨hS, rfl, rfl⟩ ?_)
      refine J_seq' fun K7 hK7 => J_seq' fun K8 hK8 => J1 3 ?_
      simp [hx, hc, xrow, crow, n2]
      obtain ⟨n, hn⟩ : ∃ n, t1.core.queues.length = n := ⟨_, rfl⟩
      have hnl := hf1.nq
      rw [hn] at hF hnl
      refine hK8 _ (J_block ?_)
      refine J_loop' (fun m s' => ∃ (i : Nat) (t' : Turn), i ≤ n ∧ m = n - i ∧ t'.core.queues.length = n ∧ CFit t'.core ∧ TAt N1 t' F s'.H ∧ stepsQ (pubStep o) (n - i) i t' = stepsQ (pubStep o) n 0 t1 ∧ Has [(0, .p (.h N.x) 0), (3, .vp o.enc), (31, .os (.h N1.q) 7 0 n), (32, aint n), (33, aint i)] s'.L s'.H s') (n := n) ⟨0, t1, by omega, by omega, hn, hf1, hT1, rfl, by simp [hn, Oper.enc, Msg.enc]⟩ ?_
      rintro m s' ⟨i, t', hi, hm, hl', hf', hT', hst, hs'⟩ K hK
      refine J_has hs' ?_
      generalize s'.H = H3 at hT'
      generalize s'.L = L3
      refine J_seq' fun K9 hK9 => J1 3 ?_
      simp
      refine hK9 _ (J_seq' fun K10 hK10 => J_cond rfl (fun hc => J_skip ?_) fun hc => J_exit ?_)
      rotate_left
      · simp at hc
        have hie : i = n := by omega
        subst hie
        have hst' : stepsQ (pubStep o) i 0 t1 = .ok t' := by rw [← hst, Nat.sub_self]; rfl
        rw [hst'] at hF
        simp only at hF
        simp only [thenQ, blockQ, if_true]
        have h4 := hT'
        obtain ⟨cls4, P4, hO4, hcl4⟩ := h4
        refine hK7 _ (J_seq' fun K14 hK14 => J1 3 ?_)
        simp [Oper.enc, Msg.enc]
        refine hK14 _ (J_cond rfl (fun hd => ?_) fun hd => J_skip ?_)
        · have hk : o.keep = true := by simpa using hd
          refine J1 3 ?_
          simp
          rw [← n1]
          refine PCalls.mono (show PCalls Tryz.prog 196 [.p (.h N1.x) 0, .agg o.msg.enc] H3 _ from keepT_fun N1 t' o.msg F H3 hf' hof.m hT') ?_
          rintro r H4 hQ
          have hpe : pubEnd o t' = keepT o.msg t' := by simp only [pubEnd, hk]; rfl
          rw [hpe] at hF
          rcases hQ.split with ⟨e, he, rfl, hk⟩ | ⟨t5, v, he, rfl, N5, m1, m2, hT5⟩
          · simp [stop]
            refine hF _ _ ?_
            simp [he]
            exact ⟨rfl, hk⟩
          · simp
            refine hF _ _ ?_
            simp [Tryz.f122, he]
            exact ⟨⟨_, rfl⟩, N5, m1.trans n1, m2.trans n2, hT5⟩
        · have hk : o.keep = false := by simpa using hd
          have hpe : pubEnd o t' = .ok t' := by simp only [pubEnd, hk]; rfl
          rw [hpe] at hF
          refine hF _ _ ?_
          simp [Tryz.f122]
          exact ⟨⟨_, rfl⟩, N1, n1, n2, hT'⟩
      simp at hc
      simp only [thenQ, blockQ]
      have h4 := hT'
      obtain ⟨cls4, P4, hO4, hcl4⟩ := h4
      have hx4 : H3 N.x = some (xrow N1 t'.out.length) := by rw [← n1]; exact hO4.get _ _ (by simp [objs])
      have hc4 : H3 N.c = some (crow N1 t'.core cls4.length) := by rw [← n2]; exact hO4.get _ _ (by simp [objs])
      have hq4 : H3 N1.q = some (t'.core.queues.flatMap Queue.enc) := hO4.get _ _ (by simp [objs])
      obtain ⟨q, hqi⟩ : ∃ q, t'.core.queues[i]? = some q := ⟨_, List.getElem?_eq_getElem (by omega)⟩
      have hmem : q ∈ t'.core.queues := List.mem_of_getElem? hqi
      have hqa := at_Queue t'.core.queues hqi
      refine hK10 _ (J_seq' fun K11 hK11 => J_block (J_seq' fun K12 hK12 => J1 3 ?_))
      simp [hq4, hqa, noLL_Queue, len_Queue, kill_Queue]
      repeat refine And.intro (by omega) ?_
      refine hK12 _ (J_has (T := [(0, .p (.h N.x) 0), (3, .vp o.enc), (4, aint i), (5, .p (.l 5) 0), (31, .os (.h N1.q) 7 0 n), (32, aint n), (33, aint i)]) (L := (5, q.enc) :: renL L3 5) (H := H3) ⟨by simp, rfl, rfl⟩ ?_)
      generalize renL L3 5 = L4
      have next : ∀ (S : Slots) (L : List (Nat × List AV)) (H5 : Heap) (t5 : Turn), pubStep o t' i = .ok t5 → CFit t5.core → TAt N1 t5 F H5 → subS [(0, .p (.h N.x) 0), (3, .vp o.enc), (31, .os (.h N1.q) 7 0 n), (32, aint n), (33, aint i)] S → K11 ⟨S, L, H5⟩ := by
        intro S L H5 t5 hps hf5 hT5 hS
        refine hK11 _ (J_has (T := [(0, .p (.h N.x) 0), (3, .vp o.enc), (31, .os (.h N1.q) 7 0 n), (32, aint n), (33, aint i)]) (L := L) (H := H5) ⟨hS, rfl, rfl⟩ (J1 3 ?_))
        simp
        refine hK (n - (i + 1)) _ (by omega) ⟨i + 1, t5, by omega, rfl, (pubStep_len hps).1.trans hl', hf5, hT5, ?_, ?_⟩
        · rw [← hst, show n - i = (n - (i + 1)) + 1 from by omega, stepsQ_succ, hps]
        · simp
          rw [w64 (by omega) (by omega)]
      have hlead := leadsT_fun N1 t' o q.name F H3 hf' hof hT'
      rw [n1] at hlead
      have hps : pubStep o t' i = if leadsT t'.core o q.name && (decide (o.msg.til = 0) || decide (t'.core.now < o.msg.til)) then put t' i (push q o.msg) else .ok t' := by
        simp only [pubStep, hqi]
      refine J_seq' fun K13 hK13 => J_drawH D_ok (cfg := ⟨79, fun k => k == 3⟩) [0,1,2,3,4,5,6,7,8,9,10,11,12,13,14,15,16,17,18,19,20,21,22,23] [] (fun _ => []) rfl (by decide) (by decide) ?_
      have stay : ∀ (S : Slots), pubStep o t' i = .ok t' → subS [(0, .p (.h N.x) 0), (3, .vp o.enc), (31, .os (.h N1.q) 7 0 n), (32, aint n), (33, aint i), (61, abool false)] S → K13 ⟨S, (5, q.enc) :: L4, H3⟩ := by
        intro S hps hS
        refine hK13 _ (J_has (T := [(0, .p (.h N.x) 0), (3, .vp o.enc), (31, .os (.h N1.q) 7 0 n), (32, aint n), (33, aint i), (61, abool false)]) (L := (5, q.enc) :: L4) (H := H3) ⟨hS, rfl, rfl⟩ (J_cond rfl (fun hd => by simp at hd) fun hd => J_skip ?_))
        simp only [thenQ, blockQ]
        exact next _ _ H3 t' hps hf' hT' (by simp)
      have goes : ∀ (S : Slots), pubStep o t' i = put t' i (push q o.msg) → subS [(0, .p (.h N.x) 0), (3, .vp o.enc), (4, aint i), (5, .p (.l 5) 0), (31, .os (.h N1.q) 7 0 n), (32, aint n), (33, aint i), (61, abool true)] S → K13 ⟨S, (5, q.enc) :: L4, H3⟩ := by
        intro S hps hS
        refine hK13 _ (J_has (T := [(0, .p (.h N.x) 0), (3, .vp o.enc), (4, aint i), (5, .p (.l 5) 0), (31, .os (.h N1.q) 7 0 n), (32, aint n), (33, aint i), (61, abool true)]) (L := (5, q.enc) :: L4) (H := H3) ⟨hS, rfl, rfl⟩ (J_cond rfl (fun hd => ?_) fun hd => by simp at hd))
        refine D1 3 [0,1,2,3,4,5,6,7,8] [9] (fun _ => []) rfl (by decide) (by decide) ?_
        simp
        rw [← n1]
        refine ⟨_, putf_fun N1 i, ?_⟩
        simp [len_Queue, take_Queue, noLL_Queue, len_Oper]
        refine ⟨noLL_Msg _, _, push_fun q o.msg (hf'.q q hmem) hof.m, ?_⟩
        simp [noLL_Queue]
        refine (putN_fun N1 t' F H3 (push q o.msg).1 (push q o.msg).2 i (by omega) hT').mono ?_
        rintro r H5 hQ
        rw [show ((push q o.msg).1, (push q o.msg).2) = push q o.msg from rfl, ← hps] at hQ
        rcases hQ.split with ⟨e, he, rfl, hk⟩ | ⟨t5, v, he, rfl, hT5⟩
        · simp [stop]
          have hst' : stepsQ (pubStep o) n 0 t1 = .error e := by
            rw [← hst, show n - i = (n - (i + 1)) + 1 from by omega, stepsQ_succ, he]
          rw [hst'] at hF
          refine hF _ _ ?_
          simp
          exact ⟨rfl, hk⟩
        · simp
          refine next _ _ H5 t5 he ?_ hT5 (by simp [n1])
          rw [hps] at he
          exact put_fit he hf' (push_fit (hf'.q q hmem) hof.m)
      simp only [Oper.enc, Msg.enc] at hlead
      simp [Oper.enc, Msg.enc, Queue.enc]
      refine ⟨_, hlead, ?_⟩
      rcases Bool.eq_false_or_eq_true (leadsT t'.core o q.name) with hle | hle
      rotate_left
      · simp [hle]
        refine stay _ (by rw [hps, hle]; rfl) (by simp [Oper.enc, Msg.enc])
      by_cases h0 : o.msg.til = 0
      · simp [hle, Oper.enc, Msg.enc, h0]
        refine goes _ (by rw [hps, hle]; simp [h0]) (by simp [Oper.enc, Msg.enc, h0])
      · by_cases h1 : t'.core.now < o.msg.til
        · simp [hle, Oper.enc, Msg.enc, h0, h1, hx4, hc4, xrow, crow, n2]
          refine goes _ (by rw [hps, hle]; simp [h1]) (by simp [Oper.enc, Msg.enc])
        · simp [hle, Oper.enc, Msg.enc, h0, h1, hx4, hc4, xrow, crow, n2]
          refine stay _ (by rw [hps, hle]; simp [h0, h1]) (by simp [Oper.enc, Msg.enc])
    refine hK6 _ (J_cond rfl (fun hd => ?_) fun hd => J_skip ?_)
    · have he : isE o.queue = false := by simpa using hd
      refine J1 3 ?_
      simp [Oper.enc, Msg.enc]
      rw [← n1]
      refine (queue_fun N1 t1 F H1 hf1.nq o.queue hT1).mono ?_
      rintro r H' ⟨hHe, rfl⟩
      obtain rfl : H1 = H' := hHe.symm
      rcases Int.lt_or_le (atQ t1.core.queues o.queue) 0 with hneg | hat
      · rw [if_neg (by omega)]
        simp [stop]
        refine hF _ _ ?_
        simp [pubRest, he, hneg]
        exact ⟨rfl, hkeep1⟩
      · rw [if_pos hat]
        simp
        refine loop _ _ ?_ (by simp [n1, Oper.enc, Msg.enc])
        have : pubRest o t1 = match stepsQ (pubStep o) t1.core.queues.length 0 t1 with
          | .error e => .error e
          | .ok t' => pubEnd o t' := by
          simp only [pubRest, he]
          rw [if_neg (by simp; omega)]
        rw [← this]
        exact hF
    · have he : isE o.queue = true := by simpa using hd
      simp only [thenQ]
      refine loop _ _ ?_ (by simp [Oper.enc, Msg.enc])
      have : pubRest o t1 = match stepsQ (pubStep o) t1.core.queues.length 0 t1 with
        | .error e => .error e
        | .ok t' => pubEnd o t' := by
        simp only [pubRest, he]
        rw [if_neg (by simp)]
      rw [← this]
      exact hF
  refine J_seq' fun K4 hK4 => J1 3 ?_
  rcases Bool.eq_false_or_eq_true (isE o.text) with he | he
  · rw [if_pos he] at hF
    simp [Oper.enc, Msg.enc, sEq_empty, sEq_empty', he]
    refine hK4 _ (J_cond rfl (fun hd => by simp at hd) fun hd => J_skip ?_)
    simp only [thenQ]
    exact rest _ _ H N t hF hf rfl rfl h (by simp [Oper.enc, Msg.enc])
  · rw [if_neg (by rw [he]; simp)] at hF
    simp [Oper.enc, Msg.enc, sEq_empty, sEq_empty', he]
    refine PCalls.mono (show PCalls Tryz.prog 193 [.p (.h N.x) 0, .agg o.enc] H _ from noteT_fun N t o F H hf hof h) ?_
    rintro r H4 hQ
    rcases hQ.split with ⟨e, hn, rfl, hk⟩ | ⟨t', b, hn, rfl, N', m1, m2, hT'⟩
    · simp [stop]
      refine hF _ _ ?_
      simp [hn]
      exact ⟨rfl, hk⟩
    · rw [hn] at hF
      simp only at hF
      simp
      refine hK4 _ (J_cond rfl (fun hd => ?_) fun hd => J_skip ?_)
      · have hb : b = true := by simpa using hd
        subst hb
        refine J_ret (hF _ _ ?_)
        simp [Tryz.f122, TurnQ]
        exact ⟨N', m1, m2, hT'⟩
      · have hb : b = false := by simpa using hd
        subst hb
        simp only [thenQ]
        exact rest _ _ H4 N' t' hF (noteT_fit hn hf hof) m1 m2 hT' (by simp [Oper.enc, Msg.enc])
end
section
def bkey (b : Tv.Bind) : ByteArray × ByteArray := (b.queue, b.pattern)
def skey (s : Tv.Sub) : Int × Int := (s.conn, s.sub)
def pcmp (a b : ByteArray × ByteArray) : Int := or2 (scmp a.1 b.1) (scmp a.2 b.2)
def ncmp2 (a b : Int × Int) : Int := or2 (icmp a.1 b.1) (icmp a.2 b.2)
theorem pcmp_cmp : Cmp pcmp := scmp_cmp.pair scmp_cmp
theorem ncmp2_cmp : Cmp ncmp2 := icmp_cmp.pair icmp_cmp
def hasQ (qs : List Queue) (w : ByteArray) : Prop := ∃ q ∈ qs, q.name = w
theorem atQ_has {qs : List Queue} {w : ByteArray} : 0 ≤ atQ qs w ↔ hasQ qs w := by
  unfold atQ
  rcases idx_spec (nameIs w) qs with ⟨h1, h2⟩ | ⟨i, q, h1, h2, h3, _⟩
  · rw [h1]
    constructor
    · intro h; omega
    · rintro ⟨q, hq, e⟩
      have := h2 q hq
      unfold nameIs at this
      rw [(sEq_iff _ _).mpr e] at this
      cases this
  · rw [h1]
    constructor
    · intro _; exact ⟨q, List.mem_of_getElem? h2, (sEq_iff _ _).mp h3⟩
    · intro _; omega
theorem atQ_at {qs : List Queue} {w : ByteArray} (h : 0 ≤ atQ qs w) : ∃ i q, atQ qs w = ((i : Nat) : Int) ∧ qs[i]? = some q ∧ i < qs.length ∧ q.name = w := by
  unfold atQ at *
  rcases idx_spec (nameIs w) qs with ⟨h1, h2⟩ | ⟨i, q, h1, h2, h3, _⟩
  · rw [h1] at h; omega
  · refine ⟨i, q, h1, h2, ?_, (sEq_iff _ _).mp h3⟩
    rcases Nat.lt_or_ge i qs.length with h' | h'
    · exact h'
    · rw [List.getElem?_eq_none h'] at h2; cases h2
structure SOk (qs : List Queue) (s : Tv.Sub) : Prop where
  q : hasQ qs s.queue
  conn : conn s.conn s.sub = true
  win1 : 1 ≤ s.window
  win2 : s.window ≤ 32
structure KOk (k : Client) : Prop where
  name : wordOk k.name = true
  len1 : 1 ≤ k.packets.length
  len2 : k.packets.length ≤ 32
  up : Up icmp id k.packets
  pk : ∀ n ∈ k.packets, packet n = true
structure COk (c : Core) : Prop where
  now1 : 0 ≤ c.now
  now2 : c.now ≤ 1099511627776
  nq : c.queues.length ≤ 16
  nb : c.binds.length ≤ 64
  ns : c.subs.length ≤ 32
  nk : c.kept.length ≤ 16
  nc : c.clients.length ≤ 16
  qs : Up scmp Queue.name c.queues
  bs : Up pcmp bkey c.binds
  ss : Up ncmp2 skey c.subs
  ks : Up scmp Msg.topic c.kept
  cs : Up scmp Client.name c.clients
  q : ∀ x ∈ c.queues, QOk x
  b : ∀ x ∈ c.binds, hasQ c.queues x.queue ∧ patternOk x.pattern = true
  s : ∀ x ∈ c.subs, SOk c.queues x
  k : ∀ m ∈ c.kept, msgOk m = true ∧ isE m.body = false
  c : ∀ k ∈ c.clients, KOk k
theorem any_false {α : Type} {p : α → Bool} {xs : List α} : xs.any p = false ↔ ∀ x ∈ xs, p x = false := by
  rw [List.any_eq_false]
  exact ⟨fun h x hx => by simpa using h x hx, fun h x hx => by simp [h x hx]⟩
theorem badB_iff {qs : List Queue} {b : Tv.Bind} : badB qs b = false ↔ hasQ qs b.queue ∧ patternOk b.pattern = true := by
  simp only [badB, Bool.or_eq_false_iff, decide_eq_false_iff_not, Bool.not_eq_false', Int.not_lt, atQ_has]
theorem badS_iff {qs : List Queue} {s : Tv.Sub} : badS qs s = false ↔ SOk qs s := by
  simp only [badS, Bool.or_eq_false_iff, decide_eq_false_iff_not, Bool.not_eq_false', Int.not_lt, atQ_has]
  exact ⟨fun ⟨⟨⟨a, b⟩, c⟩, d⟩ => ⟨a, b, c, d⟩, fun ⟨a, b, c, d⟩ => ⟨⟨⟨a, b⟩, c⟩, d⟩⟩
theorem badC_iff {k : Client} : badC k = false ↔ KOk k := by
  simp only [badC, Bool.or_eq_false_iff, decide_eq_false_iff_not, Bool.not_eq_false', any_false, rising_iff icmp_cmp (id : Int → Int) (f := icmp) (fun _ _ => rfl)]
  constructor
  · rintro ⟨⟨⟨⟨a, b⟩, c⟩, d⟩, e⟩
    exact ⟨a, by omega, by omega, d, fun n hn => by have := e n hn; unfold badP at this; simpa using this⟩
  · rintro ⟨a, b, c, d, e⟩
    exact ⟨⟨⟨⟨a, by omega⟩, by omega⟩, d⟩, fun n hn => by unfold badP; simp [e n hn]⟩
theorem coreGood_iff (c : Core) : coreGood c = true ↔ COk c := by
  simp only [coreGood, coreHeadBad, coreUnsorted, coreBad, Bool.and_eq_true, Bool.not_eq_true', Bool.or_eq_false_iff, decide_eq_false_iff_not, Bool.not_eq_false', any_false,
    rising_iff scmp_cmp Queue.name (f := byNameQ) (fun _ _ => rfl), rising_iff pcmp_cmp bkey (f := byBind) (fun _ _ => rfl), rising_iff ncmp2_cmp skey (f := bySub) (fun _ _ => rfl), rising_iff scmp_cmp Msg.topic (f := byTopic) (fun _ _ => rfl), rising_iff scmp_cmp Client.name (f := byNameC) (fun _ _ => rfl), badB_iff, badS_iff, badC_iff]
  constructor
  · rintro ⟨⟨⟨⟨⟨⟨⟨⟨a1, a2⟩, a3⟩, a4⟩, a5⟩, a6⟩, a7⟩, ⟨⟨⟨b1, b2⟩, b3⟩, b4⟩, b5⟩, ⟨⟨⟨c1, c2⟩, c3⟩, c4⟩, c5⟩
    exact ⟨by omega, by omega, by omega, by omega, by omega, by omega, by omega, b1, b2, b3, b4, b5, fun x hx => (qGood_iff x).mp (by have := c1 x hx; unfold badQ at this; simpa using this), c2, c3, fun m hm => by have := c4 m hm; unfold badM at this; simpa using this, c5⟩
  · intro h
    refine ⟨⟨⟨⟨⟨⟨⟨⟨?_, ?_⟩, ?_⟩, ?_⟩, ?_⟩, ?_⟩, ?_⟩, ⟨⟨⟨h.qs, h.bs⟩, h.ss⟩, h.ks⟩, h.cs⟩, ⟨⟨⟨fun x hx => ?_, h.b⟩, h.s⟩, fun m hm => ?_⟩, h.c⟩
    · have := h.now1; omega
    · have := h.now2; omega
    · have := h.nq; omega
    · have := h.nb; omega
    · have := h.ns; omega
    · have := h.nk; omega
    · have := h.nc; omega
    · unfold badQ; simp [(h.q x hx).good]
    · unfold badM; simp [(h.k m hm).1, (h.k m hm).2]
theorem COk.empty : COk ⟨0, [], [], [], [], []⟩ := by
  rw [← coreGood_iff]
  decide
theorem COk.queues {c : Core} (h : COk c) {qs : List Queue} (hl : qs.length ≤ 16) (hu : Up scmp Queue.name qs) (hq : ∀ x ∈ qs, QOk x) (hh : ∀ w, hasQ c.queues w → hasQ qs w) : COk { c with queues := qs } :=
  ⟨h.now1, h.now2, hl, h.nb, h.ns, h.nk, h.nc, hu, h.bs, h.ss, h.ks, h.cs, hq, fun x hx => ⟨hh _ (h.b x hx).1, (h.b x hx).2⟩, fun x hx => ⟨hh _ (h.s x hx).q, (h.s x hx).conn, (h.s x hx).win1, (h.s x hx).win2⟩, h.k, h.c⟩
theorem hasQ_set {qs : List Queue} {i : Nat} {q q' : Queue} (hi : qs[i]? = some q) (hn : q'.name = q.name) (w : ByteArray) : hasQ (qs.set i q') w ↔ hasQ qs w := by
  have hil : i < qs.length := by
    rcases Nat.lt_or_ge i qs.length with h' | h'
    · exact h'
    · rw [List.getElem?_eq_none h'] at hi; cases hi
  constructor
  · rintro ⟨x, hx, e⟩
    rcases List.mem_or_eq_of_mem_set hx with hx | rfl
    · exact ⟨x, hx, e⟩
    · exact ⟨q, List.mem_of_getElem? hi, hn.symm.trans e⟩
  · rintro ⟨x, hx, e⟩
    obtain ⟨j, hj⟩ := List.getElem?_of_mem hx
    by_cases hij : i = j
    · subst hij
      rw [hi] at hj; cases hj
      exact ⟨q', List.mem_of_getElem? (List.getElem?_set_self hil), hn.trans e⟩
    · exact ⟨x, List.mem_of_getElem? (by rw [List.getElem?_set_ne hij]; exact hj), e⟩
theorem COk.set {c : Core} (h : COk c) {i : Nat} {q q' : Queue} (hi : c.queues[i]? = some q) (hq : QOk q') (hn : q'.name = q.name) : COk { c with queues := c.queues.set i q' } := by
  refine h.queues (by simpa using h.nq) (h.qs.set _ i hi hn) (fun x hx => ?_) (fun w hw => (hasQ_set hi hn w).mpr hw)
  rcases List.mem_or_eq_of_mem_set hx with hx | rfl
  · exact h.q x hx
  · exact hq
theorem COk.fit {c : Core} (h : COk c) : CFit c := by
  have word : ∀ {w : ByteArray}, wordOk w = true → w.size ≤ 16 := by
    intro w hw
    simp only [wordOk, Bool.and_eq_true, decide_eq_true_eq] at hw
    exact hw.1.2
  have msg : ∀ {m : Msg}, msgOk m = true → MsgFit m := by
    intro m hm
    simp only [msgOk, Bool.and_eq_true, decide_eq_true_eq] at hm
    obtain ⟨⟨⟨⟨h1, _⟩, h3⟩, _⟩, _⟩ := hm
    simp only [topicOk, Bool.and_eq_true, decide_eq_true_eq] at h1
    simp only [validOk, Bool.and_eq_true, decide_eq_true_eq] at h3
    refine ⟨by omega, by omega, fun p hp => ?_⟩
    obtain ⟨i, hi⟩ := List.getElem?_of_mem hp
    have hil : i < m.props.length := by
      rcases Nat.lt_or_ge i m.props.length with h' | h'
      · exact h'
      · rw [List.getElem?_eq_none h'] at hi; cases hi
    have := List.all_eq_true.mp h3.1 i (List.mem_range.mpr hil)
    simp only [proOk, hi, Bool.and_eq_true] at this
    have := word this.1.1
    omega
  have hq : ∀ x ∈ c.queues, QFit x := by
    intro x hx
    have := h.q x hx
    have hl := this.len
    have hd := this.dep2
    exact ⟨by have := word this.name; omega, by omega, by omega, fun y hy => msg (this.ib y hy).msg, fun y hy => msg (this.hb y hy).msg⟩
  refine ⟨by have := h.nq; omega, by have := h.nb; omega, by have := h.ns; omega, by have := h.nk; omega, by have := h.nc; omega, hq, fun x hx => ?_, fun m hm => msg (h.k m hm).1, fun k hk => ⟨?_, ?_⟩⟩
  · have := (h.b x hx).2
    simp only [patternOk, Bool.and_eq_true, decide_eq_true_eq] at this
    omega
  · have := (h.c k hk).len2; omega
  · have := word (h.c k hk).name; omega
theorem setQ_ok {t : Turn} (h : COk t.core) {i : Nat} {q q' : Queue} (hi : t.core.queues[i]? = some q) (hq : QOk q') (hn : q'.name = q.name) : COk (setQ t i q').core := h.set hi hq hn
theorem put_ok {t t' : Turn} {i : Nat} {q : Queue} {r : Queue × Int} (h : COk t.core) (hi : t.core.queues[i]? = some q) (hp : put t i r = .ok t') (hr : r.2 = 0 → QOk r.1 ∧ r.1.name = q.name) : COk t'.core ∧ t'.out = t.out := by
  unfold put at hp
  split at hp
  · cases hp
  · rename_i he
    cases hp
    obtain ⟨a, b⟩ := hr (by simpa using he)
    exact ⟨setQ_ok h hi a b, rfl⟩
theorem withQ_ok {t t' : Turn} {i : Nat} {f : Queue → Queue × Int} (h : COk t.core) (hp : withQ t i f = .ok t') (hr : ∀ q, QOk q → (f q).2 = 0 → QOk (f q).1 ∧ (f q).1.name = q.name) : COk t'.core ∧ t'.out = t.out := by
  unfold withQ at hp
  split at hp
  · rename_i q hq
    exact put_ok h hq hp (hr q (h.q q (List.mem_of_getElem? hq)))
  · cases hp
theorem stepsQ_ok {f : Turn → Nat → Except Int Turn} {I : Turn → Prop} (hf : ∀ t t' i, I t → f t i = .ok t' → I t') : ∀ (n i : Nat) (t t' : Turn), I t → stepsQ f n i t = .ok t' → I t'
  | 0, i, t, t', h, hs => by simp only [stepsQ] at hs; cases hs; exact h
  | n + 1, i, t, t', h, hs => by
    rw [stepsQ_succ] at hs
    split at hs
    · cases hs
    · rename_i t1 h1
      exact stepsQ_ok hf n (i + 1) t1 t' (hf _ _ _ h h1) hs
theorem tick_ok {o : Tv.Oper} {t t' : Turn} (h : COk t.core) (hp : tick o t = .ok t') : COk t'.core ∧ t'.out = t.out := by
  unfold tick at hp
  split at hp
  · rename_i hc
    cases hp
    simp only [Bool.and_eq_true, decide_eq_true_eq] at hc
    exact ⟨⟨by have := h.now1; show 0 ≤ t.core.now + o.n; omega, by show t.core.now + o.n ≤ _; omega, h.nq, h.nb, h.ns, h.nk, h.nc, h.qs, h.bs, h.ss, h.ks, h.cs, h.q, h.b, h.s, h.k, h.c⟩, rfl⟩
  · cases hp
theorem settleT_ok {o : Tv.Oper} {again : Bool} {t t' : Turn} (h : COk t.core) (hp : settleT o again t = .ok t') : COk t'.core ∧ t'.out = t.out := by
  unfold settleT at hp
  split at hp
  · exact withQ_ok h hp fun q hq he => ⟨settle_ok hq he, (settle_name hq he).1⟩
  · cases hp
theorem takeT_okc {t t' : Turn} {i : Nat} {c s : Int} {hold : Bool} (h : COk t.core) (hp : takeT t i c s hold = .ok t') : COk t'.core ∧ t'.out.length = t.out.length + 1 := by
  unfold takeT at hp
  split at hp
  · cases hp
  · rename_i q hq
    simp only at hp
    split at hp
    · cases hp
    · rename_i he
      cases hp
      have he : (take q c s hold).2.2.2 = 0 := by simpa using he
      exact ⟨h.set hq (take_ok (h.q q (List.mem_of_getElem? hq)) he) (take_name he).1, by simp⟩
theorem expireT_ok {t t' : Turn} {i : Nat} (h : COk t.core) (hp : expireT t i = .ok t') : COk t'.core ∧ t'.out = t.out :=
  withQ_ok h hp fun q hq _ => ⟨(expire_ok hq).1, by rw [expire_name hq]⟩
theorem getT_ok {o : Tv.Oper} {t t' : Turn} (h : COk t.core) (hp : getT o t = .ok t') : COk t'.core ∧ t'.out.length = t.out.length + 1 := by
  unfold getT at hp
  split at hp
  · cases hp
  split at hp
  · cases hp
  split at hp
  · cases hp
  · rename_i t1 h1
    obtain ⟨a, b⟩ := expireT_ok h h1
    obtain ⟨c, d⟩ := takeT_okc a hp
    exact ⟨c, by rw [d, b]⟩
theorem COk.subs {c : Core} (h : COk c) {xs : List Tv.Sub} (hs : xs.Sublist c.subs) : COk { c with subs := xs } :=
  ⟨h.now1, h.now2, h.nq, h.nb, Nat.le_trans hs.length_le h.ns, h.nk, h.nc, h.qs, h.bs, h.ss.sub _ hs, h.ks, h.cs, h.q, h.b, fun x hx => h.s x (hs.subset hx), h.k, h.c⟩
theorem detachT_ok {o : Tv.Oper} {t t' : Turn} (h : COk t.core) (hp : detachT o t = .ok t') : COk t'.core ∧ t'.out = t.out := by
  unfold detachT at hp
  split at hp
  · cases hp
  · refine stepsQ_ok (I := fun u => COk u.core ∧ u.out = t.out) (fun u u' i hu he => ?_) _ _ { t with core := { t.core with subs := t.core.subs.filter fun s => !connIs o.conn s } } t' ⟨(show COk { t.core with subs := t.core.subs.filter fun s => !connIs o.conn s } from h.subs List.filter_sublist), rfl⟩ hp
    obtain ⟨a, b⟩ := withQ_ok hu.1 he fun q hq _ => ⟨(release_ok hq).1, (release_name hq).1⟩
    exact ⟨a, b.trans hu.2⟩
theorem unsubT_ok {o : Tv.Oper} {t t' : Turn} (h : COk t.core) (hp : unsubT o t = .ok t') : COk t'.core ∧ t'.out = t.out := by
  unfold unsubT at hp
  split at hp
  · cases hp
  split at hp
  · cases hp
  split at hp
  · cases hp
  · exact withQ_ok (t := { t with core := { t.core with subs := t.core.subs.eraseIdx (idx (subIs o.conn o.sub) t.core.subs).toNat } }) (h.subs (List.eraseIdx_sublist ..)) hp fun q hq _ => ⟨(release_ok hq).1, (release_name hq).1⟩
theorem unbindT_ok {o : Tv.Oper} {t t' : Turn} (h : COk t.core) (hp : unbindT o t = .ok t') : COk t'.core ∧ t'.out = t.out := by
  unfold unbindT at hp
  split at hp
  · cases hp
  · cases hp
    have hs : (t.core.binds.eraseIdx (idx (bindSame ⟨o.queue, o.text⟩) t.core.binds).toNat).Sublist t.core.binds := List.eraseIdx_sublist ..
    exact ⟨⟨h.now1, h.now2, h.nq, Nat.le_trans hs.length_le h.nb, h.ns, h.nk, h.nc, h.qs, h.bs.sub _ hs, h.ss, h.ks, h.cs, h.q, fun x hx => h.b x (hs.subset hx), h.s, h.k, h.c⟩, rfl⟩
theorem removeT_ok {o : Tv.Oper} {t t' : Turn} (h : COk t.core) (hp : removeT o t = .ok t') : COk t'.core ∧ t'.out = t.out := by
  unfold removeT at hp
  split at hp
  · cases hp
  · rename_i hat
    cases hp
    obtain ⟨i, q, h1, h2, h3, h4⟩ := atQ_at (qs := t.core.queues) (w := o.queue) (by omega)
    simp only [h1, Int.toNat_natCast]
    have hsq : (t.core.queues.eraseIdx i).Sublist t.core.queues := List.eraseIdx_sublist ..
    have hsb : (t.core.binds.filter fun b => !bindOf o.queue b).Sublist t.core.binds := List.filter_sublist
    have hss : (t.core.subs.filter fun s => !subOf o.queue s).Sublist t.core.subs := List.filter_sublist
    have hh : ∀ w, w ≠ o.queue → hasQ t.core.queues w → hasQ (t.core.queues.eraseIdx i) w := by
      rintro w hw ⟨x, hx, rfl⟩
      obtain ⟨j, hj⟩ := List.getElem?_of_mem hx
      refine ⟨x, List.mem_eraseIdx_iff_getElem?.mpr ⟨j, ?_, hj⟩, rfl⟩
      rintro rfl
      rw [h2] at hj; cases hj
      exact hw h4
    refine ⟨⟨h.now1, h.now2, Nat.le_trans hsq.length_le h.nq, Nat.le_trans hsb.length_le h.nb, Nat.le_trans hss.length_le h.ns, h.nk, h.nc, h.qs.sub _ hsq, h.bs.sub _ hsb, h.ss.sub _ hss, h.ks, h.cs, fun x hx => h.q x (hsq.subset hx), fun x hx => ?_, fun x hx => ?_, h.k, h.c⟩, by first | rfl | trivial⟩
    · obtain ⟨m1, m2⟩ := List.mem_filter.mp hx
      obtain ⟨a, b⟩ := h.b x m1
      exact ⟨hh _ (by unfold bindOf at m2; simpa [sEq_ne] using m2) a, b⟩
    · obtain ⟨m1, m2⟩ := List.mem_filter.mp hx
      have := h.s x m1
      exact ⟨hh _ (by unfold subOf at m2; simpa [sEq_ne] using m2) this.q, this.conn, this.win1, this.win2⟩
theorem declareT_ok {o : Tv.Oper} {t t' : Turn} (h : COk t.core) (hp : declareT o t = .ok t') : COk t'.core ∧ t'.out = t.out := by
  unfold declareT at hp
  split at hp
  · split at hp
    · cases hp
    · split at hp
      · cases hp; exact ⟨h, rfl⟩
      · cases hp
  · rename_i hat
    simp only at hp
    split at hp
    · cases hp
    rename_i he
    split at hp
    · cases hp
    rename_i hl
    cases hp
    obtain ⟨q1, q2⟩ := newQ_ok (by simpa using he : (newQ o.queue o.durable o.n).2 = 0)
    generalize (newQ o.queue o.durable o.n).1 = q at q1 q2
    have hnm : q.name = o.queue := by rw [q2]
    have hbl := bsearch_le (fun x => byNameQ x q) t.core.queues
    refine ⟨h.queues ?_ ?_ (fun x hx => ?_) (fun w hw => ?_), rfl⟩
    · show (insAt _ _ _).length ≤ 16
      rw [insAt_len hbl]; omega
    · refine h.qs.ins scmp_cmp Queue.name q (fun x => rfl) fun x hx e => hat (atQ_has.mpr ⟨x, hx, ?_⟩)
      rw [← hnm]; exact scmp_cmp.eq _ _ e
    · rcases insAt_mem hx with rfl | hx
      · exact q1
      · exact h.q x hx
    · obtain ⟨x, hx, e⟩ := hw
      exact ⟨x, insAt_iff.mpr (.inr hx), e⟩
theorem bindSame_iff {x y : Tv.Bind} : bindSame y x = true ↔ y = x := by
  unfold bindSame
  rw [Bool.and_eq_true, sEq_iff, sEq_iff]
  obtain ⟨a, b⟩ := x
  obtain ⟨c, d⟩ := y
  simp
theorem bindAdd_ok {o : Tv.Oper} {t t' : Turn} (h : COk t.core) (hq : hasQ t.core.queues o.queue) (hpt : patternOk o.text = true) (hp : bindAdd o t = .ok t') : COk t'.core ∧ t'.out = t.out ∧ t'.core.kept = t.core.kept := by
  unfold bindAdd at hp
  split at hp
  · cases hp; exact ⟨h, rfl, rfl⟩
  rename_i hany
  split at hp
  · cases hp
  rename_i hl
  cases hp
  have hbl := bsearch_le (fun x => byBind x ⟨o.queue, o.text⟩) t.core.binds
  refine ⟨⟨h.now1, h.now2, h.nq, ?_, h.ns, h.nk, h.nc, h.qs, ?_, h.ss, h.ks, h.cs, h.q, fun x hx => ?_, h.s, h.k, h.c⟩, rfl, rfl⟩
  · show (insAt _ _ _).length ≤ 64
    rw [insAt_len hbl]; omega
  · refine h.bs.ins pcmp_cmp bkey ⟨o.queue, o.text⟩ (fun x => rfl) fun x hx e => hany (List.any_eq_true.mpr ⟨x, hx, ?_⟩)
    have := pcmp_cmp.eq (bkey x) (o.queue, o.text) e
    rw [bindSame_iff]
    obtain ⟨a, b⟩ := x
    simp only [bkey, Prod.mk.injEq] at this
    simp [this.1, this.2]
  · rcases insAt_mem hx with rfl | hx
    · exact ⟨hq, hpt⟩
    · exact h.b x hx
theorem bindT_ok {o : Tv.Oper} {t t' : Turn} (h : COk t.core) (hp : bindT o t = .ok t') : COk t'.core ∧ t'.out.length ≤ t.out.length + 16 := by
  unfold bindT at hp
  split at hp
  · cases hp
  rename_i hat
  split at hp
  · cases hp
  rename_i hpt
  split at hp
  · cases hp
  rename_i t1 h1
  obtain ⟨a, b, c⟩ := bindAdd_ok h (atQ_has.mp (by omega)) (by simpa using hpt) h1
  split at hp
  · cases hp; exact ⟨a, by rw [b]; omega⟩
  split at hp
  · cases hp
  · cases hp
    refine ⟨a, ?_⟩
    have hk := a.nk
    have : (keptOuts o t1.core.kept).length ≤ t1.core.kept.length := by
      simp only [keptOuts, List.length_map]
      exact List.length_filter_le _ _
    show (t1.out ++ _).length ≤ _
    rw [List.length_append, b]; omega
theorem subscribeT_ok {o : Tv.Oper} {t t' : Turn} (h : COk t.core) (hp : subscribeT o t = .ok t') : COk t'.core ∧ t'.out = t.out := by
  unfold subscribeT at hp
  split at hp
  · cases hp
  rename_i h1
  split at hp
  · cases hp
  rename_i h2
  split at hp
  · cases hp
  rename_i h3
  split at hp
  · cases hp
  rename_i h4
  cases hp
  simp only [Bool.not_eq_true', Bool.not_eq_false, Bool.and_eq_true, decide_eq_true_eq] at h1
  have hbl := bsearch_le (fun x => bySub x ⟨o.conn, o.sub, o.queue, o.n, o.auto⟩) t.core.subs
  refine ⟨⟨h.now1, h.now2, h.nq, h.nb, ?_, h.nk, h.nc, h.qs, h.bs, ?_, h.ks, h.cs, h.q, h.b, fun x hx => ?_, h.k, h.c⟩, rfl⟩
  · show (insAt _ _ _).length ≤ 32
    rw [insAt_len hbl]; omega
  · refine h.ss.ins ncmp2_cmp skey ⟨o.conn, o.sub, o.queue, o.n, o.auto⟩ (fun x => rfl) fun x hx e => h3 (List.any_eq_true.mpr ⟨x, hx, ?_⟩)
    unfold subSame
    rw [beq_iff_eq]
    exact e
  · rcases insAt_mem hx with rfl | hx
    · exact ⟨atQ_has.mp (Int.not_lt.mp h2), h1.1.1, h1.1.2, h1.2⟩
    · exact h.s x hx
theorem COk.clients {c : Core} (h : COk c) {ks : List Client} (hl : ks.length ≤ 16) (hu : Up scmp Client.name ks) (hk : ∀ k ∈ ks, KOk k) : COk { c with clients := ks } :=
  ⟨h.now1, h.now2, h.nq, h.nb, h.ns, h.nk, hl, h.qs, h.bs, h.ss, h.ks, hu, h.q, h.b, h.s, h.k, hk⟩
theorem forgetT_ok {o : Tv.Oper} {t t' : Turn} (h : COk t.core) (hp : forgetT o t = .ok t') : COk t'.core ∧ t'.out = t.out := by
  unfold forgetT at hp
  split at hp
  · cases hp
  · cases hp
    have hs : (t.core.clients.filter fun k => !clientIs o.text k).Sublist t.core.clients := List.filter_sublist
    exact ⟨h.clients (Nat.le_trans hs.length_le h.nc) (h.cs.sub _ hs) fun k hk => h.c k (hs.subset hk), rfl⟩
theorem releaseT_ok {o : Tv.Oper} {t t' : Turn} (h : COk t.core) (hp : releaseT o t = .ok t') : COk t'.core ∧ t'.out = t.out := by
  unfold releaseT at hp
  split at hp
  · cases hp
  split at hp
  · cases hp; exact ⟨h, rfl⟩
  split at hp
  · cases hp; exact ⟨h, rfl⟩
  rename_i k hk
  unfold leave at hp
  split at hp
  · cases hp
    have hs : (t.core.clients.eraseIdx (bsearch (byClient o.text) t.core.clients)).Sublist t.core.clients := List.eraseIdx_sublist ..
    exact ⟨h.clients (Nat.le_trans hs.length_le h.nc) (h.cs.sub _ hs) fun k hk => h.c k (hs.subset hk), rfl⟩
  · rename_i hne
    cases hp
    have hc := h.c k (List.mem_of_getElem? hk)
    have hs : (k.packets.filter fun n => !(n == o.n)).Sublist k.packets := List.filter_sublist
    refine ⟨h.clients (by simpa using h.nc) (h.cs.set _ _ hk rfl) fun x hx => ?_, rfl⟩
    rcases List.mem_or_eq_of_mem_set hx with hx | rfl
    · exact h.c x hx
    · exact ⟨hc.name, by show 1 ≤ (k.packets.filter _).length; omega, Nat.le_trans hs.length_le hc.len2, hc.up.sub _ hs, fun n hn => hc.pk n (hs.subset hn)⟩
theorem ncmp_lt {y x : Int} : ncmp y x < 0 ↔ icmp x y < 0 := by
  unfold ncmp icmp
  split
  · omega
  · split <;> split <;> omega
theorem ncmp_zero {y x : Int} : ncmp y x = 0 ↔ x = y := by
  unfold ncmp
  split
  · omega
  · split <;> omega
theorem bsearch_ncmp (y : Int) (xs : List Int) : bsearch (ncmp y) xs = bsearch (fun x => icmp x y) xs := by
  have : ltAt (ncmp y) xs = ltAt (fun x => icmp x y) xs := by
    funext i
    unfold ltAt
    cases xs[i]? with
    | none => rfl
    | some x => simp only [ncmp_lt]
  unfold bsearch
  rw [this]
theorem bfound_ncmp (y : Int) (xs : List Int) : bfound (ncmp y) xs = bfound (fun x => icmp x y) xs := by
  unfold bfound
  rw [bsearch_ncmp]
  cases xs[bsearch (fun x => icmp x y) xs]? with
  | none => rfl
  | some x =>
    rcases Decidable.em (x = y) with e | e
    · subst e; simp [ncmp, icmp]
    · have h1 : ncmp y x ≠ 0 := fun h => e (ncmp_zero.mp h)
      have h2 : icmp x y ≠ 0 := fun h => e (icmp_cmp.eq _ _ h)
      show (ncmp y x == 0) = (icmp x y == 0)
      rw [beq_eq_false_iff_ne.mpr h1, beq_eq_false_iff_ne.mpr h2]
theorem pk_ins {ps : List Int} {n : Int} (hu : Up icmp id ps) (hb : bfound (ncmp n) ps = false) : Up icmp id (insAt (bsearch (ncmp n) ps) n ps) := by
  rw [bsearch_ncmp]
  rw [bfound_ncmp] at hb
  refine hu.ins icmp_cmp id n (fun x => rfl) fun x hx e => ?_
  have := (bfound_iff icmp_cmp id hu n (g := fun x => icmp x n) (fun x => rfl)).mpr ⟨x, hx, e⟩
  rw [hb] at this; cases this
theorem noteT_okc {o : Tv.Oper} {t t' : Turn} {b : Bool} (h : COk t.core) (hp : noteT o t = .ok (t', b)) : COk t'.core ∧ t'.out = t.out := by
  obtain ⟨hw, hpk, t0, h1, h2⟩ := noteT_ok hp
  have hout := (noteT_same hp).2.2.2.2.2
  refine ⟨?_, hout⟩
  generalize hi : bsearch (byClient o.text) t.core.clients = i at h2
  have hil : i ≤ t.core.clients.length := by rw [← hi]; exact bsearch_le _ _
  rcases Bool.eq_false_or_eq_true (bfound (byClient o.text) t.core.clients) with hb | hb
  · have e0 : t0 = t := by
      unfold noteAdd at h1
      rw [if_pos hb] at h1
      cases h1; rfl
    subst e0
    unfold notePk at h2
    split at h2
    · cases h2
    rename_i k hk
    have hc := h.c k (List.mem_of_getElem? hk)
    split at h2
    · cases h2; exact h
    rename_i hnf
    split at h2
    · cases h2
    rename_i hlt
    cases h2
    have hbl := bsearch_le (ncmp o.n) k.packets
    refine h.clients (by simpa using h.nc) (h.cs.set _ _ hk rfl) fun x hx => ?_
    rcases List.mem_or_eq_of_mem_set hx with hx | rfl
    · exact h.c x hx
    · refine ⟨hc.name, ?_, ?_, pk_ins hc.up (by simpa using hnf), fun n hn => ?_⟩
      · show 1 ≤ (insAt _ _ _).length; rw [insAt_len hbl]; omega
      · show (insAt _ _ _).length ≤ 32; rw [insAt_len hbl]; omega
      · rcases insAt_mem hn with rfl | hn
        · exact hpk
        · exact hc.pk n hn
  · unfold noteAdd at h1
    rw [if_neg (by rw [hb]; simp)] at h1
    split at h1
    · cases h1
    rename_i hl
    cases h1
    rw [hi] at h2
    have hget : (insAt i (⟨o.text, []⟩ : Client) t.core.clients)[i]? = some ⟨o.text, []⟩ := by
      unfold insAt
      rw [List.getElem?_append_right (by rw [List.length_take]; omega), List.length_take, Nat.min_eq_left hil, Nat.sub_self]
      rfl
    unfold notePk at h2
    simp only [hget] at h2
    obtain ⟨n1, n2⟩ := bs_nil (ncmp o.n)
    rw [if_neg (by rw [n2]; simp), if_neg (by simp)] at h2
    cases h2
    rw [n1]
    have hset : (insAt i (⟨o.text, []⟩ : Client) t.core.clients).set i ⟨o.text, insAt 0 o.n []⟩ = insAt i ⟨o.text, insAt 0 o.n []⟩ t.core.clients := by
      unfold insAt
      rw [List.set_append_right _ _ (by rw [List.length_take]; omega), List.length_take, Nat.min_eq_left hil, Nat.sub_self]
      rfl
    rw [hset]
    refine h.clients ?_ ?_ fun x hx => ?_
    · show (insAt _ _ _).length ≤ 16
      rw [insAt_len hil]; omega
    · rw [← hi]
      refine h.cs.ins scmp_cmp Client.name ⟨o.text, insAt 0 o.n []⟩ (fun x => rfl) fun x hx e => ?_
      have := (bfound_iff scmp_cmp Client.name h.cs o.text (g := byClient o.text) (fun x => rfl)).mpr ⟨x, hx, e⟩
      rw [hb] at this; cases this
    · rcases insAt_mem hx with rfl | hx
      · exact ⟨hw, by simp [insAt], by simp [insAt], by simp [insAt, Up], fun n hn => by simp [insAt] at hn; rw [hn]; exact hpk⟩
      · exact h.c x hx
theorem keepT_ok {m : Msg} {t t' : Turn} (h : COk t.core) (hm : msgOk m = true) (hp : keepT m t = .ok t') : COk t'.core ∧ t'.out = t.out := by
  unfold keepT at hp
  have hs : (t.core.kept.filter fun y => !topicIs m.topic y).Sublist t.core.kept := List.filter_sublist
  have mk : ∀ ks : List Msg, ks.length ≤ 16 → Up scmp Msg.topic ks → (∀ y ∈ ks, msgOk y = true ∧ isE y.body = false) → COk { t.core with kept := ks } := fun ks a b c =>
    ⟨h.now1, h.now2, h.nq, h.nb, h.ns, a, h.nc, h.qs, h.bs, h.ss, b, h.cs, h.q, h.b, h.s, c, h.c⟩
  split at hp
  · cases hp
    exact ⟨mk _ (Nat.le_trans hs.length_le h.nk) (h.ks.sub _ hs) fun y hy => h.k y (hs.subset hy), rfl⟩
  rename_i he
  split at hp
  · cases hp
  rename_i hl
  cases hp
  have hbl := bsearch_le (fun x => byTopicM x m) (t.core.kept.filter fun y => !topicIs m.topic y)
  refine ⟨mk _ ?_ ?_ fun y hy => ?_, rfl⟩
  · rw [insAt_len hbl]; omega
  · refine (h.ks.sub _ hs).ins scmp_cmp Msg.topic m (fun x => rfl) fun x hx e => ?_
    have := (List.mem_filter.mp hx).2
    unfold topicIs at this
    rw [(sEq_iff _ _).mpr (scmp_cmp.eq _ _ e)] at this
    simp at this
  · rcases insAt_mem hy with rfl | hy
    · exact ⟨hm, by simpa using he⟩
    · exact h.k y (hs.subset hy)
theorem pubStep_ok {o : Tv.Oper} {t t' : Turn} {i : Nat} (h : COk t.core) (hp : pubStep o t i = .ok t') : COk t'.core ∧ t'.out = t.out := by
  unfold pubStep at hp
  split at hp
  · cases hp; exact ⟨h, rfl⟩
  rename_i q hq
  split at hp
  · have hqo := h.q q (List.mem_of_getElem? hq)
    exact put_ok h hq hp fun he => ⟨(push_ok hqo he).1, by rw [(push_ok hqo he).2.1]⟩
  · cases hp; exact ⟨h, rfl⟩
theorem pubRest_ok {o : Tv.Oper} {t t' : Turn} (h : COk t.core) (hm : msgOk o.msg = true) (hp : pubRest o t = .ok t') : COk t'.core ∧ t'.out = t.out := by
  unfold pubRest at hp
  split at hp
  · cases hp
  split at hp
  · cases hp
  rename_i t1 h1
  obtain ⟨a, b⟩ := stepsQ_ok (I := fun u => COk u.core ∧ u.out = t.out) (fun u u' i hu he => by
    obtain ⟨a, b⟩ := pubStep_ok hu.1 he
    exact ⟨a, b.trans hu.2⟩) _ _ _ t1 ⟨h, rfl⟩ h1
  unfold pubEnd at hp
  split at hp
  · obtain ⟨c, d⟩ := keepT_ok a hm hp
    exact ⟨c, d.trans b⟩
  · cases hp; exact ⟨a, b⟩
theorem publishT_ok {o : Tv.Oper} {t t' : Turn} (h : COk t.core) (hp : publishT o t = .ok t') : COk t'.core ∧ t'.out = t.out := by
  unfold publishT at hp
  split at hp
  · cases hp
  rename_i hm
  have hm : msgOk o.msg = true := by simpa using hm
  split at hp
  · exact pubRest_ok h hm hp
  split at hp
  · cases hp
  rename_i t1 b h1
  obtain ⟨a, c⟩ := noteT_okc h h1
  split at hp
  · cases hp; exact ⟨a, c⟩
  · obtain ⟨d, e⟩ := pubRest_ok a hm hp
    exact ⟨d, e.trans c⟩
theorem feed_ok {i : Nat} : ∀ (n : Nat) (t t' : Turn), COk t.core → feed n t i = .ok t' → COk t'.core
  | 0, t, t', h, hp => by simp only [feed] at hp; cases hp; exact h
  | n + 1, t, t', h, hp => by
    simp only [feed] at hp
    split at hp
    · cases hp; exact h
    · split at hp
      · cases hp; exact h
      · split at hp
        · cases hp; exact h
        · split at hp
          · cases hp
          · rename_i t1 h1
            exact feed_ok n t1 t' (takeT_okc h h1).1 hp
theorem pumpStep_ok {t t' : Turn} {i : Nat} (h : COk t.core) (hp : pumpStep t i = .ok t') : COk t'.core := by
  unfold pumpStep at hp
  split at hp
  · cases hp
  · rename_i t1 h1
    have a := (expireT_ok h h1).1
    unfold feedAll at hp
    split at hp
    · cases hp; exact a
    · exact feed_ok _ _ _ a hp
theorem pumpT_ok {t t' : Turn} (h : COk t.core) (hp : pumpT t = .ok t') : COk t'.core :=
  stepsQ_ok (I := fun u => COk u.core) (fun u u' i hu he => pumpStep_ok hu he) _ _ _ t' h hp
end
end Go.Proofs.YtpcpljfifipagaaGreatDoor
