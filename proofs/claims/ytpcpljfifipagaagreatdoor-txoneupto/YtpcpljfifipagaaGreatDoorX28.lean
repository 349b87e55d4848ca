/- A part of the proof: the engine that walks Go code, the walks of the broker, or their laws (TT TU TV). -/
import Derived.Test.YtpcpljfifipagaaGreatDoorX13
import Derived.Test.YtpcpljfifipagaaGreatDoorX27
import Derived.Test.YtpcpljfifipagaaGreatDoorX14
set_option linter.unusedSimpArgs false
set_option linter.unusedVariables false
set_option maxHeartbeats 8000000
set_option maxRecDepth 20000
namespace Go.Proofs.YtpcpljfifipagaaGreatDoor
open Go.Eng Go.Tv
attribute [local simp] plainOp flen_Cl noLLf_Cl killf_Cl D_36 D_42 D_33 D_50 D_77 D_37 D_24 D_25 D_26 D_27 D_28 D_87 D_30 D_54 D_46 D_89 D_105 D_103 D_102 D_35 D_101 D_80 D_118 D_124 D_121 D_31 D_257 D_244 D_131 D_130
attribute [local simp ↓] evTsR evQsh evQh
attribute [-simp] List.length_flatMap
section
attribute [local simp] Heap.put AV.hz hzS hzL AV.hfree AV.hfreeL AV.flatOk
theorem hf_flat {α : Type} {enc : α → List AV} (h : ∀ x, AV.hfreeL (enc x) = true) (xs : List α) : AV.hfreeL (xs.flatMap enc) = true := by
  refine hfreeL_of fun x hx => ?_
  obtain ⟨y, _, hy⟩ := List.mem_flatMap.mp hx
  exact hfreeL_mem (h y) x hy
theorem hf_Itm (x : Itm) : AV.hfreeL x.enc = true := rfl
theorem hf_Hold (x : Hold) : AV.hfreeL x.enc = true := rfl
theorem hf_Queue (x : Queue) : AV.hfreeL x.enc = true := rfl
theorem hf_Bind (x : Tv.Bind) : AV.hfreeL x.enc = true := rfl
theorem hf_Sub (x : Tv.Sub) : AV.hfreeL x.enc = true := rfl
theorem hf_Msg (x : Msg) : AV.hfreeL x.enc = true := rfl
theorem hf_Num (x : Int) : AV.hfreeL (Num.enc x) = true := rfl
theorem hf_Client (x : Client) : AV.hfreeL x.enc = true := rfl
theorem hf_Out (x : Out) : AV.hfreeL x.enc = true := rfl
theorem whole {α : Type} {enc : α → List AV} {k : Nat} (h : ∀ x, (enc x).length = k) (xs : List α) : (if 0 + xs.length * k ≤ (xs.flatMap enc).length then AV.sl xs.length (((xs.flatMap enc).drop 0).take (xs.length * k)) else .dead) = asl enc xs := by
  rw [if_pos (by rw [flat_len h]; omega), List.drop_zero, List.take_of_length_le (by rw [flat_len h]; omega)]
theorem take_whole {α : Type} {enc : α → List AV} {k : Nat} (h : ∀ x, (enc x).length = k) (xs : List α) : (xs.flatMap enc).take (xs.length * k) = xs.flatMap enc := List.take_of_length_le (by rw [flat_len h]; omega)
theorem qcopyP_fun (q : Queue) (h1 : q.items.length ≤ 2000000) (h2 : q.held.length ≤ 2000000) (h3 : ∀ x ∈ q.items, x.msg.props.length ≤ 2000000) (h4 : ∀ x ∈ q.held, x.item.msg.props.length ≤ 2000000) : PFun Tryz.prog 114 [.agg q.enc] (.agg q.enc) := by
  intro H
  refine PCalls.turn (qcopy_fun q h1 h2 h3 h4 H) ?_
  rintro r H' ⟨n1, n2, h12, hn1, hn2, rfl, hfr, hc1, hc2⟩
  refine ⟨_, q.enc, H, rfl, ?_, rfl, noLL_Queue q, rfl, rfl⟩
  have w1 := take_whole len_Itm q.items
  have w2 := take_whole len_Hold q.held
  refine (Turns.hfrz n1 (cs := q.items.flatMap Itm.enc) hc1 (hf_flat hf_Itm _) (noLLf_Itm _) (by simp [qcells]) (by simp)).trans ?_
  refine (Turns.hfrz n2 (cs := q.held.flatMap Hold.enc) (by simp [Ne.symm h12, hc2]) (hf_flat hf_Hold _) (noLLf_Hold _) (by simp [qcells, Ne.symm h12, w1]) (by simp)).trans ?_
  have hsame : (⟨enumS 0 q.enc, [], H⟩ : AS) = { (⟨enumS 0 q.enc, [], (H'.put n1 none).put n2 none⟩ : AS) with H := H } := rfl
  have hS : hzS n2 (q.held.flatMap Hold.enc) (hzS n1 (q.items.flatMap Itm.enc) (enumS 0 (qcells q n1 n2))) = enumS 0 q.enc := by
    simp [qcells, Queue.enc, Ne.symm h12, w1, w2]
  refine Turns.trans (s' := ⟨enumS 0 q.enc, [], (H'.put n1 none).put n2 none⟩) (by
    rw [← hS]
    exact Turns.refl _) ?_
  refine Turns.weakH fun m cs hm => ?_
  have a : m ≠ n1 := by rintro rfl; rw [hn1] at hm; cases hm
  have b : m ≠ n2 := by rintro rfl; rw [hn2] at hm; cases hm
  simp [a, b, hfr m a b, hm]
def cobjs (N : TN) (c : Core) (l : List AV) (P : List (Nat × List AV)) : List (Nat × List AV) :=
  (N.q, c.queues.flatMap Queue.enc) :: (N.b, c.binds.flatMap Bind.enc) :: (N.s, c.subs.flatMap Sub.enc) :: (N.k, c.kept.flatMap Msg.enc) :: (N.l, l) :: P
theorem Owns.nil (H : Heap) : Owns [] H H := ⟨by simp, by simp, fun m cs h => ⟨by simp, h⟩⟩
theorem Owns.add {O : List (Nat × List AV)} {F H H' : Heap} (h : Owns O F H) {n : Nat} (hn : H n = none) {cs : List AV} (h1 : ∀ m, m ≠ n → H' m = H m) (h2 : H' n = some cs) : Owns ((n, cs) :: O) F H' := by
  obtain ⟨a, b, c⟩ := h
  have hno : n ∉ O.map (·.1) := by
    intro hx
    obtain ⟨e, he, rfl⟩ := List.mem_map.mp hx
    rw [b e he] at hn; cases hn
  refine ⟨List.nodup_cons.mpr ⟨hno, a⟩, fun e he => ?_, fun m c' hm => ?_⟩
  · rcases List.mem_cons.mp he with rfl | he
    · exact h2
    · have : e.1 ≠ n := fun h => hno (h ▸ List.mem_map_of_mem (f := Prod.fst) he)
      rw [h1 _ this, b e he]
  · obtain ⟨c1, c2⟩ := c m c' hm
    have hmn : m ≠ n := by rintro rfl; rw [hn] at c2; cases c2
    refine ⟨fun hx => ?_, by rw [h1 m hmn, c2]⟩
    rcases List.mem_cons.mp hx with hx | hx
    · exact hmn hx
    · exact c1 hx
theorem Owns.perm {O O' : List (Nat × List AV)} {F H : Heap} (h : Owns O F H) (hp : O.Perm O') : Owns O' F H := by
  obtain ⟨a, b, c⟩ := h
  refine ⟨(hp.map _).nodup_iff.mp a, fun e he => b e (hp.mem_iff.mpr he), fun m cs hm => ?_⟩
  obtain ⟨c1, c2⟩ := c m cs hm
  exact ⟨fun hx => c1 ((hp.map _).mem_iff.mpr hx), c2⟩
theorem copyH_fun (c : Core) (hf : CFit c) (H : Heap) : PCalls Tryz.prog 39 [.agg c.enc] H fun e H' => ∃ N cls P, e = .ret (.agg (crow N c cls.length)) ∧ Owns (cobjs N c (cls.flatMap Cl.enc) P) H H' ∧ ClsAre c.clients cls P ∧ ∀ k ∈ cls, k.loc ≠ none := by
  refine PCalls.of_J' D_ok Tryz.func39 rfl (by decide) (le' rfl) fun E QF hF => ?_
  change J _ E 81 _ _ _
  refine J_seq' fun K1 hK1 => J0 ?_
  simp [Core.enc]
  refine hK1 _ (J_seq' fun K2 hK2 => D0 [0,1,3,4,6,7,9,10,12,13,15,17,19,21,23] [2,5,8,11,14,16,18,20,22,24] (fun t => match t with | 2 => [3,4,6,7,9,10,12,13,15,17,19,21,23] | 5 => [6,7,9,10,12,13,15,17,19,21,23] | 8 => [9,10,12,13,15,17,19,21,23] | 11 => [12,13,15,17,19,21,23] | 14 => [15,17,19,21,23] | 16 => [17,19,21,23] | 18 => [19,21,23] | 20 => [21,23] | 22 => [23] | _ => []) rfl (by decide) (by decide) ?_)
  simp
  refine (cloneH_Queue c.queues hf.nq H).mono ?_
  rintro e H1 ⟨nq, hq0, rfl, hq1, hq2⟩
  simp
  refine (cloneH_Bind c.binds hf.nb H1).mono ?_
  rintro e H2 ⟨nb, hb0, rfl, hb1, hb2⟩
  simp
  refine (cloneH_Sub c.subs hf.ns H2).mono ?_
  rintro e H3 ⟨ns, hs0, rfl, hs1, hs2⟩
  simp
  refine (cloneH_Msg c.kept hf.nk H3).mono ?_
  rintro e H4 ⟨nk, hk0, rfl, hk1, hk2⟩
  simp
  refine (cloneH_Client c.clients hf.nc H4).mono ?_
  rintro e H5 ⟨nl, hl0, rfl, hl1, hl2⟩
  simp
  have o1 := (Owns.nil H).add hq0 hq1 hq2
  have o2 := o1.add hb0 hb1 hb2
  have o3 := o2.add hs0 hs1 hs2
  have o4 := o3.add hk0 hk1 hk2
  have o5 := o4.add hl0 hl1 hl2
  obtain ⟨N, hN⟩ : ∃ N : TN, N = ⟨0, 0, nq, nb, ns, nk, nl, 0⟩ := ⟨_, rfl⟩
  have hO : Owns (cobjs N c (c.clients.flatMap Client.enc) []) H H5 := by
    refine o5.perm ?_
    rw [hN]
    simp only [cobjs]
    exact (List.reverse_perm _).symm
  have hq : H5 N.q = some (c.queues.flatMap Queue.enc) := hO.get _ _ (by simp [cobjs])
  have hk : H5 N.k = some (c.kept.flatMap Msg.enc) := hO.get _ _ (by simp [cobjs])
  obtain ⟨Z, hZ⟩ : ∃ Z, Z = AV.ofVs [.int .i64 0, .slice none 0 0, .slice none 0 0, .slice none 0 0, .slice none 0 0, .slice none 0 0] := ⟨_, rfl⟩
  refine hK2 _ (J_has (T := [(1, .p (.l 1) 0), (2, .p (.l 2) 0)]) (L := [(2, Z), (1, crow N c c.clients.length)]) (H := H5) ⟨by simp, by simp [hN, crow, hZ], rfl⟩ ?_)
  have hnq := hf.nq
  have hnk := hf.nk
  have hnc := hf.nc
  clear hq0 hq1 hq2 hb0 hb1 hb2 hs0 hs1 hs2 hk0 hk1 hk2 hl0 hl1 hl2 o1 o2 o3 o4 o5 hK1 hK2
  refine J_seq' fun K3 hK3 => J_seq' fun K4 hK4 => J0 ?_
  simp [crow, hq]
  refine hK4 _ (J_block ?_)
  refine J_loop' (fun m s' => ∃ (i : Nat), i ≤ c.queues.length ∧ m = c.queues.length - i ∧ Has [(1, .p (.l 1) 0), (2, .p (.l 2) 0), (28, .os (.h N.q) 7 0 c.queues.length), (29, aint c.queues.length), (30, aint i)] [(2, Z), (1, crow N c c.clients.length)] H5 s') (n := c.queues.length) ⟨0, by omega, by omega, by simp [crow]⟩ ?_
  rintro m s' ⟨i, hi, hm, hs'⟩ K hK
  refine J_has hs' ?_
  refine J_seq' fun K5 hK5 => J0 ?_
  simp
  refine hK5 _ (J_seq' fun K6 hK6 => J_cond rfl (fun hc => J_skip ?_) fun hc => J_exit ?_)
  · simp at hc
    obtain ⟨x, hxi⟩ : ∃ x, c.queues[i]? = some x := ⟨_, List.getElem?_eq_getElem (by omega)⟩
    have hat := at_Queue c.queues hxi
    have hxf := hf.q x (List.mem_of_getElem? hxi)
    simp only [thenQ, blockQ]
    refine hK6 _ (J_seq' fun K7 hK7 => J_block (J_seq' fun K8 hK8 => J0 ?_))
    simp [hq, hat, len_Queue, noLL_Queue, kill_Queue]
    repeat refine And.intro (by omega) ?_
    refine hK8 _ (J_has (T := [(1, .p (.l 1) 0), (2, .p (.l 2) 0), (3, aint i), (4, .p (.l 4) 0), (28, .os (.h N.q) 7 0 c.queues.length), (29, aint c.queues.length), (30, aint i)]) (L := [(4, x.enc), (2, Z), (1, crow N c c.clients.length)]) (H := H5) ⟨by simp, by simp [hZ, crow], rfl⟩ ?_)
    refine D0 [0,1,2,3,4,5] [6] (fun _ => []) rfl (by decide) (by decide) ?_
    simp [crow, len_Queue, take_Queue, noLL_Queue]
    refine ⟨_, qcopyP_fun x hxf.items hxf.held (fun y hy => (hxf.im y hy).props) (fun y hy => (hxf.hm y hy).props), ?_⟩
    simp [hq, len_Queue, noLL_Queue]
    repeat refine And.intro (by omega) ?_
    rw [put_same _ _ _ 7 hat rfl, heap_same hq]
    refine hK7 _ (J_subL [(2, Z), (1, crow N c c.clients.length)] (fun k cs => ?_) ?_)
    · simp only [lookL]
      split
      · rename_i e; subst e; simp
      · split
        · rename_i e; subst e; simp [crow]
        · intro h; cases h
    refine J_has (T := [(1, .p (.l 1) 0), (2, .p (.l 2) 0), (28, .os (.h N.q) 7 0 c.queues.length), (29, aint c.queues.length), (30, aint i)]) (L := [(2, Z), (1, crow N c c.clients.length)]) (H := H5) ⟨by simp, rfl, rfl⟩ (J0 ?_)
    simp
    refine hK (c.queues.length - (i + 1)) _ (by omega) ⟨i + 1, by omega, rfl, ?_⟩
    simp
    rw [w64 (by omega) (by omega)]
  clear hK5 hK
  simp only [thenQ, blockQ, if_true]
  refine hK3 _ (J_has (T := [(1, .p (.l 1) 0), (2, .p (.l 2) 0)]) (L := [(2, Z), (1, crow N c c.clients.length)]) (H := H5) ⟨by simp, rfl, rfl⟩ ?_)
  clear hK3 hK4 hs' hm hi hc
  refine J_seq' fun K9 hK9 => J_seq' fun K10 hK10 => J0 ?_
  simp [crow, hk]
  refine hK10 _ (J_block ?_)
  refine J_loop' (fun m s' => ∃ (i : Nat), i ≤ c.kept.length ∧ m = c.kept.length - i ∧ Has [(1, .p (.l 1) 0), (2, .p (.l 2) 0), (44, aint c.kept.length), (45, aint i)] [(2, Z), (1, crow N c c.clients.length)] H5 s') (n := c.kept.length) ⟨0, by omega, by omega, by simp [crow]⟩ ?_
  rintro m s' ⟨i, hi, hm, hs'⟩ K hK
  refine J_has hs' ?_
  refine J_seq' fun K11 hK11 => J0 ?_
  simp
  refine hK11 _ (J_seq' fun K12 hK12 => J_cond rfl (fun hc => J_skip ?_) fun hc => J_exit ?_)
  · simp at hc
    obtain ⟨x, hxi⟩ : ∃ x, c.kept[i]? = some x := ⟨_, List.getElem?_eq_getElem (by omega)⟩
    have hat := at_Msg c.kept hxi
    have hat2 := cell_at hat 2 (asl Pro.enc x.props) rfl
    have hxf := hf.k x (List.mem_of_getElem? hxi)
    simp only [thenQ, blockQ]
    refine hK12 _ (J_seq' fun K13 hK13 => J_block (J_seq' fun K14 hK14 => J0 ?_))
    simp
    refine hK14 _ (D0 [0,1,2,3,4,5,6,7,8,9,10,11] [12] (fun _ => []) rfl (by decide) (by decide) ?_)
    simp [crow, hk, hat2]
    repeat refine And.intro (by omega) ?_
    refine ⟨_, clone_Pro x.props hxf.props, ?_⟩
    simp [hk]
    repeat refine And.intro (by omega) ?_
    have hsame : List.take (i * 5 + 2) (c.kept.flatMap Msg.enc) ++ asl Pro.enc x.props :: List.drop (i * 5 + 2 + 1) (c.kept.flatMap Msg.enc) = c.kept.flatMap Msg.enc := by
      rw [← hat2, List.take_append_drop]
    rw [hsame, heap_same hk]
    refine hK13 _ (J_has (T := [(1, .p (.l 1) 0), (2, .p (.l 2) 0), (44, aint c.kept.length), (45, aint i)]) (L := [(2, Z), (1, crow N c c.clients.length)]) (H := H5) ⟨by simp, by simp [crow], rfl⟩ (J0 ?_))
    simp
    refine hK (c.kept.length - (i + 1)) _ (by omega) ⟨i + 1, by omega, rfl, ?_⟩
    simp
    rw [w64 (by omega) (by omega)]
  clear hK11 hK
  simp only [thenQ, blockQ, if_true]
  refine hK9 _ (J_has (T := [(1, .p (.l 1) 0), (2, .p (.l 2) 0)]) (L := [(2, Z), (1, crow N c c.clients.length)]) (H := H5) ⟨by simp, rfl, rfl⟩ ?_)
  clear hK9 hK10 hs' hm hi hc
  have hl : H5 N.l = some (c.clients.flatMap Client.enc) := hO.get _ _ (by simp [cobjs])
  refine J_seq' fun K15 hK15 => J_seq' fun K16 hK16 => J0 ?_
  simp [crow, hl]
  refine hK16 _ (J_block ?_)
  refine J_loop' (fun m s' => ∃ (i : Nat) (cls : List Cl) (P : List (Nat × List AV)), i ≤ c.clients.length ∧ m = c.clients.length - i ∧ cls.length = i ∧ ClsAre (c.clients.take i) cls P ∧ (∀ k ∈ cls, k.loc ≠ none) ∧ Owns (cobjs N c (cls.flatMap Cl.enc ++ (c.clients.drop i).flatMap Client.enc) P) H s'.H ∧ Has [(1, .p (.l 1) 0), (2, .p (.l 2) 0), (63, aint c.clients.length), (64, aint i)] [(2, Z), (1, crow N c c.clients.length)] s'.H s') (n := c.clients.length) ⟨0, [], [], by omega, by omega, rfl, ⟨rfl, by simp, by simp⟩, by simp, by simpa using hO, by simp [crow]⟩ ?_
  clear hO hq hk hl
  rintro m s' ⟨i, cls, P, hi, hm, hcl1, hcl, hloc, hO, hs'⟩ K hK
  refine J_has hs' ?_
  generalize s'.H = H6 at hO
  have hl : H6 N.l = some (cls.flatMap Cl.enc ++ (c.clients.drop i).flatMap Client.enc) := hO.get _ _ (by simp [cobjs])
  refine J_seq' fun K17 hK17 => J0 ?_
  simp
  refine hK17 _ (J_seq' fun K18 hK18 => J_cond rfl (fun hc => J_skip ?_) fun hc => J_exit ?_)
  · simp at hc
    obtain ⟨x, hxi⟩ : ∃ x, c.clients[i]? = some x := ⟨_, List.getElem?_eq_getElem (by omega)⟩
    have hxf := hf.c x (List.mem_of_getElem? hxi)
    have hA : (cls.flatMap Cl.enc).length = i * 2 := by rw [flen_Cl, hcl1]
    have hdr := drop_at hxi
    obtain ⟨C, hC⟩ : ∃ C, C = cls.flatMap Cl.enc ++ (c.clients.drop i).flatMap Client.enc := ⟨_, rfl⟩
    have hClen : C.length = c.clients.length * 2 := by
      rw [hC, List.length_append, hA, flen_Client, List.length_drop]; omega
    have hat : C.drop (i * 2 + 1) = asl Num.enc x.packets :: (c.clients.drop (i + 1)).flatMap Client.enc := by
      rw [hC, ← List.drop_drop, ← hA, List.drop_left, hdr]
      rfl
    have htk : C.take (i * 2 + 1) = cls.flatMap Cl.enc ++ [astr x.name] := by
      rw [hC, List.take_append, List.take_of_length_le (by omega), hA, show i * 2 + 1 - i * 2 = 1 from by omega, hdr]
      rfl
    rw [← hC] at hl
    simp only [thenQ, blockQ]
    refine hK18 _ (J_seq' fun K19 hK19 => J_block (J_seq' fun K20 hK20 => J0 ?_))
    simp
    refine hK20 _ (D0 [0,1,2,3,4,5,6,7,8,10,11] [9,12] (fun t => match t with | 9 => [0,1,2,10,11] | _ => []) rfl (by decide) (by decide) ?_)
    simp [crow, hl, hat, hClen]
    repeat refine And.intro (by omega) ?_
    refine (cloneH_Num x.packets hxf.1 H6).mono ?_
    rintro e H7 ⟨p, hp0, rfl, hp1, hp2⟩
    have hpl : p ≠ N.l := by rintro rfl; rw [hl] at hp0; cases hp0
    have hl7 : H7 N.l = some C := by rw [hp1 _ (Ne.symm hpl), hl]
    simp [hl7, hClen]
    repeat refine And.intro (by omega) ?_
    have hnew : C.take (i * 2 + 1) ++ AV.os (.h p) 1 0 x.packets.length :: C.drop (i * 2 + 1 + 1) = (cls ++ [(⟨x.name, x.packets, some p⟩ : Cl)]).flatMap Cl.enc ++ (c.clients.drop (i + 1)).flatMap Client.enc := by
      have : C.drop (i * 2 + 1 + 1) = (c.clients.drop (i + 1)).flatMap Client.enc := by
        rw [← List.drop_drop, hat]; rfl
      rw [htk, this]
      simp [Cl.enc]
    rw [hnew]
    obtain ⟨H8, hH8⟩ : ∃ H8 : Heap, H8 = fun m => if m = N.l then some ((cls ++ [(⟨x.name, x.packets, some p⟩ : Cl)]).flatMap Cl.enc ++ (c.clients.drop (i + 1)).flatMap Client.enc) else H7 m := ⟨_, rfl⟩
    have o1 := hO.add hp0 hp1 hp2
    have o2 := Owns.replace (pre := (p, x.packets.flatMap Num.enc) :: (N.q, c.queues.flatMap Queue.enc) :: (N.b, c.binds.flatMap Bind.enc) :: (N.s, c.subs.flatMap Sub.enc) :: (N.k, c.kept.flatMap Msg.enc) :: []) (n := N.l) (post := P) (by rw [← hC] at o1; exact o1) (H' := H8) (n' := N.l) (cs' := (cls ++ [(⟨x.name, x.packets, some p⟩ : Cl)]).flatMap Cl.enc ++ (c.clients.drop (i + 1)).flatMap Client.enc) (.inl rfl) (by rw [hH8]; simp) (fun m a b => by rw [hH8]; simp [a])
    have o3 : Owns (cobjs N c ((cls ++ [(⟨x.name, x.packets, some p⟩ : Cl)]).flatMap Cl.enc ++ (c.clients.drop (i + 1)).flatMap Client.enc) ((p, x.packets.flatMap Num.enc) :: P)) H H8 := by
      refine o2.perm ?_
      simp only [cobjs, List.cons_append, List.nil_append]
      exact (List.perm_middle (l₁ := [(N.q, c.queues.flatMap Queue.enc), (N.b, c.binds.flatMap Bind.enc), (N.s, c.subs.flatMap Sub.enc), (N.k, c.kept.flatMap Msg.enc), (N.l, _)])).symm
    have hcl2 : ClsAre (c.clients.take (i + 1)) (cls ++ [(⟨x.name, x.packets, some p⟩ : Cl)]) ((p, x.packets.flatMap Num.enc) :: P) := by
      obtain ⟨c1, c2, c3⟩ := hcl
      refine ⟨?_, fun k hk => ?_, ?_⟩
      · rw [List.take_add_one, hxi, List.map_append, c1]; rfl
      · rcases List.mem_append.mp hk with hk | hk
        · have := c2 k hk
          unfold ClIs at this ⊢
          cases hkl : k.loc with
          | none => rw [hkl] at this; exact this
          | some q => rw [hkl] at this; exact List.mem_cons_of_mem _ this
        · simp at hk; subst hk
          simp [ClIs]
      · rw [List.filterMap_append]
        refine List.nodup_append.mpr ⟨c3, by simp, fun a ha b hb => ?_⟩
        simp at hb; subst hb
        rintro rfl
        obtain ⟨k, hk, hkl⟩ := List.mem_filterMap.mp ha
        have := c2 k hk
        unfold ClIs at this
        rw [hkl] at this
        have := hO.get a _ (List.mem_append_right [(N.q, c.queues.flatMap Queue.enc), (N.b, c.binds.flatMap Bind.enc), (N.s, c.subs.flatMap Sub.enc), (N.k, c.kept.flatMap Msg.enc), (N.l, _)] this)
        rw [hp0] at this; cases this
    refine hK19 _ (J_has (T := [(1, .p (.l 1) 0), (2, .p (.l 2) 0), (63, aint c.clients.length), (64, aint i)]) (L := [(2, Z), (1, crow N c c.clients.length)]) (H := H8) ⟨by simp, by simp [crow], by rw [hH8]⟩ (J0 ?_))
    simp
    refine hK (c.clients.length - (i + 1)) _ (by omega) ⟨i + 1, cls ++ [(⟨x.name, x.packets, some p⟩ : Cl)], _, by omega, rfl, by simp [hcl1], hcl2, fun k hk => ?_, o3, ?_⟩
    · rcases List.mem_append.mp hk with hk | hk
      · exact hloc k hk
      · simp at hk; subst hk; simp
    · simp
      rw [w64 (by omega) (by omega)]
  simp at hc
  have hie : i = c.clients.length := by omega
  subst hie
  simp only [thenQ, blockQ, if_true]
  rw [List.take_of_length_le (Nat.le_refl _)] at hcl
  rw [List.drop_of_length_le (Nat.le_refl _)] at hO
  simp only [List.flatMap_nil, List.append_nil] at hO
  refine hK15 _ (J_seq' fun K21 hK21 => J0 ?_)
  simp [crow, hZ]
  refine hK21 _ (J_ret (hF _ _ ?_))
  simp [Tryz.f39]
  exact ⟨N, cls, by simp [crow, hcl1], P, hO, hcl, hloc⟩
end
section
attribute [local simp] Heap.put AV.hz hzS hzL AV.hfree AV.hfreeL AV.flatOk
theorem renS_free (k n : Nat) (hk : 899 ≤ k) (S : Slots) (h : ∀ e ∈ S, AV.hfree e.2 = true) : renSf (adoptF k n) S = S := by
  induction S with
  | nil => rfl
  | cons e r ih =>
    obtain ⟨j, x⟩ := e
    simp only [renSf]
    rw [ih fun x hx => h x (List.mem_cons_of_mem _ hx), ren_hfree k n hk x (h (j, x) (List.mem_cons_self ..))]
theorem renL_free (k n : Nat) (hk : 899 ≤ k) (L : List (Nat × List AV)) (h : ∀ e ∈ L, e.1 < 899 ∧ AV.hfreeL e.2 = true) : renLf (adoptF k n) k L = L := by
  induction L with
  | nil => rfl
  | cons e r ih =>
    obtain ⟨j, x⟩ := e
    have hj := h (j, x) (List.mem_cons_self ..)
    have hne : ¬ j = k := by have := hj.1; simp only at this; omega
    simp only [renLf, if_neg hne]
    rw [ih fun x hx => h x (List.mem_cons_of_mem _ hx), renL_hfree k n hk x hj.2]
theorem RepL.cellW {M : Imm} {ψ : Psi} {x y : AV} (hxy : ∀ w, Rep M ψ x w → Rep M ψ y w) (pre post : List AV) : ∀ vs, RepL M ψ (pre ++ x :: post) vs → RepL M ψ (pre ++ y :: post) vs := by
  induction pre with
  | nil =>
    intro vs h
    simp only [List.nil_append, RepL] at h ⊢
    obtain ⟨u, us, h1, h2, h3⟩ := h
    exact ⟨u, us, h1, hxy _ h2, h3⟩
  | cons c pre ih =>
    intro vs h
    simp only [List.cons_append, RepL] at h ⊢
    obtain ⟨u, us, h1, h2, h3⟩ := h
    exact ⟨u, us, h1, h2, ih us h3⟩
def PkAt (H0 H : Heap) (b : Cl) : Prop := match b.loc with
  | some p => H p = some (b.packets.flatMap Num.enc) ∧ H0 p = none
  | none => b.packets = []
theorem PkAt.put {H0 H : Heap} {b : Cl} (h : PkAt H0 H b) {p : Nat} (hp : b.loc ≠ some p) : PkAt H0 (H.put p none) b := by
  unfold PkAt at *
  cases hl : b.loc with
  | none => rw [hl] at h; exact h
  | some q =>
    rw [hl] at h
    have : q ≠ p := fun e => hp (by rw [hl, e])
    simp only at h ⊢
    exact ⟨by simp [this, h.1], h.2⟩
theorem hz_Cl (p : Nat) (cs : List AV) (b : Cl) (h : b.loc ≠ some p) : (Cl.enc b).map (AV.hz p cs) = Cl.enc b := by
  unfold Cl.enc
  cases hl : b.loc with
  | none => rfl
  | some q =>
    have : q ≠ p := fun e => h (by rw [hl, e])
    simp [this]
theorem hzf_Cl (p : Nat) (cs : List AV) (B : List Cl) (h : ∀ b ∈ B, b.loc ≠ some p) : (B.flatMap Cl.enc).map (AV.hz p cs) = B.flatMap Cl.enc := by
  induction B with
  | nil => rfl
  | cons b B ih =>
    rw [List.flatMap_cons, List.map_append, hz_Cl p cs b (h b (List.mem_cons_self ..)), ih fun x hx => h x (List.mem_cons_of_mem _ hx)]
theorem flatOk_Cl (b : Cl) : ∀ x ∈ Cl.enc b, AV.flatOk x = true := by
  intro x hx
  unfold Cl.enc at hx
  cases hl : b.loc with
  | none => rw [hl] at hx; simp at hx; rcases hx with rfl | rfl <;> rfl
  | some q => rw [hl] at hx; simp at hx; rcases hx with rfl | rfl <;> rfl
theorem turns_cls (T : Slots) (R : List (Nat × List AV)) (H0 : Heap) (hT : ∀ e ∈ T, AV.hfree e.2 = true) (hR : ∀ e ∈ R, e.1 < 899 ∧ ∀ x ∈ e.2, AV.hfree x = true ∨ ∃ es n m, x = .os (.l 899) es n m) : ∀ (B : List Cl) (A : List Client) (H : Heap), (∀ m cs, H0 m = some cs → H m = some cs) → (B.filterMap Cl.loc).Nodup → (∀ b ∈ B, PkAt H0 H b) →
    ∃ H', (∀ m cs, H0 m = some cs → H' m = some cs) ∧ Turns ⟨T, (899, A.flatMap Client.enc ++ B.flatMap Cl.enc) :: R, H⟩ ⟨T, (899, (A ++ B.map Cl.client).flatMap Client.enc) :: R, H'⟩
  | [], A, H, h0, _, _ => ⟨H, h0, by simpa using Turns.refl _⟩
  | b :: B, A, H, h0, hn, hB => by
    have hRz : ∀ p cs, hzL p cs R = R := by
      intro p cs
      have : ∀ e ∈ R, e.2.map (AV.hz p cs) = e.2 := by
        intro e he
        have h2 := (hR e he).2
        generalize e.2 = xs at h2
        induction xs with
        | nil => rfl
        | cons x r ih =>
          rw [List.map_cons, ih fun y hy => h2 y (List.mem_cons_of_mem _ hy)]
          rcases h2 x (List.mem_cons_self ..) with h | ⟨es, n, m, rfl⟩
          · rw [hz_hfree p cs h]
          · rfl
      clear hR
      induction R with
      | nil => rfl
      | cons e r ih =>
        have h1 := ih fun x hx => this x (List.mem_cons_of_mem _ hx)
        simp only [hzL, List.map_cons] at h1 ⊢
        rw [h1, this e (List.mem_cons_self ..)]
    have hb := hB b (List.mem_cons_self ..)
    have step : ∃ H1, (∀ m cs, H0 m = some cs → H1 m = some cs) ∧ (∀ b' ∈ B, PkAt H0 H1 b') ∧ Turns ⟨T, (899, A.flatMap Client.enc ++ (b :: B).flatMap Cl.enc) :: R, H⟩ ⟨T, (899, (A ++ [b.client]).flatMap Client.enc ++ B.flatMap Cl.enc) :: R, H1⟩ := by
      unfold PkAt at hb
      cases hl : b.loc with
      | none =>
        rw [hl] at hb
        simp only at hb
        refine ⟨H, h0, fun b' hb' => hB b' (List.mem_cons_of_mem _ hb'), ?_⟩
        have e1 : A.flatMap Client.enc ++ (b :: B).flatMap Cl.enc = (A.flatMap Client.enc ++ [astr b.name]) ++ AV.sl0 :: B.flatMap Cl.enc := by
          simp [Cl.enc, hl]
        have e2 : (A ++ [b.client]).flatMap Client.enc ++ B.flatMap Cl.enc = (A.flatMap Client.enc ++ [astr b.name]) ++ AV.sl 0 [] :: B.flatMap Cl.enc := by
          simp [Cl.client, Client.enc, hb]
        rw [e1, e2]
        have := Turns.reL (s := ⟨T, (899, (A.flatMap Client.enc ++ [astr b.name]) ++ AV.sl0 :: B.flatMap Cl.enc) :: R, H⟩) (k := 899) (ds := (A.flatMap Client.enc ++ [astr b.name]) ++ AV.sl 0 [] :: B.flatMap Cl.enc) rfl (by simp) (fun M ψ vs => RepL.cellW (fun w hw => Rep.norm AV.sl0 hw) _ _ vs)
        simpa [setL] using this
      | some p =>
        rw [hl] at hb
        simp only at hb
        have hne : ∀ b' ∈ B, b'.loc ≠ some p := by
          intro b' hb' e
          rw [List.filterMap_cons, hl] at hn
          exact (List.nodup_cons.mp hn).1 (List.mem_filterMap.mpr ⟨b', hb', e⟩)
        refine ⟨H.put p none, fun m cs hm => ?_, fun b' hb' => (hB b' (List.mem_cons_of_mem _ hb')).put (hne b' hb'), ?_⟩
        · have : m ≠ p := by rintro rfl; rw [hb.2] at hm; cases hm
          simp [this, h0 m cs hm]
        · have hA : AV.hfreeL (A.flatMap Client.enc) = true := hf_flat hf_Client A
          have w : List.take b.packets.length (b.packets.flatMap Num.enc) = b.packets.flatMap Num.enc := by
            have := take_whole len_Num b.packets
            rwa [Nat.mul_one] at this
          refine (Turns.hfrz p (cs := b.packets.flatMap Num.enc) hb.1 (hf_flat hf_Num _) (noLLf_Num _) (fun e he => flatOk_of (hT e he)) ?_).trans ?_
          · intro e he
            rcases List.mem_cons.mp he with rfl | he
            · refine ⟨by simp, fun x hx => ?_⟩
              rcases List.mem_append.mp hx with hx | hx
              · exact flatOk_of (hfreeL_mem hA x hx)
              · obtain ⟨y, _, hy⟩ := List.mem_flatMap.mp hx
                exact flatOk_Cl y x hy
            · refine ⟨by have := (hR e he).1; omega, fun x hx => ?_⟩
              rcases (hR e he).2 x hx with h | ⟨es, n, m, rfl⟩
              · exact flatOk_of h
              · rfl
          · have hcell : (Cl.enc b).map (AV.hz p (b.packets.flatMap Num.enc)) = Client.enc b.client := by
              simp [Cl.enc, hl, Client.enc, Cl.client, w]
            have hh : hzL p (b.packets.flatMap Num.enc) ((899, A.flatMap Client.enc ++ (b :: B).flatMap Cl.enc) :: R) = (899, (A ++ [b.client]).flatMap Client.enc ++ B.flatMap Cl.enc) :: R := by
              have := hRz p (b.packets.flatMap Num.enc)
              simp only [hzL, List.map_cons] at this ⊢
              rw [this, List.map_append, hz_flat p _ _ hA, List.flatMap_cons, List.map_append, hcell, hzf_Cl p _ B hne]
              simp
            rw [hzS_free p _ T hT, hh]
            exact Turns.refl _
    obtain ⟨H1, g1, g2, g3⟩ := step
    have hn' : (B.filterMap Cl.loc).Nodup := by
      rw [List.filterMap_cons] at hn
      split at hn
      · exact hn
      · exact (List.nodup_cons.mp hn).2
    obtain ⟨H', k1, k2⟩ := turns_cls T R H0 hT hR B (A ++ [b.client]) H1 g1 hn' g2
    refine ⟨H', k1, g3.trans ?_⟩
    simpa using k2
theorem frzC_hfree (cs xs : List AV) (h : AV.hfreeL xs = true) : frzC xs 899 cs = xs := by
  induction xs with
  | nil => rfl
  | cons y ys ih =>
    simp only [AV.hfreeL, Bool.and_eq_true] at h
    simp only [frzC]
    rw [frz_hfree 899 (by omega) _ y h.1, ih h.2]
theorem ren_Cls (n : Nat) (cls : List Cl) (hpl : ∀ b ∈ cls, b.loc ≠ some n) : AV.renL (adoptF 899 n) (cls.flatMap Cl.enc) = cls.flatMap Cl.enc := by
  induction cls with
  | nil => rfl
  | cons b B ih =>
    have e5 : AV.renL (adoptF 899 n) (Cl.enc b) = Cl.enc b := by
      have hb := hpl b (List.mem_cons_self ..)
      unfold Cl.enc
      cases hlo : b.loc with
      | none => rfl
      | some p =>
        have : p ≠ n := fun e => hb (by rw [hlo, e])
        simp [AV.renL, AV.ren, adoptF, this]
    have app : ∀ xs ys : List AV, AV.renL (adoptF 899 n) (xs ++ ys) = AV.renL (adoptF 899 n) xs ++ AV.renL (adoptF 899 n) ys := by
      intro xs ys
      induction xs with
      | nil => rfl
      | cons x xs ih => simp [AV.renL, ih]
    rw [List.flatMap_cons, app, e5, ih fun x hx => hpl x (List.mem_cons_of_mem _ hx)]
theorem turns_core (N : TN) (c : Core) (cls : List Cl) (P : List (Nat × List AV)) (o : Nat) (ho : o < 899) (T : Slots) (X : List (Nat × List AV)) (H0 H : Heap) (hT : ∀ e ∈ T, AV.hfree e.2 = true) (hX : ∀ e ∈ X, e.1 < 899 ∧ AV.hfreeL e.2 = true)
    (hO : Owns (cobjs N c (cls.flatMap Cl.enc) P) H0 H) (hcl : ClsAre c.clients cls P) : Turns ⟨T, (o, crow N c cls.length) :: X, H⟩ ⟨T, (o, c.enc) :: X, H0⟩ := by
  have hq : H N.q = some (c.queues.flatMap Queue.enc) := hO.get _ _ (by simp [cobjs])
  have hb : H N.b = some (c.binds.flatMap Bind.enc) := hO.get _ _ (by simp [cobjs])
  have hs : H N.s = some (c.subs.flatMap Sub.enc) := hO.get _ _ (by simp [cobjs])
  have hk : H N.k = some (c.kept.flatMap Msg.enc) := hO.get _ _ (by simp [cobjs])
  have hl : H N.l = some (cls.flatMap Cl.enc) := hO.get _ _ (by simp [cobjs])
  have hO' := hO
  obtain ⟨a1, a2, a3⟩ := hO'
  simp only [cobjs, List.map_cons, List.nodup_cons, List.mem_cons, not_or] at a1
  obtain ⟨⟨q1, q2, q3, q4, q5⟩, ⟨b1, b2, b3, b4⟩, ⟨s1, s2, s3⟩, ⟨k1, k2⟩, l1, _⟩ := a1
  have hX1 : ∀ e ∈ X, e.1 < 1000 ∧ ∀ x ∈ e.2, AV.flatOk x = true := fun e he => ⟨by have := (hX e he).1; omega, fun x hx => flatOk_of (hfreeL_mem (hX e he).2 x hx)⟩
  have hXz : ∀ n cs, hzL n cs X = X := fun n cs => hzL_free n cs X fun e he => (hX e he).2
  have hXz' : ∀ n cs, List.map (fun e : Nat × List AV => (e.1, e.2.map (AV.hz n cs))) X = X := hXz
  have hTz : ∀ n cs, hzS n cs T = T := fun n cs => hzS_free n cs T hT
  have wq := take_whole len_Queue c.queues
  have wb := take_whole len_Bind c.binds
  have ws := take_whole len_Sub c.subs
  have wk := take_whole len_Msg c.kept
  have ho' : o < 1000 := by omega
  refine (Turns.hfrz N.q (cs := c.queues.flatMap Queue.enc) hq (hf_flat hf_Queue _) (noLLf_Queue _) (fun e he => flatOk_of (hT e he)) (by
    intro e he
    rcases List.mem_cons.mp he with rfl | he
    · exact ⟨ho', by simp [crow]⟩
    · exact hX1 e he)).trans ?_
  rw [hTz]
  have e1 : hzL N.q (c.queues.flatMap Queue.enc) ((o, crow N c cls.length) :: X) = (o, [aint c.now, asl Queue.enc c.queues, .os (.h N.b) 2 0 c.binds.length, .os (.h N.s) 5 0 c.subs.length, .os (.h N.k) 5 0 c.kept.length, .os (.h N.l) 2 0 cls.length]) :: X := by
    simp only [hzL, List.map_cons, hXz', crow]
    simp [Ne.symm q1, Ne.symm q2, Ne.symm q3, Ne.symm q4, wq]
  rw [e1]
  refine (Turns.hfrz N.b (cs := c.binds.flatMap Bind.enc) (by simp [Ne.symm q1, hb]) (hf_flat hf_Bind _) (noLLf_Bind _) (fun e he => flatOk_of (hT e he)) (by
    intro e he
    rcases List.mem_cons.mp he with rfl | he
    · exact ⟨ho', by simp⟩
    · exact hX1 e he)).trans ?_
  rw [hTz]
  have e2 : hzL N.b (c.binds.flatMap Bind.enc) ((o, [aint c.now, asl Queue.enc c.queues, .os (.h N.b) 2 0 c.binds.length, .os (.h N.s) 5 0 c.subs.length, .os (.h N.k) 5 0 c.kept.length, .os (.h N.l) 2 0 cls.length]) :: X) = (o, [aint c.now, asl Queue.enc c.queues, asl Bind.enc c.binds, .os (.h N.s) 5 0 c.subs.length, .os (.h N.k) 5 0 c.kept.length, .os (.h N.l) 2 0 cls.length]) :: X := by
    simp only [hzL, List.map_cons, hXz']
    simp [Ne.symm b1, Ne.symm b2, Ne.symm b3, wb]
  rw [e2]
  refine (Turns.hfrz N.s (cs := c.subs.flatMap Sub.enc) (by simp [Ne.symm q2, Ne.symm b1, hs]) (hf_flat hf_Sub _) (noLLf_Sub _) (fun e he => flatOk_of (hT e he)) (by
    intro e he
    rcases List.mem_cons.mp he with rfl | he
    · exact ⟨ho', by simp⟩
    · exact hX1 e he)).trans ?_
  rw [hTz]
  have e3 : hzL N.s (c.subs.flatMap Sub.enc) ((o, [aint c.now, asl Queue.enc c.queues, asl Bind.enc c.binds, .os (.h N.s) 5 0 c.subs.length, .os (.h N.k) 5 0 c.kept.length, .os (.h N.l) 2 0 cls.length]) :: X) = (o, [aint c.now, asl Queue.enc c.queues, asl Bind.enc c.binds, asl Sub.enc c.subs, .os (.h N.k) 5 0 c.kept.length, .os (.h N.l) 2 0 cls.length]) :: X := by
    simp only [hzL, List.map_cons, hXz']
    simp [Ne.symm s1, Ne.symm s2, ws]
  rw [e3]
  refine (Turns.hfrz N.k (cs := c.kept.flatMap Msg.enc) (by simp [Ne.symm q3, Ne.symm b2, Ne.symm s1, hk]) (hf_flat hf_Msg _) (noLLf_Msg _) (fun e he => flatOk_of (hT e he)) (by
    intro e he
    rcases List.mem_cons.mp he with rfl | he
    · exact ⟨ho', by simp⟩
    · exact hX1 e he)).trans ?_
  rw [hTz]
  have e4 : hzL N.k (c.kept.flatMap Msg.enc) ((o, [aint c.now, asl Queue.enc c.queues, asl Bind.enc c.binds, asl Sub.enc c.subs, .os (.h N.k) 5 0 c.kept.length, .os (.h N.l) 2 0 cls.length]) :: X) = (o, [aint c.now, asl Queue.enc c.queues, asl Bind.enc c.binds, asl Sub.enc c.subs, asl Msg.enc c.kept, .os (.h N.l) 2 0 cls.length]) :: X := by
    simp only [hzL, List.map_cons, hXz']
    simp [Ne.symm k1, wk]
  rw [e4]
  refine (Turns.adopt 899 N.l (cs := cls.flatMap Cl.enc) (by simp [Ne.symm q4, Ne.symm b3, Ne.symm s2, Ne.symm k1, hl])).trans ?_
  have hpl : ∀ b ∈ cls, b.loc ≠ some N.l := by
    intro b hb e
    have := hcl.2.1 b hb
    unfold ClIs at this
    rw [e] at this
    exact l1 (List.mem_map_of_mem (f := Prod.fst) this)
  have hren := ren_Cls N.l cls hpl
  have e5 : AS.adopt ⟨T, (o, [aint c.now, asl Queue.enc c.queues, asl Bind.enc c.binds, asl Sub.enc c.subs, asl Msg.enc c.kept, .os (.h N.l) 2 0 cls.length]) :: X, (((H.put N.q none).put N.b none).put N.s none).put N.k none⟩ 899 N.l (cls.flatMap Cl.enc) = ⟨T, (899, ([] : List Client).flatMap Client.enc ++ cls.flatMap Cl.enc) :: (o, [aint c.now, asl Queue.enc c.queues, asl Bind.enc c.binds, asl Sub.enc c.subs, asl Msg.enc c.kept, .os (.l 899) 2 0 cls.length]) :: X, ((((H.put N.q none).put N.b none).put N.s none).put N.k none).put N.l none⟩ := by
    have hne : ¬ o = 899 := by omega
    simp only [AS.adopt, hren, renS_free 899 N.l (by omega) T hT, renLf, if_neg hne, renL_free 899 N.l (by omega) X hX]
    simp [AV.renL, AV.ren, adoptF]
  rw [e5]
  have h00 : ∀ m cs, H0 m = some cs → (((((H.put N.q none).put N.b none).put N.s none).put N.k none).put N.l none) m = some cs := by
    intro m cs hm
    obtain ⟨c1, c2⟩ := a3 m cs hm
    simp only [cobjs, List.map_cons, List.mem_cons, not_or] at c1
    simp [c1.1, c1.2.1, c1.2.2.1, c1.2.2.2.1, c1.2.2.2.2.1, c2]
  have hpk : ∀ b ∈ cls, PkAt H0 (((((H.put N.q none).put N.b none).put N.s none).put N.k none).put N.l none) b := by
    intro b hb
    have h1 := hcl.2.1 b hb
    unfold ClIs at h1
    unfold PkAt
    cases hlo : b.loc with
    | none => rw [hlo] at h1; exact h1
    | some p =>
      rw [hlo] at h1
      simp only at h1 ⊢
      have hm : p ∈ P.map (·.1) := List.mem_map_of_mem (f := Prod.fst) h1
      have hp : H p = some (b.packets.flatMap Num.enc) := hO.get _ _ (by simp [cobjs, h1])
      have n1 : p ≠ N.q := by rintro rfl; exact q5 hm
      have n2 : p ≠ N.b := by rintro rfl; exact b4 hm
      have n3 : p ≠ N.s := by rintro rfl; exact s3 hm
      have n4 : p ≠ N.k := by rintro rfl; exact k2 hm
      have n5 : p ≠ N.l := by rintro rfl; exact l1 hm
      refine ⟨by simp [n1, n2, n3, n4, n5, hp], ?_⟩
      cases h0 : H0 p with
      | none => rfl
      | some cs =>
        have := (a3 p cs h0).1
        simp only [cobjs, List.map_cons, List.mem_cons, not_or] at this
        exact absurd hm this.2.2.2.2.2
  obtain ⟨H', g1, g2⟩ := turns_cls T ((o, [aint c.now, asl Queue.enc c.queues, asl Bind.enc c.binds, asl Sub.enc c.subs, asl Msg.enc c.kept, .os (.l 899) 2 0 cls.length]) :: X) H0 hT (by
    intro e he
    rcases List.mem_cons.mp he with rfl | he
    · refine ⟨ho, fun x hx => ?_⟩
      simp at hx
      rcases hx with rfl | rfl | rfl | rfl | rfl | rfl
      · left; rfl
      · left; rfl
      · left; rfl
      · left; rfl
      · left; rfl
      · right; exact ⟨_, _, _, rfl⟩
    · exact ⟨(hX e he).1, fun x hx => .inl (hfreeL_mem (hX e he).2 x hx)⟩) cls [] _ h00 hcl.2.2 hpk
  refine g2.trans ?_
  rw [List.nil_append, hcl.1]
  refine (Turns.freeze (k := 899) (cs := c.clients.flatMap Client.enc) (by simp [lookL]) (noLLf_Client _)).trans ?_
  have hfz : ∀ L : List (Nat × List AV), (∀ e ∈ L, e.1 < 899 ∧ AV.hfreeL e.2 = true) → frzL L 899 (c.clients.flatMap Client.enc) = L := by
    intro L
    induction L with
    | nil => intro _; rfl
    | cons e r ih =>
      intro h
      obtain ⟨j, x⟩ := e
      have hj := h (j, x) (List.mem_cons_self ..)
      have hne : ¬ 899 = j := by have := hj.1; simp only at this; omega
      have hx := frzC_hfree (c.clients.flatMap Client.enc) x hj.2
      simp only [frzL, if_neg hne]
      rw [ih fun x hx => h x (List.mem_cons_of_mem _ hx), hx]
  have hfs : frzS T 899 (c.clients.flatMap Client.enc) = T := by
    clear hTz g2 e5
    induction T with
    | nil => rfl
    | cons e r ih =>
      obtain ⟨j, x⟩ := e
      simp only [frzS]
      rw [ih fun x hx => hT x (List.mem_cons_of_mem _ hx), frz_hfree 899 (by omega) _ x (hT (j, x) (List.mem_cons_self ..))]
  have hlen : cls.length = c.clients.length := by rw [← hcl.1, List.length_map]
  have e6 : AS.frz ⟨T, (899, c.clients.flatMap Client.enc) :: (o, [aint c.now, asl Queue.enc c.queues, asl Bind.enc c.binds, asl Sub.enc c.subs, asl Msg.enc c.kept, .os (.l 899) 2 0 cls.length]) :: X, H'⟩ 899 (c.clients.flatMap Client.enc) = ⟨T, (o, c.enc) :: X, H'⟩ := by
    have hne : ¬ 899 = o := by omega
    simp only [AS.frz, hfs, frzL, if_true, if_neg hne, hfz X hX]
    have w := take_whole len_Client c.clients
    simp [frzC, AV.frz, hlen, w, Core.enc]
  rw [e6]
  exact Turns.weakH g1
end
section
attribute [local simp] Heap.put
def callF (k : Int) : Option Nat :=
  if k = 1 then some 118 else
  if k = 2 then some 119 else
  if k = 3 then some 120 else
  if k = 4 then some 121 else
  if k = 5 then some 122 else
  if k = 6 then some 123 else
  if k = 7 then some 124 else
  if k = 8 then some 125 else
  if k = 9 then some 126 else
  if k = 10 then some 127 else
  if k = 11 then some 128 else
  if k = 12 then some 130 else
  if k = 13 then some 131 else
  if k = 14 then some 132 else
  none
def callT (o : Tv.Oper) : Turn → Except Int Turn :=
  if o.kind = 1 then declareT o else
  if o.kind = 2 then removeT o else
  if o.kind = 3 then bindT o else
  if o.kind = 4 then unbindT o else
  if o.kind = 5 then publishT o else
  if o.kind = 6 then releaseT o else
  if o.kind = 7 then forgetT o else
  if o.kind = 8 then subscribeT o else
  if o.kind = 9 then unsubT o else
  if o.kind = 10 then getT o else
  if o.kind = 11 then ackT o else
  if o.kind = 12 then nackT o else
  if o.kind = 13 then detachT o else
  if o.kind = 14 then tick o else
  fun _ => .error 1
def callV (k : Int) : AV := match callF k with
  | some f => .fn f []
  | none => .v .nilFunc
theorem calls_fun (k : Int) : PFun Tryz.prog 50 [aint k] (callV k) := by
  refine PFun.of_J D_ok Tryz.func50 rfl (by decide) (le' rfl) fun H E QF hF => ?_
  change J _ E 32 _ _ _
  refine J_seq' fun K1 hK1 => J0 ?_
  simp
  refine hK1 _ (J_seq' fun K3 hK3 => J_seq' fun K2 hK2 => J0 ?_)
  simp
  refine hK2 _ (J_block ?_)
  refine J_seq' fun K hK => J0 ?_
  simp
  refine hK _ ?_
  clear hK
  refine J_cond rfl (fun hd => ?_) fun hd => ?_
  · have e1 : k = 1 := by simpa using hd
    refine J_seq' fun K hK => J0 ?_
    simp
    refine hK _ (J_ret (hF _ _ ?_))
    simp [Tryz.f50, callV, callF, e1]
  have e1 : ¬ k = 1 := by simpa using hd
  refine J_seq' fun K hK => J0 ?_
  simp
  refine hK _ ?_
  clear hK
  refine J_cond rfl (fun hd => ?_) fun hd => ?_
  · have e2 : k = 2 := by simpa using hd
    refine J_seq' fun K hK => J0 ?_
    simp
    refine hK _ (J_ret (hF _ _ ?_))
    simp [Tryz.f50, callV, callF, e2]
  have e2 : ¬ k = 2 := by simpa using hd
  refine J_seq' fun K hK => J0 ?_
  simp
  refine hK _ ?_
  clear hK
  refine J_cond rfl (fun hd => ?_) fun hd => ?_
  · have e3 : k = 3 := by simpa using hd
    refine J_seq' fun K hK => J0 ?_
    simp
    refine hK _ (J_ret (hF _ _ ?_))
    simp [Tryz.f50, callV, callF, e3]
  have e3 : ¬ k = 3 := by simpa using hd
  refine J_seq' fun K hK => J0 ?_
  simp
  refine hK _ ?_
  clear hK
  refine J_cond rfl (fun hd => ?_) fun hd => ?_
  · have e4 : k = 4 := by simpa using hd
    refine J_seq' fun K hK => J0 ?_
    simp
    refine hK _ (J_ret (hF _ _ ?_))
    simp [Tryz.f50, callV, callF, e4]
  have e4 : ¬ k = 4 := by simpa using hd
  refine J_seq' fun K hK => J0 ?_
  simp
  refine hK _ ?_
  clear hK
  refine J_cond rfl (fun hd => ?_) fun hd => ?_
  · have e5 : k = 5 := by simpa using hd
    refine J_seq' fun K hK => J0 ?_
    simp
    refine hK _ (J_ret (hF _ _ ?_))
    simp [Tryz.f50, callV, callF, e5]
  have e5 : ¬ k = 5 := by simpa using hd
  refine J_seq' fun K hK => J0 ?_
  simp
  refine hK _ ?_
  clear hK
  refine J_cond rfl (fun hd => ?_) fun hd => ?_
  · have e6 : k = 6 := by simpa using hd
    refine J_seq' fun K hK => J0 ?_
    simp
    refine hK _ (J_ret (hF _ _ ?_))
    simp [Tryz.f50, callV, callF, e6]
  have e6 : ¬ k = 6 := by simpa using hd
  refine J_seq' fun K hK => J0 ?_
  simp
  refine hK _ ?_
  clear hK
  refine J_cond rfl (fun hd => ?_) fun hd => ?_
  · have e7 : k = 7 := by simpa using hd
    refine J_seq' fun K hK => J0 ?_
    simp
    refine hK _ (J_ret (hF _ _ ?_))
    simp [Tryz.f50, callV, callF, e7]
  have e7 : ¬ k = 7 := by simpa using hd
  refine J_seq' fun K hK => J0 ?_
  simp
  refine hK _ ?_
  clear hK
  refine J_cond rfl (fun hd => ?_) fun hd => ?_
  · have e8 : k = 8 := by simpa using hd
    refine J_seq' fun K hK => J0 ?_
    simp
    refine hK _ (J_ret (hF _ _ ?_))
    simp [Tryz.f50, callV, callF, e8]
  have e8 : ¬ k = 8 := by simpa using hd
  refine J_seq' fun K hK => J0 ?_
  simp
  refine hK _ ?_
  clear hK
  refine J_cond rfl (fun hd => ?_) fun hd => ?_
  · have e9 : k = 9 := by simpa using hd
    refine J_seq' fun K hK => J0 ?_
    simp
    refine hK _ (J_ret (hF _ _ ?_))
    simp [Tryz.f50, callV, callF, e9]
  have e9 : ¬ k = 9 := by simpa using hd
  refine J_seq' fun K hK => J0 ?_
  simp
  refine hK _ ?_
  clear hK
  refine J_cond rfl (fun hd => ?_) fun hd => ?_
  · have e10 : k = 10 := by simpa using hd
    refine J_seq' fun K hK => J0 ?_
    simp
    refine hK _ (J_ret (hF _ _ ?_))
    simp [Tryz.f50, callV, callF, e10]
  have e10 : ¬ k = 10 := by simpa using hd
  refine J_seq' fun K hK => J0 ?_
  simp
  refine hK _ ?_
  clear hK
  refine J_cond rfl (fun hd => ?_) fun hd => ?_
  · have e11 : k = 11 := by simpa using hd
    refine J_seq' fun K hK => J0 ?_
    simp
    refine hK _ (J_ret (hF _ _ ?_))
    simp [Tryz.f50, callV, callF, e11]
  have e11 : ¬ k = 11 := by simpa using hd
  refine J_seq' fun K hK => J0 ?_
  simp
  refine hK _ ?_
  clear hK
  refine J_cond rfl (fun hd => ?_) fun hd => ?_
  · have e12 : k = 12 := by simpa using hd
    refine J_seq' fun K hK => J0 ?_
    simp
    refine hK _ (J_ret (hF _ _ ?_))
    simp [Tryz.f50, callV, callF, e12]
  have e12 : ¬ k = 12 := by simpa using hd
  refine J_seq' fun K hK => J0 ?_
  simp
  refine hK _ ?_
  clear hK
  refine J_cond rfl (fun hd => ?_) fun hd => ?_
  · have e13 : k = 13 := by simpa using hd
    refine J_seq' fun K hK => J0 ?_
    simp
    refine hK _ (J_ret (hF _ _ ?_))
    simp [Tryz.f50, callV, callF, e13]
  have e13 : ¬ k = 13 := by simpa using hd
  refine J_seq' fun K hK => J0 ?_
  simp
  refine hK _ ?_
  clear hK
  refine J_cond rfl (fun hd => ?_) fun hd => ?_
  · have e14 : k = 14 := by simpa using hd
    refine J_seq' fun K hK => J0 ?_
    simp
    refine hK _ (J_ret (hF _ _ ?_))
    simp [Tryz.f50, callV, callF, e14]
  have e14 : ¬ k = 14 := by simpa using hd
  refine J_skip ?_
  simp only [thenQ, blockQ]
  refine hK3 _ (J_seq' fun K hK => J0 ?_)
  simp
  refine hK _ (J_ret (hF _ _ ?_))
  simp [Tryz.f50, callV, callF, e1, e2, e3, e4, e5, e6, e7, e8, e9, e10, e11, e12, e13, e14]
theorem call_fun (N : TN) (t : Turn) (o : Tv.Oper) (F H : Heap) (f : Nat) (hk : callF o.kind = some f) (hg : COk t.core) (hof : OFit o) (hout : t.out.length ≤ 2000000) (h : TAt N t F H) : PCalls Tryz.prog f [.p (.h N.x) 0, .agg o.enc] H (TurnQ N F (callT o t)) := by
  have hf := hg.fit
  have hne : ∀ k ∈ t.core.clients, k.packets ≠ [] := fun k hk e => by
    have := (hg.c k hk).len1
    rw [e] at this
    simp at this
  unfold callF at hk
  unfold callT
  by_cases e1 : o.kind = 1
  · rw [if_pos e1] at hk ⊢
    cases hk
    exact declareT_fun N t o F H hf hof h
  rw [if_neg e1] at hk ⊢
  by_cases e2 : o.kind = 2
  · rw [if_pos e2] at hk ⊢
    cases hk
    exact removeT_fun N t o F H hf h
  rw [if_neg e2] at hk ⊢
  by_cases e3 : o.kind = 3
  · rw [if_pos e3] at hk ⊢
    cases hk
    exact bindT_fun N t o F H hf hof hout h
  rw [if_neg e3] at hk ⊢
  by_cases e4 : o.kind = 4
  · rw [if_pos e4] at hk ⊢
    cases hk
    exact unbindT_fun N t o F H hf h
  rw [if_neg e4] at hk ⊢
  by_cases e5 : o.kind = 5
  · rw [if_pos e5] at hk ⊢
    cases hk
    exact publishT_fun N t o F H hf hof h
  rw [if_neg e5] at hk ⊢
  by_cases e6 : o.kind = 6
  · rw [if_pos e6] at hk ⊢
    cases hk
    exact releaseT_fun N t o F H hf hof hne h
  rw [if_neg e6] at hk ⊢
  by_cases e7 : o.kind = 7
  · rw [if_pos e7] at hk ⊢
    cases hk
    exact forgetT_fun N t o F H hf hof h
  rw [if_neg e7] at hk ⊢
  by_cases e8 : o.kind = 8
  · rw [if_pos e8] at hk ⊢
    cases hk
    exact subscribeT_fun N t o F H hf h
  rw [if_neg e8] at hk ⊢
  by_cases e9 : o.kind = 9
  · rw [if_pos e9] at hk ⊢
    cases hk
    exact unsubT_fun N t o F H hf h
  rw [if_neg e9] at hk ⊢
  by_cases e10 : o.kind = 10
  · rw [if_pos e10] at hk ⊢
    cases hk
    exact getT_fun N t o F H hf hout h
  rw [if_neg e10] at hk ⊢
  by_cases e11 : o.kind = 11
  · rw [if_pos e11] at hk ⊢
    cases hk
    exact ackT_fun N t o F H hf h
  rw [if_neg e11] at hk ⊢
  by_cases e12 : o.kind = 12
  · rw [if_pos e12] at hk ⊢
    cases hk
    exact nackT_fun N t o F H hf h
  rw [if_neg e12] at hk ⊢
  by_cases e13 : o.kind = 13
  · rw [if_pos e13] at hk ⊢
    cases hk
    exact detachT_fun N t o F H hf h
  rw [if_neg e13] at hk ⊢
  by_cases e14 : o.kind = 14
  · rw [if_pos e14] at hk ⊢
    cases hk
    exact tick_fun N t o F H ⟨hg.now1, hg.now2⟩ h
  rw [if_neg e14] at hk ⊢
  cases hk
theorem callT_ok {o : Tv.Oper} {t t' : Turn} (h : COk t.core) (hp : callT o t = .ok t') : COk t'.core ∧ t'.out.length ≤ t.out.length + 16 := by
  unfold callT at hp
  by_cases e1 : o.kind = 1
  · rw [if_pos e1] at hp
    obtain ⟨a, b⟩ := declareT_ok h hp
    exact ⟨a, by rw [b]; omega⟩
  rw [if_neg e1] at hp
  by_cases e2 : o.kind = 2
  · rw [if_pos e2] at hp
    obtain ⟨a, b⟩ := removeT_ok h hp
    exact ⟨a, by rw [b]; omega⟩
  rw [if_neg e2] at hp
  by_cases e3 : o.kind = 3
  · rw [if_pos e3] at hp
    exact bindT_ok h hp
  rw [if_neg e3] at hp
  by_cases e4 : o.kind = 4
  · rw [if_pos e4] at hp
    obtain ⟨a, b⟩ := unbindT_ok h hp
    exact ⟨a, by rw [b]; omega⟩
  rw [if_neg e4] at hp
  by_cases e5 : o.kind = 5
  · rw [if_pos e5] at hp
    obtain ⟨a, b⟩ := publishT_ok h hp
    exact ⟨a, by rw [b]; omega⟩
  rw [if_neg e5] at hp
  by_cases e6 : o.kind = 6
  · rw [if_pos e6] at hp
    obtain ⟨a, b⟩ := releaseT_ok h hp
    exact ⟨a, by rw [b]; omega⟩
  rw [if_neg e6] at hp
  by_cases e7 : o.kind = 7
  · rw [if_pos e7] at hp
    obtain ⟨a, b⟩ := forgetT_ok h hp
    exact ⟨a, by rw [b]; omega⟩
  rw [if_neg e7] at hp
  by_cases e8 : o.kind = 8
  · rw [if_pos e8] at hp
    obtain ⟨a, b⟩ := subscribeT_ok h hp
    exact ⟨a, by rw [b]; omega⟩
  rw [if_neg e8] at hp
  by_cases e9 : o.kind = 9
  · rw [if_pos e9] at hp
    obtain ⟨a, b⟩ := unsubT_ok h hp
    exact ⟨a, by rw [b]; omega⟩
  rw [if_neg e9] at hp
  by_cases e10 : o.kind = 10
  · rw [if_pos e10] at hp
    obtain ⟨a, b⟩ := getT_ok h hp
    exact ⟨a, by omega⟩
  rw [if_neg e10] at hp
  by_cases e11 : o.kind = 11
  · rw [if_pos e11] at hp
    obtain ⟨a, b⟩ := settleT_ok h hp
    exact ⟨a, by rw [b]; omega⟩
  rw [if_neg e11] at hp
  by_cases e12 : o.kind = 12
  · rw [if_pos e12] at hp
    obtain ⟨a, b⟩ := settleT_ok h hp
    exact ⟨a, by rw [b]; omega⟩
  rw [if_neg e12] at hp
  by_cases e13 : o.kind = 13
  · rw [if_pos e13] at hp
    obtain ⟨a, b⟩ := detachT_ok h hp
    exact ⟨a, by rw [b]; omega⟩
  rw [if_neg e13] at hp
  by_cases e14 : o.kind = 14
  · rw [if_pos e14] at hp
    obtain ⟨a, b⟩ := tick_ok h hp
    exact ⟨a, by rw [b]; omega⟩
  rw [if_neg e14] at hp
  cases hp
def noCore : Core := ⟨0, [], [], [], [], []⟩
def doT (c : Core) (o : Tv.Oper) : Core × List Out × Int :=
  if callF o.kind = none ∨ coreGood c = false then (noCore, [], 1) else
  match callT o ⟨c, []⟩ with
  | .error e => (noCore, [], e)
  | .ok t => match pumpT t with
    | .error e => (noCore, [], e)
    | .ok t' => (t'.core, t'.out, 0)
end
end Go.Proofs.YtpcpljfifipagaaGreatDoor
