/- A part of the proof: the engine that walks Go code, the walks of the broker, or their laws (Tq Tr Ts Tcf Tcg). -/
import Derived.Test.YtpcpljfifipagaaGreatDoorX21
import Derived.Test.YtpcpljfifipagaaGreatDoorX14
set_option linter.unusedSimpArgs false
set_option linter.unusedVariables false
set_option maxHeartbeats 8000000
set_option maxRecDepth 20000
namespace Go.Proofs.YtpcpljfifipagaaGreatDoor
open Go.Eng Go.Tv
section
attribute [local simp] plainOp renSf renLf AV.ren AV.renL escF adoptF AS.esc AS.adopt AS.frz frzS frzL frzC AV.frz Heap.put D_42 D_33 D_50 D_77 D_37 D_146 D_248 D_232 D_185 D_31
attribute [local simp ↓] evTsR evQsh evQh
attribute [-simp] List.length_flatMap
def takeBad (q : Queue) (conn sub : Int) : Bool := !qGood q || decide (conn < 0) || decide (8 ≤ conn) || decide (sub < 0) || decide (1099511627776 < sub) || decide (1099511627776 ≤ q.tag)
def take (q : Queue) (conn sub : Int) (hold : Bool) : Queue × Int × Itm × Int :=
  if takeBad q conn sub then (noQueue, 0, noItm, 1) else
  match q.items with
  | [] => (noQueue, 0, noItm, 33)
  | x :: xs => if hold then ({ q with items := xs, tag := q.tag + 1, held := q.held ++ [⟨q.tag + 1, conn, sub, x⟩] }, q.tag + 1, x, 0) else ({ q with items := xs }, 0, x, 0)
def zeroI : List AV := [AV.v (Value.int IntKind.i64 0), AV.v (Value.bool false), AV.v (Value.string { data := #[] }), AV.v (Value.string { data := #[] }), AV.sl0, AV.v (Value.bool false), AV.v (Value.int IntKind.i64 0)]
theorem J_outB {E : Ent} {N : Nat} {c : Code} {Q : AX → AS → Prop} (q : Queue) (o n1 n2 : Nat) (ho : o < 1000) (T : Slots) (X : List (Nat × List AV)) (H H0 : Heap) (h12 : n1 ≠ n2) (h1 : H n1 = some (q.items.flatMap Itm.enc)) (h2 : H n2 = some (q.held.flatMap Hold.enc))
    (hH : ∀ m cs, H0 m = some cs → m ≠ n1 ∧ m ≠ n2 ∧ H m = some cs)
    (hT : ∀ k n, 1000 ≤ k → n = n1 ∨ n = n2 → renSf (adoptF k n) T = T) (hTf : ∀ k cs, 1000 ≤ k → frzS T k cs = T) (hX : ∀ k n, 1000 ≤ k → n = n1 ∨ n = n2 → renLf (adoptF k n) k X = X) (hXf : ∀ k cs, 1000 ≤ k → frzL X k cs = X)
    (h : J Tryz.prog E N c Q ⟨(o, .p (.l o) 0) :: T, (o, q.enc) :: X, H0⟩) : J Tryz.prog E N c Q ⟨(o, .p (.l o) 0) :: T, (o, qrow q n1 n2) :: X, H⟩ := by
  obtain ⟨k, hk⟩ : ∃ k, 1000 ≤ k := ⟨1000, by omega⟩
  have hko : k ≠ o := by omega
  have hl1 : (q.items.flatMap Itm.enc).length = q.items.length * 7 := flen_Itm _
  have hl2 : (q.held.flatMap Hold.enc).length = q.held.length * 10 := flen_Hold _
  refine J_adopt k n1 h1 ?_
  have e1 : AS.adopt ⟨(o, .p (.l o) 0) :: T, (o, qrow q n1 n2) :: X, H⟩ k n1 (q.items.flatMap Itm.enc) =
      ⟨(o, .p (.l o) 0) :: T, (k, q.items.flatMap Itm.enc) :: (o, [astr q.name, abool q.durable, aint q.depth, aint q.seq, aint q.tag, .os (.l k) 7 0 q.items.length, .os (.h n2) 10 0 q.held.length]) :: X, H.put n1 none⟩ := by
    simp only [AS.adopt, renSf, renLf, hT k n1 hk (.inl rfl), hX k n1 hk (.inl rfl), renf_Itm]
    simp [qrow, Ne.symm hko, Ne.symm h12]
  rw [e1]
  refine J_freeze k (cs := q.items.flatMap Itm.enc) (by simp [lookL]) (noLLf_Itm _) ?_
  have e2 : AS.frz ⟨(o, .p (.l o) 0) :: T, (k, q.items.flatMap Itm.enc) :: (o, [astr q.name, abool q.durable, aint q.depth, aint q.seq, aint q.tag, .os (.l k) 7 0 q.items.length, .os (.h n2) 10 0 q.held.length]) :: X, H.put n1 none⟩ k (q.items.flatMap Itm.enc) =
      ⟨(o, .p (.l o) 0) :: T, (o, [astr q.name, abool q.durable, aint q.depth, aint q.seq, aint q.tag, asl Itm.enc q.items, .os (.h n2) 10 0 q.held.length]) :: X, H.put n1 none⟩ := by
    simp only [AS.frz, frzS, frzL, hTf k _ hk, hXf k _ hk]
    simp [Ne.symm hko, hko, hl1, List.take_of_length_le]
  rw [e2]
  refine J_adopt k n2 (cs := q.held.flatMap Hold.enc) (by simp [Ne.symm h12, h2]) ?_
  have e3 : AS.adopt ⟨(o, .p (.l o) 0) :: T, (o, [astr q.name, abool q.durable, aint q.depth, aint q.seq, aint q.tag, asl Itm.enc q.items, .os (.h n2) 10 0 q.held.length]) :: X, H.put n1 none⟩ k n2 (q.held.flatMap Hold.enc) =
      ⟨(o, .p (.l o) 0) :: T, (k, q.held.flatMap Hold.enc) :: (o, [astr q.name, abool q.durable, aint q.depth, aint q.seq, aint q.tag, asl Itm.enc q.items, .os (.l k) 10 0 q.held.length]) :: X, (H.put n1 none).put n2 none⟩ := by
    simp only [AS.adopt, renSf, renLf, hT k n2 hk (.inr rfl), hX k n2 hk (.inr rfl), renf_Hold]
    simp [Ne.symm hko]
  rw [e3]
  refine J_freeze k (cs := q.held.flatMap Hold.enc) (by simp [lookL]) (noLLf_Hold _) ?_
  have e4 : AS.frz ⟨(o, .p (.l o) 0) :: T, (k, q.held.flatMap Hold.enc) :: (o, [astr q.name, abool q.durable, aint q.depth, aint q.seq, aint q.tag, asl Itm.enc q.items, .os (.l k) 10 0 q.held.length]) :: X, (H.put n1 none).put n2 none⟩ k (q.held.flatMap Hold.enc) =
      ⟨(o, .p (.l o) 0) :: T, (o, q.enc) :: X, (H.put n1 none).put n2 none⟩ := by
    simp only [AS.frz, frzS, frzL, hTf k _ hk, hXf k _ hk]
    simp [Ne.symm hko, hko, hl2, List.take_of_length_le, Queue.enc]
  rw [e4]
  refine J_weakenH H0 (fun m cs hm => ?_) h
  obtain ⟨a, b, d⟩ := hH m cs hm
  simp [a, b, d]
theorem take_fun (q : Queue) (conn sub : Int) (hold : Bool) (hq : QFit q) : PFun Tryz.prog 211 [.agg q.enc, aint conn, aint sub, abool hold] (.tup [.agg (take q conn sub hold).1.enc, aint (take q conn sub hold).2.1, .agg (take q conn sub hold).2.2.1.enc, aint (take q conn sub hold).2.2.2]) := by
  refine PFun.of_J D_ok Tryz.func211 rfl (by decide) (le' rfl) fun H E QF hF => ?_
  change J _ E 83 _ _ _
  refine J_seq' fun K1 hK1 => J1 4 ?_
  simp [Queue.enc]
  refine hK1 _ (J_seq' fun K2 hK2 => J_block ?_)
  refine J_bool 15 (takeBad q conn sub) [1, 2, 3, 4, 8, 9, 10, 11] ?_ ?_
  · refine J1 4 ?_
    simp
    refine (qgood_fun q hq).call ?_
    rcases Bool.eq_false_or_eq_true (qGood q) with f0 | f0
    · rcases Int.lt_or_le conn 0 with f1 | f1
      · simp [takeBad, f0, f1, show ¬ 0 ≤ conn from by omega]
      · rcases (Int.lt_or_le conn 8).symm with f2 | f2
        · simp [takeBad, f0, f1, show ¬ conn < 0 from by omega, f2, show ¬ conn < 8 from by omega]
        · rcases Int.lt_or_le sub 0 with f3 | f3
          · simp [takeBad, f0, f1, show ¬ conn < 0 from by omega, f2, show ¬ 8 ≤ conn from by omega, f3, show ¬ 0 ≤ sub from by omega]
          · rcases Int.lt_or_le 1099511627776 sub with f4 | f4
            · simp [takeBad, f0, f1, show ¬ conn < 0 from by omega, f2, show ¬ 8 ≤ conn from by omega, f3, show ¬ sub < 0 from by omega, f4, show ¬ sub ≤ 1099511627776 from by omega]
            · simp [takeBad, f0, f1, show ¬ conn < 0 from by omega, f2, show ¬ 8 ≤ conn from by omega, f3, show ¬ sub < 0 from by omega, f4, show ¬ 1099511627776 < sub from by omega]
    · simp [takeBad, f0]
  simp
  refine J_cond rfl (fun hd => ?_) fun hd => ?_
  · have ht : take q conn sub hold = (noQueue, 0, noItm, 1) := by simp [take, show takeBad q conn sub = true from by simpa using hd]
    refine J_seq' fun K3 hK3 => J1 4 ?_
    simp
    refine hK3 _ (J_ret (hF _ _ ?_))
    simp [Tryz.f211, ht, noQueue, Queue.enc, noItm, noMsg, Itm.enc, Msg.enc]
  have hbad : takeBad q conn sub = false := by simpa using hd
  have hgt : qGood q = true ∧ q.tag < 1099511627776 := by
    simp only [takeBad, Bool.or_eq_false_iff, decide_eq_false_iff_not] at hbad
    exact ⟨by simpa using hbad.1.1.1.1.1, by omega⟩
  obtain ⟨hg, htag⟩ := hgt
  have hlen := good_len hg
  refine J_seq' fun K4 hK4 => J1 4 ?_
  simp
  refine hK4 _ (J_cond rfl (fun hd2 => ?_) fun hd2 => J_skip ?_)
  · have h0 : q.items = [] := List.eq_nil_of_length_eq_zero (by simpa using hd2)
    have ht : take q conn sub hold = (noQueue, 0, noItm, 33) := by simp [take, hbad, h0]
    refine J_seq' fun K3 hK3 => J1 4 ?_
    simp
    refine hK3 _ (J_ret (hF _ _ ?_))
    simp [Tryz.f211, ht, noQueue, Queue.enc, noItm, noMsg, Itm.enc, Msg.enc]
  have h0 : q.items.length ≠ 0 := by simpa using hd2
  obtain ⟨x, xs, hxs⟩ : ∃ x xs, q.items = x :: xs := by
    cases h : q.items with
    | nil => rw [h] at h0; simp at h0
    | cons x xs => exact ⟨x, xs, rfl⟩
  have hil : 0 < q.items.length := by omega
  simp only [thenQ, blockQ]
  refine hK2 _ (J_seq' fun K5 hK5 => J1 4 ?_)
  simp
  refine (qcopy_fun q hq.items hq.held (fun x hx => (hq.im x hx).props) (fun x hx => (hq.hm x hx).props) H).mono ?_
  rintro e H1 ⟨n1, n2, h12, hn1, hn2, rfl, hfr, hc1, hc2⟩
  have hat : List.take 7 (q.items.flatMap Itm.enc) = x.enc := by rw [hxs, List.flatMap_cons, List.take_append_of_le_length (by rw [len_Itm]; exact Nat.le_refl _)]; rfl
  simp [qcells]
  refine hK5 _ (J_seq' fun K6 hK6 => J1 4 ?_)
  simp [hc1, hat, len_Itm, kill_Itm]
  repeat refine And.intro (by omega) ?_
  refine hK6 _ (J_seq' fun K7 hK7 => J1 4 ?_)
  simp
  refine PCalls.mono (by exact del_Itm q.items hq.items 0 hil H1 n1 hc1) ?_
  rintro e H2 ⟨k', hk', rfl, hfr2, hc3⟩
  have hkn : k' ≠ n2 := by
    rcases hk' with rfl | h
    · exact h12
    · rintro rfl; rw [hc2] at h; cases h
  have hc2' : H2 n2 = some (q.held.flatMap Hold.enc) := by rw [hfr2 n2 (Ne.symm h12) (Ne.symm hkn)]; exact hc2
  have hfm := frame3 hn1 hn2 hfr (k' := k') (hk'.imp_right .inr) (fun m a b c => hfr2 m a c)
  have hers : q.items.eraseIdx 0 = xs := by rw [hxs]; rfl
  rw [hers] at hc3
  have hxl : q.items.length = xs.length + 1 := by rw [hxs]; rfl
  simp
  refine hK7 _ ?_
  refine J_has (T := [(1, aint conn), (2, aint sub), (3, abool hold), (8, .p (.l 8) 0), (10, .p (.l 10) 0), (12, .p (.l 12) 0), (13, .p (.l 13) 0)]) (L := [(13, x.enc), (12, qrow { q with items := xs } k' n2), (10, zeroI), (8, zeroQ)]) (H := H2) ⟨by simp, by simp [qrow, zeroQ, zeroI, hxl, kill_Itm], rfl⟩ ?_
  refine J_seq' fun K8 hK8 => J1 4 ?_
  simp
  refine hK8 _ (J_seq' fun K9 hK9 => J_seq' fun K10 hK10 => J1 4 ?_)
  simp
  have rest : ∀ (o : Queue) (nH : Nat) (H3 : Heap) (tag : Int) (s' : AS), take q conn sub hold = (o, tag, x, 0) → k' ≠ nH → H3 k' = some (o.items.flatMap Itm.enc) → H3 nH = some (o.held.flatMap Hold.enc) → (∀ m cs, H m = some cs → m ≠ k' ∧ m ≠ nH ∧ H3 m = some cs) →
      Has [(8, .p (.l 8) 0), (10, .p (.l 10) 0), (12, .p (.l 12) 0), (13, .p (.l 13) 0), (14, aint tag)] [(13, x.enc), (12, qrow o k' nH), (10, zeroI), (8, zeroQ)] H3 s' → K9 s' := by
    intro o nH H3 tag s' ht hne g1 g2 g3 hs'
    refine hK9 _ (J_has hs' ?_)
    have hcp := copied_fun x.msg (hq.im x (by rw [hxs]; simp)).props
    refine J_seq' fun K12 hK12 => J1 4 ?_
    simp [Itm.enc, len_Msg, noLL_Msg, take_Msg]
    refine hcp.call ?_
    simp [len_Msg, take_Msg]
    refine hK12 _ ?_
    refine J_subL [(12, qrow o k' nH), (13, x.enc), (10, zeroI), (8, zeroQ)] (fun k cs hk => ?_) ?_
    · simp [lookL] at hk ⊢
      by_cases a : k = 13
      · subst a; simpa [Itm.enc, show List.drop 5 x.msg.enc = [] from rfl] using hk
      · by_cases b : k = 12
        · subst b; simpa using hk
        · simpa [a, b] using hk
    refine J_has (T := [(12, .p (.l 12) 0), (8, .p (.l 8) 0), (10, .p (.l 10) 0), (13, .p (.l 13) 0), (14, aint tag)]) (L := [(12, qrow o k' nH), (13, x.enc), (10, zeroI), (8, zeroQ)]) (H := H3) ⟨by simp, by simp, rfl⟩ ?_
    refine J_outB o 12 k' nH (by omega) [(8, .p (.l 8) 0), (10, .p (.l 10) 0), (13, .p (.l 13) 0), (14, aint tag)] [(13, x.enc), (10, zeroI), (8, zeroQ)] H3 H hne g1 g2 g3 ?_ ?_ ?_ ?_ ?_
    · intro k n hk _; simp [show ¬ 8 = k from by omega, show ¬ 10 = k from by omega, show ¬ 13 = k from by omega]
    · intro k cs hk; simp [show ¬ 8 = k from by omega, show ¬ 10 = k from by omega, show ¬ 13 = k from by omega]
    · intro k n hk _; simp [show ¬ 8 = k from by omega, show ¬ 10 = k from by omega, show ¬ 13 = k from by omega, zeroQ, zeroI, ren_Itm]
    · intro k cs hk; simp [show ¬ k = 8 from by omega, show ¬ k = 10 from by omega, show ¬ k = 13 from by omega, zeroQ, zeroI, frz_Itm]
    refine J_seq' fun K13 hK13 => D1 4 [0,1,2] [3,4,5,6] (fun t => match t with | 3 => [1,2] | 4 => [2] | _ => []) rfl (by decide) (by decide) ?_
    simp [Queue.enc, len_Itm, take_Itm, noLL_Itm, zeroI, zeroQ]
    refine hK13 _ (J_ret (hF _ _ ?_))
    simp [Tryz.f211, ht, Queue.enc, Itm.enc, Msg.enc]
  refine hK10 _ (J_cond rfl (fun hh => ?_) fun hh => J_skip ?_)
  · subst hh
    have hwt : IntKind.i64.wrap (q.tag + 1) = q.tag + 1 := w64 (by omega) (by omega)
    refine J_seq' fun K13 hK13 => J1 4 ?_
    simp [qrow]
    rw [hwt]
    refine hK13 _ (J_seq' fun K14 hK14 => J1 4 ?_)
    simp
    refine hK14 _ (J2 4 73 ?_)
    simp [hc2', len_Itm, take_Itm, noLL_Itm]
    have hcell : (q.held ++ [(⟨q.tag + 1, conn, sub, x⟩ : Hold)]).flatMap Hold.enc = q.held.flatMap Hold.enc ++ (AV.v (Value.int IntKind.i64 (q.tag + 1)) :: aint conn :: aint sub :: x.enc) := by simp [List.flatMap_append, Hold.enc]
    have ht : take q conn sub true = ({ q with items := xs, tag := q.tag + 1, held := q.held ++ [⟨q.tag + 1, conn, sub, x⟩] }, q.tag + 1, x, 0) := by simp [take, hbad, hxs]
    have go : ∀ (k : Nat) (S : Slots), (k = n2 ∨ H2 k = none) → subS [(8, .p (.l 8) 0), (10, .p (.l 10) 0), (12, .p (.l 12) 0), (13, .p (.l 13) 0), (14, aint (q.tag + 1))] S → K9 ⟨S, [(13, x.enc), (12, [astr q.name, abool q.durable, aint q.depth, aint q.seq, AV.v (Value.int IntKind.i64 (q.tag + 1)), AV.os (Loc.h k') 7 0 xs.length, AV.os (Loc.h k) 10 0 (q.held.length + 1)]), (10, zeroI), (8, zeroQ)], (H2.put n2 none).put k (some (List.flatMap Hold.enc q.held ++ AV.v (Value.int IntKind.i64 (q.tag + 1)) :: aint conn :: aint sub :: x.enc))⟩ := by
      intro k S hk hS
      have hkk : k' ≠ k := by
        rcases hk with rfl | h
        · exact hkn
        · rintro rfl; rw [hc3] at h; cases h
      refine rest { q with items := xs, tag := q.tag + 1, held := q.held ++ [⟨q.tag + 1, conn, sub, x⟩] } k _ (q.tag + 1) _ ht hkk ?_ ?_ ?_ ⟨hS, by simp [qrow], rfl⟩
      · simp [hkk, hkn, hc3]
      · simp [hcell]
      · intro m cs hm
        obtain ⟨a, b, c, d⟩ := hfm m cs hm
        have hmk : m ≠ k := by
          rcases hk with rfl | h
          · exact b
          · rintro rfl; rw [d] at h; cases h
        exact ⟨c, hmk, by simp [hmk, b, d]⟩
    exact ⟨by omega, by omega, go n2 _ (.inl rfl) (by simp), fun k hk => go k _ (.inr hk) (by simp)⟩
  · subst hh
    simp only [thenQ]
    refine rest { q with items := xs } n2 H2 0 _ (by simp [take, hbad, hxs]) hkn hc3 hc2' (fun m cs hm => ?_) ⟨by simp, by simp, rfl⟩
    obtain ⟨a, b, c, d⟩ := hfm m cs hm
    exact ⟨c, b, d⟩
end
section
attribute [local simp] D_257 D_26 D_46 D_24 D_25 D_54 D_27 D_33 D_50 D_42 D_77 D_28 D_89 D_87 plainOp
attribute [local simp ↓] evTsR
attribute [-simp] List.length_flatMap
def rising {α : Type} (f : α → α → Int) : List α → Bool
  | [] => true
  | [_] => true
  | a :: b :: r => decide (f a b < 0) && rising f (b :: r)
theorem ris_Queue (xs : List Queue) (hx : xs.length ≤ 2000000) (g : FuncId) (caps : List AV) (hcaps : AV.noLL caps = true) (f : Queue → Queue → Int) (hp : ∀ x ∈ xs, ∀ y ∈ xs, PFun Tryz.prog g (.agg (Queue.enc x) :: .agg (Queue.enc y) :: caps) (aint (f x y))) : PFun Tryz.prog 53 [asl Queue.enc xs, .fn g caps] (abool (rising f xs)) := by
  refine PFun.of_J D_ok Tryz.func53 rfl (by decide) (le' rfl) fun H E QF hF => ?_
  change J _ E 24 _ _ _
  refine J_seq' fun K1 hK1 => J0 ?_
  simp
  refine hK1 _ (J_seq' fun K2 hK2 => J_seq' fun K3 hK3 => J0 ?_)
  simp
  refine hK3 _ (J_block ?_)
  refine J_loop' (fun m s' => ∃ i : Nat, i ≤ xs.length ∧ m = xs.length - i ∧ rising f xs = rising f (xs.drop i) ∧ Has [(0, asl Queue.enc xs), (1, .fn g caps), (5, aint ((i : Int) + 1))] [] H s') (n := xs.length) ⟨0, by omega, by omega, rfl, by simp⟩ ?_
  rintro m s' ⟨i, hi, hm, hr, hs'⟩ K hK
  refine J_has hs' ?_
  refine J_seq' fun K4 hK4 => J_seq' fun K5 hK5 => J0 ?_
  simp
  refine hK5 _ (J_cond rfl (fun hc => J_skip ?_) fun hc => J_exit ?_)
  · simp at hc
    obtain ⟨x, hxi⟩ : ∃ x, xs[i]? = some x := ⟨_, List.getElem?_eq_getElem (by omega)⟩
    obtain ⟨y, hyi⟩ : ∃ y, xs[i + 1]? = some y := ⟨_, List.getElem?_eq_getElem (by omega)⟩
    have hatx := at_Queue xs hxi
    have haty := at_Queue xs hyi
    have hw : IntKind.i64.wrap (i : Int) = (i : Int) := w64 (by omega) (by omega)
    have hdr : xs.drop i = x :: y :: xs.drop (i + 1 + 1) := by rw [drop_at hxi, drop_at hyi]
    simp only [thenQ, blockQ]
    refine hK4 _ (J_seq' fun K6 hK6 => J_block (J_seq' fun K7 hK7 => D0 [0,1,2,3,4,5,6,7,8,9,10,11] [] (fun _ => []) rfl (by decide) (by decide) ?_))
    have hti : ((i : Int) + 1).toNat = i + 1 := by omega
    simp [hw, hatx, haty, hcaps, noLL_Queue, len_Queue, hti]
    repeat refine And.intro (by omega) ?_
    refine ⟨_, hp x (List.mem_of_getElem? hxi) y (List.mem_of_getElem? hyi), ?_⟩
    simp
    refine hK7 _ (J_cond rfl (fun hd => ?_) fun hd => J_skip ?_)
    · have hf : rising f xs = false := by
        rw [hr, hdr]; simp only [rising, Bool.and_eq_false_iff, decide_eq_false_iff_not]
        left
        simpa using hd
      refine J_seq' fun K8 hK8 => J0 ?_
      simp
      refine hK8 _ (J_ret (hF _ _ ?_))
      simp [Tryz.f53, hf]
    · have hf : f x y < 0 := by simpa using hd
      simp only [thenQ, blockQ]
      refine hK6 _ (J0 ?_)
      simp
      refine hK (xs.length - (i + 1)) _ (by omega) ⟨i + 1, by omega, rfl, ?_, ?_⟩
      · rw [hr, hdr, drop_at hyi]; simp [rising, hf]
      · simp
        rw [w64 (by omega) (by omega)]
  · simp at hc
    have hf : rising f xs = true := by
      rw [hr]
      rcases Nat.lt_or_ge i xs.length with h | h
      · obtain ⟨x, hxi⟩ : ∃ x, xs[i]? = some x := ⟨_, List.getElem?_eq_getElem h⟩
        rw [drop_at hxi, List.drop_eq_nil_of_le (by omega)]; rfl
      · rw [List.drop_eq_nil_of_le h]; rfl
    simp only [thenQ, blockQ, if_true]
    refine hK2 _ (J_seq' fun K9 hK9 => J0 ?_)
    simp
    refine hK9 _ (J_ret (hF _ _ ?_))
    simp [Tryz.f53, hf]
theorem ris_Bind (xs : List Tv.Bind) (hx : xs.length ≤ 2000000) (g : FuncId) (caps : List AV) (hcaps : AV.noLL caps = true) (f : Tv.Bind → Tv.Bind → Int) (hp : ∀ x ∈ xs, ∀ y ∈ xs, PFun Tryz.prog g (.agg (Bind.enc x) :: .agg (Bind.enc y) :: caps) (aint (f x y))) : PFun Tryz.prog 56 [asl Bind.enc xs, .fn g caps] (abool (rising f xs)) := by
  refine PFun.of_J D_ok Tryz.func56 rfl (by decide) (le' rfl) fun H E QF hF => ?_
  change J _ E 24 _ _ _
  refine J_seq' fun K1 hK1 => J0 ?_
  simp
  refine hK1 _ (J_seq' fun K2 hK2 => J_seq' fun K3 hK3 => J0 ?_)
  simp
  refine hK3 _ (J_block ?_)
  refine J_loop' (fun m s' => ∃ i : Nat, i ≤ xs.length ∧ m = xs.length - i ∧ rising f xs = rising f (xs.drop i) ∧ Has [(0, asl Bind.enc xs), (1, .fn g caps), (5, aint ((i : Int) + 1))] [] H s') (n := xs.length) ⟨0, by omega, by omega, rfl, by simp⟩ ?_
  rintro m s' ⟨i, hi, hm, hr, hs'⟩ K hK
  refine J_has hs' ?_
  refine J_seq' fun K4 hK4 => J_seq' fun K5 hK5 => J0 ?_
  simp
  refine hK5 _ (J_cond rfl (fun hc => J_skip ?_) fun hc => J_exit ?_)
  · simp at hc
    obtain ⟨x, hxi⟩ : ∃ x, xs[i]? = some x := ⟨_, List.getElem?_eq_getElem (by omega)⟩
    obtain ⟨y, hyi⟩ : ∃ y, xs[i + 1]? = some y := ⟨_, List.getElem?_eq_getElem (by omega)⟩
    have hatx := at_Bind xs hxi
    have haty := at_Bind xs hyi
    have hw : IntKind.i64.wrap (i : Int) = (i : Int) := w64 (by omega) (by omega)
    have hdr : xs.drop i = x :: y :: xs.drop (i + 1 + 1) := by rw [drop_at hxi, drop_at hyi]
    simp only [thenQ, blockQ]
    refine hK4 _ (J_seq' fun K6 hK6 => J_block (J_seq' fun K7 hK7 => D0 [0,1,2,3,4,5,6,7,8,9,10,11] [] (fun _ => []) rfl (by decide) (by decide) ?_))
    have hti : ((i : Int) + 1).toNat = i + 1 := by omega
    simp [hw, hatx, haty, hcaps, noLL_Bind, len_Bind, hti]
    repeat refine And.intro (by omega) ?_
    refine ⟨_, hp x (List.mem_of_getElem? hxi) y (List.mem_of_getElem? hyi), ?_⟩
    simp
    refine hK7 _ (J_cond rfl (fun hd => ?_) fun hd => J_skip ?_)
    · have hf : rising f xs = false := by
        rw [hr, hdr]; simp only [rising, Bool.and_eq_false_iff, decide_eq_false_iff_not]
        left
        simpa using hd
      refine J_seq' fun K8 hK8 => J0 ?_
      simp
      refine hK8 _ (J_ret (hF _ _ ?_))
      simp [Tryz.f56, hf]
    · have hf : f x y < 0 := by simpa using hd
      simp only [thenQ, blockQ]
      refine hK6 _ (J0 ?_)
      simp
      refine hK (xs.length - (i + 1)) _ (by omega) ⟨i + 1, by omega, rfl, ?_, ?_⟩
      · rw [hr, hdr, drop_at hyi]; simp [rising, hf]
      · simp
        rw [w64 (by omega) (by omega)]
  · simp at hc
    have hf : rising f xs = true := by
      rw [hr]
      rcases Nat.lt_or_ge i xs.length with h | h
      · obtain ⟨x, hxi⟩ : ∃ x, xs[i]? = some x := ⟨_, List.getElem?_eq_getElem h⟩
        rw [drop_at hxi, List.drop_eq_nil_of_le (by omega)]; rfl
      · rw [List.drop_eq_nil_of_le h]; rfl
    simp only [thenQ, blockQ, if_true]
    refine hK2 _ (J_seq' fun K9 hK9 => J0 ?_)
    simp
    refine hK9 _ (J_ret (hF _ _ ?_))
    simp [Tryz.f56, hf]
theorem ris_Sub (xs : List Tv.Sub) (hx : xs.length ≤ 2000000) (g : FuncId) (caps : List AV) (hcaps : AV.noLL caps = true) (f : Tv.Sub → Tv.Sub → Int) (hp : ∀ x ∈ xs, ∀ y ∈ xs, PFun Tryz.prog g (.agg (Sub.enc x) :: .agg (Sub.enc y) :: caps) (aint (f x y))) : PFun Tryz.prog 58 [asl Sub.enc xs, .fn g caps] (abool (rising f xs)) := by
  refine PFun.of_J D_ok Tryz.func58 rfl (by decide) (le' rfl) fun H E QF hF => ?_
  change J _ E 24 _ _ _
  refine J_seq' fun K1 hK1 => J0 ?_
  simp
  refine hK1 _ (J_seq' fun K2 hK2 => J_seq' fun K3 hK3 => J0 ?_)
  simp
  refine hK3 _ (J_block ?_)
  refine J_loop' (fun m s' => ∃ i : Nat, i ≤ xs.length ∧ m = xs.length - i ∧ rising f xs = rising f (xs.drop i) ∧ Has [(0, asl Sub.enc xs), (1, .fn g caps), (5, aint ((i : Int) + 1))] [] H s') (n := xs.length) ⟨0, by omega, by omega, rfl, by simp⟩ ?_
  rintro m s' ⟨i, hi, hm, hr, hs'⟩ K hK
  refine J_has hs' ?_
  refine J_seq' fun K4 hK4 => J_seq' fun K5 hK5 => J0 ?_
  simp
  refine hK5 _ (J_cond rfl (fun hc => J_skip ?_) fun hc => J_exit ?_)
  · simp at hc
    obtain ⟨x, hxi⟩ : ∃ x, xs[i]? = some x := ⟨_, List.getElem?_eq_getElem (by omega)⟩
    obtain ⟨y, hyi⟩ : ∃ y, xs[i + 1]? = some y := ⟨_, List.getElem?_eq_getElem (by omega)⟩
    have hatx := at_Sub xs hxi
    have haty := at_Sub xs hyi
    have hw : IntKind.i64.wrap (i : Int) = (i : Int) := w64 (by omega) (by omega)
    have hdr : xs.drop i = x :: y :: xs.drop (i + 1 + 1) := by rw [drop_at hxi, drop_at hyi]
    simp only [thenQ, blockQ]
    refine hK4 _ (J_seq' fun K6 hK6 => J_block (J_seq' fun K7 hK7 => D0 [0,1,2,3,4,5,6,7,8,9,10,11] [] (fun _ => []) rfl (by decide) (by decide) ?_))
    have hti : ((i : Int) + 1).toNat = i + 1 := by omega
    simp [hw, hatx, haty, hcaps, noLL_Sub, len_Sub, hti]
    repeat refine And.intro (by omega) ?_
    refine ⟨_, hp x (List.mem_of_getElem? hxi) y (List.mem_of_getElem? hyi), ?_⟩
    simp
    refine hK7 _ (J_cond rfl (fun hd => ?_) fun hd => J_skip ?_)
    · have hf : rising f xs = false := by
        rw [hr, hdr]; simp only [rising, Bool.and_eq_false_iff, decide_eq_false_iff_not]
        left
        simpa using hd
      refine J_seq' fun K8 hK8 => J0 ?_
      simp
      refine hK8 _ (J_ret (hF _ _ ?_))
      simp [Tryz.f58, hf]
    · have hf : f x y < 0 := by simpa using hd
      simp only [thenQ, blockQ]
      refine hK6 _ (J0 ?_)
      simp
      refine hK (xs.length - (i + 1)) _ (by omega) ⟨i + 1, by omega, rfl, ?_, ?_⟩
      · rw [hr, hdr, drop_at hyi]; simp [rising, hf]
      · simp
        rw [w64 (by omega) (by omega)]
  · simp at hc
    have hf : rising f xs = true := by
      rw [hr]
      rcases Nat.lt_or_ge i xs.length with h | h
      · obtain ⟨x, hxi⟩ : ∃ x, xs[i]? = some x := ⟨_, List.getElem?_eq_getElem h⟩
        rw [drop_at hxi, List.drop_eq_nil_of_le (by omega)]; rfl
      · rw [List.drop_eq_nil_of_le h]; rfl
    simp only [thenQ, blockQ, if_true]
    refine hK2 _ (J_seq' fun K9 hK9 => J0 ?_)
    simp
    refine hK9 _ (J_ret (hF _ _ ?_))
    simp [Tryz.f58, hf]
theorem ris_Msg (xs : List Msg) (hx : xs.length ≤ 2000000) (g : FuncId) (caps : List AV) (hcaps : AV.noLL caps = true) (f : Msg → Msg → Int) (hp : ∀ x ∈ xs, ∀ y ∈ xs, PFun Tryz.prog g (.agg (Msg.enc x) :: .agg (Msg.enc y) :: caps) (aint (f x y))) : PFun Tryz.prog 60 [asl Msg.enc xs, .fn g caps] (abool (rising f xs)) := by
  refine PFun.of_J D_ok Tryz.func60 rfl (by decide) (le' rfl) fun H E QF hF => ?_
  change J _ E 24 _ _ _
  refine J_seq' fun K1 hK1 => J0 ?_
  simp
  refine hK1 _ (J_seq' fun K2 hK2 => J_seq' fun K3 hK3 => J0 ?_)
  simp
  refine hK3 _ (J_block ?_)
  refine J_loop' (fun m s' => ∃ i : Nat, i ≤ xs.length ∧ m = xs.length - i ∧ rising f xs = rising f (xs.drop i) ∧ Has [(0, asl Msg.enc xs), (1, .fn g caps), (5, aint ((i : Int) + 1))] [] H s') (n := xs.length) ⟨0, by omega, by omega, rfl, by simp⟩ ?_
  rintro m s' ⟨i, hi, hm, hr, hs'⟩ K hK
  refine J_has hs' ?_
  refine J_seq' fun K4 hK4 => J_seq' fun K5 hK5 => J0 ?_
  simp
  refine hK5 _ (J_cond rfl (fun hc => J_skip ?_) fun hc => J_exit ?_)
  · simp at hc
    obtain ⟨x, hxi⟩ : ∃ x, xs[i]? = some x := ⟨_, List.getElem?_eq_getElem (by omega)⟩
    obtain ⟨y, hyi⟩ : ∃ y, xs[i + 1]? = some y := ⟨_, List.getElem?_eq_getElem (by omega)⟩
    have hatx := at_Msg xs hxi
    have haty := at_Msg xs hyi
    have hw : IntKind.i64.wrap (i : Int) = (i : Int) := w64 (by omega) (by omega)
    have hdr : xs.drop i = x :: y :: xs.drop (i + 1 + 1) := by rw [drop_at hxi, drop_at hyi]
    simp only [thenQ, blockQ]
    refine hK4 _ (J_seq' fun K6 hK6 => J_block (J_seq' fun K7 hK7 => D0 [0,1,2,3,4,5,6,7,8,9,10,11] [] (fun _ => []) rfl (by decide) (by decide) ?_))
    have hti : ((i : Int) + 1).toNat = i + 1 := by omega
    simp [hw, hatx, haty, hcaps, noLL_Msg, len_Msg, hti]
    repeat refine And.intro (by omega) ?_
    refine ⟨_, hp x (List.mem_of_getElem? hxi) y (List.mem_of_getElem? hyi), ?_⟩
    simp
    refine hK7 _ (J_cond rfl (fun hd => ?_) fun hd => J_skip ?_)
    · have hf : rising f xs = false := by
        rw [hr, hdr]; simp only [rising, Bool.and_eq_false_iff, decide_eq_false_iff_not]
        left
        simpa using hd
      refine J_seq' fun K8 hK8 => J0 ?_
      simp
      refine hK8 _ (J_ret (hF _ _ ?_))
      simp [Tryz.f60, hf]
    · have hf : f x y < 0 := by simpa using hd
      simp only [thenQ, blockQ]
      refine hK6 _ (J0 ?_)
      simp
      refine hK (xs.length - (i + 1)) _ (by omega) ⟨i + 1, by omega, rfl, ?_, ?_⟩
      · rw [hr, hdr, drop_at hyi]; simp [rising, hf]
      · simp
        rw [w64 (by omega) (by omega)]
  · simp at hc
    have hf : rising f xs = true := by
      rw [hr]
      rcases Nat.lt_or_ge i xs.length with h | h
      · obtain ⟨x, hxi⟩ : ∃ x, xs[i]? = some x := ⟨_, List.getElem?_eq_getElem h⟩
        rw [drop_at hxi, List.drop_eq_nil_of_le (by omega)]; rfl
      · rw [List.drop_eq_nil_of_le h]; rfl
    simp only [thenQ, blockQ, if_true]
    refine hK2 _ (J_seq' fun K9 hK9 => J0 ?_)
    simp
    refine hK9 _ (J_ret (hF _ _ ?_))
    simp [Tryz.f60, hf]
theorem ris_Client (xs : List Client) (hx : xs.length ≤ 2000000) (g : FuncId) (caps : List AV) (hcaps : AV.noLL caps = true) (f : Client → Client → Int) (hp : ∀ x ∈ xs, ∀ y ∈ xs, PFun Tryz.prog g (.agg (Client.enc x) :: .agg (Client.enc y) :: caps) (aint (f x y))) : PFun Tryz.prog 62 [asl Client.enc xs, .fn g caps] (abool (rising f xs)) := by
  refine PFun.of_J D_ok Tryz.func62 rfl (by decide) (le' rfl) fun H E QF hF => ?_
  change J _ E 24 _ _ _
  refine J_seq' fun K1 hK1 => J0 ?_
  simp
  refine hK1 _ (J_seq' fun K2 hK2 => J_seq' fun K3 hK3 => J0 ?_)
  simp
  refine hK3 _ (J_block ?_)
  refine J_loop' (fun m s' => ∃ i : Nat, i ≤ xs.length ∧ m = xs.length - i ∧ rising f xs = rising f (xs.drop i) ∧ Has [(0, asl Client.enc xs), (1, .fn g caps), (5, aint ((i : Int) + 1))] [] H s') (n := xs.length) ⟨0, by omega, by omega, rfl, by simp⟩ ?_
  rintro m s' ⟨i, hi, hm, hr, hs'⟩ K hK
  refine J_has hs' ?_
  refine J_seq' fun K4 hK4 => J_seq' fun K5 hK5 => J0 ?_
  simp
  refine hK5 _ (J_cond rfl (fun hc => J_skip ?_) fun hc => J_exit ?_)
  · simp at hc
    obtain ⟨x, hxi⟩ : ∃ x, xs[i]? = some x := ⟨_, List.getElem?_eq_getElem (by omega)⟩
    obtain ⟨y, hyi⟩ : ∃ y, xs[i + 1]? = some y := ⟨_, List.getElem?_eq_getElem (by omega)⟩
    have hatx := at_Client xs hxi
    have haty := at_Client xs hyi
    have hw : IntKind.i64.wrap (i : Int) = (i : Int) := w64 (by omega) (by omega)
    have hdr : xs.drop i = x :: y :: xs.drop (i + 1 + 1) := by rw [drop_at hxi, drop_at hyi]
    simp only [thenQ, blockQ]
    refine hK4 _ (J_seq' fun K6 hK6 => J_block (J_seq' fun K7 hK7 => D0 [0,1,2,3,4,5,6,7,8,9,10,11] [] (fun _ => []) rfl (by decide) (by decide) ?_))
    have hti : ((i : Int) + 1).toNat = i + 1 := by omega
    simp [hw, hatx, haty, hcaps, noLL_Client, len_Client, hti]
    repeat refine And.intro (by omega) ?_
    refine ⟨_, hp x (List.mem_of_getElem? hxi) y (List.mem_of_getElem? hyi), ?_⟩
    simp
    refine hK7 _ (J_cond rfl (fun hd => ?_) fun hd => J_skip ?_)
    · have hf : rising f xs = false := by
        rw [hr, hdr]; simp only [rising, Bool.and_eq_false_iff, decide_eq_false_iff_not]
        left
        simpa using hd
      refine J_seq' fun K8 hK8 => J0 ?_
      simp
      refine hK8 _ (J_ret (hF _ _ ?_))
      simp [Tryz.f62, hf]
    · have hf : f x y < 0 := by simpa using hd
      simp only [thenQ, blockQ]
      refine hK6 _ (J0 ?_)
      simp
      refine hK (xs.length - (i + 1)) _ (by omega) ⟨i + 1, by omega, rfl, ?_, ?_⟩
      · rw [hr, hdr, drop_at hyi]; simp [rising, hf]
      · simp
        rw [w64 (by omega) (by omega)]
  · simp at hc
    have hf : rising f xs = true := by
      rw [hr]
      rcases Nat.lt_or_ge i xs.length with h | h
      · obtain ⟨x, hxi⟩ : ∃ x, xs[i]? = some x := ⟨_, List.getElem?_eq_getElem h⟩
        rw [drop_at hxi, List.drop_eq_nil_of_le (by omega)]; rfl
      · rw [List.drop_eq_nil_of_le h]; rfl
    simp only [thenQ, blockQ, if_true]
    refine hK2 _ (J_seq' fun K9 hK9 => J0 ?_)
    simp
    refine hK9 _ (J_ret (hF _ _ ?_))
    simp [Tryz.f62, hf]
theorem ris_Num (xs : List Int) (hx : xs.length ≤ 2000000) (g : FuncId) (caps : List AV) (hcaps : AV.noLL caps = true) (f : Int → Int → Int) (hp : ∀ x ∈ xs, ∀ y ∈ xs, PFun Tryz.prog g (aint x :: aint y :: caps) (aint (f x y))) : PFun Tryz.prog 78 [asl Num.enc xs, .fn g caps] (abool (rising f xs)) := by
  refine PFun.of_J D_ok Tryz.func78 rfl (by decide) (le' rfl) fun H E QF hF => ?_
  change J _ E 24 _ _ _
  refine J_seq' fun K1 hK1 => J0 ?_
  simp
  refine hK1 _ (J_seq' fun K2 hK2 => J_seq' fun K3 hK3 => J0 ?_)
  simp
  refine hK3 _ (J_block ?_)
  refine J_loop' (fun m s' => ∃ i : Nat, i ≤ xs.length ∧ m = xs.length - i ∧ rising f xs = rising f (xs.drop i) ∧ Has [(0, asl Num.enc xs), (1, .fn g caps), (5, aint ((i : Int) + 1))] [] H s') (n := xs.length) ⟨0, by omega, by omega, rfl, by simp⟩ ?_
  rintro m s' ⟨i, hi, hm, hr, hs'⟩ K hK
  refine J_has hs' ?_
  refine J_seq' fun K4 hK4 => J_seq' fun K5 hK5 => J0 ?_
  simp
  refine hK5 _ (J_cond rfl (fun hc => J_skip ?_) fun hc => J_exit ?_)
  · simp at hc
    obtain ⟨x, hxi⟩ : ∃ x, xs[i]? = some x := ⟨_, List.getElem?_eq_getElem (by omega)⟩
    obtain ⟨y, hyi⟩ : ∃ y, xs[i + 1]? = some y := ⟨_, List.getElem?_eq_getElem (by omega)⟩
    have hatx := at_Num xs hxi
    have haty := at_Num xs hyi
    rw [Nat.mul_one] at hatx haty
    have hw : IntKind.i64.wrap (i : Int) = (i : Int) := w64 (by omega) (by omega)
    have hdr : xs.drop i = x :: y :: xs.drop (i + 1 + 1) := by rw [drop_at hxi, drop_at hyi]
    simp only [thenQ, blockQ]
    refine hK4 _ (J_seq' fun K6 hK6 => J_block (J_seq' fun K7 hK7 => D0 [0,1,2,3,4,5,6,7,8,9,10,11] [] (fun _ => []) rfl (by decide) (by decide) ?_))
    have hti : ((i : Int) + 1).toNat = i + 1 := by omega
    simp [hw, hatx, haty, hcaps, noLL_Num, len_Num, Num.enc, hti]
    repeat refine And.intro (by omega) ?_
    refine ⟨_, hp x (List.mem_of_getElem? hxi) y (List.mem_of_getElem? hyi), ?_⟩
    simp
    refine hK7 _ (J_cond rfl (fun hd => ?_) fun hd => J_skip ?_)
    · have hf : rising f xs = false := by
        rw [hr, hdr]; simp only [rising, Bool.and_eq_false_iff, decide_eq_false_iff_not]
        left
        simpa using hd
      refine J_seq' fun K8 hK8 => J0 ?_
      simp
      refine hK8 _ (J_ret (hF _ _ ?_))
      simp [Tryz.f78, hf]
    · have hf : f x y < 0 := by simpa using hd
      simp only [thenQ, blockQ]
      refine hK6 _ (J0 ?_)
      simp
      refine hK (xs.length - (i + 1)) _ (by omega) ⟨i + 1, by omega, rfl, ?_, ?_⟩
      · rw [hr, hdr, drop_at hyi]; simp [rising, hf]
      · simp
        rw [w64 (by omega) (by omega)]
  · simp at hc
    have hf : rising f xs = true := by
      rw [hr]
      rcases Nat.lt_or_ge i xs.length with h | h
      · obtain ⟨x, hxi⟩ : ∃ x, xs[i]? = some x := ⟨_, List.getElem?_eq_getElem h⟩
        rw [drop_at hxi, List.drop_eq_nil_of_le (by omega)]; rfl
      · rw [List.drop_eq_nil_of_le h]; rfl
    simp only [thenQ, blockQ, if_true]
    refine hK2 _ (J_seq' fun K9 hK9 => J0 ?_)
    simp
    refine hK9 _ (J_ret (hF _ _ ?_))
    simp [Tryz.f78, hf]
end
section
attribute [local simp] plainOp renSf renLf AV.ren AV.renL escF adoptF AS.esc AS.adopt AS.frz frzS frzL frzC AV.frz Heap.put D_42 D_33 D_50 D_77 D_37 D_24 D_25 D_26 D_27 D_28 D_87 D_30 D_54 D_46 D_89 D_105 D_103 D_102 D_108 D_110 D_112 D_114 D_116 D_118 D_121 D_124 D_52 D_131 D_130 D_128
attribute [local simp ↓] evTsR evQsh evQh
attribute [-simp] List.length_flatMap
def byNameQ (a b : Queue) : Int := scmp a.name b.name
def byTopic (a b : Msg) : Int := scmp a.topic b.topic
def byNameC (a b : Client) : Int := scmp a.name b.name
theorem byNameQ_fun (a b : Queue) : PFun Tryz.prog 54 [.agg a.enc, .agg b.enc] (aint (byNameQ a b)) := by
  refine PFun.of_J D_ok Tryz.func54 rfl (by decide) (le' rfl) fun H E QF hF => ?_
  change J _ E 10 _ _ _
  refine J_seq' fun K1 hK1 => J2 2 3 ?_
  simp [Queue.enc]
  refine hK1 _ (J_seq' fun K2 hK2 => J2 2 3 ?_)
  simp
  refine (scmp_fun _ _).call ?_
  simp
  refine hK2 _ (J_ret (hF _ _ ?_))
  simp [Tryz.f54, byNameQ]
theorem byTopic_fun (a b : Msg) : PFun Tryz.prog 61 [.agg a.enc, .agg b.enc] (aint (byTopic a b)) := by
  refine PFun.of_J D_ok Tryz.func61 rfl (by decide) (le' rfl) fun H E QF hF => ?_
  change J _ E 10 _ _ _
  refine J_seq' fun K1 hK1 => J2 2 3 ?_
  simp [Msg.enc]
  refine hK1 _ (J_seq' fun K2 hK2 => J2 2 3 ?_)
  simp
  refine (scmp_fun _ _).call ?_
  simp
  refine hK2 _ (J_ret (hF _ _ ?_))
  simp [Tryz.f61, byTopic]
theorem byNameC_fun (a b : Client) : PFun Tryz.prog 63 [.agg a.enc, .agg b.enc] (aint (byNameC a b)) := by
  refine PFun.of_J D_ok Tryz.func63 rfl (by decide) (le' rfl) fun H E QF hF => ?_
  change J _ E 10 _ _ _
  refine J_seq' fun K1 hK1 => J2 2 3 ?_
  simp [Client.enc]
  refine hK1 _ (J_seq' fun K2 hK2 => J2 2 3 ?_)
  simp
  refine (scmp_fun _ _).call ?_
  simp
  refine hK2 _ (J_ret (hF _ _ ?_))
  simp [Tryz.f63, byNameC]
def badQ (q : Queue) : Bool := !qGood q
theorem badQ_fun (q : Queue) (hq : QFit q) : PFun Tryz.prog 65 [.agg q.enc] (abool (badQ q)) := by
  refine PFun.of_J D_ok Tryz.func65 rfl (by decide) (le' rfl) fun H E QF hF => ?_
  change J _ E 6 _ _ _
  refine J_seq' fun K1 hK1 => J1 1 ?_
  simp [Queue.enc]
  refine hK1 _ (J_seq' fun K2 hK2 => J1 1 ?_)
  simp
  refine (qgood_fun q hq).call ?_
  simp
  refine hK2 _ (J_ret (hF _ _ ?_))
  simp [Tryz.f65, badQ]
def nameIs (name : ByteArray) (q : Queue) : Bool := sEq q.name name
theorem nameIs_fun (q : Queue) (name : ByteArray) : PFun Tryz.prog 142 [.agg q.enc, .vp [astr name]] (abool (nameIs name q)) := by
  refine PFun.of_J D_ok Tryz.func142 rfl (by decide) (le' rfl) fun H E QF hF => ?_
  change J _ E 8 _ _ _
  refine J_seq' fun K1 hK1 => J1 2 ?_
  simp [Queue.enc]
  refine hK1 _ (J_seq' fun K2 hK2 => J1 2 ?_)
  simp
  refine hK2 _ (J_ret (hF _ _ ?_))
  simp [Tryz.f142, nameIs]
def atQ (qs : List Queue) (name : ByteArray) : Int := idx (nameIs name) qs
theorem at_fun (c : Core) (hc : c.queues.length ≤ 2000000) (name : ByteArray) : PFun Tryz.prog 69 [.vp [.vp c.enc, .sl0], astr name] (aint (atQ c.queues name)) := by
  refine PFun.of_J D_ok Tryz.func69 rfl (by decide) (le' rfl) fun H E QF hF => ?_
  change J _ E 14 _ _ _
  refine J_seq' fun K1 hK1 => J1 3 ?_
  simp [Core.enc]
  refine hK1 _ (J_seq' fun K2 hK2 => J1 3 ?_)
  simp
  refine (index_Queue c.queues hc 142 [.vp [astr name]] rfl (nameIs name) (fun q _ => nameIs_fun q name)).call ?_
  simp
  refine hK2 _ (J_ret (hF _ _ ?_))
  simp [Tryz.f69, atQ]
def badB (qs : List Queue) (b : Tv.Bind) : Bool := decide (atQ qs b.queue < 0) || !patternOk b.pattern
theorem badB_fun (c : Core) (hc : c.queues.length ≤ 2000000) (b : Tv.Bind) (hb : b.pattern.size ≤ 1100000) : PFun Tryz.prog 68 [.agg b.enc, .vp [.vp c.enc, .sl0]] (abool (badB c.queues b)) := by
  refine PFun.of_J D_ok Tryz.func68 rfl (by decide) (le' rfl) fun H E QF hF => ?_
  change J _ E 14 _ _ _
  refine J_seq' fun K1 hK1 => J1 2 ?_
  simp [Bind.enc]
  refine hK1 _ (J_seq' fun K2 hK2 => J1 2 ?_)
  simp
  refine (at_fun c hc _).call ?_
  rcases Int.lt_or_le (atQ c.queues b.queue) 0 with e | e
  · simp [e, show ¬ 0 ≤ atQ c.queues b.queue from by omega]
    refine hK2 _ (J_ret (hF _ _ ?_))
    simp [Tryz.f68, badB, e]
  · simp [e, show ¬ atQ c.queues b.queue < 0 from by omega]
    refine PFun.call (pattern_fun _ hb) ?_
    simp
    refine hK2 _ (J_ret (hF _ _ ?_))
    simp [Tryz.f68, badB, show ¬ atQ c.queues b.queue < 0 from by omega]
def badS (qs : List Queue) (s : Tv.Sub) : Bool := decide (atQ qs s.queue < 0) || !conn s.conn s.sub || decide (s.window < 1) || decide (32 < s.window)
theorem badS_fun (c : Core) (hc : c.queues.length ≤ 2000000) (s : Tv.Sub) : PFun Tryz.prog 71 [.agg s.enc, .vp [.vp c.enc, .sl0]] (abool (badS c.queues s)) := by
  refine PFun.of_J D_ok Tryz.func71 rfl (by decide) (le' rfl) fun H E QF hF => ?_
  change J _ E 26 _ _ _
  refine J_seq' fun K1 hK1 => J1 2 ?_
  simp [Sub.enc]
  refine hK1 _ (J_seq' fun K2 hK2 => J1 2 ?_)
  simp
  refine (at_fun c hc _).call ?_
  rcases Int.lt_or_le (atQ c.queues s.queue) 0 with e | e
  · simp [e, show ¬ 0 ≤ atQ c.queues s.queue from by omega]
    refine hK2 _ (J_ret (hF _ _ ?_))
    simp [Tryz.f71, badS, e]
  · simp [e, show ¬ atQ c.queues s.queue < 0 from by omega]
    refine PFun.call (conn_fun _ _) ?_
    rcases Bool.eq_false_or_eq_true (conn s.conn s.sub) with f | f
    · rcases Int.lt_or_le s.window 1 with g | g
      · simp [f, g, show ¬ 1 ≤ s.window from by omega]
        refine hK2 _ (J_ret (hF _ _ ?_))
        simp [Tryz.f71, badS, g]
      · simp [f, g, show ¬ s.window < 1 from by omega]
        refine hK2 _ (J_ret (hF _ _ ?_))
        simp [Tryz.f71, badS, f, show ¬ atQ c.queues s.queue < 0 from by omega, show ¬ s.window < 1 from by omega]
    · simp [f]
      refine hK2 _ (J_ret (hF _ _ ?_))
      simp [Tryz.f71, badS, f]
def badM (m : Msg) : Bool := !msgOk m || isE m.body
theorem badM_fun (m : Msg) (hm : MsgFit m) : PFun Tryz.prog 74 [.agg m.enc] (abool (badM m)) := by
  refine PFun.of_J D_ok Tryz.func74 rfl (by decide) (le' rfl) fun H E QF hF => ?_
  change J _ E 11 _ _ _
  refine J_seq' fun K1 hK1 => J1 1 ?_
  simp [Msg.enc]
  refine hK1 _ (J_seq' fun K2 hK2 => J1 1 ?_)
  simp
  refine (message_fun m hm.topic hm.props hm.names).call ?_
  rcases Bool.eq_false_or_eq_true (msgOk m) with e | e
  · simp [e, sEq_empty']
    refine hK2 _ (J_ret (hF _ _ ?_))
    simp [Tryz.f74, badM, e]
    exact sEq_empty m.body
  · simp [e]
    refine hK2 _ (J_ret (hF _ _ ?_))
    simp [Tryz.f74, badM, e]
def badP (n : Int) : Bool := !packet n
theorem badP_fun (n : Int) : PFun Tryz.prog 81 [aint n] (abool (badP n)) := by
  refine PFun.of_J D_ok Tryz.func81 rfl (by decide) (le' rfl) fun H E QF hF => ?_
  change J _ E 6 _ _ _
  refine J_seq' fun K1 hK1 => J0 ?_
  simp
  refine hK1 _ (J_seq' fun K2 hK2 => J0 ?_)
  simp
  refine (packet_fun n).call ?_
  simp
  refine hK2 _ (J_ret (hF _ _ ?_))
  simp [Tryz.f81, badP]
def badC (k : Client) : Bool := !wordOk k.name || decide (k.packets.length < 1) || decide (32 < k.packets.length) || !rising icmp k.packets || k.packets.any badP
theorem badC_fun (k : Client) (hk : k.packets.length ≤ 2000000) (hn : k.name.size ≤ 1099511627776) : PFun Tryz.prog 76 [.agg k.enc] (abool (badC k)) := by
  refine PFun.of_J D_ok Tryz.func76 rfl (by decide) (le' rfl) fun H E QF hF => ?_
  change J _ E 30 _ _ _
  refine J_seq' fun K1 hK1 => J1 1 ?_
  simp [Client.enc]
  refine hK1 _ (J_seq' fun K2 hK2 => J1 1 ?_)
  simp
  refine (name_fun k.name hn).call ?_
  rcases Bool.eq_false_or_eq_true (wordOk k.name) with e | e
  · rcases Nat.lt_or_ge k.packets.length 1 with g | g
    · simp [e, show ((k.packets.length : Nat) : Int) < 1 from by omega, show ¬ 1 ≤ ((k.packets.length : Nat) : Int) from by omega, show ¬ 1 ≤ k.packets.length from by omega, show k.packets.length = 0 from by omega]
      refine hK2 _ (J_ret (hF _ _ ?_))
      simp [Tryz.f76, badC, show k.packets.length < 1 from by omega]
    · rcases Nat.lt_or_ge 32 k.packets.length with g2 | g2
      · simp [e, show ¬ ((k.packets.length : Nat) : Int) < 1 from by omega, show 1 ≤ ((k.packets.length : Nat) : Int) from by omega, show 32 < ((k.packets.length : Nat) : Int) from by omega, show ¬ ((k.packets.length : Nat) : Int) ≤ 32 from by omega, show ¬ k.packets.length = 0 from by omega, show 1 ≤ k.packets.length from by omega]
        refine hK2 _ (J_ret (hF _ _ ?_))
        simp [Tryz.f76, badC, g2]
      · simp [e, show ¬ ((k.packets.length : Nat) : Int) < 1 from by omega, show 1 ≤ ((k.packets.length : Nat) : Int) from by omega, show ¬ 32 < ((k.packets.length : Nat) : Int) from by omega, show ((k.packets.length : Nat) : Int) ≤ 32 from by omega, show ¬ k.packets.length = 0 from by omega, show 1 ≤ k.packets.length from by omega]
        refine PFun.call (ris_Num k.packets hk 79 [] rfl icmp (fun x _ y _ => icmp_fun x y)) ?_
        rcases Bool.eq_false_or_eq_true (rising icmp k.packets) with f | f
        · simp [f]
          refine PFun.call (contains_Num k.packets hk 81 [] rfl badP (fun n _ => badP_fun n)) ?_
          simp
          refine hK2 _ (J_ret (hF _ _ ?_))
          simp [Tryz.f76, badC, e, f, show ¬ k.packets.length < 1 from by omega, show ¬ 32 < k.packets.length from by omega]
          try omega
        · simp [f]
          refine hK2 _ (J_ret (hF _ _ ?_))
          simp [Tryz.f76, badC, f]
  · simp [e]
    refine hK2 _ (J_ret (hF _ _ ?_))
    simp [Tryz.f76, badC, e]
end
section
structure CFit (c : Core) : Prop where
  nq : c.queues.length ≤ 2000000
  nb : c.binds.length ≤ 2000000
  ns : c.subs.length ≤ 2000000
  nk : c.kept.length ≤ 2000000
  nc : c.clients.length ≤ 2000000
  q : ∀ x ∈ c.queues, QFit x
  b : ∀ x ∈ c.binds, x.pattern.size ≤ 1100000
  k : ∀ x ∈ c.kept, MsgFit x
  c : ∀ x ∈ c.clients, x.packets.length ≤ 2000000 ∧ x.name.size ≤ 1099511627776
end
section
def coreHeadBad (c : Core) : Bool := decide (c.now < 0) || decide (1099511627776 < c.now) || decide (16 < c.queues.length) || decide (64 < c.binds.length) || decide (32 < c.subs.length) || decide (16 < c.kept.length) || decide (16 < c.clients.length)
def coreUnsorted (c : Core) : Bool := !rising byNameQ c.queues || !rising byBind c.binds || !rising bySub c.subs || !rising byTopic c.kept || !rising byNameC c.clients
def coreBad (c : Core) : Bool := c.queues.any badQ || c.binds.any (badB c.queues) || c.subs.any (badS c.queues) || c.kept.any badM || c.clients.any badC
def coreGood (c : Core) : Bool := !coreHeadBad c && !coreUnsorted c && !coreBad c
end
end Go.Proofs.YtpcpljfifipagaaGreatDoor
