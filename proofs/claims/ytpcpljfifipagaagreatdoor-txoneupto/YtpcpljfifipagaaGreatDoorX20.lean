/- A part of the proof: the engine that walks Go code, the walks of the broker, or their laws (Ti). -/
import Derived.Test.YtpcpljfifipagaaGreatDoorX19
import Derived.Test.YtpcpljfifipagaaGreatDoorX12
import Derived.Test.YtpcpljfifipagaaGreatDoorX14
set_option linter.unusedSimpArgs false
set_option linter.unusedVariables false
set_option maxHeartbeats 8000000
set_option maxRecDepth 20000
namespace Go.Proofs.YtpcpljfifipagaaGreatDoor
open Go.Eng Go.Tv
attribute [local simp] D_257 D_26 D_46 D_24 D_25 D_54 D_27 D_33 D_50 D_42 D_77 D_28 D_89 D_87 plainOp renSf renLf AV.ren AV.renL escF adoptF AS.esc AS.adopt AS.frz frzS frzL frzC AV.frz Heap.put
attribute [local simp ↓] evTsR
attribute [-simp] List.length_flatMap
def OwnRow (es : Nat) (H : Heap) (k m : Nat) (cells : List AV) (e : AE) (H' : Heap) : Prop := ∃ k', (k' = k ∨ H k' = none) ∧ e = .ret (.os (.h k') es 0 m) ∧ (∀ m, m ≠ k → m ≠ k' → H' m = H m) ∧ H' k' = some cells
theorem OwnRow.mk {es : Nat} {H : Heap} {k m : Nat} {cells : List AV} {H' : Heap} (k' : Nat) (h1 : k' = k ∨ H k' = none) (h2 : ∀ m, m ≠ k → m ≠ k' → H' m = H m) (h3 : H' k' = some cells) : OwnRow es H k m cells (.ret (.os (.h k') es 0 m)) H' := ⟨k', h1, rfl, h2, h3⟩
theorem killL_rep (k m : Nat) (z : List AV) (h : AV.killL k z = z) : AV.killL k (List.replicate m z).flatten = (List.replicate m z).flatten := by
  induction m with
  | zero => rfl
  | succ m ih => rw [List.replicate_succ, List.flatten_cons, killL_app, h, ih]
theorem len_rep (m : Nat) (z : List AV) (e : Nat) (h : z.length = e) : (List.replicate m z).flatten.length = m * e := by
  subst h
  induction m with
  | zero => simp
  | succ m ih => rw [List.replicate_succ, List.flatten_cons, List.length_append, ih, Nat.succ_mul]; omega
theorem noLL_take (n : Nat) {cs : List AV} (h : AV.noLL cs = true) : AV.noLL (cs.take n) = true := by
  rw [← List.take_append_drop n cs, noLL_app, Bool.and_eq_true] at h
  exact h.1
theorem noLL_drop (n : Nat) {cs : List AV} (h : AV.noLL cs = true) : AV.noLL (cs.drop n) = true := by
  rw [← List.take_append_drop n cs, noLL_app, Bool.and_eq_true] at h
  exact h.2
theorem grow_cells {A Y Z : List AV} {p b e : Nat} (hA : A.length = p + b) (hY : Y.length = e) (hZ : Z.length = e + b) :
    (((A.take p ++ Z).take p ++ (Y ++ (A.take p ++ Z).drop (p + e))).take (p + e)) ++ (A.drop p ++ ((A.take p ++ Z).take p ++ (Y ++ (A.take p ++ Z).drop (p + e))).drop (p + e + b)) = A.take p ++ (Y ++ A.drop p) := by
  have hp : (A.take p).length = p := by rw [List.length_take]; omega
  have h0 : (A.take p ++ Z).take p = A.take p := by rw [List.take_append_of_le_length (by omega), List.take_of_length_le (by omega)]
  have h1 : (A.take p ++ Z).drop (p + e) = Z.drop e := by rw [List.drop_append, hp, List.drop_eq_nil_of_le (by omega), List.nil_append]; congr 1; omega
  rw [h0, h1]
  have h2 : (A.take p ++ (Y ++ Z.drop e)).take (p + e) = A.take p ++ Y := by
    rw [← List.append_assoc, List.take_append_of_le_length (by rw [List.length_append]; omega), List.take_of_length_le (by rw [List.length_append]; omega)]
  have h3 : (A.take p ++ (Y ++ Z.drop e)).drop (p + e + b) = [] := List.drop_eq_nil_of_le (by simp only [List.length_append, List.length_drop]; omega)
  rw [h2, h3, List.append_nil, List.append_assoc]
theorem room_cells {A Y X : List AV} {p b e : Nat} (hA : A.length = p + b) (hY : Y.length = e) (hX : X.length = e) :
    ((((A ++ X).take (p + e) ++ (((A ++ X).drop p).take b ++ (A ++ X).drop (p + e + b))).take p) ++ (Y ++ ((A ++ X).take (p + e) ++ (((A ++ X).drop p).take b ++ (A ++ X).drop (p + e + b))).drop (p + e))) = A.take p ++ (Y ++ A.drop p) := by
  have h0 : (A ++ X).drop (p + e + b) = [] := List.drop_eq_nil_of_le (by rw [List.length_append]; omega)
  have h1 : ((A ++ X).drop p).take b = A.drop p := by
    rw [List.drop_append_of_le_length (by omega), List.take_append_of_le_length (by rw [List.length_drop]; omega), List.take_of_length_le (by rw [List.length_drop]; omega)]
  have h2 : ((A ++ X).take (p + e)).length = p + e ∨ ((A ++ X).take (p + e)).length = p + e := by left; rw [List.length_take, List.length_append]; omega
  have h2 : ((A ++ X).take (p + e)).length = p + e := h2.elim id id
  rw [h0, h1, List.append_nil, List.take_append_of_le_length (by omega), List.take_take, Nat.min_eq_left (by omega), List.take_append_of_le_length (by omega), List.drop_append, h2, Nat.sub_self, List.drop_zero, List.drop_eq_nil_of_le (by omega), List.nil_append]
def insAt {α : Type} (i : Nat) (y : α) (xs : List α) : List α := xs.take i ++ y :: xs.drop i
theorem ov_Itm {H : Heap} {k : Nat} {cs : List AV} (hH : H k = some cs) (y : Itm) (off m c : Nat) : PCalls Tryz.prog 267 [.sl 1 (Itm.enc y), .oc (.h k) 7 off m c] H fun r H' => r = .ret (.v (.bool false)) ∧ H' = H :=
  overlaps_of D_ok (es0 := 0) (tS := 41) (tR := 4) (e := 50) Tryz.func267 (by kernel_rfl) (by kernel_rfl) (by kernel_rfl) (by kernel_rfl) D_41 D_50 hH 1 (Itm.enc y) (by simp [Itm.enc, Itm.enc]) 7 off m c
theorem ins_Itm (xs : List Itm) (hx : xs.length ≤ 2000000) (i : Nat) (hi : i ≤ xs.length) (y : Itm) (H : Heap) (k : Nat) (hH : H k = some (xs.flatMap Itm.enc)) : PCalls Tryz.prog 236 [.os (.h k) 7 0 xs.length, aint i, .sl 1 (Itm.enc y)] H (OwnRow 7 H k (xs.length + 1) ((insAt i y xs).flatMap Itm.enc)) := by
  have hlen : (xs.flatMap Itm.enc).length = xs.length * 7 := flen_Itm xs
  have hylen : (Itm.enc y).length = 7 := len_Itm y
  have hynl : AV.noLL (Itm.enc y) = true := noLL_Itm y
  have hins : (insAt i y xs).flatMap Itm.enc = (xs.flatMap Itm.enc).take (i * 7) ++ (Itm.enc y ++ (xs.flatMap Itm.enc).drop (i * 7)) := by
    rw [insAt, List.flatMap_append, List.flatMap_cons, flat_take len_Itm, flat_drop len_Itm]
  refine PCalls.of_J' D_ok Tryz.func236 rfl (by decide) (le' rfl) fun E QF hF => ?_
  change J _ E 95 _ _ _
  refine J_seq' fun K1 hK1 => J0 ?_
  simp
  refine hK1 _ (J_seq' fun K2 hK2 => ?_)
  rcases Nat.lt_or_ge i xs.length with hlt | hge
  · refine J_reveal 0 (l := .h k) (es := 7) (n := xs.length) (by omega) (by simp) (cs := xs.flatMap Itm.enc) (by simpa using hH) fun cap hc1 hc2 hc3 => ?_
    simp only [maxLen] at hc3
    refine J0 ?_
    simp [hH]
    refine ⟨⟨by omega, by omega⟩, hK2 _ (J_seq' fun K3 hK3 => J0 ?_)⟩
    simp
    refine hK3 _ (J_seq' fun K4 hK4 => J_seq' fun K5 hK5 => J0 ?_)
    simp
    refine hK5 _ (J_cond rfl (fun hc => by simp at hc) fun _ => J_skip ?_)
    simp only [thenQ]
    refine hK4 _ (J_seq' fun K6 hK6 => J0 ?_)
    simp
    refine hK6 _ (J_seq' fun K7 hK7 => J_seq' fun K8 hK8 => J0 ?_)
    simp
    refine hK8 _ (J_cond rfl (fun hc => by simp at hc; omega) fun _ => J_skip ?_)
    simp only [thenQ]
    refine hK7 _ (J_seq' fun K9 hK9 => J_seq' fun K10 hK10 => J0 ?_)
    simp
    have hw1 : IntKind.i64.wrap ((xs.length : Int) + 1) = ((xs.length + 1 : Nat) : Int) := by rw [w64 (by omega) (by omega)]; omega
    have hw2 : IntKind.i64.wrap ((i : Int) + 1) = ((i + 1 : Nat) : Int) := by rw [w64 (by omega) (by omega)]; omega
    rw [hw1]
    refine hK10 _ (J_cond rfl (fun hc => ?_) fun hc => J_skip ?_)
    · simp at hc
      have hw3 : IntKind.i64.wrap (((xs.length + 1 : Nat) : Int) - (i : Int)) = ((xs.length + 1 - i : Nat) : Int) := by rw [w64 (by omega) (by omega)]; omega
      refine J_seq' fun K11 hK11 => J0 ?_
      simp [hH]
      rw [hw1, hw3]
      simp
      have hkz : AV.killL 40 (List.take (i * 7) (xs.flatMap Itm.enc) ++ (List.replicate (xs.length + 1 - i) ([AV.v (Value.int IntKind.i64 0), AV.v (Value.bool false), AV.v (Value.string { data := #[] }), AV.v (Value.string { data := #[] }), AV.sl0, AV.v (Value.bool false), AV.v (Value.int IntKind.i64 0)])).flatten) = List.take (i * 7) (xs.flatMap Itm.enc) ++ (List.replicate (xs.length + 1 - i) ([AV.v (Value.int IntKind.i64 0), AV.v (Value.bool false), AV.v (Value.string { data := #[] }), AV.v (Value.string { data := #[] }), AV.sl0, AV.v (Value.bool false), AV.v (Value.int IntKind.i64 0)])).flatten := by
        rw [killL_app, flat_take len_Itm, killf_Itm, killL_rep _ _ _ (by simp)]
      have hZ : ((List.replicate (xs.length + 1 - i) ([AV.v (Value.int IntKind.i64 0), AV.v (Value.bool false), AV.v (Value.string { data := #[] }), AV.v (Value.string { data := #[] }), AV.sl0, AV.v (Value.bool false), AV.v (Value.int IntKind.i64 0)])).flatten).length = (xs.length + 1 - i) * 7 := len_rep _ _ 7 rfl
      rw [hkz]
      generalize (List.replicate (xs.length + 1 - i) ([AV.v (Value.int IntKind.i64 0), AV.v (Value.bool false), AV.v (Value.string { data := #[] }), AV.v (Value.string { data := #[] }), AV.sl0, AV.v (Value.bool false), AV.v (Value.int IntKind.i64 0)])).flatten = Z at hZ
      refine ⟨by omega, by omega, by omega, by omega, by omega, by omega, hK11 _ ?_⟩
      have hl40 : (List.take (i * 7) (xs.flatMap Itm.enc) ++ Z).length = (xs.length + 1) * 7 := by rw [List.length_append, List.length_take, hlen, hZ]; omega
      have hgrow := grow_cells (A := xs.flatMap Itm.enc) (Y := Itm.enc y) (Z := Z) (p := i * 7) (b := (xs.length - i) * 7) (e := 7) (by rw [hlen]; omega) hylen (by rw [hZ]; omega)
      rw [← hins] at hgrow
      generalize hC0 : List.take (i * 7) (xs.flatMap Itm.enc) ++ Z = C0 at hl40 hgrow
      refine J_has (T := [(0, .oc (.h k) 7 0 xs.length cap), (1, aint i), (2, .sl 1 (Itm.enc y)), (7, aint 1), (9, .os (.l 40) 7 0 (xs.length + 1)), (6, .sl0)]) (L := [(40, C0)]) (H := H) ⟨by simp; omega, by simp [hC0], rfl⟩ ?_
      refine J_reveal 9 (l := .l 40) (es := 7) (n := xs.length + 1) (by omega) (by simp) (cs := C0) (by simp) fun cap2 he1 he2 he3 => ?_
      simp
      refine J_seq' fun K12 hK12 => J0 ?_
      simp [show i < cap2 from by omega, hylen, show min 1 (xs.length + 1 - i) = 1 from by omega, hl40, take_Itm]
      refine ⟨by omega, by omega, hK12 _ ?_⟩
      have hl41 : (C0.take (i * 7) ++ (Itm.enc y ++ C0.drop (i * 7 + 7))).length = (xs.length + 1) * 7 := by
        simp only [List.length_append, List.length_take, List.length_drop, hl40, hylen]; omega
      generalize hC1 : C0.take (i * 7) ++ (Itm.enc y ++ C0.drop (i * 7 + 7)) = C1 at hl41 hgrow
      refine J_has (T := [(0, .oc (.h k) 7 0 xs.length cap), (1, aint i), (2, .sl 1 (Itm.enc y)), (7, aint 1), (9, .oc (.l 40) 7 0 (xs.length + 1) cap2), (6, .sl0)]) (L := [(40, C1)]) (H := H) ⟨by simp, by simp [hC1], rfl⟩ ?_
      refine J_seq' fun K13 hK13 => D0 [0,1,2,3,4,5,6,7] [8] (fun _ => []) rfl (by decide) (by decide) ?_
      have hi1 : (i : Int) + 1 < (cap2 : Int) := by omega
      have hi2 : ((xs.length : Int) + 1 - ((i : Int) + 1)).toNat = xs.length - i := by omega
      simp [show i < cap from by omega, hi1, hi2, hH, hl41, hw2]
      repeat refine And.intro (by omega) ?_
      refine hK13 _ ?_
      refine J_has (T := [(9, .oc (.l 40) 7 0 (xs.length + 1) cap2), (6, .sl0)]) (L := [(40, (insAt i y xs).flatMap Itm.enc)]) (H := H) ⟨by simp, by
        show [(40, List.take ((i + 1) * 7) C1 ++ _)] = _
        rw [show (i + 1) * 7 = i * 7 + 7 from by omega, List.take_take, Nat.min_self, List.take_of_length_le (l := List.drop (i * 7) (xs.flatMap Itm.enc)) (by rw [List.length_drop, hlen]; omega), hgrow], rfl⟩ ?_
      refine J_seq' fun K14 hK14 => J0 ?_
      simp
      refine hK14 _ ?_
      refine J_forget 6 (l := .l 40) (es := 7) (off := 0) (n := xs.length + 1) (cap := cap2) (by simp) ?_
      simp
      refine J_escape 40 (by simp; rfl) (by simp) fun k' hk' => ?_
      simp
      refine J_ret (hF _ _ ?_)
      simp [Tryz.f236]
      exact .mk k' (.inr hk') (fun m h1 h2 => by simp [h2]) (by simp)
    · simp at hc
      simp only [thenQ]
      refine hK9 _ (J_extend 0 (l := .h k) (es := 7) (off := 0) (n := xs.length) (cap := cap) (by simp) (cs := xs.flatMap Itm.enc) (by simpa using hH) 7 (by rw [hlen]; omega) ?_)
      simp
      refine J_seq' fun K11 hK11 => J0 ?_
      simp
      rw [hw1]
      refine ⟨⟨by omega, by omega⟩, hK11 _ ?_⟩
      have hdead : ([AV.dead, AV.dead, AV.dead, AV.dead, AV.dead, AV.dead, AV.dead] : List AV).length = 7 := rfl
      have hdnl : AV.noLL ([AV.dead, AV.dead, AV.dead, AV.dead, AV.dead, AV.dead, AV.dead] : List AV) = true := by simp
      have hroom := room_cells (A := xs.flatMap Itm.enc) (Y := Itm.enc y) (X := [AV.dead, AV.dead, AV.dead, AV.dead, AV.dead, AV.dead, AV.dead]) (p := i * 7) (b := (xs.length - i) * 7) (e := 7) (by rw [hlen]; omega) hylen hdead
      rw [← hins] at hroom
      have hl0 : (xs.flatMap Itm.enc ++ [AV.dead, AV.dead, AV.dead, AV.dead, AV.dead, AV.dead, AV.dead]).length = (xs.length + 1) * 7 := by rw [List.length_append, hlen, hdead]; omega
      have hn0 : AV.noLL (xs.flatMap Itm.enc ++ [AV.dead, AV.dead, AV.dead, AV.dead, AV.dead, AV.dead, AV.dead]) = true := by rw [noLL_app, noLLf_Itm, hdnl]; rfl
      generalize hC0 : xs.flatMap Itm.enc ++ [AV.dead, AV.dead, AV.dead, AV.dead, AV.dead, AV.dead, AV.dead] = C0 at hroom hl0 hn0
      refine J_has (T := [(0, .oc (.h k) 7 0 (xs.length + 1) cap), (1, aint i), (2, .sl 1 (Itm.enc y)), (7, aint 1), (6, .sl0)]) (L := []) (H := fun m => if m = k then some C0 else H m) ⟨by simp, rfl, rfl⟩ ?_
      have hi1 : (i : Int) + 1 < (cap : Int) := by omega
      have hi2 : ((xs.length : Int) + 1 - ((i : Int) + 1)).toNat = xs.length - i := by omega
      refine J_seq' fun K12 hK12 => J_seq' fun K13 hK13 => J0 ?_
      simp [hw2, hi1, hi2]
      repeat refine And.intro (by omega) ?_
      refine (ov_Itm (H := fun m => if m = k then some C0 else H m) (k := k) (cs := C0) (by simp) y _ _ _).mono ?_
      rintro e H' ⟨rfl, rfl⟩
      simp
      refine hK13 _ (J_cond rfl (fun _ => ?_) fun hc => by simp at hc)
      refine J_seq' fun K14 hK14 => D0 [0,1,2,3,4,5,6,7] [8] (fun _ => []) rfl (by decide) (by decide) ?_
      simp [hw2, hi1, hi2, show i < cap from by omega, hl0]
      refine ⟨by omega, by omega, by omega, by omega, noLL_take _ (noLL_drop _ hn0), hK14 _ ?_⟩
      have hC1l : (C0.take (i * 7 + 7) ++ ((C0.drop (i * 7)).take ((xs.length - i) * 7) ++ C0.drop (i * 7 + 7 + (xs.length - i) * 7))).length = (xs.length + 1) * 7 := by
        simp only [List.length_append, List.length_take, List.length_drop, hl0]; omega
      generalize hC1 : C0.take (i * 7 + 7) ++ ((C0.drop (i * 7)).take ((xs.length - i) * 7) ++ C0.drop (i * 7 + 7 + (xs.length - i) * 7)) = C1 at hroom hC1l
      refine J_has (T := [(0, .oc (.h k) 7 0 (xs.length + 1) cap), (1, aint i), (2, .sl 1 (Itm.enc y)), (7, aint 1), (6, .sl0)]) (L := []) (H := fun m => if m = k then some C1 else H m) ⟨by simp, rfl, by
        funext m
        by_cases hm : m = k
        · subst hm
          show (if m = m then some _ else _) = (if m = m then some C1 else H m)
          rw [if_pos rfl, if_pos rfl, show min (xs.length + 1 - i) (xs.length - i) = xs.length - i from by omega, List.take_take, Nat.min_eq_left (by omega), show (i + 1) * 7 = i * 7 + 7 from by omega, hC1]
        · show (if m = k then some _ else _) = (if m = k then some C1 else H m)
          rw [if_neg hm, if_neg hm, if_neg hm]⟩ ?_
      refine J_seq' fun K15 hK15 => J0 ?_
      simp [show i < cap from by omega, show min 1 (xs.length + 1 - i) = 1 from by omega, hC1l, hylen, take_Itm, hynl]
      repeat refine And.intro (by omega) ?_
      refine hK15 _ ?_
      refine J_has (T := [(0, .oc (.h k) 7 0 (xs.length + 1) cap), (6, .sl0)]) (L := []) (H := fun m => if m = k then some ((insAt i y xs).flatMap Itm.enc) else H m) ⟨by simp, rfl, by
        funext m
        by_cases hm : m = k
        · subst hm
          show (if m = m then some _ else _) = (if m = m then some _ else H m)
          rw [if_pos rfl, if_pos rfl, hroom]
        · show (if m = k then some _ else _) = (if m = k then some _ else H m)
          rw [if_neg hm, if_neg hm, if_neg hm]⟩ ?_
      refine J_seq' fun K16 hK16 => J0 ?_
      simp
      refine hK16 _ ?_
      refine J_forget 6 (l := .h k) (es := 7) (off := 0) (n := xs.length + 1) (cap := cap) (by simp) ?_
      simp
      refine J_ret (hF _ _ ?_)
      simp [Tryz.f236]
      exact .mk k (.inl rfl) (fun m h1 h2 => by simp [h2]) (by simp)
  · have hie : i = xs.length := by omega
    subst hie
    rcases Nat.eq_zero_or_pos xs.length with h0 | h0
    · refine J_slice0 D_ok (x := 0) (y := 1) (p := 10) (q := 11) (d := 12) (t := 41) (l := .h k) (es := 7) rfl rfl rfl rfl rfl rfl rfl rfl rfl rfl D_41 D_50 (by decide) (by decide) (by decide) (by decide) (by decide) (by simp [h0]) (by simp [h0]) ?_
      refine hK2 _ (J_has (T := [(0, .os (.h k) 7 0 xs.length), (1, aint xs.length), (2, .sl 1 (Itm.enc y)), (6, .sl0)]) (L := []) (H := H) (by simp [h0]) ?_)
      refine J_seq' fun K3 hK3 => J0 ?_
      simp
      refine hK3 _ (J_seq' fun K4 hK4 => J_seq' fun K5 hK5 => J0 ?_)
      simp
      refine hK5 _ (J_cond rfl (fun hc => by simp at hc) fun _ => J_skip ?_)
      simp only [thenQ]
      refine hK4 _ (J_seq' fun K6 hK6 => J0 ?_)
      simp
      refine hK6 _ (J_seq' fun K7 hK7 => J_seq' fun K8 hK8 => J0 ?_)
      simp
      refine hK8 _ (J_cond rfl (fun _ => ?_) fun hc => by simp at hc)
      refine J_seq' fun K9 hK9 => J0 ?_
      simp [hH, hylen, hynl]
      have fin : (insAt xs.length y xs).flatMap Itm.enc = xs.flatMap Itm.enc ++ Itm.enc y := by
        rw [hins, List.take_of_length_le (by rw [hlen]; exact Nat.le_refl _), List.drop_eq_nil_of_le (by rw [hlen]; exact Nat.le_refl _), List.append_nil]
      refine ⟨by omega, by omega, hK9 _ (J_ret (hF _ _ ?_)), fun k' hk' => hK9 _ (J_ret (hF _ _ ?_))⟩
      · simp [Tryz.f236]
        exact .mk k (.inl rfl) (fun m h1 h2 => by simp [h1]) (by simp [fin])
      · simp [Tryz.f236]
        exact .mk k' (.inr hk') (fun m h1 h2 => by simp [h1, h2]) (by simp [fin])
    · refine J_reveal 0 (l := .h k) (es := 7) (n := xs.length) (by omega) (by simp) (cs := xs.flatMap Itm.enc) (by simpa using hH) fun cap hc1 hc2 hc3 => ?_
      simp only [maxLen] at hc3
      refine J0 ?_
      simp [hH]
      refine ⟨by omega, hK2 _ (J_forget 0 (l := .h k) (es := 7) (off := 0) (n := xs.length) (cap := cap) (by simp) ?_)⟩
      simp
      refine J_seq' fun K3 hK3 => J0 ?_
      simp
      refine hK3 _ (J_seq' fun K4 hK4 => J_seq' fun K5 hK5 => J0 ?_)
      simp
      refine hK5 _ (J_cond rfl (fun hc => by simp at hc) fun _ => J_skip ?_)
      simp only [thenQ]
      refine hK4 _ (J_seq' fun K6 hK6 => J0 ?_)
      simp
      refine hK6 _ (J_seq' fun K7 hK7 => J_seq' fun K8 hK8 => J0 ?_)
      simp
      refine hK8 _ (J_cond rfl (fun _ => ?_) fun hc => by simp at hc)
      refine J_seq' fun K9 hK9 => J0 ?_
      simp [hH, hylen, hynl]
      have fin : (insAt xs.length y xs).flatMap Itm.enc = xs.flatMap Itm.enc ++ Itm.enc y := by
        rw [hins, List.take_of_length_le (by rw [hlen]; exact Nat.le_refl _), List.drop_eq_nil_of_le (by rw [hlen]; exact Nat.le_refl _), List.append_nil]
      refine ⟨by omega, by omega, hK9 _ (J_ret (hF _ _ ?_)), fun k' hk' => hK9 _ (J_ret (hF _ _ ?_))⟩
      · simp [Tryz.f236]
        exact .mk k (.inl rfl) (fun m h1 h2 => by simp [h1]) (by simp [fin])
      · simp [Tryz.f236]
        exact .mk k' (.inr hk') (fun m h1 h2 => by simp [h1, h2]) (by simp [fin])
theorem ov_Queue {H : Heap} {k : Nat} {cs : List AV} (hH : H k = some cs) (y : Queue) (off m c : Nat) : PCalls Tryz.prog 271 [.sl 1 (Queue.enc y), .oc (.h k) 7 off m c] H fun r H' => r = .ret (.v (.bool false)) ∧ H' = H :=
  overlaps_of D_ok (es0 := 0) (tS := 24) (tR := 4) (e := 44) Tryz.func271 (by kernel_rfl) (by kernel_rfl) (by kernel_rfl) (by kernel_rfl) D_24 D_44 hH 1 (Queue.enc y) (by simp [Queue.enc, Itm.enc]) 7 off m c
theorem ins_Queue (xs : List Queue) (hx : xs.length ≤ 2000000) (i : Nat) (hi : i ≤ xs.length) (y : Queue) (H : Heap) (k : Nat) (hH : H k = some (xs.flatMap Queue.enc)) : PCalls Tryz.prog 239 [.os (.h k) 7 0 xs.length, aint i, .sl 1 (Queue.enc y)] H (OwnRow 7 H k (xs.length + 1) ((insAt i y xs).flatMap Queue.enc)) := by
  have hlen : (xs.flatMap Queue.enc).length = xs.length * 7 := flen_Queue xs
  have hylen : (Queue.enc y).length = 7 := len_Queue y
  have hynl : AV.noLL (Queue.enc y) = true := noLL_Queue y
  have hins : (insAt i y xs).flatMap Queue.enc = (xs.flatMap Queue.enc).take (i * 7) ++ (Queue.enc y ++ (xs.flatMap Queue.enc).drop (i * 7)) := by
    rw [insAt, List.flatMap_append, List.flatMap_cons, flat_take len_Queue, flat_drop len_Queue]
  refine PCalls.of_J' D_ok Tryz.func239 rfl (by decide) (le' rfl) fun E QF hF => ?_
  change J _ E 95 _ _ _
  refine J_seq' fun K1 hK1 => J0 ?_
  simp
  refine hK1 _ (J_seq' fun K2 hK2 => ?_)
  rcases Nat.lt_or_ge i xs.length with hlt | hge
  · refine J_reveal 0 (l := .h k) (es := 7) (n := xs.length) (by omega) (by simp) (cs := xs.flatMap Queue.enc) (by simpa using hH) fun cap hc1 hc2 hc3 => ?_
    simp only [maxLen] at hc3
    refine J0 ?_
    simp [hH]
    refine ⟨⟨by omega, by omega⟩, hK2 _ (J_seq' fun K3 hK3 => J0 ?_)⟩
    simp
    refine hK3 _ (J_seq' fun K4 hK4 => J_seq' fun K5 hK5 => J0 ?_)
    simp
    refine hK5 _ (J_cond rfl (fun hc => by simp at hc) fun _ => J_skip ?_)
    simp only [thenQ]
    refine hK4 _ (J_seq' fun K6 hK6 => J0 ?_)
    simp
    refine hK6 _ (J_seq' fun K7 hK7 => J_seq' fun K8 hK8 => J0 ?_)
    simp
    refine hK8 _ (J_cond rfl (fun hc => by simp at hc; omega) fun _ => J_skip ?_)
    simp only [thenQ]
    refine hK7 _ (J_seq' fun K9 hK9 => J_seq' fun K10 hK10 => J0 ?_)
    simp
    have hw1 : IntKind.i64.wrap ((xs.length : Int) + 1) = ((xs.length + 1 : Nat) : Int) := by rw [w64 (by omega) (by omega)]; omega
    have hw2 : IntKind.i64.wrap ((i : Int) + 1) = ((i + 1 : Nat) : Int) := by rw [w64 (by omega) (by omega)]; omega
    rw [hw1]
    refine hK10 _ (J_cond rfl (fun hc => ?_) fun hc => J_skip ?_)
    · simp at hc
      have hw3 : IntKind.i64.wrap (((xs.length + 1 : Nat) : Int) - (i : Int)) = ((xs.length + 1 - i : Nat) : Int) := by rw [w64 (by omega) (by omega)]; omega
      refine J_seq' fun K11 hK11 => J0 ?_
      simp [hH]
      rw [hw1, hw3]
      simp
      have hkz : AV.killL 40 (List.take (i * 7) (xs.flatMap Queue.enc) ++ (List.replicate (xs.length + 1 - i) ([AV.v (Value.string { data := #[] }), AV.v (Value.bool false), AV.v (Value.int IntKind.i64 0), AV.v (Value.int IntKind.i64 0), AV.v (Value.int IntKind.i64 0), AV.sl0, AV.sl0])).flatten) = List.take (i * 7) (xs.flatMap Queue.enc) ++ (List.replicate (xs.length + 1 - i) ([AV.v (Value.string { data := #[] }), AV.v (Value.bool false), AV.v (Value.int IntKind.i64 0), AV.v (Value.int IntKind.i64 0), AV.v (Value.int IntKind.i64 0), AV.sl0, AV.sl0])).flatten := by
        rw [killL_app, flat_take len_Queue, killf_Queue, killL_rep _ _ _ (by simp)]
      have hZ : ((List.replicate (xs.length + 1 - i) ([AV.v (Value.string { data := #[] }), AV.v (Value.bool false), AV.v (Value.int IntKind.i64 0), AV.v (Value.int IntKind.i64 0), AV.v (Value.int IntKind.i64 0), AV.sl0, AV.sl0])).flatten).length = (xs.length + 1 - i) * 7 := len_rep _ _ 7 rfl
      rw [hkz]
      generalize (List.replicate (xs.length + 1 - i) ([AV.v (Value.string { data := #[] }), AV.v (Value.bool false), AV.v (Value.int IntKind.i64 0), AV.v (Value.int IntKind.i64 0), AV.v (Value.int IntKind.i64 0), AV.sl0, AV.sl0])).flatten = Z at hZ
      refine ⟨by omega, by omega, by omega, by omega, by omega, by omega, hK11 _ ?_⟩
      have hl40 : (List.take (i * 7) (xs.flatMap Queue.enc) ++ Z).length = (xs.length + 1) * 7 := by rw [List.length_append, List.length_take, hlen, hZ]; omega
      have hgrow := grow_cells (A := xs.flatMap Queue.enc) (Y := Queue.enc y) (Z := Z) (p := i * 7) (b := (xs.length - i) * 7) (e := 7) (by rw [hlen]; omega) hylen (by rw [hZ]; omega)
      rw [← hins] at hgrow
      generalize hC0 : List.take (i * 7) (xs.flatMap Queue.enc) ++ Z = C0 at hl40 hgrow
      refine J_has (T := [(0, .oc (.h k) 7 0 xs.length cap), (1, aint i), (2, .sl 1 (Queue.enc y)), (7, aint 1), (9, .os (.l 40) 7 0 (xs.length + 1)), (6, .sl0)]) (L := [(40, C0)]) (H := H) ⟨by simp; omega, by simp [hC0], rfl⟩ ?_
      refine J_reveal 9 (l := .l 40) (es := 7) (n := xs.length + 1) (by omega) (by simp) (cs := C0) (by simp) fun cap2 he1 he2 he3 => ?_
      simp
      refine J_seq' fun K12 hK12 => J0 ?_
      simp [show i < cap2 from by omega, hylen, show min 1 (xs.length + 1 - i) = 1 from by omega, hl40, take_Queue]
      refine ⟨by omega, by omega, hK12 _ ?_⟩
      have hl41 : (C0.take (i * 7) ++ (Queue.enc y ++ C0.drop (i * 7 + 7))).length = (xs.length + 1) * 7 := by
        simp only [List.length_append, List.length_take, List.length_drop, hl40, hylen]; omega
      generalize hC1 : C0.take (i * 7) ++ (Queue.enc y ++ C0.drop (i * 7 + 7)) = C1 at hl41 hgrow
      refine J_has (T := [(0, .oc (.h k) 7 0 xs.length cap), (1, aint i), (2, .sl 1 (Queue.enc y)), (7, aint 1), (9, .oc (.l 40) 7 0 (xs.length + 1) cap2), (6, .sl0)]) (L := [(40, C1)]) (H := H) ⟨by simp, by simp [hC1], rfl⟩ ?_
      refine J_seq' fun K13 hK13 => D0 [0,1,2,3,4,5,6,7] [8] (fun _ => []) rfl (by decide) (by decide) ?_
      have hi1 : (i : Int) + 1 < (cap2 : Int) := by omega
      have hi2 : ((xs.length : Int) + 1 - ((i : Int) + 1)).toNat = xs.length - i := by omega
      simp [show i < cap from by omega, hi1, hi2, hH, hl41, hw2]
      repeat refine And.intro (by omega) ?_
      refine hK13 _ ?_
      refine J_has (T := [(9, .oc (.l 40) 7 0 (xs.length + 1) cap2), (6, .sl0)]) (L := [(40, (insAt i y xs).flatMap Queue.enc)]) (H := H) ⟨by simp, by
        show [(40, List.take ((i + 1) * 7) C1 ++ _)] = _
        rw [show (i + 1) * 7 = i * 7 + 7 from by omega, List.take_take, Nat.min_self, List.take_of_length_le (l := List.drop (i * 7) (xs.flatMap Queue.enc)) (by rw [List.length_drop, hlen]; omega), hgrow], rfl⟩ ?_
      refine J_seq' fun K14 hK14 => J0 ?_
      simp
      refine hK14 _ ?_
      refine J_forget 6 (l := .l 40) (es := 7) (off := 0) (n := xs.length + 1) (cap := cap2) (by simp) ?_
      simp
      refine J_escape 40 (by simp; rfl) (by simp) fun k' hk' => ?_
      simp
      refine J_ret (hF _ _ ?_)
      simp [Tryz.f239]
      exact .mk k' (.inr hk') (fun m h1 h2 => by simp [h2]) (by simp)
    · simp at hc
      simp only [thenQ]
      refine hK9 _ (J_extend 0 (l := .h k) (es := 7) (off := 0) (n := xs.length) (cap := cap) (by simp) (cs := xs.flatMap Queue.enc) (by simpa using hH) 7 (by rw [hlen]; omega) ?_)
      simp
      refine J_seq' fun K11 hK11 => J0 ?_
      simp
      rw [hw1]
      refine ⟨⟨by omega, by omega⟩, hK11 _ ?_⟩
      have hdead : ([AV.dead, AV.dead, AV.dead, AV.dead, AV.dead, AV.dead, AV.dead] : List AV).length = 7 := rfl
      have hdnl : AV.noLL ([AV.dead, AV.dead, AV.dead, AV.dead, AV.dead, AV.dead, AV.dead] : List AV) = true := by simp
      have hroom := room_cells (A := xs.flatMap Queue.enc) (Y := Queue.enc y) (X := [AV.dead, AV.dead, AV.dead, AV.dead, AV.dead, AV.dead, AV.dead]) (p := i * 7) (b := (xs.length - i) * 7) (e := 7) (by rw [hlen]; omega) hylen hdead
      rw [← hins] at hroom
      have hl0 : (xs.flatMap Queue.enc ++ [AV.dead, AV.dead, AV.dead, AV.dead, AV.dead, AV.dead, AV.dead]).length = (xs.length + 1) * 7 := by rw [List.length_append, hlen, hdead]; omega
      have hn0 : AV.noLL (xs.flatMap Queue.enc ++ [AV.dead, AV.dead, AV.dead, AV.dead, AV.dead, AV.dead, AV.dead]) = true := by rw [noLL_app, noLLf_Queue, hdnl]; rfl
      generalize hC0 : xs.flatMap Queue.enc ++ [AV.dead, AV.dead, AV.dead, AV.dead, AV.dead, AV.dead, AV.dead] = C0 at hroom hl0 hn0
      refine J_has (T := [(0, .oc (.h k) 7 0 (xs.length + 1) cap), (1, aint i), (2, .sl 1 (Queue.enc y)), (7, aint 1), (6, .sl0)]) (L := []) (H := fun m => if m = k then some C0 else H m) ⟨by simp, rfl, rfl⟩ ?_
      have hi1 : (i : Int) + 1 < (cap : Int) := by omega
      have hi2 : ((xs.length : Int) + 1 - ((i : Int) + 1)).toNat = xs.length - i := by omega
      refine J_seq' fun K12 hK12 => J_seq' fun K13 hK13 => J0 ?_
      simp [hw2, hi1, hi2]
      repeat refine And.intro (by omega) ?_
      refine (ov_Queue (H := fun m => if m = k then some C0 else H m) (k := k) (cs := C0) (by simp) y _ _ _).mono ?_
      rintro e H' ⟨rfl, rfl⟩
      simp
      refine hK13 _ (J_cond rfl (fun _ => ?_) fun hc => by simp at hc)
      refine J_seq' fun K14 hK14 => D0 [0,1,2,3,4,5,6,7] [8] (fun _ => []) rfl (by decide) (by decide) ?_
      simp [hw2, hi1, hi2, show i < cap from by omega, hl0]
      refine ⟨by omega, by omega, by omega, by omega, noLL_take _ (noLL_drop _ hn0), hK14 _ ?_⟩
      have hC1l : (C0.take (i * 7 + 7) ++ ((C0.drop (i * 7)).take ((xs.length - i) * 7) ++ C0.drop (i * 7 + 7 + (xs.length - i) * 7))).length = (xs.length + 1) * 7 := by
        simp only [List.length_append, List.length_take, List.length_drop, hl0]; omega
      generalize hC1 : C0.take (i * 7 + 7) ++ ((C0.drop (i * 7)).take ((xs.length - i) * 7) ++ C0.drop (i * 7 + 7 + (xs.length - i) * 7)) = C1 at hroom hC1l
      refine J_has (T := [(0, .oc (.h k) 7 0 (xs.length + 1) cap), (1, aint i), (2, .sl 1 (Queue.enc y)), (7, aint 1), (6, .sl0)]) (L := []) (H := fun m => if m = k then some C1 else H m) ⟨by simp, rfl, by
        funext m
        by_cases hm : m = k
        · subst hm
          show (if m = m then some _ else _) = (if m = m then some C1 else H m)
          rw [if_pos rfl, if_pos rfl, show min (xs.length + 1 - i) (xs.length - i) = xs.length - i from by omega, List.take_take, Nat.min_eq_left (by omega), show (i + 1) * 7 = i * 7 + 7 from by omega, hC1]
        · show (if m = k then some _ else _) = (if m = k then some C1 else H m)
          rw [if_neg hm, if_neg hm, if_neg hm]⟩ ?_
      refine J_seq' fun K15 hK15 => J0 ?_
      simp [show i < cap from by omega, show min 1 (xs.length + 1 - i) = 1 from by omega, hC1l, hylen, take_Queue, hynl]
      repeat refine And.intro (by omega) ?_
      refine hK15 _ ?_
      refine J_has (T := [(0, .oc (.h k) 7 0 (xs.length + 1) cap), (6, .sl0)]) (L := []) (H := fun m => if m = k then some ((insAt i y xs).flatMap Queue.enc) else H m) ⟨by simp, rfl, by
        funext m
        by_cases hm : m = k
        · subst hm
          show (if m = m then some _ else _) = (if m = m then some _ else H m)
          rw [if_pos rfl, if_pos rfl, hroom]
        · show (if m = k then some _ else _) = (if m = k then some _ else H m)
          rw [if_neg hm, if_neg hm, if_neg hm]⟩ ?_
      refine J_seq' fun K16 hK16 => J0 ?_
      simp
      refine hK16 _ ?_
      refine J_forget 6 (l := .h k) (es := 7) (off := 0) (n := xs.length + 1) (cap := cap) (by simp) ?_
      simp
      refine J_ret (hF _ _ ?_)
      simp [Tryz.f239]
      exact .mk k (.inl rfl) (fun m h1 h2 => by simp [h2]) (by simp)
  · have hie : i = xs.length := by omega
    subst hie
    rcases Nat.eq_zero_or_pos xs.length with h0 | h0
    · refine J_slice0 D_ok (x := 0) (y := 1) (p := 10) (q := 11) (d := 12) (t := 24) (l := .h k) (es := 7) rfl rfl rfl rfl rfl rfl rfl rfl rfl rfl D_24 D_44 (by decide) (by decide) (by decide) (by decide) (by decide) (by simp [h0]) (by simp [h0]) ?_
      refine hK2 _ (J_has (T := [(0, .os (.h k) 7 0 xs.length), (1, aint xs.length), (2, .sl 1 (Queue.enc y)), (6, .sl0)]) (L := []) (H := H) (by simp [h0]) ?_)
      refine J_seq' fun K3 hK3 => J0 ?_
      simp
      refine hK3 _ (J_seq' fun K4 hK4 => J_seq' fun K5 hK5 => J0 ?_)
      simp
      refine hK5 _ (J_cond rfl (fun hc => by simp at hc) fun _ => J_skip ?_)
      simp only [thenQ]
      refine hK4 _ (J_seq' fun K6 hK6 => J0 ?_)
      simp
      refine hK6 _ (J_seq' fun K7 hK7 => J_seq' fun K8 hK8 => J0 ?_)
      simp
      refine hK8 _ (J_cond rfl (fun _ => ?_) fun hc => by simp at hc)
      refine J_seq' fun K9 hK9 => J0 ?_
      simp [hH, hylen, hynl]
      have fin : (insAt xs.length y xs).flatMap Queue.enc = xs.flatMap Queue.enc ++ Queue.enc y := by
        rw [hins, List.take_of_length_le (by rw [hlen]; exact Nat.le_refl _), List.drop_eq_nil_of_le (by rw [hlen]; exact Nat.le_refl _), List.append_nil]
      refine ⟨by omega, by omega, hK9 _ (J_ret (hF _ _ ?_)), fun k' hk' => hK9 _ (J_ret (hF _ _ ?_))⟩
      · simp [Tryz.f239]
        exact .mk k (.inl rfl) (fun m h1 h2 => by simp [h1]) (by simp [fin])
      · simp [Tryz.f239]
        exact .mk k' (.inr hk') (fun m h1 h2 => by simp [h1, h2]) (by simp [fin])
    · refine J_reveal 0 (l := .h k) (es := 7) (n := xs.length) (by omega) (by simp) (cs := xs.flatMap Queue.enc) (by simpa using hH) fun cap hc1 hc2 hc3 => ?_
      simp only [maxLen] at hc3
      refine J0 ?_
      simp [hH]
      refine ⟨by omega, hK2 _ (J_forget 0 (l := .h k) (es := 7) (off := 0) (n := xs.length) (cap := cap) (by simp) ?_)⟩
      simp
      refine J_seq' fun K3 hK3 => J0 ?_
      simp
      refine hK3 _ (J_seq' fun K4 hK4 => J_seq' fun K5 hK5 => J0 ?_)
      simp
      refine hK5 _ (J_cond rfl (fun hc => by simp at hc) fun _ => J_skip ?_)
      simp only [thenQ]
      refine hK4 _ (J_seq' fun K6 hK6 => J0 ?_)
      simp
      refine hK6 _ (J_seq' fun K7 hK7 => J_seq' fun K8 hK8 => J0 ?_)
      simp
      refine hK8 _ (J_cond rfl (fun _ => ?_) fun hc => by simp at hc)
      refine J_seq' fun K9 hK9 => J0 ?_
      simp [hH, hylen, hynl]
      have fin : (insAt xs.length y xs).flatMap Queue.enc = xs.flatMap Queue.enc ++ Queue.enc y := by
        rw [hins, List.take_of_length_le (by rw [hlen]; exact Nat.le_refl _), List.drop_eq_nil_of_le (by rw [hlen]; exact Nat.le_refl _), List.append_nil]
      refine ⟨by omega, by omega, hK9 _ (J_ret (hF _ _ ?_)), fun k' hk' => hK9 _ (J_ret (hF _ _ ?_))⟩
      · simp [Tryz.f239]
        exact .mk k (.inl rfl) (fun m h1 h2 => by simp [h1]) (by simp [fin])
      · simp [Tryz.f239]
        exact .mk k' (.inr hk') (fun m h1 h2 => by simp [h1, h2]) (by simp [fin])
theorem ov_Bind {H : Heap} {k : Nat} {cs : List AV} (hH : H k = some cs) (y : Tv.Bind) (off m c : Nat) : PCalls Tryz.prog 273 [.sl 1 (Bind.enc y), .oc (.h k) 2 off m c] H fun r H' => r = .ret (.v (.bool false)) ∧ H' = H :=
  overlaps_of D_ok (es0 := 0) (tS := 25) (tR := 4) (e := 54) Tryz.func273 (by kernel_rfl) (by kernel_rfl) (by kernel_rfl) (by kernel_rfl) D_25 D_54 hH 1 (Bind.enc y) (by simp [Bind.enc, Itm.enc]) 2 off m c
theorem ins_Bind (xs : List Tv.Bind) (hx : xs.length ≤ 2000000) (i : Nat) (hi : i ≤ xs.length) (y : Tv.Bind) (H : Heap) (k : Nat) (hH : H k = some (xs.flatMap Bind.enc)) : PCalls Tryz.prog 241 [.os (.h k) 2 0 xs.length, aint i, .sl 1 (Bind.enc y)] H (OwnRow 2 H k (xs.length + 1) ((insAt i y xs).flatMap Bind.enc)) := by
  have hlen : (xs.flatMap Bind.enc).length = xs.length * 2 := flen_Bind xs
  have hylen : (Bind.enc y).length = 2 := len_Bind y
  have hynl : AV.noLL (Bind.enc y) = true := noLL_Bind y
  have hins : (insAt i y xs).flatMap Bind.enc = (xs.flatMap Bind.enc).take (i * 2) ++ (Bind.enc y ++ (xs.flatMap Bind.enc).drop (i * 2)) := by
    rw [insAt, List.flatMap_append, List.flatMap_cons, flat_take len_Bind, flat_drop len_Bind]
  refine PCalls.of_J' D_ok Tryz.func241 rfl (by decide) (le' rfl) fun E QF hF => ?_
  change J _ E 95 _ _ _
  refine J_seq' fun K1 hK1 => J0 ?_
  simp
  refine hK1 _ (J_seq' fun K2 hK2 => ?_)
  rcases Nat.lt_or_ge i xs.length with hlt | hge
  · refine J_reveal 0 (l := .h k) (es := 2) (n := xs.length) (by omega) (by simp) (cs := xs.flatMap Bind.enc) (by simpa using hH) fun cap hc1 hc2 hc3 => ?_
    simp only [maxLen] at hc3
    refine J0 ?_
    simp [hH]
    refine ⟨⟨by omega, by omega⟩, hK2 _ (J_seq' fun K3 hK3 => J0 ?_)⟩
    simp
    refine hK3 _ (J_seq' fun K4 hK4 => J_seq' fun K5 hK5 => J0 ?_)
    simp
    refine hK5 _ (J_cond rfl (fun hc => by simp at hc) fun _ => J_skip ?_)
    simp only [thenQ]
    refine hK4 _ (J_seq' fun K6 hK6 => J0 ?_)
    simp
    refine hK6 _ (J_seq' fun K7 hK7 => J_seq' fun K8 hK8 => J0 ?_)
    simp
    refine hK8 _ (J_cond rfl (fun hc => by simp at hc; omega) fun _ => J_skip ?_)
    simp only [thenQ]
    refine hK7 _ (J_seq' fun K9 hK9 => J_seq' fun K10 hK10 => J0 ?_)
    simp
    have hw1 : IntKind.i64.wrap ((xs.length : Int) + 1) = ((xs.length + 1 : Nat) : Int) := by rw [w64 (by omega) (by omega)]; omega
    have hw2 : IntKind.i64.wrap ((i : Int) + 1) = ((i + 1 : Nat) : Int) := by rw [w64 (by omega) (by omega)]; omega
    rw [hw1]
    refine hK10 _ (J_cond rfl (fun hc => ?_) fun hc => J_skip ?_)
    · simp at hc
      have hw3 : IntKind.i64.wrap (((xs.length + 1 : Nat) : Int) - (i : Int)) = ((xs.length + 1 - i : Nat) : Int) := by rw [w64 (by omega) (by omega)]; omega
      refine J_seq' fun K11 hK11 => J0 ?_
      simp [hH]
      rw [hw1, hw3]
      simp
      have hkz : AV.killL 40 (List.take (i * 2) (xs.flatMap Bind.enc) ++ (List.replicate (xs.length + 1 - i) ([AV.v (Value.string { data := #[] }), AV.v (Value.string { data := #[] })])).flatten) = List.take (i * 2) (xs.flatMap Bind.enc) ++ (List.replicate (xs.length + 1 - i) ([AV.v (Value.string { data := #[] }), AV.v (Value.string { data := #[] })])).flatten := by
        rw [killL_app, flat_take len_Bind, killf_Bind, killL_rep _ _ _ (by simp)]
      have hZ : ((List.replicate (xs.length + 1 - i) ([AV.v (Value.string { data := #[] }), AV.v (Value.string { data := #[] })])).flatten).length = (xs.length + 1 - i) * 2 := len_rep _ _ 2 rfl
      rw [hkz]
      generalize (List.replicate (xs.length + 1 - i) ([AV.v (Value.string { data := #[] }), AV.v (Value.string { data := #[] })])).flatten = Z at hZ
      refine ⟨by omega, by omega, by omega, by omega, by omega, by omega, hK11 _ ?_⟩
      have hl40 : (List.take (i * 2) (xs.flatMap Bind.enc) ++ Z).length = (xs.length + 1) * 2 := by rw [List.length_append, List.length_take, hlen, hZ]; omega
      have hgrow := grow_cells (A := xs.flatMap Bind.enc) (Y := Bind.enc y) (Z := Z) (p := i * 2) (b := (xs.length - i) * 2) (e := 2) (by rw [hlen]; omega) hylen (by rw [hZ]; omega)
      rw [← hins] at hgrow
      generalize hC0 : List.take (i * 2) (xs.flatMap Bind.enc) ++ Z = C0 at hl40 hgrow
      refine J_has (T := [(0, .oc (.h k) 2 0 xs.length cap), (1, aint i), (2, .sl 1 (Bind.enc y)), (7, aint 1), (9, .os (.l 40) 2 0 (xs.length + 1)), (6, .sl0)]) (L := [(40, C0)]) (H := H) ⟨by simp; omega, by simp [hC0], rfl⟩ ?_
      refine J_reveal 9 (l := .l 40) (es := 2) (n := xs.length + 1) (by omega) (by simp) (cs := C0) (by simp) fun cap2 he1 he2 he3 => ?_
      simp
      refine J_seq' fun K12 hK12 => J0 ?_
      simp [show i < cap2 from by omega, hylen, show min 1 (xs.length + 1 - i) = 1 from by omega, hl40, take_Bind]
      refine ⟨by omega, by omega, hK12 _ ?_⟩
      have hl41 : (C0.take (i * 2) ++ (Bind.enc y ++ C0.drop (i * 2 + 2))).length = (xs.length + 1) * 2 := by
        simp only [List.length_append, List.length_take, List.length_drop, hl40, hylen]; omega
      generalize hC1 : C0.take (i * 2) ++ (Bind.enc y ++ C0.drop (i * 2 + 2)) = C1 at hl41 hgrow
      refine J_has (T := [(0, .oc (.h k) 2 0 xs.length cap), (1, aint i), (2, .sl 1 (Bind.enc y)), (7, aint 1), (9, .oc (.l 40) 2 0 (xs.length + 1) cap2), (6, .sl0)]) (L := [(40, C1)]) (H := H) ⟨by simp, by simp [hC1], rfl⟩ ?_
      refine J_seq' fun K13 hK13 => D0 [0,1,2,3,4,5,6,7] [8] (fun _ => []) rfl (by decide) (by decide) ?_
      have hi1 : (i : Int) + 1 < (cap2 : Int) := by omega
      have hi2 : ((xs.length : Int) + 1 - ((i : Int) + 1)).toNat = xs.length - i := by omega
      simp [show i < cap from by omega, hi1, hi2, hH, hl41, hw2]
      repeat refine And.intro (by omega) ?_
      refine hK13 _ ?_
      refine J_has (T := [(9, .oc (.l 40) 2 0 (xs.length + 1) cap2), (6, .sl0)]) (L := [(40, (insAt i y xs).flatMap Bind.enc)]) (H := H) ⟨by simp, by
        show [(40, List.take ((i + 1) * 2) C1 ++ _)] = _
        rw [show (i + 1) * 2 = i * 2 + 2 from by omega, List.take_take, Nat.min_self, List.take_of_length_le (l := List.drop (i * 2) (xs.flatMap Bind.enc)) (by rw [List.length_drop, hlen]; omega), hgrow], rfl⟩ ?_
      refine J_seq' fun K14 hK14 => J0 ?_
      simp
      refine hK14 _ ?_
      refine J_forget 6 (l := .l 40) (es := 2) (off := 0) (n := xs.length + 1) (cap := cap2) (by simp) ?_
      simp
      refine J_escape 40 (by simp; rfl) (by simp) fun k' hk' => ?_
      simp
      refine J_ret (hF _ _ ?_)
      simp [Tryz.f241]
      exact .mk k' (.inr hk') (fun m h1 h2 => by simp [h2]) (by simp)
    · simp at hc
      simp only [thenQ]
      refine hK9 _ (J_extend 0 (l := .h k) (es := 2) (off := 0) (n := xs.length) (cap := cap) (by simp) (cs := xs.flatMap Bind.enc) (by simpa using hH) 2 (by rw [hlen]; omega) ?_)
      simp
      refine J_seq' fun K11 hK11 => J0 ?_
      simp
      rw [hw1]
      refine ⟨⟨by omega, by omega⟩, hK11 _ ?_⟩
      have hdead : ([AV.dead, AV.dead] : List AV).length = 2 := rfl
      have hdnl : AV.noLL ([AV.dead, AV.dead] : List AV) = true := by simp
      have hroom := room_cells (A := xs.flatMap Bind.enc) (Y := Bind.enc y) (X := [AV.dead, AV.dead]) (p := i * 2) (b := (xs.length - i) * 2) (e := 2) (by rw [hlen]; omega) hylen hdead
      rw [← hins] at hroom
      have hl0 : (xs.flatMap Bind.enc ++ [AV.dead, AV.dead]).length = (xs.length + 1) * 2 := by rw [List.length_append, hlen, hdead]; omega
      have hn0 : AV.noLL (xs.flatMap Bind.enc ++ [AV.dead, AV.dead]) = true := by rw [noLL_app, noLLf_Bind, hdnl]; rfl
      generalize hC0 : xs.flatMap Bind.enc ++ [AV.dead, AV.dead] = C0 at hroom hl0 hn0
      refine J_has (T := [(0, .oc (.h k) 2 0 (xs.length + 1) cap), (1, aint i), (2, .sl 1 (Bind.enc y)), (7, aint 1), (6, .sl0)]) (L := []) (H := fun m => if m = k then some C0 else H m) ⟨by simp, rfl, rfl⟩ ?_
      have hi1 : (i : Int) + 1 < (cap : Int) := by omega
      have hi2 : ((xs.length : Int) + 1 - ((i : Int) + 1)).toNat = xs.length - i := by omega
      refine J_seq' fun K12 hK12 => J_seq' fun K13 hK13 => J0 ?_
      simp [hw2, hi1, hi2]
      repeat refine And.intro (by omega) ?_
      refine (ov_Bind (H := fun m => if m = k then some C0 else H m) (k := k) (cs := C0) (by simp) y _ _ _).mono ?_
      rintro e H' ⟨rfl, rfl⟩
      simp
      refine hK13 _ (J_cond rfl (fun _ => ?_) fun hc => by simp at hc)
      refine J_seq' fun K14 hK14 => D0 [0,1,2,3,4,5,6,7] [8] (fun _ => []) rfl (by decide) (by decide) ?_
      simp [hw2, hi1, hi2, show i < cap from by omega, hl0]
      refine ⟨by omega, by omega, by omega, by omega, noLL_take _ (noLL_drop _ hn0), hK14 _ ?_⟩
      have hC1l : (C0.take (i * 2 + 2) ++ ((C0.drop (i * 2)).take ((xs.length - i) * 2) ++ C0.drop (i * 2 + 2 + (xs.length - i) * 2))).length = (xs.length + 1) * 2 := by
        simp only [List.length_append, List.length_take, List.length_drop, hl0]; omega
      generalize hC1 : C0.take (i * 2 + 2) ++ ((C0.drop (i * 2)).take ((xs.length - i) * 2) ++ C0.drop (i * 2 + 2 + (xs.length - i) * 2)) = C1 at hroom hC1l
      refine J_has (T := [(0, .oc (.h k) 2 0 (xs.length + 1) cap), (1, aint i), (2, .sl 1 (Bind.enc y)), (7, aint 1), (6, .sl0)]) (L := []) (H := fun m => if m = k then some C1 else H m) ⟨by simp, rfl, by
        funext m
        by_cases hm : m = k
        · subst hm
          show (if m = m then some _ else _) = (if m = m then some C1 else H m)
          rw [if_pos rfl, if_pos rfl, show min (xs.length + 1 - i) (xs.length - i) = xs.length - i from by omega, List.take_take, Nat.min_eq_left (by omega), show (i + 1) * 2 = i * 2 + 2 from by omega, hC1]
        · show (if m = k then some _ else _) = (if m = k then some C1 else H m)
          rw [if_neg hm, if_neg hm, if_neg hm]⟩ ?_
      refine J_seq' fun K15 hK15 => J0 ?_
      simp [show i < cap from by omega, show min 1 (xs.length + 1 - i) = 1 from by omega, hC1l, hylen, take_Bind, hynl]
      repeat refine And.intro (by omega) ?_
      refine hK15 _ ?_
      refine J_has (T := [(0, .oc (.h k) 2 0 (xs.length + 1) cap), (6, .sl0)]) (L := []) (H := fun m => if m = k then some ((insAt i y xs).flatMap Bind.enc) else H m) ⟨by simp, rfl, by
        funext m
        by_cases hm : m = k
        · subst hm
          show (if m = m then some _ else _) = (if m = m then some _ else H m)
          rw [if_pos rfl, if_pos rfl, hroom]
        · show (if m = k then some _ else _) = (if m = k then some _ else H m)
          rw [if_neg hm, if_neg hm, if_neg hm]⟩ ?_
      refine J_seq' fun K16 hK16 => J0 ?_
      simp
      refine hK16 _ ?_
      refine J_forget 6 (l := .h k) (es := 2) (off := 0) (n := xs.length + 1) (cap := cap) (by simp) ?_
      simp
      refine J_ret (hF _ _ ?_)
      simp [Tryz.f241]
      exact .mk k (.inl rfl) (fun m h1 h2 => by simp [h2]) (by simp)
  · have hie : i = xs.length := by omega
    subst hie
    rcases Nat.eq_zero_or_pos xs.length with h0 | h0
    · refine J_slice0 D_ok (x := 0) (y := 1) (p := 10) (q := 11) (d := 12) (t := 25) (l := .h k) (es := 2) rfl rfl rfl rfl rfl rfl rfl rfl rfl rfl D_25 D_54 (by decide) (by decide) (by decide) (by decide) (by decide) (by simp [h0]) (by simp [h0]) ?_
      refine hK2 _ (J_has (T := [(0, .os (.h k) 2 0 xs.length), (1, aint xs.length), (2, .sl 1 (Bind.enc y)), (6, .sl0)]) (L := []) (H := H) (by simp [h0]) ?_)
      refine J_seq' fun K3 hK3 => J0 ?_
      simp
      refine hK3 _ (J_seq' fun K4 hK4 => J_seq' fun K5 hK5 => J0 ?_)
      simp
      refine hK5 _ (J_cond rfl (fun hc => by simp at hc) fun _ => J_skip ?_)
      simp only [thenQ]
      refine hK4 _ (J_seq' fun K6 hK6 => J0 ?_)
      simp
      refine hK6 _ (J_seq' fun K7 hK7 => J_seq' fun K8 hK8 => J0 ?_)
      simp
      refine hK8 _ (J_cond rfl (fun _ => ?_) fun hc => by simp at hc)
      refine J_seq' fun K9 hK9 => J0 ?_
      simp [hH, hylen, hynl]
      have fin : (insAt xs.length y xs).flatMap Bind.enc = xs.flatMap Bind.enc ++ Bind.enc y := by
        rw [hins, List.take_of_length_le (by rw [hlen]; exact Nat.le_refl _), List.drop_eq_nil_of_le (by rw [hlen]; exact Nat.le_refl _), List.append_nil]
      refine ⟨by omega, by omega, hK9 _ (J_ret (hF _ _ ?_)), fun k' hk' => hK9 _ (J_ret (hF _ _ ?_))⟩
      · simp [Tryz.f241]
        exact .mk k (.inl rfl) (fun m h1 h2 => by simp [h1]) (by simp [fin])
      · simp [Tryz.f241]
        exact .mk k' (.inr hk') (fun m h1 h2 => by simp [h1, h2]) (by simp [fin])
    · refine J_reveal 0 (l := .h k) (es := 2) (n := xs.length) (by omega) (by simp) (cs := xs.flatMap Bind.enc) (by simpa using hH) fun cap hc1 hc2 hc3 => ?_
      simp only [maxLen] at hc3
      refine J0 ?_
      simp [hH]
      refine ⟨by omega, hK2 _ (J_forget 0 (l := .h k) (es := 2) (off := 0) (n := xs.length) (cap := cap) (by simp) ?_)⟩
      simp
      refine J_seq' fun K3 hK3 => J0 ?_
      simp
      refine hK3 _ (J_seq' fun K4 hK4 => J_seq' fun K5 hK5 => J0 ?_)
      simp
      refine hK5 _ (J_cond rfl (fun hc => by simp at hc) fun _ => J_skip ?_)
      simp only [thenQ]
      refine hK4 _ (J_seq' fun K6 hK6 => J0 ?_)
      simp
      refine hK6 _ (J_seq' fun K7 hK7 => J_seq' fun K8 hK8 => J0 ?_)
      simp
      refine hK8 _ (J_cond rfl (fun _ => ?_) fun hc => by simp at hc)
      refine J_seq' fun K9 hK9 => J0 ?_
      simp [hH, hylen, hynl]
      have fin : (insAt xs.length y xs).flatMap Bind.enc = xs.flatMap Bind.enc ++ Bind.enc y := by
        rw [hins, List.take_of_length_le (by rw [hlen]; exact Nat.le_refl _), List.drop_eq_nil_of_le (by rw [hlen]; exact Nat.le_refl _), List.append_nil]
      refine ⟨by omega, by omega, hK9 _ (J_ret (hF _ _ ?_)), fun k' hk' => hK9 _ (J_ret (hF _ _ ?_))⟩
      · simp [Tryz.f241]
        exact .mk k (.inl rfl) (fun m h1 h2 => by simp [h1]) (by simp [fin])
      · simp [Tryz.f241]
        exact .mk k' (.inr hk') (fun m h1 h2 => by simp [h1, h2]) (by simp [fin])
theorem ov_Sub {H : Heap} {k : Nat} {cs : List AV} (hH : H k = some cs) (y : Tv.Sub) (off m c : Nat) : PCalls Tryz.prog 283 [.sl 1 (Sub.enc y), .oc (.h k) 5 off m c] H fun r H' => r = .ret (.v (.bool false)) ∧ H' = H :=
  overlaps_of D_ok (es0 := 0) (tS := 26) (tR := 4) (e := 46) Tryz.func283 (by kernel_rfl) (by kernel_rfl) (by kernel_rfl) (by kernel_rfl) D_26 D_46 hH 1 (Sub.enc y) (by simp [Sub.enc, Itm.enc]) 5 off m c
theorem ins_Sub (xs : List Tv.Sub) (hx : xs.length ≤ 2000000) (i : Nat) (hi : i ≤ xs.length) (y : Tv.Sub) (H : Heap) (k : Nat) (hH : H k = some (xs.flatMap Sub.enc)) : PCalls Tryz.prog 254 [.os (.h k) 5 0 xs.length, aint i, .sl 1 (Sub.enc y)] H (OwnRow 5 H k (xs.length + 1) ((insAt i y xs).flatMap Sub.enc)) := by
  have hlen : (xs.flatMap Sub.enc).length = xs.length * 5 := flen_Sub xs
  have hylen : (Sub.enc y).length = 5 := len_Sub y
  have hynl : AV.noLL (Sub.enc y) = true := noLL_Sub y
  have hins : (insAt i y xs).flatMap Sub.enc = (xs.flatMap Sub.enc).take (i * 5) ++ (Sub.enc y ++ (xs.flatMap Sub.enc).drop (i * 5)) := by
    rw [insAt, List.flatMap_append, List.flatMap_cons, flat_take len_Sub, flat_drop len_Sub]
  refine PCalls.of_J' D_ok Tryz.func254 rfl (by decide) (le' rfl) fun E QF hF => ?_
  change J _ E 95 _ _ _
  refine J_seq' fun K1 hK1 => J0 ?_
  simp
  refine hK1 _ (J_seq' fun K2 hK2 => ?_)
  rcases Nat.lt_or_ge i xs.length with hlt | hge
  · refine J_reveal 0 (l := .h k) (es := 5) (n := xs.length) (by omega) (by simp) (cs := xs.flatMap Sub.enc) (by simpa using hH) fun cap hc1 hc2 hc3 => ?_
    simp only [maxLen] at hc3
    refine J0 ?_
    simp [hH]
    refine ⟨⟨by omega, by omega⟩, hK2 _ (J_seq' fun K3 hK3 => J0 ?_)⟩
    simp
    refine hK3 _ (J_seq' fun K4 hK4 => J_seq' fun K5 hK5 => J0 ?_)
    simp
    refine hK5 _ (J_cond rfl (fun hc => by simp at hc) fun _ => J_skip ?_)
    simp only [thenQ]
    refine hK4 _ (J_seq' fun K6 hK6 => J0 ?_)
    simp
    refine hK6 _ (J_seq' fun K7 hK7 => J_seq' fun K8 hK8 => J0 ?_)
    simp
    refine hK8 _ (J_cond rfl (fun hc => by simp at hc; omega) fun _ => J_skip ?_)
    simp only [thenQ]
    refine hK7 _ (J_seq' fun K9 hK9 => J_seq' fun K10 hK10 => J0 ?_)
    simp
    have hw1 : IntKind.i64.wrap ((xs.length : Int) + 1) = ((xs.length + 1 : Nat) : Int) := by rw [w64 (by omega) (by omega)]; omega
    have hw2 : IntKind.i64.wrap ((i : Int) + 1) = ((i + 1 : Nat) : Int) := by rw [w64 (by omega) (by omega)]; omega
    rw [hw1]
    refine hK10 _ (J_cond rfl (fun hc => ?_) fun hc => J_skip ?_)
    · simp at hc
      have hw3 : IntKind.i64.wrap (((xs.length + 1 : Nat) : Int) - (i : Int)) = ((xs.length + 1 - i : Nat) : Int) := by rw [w64 (by omega) (by omega)]; omega
      refine J_seq' fun K11 hK11 => J0 ?_
      simp [hH]
      rw [hw1, hw3]
      simp
      have hkz : AV.killL 40 (List.take (i * 5) (xs.flatMap Sub.enc) ++ (List.replicate (xs.length + 1 - i) ([AV.v (Value.int IntKind.i64 0), AV.v (Value.int IntKind.i64 0), AV.v (Value.string { data := #[] }), AV.v (Value.int IntKind.i64 0), AV.v (Value.bool false)])).flatten) = List.take (i * 5) (xs.flatMap Sub.enc) ++ (List.replicate (xs.length + 1 - i) ([AV.v (Value.int IntKind.i64 0), AV.v (Value.int IntKind.i64 0), AV.v (Value.string { data := #[] }), AV.v (Value.int IntKind.i64 0), AV.v (Value.bool false)])).flatten := by
        rw [killL_app, flat_take len_Sub, killf_Sub, killL_rep _ _ _ (by simp)]
      have hZ : ((List.replicate (xs.length + 1 - i) ([AV.v (Value.int IntKind.i64 0), AV.v (Value.int IntKind.i64 0), AV.v (Value.string { data := #[] }), AV.v (Value.int IntKind.i64 0), AV.v (Value.bool false)])).flatten).length = (xs.length + 1 - i) * 5 := len_rep _ _ 5 rfl
      rw [hkz]
      generalize (List.replicate (xs.length + 1 - i) ([AV.v (Value.int IntKind.i64 0), AV.v (Value.int IntKind.i64 0), AV.v (Value.string { data := #[] }), AV.v (Value.int IntKind.i64 0), AV.v (Value.bool false)])).flatten = Z at hZ
      refine ⟨by omega, by omega, by omega, by omega, by omega, by omega, hK11 _ ?_⟩
      have hl40 : (List.take (i * 5) (xs.flatMap Sub.enc) ++ Z).length = (xs.length + 1) * 5 := by rw [List.length_append, List.length_take, hlen, hZ]; omega
      have hgrow := grow_cells (A := xs.flatMap Sub.enc) (Y := Sub.enc y) (Z := Z) (p := i * 5) (b := (xs.length - i) * 5) (e := 5) (by rw [hlen]; omega) hylen (by rw [hZ]; omega)
      rw [← hins] at hgrow
      generalize hC0 : List.take (i * 5) (xs.flatMap Sub.enc) ++ Z = C0 at hl40 hgrow
      refine J_has (T := [(0, .oc (.h k) 5 0 xs.length cap), (1, aint i), (2, .sl 1 (Sub.enc y)), (7, aint 1), (9, .os (.l 40) 5 0 (xs.length + 1)), (6, .sl0)]) (L := [(40, C0)]) (H := H) ⟨by simp; omega, by simp [hC0], rfl⟩ ?_
      refine J_reveal 9 (l := .l 40) (es := 5) (n := xs.length + 1) (by omega) (by simp) (cs := C0) (by simp) fun cap2 he1 he2 he3 => ?_
      simp
      refine J_seq' fun K12 hK12 => J0 ?_
      simp [show i < cap2 from by omega, hylen, show min 1 (xs.length + 1 - i) = 1 from by omega, hl40, take_Sub]
      refine ⟨by omega, by omega, hK12 _ ?_⟩
      have hl41 : (C0.take (i * 5) ++ (Sub.enc y ++ C0.drop (i * 5 + 5))).length = (xs.length + 1) * 5 := by
        simp only [List.length_append, List.length_take, List.length_drop, hl40, hylen]; omega
      generalize hC1 : C0.take (i * 5) ++ (Sub.enc y ++ C0.drop (i * 5 + 5)) = C1 at hl41 hgrow
      refine J_has (T := [(0, .oc (.h k) 5 0 xs.length cap), (1, aint i), (2, .sl 1 (Sub.enc y)), (7, aint 1), (9, .oc (.l 40) 5 0 (xs.length + 1) cap2), (6, .sl0)]) (L := [(40, C1)]) (H := H) ⟨by simp, by simp [hC1], rfl⟩ ?_
      refine J_seq' fun K13 hK13 => D0 [0,1,2,3,4,5,6,7] [8] (fun _ => []) rfl (by decide) (by decide) ?_
      have hi1 : (i : Int) + 1 < (cap2 : Int) := by omega
      have hi2 : ((xs.length : Int) + 1 - ((i : Int) + 1)).toNat = xs.length - i := by omega
      simp [show i < cap from by omega, hi1, hi2, hH, hl41, hw2]
      repeat refine And.intro (by omega) ?_
      refine hK13 _ ?_
      refine J_has (T := [(9, .oc (.l 40) 5 0 (xs.length + 1) cap2), (6, .sl0)]) (L := [(40, (insAt i y xs).flatMap Sub.enc)]) (H := H) ⟨by simp, by
        show [(40, List.take ((i + 1) * 5) C1 ++ _)] = _
        rw [show (i + 1) * 5 = i * 5 + 5 from by omega, List.take_take, Nat.min_self, List.take_of_length_le (l := List.drop (i * 5) (xs.flatMap Sub.enc)) (by rw [List.length_drop, hlen]; omega), hgrow], rfl⟩ ?_
      refine J_seq' fun K14 hK14 => J0 ?_
      simp
      refine hK14 _ ?_
      refine J_forget 6 (l := .l 40) (es := 5) (off := 0) (n := xs.length + 1) (cap := cap2) (by simp) ?_
      simp
      refine J_escape 40 (by simp; rfl) (by simp) fun k' hk' => ?_
      simp
      refine J_ret (hF _ _ ?_)
      simp [Tryz.f254]
      exact .mk k' (.inr hk') (fun m h1 h2 => by simp [h2]) (by simp)
    · simp at hc
      simp only [thenQ]
      refine hK9 _ (J_extend 0 (l := .h k) (es := 5) (off := 0) (n := xs.length) (cap := cap) (by simp) (cs := xs.flatMap Sub.enc) (by simpa using hH) 5 (by rw [hlen]; omega) ?_)
      simp
      refine J_seq' fun K11 hK11 => J0 ?_
      simp
      rw [hw1]
      refine ⟨⟨by omega, by omega⟩, hK11 _ ?_⟩
      have hdead : ([AV.dead, AV.dead, AV.dead, AV.dead, AV.dead] : List AV).length = 5 := rfl
      have hdnl : AV.noLL ([AV.dead, AV.dead, AV.dead, AV.dead, AV.dead] : List AV) = true := by simp
      have hroom := room_cells (A := xs.flatMap Sub.enc) (Y := Sub.enc y) (X := [AV.dead, AV.dead, AV.dead, AV.dead, AV.dead]) (p := i * 5) (b := (xs.length - i) * 5) (e := 5) (by rw [hlen]; omega) hylen hdead
      rw [← hins] at hroom
      have hl0 : (xs.flatMap Sub.enc ++ [AV.dead, AV.dead, AV.dead, AV.dead, AV.dead]).length = (xs.length + 1) * 5 := by rw [List.length_append, hlen, hdead]; omega
      have hn0 : AV.noLL (xs.flatMap Sub.enc ++ [AV.dead, AV.dead, AV.dead, AV.dead, AV.dead]) = true := by rw [noLL_app, noLLf_Sub, hdnl]; rfl
      generalize hC0 : xs.flatMap Sub.enc ++ [AV.dead, AV.dead, AV.dead, AV.dead, AV.dead] = C0 at hroom hl0 hn0
      refine J_has (T := [(0, .oc (.h k) 5 0 (xs.length + 1) cap), (1, aint i), (2, .sl 1 (Sub.enc y)), (7, aint 1), (6, .sl0)]) (L := []) (H := fun m => if m = k then some C0 else H m) ⟨by simp, rfl, rfl⟩ ?_
      have hi1 : (i : Int) + 1 < (cap : Int) := by omega
      have hi2 : ((xs.length : Int) + 1 - ((i : Int) + 1)).toNat = xs.length - i := by omega
      refine J_seq' fun K12 hK12 => J_seq' fun K13 hK13 => J0 ?_
      simp [hw2, hi1, hi2]
      repeat refine And.intro (by omega) ?_
      refine (ov_Sub (H := fun m => if m = k then some C0 else H m) (k := k) (cs := C0) (by simp) y _ _ _).mono ?_
      rintro e H' ⟨rfl, rfl⟩
      simp
      refine hK13 _ (J_cond rfl (fun _ => ?_) fun hc => by simp at hc)
      refine J_seq' fun K14 hK14 => D0 [0,1,2,3,4,5,6,7] [8] (fun _ => []) rfl (by decide) (by decide) ?_
      simp [hw2, hi1, hi2, show i < cap from by omega, hl0]
      refine ⟨by omega, by omega, by omega, by omega, noLL_take _ (noLL_drop _ hn0), hK14 _ ?_⟩
      have hC1l : (C0.take (i * 5 + 5) ++ ((C0.drop (i * 5)).take ((xs.length - i) * 5) ++ C0.drop (i * 5 + 5 + (xs.length - i) * 5))).length = (xs.length + 1) * 5 := by
        simp only [List.length_append, List.length_take, List.length_drop, hl0]; omega
      generalize hC1 : C0.take (i * 5 + 5) ++ ((C0.drop (i * 5)).take ((xs.length - i) * 5) ++ C0.drop (i * 5 + 5 + (xs.length - i) * 5)) = C1 at hroom hC1l
      refine J_has (T := [(0, .oc (.h k) 5 0 (xs.length + 1) cap), (1, aint i), (2, .sl 1 (Sub.enc y)), (7, aint 1), (6, .sl0)]) (L := []) (H := fun m => if m = k then some C1 else H m) ⟨by simp, rfl, by
        funext m
        by_cases hm : m = k
        · subst hm
          show (if m = m then some _ else _) = (if m = m then some C1 else H m)
          rw [if_pos rfl, if_pos rfl, show min (xs.length + 1 - i) (xs.length - i) = xs.length - i from by omega, List.take_take, Nat.min_eq_left (by omega), show (i + 1) * 5 = i * 5 + 5 from by omega, hC1]
        · show (if m = k then some _ else _) = (if m = k then some C1 else H m)
          rw [if_neg hm, if_neg hm, if_neg hm]⟩ ?_
      refine J_seq' fun K15 hK15 => J0 ?_
      simp [show i < cap from by omega, show min 1 (xs.length + 1 - i) = 1 from by omega, hC1l, hylen, take_Sub, hynl]
      repeat refine And.intro (by omega) ?_
      refine hK15 _ ?_
      refine J_has (T := [(0, .oc (.h k) 5 0 (xs.length + 1) cap), (6, .sl0)]) (L := []) (H := fun m => if m = k then some ((insAt i y xs).flatMap Sub.enc) else H m) ⟨by simp, rfl, by
        funext m
        by_cases hm : m = k
        · subst hm
          show (if m = m then some _ else _) = (if m = m then some _ else H m)
          rw [if_pos rfl, if_pos rfl, hroom]
        · show (if m = k then some _ else _) = (if m = k then some _ else H m)
          rw [if_neg hm, if_neg hm, if_neg hm]⟩ ?_
      refine J_seq' fun K16 hK16 => J0 ?_
      simp
      refine hK16 _ ?_
      refine J_forget 6 (l := .h k) (es := 5) (off := 0) (n := xs.length + 1) (cap := cap) (by simp) ?_
      simp
      refine J_ret (hF _ _ ?_)
      simp [Tryz.f254]
      exact .mk k (.inl rfl) (fun m h1 h2 => by simp [h2]) (by simp)
  · have hie : i = xs.length := by omega
    subst hie
    rcases Nat.eq_zero_or_pos xs.length with h0 | h0
    · refine J_slice0 D_ok (x := 0) (y := 1) (p := 10) (q := 11) (d := 12) (t := 26) (l := .h k) (es := 5) rfl rfl rfl rfl rfl rfl rfl rfl rfl rfl D_26 D_46 (by decide) (by decide) (by decide) (by decide) (by decide) (by simp [h0]) (by simp [h0]) ?_
      refine hK2 _ (J_has (T := [(0, .os (.h k) 5 0 xs.length), (1, aint xs.length), (2, .sl 1 (Sub.enc y)), (6, .sl0)]) (L := []) (H := H) (by simp [h0]) ?_)
      refine J_seq' fun K3 hK3 => J0 ?_
      simp
      refine hK3 _ (J_seq' fun K4 hK4 => J_seq' fun K5 hK5 => J0 ?_)
      simp
      refine hK5 _ (J_cond rfl (fun hc => by simp at hc) fun _ => J_skip ?_)
      simp only [thenQ]
      refine hK4 _ (J_seq' fun K6 hK6 => J0 ?_)
      simp
      refine hK6 _ (J_seq' fun K7 hK7 => J_seq' fun K8 hK8 => J0 ?_)
      simp
      refine hK8 _ (J_cond rfl (fun _ => ?_) fun hc => by simp at hc)
      refine J_seq' fun K9 hK9 => J0 ?_
      simp [hH, hylen, hynl]
      have fin : (insAt xs.length y xs).flatMap Sub.enc = xs.flatMap Sub.enc ++ Sub.enc y := by
        rw [hins, List.take_of_length_le (by rw [hlen]; exact Nat.le_refl _), List.drop_eq_nil_of_le (by rw [hlen]; exact Nat.le_refl _), List.append_nil]
      refine ⟨by omega, by omega, hK9 _ (J_ret (hF _ _ ?_)), fun k' hk' => hK9 _ (J_ret (hF _ _ ?_))⟩
      · simp [Tryz.f254]
        exact .mk k (.inl rfl) (fun m h1 h2 => by simp [h1]) (by simp [fin])
      · simp [Tryz.f254]
        exact .mk k' (.inr hk') (fun m h1 h2 => by simp [h1, h2]) (by simp [fin])
    · refine J_reveal 0 (l := .h k) (es := 5) (n := xs.length) (by omega) (by simp) (cs := xs.flatMap Sub.enc) (by simpa using hH) fun cap hc1 hc2 hc3 => ?_
      simp only [maxLen] at hc3
      refine J0 ?_
      simp [hH]
      refine ⟨by omega, hK2 _ (J_forget 0 (l := .h k) (es := 5) (off := 0) (n := xs.length) (cap := cap) (by simp) ?_)⟩
      simp
      refine J_seq' fun K3 hK3 => J0 ?_
      simp
      refine hK3 _ (J_seq' fun K4 hK4 => J_seq' fun K5 hK5 => J0 ?_)
      simp
      refine hK5 _ (J_cond rfl (fun hc => by simp at hc) fun _ => J_skip ?_)
      simp only [thenQ]
      refine hK4 _ (J_seq' fun K6 hK6 => J0 ?_)
      simp
      refine hK6 _ (J_seq' fun K7 hK7 => J_seq' fun K8 hK8 => J0 ?_)
      simp
      refine hK8 _ (J_cond rfl (fun _ => ?_) fun hc => by simp at hc)
      refine J_seq' fun K9 hK9 => J0 ?_
      simp [hH, hylen, hynl]
      have fin : (insAt xs.length y xs).flatMap Sub.enc = xs.flatMap Sub.enc ++ Sub.enc y := by
        rw [hins, List.take_of_length_le (by rw [hlen]; exact Nat.le_refl _), List.drop_eq_nil_of_le (by rw [hlen]; exact Nat.le_refl _), List.append_nil]
      refine ⟨by omega, by omega, hK9 _ (J_ret (hF _ _ ?_)), fun k' hk' => hK9 _ (J_ret (hF _ _ ?_))⟩
      · simp [Tryz.f254]
        exact .mk k (.inl rfl) (fun m h1 h2 => by simp [h1]) (by simp [fin])
      · simp [Tryz.f254]
        exact .mk k' (.inr hk') (fun m h1 h2 => by simp [h1, h2]) (by simp [fin])
theorem ov_Msg {H : Heap} {k : Nat} {cs : List AV} (hH : H k = some cs) (y : Msg) (off m c : Nat) : PCalls Tryz.prog 299 [.sl 1 (Msg.enc y), .oc (.h k) 5 off m c] H fun r H' => r = .ret (.v (.bool false)) ∧ H' = H :=
  overlaps_of D_ok (es0 := 0) (tS := 27) (tR := 4) (e := 33) Tryz.func299 (by kernel_rfl) (by kernel_rfl) (by kernel_rfl) (by kernel_rfl) D_27 D_33 hH 1 (Msg.enc y) (by simp [Msg.enc, Itm.enc]) 5 off m c
theorem ins_Msg (xs : List Msg) (hx : xs.length ≤ 2000000) (i : Nat) (hi : i ≤ xs.length) (y : Msg) (H : Heap) (k : Nat) (hH : H k = some (xs.flatMap Msg.enc)) : PCalls Tryz.prog 282 [.os (.h k) 5 0 xs.length, aint i, .sl 1 (Msg.enc y)] H (OwnRow 5 H k (xs.length + 1) ((insAt i y xs).flatMap Msg.enc)) := by
  have hlen : (xs.flatMap Msg.enc).length = xs.length * 5 := flen_Msg xs
  have hylen : (Msg.enc y).length = 5 := len_Msg y
  have hynl : AV.noLL (Msg.enc y) = true := noLL_Msg y
  have hins : (insAt i y xs).flatMap Msg.enc = (xs.flatMap Msg.enc).take (i * 5) ++ (Msg.enc y ++ (xs.flatMap Msg.enc).drop (i * 5)) := by
    rw [insAt, List.flatMap_append, List.flatMap_cons, flat_take len_Msg, flat_drop len_Msg]
  refine PCalls.of_J' D_ok Tryz.func282 rfl (by decide) (le' rfl) fun E QF hF => ?_
  change J _ E 95 _ _ _
  refine J_seq' fun K1 hK1 => J0 ?_
  simp
  refine hK1 _ (J_seq' fun K2 hK2 => ?_)
  rcases Nat.lt_or_ge i xs.length with hlt | hge
  · refine J_reveal 0 (l := .h k) (es := 5) (n := xs.length) (by omega) (by simp) (cs := xs.flatMap Msg.enc) (by simpa using hH) fun cap hc1 hc2 hc3 => ?_
    simp only [maxLen] at hc3
    refine J0 ?_
    simp [hH]
    refine ⟨⟨by omega, by omega⟩, hK2 _ (J_seq' fun K3 hK3 => J0 ?_)⟩
    simp
    refine hK3 _ (J_seq' fun K4 hK4 => J_seq' fun K5 hK5 => J0 ?_)
    simp
    refine hK5 _ (J_cond rfl (fun hc => by simp at hc) fun _ => J_skip ?_)
    simp only [thenQ]
    refine hK4 _ (J_seq' fun K6 hK6 => J0 ?_)
    simp
    refine hK6 _ (J_seq' fun K7 hK7 => J_seq' fun K8 hK8 => J0 ?_)
    simp
    refine hK8 _ (J_cond rfl (fun hc => by simp at hc; omega) fun _ => J_skip ?_)
    simp only [thenQ]
    refine hK7 _ (J_seq' fun K9 hK9 => J_seq' fun K10 hK10 => J0 ?_)
    simp
    have hw1 : IntKind.i64.wrap ((xs.length : Int) + 1) = ((xs.length + 1 : Nat) : Int) := by rw [w64 (by omega) (by omega)]; omega
    have hw2 : IntKind.i64.wrap ((i : Int) + 1) = ((i + 1 : Nat) : Int) := by rw [w64 (by omega) (by omega)]; omega
    rw [hw1]
    refine hK10 _ (J_cond rfl (fun hc => ?_) fun hc => J_skip ?_)
    · simp at hc
      have hw3 : IntKind.i64.wrap (((xs.length + 1 : Nat) : Int) - (i : Int)) = ((xs.length + 1 - i : Nat) : Int) := by rw [w64 (by omega) (by omega)]; omega
      refine J_seq' fun K11 hK11 => J0 ?_
      simp [hH]
      rw [hw1, hw3]
      simp
      have hkz : AV.killL 40 (List.take (i * 5) (xs.flatMap Msg.enc) ++ (List.replicate (xs.length + 1 - i) ([AV.v (Value.string { data := #[] }), AV.v (Value.string { data := #[] }), AV.sl0, AV.v (Value.bool false), AV.v (Value.int IntKind.i64 0)])).flatten) = List.take (i * 5) (xs.flatMap Msg.enc) ++ (List.replicate (xs.length + 1 - i) ([AV.v (Value.string { data := #[] }), AV.v (Value.string { data := #[] }), AV.sl0, AV.v (Value.bool false), AV.v (Value.int IntKind.i64 0)])).flatten := by
        rw [killL_app, flat_take len_Msg, killf_Msg, killL_rep _ _ _ (by simp)]
      have hZ : ((List.replicate (xs.length + 1 - i) ([AV.v (Value.string { data := #[] }), AV.v (Value.string { data := #[] }), AV.sl0, AV.v (Value.bool false), AV.v (Value.int IntKind.i64 0)])).flatten).length = (xs.length + 1 - i) * 5 := len_rep _ _ 5 rfl
      rw [hkz]
      generalize (List.replicate (xs.length + 1 - i) ([AV.v (Value.string { data := #[] }), AV.v (Value.string { data := #[] }), AV.sl0, AV.v (Value.bool false), AV.v (Value.int IntKind.i64 0)])).flatten = Z at hZ
      refine ⟨by omega, by omega, by omega, by omega, by omega, by omega, hK11 _ ?_⟩
      have hl40 : (List.take (i * 5) (xs.flatMap Msg.enc) ++ Z).length = (xs.length + 1) * 5 := by rw [List.length_append, List.length_take, hlen, hZ]; omega
      have hgrow := grow_cells (A := xs.flatMap Msg.enc) (Y := Msg.enc y) (Z := Z) (p := i * 5) (b := (xs.length - i) * 5) (e := 5) (by rw [hlen]; omega) hylen (by rw [hZ]; omega)
      rw [← hins] at hgrow
      generalize hC0 : List.take (i * 5) (xs.flatMap Msg.enc) ++ Z = C0 at hl40 hgrow
      refine J_has (T := [(0, .oc (.h k) 5 0 xs.length cap), (1, aint i), (2, .sl 1 (Msg.enc y)), (7, aint 1), (9, .os (.l 40) 5 0 (xs.length + 1)), (6, .sl0)]) (L := [(40, C0)]) (H := H) ⟨by simp; omega, by simp [hC0], rfl⟩ ?_
      refine J_reveal 9 (l := .l 40) (es := 5) (n := xs.length + 1) (by omega) (by simp) (cs := C0) (by simp) fun cap2 he1 he2 he3 => ?_
      simp
      refine J_seq' fun K12 hK12 => J0 ?_
      simp [show i < cap2 from by omega, hylen, show min 1 (xs.length + 1 - i) = 1 from by omega, hl40, take_Msg]
      refine ⟨by omega, by omega, hK12 _ ?_⟩
      have hl41 : (C0.take (i * 5) ++ (Msg.enc y ++ C0.drop (i * 5 + 5))).length = (xs.length + 1) * 5 := by
        simp only [List.length_append, List.length_take, List.length_drop, hl40, hylen]; omega
      generalize hC1 : C0.take (i * 5) ++ (Msg.enc y ++ C0.drop (i * 5 + 5)) = C1 at hl41 hgrow
      refine J_has (T := [(0, .oc (.h k) 5 0 xs.length cap), (1, aint i), (2, .sl 1 (Msg.enc y)), (7, aint 1), (9, .oc (.l 40) 5 0 (xs.length + 1) cap2), (6, .sl0)]) (L := [(40, C1)]) (H := H) ⟨by simp, by simp [hC1], rfl⟩ ?_
      refine J_seq' fun K13 hK13 => D0 [0,1,2,3,4,5,6,7] [8] (fun _ => []) rfl (by decide) (by decide) ?_
      have hi1 : (i : Int) + 1 < (cap2 : Int) := by omega
      have hi2 : ((xs.length : Int) + 1 - ((i : Int) + 1)).toNat = xs.length - i := by omega
      simp [show i < cap from by omega, hi1, hi2, hH, hl41, hw2]
      repeat refine And.intro (by omega) ?_
      refine hK13 _ ?_
      refine J_has (T := [(9, .oc (.l 40) 5 0 (xs.length + 1) cap2), (6, .sl0)]) (L := [(40, (insAt i y xs).flatMap Msg.enc)]) (H := H) ⟨by simp, by
        show [(40, List.take ((i + 1) * 5) C1 ++ _)] = _
        rw [show (i + 1) * 5 = i * 5 + 5 from by omega, List.take_take, Nat.min_self, List.take_of_length_le (l := List.drop (i * 5) (xs.flatMap Msg.enc)) (by rw [List.length_drop, hlen]; omega), hgrow], rfl⟩ ?_
      refine J_seq' fun K14 hK14 => J0 ?_
      simp
      refine hK14 _ ?_
      refine J_forget 6 (l := .l 40) (es := 5) (off := 0) (n := xs.length + 1) (cap := cap2) (by simp) ?_
      simp
      refine J_escape 40 (by simp; rfl) (by simp) fun k' hk' => ?_
      simp
      refine J_ret (hF _ _ ?_)
      simp [Tryz.f282]
      exact .mk k' (.inr hk') (fun m h1 h2 => by simp [h2]) (by simp)
    · simp at hc
      simp only [thenQ]
      refine hK9 _ (J_extend 0 (l := .h k) (es := 5) (off := 0) (n := xs.length) (cap := cap) (by simp) (cs := xs.flatMap Msg.enc) (by simpa using hH) 5 (by rw [hlen]; omega) ?_)
      simp
      refine J_seq' fun K11 hK11 => J0 ?_
      simp
      rw [hw1]
      refine ⟨⟨by omega, by omega⟩, hK11 _ ?_⟩
      have hdead : ([AV.dead, AV.dead, AV.dead, AV.dead, AV.dead] : List AV).length = 5 := rfl
      have hdnl : AV.noLL ([AV.dead, AV.dead, AV.dead, AV.dead, AV.dead] : List AV) = true := by simp
      have hroom := room_cells (A := xs.flatMap Msg.enc) (Y := Msg.enc y) (X := [AV.dead, AV.dead, AV.dead, AV.dead, AV.dead]) (p := i * 5) (b := (xs.length - i) * 5) (e := 5) (by rw [hlen]; omega) hylen hdead
      rw [← hins] at hroom
      have hl0 : (xs.flatMap Msg.enc ++ [AV.dead, AV.dead, AV.dead, AV.dead, AV.dead]).length = (xs.length + 1) * 5 := by rw [List.length_append, hlen, hdead]; omega
      have hn0 : AV.noLL (xs.flatMap Msg.enc ++ [AV.dead, AV.dead, AV.dead, AV.dead, AV.dead]) = true := by rw [noLL_app, noLLf_Msg, hdnl]; rfl
      generalize hC0 : xs.flatMap Msg.enc ++ [AV.dead, AV.dead, AV.dead, AV.dead, AV.dead] = C0 at hroom hl0 hn0
      refine J_has (T := [(0, .oc (.h k) 5 0 (xs.length + 1) cap), (1, aint i), (2, .sl 1 (Msg.enc y)), (7, aint 1), (6, .sl0)]) (L := []) (H := fun m => if m = k then some C0 else H m) ⟨by simp, rfl, rfl⟩ ?_
      have hi1 : (i : Int) + 1 < (cap : Int) := by omega
      have hi2 : ((xs.length : Int) + 1 - ((i : Int) + 1)).toNat = xs.length - i := by omega
      refine J_seq' fun K12 hK12 => J_seq' fun K13 hK13 => J0 ?_
      simp [hw2, hi1, hi2]
      repeat refine And.intro (by omega) ?_
      refine (ov_Msg (H := fun m => if m = k then some C0 else H m) (k := k) (cs := C0) (by simp) y _ _ _).mono ?_
      rintro e H' ⟨rfl, rfl⟩
      simp
      refine hK13 _ (J_cond rfl (fun _ => ?_) fun hc => by simp at hc)
      refine J_seq' fun K14 hK14 => D0 [0,1,2,3,4,5,6,7] [8] (fun _ => []) rfl (by decide) (by decide) ?_
      simp [hw2, hi1, hi2, show i < cap from by omega, hl0]
      refine ⟨by omega, by omega, by omega, by omega, noLL_take _ (noLL_drop _ hn0), hK14 _ ?_⟩
      have hC1l : (C0.take (i * 5 + 5) ++ ((C0.drop (i * 5)).take ((xs.length - i) * 5) ++ C0.drop (i * 5 + 5 + (xs.length - i) * 5))).length = (xs.length + 1) * 5 := by
        simp only [List.length_append, List.length_take, List.length_drop, hl0]; omega
      generalize hC1 : C0.take (i * 5 + 5) ++ ((C0.drop (i * 5)).take ((xs.length - i) * 5) ++ C0.drop (i * 5 + 5 + (xs.length - i) * 5)) = C1 at hroom hC1l
      refine J_has (T := [(0, .oc (.h k) 5 0 (xs.length + 1) cap), (1, aint i), (2, .sl 1 (Msg.enc y)), (7, aint 1), (6, .sl0)]) (L := []) (H := fun m => if m = k then some C1 else H m) ⟨by simp, rfl, by
        funext m
        by_cases hm : m = k
        · subst hm
          show (if m = m then some _ else _) = (if m = m then some C1 else H m)
          rw [if_pos rfl, if_pos rfl, show min (xs.length + 1 - i) (xs.length - i) = xs.length - i from by omega, List.take_take, Nat.min_eq_left (by omega), show (i + 1) * 5 = i * 5 + 5 from by omega, hC1]
        · show (if m = k then some _ else _) = (if m = k then some C1 else H m)
          rw [if_neg hm, if_neg hm, if_neg hm]⟩ ?_
      refine J_seq' fun K15 hK15 => J0 ?_
      simp [show i < cap from by omega, show min 1 (xs.length + 1 - i) = 1 from by omega, hC1l, hylen, take_Msg, hynl]
      repeat refine And.intro (by omega) ?_
      refine hK15 _ ?_
      refine J_has (T := [(0, .oc (.h k) 5 0 (xs.length + 1) cap), (6, .sl0)]) (L := []) (H := fun m => if m = k then some ((insAt i y xs).flatMap Msg.enc) else H m) ⟨by simp, rfl, by
        funext m
        by_cases hm : m = k
        · subst hm
          show (if m = m then some _ else _) = (if m = m then some _ else H m)
          rw [if_pos rfl, if_pos rfl, hroom]
        · show (if m = k then some _ else _) = (if m = k then some _ else H m)
          rw [if_neg hm, if_neg hm, if_neg hm]⟩ ?_
      refine J_seq' fun K16 hK16 => J0 ?_
      simp
      refine hK16 _ ?_
      refine J_forget 6 (l := .h k) (es := 5) (off := 0) (n := xs.length + 1) (cap := cap) (by simp) ?_
      simp
      refine J_ret (hF _ _ ?_)
      simp [Tryz.f282]
      exact .mk k (.inl rfl) (fun m h1 h2 => by simp [h2]) (by simp)
  · have hie : i = xs.length := by omega
    subst hie
    rcases Nat.eq_zero_or_pos xs.length with h0 | h0
    · refine J_slice0 D_ok (x := 0) (y := 1) (p := 10) (q := 11) (d := 12) (t := 27) (l := .h k) (es := 5) rfl rfl rfl rfl rfl rfl rfl rfl rfl rfl D_27 D_33 (by decide) (by decide) (by decide) (by decide) (by decide) (by simp [h0]) (by simp [h0]) ?_
      refine hK2 _ (J_has (T := [(0, .os (.h k) 5 0 xs.length), (1, aint xs.length), (2, .sl 1 (Msg.enc y)), (6, .sl0)]) (L := []) (H := H) (by simp [h0]) ?_)
      refine J_seq' fun K3 hK3 => J0 ?_
      simp
      refine hK3 _ (J_seq' fun K4 hK4 => J_seq' fun K5 hK5 => J0 ?_)
      simp
      refine hK5 _ (J_cond rfl (fun hc => by simp at hc) fun _ => J_skip ?_)
      simp only [thenQ]
      refine hK4 _ (J_seq' fun K6 hK6 => J0 ?_)
      simp
      refine hK6 _ (J_seq' fun K7 hK7 => J_seq' fun K8 hK8 => J0 ?_)
      simp
      refine hK8 _ (J_cond rfl (fun _ => ?_) fun hc => by simp at hc)
      refine J_seq' fun K9 hK9 => J0 ?_
      simp [hH, hylen, hynl]
      have fin : (insAt xs.length y xs).flatMap Msg.enc = xs.flatMap Msg.enc ++ Msg.enc y := by
        rw [hins, List.take_of_length_le (by rw [hlen]; exact Nat.le_refl _), List.drop_eq_nil_of_le (by rw [hlen]; exact Nat.le_refl _), List.append_nil]
      refine ⟨by omega, by omega, hK9 _ (J_ret (hF _ _ ?_)), fun k' hk' => hK9 _ (J_ret (hF _ _ ?_))⟩
      · simp [Tryz.f282]
        exact .mk k (.inl rfl) (fun m h1 h2 => by simp [h1]) (by simp [fin])
      · simp [Tryz.f282]
        exact .mk k' (.inr hk') (fun m h1 h2 => by simp [h1, h2]) (by simp [fin])
    · refine J_reveal 0 (l := .h k) (es := 5) (n := xs.length) (by omega) (by simp) (cs := xs.flatMap Msg.enc) (by simpa using hH) fun cap hc1 hc2 hc3 => ?_
      simp only [maxLen] at hc3
      refine J0 ?_
      simp [hH]
      refine ⟨by omega, hK2 _ (J_forget 0 (l := .h k) (es := 5) (off := 0) (n := xs.length) (cap := cap) (by simp) ?_)⟩
      simp
      refine J_seq' fun K3 hK3 => J0 ?_
      simp
      refine hK3 _ (J_seq' fun K4 hK4 => J_seq' fun K5 hK5 => J0 ?_)
      simp
      refine hK5 _ (J_cond rfl (fun hc => by simp at hc) fun _ => J_skip ?_)
      simp only [thenQ]
      refine hK4 _ (J_seq' fun K6 hK6 => J0 ?_)
      simp
      refine hK6 _ (J_seq' fun K7 hK7 => J_seq' fun K8 hK8 => J0 ?_)
      simp
      refine hK8 _ (J_cond rfl (fun _ => ?_) fun hc => by simp at hc)
      refine J_seq' fun K9 hK9 => J0 ?_
      simp [hH, hylen, hynl]
      have fin : (insAt xs.length y xs).flatMap Msg.enc = xs.flatMap Msg.enc ++ Msg.enc y := by
        rw [hins, List.take_of_length_le (by rw [hlen]; exact Nat.le_refl _), List.drop_eq_nil_of_le (by rw [hlen]; exact Nat.le_refl _), List.append_nil]
      refine ⟨by omega, by omega, hK9 _ (J_ret (hF _ _ ?_)), fun k' hk' => hK9 _ (J_ret (hF _ _ ?_))⟩
      · simp [Tryz.f282]
        exact .mk k (.inl rfl) (fun m h1 h2 => by simp [h1]) (by simp [fin])
      · simp [Tryz.f282]
        exact .mk k' (.inr hk') (fun m h1 h2 => by simp [h1, h2]) (by simp [fin])
end Go.Proofs.YtpcpljfifipagaaGreatDoor
