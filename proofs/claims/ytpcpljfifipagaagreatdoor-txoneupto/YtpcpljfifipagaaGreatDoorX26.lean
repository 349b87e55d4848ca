/- A part of the proof: the engine that walks Go code, the walks of the broker, or their laws (TL TM TN TO TP Lb). -/
import Derived.Test.YtpcpljfifipagaaGreatDoorX25
import Derived.Test.YtpcpljfifipagaaGreatDoorX14
set_option linter.unusedSimpArgs false
set_option linter.unusedVariables false
set_option maxHeartbeats 8000000
set_option maxRecDepth 20000
namespace Go.Proofs.YtpcpljfifipagaaGreatDoor
open Go.Eng Go.Tv
section
attribute [local simp] D_257 D_26 D_46 D_24 D_25 D_54 D_27 D_33 D_50 D_42 D_77 D_28 D_89 D_87 D_244 D_131 D_130 plainOp renSf renLf AV.ren AV.renL escF adoptF AS.esc AS.adopt AS.frz frzS frzL frzC AV.frz Heap.put flen_Cl noLLf_Cl killf_Cl
attribute [local simp ↓] evTsR
attribute [-simp] List.length_flatMap
theorem killL_one (k m : Nat) (n : Int) : AV.killL k (List.replicate m (AV.v (Value.int IntKind.i64 n))) = List.replicate m (AV.v (Value.int IntKind.i64 n)) := by
  induction m with
  | zero => rfl
  | succ m ih => rw [List.replicate_succ, AV.killL, ih]; simp
theorem ov_Num {H : Heap} {k : Nat} {cs : List AV} (hH : H k = some cs) (y : Int) (off m c : Nat) : PCalls Tryz.prog 279 [.sl 1 (Num.enc y), .oc (.h k) 1 off m c] H fun r H' => r = .ret (.v (.bool false)) ∧ H' = H :=
  overlaps_of D_ok (es0 := 0) (tS := 87) (tR := 4) (e := 3) Tryz.func279 (by kernel_rfl) (by kernel_rfl) (by kernel_rfl) (by kernel_rfl) D_87 D_3 hH 1 (Num.enc y) (by simp [Num.enc, Itm.enc]) 1 off m c
theorem ins_Num (xs : List Int) (hx : xs.length ≤ 2000000) (i : Nat) (hi : i ≤ xs.length) (y : Int) (H : Heap) (k : Nat) (hH : H k = some (xs.flatMap Num.enc)) : PCalls Tryz.prog 244 [.os (.h k) 1 0 xs.length, aint i, .sl 1 (Num.enc y)] H (OwnRow 1 H k (xs.length + 1) ((insAt i y xs).flatMap Num.enc)) := by
  have hlen : (xs.flatMap Num.enc).length = xs.length := by rw [flen_Num, Nat.mul_one]
  have hylen : (Num.enc y).length = 1 := len_Num y
  have hynl : AV.noLL (Num.enc y) = true := noLL_Num y
  have hins : (insAt i y xs).flatMap Num.enc = (xs.flatMap Num.enc).take (i) ++ (Num.enc y ++ (xs.flatMap Num.enc).drop (i)) := by
    rw [insAt, List.flatMap_append, List.flatMap_cons, ← flat_take len_Num, ← flat_drop len_Num, Nat.mul_one]
  refine PCalls.of_J' D_ok Tryz.func244 rfl (by decide) (le' rfl) fun E QF hF => ?_
  change J _ E 95 _ _ _
  refine J_seq' fun K1 hK1 => J0 ?_
  simp
  refine hK1 _ (J_seq' fun K2 hK2 => ?_)
  rcases Nat.lt_or_ge i xs.length with hlt | hge
  · refine J_reveal 0 (l := .h k) (es := 1) (n := xs.length) (by omega) (by simp) (cs := xs.flatMap Num.enc) (by simpa using hH) fun cap hc1 hc2 hc3 => ?_
    simp only [maxLen] at hc3
    refine J0 ?_
    simp [hH]
    refine ⟨⟨by omega, by omega⟩, hK2 _ (J_seq' fun K3 hK3 => J0 ?_)⟩
    simp
    refine hK3 _ (J_seq' fun K4 hK4 => J_seq' fun K5 hK5 => J0 ?_)
    simp
    refine hK5 _ (J_cond rfl (fun hc => by simp at hc) fun _ => J_skip ?_)
    simp only [thenQ]
    refine hK4 _ (J_seq' fun K6 hK6 => J0 ?_)
    simp
    refine hK6 _ (J_seq' fun K7 hK7 => J_seq' fun K8 hK8 => J0 ?_)
    simp
    refine hK8 _ (J_cond rfl (fun hc => by simp at hc; omega) fun _ => J_skip ?_)
    simp only [thenQ]
    refine hK7 _ (J_seq' fun K9 hK9 => J_seq' fun K10 hK10 => J0 ?_)
    simp
    have hw1 : IntKind.i64.wrap ((xs.length : Int) + 1) = ((xs.length + 1 : Nat) : Int) := by rw [w64 (by omega) (by omega)]; omega
    have hw2 : IntKind.i64.wrap ((i : Int) + 1) = ((i + 1 : Nat) : Int) := by rw [w64 (by omega) (by omega)]; omega
    rw [hw1]
    refine hK10 _ (J_cond rfl (fun hc => ?_) fun hc => J_skip ?_)
    · simp at hc
      have hw3 : IntKind.i64.wrap (((xs.length + 1 : Nat) : Int) - (i : Int)) = ((xs.length + 1 - i : Nat) : Int) := by rw [w64 (by omega) (by omega)]; omega
      refine J_seq' fun K11 hK11 => J0 ?_
      simp [hH]
      rw [hw1, hw3]
      simp
      have hkz : AV.killL 40 (List.take (i) (xs.flatMap Num.enc) ++ List.replicate (xs.length + 1 - i) (AV.v (Value.int IntKind.i64 0))) = List.take (i) (xs.flatMap Num.enc) ++ List.replicate (xs.length + 1 - i) (AV.v (Value.int IntKind.i64 0)) := by
        rw [killL_app, show List.take i (xs.flatMap Num.enc) = (xs.take i).flatMap Num.enc from by rw [← flat_take len_Num, Nat.mul_one], killf_Num, killL_one]
      have hZ : (List.replicate (xs.length + 1 - i) (AV.v (Value.int IntKind.i64 0))).length = (xs.length + 1 - i) := List.length_replicate
      rw [hkz]
      generalize List.replicate (xs.length + 1 - i) (AV.v (Value.int IntKind.i64 0)) = Z at hZ
      refine ⟨by omega, by omega, by omega, by omega, by omega, by omega, hK11 _ ?_⟩
      have hl40 : (List.take (i) (xs.flatMap Num.enc) ++ Z).length = (xs.length + 1) := by rw [List.length_append, List.length_take, hlen, hZ]; omega
      have hgrow := grow_cells (A := xs.flatMap Num.enc) (Y := Num.enc y) (Z := Z) (p := i) (b := (xs.length - i)) (e := 1) (by rw [hlen]; omega) hylen (by rw [hZ]; omega)
      rw [← hins] at hgrow
      generalize hC0 : List.take (i) (xs.flatMap Num.enc) ++ Z = C0 at hl40 hgrow
      refine J_has (T := [(0, .oc (.h k) 1 0 xs.length cap), (1, aint i), (2, .sl 1 (Num.enc y)), (7, aint 1), (9, .os (.l 40) 1 0 (xs.length + 1)), (6, .sl0)]) (L := [(40, C0)]) (H := H) ⟨by simp; omega, by simp [hC0], rfl⟩ ?_
      refine J_reveal 9 (l := .l 40) (es := 1) (n := xs.length + 1) (by omega) (by simp) (cs := C0) (by simp) fun cap2 he1 he2 he3 => ?_
      simp
      refine J_seq' fun K12 hK12 => J0 ?_
      simp [show i < cap2 from by omega, hylen, show min 1 (xs.length + 1 - i) = 1 from by omega, hl40, take_Num]
      refine ⟨by omega, by omega, hK12 _ ?_⟩
      have hl41 : (C0.take (i) ++ (Num.enc y ++ C0.drop (i + 1))).length = (xs.length + 1) := by
        simp only [List.length_append, List.length_take, List.length_drop, hl40, hylen]; omega
      generalize hC1 : C0.take (i) ++ (Num.enc y ++ C0.drop (i + 1)) = C1 at hl41 hgrow
      refine J_has (T := [(0, .oc (.h k) 1 0 xs.length cap), (1, aint i), (2, .sl 1 (Num.enc y)), (7, aint 1), (9, .oc (.l 40) 1 0 (xs.length + 1) cap2), (6, .sl0)]) (L := [(40, C1)]) (H := H) ⟨by simp, by simp [hC1], rfl⟩ ?_
      refine J_seq' fun K13 hK13 => D0 [0,1,2,3,4,5,6,7] [8] (fun _ => []) rfl (by decide) (by decide) ?_
      have hi1 : (i : Int) + 1 < (cap2 : Int) := by omega
      have hi2 : ((xs.length : Int) + 1 - ((i : Int) + 1)).toNat = xs.length - i := by omega
      simp [show i < cap from by omega, hi1, hi2, hH, hl41, hw2]
      repeat refine And.intro (by omega) ?_
      refine hK13 _ ?_
      refine J_has (T := [(9, .oc (.l 40) 1 0 (xs.length + 1) cap2), (6, .sl0)]) (L := [(40, (insAt i y xs).flatMap Num.enc)]) (H := H) ⟨by simp, by
        show [(40, List.take ((i + 1)) C1 ++ _)] = _
        rw [show (i + 1) = i + 1 from by omega, List.take_take, Nat.min_self, List.take_of_length_le (l := List.drop (i) (xs.flatMap Num.enc)) (by rw [List.length_drop, hlen]; omega), hgrow], rfl⟩ ?_
      refine J_seq' fun K14 hK14 => J0 ?_
      simp
      refine hK14 _ ?_
      refine J_forget 6 (l := .l 40) (es := 1) (off := 0) (n := xs.length + 1) (cap := cap2) (by simp) ?_
      simp
      refine J_escape 40 (by simp; rfl) (by simp) fun k' hk' => ?_
      simp
      refine J_ret (hF _ _ ?_)
      simp [Tryz.f244]
      exact .mk k' (.inr hk') (fun m h1 h2 => by simp [h2]) (by simp)
    · simp at hc
      simp only [thenQ]
      refine hK9 _ (J_extend 0 (l := .h k) (es := 1) (off := 0) (n := xs.length) (cap := cap) (by simp) (cs := xs.flatMap Num.enc) (by simpa using hH) 1 (by rw [hlen]; omega) ?_)
      simp
      refine J_seq' fun K11 hK11 => J0 ?_
      simp
      rw [hw1]
      refine ⟨⟨by omega, by omega⟩, hK11 _ ?_⟩
      have hdead : ([AV.dead] : List AV).length = 1 := rfl
      have hdnl : AV.noLL ([AV.dead] : List AV) = true := by simp
      have hroom := room_cells (A := xs.flatMap Num.enc) (Y := Num.enc y) (X := [AV.dead]) (p := i) (b := (xs.length - i)) (e := 1) (by rw [hlen]; omega) hylen hdead
      rw [← hins] at hroom
      have hl0 : (xs.flatMap Num.enc ++ [AV.dead]).length = (xs.length + 1) := by rw [List.length_append, hlen, hdead]
      have hn0 : AV.noLL (xs.flatMap Num.enc ++ [AV.dead]) = true := by rw [noLL_app, noLLf_Num, hdnl]; rfl
      generalize hC0 : xs.flatMap Num.enc ++ [AV.dead] = C0 at hroom hl0 hn0
      refine J_has (T := [(0, .oc (.h k) 1 0 (xs.length + 1) cap), (1, aint i), (2, .sl 1 (Num.enc y)), (7, aint 1), (6, .sl0)]) (L := []) (H := fun m => if m = k then some C0 else H m) ⟨by simp, rfl, rfl⟩ ?_
      have hi1 : (i : Int) + 1 < (cap : Int) := by omega
      have hi2 : ((xs.length : Int) + 1 - ((i : Int) + 1)).toNat = xs.length - i := by omega
      refine J_seq' fun K12 hK12 => J_seq' fun K13 hK13 => J0 ?_
      simp [hw2, hi1, hi2]
      repeat refine And.intro (by omega) ?_
      refine (ov_Num (H := fun m => if m = k then some C0 else H m) (k := k) (cs := C0) (by simp) y _ _ _).mono ?_
      rintro e H' ⟨rfl, rfl⟩
      simp
      refine hK13 _ (J_cond rfl (fun _ => ?_) fun hc => by simp at hc)
      refine J_seq' fun K14 hK14 => D0 [0,1,2,3,4,5,6,7] [8] (fun _ => []) rfl (by decide) (by decide) ?_
      simp [hw2, hi1, hi2, show i < cap from by omega, hl0]
      refine ⟨by omega, by omega, by omega, by omega, noLL_take _ (noLL_drop _ hn0), hK14 _ ?_⟩
      have hC1l : (C0.take (i + 1) ++ ((C0.drop (i)).take ((xs.length - i)) ++ C0.drop (i + 1 + (xs.length - i)))).length = (xs.length + 1) := by
        simp only [List.length_append, List.length_take, List.length_drop, hl0]; omega
      generalize hC1 : C0.take (i + 1) ++ ((C0.drop (i)).take ((xs.length - i)) ++ C0.drop (i + 1 + (xs.length - i))) = C1 at hroom hC1l
      refine J_has (T := [(0, .oc (.h k) 1 0 (xs.length + 1) cap), (1, aint i), (2, .sl 1 (Num.enc y)), (7, aint 1), (6, .sl0)]) (L := []) (H := fun m => if m = k then some C1 else H m) ⟨by simp, rfl, by
        funext m
        by_cases hm : m = k
        · subst hm
          show (if m = m then some _ else _) = (if m = m then some C1 else H m)
          rw [if_pos rfl, if_pos rfl, show min (xs.length + 1 - i) (xs.length - i) = xs.length - i from by omega, List.take_take, Nat.min_eq_left (by omega), show (i + 1) = i + 1 from by omega, hC1]
        · show (if m = k then some _ else _) = (if m = k then some C1 else H m)
          rw [if_neg hm, if_neg hm, if_neg hm]⟩ ?_
      refine J_seq' fun K15 hK15 => J0 ?_
      simp [show i < cap from by omega, show min 1 (xs.length + 1 - i) = 1 from by omega, hC1l, hylen, take_Num, hynl]
      repeat refine And.intro (by omega) ?_
      refine hK15 _ ?_
      refine J_has (T := [(0, .oc (.h k) 1 0 (xs.length + 1) cap), (6, .sl0)]) (L := []) (H := fun m => if m = k then some ((insAt i y xs).flatMap Num.enc) else H m) ⟨by simp, rfl, by
        funext m
        by_cases hm : m = k
        · subst hm
          show (if m = m then some _ else _) = (if m = m then some _ else H m)
          rw [if_pos rfl, if_pos rfl, hroom]
        · show (if m = k then some _ else _) = (if m = k then some _ else H m)
          rw [if_neg hm, if_neg hm, if_neg hm]⟩ ?_
      refine J_seq' fun K16 hK16 => J0 ?_
      simp
      refine hK16 _ ?_
      refine J_forget 6 (l := .h k) (es := 1) (off := 0) (n := xs.length + 1) (cap := cap) (by simp) ?_
      simp
      refine J_ret (hF _ _ ?_)
      simp [Tryz.f244]
      exact .mk k (.inl rfl) (fun m h1 h2 => by simp [h2]) (by simp)
  · have hie : i = xs.length := by omega
    subst hie
    rcases Nat.eq_zero_or_pos xs.length with h0 | h0
    · refine J_slice0 D_ok (x := 0) (y := 1) (p := 10) (q := 11) (d := 12) (t := 87) (l := .h k) (es := 1) rfl rfl rfl rfl rfl rfl rfl rfl rfl rfl D_87 D_3 (by decide) (by decide) (by decide) (by decide) (by decide) (by simp [h0]) (by simp [h0]) ?_
      refine hK2 _ (J_has (T := [(0, .os (.h k) 1 0 xs.length), (1, aint xs.length), (2, .sl 1 (Num.enc y)), (6, .sl0)]) (L := []) (H := H) (by simp [h0]) ?_)
      refine J_seq' fun K3 hK3 => J0 ?_
      simp
      refine hK3 _ (J_seq' fun K4 hK4 => J_seq' fun K5 hK5 => J0 ?_)
      simp
      refine hK5 _ (J_cond rfl (fun hc => by simp at hc) fun _ => J_skip ?_)
      simp only [thenQ]
      refine hK4 _ (J_seq' fun K6 hK6 => J0 ?_)
      simp
      refine hK6 _ (J_seq' fun K7 hK7 => J_seq' fun K8 hK8 => J0 ?_)
      simp
      refine hK8 _ (J_cond rfl (fun _ => ?_) fun hc => by simp at hc)
      refine J_seq' fun K9 hK9 => J0 ?_
      simp [hH, hylen, hynl]
      have fin : (insAt xs.length y xs).flatMap Num.enc = xs.flatMap Num.enc ++ Num.enc y := by
        rw [hins, List.take_of_length_le (by rw [hlen]; exact Nat.le_refl _), List.drop_eq_nil_of_le (by rw [hlen]; exact Nat.le_refl _), List.append_nil]
      refine ⟨by omega, by omega, hK9 _ (J_ret (hF _ _ ?_)), fun k' hk' => hK9 _ (J_ret (hF _ _ ?_))⟩
      · simp [Tryz.f244]
        exact .mk k (.inl rfl) (fun m h1 h2 => by simp [h1]) (by simp [fin])
      · simp [Tryz.f244]
        exact .mk k' (.inr hk') (fun m h1 h2 => by simp [h1, h2]) (by simp [fin])
    · refine J_reveal 0 (l := .h k) (es := 1) (n := xs.length) (by omega) (by simp) (cs := xs.flatMap Num.enc) (by simpa using hH) fun cap hc1 hc2 hc3 => ?_
      simp only [maxLen] at hc3
      refine J0 ?_
      simp [hH]
      refine ⟨by omega, hK2 _ (J_forget 0 (l := .h k) (es := 1) (off := 0) (n := xs.length) (cap := cap) (by simp) ?_)⟩
      simp
      refine J_seq' fun K3 hK3 => J0 ?_
      simp
      refine hK3 _ (J_seq' fun K4 hK4 => J_seq' fun K5 hK5 => J0 ?_)
      simp
      refine hK5 _ (J_cond rfl (fun hc => by simp at hc) fun _ => J_skip ?_)
      simp only [thenQ]
      refine hK4 _ (J_seq' fun K6 hK6 => J0 ?_)
      simp
      refine hK6 _ (J_seq' fun K7 hK7 => J_seq' fun K8 hK8 => J0 ?_)
      simp
      refine hK8 _ (J_cond rfl (fun _ => ?_) fun hc => by simp at hc)
      refine J_seq' fun K9 hK9 => J0 ?_
      simp [hH, hylen, hynl]
      have fin : (insAt xs.length y xs).flatMap Num.enc = xs.flatMap Num.enc ++ Num.enc y := by
        rw [hins, List.take_of_length_le (by rw [hlen]; exact Nat.le_refl _), List.drop_eq_nil_of_le (by rw [hlen]; exact Nat.le_refl _), List.append_nil]
      refine ⟨by omega, by omega, hK9 _ (J_ret (hF _ _ ?_)), fun k' hk' => hK9 _ (J_ret (hF _ _ ?_))⟩
      · simp [Tryz.f244]
        exact .mk k (.inl rfl) (fun m h1 h2 => by simp [h1]) (by simp [fin])
      · simp [Tryz.f244]
        exact .mk k' (.inr hk') (fun m h1 h2 => by simp [h1, h2]) (by simp [fin])
end
section
attribute [local simp] D_257 D_26 D_46 D_24 D_25 D_54 D_27 D_33 D_50 D_42 D_77 D_28 D_89 D_87 D_244 D_131 D_130 plainOp renSf renLf AV.ren AV.renL escF adoptF AS.esc AS.adopt AS.frz frzS frzL frzC AV.frz Heap.put flen_Cl noLLf_Cl killf_Cl
attribute [local simp ↓] evTsR
attribute [-simp] List.length_flatMap
theorem delf_Num (xs : List Int) (hx : xs.length ≤ 2000000) (g : FuncId) (caps : List AV) (hcaps : AV.noLL caps = true) (p : Int → Bool) (hp : ∀ x ∈ xs, PFun Tryz.prog g (aint x :: caps) (abool (p x))) (H : Heap) (k : Nat) (hH : H k = some (xs.flatMap Num.enc)) : PCalls Tryz.prog 198 [.os (.h k) 1 0 xs.length, .fn g caps] H (OwnRow 1 H k (xs.filter fun x => !p x).length ((xs.filter fun x => !p x).flatMap Num.enc)) := by
  have hlen : (xs.flatMap Num.enc).length = xs.length * 1 := flen_Num xs
  refine PCalls.of_J' D_ok Tryz.func198 rfl (by decide) (le' rfl) fun E QF hF => ?_
  change J _ E 42 _ _ _
  refine J_seq' fun K1 hK1 => J0 ?_
  simp
  refine hK1 _ (J_seq' fun K2 hK2 => J0 ?_)
  simp [hcaps]
  refine (indexH_Num xs hx g caps hcaps p hp H k hH).mono ?_
  rintro e H' ⟨rfl, hHe⟩
  obtain rfl : H = H' := hHe.symm
  simp
  refine hK2 _ (J_seq' fun K3 hK3 => J_seq' fun K4 hK4 => J0 ?_)
  simp
  rcases idx_spec p xs with ⟨h1, h2⟩ | ⟨i0, x0, h1, h2, h3, h4⟩
  · have hf : xs.filter (fun x => !p x) = xs := List.filter_eq_self.mpr fun x hx => by simp [h2 x hx]
    rw [h1]
    refine hK4 _ (J_cond rfl (fun _ => ?_) fun hc => by simp at hc)
    refine J_seq' fun K5 hK5 => J0 ?_
    simp
    refine hK5 _ (J_ret (hF _ _ ?_))
    simp [Tryz.f198]
    rw [hf]
    exact .mk k (.inl rfl) (fun m h1 h2 => rfl) hH
  have hi0 : i0 < xs.length := by
    rcases Nat.lt_or_ge i0 xs.length with h | h
    · exact h
    · rw [List.getElem?_eq_none h] at h2; cases h2
  have hfirst : xs.take i0 = (xs.take i0).filter fun x => !p x := by
    refine (List.filter_eq_self.mpr fun x hx => ?_).symm
    obtain ⟨j, hj⟩ := List.getElem?_of_mem hx
    rw [List.getElem?_take] at hj
    split at hj
    · rename_i hlt; simp [h4 j x hlt hj]
    · cases hj
  have hfirst2 : (xs.take (i0 + 1)).filter (fun x => !p x) = xs.take i0 := by
    rw [List.take_add_one, h2, List.filter_append, ← hfirst]
    simp [h3]
  rw [h1]
  refine hK4 _ (J_cond rfl (fun hc => by simp at hc) fun _ => J_skip ?_)
  simp only [thenQ]
  refine hK3 _ (J_seq' fun K6 hK6 => J_seq' fun K7 hK7 => J0 ?_)
  simp
  refine hK7 _ (J_block ?_)
  refine J_loop' (fun m s' => ∃ i j : Nat, ∃ C : List AV, i < j ∧ j ≤ xs.length ∧ m = xs.length - j ∧ ((xs.take j).filter fun x => !p x).length = i ∧ C.length = xs.length * 1 ∧ C.take (i * 1) = ((xs.take j).filter fun x => !p x).flatMap Num.enc ∧ C.drop (j * 1) = (xs.drop j).flatMap Num.enc ∧ Has [(0, .os (.h k) 1 0 xs.length), (1, .fn g caps), (4, .sl0), (5, aint i), (6, aint j)] s'.L (fun m => if m = k then some C else H m) s') (n := xs.length - (i0 + 1)) ⟨i0, i0 + 1, xs.flatMap Num.enc, by omega, by omega, rfl, by rw [hfirst2, List.length_take]; omega, hlen, by rw [flat_take len_Num, hfirst2], by rw [flat_drop len_Num], ?_⟩ ?_
  · refine ⟨?_, rfl, ?_⟩
    · simp
      rw [w64 (by omega) (by omega)]
    · exact (heap_same hH).symm
  rintro m s' ⟨i, j, C, hij, hj, hm, hfl, hCl, hCt, hCd, hs'⟩ K hK
  refine J_has hs' ?_
  refine J_seq' fun K8 hK8 => J_seq' fun K9 hK9 => J0 ?_
  simp
  refine hK9 _ (J_cond rfl (fun hc => J_skip ?_) fun hc => J_exit ?_)
  · simp at hc
    obtain ⟨x, hxj⟩ : ∃ x, xs[j]? = some x := ⟨_, List.getElem?_eq_getElem (by omega)⟩
    have hmem : x ∈ xs := List.mem_of_getElem? hxj
    have hat : List.take 1 (List.drop (j * 1) C) = Num.enc x := by
      rw [hCd, drop_at hxj, List.flatMap_cons, List.take_append_of_le_length (by rw [len_Num]; exact Nat.le_refl _), List.take_of_length_le (by rw [len_Num]; exact Nat.le_refl _)]
    rw [Nat.mul_one] at hat
    have hCd2 : C.drop ((j + 1) * 1) = (xs.drop (j + 1)).flatMap Num.enc := by
      rw [show (j + 1) * 1 = j * 1 + 1 from by omega, ← List.drop_drop, hCd, drop_at hxj, List.flatMap_cons, List.drop_append_of_le_length (by rw [len_Num]; exact Nat.le_refl _), List.drop_of_length_le (by rw [len_Num]; exact Nat.le_refl _), List.nil_append]
    simp only [thenQ, blockQ]
    refine hK8 _ (J_seq' fun K10 hK10 => J_block (J_seq' fun K11 hK11 => J0 ?_))
    simp [hat, Num.enc, hCl, len_Num, kill_Num, killL_of_noLL 7 caps hcaps]
    repeat refine And.intro (by omega) ?_
    refine hK11 _ (J_seq' fun K12 hK12 => J0 ?_)
    simp [len_Num, take_Num, noLL_Num, hcaps]
    refine (hp x hmem).call ?_
    simp
    refine hK12 _ (J_cond rfl (fun hd => ?_) fun hd => J_skip ?_)
    · have hpx : p x = false := by simpa using hd
      have hf2 : (xs.take (j + 1)).filter (fun x => !p x) = (xs.take j).filter (fun x => !p x) ++ [x] := by
        rw [List.take_add_one, hxj, List.filter_append]; simp [hpx]
      refine J_seq' fun K13 hK13 => J0 ?_
      simp [len_Num, take_Num, noLL_Num, hCl]
      repeat refine And.intro (by omega) ?_
      refine hK13 _ ?_
      refine J0 ?_
      simp
      refine hK10 _ (J0 ?_)
      simp
      refine hK (xs.length - (j + 1)) _ (by omega) ⟨i + 1, j + 1, C.take (i * 1) ++ (Num.enc x ++ C.drop (i * 1 + 1)), by omega, by omega, rfl, ?_, ?_, ?_, ?_, ?_, rfl, ?_⟩
      · rw [hf2, List.length_append, hfl]; rfl
      · simp only [List.length_append, List.length_take, List.length_drop, hCl, len_Num]; omega
      · rw [hf2, List.flatMap_append, ← hCt, ← List.append_assoc, List.take_append_of_le_length (by simp only [List.length_append, List.length_take, hCl, len_Num]; omega), List.take_of_length_le (by simp only [List.length_append, List.length_take, hCl, len_Num]; omega)]
        simp
      · rw [← hCd2, List.drop_append, List.drop_of_length_le (by simp only [List.length_take, hCl]; omega), List.nil_append, List.length_take, hCl, List.drop_append, List.drop_of_length_le (by rw [len_Num]; omega), List.nil_append, len_Num, List.drop_drop]
        congr 1
        omega
      · simp
        rw [w64 (by omega) (by omega), w64 (by omega) (by omega)]
        exact ⟨rfl, rfl⟩
      · funext m
        by_cases hm : m = k
        · subst hm; simp [Num.enc]
        · simp [hm]
    · have hpx : p x = true := by simpa using hd
      have hf2 : (xs.take (j + 1)).filter (fun x => !p x) = (xs.take j).filter (fun x => !p x) := by
        rw [List.take_add_one, hxj, List.filter_append]; simp [hpx]
      simp only [thenQ, blockQ]
      refine hK10 _ (J0 ?_)
      simp
      refine hK (xs.length - (j + 1)) _ (by omega) ⟨i, j + 1, C, by omega, by omega, rfl, by rw [hf2, hfl], hCl, by rw [hf2, hCt], hCd2, ?_, rfl, rfl⟩
      simp
      rw [w64 (by omega) (by omega)]
  · simp at hc
    have hje : j = xs.length := by omega
    subst hje
    rw [List.take_of_length_le (Nat.le_refl _)] at hfl hCt
    simp only [thenQ, blockQ, if_true]
    refine hK6 _ ?_
    refine J_reveal 0 (l := .h k) (es := 1) (n := xs.length) (by omega) (by simp) (cs := C) (by simp) fun cap hc1 hc2 hc3 => ?_
    simp only [maxLen] at hc3
    simp
    refine J_seq' fun K14 hK14 => J0 ?_
    simp [show i < cap from by omega, hCl]
    repeat refine And.intro (by omega) ?_
    refine hK14 _ (J_seq' fun K15 hK15 => J0 ?_)
    simp
    repeat refine And.intro (by omega) ?_
    refine hK15 _ ?_
    refine J_forget 4 (l := .h k) (es := 1) (off := 0) (n := i) (cap := cap) (by simp) ?_
    simp
    refine J_trunc (.h k) (by simp; rfl) (i * 1) ?_
    simp
    refine J_ret (hF _ _ ?_)
    simp [Tryz.f198]
    rw [hfl]
    refine .mk k (.inl rfl) (fun m h1 h2 => by simp [h2]) ?_
    rw [Nat.mul_one] at hCt
    show (if k = k then some _ else _) = some _
    rw [if_pos rfl, List.take_append_of_le_length (by rw [List.length_take, hCl]; omega), List.take_take, Nat.min_self, hCt]
end
section
attribute [local simp] plainOp Heap.put flen_Cl noLLf_Cl killf_Cl D_36 D_42 D_33 D_50 D_77 D_37 D_24 D_25 D_26 D_27 D_28 D_87 D_30 D_54 D_46 D_89 D_105 D_103 D_102 D_35 D_101 D_80 D_118 D_124 D_121 D_31 D_257
attribute [local simp ↓] evTsR evQsh evQh
attribute [-simp] List.length_flatMap
theorem less_fun (a b : Int) : PFun Tryz.prog 277 [aint a, aint b] (abool (decide (a < b))) := by
  refine PFun.of_J D_ok Tryz.func277 rfl (by decide) (le' rfl) fun H E QF hF => ?_
  change J _ E 17 _ _ _
  refine J_seq' fun K1 hK1 => J0 ?_
  simp
  refine hK1 _ (J_seq' fun K2 hK2 => J0 ?_)
  simp
  refine (nan_fun a).call ?_
  simp
  refine hK2 _ (J_ret (hF _ _ ?_))
  simp [Tryz.f277]
theorem nanS_fun (a : Int) : PFun Tryz.prog 278 [aint a] (abool false) := by
  refine PFun.of_J D_ok Tryz.func278 rfl (by decide) (le' rfl) fun H E QF hF => ?_
  change J _ E 6 _ _ _
  refine J_seq' fun K1 hK1 => J0 ?_
  simp
  refine hK1 _ (J_seq' fun K2 hK2 => J0 ?_)
  simp
  refine hK2 _ (J_ret (hF _ _ ?_))
  simp [Tryz.f278]
def ncmp (y x : Int) : Int := if x < y then -1 else if x = y then 0 else 1
theorem bsn_fun (xs : List Int) (hx : xs.length ≤ 2000000) (y : Int) (H : Heap) (k : Nat) (hH : H k = some (xs.flatMap Num.enc)) : PCalls Tryz.prog 243 [.os (.h k) 1 0 xs.length, aint y] H fun e H' => e = .ret (.tup [aint (bsearch (ncmp y) xs : Nat), abool (bfound (ncmp y) xs)]) ∧ H' = H := by
  refine PCalls.of_J' D_ok Tryz.func243 rfl (by decide) (le' rfl) fun E QF hF => ?_
  change J _ E 54 _ _ _
  refine J_seq' fun K1 hK1 => J0 ?_
  simp
  refine hK1 _ (J_seq' fun K2 hK2 => J0 ?_)
  simp
  refine hK2 _ (J_seq' fun K3 hK3 => J0 ?_)
  simp
  refine hK3 _ (J_seq' fun K4 hK4 => J_block ?_)
  refine J_loop' (fun m s' => ∃ i j : Nat, i ≤ j ∧ j ≤ xs.length ∧ m = j - i ∧ bsGo (ltAt (ncmp y) xs) i j = bsearch (ncmp y) xs ∧ Has [(0, .os (.h k) 1 0 xs.length), (1, aint y), (6, aint xs.length), (7, aint i), (8, aint j)] [] H s') (n := xs.length) ⟨0, xs.length, by omega, by omega, by omega, rfl, by simp⟩ ?_
  rintro m s' ⟨i, j, hij, hj, hm, hb, hs'⟩ K hK
  refine J_has hs' ?_
  refine J_seq' fun K5 hK5 => J_seq' fun K6 hK6 => J0 ?_
  simp
  refine hK6 _ (J_cond rfl (fun hc => J_skip ?_) fun hc => J_exit ?_)
  · simp at hc
    have hmid : (i + j) / 2 < xs.length := by omega
    obtain ⟨x, hxi⟩ : ∃ x, xs[(i + j) / 2]? = some x := ⟨_, List.getElem?_eq_getElem hmid⟩
    have hat := at_Num xs hxi
    rw [Nat.mul_one] at hat
    have hmem : x ∈ xs := List.mem_of_getElem? hxi
    have hlt : ltAt (ncmp y) xs ((i + j) / 2) = decide (x < y) := by
      simp only [ltAt, hxi, ncmp]
      split
      · simp [*]
      · split <;> simp [*]
    simp only [thenQ, blockQ]
    refine hK5 _ (J_block (J_seq' fun K7 hK7 => J0 ?_))
    simp [evConv]
    rw [mid_eq i j (by omega)]
    have hm1 : i ≤ (i + j) / 2 := by omega
    have hm2 : (i + j) / 2 < j := by omega
    have hbl := fun h => bsGo_lt (ltAt (ncmp y) xs) (i := i) (j := j) hc h
    have hbg := fun h => bsGo_ge (ltAt (ncmp y) xs) (i := i) (j := j) hc h
    generalize (i + j) / 2 = mid at *
    refine hK7 _ (J_seq' fun K8 hK8 => J0 ?_)
    simp [hat, hH, Num.enc]
    refine ⟨by omega, by omega, (less_fun x y).call ?_⟩
    simp
    refine hK8 _ (J_cond rfl (fun hd => ?_) fun hd => ?_)
    · have hpx : ltAt (ncmp y) xs mid = true := by rw [hlt]; simpa using hd
      refine J0 ?_
      simp
      refine hK (j - (mid + 1)) _ (by omega) ⟨mid + 1, j, by omega, hj, rfl, ?_, ?_⟩
      · rw [← hb, hbl hpx]
      · simp
        rw [w64 (by omega) (by omega)]
    · have hpx : ltAt (ncmp y) xs mid = false := by rw [hlt]; simpa using hd
      refine J0 ?_
      simp
      refine hK (mid - i) _ (by omega) ⟨i, mid, by omega, by omega, rfl, ?_, ?_⟩
      · rw [← hb, hbg hpx]
      · simp
  · simp at hc
    have hbi : i = bsearch (ncmp y) xs := by rw [← hb, bsGo_eq _ hc]
    simp only [thenQ, blockQ, if_true]
    refine hK4 _ (J_seq' fun K9 hK9 => ?_)
    rcases Nat.lt_or_ge i xs.length with hlt | hge
    · obtain ⟨x, hxi⟩ : ∃ x, xs[i]? = some x := ⟨_, List.getElem?_eq_getElem hlt⟩
      have hat := at_Num xs hxi
      rw [Nat.mul_one] at hat
      refine J0 ?_
      by_cases e : x = y
      · have hf : ncmp y x = 0 := by rw [e]; simp [ncmp]
        simp [hat, hH, hlt, Num.enc, e]
        refine ⟨by omega, ?_⟩
        refine hK9 _ (J_ret (hF _ _ ?_))
        simp [Tryz.f243, ← hbi, bfound, hxi, hf]
      · have hf : ncmp y x ≠ 0 := by
          simp only [ncmp]
          split
          · omega
          · simp [e]
        simp [hat, hH, hlt, Num.enc, show (x == y) = false from by simp [e]]
        refine ⟨by omega, (nanS_fun x).call ?_⟩
        simp
        refine hK9 _ (J_ret (hF _ _ ?_))
        simp [Tryz.f243, ← hbi, bfound, hxi, hf]
    · refine J0 ?_
      simp [hH, show ¬ i < xs.length from by omega]
      refine hK9 _ (J_ret (hF _ _ ?_))
      simp [Tryz.f243, ← hbi, bfound, List.getElem?_eq_none hge]
theorem bsn_nil (y : Int) (H : Heap) : PCalls Tryz.prog 243 [.sl0, aint y] H fun e H' => e = .ret (.tup [aint 0, abool false]) ∧ H' = H := by
  refine PCalls.of_J' D_ok Tryz.func243 rfl (by decide) (le' rfl) fun E QF hF => ?_
  change J _ E 54 _ _ _
  refine J_seq' fun K1 hK1 => J0 ?_
  simp
  refine hK1 _ (J_seq' fun K2 hK2 => J0 ?_)
  simp
  refine hK2 _ (J_seq' fun K3 hK3 => J0 ?_)
  simp
  refine hK3 _ (J_seq' fun K4 hK4 => J_block ?_)
  refine J_loop' (fun m s' => Has [(0, .sl0), (1, aint y), (6, aint 0), (7, aint 0), (8, aint 0)] [] H s') (n := 0) (by simp) ?_
  rintro m s' hs' K hK
  refine J_has hs' ?_
  refine J_seq' fun K5 hK5 => J_seq' fun K6 hK6 => J0 ?_
  simp
  refine hK6 _ (J_cond rfl (fun hc => absurd hc (by simp)) fun hc => J_exit ?_)
  simp only [thenQ, blockQ, if_true]
  refine hK4 _ (J_seq' fun K9 hK9 => ?_)
  refine J0 ?_
  simp
  refine hK9 _ (J_ret (hF _ _ ?_))
  simp [Tryz.f243]
theorem insn_nil (y : Int) (H : Heap) : PCalls Tryz.prog 244 [.sl0, aint 0, .sl 1 (Num.enc y)] H fun e H' => ∃ k', H k' = none ∧ e = .ret (.os (.h k') 1 0 1) ∧ (∀ m, m ≠ k' → H' m = H m) ∧ H' k' = some (Num.enc y) := by
  refine PCalls.of_J' D_ok Tryz.func244 rfl (by decide) (le' rfl) fun E QF hF => ?_
  change J _ E 95 _ _ _
  refine J_seq' fun K1 hK1 => J0 ?_
  simp
  refine hK1 _ (J_seq' fun K2 hK2 => J0 ?_)
  simp
  refine hK2 _ (J_seq' fun K3 hK3 => J0 ?_)
  simp
  refine hK3 _ (J_seq' fun K4 hK4 => J_seq' fun K5 hK5 => J0 ?_)
  simp
  refine hK5 _ (J_cond rfl (fun hc => by simp at hc) fun _ => J_skip ?_)
  simp only [thenQ]
  refine hK4 _ (J_seq' fun K6 hK6 => J0 ?_)
  simp
  refine hK6 _ (J_seq' fun K7 hK7 => J_seq' fun K8 hK8 => J0 ?_)
  simp
  refine hK8 _ (J_cond rfl (fun _ => ?_) fun hc => by simp at hc)
  refine J_seq' fun K9 hK9 => J0 ?_
  simp [Num.enc]
  refine hK9 _ (J_escape 25 (cs := [aint y]) (by simp [lookL]) (by simp) fun k' hk' => ?_)
  refine J_ret (hF _ _ ?_)
  simp [Tryz.f244, AS.esc, renSf, renLf, AV.ren, AV.renL, escF]
  exact ⟨k', hk', rfl, fun m h1 h2 => absurd h2 h1, by simp [Num.enc]⟩
end
section
attribute [local simp] plainOp Heap.put flen_Cl noLLf_Cl killf_Cl D_36 D_42 D_33 D_50 D_77 D_37 D_24 D_25 D_26 D_27 D_28 D_87 D_30 D_54 D_46 D_89 D_105 D_103 D_102 D_35 D_101 D_80 D_118 D_124 D_121 D_31 D_257 D_244 D_131 D_130
attribute [local simp ↓] evTsR evQsh evQh
attribute [-simp] List.length_flatMap
theorem bsGo_congr {p q : Nat → Bool} (h : ∀ i, p i = q i) (i j : Nat) : bsGo p i j = bsGo q i j := by
  rw [show p = q from funext h]
theorem ltAt_map {α β : Type} (g : α → β) (f : β → Int) (xs : List α) (i : Nat) : ltAt f (xs.map g) i = ltAt (fun x => f (g x)) xs i := by
  simp only [ltAt, List.getElem?_map]
  cases xs[i]? <;> rfl
theorem bsearch_map {α β : Type} (g : α → β) (f : β → Int) (xs : List α) : bsearch f (xs.map g) = bsearch (fun x => f (g x)) xs := by
  unfold bsearch
  rw [List.length_map]
  exact bsGo_congr (ltAt_map g f xs) _ _
theorem bfound_map {α β : Type} (g : α → β) (f : β → Int) (xs : List α) : bfound f (xs.map g) = bfound (fun x => f (g x)) xs := by
  unfold bfound
  rw [bsearch_map, List.getElem?_map]
  cases xs[bsearch (fun x => f (g x)) xs]? <;> rfl
theorem enc_Cl (c : Cl) : ∃ v, Cl.enc c = [astr c.name, v] ∧ v.noL = true := by
  unfold Cl.enc
  cases c.loc with
  | none => exact ⟨_, rfl, rfl⟩
  | some p => exact ⟨_, rfl, rfl⟩
theorem clientName_fun (c : Cl) (s : ByteArray) : PFun Tryz.prog 252 [.agg c.enc, astr s] (aint (scmp c.name s)) := by
  obtain ⟨v, hv, hn⟩ := enc_Cl c
  rw [hv]
  refine PFun.of_J D_ok Tryz.func252 rfl (by decide) (le' rfl) fun H E QF hF => ?_
  change J _ E 9 _ _ _
  refine J_seq' fun K1 hK1 => J1 2 ?_
  simp [hn]
  refine hK1 _ (J_seq' fun K2 hK2 => J1 2 ?_)
  simp
  refine (scmp_fun _ _).call ?_
  simp
  refine hK2 _ (J_ret (hF _ _ ?_))
  simp [Tryz.f252]
def clientIs (w : ByteArray) (c : Client) : Bool := sEq c.name w
theorem clientIs_fun (c : Cl) (o : Tv.Oper) : PFun Tryz.prog 202 [.agg c.enc, .vp o.enc] (abool (clientIs o.text c.client)) := by
  obtain ⟨v, hv, hn⟩ := enc_Cl c
  rw [hv]
  refine PFun.of_J D_ok Tryz.func202 rfl (by decide) (le' rfl) fun H E QF hF => ?_
  change J _ E 9 _ _ _
  refine J_seq' fun K1 hK1 => J1 2 ?_
  simp [hn]
  refine hK1 _ (J_seq' fun K2 hK2 => J1 2 ?_)
  simp [Oper.enc, Msg.enc]
  refine hK2 _ (J_ret (hF _ _ ?_))
  simp [Tryz.f202, clientIs, Cl.client]
theorem numIs_fun (n : Int) (o : Tv.Oper) : PFun Tryz.prog 199 [aint n, .vp o.enc] (abool (n == o.n)) := by
  refine PFun.of_J D_ok Tryz.func199 rfl (by decide) (le' rfl) fun H E QF hF => ?_
  change J _ E 8 _ _ _
  refine J_seq' fun K1 hK1 => J0 ?_
  simp
  refine hK1 _ (J_seq' fun K2 hK2 => J0 ?_)
  simp [Oper.enc, Msg.enc]
  refine hK2 _ (J_ret (hF _ _ ?_))
  simp [Tryz.f199]
def byClient (name : ByteArray) (k : Client) : Int := scmp k.name name
def ClientQ (ks : List Client) (name : ByteArray) (H : Heap) (r : AE) (H' : Heap) : Prop := H' = H ∧ r = .ret (.tup [aint (bsearch (byClient name) ks : Nat), abool (bfound (byClient name) ks)])
theorem client_fun (N : TN) (t : Turn) (F H : Heap) (hl : t.core.clients.length ≤ 2000000) (name : ByteArray) (h : TAt N t F H) : PCalls Tryz.prog 197 [.p (.h N.x) 0, astr name] H (ClientQ t.core.clients name H) := by
  obtain ⟨cls, P, hO, hcl⟩ := h
  have hx : H N.x = some (xrow N t.out.length) := hO.get _ _ (by simp [objs])
  have hc : H N.c = some (crow N t.core cls.length) := hO.get _ _ (by simp [objs])
  have hL : H N.l = some (cls.flatMap Cl.enc) := hO.get _ _ (by simp [objs])
  have hlc : cls.length ≤ 2000000 := by rw [← hcl.1, List.length_map] at hl; exact hl
  refine PCalls.of_J' D_ok Tryz.func197 rfl (by decide) (le' rfl) fun E QF hF => ?_
  change J _ E 17 _ _ _
  refine J_seq' fun K1 hK1 => J0 ?_
  simp
  refine hK1 _ (J_seq' fun K2 hK2 => J0 ?_)
  simp [hx, hc, xrow, crow]
  refine (bs_Cl cls hlc name 252 [] rfl (fun c => scmp c.name name) (fun c _ => clientName_fun c name) H N.l hL).mono ?_
  rintro e H' ⟨rfl, hHe⟩
  obtain rfl : H = H' := hHe.symm
  simp
  refine hK2 _ (J_ret (hF _ _ ?_))
  simp [Tryz.f197, ClientQ]
  rw [← hcl.1, bsearch_map, bfound_map]
  exact ⟨rfl, rfl⟩
theorem Owns.set_l {N : TN} {t : Turn} {cls : List Cl} {P : List (Nat × List AV)} {F H H' : Heap} (hO : Owns (objs N t cls P) F H) (xs : List Cl) (k' : Nat) (hk : k' = N.l ∨ H k' = none) (h1 : H' N.c = some (crow { N with l := k' } t.core xs.length)) (h2 : H' k' = some (xs.flatMap Cl.enc)) (h3 : ∀ m, m ≠ N.c → m ≠ N.l → m ≠ k' → H' m = H m) : Owns (objs { N with l := k' } t xs P) F H' := by
  have hc : H N.c = some (crow N t.core cls.length) := hO.get _ _ (by simp [objs])
  have hne := objs_ne hO
  have hkc : k' ≠ N.c := by
    rcases hk with rfl | hk
    · exact fun e => by simp [e] at hne
    · rintro rfl; rw [hc] at hk; cases hk
  have s1 := Owns.replace (pre := [(N.x, xrow N t.out.length), (N.c, crow N t.core cls.length), (N.q, t.core.queues.flatMap Queue.enc), (N.b, t.core.binds.flatMap Bind.enc), (N.s, t.core.subs.flatMap Sub.enc), (N.k, t.core.kept.flatMap Msg.enc)]) (n := N.l) (cs := cls.flatMap Cl.enc) hO (H' := fun m => if m = N.c then H m else H' m) (n' := k') (cs' := xs.flatMap Cl.enc) hk (by simp [hkc, h2]) (fun m a b => by
    by_cases e : m = N.c
    · simp [e]
    · simp [e, h3 m e a b])
  have s2 := Owns.replace (pre := [(N.x, xrow N t.out.length)]) s1 (H' := H') (n' := N.c) (cs' := crow { N with l := k' } t.core xs.length) (.inl rfl) h1 (fun m a b => by simp [a])
  simpa [objs, xrow, crow] using s2
theorem row_l {N : TN} {t : Turn} {cls : List Cl} {P : List (Nat × List AV)} {F H H1 : Heap} {r : AE} {n : Nat} (hO : Owns (objs N t cls P) F H) (xs : List Cl) (hn : n = xs.length) (h : OwnRow 2 H N.l n (xs.flatMap Cl.enc) r H1) : ∃ k', r = .ret (.os (.h k') 2 0 xs.length) ∧ H1 N.x = some (xrow N t.out.length) ∧ H1 N.c = some (crow N t.core cls.length) ∧ Owns (objs { N with l := k' } t xs P) F (fun m => if m = N.c then some (crow { N with l := k' } t.core xs.length) else H1 m) := by
  subst hn
  obtain ⟨k', hk', rfl, hfr, hcl'⟩ := h
  have hx : H N.x = some (xrow N t.out.length) := hO.get _ _ (by simp [objs])
  have hc : H N.c = some (crow N t.core cls.length) := hO.get _ _ (by simp [objs])
  have hne := objs_ne hO
  have hkc : k' ≠ N.c := by
    rcases hk' with rfl | hk'
    · exact fun e => by simp [e] at hne
    · rintro rfl; rw [hc] at hk'; cases hk'
  have hkx : k' ≠ N.x := by
    rcases hk' with rfl | hk'
    · exact fun e => by simp [e] at hne
    · rintro rfl; rw [hx] at hk'; cases hk'
  refine ⟨k', rfl, ?_, ?_, hO.set_l (H' := _) xs k' hk' (by simp) (by simp [hkc, hcl']) (fun m a b c => by simp [a, hfr m b c])⟩
  · rw [hfr N.x hne.2.2.2.2.2.1 (Ne.symm hkx), hx]
  · rw [hfr N.c hne.2.2.2.2.2.2.2.2.2.2.2.1 (Ne.symm hkc), hc]
theorem objs_clients (N : TN) (t : Turn) (cls : List Cl) (P : List (Nat × List AV)) (ks : List Client) : objs N { t with core := { t.core with clients := ks } } cls P = objs N t cls P := rfl
theorem ClsAre.filter {ks : List Client} {cls : List Cl} {P : List (Nat × List AV)} (h : ClsAre ks cls P) (p : Client → Bool) : ClsAre (ks.filter p) (cls.filter fun c => p c.client) P := by
  obtain ⟨h1, h2, h3⟩ := h
  refine ⟨?_, fun c hc => h2 c (List.mem_filter.mp hc).1, ?_⟩
  · rw [← h1, List.filter_map]; rfl
  · exact (List.filter_sublist.filterMap Cl.loc).nodup h3
theorem ClsAre.erase {ks : List Client} {cls : List Cl} {P : List (Nat × List AV)} (h : ClsAre ks cls P) (i : Nat) : ClsAre (ks.eraseIdx i) (cls.eraseIdx i) P := by
  obtain ⟨h1, h2, h3⟩ := h
  refine ⟨?_, fun c hc => h2 c (List.mem_of_mem_eraseIdx hc), ?_⟩
  · rw [← h1]; simp [List.eraseIdx_eq_take_drop_succ, List.map_take, List.map_drop]
  · exact ((List.eraseIdx_sublist ..).filterMap Cl.loc).nodup h3
theorem ClsAre.ins {ks : List Client} {cls : List Cl} {P : List (Nat × List AV)} (h : ClsAre ks cls P) (i : Nat) (name : ByteArray) : ClsAre (insAt i ⟨name, []⟩ ks) (insAt i ⟨name, [], none⟩ cls) P := by
  obtain ⟨h1, h2, h3⟩ := h
  refine ⟨?_, fun c hc => ?_, ?_⟩
  · rw [← h1]; simp [insAt, Cl.client, List.map_take, List.map_drop]
  · rcases insAt_mem hc with rfl | hc
    · rfl
    · exact h2 c hc
  · have : (insAt i ⟨name, [], none⟩ cls).filterMap Cl.loc = cls.filterMap Cl.loc := by
      simp only [insAt, List.filterMap_append, List.filterMap_cons]
      rw [← List.filterMap_append, List.take_append_drop]
    rw [this]; exact h3
theorem ClsAre.setPk {ks : List Client} {A B : List Cl} {c c' : Cl} {P P' : List (Nat × List AV)} {k' : Nat} (h : ClsAre ks (A ++ c :: B) P) (hl : c'.loc = some k') (hP' : (k', c'.packets.flatMap Num.enc) ∈ P') (hkeep : ∀ q cs, c.loc ≠ some q → (q, cs) ∈ P → (q, cs) ∈ P') (hfresh : c.loc = some k' ∨ ∀ cs, (k', cs) ∉ P) : ClsAre (A.map Cl.client ++ c'.client :: B.map Cl.client) (A ++ c' :: B) P' := by
  obtain ⟨h1, h2, h3⟩ := h
  have hfm : ∀ d : Cl, (A ++ d :: B).filterMap Cl.loc = A.filterMap Cl.loc ++ (d.loc.toList ++ B.filterMap Cl.loc) := by
    intro d
    rw [List.filterMap_append, List.filterMap_cons]
    cases d.loc <;> rfl
  have hother : ∀ d, d ∈ A ∨ d ∈ B → ∀ q, d.loc = some q → c.loc ≠ some q := by
    intro d hd q hq hc
    rw [hfm, hc] at h3
    obtain ⟨n1, n2, n3⟩ := List.nodup_append.mp h3
    have n2' := List.nodup_cons.mp n2
    rcases hd with hd | hd
    · exact n3 q (List.mem_filterMap.mpr ⟨d, hd, hq⟩) q (by simp) rfl
    · exact n2'.1 (List.mem_filterMap.mpr ⟨d, hd, hq⟩)
  refine ⟨by simp, fun d hd => ?_, ?_⟩
  · have hd' : d = c' ∨ d ∈ A ∨ d ∈ B := by
      rcases List.mem_append.mp hd with hd | hd
      · exact .inr (.inl hd)
      · rcases List.mem_cons.mp hd with rfl | hd
        · exact .inl rfl
        · exact .inr (.inr hd)
    rcases hd' with rfl | hd'
    · unfold ClIs; rw [hl]; exact hP'
    · have hold := h2 d (by rcases hd' with hd' | hd' <;> simp [hd'])
      unfold ClIs at hold ⊢
      cases hq : d.loc with
      | none => rw [hq] at hold; exact hold
      | some q => rw [hq] at hold; exact hkeep q _ (hother d hd' q hq) hold
  · rw [hfm, hl]
    rcases hfresh with hf | hf
    · rw [hfm, hf] at h3; exact h3
    · have hnot : ∀ d, d ∈ A ∨ d ∈ B → d.loc ≠ some k' := by
        intro d hd hq
        have hold := h2 d (by rcases hd with hd | hd <;> simp [hd])
        unfold ClIs at hold
        rw [hq] at hold
        exact hf _ hold
      rw [hfm] at h3
      obtain ⟨n1, n2, n3⟩ := List.nodup_append.mp h3
      have n2' := (List.nodup_append.mp n2).2.1
      refine List.nodup_append.mpr ⟨n1, List.nodup_cons.mpr ⟨fun hx => ?_, n2'⟩, fun a ha b hb => ?_⟩
      · obtain ⟨d, hd, hq⟩ := List.mem_filterMap.mp hx
        exact hnot d (.inr hd) hq
      · rcases List.mem_cons.mp hb with rfl | hb
        · rintro rfl
          obtain ⟨d, hd, hq⟩ := List.mem_filterMap.mp ha
          exact hnot d (.inl hd) hq
        · exact n3 a ha b (List.mem_append.mpr (.inr hb))
theorem split_at {α : Type} {xs : List α} {i : Nat} {x : α} (h : xs[i]? = some x) : xs = xs.take i ++ x :: xs.drop (i + 1) := by
  rw [← drop_at h, List.take_append_drop]
theorem set_at {α : Type} {xs : List α} {i : Nat} {x : α} (h : xs[i]? = some x) (y : α) : xs.set i y = xs.take i ++ y :: xs.drop (i + 1) := by
  have hi : i < xs.length := by
    rcases Nat.lt_or_ge i xs.length with h' | h'
    · exact h'
    · rw [List.getElem?_eq_none h'] at h; cases h
  rw [List.set_eq_take_append_cons_drop, if_pos hi]
theorem Owns.pk {N : TN} {t : Turn} {cls : List Cl} {P : List (Nat × List AV)} {F H H' : Heap} (hO : Owns (objs N t cls P) F H) (hcl : ClsAre t.core.clients cls P) {i : Nat} {c : Cl} (hi : cls[i]? = some c) (ps : List Int) (k' : Nat) (hk : c.loc = some k' ∨ H k' = none) (h1 : H' k' = some (ps.flatMap Num.enc)) (h2 : H' N.l = some ((cls.set i ⟨c.name, ps, some k'⟩).flatMap Cl.enc)) (h3 : ∀ m, m ≠ N.l → c.loc ≠ some m → m ≠ k' → H' m = H m) : ∃ P', Owns (objs N t (cls.set i ⟨c.name, ps, some k'⟩) P') F H' ∧ ClsAre (t.core.clients.set i ⟨c.name, ps⟩) (cls.set i ⟨c.name, ps, some k'⟩) P' := by
  have hL : H N.l = some (cls.flatMap Cl.enc) := hO.get _ _ (by simp [objs])
  have hcs := split_at hi
  have hset := set_at hi (⟨c.name, ps, some k'⟩ : Cl)
  have hcl2 := hcl
  rw [hcs] at hcl2
  have hck : (cls.take i).map Cl.client ++ Cl.client ⟨c.name, ps, some k'⟩ :: (cls.drop (i + 1)).map Cl.client = t.core.clients.set i ⟨c.name, ps⟩ := by
    rw [← hcl.1, set_at (x := c.client) (by rw [List.getElem?_map, hi]; rfl), List.map_take, List.map_drop]; rfl
  have hlen : (cls.set i ⟨c.name, ps, some k'⟩).length = cls.length := List.length_set
  have hPn : ∀ q cs, (q, cs) ∈ P → q ≠ N.l := by
    intro q cs hq e
    have := hO.1
    simp only [objs, List.map_cons, List.nodup_cons, List.mem_cons, not_or] at this
    exact this.2.2.2.2.2.2.1.2 (e ▸ List.mem_map_of_mem (f := Prod.fst) hq)
  have hPH : ∀ q cs, (q, cs) ∈ P → H q = some cs := fun q cs hq => hO.get q cs (by simp [objs, hq])
  have hkl : k' ≠ N.l := by
    rcases hk with hk | hk
    · have := hcl.2.1 c (List.mem_of_getElem? hi)
      unfold ClIs at this
      rw [hk] at this
      exact hPn _ _ this
    · rintro rfl; rw [hL] at hk; cases hk
  cases hloc : c.loc with
  | none =>
    rw [hloc] at hk h3
    have hk' : H k' = none := by rcases hk with hk | hk; · cases hk
                                 · exact hk
    refine ⟨P ++ [(k', ps.flatMap Num.enc)], ?_, ?_⟩
    · have s1 := Owns.replace (pre := [(N.x, xrow N t.out.length), (N.c, crow N t.core cls.length), (N.q, t.core.queues.flatMap Queue.enc), (N.b, t.core.binds.flatMap Bind.enc), (N.s, t.core.subs.flatMap Sub.enc), (N.k, t.core.kept.flatMap Msg.enc)]) (n := N.l) (cs := cls.flatMap Cl.enc) hO (H' := fun m => if m = k' then none else H' m) (n' := N.l) (cs' := (cls.set i ⟨c.name, ps, some k'⟩).flatMap Cl.enc) (.inl rfl) (by simp [Ne.symm hkl, h2]) (fun m a b => by
        by_cases e : m = k'
        · simp [e, hk']
        · simp [e, h3 m a (by simp) e])
      obtain ⟨a1, a2, a3⟩ := s1
      have hnew : ∀ e ∈ objs N t (cls.set i ⟨c.name, ps, some k'⟩) P, e.1 ≠ k' := by
        intro e he hek
        have := a2 e (by simpa [objs, hlen] using he)
        simp [hek] at this
      have a1' : ((objs N t (cls.set i ⟨c.name, ps, some k'⟩) P).map (·.1)).Nodup := by simpa [objs, hlen] using a1
      have happ : objs N t (cls.set i ⟨c.name, ps, some k'⟩) (P ++ [(k', ps.flatMap Num.enc)]) = objs N t (cls.set i ⟨c.name, ps, some k'⟩) P ++ [(k', ps.flatMap Num.enc)] := by simp [objs]
      rw [happ]
      refine ⟨?_, ?_, ?_⟩
      · rw [List.map_append]
        refine List.nodup_append.mpr ⟨a1', by simp, fun a ha b hb => ?_⟩
        simp at hb
        subst hb
        obtain ⟨e, he, rfl⟩ := List.mem_map.mp ha
        exact hnew e he
      · intro e he
        rcases List.mem_append.mp he with he | he
        · have := a2 e (by simpa [objs, hlen] using he)
          simpa [hnew e he] using this
        · simp at he; subst he; exact h1
      · intro m cs hm
        obtain ⟨b1, b2⟩ := a3 m cs hm
        have hmk : m ≠ k' := by rintro rfl; simp at b2
        refine ⟨fun hx => ?_, by simpa [hmk] using b2⟩
        rw [List.map_append] at hx
        rcases List.mem_append.mp hx with hx | hx
        · exact b1 (by simpa [objs, hlen] using hx)
        · simp at hx; exact hmk hx
    · show ClsAre (t.core.clients.set i ⟨c.name, ps⟩) _ _
      rw [← hck, hset]
      refine ClsAre.setPk hcl2 rfl (by simp) (fun q cs _ hq => by simp [hq]) (.inr fun cs hq => ?_)
      rw [hPH k' cs hq] at hk'; cases hk'
  | some p =>
    rw [hloc] at hk h3
    have hp := hcl.2.1 c (List.mem_of_getElem? hi)
    unfold ClIs at hp
    rw [hloc] at hp
    simp only at hp
    obtain ⟨pre, post, hP⟩ := List.append_of_mem hp
    have hk' : k' = p ∨ H k' = none := by rcases hk with hk | hk; · left; cases hk; rfl
                                          · exact .inr hk
    have hpl : p ≠ N.l := hPn p _ hp
    refine ⟨pre ++ (k', ps.flatMap Num.enc) :: post, ?_, ?_⟩
    · have hO2 := hO
      rw [hP] at hO2
      have s1 := Owns.replace (pre := [(N.x, xrow N t.out.length), (N.c, crow N t.core cls.length), (N.q, t.core.queues.flatMap Queue.enc), (N.b, t.core.binds.flatMap Bind.enc), (N.s, t.core.subs.flatMap Sub.enc), (N.k, t.core.kept.flatMap Msg.enc), (N.l, cls.flatMap Cl.enc), (N.o, t.out.flatMap Out.enc)] ++ pre) (n := p) (cs := c.packets.flatMap Num.enc) (post := post) (by simpa [objs] using hO2) (H' := fun m => if m = N.l then H m else H' m) (n' := k') (cs' := ps.flatMap Num.enc) hk' (by simp [hkl, h1]) (fun m a b => by
        by_cases e : m = N.l
        · simp [e]
        · simp [e, h3 m e (fun h => a (by cases h; rfl)) b])
      have s2 := Owns.replace (pre := [(N.x, xrow N t.out.length), (N.c, crow N t.core cls.length), (N.q, t.core.queues.flatMap Queue.enc), (N.b, t.core.binds.flatMap Bind.enc), (N.s, t.core.subs.flatMap Sub.enc), (N.k, t.core.kept.flatMap Msg.enc)]) (n := N.l) (cs := cls.flatMap Cl.enc) (post := (N.o, t.out.flatMap Out.enc) :: (pre ++ (k', ps.flatMap Num.enc) :: post)) (by simpa using s1) (H' := H') (n' := N.l) (cs' := (cls.set i ⟨c.name, ps, some k'⟩).flatMap Cl.enc) (.inl rfl) h2 (fun m a b => by simp [a])
      simpa [objs, hlen] using s2
    · show ClsAre (t.core.clients.set i ⟨c.name, ps⟩) _ _
      rw [← hck, hset]
      refine ClsAre.setPk hcl2 rfl (by simp) (fun q cs hne hq => ?_) ?_
      · rw [hP] at hq
        rcases List.mem_append.mp hq with hq | hq
        · exact List.mem_append.mpr (.inl hq)
        · rcases List.mem_cons.mp hq with hq | hq
          · cases hq; exact absurd hloc hne
          · exact List.mem_append.mpr (.inr (List.mem_cons_of_mem _ hq))
      · rcases hk' with rfl | hk'
        · exact .inl hloc
        · refine .inr fun cs hq => ?_
          rw [hPH k' cs hq] at hk'; cases hk'
theorem Cl_set {cls : List Cl} {i : Nat} {c : Cl} (h : cls[i]? = some c) (ps : List Int) (k' n : Nat) (hn : n = ps.length) : (cls.flatMap Cl.enc).take (i * 2 + 1) ++ AV.os (.h k') 1 0 n :: (cls.flatMap Cl.enc).drop (i * 2 + 1 + 1) = (cls.set i ⟨c.name, ps, some k'⟩).flatMap Cl.enc := by
  subst hn
  have hi : i < cls.length := by
    rcases Nat.lt_or_ge i cls.length with h' | h'
    · exact h'
    · rw [List.getElem?_eq_none h'] at h; cases h
  rw [flat_set len_Cl _ _ _ hi]
  have hat := at_Cl cls h
  have h0 : (cls.flatMap Cl.enc)[i * 2]? = some (astr c.name) := by
    have : ((cls.flatMap Cl.enc).drop (i * 2)).take 2 = Cl.enc c := hat
    have h2 : (((cls.flatMap Cl.enc).drop (i * 2)).take 2)[0]? = some (astr c.name) := by rw [this]; rfl
    simpa [List.getElem?_take, List.getElem?_drop] using h2
  rw [List.take_add_one, h0]
  simp [Cl.enc]
end
section
attribute [local simp] plainOp Heap.put flen_Cl noLLf_Cl killf_Cl D_36 D_42 D_33 D_50 D_77 D_37 D_24 D_25 D_26 D_27 D_28 D_87 D_30 D_54 D_46 D_89 D_105 D_103 D_102 D_35 D_101 D_80 D_118 D_124 D_121 D_31 D_257 D_244 D_131 D_130
attribute [local simp ↓] evTsR evQsh evQh
attribute [-simp] List.length_flatMap
def forgetT (o : Tv.Oper) (t : Turn) : Except Int Turn :=
  if !wordOk o.text then .error 31 else
  .ok { t with core := { t.core with clients := t.core.clients.filter fun k => !clientIs o.text k } }
theorem forgetT_fun (N : TN) (t : Turn) (o : Tv.Oper) (F H : Heap) (hf : CFit t.core) (hof : OFit o) (h : TAt N t F H) : PCalls Tryz.prog 124 [.p (.h N.x) 0, .agg o.enc] H (TurnQ N F (forgetT o t)) := by
  have hkeep := h.keeps
  have h0 := h
  obtain ⟨cls, P, hO, hcl⟩ := h0
  have hx : H N.x = some (xrow N t.out.length) := hO.get _ _ (by simp [objs])
  have hc : H N.c = some (crow N t.core cls.length) := hO.get _ _ (by simp [objs])
  have hL : H N.l = some (cls.flatMap Cl.enc) := hO.get _ _ (by simp [objs])
  have hlc : cls.length ≤ 2000000 := by have := hf.nc; rw [← hcl.1, List.length_map] at this; exact this
  refine PCalls.of_J' D_ok Tryz.func124 rfl (by decide) (le' rfl) fun E QF hF => ?_
  change J _ E 23 _ _ _
  refine J_seq' fun K1 hK1 => J1 3 ?_
  simp [Oper.enc, Msg.enc]
  refine hK1 _ (J_seq' fun K2 hK2 => J1 3 ?_)
  simp
  refine (name_fun _ (by have := hof.t; omega)).call ?_
  rcases Bool.eq_false_or_eq_true (wordOk o.text) with hw | hw
  rotate_left
  · rw [hw]
    simp
    refine unless_ff 31 (hF _ _ ?_)
    simp [forgetT, hw, stop]
    exact TurnQ.err hkeep
  rw [hw]
  simp
  refine unless_tt 31 fun v => ?_
  simp
  refine hK2 _ (J_has (T := [(0, .p (.h N.x) 0), (3, .vp o.enc)]) (L := []) (H := H) ⟨by simp [Oper.enc, Msg.enc], by simp, by simp⟩ ?_)
  refine D1 3 [0,1,2,3,4,5,6,7,8,9,10,11,13,14] [12,15] (fun t => match t with | 12 => [0,1,2,3,13,14] | _ => []) rfl (by decide) (by decide) ?_
  simp [hx, hc, xrow, crow, noLL_Oper]
  refine (delf_Cl cls hlc 202 [.vp o.enc] (by simp [noLL_Oper]) (fun c => clientIs o.text c.client) (fun c _ => clientIs_fun c o) H N.l hL).mono ?_
  rintro r H1 hrow
  obtain ⟨k', rfl, hx1, hc1, hO1⟩ := row_l hO _ rfl hrow
  simp [hc1, hx1, xrow, crow]
  refine ⟨⟨True, _, ⟨trivial, rfl⟩, trivial, rfl⟩, ?_⟩
  refine hF _ _ ?_
  simp [Tryz.f124, TurnQ, forgetT, hw]
  refine ⟨{ N with l := k' }, rfl, rfl, _, P, ?_, hcl.filter (fun k => !clientIs o.text k)⟩
  rw [objs_clients]
  simpa [crow] using hO1
def leave (t : Turn) (i : Nat) (name : ByteArray) (ps : List Int) : Except Int Turn :=
  if ps.length = 0 then .ok { t with core := { t.core with clients := t.core.clients.eraseIdx i } }
  else .ok { t with core := { t.core with clients := t.core.clients.set i ⟨name, ps⟩ } }
def releaseT (o : Tv.Oper) (t : Turn) : Except Int Turn :=
  if !wordOk o.text then .error 31 else
  if bfound (byClient o.text) t.core.clients = false then .ok t else
  match t.core.clients[bsearch (byClient o.text) t.core.clients]? with
  | none => .ok t
  | some k =>
    leave t (bsearch (byClient o.text) t.core.clients) k.name (k.packets.filter fun n => !(n == o.n))
theorem bfound_at {α : Type} {f : α → Int} {xs : List α} (h : bfound f xs = true) : ∃ x, xs[bsearch f xs]? = some x ∧ f x = 0 ∧ bsearch f xs < xs.length := by
  unfold bfound at h
  split at h
  · rename_i x hx
    refine ⟨x, hx, by simpa using h, ?_⟩
    rcases Nat.lt_or_ge (bsearch f xs) xs.length with h' | h'
    · exact h'
    · rw [List.getElem?_eq_none h'] at hx; cases hx
  · cases h
theorem releaseT_fun (N : TN) (t : Turn) (o : Tv.Oper) (F H : Heap) (hf : CFit t.core) (hof : OFit o) (hne : ∀ k ∈ t.core.clients, k.packets ≠ []) (h : TAt N t F H) : PCalls Tryz.prog 123 [.p (.h N.x) 0, .agg o.enc] H (TurnQ N F (releaseT o t)) := by
  have hkeep := h.keeps
  have h0 := h
  obtain ⟨cls, P, hO, hcl⟩ := h0
  have hx : H N.x = some (xrow N t.out.length) := hO.get _ _ (by simp [objs])
  have hc : H N.c = some (crow N t.core cls.length) := hO.get _ _ (by simp [objs])
  have hL : H N.l = some (cls.flatMap Cl.enc) := hO.get _ _ (by simp [objs])
  have hlc : cls.length ≤ 2000000 := by have := hf.nc; rw [← hcl.1, List.length_map] at this; exact this
  refine PCalls.of_J' D_ok Tryz.func123 rfl (by decide) (le' rfl) fun E QF hF => ?_
  change J _ E 61 _ _ _
  refine J_seq' fun K1 hK1 => J1 3 ?_
  simp [Oper.enc, Msg.enc]
  refine hK1 _ (J_seq' fun K2 hK2 => J1 3 ?_)
  simp
  refine (name_fun _ (by have := hof.t; omega)).call ?_
  rcases Bool.eq_false_or_eq_true (wordOk o.text) with hw | hw
  rotate_left
  · rw [hw]
    simp
    refine unless_ff 31 (hF _ _ ?_)
    simp [releaseT, hw, stop]
    exact TurnQ.err hkeep
  rw [hw]
  simp
  refine unless_tt 31 fun v => ?_
  simp
  refine hK2 _ (J_seq' fun K3 hK3 => J1 3 ?_)
  simp
  refine (client_fun N t F H hf.nc o.text h).mono ?_
  rintro r H' ⟨hHe, rfl⟩
  obtain rfl : H = H' := hHe.symm
  simp
  refine hK3 _ (J_seq' fun K4 hK4 => J_seq' fun K5 hK5 => J1 3 ?_)
  have hres : releaseT o t = if bfound (byClient o.text) t.core.clients = false then .ok t else
      match t.core.clients[bsearch (byClient o.text) t.core.clients]? with
      | none => .ok t
      | some k =>
        leave t (bsearch (byClient o.text) t.core.clients) k.name (k.packets.filter fun n => !(n == o.n)) := by
    simp only [releaseT, hw]
    rw [if_neg (by simp)]
  rw [hres] at hF
  rcases Bool.eq_false_or_eq_true (bfound (byClient o.text) t.core.clients) with hb | hb
  rotate_left
  · rw [hb]
    simp
    refine hK5 _ (J_cond rfl (fun hd => ?_) fun hd => by simp at hd)
    refine J_ret (hF _ _ ?_)
    rw [if_pos hb]
    simp [Tryz.f123, TurnQ]
    exact ⟨N, rfl, rfl, h⟩
  obtain ⟨k0, hk0, hk1, hi⟩ := bfound_at hb
  rw [if_neg (by simp [hb]), hk0] at hF
  generalize bsearch (byClient o.text) t.core.clients = i at hk0 hi hF ⊢
  have hci : ∃ c : Cl, cls[i]? = some c ∧ c.client = k0 := by
    rw [← hcl.1, List.getElem?_map] at hk0
    cases hq : cls[i]? with
    | none => rw [hq] at hk0; cases hk0
    | some c => rw [hq] at hk0; exact ⟨c, rfl, by simpa using hk0⟩
  obtain ⟨c, hcc, rfl⟩ := hci
  have hil : i < cls.length := by rw [← hcl.1, List.length_map] at hi; exact hi
  have hnec : c.packets ≠ [] := hne c.client (by rw [← hcl.1]; exact List.mem_map_of_mem (List.mem_of_getElem? hcc))
  have hIs := hcl.2.1 c (List.mem_of_getElem? hcc)
  unfold ClIs at hIs
  cases hloc : c.loc with
  | none => rw [hloc] at hIs; exact absurd hIs hnec
  | some p =>
  rw [hloc] at hIs
  simp only at hIs
  have hp : H p = some (c.packets.flatMap Num.enc) := hO.get _ _ (by simp [objs, hIs])
  have hpl : c.packets.length ≤ 2000000 := (hf.c c.client (by rw [← hcl.1]; exact List.mem_map_of_mem (List.mem_of_getElem? hcc))).1
  have hat := at_Cl cls hcc
  have hat1 := cell_at hat 1 (.os (.h p) 1 0 c.packets.length) (by simp [Cl.enc, hloc])
  have hpN : p ≠ N.x ∧ p ≠ N.c ∧ p ≠ N.l := by
    have := hO.1
    simp only [objs, List.map_cons, List.nodup_cons, List.mem_cons, not_or] at this
    have hm : p ∈ P.map (·.1) := List.mem_map_of_mem (f := Prod.fst) hIs
    refine ⟨?_, ?_, ?_⟩ <;> rintro rfl
    · exact this.1.2.2.2.2.2.2.2 hm
    · exact this.2.1.2.2.2.2.2.2 hm
    · exact this.2.2.2.2.2.2.1.2 hm
  have hneN := objs_ne hO
  rw [hb]
  simp
  refine hK5 _ (J_cond rfl (fun hd => by simp at hd) fun hd => J_skip ?_)
  simp only [thenQ]
  refine hK4 _ (J_seq' fun K6 hK6 => J1 3 ?_)
  simp [hx, hc, xrow, crow]
  repeat refine And.intro (by omega) ?_
  refine hK6 _ (J_has (T := [(0, .p (.h N.x) 0), (3, .vp o.enc), (4, aint i), (6, .p (.h N.l) (i * 2))]) (L := []) (H := H) ⟨by simp [Oper.enc, Msg.enc], by simp, by simp⟩ ?_)
  refine J_seq' fun K7 hK7 => J1 3 ?_
  simp [hL, hat1, noLL_Oper]
  repeat refine And.intro (by omega) ?_
  refine (delf_Num c.packets hpl 199 [.vp o.enc] (by simp [noLL_Oper]) (fun n => n == o.n) (fun n _ => numIs_fun n o) H p hp).mono ?_
  rintro r H1 ⟨k', hk', rfl, hfr, hcells⟩
  have hk'l : k' ≠ N.l := by
    rcases hk' with rfl | hk'
    · exact hpN.2.2
    · rintro rfl; rw [hL] at hk'; cases hk'
  have hL1 : H1 N.l = some (cls.flatMap Cl.enc) := by rw [hfr N.l (Ne.symm hpN.2.2) (Ne.symm hk'l), hL]
  simp [hL1]
  refine And.intro (by omega) ?_
  replace hcells : H1 k' = some ((c.packets.filter fun n => !(n == o.n)).flatMap Num.enc) := hcells
  simp only [Cl.client] at hF
  generalize (c.packets.filter fun n => !(n == o.n)) = ps at hF hcells ⊢
  obtain ⟨H2, hH2⟩ : ∃ H2 : Heap, H2 = fun m => if m = N.l then some ((cls.set i ⟨c.name, ps, some k'⟩).flatMap Cl.enc) else H1 m := ⟨_, rfl⟩
  obtain ⟨P2, hO2, hcl2⟩ := Owns.pk hO hcl hcc ps k' (H' := H2) (by rcases hk' with rfl | hk'; · exact .inl hloc
                                                                    · exact .inr hk') (by rw [hH2]; simp [hk'l, hcells]) (by rw [hH2]; simp) (fun m a b d => by
    rw [hH2]
    simp only [if_neg a]
    exact hfr m (fun e => b (by rw [hloc, e])) d)
  have hx2 : H2 N.x = some (xrow N t.out.length) := hO2.get _ _ (by simp [objs])
  have hc2 : H2 N.c = some (crow N t.core cls.length) := hO2.get _ _ (by simp [objs])
  have hL2 : H2 N.l = some ((cls.set i ⟨c.name, ps, some k'⟩).flatMap Cl.enc) := hO2.get _ _ (by simp [objs])
  have hil2 : i < (cls.set i ⟨c.name, ps, some k'⟩).length := by simpa using hil
  have hlc2 : (cls.set i ⟨c.name, ps, some k'⟩).length ≤ 2000000 := by simpa using hlc
  have hat2 := cell_at (at_Cl (cls.set i ⟨c.name, ps, some k'⟩) (List.getElem?_set_self hil)) 1 (.os (.h k') 1 0 ps.length) rfl
  refine hK7 _ (J_has (T := [(0, .p (.h N.x) 0), (3, .vp o.enc), (4, aint i), (6, .p (.h N.l) (i * 2))]) (L := []) (H := H2) ⟨by simp, by simp, by
    rw [hH2, ← Cl_set hcc ps k' ps.length rfl]⟩ ?_)
  have hclen : (cls.set i ⟨c.name, ps, some k'⟩).length = cls.length := List.length_set
  generalize cls.set i ⟨c.name, ps, some k'⟩ = cls2 at hO2 hcl2 hL2 hil2 hlc2 hat2 hclen
  refine J_seq' fun K8 hK8 => J1 3 ?_
  simp [hL2, hat2]
  repeat refine And.intro (by omega) ?_
  refine hK8 _ (J_cond rfl (fun hd => ?_) fun hd => J_skip ?_)
  · have hp0 : ps.length = 0 := by simp at hd; simp [hd]
    rw [leave, if_pos hp0] at hF
    refine D1 3 [0,1,2,3,4,5,6,7,8,9,10,11,12,13,15,16] [14,17] (fun t => match t with | 14 => [0,1,2,3,15,16] | _ => []) rfl (by decide) (by decide) ?_
    rw [← hclen] at hc2
    simp [hx2, hc2, xrow, crow]
    have hwj : IntKind.i64.wrap ((i : Int) + 1) = (i : Int) + 1 := w64 (by omega) (by omega)
    rw [hwj]
    refine (del_Cl cls2 hlc2 i hil2 H2 N.l hL2).mono ?_
    rintro r H3 hrow
    obtain ⟨k3, rfl, hx3, hc3, hO3⟩ := row_l hO2 _ (by rw [List.length_eraseIdx, if_pos hil2]) hrow
    simp [hc3, hx3, xrow, crow]
    refine ⟨⟨True, _, ⟨trivial, rfl⟩, trivial, rfl⟩, ?_⟩
    refine hF _ _ ?_
    simp [Tryz.f123, TurnQ]
    refine ⟨{ N with l := k3 }, rfl, rfl, cls2.eraseIdx i, P2, ?_, ?_⟩
    · rw [objs_clients]
      simpa [crow, List.length_eraseIdx, hil2] using hO3
    · have := hcl2.erase i
      rw [List.eraseIdx_set_eq] at this
      exact this
  · have hp0 : ¬ ps.length = 0 := by
      intro e
      simp [List.length_eq_zero_iff.mp e] at hd
    rw [leave, if_neg hp0] at hF
    refine hF _ _ ?_
    simp [Tryz.f123, TurnQ]
    refine ⟨N, rfl, rfl, cls2, P2, ?_, hcl2⟩
    rw [objs_clients]
    exact hO2
end
section
structure HOk (tag seq : Int) (h : Hold) : Prop where
  tag1 : 1 ≤ h.tag
  tag2 : h.tag ≤ tag
  conn1 : 0 ≤ h.conn
  conn2 : h.conn < 8
  sub1 : 0 ≤ h.sub
  sub2 : h.sub ≤ 1099511627776
  seq1 : 1 ≤ h.item.seq
  seq2 : h.item.seq ≤ seq
  msg : msgOk h.item.msg = true
structure IOk (seq : Int) (x : Itm) : Prop where
  seq1 : 1 ≤ x.seq
  seq2 : x.seq ≤ seq
  msg : msgOk x.msg = true
structure QOk (q : Queue) : Prop where
  name : wordOk q.name = true
  dep1 : 1 ≤ q.depth
  dep2 : q.depth ≤ 64
  seq1 : 0 ≤ q.seq
  seq2 : q.seq ≤ 1099511627776
  tag1 : 0 ≤ q.tag
  tag2 : q.tag ≤ 1099511627776
  len : ((q.items.length + q.held.length : Nat) : Int) ≤ q.depth
  items : q.items.Pairwise fun x y => x.seq < y.seq
  ib : ∀ x ∈ q.items, IOk q.seq x
  held : q.held.Pairwise fun x y => x.tag < y.tag
  hb : ∀ h ∈ q.held, HOk q.tag q.seq h
  apart : ∀ h ∈ q.held, ∀ x ∈ q.items, x.seq ≠ h.item.seq
  uniq : q.held.Pairwise fun a b => a.item.seq ≠ b.item.seq
theorem itemsOk_iff (seq : Int) : ∀ (xs : List Itm) (last : Int), itemsOk seq last xs = true ↔ (xs.Pairwise fun x y => x.seq < y.seq) ∧ ∀ x ∈ xs, last < x.seq ∧ x.seq ≤ seq ∧ msgOk x.msg = true
  | [], last => by simp [itemsOk]
  | x :: xs, last => by
    have ih := itemsOk_iff seq xs x.seq
    simp only [itemsOk, itemBad, Bool.and_eq_true, Bool.not_eq_true', Bool.or_eq_false_iff, decide_eq_false_iff_not, Bool.not_eq_false', ih, List.pairwise_cons, List.forall_mem_cons]
    constructor
    · rintro ⟨⟨⟨a, b⟩, d⟩, e, f⟩
      exact ⟨⟨fun y hy => (f y hy).1, e⟩, ⟨by omega, by omega, d⟩, fun y hy => ⟨by have := (f y hy).1; omega, (f y hy).2⟩⟩
    · rintro ⟨⟨a, b⟩, ⟨d, e, f⟩, g⟩
      exact ⟨⟨⟨by omega, by omega⟩, f⟩, b, fun y hy => ⟨a y hy, (g y hy).2⟩⟩
theorem heldOk_iff (tag seq : Int) : ∀ (hs : List Hold) (last : Int) (seen : List Int), heldOk tag seq last seen hs = true ↔ (hs.Pairwise fun x y => x.tag < y.tag) ∧ (hs.Pairwise fun a b => a.item.seq ≠ b.item.seq) ∧ ∀ h ∈ hs, last < h.tag ∧ h.tag ≤ tag ∧ 0 ≤ h.conn ∧ h.conn < 8 ∧ 0 ≤ h.sub ∧ h.sub ≤ 1099511627776 ∧ 1 ≤ h.item.seq ∧ h.item.seq ≤ seq ∧ msgOk h.item.msg = true ∧ h.item.seq ∉ seen
  | [], last, seen => by simp [heldOk]
  | h :: hs, last, seen => by
    have ih := heldOk_iff tag seq hs h.tag (seen ++ [h.item.seq])
    simp only [heldOk, heldBad, Bool.and_eq_true, Bool.not_eq_true', Bool.or_eq_false_iff, decide_eq_false_iff_not, Bool.not_eq_false', ih, List.pairwise_cons, List.forall_mem_cons, List.mem_append, List.mem_singleton, not_or]
    constructor
    · rintro ⟨⟨⟨⟨⟨⟨⟨⟨⟨⟨a1, a2⟩, a3⟩, a4⟩, a5⟩, a6⟩, a7⟩, a8⟩, a9⟩, a10⟩, b1, b2, b3⟩
      exact ⟨⟨fun y hy => (b3 y hy).1, b1⟩, ⟨fun y hy => Ne.symm (b3 y hy).2.2.2.2.2.2.2.2.2.2, b2⟩, ⟨by omega, by omega, by omega, by omega, by omega, by omega, by omega, by omega, a9, a10⟩,
        fun y hy => by
          obtain ⟨c1, c2, c3, c4, c5, c6, c7, c8, c9, c10, c11⟩ := b3 y hy
          exact ⟨by omega, c2, c3, c4, c5, c6, c7, c8, c9, c10⟩⟩
    · rintro ⟨⟨a1, a2⟩, ⟨b1, b2⟩, ⟨c1, c2, c3, c4, c5, c6, c7, c8, c9, c10⟩, d⟩
      exact ⟨⟨⟨⟨⟨⟨⟨⟨⟨⟨by omega, by omega⟩, by omega⟩, by omega⟩, by omega⟩, by omega⟩, by omega⟩, by omega⟩, c9⟩, c10⟩, a2, b2, fun y hy => by
        obtain ⟨e1, e2, e3, e4, e5, e6, e7, e8, e9, e10⟩ := d y hy
        exact ⟨a1 y hy, e2, e3, e4, e5, e6, e7, e8, e9, e10, Ne.symm (b1 y hy)⟩⟩
theorem qGood_iff (q : Queue) : qGood q = true ↔ QOk q := by
  simp only [qGood, headBad, Bool.and_eq_true, Bool.not_eq_true', Bool.or_eq_false_iff, decide_eq_false_iff_not, Bool.not_eq_false', itemsOk_iff, heldOk_iff]
  constructor
  · rintro ⟨⟨⟨⟨⟨⟨⟨⟨⟨a1, a2⟩, a3⟩, a4⟩, a5⟩, a6⟩, a7⟩, a8⟩, b1, b2⟩, c1, c2, c3⟩
    refine ⟨a1, by omega, by omega, by omega, by omega, by omega, by omega, by omega, b1, fun x hx => ?_, c1, fun h hh => ?_, fun h hh x hx e => ?_, c2⟩
    · obtain ⟨d1, d2, d3⟩ := b2 x hx
      exact ⟨by omega, d2, d3⟩
    · obtain ⟨d1, d2, d3, d4, d5, d6, d7, d8, d9, d10⟩ := c3 h hh
      exact ⟨by omega, d2, d3, d4, d5, d6, d7, d8, d9⟩
    · exact (c3 h hh).2.2.2.2.2.2.2.2.2 (List.mem_map.mpr ⟨x, hx, e⟩)
  · intro h
    refine ⟨⟨⟨⟨⟨⟨⟨⟨⟨h.name, ?_⟩, ?_⟩, ?_⟩, ?_⟩, ?_⟩, ?_⟩, ?_⟩, h.items, fun x hx => ⟨?_, (h.ib x hx).seq2, (h.ib x hx).msg⟩⟩, h.held, h.uniq, fun y hy => ?_⟩
    · have := h.dep1; omega
    · have := h.dep2; omega
    · have := h.seq1; omega
    · have := h.seq2; omega
    · have := h.tag1; omega
    · have := h.tag2; omega
    · have := h.len; omega
    · have := (h.ib x hx).seq1; omega
    · have k := h.hb y hy
      refine ⟨by have := k.tag1; omega, k.tag2, k.conn1, k.conn2, k.sub1, k.sub2, k.seq1, k.seq2, k.msg, fun hm => ?_⟩
      obtain ⟨x, hx, e⟩ := List.mem_map.mp hm
      exact h.apart y hy x hx e
theorem QOk.good {q : Queue} (h : QOk q) : qGood q = true := (qGood_iff q).mpr h
theorem newQ_ok {s : ByteArray} {d : Bool} {n : Int} (h : (newQ s d n).2 = 0) : QOk (newQ s d n).1 ∧ (newQ s d n).1 = ⟨s, d, n, 0, 0, [], []⟩ := by
  unfold newQ at h ⊢
  split at h
  · simp at h
  · rename_i h1
    rw [if_neg h1]
    split at h
    · simp at h
    · rename_i h2
      rw [if_neg h2]
      exact ⟨⟨by simpa using h1, by show 1 ≤ n; omega, by show n ≤ 64; omega, by simp, by simp, by simp, by simp, by show (0 : Int) ≤ n; omega, by simp, by simp, by simp, by simp, by simp, by simp⟩, rfl⟩
theorem push_ok {q : Queue} {m : Msg} (hq : QOk q) (h : (push q m).2 = 0) : QOk (push q m).1 ∧ (push q m).1 = { q with seq := q.seq + 1, items := q.items ++ [⟨q.seq + 1, false, m⟩] } ∧ msgOk m = true := by
  unfold push at h ⊢
  split at h
  · simp at h
  rename_i h1
  rw [if_neg h1]
  split at h
  · simp at h
  rename_i h2
  rw [if_neg h2]
  split at h
  · simp at h
  rename_i h3
  rw [if_neg h3]
  have hm : msgOk m = true := by simpa using h2
  refine ⟨⟨hq.name, hq.dep1, hq.dep2, ?_, ?_, hq.tag1, hq.tag2, ?_, ?_, ?_, hq.held, ?_, ?_, hq.uniq⟩, rfl, hm⟩
  · have := hq.seq1; show 0 ≤ q.seq + 1; omega
  · show q.seq + 1 ≤ _; omega
  · show ((((q.items ++ [_]).length + q.held.length : Nat)) : Int) ≤ q.depth
    rw [List.length_append]; simp; omega
  · show List.Pairwise _ (q.items ++ [_])
    rw [List.pairwise_append]
    refine ⟨hq.items, by simp, fun x hx y hy => ?_⟩
    simp at hy; subst hy
    have := (hq.ib x hx).seq2
    show x.seq < q.seq + 1
    omega
  · intro x hx
    rcases List.mem_append.mp hx with hx | hx
    · have := hq.ib x hx
      exact ⟨this.seq1, by show x.seq ≤ q.seq + 1; have := this.seq2; omega, this.msg⟩
    · simp at hx; subst hx
      exact ⟨by show 1 ≤ q.seq + 1; have := hq.seq1; omega, by show q.seq + 1 ≤ q.seq + 1; omega, hm⟩
  · intro x hx
    have := hq.hb x hx
    exact ⟨this.tag1, this.tag2, this.conn1, this.conn2, this.sub1, this.sub2, this.seq1, by show x.item.seq ≤ q.seq + 1; have := this.seq2; omega, this.msg⟩
  · intro x hx y hy
    rcases List.mem_append.mp hy with hy | hy
    · exact hq.apart x hx y hy
    · simp at hy; subst hy
      have := (hq.hb x hx).seq2
      show q.seq + 1 ≠ x.item.seq
      omega
theorem take_ok {q : Queue} {c s : Int} {hold : Bool} (hq : QOk q) (h : (take q c s hold).2.2.2 = 0) : QOk (take q c s hold).1 := by
  unfold take at h ⊢
  split at h
  · simp at h
  rename_i h1
  rw [if_neg h1]
  have hb : takeBad q c s = false := by simpa using h1
  simp only [takeBad, Bool.or_eq_false_iff, decide_eq_false_iff_not, Bool.not_eq_false'] at hb
  obtain ⟨⟨⟨⟨⟨g1, g2⟩, g3⟩, g4⟩, g5⟩, g6⟩ := hb
  cases hi : q.items with
  | nil => rw [hi] at h; simp at h
  | cons x xs =>
    have hI := hq.items
    have hib := hq.ib
    have hap := hq.apart
    have hlen := hq.len
    rw [hi] at hI hib hap hlen
    obtain ⟨i1, i2⟩ := List.pairwise_cons.mp hI
    simp only [List.length_cons] at hlen
    simp only
    cases hold with
    | false =>
      simp only [Bool.false_eq_true, if_false]
      exact ⟨hq.name, hq.dep1, hq.dep2, hq.seq1, hq.seq2, hq.tag1, hq.tag2, by show ((xs.length + q.held.length : Nat) : Int) ≤ q.depth; omega, i2, fun y hy => hib y (List.mem_cons_of_mem _ hy), hq.held, hq.hb, fun z hz y hy => hap z hz y (List.mem_cons_of_mem _ hy), hq.uniq⟩
    | true =>
      simp only [if_true]
      have hx := hib x (List.mem_cons_self ..)
      refine ⟨hq.name, hq.dep1, hq.dep2, hq.seq1, hq.seq2, by show 0 ≤ q.tag + 1; have := hq.tag1; omega, by show q.tag + 1 ≤ _; omega, ?_, i2, fun y hy => hib y (List.mem_cons_of_mem _ hy), ?_, ?_, ?_, ?_⟩
      · show ((xs.length + (q.held ++ [_]).length : Nat) : Int) ≤ q.depth
        rw [List.length_append]; simp; omega
      · show List.Pairwise _ (q.held ++ [_])
        rw [List.pairwise_append]
        refine ⟨hq.held, by simp, fun y hy z hz => ?_⟩
        simp at hz; subst hz
        have := (hq.hb y hy).tag2
        show y.tag < q.tag + 1
        omega
      · intro y hy
        rcases List.mem_append.mp hy with hy | hy
        · have := hq.hb y hy
          exact ⟨this.tag1, by show y.tag ≤ q.tag + 1; have := this.tag2; omega, this.conn1, this.conn2, this.sub1, this.sub2, this.seq1, this.seq2, this.msg⟩
        · simp at hy; subst hy
          exact ⟨by show 1 ≤ q.tag + 1; have := hq.tag1; omega, by show q.tag + 1 ≤ q.tag + 1; omega, by show 0 ≤ c; omega, by show c < 8; omega, by show 0 ≤ s; omega, by show s ≤ _; omega, hx.seq1, hx.seq2, hx.msg⟩
      · intro z hz y hy
        rcases List.mem_append.mp hz with hz | hz
        · exact hap z hz y (List.mem_cons_of_mem _ hy)
        · simp at hz; subst hz
          have := i1 y hy
          show y.seq ≠ x.seq
          omega
      · show List.Pairwise _ (q.held ++ [_])
        rw [List.pairwise_append]
        refine ⟨hq.uniq, by simp, fun y hy z hz => ?_⟩
        simp at hz; subst hz
        exact Ne.symm (hap y hy x (List.mem_cons_self ..))
theorem drop_ok {q : Queue} {A B : List Hold} {h : Hold} (hq : QOk { q with held := A ++ h :: B }) : QOk { q with held := A ++ B } := by
  have hs : (A ++ B).Sublist (A ++ h :: B) := List.Sublist.append_left (List.sublist_cons_self ..) A
  have hlen := hq.len
  refine ⟨hq.name, hq.dep1, hq.dep2, hq.seq1, hq.seq2, hq.tag1, hq.tag2, ?_, hq.items, hq.ib, hq.held.sublist hs, fun y hy => hq.hb y (hs.subset hy), fun y hy => hq.apart y (hs.subset hy), hq.uniq.sublist hs⟩
  simp only [List.length_append, List.length_cons] at hlen ⊢
  omega
theorem insAt_iff {α : Type} {i : Nat} {y : α} {xs : List α} {z : α} : z ∈ insAt i y xs ↔ z = y ∨ z ∈ xs := by
  constructor
  · exact insAt_mem
  · unfold insAt
    rintro (rfl | h)
    · simp
    · rw [← List.take_append_drop i xs] at h
      rcases List.mem_append.mp h with h | h
      · exact List.mem_append.mpr (.inl h)
      · exact List.mem_append.mpr (.inr (List.mem_cons_of_mem _ h))
theorem up_seq {xs : List Itm} : Up icmp Itm.seq xs ↔ xs.Pairwise fun x y => x.seq < y.seq := by
  unfold Up
  constructor <;> intro h <;> refine h.imp ?_ <;> intro a b hab
  · unfold icmp at hab; split at hab
    · assumption
    · split at hab <;> omega
  · unfold icmp; rw [if_pos hab]; omega
theorem back_ok {q : Queue} {A B : List Hold} {h : Hold} (hq : QOk { q with held := A ++ h :: B }) : QOk (bk { q with held := A ++ B } h.item) := by
  have hd := drop_ok hq
  have hh : h ∈ A ++ h :: B := by simp
  have hb := hq.hb h hh
  have hne : ∀ x ∈ q.items, x.seq ≠ h.item.seq := hq.apart h hh
  have hlen := hq.len
  have hbl := bsearch_le (fun y : Itm => icmp y.seq h.item.seq) q.items
  unfold bk
  refine ⟨hq.name, hq.dep1, hq.dep2, hq.seq1, hq.seq2, hq.tag1, hq.tag2, ?_, ?_, ?_, hd.held, hd.hb, ?_, hd.uniq⟩
  · show (((insAt _ _ q.items).length + (A ++ B).length : Nat) : Int) ≤ q.depth
    rw [insAt_len hbl]
    simp only [List.length_append, List.length_cons] at hlen ⊢
    omega
  · rw [← up_seq]
    exact (up_seq.mpr hq.items).ins icmp_cmp _ { h.item with again := true } (fun x => rfl) (fun x hx e => hne x hx (icmp_cmp.eq _ _ e))
  · intro x hx
    rcases insAt_mem hx with rfl | hx
    · exact ⟨hb.seq1, hb.seq2, hb.msg⟩
    · exact hq.ib x hx
  · intro y hy x hx
    rcases insAt_mem hx with rfl | hx
    · have hu := hq.uniq
      have hy : y ∈ A ++ B := hy
      show h.item.seq ≠ y.item.seq
      rw [List.pairwise_append, List.pairwise_cons] at hu
      obtain ⟨u1, ⟨u2, u3⟩, u4⟩ := hu
      rcases List.mem_append.mp hy with hy | hy
      · exact Ne.symm (u4 y hy h (List.mem_cons_self ..))
      · exact u2 y hy
    · exact hd.apart y hy x hx
theorem settle_ok {q : Queue} {c tag : Int} {again : Bool} (hq : QOk q) (h : (settle q c tag again).2 = 0) : QOk (settle q c tag again).1 := by
  unfold settle at h ⊢
  rw [if_neg (by simp [hq.good])] at h ⊢
  rcases idx_spec (tagIs tag c) q.held with ⟨h1, _⟩ | ⟨i, x, h1, h2, _, _⟩
  · rw [h1] at h ⊢
    cases hh : q.held[(-1 : Int).toNat]? with
    | none => rw [hh] at h; simp at h
    | some y => rw [hh] at h; simp at h
  · rw [h1] at h ⊢
    simp only [Int.toNat_natCast, h2] at h ⊢
    rw [if_neg (by omega)] at h ⊢
    have hsp := split_at h2
    have hq' : QOk { q with held := q.held.take i ++ x :: q.held.drop (i + 1) } := by rw [← hsp]; exact hq
    have he : q.held.eraseIdx i = q.held.take i ++ q.held.drop (i + 1) := List.eraseIdx_eq_take_drop_succ ..
    simp only [he]
    cases again with
    | true => exact back_ok hq'
    | false => exact drop_ok hq'
theorem relFold_ok (c s : Int) : ∀ (hs : List Hold) (o : Queue), QOk { o with held := o.held ++ hs } → QOk (hs.foldl (relStep c s) o)
  | [], o, h => by simpa using h
  | x :: hs, o, h => by
    rw [List.foldl_cons]
    refine relFold_ok c s hs _ ?_
    unfold relStep
    split
    · exact back_ok h
    · simpa using h
theorem release_ok {q : Queue} {c s : Int} (hq : QOk q) : QOk (release q c s).1 ∧ (release q c s).2 = 0 := by
  unfold release
  rw [if_neg (by simp [hq.good])]
  exact ⟨relFold_ok c s q.held { q with held := [] } (by simpa using hq), rfl⟩
theorem expire_ok {q : Queue} {now : Int} (hq : QOk q) : QOk (expire q now).1 ∧ (expire q now).2 = 0 := by
  unfold expire
  rw [if_neg (by simp [hq.good])]
  refine ⟨⟨hq.name, hq.dep1, hq.dep2, hq.seq1, hq.seq2, hq.tag1, hq.tag2, ?_, hq.items.sublist List.filter_sublist, fun x hx => hq.ib x (List.mem_filter.mp hx).1, hq.held, hq.hb, fun y hy x hx => hq.apart y hy x (List.mem_filter.mp hx).1, hq.uniq⟩, rfl⟩
  have := hq.len
  have h2 : (q.items.filter fun x => !expd now x).length ≤ q.items.length := List.length_filter_le _ _
  show (((q.items.filter fun x => !expd now x).length + q.held.length : Nat) : Int) ≤ q.depth
  omega
theorem relStep_name (c s : Int) (o : Queue) (h : Hold) : (relStep c s o h).name = o.name ∧ (relStep c s o h).durable = o.durable ∧ (relStep c s o h).depth = o.depth ∧ (relStep c s o h).seq = o.seq ∧ (relStep c s o h).tag = o.tag := by
  unfold relStep bk
  split <;> exact ⟨rfl, rfl, rfl, rfl, rfl⟩
theorem relFold_name (c s : Int) : ∀ (hs : List Hold) (o : Queue), (hs.foldl (relStep c s) o).name = o.name ∧ (hs.foldl (relStep c s) o).durable = o.durable ∧ (hs.foldl (relStep c s) o).depth = o.depth ∧ (hs.foldl (relStep c s) o).seq = o.seq ∧ (hs.foldl (relStep c s) o).tag = o.tag
  | [], o => ⟨rfl, rfl, rfl, rfl, rfl⟩
  | x :: hs, o => by
    rw [List.foldl_cons]
    obtain ⟨a, b, d, e, f⟩ := relFold_name c s hs (relStep c s o x)
    obtain ⟨a', b', d', e', f'⟩ := relStep_name c s o x
    exact ⟨a.trans a', b.trans b', d.trans d', e.trans e', f.trans f'⟩
theorem release_name {q : Queue} {c s : Int} (hq : QOk q) : (release q c s).1.name = q.name ∧ (release q c s).1.seq = q.seq ∧ (release q c s).1.durable = q.durable ∧ (release q c s).1.depth = q.depth ∧ (release q c s).1.tag = q.tag := by
  unfold release
  rw [if_neg (by simp [hq.good])]
  obtain ⟨a, b, d, e, f⟩ := relFold_name c s q.held { q with held := [] }
  exact ⟨a, e, b, d, f⟩
theorem expire_name {q : Queue} {now : Int} (hq : QOk q) : (expire q now).1 = { q with items := q.items.filter fun x => !expd now x } := by
  unfold expire
  rw [if_neg (by simp [hq.good])]
theorem settle_name {q : Queue} {c tag : Int} {again : Bool} (hq : QOk q) (h : (settle q c tag again).2 = 0) : (settle q c tag again).1.name = q.name ∧ (settle q c tag again).1.seq = q.seq ∧ (settle q c tag again).1.durable = q.durable ∧ (settle q c tag again).1.depth = q.depth ∧ (settle q c tag again).1.tag = q.tag := by
  unfold settle at h ⊢
  rw [if_neg (by simp [hq.good])] at h ⊢
  cases hx : q.held[(idx (tagIs tag c) q.held).toNat]? with
  | none => rw [hx] at h; simp at h
  | some x =>
    rw [hx] at h
    simp only at h ⊢
    by_cases hn : idx (tagIs tag c) q.held < 0
    · rw [if_pos hn] at h; simp at h
    · rw [if_neg hn]
      cases again <;> exact ⟨rfl, rfl, rfl, rfl, rfl⟩
theorem take_name {q : Queue} {c s : Int} {hold : Bool} (h : (take q c s hold).2.2.2 = 0) : (take q c s hold).1.name = q.name ∧ (take q c s hold).1.seq = q.seq ∧ (take q c s hold).1.durable = q.durable ∧ (take q c s hold).1.depth = q.depth := by
  unfold take at h ⊢
  split at h
  · simp at h
  rename_i h1
  rw [if_neg h1]
  cases hi : q.items with
  | nil => rw [hi] at h; simp at h
  | cons x xs => cases hold <;> exact ⟨rfl, rfl, rfl, rfl⟩
end
end Go.Proofs.YtpcpljfifipagaaGreatDoor
