/- A part of the proof: the engine that walks Go code, the walks of the broker, or their laws (Tj Tk Tl Tm Tn To Tp). -/
import Derived.Test.YtpcpljfifipagaaGreatDoorX20
import Derived.Test.YtpcpljfifipagaaGreatDoorX12
import Derived.Test.YtpcpljfifipagaaGreatDoorX14
set_option linter.unusedSimpArgs false
set_option linter.unusedVariables false
set_option maxHeartbeats 8000000
set_option maxRecDepth 20000
namespace Go.Proofs.YtpcpljfifipagaaGreatDoor
open Go.Eng Go.Tv
attribute [local simp] D_33 D_50 D_42 D_77 plainOp renSf renLf AV.ren AV.renL escF adoptF AS.esc AS.adopt AS.frz frzS frzL frzC AV.frz Heap.put
attribute [local simp ↓] evTsR
attribute [-simp] List.length_flatMap
section
attribute [local simp] D_257 D_26 D_46 D_24 D_25 D_54 D_27 D_28 D_89 D_87
theorem del_Hold (xs : List Hold) (hx : xs.length ≤ 2000000) (i : Nat) (hi : i < xs.length) (H : Heap) (k : Nat) (hH : H k = some (xs.flatMap Hold.enc)) : PCalls Tryz.prog 257 [.os (.h k) 10 0 xs.length, aint i, aint ((i : Int) + 1)] H (OwnRow 10 H k (xs.length - 1) ((xs.eraseIdx i).flatMap Hold.enc)) := by
  have hlen : (xs.flatMap Hold.enc).length = xs.length * 10 := flen_Hold xs
  have hnl : AV.noLL (xs.flatMap Hold.enc) = true := noLLf_Hold xs
  have hers : (xs.eraseIdx i).flatMap Hold.enc = (xs.flatMap Hold.enc).take (i * 10) ++ (xs.flatMap Hold.enc).drop (i * 10 + 10) := by
    rw [List.eraseIdx_eq_take_drop_succ, List.flatMap_append, flat_take len_Hold, ← flat_drop len_Hold, Nat.succ_mul]
  generalize xs.flatMap Hold.enc = A at hH hlen hnl hers
  generalize (xs.eraseIdx i).flatMap Hold.enc = T at hers
  generalize xs.length = n0 at *
  obtain ⟨N, rfl⟩ : ∃ N, n0 = N + 1 := ⟨n0 - 1, by omega⟩
  rw [show N + 1 - 1 = N from rfl]
  refine PCalls.of_J' D_ok Tryz.func257 rfl (by decide) (le' rfl) fun E QF hF => ?_
  change J _ E 33 _ _ _
  refine J_seq' fun K1 hK1 => J0 ?_
  simp
  refine hK1 _ ?_
  refine J_reveal 0 (l := .h k) (es := 10) (n := N + 1) (by omega) (by simp) (cs := A) (by simpa using hH) fun cap hc1 hc2 hc3 => ?_
  simp only [maxLen] at hc3
  simp
  refine J_seq' fun K2 hK2 => J0 ?_
  simp [hH]
  repeat refine And.intro (by omega) ?_
  refine hK2 _ (J_seq' fun K3 hK3 => J_seq' fun K4 hK4 => J0 ?_)
  simp
  refine hK4 _ (J_cond rfl (fun hc => by simp at hc; omega) fun _ => J_skip ?_)
  simp only [thenQ]
  refine hK3 _ (J_seq' fun K5 hK5 => J0 ?_)
  simp
  refine hK5 _ (J_seq' fun K6 hK6 => D0 [0,1,2,3,4,5] [6,7] (fun _ => []) rfl (by decide) (by decide) ?_)
  have rest : ∀ C1 : List AV, C1.length = (N + 1) * 10 → C1.take (N * 10) = T → ∀ s', Has [(0, .oc (.h k) 10 0 N cap), (7, aint ((N : Int) + 1)), (6, .sl0)] [] (fun m => if m = k then some C1 else H m) s' → K6 s' := by
    intro C1 hl hT s' hs'
    refine hK6 _ (J_has hs' ?_)
    refine J_seq' fun K7 hK7 => J0 ?_
    have hi3 : (((N : Int) + 1) - (N : Int)).toNat = 1 := by omega
    have hi4 : (N : Int) < (cap : Int) := by omega
    simp [show N < cap from by omega, hi3, hi4, hl]
    repeat refine And.intro (by omega) ?_
    refine hK7 _ (J_seq' fun K8 hK8 => J0 ?_)
    simp
    refine hK8 _ ?_
    refine J_forget 6 (l := .h k) (es := 10) (off := 0) (n := N) (cap := cap) (by simp) ?_
    simp
    refine J_trunc (.h k) (by simp; rfl) (N * 10) ?_
    simp
    refine J_ret (hF _ _ ?_)
    simp [Tryz.f257]
    refine .mk k (.inl rfl) (fun m h1 h2 => by simp [h2]) ?_
    show (if k = k then some _ else _) = some T
    rw [if_pos rfl, List.take_append_of_le_length (by rw [List.length_take, hl]; omega), List.take_take, Nat.min_self, hT]
  rcases Nat.lt_or_ge (i + 1) cap with hcap | hcap
  · have hi1 : (i : Int) + 1 < (cap : Int) := by omega
    have hi2 : (((N : Int) + 1) - ((i : Int) + 1)).toNat = N - i := by omega
    have hi3 : i + (N - i) = N := by omega
    have hi4 : i + 1 + (N - i) = N + 1 := by omega
    simp [hH, hlen, hnl, hi1, hi2, hi3]
    repeat refine And.intro (by omega) ?_
    refine ⟨noLL_take _ (noLL_drop _ hnl), ?_⟩
    refine rest (A.take (i * 10) ++ (A.drop (i * 10 + 10) ++ A.drop (N * 10))) ?_ ?_ _ ⟨by simp, rfl, ?_⟩
    · simp only [List.length_append, List.length_take, List.length_drop, hlen]; omega
    · rw [← List.append_assoc, List.take_append_of_le_length (by simp only [List.length_append, List.length_take, List.length_drop, hlen]; omega), List.take_of_length_le (by simp only [List.length_append, List.length_take, List.length_drop, hlen]; omega), hers]
    · funext m
      by_cases hm : m = k
      · subst hm
        show (if m = m then some _ else _) = (if m = m then some _ else H m)
        rw [if_pos rfl, if_pos rfl, List.take_of_length_le (l := List.drop ((i + 1) * 10) A) (by rw [List.length_drop, hlen]; omega), show (i + 1) * 10 = i * 10 + 10 from by omega]
        congr 4
        omega
      · show (if m = k then some _ else _) = (if m = k then some _ else H m)
        rw [if_neg hm, if_neg hm]
  · have hi1 : ¬ (i : Int) + 1 < (cap : Int) := by omega
    have hi5 : i = N := by omega
    subst hi5
    simp [hH, hlen, hnl, hi1]
    repeat refine And.intro (by omega) ?_
    refine rest A hlen ?_ _ ⟨by simp, rfl, rfl⟩
    rw [hers, List.drop_eq_nil_of_le (by rw [hlen]; omega), List.append_nil]
theorem del_Itm (xs : List Itm) (hx : xs.length ≤ 2000000) (i : Nat) (hi : i < xs.length) (H : Heap) (k : Nat) (hH : H k = some (xs.flatMap Itm.enc)) : PCalls Tryz.prog 258 [.os (.h k) 7 0 xs.length, aint i, aint ((i : Int) + 1)] H (OwnRow 7 H k (xs.length - 1) ((xs.eraseIdx i).flatMap Itm.enc)) := by
  have hlen : (xs.flatMap Itm.enc).length = xs.length * 7 := flen_Itm xs
  have hnl : AV.noLL (xs.flatMap Itm.enc) = true := noLLf_Itm xs
  have hers : (xs.eraseIdx i).flatMap Itm.enc = (xs.flatMap Itm.enc).take (i * 7) ++ (xs.flatMap Itm.enc).drop (i * 7 + 7) := by
    rw [List.eraseIdx_eq_take_drop_succ, List.flatMap_append, flat_take len_Itm, ← flat_drop len_Itm, Nat.succ_mul]
  generalize xs.flatMap Itm.enc = A at hH hlen hnl hers
  generalize (xs.eraseIdx i).flatMap Itm.enc = T at hers
  generalize xs.length = n0 at *
  obtain ⟨N, rfl⟩ : ∃ N, n0 = N + 1 := ⟨n0 - 1, by omega⟩
  rw [show N + 1 - 1 = N from rfl]
  refine PCalls.of_J' D_ok Tryz.func258 rfl (by decide) (le' rfl) fun E QF hF => ?_
  change J _ E 33 _ _ _
  refine J_seq' fun K1 hK1 => J0 ?_
  simp
  refine hK1 _ ?_
  refine J_reveal 0 (l := .h k) (es := 7) (n := N + 1) (by omega) (by simp) (cs := A) (by simpa using hH) fun cap hc1 hc2 hc3 => ?_
  simp only [maxLen] at hc3
  simp
  refine J_seq' fun K2 hK2 => J0 ?_
  simp [hH]
  repeat refine And.intro (by omega) ?_
  refine hK2 _ (J_seq' fun K3 hK3 => J_seq' fun K4 hK4 => J0 ?_)
  simp
  refine hK4 _ (J_cond rfl (fun hc => by simp at hc; omega) fun _ => J_skip ?_)
  simp only [thenQ]
  refine hK3 _ (J_seq' fun K5 hK5 => J0 ?_)
  simp
  refine hK5 _ (J_seq' fun K6 hK6 => D0 [0,1,2,3,4,5] [6,7] (fun _ => []) rfl (by decide) (by decide) ?_)
  have rest : ∀ C1 : List AV, C1.length = (N + 1) * 7 → C1.take (N * 7) = T → ∀ s', Has [(0, .oc (.h k) 7 0 N cap), (7, aint ((N : Int) + 1)), (6, .sl0)] [] (fun m => if m = k then some C1 else H m) s' → K6 s' := by
    intro C1 hl hT s' hs'
    refine hK6 _ (J_has hs' ?_)
    refine J_seq' fun K7 hK7 => J0 ?_
    have hi3 : (((N : Int) + 1) - (N : Int)).toNat = 1 := by omega
    have hi4 : (N : Int) < (cap : Int) := by omega
    simp [show N < cap from by omega, hi3, hi4, hl]
    repeat refine And.intro (by omega) ?_
    refine hK7 _ (J_seq' fun K8 hK8 => J0 ?_)
    simp
    refine hK8 _ ?_
    refine J_forget 6 (l := .h k) (es := 7) (off := 0) (n := N) (cap := cap) (by simp) ?_
    simp
    refine J_trunc (.h k) (by simp; rfl) (N * 7) ?_
    simp
    refine J_ret (hF _ _ ?_)
    simp [Tryz.f258]
    refine .mk k (.inl rfl) (fun m h1 h2 => by simp [h2]) ?_
    show (if k = k then some _ else _) = some T
    rw [if_pos rfl, List.take_append_of_le_length (by rw [List.length_take, hl]; omega), List.take_take, Nat.min_self, hT]
  rcases Nat.lt_or_ge (i + 1) cap with hcap | hcap
  · have hi1 : (i : Int) + 1 < (cap : Int) := by omega
    have hi2 : (((N : Int) + 1) - ((i : Int) + 1)).toNat = N - i := by omega
    have hi3 : i + (N - i) = N := by omega
    have hi4 : i + 1 + (N - i) = N + 1 := by omega
    simp [hH, hlen, hnl, hi1, hi2, hi3]
    repeat refine And.intro (by omega) ?_
    refine ⟨noLL_take _ (noLL_drop _ hnl), ?_⟩
    refine rest (A.take (i * 7) ++ (A.drop (i * 7 + 7) ++ A.drop (N * 7))) ?_ ?_ _ ⟨by simp, rfl, ?_⟩
    · simp only [List.length_append, List.length_take, List.length_drop, hlen]; omega
    · rw [← List.append_assoc, List.take_append_of_le_length (by simp only [List.length_append, List.length_take, List.length_drop, hlen]; omega), List.take_of_length_le (by simp only [List.length_append, List.length_take, List.length_drop, hlen]; omega), hers]
    · funext m
      by_cases hm : m = k
      · subst hm
        show (if m = m then some _ else _) = (if m = m then some _ else H m)
        rw [if_pos rfl, if_pos rfl, List.take_of_length_le (l := List.drop ((i + 1) * 7) A) (by rw [List.length_drop, hlen]; omega), show (i + 1) * 7 = i * 7 + 7 from by omega]
        congr 4
        omega
      · show (if m = k then some _ else _) = (if m = k then some _ else H m)
        rw [if_neg hm, if_neg hm]
  · have hi1 : ¬ (i : Int) + 1 < (cap : Int) := by omega
    have hi5 : i = N := by omega
    subst hi5
    simp [hH, hlen, hnl, hi1]
    repeat refine And.intro (by omega) ?_
    refine rest A hlen ?_ _ ⟨by simp, rfl, rfl⟩
    rw [hers, List.drop_eq_nil_of_le (by rw [hlen]; omega), List.append_nil]
theorem del_Queue (xs : List Queue) (hx : xs.length ≤ 2000000) (i : Nat) (hi : i < xs.length) (H : Heap) (k : Nat) (hH : H k = some (xs.flatMap Queue.enc)) : PCalls Tryz.prog 185 [.os (.h k) 7 0 xs.length, aint i, aint ((i : Int) + 1)] H (OwnRow 7 H k (xs.length - 1) ((xs.eraseIdx i).flatMap Queue.enc)) := by
  have hlen : (xs.flatMap Queue.enc).length = xs.length * 7 := flen_Queue xs
  have hnl : AV.noLL (xs.flatMap Queue.enc) = true := noLLf_Queue xs
  have hers : (xs.eraseIdx i).flatMap Queue.enc = (xs.flatMap Queue.enc).take (i * 7) ++ (xs.flatMap Queue.enc).drop (i * 7 + 7) := by
    rw [List.eraseIdx_eq_take_drop_succ, List.flatMap_append, flat_take len_Queue, ← flat_drop len_Queue, Nat.succ_mul]
  generalize xs.flatMap Queue.enc = A at hH hlen hnl hers
  generalize (xs.eraseIdx i).flatMap Queue.enc = T at hers
  generalize xs.length = n0 at *
  obtain ⟨N, rfl⟩ : ∃ N, n0 = N + 1 := ⟨n0 - 1, by omega⟩
  rw [show N + 1 - 1 = N from rfl]
  refine PCalls.of_J' D_ok Tryz.func185 rfl (by decide) (le' rfl) fun E QF hF => ?_
  change J _ E 33 _ _ _
  refine J_seq' fun K1 hK1 => J0 ?_
  simp
  refine hK1 _ ?_
  refine J_reveal 0 (l := .h k) (es := 7) (n := N + 1) (by omega) (by simp) (cs := A) (by simpa using hH) fun cap hc1 hc2 hc3 => ?_
  simp only [maxLen] at hc3
  simp
  refine J_seq' fun K2 hK2 => J0 ?_
  simp [hH]
  repeat refine And.intro (by omega) ?_
  refine hK2 _ (J_seq' fun K3 hK3 => J_seq' fun K4 hK4 => J0 ?_)
  simp
  refine hK4 _ (J_cond rfl (fun hc => by simp at hc; omega) fun _ => J_skip ?_)
  simp only [thenQ]
  refine hK3 _ (J_seq' fun K5 hK5 => J0 ?_)
  simp
  refine hK5 _ (J_seq' fun K6 hK6 => D0 [0,1,2,3,4,5] [6,7] (fun _ => []) rfl (by decide) (by decide) ?_)
  have rest : ∀ C1 : List AV, C1.length = (N + 1) * 7 → C1.take (N * 7) = T → ∀ s', Has [(0, .oc (.h k) 7 0 N cap), (7, aint ((N : Int) + 1)), (6, .sl0)] [] (fun m => if m = k then some C1 else H m) s' → K6 s' := by
    intro C1 hl hT s' hs'
    refine hK6 _ (J_has hs' ?_)
    refine J_seq' fun K7 hK7 => J0 ?_
    have hi3 : (((N : Int) + 1) - (N : Int)).toNat = 1 := by omega
    have hi4 : (N : Int) < (cap : Int) := by omega
    simp [show N < cap from by omega, hi3, hi4, hl]
    repeat refine And.intro (by omega) ?_
    refine hK7 _ (J_seq' fun K8 hK8 => J0 ?_)
    simp
    refine hK8 _ ?_
    refine J_forget 6 (l := .h k) (es := 7) (off := 0) (n := N) (cap := cap) (by simp) ?_
    simp
    refine J_trunc (.h k) (by simp; rfl) (N * 7) ?_
    simp
    refine J_ret (hF _ _ ?_)
    simp [Tryz.f185]
    refine .mk k (.inl rfl) (fun m h1 h2 => by simp [h2]) ?_
    show (if k = k then some _ else _) = some T
    rw [if_pos rfl, List.take_append_of_le_length (by rw [List.length_take, hl]; omega), List.take_take, Nat.min_self, hT]
  rcases Nat.lt_or_ge (i + 1) cap with hcap | hcap
  · have hi1 : (i : Int) + 1 < (cap : Int) := by omega
    have hi2 : (((N : Int) + 1) - ((i : Int) + 1)).toNat = N - i := by omega
    have hi3 : i + (N - i) = N := by omega
    have hi4 : i + 1 + (N - i) = N + 1 := by omega
    simp [hH, hlen, hnl, hi1, hi2, hi3]
    repeat refine And.intro (by omega) ?_
    refine ⟨noLL_take _ (noLL_drop _ hnl), ?_⟩
    refine rest (A.take (i * 7) ++ (A.drop (i * 7 + 7) ++ A.drop (N * 7))) ?_ ?_ _ ⟨by simp, rfl, ?_⟩
    · simp only [List.length_append, List.length_take, List.length_drop, hlen]; omega
    · rw [← List.append_assoc, List.take_append_of_le_length (by simp only [List.length_append, List.length_take, List.length_drop, hlen]; omega), List.take_of_length_le (by simp only [List.length_append, List.length_take, List.length_drop, hlen]; omega), hers]
    · funext m
      by_cases hm : m = k
      · subst hm
        show (if m = m then some _ else _) = (if m = m then some _ else H m)
        rw [if_pos rfl, if_pos rfl, List.take_of_length_le (l := List.drop ((i + 1) * 7) A) (by rw [List.length_drop, hlen]; omega), show (i + 1) * 7 = i * 7 + 7 from by omega]
        congr 4
        omega
      · show (if m = k then some _ else _) = (if m = k then some _ else H m)
        rw [if_neg hm, if_neg hm]
  · have hi1 : ¬ (i : Int) + 1 < (cap : Int) := by omega
    have hi5 : i = N := by omega
    subst hi5
    simp [hH, hlen, hnl, hi1]
    repeat refine And.intro (by omega) ?_
    refine rest A hlen ?_ _ ⟨by simp, rfl, rfl⟩
    rw [hers, List.drop_eq_nil_of_le (by rw [hlen]; omega), List.append_nil]
theorem del_Bind (xs : List Tv.Bind) (hx : xs.length ≤ 2000000) (i : Nat) (hi : i < xs.length) (H : Heap) (k : Nat) (hH : H k = some (xs.flatMap Bind.enc)) : PCalls Tryz.prog 192 [.os (.h k) 2 0 xs.length, aint i, aint ((i : Int) + 1)] H (OwnRow 2 H k (xs.length - 1) ((xs.eraseIdx i).flatMap Bind.enc)) := by
  have hlen : (xs.flatMap Bind.enc).length = xs.length * 2 := flen_Bind xs
  have hnl : AV.noLL (xs.flatMap Bind.enc) = true := noLLf_Bind xs
  have hers : (xs.eraseIdx i).flatMap Bind.enc = (xs.flatMap Bind.enc).take (i * 2) ++ (xs.flatMap Bind.enc).drop (i * 2 + 2) := by
    rw [List.eraseIdx_eq_take_drop_succ, List.flatMap_append, flat_take len_Bind, ← flat_drop len_Bind, Nat.succ_mul]
  generalize xs.flatMap Bind.enc = A at hH hlen hnl hers
  generalize (xs.eraseIdx i).flatMap Bind.enc = T at hers
  generalize xs.length = n0 at *
  obtain ⟨N, rfl⟩ : ∃ N, n0 = N + 1 := ⟨n0 - 1, by omega⟩
  rw [show N + 1 - 1 = N from rfl]
  refine PCalls.of_J' D_ok Tryz.func192 rfl (by decide) (le' rfl) fun E QF hF => ?_
  change J _ E 33 _ _ _
  refine J_seq' fun K1 hK1 => J0 ?_
  simp
  refine hK1 _ ?_
  refine J_reveal 0 (l := .h k) (es := 2) (n := N + 1) (by omega) (by simp) (cs := A) (by simpa using hH) fun cap hc1 hc2 hc3 => ?_
  simp only [maxLen] at hc3
  simp
  refine J_seq' fun K2 hK2 => J0 ?_
  simp [hH]
  repeat refine And.intro (by omega) ?_
  refine hK2 _ (J_seq' fun K3 hK3 => J_seq' fun K4 hK4 => J0 ?_)
  simp
  refine hK4 _ (J_cond rfl (fun hc => by simp at hc; omega) fun _ => J_skip ?_)
  simp only [thenQ]
  refine hK3 _ (J_seq' fun K5 hK5 => J0 ?_)
  simp
  refine hK5 _ (J_seq' fun K6 hK6 => D0 [0,1,2,3,4,5] [6,7] (fun _ => []) rfl (by decide) (by decide) ?_)
  have rest : ∀ C1 : List AV, C1.length = (N + 1) * 2 → C1.take (N * 2) = T → ∀ s', Has [(0, .oc (.h k) 2 0 N cap), (7, aint ((N : Int) + 1)), (6, .sl0)] [] (fun m => if m = k then some C1 else H m) s' → K6 s' := by
    intro C1 hl hT s' hs'
    refine hK6 _ (J_has hs' ?_)
    refine J_seq' fun K7 hK7 => J0 ?_
    have hi3 : (((N : Int) + 1) - (N : Int)).toNat = 1 := by omega
    have hi4 : (N : Int) < (cap : Int) := by omega
    simp [show N < cap from by omega, hi3, hi4, hl]
    repeat refine And.intro (by omega) ?_
    refine hK7 _ (J_seq' fun K8 hK8 => J0 ?_)
    simp
    refine hK8 _ ?_
    refine J_forget 6 (l := .h k) (es := 2) (off := 0) (n := N) (cap := cap) (by simp) ?_
    simp
    refine J_trunc (.h k) (by simp; rfl) (N * 2) ?_
    simp
    refine J_ret (hF _ _ ?_)
    simp [Tryz.f192]
    refine .mk k (.inl rfl) (fun m h1 h2 => by simp [h2]) ?_
    show (if k = k then some _ else _) = some T
    rw [if_pos rfl, List.take_append_of_le_length (by rw [List.length_take, hl]; omega), List.take_take, Nat.min_self, hT]
  rcases Nat.lt_or_ge (i + 1) cap with hcap | hcap
  · have hi1 : (i : Int) + 1 < (cap : Int) := by omega
    have hi2 : (((N : Int) + 1) - ((i : Int) + 1)).toNat = N - i := by omega
    have hi3 : i + (N - i) = N := by omega
    have hi4 : i + 1 + (N - i) = N + 1 := by omega
    simp [hH, hlen, hnl, hi1, hi2, hi3]
    repeat refine And.intro (by omega) ?_
    refine ⟨noLL_take _ (noLL_drop _ hnl), ?_⟩
    refine rest (A.take (i * 2) ++ (A.drop (i * 2 + 2) ++ A.drop (N * 2))) ?_ ?_ _ ⟨by simp, rfl, ?_⟩
    · simp only [List.length_append, List.length_take, List.length_drop, hlen]; omega
    · rw [← List.append_assoc, List.take_append_of_le_length (by simp only [List.length_append, List.length_take, List.length_drop, hlen]; omega), List.take_of_length_le (by simp only [List.length_append, List.length_take, List.length_drop, hlen]; omega), hers]
    · funext m
      by_cases hm : m = k
      · subst hm
        show (if m = m then some _ else _) = (if m = m then some _ else H m)
        rw [if_pos rfl, if_pos rfl, List.take_of_length_le (l := List.drop ((i + 1) * 2) A) (by rw [List.length_drop, hlen]; omega), show (i + 1) * 2 = i * 2 + 2 from by omega]
        congr 4
        omega
      · show (if m = k then some _ else _) = (if m = k then some _ else H m)
        rw [if_neg hm, if_neg hm]
  · have hi1 : ¬ (i : Int) + 1 < (cap : Int) := by omega
    have hi5 : i = N := by omega
    subst hi5
    simp [hH, hlen, hnl, hi1]
    repeat refine And.intro (by omega) ?_
    refine rest A hlen ?_ _ ⟨by simp, rfl, rfl⟩
    rw [hers, List.drop_eq_nil_of_le (by rw [hlen]; omega), List.append_nil]
theorem del_Sub (xs : List Tv.Sub) (hx : xs.length ≤ 2000000) (i : Nat) (hi : i < xs.length) (H : Heap) (k : Nat) (hH : H k = some (xs.flatMap Sub.enc)) : PCalls Tryz.prog 206 [.os (.h k) 5 0 xs.length, aint i, aint ((i : Int) + 1)] H (OwnRow 5 H k (xs.length - 1) ((xs.eraseIdx i).flatMap Sub.enc)) := by
  have hlen : (xs.flatMap Sub.enc).length = xs.length * 5 := flen_Sub xs
  have hnl : AV.noLL (xs.flatMap Sub.enc) = true := noLLf_Sub xs
  have hers : (xs.eraseIdx i).flatMap Sub.enc = (xs.flatMap Sub.enc).take (i * 5) ++ (xs.flatMap Sub.enc).drop (i * 5 + 5) := by
    rw [List.eraseIdx_eq_take_drop_succ, List.flatMap_append, flat_take len_Sub, ← flat_drop len_Sub, Nat.succ_mul]
  generalize xs.flatMap Sub.enc = A at hH hlen hnl hers
  generalize (xs.eraseIdx i).flatMap Sub.enc = T at hers
  generalize xs.length = n0 at *
  obtain ⟨N, rfl⟩ : ∃ N, n0 = N + 1 := ⟨n0 - 1, by omega⟩
  rw [show N + 1 - 1 = N from rfl]
  refine PCalls.of_J' D_ok Tryz.func206 rfl (by decide) (le' rfl) fun E QF hF => ?_
  change J _ E 33 _ _ _
  refine J_seq' fun K1 hK1 => J0 ?_
  simp
  refine hK1 _ ?_
  refine J_reveal 0 (l := .h k) (es := 5) (n := N + 1) (by omega) (by simp) (cs := A) (by simpa using hH) fun cap hc1 hc2 hc3 => ?_
  simp only [maxLen] at hc3
  simp
  refine J_seq' fun K2 hK2 => J0 ?_
  simp [hH]
  repeat refine And.intro (by omega) ?_
  refine hK2 _ (J_seq' fun K3 hK3 => J_seq' fun K4 hK4 => J0 ?_)
  simp
  refine hK4 _ (J_cond rfl (fun hc => by simp at hc; omega) fun _ => J_skip ?_)
  simp only [thenQ]
  refine hK3 _ (J_seq' fun K5 hK5 => J0 ?_)
  simp
  refine hK5 _ (J_seq' fun K6 hK6 => D0 [0,1,2,3,4,5] [6,7] (fun _ => []) rfl (by decide) (by decide) ?_)
  have rest : ∀ C1 : List AV, C1.length = (N + 1) * 5 → C1.take (N * 5) = T → ∀ s', Has [(0, .oc (.h k) 5 0 N cap), (7, aint ((N : Int) + 1)), (6, .sl0)] [] (fun m => if m = k then some C1 else H m) s' → K6 s' := by
    intro C1 hl hT s' hs'
    refine hK6 _ (J_has hs' ?_)
    refine J_seq' fun K7 hK7 => J0 ?_
    have hi3 : (((N : Int) + 1) - (N : Int)).toNat = 1 := by omega
    have hi4 : (N : Int) < (cap : Int) := by omega
    simp [show N < cap from by omega, hi3, hi4, hl]
    repeat refine And.intro (by omega) ?_
    refine hK7 _ (J_seq' fun K8 hK8 => J0 ?_)
    simp
    refine hK8 _ ?_
    refine J_forget 6 (l := .h k) (es := 5) (off := 0) (n := N) (cap := cap) (by simp) ?_
    simp
    refine J_trunc (.h k) (by simp; rfl) (N * 5) ?_
    simp
    refine J_ret (hF _ _ ?_)
    simp [Tryz.f206]
    refine .mk k (.inl rfl) (fun m h1 h2 => by simp [h2]) ?_
    show (if k = k then some _ else _) = some T
    rw [if_pos rfl, List.take_append_of_le_length (by rw [List.length_take, hl]; omega), List.take_take, Nat.min_self, hT]
  rcases Nat.lt_or_ge (i + 1) cap with hcap | hcap
  · have hi1 : (i : Int) + 1 < (cap : Int) := by omega
    have hi2 : (((N : Int) + 1) - ((i : Int) + 1)).toNat = N - i := by omega
    have hi3 : i + (N - i) = N := by omega
    have hi4 : i + 1 + (N - i) = N + 1 := by omega
    simp [hH, hlen, hnl, hi1, hi2, hi3]
    repeat refine And.intro (by omega) ?_
    refine ⟨noLL_take _ (noLL_drop _ hnl), ?_⟩
    refine rest (A.take (i * 5) ++ (A.drop (i * 5 + 5) ++ A.drop (N * 5))) ?_ ?_ _ ⟨by simp, rfl, ?_⟩
    · simp only [List.length_append, List.length_take, List.length_drop, hlen]; omega
    · rw [← List.append_assoc, List.take_append_of_le_length (by simp only [List.length_append, List.length_take, List.length_drop, hlen]; omega), List.take_of_length_le (by simp only [List.length_append, List.length_take, List.length_drop, hlen]; omega), hers]
    · funext m
      by_cases hm : m = k
      · subst hm
        show (if m = m then some _ else _) = (if m = m then some _ else H m)
        rw [if_pos rfl, if_pos rfl, List.take_of_length_le (l := List.drop ((i + 1) * 5) A) (by rw [List.length_drop, hlen]; omega), show (i + 1) * 5 = i * 5 + 5 from by omega]
        congr 4
        omega
      · show (if m = k then some _ else _) = (if m = k then some _ else H m)
        rw [if_neg hm, if_neg hm]
  · have hi1 : ¬ (i : Int) + 1 < (cap : Int) := by omega
    have hi5 : i = N := by omega
    subst hi5
    simp [hH, hlen, hnl, hi1]
    repeat refine And.intro (by omega) ?_
    refine rest A hlen ?_ _ ⟨by simp, rfl, rfl⟩
    rw [hers, List.drop_eq_nil_of_le (by rw [hlen]; omega), List.append_nil]
end
section
attribute [local simp] D_257 D_26 D_46 D_24 D_25 D_54 D_27 D_28 D_89 D_87
theorem delf_Itm (xs : List Itm) (hx : xs.length ≤ 2000000) (g : FuncId) (caps : List AV) (hcaps : AV.noLL caps = true) (p : Itm → Bool) (hp : ∀ x ∈ xs, PFun Tryz.prog g (.agg (Itm.enc x) :: caps) (abool (p x))) (H : Heap) (k : Nat) (hH : H k = some (xs.flatMap Itm.enc)) : PCalls Tryz.prog 94 [.os (.h k) 7 0 xs.length, .fn g caps] H (OwnRow 7 H k (xs.filter fun x => !p x).length ((xs.filter fun x => !p x).flatMap Itm.enc)) := by
  have hlen : (xs.flatMap Itm.enc).length = xs.length * 7 := flen_Itm xs
  refine PCalls.of_J' D_ok Tryz.func94 rfl (by decide) (le' rfl) fun E QF hF => ?_
  change J _ E 42 _ _ _
  refine J_seq' fun K1 hK1 => J0 ?_
  simp
  refine hK1 _ (J_seq' fun K2 hK2 => J0 ?_)
  simp [hcaps]
  refine (indexH_Itm xs hx g caps hcaps p hp H k hH).mono ?_
  rintro e H' ⟨rfl, hHe⟩
  obtain rfl : H = H' := hHe.symm
  simp
  refine hK2 _ (J_seq' fun K3 hK3 => J_seq' fun K4 hK4 => J0 ?_)
  simp
  rcases idx_spec p xs with ⟨h1, h2⟩ | ⟨i0, x0, h1, h2, h3, h4⟩
  · have hf : xs.filter (fun x => !p x) = xs := List.filter_eq_self.mpr fun x hx => by simp [h2 x hx]
    rw [h1]
    refine hK4 _ (J_cond rfl (fun _ => ?_) fun hc => by simp at hc)
    refine J_seq' fun K5 hK5 => J0 ?_
    simp
    refine hK5 _ (J_ret (hF _ _ ?_))
    simp [Tryz.f94]
    rw [hf]
    exact .mk k (.inl rfl) (fun m h1 h2 => rfl) hH
  have hi0 : i0 < xs.length := by
    rcases Nat.lt_or_ge i0 xs.length with h | h
    · exact h
    · rw [List.getElem?_eq_none h] at h2; cases h2
  have hfirst : xs.take i0 = (xs.take i0).filter fun x => !p x := by
    refine (List.filter_eq_self.mpr fun x hx => ?_).symm
    obtain ⟨j, hj⟩ := List.getElem?_of_mem hx
    rw [List.getElem?_take] at hj
    split at hj
    · rename_i hlt; simp [h4 j x hlt hj]
    · cases hj
  have hfirst2 : (xs.take (i0 + 1)).filter (fun x => !p x) = xs.take i0 := by
    rw [List.take_add_one, h2, List.filter_append, ← hfirst]
    simp [h3]
  rw [h1]
  refine hK4 _ (J_cond rfl (fun hc => by simp at hc) fun _ => J_skip ?_)
  simp only [thenQ]
  refine hK3 _ (J_seq' fun K6 hK6 => J_seq' fun K7 hK7 => J0 ?_)
  simp
  refine hK7 _ (J_block ?_)
  refine J_loop' (fun m s' => ∃ i j : Nat, ∃ C : List AV, i < j ∧ j ≤ xs.length ∧ m = xs.length - j ∧ ((xs.take j).filter fun x => !p x).length = i ∧ C.length = xs.length * 7 ∧ C.take (i * 7) = ((xs.take j).filter fun x => !p x).flatMap Itm.enc ∧ C.drop (j * 7) = (xs.drop j).flatMap Itm.enc ∧ Has [(0, .os (.h k) 7 0 xs.length), (1, .fn g caps), (4, .sl0), (5, aint i), (6, aint j)] s'.L (fun m => if m = k then some C else H m) s') (n := xs.length - (i0 + 1)) ⟨i0, i0 + 1, xs.flatMap Itm.enc, by omega, by omega, rfl, by rw [hfirst2, List.length_take]; omega, hlen, by rw [flat_take len_Itm, hfirst2], by rw [flat_drop len_Itm], ?_⟩ ?_
  · refine ⟨?_, rfl, ?_⟩
    · simp
      rw [w64 (by omega) (by omega)]
    · exact (heap_same hH).symm
  rintro m s' ⟨i, j, C, hij, hj, hm, hfl, hCl, hCt, hCd, hs'⟩ K hK
  refine J_has hs' ?_
  refine J_seq' fun K8 hK8 => J_seq' fun K9 hK9 => J0 ?_
  simp
  refine hK9 _ (J_cond rfl (fun hc => J_skip ?_) fun hc => J_exit ?_)
  · simp at hc
    obtain ⟨x, hxj⟩ : ∃ x, xs[j]? = some x := ⟨_, List.getElem?_eq_getElem (by omega)⟩
    have hmem : x ∈ xs := List.mem_of_getElem? hxj
    have hat : List.take 7 (List.drop (j * 7) C) = Itm.enc x := by
      rw [hCd, drop_at hxj, List.flatMap_cons, List.take_append_of_le_length (by rw [len_Itm]; exact Nat.le_refl _), List.take_of_length_le (by rw [len_Itm]; exact Nat.le_refl _)]
    have hCd2 : C.drop ((j + 1) * 7) = (xs.drop (j + 1)).flatMap Itm.enc := by
      rw [show (j + 1) * 7 = j * 7 + 7 from by omega, ← List.drop_drop, hCd, drop_at hxj, List.flatMap_cons, List.drop_append_of_le_length (by rw [len_Itm]; exact Nat.le_refl _), List.drop_of_length_le (by rw [len_Itm]; exact Nat.le_refl _), List.nil_append]
    simp only [thenQ, blockQ]
    refine hK8 _ (J_seq' fun K10 hK10 => J_block (J_seq' fun K11 hK11 => J0 ?_))
    simp [hat, hCl, len_Itm, kill_Itm, killL_of_noLL 7 caps hcaps]
    repeat refine And.intro (by omega) ?_
    refine hK11 _ (J_seq' fun K12 hK12 => J0 ?_)
    simp [len_Itm, take_Itm, noLL_Itm, hcaps]
    refine (hp x hmem).call ?_
    simp
    refine hK12 _ (J_cond rfl (fun hd => ?_) fun hd => J_skip ?_)
    · have hpx : p x = false := by simpa using hd
      have hf2 : (xs.take (j + 1)).filter (fun x => !p x) = (xs.take j).filter (fun x => !p x) ++ [x] := by
        rw [List.take_add_one, hxj, List.filter_append]; simp [hpx]
      refine J_seq' fun K13 hK13 => J0 ?_
      simp [len_Itm, take_Itm, noLL_Itm, hCl]
      repeat refine And.intro (by omega) ?_
      refine hK13 _ ?_
      refine J0 ?_
      simp
      refine hK10 _ (J0 ?_)
      simp
      refine hK (xs.length - (j + 1)) _ (by omega) ⟨i + 1, j + 1, C.take (i * 7) ++ (Itm.enc x ++ C.drop (i * 7 + 7)), by omega, by omega, rfl, ?_, ?_, ?_, ?_, ?_, rfl, ?_⟩
      · rw [hf2, List.length_append, hfl]; rfl
      · simp only [List.length_append, List.length_take, List.length_drop, hCl, len_Itm]; omega
      · rw [hf2, List.flatMap_append, ← hCt, ← List.append_assoc, List.take_append_of_le_length (by simp only [List.length_append, List.length_take, hCl, len_Itm]; omega), List.take_of_length_le (by simp only [List.length_append, List.length_take, hCl, len_Itm]; omega)]
        simp
      · rw [← hCd2, List.drop_append, List.drop_of_length_le (by simp only [List.length_take, hCl]; omega), List.nil_append, List.length_take, hCl, List.drop_append, List.drop_of_length_le (by rw [len_Itm]; omega), List.nil_append, len_Itm, List.drop_drop]
        congr 1
        omega
      · simp
        rw [w64 (by omega) (by omega), w64 (by omega) (by omega)]
        exact ⟨rfl, rfl⟩
      · funext m
        by_cases hm : m = k
        · subst hm; simp
        · simp [hm]
    · have hpx : p x = true := by simpa using hd
      have hf2 : (xs.take (j + 1)).filter (fun x => !p x) = (xs.take j).filter (fun x => !p x) := by
        rw [List.take_add_one, hxj, List.filter_append]; simp [hpx]
      simp only [thenQ, blockQ]
      refine hK10 _ (J0 ?_)
      simp
      refine hK (xs.length - (j + 1)) _ (by omega) ⟨i, j + 1, C, by omega, by omega, rfl, by rw [hf2, hfl], hCl, by rw [hf2, hCt], hCd2, ?_, rfl, rfl⟩
      simp
      rw [w64 (by omega) (by omega)]
  · simp at hc
    have hje : j = xs.length := by omega
    subst hje
    rw [List.take_of_length_le (Nat.le_refl _)] at hfl hCt
    simp only [thenQ, blockQ, if_true]
    refine hK6 _ ?_
    refine J_reveal 0 (l := .h k) (es := 7) (n := xs.length) (by omega) (by simp) (cs := C) (by simp) fun cap hc1 hc2 hc3 => ?_
    simp only [maxLen] at hc3
    simp
    refine J_seq' fun K14 hK14 => J0 ?_
    simp [show i < cap from by omega, hCl]
    repeat refine And.intro (by omega) ?_
    refine hK14 _ (J_seq' fun K15 hK15 => J0 ?_)
    simp
    repeat refine And.intro (by omega) ?_
    refine hK15 _ ?_
    refine J_forget 4 (l := .h k) (es := 7) (off := 0) (n := i) (cap := cap) (by simp) ?_
    simp
    refine J_trunc (.h k) (by simp; rfl) (i * 7) ?_
    simp
    refine J_ret (hF _ _ ?_)
    simp [Tryz.f94]
    rw [hfl]
    refine .mk k (.inl rfl) (fun m h1 h2 => by simp [h2]) ?_
    show (if k = k then some _ else _) = some _
    rw [if_pos rfl, List.take_append_of_le_length (by rw [List.length_take, hCl]; omega), List.take_take, Nat.min_self, hCt]
theorem delf_Bind (xs : List Tv.Bind) (hx : xs.length ≤ 2000000) (g : FuncId) (caps : List AV) (hcaps : AV.noLL caps = true) (p : Tv.Bind → Bool) (hp : ∀ x ∈ xs, PFun Tryz.prog g (.agg (Bind.enc x) :: caps) (abool (p x))) (H : Heap) (k : Nat) (hH : H k = some (xs.flatMap Bind.enc)) : PCalls Tryz.prog 98 [.os (.h k) 2 0 xs.length, .fn g caps] H (OwnRow 2 H k (xs.filter fun x => !p x).length ((xs.filter fun x => !p x).flatMap Bind.enc)) := by
  have hlen : (xs.flatMap Bind.enc).length = xs.length * 2 := flen_Bind xs
  refine PCalls.of_J' D_ok Tryz.func98 rfl (by decide) (le' rfl) fun E QF hF => ?_
  change J _ E 42 _ _ _
  refine J_seq' fun K1 hK1 => J0 ?_
  simp
  refine hK1 _ (J_seq' fun K2 hK2 => J0 ?_)
  simp [hcaps]
  refine (indexH_Bind xs hx g caps hcaps p hp H k hH).mono ?_
  rintro e H' ⟨rfl, hHe⟩
  obtain rfl : H = H' := hHe.symm
  simp
  refine hK2 _ (J_seq' fun K3 hK3 => J_seq' fun K4 hK4 => J0 ?_)
  simp
  rcases idx_spec p xs with ⟨h1, h2⟩ | ⟨i0, x0, h1, h2, h3, h4⟩
  · have hf : xs.filter (fun x => !p x) = xs := List.filter_eq_self.mpr fun x hx => by simp [h2 x hx]
    rw [h1]
    refine hK4 _ (J_cond rfl (fun _ => ?_) fun hc => by simp at hc)
    refine J_seq' fun K5 hK5 => J0 ?_
    simp
    refine hK5 _ (J_ret (hF _ _ ?_))
    simp [Tryz.f98]
    rw [hf]
    exact .mk k (.inl rfl) (fun m h1 h2 => rfl) hH
  have hi0 : i0 < xs.length := by
    rcases Nat.lt_or_ge i0 xs.length with h | h
    · exact h
    · rw [List.getElem?_eq_none h] at h2; cases h2
  have hfirst : xs.take i0 = (xs.take i0).filter fun x => !p x := by
    refine (List.filter_eq_self.mpr fun x hx => ?_).symm
    obtain ⟨j, hj⟩ := List.getElem?_of_mem hx
    rw [List.getElem?_take] at hj
    split at hj
    · rename_i hlt; simp [h4 j x hlt hj]
    · cases hj
  have hfirst2 : (xs.take (i0 + 1)).filter (fun x => !p x) = xs.take i0 := by
    rw [List.take_add_one, h2, List.filter_append, ← hfirst]
    simp [h3]
  rw [h1]
  refine hK4 _ (J_cond rfl (fun hc => by simp at hc) fun _ => J_skip ?_)
  simp only [thenQ]
  refine hK3 _ (J_seq' fun K6 hK6 => J_seq' fun K7 hK7 => J0 ?_)
  simp
  refine hK7 _ (J_block ?_)
  refine J_loop' (fun m s' => ∃ i j : Nat, ∃ C : List AV, i < j ∧ j ≤ xs.length ∧ m = xs.length - j ∧ ((xs.take j).filter fun x => !p x).length = i ∧ C.length = xs.length * 2 ∧ C.take (i * 2) = ((xs.take j).filter fun x => !p x).flatMap Bind.enc ∧ C.drop (j * 2) = (xs.drop j).flatMap Bind.enc ∧ Has [(0, .os (.h k) 2 0 xs.length), (1, .fn g caps), (4, .sl0), (5, aint i), (6, aint j)] s'.L (fun m => if m = k then some C else H m) s') (n := xs.length - (i0 + 1)) ⟨i0, i0 + 1, xs.flatMap Bind.enc, by omega, by omega, rfl, by rw [hfirst2, List.length_take]; omega, hlen, by rw [flat_take len_Bind, hfirst2], by rw [flat_drop len_Bind], ?_⟩ ?_
  · refine ⟨?_, rfl, ?_⟩
    · simp
      rw [w64 (by omega) (by omega)]
    · exact (heap_same hH).symm
  rintro m s' ⟨i, j, C, hij, hj, hm, hfl, hCl, hCt, hCd, hs'⟩ K hK
  refine J_has hs' ?_
  refine J_seq' fun K8 hK8 => J_seq' fun K9 hK9 => J0 ?_
  simp
  refine hK9 _ (J_cond rfl (fun hc => J_skip ?_) fun hc => J_exit ?_)
  · simp at hc
    obtain ⟨x, hxj⟩ : ∃ x, xs[j]? = some x := ⟨_, List.getElem?_eq_getElem (by omega)⟩
    have hmem : x ∈ xs := List.mem_of_getElem? hxj
    have hat : List.take 2 (List.drop (j * 2) C) = Bind.enc x := by
      rw [hCd, drop_at hxj, List.flatMap_cons, List.take_append_of_le_length (by rw [len_Bind]; exact Nat.le_refl _), List.take_of_length_le (by rw [len_Bind]; exact Nat.le_refl _)]
    have hCd2 : C.drop ((j + 1) * 2) = (xs.drop (j + 1)).flatMap Bind.enc := by
      rw [show (j + 1) * 2 = j * 2 + 2 from by omega, ← List.drop_drop, hCd, drop_at hxj, List.flatMap_cons, List.drop_append_of_le_length (by rw [len_Bind]; exact Nat.le_refl _), List.drop_of_length_le (by rw [len_Bind]; exact Nat.le_refl _), List.nil_append]
    simp only [thenQ, blockQ]
    refine hK8 _ (J_seq' fun K10 hK10 => J_block (J_seq' fun K11 hK11 => J0 ?_))
    simp [hat, hCl, len_Bind, kill_Bind, killL_of_noLL 7 caps hcaps]
    repeat refine And.intro (by omega) ?_
    refine hK11 _ (J_seq' fun K12 hK12 => J0 ?_)
    simp [len_Bind, take_Bind, noLL_Bind, hcaps]
    refine (hp x hmem).call ?_
    simp
    refine hK12 _ (J_cond rfl (fun hd => ?_) fun hd => J_skip ?_)
    · have hpx : p x = false := by simpa using hd
      have hf2 : (xs.take (j + 1)).filter (fun x => !p x) = (xs.take j).filter (fun x => !p x) ++ [x] := by
        rw [List.take_add_one, hxj, List.filter_append]; simp [hpx]
      refine J_seq' fun K13 hK13 => J0 ?_
      simp [len_Bind, take_Bind, noLL_Bind, hCl]
      repeat refine And.intro (by omega) ?_
      refine hK13 _ ?_
      refine J0 ?_
      simp
      refine hK10 _ (J0 ?_)
      simp
      refine hK (xs.length - (j + 1)) _ (by omega) ⟨i + 1, j + 1, C.take (i * 2) ++ (Bind.enc x ++ C.drop (i * 2 + 2)), by omega, by omega, rfl, ?_, ?_, ?_, ?_, ?_, rfl, ?_⟩
      · rw [hf2, List.length_append, hfl]; rfl
      · simp only [List.length_append, List.length_take, List.length_drop, hCl, len_Bind]; omega
      · rw [hf2, List.flatMap_append, ← hCt, ← List.append_assoc, List.take_append_of_le_length (by simp only [List.length_append, List.length_take, hCl, len_Bind]; omega), List.take_of_length_le (by simp only [List.length_append, List.length_take, hCl, len_Bind]; omega)]
        simp
      · rw [← hCd2, List.drop_append, List.drop_of_length_le (by simp only [List.length_take, hCl]; omega), List.nil_append, List.length_take, hCl, List.drop_append, List.drop_of_length_le (by rw [len_Bind]; omega), List.nil_append, len_Bind, List.drop_drop]
        congr 1
        omega
      · simp
        rw [w64 (by omega) (by omega), w64 (by omega) (by omega)]
        exact ⟨rfl, rfl⟩
      · funext m
        by_cases hm : m = k
        · subst hm; simp
        · simp [hm]
    · have hpx : p x = true := by simpa using hd
      have hf2 : (xs.take (j + 1)).filter (fun x => !p x) = (xs.take j).filter (fun x => !p x) := by
        rw [List.take_add_one, hxj, List.filter_append]; simp [hpx]
      simp only [thenQ, blockQ]
      refine hK10 _ (J0 ?_)
      simp
      refine hK (xs.length - (j + 1)) _ (by omega) ⟨i, j + 1, C, by omega, by omega, rfl, by rw [hf2, hfl], hCl, by rw [hf2, hCt], hCd2, ?_, rfl, rfl⟩
      simp
      rw [w64 (by omega) (by omega)]
  · simp at hc
    have hje : j = xs.length := by omega
    subst hje
    rw [List.take_of_length_le (Nat.le_refl _)] at hfl hCt
    simp only [thenQ, blockQ, if_true]
    refine hK6 _ ?_
    refine J_reveal 0 (l := .h k) (es := 2) (n := xs.length) (by omega) (by simp) (cs := C) (by simp) fun cap hc1 hc2 hc3 => ?_
    simp only [maxLen] at hc3
    simp
    refine J_seq' fun K14 hK14 => J0 ?_
    simp [show i < cap from by omega, hCl]
    repeat refine And.intro (by omega) ?_
    refine hK14 _ (J_seq' fun K15 hK15 => J0 ?_)
    simp
    repeat refine And.intro (by omega) ?_
    refine hK15 _ ?_
    refine J_forget 4 (l := .h k) (es := 2) (off := 0) (n := i) (cap := cap) (by simp) ?_
    simp
    refine J_trunc (.h k) (by simp; rfl) (i * 2) ?_
    simp
    refine J_ret (hF _ _ ?_)
    simp [Tryz.f98]
    rw [hfl]
    refine .mk k (.inl rfl) (fun m h1 h2 => by simp [h2]) ?_
    show (if k = k then some _ else _) = some _
    rw [if_pos rfl, List.take_append_of_le_length (by rw [List.length_take, hCl]; omega), List.take_take, Nat.min_self, hCt]
theorem delf_Sub (xs : List Tv.Sub) (hx : xs.length ≤ 2000000) (g : FuncId) (caps : List AV) (hcaps : AV.noLL caps = true) (p : Tv.Sub → Bool) (hp : ∀ x ∈ xs, PFun Tryz.prog g (.agg (Sub.enc x) :: caps) (abool (p x))) (H : Heap) (k : Nat) (hH : H k = some (xs.flatMap Sub.enc)) : PCalls Tryz.prog 187 [.os (.h k) 5 0 xs.length, .fn g caps] H (OwnRow 5 H k (xs.filter fun x => !p x).length ((xs.filter fun x => !p x).flatMap Sub.enc)) := by
  have hlen : (xs.flatMap Sub.enc).length = xs.length * 5 := flen_Sub xs
  refine PCalls.of_J' D_ok Tryz.func187 rfl (by decide) (le' rfl) fun E QF hF => ?_
  change J _ E 42 _ _ _
  refine J_seq' fun K1 hK1 => J0 ?_
  simp
  refine hK1 _ (J_seq' fun K2 hK2 => J0 ?_)
  simp [hcaps]
  refine (indexH_Sub xs hx g caps hcaps p hp H k hH).mono ?_
  rintro e H' ⟨rfl, hHe⟩
  obtain rfl : H = H' := hHe.symm
  simp
  refine hK2 _ (J_seq' fun K3 hK3 => J_seq' fun K4 hK4 => J0 ?_)
  simp
  rcases idx_spec p xs with ⟨h1, h2⟩ | ⟨i0, x0, h1, h2, h3, h4⟩
  · have hf : xs.filter (fun x => !p x) = xs := List.filter_eq_self.mpr fun x hx => by simp [h2 x hx]
    rw [h1]
    refine hK4 _ (J_cond rfl (fun _ => ?_) fun hc => by simp at hc)
    refine J_seq' fun K5 hK5 => J0 ?_
    simp
    refine hK5 _ (J_ret (hF _ _ ?_))
    simp [Tryz.f187]
    rw [hf]
    exact .mk k (.inl rfl) (fun m h1 h2 => rfl) hH
  have hi0 : i0 < xs.length := by
    rcases Nat.lt_or_ge i0 xs.length with h | h
    · exact h
    · rw [List.getElem?_eq_none h] at h2; cases h2
  have hfirst : xs.take i0 = (xs.take i0).filter fun x => !p x := by
    refine (List.filter_eq_self.mpr fun x hx => ?_).symm
    obtain ⟨j, hj⟩ := List.getElem?_of_mem hx
    rw [List.getElem?_take] at hj
    split at hj
    · rename_i hlt; simp [h4 j x hlt hj]
    · cases hj
  have hfirst2 : (xs.take (i0 + 1)).filter (fun x => !p x) = xs.take i0 := by
    rw [List.take_add_one, h2, List.filter_append, ← hfirst]
    simp [h3]
  rw [h1]
  refine hK4 _ (J_cond rfl (fun hc => by simp at hc) fun _ => J_skip ?_)
  simp only [thenQ]
  refine hK3 _ (J_seq' fun K6 hK6 => J_seq' fun K7 hK7 => J0 ?_)
  simp
  refine hK7 _ (J_block ?_)
  refine J_loop' (fun m s' => ∃ i j : Nat, ∃ C : List AV, i < j ∧ j ≤ xs.length ∧ m = xs.length - j ∧ ((xs.take j).filter fun x => !p x).length = i ∧ C.length = xs.length * 5 ∧ C.take (i * 5) = ((xs.take j).filter fun x => !p x).flatMap Sub.enc ∧ C.drop (j * 5) = (xs.drop j).flatMap Sub.enc ∧ Has [(0, .os (.h k) 5 0 xs.length), (1, .fn g caps), (4, .sl0), (5, aint i), (6, aint j)] s'.L (fun m => if m = k then some C else H m) s') (n := xs.length - (i0 + 1)) ⟨i0, i0 + 1, xs.flatMap Sub.enc, by omega, by omega, rfl, by rw [hfirst2, List.length_take]; omega, hlen, by rw [flat_take len_Sub, hfirst2], by rw [flat_drop len_Sub], ?_⟩ ?_
  · refine ⟨?_, rfl, ?_⟩
    · simp
      rw [w64 (by omega) (by omega)]
    · exact (heap_same hH).symm
  rintro m s' ⟨i, j, C, hij, hj, hm, hfl, hCl, hCt, hCd, hs'⟩ K hK
  refine J_has hs' ?_
  refine J_seq' fun K8 hK8 => J_seq' fun K9 hK9 => J0 ?_
  simp
  refine hK9 _ (J_cond rfl (fun hc => J_skip ?_) fun hc => J_exit ?_)
  · simp at hc
    obtain ⟨x, hxj⟩ : ∃ x, xs[j]? = some x := ⟨_, List.getElem?_eq_getElem (by omega)⟩
    have hmem : x ∈ xs := List.mem_of_getElem? hxj
    have hat : List.take 5 (List.drop (j * 5) C) = Sub.enc x := by
      rw [hCd, drop_at hxj, List.flatMap_cons, List.take_append_of_le_length (by rw [len_Sub]; exact Nat.le_refl _), List.take_of_length_le (by rw [len_Sub]; exact Nat.le_refl _)]
    have hCd2 : C.drop ((j + 1) * 5) = (xs.drop (j + 1)).flatMap Sub.enc := by
      rw [show (j + 1) * 5 = j * 5 + 5 from by omega, ← List.drop_drop, hCd, drop_at hxj, List.flatMap_cons, List.drop_append_of_le_length (by rw [len_Sub]; exact Nat.le_refl _), List.drop_of_length_le (by rw [len_Sub]; exact Nat.le_refl _), List.nil_append]
    simp only [thenQ, blockQ]
    refine hK8 _ (J_seq' fun K10 hK10 => J_block (J_seq' fun K11 hK11 => J0 ?_))
    simp [hat, hCl, len_Sub, kill_Sub, killL_of_noLL 7 caps hcaps]
    repeat refine And.intro (by omega) ?_
    refine hK11 _ (J_seq' fun K12 hK12 => J0 ?_)
    simp [len_Sub, take_Sub, noLL_Sub, hcaps]
    refine (hp x hmem).call ?_
    simp
    refine hK12 _ (J_cond rfl (fun hd => ?_) fun hd => J_skip ?_)
    · have hpx : p x = false := by simpa using hd
      have hf2 : (xs.take (j + 1)).filter (fun x => !p x) = (xs.take j).filter (fun x => !p x) ++ [x] := by
        rw [List.take_add_one, hxj, List.filter_append]; simp [hpx]
      refine J_seq' fun K13 hK13 => J0 ?_
      simp [len_Sub, take_Sub, noLL_Sub, hCl]
      repeat refine And.intro (by omega) ?_
      refine hK13 _ ?_
      refine J0 ?_
      simp
      refine hK10 _ (J0 ?_)
      simp
      refine hK (xs.length - (j + 1)) _ (by omega) ⟨i + 1, j + 1, C.take (i * 5) ++ (Sub.enc x ++ C.drop (i * 5 + 5)), by omega, by omega, rfl, ?_, ?_, ?_, ?_, ?_, rfl, ?_⟩
      · rw [hf2, List.length_append, hfl]; rfl
      · simp only [List.length_append, List.length_take, List.length_drop, hCl, len_Sub]; omega
      · rw [hf2, List.flatMap_append, ← hCt, ← List.append_assoc, List.take_append_of_le_length (by simp only [List.length_append, List.length_take, hCl, len_Sub]; omega), List.take_of_length_le (by simp only [List.length_append, List.length_take, hCl, len_Sub]; omega)]
        simp
      · rw [← hCd2, List.drop_append, List.drop_of_length_le (by simp only [List.length_take, hCl]; omega), List.nil_append, List.length_take, hCl, List.drop_append, List.drop_of_length_le (by rw [len_Sub]; omega), List.nil_append, len_Sub, List.drop_drop]
        congr 1
        omega
      · simp
        rw [w64 (by omega) (by omega), w64 (by omega) (by omega)]
        exact ⟨rfl, rfl⟩
      · funext m
        by_cases hm : m = k
        · subst hm; simp
        · simp [hm]
    · have hpx : p x = true := by simpa using hd
      have hf2 : (xs.take (j + 1)).filter (fun x => !p x) = (xs.take j).filter (fun x => !p x) := by
        rw [List.take_add_one, hxj, List.filter_append]; simp [hpx]
      simp only [thenQ, blockQ]
      refine hK10 _ (J0 ?_)
      simp
      refine hK (xs.length - (j + 1)) _ (by omega) ⟨i, j + 1, C, by omega, by omega, rfl, by rw [hf2, hfl], hCl, by rw [hf2, hCt], hCd2, ?_, rfl, rfl⟩
      simp
      rw [w64 (by omega) (by omega)]
  · simp at hc
    have hje : j = xs.length := by omega
    subst hje
    rw [List.take_of_length_le (Nat.le_refl _)] at hfl hCt
    simp only [thenQ, blockQ, if_true]
    refine hK6 _ ?_
    refine J_reveal 0 (l := .h k) (es := 5) (n := xs.length) (by omega) (by simp) (cs := C) (by simp) fun cap hc1 hc2 hc3 => ?_
    simp only [maxLen] at hc3
    simp
    refine J_seq' fun K14 hK14 => J0 ?_
    simp [show i < cap from by omega, hCl]
    repeat refine And.intro (by omega) ?_
    refine hK14 _ (J_seq' fun K15 hK15 => J0 ?_)
    simp
    repeat refine And.intro (by omega) ?_
    refine hK15 _ ?_
    refine J_forget 4 (l := .h k) (es := 5) (off := 0) (n := i) (cap := cap) (by simp) ?_
    simp
    refine J_trunc (.h k) (by simp; rfl) (i * 5) ?_
    simp
    refine J_ret (hF _ _ ?_)
    simp [Tryz.f187]
    rw [hfl]
    refine .mk k (.inl rfl) (fun m h1 h2 => by simp [h2]) ?_
    show (if k = k then some _ else _) = some _
    rw [if_pos rfl, List.take_append_of_le_length (by rw [List.length_take, hCl]; omega), List.take_take, Nat.min_self, hCt]
end
section
attribute [local simp] D_37
def noMsg : Msg := ⟨⟨#[]⟩, ⟨#[]⟩, [], false, 0⟩
def noItm : Itm := ⟨0, false, noMsg⟩
def push (q : Queue) (m : Msg) : Queue × Int :=
  if qGood q = false ∨ 1099511627776 ≤ q.seq then (noQueue, 1) else if msgOk m = false then (noQueue, 36)
  else if q.depth ≤ ((q.items.length + q.held.length : Nat) : Int) then (noQueue, 35)
  else ({ q with seq := q.seq + 1, items := q.items ++ [⟨q.seq + 1, false, m⟩] }, 0)
theorem good_len {q : Queue} (h : qGood q = true) : ((q.items.length + q.held.length : Nat) : Int) ≤ q.depth ∧ q.depth ≤ 64 ∧ 0 ≤ q.seq ∧ q.seq ≤ 1099511627776 ∧ 0 ≤ q.tag ∧ q.tag ≤ 1099511627776 := by
  have : headBad q = false := by
    simp only [qGood, Bool.and_eq_true, Bool.not_eq_true'] at h
    exact h.1.1
  simp only [headBad, Bool.or_eq_false_iff, decide_eq_false_iff_not] at this
  omega
def zeroQ : List AV := [AV.v (Value.string { data := #[] }), AV.v (Value.bool false), AV.v (Value.int IntKind.i64 0), AV.v (Value.int IntKind.i64 0), AV.v (Value.int IntKind.i64 0), AV.sl0, AV.sl0]
def qrow (q : Queue) (n1 n2 : Nat) : List AV := [astr q.name, abool q.durable, aint q.depth, aint q.seq, aint q.tag, .os (.h n1) 7 0 q.items.length, .os (.h n2) 10 0 q.held.length]
theorem J_out {E : Ent} {N : Nat} {c : Code} {Q : AX → AS → Prop} (q : Queue) (o r n1 n2 : Nat) (T : Slots) (X : List (Nat × List AV)) (H H0 : Heap) (h12 : n1 ≠ n2) (h1 : H n1 = some (q.items.flatMap Itm.enc)) (h2 : H n2 = some (q.held.flatMap Hold.enc))
    (hH : ∀ m cs, H0 m = some cs → m ≠ n1 ∧ m ≠ n2 ∧ H m = some cs)
    (hT : ∀ k n, k ≠ o → k ≠ r → n = n1 ∨ n = n2 → renSf (adoptF k n) T = T) (hTf : ∀ k cs, k ≠ o → k ≠ r → frzS T k cs = T) (hX : ∀ k n, k ≠ o → k ≠ r → n = n1 ∨ n = n2 → renLf (adoptF k n) k X = X) (hXf : ∀ k cs, k ≠ o → k ≠ r → frzL X k cs = X)
    (h : J Tryz.prog E N c Q ⟨(o, .p (.l o) 0) :: T, (o, q.enc) :: X, H0⟩) : J Tryz.prog E N c Q ⟨(o, .p (.l o) 0) :: T, (o, qrow q n1 n2) :: X, H⟩ := by
  obtain ⟨k, hko, hkr⟩ : ∃ k, k ≠ o ∧ k ≠ r := ⟨o + r + 1, by omega, by omega⟩
  have hl1 : (q.items.flatMap Itm.enc).length = q.items.length * 7 := flen_Itm _
  have hl2 : (q.held.flatMap Hold.enc).length = q.held.length * 10 := flen_Hold _
  refine J_adopt k n1 h1 ?_
  have e1 : AS.adopt ⟨(o, .p (.l o) 0) :: T, (o, qrow q n1 n2) :: X, H⟩ k n1 (q.items.flatMap Itm.enc) =
      ⟨(o, .p (.l o) 0) :: T, (k, q.items.flatMap Itm.enc) :: (o, [astr q.name, abool q.durable, aint q.depth, aint q.seq, aint q.tag, .os (.l k) 7 0 q.items.length, .os (.h n2) 10 0 q.held.length]) :: X, H.put n1 none⟩ := by
    simp only [AS.adopt, renSf, renLf, hT k n1 hko hkr (.inl rfl), hX k n1 hko hkr (.inl rfl), renf_Itm]
    simp [qrow, Ne.symm hko, Ne.symm h12]
  rw [e1]
  refine J_freeze k (cs := q.items.flatMap Itm.enc) (by simp [lookL]) (noLLf_Itm _) ?_
  have e2 : AS.frz ⟨(o, .p (.l o) 0) :: T, (k, q.items.flatMap Itm.enc) :: (o, [astr q.name, abool q.durable, aint q.depth, aint q.seq, aint q.tag, .os (.l k) 7 0 q.items.length, .os (.h n2) 10 0 q.held.length]) :: X, H.put n1 none⟩ k (q.items.flatMap Itm.enc) =
      ⟨(o, .p (.l o) 0) :: T, (o, [astr q.name, abool q.durable, aint q.depth, aint q.seq, aint q.tag, asl Itm.enc q.items, .os (.h n2) 10 0 q.held.length]) :: X, H.put n1 none⟩ := by
    simp only [AS.frz, frzS, frzL, hTf k _ hko hkr, hXf k _ hko hkr]
    simp [Ne.symm hko, hko, hl1, List.take_of_length_le]
  rw [e2]
  refine J_adopt k n2 (cs := q.held.flatMap Hold.enc) (by simp [Ne.symm h12, h2]) ?_
  have e3 : AS.adopt ⟨(o, .p (.l o) 0) :: T, (o, [astr q.name, abool q.durable, aint q.depth, aint q.seq, aint q.tag, asl Itm.enc q.items, .os (.h n2) 10 0 q.held.length]) :: X, H.put n1 none⟩ k n2 (q.held.flatMap Hold.enc) =
      ⟨(o, .p (.l o) 0) :: T, (k, q.held.flatMap Hold.enc) :: (o, [astr q.name, abool q.durable, aint q.depth, aint q.seq, aint q.tag, asl Itm.enc q.items, .os (.l k) 10 0 q.held.length]) :: X, (H.put n1 none).put n2 none⟩ := by
    simp only [AS.adopt, renSf, renLf, hT k n2 hko hkr (.inr rfl), hX k n2 hko hkr (.inr rfl), renf_Hold]
    simp [Ne.symm hko]
  rw [e3]
  refine J_freeze k (cs := q.held.flatMap Hold.enc) (by simp [lookL]) (noLLf_Hold _) ?_
  have e4 : AS.frz ⟨(o, .p (.l o) 0) :: T, (k, q.held.flatMap Hold.enc) :: (o, [astr q.name, abool q.durable, aint q.depth, aint q.seq, aint q.tag, asl Itm.enc q.items, .os (.l k) 10 0 q.held.length]) :: X, (H.put n1 none).put n2 none⟩ k (q.held.flatMap Hold.enc) =
      ⟨(o, .p (.l o) 0) :: T, (o, q.enc) :: X, (H.put n1 none).put n2 none⟩ := by
    simp only [AS.frz, frzS, frzL, hTf k _ hko hkr, hXf k _ hko hkr]
    simp [Ne.symm hko, hko, hl2, List.take_of_length_le, Queue.enc]
  rw [e4]
  refine J_weakenH H0 (fun m cs hm => ?_) h
  obtain ⟨a, b, d⟩ := hH m cs hm
  simp [a, b, d]
theorem push_fun (q : Queue) (m : Msg) (hq : QFit q) (hm : MsgFit m) : PFun Tryz.prog 195 [.agg q.enc, .agg m.enc] (.tup [.agg (push q m).1.enc, aint (push q m).2]) := by
  refine PFun.of_J D_ok Tryz.func195 rfl (by decide) (le' rfl) fun H E QF hF => ?_
  change J _ E 46 _ _ _
  refine J_seq' fun K1 hK1 => J2 2 3 ?_
  simp [Queue.enc, Msg.enc]
  refine hK1 _ (J_seq' fun K2 hK2 => J_block ?_)
  refine J_bool 7 (!qGood q || decide (1099511627776 ≤ q.seq)) [2, 3, 4, 5] ?_ ?_
  · refine J2 2 3 ?_
    simp
    refine (qgood_fun q hq).call ?_
    rcases Bool.eq_false_or_eq_true (qGood q) with e | e
    · simp [e]
    · simp [e]
  refine J_cond rfl (fun hd => ?_) fun hd => ?_
  · refine J_seq' fun K3 hK3 => J2 2 3 ?_
    simp
    refine hK3 _ (J_ret (hF _ _ ?_))
    have hb : qGood q = false ∨ 1099511627776 ≤ q.seq := by simpa using hd
    simp [Tryz.f195, push, hb, noQueue, Queue.enc]
  have hb : ¬ (qGood q = false ∨ 1099511627776 ≤ q.seq) := by simpa using hd
  have hg : qGood q = true := by simpa using fun h => hb (.inl h)
  have hlen := good_len hg
  refine J_seq' fun K4 hK4 => J2 2 3 ?_
  simp
  refine (message_fun m hm.topic hm.props hm.names).call ?_
  simp
  refine hK4 _ (J_cond rfl (fun hd2 => ?_) fun hd2 => ?_)
  · refine J_seq' fun K3 hK3 => J2 2 3 ?_
    simp
    refine hK3 _ (J_ret (hF _ _ ?_))
    have hb2 : msgOk m = false := by simpa using hd2
    simp [Tryz.f195, push, hb, hb2, noQueue, Queue.enc]
  have hb2 : msgOk m = true := by simpa using hd2
  refine J_seq' fun K5 hK5 => J_drawR' D_ok (cfg := ⟨46, fun k => k == 2 || k == 3⟩) [0,1,2,3,4] [5] (fun _ => []) rfl (by decide) (by decide) ?_
  simp
  refine ⟨_, len_fun q hq.items hq.held, ?_⟩
  simp
  refine hK5 _ (J_cond rfl (fun hd3 => ?_) fun hd3 => J_skip ?_)
  · refine J_seq' fun K3 hK3 => J2 2 3 ?_
    simp
    refine hK3 _ (J_ret (hF _ _ ?_))
    have hb3 : q.depth ≤ ((q.items.length + q.held.length : Nat) : Int) := by simpa using hd3
    simp only [push, if_neg hb, hb2, if_pos hb3]
    simp [Tryz.f195, noQueue, Queue.enc]
  have hb3 : ¬ q.depth ≤ ((q.items.length + q.held.length : Nat) : Int) := by simpa using hd3
  have hpush : push q m = ({ q with seq := q.seq + 1, items := q.items ++ [⟨q.seq + 1, false, m⟩] }, 0) := by
    simp only [push, if_neg hb, hb2, if_neg hb3]
    simp
  simp only [thenQ, blockQ]
  refine hK2 _ (J_seq' fun K6 hK6 => J2 2 3 ?_)
  simp
  refine (qcopy_fun q hq.items hq.held (fun x hx => (hq.im x hx).props) (fun x hx => (hq.hm x hx).props) H).mono ?_
  rintro e H1 ⟨n1, n2, h12, hn1, hn2, rfl, hfr, hc1, hc2⟩
  simp [qcells]
  refine hK6 _ (J_seq' fun K7 hK7 => J2 2 3 ?_)
  simp
  have hws : IntKind.i64.wrap (q.seq + 1) = q.seq + 1 := w64 (by omega) (by omega)
  rw [hws]
  refine hK7 _ (J_seq' fun K8 hK8 => J_drawR' D_ok (cfg := ⟨46, fun k => k == 2 || k == 3 || k == 42⟩) [0,1,2,3,4,5,6,7,9] [8,10] (fun t => match t with | 8 => [9] | _ => []) rfl (by decide) (by decide) ?_)
  simp
  refine ⟨_, copied_fun m hm.props, ?_⟩
  simp [hc1, Msg.enc]
  have fin : ∀ (k' : Nat) (H2 : Heap), (k' = n1 ∨ H1 k' = none) → H2 k' = some ((q.items ++ [(⟨q.seq + 1, false, m⟩ : Itm)]).flatMap Itm.enc) → (∀ j, j ≠ n1 → j ≠ k' → H2 j = H1 j) → ∀ s', Has [(6, .p (.l 6) 0), (4, .p (.l 4) 0)] [(6, qrow { q with seq := q.seq + 1, items := q.items ++ [⟨q.seq + 1, false, m⟩] } k' n2), (4, zeroQ)] H2 s' → K8 s' := by
    intro k' H2 hk' e1 e2 s' hs'
    have hkn : k' ≠ n2 := by
      rcases hk' with rfl | h
      · exact h12
      · rintro rfl; rw [hc2] at h; cases h
    refine hK8 _ (J_has hs' ?_)
    refine J_out { q with seq := q.seq + 1, items := q.items ++ [⟨q.seq + 1, false, m⟩] } 6 4 k' n2 [(4, .p (.l 4) 0)] [(4, zeroQ)] H2 H hkn e1 ?_ ?_ ?_ ?_ ?_ ?_ ?_
    · rw [e2 n2 (Ne.symm h12) (Ne.symm hkn)]; exact hc2
    · intro j cs hj
      have hj1 : j ≠ n1 := by rintro rfl; rw [hn1] at hj; cases hj
      have hj2 : j ≠ n2 := by rintro rfl; rw [hn2] at hj; cases hj
      have hj3 : j ≠ k' := by
        rintro rfl
        rcases hk' with rfl | h
        · exact hj1 rfl
        · rw [hfr j hj1 hj2, hj] at h; cases h
      exact ⟨hj3, hj2, by rw [e2 j hj1 hj3, hfr j hj1 hj2, hj]⟩
    · intro k n h6 h4 _; simp [Ne.symm h4]
    · intro k cs h6 h4; simp [Ne.symm h4]
    · intro k n h6 h4 _; simp [Ne.symm h4, zeroQ]
    · intro k cs h6 h4; simp [h4, zeroQ]
    refine J_seq' fun K9 hK9 => J2 2 3 ?_
    simp [Queue.enc, zeroQ]
    refine hK9 _ (J_ret (hF _ _ ?_))
    simp [Tryz.f195, hpush, Queue.enc]
  have hwit : (q.items ++ [(⟨q.seq + 1, false, m⟩ : Itm)]).flatMap Itm.enc = q.items.flatMap Itm.enc ++ (AV.v (Value.int IntKind.i64 (q.seq + 1)) :: AV.v (Value.bool false) :: m.enc) := by simp [List.flatMap_append, Itm.enc]
  refine ⟨by omega, by omega, fin n1 _ (.inl rfl) ?_ ?_ _ ⟨by simp, by simp [qrow, zeroQ], rfl⟩, fun k' hk' => fin k' _ (.inr hk') ?_ ?_ _ ⟨by simp, by simp [qrow, zeroQ], rfl⟩⟩
  · simp [hwit, Msg.enc]
  · intro j a b; simp [a]
  · simp [hwit, Msg.enc]
  · intro j a b; simp [a, b]
end
section
attribute [local simp] D_37 D_146 D_248 D_232
def expd (now : Int) (x : Itm) : Bool := decide (0 < x.msg.til) && decide (x.msg.til ≤ now)
theorem expd_fun (x : Itm) (now : Int) : PFun Tryz.prog 209 [.agg x.enc, .vp [aint now]] (abool (expd now x)) := by
  refine PFun.of_J D_ok Tryz.func209 rfl (by decide) (le' rfl) fun H E QF hF => ?_
  change J _ E 15 _ _ _
  refine J_seq' fun K1 hK1 => J1 2 ?_
  simp [Itm.enc, Msg.enc]
  refine hK1 _ (J_seq' fun K2 hK2 => ?_)
  refine J1 2 ?_
  rcases Int.lt_or_le 0 x.msg.til with e | e
  · simp [e, show ¬ x.msg.til ≤ 0 from by omega]
    refine hK2 _ (J_ret (hF _ _ ?_))
    simp [Tryz.f209, expd, e]
  · simp [e, show ¬ 0 < x.msg.til from by omega]
    refine hK2 _ (J_ret (hF _ _ ?_))
    simp [Tryz.f209, expd, show ¬ 0 < x.msg.til from by omega]
def expire (q : Queue) (now : Int) : Queue × Int :=
  if qGood q = false then (noQueue, 1) else ({ q with items := q.items.filter fun x => !expd now x }, 0)
theorem frame3 {H H1 H2 : Heap} {n1 n2 k' : Nat} (hn1 : H n1 = none) (hn2 : H n2 = none) (hfr : ∀ m, m ≠ n1 → m ≠ n2 → H1 m = H m) (hk' : k' = n1 ∨ k' = n2 ∨ H1 k' = none) (h2 : ∀ m, m ≠ n1 → m ≠ n2 → m ≠ k' → H2 m = H1 m) : ∀ m cs, H m = some cs → m ≠ n1 ∧ m ≠ n2 ∧ m ≠ k' ∧ H2 m = some cs := by
  intro j cs hj
  have hj1 : j ≠ n1 := by rintro rfl; rw [hn1] at hj; cases hj
  have hj2 : j ≠ n2 := by rintro rfl; rw [hn2] at hj; cases hj
  have hj3 : j ≠ k' := by
    rintro rfl
    rcases hk' with rfl | rfl | h
    · exact hj1 rfl
    · exact hj2 rfl
    · rw [hfr j hj1 hj2, hj] at h; cases h
  exact ⟨hj1, hj2, hj3, by rw [h2 j hj1 hj2 hj3, hfr j hj1 hj2, hj]⟩
theorem expire_fun (q : Queue) (now : Int) (hq : QFit q) : PFun Tryz.prog 133 [.agg q.enc, aint now] (.tup [.agg (expire q now).1.enc, aint (expire q now).2]) := by
  refine PFun.of_J D_ok Tryz.func133 rfl (by decide) (le' rfl) fun H E QF hF => ?_
  change J _ E 19 _ _ _
  refine J_seq' fun K1 hK1 => J2 2 3 ?_
  simp [Queue.enc]
  refine hK1 _ (J_seq' fun K2 hK2 => J_seq' fun K3 hK3 => J2 2 3 ?_)
  simp
  refine (qgood_fun q hq).call ?_
  simp
  refine hK3 _ (J_cond rfl (fun hd => ?_) fun hd => J_skip ?_)
  · have hg : qGood q = false := by simpa using hd
    refine J_seq' fun K4 hK4 => J2 2 3 ?_
    simp
    refine hK4 _ (J_ret (hF _ _ ?_))
    simp [Tryz.f133, expire, hg, noQueue, Queue.enc]
  have hg : qGood q = true := by simpa using hd
  have hlen := good_len hg
  have hexp : expire q now = ({ q with items := q.items.filter fun x => !expd now x }, 0) := by simp [expire, hg]
  simp only [thenQ]
  refine hK2 _ (J_seq' fun K6 hK6 => J2 2 3 ?_)
  simp
  refine (qcopy_fun q hq.items hq.held (fun x hx => (hq.im x hx).props) (fun x hx => (hq.hm x hx).props) H).mono ?_
  rintro e H1 ⟨n1, n2, h12, hn1, hn2, rfl, hfr, hc1, hc2⟩
  simp [qcells]
  refine hK6 _ (J_seq' fun K7 hK7 => J2 2 3 ?_)
  simp
  refine (delf_Itm q.items hq.items 209 [.vp [aint now]] rfl (expd now) (fun x _ => expd_fun x now) H1 n1 hc1).mono ?_
  rintro e H2 ⟨k', hk', rfl, hfr2, hc3⟩
  have hkn : k' ≠ n2 := by
    rcases hk' with rfl | h
    · exact h12
    · rintro rfl; rw [hc2] at h; cases h
  simp
  refine hK7 _ ?_
  have hfm := frame3 hn1 hn2 hfr (hk'.imp_right .inr) (fun m a b c => hfr2 m a c)
  refine J_has (T := [(6, .p (.l 6) 0), (4, .p (.l 4) 0)]) (L := [(6, qrow { q with items := q.items.filter fun x => !expd now x } k' n2), (4, zeroQ)]) (H := H2) ⟨by simp, by simp [qrow, zeroQ], rfl⟩ ?_
  refine J_out { q with items := q.items.filter fun x => !expd now x } 6 4 k' n2 [(4, .p (.l 4) 0)] [(4, zeroQ)] H2 H hkn hc3 ?_ ?_ ?_ ?_ ?_ ?_ ?_
  · rw [hfr2 n2 (Ne.symm h12) (Ne.symm hkn)]; exact hc2
  · intro j cs hj; obtain ⟨a, b, c, d⟩ := hfm j cs hj; exact ⟨c, b, d⟩
  · intro k n h6 h4 _; simp [Ne.symm h4]
  · intro k cs h6 h4; simp [Ne.symm h4]
  · intro k n h6 h4 _; simp [Ne.symm h4, zeroQ]
  · intro k cs h6 h4; simp [h4, zeroQ]
  refine J_seq' fun K9 hK9 => J2 2 3 ?_
  simp [Queue.enc, zeroQ]
  refine hK9 _ (J_ret (hF _ _ ?_))
  simp [Tryz.f133, hexp, Queue.enc]
end
section
attribute [local simp] D_37 D_146 D_248 D_232 D_185
attribute [local simp ↓] evQsh evQh
theorem bseq_fun (y : Itm) (s : Int) : PFun Tryz.prog 235 [.agg y.enc, aint s] (aint (icmp y.seq s)) := by
  refine PFun.of_J D_ok Tryz.func235 rfl (by decide) (le' rfl) fun H E QF hF => ?_
  change J _ E 9 _ _ _
  refine J_seq' fun K1 hK1 => J1 2 ?_
  simp [Itm.enc, Msg.enc]
  refine hK1 _ (J_seq' fun K2 hK2 => J1 2 ?_)
  simp
  refine (icmp_fun _ _).call ?_
  simp
  refine hK2 _ (J_ret (hF _ _ ?_))
  simp [Tryz.f235]
def bk (q : Queue) (x : Itm) : Queue := { q with items := insAt (bsearch (fun y => icmp y.seq x.seq) q.items) { x with again := true } q.items }
def BackQ (H : Heap) (b n1 n2 : Nat) (q : Queue) (e : AE) (H' : Heap) : Prop := ∃ k', (k' = n1 ∨ H k' = none) ∧ (∃ v, e = .ret v) ∧ H' b = some (qrow q k' n2) ∧ H' k' = some (q.items.flatMap Itm.enc) ∧ ∀ m, m ≠ b → m ≠ n1 → m ≠ k' → H' m = H m
theorem BackQ.mk {H : Heap} {b n1 n2 : Nat} {q : Queue} {H' : Heap} (k' : Nat) (h1 : k' = n1 ∨ H k' = none) (v : AV) (h2 : H' b = some (qrow q k' n2)) (h3 : H' k' = some (q.items.flatMap Itm.enc)) (h4 : ∀ m, m ≠ b → m ≠ n1 → m ≠ k' → H' m = H m) : BackQ H b n1 n2 q (.ret v) H' := ⟨k', h1, ⟨v, rfl⟩, h2, h3, h4⟩
theorem insAt_len {α : Type} {i : Nat} {xs : List α} (h : i ≤ xs.length) (y : α) : (insAt i y xs).length = xs.length + 1 := by
  simp only [insAt, List.length_append, List.length_take, List.length_cons, List.length_drop]; omega
theorem back_fun (q : Queue) (x : Itm) (hq : q.items.length ≤ 2000000) (H : Heap) (b n1 n2 : Nat) (hb1 : b ≠ n1) (hb2 : b ≠ n2) (h12 : n1 ≠ n2) (hb : H b = some (qrow q n1 n2)) (h1 : H n1 = some (q.items.flatMap Itm.enc)) :
    PCalls Tryz.prog 172 [.p (.h b) 0, .agg x.enc] H (BackQ H b n1 n2 (bk q x)) := by
  refine PCalls.of_J' D_ok Tryz.func172 rfl (by decide) (le' rfl) fun E QF hF => ?_
  change J _ E 28 _ _ _
  refine J_seq' fun K1 hK1 => J0 ?_
  simp [Itm.enc, Msg.enc]
  refine hK1 _ (J_seq' fun K2 hK2 => J0 ?_)
  simp
  refine hK2 _ (J_seq' fun K3 hK3 => J_drawH D_ok (cfg := ⟨28, fun _ => false⟩) [0,1,2,3,4,5,6,7,8,9] [10,11] (fun t => match t with | 10 => [9] | _ => []) rfl (by decide) (by decide) ?_)
  simp [hb, qrow]
  refine ⟨_, bs_Itm q.items hq x.seq 235 [] rfl (fun y => icmp y.seq x.seq) (fun y _ => bseq_fun y x.seq) H n1 h1, ?_⟩
  simp
  have hbl := bsearch_le (fun y : Itm => icmp y.seq x.seq) q.items
  generalize hi : bsearch (fun y : Itm => icmp y.seq x.seq) q.items = i at hbl
  refine hK3 _ (D1 24 [0,1,2,3,4,5,6,7,9,10] [8,11] (fun t => match t with | 8 => [0,9,10] | _ => []) rfl (by decide) (by decide) ?_)
  simp [hb, qrow]
  refine (ins_Itm q.items hq i hbl { x with again := true } H n1 h1).mono ?_
  rintro e H2 ⟨k', hk', rfl, hfr, hc⟩
  have hkb : k' ≠ b := by
    rcases hk' with rfl | h
    · exact Ne.symm hb1
    · rintro rfl; rw [hb] at h; cases h
  have hb' : H2 b = some (qrow q n1 n2) := by rw [hfr b hb1 (Ne.symm hkb), hb]
  simp [hb', qrow]
  have hil : (insAt i { x with again := true } q.items).length = q.items.length + 1 := insAt_len hbl _
  refine hF _ _ ?_
  simp [Tryz.f172]
  refine .mk k' hk' _ ?_ ?_ ?_
  · simp [qrow, bk, hi, hil]
  · simp [hkb, bk, hi, hc]
  · intro m a b' c; simp [a, hfr m b' c]
end
section
attribute [local simp] D_37 D_146 D_248 D_232 D_185
attribute [local simp ↓] evQsh evQh
def tagIs (tag conn : Int) (h : Hold) : Bool := decide (h.tag = tag) && decide (h.conn = conn)
theorem tagIs_fun (h : Hold) (tag conn : Int) : PFun Tryz.prog 256 [.agg h.enc, .vp [aint tag], .vp [aint conn]] (abool (tagIs tag conn h)) := by
  refine PFun.of_J D_ok Tryz.func256 rfl (by decide) (le' rfl) fun H E QF hF => ?_
  change J _ E 15 _ _ _
  refine J_seq' fun K1 hK1 => J1 3 ?_
  simp [Hold.enc, Itm.enc, Msg.enc]
  refine hK1 _ (J_seq' fun K2 hK2 => ?_)
  refine J1 3 ?_
  by_cases e : h.tag = tag
  · simp [e]
    refine hK2 _ (J_ret (hF _ _ ?_))
    simp [Tryz.f256, tagIs, e]
    by_cases e2 : h.conn = conn <;> simp [e2]
  · simp [e]
    refine hK2 _ (J_ret (hF _ _ ?_))
    simp [Tryz.f256, tagIs, e]
def settle (q : Queue) (conn tag : Int) (again : Bool) : Queue × Int :=
  if qGood q = false then (noQueue, 1) else
  match q.held[(idx (tagIs tag conn) q.held).toNat]? with
  | none => (noQueue, 33)
  | some h => if idx (tagIs tag conn) q.held < 0 then (noQueue, 33) else
    let out : Queue := { q with held := q.held.eraseIdx (idx (tagIs tag conn) q.held).toNat }
    (if again then bk out h.item else out, 0)
theorem J_subL {P : Program} {E : Ent} {N : Nat} {c : Code} {Q : AX → AS → Prop} {s : AS} (L : List (Nat × List AV)) (hL : ∀ k cs, lookL L k = some cs → lookL s.L k = some cs) (h : J P E N c Q { s with L := L }) : J P E N c Q s := by
  intro M ψ a w hat
  have hg : ∀ l cs, (mkG L s.H) l = some cs → s.g l = some cs := by
    intro l cs hl
    cases l with
    | l k => exact hL k cs hl
    | h n => exact hl
  have hs : ∀ l, ((mkG L s.H) l).isSome → (s.g l).isSome := by
    intro l hl
    obtain ⟨cs, hc⟩ := Option.isSome_iff_exists.mp hl
    rw [hg l cs hc]; rfl
  refine h M ψ a w ⟨⟨hat.since.os, hat.since.tape, hat.since.output, hat.since.size, hat.since.blk, hat.since.le, hat.since.psi, hat.since.newM, hat.since.newψ, fun l i h1 h2 => hat.since.live l i (hs l h1) h2⟩,
    ⟨hat.sr.imm, fun l cs hl => hat.sr.obj l cs (hg l cs hl), fun l cs hl => hat.sr.empt l cs (hg l cs hl), fun l l' i i' h1 h2 => hat.sr.apart l l' i i' (hs l h1) (hs l' h2), fun l i h1 => hat.sr.mt l i (hs l h1), fun k i m j h1 h2 h3 => hat.sr.sep k i m j h1 (hs _ h2) h3, hat.sr.lt, hat.sr.fin⟩, hat.sl, hat.n, hat.d⟩
theorem settle_fun (q : Queue) (conn tag : Int) (again : Bool) (hq : QFit q) : PFun Tryz.prog 207 [.agg q.enc, aint conn, aint tag, abool again] (.tup [.agg (settle q conn tag again).1.enc, aint (settle q conn tag again).2]) := by
  refine PFun.of_J D_ok Tryz.func207 rfl (by decide) (le' rfl) fun H E QF hF => ?_
  change J _ E 43 _ _ _
  refine J_seq' fun K1 hK1 => J_region D_ok (cfg := ⟨43, fun k => k == 4 || k == 5 || k == 6⟩) ?_
  simp [Queue.enc]
  refine hK1 _ (J_seq' fun K2 hK2 => J_seq' fun K3 hK3 => J_region D_ok (cfg := ⟨43, fun k => k == 4 || k == 5 || k == 6⟩) ?_)
  simp
  refine (qgood_fun q hq).call ?_
  simp
  refine hK3 _ (J_cond rfl (fun hd => ?_) fun hd => J_skip ?_)
  · have hg : qGood q = false := by simpa using hd
    refine J_seq' fun K4 hK4 => J_region D_ok (cfg := ⟨43, fun k => k == 4 || k == 5 || k == 6⟩) ?_
    simp
    refine hK4 _ (J_ret (hF _ _ ?_))
    simp [Tryz.f207, settle, hg, noQueue, Queue.enc]
  have hg : qGood q = true := by simpa using hd
  have hlen := good_len hg
  simp only [thenQ]
  refine hK2 _ (J_seq' fun K4 hK4 => J_region D_ok (cfg := ⟨43, fun k => k == 4 || k == 5 || k == 6⟩) ?_)
  simp
  refine (index_Hold q.held hq.held 256 [.vp [aint tag], .vp [aint conn]] rfl (tagIs tag conn) (fun h _ => tagIs_fun h tag conn)).call ?_
  simp
  refine hK4 _ (J_seq' fun K5 hK5 => J_seq' fun K6 hK6 => J_region D_ok (cfg := ⟨43, fun k => k == 4 || k == 5 || k == 6⟩) ?_)
  simp
  rcases idx_spec (tagIs tag conn) q.held with ⟨i1, i2⟩ | ⟨i, h, i1, i2, i3, _⟩
  · rw [i1]
    refine hK6 _ (J_cond rfl (fun _ => ?_) fun hc => by simp at hc)
    refine J_seq' fun K7 hK7 => J_region D_ok (cfg := ⟨43, fun k => k == 4 || k == 5 || k == 6⟩) ?_
    simp
    refine hK7 _ (J_ret (hF _ _ ?_))
    have hs : settle q conn tag again = (noQueue, 33) := by
      simp only [settle, hg, i1]
      simp
      split <;> rfl
    simp [Tryz.f207, hs, noQueue, Queue.enc]
  have hil : i < q.held.length := by
    rcases Nat.lt_or_ge i q.held.length with h | h
    · exact h
    · rw [List.getElem?_eq_none h] at i2; cases i2
  let out : Queue := { q with held := q.held.eraseIdx i }
  have hs : settle q conn tag again = (if again then bk out h.item else out, 0) := by
    simp only [settle, hg, i1, Int.toNat_natCast, i2]
    simp [out]
  rw [i1]
  refine hK6 _ (J_cond rfl (fun hc => by simp at hc; omega) fun _ => J_skip ?_)
  simp only [thenQ]
  refine hK5 _ (J_seq' fun K7 hK7 => J_region D_ok (cfg := ⟨43, fun k => k == 4 || k == 5 || k == 6⟩) ?_)
  simp
  refine (qcopy_fun q hq.items hq.held (fun x hx => (hq.im x hx).props) (fun x hx => (hq.hm x hx).props) H).mono ?_
  rintro e H1 ⟨n1, n2, h12, hn1, hn2, rfl, hfr, hc1, hc2⟩
  have hat := at_Hold q.held i2
  have hat2 : List.take 7 (List.drop (i * 10 + 3) (q.held.flatMap Hold.enc)) = h.item.enc := by rw [sub_at hat (by omega)]; rfl
  simp [qcells]
  refine hK7 _ (J_seq' fun K8 hK8 => J_region D_ok (cfg := ⟨43, fun k => k == 4 || k == 5 || k == 6⟩) ?_)
  simp [hc2, hat2, len_Itm, kill_Itm]
  repeat refine And.intro (by omega) ?_
  refine hK8 _ (J_seq' fun K9 hK9 => J_region D_ok (cfg := ⟨43, fun k => k == 4 || k == 5 || k == 6⟩) ?_)
  simp
  rw [w64 (by omega) (by omega)]
  refine (del_Hold q.held hq.held i hil H1 n2 hc2).mono ?_
  rintro e H2 ⟨k', hk', rfl, hfr2, hc3⟩
  have hkn : k' ≠ n1 := by
    rcases hk' with rfl | h
    · exact Ne.symm h12
    · rintro rfl; rw [hc1] at h; cases h
  have hc1' : H2 n1 = some (q.items.flatMap Itm.enc) := by rw [hfr2 n1 h12 (Ne.symm hkn)]; exact hc1
  have hfm := frame3 hn1 hn2 hfr (k' := k') (.inr hk') (fun m a b c => hfr2 m b c)
  simp
  refine hK9 _ ?_
  have hol : out.held.length = q.held.length - 1 := by simp [out, List.length_eraseIdx, hil]
  refine J_has (T := [(11, .p (.l 11) 0), (8, .p (.l 8) 0), (12, .p (.l 12) 0), (3, abool again)]) (L := [(12, h.item.enc), (11, qrow out n1 k'), (8, zeroQ)]) (H := H2) ⟨by simp, by simp [qrow, zeroQ, out, kill_Itm, List.length_eraseIdx, hil], rfl⟩ ?_
  refine J_seq' fun K10 hK10 => J_seq' fun K11 hK11 => J_region D_ok (cfg := ⟨43, fun k => k == 4 || k == 5 || k == 6⟩) ?_
  simp
  refine hK11 _ (J_cond rfl (fun hag => ?_) fun hag => J_skip ?_)
  · subst hag
    refine J_escape 11 (cs := qrow out n1 k') (by simp [lookL]) (by simp [qrow]) fun b hb => ?_
    have hb' : H2 b = none := hb
    have hb1 : b ≠ n1 := by rintro rfl; rw [hc1'] at hb'; cases hb'
    have hb2 : b ≠ k' := by rintro rfl; rw [hc3] at hb'; cases hb'
    simp [zeroQ, Itm.enc, Msg.enc]
    refine J_region D_ok (cfg := ⟨43, fun k => k == 4 || k == 5 || k == 6⟩) ?_
    simp
    have hrow : AV.agg [AV.v (Value.int IntKind.i64 h.item.seq), AV.v (Value.bool h.item.again), AV.v (Value.string h.item.msg.topic), AV.v (Value.string h.item.msg.body), AV.sl h.item.msg.props.length (List.flatMap Pro.enc h.item.msg.props), AV.v (Value.bool h.item.msg.durable), AV.v (Value.int IntKind.i64 h.item.msg.til)] = .agg h.item.enc := rfl
    rw [hrow]
    refine (back_fun out h.item hq.items (H2.put b (some (qrow out n1 k'))) b n1 k' hb1 hb2 (Ne.symm hkn) (by simp) (by simp [Ne.symm hb1, hc1', out])).mono ?_
    rintro e H4 ⟨k2, hk2, ⟨v, rfl⟩, hB, hI, hF4⟩
    have hk2b : k2 ≠ b := by
      rcases hk2 with rfl | h'
      · exact Ne.symm hb1
      · rintro rfl; simp at h'
    have hk2k : k2 ≠ k' := by
      rcases hk2 with rfl | h'
      · exact Ne.symm hkn
      · rintro rfl; simp [hk2b, hc3] at h'
    have hc4 : H4 k' = some (out.held.flatMap Hold.enc) := by rw [hF4 k' (Ne.symm hb2) hkn (Ne.symm hk2k)]; simp [Ne.symm hb2, hc3, out]
    simp
    refine hK10 _ ?_
    refine J_adopt 11 b hB ?_
    refine J_has (T := [(11, .p (.l 11) 0), (8, .p (.l 8) 0)]) (L := AS.L (AS.adopt ⟨_, _, H4⟩ 11 b (qrow (bk out h.item) k2 k'))) (H := H4.put b none) ⟨by simp, rfl, rfl⟩ ?_
    refine J_subL [(11, qrow (bk out h.item) k2 k'), (8, zeroQ)] ?_ ?_
    · intro k cs hk
      simp [qrow, hk2b, Ne.symm hb2, zeroQ] at hk ⊢
      by_cases a : k = 11
      · subst a; simpa using hk
      · by_cases b : k = 8
        · subst b; simpa using hk
        · simp [a, b] at hk
    simp
    refine J_out (bk out h.item) 11 8 k2 k' [(8, .p (.l 8) 0)] [(8, zeroQ)] (H4.put b none) H hk2k (by simp [hk2b, hI]) (by simp [Ne.symm hb2]; exact hc4) ?_ ?_ ?_ ?_ ?_ ?_
    · intro j cs hj
      obtain ⟨a, b', c, d⟩ := hfm j cs hj
      have hjb : j ≠ b := by rintro rfl; rw [hb'] at d; cases d
      have hjk : j ≠ k2 := by
        rcases hk2 with rfl | h'
        · exact a
        · rintro rfl; simp [hjb, d] at h'
      refine ⟨hjk, c, ?_⟩
      simp [hjb, hF4 j hjb a hjk, d]
    · intro k n h6 h4 _; simp [Ne.symm h4]
    · intro k cs h6 h4; simp [Ne.symm h4]
    · intro k n h6 h4 _; simp [Ne.symm h4, zeroQ]
    · intro k cs h6 h4; simp [h4, zeroQ]
    refine J_seq' fun K12 hK12 => J_region D_ok (cfg := ⟨43, fun k => k == 4 || k == 5 || k == 6⟩) ?_
    simp [Queue.enc, zeroQ]
    refine hK12 _ (J_ret (hF _ _ ?_))
    simp [Tryz.f207, hs, Queue.enc]
  · subst hag
    simp only [thenQ]
    refine hK10 _ ?_
    refine J_subL [(11, qrow out n1 k'), (8, zeroQ)] ?_ ?_
    · intro k cs hk
      simp [lookL] at hk ⊢
      by_cases a : k = 11
      · subst a; simpa using hk
      · by_cases b : k = 8
        · subst b; simpa using hk
        · simp [a, b] at hk
    refine J_has (T := [(11, .p (.l 11) 0), (8, .p (.l 8) 0)]) (L := [(11, qrow out n1 k'), (8, zeroQ)]) (H := H2) ⟨by simp, by simp, rfl⟩ ?_
    refine J_out out 11 8 n1 k' [(8, .p (.l 8) 0)] [(8, zeroQ)] H2 H (Ne.symm hkn) hc1' hc3 ?_ ?_ ?_ ?_ ?_ ?_
    · intro j cs hj; obtain ⟨a, b, c, d⟩ := hfm j cs hj; exact ⟨a, c, d⟩
    · intro k n h6 h4 _; simp [Ne.symm h4]
    · intro k cs h6 h4; simp [Ne.symm h4]
    · intro k n h6 h4 _; simp [Ne.symm h4, zeroQ]
    · intro k cs h6 h4; simp [h4, zeroQ]
    refine J_seq' fun K12 hK12 => J_region D_ok (cfg := ⟨43, fun k => k == 4 || k == 5 || k == 6⟩) ?_
    simp [Queue.enc, zeroQ]
    refine hK12 _ (J_ret (hF _ _ ?_))
    simp [Tryz.f207, hs, Queue.enc]
end
section
attribute [local simp] D_37 D_146 D_248 D_232 D_185
attribute [local simp ↓] evQsh evQh
def relc (c s : Int) (h : Hold) : Bool := decide (h.conn = c) && (decide (s = -1) || decide (h.sub = s))
def relStep (c s : Int) (o : Queue) (h : Hold) : Queue := if relc c s h then bk o h.item else { o with held := o.held ++ [h] }
def release (q : Queue) (c s : Int) : Queue × Int :=
  if qGood q = false then (noQueue, 1) else (q.held.foldl (relStep c s) { q with held := [] }, 0)
theorem bk_len (q : Queue) (x : Itm) : (bk q x).items.length = q.items.length + 1 := insAt_len (bsearch_le _ _) _
theorem relStep_len (c s : Int) (o : Queue) (h : Hold) : (relStep c s o h).items.length + (relStep c s o h).held.length = o.items.length + o.held.length + 1 := by
  unfold relStep
  split
  · rw [bk_len]; simp only [bk]; omega
  · simp only [List.length_append, List.length_cons, List.length_nil]; omega
structure RelAt (H0 : Heap) (b m2 : Nat) (src : List AV) (o : Queue) (H : Heap) : Prop where
  ex : ∃ nI nH, b ≠ nI ∧ b ≠ nH ∧ b ≠ m2 ∧ nI ≠ nH ∧ nI ≠ m2 ∧ nH ≠ m2 ∧ H b = some (qrow o nI nH) ∧ H nI = some (o.items.flatMap Itm.enc) ∧ H nH = some (o.held.flatMap Hold.enc) ∧ H m2 = some src ∧
    ∀ m cs, H0 m = some cs → m ≠ b ∧ m ≠ nI ∧ m ≠ nH ∧ m ≠ m2 ∧ H m = some cs
theorem RelAt.back {H0 : Heap} {b m2 : Nat} {src : List AV} {o : Queue} {H H4 : Heap} {nI nH : Nat} {x : Itm} {e : AE} (d1 : b ≠ nI) (d2 : b ≠ nH) (d3 : b ≠ m2) (d4 : nI ≠ nH) (d5 : nI ≠ m2) (d6 : nH ≠ m2) (e1 : H b = some (qrow o nI nH)) (e3 : H nH = some (o.held.flatMap Hold.enc)) (e4 : H m2 = some src)
    (hf : ∀ m cs, H0 m = some cs → m ≠ b ∧ m ≠ nI ∧ m ≠ nH ∧ m ≠ m2 ∧ H m = some cs) (hB : BackQ H b nI nH (bk o x) e H4) : RelAt H0 b m2 src (bk o x) H4 := by
  obtain ⟨k, hk, _, g1, g2, g3⟩ := hB
  have hkb : k ≠ b := by
    rcases hk with rfl | h
    · exact Ne.symm d1
    · rintro rfl; rw [e1] at h; cases h
  have hkH : k ≠ nH := by
    rcases hk with rfl | h
    · exact d4
    · rintro rfl; rw [e3] at h; cases h
  have hkm : k ≠ m2 := by
    rcases hk with rfl | h
    · exact d5
    · rintro rfl; rw [e4] at h; cases h
  refine ⟨k, nH, Ne.symm hkb, d2, d3, hkH, hkm, d6, g1, g2, ?_, ?_, ?_⟩
  · rw [g3 nH (Ne.symm d2) (Ne.symm d4) (Ne.symm hkH)]; exact e3
  · rw [g3 m2 (Ne.symm d3) (Ne.symm d5) (Ne.symm hkm)]; exact e4
  · intro m cs hm
    obtain ⟨a1, a2, a3, a4, a5⟩ := hf m cs hm
    have : m ≠ k := by
      rcases hk with rfl | h
      · exact a2
      · rintro rfl; rw [a5] at h; cases h
    exact ⟨a1, this, a3, a4, by rw [g3 m a1 a2 this]; exact a5⟩
theorem RelAt.app {H0 : Heap} {b m2 : Nat} {src : List AV} {o : Queue} {H H4 : Heap} {nI nH k : Nat} {x : Hold} (d1 : b ≠ nI) (d2 : b ≠ nH) (d3 : b ≠ m2) (d4 : nI ≠ nH) (d5 : nI ≠ m2) (d6 : nH ≠ m2) (e1 : H b = some (qrow o nI nH)) (e2 : H nI = some (o.items.flatMap Itm.enc)) (e3 : H nH = some (o.held.flatMap Hold.enc)) (e4 : H m2 = some src)
    (hf : ∀ m cs, H0 m = some cs → m ≠ b ∧ m ≠ nI ∧ m ≠ nH ∧ m ≠ m2 ∧ H m = some cs) (hk : k = nH ∨ H k = none) (g1 : H4 b = some (qrow { o with held := o.held ++ [x] } nI k)) (g2 : H4 k = some ((o.held ++ [x]).flatMap Hold.enc)) (g3 : ∀ m, m ≠ b → m ≠ nH → m ≠ k → H4 m = H m) : RelAt H0 b m2 src { o with held := o.held ++ [x] } H4 := by
  have hkb : k ≠ b := by
    rcases hk with rfl | h
    · exact Ne.symm d2
    · rintro rfl; rw [e1] at h; cases h
  have hkI : k ≠ nI := by
    rcases hk with rfl | h
    · exact Ne.symm d4
    · rintro rfl; rw [e2] at h; cases h
  have hkm : k ≠ m2 := by
    rcases hk with rfl | h
    · exact d6
    · rintro rfl; rw [e4] at h; cases h
  refine ⟨nI, k, d1, Ne.symm hkb, d3, Ne.symm hkI, d5, hkm, g1, ?_, g2, ?_, ?_⟩
  · rw [g3 nI (Ne.symm d1) d4 (Ne.symm hkI)]; exact e2
  · rw [g3 m2 (Ne.symm d3) (Ne.symm d6) (Ne.symm hkm)]; exact e4
  · intro m cs hm
    obtain ⟨a1, a2, a3, a4, a5⟩ := hf m cs hm
    have : m ≠ k := by
      rcases hk with rfl | h
      · exact a3
      · rintro rfl; rw [a5] at h; cases h
    exact ⟨a1, a2, this, a4, by rw [g3 m a1 a3 this]; exact a5⟩
theorem release_fun (q : Queue) (conn sub : Int) (hq : QFit q) : PFun Tryz.prog 93 [.agg q.enc, aint conn, aint sub] (.tup [.agg (release q conn sub).1.enc, aint (release q conn sub).2]) := by
  refine PFun.of_J D_ok Tryz.func93 rfl (by decide) (le' rfl) fun H E QF hF => ?_
  change J _ E 51 _ _ _
  refine J_seq' fun K1 hK1 => J1 3 ?_
  simp [Queue.enc]
  refine hK1 _ (J_seq' fun K2 hK2 => J_seq' fun K3 hK3 => J1 3 ?_)
  simp
  refine (qgood_fun q hq).call ?_
  simp
  refine hK3 _ (J_cond rfl (fun hd => ?_) fun hd => J_skip ?_)
  · have hg : qGood q = false := by simpa using hd
    refine J_seq' fun K4 hK4 => J1 3 ?_
    simp
    refine hK4 _ (J_ret (hF _ _ ?_))
    simp [Tryz.f93, release, hg, noQueue, Queue.enc]
  have hg : qGood q = true := by simpa using hd
  have hlen := good_len hg
  have hrel : release q conn sub = (q.held.foldl (relStep conn sub) { q with held := [] }, 0) := by simp [release, hg]
  simp only [thenQ]
  refine hK2 _ (J_seq' fun K4 hK4 => J1 3 ?_)
  simp
  refine (qcopy_fun q hq.items hq.held (fun x hx => (hq.im x hx).props) (fun x hx => (hq.hm x hx).props) H).mono ?_
  rintro e H1 ⟨n1, n2, h12, hn1, hn2, rfl, hfr, hc1, hc2⟩
  simp [qcells]
  refine hK4 _ (J_seq' fun K5 hK5 => J1 3 ?_)
  simp
  refine hK5 _ ?_
  refine J_nilCell 8 10 [astr q.name, abool q.durable, aint q.depth, aint q.seq, aint q.tag, .os (.h n1) 7 0 q.items.length] [] (by simp [lookL]) fun nH hnH => ?_
  simp at hnH
  refine J_escape 8 (cs := qrow { q with held := [] } n1 nH) (by simp [lookL, qrow]) (by simp [qrow]) fun b hb => ?_
  have hb' : (if b = nH then some [] else H1 b) = none := hb
  have hbH : b ≠ nH := by rintro rfl; simp at hb'
  rw [if_neg hbH] at hb'
  have hb1 : b ≠ n1 := by rintro rfl; rw [hc1] at hb'; cases hb'
  have hH1 : nH ≠ n1 := by rintro rfl; rw [hc1] at hnH; cases hnH
  simp
  refine J_seq' fun K6 hK6 => J_seq' fun K7 hK7 => J1 3 ?_
  simp
  refine (qcopy_fun q hq.items hq.held (fun x hx => (hq.im x hx).props) (fun x hx => (hq.hm x hx).props) _).mono ?_
  rintro e H2 ⟨m1, m2, hm12, hm1, hm2, rfl, hfr2, hd1, hd2⟩
  simp at hm1 hm2
  simp [qcells]
  refine hK7 _ (J_block ?_)
  have hm2b : m2 ≠ b := by rintro rfl; simp at hm2
  rw [if_neg hm2b] at hm2
  have hm2H : m2 ≠ nH := by rintro rfl; simp at hm2
  rw [if_neg hm2H] at hm2
  have hm21 : m2 ≠ n1 := by rintro rfl; rw [hc1] at hm2; cases hm2
  have hm1b : m1 ≠ b := by rintro rfl; simp at hm1
  rw [if_neg hm1b] at hm1
  have hm1H : m1 ≠ nH := by rintro rfl; simp at hm1
  rw [if_neg hm1H] at hm1
  have hm11 : m1 ≠ n1 := by rintro rfl; rw [hc1] at hm1; cases hm1
  have hinit : RelAt H b m2 (q.held.flatMap Hold.enc) { q with held := [] } H2 := by
    refine ⟨n1, nH, hb1, hbH, Ne.symm hm2b, Ne.symm hH1, Ne.symm hm21, Ne.symm hm2H, ?_, ?_, ?_, hd2, ?_⟩
    · rw [hfr2 b (Ne.symm hm1b) (Ne.symm hm2b)]; simp
    · rw [hfr2 n1 (Ne.symm hm11) (Ne.symm hm21)]; simp [Ne.symm hb1, Ne.symm hH1, hc1]
    · rw [hfr2 nH (Ne.symm hm1H) (Ne.symm hm2H)]; simp [Ne.symm hbH]
    · intro m cs hm
      have a1 : m ≠ n1 := by rintro rfl; rw [hn1] at hm; cases hm
      have a2 : m ≠ n2 := by rintro rfl; rw [hn2] at hm; cases hm
      have a3 : H1 m = some cs := by rw [hfr m a1 a2, hm]
      have a4 : m ≠ b := by rintro rfl; rw [hb'] at a3; cases a3
      have a5 : m ≠ nH := by rintro rfl; rw [hnH] at a3; cases a3
      have a6 : m ≠ m1 := by rintro rfl; rw [hm1] at a3; cases a3
      have a7 : m ≠ m2 := by rintro rfl; rw [hm2] at a3; cases a3
      refine ⟨a4, a1, a5, a7, ?_⟩
      rw [hfr2 m a6 a7]; simp [a4, a5, a3]
  refine J_loop' (fun m s' => ∃ i : Nat, i ≤ q.held.length ∧ m = q.held.length - i ∧ ((q.held.take i).foldl (relStep conn sub) { q with held := [] }).items.length + ((q.held.take i).foldl (relStep conn sub) { q with held := [] }).held.length = q.items.length + i ∧ lookL s'.L 6 = some zeroQ ∧ RelAt H b m2 (q.held.flatMap Hold.enc) ((q.held.take i).foldl (relStep conn sub) { q with held := [] }) s'.H ∧ Has [(1, aint conn), (2, aint sub), (6, .p (.l 6) 0), (7, aint 0), (8, .p (.h b) 0), (20, .os (.h m2) 10 0 q.held.length), (21, aint q.held.length), (22, aint i)] s'.L s'.H s') (n := q.held.length) ⟨0, by omega, by omega, by simp, by simp [zeroQ], by simpa using hinit, by simp⟩ ?_
  clear hK1 hK3 hK4 hK5 hinit
  rintro m s' ⟨i, hi, hm, hsum, hL6, hrelat, hs'⟩ K hK
  refine J_has hs' ?_
  generalize s'.L = L at hL6
  generalize s'.H = H3 at hrelat
  obtain ⟨nI, nH2, d1, d2, d3, d4, d5, d6, e1, e2, e3, e4, hf⟩ := hrelat
  generalize ho : (q.held.take i).foldl (relStep conn sub) { q with held := [] } = o at hsum e1 e2 e3
  refine J_seq' fun K8 hK8 => J1 3 ?_
  simp
  refine hK8 _ (J_seq' fun K9 hK9 => J_cond rfl (fun hc => J_skip ?_) fun hc => J_exit ?_)
  · simp at hc
    obtain ⟨x, hxi⟩ : ∃ x, q.held[i]? = some x := ⟨_, List.getElem?_eq_getElem (by omega)⟩
    have hat := at_Hold q.held hxi
    have hfold : (q.held.take (i + 1)).foldl (relStep conn sub) { q with held := [] } = relStep conn sub o x := by
      rw [List.take_add_one, hxi, List.foldl_append, ho]; rfl
    have hsum2 : (relStep conn sub o x).items.length + (relStep conn sub o x).held.length = q.items.length + (i + 1) := by rw [relStep_len, hsum]; omega
    simp only [thenQ, blockQ]
    refine hK9 _ (J_seq' fun K10 hK10 => J_block (J_seq' fun K11 hK11 => J1 3 ?_))
    simp [e4, hat, len_Hold, kill_Hold]
    repeat refine And.intro (by omega) ?_
    refine hK11 _ ?_
    have hL6' : lookL ((10, x.enc) :: renL L 10) 6 = some zeroQ := by simp only [lookL]; rw [lookL_renL, hL6]; rfl
    generalize hLx : (10, x.enc) :: renL L 10 = L2 at hL6'
    have hL10 : lookL L2 10 = some x.enc := by rw [← hLx]; simp [lookL]
    refine J_bool 39 (relc conn sub x) [1, 2, 6, 7, 8, 10, 20, 21, 22] ?_ ?_
    · refine J1 3 ?_
      by_cases f1 : x.conn = conn
      · by_cases f2 : sub = -1
        · simp [hL10, Hold.enc, f1, f2, relc]
        · by_cases f3 : x.sub = sub
          · simp [hL10, Hold.enc, f1, f2, f3, relc]
          · simp [hL10, Hold.enc, f1, f2, f3, relc]
      · simp [hL10, Hold.enc, f1, relc]
    simp
    refine J_cond rfl (fun hd => ?_) fun hd => ?_
    · have hr : relStep conn sub o x = bk o x.item := by simp [relStep, show relc conn sub x = true from by simpa using hd]
      refine J1 3 ?_
      simp [hL10, Hold.enc, len_Itm, noLL_Itm, take_Itm]
      refine (back_fun o x.item (by omega) H3 b nI nH2 d1 d2 d4 e1 e2).mono ?_
      rintro e H4 hB
      obtain ⟨v, rfl⟩ : ∃ v, e = .ret v := by obtain ⟨_, _, hv, _⟩ := hB; exact hv
      have hnext := RelAt.back d1 d2 d3 d4 d5 d6 e1 e3 e4 hf hB
      simp
      refine hK10 _ (J1 3 ?_)
      simp
      refine hK (q.held.length - (i + 1)) _ (by omega) ⟨i + 1, by omega, rfl, by rw [hfold]; exact hsum2, hL6', by rw [hfold, hr]; exact hnext, ?_⟩
      simp
      rw [w64 (by omega) (by omega)]
    · have hr : relStep conn sub o x = { o with held := o.held ++ [x] } := by simp [relStep, show relc conn sub x = false from by simpa using hd]
      have hcell : (o.held ++ [x]).flatMap Hold.enc = o.held.flatMap Hold.enc ++ x.enc := by simp [List.flatMap_append]
      refine J2 3 46 ?_
      simp [hL10, e1, qrow, e3, len_Hold, noLL_Hold, take_Hold, d2]
      have step : ∀ (k : Nat) (H4 : Heap) (S : Slots), (k = nH2 ∨ H3 k = none) → H4 b = some (qrow { o with held := o.held ++ [x] } nI k) → H4 k = some ((o.held ++ [x]).flatMap Hold.enc) → (∀ m, m ≠ b → m ≠ nH2 → m ≠ k → H4 m = H3 m) → subS [(1, aint conn), (2, aint sub), (6, .p (.l 6) 0), (7, aint 0), (8, .p (.h b) 0), (20, .os (.h m2) 10 0 q.held.length), (21, aint q.held.length), (22, aint i)] S → K10 ⟨S, L2, H4⟩ := by
        intro k H4 S hk g1 g2 g3 hS
        have hnext := RelAt.app d1 d2 d3 d4 d5 d6 e1 e2 e3 e4 hf hk g1 g2 g3
        refine hK10 _ (J_has (T := [(1, aint conn), (2, aint sub), (6, .p (.l 6) 0), (7, aint 0), (8, .p (.h b) 0), (20, .os (.h m2) 10 0 q.held.length), (21, aint q.held.length), (22, aint i)]) (L := L2) (H := H4) ⟨hS, rfl, rfl⟩ (J1 3 ?_))
        simp
        refine hK (q.held.length - (i + 1)) _ (by omega) ⟨i + 1, by omega, rfl, by rw [hfold]; exact hsum2, hL6', by rw [hfold, hr]; exact hnext, ?_⟩
        simp
        rw [w64 (by omega) (by omega)]
      refine ⟨by omega, by omega, step nH2 _ _ (.inl rfl) (by simp [qrow]) (by simp [Ne.symm d2, hcell]) (fun m a b c => by simp [a, b]) (by simp), fun k hk => ?_⟩
      have hbk : b ≠ k := by rintro rfl; rw [e1] at hk; cases hk
      simp [hbk]
      exact step k _ _ (.inr hk) (by simp [qrow]) (by simp [Ne.symm hbk, hcell]) (fun m a b c => by simp [a, b, c]) (by simp)
  · simp at hc
    have hie : i = q.held.length := by omega
    subst hie
    rw [List.take_of_length_le (Nat.le_refl _)] at ho
    simp only [thenQ, blockQ, if_true]
    refine hK6 _ ?_
    refine J_has (T := [(6, .p (.l 6) 0), (8, .p (.h b) 0)]) (L := L) (H := H3) ⟨by simp, rfl, rfl⟩ ?_
    refine J_subL [(6, zeroQ)] (fun k cs hk => ?_) ?_
    · simp only [lookL] at hk
      split at hk
      · rename_i e; subst e; rw [hL6]; exact hk
      · cases hk
    refine J_adopt 8 b (cs := qrow o nI nH2) e1 ?_
    simp [qrow, Ne.symm d1, Ne.symm d2, zeroQ]
    refine J_has (T := [(8, .p (.l 8) 0), (6, .p (.l 6) 0)]) (L := [(8, qrow o nI nH2), (6, zeroQ)]) (H := H3.put b none) ⟨by simp, by simp [qrow, zeroQ], by funext m; simp⟩ ?_
    refine J_out o 8 6 nI nH2 [(6, .p (.l 6) 0)] [(6, zeroQ)] (H3.put b none) H d4 (by simp [Ne.symm d1, e2]) (by simp [Ne.symm d2, e3]) ?_ ?_ ?_ ?_ ?_ ?_
    · intro j cs hj
      obtain ⟨a1, a2, a3, a4, a5⟩ := hf j cs hj
      exact ⟨a2, a3, by simp [a1, a5]⟩
    · intro k n h6 h4 _; simp [Ne.symm h4]
    · intro k cs h6 h4; simp [Ne.symm h4]
    · intro k n h6 h4 _; simp [Ne.symm h4, zeroQ]
    · intro k cs h6 h4; simp [h4, zeroQ]
    refine J_seq' fun K12 hK12 => J1 3 ?_
    simp [Queue.enc, zeroQ]
    refine hK12 _ (J_ret (hF _ _ ?_))
    simp [Tryz.f93, hrel, ho, Queue.enc]
end
end Go.Proofs.YtpcpljfifipagaaGreatDoor
