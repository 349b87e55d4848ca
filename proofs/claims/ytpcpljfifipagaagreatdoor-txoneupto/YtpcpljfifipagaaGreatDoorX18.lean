/- A part of the proof: the engine that walks Go code, the walks of the broker, or their laws (Ta Tb). -/
import Derived.Test.YtpcpljfifipagaaGreatDoorX16
import Derived.Test.YtpcpljfifipagaaGreatDoorX10
import Derived.Ground.NamesProg
import Derived.Test.YtpcpljfifipagaaGreatDoorX17
import Derived.Shelf.Strings.SplitCore
import Derived.Shelf.Strings.Split
import Derived.Shelf.Strings.Search3
import Derived.Shelf.Strings.Count
import Derived.Test.YtpcpljfifipagaaGreatDoorX14
set_option linter.unusedSimpArgs false
set_option linter.unusedVariables false
set_option maxHeartbeats 8000000
set_option maxRecDepth 20000
namespace Go.Proofs.YtpcpljfifipagaaGreatDoor
open Go.Eng Go.Tv
attribute [-simp] List.length_flatMap
section
def dot : ByteArray := ⟨#[46]⟩
def pieces (s : ByteArray) : List ByteArray := Lib.splitB dot 0 (Lib.countB s dot) s
theorem pieces_len (s : ByteArray) : (pieces s).length = Lib.countB s dot + 1 := Lib.splitB_all dot (by decide) 0 _ s rfl
theorem strs_rep (M : Imm) (ψ : Psi) (l : List ByteArray) : RepL M ψ (l.flatMap Str.enc) (l.map Value.string) := by
  induction l with
  | nil => simp only [List.flatMap_nil, List.map_nil, RepL]
  | cons x l ih =>
    simp only [List.flatMap_cons, List.map_cons]
    show RepL M ψ (astr x :: l.flatMap Str.enc) _
    simp only [RepL]
    exact ⟨_, _, rfl, by simp only [Rep], ih⟩
theorem gensplit_fun (s : ByteArray) (hs : s.size < 4294967281) : PFun Tryz.prog 151 [astr s, astr dot, aint 0, aint (-1)] (asl Str.enc (pieces s)) := by
  have hle := Lib.countB_le dot (by decide) s.size s (Nat.le_refl _)
  have hlen := pieces_len s
  have hmain : ∀ w, Calls Tryz.prog 151 #[.string s, .string dot, .int .i64 0, .int .i64 (-1)] w fun e w' => e = .returned (.slice (some ⟨w.heap.size, 0, none⟩) (pieces s).length (Lib.countB s dot + 1)) ∧ w' = w.alloc (.cells ((pieces s).map Value.string).toArray 9) := by
    intro w
    have c := Any.strings_genSplit_core Tryz.lays221 (by kernel_rfl) s dot 0 (-1) (Lib.countB s dot + 1) w hs (by decide) (by decide)
      (fun x c hx => (Any.strings_Index_one { Tryz.lays221 with } x 46 _).mono fun e w' ⟨he, hw⟩ => ⟨by rw [he]; show _ = Ending.returned (Value.int .i64 (Lib.index x.data.toList [46])); rw [Lib.index_one], hw⟩)
      ((Any.strings_Count_one { Tryz.lays221 with } s 46 w).mono fun e w' ⟨he, hw⟩ => ⟨by rw [he]; show _ = Ending.returned (Value.int .i64 ((Lib.count s.data.toList [46] : Nat) : Int)); rw [Lib.count_one]; rfl, hw⟩)
      (by decide) (by decide) (by rw [if_pos (by decide)]; omega)
    rw [Nat.add_sub_cancel] at c
    have e2 : Lib.cellsOf (Lib.splitB dot 0 (Lib.countB s dot) s) (Lib.countB s dot + 1) = ((pieces s).map Value.string).toArray := by rw [← hlen]; exact Lib.cellsOf_full _
    rw [e2] at c
    exact c
  refine PFun.of_row (vs := [.string s, .string dot, .int .i64 0, .int .i64 (-1)]) (us := (pieces s).map Value.string) (c := Lib.countB s dot + 1) (T := 9) ⟨_, Tryz.func151, rfl, by decide⟩ (by omega) (by unfold maxLen; omega) (by simp [Value.oneCell']) (fun M ψ => strs_rep M ψ _) hmain
end
section
attribute [local simp] D_133 D_26 D_46 D_24 D_25 D_54 D_27 D_33 D_28 D_89 D_87 D_50 D_42 D_77
def idxFrom {α : Type} (p : α → Bool) : List α → Nat → Int
  | [], _ => -1
  | x :: xs, k => if p x then k else idxFrom p xs (k + 1)
def idx {α : Type} (p : α → Bool) (xs : List α) : Int := idxFrom p xs 0
theorem idxFrom_ge {α : Type} (p : α → Bool) (xs : List α) (k : Nat) : decide (0 ≤ idxFrom p xs k) = xs.any p := by
  induction xs generalizing k with
  | nil => simp [idxFrom]
  | cons x xs ih =>
    simp only [idxFrom, List.any_cons]
    rcases Bool.eq_false_or_eq_true (p x) with hp | hp
    · simp [hp]
    · simpa [hp] using ih (k + 1)
theorem idx_any {α : Type} (p : α → Bool) (xs : List α) : decide (0 ≤ idx p xs) = xs.any p := idxFrom_ge p xs 0
theorem idxFrom_spec {α : Type} (p : α → Bool) (xs : List α) (k : Nat) : (idxFrom p xs k = -1 ∧ ∀ x ∈ xs, p x = false) ∨ ∃ i x, idxFrom p xs k = ((k + i : Nat) : Int) ∧ xs[i]? = some x ∧ p x = true ∧ ∀ j y, j < i → xs[j]? = some y → p y = false := by
  induction xs generalizing k with
  | nil => exact .inl ⟨rfl, by simp⟩
  | cons x xs ih =>
    simp only [idxFrom]
    cases hp : p x
    · rcases ih (k + 1) with ⟨h1, h2⟩ | ⟨i, y, h1, h2, h3, h4⟩
      · refine .inl ⟨by simpa using h1, ?_⟩
        intro z hz
        rcases List.mem_cons.mp hz with rfl | hz
        · exact hp
        · exact h2 z hz
      · refine .inr ⟨i + 1, y, by simp [h1]; omega, by simpa using h2, h3, ?_⟩
        intro j z hj hz
        cases j with
        | zero => simp at hz; subst hz; exact hp
        | succ j => exact h4 j z (by omega) (by simpa using hz)
    · exact .inr ⟨0, x, by simp, by simp, hp, fun j y hj => by omega⟩
theorem idx_spec {α : Type} (p : α → Bool) (xs : List α) : (idx p xs = -1 ∧ ∀ x ∈ xs, p x = false) ∨ ∃ i x, idx p xs = ((i : Nat) : Int) ∧ xs[i]? = some x ∧ p x = true ∧ ∀ j y, j < i → xs[j]? = some y → p y = false := by
  rcases idxFrom_spec p xs 0 with h | ⟨i, x, h1, h2⟩
  · exact .inl h
  · exact .inr ⟨i, x, by rw [Nat.zero_add] at h1; exact h1, h2⟩
theorem drop_at {α : Type} {xs : List α} {i : Nat} {x : α} (h : xs[i]? = some x) : xs.drop i = x :: xs.drop (i + 1) := by
  have hlt : i < xs.length := by
    rcases Nat.lt_or_ge i xs.length with h' | h'
    · exact h'
    · rw [List.getElem?_eq_none h'] at h; cases h
  rw [List.drop_eq_getElem_cons hlt]
  rw [List.getElem?_eq_getElem hlt] at h
  cases h
  rfl
theorem index_Str (xs : List ByteArray) (hx : xs.length ≤ 2000000) (g : FuncId) (caps : List AV) (hcaps : AV.noLL caps = true) (p : ByteArray → Bool) (hp : ∀ x ∈ xs, PFun Tryz.prog g (astr x :: caps) (abool (p x))) : PFun Tryz.prog 220 [asl Str.enc xs, .fn g caps] (aint (idx p xs)) := by
  refine PFun.of_J D_ok Tryz.func220 rfl (by decide) (le' rfl) fun H E QF hF => ?_
  change J _ E 19 _ _ _
  refine J_seq' fun K1 hK1 => J0 ?_
  simp
  refine hK1 _ (J_seq' fun K2 hK2 => J_seq' fun K3 hK3 => J0 ?_)
  simp
  refine hK3 _ (J_block ?_)
  refine J_loop' (fun m s' => ∃ i : Nat, i ≤ xs.length ∧ m = xs.length - i ∧ idx p xs = idxFrom p (xs.drop i) i ∧ Has [(0, asl Str.enc xs), (1, .fn g caps), (7, aint xs.length), (8, aint i)] [] H s') (n := xs.length) ⟨0, by omega, by omega, rfl, by simp⟩ ?_
  rintro m s' ⟨i, hi, hm, hidx, hs'⟩ K hK
  refine J_has hs' ?_
  refine J_seq' fun K4 hK4 => J0 ?_
  simp
  refine hK4 _ (J_seq' fun K5 hK5 => J_cond rfl (fun hc => J_skip ?_) fun hc => J_exit ?_)
  · simp at hc
    obtain ⟨x, hxi⟩ : ∃ x, xs[i]? = some x := ⟨_, List.getElem?_eq_getElem (by omega)⟩
    have hat := at_Str xs hxi
    rw [Nat.mul_one] at hat
    have hmem : x ∈ xs := List.mem_of_getElem? hxi
    have hdr : xs.drop i = x :: xs.drop (i + 1) := drop_at hxi
    simp only [thenQ, blockQ]
    refine hK5 _ (J_seq' fun K6 hK6 => J_block (J_seq' fun K7 hK7 => J0 ?_))
    simp
    refine hK7 _ (J_seq' fun K8 hK8 => J0 ?_)
    simp [hat, hcaps, noLL_Str, len_Str, Str.enc]
    refine ⟨by omega, by omega, (hp x hmem).call ?_⟩
    simp
    refine hK8 _ (J_cond rfl (fun hd => ?_) fun hd => J_skip ?_)
    · have hpx : p x = true := by simpa using hd
      refine J_seq' fun K9 hK9 => J0 ?_
      simp
      refine hK9 _ (J_ret (hF _ _ ?_))
      simp [Tryz.f220]
      rw [hidx, hdr]
      simp [idxFrom, hpx]
    · have hpx : p x = false := by simpa using hd
      simp only [thenQ, blockQ]
      refine hK6 _ (J0 ?_)
      simp
      refine hK (xs.length - (i + 1)) _ (by omega) ⟨i + 1, by omega, rfl, ?_, ?_⟩
      · rw [hidx, hdr]; simp [idxFrom, hpx]
      · simp
        rw [w64 (by omega) (by omega)]
  · simp at hc
    simp only [thenQ, blockQ, if_true]
    refine hK2 _ (J_seq' fun K10 hK10 => J0 ?_)
    simp
    refine hK10 _ (J_ret (hF _ _ ?_))
    simp [Tryz.f220]
    rw [hidx, List.drop_eq_nil_of_le (by omega)]
    rfl
theorem index_Sub (xs : List Tv.Sub) (hx : xs.length ≤ 2000000) (g : FuncId) (caps : List AV) (hcaps : AV.noLL caps = true) (p : Tv.Sub → Bool) (hp : ∀ x ∈ xs, PFun Tryz.prog g (.agg (Sub.enc x) :: caps) (abool (p x))) : PFun Tryz.prog 135 [asl Sub.enc xs, .fn g caps] (aint (idx p xs)) := by
  refine PFun.of_J D_ok Tryz.func135 rfl (by decide) (le' rfl) fun H E QF hF => ?_
  change J _ E 19 _ _ _
  refine J_seq' fun K1 hK1 => J0 ?_
  simp
  refine hK1 _ (J_seq' fun K2 hK2 => J_seq' fun K3 hK3 => J0 ?_)
  simp
  refine hK3 _ (J_block ?_)
  refine J_loop' (fun m s' => ∃ i : Nat, i ≤ xs.length ∧ m = xs.length - i ∧ idx p xs = idxFrom p (xs.drop i) i ∧ Has [(0, asl Sub.enc xs), (1, .fn g caps), (7, aint xs.length), (8, aint i)] [] H s') (n := xs.length) ⟨0, by omega, by omega, rfl, by simp⟩ ?_
  rintro m s' ⟨i, hi, hm, hidx, hs'⟩ K hK
  refine J_has hs' ?_
  refine J_seq' fun K4 hK4 => J0 ?_
  simp
  refine hK4 _ (J_seq' fun K5 hK5 => J_cond rfl (fun hc => J_skip ?_) fun hc => J_exit ?_)
  · simp at hc
    obtain ⟨x, hxi⟩ : ∃ x, xs[i]? = some x := ⟨_, List.getElem?_eq_getElem (by omega)⟩
    have hat := at_Sub xs hxi
    have hmem : x ∈ xs := List.mem_of_getElem? hxi
    have hdr : xs.drop i = x :: xs.drop (i + 1) := drop_at hxi
    simp only [thenQ, blockQ]
    refine hK5 _ (J_seq' fun K6 hK6 => J_block (J_seq' fun K7 hK7 => J0 ?_))
    simp
    refine hK7 _ (J_seq' fun K8 hK8 => J0 ?_)
    simp [hat, hcaps, noLL_Sub, len_Sub]
    refine ⟨by omega, by omega, (hp x hmem).call ?_⟩
    simp
    refine hK8 _ (J_cond rfl (fun hd => ?_) fun hd => J_skip ?_)
    · have hpx : p x = true := by simpa using hd
      refine J_seq' fun K9 hK9 => J0 ?_
      simp
      refine hK9 _ (J_ret (hF _ _ ?_))
      simp [Tryz.f135]
      rw [hidx, hdr]
      simp [idxFrom, hpx]
    · have hpx : p x = false := by simpa using hd
      simp only [thenQ, blockQ]
      refine hK6 _ (J0 ?_)
      simp
      refine hK (xs.length - (i + 1)) _ (by omega) ⟨i + 1, by omega, rfl, ?_, ?_⟩
      · rw [hidx, hdr]; simp [idxFrom, hpx]
      · simp
        rw [w64 (by omega) (by omega)]
  · simp at hc
    simp only [thenQ, blockQ, if_true]
    refine hK2 _ (J_seq' fun K10 hK10 => J0 ?_)
    simp
    refine hK10 _ (J_ret (hF _ _ ?_))
    simp [Tryz.f135]
    rw [hidx, List.drop_eq_nil_of_le (by omega)]
    rfl
theorem index_Queue (xs : List Queue) (hx : xs.length ≤ 2000000) (g : FuncId) (caps : List AV) (hcaps : AV.noLL caps = true) (p : Queue → Bool) (hp : ∀ x ∈ xs, PFun Tryz.prog g (.agg (Queue.enc x) :: caps) (abool (p x))) : PFun Tryz.prog 140 [asl Queue.enc xs, .fn g caps] (aint (idx p xs)) := by
  refine PFun.of_J D_ok Tryz.func140 rfl (by decide) (le' rfl) fun H E QF hF => ?_
  change J _ E 19 _ _ _
  refine J_seq' fun K1 hK1 => J0 ?_
  simp
  refine hK1 _ (J_seq' fun K2 hK2 => J_seq' fun K3 hK3 => J0 ?_)
  simp
  refine hK3 _ (J_block ?_)
  refine J_loop' (fun m s' => ∃ i : Nat, i ≤ xs.length ∧ m = xs.length - i ∧ idx p xs = idxFrom p (xs.drop i) i ∧ Has [(0, asl Queue.enc xs), (1, .fn g caps), (7, aint xs.length), (8, aint i)] [] H s') (n := xs.length) ⟨0, by omega, by omega, rfl, by simp⟩ ?_
  rintro m s' ⟨i, hi, hm, hidx, hs'⟩ K hK
  refine J_has hs' ?_
  refine J_seq' fun K4 hK4 => J0 ?_
  simp
  refine hK4 _ (J_seq' fun K5 hK5 => J_cond rfl (fun hc => J_skip ?_) fun hc => J_exit ?_)
  · simp at hc
    obtain ⟨x, hxi⟩ : ∃ x, xs[i]? = some x := ⟨_, List.getElem?_eq_getElem (by omega)⟩
    have hat := at_Queue xs hxi
    have hmem : x ∈ xs := List.mem_of_getElem? hxi
    have hdr : xs.drop i = x :: xs.drop (i + 1) := drop_at hxi
    simp only [thenQ, blockQ]
    refine hK5 _ (J_seq' fun K6 hK6 => J_block (J_seq' fun K7 hK7 => J0 ?_))
    simp
    refine hK7 _ (J_seq' fun K8 hK8 => J0 ?_)
    simp [hat, hcaps, noLL_Queue, len_Queue]
    refine ⟨by omega, by omega, (hp x hmem).call ?_⟩
    simp
    refine hK8 _ (J_cond rfl (fun hd => ?_) fun hd => J_skip ?_)
    · have hpx : p x = true := by simpa using hd
      refine J_seq' fun K9 hK9 => J0 ?_
      simp
      refine hK9 _ (J_ret (hF _ _ ?_))
      simp [Tryz.f140]
      rw [hidx, hdr]
      simp [idxFrom, hpx]
    · have hpx : p x = false := by simpa using hd
      simp only [thenQ, blockQ]
      refine hK6 _ (J0 ?_)
      simp
      refine hK (xs.length - (i + 1)) _ (by omega) ⟨i + 1, by omega, rfl, ?_, ?_⟩
      · rw [hidx, hdr]; simp [idxFrom, hpx]
      · simp
        rw [w64 (by omega) (by omega)]
  · simp at hc
    simp only [thenQ, blockQ, if_true]
    refine hK2 _ (J_seq' fun K10 hK10 => J0 ?_)
    simp
    refine hK10 _ (J_ret (hF _ _ ?_))
    simp [Tryz.f140]
    rw [hidx, List.drop_eq_nil_of_le (by omega)]
    rfl
theorem index_Bind (xs : List Tv.Bind) (hx : xs.length ≤ 2000000) (g : FuncId) (caps : List AV) (hcaps : AV.noLL caps = true) (p : Tv.Bind → Bool) (hp : ∀ x ∈ xs, PFun Tryz.prog g (.agg (Bind.enc x) :: caps) (abool (p x))) : PFun Tryz.prog 141 [asl Bind.enc xs, .fn g caps] (aint (idx p xs)) := by
  refine PFun.of_J D_ok Tryz.func141 rfl (by decide) (le' rfl) fun H E QF hF => ?_
  change J _ E 19 _ _ _
  refine J_seq' fun K1 hK1 => J0 ?_
  simp
  refine hK1 _ (J_seq' fun K2 hK2 => J_seq' fun K3 hK3 => J0 ?_)
  simp
  refine hK3 _ (J_block ?_)
  refine J_loop' (fun m s' => ∃ i : Nat, i ≤ xs.length ∧ m = xs.length - i ∧ idx p xs = idxFrom p (xs.drop i) i ∧ Has [(0, asl Bind.enc xs), (1, .fn g caps), (7, aint xs.length), (8, aint i)] [] H s') (n := xs.length) ⟨0, by omega, by omega, rfl, by simp⟩ ?_
  rintro m s' ⟨i, hi, hm, hidx, hs'⟩ K hK
  refine J_has hs' ?_
  refine J_seq' fun K4 hK4 => J0 ?_
  simp
  refine hK4 _ (J_seq' fun K5 hK5 => J_cond rfl (fun hc => J_skip ?_) fun hc => J_exit ?_)
  · simp at hc
    obtain ⟨x, hxi⟩ : ∃ x, xs[i]? = some x := ⟨_, List.getElem?_eq_getElem (by omega)⟩
    have hat := at_Bind xs hxi
    have hmem : x ∈ xs := List.mem_of_getElem? hxi
    have hdr : xs.drop i = x :: xs.drop (i + 1) := drop_at hxi
    simp only [thenQ, blockQ]
    refine hK5 _ (J_seq' fun K6 hK6 => J_block (J_seq' fun K7 hK7 => J0 ?_))
    simp
    refine hK7 _ (J_seq' fun K8 hK8 => J0 ?_)
    simp [hat, hcaps, noLL_Bind, len_Bind]
    refine ⟨by omega, by omega, (hp x hmem).call ?_⟩
    simp
    refine hK8 _ (J_cond rfl (fun hd => ?_) fun hd => J_skip ?_)
    · have hpx : p x = true := by simpa using hd
      refine J_seq' fun K9 hK9 => J0 ?_
      simp
      refine hK9 _ (J_ret (hF _ _ ?_))
      simp [Tryz.f141]
      rw [hidx, hdr]
      simp [idxFrom, hpx]
    · have hpx : p x = false := by simpa using hd
      simp only [thenQ, blockQ]
      refine hK6 _ (J0 ?_)
      simp
      refine hK (xs.length - (i + 1)) _ (by omega) ⟨i + 1, by omega, rfl, ?_, ?_⟩
      · rw [hidx, hdr]; simp [idxFrom, hpx]
      · simp
        rw [w64 (by omega) (by omega)]
  · simp at hc
    simp only [thenQ, blockQ, if_true]
    refine hK2 _ (J_seq' fun K10 hK10 => J0 ?_)
    simp
    refine hK10 _ (J_ret (hF _ _ ?_))
    simp [Tryz.f141]
    rw [hidx, List.drop_eq_nil_of_le (by omega)]
    rfl
theorem index_Msg (xs : List Msg) (hx : xs.length ≤ 2000000) (g : FuncId) (caps : List AV) (hcaps : AV.noLL caps = true) (p : Msg → Bool) (hp : ∀ x ∈ xs, PFun Tryz.prog g (.agg (Msg.enc x) :: caps) (abool (p x))) : PFun Tryz.prog 143 [asl Msg.enc xs, .fn g caps] (aint (idx p xs)) := by
  refine PFun.of_J D_ok Tryz.func143 rfl (by decide) (le' rfl) fun H E QF hF => ?_
  change J _ E 19 _ _ _
  refine J_seq' fun K1 hK1 => J0 ?_
  simp
  refine hK1 _ (J_seq' fun K2 hK2 => J_seq' fun K3 hK3 => J0 ?_)
  simp
  refine hK3 _ (J_block ?_)
  refine J_loop' (fun m s' => ∃ i : Nat, i ≤ xs.length ∧ m = xs.length - i ∧ idx p xs = idxFrom p (xs.drop i) i ∧ Has [(0, asl Msg.enc xs), (1, .fn g caps), (7, aint xs.length), (8, aint i)] [] H s') (n := xs.length) ⟨0, by omega, by omega, rfl, by simp⟩ ?_
  rintro m s' ⟨i, hi, hm, hidx, hs'⟩ K hK
  refine J_has hs' ?_
  refine J_seq' fun K4 hK4 => J0 ?_
  simp
  refine hK4 _ (J_seq' fun K5 hK5 => J_cond rfl (fun hc => J_skip ?_) fun hc => J_exit ?_)
  · simp at hc
    obtain ⟨x, hxi⟩ : ∃ x, xs[i]? = some x := ⟨_, List.getElem?_eq_getElem (by omega)⟩
    have hat := at_Msg xs hxi
    have hmem : x ∈ xs := List.mem_of_getElem? hxi
    have hdr : xs.drop i = x :: xs.drop (i + 1) := drop_at hxi
    simp only [thenQ, blockQ]
    refine hK5 _ (J_seq' fun K6 hK6 => J_block (J_seq' fun K7 hK7 => J0 ?_))
    simp
    refine hK7 _ (J_seq' fun K8 hK8 => J0 ?_)
    simp [hat, hcaps, noLL_Msg, len_Msg]
    refine ⟨by omega, by omega, (hp x hmem).call ?_⟩
    simp
    refine hK8 _ (J_cond rfl (fun hd => ?_) fun hd => J_skip ?_)
    · have hpx : p x = true := by simpa using hd
      refine J_seq' fun K9 hK9 => J0 ?_
      simp
      refine hK9 _ (J_ret (hF _ _ ?_))
      simp [Tryz.f143]
      rw [hidx, hdr]
      simp [idxFrom, hpx]
    · have hpx : p x = false := by simpa using hd
      simp only [thenQ, blockQ]
      refine hK6 _ (J0 ?_)
      simp
      refine hK (xs.length - (i + 1)) _ (by omega) ⟨i + 1, by omega, rfl, ?_, ?_⟩
      · rw [hidx, hdr]; simp [idxFrom, hpx]
      · simp
        rw [w64 (by omega) (by omega)]
  · simp at hc
    simp only [thenQ, blockQ, if_true]
    refine hK2 _ (J_seq' fun K10 hK10 => J0 ?_)
    simp
    refine hK10 _ (J_ret (hF _ _ ?_))
    simp [Tryz.f143]
    rw [hidx, List.drop_eq_nil_of_le (by omega)]
    rfl
theorem index_Client (xs : List Client) (hx : xs.length ≤ 2000000) (g : FuncId) (caps : List AV) (hcaps : AV.noLL caps = true) (p : Client → Bool) (hp : ∀ x ∈ xs, PFun Tryz.prog g (.agg (Client.enc x) :: caps) (abool (p x))) : PFun Tryz.prog 144 [asl Client.enc xs, .fn g caps] (aint (idx p xs)) := by
  refine PFun.of_J D_ok Tryz.func144 rfl (by decide) (le' rfl) fun H E QF hF => ?_
  change J _ E 19 _ _ _
  refine J_seq' fun K1 hK1 => J0 ?_
  simp
  refine hK1 _ (J_seq' fun K2 hK2 => J_seq' fun K3 hK3 => J0 ?_)
  simp
  refine hK3 _ (J_block ?_)
  refine J_loop' (fun m s' => ∃ i : Nat, i ≤ xs.length ∧ m = xs.length - i ∧ idx p xs = idxFrom p (xs.drop i) i ∧ Has [(0, asl Client.enc xs), (1, .fn g caps), (7, aint xs.length), (8, aint i)] [] H s') (n := xs.length) ⟨0, by omega, by omega, rfl, by simp⟩ ?_
  rintro m s' ⟨i, hi, hm, hidx, hs'⟩ K hK
  refine J_has hs' ?_
  refine J_seq' fun K4 hK4 => J0 ?_
  simp
  refine hK4 _ (J_seq' fun K5 hK5 => J_cond rfl (fun hc => J_skip ?_) fun hc => J_exit ?_)
  · simp at hc
    obtain ⟨x, hxi⟩ : ∃ x, xs[i]? = some x := ⟨_, List.getElem?_eq_getElem (by omega)⟩
    have hat := at_Client xs hxi
    have hmem : x ∈ xs := List.mem_of_getElem? hxi
    have hdr : xs.drop i = x :: xs.drop (i + 1) := drop_at hxi
    simp only [thenQ, blockQ]
    refine hK5 _ (J_seq' fun K6 hK6 => J_block (J_seq' fun K7 hK7 => J0 ?_))
    simp
    refine hK7 _ (J_seq' fun K8 hK8 => J0 ?_)
    simp [hat, hcaps, noLL_Client, len_Client]
    refine ⟨by omega, by omega, (hp x hmem).call ?_⟩
    simp
    refine hK8 _ (J_cond rfl (fun hd => ?_) fun hd => J_skip ?_)
    · have hpx : p x = true := by simpa using hd
      refine J_seq' fun K9 hK9 => J0 ?_
      simp
      refine hK9 _ (J_ret (hF _ _ ?_))
      simp [Tryz.f144]
      rw [hidx, hdr]
      simp [idxFrom, hpx]
    · have hpx : p x = false := by simpa using hd
      simp only [thenQ, blockQ]
      refine hK6 _ (J0 ?_)
      simp
      refine hK (xs.length - (i + 1)) _ (by omega) ⟨i + 1, by omega, rfl, ?_, ?_⟩
      · rw [hidx, hdr]; simp [idxFrom, hpx]
      · simp
        rw [w64 (by omega) (by omega)]
  · simp at hc
    simp only [thenQ, blockQ, if_true]
    refine hK2 _ (J_seq' fun K10 hK10 => J0 ?_)
    simp
    refine hK10 _ (J_ret (hF _ _ ?_))
    simp [Tryz.f144]
    rw [hidx, List.drop_eq_nil_of_le (by omega)]
    rfl
theorem index_Num (xs : List Int) (hx : xs.length ≤ 2000000) (g : FuncId) (caps : List AV) (hcaps : AV.noLL caps = true) (p : Int → Bool) (hp : ∀ x ∈ xs, PFun Tryz.prog g (aint x :: caps) (abool (p x))) : PFun Tryz.prog 147 [asl Num.enc xs, .fn g caps] (aint (idx p xs)) := by
  refine PFun.of_J D_ok Tryz.func147 rfl (by decide) (le' rfl) fun H E QF hF => ?_
  change J _ E 19 _ _ _
  refine J_seq' fun K1 hK1 => J0 ?_
  simp
  refine hK1 _ (J_seq' fun K2 hK2 => J_seq' fun K3 hK3 => J0 ?_)
  simp
  refine hK3 _ (J_block ?_)
  refine J_loop' (fun m s' => ∃ i : Nat, i ≤ xs.length ∧ m = xs.length - i ∧ idx p xs = idxFrom p (xs.drop i) i ∧ Has [(0, asl Num.enc xs), (1, .fn g caps), (7, aint xs.length), (8, aint i)] [] H s') (n := xs.length) ⟨0, by omega, by omega, rfl, by simp⟩ ?_
  rintro m s' ⟨i, hi, hm, hidx, hs'⟩ K hK
  refine J_has hs' ?_
  refine J_seq' fun K4 hK4 => J0 ?_
  simp
  refine hK4 _ (J_seq' fun K5 hK5 => J_cond rfl (fun hc => J_skip ?_) fun hc => J_exit ?_)
  · simp at hc
    obtain ⟨x, hxi⟩ : ∃ x, xs[i]? = some x := ⟨_, List.getElem?_eq_getElem (by omega)⟩
    have hat := at_Num xs hxi
    rw [Nat.mul_one] at hat
    have hmem : x ∈ xs := List.mem_of_getElem? hxi
    have hdr : xs.drop i = x :: xs.drop (i + 1) := drop_at hxi
    simp only [thenQ, blockQ]
    refine hK5 _ (J_seq' fun K6 hK6 => J_block (J_seq' fun K7 hK7 => J0 ?_))
    simp
    refine hK7 _ (J_seq' fun K8 hK8 => J0 ?_)
    simp [hat, hcaps, noLL_Num, len_Num, Num.enc]
    refine ⟨by omega, by omega, (hp x hmem).call ?_⟩
    simp
    refine hK8 _ (J_cond rfl (fun hd => ?_) fun hd => J_skip ?_)
    · have hpx : p x = true := by simpa using hd
      refine J_seq' fun K9 hK9 => J0 ?_
      simp
      refine hK9 _ (J_ret (hF _ _ ?_))
      simp [Tryz.f147]
      rw [hidx, hdr]
      simp [idxFrom, hpx]
    · have hpx : p x = false := by simpa using hd
      simp only [thenQ, blockQ]
      refine hK6 _ (J0 ?_)
      simp
      refine hK (xs.length - (i + 1)) _ (by omega) ⟨i + 1, by omega, rfl, ?_, ?_⟩
      · rw [hidx, hdr]; simp [idxFrom, hpx]
      · simp
        rw [w64 (by omega) (by omega)]
  · simp at hc
    simp only [thenQ, blockQ, if_true]
    refine hK2 _ (J_seq' fun K10 hK10 => J0 ?_)
    simp
    refine hK10 _ (J_ret (hF _ _ ?_))
    simp [Tryz.f147]
    rw [hidx, List.drop_eq_nil_of_le (by omega)]
    rfl
theorem index_Hold (xs : List Hold) (hx : xs.length ≤ 2000000) (g : FuncId) (caps : List AV) (hcaps : AV.noLL caps = true) (p : Hold → Bool) (hp : ∀ x ∈ xs, PFun Tryz.prog g (.agg (Hold.enc x) :: caps) (abool (p x))) : PFun Tryz.prog 255 [asl Hold.enc xs, .fn g caps] (aint (idx p xs)) := by
  refine PFun.of_J D_ok Tryz.func255 rfl (by decide) (le' rfl) fun H E QF hF => ?_
  change J _ E 19 _ _ _
  refine J_seq' fun K1 hK1 => J0 ?_
  simp
  refine hK1 _ (J_seq' fun K2 hK2 => J_seq' fun K3 hK3 => J0 ?_)
  simp
  refine hK3 _ (J_block ?_)
  refine J_loop' (fun m s' => ∃ i : Nat, i ≤ xs.length ∧ m = xs.length - i ∧ idx p xs = idxFrom p (xs.drop i) i ∧ Has [(0, asl Hold.enc xs), (1, .fn g caps), (7, aint xs.length), (8, aint i)] [] H s') (n := xs.length) ⟨0, by omega, by omega, rfl, by simp⟩ ?_
  rintro m s' ⟨i, hi, hm, hidx, hs'⟩ K hK
  refine J_has hs' ?_
  refine J_seq' fun K4 hK4 => J0 ?_
  simp
  refine hK4 _ (J_seq' fun K5 hK5 => J_cond rfl (fun hc => J_skip ?_) fun hc => J_exit ?_)
  · simp at hc
    obtain ⟨x, hxi⟩ : ∃ x, xs[i]? = some x := ⟨_, List.getElem?_eq_getElem (by omega)⟩
    have hat := at_Hold xs hxi
    have hmem : x ∈ xs := List.mem_of_getElem? hxi
    have hdr : xs.drop i = x :: xs.drop (i + 1) := drop_at hxi
    simp only [thenQ, blockQ]
    refine hK5 _ (J_seq' fun K6 hK6 => J_block (J_seq' fun K7 hK7 => J0 ?_))
    simp
    refine hK7 _ (J_seq' fun K8 hK8 => J0 ?_)
    simp [hat, hcaps, noLL_Hold, len_Hold]
    refine ⟨by omega, by omega, (hp x hmem).call ?_⟩
    simp
    refine hK8 _ (J_cond rfl (fun hd => ?_) fun hd => J_skip ?_)
    · have hpx : p x = true := by simpa using hd
      refine J_seq' fun K9 hK9 => J0 ?_
      simp
      refine hK9 _ (J_ret (hF _ _ ?_))
      simp [Tryz.f255]
      rw [hidx, hdr]
      simp [idxFrom, hpx]
    · have hpx : p x = false := by simpa using hd
      simp only [thenQ, blockQ]
      refine hK6 _ (J0 ?_)
      simp
      refine hK (xs.length - (i + 1)) _ (by omega) ⟨i + 1, by omega, rfl, ?_, ?_⟩
      · rw [hidx, hdr]; simp [idxFrom, hpx]
      · simp
        rw [w64 (by omega) (by omega)]
  · simp at hc
    simp only [thenQ, blockQ, if_true]
    refine hK2 _ (J_seq' fun K10 hK10 => J0 ?_)
    simp
    refine hK10 _ (J_ret (hF _ _ ?_))
    simp [Tryz.f255]
    rw [hidx, List.drop_eq_nil_of_le (by omega)]
    rfl
theorem indexH_Sub (xs : List Tv.Sub) (hx : xs.length ≤ 2000000) (g : FuncId) (caps : List AV) (hcaps : AV.noLL caps = true) (p : Tv.Sub → Bool) (hp : ∀ x ∈ xs, PFun Tryz.prog g (.agg (Sub.enc x) :: caps) (abool (p x))) (H : Heap) (k : Nat) (hH : H k = some (xs.flatMap Sub.enc)) : PCalls Tryz.prog 135 [.os (.h k) 5 0 xs.length, .fn g caps] H fun e H' => e = .ret (aint (idx p xs)) ∧ H' = H := by
  refine PCalls.of_J' D_ok Tryz.func135 rfl (by decide) (le' rfl) fun E QF hF => ?_
  change J _ E 19 _ _ _
  refine J_seq' fun K1 hK1 => J0 ?_
  simp [hH]
  refine hK1 _ (J_seq' fun K2 hK2 => J_seq' fun K3 hK3 => J0 ?_)
  simp [hH]
  refine hK3 _ (J_block ?_)
  refine J_loop' (fun m s' => ∃ i : Nat, i ≤ xs.length ∧ m = xs.length - i ∧ idx p xs = idxFrom p (xs.drop i) i ∧ Has [(0, .os (.h k) 5 0 xs.length), (1, .fn g caps), (7, aint xs.length), (8, aint i)] [] H s') (n := xs.length) ⟨0, by omega, by omega, rfl, by simp⟩ ?_
  rintro m s' ⟨i, hi, hm, hidx, hs'⟩ K hK
  refine J_has hs' ?_
  refine J_seq' fun K4 hK4 => J0 ?_
  simp [hH]
  refine hK4 _ (J_seq' fun K5 hK5 => J_cond rfl (fun hc => J_skip ?_) fun hc => J_exit ?_)
  · simp at hc
    obtain ⟨x, hxi⟩ : ∃ x, xs[i]? = some x := ⟨_, List.getElem?_eq_getElem (by omega)⟩
    have hat := at_Sub xs hxi
    have hmem : x ∈ xs := List.mem_of_getElem? hxi
    have hdr : xs.drop i = x :: xs.drop (i + 1) := drop_at hxi
    simp only [thenQ, blockQ]
    refine hK5 _ (J_seq' fun K6 hK6 => J_block (J_seq' fun K7 hK7 => J0 ?_))
    simp [hH]
    refine hK7 _ (J_seq' fun K8 hK8 => J0 ?_)
    simp [hat, hcaps, noLL_Sub, len_Sub, hH]
    refine ⟨by omega, by omega, (hp x hmem).call ?_⟩
    simp
    refine hK8 _ (J_cond rfl (fun hd => ?_) fun hd => J_skip ?_)
    · have hpx : p x = true := by simpa using hd
      refine J_seq' fun K9 hK9 => J0 ?_
      simp [hH]
      refine hK9 _ (J_ret (hF _ _ ?_))
      simp [Tryz.f135]
      rw [hidx, hdr]
      simp [idxFrom, hpx]
    · have hpx : p x = false := by simpa using hd
      simp only [thenQ, blockQ]
      refine hK6 _ (J0 ?_)
      simp [hH]
      refine hK (xs.length - (i + 1)) _ (by omega) ⟨i + 1, by omega, rfl, ?_, ?_⟩
      · rw [hidx, hdr]; simp [idxFrom, hpx]
      · simp
        rw [w64 (by omega) (by omega)]
  · simp at hc
    simp only [thenQ, blockQ, if_true]
    refine hK2 _ (J_seq' fun K10 hK10 => J0 ?_)
    simp [hH]
    refine hK10 _ (J_ret (hF _ _ ?_))
    simp [Tryz.f135]
    rw [hidx, List.drop_eq_nil_of_le (by omega)]
    rfl
theorem indexH_Queue (xs : List Queue) (hx : xs.length ≤ 2000000) (g : FuncId) (caps : List AV) (hcaps : AV.noLL caps = true) (p : Queue → Bool) (hp : ∀ x ∈ xs, PFun Tryz.prog g (.agg (Queue.enc x) :: caps) (abool (p x))) (H : Heap) (k : Nat) (hH : H k = some (xs.flatMap Queue.enc)) : PCalls Tryz.prog 140 [.os (.h k) 7 0 xs.length, .fn g caps] H fun e H' => e = .ret (aint (idx p xs)) ∧ H' = H := by
  refine PCalls.of_J' D_ok Tryz.func140 rfl (by decide) (le' rfl) fun E QF hF => ?_
  change J _ E 19 _ _ _
  refine J_seq' fun K1 hK1 => J0 ?_
  simp [hH]
  refine hK1 _ (J_seq' fun K2 hK2 => J_seq' fun K3 hK3 => J0 ?_)
  simp [hH]
  refine hK3 _ (J_block ?_)
  refine J_loop' (fun m s' => ∃ i : Nat, i ≤ xs.length ∧ m = xs.length - i ∧ idx p xs = idxFrom p (xs.drop i) i ∧ Has [(0, .os (.h k) 7 0 xs.length), (1, .fn g caps), (7, aint xs.length), (8, aint i)] [] H s') (n := xs.length) ⟨0, by omega, by omega, rfl, by simp⟩ ?_
  rintro m s' ⟨i, hi, hm, hidx, hs'⟩ K hK
  refine J_has hs' ?_
  refine J_seq' fun K4 hK4 => J0 ?_
  simp [hH]
  refine hK4 _ (J_seq' fun K5 hK5 => J_cond rfl (fun hc => J_skip ?_) fun hc => J_exit ?_)
  · simp at hc
    obtain ⟨x, hxi⟩ : ∃ x, xs[i]? = some x := ⟨_, List.getElem?_eq_getElem (by omega)⟩
    have hat := at_Queue xs hxi
    have hmem : x ∈ xs := List.mem_of_getElem? hxi
    have hdr : xs.drop i = x :: xs.drop (i + 1) := drop_at hxi
    simp only [thenQ, blockQ]
    refine hK5 _ (J_seq' fun K6 hK6 => J_block (J_seq' fun K7 hK7 => J0 ?_))
    simp [hH]
    refine hK7 _ (J_seq' fun K8 hK8 => J0 ?_)
    simp [hat, hcaps, noLL_Queue, len_Queue, hH]
    refine ⟨by omega, by omega, (hp x hmem).call ?_⟩
    simp
    refine hK8 _ (J_cond rfl (fun hd => ?_) fun hd => J_skip ?_)
    · have hpx : p x = true := by simpa using hd
      refine J_seq' fun K9 hK9 => J0 ?_
      simp [hH]
      refine hK9 _ (J_ret (hF _ _ ?_))
      simp [Tryz.f140]
      rw [hidx, hdr]
      simp [idxFrom, hpx]
    · have hpx : p x = false := by simpa using hd
      simp only [thenQ, blockQ]
      refine hK6 _ (J0 ?_)
      simp [hH]
      refine hK (xs.length - (i + 1)) _ (by omega) ⟨i + 1, by omega, rfl, ?_, ?_⟩
      · rw [hidx, hdr]; simp [idxFrom, hpx]
      · simp
        rw [w64 (by omega) (by omega)]
  · simp at hc
    simp only [thenQ, blockQ, if_true]
    refine hK2 _ (J_seq' fun K10 hK10 => J0 ?_)
    simp [hH]
    refine hK10 _ (J_ret (hF _ _ ?_))
    simp [Tryz.f140]
    rw [hidx, List.drop_eq_nil_of_le (by omega)]
    rfl
theorem indexH_Bind (xs : List Tv.Bind) (hx : xs.length ≤ 2000000) (g : FuncId) (caps : List AV) (hcaps : AV.noLL caps = true) (p : Tv.Bind → Bool) (hp : ∀ x ∈ xs, PFun Tryz.prog g (.agg (Bind.enc x) :: caps) (abool (p x))) (H : Heap) (k : Nat) (hH : H k = some (xs.flatMap Bind.enc)) : PCalls Tryz.prog 141 [.os (.h k) 2 0 xs.length, .fn g caps] H fun e H' => e = .ret (aint (idx p xs)) ∧ H' = H := by
  refine PCalls.of_J' D_ok Tryz.func141 rfl (by decide) (le' rfl) fun E QF hF => ?_
  change J _ E 19 _ _ _
  refine J_seq' fun K1 hK1 => J0 ?_
  simp [hH]
  refine hK1 _ (J_seq' fun K2 hK2 => J_seq' fun K3 hK3 => J0 ?_)
  simp [hH]
  refine hK3 _ (J_block ?_)
  refine J_loop' (fun m s' => ∃ i : Nat, i ≤ xs.length ∧ m = xs.length - i ∧ idx p xs = idxFrom p (xs.drop i) i ∧ Has [(0, .os (.h k) 2 0 xs.length), (1, .fn g caps), (7, aint xs.length), (8, aint i)] [] H s') (n := xs.length) ⟨0, by omega, by omega, rfl, by simp⟩ ?_
  rintro m s' ⟨i, hi, hm, hidx, hs'⟩ K hK
  refine J_has hs' ?_
  refine J_seq' fun K4 hK4 => J0 ?_
  simp [hH]
  refine hK4 _ (J_seq' fun K5 hK5 => J_cond rfl (fun hc => J_skip ?_) fun hc => J_exit ?_)
  · simp at hc
    obtain ⟨x, hxi⟩ : ∃ x, xs[i]? = some x := ⟨_, List.getElem?_eq_getElem (by omega)⟩
    have hat := at_Bind xs hxi
    have hmem : x ∈ xs := List.mem_of_getElem? hxi
    have hdr : xs.drop i = x :: xs.drop (i + 1) := drop_at hxi
    simp only [thenQ, blockQ]
    refine hK5 _ (J_seq' fun K6 hK6 => J_block (J_seq' fun K7 hK7 => J0 ?_))
    simp [hH]
    refine hK7 _ (J_seq' fun K8 hK8 => J0 ?_)
    simp [hat, hcaps, noLL_Bind, len_Bind, hH]
    refine ⟨by omega, by omega, (hp x hmem).call ?_⟩
    simp
    refine hK8 _ (J_cond rfl (fun hd => ?_) fun hd => J_skip ?_)
    · have hpx : p x = true := by simpa using hd
      refine J_seq' fun K9 hK9 => J0 ?_
      simp [hH]
      refine hK9 _ (J_ret (hF _ _ ?_))
      simp [Tryz.f141]
      rw [hidx, hdr]
      simp [idxFrom, hpx]
    · have hpx : p x = false := by simpa using hd
      simp only [thenQ, blockQ]
      refine hK6 _ (J0 ?_)
      simp [hH]
      refine hK (xs.length - (i + 1)) _ (by omega) ⟨i + 1, by omega, rfl, ?_, ?_⟩
      · rw [hidx, hdr]; simp [idxFrom, hpx]
      · simp
        rw [w64 (by omega) (by omega)]
  · simp at hc
    simp only [thenQ, blockQ, if_true]
    refine hK2 _ (J_seq' fun K10 hK10 => J0 ?_)
    simp [hH]
    refine hK10 _ (J_ret (hF _ _ ?_))
    simp [Tryz.f141]
    rw [hidx, List.drop_eq_nil_of_le (by omega)]
    rfl
theorem indexH_Num (xs : List Int) (hx : xs.length ≤ 2000000) (g : FuncId) (caps : List AV) (hcaps : AV.noLL caps = true) (p : Int → Bool) (hp : ∀ x ∈ xs, PFun Tryz.prog g (aint x :: caps) (abool (p x))) (H : Heap) (k : Nat) (hH : H k = some (xs.flatMap Num.enc)) : PCalls Tryz.prog 147 [.os (.h k) 1 0 xs.length, .fn g caps] H fun e H' => e = .ret (aint (idx p xs)) ∧ H' = H := by
  refine PCalls.of_J' D_ok Tryz.func147 rfl (by decide) (le' rfl) fun E QF hF => ?_
  change J _ E 19 _ _ _
  refine J_seq' fun K1 hK1 => J0 ?_
  simp [hH]
  refine hK1 _ (J_seq' fun K2 hK2 => J_seq' fun K3 hK3 => J0 ?_)
  simp [hH]
  refine hK3 _ (J_block ?_)
  refine J_loop' (fun m s' => ∃ i : Nat, i ≤ xs.length ∧ m = xs.length - i ∧ idx p xs = idxFrom p (xs.drop i) i ∧ Has [(0, .os (.h k) 1 0 xs.length), (1, .fn g caps), (7, aint xs.length), (8, aint i)] [] H s') (n := xs.length) ⟨0, by omega, by omega, rfl, by simp⟩ ?_
  rintro m s' ⟨i, hi, hm, hidx, hs'⟩ K hK
  refine J_has hs' ?_
  refine J_seq' fun K4 hK4 => J0 ?_
  simp [hH]
  refine hK4 _ (J_seq' fun K5 hK5 => J_cond rfl (fun hc => J_skip ?_) fun hc => J_exit ?_)
  · simp at hc
    obtain ⟨x, hxi⟩ : ∃ x, xs[i]? = some x := ⟨_, List.getElem?_eq_getElem (by omega)⟩
    have hat := at_Num xs hxi
    rw [Nat.mul_one] at hat
    have hmem : x ∈ xs := List.mem_of_getElem? hxi
    have hdr : xs.drop i = x :: xs.drop (i + 1) := drop_at hxi
    simp only [thenQ, blockQ]
    refine hK5 _ (J_seq' fun K6 hK6 => J_block (J_seq' fun K7 hK7 => J0 ?_))
    simp [hH]
    refine hK7 _ (J_seq' fun K8 hK8 => J0 ?_)
    simp [hat, hcaps, noLL_Num, len_Num, Num.enc, hH]
    refine ⟨by omega, by omega, (hp x hmem).call ?_⟩
    simp
    refine hK8 _ (J_cond rfl (fun hd => ?_) fun hd => J_skip ?_)
    · have hpx : p x = true := by simpa using hd
      refine J_seq' fun K9 hK9 => J0 ?_
      simp [hH]
      refine hK9 _ (J_ret (hF _ _ ?_))
      simp [Tryz.f147]
      rw [hidx, hdr]
      simp [idxFrom, hpx]
    · have hpx : p x = false := by simpa using hd
      simp only [thenQ, blockQ]
      refine hK6 _ (J0 ?_)
      simp [hH]
      refine hK (xs.length - (i + 1)) _ (by omega) ⟨i + 1, by omega, rfl, ?_, ?_⟩
      · rw [hidx, hdr]; simp [idxFrom, hpx]
      · simp
        rw [w64 (by omega) (by omega)]
  · simp at hc
    simp only [thenQ, blockQ, if_true]
    refine hK2 _ (J_seq' fun K10 hK10 => J0 ?_)
    simp [hH]
    refine hK10 _ (J_ret (hF _ _ ?_))
    simp [Tryz.f147]
    rw [hidx, List.drop_eq_nil_of_le (by omega)]
    rfl
theorem indexH_Itm (xs : List Itm) (hx : xs.length ≤ 2000000) (g : FuncId) (caps : List AV) (hcaps : AV.noLL caps = true) (p : Itm → Bool) (hp : ∀ x ∈ xs, PFun Tryz.prog g (.agg (Itm.enc x) :: caps) (abool (p x))) (H : Heap) (k : Nat) (hH : H k = some (xs.flatMap Itm.enc)) : PCalls Tryz.prog 173 [.os (.h k) 7 0 xs.length, .fn g caps] H fun e H' => e = .ret (aint (idx p xs)) ∧ H' = H := by
  refine PCalls.of_J' D_ok Tryz.func173 rfl (by decide) (le' rfl) fun E QF hF => ?_
  change J _ E 19 _ _ _
  refine J_seq' fun K1 hK1 => J0 ?_
  simp [hH]
  refine hK1 _ (J_seq' fun K2 hK2 => J_seq' fun K3 hK3 => J0 ?_)
  simp [hH]
  refine hK3 _ (J_block ?_)
  refine J_loop' (fun m s' => ∃ i : Nat, i ≤ xs.length ∧ m = xs.length - i ∧ idx p xs = idxFrom p (xs.drop i) i ∧ Has [(0, .os (.h k) 7 0 xs.length), (1, .fn g caps), (7, aint xs.length), (8, aint i)] [] H s') (n := xs.length) ⟨0, by omega, by omega, rfl, by simp⟩ ?_
  rintro m s' ⟨i, hi, hm, hidx, hs'⟩ K hK
  refine J_has hs' ?_
  refine J_seq' fun K4 hK4 => J0 ?_
  simp [hH]
  refine hK4 _ (J_seq' fun K5 hK5 => J_cond rfl (fun hc => J_skip ?_) fun hc => J_exit ?_)
  · simp at hc
    obtain ⟨x, hxi⟩ : ∃ x, xs[i]? = some x := ⟨_, List.getElem?_eq_getElem (by omega)⟩
    have hat := at_Itm xs hxi
    have hmem : x ∈ xs := List.mem_of_getElem? hxi
    have hdr : xs.drop i = x :: xs.drop (i + 1) := drop_at hxi
    simp only [thenQ, blockQ]
    refine hK5 _ (J_seq' fun K6 hK6 => J_block (J_seq' fun K7 hK7 => J0 ?_))
    simp [hH]
    refine hK7 _ (J_seq' fun K8 hK8 => J0 ?_)
    simp [hat, hcaps, noLL_Itm, len_Itm, hH]
    refine ⟨by omega, by omega, (hp x hmem).call ?_⟩
    simp
    refine hK8 _ (J_cond rfl (fun hd => ?_) fun hd => J_skip ?_)
    · have hpx : p x = true := by simpa using hd
      refine J_seq' fun K9 hK9 => J0 ?_
      simp [hH]
      refine hK9 _ (J_ret (hF _ _ ?_))
      simp [Tryz.f173]
      rw [hidx, hdr]
      simp [idxFrom, hpx]
    · have hpx : p x = false := by simpa using hd
      simp only [thenQ, blockQ]
      refine hK6 _ (J0 ?_)
      simp [hH]
      refine hK (xs.length - (i + 1)) _ (by omega) ⟨i + 1, by omega, rfl, ?_, ?_⟩
      · rw [hidx, hdr]; simp [idxFrom, hpx]
      · simp
        rw [w64 (by omega) (by omega)]
  · simp at hc
    simp only [thenQ, blockQ, if_true]
    refine hK2 _ (J_seq' fun K10 hK10 => J0 ?_)
    simp [hH]
    refine hK10 _ (J_ret (hF _ _ ?_))
    simp [Tryz.f173]
    rw [hidx, List.drop_eq_nil_of_le (by omega)]
    rfl
theorem contains_Str (xs : List ByteArray) (hx : xs.length ≤ 2000000) (g : FuncId) (caps : List AV) (hcaps : AV.noLL caps = true) (p : ByteArray → Bool) (hp : ∀ x ∈ xs, PFun Tryz.prog g (astr x :: caps) (abool (p x))) : PFun Tryz.prog 148 [asl Str.enc xs, .fn g caps] (abool (xs.any p)) := by
  refine PFun.of_J D_ok Tryz.func148 rfl (by decide) (le' rfl) fun H E QF hF => ?_
  change J _ E 9 _ _ _
  refine J_seq' fun K1 hK1 => J0 ?_
  simp
  refine hK1 _ (J_seq' fun K2 hK2 => J0 ?_)
  simp [hcaps]
  refine (index_Str xs hx g caps hcaps p hp).call ?_
  simp
  refine hK2 _ (J_ret (hF _ _ ?_))
  simp [Tryz.f148, idx_any]
theorem contains_Queue (xs : List Queue) (hx : xs.length ≤ 2000000) (g : FuncId) (caps : List AV) (hcaps : AV.noLL caps = true) (p : Queue → Bool) (hp : ∀ x ∈ xs, PFun Tryz.prog g (.agg (Queue.enc x) :: caps) (abool (p x))) : PFun Tryz.prog 64 [asl Queue.enc xs, .fn g caps] (abool (xs.any p)) := by
  refine PFun.of_J D_ok Tryz.func64 rfl (by decide) (le' rfl) fun H E QF hF => ?_
  change J _ E 9 _ _ _
  refine J_seq' fun K1 hK1 => J0 ?_
  simp
  refine hK1 _ (J_seq' fun K2 hK2 => J0 ?_)
  simp [hcaps]
  refine (index_Queue xs hx g caps hcaps p hp).call ?_
  simp
  refine hK2 _ (J_ret (hF _ _ ?_))
  simp [Tryz.f64, idx_any]
theorem contains_Bind (xs : List Tv.Bind) (hx : xs.length ≤ 2000000) (g : FuncId) (caps : List AV) (hcaps : AV.noLL caps = true) (p : Tv.Bind → Bool) (hp : ∀ x ∈ xs, PFun Tryz.prog g (.agg (Bind.enc x) :: caps) (abool (p x))) : PFun Tryz.prog 67 [asl Bind.enc xs, .fn g caps] (abool (xs.any p)) := by
  refine PFun.of_J D_ok Tryz.func67 rfl (by decide) (le' rfl) fun H E QF hF => ?_
  change J _ E 9 _ _ _
  refine J_seq' fun K1 hK1 => J0 ?_
  simp
  refine hK1 _ (J_seq' fun K2 hK2 => J0 ?_)
  simp [hcaps]
  refine (index_Bind xs hx g caps hcaps p hp).call ?_
  simp
  refine hK2 _ (J_ret (hF _ _ ?_))
  simp [Tryz.f67, idx_any]
theorem contains_Sub (xs : List Tv.Sub) (hx : xs.length ≤ 2000000) (g : FuncId) (caps : List AV) (hcaps : AV.noLL caps = true) (p : Tv.Sub → Bool) (hp : ∀ x ∈ xs, PFun Tryz.prog g (.agg (Sub.enc x) :: caps) (abool (p x))) : PFun Tryz.prog 70 [asl Sub.enc xs, .fn g caps] (abool (xs.any p)) := by
  refine PFun.of_J D_ok Tryz.func70 rfl (by decide) (le' rfl) fun H E QF hF => ?_
  change J _ E 9 _ _ _
  refine J_seq' fun K1 hK1 => J0 ?_
  simp
  refine hK1 _ (J_seq' fun K2 hK2 => J0 ?_)
  simp [hcaps]
  refine (index_Sub xs hx g caps hcaps p hp).call ?_
  simp
  refine hK2 _ (J_ret (hF _ _ ?_))
  simp [Tryz.f70, idx_any]
theorem contains_Msg (xs : List Msg) (hx : xs.length ≤ 2000000) (g : FuncId) (caps : List AV) (hcaps : AV.noLL caps = true) (p : Msg → Bool) (hp : ∀ x ∈ xs, PFun Tryz.prog g (.agg (Msg.enc x) :: caps) (abool (p x))) : PFun Tryz.prog 73 [asl Msg.enc xs, .fn g caps] (abool (xs.any p)) := by
  refine PFun.of_J D_ok Tryz.func73 rfl (by decide) (le' rfl) fun H E QF hF => ?_
  change J _ E 9 _ _ _
  refine J_seq' fun K1 hK1 => J0 ?_
  simp
  refine hK1 _ (J_seq' fun K2 hK2 => J0 ?_)
  simp [hcaps]
  refine (index_Msg xs hx g caps hcaps p hp).call ?_
  simp
  refine hK2 _ (J_ret (hF _ _ ?_))
  simp [Tryz.f73, idx_any]
theorem contains_Client (xs : List Client) (hx : xs.length ≤ 2000000) (g : FuncId) (caps : List AV) (hcaps : AV.noLL caps = true) (p : Client → Bool) (hp : ∀ x ∈ xs, PFun Tryz.prog g (.agg (Client.enc x) :: caps) (abool (p x))) : PFun Tryz.prog 75 [asl Client.enc xs, .fn g caps] (abool (xs.any p)) := by
  refine PFun.of_J D_ok Tryz.func75 rfl (by decide) (le' rfl) fun H E QF hF => ?_
  change J _ E 9 _ _ _
  refine J_seq' fun K1 hK1 => J0 ?_
  simp
  refine hK1 _ (J_seq' fun K2 hK2 => J0 ?_)
  simp [hcaps]
  refine (index_Client xs hx g caps hcaps p hp).call ?_
  simp
  refine hK2 _ (J_ret (hF _ _ ?_))
  simp [Tryz.f75, idx_any]
theorem contains_Num (xs : List Int) (hx : xs.length ≤ 2000000) (g : FuncId) (caps : List AV) (hcaps : AV.noLL caps = true) (p : Int → Bool) (hp : ∀ x ∈ xs, PFun Tryz.prog g (aint x :: caps) (abool (p x))) : PFun Tryz.prog 80 [asl Num.enc xs, .fn g caps] (abool (xs.any p)) := by
  refine PFun.of_J D_ok Tryz.func80 rfl (by decide) (le' rfl) fun H E QF hF => ?_
  change J _ E 9 _ _ _
  refine J_seq' fun K1 hK1 => J0 ?_
  simp
  refine hK1 _ (J_seq' fun K2 hK2 => J0 ?_)
  simp [hcaps]
  refine (index_Num xs hx g caps hcaps p hp).call ?_
  simp
  refine hK2 _ (J_ret (hF _ _ ?_))
  simp [Tryz.f80, idx_any]
theorem containsH_Bind (xs : List Tv.Bind) (hx : xs.length ≤ 2000000) (g : FuncId) (caps : List AV) (hcaps : AV.noLL caps = true) (p : Tv.Bind → Bool) (hp : ∀ x ∈ xs, PFun Tryz.prog g (.agg (Bind.enc x) :: caps) (abool (p x))) (H : Heap) (k : Nat) (hH : H k = some (xs.flatMap Bind.enc)) : PCalls Tryz.prog 67 [.os (.h k) 2 0 xs.length, .fn g caps] H fun e H' => e = .ret (abool (xs.any p)) ∧ H' = H := by
  refine PCalls.of_J' D_ok Tryz.func67 rfl (by decide) (le' rfl) fun E QF hF => ?_
  change J _ E 9 _ _ _
  refine J_seq' fun K1 hK1 => J0 ?_
  simp
  refine hK1 _ (J_seq' fun K2 hK2 => J0 ?_)
  simp [hcaps]
  refine (indexH_Bind xs hx g caps hcaps p hp H k hH).mono ?_
  rintro e H' ⟨rfl, rfl⟩
  simp
  refine hK2 _ (J_ret (hF _ _ ?_))
  simp [Tryz.f67, idx_any]
theorem containsH_Sub (xs : List Tv.Sub) (hx : xs.length ≤ 2000000) (g : FuncId) (caps : List AV) (hcaps : AV.noLL caps = true) (p : Tv.Sub → Bool) (hp : ∀ x ∈ xs, PFun Tryz.prog g (.agg (Sub.enc x) :: caps) (abool (p x))) (H : Heap) (k : Nat) (hH : H k = some (xs.flatMap Sub.enc)) : PCalls Tryz.prog 70 [.os (.h k) 5 0 xs.length, .fn g caps] H fun e H' => e = .ret (abool (xs.any p)) ∧ H' = H := by
  refine PCalls.of_J' D_ok Tryz.func70 rfl (by decide) (le' rfl) fun E QF hF => ?_
  change J _ E 9 _ _ _
  refine J_seq' fun K1 hK1 => J0 ?_
  simp
  refine hK1 _ (J_seq' fun K2 hK2 => J0 ?_)
  simp [hcaps]
  refine (indexH_Sub xs hx g caps hcaps p hp H k hH).mono ?_
  rintro e H' ⟨rfl, rfl⟩
  simp
  refine hK2 _ (J_ret (hF _ _ ?_))
  simp [Tryz.f70, idx_any]
end
end Go.Proofs.YtpcpljfifipagaaGreatDoor
