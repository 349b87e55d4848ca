/- A part of the proof: the engine that walks Go code, the walks of the broker, or their laws (T3 T4 T5 T6 T7 T8 T9). -/
import Derived.Test.YtpcpljfifipagaaGreatDoorX15
import Derived.Lib.Bytealg
import Derived.Test.YtpcpljfifipagaaGreatDoorX10
import Derived.Test.YtpcpljfifipagaaGreatDoorX14
set_option linter.unusedSimpArgs false
set_option linter.unusedVariables false
set_option maxHeartbeats 8000000
set_option maxRecDepth 20000
namespace Go.Proofs.YtpcpljfifipagaaGreatDoor
open Go.Eng Go.Tv
attribute [-simp] List.length_flatMap
section
attribute [local simp] D_24 D_25 D_26 D_27 D_28 D_31 D_33 D_42 D_46 D_50 D_54 D_77 D_81 D_83 D_85 D_87 D_89 D_222
theorem cmpstring_fun (a b : ByteArray) : PFun Tryz.prog 212 [astr a, astr b] (aint (Lib.compareBytes a.data.toList b.data.toList)) := by
  refine PFun.plain (vs := [.string a, .string b]) fun w => ?_
  rw [run_callFunc_extern Tryz.func212 (by kernel_rfl) (by kernel_rfl) (by kernel_rfl) (e := Extern.BytealgCompare.compare) (by kernel_rfl)]
  show ((Extern.BytealgCompare.compare #[.string a, .string b]).run Tryz.prog w).andThen _ = _
  rw [Lib.run_compareString]
  rfl
def scmp (a b : ByteArray) : Int := Lib.compareBytes a.data.toList b.data.toList
theorem bcmp_fun (a b : ByteArray) : PFun Tryz.prog 138 [astr a, astr b] (aint (scmp a b)) := by
  refine PFun.of_J D_ok Tryz.func138 rfl (by decide) (le' rfl) fun H E QF hF => ?_
  change J _ E 8 _ _ _
  refine J_seq' fun K1 hK1 => J0 ?_
  simp
  refine hK1 _ (J_seq' fun K2 hK2 => J0 ?_)
  simp
  refine (cmpstring_fun a b).call ?_
  simp
  refine hK2 _ (J_ret (hF _ _ ?_))
  simp [Tryz.f138, scmp]
theorem scmp_fun (a b : ByteArray) : PFun Tryz.prog 55 [astr a, astr b] (aint (scmp a b)) := by
  refine PFun.of_J D_ok Tryz.func55 rfl (by decide) (le' rfl) fun H E QF hF => ?_
  change J _ E 8 _ _ _
  refine J_seq' fun K1 hK1 => J0 ?_
  simp
  refine hK1 _ (J_seq' fun K2 hK2 => J0 ?_)
  simp
  refine (bcmp_fun a b).call ?_
  simp
  refine hK2 _ (J_ret (hF _ _ ?_))
  simp [Tryz.f55]
theorem nan_fun (a : Int) : PFun Tryz.prog 146 [aint a] (abool false) := by
  refine PFun.of_J D_ok Tryz.func146 rfl (by decide) (le' rfl) fun H E QF hF => ?_
  change J _ E 6 _ _ _
  refine J_seq' fun K1 hK1 => J0 ?_
  simp
  refine hK1 _ (J_seq' fun K2 hK2 => J0 ?_)
  simp
  refine hK2 _ (J_ret (hF _ _ ?_))
  simp [Tryz.f146]
def icmp (a b : Int) : Int := if a < b then -1 else if b < a then 1 else 0
theorem icmp_fun (a b : Int) : PFun Tryz.prog 79 [aint a, aint b] (aint (icmp a b)) := by
  refine PFun.of_J D_ok Tryz.func79 rfl (by decide) (le' rfl) fun H E QF hF => ?_
  change J _ E 20 _ _ _
  refine J_seq' fun K1 hK1 => J0 ?_
  simp
  refine hK1 _ (J_seq' fun K2 hK2 => J0 ?_)
  simp
  refine (nan_fun a).call ?_
  simp
  refine hK2 _ (J_seq' fun K3 hK3 => J0 ?_)
  simp
  refine (nan_fun b).call ?_
  simp
  refine hK3 _ (J_seq' fun K4 hK4 => J_seq' fun K5 hK5 => J0 ?_)
  simp
  refine hK5 _ (J_cond rfl (fun h => by cases h) fun _ => J_skip ?_)
  simp only [thenQ]
  refine hK4 _ (J_seq' fun K6 hK6 => J_seq' fun K7 hK7 => J0 ?_)
  simp
  refine hK7 _ (J_cond rfl (fun h => by cases h) fun _ => J_skip ?_)
  simp only [thenQ]
  refine hK6 _ (J_seq' fun K8 hK8 => J_seq' fun K9 hK9 => J0 ?_)
  simp
  refine hK9 _ (J_cond rfl (fun hc => ?_) fun hc => J_skip ?_)
  · refine J_seq' fun K10 hK10 => J0 ?_
    simp
    refine hK10 _ (J_ret (hF _ _ ?_))
    simp [Tryz.f79, icmp]
    simp at hc
    omega
  simp only [thenQ]
  refine hK8 _ (J_seq' fun K11 hK11 => J_seq' fun K12 hK12 => J0 ?_)
  simp
  refine hK12 _ (J_cond rfl (fun hd => ?_) fun hd => J_skip ?_)
  · refine J_seq' fun K10 hK10 => J0 ?_
    simp
    refine hK10 _ (J_ret (hF _ _ ?_))
    simp [Tryz.f79, icmp]
    simp at hc hd
    omega
  simp only [thenQ]
  refine hK11 _ (J_seq' fun K13 hK13 => J0 ?_)
  simp
  refine hK13 _ (J_ret (hF _ _ ?_))
  simp [Tryz.f79, icmp]
  simp at hc hd
  omega
theorem bits_fun (n : Nat) : PFun Tryz.prog 221 [.v (.float .f64 n)] (.v (.int .u64 n)) := by
  refine PFun.plain (vs := [.float .f64 n]) fun w => ?_
  rw [run_callFunc_extern Tryz.func221 (by kernel_rfl) (by kernel_rfl) (by kernel_rfl) (e := Extern.MathFloatBits.float64bits) (by kernel_rfl)]
  rfl
theorem frombits_fun (n : Nat) : PFun Tryz.prog 263 [.v (.int .u64 n)] (.v (.float .f64 n)) := by
  refine PFun.plain (vs := [.int .u64 n]) fun w => ?_
  rw [run_callFunc_extern Tryz.func263 (by kernel_rfl) (by kernel_rfl) (by kernel_rfl) (e := Extern.MathFloatBits.float64frombits) (by kernel_rfl)]
  rfl
def nanF (n : Nat) : Bool := FloatKind.f64.format.order n n != some .eq
def canon (n : Nat) : Nat := if nanF n then 9221120237041090561 else n
theorem canon_fun (n : Nat) : PFun Tryz.prog 222 [.v (.float .f64 n)] (.v (.float .f64 (canon n))) := by
  refine PFun.of_J D_ok Tryz.func222 rfl (by decide) (le' rfl) fun H E QF hF => ?_
  change J _ E 8 _ _ _
  refine J_seq' fun K1 hK1 => J0 ?_
  simp
  refine hK1 _ (J_seq' fun K2 hK2 => J_seq' fun K3 hK3 => J0 ?_)
  simp
  refine hK3 _ (J_cond rfl (fun hc => ?_) fun hc => J_skip ?_)
  · refine J_seq' fun K4 hK4 => J0 ?_
    simp
    refine (frombits_fun 9221120237041090561).call ?_
    simp
    refine hK4 _ (J_ret (hF _ _ ?_))
    have hc' : nanF n = true := hc
    simp [Tryz.f222, canon, hc']
  simp only [thenQ]
  refine hK2 _ (J_seq' fun K4 hK4 => J0 ?_)
  simp
  refine hK4 _ (J_ret (hF _ _ ?_))
  have hc' : nanF n = false := hc
  simp [Tryz.f222, canon, hc']
theorem copied_fun (m : Msg) (h : m.props.length ≤ 2000000) : PFun Tryz.prog 178 [.agg m.enc] (.agg m.enc) := by
  refine PFun.of_J D_ok Tryz.func178 rfl (by decide) (le' rfl) fun H E QF hF => ?_
  change J _ E 8 _ _ _
  refine J_seq' fun K1 hK1 => J0 ?_
  simp [Msg.enc]
  refine hK1 _ (J_seq' fun K2 hK2 => J0 ?_)
  simp
  refine (clone_Pro m.props h).call ?_
  simp
  refine hK2 _ (J_seq' fun K3 hK3 => J0 ?_)
  simp
  refine hK3 _ (J_ret (hF _ _ ?_))
  simp [Tryz.f178, Msg.enc]
end
section
set_option maxRecDepth 4000
attribute [local simp] D_220
def zero216 : List Value := List.replicate 256 (.bool false)
theorem D_216' : D 216 = some ⟨.arr 256 4, 256, 256, zero216⟩ := D_216
def hasB (bs : List UInt8) (i : Nat) : Bool := bs.any fun b => b.toNat == i
def tab (bs : List UInt8) : List AV := (List.range 256).map fun i => abool (hasB bs i)
theorem tab_zero : AV.ofVs zero216 = tab [] := by
  have h : ∀ (n k : Nat), AV.ofVs (List.replicate n (.bool false)) = (List.range' k n).map fun i => abool (hasB [] i) := by
    intro n
    induction n with
    | zero => intro k; rfl
    | succ n ih => intro k; rw [List.replicate_succ, AV.ofVs, List.range'_succ, List.map_cons, ih (k + 1)]; rfl
  have := h 256 0
  rw [← List.range_eq_range'] at this
  exact this
theorem tab_len (bs : List UInt8) : (tab bs).length = 256 := by simp [tab]
theorem tab_get (bs : List UInt8) {i : Nat} (h : i < 256) : (tab bs)[i]? = some (abool (hasB bs i)) := by simp [tab, h]
theorem tab_step (bs : List UInt8) (b : UInt8) : (tab bs).take b.toNat ++ [abool true] ++ (tab bs).drop (b.toNat + 1) = tab (bs ++ [b]) := by
  have hb : b.toNat < 256 := b.toNat_lt
  apply List.ext_getElem?
  intro i
  by_cases hi : i < 256
  · rw [tab_get _ hi]
    have hl : ((tab bs).take b.toNat).length = b.toNat := by rw [List.length_take, tab_len]; omega
    rcases Nat.lt_trichotomy i b.toNat with h | h | h
    · rw [List.append_assoc, List.getElem?_append_left (by omega), List.getElem?_take_of_lt h, tab_get _ hi]
      have : (b.toNat == i) = false := by simp; omega
      simp [hasB, this]
    · subst h
      rw [List.append_assoc, List.getElem?_append_right (by omega)]
      simp [hl, hasB]
    · rw [List.getElem?_append_right (by simp [hl]; omega)]
      have : (b.toNat == i) = false := by simp; omega
      rw [List.getElem?_drop]
      have e : b.toNat + 1 + (i - ((tab bs).take b.toNat ++ [abool true]).length) = i := by simp [hl]; omega
      rw [e, tab_get _ hi]
      simp [hasB, this]
  · have h1 : (tab (bs ++ [b]))[i]? = none := List.getElem?_eq_none (by rw [tab_len]; omega)
    rw [h1]
    apply List.getElem?_eq_none
    simp [tab_len]
    omega
theorem tab_at (bs : List UInt8) {i : Nat} (h : i < 256) : ((tab bs).drop i).headD .dead = abool (hasB bs i) := by
  have := tab_get bs h
  rw [← List.head?_drop] at this
  rw [List.headD_eq_head?_getD, this]
  rfl
theorem map_v (f : Nat → Bool) (l : List Nat) : AV.noLL (l.map fun i => abool (f i)) = true ∧ AV.normL (l.map fun i => abool (f i)) = (l.map fun i => abool (f i)) ∧ ∀ k, AV.killL k (l.map fun i => abool (f i)) = (l.map fun i => abool (f i)) := by
  induction l with
  | nil => exact ⟨rfl, rfl, fun _ => rfl⟩
  | cons x l ih => exact ⟨by simp [AV.noLL, AV.noL, ih.1], by simp [AV.normL, AV.norm, ih.2.1], fun k => by simp [AV.killL, AV.kill, ih.2.2 k]⟩
theorem tab_noL (bs : List UInt8) : AV.noLL (tab bs) = true := (map_v _ _).1
theorem tab_norm (bs : List UInt8) : AV.normL (tab bs) = tab bs := (map_v _ _).2.1
theorem tab_kill (k : Nat) (bs : List UInt8) : AV.killL k (tab bs) = tab bs := (map_v _ _).2.2 k
theorem tab_take (bs : List UInt8) : (tab bs).take 256 = tab bs := List.take_of_length_le (by rw [tab_len]; exact Nat.le_refl _)
theorem contains_fun (bs : List UInt8) (b : Nat) (hb : b < 256) : PFun Tryz.prog 259 [.vp (tab bs), .v (.int .u8 b)] (abool (hasB bs b)) := by
  refine PFun.of_J D_ok Tryz.func259 rfl (by decide) (le' rfl) fun H E QF hF => ?_
  change J _ E 10 _ _ _
  refine J_seq' fun K1 hK1 => ?_
  refine J0 ?_
  simp
  refine hK1 _ ?_
  refine J_seq' fun K2 hK2 => ?_
  refine J0 ?_
  simp [tab_len, D_216']
  refine ⟨by omega, by omega, hK2 _ ?_⟩
  refine J_ret (hF _ _ ?_)
  have h1 : (List.take 1 (List.drop b (tab bs))).head?.getD AV.dead = abool (hasB bs b) := by
    have := tab_at bs hb
    rw [List.headD_eq_head?_getD] at this
    rw [← this]
    cases List.drop b (tab bs) <;> rfl
  simp [Tryz.f259, h1]
theorem get_ext (s : ByteArray) (a b j : Nat) (h : a + j < b) (hb : b ≤ s.size) : (s.extract a b).get! j = s.get! (a + j) := by
  have h1 : a + j < s.data.size := by have : s.data.size = s.size := rfl; omega
  simp only [ByteArray.get!, ByteArray.data_extract]
  have h2 : j < (s.data.extract a b).size := by simp; omega
  rw [getElem!_pos (s.data.extract a b) j h2, getElem!_pos s.data (a + j) h1]
  simp
def inB (bs : List UInt8) (s : ByteArray) (j : Nat) : Bool := hasB bs (s.get! j).toNat
theorem trimR_fun (bs : List UInt8) (s : ByteArray) (hs : s.size ≤ 1099511627776) (H : Heap) : PCalls Tryz.prog 217 [astr s, .vp (tab bs)] H fun e H' => (∃ i, i ≤ s.size ∧ e = .ret (astr (s.extract 0 i)) ∧ (∀ j, i ≤ j → j < s.size → inB bs s j = true) ∧ (i = 0 ∨ inB bs s (i - 1) = false)) ∧ H' = H := by
  refine PCalls.of_J' D_ok Tryz.func217 rfl (by decide) (le' rfl) fun E QF hF => ?_
  change J _ E 22 _ _ _
  refine J_seq' fun K1 hK1 => ?_
  refine J0 ?_
  simp
  refine hK1 _ ?_
  refine J_seq' fun K2 hK2 => ?_
  refine J_block ?_
  refine J_loop' (fun n s' => n ≤ s.size ∧ (∀ j, n ≤ j → j < s.size → inB bs s j = true) ∧ Has [(0, astr (s.extract 0 n)), (1, .vp (tab bs))] [] H s') (n := s.size) ⟨Nat.le_refl _, fun j h1 h2 => by omega, ?_⟩ ?_
  · have : s.extract 0 s.size = s := by
      apply ByteArray.ext
      simp
    simp [this]
  · rintro n s' ⟨hn, hin, hs'⟩ K hK
    refine J_has hs' ?_
    have hsz : (s.extract 0 n).size = n := by rw [ByteArray.size_extract]; omega
    refine J_seq' fun K3 hK3 => ?_
    refine J_seq' fun K4 hK4 => ?_
    refine J0 ?_
    simp [hsz]
    refine hK4 _ ?_
    refine J_cond rfl ?_ ?_
    · intro hc
      simp at hc
      refine J_skip ?_
      simp only [thenQ, blockQ]
      refine hK3 _ ?_
      refine J_block ?_
      refine J_seq' fun K5 hK5 => ?_
      refine J_seq' fun K6 hK6 => ?_
      refine J0 ?_
      have hw : IntKind.i64.wrap ((n : Int) - 1) = ((n - 1 : Nat) : Int) := by rw [w64 (by omega) (by omega)]; omega
      have hg : (s.extract 0 n).get! (n - 1) = s.get! (n - 1) := by rw [get_ext _ _ _ _ (by omega) hn]; simp
      simp [hsz, hw, hg]
      refine ⟨by omega, (contains_fun bs _ (s.get! (n - 1)).toNat_lt).call ?_⟩
      simp
      refine hK6 _ ?_
      refine J_cond rfl ?_ ?_
      · intro hd
        refine J_exit ?_
        simp only [thenQ, blockQ, if_true]
        refine hK2 _ ?_
        refine J_seq' fun K7 hK7 => ?_
        refine J0 ?_
        simp
        refine hK7 _ ?_
        refine J_ret (hF _ _ ?_)
        simp [Tryz.f217]
        exact ⟨n, hn, rfl, hin, .inr (by simpa [inB] using hd)⟩
      intro hd
      refine J_skip ?_
      simp only [thenQ, blockQ]
      refine hK5 _ ?_
      refine J0 ?_
      simp [hsz, hw]
      refine hK (n - 1) _ (by omega) ⟨by omega, fun j h1 h2 => ?_, ?_⟩
      · rcases Nat.lt_or_ge j n with h | h
        · have : j = n - 1 := by omega
          subst this; simpa [inB] using hd
        · exact hin j h h2
      · simp [ByteArray.extract_extract]
        try (congr 1; omega)
    intro hc
    simp at hc
    refine J_exit ?_
    simp only [thenQ, blockQ, if_true]
    refine hK2 _ ?_
    refine J_seq' fun K8 hK8 => ?_
    refine J0 ?_
    simp
    refine hK8 _ ?_
    refine J_ret (hF _ _ ?_)
    simp [Tryz.f217]
    exact ⟨n, hn, rfl, hin, .inl (by omega)⟩
theorem trimL_fun (bs : List UInt8) (s : ByteArray) (hs : s.size ≤ 1099511627776) (H : Heap) : PCalls Tryz.prog 216 [astr s, .vp (tab bs)] H fun e H' => (∃ i, i ≤ s.size ∧ e = .ret (astr (s.extract i s.size)) ∧ (∀ j, j < i → inB bs s j = true) ∧ (i = s.size ∨ inB bs s i = false)) ∧ H' = H := by
  refine PCalls.of_J' D_ok Tryz.func216 rfl (by decide) (le' rfl) fun E QF hF => ?_
  change J _ E 16 _ _ _
  refine J_seq' fun K1 hK1 => ?_
  refine J0 ?_
  simp
  refine hK1 _ ?_
  refine J_seq' fun K2 hK2 => ?_
  refine J_block ?_
  refine J_loop' (fun n s' => n ≤ s.size ∧ (∀ j, j < s.size - n → inB bs s j = true) ∧ Has [(0, astr (s.extract (s.size - n) s.size)), (1, .vp (tab bs))] [] H s') (n := s.size) ⟨Nat.le_refl _, fun j h1 => by omega, ?_⟩ ?_
  · have : s.extract 0 s.size = s := by
      apply ByteArray.ext
      simp
    simp [this]
  · rintro n s' ⟨hn, hin, hs'⟩ K hK
    refine J_has hs' ?_
    have hsz : (s.extract (s.size - n) s.size).size = n := by rw [ByteArray.size_extract]; omega
    refine J_seq' fun K3 hK3 => ?_
    refine J_seq' fun K4 hK4 => ?_
    refine J0 ?_
    simp [hsz]
    refine hK4 _ ?_
    refine J_cond rfl ?_ ?_
    · intro hc
      simp at hc
      refine J_skip ?_
      simp only [thenQ, blockQ]
      refine hK3 _ ?_
      refine J_block ?_
      refine J_seq' fun K5 hK5 => ?_
      refine J_seq' fun K6 hK6 => ?_
      refine J0 ?_
      have hg : (s.extract (s.size - n) s.size).get! 0 = s.get! (s.size - n) := by rw [get_ext _ _ _ _ (by omega) (Nat.le_refl _)]; simp
      simp [hsz, hg]
      refine ⟨by omega, (contains_fun bs _ (s.get! (s.size - n)).toNat_lt).call ?_⟩
      simp
      refine hK6 _ ?_
      refine J_cond rfl ?_ ?_
      · intro hd
        refine J_exit ?_
        simp only [thenQ, blockQ, if_true]
        refine hK2 _ ?_
        refine J_seq' fun K7 hK7 => ?_
        refine J0 ?_
        simp
        refine hK7 _ ?_
        refine J_ret (hF _ _ ?_)
        simp [Tryz.f216]
        exact ⟨s.size - n, by omega, rfl, hin, .inr (by simpa [inB] using hd)⟩
      intro hd
      refine J_skip ?_
      simp only [thenQ, blockQ]
      refine hK5 _ ?_
      refine J0 ?_
      simp [hsz]
      refine ⟨by omega, hK (n - 1) _ (by omega) ⟨by omega, fun j h1 => ?_, ?_⟩⟩
      · rcases Nat.lt_or_ge j (s.size - n) with h | h
        · exact hin j h
        · have : j = s.size - n := by omega
          subst this; simpa [inB] using hd
      · simp [ByteArray.extract_extract]
        congr 1 <;> omega
    intro hc
    simp at hc
    refine J_exit ?_
    simp only [thenQ, blockQ, if_true]
    refine hK2 _ ?_
    refine J_seq' fun K8 hK8 => ?_
    refine J0 ?_
    simp
    refine hK8 _ ?_
    refine J_ret (hF _ _ ?_)
    simp [Tryz.f216]
    exact ⟨s.size - n, by omega, rfl, hin, .inl (by omega)⟩
def bytesOf (s : ByteArray) (n : Nat) : List UInt8 := (List.range n).map fun i => s.get! i
theorem asciiSet_fun (s : ByteArray) (hs : s.size ≤ 1099511627776) (ha : ∀ j, j < s.size → (s.get! j).toNat < 128) : PFun Tryz.prog 215 [astr s] (.tup [.agg (tab (bytesOf s s.size)), abool true]) := by
  refine PFun.of_J D_ok Tryz.func215 rfl (by decide) (le' rfl) fun H E QF hF => ?_
  change J _ E 21 _ _ _
  refine J_seq' fun K1 hK1 => ?_
  refine J0 ?_
  simp [D_216', tab_zero]
  refine hK1 _ ?_
  refine J_seq' fun K2 hK2 => ?_
  refine J_seq' fun K3 hK3 => ?_
  refine J0 ?_
  simp
  refine hK3 _ ?_
  refine J_block ?_
  refine J_loop' (fun n s' => n ≤ s.size ∧ Has [(0, astr s), (2, .p (.l 2) 0), (3, abool false), (4, aint ((s.size - n : Nat) : Int))] [(2, tab (bytesOf s (s.size - n)))] H s') (n := s.size) ⟨Nat.le_refl _, ?_⟩ ?_
  · simp [bytesOf, tab_kill]
  · rintro n s' ⟨hn, hs'⟩ K hK
    refine J_has hs' ?_
    refine J_seq' fun K4 hK4 => ?_
    refine J_seq' fun K5 hK5 => ?_
    refine J0 ?_
    simp
    refine hK5 _ ?_
    refine J_cond rfl ?_ ?_
    · intro hc
      simp at hc
      refine J_skip ?_
      simp only [thenQ, blockQ]
      refine hK4 _ ?_
      refine J_seq' fun K6 hK6 => ?_
      refine J_block ?_
      refine J_seq' fun K7 hK7 => ?_
      refine J0 ?_
      simp
      refine ⟨by omega, hK7 _ ?_⟩
      refine J_seq' fun K8 hK8 => ?_
      refine J_seq' fun K9 hK9 => ?_
      refine J0 ?_
      simp
      refine hK9 _ ?_
      have hlt := ha (s.size - n) (by omega)
      refine J_cond rfl ?_ ?_
      · intro hd
        simp at hd
        omega
      intro hd
      refine J_skip ?_
      simp only [thenQ, blockQ]
      refine hK8 _ ?_
      refine J0 ?_
      simp [D_216', tab_len]
      refine ⟨by omega, by omega, hK6 _ ?_⟩
      refine J0 ?_
      simp
      refine hK (n - 1) _ (by omega) ⟨by omega, ?_⟩
      have e1 : s.size - (n - 1) = s.size - n + 1 := by omega
      have e2 : bytesOf s (s.size - n + 1) = bytesOf s (s.size - n) ++ [s.get! (s.size - n)] := by simp [bytesOf, List.range_succ]
      have e3 := tab_step (bytesOf s (s.size - n)) (s.get! (s.size - n))
      rw [e1, e2, ← e3]
      simp
      try (rw [w64 (by omega) (by omega)])
      try omega
    intro hc
    simp at hc
    have h0 : n = 0 := by omega
    subst h0
    refine J_exit ?_
    simp only [thenQ, blockQ, if_true]
    refine hK2 _ ?_
    refine J_seq' fun K11 hK11 => ?_
    refine J0 ?_
    simp [D_216', tab_len]
    refine hK11 _ ?_
    refine J_ret (hF _ _ ?_)
    simp [Tryz.f215, D_216', tab_len, tab_take, tab_noL, tab_norm]
def letters : ByteArray := ⟨#[97, 98, 99, 100, 101, 102, 103, 104, 105, 106, 107, 108, 109, 110, 111, 112, 113, 114, 115, 116, 117, 118, 119, 120, 121, 122, 48, 49, 50, 51, 52, 53, 54, 55, 56, 57, 45, 95]⟩
def lettersL : List UInt8 := bytesOf letters 38
def allIn (s : ByteArray) : Bool := (List.range s.size).all fun j => inB lettersL s j
theorem letters_ascii : ∀ j, j < letters.size → (letters.get! j).toNat < 128 := by decide
def isE (s : ByteArray) : Bool := s.data.toList.isEmpty
theorem isE_iff (s : ByteArray) : isE s = true ↔ s.size = 0 := by
  unfold isE
  rw [List.isEmpty_iff]
  have : s.data.toList.length = s.size := rfl
  constructor
  · intro h; rw [h] at this; simpa using this.symm
  · intro h; exact List.eq_nil_of_length_eq_zero (by omega)
theorem sEq_empty (s : ByteArray) : sEq s ⟨#[]⟩ = isE s := by
  unfold sEq isE
  rw [ByteArray.toList_eq, ByteArray.toList_eq]
  cases s.data.toList <;> rfl
theorem sEq_empty' (s : ByteArray) : sEq s ByteArray.empty = isE s := sEq_empty s
theorem allIn_iff (s : ByteArray) : allIn s = true ↔ ∀ j, j < s.size → inB lettersL s j = true := by
  simp [allIn]
theorem trim_fun (s : ByteArray) (hs : s.size ≤ 1099511627776) (H : Heap) : PCalls Tryz.prog 145 [astr s, astr letters] H fun e H' => (∃ r, e = .ret (astr r) ∧ sEq r ⟨#[]⟩ = allIn s) ∧ H' = H := by
  refine PCalls.of_J' D_ok Tryz.func145 rfl (by decide) (le' rfl) fun E QF hF => ?_
  change J _ E 43 _ _ _
  refine J_seq' fun K1 hK1 => ?_
  refine J0 ?_
  simp
  refine hK1 _ ?_
  refine J_seq' fun K2 hK2 => ?_
  refine J_bool 12 (isE s) [0, 1, 4] ?_ ?_
  · refine J0 ?_
    simp [sEq_empty, sEq_empty', show isE letters = false from rfl]
  refine J_cond rfl ?_ ?_
  · intro hc
    refine J_seq' fun K4 hK4 => ?_
    refine J0 ?_
    simp
    refine hK4 _ ?_
    refine J_ret (hF _ _ ?_)
    simp [Tryz.f145]
    have h0 := (isE_iff s).1 hc
    rw [sEq_empty, hc]
    exact ((allIn_iff s).2 (by omega)).symm
  intro hc
  have hne : ¬ s.size = 0 := fun h => by rw [(isE_iff s).2 h] at hc; cases hc
  refine J_skip ?_
  simp only [thenQ, blockQ]
  refine hK2 _ ?_
  refine J_seq' fun K5 hK5 => ?_
  refine J_bool 21 false [0, 1, 4] ?_ ?_
  · refine J0 ?_
    simp [show letters.size = 38 from rfl]
  refine J_cond rfl (fun h => by cases h) fun _ => ?_
  refine J_skip ?_
  simp only [thenQ, blockQ]
  refine hK5 _ ?_
  refine J_seq' fun K8 hK8 => ?_
  refine J_seq' fun K9 hK9 => ?_
  refine J0 ?_
  simp
  refine (asciiSet_fun letters (by decide) letters_ascii).call ?_
  generalize hT : tab (bytesOf letters letters.size) = T
  have hTl : T.length = 256 := by rw [← hT]; exact tab_len _
  have hTk : ∀ k, AV.killL k T = T := fun k => by rw [← hT]; exact tab_kill k _
  simp [D_216', tab_len, tab_zero, tab_kill, hTl, hTk]
  refine hK9 _ ?_
  refine J_seq' fun K10 hK10 => ?_
  refine J0 ?_
  simp
  refine hK10 _ ?_
  refine J_cond rfl ?_ (fun h => by cases h)
  intro _
  refine J_freeze 5 rfl (by rw [← hT]; exact tab_noL _) ?_
  simp [AS.frz, frzS, frzL, AV.frz]
  subst hT
  refine J_seq' fun K11 hK11 => ?_
  refine J0 ?_
  simp
  refine (trimR_fun lettersL s hs H).mono ?_
  rintro e H' ⟨⟨i, hi, rfl, hin, hlast⟩, rfl⟩
  have hsz : (s.extract 0 i).size = i := by rw [ByteArray.size_extract]; omega
  simp
  refine (trimL_fun lettersL (s.extract 0 i) (by omega) _).mono ?_
  rintro e H' ⟨⟨k, hk, rfl, hink, hfirst⟩, rfl⟩
  simp
  refine hK11 _ ?_
  refine J_ret (hF _ _ ?_)
  simp [Tryz.f145]
  rw [hsz] at hk hfirst
  rw [sEq_empty, Bool.eq_iff_iff, isE_iff, allIn_iff, ByteArray.size_extract, hsz]
  have hget : ∀ j, j < i → inB lettersL (s.extract 0 i) j = inB lettersL s j := fun j hj => by
    unfold inB
    rw [get_ext _ _ _ _ (by omega) hi, Nat.zero_add]
  constructor
  · intro h0 j hj
    rcases Nat.lt_or_ge j i with h | h
    · rw [← hget j h]; exact hink j (by omega)
    · exact hin j h hj
  · intro hall
    rcases hlast with rfl | h
    · omega
    · rw [hall (i - 1) (by omega)] at h; cases h
def wordOk (s : ByteArray) : Bool := !isE s && decide (s.size ≤ 16) && allIn s
theorem name_fun (s : ByteArray) (hs : s.size ≤ 1099511627776) : PFun Tryz.prog 77 [astr s] (abool (wordOk s)) := by
  refine PFun.of_J D_ok Tryz.func77 rfl (by decide) (le' rfl) fun H E QF hF => ?_
  change J _ E 15 _ _ _
  refine J_seq' fun K1 hK1 => ?_
  refine J0 ?_
  simp
  refine hK1 _ ?_
  refine J_bool 2 (wordOk s) [] ?_ ?_
  · refine J0 ?_
    simp [sEq_empty, sEq_empty', wordOk]
    refine ⟨fun h1 => ⟨fun h2 => (trim_fun s hs H).mono ?_, fun h2 => ?_⟩, ?_⟩
    · rintro e H' ⟨⟨r, rfl, hr⟩, rfl⟩
      rw [sEq_empty] at hr
      simp [sEq_empty, sEq_empty', hr, h1]
      omega
    · intro _ h3; omega
    · intro h; simp [h]
  refine J_ret (hF _ _ ?_)
  simp [Tryz.f77]
end
section
attribute [local simp] D_81 D_83 D_222
theorem word_fun (s : ByteArray) (hs : s.size ≤ 1099511627776) : PFun Tryz.prog 89 [astr s] (abool (wordOk s)) := by
  refine PFun.of_J D_ok Tryz.func89 rfl (by decide) (le' rfl) fun H E QF hF => ?_
  change J _ E 15 _ _ _
  refine J_seq' fun K1 hK1 => ?_
  refine J0 ?_
  simp
  refine hK1 _ ?_
  refine J_bool 2 (wordOk s) [] ?_ ?_
  · refine J0 ?_
    simp [sEq_empty, sEq_empty', wordOk]
    refine ⟨fun h1 => ⟨fun h2 => (trim_fun s hs H).mono ?_, fun h2 => ?_⟩, ?_⟩
    · rintro e H' ⟨⟨r, rfl, hr⟩, rfl⟩
      rw [sEq_empty] at hr
      simp [sEq_empty, sEq_empty', hr, h1]
      omega
    · intro _ h3; omega
    · intro h; simp [h]
  refine J_ret (hF _ _ ?_)
  simp [Tryz.f89]
def valOk (v : Val) : Bool :=
  if v.kind = 1 then isE v.text && decide (v.real = 0)
  else if v.kind = 2 then isE v.text && decide (v.real = 0) && (decide (v.num = 0) || decide (v.num = 1))
  else if v.kind = 3 then decide (v.num = 0) && decide (v.real = 0) && decide (v.text.size ≤ 256)
  else if v.kind = 4 then decide (v.num = 0) && isE v.text && decide (v.real = canon v.real)
  else false
theorem good_fun (v : Val) : PFun Tryz.prog 150 [.agg v.enc] (abool (valOk v)) := by
  refine PFun.of_J D_ok Tryz.func150 rfl (by decide) (le' rfl) fun H E QF hF => ?_
  change J _ E 70 _ _ _
  refine J_seq' fun K1 hK1 => ?_
  refine J1 1 ?_
  simp [Val.enc]
  refine hK1 _ ?_
  refine J_seq' fun K2 hK2 => ?_
  refine J1 1 ?_
  simp
  refine (bits_fun v.real).call ?_
  simp
  refine hK2 _ ?_
  refine J_seq' fun K3 hK3 => ?_
  refine J_seq' fun K4 hK4 => ?_
  refine J1 1 ?_
  simp
  refine hK4 _ ?_
  refine J_block ?_
  refine J_seq' fun K5 hK5 => ?_
  refine J1 1 ?_
  simp
  refine hK5 _ ?_
  refine J_cond rfl ?_ ?_
  · intro hc
    have k1 : v.kind = 1 := by simpa using hc
    refine J_bool 2 (valOk v) [] ?_ ?_
    · refine J1 1 ?_
      simp [sEq_empty, sEq_empty', valOk, k1]
      have hr : ((v.real : Int) == 0) = decide (v.real = 0) := by rw [Bool.eq_iff_iff]; simp
      rw [hr]
      generalize isE v.text = e
      cases e <;> simp
    refine J_ret (hF _ _ ?_)
    simp [Tryz.f150]
  intro hc
  have k1 : ¬ v.kind = 1 := by simpa using hc
  refine J_seq' fun K7 hK7 => ?_
  refine J1 1 ?_
  simp
  refine hK7 _ ?_
  refine J_cond rfl ?_ ?_
  · intro hc
    have k2 : v.kind = 2 := by simpa using hc
    refine J_bool 2 (valOk v) [] ?_ ?_
    · refine J1 1 ?_
      simp [sEq_empty, sEq_empty', valOk, k2]
      generalize isE v.text = e
      by_cases h0 : v.real = 0 <;> by_cases h1 : v.num = 0 <;> cases e <;> simp [h0, h1] <;> try (rw [Bool.eq_iff_iff]; simp; done)
    refine J_ret (hF _ _ ?_)
    simp [Tryz.f150]
  intro hc
  have k2 : ¬ v.kind = 2 := by simpa using hc
  refine J_seq' fun K9 hK9 => ?_
  refine J1 1 ?_
  simp
  refine hK9 _ ?_
  refine J_cond rfl ?_ ?_
  · intro hc
    have k3 : v.kind = 3 := by simpa using hc
    refine J_bool 2 (valOk v) [] ?_ ?_
    · refine J1 1 ?_
      simp [sEq_empty, sEq_empty', valOk, k3]
      by_cases h0 : v.real = 0 <;> by_cases h1 : v.num = 0 <;> simp [h0, h1] <;> omega
    refine J_ret (hF _ _ ?_)
    simp [Tryz.f150]
  intro hc
  have k3 : ¬ v.kind = 3 := by simpa using hc
  refine J_seq' fun K11 hK11 => ?_
  refine J1 1 ?_
  simp
  refine hK11 _ ?_
  refine J_cond rfl ?_ ?_
  · intro hc
    have k4 : v.kind = 4 := by simpa using hc
    refine J_bool 2 (valOk v) [] ?_ ?_
    · refine J1 1 ?_
      simp [sEq_empty, sEq_empty', valOk, k4]
      refine ⟨fun h1 => ⟨fun h2 => (canon_fun v.real).call ?_, ?_⟩, ?_⟩
      · simp
        refine (bits_fun (canon v.real)).call ?_
        simp [h1, h2]
        rw [Bool.eq_iff_iff]
        simp
        try omega
      · intro h; simp [h, h1]
      · intro h; simp [h]
    refine J_ret (hF _ _ ?_)
    simp [Tryz.f150]
  intro hc
  have k4 : ¬ v.kind = 4 := by simpa using hc
  refine J_skip ?_
  simp only [thenQ, blockQ]
  refine hK3 _ ?_
  refine J_seq' fun K13 hK13 => ?_
  refine J1 1 ?_
  simp
  refine hK13 _ ?_
  refine J_ret (hF _ _ ?_)
  simp [Tryz.f150, valOk, k1, k2, k3, k4]
end
section
attribute [local simp] D_54 D_87
def or2 (a b : Int) : Int := if a ≠ 0 then a else b
theorem or_fun (a b : Int) : PFun Tryz.prog 139 [.sl 2 [aint a, aint b]] (aint (or2 a b)) := by
  refine PFun.of_J D_ok Tryz.func139 rfl (by decide) (le' rfl) fun H E QF hF => ?_
  change J _ E 18 _ _ _
  refine J_seq' fun K1 hK1 => J0 ?_
  simp
  refine hK1 _ (J_seq' fun K2 hK2 => J0 ?_)
  simp
  refine hK2 _ (J_seq' fun K3 hK3 => J_seq' fun K4 hK4 => J0 ?_)
  simp
  refine hK4 _ ?_
  refine J_block ?_
  refine J_loop' (fun n s' => ∃ i : Nat, i ≤ 2 ∧ n = 2 - i ∧ (0 < i → a = 0) ∧ (1 < i → b = 0) ∧ Has [(2, aint 0), (3, aint 0), (6, .sl 2 [aint a, aint b]), (7, aint 2), (8, aint i)] [] H s') (n := 2) ⟨0, by omega, by omega, by omega, by omega, by simp⟩ ?_
  rintro n s' ⟨i, hi, hn, ha, hb, hs'⟩ K hK
  refine J_has hs' ?_
  refine J_seq' fun K5 hK5 => J0 ?_
  simp
  refine hK5 _ (J_seq' fun K6 hK6 => J_cond rfl (fun hc => J_skip ?_) fun hc => J_exit ?_)
  · simp at hc
    simp only [thenQ, blockQ]
    refine hK6 _ (J_seq' fun K7 hK7 => J_block (J_seq' fun K8 hK8 => J0 ?_))
    have h2 : i = 0 ∨ i = 1 := by omega
    rcases h2 with rfl | rfl
    · simp
      refine hK8 _ (J_seq' fun K9 hK9 => J0 ?_)
      simp
      refine hK9 _ (J_cond rfl (fun hd => ?_) fun hd => J_skip ?_)
      · refine J_seq' fun K10 hK10 => J0 ?_
        simp
        refine hK10 _ (J_ret (hF _ _ ?_))
        have : a ≠ 0 := by simpa using hd
        simp [Tryz.f139, or2, this]
      · have h0 : a = 0 := by simpa using hd
        simp only [thenQ, blockQ]
        refine hK7 _ (J0 ?_)
        simp
        refine hK 1 _ (by omega) ⟨1, by omega, by omega, fun _ => h0, by omega, by simp [w64]⟩
    · have h0 : a = 0 := ha (by omega)
      simp
      refine hK8 _ (J_seq' fun K9 hK9 => J0 ?_)
      simp
      refine hK9 _ (J_cond rfl (fun hd => ?_) fun hd => J_skip ?_)
      · refine J_seq' fun K10 hK10 => J0 ?_
        simp
        refine hK10 _ (J_ret (hF _ _ ?_))
        simp [Tryz.f139, or2, h0]
      · have h1 : b = 0 := by simpa using hd
        simp only [thenQ, blockQ]
        refine hK7 _ (J0 ?_)
        simp
        refine hK 0 _ (by omega) ⟨2, by omega, by omega, fun _ => h0, fun _ => h1, by simp [w64]⟩
  · simp at hc
    simp only [thenQ, blockQ, if_true]
    refine hK3 _ (J_seq' fun K11 hK11 => J0 ?_)
    simp
    refine hK11 _ (J_ret (hF _ _ ?_))
    have h0 := ha (by omega)
    have h1 := hb (by omega)
    simp [Tryz.f139, or2, h0, h1]
def byBind (a b : Tv.Bind) : Int := or2 (scmp a.queue b.queue) (scmp a.pattern b.pattern)
theorem byBind_fun (a b : Tv.Bind) : PFun Tryz.prog 57 [.agg a.enc, .agg b.enc] (aint (byBind a b)) := by
  refine PFun.of_J D_ok Tryz.func57 rfl (by decide) (le' rfl) fun H E QF hF => ?_
  change J _ E 17 _ _ _
  refine J_seq' fun K1 hK1 => ?_
  refine J2 2 3 ?_
  simp [Bind.enc]
  refine hK1 _ ?_
  refine J_seq' fun K2 hK2 => ?_
  refine J_draw' D_ok (cfg := ⟨17, fun k => k == 2 || k == 3⟩) [0,1,2,3,4,5,6,7,8,9,10,11,12] [] [] rfl (by decide) (by decide) ?_
  simp
  refine ⟨_, scmp_fun _ _, _, scmp_fun _ _, ?_⟩
  simp
  refine ⟨_, or_fun _ _, ?_⟩
  try simp
  refine hK2 _ (J_ret (hF _ _ ?_))
  simp [Tryz.f57, byBind]
def bySub (a b : Tv.Sub) : Int := or2 (icmp a.conn b.conn) (icmp a.sub b.sub)
theorem bySub_fun (a b : Tv.Sub) : PFun Tryz.prog 59 [.agg a.enc, .agg b.enc] (aint (bySub a b)) := by
  refine PFun.of_J D_ok Tryz.func59 rfl (by decide) (le' rfl) fun H E QF hF => ?_
  change J _ E 17 _ _ _
  refine J_seq' fun K1 hK1 => ?_
  refine J2 2 3 ?_
  simp [Sub.enc]
  refine hK1 _ ?_
  refine J_seq' fun K2 hK2 => ?_
  refine J_draw' D_ok (cfg := ⟨17, fun k => k == 2 || k == 3⟩) [0,1,2,3,4,5,6,7,8,9,10,11,12] [] [] rfl (by decide) (by decide) ?_
  simp [D_46]
  refine ⟨_, icmp_fun _ _, _, icmp_fun _ _, ?_⟩
  simp
  refine ⟨_, or_fun _ _, ?_⟩
  try simp
  refine hK2 _ (J_ret (hF _ _ ?_))
  simp [Tryz.f59, bySub]
end
section
set_option maxRecDepth 10000
attribute [local simp] D_31 D_83 D_85 D_81 D_222
def proOk (xs : List Pro) (i : Nat) : Bool :=
  match xs[i]? with
  | some p => wordOk p.name && valOk p.val && (decide (i = 0) || (match xs[i - 1]? with
    | some q => sLt q.name p.name
    | none => false))
  | none => false
def validOk (xs : List Pro) : Bool := (List.range xs.length).all (proOk xs) && decide (xs.length ≤ 16)
theorem valid_fun (xs : List Pro) (hx : xs.length ≤ 2000000) (hs : ∀ p ∈ xs, p.name.size ≤ 1099511627776) : PFun Tryz.prog 84 [asl Pro.enc xs] (abool (validOk xs)) := by
  refine PFun.of_J D_ok Tryz.func84 rfl (by decide) (le' rfl) fun H E QF hF => ?_
  change J _ E 41 _ _ _
  refine J_seq' fun K1 hK1 => ?_
  refine J0 ?_
  simp
  refine hK1 _ ?_
  refine J_seq' fun K2 hK2 => ?_
  refine J_seq' fun K3 hK3 => ?_
  refine J0 ?_
  simp
  refine hK3 _ ?_
  refine J_block ?_
  refine J_loop' (fun n s' => n ≤ xs.length ∧ (∀ j, j < xs.length - n → proOk xs j = true) ∧ ∃ L, Has [(0, asl Pro.enc xs), (2, abool false), (5, asl Pro.enc xs), (6, aint xs.length), (7, aint ((xs.length - n : Nat) : Int))] L H s') (n := xs.length) ⟨Nat.le_refl _, by omega, [], by simp⟩ ?_
  rintro n s' ⟨hn, hok, L, hs'⟩ K hK
  refine J_has hs' ?_
  refine J_seq' fun K4 hK4 => ?_
  refine J0 ?_
  simp
  refine hK4 _ ?_
  refine J_seq' fun K5 hK5 => ?_
  refine J_cond rfl ?_ ?_
  · intro hc
    simp at hc
    obtain ⟨p, hp⟩ : ∃ p, xs[xs.length - n]? = some p := ⟨_, List.getElem?_eq_getElem (by omega)⟩
    have hat := at_Pro xs hp
    refine J_skip ?_
    simp only [thenQ, blockQ]
    refine hK5 _ ?_
    refine J_seq' fun K6 hK6 => ?_
    refine J_block ?_
    refine J_seq' fun K7 hK7 => ?_
    refine J0 ?_
    simp [hat, kill_Pro, len_Pro]
    refine ⟨by omega, by omega, hK7 _ ?_⟩
    have hpp : p ∈ xs := List.mem_of_getElem? hp
    have key : proOk xs (xs.length - n) = (wordOk p.name && valOk p.val && (decide (xs.length - n = 0) || (match xs[xs.length - n - 1]? with
      | some q => sLt q.name p.name
      | none => false))) := by unfold proOk; rw [hp]
    refine J_bool 36 (!proOk xs (xs.length - n)) [0, 2, 5, 6, 7] ?_ ?_
    · refine J_draw' D_ok (cfg := ⟨41, fun _ => false⟩) [0,1,2,3,4,5,6,7,8,9,10,11,12,13,14,15,16,17,18,19,20,21,22,23,24] [] [] rfl (by decide) (by decide) ?_
      simp [Pro.enc, Val.enc]
      refine ⟨_, name_fun p.name (hs p hpp), ?_⟩
      simp [key]
      refine ⟨fun h1 => ⟨_, good_fun p.val, ?_⟩, fun h1 => ?_⟩
      · simp
        refine ⟨fun h2 => ⟨fun h3 => ?_, fun h3 => ⟨⟨h1, h2⟩, .inl h3⟩⟩, fun h2 _ h3 => by rw [h2] at h3; cases h3⟩
        have hw : IntKind.i64.wrap (((xs.length - n : Nat) : Int) - 1) = ((xs.length - n - 1 : Nat) : Int) := by rw [w64 (by omega) (by omega)]; omega
        obtain ⟨q, hq⟩ : ∃ q, xs[xs.length - n - 1]? = some q := ⟨_, List.getElem?_eq_getElem (by omega)⟩
        have hq5 := at_Pro xs hq
        have hd : (List.take 1 (List.drop ((xs.length - n - 1) * 5) (List.flatMap Pro.enc xs))).head?.getD AV.dead = astr q.name := by
          have e : (List.take 1 (List.drop ((xs.length - n - 1) * 5) (List.flatMap Pro.enc xs))) = List.take 1 (List.take 5 (List.drop ((xs.length - n - 1) * 5) (List.flatMap Pro.enc xs))) := by rw [List.take_take]; rfl
          rw [e, hq5]; rfl
        rw [hw]
        simp only [Int.toNat_natCast]
        rw [hd]
        have h0 : ¬ (xs.length - n = 0) := by omega
        simp [hq, h1, h2, h0]
        omega
      · intro h; rw [h1] at h; cases h
    refine J_cond rfl ?_ ?_
    · intro hc2
      have hno : proOk xs (xs.length - n) = false := by simpa using hc2
      refine J_seq' fun K9 hK9 => ?_
      refine J0 ?_
      simp
      refine hK9 _ ?_
      refine J_ret (hF _ _ ?_)
      have : validOk xs = false := by
        unfold validOk
        rw [Bool.and_eq_false_iff]
        left
        rw [List.all_eq_false]
        exact ⟨xs.length - n, by simp; omega, by rw [hno]; simp⟩
      simp [Tryz.f84, this]
    intro hc2
    have hyes : proOk xs (xs.length - n) = true := by simpa using hc2
    refine J_skip ?_
    simp only [thenQ, blockQ]
    refine hK6 _ ?_
    refine J0 ?_
    simp
    refine hK (n - 1) _ (by omega) ⟨by omega, fun j hj => ?_, _, by simp; exact ⟨by rw [w64 (by omega) (by omega)]; omega, rfl⟩⟩
    rcases Nat.lt_or_ge j (xs.length - n) with h | h
    · exact hok j h
    · have : j = xs.length - n := by omega
      subst this; exact hyes
  · intro hc
    simp at hc
    refine J_exit ?_
    simp only [thenQ, blockQ, if_true]
    refine hK2 _ ?_
    refine J_seq' fun K10 hK10 => ?_
    refine J0 ?_
    simp
    refine hK10 _ ?_
    refine J_ret (hF _ _ ?_)
    have : validOk xs = decide (xs.length ≤ 16) := by
      unfold validOk
      have : (List.range xs.length).all (proOk xs) = true := by
        rw [List.all_eq_true]
        intro j hj
        exact hok j (by have := List.mem_range.1 hj; omega)
      rw [this]; simp
    simp [Tryz.f84, this]
    omega
end
section
attribute [local simp] D_42 D_37
def noQueue : Queue := ⟨⟨#[]⟩, false, 0, 0, 0, [], []⟩
def newQ (s : ByteArray) (d : Bool) (n : Int) : Queue × Int :=
  if wordOk s = false then (noQueue, 31) else if n < 1 ∨ 64 < n then (noQueue, 1) else (⟨s, d, n, 0, 0, [], []⟩, 0)
theorem new_fun (s : ByteArray) (d : Bool) (n : Int) (hs : s.size ≤ 1099511627776) : PFun Tryz.prog 180 [astr s, abool d, aint n] (.tup [.agg (newQ s d n).1.enc, aint (newQ s d n).2]) := by
  refine PFun.of_J D_ok Tryz.func180 rfl (by decide) (le' rfl) fun H E QF hF => ?_
  change J _ E 25 _ _ _
  refine J_seq' fun K1 hK1 => ?_
  refine J0 ?_
  simp
  refine hK1 _ ?_
  refine J_seq' fun K2 hK2 => ?_
  refine J_block ?_
  refine J_seq' fun K3 hK3 => ?_
  refine J0 ?_
  simp
  refine (name_fun s hs).call ?_
  simp
  refine hK3 _ ?_
  refine J_cond rfl ?_ ?_
  · intro hc
    have h1 : wordOk s = false := by simpa using hc
    refine J_seq' fun K4 hK4 => ?_
    refine J0 ?_
    simp
    refine hK4 _ ?_
    refine J_ret (hF _ _ ?_)
    simp [Tryz.f180, newQ, h1, noQueue, Queue.enc]
  intro hc
  have h1 : wordOk s = true := by simpa using hc
  refine J_bool 13 (decide (n < 1) || decide (64 < n)) [0, 1, 2, 6, 7] ?_ ?_
  · refine J0 ?_
    simp
    try omega
  refine J_cond rfl ?_ ?_
  · intro hd
    have h2 : n < 1 ∨ 64 < n := by simpa using hd
    refine J_seq' fun K6 hK6 => ?_
    refine J0 ?_
    simp
    refine hK6 _ ?_
    refine J_ret (hF _ _ ?_)
    simp [Tryz.f180, newQ, h1, h2, noQueue, Queue.enc]
  intro hd
  have h2 : ¬ (n < 1 ∨ 64 < n) := by simpa using hd
  refine J_skip ?_
  simp only [thenQ, blockQ]
  refine hK2 _ ?_
  refine J_seq' fun K7 hK7 => ?_
  refine J0 ?_
  simp
  refine hK7 _ ?_
  refine J_ret (hF _ _ ?_)
  simp [Tryz.f180, newQ, h1, h2, Queue.enc]
theorem len_fun (q : Queue) (h1 : q.items.length ≤ 2000000) (h2 : q.held.length ≤ 2000000) : PFun Tryz.prog 246 [.agg q.enc] (aint ((q.items.length + q.held.length : Nat) : Int)) := by
  refine PFun.of_J D_ok Tryz.func246 rfl (by decide) (le' rfl) fun H E QF hF => ?_
  change J _ E 10 _ _ _
  refine J_seq' fun K1 hK1 => J1 1 ?_
  simp [Queue.enc]
  refine hK1 _ (J_seq' fun K2 hK2 => J1 1 ?_)
  simp
  refine hK2 _ (J_ret (hF _ _ ?_))
  simp [Tryz.f246]
  rw [w64 (by omega) (by omega)]
end
section
attribute [local simp] D_42 D_77 D_50
def holdsP (c s : Int) (h : Hold) : Bool := decide (h.conn = c) && decide (h.sub = s)
def holds (q : Queue) (c s : Int) : Nat := (q.held.filter (holdsP c s)).length
theorem holds_fun (q : Queue) (c s : Int) (h2 : q.held.length ≤ 2000000) : PFun Tryz.prog 18 [.agg q.enc, aint c, aint s] (aint (holds q c s : Nat)) := by
  refine PFun.of_J D_ok Tryz.func18 rfl (by decide) (le' rfl) fun H E QF hF => ?_
  change J _ E 31 _ _ _
  refine J_seq' fun K1 hK1 => J1 3 ?_
  simp [Queue.enc]
  refine hK1 _ (J_seq' fun K2 hK2 => J1 3 ?_)
  simp
  refine hK2 _ (J_seq' fun K3 hK3 => J_seq' fun K4 hK4 => J1 3 ?_)
  simp
  refine hK4 _ (J_block ?_)
  refine J_loop' (fun n s' => n ≤ q.held.length ∧ ∃ L, Has [(1, aint c), (2, aint s), (7, aint (((q.held.take (q.held.length - n)).filter (holdsP c s)).length : Nat)), (11, asl Hold.enc q.held), (12, aint q.held.length), (13, aint ((q.held.length - n : Nat) : Int))] L H s') (n := q.held.length) ⟨Nat.le_refl _, [], by simp⟩ ?_
  rintro n s' ⟨hn, L, hs'⟩ K hK
  refine J_has hs' ?_
  refine J_seq' fun K5 hK5 => J1 3 ?_
  simp
  refine hK5 _ (J_seq' fun K6 hK6 => J_cond rfl (fun hc => J_skip ?_) fun hc => J_exit ?_)
  · simp at hc
    obtain ⟨h, hh⟩ : ∃ h, q.held[q.held.length - n]? = some h := ⟨_, List.getElem?_eq_getElem (by omega)⟩
    have hat := at_Hold q.held hh
    have hstep : q.held.take (q.held.length - (n - 1)) = q.held.take (q.held.length - n) ++ [h] := by
      rw [show q.held.length - (n - 1) = q.held.length - n + 1 from by omega, List.take_add_one, hh]
      rfl
    have hcount : ((q.held.take (q.held.length - n)).filter (holdsP c s)).length ≤ q.held.length := Nat.le_trans (List.length_filter_le _ _) (by rw [List.length_take]; omega)
    simp only [thenQ, blockQ]
    refine hK6 _ (J_seq' fun K7 hK7 => J_block (J_seq' fun K8 hK8 => J1 3 ?_))
    simp [hat, kill_Hold, len_Hold]
    refine ⟨by omega, by omega, hK8 _ ?_⟩
    have next : ∀ (Q' : AX → AS → Prop) (L' : List (Nat × List AV)) (m : Nat) (S : Slots), m = (((q.held.take (q.held.length - n)) ++ [h]).filter (holdsP c s)).length →
        subS [(1, aint c), (2, aint s), (7, aint m), (11, asl Hold.enc q.held), (12, aint q.held.length), (13, aint ((q.held.length - n : Nat) : Int))] S →
        J Tryz.prog E 31 (.region 7 #[{ dst := some 29, op := .binOp .add 3 (.tmp 13) (.const (.int .i64 1)) 3, type := 3, pos := "queue.go:167", after := #[], guard := none }, { dst := some 13, op := .move (.tmp 29), type := 3, pos := "queue.go:167", after := #[{ on := 0, ground := .data }], guard := none }] false) (thenQ K Q') ⟨S, L', H⟩ := by
      intro Q' L' m S hm hS
      refine J_has ⟨hS, rfl, rfl⟩ ?_
      refine J1 3 ?_
      simp
      refine hK (n - 1) _ (by omega) ⟨by omega, L', ?_⟩
      rw [hstep, ← hm]
      simp
      rw [w64 (by omega) (by omega)]
      omega
    refine J_bool 26 (holdsP c s h) [1, 2, 7, 11, 12, 13] ?_ ?_
    · refine J1 3 ?_
      simp [Hold.enc, holdsP]
      try (by_cases e1 : h.conn = c <;> by_cases e2 : h.sub = s <;> simp [e1, e2])
    refine J_cond rfl (fun hd => ?_) fun hd => J_skip ?_
    · refine J1 3 ?_
      simp
      refine hK7 _ (next _ _ (((q.held.take (q.held.length - n)).filter (holdsP c s)).length + 1) _ ?_ ?_)
      · rw [List.filter_append]; simp [hd]
      · simp
        rw [w64 (by omega) (by omega)]
    · simp only [thenQ, blockQ]
      refine hK7 _ (next _ _ (((q.held.take (q.held.length - n)).filter (holdsP c s)).length) _ ?_ ?_)
      · rw [List.filter_append]; simp [hd]
      · simp
  · simp at hc
    have h0 : n = 0 := by omega
    subst h0
    simp only [thenQ, blockQ, if_true]
    refine hK3 _ (J_seq' fun K10 hK10 => J1 3 ?_)
    simp
    refine hK10 _ (J_ret (hF _ _ ?_))
    simp [Tryz.f18, holds]
end
end Go.Proofs.YtpcpljfifipagaaGreatDoor
