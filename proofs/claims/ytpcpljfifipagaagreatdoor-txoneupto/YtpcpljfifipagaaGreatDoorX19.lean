/- A part of the proof: the engine that walks Go code, the walks of the broker, or their laws (Tc Te Tf Tg Th Td). -/
import Derived.Test.YtpcpljfifipagaaGreatDoorX18
import Derived.Lib.SplitLaws
import Derived.Test.YtpcpljfifipagaaGreatDoorX12
import Derived.Test.YtpcpljfifipagaaGreatDoorX14
set_option linter.unusedSimpArgs false
set_option linter.unusedVariables false
set_option maxHeartbeats 8000000
set_option maxRecDepth 20000
namespace Go.Proofs.YtpcpljfifipagaaGreatDoor
open Go.Eng Go.Tv
attribute [-simp] List.length_flatMap
section
attribute [local simp] D_133 D_33 D_31
theorem split_fun (s : ByteArray) (hs : s.size < 4294967281) : PFun Tryz.prog 85 [astr s, astr dot] (asl Str.enc (pieces s)) := by
  refine PFun.of_J D_ok Tryz.func85 rfl (by decide) (le' rfl) fun H E QF hF => ?_
  change J _ E 8 _ _ _
  refine J_seq' fun K1 hK1 => J0 ?_
  simp
  refine hK1 _ (J_seq' fun K2 hK2 => J0 ?_)
  simp
  refine (gensplit_fun s hs).call ?_
  simp
  refine hK2 _ (J_ret (hF _ _ ?_))
  simp [Tryz.f85]
def notWord (w : ByteArray) : Bool := !wordOk w
theorem notWord_fun (s : ByteArray) (hs : s.size ≤ 1099511627776) : PFun Tryz.prog 149 [astr s] (abool (notWord s)) := by
  refine PFun.of_J D_ok Tryz.func149 rfl (by decide) (le' rfl) fun H E QF hF => ?_
  change J _ E 6 _ _ _
  refine J_seq' fun K1 hK1 => J0 ?_
  simp
  refine hK1 _ (J_seq' fun K2 hK2 => J0 ?_)
  simp
  refine (word_fun s hs).call ?_
  simp
  refine hK2 _ (J_ret (hF _ _ ?_))
  simp [Tryz.f149, notWord]
theorem splitB_size (sep : ByteArray) : ∀ (k : Nat) (s : ByteArray), ∀ w ∈ Lib.splitB sep 0 k s, w.size ≤ s.size
  | 0, s, w, h => by simp [Lib.splitB] at h; subst h; exact Nat.le_refl _
  | k + 1, s, w, h => by
    unfold Lib.splitB at h
    split at h
    · simp at h; subst h; exact Nat.le_refl _
    · rcases List.mem_cons.mp h with rfl | h
      · rw [ByteArray.size_extract]; omega
      · have := splitB_size sep k _ w h
        rw [ByteArray.size_extract] at this
        omega
theorem pieces_size (s : ByteArray) : ∀ w ∈ pieces s, w.size ≤ s.size := splitB_size dot _ s
theorem pieces_many (s : ByteArray) : (pieces s).length ≤ s.size + 1 := by
  rw [pieces_len]
  have := Lib.countB_le dot (by decide) s.size s (Nat.le_refl _)
  omega
def topicOk (s : ByteArray) : Bool := decide (s.size ≤ 64) && decide ((pieces s).length ≤ 8) && (pieces s).all wordOk
theorem topic_fun (s : ByteArray) (hs : s.size ≤ 1100000) : PFun Tryz.prog 83 [astr s] (abool (topicOk s)) := by
  have hp := pieces_many s
  refine PFun.of_J D_ok Tryz.func83 rfl (by decide) (le' rfl) fun H E QF hF => ?_
  change J _ E 19 _ _ _
  refine J_seq' fun K1 hK1 => J0 ?_
  simp
  refine hK1 _ (J_seq' fun K2 hK2 => J0 ?_)
  simp
  refine (split_fun s (by omega)).call ?_
  simp
  refine hK2 _ (J_seq' fun K3 hK3 => ?_)
  have hall : (pieces s).any notWord = !(pieces s).all wordOk := by
    generalize pieces s = l
    induction l with
    | nil => rfl
    | cons w l ih => simp only [List.any_cons, List.all_cons, ih, notWord, Bool.not_and]
  by_cases h1 : s.size ≤ 64
  · have h1' : ((s.size : Nat) : Int) ≤ 64 := by omega
    by_cases h2 : (pieces s).length ≤ 8
    · have h2' : (((pieces s).length : Nat) : Int) ≤ 8 := by omega
      refine J0 ?_
      simp [h1, h2, h1', h2']
      refine (contains_Str (pieces s) (by omega) 149 [] rfl notWord (fun w hw => notWord_fun w (by have := pieces_size s w hw; omega))).call ?_
      simp
      refine hK3 _ (J_ret (hF _ _ ?_))
      simp [Tryz.f83, topicOk, h1, h2, hall]
    · have h2' : ¬ (((pieces s).length : Nat) : Int) ≤ 8 := by omega
      refine J0 ?_
      simp [h1, h2, h1', h2']
      refine hK3 _ (J_ret (hF _ _ ?_))
      simp [Tryz.f83, topicOk, h1, h2]
  · have h1' : ¬ ((s.size : Nat) : Int) ≤ 64 := by omega
    refine J0 ?_
    simp [h1, h1']
    refine hK3 _ (J_ret (hF _ _ ?_))
    simp [Tryz.f83, topicOk, h1]
def msgOk (m : Msg) : Bool := topicOk m.topic && decide (m.body.size ≤ 1024) && validOk m.props && decide (0 ≤ m.til) && decide (m.til ≤ 1099511627776)
theorem message_fun (m : Msg) (h1 : m.topic.size ≤ 1100000) (h2 : m.props.length ≤ 2000000) (h3 : ∀ p ∈ m.props, p.name.size ≤ 1099511627776) : PFun Tryz.prog 20 [.agg m.enc] (abool (msgOk m)) := by
  refine PFun.of_J D_ok Tryz.func20 rfl (by decide) (le' rfl) fun H E QF hF => ?_
  change J _ E 27 _ _ _
  refine J_seq' fun K1 hK1 => J1 1 ?_
  simp [Msg.enc]
  refine hK1 _ (J_seq' fun K2 hK2 => J1 1 ?_)
  simp
  refine (topic_fun m.topic h1).call ?_
  rcases Bool.eq_false_or_eq_true (topicOk m.topic) with e1 | e1
  · rcases Nat.lt_or_ge 1024 m.body.size with e2 | e2
    · have e2' : 1024 < ((m.body.size : Nat) : Int) := by omega
      simp [e1, e2', show ¬ ((m.body.size : Nat) : Int) ≤ 1024 from by omega]
      refine hK2 _ (J_ret (hF _ _ ?_))
      simp [Tryz.f20, msgOk, e1, show ¬ m.body.size ≤ 1024 from by omega]
    · have e2' : ((m.body.size : Nat) : Int) ≤ 1024 := by omega
      simp [e1, e2', show ¬ 1024 < ((m.body.size : Nat) : Int) from by omega]
      refine PFun.call (valid_fun m.props h2 h3) ?_
      rcases Bool.eq_false_or_eq_true (validOk m.props) with e3 | e3
      · rcases Int.lt_or_le m.til 0 with e4 | e4
        · simp [e3, e4, show ¬ 0 ≤ m.til from by omega]
          refine hK2 _ (J_ret (hF _ _ ?_))
          simp [Tryz.f20, msgOk, show ¬ 0 ≤ m.til from by omega]
        · rcases Int.lt_or_le 1099511627776 m.til with e5 | e5
          · simp [e3, e4, e5, show ¬ m.til < 0 from by omega, show ¬ m.til ≤ 1099511627776 from by omega]
            refine hK2 _ (J_ret (hF _ _ ?_))
            simp [Tryz.f20, msgOk, show ¬ m.til ≤ 1099511627776 from by omega]
          · simp [e3, e4, e5, show ¬ m.til < 0 from by omega, show m.til ≤ 1099511627776 from e5]
            refine hK2 _ (J_ret (hF _ _ ?_))
            simp [Tryz.f20, msgOk, e1, e2, e3, e4, show m.til ≤ 1099511627776 from e5, show 0 ≤ m.til from e4]
      · simp [e3]
        refine hK2 _ (J_ret (hF _ _ ?_))
        simp [Tryz.f20, msgOk, e3]
  · simp [e1]
    refine hK2 _ (J_ret (hF _ _ ?_))
    simp [Tryz.f20, msgOk, e1]
end
section
attribute [local simp] D_133
def starB : ByteArray := ⟨#[42]⟩
def hashB : ByteArray := ⟨#[35]⟩
def patAt (n i : Nat) (w : ByteArray) : Bool := wordOk w || sEq w starB || (sEq w hashB && decide (i + 1 = n))
def patFrom (n : Nat) : Nat → List ByteArray → Bool
  | _, [] => true
  | i, w :: ws => patAt n i w && patFrom n (i + 1) ws
def patternOk (s : ByteArray) : Bool := patFrom (pieces s).length 0 (pieces s) && decide (s.size ≤ 64) && decide ((pieces s).length ≤ 8)
theorem pattern_fun (s : ByteArray) (hs : s.size ≤ 1100000) : PFun Tryz.prog 27 [astr s] (abool (patternOk s)) := by
  have hp := pieces_many s
  have hsz := pieces_size s
  refine PFun.of_J D_ok Tryz.func27 rfl (by decide) (le' rfl) fun H E QF hF => ?_
  change J _ E 42 _ _ _
  refine J_seq' fun K1 hK1 => J0 ?_
  simp
  refine hK1 _ (J_seq' fun K2 hK2 => J0 ?_)
  simp
  refine (split_fun s (by omega)).call ?_
  simp
  refine hK2 _ (J_seq' fun K3 hK3 => J_seq' fun K3' hK3' => J0 ?_)
  simp
  refine hK3' _ (J_block ?_)
  generalize hl : pieces s = l at hp hsz
  refine J_loop' (fun m s' => ∃ i : Nat, i ≤ l.length ∧ m = l.length - i ∧ patFrom l.length 0 l = patFrom l.length i (l.drop i) ∧ Has [(0, astr s), (3, asl Str.enc l), (8, asl Str.enc l), (9, aint l.length), (10, aint i)] [] H s') (n := l.length) ⟨0, by omega, by omega, rfl, by simp⟩ ?_
  rintro m s' ⟨i, hi, hm, hidx, hs'⟩ K hK
  refine J_has hs' ?_
  refine J_seq' fun K4 hK4 => J0 ?_
  simp
  refine hK4 _ (J_seq' fun K5 hK5 => J_cond rfl (fun hc => J_skip ?_) fun hc => J_exit ?_)
  · simp at hc
    obtain ⟨w, hxi⟩ : ∃ w, l[i]? = some w := ⟨_, List.getElem?_eq_getElem (by omega)⟩
    have hat := at_Str l hxi
    rw [Nat.mul_one] at hat
    have hmem : w ∈ l := List.mem_of_getElem? hxi
    have hdr : l.drop i = w :: l.drop (i + 1) := drop_at hxi
    have hw := hsz w hmem
    simp only [thenQ, blockQ]
    refine hK5 _ (J_seq' fun K6 hK6 => J_block (J_seq' fun K7 hK7 => J0 ?_))
    simp [hat, Str.enc]
    refine ⟨by omega, by omega, hK7 _ ?_⟩
    refine J_bool 32 (!patAt l.length i w) [0, 3, 8, 9, 10] ?_ ?_
    · refine J0 ?_
      simp
      refine (word_fun w (by omega)).call ?_
      have hlen : IntKind.i64.wrap ((l.length : Int) - 1) = (l.length : Int) - 1 := w64 (by omega) (by omega)
      have hdec : ((i : Int) == (l.length : Int) - 1) = decide (i + 1 = l.length) := by
        rw [Bool.eq_iff_iff]; simp; omega
      rcases Bool.eq_false_or_eq_true (wordOk w) with e1 | e1
      · simp [e1, patAt]
      · rcases Bool.eq_false_or_eq_true (sEq w starB) with e2 | e2
        · have e2' : sEq w ⟨#[42]⟩ = true := e2
          simp [e1, e2, e2', patAt]
        · have e2' : sEq w ⟨#[42]⟩ = false := e2
          rcases Bool.eq_false_or_eq_true (sEq w hashB) with e3 | e3
          · have e3' : sEq w ⟨#[35]⟩ = true := e3
            simp [e1, e2, e2', e3, e3', patAt, hlen]
            by_cases e4 : i + 1 = l.length
            · simp [show (i : Int) = (l.length : Int) - 1 from by omega, e4]
            · simp [show ¬ (i : Int) = (l.length : Int) - 1 from by omega, e4]
          · have e3' : sEq w ⟨#[35]⟩ = false := e3
            simp [e1, e2, e2', e3, e3', patAt]
    refine J_cond rfl (fun hd => ?_) fun hd => J_skip ?_
    · have hpx : patAt l.length i w = false := by simpa using hd
      refine J_seq' fun K9 hK9 => J0 ?_
      simp
      refine hK9 _ (J_ret (hF _ _ ?_))
      simp [Tryz.f27, patternOk, hl]
      rw [hidx, hdr]
      simp [patFrom, hpx]
    · have hpx : patAt l.length i w = true := by simpa using hd
      simp only [thenQ, blockQ]
      refine hK6 _ (J0 ?_)
      simp
      refine hK (l.length - (i + 1)) _ (by omega) ⟨i + 1, by omega, rfl, ?_, ?_⟩
      · rw [hidx, hdr]; simp [patFrom, hpx]
      · simp
        rw [w64 (by omega) (by omega)]
  · simp at hc
    have hall : patFrom l.length 0 l = true := by rw [hidx, List.drop_eq_nil_of_le (by omega)]; rfl
    simp only [thenQ, blockQ, if_true]
    refine hK3 _ (J_seq' fun K10 hK10 => ?_)
    rcases Nat.lt_or_ge 64 s.size with h1 | h1
    · refine J0 ?_
      simp [show ¬ ((s.size : Nat) : Int) ≤ 64 from by omega, show 64 < ((s.size : Nat) : Int) from by omega]
      refine hK10 _ (J_ret (hF _ _ ?_))
      simp [Tryz.f27, patternOk, hl, show ¬ s.size ≤ 64 from by omega]
    · refine J0 ?_
      simp [show ((s.size : Nat) : Int) ≤ 64 from by omega, show ¬ 64 < ((s.size : Nat) : Int) from by omega]
      refine hK10 _ (J_ret (hF _ _ ?_))
      simp [Tryz.f27, patternOk, hl, h1, hall]
      omega
def matchGo : List ByteArray → List ByteArray → Bool
  | [], t => t.isEmpty
  | w :: p, t => if sEq w hashB then true else match t with
    | [] => false
    | x :: t => if !sEq w starB && !sEq w x then false else matchGo p t
def matchOk (p t : ByteArray) : Bool := patternOk p && topicOk t && matchGo (pieces p) (pieces t)
theorem match_fun (p t : ByteArray) (hp0 : p.size ≤ 1100000) (ht0 : t.size ≤ 1100000) : PFun Tryz.prog 21 [astr p, astr t] (abool (matchOk p t)) := by
  have hp := pieces_many p
  have ht := pieces_many t
  refine PFun.of_J D_ok Tryz.func21 rfl (by decide) (le' rfl) fun H E QF hF => ?_
  change J _ E 54 _ _ _
  refine J_seq' fun K1 hK1 => J0 ?_
  simp
  refine hK1 _ (J_seq' fun K2 hK2 => ?_)
  refine J_bool 16 (!(patternOk p && topicOk t)) [0, 1] ?_ ?_
  · refine J0 ?_
    simp
    refine (pattern_fun p hp0).call ?_
    rcases Bool.eq_false_or_eq_true (patternOk p) with e1 | e1
    · simp [e1]
      refine PFun.call (topic_fun t ht0) ?_
      simp
    · simp [e1]
  refine J_cond rfl (fun hd => ?_) fun hd => J_skip ?_
  · refine J_seq' fun K3 hK3 => J0 ?_
    simp
    refine hK3 _ (J_ret (hF _ _ ?_))
    have : (patternOk p && topicOk t) = false := by simpa only [Bool.not_eq_true'] using hd
    simp [Tryz.f21, matchOk, this]
  have hok : (patternOk p && topicOk t) = true := by simpa using hd
  simp only [thenQ, blockQ]
  refine hK2 _ (J_seq' fun K3 hK3 => J0 ?_)
  simp
  refine (split_fun p (by omega)).call ?_
  simp
  refine (split_fun t (by omega)).call ?_
  simp
  refine hK3 _ (J_seq' fun K4 hK4 => J_seq' fun K5 hK5 => J0 ?_)
  simp
  refine hK5 _ (J_block ?_)
  have hm : matchOk p t = matchGo (pieces p) (pieces t) := by simp [matchOk, hok]
  generalize pieces p = a at hp hm
  generalize pieces t = b at ht hm
  refine J_loop' (fun m s' => ∃ i : Nat, i ≤ a.length ∧ i ≤ b.length ∧ m = a.length - i ∧ matchGo a b = matchGo (a.drop i) (b.drop i) ∧ Has [(5, asl Str.enc a), (6, asl Str.enc b), (21, asl Str.enc a), (22, aint a.length), (23, aint i)] [] H s') (n := a.length) ⟨0, by omega, by omega, by omega, rfl, by simp⟩ ?_
  rintro m s' ⟨i, hi, hib, hm', hidx, hs'⟩ K hK
  refine J_has hs' ?_
  refine J_seq' fun K6 hK6 => J0 ?_
  simp
  refine hK6 _ (J_seq' fun K7 hK7 => J_cond rfl (fun hc => J_skip ?_) fun hc => J_exit ?_)
  · simp at hc
    obtain ⟨w, hxi⟩ : ∃ w, a[i]? = some w := ⟨_, List.getElem?_eq_getElem (by omega)⟩
    have hat := at_Str a hxi
    rw [Nat.mul_one] at hat
    have hdr : a.drop i = w :: a.drop (i + 1) := drop_at hxi
    simp only [thenQ, blockQ]
    refine hK7 _ (J_seq' fun K8 hK8 => J_block (J_seq' fun K9 hK9 => J0 ?_))
    simp [hat, Str.enc]
    refine ⟨by omega, by omega, hK9 _ ?_⟩
    refine J_block (J_seq' fun K10 hK10 => J0 ?_)
    simp
    refine hK10 _ (J_cond rfl (fun hd => ?_) fun hd => ?_)
    · have e1 : sEq w hashB = true := by simpa [hashB] using hd
      refine J_seq' fun K11 hK11 => J0 ?_
      simp
      refine hK11 _ (J_ret (hF _ _ ?_))
      simp [Tryz.f21, hm]
      rw [hidx, hdr]
      simp [matchGo, e1]
    have e1 : sEq w hashB = false := by simpa [hashB] using hd
    have e1' : sEq w ⟨#[35]⟩ = false := e1
    have step : ∀ (bad : Bool), bad = (match b.drop i with
      | [] => true
      | x :: _ => !sEq w starB && !sEq w x) → (bad = true → matchGo a b = false) ∧ (bad = false → i < b.length ∧ matchGo a b = matchGo (a.drop (i + 1)) (b.drop (i + 1))) := by
      intro bad hb
      rw [hidx, hdr]
      rcases Nat.lt_or_ge i b.length with h | h
      · obtain ⟨x, hx⟩ : ∃ x, b[i]? = some x := ⟨_, List.getElem?_eq_getElem h⟩
        rw [drop_at hx] at hb ⊢
        simp only at hb
        refine ⟨fun hb' => ?_, fun hb' => ⟨h, ?_⟩⟩
        · simp only [matchGo, e1]; rw [← hb, hb']; simp
        · simp only [matchGo, e1]; rw [← hb, hb']; simp
      · rw [List.drop_eq_nil_of_le h] at hb ⊢
        simp only at hb
        refine ⟨fun _ => by simp [matchGo, e1], fun hb' => by rw [hb] at hb'; cases hb'⟩
    refine J_bool 31 (match b.drop i with
      | [] => true
      | x :: _ => !sEq w starB && !sEq w x) [5, 6, 21, 22, 23] ?_ ?_
    · refine J0 ?_
      rcases Nat.lt_or_ge i b.length with h | h
      · obtain ⟨x, hx⟩ : ∃ x, b[i]? = some x := ⟨_, List.getElem?_eq_getElem h⟩
        have hat2 := at_Str b hx
        rw [Nat.mul_one] at hat2
        rw [drop_at hx]
        rcases Bool.eq_false_or_eq_true (sEq w starB) with e2 | e2
        · have e2' : sEq w ⟨#[42]⟩ = true := e2
          simp [show ¬ b.length ≤ i from by omega, show i < b.length from h, e2, e2', hat2, Str.enc]
        · have e2' : sEq w ⟨#[42]⟩ = false := e2
          simp [show ¬ b.length ≤ i from by omega, show i < b.length from h, e2, e2', hat2, Str.enc]
          try omega
      · rw [List.drop_eq_nil_of_le h]
        simp [h, show ¬ i < b.length from by omega]
    refine J_cond rfl (fun hd => ?_) fun hd => J_skip ?_
    · refine J_seq' fun K11 hK11 => J0 ?_
      simp
      refine hK11 _ (J_ret (hF _ _ ?_))
      have := (step _ rfl).1 (by simpa using hd)
      simp [Tryz.f21, hm, this]
    · obtain ⟨h1, h2⟩ := (step _ rfl).2 (by simpa using hd)
      simp only [thenQ, blockQ]
      refine hK8 _ (J0 ?_)
      simp
      refine hK (a.length - (i + 1)) _ (by omega) ⟨i + 1, by omega, by omega, rfl, h2, ?_⟩
      simp
      rw [w64 (by omega) (by omega)]
  · simp at hc
    have : i = a.length := by omega
    subst this
    simp only [thenQ, blockQ, if_true]
    refine hK4 _ (J_seq' fun K14 hK14 => J0 ?_)
    simp
    refine hK14 _ (J_ret (hF _ _ ?_))
    simp [Tryz.f21, hm]
    rw [hidx, List.drop_eq_nil_of_le (Nat.le_refl _)]
    simp [matchGo]
    rw [Bool.eq_iff_iff]
    simp
    omega
end
section
attribute [local simp] D_133 D_33 D_31 D_50 D_77 D_42 thenX blockX
attribute [local simp ↓] evOpsM evOpM
theorem und167 : Tryz.prog.underlying 167 = some (.map 3 3) := by kernel_rfl
theorem und3 : Tryz.prog.underlying 3 = some (.int .i64) := by kernel_rfl
theorem zero3 (w : World) : (zeroValue 3).run Tryz.prog w = .ok (.int .i64 0) w := by
  have h : (Tryz.prog.info? 3).map (·.zero) = some (some (.int .i64 0)) := by kernel_rfl
  simp only [Option.map_eq_some_iff] at h
  obtain ⟨i, h1, h2⟩ := h
  simp [zeroValue, typeInfo, h1, h2]
def headBad (q : Queue) : Bool := !wordOk q.name || decide (q.depth < 1) || decide (64 < q.depth) || decide (q.seq < 0) || decide (1099511627776 < q.seq) || decide (q.tag < 0) || decide (1099511627776 < q.tag) || decide (q.depth < ((q.items.length + q.held.length : Nat) : Int))
def itemBad (seq last : Int) (x : Itm) : Bool := decide (x.seq ≤ last) || decide (seq < x.seq) || !msgOk x.msg
def itemsOk (seq : Int) : Int → List Itm → Bool
  | _, [] => true
  | last, x :: xs => !itemBad seq last x && itemsOk seq x.seq xs
def heldBad (tag seq last : Int) (seen : List Int) (h : Hold) : Bool := decide (h.tag ≤ last) || decide (tag < h.tag) || decide (h.conn < 0) || decide (8 ≤ h.conn) || decide (h.sub < 0) || decide (1099511627776 < h.sub) || decide (h.item.seq < 1) || decide (seq < h.item.seq) || !msgOk h.item.msg || decide (h.item.seq ∈ seen)
def heldOk (tag seq : Int) : Int → List Int → List Hold → Bool
  | _, _, [] => true
  | last, seen, h :: hs => !heldBad tag seq last seen h && heldOk tag seq h.tag (seen ++ [h.item.seq]) hs
def qGood (q : Queue) : Bool := !headBad q && itemsOk q.seq 0 q.items && heldOk q.tag q.seq 0 (q.items.map (·.seq)) q.held
structure MsgFit (m : Msg) : Prop where
  topic : m.topic.size ≤ 1100000
  props : m.props.length ≤ 2000000
  names : ∀ p ∈ m.props, p.name.size ≤ 1099511627776
structure QFit (q : Queue) : Prop where
  name : q.name.size ≤ 1099511627776
  items : q.items.length ≤ 2000000
  held : q.held.length ≤ 2000000
  im : ∀ x ∈ q.items, MsgFit x.msg
  hm : ∀ x ∈ q.held, MsgFit x.item.msg
theorem qgood_fun (q : Queue) (hq : QFit q) : PFun Tryz.prog 66 [.agg q.enc] (abool (qGood q)) := by
  have hi1 := hq.items
  have hh1 := hq.held
  refine PFun.of_J D_ok Tryz.func66 rfl (by decide) (le' rfl) fun H E QF hF => ?_
  change J _ E 164 _ _ _
  refine J_seq' fun K1 hK1 => J1 1 ?_
  simp [Queue.enc]
  refine hK1 _ (J_seq' fun K2 hK2 => ?_)
  refine J_bool 54 (headBad q) [1] ?_ ?_
  · refine J1 1 ?_
    simp (maxSteps := 5000000)
    refine (name_fun q.name hq.name).call ?_
    have hw : IntKind.i64.wrap ((q.items.length : Int) + (q.held.length : Int)) = ((q.items.length + q.held.length : Nat) : Int) := by
      rw [w64 (by omega) (by omega)]; omega
    rcases Bool.eq_false_or_eq_true (wordOk q.name) with e | e
    · simp (maxSteps := 5000000) [e, headBad, hw]
      refine ⟨fun _ => ⟨fun _ => ⟨fun _ => ⟨fun _ => ⟨fun _ => ⟨fun _ => ?_, fun _ => ?_⟩, fun _ => ?_⟩, fun _ => ?_⟩, fun _ => ?_⟩, fun _ => ?_⟩, fun _ => ?_⟩ <;> omega
    · simp [e, headBad]
  refine J_cond rfl (fun hd => ?_) fun hd => J_skip ?_
  · have hb : headBad q = true := by simpa using hd
    refine J_seq' fun K3 hK3 => J1 1 ?_
    simp
    refine hK3 _ (J_ret (hF _ _ ?_))
    simp [Tryz.f66, qGood, hb]
  have hb : headBad q = false := by simpa using hd
  simp only [thenQ, blockQ]
  refine hK2 _ ?_
  have hdep : ((q.items.length + q.held.length : Nat) : Int) ≤ q.depth ∧ q.depth ≤ 64 := by
    simp only [headBad, Bool.or_eq_false_iff, decide_eq_false_iff_not] at hb
    omega
  refine J_makeMap D_ok (cfg := ⟨164, fun k => k == 1⟩) rfl rfl rfl rfl (by decide) fun b => ?_
  simp [keepS]
  intro E'
  clear hK1 hK2 K1 K2
  refine JX_seq' fun K3 hK3 => JX_region D_ok (cfg := ⟨164, fun k => k == 1⟩) und167 und3 zero3 ?_
  simp
  refine hK3 _ _ (JX_seq' fun K4 hK4 => JX_seq' fun K5 hK5 => JX_region D_ok (cfg := ⟨164, fun k => k == 1⟩) und167 und3 zero3 ?_)
  simp
  refine hK5 _ _ (JX_block ?_)
  refine JX_loop (fun n s' ns => ∃ i : Nat, ∃ last : Int, i ≤ q.items.length ∧ n = q.items.length - i ∧ itemsOk q.seq 0 q.items = itemsOk q.seq last (q.items.drop i) ∧ ns = (q.items.take i).map (·.seq) ∧ (∀ k ∈ ns, k ≤ last) ∧ Has [(1, .vp q.enc), (3, .v (.map (some b))), (4, aint last), (57, asl Itm.enc q.items), (58, aint q.items.length), (59, aint i)] s'.L H s') (n := q.items.length) ⟨0, 0, by omega, by omega, rfl, rfl, by simp, by simp [Queue.enc]⟩ ?_
  · rintro n s' ns ⟨i, last, hi, hn, hok, hns, hle, hs'⟩ K hK
    refine JX_has hs' ?_
    refine JX_seq' fun K6 hK6 => JX_region D_ok (cfg := ⟨164, fun k => k == 1⟩) und167 und3 zero3 ?_
    simp
    refine hK6 _ _ (JX_seq' fun K7 hK7 => JX_cond rfl (fun hc => JX_skip ?_) fun hc => JX_exit ?_)
    · simp at hc
      obtain ⟨x, hxi⟩ : ∃ x, q.items[i]? = some x := ⟨_, List.getElem?_eq_getElem (by omega)⟩
      have hat := at_Itm q.items hxi
      have hmem : x ∈ q.items := List.mem_of_getElem? hxi
      have hdr : q.items.drop i = x :: q.items.drop (i + 1) := drop_at hxi
      simp only [thenX, blockX]
      refine hK7 _ _ (JX_seq' fun K8 hK8 => JX_block (JX_seq' fun K9 hK9 => JX_region D_ok (cfg := ⟨164, fun k => k == 1⟩) und167 und3 zero3 ?_))
      simp [hat, kill_Itm, len_Itm]
      refine ⟨by omega, by omega, hK9 _ _ ?_⟩
      refine JX_seq' fun K10 hK10 => ?_
      refine JX_bool 79 (itemBad q.seq last x) [1, 3, 6, 57, 58, 59] ?_ ?_
      · refine JX_region D_ok (cfg := ⟨164, fun k => k == 1⟩) und167 und3 zero3 ?_
        have hfit := hq.im x hmem
        rcases Int.lt_or_le last x.seq with e1 | e1
        · rcases Int.lt_or_le q.seq x.seq with e2 | e2
          · simp [Itm.enc, Queue.enc, itemBad, e1, e2, show ¬ x.seq ≤ last from by omega, show ¬ x.seq ≤ q.seq from by omega]
          · have htk : List.take 5 x.msg.enc = x.msg.enc := rfl
            simp [Itm.enc, Queue.enc, itemBad, e1, e2, show ¬ x.seq ≤ last from by omega, show ¬ q.seq < x.seq from by omega, htk, len_Msg, noLL_Msg]
            refine (message_fun x.msg hfit.topic hfit.props hfit.names).call ?_
            simp
        · simp [Itm.enc, Queue.enc, itemBad, e1, show ¬ last < x.seq from by omega]
      refine JX_cond rfl (fun hd => ?_) fun hd => JX_skip ?_
      · have hbad : itemBad q.seq last x = true := by simpa using hd
        refine JX_seq' fun K11 hK11 => JX_region D_ok (cfg := ⟨164, fun k => k == 1⟩) und167 und3 zero3 ?_
        simp
        refine hK11 _ _ (JX_ret (hF _ _ ?_))
        simp [Tryz.f66, qGood, hb, hok, hdr, itemsOk, hbad]
      · have hbad : itemBad q.seq last x = false := by simpa using hd
        have hlt : last < x.seq := by
          simp only [itemBad, Bool.or_eq_false_iff, decide_eq_false_iff_not] at hbad
          omega
        have hnew : x.seq ∉ ns := fun h => by have := hle _ h; omega
        simp only [thenX, blockX]
        refine hK10 _ _ (JX_seq' fun K12 hK12 => JX_region D_ok (cfg := ⟨164, fun k => k == 1⟩) und167 und3 zero3 ?_)
        simp [Itm.enc]
        refine hK12 _ _ (JX_region D_ok (cfg := ⟨164, fun k => k == 1⟩) und167 und3 zero3 ?_)
        simp [Itm.enc, hnew]
        rw [w64 (by omega) (by omega)]
        refine ⟨by omega, hK8 _ _ (JX_region D_ok (cfg := ⟨164, fun k => k == 1⟩) und167 und3 zero3 ?_)⟩
        simp
        refine hK (q.items.length - (i + 1)) _ _ (by omega) ⟨i + 1, x.seq, by omega, rfl, ?_, ?_, ?_, ?_⟩
        · rw [hok, hdr]; simp [itemsOk, hbad]
        · rw [hns, List.take_add_one, hxi]; simp
        · intro k hk
          rcases List.mem_append.mp hk with h | h
          · have := hle k h; omega
          · simp at h; omega
        · simp
          rw [w64 (by omega) (by omega)]
    · simp at hc
      have hie : i = q.items.length := by omega
      subst hie
      simp only [thenX, blockX, if_true]
      have hitems : itemsOk q.seq 0 q.items = true := by rw [hok, List.drop_eq_nil_of_le (Nat.le_refl _)]; rfl
      have hns' : ns = q.items.map (·.seq) := by rw [hns, List.take_of_length_le (Nat.le_refl _)]
      refine hK4 _ _ (JX_seq' fun K13 hK13 => JX_region D_ok (cfg := ⟨164, fun k => k == 1⟩) und167 und3 zero3 ?_)
      simp
      refine hK13 _ _ (JX_seq' fun K14 hK14 => JX_seq' fun K15 hK15 => JX_region D_ok (cfg := ⟨164, fun k => k == 1⟩) und167 und3 zero3 ?_)
      simp [Queue.enc]
      refine hK15 _ _ (JX_block ?_)
      refine JX_loop (fun n s' ns' => ∃ i : Nat, ∃ last : Int, i ≤ q.held.length ∧ n = q.held.length - i ∧ heldOk q.tag q.seq 0 (q.items.map (·.seq)) q.held = heldOk q.tag q.seq last ns' (q.held.drop i) ∧ Has [(1, .vp q.enc), (3, .v (.map (some b))), (4, aint last), (89, asl Hold.enc q.held), (90, aint q.held.length), (91, aint i)] s'.L H s') (n := q.held.length) ⟨0, 0, by omega, by omega, by rw [hns']; rfl, by simp [Queue.enc]⟩ ?_
      rintro n s' ns2 ⟨i, last, hi, hn, hok2, hs'⟩ K hK
      refine JX_has hs' ?_
      refine JX_seq' fun K6 hK6 => JX_region D_ok (cfg := ⟨164, fun k => k == 1⟩) und167 und3 zero3 ?_
      simp
      refine hK6 _ _ (JX_seq' fun K7 hK7 => JX_cond rfl (fun hc => JX_skip ?_) fun hc => JX_exit ?_)
      · simp at hc
        obtain ⟨x, hxi⟩ : ∃ x, q.held[i]? = some x := ⟨_, List.getElem?_eq_getElem (by omega)⟩
        have hat := at_Hold q.held hxi
        have hmem : x ∈ q.held := List.mem_of_getElem? hxi
        have hdr : q.held.drop i = x :: q.held.drop (i + 1) := drop_at hxi
        simp only [thenX, blockX]
        refine hK7 _ _ (JX_seq' fun K8 hK8 => JX_block (JX_seq' fun K9 hK9 => JX_region D_ok (cfg := ⟨164, fun k => k == 1⟩) und167 und3 zero3 ?_))
        simp [hat, kill_Hold, len_Hold]
        refine ⟨by omega, by omega, hK9 _ _ ?_⟩
        refine JX_seq' fun K10 hK10 => ?_
        refine JX_bool 154 (heldBad q.tag q.seq last ns2 x) [1, 3, 8, 89, 90, 91] ?_ ?_
        · refine JX_region D_ok (cfg := ⟨164, fun k => k == 1⟩) und167 und3 zero3 ?_
          have hfit := hq.hm x hmem
          have htk : List.take 5 x.item.msg.enc = x.item.msg.enc := rfl
          rcases (Int.lt_or_le (last) (x.tag)).symm with e0 | e0
          · simp [Hold.enc, Itm.enc, Queue.enc, heldBad, htk, len_Msg, noLL_Msg, e0, show ¬ last < x.tag from by omega]
          · skip
            rcases Int.lt_or_le (q.tag) (x.tag) with e1 | e1
            · simp [Hold.enc, Itm.enc, Queue.enc, heldBad, htk, len_Msg, noLL_Msg, e0, show ¬ x.tag ≤ last from by omega, e1, show ¬ x.tag ≤ q.tag from by omega]
            · skip
              rcases Int.lt_or_le (x.conn) (0) with e2 | e2
              · simp [Hold.enc, Itm.enc, Queue.enc, heldBad, htk, len_Msg, noLL_Msg, e0, show ¬ x.tag ≤ last from by omega, e1, show ¬ q.tag < x.tag from by omega, e2, show ¬ 0 ≤ x.conn from by omega]
              · skip
                rcases (Int.lt_or_le (x.conn) (8)).symm with e3 | e3
                · simp [Hold.enc, Itm.enc, Queue.enc, heldBad, htk, len_Msg, noLL_Msg, e0, show ¬ x.tag ≤ last from by omega, e1, show ¬ q.tag < x.tag from by omega, e2, show ¬ x.conn < 0 from by omega, e3, show ¬ x.conn < 8 from by omega]
                · skip
                  rcases Int.lt_or_le (x.sub) (0) with e4 | e4
                  · simp [Hold.enc, Itm.enc, Queue.enc, heldBad, htk, len_Msg, noLL_Msg, e0, show ¬ x.tag ≤ last from by omega, e1, show ¬ q.tag < x.tag from by omega, e2, show ¬ x.conn < 0 from by omega, e3, show ¬ 8 ≤ x.conn from by omega, e4, show ¬ 0 ≤ x.sub from by omega]
                  · skip
                    rcases Int.lt_or_le (1099511627776) (x.sub) with e5 | e5
                    · simp [Hold.enc, Itm.enc, Queue.enc, heldBad, htk, len_Msg, noLL_Msg, e0, show ¬ x.tag ≤ last from by omega, e1, show ¬ q.tag < x.tag from by omega, e2, show ¬ x.conn < 0 from by omega, e3, show ¬ 8 ≤ x.conn from by omega, e4, show ¬ x.sub < 0 from by omega, e5, show ¬ x.sub ≤ 1099511627776 from by omega]
                    · skip
                      rcases Int.lt_or_le (x.item.seq) (1) with e6 | e6
                      · simp [Hold.enc, Itm.enc, Queue.enc, heldBad, htk, len_Msg, noLL_Msg, e0, show ¬ x.tag ≤ last from by omega, e1, show ¬ q.tag < x.tag from by omega, e2, show ¬ x.conn < 0 from by omega, e3, show ¬ 8 ≤ x.conn from by omega, e4, show ¬ x.sub < 0 from by omega, e5, show ¬ 1099511627776 < x.sub from by omega, e6, show ¬ 1 ≤ x.item.seq from by omega]
                      · skip
                        rcases Int.lt_or_le (q.seq) (x.item.seq) with e7 | e7
                        · simp [Hold.enc, Itm.enc, Queue.enc, heldBad, htk, len_Msg, noLL_Msg, e0, show ¬ x.tag ≤ last from by omega, e1, show ¬ q.tag < x.tag from by omega, e2, show ¬ x.conn < 0 from by omega, e3, show ¬ 8 ≤ x.conn from by omega, e4, show ¬ x.sub < 0 from by omega, e5, show ¬ 1099511627776 < x.sub from by omega, e6, show ¬ x.item.seq < 1 from by omega, e7, show ¬ x.item.seq ≤ q.seq from by omega]
                        · skip
                          simp [Hold.enc, Itm.enc, Queue.enc, heldBad, htk, len_Msg, noLL_Msg, e0, show ¬ x.tag ≤ last from by omega, e1, show ¬ q.tag < x.tag from by omega, e2, show ¬ x.conn < 0 from by omega, e3, show ¬ 8 ≤ x.conn from by omega, e4, show ¬ x.sub < 0 from by omega, e5, show ¬ 1099511627776 < x.sub from by omega, e6, show ¬ x.item.seq < 1 from by omega, e7, show ¬ q.seq < x.item.seq from by omega]
                          refine (message_fun x.item.msg hfit.topic hfit.props hfit.names).call ?_
                          rcases Bool.eq_false_or_eq_true (msgOk x.item.msg) with f | f
                          · by_cases g : x.item.seq ∈ ns2
                            · simp [f, g]
                            · simp [f, g]
                          · simp [f]
        refine JX_cond rfl (fun hd => ?_) fun hd => JX_skip ?_
        · have hbad : heldBad q.tag q.seq last ns2 x = true := by simpa using hd
          refine JX_seq' fun K11 hK11 => JX_region D_ok (cfg := ⟨164, fun k => k == 1⟩) und167 und3 zero3 ?_
          simp
          refine hK11 _ _ (JX_ret (hF _ _ ?_))
          simp [Tryz.f66, qGood, hb, hitems, hok2, hdr, heldOk, hbad]
        · have hbad : heldBad q.tag q.seq last ns2 x = false := by simpa using hd
          have hnew : x.item.seq ∉ ns2 := by
            simp only [heldBad, Bool.or_eq_false_iff, decide_eq_false_iff_not] at hbad
            exact hbad.2
          simp only [thenX, blockX]
          refine hK10 _ _ (JX_seq' fun K12 hK12 => JX_region D_ok (cfg := ⟨164, fun k => k == 1⟩) und167 und3 zero3 ?_)
          simp [Hold.enc]
          refine hK12 _ _ (JX_region D_ok (cfg := ⟨164, fun k => k == 1⟩) und167 und3 zero3 ?_)
          simp [Hold.enc, Itm.enc, hnew]
          rw [w64 (by omega) (by omega)]
          refine ⟨by omega, hK8 _ _ (JX_region D_ok (cfg := ⟨164, fun k => k == 1⟩) und167 und3 zero3 ?_)⟩
          simp
          refine hK (q.held.length - (i + 1)) _ _ (by omega) ⟨i + 1, x.tag, by omega, rfl, ?_, ?_⟩
          · rw [hok2, hdr]; simp [heldOk, hbad]
          · simp
            rw [w64 (by omega) (by omega)]
      · simp at hc
        have hie : i = q.held.length := by omega
        subst hie
        simp only [thenX, blockX, if_true]
        refine hK14 _ _ (JX_seq' fun K16 hK16 => JX_region D_ok (cfg := ⟨164, fun k => k == 1⟩) und167 und3 zero3 ?_)
        simp
        refine hK16 _ _ (JX_ret (hF _ _ ?_))
        simp [Tryz.f66, qGood, hb, hitems, hok2, heldOk]
end
section
attribute [local simp] D_24 D_25 D_26 D_27 D_28 D_87 D_42 D_54 D_46 D_33 D_89 D_50 D_77 renSf renLf AV.ren AV.renL escF adoptF AS.esc AS.adopt AS.frz frzS frzL frzC AV.frz Heap.put
theorem cloneH_Queue (xs : List Queue) (hx : xs.length ≤ 2000000) (H : Heap) : PCalls Tryz.prog 101 [asl Queue.enc xs] H fun e H' => ∃ n, H n = none ∧ e = .ret (.os (.h n) 7 0 xs.length) ∧ (∀ m, m ≠ n → H' m = H m) ∧ H' n = some (xs.flatMap Queue.enc) := by
  refine PCalls.of_J' D_ok Tryz.func101 rfl (by decide) (le' rfl) fun E QF hF => ?_
  change J _ E 8 _ _ _
  refine J_seq' fun K1 hK1 => J0 ?_
  simp
  refine hK1 _ (J_seq' fun K2 hK2 => J_seq' fun K3 hK3 => J0 ?_)
  simp
  refine ⟨hK3 _ ?_, fun he => hK3 _ ?_⟩
  · refine J_cond rfl (fun hc => by cases hc) fun _ => J_skip ?_
    simp only [thenQ]
    refine hK2 _ (J_seq' fun K5 hK5 => J0 ?_)
    simp
    refine ⟨by omega, by omega, hK5 _ ?_⟩
    refine J_escape 7 (by simp; rfl) (by simp) fun n hn => ?_
    simp
    refine J_ret (hF _ _ ?_)
    simp [Tryz.f101]
    exact ⟨n, by simpa using hn, rfl, fun m hm => by simp [hm], by simp⟩
  · refine J_cond rfl ?_ (fun hc => by cases hc)
    intro _
    refine J_seq' fun K4 hK4 => J0 ?_
    simp
    refine hK4 _ ?_
    refine J_nil 2 7 (by simp) fun n hn => ?_
    simp
    refine J_ret (hF _ _ ?_)
    simp [Tryz.f101]
    cases xs with
    | nil => exact ⟨n, by simpa using hn, by simp, fun m hm => by simp [hm], by simp⟩
    | cons x xs => exact absurd (he x (by simp)) (by simp [Queue.enc, List.ne_nil_of_length_eq_add_one])
theorem cloneH_Bind (xs : List Tv.Bind) (hx : xs.length ≤ 2000000) (H : Heap) : PCalls Tryz.prog 110 [asl Bind.enc xs] H fun e H' => ∃ n, H n = none ∧ e = .ret (.os (.h n) 2 0 xs.length) ∧ (∀ m, m ≠ n → H' m = H m) ∧ H' n = some (xs.flatMap Bind.enc) := by
  refine PCalls.of_J' D_ok Tryz.func110 rfl (by decide) (le' rfl) fun E QF hF => ?_
  change J _ E 8 _ _ _
  refine J_seq' fun K1 hK1 => J0 ?_
  simp
  refine hK1 _ (J_seq' fun K2 hK2 => J_seq' fun K3 hK3 => J0 ?_)
  simp
  refine ⟨hK3 _ ?_, fun he => hK3 _ ?_⟩
  · refine J_cond rfl (fun hc => by cases hc) fun _ => J_skip ?_
    simp only [thenQ]
    refine hK2 _ (J_seq' fun K5 hK5 => J0 ?_)
    simp
    refine ⟨by omega, by omega, hK5 _ ?_⟩
    refine J_escape 7 (by simp; rfl) (by simp) fun n hn => ?_
    simp
    refine J_ret (hF _ _ ?_)
    simp [Tryz.f110]
    exact ⟨n, by simpa using hn, rfl, fun m hm => by simp [hm], by simp⟩
  · refine J_cond rfl ?_ (fun hc => by cases hc)
    intro _
    refine J_seq' fun K4 hK4 => J0 ?_
    simp
    refine hK4 _ ?_
    refine J_nil 2 2 (by simp) fun n hn => ?_
    simp
    refine J_ret (hF _ _ ?_)
    simp [Tryz.f110]
    cases xs with
    | nil => exact ⟨n, by simpa using hn, by simp, fun m hm => by simp [hm], by simp⟩
    | cons x xs => exact absurd (he x (by simp)) (by simp [Bind.enc, List.ne_nil_of_length_eq_add_one])
theorem cloneH_Sub (xs : List Tv.Sub) (hx : xs.length ≤ 2000000) (H : Heap) : PCalls Tryz.prog 111 [asl Sub.enc xs] H fun e H' => ∃ n, H n = none ∧ e = .ret (.os (.h n) 5 0 xs.length) ∧ (∀ m, m ≠ n → H' m = H m) ∧ H' n = some (xs.flatMap Sub.enc) := by
  refine PCalls.of_J' D_ok Tryz.func111 rfl (by decide) (le' rfl) fun E QF hF => ?_
  change J _ E 8 _ _ _
  refine J_seq' fun K1 hK1 => J0 ?_
  simp
  refine hK1 _ (J_seq' fun K2 hK2 => J_seq' fun K3 hK3 => J0 ?_)
  simp
  refine ⟨hK3 _ ?_, fun he => hK3 _ ?_⟩
  · refine J_cond rfl (fun hc => by cases hc) fun _ => J_skip ?_
    simp only [thenQ]
    refine hK2 _ (J_seq' fun K5 hK5 => J0 ?_)
    simp
    refine ⟨by omega, by omega, hK5 _ ?_⟩
    refine J_escape 7 (by simp; rfl) (by simp) fun n hn => ?_
    simp
    refine J_ret (hF _ _ ?_)
    simp [Tryz.f111]
    exact ⟨n, by simpa using hn, rfl, fun m hm => by simp [hm], by simp⟩
  · refine J_cond rfl ?_ (fun hc => by cases hc)
    intro _
    refine J_seq' fun K4 hK4 => J0 ?_
    simp
    refine hK4 _ ?_
    refine J_nil 2 5 (by simp) fun n hn => ?_
    simp
    refine J_ret (hF _ _ ?_)
    simp [Tryz.f111]
    cases xs with
    | nil => exact ⟨n, by simpa using hn, by simp, fun m hm => by simp [hm], by simp⟩
    | cons x xs => exact absurd (he x (by simp)) (by simp [Sub.enc, List.ne_nil_of_length_eq_add_one])
theorem cloneH_Msg (xs : List Msg) (hx : xs.length ≤ 2000000) (H : Heap) : PCalls Tryz.prog 112 [asl Msg.enc xs] H fun e H' => ∃ n, H n = none ∧ e = .ret (.os (.h n) 5 0 xs.length) ∧ (∀ m, m ≠ n → H' m = H m) ∧ H' n = some (xs.flatMap Msg.enc) := by
  refine PCalls.of_J' D_ok Tryz.func112 rfl (by decide) (le' rfl) fun E QF hF => ?_
  change J _ E 8 _ _ _
  refine J_seq' fun K1 hK1 => J0 ?_
  simp
  refine hK1 _ (J_seq' fun K2 hK2 => J_seq' fun K3 hK3 => J0 ?_)
  simp
  refine ⟨hK3 _ ?_, fun he => hK3 _ ?_⟩
  · refine J_cond rfl (fun hc => by cases hc) fun _ => J_skip ?_
    simp only [thenQ]
    refine hK2 _ (J_seq' fun K5 hK5 => J0 ?_)
    simp
    refine ⟨by omega, by omega, hK5 _ ?_⟩
    refine J_escape 7 (by simp; rfl) (by simp) fun n hn => ?_
    simp
    refine J_ret (hF _ _ ?_)
    simp [Tryz.f112]
    exact ⟨n, by simpa using hn, rfl, fun m hm => by simp [hm], by simp⟩
  · refine J_cond rfl ?_ (fun hc => by cases hc)
    intro _
    refine J_seq' fun K4 hK4 => J0 ?_
    simp
    refine hK4 _ ?_
    refine J_nil 2 5 (by simp) fun n hn => ?_
    simp
    refine J_ret (hF _ _ ?_)
    simp [Tryz.f112]
    cases xs with
    | nil => exact ⟨n, by simpa using hn, by simp, fun m hm => by simp [hm], by simp⟩
    | cons x xs => exact absurd (he x (by simp)) (by simp [Msg.enc, List.ne_nil_of_length_eq_add_one])
theorem cloneH_Client (xs : List Client) (hx : xs.length ≤ 2000000) (H : Heap) : PCalls Tryz.prog 113 [asl Client.enc xs] H fun e H' => ∃ n, H n = none ∧ e = .ret (.os (.h n) 2 0 xs.length) ∧ (∀ m, m ≠ n → H' m = H m) ∧ H' n = some (xs.flatMap Client.enc) := by
  refine PCalls.of_J' D_ok Tryz.func113 rfl (by decide) (le' rfl) fun E QF hF => ?_
  change J _ E 8 _ _ _
  refine J_seq' fun K1 hK1 => J0 ?_
  simp
  refine hK1 _ (J_seq' fun K2 hK2 => J_seq' fun K3 hK3 => J0 ?_)
  simp
  refine ⟨hK3 _ ?_, fun he => hK3 _ ?_⟩
  · refine J_cond rfl (fun hc => by cases hc) fun _ => J_skip ?_
    simp only [thenQ]
    refine hK2 _ (J_seq' fun K5 hK5 => J0 ?_)
    simp
    refine ⟨by omega, by omega, hK5 _ ?_⟩
    refine J_escape 7 (by simp; rfl) (by simp) fun n hn => ?_
    simp
    refine J_ret (hF _ _ ?_)
    simp [Tryz.f113]
    exact ⟨n, by simpa using hn, rfl, fun m hm => by simp [hm], by simp⟩
  · refine J_cond rfl ?_ (fun hc => by cases hc)
    intro _
    refine J_seq' fun K4 hK4 => J0 ?_
    simp
    refine hK4 _ ?_
    refine J_nil 2 2 (by simp) fun n hn => ?_
    simp
    refine J_ret (hF _ _ ?_)
    simp [Tryz.f113]
    cases xs with
    | nil => exact ⟨n, by simpa using hn, by simp, fun m hm => by simp [hm], by simp⟩
    | cons x xs => exact absurd (he x (by simp)) (by simp [Client.enc, List.ne_nil_of_length_eq_add_one])
theorem cloneH_Num (xs : List Int) (hx : xs.length ≤ 2000000) (H : Heap) : PCalls Tryz.prog 116 [asl Num.enc xs] H fun e H' => ∃ n, H n = none ∧ e = .ret (.os (.h n) 1 0 xs.length) ∧ (∀ m, m ≠ n → H' m = H m) ∧ H' n = some (xs.flatMap Num.enc) := by
  refine PCalls.of_J' D_ok Tryz.func116 rfl (by decide) (le' rfl) fun E QF hF => ?_
  change J _ E 8 _ _ _
  refine J_seq' fun K1 hK1 => J0 ?_
  simp
  refine hK1 _ (J_seq' fun K2 hK2 => J_seq' fun K3 hK3 => J0 ?_)
  simp
  refine ⟨hK3 _ ?_, fun he => hK3 _ ?_⟩
  · refine J_cond rfl (fun hc => by cases hc) fun _ => J_skip ?_
    simp only [thenQ]
    refine hK2 _ (J_seq' fun K5 hK5 => J0 ?_)
    simp
    refine ⟨by omega, by omega, hK5 _ ?_⟩
    refine J_escape 7 (by simp; rfl) (by simp) fun n hn => ?_
    simp
    refine J_ret (hF _ _ ?_)
    simp [Tryz.f116]
    exact ⟨n, by simpa using hn, rfl, fun m hm => by simp [hm], by simp⟩
  · refine J_cond rfl ?_ (fun hc => by cases hc)
    intro _
    refine J_seq' fun K4 hK4 => J0 ?_
    simp
    refine hK4 _ ?_
    refine J_nil 2 1 (by simp) fun n hn => ?_
    simp
    refine J_ret (hF _ _ ?_)
    simp [Tryz.f116]
    cases xs with
    | nil => exact ⟨n, by simpa using hn, by simp, fun m hm => by simp [hm], by simp⟩
    | cons x xs => exact absurd (he x (by simp)) (by simp [Num.enc, List.ne_nil_of_length_eq_add_one])
theorem cloneH_Itm (xs : List Itm) (hx : xs.length ≤ 2000000) (H : Heap) : PCalls Tryz.prog 176 [asl Itm.enc xs] H fun e H' => ∃ n, H n = none ∧ e = .ret (.os (.h n) 7 0 xs.length) ∧ (∀ m, m ≠ n → H' m = H m) ∧ H' n = some (xs.flatMap Itm.enc) := by
  refine PCalls.of_J' D_ok Tryz.func176 rfl (by decide) (le' rfl) fun E QF hF => ?_
  change J _ E 8 _ _ _
  refine J_seq' fun K1 hK1 => J0 ?_
  simp
  refine hK1 _ (J_seq' fun K2 hK2 => J_seq' fun K3 hK3 => J0 ?_)
  simp
  refine ⟨hK3 _ ?_, fun he => hK3 _ ?_⟩
  · refine J_cond rfl (fun hc => by cases hc) fun _ => J_skip ?_
    simp only [thenQ]
    refine hK2 _ (J_seq' fun K5 hK5 => J0 ?_)
    simp
    refine ⟨by omega, by omega, hK5 _ ?_⟩
    refine J_escape 7 (by simp; rfl) (by simp) fun n hn => ?_
    simp
    refine J_ret (hF _ _ ?_)
    simp [Tryz.f176]
    exact ⟨n, by simpa using hn, rfl, fun m hm => by simp [hm], by simp⟩
  · refine J_cond rfl ?_ (fun hc => by cases hc)
    intro _
    refine J_seq' fun K4 hK4 => J0 ?_
    simp
    refine hK4 _ ?_
    refine J_nil 2 7 (by simp) fun n hn => ?_
    simp
    refine J_ret (hF _ _ ?_)
    simp [Tryz.f176]
    cases xs with
    | nil => exact ⟨n, by simpa using hn, by simp, fun m hm => by simp [hm], by simp⟩
    | cons x xs => exact absurd (he x (by simp)) (by simp [Itm.enc, List.ne_nil_of_length_eq_add_one])
theorem cloneH_Hold (xs : List Hold) (hx : xs.length ≤ 2000000) (H : Heap) : PCalls Tryz.prog 177 [asl Hold.enc xs] H fun e H' => ∃ n, H n = none ∧ e = .ret (.os (.h n) 10 0 xs.length) ∧ (∀ m, m ≠ n → H' m = H m) ∧ H' n = some (xs.flatMap Hold.enc) := by
  refine PCalls.of_J' D_ok Tryz.func177 rfl (by decide) (le' rfl) fun E QF hF => ?_
  change J _ E 8 _ _ _
  refine J_seq' fun K1 hK1 => J0 ?_
  simp
  refine hK1 _ (J_seq' fun K2 hK2 => J_seq' fun K3 hK3 => J0 ?_)
  simp
  refine ⟨hK3 _ ?_, fun he => hK3 _ ?_⟩
  · refine J_cond rfl (fun hc => by cases hc) fun _ => J_skip ?_
    simp only [thenQ]
    refine hK2 _ (J_seq' fun K5 hK5 => J0 ?_)
    simp
    refine ⟨by omega, by omega, hK5 _ ?_⟩
    refine J_escape 7 (by simp; rfl) (by simp) fun n hn => ?_
    simp
    refine J_ret (hF _ _ ?_)
    simp [Tryz.f177]
    exact ⟨n, by simpa using hn, rfl, fun m hm => by simp [hm], by simp⟩
  · refine J_cond rfl ?_ (fun hc => by cases hc)
    intro _
    refine J_seq' fun K4 hK4 => J0 ?_
    simp
    refine hK4 _ ?_
    refine J_nil 2 10 (by simp) fun n hn => ?_
    simp
    refine J_ret (hF _ _ ?_)
    simp [Tryz.f177]
    cases xs with
    | nil => exact ⟨n, by simpa using hn, by simp, fun m hm => by simp [hm], by simp⟩
    | cons x xs => exact absurd (he x (by simp)) (by simp [Hold.enc, List.ne_nil_of_length_eq_add_one])
end
section
attribute [local simp] plainOp D_42 D_33 D_50 D_77
attribute [local simp ↓] evTsR
theorem put_same (cs ds : List AV) (off k : Nat) (h : (cs.drop off).take k = ds) (hk : ds.length = k) : cs.take off ++ (ds ++ cs.drop (off + k)) = cs := by
  subst h
  rw [← List.drop_drop, List.take_append_drop, List.take_append_drop]
theorem heap_same {H : Heap} {n : Nat} {cs : List AV} (h : H n = some cs) : (fun m => if m = n then some cs else H m) = H := by
  funext m
  by_cases e : m = n
  · subst e; simp [h]
  · simp [e]
theorem sub_at {cs : List AV} {i k o l : Nat} {e : List AV} (h : (cs.drop i).take k = e) (ho : o + l ≤ k) : (cs.drop (i + o)).take l = (e.drop o).take l := by
  subst h
  rw [List.drop_take, List.take_take, List.drop_drop, Nat.min_eq_left (by omega)]
def qcells (q : Queue) (n1 n2 : Nat) : List AV := [astr q.name, abool q.durable, aint q.depth, aint q.seq, aint q.tag, .os (.h n1) 7 0 q.items.length, .os (.h n2) 10 0 q.held.length]
theorem qcopy_fun (q : Queue) (h1 : q.items.length ≤ 2000000) (h2 : q.held.length ≤ 2000000) (h3 : ∀ x ∈ q.items, x.msg.props.length ≤ 2000000) (h4 : ∀ x ∈ q.held, x.item.msg.props.length ≤ 2000000) (H : Heap) : PCalls Tryz.prog 114 [.agg q.enc] H fun e H' => ∃ n1 n2, n1 ≠ n2 ∧ H n1 = none ∧ H n2 = none ∧ e = .ret (.agg (qcells q n1 n2)) ∧ (∀ m, m ≠ n1 → m ≠ n2 → H' m = H m) ∧ H' n1 = some (q.items.flatMap Itm.enc) ∧ H' n2 = some (q.held.flatMap Hold.enc) := by
  refine PCalls.of_J' D_ok Tryz.func114 rfl (by decide) (le' rfl) fun E QF hF => ?_
  change J _ E 54 _ _ _
  refine J_seq' fun K1 hK1 => J0 ?_
  simp [Queue.enc]
  refine hK1 _ (J_seq' fun K2 hK2 => D0 [0,1,3,4,6,8] [2,5,7,9] (fun t => match t with | 2 => [3,4,6,8] | 5 => [6,8] | 7 => [8] | _ => []) rfl (by decide) (by decide) ?_)
  simp
  refine (cloneH_Itm q.items h1 H).mono ?_
  rintro e H1 ⟨n1, hn1, rfl, hf1, hc1⟩
  simp
  refine (cloneH_Hold q.held h2 H1).mono ?_
  rintro e H2 ⟨n2, hn2, rfl, hf2, hc2⟩
  have h12 : n1 ≠ n2 := by rintro rfl; rw [hc1] at hn2; cases hn2
  have hc1' : H2 n1 = some (q.items.flatMap Itm.enc) := by rw [hf2 n1 h12, hc1]
  have hfr : ∀ m, m ≠ n1 → m ≠ n2 → H2 m = H m := fun m a b => by rw [hf2 m b, hf1 m a]
  have hn2' : H n2 = none := by rw [← hf1 n2 (Ne.symm h12)]; exact hn2
  simp
  refine hK2 _ (J_seq' fun K3 hK3 => J_seq' fun K4 hK4 => J0 ?_)
  simp [hc1']
  refine hK4 _ (J_block ?_)
  refine J_loop' (fun m s' => ∃ i : Nat, i ≤ q.items.length ∧ m = q.items.length - i ∧ Has [(1, .p (.l 1) 0), (2, .p (.l 2) 0), (15, aint q.items.length), (16, aint i)] [(2, AV.ofVs [.string ⟨#[]⟩, .bool false, .int .i64 0, .int .i64 0, .int .i64 0, .slice none 0 0, .slice none 0 0]), (1, qcells q n1 n2)] H2 s') (n := q.items.length) ⟨0, by omega, by omega, by simp [qcells]⟩ ?_
  rintro m s' ⟨i, hi, hm, hs'⟩ K hK
  refine J_has hs' ?_
  refine J_seq' fun K5 hK5 => J0 ?_
  simp
  refine hK5 _ (J_seq' fun K6 hK6 => J_cond rfl (fun hc => J_skip ?_) fun hc => J_exit ?_)
  · simp at hc
    obtain ⟨x, hxi⟩ : ∃ x, q.items[i]? = some x := ⟨_, List.getElem?_eq_getElem (by omega)⟩
    have hat := at_Itm q.items hxi
    have hmem : x ∈ q.items := List.mem_of_getElem? hxi
    have hat2 : List.take 5 (List.drop (i * 7 + 2) (q.items.flatMap Itm.enc)) = x.msg.enc := by rw [sub_at hat (by omega)]; rfl
    simp only [thenQ, blockQ]
    refine hK6 _ (J_seq' fun K7 hK7 => J_block (J_seq' fun K8 hK8 => J0 ?_))
    simp
    refine hK8 _ (D0 [0,1,2,3,4,5,6,7,8,9,10,11] [12] (fun _ => []) rfl (by decide) (by decide) ?_)
    simp [qcells, hc1', hat2, len_Msg, noLL_Msg]
    refine ⟨by omega, by omega, _, copied_fun x.msg (h3 x hmem), by omega, ?_⟩
    simp [hc1', len_Msg, noLL_Msg]
    rw [put_same _ _ _ 5 hat2 rfl, heap_same hc1']
    refine ⟨by omega, hK7 _ (J0 ?_)⟩
    simp
    refine hK (q.items.length - (i + 1)) _ (by omega) ⟨i + 1, by omega, rfl, ?_⟩
    simp [qcells]
    rw [w64 (by omega) (by omega)]
  · simp at hc
    simp only [thenQ, blockQ, if_true]
    refine hK3 _ (J_seq' fun K9 hK9 => J_seq' fun K10 hK10 => J0 ?_)
    simp [qcells, hc2]
    refine hK10 _ (J_block ?_)
    refine J_loop' (fun m s' => ∃ i : Nat, i ≤ q.held.length ∧ m = q.held.length - i ∧ Has [(1, .p (.l 1) 0), (2, .p (.l 2) 0), (34, aint q.held.length), (35, aint i)] [(2, AV.ofVs [.string ⟨#[]⟩, .bool false, .int .i64 0, .int .i64 0, .int .i64 0, .slice none 0 0, .slice none 0 0]), (1, qcells q n1 n2)] H2 s') (n := q.held.length) ⟨0, by omega, by omega, by simp [qcells]⟩ ?_
    rintro m s' ⟨i, hi, hm, hs'⟩ K hK
    refine J_has hs' ?_
    refine J_seq' fun K11 hK11 => J0 ?_
    simp
    refine hK11 _ (J_seq' fun K12 hK12 => J_cond rfl (fun hc => J_skip ?_) fun hc => J_exit ?_)
    · simp at hc
      obtain ⟨x, hxi⟩ : ∃ x, q.held[i]? = some x := ⟨_, List.getElem?_eq_getElem (by omega)⟩
      have hat := at_Hold q.held hxi
      have hmem : x ∈ q.held := List.mem_of_getElem? hxi
      have hat2 : List.take 5 (List.drop (i * 10 + 3 + 2) (q.held.flatMap Hold.enc)) = x.item.msg.enc := by rw [Nat.add_assoc, sub_at hat (by omega)]; rfl
      simp only [thenQ, blockQ]
      refine hK12 _ (J_seq' fun K13 hK13 => J_block (J_seq' fun K14 hK14 => J0 ?_))
      simp
      refine hK14 _ (D0 [0,1,2,3,4,5,6,7,8,9,10,11,12,13] [14] (fun _ => []) rfl (by decide) (by decide) ?_)
      simp [qcells, hc2, hat2, len_Msg, noLL_Msg]
      refine ⟨by omega, by omega, _, copied_fun x.item.msg (h4 x hmem), by omega, ?_⟩
      simp [hc2, len_Msg, noLL_Msg]
      rw [put_same _ _ _ 5 hat2 rfl, heap_same hc2]
      refine ⟨by omega, hK13 _ (J0 ?_)⟩
      simp
      refine hK (q.held.length - (i + 1)) _ (by omega) ⟨i + 1, by omega, rfl, ?_⟩
      simp [qcells]
      rw [w64 (by omega) (by omega)]
    · simp only [thenQ, blockQ, if_true]
      refine hK9 _ (J_seq' fun K15 hK15 => J0 ?_)
      simp [qcells]
      refine hK15 _ (J_ret (hF _ _ ?_))
      simp [Tryz.f114]
      exact ⟨n1, n2, h12, hn1, hn2', rfl, hfr, hc1', hc2⟩
end
section
attribute [local simp] D_257 D_26 D_46 D_24 D_25 D_54 D_27 D_33 D_50 plainOp
attribute [local simp ↓] evTsR
theorem take_Num (x : Int) : List.take 1 (Num.enc x) = Num.enc x := rfl
theorem take_Itm (x : Itm) : List.take 7 x.enc = x.enc := rfl
theorem take_Hold (x : Hold) : List.take 10 x.enc = x.enc := rfl
theorem take_Queue (x : Queue) : List.take 7 x.enc = x.enc := rfl
theorem take_Bind (x : Tv.Bind) : List.take 2 x.enc = x.enc := rfl
theorem take_Sub (x : Tv.Sub) : List.take 5 x.enc = x.enc := rfl
theorem take_Msg (x : Msg) : List.take 5 x.enc = x.enc := rfl
theorem take_Oper (x : Tv.Oper) : List.take 14 x.enc = x.enc := rfl
theorem take_Core (x : Core) : List.take 6 x.enc = x.enc := rfl
def bsGo (lt : Nat → Bool) (i j : Nat) : Nat :=
  if h : i < j then (if lt ((i + j) / 2) then bsGo lt ((i + j) / 2 + 1) j else bsGo lt i ((i + j) / 2)) else i
termination_by j - i
def ltAt {α : Type} (f : α → Int) (xs : List α) (i : Nat) : Bool := match xs[i]? with
  | some x => decide (f x < 0)
  | none => false
def bsearch {α : Type} (f : α → Int) (xs : List α) : Nat := bsGo (ltAt f xs) 0 xs.length
def bfound {α : Type} (f : α → Int) (xs : List α) : Bool := match xs[bsearch f xs]? with
  | some x => f x == 0
  | none => false
theorem bsGo_lt (lt : Nat → Bool) {i j : Nat} (h : i < j) (hl : lt ((i + j) / 2) = true) : bsGo lt i j = bsGo lt ((i + j) / 2 + 1) j := by
  rw [bsGo, dif_pos h, if_pos hl]
theorem bsGo_ge (lt : Nat → Bool) {i j : Nat} (h : i < j) (hl : lt ((i + j) / 2) = false) : bsGo lt i j = bsGo lt i ((i + j) / 2) := by
  rw [bsGo, dif_pos h, if_neg (by simp [hl])]
theorem bsGo_eq (lt : Nat → Bool) {i j : Nat} (h : j ≤ i) : bsGo lt i j = i := by
  rw [bsGo, dif_neg (by omega)]
theorem bsGo_le (lt : Nat → Bool) (i j : Nat) (h : i ≤ j) : bsGo lt i j ≤ j := by
  induction i, j using bsGo.induct (lt := lt) with
  | case1 i j hij hl ih => rw [bsGo_lt lt hij hl]; exact ih (by omega)
  | case2 i j hij hl ih => rw [bsGo_ge lt hij (by simpa using hl)]; have := ih (by omega); omega
  | case3 i j hij => rw [bsGo_eq lt (by omega)]; exact h
theorem bsearch_le {α : Type} (f : α → Int) (xs : List α) : bsearch f xs ≤ xs.length := bsGo_le _ _ _ (Nat.zero_le _)
theorem mid_eq (i j : Nat) (h : i + j ≤ 9223372036854775807) : IntKind.i64.wrap ((IntKind.u64.wrap (IntKind.i64.wrap ((i : Int) + (j : Int)))).fdiv (2 ^ min 1 IntKind.u64.bits)) = (((i + j) / 2 : Nat) : Int) := by
  have h1 : IntKind.i64.wrap ((i : Int) + (j : Int)) = ((i + j : Nat) : Int) := by rw [w64 (by omega) (by omega)]; omega
  have h2 : IntKind.u64.wrap ((i + j : Nat) : Int) = ((i + j : Nat) : Int) := by rw [IntKind.wrap_u64]; omega
  have h3 : (2 : Int) ^ min 1 IntKind.u64.bits = 2 := by decide
  rw [h1, h2, h3, Int.fdiv_eq_ediv_of_nonneg _ (by omega), w64 (by omega) (by omega)]
  omega
theorem bs_Itm (xs : List Itm) (hx : xs.length ≤ 2000000) (y : Int) (g : FuncId) (caps : List AV) (hcaps : AV.noLL caps = true) (f : Itm → Int) (hp : ∀ x ∈ xs, PFun Tryz.prog g (.agg (Itm.enc x) :: aint y :: caps) (aint (f x))) (H : Heap) (k : Nat) (hH : H k = some (xs.flatMap Itm.enc)) : PCalls Tryz.prog 234 [.os (.h k) 7 0 xs.length, aint y, .fn g caps] H fun e H' => e = .ret (.tup [aint (bsearch f xs : Nat), abool (bfound f xs)]) ∧ H' = H := by
  refine PCalls.of_J' D_ok Tryz.func234 rfl (by decide) (le' rfl) fun E QF hF => ?_
  change J _ E 49 _ _ _
  refine J_seq' fun K1 hK1 => J0 ?_
  simp [hH]
  refine hK1 _ (J_seq' fun K2 hK2 => J0 ?_)
  simp [hH]
  refine hK2 _ (J_seq' fun K3 hK3 => J0 ?_)
  simp [hH]
  refine hK3 _ (J_seq' fun K4 hK4 => J_block ?_)
  refine J_loop' (fun m s' => ∃ i j : Nat, i ≤ j ∧ j ≤ xs.length ∧ m = j - i ∧ bsGo (ltAt f xs) i j = bsearch f xs ∧ Has [(0, .os (.h k) 7 0 xs.length), (1, aint y), (2, .fn g caps), (8, aint xs.length), (9, aint i), (10, aint j)] [] H s') (n := xs.length) ⟨0, xs.length, by omega, by omega, by omega, rfl, by simp⟩ ?_
  rintro m s' ⟨i, j, hij, hj, hm, hb, hs'⟩ K hK
  refine J_has hs' ?_
  refine J_seq' fun K5 hK5 => J_seq' fun K6 hK6 => J0 ?_
  simp [hH]
  refine hK6 _ (J_cond rfl (fun hc => J_skip ?_) fun hc => J_exit ?_)
  · simp at hc
    have hmid : (i + j) / 2 < xs.length := by omega
    obtain ⟨x, hxi⟩ : ∃ x, xs[(i + j) / 2]? = some x := ⟨_, List.getElem?_eq_getElem hmid⟩
    have hat := at_Itm xs hxi
    have hmem : x ∈ xs := List.mem_of_getElem? hxi
    have hlt : ltAt f xs ((i + j) / 2) = decide (f x < 0) := by simp [ltAt, hxi]
    simp only [thenQ, blockQ]
    refine hK5 _ (J_block (J_seq' fun K7 hK7 => J0 ?_))
    simp [hH, evConv]
    rw [mid_eq i j (by omega)]
    have hm1 : i ≤ (i + j) / 2 := by omega
    have hm2 : (i + j) / 2 < j := by omega
    have hbl := fun h => bsGo_lt (ltAt f xs) (i := i) (j := j) hc h
    have hbg := fun h => bsGo_ge (ltAt f xs) (i := i) (j := j) hc h
    generalize (i + j) / 2 = mid at *
    refine hK7 _ (J_seq' fun K8 hK8 => J0 ?_)
    simp [hat, hcaps, noLL_Itm, len_Itm, hH, take_Itm]
    refine ⟨by omega, by omega, (hp x hmem).call ?_⟩
    simp
    refine hK8 _ (J_cond rfl (fun hd => ?_) fun hd => ?_)
    · have hpx : ltAt f xs mid = true := by rw [hlt]; simpa using hd
      refine J0 ?_
      simp [hH]
      refine hK (j - (mid + 1)) _ (by omega) ⟨mid + 1, j, by omega, hj, rfl, ?_, ?_⟩
      · rw [← hb, hbl hpx]
      · simp
        rw [w64 (by omega) (by omega)]
    · have hpx : ltAt f xs mid = false := by rw [hlt]; simpa using hd
      refine J0 ?_
      simp [hH]
      refine hK (mid - i) _ (by omega) ⟨i, mid, by omega, by omega, rfl, ?_, ?_⟩
      · rw [← hb, hbg hpx]
      · simp
  · simp at hc
    have hbi : i = bsearch f xs := by rw [← hb, bsGo_eq _ hc]
    simp only [thenQ, blockQ, if_true]
    refine hK4 _ (J_seq' fun K9 hK9 => ?_)
    rcases Nat.lt_or_ge i xs.length with hlt | hge
    · obtain ⟨x, hxi⟩ : ∃ x, xs[i]? = some x := ⟨_, List.getElem?_eq_getElem hlt⟩
      have hat := at_Itm xs hxi
      have hmem : x ∈ xs := List.mem_of_getElem? hxi
      refine J0 ?_
      simp [hat, hcaps, noLL_Itm, len_Itm, hH, hlt, take_Itm]
      refine ⟨by omega, (hp x hmem).call ?_⟩
      simp
      refine hK9 _ (J_ret (hF _ _ ?_))
      simp [Tryz.f234, ← hbi, bfound, hxi]
    · refine J0 ?_
      simp [hH, show ¬ i < xs.length from by omega]
      refine hK9 _ (J_ret (hF _ _ ?_))
      simp [Tryz.f234, ← hbi, bfound, List.getElem?_eq_none hge]
theorem bs_Queue (xs : List Queue) (hx : xs.length ≤ 2000000) (y : Queue) (g : FuncId) (caps : List AV) (hcaps : AV.noLL caps = true) (f : Queue → Int) (hp : ∀ x ∈ xs, PFun Tryz.prog g (.agg (Queue.enc x) :: .agg (Queue.enc y) :: caps) (aint (f x))) (H : Heap) (k : Nat) (hH : H k = some (xs.flatMap Queue.enc)) : PCalls Tryz.prog 238 [.os (.h k) 7 0 xs.length, .agg (Queue.enc y), .fn g caps] H fun e H' => e = .ret (.tup [aint (bsearch f xs : Nat), abool (bfound f xs)]) ∧ H' = H := by
  refine PCalls.of_J' D_ok Tryz.func238 rfl (by decide) (le' rfl) fun E QF hF => ?_
  change J _ E 49 _ _ _
  refine J_seq' fun K1 hK1 => J1 4 ?_
  simp [hH, len_Queue, noLL_Queue]
  refine hK1 _ (J_seq' fun K2 hK2 => J1 4 ?_)
  simp [hH]
  refine hK2 _ (J_seq' fun K3 hK3 => J1 4 ?_)
  simp [hH]
  refine hK3 _ (J_seq' fun K4 hK4 => J_block ?_)
  refine J_loop' (fun m s' => ∃ i j : Nat, i ≤ j ∧ j ≤ xs.length ∧ m = j - i ∧ bsGo (ltAt f xs) i j = bsearch f xs ∧ Has [(0, .os (.h k) 7 0 xs.length), (4, .vp y.enc), (2, .fn g caps), (8, aint xs.length), (9, aint i), (10, aint j)] [] H s') (n := xs.length) ⟨0, xs.length, by omega, by omega, by omega, rfl, by simp⟩ ?_
  rintro m s' ⟨i, j, hij, hj, hm, hb, hs'⟩ K hK
  refine J_has hs' ?_
  refine J_seq' fun K5 hK5 => J_seq' fun K6 hK6 => J1 4 ?_
  simp [hH]
  refine hK6 _ (J_cond rfl (fun hc => J_skip ?_) fun hc => J_exit ?_)
  · simp at hc
    have hmid : (i + j) / 2 < xs.length := by omega
    obtain ⟨x, hxi⟩ : ∃ x, xs[(i + j) / 2]? = some x := ⟨_, List.getElem?_eq_getElem hmid⟩
    have hat := at_Queue xs hxi
    have hmem : x ∈ xs := List.mem_of_getElem? hxi
    have hlt : ltAt f xs ((i + j) / 2) = decide (f x < 0) := by simp [ltAt, hxi]
    simp only [thenQ, blockQ]
    refine hK5 _ (J_block (J_seq' fun K7 hK7 => J1 4 ?_))
    simp [hH, evConv]
    rw [mid_eq i j (by omega)]
    have hm1 : i ≤ (i + j) / 2 := by omega
    have hm2 : (i + j) / 2 < j := by omega
    have hbl := fun h => bsGo_lt (ltAt f xs) (i := i) (j := j) hc h
    have hbg := fun h => bsGo_ge (ltAt f xs) (i := i) (j := j) hc h
    generalize (i + j) / 2 = mid at *
    refine hK7 _ (J_seq' fun K8 hK8 => D1 4 [0,1,2,3,4,5,6,7] [] (fun _ => []) rfl (by decide) (by decide) ?_)
    simp [hat, hcaps, noLL_Queue, len_Queue, hH, take_Queue]
    refine ⟨by omega, by omega, _, hp x hmem, ?_⟩
    simp
    refine hK8 _ (J_cond rfl (fun hd => ?_) fun hd => ?_)
    · have hpx : ltAt f xs mid = true := by rw [hlt]; simpa using hd
      refine J1 4 ?_
      simp [hH]
      refine hK (j - (mid + 1)) _ (by omega) ⟨mid + 1, j, by omega, hj, rfl, ?_, ?_⟩
      · rw [← hb, hbl hpx]
      · simp
        rw [w64 (by omega) (by omega)]
    · have hpx : ltAt f xs mid = false := by rw [hlt]; simpa using hd
      refine J1 4 ?_
      simp [hH]
      refine hK (mid - i) _ (by omega) ⟨i, mid, by omega, by omega, rfl, ?_, ?_⟩
      · rw [← hb, hbg hpx]
      · simp
  · simp at hc
    have hbi : i = bsearch f xs := by rw [← hb, bsGo_eq _ hc]
    simp only [thenQ, blockQ, if_true]
    refine hK4 _ (J_seq' fun K9 hK9 => ?_)
    rcases Nat.lt_or_ge i xs.length with hlt | hge
    · obtain ⟨x, hxi⟩ : ∃ x, xs[i]? = some x := ⟨_, List.getElem?_eq_getElem hlt⟩
      have hat := at_Queue xs hxi
      have hmem : x ∈ xs := List.mem_of_getElem? hxi
      refine D1 4 [0,1,2,3,4,5,6,7,8,9,10,11,12,13,14,15] [] (fun _ => []) rfl (by decide) (by decide) ?_
      simp [hat, hcaps, noLL_Queue, len_Queue, hH, hlt, take_Queue]
      refine ⟨by omega, _, hp x hmem, ?_⟩
      simp
      refine hK9 _ (J_ret (hF _ _ ?_))
      simp [Tryz.f238, ← hbi, bfound, hxi]
    · refine D1 4 [0,1,2,3,4,5,6,7,8,9,10,11,12,13,14,15] [] (fun _ => []) rfl (by decide) (by decide) ?_
      simp [hH, show ¬ i < xs.length from by omega]
      refine hK9 _ (J_ret (hF _ _ ?_))
      simp [Tryz.f238, ← hbi, bfound, List.getElem?_eq_none hge]
theorem bs_Bind (xs : List Tv.Bind) (hx : xs.length ≤ 2000000) (y : Tv.Bind) (g : FuncId) (caps : List AV) (hcaps : AV.noLL caps = true) (f : Tv.Bind → Int) (hp : ∀ x ∈ xs, PFun Tryz.prog g (.agg (Bind.enc x) :: .agg (Bind.enc y) :: caps) (aint (f x))) (H : Heap) (k : Nat) (hH : H k = some (xs.flatMap Bind.enc)) : PCalls Tryz.prog 240 [.os (.h k) 2 0 xs.length, .agg (Bind.enc y), .fn g caps] H fun e H' => e = .ret (.tup [aint (bsearch f xs : Nat), abool (bfound f xs)]) ∧ H' = H := by
  refine PCalls.of_J' D_ok Tryz.func240 rfl (by decide) (le' rfl) fun E QF hF => ?_
  change J _ E 49 _ _ _
  refine J_seq' fun K1 hK1 => J1 4 ?_
  simp [hH, len_Bind, noLL_Bind]
  refine hK1 _ (J_seq' fun K2 hK2 => J1 4 ?_)
  simp [hH]
  refine hK2 _ (J_seq' fun K3 hK3 => J1 4 ?_)
  simp [hH]
  refine hK3 _ (J_seq' fun K4 hK4 => J_block ?_)
  refine J_loop' (fun m s' => ∃ i j : Nat, i ≤ j ∧ j ≤ xs.length ∧ m = j - i ∧ bsGo (ltAt f xs) i j = bsearch f xs ∧ Has [(0, .os (.h k) 2 0 xs.length), (4, .vp y.enc), (2, .fn g caps), (8, aint xs.length), (9, aint i), (10, aint j)] [] H s') (n := xs.length) ⟨0, xs.length, by omega, by omega, by omega, rfl, by simp⟩ ?_
  rintro m s' ⟨i, j, hij, hj, hm, hb, hs'⟩ K hK
  refine J_has hs' ?_
  refine J_seq' fun K5 hK5 => J_seq' fun K6 hK6 => J1 4 ?_
  simp [hH]
  refine hK6 _ (J_cond rfl (fun hc => J_skip ?_) fun hc => J_exit ?_)
  · simp at hc
    have hmid : (i + j) / 2 < xs.length := by omega
    obtain ⟨x, hxi⟩ : ∃ x, xs[(i + j) / 2]? = some x := ⟨_, List.getElem?_eq_getElem hmid⟩
    have hat := at_Bind xs hxi
    have hmem : x ∈ xs := List.mem_of_getElem? hxi
    have hlt : ltAt f xs ((i + j) / 2) = decide (f x < 0) := by simp [ltAt, hxi]
    simp only [thenQ, blockQ]
    refine hK5 _ (J_block (J_seq' fun K7 hK7 => J1 4 ?_))
    simp [hH, evConv]
    rw [mid_eq i j (by omega)]
    have hm1 : i ≤ (i + j) / 2 := by omega
    have hm2 : (i + j) / 2 < j := by omega
    have hbl := fun h => bsGo_lt (ltAt f xs) (i := i) (j := j) hc h
    have hbg := fun h => bsGo_ge (ltAt f xs) (i := i) (j := j) hc h
    generalize (i + j) / 2 = mid at *
    refine hK7 _ (J_seq' fun K8 hK8 => D1 4 [0,1,2,3,4,5,6,7] [] (fun _ => []) rfl (by decide) (by decide) ?_)
    simp [hat, hcaps, noLL_Bind, len_Bind, hH, take_Bind]
    refine ⟨by omega, by omega, _, hp x hmem, ?_⟩
    simp
    refine hK8 _ (J_cond rfl (fun hd => ?_) fun hd => ?_)
    · have hpx : ltAt f xs mid = true := by rw [hlt]; simpa using hd
      refine J1 4 ?_
      simp [hH]
      refine hK (j - (mid + 1)) _ (by omega) ⟨mid + 1, j, by omega, hj, rfl, ?_, ?_⟩
      · rw [← hb, hbl hpx]
      · simp
        rw [w64 (by omega) (by omega)]
    · have hpx : ltAt f xs mid = false := by rw [hlt]; simpa using hd
      refine J1 4 ?_
      simp [hH]
      refine hK (mid - i) _ (by omega) ⟨i, mid, by omega, by omega, rfl, ?_, ?_⟩
      · rw [← hb, hbg hpx]
      · simp
  · simp at hc
    have hbi : i = bsearch f xs := by rw [← hb, bsGo_eq _ hc]
    simp only [thenQ, blockQ, if_true]
    refine hK4 _ (J_seq' fun K9 hK9 => ?_)
    rcases Nat.lt_or_ge i xs.length with hlt | hge
    · obtain ⟨x, hxi⟩ : ∃ x, xs[i]? = some x := ⟨_, List.getElem?_eq_getElem hlt⟩
      have hat := at_Bind xs hxi
      have hmem : x ∈ xs := List.mem_of_getElem? hxi
      refine D1 4 [0,1,2,3,4,5,6,7,8,9,10,11,12,13,14,15] [] (fun _ => []) rfl (by decide) (by decide) ?_
      simp [hat, hcaps, noLL_Bind, len_Bind, hH, hlt, take_Bind]
      refine ⟨by omega, _, hp x hmem, ?_⟩
      simp
      refine hK9 _ (J_ret (hF _ _ ?_))
      simp [Tryz.f240, ← hbi, bfound, hxi]
    · refine D1 4 [0,1,2,3,4,5,6,7,8,9,10,11,12,13,14,15] [] (fun _ => []) rfl (by decide) (by decide) ?_
      simp [hH, show ¬ i < xs.length from by omega]
      refine hK9 _ (J_ret (hF _ _ ?_))
      simp [Tryz.f240, ← hbi, bfound, List.getElem?_eq_none hge]
theorem bs_Sub (xs : List Tv.Sub) (hx : xs.length ≤ 2000000) (y : Tv.Sub) (g : FuncId) (caps : List AV) (hcaps : AV.noLL caps = true) (f : Tv.Sub → Int) (hp : ∀ x ∈ xs, PFun Tryz.prog g (.agg (Sub.enc x) :: .agg (Sub.enc y) :: caps) (aint (f x))) (H : Heap) (k : Nat) (hH : H k = some (xs.flatMap Sub.enc)) : PCalls Tryz.prog 253 [.os (.h k) 5 0 xs.length, .agg (Sub.enc y), .fn g caps] H fun e H' => e = .ret (.tup [aint (bsearch f xs : Nat), abool (bfound f xs)]) ∧ H' = H := by
  refine PCalls.of_J' D_ok Tryz.func253 rfl (by decide) (le' rfl) fun E QF hF => ?_
  change J _ E 49 _ _ _
  refine J_seq' fun K1 hK1 => J1 4 ?_
  simp [hH, len_Sub, noLL_Sub]
  refine hK1 _ (J_seq' fun K2 hK2 => J1 4 ?_)
  simp [hH]
  refine hK2 _ (J_seq' fun K3 hK3 => J1 4 ?_)
  simp [hH]
  refine hK3 _ (J_seq' fun K4 hK4 => J_block ?_)
  refine J_loop' (fun m s' => ∃ i j : Nat, i ≤ j ∧ j ≤ xs.length ∧ m = j - i ∧ bsGo (ltAt f xs) i j = bsearch f xs ∧ Has [(0, .os (.h k) 5 0 xs.length), (4, .vp y.enc), (2, .fn g caps), (8, aint xs.length), (9, aint i), (10, aint j)] [] H s') (n := xs.length) ⟨0, xs.length, by omega, by omega, by omega, rfl, by simp⟩ ?_
  rintro m s' ⟨i, j, hij, hj, hm, hb, hs'⟩ K hK
  refine J_has hs' ?_
  refine J_seq' fun K5 hK5 => J_seq' fun K6 hK6 => J1 4 ?_
  simp [hH]
  refine hK6 _ (J_cond rfl (fun hc => J_skip ?_) fun hc => J_exit ?_)
  · simp at hc
    have hmid : (i + j) / 2 < xs.length := by omega
    obtain ⟨x, hxi⟩ : ∃ x, xs[(i + j) / 2]? = some x := ⟨_, List.getElem?_eq_getElem hmid⟩
    have hat := at_Sub xs hxi
    have hmem : x ∈ xs := List.mem_of_getElem? hxi
    have hlt : ltAt f xs ((i + j) / 2) = decide (f x < 0) := by simp [ltAt, hxi]
    simp only [thenQ, blockQ]
    refine hK5 _ (J_block (J_seq' fun K7 hK7 => J1 4 ?_))
    simp [hH, evConv]
    rw [mid_eq i j (by omega)]
    have hm1 : i ≤ (i + j) / 2 := by omega
    have hm2 : (i + j) / 2 < j := by omega
    have hbl := fun h => bsGo_lt (ltAt f xs) (i := i) (j := j) hc h
    have hbg := fun h => bsGo_ge (ltAt f xs) (i := i) (j := j) hc h
    generalize (i + j) / 2 = mid at *
    refine hK7 _ (J_seq' fun K8 hK8 => D1 4 [0,1,2,3,4,5,6,7] [] (fun _ => []) rfl (by decide) (by decide) ?_)
    simp [hat, hcaps, noLL_Sub, len_Sub, hH, take_Sub]
    refine ⟨by omega, by omega, _, hp x hmem, ?_⟩
    simp
    refine hK8 _ (J_cond rfl (fun hd => ?_) fun hd => ?_)
    · have hpx : ltAt f xs mid = true := by rw [hlt]; simpa using hd
      refine J1 4 ?_
      simp [hH]
      refine hK (j - (mid + 1)) _ (by omega) ⟨mid + 1, j, by omega, hj, rfl, ?_, ?_⟩
      · rw [← hb, hbl hpx]
      · simp
        rw [w64 (by omega) (by omega)]
    · have hpx : ltAt f xs mid = false := by rw [hlt]; simpa using hd
      refine J1 4 ?_
      simp [hH]
      refine hK (mid - i) _ (by omega) ⟨i, mid, by omega, by omega, rfl, ?_, ?_⟩
      · rw [← hb, hbg hpx]
      · simp
  · simp at hc
    have hbi : i = bsearch f xs := by rw [← hb, bsGo_eq _ hc]
    simp only [thenQ, blockQ, if_true]
    refine hK4 _ (J_seq' fun K9 hK9 => ?_)
    rcases Nat.lt_or_ge i xs.length with hlt | hge
    · obtain ⟨x, hxi⟩ : ∃ x, xs[i]? = some x := ⟨_, List.getElem?_eq_getElem hlt⟩
      have hat := at_Sub xs hxi
      have hmem : x ∈ xs := List.mem_of_getElem? hxi
      refine D1 4 [0,1,2,3,4,5,6,7,8,9,10,11,12,13,14,15] [] (fun _ => []) rfl (by decide) (by decide) ?_
      simp [hat, hcaps, noLL_Sub, len_Sub, hH, hlt, take_Sub]
      refine ⟨by omega, _, hp x hmem, ?_⟩
      simp
      refine hK9 _ (J_ret (hF _ _ ?_))
      simp [Tryz.f253, ← hbi, bfound, hxi]
    · refine D1 4 [0,1,2,3,4,5,6,7,8,9,10,11,12,13,14,15] [] (fun _ => []) rfl (by decide) (by decide) ?_
      simp [hH, show ¬ i < xs.length from by omega]
      refine hK9 _ (J_ret (hF _ _ ?_))
      simp [Tryz.f253, ← hbi, bfound, List.getElem?_eq_none hge]
theorem bs_Msg (xs : List Msg) (hx : xs.length ≤ 2000000) (y : Msg) (g : FuncId) (caps : List AV) (hcaps : AV.noLL caps = true) (f : Msg → Int) (hp : ∀ x ∈ xs, PFun Tryz.prog g (.agg (Msg.enc x) :: .agg (Msg.enc y) :: caps) (aint (f x))) (H : Heap) (k : Nat) (hH : H k = some (xs.flatMap Msg.enc)) : PCalls Tryz.prog 281 [.os (.h k) 5 0 xs.length, .agg (Msg.enc y), .fn g caps] H fun e H' => e = .ret (.tup [aint (bsearch f xs : Nat), abool (bfound f xs)]) ∧ H' = H := by
  refine PCalls.of_J' D_ok Tryz.func281 rfl (by decide) (le' rfl) fun E QF hF => ?_
  change J _ E 49 _ _ _
  refine J_seq' fun K1 hK1 => J1 4 ?_
  simp [hH, len_Msg, noLL_Msg]
  refine hK1 _ (J_seq' fun K2 hK2 => J1 4 ?_)
  simp [hH]
  refine hK2 _ (J_seq' fun K3 hK3 => J1 4 ?_)
  simp [hH]
  refine hK3 _ (J_seq' fun K4 hK4 => J_block ?_)
  refine J_loop' (fun m s' => ∃ i j : Nat, i ≤ j ∧ j ≤ xs.length ∧ m = j - i ∧ bsGo (ltAt f xs) i j = bsearch f xs ∧ Has [(0, .os (.h k) 5 0 xs.length), (4, .vp y.enc), (2, .fn g caps), (8, aint xs.length), (9, aint i), (10, aint j)] [] H s') (n := xs.length) ⟨0, xs.length, by omega, by omega, by omega, rfl, by simp⟩ ?_
  rintro m s' ⟨i, j, hij, hj, hm, hb, hs'⟩ K hK
  refine J_has hs' ?_
  refine J_seq' fun K5 hK5 => J_seq' fun K6 hK6 => J1 4 ?_
  simp [hH]
  refine hK6 _ (J_cond rfl (fun hc => J_skip ?_) fun hc => J_exit ?_)
  · simp at hc
    have hmid : (i + j) / 2 < xs.length := by omega
    obtain ⟨x, hxi⟩ : ∃ x, xs[(i + j) / 2]? = some x := ⟨_, List.getElem?_eq_getElem hmid⟩
    have hat := at_Msg xs hxi
    have hmem : x ∈ xs := List.mem_of_getElem? hxi
    have hlt : ltAt f xs ((i + j) / 2) = decide (f x < 0) := by simp [ltAt, hxi]
    simp only [thenQ, blockQ]
    refine hK5 _ (J_block (J_seq' fun K7 hK7 => J1 4 ?_))
    simp [hH, evConv]
    rw [mid_eq i j (by omega)]
    have hm1 : i ≤ (i + j) / 2 := by omega
    have hm2 : (i + j) / 2 < j := by omega
    have hbl := fun h => bsGo_lt (ltAt f xs) (i := i) (j := j) hc h
    have hbg := fun h => bsGo_ge (ltAt f xs) (i := i) (j := j) hc h
    generalize (i + j) / 2 = mid at *
    refine hK7 _ (J_seq' fun K8 hK8 => D1 4 [0,1,2,3,4,5,6,7] [] (fun _ => []) rfl (by decide) (by decide) ?_)
    simp [hat, hcaps, noLL_Msg, len_Msg, hH, take_Msg]
    refine ⟨by omega, by omega, _, hp x hmem, ?_⟩
    simp
    refine hK8 _ (J_cond rfl (fun hd => ?_) fun hd => ?_)
    · have hpx : ltAt f xs mid = true := by rw [hlt]; simpa using hd
      refine J1 4 ?_
      simp [hH]
      refine hK (j - (mid + 1)) _ (by omega) ⟨mid + 1, j, by omega, hj, rfl, ?_, ?_⟩
      · rw [← hb, hbl hpx]
      · simp
        rw [w64 (by omega) (by omega)]
    · have hpx : ltAt f xs mid = false := by rw [hlt]; simpa using hd
      refine J1 4 ?_
      simp [hH]
      refine hK (mid - i) _ (by omega) ⟨i, mid, by omega, by omega, rfl, ?_, ?_⟩
      · rw [← hb, hbg hpx]
      · simp
  · simp at hc
    have hbi : i = bsearch f xs := by rw [← hb, bsGo_eq _ hc]
    simp only [thenQ, blockQ, if_true]
    refine hK4 _ (J_seq' fun K9 hK9 => ?_)
    rcases Nat.lt_or_ge i xs.length with hlt | hge
    · obtain ⟨x, hxi⟩ : ∃ x, xs[i]? = some x := ⟨_, List.getElem?_eq_getElem hlt⟩
      have hat := at_Msg xs hxi
      have hmem : x ∈ xs := List.mem_of_getElem? hxi
      refine D1 4 [0,1,2,3,4,5,6,7,8,9,10,11,12,13,14,15] [] (fun _ => []) rfl (by decide) (by decide) ?_
      simp [hat, hcaps, noLL_Msg, len_Msg, hH, hlt, take_Msg]
      refine ⟨by omega, _, hp x hmem, ?_⟩
      simp
      refine hK9 _ (J_ret (hF _ _ ?_))
      simp [Tryz.f281, ← hbi, bfound, hxi]
    · refine D1 4 [0,1,2,3,4,5,6,7,8,9,10,11,12,13,14,15] [] (fun _ => []) rfl (by decide) (by decide) ?_
      simp [hH, show ¬ i < xs.length from by omega]
      refine hK9 _ (J_ret (hF _ _ ?_))
      simp [Tryz.f281, ← hbi, bfound, List.getElem?_eq_none hge]
end
end Go.Proofs.YtpcpljfifipagaaGreatDoor
