/- A part of the proof: the engine that walks Go code, the walks of the broker, or their laws (TvEngA). -/
import Derived.Calls
import Derived.Below
import Derived.Laws.CopyRow
set_option linter.unusedSimpArgs false
set_option linter.unusedVariables false
namespace Go.Eng
inductive Loc where
  | l (k : Nat)
  | h (k : Nat)
  deriving DecidableEq
inductive AV where
  | v (x : Value)
  | dead
  | p (l : Loc) (off : Nat)
  | vp (cs : List AV)
  | sl (n : Nat) (cs : List AV)
  | sl0
  | os (l : Loc) (es off n : Nat)
  | oc (l : Loc) (es off n c : Nat)
  | agg (cs : List AV)
  | tup (cs : List AV)
  | fn (f : FuncId) (caps : List AV)
  | ifc (t : TypeId) (x : AV)
instance : Inhabited AV := ⟨.dead⟩
structure LI where
  b : Nat
  sz : Nat
abbrev Psi := Loc → Option LI
abbrev Imm := Nat → Nat → Option Value
def Psi.strip (ψ : Psi) : Psi := fun
  | .l _ => none
  | .h k => ψ (.h k)
def ImmAt (M : Imm) (b o : Nat) (vs : List Value) : Prop := ∀ k u, vs[k]? = some u → M b (o + k) = some u
mutual
def Rep (M : Imm) (ψ : Psi) : AV → Value → Prop
  | .v x, w => w = x
  | .dead, _ => True
  | .p l off, w => ∃ i, ψ l = some i ∧ w = .pointer (some ⟨i.b, off, none⟩)
  | .vp cs, w => ∃ b o vs, w = .pointer (some ⟨b, o, none⟩) ∧ ImmAt M b o vs ∧ RepL M ψ.strip cs vs
  | .sl n cs, w => ∃ a cap, w = .slice a n cap ∧ n ≤ cap ∧ cap ≤ maxLen ∧ (cs ≠ [] → ∃ b o vs, a = some ⟨b, o, none⟩ ∧ ImmAt M b o vs ∧ RepL M ψ.strip cs vs)
  | .sl0, w => ∃ a, w = .slice a 0 0
  | .os l es off n, w => (off = 0 ∧ n = 0 ∧ ∃ a, w = .slice a 0 0) ∨ ∃ i cap, ψ l = some i ∧ w = .slice (some ⟨i.b, off, none⟩) n cap ∧ n ≤ cap ∧ cap ≤ maxLen ∧ off + cap * es = i.sz
  | .oc l es off n c, w => ∃ i, ψ l = some i ∧ w = .slice (some ⟨i.b, off, none⟩) n c ∧ n ≤ c ∧ c ≤ maxLen ∧ off + c * es = i.sz
  | .agg cs, w => ∃ vs : List Value, w = .agg vs.toArray ∧ RepL M ψ cs vs ∧ ∀ u ∈ vs, u.oneCell' = true
  | .tup cs, w => ∃ vs : List Value, w = .tuple vs.toArray ∧ RepL M ψ cs vs
  | .fn f caps, w => ∃ vs : List Value, w = .func (.func f) #[] vs.toArray ∧ RepL M ψ caps vs
  | .ifc t x, w => ∃ u, w = .iface t u ∧ Rep M ψ x u
def RepL (M : Imm) (ψ : Psi) : List AV → List Value → Prop
  | [], vs => vs = []
  | c :: cs, vs => ∃ u us, vs = u :: us ∧ Rep M ψ c u ∧ RepL M ψ cs us
end
def Imm.le (M M' : Imm) : Prop := ∀ b o v, M b o = some v → M' b o = some v
def Psi.le (ψ ψ' : Psi) : Prop := ∀ l i, ψ l = some i → ψ' l = some i
theorem Imm.le_refl (M : Imm) : M.le M := fun _ _ _ h => h
theorem Imm.le.trans {A B C : Imm} (h : A.le B) (k : B.le C) : A.le C := fun b o v x => k b o v (h b o v x)
theorem Psi.le_refl (ψ : Psi) : ψ.le ψ := fun _ _ h => h
theorem Psi.le.trans {A B C : Psi} (h : A.le B) (k : B.le C) : A.le C := fun l i x => k l i (h l i x)
theorem Psi.le.strip {A B : Psi} (h : A.le B) : A.strip.le B.strip := fun l i x => by
  cases l with
  | l k => simp [Psi.strip] at x
  | h k => exact h _ _ x
theorem Psi.strip_le (A : Psi) : A.strip.le A := fun l i x => by
  cases l with
  | l k => simp [Psi.strip] at x
  | h k => exact x
theorem Psi.strip_strip (A : Psi) : A.strip.strip = A.strip := by
  funext l; cases l <;> rfl
theorem ImmAt.mono {M M' : Imm} (h : M.le M') {b o : Nat} {vs : List Value} (k : ImmAt M b o vs) : ImmAt M' b o vs := fun i u e => h _ _ _ (k i u e)
mutual
theorem Rep.mono {M M' : Imm} (hM : M.le M') : ∀ (av : AV) {ψ ψ' : Psi} (_ : ψ.le ψ') {w : Value}, Rep M ψ av w → Rep M' ψ' av w
  | .v x, _, _, _, _, h => by simpa only [Rep] using h
  | .dead, _, _, _, _, _ => by simp only [Rep]
  | .p l off, _, _, hψ, _, h => by
    simp only [Rep] at h ⊢
    obtain ⟨i, h1, h2⟩ := h
    exact ⟨i, hψ _ _ h1, h2⟩
  | .vp cs, _, _, hψ, _, h => by
    simp only [Rep] at h ⊢
    obtain ⟨b, o, vs, h1, h2, h3⟩ := h
    exact ⟨b, o, vs, h1, h2.mono hM, RepL.mono hM cs hψ.strip h3⟩
  | .sl n cs, _, _, hψ, _, h => by
    simp only [Rep] at h ⊢
    obtain ⟨a, cap, h1, h2, h3, h4⟩ := h
    refine ⟨a, cap, h1, h2, h3, fun hn => ?_⟩
    obtain ⟨b, o, vs, h5, h6, h7⟩ := h4 hn
    exact ⟨b, o, vs, h5, h6.mono hM, RepL.mono hM cs hψ.strip h7⟩
  | .sl0, _, _, _, _, h => by simpa only [Rep] using h
  | .os l es off n, _, _, hψ, _, h => by
    simp only [Rep] at h ⊢
    rcases h with h | ⟨i, cap, h1, h2⟩
    · exact .inl h
    · exact .inr ⟨i, cap, hψ _ _ h1, h2⟩
  | .oc l es off n c, _, _, hψ, _, h => by
    simp only [Rep] at h ⊢
    obtain ⟨i, h1, h2⟩ := h
    exact ⟨i, hψ _ _ h1, h2⟩
  | .agg cs, _, _, hψ, _, h => by
    simp only [Rep] at h ⊢
    obtain ⟨vs, h1, h2, h3⟩ := h
    exact ⟨vs, h1, RepL.mono hM cs hψ h2, h3⟩
  | .tup cs, _, _, hψ, _, h => by
    simp only [Rep] at h ⊢
    obtain ⟨vs, h1, h2⟩ := h
    exact ⟨vs, h1, RepL.mono hM cs hψ h2⟩
  | .fn f caps, _, _, hψ, _, h => by
    simp only [Rep] at h ⊢
    obtain ⟨vs, h1, h2⟩ := h
    exact ⟨vs, h1, RepL.mono hM caps hψ h2⟩
  | .ifc t x, _, _, hψ, _, h => by
    simp only [Rep] at h ⊢
    obtain ⟨u, h1, h2⟩ := h
    exact ⟨u, h1, Rep.mono hM x hψ h2⟩
theorem RepL.mono {M M' : Imm} (hM : M.le M') : ∀ (cs : List AV) {ψ ψ' : Psi} (_ : ψ.le ψ') {vs : List Value}, RepL M ψ cs vs → RepL M' ψ' cs vs
  | [], _, _, _, _, h => by simpa only [RepL] using h
  | c :: cs, _, _, hψ, _, h => by
    simp only [RepL] at h ⊢
    obtain ⟨u, us, h1, h2, h3⟩ := h
    exact ⟨u, us, h1, Rep.mono hM c hψ h2, RepL.mono hM cs hψ h3⟩
end
theorem RepL.length {M : Imm} {ψ : Psi} {cs : List AV} {vs : List Value} (h : RepL M ψ cs vs) : vs.length = cs.length := by
  induction cs generalizing vs with
  | nil => simp only [RepL] at h; subst h; rfl
  | cons c cs ih =>
    simp only [RepL] at h
    obtain ⟨u, us, rfl, _, h3⟩ := h
    simp [ih h3]
theorem RepL.get {M : Imm} {ψ : Psi} {cs : List AV} {vs : List Value} (h : RepL M ψ cs vs) {i : Nat} {c : AV} (hc : cs[i]? = some c) : ∃ u, vs[i]? = some u ∧ Rep M ψ c u := by
  induction cs generalizing vs i with
  | nil => simp at hc
  | cons c' cs ih =>
    simp only [RepL] at h
    obtain ⟨u, us, rfl, h2, h3⟩ := h
    cases i with
    | zero => simp at hc; subst hc; exact ⟨u, rfl, h2⟩
    | succ i => simp at hc; obtain ⟨x, hx, hr⟩ := ih h3 hc; exact ⟨x, by simpa using hx, hr⟩
theorem RepL.append {M : Imm} {ψ : Psi} {cs ds : List AV} {vs us : List Value} (h : RepL M ψ cs vs) (k : RepL M ψ ds us) : RepL M ψ (cs ++ ds) (vs ++ us) := by
  induction cs generalizing vs with
  | nil => simp only [RepL] at h; subst h; simpa using k
  | cons c cs ih =>
    simp only [RepL] at h
    obtain ⟨u, vs', rfl, h2, h3⟩ := h
    simp only [List.cons_append, RepL]
    exact ⟨u, _, rfl, h2, ih h3⟩
theorem RepL.take {M : Imm} {ψ : Psi} {cs : List AV} {vs : List Value} (h : RepL M ψ cs vs) (n : Nat) : RepL M ψ (cs.take n) (vs.take n) := by
  induction cs generalizing vs n with
  | nil => simp only [RepL] at h; subst h; simp [RepL]
  | cons c cs ih =>
    simp only [RepL] at h
    obtain ⟨u, us, rfl, h2, h3⟩ := h
    cases n with
    | zero => simp [RepL]
    | succ n => simp only [List.take_succ_cons, RepL]; exact ⟨u, _, rfl, h2, ih h3 n⟩
theorem RepL.drop {M : Imm} {ψ : Psi} {cs : List AV} {vs : List Value} (h : RepL M ψ cs vs) (n : Nat) : RepL M ψ (cs.drop n) (vs.drop n) := by
  induction cs generalizing vs n with
  | nil => simp only [RepL] at h; subst h; simp [RepL]
  | cons c cs ih =>
    simp only [RepL] at h
    obtain ⟨u, us, rfl, h2, h3⟩ := h
    cases n with
    | zero => simp only [List.drop_zero, RepL]; exact ⟨u, us, rfl, h2, h3⟩
    | succ n => simpa using ih h3 n
theorem RepL.of_get {M : Imm} {ψ : Psi} {cs : List AV} {vs : List Value} (hl : vs.length = cs.length) (h : ∀ (i : Nat) (c : AV), cs[i]? = some c → ∃ u, vs[i]? = some u ∧ Rep M ψ c u) : RepL M ψ cs vs := by
  induction cs generalizing vs with
  | nil => simp only [RepL]; exact List.eq_nil_of_length_eq_zero hl
  | cons c cs ih =>
    cases vs with
    | nil => simp at hl
    | cons u us =>
      simp only [RepL]
      obtain ⟨x, hx, hr⟩ := h 0 c rfl
      simp at hx
      subst hx
      refine ⟨u, us, rfl, hr, ih (by simpa using hl) fun i c' hc => ?_⟩
      obtain ⟨y, hy, hr'⟩ := h (i + 1) c' (by simpa using hc)
      exact ⟨y, by simpa using hy, hr'⟩
theorem ImmAt.drop {M : Imm} {b o : Nat} {vs : List Value} (h : ImmAt M b o vs) (n : Nat) : ImmAt M b (o + n) (vs.drop n) := fun k u e => by
  rw [List.getElem?_drop] at e
  have := h _ _ e
  rwa [show o + n + k = o + (n + k) from by omega]
theorem ImmAt.take {M : Imm} {b o : Nat} {vs : List Value} (h : ImmAt M b o vs) (n : Nat) : ImmAt M b o (vs.take n) := fun k u e => by
  rw [List.getElem?_take] at e
  split at e
  · exact h _ _ e
  · cases e
mutual
def AV.kill (k : Nat) : AV → AV
  | .p l off => if l = .l k then .dead else .p l off
  | .os l es off n => if l = .l k then .dead else .os l es off n
  | .oc l es off n c => if l = .l k then .dead else .oc l es off n c
  | .agg cs => .agg (AV.killL k cs)
  | .tup cs => .tup (AV.killL k cs)
  | .fn f cs => .fn f (AV.killL k cs)
  | .ifc t x => .ifc t (AV.kill k x)
  | .v x => .v x
  | .dead => .dead
  | .vp cs => .vp cs
  | .sl n cs => .sl n cs
  | .sl0 => .sl0
def AV.killL (k : Nat) : List AV → List AV
  | [] => []
  | c :: cs => AV.kill k c :: AV.killL k cs
end
mutual
theorem Rep.kill {M : Imm} {ψ ψ' : Psi} {k : Nat} (hs : ψ.strip.le ψ'.strip) (hψ : ∀ l i, l ≠ .l k → ψ l = some i → ψ' l = some i) : ∀ (av : AV) {w : Value}, Rep M ψ av w → Rep M ψ' (av.kill k) w
  | .v x, _, h => by simpa only [AV.kill, Rep] using h
  | .dead, _, _ => by simp only [AV.kill, Rep]
  | .p l off, _, h => by
    simp only [AV.kill]
    split
    · simp only [Rep]
    · rename_i hl
      simp only [Rep] at h ⊢
      obtain ⟨i, h1, h2⟩ := h
      exact ⟨i, hψ _ _ hl h1, h2⟩
  | .vp cs, _, h => by
    simp only [AV.kill, Rep] at h ⊢
    obtain ⟨b, o, vs, h1, h2, h3⟩ := h
    exact ⟨b, o, vs, h1, h2, RepL.mono (Imm.le_refl M) cs hs h3⟩
  | .sl n cs, _, h => by
    simp only [AV.kill, Rep] at h ⊢
    obtain ⟨a, cap, h1, h2, h3, h4⟩ := h
    refine ⟨a, cap, h1, h2, h3, fun hn => ?_⟩
    obtain ⟨b, o, vs, h5, h6, h7⟩ := h4 hn
    exact ⟨b, o, vs, h5, h6, RepL.mono (Imm.le_refl M) cs hs h7⟩
  | .sl0, _, h => by simpa only [AV.kill, Rep] using h
  | .os l es off n, _, h => by
    simp only [AV.kill]
    split
    · simp only [Rep]
    · rename_i hl
      simp only [Rep] at h ⊢
      rcases h with h | ⟨i, cap, h1, h2⟩
      · exact .inl h
      · exact .inr ⟨i, cap, hψ _ _ hl h1, h2⟩
  | .oc l es off n c, _, h => by
    simp only [AV.kill]
    split
    · simp only [Rep]
    · rename_i hl
      simp only [Rep] at h ⊢
      obtain ⟨i, h1, h2⟩ := h
      exact ⟨i, hψ _ _ hl h1, h2⟩
  | .agg cs, _, h => by
    simp only [AV.kill, Rep] at h ⊢
    obtain ⟨vs, h1, h2, h3⟩ := h
    exact ⟨vs, h1, RepL.kill hs hψ cs h2, h3⟩
  | .tup cs, _, h => by
    simp only [AV.kill, Rep] at h ⊢
    obtain ⟨vs, h1, h2⟩ := h
    exact ⟨vs, h1, RepL.kill hs hψ cs h2⟩
  | .fn f caps, _, h => by
    simp only [AV.kill, Rep] at h ⊢
    obtain ⟨vs, h1, h2⟩ := h
    exact ⟨vs, h1, RepL.kill hs hψ caps h2⟩
  | .ifc t x, _, h => by
    simp only [AV.kill, Rep] at h ⊢
    obtain ⟨u, h1, h2⟩ := h
    exact ⟨u, h1, Rep.kill hs hψ x h2⟩
theorem RepL.kill {M : Imm} {ψ ψ' : Psi} {k : Nat} (hs : ψ.strip.le ψ'.strip) (hψ : ∀ l i, l ≠ .l k → ψ l = some i → ψ' l = some i) : ∀ (cs : List AV) {vs : List Value}, RepL M ψ cs vs → RepL M ψ' (AV.killL k cs) vs
  | [], _, h => by simpa only [AV.killL, RepL] using h
  | c :: cs, _, h => by
    simp only [AV.killL, RepL] at h ⊢
    obtain ⟨u, us, h1, h2, h3⟩ := h
    exact ⟨u, us, h1, Rep.kill hs hψ c h2, RepL.kill hs hψ cs h3⟩
end
mutual
def AV.noL : AV → Bool
  | .p (.l _) _ => false
  | .p (.h _) _ => true
  | .os (.l _) _ _ _ => false
  | .os (.h _) _ _ _ => true
  | .oc (.l _) _ _ _ _ => false
  | .oc (.h _) _ _ _ _ => true
  | .agg cs => AV.noLL cs
  | .tup cs => AV.noLL cs
  | .fn _ cs => AV.noLL cs
  | .ifc _ x => AV.noL x
  | .v _ => true
  | .dead => true
  | .vp _ => true
  | .sl _ _ => true
  | .sl0 => true
def AV.noLL : List AV → Bool
  | [] => true
  | c :: cs => AV.noL c && AV.noLL cs
end
mutual
theorem Rep.noL {M : Imm} {ψ : Psi} : ∀ (av : AV) {w : Value}, av.noL = true → Rep M ψ av w → Rep M ψ.strip av w
  | .v x, _, _, h => by simpa only [Rep] using h
  | .dead, _, _, _ => by simp only [Rep]
  | .p (.l k) off, _, hl, _ => by simp [AV.noL] at hl
  | .p (.h k) off, _, _, h => by simpa only [Rep, Psi.strip] using h
  | .vp cs, _, _, h => by simpa only [Rep, Psi.strip_strip] using h
  | .sl n cs, _, _, h => by simpa only [Rep, Psi.strip_strip] using h
  | .sl0, _, _, h => by simpa only [Rep] using h
  | .os (.l k) es off n, _, hl, _ => by simp [AV.noL] at hl
  | .os (.h k) es off n, _, _, h => by simpa only [Rep, Psi.strip] using h
  | .oc (.l k) es off n c, _, hl, _ => by simp [AV.noL] at hl
  | .oc (.h k) es off n c, _, _, h => by simpa only [Rep, Psi.strip] using h
  | .agg cs, _, hl, h => by
    simp only [AV.noL] at hl
    simp only [Rep] at h ⊢
    obtain ⟨vs, h1, h2, h3⟩ := h
    exact ⟨vs, h1, RepL.noL cs hl h2, h3⟩
  | .tup cs, _, hl, h => by
    simp only [AV.noL] at hl
    simp only [Rep] at h ⊢
    obtain ⟨vs, h1, h2⟩ := h
    exact ⟨vs, h1, RepL.noL cs hl h2⟩
  | .fn f caps, _, hl, h => by
    simp only [AV.noL] at hl
    simp only [Rep] at h ⊢
    obtain ⟨vs, h1, h2⟩ := h
    exact ⟨vs, h1, RepL.noL caps hl h2⟩
  | .ifc t x, _, hl, h => by
    simp only [AV.noL] at hl
    simp only [Rep] at h ⊢
    obtain ⟨u, h1, h2⟩ := h
    exact ⟨u, h1, Rep.noL x hl h2⟩
theorem RepL.noL {M : Imm} {ψ : Psi} : ∀ (cs : List AV) {vs : List Value}, AV.noLL cs = true → RepL M ψ cs vs → RepL M ψ.strip cs vs
  | [], _, _, h => by simpa only [RepL] using h
  | c :: cs, _, hl, h => by
    simp only [AV.noLL, Bool.and_eq_true] at hl
    simp only [RepL] at h ⊢
    obtain ⟨u, us, h1, h2, h3⟩ := h
    exact ⟨u, us, h1, Rep.noL c hl.1 h2, RepL.noL cs hl.2 h3⟩
end
end Go.Eng
