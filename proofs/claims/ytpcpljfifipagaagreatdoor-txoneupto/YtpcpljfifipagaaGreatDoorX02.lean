/- A part of the proof: the engine that walks Go code, the walks of the broker, or their laws (TvEngC). -/
import Derived.Test.YtpcpljfifipagaaGreatDoorX01
import Derived.WalkKit
import Derived.WalkLawsBesides
set_option linter.unusedSimpArgs false
set_option linter.unusedVariables false
namespace Go.Eng
inductive TK where
  | int (k : IntKind)
  | bool
  | str
  | flt
  | slice (e : TypeId)
  | struct (fs : List (Nat × TypeId)) (eq : Bool)
  | arr (n : Nat) (e : TypeId)
  | ptr
  | func
  | other
structure TD where
  k : TK
  size : Nat
  bytes : Nat
  zero : List Value
def TD.agg (d : TD) : Bool := match d.k with
  | .struct _ _ => true
  | .arr _ _ => true
  | _ => false
def TKok (P : Program) (t : TypeId) : TK → Prop
  | .int k => P.underlying t = some (.int k)
  | .bool => P.underlying t = some .bool
  | .str => P.underlying t = some .string
  | .flt => P.underlying t = some (.float .f64)
  | .slice e => P.underlying t = some (.slice e)
  | .arr n e => P.underlying t = some (.array n e)
  | .struct fs eq => ∃ fields, P.underlying t = some (.struct fields) ∧ (fields.toList.map fun f => (f.offset, f.type)) = fs ∧
      (∃ places, fields.toList.mapM (fun f => (P.info? f.type).map fun i => (f.offset, i.size)) = some places) ∧
      (eq = true → P.stoodInHeld t = false ∧ P.eqGuardType P.depth t = false ∧ (fields.toList.all fun f => f.name != "_") = true)
  | .ptr => ∃ e, P.underlying t = some (.pointer e)
  | .func => ∃ a b c, P.underlying t = some (.func a b c)
  | .other => True
def TDok (P : Program) (t : TypeId) (d : TD) : Prop :=
  (∃ i z, P.info? t = some i ∧ i.size = d.size ∧ i.bytes = d.bytes ∧ i.zero = some z ∧ z.cells.toList = d.zero ∧ (d.zero.all fun u => u.oneCell') = true) ∧ TKok P t d.k
theorem TDok.mk {P : Program} {t : TypeId} {d : TD} (h : (P.info? t).map (fun i => (i.size, i.bytes, i.zero.map fun z => z.cells.toList)) = some (d.size, d.bytes, some d.zero)) (h1 : (d.zero.all fun u => u.oneCell') = true) (h2 : TKok P t d.k) : TDok P t d := by
  simp only [Option.map_eq_some_iff, Prod.mk.injEq] at h
  obtain ⟨i, e1, e2, e3, e4⟩ := h
  obtain ⟨z, e5, e6⟩ := e4
  exact ⟨⟨i, z, e1, e2, e3, e5, e6, h1⟩, h2⟩
abbrev Types := TypeId → Option TD
def Types.ok (P : Program) (D : Types) : Prop := ∀ t d, D t = some d → TDok P t d
mutual
def AV.ofV : Value → AV
  | .slice none n c => if n = 0 ∧ c = 0 then .sl0 else .v (.slice none n c)
  | .func (.func f) fs cs => if fs.size = 0 ∧ cs.size = 0 then .fn f [] else .v (.func (.func f) fs cs)
  | .agg ⟨cs⟩ => if cs.all (·.oneCell') then .agg (AV.ofVs cs) else .v (.agg ⟨cs⟩)
  | x => .v x
def AV.ofVs : List Value → List AV
  | [] => []
  | c :: cs => AV.ofV c :: AV.ofVs cs
end
mutual
theorem Rep.ofV (M : Imm) (ψ : Psi) : ∀ (x : Value), Rep M ψ (AV.ofV x) x
  | .bool _ => by simp only [AV.ofV, Rep]
  | .int _ _ => by simp only [AV.ofV, Rep]
  | .float _ _ => by simp only [AV.ofV, Rep]
  | .complex _ _ _ => by simp only [AV.ofV, Rep]
  | .string _ => by simp only [AV.ofV, Rep]
  | .pointer _ => by simp only [AV.ofV, Rep]
  | .slice none n c => by
    simp only [AV.ofV]
    split
    · rename_i h; obtain ⟨rfl, rfl⟩ := h; simp only [Rep]; exact ⟨none, rfl⟩
    · simp only [Rep]
  | .slice (some _) n c => by simp only [AV.ofV, Rep]
  | .map _ => by simp only [AV.ofV, Rep]
  | .chan _ => by simp only [AV.ofV, Rep]
  | .func (.func f) fs cs => by
    simp only [AV.ofV]
    split
    · rename_i h
      obtain ⟨h1, h2⟩ := h
      simp only [Rep]
      refine ⟨[], ?_, by simp only [RepL]⟩
      rw [Array.eq_empty_of_size_eq_zero h1, Array.eq_empty_of_size_eq_zero h2]
    · simp only [Rep]
  | .func (.method _) _ _ => by simp only [AV.ofV, Rep]
  | .func (.methodOf _ _) _ _ => by simp only [AV.ofV, Rep]
  | .func (.via _ _ _ _) _ _ => by simp only [AV.ofV, Rep]
  | .func (.yield _) _ _ => by simp only [AV.ofV, Rep]
  | .nilFunc => by simp only [AV.ofV, Rep]
  | .iface _ _ => by simp only [AV.ofV, Rep]
  | .nilIface => by simp only [AV.ofV, Rep]
  | .agg ⟨cs⟩ => by
    simp only [AV.ofV]
    split
    · rename_i h
      simp only [Rep]
      exact ⟨cs, rfl, RepL.ofVs M ψ cs, by simpa using h⟩
    · simp only [Rep]
  | .tuple _ => by simp only [AV.ofV, Rep]
theorem RepL.ofVs (M : Imm) (ψ : Psi) : ∀ (cs : List Value), RepL M ψ (AV.ofVs cs) cs
  | [] => by simp only [AV.ofVs, RepL]
  | c :: cs => by
    simp only [AV.ofVs, RepL]
    exact ⟨c, cs, rfl, Rep.ofV M ψ c, RepL.ofVs M ψ cs⟩
end
abbrev Slots := List (Nat × AV)
def lookS : Slots → Nat → AV
  | [], _ => .dead
  | (j, a) :: r, k => if k = j then a else lookS r k
def delS : Slots → Nat → Slots
  | [], _ => []
  | (j, a) :: r, k => if k = j then delS r k else (j, a) :: delS r k
def setS (S : Slots) (k : Nat) (a : AV) : Slots := (k, a) :: delS S k
def SlotsR (M : Imm) (ψ : Psi) (S : Slots) (tmps : Array Value) : Prop := ∀ k, Rep M ψ (lookS S k) (tmps.getD k undef)
theorem SlotsR.look {M : Imm} {ψ : Psi} {S : Slots} {tmps : Array Value} (h : SlotsR M ψ S tmps) (k : Nat) : Rep M ψ (lookS S k) (tmps.getD k undef) := h k
theorem lookS_delS (S : Slots) (k j : Nat) : lookS (delS S k) j = if j = k then .dead else lookS S j := by
  induction S with
  | nil => simp [delS, lookS]
  | cons x r ih =>
    obtain ⟨i, a⟩ := x
    simp only [delS]
    by_cases h : k = i
    · subst h
      simp only [if_true, ih, lookS]
      by_cases hj : j = k <;> simp [hj]
    · simp only [if_neg h, lookS, ih]
      by_cases hj : j = i
      · subst hj; simp [Ne.symm h]
      · simp [hj]
theorem lookS_setS (S : Slots) (k : Nat) (a : AV) (j : Nat) : lookS (setS S k a) j = if j = k then a else lookS S j := by
  simp only [setS, lookS, lookS_delS]
  by_cases hj : j = k <;> simp [hj]
theorem SlotsR.set {M : Imm} {ψ : Psi} {S : Slots} {tmps : Array Value} (h : SlotsR M ψ S tmps) {k : Nat} {a : AV} {v : Value} (hk : k < tmps.size) (ha : Rep M ψ a v) : SlotsR M ψ (setS S k a) (tmps.setIfInBounds k v) := by
  intro j
  rw [lookS_setS]
  by_cases hj : j = k
  · subst hj
    simpa [Array.getD_eq_getD_getElem?, hk] using ha
  · have : (tmps.setIfInBounds k v).getD j undef = tmps.getD j undef := by
      simp [Array.getD_eq_getD_getElem?, Array.getElem?_setIfInBounds, Ne.symm hj]
    rw [this, if_neg hj]
    exact h j
theorem SlotsR.mono {M M' : Imm} {ψ ψ' : Psi} {S : Slots} {tmps : Array Value} (h : SlotsR M ψ S tmps) (hM : M.le M') (hψ : ψ.le ψ') : SlotsR M' ψ' S tmps := fun k => Rep.mono hM _ hψ (h k)
def evA (S : Slots) : Operand → AV
  | .tmp t => lookS S t
  | .const x => AV.ofV x
  | .global g => .v (.pointer (some ⟨g, 0, none⟩))
  | .func f => .fn f []
theorem Rep.evA {M : Imm} {ψ : Psi} {S : Slots} {a : Act} (h : SlotsR M ψ S a.tmps) (x : Operand) : Rep M ψ (Eng.evA S x) (a.eval x) := by
  cases x with
  | tmp t => exact h.look t
  | const c => exact Rep.ofV M ψ c
  | global g => simp only [Eng.evA, Act.eval, Rep]
  | func f => simp only [Eng.evA, Act.eval, Rep]; exact ⟨[], rfl, by simp only [RepL]⟩
def sEq (x y : ByteArray) : Bool := x.toList == y.toList
def sLt (x y : ByteArray) : Bool := Op.bytesLess x.toList y.toList
def fieldEq (d : Option TD) (x y : AV) : Option Bool :=
  match d, x, y with
  | some ⟨.int _, _, _, _⟩, .v (.int k a), .v (.int j b) => if k = j then some (a == b) else none
  | some ⟨.bool, _, _, _⟩, .v (.bool a), .v (.bool b) => some (a == b)
  | some ⟨.str, _, _, _⟩, .v (.string a), .v (.string b) => some (sEq a b)
  | _, _, _ => none
def fieldsEq (D : Types) : Nat → List (Nat × TypeId) → List AV → List AV → Option Bool
  | _, [], [], [] => some true
  | n, (o, t) :: r, x :: xs, y :: ys => if o = n then
      match fieldEq (D t) x y, fieldsEq D (n + 1) r xs ys with
      | some p, some q => some (p && q)
      | _, _ => none
    else none
  | _, _, _, _ => none
def evBin (D : Types) (op : BinOp) (t : TypeId) (x y : AV) : Option (Prop × AV) :=
  match x, y with
  | .v (.int k a), .v (.int j b) =>
    match op with
    | .shl => some (0 ≤ b, .v (.int k (k.wrap (a * 2 ^ (min b.toNat k.bits)))))
    | .shr => some (0 ≤ b, .v (.int k (a.fdiv (2 ^ (min b.toNat k.bits)))))
    | _ =>
      if k = j then
        match op with
        | .add => some (True, .v (.int k (k.wrap (a + b))))
        | .sub => some (True, .v (.int k (k.wrap (a - b))))
        | .mul => some (True, .v (.int k (k.wrap (a * b))))
        | .quo => some (b ≠ 0, .v (.int k (k.wrap (a.tdiv b))))
        | .rem => some (b ≠ 0, .v (.int k (a.tmod b)))
        | .and => some (True, .v (.int k (k.wrap ((BitVec.ofInt k.bits a &&& BitVec.ofInt k.bits b).toNat))))
        | .or => some (True, .v (.int k (k.wrap ((BitVec.ofInt k.bits a ||| BitVec.ofInt k.bits b).toNat))))
        | .xor => some (True, .v (.int k (k.wrap ((BitVec.ofInt k.bits a ^^^ BitVec.ofInt k.bits b).toNat))))
        | .andNot => some (True, .v (.int k (k.wrap ((BitVec.ofInt k.bits a &&& ~~~ BitVec.ofInt k.bits b).toNat))))
        | .eql => some (True, .v (.bool (a == b)))
        | .neq => some (True, .v (.bool (!(a == b))))
        | .lss => some (True, .v (.bool (decide (a < b))))
        | .leq => some (True, .v (.bool (decide (a ≤ b))))
        | .gtr => some (True, .v (.bool (decide (b < a))))
        | .geq => some (True, .v (.bool (decide (b ≤ a))))
        | _ => none
      else none
  | .v (.string a), .v (.string b) =>
    match op with
    | .add => some (a.size + b.size ≤ 9223372036854775807, .v (.string (a ++ b)))
    | .eql => some (True, .v (.bool (sEq a b)))
    | .neq => some (True, .v (.bool (!sEq a b)))
    | .lss => some (True, .v (.bool (sLt a b)))
    | .leq => some (True, .v (.bool (sLt a b || sEq a b)))
    | .gtr => some (True, .v (.bool (!(sLt a b || sEq a b))))
    | .geq => some (True, .v (.bool (!sLt a b)))
    | _ => none
  | .v (.float k a), .v (.float j b) =>
    if k = j then
      match op with
      | .eql => some (True, .v (.bool (k.format.order a b == some .eq)))
      | .neq => some (True, .v (.bool (k.format.order a b != some .eq)))
      | _ => none
    else none
  | .v (.bool a), .v (.bool b) =>
    match D t with
    | some ⟨.bool, _, _, _⟩ =>
      match op with
      | .eql => some (True, .v (.bool (a == b)))
      | .neq => some (True, .v (.bool (!(a == b))))
      | _ => none
    | _ => none
  | .fn _ _, .v .nilFunc =>
    match D t with
    | some ⟨.func, _, _, _⟩ =>
      match op with
      | .eql => some (True, .v (.bool false))
      | .neq => some (True, .v (.bool true))
      | _ => none
    | _ => none
  | .v .nilFunc, .v .nilFunc =>
    match D t with
    | some ⟨.func, _, _, _⟩ =>
      match op with
      | .eql => some (True, .v (.bool true))
      | .neq => some (True, .v (.bool false))
      | _ => none
    | _ => none
  | .agg xs, .agg ys =>
    match D t with
    | some ⟨.struct fs true, _, _, _⟩ =>
      match fieldsEq D 0 fs xs ys, op with
      | some r, .eql => some (True, .v (.bool r))
      | some r, .neq => some (True, .v (.bool (!r)))
      | _, _ => none
    | _ => none
  | _, _ => none
end Go.Eng
