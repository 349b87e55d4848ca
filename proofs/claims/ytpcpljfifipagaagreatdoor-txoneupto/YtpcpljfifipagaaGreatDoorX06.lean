/- A part of the proof: the engine that walks Go code, the walks of the broker, or their laws (TvDat). -/
import Derived.Test.YtpcpljfifipagaaGreatDoorX05
set_option linter.unusedSimpArgs false
set_option linter.unusedVariables false
namespace Go.Tv
open Go.Eng
structure Val where
  kind : Int
  num : Int
  text : ByteArray
  real : Nat
structure Pro where
  name : ByteArray
  val : Val
structure Msg where
  topic : ByteArray
  body : ByteArray
  props : List Pro
  durable : Bool
  til : Int
structure Itm where
  seq : Int
  again : Bool
  msg : Msg
structure Hold where
  tag : Int
  conn : Int
  sub : Int
  item : Itm
structure Queue where
  name : ByteArray
  durable : Bool
  depth : Int
  seq : Int
  tag : Int
  items : List Itm
  held : List Hold
structure Bind where
  queue : ByteArray
  pattern : ByteArray
structure Sub where
  conn : Int
  sub : Int
  queue : ByteArray
  window : Int
  auto : Bool
structure Client where
  name : ByteArray
  packets : List Int
structure Core where
  now : Int
  queues : List Queue
  binds : List Bind
  subs : List Sub
  kept : List Msg
  clients : List Client
structure Oper where
  kind : Int
  conn : Int
  sub : Int
  n : Int
  queue : ByteArray
  text : ByteArray
  durable : Bool
  auto : Bool
  keep : Bool
  msg : Msg
structure Out where
  conn : Int
  sub : Int
  tag : Int
  queue : ByteArray
  again : Bool
  kept : Bool
  msg : Msg
@[reducible] def aint (n : Int) : AV := .v (.int .i64 n)
@[reducible] def abool (b : Bool) : AV := .v (.bool b)
@[reducible] def astr (s : ByteArray) : AV := .v (.string s)
@[reducible] def asl {α : Type} (enc : α → List AV) (xs : List α) : AV := .sl xs.length (xs.flatMap enc)
def Val.enc (v : Val) : List AV := [aint v.kind, aint v.num, astr v.text, .v (.float .f64 v.real)]
def Pro.enc (p : Pro) : List AV := astr p.name :: p.val.enc
def Msg.enc (m : Msg) : List AV := [astr m.topic, astr m.body, asl Pro.enc m.props, abool m.durable, aint m.til]
def Itm.enc (x : Itm) : List AV := aint x.seq :: abool x.again :: x.msg.enc
def Hold.enc (h : Hold) : List AV := aint h.tag :: aint h.conn :: aint h.sub :: h.item.enc
def Queue.enc (q : Queue) : List AV := [astr q.name, abool q.durable, aint q.depth, aint q.seq, aint q.tag, asl Itm.enc q.items, asl Hold.enc q.held]
def Bind.enc (b : Bind) : List AV := [astr b.queue, astr b.pattern]
def Sub.enc (s : Sub) : List AV := [aint s.conn, aint s.sub, astr s.queue, aint s.window, abool s.auto]
def Num.enc (n : Int) : List AV := [aint n]
def Str.enc (s : ByteArray) : List AV := [astr s]
def Client.enc (k : Client) : List AV := [astr k.name, asl Num.enc k.packets]
def Core.enc (c : Core) : List AV := [aint c.now, asl Queue.enc c.queues, asl Bind.enc c.binds, asl Sub.enc c.subs, asl Msg.enc c.kept, asl Client.enc c.clients]
def Oper.enc (o : Oper) : List AV := aint o.kind :: aint o.conn :: aint o.sub :: aint o.n :: astr o.queue :: astr o.text :: abool o.durable :: abool o.auto :: abool o.keep :: o.msg.enc
def Out.enc (o : Out) : List AV := aint o.conn :: aint o.sub :: aint o.tag :: astr o.queue :: abool o.again :: abool o.kept :: o.msg.enc
theorem flat_len {α : Type} {enc : α → List AV} {k : Nat} (h : ∀ x, (enc x).length = k) (xs : List α) : (xs.flatMap enc).length = xs.length * k := by
  induction xs with
  | nil => simp
  | cons x xs ih => simp [h, ih, Nat.add_mul, Nat.add_comm]
theorem flat_drop {α : Type} {enc : α → List AV} {k : Nat} (h : ∀ x, (enc x).length = k) (xs : List α) (i : Nat) : (xs.flatMap enc).drop (i * k) = (xs.drop i).flatMap enc := by
  induction xs generalizing i with
  | nil => simp
  | cons x xs ih =>
    cases i with
    | zero => simp
    | succ i =>
      simp only [List.flatMap_cons, List.drop_succ_cons]
      rw [List.drop_append, h, ← ih i]
      have : (enc x).drop ((i + 1) * k) = [] := List.drop_eq_nil_of_le (by rw [h, Nat.add_mul]; omega)
      rw [this, List.nil_append, show (i + 1) * k - k = i * k from by rw [Nat.add_mul]; omega]
theorem flat_take {α : Type} {enc : α → List AV} {k : Nat} (h : ∀ x, (enc x).length = k) (xs : List α) (i : Nat) : (xs.flatMap enc).take (i * k) = (xs.take i).flatMap enc := by
  induction xs generalizing i with
  | nil => simp
  | cons x xs ih =>
    cases i with
    | zero => simp
    | succ i =>
      simp only [List.flatMap_cons, List.take_succ_cons]
      rw [List.take_append, h, ← ih i]
      have : (enc x).take ((i + 1) * k) = enc x := List.take_of_length_le (by rw [h, Nat.add_mul]; omega)
      rw [this, show (i + 1) * k - k = i * k from by rw [Nat.add_mul]; omega]
theorem flat_at {α : Type} {enc : α → List AV} {k : Nat} (h : ∀ x, (enc x).length = k) (xs : List α) {i : Nat} {x : α} (hi : xs[i]? = some x) : ((xs.flatMap enc).drop (i * k)).take k = enc x := by
  rw [flat_drop h]
  have : xs.drop i = x :: xs.drop (i + 1) := by
    have hlt : i < xs.length := by
      rcases Nat.lt_or_ge i xs.length with h' | h'
      · exact h'
      · rw [List.getElem?_eq_none h'] at hi; cases hi
    rw [List.drop_eq_getElem_cons hlt]
    rw [List.getElem?_eq_getElem hlt] at hi
    cases hi
    rfl
  rw [this, List.flatMap_cons, List.take_append_of_le_length (by rw [h]; exact Nat.le_refl _), List.take_of_length_le (by rw [h]; exact Nat.le_refl _)]
theorem noL_asl {α : Type} (enc : α → List AV) (xs : List α) : AV.noL (asl enc xs) = true := rfl
theorem w64 {n : Int} (h1 : -9223372036854775808 ≤ n) (h2 : n ≤ 9223372036854775807) : IntKind.i64.wrap n = n := by
  rw [IntKind.wrap_i64]; omega
end Go.Tv
