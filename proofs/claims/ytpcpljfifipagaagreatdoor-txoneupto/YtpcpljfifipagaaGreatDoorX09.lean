/- A part of the proof: the engine that walks Go code, the walks of the broker, or their laws (TvDat2). -/
import Derived.Test.YtpcpljfifipagaaGreatDoorX06
import Derived.Test.YtpcpljfifipagaaGreatDoorX08
set_option linter.unusedSimpArgs false
set_option linter.unusedVariables false
namespace Go.Tv
open Go.Eng
theorem noLL_app (a b : List AV) : AV.noLL (a ++ b) = (AV.noLL a && AV.noLL b) := by
  induction a with
  | nil => simp [AV.noLL]
  | cons c a ih => simp [AV.noLL, ih, Bool.and_assoc]
theorem killL_app (k : Nat) (a b : List AV) : AV.killL k (a ++ b) = AV.killL k a ++ AV.killL k b := by
  induction a with
  | nil => simp [AV.killL]
  | cons c a ih => simp [AV.killL, ih]
theorem renL_app (f : Eng.Loc → Option Eng.Loc) (a b : List AV) : AV.renL f (a ++ b) = AV.renL f a ++ AV.renL f b := by
  induction a with
  | nil => simp [AV.renL]
  | cons c a ih => simp [AV.renL, ih]
theorem noLL_flat {α : Type} {enc : α → List AV} (h : ∀ x, AV.noLL (enc x) = true) (xs : List α) : AV.noLL (xs.flatMap enc) = true := by
  induction xs with
  | nil => rfl
  | cons x xs ih => simp [List.flatMap_cons, noLL_app, h, ih]
theorem killL_flat {α : Type} {enc : α → List AV} {k : Nat} (h : ∀ x, AV.killL k (enc x) = enc x) (xs : List α) : AV.killL k (xs.flatMap enc) = xs.flatMap enc := by
  induction xs with
  | nil => rfl
  | cons x xs ih => simp [List.flatMap_cons, killL_app, h, ih]
theorem renL_flat {α : Type} {enc : α → List AV} {f : Eng.Loc → Option Eng.Loc} (h : ∀ x, AV.renL f (enc x) = enc x) (xs : List α) : AV.renL f (xs.flatMap enc) = xs.flatMap enc := by
  induction xs with
  | nil => rfl
  | cons x xs ih => simp [List.flatMap_cons, renL_app, h, ih]
theorem len_Pro (x : Pro) : (Pro.enc x).length = 5 := rfl
theorem flen_Pro (xs : List Pro) : (xs.flatMap Pro.enc).length = xs.length * 5 := flat_len len_Pro xs
theorem noLL_Pro (x : Pro) : AV.noLL (Pro.enc x) = true := rfl
theorem noLLf_Pro (xs : List Pro) : AV.noLL (xs.flatMap Pro.enc) = true := noLL_flat noLL_Pro xs
theorem kill_Pro (k : Nat) (x : Pro) : AV.killL k (Pro.enc x) = Pro.enc x := rfl
theorem killf_Pro (k : Nat) (xs : List Pro) : AV.killL k (xs.flatMap Pro.enc) = xs.flatMap Pro.enc := killL_flat (kill_Pro k) xs
theorem at_Pro (xs : List Pro) {i : Nat} {x : Pro} (h : xs[i]? = some x) : ((xs.flatMap Pro.enc).drop (i * 5)).take 5 = Pro.enc x := flat_at len_Pro xs h
theorem len_Num (x : Int) : (Num.enc x).length = 1 := rfl
theorem flen_Num (xs : List Int) : (xs.flatMap Num.enc).length = xs.length * 1 := flat_len len_Num xs
theorem noLL_Num (x : Int) : AV.noLL (Num.enc x) = true := rfl
theorem noLLf_Num (xs : List Int) : AV.noLL (xs.flatMap Num.enc) = true := noLL_flat noLL_Num xs
theorem kill_Num (k : Nat) (x : Int) : AV.killL k (Num.enc x) = Num.enc x := rfl
theorem killf_Num (k : Nat) (xs : List Int) : AV.killL k (xs.flatMap Num.enc) = xs.flatMap Num.enc := killL_flat (kill_Num k) xs
theorem at_Num (xs : List Int) {i : Nat} {x : Int} (h : xs[i]? = some x) : ((xs.flatMap Num.enc).drop (i * 1)).take 1 = Num.enc x := flat_at len_Num xs h
theorem len_Str (x : ByteArray) : (Str.enc x).length = 1 := rfl
theorem flen_Str (xs : List ByteArray) : (xs.flatMap Str.enc).length = xs.length * 1 := flat_len len_Str xs
theorem noLL_Str (x : ByteArray) : AV.noLL (Str.enc x) = true := rfl
theorem noLLf_Str (xs : List ByteArray) : AV.noLL (xs.flatMap Str.enc) = true := noLL_flat noLL_Str xs
theorem kill_Str (k : Nat) (x : ByteArray) : AV.killL k (Str.enc x) = Str.enc x := rfl
theorem killf_Str (k : Nat) (xs : List ByteArray) : AV.killL k (xs.flatMap Str.enc) = xs.flatMap Str.enc := killL_flat (kill_Str k) xs
theorem at_Str (xs : List ByteArray) {i : Nat} {x : ByteArray} (h : xs[i]? = some x) : ((xs.flatMap Str.enc).drop (i * 1)).take 1 = Str.enc x := flat_at len_Str xs h
theorem len_Queue (x : Queue) : (Queue.enc x).length = 7 := rfl
theorem flen_Queue (xs : List Queue) : (xs.flatMap Queue.enc).length = xs.length * 7 := flat_len len_Queue xs
theorem noLL_Queue (x : Queue) : AV.noLL (Queue.enc x) = true := rfl
theorem noLLf_Queue (xs : List Queue) : AV.noLL (xs.flatMap Queue.enc) = true := noLL_flat noLL_Queue xs
theorem kill_Queue (k : Nat) (x : Queue) : AV.killL k (Queue.enc x) = Queue.enc x := rfl
theorem killf_Queue (k : Nat) (xs : List Queue) : AV.killL k (xs.flatMap Queue.enc) = xs.flatMap Queue.enc := killL_flat (kill_Queue k) xs
theorem at_Queue (xs : List Queue) {i : Nat} {x : Queue} (h : xs[i]? = some x) : ((xs.flatMap Queue.enc).drop (i * 7)).take 7 = Queue.enc x := flat_at len_Queue xs h
theorem len_Bind (x : Bind) : (Bind.enc x).length = 2 := rfl
theorem flen_Bind (xs : List Bind) : (xs.flatMap Bind.enc).length = xs.length * 2 := flat_len len_Bind xs
theorem noLL_Bind (x : Bind) : AV.noLL (Bind.enc x) = true := rfl
theorem noLLf_Bind (xs : List Bind) : AV.noLL (xs.flatMap Bind.enc) = true := noLL_flat noLL_Bind xs
theorem kill_Bind (k : Nat) (x : Bind) : AV.killL k (Bind.enc x) = Bind.enc x := rfl
theorem killf_Bind (k : Nat) (xs : List Bind) : AV.killL k (xs.flatMap Bind.enc) = xs.flatMap Bind.enc := killL_flat (kill_Bind k) xs
theorem at_Bind (xs : List Bind) {i : Nat} {x : Bind} (h : xs[i]? = some x) : ((xs.flatMap Bind.enc).drop (i * 2)).take 2 = Bind.enc x := flat_at len_Bind xs h
theorem len_Sub (x : Sub) : (Sub.enc x).length = 5 := rfl
theorem flen_Sub (xs : List Sub) : (xs.flatMap Sub.enc).length = xs.length * 5 := flat_len len_Sub xs
theorem noLL_Sub (x : Sub) : AV.noLL (Sub.enc x) = true := rfl
theorem noLLf_Sub (xs : List Sub) : AV.noLL (xs.flatMap Sub.enc) = true := noLL_flat noLL_Sub xs
theorem kill_Sub (k : Nat) (x : Sub) : AV.killL k (Sub.enc x) = Sub.enc x := rfl
theorem killf_Sub (k : Nat) (xs : List Sub) : AV.killL k (xs.flatMap Sub.enc) = xs.flatMap Sub.enc := killL_flat (kill_Sub k) xs
theorem at_Sub (xs : List Sub) {i : Nat} {x : Sub} (h : xs[i]? = some x) : ((xs.flatMap Sub.enc).drop (i * 5)).take 5 = Sub.enc x := flat_at len_Sub xs h
theorem len_Msg (x : Msg) : (Msg.enc x).length = 5 := rfl
theorem flen_Msg (xs : List Msg) : (xs.flatMap Msg.enc).length = xs.length * 5 := flat_len len_Msg xs
theorem noLL_Msg (x : Msg) : AV.noLL (Msg.enc x) = true := rfl
theorem noLLf_Msg (xs : List Msg) : AV.noLL (xs.flatMap Msg.enc) = true := noLL_flat noLL_Msg xs
theorem kill_Msg (k : Nat) (x : Msg) : AV.killL k (Msg.enc x) = Msg.enc x := rfl
theorem killf_Msg (k : Nat) (xs : List Msg) : AV.killL k (xs.flatMap Msg.enc) = xs.flatMap Msg.enc := killL_flat (kill_Msg k) xs
theorem at_Msg (xs : List Msg) {i : Nat} {x : Msg} (h : xs[i]? = some x) : ((xs.flatMap Msg.enc).drop (i * 5)).take 5 = Msg.enc x := flat_at len_Msg xs h
theorem len_Client (x : Client) : (Client.enc x).length = 2 := rfl
theorem flen_Client (xs : List Client) : (xs.flatMap Client.enc).length = xs.length * 2 := flat_len len_Client xs
theorem noLL_Client (x : Client) : AV.noLL (Client.enc x) = true := rfl
theorem noLLf_Client (xs : List Client) : AV.noLL (xs.flatMap Client.enc) = true := noLL_flat noLL_Client xs
theorem kill_Client (k : Nat) (x : Client) : AV.killL k (Client.enc x) = Client.enc x := rfl
theorem killf_Client (k : Nat) (xs : List Client) : AV.killL k (xs.flatMap Client.enc) = xs.flatMap Client.enc := killL_flat (kill_Client k) xs
theorem at_Client (xs : List Client) {i : Nat} {x : Client} (h : xs[i]? = some x) : ((xs.flatMap Client.enc).drop (i * 2)).take 2 = Client.enc x := flat_at len_Client xs h
theorem len_Itm (x : Itm) : (Itm.enc x).length = 7 := rfl
theorem flen_Itm (xs : List Itm) : (xs.flatMap Itm.enc).length = xs.length * 7 := flat_len len_Itm xs
theorem noLL_Itm (x : Itm) : AV.noLL (Itm.enc x) = true := rfl
theorem noLLf_Itm (xs : List Itm) : AV.noLL (xs.flatMap Itm.enc) = true := noLL_flat noLL_Itm xs
theorem kill_Itm (k : Nat) (x : Itm) : AV.killL k (Itm.enc x) = Itm.enc x := rfl
theorem killf_Itm (k : Nat) (xs : List Itm) : AV.killL k (xs.flatMap Itm.enc) = xs.flatMap Itm.enc := killL_flat (kill_Itm k) xs
theorem ren_Itm (f : Eng.Loc → Option Eng.Loc) (x : Itm) : AV.renL f (Itm.enc x) = Itm.enc x := rfl
theorem renf_Itm (f : Eng.Loc → Option Eng.Loc) (xs : List Itm) : AV.renL f (xs.flatMap Itm.enc) = xs.flatMap Itm.enc := renL_flat (ren_Itm f) xs
theorem frz_Itm (k : Nat) (cs : List AV) (x : Itm) : frzC (Itm.enc x) k cs = Itm.enc x := rfl
theorem at_Itm (xs : List Itm) {i : Nat} {x : Itm} (h : xs[i]? = some x) : ((xs.flatMap Itm.enc).drop (i * 7)).take 7 = Itm.enc x := flat_at len_Itm xs h
theorem len_Hold (x : Hold) : (Hold.enc x).length = 10 := rfl
theorem flen_Hold (xs : List Hold) : (xs.flatMap Hold.enc).length = xs.length * 10 := flat_len len_Hold xs
theorem noLL_Hold (x : Hold) : AV.noLL (Hold.enc x) = true := rfl
theorem noLLf_Hold (xs : List Hold) : AV.noLL (xs.flatMap Hold.enc) = true := noLL_flat noLL_Hold xs
theorem kill_Hold (k : Nat) (x : Hold) : AV.killL k (Hold.enc x) = Hold.enc x := rfl
theorem killf_Hold (k : Nat) (xs : List Hold) : AV.killL k (xs.flatMap Hold.enc) = xs.flatMap Hold.enc := killL_flat (kill_Hold k) xs
theorem ren_Hold (f : Eng.Loc → Option Eng.Loc) (x : Hold) : AV.renL f (Hold.enc x) = Hold.enc x := rfl
theorem renf_Hold (f : Eng.Loc → Option Eng.Loc) (xs : List Hold) : AV.renL f (xs.flatMap Hold.enc) = xs.flatMap Hold.enc := renL_flat (ren_Hold f) xs
theorem at_Hold (xs : List Hold) {i : Nat} {x : Hold} (h : xs[i]? = some x) : ((xs.flatMap Hold.enc).drop (i * 10)).take 10 = Hold.enc x := flat_at len_Hold xs h
theorem len_Oper (x : Oper) : (Oper.enc x).length = 14 := rfl
theorem flen_Oper (xs : List Oper) : (xs.flatMap Oper.enc).length = xs.length * 14 := flat_len len_Oper xs
theorem noLL_Oper (x : Oper) : AV.noLL (Oper.enc x) = true := rfl
theorem noLLf_Oper (xs : List Oper) : AV.noLL (xs.flatMap Oper.enc) = true := noLL_flat noLL_Oper xs
theorem kill_Oper (k : Nat) (x : Oper) : AV.killL k (Oper.enc x) = Oper.enc x := rfl
theorem killf_Oper (k : Nat) (xs : List Oper) : AV.killL k (xs.flatMap Oper.enc) = xs.flatMap Oper.enc := killL_flat (kill_Oper k) xs
theorem at_Oper (xs : List Oper) {i : Nat} {x : Oper} (h : xs[i]? = some x) : ((xs.flatMap Oper.enc).drop (i * 14)).take 14 = Oper.enc x := flat_at len_Oper xs h
theorem len_Out (x : Out) : (Out.enc x).length = 11 := rfl
theorem flen_Out (xs : List Out) : (xs.flatMap Out.enc).length = xs.length * 11 := flat_len len_Out xs
theorem noLL_Out (x : Out) : AV.noLL (Out.enc x) = true := rfl
theorem noLLf_Out (xs : List Out) : AV.noLL (xs.flatMap Out.enc) = true := noLL_flat noLL_Out xs
theorem kill_Out (k : Nat) (x : Out) : AV.killL k (Out.enc x) = Out.enc x := rfl
theorem killf_Out (k : Nat) (xs : List Out) : AV.killL k (xs.flatMap Out.enc) = xs.flatMap Out.enc := killL_flat (kill_Out k) xs
theorem at_Out (xs : List Out) {i : Nat} {x : Out} (h : xs[i]? = some x) : ((xs.flatMap Out.enc).drop (i * 11)).take 11 = Out.enc x := flat_at len_Out xs h
theorem len_Core (x : Core) : (Core.enc x).length = 6 := rfl
theorem flen_Core (xs : List Core) : (xs.flatMap Core.enc).length = xs.length * 6 := flat_len len_Core xs
theorem noLL_Core (x : Core) : AV.noLL (Core.enc x) = true := rfl
theorem noLLf_Core (xs : List Core) : AV.noLL (xs.flatMap Core.enc) = true := noLL_flat noLL_Core xs
theorem kill_Core (k : Nat) (x : Core) : AV.killL k (Core.enc x) = Core.enc x := rfl
theorem killf_Core (k : Nat) (xs : List Core) : AV.killL k (xs.flatMap Core.enc) = xs.flatMap Core.enc := killL_flat (kill_Core k) xs
end Go.Tv
