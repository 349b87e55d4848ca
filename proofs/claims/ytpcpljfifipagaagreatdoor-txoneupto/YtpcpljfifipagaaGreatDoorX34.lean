/- A part of the proof: the engine that walks Go code, the walks of the broker, or their laws (Ve). -/
import Derived.Test.YtpcpljfifipagaaGreatDoorX29
import Derived.Test.YtpcpljfifipagaaGreatDoorX33
import Derived.Test.YtpcpljfifipagaaGreatDoorX14
set_option linter.unusedSimpArgs false
set_option linter.unusedVariables false
set_option maxHeartbeats 8000000
set_option maxRecDepth 20000
namespace Go.Proofs.YtpcpljfifipagaaGreatDoor
open Go.Eng Go.Tv Go.ChangeShapes Go.WideShapes Go.ChangeAt Go.RowKit
namespace txOne
def opV : Value := .agg #[.int .i64 0, .int .i64 0, .int .i64 0, .int .i64 0, .string ⟨#[]⟩, .string ⟨#[]⟩, .bool false, .bool false, .bool false, .string ⟨#[]⟩, .string ⟨#[]⟩, .slice none 0 0, .bool false, .int .i64 0]
def opD {H : Type} : DataW H := .agg [.lit (.int .i64 0), .lit (.int .i64 0), .lit (.int .i64 0), .lit (.int .i64 0), .lit (.string []), .lit (.string []), .lit (.bool false), .lit (.bool false), .lit (.bool false), .agg [.lit (.string []), .lit (.string []), .nil, .lit (.bool false), .lit (.int .i64 0)]]
theorem reads (os : Os) {H : Type} (enc : TypeId × Value → H) : ∃ places, DataW.whole enc Tryz.prog ((laidWorld os).forCall (fun _ _ => 0) ⟨#[], #[.slice none 0 0, opV], []⟩).memory Tryz.f9.params.toList Rows.txOneSpec.vars false #[Value.slice none 0 0, opV].toList 8 = some ([.nil, opD], [], places) :=
  ⟨[], by kernel_rfl⟩
theorem contract (H : Type) (enc : TypeId × Value → H) (W : World) (base : Nat) (args : Array Value) (ds gs : List (DataW H)) (before : List MemPlace)
    (hval : ∀ (j : Nat) t v, Tryz.f9.params[j]? = some t → args[j]? = some v → Value.okWide Tryz.prog W .any base t v)
    (hW : DataW.Whole enc Tryz.prog Tryz.f9.params.toList Rows.txOneSpec.vars false W args.toList ds gs before) (hk : Rows.uptoSmall H (ds ++ gs) = true) :
    Calls Tryz.prog 9 args W fun e W' => ∃ v, e = .returned v ∧ Rows.txOneSpec.post enc Tryz.prog Tryz.f9 false true false false W args v W' := by
  have hW' := hW
  have hlt := hW.lt
  obtain ⟨p, q, hA0, hV, rfl, hfz, hnd⟩ := hW
  have hA : DataW.TrodAll enc Tryz.prog W 0 (fun _ => true) true Tryz.f9.params.toList args.toList ds p := hA0
  rw [Tryz.params9] at hA hval
  obtain ⟨v0, vs0, d0, ds0, p0, q0, hargs, rfl, rfl, h0, r0⟩ := trodAll_cons hA
  obtain ⟨v1, vs1, d1, ds1, p1, q1, rfl, rfl, rfl, h1, r1⟩ := trodAll_cons r0
  obtain ⟨rfl, rfl, rfl⟩ := trodAll_nil r1
  obtain rfl : args = #[v0, v1] := by cases args; simp_all
  obtain ⟨rfl, rfl⟩ := trodVars_none hV
  have hb := small_all hk
  have hb0 : Rows.uptoBulk d0 ≤ bulkMax := hb d0 (by simp)
  have hb1 : Rows.uptoBulk d1 ≤ bulkMax := hb d1 (by simp)
  have w0 := hval 0 22 v0 (by simp) (by simp)
  have w1 := hval 1 35 v1 (by simp) (by simp)
  have e0 : ∀ cs, v0 ≠ .agg cs := val_slice (P := Tryz.prog) (W := W) (t := 22) (base := base) Tryz.underlying22 w0
  have e1 : ∃ cs, v1 = .agg cs := val_struct (P := Tryz.prog) (W := W) (t := 35) (base := base) Tryz.underlying35 w1
  obtain ⟨script, s1, s2⟩ := arg_slice dec_Opers e0 h0
  obtain ⟨o, o1, o2⟩ := arg_struct dec_Oper e1 h1
  have hr : RepL (immW W) noψ [asl Oper.enc script, .agg o.enc] [v0, v1] := by
    simp only [RepL]
    exact ⟨_, _, rfl, s1, _, _, rfl, o1, rfl⟩
  refine (calls_true Tryz.func9 rfl (by decide) (txOne_fun script o (s2 hb0).2 (o2 hb1)) hr).mono ?_
  rintro e W' ⟨rfl, hst⟩
  refine ⟨_, rfl, _, _, _, [], p0 ++ (p1 ++ []), [], hW', ?_, ?_, ?_, hst.kept _, fun h => by cases h⟩
  · exact trodAll_mk1 (shut_bool Tryz.underlying4 _)
  · exact all_stays (sp := fun b => decide (b < W.heap.size)) laidOut (by decide +kernel) hA0 (fun p hp => hst.same (hlt p (List.mem_append_left _ hp))) (fun p hp => by simpa using hlt p (List.mem_append_left _ hp))
  · exact hV
theorem lifted (os : Os) (started : os.Started) (H : Type) (enc : TypeId × Value → H) (F : Stop.Interp) :
    ReturnsInHanded {} Tryz.checked os 9 .any ((Rows.OpenSpec.upto Rows.txOneSpec).preRow enc Tryz.prog Tryz.f9 Rows.txOneUptoRow.domain false Rows.txOneUptoRow.laid) (((Rows.OpenSpec.upto Rows.txOneSpec).at F).post enc Tryz.prog Tryz.f9 false true false false) := by
  obtain ⟨places, hx⟩ := reads os enc
  refine returnsInHanded_of_row (C := Tryz.checked) (s := Rows.OpenSpec.upto Rows.txOneSpec) own started (by kernel_rfl) Tryz.func9
    (witness_row_at (enc := enc) (C := Tryz.checked) false (laidWorld os) #[.slice none 0 0, opV] rfl (by kernel_rfl) (by kernel_rfl) (by kernel_rfl)
      (OpenSpec.preRow_of_cond 8 hx (by kernel_rfl) (fun k hk => by cases hk; kernel_rfl) (by kernel_rfl) (laid_met os _))) ?_
  intro W base args ds gs before hval hW _ hcond _ _ _ _
  exact contract H enc W base args ds gs before hval hW (hcond _ rfl)
theorem plain (f : FuncId) (fn : Func) (hf : Tryz.pinned.checked.prog.funcNamed "trivet/trivetlaw12.TxOne" = some f) (hfn : Tryz.pinned.checked.prog.funcs[f]? = some fn) :
    true = Tryz.pinned.checked.prog.looks [] ∧ ∀ (j : Nat) t, fn.params[j]? = some t → Tryz.pinned.checked.prog.wantsStandIn t = false := by
  obtain rfl : f = 9 := Option.some.inj ((show Tryz.prog.funcNamed "trivet/trivetlaw12.TxOne" = some 9 by kernel_rfl).symm.trans hf) |>.symm
  obtain rfl : fn = Tryz.f9 := (Option.some.inj (Tryz.func9.symm.trans hfn)).symm
  refine ⟨by kernel_rfl, fun j t ht => ?_⟩
  rw [Tryz.params9] at ht
  have ht := Array.mem_of_getElem? ht
  simp at ht
  rcases ht with rfl | rfl
  · exact (show Tryz.prog.wantsStandIn 22 = false by kernel_rfl)
  · exact (show Tryz.prog.wantsStandIn 35 = false by kernel_rfl)
end txOne
end Go.Proofs.YtpcpljfifipagaaGreatDoor
