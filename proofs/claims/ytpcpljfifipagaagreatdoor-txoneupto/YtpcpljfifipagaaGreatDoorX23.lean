/- A part of the proof: the engine that walks Go code, the walks of the broker, or their laws (Tt). -/
import Derived.Test.YtpcpljfifipagaaGreatDoorX22
import Derived.Test.YtpcpljfifipagaaGreatDoorX14
set_option linter.unusedSimpArgs false
set_option linter.unusedVariables false
set_option maxHeartbeats 8000000
set_option maxRecDepth 20000
namespace Go.Proofs.YtpcpljfifipagaaGreatDoor
open Go.Eng Go.Tv
attribute [local simp] plainOp renSf renLf AV.ren AV.renL escF adoptF AS.esc AS.adopt AS.frz frzS frzL frzC AV.frz Heap.put D_36 D_42 D_33 D_50 D_77 D_37 D_24 D_25 D_26 D_27 D_28 D_87 D_30 D_54 D_46 D_89 D_105 D_103 D_102 D_108 D_110 D_112 D_114 D_116 D_118 D_121 D_124 D_52 D_131 D_130 D_128
attribute [local simp ↓] evTsR evQsh evQh
attribute [-simp] List.length_flatMap
theorem coreGood_fun (c : Core) (hc : CFit c) : PFun Tryz.prog 17 [.agg c.enc] (abool (coreGood c)) := by
  refine PFun.of_J D_ok Tryz.func17 rfl (by decide) (le' rfl) fun H E QF hF => ?_
  change J _ E 101 _ _ _
  refine J_seq' fun K1 hK1 => J1 1 ?_
  simp [Core.enc]
  refine hK1 _ (J_seq' fun K2 hK2 => ?_)
  refine J_bool 41 (coreHeadBad c) [1] ?_ ?_
  · refine J1 1 ?_
    rcases Int.lt_or_le c.now 0 with f1 | f1
    · simp (maxSteps := 5000000) [coreHeadBad, f1, show ¬ 0 ≤ c.now from by omega]
    rcases Int.lt_or_le 1099511627776 c.now with f2 | f2
    · simp (maxSteps := 5000000) [coreHeadBad, f1, show ¬ c.now < 0 from by omega, f2, show ¬ c.now ≤ 1099511627776 from by omega]
    rcases Nat.lt_or_ge 16 c.queues.length with f3 | f3
    · simp (maxSteps := 5000000) [coreHeadBad, f1, show ¬ c.now < 0 from by omega, f2, show ¬ 1099511627776 < c.now from by omega, f3, show 16 < ((c.queues.length : Nat) : Int) from by omega, show ¬ ((c.queues.length : Nat) : Int) ≤ 16 from by omega]
    rcases Nat.lt_or_ge 64 c.binds.length with f4 | f4
    · simp (maxSteps := 5000000) [coreHeadBad, f1, show ¬ c.now < 0 from by omega, f2, show ¬ 1099511627776 < c.now from by omega, show ¬ 16 < ((c.queues.length : Nat) : Int) from by omega, show ((c.queues.length : Nat) : Int) ≤ 16 from by omega, f4, show 64 < ((c.binds.length : Nat) : Int) from by omega, show ¬ ((c.binds.length : Nat) : Int) ≤ 64 from by omega]
    rcases Nat.lt_or_ge 32 c.subs.length with f5 | f5
    · simp (maxSteps := 5000000) [coreHeadBad, f1, show ¬ c.now < 0 from by omega, f2, show ¬ 1099511627776 < c.now from by omega, show ¬ 16 < ((c.queues.length : Nat) : Int) from by omega, show ((c.queues.length : Nat) : Int) ≤ 16 from by omega, show ¬ 64 < ((c.binds.length : Nat) : Int) from by omega, show ((c.binds.length : Nat) : Int) ≤ 64 from by omega, f5, show 32 < ((c.subs.length : Nat) : Int) from by omega, show ¬ ((c.subs.length : Nat) : Int) ≤ 32 from by omega]
    rcases Nat.lt_or_ge 16 c.kept.length with f6 | f6
    · simp (maxSteps := 5000000) [coreHeadBad, f1, show ¬ c.now < 0 from by omega, f2, show ¬ 1099511627776 < c.now from by omega, show ¬ 16 < ((c.queues.length : Nat) : Int) from by omega, show ((c.queues.length : Nat) : Int) ≤ 16 from by omega, show ¬ 64 < ((c.binds.length : Nat) : Int) from by omega, show ((c.binds.length : Nat) : Int) ≤ 64 from by omega, show ¬ 32 < ((c.subs.length : Nat) : Int) from by omega, show ((c.subs.length : Nat) : Int) ≤ 32 from by omega, f6, show 16 < ((c.kept.length : Nat) : Int) from by omega, show ¬ ((c.kept.length : Nat) : Int) ≤ 16 from by omega]
    · simp (maxSteps := 5000000) [coreHeadBad, f1, show ¬ c.now < 0 from by omega, f2, show ¬ 1099511627776 < c.now from by omega, show ¬ 16 < ((c.queues.length : Nat) : Int) from by omega, show ((c.queues.length : Nat) : Int) ≤ 16 from by omega, show ¬ 64 < ((c.binds.length : Nat) : Int) from by omega, show ((c.binds.length : Nat) : Int) ≤ 64 from by omega, show ¬ 32 < ((c.subs.length : Nat) : Int) from by omega, show ((c.subs.length : Nat) : Int) ≤ 32 from by omega, show ¬ 16 < ((c.kept.length : Nat) : Int) from by omega, show ((c.kept.length : Nat) : Int) ≤ 16 from by omega, show ¬ 16 < c.queues.length from by omega, show ¬ 64 < c.binds.length from by omega, show ¬ 32 < c.subs.length from by omega, show ¬ 16 < c.kept.length from by omega]
      try omega
  simp
  refine J_cond rfl (fun hd => ?_) fun hd => J_skip ?_
  · have hb : coreHeadBad c = true := by simpa using hd
    refine J_seq' fun K3 hK3 => J1 1 ?_
    simp
    refine hK3 _ (J_ret (hF _ _ ?_))
    simp [Tryz.f17, coreGood, hb]
  have hb : coreHeadBad c = false := by simpa using hd
  simp only [thenQ]
  refine hK2 _ (J_seq' fun K3 hK3 => ?_)
  refine J_bool 69 (coreUnsorted c) [1] ?_ ?_
  · refine J1 1 ?_
    simp (maxSteps := 5000000)
    refine PFun.call (ris_Queue c.queues hc.nq 54 [] rfl byNameQ (fun a _ b _ => byNameQ_fun a b)) ?_
    rcases Bool.eq_false_or_eq_true (rising byNameQ c.queues) with e1 | e1
    · simp [e1]
      refine PFun.call (ris_Bind c.binds hc.nb 57 [] rfl byBind (fun a _ b _ => byBind_fun a b)) ?_
      rcases Bool.eq_false_or_eq_true (rising byBind c.binds) with e2 | e2
      · simp [e2]
        refine PFun.call (ris_Sub c.subs hc.ns 59 [] rfl bySub (fun a _ b _ => bySub_fun a b)) ?_
        rcases Bool.eq_false_or_eq_true (rising bySub c.subs) with e3 | e3
        · simp [e3]
          refine PFun.call (ris_Msg c.kept hc.nk 61 [] rfl byTopic (fun a _ b _ => byTopic_fun a b)) ?_
          rcases Bool.eq_false_or_eq_true (rising byTopic c.kept) with e4 | e4
          · simp [e4]
            refine PFun.call (ris_Client c.clients hc.nc 63 [] rfl byNameC (fun a _ b _ => byNameC_fun a b)) ?_
            simp [coreUnsorted, e1, e2, e3, e4]
          · simp [e4, coreUnsorted]
        · simp [e3, coreUnsorted]
      · simp [e2, coreUnsorted]
    · simp [e1, coreUnsorted]
  simp
  refine J_cond rfl (fun hd => ?_) fun hd => J_skip ?_
  · have hb2 : coreUnsorted c = true := by simpa using hd
    refine J_seq' fun K4 hK4 => J1 1 ?_
    simp
    refine hK4 _ (J_ret (hF _ _ ?_))
    simp [Tryz.f17, coreGood, hb2]
  have hb2 : coreUnsorted c = false := by simpa using hd
  simp only [thenQ]
  refine hK3 _ (J_seq' fun K4 hK4 => J1 1 ?_)
  simp
  refine hK4 _ ?_
  refine J_freeze 3 (cs := [.vp c.enc, .sl0]) (by simp [lookL, Core.enc]) (by simp) ?_
  simp
  have hgood : coreGood c = !coreBad c := by simp [coreGood, hb, hb2]
  refine J_seq' fun K5 hK5 => J1 1 ?_
  simp (maxSteps := 5000000)
  refine PFun.call (contains_Queue c.queues hc.nq 65 [] rfl badQ (fun x hx => badQ_fun x (hc.q x hx))) ?_
  rcases Bool.eq_false_or_eq_true (c.queues.any badQ) with e1 | e1
  · simp (maxSteps := 5000000) [e1]
    refine hK5 _ (J_ret (hF _ _ ?_))
    simp [Tryz.f17, hgood, coreBad, e1]
  simp (maxSteps := 5000000) [e1]
  refine PFun.call (contains_Bind c.binds hc.nb 68 [.vp [.vp c.enc, .sl0]] rfl (badB c.queues) (fun x hx => badB_fun c hc.nq x (hc.b x hx))) ?_
  rcases Bool.eq_false_or_eq_true (c.binds.any (badB c.queues)) with e2 | e2
  · simp (maxSteps := 5000000) [e2]
    refine hK5 _ (J_ret (hF _ _ ?_))
    simp [Tryz.f17, hgood, coreBad, e2]
  simp (maxSteps := 5000000) [e2]
  refine PFun.call (contains_Sub c.subs hc.ns 71 [.vp [.vp c.enc, .sl0]] rfl (badS c.queues) (fun x hx => badS_fun c hc.nq x)) ?_
  rcases Bool.eq_false_or_eq_true (c.subs.any (badS c.queues)) with e3 | e3
  · simp (maxSteps := 5000000) [e3]
    refine hK5 _ (J_ret (hF _ _ ?_))
    simp [Tryz.f17, hgood, coreBad, e3]
  simp (maxSteps := 5000000) [e3]
  refine PFun.call (contains_Msg c.kept hc.nk 74 [] rfl badM (fun x hx => badM_fun x (hc.k x hx))) ?_
  rcases Bool.eq_false_or_eq_true (c.kept.any badM) with e4 | e4
  · simp (maxSteps := 5000000) [e4]
    refine hK5 _ (J_ret (hF _ _ ?_))
    simp [Tryz.f17, hgood, coreBad, e4]
  simp (maxSteps := 5000000) [e4]
  refine PFun.call (contains_Client c.clients hc.nc 76 [] rfl badC (fun x hx => badC_fun x (hc.c x hx).1 (hc.c x hx).2)) ?_
  simp (maxSteps := 5000000)
  refine hK5 _ (J_ret (hF _ _ ?_))
  simp [Tryz.f17, hgood, coreBad, e1, e2, e3, e4]
end Go.Proofs.YtpcpljfifipagaaGreatDoor
