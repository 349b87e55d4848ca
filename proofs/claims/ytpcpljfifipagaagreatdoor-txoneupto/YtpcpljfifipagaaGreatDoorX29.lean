/- A part of the proof: the engine that walks Go code, the walks of the broker, or their laws (TW TX TY TZ Ld Ua Le Ub Uc). -/
import Derived.Test.YtpcpljfifipagaaGreatDoorX13
import Derived.Tactics
import Derived.Tactics2
import Derived.Laws.Pointers
import Derived.Test.YtpcpljfifipagaaGreatDoorX28
import Derived.Test.YtpcpljfifipagaaGreatDoorX23
import Derived.Test.YtpcpljfifipagaaGreatDoorX25
import Derived.Test.YtpcpljfifipagaaGreatDoorX14
set_option linter.unusedSimpArgs false
set_option linter.unusedVariables false
set_option maxHeartbeats 8000000
set_option maxRecDepth 20000
namespace Go.Proofs.YtpcpljfifipagaaGreatDoor
open Go.Eng Go.Tv
section
attribute [local simp] plainOp Heap.put flen_Cl noLLf_Cl killf_Cl D_36 D_42 D_33 D_50 D_77 D_37 D_24 D_25 D_26 D_27 D_28 D_87 D_30 D_54 D_46 D_89 D_105 D_103 D_102 D_35 D_101 D_80 D_118 D_124 D_121 D_31 D_257 D_244 D_131 D_130
attribute [local simp ↓] evTsR evQsh evQh
attribute [-simp] List.length_flatMap
theorem catch_idle (v4 v5 v6 : Value) (w : World) : CallsD Tryz.prog 51 #[v4, v5, v6] .returning w fun e u' w' => e = .returned (.tuple #[]) ∧ u' = .returning ∧ w' = w := by
  refine callsD_of_wpS Tryz.func51 rfl fun c₀ cs hu => ?_
  apply wpS_seq
  apply wpS_region
  simp [wpOpsS, go_sem, recoverD, hu, Tryz.ntmps51, Exit.thenS]
  refine wpS_of_wp ?_
  go_wp2
  cases c₀
  simp_all [bodyPostS, results, Tryz.results51]
def zeroC : List AV := [aint 0, .sl0, .sl0, .sl0, .sl0, .sl0]
def caught (H : Heap) (n4 n5 n6 : Nat) (e : Int) : Heap := fun m => if m = n6 then some [aint e] else if m = n5 then some [.sl0] else if m = n4 then some zeroC else H m
theorem catch_stop (v4 v5 v6 : Value) (e : Int) (M : Imm) (ψ : Psi) (w : World) (H : Heap) (n4 n5 n6 : Nat) (cs4 : List AV) (c5 c6 : AV) (hst : ψ.strip = ψ) (hsr : SR M ψ (hOnly H) w) (hr : RepL M ψ [.p (.h n4) 0, .p (.h n5) 0, .p (.h n6) 0] [v4, v5, v6]) (h4 : H n4 = some cs4) (hl4 : cs4.length = 6) (h5 : H n5 = some [c5]) (h6 : H n6 = some [c6]) (d1 : n4 ≠ n5) (d2 : n4 ≠ n6) (d3 : n5 ≠ n6) :
    CallsD Tryz.prog 51 #[v4, v5, v6] (.panicking [{ v := .iface 101 (.agg #[.int .i64 e]), recovered := false }]) w fun en u' w' => (∃ v, en = .returned v) ∧ u' = .panicking [{ v := .iface 101 (.agg #[.int .i64 e]), recovered := true }] ∧ ∃ M' ψ', ψ'.strip = ψ' ∧ Since M ψ (hOnly H) w M' ψ' (hOnly (caught H n4 n5 n6 e)) w' ∧ SR M' ψ' (hOnly (caught H n4 n5 n6 e)) w' := by
  refine callsD_of_wpS Tryz.func51 rfl fun c₀ cs hu => ?_
  apply wpS_seq
  apply wpS_region
  simp [wpOpsS, go_sem, recoverD, hu, Tryz.ntmps51, Exit.thenS]
  refine wpS_of_wp ?_
  refine wp_block (wp_seq (wp_region ?_))
  simp [wpOps, Oper.wp, Oper.upon, go_sem]
  refine .inl ?_
  refine wp_cond_split (t := false) ?_ (fun h => by cases h) fun _ => ?_
  · simp [Act.eval]
  refine wp_seq (wp_region ?_)
  simp [wpOps, Oper.wp, Oper.upon, go_sem, Instr.typeAssert]
  refine .inl (.inl (.inl ?_))
  refine wp_cond_split (t := true) ?_ (fun _ => ?_) fun h => by cases h
  · simp [Act.eval]
  refine JP_of_J (E := ⟨M, ψ, hOnly H, w, []⟩) (N := 15) (Q := fun
    | .normal, s => s.H = caught H n4 n5 n6 e
    | _, _ => False) (s := ⟨[(0, .p (.h n4) 0), (1, .p (.h n5) 0), (2, .p (.h n6) 0), (11, .agg [aint e])], [], H⟩) ?_ ?_ M ψ _ w ?_
  · refine J_seq' fun K hK => J0 ?_
    simp
    refine hK _ (D0 [0,1,2] [3,4,5] (fun t => match t with | 3 => [1,2] | 4 => [1,2] | _ => []) rfl (by decide) (by decide) ?_)
    simp [h4, hl4, h5, h6, d1, d2, d3, Ne.symm d1, Ne.symm d2, Ne.symm d3]
    funext m
    simp only [caught]
    by_cases e6 : m = n6
    · simp [e6]
    · by_cases e5 : m = n5
      · simp [e6, e5]
      · by_cases e4 : m = n4
        · subst e4; simp [d1, d2, zeroC, List.drop_of_length_le (show cs4.length ≤ 6 by omega)]
        · simp [e6, e5, e4]
  · intro en a' w' hq
    cases en with
    | normal =>
      obtain ⟨M', ψ', s', hat, hH⟩ := hq
      have hd := hat.d
      refine ⟨hd, _, rfl, .tuple #[], by simp [results, Tryz.results51], ⟨_, rfl⟩, rfl, M', ψ'.strip, Psi.strip_strip _, ?_, ?_⟩
      · have := hat.since.heapOnly
        rw [hH] at this
        exact this
      · have := hat.sr.heapOnly
        rw [hH] at this
        exact this
    | exit id => obtain ⟨_, _, _, _, h⟩ := hq; exact h.elim
    | goto id => obtain ⟨_, _, _, _, h⟩ := hq; exact h.elim
    | ret => obtain ⟨_, _, _, _, h⟩ := hq; exact h.elim
    | panic ch => obtain ⟨_, _, _, _, _, _, _, _, _, h⟩ := hq; exact h.elim
    | outgrown => exact hq.elim
  · simp only [RepL] at hr
    obtain ⟨u4, us, e1, r4, u5, us', e2, r5, u6, us'', e3, r6, e4⟩ := hr
    subst e4
    subst e3
    subst e2
    simp only [List.cons.injEq, and_true] at e1
    obtain ⟨rfl, rfl, rfl⟩ := e1
    refine ⟨Since.refl _ _ _ _, hsr, ?_, by simp, rfl⟩
    intro k
    simp only [lookS]
    split
    · rename_i ek; subst ek; simpa using r4
    split
    · rename_i ek; subst ek; simpa using r5
    split
    · rename_i ek; subst ek; simpa using r6
    split
    · rename_i ek; subst ek
      simp only [Rep, RepL]
      exact ⟨[.int .i64 e], by simp, ⟨_, _, rfl, rfl, rfl⟩, by simp⟩
    · simp only [Rep]
end
section
attribute [local simp] plainOp Heap.put flen_Cl noLLf_Cl killf_Cl D_36 D_42 D_33 D_50 D_77 D_37 D_24 D_25 D_26 D_27 D_28 D_87 D_30 D_54 D_46 D_89 D_105 D_103 D_102 D_35 D_101 D_80 D_118 D_124 D_121 D_31 D_257 D_244 D_131 D_130 AV.hz hzS hzL AV.hfree AV.hfreeL AV.flatOk D_98 D_22 AS.esc renSf renLf AV.ren AV.renL escF
attribute [local simp ↓] evTsR evQsh evQh
attribute [-simp] List.length_flatMap
def DoQ (c : Core) (o : Tv.Oper) (H : Heap) (e : AE) (H' : Heap) : Prop := e = .ret (.tup [.agg (doT c o).1.enc, asl Out.enc (doT c o).2.1, aint (doT c o).2.2]) ∧ ∀ m cs, H m = some cs → H' m = some cs
def DoN (c : Core) (o : Tv.Oper) (H : Heap) (e : AE) (H' : Heap) : Prop := match e with
  | .ret x => DoQ c o H (.ret x.norm) H'
  | .panic x => DoQ c o H (.panic x) H'
def RetOk (c : Core) (o : Tv.Oper) (H : Heap) (s : AS) : Prop := ∃ c' x, evResult D s Tryz.f16.results.toList = some (c', x) ∧ c' ∧ x.noL = true ∧ DoN c o H (.ret x) s.H
def RetQ (c : Core) (o : Tv.Oper) (H : Heap) : AX → AS → Prop
  | .ret, s => RetOk c o H s
  | _, _ => False
theorem ret_leaves {c : Core} {o : Tv.Oper} {H : Heap} {M : Imm} {ψ : Psi} {w : World} (e : Exit) (a' : Act) (w' : World) (h : QR ⟨M, ψ, hOnly H, w, []⟩ 37 (RetQ c o H) e a' w') : bodyPostD Tryz.prog Tryz.f16 (CPost M ψ H w (DoN c o H)) e a' w' := by
  cases e with
  | ret =>
    obtain ⟨M', ψ', s', hat, c', x, h1, h2, h3, h4⟩ := h
    obtain ⟨v, g1, g2⟩ := ret_post D_ok (Since.refl _ _ _ _) hat h1 h2 h3 h4
    have hd : a'.defers = [] := hat.d
    simp only [bodyPostD, hd, Leaves]
    exact ⟨v, g1, g2⟩
  | normal => obtain ⟨_, _, _, _, h⟩ := h; exact h.elim
  | exit id => obtain ⟨_, _, _, _, h⟩ := h; exact h.elim
  | goto id => obtain ⟨_, _, _, _, h⟩ := h; exact h.elim
  | panic ch => obtain ⟨_, _, _, _, _, _, _, _, _, h⟩ := h; exact h.elim
  | outgrown => exact h.elim
theorem doT_fun (c : Core) (o : Tv.Oper) (hc : CFit c) (ho : OFit o) : PFun Tryz.prog 16 [.agg c.enc, .agg o.enc] (.tup [.agg (doT c o).1.enc, asl Out.enc (doT c o).2.1, aint (doT c o).2.2]) := by
  intro H
  refine PCalls.weakH (PCalls.mono (PCalls.norm (Q' := DoQ c o H) ?_) fun e H' h => ⟨H, h.2, h.1, rfl⟩)
  change PCalls _ _ _ _ (DoN c o H)
  refine PCalls.of_JP Tryz.func16 rfl (by decide) (le' rfl) fun M ψ w hst => ?_
  change JP _ _ 37 _ _ _
  have hR : ∀ e a' w', e ≠ .normal → QR ⟨M, ψ, hOnly H, w, []⟩ 37 (RetQ c o H) e a' w' → bodyPostD Tryz.prog Tryz.f16 (CPost M ψ H w (DoN c o H)) e a' w' := fun e a' w' _ h => ret_leaves e a' w' h
  refine JP_seq' hR fun K1 hK1 => J2 2 3 ?_
  simp [len_Core, noLL_Core, len_Oper, noLL_Oper]
  refine hK1 _ (JP_turn (Turns.has (T := [(2, .vp c.enc), (3, .vp o.enc), (4, .p (.l 4) 0), (5, .p (.l 5) 0), (6, .p (.l 6) 0)]) (L := [(6, [aint 0]), (5, [.sl0]), (4, zeroC)]) (H := H) ⟨by simp, by simp [zeroC], rfl⟩) ?_)
  refine JP_seq' hR fun K2 hK2 => J2 2 3 ?_
  simp [Oper.enc, Msg.enc]
  refine (calls_fun o.kind).call ?_
  simp
  refine hK2 _ (JP_turn (Turns.has (T := [(2, .vp c.enc), (3, .vp o.enc), (4, .p (.l 4) 0), (5, .p (.l 5) 0), (6, .p (.l 6) 0), (7, callV o.kind)]) (L := [(6, [aint 0]), (5, [.sl0]), (4, zeroC)]) (H := H) ⟨by simp [Oper.enc, Msg.enc], rfl, rfl⟩) ?_)
  refine JP_seq' hR fun K3 hK3 => ?_
  have hbad : (callF o.kind = none ∨ coreGood c = false) → doT c o = (noCore, [], 1) := fun h => by simp only [doT]; rw [if_pos h]
  have kept : ∀ m cs, H m = some cs → H m = some cs := fun _ _ h => h
  refine J_seq' fun K4 hK4 => J2 2 3 ?_
  cases hk : callF o.kind with
  | none =>
    have hcv : callV o.kind = .v .nilFunc := by simp [callV, hk]
    rw [hcv]
    simp
    refine hK4 _ (J_cond rfl (fun _ => ?_) fun hd => by simp at hd)
    refine J_seq' fun K5 hK5 => J2 2 3 ?_
    simp [zeroC]
    refine hK5 _ (J_ret ?_)
    simp [thenQ, RetQ, RetOk, Tryz.f16, DoN, DoQ, hbad (.inl hk), noCore, Core.enc]
    exact ⟨True, _, ⟨trivial, rfl⟩, trivial, rfl, rfl⟩
  | some f =>
  have hcv : callV o.kind = .fn f [] := by simp [callV, hk]
  rw [hcv]
  simp [len_Core, take_Core, noLL_Core]
  refine (coreGood_fun c hc).call ?_
  rcases Bool.eq_false_or_eq_true (coreGood c) with hg | hg
  rotate_left
  · rw [hg]
    simp
    refine hK4 _ (J_cond rfl (fun _ => ?_) fun hd => by simp at hd)
    refine J_seq' fun K5 hK5 => J2 2 3 ?_
    simp [zeroC]
    refine hK5 _ (J_ret ?_)
    simp [thenQ, RetQ, RetOk, Tryz.f16, DoN, DoQ, hbad (.inr hg), noCore, Core.enc]
    exact ⟨True, _, ⟨trivial, rfl⟩, trivial, rfl, rfl⟩
  rw [hg]
  simp
  refine hK4 _ (J_cond rfl (fun hd => by simp at hd) fun _ => J_skip ?_)
  clear hK1 hK2 hK4 hbad kept
  have hco : COk c := (coreGood_iff c).mp hg
  simp only [thenQ]
  refine hK3 _ ?_
  clear hK3
  refine JP_turn (Turns.has (T := [(2, .vp c.enc), (3, .vp o.enc), (4, .p (.l 4) 0), (5, .p (.l 5) 0), (6, .p (.l 6) 0), (7, .fn f [])]) (L := [(6, [aint 0]), (5, [.sl0]), (4, zeroC)]) (H := H) ⟨by simp, rfl, rfl⟩) ?_
  refine JP_escape 4 (cs := zeroC) (by simp [lookL]) (by simp [zeroC]) fun n4 h4 => ?_
  refine JP_escape 5 (cs := [.sl0]) (by simp [zeroC]) (by simp) fun n5 h5 => ?_
  refine JP_escape 6 (cs := [aint 0]) (by simp [zeroC]) (by simp) fun n6 h6 => ?_
  replace h4 : H n4 = none := h4
  replace h5 : (H.put n4 (some zeroC)) n5 = none := h5
  replace h6 : ((H.put n4 (some zeroC)).put n5 (some [.sl0])) n6 = none := h6
  have d1 : n4 ≠ n5 := by rintro rfl; simp at h5
  have d2 : n4 ≠ n6 := by rintro rfl; simp [d1] at h6
  have d3 : n5 ≠ n6 := by rintro rfl; simp at h6
  have h5' : H n5 = none := by simpa [Ne.symm d1] using h5
  have h6' : H n6 = none := by simpa [Ne.symm d2, Ne.symm d3] using h6
  refine JP_turn (Turns.has (T := [(2, .vp c.enc), (3, .vp o.enc), (4, .p (.h n4) 0), (5, .p (.h n5) 0), (6, .p (.h n6) 0), (7, .fn f [])]) (L := []) (H := ((H.put n4 (some zeroC)).put n5 (some [.sl0])).put n6 (some [aint 0])) ⟨by simp [zeroC], by simp [zeroC], by simp [zeroC]⟩) ?_
  obtain ⟨H1, hH1⟩ : ∃ H1 : Heap, H1 = ((H.put n4 (some zeroC)).put n5 (some [.sl0])).put n6 (some [aint 0]) := ⟨_, rfl⟩
  rw [← hH1]
  have k4 : H1 n4 = some zeroC := by rw [hH1]; simp [d1, d2]
  have k5 : H1 n5 = some [.sl0] := by rw [hH1]; simp [d3]
  have k6 : H1 n6 = some [aint 0] := by rw [hH1]; simp
  have kH : ∀ m cs, H m = some cs → m ≠ n4 ∧ m ≠ n5 ∧ m ≠ n6 ∧ H1 m = some cs := by
    intro m cs hm
    have a : m ≠ n4 := by rintro rfl; rw [h4] at hm; cases hm
    have b : m ≠ n5 := by rintro rfl; rw [h5'] at hm; cases hm
    have d : m ≠ n6 := by rintro rfl; rw [h6'] at hm; cases hm
    exact ⟨a, b, d, by rw [hH1]; simp [a, b, d, hm]⟩
  clear h5 h6
  intro M1 ψ1 a1 w1 hat1
  refine wp_seq (wp_region ?_)
  have hsz : a1.tmps.size = 37 := hat1.n
  simp [wpOps, Oper.wp, Oper.upon, go_sem, hsz]
  refine .inl (.inl ?_)
  have hd1 : a1.defers = [] := hat1.d
  obtain ⟨v4, hv4⟩ : ∃ v, v = a1.tmps.getD 4 undef := ⟨_, rfl⟩
  obtain ⟨v5, hv5⟩ : ∃ v, v = a1.tmps.getD 5 undef := ⟨_, rfl⟩
  obtain ⟨v6, hv6⟩ : ∃ v, v = a1.tmps.getD 6 undef := ⟨_, rfl⟩
  have r4 : Rep M1 ψ1 (.p (.h n4) 0) v4 := by rw [hv4]; exact hat1.sl 4
  have r5 : Rep M1 ψ1 (.p (.h n5) 0) v5 := by rw [hv5]; exact hat1.sl 5
  have r6 : Rep M1 ψ1 (.p (.h n6) 0) v6 := by rw [hv6]; exact hat1.sl 6
  have g4 : a1.tmps[4] = v4 := by rw [hv4]; simp [Array.getD_eq_getD_getElem?, hsz]
  have g5 : a1.tmps[5] = v5 := by rw [hv5]; simp [Array.getD_eq_getD_getElem?, hsz]
  have g6 : a1.tmps[6] = v6 := by rw [hv6]; simp [Array.getD_eq_getD_getElem?, hsz]
  rw [g4, g5, g6, hd1]
  obtain ⟨D0, hD0⟩ : ∃ D0 : Deferred, D0 = { target := Target.fn (Fn.func 51) #[v4, v5, v6], args := #[] } := ⟨_, rfl⟩
  rw [← hD0]
  have hs1 : Since M ψ (hOnly H) w M1 ψ1 (mkG [] H1) w1 := hat1.since
  have hat2 : At ⟨M1, ψ1, mkG [] H1, w1, [D0]⟩ 37 M1 ψ1 ⟨[(2, .vp c.enc), (3, .vp o.enc), (4, .p (.h n4) 0), (5, .p (.h n5) 0), (6, .p (.h n6) 0), (7, .fn f [])], [], H1⟩ { tmps := a1.tmps.setIfInBounds 21 (Value.func (Fn.func 51) #[] #[v4, v5, v6]), defers := [D0] } w1 := by
    refine ⟨Since.refl _ _ _ _, hat1.sr, fun k => ?_, by simpa using hat1.n, rfl⟩
    by_cases hk : k = 21
    · subst hk; simp [lookS, Rep]
    · have := hat1.sl k
      rw [Array.getD_eq_getD_getElem?, Array.getElem?_setIfInBounds_ne (Ne.symm hk), ← Array.getD_eq_getD_getElem?]
      exact this
  refine (?_ : JP Tryz.prog ⟨M1, ψ1, mkG [] H1, w1, [D0]⟩ 37 _ _ ⟨[(2, .vp c.enc), (3, .vp o.enc), (4, .p (.h n4) 0), (5, .p (.h n5) 0), (6, .p (.h n6) 0), (7, .fn f [])], [], H1⟩) M1 ψ1 _ w1 hat2
  clear hat2 hat1 hv4 hv5 hv6 g4 g5 g6 hd1 hsz
  have hR2 : ∀ e a' w', QR ⟨M1, ψ1, mkG [] H1, w1, [D0]⟩ 37 (RetQ c o H) e a' w' → bodyPostD Tryz.prog Tryz.f16 (CPost M ψ H w (DoN c o H)) e a' w' := by
    intro e a' w' h
    cases e with
    | ret =>
      obtain ⟨M', ψ', s', hat, c', x, h1, h2, h3, h4⟩ := h
      have hd : a'.defers = [D0] := hat.d
      simp only [bodyPostD, hd]
      rw [hD0]
      refine leaves_cons (f := 51) (args := #[v4, v5, v6]) (by simp) (by simp [go_sem]) ?_
      refine (catch_idle v4 v5 v6 w').mono ?_
      rintro e u' w'' ⟨rfl, rfl, rfl⟩
      simp only [Leaves, settle]
      exact ret_post D_ok hs1 hat h1 h2 h3 h4
    | normal => obtain ⟨_, _, _, _, h⟩ := h; exact h.elim
    | exit id => obtain ⟨_, _, _, _, h⟩ := h; exact h.elim
    | goto id => obtain ⟨_, _, _, _, h⟩ := h; exact h.elim
    | panic ch => obtain ⟨_, _, _, _, _, _, _, _, _, h⟩ := h; exact h.elim
    | outgrown => exact h.elim
  have hpan : PanR ⟨M1, ψ1, mkG [] H1, w1, [D0]⟩ 37 (fun x s => ∃ e, x = stop e ∧ doT c o = (noCore, [], e) ∧ (∀ m cs, H1 m = some cs → s.H m = some cs) ∧ subS [(4, .p (.h n4) 0), (5, .p (.h n5) 0), (6, .p (.h n6) 0)] s.S) (bodyPostD Tryz.prog Tryz.f16 (CPost M ψ H w (DoN c o H))) := by
    rintro x s' M' ψ' v a' w' hat hx ⟨e, rfl, hdo, hkeep, hS⟩
    have hv : v = .iface 101 (.agg #[.int .i64 e]) := by
      simp only [stop, Rep, RepL] at hx
      obtain ⟨u, rfl, vs, rfl, ⟨u1, us, rfl, rfl, rfl⟩, _⟩ := hx
      rfl
    have hd : a'.defers = [D0] := hat.d
    simp only [bodyPostD, hd]
    rw [hD0]
    have up : ∀ n v, Rep M1 ψ1 (.p (.h n) 0) v → Rep M' ψ'.strip (.p (.h n) 0) v := by
      intro n v hr
      simp only [Rep] at hr ⊢
      obtain ⟨i, e1, e2⟩ := hr
      exact ⟨i, hat.since.psi n i e1, e2⟩
    refine leaves_cons (f := 51) (args := #[v4, v5, v6]) (by simp) (by simp [go_sem]) ?_
    rw [hv]
    refine (catch_stop v4 v5 v6 e M' ψ'.strip w' s'.H n4 n5 n6 zeroC .sl0 (aint 0) (Psi.strip_strip _) hat.sr.heapOnly (by
      simp only [RepL]
      exact ⟨v4, _, rfl, up _ _ r4, v5, _, rfl, up _ _ r5, v6, _, rfl, up _ _ r6, rfl⟩) (hkeep _ _ k4) rfl (hkeep _ _ k5) (hkeep _ _ k6) d1 d2 d3).mono ?_
    rintro en u' w'' ⟨⟨v0, rfl⟩, rfl, M2, ψ2, q1, q2, q3⟩
    simp [Leaves, settle]
    obtain ⟨_, hat2⟩ := hat.call q1 q2 q3
    have hat3 := At.congr (cfg := ⟨37, fun _ => false⟩) (s := ⟨s'.S, s'.L, caught s'.H n4 n5 n6 e⟩) (s' := ⟨[(4, .p (.h n4) 0), (5, .p (.h n5) 0), (6, .p (.h n6) 0)], s'.L, caught s'.H n4 n5 n6 e⟩) hat2 (fun k => subS_look hS k) rfl
    have e4 : caught s'.H n4 n5 n6 e n4 = some zeroC := by simp [caught, d1, d2]
    have e5 : caught s'.H n4 n5 n6 e n5 = some [.sl0] := by simp [caught, d3]
    have e6 : caught s'.H n4 n5 n6 e n6 = some [aint e] := by simp [caught]
    have hres : RetOk c o H ⟨[(4, .p (.h n4) 0), (5, .p (.h n5) 0), (6, .p (.h n6) 0)], s'.L, caught s'.H n4 n5 n6 e⟩ := by
      simp [RetOk, Tryz.f16, DoN, DoQ, hdo, noCore, Core.enc, e4, e5, e6]
      refine ⟨True, _, ⟨by simp [zeroC], rfl⟩, trivial, by simp [zeroC], by simp [zeroC], fun m cs hm => ?_⟩
      obtain ⟨a, b, d, g⟩ := kH m cs hm
      simp [caught, a, b, d, hkeep m cs g]
    obtain ⟨c', x, h1, h2, h3, h4⟩ := hres
    exact ret_post D_ok hs1 hat3 h1 h2 h3 h4
  have hR3 : ∀ e a' w', e ≠ .normal → QR ⟨M1, ψ1, mkG [] H1, w1, [D0]⟩ 37 (RetQ c o H) e a' w' → bodyPostD Tryz.prog Tryz.f16 (CPost M ψ H w (DoN c o H)) e a' w' := fun e a' w' _ h => hR2 e a' w' h
  clear hR r4 r5 r6
  refine JP_seq' hR3 fun K5 hK5 => J2 2 3 ?_
  simp [len_Core, take_Core, noLL_Core]
  refine (copyH_fun c hc H1).mono ?_
  rintro e H2 ⟨N, cls, P, rfl, hO, hcl, _⟩
  simp [crow]
  refine hK5 _ (JP_turn (Turns.has (T := [(3, .vp o.enc), (4, .p (.h n4) 0), (5, .p (.h n5) 0), (6, .p (.h n6) 0), (7, .fn f []), (8, .p (.l 8) 0)]) (L := [(8, crow N c cls.length)]) (H := H2) ⟨by simp, by simp [crow], rfl⟩) ?_)
  clear hK5
  refine JP_seq' hR3 fun K6 hK6 => J2 2 3 ?_
  simp [crow]
  refine hK6 _ (JP_turn (Turns.has (T := [(3, .vp o.enc), (4, .p (.h n4) 0), (5, .p (.h n5) 0), (6, .p (.h n6) 0), (7, .fn f []), (8, .p (.l 8) 0), (9, .p (.l 25) 0)]) (L := [(25, [.p (.l 8) 0, .sl0]), (8, crow N c cls.length)]) (H := H2) ⟨by simp, by simp [crow], rfl⟩) ?_)
  clear hK6
  refine JP_nilCell 25 11 [.p (.l 8) 0] [] (by simp) fun no hno => ?_
  replace hno : H2 no = none := hno
  obtain ⟨H3, hH3⟩ : ∃ H3 : Heap, H3 = fun m => if m = no then some [] else H2 m := ⟨_, rfl⟩
  have o1 := hO.add hno (H' := H3) (cs := []) (fun m a => by rw [hH3]; simp [a]) (by rw [hH3]; simp)
  refine JP_turn (Turns.has (T := [(3, .vp o.enc), (4, .p (.h n4) 0), (5, .p (.h n5) 0), (6, .p (.h n6) 0), (7, .fn f []), (8, .p (.l 8) 0), (9, .p (.l 25) 0)]) (L := [(25, [.p (.l 8) 0, .os (.h no) 11 0 0]), (8, crow N c cls.length)]) (H := H3) ⟨by simp, by simp, by simp [hH3]⟩) ?_
  refine JP_escape 8 (cs := crow N c cls.length) (by simp [lookL]) (by simp [crow]) fun nc hnc => ?_
  replace hnc : H3 nc = none := hnc
  obtain ⟨H4, hH4⟩ : ∃ H4 : Heap, H4 = fun m => if m = nc then some (crow N c cls.length) else H3 m := ⟨_, rfl⟩
  have o2 := o1.add hnc (H' := H4) (cs := crow N c cls.length) (fun m a => by rw [hH4]; simp [a]) (by rw [hH4]; simp)
  refine JP_turn (Turns.has (T := [(3, .vp o.enc), (4, .p (.h n4) 0), (5, .p (.h n5) 0), (6, .p (.h n6) 0), (7, .fn f []), (8, .p (.h nc) 0), (9, .p (.l 25) 0)]) (L := [(25, [.p (.h nc) 0, .os (.h no) 11 0 0])]) (H := H4) ⟨by simp [lookL], by simp [lookL], by rw [hH4]; rfl⟩) ?_
  refine JP_escape 25 (cs := [.p (.h nc) 0, .os (.h no) 11 0 0]) (by simp [lookL]) (by simp) fun nx hnx => ?_
  replace hnx : H4 nx = none := hnx
  obtain ⟨H5, hH5⟩ : ∃ H5 : Heap, H5 = fun m => if m = nx then some [.p (.h nc) 0, .os (.h no) 11 0 0] else H4 m := ⟨_, rfl⟩
  have o3 := o2.add hnx (H' := H5) (cs := [.p (.h nc) 0, .os (.h no) 11 0 0]) (fun m a => by rw [hH5]; simp [a]) (by rw [hH5]; simp)
  refine JP_turn (Turns.has (T := [(3, .vp o.enc), (4, .p (.h n4) 0), (5, .p (.h n5) 0), (6, .p (.h n6) 0), (7, .fn f []), (8, .p (.h nc) 0), (9, .p (.h nx) 0)]) (L := []) (H := H5) ⟨by simp [lookL], by simp [lookL], by rw [hH5]; rfl⟩) ?_
  obtain ⟨N0, hN0⟩ : ∃ N0 : TN, N0 = { N with x := nx, c := nc, o := no } := ⟨_, rfl⟩
  have hT : TAt N0 ⟨c, []⟩ H1 H5 := by
    refine ⟨cls, P, o3.perm ?_, hcl⟩
    rw [hN0]
    refine List.Perm.cons _ (List.Perm.cons _ ?_)
    exact (List.perm_middle (l₁ := [(N.q, c.queues.flatMap Queue.enc), (N.b, c.binds.flatMap Bind.enc), (N.s, c.subs.flatMap Sub.enc), (N.k, c.kept.flatMap Msg.enc), (N.l, cls.flatMap Cl.enc)])).symm
  have nx0 : N0.x = nx := by rw [hN0]
  have nc0 : N0.c = nc := by rw [hN0]
  clear hO o1 o2 o3 hcl hH3 hH4 hH5
  have hdo : doT c o = match callT o ⟨c, []⟩ with
      | .error e => (noCore, [], e)
      | .ok t => match pumpT t with
        | .error e => (noCore, [], e)
        | .ok t' => (t'.core, t'.out, 0) := by
    simp only [doT]
    rw [if_neg (by simp [hk, hg])]
    rfl
  refine JP_region D_ok (cfg := ⟨37, fun k => k == 2 || k == 3⟩) hpan fun K7 hK7 => ?_
  simp [len_Oper, take_Oper, noLL_Oper]
  rw [← nx0]
  refine (call_fun N0 ⟨c, []⟩ o H1 H5 f hk hco ho (by simp) hT).mono ?_
  rintro r H6 hQ
  rcases hQ.split with ⟨e, he, rfl, hkp⟩ | ⟨t1, v, he, rfl, N1, m1, m2, hT1⟩
  · simp [stop]
    rw [he] at hdo
    exact ⟨hdo, hkp⟩
  rw [he] at hdo
  simp only at hdo
  simp
  obtain ⟨hco1, hout1⟩ := callT_ok hco he
  refine hK7 _ (JP_turn (Turns.has (T := [(4, .p (.h n4) 0), (5, .p (.h n5) 0), (6, .p (.h n6) 0), (8, .p (.h nc) 0), (9, .p (.h N0.x) 0)]) (L := []) (H := H6) ⟨by simp, rfl, rfl⟩) ?_)
  clear hK7
  refine JP_region D_ok (cfg := ⟨37, fun k => k == 2 || k == 3⟩) hpan fun K8 hK8 => ?_
  simp
  rw [← m1]
  refine (pumpT_fun N1 t1 H1 H6 hco1.fit hco1.nq (by simp at hout1; omega) hT1).mono ?_
  rintro r H7 hQ
  rcases hQ.split with ⟨e, he2, rfl, hkp⟩ | ⟨t2, v, he2, rfl, N2, l1, l2, hT2⟩
  · simp [stop]
    rw [he2] at hdo
    exact ⟨hdo, hkp⟩
  rw [he2] at hdo
  simp only at hdo
  simp
  have nx2 : N2.x = N1.x := l1
  have nc2 : N2.c = nc := l2.trans (m2.trans nc0)
  have hkeep2 := hT2.keeps
  obtain ⟨cls2, P2, hO2, hcl2⟩ := hT2
  have hx2 : H7 N1.x = some (xrow N2 t2.out.length) := by rw [← nx2]; exact hO2.get _ _ (by simp [objs])
  have hc2 : H7 nc = some (crow N2 t2.core cls2.length) := by rw [← nc2]; exact hO2.get _ _ (by simp [objs])
  have ho2 : H7 N2.o = some (t2.out.flatMap Out.enc) := hO2.get _ _ (by simp [objs])
  have q4 := hkeep2 _ _ k4
  have q5 := hkeep2 _ _ k5
  have q6 := hkeep2 _ _ k6
  have no4 := (hO2.2.2 _ _ k4).1
  have no5 := (hO2.2.2 _ _ k5).1
  have no6 := (hO2.2.2 _ _ k6).1
  refine hK8 _ (JP_turn (Turns.has (T := [(4, .p (.h n4) 0), (5, .p (.h n5) 0), (6, .p (.h n6) 0), (8, .p (.h nc) 0), (9, .p (.h N1.x) 0)]) (L := []) (H := H7) ⟨by simp, rfl, rfl⟩) ?_)
  clear hK8
  refine JP_of_J ?_ hR2
  refine J_seq' fun K9 hK9 => J_drawR' D_ok (cfg := ⟨37, fun k => k == 2 || k == 3⟩) [0,1,2,3,4] [5,6,7] (fun t => match t with | 5 => [1,2,3,4] | _ => []) rfl (by decide) (by decide) ?_
  have xn4 : N1.x ≠ n4 := by
    rintro e
    refine no4 (List.mem_map.mpr ⟨(N2.x, xrow N2 t2.out.length), by simp [objs], ?_⟩)
    rw [← e, ← nx2]
  simp [hx2, hc2, xrow, crow, q4, q5, q6, zeroC, xn4, Ne.symm d1, Ne.symm d2, Ne.symm d3]
  obtain ⟨H8, hH8⟩ : ∃ H8 : Heap, H8 = fun m => if m = n6 then some [aint 0] else if m = n5 then some [.os (.h N2.o) 11 0 t2.out.length] else if m = n4 then some (crow N2 t2.core cls2.length) else H7 m := ⟨_, rfl⟩
  have w4 : H8 n4 = some (crow N2 t2.core cls2.length) := by rw [hH8]; simp [d1, d2]
  have w5 : H8 n5 = some [.os (.h N2.o) 11 0 t2.out.length] := by rw [hH8]; simp [d3]
  have w6 : H8 n6 = some [aint 0] := by rw [hH8]; simp
  have wo : ∀ m, m ≠ n4 → m ≠ n5 → m ≠ n6 → H8 m = H7 m := fun m a b d => by rw [hH8]; simp [a, b, d]
  have mo4 : ∀ e ∈ objs N2 t2 cls2 P2, e.1 ≠ n4 ∧ e.1 ≠ n5 ∧ e.1 ≠ n6 := fun e he => ⟨fun h => no4 (List.mem_map.mpr ⟨e, he, h⟩), fun h => no5 (List.mem_map.mpr ⟨e, he, h⟩), fun h => no6 (List.mem_map.mpr ⟨e, he, h⟩)⟩
  have mo := mo4 (N2.o, t2.out.flatMap Out.enc) (by simp [objs])
  simp only at mo
  refine hK9 _ (J_has (T := [(4, .p (.h n4) 0), (5, .p (.h n5) 0), (6, .p (.h n6) 0)]) (L := []) (H := H8) ⟨by simp, rfl, by rw [hH8]; rfl⟩ ?_)
  clear hK9
  have hren : ∀ k x, (∀ e ∈ objs N2 t2 cls2 P2, e.1 ≠ x) → AV.renL (adoptF k x) (crow N2 t2.core cls2.length) = crow N2 t2.core cls2.length := by
    intro k x hx
    have b1 := hx (N2.q, t2.core.queues.flatMap Queue.enc) (by simp [objs])
    have b2 := hx (N2.b, t2.core.binds.flatMap Bind.enc) (by simp [objs])
    have b3 := hx (N2.s, t2.core.subs.flatMap Sub.enc) (by simp [objs])
    have b4 := hx (N2.k, t2.core.kept.flatMap Msg.enc) (by simp [objs])
    have b5 := hx (N2.l, cls2.flatMap Cl.enc) (by simp [objs])
    simp only at b1 b2 b3 b4 b5
    simp [crow, adoptF, b1, b2, b3, b4, b5]
  have e4 := hren 4 n4 fun e he => (mo4 e he).1
  have e5 := hren 5 n5 fun e he => (mo4 e he).2.1
  have e6 := hren 6 n6 fun e he => (mo4 e he).2.2
  refine J_turn (Turns.adopt 4 n4 (cs := crow N2 t2.core cls2.length) w4) ?_
  refine J_has (T := [(4, .p (.l 4) 0), (5, .p (.h n5) 0), (6, .p (.h n6) 0)]) (L := [(4, crow N2 t2.core cls2.length)]) (H := H8.put n4 none) ⟨by simp [AS.adopt, adoptF, Ne.symm d1, Ne.symm d2], by simp [AS.adopt, e4], rfl⟩ ?_
  refine J_turn (Turns.adopt 5 n5 (cs := [.os (.h N2.o) 11 0 t2.out.length]) (by simp [Ne.symm d1, w5])) ?_
  refine J_has (T := [(4, .p (.l 4) 0), (5, .p (.l 5) 0), (6, .p (.h n6) 0)]) (L := [(5, [.os (.h N2.o) 11 0 t2.out.length]), (4, crow N2 t2.core cls2.length)]) (H := (H8.put n4 none).put n5 none) ⟨by simp [AS.adopt, adoptF, Ne.symm d3], by simp [AS.adopt, e5, adoptF, mo], rfl⟩ ?_
  refine J_turn (Turns.adopt 6 n6 (cs := [aint 0]) (by simp [Ne.symm d2, Ne.symm d3, w6])) ?_
  refine J_has (T := [(4, .p (.l 4) 0), (5, .p (.l 5) 0), (6, .p (.l 6) 0)]) (L := [(6, [aint 0]), (5, [.os (.h N2.o) 11 0 t2.out.length]), (4, crow N2 t2.core cls2.length)]) (H := ((H8.put n4 none).put n5 none).put n6 none) ⟨by simp [AS.adopt, adoptF], by simp [AS.adopt, e6, adoptF, mo], rfl⟩ ?_
  have hOn := hO2.1
  simp only [objs, List.map_cons, List.nodup_cons, List.mem_cons, not_or] at hOn
  obtain ⟨x1, x2, ⟨q1, q2, q3, q4', q5', q7⟩, ⟨b1, b2, b3, b4, b5⟩, ⟨s1, s2, s3, s4⟩, ⟨k1, k2, k3⟩, ⟨l3, l4⟩, l5, l6⟩ := hOn
  refine J_turn (Turns.hfrz N2.o (cs := t2.out.flatMap Out.enc) (by simp [mo, wo _ mo.1 mo.2.1 mo.2.2, ho2]) (hf_flat hf_Out _) (noLLf_Out _) (by simp) (by simp [crow])) ?_
  have wout := take_whole len_Out t2.out
  obtain ⟨H9, hH9⟩ : ∃ H9 : Heap, H9 = (((H8.put n4 none).put n5 none).put n6 none).put N2.o none := ⟨_, rfl⟩
  refine J_has (T := [(4, .p (.l 4) 0), (5, .p (.l 5) 0), (6, .p (.l 6) 0)]) (L := [(6, [aint 0]), (5, [asl Out.enc t2.out]), (4, crow N2 t2.core cls2.length)]) (H := H9) ⟨by simp, by simp [crow, q5', b4, s3, k2, l3, wout], by rw [hH9]⟩ ?_
  refine J_subL [(4, crow N2 t2.core cls2.length), (6, [aint 0]), (5, [asl Out.enc t2.out])] (fun k cs => ?_) ?_
  · simp only [lookL]
    intro h
    split at h
    · rename_i e; subst e; simpa using h
    split at h
    · rename_i e; subst e; simpa using h
    split at h
    · rename_i e; subst e; simpa using h
    · cases h
  refine J_turn (turns_core N2 t2.core cls2 P2 4 (by omega) _ _ H _ (by simp) (by simp) ?_ hcl2) ?_
  · have hsub : (cobjs N2 t2.core (cls2.flatMap Cl.enc) P2).Sublist (objs N2 t2 cls2 P2) := by
      simp only [cobjs, objs]
      exact .cons _ (.cons _ (.cons_cons _ (.cons_cons _ (.cons_cons _ (.cons_cons _ (.cons_cons _ (.cons _ (List.Sublist.refl _))))))))
    have hno : ∀ e ∈ cobjs N2 t2.core (cls2.flatMap Cl.enc) P2, e.1 ≠ N2.o := by
      intro e he
      simp only [cobjs, List.mem_cons] at he
      rcases he with rfl | rfl | rfl | rfl | rfl | he
      · exact q5'
      · exact b4
      · exact s3
      · exact k2
      · exact l3
      · intro h
        exact l5 (List.mem_map.mpr ⟨e, he, h⟩)
    refine ⟨(hsub.map _).nodup hO2.1, fun e he => ?_, fun m cs hm => ?_⟩
    · obtain ⟨a, b, d⟩ := mo4 e (hsub.subset he)
      rw [hH9]
      simp [hno e he, a, b, d, wo _ a b d, hO2.2.1 e (hsub.subset he)]
    · obtain ⟨a, b, d, g⟩ := kH m cs hm
      obtain ⟨g1, g2⟩ := hO2.2.2 m cs g
      have hmo : m ≠ N2.o := by
        rintro rfl
        exact g1 (List.mem_map.mpr ⟨(N2.o, t2.out.flatMap Out.enc), by simp [objs], rfl⟩)
      refine ⟨fun h => g1 ((hsub.map _).subset h), ?_⟩
      rw [hH9]
      simp [hmo, a, b, d, wo _ a b d, g2]
  refine J_ret ?_
  show RetOk c o H _
  simp [RetOk, Tryz.f16, DoN, DoQ, hdo, Core.enc]
  exact ⟨True, _, ⟨trivial, rfl⟩, trivial, rfl, rfl⟩
end
section
attribute [local simp] D_22 D_24 D_25 D_26 D_27 D_28 D_30 D_31 D_33 D_35 D_36 D_42 D_46 D_50 D_54 D_77 D_80 D_81 D_83 D_85 D_87 D_89 sEq_self plainOp Heap.put
attribute [local simp ↓] evTsR evQsh evQh
attribute [-simp] List.length_flatMap
set_option maxRecDepth 20000
theorem J_slLen {P : Program} {E : Ent} {N : Nat} {c : Code} {Q : AX → AS → Prop} {s : AS} (t : Nat) {n : Nat} {cs : List AV} (ht : lookS s.S t = .sl n cs) (h : n ≤ 9223372036854775807 → J P E N c Q s) : J P E N c Q s := by
  intro M ψ a w hat
  have hr := hat.sl t
  rw [ht] at hr
  simp only [Rep] at hr
  obtain ⟨_, cap, _, h1, h2, _⟩ := hr
  exact h (by unfold maxLen at h2; omega) M ψ a w hat
theorem rsame_fun (n : Nat) : PFun Tryz.prog 226 [.v (.float .f64 n), .v (.float .f64 n)] (abool true) := by
  refine PFun.of_J D_ok Tryz.func226 rfl (by decide) (le' rfl) fun H E QF hF => ?_
  change J _ E 10 _ _ _
  refine J_seq' fun K1 hK1 => J0 ?_
  simp
  refine hK1 _ (J_seq' fun K2 hK2 => J0 ?_)
  simp
  refine (bits_fun n).call ?_
  simp
  refine (bits_fun n).call ?_
  simp
  refine hK2 _ (J_ret (hF _ _ ?_))
  simp [Tryz.f226]
theorem vsame_fun (v : Val) : PFun Tryz.prog 152 [.agg v.enc, .agg v.enc] (abool true) := by
  refine PFun.of_J D_ok Tryz.func152 rfl (by decide) (le' rfl) fun H E QF hF => ?_
  change J _ E 31 _ _ _
  refine J_seq' fun K1 hK1 => J2 2 3 ?_
  simp [Val.enc]
  refine hK1 _ (J_seq' fun K2 hK2 => J2 2 3 ?_)
  simp [sEq_self]
  refine (rsame_fun _).call ?_
  simp
  refine hK2 _ (J_ret (hF _ _ ?_))
  simp [Tryz.f152]
theorem psame_fun (xs : List Pro) : PFun Tryz.prog 86 [asl Pro.enc xs, asl Pro.enc xs] (abool true) := by
  refine PFun.of_J D_ok Tryz.func86 rfl (by decide) (le' rfl) fun H E QF hF => ?_
  change J _ E 42 _ _ _
  refine J_seq' fun K1 hK1 => J0 ?_
  simp
  refine hK1 _ (J_seq' fun K2 hK2 => J_seq' fun K3 hK3 => J0 ?_)
  simp
  refine hK3 _ (J_cond rfl (fun hc => by simp at hc) fun _ => J_skip ?_)
  simp only [thenQ]
  refine hK2 _ (J_seq' fun K5 hK5 => J_seq' fun K4 hK4 => J0 ?_)
  simp
  refine hK4 _ (J_slLen 11 rfl fun hx => J_block ?_)
  refine J_loop' (fun m s' => ∃ i : Nat, i ≤ xs.length ∧ m = xs.length - i ∧ Has [(0, asl Pro.enc xs), (1, asl Pro.enc xs), (12, aint xs.length), (13, aint i)] [] H s') (n := xs.length) ⟨0, by omega, by omega, by simp⟩ ?_
  rintro m s' ⟨i, hi, hm, hs'⟩ K hK
  refine J_has hs' ?_
  refine J_seq' fun K6 hK6 => J0 ?_
  simp
  refine hK6 _ (J_seq' fun K7 hK7 => J_cond rfl (fun hc => J_skip ?_) fun hc => J_exit ?_)
  · simp at hc
    obtain ⟨x, hxi⟩ : ∃ x, xs[i]? = some x := ⟨_, List.getElem?_eq_getElem (by omega)⟩
    have hat := at_Pro xs hxi
    have hc0 := cell_at hat 0 _ rfl
    have hv : ((xs.flatMap Pro.enc).drop (i * 5 + 1)).take 4 = x.val.enc := by rw [sub_at hat (by decide)]; rfl
    rw [Nat.add_zero] at hc0
    have hlen : (xs.flatMap Pro.enc).length = xs.length * 5 := flen_Pro xs
    simp only [thenQ, blockQ]
    refine hK7 _ (J_seq' fun K8 hK8 => J_block (J_seq' fun K9 hK9 => J0 ?_))
    simp
    refine hK9 _ (J_seq' fun K10 hK10 => D0 [0,1,2,3,4,5,6,7,8,9,10,11,12,13,14,15,16,17,18,19,20,21,22,23,24] [] (fun _ => []) rfl (by decide) (by decide) ?_)
    simp [hat, hc0, hc, hv, len_Pro, hlen]
    refine ⟨by omega, by simp [Val.enc], abool true, vsame_fun x.val, ?_⟩
    simp
    refine hK10 _ (J_cond rfl (fun hd => by simp at hd) fun hd => J_skip ?_)
    simp only [thenQ, blockQ]
    refine hK8 _ (J0 ?_)
    simp
    refine hK (xs.length - (i + 1)) _ (by omega) ⟨i + 1, by omega, rfl, ?_⟩
    simp
    rw [w64 (by omega) (by omega)]
  · simp at hc
    simp only [thenQ, blockQ, if_true]
    refine hK5 _ (J_seq' fun K10 hK10 => J0 ?_)
    simp
    refine hK10 _ (J_ret (hF _ _ ?_))
    simp [Tryz.f86]
theorem msame_fun (m : Msg) : PFun Tryz.prog 23 [.agg m.enc, .agg m.enc] (abool true) := by
  refine PFun.of_J D_ok Tryz.func23 rfl (by decide) (le' rfl) fun H E QF hF => ?_
  change J _ E 38 _ _ _
  refine J_seq' fun K1 hK1 => J2 2 3 ?_
  simp [Msg.enc]
  refine hK1 _ (J_seq' fun K2 hK2 => J2 2 3 ?_)
  simp
  refine (psame_fun _).call ?_
  simp
  refine hK2 _ (J_ret (hF _ _ ?_))
  simp [Tryz.f23]
theorem isame_fun (x : Itm) : PFun Tryz.prog 153 [.agg x.enc, .agg x.enc] (abool true) := by
  refine PFun.of_J D_ok Tryz.func153 rfl (by decide) (le' rfl) fun H E QF hF => ?_
  change J _ E 24 _ _ _
  refine J_seq' fun K1 hK1 => J2 2 3 ?_
  simp [Itm.enc, Msg.enc]
  refine hK1 _ (J_seq' fun K2 hK2 => J2 2 3 ?_)
  simp
  refine PFun.call (show PFun Tryz.prog 23 [.agg _, .agg _] _ from msame_fun x.msg) ?_
  simp
  refine hK2 _ (J_ret (hF _ _ ?_))
  simp [Tryz.f153]
theorem qsame_fun (q : Queue) : PFun Tryz.prog 87 [.agg q.enc, .agg q.enc] (abool true) := by
  refine PFun.of_J D_ok Tryz.func87 rfl (by decide) (le' rfl) fun H E QF hF => ?_
  change J _ E 123 _ _ _
  refine J_seq' fun K1 hK1 => J2 2 3 ?_
  simp [Queue.enc]
  refine hK1 _ (J_seq' fun K2 hK2 => J_seq' fun K3 hK3 => J2 2 3 ?_)
  simp
  refine hK3 _ (J_cond rfl (fun hc => by simp at hc) fun _ => J_skip ?_)
  simp only [thenQ]
  refine hK2 _ (J_seq' fun K5 hK5 => J_seq' fun K4 hK4 => J2 2 3 ?_)
  simp
  refine hK4 _ (J_slLen 61 rfl fun hni => J_block ?_)
  refine J_loop' (fun m s' => ∃ i : Nat, i ≤ q.items.length ∧ m = q.items.length - i ∧ Has [(2, .vp q.enc), (3, .vp q.enc), (62, aint q.items.length), (63, aint i)] [] H s') (n := q.items.length) ⟨0, by omega, by omega, by simp [Queue.enc]⟩ ?_
  rintro m s' ⟨i, hi, hm, hs'⟩ K hK
  refine J_has hs' ?_
  refine J_seq' fun K6 hK6 => J2 2 3 ?_
  simp
  refine hK6 _ (J_seq' fun K7 hK7 => J_cond rfl (fun hc => J_skip ?_) fun hc => J_exit ?_)
  · simp at hc
    obtain ⟨x, hxi⟩ : ∃ x, q.items[i]? = some x := ⟨_, List.getElem?_eq_getElem (by omega)⟩
    have hat := at_Itm _ hxi
    have hlen : (q.items.flatMap Itm.enc).length = q.items.length * 7 := flen_Itm _
    simp only [thenQ, blockQ]
    refine hK7 _ (J_seq' fun K8 hK8 => J_block (J_seq' fun K9 hK9 => J2 2 3 ?_))
    simp [Queue.enc]
    refine hK9 _ (J_seq' fun K10 hK10 => J_drawR' D_ok (cfg := ⟨123, fun k => k == 2 || k == 3⟩) [0,1,2,3,4,5,6,7,8,9,10,11] [] (fun _ => []) rfl (by decide) (by decide) ?_)
    simp [hat, hc, len_Itm, hlen]
    refine ⟨by omega, by simp [Itm.enc, Msg.enc], abool true, isame_fun x, ?_⟩
    simp
    refine hK10 _ (J_cond rfl (fun hd => by simp at hd) fun hd => J_skip ?_)
    simp only [thenQ, blockQ]
    refine hK8 _ (J2 2 3 ?_)
    simp
    refine hK (q.items.length - (i + 1)) _ (by omega) ⟨i + 1, by omega, rfl, ?_⟩
    simp [Queue.enc]
    rw [w64 (by omega) (by omega)]
  · simp at hc
    simp only [thenQ, blockQ, if_true]
    refine hK5 _ (J_seq' fun K12 hK12 => J_seq' fun K11 hK11 => J2 2 3 ?_)
    simp [Queue.enc]
    refine hK11 _ (J_slLen 80 rfl fun hni => J_block ?_)
    clear hK1 hK2 hK3 hK4 hK5 hK6 hK7 hK
    refine J_loop' (fun m s' => ∃ i : Nat, i ≤ q.held.length ∧ m = q.held.length - i ∧ Has [(2, .vp q.enc), (3, .vp q.enc), (81, aint q.held.length), (82, aint i)] [] H s') (n := q.held.length) ⟨0, by omega, by omega, by simp [Queue.enc]⟩ ?_
    rintro m s' ⟨i, hi, hm, hs'⟩ K hK
    refine J_has hs' ?_
    refine J_seq' fun K6 hK6 => J2 2 3 ?_
    simp
    refine hK6 _ (J_seq' fun K7 hK7 => J_cond rfl (fun hc => J_skip ?_) fun hc => J_exit ?_)
    · simp at hc
      obtain ⟨x, hxi⟩ : ∃ x, q.held[i]? = some x := ⟨_, List.getElem?_eq_getElem (by omega)⟩
      have hat := at_Hold _ hxi
      have hlen : (q.held.flatMap Hold.enc).length = q.held.length * 10 := flen_Hold _
      simp only [thenQ, blockQ]
      refine hK7 _ (J_seq' fun K8 hK8 => J_block (J_seq' fun K9 hK9 => J2 2 3 ?_))
      simp [Queue.enc]
      refine hK9 _ (J_seq' fun K10 hK10 => J_drawR' D_ok (cfg := ⟨123, fun k => k == 2 || k == 3⟩) [0,1,2,3,4,5,6,7,8,9,10,11] [12,13] (fun t => match t with | 12 => [5,6,7,8,9] | _ => []) rfl (by decide) (by decide) ?_)
      simp [hat, hc, len_Hold, hlen, noLL_Hold]
      repeat refine And.intro (by omega) ?_
      refine hK10 _ (J_has (T := [(2, .vp q.enc), (3, .vp q.enc), (7, .p (.l 7) 0), (8, .p (.l 8) 0), (81, aint q.held.length), (82, aint i)]) (L := [(8, x.enc), (7, x.enc)]) (H := H) ⟨by simp [Queue.enc], rfl, rfl⟩ ?_)
      refine J_seq' fun K11 hK11 => J2 2 3 ?_
      simp [Hold.enc, Itm.enc, Msg.enc]
      refine PFun.call (show PFun Tryz.prog 153 [.agg _, .agg _] _ from isame_fun x.item) ?_
      simp
      refine hK11 _ (J_cond rfl (fun hd => by simp at hd) fun hd => J_skip ?_)
      simp only [thenQ, blockQ]
      refine hK8 _ (J_subL [] (by simp) (J2 2 3 ?_))
      simp
      refine hK (q.held.length - (i + 1)) _ (by omega) ⟨i + 1, by omega, rfl, ?_⟩
      simp [Queue.enc]
      rw [w64 (by omega) (by omega)]
    · simp at hc
      simp only [thenQ, blockQ, if_true]
      refine hK12 _ (J_seq' fun K13 hK13 => J2 2 3 ?_)
      simp
      refine hK13 _ (J_ret (hF _ _ ?_))
      simp [Tryz.f87]
end
section
attribute [local simp] D_22 D_24 D_25 D_26 D_27 D_28 D_30 D_31 D_33 D_35 D_36 D_42 D_46 D_50 D_54 D_77 D_80 D_81 D_83 D_85 D_87 D_89 sEq_self plainOp Heap.put
attribute [local simp ↓] evTsR evQsh evQh
attribute [-simp] List.length_flatMap
set_option maxRecDepth 20000
theorem csame_fun (c : Core) : PFun Tryz.prog 24 [.agg c.enc, .agg c.enc] (abool true) := by
  refine PFun.of_J D_ok Tryz.func24 rfl (by decide) (le' rfl) fun H E QF hF => ?_
  change J _ E 186 _ _ _
  obtain ⟨now, qs, bs, ss, ks, ls⟩ := c
  obtain ⟨ce, hce⟩ : ∃ ce, ce = [aint now, asl Queue.enc qs, asl Bind.enc bs, asl Sub.enc ss, asl Msg.enc ks, asl Client.enc ls] := ⟨_, rfl⟩
  refine J_seq' fun K1 hK1 => J2 2 3 ?_
  simp [Core.enc]
  refine hK1 _ (J_seq' fun K2 hK2 => J_seq' fun K3 hK3 => J2 2 3 ?_)
  simp
  refine hK3 _ (J_cond rfl (fun hc => by simp at hc) fun _ => J_skip ?_)
  simp only [thenQ]
  refine hK2 _ (J_seq' fun KA0 hKA0 => J_seq' fun KL0 hKL0 => J2 2 3 ?_)
  simp
  clear hK1 hK2 hK3
  refine hKL0 _ (J_slLen 64 rfl fun hn0 => J_block ?_)
  refine J_loop' (fun m s' => ∃ i : Nat, i ≤ qs.length ∧ m = qs.length - i ∧ Has [(2, .vp ce), (3, .vp ce), (65, aint qs.length), (66, aint i)] [] H s') (n := qs.length) ⟨0, by omega, by omega, by simp [hce]⟩ ?_
  rintro m s' ⟨i, hi, hm, hs'⟩ K hK
  refine J_has hs' ?_
  refine J_seq' fun K6 hK6 => J2 2 3 ?_
  simp
  refine hK6 _ (J_seq' fun K7 hK7 => J_cond rfl (fun hc => J_skip ?_) fun hc => J_exit ?_)
  · simp at hc
    obtain ⟨x, hxi⟩ : ∃ x, qs[i]? = some x := ⟨_, List.getElem?_eq_getElem (by omega)⟩
    have hat := at_Queue _ hxi
    have hmem := List.mem_of_getElem? hxi
    have hlen : (qs.flatMap Queue.enc).length = qs.length * 7 := flen_Queue _
    simp only [thenQ, blockQ]
    refine hK7 _ (J_seq' fun K8 hK8 => J_block (J_seq' fun K9 hK9 => J2 2 3 ?_))
    simp [hce]
    have step : ∀ s', Has [(2, .vp ce), (3, .vp ce), (65, aint qs.length), (66, aint i)] s'.L H s' → K8 s' := by
      intro s' hs'
      refine hK8 _ (J_has hs' (J_subL [] (by simp) (J2 2 3 ?_)))
      simp
      refine hK (qs.length - (i + 1)) _ (by omega) ⟨i + 1, by omega, rfl, ?_⟩
      simp
      rw [w64 (by omega) (by omega)]
    refine hK9 _ (J_seq' fun K10 hK10 => J_drawR' D_ok (cfg := ⟨186, fun k => k == 2 || k == 3⟩) [0,1,2,3,4,5,6,7,8,9,10,11] [] (fun _ => []) rfl (by decide) (by decide) ?_)
    simp [hat, hc, len_Queue, hlen]
    refine ⟨by omega, by simp [Queue.enc], abool true, qsame_fun x, ?_⟩
    simp
    refine hK10 _ (J_cond rfl (fun hd => by simp at hd) fun hd => J_skip ?_)
    simp only [thenQ, blockQ]
    exact step _ ⟨by simp [hce], rfl, rfl⟩
  simp at hc
  simp only [thenQ, blockQ, if_true]
  clear hKL0 hK6 hK7 hK
  refine hKA0 _ (J_seq' fun KA1 hKA1 => J_seq' fun KL1 hKL1 => J2 2 3 ?_)
  simp [hce]
  clear hKA0
  refine hKL1 _ (J_slLen 83 rfl fun hn1 => J_block ?_)
  refine J_loop' (fun m s' => ∃ i : Nat, i ≤ bs.length ∧ m = bs.length - i ∧ Has [(2, .vp ce), (3, .vp ce), (84, aint bs.length), (85, aint i)] [] H s') (n := bs.length) ⟨0, by omega, by omega, by simp [hce]⟩ ?_
  rintro m s' ⟨i, hi, hm, hs'⟩ K hK
  refine J_has hs' ?_
  refine J_seq' fun K6 hK6 => J2 2 3 ?_
  simp
  refine hK6 _ (J_seq' fun K7 hK7 => J_cond rfl (fun hc => J_skip ?_) fun hc => J_exit ?_)
  · simp at hc
    obtain ⟨x, hxi⟩ : ∃ x, bs[i]? = some x := ⟨_, List.getElem?_eq_getElem (by omega)⟩
    have hat := at_Bind _ hxi
    have hmem := List.mem_of_getElem? hxi
    have hlen : (bs.flatMap Bind.enc).length = bs.length * 2 := flen_Bind _
    simp only [thenQ, blockQ]
    refine hK7 _ (J_seq' fun K8 hK8 => J_block (J_seq' fun K9 hK9 => J2 2 3 ?_))
    simp [hce]
    have step : ∀ s', Has [(2, .vp ce), (3, .vp ce), (84, aint bs.length), (85, aint i)] s'.L H s' → K8 s' := by
      intro s' hs'
      refine hK8 _ (J_has hs' (J_subL [] (by simp) (J2 2 3 ?_)))
      simp
      refine hK (bs.length - (i + 1)) _ (by omega) ⟨i + 1, by omega, rfl, ?_⟩
      simp
      rw [w64 (by omega) (by omega)]
    refine hK9 _ (J_seq' fun K10 hK10 => J_drawR' D_ok (cfg := ⟨186, fun k => k == 2 || k == 3⟩) [0,1,2,3,4,5,6,7,8,9,10] [] (fun _ => []) rfl (by decide) (by decide) ?_)
    simp [hat, hc, len_Bind, hlen, Bind.enc, fieldsEq, fieldEq]
    refine ⟨by omega, hK10 _ (J_cond rfl (fun hd => by simp at hd) fun hd => J_skip ?_)⟩
    simp only [thenQ, blockQ]
    exact step _ ⟨by simp [hce], rfl, rfl⟩
  simp at hc
  simp only [thenQ, blockQ, if_true]
  clear hKL1 hK6 hK7 hK
  refine hKA1 _ (J_seq' fun KA2 hKA2 => J_seq' fun KL2 hKL2 => J2 2 3 ?_)
  simp [hce]
  clear hKA1
  refine hKL2 _ (J_slLen 101 rfl fun hn2 => J_block ?_)
  refine J_loop' (fun m s' => ∃ i : Nat, i ≤ ss.length ∧ m = ss.length - i ∧ Has [(2, .vp ce), (3, .vp ce), (102, aint ss.length), (103, aint i)] [] H s') (n := ss.length) ⟨0, by omega, by omega, by simp [hce]⟩ ?_
  rintro m s' ⟨i, hi, hm, hs'⟩ K hK
  refine J_has hs' ?_
  refine J_seq' fun K6 hK6 => J2 2 3 ?_
  simp
  refine hK6 _ (J_seq' fun K7 hK7 => J_cond rfl (fun hc => J_skip ?_) fun hc => J_exit ?_)
  · simp at hc
    obtain ⟨x, hxi⟩ : ∃ x, ss[i]? = some x := ⟨_, List.getElem?_eq_getElem (by omega)⟩
    have hat := at_Sub _ hxi
    have hmem := List.mem_of_getElem? hxi
    have hlen : (ss.flatMap Sub.enc).length = ss.length * 5 := flen_Sub _
    simp only [thenQ, blockQ]
    refine hK7 _ (J_seq' fun K8 hK8 => J_block (J_seq' fun K9 hK9 => J2 2 3 ?_))
    simp [hce]
    have step : ∀ s', Has [(2, .vp ce), (3, .vp ce), (102, aint ss.length), (103, aint i)] s'.L H s' → K8 s' := by
      intro s' hs'
      refine hK8 _ (J_has hs' (J_subL [] (by simp) (J2 2 3 ?_)))
      simp
      refine hK (ss.length - (i + 1)) _ (by omega) ⟨i + 1, by omega, rfl, ?_⟩
      simp
      rw [w64 (by omega) (by omega)]
    refine hK9 _ (J_seq' fun K10 hK10 => J_drawR' D_ok (cfg := ⟨186, fun k => k == 2 || k == 3⟩) [0,1,2,3,4,5,6,7,8,9,10] [] (fun _ => []) rfl (by decide) (by decide) ?_)
    simp [hat, hc, len_Sub, hlen, Sub.enc, fieldsEq, fieldEq]
    refine ⟨by omega, hK10 _ (J_cond rfl (fun hd => by simp at hd) fun hd => J_skip ?_)⟩
    simp only [thenQ, blockQ]
    exact step _ ⟨by simp [hce], rfl, rfl⟩
  simp at hc
  simp only [thenQ, blockQ, if_true]
  clear hKL2 hK6 hK7 hK
  refine hKA2 _ (J_seq' fun KA3 hKA3 => J_seq' fun KL3 hKL3 => J2 2 3 ?_)
  simp [hce]
  clear hKA2
  refine hKL3 _ (J_slLen 119 rfl fun hn3 => J_block ?_)
  refine J_loop' (fun m s' => ∃ i : Nat, i ≤ ks.length ∧ m = ks.length - i ∧ Has [(2, .vp ce), (3, .vp ce), (120, aint ks.length), (121, aint i)] [] H s') (n := ks.length) ⟨0, by omega, by omega, by simp [hce]⟩ ?_
  rintro m s' ⟨i, hi, hm, hs'⟩ K hK
  refine J_has hs' ?_
  refine J_seq' fun K6 hK6 => J2 2 3 ?_
  simp
  refine hK6 _ (J_seq' fun K7 hK7 => J_cond rfl (fun hc => J_skip ?_) fun hc => J_exit ?_)
  · simp at hc
    obtain ⟨x, hxi⟩ : ∃ x, ks[i]? = some x := ⟨_, List.getElem?_eq_getElem (by omega)⟩
    have hat := at_Msg _ hxi
    have hmem := List.mem_of_getElem? hxi
    have hlen : (ks.flatMap Msg.enc).length = ks.length * 5 := flen_Msg _
    simp only [thenQ, blockQ]
    refine hK7 _ (J_seq' fun K8 hK8 => J_block (J_seq' fun K9 hK9 => J2 2 3 ?_))
    simp [hce]
    have step : ∀ s', Has [(2, .vp ce), (3, .vp ce), (120, aint ks.length), (121, aint i)] s'.L H s' → K8 s' := by
      intro s' hs'
      refine hK8 _ (J_has hs' (J_subL [] (by simp) (J2 2 3 ?_)))
      simp
      refine hK (ks.length - (i + 1)) _ (by omega) ⟨i + 1, by omega, rfl, ?_⟩
      simp
      rw [w64 (by omega) (by omega)]
    refine hK9 _ (J_seq' fun K10 hK10 => J_drawR' D_ok (cfg := ⟨186, fun k => k == 2 || k == 3⟩) [0,1,2,3,4,5,6,7,8,9,10,11] [] (fun _ => []) rfl (by decide) (by decide) ?_)
    simp [hat, hc, len_Msg, hlen]
    refine ⟨by omega, by simp [Msg.enc], abool true, msame_fun x, ?_⟩
    simp
    refine hK10 _ (J_cond rfl (fun hd => by simp at hd) fun hd => J_skip ?_)
    simp only [thenQ, blockQ]
    exact step _ ⟨by simp [hce], rfl, rfl⟩
  simp at hc
  simp only [thenQ, blockQ, if_true]
  clear hKL3 hK6 hK7 hK
  refine hKA3 _ (J_seq' fun KA4 hKA4 => J_seq' fun KL4 hKL4 => J2 2 3 ?_)
  simp [hce]
  clear hKA3
  refine hKL4 _ (J_slLen 138 rfl fun hn4 => J_block ?_)
  refine J_loop' (fun m s' => ∃ i : Nat, i ≤ ls.length ∧ m = ls.length - i ∧ Has [(2, .vp ce), (3, .vp ce), (139, aint ls.length), (140, aint i)] [] H s') (n := ls.length) ⟨0, by omega, by omega, by simp [hce]⟩ ?_
  rintro m s' ⟨i, hi, hm, hs'⟩ K hK
  refine J_has hs' ?_
  refine J_seq' fun K6 hK6 => J2 2 3 ?_
  simp
  refine hK6 _ (J_seq' fun K7 hK7 => J_cond rfl (fun hc => J_skip ?_) fun hc => J_exit ?_)
  · simp at hc
    obtain ⟨x, hxi⟩ : ∃ x, ls[i]? = some x := ⟨_, List.getElem?_eq_getElem (by omega)⟩
    have hat := at_Client _ hxi
    have hmem := List.mem_of_getElem? hxi
    have hlen : (ls.flatMap Client.enc).length = ls.length * 2 := flen_Client _
    simp only [thenQ, blockQ]
    refine hK7 _ (J_seq' fun K8 hK8 => J_block (J_seq' fun K9 hK9 => J2 2 3 ?_))
    simp [hce]
    have step : ∀ s', Has [(2, .vp ce), (3, .vp ce), (139, aint ls.length), (140, aint i)] s'.L H s' → K8 s' := by
      intro s' hs'
      refine hK8 _ (J_has hs' (J_subL [] (by simp) (J2 2 3 ?_)))
      simp
      refine hK (ls.length - (i + 1)) _ (by omega) ⟨i + 1, by omega, rfl, ?_⟩
      simp
      rw [w64 (by omega) (by omega)]
    refine hK9 _ (J_seq' fun K10 hK10 => J_drawR' D_ok (cfg := ⟨186, fun k => k == 2 || k == 3⟩) [0,1,2,3,4,5,6,7,8,9,10,11] [12,13] (fun t => match t with | 12 => [5,6,7,8,9] | _ => []) rfl (by decide) (by decide) ?_)
    simp [hat, hc, len_Client, hlen, noLL_Client]
    repeat refine And.intro (by omega) ?_
    refine hK10 _ (J_has (T := [(2, .vp ce), (3, .vp ce), (10, .p (.l 10) 0), (11, .p (.l 11) 0), (139, aint ls.length), (140, aint i)]) (L := [(11, x.enc), (10, x.enc)]) (H := H) ⟨by simp [hce], rfl, rfl⟩ ?_)
    refine J_seq' fun K11 hK11 => J_seq' fun K12 hK12 => J2 2 3 ?_
    simp [Client.enc]
    refine hK12 _ (J_cond rfl (fun hd => by simp at hd) fun hd => J_skip ?_)
    simp only [thenQ, blockQ]
    refine hK11 _ (J_seq' fun K13 hK13 => J2 2 3 ?_)
    simp
    refine hK13 _ (J_slLen 168 rfl fun hnp => J_block ?_)
    refine J_loop' (fun m s' => ∃ j : Nat, j ≤ x.packets.length ∧ m = x.packets.length - j ∧ Has [(2, .vp ce), (3, .vp ce), (10, .p (.l 10) 0), (11, .p (.l 11) 0), (139, aint ls.length), (140, aint i), (169, aint x.packets.length), (170, aint j)] [(11, x.enc), (10, x.enc)] H s') (n := x.packets.length) ⟨0, by omega, by omega, by simp [Client.enc]⟩ ?_
    rintro m s' ⟨j, hj, hm, hs'⟩ K2 hK2
    refine J_has hs' ?_
    refine J_seq' fun K14 hK14 => J2 2 3 ?_
    simp
    refine hK14 _ (J_seq' fun K15 hK15 => J_cond rfl (fun hc => J_skip ?_) fun hc => J_exit ?_)
    · simp at hc
      obtain ⟨y, hyi⟩ : ∃ y, x.packets[j]? = some y := ⟨_, List.getElem?_eq_getElem (by omega)⟩
      have hay := at_Num _ hyi
      have hc0 := cell_at hay 0 _ rfl
      rw [Nat.add_zero, Nat.mul_one] at hc0
      have hlen : (x.packets.flatMap Num.enc).length = x.packets.length * 1 := flen_Num _
      simp only [thenQ, blockQ]
      refine hK15 _ (J_seq' fun K16 hK16 => J_block (J_seq' fun K17 hK17 => J2 2 3 ?_))
      simp [Client.enc]
      refine hK17 _ (J_seq' fun K18 hK18 => J_drawR' D_ok (cfg := ⟨186, fun k => k == 2 || k == 3⟩) [0,1,2,3,4,5,6,7,8,9,10] [] (fun _ => []) rfl (by decide) (by decide) ?_)
      simp [hay, hc, hc0, len_Num, hlen]
      repeat refine And.intro (by omega) ?_
      refine hK18 _ (J_cond rfl (fun hd => by simp at hd) fun hd => J_skip ?_)
      simp only [thenQ, blockQ]
      refine hK16 _ (J2 2 3 ?_)
      simp
      refine hK2 (x.packets.length - (j + 1)) _ (by omega) ⟨j + 1, by omega, rfl, ?_⟩
      simp [Client.enc, hce]
      rw [w64 (by omega) (by omega)]
    · simp only [thenQ, blockQ, if_true]
      exact step _ ⟨by simp [hce], rfl, rfl⟩
  simp at hc
  simp only [thenQ, blockQ, if_true]
  clear hKL4 hK6 hK7 hK
  refine hKA4 _ (J_seq' fun KB hKB => J2 2 3 ?_)
  simp [hce]
  refine hKB _ (J_ret (hF _ _ ?_))
  simp [Tryz.f24]
theorem osame_fun (xs : List Out) : PFun Tryz.prog 33 [asl Out.enc xs, asl Out.enc xs] (abool true) := by
  refine PFun.of_J D_ok Tryz.func33 rfl (by decide) (le' rfl) fun H E QF hF => ?_
  change J _ E 75 _ _ _
  refine J_seq' fun K1 hK1 => J0 ?_
  simp
  refine hK1 _ (J_seq' fun K2 hK2 => J_seq' fun K3 hK3 => J0 ?_)
  simp
  refine hK3 _ (J_cond rfl (fun hc => by simp at hc) fun _ => J_skip ?_)
  simp only [thenQ]
  refine hK2 _ (J_seq' fun K5 hK5 => J_seq' fun K4 hK4 => J0 ?_)
  simp
  refine hK4 _ (J_slLen 13 rfl fun hn => J_block ?_)
  refine J_loop' (fun m s' => ∃ i : Nat, i ≤ xs.length ∧ m = xs.length - i ∧ Has [(0, asl Out.enc xs), (1, asl Out.enc xs), (14, aint xs.length), (15, aint i)] [] H s') (n := xs.length) ⟨0, by omega, by omega, by simp⟩ ?_
  rintro m s' ⟨i, hi, hm, hs'⟩ K hK
  refine J_has hs' ?_
  refine J_seq' fun K6 hK6 => J0 ?_
  simp
  refine hK6 _ (J_seq' fun K7 hK7 => J_cond rfl (fun hc => J_skip ?_) fun hc => J_exit ?_)
  · simp at hc
    obtain ⟨x, hxi⟩ : ∃ x, xs[i]? = some x := ⟨_, List.getElem?_eq_getElem (by omega)⟩
    have hat := at_Out _ hxi
    have hlen : (xs.flatMap Out.enc).length = xs.length * 11 := flen_Out _
    simp only [thenQ, blockQ]
    refine hK7 _ (J_seq' fun K8 hK8 => J_block (J_seq' fun K9 hK9 => J0 ?_))
    simp
    refine hK9 _ (J_seq' fun K10 hK10 => D0 [0,1,2,3,4,5,6,7,8,9] [10,11] (fun t => match t with | 10 => [4,5,6,7] | _ => []) rfl (by decide) (by decide) ?_)
    simp [hat, hc, len_Out, hlen, noLL_Out]
    repeat refine And.intro (by omega) ?_
    refine hK10 _ (J_has (T := [(0, asl Out.enc xs), (1, asl Out.enc xs), (6, .p (.l 6) 0), (7, .p (.l 7) 0), (14, aint xs.length), (15, aint i)]) (L := [(7, x.enc), (6, x.enc)]) (H := H) ⟨by simp, rfl, rfl⟩ ?_)
    refine J_seq' fun K11 hK11 => J0 ?_
    simp [Out.enc, Msg.enc]
    refine PFun.call (show PFun Tryz.prog 23 [.agg _, .agg _] _ from msame_fun x.msg) ?_
    simp
    refine hK11 _ (J_cond rfl (fun hd => by simp at hd) fun hd => J_skip ?_)
    simp only [thenQ, blockQ]
    refine hK8 _ (J_subL [] (by simp) (J0 ?_))
    simp
    refine hK (xs.length - (i + 1)) _ (by omega) ⟨i + 1, by omega, rfl, ?_⟩
    simp
    rw [w64 (by omega) (by omega)]
  · simp at hc
    simp only [thenQ, blockQ, if_true]
    refine hK5 _ (J_seq' fun K10 hK10 => J0 ?_)
    simp
    refine hK10 _ (J_ret (hF _ _ ?_))
    simp [Tryz.f33]
end
section
theorem feed_len {i : Nat} : ∀ (n : Nat) (t t' : Turn), COk t.core → feed n t i = .ok t' → t'.out.length ≤ t.out.length + n
  | 0, t, t', h, hp => by simp only [feed] at hp; cases hp; omega
  | n + 1, t, t', h, hp => by
    simp only [feed] at hp
    split at hp
    · cases hp; omega
    · split at hp
      · cases hp; omega
      · split at hp
        · cases hp; omega
        · split at hp
          · cases hp
          · rename_i t1 h1
            obtain ⟨a, b⟩ := takeT_okc h h1
            have := feed_len n t1 t' a hp
            omega
theorem pumpStep_len {t t' : Turn} {i : Nat} (h : COk t.core) (hp : pumpStep t i = .ok t') : t'.out.length ≤ t.out.length + 64 := by
  unfold pumpStep at hp
  split at hp
  · cases hp
  · rename_i t1 h1
    obtain ⟨a, b⟩ := expireT_ok h h1
    unfold feedAll at hp
    split at hp
    · cases hp; rw [b]; omega
    · rename_i q hq
      have hq := a.q q (List.mem_of_getElem? hq)
      have h1 := hq.len
      have h2 := hq.dep2
      have := feed_len _ _ _ a hp
      rw [b] at this
      omega
theorem steps_len {f : Turn → Nat → Except Int Turn} (k : Nat) (hf : ∀ t t' i, COk t.core → f t i = .ok t' → COk t'.core ∧ t'.out.length ≤ t.out.length + k) : ∀ (n i : Nat) (t t' : Turn), COk t.core → stepsQ f n i t = .ok t' → t'.out.length ≤ t.out.length + n * k
  | 0, i, t, t', h, hs => by simp only [stepsQ] at hs; cases hs; omega
  | n + 1, i, t, t', h, hs => by
    rw [stepsQ_succ] at hs
    split at hs
    · cases hs
    · rename_i t1 h1
      obtain ⟨a, b⟩ := hf _ _ _ h h1
      have := steps_len k hf n (i + 1) t1 t' a hs
      rw [Nat.succ_mul]; omega
theorem pumpT_len {t t' : Turn} (h : COk t.core) (hp : pumpT t = .ok t') : t'.out.length ≤ t.out.length + 1024 := by
  have := steps_len 64 (fun u u' i hu he => ⟨pumpStep_ok hu he, pumpStep_len hu he⟩) _ _ _ t' h hp
  have h2 := h.nq
  have : t.core.queues.length * 64 ≤ 16 * 64 := Nat.mul_le_mul_right 64 h2
  omega
theorem doT_ok (c : Core) (o : Tv.Oper) : COk (doT c o).1 ∧ (doT c o).2.1.length ≤ 1040 := by
  unfold doT
  split
  · exact ⟨COk.empty, by simp⟩
  rename_i hg
  have hc : COk c := (coreGood_iff c).mp (by
    rcases Bool.eq_false_or_eq_true (coreGood c) with e | e
    · exact e
    · exact absurd (.inr e) hg)
  split
  · exact ⟨COk.empty, by simp⟩
  rename_i t ht
  obtain ⟨a, b⟩ := callT_ok (t := ⟨c, []⟩) hc ht
  split
  · exact ⟨COk.empty, by simp⟩
  rename_i t' ht'
  have := pumpT_len a ht'
  simp at b
  exact ⟨pumpT_ok a ht', by simp only; omega⟩
theorem doT_err {c : Core} {o : Tv.Oper} (h : (doT c o).2.2 ≠ 0) : (doT c o).1 = noCore ∧ (doT c o).2.1 = [] := by
  unfold doT at h ⊢
  split at h
  · rename_i hg; rw [if_pos hg]; exact ⟨rfl, rfl⟩
  rename_i hg
  rw [if_neg hg]
  split at h
  · exact ⟨rfl, rfl⟩
  split at h
  · exact ⟨rfl, rfl⟩
  · exact absurd rfl h
def runL : List Tv.Oper → Nat → Core → List Out → Core × List Out × Int × Int
  | [], _, c, out => (c, out, 0, 0)
  | o :: os, i, c, out => if (doT c o).2.2 ≠ 0 then (noCore, [], i, (doT c o).2.2) else runL os (i + 1) (doT c o).1 (out ++ (doT c o).2.1)
def runT (c : Core) (os : List Tv.Oper) : Core × List Out × Int × Int :=
  if coreGood c = false ∨ 16 < os.length then (noCore, [], 0, 1) else runL os 0 c []
theorem runT_one {c : Core} (hc : COk c) (o : Tv.Oper) : runT c [o] = ((doT c o).1, (doT c o).2.1, 0, (doT c o).2.2) := by
  have hg : coreGood c = true := (coreGood_iff c).mpr hc
  unfold runT
  rw [if_neg (by simp [hg])]
  simp only [runL, List.nil_append]
  split
  · rename_i h
    obtain ⟨a, b⟩ := doT_err h
    rw [a, b]; rfl
  · rename_i h
    have h : (doT c o).2.2 = 0 := by simpa using h
    rw [h]
theorem runT_none {c : Core} (hc : COk c) : runT c [] = (c, [], 0, 0) := by
  have hg : coreGood c = true := (coreGood_iff c).mpr hc
  unfold runT
  rw [if_neg (by simp [hg])]
  rfl
def behindT : List Tv.Oper → Core → Core
  | [], c => c
  | o :: os, c => behindT os (if (doT c o).2.2 = 0 then (doT c o).1 else c)
theorem behindT_ok : ∀ (os : List Tv.Oper) (c : Core), COk c → COk (behindT os c)
  | [], c, h => h
  | o :: os, c, h => by
    refine behindT_ok os _ ?_
    split
    · exact (doT_ok c o).1
    · exact h
end
section
attribute [local simp] plainOp Heap.put flen_Cl noLLf_Cl killf_Cl D_36 D_42 D_33 D_50 D_77 D_37 D_24 D_25 D_26 D_27 D_28 D_87 D_30 D_54 D_46 D_89 D_105 D_103 D_102 D_35 D_101 D_80 D_118 D_124 D_121 D_31 D_257 D_244 D_131 D_130 AV.hz hzS hzL AV.hfree AV.hfreeL AV.flatOk D_98 D_22 AS.esc renSf renLf AV.ren AV.renL escF
attribute [local simp ↓] evTsR evQsh evQh
attribute [-simp] List.length_flatMap
theorem runT_fun (c : Core) (os : List Tv.Oper) (hc : CFit c) (ho : ∀ o ∈ os, OFit o) : PFun Tryz.prog 32 [.agg c.enc, asl Oper.enc os] (.tup [.agg (runT c os).1.enc, asl Out.enc (runT c os).2.1, aint (runT c os).2.2.1, aint (runT c os).2.2.2]) := by
  refine PFun.of_J D_ok Tryz.func32 rfl (by decide) (le' rfl) fun H E QF hF => ?_
  change J _ E 52 _ _ _
  refine J_seq' fun K1 hK1 => J1 2 ?_
  simp [len_Core, noLL_Core]
  refine hK1 _ (J_has (T := [(1, asl Oper.enc os), (2, .vp c.enc), (4, .p (.l 4) 0), (5, .sl0), (6, aint 0), (7, aint 0)]) (L := [(4, zeroC)]) (H := H) ⟨by simp, by simp [zeroC], rfl⟩ ?_)
  refine J_seq' fun K2 hK2 => J_seq' fun K3 hK3 => J1 2 ?_
  simp [take_Core, len_Core, noLL_Core]
  refine (coreGood_fun c hc).call ?_
  simp
  have bad : coreGood c = false ∨ 16 < os.length → ∀ s', Has [(4, .p (.l 4) 0), (22, abool true)] [(4, zeroC)] H s' → K3 s' := by
    intro hb s' hs'
    refine hK3 _ (J_has hs' (J_cond rfl (fun _ => ?_) fun hd => by simp at hd))
    refine J_seq' fun K4 hK4 => J1 2 ?_
    simp [zeroC]
    refine hK4 _ (J_ret (hF _ _ ?_))
    simp [Tryz.f32, runT, hb, noCore, Core.enc]
  refine ⟨fun hg => ?_, fun hg => bad (.inl hg) _ ⟨by simp, rfl, rfl⟩⟩
  rcases Nat.lt_or_ge 16 os.length with h16 | h16
  · exact bad (.inr h16) _ ⟨by simp; omega, rfl, rfl⟩
  clear bad
  have hrun : runT c os = runL os 0 c [] := by
    unfold runT
    rw [if_neg (by simp [hg]; omega)]
  refine hK3 _ (J_cond rfl (fun hd => by simp at hd; omega) fun hd => J_skip ?_)
  simp only [thenQ]
  clear hd hK3 hK1
  refine hK2 _ (J_seq' fun K4 hK4 => J1 2 ?_)
  simp [take_Core, len_Core, noLL_Core]
  refine (copyH_fun c hc H).mono ?_
  rintro e H2 ⟨N, cls, P, rfl, hO, hcl, _⟩
  simp [crow]
  refine hK4 _ (J_has (T := [(1, asl Oper.enc os), (4, .p (.l 4) 0), (8, .p (.l 8) 0)]) (L := [(8, crow N c cls.length), (4, zeroC)]) (H := H2) ⟨by simp, by simp [crow, zeroC], rfl⟩ ?_)
  refine J_turn (turns_core N c cls P 8 (by omega) _ [(4, zeroC)] H _ (by simp) (by simp [zeroC]) hO hcl) ?_
  clear hO hcl hK2 hK4
  refine J_seq' fun K5 hK5 => J1 2 ?_
  simp
  refine hK5 _ (J_nil 9 11 (by simp) fun k0 hk0 => ?_)
  simp
  refine J_seq' fun K7 hK7 => J_seq' fun K6 hK6 => J1 2 ?_
  simp
  refine hK6 _ (J_block ?_)
  refine J_loop' (fun m s' => ∃ (i : Nat) (ci : Core) (out : List Out) (k : Nat), i ≤ os.length ∧ m = os.length - i ∧ CFit ci ∧ out.length ≤ i * 1040 ∧ runL os 0 c [] = runL (os.drop i) i ci out ∧ H k = none ∧ Has [(4, .p (.l 4) 0), (8, .p (.l 8) 0), (9, .os (.h k) 11 0 out.length), (26, asl Oper.enc os), (27, aint os.length), (28, aint i)] [(8, ci.enc), (4, zeroC)] (fun m => if m = k then some (out.flatMap Out.enc) else H m) s') (n := os.length) ⟨0, c, [], k0, by omega, by omega, hc, by simp, rfl, hk0, by simp⟩ ?_
  rintro m s' ⟨i, ci, out, k, hi, hm, hci, hout, hrl, hk, hs'⟩ K hK
  clear hK5 hK6 hk0
  refine J_has hs' ?_
  refine J_seq' fun K8 hK8 => J1 2 ?_
  simp
  refine hK8 _ (J_seq' fun K9 hK9 => J_cond rfl (fun hd => J_skip ?_) fun hd => J_exit ?_)
  rotate_left
  · simp at hd
    have hie : i = os.length := by omega
    subst hie
    rw [List.drop_length] at hrl
    simp only [thenQ, blockQ, if_true]
    refine hK7 _ (J_seq' fun K10 hK10 => J1 2 ?_)
    simp [take_Core, len_Core, noLL_Core, zeroC]
    refine hK10 _ ?_
    refine J_turn (Turns.hfrz k (cs := out.flatMap Out.enc) (by simp) (hf_flat hf_Out _) (noLLf_Out _) (by simp [Core.enc]) (by simp [Core.enc])) ?_
    have wout := take_whole len_Out out
    refine J_has (T := [(4, .p (.l 4) 0), (5, asl Out.enc out), (6, aint 0), (7, aint 0)]) (L := [(8, ci.enc), (4, ci.enc)]) (H := H) ⟨by simp [wout, Core.enc], by simp [Core.enc], ?_⟩ ?_
    · funext m
      by_cases e : m = k
      · subst e; simp [hk]
      · simp [e]
    refine J_ret (hF _ _ ?_)
    rw [hrun, hrl]
    simp [Tryz.f32, runL, Core.enc]
  simp at hd
  obtain ⟨o, hoi⟩ : ∃ o, os[i]? = some o := ⟨_, List.getElem?_eq_getElem (by omega)⟩
  have hat := at_Oper os hoi
  have hof := ho o (List.mem_of_getElem? hoi)
  have hdr : os.drop i = o :: os.drop (i + 1) := drop_at hoi
  rw [hdr] at hrl
  simp only [runL] at hrl
  simp only [thenQ, blockQ]
  refine hK9 _ (J_seq' fun K10 hK10 => J_block (J_seq' fun K11 hK11 => J1 2 ?_))
  simp [hat, hd, len_Oper, noLL_Oper, kill_Oper]
  repeat refine And.intro (by omega) ?_
  refine hK11 _ (J_has (T := [(4, .p (.l 4) 0), (8, .p (.l 8) 0), (9, .os (.h k) 11 0 out.length), (10, aint i), (11, .p (.l 11) 0), (26, asl Oper.enc os), (27, aint os.length), (28, aint i)]) (L := [(11, o.enc), (8, ci.enc), (4, zeroC)]) (H := fun m => if m = k then some (out.flatMap Out.enc) else H m) ⟨by simp, by simp [len_Oper, Oper.enc, Core.enc, zeroC], rfl⟩ ?_)
  refine J_seq' fun K12 hK12 => J1 2 ?_
  simp [take_Core, len_Core, noLL_Core, len_Oper, noLL_Oper, take_Oper]
  refine (doT_fun ci o hci hof).call ?_
  simp
  simp [kill_Core, kill_Oper, len_Core]
  obtain ⟨hok, hol⟩ := doT_ok ci o
  generalize hd1 : (doT ci o).1 = c2 at hrl hok ⊢
  generalize hd2 : (doT ci o).2.1 = o2 at hrl hol ⊢
  generalize hd3 : (doT ci o).2.2 = e2 at hrl ⊢
  refine hK12 _ (J_has (T := [(4, .p (.l 4) 0), (8, .p (.l 8) 0), (9, .os (.h k) 11 0 out.length), (10, aint i), (12, .p (.l 12) 0), (13, asl Out.enc o2), (14, aint e2), (26, asl Oper.enc os), (27, aint os.length), (28, aint i)]) (L := [(12, c2.enc), (11, o.enc), (8, ci.enc), (4, zeroC)]) (H := fun m => if m = k then some (out.flatMap Out.enc) else H m) ⟨by simp, by simp [Core.enc, zeroC], rfl⟩ ?_)
  refine J_subL [(12, c2.enc), (8, ci.enc), (4, zeroC)] (fun k cs => ?_) ?_
  · simp only [lookL]
    intro h
    split at h
    · rename_i e; subst e; simpa using h
    split at h
    · rename_i e; subst e; simpa using h
    split at h
    · rename_i e; subst e; simpa using h
    · cases h
  refine J_seq' fun K13 hK13 => J_seq' fun K14 hK14 => J1 2 ?_
  simp
  refine hK14 _ (J_cond rfl (fun he => ?_) fun he => J_skip ?_)
  · have he : e2 ≠ 0 := by simpa using he
    rw [if_pos he] at hrl
    refine J_seq' fun K15 hK15 => J1 2 ?_
    simp [zeroC]
    refine hK15 _ (J_turn (Turns.hfrz k (cs := out.flatMap Out.enc) (by simp) (hf_flat hf_Out _) (noLLf_Out _) (by simp [Core.enc]) (by simp [Core.enc])) ?_)
    refine J_has (T := [(4, .p (.l 4) 0), (5, .sl0), (6, aint i), (7, aint e2)]) (L := [(12, c2.enc), (8, ci.enc), (4, zeroC)]) (H := H) ⟨by simp, by simp [Core.enc, zeroC], ?_⟩ ?_
    · funext m
      by_cases e : m = k
      · subst e; simp [hk]
      · simp [e]
    refine J_ret (hF _ _ ?_)
    rw [hrun, hrl]
    simp [Tryz.f32, Core.enc, noCore, zeroC]
  have he : e2 = 0 := by simpa using he
  rw [if_neg (by simp [he])] at hrl
  simp only [thenQ, blockQ]
  refine hK13 _ (D1 2 [0,1,2] [3,4,5] (fun t => match t with | 3 => [0] | _ => []) rfl (by decide) (by decide) ?_)
  simp [take_Core, len_Core, noLL_Core]
  have hnext : ∀ k' s', H k' = none → Has [(4, .p (.l 4) 0), (8, .p (.l 8) 0), (9, .os (.h k') 11 0 (out.length + o2.length)), (26, asl Oper.enc os), (27, aint os.length), (28, aint i)] [(12, c2.enc), (8, c2.enc), (4, zeroC)] (fun m => if m = k' then some ((out ++ o2).flatMap Out.enc) else H m) s' → K10 s' := by
    intro k' s' hk' hs'
    have hsub : ∀ k cs, lookL [(8, c2.enc), (4, zeroC)] k = some cs → lookL [(12, c2.enc), (8, c2.enc), (4, zeroC)] k = some cs := by
      intro k cs
      simp only [lookL]
      intro h
      split at h
      · rename_i e; subst e; simpa using h
      split at h
      · rename_i e; subst e; simpa using h
      · cases h
    refine hK10 _ (J_has hs' (J_subL [(8, c2.enc), (4, zeroC)] hsub (J1 2 ?_)))
    simp
    refine hK (os.length - (i + 1)) _ (by omega) ⟨i + 1, c2, out ++ o2, k', by omega, rfl, hok.fit, by rw [List.length_append]; omega, hrl, hk', ?_⟩
    simp
    rw [w64 (by omega) (by omega)]
  refine ⟨by omega, by omega, hnext k _ hk ⟨by simp, by simp [Core.enc], ?_⟩, fun k' hk' => hnext k' _ ?_ ⟨by simp, by simp [Core.enc], ?_⟩⟩
  · funext m
    by_cases e : m = k
    · subst e; simp
    · simp [e]
  · by_cases e : k' = k
    · subst e; exact hk
    · simpa [e] using hk'
  · funext m
    have hne : k' ≠ k := by rintro rfl; simp at hk'
    by_cases e : m = k'
    · subst e; simp
    · by_cases e2 : m = k
      · subst e2; simp [e, hk]
      · simp [e, e2]
end
section
def w0M : Msg := ⟨.empty, .empty, [], false, 0⟩
def wQ : ByteArray := ⟨#[113]⟩
def wA : ByteArray := ⟨#[97]⟩
def w1 : Tv.Oper := ⟨1, 0, 0, 1, wQ, .empty, false, false, false, w0M⟩
def w5 : Tv.Oper := ⟨5, 0, 0, 0, wQ, .empty, false, false, false, ⟨wA, .empty, [], false, 0⟩⟩
theorem wake1 : (doT noCore w1).2.2 = 0 := by decide +kernel
theorem wake2 : (runT (doT noCore w1).1 [w5, w5]).2.2 = (1, 35) := by decide +kernel
theorem wake3 : (runT (doT noCore w1).1 [w5, w5]).1.queues.length = 0 := by decide +kernel
theorem wake4 : (runT (doT noCore w1).1 [w5]).2.2.2 = 0 := by decide +kernel
theorem wake5 : (runT (doT noCore w1).1 [w5]).1.queues.map (fun q => q.items.length) = [1] := by decide +kernel
end
section
attribute [local simp] plainOp Heap.put flen_Cl noLLf_Cl killf_Cl D_36 D_42 D_33 D_50 D_77 D_37 D_24 D_25 D_26 D_27 D_28 D_87 D_30 D_54 D_46 D_89 D_105 D_103 D_102 D_35 D_101 D_80 D_118 D_124 D_121 D_31 D_257 D_244 D_131 D_130 AV.hz hzS hzL AV.hfree AV.hfreeL AV.flatOk D_98 D_22 AS.esc renSf renLf AV.ren AV.renL escF
attribute [local simp ↓] evTsR evQsh evQh
attribute [-simp] List.length_flatMap
theorem PCalls.args {P : Program} {f : FuncId} {args args' : List AV} {H : Heap} {Q : AE → Heap → Prop} (h : PCalls P f args H Q) (ha : ∀ M ψ vs, RepL M ψ args' vs → RepL M ψ args vs) : PCalls P f args' H Q :=
  fun M ψ w vals h1 h2 h3 => h M ψ w vals h1 h2 (ha M ψ vals h3)
theorem PFun.argsN {P : Program} {f : FuncId} {args : List AV} {r : AV} (h : PFun P f (AV.normL args) r) : PFun P f args r :=
  fun H => PCalls.args (h H) fun M ψ vs => RepL.norm args
theorem zeroC_norm : ∀ (M : Imm) (ψ : Psi) vs, RepL M ψ zeroC vs → RepL M ψ noCore.enc vs := fun M ψ vs h => RepL.norm zeroC h
def longO (o : Tv.Oper) : Bool := decide (1000 < o.msg.props.length)
def longT (os : List Tv.Oper) : Bool := os.any longO || decide (100 < os.length)
theorem long_fun (os : List Tv.Oper) : PFun Tryz.prog 29 [asl Oper.enc os] (abool (longT os)) := by
  refine PFun.of_J D_ok Tryz.func29 rfl (by decide) (le' rfl) fun H E QF hF => ?_
  change J _ E 20 _ _ _
  refine J_seq' fun K1 hK1 => J0 ?_
  simp
  refine hK1 _ (J_seq' fun K2 hK2 => J_seq' fun K3 hK3 => J0 ?_)
  simp
  refine hK3 _ (J_slLen 5 rfl fun hn => J_block ?_)
  refine J_loop' (fun m s' => ∃ i : Nat, i ≤ os.length ∧ m = os.length - i ∧ os.any longO = (os.drop i).any longO ∧ Has [(0, asl Oper.enc os), (5, asl Oper.enc os), (6, aint os.length), (7, aint i)] [] H s') (n := os.length) ⟨0, by omega, by omega, rfl, by simp⟩ ?_
  rintro m s' ⟨i, hi, hm, hany, hs'⟩ K hK
  refine J_has hs' ?_
  refine J_seq' fun K4 hK4 => J0 ?_
  simp
  refine hK4 _ (J_seq' fun K5 hK5 => J_cond rfl (fun hd => J_skip ?_) fun hd => J_exit ?_)
  · simp at hd
    obtain ⟨o, hoi⟩ : ∃ o, os[i]? = some o := ⟨_, List.getElem?_eq_getElem (by omega)⟩
    have hat := at_Oper os hoi
    have hdr : os.drop i = o :: os.drop (i + 1) := drop_at hoi
    simp only [thenQ, blockQ]
    refine hK5 _ (J_seq' fun K6 hK6 => J_block (J_seq' fun K7 hK7 => J0 ?_))
    simp [hat, hd, len_Oper, noLL_Oper, kill_Oper]
    repeat refine And.intro (by omega) ?_
    refine hK7 _ (J_has (T := [(0, asl Oper.enc os), (4, .p (.l 4) 0), (5, asl Oper.enc os), (6, aint os.length), (7, aint i)]) (L := [(4, o.enc)]) (H := H) ⟨by simp, by simp [len_Oper, Oper.enc], rfl⟩ ?_)
    refine J_seq' fun K8 hK8 => J0 ?_
    simp [Oper.enc, Msg.enc]
    refine hK8 _ (J_cond rfl (fun he => ?_) fun he => J_skip ?_)
    · have he : 1000 < o.msg.props.length := by simp at he; omega
      refine J_seq' fun K9 hK9 => J0 ?_
      simp
      refine hK9 _ (J_ret (hF _ _ ?_))
      have hl : longT os = true := by
        simp only [longT, hany, hdr, List.any_cons, longO, he, decide_true, Bool.true_or]
      simp [Tryz.f29, hl]
    · have he : ¬ 1000 < o.msg.props.length := by simp at he; omega
      simp only [thenQ, blockQ]
      refine hK6 _ (J_subL [] (by simp) (J0 ?_))
      simp
      refine hK (os.length - (i + 1)) _ (by omega) ⟨i + 1, by omega, rfl, ?_, ?_⟩
      · rw [hany, hdr]; simp [longO, he]
      · simp
        rw [w64 (by omega) (by omega)]
  · simp at hd
    simp only [thenQ, blockQ, if_true]
    refine hK2 _ (J_seq' fun K10 hK10 => J0 ?_)
    simp
    refine hK10 _ (J_ret (hF _ _ ?_))
    have hl : longT os = decide (100 < os.length) := by
      simp only [longT]
      rw [hany, List.drop_eq_nil_of_le (by omega)]
      simp
    simp [Tryz.f29, hl]
    omega
theorem behind_fun (os : List Tv.Oper) (ho : ∀ o ∈ os, OFit o) : PFun Tryz.prog 30 [asl Oper.enc os] (.agg (behindT os noCore).enc) := by
  refine PFun.of_J D_ok Tryz.func30 rfl (by decide) (le' rfl) fun H E QF hF => ?_
  change J _ E 28 _ _ _
  refine J_seq' fun K1 hK1 => J0 ?_
  simp
  refine hK1 _ (J_seq' fun K2 hK2 => J0 ?_)
  simp
  refine hK2 _ (J_has (T := [(0, asl Oper.enc os), (2, .p (.l 2) 0), (3, .p (.l 3) 0)]) (L := [(3, zeroC), (2, zeroC)]) (H := H) ⟨by simp, by simp [zeroC], rfl⟩ ?_)
  refine J_turn (Turns.reL (k := 3) (cs := zeroC) (ds := noCore.enc) (by simp) rfl zeroC_norm) ?_
  simp
  refine J_seq' fun K3 hK3 => J_seq' fun K4 hK4 => J0 ?_
  simp
  refine hK4 _ (J_slLen 10 rfl fun hn => J_block ?_)
  refine J_loop' (fun m s' => ∃ (i : Nat) (c : Core), i ≤ os.length ∧ m = os.length - i ∧ COk c ∧ behindT os noCore = behindT (os.drop i) c ∧ Has [(2, .p (.l 2) 0), (3, .p (.l 3) 0), (10, asl Oper.enc os), (11, aint os.length), (12, aint i)] [(3, c.enc), (2, zeroC)] H s') (n := os.length) ⟨0, noCore, by omega, by omega, COk.empty, rfl, by simp⟩ ?_
  rintro m s' ⟨i, c, hi, hm, hc, hbe, hs'⟩ K hK
  refine J_has hs' ?_
  refine J_seq' fun K5 hK5 => J0 ?_
  simp
  refine hK5 _ (J_seq' fun K6 hK6 => J_cond rfl (fun hd => J_skip ?_) fun hd => J_exit ?_)
  rotate_left
  · simp at hd
    rw [List.drop_eq_nil_of_le (by omega)] at hbe
    simp only [thenQ, blockQ, if_true]
    refine hK3 _ (J_seq' fun K10 hK10 => J0 ?_)
    simp [take_Core, len_Core, noLL_Core, zeroC]
    refine hK10 _ (J_ret (hF _ _ ?_))
    rw [hbe]
    simp [Tryz.f30, behindT, Core.enc]
  simp at hd
  obtain ⟨o, hoi⟩ : ∃ o, os[i]? = some o := ⟨_, List.getElem?_eq_getElem (by omega)⟩
  have hat := at_Oper os hoi
  have hof := ho o (List.mem_of_getElem? hoi)
  have hdr : os.drop i = o :: os.drop (i + 1) := drop_at hoi
  rw [hdr] at hbe
  simp only [behindT] at hbe
  simp only [thenQ, blockQ]
  refine hK6 _ (J_seq' fun K7 hK7 => J_block (J_seq' fun K8 hK8 => J0 ?_))
  simp [hat, hd, len_Oper, noLL_Oper, kill_Oper]
  repeat refine And.intro (by omega) ?_
  refine hK8 _ (J_has (T := [(2, .p (.l 2) 0), (3, .p (.l 3) 0), (5, .p (.l 5) 0), (10, asl Oper.enc os), (11, aint os.length), (12, aint i)]) (L := [(5, o.enc), (3, c.enc), (2, zeroC)]) (H := H) ⟨by simp, by simp [len_Oper, Oper.enc, Core.enc, zeroC], rfl⟩ ?_)
  refine J_seq' fun K9 hK9 => J0 ?_
  simp [take_Core, len_Core, noLL_Core, len_Oper, noLL_Oper, take_Oper]
  refine (doT_fun c o hc.fit hof).call ?_
  simp
  simp [kill_Core, kill_Oper, len_Core]
  obtain ⟨hok, _⟩ := doT_ok c o
  generalize hd1 : (doT c o).1 = c2 at hbe hok ⊢
  generalize hd2 : (doT c o).2.1 = o2 at hbe ⊢
  generalize hd3 : (doT c o).2.2 = e2 at hbe ⊢
  refine hK9 _ (J_has (T := [(2, .p (.l 2) 0), (3, .p (.l 3) 0), (6, .p (.l 6) 0), (8, aint e2), (10, asl Oper.enc os), (11, aint os.length), (12, aint i)]) (L := [(6, c2.enc), (5, o.enc), (3, c.enc), (2, zeroC)]) (H := H) ⟨by simp, by simp [Core.enc, zeroC], rfl⟩ ?_)
  have hnext : ∀ c3 s', COk c3 → behindT os noCore = behindT (os.drop (i + 1)) c3 → Has [(2, .p (.l 2) 0), (3, .p (.l 3) 0), (10, asl Oper.enc os), (11, aint os.length), (12, aint i)] [(6, c2.enc), (5, o.enc), (3, c3.enc), (2, zeroC)] H s' → K7 s' := by
    intro c3 s' h3 hb hs'
    have hsub : ∀ k cs, lookL [(3, c3.enc), (2, zeroC)] k = some cs → lookL [(6, c2.enc), (5, o.enc), (3, c3.enc), (2, zeroC)] k = some cs := by
      intro k cs
      simp only [lookL]
      intro h
      split at h
      · rename_i e; subst e; simpa using h
      split at h
      · rename_i e; subst e; simpa using h
      · cases h
    refine hK7 _ (J_has hs' (J_subL [(3, c3.enc), (2, zeroC)] hsub (J0 ?_)))
    simp
    refine hK (os.length - (i + 1)) _ (by omega) ⟨i + 1, c3, by omega, rfl, h3, hb, ?_⟩
    simp
    rw [w64 (by omega) (by omega)]
  refine J_seq' fun K11 hK11 => J0 ?_
  simp
  refine hK11 _ (J_cond rfl (fun he => ?_) fun he => J_skip ?_)
  · have he : e2 = 0 := by simpa using he
    refine J0 ?_
    simp [take_Core, len_Core, noLL_Core]
    rw [if_pos he] at hbe
    exact hnext c2 _ hok hbe ⟨by simp, by simp [Core.enc], rfl⟩
  · have he : e2 ≠ 0 := by simpa using he
    rw [if_neg he] at hbe
    exact hnext c _ hc hbe ⟨by simp, by simp [Core.enc], rfl⟩
theorem take14 (o : Tv.Oper) (x : List AV) : List.take 14 (o.enc ++ x) = o.enc := rfl
theorem drop14 (o : Tv.Oper) (x : List AV) : List.drop 14 (o.enc ++ x) = x := rfl
theorem drop28 (o : Tv.Oper) (x : List AV) : List.drop 28 (o.enc ++ x) = List.drop 14 x := rfl
def w5raw : List AV := [aint 5, aint 0, aint 0, aint 0, astr wQ, astr .empty, abool false, abool false, abool false, astr wA, astr .empty, .sl0, abool false, aint 0]
theorem w5_norm : ∀ (M : Imm) (ψ : Psi) vs, RepL M ψ w5raw vs → RepL M ψ w5.enc vs := fun M ψ vs h => RepL.norm w5raw h
theorem wakes_fun : PFun Tryz.prog 28 [] (abool true) := by
  refine PFun.of_J D_ok Tryz.func28 rfl (by decide) (le' rfl) fun H E QF hF => ?_
  change J _ E 73 _ _ _
  have w1f : OFit w1 := ⟨⟨by decide, by decide, by intro p hp; cases hp⟩, by decide, by decide⟩
  have w5f : OFit w5 := ⟨⟨by decide, by decide, by intro p hp; cases hp⟩, by decide, by decide⟩
  refine J_seq' fun K1 hK1 => J0 ?_
  simp
  refine hK1 _ (J_seq' fun K2 hK2 => J0 ?_)
  simp
  refine (PFun.argsN (show PFun _ _ (AV.normL [.agg zeroC, _]) _ from doT_fun noCore w1 COk.empty.fit w1f)).call ?_
  simp
  simp [kill_Core, len_Core]
  have hc1 := (doT_ok noCore w1).1
  have q1 := wake1
  have q2 := wake2
  have q3 := wake3
  have q4 := wake4
  have q5 := wake5
  generalize hd1 : (doT noCore w1).1 = c1 at hc1 q2 q3 q4 q5 ⊢
  rw [q1]
  refine hK2 _ (J_has (T := [(1, .p (.l 1) 0), (3, aint 0)]) (L := [(1, c1.enc)]) (H := H) ⟨by simp, by simp [Core.enc], rfl⟩ ?_)
  refine J_seq' fun K3 hK3 => J_seq' fun K4 hK4 => J0 ?_
  simp
  refine hK4 _ (J_cond rfl (fun hd => by simp at hd) fun hd => J_skip ?_)
  simp only [thenQ]
  refine hK3 _ (J_seq' fun K5 hK5 => J0 ?_)
  simp [kill_Core]
  refine hK5 _ (J_has (T := [(1, .p (.l 1) 0), (3, aint 0), (4, .p (.l 4) 0)]) (L := [(4, w5raw), (1, c1.enc)]) (H := H) ⟨by simp, by simp [w5raw]; exact ⟨rfl, rfl, rfl, rfl⟩, rfl⟩ ?_)
  refine J_turn (Turns.reL (k := 4) (cs := w5raw) (ds := w5.enc) (by simp) rfl w5_norm) ?_
  simp
  refine J_seq' fun K6 hK6 => J1 27 ?_
  simp [take_Core, len_Core, noLL_Core, take_Oper, len_Oper, noLL_Oper, take14, drop14, drop28]
  have hos : ∀ o ∈ [w5, w5], OFit o := by simp [w5f]
  refine ⟨noLLf_Oper [w5, w5], PFun.call (show PFun Tryz.prog 32 [.agg c1.enc, .sl 2 (w5.enc ++ w5.enc)] _ from runT_fun c1 [w5, w5] hc1.fit hos) ?_⟩
  simp
  simp [kill_Core, len_Core]
  rw [Prod.ext_iff] at q2
  obtain ⟨q2a, q2b⟩ := q2
  simp only at q2a q2b
  rw [q2a, q2b]
  generalize (runT c1 [w5, w5]).1 = r2 at q3 ⊢
  generalize (runT c1 [w5, w5]).2.1 = o2
  refine hK6 _ (J_has (T := [(1, .p (.l 1) 0), (3, aint 35), (4, .p (.l 4) 0), (5, .p (.l 5) 0), (7, aint 1)]) (L := [(5, r2.enc), (4, w5.enc), (1, c1.enc)]) (H := H) ⟨by simp, by simp [kill_Oper], rfl⟩ ?_)
  refine J_seq' fun K7 hK7 => J1 36 ?_
  simp [take_Core, len_Core, noLL_Core, take_Oper, len_Oper, noLL_Oper, take14, drop14, drop28]
  have hos1 : ∀ o ∈ [w5], OFit o := by simp [w5f]
  refine PFun.call (show PFun Tryz.prog 32 [.agg c1.enc, .sl 1 w5.enc] _ from runT_fun c1 [w5] hc1.fit hos1) ?_
  simp
  simp [kill_Core, len_Core]
  rw [q4]
  generalize (runT c1 [w5]).1 = r1 at q5 ⊢
  generalize (runT c1 [w5]).2.1 = o1
  generalize (runT c1 [w5]).2.2.1 = i1
  obtain ⟨qq, hqs⟩ : ∃ qq, r1.queues = [qq] := by
    match hr : r1.queues with
    | [] => rw [hr] at q5; cases q5
    | [q] => exact ⟨q, rfl⟩
    | _ :: _ :: _ => rw [hr] at q5; simp at q5
  have hqi : qq.items.length = 1 := by rw [hqs] at q5; simpa using q5
  refine hK7 _ (J_has (T := [(3, aint 35), (5, .p (.l 5) 0), (7, aint 1), (8, .p (.l 8) 0), (11, aint 0)]) (L := [(8, r1.enc), (5, r2.enc), (4, w5.enc), (1, c1.enc)]) (H := H) ⟨by simp, by simp [kill_Oper, kill_Core], rfl⟩ ?_)
  refine J_seq' fun K8 hK8 => J0 ?_
  simp [Core.enc, q3, hqs, len_Queue, Queue.enc, hqi]
  refine hK8 _ (J_ret (hF _ _ ?_))
  simp [Tryz.f28]
end
section
attribute [local simp] plainOp Heap.put flen_Cl noLLf_Cl killf_Cl D_36 D_42 D_33 D_50 D_77 D_37 D_24 D_25 D_26 D_27 D_28 D_87 D_30 D_54 D_46 D_89 D_105 D_103 D_102 D_35 D_101 D_80 D_118 D_124 D_121 D_31 D_257 D_244 D_131 D_130 AV.hz hzS hzL AV.hfree AV.hfreeL AV.flatOk D_98 D_22 AS.esc renSf renLf AV.ren AV.renL escF
attribute [local simp ↓] evTsR evQsh evQh
attribute [-simp] List.length_flatMap
theorem txOne_fun (os : List Tv.Oper) (o : Tv.Oper) (hos : ∀ x ∈ os, OFit x) (ho : OFit o) : PFun Tryz.prog 9 [asl Oper.enc os, .agg o.enc] (abool true) := by
  refine PFun.of_J D_ok Tryz.func9 rfl (by decide) (le' rfl) fun H E QF hF => ?_
  change J _ E 84 _ _ _
  refine J_seq' fun K1 hK1 => J1 3 ?_
  simp [len_Oper, noLL_Oper]
  refine hK1 _ (J_has (T := [(0, asl Oper.enc os), (3, .vp o.enc)]) (L := []) (H := H) ⟨by simp, by simp, rfl⟩ ?_)
  refine J_seq' fun K2 hK2 => J_seq' fun K3 hK3 => J1 3 ?_
  simp
  refine wakes_fun.call ?_
  simp
  refine hK3 _ (J_cond rfl (fun hd => by simp at hd) fun hd => J_skip ?_)
  simp only [thenQ]
  refine hK2 _ (J_seq' fun K4 hK4 => J_seq' fun K5 hK5 => J1 3 ?_)
  simp
  refine (long_fun os).call ?_
  have yes : ∀ s', Has [(23, abool true)] [] H s' → K5 s' := by
    intro s' hs'
    refine hK5 _ (J_has hs' (J_cond rfl (fun _ => ?_) fun hd => by simp at hd))
    refine J_seq' fun K6 hK6 => J1 3 ?_
    simp
    refine hK6 _ (J_ret (hF _ _ ?_))
    simp [Tryz.f9]
  rcases Bool.eq_false_or_eq_true (longT os) with hl | hl
  · simp [hl]
    exact yes _ ⟨by simp, rfl, rfl⟩
  simp [hl, Oper.enc, Msg.enc]
  rcases Nat.lt_or_ge 1000 o.msg.props.length with h1 | h1
  · exact yes _ ⟨by simp; omega, rfl, rfl⟩
  clear yes
  refine hK5 _ (J_has (T := [(0, asl Oper.enc os), (3, .vp o.enc), (23, abool false)]) (L := []) (H := H) ⟨by simp [Oper.enc, Msg.enc]; omega, by simp, rfl⟩ ?_)
  refine J_cond rfl (fun hd => by simp at hd) fun hd => J_skip ?_
  simp only [thenQ]
  refine hK4 _ (J_seq' fun K7 hK7 => J1 3 ?_)
  simp
  refine (behind_fun os hos).call ?_
  simp
  simp [kill_Core, len_Core]
  have hc := behindT_ok os noCore COk.empty
  generalize behindT os noCore = c at hc ⊢
  clear hK1 hK2 hK3 hK4 hK5
  refine hK7 _ (J_has (T := [(3, .vp o.enc), (5, .p (.l 5) 0)]) (L := [(5, c.enc)]) (H := H) ⟨by simp, by simp [Core.enc], rfl⟩ ?_)
  refine J_seq' fun K8 hK8 => J2 3 29 ?_
  simp [take_Core, len_Core, noLL_Core, take_Oper, len_Oper, noLL_Oper, take14, drop14, drop28]
  have ho1 : ∀ x ∈ [o], OFit x := by simp [ho]
  refine PFun.call (show PFun Tryz.prog 32 [.agg c.enc, .sl 1 o.enc] _ from runT_fun c [o] hc.fit ho1) ?_
  rw [runT_one hc]
  simp
  simp [kill_Core, len_Core]
  refine hK8 _ (J_has (T := [(3, .vp o.enc), (5, .p (.l 5) 0), (6, .p (.l 6) 0), (7, asl Out.enc (doT c o).2.1), (8, aint 0), (9, aint (doT c o).2.2)]) (L := [(6, (doT c o).1.enc), (5, c.enc)]) (H := H) ⟨by simp, by simp [kill_Core], rfl⟩ ?_)
  refine J_seq' fun K9 hK9 => J1 3 ?_
  simp [take_Core, len_Core, noLL_Core, take_Oper, len_Oper, noLL_Oper]
  refine (doT_fun c o hc.fit ho).call ?_
  simp
  simp [kill_Core, len_Core]
  generalize (doT c o).1 = c2
  generalize (doT c o).2.1 = o2
  generalize (doT c o).2.2 = e2
  refine hK9 _ (J_has (T := [(3, .vp o.enc), (5, .p (.l 5) 0), (6, .p (.l 6) 0), (7, asl Out.enc o2), (8, aint 0), (9, aint e2), (10, .p (.l 10) 0), (11, asl Out.enc o2), (12, aint e2)]) (L := [(10, c2.enc), (6, c2.enc), (5, c.enc)]) (H := H) ⟨by simp, by simp [kill_Core], rfl⟩ ?_)
  refine J_seq' fun K10 hK10 => J_seq' fun K11 hK11 => J1 3 ?_
  simp [take_Core, len_Core, noLL_Core]
  refine (csame_fun c2).call ?_
  simp
  refine (osame_fun o2).call ?_
  simp
  refine hK11 _ (J_cond rfl (fun hd => by simp at hd) fun hd => J_skip ?_)
  simp only [thenQ]
  refine hK10 _ (J_seq' fun K12 hK12 => J1 3 ?_)
  simp [take_Core, len_Core, noLL_Core]
  refine (PFun.argsN (show PFun _ _ (AV.normL [.agg c.enc, .sl0]) _ from runT_fun c [] hc.fit (by simp))).call ?_
  rw [runT_none hc]
  simp
  simp [kill_Core, len_Core]
  refine hK12 _ (J_has (T := [(5, .p (.l 5) 0), (6, .p (.l 6) 0), (7, asl Out.enc []), (8, aint 0), (9, aint 0)]) (L := [(10, c2.enc), (6, c.enc), (5, c.enc)]) (H := H) ⟨by simp, by simp [kill_Core, Core.enc], rfl⟩ ?_)
  refine J_seq' fun K13 hK13 => J1 3 ?_
  simp [take_Core, len_Core, noLL_Core]
  refine (csame_fun c).call ?_
  simp
  refine hK13 _ (J_ret (hF _ _ ?_))
  simp [Tryz.f9]
end
end Go.Proofs.YtpcpljfifipagaaGreatDoor
