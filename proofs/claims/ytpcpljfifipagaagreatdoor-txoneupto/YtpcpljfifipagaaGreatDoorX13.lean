/- A part of the proof: the engine that walks Go code, the walks of the broker, or their laws (TvEngZ7). -/
import Derived.Test.YtpcpljfifipagaaGreatDoorX12
import Derived.Recover
set_option linter.unusedSimpArgs false
set_option linter.unusedVariables false
namespace Go.Eng
section
variable {P : Program} {D : Types} (hD : Types.ok P D) {E : Ent} {N : Nat} {M : Imm} {ψ : Psi} {s : AS} {a : Act} {w : World} {Q : AX → AS → Prop} {Post : Exit → Act → World → Prop}
def JP (P : Program) (E : Ent) (N : Nat) (c : Code) (Post : Exit → Act → World → Prop) (s : AS) : Prop := ∀ M ψ a w, At E N M ψ s a w → c.wp P Post a w
theorem JP_of_J {c : Code} (h : J P E N c Q s) (hp : ∀ e a w, QR E N Q e a w → Post e a w) : JP P E N c Post s := fun M ψ a w hat => wp_mono (h M ψ a w hat) hp
theorem JP_seq {x y : Code} {R : AX → AS → Prop} (h : J P E N x (thenQ (JP P E N y Post) R) s) (hR : ∀ e a w, e ≠ .normal → QR E N R e a w → Post e a w) : JP P E N (.seq x y) Post s := by
  intro M ψ a w hat
  refine wp_seq (wp_mono (h M ψ a w hat) ?_)
  intro e a' w' h'
  cases e with
  | normal => obtain ⟨M', ψ', s', h1, h2⟩ := h'; exact h2 M' ψ' a' w' h1
  | exit id => exact hR (.exit id) a' w' (by simp) h'
  | goto l => exact hR (.goto l) a' w' (by simp) h'
  | ret => exact hR .ret a' w' (by simp) h'
  | panic c => exact hR (.panic c) a' w' (by simp) h'
  | outgrown => exact h'.elim
theorem JP_seq' {x y : Code} {R : AX → AS → Prop} (hR : ∀ e a w, e ≠ .normal → QR E N R e a w → Post e a w) (h : ∀ K : AS → Prop, (∀ s', JP P E N y Post s' → K s') → J P E N x (thenQ K R) s) : JP P E N (.seq x y) Post s :=
  JP_seq (h _ fun _ h => h) hR
theorem JP_turn {c : Code} {s' : AS} (h : Turns s s') (hJ : JP P E N c Post s') : JP P E N c Post s := fun M ψ a w hat => by
  obtain ⟨M', ψ', h'⟩ := h E N M ψ a w hat
  exact hJ M' ψ' a w h'
theorem JP_escape {c : Code} (k : Nat) {cs : List AV} (hk : lookL s.L k = some cs) (hno : AV.noLL cs = true) (h : ∀ n, s.H n = none → JP P E N c Post (s.esc k n cs)) : JP P E N c Post s := by
  intro M ψ a w hat
  obtain ⟨B, hB⟩ := hat.sr.fin
  obtain ⟨hψ, hH⟩ := hB B (Nat.le_refl _)
  obtain ⟨ψ', hat'⟩ := hat.esc hk hno hψ hH
  exact h B hH M ψ' a w hat'
section
variable {cfg : Cfg}
include hD in
theorem evOps_okP (all : List Oper) {Kp : AV → AS → Prop} {K : AS → Prop} (hp : PanR E cfg.N Kp Post) (hn : ∀ s M ψ a w, At E cfg.N M ψ s a w → K s → Post .normal a w) : ∀ (rest : List Oper) (k : Nat) (s : AS) (M : Imm) (ψ : Psi) (a : Act) (w : World), all.drop k = rest → At E cfg.N M ψ s a w →
    evOps P D cfg all rest s Kp K → wpOps P all.toArray Post (List.range' k rest.length) a w := by
  intro rest
  induction rest with
  | nil =>
    intro k s M ψ a w _ h hev
    simp only [List.length_nil, List.range'_zero, wpOps]
    exact hn s M ψ a w h hev
  | cons o rest ih =>
    intro k s M ψ a w hdrop h hev
    have hk : all[k]? = some o := by
      have := congrArg (fun l => l[0]?) hdrop
      simpa using this
    have hdrop' : all.drop (k + 1) = rest := by
      have := congrArg List.tail hdrop
      simpa using this
    have hk' : all.toArray[k]? = some o := by simpa using hk
    simp only [List.length_cons, List.range'_succ, wpOps, hk']
    have step : ∀ s, At E cfg.N M ψ s a w → evOp P D cfg o s Kp (fun s' => evOps P D cfg all rest s' Kp K) → o.wp P a w (wpOps P all.toArray Post (List.range' (k + 1) rest.length)) Post := by
      intro s h hop
      refine evOp_ok hD h o hop hp ?_
      rintro a' w' ⟨M', ψ', s', h1, h2⟩
      exact ih (k + 1) s' M' ψ' a' w' hdrop' h1 h2
    have skip : ∀ s, At E cfg.N M ψ s a w → okDst cfg.N o.dst = true → evOps P D cfg all rest (s.set o.dst (.v undef)) Kp K → wpOps P all.toArray Post (List.range' (k + 1) rest.length) (a.put o.dst undef) w :=
      fun s h hd hr => ih (k + 1) _ M ψ _ w hdrop' (h.set (rep_v _ _ _) (okDst_lt hd)) hr
    simp only [evOps] at hev
    split at hev
    · rename_i hg
      simp only [Region.wanted, hg, if_true]
      exact .inl (step s h hev)
    · rename_i j want hg
      split at hev
      · rename_i d hd
        have hy : ((all.toArray[j]?).bind (·.dst)) = some d := by simpa [guardSlot] using hd
        have hrep := h.sl.look d
        split at hev
        · rename_i b hb
          rw [hb] at hrep
          simp only [Rep] at hrep
          have hyl : yielded all.toArray a.tmps j = some b := by
            unfold yielded
            rw [hy]
            simp [getElem?_of_getD hrep]
          simp only [Region.wanted, hg, hyl]
          by_cases hbw : b = want
          · subst hbw
            simp only [BEq.rfl, if_true]
            exact .inl (step _ (h.wit (by rw [hrep]; exact rep_v _ _ _)) (hev.1 rfl))
          · have : (some b == some want) = false := by simpa using hbw
            simp only [this, Bool.false_eq_true, if_false]
            have hb' : b = !want := by cases b <;> cases want <;> simp_all
            obtain ⟨e1, e2⟩ := hev.2 hb'
            exact skip _ (h.wit (by rw [hrep, hb']; exact rep_v _ _ _)) e1 e2
        · rename_i x hne
          obtain ⟨hu, e1, e2⟩ := hev
          have hyl : yielded all.toArray a.tmps j = none := by
            unfold yielded
            rw [hy]
            generalize lookS s.S d = x at *
            unfold AV.isUnd at hu
            split at hu
            · simp only [Rep] at hrep
              rw [Array.getD_eq_getD_getElem?] at hrep
              simp only [Option.bind_some]
              cases hh : a.tmps[d]? with
              | none => rfl
              | some v => rw [hh] at hrep; simp at hrep; rw [hrep]
            · cases hu
          simp only [Region.wanted, hg, hyl]
          have : ((none : Option Bool) == some want) = false := rfl
          simp only [this, Bool.false_eq_true, if_false]
          exact skip s h e1 e2
      · exact hev.elim
include hD in
theorem JP_region {id : Nat} {ops : Array Oper} {y : Code} {Kp : AV → AS → Prop} (hp : PanR E cfg.N Kp Post) (h : ∀ K : AS → Prop, (∀ s', JP P E cfg.N y Post s' → K s') → evOps P D cfg ops.toList ops.toList s Kp K) : JP P E cfg.N (.seq (.region id ops false) y) Post s := by
  intro M ψ a w hat
  have hp' : PanR E cfg.N Kp (Exit.then (y.wp P Post) Post) := fun x s M ψ v a w h1 h2 h3 => hp x s M ψ v a w h1 h2 h3
  have := evOps_okP hD (E := E) (Post := Exit.then (y.wp P Post) Post) ops.toList hp' (fun s' M ψ a w h k => k M ψ a w h) ops.toList 0 s M ψ a w rfl hat (h (JP P E cfg.N y Post) fun _ h => h)
  refine wp_seq (wp_region ?_)
  rw [List.range_eq_range']
  simpa using this
end
theorem JP_nilCell {c : Code} (k es : Nat) (pre post : List AV) (hk : lookL s.L k = some (pre ++ .sl0 :: post)) (h : ∀ n, s.H n = none → JP P E N c Post { s with L := setL s.L k (pre ++ .os (.h n) es 0 0 :: post), H := fun m => if m = n then some [] else s.H m }) : JP P E N c Post s := by
  intro M ψ a w hat
  obtain ⟨n, hn, hat'⟩ := hat.newNil
  exact h n hn M ψ a w (hat'.reL (k := k) hk (by simp) (RepL.nilAt pre post n es))
include hD in
theorem ret_post {M0 : Imm} {ψ0 : Psi} {H0 : Heap} {w0 : World} {QQ : AE → Heap → Prop} (hs : Since M0 ψ0 (hOnly H0) w0 E.M E.ψ E.g E.w) (hat : At E N M ψ s a w) {fn : Func} {c : Prop} {x : AV} (he : evResult D s fn.results.toList = some (c, x)) (hc : c) (hno : x.noL = true) (hQ : QQ (.ret x) s.H) :
    ∃ v, (results fn a.tmps).run P w = .ok v w ∧ CPost M0 ψ0 H0 w0 QQ (.returned v) w := by
  obtain ⟨v, e1, e2⟩ := evResult_ok hD hat he hc
  exact ⟨v, e1, M, ψ.strip, s.H, .ret x, Psi.strip_strip _, (hs.trans hat.since).heapOnly, hat.sr.heapOnly, ⟨x, rfl, Rep.noL x hno e2⟩, hQ⟩
theorem PCalls.of_JP {f : FuncId} {fn : Func} {c : Code} {args : List AV} {H : Heap} {QQ : AE → Heap → Prop} (hf : P.funcs[f]? = some fn) (hb : fn.body = some c) (hname : (fn.name == "runtime.NumGoroutine") = false)
    (hlen : args.length ≤ fn.ntmps) (h : ∀ M ψ w, ψ.strip = ψ → JP P ⟨M, ψ, hOnly H, w, []⟩ fn.ntmps c (bodyPostD P fn (CPost M ψ H w QQ)) { S := enumS 0 args, L := [], H := H }) : PCalls P f args H QQ := by
  intro M ψ w vals hst hsr hreps
  have hvl := hreps.length
  refine .inl ⟨⟨fn, hf, by rw [hb]; rfl, hname⟩, calls_of_wp_defers hf hb ?_⟩
  refine h M ψ w hst M ψ _ w ⟨Since.refl M ψ _ w, hsr, ?_, ?_, rfl⟩
  · refine slots_enum M ψ args vals 0 _ hreps fun i v hi => ?_
    have hlt : i < vals.length := by
      rcases Nat.lt_or_ge i vals.length with h' | h'
      · exact h'
      · rw [List.getElem?_eq_none h'] at hi; cases hi
    rw [Nat.zero_add, Array.getD_eq_getD_getElem?, Array.getElem?_append_left (by simpa using hlt)]
    simp [hi]
  · simp
    omega
theorem PCalls.weakH {f : FuncId} {args : List AV} {H : Heap} {QQ : AE → Heap → Prop} (h : PCalls P f args H fun e H' => ∃ H0, (∀ m cs, H0 m = some cs → H' m = some cs) ∧ QQ e H0) : PCalls P f args H QQ := by
  have key : ∀ M ψ w e w', CPost M ψ H w (fun e H' => ∃ H0, (∀ m cs, H0 m = some cs → H' m = some cs) ∧ QQ e H0) e w' → CPost M ψ H w QQ e w' := by
    rintro M ψ w e w' ⟨M', ψ', H', r, h1, h2, h3, h4, H0, h5, h6⟩
    have hat : At ⟨M', ψ', hOnly H', w', []⟩ 0 M' ψ' ⟨[], [], H'⟩ { tmps := #[], defers := [] } w' := ⟨Since.refl _ _ _ _, h3, fun k => by simp only [lookS, Rep], rfl, rfl⟩
    have hat2 := hat.weakenH h5
    refine ⟨M', ψ', H0, r, h1, ?_, ?_, h4, h6⟩
    · have := h2.trans hat2.since.heapOnly
      rw [h1] at this
      exact this
    · have := hat2.sr.heapOnly
      rw [h1] at this
      exact this
  intro M ψ w vals h1 h2 h3
  rcases h M ψ w vals h1 h2 h3 with ⟨h4, h5⟩ | ⟨v, w', h4, h5⟩
  · exact .inl ⟨h4, h5.mono fun e w' => key M ψ w e w'⟩
  · exact .inr ⟨v, w', h4, key M ψ w _ w' h5⟩
end
end Go.Eng
