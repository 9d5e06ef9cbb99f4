import Derived.Test.YtmdcmnjeonnfiaaGreatDoorAbP
/-! Deferred calls that may recover; calls. -/
set_option linter.unusedSimpArgs false
set_option linter.unusedVariables false
set_option linter.unusedSectionVars false
namespace Go.Ab
noncomputable section

def PostS (P : Program) (μ : Mp) (h : AH) (W : World) (c0 : Frame) (cs : List Frame) (e : AX) (a' : AAct) (u' : AU) (h' : AH) (ex : Exit) (b' : Act) (cs' : List Frame) (W' : World) : Prop :=
  ∃ μ' m', XR μ' e ex ∧ AR μ' a' b' ∧ UR μ' u' m' ∧ cs' = { c0 with mode := m' } :: cs ∧ Sim P μ' h' W' ∧ Stp μ μ' h h' W W'
theorem PostS.trans {P : Program} {μ μ1 : Mp} {h h1 : AH} {W W1 : World} {c0 : Frame} {cs : List Frame} (s1 : Sim P μ1 h1 W1) (st : Stp μ μ1 h h1 W W1) {e : AX} {a' : AAct} {u' : AU} {h' : AH} {ex : Exit} {b' : Act} {cs' : List Frame} {W' : World}
    (hp : PostS P μ1 h1 W1 c0 cs e a' u' h' ex b' cs' W') : PostS P μ h W c0 cs e a' u' h' ex b' cs' W' := by
  obtain ⟨μ', m', x, y, z, w, v, q⟩ := hp
  exact ⟨μ', m', x, y, z, w, v, Stp.trans s1 st q⟩

section
variable {P : Program} {E : Env} (ok : EnvOk P E) {call : ACall} (hc : CallOk P call) (hm : P.follows .mixedOrders = true) {cr : Crit} {c0 : Frame} {cs : List Frame}

include ok hc
theorem oneOpD_ok {ops : Array Oper} {o : Oper} {i : Nat} (ho : ops[i]? = some o) {k : AAct → AU → AH → RD} {a : AAct} {u : AU} {h : AH} {e : AX} {a' : AAct} {u' : AU} {h' : AH} (hr : aoneOpD E call ops o k a u h = .ok e a' u' h')
    {rest : List Nat} {Q : Exit → Act → List Frame → World → Prop}
    (hk : ∀ a1 u1 h1, k a1 u1 h1 = .ok e a' u' h' → ∀ μ1 W1 b1 m1, Sim P μ1 h1 W1 → AR μ1 a1 b1 → UR μ1 u1 m1 → (∀ ex b' cs' W', PostS P μ1 h1 W1 c0 cs e a' u' h' ex b' cs' W' → Q ex b' cs' W') → wpOpsS P ops Q rest b1 ({ c0 with mode := m1 } :: cs) W1)
    {μ : Mp} {W : World} {b : Act} {m : FrameMode} (s : Sim P μ h W) (ar : AR μ a b) (ur : UR μ u m) (hQ : ∀ ex b' cs' W', PostS P μ h W c0 cs e a' u' h' ex b' cs' W' → Q ex b' cs' W') : wpOpsS P ops Q (i :: rest) b ({ c0 with mode := m } :: cs) W := by
  simp only [wpOpsS, ho]
  unfold aoneOpD at hr
  split at hr
  · cases hr
  · rename_i hg
    have := aguard_ok ar hg
    rw [if_neg (by rw [this]; simp)]
    unfold putThenD at hr
    split at hr
    · rename_i a1 hp
      exact hk a1 u h hr μ W _ m s (ar.put .undef hp) ur hQ
    · cases hr
  · rename_i hg
    have := aguard_ok ar hg
    rw [if_pos this]
    unfold afterOpD at hr
    split at hr
    · cases hr
    · rename_i v h1 hn
      obtain ⟨μ1, v', W1, hrun, hv, s1, st⟩ := aop_ok ok s (fun x _ => ar.eval x) hn
      unfold putThenD at hr
      split at hr
      · rename_i a1 hp
        have hk1 := hk a1 u h1 hr μ1 W1 (b.put o.dst v') m s1 ((ar.mono st.sub).put hv hp) (ur.mono st.sub) (fun ex b' cs' W' hp' => hQ ex b' cs' W' (hp'.trans s1 st))
        rcases hrun with e | ⟨e, e2⟩
        · rw [e]; exact hk1
        · rw [e]; subst e2; exact hk1
      · cases hr
    · rename_i f args hn
      obtain ⟨args', hrun, hx⟩ := aop_ok ok s (fun x _ => ar.eval x) hn
      rw [hrun]
      unfold afterCallD at hr
      split at hr
      · rename_i v h1 hcall
        refine Calls.mono (hc _ _ _ _ _ hcall μ W args' s hx) ?_
        intro end' W1 ⟨μ1, he, s1, st⟩
        cases end' with
        | returned v' =>
          unfold putThenD at hr
          split at hr
          · rename_i a1 hp
            exact hk a1 u h1 hr μ1 W1 _ m s1 ((ar.mono st.sub).put he hp) (ur.mono st.sub) (fun ex b' cs' W' hp' => hQ ex b' cs' W' (hp'.trans s1 st))
          · cases hr
        | panicked ch => exact he.elim
        | outgrown => exact he.elim
      · rename_i v h1 hcall
        cases hr
        refine Calls.mono (hc _ _ _ _ _ hcall μ W args' s hx) ?_
        intro end' W1 ⟨μ1, he, s1, st⟩
        cases end' with
        | returned v' => exact he.elim
        | panicked ch => exact hQ _ _ _ _ ⟨μ1, m, he, ar.mono st.sub, ur.mono st.sub, rfl, s1, st⟩
        | outgrown => exact he.elim
      · cases hr
    · cases hr
    · rename_i v hn
      cases hr
      obtain ⟨v', hrun, hv⟩ := aop_ok ok s (fun x _ => ar.eval x) hn
      rw [hrun]
      exact hQ _ _ _ _ ⟨μ, m, ⟨v', rfl, hv⟩, ar, ur, rfl, s, .refl _ _ _⟩
    · rename_i hn
      have hrun : (execOp b.eval o).run P W = .ok .recover W := aop_ok ok s (fun x _ => ar.eval x) hn
      rw [hrun]
      dsimp only
      unfold afterRec at hr
      split at hr
      · rename_i v
        unfold putThenD at hr
        split at hr
        · rename_i a1 hp
          cases ur with | @pan _ v' _ hv =>
          show wpOpsS P ops Q rest (b.put o.dst v') _ W
          exact hk a1 (.pan v true) h hr μ W _ (.panicking [{ v := v', recovered := true }]) s (ar.put hv hp) (.pan hv) hQ
        · cases hr
      · cases hr
      · rename_i n1 n2
        unfold putThenD at hr
        split at hr
        · rename_i a1 hp
          have hrec : recoverD ({ c0 with mode := m } :: cs) = none := by
            cases ur with
            | ret => rfl
            | @pan v v' r hv =>
              cases r with
              | false => exact (n1 v rfl).elim
              | true => rfl
          rw [hrec]
          exact hk a1 u h hr μ W _ m s (ar.put .nili hp) ur hQ
        · cases hr

theorem opsD_ok {ops : Array Oper} : ∀ (l : List Oper) (i : Nat) (_ : ∀ j o, l[j]? = some o → ops[i + j]? = some o) (a : AAct) (u : AU) (h : AH) {e : AX} {a' : AAct} {u' : AU} {h' : AH} (_ : aopsD E call ops l a u h = .ok e a' u' h') {Q : Exit → Act → List Frame → World → Prop}
    (μ : Mp) (W : World) (b : Act) (m : FrameMode) (_ : Sim P μ h W) (_ : AR μ a b) (_ : UR μ u m) (_ : ∀ ex b' cs' W', PostS P μ h W c0 cs e a' u' h' ex b' cs' W' → Q ex b' cs' W'), wpOpsS P ops Q (List.range' i l.length) b ({ c0 with mode := m } :: cs) W
  | [], i, hl, a, u, h, e, a', u', h', hr, Q, μ, W, b, m, s, ar, ur, hQ => by
    change RD.ok AX.normal a u h = _ at hr
    cases hr
    exact hQ _ _ _ _ ⟨μ, m, trivial, ar, ur, rfl, s, .refl _ _ _⟩
  | o :: r, i, hl, a, u, h, e, a', u', h', hr, Q, μ, W, b, m, s, ar, ur, hQ => by
    change aoneOpD E call ops o (aopsD E call ops r) a u h = _ at hr
    rw [List.length_cons, List.range'_succ]
    refine oneOpD_ok ok hc (hl 0 o rfl) hr (fun a1 u1 h1 hk μ1 W1 b1 m1 s1 ar1 ur1 hQ1 => ?_) s ar ur hQ
    exact opsD_ok r (i + 1) (fun j o' hj => by have := hl (j + 1) o' (by simpa using hj); rw [← this]; congr 1; omega) a1 u1 h1 hk μ1 W1 b1 m1 s1 ar1 ur1 hQ1

include hm
theorem execD_ok : ∀ (c : Code), codeOk drawOk cr c = true → ∀ (a : AAct) (u : AU) (h : AH) {e : AX} {a' : AAct} {u' : AU} {h' : AH}, aexecD E call cr c a u h = .ok e a' u' h' → ∀ {μ : Mp} {W : World} {b : Act} {m : FrameMode}, Sim P μ h W → AR μ a b → UR μ u m →
    c.wpS P (PostS P μ h W c0 cs e a' u' h') b ({ c0 with mode := m } :: cs) W := by
  intro c
  induction c with
  | skip =>
    intro _ a u h e a' u' h' hr μ W b m s ar ur
    cases hr
    exact wpS_of_wp (wp_skip ⟨μ, m, trivial, ar, ur, rfl, s, .refl _ _ _⟩)
  | region id ops d =>
    intro hk a u h e a' u' h' hr μ W b m s ar ur
    cases d with
    | false =>
      change aopsD E call ops ops.toList a u h = _ at hr
      refine wpS_region ?_
      have := opsD_ok ok hc ops.toList 0 (fun j o hj => by simpa using hj) a u h hr (c0 := c0) (cs := cs) (Q := PostS P μ h W c0 cs e a' u' h') μ W b m s ar ur (fun _ _ _ _ hp => hp)
      simpa [List.range_eq_range'] using this
    | true =>
      change liftD u (aregion E call cr id ops true a h) = _ at hr
      unfold liftD at hr
      split at hr
      · cases hr
      · rename_i e1 a1 h1 hx
        cases hr
        refine wpS_of_wp (wp_mono (drawn_ok ok hc hm hk hx s ar) fun ex b1 W1 hp => ?_)
        obtain ⟨μ1, x1, ar1, s1, st1⟩ := hp
        exact ⟨μ1, m, x1, ar1, ur.mono st1.sub, rfl, s1, st1⟩
  | seq x y ihx ihy =>
    intro hk a u h e a' u' h' hr μ W b m s ar ur
    have hk' : codeOk drawOk cr x = true ∧ codeOk drawOk cr y = true := by
      change (match codeOk drawOk cr x with | true => codeOk drawOk cr y | false => false) = true at hk
      split at hk
      · rename_i q; exact ⟨q, hk⟩
      · cases hk
    change thenD (aexecD E call cr y) (aexecD E call cr x a u h) = _ at hr
    unfold thenD at hr
    split at hr
    · rename_i a1 u1 h1 hx
      refine wpS_seq ?_
      intro bb kk hb hro
      obtain ⟨ex, b1, cs1, W1, hp, harr⟩ := ihx hk'.1 a u h hx s ar ur bb kk hb hro
      refine ⟨ex, b1, cs1, W1, ?_, harr⟩
      obtain ⟨μ1, m1, x1, ar1, ur1, hcs, s1, st1⟩ := hp
      cases XR.normal_of x1
      subst hcs
      intro bb kk hb hro
      obtain ⟨ex, b2, cs2, W2, hp, harr⟩ := ihy hk'.2 a1 u1 h1 hr s1 ar1 ur1 bb kk hb hro
      exact ⟨ex, b2, cs2, W2, hp.trans s1 st1, harr⟩
    · rename_i hne
      refine wpS_seq ?_
      intro bb kk hb hro
      obtain ⟨ex, b1, cs1, W1, hp, harr⟩ := ihx hk'.1 a u h hr s ar ur bb kk hb hro
      refine ⟨ex, b1, cs1, W1, ?_, harr⟩
      have hp' := hp
      obtain ⟨μ1, m1, x1, ar1, ur1, hcs, s1, st1⟩ := hp
      have he : e ≠ .normal := fun q => hne a' u' h' (by rw [hr, q])
      have hex := x1.not_normal he
      cases ex <;> first | exact absurd rfl hex | exact hp'
  | cond c x y ihx ihy =>
    intro hk a u h e a' u' h' hr μ W b m s ar ur
    have hk' : codeOk drawOk cr x = true ∧ codeOk drawOk cr y = true := by
      change (match codeOk drawOk cr x with | true => codeOk drawOk cr y | false => false) = true at hk
      split at hk
      · rename_i q; exact ⟨q, hk⟩
      · cases hk
    change condD (aexecD E call cr x) (aexecD E call cr y) a u h (aev a.t c) = _ at hr
    have hv := ar.eval c
    unfold condD at hr
    split at hr
    · rename_i q; rw [q] at hv
      generalize hb : b.eval c = v at hv
      cases hv
      exact wpS_cond hb (ihx hk'.1 a u h hr s ar ur)
    · rename_i q; rw [q] at hv
      generalize hb : b.eval c = v at hv
      cases hv
      exact wpS_cond hb (ihy hk'.2 a u h hr s ar ur)
    · cases hr
  | block _ _ _ => intro _ a u h e a' u' h' hr; cases hr
  | loop _ _ => intro _ a u h e a' u' h' hr; cases hr
  | rangeFunc _ _ _ _ _ _ => intro _ a u h e a' u' h' hr; cases hr
  | exit _ => intro _ a u h e a' u' h' hr; cases hr
  | scope _ _ => intro _ a u h e a' u' h' hr; cases hr
  | label _ => intro _ a u h e a' u' h' hr; cases hr
  | goto _ => intro _ a u h e a' u' h' hr; cases hr
  | ret =>
    intro _ a u h e a' u' h' hr μ W b m s ar ur
    cases hr
    exact wpS_of_wp (wp_ret ⟨μ, m, trivial, ar, ur, rfl, s, .refl _ _ _⟩)
  | refuse _ => intro _ a u h e a' u' h' hr; cases hr
end

theorem enter_ok {μ : Mp} {fn : Func} {args : List Value} {args' : Array Value} (hx : VL μ args args'.toList) : AR μ (enterAct fn args) { tmps := args' ++ Array.replicate (fn.ntmps - args'.size) undef, defers := [] } := by
  have hlen : args.length = args'.size := by rw [hx.length]; simp
  refine ⟨?_, fun i => ?_, .nil⟩
  · show max fn.ntmps args.length ≤ _
    simp only [Array.size_append, Array.size_replicate]
    omega
  · rw [aev_tmp]
    show V μ (((PT.leaf.putL 0 args).get i).getD undef) _
    rw [PT.get_putL, PT.get_leaf]
    simp only [Array.getD_eq_getD_getElem?, Array.getElem?_append, Array.getElem?_replicate]
    by_cases h : i < args.length
    · rw [if_pos ⟨Nat.zero_le _, by rw [Nat.zero_add]; exact h⟩, if_pos (by rw [← hlen]; exact h), Nat.sub_zero]
      have h1 := List.getElem?_eq_getElem h
      obtain ⟨v', g1, g2⟩ := hx.get i _ h1
      rw [h1, ← Array.getElem?_toList, g1]
      exact g2
    · rw [if_neg (fun e => h (by have := e.2; rw [Nat.zero_add] at this; exact this)), if_neg (by rw [← hlen]; exact h)]
      split <;> exact .undef

/-- Every function's regions of open order are told by its text. -/
def CodesOk (E : Env) : Prop := ∀ f fn c, E.own.get f = some fn → fn.body = some c → codeOk drawOk (critFor E f) c = true

section
variable {P : Program} {E : Env} (ok : EnvOk P E) (co : CodesOk E) (hm : P.follows .mixedOrders = true)
include ok co hm

theorem dCall_ok {call : ACall} (hc : CallOk P call) : DCallOk P (dCall E call) := by
  intro f args u h e u' h' hr μ W args' m s hx ur
  unfold dCall at hr
  split at hr
  · cases hr
  · rename_i gn hgn
    obtain ⟨f1, f2⟩ := ok.own _ _ hgn
    split at hr
    · rename_i gc hgc
      refine ⟨⟨gn, f1, by rw [hgc]; rfl, f2⟩, ?_⟩
      refine callsD_of_wpS f1 hgc fun c0 cs hmode => ?_
      have hc0 : c0 = { c0 with mode := m } := by rw [← hmode]
      cases hx1 : aexecD E call (critFor E f) gc (enterAct gn args) u h with
      | bad => rw [hx1] at hr; cases hr
      | ok ex a2 u2 h2 =>
        rw [hx1] at hr
        have hw := execD_ok ok hc hm (c0 := c0) (cs := cs) gc (co f gn gc hgn hgc) (enterAct gn args) u h hx1 s (enter_ok hx) ur
        rw [← hc0] at hw
        intro bb kk hb hro
        obtain ⟨ex1, b1, cs1, W1, hp, harr⟩ := hw bb kk hb hro
        refine ⟨ex1, b1, cs1, W1, ?_, harr⟩
        obtain ⟨μ1, m1, x1, ar1, ur1, hcs, s1, st1⟩ := hp
        have hds : a2.ds = [] → b1.defers = [] := by
          intro e0
          have := ar1.ds
          rw [e0] at this
          cases hq : b1.defers with
          | nil => rfl
          | cons d l => rw [hq] at this; cases this
        have hret : ∀ vs, a2.ds = [] → ares E.T h2 a2.t gn.results.toList = some vs → e = .ret (tup vs) → u' = u2 → h' = h2 → b1.defers = [] ∧ ∃ u'_1, cs1 = { c0 with mode := u'_1 } :: cs ∧ ∃ v, (results gn b1.tmps).run P W1 = .ok v W1 ∧ ∃ μ', EndRel μ' e (.returned v) ∧ UR μ' u' u'_1 ∧ Sim P μ' h' W1 ∧ Stp μ μ' h h' W W1 := by
          intro vs e0 e1 e2 e3 e4
          subst e2; subst e3; subst e4
          obtain ⟨v', g1, g2⟩ := results_ok ok s1 ar1.t e1
          exact ⟨hds e0, m1, hcs, v', g1, μ1, g2, ur1, s1, st1⟩
        cases ex with
        | normal =>
          cases XR.normal_of x1
          unfold dEnd at hr
          dsimp only at hr
          split at hr
          · rename_i vs q1 q2
            cases hr
            exact hret vs q1 q2 rfl rfl rfl
          · cases hr
        | ret =>
          have : ex1 = .ret := by cases ex1 <;> first | rfl | exact x1.elim
          subst this
          unfold dEnd at hr
          dsimp only at hr
          split at hr
          · rename_i vs q1 q2
            cases hr
            exact hret vs q1 q2 rfl rfl rfl
          · cases hr
        | panic v =>
          unfold dEnd at hr
          dsimp only at hr
          split at hr
          · rename_i q1
            cases hr
            cases ex1 with
            | panic ch => exact ⟨hds q1, m1, hcs, μ1, x1, ur1, s1, st1⟩
            | _ => exact x1.elim
          · cases hr
        | exit i => cases hr
        | goto l => cases hr
    · cases hr

theorem cStep_ok {call : ACall} (hc : CallOk P call) (fuel : Nat) : CallOk P (cStep E fuel call) := by
  intro f args h e h' hr μ W args' s hx
  unfold cStep at hr
  split at hr
  · cases hr
  · rename_i fn hfn
    obtain ⟨f1, f2⟩ := ok.own _ _ hfn
    split at hr
    · rename_i c hb
      cases hx1 : aexec E call (critFor E f) fuel c (enterAct fn args) h with
      | bad => rw [hx1] at hr; cases hr
      | ok ex a2 h2 =>
        rw [hx1] at hr
        refine calls_of_wp_defers f1 hb (wp_mono (exec_ok ok hc hm c (co f fn c hfn hb) _ _ hx1 s (enter_ok hx)) fun ex1 b1 W1 hp => ?_)
        obtain ⟨μ1, x1, ar1, s1, st1⟩ := hp
        have hd := dCall_ok ok co hm hc
        cases ex with
        | normal =>
          cases XR.normal_of x1
          exact leave_ok ok hd a2.ds .ret h2 e h' hr s1 ar1.t ar1.ds .ret fun end' μ' W' x y z => ⟨μ', x, y, Stp.trans s1 st1 z⟩
        | ret =>
          have : ex1 = .ret := by cases ex1 <;> first | rfl | exact x1.elim
          subst this
          exact leave_ok ok hd a2.ds .ret h2 e h' hr s1 ar1.t ar1.ds .ret fun end' μ' W' x y z => ⟨μ', x, y, Stp.trans s1 st1 z⟩
        | panic v =>
          cases ex1 with
          | panic ch =>
            obtain ⟨v', rfl, hv⟩ := x1
            exact leave_ok ok hd a2.ds (.pan v false) h2 e h' hr s1 ar1.t ar1.ds (.pan hv) fun end' μ' W' x y z => ⟨μ', x, y, Stp.trans s1 st1 z⟩
          | _ => exact x1.elim
        | exit i => cases hr
        | goto l => cases hr
    · cases hr

theorem callN_ok (fuel : Nat) : ∀ n, CallOk P (acallN E fuel n)
  | 0 => by intro f args h e h' hr; cases hr
  | n + 1 => cStep_ok ok co hm (callN_ok fuel n) fuel
end

/-- THE LAW: what the evaluator answers of a function without arguments is so over every world. -/
theorem run_closed {P : Program} {E : Env} (ok : EnvOk P E) (co : CodesOk E) (hm : P.follows .mixedOrders = true) {fuel n : Nat} {f : FuncId} {v : Value} (hr : (match acallN E fuel n f [] ⟨.leaf, 0⟩ with | some (.ret w, _) => veq w v | _ => false) = true) (W : World) :
    Calls P f #[] W fun end' W' => ∃ v' μ, end' = .returned v' ∧ V μ v v' ∧ W.heap.size ≤ W'.heap.size ∧ (∀ b, b < W.heap.size → W'.heap[b]? = W.heap[b]?) ∧ W'.os = W.os ∧ W'.tape = W.tape ∧ W'.output = W.output := by
  split at hr
  · rename_i w h' hq
    have hw := veq_eq hr
    subst hw
    have s0 : Sim P (fun _ => none) ⟨.leaf, 0⟩ W := ⟨(fun _ _ _ e => nomatch e), (fun i _ => by simp [AH.at, PT.get_leaf]), (fun _ _ _ e => nomatch e), (fun _ _ _ _ _ e => nomatch e)⟩
    refine Calls.mono (callN_ok ok co hm fuel n f [] _ _ _ hq (fun _ => none) W #[] s0 .nil) fun end' W' hp => ?_
    obtain ⟨μ, he, s, st⟩ := hp
    cases end' with
    | returned v' => exact ⟨v', μ, rfl, he, st.size, fun b hb => st.keep b hb (fun _ _ e => nomatch e), st.os, st.tape, st.output⟩
    | panicked ch => exact he.elim
    | outgrown => exact he.elim
  · cases hr
end
end Go.Ab
