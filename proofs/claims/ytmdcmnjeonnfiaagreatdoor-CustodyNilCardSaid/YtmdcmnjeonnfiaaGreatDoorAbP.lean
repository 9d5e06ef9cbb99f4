import Derived.Test.YtmdcmnjeonnfiaaGreatDoorAbO
/-! Code, results, leaving, calls. -/
set_option linter.unusedSimpArgs false
set_option linter.unusedVariables false
set_option linter.unusedSectionVars false
namespace Go.Ab
noncomputable section

section
variable {P : Program} {E : Env} (ok : EnvOk P E) {call : ACall} (hc : CallOk P call) (hm : P.follows .mixedOrders = true) {cr : Crit} {fuel : Nat}

theorem XR.normal_of {μ : Mp} {ex : Exit} (h : XR μ .normal ex) : ex = .normal := by cases ex <;> first | rfl | exact h.elim
theorem XR.not_normal {μ : Mp} {e : AX} {ex : Exit} (h : XR μ e ex) (he : e ≠ .normal) : ex ≠ .normal := by
  cases e <;> cases ex <;> first | exact absurd rfl he | exact h.elim | nofun

include ok hc hm in
theorem exec_ok : ∀ (c : Code), codeOk drawOk cr c = true → ∀ (a : AAct) (h : AH) {e : AX} {a' : AAct} {h' : AH}, aexec E call cr fuel c a h = .ok e a' h' → ∀ {μ : Mp} {W : World} {b : Act}, Sim P μ h W → AR μ a b → c.wp P (Post P μ h W e a' h') b W := by
  intro c
  induction c with
  | skip =>
    intro _ a h e a' h' hr μ W b s ar
    cases hr
    exact wp_skip ⟨μ, trivial, ar, s, .refl _ _ _⟩
  | region id ops d =>
    intro hk a h e a' h' hr μ W b s ar
    change aregion E call cr id ops d a h = _ at hr
    cases d with
    | false => exact region_ok ok hc hr s ar
    | true => exact drawn_ok ok hc hm hk hr s ar
  | seq x y ihx ihy =>
    intro hk a h e a' h' hr μ W b s ar
    have hk' : codeOk drawOk cr x = true ∧ codeOk drawOk cr y = true := by
      change (match codeOk drawOk cr x with | true => codeOk drawOk cr y | false => false) = true at hk
      split at hk
      · rename_i q; exact ⟨q, hk⟩
      · cases hk
    rw [aexec_seq] at hr
    unfold thenN at hr
    split at hr
    · rename_i a1 h1 hx
      refine wp_seq (wp_mono (ihx hk'.1 a h hx s ar) fun ex b1 W1 hp => ?_)
      obtain ⟨μ1, x1, ar1, s1, st1⟩ := hp
      cases XR.normal_of x1
      exact wp_mono (ihy hk'.2 a1 h1 hr s1 ar1) fun ex b2 W2 hp => hp.trans s1 st1
    · rename_i hne
      refine wp_seq (wp_mono (ihx hk'.1 a h hr s ar) fun ex b1 W1 hp => ?_)
      obtain ⟨μ1, x1, ar1, s1, st1⟩ := hp
      have he : e ≠ .normal := fun q => hne a' h' (by rw [hr, q])
      have hex := x1.not_normal he
      cases ex <;> first | exact absurd rfl hex | exact ⟨μ1, x1, ar1, s1, st1⟩
  | cond c x y ihx ihy =>
    intro hk a h e a' h' hr μ W b s ar
    have hk' : codeOk drawOk cr x = true ∧ codeOk drawOk cr y = true := by
      change (match codeOk drawOk cr x with | true => codeOk drawOk cr y | false => false) = true at hk
      split at hk
      · rename_i q; exact ⟨q, hk⟩
      · cases hk
    change condOn (aexec E call cr fuel x) (aexec E call cr fuel y) a h (aev a.t c) = _ at hr
    have hv := ar.eval c
    unfold condOn at hr
    split at hr
    · rename_i q; rw [q] at hv
      generalize hb : b.eval c = v at hv
      cases hv
      exact wp_cond_true hb (ihx hk'.1 a h hr s ar)
    · rename_i q; rw [q] at hv
      generalize hb : b.eval c = v at hv
      cases hv
      exact wp_cond_false hb (ihy hk'.2 a h hr s ar)
    · cases hr
  | block id c ih =>
    intro hk a h e a' h' hr μ W b s ar
    change outOf id (aexec E call cr fuel c a h) = _ at hr
    unfold outOf at hr
    split at hr
    · rename_i id' a1 h1 hx
      refine wp_block (wp_mono (ih hk a h hx s ar) fun ex b1 W1 hp => ?_)
      obtain ⟨μ1, x1, ar1, s1, st1⟩ := hp
      cases ex with
      | exit j =>
        have hj : id' = j := x1
        subst hj
        split at hr
        · rename_i q
          have q := Nat.eq_of_beq_eq_true q
          cases hr
          show if _ = _ then _ else _
          rw [if_pos q]
          exact ⟨μ1, trivial, ar1, s1, st1⟩
        · rename_i q
          cases hr
          show if _ = _ then _ else _
          rw [if_neg (fun e => by rw [e, Nat.beq_refl] at q; cases q)]
          exact ⟨μ1, rfl, ar1, s1, st1⟩
      | _ => exact x1.elim
    · rename_i hne
      refine wp_block (wp_mono (ih hk a h hr s ar) fun ex b1 W1 hp => ?_)
      obtain ⟨μ1, x1, ar1, s1, st1⟩ := hp
      cases ex with
      | exit j =>
        cases e with
        | exit i => exact absurd hr (hne i a' h')
        | _ => exact x1.elim
      | _ => exact ⟨μ1, x1, ar1, s1, st1⟩
  | loop c ih =>
    intro hk a h e a' h' hr μ W b s ar
    rw [aexec_loop] at hr
    have key : ∀ n (a : AAct) (h : AH), iter (aexec E call cr fuel c) n a h = .ok e a' h' → ∀ {μ : Mp} {W : World} {b : Act}, Sim P μ h W → AR μ a b → ∀ {Q : Exit → Act → World → Prop}, (∀ ex b' W', Post P μ h W e a' h' ex b' W' → ex ≠ .normal → Q ex b' W') → Code.rounds P c Q n b W := by
      intro n
      induction n with
      | zero => intro a h hr; cases hr
      | succ n ihn =>
        intro a h hr μ W b s ar Q hQ
        rw [iter_succ] at hr
        rw [rounds_succ]
        unfold thenN at hr
        split at hr
        · rename_i a1 h1 hx
          refine wp_mono (ih hk a h hx s ar) fun ex b1 W1 hp => ?_
          obtain ⟨μ1, x1, ar1, s1, st1⟩ := hp
          cases XR.normal_of x1
          exact ihn a1 h1 hr s1 ar1 fun ex b' W' hp hne => hQ ex b' W' (hp.trans s1 st1) hne
        · rename_i hne
          refine wp_mono (ih hk a h hr s ar) fun ex b1 W1 hp => ?_
          have hp' := hp
          obtain ⟨μ1, x1, ar1, s1, st1⟩ := hp
          have he : e ≠ .normal := fun q => hne a' h' (by rw [hr, q])
          have hex := x1.not_normal he
          have := hQ ex b1 W1 hp' hex
          cases ex <;> first | exact absurd rfl hex | exact this
    exact wp_loop_rounds fuel (key fuel a h hr s ar fun ex b' W' hp _ => hp)
  | rangeFunc _ _ _ _ _ _ => intro _ a h e a' h' hr; cases hr
  | exit id =>
    intro _ a h e a' h' hr μ W b s ar
    cases hr
    exact wp_exit ⟨μ, rfl, ar, s, .refl _ _ _⟩
  | scope _ _ => intro _ a h e a' h' hr; cases hr
  | label l =>
    intro _ a h e a' h' hr μ W b s ar
    cases hr
    exact wp_label ⟨μ, trivial, ar, s, .refl _ _ _⟩
  | goto _ => intro _ a h e a' h' hr; cases hr
  | ret =>
    intro _ a h e a' h' hr μ W b s ar
    cases hr
    exact wp_ret ⟨μ, trivial, ar, s, .refl _ _ _⟩
  | refuse _ => intro _ a h e a' h' hr; cases hr

/-! ### Results -/
def resOne (tmps : Array Value) : ResultVar → Sem Value
  | .tmp t => pure (tmps.getD t undef)
  | .cell a t => do loadVar t (← asAddr (tmps.getD a undef))
include ok in
theorem res1_ok {μ : Mp} {h : AH} {W : World} (s : Sim P μ h W) {t : PT Value} {tmps : Array Value} (tr : TR μ t tmps) : ∀ (rs : List ResultVar) (vs : List Value), ares E.T h t rs = some vs →
    ∃ vs', (rs.mapM (resOne tmps)).run P W = .ok vs' W ∧ VL μ vs vs'
  | [], vs, hr => by
    cases hr
    exact ⟨[], by simp, .nil⟩
  | r :: rs, vs, hr => by
    rw [ares] at hr
    split at hr
    · rename_i v vs1 hv hvs
      cases hr
      obtain ⟨vs', g1, g2⟩ := res1_ok s tr rs vs1 hvs
      cases r with
      | tmp i =>
        cases hv
        exact ⟨_ :: vs', by simp [List.mapM_cons, resOne, g1], .cons (tr i) g2⟩
      | cell i ty =>
        have hv : aload E.T h ty (aev t (.tmp i)) = some v := hv
        obtain ⟨v', k1, k2⟩ := load_ok ok.tbl s (tr i) hv
        refine ⟨v' :: vs', ?_, .cons k2 g2⟩
        have k3 : (do loadVar ty (← asAddr (tmps.getD i undef)) : Sem Value).run P W = .ok v' W := by
          have hp := tr i
          unfold aload at hv
          split at hv
          · rename_i b o q
            rw [q] at hp
            generalize tmps.getD i undef = p' at hp k1 ⊢
            cases hp
            exact k1
          · cases hv
        have k4 : (resOne tmps (.cell i ty)).run P W = .ok v' W := k3
        simp [List.mapM_cons, k4, g1]
    · cases hr
include ok in
theorem results_ok {μ : Mp} {h : AH} {W : World} (s : Sim P μ h W) {t : PT Value} {tmps : Array Value} (tr : TR μ t tmps) {fn : Func} {vs : List Value} (hr : ares E.T h t fn.results.toList = some vs) :
    ∃ v', (results fn tmps).run P W = .ok v' W ∧ V μ (tup vs) v' := by
  obtain ⟨vs', g1, g2⟩ := res1_ok ok s tr _ _ hr
  have hrun : ∀ z, (if h : vs'.toArray.size = 1 then vs'.toArray[0] else Value.tuple vs'.toArray) = z → (results fn tmps).run P W = .ok z W := by
    intro z hz
    have hdef : results fn tmps = (do
      let vs ← fn.results.mapM (resOne tmps)
      pure (if h : vs.size = 1 then vs[0] else .tuple vs)) := rfl
    rw [hdef, Array.mapM_eq_mapM_toList]
    simp only [Sem.run_bind, bind_map_left, map_eq_pure_bind, bind_assoc, pure_bind]
    rw [g1]
    simp only [Result.andThen, Sem.run_pure, Sem.run_bind]
    rw [hz]
  unfold tup
  split
  · rename_i v
    cases g2 with | cons q1 q2 =>
    cases q2
    exact ⟨_, hrun _ rfl, q1⟩
  · rename_i hne
    refine ⟨.tuple vs'.toArray, hrun _ ?_, .tuple (by simpa using g2)⟩
    rw [dif_neg]
    intro hs
    have hl : vs'.length = 1 := by simpa using hs
    have := g2.length
    rw [hl] at this
    match vs, this with
    | [v], _ => exact hne v rfl

/-! ### Deferred calls -/
inductive UR (μ : Mp) : AU → FrameMode → Prop
  | ret : UR μ .ret .returning
  | pan {v v' : Value} {r : Bool} : V μ v v' → UR μ (.pan v r) (.panicking [{ v := v', recovered := r }])
theorem UR.mono {μ μ' : Mp} (hs : Sub μ μ') {u : AU} {m : FrameMode} (h : UR μ u m) : UR μ' u m := by
  cases h with
  | ret => exact .ret
  | pan h => exact .pan (h.mono hs)
def DCallOk (P : Program) (dcall : FuncId → List Value → AU → AH → Option (AEnd × AU × AH)) : Prop := ∀ f args u h e u' h', dcall f args u h = some (e, u', h') → ∀ μ W args' m, Sim P μ h W → VL μ args args'.toList → UR μ u m →
  (∃ fn, P.funcs[f]? = some fn ∧ fn.body.isSome = true ∧ fn.name ≠ "runtime.NumGoroutine") ∧
  CallsD P f args' m W fun end' m' W' => ∃ μ', EndRel μ' e end' ∧ UR μ' u' m' ∧ Sim P μ' h' W' ∧ Stp μ μ' h h' W W'

include ok in
theorem leave_ok {dcall : FuncId → List Value → AU → AH → Option (AEnd × AU × AH)} (hd : DCallOk P dcall) {fn : Func} {t : PT Value} : ∀ (ds : List ADef) (u : AU) (h : AH) (e : AEnd) (h' : AH), aleave E dcall fn t ds u h = some (e, h') →
    ∀ {μ : Mp} {W : World} {tmps : Array Value} {ds' : List Deferred} {m : FrameMode}, Sim P μ h W → TR μ t tmps → DL μ ds ds' → UR μ u m → ∀ {R : Ending → World → Prop}, (∀ end' μ' W', EndRel μ' e end' → Sim P μ' h' W' → Stp μ μ' h h' W W' → R end' W') → Leaves P fn tmps R ds' m W
  | [], u, h, e, h', hr, μ, W, tmps, ds', m, s, tr, dl, ur, R, hR => by
    cases dl
    cases ur with
    | ret =>
      rw [aleave] at hr
      split at hr
      · rename_i vs hvs
        cases hr
        obtain ⟨v', h1, h2⟩ := results_ok ok s tr hvs
        exact ⟨v', h1, hR _ μ W h2 s (.refl _ _ _)⟩
      · cases hr
    | pan hv =>
      rename_i v v' r
      cases r with
      | false =>
        rw [aleave] at hr
        cases hr
        exact hR _ μ W ⟨_, rfl, hv⟩ s (.refl _ _ _)
      | true => rw [aleave] at hr <;> first | cases hr | nofun
  | d :: ds, u, h, e, h', hr, μ, W, tmps, ds', m, s, tr, dl, ur, R, hR => by
    cases dl with | @cons _ cap' args' _ ds1 g1 g2 g3 =>
    rw [aleave] at hr
    split at hr
    · rename_i f hf
      unfold leaveWith at hr
      have hx : VL μ (d.args ++ d.cap) (args' ++ cap').toList := by
        rw [Array.toList_append]; exact g2.append g1
      have hrun : (∃ fn, P.funcs[f]? = some fn ∧ fn.body.isSome = true ∧ fn.name ≠ "runtime.NumGoroutine") → (invoke (.fn d.fn cap') args').run P W = .ok (.enter f (args' ++ cap')) W := by
        rintro ⟨fn, k1, k2, k3⟩
        rw [hf]
        cases hb : fn.body with
        | none => rw [hb] at k2; cases k2
        | some c => simp [invoke, callFunc, k1, k3, hb]
      have hrun' : m ≠ .run := by cases ur <;> nofun
      split at hr
      · rename_i v0 v1 h1 hcall
        obtain ⟨q1, q2⟩ := hd _ _ _ _ _ _ _ hcall μ W _ m s hx ur
        refine leaves_cons hrun' (hrun q1) (CallsD.mono q2 fun end' m' W1 hp => ?_)
        obtain ⟨μ1, he, ur1, s1, st1⟩ := hp
        cases end' with
        | returned v' =>
          cases ur1
          exact leave_ok hd ds .ret h1 e h' hr s1 (tr.mono st1.sub) (g3.mono st1.sub) .ret fun end' μ' W' x y z => hR end' μ' W' x y (Stp.trans s1 st1 z)
        | panicked ch => exact he.elim
        | outgrown => exact he.elim
      · rename_i v0 u1 h1 hne hcall
        obtain ⟨q1, q2⟩ := hd _ _ _ _ _ _ _ hcall μ W _ m s hx ur
        refine leaves_cons hrun' (hrun q1) (CallsD.mono q2 fun end' m' W1 hp => ?_)
        obtain ⟨μ1, he, ur1, s1, st1⟩ := hp
        cases end' with
        | returned v' =>
          refine leave_ok hd ds u1 h1 e h' hr s1 (tr.mono st1.sub) (g3.mono st1.sub) (m := settle m') ?_ fun end' μ' W' x y z => hR end' μ' W' x y (Stp.trans s1 st1 z)
          cases ur1 with
          | ret => exact .ret
          | pan hv =>
            rename_i r
            cases r with
            | true => exact (hne _ rfl).elim
            | false => exact .pan hv
        | panicked ch => exact he.elim
        | outgrown => exact he.elim
      · cases hr
      · cases hr
    · cases hr
end
end
end Go.Ab
