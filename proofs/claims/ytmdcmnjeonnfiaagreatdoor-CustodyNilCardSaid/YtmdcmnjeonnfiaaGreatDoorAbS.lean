import Derived.Test.YtmdcmnjeonnfiaaGreatDoorAbR
/-! Calls with summaries. -/
set_option linter.unusedSimpArgs false
set_option linter.unusedVariables false
set_option linter.unusedSectionVars false
namespace Go.Ab
noncomputable section

/-- A summary, if there is one; else the function. -/
def orSum (sum call : ACall) : ACall := fun f args h => match sum f args h with
  | some r => some r
  | none => call f args h
def acallS (sum : ACall) (E : Env) (fuel : Nat) (n : Nat) : ACall := Nat.rec (motive := fun _ => ACall) (fun _ _ _ => none) (fun _ ih => orSum sum (cStep E fuel ih)) n
theorem orSum_ok {P : Program} {sum call : ACall} (h1 : CallOk P sum) (h2 : CallOk P call) : CallOk P (orSum sum call) := by
  intro f args h e h' hr
  unfold orSum at hr
  split at hr
  · rename_i r hs
    cases hr
    exact h1 f args h e h' hs
  · exact h2 f args h e h' hr
theorem callS_ok {P : Program} {E : Env} (ok : EnvOk P E) (co : CodesOk E) (hm : P.follows .mixedOrders = true) {sum : ACall} (hs : CallOk P sum) (fuel : Nat) : ∀ n, CallOk P (acallS sum E fuel n)
  | 0 => by intro f args h e h' hr; cases hr
  | n + 1 => orSum_ok hs (cStep_ok ok co hm (callS_ok ok co hm hs fuel n) fuel)
def isV (w : Value) : Option (AEnd × AH) → Bool
  | some (.ret v, _) => veq w v
  | _ => false
theorem runS_closed {P : Program} {E : Env} (ok : EnvOk P E) (co : CodesOk E) (hm : P.follows .mixedOrders = true) {sum : ACall} (hs : CallOk P sum) {fuel n : Nat} {f : FuncId} {v : Value} (hr : isV v (acallS sum E fuel n f [] ⟨.leaf, 0⟩) = true) (W : World) :
    Calls P f #[] W fun end' W' => ∃ v' μ, end' = .returned v' ∧ V μ v v' ∧ W.heap.size ≤ W'.heap.size ∧ (∀ b, b < W.heap.size → W'.heap[b]? = W.heap[b]?) ∧ W'.os = W.os ∧ W'.tape = W.tape ∧ W'.output = W.output := by
  unfold isV at hr
  split at hr
  · rename_i w h' hq
    have hw := veq_eq hr
    subst hw
    have s0 : Sim P (fun _ => none) ⟨.leaf, 0⟩ W := ⟨(fun _ _ _ e => nomatch e), (fun i _ => by simp [AH.at, PT.get_leaf]), (fun _ _ _ e => nomatch e), (fun _ _ _ _ _ e => nomatch e)⟩
    refine Calls.mono (callS_ok ok co hm hs fuel n f [] _ _ _ hq (fun _ => none) W #[] s0 .nil) fun end' W' hp => ?_
    obtain ⟨μ, he, s, st⟩ := hp
    cases end' with
    | returned v' => exact ⟨v', μ, rfl, he, st.size, fun b hb => st.keep b hb (fun _ _ e => nomatch e), st.os, st.tape, st.output⟩
    | panicked ch => exact he.elim
    | outgrown => exact he.elim
  · cases hr
end
end Go.Ab
