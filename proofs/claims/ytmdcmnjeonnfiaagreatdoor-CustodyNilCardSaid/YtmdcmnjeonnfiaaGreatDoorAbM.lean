import Derived.Test.YtmdcmnjeonnfiaaGreatDoorAbL
import Derived.Orders
import Derived.LoopN
import Derived.Recover
/-! Code runs so: regions in the order of the text. -/
set_option linter.unusedSimpArgs false
set_option linter.unusedVariables false
set_option linter.unusedSectionVars false
namespace Go.Ab
noncomputable section

/-- What a call oracle promises. -/
def EndRel (μ : Mp) : AEnd → Ending → Prop
  | .ret v, .returned v' => V μ v v'
  | .panic v, .panicked ch => ∃ v', ch = [{ v := v', recovered := false }] ∧ V μ v v'
  | _, _ => False
def CallOk (P : Program) (call : ACall) : Prop := ∀ f args h e h', call f args h = some (e, h') → ∀ μ W args', Sim P μ h W → VL μ args args'.toList →
  Calls P f args' W fun end' W' => ∃ μ', EndRel μ' e end' ∧ Sim P μ' h' W' ∧ Stp μ μ' h h' W W'

inductive DL (μ : Mp) : List ADef → List Deferred → Prop
  | nil : DL μ [] []
  | cons {d : ADef} {cap' args' : Array Value} {l : List ADef} {l' : List Deferred} : VL μ d.cap cap'.toList → VL μ d.args args'.toList → DL μ l l' → DL μ (d :: l) ({ target := .fn d.fn cap', args := args' } :: l')
theorem VL.mono' {μ μ' : Mp} (hs : Sub μ μ') {l l' : List Value} (h : VL μ l l') : VL μ' l l' := VL.mono hs h
theorem DL.mono {μ μ' : Mp} (hs : Sub μ μ') : ∀ {l : List ADef} {l' : List Deferred}, DL μ l l' → DL μ' l l'
  | _, _, .nil => .nil
  | _, _, .cons a b c => .cons (VL.mono hs a) (VL.mono hs b) (DL.mono hs c)

/-- Temporaries: all that is known there is so here. -/
def TR (μ : Mp) (t : PT Value) (tmps : Array Value) : Prop := ∀ i, V μ (aev t (.tmp i)) (tmps.getD i undef)
structure AR (μ : Mp) (a : AAct) (b : Act) : Prop where
  n : a.n ≤ b.tmps.size
  t : TR μ a.t b.tmps
  ds : DL μ a.ds b.defers
theorem TR.mono {μ μ' : Mp} (hs : Sub μ μ') {t : PT Value} {tmps : Array Value} (h : TR μ t tmps) : TR μ' t tmps := fun i => (h i).mono hs
theorem AR.mono {μ μ' : Mp} (hs : Sub μ μ') {a : AAct} {b : Act} (h : AR μ a b) : AR μ' a b := ⟨h.n, h.t.mono hs, h.ds.mono hs⟩
theorem aev_tmp (t : PT Value) (i : Nat) : aev t (.tmp i) = (t.get i).getD undef := by
  show (match t.get i with | some v => v | none => undef) = _
  cases t.get i <;> rfl
theorem AR.eval {μ : Mp} {a : AAct} {b : Act} (h : AR μ a b) (x : Operand) : V μ (aev a.t x) (b.eval x) := by
  cases x with
  | tmp i => exact h.t i
  | const v =>
    show V μ (match plain v with | true => v | false => poison) v
    split
    · rename_i hp; exact .of_plain hp
    · exact .poison _
  | global g => exact .poison _
  | func f => exact .func .nil .nil
theorem AR.put {μ : Mp} {a a1 : AAct} {b : Act} (h : AR μ a b) {d : Option Tmp} {v v' : Value} (hv : V μ v v') (hp : a.put d v = some a1) : AR μ a1 (b.put d v') := by
  unfold AAct.put at hp
  split at hp
  · cases hp; exact h
  · rename_i d
    split at hp
    · rename_i hlt
      have hlt : d < a.n := Nat.le_of_ble_eq_true hlt
      cases hp
      have hn := h.n
      refine ⟨by simpa [Act.put] using hn, fun i => ?_, h.ds⟩
      have := h.t i
      rw [aev_tmp] at this ⊢
      simp only [PT.get_put, Act.put]
      by_cases e : i = d
      · subst e
        rw [if_pos rfl]
        have : (b.tmps.setIfInBounds i v').getD i undef = v' := by
          have hl : i < b.tmps.size := Nat.lt_of_lt_of_le hlt hn
          simp [Array.getD_eq_getD_getElem?, Array.getElem?_setIfInBounds, hl]
        rw [this]
        exact hv
      · rw [if_neg e]
        have h2 : (b.tmps.setIfInBounds d v').getD i undef = b.tmps.getD i undef := by
          simp [Array.getD_eq_getD_getElem?, Array.getElem?_setIfInBounds, show ¬ d = i from fun e' => e e'.symm]
        rw [h2]
        exact this
    · cases hp

theorem aguard_ok {μ : Mp} {a : AAct} {b : Act} (h : AR μ a b) {ops : Array Oper} {o : Oper} {w : Bool} (hg : aguard ops a o.guard = some w) : Region.wanted o (yielded ops b.tmps) = w := by
  unfold aguard at hg
  unfold Region.wanted
  split at hg
  · rename_i e; cases hg; rw [e]
  · rename_i j want e
    rw [e]
    dsimp only
    split at hg
    · rename_i d hd
      have hr := h.t d
      rw [aev_tmp] at hr
      unfold yielded
      rw [hd]
      dsimp only [Option.bind]
      have hget : ∀ v', b.tmps.getD d undef = v' → v' ≠ undef → b.tmps[d]? = some v' := by
        intro v' e1 e2
        rw [Array.getD_eq_getD_getElem?] at e1
        cases hq : b.tmps[d]? with
        | none => rw [hq] at e1; exact absurd e1.symm e2
        | some u => rw [hq] at e1; cases e1; rfl
      split at hg
      · rename_i v hv
        rw [hv] at hr
        cases hg
        have hx : b.tmps.getD d undef = .bool v := by
          generalize b.tmps.getD d undef = z at hr
          cases hr; rfl
        rw [hget _ hx (by nofun)]
        cases v <;> cases want <;> rfl
      · cases hg
      · rename_i n1 n2
        split at hg
        · cases hg
          have hnb : ∀ v, b.tmps[d]? ≠ some (.bool v) := by
            intro v e1
            have hx : b.tmps.getD d undef = .bool v := by rw [Array.getD_eq_getD_getElem?, e1]; rfl
            rw [hx] at hr
            cases hz : a.t.get d with
            | none => rw [hz] at hr; cases hr
            | some u =>
              rw [hz] at hr
              generalize hu : (some u).getD undef = u' at hr
              cases hr with
              | poison => exact n2 _ (by cases hu; exact hz)
              | bool => exact n1 _ (by cases hu; exact hz)
          cases hq : b.tmps[d]? with
          | none => cases want <;> rfl
          | some u => cases u <;> first | (exact absurd hq (hnb _)) | (cases want <;> rfl)
        · cases hg
    · cases hg

/-! ### Operations in the order of the text -/
def XR (μ : Mp) : AX → Exit → Prop
  | .normal, .normal => True
  | .exit i, .exit j => i = j
  | .ret, .ret => True
  | .panic v, .panic ch => ∃ v', ch = [{ v := v', recovered := false }] ∧ V μ v v'
  | _, _ => False

section
variable {P : Program} {E : Env} (ok : EnvOk P E) {call : ACall} (hc : CallOk P call)

/-- What is so behind a piece of code. -/
def Post (P : Program) (μ : Mp) (h : AH) (W : World) (e : AX) (a' : AAct) (h' : AH) (ex : Exit) (b' : Act) (W' : World) : Prop :=
  ∃ μ', XR μ' e ex ∧ AR μ' a' b' ∧ Sim P μ' h' W' ∧ Stp μ μ' h h' W W'
theorem Post.trans {μ μ1 : Mp} {h h1 : AH} {W W1 : World} (s1 : Sim P μ1 h1 W1) (st : Stp μ μ1 h h1 W W1) {e : AX} {a' : AAct} {h' : AH} {ex : Exit} {b' : Act} {W' : World} (hp : Post P μ1 h1 W1 e a' h' ex b' W') : Post P μ h W e a' h' ex b' W' := by
  obtain ⟨μ', x, y, z, w⟩ := hp
  exact ⟨μ', x, y, z, Stp.trans s1 st w⟩

include ok hc
theorem oneOp_ok {ops : Array Oper} {o : Oper} {i : Nat} (ho : ops[i]? = some o) {k : AAct → AH → R AX} {a : AAct} {h : AH} {e : AX} {a' : AAct} {h' : AH} (hr : aoneOp E call ops o k a h = .ok e a' h')
    {rest : List Nat} {Q : Exit → Act → World → Prop}
    (hk : ∀ a1 h1, k a1 h1 = .ok e a' h' → ∀ μ1 W1 b1, Sim P μ1 h1 W1 → AR μ1 a1 b1 → (∀ ex b' W', Post P μ1 h1 W1 e a' h' ex b' W' → Q ex b' W') → wpOps P ops Q rest b1 W1)
    {μ : Mp} {W : World} {b : Act} (s : Sim P μ h W) (ar : AR μ a b) (hQ : ∀ ex b' W', Post P μ h W e a' h' ex b' W' → Q ex b' W') : wpOps P ops Q (i :: rest) b W := by
  simp only [wpOps, ho]
  unfold aoneOp at hr
  split at hr
  · cases hr
  · rename_i hg
    have := aguard_ok ar hg
    rw [if_neg (by rw [this]; simp)]
    unfold putThen at hr
    split at hr
    · rename_i a1 hp
      exact hk a1 h hr μ W _ s (ar.put .undef hp) hQ
    · cases hr
  · rename_i hg
    have := aguard_ok ar hg
    rw [if_pos this]
    left
    unfold Oper.wp
    unfold afterOp at hr
    split at hr
    · cases hr
    · rename_i v h1 hn
      obtain ⟨μ1, v', W1, hrun, hv, s1, st⟩ := aop_ok ok s (fun x _ => ar.eval x) hn
      unfold putThen at hr
      split at hr
      · rename_i a1 hp
        have hk1 := hk a1 h1 hr μ1 W1 (b.put o.dst v') s1 ((ar.mono st.sub).put hv hp) (fun ex b' W' hp' => hQ ex b' W' (hp'.trans s1 st))
        rcases hrun with e | ⟨e, e2⟩
        · rw [e]; exact hk1
        · rw [e]; subst e2; exact hk1
      · cases hr
    · rename_i f args hn
      obtain ⟨args', hrun, hx⟩ := aop_ok ok s (fun x _ => ar.eval x) hn
      rw [hrun]
      unfold afterCall at hr
      split at hr
      · rename_i v h1 hcall
        refine Calls.mono (hc _ _ _ _ _ hcall μ W args' s hx) ?_
        intro end' W1 ⟨μ1, he, s1, st⟩
        cases end' with
        | returned v' =>
          unfold putThen at hr
          split at hr
          · rename_i a1 hp
            exact hk a1 h1 hr μ1 W1 _ s1 ((ar.mono st.sub).put he hp) (fun ex b' W' hp' => hQ ex b' W' (hp'.trans s1 st))
          · cases hr
        | panicked ch => exact he.elim
        | outgrown => exact he.elim
      · rename_i v h1 hcall
        cases hr
        refine Calls.mono (hc _ _ _ _ _ hcall μ W args' s hx) ?_
        intro end' W1 ⟨μ1, he, s1, st⟩
        cases end' with
        | returned v' => exact he.elim
        | panicked ch => exact hQ _ _ _ ⟨μ1, he, ar.mono st.sub, s1, st⟩
        | outgrown => exact he.elim
      · cases hr
    · rename_i fn cap args hn
      obtain ⟨cap', args', hrun, hx, hy⟩ := aop_ok ok s (fun x _ => ar.eval x) hn
      rw [hrun]
      unfold putThen at hr
      split at hr
      · rename_i a1 hp
        have ar' : AR μ { a with ds := ⟨fn, cap, args⟩ :: a.ds } { b with defers := { target := .fn fn cap', args := args' } :: b.defers } := ⟨ar.n, ar.t, .cons (d := ⟨fn, cap, args⟩) hx hy ar.ds⟩
        exact hk a1 h hr μ W _ s (ar'.put .undef hp) hQ
      · cases hr
    · rename_i v hn
      cases hr
      obtain ⟨v', hrun, hv⟩ := aop_ok ok s (fun x _ => ar.eval x) hn
      rw [hrun]
      exact hQ _ _ _ ⟨μ, ⟨v', rfl, hv⟩, ar, s, .refl _ _ _⟩
    · cases hr

theorem ops_ok {ops : Array Oper} : ∀ (l : List Oper) (i : Nat) (_ : ∀ j o, l[j]? = some o → ops[i + j]? = some o) (a : AAct) (h : AH) {e : AX} {a' : AAct} {h' : AH} (_ : aops E call ops l a h = .ok e a' h') {Q : Exit → Act → World → Prop}
    (μ : Mp) (W : World) (b : Act) (_ : Sim P μ h W) (_ : AR μ a b) (_ : ∀ ex b' W', Post P μ h W e a' h' ex b' W' → Q ex b' W'), wpOps P ops Q (List.range' i l.length) b W
  | [], i, hl, a, h, e, a', h', hr, Q, μ, W, b, s, ar, hQ => by
    rw [aops_nil] at hr
    cases hr
    exact hQ _ _ _ ⟨μ, trivial, ar, s, .refl _ _ _⟩
  | o :: r, i, hl, a, h, e, a', h', hr, Q, μ, W, b, s, ar, hQ => by
    rw [aops_cons] at hr
    rw [List.length_cons, List.range'_succ]
    refine oneOp_ok ok hc (hl 0 o rfl) hr (fun a1 h1 hk μ1 W1 b1 s1 ar1 hQ1 => ?_) s ar hQ
    exact ops_ok r (i + 1) (fun j o' hj => by have := hl (j + 1) o' (by simpa using hj); rw [← this]; congr 1; omega) a1 h1 hk μ1 W1 b1 s1 ar1 hQ1

theorem region_ok {id : Nat} {ops : Array Oper} {a : AAct} {h : AH} {e : AX} {a' : AAct} {h' : AH} (hr : aops E call ops ops.toList a h = .ok e a' h') {μ : Mp} {W : World} {b : Act} (s : Sim P μ h W) (ar : AR μ a b) :
    (Code.region id ops false).wp P (Post P μ h W e a' h') b W := by
  refine wp_region ?_
  have := ops_ok ok hc ops.toList 0 (fun j o hj => by simpa using hj) a h hr (Q := Post P μ h W e a' h') μ W b s ar (fun _ _ _ hp => hp)
  simpa [List.range_eq_range'] using this
end
end
end Go.Ab
