import Derived.Test.YtmdcmnjeonnfiaaGreatDoorAbQ
/-! The tables of a program are as they should be. -/
set_option linter.unusedSimpArgs false
set_option linter.unusedVariables false
set_option linter.unusedSectionVars false
namespace Go.Ab
noncomputable section

def layOf (P : Program) (t : Nat) : Option (Bool × Nat) := match P.underlying t, P.info? t with
  | some d, some i => some (isAggD d, i.size)
  | _, _ => none
/-- What f answers at each number. -/
def putsF {α : Type} (f : Nat → Option α) (l : List Nat) (t : PT α) : PT α :=
  List.rec (motive := fun _ => PT α → PT α) (fun t => t) (fun k _ ih t => match f k with
    | some v => ih (t.put k v)
    | none => ih t) l t
theorem get_putsF {α : Type} (f : Nat → Option α) : ∀ (l : List Nat) (t : PT α) (k : Nat) (v : α), (putsF f l t).get k = some v → f k = some v ∧ k ∈ l ∨ t.get k = some v
  | [], t, k, v, h => .inr h
  | x :: l, t, k, v, h => by
    have hd : putsF f (x :: l) t = (match f x with
      | some v => putsF f l (t.put x v)
      | none => putsF f l t) := rfl
    rw [hd] at h
    split at h
    · rename_i w hw
      rcases get_putsF f l _ k v h with ⟨h1, h2⟩ | h1
      · exact .inl ⟨h1, by simp [h2]⟩
      · rw [PT.get_put] at h1
        split at h1
        · rename_i e
          subst e; cases h1; exact .inl ⟨hw, by simp⟩
        · exact .inr h1
    · rcases get_putsF f l _ k v h with ⟨h1, h2⟩ | h1
      · exact .inl ⟨h1, by simp [h2]⟩
      · exact .inr h1
def findN {α : Type} : List (Nat × α) → Nat → Option α
  | [], _ => none
  | (k, v) :: r, n => match Nat.beq k n with
    | true => some v
    | false => findN r n
def mkEnv (P : Program) (fns more : List Nat) (eqs : List Nat) (exts : List (Nat × Nat × Nat)) (crits : List (Nat × Crit)) : Env :=
  { T := { ty := putsF (fun t => P.types[t]?) (List.range P.types.size) .leaf, fn := putsF (fun f => P.funcs[f]?) more (putsF (fun f => P.funcs[f]?) fns .leaf), eqok := putsF (fun _ => some ()) eqs .leaf, lay := putsF (layOf P) (List.range P.types.size) .leaf },
    ext := putsF (findN exts) (exts.map (·.1)) .leaf, crit := putsF (findN crits) (crits.map (·.1)) .leaf, own := putsF (fun f => P.funcs[f]?) fns .leaf }
def extIs (P : Program) (f : Nat) (code : Nat × Nat) : Prop := ∃ fn, P.funcs[f]? = some fn ∧ (fn.name == "runtime.NumGoroutine") = false ∧ fn.body.isNone = true ∧ Extern.findNext fn = none ∧
    (code.1 = 1 → Extern.find fn = some Extern.AbiNoEscape.same) ∧ (code.1 = 2 → Extern.find fn = some Extern.BytealgIndexByte.indexByte) ∧ (code.1 = 3 → Extern.find fn = some Extern.BytealgCount.count) ∧
    (code.1 = 4 → ∃ ps rs t, Extern.find fn = some (Extern.BytealgMakeNoZero.makeNoZero ps rs) ∧ rs[0]? = some t ∧ P.underlying t = some (.slice code.2) ∧ P.cellsOf code.2 = 1)
theorem mkEnv_ok {P : Program} {fns more eqs : List Nat} {exts : List (Nat × Nat × Nat)} {crits : List (Nat × Crit)}
    (hi : ∀ t i, P.types[t]? = some i → P.info? t = some i)
    (hf : ∀ f ∈ fns ++ more, ∀ fn, P.funcs[f]? = some fn → fn.name ≠ "runtime.NumGoroutine")
    (he : ∀ t ∈ eqs, P.eqGuardType P.depth t = false ∧ P.stoodInHeld t = false)
    (hx : ∀ f code, (f, code) ∈ exts → extIs P f code) : EnvOk P (mkEnv P fns more eqs exts crits) where
  tbl := {
    ty := fun t i h => by
      rcases get_putsF _ _ _ _ _ h with ⟨h, _⟩ | h
      · exact hi t i h
      · rw [PT.get_leaf] at h; cases h
    fn := fun f fn h => by
      rcases get_putsF _ _ _ _ _ h with ⟨h, h2⟩ | h
      · exact ⟨h, hf f (by simp [h2]) fn h⟩
      · rcases get_putsF _ _ _ _ _ h with ⟨h, h2⟩ | h
        · exact ⟨h, hf f (by simp [h2]) fn h⟩
        · rw [PT.get_leaf] at h; cases h
    eq := fun t h => by
      rcases get_putsF (fun _ => some ()) eqs .leaf t () h with ⟨_, h2⟩ | h
      · exact he t h2
      · rw [PT.get_leaf] at h; cases h
    lay := fun t a n h => by
      rcases get_putsF _ _ _ _ _ h with ⟨h, _⟩ | h
      · unfold layOf at h
        split at h
        · rename_i d i h1 h2
          cases h
          exact ⟨d, i, h1, rfl, h2, rfl⟩
        · cases h
      · rw [PT.get_leaf] at h; cases h }
  own := fun f fn h => by
    rcases get_putsF _ _ _ _ _ h with ⟨h, h2⟩ | h
    · exact ⟨h, hf f (by simp [h2]) fn h⟩
    · rw [PT.get_leaf] at h; cases h
  ext := fun f code h => by
    rcases get_putsF _ _ _ _ _ h with ⟨h, _⟩ | h
    · have hm : ∀ (l : List (Nat × Nat × Nat)), findN l f = some code → (f, code) ∈ l := by
        intro l
        induction l with
        | nil => intro h; cases h
        | cons p r ih =>
          obtain ⟨k, v⟩ := p
          intro h
          rw [findN] at h
          split at h
          · rename_i e
            cases h
            rw [Nat.eq_of_beq_eq_true e]; simp
          · exact List.mem_cons_of_mem _ (ih h)
      exact hx f code (hm _ h)
    · rw [PT.get_leaf] at h; cases h
/-- The regions of all these functions. -/
def codesOk (E : Env) (fns : List Nat) : Bool := fns.all fun f => match E.own.get f with
  | some fn => match fn.body with
    | some c => codeOk drawOk (critFor E f) c
    | none => true
  | none => true
theorem mkEnv_codes {P : Program} {fns more eqs : List Nat} {exts : List (Nat × Nat × Nat)} {crits : List (Nat × Crit)} (h : codesOk (mkEnv P fns more eqs exts crits) fns = true) : CodesOk (mkEnv P fns more eqs exts crits) := by
  intro f fn c hf hb
  rcases get_putsF _ _ _ _ _ hf with ⟨h1, h2⟩ | h1
  · have := List.all_eq_true.1 h f h2
    rw [hf] at this
    dsimp only at this
    rw [hb] at this
    exact this
  · rw [PT.get_leaf] at h1; cases h1
end
end Go.Ab
