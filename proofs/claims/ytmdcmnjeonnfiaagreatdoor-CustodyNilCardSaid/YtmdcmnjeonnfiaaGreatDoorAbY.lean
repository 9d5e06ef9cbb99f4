import Derived.Test.YtmdcmnjeonnfiaaGreatDoorAbZ
/-! The tables of a program, told by the program alone. -/
set_option linter.unusedSimpArgs false
set_option linter.unusedVariables false
set_option linter.unusedSectionVars false
namespace Go.Ab
noncomputable section

theorem get_putsF_all {α : Type} (f : Nat → Option α) : ∀ (l : List Nat) (t : PT α) (k : Nat), (putsF f l t).get k = match (if k ∈ l then f k else none) with
    | some v => some v
    | none => t.get k
  | [], t, k => by simp [putsF]
  | x :: l, t, k => by
    have hd : putsF f (x :: l) t = (match f x with
      | some v => putsF f l (t.put x v)
      | none => putsF f l t) := rfl
    rw [hd]
    by_cases e : k = x
    · subst e
      rw [if_pos (by simp)]
      cases hf : f k with
      | none =>
        dsimp only
        rw [get_putsF_all f l t k]
        by_cases hm : k ∈ l
        · rw [if_pos hm, hf]
        · rw [if_neg hm]
      | some v =>
        dsimp only
        rw [get_putsF_all f l _ k, PT.get_put, if_pos rfl]
        by_cases hm : k ∈ l
        · rw [if_pos hm, hf]
        · rw [if_neg hm]
    · simp only [List.mem_cons, e, false_or]
      cases f x with
      | none => exact get_putsF_all f l t k
      | some v =>
        dsimp only
        rw [get_putsF_all f l _ k, PT.get_put, if_neg e]
theorem get_putsF_range {α : Type} (f : Nat → Option α) (n k : Nat) (hk : k < n) : (putsF f (List.range n) .leaf).get k = f k := by
  rw [get_putsF_all, if_pos (List.mem_range.2 hk), PT.get_leaf]
  cases f k <;> rfl

structure TF (P : Program) (T : Tbl) : Prop where
  ty : ∀ t, t < P.types.size → T.ty.get t = P.types[t]?
  lay : ∀ t, t < P.types.size → T.lay.get t = layOf P t
  named : (P.types.toList.all fun i => match i.desc with | .named _ u => decide (u < P.types.size) | _ => true) = true
theorem mkTF {P : Program} (hn : (P.types.toList.all fun i => match i.desc with | .named _ u => decide (u < P.types.size) | _ => true) = true) (fns more eqs : List Nat) (exts : List (Nat × Nat × Nat)) (crits : List (Nat × Crit)) : TF P (mkEnv P fns more eqs exts crits).T :=
  ⟨fun t ht => get_putsF_range _ _ t ht, fun t ht => get_putsF_range _ _ t ht, hn⟩
theorem mkFn {P : Program} {fns more eqs : List Nat} {exts : List (Nat × Nat × Nat)} {crits : List (Nat × Crit)} {f : Nat} {fn : Func} (hf : P.funcs[f]? = some fn) (hm : f ∈ more ∨ f ∈ fns) : (mkEnv P fns more eqs exts crits).T.fn.get f = some fn := by
  show (putsF (fun f => P.funcs[f]?) more (putsF (fun f => P.funcs[f]?) fns .leaf)).get f = some fn
  rw [get_putsF_all]
  by_cases h : f ∈ more
  · rw [if_pos h, hf]
  · rw [if_neg h, get_putsF_all, if_pos (hm.resolve_left h), hf]
theorem enters_mk {P : Program} {fns more eqs : List Nat} {exts : List (Nat × Nat × Nat)} {crits : List (Nat × Crit)} {f : Nat} {fn : Func} (hf : P.funcs[f]? = some fn) (hb : fn.body.isSome = true) (hm : (more.contains f || fns.contains f) = true) (h : AH) (args : List Value) :
    acallF (mkEnv P fns more eqs exts crits) h f args = some (.enter f args) := by
  unfold acallF
  rw [mkFn hf (by simpa using hm)]
  cases hq : fn.body with
  | none => rw [hq] at hb; cases hb
  | some c => dsimp only; rw [hq]; rfl

section
variable {P : Program} {T : Tbl} (F : TF P T)
include F
theorem TF.info {t : TypeId} {i : TypeInfo} (h : T.ty.get t = some i) (ht : t < P.types.size) : P.types[t]? = some i := by rw [← F.ty t ht]; exact h
theorem TF.und {t : TypeId} {d : TypeDesc} (ht : Nat.blt t P.types.size = true) (h : P.underlying t = some d) : T.und t = some d := by
  have ht : t < P.types.size := by simpa [Nat.blt_eq] using ht
  unfold Tbl.und
  rw [F.ty t ht]
  have hi : P.info? t = P.types[t]? := by unfold Tables.info?; rw [if_pos ht]
  unfold Program.underlying at h
  rw [hi] at h
  rw [Array.getElem?_eq_getElem ht] at h ⊢
  have hall := List.all_eq_true.1 F.named P.types[t] (by simp)
  generalize P.types[t] = i at h hall ⊢
  obtain ⟨desc, s1, s2, s3, s4, s5, s6, s7, s8, s9⟩ := i
  cases desc with
  | named nm u =>
    dsimp only at h hall ⊢
    have hu : u < P.types.size := by simpa using hall
    rw [F.ty u hu, Array.getElem?_eq_getElem hu]
    have hi2 : P.info? u = P.types[u]? := by unfold Tables.info?; rw [if_pos hu]
    rw [hi2, Array.getElem?_eq_getElem hu] at h
    simpa using h
  | _ => dsimp only at h ⊢; exact h
theorem TF.lay_of {t : TypeId} {d : TypeDesc} {n : Nat} (ht : Nat.blt t P.types.size = true) (h : P.underlying t = some d) (hc : P.cellsOf t = n) : T.lay.get t = some (isAggD d, n) := by
  have ht : t < P.types.size := by simpa [Nat.blt_eq] using ht
  rw [F.lay t ht]
  unfold layOf
  rw [h]
  have hi : P.info? t = P.types[t]? := by unfold Tables.info?; rw [if_pos ht]
  unfold Program.cellsOf at hc
  rw [hi, Array.getElem?_eq_getElem ht] at hc ⊢
  simp only [Option.map_some, Option.getD_some] at hc
  simp [hc]
theorem TF.size {t : TypeId} {d : TypeDesc} {n : Nat} (ht : Nat.blt t P.types.size = true) (h : P.underlying t = some d) (hc : P.cellsOf t = n) : T.size t = some n := by
  unfold Tbl.size
  rw [F.lay_of ht h hc]
def zeroP (P : Program) (t : TypeId) : Option Value := match P.types[t]? with
  | some i => match i.zero with
    | some z => if plain z then some z else none
    | none => none
  | none => none
theorem TF.zero {t : TypeId} {z : Value} (ht : Nat.blt t P.types.size = true) (h : zeroP P t = some z) : T.zero t = some z := by
  have ht : t < P.types.size := by simpa [Nat.blt_eq] using ht
  unfold Tbl.zero
  rw [F.ty t ht]
  exact h
theorem TF.bytes {t : TypeId} {i : TypeInfo} (ht : Nat.blt t P.types.size = true) (h : P.types[t]? = some i) : T.ty.get t = some i := by
  have ht : t < P.types.size := by simpa [Nat.blt_eq] using ht
  rw [F.ty t ht]; exact h
/-- Where a field lies. -/
def fldP (P : Program) (s f : Nat) : Option Nat := match P.underlying s with
  | some (.struct fs) => match fs.toList[f]? with
    | some fd => match Nat.blt s P.types.size, Nat.blt fd.type P.types.size, P.underlying fd.type, Nat.blt 0 (P.cellsOf fd.type) with
      | true, true, some _, true => some fd.offset
      | _, _, _, _ => none
    | none => none
  | _ => none
theorem TF.fa {s f off : Nat} (h : fldP P s f = some off) (b o : Nat) : afieldA T s (.pointer (some ⟨b, o, none⟩)) f = some (.pointer (some ⟨b, o + off, none⟩)) := by
  unfold fldP at h
  split at h
  · rename_i fs hs
    split at h
    · rename_i fd hf
      split at h
      · rename_i d h1 h2 h3 h4
        cases h
        obtain ⟨k, hk⟩ : ∃ k, P.cellsOf fd.type = k + 1 := ⟨P.cellsOf fd.type - 1, by have : 0 < P.cellsOf fd.type := by simpa [Nat.blt_eq] using h4
                                                                                      omega⟩
        exact afieldA_ok (F.und h1 hs) hf (F.size h2 h3 hk) b o
      · cases h
    · cases h
  · cases h
end
end
end Go.Ab
