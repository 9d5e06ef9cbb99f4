import Derived.Test.YtmdcmnjeonnfiaaGreatDoorAbD
set_option linter.unusedSimpArgs false
set_option linter.unusedVariables false
/-! Addresses, parts, slices, building. -/
namespace Go.Ab
noncomputable section

def afieldA (T : Tbl) (s : TypeId) (x : Value) (f : Nat) : Option Value := match x with
  | .pointer (some ⟨b, o, none⟩) => match T.und s with
    | some (.struct fs) => match fs.toList[f]? with
      | some fd => match T.size fd.type with
        | some (_ + 1) => some (.pointer (some ⟨b, o + fd.offset, none⟩))
        | _ => none
      | none => none
    | _ => none
  | _ => none
theorem fieldA_ok {P : Program} {T : Tbl} (ok : TblOk P T) {μ : Mp} {s : TypeId} {x x' v : Value} {f : Nat} (hx : V μ x x') (ha : afieldA T s x f = some v) (W : World) :
    ∃ v', (Instr.fieldAt s x' f).run P W = .ok v' W ∧ V μ v v' := by
  unfold afieldA at ha
  split at ha
  · rename_i b o
    cases hx
    rename_i b' z hb
    split at ha
    · rename_i fs hs
      have hu := und_ok ok hs
      split at ha
      · rename_i fd hf
        split at ha
        · rename_i k hk
          cases ha
          have h1 : fs[f]? = some fd := by rw [← Array.getElem?_toList]; exact hf
          refine ⟨_, ?_, .ptr hb⟩
          simp only [Instr.fieldAt, Sem.run_bind, run_underlying hu, Result.andThen_ok, h1, Instr.sureAddr, Sem.run_pure, fieldPlace, size_ok ok hk, Nat.succ_ne_zero, if_false, addr_add]
        · cases ha
      · cases ha
    · cases ha
  · cases ha

def aidx (i : Int) (len : Nat) : Option Nat := match i with
  | .ofNat n => match Nat.blt n len with
    | true => some n
    | false => none
  | .negSucc _ => none
theorem aidx_ok {i : Int} {len n : Nat} (h : aidx i len = some n) : (0 ≤ i ∧ i < len) ∧ i.toNat = n ∧ n < len := by
  unfold aidx at h
  split at h
  · rename_i m
    split at h
    · rename_i hb
      cases h
      have hb : n < len := Nat.le_of_ble_eq_true hb
      exact ⟨⟨Int.natCast_nonneg _, by simp only [Int.ofNat_eq_natCast]; omega⟩, rfl, hb⟩
    · cases h
  · cases h

def aindexA (T : Tbl) (t : TypeId) (x ix : Value) : Option Value := match ix with
  | .int _ i => match T.und t, x with
    | some (.slice e), .slice (some ⟨b, o, none⟩) len _ => match T.size e, aidx i len with
      | some k, some n => some (.pointer (some ⟨b, o + n * k, none⟩))
      | _, _ => none
    | some (.array len e), .pointer (some ⟨b, o, none⟩) => match T.size e, aidx i len with
      | some k, some n => some (.pointer (some ⟨b, o + n * k, none⟩))
      | _, _ => none
    | _, _ => none
  | _ => none
theorem indexA_ok {P : Program} {T : Tbl} (ok : TblOk P T) {μ : Mp} {t : TypeId} {x x' ix ix' v : Value} (hx : V μ x x') (hi : V μ ix ix') (ha : aindexA T t x ix = some v) (W : World) :
    ∃ v', (Instr.indexAt t x' ix').run P W = .ok v' W ∧ V μ v v' := by
  unfold aindexA at ha
  split at ha
  · rename_i k i
    cases hi
    split at ha
    · rename_i e b o len c hs
      have hu := und_ok ok hs
      cases hx with | @slice _ b' _ _ _ c' sz0 k0 hb h1 h2 h3 =>
      split at ha
      · rename_i sz n hk hn
        cases ha
        obtain ⟨g1, g2, g3⟩ := aidx_ok hn
        refine ⟨_, ?_, .ptr hb⟩
        simp only [Instr.indexAt, asIntOf, Sem.run_bind, Sem.run_pure, Result.andThen_ok, run_underlying hu, Sem.run_ite]
        rw [if_pos g1]
        simp only [size_ok ok hk, Result.andThen_ok, g2, addr_add]
      · cases ha
    · rename_i len e b o hs
      have hu := und_ok ok hs
      cases hx
      rename_i b' z hb
      split at ha
      · rename_i sz n hk hn
        cases ha
        obtain ⟨g1, g2, g3⟩ := aidx_ok hn
        refine ⟨_, ?_, .ptr hb⟩
        simp only [Instr.indexAt, asIntOf, Sem.run_bind, Sem.run_pure, Result.andThen_ok, run_underlying hu, Sem.run_ite, Instr.sureAddr]
        rw [if_pos g1]
        simp only [size_ok ok hk, Result.andThen_ok, g2, addr_add]
      · cases ha
    · cases ha
  · cases ha

def afield (T : Tbl) (t : TypeId) (x : Value) (f : Nat) : Option Value := match x with
  | .agg cs => match T.und t with
    | some (.struct fs) => match fs.toList[f]? with
      | some fd => apart T fd.type cs.toList fd.offset
      | none => none
    | _ => none
  | _ => none
theorem field_ok {P : Program} {T : Tbl} (ok : TblOk P T) {μ : Mp} {t : TypeId} {x x' v : Value} {f : Nat} (hx : V μ x x') (ha : afield T t x f = some v) (W : World) :
    ∃ v', (Instr.field t x' f).run P W = .ok v' W ∧ V μ v v' := by
  unfold afield at ha
  split at ha
  · rename_i cs
    cases hx
    rename_i cs' hl
    split at ha
    · rename_i fs hs
      have hu := und_ok ok hs
      split at ha
      · rename_i fd hf
        have h1 : fs[f]? = some fd := by rw [← Array.getElem?_toList]; exact hf
        obtain ⟨v', g1, g2⟩ := run_apart ok ha hl W
        refine ⟨v', ?_, g2⟩
        simp only [Instr.field, Sem.run_bind, run_underlying hu, Result.andThen_ok, h1, asAgg, Sem.run_pure]
        exact g1
      · cases ha
    · cases ha
  · cases ha

def bget (s : ByteArray) (n : Nat) : Option UInt8 := s.data.toList[n]?
def aindex (T : Tbl) (t : TypeId) (x ix : Value) : Option Value := match ix with
  | .int _ i => match T.und t, x with
    | some .string, .string s => match i with
      | .ofNat n => match bget s n with
        | some b => some (.int .u8 b.toNat)
        | none => none
      | .negSucc _ => none
    | some (.array len e), .agg cs => match T.size e, aidx i len with
      | some k, some n => apart T e cs.toList (n * k)
      | _, _ => none
    | _, _ => none
  | _ => none
theorem bget_some {s : ByteArray} {n : Nat} {b : UInt8} (h : bget s n = some b) : s[n]? = some b := by
  unfold bget at h
  have h1 : n < s.data.toList.length := (List.getElem?_eq_some_iff.1 h).1
  have hn : n < s.size := by simpa using h1
  rw [getElem?_pos s n hn]
  rw [List.getElem?_eq_getElem h1] at h
  cases h
  rfl
theorem index_ok {P : Program} {T : Tbl} (ok : TblOk P T) {μ : Mp} {t : TypeId} {x x' ix ix' v : Value} (hx : V μ x x') (hi : V μ ix ix') (ha : aindex T t x ix = some v) (W : World) :
    ∃ v', (Instr.index t x' ix').run P W = .ok v' W ∧ V μ v v' := by
  unfold aindex at ha
  split at ha
  · rename_i k i
    cases hi
    split at ha
    · rename_i s hs
      have hu := und_ok ok hs
      cases hx
      split at ha
      · rename_i n
        split at ha
        · rename_i b hb
          cases ha
          refine ⟨_, ?_, .int _ _⟩
          have h0 : (0 : Int) ≤ Int.ofNat n := by simp only [Int.ofNat_eq_natCast]; omega
          simp only [Instr.index, asIntOf, Sem.run_bind, Sem.run_pure, Result.andThen_ok, run_underlying hu, if_pos h0]
          simp only [Int.ofNat_eq_natCast, Int.toNat_natCast, bget_some hb, Sem.run_pure]
        · cases ha
      · cases ha
    · rename_i len e cs hs
      have hu := und_ok ok hs
      cases hx
      rename_i cs' hl
      split at ha
      · rename_i sz n hk hn
        obtain ⟨g1, g2, g3⟩ := aidx_ok hn
        obtain ⟨v', k1, k2⟩ := run_apart ok ha hl W
        refine ⟨v', ?_, k2⟩
        simp only [Instr.index, asIntOf, Sem.run_bind, Sem.run_pure, Result.andThen_ok, run_underlying hu, Sem.run_ite]
        rw [if_pos g1]
        simp only [size_ok ok hk, Result.andThen_ok, g2]
        exact k1
      · cases ha
    · cases ha
  · cases ha

/-! ### Slicing -/
def abnd (x : Option Value) (dflt y : Nat) : Option Nat := match x with
  | none => some dflt
  | some (.int _ (.ofNat n)) => match Nat.ble n y with
    | true => some n
    | false => none
  | _ => none
inductive VO (μ : Mp) : Option Value → Option Value → Prop
  | none : VO μ none none
  | some {v v' : Value} : V μ v v' → VO μ (some v) (some v')
theorem bound_ok {P : Program} {μ : Mp} {v v' : Value} {d y y' n : Nat} {code : BoundsCode} (hv : V μ v v') (h : abnd (some v) d y = some n) (hy : y ≤ y') (W : World) :
    (Instr.sliceBound v' y' code).run P W = .ok n W ∧ n ≤ y := by
  unfold abnd at h
  split at h
  · rename_i e; cases e
  · rename_i k m e
    cases e
    cases hv
    split at h
    · rename_i hb
      cases h
      have hb := Nat.le_of_ble_eq_true hb
      refine ⟨?_, hb⟩
      simp only [Instr.sliceBound, asIntOf, Sem.run_bind, Sem.run_pure, Result.andThen_ok, Sem.run_ite, Int.ofNat_eq_natCast, Int.toNat_natCast]
      rw [if_pos (by omega)]
    · cases h
  · cases h

def subB (s : ByteArray) (l h : Nat) : ByteArray := ⟨⟨(s.data.toList.drop l).take (h - l)⟩⟩
theorem extract_eq (s : ByteArray) (l h : Nat) : s.extract l h = subB s l h := by
  apply ByteArray.ext
  apply Array.ext'
  simp [subB]
def aslice (T : Tbl) (h0 : AH) (t : TypeId) (x : Value) (lo hi mx : Option Value) : Option Value := match mx with
  | some _ => none
  | none => match T.und t, x with
    | some .string, .string s => match abnd hi s.size s.size with
      | some h => match abnd lo 0 h with
        | some l => some (.string (subB s l h))
        | none => none
      | none => none
    | some (.slice e), .slice none 0 0 => match abnd hi 0 0 with
      | some h => match abnd lo 0 h with
        | some _ => match T.size e with
          | some _ => some (.slice none 0 0)
          | none => none
        | none => none
      | none => none
    | some (.slice e), .slice (some ⟨b, o, none⟩) len c => match abnd hi len c with
      | some h => match abnd lo 0 h with
        | some l => match T.size e with
          | some k => match Nat.beq l 0, Nat.beq l c with
            | true, _ => some (.slice (some ⟨b, o, none⟩) h c)
            | false, false => match h0.at b with
              | .cells _ _ e' _ => match Nat.beq e e' with
                | true => some (.slice (some ⟨b, o + l * k, none⟩) (h - l) (c - l))
                | false => none
              | _ => none
            | false, true => some (.slice (some ⟨0, 0, some 0⟩) 0 0)
          | none => none
        | none => none
      | none => none
    | some (.array n e), .pointer (some ⟨b, o, none⟩) => match abnd hi n n with
      | some h => match abnd lo 0 h with
        | some l => match T.size e with
          | some k => match Nat.beq l n with
            | true => some (.slice (some ⟨0, 0, some 0⟩) 0 0)
            | false => some (.slice (some ⟨b, o + l * k, none⟩) (h - l) (n - l))
          | none => none
        | none => none
      | none => none
    | _, _ => none

theorem bnds_ok {P : Program} {μ : Mp} {lo lo' hi hi' : Option Value} {len c c' l h : Nat} (sl : Bool) (hl : VO μ lo lo') (hh : VO μ hi hi') (h1 : abnd hi len c = some h) (h2 : abnd lo 0 h = some l) (hlc : len ≤ c) (hc : c ≤ c') (W : World) :
    (Instr.sliceBounds sl len c' lo' hi' none).run P W = .ok (l, h, c') W ∧ l ≤ h ∧ h ≤ c := by
  cases hh with
  | none =>
    simp only [abnd, Option.some.injEq] at h1
    subst h1
    cases hl with
    | none =>
      simp only [abnd, Option.some.injEq] at h2
      subst h2
      exact ⟨by simp [Instr.sliceBounds], by omega, hlc⟩
    | some hv =>
      obtain ⟨g1, g2⟩ := bound_ok (P := P) (code := .sliceB) hv h2 (Nat.le_refl _) W
      refine ⟨?_, g2, hlc⟩
      simp [Instr.sliceBounds, g1]
  | some hw =>
    have k2 := fun cd => (bound_ok (P := P) (code := cd) hw h1 hc W).1
    have k3 := (bound_ok (P := P) (code := .sliceB) hw h1 hc W).2
    cases hl with
    | none =>
      simp only [abnd, Option.some.injEq] at h2
      subst h2
      refine ⟨?_, by omega, k3⟩
      simp [Instr.sliceBounds, k2]
    | some hv =>
      obtain ⟨g1, g2⟩ := bound_ok (P := P) (code := .sliceB) hv h2 (Nat.le_refl _) W
      refine ⟨?_, g2, k3⟩
      simp [Instr.sliceBounds, g1, k2]
theorem slice_ok {P : Program} {T : Tbl} (ok : TblOk P T) {μ : Mp} {h0 : AH} {W : World} (s : Sim P μ h0 W) {t : TypeId} {x x' v : Value} {lo lo' hi hi' mx mx' : Option Value} (hx : V μ x x') (hl : VO μ lo lo') (hh : VO μ hi hi') (hm : VO μ mx mx') (ha : aslice T h0 t x lo hi mx = some v) :
    ∃ v', (Instr.sliceAt t x' lo' hi' mx').run P W = .ok v' W ∧ V μ v v' := by
  unfold aslice at ha
  split at ha
  · cases ha
  · cases hm
    split at ha
    · rename_i s hs
      have hu := und_ok ok hs
      cases hx
      split at ha
      · rename_i h h1
        split at ha
        · rename_i l h2
          cases ha
          obtain ⟨g1, g2, g3⟩ := bnds_ok (P := P) false hl hh h1 h2 (Nat.le_refl _) (Nat.le_refl _) W
          refine ⟨_, ?_, .string _⟩
          simp only [Instr.sliceAt, Sem.run_bind, run_underlying hu, Result.andThen_ok, Instr.slice, Option.isSome_none, Bool.false_eq_true, if_false, Sem.run_pure, g1, extract_eq]
        · cases ha
      · cases ha
    · rename_i e hs
      have hu := und_ok ok hs
      cases hx
      split at ha
      · rename_i h h1
        split at ha
        · rename_i l h2
          split at ha
          · rename_i k hk
            cases ha
            obtain ⟨g1, g2, g3⟩ := bnds_ok (P := P) true hl hh h1 h2 (Nat.le_refl _) (Nat.le_refl _) W
            have hh0 : h = 0 := by omega
            have hl0 : l = 0 := by omega
            subst hh0 hl0
            refine ⟨_, ?_, .nils⟩
            simp only [Instr.sliceAt, Sem.run_bind, run_underlying hu, Result.andThen_ok, Instr.slice, g1, size_ok ok hk, Sem.run_pure, if_true, Nat.sub_zero]
          · cases ha
        · cases ha
      · cases ha
    · rename_i e b o len c hs
      have hu := und_ok ok hs
      cases hx with | @slice _ b' _ _ _ c' sz0 k0 hb k1 k2 k3 =>
      split at ha
      · rename_i h h1
        split at ha
        · rename_i l h2
          obtain ⟨g1, g2, g3⟩ := bnds_ok (P := P) true hl hh h1 h2 k1 k2 W
          split at ha
          · rename_i k hk
            split at ha
            · rename_i hz
              cases ha
              have hz := Nat.eq_of_beq_eq_true hz
              subst hz
              refine ⟨_, ?_, .slice hb g3 k2 k3⟩
              simp only [Instr.sliceAt, Sem.run_bind, run_underlying hu, Result.andThen_ok, Instr.slice, g1, size_ok ok hk, Sem.run_pure, Option.map_some, Nat.zero_mul, addr_add, Nat.add_zero, Nat.sub_zero, ite_self]
            · rename_i hz hc
              split at ha
              · rename_i c0 n0 e' fz0 ho
                split at ha
                · rename_i hee
                  cases ha
                  have hee := Nat.eq_of_beq_eq_true hee
                  subst hee
                  have hc : l ≠ c := fun e => by rw [e, Nat.beq_refl] at hc; cases hc
                  obtain ⟨C, fr, f1, f2, f3, f4, f5⟩ := s.cells hb ho
                  have hk0 : k0 = k := by rw [← (cellsOf_ok ok hk).1]; exact congrArg Prod.snd f5
                  subst hk0
                  refine ⟨_, ?_, .slice (c' := c' - l) hb (by omega) (by omega) ?_⟩
                  · simp only [Instr.sliceAt, Sem.run_bind, run_underlying hu, Result.andThen_ok, Instr.slice, g1, size_ok ok hk, Sem.run_pure, Option.map_some, addr_add]
                    rw [if_neg (by omega)]
                  · rcases k3 with k3 | k3
                    · exact .inl (by omega)
                    · refine .inr ?_
                      have : l * k0 + (c' - l) * k0 = c' * k0 := by rw [← Nat.add_mul]; congr 1; omega
                      omega
                · cases ha
              · cases ha
            · rename_i hz hc
              cases ha
              have hc := Nat.eq_of_beq_eq_true hc
              subst hc
              have hlh : h = l := by omega
              subst hlh
              refine ⟨_, ?_, .zs (b' := b') (o' := if c' = h then o else o + h * k) (c' := c' - h) (sp := none)⟩
              simp only [Instr.sliceAt, Sem.run_bind, run_underlying hu, Result.andThen_ok, Instr.slice, g1, size_ok ok hk, Sem.run_pure, Option.map_some, addr_add, Nat.sub_self]
              split <;> rfl
          · cases ha
        · cases ha
      · cases ha
    · rename_i n e b o hs
      have hu := und_ok ok hs
      cases hx
      rename_i b' z hb
      split at ha
      · rename_i h h1
        split at ha
        · rename_i l h2
          obtain ⟨g1, g2, g3⟩ := bnds_ok (P := P) false hl hh h1 h2 (Nat.le_refl _) (Nat.le_refl _) W
          split at ha
          · rename_i k hk
            split at ha
            · rename_i hz
              cases ha
              have hz := Nat.eq_of_beq_eq_true hz
              subst hz
              have hlh : h = l := by omega
              subst hlh
              refine ⟨_, ?_, .zs (b' := b') (o' := o) (c' := 0) (sp := none)⟩
              simp only [Instr.sliceAt, Sem.run_bind, run_underlying hu, Result.andThen_ok, Instr.sureAddr, g1, size_ok ok hk, Sem.run_pure, addr_add, Nat.sub_self, if_true]
            · rename_i hz
              cases ha
              have hc : l ≠ n := fun e => by rw [e, Nat.beq_refl] at hz; cases hz
              refine ⟨_, ?_, .slice hb (by omega) (Nat.le_refl _) (.inl rfl)⟩
              simp only [Instr.sliceAt, Sem.run_bind, run_underlying hu, Result.andThen_ok, Instr.sureAddr, g1, size_ok ok hk, Sem.run_pure, addr_add]
              rw [if_neg (by omega)]
          · cases ha
        · cases ha
      · cases ha
    · cases ha

end
end Go.Ab
