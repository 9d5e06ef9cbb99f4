import Derived.Test.YtmdcmnjeonnfiaaGreatDoorAbE
import Derived.Laws.Tables
import Derived.Great.BuildSlice
set_option linter.unusedSimpArgs false
set_option linter.unusedVariables false
/-! Building aggregates and slices. -/
namespace Go.Ab
noncomputable section

inductive VP (μ : Mp) : List (Nat × Value) → List (Nat × Value) → Prop
  | nil : VP μ [] []
  | cons {i : Nat} {v v' : Value} {l l' : List (Nat × Value)} : V μ v v' → VP μ l l' → VP μ ((i, v) :: l) ((i, v') :: l')

theorem zip_foldl (off : Nat) : ∀ (vs : List Value) (k : Nat) (C : Array Value), (vs.zipIdx k).foldl (fun cs (p : Value × Nat) => cs.setIfInBounds (off + p.2) p.1) C = setA C (off + k) vs
  | [], _, _ => rfl
  | v :: r, k, C => by
    simp only [List.zipIdx_cons, List.foldl_cons, setA]
    rw [zip_foldl off r (k + 1)]; rfl
theorem zip_foldl_arr (off : Nat) (vs C : Array Value) : vs.zipIdx.foldl (fun cs (p : Value × Nat) => cs.setIfInBounds (off + p.2) p.1) C = setA C off vs.toList := by
  rw [← Array.foldl_toList, Array.toList_zipIdx, zip_foldl]; rfl
def putAt (l : List Value) (o : Nat) (vs : List Value) : List Value := l.take o ++ (vs ++ l.drop (o + vs.length))
theorem setA_toList {C : Array Value} {o : Nat} {vs : List Value} (h : o + vs.length ≤ C.size) : (setA C o vs).toList = putAt C.toList o vs := by
  apply List.ext_getElem?
  intro i
  rw [Array.getElem?_toList, setA_get _ _ _ _ h, putAt]
  have hl : (C.toList.take o).length = o := by simp; omega
  by_cases h1 : i < o
  · rw [if_neg (by omega), List.getElem?_append_left (by omega), List.getElem?_take, if_pos h1, Array.getElem?_toList]
  · rw [List.getElem?_append_right (by omega), hl]
    by_cases h2 : i < o + vs.length
    · rw [if_pos (by omega), List.getElem?_append_left (by omega)]
    · rw [if_neg (by omega), List.getElem?_append_right (by omega), List.getElem?_drop, Array.getElem?_toList]
      congr 1; omega
theorem VL.putAt {μ : Mp} {l l' vs vs' : List Value} (hl : VL μ l l') (hv : VL μ vs vs') (o : Nat) : VL μ (putAt l o vs) (putAt l' o vs') := by
  unfold Ab.putAt
  rw [← hv.length]
  exact (hl.take o).append (hv.append (hl.drop _))

def afill (place : Nat → Option (Nat × Nat)) : List Value → List (Nat × Value) → Option (List Value)
  | cs, [] => some cs
  | cs, (i, v) :: r => match place i with
    | none => none
    | some (off, size) => match Nat.beq (cellsL v).length size, Nat.ble (off + (cellsL v).length) cs.length, noTuple v with
      | true, true, true => afill place (putAt cs off (cellsL v)) r
      | _, _, _ => none
theorem afill_ok {μ : Mp} {place place' : Nat → Option (Nat × Nat)} (hp : ∀ i x, place i = some x → place' i = some x) : ∀ {parts parts' : List (Nat × Value)} (_ : VP μ parts parts') {cs : List Value} {cs' : Array Value} {r : List Value} (_ : VL μ cs cs'.toList) (_ : afill place cs parts = some r),
    ∃ r', Instr.fill place' cs' parts' = some r' ∧ VL μ r r'.toList
  | _, _, .nil, cs, cs', r, hc, h => by
    simp only [afill, Option.some.injEq] at h
    subst h
    exact ⟨cs', rfl, hc⟩
  | _, _, .cons (i := i) (v := v) (v' := v') hv hr, cs, cs', r, hc, h => by
    rw [afill] at h
    split at h
    · cases h
    · rename_i off size hpl
      split at h
      · rename_i h1 h2 h3
        have h1 := Nat.eq_of_beq_eq_true h1
        have h2 := Nat.le_of_ble_eq_true h2
        have hvl := hv.cellsL h3
        have hsz : v'.cells.size = size := by rw [cells_size, ← hvl.length, h1]
        have hcs := hc.length
        simp only [Array.length_toList] at hcs
        have hlen := hvl.length
        have hb : ¬ (off + v'.cells.size > cs'.size) := by rw [cells_size, ← hlen]; omega
        have hval : off + v'.cells.toList.length ≤ cs'.size := by rw [← hlen]; omega
        obtain ⟨r', g1, g2⟩ := afill_ok hp hr (cs' := setA cs' off v'.cells.toList) (by rw [setA_toList hval]; exact hc.putAt hvl off) h
        refine ⟨r', ?_, g2⟩
        rw [Instr.fill, hp _ _ hpl]
        simp only [hsz, ne_eq, not_true_eq_false, decide_false, Bool.false_or]
        rw [if_neg (by simpa [hsz] using hb), zip_foldl_arr]
        exact g1
      · cases h

def aplaces (T : Tbl) : List Field → Option (List (Nat × Nat))
  | [] => some []
  | f :: fs => match T.size f.type with
    | some n => match aplaces T fs with
      | some r => some ((f.offset, n) :: r)
      | none => none
    | none => none
theorem info_of_size {P : Program} {T : Tbl} (ok : TblOk P T) {t : TypeId} {n : Nat} (h : T.size t = some n) : ∃ i, P.info? t = some i ∧ i.size = n := by
  unfold Tbl.size at h
  split at h
  · rename_i a m hi
    cases h
    obtain ⟨d, i, h1, h2, h3, h4⟩ := ok.lay _ _ _ hi
    exact ⟨i, h3, h4⟩
  · cases h
theorem aplaces_ok {P : Program} {T : Tbl} (ok : TblOk P T) : ∀ (fs : List Field) (r : List (Nat × Nat)), aplaces T fs = some r → fs.mapM (fun f => (P.info? f.type).map fun i => (f.offset, i.size)) = some r
  | [], r, h => by simp only [aplaces, Option.some.injEq] at h; subst h; rfl
  | f :: fs, r, h => by
    rw [aplaces] at h
    split at h
    · rename_i n hn
      split at h
      · rename_i r' hr
        cases h
        obtain ⟨i, h1, h2⟩ := info_of_size ok hn
        simp [h1, h2, aplaces_ok ok fs r' hr]
      · cases h
    · cases h
theorem zero_of {P : Program} {T : Tbl} (ok : TblOk P T) {t : TypeId} {z : Value} (h : T.zero t = some z) : ∃ i, P.info? t = some i ∧ i.zero = some z ∧ plain z = true := by
  unfold Tbl.zero at h
  split at h
  · rename_i i hi
    split at h
    · rename_i z' hz
      split at h
      · rename_i hp
        cases h
        exact ⟨i, ok.ty _ _ hi, hz, hp⟩
      · cases h
    · cases h
  · cases h
theorem plain_noTuple {z : Value} (h : plain z = true) : noTuple z = true := by
  cases z <;> first | rfl | (simp [plain, plain1] at h)

def abuild (T : Tbl) (t : TypeId) (parts : List (Nat × Value)) : Option Value := match T.zero t with
  | some z => match T.und t with
    | some (.struct fs) => match aplaces T fs.toList with
      | some pl => match afill (fun i => pl[i]?) (cellsL z) parts with
        | some cs => some (.agg ⟨cs⟩)
        | none => none
      | none => none
    | some (.array _ e) => match T.size e with
      | some k => match afill (fun i => some (i * k, k)) (cellsL z) parts with
        | some cs => some (.agg ⟨cs⟩)
        | none => none
      | none => none
    | _ => none
  | none => none
theorem build_ok {P : Program} {T : Tbl} (ok : TblOk P T) {μ : Mp} {t : TypeId} {parts : List (Nat × Value)} {parts' : Array (Nat × Value)} {v : Value} (hp : VP μ parts parts'.toList) (ha : abuild T t parts = some v) (W : World) :
    ∃ v', (Instr.build t parts').run P W = .ok v' W ∧ V μ v v' := by
  unfold abuild at ha
  split at ha
  · rename_i z hz
    obtain ⟨iz, z1, z2, z3⟩ := zero_of ok hz
    have hzv := (V.of_plain (μ := μ) z3).cellsL (plain_noTuple z3)
    split at ha
    · rename_i fs hs
      have hu := und_ok ok hs
      split at ha
      · rename_i pl hpl
        split at ha
        · rename_i cs hcs
          cases ha
          have hm := aplaces_ok ok _ _ hpl
          obtain ⟨r', g1, g2⟩ := afill_ok (place' := (pl.toArray[·]?)) (fun i x hx => by simpa using hx) hp hzv hcs
          have hb : P.built t parts'.toList = some r' := by simp only [Program.built, z1, hu, z2, hm]; exact g1
          exact ⟨_, run_build W t parts' r' hb, .agg g2⟩
        · cases ha
      · cases ha
    · rename_i n e hs
      have hu := und_ok ok hs
      split at ha
      · rename_i k hk
        obtain ⟨ie, e1, e2⟩ := info_of_size ok hk
        split at ha
        · rename_i cs hcs
          cases ha
          obtain ⟨r', g1, g2⟩ := afill_ok (place' := fun i => some (i * k, k)) (fun i x hx => hx) hp hzv hcs
          have hb : P.built t parts'.toList = some r' := by simp only [Program.built, z1, hu, z2, e1, e2]; exact g1
          exact ⟨_, run_build W t parts' r' hb, .agg g2⟩
        · cases ha
      · cases ha
    · cases ha
  · cases ha

end
end Go.Ab
