import Derived.Test.YtmdcmnjeonnfiaaGreatDoorAbB
import Derived.Laws.StructEq
set_option linter.unusedSimpArgs false
set_option linter.unusedVariables false
/-! Parts, equality, addresses, bounds. -/
namespace Go.Ab
noncomputable section

def Tbl.size (T : Tbl) (t : TypeId) : Option Nat := match T.lay.get t with
  | some (_, n) => some n
  | none => none
theorem size_ok {P : Program} {T : Tbl} (ok : TblOk P T) {t : TypeId} {n : Nat} (h : T.size t = some n) (w : World) : (sizeOf t).run P w = .ok n w := by
  unfold Tbl.size at h
  split at h
  · rename_i a m hi
    cases h
    obtain ⟨d, i, h1, h2, h3, h4⟩ := ok.lay _ _ _ hi
    rw [run_sizeOf' h3 w, h4]
  · cases h
def Tbl.zero (T : Tbl) (t : TypeId) : Option Value := match T.ty.get t with
  | some i => match i.zero with
    | some z => if plain z then some z else none
    | none => none
  | none => none
theorem zero_ok {P : Program} {T : Tbl} (ok : TblOk P T) {t : TypeId} {z : Value} (h : T.zero t = some z) (w : World) : (zeroValue t).run P w = .ok z w ∧ plain z = true := by
  unfold Tbl.zero at h
  split at h
  · rename_i i hi
    split at h
    · rename_i z' hz
      split at h
      · rename_i hp
        cases h
        exact ⟨run_zeroValue' (ok.ty _ _ hi) hz w, hp⟩
      · cases h
    · cases h
  · cases h

def apart (T : Tbl) (t : TypeId) (cs : List Value) (off : Nat) : Option Value := match T.lay.get t with
  | some (true, n) => some (.agg ⟨(cs.drop off).take n⟩)
  | some (false, _) => cs[off]?
  | none => none
theorem extract_toArray (cs : Array Value) (a n : Nat) : cs.extract a (a + n) = ⟨(cs.toList.drop a).take n⟩ := by
  apply Array.ext'
  rw [Array.toList_extract]
  simp
theorem run_apart {P : Program} {T : Tbl} (ok : TblOk P T) {μ : Mp} {t : TypeId} {cs : List Value} {cs' : Array Value} {off : Nat} {v : Value} (h : apart T t cs off = some v) (hv : VL μ cs cs'.toList) (w : World) :
    ∃ v', (part t cs' off).run P w = .ok v' w ∧ V μ v v' := by
  unfold apart at h
  unfold part
  split at h
  · rename_i n hl
    cases h
    obtain ⟨d, i, h1, h2, h3, h4⟩ := ok.lay _ _ _ hl
    simp only [Sem.run_bind, run_isAgg h1, Result.andThen_ok, h2, if_true, run_sizeOf' h3, h4, Sem.run_pure]
    refine ⟨_, rfl, .agg ?_⟩
    rw [extract_toArray]
    exact (hv.drop off).take n
  · rename_i n hl
    obtain ⟨d, i, h1, h2, h3, h4⟩ := ok.lay _ _ _ hl
    obtain ⟨v', h5, h6⟩ := hv.get off v h
    have h7 : cs'[off]? = some v' := by rw [← Array.getElem?_toList]; exact h5
    simp only [Sem.run_bind, run_isAgg h1, Result.andThen_ok, h2, Bool.false_eq_true, if_false, h7, Sem.run_pure]
    exact ⟨v', rfl, h6⟩
  · cases h

/-! ### Equality -/
def aeqF (eq : TypeId → Value → Value → Option Bool) (T : Tbl) (xs ys : List Value) : List Field → Option Bool
  | [] => some true
  | f :: fs => match f.name == "_" with
    | true => aeqF eq T xs ys fs
    | false => match apart T f.type xs f.offset, apart T f.type ys f.offset with
      | some a, some b => match eq f.type a b with
        | some true => aeqF eq T xs ys fs
        | r => r
      | _, _ => none
def aeqA (eq : TypeId → Value → Value → Option Bool) (T : Tbl) (xs ys : List Value) (e : TypeId) (n : Nat) : Nat → Nat → Option Bool
  | 0, _ => some true
  | m + 1, i => match apart T e xs (i * n), apart T e ys (i * n) with
    | some a, some b => match eq e a b with
      | some true => aeqA eq T xs ys e n m (i + 1)
      | r => r
    | _, _ => none
def aeqD (eq : TypeId → Value → Value → Option Bool) (T : Tbl) (t : TypeId) (d : TypeDesc) (x y : Value) : Option Bool := match d, x, y with
  | .bool, .bool a, .bool b => some (a == b)
  | .int _, .int k a, .int k' b => if k = k' then some (a == b) else none
  | .string, .string a, .string b => some (a.data.toList == b.data.toList)
  | .pointer _, .pointer none, .pointer b => some b.isNone
  | .pointer _, .pointer (some _), .pointer none => some false
  | .pointer e, .pointer (some ⟨b, o, none⟩), .pointer (some ⟨b2, o2, none⟩) => match Nat.beq b b2, T.size e with
    | true, some (_ + 1) => some (Nat.beq o o2)
    | _, _ => none
  | .struct fs, .agg xs, .agg ys => match T.eqok.get t with
    | some _ => aeqF eq T xs.toList ys.toList fs.toList
    | none => none
  | .array n e, .agg xs, .agg ys => match T.size e with
    | some k => aeqA eq T xs.toList ys.toList e k n 0
    | none => none
  | .slice _, .slice none _ _, .slice b _ _ => some b.isNone
  | .slice _, .slice (some _) _ _, .slice none _ _ => some false
  | .map _ _, .map none, .map b => some b.isNone
  | .map _ _, .map (some _), .map none => some false
  | .func _ _ _, .nilFunc, .nilFunc => some true
  | .func _ _ _, .nilFunc, .func _ _ _ => some false
  | .func _ _ _, .func _ _ _, .nilFunc => some false
  | .interface _, .nilIface, .iface _ _ => some false
  | .interface _, .iface _ _, .nilIface => some false
  | .interface _, .iface tx vx, .iface ty vy => if tx = ty then (match T.ty.get tx with
      | some i => match i.comparable with
        | true => eq tx vx vy
        | false => none
      | none => none) else some false
  | _, _, _ => none
def aeq (T : Tbl) : Nat → TypeId → Value → Value → Option Bool
  | 0, _, _, _ => none
  | d + 1, t, x, y => match T.und t with
    | some D => aeqD (aeq T d) T t D x y
    | none => none

/-- What eq says of related values is so in the model, at a depth. -/
def EqOk (P : Program) (μ : Mp) (d : Nat) (eq : TypeId → Value → Value → Option Bool) : Prop :=
  ∀ t x y b x' y', eq t x y = some b → V μ x x' → V μ y y' → ∀ w, (Op.equalIn d t x' y').run P w = .ok b w

theorem aeqF_ok {P : Program} {T : Tbl} (ok : TblOk P T) {μ : Mp} {d : Nat} {eq : TypeId → Value → Value → Option Bool} (he : EqOk P μ d eq) {xs ys : List Value} {xs' ys' : Array Value}
    (hx : VL μ xs xs'.toList) (hy : VL μ ys ys'.toList) : ∀ (fs : List Field) (b : Bool), aeqF eq T xs ys fs = some b → ∀ w, (Op.eqFields d xs' ys' fs).run P w = .ok b w
  | [], b, h, w => by simp only [aeqF, Option.some.injEq] at h; subst h; rfl
  | f :: fs, b, h, w => by
    rw [aeqF] at h
    split at h
    · rename_i hn
      have hn' : ¬ (f.name ≠ "_") := by simpa using hn
      rw [Op.eqFields, if_neg hn']
      exact aeqF_ok ok he hx hy fs b h w
    · rename_i hn
      have hn' : f.name ≠ "_" := by simpa using hn
      rw [Op.eqFields, if_pos hn']
      split at h
      · rename_i a c ha hc
        obtain ⟨a', h1, v1⟩ := run_apart ok ha hx w
        obtain ⟨c', h2, v2⟩ := run_apart ok hc hy w
        simp only [Sem.run_bind, h1, h2, Result.andThen_ok]
        split at h
        · rename_i hq
          rw [he _ _ _ _ _ _ hq v1 v2]
          simp only [Result.andThen_ok, Bool.not_true, Bool.false_eq_true, if_false]
          exact aeqF_ok ok he hx hy fs b h w
        · rename_i r hr
          cases b with
          | true => exact absurd h hr
          | false =>
            rw [he _ _ _ _ _ _ h v1 v2]
            simp
      · cases h

theorem aeqA_ok {P : Program} {T : Tbl} (ok : TblOk P T) {μ : Mp} {d : Nat} {eq : TypeId → Value → Value → Option Bool} (he : EqOk P μ d eq) {xs ys : List Value} {xs' ys' : Array Value} {e : TypeId} {n : Nat}
    (hx : VL μ xs xs'.toList) (hy : VL μ ys ys'.toList) : ∀ (m i : Nat) (b : Bool), aeqA eq T xs ys e n m i = some b → ∀ w, (Op.eqItems d e n xs' ys' (List.range' i m)).run P w = .ok b w
  | 0, i, b, h, w => by simp only [aeqA, Option.some.injEq] at h; subst h; rfl
  | m + 1, i, b, h, w => by
    rw [aeqA] at h
    rw [List.range'_succ]
    simp only [Op.eqItems]
    split at h
    · rename_i a c ha hc
      obtain ⟨a', h1, v1⟩ := run_apart ok ha hx w
      obtain ⟨c', h2, v2⟩ := run_apart ok hc hy w
      simp only [Sem.run_bind, h1, h2, Result.andThen_ok]
      split at h
      · rename_i hq
        rw [he _ _ _ _ _ _ hq v1 v2]
        simp only [Result.andThen_ok, Bool.not_true, Bool.false_eq_true, if_false]
        exact aeqA_ok ok he hx hy m (i + 1) b h w
      · rename_i r hr
        cases b with
        | true => exact absurd h hr
        | false =>
          rw [he _ _ _ _ _ _ h v1 v2]
          simp
    · cases h

theorem cellsOf_ok {P : Program} {T : Tbl} (ok : TblOk P T) {t : TypeId} {n : Nat} (h : T.size t = some n) : P.cellsOf t = n ∧ ∃ i, P.info? t = some i := by
  unfold Tbl.size at h
  split at h
  · rename_i a m hi
    cases h
    obtain ⟨d, i, h1, h2, h3, h4⟩ := ok.lay _ _ _ hi
    exact ⟨by simp [Program.cellsOf, h3, h4], i, h3⟩
  · cases h

set_option maxHeartbeats 2000000 in
theorem aeqD_ok {P : Program} {T : Tbl} (ok : TblOk P T) {μ : Mp} {d : Nat} {eq : TypeId → Value → Value → Option Bool} (ih : EqOk P μ d eq) {t : TypeId} {D : TypeDesc} (hu : P.underlying t = some D) {x y x' y' : Value} {b : Bool}
    (h : aeqD eq T t D x y = some b) (vx : V μ x x') (vy : V μ y y') (w : World) : (Op.equalIn (d + 1) t x' y').run P w = .ok b w := by
  unfold aeqD at h
  split at h
  · cases h; cases vx; cases vy
    simp [Op.equalIn, run_underlying hu]
  · split at h
    · rename_i hk
      cases h; cases vx; cases vy
      simp [Op.equalIn, run_underlying hu, hk]
    · cases h
  · cases h; cases vx; cases vy
    simp only [Op.equalIn, Sem.run_bind, run_underlying hu, Result.andThen_ok, Sem.run_pure, beq_toListBytes, ba_toList]
  · cases h; cases vx; cases vy <;> simp [Op.equalIn, run_underlying hu]
  · cases h; cases vx; cases vy; simp [Op.equalIn, run_underlying hu]
  · rename_i e b1 o1 b2 o2
    split at h
    · rename_i k hb hk
      cases h
      have hb := Nat.eq_of_beq_eq_true hb
      subst hb
      cases vx with | @ptr _ b' _ z hm1 =>
      cases vy with | @ptr _ b'' _ z' hm2 =>
      rw [hm1] at hm2
      cases hm2
      have hq : ((⟨b', o1, none⟩ : Addr) == ⟨b', o2, none⟩) = Nat.beq o1 o2 := by
        rw [Bool.eq_iff_iff]
        simp [Nat.beq_eq]
      simp only [Op.equalIn, Sem.run_bind, run_underlying hu, Result.andThen_ok, size_ok ok hk, ne_eq, Nat.succ_ne_zero, not_false_eq_true, if_true, sameAddr, beq_self_eq_true, Sem.run_pure, Sem.run_ite]
      rw [hq]
    · cases h
  · rename_i fs xs ys
    split at h
    · rename_i u hq
      have h2 := (ok.eq t (by rw [hq])).2
      cases vx; cases vy
      rename_i a1 hx a2 hy
      have hf : P.fieldsOf t = fs := by simp [Program.fieldsOf, hu]
      rw [run_equalIn_struct w d t _ _ (by rw [hf]; exact hu) h2, hf]
      exact aeqF_ok ok ih hx hy _ _ h w
    · cases h
  · split at h
    · rename_i k hk
      obtain ⟨hc, i, hi⟩ := cellsOf_ok ok hk
      cases vx; cases vy
      rename_i a1 hx a2 hy
      rw [run_equalIn_array w d _ _ hu hi, hc, List.range_eq_range']
      exact aeqA_ok ok ih hx hy _ _ _ h w
    · cases h
  · cases h; cases vx; cases vy <;> simp [Op.equalIn, run_underlying hu]
  · cases h; cases vx <;> cases vy <;> simp [Op.equalIn, run_underlying hu]
  · cases h; cases vx; cases vy <;> simp [Op.equalIn, run_underlying hu]
  · cases h; cases vx; cases vy; simp [Op.equalIn, run_underlying hu]
  · cases h; cases vx; cases vy; simp [Op.equalIn, run_underlying hu]
  · cases h; cases vx; cases vy; simp [Op.equalIn, run_underlying hu]
  · cases h; cases vx; cases vy; simp [Op.equalIn, run_underlying hu]
  · cases h; cases vx; cases vy; simp [Op.equalIn, run_underlying hu]
  · cases h; cases vx; cases vy; simp [Op.equalIn, run_underlying hu]
  · rename_i ms tx xv ty yv
    cases vx; cases vy
    rename_i v1 h1 v2 h2
    split at h
    · rename_i htt
      subst htt
      split at h
      · rename_i i hi
        split at h
        · rename_i hc
          have := ok.ty _ _ hi
          simp only [Op.equalIn, Sem.run_bind, run_underlying hu, Result.andThen_ok, run_typeInfo w this, hc, ne_eq, not_true_eq_false, if_false, Bool.not_true, Bool.false_eq_true]
          exact ih _ _ _ _ _ _ h h1 h2 w
        · cases h
      · cases h
    · rename_i htt
      cases h
      simp [Op.equalIn, run_underlying hu, htt]
  · cases h

theorem aeq_ok {P : Program} {T : Tbl} (ok : TblOk P T) {μ : Mp} : ∀ (d : Nat), EqOk P μ d (aeq T d)
  | 0 => fun t x y b x' y' h _ _ w => by simp [aeq] at h
  | d + 1 => fun t x y b x' y' h vx vy w => by
    rw [aeq] at h
    split at h
    · rename_i D hD
      exact aeqD_ok ok (aeq_ok ok d) (und_ok ok hD) h vx vy w
    · cases h

end
end Go.Ab
