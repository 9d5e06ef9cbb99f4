import Derived.Test.YtmdcmnjeonnfiaaGreatDoorAbA
import Derived.Laws.Entries
import Derived.ChangeKeysEq
import Derived.IntWalk
import Derived.Lib.Strings
set_option linter.unusedSimpArgs false
set_option linter.unusedVariables false
/-! Pure operations of the abstract machine: tables, integers, strings, comparisons, parts. -/
namespace Go.Ab
noncomputable section

structure Tbl where
  ty : PT TypeInfo
  fn : PT Func
  eqok : PT Unit
  lay : PT (Bool × Nat)

def isAggD : TypeDesc → Bool
  | .struct _ | .array _ _ => true
  | _ => false

structure TblOk (P : Program) (T : Tbl) : Prop where
  ty : ∀ t i, T.ty.get t = some i → P.info? t = some i
  fn : ∀ f fn, T.fn.get f = some fn → P.funcs[f]? = some fn ∧ fn.name ≠ "runtime.NumGoroutine"
  eq : ∀ t, T.eqok.get t = some () → P.eqGuardType P.depth t = false ∧ P.stoodInHeld t = false
  lay : ∀ t a n, T.lay.get t = some (a, n) → ∃ d i, P.underlying t = some d ∧ isAggD d = a ∧ P.info? t = some i ∧ i.size = n

def Tbl.und (T : Tbl) (t : TypeId) : Option TypeDesc := match T.ty.get t with
  | some i => match i.desc with
    | .named _ u => match T.ty.get u with
      | some j => some j.desc
      | none => none
    | d => some d
  | none => none
theorem und_ok {P : Program} {T : Tbl} (ok : TblOk P T) {t : TypeId} {d : TypeDesc} (h : T.und t = some d) : P.underlying t = some d := by
  unfold Tbl.und at h
  split at h
  · rename_i i hi
    have h1 := ok.ty _ _ hi
    unfold Program.underlying
    rw [h1]
    split at h
    · rename_i n u hd
      split at h
      · rename_i j hj
        have h2 := ok.ty _ _ hj
        cases i; simp only at hd; subst hd
        simp only [h2, Option.map_some, h]
      · cases h
    · rename_i d' hd
      cases i
      rename_i desc _ _ _ _ _ _ _ _ _
      cases h
      cases desc <;> first | rfl | (exact absurd rfl (hd _ _))
  · cases h

theorem run_isAgg {P : Program} {t : TypeId} {d : TypeDesc} (h : P.underlying t = some d) (w : World) : (isAgg t).run P w = .ok (isAggD d) w := by
  unfold isAgg
  simp only [Sem.run_bind, run_underlying h, Result.andThen_ok]
  cases d <;> rfl
theorem run_sizeOf' {P : Program} {t : TypeId} {i : TypeInfo} (h : P.info? t = some i) (w : World) : (sizeOf t).run P w = .ok i.size w := by
  unfold sizeOf
  simp only [Sem.run_bind, run_typeInfo w h, Result.andThen_ok, Sem.run_pure]
theorem run_zeroValue' {P : Program} {t : TypeId} {i : TypeInfo} {z : Value} (h : P.info? t = some i) (hz : i.zero = some z) (w : World) : (zeroValue t).run P w = .ok z w := by
  unfold zeroValue
  simp only [Sem.run_bind, run_typeInfo w h, Result.andThen_ok, hz, Sem.run_pure]

/-! ### Plain values stand for themselves -/
def plain1 : Value → Bool
  | .bool _ | .int _ _ | .string _ | .pointer none | .slice none 0 0 | .map none | .nilFunc | .nilIface => true
  | _ => false
def plain : Value → Bool
  | .agg cs => cs.toList.all plain1
  | v => plain1 v
theorem V.of_plain1 {μ : Mp} {v : Value} (h : plain1 v = true) : V μ v v := by
  unfold plain1 at h
  split at h
  · exact .bool _
  · exact .int _ _
  · exact .string _
  · exact .nilp
  · exact .nils
  · exact .nilm
  · exact .nilf
  · exact .nili
  · cases h
theorem VL.of_plain1 {μ : Mp} : ∀ {l : List Value}, l.all plain1 = true → VL μ l l
  | [], _ => .nil
  | v :: l, h => by
    simp only [List.all_cons, Bool.and_eq_true] at h
    exact .cons (V.of_plain1 h.1) (VL.of_plain1 h.2)
theorem V.of_plain {μ : Mp} {v : Value} (h : plain v = true) : V μ v v := by
  unfold plain at h
  split at h
  · exact .agg (VL.of_plain1 h)
  · exact V.of_plain1 h

/-! ### Integers -/
def fitU (c m : Nat) : Bool := Nat.ble m c
theorem fitU_le {c m : Nat} (h : fitU c m = true) : m ≤ c := Nat.le_of_ble_eq_true h
def fwrap (k : IntKind) (n : Int) : Int := match k, n with
  | .i64, .ofNat m => bif fitU 9223372036854775807 m then .ofNat m else k.wrap (.ofNat m)
  | .i64, .negSucc m => bif fitU 9223372036854775807 m then .negSucc m else k.wrap (.negSucc m)
  | .u8, .ofNat m => bif fitU 255 m then .ofNat m else k.wrap (.ofNat m)
  | .u64, .ofNat m => bif fitU 18446744073709551615 m then .ofNat m else k.wrap (.ofNat m)
  | .u32, .ofNat m => bif fitU 4294967295 m then .ofNat m else k.wrap (.ofNat m)
  | k, n => k.wrap n
theorem bif_eq {α : Type} {b : Bool} {x y : α} (h : b = true → x = y) : (bif b then x else y) = y := by
  cases b
  · exact rfl
  · exact h rfl
theorem fwrap_eq (k : IntKind) (n : Int) : fwrap k n = k.wrap n := by
  unfold fwrap
  split
  · refine bif_eq fun h => ?_
    have h := fitU_le h
    exact (IntWalk.i64_in _ ⟨by simp only [Int.ofNat_eq_natCast]; omega, by simp only [Int.ofNat_eq_natCast]; omega⟩).symm
  · refine bif_eq fun h => ?_
    have h := fitU_le h
    exact (IntWalk.i64_in _ ⟨by simp only [Int.negSucc_eq]; omega, by simp only [Int.negSucc_eq]; omega⟩).symm
  · refine bif_eq fun h => ?_
    have h := fitU_le h
    exact (IntWalk.u8_in _ ⟨by simp only [Int.ofNat_eq_natCast]; omega, by simp only [Int.ofNat_eq_natCast]; omega⟩).symm
  · refine bif_eq fun h => ?_
    have h := fitU_le h
    exact (IntWalk.u64_in _ ⟨by simp only [Int.ofNat_eq_natCast]; omega, by simp only [Int.ofNat_eq_natCast]; omega⟩).symm
  · refine bif_eq fun h => ?_
    have h := fitU_le h
    exact (IntWalk.u32_in _ ⟨by simp only [Int.ofNat_eq_natCast]; omega, by simp only [Int.ofNat_eq_natCast]; omega⟩).symm
  · rfl

def aint (op : BinOp) (k : IntKind) (a b : Int) : Option Value := match op with
  | .add => some (.int k (fwrap k (a + b)))
  | .sub => some (.int k (fwrap k (a - b)))
  | .mul => some (.int k (fwrap k (a * b)))
  | .quo => if b = 0 then none else some (.int k (fwrap k (a.tdiv b)))
  | .rem => if b = 0 then none else some (.int k (a.tmod b))
  | .eql => some (.bool (a == b))
  | .neq => some (.bool (a != b))
  | .lss => some (.bool (a < b))
  | .leq => some (.bool (a ≤ b))
  | .gtr => some (.bool (a > b))
  | .geq => some (.bool (a ≥ b))
  | .and => some (.int k (k.wrap (BitVec.ofInt k.bits a &&& BitVec.ofInt k.bits b).toNat))
  | .or => some (.int k (k.wrap (BitVec.ofInt k.bits a ||| BitVec.ofInt k.bits b).toNat))
  | .xor => some (.int k (k.wrap (BitVec.ofInt k.bits a ^^^ BitVec.ofInt k.bits b).toNat))
  | .andNot => some (.int k (k.wrap (BitVec.ofInt k.bits a &&& ~~~BitVec.ofInt k.bits b).toNat))
  | _ => none
def ashift (op : BinOp) (k : IntKind) (a b : Int) : Option Value := match b with
  | .negSucc _ => none
  | .ofNat n => match op with
    | .shl => some (.int k (k.wrap (a * 2 ^ min n k.bits)))
    | .shr => some (.int k (a.fdiv (2 ^ min n k.bits)))
    | _ => none
def astr (op : BinOp) (x y : ByteArray) : Option Value := match op with
  | .add => bif fitU 9223372036854775807 (x.size + y.size) then some (.string ⟨⟨x.data.toList ++ y.data.toList⟩⟩) else none
  | .eql => some (.bool (x.data.toList == y.data.toList))
  | .neq => some (.bool !(x.data.toList == y.data.toList))
  | .lss => some (.bool (Op.bytesLess x.data.toList y.data.toList))
  | .leq => some (.bool (Op.bytesLess x.data.toList y.data.toList || x.data.toList == y.data.toList))
  | .gtr => some (.bool !(Op.bytesLess x.data.toList y.data.toList || x.data.toList == y.data.toList))
  | .geq => some (.bool !(Op.bytesLess x.data.toList y.data.toList))
  | _ => none

theorem ba_toList (x : ByteArray) : x.toList = x.data.toList := Lib.toList_data x

/-! ### The operations run so -/
section
variable {P : Program} (w : World)
theorem run_aint {op : BinOp} {t : TypeId} {k : IntKind} {a b : Int} {v : Value} (hs : op ≠ .shl) (hr : op ≠ .shr) (h : aint op k a b = some v) :
    (binOp op t (.int k a) (.int k b)).run P w = .ok v w := by
  unfold aint at h
  cases op <;> simp only [Option.some.injEq, reduceCtorEq] at h <;> first
    | (exact absurd rfl hs)
    | (exact absurd rfl hr)
    | (subst h; simp only [binOp, ne_eq, not_true_eq_false, if_false, Op.intArith, fwrap_eq]; rfl)
    | (subst h; simp only [binOp, ne_eq, not_true_eq_false, if_false, Op.intCmp]; rfl)
    | (subst h; simp only [binOp, ne_eq, not_true_eq_false, if_false, Op.intBits]; rfl)
    | (split at h
       · cases h
       · rename_i hb
         simp only [Option.some.injEq] at h
         subst h
         simp only [binOp, ne_eq, not_true_eq_false, if_false, Op.intDiv, hb, fwrap_eq]; rfl)
theorem run_ashift {op : BinOp} {t : TypeId} {k k' : IntKind} {a b : Int} {v : Value} (ho : op = .shl ∨ op = .shr) (h : ashift op k a b = some v) :
    (binOp op t (.int k a) (.int k' b)).run P w = .ok v w := by
  unfold ashift at h
  split at h
  · cases h
  · rename_i n
    rcases ho with rfl | rfl
    · simp only [Option.some.injEq] at h
      subst h
      simp only [binOp, Op.shift, Int.ofNat_eq_natCast, Int.toNat_natCast]
      rw [if_neg (by omega)]; rfl
    · simp only [Option.some.injEq] at h
      subst h
      simp only [binOp, Op.shift, Int.ofNat_eq_natCast, Int.toNat_natCast]
      rw [if_neg (by omega)]; rfl
theorem ba_append (x y : ByteArray) : x ++ y = ⟨⟨x.data.toList ++ y.data.toList⟩⟩ := by
  apply ByteArray.ext
  apply Array.ext'
  simp
theorem run_astr {op : BinOp} {t : TypeId} {x y : ByteArray} {v : Value} (h : astr op x y = some v) :
    (binOp op t (.string x) (.string y)).run P w = .ok v w := by
  unfold astr at h
  cases op <;> simp only [Option.some.injEq, reduceCtorEq] at h
  case add =>
    cases hb : fitU 9223372036854775807 (x.size + y.size) with
    | false => rw [hb] at h; simp at h
    | true =>
      rw [hb] at h
      simp only [cond_true, Option.some.injEq] at h
      subst h
      have hle := fitU_le hb
      have hmax : IntKind.i64.max = 9223372036854775807 := by decide
      simp only [binOp, Op.stringOp]
      rw [hmax, if_neg (by omega), ba_append]; rfl
  all_goals
    subst h
    simp only [binOp, Op.stringOp, ba_toList]; rfl
end

end
end Go.Ab
