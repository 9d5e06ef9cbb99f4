import Derived.Test.YtmdcmnjeonnfiaaGreatDoorAbV
/-! The walk by rewriting. -/
set_option linter.unusedSimpArgs false
set_option linter.unusedVariables false
set_option linter.unusedSectionVars false
namespace Go.Ab
noncomputable section

inductive It where
  | code (c : Code)
  | blk (id : Nat)
def wpL (P : Program) (E : Env) (cr : Crit) : List It → AK → AK
  | [], K => K
  | .code c :: k, K => fun e a h => match e with
    | .normal => wpC P E cr c (wpL P E cr k K) a h
    | e => wpL P E cr k K e a h
  | .blk id :: k, K => fun e a h => match e with
    | .exit j => if j = id then wpL P E cr k K .normal a h else wpL P E cr k K (.exit j) a h
    | e => wpL P E cr k K e a h

section
variable {P : Program} {E : Env} {cr : Crit} {k : List It} {K : AK} {a : AAct} {h : AH}
theorem wpL_nil {e : AX} : wpL P E cr [] K e a h = K e a h := rfl
theorem wpL_code {c : Code} : wpL P E cr (.code c :: k) K .normal a h = wpC P E cr c (wpL P E cr k K) a h := rfl
theorem wpL_code_exit {c : Code} {j : Nat} : wpL P E cr (.code c :: k) K (.exit j) a h = wpL P E cr k K (.exit j) a h := rfl
theorem wpL_code_ret {c : Code} : wpL P E cr (.code c :: k) K .ret a h = wpL P E cr k K .ret a h := rfl
theorem wpL_code_panic {c : Code} {v : Value} : wpL P E cr (.code c :: k) K (.panic v) a h = wpL P E cr k K (.panic v) a h := rfl
theorem wpL_blk {id : Nat} : wpL P E cr (.blk id :: k) K .normal a h = wpL P E cr k K .normal a h := rfl
theorem wpL_blk_exit {id j : Nat} : wpL P E cr (.blk id :: k) K (.exit j) a h = if j = id then wpL P E cr k K .normal a h else wpL P E cr k K (.exit j) a h := rfl
theorem wpL_blk_ret {id : Nat} : wpL P E cr (.blk id :: k) K .ret a h = wpL P E cr k K .ret a h := rfl
theorem wpL_blk_panic {id : Nat} {v : Value} : wpL P E cr (.blk id :: k) K (.panic v) a h = wpL P E cr k K (.panic v) a h := rfl

theorem wpC_start {c : Code} : wpC P E cr c K a h = wpC P E cr c (wpL P E cr [] K) a h := rfl
theorem wpC_skip : wpC P E cr .skip (wpL P E cr k K) a h = wpL P E cr k K .normal a h := rfl
theorem wpC_seq {x y : Code} : wpC P E cr (.seq x y) (wpL P E cr k K) a h = wpC P E cr x (wpL P E cr (.code y :: k) K) a h := by
  rfl
theorem wpC_block {id : Nat} {x : Code} : wpC P E cr (.block id x) (wpL P E cr k K) a h = wpC P E cr x (wpL P E cr (.blk id :: k) K) a h := by
  rfl
theorem wpC_exit {id : Nat} : wpC P E cr (.exit id) (wpL P E cr k K) a h = wpL P E cr k K (.exit id) a h := rfl
theorem wpC_ret : wpC P E cr .ret (wpL P E cr k K) a h = wpL P E cr k K .ret a h := rfl
theorem wpC_region {id : Nat} {ops : Array Oper} : wpC P E cr (.region id ops false) (wpL P E cr k K) a h = wpO P E ops (wpL P E cr k K) ops.toList a h := rfl
theorem wpC_loop {x : Code} : wpC P E cr (.loop x) (wpL P E cr k K) a h = SemC P (.loop x) (wpL P E cr k K) a h := rfl
theorem retK_normal {rs : Array ResultVar} {Q : AEnd → AH → Prop} : retK E rs Q .normal a h = (a.ds = [] ∧ ∃ vs, ares E.T h a.t rs.toList = some vs ∧ Q (.ret (tup vs)) h) := rfl
theorem retK_ret {rs : Array ResultVar} {Q : AEnd → AH → Prop} : retK E rs Q .ret a h = (a.ds = [] ∧ ∃ vs, ares E.T h a.t rs.toList = some vs ∧ Q (.ret (tup vs)) h) := rfl
theorem retK_panic {rs : Array ResultVar} {Q : AEnd → AH → Prop} {v : Value} : retK E rs Q (.panic v) a h = (a.ds = [] ∧ Q (.panic v) h) := rfl
theorem loopK_normal {I : Nat → AAct → AH → Prop} {m : Nat} : loopK I m K .normal a h = ∃ m', m' < m ∧ ∃ a2, Wk a a2 ∧ I m' a2 h := rfl
theorem loopK_exit {I : Nat → AAct → AH → Prop} {m j : Nat} : loopK I m K (.exit j) a h = K (.exit j) a h := rfl
theorem loopK_ret {I : Nat → AAct → AH → Prop} {m : Nat} : loopK I m K .ret a h = K .ret a h := rfl
theorem loopK_panic {I : Nat → AAct → AH → Prop} {m : Nat} {v : Value} : loopK I m K (.panic v) a h = K (.panic v) a h := rfl

/-! ### Operations, one after the other -/
def putW (P : Program) (E : Env) (ops : Array Oper) (K : AK) (r : List Oper) (a : AAct) (d : Option Tmp) (v : Value) (h : AH) : Prop := putP a d v fun a' => wpO P E ops K r a' h
theorem putW_some {ops : Array Oper} {r : List Oper} {n m d : Nat} {l : List (Nat × Value)} {ds : List ADef} {v : Value} : putW P E ops K r ⟨S n l, m, ds⟩ (some d) v h = if d < m then wpO P E ops K r ⟨S n ((d, v) :: l), m, ds⟩ h else False := by
  unfold putW putP AAct.put
  dsimp only
  by_cases e : d < m
  · rw [show Nat.blt d m = true from by simpa [Nat.blt_eq] using e, if_pos e]; rfl
  · rw [show Nat.blt d m = false from by
      cases hq : Nat.blt d m with
      | false => rfl
      | true => exact absurd (by simpa [Nat.blt_eq] using hq) e, if_neg e]
theorem putW_none {ops : Array Oper} {r : List Oper} {v : Value} : putW P E ops K r a none v h = wpO P E ops K r a h := rfl
def aftV (P : Program) (E : Env) (ops : Array Oper) (K : AK) (r : List Oper) (a : AAct) (d : Option Tmp) (h : AH) : Option AN → Prop
  | some (.val v h') => putW P E ops K r a d v h'
  | some (.enter f args) => Sem P f args h (callK P E ops K r a d)
  | some (.defr fn cap args) => putW P E ops K r { a with ds := ⟨fn, cap, args⟩ :: a.ds } d undef h
  | some (.panic v) => K (.panic v) a h
  | _ => False
theorem wpO_nil {ops : Array Oper} : wpO P E ops K [] a h = K .normal a h := rfl
theorem wpO_cons {ops : Array Oper} {d : Option Tmp} {op : Op} {ty : TypeId} {pos : String} {af : Array Edge} {r : List Oper} : wpO P E ops K (⟨d, op, ty, pos, af, none⟩ :: r) a h = aftV P E ops K r a d h (aopO E (aev a.t) h op) := by
  rw [wpO]
  simp only [aguard, aop]
  unfold aftV putW callK
  cases aopO E (aev a.t) h op with
  | none => rfl
  | some n => cases n <;> rfl
/-- The slot of an operation. -/
def dstOf (ops : Array Oper) (j : Nat) : Option Tmp := (ops[j]?).bind (·.dst)
section
variable {ops : Array Oper} {r : List Oper} {d : Option Tmp}
theorem aftV_val {v : Value} {h' : AH} : aftV P E ops K r a d h (some (.val v h')) = putW P E ops K r a d v h' := rfl
theorem aftV_enter {f : FuncId} {args : List Value} : aftV P E ops K r a d h (some (.enter f args)) = Sem P f args h (callK P E ops K r a d) := rfl
theorem aftV_panic {v : Value} : aftV P E ops K r a d h (some (.panic v)) = K (.panic v) a h := rfl
theorem callK_ret {v : Value} {h' : AH} : callK P E ops K r a d (.ret v) h' = putW P E ops K r a d v h' := rfl
theorem callK_panic {v : Value} {h' : AH} : callK P E ops K r a d (.panic v) h' = K (.panic v) a h' := rfl
end
end

/-! ### What an operation comes to -/
section
variable (E : Env) (ρ : Operand → Value) (h : AH)
theorem o_move (x : Operand) : aopO E ρ h (.move x) = some (.val (ρ x) h) := rfl
theorem o_assign (x : Operand) : aopO E ρ h (.assign x) = some (.val (ρ x) h) := rfl
theorem o_pick (c a b : Operand) : aopO E ρ h (.pick c a b) = oPick (ρ c) (ρ a) (ρ b) h := rfl
theorem o_alloc (t : TypeId) : aopO E ρ h (.alloc t) = ofVH (aalloc E.T h t) := rfl
theorem o_box (t : TypeId) (x : Operand) : aopO E ρ h (.box t x) = ofVH (abox h t (ρ x)) := rfl
theorem o_build (t : TypeId) (ps : Array (Nat × Operand)) : aopO E ρ h (.build t ps) = ofV h (abuild E.T t (ps.toList.map fun p => (p.1, ρ p.2))) := rfl
theorem o_buildSlice (t : TypeId) (n : Nat) (ps : Array (Nat × Operand)) : aopO E ρ h (.buildSlice t n ps) = ofVH (abuildSlice E.T h t n (ps.toList.map fun p => (p.1, ρ p.2))) := rfl
theorem o_load (t : TypeId) (x : Operand) : aopO E ρ h (.load t x) = ofV h (aload E.T h t (ρ x)) := rfl
theorem o_store (t : TypeId) (x y : Operand) : aopO E ρ h (.store t x y) = ofH (astore E.T h t (ρ x) (ρ y)) := rfl
theorem o_nilCheck (x : Operand) : aopO E ρ h (.nilCheck x) = oNilCheck (ρ x) h := rfl
theorem o_binOp (op : BinOp) (t : TypeId) (x y : Operand) (t2 : TypeId) : aopO E ρ h (.binOp op t x y t2) = oBin E op t (isC x || isC y) (ρ x) (ρ y) h := rfl
theorem o_unOp (op : UnOp) (t : TypeId) (x : Operand) : aopO E ρ h (.unOp op t x) = oUn op (ρ x) h := rfl
theorem o_convert (s d : TypeId) (x : Operand) : aopO E ρ h (.convert s d x) = ofVH (aconvert2 E.T h s d (ρ x)) := rfl
theorem o_makeInterface (t : TypeId) (x : Operand) : aopO E ρ h (.makeInterface t x) = oIface E t (ρ x) h := rfl
theorem o_slice (t : TypeId) (x : Operand) (lo hi mx : Option Operand) : aopO E ρ h (.slice t x lo hi mx) = oSlice E ρ h t x lo hi mx := rfl
theorem o_fieldAddr (s : TypeId) (x : Operand) (f : Nat) : aopO E ρ h (.fieldAddr s x f) = ofV h (afieldA E.T s (ρ x) f) := rfl
theorem o_field (s : TypeId) (x : Operand) (f : Nat) : aopO E ρ h (.field s x f) = ofV h (afield E.T s (ρ x) f) := rfl
theorem o_indexAddr (t : TypeId) (x i : Operand) : aopO E ρ h (.indexAddr t x i) = ofV h (aindexA E.T t (ρ x) (ρ i)) := rfl
theorem o_index (t : TypeId) (x i : Operand) : aopO E ρ h (.index t x i) = ofV h (aindex E.T t (ρ x) (ρ i)) := rfl
theorem o_lookup (t : TypeId) (x i : Operand) (ok : Bool) : aopO E ρ h (.lookup t x i ok) = ofV h (alookup E.T h t (ρ x) (ρ i) ok) := rfl
theorem o_mapUpdate (t : TypeId) (m k x : Operand) : aopO E ρ h (.mapUpdate t m k x) = oMapSet E h t (ρ m) (ρ k) (ρ x) := rfl
theorem o_insert (t : TypeId) (m k x : Operand) : aopO E ρ h (.insert t m k x) = oMapSet E h t (ρ m) (ρ k) (ρ x) := rfl
theorem o_makeMap (t : TypeId) (r : Option Operand) : aopO E ρ h (.makeMap t r) = oMakeMap h r := rfl
theorem o_makeFunc (t : TypeId) (fn : Fn) (f c : Array Operand) : True := trivial
theorem o_makeSlice (t : TypeId) (l c : Operand) : aopO E ρ h (.makeSlice t l c) = ofVH (amakeSlice E.T h t (ρ l) (ρ c)) := rfl
theorem o_extract (x : Operand) (i : Nat) : aopO E ρ h (.extract x i) = oExtract (ρ x) i h := rfl
theorem o_typeAssert (x : Operand) (a b : TypeId) (ok : Bool) : aopO E ρ h (.typeAssert x a b ok) = ofV h (atypeAssert E.T (ρ x) b ok) := rfl
theorem o_panic (x : Operand) : aopO E ρ h (.panic x) = oPanic (ρ x) := rfl
theorem o_builtin (b : Builtin) (args : Array Operand) (ty : Array TypeId) : aopO E ρ h (.call { callee := .builtin b, args := args, argTypes := ty }) = abuiltin E h b ty.toList (args.toList.map ρ) := rfl
theorem o_call (f : Operand) (args : Array Operand) (ty : Array TypeId) : aopO E ρ h (.call { callee := .value f, args := args, argTypes := ty }) = oCallV E (ρ f) (args.toList.map ρ) h := rfl
theorem ofV_some (v : Value) : ofV h (some v) = some (.val v h) := rfl
theorem ofVH_some (v : Value) (h' : AH) : ofVH (some (v, h')) = some (.val v h') := rfl
theorem ofH_some (h' : AH) : ofH (some h') = some (.val undef h') := rfl
theorem aev_int (t : PT Value) (k : IntKind) (n : Int) : aev t (.const (.int k n)) = .int k n := rfl
theorem aev_bool (t : PT Value) (b : Bool) : aev t (.const (.bool b)) = .bool b := rfl
theorem aev_string (t : PT Value) (b : ByteArray) : aev t (.const (.string b)) = .string b := rfl
theorem aev_nilp (t : PT Value) : aev t (.const (.pointer none)) = .pointer none := rfl
theorem aev_nils (t : PT Value) : aev t (.const (.slice none 0 0)) = .slice none 0 0 := rfl
theorem aev_nilm (t : PT Value) : aev t (.const (.map none)) = .map none := rfl
theorem aev_nilf (t : PT Value) : aev t (.const .nilFunc) = .nilFunc := rfl
theorem aev_nili (t : PT Value) : aev t (.const .nilIface) = .nilIface := rfl
theorem aev_func (t : PT Value) (f : FuncId) : aev t (.func f) = .func (.func f) #[] #[] := rfl
theorem oPick_t (a b : Value) : oPick (.bool true) a b h = some (.val a h) := rfl
theorem oPick_f (a b : Value) : oPick (.bool false) a b h = some (.val b h) := rfl
theorem abox_ok {t : TypeId} {v : Value} (hv : noTuple v = true) : abox h t v = some (.pointer (some ⟨h.next, 0, none⟩), h.new (.cells (PT.ofL (cellsL v)) (cellsL v).length t false)) := by
  unfold abox; rw [hv]; rfl
theorem aalloc_ok {T : Tbl} {t : TypeId} {z : Value} (hz : T.zero t = some z) (hv : noTuple z = true) : aalloc T h t = some (.pointer (some ⟨h.next, 0, none⟩), h.new (.cells (PT.ofL (cellsL z)) (cellsL z).length t false)) := by
  unfold aalloc; rw [hz]; exact abox_ok h hv
theorem noT_agg (a : Array Value) : noTuple (.agg a) = true := rfl
theorem noT_int (k : IntKind) (n : Int) : noTuple (.int k n) = true := rfl
theorem noT_bool (b : Bool) : noTuple (.bool b) = true := rfl
theorem noT_string (b : ByteArray) : noTuple (.string b) = true := rfl
theorem noT_ptr (b : Option Addr) : noTuple (.pointer b) = true := rfl
theorem noT_slice (b : Option Addr) (n c : Nat) : noTuple (.slice b n c) = true := rfl
theorem noT_map (b : Option Nat) : noTuple (.map b) = true := rfl
theorem noT_func (f : Fn) (a b : Array Value) : noTuple (.func f a b) = true := rfl
theorem cellsL_agg (l : List Value) : cellsL (.agg ⟨l⟩) = l := rfl
theorem cellsL_int (k : IntKind) (n : Int) : cellsL (.int k n) = [.int k n] := rfl
theorem cellsL_bool (b : Bool) : cellsL (.bool b) = [.bool b] := rfl
theorem cellsL_string (b : ByteArray) : cellsL (.string b) = [.string b] := rfl
theorem cellsL_ptr (b : Option Addr) : cellsL (.pointer b) = [.pointer b] := rfl
theorem cellsL_slice (b : Option Addr) (n c : Nat) : cellsL (.slice b n c) = [.slice b n c] := rfl
theorem cellsL_map (b : Option Nat) : cellsL (.map b) = [.map b] := rfl
theorem cellsL_func (f : Fn) (a b : Array Value) : cellsL (.func f a b) = [.func f a b] := rfl
theorem oBin_int (op : BinOp) (t : TypeId) (c : Bool) (k k' : IntKind) (a b : Int) : oBin E op t c (.int k a) (.int k' b) h = oInt op k k' a b h := rfl
theorem oInt_cmp {op : BinOp} (k : IntKind) (a b : Int) {v : Value} (hs : op ≠ .shl) (hr : op ≠ .shr) (hv : aint op k a b = some v) : oInt op k k a b h = some (.val v h) := by
  unfold oInt
  split
  · exact absurd rfl hs
  · exact absurd rfl hr
  · rw [if_pos rfl, hv]; rfl
theorem oInt_lss (k : IntKind) (a b : Int) : oInt .lss k k a b h = some (.val (.bool (decide (a < b))) h) := oInt_cmp h k a b nofun nofun rfl
theorem oInt_leq (k : IntKind) (a b : Int) : oInt .leq k k a b h = some (.val (.bool (decide (a ≤ b))) h) := oInt_cmp h k a b nofun nofun rfl
theorem oInt_gtr (k : IntKind) (a b : Int) : oInt .gtr k k a b h = some (.val (.bool (decide (b < a))) h) := oInt_cmp h k a b nofun nofun rfl
theorem oInt_geq (k : IntKind) (a b : Int) : oInt .geq k k a b h = some (.val (.bool (decide (b ≤ a))) h) := oInt_cmp h k a b nofun nofun rfl
theorem oInt_eql (k : IntKind) (a b : Int) : oInt .eql k k a b h = some (.val (.bool (decide (a = b))) h) := by
  exact oInt_cmp h k a b nofun nofun rfl
theorem oInt_neq (k : IntKind) (a b : Int) : oInt .neq k k a b h = some (.val (.bool (!decide (a = b))) h) := by
  exact oInt_cmp h k a b nofun nofun rfl
theorem oInt_add (k : IntKind) (a b : Int) : oInt .add k k a b h = some (.val (.int k (k.wrap (a + b))) h) := by
  rw [← fwrap_eq]; exact oInt_cmp h k a b nofun nofun rfl
theorem oInt_sub (k : IntKind) (a b : Int) : oInt .sub k k a b h = some (.val (.int k (k.wrap (a - b))) h) := by
  rw [← fwrap_eq]; exact oInt_cmp h k a b nofun nofun rfl
theorem oInt_mul (k : IntKind) (a b : Int) : oInt .mul k k a b h = some (.val (.int k (k.wrap (a * b))) h) := by
  rw [← fwrap_eq]; exact oInt_cmp h k a b nofun nofun rfl
theorem oInt_rem (k : IntKind) (a b : Int) (hb : b ≠ 0) : oInt .rem k k a b h = some (.val (.int k (a.tmod b)) h) := oInt_cmp h k a b nofun nofun (by simp [aint, hb])
theorem oUn_not (b : Bool) : oUn .not (.bool b) h = some (.val (.bool (!b)) h) := rfl
theorem oExtract_ok (l : List Value) (i : Nat) : oExtract (.tuple ⟨l⟩) i h = ofV h (l[i]?) := rfl
theorem oNil_ptr (x : Addr) : oNilCheck (.pointer (some x)) h = some (.val (.pointer (some x)) h) := rfl
theorem alen_slice {T : Tbl} {t e : TypeId} (hu : T.und t = some (.slice e)) (p : Option Addr) (n c : Nat) : alen T h t (.slice p n c) = some (.int .i64 n) := by
  unfold alen; rw [hu]
theorem alen_string {T : Tbl} {t : TypeId} (hu : T.und t = some .string) (b : ByteArray) : alen T h t (.string b) = some (.int .i64 b.data.toList.length) := by
  unfold alen; rw [hu]
theorem b_len (t : TypeId) (x : Value) : abuiltin E h .len [t] [x] = ofV h (alen E.T h t x) := rfl
end
theorem afieldA_ok {T : Tbl} {s : TypeId} {fs : Array Field} (hu : T.und s = some (.struct fs)) {f : Nat} {fd : Field} (hf : fs.toList[f]? = some fd) {k : Nat} (hk : T.size fd.type = some (k + 1)) (b o : Nat) : afieldA T s (.pointer (some ⟨b, o, none⟩)) f = some (.pointer (some ⟨b, o + fd.offset, none⟩)) := by
  unfold afieldA; simp only [hu, hf, hk]
theorem aindexA_slice {T : Tbl} {t e : TypeId} (hu : T.und t = some (.slice e)) {k : Nat} (hk : T.size e = some k) (b o n c : Nat) (kd : IntKind) (i : Nat) (hi : i < n) : aindexA T t (.slice (some ⟨b, o, none⟩) n c) (.int kd (i : Int)) = some (.pointer (some ⟨b, o + i * k, none⟩)) := by
  unfold aindexA
  have : aidx (i : Int) n = some i := by
    show aidx (.ofNat i) n = _
    unfold aidx
    simp only [show Nat.blt i n = true from by simpa [Nat.blt_eq] using hi]
  simp only [hu, hk, this]
end
end Go.Ab
namespace Go.Ab
theorem info_types (P : Program) : ∀ t i, P.types[t]? = some i → P.info? t = some i := fun t i h => by
  have hlt := (Array.getElem?_eq_some_iff.1 h).1
  unfold Tables.info?
  rw [if_pos hlt]; exact h
end Go.Ab
namespace Go.Ab
noncomputable section
theorem lkv_cons (n : Nat) (r : List (Nat × Value)) (i j : Nat) (v : Value) : lkv n ((j, v) :: r) i = if i = j then v else lkv n r i := rfl
theorem lkv_nil (n i : Nat) : lkv n [] i = if i < n then poison else undef := rfl
theorem ares_nil (T : Tbl) (h : AH) (t : PT Value) : ares T h t [] = some [] := rfl
theorem ares_tmp {T : Tbl} {h : AH} {t : PT Value} {i : Nat} {rs : List ResultVar} : ares T h t (.tmp i :: rs) = match ares T h t rs with
    | some vs => some (aev t (.tmp i) :: vs)
    | none => none := by
  rw [ares]
  show (match some (aev t (.tmp i)), ares T h t rs with | some v, some vs => some (v :: vs) | _, _ => none) = _
  cases ares T h t rs <;> rfl
theorem tup_one (v : Value) : tup [v] = v := rfl
theorem tup_nil : tup [] = .tuple ⟨[]⟩ := rfl
theorem tup_two (v w : Value) (l : List Value) : tup (v :: w :: l) = .tuple ⟨v :: w :: l⟩ := rfl
theorem zipIdx_map_nil (k : Nat) : (([] : List Value).zipIdx k).map (fun p => (p.2, p.1)) = [] := rfl
theorem zipIdx_map_cons (k : Nat) (v : Value) (l : List Value) : ((v :: l).zipIdx k).map (fun p => (p.2, p.1)) = (k, v) :: (l.zipIdx (k + 1)).map (fun p => (p.2, p.1)) := rfl
theorem dstOf_zero (o : Oper) (r : List Oper) : dstOf ⟨o :: r⟩ 0 = o.dst := rfl
theorem dstOf_succ (o : Oper) (r : List Oper) (j : Nat) : dstOf ⟨o :: r⟩ (j + 1) = dstOf ⟨r⟩ j := by
  simp [dstOf]
/-- A slot, as a guard looks at it. -/
def lkg (n : Nat) : List (Nat × Value) → Nat → Option Value
  | [], i => if i < n then some poison else none
  | (j, v) :: r, i => if i = j then some v else lkg n r i
theorem get_lkg (n : Nat) : ∀ (l : List (Nat × Value)) (i : Nat), (S n l).get i = lkg n l i
  | [], i => by rw [get_S]; rfl
  | (j, v) :: r, i => by
    rw [← put_S, PT.get_put, lkg, get_lkg n r]
theorem lkg_cons (n : Nat) (r : List (Nat × Value)) (i j : Nat) (v : Value) : lkg n ((j, v) :: r) i = if i = j then some v else lkg n r i := rfl
theorem lkg_nil (n i : Nat) : lkg n [] i = if i < n then some poison else none := rfl
/-- Behind a guard that is told. -/
def gW (P : Program) (E : Env) (ops : Array Oper) (K : AK) (r : List Oper) (n : Nat) (l : List (Nat × Value)) (m : Nat) (ds : List ADef) (h : AH) (d : Option Tmp) (op : Op) (want : Bool) : Value → Prop
  | .bool b => if b = want then aftV P E ops K r ⟨S n l, m, ds⟩ d h (aopO E (aev (S n l)) h op) else putW P E ops K r ⟨S n l, m, ds⟩ d undef h
  | _ => False
def gV (P : Program) (E : Env) (ops : Array Oper) (K : AK) (r : List Oper) (n : Nat) (l : List (Nat × Value)) (m : Nat) (ds : List ADef) (h : AH) (d : Option Tmp) (op : Op) (want : Bool) (i : Nat) : Option Value → Prop
  | some (.bool b) => gW P E ops K r n l m ds h d op want (.bool b)
  | some (.chan _) => False
  | _ => if i < m then putW P E ops K r ⟨S n l, m, ds⟩ d undef h else False
def gO (P : Program) (E : Env) (ops : Array Oper) (K : AK) (r : List Oper) (n : Nat) (l : List (Nat × Value)) (m : Nat) (ds : List ADef) (h : AH) (d : Option Tmp) (op : Op) (want : Bool) : Option Tmp → Prop
  | some i => gV P E ops K r n l m ds h d op want i (lkg n l i)
  | none => False
section
variable {P : Program} {E : Env} {ops : Array Oper} {K : AK} {r : List Oper} {n : Nat} {l : List (Nat × Value)} {m : Nat} {ds : List ADef} {h : AH} {d : Option Tmp} {op : Op} {want : Bool}
theorem gO_some {i : Nat} : gO P E ops K r n l m ds h d op want (some i) = gV P E ops K r n l m ds h d op want i (lkg n l i) := rfl
theorem gV_bool {i : Nat} {b : Bool} : gV P E ops K r n l m ds h d op want i (some (.bool b)) = gW P E ops K r n l m ds h d op want (.bool b) := rfl
theorem gV_undef {i : Nat} : gV P E ops K r n l m ds h d op want i (some (.tuple #[])) = if i < m then putW P E ops K r ⟨S n l, m, ds⟩ d undef h else False := rfl
theorem gW_tt : gW P E ops K r n l m ds h d op true (.bool true) = aftV P E ops K r ⟨S n l, m, ds⟩ d h (aopO E (aev (S n l)) h op) := rfl
theorem gW_ff : gW P E ops K r n l m ds h d op false (.bool false) = aftV P E ops K r ⟨S n l, m, ds⟩ d h (aopO E (aev (S n l)) h op) := rfl
theorem gW_tf : gW P E ops K r n l m ds h d op true (.bool false) = putW P E ops K r ⟨S n l, m, ds⟩ d undef h := rfl
theorem gW_ft : gW P E ops K r n l m ds h d op false (.bool true) = putW P E ops K r ⟨S n l, m, ds⟩ d undef h := rfl
theorem gW_split {b : Bool} (h1 : b = true → gW P E ops K r n l m ds h d op want (.bool true)) (h2 : b = false → gW P E ops K r n l m ds h d op want (.bool false)) : gW P E ops K r n l m ds h d op want (.bool b) := by
  cases b
  · exact h2 rfl
  · exact h1 rfl
end
/-- At a branch. -/
def condR (P : Program) (E : Env) (cr : Crit) (k : List It) (K : AK) (x y : Code) (a : AAct) (h : AH) : Value → Prop
  | .bool true => wpC P E cr x (wpL P E cr k K) a h
  | .bool false => wpC P E cr y (wpL P E cr k K) a h
  | _ => False
section
variable {P : Program} {E : Env} {cr : Crit} {k : List It} {K : AK} {x y : Code} {a : AAct} {h : AH}
theorem condR_true : condR P E cr k K x y a h (.bool true) = wpC P E cr x (wpL P E cr k K) a h := rfl
theorem condR_false : condR P E cr k K x y a h (.bool false) = wpC P E cr y (wpL P E cr k K) a h := rfl
theorem condR_split {b : Bool} (h1 : b = true → wpC P E cr x (wpL P E cr k K) a h) (h2 : b = false → wpC P E cr y (wpL P E cr k K) a h) : condR P E cr k K x y a h (.bool b) := by
  cases b
  · exact h2 rfl
  · exact h1 rfl
theorem wpC_condR {c : Operand} {n m : Nat} {l : List (Nat × Value)} {ds : List ADef} : wpC P E cr (.cond c x y) (wpL P E cr k K) ⟨S n l, m, ds⟩ h = condR P E cr k K x y ⟨S n l, m, ds⟩ h (aev (S n l) c) := by
  rw [wpC]
  dsimp only
  refine propext ⟨?_, ?_⟩
  · rintro ⟨b, hb, h1, h2⟩
    rw [hb]; exact condR_split h1 h2
  · intro hc
    cases hv : aev (S n l) c with
    | bool b =>
      rw [hv] at hc
      refine ⟨b, rfl, fun e => ?_, fun e => ?_⟩ <;> subst e <;> exact hc
    | _ => rw [hv] at hc; exact hc.elim
end
theorem wpO_gO {P : Program} {E : Env} {K : AK} {h : AH} {ops : Array Oper} {d : Option Tmp} {op : Op} {ty : TypeId} {pos : String} {af : Array Edge} {r : List Oper} {j : Nat} {want : Bool} {n m : Nat} {l : List (Nat × Value)} {ds : List ADef} :
    wpO P E ops K (⟨d, op, ty, pos, af, some (j, want)⟩ :: r) ⟨S n l, m, ds⟩ h = gO P E ops K r n l m ds h d op want (dstOf ops j) := by
  have hg : aguard ops ⟨S n l, m, ds⟩ (some (j, want)) = match dstOf ops j with
      | none => none
      | some i => match lkg n l i with
        | some (.bool b) => some (b == want)
        | some (.chan _) => none
        | _ => match Nat.blt i m with
          | true => some false
          | false => none := by
    unfold aguard dstOf
    dsimp only
    generalize (ops[j]?).bind (·.dst) = q
    cases q with
    | none => rfl
    | some i =>
      dsimp only
      rw [get_lkg]
      cases lkg n l i with
      | none => rfl
      | some v => cases v <;> rfl
  have yes : (match aop E ⟨d, op, ty, pos, af, some (j, want)⟩ (aev (S n l)) h with
      | some (.val v h') => putP ⟨S n l, m, ds⟩ d v fun a' => wpO P E ops K r a' h'
      | some (.enter f args) => Sem P f args h fun e h' => match e with
        | .ret v => putP ⟨S n l, m, ds⟩ d v fun a' => wpO P E ops K r a' h'
        | .panic v => K (.panic v) ⟨S n l, m, ds⟩ h'
      | some (.defr fn cap args) => putP { (⟨S n l, m, ds⟩ : AAct) with ds := ⟨fn, cap, args⟩ :: ds } d undef fun a' => wpO P E ops K r a' h
      | some (.panic v) => K (.panic v) ⟨S n l, m, ds⟩ h
      | _ => False) = aftV P E ops K r ⟨S n l, m, ds⟩ d h (aopO E (aev (S n l)) h op) := by
    simp only [aop]
    unfold aftV putW callK
    cases aopO E (aev (S n l)) h op with
    | none => rfl
    | some n => cases n <;> rfl
  have blt : ∀ {i : Nat}, Nat.blt i m = decide (i < m) := fun {i} => by
    by_cases e : i < m
    · rw [show Nat.blt i m = true from by simpa [Nat.blt_eq] using e]; simp [e]
    · rw [show Nat.blt i m = false from by
        cases hq : Nat.blt i m with
        | false => rfl
        | true => exact absurd (by simpa [Nat.blt_eq] using hq) e]
      simp [e]
  rw [wpO]
  dsimp only
  rw [hg]
  unfold gO
  cases dstOf ops j with
  | none => rfl
  | some i =>
    dsimp only
    unfold gV
    cases lkg n l i with
    | none =>
      dsimp only
      rw [blt]
      by_cases e : i < m
      · simp only [e, decide_true, if_true]; rfl
      · simp only [e, decide_false, if_false]
    | some v =>
      cases v with
      | bool b =>
        dsimp only [gW]
        by_cases e : b = want
        · rw [if_pos e, beq_iff_eq.2 e]; exact yes
        · rw [if_neg e, beq_eq_false_iff_ne.2 e]; rfl
      | chan c => rfl
      | _ =>
        dsimp only
        rw [blt]
        by_cases e : i < m
        · simp only [e, decide_true, if_true]; rfl
        · simp only [e, decide_false, if_false]
end
attribute [go_sem] wpL_code wpL_code_exit wpL_code_ret wpL_code_panic wpL_blk wpL_blk_exit wpL_blk_ret wpL_blk_panic wpL_nil wpC_skip wpC_seq wpC_block wpC_exit wpC_ret wpC_region condR_true condR_false wpC_condR wpC_loop retK_normal retK_ret retK_panic loopK_exit loopK_ret loopK_panic
attribute [go_sem] putW_some putW_none wpO_nil wpO_cons wpO_gO lkg_cons lkg_nil gV_bool gV_undef gW_tt gW_ff gW_tf gW_ft gO_some dstOf_zero dstOf_succ aftV_val aftV_enter aftV_panic callK_ret callK_panic
attribute [go_sem] o_move o_assign o_pick o_alloc o_box o_build o_buildSlice o_load o_store o_nilCheck o_binOp o_unOp o_convert o_makeInterface o_slice o_fieldAddr o_field o_indexAddr o_index o_lookup o_mapUpdate o_insert o_makeMap o_makeSlice o_extract o_typeAssert o_panic o_builtin o_call
attribute [go_sem] ofV_some ofVH_some ofH_some aev_int aev_bool aev_string aev_nilp aev_nils aev_nilm aev_nilf aev_nili aev_func aev_S lkv_cons lkv_nil oPick_t oPick_f noT_agg noT_int noT_bool noT_string noT_ptr noT_slice noT_map noT_func cellsL_agg cellsL_int cellsL_bool cellsL_string cellsL_ptr cellsL_slice cellsL_map cellsL_func
attribute [go_sem] oBin_int oInt_lss oInt_leq oInt_gtr oInt_geq oInt_eql oInt_neq oInt_add oInt_sub oInt_mul oUn_not oExtract_ok oNil_ptr b_len ares_nil ares_tmp tup_one tup_two zipIdx_map_nil zipIdx_map_cons
attribute [go_sem] AH.next_new AH.next_set AH.set_set AH.at_set_self ldL PT.ofL_put
end Go.Ab
namespace Go.Ab
noncomputable section
theorem o_callF (E : Env) (g : FuncId) (args : List Value) (h : AH) : oCallV E (.func (.func g) #[] #[]) args h = acallF E h g args := by
  show acallF E h g ([] ++ args ++ []) = _
  rw [List.append_nil, List.nil_append]
theorem oBin_str_eql (E : Env) (t : TypeId) (c : Bool) (a b : ByteArray) (h : AH) : oBin E .eql t c (.string a) (.string b) h = some (.val (.bool (a.data.toList == b.data.toList)) h) := rfl
theorem oBin_str_neq (E : Env) (t : TypeId) (c : Bool) (a b : ByteArray) (h : AH) : oBin E .neq t c (.string a) (.string b) h = some (.val (.bool !(a.data.toList == b.data.toList)) h) := rfl
theorem alen_nils {T : Tbl} {h : AH} {t e : TypeId} (hu : T.und t = some (.slice e)) : alen T h t (.slice none 0 0) = some (.int .i64 0) := by
  unfold alen; rw [hu]; rfl
theorem ld_new_add (h : AH) (l : List Value) (n e : Nat) (fz : Bool) (i : Nat) (hi : i < n) : (h.new (.cells (PT.ofL l) n e fz)).ld h.next i = l[i]? := by
  rw [ld_new_self, if_pos hi]
end
attribute [go_sem] o_callF oBin_str_eql oBin_str_neq
end Go.Ab
namespace Go.Ab
noncomputable section
theorem astore_lay {T : Tbl} {t : TypeId} {a : Bool} {k : Nat} (hl : T.lay.get t = some (a, k)) (h : AH) (b o : Nat) {v : Value} (hv : (cellsL v).length = k) : astore T h t (.pointer (some ⟨b, o, none⟩)) v = aputs h b o (cellsL v) := by
  unfold astore
  simp only [hl, hv]
  rw [show Nat.beq k k = true from Nat.beq_refl k]
theorem ones_nil : ones [] = true := rfl
theorem ones_cons (v : Value) (l : List Value) : ones (v :: l) = (one v && ones l) := rfl
theorem one_int (k : IntKind) (n : Int) : one (.int k n) = true := rfl
theorem one_bool (b : Bool) : one (.bool b) = true := rfl
theorem one_string (s : ByteArray) : one (.string s) = true := rfl
theorem one_ptr (p : Option Addr) : one (.pointer p) = true := rfl
theorem one_slice (p : Option Addr) (n c : Nat) : one (.slice p n c) = true := rfl
theorem one_map (p : Option Nat) : one (.map p) = true := rfl
theorem one_func (f : Fn) (a b : Array Value) : one (.func f a b) = true := rfl
end
attribute [go_sem] ones_nil ones_cons one_int one_bool one_string one_ptr one_slice one_map one_func Bool.and_true PT.putL_cons PT.putL_nil List.set_cons_zero List.set_cons_succ
end Go.Ab
namespace Go.Ab
noncomputable section
theorem abox_agg (h : AH) (t : TypeId) (l : List Value) : abox h t (.agg ⟨l⟩) = some (.pointer (some ⟨h.next, 0, none⟩), h.new (.cells (PT.ofL l) l.length t false)) := abox_ok h rfl
theorem abox_int (h : AH) (t : TypeId) (k : IntKind) (n : Int) : abox h t (.int k n) = some (.pointer (some ⟨h.next, 0, none⟩), h.new (.cells (PT.ofL [.int k n]) 1 t false)) := abox_ok h rfl
theorem abox_bool (h : AH) (t : TypeId) (b : Bool) : abox h t (.bool b) = some (.pointer (some ⟨h.next, 0, none⟩), h.new (.cells (PT.ofL [.bool b]) 1 t false)) := abox_ok h rfl
theorem abox_string (h : AH) (t : TypeId) (b : ByteArray) : abox h t (.string b) = some (.pointer (some ⟨h.next, 0, none⟩), h.new (.cells (PT.ofL [.string b]) 1 t false)) := abox_ok h rfl
theorem abox_ptr (h : AH) (t : TypeId) (p : Option Addr) : abox h t (.pointer p) = some (.pointer (some ⟨h.next, 0, none⟩), h.new (.cells (PT.ofL [.pointer p]) 1 t false)) := abox_ok h rfl
theorem abox_slice (h : AH) (t : TypeId) (p : Option Addr) (n c : Nat) : abox h t (.slice p n c) = some (.pointer (some ⟨h.next, 0, none⟩), h.new (.cells (PT.ofL [.slice p n c]) 1 t false)) := abox_ok h rfl
theorem abox_map (h : AH) (t : TypeId) (p : Option Nat) : abox h t (.map p) = some (.pointer (some ⟨h.next, 0, none⟩), h.new (.cells (PT.ofL [.map p]) 1 t false)) := abox_ok h rfl
theorem abox_func (h : AH) (t : TypeId) (f : Fn) (a b : Array Value) : abox h t (.func f a b) = some (.pointer (some ⟨h.next, 0, none⟩), h.new (.cells (PT.ofL [.func f a b]) 1 t false)) := abox_ok h rfl
end
attribute [go_sem] abox_agg abox_int abox_bool abox_string abox_ptr abox_slice abox_map abox_func
end Go.Ab
namespace Go.Ab
theorem ld_new_at (h : AH) {j : Nat} (hj : j = h.next) (l : List Value) (n e : Nat) (fz : Bool) (i : Nat) : (h.new (.cells (PT.ofL l) n e fz)).ld j i = if i < n then l[i]? else none := by subst hj; exact ld_new_self h l n e fz i
theorem at_new_at (h : AH) {j : Nat} (hj : j = h.next) (o : AObj) : (h.new o).at j = o := by subst hj; exact AH.at_new_self h o
theorem new_set_at (h : AH) {j : Nat} (hj : j = h.next) (o o' : AObj) : (h.new o).set j o' = h.new o' := by subst hj; exact AH.new_set_self h o o'
theorem aputs_new_at {h : AH} {j : Nat} (hj : j = h.next) {l m : List Value} {e : TypeId} {n o : Nat} (hl : o + m.length ≤ n) (hm : ones m = true) : aputs (h.new (.cells (PT.ofL l) n e false)) j o m = some (h.new (.cells ((PT.ofL l).putL o m) n e false)) := by subst hj; exact aputs_new hl hm
/-- A store, each new block passed by. -/
theorem aputs_new_skip {h : AH} {j : Nat} (hj : j < h.next) {o2 : AObj} {o : Nat} {m : List Value} : aputs (h.new o2) j o m = match aputs h j o m with
    | some h' => some (h'.new o2)
    | none => none := by
  unfold aputs
  rw [AH.at_new_lt _ _ hj]
  cases h.at j with
  | cells c n e fz =>
    cases fz with
    | false =>
      dsimp only
      cases Nat.ble (o + m.length) n with
      | false => rfl
      | true =>
        cases ones m with
        | false => rfl
        | true => dsimp only; rw [AH.new_set _ hj]
    | true => rfl
  | _ => rfl
section
variable (n : Nat)
@[go_sem] theorem add_1_1 : n + 1 + 1 = n + 2 := rfl
@[go_sem] theorem add_1_2 : n + 1 + 2 = n + 3 := rfl
@[go_sem] theorem add_1_3 : n + 1 + 3 = n + 4 := rfl
@[go_sem] theorem add_1_4 : n + 1 + 4 = n + 5 := rfl
@[go_sem] theorem add_1_5 : n + 1 + 5 = n + 6 := rfl
@[go_sem] theorem add_1_6 : n + 1 + 6 = n + 7 := rfl
@[go_sem] theorem add_1_7 : n + 1 + 7 = n + 8 := rfl
@[go_sem] theorem add_1_8 : n + 1 + 8 = n + 9 := rfl
@[go_sem] theorem add_1_9 : n + 1 + 9 = n + 10 := rfl
@[go_sem] theorem add_2_1 : n + 2 + 1 = n + 3 := rfl
@[go_sem] theorem add_2_2 : n + 2 + 2 = n + 4 := rfl
@[go_sem] theorem add_2_3 : n + 2 + 3 = n + 5 := rfl
@[go_sem] theorem add_2_4 : n + 2 + 4 = n + 6 := rfl
@[go_sem] theorem add_2_5 : n + 2 + 5 = n + 7 := rfl
@[go_sem] theorem add_2_6 : n + 2 + 6 = n + 8 := rfl
@[go_sem] theorem add_2_7 : n + 2 + 7 = n + 9 := rfl
@[go_sem] theorem add_2_8 : n + 2 + 8 = n + 10 := rfl
@[go_sem] theorem add_2_9 : n + 2 + 9 = n + 11 := rfl
@[go_sem] theorem add_3_1 : n + 3 + 1 = n + 4 := rfl
@[go_sem] theorem add_3_2 : n + 3 + 2 = n + 5 := rfl
@[go_sem] theorem add_3_3 : n + 3 + 3 = n + 6 := rfl
@[go_sem] theorem add_3_4 : n + 3 + 4 = n + 7 := rfl
@[go_sem] theorem add_3_5 : n + 3 + 5 = n + 8 := rfl
@[go_sem] theorem add_3_6 : n + 3 + 6 = n + 9 := rfl
@[go_sem] theorem add_3_7 : n + 3 + 7 = n + 10 := rfl
@[go_sem] theorem add_3_8 : n + 3 + 8 = n + 11 := rfl
@[go_sem] theorem add_3_9 : n + 3 + 9 = n + 12 := rfl
@[go_sem] theorem add_4_1 : n + 4 + 1 = n + 5 := rfl
@[go_sem] theorem add_4_2 : n + 4 + 2 = n + 6 := rfl
@[go_sem] theorem add_4_3 : n + 4 + 3 = n + 7 := rfl
@[go_sem] theorem add_4_4 : n + 4 + 4 = n + 8 := rfl
@[go_sem] theorem add_4_5 : n + 4 + 5 = n + 9 := rfl
@[go_sem] theorem add_4_6 : n + 4 + 6 = n + 10 := rfl
@[go_sem] theorem add_4_7 : n + 4 + 7 = n + 11 := rfl
@[go_sem] theorem add_4_8 : n + 4 + 8 = n + 12 := rfl
@[go_sem] theorem add_4_9 : n + 4 + 9 = n + 13 := rfl
@[go_sem] theorem add_5_1 : n + 5 + 1 = n + 6 := rfl
@[go_sem] theorem add_5_2 : n + 5 + 2 = n + 7 := rfl
@[go_sem] theorem add_5_3 : n + 5 + 3 = n + 8 := rfl
@[go_sem] theorem add_5_4 : n + 5 + 4 = n + 9 := rfl
@[go_sem] theorem add_5_5 : n + 5 + 5 = n + 10 := rfl
@[go_sem] theorem add_5_6 : n + 5 + 6 = n + 11 := rfl
@[go_sem] theorem add_5_7 : n + 5 + 7 = n + 12 := rfl
@[go_sem] theorem add_5_8 : n + 5 + 8 = n + 13 := rfl
@[go_sem] theorem add_5_9 : n + 5 + 9 = n + 14 := rfl
@[go_sem] theorem add_6_1 : n + 6 + 1 = n + 7 := rfl
@[go_sem] theorem add_6_2 : n + 6 + 2 = n + 8 := rfl
@[go_sem] theorem add_6_3 : n + 6 + 3 = n + 9 := rfl
@[go_sem] theorem add_6_4 : n + 6 + 4 = n + 10 := rfl
@[go_sem] theorem add_6_5 : n + 6 + 5 = n + 11 := rfl
@[go_sem] theorem add_6_6 : n + 6 + 6 = n + 12 := rfl
@[go_sem] theorem add_6_7 : n + 6 + 7 = n + 13 := rfl
@[go_sem] theorem add_6_8 : n + 6 + 8 = n + 14 := rfl
@[go_sem] theorem add_6_9 : n + 6 + 9 = n + 15 := rfl
@[go_sem] theorem add_7_1 : n + 7 + 1 = n + 8 := rfl
@[go_sem] theorem add_7_2 : n + 7 + 2 = n + 9 := rfl
@[go_sem] theorem add_7_3 : n + 7 + 3 = n + 10 := rfl
@[go_sem] theorem add_7_4 : n + 7 + 4 = n + 11 := rfl
@[go_sem] theorem add_7_5 : n + 7 + 5 = n + 12 := rfl
@[go_sem] theorem add_7_6 : n + 7 + 6 = n + 13 := rfl
@[go_sem] theorem add_7_7 : n + 7 + 7 = n + 14 := rfl
@[go_sem] theorem add_7_8 : n + 7 + 8 = n + 15 := rfl
@[go_sem] theorem add_7_9 : n + 7 + 9 = n + 16 := rfl
@[go_sem] theorem add_8_1 : n + 8 + 1 = n + 9 := rfl
@[go_sem] theorem add_8_2 : n + 8 + 2 = n + 10 := rfl
@[go_sem] theorem add_8_3 : n + 8 + 3 = n + 11 := rfl
@[go_sem] theorem add_8_4 : n + 8 + 4 = n + 12 := rfl
@[go_sem] theorem add_8_5 : n + 8 + 5 = n + 13 := rfl
@[go_sem] theorem add_8_6 : n + 8 + 6 = n + 14 := rfl
@[go_sem] theorem add_8_7 : n + 8 + 7 = n + 15 := rfl
@[go_sem] theorem add_8_8 : n + 8 + 8 = n + 16 := rfl
@[go_sem] theorem add_8_9 : n + 8 + 9 = n + 17 := rfl
@[go_sem] theorem add_9_1 : n + 9 + 1 = n + 10 := rfl
@[go_sem] theorem add_9_2 : n + 9 + 2 = n + 11 := rfl
@[go_sem] theorem add_9_3 : n + 9 + 3 = n + 12 := rfl
@[go_sem] theorem add_9_4 : n + 9 + 4 = n + 13 := rfl
@[go_sem] theorem add_9_5 : n + 9 + 5 = n + 14 := rfl
@[go_sem] theorem add_9_6 : n + 9 + 6 = n + 15 := rfl
@[go_sem] theorem add_9_7 : n + 9 + 7 = n + 16 := rfl
@[go_sem] theorem add_9_8 : n + 9 + 8 = n + 17 := rfl
@[go_sem] theorem add_9_9 : n + 9 + 9 = n + 18 := rfl
@[go_sem] theorem add_10_1 : n + 10 + 1 = n + 11 := rfl
@[go_sem] theorem add_10_2 : n + 10 + 2 = n + 12 := rfl
@[go_sem] theorem add_10_3 : n + 10 + 3 = n + 13 := rfl
@[go_sem] theorem add_10_4 : n + 10 + 4 = n + 14 := rfl
@[go_sem] theorem add_10_5 : n + 10 + 5 = n + 15 := rfl
@[go_sem] theorem add_10_6 : n + 10 + 6 = n + 16 := rfl
@[go_sem] theorem add_10_7 : n + 10 + 7 = n + 17 := rfl
@[go_sem] theorem add_10_8 : n + 10 + 8 = n + 18 := rfl
@[go_sem] theorem add_10_9 : n + 10 + 9 = n + 19 := rfl
@[go_sem] theorem add_11_1 : n + 11 + 1 = n + 12 := rfl
@[go_sem] theorem add_11_2 : n + 11 + 2 = n + 13 := rfl
@[go_sem] theorem add_11_3 : n + 11 + 3 = n + 14 := rfl
@[go_sem] theorem add_11_4 : n + 11 + 4 = n + 15 := rfl
@[go_sem] theorem add_11_5 : n + 11 + 5 = n + 16 := rfl
@[go_sem] theorem add_11_6 : n + 11 + 6 = n + 17 := rfl
@[go_sem] theorem add_11_7 : n + 11 + 7 = n + 18 := rfl
@[go_sem] theorem add_11_8 : n + 11 + 8 = n + 19 := rfl
@[go_sem] theorem add_11_9 : n + 11 + 9 = n + 20 := rfl
@[go_sem] theorem add_12_1 : n + 12 + 1 = n + 13 := rfl
@[go_sem] theorem add_12_2 : n + 12 + 2 = n + 14 := rfl
@[go_sem] theorem add_12_3 : n + 12 + 3 = n + 15 := rfl
@[go_sem] theorem add_12_4 : n + 12 + 4 = n + 16 := rfl
@[go_sem] theorem add_12_5 : n + 12 + 5 = n + 17 := rfl
@[go_sem] theorem add_12_6 : n + 12 + 6 = n + 18 := rfl
@[go_sem] theorem add_12_7 : n + 12 + 7 = n + 19 := rfl
@[go_sem] theorem add_12_8 : n + 12 + 8 = n + 20 := rfl
@[go_sem] theorem add_12_9 : n + 12 + 9 = n + 21 := rfl
@[go_sem] theorem add_13_1 : n + 13 + 1 = n + 14 := rfl
@[go_sem] theorem add_13_2 : n + 13 + 2 = n + 15 := rfl
@[go_sem] theorem add_13_3 : n + 13 + 3 = n + 16 := rfl
@[go_sem] theorem add_13_4 : n + 13 + 4 = n + 17 := rfl
@[go_sem] theorem add_13_5 : n + 13 + 5 = n + 18 := rfl
@[go_sem] theorem add_13_6 : n + 13 + 6 = n + 19 := rfl
@[go_sem] theorem add_13_7 : n + 13 + 7 = n + 20 := rfl
@[go_sem] theorem add_13_8 : n + 13 + 8 = n + 21 := rfl
@[go_sem] theorem add_13_9 : n + 13 + 9 = n + 22 := rfl
@[go_sem] theorem add_14_1 : n + 14 + 1 = n + 15 := rfl
@[go_sem] theorem add_14_2 : n + 14 + 2 = n + 16 := rfl
@[go_sem] theorem add_14_3 : n + 14 + 3 = n + 17 := rfl
@[go_sem] theorem add_14_4 : n + 14 + 4 = n + 18 := rfl
@[go_sem] theorem add_14_5 : n + 14 + 5 = n + 19 := rfl
@[go_sem] theorem add_14_6 : n + 14 + 6 = n + 20 := rfl
@[go_sem] theorem add_14_7 : n + 14 + 7 = n + 21 := rfl
@[go_sem] theorem add_14_8 : n + 14 + 8 = n + 22 := rfl
@[go_sem] theorem add_14_9 : n + 14 + 9 = n + 23 := rfl
@[go_sem] theorem add_15_1 : n + 15 + 1 = n + 16 := rfl
@[go_sem] theorem add_15_2 : n + 15 + 2 = n + 17 := rfl
@[go_sem] theorem add_15_3 : n + 15 + 3 = n + 18 := rfl
@[go_sem] theorem add_15_4 : n + 15 + 4 = n + 19 := rfl
@[go_sem] theorem add_15_5 : n + 15 + 5 = n + 20 := rfl
@[go_sem] theorem add_15_6 : n + 15 + 6 = n + 21 := rfl
@[go_sem] theorem add_15_7 : n + 15 + 7 = n + 22 := rfl
@[go_sem] theorem add_15_8 : n + 15 + 8 = n + 23 := rfl
@[go_sem] theorem add_15_9 : n + 15 + 9 = n + 24 := rfl
@[go_sem] theorem add_16_1 : n + 16 + 1 = n + 17 := rfl
@[go_sem] theorem add_16_2 : n + 16 + 2 = n + 18 := rfl
@[go_sem] theorem add_16_3 : n + 16 + 3 = n + 19 := rfl
@[go_sem] theorem add_16_4 : n + 16 + 4 = n + 20 := rfl
@[go_sem] theorem add_16_5 : n + 16 + 5 = n + 21 := rfl
@[go_sem] theorem add_16_6 : n + 16 + 6 = n + 22 := rfl
@[go_sem] theorem add_16_7 : n + 16 + 7 = n + 23 := rfl
@[go_sem] theorem add_16_8 : n + 16 + 8 = n + 24 := rfl
@[go_sem] theorem add_16_9 : n + 16 + 9 = n + 25 := rfl
@[go_sem] theorem add_17_1 : n + 17 + 1 = n + 18 := rfl
@[go_sem] theorem add_17_2 : n + 17 + 2 = n + 19 := rfl
@[go_sem] theorem add_17_3 : n + 17 + 3 = n + 20 := rfl
@[go_sem] theorem add_17_4 : n + 17 + 4 = n + 21 := rfl
@[go_sem] theorem add_17_5 : n + 17 + 5 = n + 22 := rfl
@[go_sem] theorem add_17_6 : n + 17 + 6 = n + 23 := rfl
@[go_sem] theorem add_17_7 : n + 17 + 7 = n + 24 := rfl
@[go_sem] theorem add_17_8 : n + 17 + 8 = n + 25 := rfl
@[go_sem] theorem add_17_9 : n + 17 + 9 = n + 26 := rfl
@[go_sem] theorem add_18_1 : n + 18 + 1 = n + 19 := rfl
@[go_sem] theorem add_18_2 : n + 18 + 2 = n + 20 := rfl
@[go_sem] theorem add_18_3 : n + 18 + 3 = n + 21 := rfl
@[go_sem] theorem add_18_4 : n + 18 + 4 = n + 22 := rfl
@[go_sem] theorem add_18_5 : n + 18 + 5 = n + 23 := rfl
@[go_sem] theorem add_18_6 : n + 18 + 6 = n + 24 := rfl
@[go_sem] theorem add_18_7 : n + 18 + 7 = n + 25 := rfl
@[go_sem] theorem add_18_8 : n + 18 + 8 = n + 26 := rfl
@[go_sem] theorem add_18_9 : n + 18 + 9 = n + 27 := rfl
@[go_sem] theorem add_19_1 : n + 19 + 1 = n + 20 := rfl
@[go_sem] theorem add_19_2 : n + 19 + 2 = n + 21 := rfl
@[go_sem] theorem add_19_3 : n + 19 + 3 = n + 22 := rfl
@[go_sem] theorem add_19_4 : n + 19 + 4 = n + 23 := rfl
@[go_sem] theorem add_19_5 : n + 19 + 5 = n + 24 := rfl
@[go_sem] theorem add_19_6 : n + 19 + 6 = n + 25 := rfl
@[go_sem] theorem add_19_7 : n + 19 + 7 = n + 26 := rfl
@[go_sem] theorem add_19_8 : n + 19 + 8 = n + 27 := rfl
@[go_sem] theorem add_19_9 : n + 19 + 9 = n + 28 := rfl
@[go_sem] theorem add_20_1 : n + 20 + 1 = n + 21 := rfl
@[go_sem] theorem add_20_2 : n + 20 + 2 = n + 22 := rfl
@[go_sem] theorem add_20_3 : n + 20 + 3 = n + 23 := rfl
@[go_sem] theorem add_20_4 : n + 20 + 4 = n + 24 := rfl
@[go_sem] theorem add_20_5 : n + 20 + 5 = n + 25 := rfl
@[go_sem] theorem add_20_6 : n + 20 + 6 = n + 26 := rfl
@[go_sem] theorem add_20_7 : n + 20 + 7 = n + 27 := rfl
@[go_sem] theorem add_20_8 : n + 20 + 8 = n + 28 := rfl
@[go_sem] theorem add_20_9 : n + 20 + 9 = n + 29 := rfl
@[go_sem] theorem add_21_1 : n + 21 + 1 = n + 22 := rfl
@[go_sem] theorem add_21_2 : n + 21 + 2 = n + 23 := rfl
@[go_sem] theorem add_21_3 : n + 21 + 3 = n + 24 := rfl
@[go_sem] theorem add_21_4 : n + 21 + 4 = n + 25 := rfl
@[go_sem] theorem add_21_5 : n + 21 + 5 = n + 26 := rfl
@[go_sem] theorem add_21_6 : n + 21 + 6 = n + 27 := rfl
@[go_sem] theorem add_21_7 : n + 21 + 7 = n + 28 := rfl
@[go_sem] theorem add_21_8 : n + 21 + 8 = n + 29 := rfl
@[go_sem] theorem add_21_9 : n + 21 + 9 = n + 30 := rfl
@[go_sem] theorem add_22_1 : n + 22 + 1 = n + 23 := rfl
@[go_sem] theorem add_22_2 : n + 22 + 2 = n + 24 := rfl
@[go_sem] theorem add_22_3 : n + 22 + 3 = n + 25 := rfl
@[go_sem] theorem add_22_4 : n + 22 + 4 = n + 26 := rfl
@[go_sem] theorem add_22_5 : n + 22 + 5 = n + 27 := rfl
@[go_sem] theorem add_22_6 : n + 22 + 6 = n + 28 := rfl
@[go_sem] theorem add_22_7 : n + 22 + 7 = n + 29 := rfl
@[go_sem] theorem add_22_8 : n + 22 + 8 = n + 30 := rfl
@[go_sem] theorem add_22_9 : n + 22 + 9 = n + 31 := rfl
@[go_sem] theorem add_23_1 : n + 23 + 1 = n + 24 := rfl
@[go_sem] theorem add_23_2 : n + 23 + 2 = n + 25 := rfl
@[go_sem] theorem add_23_3 : n + 23 + 3 = n + 26 := rfl
@[go_sem] theorem add_23_4 : n + 23 + 4 = n + 27 := rfl
@[go_sem] theorem add_23_5 : n + 23 + 5 = n + 28 := rfl
@[go_sem] theorem add_23_6 : n + 23 + 6 = n + 29 := rfl
@[go_sem] theorem add_23_7 : n + 23 + 7 = n + 30 := rfl
@[go_sem] theorem add_23_8 : n + 23 + 8 = n + 31 := rfl
@[go_sem] theorem add_23_9 : n + 23 + 9 = n + 32 := rfl
@[go_sem] theorem add_24_1 : n + 24 + 1 = n + 25 := rfl
@[go_sem] theorem add_24_2 : n + 24 + 2 = n + 26 := rfl
@[go_sem] theorem add_24_3 : n + 24 + 3 = n + 27 := rfl
@[go_sem] theorem add_24_4 : n + 24 + 4 = n + 28 := rfl
@[go_sem] theorem add_24_5 : n + 24 + 5 = n + 29 := rfl
@[go_sem] theorem add_24_6 : n + 24 + 6 = n + 30 := rfl
@[go_sem] theorem add_24_7 : n + 24 + 7 = n + 31 := rfl
@[go_sem] theorem add_24_8 : n + 24 + 8 = n + 32 := rfl
@[go_sem] theorem add_24_9 : n + 24 + 9 = n + 33 := rfl
@[go_sem] theorem add_25_1 : n + 25 + 1 = n + 26 := rfl
@[go_sem] theorem add_25_2 : n + 25 + 2 = n + 27 := rfl
@[go_sem] theorem add_25_3 : n + 25 + 3 = n + 28 := rfl
@[go_sem] theorem add_25_4 : n + 25 + 4 = n + 29 := rfl
@[go_sem] theorem add_25_5 : n + 25 + 5 = n + 30 := rfl
@[go_sem] theorem add_25_6 : n + 25 + 6 = n + 31 := rfl
@[go_sem] theorem add_25_7 : n + 25 + 7 = n + 32 := rfl
@[go_sem] theorem add_25_8 : n + 25 + 8 = n + 33 := rfl
@[go_sem] theorem add_25_9 : n + 25 + 9 = n + 34 := rfl
@[go_sem] theorem add_26_1 : n + 26 + 1 = n + 27 := rfl
@[go_sem] theorem add_26_2 : n + 26 + 2 = n + 28 := rfl
@[go_sem] theorem add_26_3 : n + 26 + 3 = n + 29 := rfl
@[go_sem] theorem add_26_4 : n + 26 + 4 = n + 30 := rfl
@[go_sem] theorem add_26_5 : n + 26 + 5 = n + 31 := rfl
@[go_sem] theorem add_26_6 : n + 26 + 6 = n + 32 := rfl
@[go_sem] theorem add_26_7 : n + 26 + 7 = n + 33 := rfl
@[go_sem] theorem add_26_8 : n + 26 + 8 = n + 34 := rfl
@[go_sem] theorem add_26_9 : n + 26 + 9 = n + 35 := rfl
@[go_sem] theorem add_27_1 : n + 27 + 1 = n + 28 := rfl
@[go_sem] theorem add_27_2 : n + 27 + 2 = n + 29 := rfl
@[go_sem] theorem add_27_3 : n + 27 + 3 = n + 30 := rfl
@[go_sem] theorem add_27_4 : n + 27 + 4 = n + 31 := rfl
@[go_sem] theorem add_27_5 : n + 27 + 5 = n + 32 := rfl
@[go_sem] theorem add_27_6 : n + 27 + 6 = n + 33 := rfl
@[go_sem] theorem add_27_7 : n + 27 + 7 = n + 34 := rfl
@[go_sem] theorem add_27_8 : n + 27 + 8 = n + 35 := rfl
@[go_sem] theorem add_27_9 : n + 27 + 9 = n + 36 := rfl
@[go_sem] theorem add_28_1 : n + 28 + 1 = n + 29 := rfl
@[go_sem] theorem add_28_2 : n + 28 + 2 = n + 30 := rfl
@[go_sem] theorem add_28_3 : n + 28 + 3 = n + 31 := rfl
@[go_sem] theorem add_28_4 : n + 28 + 4 = n + 32 := rfl
@[go_sem] theorem add_28_5 : n + 28 + 5 = n + 33 := rfl
@[go_sem] theorem add_28_6 : n + 28 + 6 = n + 34 := rfl
@[go_sem] theorem add_28_7 : n + 28 + 7 = n + 35 := rfl
@[go_sem] theorem add_28_8 : n + 28 + 8 = n + 36 := rfl
@[go_sem] theorem add_28_9 : n + 28 + 9 = n + 37 := rfl
@[go_sem] theorem add_29_1 : n + 29 + 1 = n + 30 := rfl
@[go_sem] theorem add_29_2 : n + 29 + 2 = n + 31 := rfl
@[go_sem] theorem add_29_3 : n + 29 + 3 = n + 32 := rfl
@[go_sem] theorem add_29_4 : n + 29 + 4 = n + 33 := rfl
@[go_sem] theorem add_29_5 : n + 29 + 5 = n + 34 := rfl
@[go_sem] theorem add_29_6 : n + 29 + 6 = n + 35 := rfl
@[go_sem] theorem add_29_7 : n + 29 + 7 = n + 36 := rfl
@[go_sem] theorem add_29_8 : n + 29 + 8 = n + 37 := rfl
@[go_sem] theorem add_29_9 : n + 29 + 9 = n + 38 := rfl
@[go_sem] theorem add_30_1 : n + 30 + 1 = n + 31 := rfl
@[go_sem] theorem add_30_2 : n + 30 + 2 = n + 32 := rfl
@[go_sem] theorem add_30_3 : n + 30 + 3 = n + 33 := rfl
@[go_sem] theorem add_30_4 : n + 30 + 4 = n + 34 := rfl
@[go_sem] theorem add_30_5 : n + 30 + 5 = n + 35 := rfl
@[go_sem] theorem add_30_6 : n + 30 + 6 = n + 36 := rfl
@[go_sem] theorem add_30_7 : n + 30 + 7 = n + 37 := rfl
@[go_sem] theorem add_30_8 : n + 30 + 8 = n + 38 := rfl
@[go_sem] theorem add_30_9 : n + 30 + 9 = n + 39 := rfl
@[go_sem] theorem add_31_1 : n + 31 + 1 = n + 32 := rfl
@[go_sem] theorem add_31_2 : n + 31 + 2 = n + 33 := rfl
@[go_sem] theorem add_31_3 : n + 31 + 3 = n + 34 := rfl
@[go_sem] theorem add_31_4 : n + 31 + 4 = n + 35 := rfl
@[go_sem] theorem add_31_5 : n + 31 + 5 = n + 36 := rfl
@[go_sem] theorem add_31_6 : n + 31 + 6 = n + 37 := rfl
@[go_sem] theorem add_31_7 : n + 31 + 7 = n + 38 := rfl
@[go_sem] theorem add_31_8 : n + 31 + 8 = n + 39 := rfl
@[go_sem] theorem add_31_9 : n + 31 + 9 = n + 40 := rfl
@[go_sem] theorem add_32_1 : n + 32 + 1 = n + 33 := rfl
@[go_sem] theorem add_32_2 : n + 32 + 2 = n + 34 := rfl
@[go_sem] theorem add_32_3 : n + 32 + 3 = n + 35 := rfl
@[go_sem] theorem add_32_4 : n + 32 + 4 = n + 36 := rfl
@[go_sem] theorem add_32_5 : n + 32 + 5 = n + 37 := rfl
@[go_sem] theorem add_32_6 : n + 32 + 6 = n + 38 := rfl
@[go_sem] theorem add_32_7 : n + 32 + 7 = n + 39 := rfl
@[go_sem] theorem add_32_8 : n + 32 + 8 = n + 40 := rfl
@[go_sem] theorem add_32_9 : n + 32 + 9 = n + 41 := rfl
end
attribute [go_sem] ld_new_lt ld_new_at at_new_at new_set_at aputs_new_at aputs_new_skip AH.at_new_lt AH.new_set Nat.lt_add_right_iff_pos Nat.add_lt_add_iff_left
end Go.Ab
namespace Go.Ab
theorem ba_empty : ByteArray.empty.data.toList = [] := rfl
attribute [go_sem] ba_empty beq_self_eq_true
end Go.Ab
