import Derived.Test.YtmdcmnjeonnfiaaGreatDoorAbM
/-! A region of open order runs so. -/
set_option linter.unusedSimpArgs false
set_option linter.unusedVariables false
set_option linter.unusedSectionVars false
namespace Go.Ab
noncomputable section

def bkind : Builtin → Nat
  | .len => 1
  | .cap | .max | .min | .unsafeSliceData => 0
  | _ => 2
/-- What an operation does with the heap: nothing, reads it, changes it. -/
def kind : Op → Nat
  | .move _ | .assign _ | .pick .. | .build .. | .nilCheck _ | .binOp .. | .unOp .. | .makeInterface .. | .makeFunc .. | .fieldAddr .. | .field .. | .indexAddr .. | .index .. | .typeAssert .. | .extract .. | .sliceToArrayPointer .. => 0
  | .load .. | .lookup .. | .entry _ | .slice .. => 1
  | .call c => match c.callee with
    | .builtin b => bkind b
    | _ => 2
  | _ => 2
theorem ofV_val {h : AH} {o : Option Value} {n : AN} (e : ofV h o = some n) : ∃ v, o = some v ∧ n = .val v h := by
  cases o with
  | none => cases e
  | some v => cases e; exact ⟨v, rfl, rfl⟩
theorem ofV_val' {h : AH} {o : Option Value} {n : AN} (e : ofV h o = some n) : ∃ v, n = .val v h := by obtain ⟨v, _, e⟩ := ofV_val e; exact ⟨v, e⟩
theorem some_val {h : AH} {v : Value} {n : AN} (e : some (AN.val v h) = some n) : ∃ v, n = .val v h := by cases e; exact ⟨v, rfl⟩
theorem kind_read {E : Env} {ρ : Operand → Value} {h : AH} {op : Op} {n : AN} (hk : kind op < 2) (ha : aopO E ρ h op = some n) : ∃ v, n = .val v h := by
  cases op <;> dsimp only [aopO] at ha <;> simp only [kind] at hk <;> try (first | exact absurd hk (by decide) | exact ofV_val' ha | exact some_val ha)
  case pick c a b => unfold oPick at ha; split at ha <;> first | exact some_val ha | cases ha
  case nilCheck x => unfold oNilCheck at ha; split at ha <;> first | exact some_val ha | cases ha
  case binOp op t x y p =>
    unfold oBin at ha
    split at ha
    · unfold oInt at ha
      split at ha
      · obtain ⟨v, _, e⟩ := ofV_val ha; exact ⟨v, e⟩
      · obtain ⟨v, _, e⟩ := ofV_val ha; exact ⟨v, e⟩
      · split at ha
        · obtain ⟨v, _, e⟩ := ofV_val ha; exact ⟨v, e⟩
        · cases ha
    · obtain ⟨v, _, e⟩ := ofV_val ha; exact ⟨v, e⟩
    · unfold oNil2 at ha; split at ha <;> first | exact some_val ha | cases ha
    · split at ha
      · unfold oEq at ha; split at ha
        · split at ha
          · cases ha; exact ⟨_, rfl⟩
          · cases ha
        · cases ha
      · unfold oEq at ha; split at ha
        · split at ha
          · cases ha; exact ⟨_, rfl⟩
          · cases ha
        · cases ha
      · cases ha
  case unOp op t x => unfold oUn at ha; split at ha <;> first | exact some_val ha | cases ha
  case makeInterface t x => unfold oIface at ha; split at ha <;> first | exact some_val ha | cases ha
  case entry it =>
    unfold oEntry at ha
    repeat' split at ha
    all_goals first | exact some_val ha | cases ha
  case sliceToArrayPointer t x =>
    unfold oS2ap at ha
    repeat' split at ha
    all_goals first | exact some_val ha | cases ha
  case extract x i =>
    unfold oExtract at ha
    split at ha
    · obtain ⟨v, _, e⟩ := ofV_val ha; exact ⟨v, e⟩
    · cases ha
  case call c =>
    unfold oCall at ha
    obtain ⟨callee, args, tys⟩ := c
    cases callee with
    | builtin b =>
      dsimp only at ha hk
      unfold abuiltin at ha
      split at ha
      all_goals first
        | (exact absurd hk (by decide))
        | exact ofV_val' ha
        | (unfold oSliceData at ha; split at ha <;> first | exact some_val ha | cases ha)
        | cases ha
    | value f => exact absurd (show 2 < 2 from hk) (by decide)
    | invoke r m => exact absurd (show 2 < 2 from hk) (by decide)
/-- The same, over another heap. -/
def reH (h2 : AH) : AN → AN
  | .val v _ => .val v h2
  | n => n
theorem ofV_re (h h2 : AH) (o : Option Value) : ofV h2 o = (ofV h o).map (reH h2) := by cases o <;> rfl
theorem oPick_re (c a b : Value) (h h2 : AH) : oPick c a b h2 = (oPick c a b h).map (reH h2) := by
  cases c <;> try rfl
  rename_i b; cases b <;> rfl
theorem oNilCheck_re (x : Value) (h h2 : AH) : oNilCheck x h2 = (oNilCheck x h).map (reH h2) := by
  unfold oNilCheck; split <;> rfl
theorem oUn_re (op : UnOp) (x : Value) (h h2 : AH) : oUn op x h2 = (oUn op x h).map (reH h2) := by
  unfold oUn; split <;> rfl
theorem oIface_re (E : Env) (t : TypeId) (x : Value) (h h2 : AH) : oIface E t x h2 = (oIface E t x h).map (reH h2) := by
  unfold oIface; split <;> rfl
theorem oS2ap_re (E : Env) (t : TypeId) (x : Value) (h h2 : AH) : oS2ap E t x h2 = (oS2ap E t x h).map (reH h2) := by
  unfold oS2ap; split
  · split <;> rfl
  · rfl
theorem oExtract_re (x : Value) (i : Nat) (h h2 : AH) : oExtract x i h2 = (oExtract x i h).map (reH h2) := by
  unfold oExtract; split
  · exact ofV_re _ _ _
  · rfl
theorem oSliceData_re (x : Value) (h h2 : AH) : oSliceData x h2 = (oSliceData x h).map (reH h2) := by
  unfold oSliceData; split <;> rfl
theorem oEq_re (E : Env) (neg : Bool) (t : TypeId) (a b : Value) (h h2 : AH) : oEq E neg t a b h2 = (oEq E neg t a b h).map (reH h2) := by
  unfold oEq; split
  · split <;> rfl
  · rfl
theorem oNil2_re (E : Env) (op : BinOp) (t : TypeId) (c : Bool) (h h2 : AH) : oNil2 E op t c h2 = (oNil2 E op t c h).map (reH h2) := by
  unfold oNil2; split <;> rfl
theorem oInt_re (op : BinOp) (k k' : IntKind) (a b : Int) (h h2 : AH) : oInt op k k' a b h2 = (oInt op k k' a b h).map (reH h2) := by
  unfold oInt; split
  · exact ofV_re _ _ _
  · exact ofV_re _ _ _
  · split
    · exact ofV_re _ _ _
    · rfl
theorem oBin_re (E : Env) (op : BinOp) (t : TypeId) (c : Bool) (x y : Value) (h h2 : AH) : oBin E op t c x y h2 = (oBin E op t c x y h).map (reH h2) := by
  unfold oBin; split
  · exact oInt_re _ _ _ _ _ _ _
  · exact ofV_re _ _ _
  · exact oNil2_re _ _ _ _ _ _
  · split
    · exact oEq_re _ _ _ _ _ _ _
    · exact oEq_re _ _ _ _ _ _ _
    · rfl
theorem abuiltin_re (E : Env) (b : Builtin) (hb : bkind b = 0) (ty : List TypeId) (args : List Value) (h h2 : AH) : abuiltin E h2 b ty args = (abuiltin E h b ty args).map (reH h2) := by
  unfold abuiltin
  cases b <;> first | exact absurd hb (by decide) | skip
  case cap => split <;> first | exact ofV_re _ _ _ | rfl | contradiction
  case max => split <;> first | exact ofV_re _ _ _ | rfl | contradiction
  case min => split <;> first | exact ofV_re _ _ _ | rfl | contradiction
  case unsafeSliceData => split <;> first | exact oSliceData_re _ _ _ | rfl | contradiction
theorem kind_re {E : Env} {ρ : Operand → Value} {op : Op} (hk : kind op = 0) (h h2 : AH) : aopO E ρ h2 op = (aopO E ρ h op).map (reH h2) := by
  cases op <;> dsimp only [aopO] <;> simp only [kind] at hk <;> try (first | exact absurd hk (by decide) | exact ofV_re _ _ _ | rfl)
  case pick => exact oPick_re _ _ _ _ _
  case nilCheck => exact oNilCheck_re _ _ _
  case binOp => exact oBin_re _ _ _ _ _ _ _ _
  case unOp => exact oUn_re _ _ _ _
  case makeInterface => exact oIface_re _ _ _ _ _
  case sliceToArrayPointer => exact oS2ap_re _ _ _ _ _
  case extract => exact oExtract_re _ _ _ _
  case call c =>
    obtain ⟨callee, args, tys⟩ := c
    cases callee with
    | builtin b => exact abuiltin_re E b hk _ _ h h2
    | value f => exact absurd (show 2 = 0 from hk) (by decide)
    | invoke r m => exact absurd (show 2 = 0 from hk) (by decide)
theorem kind_pure {E : Env} {ρ : Operand → Value} {h h1 h2 : AH} {op : Op} {v : Value} (hk : kind op = 0) (ha : aopO E ρ h op = some (.val v h1)) : aopO E ρ h2 op = some (.val v h2) := by
  rw [kind_re hk h h2, ha]; rfl

/-! ### What the text says of a region -/
def bindsA (e : Edge) : Bool := Region.binds .any e
/-- All that comes before each operation, in bits. -/
def masks : List Oper → List Nat → List Nat
  | [], acc => acc
  | o :: r, acc => masks r (acc ++ [o.after.toList.foldl (fun m e => match bindsA e with
    | true => m ||| (1 <<< e.on) ||| acc.getD e.on 0
    | false => m) 0])
def depsOk (B : List Nat) (j : Nat) (o : Oper) : Bool :=
  o.after.toList.all (fun e => !bindsA e || decide (e.on < j))
/-- The bits of operation j come from its edges alone. -/
def maskOk (B : List Nat) (j : Nat) (o : Oper) : Bool :=
  Nat.beq (B.getD j 0) (o.after.toList.foldl (fun m e => match bindsA e with
    | true => m ||| (1 <<< e.on) ||| B.getD e.on 0
    | false => m) 0)
def memT (d : Tmp) (l : List Tmp) : Bool := l.any (Nat.beq d)
def pairOk (ops : Array Oper) (B : List Nat) (pairs : List (Nat × Nat)) (i j : Nat) (oi oj : Oper) : Bool :=
  let ord := (B.getD j 0).testBit i
  (match oi.dst with
    | some d => (match oj.dst with | some d' => !Nat.beq d d' | none => true) && (!memT d (oj.looksAt ops) || ord)
    | none => true) &&
  (match oj.dst with
    | some d => !memT d (oi.looksAt ops) || ord
    | none => true) &&
  (!(kind oi.op == 2 && kind oj.op == 2) || ord) &&
  (!(kind oi.op == 1 && kind oj.op == 2) || ord || pairs.contains (i, j)) &&
  (!(kind oi.op == 2 && kind oj.op == 1) || ord || pairs.contains (j, i))
def allPairs (ops : Array Oper) (B : List Nat) (pairs : List (Nat × Nat)) (j : Nat) (oj : Oper) : List Oper → Nat → Bool
  | [], _ => true
  | oi :: r, i => match Nat.blt i j with
    | true => pairOk ops B pairs i j oi oj && allPairs ops B pairs j oj r (i + 1)
    | false => true
def allOps (ops : Array Oper) (B : List Nat) (pairs : List (Nat × Nat)) (l : List Oper) : List Oper → Nat → Bool
  | [], _ => true
  | o :: r, j => depsOk B j o && maskOk B j o && allPairs ops B pairs j o l 0 && allOps ops B pairs l r (j + 1)
def drawOk (ops : Array Oper) (pairs : List (Nat × Nat)) : Bool := 
  allOps ops (masks ops.toList []) pairs ops.toList ops.toList 0 && pairs.all (fun p => Nat.blt p.1 ops.size && Nat.blt p.2 ops.size)

structure DrawOk (ops : Array Oper) (pairs : List (Nat × Nat)) (B : Nat → Nat) : Prop where
  deps : ∀ j o, ops[j]? = some o → ∀ e ∈ o.after.toList, bindsA e = true → e.on < j
  mask : ∀ j o, ops[j]? = some o → ∀ i, (B j).testBit i = true → ∃ e ∈ o.after.toList, bindsA e = true ∧ (i = e.on ∨ (B e.on).testBit i = true)
  pair : ∀ i j oi oj, i < j → ops[i]? = some oi → ops[j]? = some oj →
    (∀ d, oi.dst = some d → oj.dst ≠ some d) ∧ (∀ d, oi.dst = some d → d ∈ oj.looksAt ops → (B j).testBit i = true) ∧ (∀ d, oj.dst = some d → d ∈ oi.looksAt ops → (B j).testBit i = true) ∧
    (kind oi.op = 2 → kind oj.op = 2 → (B j).testBit i = true) ∧ (kind oi.op = 1 → kind oj.op = 2 → (B j).testBit i = true ∨ (i, j) ∈ pairs) ∧ (kind oi.op = 2 → kind oj.op = 1 → (B j).testBit i = true ∨ (j, i) ∈ pairs)
  inside : ∀ p ∈ pairs, p.1 < ops.size ∧ p.2 < ops.size

theorem mask_fold (B : List Nat) : ∀ (l : List Edge) (m i : Nat), (l.foldl (fun m e => match bindsA e with
    | true => m ||| (1 <<< e.on) ||| B.getD e.on 0
    | false => m) m).testBit i = true → m.testBit i = true ∨ ∃ e ∈ l, bindsA e = true ∧ (i = e.on ∨ (B.getD e.on 0).testBit i = true)
  | [], m, i, h => .inl h
  | e :: r, m, i, h => by
    rw [List.foldl_cons] at h
    rcases mask_fold B r _ i h with h1 | ⟨e', h1, h2, h3⟩
    · split at h1
      · rename_i hb
        rw [Nat.testBit_or, Nat.testBit_or, Bool.or_eq_true, Bool.or_eq_true] at h1
        rcases h1 with (h1 | h1) | h1
        · exact .inl h1
        · refine .inr ⟨e, by simp, hb, .inl ?_⟩
          rw [Nat.testBit_shiftLeft] at h1
          simp only [Bool.and_eq_true, decide_eq_true_eq] at h1
          have h2 := h1.2
          rw [Nat.testBit_one_eq_true_iff_self_eq_zero] at h2
          omega
        · exact .inr ⟨e, by simp, hb, .inr h1⟩
      · exact .inl h1
    · exact .inr ⟨e', by simp [h1], h2, h3⟩
theorem memT_of {d : Tmp} {l : List Tmp} (h : d ∈ l) : memT d l = true := List.any_eq_true.2 ⟨d, h, Nat.beq_refl d⟩
theorem allPairs_at {ops : Array Oper} {B : List Nat} {pairs : List (Nat × Nat)} {j : Nat} {oj : Oper} : ∀ (l : List Oper) (i : Nat), allPairs ops B pairs j oj l i = true → ∀ k oi, l[k]? = some oi → i + k < j → pairOk ops B pairs (i + k) j oi oj = true
  | [], _, _, k, oi, h, _ => by simp at h
  | o :: r, i, h, k, oi, hk, hl => by
    rw [allPairs] at h
    split at h
    · rw [Bool.and_eq_true] at h
      cases k with
      | zero => simp at hk; subst hk; exact h.1
      | succ k => rw [show i + (k + 1) = i + 1 + k from by omega]; exact allPairs_at r (i + 1) h.2 k oi (by simpa using hk) (by omega)
    · rename_i hf
      have : Nat.blt i j = true := Nat.ble_eq_true_of_le (by omega)
      rw [this] at hf; cases hf
theorem allOps_at {ops : Array Oper} {B : List Nat} {pairs : List (Nat × Nat)} {l : List Oper} : ∀ (r : List Oper) (j : Nat), allOps ops B pairs l r j = true → ∀ k o, r[k]? = some o → depsOk B (j + k) o = true ∧ maskOk B (j + k) o = true ∧ allPairs ops B pairs (j + k) o l 0 = true
  | [], _, _, k, oi, h => by simp at h
  | o :: r, j, h, k, oi, hk => by
    rw [allOps] at h
    simp only [Bool.and_eq_true] at h
    cases k with
    | zero => simp at hk; subst hk; exact ⟨h.1.1.1, h.1.1.2, h.1.2⟩
    | succ k => rw [show j + (k + 1) = j + 1 + k from by omega]; exact allOps_at r (j + 1) h.2 k oi (by simpa using hk)
theorem drawOk_ok {ops : Array Oper} {pairs : List (Nat × Nat)} (h : drawOk ops pairs = true) : ∃ B, DrawOk ops pairs B := by
  unfold drawOk at h
  rw [Bool.and_eq_true] at h
  refine ⟨fun j => (masks ops.toList []).getD j 0, ?_, ?_, ?_, ?_⟩
  · intro j o ho e he hb
    have := (allOps_at ops.toList 0 h.1 j o (by simpa using ho)).1
    rw [Nat.zero_add] at this
    have := List.all_eq_true.1 this e he
    simpa [hb] using this
  · intro j o ho i hi
    have := (allOps_at ops.toList 0 h.1 j o (by simpa using ho)).2.1
    rw [Nat.zero_add] at this
    unfold maskOk at this
    have := Nat.eq_of_beq_eq_true this
    rw [this] at hi
    rcases mask_fold _ _ _ _ hi with h1 | h1
    · simp at h1
    · exact h1
  · intro i j oi oj hij hi hj
    have := (allOps_at ops.toList 0 h.1 j oj (by simpa using hj)).2.2
    rw [Nat.zero_add] at this
    have := allPairs_at ops.toList 0 this i oi (by simpa using hi) (by omega)
    rw [Nat.zero_add] at this
    unfold pairOk at this
    simp only [Bool.and_eq_true] at this
    obtain ⟨⟨⟨⟨p1, p2⟩, p3⟩, p4⟩, p5⟩ := this
    refine ⟨?_, ?_, ?_, ?_, ?_, ?_⟩
    · intro d hd hd'
      rw [hd, hd'] at p1
      simp at p1
    · intro d hd hm
      rw [hd] at p1
      have := memT_of hm
      simp [this] at p1
      exact p1.2
    · intro d hd hm
      rw [hd] at p2
      have := memT_of hm
      simpa [this] using p2
    · intro k1 k2
      simpa [k1, k2] using p3
    · intro k1 k2
      simpa [k1, k2] using p4
    · intro k1 k2
      simpa [k1, k2] using p5
  · intro p hp
    have := List.all_eq_true.1 h.2 p hp
    rw [Bool.and_eq_true] at this
    exact ⟨Nat.le_of_ble_eq_true this.1, Nat.le_of_ble_eq_true this.2⟩
end
end Go.Ab
