import Derived.Test.YtmdcmnjeonnfiaaGreatDoorAbU
/-! Heaps in a normal form; what an operation comes to, as rules of rewriting. -/
set_option linter.unusedSimpArgs false
set_option linter.unusedVariables false
set_option linter.unusedSectionVars false
namespace Go.Ab
noncomputable section

/-! ### Tries: the order of two puts -/
theorem PT.sng_fuel {α : Type} (v : α) : ∀ (n m k : Nat), k < n → k < m → PT.sng v n k = PT.sng v m k := by
  intro n
  induction n with
  | zero => intro m k h; omega
  | succ n ih =>
    intro m k h1 h2
    cases m with
    | zero => omega
    | succ m =>
      cases k with
      | zero => rfl
      | succ k =>
        show (Bool.rec (.node .leaf none (PT.sng v n (k / 2))) (.node (PT.sng v n (k / 2)) none .leaf) (Nat.beq (k % 2) 0) : PT α) = (Bool.rec (.node .leaf none (PT.sng v m (k / 2))) (.node (PT.sng v m (k / 2)) none .leaf) (Nat.beq (k % 2) 0) : PT α)
        rw [ih m (k / 2) (by omega) (by omega)]
theorem PT.leaf_zero {α : Type} (v : α) : (PT.leaf : PT α).put 0 v = .node .leaf (some v) .leaf := rfl
theorem PT.leaf_even {α : Type} (v : α) {k : Nat} (h : k % 2 = 0) : (PT.leaf : PT α).put (k + 1) v = .node (PT.leaf.put (k / 2) v) none .leaf := by
  show (Bool.rec (.node .leaf none (PT.sng v (k + 1) (k / 2))) (.node (PT.sng v (k + 1) (k / 2)) none .leaf) (Nat.beq (k % 2) 0) : PT α) = .node (PT.sng v (k / 2 + 1) (k / 2)) none .leaf
  rw [h, PT.sng_fuel v (k + 1) (k / 2 + 1) (k / 2) (by omega) (by omega)]; rfl
theorem PT.leaf_odd {α : Type} (v : α) {k : Nat} (h : k % 2 = 1) : (PT.leaf : PT α).put (k + 1) v = .node .leaf none (PT.leaf.put (k / 2) v) := by
  show (Bool.rec (.node .leaf none (PT.sng v (k + 1) (k / 2))) (.node (PT.sng v (k + 1) (k / 2)) none .leaf) (Nat.beq (k % 2) 0) : PT α) = .node .leaf none (PT.sng v (k / 2 + 1) (k / 2))
  rw [h, PT.sng_fuel v (k + 1) (k / 2 + 1) (k / 2) (by omega) (by omega)]; rfl
theorem PT.node_zero {α : Type} (l : PT α) (x : Option α) (r : PT α) (v : α) : (PT.node l x r).put 0 v = .node l (some v) r := rfl
theorem PT.node_even {α : Type} (l : PT α) (x : Option α) (r : PT α) (v : α) {k : Nat} (h : k % 2 = 0) : (PT.node l x r).put (k + 1) v = .node (l.put (k / 2) v) x r := by
  show (Bool.rec (.node l x (r.put (k / 2) v)) (.node (l.put (k / 2) v) x r) (Nat.beq (k % 2) 0) : PT α) = _
  rw [h]; rfl
theorem PT.node_odd {α : Type} (l : PT α) (x : Option α) (r : PT α) (v : α) {k : Nat} (h : k % 2 = 1) : (PT.node l x r).put (k + 1) v = .node l x (r.put (k / 2) v) := by
  show (Bool.rec (.node l x (r.put (k / 2) v)) (.node (l.put (k / 2) v) x r) (Nat.beq (k % 2) 0) : PT α) = _
  rw [h]; rfl
theorem par (k : Nat) : k % 2 = 0 ∨ k % 2 = 1 := by omega
theorem PT.leaf_comm {α : Type} (v w : α) : ∀ (n i j : Nat), i + j < n → i ≠ j → ((PT.leaf : PT α).put i v).put j w = (PT.leaf.put j w).put i v := by
  intro n
  induction n with
  | zero => intro i j h; omega
  | succ n ih =>
    intro i j h hne
    cases i with
    | zero =>
      cases j with
      | zero => omega
      | succ j =>
        rcases par j with e | e
        · rw [PT.leaf_zero, PT.node_even _ _ _ _ e, PT.leaf_even _ e, PT.node_zero]
        · rw [PT.leaf_zero, PT.node_odd _ _ _ _ e, PT.leaf_odd _ e, PT.node_zero]
    | succ i =>
      cases j with
      | zero =>
        rcases par i with e | e
        · rw [PT.leaf_zero, PT.node_even _ _ _ _ e, PT.leaf_even _ e, PT.node_zero]
        · rw [PT.leaf_zero, PT.node_odd _ _ _ _ e, PT.leaf_odd _ e, PT.node_zero]
      | succ j =>
        rcases par i with e | e <;> rcases par j with f | f
        · rw [PT.leaf_even _ e, PT.node_even _ _ _ _ f, PT.leaf_even _ f, PT.node_even _ _ _ _ e, ih (i / 2) (j / 2) (by omega) (by omega)]
        · rw [PT.leaf_even _ e, PT.node_odd _ _ _ _ f, PT.leaf_odd _ f, PT.node_even _ _ _ _ e]
        · rw [PT.leaf_odd _ e, PT.node_even _ _ _ _ f, PT.leaf_even _ f, PT.node_odd _ _ _ _ e]
        · rw [PT.leaf_odd _ e, PT.node_odd _ _ _ _ f, PT.leaf_odd _ f, PT.node_odd _ _ _ _ e, ih (i / 2) (j / 2) (by omega) (by omega)]
theorem PT.put_comm {α : Type} (v w : α) : ∀ (t : PT α) (i j : Nat), i ≠ j → (t.put i v).put j w = (t.put j w).put i v := by
  intro t
  induction t with
  | leaf => intro i j h; exact PT.leaf_comm v w (i + j + 1) i j (by omega) h
  | node l x r ihl ihr =>
    intro i j hne
    cases i with
    | zero =>
      cases j with
      | zero => omega
      | succ j =>
        rcases par j with e | e
        · rw [PT.node_zero, PT.node_even _ _ _ _ e, PT.node_even _ _ _ _ e, PT.node_zero]
        · rw [PT.node_zero, PT.node_odd _ _ _ _ e, PT.node_odd _ _ _ _ e, PT.node_zero]
    | succ i =>
      cases j with
      | zero =>
        rcases par i with e | e
        · rw [PT.node_zero, PT.node_even _ _ _ _ e, PT.node_even _ _ _ _ e, PT.node_zero]
        · rw [PT.node_zero, PT.node_odd _ _ _ _ e, PT.node_odd _ _ _ _ e, PT.node_zero]
      | succ j =>
        rcases par i with e | e <;> rcases par j with f | f
        · rw [PT.node_even _ _ _ _ e, PT.node_even _ _ _ _ f, PT.node_even _ _ _ _ f, PT.node_even _ _ _ _ e, ihl (i / 2) (j / 2) (by omega)]
        · rw [PT.node_even _ _ _ _ e, PT.node_odd _ _ _ _ f, PT.node_odd _ _ _ _ f, PT.node_even _ _ _ _ e]
        · rw [PT.node_odd _ _ _ _ e, PT.node_even _ _ _ _ f, PT.node_even _ _ _ _ f, PT.node_odd _ _ _ _ e]
        · rw [PT.node_odd _ _ _ _ e, PT.node_odd _ _ _ _ f, PT.node_odd _ _ _ _ f, PT.node_odd _ _ _ _ e, ihr (i / 2) (j / 2) (by omega)]
theorem PT.leaf_same {α : Type} (v w : α) : ∀ (n i : Nat), i < n → ((PT.leaf : PT α).put i v).put i w = PT.leaf.put i w := by
  intro n
  induction n with
  | zero => intro i h; omega
  | succ n ih =>
    intro i h
    cases i with
    | zero => rfl
    | succ i =>
      rcases par i with e | e
      · rw [PT.leaf_even _ e, PT.node_even _ _ _ _ e, PT.leaf_even _ e, ih (i / 2) (by omega)]
      · rw [PT.leaf_odd _ e, PT.node_odd _ _ _ _ e, PT.leaf_odd _ e, ih (i / 2) (by omega)]
theorem PT.put_same {α : Type} (v w : α) : ∀ (t : PT α) (i : Nat), (t.put i v).put i w = t.put i w := by
  intro t
  induction t with
  | leaf => intro i; exact PT.leaf_same v w (i + 1) i (by omega)
  | node l x r ihl ihr =>
    intro i
    cases i with
    | zero => rfl
    | succ i =>
      rcases par i with e | e
      · rw [PT.node_even _ _ _ _ e, PT.node_even _ _ _ _ e, PT.node_even _ _ _ _ e, ihl]
      · rw [PT.node_odd _ _ _ _ e, PT.node_odd _ _ _ _ e, PT.node_odd _ _ _ _ e, ihr]
theorem PT.putL_nil {α : Type} (t : PT α) (k : Nat) : t.putL k [] = t := rfl
theorem PT.putL_cons {α : Type} (t : PT α) (k : Nat) (v : α) (l : List α) : t.putL k (v :: l) = (t.put k v).putL (k + 1) l := rfl
theorem PT.putL_comm {α : Type} (w : α) : ∀ (l : List α) (t : PT α) (k j : Nat), j < k ∨ k + l.length ≤ j → (t.putL k l).put j w = (t.put j w).putL k l
  | [], t, k, j, h => rfl
  | v :: l, t, k, j, h => by
    simp only [List.length_cons] at h
    rw [PT.putL_cons, PT.putL_cons, PT.putL_comm w l _ (k + 1) j (by omega), PT.put_comm _ _ _ _ _ (by omega)]
theorem PT.putL_put {α : Type} (w : α) : ∀ (l : List α) (t : PT α) (k i : Nat), i < l.length → (t.putL k l).put (k + i) w = t.putL k (l.set i w)
  | [], t, k, i, h => by simp at h
  | v :: l, t, k, i, h => by
    cases i with
    | zero => rw [List.set_cons_zero, Nat.add_zero, PT.putL_cons, PT.putL_cons, PT.putL_comm w l _ (k + 1) k (by omega), PT.put_same]
    | succ i =>
      rw [List.set_cons_succ, PT.putL_cons, PT.putL_cons, show k + (i + 1) = (k + 1) + i from by omega, PT.putL_put w l _ (k + 1) i (by simpa using h)]
theorem PT.ofL_put {α : Type} (w : α) (l : List α) (i : Nat) (h : i < l.length) : (PT.ofL l).put i w = PT.ofL (l.set i w) := by
  have := PT.putL_put w l .leaf 0 i h
  rwa [Nat.zero_add] at this
theorem PT.putL_app {α : Type} : ∀ (l m : List α) (t : PT α) (k : Nat), (t.putL k l).putL (k + l.length) m = t.putL k (l ++ m)
  | [], m, t, k => rfl
  | v :: l, m, t, k => by
    rw [PT.putL_cons, List.cons_append, PT.putL_cons, ← PT.putL_app l m _ (k + 1), List.length_cons]
    congr 1; omega
theorem PT.ofL_app {α : Type} (l m : List α) : (PT.ofL l).putL l.length m = PT.ofL (l ++ m) := by
  have := PT.putL_app l m .leaf 0
  rwa [Nat.zero_add] at this
theorem PT.ofL_app' {α : Type} (l m : List α) {n : Nat} (h : n = l.length) : (PT.ofL l).putL n m = PT.ofL (l ++ m) := by subst h; exact PT.ofL_app l m

/-! ### Heaps -/
theorem AH.next_new (h : AH) (o : AObj) : (h.new o).next = h.next + 1 := rfl
theorem AH.next_set (h : AH) (i : Nat) (o : AObj) : (h.set i o).next = h.next := rfl
theorem AH.set_set (h : AH) (i : Nat) (o o' : AObj) : (h.set i o).set i o' = h.set i o' := by
  simp only [AH.set, PT.put_same]
theorem AH.set_comm (h : AH) {i j : Nat} (hne : i ≠ j) (o o' : AObj) : (h.set i o).set j o' = (h.set j o').set i o := by
  simp only [AH.set, PT.put_comm _ _ _ _ _ hne]
theorem AH.new_set_self (h : AH) (o o' : AObj) : (h.new o).set h.next o' = h.new o' := by
  simp only [AH.set, AH.new, PT.put_same]
theorem AH.new_set (h : AH) {j : Nat} (hj : j < h.next) (o o' : AObj) : (h.new o).set j o' = (h.set j o').new o := by
  simp only [AH.set, AH.new, PT.put_comm _ _ _ _ _ (show h.next ≠ j by omega)]
theorem AH.at_new_self (h : AH) (o : AObj) : (h.new o).at h.next = o := by rw [AH.at_new, if_pos rfl]
theorem AH.at_new_lt (h : AH) (o : AObj) {j : Nat} (hj : j < h.next) : (h.new o).at j = h.at j := by rw [AH.at_new, if_neg (by omega)]
theorem AH.at_set_self (h : AH) (i : Nat) (o : AObj) : (h.set i o).at i = o := by rw [AH.at_set, if_pos rfl]
theorem AH.at_set_ne (h : AH) {i j : Nat} (hne : j ≠ i) (o : AObj) : (h.set i o).at j = h.at j := by rw [AH.at_set, if_neg hne]
theorem AH.lt_new {h : AH} {j : Nat} (o : AObj) (hj : j < h.next) : j < (h.new o).next := Nat.lt_succ_of_lt hj

/-- The cell at a place. -/
def AObj.cell (o : AObj) (i : Nat) : Option Value := match o with
  | .cells c n _ _ => if i < n then c.get i else none
  | _ => none
def AObj.el? : AObj → Option TypeId
  | .cells _ _ e _ => some e
  | _ => none
def AH.ld (h : AH) (b o : Nat) : Option Value := (h.at b).cell o
theorem AObj.cell_cells (c : PT Value) (n : Nat) (e : TypeId) (fz : Bool) (i : Nat) : (AObj.cells c n e fz).cell i = if i < n then c.get i else none := rfl
theorem Keep.ld {h h' : AH} (k : Keep h h') {b o : Nat} (hb : b < h.next) : h'.ld b o = h.ld b o := by unfold AH.ld; rw [k.at_ b hb]

def ldL (h : AH) (b : Nat) : Nat → Nat → Option (List Value)
  | _, 0 => some []
  | o, k + 1 => match h.ld b o with
    | some v => match ldL h b (o + 1) k with
      | some l => some (v :: l)
      | none => none
    | none => none
theorem aload_one {T : Tbl} {t : TypeId} {k : Nat} (hl : T.lay.get t = some (false, k)) (h : AH) (b o : Nat) : aload T h t (.pointer (some ⟨b, o, none⟩)) = h.ld b o := by
  unfold aload AH.ld
  dsimp only
  cases hb : h.at b with
  | cells c n e fz =>
    simp only [hl, AObj.cell]
    by_cases hlt : o < n
    · have : Nat.blt o n = true := by simpa [Nat.blt_eq] using hlt
      rw [this, if_pos hlt]
    · have : Nat.blt o n = false := by
        cases hq : Nat.blt o n with
        | false => rfl
        | true => exact absurd (by simpa [Nat.blt_eq] using hq) hlt
      rw [this, if_neg hlt]
  | _ => rfl
theorem ldL_take {h : AH} {b : Nat} {c : PT Value} {n : Nat} {e : TypeId} {fz : Bool} (hb : h.at b = .cells c n e fz) : ∀ (k o : Nat), o + k ≤ n → ldL h b o k = c.takeL o k
  | 0, o, _ => rfl
  | k + 1, o, hk => by
    rw [ldL, PT.takeL_succ, AH.ld, hb, AObj.cell, if_pos (by omega), ldL_take hb k (o + 1) (by omega)]
    cases c.get o with
    | none => rfl
    | some v => cases c.takeL (o + 1) k <;> rfl
theorem ldL_over {h : AH} {b : Nat} {c : PT Value} {n : Nat} {e : TypeId} {fz : Bool} (hb : h.at b = .cells c n e fz) : ∀ (k o : Nat), n < o + (k + 1) → ldL h b o (k + 1) = none
  | 0, o, hk => by rw [ldL, AH.ld, hb, AObj.cell, if_neg (by omega)]
  | k + 1, o, hk => by
    rw [ldL, ldL_over hb k (o + 1) (by omega)]
    cases h.ld b o <;> rfl
theorem aload_agg {T : Tbl} {t : TypeId} {k : Nat} (hl : T.lay.get t = some (true, k + 1)) (h : AH) (b o : Nat) : aload T h t (.pointer (some ⟨b, o, none⟩)) = match ldL h b o (k + 1) with
    | some l => some (.agg ⟨l⟩)
    | none => none := by
  unfold aload
  dsimp only
  cases hb : h.at b with
  | cells c n e fz =>
    simp only [hl]
    by_cases hle : o + (k + 1) ≤ n
    · rw [show Nat.ble (o + (k + 1)) n = true from Nat.ble_eq_true_of_le hle, ldL_take hb (k + 1) o hle]; rfl
    · have : Nat.ble (o + (k + 1)) n = false := by
        cases hq : Nat.ble (o + (k + 1)) n with
        | false => rfl
        | true => exact absurd (Nat.le_of_ble_eq_true hq) hle
      rw [this, ldL_over hb k o (by omega)]
  | _ => rw [ldL, AH.ld, hb]; rfl

theorem ld_new_self (h : AH) (l : List Value) (n e : Nat) (fz : Bool) (i : Nat) : (h.new (.cells (PT.ofL l) n e fz)).ld h.next i = if i < n then l[i]? else none := by
  rw [AH.ld, AH.at_new_self, AObj.cell, PT.get_ofL]
theorem ld_new_lt (h : AH) (o : AObj) {j : Nat} (hj : j < h.next) (i : Nat) : (h.new o).ld j i = h.ld j i := by
  rw [AH.ld, AH.at_new_lt _ _ hj]; rfl
theorem ld_set_ne (h : AH) {i j : Nat} (hne : j ≠ i) (o : AObj) (k : Nat) : (h.set i o).ld j k = h.ld j k := by
  rw [AH.ld, AH.at_set_ne _ hne]; rfl
theorem ld_set_self (h : AH) (i : Nat) (o : AObj) (k : Nat) : (h.set i o).ld i k = o.cell k := by
  rw [AH.ld, AH.at_set_self]

theorem aputs_new {h : AH} {l m : List Value} {e : TypeId} {n o : Nat} (hl : o + m.length ≤ n) (hm : ones m = true) : aputs (h.new (.cells (PT.ofL l) n e false)) h.next o m = some (h.new (.cells ((PT.ofL l).putL o m) n e false)) := by
  unfold aputs
  rw [AH.at_new_self]
  simp only [hm, show Nat.ble (o + m.length) n = true from Nat.ble_eq_true_of_le hl, AH.new_set_self]
theorem aputs_at {h : AH} {b : Nat} {c : PT Value} {m : List Value} {e : TypeId} {n o : Nat} (hb : h.at b = .cells c n e false) (hl : o + m.length ≤ n) (hm : ones m = true) : aputs h b o m = some (h.set b (.cells (c.putL o m) n e false)) := by
  unfold aputs
  rw [hb]
  simp only [hm, show Nat.ble (o + m.length) n = true from Nat.ble_eq_true_of_le hl]
theorem abuildSlice_one {T : Tbl} (h : AH) {t e : TypeId} {v z : Value} {k : Nat} (hu : T.und t = some (.slice e)) (hs : T.size e = some (k + 1)) (hz : T.zero e = some z) (hzl : (cellsL z).length = k + 1) (hk : k < 16777216) (hv : (cellsL v).length = k + 1) (hn : noTuple v = true) :
    abuildSlice T h t 1 [(0, v)] = some (.slice (some ⟨h.next, 0, none⟩) 1 1, h.new (.cells (PT.ofL (cellsL v)) (k + 1) e false)) := by
  unfold abuildSlice
  simp only [hu, hs, hz, hzl, Nat.zero_add, Nat.one_mul]
  rw [show Nat.beq (k + 1) (k + 1) = true from Nat.beq_refl _, show Nat.ble 1 (k + 1) = true from Nat.ble_eq_true_of_le (by omega), show Nat.ble (k + 1) 16777216 = true from Nat.ble_eq_true_of_le (by omega)]
  have hr : (reps (cellsL z) 1).length = k + 1 := by simp [reps_length, hzl]
  have hf : afill (fun i => some (i * (k + 1), k + 1)) (reps (cellsL z) 1) [(0, v)] = some (cellsL v) := by
    rw [afill]
    simp only [hv, hr, hn, Nat.zero_mul, Nat.zero_add]
    rw [show Nat.beq (k + 1) (k + 1) = true from Nat.beq_refl _, show Nat.ble (k + 1) (k + 1) = true from Nat.ble_eq_true_of_le (Nat.le_refl _)]
    dsimp only
    rw [afill, putAt, List.take_zero, List.nil_append, Nat.zero_add, hv, List.drop_of_length_le (by omega), List.append_nil]
  simp only [hf, hv, aslc, anew]
end
end Go.Ab
