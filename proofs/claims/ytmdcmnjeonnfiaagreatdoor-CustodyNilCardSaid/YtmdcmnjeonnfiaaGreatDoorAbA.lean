import Derived.Calls
import Derived.Laws.Cells
import Derived.Laws.IdiomCopy
import Derived.Below
set_option linter.unusedSimpArgs false
set_option linter.unusedVariables false
/-! An abstract heap for closed runs: tries, the relation of abstract and concrete values, simulation. -/
namespace Go.Ab

inductive PT (α : Type) where
  | leaf
  | node (l : PT α) (x : Option α) (r : PT α)

noncomputable def PT.get {α : Type} (t : PT α) : Nat → Option α :=
  PT.rec (motive := fun _ => Nat → Option α) (fun _ => none) (fun _ x _ gl gr k => Nat.rec x (fun k' _ => Bool.rec (gr (k' / 2)) (gl (k' / 2)) (Nat.beq (k' % 2) 0)) k) t
noncomputable def PT.sng {α : Type} (v : α) (n : Nat) : Nat → PT α :=
  Nat.rec (motive := fun _ => Nat → PT α) (fun _ => .leaf) (fun _ ih k => Nat.rec (.node .leaf (some v) .leaf) (fun k' _ => Bool.rec (.node .leaf none (ih (k' / 2))) (.node (ih (k' / 2)) none .leaf) (Nat.beq (k' % 2) 0)) k) n
/-- Put at a place. -/
noncomputable def PT.put {α : Type} (t : PT α) (k : Nat) (v : α) : PT α :=
  PT.rec (motive := fun _ => Nat → PT α) (fun k => PT.sng v (k + 1) k) (fun l x r sl sr k => Nat.rec (.node l (some v) r) (fun k' _ => Bool.rec (.node l x (sr (k' / 2))) (.node (sl (k' / 2)) x r) (Nat.beq (k' % 2) 0)) k) t k

theorem PT.get_leaf {α : Type} (k : Nat) : (PT.leaf : PT α).get k = none := by cases k <;> rfl
theorem PT.get_zero {α : Type} (l : PT α) (x : Option α) (r : PT α) : (PT.node l x r).get 0 = x := rfl
theorem PT.get_even {α : Type} (l : PT α) (x : Option α) (r : PT α) {k : Nat} (h : k % 2 = 0) : (PT.node l x r).get (k + 1) = l.get (k / 2) := by
  show (Bool.rec (r.get (k / 2)) (l.get (k / 2)) (Nat.beq (k % 2) 0) : Option α) = _
  rw [h]; rfl
theorem PT.get_odd {α : Type} (l : PT α) (x : Option α) (r : PT α) {k : Nat} (h : k % 2 = 1) : (PT.node l x r).get (k + 1) = r.get (k / 2) := by
  show (Bool.rec (r.get (k / 2)) (l.get (k / 2)) (Nat.beq (k % 2) 0) : Option α) = _
  rw [h]; rfl
theorem PT.get_sng {α : Type} (v : α) : ∀ (n k : Nat), k < n → ∀ j, (PT.sng v n k).get j = if j = k then some v else none := by
  intro n
  induction n with
  | zero => intro k h; omega
  | succ n ih =>
    intro k h j
    cases k with
    | zero =>
      show (PT.node .leaf (some v) .leaf).get j = _
      cases j with
      | zero => simp [PT.get_zero]
      | succ j =>
        rcases (by omega : j % 2 = 0 ∨ j % 2 = 1) with e | e
        · rw [PT.get_even _ _ _ e]; simp [PT.get_leaf]
        · rw [PT.get_odd _ _ _ e]; simp [PT.get_leaf]
    | succ k =>
      show (Bool.rec (.node .leaf none (PT.sng v n (k / 2))) (.node (PT.sng v n (k / 2)) none .leaf) (Nat.beq (k % 2) 0) : PT α).get j = _
      rcases (by omega : k % 2 = 0 ∨ k % 2 = 1) with ek | ek <;> rw [ek]
      · show (PT.node (PT.sng v n (k / 2)) none .leaf).get j = _
        cases j with
        | zero => simp [PT.get_zero]
        | succ j =>
          rcases (by omega : j % 2 = 0 ∨ j % 2 = 1) with e | e
          · rw [PT.get_even _ _ _ e, ih _ (by omega)]
            by_cases hjk : j = k
            · subst hjk; simp
            · rw [if_neg (by omega), if_neg (by omega)]
          · rw [PT.get_odd _ _ _ e, PT.get_leaf, if_neg (by omega)]
      · show (PT.node .leaf none (PT.sng v n (k / 2))).get j = _
        cases j with
        | zero => simp [PT.get_zero]
        | succ j =>
          rcases (by omega : j % 2 = 0 ∨ j % 2 = 1) with e | e
          · rw [PT.get_even _ _ _ e, PT.get_leaf, if_neg (by omega)]
          · rw [PT.get_odd _ _ _ e, ih _ (by omega)]
            by_cases hjk : j = k
            · subst hjk; simp
            · rw [if_neg (by omega), if_neg (by omega)]
theorem PT.get_put {α : Type} : ∀ (t : PT α) (k : Nat) (v : α) (j : Nat), (t.put k v).get j = if j = k then some v else t.get j := by
  intro t
  induction t with
  | leaf =>
    intro k v j
    show (PT.sng v (k + 1) k).get j = _
    rw [PT.get_sng v _ _ (by omega), PT.get_leaf]
  | node l x r ihl ihr =>
    intro k v j
    cases k with
    | zero =>
      show (PT.node l (some v) r).get j = _
      cases j with
      | zero => simp [PT.get_zero]
      | succ j =>
        rcases (by omega : j % 2 = 0 ∨ j % 2 = 1) with e | e
        · rw [PT.get_even _ _ _ e, PT.get_even _ _ _ e]; simp
        · rw [PT.get_odd _ _ _ e, PT.get_odd _ _ _ e]; simp
    | succ k =>
      show (Bool.rec (.node l x (r.put (k / 2) v)) (.node (l.put (k / 2) v) x r) (Nat.beq (k % 2) 0) : PT α).get j = _
      rcases (by omega : k % 2 = 0 ∨ k % 2 = 1) with ek | ek <;> rw [ek]
      · show (PT.node (l.put (k / 2) v) x r).get j = _
        cases j with
        | zero => simp [PT.get_zero]
        | succ j =>
          rcases (by omega : j % 2 = 0 ∨ j % 2 = 1) with e | e
          · rw [PT.get_even _ _ _ e, PT.get_even _ _ _ e, ihl]
            by_cases hjk : j = k
            · subst hjk; simp
            · rw [if_neg (by omega), if_neg (by omega)]
          · rw [PT.get_odd _ _ _ e, PT.get_odd _ _ _ e, if_neg (by omega)]
      · show (PT.node l x (r.put (k / 2) v)).get j = _
        cases j with
        | zero => simp [PT.get_zero]
        | succ j =>
          rcases (by omega : j % 2 = 0 ∨ j % 2 = 1) with e | e
          · rw [PT.get_even _ _ _ e, PT.get_even _ _ _ e, if_neg (by omega)]
          · rw [PT.get_odd _ _ _ e, PT.get_odd _ _ _ e, ihr]
            by_cases hjk : j = k
            · subst hjk; simp
            · rw [if_neg (by omega), if_neg (by omega)]

/-- A list from a place on. -/
noncomputable def PT.putL {α : Type} (t : PT α) (k : Nat) (l : List α) : PT α :=
  List.rec (motive := fun _ => PT α → Nat → PT α) (fun t _ => t) (fun v _ ih t k => ih (t.put k v) (k + 1)) l t k
theorem PT.get_putL {α : Type} : ∀ (l : List α) (t : PT α) (k j : Nat), (t.putL k l).get j = if k ≤ j ∧ j < k + l.length then l[j - k]? else t.get j
  | [], t, k, j => by simp [PT.putL]; omega
  | v :: r, t, k, j => by
    show ((t.put k v).putL (k + 1) r).get j = _
    rw [PT.get_putL r, PT.get_put]
    by_cases h1 : j = k
    · subst h1; rw [if_neg (by omega), if_pos rfl, if_pos (by simp)]; simp
    · by_cases h2 : k + 1 ≤ j ∧ j < k + 1 + r.length
      · rw [if_pos h2, if_pos (by simp; omega)]
        rw [show j - k = (j - (k + 1)) + 1 from by omega]; rfl
      · rw [if_neg h2, if_neg h1, if_neg (by simp; omega)]
noncomputable def PT.ofL {α : Type} (l : List α) : PT α := PT.leaf.putL 0 l
theorem PT.get_ofL {α : Type} (l : List α) (j : Nat) : (PT.ofL l).get j = l[j]? := by
  rw [PT.ofL, PT.get_putL, PT.get_leaf]
  split
  · simp
  · rw [List.getElem?_eq_none (by omega)]
/-- The places k .. k + n - 1, if all are there. -/
noncomputable def PT.takeL {α : Type} (t : PT α) (k n : Nat) : Option (List α) :=
  Nat.rec (motive := fun _ => Nat → Option (List α)) (fun _ => some []) (fun _ ih k => Option.rec none (fun v => Option.rec none (fun r => some (v :: r)) (ih (k + 1))) (t.get k)) n k
theorem PT.takeL_succ {α : Type} (t : PT α) (k n : Nat) : t.takeL k (n + 1) = match t.get k with
    | none => none
    | some v => match t.takeL (k + 1) n with
      | none => none
      | some r => some (v :: r) := by
  show (Option.rec none (fun v => Option.rec none (fun r => some (v :: r)) (t.takeL (k + 1) n)) (t.get k) : Option (List α)) = _
  cases t.get k with
  | none => rfl
  | some v => cases t.takeL (k + 1) n <;> rfl
theorem PT.takeL_spec {α : Type} (t : PT α) : ∀ (n k : Nat) (l : List α), t.takeL k n = some l → l.length = n ∧ ∀ j, j < n → t.get (k + j) = l[j]?
  | 0, k, l, h => by
    have h : some [] = some l := h
    simp only [Option.some.injEq] at h; subst h; simp
  | n + 1, k, l, h => by
    rw [PT.takeL_succ] at h
    split at h
    · cases h
    · rename_i v hv
      split at h
      · cases h
      · rename_i r hr
        simp only [Option.some.injEq] at h
        subst h
        obtain ⟨h1, h2⟩ := PT.takeL_spec t n (k + 1) r hr
        refine ⟨by simp [h1], fun j hj => ?_⟩
        cases j with
        | zero => simpa using hv
        | succ j => rw [show k + (j + 1) = k + 1 + j from by omega, h2 j (by omega)]; simp

/-! ### Values -/
/-- Where an abstract block lies: the block, how many cells it has, how many an element has. -/
abbrev Mp := Nat → Option (Nat × Nat × Nat)
mutual
inductive V (μ : Mp) : Value → Value → Prop
  | poison (v : Value) : V μ (.chan (some 0)) v
  | bool (b : Bool) : V μ (.bool b) (.bool b)
  | int (k : IntKind) (n : Int) : V μ (.int k n) (.int k n)
  | string (s : ByteArray) : V μ (.string s) (.string s)
  | nilp : V μ (.pointer none) (.pointer none)
  | ptr {b b' o : Nat} {z : Nat × Nat} : μ b = some (b', z) → V μ (.pointer (some ⟨b, o, none⟩)) (.pointer (some ⟨b', o, none⟩))
  | nils : V μ (.slice none 0 0) (.slice none 0 0)
  | slice {b b' o n c c' sz k : Nat} : μ b = some (b', sz, k) → n ≤ c → c ≤ c' → (c' = c ∨ o + c' * k ≤ sz) → V μ (.slice (some ⟨b, o, none⟩) n c) (.slice (some ⟨b', o, none⟩) n c')
  | zs {b' o' c' : Nat} {sp : Option Nat} : V μ (.slice (some ⟨0, 0, some 0⟩) 0 0) (.slice (some ⟨b', o', sp⟩) 0 c')
  | nilm : V μ (.map none) (.map none)
  | map {r r' : Nat} {z : Nat × Nat} : μ r = some (r', z) → V μ (.map (some r)) (.map (some r'))
  | func {fn : Fn} {f f' c c' : Array Value} : VL μ f.toList f'.toList → VL μ c.toList c'.toList → V μ (.func fn f c) (.func fn f' c')
  | nilf : V μ .nilFunc .nilFunc
  | iface {t : TypeId} {v v' : Value} : V μ v v' → V μ (.iface t v) (.iface t v')
  | nili : V μ .nilIface .nilIface
  | agg {a a' : Array Value} : VL μ a.toList a'.toList → V μ (.agg a) (.agg a')
  | tuple {a a' : Array Value} : VL μ a.toList a'.toList → V μ (.tuple a) (.tuple a')
inductive VL (μ : Mp) : List Value → List Value → Prop
  | nil : VL μ [] []
  | cons {v v' : Value} {l l' : List Value} : V μ v v' → VL μ l l' → VL μ (v :: l) (v' :: l')
end

def Sub (μ μ' : Mp) : Prop := ∀ i b, μ i = some b → μ' i = some b
theorem Sub.refl (μ : Mp) : Sub μ μ := fun _ _ h => h
theorem Sub.trans {a b c : Mp} (h : Sub a b) (k : Sub b c) : Sub a c := fun i x hx => k i x (h i x hx)

mutual
theorem V.mono {μ μ' : Mp} (hs : Sub μ μ') : ∀ {v v' : Value}, V μ v v' → V μ' v v'
  | _, _, .poison v => .poison v
  | _, _, .bool b => .bool b
  | _, _, .int k n => .int k n
  | _, _, .string s => .string s
  | _, _, .nilp => .nilp
  | _, _, .ptr h => .ptr (hs _ _ h)
  | _, _, .nils => .nils
  | _, _, .slice h a b c => .slice (hs _ _ h) a b c
  | _, _, .zs => .zs
  | _, _, .nilm => .nilm
  | _, _, .map h => .map (hs _ _ h)
  | _, _, .func h k => .func (VL.mono hs h) (VL.mono hs k)
  | _, _, .nilf => .nilf
  | _, _, .iface h => .iface (V.mono hs h)
  | _, _, .nili => .nili
  | _, _, .agg h => .agg (VL.mono hs h)
  | _, _, .tuple h => .tuple (VL.mono hs h)
theorem VL.mono {μ μ' : Mp} (hs : Sub μ μ') : ∀ {l l' : List Value}, VL μ l l' → VL μ' l l'
  | _, _, .nil => .nil
  | _, _, .cons h k => .cons (V.mono hs h) (VL.mono hs k)
end

theorem VL.length {μ : Mp} : ∀ {l l' : List Value}, VL μ l l' → l.length = l'.length
  | _, _, .nil => rfl
  | _, _, .cons _ k => by simp [VL.length k]
theorem VL.get {μ : Mp} : ∀ {l l' : List Value}, VL μ l l' → ∀ (i : Nat) (v : Value), l[i]? = some v → ∃ v', l'[i]? = some v' ∧ V μ v v'
  | _, _, .nil, i, v, h => by simp at h
  | _, _, .cons h k, 0, v, e => by simp at e; subst e; exact ⟨_, rfl, h⟩
  | _, _, .cons h k, i + 1, v, e => by simpa using VL.get k i v (by simpa using e)
theorem VL.of_get {μ : Mp} : ∀ {l l' : List Value}, l.length = l'.length → (∀ (i : Nat) (v v' : Value), l[i]? = some v → l'[i]? = some v' → V μ v v') → VL μ l l'
  | [], [], _, _ => .nil
  | v :: l, v' :: l', h, k => .cons (k 0 v v' rfl rfl) (VL.of_get (by simpa using h) fun i x x' a b => k (i + 1) x x' (by simpa using a) (by simpa using b))
  | [], _ :: _, h, _ => by simp at h
  | _ :: _, [], h, _ => by simp at h
theorem VL.append {μ : Mp} : ∀ {a a' b b' : List Value}, VL μ a a' → VL μ b b' → VL μ (a ++ b) (a' ++ b')
  | _, _, _, _, .nil, k => k
  | _, _, _, _, .cons h r, k => .cons h (VL.append r k)
theorem VL.take {μ : Mp} : ∀ {l l' : List Value}, VL μ l l' → ∀ n, VL μ (l.take n) (l'.take n)
  | _, _, _, 0 => by simp; exact .nil
  | _, _, .nil, n + 1 => by simp; exact .nil
  | _, _, .cons h k, n + 1 => by simp; exact .cons h (VL.take k n)
theorem VL.drop {μ : Mp} : ∀ {l l' : List Value}, VL μ l l' → ∀ n, VL μ (l.drop n) (l'.drop n)
  | _, _, h, 0 => by simpa using h
  | _, _, .nil, n + 1 => by simp; exact .nil
  | _, _, .cons h k, n + 1 => by simpa using VL.drop k n

/-- The unknown. -/
def poison : Value := .chan (some 0)
/-- One cell, and not the unknown. -/
def one : Value → Bool
  | .agg _ | .tuple _ | .chan _ => false
  | _ => true
theorem V.one_right {μ : Mp} {v v' : Value} (h : V μ v v') (h1 : one v = true) : v'.oneCell' = true := by
  cases h <;> first | rfl | (simp [one] at h1)

/-! ### Objects and heaps -/
inductive AObj where
  | cells (c : PT Value) (n : Nat) (elem : TypeId) (fz : Bool)
  | map (es : List MapEntry) (clock : Nat)
  | siter (s : ByteArray) (pos : Nat)
  | miter (m : Option Nat) (since : Nat) (seen : Array Nat) (last : Nat)
  | dead

inductive EL (μ : Mp) : List MapEntry → List MapEntry → Prop
  | nil : EL μ [] []
  | cons {e e' : MapEntry} {l l' : List MapEntry} : V μ e.key e'.key → V μ e.val e'.val → e.born = e'.born → EL μ l l' → EL μ (e :: l) (e' :: l')
theorem EL.mono {μ μ' : Mp} (hs : Sub μ μ') : ∀ {l l' : List MapEntry}, EL μ l l' → EL μ' l l'
  | _, _, .nil => .nil
  | _, _, .cons a b c d => .cons (a.mono hs) (b.mono hs) c (EL.mono hs d)

def ORel (P : Program) (μ : Mp) (z : Nat × Nat) : AObj → Obj → Prop
  | .cells c n e fz, O => ∃ C fr, O = .cells C e fr ∧ n ≤ C.size ∧ (∀ i v, i < n → c.get i = some v → ∃ v', C[i]? = some v' ∧ V μ v v') ∧ (fz = false → ∀ o, o < C.size → ¬ (fr.1 ≤ o ∧ o < fr.2)) ∧ z = (C.size, P.cellsOf e)
  | .map es k, O => ∃ ES, O = .map ES k ∧ EL μ es ES.toList
  | .siter s p, O => O = .stringIter s p
  | .miter m a b d, O => ∃ m', O = .mapIter m' a b d ∧ (m = none → m' = none) ∧ (∀ r, m = some r → ∃ r' z, μ r = some (r', z) ∧ m' = some r')
  | .dead, _ => True
theorem ORel.mono {P : Program} {μ μ' : Mp} (hs : Sub μ μ') {z : Nat × Nat} {o : AObj} {O : Obj} (h : ORel P μ z o O) : ORel P μ' z o O := by
  cases o with
  | cells c n e fz =>
    obtain ⟨C, fr, rfl, h1, h2, h3, h4⟩ := h
    exact ⟨C, fr, rfl, h1, fun i v hi hv => let ⟨v', a, b⟩ := h2 i v hi hv; ⟨v', a, b.mono hs⟩, h3, h4⟩
  | map es k => obtain ⟨ES, rfl, h⟩ := h; exact ⟨ES, rfl, h.mono hs⟩
  | siter s p => exact h
  | miter m a b d => obtain ⟨m', rfl, h1, h2⟩ := h; exact ⟨m', rfl, h1, fun r hr => let ⟨r', z, x, y⟩ := h2 r hr; ⟨r', z, hs _ _ x, y⟩⟩
  | dead => trivial

structure AH where
  objs : PT AObj
  next : Nat

noncomputable def AH.at (h : AH) (i : Nat) : AObj := match h.objs.get i with
  | some o => o
  | none => .dead
def AObj.live : AObj → Bool
  | .dead => false
  | _ => true
def AObj.wr : AObj → Bool
  | .dead => false
  | .cells _ _ _ fz => !fz
  | _ => true
theorem AObj.live_of_wr {o : AObj} (h : o.wr = true) : o.live = true := by cases o <;> simp_all [AObj.wr, AObj.live]
noncomputable def AH.set (h : AH) (i : Nat) (o : AObj) : AH := { h with objs := h.objs.put i o }
noncomputable def AH.new (h : AH) (o : AObj) : AH := { objs := h.objs.put h.next o, next := h.next + 1 }
theorem AH.at_set (h : AH) (i : Nat) (o : AObj) (j : Nat) : (h.set i o).at j = if j = i then o else h.at j := by
  simp only [AH.at, AH.set, PT.get_put]
  by_cases e : j = i
  · rw [if_pos e, if_pos e]
  · rw [if_neg e, if_neg e]
theorem AH.at_new (h : AH) (o : AObj) (j : Nat) : (h.new o).at j = if j = h.next then o else h.at j := by
  simp only [AH.at, AH.new, PT.get_put]
  by_cases e : j = h.next
  · rw [if_pos e, if_pos e]
  · rw [if_neg e, if_neg e]

structure Sim (P : Program) (μ : Mp) (h : AH) (W : World) : Prop where
  dom : ∀ i b z, μ i = some (b, z) → i < h.next ∧ b < W.heap.size
  fin : ∀ i, h.next ≤ i → h.at i = .dead
  obj : ∀ i b z, μ i = some (b, z) → ∃ O, W.heap[b]? = some O ∧ ORel P μ z (h.at i) O
  inj : ∀ i j b z z', μ i = some (b, z) → μ j = some (b, z') → (h.at i).live = true → (h.at j).live = true → i = j

/-- What a part of a run leaves. -/
structure Stp (μ μ' : Mp) (h h' : AH) (W W' : World) : Prop where
  sub : Sub μ μ'
  old : ∀ i, i < h.next → μ' i = μ i
  next : h.next ≤ h'.next
  all : ∀ i, h.next ≤ i → i < h'.next → ∃ b, μ' i = some b
  new : ∀ i b z, h.next ≤ i → i < h'.next → μ' i = some (b, z) → W.heap.size ≤ b ∨ ∃ j z', (h.at j).wr = true ∧ μ j = some (b, z')
  wr : ∀ i, i < h.next → (h'.at i).wr = true → (h.at i).wr = true
  size : W.heap.size ≤ W'.heap.size
  keep : ∀ b, b < W.heap.size → (∀ j z, μ j = some (b, z) → (h.at j).wr = false) → W'.heap[b]? = W.heap[b]?
  hole : ∀ i, i < h.next → μ i = none → h'.at i = h.at i
  os : W'.os = W.os
  tape : W'.tape = W.tape
  output : W'.output = W.output

theorem Stp.refl (μ : Mp) (h : AH) (W : World) : Stp μ μ h h W W :=
  ⟨.refl μ, fun _ _ => rfl, Nat.le_refl _, fun _ _ _ => by omega, fun _ _ _ _ _ => by omega, fun _ _ h => h, Nat.le_refl _, fun _ _ _ => rfl, fun _ _ _ => rfl, rfl, rfl, rfl⟩

theorem Stp.trans {P : Program} {μ μ' μ'' : Mp} {h h' h'' : AH} {W W' W'' : World} (s' : Sim P μ' h' W') (a : Stp μ μ' h h' W W') (b : Stp μ' μ'' h' h'' W' W'') : Stp μ μ'' h h'' W W'' where
  sub := a.sub.trans b.sub
  old i hi := by rw [b.old i (Nat.lt_of_lt_of_le hi a.next), a.old i hi]
  next := Nat.le_trans a.next b.next
  all i h1 h2 := by
    by_cases h3 : i < h'.next
    · rw [b.old i h3]; exact a.all i h1 h3
    · exact b.all i (by omega) h2
  new i x z h1 h2 hx := by
    by_cases h3 : i < h'.next
    · rw [b.old i h3] at hx; exact a.new i x z h1 h3 hx
    · rcases b.new i x z (by omega) h2 hx with h4 | ⟨j, z', h5, h6⟩
      · exact .inl (Nat.le_trans a.size h4)
      · by_cases h7 : j < h.next
        · rw [a.old j h7] at h6
          exact .inr ⟨j, z', a.wr j h7 h5, h6⟩
        · exact a.new j x z' (by omega) (s'.dom _ _ _ h6).1 h6
  wr i hi hw := a.wr i hi (b.wr i (Nat.lt_of_lt_of_le hi a.next) hw)
  size := Nat.le_trans a.size b.size
  keep x hx hk := by
    rw [b.keep x (Nat.lt_of_lt_of_le hx a.size), a.keep x hx hk]
    intro j z hj
    by_cases h7 : j < h.next
    · rw [a.old j h7] at hj
      cases hw : (h'.at j).wr with
      | false => rfl
      | true => have := a.wr j h7 hw; rw [hk j z hj] at this; cases this
    · rcases a.new j x z (by omega) (s'.dom _ _ _ hj).1 hj with h4 | ⟨i, z', h5, h6⟩
      · omega
      · rw [hk i z' h6] at h5; cases h5
  hole i hi hn := by
    rw [b.hole i (Nat.lt_of_lt_of_le hi a.next) (by rw [a.old i hi, hn]), a.hole i hi hn]
  os := b.os.trans a.os
  tape := b.tape.trans a.tape
  output := b.output.trans a.output

/-! ### The changes: a new block, a block turned, a draw -/
def ext (μ : Mp) (i : Nat) (b : Nat × Nat × Nat) : Mp := fun j => if j = i then some b else μ j
theorem ext_self (μ : Mp) (i : Nat) (b : Nat × Nat × Nat) : ext μ i b i = some b := by simp [ext]
theorem ext_ne {μ : Mp} {i j : Nat} {b : Nat × Nat × Nat} (h : j ≠ i) : ext μ i b j = μ j := by simp [ext, h]
theorem sub_ext {P : Program} {μ : Mp} {h : AH} {W : World} (s : Sim P μ h W) (b : Nat × Nat × Nat) : Sub μ (ext μ h.next b) := fun i x hx => by
  rw [ext_ne (by have := (s.dom i x.1 x.2 hx).1; omega)]; exact hx

/-- A new block of one's own. -/
theorem Sim.made {P : Program} {μ : Mp} {h : AH} {W : World} (s : Sim P μ h W) (o : AObj) (O : Obj) (z : Nat × Nat) (W' : World) (hW : W'.heap = W.heap.push O) (hO : ORel P (ext μ h.next (W.heap.size, z)) z o O) :
    Sim P (ext μ h.next (W.heap.size, z)) (h.new o) W' where
  dom i b y hb := by
    rw [hW, Array.size_push]
    by_cases e : i = h.next
    · subst e; rw [ext_self] at hb; cases hb; exact ⟨by simp [AH.new], by omega⟩
    · rw [ext_ne e] at hb; have := s.dom i b y hb; exact ⟨by simp [AH.new]; omega, by omega⟩
  fin i hi := by
    simp only [AH.new] at hi
    rw [AH.at_new, if_neg (by omega)]; exact s.fin i (by omega)
  obj i b y hb := by
    rw [AH.at_new]
    by_cases e : i = h.next
    · subst e; rw [ext_self] at hb; cases hb
      rw [if_pos rfl]; exact ⟨O, by rw [hW, Array.getElem?_push, if_pos rfl], hO⟩
    · rw [ext_ne e] at hb; rw [if_neg e]
      obtain ⟨O', h1, h2⟩ := s.obj i b y hb
      refine ⟨O', ?_, h2.mono (sub_ext s _)⟩
      rw [hW, Array.getElem?_push, if_neg (by have := (s.dom i b y hb).2; omega)]; exact h1
  inj i j b y y' hi hj li lj := by
    rw [AH.at_new] at li lj
    by_cases e : i = h.next
    · by_cases e' : j = h.next
      · rw [e, e']
      · subst e; rw [ext_self] at hi; cases hi; rw [ext_ne e'] at hj; have := (s.dom j _ _ hj).2; omega
    · by_cases e' : j = h.next
      · subst e'; rw [ext_self] at hj; cases hj; rw [ext_ne e] at hi; have := (s.dom i _ _ hi).2; omega
      · rw [ext_ne e] at hi; rw [ext_ne e'] at hj; rw [if_neg e] at li; rw [if_neg e'] at lj; exact s.inj i j b y y' hi hj li lj
theorem Stp.made {P : Program} {μ : Mp} {h : AH} {W : World} (s : Sim P μ h W) (o : AObj) (O : Obj) (z : Nat × Nat) (W' : World) (hW : W'.heap = W.heap.push O) (h1 : W'.os = W.os) (h2 : W'.tape = W.tape) (h3 : W'.output = W.output) :
    Stp μ (ext μ h.next (W.heap.size, z)) h (h.new o) W W' where
  sub := sub_ext s _
  old i hi := ext_ne (by omega)
  next := by simp [AH.new]
  all i a b := by simp only [AH.new] at b; exact ⟨_, by rw [show i = h.next from by omega]; exact ext_self _ _ _⟩
  new i b y a c hb := by simp only [AH.new] at c; rw [show i = h.next from by omega, ext_self] at hb; cases hb; exact .inl (Nat.le_refl _)
  wr i hi hw := by rw [AH.at_new, if_neg (by omega)] at hw; exact hw
  size := by rw [hW, Array.size_push]; omega
  keep b hb _ := by rw [hW, Array.getElem?_push, if_neg (by omega)]
  hole i hi _ := by rw [AH.at_new, if_neg (by omega)]
  os := h1
  tape := h2
  output := h3

/-- A block turned, by one who may. -/
theorem Sim.turn {P : Program} {μ : Mp} {h : AH} {W : World} (s : Sim P μ h W) {i b : Nat} {z : Nat × Nat} (hb : μ i = some (b, z)) (hl : (h.at i).live = true) (o : AObj) (O : Obj) (W' : World) (hs : W'.heap.size = W.heap.size)
    (hW : ∀ k, W'.heap[k]? = if k = b then some O else W.heap[k]?) (hO : ORel P μ z o O) : Sim P μ (h.set i o) W' where
  dom j c y hc := by rw [hs]; exact s.dom j c y hc
  fin j hj := by rw [AH.at_set, if_neg (by have := (s.dom i b z hb).1; simp only [AH.set] at hj; omega)]; exact s.fin j hj
  obj j c y hc := by
    rw [AH.at_set]
    by_cases e : j = i
    · subst e; rw [hb] at hc; cases hc; exact ⟨O, by rw [hW, if_pos rfl], by rw [if_pos rfl]; exact hO⟩
    · rw [if_neg e]
      cases hlj : (h.at j).live with
      | true =>
        obtain ⟨O', h1, h2⟩ := s.obj j c y hc
        refine ⟨O', ?_, h2⟩
        rw [hW, if_neg (fun ec => e (s.inj j i b y z (by rw [← ec]; exact hc) hb hlj hl))]; exact h1
      | false =>
        have hdead : h.at j = .dead := by cases hx : h.at j <;> simp_all [AObj.live]
        rw [hdead]
        by_cases ec : c = b
        · exact ⟨O, by rw [hW, if_pos ec], trivial⟩
        · obtain ⟨O', h1, h2⟩ := s.obj j c y hc
          exact ⟨O', by rw [hW, if_neg ec]; exact h1, trivial⟩
  inj j k c y y' hj hk lj lk := by
    have g : ∀ x, ((h.set i o).at x).live = true → (h.at x).live = true := fun x hx => by
      rw [AH.at_set] at hx
      by_cases e : x = i
      · rw [e]; exact hl
      · rw [if_neg e] at hx; exact hx
    exact s.inj j k c y y' hj hk (g j lj) (g k lk)
theorem Stp.turn {μ : Mp} {h : AH} {W : World} {i b : Nat} {z : Nat × Nat} (hb : μ i = some (b, z)) (hw : (h.at i).wr = true) (o : AObj) (O : Obj) (W' : World) (hs : W'.heap.size = W.heap.size)
    (hW : ∀ k, W'.heap[k]? = if k = b then some O else W.heap[k]?) (h1 : W'.os = W.os) (h2 : W'.tape = W.tape) (h3 : W'.output = W.output) : Stp μ μ h (h.set i o) W W' where
  sub := .refl μ
  old _ _ := rfl
  next := Nat.le_refl _
  all j a c := by simp only [AH.set] at c; omega
  new j x y a c := by simp only [AH.set] at c; omega
  wr j hj hwj := by
    rw [AH.at_set] at hwj
    by_cases e : j = i
    · rw [e]; exact hw
    · rw [if_neg e] at hwj; exact hwj
  size := by rw [hs]; exact Nat.le_refl _
  keep k hk hno := by
    rw [hW, if_neg]
    intro e
    have := hno i z (e ▸ hb)
    rw [hw] at this; cases this
  hole j hj hn := by
    rw [AH.at_set, if_neg]
    intro e; subst e; rw [hb] at hn; cases hn
  os := h1
  tape := h2
  output := h3

/-- A block taken over by a new number; the old one is dead. -/
theorem Sim.moved {P : Program} {μ : Mp} {h : AH} {W : World} (s : Sim P μ h W) {i b : Nat} {z : Nat × Nat} (hb : μ i = some (b, z)) (hl : (h.at i).live = true) (o : AObj) (O : Obj) (W' : World) (hs : W'.heap.size = W.heap.size)
    (hW : ∀ k, W'.heap[k]? = if k = b then some O else W.heap[k]?) (hO : ORel P (ext μ h.next (b, z)) z o O) : Sim P (ext μ h.next (b, z)) ((h.set i .dead).new o) W' where
  dom j c y hc := by
    rw [hs]
    by_cases e : j = h.next
    · subst e; rw [ext_self] at hc; cases hc; exact ⟨by simp [AH.new, AH.set], (s.dom i b z hb).2⟩
    · rw [ext_ne e] at hc; have := s.dom j c y hc; exact ⟨by simp [AH.new, AH.set]; omega, this.2⟩
  fin j hj := by
    simp only [AH.new, AH.set] at hj
    have := (s.dom i b z hb).1
    rw [AH.at_new, if_neg (by simp only [AH.set]; omega), AH.at_set, if_neg (by omega)]; exact s.fin j (by omega)
  obj j c y hc := by
    rw [AH.at_new, AH.at_set]
    by_cases e : j = h.next
    · subst e; rw [ext_self] at hc; cases hc
      rw [if_pos (by rfl)]; exact ⟨O, by rw [hW, if_pos rfl], hO⟩
    · rw [ext_ne e] at hc
      rw [if_neg (by exact e)]
      have live : ∀ (j : Nat) (c : Nat) (y : Nat × Nat), μ j = some (c, y) → ∃ O', W'.heap[c]? = some O' := fun j c y hc => by
        obtain ⟨O', h1, _⟩ := s.obj j c y hc
        by_cases ec : c = b
        · exact ⟨O, by rw [hW, if_pos ec]⟩
        · exact ⟨O', by rw [hW, if_neg ec]; exact h1⟩
      by_cases ei : j = i
      · rw [if_pos ei]
        obtain ⟨O', h1⟩ := live j c y hc
        exact ⟨O', h1, trivial⟩
      · rw [if_neg ei]
        cases hlj : (h.at j).live with
        | true =>
          obtain ⟨O', h1, h2⟩ := s.obj j c y hc
          refine ⟨O', ?_, h2.mono (sub_ext s _)⟩
          rw [hW, if_neg (fun ec => ei (s.inj j i b y z (by rw [← ec]; exact hc) hb hlj hl))]; exact h1
        | false =>
          have hdead : h.at j = .dead := by cases hx : h.at j <;> simp_all [AObj.live]
          rw [hdead]
          obtain ⟨O', h1⟩ := live j c y hc
          exact ⟨O', h1, trivial⟩
  inj j k c y y' hj hk lj lk := by
    rw [AH.at_new, AH.at_set] at lj lk
    have old : ∀ x v w, x ≠ h.next → ext μ h.next (b, z) x = some (v, w) → (if x = (h.set i .dead).next then o else if x = i then .dead else h.at x).live = true → μ x = some (v, w) ∧ x ≠ i ∧ (h.at x).live = true := fun x v w hx hm hlx => by
      rw [ext_ne hx] at hm
      rw [if_neg (by exact hx)] at hlx
      by_cases e : x = i
      · rw [if_pos e] at hlx; cases hlx
      · rw [if_neg e] at hlx; exact ⟨hm, e, hlx⟩
    by_cases e : j = h.next
    · by_cases e' : k = h.next
      · rw [e, e']
      · subst e; rw [ext_self] at hj; cases hj
        obtain ⟨a1, a2, a3⟩ := old k _ _ e' hk lk
        exact absurd (s.inj k i _ _ _ a1 hb a3 hl) a2
    · obtain ⟨a1, a2, a3⟩ := old j _ _ e hj lj
      by_cases e' : k = h.next
      · subst e'; rw [ext_self] at hk; cases hk
        exact absurd (s.inj j i _ _ _ a1 hb a3 hl) a2
      · obtain ⟨b1, b2, b3⟩ := old k _ _ e' hk lk
        exact s.inj j k _ _ _ a1 b1 a3 b3
theorem Stp.moved {P : Program} {μ : Mp} {h : AH} {W : World} (s : Sim P μ h W) {i b : Nat} {z : Nat × Nat} (hb : μ i = some (b, z)) (hw : (h.at i).wr = true) (o : AObj) (O : Obj) (W' : World) (hs : W'.heap.size = W.heap.size)
    (hW : ∀ k, W'.heap[k]? = if k = b then some O else W.heap[k]?) (h1 : W'.os = W.os) (h2 : W'.tape = W.tape) (h3 : W'.output = W.output) : Stp μ (ext μ h.next (b, z)) h ((h.set i .dead).new o) W W' where
  sub := sub_ext s _
  old j hj := ext_ne (by omega)
  next := by simp [AH.new, AH.set]
  all j a c := by simp only [AH.new, AH.set] at c; exact ⟨_, by rw [show j = h.next from by omega]; exact ext_self _ _ _⟩
  new j x y a c hj := by
    simp only [AH.new, AH.set] at c
    rw [show j = h.next from by omega, ext_self] at hj; cases hj
    exact .inr ⟨i, z, hw, hb⟩
  wr j hj hwj := by
    rw [AH.at_new, if_neg (by simp only [AH.set]; omega), AH.at_set] at hwj
    by_cases e : j = i
    · rw [e]; exact hw
    · rw [if_neg e] at hwj; exact hwj
  size := by rw [hs]; exact Nat.le_refl _
  keep k hk hno := by
    rw [hW, if_neg]
    intro e
    have := hno i z (e ▸ hb)
    rw [hw] at this; cases this
  hole j hj hn := by
    rw [AH.at_new, if_neg (by simp only [AH.set]; omega), AH.at_set, if_neg]
    intro e; subst e; rw [hb] at hn; cases hn
  os := h1
  tape := h2
  output := h3

/-- An object dies; the world stands. -/
theorem Sim.kill {P : Program} {μ : Mp} {h : AH} {W : World} (s : Sim P μ h W) {i b : Nat} {z : Nat × Nat} (hb : μ i = some (b, z)) (hl : (h.at i).live = true) : Sim P μ (h.set i .dead) W := by
  obtain ⟨O, h1, _⟩ := s.obj i b z hb
  exact s.turn hb hl .dead O W rfl (fun k => by by_cases e : k = b <;> simp [e, h1]) trivial
theorem Stp.kill {P : Program} {μ : Mp} {h : AH} {W : World} (s : Sim P μ h W) {i b : Nat} {z : Nat × Nat} (hb : μ i = some (b, z)) (hw : (h.at i).wr = true) : Stp μ μ h (h.set i .dead) W W := by
  obtain ⟨O, h1, _⟩ := s.obj i b z hb
  exact Stp.turn hb hw .dead O W rfl (fun k => by by_cases e : k = b <;> simp [e, h1]) rfl rfl rfl

/-- A change of the world that leaves the heap. -/
theorem Sim.same {P : Program} {μ : Mp} {h : AH} {W W' : World} (s : Sim P μ h W) (hW : W'.heap = W.heap) : Sim P μ h W' :=
  ⟨fun i b z hb => by rw [hW]; exact s.dom i b z hb, s.fin, fun i b z hb => by rw [hW]; exact s.obj i b z hb, s.inj⟩
theorem Stp.same (μ : Mp) (h : AH) {W W' : World} (hW : W'.heap = W.heap) (h1 : W'.os = W.os) (h2 : W'.tape = W.tape) (h3 : W'.output = W.output) : Stp μ μ h h W W' :=
  ⟨.refl μ, fun _ _ => rfl, Nat.le_refl _, fun _ _ _ => by omega, fun _ _ _ _ _ => by omega, fun _ _ h => h, by rw [hW]; exact Nat.le_refl _, fun _ _ _ => by rw [hW], fun _ _ _ => rfl, h1, h2, h3⟩

end Go.Ab
