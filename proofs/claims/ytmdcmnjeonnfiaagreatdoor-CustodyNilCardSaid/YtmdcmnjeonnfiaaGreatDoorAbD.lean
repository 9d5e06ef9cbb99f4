import Derived.Test.YtmdcmnjeonnfiaaGreatDoorAbC
set_option linter.unusedSimpArgs false
set_option linter.unusedVariables false
/-! Memory: loads, stores, new variables. -/
namespace Go.Ab
noncomputable section

theorem Sim.cells {P : Program} {μ : Mp} {h : AH} {W : World} (s : Sim P μ h W) {b b' : Nat} {z : Nat × Nat} (hb : μ b = some (b', z)) {c : PT Value} {n : Nat} {e : TypeId} {fz : Bool} (ho : h.at b = .cells c n e fz) :
    ∃ C fr, W.heap[b']? = some (.cells C e fr) ∧ n ≤ C.size ∧ (∀ i v, i < n → c.get i = some v → ∃ v', C[i]? = some v' ∧ V μ v v') ∧ (fz = false → ∀ o, o < C.size → ¬ (fr.1 ≤ o ∧ o < fr.2)) ∧ z = (C.size, P.cellsOf e) := by
  obtain ⟨O, h1, h2⟩ := s.obj b b' z hb
  rw [ho] at h2
  obtain ⟨C, fr, rfl, h3⟩ := h2
  exact ⟨C, fr, h1, h3⟩
theorem cell_of {W : World} {b : Nat} {C : Array Value} {e : TypeId} {fr : Nat × Nat} (h : W.heap[b]? = some (.cells C e fr)) (o : Nat) : W.cell? ⟨b, o, none⟩ = C[o]? := by
  simp [World.cell?, h]
theorem frozen_of {W : World} {b : Nat} {C : Array Value} {e : TypeId} {fr : Nat × Nat} (h : W.heap[b]? = some (.cells C e fr)) (o : Nat) : W.frozen? ⟨b, o, none⟩ = (decide (fr.1 ≤ o) && decide (o < fr.2)) := by
  obtain ⟨lo, hi⟩ := fr
  simp [World.frozen?, h]
theorem shape_of {W : World} {b : Nat} {C : Array Value} {e : TypeId} {fr : Nat × Nat} (h : W.heap[b]? = some (.cells C e fr)) : W.shape? b = some (e, C.size) := by
  simp [World.shape?, h]
theorem addr_add (b o n : Nat) : (⟨b, o, none⟩ : Addr).add n = ⟨b, o + n, none⟩ := by
  unfold Addr.add; split <;> simp_all

/-- The cells of a row, of a list of abstract ones. -/
theorem Sim.row {μ : Mp} {C : Array Value} {c : PT Value} {n o k : Nat} {l : List Value} (hv : ∀ i v, i < n → c.get i = some v → ∃ v', C[i]? = some v' ∧ V μ v v') (hn : n ≤ C.size) (ht : c.takeL o k = some l) (hk : o + k ≤ n) :
    VL μ l ((C.toList.drop o).take k) ∧ ((C.toList.drop o).take k).length = k := by
  obtain ⟨h1, h2⟩ := PT.takeL_spec _ _ _ _ ht
  have hl : ((C.toList.drop o).take k).length = k := by simp; omega
  refine ⟨VL.of_get (by rw [h1, hl]) fun i v v' a b => ?_, hl⟩
  have hi : i < k := by rw [← h1]; exact (List.getElem?_eq_some_iff.1 a).1
  rw [← h2 i hi] at a
  obtain ⟨x, h3, h4⟩ := hv _ _ (by omega) a
  rw [List.getElem?_take, if_pos hi, List.getElem?_drop, Array.getElem?_toList, h3] at b
  cases b
  exact h4

def aload (T : Tbl) (h : AH) (t : TypeId) (p : Value) : Option Value := match p with
  | .pointer (some ⟨b, o, none⟩) => match h.at b with
    | .cells c n _ _ => match T.lay.get t with
      | some (true, k) => match Nat.ble (o + k) n with
        | true => match c.takeL o k with
          | some l => some (.agg ⟨l⟩)
          | none => none
        | false => none
      | some (false, _) => match Nat.blt o n with
        | true => c.get o
        | false => none
      | none => none
    | _ => none
  | _ => none

theorem load_ok {P : Program} {T : Tbl} (ok : TblOk P T) {μ : Mp} {h : AH} {W : World} (s : Sim P μ h W) {t : TypeId} {p p' v : Value} (hp : V μ p p') (hl : aload T h t p = some v) :
    ∃ v', (Instr.loadAt t p').run P W = .ok v' W ∧ V μ v v' := by
  unfold aload at hl
  split at hl
  · rename_i b o
    cases hp
    rename_i b' z hb
    split at hl
    · rename_i c n e fz ho
      obtain ⟨C, fr, h1, h2, h3, h4, h5⟩ := s.cells hb ho
      simp only [Instr.loadAt, Instr.sureAddr, Sem.run_bind, Sem.run_pure, Result.andThen_ok, loadVar]
      split at hl
      · rename_i k hk
        obtain ⟨d, i, i1, i2, i3, i4⟩ := ok.lay _ _ _ hk
        split at hl
        · rename_i hle
          have hle := Nat.le_of_ble_eq_true hle
          split at hl
          · rename_i l hl'
            cases hl
            obtain ⟨g1, g2⟩ := Sim.row h3 h2 hl' hle
            simp only [run_isAgg i1, Result.andThen_ok, i2, if_true, Sem.run_bind, run_sizeOf' i3, i4]
            have hrun := run_loadCells_list (P := P) (w := W) ⟨b', o, none⟩ ((C.toList.drop o).take k) (fun j v hj => by
              rw [addr_add, cell_of h1]
              rw [List.getElem?_take] at hj
              split at hj
              · rw [List.getElem?_drop, Array.getElem?_toList] at hj; exact hj
              · cases hj)
            rw [g2] at hrun
            rw [hrun]
            exact ⟨_, rfl, .agg g1⟩
          · cases hl
        · cases hl
      · rename_i k hk
        obtain ⟨d, i, i1, i2, i3, i4⟩ := ok.lay _ _ _ hk
        split at hl
        · rename_i hlt
          have hlt : o < n := Nat.le_of_ble_eq_true hlt
          obtain ⟨v', g1, g2⟩ := h3 o v hlt hl
          refine ⟨v', ?_, g2⟩
          simp only [run_isAgg i1, Result.andThen_ok, i2, Bool.false_eq_true, if_false, run_load, cell_of h1, g1]
        · cases hl
      · cases hl
    · cases hl
  · cases hl

/-! ### Stores -/
def setA : Array Value → Nat → List Value → Array Value
  | C, _, [] => C
  | C, o, v :: r => setA (C.setIfInBounds o v) (o + 1) r
theorem setA_size : ∀ (vs : List Value) (C : Array Value) (o : Nat), (setA C o vs).size = C.size
  | [], _, _ => rfl
  | v :: r, C, o => by rw [setA, setA_size r]; simp
theorem setA_get : ∀ (vs : List Value) (C : Array Value) (o i : Nat), o + vs.length ≤ C.size → (setA C o vs)[i]? = if o ≤ i ∧ i < o + vs.length then vs[i - o]? else C[i]?
  | [], C, o, i, _ => by simp [setA]; omega
  | v :: r, C, o, i, h => by
    simp only [List.length_cons] at h
    rw [setA, setA_get r _ _ _ (by simp; omega), Array.getElem?_setIfInBounds]
    by_cases h1 : i = o
    · subst h1; rw [if_neg (by omega), if_pos rfl, if_pos (by omega), if_pos (by simp)]; simp
    · rw [if_neg (fun e : o = i => h1 e.symm)]
      by_cases h2 : o + 1 ≤ i ∧ i < o + 1 + r.length
      · rw [if_pos h2, if_pos (by simp; omega), show i - o = (i - (o + 1)) + 1 from by omega]; rfl
      · rw [if_neg h2, if_neg (by simp; omega)]
theorem heap_setCells {b : Nat} {e : TypeId} {fr : Nat × Nat} : ∀ (vs : List Value) (o : Nat) (C : Array Value) (W : World), W.heap[b]? = some (.cells C e fr) →
    (∀ k, (W.setCells b o vs).heap[k]? = if k = b then some (.cells (setA C o vs) e fr) else W.heap[k]?) ∧ (W.setCells b o vs).heap.size = W.heap.size ∧ (W.setCells b o vs).os = W.os ∧ (W.setCells b o vs).tape = W.tape ∧ (W.setCells b o vs).output = W.output
  | [], o, C, W, h => ⟨fun k => by by_cases e : k = b <;> simp [World.setCells, setA, e, h], rfl, rfl, rfl, rfl⟩
  | v :: r, o, C, W, h => by
    have h1 : ∀ k, (W.setCell ⟨b, o, none⟩ v).heap[k]? = if k = b then some (.cells (C.setIfInBounds o v) e fr) else W.heap[k]? := by
      intro k
      simp only [World.setCell, Array.getElem?_modify]
      by_cases e : k = b
      · subst e; simp [h]
      · rw [if_neg (fun x => e x.symm), if_neg e]
    obtain ⟨g1, g2, g3, g4, g5⟩ := heap_setCells r (o + 1) (C.setIfInBounds o v) (W.setCell ⟨b, o, none⟩ v) (by rw [h1, if_pos rfl])
    simp only [World.setCells]
    refine ⟨fun k => ?_, ?_, g3, g4, g5⟩
    · rw [g1, h1]
      by_cases e : k = b
      · rw [if_pos e, if_pos e]; rfl
      · rw [if_neg e, if_neg e, if_neg e]
    · rw [g2]; simp [World.setCell]

def ones (l : List Value) : Bool := l.all one
def cellsL : Value → List Value
  | .agg cs => cs.toList
  | v => [v]
def noTuple : Value → Bool
  | .tuple _ | .chan _ => false
  | _ => true
theorem V.cellsL {μ : Mp} {v v' : Value} (h : V μ v v') (hn : noTuple v = true) : VL μ (cellsL v) v'.cells.toList := by
  cases h <;> first
    | (simp [noTuple] at hn; done)
    | (rename_i h1; exact h1)
    | (exact .cons (by first | exact .bool _ | exact .int _ _ | exact .string _ | exact .nilp | exact .nils | exact .zs | exact .nilm | exact .nilf | exact .nili | exact .ptr (by assumption) | exact .slice (by assumption) (by assumption) (by assumption) (by assumption) | exact .map (by assumption) | exact .func (by assumption) (by assumption) | exact .iface (by assumption)) .nil)
theorem cells_size (v : Value) : v.cells.size = v.cells.toList.length := by simp
theorem ones_right {μ : Mp} : ∀ {l l' : List Value}, VL μ l l' → ones l = true → ∀ v ∈ l', v.oneCell' = true
  | _, _, .nil, _, v, hv => by cases hv
  | _, _, .cons h k, ho, v, hv => by
    simp only [ones, List.all_cons, Bool.and_eq_true] at ho
    rcases List.mem_cons.1 hv with rfl | hv
    · exact h.one_right ho.1
    · exact ones_right k ho.2 v hv
theorem not_tuple_of_ones {v : Value} (h : ones (cellsL v) = true) : noTuple v = true := by
  cases v <;> first | rfl | (simp [cellsL, ones, one] at h)

/-- Cells put into a block. -/
def aputs (h : AH) (b o : Nat) (l : List Value) : Option AH := match h.at b with
  | .cells c n e false => match Nat.ble (o + l.length) n, ones l with
    | true, true => some (h.set b (.cells (c.putL o l) n e false))
    | _, _ => none
  | _ => none
theorem puts_ok {P : Program} {μ : Mp} {h h' : AH} {W : World} (s : Sim P μ h W) {b b' o : Nat} {z : Nat × Nat} (hb : μ b = some (b', z)) {l l' : List Value} (hl : VL μ l l') (ha : aputs h b o l = some h') :
    (storeCells ⟨b', o, none⟩ l').run P W = .ok () (W.setCells b' o l') ∧ Sim P μ h' (W.setCells b' o l') ∧ Stp μ μ h h' W (W.setCells b' o l') := by
  unfold aputs at ha
  split at ha
  · rename_i c n e ho
    split at ha
    · rename_i h1 h2
      cases ha
      have hle := Nat.le_of_ble_eq_true h1
      obtain ⟨C, fr, g1, g2, g3, g4, g5⟩ := s.cells hb ho
      have hlen := hl.length
      have hfr := g4 rfl
      have hrun := run_storeCells_cells (P := P) b' o l' 0 W (fun j hj => by rw [cell_of g1]; simp; omega) (fun j hj => by
        rw [frozen_of g1]
        have := hfr (o + 0 + j) (by omega)
        cases ha : decide (fr.1 ≤ o + 0 + j) with
        | false => simp
        | true => cases hb2 : decide (o + 0 + j < fr.2) with
          | false => simp
          | true => exact absurd ⟨of_decide_eq_true ha, of_decide_eq_true hb2⟩ this) (ones_right hl h2)
      simp only [Nat.add_zero] at hrun
      obtain ⟨k1, k2, k3, k4, k5⟩ := heap_setCells l' o C W g1
      have hlive : (h.at b).live = true := by rw [ho]; rfl
      have hwr : (h.at b).wr = true := by rw [ho]; rfl
      refine ⟨hrun, s.turn hb hlive _ _ _ k2 k1 ?_ , Stp.turn hb hwr _ _ _ k2 k1 k3 k4 k5⟩
      refine ⟨setA C o l', fr, rfl, by rw [setA_size]; exact g2, fun i v hi hv => ?_, fun _ => by rw [setA_size]; exact hfr, by rw [setA_size]; exact g5⟩
      rw [PT.get_putL] at hv
      rw [setA_get _ _ _ _ (by omega)]
      split at hv
      · rename_i hin
        rw [if_pos (by omega)]
        exact hl.get _ _ hv
      · rename_i hin
        rw [if_neg (by omega)]
        exact g3 i v hi hv
    · cases ha
  · cases ha

def astore (T : Tbl) (h : AH) (t : TypeId) (p v : Value) : Option AH := match p with
  | .pointer (some ⟨b, o, none⟩) => match T.lay.get t with
    | some (_, k) => match Nat.beq (cellsL v).length k with
      | true => aputs h b o (cellsL v)
      | false => none
    | none => none
  | _ => none
theorem aputs_ones {h h' : AH} {b o : Nat} {l : List Value} (ha : aputs h b o l = some h') : ones l = true := by
  unfold aputs at ha
  split at ha
  · split at ha
    · assumption
    · cases ha
  · cases ha
theorem store_ok {P : Program} {T : Tbl} (ok : TblOk P T) {μ : Mp} {h h' : AH} {W : World} (s : Sim P μ h W) {t : TypeId} {p p' v v' : Value} (hp : V μ p p') (hv : V μ v v') (hl : astore T h t p v = some h') :
    ∃ W', (Instr.storeAt t p' v').run P W = .ok () W' ∧ Sim P μ h' W' ∧ Stp μ μ h h' W W' := by
  unfold astore at hl
  split at hl
  · rename_i b o
    cases hp
    rename_i b' z hb
    split at hl
    · rename_i a k hk
      obtain ⟨d, i, i1, i2, i3, i4⟩ := ok.lay _ _ _ hk
      split at hl
      · rename_i hlen
        have hlen := Nat.eq_of_beq_eq_true hlen
        have hvl := hv.cellsL (not_tuple_of_ones (aputs_ones hl))
        obtain ⟨g1, g2, g3⟩ := puts_ok (P := P) s hb hvl hl
        have hsz : v'.cells.size = k := by rw [cells_size, ← hvl.length, hlen]
        refine ⟨_, ?_, g2, g3⟩
        simp only [Instr.storeAt, Instr.sureAddr, Sem.run_bind, Sem.run_pure, Result.andThen_ok, storeVar, run_sizeOf' i3, i4, hsz, ne_eq, not_true_eq_false, if_false]
        exact g1
      · cases hl
    · cases hl
  · cases hl

/-! ### New variables -/
def anew (h : AH) (t : TypeId) (l : List Value) (n : Nat) : AH := h.new (.cells (PT.ofL l) n t false)
def here (h : AH) : Value := .pointer (some ⟨h.next, 0, none⟩)
theorem new_ok {P : Program} {μ : Mp} {h : AH} {W : World} (s : Sim P μ h W) (t : TypeId) {l : List Value} {C : Array Value} (hl : VL μ l (C.toList.take l.length)) (hn : l.length ≤ C.size) (fr : Nat × Nat) (hfr : ∀ o, o < C.size → ¬ (fr.1 ≤ o ∧ o < fr.2)) (W' : World) (hW : W'.heap = W.heap.push (.cells C t fr)) (h1 : W'.os = W.os) (h2 : W'.tape = W.tape) (h3 : W'.output = W.output) :
    Sim P (ext μ h.next (W.heap.size, C.size, P.cellsOf t)) (anew h t l l.length) W' ∧ Stp μ (ext μ h.next (W.heap.size, C.size, P.cellsOf t)) h (anew h t l l.length) W W' := by
  refine ⟨s.made _ _ _ W' hW ?_, Stp.made s _ _ _ W' hW h1 h2 h3⟩
  refine ⟨C, fr, rfl, hn, fun i v hi hv => ?_, fun _ => hfr, rfl⟩
  rw [PT.get_ofL] at hv
  obtain ⟨v', g1, g2⟩ := hl.get i v hv
  rw [List.getElem?_take, if_pos hi, Array.getElem?_toList] at g1
  exact ⟨v', g1, g2.mono (sub_ext s _)⟩
theorem VL.self_take {μ : Mp} {l : List Value} {C : Array Value} (h : VL μ l C.toList) : VL μ l (C.toList.take l.length) ∧ l.length ≤ C.size := by
  have := h.length
  have hs : l.length = C.size := by simpa using this
  refine ⟨?_, by omega⟩
  rw [List.take_of_length_le (by simp; omega)]
  exact h
theorem V.here {μ : Mp} {h : AH} {n : Nat} {z : Nat × Nat} : V (ext μ h.next (n, z)) (here h) (.pointer (some ⟨n, 0, none⟩)) := .ptr (ext_self _ _ _)

def abox (h : AH) (t : TypeId) (v : Value) : Option (Value × AH) := match noTuple v with
  | true => some (here h, anew h t (cellsL v) (cellsL v).length)
  | false => none
theorem box_ok {P : Program} {μ : Mp} {h h' : AH} {W : World} (s : Sim P μ h W) {t : TypeId} {v v' p : Value} (hv : V μ v v') (ha : abox h t v = some (p, h')) :
    ∃ μ' p' W', (Instr.box t v').run P W = .ok p' W' ∧ V μ' p p' ∧ Sim P μ' h' W' ∧ Stp μ μ' h h' W W' := by
  unfold abox at ha
  split at ha
  · rename_i hn
    cases ha
    obtain ⟨h1, h2⟩ := (hv.cellsL hn).self_take
    obtain ⟨g1, g2⟩ := new_ok s t h1 h2 (0, 0) (fun o _ => by simp) { W with heap := W.heap.push (.cells v'.cells t) } rfl rfl rfl rfl
    exact ⟨_, _, _, by simp only [Instr.box, newVar, newRow, Sem.run_bind, run_newObj, Result.andThen_ok, Sem.run_pure], V.here, g1, g2⟩
  · cases ha
def aalloc (T : Tbl) (h : AH) (t : TypeId) : Option (Value × AH) := match T.zero t with
  | some z => abox h t z
  | none => none
theorem alloc_ok {P : Program} {T : Tbl} (ok : TblOk P T) {μ : Mp} {h h' : AH} {W : World} (s : Sim P μ h W) {t : TypeId} {p : Value} (ha : aalloc T h t = some (p, h')) :
    ∃ μ' p' W', (Instr.alloc t true (.tuple #[])).run P W = .ok p' W' ∧ V μ' p p' ∧ Sim P μ' h' W' ∧ Stp μ μ' h h' W W' := by
  unfold aalloc at ha
  split at ha
  · rename_i z hz
    obtain ⟨g1, g2⟩ := zero_ok ok hz W
    obtain ⟨μ', p', W', h1, h2, h3, h4⟩ := box_ok (P := P) s (V.of_plain (μ := μ) g2) ha
    refine ⟨μ', p', W', ?_, h2, h3, h4⟩
    simp only [Instr.box, Sem.run_bind] at h1
    simp only [Instr.alloc, Sem.run_bind, g1, Result.andThen_ok]
    exact h1
  · cases ha

end
end Go.Ab
