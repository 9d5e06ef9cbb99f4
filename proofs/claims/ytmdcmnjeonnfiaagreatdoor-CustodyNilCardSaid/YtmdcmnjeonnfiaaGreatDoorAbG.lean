import Derived.Test.YtmdcmnjeonnfiaaGreatDoorAbF
import Derived.Deep.AppendSrc
import Derived.Laws.Append
import Derived.Laws.AppendOwn
import Derived.Deep.Upon
import Derived.Lib.AppendZeros
set_option linter.unusedSimpArgs false
set_option linter.unusedVariables false
/-! New rows: slice literals, make, append. -/
namespace Go.Ab
noncomputable section

def reps (zl : List Value) : Nat → List Value
  | 0 => []
  | n + 1 => zl ++ reps zl n
theorem reps_length (zl : List Value) : ∀ n, (reps zl n).length = n * zl.length
  | 0 => by simp [reps]
  | n + 1 => by rw [reps, List.length_append, reps_length zl n, Nat.succ_mul]; omega
theorem reps_get (zl : List Value) : ∀ (n i : Nat), i < n * zl.length → (reps zl n)[i]? = zl[i % zl.length]?
  | 0, i, h => by omega
  | n + 1, i, h => by
    rw [reps]
    by_cases h1 : i < zl.length
    · rw [List.getElem?_append_left h1, Nat.mod_eq_of_lt h1]
    · have h2 : i % zl.length = (i - zl.length) % zl.length := Nat.mod_eq_sub_mod (by omega)
      rw [Nat.succ_mul] at h
      rw [List.getElem?_append_right (by omega), reps_get zl n _ (by omega), h2]
theorem VL.reps {μ : Mp} {zl zl' : List Value} (h : VL μ zl zl') : ∀ n, VL μ (reps zl n) (reps zl' n)
  | 0 => .nil
  | n + 1 => h.append (VL.reps h n)
theorem rep_map (cs : Array Value) (n : Nat) : ((Array.range (n * cs.size)).map (cs[· % cs.size]!)).toList = reps cs.toList n := by
  apply List.ext_getElem?
  intro i
  by_cases hi : i < n * cs.size
  · have hpos : 0 < cs.size := by
      rcases Nat.eq_zero_or_pos cs.size with h | h
      · rw [h] at hi; omega
      · exact h
    have hm : i % cs.size < cs.size := Nat.mod_lt _ hpos
    rw [reps_get _ _ _ (by simpa using hi)]
    simp only [Array.toList_map, List.getElem?_map, Array.getElem?_toList, Array.length_toList]
    rw [Array.getElem?_eq_getElem (by simpa using hi)]
    simp [hm]
  · rw [List.getElem?_eq_none (by simp; omega), List.getElem?_eq_none (by rw [reps_length]; simp; omega)]
theorem cellsL_cells {z : Value} (h : noTuple z = true) : cellsL z = z.cells.toList := by
  cases z <;> first | rfl | (simp [noTuple] at h)

def aslc (h : AH) (n c : Nat) : Value := .slice (some ⟨h.next, 0, none⟩) n c
theorem V.slc {μ : Mp} {h : AH} {b n c c' sz k : Nat} (h1 : n ≤ c) (h2 : c ≤ c') (h3 : c' = c ∨ 0 + c' * k ≤ sz) : V (ext μ h.next (b, sz, k)) (aslc h n c) (.slice (some ⟨b, 0, none⟩) n c') := .slice (ext_self _ _ _) h1 h2 h3

def abuildSlice (T : Tbl) (h : AH) (t : TypeId) (len : Nat) (parts : List (Nat × Value)) : Option (Value × AH) := match T.und t with
  | some (.slice e) => match T.size e with
    | some k => match len, parts with
      | 0, [] => some (aslc h 0 0, anew h e [] 0)
      | n + 1, ps => match T.zero e with
        | some z => match Nat.beq (cellsL z).length k, Nat.ble 1 k, Nat.ble ((n + 1) * k) 16777216 with
          | true, true, true => match afill (fun i => some (i * k, k)) (reps (cellsL z) (n + 1)) ps with
            | some cs => some (aslc h (n + 1) (n + 1), anew h e cs cs.length)
            | none => none
          | _, _, _ => none
        | none => none
      | _, _ => none
    | none => none
  | _ => none
theorem buildSlice_ok {P : Program} {T : Tbl} (ok : TblOk P T) {μ : Mp} {h h' : AH} {W : World} (s : Sim P μ h W) {t : TypeId} {len : Nat} {parts : List (Nat × Value)} {parts' : Array (Nat × Value)} {v : Value} (hp : VP μ parts parts'.toList)
    (ha : abuildSlice T h t len parts = some (v, h')) : ∃ μ' v' W', (Instr.buildSlice t len parts').run P W = .ok v' W' ∧ V μ' v v' ∧ Sim P μ' h' W' ∧ Stp μ μ' h h' W W' := by
  unfold abuildSlice at ha
  split at ha
  · rename_i e hs
    have hu := und_ok ok hs
    split at ha
    · rename_i k hk
      obtain ⟨ie, e1, e2⟩ := info_of_size ok hk
      split at ha
      · cases ha
        have hpe : parts' = #[] := by
          cases hp' : parts'.toList with
          | nil => exact Array.toList_eq_nil_iff.1 hp'
          | cons a l => rw [hp'] at hp; cases hp
        subst hpe
        obtain ⟨g1, g2⟩ := new_ok (P := P) s e (l := []) (C := #[]) .nil (Nat.le_refl _) (0, 0) (fun o ho => by simp at ho) { W with heap := W.heap.push (.cells #[] e) } rfl rfl rfl rfl
        refine ⟨_, _, _, ?_, V.slc (Nat.le_refl _) (Nat.le_refl _) (.inl rfl), g1, g2⟩
        simp [Instr.buildSlice, run_underlying hu, size_ok ok hk, Instr.fill, newRow]
        congr 2
        apply Array.ext'
        simp
      · rename_i n
        split at ha
        · rename_i z hz
          obtain ⟨iz, z1, z2, z3⟩ := zero_of ok hz
          split at ha
          · rename_i q1 q2 q3
            have q1 := Nat.eq_of_beq_eq_true q1
            have q2 := Nat.le_of_ble_eq_true q2
            have q3 := Nat.le_of_ble_eq_true q3
            split at ha
            · rename_i cs hcs
              cases ha
              have hnt := plain_noTuple z3
              have hzv := (V.of_plain (μ := μ) z3).cellsL hnt
              have hcl := cellsL_cells hnt
              have hzs : z.cells.size = k := by rw [cells_size, ← hcl, q1]
              have heq : iz = ie := by rw [e1] at z1; cases z1; rfl
              subst heq
              have hpos : 0 < (n + 1) * k := Nat.mul_pos (by omega) (by omega)
              obtain ⟨r', g1, g2⟩ := afill_ok (place' := fun i => some (i * iz.size, iz.size)) (fun i x hx => by rw [e2]; exact hx) hp (cs' := (Array.range ((n + 1) * iz.size)).map (z.cells[· % z.cells.size]!)) (by
                rw [e2, ← hzs, rep_map]; exact VL.reps hzv _) hcs
              have hrun := run_buildSlice W t e (n + 1) parts' r' iz z hu e1 z2 (by rw [e2]; omega) (by rw [e2]; omega) g1
              obtain ⟨h1, h2⟩ := g2.self_take
              obtain ⟨f1, f2⟩ := new_ok (P := P) s e h1 h2 (0, 0) (fun o ho => by simp) (W.alloc (.cells r' e)) rfl rfl rfl rfl
              exact ⟨_, _, _, hrun, V.slc (Nat.le_refl _) (Nat.le_refl _) (.inl rfl), f1, f2⟩
            · cases ha
          · cases ha
        · cases ha
      · cases ha
    · cases ha
  · cases ha

def amakeSlice (T : Tbl) (h : AH) (t : TypeId) (l c : Value) : Option (Value × AH) := match l, c with
  | .int _ (.ofNat n), .int _ (.ofNat m) => match T.und t with
    | some (.slice e) => match T.ty.get e, T.size e, T.zero e with
      | some i, some k, some z => match Nat.ble n m, Nat.ble (i.bytes * m) 70368744177664, Nat.ble m 70368744177664, Nat.beq (cellsL z).length k, Nat.ble 1 k with
        | true, true, true, true, true => some (aslc h n m, anew h e (reps (cellsL z) m) (reps (cellsL z) m).length)
        | _, _, _, _, _ => none
      | _, _, _ => none
    | _ => none
  | _, _ => none
theorem makeSlice_ok {P : Program} {T : Tbl} (ok : TblOk P T) {μ : Mp} {h h' : AH} {W : World} (s : Sim P μ h W) {t : TypeId} {l l' c c' v : Value} (hl : V μ l l') (hc : V μ c c') (ha : amakeSlice T h t l c = some (v, h')) :
    ∃ μ' v' W', (Instr.makeSlice t l' c').run P W = .ok v' W' ∧ V μ' v v' ∧ Sim P μ' h' W' ∧ Stp μ μ' h h' W W' := by
  unfold amakeSlice at ha
  split at ha
  · rename_i k1 n k2 m
    cases hl; cases hc
    split at ha
    · rename_i e hs
      have hu := und_ok ok hs
      split at ha
      · rename_i i k z hi hk hz
        have hinfo := ok.ty _ _ hi
        obtain ⟨iz, z1, z2, z3⟩ := zero_of ok hz
        split at ha
        · rename_i q1 q2 q3 q4 q5
          cases ha
          have q1 := Nat.le_of_ble_eq_true q1
          have q2 := Nat.le_of_ble_eq_true q2
          have q3 := Nat.le_of_ble_eq_true q3
          have q4 := Nat.eq_of_beq_eq_true q4
          have q5 := Nat.le_of_ble_eq_true q5
          have hnt := plain_noTuple z3
          have hzv := (V.of_plain (μ := μ) z3).cellsL hnt
          have hcl := cellsL_cells hnt
          have hzs : z.cells.size = k := by rw [cells_size, ← hcl, q4]
          have w1 : IntKind.i64.wrap (Int.ofNat n) = (n : Int) := IntWalk.i64_in _ (by simp only [Int.ofNat_eq_natCast]; omega)
          have w2 : IntKind.i64.wrap (Int.ofNat m) = (m : Int) := IntWalk.i64_in _ (by simp only [Int.ofNat_eq_natCast]; omega)
          have hrm := rep_map z.cells m
          have hlen : (reps (cellsL z) m).length = m * k := by rw [reps_length, q4]
          have hsz : ((Array.range (m * k)).map (z.cells[· % z.cells.size]!)).toList = reps (cellsL z) m := by rw [hcl, ← hrm, hzs]
          obtain ⟨f1, f2⟩ := new_ok (P := P) s e (l := reps (cellsL z) m) (C := (Array.range (m * k)).map (z.cells[· % z.cells.size]!)) (by
            rw [hsz, List.take_of_length_le (Nat.le_refl _)]; rw [hcl] at hzv ⊢; exact VL.reps hzv m) (by simp [hlen]) (0, 0) (fun o ho => by simp) { W with heap := W.heap.push (.cells ((Array.range (m * k)).map (z.cells[· % z.cells.size]!)) e) } rfl rfl rfl rfl
          refine ⟨_, _, _, ?_, V.slc q1 (Nat.le_refl _) (.inl rfl), f1, f2⟩
          have hb : ((i.bytes : Int) * (m : Int)) ≤ 70368744177664 := by rw [← Int.natCast_mul]; exact Int.ofNat_le.2 q2
          have e48 : (2 : Int) ^ 48 = 281474976710656 := by decide
          have t1 : ¬ ((i.bytes : Int) * (m : Int) > 2 ^ 48) := by rw [e48]; omega
          simp only [Instr.makeSlice, Sem.run_bind, run_underlying hu, Result.andThen_ok, asInt, asIntOf, Sem.run_pure, run_typeInfo W hinfo, w1, w2]
          have t2 : (decide ((m : Int) < 0) || decide ((i.bytes : Int) * (m : Int) > 2 ^ 48)) = false := Bool.or_eq_false_iff.2 ⟨decide_eq_false (by omega), decide_eq_false t1⟩
          have t3 : ¬ ((n : Int) < 0) := by omega
          have t4 : ¬ ((n : Int) > (m : Int)) := by omega
          simp only [t2, t3, t4, decide_false, Bool.or_self, Bool.false_eq_true, if_false, Sem.run_bind, run_askRoom, Result.andThen_ok, Int.toNat_natCast, size_ok ok hk]
          by_cases hm0 : m * k = 0
          · simp only [hm0, if_true, Sem.run_pure, Result.andThen_ok, newRow, run_newObj, Sem.run_bind]
            have hr : ∀ f : Nat → Value, (Array.range 0).map f = #[] := fun f => by apply Array.ext'; simp
            rw [hr, hr]
          · simp only [hm0, if_false, Sem.run_bind, (zero_ok ok hz W).1, Sem.run_pure, Result.andThen_ok, newRow, run_newObj]
        · cases ha
      · cases ha
    · cases ha
  · cases ha

/-! ### What is appended -/
def bcells (s : ByteArray) : List Value := s.data.toList.map fun b => .int .u8 b.toNat
def asrc (T : Tbl) (h : AH) (tx : TypeId) (k : Nat) (x : Value) : Option (Nat × List Value) := match T.und tx, x with
  | some (.slice _), .slice none 0 0 => some (0, [])
  | some (.slice _), .slice (some ⟨b, o, none⟩) m _ => match h.at b with
    | .cells c n _ _ => match Nat.ble (o + m * k) n with
      | true => match c.takeL o (m * k) with
        | some l => match ones l with
          | true => some (m, l)
          | false => none
        | none => none
      | false => none
    | _ => none
  | some (.slice _), .slice (some ⟨0, 0, some 0⟩) 0 0 => some (0, [])
  | some .string, .string s => match Nat.beq k 1 with
    | true => some (s.size, bcells s)
    | false => none
  | _, _ => none
theorem V.bytes {μ : Mp} (s : ByteArray) : VL μ (bcells s) (byteCells s) := by
  unfold bcells byteCells
  generalize s.data.toList = l
  induction l with
  | nil => exact .nil
  | cons b l ih => exact .cons (.int _ _) ih
theorem asrc_ok {P : Program} {T : Tbl} (ok : TblOk P T) {μ : Mp} {h : AH} {W : World} (s : Sim P μ h W) {tx : TypeId} {k m : Nat} {x x' : Value} {l : List Value} (hx : V μ x x') (ha : asrc T h tx k x = some (m, l)) :
    ∃ l', Src P k tx x' m l' W ∧ VL μ l l' ∧ l.length = m * k := by
  unfold asrc at ha
  split at ha
  · rename_i e hs
    cases ha; cases hx
    exact ⟨[], Src.ofNil W (und_ok ok hs) 0, .nil, by simp⟩
  · rename_i e b o m' c' hs
    split at ha
    · rename_i c n e' fz ho
      split at ha
      · rename_i hle
        have hle := Nat.le_of_ble_eq_true hle
        split at ha
        · rename_i l0 hl0
          split at ha
          · rename_i hone
            cases ha
            cases hx with | @slice _ b' _ _ _ c'' sz0 k0 hb k1 k2 k3 =>
            obtain ⟨C, fr, h1, h2, h3, h4, h5⟩ := s.cells hb ho
            obtain ⟨g1, g2⟩ := Sim.row h3 h2 hl0 hle
            refine ⟨_, Src.ofSlice W (und_ok ok hs) ⟨b', o, none⟩ m c'' _ g2 (fun j u hj => ?_) (ones_right g1 hone), g1, by rw [g1.length, g2]⟩
            rw [addr_add, cell_of h1]
            rw [List.getElem?_take] at hj
            split at hj
            · rw [List.getElem?_drop, Array.getElem?_toList] at hj; exact hj
            · cases hj
          · cases ha
        · cases ha
      · cases ha
    · cases ha
  · rename_i e hs
    cases ha
    cases hx with | @zs b' o' c' sp =>
    refine ⟨[], Src.ofSlice W (und_ok ok hs) ⟨b', o', sp⟩ 0 c' [] (by simp) (fun j u hj => by simp at hj) (fun u hu => by cases hu), .nil, by simp⟩
  · rename_i s' hs
    split at ha
    · rename_i hk
      have hk := Nat.eq_of_beq_eq_true hk
      subst hk
      cases ha; cases hx
      exact ⟨_, Src.ofString W (und_ok ok hs) s', V.bytes s', by unfold bcells; rw [List.length_map, Array.length_toList, Nat.mul_one]; rfl⟩
    · cases ha
  · cases ha

def aappend (T : Tbl) (h : AH) (t tx : TypeId) (s x : Value) : Option (Value × AH) := match T.und t with
  | some (.slice e) => match T.ty.get e, T.size e, T.zero e with
    | some i, some k, some z => match asrc T h tx k x, Nat.beq (cellsL z).length k with
      | some (m, l), true => match s with
        | .slice none 0 0 => match m with
          | 0 => some (.slice none 0 0, h)
          | m + 1 => match Nat.ble ((m + 1) * i.bytes) 70368744177664, Nat.ble (m + 1) 70368744177664 with
            | true, true => some (aslc h (m + 1) (m + 1), anew h e l l.length)
            | _, _ => none
        | .slice (some ⟨b, o, none⟩) n c => match Nat.ble (n + m) c with
          | true => match aputs h b (o + n * k) l with
            | some h' => some (.slice (some ⟨b, o, none⟩) (n + m) c, h')
            | none => none
          | false => match h.at b with
            | .cells d N e' false => match Nat.beq o 0, Nat.ble (n * k) N, Nat.beq e e', Nat.ble ((n + m) * i.bytes) 70368744177664, Nat.ble (n + m) 70368744177664 with
              | true, true, true, true, true => some (aslc h (n + m) (n + m), ((h.set b .dead).new (.cells (d.putL (n * k) l) (n * k + l.length) e false)))
              | _, _, _, _, _ => none
            | _ => none
        | _ => none
      | _, _ => none
    | _, _, _ => none
  | _ => none

theorem grow_new' {P : Program} {μ : Mp} {h : AH} {W : World} (s : Sim P μ h W) {e : TypeId} {k G need : Nat} {z : Array Value} (hz : z.size = k) (hG : need ≤ G) {c : PT Value} {L' : List Value}
    (hL : ∀ i v, i < need * k → c.get i = some v → ∃ v', L'[i]? = some v' ∧ V μ v v') (hlen : L'.length = need * k) (hk : P.cellsOf e = k) :
    ∃ y, Sim P (ext μ h.next (W.heap.size, y)) (h.new (.cells c (need * k) e false)) (W.drew.alloc (.cells (L'.toArray ++ Builtin.zeroCells z (G - need)) e)) ∧
      Stp μ (ext μ h.next (W.heap.size, y)) h (h.new (.cells c (need * k) e false)) W (W.drew.alloc (.cells (L'.toArray ++ Builtin.zeroCells z (G - need)) e)) ∧ 0 + G * y.2 ≤ y.1 := by
  have hsz : (L'.toArray ++ Builtin.zeroCells z (G - need)).size = G * k := by
    simp only [Array.size_append, List.size_toArray, Builtin.zeroCells, Array.size_map, Array.size_range, hz]
    rw [hlen, ← Nat.add_mul]; congr 1; omega
  refine ⟨((L'.toArray ++ Builtin.zeroCells z (G - need)).size, P.cellsOf e), s.made _ (.cells (L'.toArray ++ Builtin.zeroCells z (G - need)) e (0, 0)) _ _ rfl ?_, Stp.made s _ (.cells (L'.toArray ++ Builtin.zeroCells z (G - need)) e (0, 0)) _ _ rfl rfl rfl rfl, ?_⟩
  · refine ⟨_, (0, 0), rfl, by rw [hsz]; exact Nat.mul_le_mul_right _ hG, fun i v hi hv => ?_, fun _ o _ => by simp, rfl⟩
    obtain ⟨v', g1, g2⟩ := hL i v hi hv
    refine ⟨v', ?_, g2.mono (sub_ext s _)⟩
    rw [Array.getElem?_append_left (by simp [hlen]; exact hi)]
    simpa using g1
  · simp only [hsz, hk]; omega
theorem grow_new {P : Program} {μ : Mp} {h : AH} {W : World} (s : Sim P μ h W) {e : TypeId} {k G need : Nat} {z : Array Value} (hz : z.size = k) (hG : need ≤ G) {L : List Value} {L' : List Value} (hL : VL μ L L') (hlen : L.length = need * k) (hk : P.cellsOf e = k) :
    ∃ y, Sim P (ext μ h.next (W.heap.size, y)) (anew h e L L.length) (W.drew.alloc (.cells (L'.toArray ++ Builtin.zeroCells z (G - need)) e)) ∧
      Stp μ (ext μ h.next (W.heap.size, y)) h (anew h e L L.length) W (W.drew.alloc (.cells (L'.toArray ++ Builtin.zeroCells z (G - need)) e)) ∧ 0 + G * y.2 ≤ y.1 := by
  have := grow_new' (P := P) s (e := e) (c := PT.ofL L) hz hG (L' := L') (fun i v hi hv => hL.get i v (by rw [PT.get_ofL] at hv; exact hv)) (by rw [← hL.length, hlen]) hk
  unfold anew
  rw [hlen]
  exact this

theorem append_ok {P : Program} {T : Tbl} (ok : TblOk P T) {μ : Mp} {h h' : AH} {W : World} (s : Sim P μ h W) {t tx ty : TypeId} {a a' x x' v : Value} (hs : V μ a a') (hx : V μ x x') (ha : aappend T h t tx a x = some (v, h')) :
    ∃ μ' v' W', (Builtin.append_ #[t, tx] ty #[a', x']).run P W = .ok v' W' ∧ V μ' v v' ∧ Sim P μ' h' W' ∧ Stp μ μ' h h' W W' := by
  unfold aappend at ha
  split at ha
  · rename_i e ht
    have hu := und_ok ok ht
    split at ha
    · rename_i i k z hi hk hz
      have hinfo := ok.ty _ _ hi
      obtain ⟨iz, z1, z2, z3⟩ := zero_of ok hz
      have : iz = i := by rw [hinfo] at z1; cases z1; rfl
      subst this
      obtain ⟨i2, e1, e2⟩ := info_of_size ok hk
      have : i2 = iz := by rw [hinfo] at e1; cases e1; rfl
      subst this
      subst e2
      have hce := (cellsOf_ok ok hk).1
      split at ha
      · rename_i m l hsrc hzl
        have hzl := Nat.eq_of_beq_eq_true hzl
        have hzs : z.cells.size = i2.size := by rw [cells_size, ← cellsL_cells (plain_noTuple z3), hzl]
        obtain ⟨l', q1, q2, q3⟩ := asrc_ok ok s hx hsrc
        split at ha
        · cases hs
          split at ha
          · cases ha
            have hl0 : l' = [] := by
              have := q2.length
              rw [q3] at this
              simpa using this.symm
            subst hl0
            exact ⟨μ, _, W, run_append_nothing W t tx ty e i2 hu hinfo none 0 0 (Nat.le_refl _) x' q1, .nils, s, Stp.refl μ h W⟩
          · rename_i m
            split at ha
            · rename_i b1 b2
              cases ha
              have b1 := Nat.le_of_ble_eq_true b1
              have b2 := Nat.le_of_ble_eq_true b2
              have hG : m + 1 ≤ grownCap W (m + 1) 0 e := grownCap_ge _ _ _ _
              have hrun := run_append_grow_src W t tx ty e i2 z hu hinfo z2 none 0 0 [] (run_firstCells_none _ _ _ _ _) x' (m + 1) l' q1 (by omega) (by omega) (by
                rw [Nat.zero_add, nextslicecap_zero (by omega)]; omega)
              simp only [Nat.zero_add, List.nil_append] at hrun
              obtain ⟨y, f1, f2, f3⟩ := grow_new (P := P) s (e := e) (k := i2.size) (G := grownCap W (m + 1) 0 e) (need := m + 1) hzs hG q2 q3 hce
              exact ⟨_, _, _, hrun, V.slc (Nat.le_refl _) hG (.inr f3), f1, f2⟩
            · cases ha
        · rename_i b o n c
          cases hs with | @slice _ b' _ _ _ c' sz0 k0 hb k1 k2 k3 =>
          split at ha
          · rename_i hroom
            have hroom := Nat.le_of_ble_eq_true hroom
            split at ha
            · rename_i h1 hput
              cases ha
              obtain ⟨g1, g2, g3⟩ := puts_ok (P := P) s hb q2 hput
              have hput' := hput
              unfold aputs at hput
              split at hput
              · rename_i d N e' ho
                obtain ⟨C, fr, f1, f2, f3, f4, f5⟩ := s.cells hb ho
                split at hput
                · rename_i r1 r2
                  have r1 := Nat.le_of_ble_eq_true r1
                  have hll := q2.length
                  have hrun := run_append_room_src W t tx ty e i2 hu hinfo b' o n c' x' m l' q1 (by omega) (fun j hj => by rw [cell_of f1]; simp; omega) (fun j hj => by
                    rw [frozen_of f1]
                    have := f4 rfl (o + n * i2.size + j) (by omega)
                    cases ha : decide (fr.1 ≤ o + n * i2.size + j) with
                    | false => simp
                    | true => cases hb2 : decide (o + n * i2.size + j < fr.2) with
                      | false => simp
                      | true => exact absurd ⟨of_decide_eq_true ha, of_decide_eq_true hb2⟩ this)
                  exact ⟨_, _, _, hrun, .slice hb (by omega) k2 k3, g2, g3⟩
                · cases hput
              · cases hput
            · cases ha
          · rename_i hnr
            have hnr : ¬ (n + m ≤ c) := fun hle => by rw [Nat.ble_eq_true_of_le hle] at hnr; cases hnr
            split at ha
            · rename_i d N e' ho
              split at ha
              · rename_i r1 r2 r3 r4 r5
                cases ha
                have r1 := Nat.eq_of_beq_eq_true r1
                have r2 := Nat.le_of_ble_eq_true r2
                have r3 := Nat.eq_of_beq_eq_true r3
                have r4 := Nat.le_of_ble_eq_true r4
                have r5 := Nat.le_of_ble_eq_true r5
                subst r1 r3
                obtain ⟨C, fr, f1, f2, f3, f4, f5⟩ := s.cells hb ho
                have hlive : (h.at b).live = true := by rw [ho]; rfl
                have hwr : (h.at b).wr = true := by rw [ho]; rfl
                have g2 : (C.toList.take (n * i2.size)).length = n * i2.size := by simp; omega
                have hkk : k0 = i2.size := by rw [← hce]; exact congrArg Prod.snd f5
                have hszz : sz0 = C.size := congrArg Prod.fst f5
                subst hkk hszz
                have hll := q2.length
                have hnm : n * i2.size + l.length = (n + m) * i2.size := by rw [q3, Nat.add_mul]
                by_cases hroom : n + m ≤ c'
                · -- in place
                  have hcap : c' * i2.size ≤ C.size := by
                    rcases k3 with k3 | k3
                    · omega
                    · omega
                  have hfit : n * i2.size + m * i2.size ≤ C.size := by
                    have : n * i2.size + m * i2.size ≤ c' * i2.size := by rw [← Nat.add_mul]; exact Nat.mul_le_mul_right _ hroom
                    omega
                  have hrun := run_append_room_src W t tx ty e i2 hu hinfo b' 0 n c' x' m l' q1 hroom (fun j hj => by rw [cell_of f1]; simp; omega) (fun j hj => by
                    rw [frozen_of f1]
                    have := f4 rfl (0 + n * i2.size + j) (by omega)
                    cases ha : decide (fr.1 ≤ 0 + n * i2.size + j) with
                    | false => simp
                    | true => cases hb2 : decide (0 + n * i2.size + j < fr.2) with
                      | false => simp
                      | true => exact absurd ⟨of_decide_eq_true ha, of_decide_eq_true hb2⟩ this)
                  simp only [Nat.zero_add] at hrun
                  obtain ⟨p1, p2, p3, p4, p5⟩ := heap_setCells l' (n * i2.size) C W f1
                  refine ⟨_, _, _, hrun, V.slc (Nat.le_refl _) hroom (.inr ?_), s.moved hb hlive _ _ _ p2 p1 ?_, Stp.moved s hb hwr _ _ _ p2 p1 p3 p4 p5⟩
                  · rw [Nat.zero_add]; exact hcap
                  · refine ⟨setA C (n * i2.size) l', fr, rfl, by rw [setA_size, q3]; exact hfit, fun j u hj hu => ?_, fun _ => by rw [setA_size]; exact f4 rfl, by rw [setA_size, hce]⟩
                    rw [PT.get_putL] at hu
                    rw [setA_get _ _ _ _ (by omega)]
                    rw [q3] at hj
                    split at hu
                    · rw [if_pos (by omega)]
                      obtain ⟨u', w1, w2⟩ := q2.get _ u hu
                      exact ⟨u', w1, w2.mono (sub_ext s _)⟩
                    · rw [if_neg (by omega)]
                      obtain ⟨u', w1, w2⟩ := f3 j u (by omega) hu
                      exact ⟨u', w1, w2.mono (sub_ext s _)⟩
                · -- grown
                  have hG : n + m ≤ grownCap W (n + m) c' e := grownCap_ge _ _ _ _
                  have hold : (Builtin.firstCells i2.size n (.slice (some ⟨b', 0, none⟩) n c')).run P W.drew = .ok (C.toList.take (n * i2.size)).toArray W.drew :=
                    run_firstCells_some W.drew i2.size n ⟨b', 0, none⟩ n c' _ g2 (fun j u hj => by
                      rw [addr_add, cell_of (W := W.drew) f1, Nat.zero_add]
                      rw [List.getElem?_take] at hj
                      split at hj
                      · rw [Array.getElem?_toList] at hj; exact hj
                      · cases hj)
                  have hrun := run_append_grow_src W t tx ty e i2 z hu hinfo z2 (some ⟨b', 0, none⟩) n c' _ hold x' m l' q1 (by omega) (by omega) (growslice_fits (by omega) (by omega))
                  have s1 := s.kill hb hlive
                  obtain ⟨y, w1, w2, w3⟩ := grow_new' (P := P) s1 (e := e) (k := i2.size) (G := grownCap W (n + m) c' e) (need := n + m) (c := d.putL (n * i2.size) l) hzs hG (L' := C.toList.take (n * i2.size) ++ l') (fun j u hj hu => by
                    rw [PT.get_putL] at hu
                    split at hu
                    · rw [List.getElem?_append_right (by omega), g2]
                      exact q2.get _ u hu
                    · rename_i hno
                      have hjn : j < n * i2.size := by omega
                      obtain ⟨u', w1, w2⟩ := f3 j u (by omega) hu
                      refine ⟨u', ?_, w2⟩
                      rw [List.getElem?_append_left (by omega), List.getElem?_take, if_pos hjn, Array.getElem?_toList]
                      exact w1) (by rw [List.length_append, g2, ← hll]; exact hnm) hce
                  rw [hnm]
                  exact ⟨_, _, _, hrun, V.slc (Nat.le_refl _) hG (.inr w3), w1, Stp.trans s1 (Stp.kill s hb hwr) w2⟩
              · cases ha
            · cases ha
        · cases ha
      · cases ha
    · cases ha
  · cases ha

def aappendZ (T : Tbl) (h : AH) (t tx : TypeId) (s x : Value) : Option (Value × AH) := match T.und t, T.und tx, s, x with
  | some (.slice e), some (.int _), .slice none 0 0, .int _ (.ofNat (n + 1)) => match T.ty.get e, T.size e, T.zero e with
    | some i, some k, some z => match Nat.beq (cellsL z).length k, Nat.ble 1 k, Nat.ble ((n + 1) * i.bytes) 70368744177664, Nat.ble (n + 1) 70368744177664 with
      | true, true, true, true => some (aslc h (n + 1) (n + 1), anew h e (reps (cellsL z) (n + 1)) (reps (cellsL z) (n + 1)).length)
      | _, _, _, _ => none
    | _, _, _ => none
  | _, _, _, _ => none
theorem appendZ_ok {P : Program} {T : Tbl} (ok : TblOk P T) {μ : Mp} {h h' : AH} {W : World} (s : Sim P μ h W) {t tx ty : TypeId} {a a' x x' v : Value} (hs : V μ a a') (hx : V μ x x') (ha : aappendZ T h t tx a x = some (v, h')) :
    ∃ μ' v' W', (Builtin.append_ #[t, tx] ty #[a', x']).run P W = .ok v' W' ∧ V μ' v v' ∧ Sim P μ' h' W' ∧ Stp μ μ' h h' W W' := by
  unfold aappendZ at ha
  split at ha
  · rename_i e kn kx n ht htx
    cases hs; cases hx
    split at ha
    · rename_i i k z hi hk hz
      have hinfo := ok.ty _ _ hi
      obtain ⟨iz, z1, z2, z3⟩ := zero_of ok hz
      have : iz = i := by rw [hinfo] at z1; cases z1; rfl
      subst this
      obtain ⟨i2, e1, e2⟩ := info_of_size ok hk
      have : i2 = iz := by rw [hinfo] at e1; cases e1; rfl
      subst this
      subst e2
      have hce := (cellsOf_ok ok hk).1
      split at ha
      · rename_i q1 q2 q3 q4
        cases ha
        have q1 := Nat.eq_of_beq_eq_true q1
        have q2 := Nat.le_of_ble_eq_true q2
        have q3 := Nat.le_of_ble_eq_true q3
        have q4 := Nat.le_of_ble_eq_true q4
        have hcl := cellsL_cells (plain_noTuple z3)
        have hzs : z.cells.size = i2.size := by rw [cells_size, ← hcl, q1]
        have hG : n + 1 ≤ grownCap W (n + 1) 0 e := grownCap_ge _ _ _ _
        have hrun := Lib.run_append_nil_zeros W t tx ty e i2 z kx kn (und_ok ok ht) (und_ok ok htx) hinfo z2 (n + 1) (by omega) (by omega) (by omega) (by omega)
        have hzv := (V.of_plain (μ := μ) z3).cellsL (plain_noTuple z3)
        obtain ⟨y, w1, w2, w3⟩ := grow_new (P := P) s (e := e) (k := i2.size) (G := grownCap W (n + 1) 0 e) (need := n + 1) hzs hG (L' := reps z.cells.toList (n + 1)) (VL.reps hzv (n + 1)) (by rw [reps_length, q1]) hce
        have harr : (reps z.cells.toList (n + 1)).toArray = Builtin.zeroCells z.cells (n + 1) := by
          apply Array.ext'
          rw [← rep_map]; rfl
        rw [harr] at w1 w2
        exact ⟨_, _, _, hrun, V.slc (Nat.le_refl _) hG (.inr w3), w1, w2⟩
      · cases ha
    · cases ha
  · cases ha

end
end Go.Ab
