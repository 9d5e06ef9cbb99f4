import Derived.Test.YtmdcmnjeonnfiaaGreatDoorAbI
import Derived.Lib.MakeNoZero
import Derived.Laws.Externs
import Derived.Lib.UnsafeStr
import Derived.Lib.Bytealg
set_option linter.unusedSimpArgs false
set_option linter.unusedVariables false
/-! Functions without a body; unsafe.String; one operation whole. -/
namespace Go.Ab
noncomputable section

structure EnvOk (P : Program) (E : Env) : Prop where
  tbl : TblOk P E.T
  own : ∀ f fn, E.own.get f = some fn → P.funcs[f]? = some fn ∧ fn.name ≠ "runtime.NumGoroutine"
  ext : ∀ f code, E.ext.get f = some code → ∃ fn, P.funcs[f]? = some fn ∧ (fn.name == "runtime.NumGoroutine") = false ∧ fn.body.isNone = true ∧ Extern.findNext fn = none ∧
    (code.1 = 1 → Extern.find fn = some Extern.AbiNoEscape.same) ∧ (code.1 = 2 → Extern.find fn = some Extern.BytealgIndexByte.indexByte) ∧ (code.1 = 3 → Extern.find fn = some Extern.BytealgCount.count) ∧
    (code.1 = 4 → ∃ ps rs t, Extern.find fn = some (Extern.BytealgMakeNoZero.makeNoZero ps rs) ∧ rs[0]? = some t ∧ P.underlying t = some (.slice code.2) ∧ P.cellsOf code.2 = 1)

theorem find_range (p : UInt8 → Bool) : ∀ (l : List UInt8) (k : Nat) (f : Nat → UInt8), (∀ j x, l[j]? = some x → f (k + j) = x) → (List.range' k l.length).find? (fun i => p (f i)) = (l.findIdx? p).map (· + k)
  | [], k, f, _ => by simp
  | x :: l, k, f, hf => by
    simp only [List.length_cons, List.range'_succ, List.find?_cons, List.findIdx?_cons]
    have h0 : f k = x := hf 0 x rfl
    rw [h0]
    cases hp : p x with
    | true => simp
    | false =>
      simp only [Bool.false_eq_true, if_false]
      rw [find_range p l (k + 1) f (fun j y hj => by have := hf (j + 1) y (by simpa using hj); rw [← this]; congr 1; omega)]
      cases l.findIdx? p <;> simp [Nat.add_assoc, Nat.add_comm 1 k]
theorem get_bang {s : ByteArray} {j : Nat} {x : UInt8} (h : s.data.toList[j]? = some x) : s[j]! = x := by
  have := bget_some h
  have hj : j < s.size := by simpa using (List.getElem?_eq_some_iff.1 h).1
  rw [getElem!_pos s j hj]
  rw [getElem?_pos s j hj] at this
  cases this; rfl
theorem ofNat_eq {b : UInt8} {c : Nat} (hc : c ≤ 255) : (b == UInt8.ofNat c) = (b.toNat == c) := by
  rw [Bool.eq_iff_iff]
  simp only [beq_iff_eq]
  constructor
  · intro h; rw [h]; simp; omega
  · intro h
    apply UInt8.toNat_inj.1
    rw [h]; simp; omega

section
variable {P : Program} {E : Env} (ok : EnvOk P E) {μ : Mp} {h : AH} {W : World}
include ok

omit ok in
theorem VL.two {μ : Mp} {a b : Value} {l : Array Value} (h : VL μ [a, b] l.toList) : ∃ a' b', l = #[a', b'] ∧ V μ a a' ∧ V μ b b' := by
  cases hl : l.toList with
  | nil => rw [hl] at h; cases h
  | cons x r =>
    rw [hl] at h
    cases h with | cons g1 g2 =>
    cases g2 with | cons g2 g3 =>
    cases g3
    exact ⟨_, _, by apply Array.ext'; simpa using hl, g1, g2⟩
omit ok in
theorem VL.one {μ : Mp} {a : Value} {l : Array Value} (h : VL μ [a] l.toList) : ∃ a', l = #[a'] ∧ V μ a a' := by
  cases hl : l.toList with
  | nil => rw [hl] at h; cases h
  | cons x r =>
    rw [hl] at h
    cases h with | cons g1 g2 =>
    cases g2
    exact ⟨_, by apply Array.ext'; simpa using hl, g1⟩

theorem ext_ok (s : Sim P μ h W) {f : FuncId} {code : Nat × Nat} (hf : E.ext.get f = some code) {args : List Value} {args' : Array Value} {v : Value} {h' : AH} (hx : VL μ args args'.toList) (ha : aext h code args = some (v, h')) :
    ∃ μ' v' W', (callFunc f args').run P W = .ok (.value v') W' ∧ V μ' v v' ∧ Sim P μ' h' W' ∧ Stp μ μ' h h' W W' := by
  obtain ⟨fn, h1, h2, h3, h4, c1, c2, c3, c4⟩ := ok.ext f code hf
  unfold aext at ha
  split at ha
  · rename_i x hc
    cases ha
    obtain ⟨x', rfl, hv⟩ := hx.one
    refine ⟨μ, x', W, ?_, hv, s, Stp.refl _ _ _⟩
    rw [run_callFunc_extern h1 h2 h3 h4 (c1 hc)]
    rfl
  · rename_i st c hc
    split at ha
    · rename_i hle
      have hle := Nat.le_of_ble_eq_true hle
      cases ha
      obtain ⟨x', y', rfl, hv, hw⟩ := hx.two
      cases hv; cases hw
      refine ⟨μ, _, W, ?_, .int _ _, s, Stp.refl _ _ _⟩
      rw [run_callFunc_extern h1 h2 h3 h4 (c2 hc)]
      have hfind : ((List.range st.size).find? fun i => st[i]! == UInt8.ofNat c) = st.data.toList.findIdx? (fun b => b.toNat == c) := by
        have h0 := find_range (fun b => b.toNat == c) st.data.toList 0 (fun i => st[i]!) (fun j x hj => by rw [Nat.zero_add]; exact get_bang hj)
        rw [← List.range_eq_range'] at h0
        have hsz : st.data.toList.length = st.size := rfl
        rw [hsz] at h0
        rw [show (fun i => st[i]! == UInt8.ofNat c) = (fun i => (fun b : UInt8 => b.toNat == c) (st[i]!)) from funext fun i => ofNat_eq hle, h0]
        cases st.data.toList.findIdx? (fun b => b.toNat == c) <;> rfl
      have hto : (Int.ofNat c).toNat.toUInt8 = UInt8.ofNat c := rfl
      rw [run_indexByte_string, hto]
      unfold firstIdx
      rw [hfind]
      cases st.data.toList.findIdx? (fun b => b.toNat == c) <;> rfl
    · cases ha
  · rename_i st c hc
    split at ha
    · rename_i hle
      have hle := Nat.le_of_ble_eq_true hle
      cases ha
      obtain ⟨x', y', rfl, hv, hw⟩ := hx.two
      cases hv; cases hw
      refine ⟨μ, _, W, ?_, .int _ _, s, Stp.refl _ _ _⟩
      rw [run_callFunc_extern h1 h2 h3 h4 (c3 hc)]
      rw [Lib.run_countString]
      have hto : (Int.ofNat c).toNat.toUInt8 = UInt8.ofNat c := rfl
      rw [hto]
      have : Lib.countByte st.data.toList (UInt8.ofNat c) = ((st.data.toList.filter (fun b => b.toNat == c)).length : Nat) := by
        unfold Lib.countByte List.count
        rw [List.countP_eq_length_filter]
        congr 2
        funext b
        exact ofNat_eq hle
      rw [this]
      rfl
    · cases ha
  · rename_i n hc
    split at ha
    · rename_i hle
      have hle := Nat.le_of_ble_eq_true hle
      cases ha
      obtain ⟨x', rfl, hv⟩ := hx.one
      cases hv
      obtain ⟨ps, rs, t, q1, q2, q3, q4⟩ := c4 hc
      have hrs : Extern.BytealgMakeNoZero.makeNoZero ps rs = Extern.BytealgMakeNoZero.makeNoZero ps #[t] := by
        funext a
        unfold Extern.BytealgMakeNoZero.makeNoZero
        rw [q2]
        rfl
      obtain ⟨cs, r1, r2, r3⟩ := Lib.run_makeNoZero (P := P) W ps t code.2 q3 n (by omega)
      have hO : ORel P (ext μ h.next (W.heap.size, cs.size, 1)) (cs.size, 1) (.cells .leaf n code.2 false) (.cells cs code.2 (0, 0)) :=
        ⟨cs, (0, 0), rfl, r2, (fun i v _ hg => by rw [PT.get_leaf] at hg; cases hg), (fun _ o _ => by simp), by rw [q4]⟩
      refine ⟨_, _, _, ?_, V.slc (h := h) (sz := cs.size) (k := 1) (Nat.le_refl n) r2 (.inr (by omega)), Sim.made s _ (.cells cs code.2) (cs.size, 1) (W.drew.drew.alloc (.cells cs code.2)) rfl hO, Stp.made s _ (.cells cs code.2) (cs.size, 1) _ rfl rfl rfl rfl⟩
      rw [run_callFunc_extern h1 h2 h3 h4 q1, hrs]
      have : (Value.int IntKind.i64 (Int.ofNat n)) = .int .i64 (n : Int) := rfl
      rw [this, r1]
      rfl
    · cases ha
  · cases ha

theorem unsafeString_ok (s : Sim P μ h W) {pt it ty : TypeId} {p p' n n' v : Value} {h' : AH} (hp : V μ p p') (hn : V μ n n') (ha : aunsafeString E.T h pt p n = some (v, h')) :
    ∃ v' W', (Builtin.unsafeString_ #[pt, it] ty #[p', n']).run P W = .ok v' W' ∧ V μ v v' ∧ Sim P μ h' W' ∧ Stp μ μ h h' W W' := by
  unfold aunsafeString at ha
  split at ha
  · rename_i a
    cases ha
    cases hn
    have : ∃ a', p' = .pointer a' := by cases hp <;> exact ⟨_, rfl⟩
    obtain ⟨a', rfl⟩ := this
    exact ⟨_, _, Lib.run_unsafeString_none W pt it ty a', .string _, s, Stp.refl _ _ _⟩
  · rename_i b m
    split at ha
    · rename_i e c N e' hs ho
      have hu := und_ok ok.tbl hs
      split at ha
      · rename_i bs q1 q2 q3 q4
        cases ha
        have q1 := Nat.eq_of_beq_eq_true q1
        subst q1
        have q4 := Nat.le_of_ble_eq_true q4
        obtain ⟨k1, _⟩ := cellsOf_ok ok.tbl q2
        cases hn
        cases hp with | @ptr _ b' o z hb =>
        obtain ⟨r1, r2⟩ := abytes_ok s hb q3
        obtain ⟨C, fr, w1, w2, w3, w4, w5⟩ := s.cells hb ho
        have hNle : m + 1 ≤ N := by
          unfold abytes at q3
          rw [ho] at q3
          simp only at q3
          split at q3
          · rename_i q5 _; have := Nat.le_of_ble_eq_true q5; omega
          · cases q3
        have hrun := Lib.run_unsafeString_row (P := P) W pt it ty e hu k1 b' C.size (shape_of w1) bs (by intro e0; rw [e0] at r1; simp at r1) (by omega) (by omega) r2
        have hlen : (Value.int IntKind.i64 (Int.ofNat (m + 1))) = .int .i64 (bs.length : Int) := by rw [r1]; rfl
        rw [hlen]
        have hfz : ∀ k, (W.freeze ⟨b', 0, none⟩ bs.length).heap[k]? = if k = b' then some (.cells C e (if fr.1 == fr.2 then (0, 0 + bs.length) else (min fr.1 0, max fr.2 (0 + bs.length)))) else W.heap[k]? := by
          intro k
          unfold World.freeze
          rw [if_neg (by omega)]
          simp only [Array.getElem?_modify]
          by_cases hk : k = b'
          · subst hk; simp [w1]
          · rw [if_neg (fun e => hk e.symm), if_neg hk]
        have hsz : (W.freeze ⟨b', 0, none⟩ bs.length).heap.size = W.heap.size := by
          unfold World.freeze; split <;> simp
        have hO : ∀ fr', ORel P μ z (.cells c N e true) (.cells C e fr') := fun fr' => ⟨C, fr', rfl, w2, w3, (fun h0 => by cases h0), w5⟩
        have hl : (h.at b).live = true := by rw [ho]; rfl
        refine ⟨_, _, hrun, .string _, s.turn hb hl _ _ _ hsz hfz (hO _), ?_⟩
        refine Stp.turn hb (by rw [ho]; rfl) _ _ _ hsz hfz ?_ ?_ ?_ <;> (unfold World.freeze; split <;> rfl)
      · cases ha
    · cases ha
  · cases ha
end
end
end Go.Ab
