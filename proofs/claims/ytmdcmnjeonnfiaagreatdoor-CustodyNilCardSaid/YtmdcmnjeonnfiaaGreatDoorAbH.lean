import Derived.Test.YtmdcmnjeonnfiaaGreatDoorAbX
set_option linter.unusedSimpArgs false
set_option linter.unusedVariables false
/-! The rest of the operations run so. -/
namespace Go.Ab
noncomputable section

section
variable {P : Program} {T : Tbl} (ok : TblOk P T) {μ : Mp} {h : AH} {W : World}
include ok

omit ok in
theorem V.tup0 {μ : Mp} : V μ (.tuple #[]) (.tuple #[]) := .tuple .nil
omit ok in
theorem EL.length {μ : Mp} : ∀ {l l' : List MapEntry}, EL μ l l' → l.length = l'.length
  | _, _, .nil => rfl
  | _, _, .cons _ _ _ k => by simp [EL.length k]
omit ok in
theorem Sim.mapAt (s : Sim P μ h W) {r r' : Nat} {z : Nat × Nat} (hr : μ r = some (r', z)) {es : List MapEntry} {c : Nat} (ho : h.at r = .map es c) : ∃ ES, W.heap[r']? = some (.map ES c) ∧ EL μ es ES.toList := by
  obtain ⟨O, h1, h2⟩ := s.obj r r' z hr
  rw [ho] at h2
  obtain ⟨ES, rfl, h3⟩ := h2
  exact ⟨ES, h1, h3⟩
omit ok in
theorem run_getObj {P : Program} {W : World} {r : Nat} {ES : Array MapEntry} {c : Nat} (hW : W.heap[r]? = some (.map ES c)) : (getObj r).run P W = .ok (.map ES c) W := by
  simp [getObj, Sem.run, hW]

theorem len_ok {t ty : TypeId} {x x' v : Value} (hx : V μ x x') (ha : alen T h t x = some v) (s : Sim P μ h W) : ∃ v', (Builtin.len_ #[t] ty #[x']).run P W = .ok v' W ∧ V μ v v' := by
  unfold alen at ha
  split at ha
  · rename_i hs
    have hu := und_ok ok hs
    split at ha
    · cases ha; cases hx
      rename_i b
      refine ⟨_, ?_, .int _ _⟩
      simp [Builtin.len_, run_underlying hu, goInt]
    · cases ha
  · rename_i e hs
    have hu := und_ok ok hs
    split at ha
    · cases ha
      cases hx <;> exact ⟨_, by first | (simp [Builtin.len_, run_underlying hu, goInt]; done) | (simp [Builtin.len_, run_underlying hu, goInt]; rfl), .int _ _⟩
    · cases ha
  · rename_i a b hs
    have hu := und_ok ok hs
    split at ha
    · cases ha; cases hx
      exact ⟨_, by simp [Builtin.len_, run_underlying hu, goInt], .int _ _⟩
    · rename_i r
      split at ha
      · rename_i es c ho
        cases ha
        cases hx with | @map _ r' z hr =>
        obtain ⟨ES, h1, h2⟩ := s.mapAt hr ho
        have := h2.length
        refine ⟨_, ?_, .int _ _⟩
        simp [Builtin.len_, run_underlying hu, run_getObj h1, goInt, this]
      · cases ha
    · cases ha
  · rename_i n e hs
    have hu := und_ok ok hs
    cases ha
    exact ⟨_, by simp [Builtin.len_, run_underlying hu, goInt], .int _ _⟩
  · cases ha

theorem cap_ok {t ty : TypeId} {x x' v : Value} (hx : V μ x x') (ha : acap T t x = some v) (W : World) : ∃ v', (Builtin.cap_ #[t] ty #[x']).run P W = .ok v' W ∧ V μ v v' := by
  unfold acap at ha
  split at ha
  · rename_i e hs
    have hu := und_ok ok hs
    split at ha
    · cases ha; cases hx
      exact ⟨_, by simp [Builtin.cap_, run_underlying hu, goInt], .int _ _⟩
    · cases ha
  · cases ha
omit ok in
theorem mm_ok {mx : Bool} {xs : List Value} {xs' : Array Value} {v : Value} (hx : VL μ xs xs'.toList) (ha : amm mx xs = some v) (at_ : Array TypeId) (ty : TypeId) (W : World) :
    ∃ v', ((if mx then Builtin.max_ at_ ty xs' else Builtin.min_ at_ ty xs')).run P W = .ok v' W ∧ V μ v v' := by
  unfold amm at ha
  split at ha
  · rename_i k x k' y
    split at ha
    · rename_i hk
      subst hk
      cases ha
      have hxs : xs' = #[.int k x, .int k y] := by
        apply Array.ext'
        cases hl : xs'.toList with
        | nil => rw [hl] at hx; cases hx
        | cons a l =>
          rw [hl] at hx
          cases hx with | cons h1 h2 =>
          cases h1
          cases h2 with | cons h3 h4 =>
          cases h3
          cases h4
          rfl
      subst hxs
      cases mx <;> exact ⟨_, by simp [Builtin.max_, Builtin.min_, Builtin.max2, Builtin.min2], .int _ _⟩
    · cases ha
  · cases ha

theorem clear_ok (s : Sim P μ h W) {t ty : TypeId} {x x' : Value} {h' : AH} (hx : V μ x x') (ha : aclear T h t x = some h') : ∃ W', (Builtin.clear_ #[t] ty #[x']).run P W = .ok (.tuple #[]) W' ∧ Sim P μ h' W' ∧ Stp μ μ h h' W W' := by
  unfold aclear at ha
  split at ha
  · rename_i e hs
    have hu := und_ok ok hs
    split at ha
    · cases ha; cases hx
      exact ⟨W, by simp [Builtin.clear_, run_underlying hu], s, Stp.refl _ _ _⟩
    · cases ha; cases hx
      exact ⟨W, by simp [Builtin.clear_, run_underlying hu], s, Stp.refl _ _ _⟩
    · rename_i z b o n c hz
      obtain ⟨iz, z1, z2, z3⟩ := zero_of ok hz
      cases hx with | @slice _ b' _ _ _ c'' sz0 k0 hb k1 k2 k3 =>
      have hcl := cellsL_cells (plain_noTuple z3)
      have hzv := (V.of_plain (μ := μ) z3).cellsL (plain_noTuple z3)
      have hvl : VL μ (reps (cellsL z) n) (Builtin.zeroCells z.cells n).toList := by
        have : (Builtin.zeroCells z.cells n).toList = reps z.cells.toList n := rep_map _ _
        rw [this]; exact VL.reps hzv n
      obtain ⟨g1, g2, g3⟩ := puts_ok (P := P) s hb hvl ha
      refine ⟨_, ?_, g2, g3⟩
      by_cases hn : n = 0
      · subst hn
        have : (Builtin.zeroCells z.cells 0).toList = [] := by
          have : (Builtin.zeroCells z.cells 0).toList = reps z.cells.toList 0 := rep_map _ _
          rw [this]; rfl
        rw [this]
        simp [Builtin.clear_, run_underlying hu, World.setCells]
      · obtain ⟨m, rfl⟩ := Nat.exists_eq_succ_of_ne_zero hn
        simp only [Builtin.clear_]
        simp [run_underlying hu, run_zeroValue' z1 z2, g1]
    · cases ha
  · cases ha

theorem copy_ok (s : Sim P μ h W) {td ts ty : TypeId} {d d' x x' v : Value} {h' : AH} (hd : V μ d d') (hx : V μ x x') (ha : acopy T h td ts d x = some (v, h')) :
    ∃ W', (Builtin.copy_ #[td, ts] ty #[d', x']).run P W = .ok v W' ∧ V μ v v ∧ Sim P μ h' W' ∧ Stp μ μ h h' W W' := by
  unfold acopy at ha
  split at ha
  · rename_i e hs
    have hu := und_ok ok hs
    split at ha
    · rename_i k ds b o dl dc hk hts
      cases hd with | @slice _ b' _ _ _ dc' sz0 k0 hb k1 k2 k3 =>
      split at ha
      · rename_i e2 b2 o2 sl sc
        cases hx with | @slice _ b2' _ _ _ sc' sz1 k01 hb2 q1 q2 q3 =>
        split at ha
        · rename_i c n e3 fz ho
          split at ha
          · rename_i hle
            have hle := Nat.le_of_ble_eq_true hle
            split at ha
            · rename_i l hl
              split at ha
              · rename_i h1 hput
                cases ha
                obtain ⟨C, fr, f1, f2, f3, f4, f5⟩ := s.cells hb2 ho
                obtain ⟨g1, g2⟩ := Sim.row f3 f2 hl hle
                have hrun := run_firstCells_some (P := P) W k (min sl dl) ⟨b2', o2, none⟩ sl sc' ((C.toList.drop o2).take (min sl dl * k)) g2 (fun j u hj => by
                  rw [addr_add, cell_of f1]
                  rw [List.getElem?_take] at hj
                  split at hj
                  · rw [List.getElem?_drop, Array.getElem?_toList] at hj; exact hj
                  · cases hj)
                obtain ⟨p1, p2, p3⟩ := puts_ok (P := P) s hb g1 hput
                refine ⟨_, ?_, .int _ _, p2, p3⟩
                have hmin : Nat.min sl dl = min sl dl := rfl
                simp only [Builtin.copy_]
                simp [run_underlying hu, Builtin.lenOf, size_ok ok hk, hmin, hrun, p1, goInt]
                omega
              · cases ha
            · cases ha
          · cases ha
        · cases ha
      · rename_i st
        split at ha
        · rename_i hk1
          have hk1 := Nat.eq_of_beq_eq_true hk1
          subst hk1
          split at ha
          · rename_i h1 hput
            cases ha; cases hx
            have hb1 : VL μ (bcells st |>.take (min st.data.toList.length dl)) ((byteCells st).take (min st.data.toList.length dl)) := (V.bytes st).take _
            obtain ⟨p1, p2, p3⟩ := puts_ok (P := P) s hb hb1 hput
            refine ⟨_, ?_, .int _ _, p2, p3⟩
            have hfc : (Builtin.firstCells 1 (Nat.min st.size dl) (.string st)).run P W = .ok ((byteCells st).take (min st.data.toList.length dl)).toArray W := by
              simp only [Builtin.firstCells, Sem.run_pure]
              congr 1
              apply Array.ext'
              simp [byteCells]
            simp only [Builtin.copy_]
            simp [run_underlying hu, Builtin.lenOf, size_ok ok hk, hfc]
            have hp := p1
            simp at hp
            rw [hp]
            have hm : st.size.min dl = min st.size dl := rfl
            simp [goInt, hm]
            omega
          · cases ha
        · cases ha
      · cases ha; cases hx
        refine ⟨W, ?_, .int _ _, s, Stp.refl _ _ _⟩
        have h0 : Nat.min 0 dl = 0 := Nat.zero_min _
        simp only [Builtin.copy_]
        simp [run_underlying hu, Builtin.lenOf, size_ok ok hk, run_firstCells_none, storeCells, h0, goInt]
      · cases ha
    · cases ha
  · cases ha

/-! ### Maps -/
omit ok in
theorem keyEq_ok {kd : TypeDesc} {k k' e e' : Value} {b : Bool} (h1 : V μ k k') (h2 : V μ e e') (h : keyEq k e = some b) (hkd : keyKind kd k = true) : Instr.sameNow kd k' e' = some b := by
  cases k <;> cases e <;> first | (simp [keyEq] at h; done) | skip
  all_goals cases kd <;> first | (simp [keyKind] at hkd; done) | skip
  · cases h1; cases h2
    simpa [keyEq, Instr.sameNow] using h
  · cases h1; cases h2
    simp only [keyEq] at h
    split at h
    · rename_i hkk
      simp only [Option.some.injEq] at h
      simp [Instr.sameNow, hkk, h]
    · simp at h
  · cases h1; cases h2
    simp only [keyEq, Option.some.injEq] at h
    simp only [Instr.sameNow, beq_toListBytes, ba_toList, h]
omit ok in
theorem afind_ok {kd : TypeDesc} {k k' : Value} (h1 : V μ k k') (hkd : keyKind kd k = true) : ∀ {es es' : List MapEntry} (_ : EL μ es es') (i : Nat) (r : Option (Nat × Value)), afind k es i = some r →
    (r = none → Instr.findNow kd k' es' i = some none) ∧ (∀ j v, r = some (j, v) → ∃ v', Instr.findNow kd k' es' i = some (some (j, v')) ∧ V μ v v')
  | _, _, .nil, i, r, h => by
    simp only [afind, Option.some.injEq] at h
    subst h
    exact ⟨fun _ => rfl, fun _ _ e => by cases e⟩
  | _, _, .cons (e := e) (e' := e') hk hv hb hr, i, r, h => by
    rw [afind] at h
    split at h
    · rename_i hq
      cases h
      have := keyEq_ok h1 hk hq hkd
      refine ⟨fun e => (by cases e), fun j v e => ?_⟩
      cases e
      exact ⟨_, by rw [Instr.findNow, this], hv⟩
    · rename_i hq
      have hthis := keyEq_ok h1 hk hq hkd
      obtain ⟨g1, g2⟩ := afind_ok h1 hkd hr (i + 1) r h
      refine ⟨fun e => (by rw [Instr.findNow, hthis]; exact g1 e), fun j v e => ?_⟩
      obtain ⟨v', a, b⟩ := g2 j v e
      exact ⟨v', by rw [Instr.findNow, hthis]; exact a, b⟩
    · cases h
omit ok in
theorem run_checkKey' {kt : TypeId} {kd : TypeDesc} {k k' : Value} (hu : P.underlying kt = some kd) (h1 : V μ k k') (hkd : keyKind kd k = true) (b : Bool) (W : World) (n : Nat) : (Instr.checkKey b (n + 1) kt k').run P W = .ok () W := by
  cases kd <;> cases k <;> first | (simp [keyKind] at hkd; done) | skip
  all_goals
    cases h1
    simp [Instr.checkKey, run_underlying hu]
omit ok in
theorem run_checkKey {kt : TypeId} {kd : TypeDesc} {k k' : Value} (hu : P.underlying kt = some kd) (h1 : V μ k k') (hkd : keyKind kd k = true) (b : Bool) (W : World) : (Instr.checkKey b 10000 kt k').run P W = .ok () W :=
  run_checkKey' hu h1 hkd b W 9999
omit ok in
theorem run_findKey {kt : TypeId} {kd : TypeDesc} {k' : Value} {es : List MapEntry} {r : Option (Nat × Value)} (hu : P.underlying kt = some kd) (h : Instr.findNow kd k' es 0 = some r) (W : World) : (Instr.findKey kt k' es).run P W = .ok r W := by
  simp [Instr.findKey, run_underlying hu, h]

omit ok in
theorem ames_ok (s : Sim P μ h W) {x x' : Value} {es : List MapEntry} {cl : Nat} (hx : V μ x x') (hes : ames h x = some (es, cl)) :
    (x' = .map none ∧ es = []) ∨ ∃ r' ES, x' = .map (some r') ∧ W.heap[r']? = some (.map ES cl) ∧ EL μ es ES.toList := by
  unfold ames at hes
  split at hes
  · cases hes; cases hx; exact .inl ⟨rfl, rfl⟩
  · split at hes
    · rename_i es0 c0 ho
      cases hes
      cases hx with | @map _ r' zz hr =>
      obtain ⟨ES, h1, h2⟩ := s.mapAt hr ho
      exact .inr ⟨r', ES, rfl, h1, h2⟩
    · cases hes
  · cases hes
theorem lookup_ok (s : Sim P μ h W) {t : TypeId} {x x' k k' v : Value} {c : Bool} (hx : V μ x x') (hk : V μ k k') (ha : alookup T h t x k c = some v) :
    ∃ v', (Instr.lookup t x' k' c).run P W = .ok v' W ∧ V μ v v' := by
  unfold alookup at ha
  split at ha
  · rename_i kt et ht
    have hu := und_ok ok ht
    split at ha
    · rename_i kd z es cl hkd hz hes
      have huk := und_ok ok hkd
      obtain ⟨iz, z1, z2, z3⟩ := zero_of ok hz
      have hzr := run_zeroValue' z1 z2 W
      split at ha
      · rename_i hkk
        have hck := fun b => run_checkKey (P := P) huk hk hkk b W
        have hfin : ∀ (ES : List MapEntry), EL μ es ES → (Instr.findNow kd k' ES 0 = some none → ∃ v', (Instr.findKey kt k' ES).run P W = .ok none W → V μ v v') ∨ True := fun _ _ => .inr trivial
        rcases ames_ok s hx hes with ⟨rfl, rfl⟩ | ⟨r', ES, rfl, h1, h2⟩
        · simp only [afind] at ha
          have hf := run_findKey (P := P) (k' := k') (es := []) huk rfl W
          cases c <;> cases ha
          · exact ⟨z, by simp [Instr.lookup, run_underlying hu, hck, hf, hzr], .of_plain z3⟩
          · exact ⟨.tuple #[z, .bool false], by simp [Instr.lookup, run_underlying hu, hck, hf, hzr], .tuple (.cons (.of_plain z3) (.cons (.bool _) .nil))⟩
        · split at ha
          · rename_i j v0 hfd
            obtain ⟨v', f1, f2⟩ := (afind_ok hk hkk h2 0 _ hfd).2 _ _ rfl
            have hf := run_findKey (P := P) huk f1 W
            cases c <;> cases ha
            · exact ⟨v', by simp [Instr.lookup, run_underlying hu, run_getObj h1, hck, hf], f2⟩
            · exact ⟨.tuple #[v', .bool true], by simp [Instr.lookup, run_underlying hu, run_getObj h1, hck, hf], .tuple (.cons f2 (.cons (.bool _) .nil))⟩
          · rename_i hfd
            have f1 := (afind_ok hk hkk h2 0 _ hfd).1 rfl
            have hf := run_findKey (P := P) huk f1 W
            cases c <;> cases ha
            · exact ⟨z, by simp [Instr.lookup, run_underlying hu, run_getObj h1, hck, hf, hzr], .of_plain z3⟩
            · exact ⟨.tuple #[z, .bool false], by simp [Instr.lookup, run_underlying hu, run_getObj h1, hck, hf, hzr], .tuple (.cons (.of_plain z3) (.cons (.bool _) .nil))⟩
          · cases ha
      · cases ha
    · cases ha
  · cases ha

/-! ### Maps that are written -/
omit ok in
theorem EL.append : ∀ {a a' b b' : List MapEntry}, EL μ a a' → EL μ b b' → EL μ (a ++ b) (a' ++ b')
  | _, _, _, _, .nil, k => k
  | _, _, _, _, .cons x y z r, k => .cons x y z (EL.append r k)
omit ok in
theorem EL.eraseIdx : ∀ {l l' : List MapEntry} (_ : EL μ l l') (i : Nat), EL μ (l.eraseIdx i) (l'.eraseIdx i)
  | _, _, .nil, _ => .nil
  | _, _, .cons _ _ _ d, 0 => d
  | _, _, .cons a b c d, i + 1 => .cons a b c (EL.eraseIdx d i)
omit ok in
theorem set_map_ok (s : Sim P μ h W) {r r' : Nat} {z : Nat × Nat} (hr : μ r = some (r', z)) {es0 : List MapEntry} {c0 : Nat} (ho : h.at r = .map es0 c0) {ES0 ES : Array MapEntry} (h1 : W.heap[r']? = some (.map ES0 c0)) {es : List MapEntry} {c : Nat} (hel : EL μ es ES.toList) :
    ∃ W', (setObj r' (.map ES c)).run P W = .ok () W' ∧ Sim P μ (h.set r (.map es c)) W' ∧ Stp μ μ h (h.set r (.map es c)) W W' := by
  have hlt : r' < W.heap.size := (s.dom r r' z hr).2
  refine ⟨{ W with heap := W.heap.setIfInBounds r' (.map ES c) }, by simp [setObj, Sem.run, h1], ?_, ?_⟩
  · exact s.turn hr (by rw [ho]; rfl) _ (.map ES c) _ (by simp) (fun k => by
      simp only [Array.getElem?_setIfInBounds]
      by_cases e : k = r'
      · subst e; simp [hlt]
      · rw [if_neg (fun x => e x.symm), if_neg e]) ⟨ES, rfl, hel⟩
  · exact Stp.turn hr (by rw [ho]; rfl) _ (.map ES c) _ (by simp) (fun k => by
      simp only [Array.getElem?_setIfInBounds]
      by_cases e : k = r'
      · subst e; simp [hlt]
      · rw [if_neg (fun x => e x.symm), if_neg e]) rfl rfl rfl


theorem mapSet_ok (s : Sim P μ h W) {t : TypeId} {m m' k k' v v' : Value} {h' : AH} (hm : V μ m m') (hk : V μ k k') (hv : V μ v v') (ha : amapSet T h t m k v = some h') :
    ∃ W', (Instr.mapUpdate t m' k' v').run P W = .ok () W' ∧ Sim P μ h' W' ∧ Stp μ μ h h' W W' := by
  unfold amapSet at ha
  split at ha
  · rename_i kt et r ht
    have hu := und_ok ok ht
    cases hm with | @map _ r' z hr =>
    split at ha
    · rename_i kd es c hkd ho
      have huk := und_ok ok hkd
      obtain ⟨ES, h1, h2⟩ := s.mapAt hr ho
      split at ha
      · rename_i hkk
        split at ha
        · rename_i hfd
          cases ha
          have hck := fun b => run_checkKey (P := P) huk hk hkk b W
          have hf := run_findKey (P := P) huk ((afind_ok hk hkk h2 0 _ hfd).1 rfl) W
          obtain ⟨W', g1, g2, g3⟩ := set_map_ok (P := P) s hr ho h1 (ES := ES.push { key := k', val := v', born := c }) (es := es ++ [{ key := k, val := v, born := c }]) (c := c + 1) (by
            rw [Array.toList_push]; exact h2.append (.cons hk hv rfl .nil))
          exact ⟨W', by simp [Instr.mapUpdate, run_underlying hu, run_getObj h1, hck, hf, g1], g2, g3⟩
        · cases ha
      · cases ha
    · cases ha
  · cases ha
theorem delete_ok (s : Sim P μ h W) {t tk ty : TypeId} {m m' k k' : Value} {h' : AH} (hm : V μ m m') (hk : V μ k k') (ha : adelete T h t m k = some h') :
    ∃ W', (Builtin.delete_ #[t, tk] ty #[m', k']).run P W = .ok (.tuple #[]) W' ∧ Sim P μ h' W' ∧ Stp μ μ h h' W W' := by
  unfold adelete at ha
  split at ha
  · rename_i kt et ht
    have hu := und_ok ok ht
    cases hm
    split at ha
    · rename_i kd hkd
      have huk := und_ok ok hkd
      split at ha
      · rename_i hkk
        cases ha
        have hck := fun b => run_checkKey (P := P) huk hk hkk b W
        exact ⟨W, by simp [Builtin.delete_, run_underlying hu, hck], s, Stp.refl _ _ _⟩
      · cases ha
    · cases ha
  · rename_i kt et r ht
    have hu := und_ok ok ht
    cases hm with | @map _ r' z hr =>
    split at ha
    · rename_i kd es c hkd ho
      have huk := und_ok ok hkd
      obtain ⟨ES, h1, h2⟩ := s.mapAt hr ho
      split at ha
      · rename_i hkk
        have hck := fun b => run_checkKey (P := P) huk hk hkk b W
        split at ha
        · rename_i i v0 hfd
          cases ha
          obtain ⟨v', f1, f2⟩ := (afind_ok hk hkk h2 0 _ hfd).2 _ _ rfl
          have hf := run_findKey (P := P) huk f1 W
          obtain ⟨W', g1, g2, g3⟩ := set_map_ok (P := P) s hr ho h1 (ES := ES.eraseIdxIfInBounds i) (es := es.eraseIdx i) (c := c) (by
            have : (ES.eraseIdxIfInBounds i).toList = ES.toList.eraseIdx i := by simp
            rw [this]; exact h2.eraseIdx i)
          exact ⟨W', by simp [Builtin.delete_, run_underlying hu, run_getObj h1, hck, hf, g1], g2, g3⟩
        · rename_i hfd
          cases ha
          have hf := run_findKey (P := P) huk ((afind_ok hk hkk h2 0 _ hfd).1 rfl) W
          obtain ⟨W', g1, g2, g3⟩ := set_map_ok (P := P) s hr ho h1 (ES := ES) (es := es) (c := c) h2
          exact ⟨W', by simp [Builtin.delete_, run_underlying hu, run_getObj h1, hck, hf, g1], g2, g3⟩
        · cases ha
      · cases ha
    · cases ha
  · cases ha

end
end
end Go.Ab
