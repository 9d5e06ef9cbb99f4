import Derived.Test.YtmdcmnjeonnfiaaGreatDoorAbJ
/-! One operation whole. -/
set_option linter.unusedSimpArgs false
set_option linter.unusedVariables false
set_option linter.unusedSectionVars false
namespace Go.Ab
noncomputable section

section
variable {P : Program} {E : Env} (ok : EnvOk P E) {μ : Mp} {h : AH} {W : World}

/-- What an operation comes to, there and here. -/
def Done (P : Program) (μ : Mp) (h : AH) (W : World) (r : Result Next) : AN → Prop
  | .val v h' => ∃ μ' v' W', (r = .ok (.value v') W' ∨ (r = .ok .skip W' ∧ v' = undef)) ∧ V μ' v v' ∧ Sim P μ' h' W' ∧ Stp μ μ' h h' W W'
  | .enter f args => ∃ args', r = .ok (.enter f args') W ∧ VL μ args args'.toList
  | .defr fn cap args => ∃ cap' args', r = .ok (.defer { target := .fn fn cap', args := args' }) W ∧ VL μ cap cap'.toList ∧ VL μ args args'.toList
  | .panic v => ∃ v', r = .halt (.panic v') W ∧ V μ v v'
  | .recover => r = .ok .recover W

theorem Done.same (s : Sim P μ h W) {r : Result Next} {v v' : Value} (hr : r = .ok (.value v') W) (hv : V μ v v') : Done P μ h W r (.val v h) := ⟨μ, v', W, .inl hr, hv, s, .refl _ _ _⟩
theorem Done.ofV (s : Sim P μ h W) {q : Sem Value} {r : Result Next} {o : Option Value} (hr : ∀ v' W', q.run P W = .ok v' W' → r = .ok (.value v') W') (hv : ∀ v, o = some v → ∃ v', q.run P W = .ok v' W ∧ V μ v v') {n : AN} (hn : Ab.ofV h o = some n) : Done P μ h W r n := by
  cases o with
  | none => cases hn
  | some v =>
    cases hn
    obtain ⟨v', h1, h2⟩ := hv v rfl
    exact Done.same s (hr _ _ h1) h2
theorem Done.ofVH {q : Sem Value} {r : Result Next} {o : Option (Value × AH)} (hr : ∀ v' W', q.run P W = .ok v' W' → r = .ok (.value v') W') (hv : ∀ v h', o = some (v, h') → ∃ μ' v' W', q.run P W = .ok v' W' ∧ V μ' v v' ∧ Sim P μ' h' W' ∧ Stp μ μ' h h' W W') {n : AN} (hn : Ab.ofVH o = some n) : Done P μ h W r n := by
  cases o with
  | none => cases hn
  | some v =>
    obtain ⟨v, h'⟩ := v
    cases hn
    obtain ⟨μ', v', W', h1, h2, h3, h4⟩ := hv v h' rfl
    exact ⟨μ', v', W', .inl (hr _ _ h1), h2, h3, h4⟩
theorem V.undef {μ : Mp} : V μ undef undef := .tuple .nil
theorem Done.ofH {q : Sem Unit} {r : Result Next} {o : Option AH} (hr : ∀ W', q.run P W = .ok () W' → r = .ok .skip W') (hv : ∀ h', o = some h' → ∃ W', q.run P W = .ok () W' ∧ Sim P μ h' W' ∧ Stp μ μ h h' W W') {n : AN} (hn : Ab.ofH o = some n) : Done P μ h W r n := by
  cases o with
  | none => cases hn
  | some h' =>
    cases hn
    obtain ⟨W', h1, h3, h4⟩ := hv h' rfl
    exact ⟨μ, undef, W', .inr ⟨hr _ h1, rfl⟩, .undef, h3, h4⟩
theorem Done.ofHT {q : Sem Value} {r : Result Next} {o : Option AH} (hr : ∀ v' W', q.run P W = .ok v' W' → r = .ok (.value v') W') (hv : ∀ h', o = some h' → ∃ W', q.run P W = .ok (.tuple #[]) W' ∧ Sim P μ h' W' ∧ Stp μ μ h h' W W') {n : AN} (hn : Ab.ofH o = some n) : Done P μ h W r n := by
  cases o with
  | none => cases hn
  | some h' =>
    cases hn
    obtain ⟨W', h1, h3, h4⟩ := hv h' rfl
    exact ⟨μ, undef, W', .inl (hr _ _ h1), .undef, h3, h4⟩

theorem run_v {q : Sem Value} {v' : Value} {W' : World} (h : q.run P W = .ok v' W') : (do pure (Next.value (← q)) : Sem Next).run P W = .ok (.value v') W' := by
  simp only [Sem.run_bind, h, Result.andThen, Sem.run_pure]
theorem run_u {q : Sem Unit} {W' : World} (h : q.run P W = .ok () W') : (do q; pure Next.skip : Sem Next).run P W = .ok .skip W' := by
  simp only [Sem.run_bind, h, Result.andThen, Sem.run_pure]

include ok
theorem callF_ok (s : Sim P μ h W) {f : FuncId} {args : List Value} {args' : Array Value} (hx : VL μ args args'.toList) {n : AN} (ha : acallF E h f args = some n) : Done P μ h W ((callFunc f args').run P W) n := by
  unfold acallF at ha
  split at ha
  · rename_i fn hfn
    obtain ⟨h1, h2⟩ := ok.tbl.fn _ _ hfn
    unfold acallB at ha
    split at ha
    · rename_i c hb
      cases ha
      refine ⟨args', ?_, hx⟩
      simp [callFunc, h1, h2, hb]
    · split at ha
      · rename_i code hc
        cases ha' : aext h code args with
        | none => rw [ha'] at ha; cases ha
        | some v =>
          obtain ⟨v, h'⟩ := v
          rw [ha'] at ha
          cases ha
          obtain ⟨μ', v', W', r1, r2, r3, r4⟩ := ext_ok ok s hc hx ha'
          exact ⟨μ', v', W', .inl r1, r2, r3, r4⟩
      · cases ha
  · cases ha

theorem callV_ok (s : Sim P μ h W) {f f' : Value} (hf : V μ f f') {args : List Value} {args' : Array Value} (hx : VL μ args args'.toList) {n : AN} (ha : oCallV E f args h = some n) :
    Done P μ h W ((do let d ← Deferred.ofValue f' args'; invoke d.target d.args : Sem Next).run P W) n := by
  unfold oCallV at ha
  split at ha
  · rename_i g first cap
    cases hf with | @func _ _ first' _ cap' h1 h2 =>
    have := callF_ok ok s (f := g) (args := first.toList ++ args ++ cap.toList) (args' := first' ++ args' ++ cap') (by
      simp only [Array.toList_append]
      exact (h1.append hx).append h2) ha
    simpa [Deferred.ofValue, invoke] using this
  · cases ha

theorem builtin_ok (s : Sim P μ h W) {b : Builtin} {ty : Array TypeId} {rt : TypeId} {cs : Array Bool} {args : List Value} {args' : Array Value} (hx : VL μ args args'.toList) {n : AN} (ha : abuiltin E h b ty.toList args = some n) :
    Done P μ h W ((builtin b ty rt cs args').run P W) n := by
  unfold abuiltin at ha
  split at ha
  · rename_i t x hty
    have hty : ty = #[t] := Array.ext' (by simpa using hty)
    subst hty
    obtain ⟨x', rfl, hv⟩ := hx.one
    exact Done.ofV s (fun _ _ h => run_v h) (fun v e => len_ok ok.tbl (ty := rt) hv e s) ha
  · rename_i t x hty
    have hty : ty = #[t] := Array.ext' (by simpa using hty)
    subst hty
    obtain ⟨x', rfl, hv⟩ := hx.one
    exact Done.ofV s (fun _ _ h => run_v h) (fun v e => cap_ok ok.tbl (ty := rt) hv e W) ha
  · rename_i t tx a x hty
    have hty : ty = #[t, tx] := Array.ext' (by simpa using hty)
    subst hty
    obtain ⟨a', x', rfl, hv, hw⟩ := hx.two
    unfold oAppend at ha
    split at ha
    · exact Done.ofVH (fun _ _ h => run_v h) (fun v h' e => appendZ_ok ok.tbl s (ty := rt) hv hw e) ha
    · exact Done.ofVH (fun _ _ h => run_v h) (fun v h' e => append_ok ok.tbl s (ty := rt) hv hw e) ha
  · rename_i t tx a x hty
    have hty : ty = #[t, tx] := Array.ext' (by simpa using hty)
    subst hty
    obtain ⟨a', x', rfl, hv, hw⟩ := hx.two
    exact Done.ofVH (fun _ _ h => run_v h) (fun v h' e => let ⟨W', g1, g2, g3, g4⟩ := copy_ok ok.tbl s (ty := rt) hv hw e; ⟨μ, v, W', g1, g2, g3, g4⟩) ha
  · rename_i t x hty
    have hty : ty = #[t] := Array.ext' (by simpa using hty)
    subst hty
    obtain ⟨x', rfl, hv⟩ := hx.one
    exact Done.ofHT (fun _ _ h => run_v h) (fun h' e => clear_ok ok.tbl s (ty := rt) hv e) ha
  · rename_i t tk a x hty
    have hty : ty = #[t, tk] := Array.ext' (by simpa using hty)
    subst hty
    obtain ⟨a', x', rfl, hv, hw⟩ := hx.two
    exact Done.ofHT (fun _ _ h => run_v h) (fun h' e => delete_ok ok.tbl s (ty := rt) hv hw e) ha
  · exact Done.ofV s (fun _ _ h => run_v h) (fun v e => by simpa using mm_ok (P := P) (mx := true) hx e ty rt W) ha
  · exact Done.ofV s (fun _ _ h => run_v h) (fun v e => by simpa using mm_ok (P := P) (mx := false) hx e ty rt W) ha
  · cases ha; rfl
  · rename_i x _
    obtain ⟨x', rfl, hv⟩ := hx.one
    unfold oSliceData at ha
    split at ha
    · rename_i q1 q2
      cases ha
      cases hv
      refine Done.same s (run_v ?_) .nilp
      rfl
    · rename_i b o q1 q2
      cases ha
      cases hv with | @slice _ b' _ _ _ c' sz k g1 g2 g3 g4 =>
      refine Done.same s (run_v ?_) (.ptr g1)
      have hc : c' ≠ 0 := by omega
      have hdef : Builtin.unsafeSliceData_ ty rt #[.slice (some ⟨b', o, none⟩) q1 c'] =
        (do
          if c' ≠ 0 then pure (.pointer (some ⟨b', o, none⟩))
          else if (← viewAt b').isSome then pure (.pointer (some ⟨b', o, none⟩))
          else pure (.pointer (some ⟨← newObj (.view ⟨b', o, none⟩ (← elemOf rt)), 0, none⟩))) := rfl
      rw [hdef, if_pos hc]
      rfl
    · cases ha
  · rename_i pt it p m hty
    have hty : ty = #[pt, it] := Array.ext' (by simpa using hty)
    subst hty
    obtain ⟨a', x', rfl, hv, hw⟩ := hx.two
    exact Done.ofVH (fun _ _ h => run_v h) (fun v h' e => let ⟨v', W', g1, g2, g3, g4⟩ := unsafeString_ok ok s (it := it) (ty := rt) hv hw e; ⟨μ, v', W', g1, g2, g3, g4⟩) ha
  · cases ha

omit ok in
theorem VP.of {ρ ev : Operand → Value} : ∀ {ps : List (Nat × Operand)}, (∀ x ∈ ps.map (·.2), V μ (ρ x) (ev x)) → VP μ (ps.map fun p => (p.1, ρ p.2)) (ps.map fun p => (p.1, ev p.2))
  | [], _ => .nil
  | p :: r, h => .cons (h _ (by simp)) (VP.of fun x hx => h x (by simp only [List.map_cons, List.mem_cons]; exact .inr hx))
omit ok in
theorem VL.of {ρ ev : Operand → Value} : ∀ {l : List Operand}, (∀ x ∈ l, V μ (ρ x) (ev x)) → VL μ (l.map ρ) (l.map ev)
  | [], _ => .nil
  | x :: r, h => .cons (h _ (by simp)) (VL.of fun y hy => h y (by simp [hy]))
omit ok in
theorem VO.of {ρ ev : Operand → Value} {o : Option Operand} (h : ∀ x ∈ o.toArray.toList, V μ (ρ x) (ev x)) : VO μ (o.map ρ) (o.map ev) := by
  cases o with
  | none => exact .none
  | some x => exact .some (h x (by simp))

omit ok in
theorem eqGuard_off {op : BinOp} {t : TypeId} {x y : Operand} {a b : Value} (h1 : op ≠ .eql) (h2 : op ≠ .neq) : (eqGuard op t x y a b).run P W = .ok () W := by
  unfold eqGuard
  cases op <;> first | rfl | exact absurd rfl h1 | exact absurd rfl h2
omit ok in
theorem eqGuard_two {op : BinOp} {t : TypeId} {x y : Operand} {a b : Value} (h1 : ∀ u v, a = .agg u → b = .agg v → False) (h2 : a = .nilIface → b = .nilIface → False) : (eqGuard op t x y a b).run P W = .ok () W := by
  by_cases e1 : op = .eql
  · subst e1
    unfold eqGuard
    cases a <;> cases b <;> first | rfl | exact absurd rfl (fun e => h2 rfl rfl) | exact (h1 _ _ rfl rfl).elim | exact (h2 rfl rfl).elim
  · by_cases e2 : op = .neq
    · subst e2
      unfold eqGuard
      cases a <;> cases b <;> first | rfl | exact (h1 _ _ rfl rfl).elim | exact (h2 rfl rfl).elim
    · exact eqGuard_off e1 e2
theorem eqGuard_agg {op : BinOp} {t : TypeId} {x y : Operand} {u v : Array Value} (h : E.T.eqok.get t = some ()) : (eqGuard op t x y (.agg u) (.agg v)).run P W = .ok () W := by
  by_cases e1 : op = .eql
  · subst e1
    unfold eqGuard
    simp [program, Sem.run, (ok.tbl.eq t h).1]
  · by_cases e2 : op = .neq
    · subst e2
      unfold eqGuard
      simp [program, Sem.run, (ok.tbl.eq t h).1]
    · exact eqGuard_off e1 e2
omit ok in
theorem eqGuard_nil {op : BinOp} {t : TypeId} {x y : Operand} {a b : Value} (h : (isC x || isC y) = true) (ha : a = .nilIface) (hb : b = .nilIface) : (eqGuard op t x y a b).run P W = .ok () W := by
  subst ha; subst hb
  by_cases e1 : op = .eql
  · subst e1
    unfold eqGuard
    cases x <;> cases y <;> first | rfl | (simp [isC] at h)
  · by_cases e2 : op = .neq
    · subst e2
      unfold eqGuard
      cases x <;> cases y <;> first | rfl | (simp [isC] at h)
    · exact eqGuard_off e1 e2

omit ok in
theorem astr_shape {op : BinOp} {u v : ByteArray} {w : Value} (e : astr op u v = some w) : V μ w w := by
  cases op <;> simp only [astr] at e
  case add =>
    cases hb : fitU 9223372036854775807 (u.size + v.size)
    · rw [hb] at e; cases e
    · rw [hb] at e; cases e; exact .string _
  all_goals first | (cases e; exact .bool _) | cases e
omit ok in
theorem run_nilEq {t : TypeId} {ms : Array (String × TypeId)} (hu : P.underlying t = some (.interface ms)) (d : Nat) : (Op.equalIn (d + 1) t .nilIface .nilIface).run P W = .ok true W := by
  simp [Op.equalIn, run_underlying hu]
theorem bin_ok (s : Sim P μ h W) {op : BinOp} {t : TypeId} {x y : Operand} {a b a' b' : Value} (va : V μ a a') (vb : V μ b b') {n : AN} (hn : oBin E op t (isC x || isC y) a b h = some n) :
    Done P μ h W ((do pure (Next.value (← (do eqGuard op t x y a' b'; binOp op t a' b' : Sem Value))) : Sem Next).run P W) n := by
  have hrun : ∀ {v' : Value}, (eqGuard op t x y a' b').run P W = .ok () W → (binOp op t a' b').run P W = .ok v' W → (do pure (Next.value (← (do eqGuard op t x y a' b'; binOp op t a' b' : Sem Value))) : Sem Next).run P W = .ok (.value v') W := by
    intro v' h1 h2
    refine run_v ?_
    simp only [Sem.run_bind, h1, Result.andThen, h2]
  unfold oBin at hn
  split at hn
  · rename_i k i k' j
    cases va; cases vb
    have hg : (eqGuard op t x y (.int k i) (.int k' j)).run P W = .ok () W := eqGuard_two (fun _ _ e => by cases e) (fun e => by cases e)
    unfold oInt at hn
    split at hn
    · exact Done.ofV (q := binOp .shl t (.int k i) (.int k' j)) s (fun v' W' e => by
        refine run_v ?_
        simp only [Sem.run_bind, hg, Result.andThen, e]) (fun v e => ⟨v, run_ashift W (.inl rfl) e, by
          unfold ashift at e
          repeat' split at e
          all_goals first | (cases e; exact .int _ _) | cases e⟩) hn
    · exact Done.ofV (q := binOp .shr t (.int k i) (.int k' j)) s (fun v' W' e => by
        refine run_v ?_
        simp only [Sem.run_bind, hg, Result.andThen, e]) (fun v e => ⟨v, run_ashift W (.inr rfl) e, by
          unfold ashift at e
          repeat' split at e
          all_goals first | (cases e; exact .int _ _) | cases e⟩) hn
    · split at hn
      · rename_i hs hr hk
        subst hk
        exact Done.ofV (q := binOp op t (.int k i) (.int k j)) s (fun v' W' e => by
          refine run_v ?_
          simp only [Sem.run_bind, hg, Result.andThen, e]) (fun v e => ⟨v, run_aint W (fun e => hs e) (fun e => hr e) e, by
            unfold aint at e
            repeat' split at e
            all_goals first | (cases e; first | exact .int _ _ | exact .bool _) | cases e⟩) hn
      · cases hn
  · rename_i u v
    cases va; cases vb
    have hg : (eqGuard op t x y (.string u) (.string v)).run P W = .ok () W := eqGuard_two (fun _ _ e => by cases e) (fun e => by cases e)
    exact Done.ofV (q := binOp op t (.string u) (.string v)) s (fun v' W' e => by
      refine run_v ?_
      simp only [Sem.run_bind, hg, Result.andThen, e]) (fun w e => ⟨w, run_astr W e, by
        exact astr_shape e⟩) hn
  · cases va; cases vb
    unfold oNil2 at hn
    split at hn
    · rename_i hc hu
      cases hn
      have hu := und_ok ok.tbl hu
      refine Done.same s (hrun (eqGuard_nil hc rfl rfl) ?_) (.bool true)
      obtain ⟨d, hd⟩ : ∃ d, Op.maxDepth = d + 1 := ⟨9999, rfl⟩
      simp only [binOp, Op.equal, hd, Sem.run_bind, run_nilEq hu d, Result.andThen, Sem.run_pure, Bool.not_true]
    · rename_i hc hu
      cases hn
      have hu := und_ok ok.tbl hu
      refine Done.same s (hrun (eqGuard_nil hc rfl rfl) ?_) (.bool false)
      obtain ⟨d, hd⟩ : ∃ d, Op.maxDepth = d + 1 := ⟨9999, rfl⟩
      simp only [binOp, Op.equal, hd, Sem.run_bind, run_nilEq hu d, Result.andThen, Sem.run_pure, Bool.not_true]
    · cases hn
  · rename_i n1 n2 n3
    have key : ∀ {r : Bool}, guardOk E.T t a = true → aeq E.T Op.maxDepth t a b = some r → (binOp .eql t a' b' = (do pure (.bool (← Op.equal t a' b')))) ∧ (binOp .neq t a' b' = (do pure (.bool (!(← Op.equal t a' b'))))) ∧ (eqGuard op t x y a' b').run P W = .ok () W := by
      intro r hg he
      obtain ⟨d, hd⟩ : ∃ d, Op.maxDepth = d + 1 := ⟨9999, rfl⟩
      rw [hd, aeq] at he
      split at he
      · rename_i D hD
        unfold aeqD at he
        split at he
        all_goals first
          | (cases he; done)
          | (exact (n1 _ _ _ _ rfl rfl).elim)
          | (exact (n2 _ _ rfl rfl).elim)
          | (exact (n3 rfl rfl).elim)
          | (unfold guardOk at hg; simp only at hg; split at hg; rename_i q; cases va; cases vb; exact ⟨rfl, rfl, eqGuard_agg ok q⟩; cases hg)
          | (cases va <;> cases vb <;> exact ⟨rfl, rfl, eqGuard_two nofun nofun⟩)
      · cases he
    split at hn
    · unfold oEq at hn
      split at hn
      · rename_i hg
        split at hn
        · rename_i r he
          cases hn
          obtain ⟨k1, k2, k3⟩ := key hg he
          refine Done.same s (hrun k3 ?_) (.bool _)
          rw [k1]
          have := aeq_ok ok.tbl (μ := μ) Op.maxDepth t a b r a' b' he va vb W
          simp only [Op.equal, Sem.run_bind, this, Result.andThen, Sem.run_pure]
          cases r <;> rfl
        · cases hn
      · cases hn
    · unfold oEq at hn
      split at hn
      · rename_i hg
        split at hn
        · rename_i r he
          cases hn
          obtain ⟨k1, k2, k3⟩ := key hg he
          refine Done.same s (hrun k3 ?_) (.bool _)
          rw [k2]
          have := aeq_ok ok.tbl (μ := μ) Op.maxDepth t a b r a' b' he va vb W
          simp only [Op.equal, Sem.run_bind, this, Result.andThen, Sem.run_pure]
          cases r <;> rfl
        · cases hn
      · cases hn
    · cases hn

theorem range_ok (s : Sim P μ h W) {t : TypeId} {x x' : Value} (hx : V μ x x') {n : AN} (ha : oRange E t x h = some n) : Done P μ h W ((do pure (Next.value (← Instr.range t x')) : Sem Next).run P W) n := by
  unfold oRange at ha
  split at ha
  · rename_i b hu
    have hu := und_ok ok.tbl hu
    cases ha; cases hx
    have hO : ORel P (ext μ h.next (W.heap.size, (0, 0))) (0, 0) (.siter b 0) (.stringIter b 0) := rfl
    refine ⟨_, _, W.alloc (.stringIter b 0), .inl (run_v ?_), .ptr (ext_self _ _ _), Sim.made s _ _ (0, 0) _ rfl hO, Stp.made s _ _ (0, 0) _ rfl rfl rfl rfl⟩
    simp [Instr.range, run_underlying hu]
  · rename_i hu
    have hu := und_ok ok.tbl hu
    cases ha; cases hx
    have hO : ORel P (ext μ h.next (W.heap.size, (0, 0))) (0, 0) (.miter none 0 #[] 0) (.mapIter none 0 #[] 0) := ⟨none, rfl, (fun _ => rfl), fun _ e => nomatch e⟩
    refine ⟨_, _, W.alloc (.mapIter none 0 #[] 0), .inl (run_v ?_), .ptr (ext_self _ _ _), Sim.made s _ _ (0, 0) _ rfl hO, Stp.made s _ _ (0, 0) _ rfl rfl rfl rfl⟩
    simp [Instr.range, run_underlying hu]
  · rename_i r hu
    have hu := und_ok ok.tbl hu
    split at ha
    · rename_i es c ho
      cases ha
      cases hx with | @map _ r' z hr =>
      obtain ⟨ES, h1, h2⟩ := s.mapAt hr ho
      have hO : ORel P (ext μ h.next (W.heap.size, (0, 0))) (0, 0) (.miter (some r) c #[] c) (.mapIter (some r') c #[] c) := ⟨some r', rfl, (fun e => nomatch e), fun q e => ⟨r', z, sub_ext s _ _ _ (by cases e; exact hr), rfl⟩⟩
      refine ⟨_, _, W.alloc (.mapIter (some r') c #[] c), .inl (run_v ?_), .ptr (ext_self _ _ _), Sim.made s _ _ (0, 0) _ rfl hO, Stp.made s _ _ (0, 0) _ rfl rfl rfl rfl⟩
      simp [Instr.range, run_underlying hu, run_getObj h1]
    · cases ha
  · cases ha

theorem s2ap_ok (s : Sim P μ h W) {t : TypeId} {x x' : Value} (hx : V μ x x') {n : AN} (ha : oS2ap E t x h = some n) : Done P μ h W ((do pure (Next.value (← Instr.arrayAt t x')) : Sem Next).run P W) n := by
  unfold oS2ap at ha
  split at ha
  · rename_i m e b o l c hu
    have hu := und_ok ok.tbl hu
    split at ha
    · rename_i hle
      have hle := Nat.le_of_ble_eq_true hle
      cases ha
      cases hx with | slice g1 =>
      refine Done.same s (run_v ?_) (.ptr g1)
      simp [Instr.arrayAt, run_underlying hu, show ¬ l < m from by omega]
    · cases ha
  · cases ha

omit ok in
theorem EL.find {μ : Mp} (p : MapEntry → Bool) (hp : ∀ a b : MapEntry, a.born = b.born → p a = p b) : ∀ {l l' : List MapEntry} (_ : EL μ l l') {e : MapEntry}, l.find? p = some e → ∃ e', l'.find? p = some e' ∧ V μ e.key e'.key ∧ V μ e.val e'.val ∧ e.born = e'.born
  | _, _, .nil, _, h => by simp at h
  | _, _, .cons (e := x) (e' := x') hk hv hb hr, e, h => by
    rw [List.find?_cons] at h ⊢
    rw [← hp x x' hb]
    cases hx : p x with
    | true => rw [hx] at h; cases h; exact ⟨x', rfl, hk, hv, hb⟩
    | false => rw [hx] at h; exact EL.find p hp hr h
omit ok in
theorem EL.filter {μ : Mp} (p : MapEntry → Bool) (hp : ∀ a b : MapEntry, a.born = b.born → p a = p b) : ∀ {l l' : List MapEntry} (_ : EL μ l l'), EL μ (l.filter p) (l'.filter p)
  | _, _, .nil => .nil
  | _, _, .cons (e := x) (e' := x') hk hv hb hr => by
    rw [List.filter_cons, List.filter_cons, ← hp x x' hb]
    cases p x with
    | true => exact .cons hk hv hb (EL.filter p hp hr)
    | false => exact EL.filter p hp hr
omit ok in
theorem EL.all {μ : Mp} (p : MapEntry → Bool) (hp : ∀ a b : MapEntry, a.born = b.born → p a = p b) : ∀ {l l' : List MapEntry} (_ : EL μ l l'), l.all p = l'.all p
  | _, _, .nil => rfl
  | _, _, .cons (e := x) (e' := x') hk hv hb hr => by
    rw [List.all_cons, List.all_cons, hp x x' hb, EL.all p hp hr]

theorem entry_ok (s : Sim P μ h W) {x x' : Value} (hx : V μ x x') {n : AN} (ha : oEntry x h = some n) : Done P μ h W ((do pure (Next.value (← Instr.entry x')) : Sem Next).run P W) n := by
  unfold oEntry at ha
  split at ha
  · rename_i r
    split at ha
    · rename_i m since seen stepped ho
      split at ha
      · rename_i es clock stamp hm hs
        split at ha
        · rename_i e hc hf
          have hc := Nat.eq_of_beq_eq_true hc
          subst hc
          cases ha
          cases hx with | @ptr _ r' o z hr =>
          obtain ⟨O, h1, h2⟩ := s.obj _ _ _ hr
          rw [ho] at h2
          obtain ⟨m', rfl, h3, h4⟩ := h2
          obtain ⟨mr, zm, g1, rfl⟩ := h4 m rfl
          obtain ⟨ES, k1, k2⟩ := s.mapAt g1 hm
          obtain ⟨e', f1, f2, f3, f4⟩ := k2.find (fun e => e.born == stamp) (fun a b hab => by rw [hab]) hf
          refine Done.same s (run_v ?_) (.tuple (.cons f2 (.cons f3 .nil)))
          have hb : seen.back? = some stamp := by rw [Array.back?_eq_getElem?]; rw [← hs, List.getLast?_eq_getElem?]; simp
          have hg : (getObj r').run P W = .ok (.mapIter (some mr) since seen clock) W := by simp [getObj, Sem.run, h1]
          have hfa : ES.find? (fun e => e.born == stamp) = some e' := by rw [← f1]; simp
          simp [Instr.entry, hg, hb, run_getObj k1, hfa]
        · cases ha
      · cases ha
    · cases ha
  · cases ha

omit ok in
theorem set_obj_ok (s : Sim P μ h W) {r r' : Nat} {z : Nat × Nat} (hr : μ r = some (r', z)) (hl : (h.at r).wr = true) {O0 O : Obj} (h1 : W.heap[r']? = some O0) (hn : ∀ C e f, O0 ≠ .cells C e f) {o : AObj} (hO : ORel P μ z o O) :
    ∃ W', (setObj r' O).run P W = .ok () W' ∧ Sim P μ (h.set r o) W' ∧ Stp μ μ h (h.set r o) W W' := by
  have hsz : r' < W.heap.size := (Array.getElem?_eq_some_iff.1 h1).1
  have hW : ∀ k, (W.heap.setIfInBounds r' O)[k]? = if k = r' then some O else W.heap[k]? := fun k => by
    rw [Array.getElem?_setIfInBounds]
    by_cases e : k = r'
    · subst e; rw [if_pos rfl, if_pos rfl, if_pos hsz]
    · rw [if_neg (fun e' => e e'.symm), if_neg e]
  refine ⟨{ W with heap := W.heap.setIfInBounds r' O }, by cases O0 <;> first | exact absurd rfl (hn _ _ _) | simp [setObj, Sem.run, h1], s.turn hr (AObj.live_of_wr hl) o O _ (by simp) hW hO, Stp.turn hr hl o O _ (by simp) hW rfl rfl rfl⟩

omit ok in
theorem EL.isEmpty {μ : Mp} {l l' : List MapEntry} (h : EL μ l l') : l.isEmpty = l'.isEmpty := by cases h <;> rfl
omit ok in
theorem decode_ascii {s : ByteArray} {p : Nat} {b : UInt8} (h : s.data.toList[p]? = some b) (hb : b.toNat < 128) : Utf8.decode s p = (b.toNat, 1) := by
  have hg : s.get! (p + 0) = b := by
    have h' : s.data[p]? = some b := by rw [← h, Array.getElem?_toList]
    rw [Nat.add_zero]
    show s.data[p]! = b
    rw [getElem!_def, h']
  unfold Utf8.decode
  simp only [hg]
  rw [if_pos hb]

theorem next_ok (s : Sim P μ h W) {x x' : Value} {isS : Bool} {ty : TypeId} (hx : V μ x x') {n : AN} (ha : oNext x isS h = some n) : Done P μ h W ((do pure (Next.value (← Instr.next x' isS ty)) : Sem Next).run P W) n := by
  unfold oNext at ha
  split at ha
  · rename_i r
    cases hx with | @ptr _ r' o z hr =>
    obtain ⟨O, h1, h2⟩ := s.obj _ _ _ hr
    split at ha
    · rename_i st p ho
      rw [ho] at h2
      have hO : O = .stringIter st p := h2
      subst hO
      have hg : (getObj r').run P W = .ok (.stringIter st p) W := by simp [getObj, Sem.run, h1]
      have hsz : st.data.toList.length = st.size := rfl
      split at ha
      · rename_i hlt
        have hlt := Nat.le_of_ble_eq_true hlt
        split at ha
        · rename_i b hb
          split at ha
          · rename_i hb1
            cases ha
            obtain ⟨W', g1, g2, g3⟩ := set_obj_ok s hr (by rw [ho]; rfl) h1 (by nofun) (o := .siter st (p + 1)) (O := .stringIter st (p + 1)) rfl
            refine ⟨μ, _, W', .inl (run_v ?_), .tuple (.cons (.bool _) (.cons (.int _ _) (.cons (.int _ _) .nil))), g2, g3⟩
            simp [Instr.next, hg, show p < st.size from by omega, decode_ascii hb hb1, g1, goInt]
          · cases ha
        · cases ha
      · rename_i hlt
        have hlt : ¬ p + 1 ≤ st.data.toList.length := fun e => by have := Nat.ble_eq_true_of_le e; unfold Nat.blt at hlt; rw [this] at hlt; cases hlt
        cases ha
        refine Done.same s (run_v ?_) (.tuple (.cons (.bool _) .nil))
        simp [Instr.next, hg, show ¬ p < st.size from by omega]
    · rename_i a b c ho
      rw [ho] at h2
      obtain ⟨m', rfl, h3, h4⟩ := h2
      cases h3 rfl
      cases ha
      have hg : (getObj r').run P W = .ok (.mapIter none a b c) W := by simp [getObj, Sem.run, h1]
      refine Done.same s (run_v ?_) (.tuple (.cons (.bool _) .nil))
      simp [Instr.next, hg]
    · rename_i m since seen last ho
      split at ha
      · rename_i es clock hm
        rw [ho] at h2
        obtain ⟨m', rfl, h3, h4⟩ := h2
        obtain ⟨mr, zm, q1, rfl⟩ := h4 m rfl
        obtain ⟨ES, k1, k2⟩ := s.mapAt q1 hm
        have hg : (getObj r').run P W = .ok (.mapIter (some mr) since seen last) W := by simp [getObj, Sem.run, h1]
        have hall := k2.all (fun e => decide (e.born ≥ last)) (fun a b hab => by rw [hab])
        have hfil := k2.filter (fun e => !seen.contains e.born) (fun a b hab => by rw [hab])
        have hemp : es.isEmpty = ES.isEmpty := by rw [k2.isEmpty, Array.isEmpty_toList]
        split at ha
        · rename_i hc hf
          cases ha
          rw [hf] at hfil
          have hnil : (ES.filter fun e => !seen.contains e.born) = #[] := by
            apply Array.ext'
            rw [Array.toList_filter]
            generalize ES.toList.filter (fun e => !seen.contains e.born) = l at hfil
            cases hfil
            rfl
          refine ⟨μ, _, W, .inl (run_v ?_), .tuple (.cons (.bool false) .nil), s, .refl _ _ _⟩
          rw [hall, hemp, Array.all_toList] at hc
          have hc' : (!seen.isEmpty && !ES.isEmpty && ES.all fun e => decide (e.born ≥ last)) = false := hc
          simp only [Instr.next, hg, run_getObj k1, Sem.run_bind, Result.andThen, hc', hnil, Bool.false_eq_true, if_false]
          have hch : (Question.mapNext 1).forced = true := rfl
          simp [hch]
        · rename_i e hc hf
          split at ha
          · rename_i hlt
            have hlt : e.born < since := Nat.le_of_ble_eq_true hlt
            cases ha
            rw [hf] at hfil
            have hone : ∃ e', (ES.filter fun e => !seen.contains e.born) = #[e'] ∧ V μ e.key e'.key ∧ V μ e.val e'.val ∧ e.born = e'.born := by
              have : (ES.filter fun e => !seen.contains e.born).toList = ES.toList.filter (fun e => !seen.contains e.born) := by rw [Array.toList_filter]
              generalize ES.toList.filter (fun e => !seen.contains e.born) = l at hfil this
              cases hfil with | cons a1 a2 a3 a4 =>
              cases a4
              exact ⟨_, by apply Array.ext'; rw [this], a1, a2, a3⟩
            obtain ⟨e', he, v1, v2, v3⟩ := hone
            obtain ⟨W', g1, g2, g3⟩ := set_obj_ok s hr (by rw [ho]; rfl) h1 (by nofun) (o := .miter (some m) since (seen.push e.born) clock) (O := .mapIter (some mr) since (seen.push e.born) clock) ⟨some mr, rfl, (fun e => nomatch e), fun q e => ⟨mr, zm, (by cases e; exact q1), rfl⟩⟩
            refine ⟨μ, _, W', .inl (run_v ?_), .tuple (.cons (.bool true) (.cons v1 (.cons v2 .nil))), g2, g3⟩
            rw [hall, hemp, Array.all_toList] at hc
            have hc' : (!seen.isEmpty && !ES.isEmpty && ES.all fun e => decide (e.born ≥ last)) = false := hc
            have ho1 : (#[e'].filter fun x => decide (x.born < since)) = #[e'] := by
              apply Array.ext'
              rw [Array.toList_filter]
              simp [← v3, hlt]
            have ho2 : (#[e'].filter fun x => decide (x.born ≥ since)) = #[] := by
              apply Array.ext'
              rw [Array.toList_filter]
              simp [← v3, hlt]
            have hch : (Question.mapNext 1).forced = true := rfl
            rw [v3] at g1
            simp only [Instr.next, hg, run_getObj k1, Sem.run_bind, Result.andThen, hc', he, ho1, ho2, Bool.false_eq_true, if_false]
            simp [hch, g1]
          · cases ha
        · cases ha
      · cases ha
    · cases ha
  · cases ha
end
end
end Go.Ab
