import Derived.Test.YtmdcmnjeonnfiaaGreatDoorAbK
/-! One operation whole: the law. -/
set_option linter.unusedSimpArgs false
set_option linter.unusedVariables false
set_option linter.unusedSectionVars false
namespace Go.Ab
noncomputable section

section
variable {P : Program} {E : Env} (ok : EnvOk P E) {μ : Mp} {h : AH} {W : World}
include ok

theorem aop_ok (s : Sim P μ h W) {o : Oper} {ρ ev : Operand → Value} (hρ : ∀ x ∈ o.op.operands.toList, V μ (ρ x) (ev x)) {n : AN} (ha : aop E o ρ h = some n) : Done P μ h W ((execOp ev o).run P W) n := by
  obtain ⟨dst, op, ty, pos, after, guard⟩ := o
  unfold aop at ha
  unfold execOp
  dsimp only at hρ ha ⊢
  cases op <;> dsimp only [aopO] at ha <;> dsimp only [Op.operands] at hρ <;> try dsimp only
  case move x => cases ha; exact Done.same s rfl (hρ x (by simp))
  case assign x => cases ha; exact Done.same s rfl (hρ x (by simp))
  case pick c a b =>
    have hc := hρ c (by simp)
    unfold oPick at ha
    split at ha
    · rename_i e; rw [e] at hc; cases ha
      generalize ev c = c' at hc ⊢
      cases hc
      exact Done.same s (by simp [asBool]) (hρ a (by simp))
    · rename_i e; rw [e] at hc; cases ha
      generalize ev c = c' at hc ⊢
      cases hc
      exact Done.same s (by simp [asBool]) (hρ b (by simp))
    · cases ha
  case alloc t => exact Done.ofVH (fun _ _ h => run_v h) (fun v h' e => alloc_ok ok.tbl s e) ha
  case box t x => exact Done.ofVH (fun _ _ h => run_v h) (fun v h' e => box_ok s (hρ x (by simp)) e) ha
  case build t ps =>
    exact Done.ofV s (fun _ _ h => run_v h) (fun v e => build_ok ok.tbl (by
      simp only [Array.toList_map]
      exact VP.of fun x hx => hρ x (by simpa using hx)) e W) ha
  case buildSlice t len ps =>
    exact Done.ofVH (fun _ _ h => run_v h) (fun v h' e => buildSlice_ok ok.tbl s (by
      simp only [Array.toList_map]
      exact VP.of fun x hx => hρ x (by simpa using hx)) e) ha
  case load t x => exact Done.ofV s (fun _ _ h => run_v h) (fun v e => load_ok ok.tbl s (hρ x (by simp)) e) ha
  case store t a x => exact Done.ofH (fun _ h => run_u h) (fun h' e => store_ok ok.tbl s (hρ a (by simp)) (hρ x (by simp)) e) ha
  case nilCheck x =>
    have hx := hρ x (by simp)
    unfold oNilCheck at ha
    split at ha
    · rename_i a e; rw [e] at hx; cases ha
      generalize ev x = x' at hx ⊢
      cases hx with | ptr g => exact Done.same s rfl (.ptr g)
    · rename_i a b e; rw [e] at hx; cases ha
      generalize ev x = x' at hx ⊢
      cases hx with | iface g => exact Done.same s rfl (.iface g)
    · rename_i a b c e; rw [e] at hx; cases ha
      generalize ev x = x' at hx ⊢
      cases hx with | func g1 g2 => exact Done.same s rfl (.func g1 g2)
    · cases ha
  case binOp op t x y p => exact bin_ok ok s (hρ x (by simp)) (hρ y (by simp)) ha
  case unOp op t x =>
    have hx := hρ x (by simp)
    unfold oUn at ha
    split at ha
    · rename_i b e; rw [e] at hx; cases ha
      generalize ev x = x' at hx ⊢
      cases hx
      exact Done.same s rfl (.bool _)
    · rename_i k n e; rw [e] at hx; cases ha
      generalize ev x = x' at hx ⊢
      cases hx
      refine Done.same s ?_ (.int k _)
      rw [fwrap_eq]
      exact run_v rfl
    · cases ha
  case convert a b x => exact Done.ofVH (fun _ _ h => run_v h) (fun v h' e => convert2_ok ok.tbl s (hρ x (by simp)) e) ha
  case makeInterface t x =>
    unfold oIface at ha
    split at ha
    · cases ha
    · rename_i d hn hu
      cases ha
      have hu := und_ok ok.tbl hu
      refine Done.same s (run_v ?_) (.iface (hρ x (by simp)))
      unfold Instr.makeInterface
      cases d <;> first | exact absurd rfl (hn _) | simp [run_underlying hu]
    · cases ha
  case makeFunc fn f c =>
    cases ha
    refine Done.same s rfl (.func ?_ ?_)
    · simp only [Array.toList_map]; exact VL.of fun x hx => hρ x (by simp; exact .inl (by simpa using hx))
    · simp only [Array.toList_map]; exact VL.of fun x hx => hρ x (by simp; exact .inr (by simpa using hx))
  case makeMap t r =>
    unfold oMakeMap at ha
    split at ha
    · cases ha
      have hO : ORel P (ext μ h.next (W.heap.size, (0, 0))) (0, 0) (.map [] 0) (.map #[] 0) := ⟨#[], rfl, .nil⟩
      exact ⟨_, _, W.alloc (.map #[] 0), .inl (run_v (by simp [Instr.makeMap])), .map (ext_self _ _ _), Sim.made s _ _ (0, 0) _ rfl hO, Stp.made s _ _ (0, 0) _ rfl rfl rfl rfl⟩
    · cases ha
  case makeSlice t l c => exact Done.ofVH (fun _ _ h => run_v h) (fun v h' e => makeSlice_ok ok.tbl s (hρ l (by simp)) (hρ c (by simp)) e) ha
  case slice t x lo hi mx => 
    exact Done.ofV s (fun _ _ h => run_v h) (fun v e => slice_ok ok.tbl s (hρ x (by simp)) (VO.of fun y hy => hρ y (by simp at hy ⊢; simp [hy])) (VO.of fun y hy => hρ y (by simp at hy ⊢; simp [hy])) (VO.of fun y hy => hρ y (by simp at hy ⊢; simp [hy])) e) ha
  case fieldAddr t x f => exact Done.ofV s (fun _ _ h => run_v h) (fun v e => fieldA_ok ok.tbl (hρ x (by simp)) e W) ha
  case field t x f => exact Done.ofV s (fun _ _ h => run_v h) (fun v e => field_ok ok.tbl (hρ x (by simp)) e W) ha
  case indexAddr t x i => exact Done.ofV s (fun _ _ h => run_v h) (fun v e => indexA_ok ok.tbl (hρ x (by simp)) (hρ i (by simp)) e W) ha
  case index t x i => exact Done.ofV s (fun _ _ h => run_v h) (fun v e => index_ok ok.tbl (hρ x (by simp)) (hρ i (by simp)) e W) ha
  case lookup t x i c => exact Done.ofV s (fun _ _ h => run_v h) (fun v e => lookup_ok ok.tbl s (hρ x (by simp)) (hρ i (by simp)) e) ha
  case mapUpdate t m k x => exact Done.ofH (fun _ h => run_u h) (fun h' e => mapSet_ok ok.tbl s (hρ m (by simp)) (hρ k (by simp)) (hρ x (by simp)) e) ha
  case insert t m k x => exact Done.ofH (fun _ h => run_u h) (fun h' e => mapSet_ok ok.tbl s (hρ m (by simp)) (hρ k (by simp)) (hρ x (by simp)) e) ha
  case range t x => exact range_ok ok s (hρ x (by simp)) ha
  case next it isS => exact next_ok ok s (hρ it (by simp)) ha
  case entry it => exact entry_ok ok s (hρ it (by simp)) ha
  case sliceToArrayPointer t x => exact s2ap_ok ok s (hρ x (by simp)) ha
  case typeAssert x xt a c => exact Done.ofV s (fun _ _ h => run_v h) (fun v e => typeAssert_ok ok.tbl (hρ x (by simp)) e W) ha
  case extract x i =>
    have hx := hρ x (by simp)
    unfold oExtract at ha
    split at ha
    · rename_i vs e; rw [e] at hx
      generalize ev x = x' at hx ⊢
      cases hx with | tuple g =>
      exact Done.ofV s (fun _ _ h => run_v h) (fun v e => by
        obtain ⟨v', g1, g2⟩ := g.get i v e
        exact ⟨v', by simp [Instr.extract, ← Array.getElem?_toList, g1], g2⟩) ha
    · cases ha
  case call c =>
    obtain ⟨callee, cargs, cat⟩ := c
    unfold oCall at ha
    dsimp only at ha
    have hargs : VL μ (cargs.toList.map ρ) (cargs.map ev).toList := by
      simp only [Array.toList_map]
      exact VL.of fun x hx => hρ x (by simp [Call.operands]; exact .inr (by simpa using hx))
    cases callee with
    | builtin b =>
      dsimp only at ha
      exact builtin_ok ok s (b := b) (ty := cat) (rt := ty) hargs ha
    | value f =>
      dsimp only at ha
      have hf := hρ f (by simp [Call.operands])
      have := callV_ok ok s hf hargs ha
      simpa [resolve] using this
    | invoke r m => cases ha
  case defer c =>
    obtain ⟨callee, cargs, cat⟩ := c
    unfold oDefer at ha
    dsimp only at ha
    have hargs : VL μ (cargs.toList.map ρ) (cargs.map ev).toList := by
      simp only [Array.toList_map]
      exact VL.of fun x hx => hρ x (by simp [Call.operands]; exact .inr (by simpa using hx))
    cases callee with
    | builtin b => cases ha
    | value f =>
      dsimp only at ha
      have hf := hρ f (by simp [Call.operands])
      split at ha
      · rename_i fn first cap e
        rw [e] at hf
        cases ha
        generalize hf' : ev f = f' at hf
        cases hf with | @func _ _ first' _ cap' g1 g2 =>
        refine ⟨cap', first' ++ cargs.map ev, ?_, g2, ?_⟩
        · simp [resolve, Deferred.ofValue, hf']
        · simp only [Array.toList_append]; exact g1.append hargs
      · cases ha
    | invoke r m => cases ha
  case panic x =>
    have hx := hρ x (by simp)
    unfold oPanic at ha
    split at ha
    · rename_i t v e; rw [e] at hx; cases ha
      generalize ev x = x' at hx ⊢
      cases hx with | iface g =>
      exact ⟨_, by simp [Instr.panic, goPanic, Sem.run], .iface g⟩
    · cases ha
  all_goals cases ha
end
end
end Go.Ab
