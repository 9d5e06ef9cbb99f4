import Derived.Test.YtmdcmnjeonnfiaaGreatDoorCuEnv
import Derived.Test.YtmdcmnjeonnfiaaGreatDoorAbZ
set_option linter.unusedSimpArgs false
set_option linter.unusedVariables false
/-! Custody, methods of nil pointers: what each answers, over every memory. -/
open Go Go.Ab Go.Proofs
set_option maxRecDepth 100000
noncomputable def fns1 : List Nat := [11, 12, 13, 17, 18, 19, 20, 21, 22, 23, 24, 25, 26, 27, 28, 29, 30, 31, 32, 33, 34, 35, 36, 38, 39, 44, 52, 53, 54, 55, 56, 60, 63, 72, 92]
noncomputable def crits1 : List (Nat × Crit) := [(19, [(13, [(4, 8)])]), (22, [(4, [(4, 14), (3, 14)])]), (29, [(10, [(4, 6), (3, 6)])])]
noncomputable def E1 : Env := mkEnv Tryz.prog fns1 [] [126] [] crits1
theorem hf1 : (fns1 ++ []).all nameOk = true := by kernel_rfl
theorem hfx1 : ∀ f ∈ fns1 ++ [], ∀ fn, Tryz.prog.funcs[f]? = some fn → fn.name ≠ "runtime.NumGoroutine" := by
  intro f hf fn h e
  have := List.all_eq_true.1 hf1 f hf
  unfold nameOk at this
  rw [h] at this
  dsimp only at this
  rw [e] at this
  simp at this
theorem ok1 : EnvOk Tryz.prog E1 := mkEnv_ok (info_types _) hfx1 he (fun f code h => by cases h)
theorem codes1 : codesOk E1 fns1 = true := by kernel_rfl
theorem co1 : CodesOk E1 := mkEnv_codes codes1
noncomputable def noSum : ACall := fun _ _ _ => none
theorem noSum_ok : CallOk Tryz.prog noSum := by intro f args h e h' hr; cases hr
noncomputable def C1 : ACall := acallS noSum E1 100 10
theorem C1_ok : CallOk Tryz.prog C1 := callS_ok ok1 co1 hm noSum_ok 100 10
noncomputable def nilV : Value := .pointer none
noncomputable def err3 : Value := .int .i64 3
noncomputable def fstE : Option (AEnd × AH) → Option AEnd
  | some (e, _) => some e
  | none => none
theorem fstE_eq {x : Option (AEnd × AH)} {e : AEnd} (h : fstE x = some e) : ∃ h', x = some (e, h') := by
  unfold fstE at h
  split at h
  · cases h; exact ⟨_, rfl⟩
  · cases h
theorem Sem.of_C1 {f : FuncId} {args : List Value} (ha : ∀ v ∈ args, Old 0 v) {v : Value} (hr : fstE (C1 f args ⟨.leaf, 0⟩) = some (.ret v)) (ho : Old 0 v) (h : AH) : Sem Tryz.prog f args h fun e' h' => e' = .ret v ∧ h' = h := by
  obtain ⟨h', hh⟩ := fstE_eq hr
  exact Sem.of_run C1_ok ha hh ho h
theorem OldL.nil (n : Nat) : ∀ v ∈ ([] : List Value), Old n v := fun _ h => by cases h
theorem OldL.cons {n : Nat} {v : Value} {l : List Value} (h : Old n v) (r : ∀ v ∈ l, Old n v) : ∀ w ∈ v :: l, Old n w := fun w hw => by
  rcases List.mem_cons.1 hw with rfl | hw
  · exact h
  · exact r w hw

theorem n38 (a : Int) (b : ByteArray) (c : Value) (h : AH) : Sem Tryz.prog 38 [nilV, .agg ⟨[.int .i64 a, .string b]⟩, c] h fun e h' => e = .ret err3 ∧ h' = h :=
  Sem.weaken (Sem.of_C1 (OldL.cons (.nilp 0) (OldL.cons (.agg (OldL.cons (.int _ _ _) (OldL.cons (.string _ _) (OldL.nil _)))) (OldL.cons (.poison 0) (OldL.nil 0)))) (by kernel_rfl) (.int _ _ _) h) (VLw.same (VLw.same (VLw.any VLw.nil)))
theorem n52 (a : Int) (b : ByteArray) (c : Value) (h : AH) : Sem Tryz.prog 52 [nilV, .agg ⟨[.int .i64 a, .string b]⟩, c] h fun e h' => e = .ret err3 ∧ h' = h :=
  Sem.weaken (Sem.of_C1 (OldL.cons (.nilp 0) (OldL.cons (.agg (OldL.cons (.int _ _ _) (OldL.cons (.string _ _) (OldL.nil _)))) (OldL.cons (.poison 0) (OldL.nil 0)))) (by kernel_rfl) (.int _ _ _) h) (VLw.same (VLw.same (VLw.any VLw.nil)))
theorem n53 (a : Value) (h : AH) : Sem Tryz.prog 53 [nilV, a] h fun e h' => e = .ret err3 ∧ h' = h :=
  Sem.weaken (Sem.of_C1 (OldL.cons (.nilp 0) (OldL.cons (.poison 0) (OldL.nil 0))) (by kernel_rfl) (.int _ _ _) h) (VLw.same (VLw.any VLw.nil))
theorem n39 (a b c : Value) (h : AH) : Sem Tryz.prog 39 [nilV, a, b, c] h fun e h' => e = .ret (.tuple ⟨[.int .i64 0, err3]⟩) ∧ h' = h :=
  Sem.weaken (Sem.of_C1 (OldL.cons (.nilp 0) (OldL.cons (.poison 0) (OldL.cons (.poison 0) (OldL.cons (.poison 0) (OldL.nil 0))))) (by kernel_rfl) (.tuple (OldL.cons (.int _ _ _) (OldL.cons (.int _ _ _) (OldL.nil _)))) h) (VLw.same (VLw.any (VLw.any (VLw.any VLw.nil))))
theorem n12 (a b : Value) (h : AH) : Sem Tryz.prog 12 [nilV, a, b] h fun e h' => e = .ret (.tuple ⟨[.string ByteArray.empty, err3]⟩) ∧ h' = h :=
  Sem.weaken (Sem.of_C1 (OldL.cons (.nilp 0) (OldL.cons (.poison 0) (OldL.cons (.poison 0) (OldL.nil 0)))) (by kernel_rfl) (.tuple (OldL.cons (.string _ _) (OldL.cons (.int _ _ _) (OldL.nil _)))) h) (VLw.same (VLw.any (VLw.any VLw.nil)))
theorem n54 (a b : Value) (h : AH) : Sem Tryz.prog 54 [nilV, a, b] h fun e h' => e = .ret err3 ∧ h' = h :=
  Sem.weaken (Sem.of_C1 (OldL.cons (.nilp 0) (OldL.cons (.poison 0) (OldL.cons (.poison 0) (OldL.nil 0)))) (by kernel_rfl) (.int _ _ _) h) (VLw.same (VLw.any (VLw.any VLw.nil)))
theorem n55 (a b : Value) (h : AH) : Sem Tryz.prog 55 [nilV, a, b] h fun e h' => e = .ret err3 ∧ h' = h :=
  Sem.weaken (Sem.of_C1 (OldL.cons (.nilp 0) (OldL.cons (.poison 0) (OldL.cons (.poison 0) (OldL.nil 0)))) (by kernel_rfl) (.int _ _ _) h) (VLw.same (VLw.any (VLw.any VLw.nil)))
theorem n17 (a : Value) (h : AH) : Sem Tryz.prog 17 [nilV, a] h fun e h' => e = .ret (.tuple ⟨[.slice none 0 0, err3]⟩) ∧ h' = h :=
  Sem.weaken (Sem.of_C1 (OldL.cons (.nilp 0) (OldL.cons (.poison 0) (OldL.nil 0))) (by kernel_rfl) (.tuple (OldL.cons (.nils _) (OldL.cons (.int _ _ _) (OldL.nil _)))) h) (VLw.same (VLw.any VLw.nil))
theorem n18 (a : Value) (h : AH) : Sem Tryz.prog 18 [nilV, a] h fun e h' => e = .ret (.tuple ⟨[]⟩) ∧ h' = h :=
  Sem.weaken (Sem.of_C1 (OldL.cons (.nilp 0) (OldL.cons (.poison 0) (OldL.nil 0))) (by kernel_rfl) (.tuple (OldL.nil _)) h) (VLw.same (VLw.any VLw.nil))
theorem n19 (a b : Value) (h : AH) : Sem Tryz.prog 19 [nilV, a, b] h fun e h' => e = .ret err3 ∧ h' = h :=
  Sem.weaken (Sem.of_C1 (OldL.cons (.nilp 0) (OldL.cons (.poison 0) (OldL.cons (.poison 0) (OldL.nil 0)))) (by kernel_rfl) (.int _ _ _) h) (VLw.same (VLw.any (VLw.any VLw.nil)))
theorem n20 (h : AH) : Sem Tryz.prog 20 [nilV] h fun e h' => e = .ret (.tuple ⟨[.pointer none, .slice none 0 0, err3]⟩) ∧ h' = h :=
  Sem.of_C1 (OldL.cons (.nilp 0) (OldL.nil 0)) (by kernel_rfl) (.tuple (OldL.cons (.nilp _) (OldL.cons (.nils _) (OldL.cons (.int _ _ _) (OldL.nil _))))) h
theorem n22 (a b c : Int) (h : AH) : Sem Tryz.prog 22 [nilV, .int .i64 a, .int .i64 b, .int .i64 c] h fun e h' => e = .ret (.tuple ⟨[.string ByteArray.empty, err3]⟩) ∧ h' = h :=
  Sem.of_C1 (OldL.cons (.nilp 0) (OldL.cons (.int _ _ _) (OldL.cons (.int _ _ _) (OldL.cons (.int _ _ _) (OldL.nil 0))))) (by kernel_rfl) (.tuple (OldL.cons (.string _ _) (OldL.cons (.int _ _ _) (OldL.nil _)))) h
theorem n23 (h : AH) : Sem Tryz.prog 23 [nilV] h fun e h' => e = .ret err3 ∧ h' = h :=
  Sem.of_C1 (OldL.cons (.nilp 0) (OldL.nil 0)) (by kernel_rfl) (.int _ _ _) h
theorem n24 (a : Value) (h : AH) : Sem Tryz.prog 24 [nilV, a] h fun e h' => e = .ret err3 ∧ h' = h :=
  Sem.weaken (Sem.of_C1 (OldL.cons (.nilp 0) (OldL.cons (.poison 0) (OldL.nil 0))) (by kernel_rfl) (.int _ _ _) h) (VLw.same (VLw.any VLw.nil))
theorem n25 (h : AH) : Sem Tryz.prog 25 [nilV] h fun e h' => e = .ret (.bool true) ∧ h' = h :=
  Sem.of_C1 (OldL.cons (.nilp 0) (OldL.nil 0)) (by kernel_rfl) (.bool _ _) h
theorem n26 (a : Value) (h : AH) : Sem Tryz.prog 26 [nilV, a] h fun e h' => e = .ret err3 ∧ h' = h :=
  Sem.weaken (Sem.of_C1 (OldL.cons (.nilp 0) (OldL.cons (.poison 0) (OldL.nil 0))) (by kernel_rfl) (.int _ _ _) h) (VLw.same (VLw.any VLw.nil))
theorem n27 (h : AH) : Sem Tryz.prog 27 [nilV] h fun e h' => e = .ret err3 ∧ h' = h :=
  Sem.of_C1 (OldL.cons (.nilp 0) (OldL.nil 0)) (by kernel_rfl) (.int _ _ _) h
theorem n28 (h : AH) : Sem Tryz.prog 28 [nilV] h fun e h' => e = .ret (.int .i64 0) ∧ h' = h :=
  Sem.of_C1 (OldL.cons (.nilp 0) (OldL.nil 0)) (by kernel_rfl) (.int _ _ _) h
theorem n29 (a b : Int) (c : Value) (h : AH) : Sem Tryz.prog 29 [nilV, .int .i64 a, .int .i64 b, c] h fun e h' => e = .ret err3 ∧ h' = h :=
  Sem.weaken (Sem.of_C1 (OldL.cons (.nilp 0) (OldL.cons (.int _ _ _) (OldL.cons (.int _ _ _) (OldL.cons (.poison 0) (OldL.nil 0))))) (by kernel_rfl) (.int _ _ _) h) (VLw.same (VLw.same (VLw.same (VLw.any VLw.nil))))
theorem n30 (a b : Value) (h : AH) : Sem Tryz.prog 30 [nilV, a, b] h fun e h' => e = .ret (.int .i64 0) ∧ h' = h :=
  Sem.weaken (Sem.of_C1 (OldL.cons (.nilp 0) (OldL.cons (.poison 0) (OldL.cons (.poison 0) (OldL.nil 0)))) (by kernel_rfl) (.int _ _ _) h) (VLw.same (VLw.any (VLw.any VLw.nil)))
theorem n31 (a b c : Int) (h : AH) : Sem Tryz.prog 31 [nilV, .int .i64 a, .int .i64 b, .int .i64 c] h fun e h' => e = .ret err3 ∧ h' = h :=
  Sem.of_C1 (OldL.cons (.nilp 0) (OldL.cons (.int _ _ _) (OldL.cons (.int _ _ _) (OldL.cons (.int _ _ _) (OldL.nil 0))))) (by kernel_rfl) (.int _ _ _) h
theorem n32 (a b c : Int) (h : AH) : Sem Tryz.prog 32 [nilV, .int .i64 a, .int .i64 b, .int .i64 c] h fun e h' => e = .ret err3 ∧ h' = h :=
  Sem.of_C1 (OldL.cons (.nilp 0) (OldL.cons (.int _ _ _) (OldL.cons (.int _ _ _) (OldL.cons (.int _ _ _) (OldL.nil 0))))) (by kernel_rfl) (.int _ _ _) h
theorem n33 (h : AH) : Sem Tryz.prog 33 [nilV] h fun e h' => e = .ret (.slice none 0 0) ∧ h' = h :=
  Sem.of_C1 (OldL.cons (.nilp 0) (OldL.nil 0)) (by kernel_rfl) (.nils _) h
theorem n13 (h : AH) : Sem Tryz.prog 13 [nilV] h fun e h' => e = .ret (.slice none 0 0) ∧ h' = h :=
  Sem.of_C1 (OldL.cons (.nilp 0) (OldL.nil 0)) (by kernel_rfl) (.nils _) h
theorem n34 (h : AH) : Sem Tryz.prog 34 [nilV] h fun e h' => e = .ret (.slice none 0 0) ∧ h' = h :=
  Sem.of_C1 (OldL.cons (.nilp 0) (OldL.nil 0)) (by kernel_rfl) (.nils _) h
theorem n11 (h : AH) : Sem Tryz.prog 11 [nilV] h fun e h' => e = .ret (.slice none 0 0) ∧ h' = h :=
  Sem.of_C1 (OldL.cons (.nilp 0) (OldL.nil 0)) (by kernel_rfl) (.nils _) h
theorem n35 (h : AH) : Sem Tryz.prog 35 [nilV] h fun e h' => e = .ret (.slice none 0 0) ∧ h' = h :=
  Sem.of_C1 (OldL.cons (.nilp 0) (OldL.nil 0)) (by kernel_rfl) (.nils _) h
theorem n36 (a : Value) (h : AH) : Sem Tryz.prog 36 [nilV, a] h fun e h' => e = .ret (.int .i64 0) ∧ h' = h :=
  Sem.weaken (Sem.of_C1 (OldL.cons (.nilp 0) (OldL.cons (.poison 0) (OldL.nil 0))) (by kernel_rfl) (.int _ _ _) h) (VLw.same (VLw.any VLw.nil))
theorem n21 (a : Nat) (ha : a < 8) (h : AH) : Sem Tryz.prog 21 [nilV, .int .i64 a] h fun e h' => e = .ret (.tuple ⟨[.pointer none, err3]⟩) ∧ h' = h := by
  have key : fstE (C1 21 [nilV, .int .i64 a] ⟨.leaf, 0⟩) = some (.ret (.tuple ⟨[.pointer none, err3]⟩)) := by
    rcases (by omega : a = 0 ∨ a = 1 ∨ a = 2 ∨ a = 3 ∨ a = 4 ∨ a = 5 ∨ a = 6 ∨ a = 7) with rfl | rfl | rfl | rfl | rfl | rfl | rfl | rfl
    all_goals kernel_rfl
  exact Sem.of_C1 (OldL.cons (.nilp 0) (OldL.cons (.int _ _ _) (OldL.nil 0))) key (.tuple (OldL.cons (.nilp _) (OldL.cons (.int _ _ _) (OldL.nil _)))) h
