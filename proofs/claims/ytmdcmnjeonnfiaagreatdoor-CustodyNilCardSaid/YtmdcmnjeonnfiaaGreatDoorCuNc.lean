import Derived.Test.YtmdcmnjeonnfiaaGreatDoorCuNb
set_option linter.unusedSimpArgs false
set_option linter.unusedVariables false
/-! Custody: few, called. -/
open Go Go.Ab Go.Proofs
set_option maxRecDepth 100000
set_option maxHeartbeats 4000000
theorem Wk.two {n : Nat} {l : List (Nat × Value)} {i j : Nat} {v w : Value} (h1 : lkv n l i = v) (h2 : lkv n l j = w) (hl : ∀ p ∈ l, p.1 < n) : Wk ⟨S n l, n, []⟩ ⟨S n [(i, v), (j, w)], n, []⟩ :=
  Wk.of (fun p hp hk => by
    simp only [List.mem_cons, List.not_mem_nil, or_false] at hp
    rcases hp with rfl | rfl
    · exact h1
    · exact h2) hl
theorem Wk.three {n : Nat} {l : List (Nat × Value)} {i j k : Nat} {v w x : Value} (h1 : lkv n l i = v) (h2 : lkv n l j = w) (h3 : lkv n l k = x) (hl : ∀ p ∈ l, p.1 < n) : Wk ⟨S n l, n, []⟩ ⟨S n [(i, v), (j, w), (k, x)], n, []⟩ :=
  Wk.of (fun p hp hk => by
    simp only [List.mem_cons, List.not_mem_nil, or_false] at hp
    rcases hp with rfl | rfl | rfl
    · exact h1
    · exact h2
    · exact h3) hl
/-- The cells of an operation. -/
def opCells (k : Int) (id : Int) (body : ByteArray) (ids : Value) (to n : Int) (text note : ByteArray) (keep : Value) : List Value :=
  [.int .u8 k, .int .i64 id, .string body, ids, .int .i64 to, .int .i64 n, .string text, .string note, keep]
section
variable (k id : Int) (body : ByteArray) (ids : Value) (to n : Int) (text note : ByteArray) (keep : Value)
theorem few_ok (hi : one ids = true) (hk : one keep = true) (h3 : SliceV ids) (h8 : SliceV keep) (h : AH) (b : Nat) (hb : b < h.next) (hc : ∀ i, i < 9 → h.ld b i = (opCells k id body ids to n text note keep)[i]?) :
    Ab.Sem Tryz.prog 14 [.slice (some ⟨b, 0, none⟩) 1 1] h fun e h' => (∃ r, e = .ret (.bool r)) ∧ h' = h := by
  have key : Ab.Sem Tryz.prog 14 [.slice (some ⟨b, 0, none⟩) 1 1] h fun e h' => (∃ r, e = .ret (.bool r)) ∧ Keep h h' := by
    obtain ⟨n3, g3⟩ := h3
    obtain ⟨n8, g8⟩ := h8
    have e0 := hc 0 (by decide)
    have e1 := hc 1 (by decide)
    have e2 := hc 2 (by decide)
    have e3 := hc 3 (by decide)
    have e4 := hc 4 (by decide)
    have e5 := hc 5 (by decide)
    have e6 := hc 6 (by decide)
    have e7 := hc 7 (by decide)
    have e8 := hc 8 (by decide)
    simp only [opCells, List.getElem?_cons_succ, List.getElem?_cons_zero] at e0 e1 e2 e3 e4 e5 e6 e7 e8
    refine Sem.of_code ok2 hm (cr := []) Tryz.func14 (c := c14) rfl k14 (Wk.enter (n := 70) rfl (by simp)) ?_
    rw [wpC_start]
    simp -implicitDefEqProofs only [c14, Tryz.f14, go_sem, ↓reduceIte, Nat.reduceLT, Nat.reduceEqDiff, Nat.reduceAdd, Nat.reduceMul, Nat.reduceLeDiff, decide_true, decide_false, Int.cast_ofNat_Int, Int.reduceEq, Int.reduceLT, Int.reduceLE, Bool.not_true, Bool.not_false, Nat.zero_add, Nat.add_zero, Nat.zero_mul, List.map_cons, List.map_nil, List.length_cons, List.length_nil, List.getElem?_cons_zero, List.getElem?_cons_succ]
    refine SemC.loop ok2 hm (cr := []) (by kernel_rfl) (I := fun m a h' => Keep h h' ∧ ∃ q : Int, ((m = 1 ∧ a = ⟨S 70 [(0, .slice (some ⟨b, 0, none⟩) 1 1), (3, .int .i64 q), (4, .int .i64 0)], 70, []⟩) ∨ (m = 0 ∧ a = ⟨S 70 [(0, .slice (some ⟨b, 0, none⟩) 1 1), (3, .int .i64 q), (4, .int .i64 1)], 70, []⟩))) ?_ (m0 := 1) (Wk.three (i := 0) (j := 3) (k := 4) ?_ ?_ ?_ ?_) ⟨.refl _, 0, .inl ⟨rfl, rfl⟩⟩
    rotate_left
    · simp [lkv]
    · simp [lkv]
    · simp [lkv]
    · simp
    rintro m a h' ⟨hkp, q, ⟨rfl, rfl⟩ | ⟨rfl, rfl⟩⟩
    · rw [wpC_start]
      have ix := E2_ia60 (i := 0) (n := 1) (by decide) b 0 1 .i64
      rw [← hkp.ld hb] at e0 e1 e2 e3 e4 e5 e6 e7 e8
      simp -implicitDefEqProofs only [go_sem, ↓reduceIte, Nat.reduceLT, Nat.reduceEqDiff, Nat.reduceAdd, Nat.reduceMul, Nat.reduceLeDiff, decide_true, decide_false, Int.cast_ofNat_Int, Int.reduceEq, Int.reduceLT, Int.reduceLE, Bool.not_true, Bool.not_false, Nat.zero_add, Nat.add_zero, Nat.zero_mul, List.map_cons, List.map_nil, List.length_cons, List.length_nil, List.getElem?_cons_zero, List.getElem?_cons_succ]
      simp -implicitDefEqProofs only [go_sem, ↓reduceIte, Nat.reduceLT, Nat.reduceEqDiff, Nat.reduceAdd, Nat.reduceMul, Nat.reduceLeDiff, decide_true, decide_false, Int.cast_ofNat_Int, Int.reduceEq, Int.reduceLT, Int.reduceLE, Bool.not_true, Bool.not_false, Nat.zero_add, Nat.add_zero, Nat.zero_mul, List.map_cons, List.map_nil, List.length_cons, List.length_nil, List.getElem?_cons_zero, List.getElem?_cons_succ, show aindexA E2.T 60 (.slice (some ⟨b, 0, none⟩) 1 1) (.int .i64 0) = some (.pointer (some ⟨b, 0, none⟩)) from ix, e0, e1, e2, e3, e4, e5, e6, e7, e8, hi, hk]
      refine gW_split (fun hb => ?_) (fun hb => ?_)
      · simp -implicitDefEqProofs only [hb, go_sem, ↓reduceIte, Nat.reduceLT, Nat.reduceEqDiff, Nat.reduceAdd, Nat.reduceMul, Nat.reduceLeDiff, decide_true, decide_false, Int.cast_ofNat_Int, Int.reduceEq, Int.reduceLT, Int.reduceLE, Bool.not_true, Bool.not_false, Nat.zero_add, Nat.add_zero, Nat.zero_mul, List.map_cons, List.map_nil, List.length_cons, List.length_nil, List.getElem?_cons_zero, List.getElem?_cons_succ]
        exact ⟨trivial, _, rfl, ⟨false, rfl⟩, hkp.new _⟩
      · simp -implicitDefEqProofs only [hb, go_sem, ↓reduceIte, Nat.reduceLT, Nat.reduceEqDiff, Nat.reduceAdd, Nat.reduceMul, Nat.reduceLeDiff, decide_true, decide_false, Int.cast_ofNat_Int, Int.reduceEq, Int.reduceLT, Int.reduceLE, Bool.not_true, Bool.not_false, Nat.zero_add, Nat.add_zero, Nat.zero_mul, List.map_cons, List.map_nil, List.length_cons, List.length_nil, List.getElem?_cons_zero, List.getElem?_cons_succ, (g3 _).1, (g8 _).1]
        refine gW_split (fun hb => ?_) (fun hb => ?_)
        · simp -implicitDefEqProofs only [hb, go_sem, ↓reduceIte, Nat.reduceLT, Nat.reduceEqDiff, Nat.reduceAdd, Nat.reduceMul, Nat.reduceLeDiff, decide_true, decide_false, Int.cast_ofNat_Int, Int.reduceEq, Int.reduceLT, Int.reduceLE, Bool.not_true, Bool.not_false, Nat.zero_add, Nat.add_zero, Nat.zero_mul, List.map_cons, List.map_nil, List.length_cons, List.length_nil, List.getElem?_cons_zero, List.getElem?_cons_succ]
          exact ⟨trivial, _, rfl, ⟨false, rfl⟩, hkp.new _⟩
        · simp -implicitDefEqProofs only [hb, go_sem, ↓reduceIte, Nat.reduceLT, Nat.reduceEqDiff, Nat.reduceAdd, Nat.reduceMul, Nat.reduceLeDiff, decide_true, decide_false, Int.cast_ofNat_Int, Int.reduceEq, Int.reduceLT, Int.reduceLE, Bool.not_true, Bool.not_false, Nat.zero_add, Nat.add_zero, Nat.zero_mul, List.map_cons, List.map_nil, List.length_cons, List.length_nil, List.getElem?_cons_zero, List.getElem?_cons_succ, (g3 _).1, (g8 _).1]
          refine gW_split (fun hb => ?_) (fun hb => ?_)
          · simp -implicitDefEqProofs only [hb, go_sem, ↓reduceIte, Nat.reduceLT, Nat.reduceEqDiff, Nat.reduceAdd, Nat.reduceMul, Nat.reduceLeDiff, decide_true, decide_false, Int.cast_ofNat_Int, Int.reduceEq, Int.reduceLT, Int.reduceLE, Bool.not_true, Bool.not_false, Nat.zero_add, Nat.add_zero, Nat.zero_mul, List.map_cons, List.map_nil, List.length_cons, List.length_nil, List.getElem?_cons_zero, List.getElem?_cons_succ]
            exact ⟨trivial, _, rfl, ⟨false, rfl⟩, hkp.new _⟩
          · simp -implicitDefEqProofs only [hb, go_sem, ↓reduceIte, Nat.reduceLT, Nat.reduceEqDiff, Nat.reduceAdd, Nat.reduceMul, Nat.reduceLeDiff, decide_true, decide_false, Int.cast_ofNat_Int, Int.reduceEq, Int.reduceLT, Int.reduceLE, Bool.not_true, Bool.not_false, Nat.zero_add, Nat.add_zero, Nat.zero_mul, List.map_cons, List.map_nil, List.length_cons, List.length_nil, List.getElem?_cons_zero, List.getElem?_cons_succ, (g3 _).1, (g8 _).1]
            refine gW_split (fun hb => ?_) (fun hb => ?_)
            · simp -implicitDefEqProofs only [hb, go_sem, ↓reduceIte, Nat.reduceLT, Nat.reduceEqDiff, Nat.reduceAdd, Nat.reduceMul, Nat.reduceLeDiff, decide_true, decide_false, Int.cast_ofNat_Int, Int.reduceEq, Int.reduceLT, Int.reduceLE, Bool.not_true, Bool.not_false, Nat.zero_add, Nat.add_zero, Nat.zero_mul, List.map_cons, List.map_nil, List.length_cons, List.length_nil, List.getElem?_cons_zero, List.getElem?_cons_succ]
              exact ⟨trivial, _, rfl, ⟨false, rfl⟩, hkp.new _⟩
            · simp -implicitDefEqProofs only [hb, go_sem, ↓reduceIte, Nat.reduceLT, Nat.reduceEqDiff, Nat.reduceAdd, Nat.reduceMul, Nat.reduceLeDiff, decide_true, decide_false, Int.cast_ofNat_Int, Int.reduceEq, Int.reduceLT, Int.reduceLE, Bool.not_true, Bool.not_false, Nat.zero_add, Nat.add_zero, Nat.zero_mul, List.map_cons, List.map_nil, List.length_cons, List.length_nil, List.getElem?_cons_zero, List.getElem?_cons_succ, (g3 _).1, (g8 _).1]
              refine condR_split (fun hb => ?_) (fun hb => ?_)
              · simp -implicitDefEqProofs only [hb, go_sem, ↓reduceIte, Nat.reduceLT, Nat.reduceEqDiff, Nat.reduceAdd, Nat.reduceMul, Nat.reduceLeDiff, decide_true, decide_false, Int.cast_ofNat_Int, Int.reduceEq, Int.reduceLT, Int.reduceLE, Bool.not_true, Bool.not_false, Nat.zero_add, Nat.add_zero, Nat.zero_mul, List.map_cons, List.map_nil, List.length_cons, List.length_nil, List.getElem?_cons_zero, List.getElem?_cons_succ]
                exact ⟨trivial, _, rfl, ⟨false, rfl⟩, hkp.new _⟩
              · simp -implicitDefEqProofs only [hb, go_sem, ↓reduceIte, Nat.reduceLT, Nat.reduceEqDiff, Nat.reduceAdd, Nat.reduceMul, Nat.reduceLeDiff, decide_true, decide_false, Int.cast_ofNat_Int, Int.reduceEq, Int.reduceLT, Int.reduceLE, Bool.not_true, Bool.not_false, Nat.zero_add, Nat.add_zero, Nat.zero_mul, List.map_cons, List.map_nil, List.length_cons, List.length_nil, List.getElem?_cons_zero, List.getElem?_cons_succ, (g3 _).1, (g8 _).1]
                exact ⟨0, by decide, _, Wk.three (by simp [lkv]) (by simp [lkv]; rfl) (by simp [lkv]; rfl) (by simp), hkp.new _, _, .inr ⟨rfl, rfl⟩⟩
    · rw [wpC_start]
      simp -implicitDefEqProofs only [go_sem, ↓reduceIte, Nat.reduceLT, Nat.reduceEqDiff, Nat.reduceAdd, Nat.reduceMul, Nat.reduceLeDiff, decide_true, decide_false, Int.cast_ofNat_Int, Int.reduceEq, Int.reduceLT, Int.reduceLE, Bool.not_true, Bool.not_false, Nat.zero_add, Nat.add_zero, Nat.zero_mul, List.map_cons, List.map_nil, List.length_cons, List.length_nil, List.getElem?_cons_zero, List.getElem?_cons_succ]
      exact ⟨trivial, _, rfl, ⟨_, rfl⟩, hkp⟩
  exact Sem.gc key fun e h' ⟨⟨r, hr⟩, hkp⟩ => ⟨hkp, by subst hr; exact .bool _ _, ⟨r, hr⟩, rfl⟩
theorem called_ok (h : AH) : Ab.Sem Tryz.prog 16 [.pointer none, .agg ⟨opCells k id body ids to n text note keep⟩] h fun e h' => e = .ret (.tuple ⟨[.int .i64 0, .string ByteArray.empty, .int .i64 3]⟩) ∧ h' = h := by
  have key : Ab.Sem Tryz.prog 16 [.pointer none, .agg ⟨opCells k id body ids to n text note keep⟩] h fun e h' => e = .ret (.tuple ⟨[.int .i64 0, .string ByteArray.empty, .int .i64 3]⟩) ∧ Keep h h' := by
    have hrem : ∀ h, oInt .rem .u8 .u8 k 7 h = some (.val (.int .u8 (k.tmod 7)) h) := fun h => oInt_rem h .u8 k 7 (by decide)
    refine Sem.of_code ok2 hm (cr := []) Tryz.func16 (c := c16) rfl k16 (Wk.enter (n := 78) rfl (by simp)) ?_
    rw [wpC_start]
    simp -implicitDefEqProofs only [c16, Tryz.f16, opCells, go_sem, ↓reduceIte, Nat.reduceLT, Nat.reduceEqDiff, Nat.reduceAdd, Nat.reduceMul, Nat.reduceLeDiff, decide_true, decide_false, Int.cast_ofNat_Int, Int.reduceEq, Int.reduceLT, Int.reduceLE, Bool.not_true, Bool.not_false, Nat.zero_add, Nat.add_zero, Nat.zero_mul, List.map_cons, List.map_nil, List.length_cons, List.length_nil, List.getElem?_cons_zero, List.getElem?_cons_succ]
    simp -implicitDefEqProofs only [go_sem, ↓reduceIte, Nat.reduceLT, Nat.reduceEqDiff, Nat.reduceAdd, Nat.reduceMul, Nat.reduceLeDiff, decide_true, decide_false, Int.cast_ofNat_Int, Int.reduceEq, Int.reduceLT, Int.reduceLE, Bool.not_true, Bool.not_false, Nat.zero_add, Nat.add_zero, Nat.zero_mul, List.map_cons, List.map_nil, List.length_cons, List.length_nil, List.getElem?_cons_zero, List.getElem?_cons_succ, hrem]
    refine condR_split (fun hb => ?_) (fun hb => ?_)
    · simp -implicitDefEqProofs only [hb, go_sem, ↓reduceIte, Nat.reduceLT, Nat.reduceEqDiff, Nat.reduceAdd, Nat.reduceMul, Nat.reduceLeDiff, decide_true, decide_false, Int.cast_ofNat_Int, Int.reduceEq, Int.reduceLT, Int.reduceLE, Bool.not_true, Bool.not_false, Nat.zero_add, Nat.add_zero, Nat.zero_mul, List.map_cons, List.map_nil, List.length_cons, List.length_nil, List.getElem?_cons_zero, List.getElem?_cons_succ]
      refine (n38 _ _ _ _).mono ?_
      rintro e h2 ⟨rfl, rfl⟩
      simp -implicitDefEqProofs only [go_sem, ↓reduceIte, Nat.reduceLT, Nat.reduceEqDiff, Nat.reduceAdd, Nat.reduceMul, Nat.reduceLeDiff, decide_true, decide_false, Int.cast_ofNat_Int, Int.reduceEq, Int.reduceLT, Int.reduceLE, Bool.not_true, Bool.not_false, Nat.zero_add, Nat.add_zero, Nat.zero_mul, List.map_cons, List.map_nil, List.length_cons, List.length_nil, List.getElem?_cons_zero, List.getElem?_cons_succ]
      exact ⟨trivial, _, rfl, rfl, (Keep.refl h).new _⟩
    · simp -implicitDefEqProofs only [hb, go_sem, ↓reduceIte, Nat.reduceLT, Nat.reduceEqDiff, Nat.reduceAdd, Nat.reduceMul, Nat.reduceLeDiff, decide_true, decide_false, Int.cast_ofNat_Int, Int.reduceEq, Int.reduceLT, Int.reduceLE, Bool.not_true, Bool.not_false, Nat.zero_add, Nat.add_zero, Nat.zero_mul, List.map_cons, List.map_nil, List.length_cons, List.length_nil, List.getElem?_cons_zero, List.getElem?_cons_succ]
      refine condR_split (fun hb => ?_) (fun hb => ?_)
      · simp -implicitDefEqProofs only [hb, go_sem, ↓reduceIte, Nat.reduceLT, Nat.reduceEqDiff, Nat.reduceAdd, Nat.reduceMul, Nat.reduceLeDiff, decide_true, decide_false, Int.cast_ofNat_Int, Int.reduceEq, Int.reduceLT, Int.reduceLE, Bool.not_true, Bool.not_false, Nat.zero_add, Nat.add_zero, Nat.zero_mul, List.map_cons, List.map_nil, List.length_cons, List.length_nil, List.getElem?_cons_zero, List.getElem?_cons_succ]
        refine (n52 _ _ _ _).mono ?_
        rintro e h2 ⟨rfl, rfl⟩
        simp -implicitDefEqProofs only [go_sem, ↓reduceIte, Nat.reduceLT, Nat.reduceEqDiff, Nat.reduceAdd, Nat.reduceMul, Nat.reduceLeDiff, decide_true, decide_false, Int.cast_ofNat_Int, Int.reduceEq, Int.reduceLT, Int.reduceLE, Bool.not_true, Bool.not_false, Nat.zero_add, Nat.add_zero, Nat.zero_mul, List.map_cons, List.map_nil, List.length_cons, List.length_nil, List.getElem?_cons_zero, List.getElem?_cons_succ]
        exact ⟨trivial, _, rfl, rfl, (Keep.refl h).new _⟩
      · simp -implicitDefEqProofs only [hb, go_sem, ↓reduceIte, Nat.reduceLT, Nat.reduceEqDiff, Nat.reduceAdd, Nat.reduceMul, Nat.reduceLeDiff, decide_true, decide_false, Int.cast_ofNat_Int, Int.reduceEq, Int.reduceLT, Int.reduceLE, Bool.not_true, Bool.not_false, Nat.zero_add, Nat.add_zero, Nat.zero_mul, List.map_cons, List.map_nil, List.length_cons, List.length_nil, List.getElem?_cons_zero, List.getElem?_cons_succ]
        refine condR_split (fun hb => ?_) (fun hb => ?_)
        · simp -implicitDefEqProofs only [hb, go_sem, ↓reduceIte, Nat.reduceLT, Nat.reduceEqDiff, Nat.reduceAdd, Nat.reduceMul, Nat.reduceLeDiff, decide_true, decide_false, Int.cast_ofNat_Int, Int.reduceEq, Int.reduceLT, Int.reduceLE, Bool.not_true, Bool.not_false, Nat.zero_add, Nat.add_zero, Nat.zero_mul, List.map_cons, List.map_nil, List.length_cons, List.length_nil, List.getElem?_cons_zero, List.getElem?_cons_succ]
          refine (n53 _ _).mono ?_
          rintro e h2 ⟨rfl, rfl⟩
          simp -implicitDefEqProofs only [go_sem, ↓reduceIte, Nat.reduceLT, Nat.reduceEqDiff, Nat.reduceAdd, Nat.reduceMul, Nat.reduceLeDiff, decide_true, decide_false, Int.cast_ofNat_Int, Int.reduceEq, Int.reduceLT, Int.reduceLE, Bool.not_true, Bool.not_false, Nat.zero_add, Nat.add_zero, Nat.zero_mul, List.map_cons, List.map_nil, List.length_cons, List.length_nil, List.getElem?_cons_zero, List.getElem?_cons_succ]
          exact ⟨trivial, _, rfl, rfl, (Keep.refl h).new _⟩
        · simp -implicitDefEqProofs only [hb, go_sem, ↓reduceIte, Nat.reduceLT, Nat.reduceEqDiff, Nat.reduceAdd, Nat.reduceMul, Nat.reduceLeDiff, decide_true, decide_false, Int.cast_ofNat_Int, Int.reduceEq, Int.reduceLT, Int.reduceLE, Bool.not_true, Bool.not_false, Nat.zero_add, Nat.add_zero, Nat.zero_mul, List.map_cons, List.map_nil, List.length_cons, List.length_nil, List.getElem?_cons_zero, List.getElem?_cons_succ]
          refine condR_split (fun hb => ?_) (fun hb => ?_)
          · simp -implicitDefEqProofs only [hb, go_sem, ↓reduceIte, Nat.reduceLT, Nat.reduceEqDiff, Nat.reduceAdd, Nat.reduceMul, Nat.reduceLeDiff, decide_true, decide_false, Int.cast_ofNat_Int, Int.reduceEq, Int.reduceLT, Int.reduceLE, Bool.not_true, Bool.not_false, Nat.zero_add, Nat.add_zero, Nat.zero_mul, List.map_cons, List.map_nil, List.length_cons, List.length_nil, List.getElem?_cons_zero, List.getElem?_cons_succ]
            refine (n39 _ _ _ _).mono ?_
            rintro e h2 ⟨rfl, rfl⟩
            simp -implicitDefEqProofs only [go_sem, ↓reduceIte, Nat.reduceLT, Nat.reduceEqDiff, Nat.reduceAdd, Nat.reduceMul, Nat.reduceLeDiff, decide_true, decide_false, Int.cast_ofNat_Int, Int.reduceEq, Int.reduceLT, Int.reduceLE, Bool.not_true, Bool.not_false, Nat.zero_add, Nat.add_zero, Nat.zero_mul, List.map_cons, List.map_nil, List.length_cons, List.length_nil, List.getElem?_cons_zero, List.getElem?_cons_succ]
            exact ⟨trivial, _, rfl, rfl, (Keep.refl h).new _⟩
          · simp -implicitDefEqProofs only [hb, go_sem, ↓reduceIte, Nat.reduceLT, Nat.reduceEqDiff, Nat.reduceAdd, Nat.reduceMul, Nat.reduceLeDiff, decide_true, decide_false, Int.cast_ofNat_Int, Int.reduceEq, Int.reduceLT, Int.reduceLE, Bool.not_true, Bool.not_false, Nat.zero_add, Nat.add_zero, Nat.zero_mul, List.map_cons, List.map_nil, List.length_cons, List.length_nil, List.getElem?_cons_zero, List.getElem?_cons_succ]
            refine condR_split (fun hb => ?_) (fun hb => ?_)
            · simp -implicitDefEqProofs only [hb, go_sem, ↓reduceIte, Nat.reduceLT, Nat.reduceEqDiff, Nat.reduceAdd, Nat.reduceMul, Nat.reduceLeDiff, decide_true, decide_false, Int.cast_ofNat_Int, Int.reduceEq, Int.reduceLT, Int.reduceLE, Bool.not_true, Bool.not_false, Nat.zero_add, Nat.add_zero, Nat.zero_mul, List.map_cons, List.map_nil, List.length_cons, List.length_nil, List.getElem?_cons_zero, List.getElem?_cons_succ]
              refine (n12 _ _ _).mono ?_
              rintro e h2 ⟨rfl, rfl⟩
              simp -implicitDefEqProofs only [go_sem, ↓reduceIte, Nat.reduceLT, Nat.reduceEqDiff, Nat.reduceAdd, Nat.reduceMul, Nat.reduceLeDiff, decide_true, decide_false, Int.cast_ofNat_Int, Int.reduceEq, Int.reduceLT, Int.reduceLE, Bool.not_true, Bool.not_false, Nat.zero_add, Nat.add_zero, Nat.zero_mul, List.map_cons, List.map_nil, List.length_cons, List.length_nil, List.getElem?_cons_zero, List.getElem?_cons_succ]
              exact ⟨trivial, _, rfl, rfl, (Keep.refl h).new _⟩
            · simp -implicitDefEqProofs only [hb, go_sem, ↓reduceIte, Nat.reduceLT, Nat.reduceEqDiff, Nat.reduceAdd, Nat.reduceMul, Nat.reduceLeDiff, decide_true, decide_false, Int.cast_ofNat_Int, Int.reduceEq, Int.reduceLT, Int.reduceLE, Bool.not_true, Bool.not_false, Nat.zero_add, Nat.add_zero, Nat.zero_mul, List.map_cons, List.map_nil, List.length_cons, List.length_nil, List.getElem?_cons_zero, List.getElem?_cons_succ]
              refine condR_split (fun hb => ?_) (fun hb => ?_)
              · simp -implicitDefEqProofs only [hb, go_sem, ↓reduceIte, Nat.reduceLT, Nat.reduceEqDiff, Nat.reduceAdd, Nat.reduceMul, Nat.reduceLeDiff, decide_true, decide_false, Int.cast_ofNat_Int, Int.reduceEq, Int.reduceLT, Int.reduceLE, Bool.not_true, Bool.not_false, Nat.zero_add, Nat.add_zero, Nat.zero_mul, List.map_cons, List.map_nil, List.length_cons, List.length_nil, List.getElem?_cons_zero, List.getElem?_cons_succ]
                refine (n54 _ _ _).mono ?_
                rintro e h2 ⟨rfl, rfl⟩
                simp -implicitDefEqProofs only [go_sem, ↓reduceIte, Nat.reduceLT, Nat.reduceEqDiff, Nat.reduceAdd, Nat.reduceMul, Nat.reduceLeDiff, decide_true, decide_false, Int.cast_ofNat_Int, Int.reduceEq, Int.reduceLT, Int.reduceLE, Bool.not_true, Bool.not_false, Nat.zero_add, Nat.add_zero, Nat.zero_mul, List.map_cons, List.map_nil, List.length_cons, List.length_nil, List.getElem?_cons_zero, List.getElem?_cons_succ]
                exact ⟨trivial, _, rfl, rfl, (Keep.refl h).new _⟩
              · simp -implicitDefEqProofs only [hb, go_sem, ↓reduceIte, Nat.reduceLT, Nat.reduceEqDiff, Nat.reduceAdd, Nat.reduceMul, Nat.reduceLeDiff, decide_true, decide_false, Int.cast_ofNat_Int, Int.reduceEq, Int.reduceLT, Int.reduceLE, Bool.not_true, Bool.not_false, Nat.zero_add, Nat.add_zero, Nat.zero_mul, List.map_cons, List.map_nil, List.length_cons, List.length_nil, List.getElem?_cons_zero, List.getElem?_cons_succ]
                refine (n55 _ _ _).mono ?_
                rintro e h2 ⟨rfl, rfl⟩
                simp -implicitDefEqProofs only [go_sem, ↓reduceIte, Nat.reduceLT, Nat.reduceEqDiff, Nat.reduceAdd, Nat.reduceMul, Nat.reduceLeDiff, decide_true, decide_false, Int.cast_ofNat_Int, Int.reduceEq, Int.reduceLT, Int.reduceLE, Bool.not_true, Bool.not_false, Nat.zero_add, Nat.add_zero, Nat.zero_mul, List.map_cons, List.map_nil, List.length_cons, List.length_nil, List.getElem?_cons_zero, List.getElem?_cons_succ]
                exact ⟨trivial, _, rfl, rfl, (Keep.refl h).new _⟩
  exact Sem.gc key fun e h' ⟨hr, hkp⟩ => ⟨hkp, by subst hr; exact .tuple (OldL.cons (.int _ _ _) (OldL.cons (.string _ _) (OldL.cons (.int _ _ _) (OldL.nil _)))), hr, rfl⟩
end
