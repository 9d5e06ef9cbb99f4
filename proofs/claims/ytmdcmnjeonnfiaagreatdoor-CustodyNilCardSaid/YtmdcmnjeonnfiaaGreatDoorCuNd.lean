import Derived.Test.YtmdcmnjeonnfiaaGreatDoorCuNc
import Derived.Test.YtmdcmnjeonnfiaaGreatDoorCuSh
set_option linter.unusedSimpArgs false
set_option linter.unusedVariables false
/-! Custody: CustodyNil itself. -/
open Go Go.Ab Go.Proofs
set_option maxRecDepth 100000
set_option maxHeartbeats 4000000
theorem n7 (h : AH) : Ab.Sem Tryz.prog 7 [] h fun e h' => e = .ret (.bool true) ∧ h' = h :=
  Sem.exact fun μ W args' s hx => by
    obtain ⟨l⟩ := args'
    cases hx
    refine (shipped_calls W).mono fun end' W' hp => ?_
    obtain ⟨v', μ', rfl, hv, h1, h2, h3, h4, h5⟩ := hp
    cases hv
    exact ⟨.bool _, h1, h2, h3, h4, h5⟩
theorem and7 (a : Int) : ∃ m : Nat, m < 8 ∧ ∀ h, oInt .and .i64 .i64 a 7 h = some (.val (.int .i64 (m : Int)) h) := by
  refine ⟨(BitVec.ofInt 64 a &&& BitVec.ofInt 64 7).toNat, ?_, fun h => ?_⟩
  · rw [BitVec.toNat_and]
    exact Nat.lt_of_le_of_lt Nat.and_le_right (by decide)
  · have hm : (BitVec.ofInt 64 a &&& BitVec.ofInt 64 7).toNat < 8 := by
      rw [BitVec.toNat_and]
      exact Nat.lt_of_le_of_lt Nat.and_le_right (by decide)
    refine (oInt_cmp (op := .and) h .i64 a 7 nofun nofun rfl).trans ?_
    rw [show (IntKind.i64.wrap ((BitVec.ofInt IntKind.i64.bits a &&& BitVec.ofInt IntKind.i64.bits 7).toNat : Int)) = (((BitVec.ofInt 64 a &&& BitVec.ofInt 64 7).toNat : Nat) : Int) from IntWalk.i64_in _ ⟨by omega, by
      have e : IntKind.i64.bits = 64 := rfl
      rw [e]
      omega⟩]
@[go_sem] theorem bs60 (h : AH) (l : List Value) (hl : l.length = 9) : abuildSlice E2.T h 60 1 [(0, .agg ⟨l⟩)] = some (.slice (some ⟨h.next, 0, none⟩) 1 1, h.new (.cells (PT.ofL l) 9 53 false)) :=
  abuildSlice_one h E2_u60 E2_s53 E2_z53 rfl (by decide) hl rfl
@[go_sem] theorem bs62 (h : AH) (l : List Value) (hl : l.length = 5) : abuildSlice E2.T h 62 1 [(0, .agg ⟨l⟩)] = some (.slice (some ⟨h.next, 0, none⟩) 1 1, h.new (.cells (PT.ofL l) 5 56 false)) :=
  abuildSlice_one h E2_u62 E2_s56 E2_z56 rfl (by decide) hl rfl
def dskCells (k : Int) (sector : Int) (data : Value) (n : Int) (keep : Value) : List Value := [.int .u8 k, .int .i64 sector, data, .int .i64 n, keep]
def netCells (k : Int) (from_ to index : Int) (text : ByteArray) : List Value := [.int .u8 k, .int .i64 from_, .int .i64 to, .int .i64 index, .string text]
noncomputable def c5 : Code := match Tryz.f5.body with | some c => c | none => .skip
theorem k5 : codeOk drawOk [] c5 = true := by kernel_rfl
section
variable (k id : Int) (body : ByteArray) (ids : Value) (to n : Int) (text note : ByteArray) (keep : Value) (k2 sector : Int) (data : Value) (n2 : Int) (keep2 : Value) (k3 from3 to3 index3 : Int) (text3 : ByteArray)
theorem nil_ok (hi : one ids = true) (hk : one keep = true) (h3 : SliceV ids) (h8 : SliceV keep) (hd : SliceV data) (hk2 : SliceV keep2) (od : one data = true) (ok : one keep2 = true) (h : AH) :
    Ab.Sem Tryz.prog 5 [.agg ⟨opCells k id body ids to n text note keep⟩, .agg ⟨dskCells k2 sector data n2 keep2⟩, .agg ⟨netCells k3 from3 to3 index3 text3⟩] h fun e _ => e = .ret (.bool true) := by
  obtain ⟨m7, hm7, a7⟩ := and7 sector
  refine Sem.of_code ok2 hm (cr := []) Tryz.func5 (c := c5) rfl k5 (Wk.enter (n := 257) rfl (by simp)) ?_
  rw [wpC_start]
  simp -implicitDefEqProofs only [c5, Tryz.f5, opCells, dskCells, netCells, go_sem, ↓reduceIte, Nat.reduceLT, Nat.reduceEqDiff, Nat.reduceAdd, Nat.reduceMul, Nat.reduceLeDiff, decide_true, decide_false, Int.cast_ofNat_Int, Int.reduceEq, Int.reduceLT, Int.reduceLE, Bool.not_true, Bool.not_false, Nat.zero_add, Nat.add_zero, Nat.zero_mul, List.map_cons, List.map_nil, List.length_cons, List.length_nil, List.getElem?_cons_zero, List.getElem?_cons_succ]
  have tl : ∀ (h' : AH) (b : Nat), ∀ i, i < 9 → (h'.new (.cells (PT.ofL (opCells k id body ids to n text note keep)) 9 53 false)).ld h'.next i = (opCells k id body ids to n text note keep)[i]? := fun h' b i hi => by
    rw [ld_new_self, if_pos hi]
  have tl2 : ∀ (h' : AH) (b : Nat), ∀ i, i < 5 → (h'.new (.cells (PT.ofL [.int .u8 k2, .int .i64 sector, data, .int .i64 n2, keep2]) 5 56 false)).ld h'.next i = [.int .u8 k2, .int .i64 sector, data, .int .i64 n2, keep2][i]? := fun h' b i hi => by
    rw [ld_new_self, if_pos hi]
  refine (few_ok k id body ids to n text note keep hi hk h3 h8 _ (h.next + 3) (by simp [AH.next_new]) (tl _ 0)).mono ?_
  rintro e h2 ⟨⟨r, rfl⟩, rfl⟩
  cases r with
  | false =>
    simp -implicitDefEqProofs only [Bool.not_false, go_sem, ↓reduceIte, Nat.reduceLT, Nat.reduceEqDiff, Nat.reduceAdd, Nat.reduceMul, Nat.reduceLeDiff, decide_true, decide_false, Int.cast_ofNat_Int, Int.reduceEq, Int.reduceLT, Int.reduceLE, Bool.not_true, Bool.not_false, Nat.zero_add, Nat.add_zero, Nat.zero_mul, List.map_cons, List.map_nil, List.length_cons, List.length_nil, List.getElem?_cons_zero, List.getElem?_cons_succ]
    refine (n7 _).mono ?_
    rintro e h2 ⟨rfl, rfl⟩
    simp -implicitDefEqProofs only [go_sem, ↓reduceIte, Nat.reduceLT, Nat.reduceEqDiff, Nat.reduceAdd, Nat.reduceMul, Nat.reduceLeDiff, decide_true, decide_false, Int.cast_ofNat_Int, Int.reduceEq, Int.reduceLT, Int.reduceLE, Bool.not_true, Bool.not_false, Nat.zero_add, Nat.add_zero, Nat.zero_mul, List.map_cons, List.map_nil, List.length_cons, List.length_nil, List.getElem?_cons_zero, List.getElem?_cons_succ]
    exact ⟨trivial, _, rfl, rfl⟩
  | true =>
    simp -implicitDefEqProofs only [Bool.not_true, go_sem, ↓reduceIte, Nat.reduceLT, Nat.reduceEqDiff, Nat.reduceAdd, Nat.reduceMul, Nat.reduceLeDiff, decide_true, decide_false, Int.cast_ofNat_Int, Int.reduceEq, Int.reduceLT, Int.reduceLE, Bool.not_true, Bool.not_false, Nat.zero_add, Nat.add_zero, Nat.zero_mul, List.map_cons, List.map_nil, List.length_cons, List.length_nil, List.getElem?_cons_zero, List.getElem?_cons_succ]
    refine (small_ok _ _ _ _ _ _ hd hk2 (h.next + 4) (tl2 _ 0)).mono ?_
    rintro e h2 ⟨⟨r, rfl⟩, rfl⟩
    cases r with
    | false =>
      simp -implicitDefEqProofs only [Bool.not_false, go_sem, ↓reduceIte, Nat.reduceLT, Nat.reduceEqDiff, Nat.reduceAdd, Nat.reduceMul, Nat.reduceLeDiff, decide_true, decide_false, Int.cast_ofNat_Int, Int.reduceEq, Int.reduceLT, Int.reduceLE, Bool.not_true, Bool.not_false, Nat.zero_add, Nat.add_zero, Nat.zero_mul, List.map_cons, List.map_nil, List.length_cons, List.length_nil, List.getElem?_cons_zero, List.getElem?_cons_succ]
      refine (n7 _).mono ?_
      rintro e h2 ⟨rfl, rfl⟩
      simp -implicitDefEqProofs only [go_sem, ↓reduceIte, Nat.reduceLT, Nat.reduceEqDiff, Nat.reduceAdd, Nat.reduceMul, Nat.reduceLeDiff, decide_true, decide_false, Int.cast_ofNat_Int, Int.reduceEq, Int.reduceLT, Int.reduceLE, Bool.not_true, Bool.not_false, Nat.zero_add, Nat.add_zero, Nat.zero_mul, List.map_cons, List.map_nil, List.length_cons, List.length_nil, List.getElem?_cons_zero, List.getElem?_cons_succ]
      exact ⟨trivial, _, rfl, rfl⟩
    | true =>
      simp -implicitDefEqProofs only [Bool.not_true, go_sem, ↓reduceIte, Nat.reduceLT, Nat.reduceEqDiff, Nat.reduceAdd, Nat.reduceMul, Nat.reduceLeDiff, decide_true, decide_false, Int.cast_ofNat_Int, Int.reduceEq, Int.reduceLT, Int.reduceLE, Bool.not_true, Bool.not_false, Nat.zero_add, Nat.add_zero, Nat.zero_mul, List.map_cons, List.map_nil, List.length_cons, List.length_nil, List.getElem?_cons_zero, List.getElem?_cons_succ]
      refine condR_split (fun hb => ?_) (fun hb => ?_)
      · simp -implicitDefEqProofs only [hb, go_sem, ↓reduceIte, Nat.reduceLT, Nat.reduceEqDiff, Nat.reduceAdd, Nat.reduceMul, Nat.reduceLeDiff, decide_true, decide_false, Int.cast_ofNat_Int, Int.reduceEq, Int.reduceLT, Int.reduceLE, Bool.not_true, Bool.not_false, Nat.zero_add, Nat.add_zero, Nat.zero_mul, List.map_cons, List.map_nil, List.length_cons, List.length_nil, List.getElem?_cons_zero, List.getElem?_cons_succ]
        refine (n7 _).mono ?_
        rintro e h2 ⟨rfl, rfl⟩
        simp -implicitDefEqProofs only [go_sem, ↓reduceIte, Nat.reduceLT, Nat.reduceEqDiff, Nat.reduceAdd, Nat.reduceMul, Nat.reduceLeDiff, decide_true, decide_false, Int.cast_ofNat_Int, Int.reduceEq, Int.reduceLT, Int.reduceLE, Bool.not_true, Bool.not_false, Nat.zero_add, Nat.add_zero, Nat.zero_mul, List.map_cons, List.map_nil, List.length_cons, List.length_nil, List.getElem?_cons_zero, List.getElem?_cons_succ]
        exact ⟨trivial, _, rfl, rfl⟩
      · simp -implicitDefEqProofs only [hb, go_sem, ↓reduceIte, Nat.reduceLT, Nat.reduceEqDiff, Nat.reduceAdd, Nat.reduceMul, Nat.reduceLeDiff, decide_true, decide_false, Int.cast_ofNat_Int, Int.reduceEq, Int.reduceLT, Int.reduceLE, Bool.not_true, Bool.not_false, Nat.zero_add, Nat.add_zero, Nat.zero_mul, List.map_cons, List.map_nil, List.length_cons, List.length_nil, List.getElem?_cons_zero, List.getElem?_cons_succ]
        refine (called_ok k id body ids to n text note keep _).mono ?_
        rintro e h2 ⟨rfl, rfl⟩
        simp -implicitDefEqProofs only [err3, nilV, a7, go_sem, ↓reduceIte, Nat.reduceLT, Nat.reduceEqDiff, Nat.reduceAdd, Nat.reduceMul, Nat.reduceLeDiff, decide_true, decide_false, Int.cast_ofNat_Int, Int.reduceEq, Int.reduceLT, Int.reduceLE, Bool.not_true, Bool.not_false, Nat.zero_add, Nat.add_zero, Nat.zero_mul, List.map_cons, List.map_nil, List.length_cons, List.length_nil, List.getElem?_cons_zero, List.getElem?_cons_succ]
        refine (n17 _ _).mono ?_
        rintro e h2 ⟨rfl, rfl⟩
        simp -implicitDefEqProofs only [err3, nilV, a7, go_sem, ↓reduceIte, Nat.reduceLT, Nat.reduceEqDiff, Nat.reduceAdd, Nat.reduceMul, Nat.reduceLeDiff, decide_true, decide_false, Int.cast_ofNat_Int, Int.reduceEq, Int.reduceLT, Int.reduceLE, Bool.not_true, Bool.not_false, Nat.zero_add, Nat.add_zero, Nat.zero_mul, List.map_cons, List.map_nil, List.length_cons, List.length_nil, List.getElem?_cons_zero, List.getElem?_cons_succ]
        refine (n18 _ _).mono ?_
        rintro e h2 ⟨rfl, rfl⟩
        simp -implicitDefEqProofs only [err3, nilV, a7, go_sem, ↓reduceIte, Nat.reduceLT, Nat.reduceEqDiff, Nat.reduceAdd, Nat.reduceMul, Nat.reduceLeDiff, decide_true, decide_false, Int.cast_ofNat_Int, Int.reduceEq, Int.reduceLT, Int.reduceLE, Bool.not_true, Bool.not_false, Nat.zero_add, Nat.add_zero, Nat.zero_mul, List.map_cons, List.map_nil, List.length_cons, List.length_nil, List.getElem?_cons_zero, List.getElem?_cons_succ]
        refine (n19 _ _ _).mono ?_
        rintro e h2 ⟨rfl, rfl⟩
        simp -implicitDefEqProofs only [err3, nilV, a7, go_sem, ↓reduceIte, Nat.reduceLT, Nat.reduceEqDiff, Nat.reduceAdd, Nat.reduceMul, Nat.reduceLeDiff, decide_true, decide_false, Int.cast_ofNat_Int, Int.reduceEq, Int.reduceLT, Int.reduceLE, Bool.not_true, Bool.not_false, Nat.zero_add, Nat.add_zero, Nat.zero_mul, List.map_cons, List.map_nil, List.length_cons, List.length_nil, List.getElem?_cons_zero, List.getElem?_cons_succ]
        refine (n20 _).mono ?_
        rintro e h2 ⟨rfl, rfl⟩
        simp -implicitDefEqProofs only [err3, nilV, a7, go_sem, ↓reduceIte, Nat.reduceLT, Nat.reduceEqDiff, Nat.reduceAdd, Nat.reduceMul, Nat.reduceLeDiff, decide_true, decide_false, Int.cast_ofNat_Int, Int.reduceEq, Int.reduceLT, Int.reduceLE, Bool.not_true, Bool.not_false, Nat.zero_add, Nat.add_zero, Nat.zero_mul, List.map_cons, List.map_nil, List.length_cons, List.length_nil, List.getElem?_cons_zero, List.getElem?_cons_succ]
        refine (n21 m7 hm7 _).mono ?_
        rintro e h2 ⟨rfl, rfl⟩
        simp -implicitDefEqProofs only [err3, nilV, a7, go_sem, ↓reduceIte, Nat.reduceLT, Nat.reduceEqDiff, Nat.reduceAdd, Nat.reduceMul, Nat.reduceLeDiff, decide_true, decide_false, Int.cast_ofNat_Int, Int.reduceEq, Int.reduceLT, Int.reduceLE, Bool.not_true, Bool.not_false, Nat.zero_add, Nat.add_zero, Nat.zero_mul, List.map_cons, List.map_nil, List.length_cons, List.length_nil, List.getElem?_cons_zero, List.getElem?_cons_succ]
        refine (n22 _ _ _ _).mono ?_
        rintro e h2 ⟨rfl, rfl⟩
        simp -implicitDefEqProofs only [err3, nilV, a7, go_sem, ↓reduceIte, Nat.reduceLT, Nat.reduceEqDiff, Nat.reduceAdd, Nat.reduceMul, Nat.reduceLeDiff, decide_true, decide_false, Int.cast_ofNat_Int, Int.reduceEq, Int.reduceLT, Int.reduceLE, Bool.not_true, Bool.not_false, Nat.zero_add, Nat.add_zero, Nat.zero_mul, List.map_cons, List.map_nil, List.length_cons, List.length_nil, List.getElem?_cons_zero, List.getElem?_cons_succ]
        refine (n23 _).mono ?_
        rintro e h2 ⟨rfl, rfl⟩
        simp -implicitDefEqProofs only [err3, nilV, a7, go_sem, ↓reduceIte, Nat.reduceLT, Nat.reduceEqDiff, Nat.reduceAdd, Nat.reduceMul, Nat.reduceLeDiff, decide_true, decide_false, Int.cast_ofNat_Int, Int.reduceEq, Int.reduceLT, Int.reduceLE, Bool.not_true, Bool.not_false, Nat.zero_add, Nat.add_zero, Nat.zero_mul, List.map_cons, List.map_nil, List.length_cons, List.length_nil, List.getElem?_cons_zero, List.getElem?_cons_succ]
        refine (n24 _ _).mono ?_
        rintro e h2 ⟨rfl, rfl⟩
        simp -implicitDefEqProofs only [err3, nilV, a7, go_sem, ↓reduceIte, Nat.reduceLT, Nat.reduceEqDiff, Nat.reduceAdd, Nat.reduceMul, Nat.reduceLeDiff, decide_true, decide_false, Int.cast_ofNat_Int, Int.reduceEq, Int.reduceLT, Int.reduceLE, Bool.not_true, Bool.not_false, Nat.zero_add, Nat.add_zero, Nat.zero_mul, List.map_cons, List.map_nil, List.length_cons, List.length_nil, List.getElem?_cons_zero, List.getElem?_cons_succ]
        refine (n25 _).mono ?_
        rintro e h2 ⟨rfl, rfl⟩
        simp -implicitDefEqProofs only [err3, nilV, a7, go_sem, ↓reduceIte, Nat.reduceLT, Nat.reduceEqDiff, Nat.reduceAdd, Nat.reduceMul, Nat.reduceLeDiff, decide_true, decide_false, Int.cast_ofNat_Int, Int.reduceEq, Int.reduceLT, Int.reduceLE, Bool.not_true, Bool.not_false, Nat.zero_add, Nat.add_zero, Nat.zero_mul, List.map_cons, List.map_nil, List.length_cons, List.length_nil, List.getElem?_cons_zero, List.getElem?_cons_succ]
        refine (n26 _ _).mono ?_
        rintro e h2 ⟨rfl, rfl⟩
        simp -implicitDefEqProofs only [err3, nilV, a7, go_sem, ↓reduceIte, Nat.reduceLT, Nat.reduceEqDiff, Nat.reduceAdd, Nat.reduceMul, Nat.reduceLeDiff, decide_true, decide_false, Int.cast_ofNat_Int, Int.reduceEq, Int.reduceLT, Int.reduceLE, Bool.not_true, Bool.not_false, Nat.zero_add, Nat.add_zero, Nat.zero_mul, List.map_cons, List.map_nil, List.length_cons, List.length_nil, List.getElem?_cons_zero, List.getElem?_cons_succ]
        refine (n27 _).mono ?_
        rintro e h2 ⟨rfl, rfl⟩
        simp -implicitDefEqProofs only [err3, nilV, a7, go_sem, ↓reduceIte, Nat.reduceLT, Nat.reduceEqDiff, Nat.reduceAdd, Nat.reduceMul, Nat.reduceLeDiff, decide_true, decide_false, Int.cast_ofNat_Int, Int.reduceEq, Int.reduceLT, Int.reduceLE, Bool.not_true, Bool.not_false, Nat.zero_add, Nat.add_zero, Nat.zero_mul, List.map_cons, List.map_nil, List.length_cons, List.length_nil, List.getElem?_cons_zero, List.getElem?_cons_succ]
        refine (n28 _).mono ?_
        rintro e h2 ⟨rfl, rfl⟩
        simp -implicitDefEqProofs only [err3, nilV, a7, go_sem, ↓reduceIte, Nat.reduceLT, Nat.reduceEqDiff, Nat.reduceAdd, Nat.reduceMul, Nat.reduceLeDiff, decide_true, decide_false, Int.cast_ofNat_Int, Int.reduceEq, Int.reduceLT, Int.reduceLE, Bool.not_true, Bool.not_false, Nat.zero_add, Nat.add_zero, Nat.zero_mul, List.map_cons, List.map_nil, List.length_cons, List.length_nil, List.getElem?_cons_zero, List.getElem?_cons_succ]
        refine (n29 _ _ _ _).mono ?_
        rintro e h2 ⟨rfl, rfl⟩
        simp -implicitDefEqProofs only [err3, nilV, a7, go_sem, ↓reduceIte, Nat.reduceLT, Nat.reduceEqDiff, Nat.reduceAdd, Nat.reduceMul, Nat.reduceLeDiff, decide_true, decide_false, Int.cast_ofNat_Int, Int.reduceEq, Int.reduceLT, Int.reduceLE, Bool.not_true, Bool.not_false, Nat.zero_add, Nat.add_zero, Nat.zero_mul, List.map_cons, List.map_nil, List.length_cons, List.length_nil, List.getElem?_cons_zero, List.getElem?_cons_succ]
        refine (n30 _ _ _).mono ?_
        rintro e h2 ⟨rfl, rfl⟩
        simp -implicitDefEqProofs only [err3, nilV, a7, go_sem, ↓reduceIte, Nat.reduceLT, Nat.reduceEqDiff, Nat.reduceAdd, Nat.reduceMul, Nat.reduceLeDiff, decide_true, decide_false, Int.cast_ofNat_Int, Int.reduceEq, Int.reduceLT, Int.reduceLE, Bool.not_true, Bool.not_false, Nat.zero_add, Nat.add_zero, Nat.zero_mul, List.map_cons, List.map_nil, List.length_cons, List.length_nil, List.getElem?_cons_zero, List.getElem?_cons_succ]
        refine (n31 _ _ _ _).mono ?_
        rintro e h2 ⟨rfl, rfl⟩
        simp -implicitDefEqProofs only [err3, nilV, a7, go_sem, ↓reduceIte, Nat.reduceLT, Nat.reduceEqDiff, Nat.reduceAdd, Nat.reduceMul, Nat.reduceLeDiff, decide_true, decide_false, Int.cast_ofNat_Int, Int.reduceEq, Int.reduceLT, Int.reduceLE, Bool.not_true, Bool.not_false, Nat.zero_add, Nat.add_zero, Nat.zero_mul, List.map_cons, List.map_nil, List.length_cons, List.length_nil, List.getElem?_cons_zero, List.getElem?_cons_succ]
        refine (n32 _ _ _ _).mono ?_
        rintro e h2 ⟨rfl, rfl⟩
        simp -implicitDefEqProofs only [err3, nilV, a7, go_sem, ↓reduceIte, Nat.reduceLT, Nat.reduceEqDiff, Nat.reduceAdd, Nat.reduceMul, Nat.reduceLeDiff, decide_true, decide_false, Int.cast_ofNat_Int, Int.reduceEq, Int.reduceLT, Int.reduceLE, Bool.not_true, Bool.not_false, Nat.zero_add, Nat.add_zero, Nat.zero_mul, List.map_cons, List.map_nil, List.length_cons, List.length_nil, List.getElem?_cons_zero, List.getElem?_cons_succ]
        refine (n33 _).mono ?_
        rintro e h2 ⟨rfl, rfl⟩
        simp -implicitDefEqProofs only [err3, nilV, a7, go_sem, ↓reduceIte, Nat.reduceLT, Nat.reduceEqDiff, Nat.reduceAdd, Nat.reduceMul, Nat.reduceLeDiff, decide_true, decide_false, Int.cast_ofNat_Int, Int.reduceEq, Int.reduceLT, Int.reduceLE, Bool.not_true, Bool.not_false, Nat.zero_add, Nat.add_zero, Nat.zero_mul, List.map_cons, List.map_nil, List.length_cons, List.length_nil, List.getElem?_cons_zero, List.getElem?_cons_succ]
        refine (n13 _).mono ?_
        rintro e h2 ⟨rfl, rfl⟩
        simp -implicitDefEqProofs only [err3, nilV, a7, go_sem, ↓reduceIte, Nat.reduceLT, Nat.reduceEqDiff, Nat.reduceAdd, Nat.reduceMul, Nat.reduceLeDiff, decide_true, decide_false, Int.cast_ofNat_Int, Int.reduceEq, Int.reduceLT, Int.reduceLE, Bool.not_true, Bool.not_false, Nat.zero_add, Nat.add_zero, Nat.zero_mul, List.map_cons, List.map_nil, List.length_cons, List.length_nil, List.getElem?_cons_zero, List.getElem?_cons_succ]
        refine (n34 _).mono ?_
        rintro e h2 ⟨rfl, rfl⟩
        simp -implicitDefEqProofs only [err3, nilV, a7, go_sem, ↓reduceIte, Nat.reduceLT, Nat.reduceEqDiff, Nat.reduceAdd, Nat.reduceMul, Nat.reduceLeDiff, decide_true, decide_false, Int.cast_ofNat_Int, Int.reduceEq, Int.reduceLT, Int.reduceLE, Bool.not_true, Bool.not_false, Nat.zero_add, Nat.add_zero, Nat.zero_mul, List.map_cons, List.map_nil, List.length_cons, List.length_nil, List.getElem?_cons_zero, List.getElem?_cons_succ]
        refine (n11 _).mono ?_
        rintro e h2 ⟨rfl, rfl⟩
        simp -implicitDefEqProofs only [err3, nilV, a7, go_sem, ↓reduceIte, Nat.reduceLT, Nat.reduceEqDiff, Nat.reduceAdd, Nat.reduceMul, Nat.reduceLeDiff, decide_true, decide_false, Int.cast_ofNat_Int, Int.reduceEq, Int.reduceLT, Int.reduceLE, Bool.not_true, Bool.not_false, Nat.zero_add, Nat.add_zero, Nat.zero_mul, List.map_cons, List.map_nil, List.length_cons, List.length_nil, List.getElem?_cons_zero, List.getElem?_cons_succ]
        refine (n35 _).mono ?_
        rintro e h2 ⟨rfl, rfl⟩
        simp -implicitDefEqProofs only [err3, nilV, a7, go_sem, ↓reduceIte, Nat.reduceLT, Nat.reduceEqDiff, Nat.reduceAdd, Nat.reduceMul, Nat.reduceLeDiff, decide_true, decide_false, Int.cast_ofNat_Int, Int.reduceEq, Int.reduceLT, Int.reduceLE, Bool.not_true, Bool.not_false, Nat.zero_add, Nat.add_zero, Nat.zero_mul, List.map_cons, List.map_nil, List.length_cons, List.length_nil, List.getElem?_cons_zero, List.getElem?_cons_succ]
        refine (n36 _ _).mono ?_
        rintro e h2 ⟨rfl, rfl⟩
        simp -implicitDefEqProofs only [err3, nilV, a7, go_sem, ↓reduceIte, Nat.reduceLT, Nat.reduceEqDiff, Nat.reduceAdd, Nat.reduceMul, Nat.reduceLeDiff, decide_true, decide_false, Int.cast_ofNat_Int, Int.reduceEq, Int.reduceLT, Int.reduceLE, Bool.not_true, Bool.not_false, Nat.zero_add, Nat.add_zero, Nat.zero_mul, List.map_cons, List.map_nil, List.length_cons, List.length_nil, List.getElem?_cons_zero, List.getElem?_cons_succ]
        refine (n7 _).mono ?_
        rintro e h2 ⟨rfl, rfl⟩
        simp -implicitDefEqProofs only [err3, nilV, a7, go_sem, ↓reduceIte, Nat.reduceLT, Nat.reduceEqDiff, Nat.reduceAdd, Nat.reduceMul, Nat.reduceLeDiff, decide_true, decide_false, Int.cast_ofNat_Int, Int.reduceEq, Int.reduceLT, Int.reduceLE, Bool.not_true, Bool.not_false, Nat.zero_add, Nat.add_zero, Nat.zero_mul, List.map_cons, List.map_nil, List.length_cons, List.length_nil, List.getElem?_cons_zero, List.getElem?_cons_succ]
        exact ⟨trivial, _, rfl, rfl⟩
end
