import Derived.Test.YtmdcmnjeonnfiaaGreatDoorCuNa
import Derived.Test.YtmdcmnjeonnfiaaGreatDoorAbY
set_option linter.unusedSimpArgs false
set_option linter.unusedVariables false
/-! Custody: few, small, called. -/
open Go Go.Ab Go.Proofs
set_option maxRecDepth 100000
set_option maxHeartbeats 4000000
noncomputable def E2 : Env := mkEnv Tryz.prog [] (fns1 ++ [7, 14, 15, 16]) [126] [] []
theorem hf2 : ([] ++ (fns1 ++ [7, 14, 15, 16])).all nameOk = true := by kernel_rfl
theorem hfx2 : ∀ f ∈ [] ++ (fns1 ++ [7, 14, 15, 16]), ∀ fn, Tryz.prog.funcs[f]? = some fn → fn.name ≠ "runtime.NumGoroutine" := by
  intro f hf fn h e
  have := List.all_eq_true.1 hf2 f hf
  unfold nameOk at this
  rw [h] at this
  dsimp only at this
  rw [e] at this
  simp at this
theorem ok2 : EnvOk Tryz.prog E2 := mkEnv_ok (info_types _) hfx2 he (fun f code h => by cases h)
theorem F2 : TF Tryz.prog E2.T := mkTF (by kernel_rfl) _ _ _ _ _
theorem E2_c3 : Tryz.prog.cellsOf 3 = 1 := by kernel_rfl
theorem E2_s3 : E2.T.size 3 = some 1 := F2.size (by kernel_rfl) Tryz.underlying3 E2_c3
theorem E2_l3 : E2.T.lay.get 3 = some (false, 1) := F2.lay_of (by kernel_rfl) Tryz.underlying3 E2_c3
@[go_sem] theorem E2_ld3 (h : AH) (b o : Nat) : aload E2.T h 3 (.pointer (some ⟨b, o, none⟩)) = h.ld b o := aload_one E2_l3 h b o
@[go_sem] theorem E2_st3 (h : AH) (b o : Nat) (v : Value) (hv : (cellsL v).length = 1) : astore E2.T h 3 (.pointer (some ⟨b, o, none⟩)) v = aputs h b o (cellsL v) := astore_lay E2_l3 h b o hv
theorem E2_z3 : E2.T.zero 3 = some (.int .i64 0) := F2.zero (by kernel_rfl) (by kernel_rfl)
@[go_sem] theorem E2_al3 (h : AH) : aalloc E2.T h 3 = some (.pointer (some ⟨h.next, 0, none⟩), h.new (.cells (PT.ofL [.int .i64 0]) 1 3 false)) := aalloc_ok h E2_z3 rfl
theorem E2_c4 : Tryz.prog.cellsOf 4 = 1 := by kernel_rfl
theorem E2_s4 : E2.T.size 4 = some 1 := F2.size (by kernel_rfl) Tryz.underlying4 E2_c4
theorem E2_l4 : E2.T.lay.get 4 = some (false, 1) := F2.lay_of (by kernel_rfl) Tryz.underlying4 E2_c4
@[go_sem] theorem E2_ld4 (h : AH) (b o : Nat) : aload E2.T h 4 (.pointer (some ⟨b, o, none⟩)) = h.ld b o := aload_one E2_l4 h b o
@[go_sem] theorem E2_st4 (h : AH) (b o : Nat) (v : Value) (hv : (cellsL v).length = 1) : astore E2.T h 4 (.pointer (some ⟨b, o, none⟩)) v = aputs h b o (cellsL v) := astore_lay E2_l4 h b o hv
theorem E2_z4 : E2.T.zero 4 = some (.bool false) := F2.zero (by kernel_rfl) (by kernel_rfl)
@[go_sem] theorem E2_al4 (h : AH) : aalloc E2.T h 4 = some (.pointer (some ⟨h.next, 0, none⟩), h.new (.cells (PT.ofL [.bool false]) 1 4 false)) := aalloc_ok h E2_z4 rfl
theorem E2_c5 : Tryz.prog.cellsOf 5 = 1 := by kernel_rfl
theorem E2_s5 : E2.T.size 5 = some 1 := F2.size (by kernel_rfl) Tryz.underlying5 E2_c5
theorem E2_l5 : E2.T.lay.get 5 = some (false, 1) := F2.lay_of (by kernel_rfl) Tryz.underlying5 E2_c5
@[go_sem] theorem E2_ld5 (h : AH) (b o : Nat) : aload E2.T h 5 (.pointer (some ⟨b, o, none⟩)) = h.ld b o := aload_one E2_l5 h b o
@[go_sem] theorem E2_st5 (h : AH) (b o : Nat) (v : Value) (hv : (cellsL v).length = 1) : astore E2.T h 5 (.pointer (some ⟨b, o, none⟩)) v = aputs h b o (cellsL v) := astore_lay E2_l5 h b o hv
theorem E2_z5 : E2.T.zero 5 = some (.int .u8 0) := F2.zero (by kernel_rfl) (by kernel_rfl)
@[go_sem] theorem E2_al5 (h : AH) : aalloc E2.T h 5 = some (.pointer (some ⟨h.next, 0, none⟩), h.new (.cells (PT.ofL [.int .u8 0]) 1 5 false)) := aalloc_ok h E2_z5 rfl
theorem E2_c9 : Tryz.prog.cellsOf 9 = 1 := by kernel_rfl
theorem E2_s9 : E2.T.size 9 = some 1 := F2.size (by kernel_rfl) Tryz.underlying9 E2_c9
theorem E2_l9 : E2.T.lay.get 9 = some (false, 1) := F2.lay_of (by kernel_rfl) Tryz.underlying9 E2_c9
@[go_sem] theorem E2_ld9 (h : AH) (b o : Nat) : aload E2.T h 9 (.pointer (some ⟨b, o, none⟩)) = h.ld b o := aload_one E2_l9 h b o
@[go_sem] theorem E2_st9 (h : AH) (b o : Nat) (v : Value) (hv : (cellsL v).length = 1) : astore E2.T h 9 (.pointer (some ⟨b, o, none⟩)) v = aputs h b o (cellsL v) := astore_lay E2_l9 h b o hv
theorem E2_z9 : E2.T.zero 9 = some (.string ByteArray.empty) := F2.zero (by kernel_rfl) (by kernel_rfl)
@[go_sem] theorem E2_al9 (h : AH) : aalloc E2.T h 9 = some (.pointer (some ⟨h.next, 0, none⟩), h.new (.cells (PT.ofL [.string ByteArray.empty]) 1 9 false)) := aalloc_ok h E2_z9 rfl
theorem E2_u9 : E2.T.und 9 = some .string := F2.und (by kernel_rfl) Tryz.underlying9
@[go_sem] theorem E2_len9 (h : AH) (s : ByteArray) : alen E2.T h 9 (.string s) = some (.int .i64 s.data.toList.length) := alen_string h E2_u9 s
theorem E2_c29 : Tryz.prog.cellsOf 29 = 1 := by kernel_rfl
theorem E2_s29 : E2.T.size 29 = some 1 := F2.size (by kernel_rfl) Tryz.underlying29 E2_c29
theorem E2_l29 : E2.T.lay.get 29 = some (false, 1) := F2.lay_of (by kernel_rfl) Tryz.underlying29 E2_c29
@[go_sem] theorem E2_ld29 (h : AH) (b o : Nat) : aload E2.T h 29 (.pointer (some ⟨b, o, none⟩)) = h.ld b o := aload_one E2_l29 h b o
@[go_sem] theorem E2_st29 (h : AH) (b o : Nat) (v : Value) (hv : (cellsL v).length = 1) : astore E2.T h 29 (.pointer (some ⟨b, o, none⟩)) v = aputs h b o (cellsL v) := astore_lay E2_l29 h b o hv
theorem E2_z29 : E2.T.zero 29 = some (.slice none 0 0) := F2.zero (by kernel_rfl) (by kernel_rfl)
@[go_sem] theorem E2_al29 (h : AH) : aalloc E2.T h 29 = some (.pointer (some ⟨h.next, 0, none⟩), h.new (.cells (PT.ofL [.slice none 0 0]) 1 29 false)) := aalloc_ok h E2_z29 rfl
theorem E2_u29 : E2.T.und 29 = some (.slice 43) := F2.und (by kernel_rfl) Tryz.underlying29
@[go_sem] theorem E2_len29 (h : AH) (p : Option Addr) (n c : Nat) : alen E2.T h 29 (.slice p n c) = some (.int .i64 n) := alen_slice h E2_u29 p n c
theorem E2_c35 : Tryz.prog.cellsOf 35 = 1 := by kernel_rfl
theorem E2_s35 : E2.T.size 35 = some 1 := F2.size (by kernel_rfl) Tryz.underlying35 E2_c35
theorem E2_l35 : E2.T.lay.get 35 = some (false, 1) := F2.lay_of (by kernel_rfl) Tryz.underlying35 E2_c35
@[go_sem] theorem E2_ld35 (h : AH) (b o : Nat) : aload E2.T h 35 (.pointer (some ⟨b, o, none⟩)) = h.ld b o := aload_one E2_l35 h b o
@[go_sem] theorem E2_st35 (h : AH) (b o : Nat) (v : Value) (hv : (cellsL v).length = 1) : astore E2.T h 35 (.pointer (some ⟨b, o, none⟩)) v = aputs h b o (cellsL v) := astore_lay E2_l35 h b o hv
theorem E2_z35 : E2.T.zero 35 = some (.slice none 0 0) := F2.zero (by kernel_rfl) (by kernel_rfl)
@[go_sem] theorem E2_al35 (h : AH) : aalloc E2.T h 35 = some (.pointer (some ⟨h.next, 0, none⟩), h.new (.cells (PT.ofL [.slice none 0 0]) 1 35 false)) := aalloc_ok h E2_z35 rfl
theorem E2_u35 : E2.T.und 35 = some (.slice 9) := F2.und (by kernel_rfl) Tryz.underlying35
@[go_sem] theorem E2_len35 (h : AH) (p : Option Addr) (n c : Nat) : alen E2.T h 35 (.slice p n c) = some (.int .i64 n) := alen_slice h E2_u35 p n c
theorem E2_ia35 {i n : Nat} (hi : i < n) (b o c : Nat) (kd : IntKind) : aindexA E2.T 35 (.slice (some ⟨b, o, none⟩) n c) (.int kd (i : Int)) = some (.pointer (some ⟨b, o + i * 1, none⟩)) := aindexA_slice E2_u35 E2_s9 b o n c kd i hi
theorem E2_c44 : Tryz.prog.cellsOf 44 = 1 := by kernel_rfl
theorem E2_s44 : E2.T.size 44 = some 1 := F2.size (by kernel_rfl) Tryz.underlying44 E2_c44
theorem E2_l44 : E2.T.lay.get 44 = some (false, 1) := F2.lay_of (by kernel_rfl) Tryz.underlying44 E2_c44
@[go_sem] theorem E2_ld44 (h : AH) (b o : Nat) : aload E2.T h 44 (.pointer (some ⟨b, o, none⟩)) = h.ld b o := aload_one E2_l44 h b o
@[go_sem] theorem E2_st44 (h : AH) (b o : Nat) (v : Value) (hv : (cellsL v).length = 1) : astore E2.T h 44 (.pointer (some ⟨b, o, none⟩)) v = aputs h b o (cellsL v) := astore_lay E2_l44 h b o hv
theorem E2_z44 : E2.T.zero 44 = some (.int .i64 0) := F2.zero (by kernel_rfl) (by kernel_rfl)
@[go_sem] theorem E2_al44 (h : AH) : aalloc E2.T h 44 = some (.pointer (some ⟨h.next, 0, none⟩), h.new (.cells (PT.ofL [.int .i64 0]) 1 44 false)) := aalloc_ok h E2_z44 rfl
theorem E2_c47 : Tryz.prog.cellsOf 47 = 1 := by kernel_rfl
theorem E2_s47 : E2.T.size 47 = some 1 := F2.size (by kernel_rfl) Tryz.underlying47 E2_c47
theorem E2_l47 : E2.T.lay.get 47 = some (false, 1) := F2.lay_of (by kernel_rfl) Tryz.underlying47 E2_c47
@[go_sem] theorem E2_ld47 (h : AH) (b o : Nat) : aload E2.T h 47 (.pointer (some ⟨b, o, none⟩)) = h.ld b o := aload_one E2_l47 h b o
@[go_sem] theorem E2_st47 (h : AH) (b o : Nat) (v : Value) (hv : (cellsL v).length = 1) : astore E2.T h 47 (.pointer (some ⟨b, o, none⟩)) v = aputs h b o (cellsL v) := astore_lay E2_l47 h b o hv
theorem E2_z47 : E2.T.zero 47 = some (.slice none 0 0) := F2.zero (by kernel_rfl) (by kernel_rfl)
@[go_sem] theorem E2_al47 (h : AH) : aalloc E2.T h 47 = some (.pointer (some ⟨h.next, 0, none⟩), h.new (.cells (PT.ofL [.slice none 0 0]) 1 47 false)) := aalloc_ok h E2_z47 rfl
theorem E2_u47 : E2.T.und 47 = some (.slice 101) := F2.und (by kernel_rfl) Tryz.underlying47
@[go_sem] theorem E2_len47 (h : AH) (p : Option Addr) (n c : Nat) : alen E2.T h 47 (.slice p n c) = some (.int .i64 n) := alen_slice h E2_u47 p n c
theorem E2_c50 : Tryz.prog.cellsOf 50 = 2 := by kernel_rfl
theorem E2_s50 : E2.T.size 50 = some 2 := F2.size (by kernel_rfl) Tryz.underlying50 E2_c50
theorem E2_l50 : E2.T.lay.get 50 = some (true, 1 + 1) := F2.lay_of (by kernel_rfl) Tryz.underlying50 E2_c50
@[go_sem] theorem E2_ld50 (h : AH) (b o : Nat) : aload E2.T h 50 (.pointer (some ⟨b, o, none⟩)) = match ldL h b o (1 + 1) with | some l => some (.agg ⟨l⟩) | none => none := aload_agg E2_l50 h b o
@[go_sem] theorem E2_st50 (h : AH) (b o : Nat) (v : Value) (hv : (cellsL v).length = 2) : astore E2.T h 50 (.pointer (some ⟨b, o, none⟩)) v = aputs h b o (cellsL v) := astore_lay E2_l50 h b o hv
theorem E2_z50 : E2.T.zero 50 = some (.agg ⟨[.int .i64 0, .string ByteArray.empty]⟩) := F2.zero (by kernel_rfl) (by kernel_rfl)
@[go_sem] theorem E2_al50 (h : AH) : aalloc E2.T h 50 = some (.pointer (some ⟨h.next, 0, none⟩), h.new (.cells (PT.ofL [.int .i64 0, .string ByteArray.empty]) 2 50 false)) := aalloc_ok h E2_z50 rfl
@[go_sem] theorem E2_fa50_0 (b o : Nat) : afieldA E2.T 50 (.pointer (some ⟨b, o, none⟩)) 0 = some (.pointer (some ⟨b, o + 0, none⟩)) := F2.fa (by kernel_rfl) b o
@[go_sem] theorem E2_fa50_1 (b o : Nat) : afieldA E2.T 50 (.pointer (some ⟨b, o, none⟩)) 1 = some (.pointer (some ⟨b, o + 1, none⟩)) := F2.fa (by kernel_rfl) b o
theorem E2_c51 : Tryz.prog.cellsOf 51 = 1 := by kernel_rfl
theorem E2_s51 : E2.T.size 51 = some 1 := F2.size (by kernel_rfl) Tryz.underlying51 E2_c51
theorem E2_l51 : E2.T.lay.get 51 = some (false, 1) := F2.lay_of (by kernel_rfl) Tryz.underlying51 E2_c51
@[go_sem] theorem E2_ld51 (h : AH) (b o : Nat) : aload E2.T h 51 (.pointer (some ⟨b, o, none⟩)) = h.ld b o := aload_one E2_l51 h b o
@[go_sem] theorem E2_st51 (h : AH) (b o : Nat) (v : Value) (hv : (cellsL v).length = 1) : astore E2.T h 51 (.pointer (some ⟨b, o, none⟩)) v = aputs h b o (cellsL v) := astore_lay E2_l51 h b o hv
theorem E2_z51 : E2.T.zero 51 = some (.slice none 0 0) := F2.zero (by kernel_rfl) (by kernel_rfl)
@[go_sem] theorem E2_al51 (h : AH) : aalloc E2.T h 51 = some (.pointer (some ⟨h.next, 0, none⟩), h.new (.cells (PT.ofL [.slice none 0 0]) 1 51 false)) := aalloc_ok h E2_z51 rfl
theorem E2_u51 : E2.T.und 51 = some (.slice 3) := F2.und (by kernel_rfl) Tryz.underlying51
@[go_sem] theorem E2_len51 (h : AH) (p : Option Addr) (n c : Nat) : alen E2.T h 51 (.slice p n c) = some (.int .i64 n) := alen_slice h E2_u51 p n c
theorem E2_ia51 {i n : Nat} (hi : i < n) (b o c : Nat) (kd : IntKind) : aindexA E2.T 51 (.slice (some ⟨b, o, none⟩) n c) (.int kd (i : Int)) = some (.pointer (some ⟨b, o + i * 1, none⟩)) := aindexA_slice E2_u51 E2_s3 b o n c kd i hi
theorem E2_c53 : Tryz.prog.cellsOf 53 = 9 := by kernel_rfl
theorem E2_s53 : E2.T.size 53 = some 9 := F2.size (by kernel_rfl) Tryz.underlying53 E2_c53
theorem E2_l53 : E2.T.lay.get 53 = some (true, 8 + 1) := F2.lay_of (by kernel_rfl) Tryz.underlying53 E2_c53
@[go_sem] theorem E2_ld53 (h : AH) (b o : Nat) : aload E2.T h 53 (.pointer (some ⟨b, o, none⟩)) = match ldL h b o (8 + 1) with | some l => some (.agg ⟨l⟩) | none => none := aload_agg E2_l53 h b o
@[go_sem] theorem E2_st53 (h : AH) (b o : Nat) (v : Value) (hv : (cellsL v).length = 9) : astore E2.T h 53 (.pointer (some ⟨b, o, none⟩)) v = aputs h b o (cellsL v) := astore_lay E2_l53 h b o hv
theorem E2_z53 : E2.T.zero 53 = some (.agg ⟨[.int .u8 0, .int .i64 0, .string ByteArray.empty, .slice none 0 0, .int .i64 0, .int .i64 0, .string ByteArray.empty, .string ByteArray.empty, .slice none 0 0]⟩) := F2.zero (by kernel_rfl) (by kernel_rfl)
@[go_sem] theorem E2_al53 (h : AH) : aalloc E2.T h 53 = some (.pointer (some ⟨h.next, 0, none⟩), h.new (.cells (PT.ofL [.int .u8 0, .int .i64 0, .string ByteArray.empty, .slice none 0 0, .int .i64 0, .int .i64 0, .string ByteArray.empty, .string ByteArray.empty, .slice none 0 0]) 9 53 false)) := aalloc_ok h E2_z53 rfl
@[go_sem] theorem E2_fa53_0 (b o : Nat) : afieldA E2.T 53 (.pointer (some ⟨b, o, none⟩)) 0 = some (.pointer (some ⟨b, o + 0, none⟩)) := F2.fa (by kernel_rfl) b o
@[go_sem] theorem E2_fa53_1 (b o : Nat) : afieldA E2.T 53 (.pointer (some ⟨b, o, none⟩)) 1 = some (.pointer (some ⟨b, o + 1, none⟩)) := F2.fa (by kernel_rfl) b o
@[go_sem] theorem E2_fa53_2 (b o : Nat) : afieldA E2.T 53 (.pointer (some ⟨b, o, none⟩)) 2 = some (.pointer (some ⟨b, o + 3, none⟩)) := F2.fa (by kernel_rfl) b o
@[go_sem] theorem E2_fa53_3 (b o : Nat) : afieldA E2.T 53 (.pointer (some ⟨b, o, none⟩)) 3 = some (.pointer (some ⟨b, o + 4, none⟩)) := F2.fa (by kernel_rfl) b o
@[go_sem] theorem E2_fa53_4 (b o : Nat) : afieldA E2.T 53 (.pointer (some ⟨b, o, none⟩)) 4 = some (.pointer (some ⟨b, o + 5, none⟩)) := F2.fa (by kernel_rfl) b o
@[go_sem] theorem E2_fa53_5 (b o : Nat) : afieldA E2.T 53 (.pointer (some ⟨b, o, none⟩)) 5 = some (.pointer (some ⟨b, o + 6, none⟩)) := F2.fa (by kernel_rfl) b o
@[go_sem] theorem E2_fa53_6 (b o : Nat) : afieldA E2.T 53 (.pointer (some ⟨b, o, none⟩)) 6 = some (.pointer (some ⟨b, o + 7, none⟩)) := F2.fa (by kernel_rfl) b o
@[go_sem] theorem E2_fa53_7 (b o : Nat) : afieldA E2.T 53 (.pointer (some ⟨b, o, none⟩)) 7 = some (.pointer (some ⟨b, o + 8, none⟩)) := F2.fa (by kernel_rfl) b o
theorem E2_c54 : Tryz.prog.cellsOf 54 = 1 := by kernel_rfl
theorem E2_s54 : E2.T.size 54 = some 1 := F2.size (by kernel_rfl) Tryz.underlying54 E2_c54
theorem E2_l54 : E2.T.lay.get 54 = some (false, 1) := F2.lay_of (by kernel_rfl) Tryz.underlying54 E2_c54
@[go_sem] theorem E2_ld54 (h : AH) (b o : Nat) : aload E2.T h 54 (.pointer (some ⟨b, o, none⟩)) = h.ld b o := aload_one E2_l54 h b o
@[go_sem] theorem E2_st54 (h : AH) (b o : Nat) (v : Value) (hv : (cellsL v).length = 1) : astore E2.T h 54 (.pointer (some ⟨b, o, none⟩)) v = aputs h b o (cellsL v) := astore_lay E2_l54 h b o hv
theorem E2_z54 : E2.T.zero 54 = some (.slice none 0 0) := F2.zero (by kernel_rfl) (by kernel_rfl)
@[go_sem] theorem E2_al54 (h : AH) : aalloc E2.T h 54 = some (.pointer (some ⟨h.next, 0, none⟩), h.new (.cells (PT.ofL [.slice none 0 0]) 1 54 false)) := aalloc_ok h E2_z54 rfl
theorem E2_u54 : E2.T.und 54 = some (.slice 5) := F2.und (by kernel_rfl) Tryz.underlying54
@[go_sem] theorem E2_len54 (h : AH) (p : Option Addr) (n c : Nat) : alen E2.T h 54 (.slice p n c) = some (.int .i64 n) := alen_slice h E2_u54 p n c
theorem E2_ia54 {i n : Nat} (hi : i < n) (b o c : Nat) (kd : IntKind) : aindexA E2.T 54 (.slice (some ⟨b, o, none⟩) n c) (.int kd (i : Int)) = some (.pointer (some ⟨b, o + i * 1, none⟩)) := aindexA_slice E2_u54 E2_s5 b o n c kd i hi
theorem E2_c56 : Tryz.prog.cellsOf 56 = 5 := by kernel_rfl
theorem E2_s56 : E2.T.size 56 = some 5 := F2.size (by kernel_rfl) Tryz.underlying56 E2_c56
theorem E2_l56 : E2.T.lay.get 56 = some (true, 4 + 1) := F2.lay_of (by kernel_rfl) Tryz.underlying56 E2_c56
@[go_sem] theorem E2_ld56 (h : AH) (b o : Nat) : aload E2.T h 56 (.pointer (some ⟨b, o, none⟩)) = match ldL h b o (4 + 1) with | some l => some (.agg ⟨l⟩) | none => none := aload_agg E2_l56 h b o
@[go_sem] theorem E2_st56 (h : AH) (b o : Nat) (v : Value) (hv : (cellsL v).length = 5) : astore E2.T h 56 (.pointer (some ⟨b, o, none⟩)) v = aputs h b o (cellsL v) := astore_lay E2_l56 h b o hv
theorem E2_z56 : E2.T.zero 56 = some (.agg ⟨[.int .u8 0, .int .i64 0, .slice none 0 0, .int .i64 0, .slice none 0 0]⟩) := F2.zero (by kernel_rfl) (by kernel_rfl)
@[go_sem] theorem E2_al56 (h : AH) : aalloc E2.T h 56 = some (.pointer (some ⟨h.next, 0, none⟩), h.new (.cells (PT.ofL [.int .u8 0, .int .i64 0, .slice none 0 0, .int .i64 0, .slice none 0 0]) 5 56 false)) := aalloc_ok h E2_z56 rfl
@[go_sem] theorem E2_fa56_0 (b o : Nat) : afieldA E2.T 56 (.pointer (some ⟨b, o, none⟩)) 0 = some (.pointer (some ⟨b, o + 0, none⟩)) := F2.fa (by kernel_rfl) b o
@[go_sem] theorem E2_fa56_1 (b o : Nat) : afieldA E2.T 56 (.pointer (some ⟨b, o, none⟩)) 1 = some (.pointer (some ⟨b, o + 1, none⟩)) := F2.fa (by kernel_rfl) b o
@[go_sem] theorem E2_fa56_2 (b o : Nat) : afieldA E2.T 56 (.pointer (some ⟨b, o, none⟩)) 2 = some (.pointer (some ⟨b, o + 2, none⟩)) := F2.fa (by kernel_rfl) b o
@[go_sem] theorem E2_fa56_3 (b o : Nat) : afieldA E2.T 56 (.pointer (some ⟨b, o, none⟩)) 3 = some (.pointer (some ⟨b, o + 3, none⟩)) := F2.fa (by kernel_rfl) b o
@[go_sem] theorem E2_fa56_4 (b o : Nat) : afieldA E2.T 56 (.pointer (some ⟨b, o, none⟩)) 4 = some (.pointer (some ⟨b, o + 4, none⟩)) := F2.fa (by kernel_rfl) b o
theorem E2_c58 : Tryz.prog.cellsOf 58 = 5 := by kernel_rfl
theorem E2_s58 : E2.T.size 58 = some 5 := F2.size (by kernel_rfl) Tryz.underlying58 E2_c58
theorem E2_l58 : E2.T.lay.get 58 = some (true, 4 + 1) := F2.lay_of (by kernel_rfl) Tryz.underlying58 E2_c58
@[go_sem] theorem E2_ld58 (h : AH) (b o : Nat) : aload E2.T h 58 (.pointer (some ⟨b, o, none⟩)) = match ldL h b o (4 + 1) with | some l => some (.agg ⟨l⟩) | none => none := aload_agg E2_l58 h b o
@[go_sem] theorem E2_st58 (h : AH) (b o : Nat) (v : Value) (hv : (cellsL v).length = 5) : astore E2.T h 58 (.pointer (some ⟨b, o, none⟩)) v = aputs h b o (cellsL v) := astore_lay E2_l58 h b o hv
theorem E2_z58 : E2.T.zero 58 = some (.agg ⟨[.int .u8 0, .int .i64 0, .int .i64 0, .int .i64 0, .string ByteArray.empty]⟩) := F2.zero (by kernel_rfl) (by kernel_rfl)
@[go_sem] theorem E2_al58 (h : AH) : aalloc E2.T h 58 = some (.pointer (some ⟨h.next, 0, none⟩), h.new (.cells (PT.ofL [.int .u8 0, .int .i64 0, .int .i64 0, .int .i64 0, .string ByteArray.empty]) 5 58 false)) := aalloc_ok h E2_z58 rfl
@[go_sem] theorem E2_fa58_0 (b o : Nat) : afieldA E2.T 58 (.pointer (some ⟨b, o, none⟩)) 0 = some (.pointer (some ⟨b, o + 0, none⟩)) := F2.fa (by kernel_rfl) b o
@[go_sem] theorem E2_fa58_1 (b o : Nat) : afieldA E2.T 58 (.pointer (some ⟨b, o, none⟩)) 1 = some (.pointer (some ⟨b, o + 1, none⟩)) := F2.fa (by kernel_rfl) b o
@[go_sem] theorem E2_fa58_2 (b o : Nat) : afieldA E2.T 58 (.pointer (some ⟨b, o, none⟩)) 2 = some (.pointer (some ⟨b, o + 2, none⟩)) := F2.fa (by kernel_rfl) b o
@[go_sem] theorem E2_fa58_3 (b o : Nat) : afieldA E2.T 58 (.pointer (some ⟨b, o, none⟩)) 3 = some (.pointer (some ⟨b, o + 3, none⟩)) := F2.fa (by kernel_rfl) b o
@[go_sem] theorem E2_fa58_4 (b o : Nat) : afieldA E2.T 58 (.pointer (some ⟨b, o, none⟩)) 4 = some (.pointer (some ⟨b, o + 4, none⟩)) := F2.fa (by kernel_rfl) b o
theorem E2_c60 : Tryz.prog.cellsOf 60 = 1 := by kernel_rfl
theorem E2_s60 : E2.T.size 60 = some 1 := F2.size (by kernel_rfl) Tryz.underlying60 E2_c60
theorem E2_l60 : E2.T.lay.get 60 = some (false, 1) := F2.lay_of (by kernel_rfl) Tryz.underlying60 E2_c60
@[go_sem] theorem E2_ld60 (h : AH) (b o : Nat) : aload E2.T h 60 (.pointer (some ⟨b, o, none⟩)) = h.ld b o := aload_one E2_l60 h b o
@[go_sem] theorem E2_st60 (h : AH) (b o : Nat) (v : Value) (hv : (cellsL v).length = 1) : astore E2.T h 60 (.pointer (some ⟨b, o, none⟩)) v = aputs h b o (cellsL v) := astore_lay E2_l60 h b o hv
theorem E2_z60 : E2.T.zero 60 = some (.slice none 0 0) := F2.zero (by kernel_rfl) (by kernel_rfl)
@[go_sem] theorem E2_al60 (h : AH) : aalloc E2.T h 60 = some (.pointer (some ⟨h.next, 0, none⟩), h.new (.cells (PT.ofL [.slice none 0 0]) 1 60 false)) := aalloc_ok h E2_z60 rfl
theorem E2_u60 : E2.T.und 60 = some (.slice 53) := F2.und (by kernel_rfl) Tryz.underlying60
@[go_sem] theorem E2_len60 (h : AH) (p : Option Addr) (n c : Nat) : alen E2.T h 60 (.slice p n c) = some (.int .i64 n) := alen_slice h E2_u60 p n c
theorem E2_ia60 {i n : Nat} (hi : i < n) (b o c : Nat) (kd : IntKind) : aindexA E2.T 60 (.slice (some ⟨b, o, none⟩) n c) (.int kd (i : Int)) = some (.pointer (some ⟨b, o + i * 9, none⟩)) := aindexA_slice E2_u60 E2_s53 b o n c kd i hi
theorem E2_c62 : Tryz.prog.cellsOf 62 = 1 := by kernel_rfl
theorem E2_s62 : E2.T.size 62 = some 1 := F2.size (by kernel_rfl) Tryz.underlying62 E2_c62
theorem E2_l62 : E2.T.lay.get 62 = some (false, 1) := F2.lay_of (by kernel_rfl) Tryz.underlying62 E2_c62
@[go_sem] theorem E2_ld62 (h : AH) (b o : Nat) : aload E2.T h 62 (.pointer (some ⟨b, o, none⟩)) = h.ld b o := aload_one E2_l62 h b o
@[go_sem] theorem E2_st62 (h : AH) (b o : Nat) (v : Value) (hv : (cellsL v).length = 1) : astore E2.T h 62 (.pointer (some ⟨b, o, none⟩)) v = aputs h b o (cellsL v) := astore_lay E2_l62 h b o hv
theorem E2_z62 : E2.T.zero 62 = some (.slice none 0 0) := F2.zero (by kernel_rfl) (by kernel_rfl)
@[go_sem] theorem E2_al62 (h : AH) : aalloc E2.T h 62 = some (.pointer (some ⟨h.next, 0, none⟩), h.new (.cells (PT.ofL [.slice none 0 0]) 1 62 false)) := aalloc_ok h E2_z62 rfl
theorem E2_u62 : E2.T.und 62 = some (.slice 56) := F2.und (by kernel_rfl) Tryz.underlying62
@[go_sem] theorem E2_len62 (h : AH) (p : Option Addr) (n c : Nat) : alen E2.T h 62 (.slice p n c) = some (.int .i64 n) := alen_slice h E2_u62 p n c
theorem E2_ia62 {i n : Nat} (hi : i < n) (b o c : Nat) (kd : IntKind) : aindexA E2.T 62 (.slice (some ⟨b, o, none⟩) n c) (.int kd (i : Int)) = some (.pointer (some ⟨b, o + i * 5, none⟩)) := aindexA_slice E2_u62 E2_s56 b o n c kd i hi
theorem E2_c82 : Tryz.prog.cellsOf 82 = 1 := by kernel_rfl
theorem E2_s82 : E2.T.size 82 = some 1 := F2.size (by kernel_rfl) Tryz.underlying82 E2_c82
theorem E2_l82 : E2.T.lay.get 82 = some (false, 1) := F2.lay_of (by kernel_rfl) Tryz.underlying82 E2_c82
@[go_sem] theorem E2_ld82 (h : AH) (b o : Nat) : aload E2.T h 82 (.pointer (some ⟨b, o, none⟩)) = h.ld b o := aload_one E2_l82 h b o
@[go_sem] theorem E2_st82 (h : AH) (b o : Nat) (v : Value) (hv : (cellsL v).length = 1) : astore E2.T h 82 (.pointer (some ⟨b, o, none⟩)) v = aputs h b o (cellsL v) := astore_lay E2_l82 h b o hv
theorem E2_z82 : E2.T.zero 82 = some (.slice none 0 0) := F2.zero (by kernel_rfl) (by kernel_rfl)
@[go_sem] theorem E2_al82 (h : AH) : aalloc E2.T h 82 = some (.pointer (some ⟨h.next, 0, none⟩), h.new (.cells (PT.ofL [.slice none 0 0]) 1 82 false)) := aalloc_ok h E2_z82 rfl
theorem E2_u82 : E2.T.und 82 = some (.slice 50) := F2.und (by kernel_rfl) Tryz.underlying82
@[go_sem] theorem E2_len82 (h : AH) (p : Option Addr) (n c : Nat) : alen E2.T h 82 (.slice p n c) = some (.int .i64 n) := alen_slice h E2_u82 p n c
theorem E2_ia82 {i n : Nat} (hi : i < n) (b o c : Nat) (kd : IntKind) : aindexA E2.T 82 (.slice (some ⟨b, o, none⟩) n c) (.int kd (i : Int)) = some (.pointer (some ⟨b, o + i * 2, none⟩)) := aindexA_slice E2_u82 E2_s50 b o n c kd i hi
@[go_sem] theorem E2_en7 (h : AH) (args : List Value) : acallF E2 h 7 args = some (.enter 7 args) := enters_mk Tryz.func7 (by kernel_rfl) (by kernel_rfl) h args
@[go_sem] theorem E2_en14 (h : AH) (args : List Value) : acallF E2 h 14 args = some (.enter 14 args) := enters_mk Tryz.func14 (by kernel_rfl) (by kernel_rfl) h args
@[go_sem] theorem E2_en15 (h : AH) (args : List Value) : acallF E2 h 15 args = some (.enter 15 args) := enters_mk Tryz.func15 (by kernel_rfl) (by kernel_rfl) h args
@[go_sem] theorem E2_en16 (h : AH) (args : List Value) : acallF E2 h 16 args = some (.enter 16 args) := enters_mk Tryz.func16 (by kernel_rfl) (by kernel_rfl) h args
@[go_sem] theorem E2_en11 (h : AH) (args : List Value) : acallF E2 h 11 args = some (.enter 11 args) := enters_mk Tryz.func11 (by kernel_rfl) (by kernel_rfl) h args
@[go_sem] theorem E2_en12 (h : AH) (args : List Value) : acallF E2 h 12 args = some (.enter 12 args) := enters_mk Tryz.func12 (by kernel_rfl) (by kernel_rfl) h args
@[go_sem] theorem E2_en13 (h : AH) (args : List Value) : acallF E2 h 13 args = some (.enter 13 args) := enters_mk Tryz.func13 (by kernel_rfl) (by kernel_rfl) h args
@[go_sem] theorem E2_en17 (h : AH) (args : List Value) : acallF E2 h 17 args = some (.enter 17 args) := enters_mk Tryz.func17 (by kernel_rfl) (by kernel_rfl) h args
@[go_sem] theorem E2_en18 (h : AH) (args : List Value) : acallF E2 h 18 args = some (.enter 18 args) := enters_mk Tryz.func18 (by kernel_rfl) (by kernel_rfl) h args
@[go_sem] theorem E2_en19 (h : AH) (args : List Value) : acallF E2 h 19 args = some (.enter 19 args) := enters_mk Tryz.func19 (by kernel_rfl) (by kernel_rfl) h args
@[go_sem] theorem E2_en20 (h : AH) (args : List Value) : acallF E2 h 20 args = some (.enter 20 args) := enters_mk Tryz.func20 (by kernel_rfl) (by kernel_rfl) h args
@[go_sem] theorem E2_en21 (h : AH) (args : List Value) : acallF E2 h 21 args = some (.enter 21 args) := enters_mk Tryz.func21 (by kernel_rfl) (by kernel_rfl) h args
@[go_sem] theorem E2_en22 (h : AH) (args : List Value) : acallF E2 h 22 args = some (.enter 22 args) := enters_mk Tryz.func22 (by kernel_rfl) (by kernel_rfl) h args
@[go_sem] theorem E2_en23 (h : AH) (args : List Value) : acallF E2 h 23 args = some (.enter 23 args) := enters_mk Tryz.func23 (by kernel_rfl) (by kernel_rfl) h args
@[go_sem] theorem E2_en24 (h : AH) (args : List Value) : acallF E2 h 24 args = some (.enter 24 args) := enters_mk Tryz.func24 (by kernel_rfl) (by kernel_rfl) h args
@[go_sem] theorem E2_en25 (h : AH) (args : List Value) : acallF E2 h 25 args = some (.enter 25 args) := enters_mk Tryz.func25 (by kernel_rfl) (by kernel_rfl) h args
@[go_sem] theorem E2_en26 (h : AH) (args : List Value) : acallF E2 h 26 args = some (.enter 26 args) := enters_mk Tryz.func26 (by kernel_rfl) (by kernel_rfl) h args
@[go_sem] theorem E2_en27 (h : AH) (args : List Value) : acallF E2 h 27 args = some (.enter 27 args) := enters_mk Tryz.func27 (by kernel_rfl) (by kernel_rfl) h args
@[go_sem] theorem E2_en28 (h : AH) (args : List Value) : acallF E2 h 28 args = some (.enter 28 args) := enters_mk Tryz.func28 (by kernel_rfl) (by kernel_rfl) h args
@[go_sem] theorem E2_en29 (h : AH) (args : List Value) : acallF E2 h 29 args = some (.enter 29 args) := enters_mk Tryz.func29 (by kernel_rfl) (by kernel_rfl) h args
@[go_sem] theorem E2_en30 (h : AH) (args : List Value) : acallF E2 h 30 args = some (.enter 30 args) := enters_mk Tryz.func30 (by kernel_rfl) (by kernel_rfl) h args
@[go_sem] theorem E2_en31 (h : AH) (args : List Value) : acallF E2 h 31 args = some (.enter 31 args) := enters_mk Tryz.func31 (by kernel_rfl) (by kernel_rfl) h args
@[go_sem] theorem E2_en32 (h : AH) (args : List Value) : acallF E2 h 32 args = some (.enter 32 args) := enters_mk Tryz.func32 (by kernel_rfl) (by kernel_rfl) h args
@[go_sem] theorem E2_en33 (h : AH) (args : List Value) : acallF E2 h 33 args = some (.enter 33 args) := enters_mk Tryz.func33 (by kernel_rfl) (by kernel_rfl) h args
@[go_sem] theorem E2_en34 (h : AH) (args : List Value) : acallF E2 h 34 args = some (.enter 34 args) := enters_mk Tryz.func34 (by kernel_rfl) (by kernel_rfl) h args
@[go_sem] theorem E2_en35 (h : AH) (args : List Value) : acallF E2 h 35 args = some (.enter 35 args) := enters_mk Tryz.func35 (by kernel_rfl) (by kernel_rfl) h args
@[go_sem] theorem E2_en36 (h : AH) (args : List Value) : acallF E2 h 36 args = some (.enter 36 args) := enters_mk Tryz.func36 (by kernel_rfl) (by kernel_rfl) h args
@[go_sem] theorem E2_en38 (h : AH) (args : List Value) : acallF E2 h 38 args = some (.enter 38 args) := enters_mk Tryz.func38 (by kernel_rfl) (by kernel_rfl) h args
@[go_sem] theorem E2_en39 (h : AH) (args : List Value) : acallF E2 h 39 args = some (.enter 39 args) := enters_mk Tryz.func39 (by kernel_rfl) (by kernel_rfl) h args
@[go_sem] theorem E2_en52 (h : AH) (args : List Value) : acallF E2 h 52 args = some (.enter 52 args) := enters_mk Tryz.func52 (by kernel_rfl) (by kernel_rfl) h args
@[go_sem] theorem E2_en53 (h : AH) (args : List Value) : acallF E2 h 53 args = some (.enter 53 args) := enters_mk Tryz.func53 (by kernel_rfl) (by kernel_rfl) h args
@[go_sem] theorem E2_en54 (h : AH) (args : List Value) : acallF E2 h 54 args = some (.enter 54 args) := enters_mk Tryz.func54 (by kernel_rfl) (by kernel_rfl) h args
@[go_sem] theorem E2_en55 (h : AH) (args : List Value) : acallF E2 h 55 args = some (.enter 55 args) := enters_mk Tryz.func55 (by kernel_rfl) (by kernel_rfl) h args
noncomputable def c14 : Code := match Tryz.f14.body with | some c => c | none => .skip
theorem k14 : codeOk drawOk [] c14 = true := by kernel_rfl
noncomputable def c15 : Code := match Tryz.f15.body with | some c => c | none => .skip
theorem k15 : codeOk drawOk [] c15 = true := by kernel_rfl
noncomputable def c16 : Code := match Tryz.f16.body with | some c => c | none => .skip
theorem k16 : codeOk drawOk [] c16 = true := by kernel_rfl
/-- A slice that only its length is asked of. -/
def SliceV (v : Value) : Prop := ∃ n : Nat, ∀ (h : AH), alen E2.T h 51 v = some (.int .i64 n) ∧ alen E2.T h 54 v = some (.int .i64 n)
theorem small_ok (h : AH) (v0 v1 v2 v3 v4 : Value) (h2 : SliceV v2) (h4 : SliceV v4) (b : Nat) (hb : ∀ i, i < 5 → h.ld b i = [v0, v1, v2, v3, v4][i]?) :
    Ab.Sem Tryz.prog 15 [.slice (some ⟨b, 0, none⟩) 1 1] h fun e h' => (∃ r, e = .ret (.bool r)) ∧ h' = h := by
  obtain ⟨n2, g2⟩ := h2
  obtain ⟨n4, g4⟩ := h4
  have e2 := hb 2 (by decide)
  have e4 := hb 4 (by decide)
  simp only [List.getElem?_cons_succ, List.getElem?_cons_zero] at e2 e4
  refine Sem.of_code ok2 hm (cr := []) Tryz.func15 (c := c15) rfl k15 (Wk.enter (n := 29) rfl (by simp)) ?_
  rw [wpC_start]
  simp -implicitDefEqProofs only [c15, Tryz.f15, go_sem, ↓reduceIte, Nat.reduceLT, Nat.reduceEqDiff, Nat.reduceAdd, Nat.reduceMul, Nat.reduceLeDiff, decide_true, decide_false, Int.cast_ofNat_Int, Int.reduceEq, Int.reduceLT, Int.reduceLE, Bool.not_true, Bool.not_false, Nat.zero_add, Nat.add_zero, Nat.zero_mul, List.map_cons, List.map_nil, List.length_cons, List.length_nil, List.getElem?_cons_zero, List.getElem?_cons_succ]
  refine SemC.loop ok2 hm (cr := []) (by kernel_rfl) (I := fun m a h' => h' = h ∧ ((m = 1 ∧ a = ⟨S 29 [(0, .slice (some ⟨b, 0, none⟩) 1 1), (3, .int .i64 0)], 29, []⟩) ∨ (m = 0 ∧ a = ⟨S 29 [(0, .slice (some ⟨b, 0, none⟩) 1 1), (3, .int .i64 1)], 29, []⟩))) ?_ (m0 := 1) (Wk.of ?_ ?_) ⟨rfl, .inl ⟨rfl, rfl⟩⟩
  rotate_left
  · simp [lk, lkv]
  · simp
  rintro m a h' ⟨rfl, ⟨rfl, rfl⟩ | ⟨rfl, rfl⟩⟩
  · rw [wpC_start]
    have ix := E2_ia62 (i := 0) (n := 1) (by decide) b 0 1 .i64
    simp -implicitDefEqProofs only [go_sem, ↓reduceIte, Nat.reduceLT, Nat.reduceEqDiff, Nat.reduceAdd, Nat.reduceMul, Nat.reduceLeDiff, decide_true, decide_false, Int.cast_ofNat_Int, Int.reduceEq, Int.reduceLT, Int.reduceLE, Bool.not_true, Bool.not_false, Nat.zero_add, Nat.add_zero, Nat.zero_mul, List.map_cons, List.map_nil, List.length_cons, List.length_nil, List.getElem?_cons_zero, List.getElem?_cons_succ]
    simp -implicitDefEqProofs only [go_sem, ↓reduceIte, Nat.reduceLT, Nat.reduceEqDiff, Nat.reduceAdd, Nat.reduceMul, Nat.reduceLeDiff, decide_true, decide_false, Int.cast_ofNat_Int, Int.reduceEq, Int.reduceLT, Int.reduceLE, Bool.not_true, Bool.not_false, Nat.zero_add, Nat.add_zero, Nat.zero_mul, List.map_cons, List.map_nil, List.length_cons, List.length_nil, List.getElem?_cons_zero, List.getElem?_cons_succ, show aindexA E2.T 62 (.slice (some ⟨b, 0, none⟩) 1 1) (.int .i64 0) = some (.pointer (some ⟨b, 0, none⟩)) from ix, e2, e4, (g2 _).2, (g4 _).1]
    have fin : ∀ l : List (Nat × Value), lkv 29 l 0 = .slice (some ⟨b, 0, none⟩) 1 1 → lkv 29 l 3 = .int .i64 (IntKind.i64.wrap (0 + 1)) → (∀ p ∈ l, p.1 < 29) → Wk ⟨S 29 l, 29, []⟩ ⟨S 29 [(0, .slice (some ⟨b, 0, none⟩) 1 1), (3, .int .i64 1)], 29, []⟩ := fun l h0 h3 hl =>
      Wk.of (fun p hp hk => by
        simp only [List.mem_cons, List.not_mem_nil, or_false] at hp
        rcases hp with rfl | rfl
        · exact h0
        · exact h3) hl
    refine gW_split (fun hb => ?_) (fun hb => ?_)
    · simp -implicitDefEqProofs only [hb, go_sem, ↓reduceIte, Nat.reduceLT, Nat.reduceEqDiff, Nat.reduceAdd, Nat.reduceMul, Nat.reduceLeDiff, decide_true, decide_false, Int.cast_ofNat_Int, Int.reduceEq, Int.reduceLT, Int.reduceLE, Bool.not_true, Bool.not_false, Nat.zero_add, Nat.add_zero, Nat.zero_mul, List.map_cons, List.map_nil, List.length_cons, List.length_nil, List.getElem?_cons_zero, List.getElem?_cons_succ]
      exact ⟨trivial, _, rfl, ⟨false, rfl⟩, trivial⟩
    · simp -implicitDefEqProofs only [hb, go_sem, ↓reduceIte, Nat.reduceLT, Nat.reduceEqDiff, Nat.reduceAdd, Nat.reduceMul, Nat.reduceLeDiff, decide_true, decide_false, Int.cast_ofNat_Int, Int.reduceEq, Int.reduceLT, Int.reduceLE, Bool.not_true, Bool.not_false, Nat.zero_add, Nat.add_zero, Nat.zero_mul, List.map_cons, List.map_nil, List.length_cons, List.length_nil, List.getElem?_cons_zero, List.getElem?_cons_succ, show aindexA E2.T 62 (.slice (some ⟨b, 0, none⟩) 1 1) (.int .i64 0) = some (.pointer (some ⟨b, 0, none⟩)) from ix, e2, e4, (g2 _).2, (g4 _).1]
      refine condR_split (fun hc => ?_) (fun hc => ?_)
      · simp -implicitDefEqProofs only [go_sem, ↓reduceIte, Nat.reduceLT, Nat.reduceEqDiff, Nat.reduceAdd, Nat.reduceMul, Nat.reduceLeDiff, decide_true, decide_false, Int.cast_ofNat_Int, Int.reduceEq, Int.reduceLT, Int.reduceLE, Bool.not_true, Bool.not_false, Nat.zero_add, Nat.add_zero, Nat.zero_mul, List.map_cons, List.map_nil, List.length_cons, List.length_nil, List.getElem?_cons_zero, List.getElem?_cons_succ]
        exact ⟨trivial, _, rfl, ⟨false, rfl⟩, trivial⟩
      · simp -implicitDefEqProofs only [go_sem, ↓reduceIte, Nat.reduceLT, Nat.reduceEqDiff, Nat.reduceAdd, Nat.reduceMul, Nat.reduceLeDiff, decide_true, decide_false, Int.cast_ofNat_Int, Int.reduceEq, Int.reduceLT, Int.reduceLE, Bool.not_true, Bool.not_false, Nat.zero_add, Nat.add_zero, Nat.zero_mul, List.map_cons, List.map_nil, List.length_cons, List.length_nil, List.getElem?_cons_zero, List.getElem?_cons_succ]
        refine ⟨0, by decide, _, fin _ (by simp [lkv]) (by simp [lkv]) (by simp), rfl, .inr ⟨rfl, rfl⟩⟩
  · rw [wpC_start]
    simp -implicitDefEqProofs only [go_sem, ↓reduceIte, Nat.reduceLT, Nat.reduceEqDiff, Nat.reduceAdd, Nat.reduceMul, Nat.reduceLeDiff, decide_true, decide_false, Int.cast_ofNat_Int, Int.reduceEq, Int.reduceLT, Int.reduceLE, Bool.not_true, Bool.not_false, Nat.zero_add, Nat.add_zero, Nat.zero_mul, List.map_cons, List.map_nil, List.length_cons, List.length_nil, List.getElem?_cons_zero, List.getElem?_cons_succ]
    exact ⟨trivial, _, rfl, ⟨true, rfl⟩, trivial⟩
