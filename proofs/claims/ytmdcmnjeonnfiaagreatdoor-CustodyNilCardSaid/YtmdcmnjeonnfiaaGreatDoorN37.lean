import Derived.Test.YtmdcmnjeonnfiaaGreatDoorProg
import Derived.Test.YtmdcmnjeonnfiaaGreatDoorAbT
import Derived.BigRegion
import Derived.Laws.MakeOwn
import Derived.WalkKit
import Derived.WalkSpells
import Derived.WalkLawsBesides
set_option linter.unusedSimpArgs false
set_option linter.unusedVariables false
open Go Go.Proofs Go.RowKit
set_option maxHeartbeats 4000000
theorem u121 : Tryz.prog.underlying 121 = some (.slice 126) := by kernel_rfl
noncomputable def i126 : TypeInfo := match Tryz.prog.info? 126 with | some i => i | none => default
theorem h126 : Tryz.prog.info? 126 = some i126 := by kernel_rfl
noncomputable def z126 : Value := match i126.zero with | some z => z | none => undef
theorem hz126 : i126.zero = some z126 := by kernel_rfl
theorem hs126 : i126.size = 64 := by kernel_rfl
theorem hb126 : i126.bytes = 64 := by kernel_rfl
noncomputable def row64 : Array Value := madeCells z126.cells (64 * 64)
@[go_sem] theorem ms64 (w : World) : (Instr.makeSlice 121 (.int .i64 64) (.int .i64 64)).run Tryz.prog w = .ok (.slice (some ⟨w.heap.size, 0, none⟩) 64 64) (w.alloc (.cells row64 126)) := by
  have := run_makeSlice (P := Tryz.prog) (w := w) 121 126 i126 z126 u121 h126 hz126 .i64 .i64 64 64 (by decide) (by decide) (by rw [hs126]; decide) (by rw [hb126]; decide) (by decide)
  rw [hs126] at this
  exact this
/-- The disk's row, its two rows of cells told. -/
def diskCells (b1 b2 : Nat) : Array Value := #[.slice (some ⟨b1, 0, none⟩) 64 64, .slice (some ⟨b2, 0, none⟩) 64 64, .slice none 0 0, .bool false, .bool false, .int .i64 0]
theorem n37 (w : World) : Calls Tryz.prog 37 #[.int .i64 64] w fun e w' => e = .returned (.tuple #[.pointer (some ⟨w.heap.size + 1 + 1, 0, none⟩), .int .i64 0]) ∧
    ∃ b1 b2, ((b1 = w.heap.size ∧ b2 = w.heap.size + 1) ∨ (b1 = w.heap.size + 1 ∧ b2 = w.heap.size)) ∧ w' = (((w.alloc (.cells row64 126)).alloc (.cells row64 126)).alloc (.cells (diskCells b1 b2) 124)).drew := by
  go_enter Tryz.func37, Tryz.ntmps37
  go_wp2
  go_region
  · go_wp2
    go_ret2
    exact ⟨rfl, _, _, .inl ⟨rfl, rfl⟩, rfl⟩
  · go_wp2
    go_ret2
    exact ⟨rfl, _, _, .inr ⟨rfl, rfl⟩, rfl⟩

open Go.Ab
noncomputable def aRow : AObj := .cells (PT.ofL row64.toList) row64.size 126 false
def aDisk (n : Nat) : List Value := [.slice (some ⟨n, 0, none⟩) 64 64, .slice (some ⟨n + 1, 0, none⟩) 64 64, .slice none 0 0, .bool false, .bool false, .int .i64 0]
noncomputable def sumDisk (h : AH) : Option (AEnd × AH) := some (.ret (.tuple ⟨[.pointer (some ⟨h.next + 2, 0, none⟩), .int .i64 0]⟩), ((h.new aRow).new aRow).new (.cells (PT.ofL (aDisk h.next)) 6 124 false))
theorem zc_size : z126.cells.size = 64 := by kernel_rfl
theorem zc_plain : z126.cells.toList.all plain1 = true := by kernel_rfl
theorem size64 : row64.size = 4096 := size_madeCells _ _
theorem all_made (z : Array Value) (n : Nat) (h0 : 0 < z.size) (hz : z.toList.all plain1 = true) : (madeCells z n).toList.all plain1 = true := by
  refine List.all_eq_true.2 fun v hv => ?_
  simp only [madeCells, Array.toList_map, List.mem_map] at hv
  obtain ⟨i, _, rfl⟩ := hv
  have hlt : i % z.size < z.size := Nat.mod_lt _ h0
  rw [getElem!_pos z _ hlt]
  exact List.all_eq_true.1 hz _ (by simp)
theorem plain64 : row64.toList.all plain1 = true := all_made _ _ (by rw [zc_size]; decide) zc_plain
theorem cells126 : Tryz.prog.cellsOf 126 = 64 := by kernel_rfl
theorem cells124 : Tryz.prog.cellsOf 124 = 6 := by kernel_rfl
theorem sumDisk_ok {μ : Mp} {h : AH} {W : World} (s : Sim Tryz.prog μ h W) {e : AEnd} {h' : AH} (hr : sumDisk h = some (e, h')) :
    Calls Tryz.prog 37 #[.int .i64 64] W fun end' W' => ∃ μ', EndRel μ' e end' ∧ Sim Tryz.prog μ' h' W' ∧ Stp μ μ' h h' W W' := by
  cases hr
  refine Calls.mono (n37 W) fun end' W' hp => ?_
  obtain ⟨rfl, b1, b2, hb, rfl⟩ := hp
  have hO : ∀ μ', Sub μ μ' → ORel Tryz.prog μ' (4096, 64) aRow (.cells row64 126 (0, 0)) := fun μ' _ =>
    ⟨row64, (0, 0), rfl, Nat.le_refl _, (fun i v hi hg => by
      rw [PT.get_ofL] at hg
      refine ⟨v, by rw [← Array.getElem?_toList]; exact hg, .of_plain1 ?_⟩
      exact List.all_eq_true.1 plain64 v (List.mem_of_getElem? hg)), (fun _ o _ => by simp), by rw [size64, cells126]⟩
  obtain ⟨μ', s', st', hm⟩ := three_ok s (o := aRow) (o3 := .cells (PT.ofL (aDisk h.next)) 6 124 false) (O := .cells row64 126 (0, 0)) (O3 := fun b1 b2 => .cells (diskCells b1 b2) 124 (0, 0)) (z := (4096, 64)) (z3 := (6, 6)) (b1 := b1) (b2 := b2)
    (W' := (((W.alloc (.cells row64 126)).alloc (.cells row64 126)).alloc (.cells (diskCells b1 b2) 124)).drew) hb rfl rfl rfl rfl hO
    (fun μ' g1 g2 => ⟨diskCells b1 b2, (0, 0), rfl, Nat.le_refl _, (fun i v hi hg => by
      rw [PT.get_ofL] at hg
      have hvl : VL μ' (aDisk h.next) (diskCells b1 b2).toList := by
        refine .cons (.slice g1 (Nat.le_refl _) (Nat.le_refl _) (.inl rfl)) (.cons (.slice g2 (Nat.le_refl _) (Nat.le_refl _) (.inl rfl)) (.cons .nils (.cons (.bool _) (.cons (.bool _) (.cons (.int _ _) .nil)))))
      obtain ⟨v', q1, q2⟩ := hvl.get i v hg
      exact ⟨v', by rw [← Array.getElem?_toList]; exact q1, q2⟩), (fun _ o _ => by simp), by rw [cells124]; rfl⟩)
  exact ⟨μ', .tuple (.cons (.ptr hm) (.cons (.int _ _) .nil)), s', st'⟩

def is0 : Value → Bool
  | .int .u8 0 => true
  | _ => false
theorem is0_eq {v : Value} (h : is0 v = true) : v = .int .u8 0 := by
  unfold is0 at h
  split at h
  · rfl
  · cases h
theorem zc_zero : z126.cells.toList.all is0 = true := by kernel_rfl
set_option maxRecDepth 100000 in
theorem row64_eq : row64.toList = List.replicate 4096 (.int .u8 0) := by
  refine List.eq_replicate_iff.2 ⟨by rw [Array.length_toList]; exact size64, fun v hv => ?_⟩
  simp only [row64, madeCells, Array.toList_map, List.mem_map] at hv
  obtain ⟨i, _, rfl⟩ := hv
  have hlt : i % z126.cells.size < z126.cells.size := Nat.mod_lt _ (by rw [zc_size]; decide)
  rw [getElem!_pos z126.cells _ hlt]
  exact is0_eq (List.all_eq_true.1 zc_zero _ (by simp))
noncomputable def aRow2 : AObj := .cells (PT.ofL (List.replicate 4096 (.int .u8 0))) 4096 126 false
noncomputable def sumDisk2 (h : AH) : Option (AEnd × AH) := some (.ret (.tuple ⟨[.pointer (some ⟨h.next + 2, 0, none⟩), .int .i64 0]⟩), ((h.new aRow2).new aRow2).new (.cells (PT.ofL (aDisk h.next)) 6 124 false))
theorem sumDisk2_eq (h : AH) : sumDisk2 h = sumDisk h := by
  unfold sumDisk2 sumDisk aRow2 aRow
  rw [row64_eq, size64]
