import Derived.Test.YtmdcmnjeonnfiaaGreatDoorAbH
import Derived.Lib.ConvBytes
import Derived.Laws.LoneSync
import Derived.Lib.UnsafeStr
import Derived.Laws.BytesString
set_option linter.unusedSimpArgs false
set_option linter.unusedVariables false
/-! Conversions, assertions, bytes behind pointers. -/
namespace Go.Ab
noncomputable section
section
variable {P : Program} {T : Tbl} (ok : TblOk P T) {μ : Mp} {h : AH} {W : World}

theorem vbyte_ok {v v' : Value} {b : UInt8} (hv : V μ v v') (h : vbyte v = some b) : v' = .int .u8 b.toNat := by
  unfold vbyte at h
  split at h
  · rename_i m
    split at h
    · rename_i hle
      cases h; cases hv
      have hle := Nat.le_of_ble_eq_true hle
      have : (UInt8.ofNat m).toNat = m := by simp; omega
      rw [this]; rfl
    · cases h
  · cases h
theorem vbytes_ok : ∀ {l l' : List Value} {bs : List UInt8} (_ : VL μ l l') (_ : vbytes l = some bs), l' = bs.map (fun b => Value.int .u8 b.toNat)
  | _, _, _, .nil, h => by simp only [vbytes, Option.some.injEq] at h; subst h; rfl
  | _, _, _, .cons hv hr, h => by
    rw [vbytes] at h
    split at h
    · rename_i b bs hb hbs
      cases h
      rw [vbyte_ok hv hb, vbytes_ok hr hbs]; rfl
    · cases h
theorem abytes_ok (s : Sim P μ h W) {b b' o n : Nat} {z : Nat × Nat} (hb : μ b = some (b', z)) {bs : List UInt8} (ha : abytes h b o n = some bs) :
    bs.length = n ∧ ∀ j x, bs[j]? = some x → W.cell? ((⟨b', o, none⟩ : Addr).add j) = some (.int .u8 x.toNat) := by
  unfold abytes at ha
  split at ha
  · rename_i c N e fz ho
    split at ha
    · rename_i l hle hl
      have hle := Nat.le_of_ble_eq_true hle
      obtain ⟨C, fr, f1, f2, f3, f4, f5⟩ := s.cells hb ho
      obtain ⟨g1, g2⟩ := Sim.row f3 f2 hl hle
      have hm := vbytes_ok g1 ha
      have hlen : bs.length = n := by rw [← g2, hm]; simp
      refine ⟨hlen, fun j x hj => ?_⟩
      have hjn : j < n := by rw [← hlen]; exact (List.getElem?_eq_some_iff.1 hj).1
      rw [addr_add, cell_of f1]
      have : ((C.toList.drop o).take n)[j]? = some (.int .u8 x.toNat) := by rw [hm]; simp [hj]
      rw [List.getElem?_take, if_pos hjn, List.getElem?_drop, Array.getElem?_toList] at this
      exact this
    · cases ha
  · cases ha

theorem push_bytes : ∀ (bs : List UInt8) (s : ByteArray), (bs.map (fun b => (b.toNat : Int))).foldl (fun r n => r.push (UInt8.ofNat n.toNat)) s = ⟨⟨s.data.toList ++ bs⟩⟩
  | [], s => by simp
  | b :: bs, s => by
    simp only [List.map_cons, List.foldl_cons]
    rw [push_bytes bs]
    simp [ByteArray.push]

include ok in
theorem convert_ok (s : Sim P μ h W) {src dst : TypeId} {x x' v : Value} {h' : AH} (hx : V μ x x') (ha : aconvert T h src dst x = some (v, h')) :
    h' = h ∧ ∃ v', (convert src dst x').run P W = .ok v' W ∧ V μ v v' := by
  unfold aconvert at ha
  split at ha
  · rename_i d k hs hd
    have hus := und_ok ok hs
    have hud := und_ok ok hd
    unfold cvInt at ha
    split at ha
    · cases ha; cases hx
      refine ⟨rfl, _, ?_, .int _ _⟩
      simp [convert, run_underlying hus, run_underlying hud, Conv.intToInt, fwrap_eq]
    · cases ha
  · rename_i hs hd
    have hus := und_ok ok hs
    have hud := und_ok ok hd
    unfold cvStr at ha
    split at ha
    · cases ha; cases hx
      refine ⟨rfl, _, ?_, .string _⟩
      simp [convert, run_underlying hus, run_underlying hud]
    · cases ha
  · rename_i e hs hd
    have hus := und_ok ok hs
    have hud := und_ok ok hd
    unfold cvBytes at ha
    split at ha
    · rename_i he
      have hue := und_ok ok he
      cases ha; cases hx
      refine ⟨rfl, _, ?_, .string _⟩
      simp [convert, run_underlying hus, run_underlying hud, run_underlying hue, Conv.bytesToString]
      try rfl
    · rename_i b o n c he
      have hue := und_ok ok he
      split at ha
      · rename_i bs hbs
        cases ha
        cases hx with | @slice _ b' _ _ _ c' sz0 k0 hb k1 k2 k3 =>
        obtain ⟨g1, g2⟩ := abytes_ok s hb hbs
        have hrl := run_loadCells_list (P := P) (w := W) ⟨b', o, none⟩ (bs.map fun b => Value.int .u8 b.toNat) (fun j v hj => by
          rw [List.getElem?_map] at hj
          cases hq : bs[j]? with
          | none => rw [hq] at hj; cases hj
          | some y => rw [hq] at hj; cases hj; exact g2 j y hq)
        rw [List.length_map, g1] at hrl
        have hrun := run_bytesToString (P := P) W ⟨b', o, none⟩ n c' (bs.map fun b => (b.toNat : Int)) (by rw [hrl]; simp)
        rw [push_bytes] at hrun
        refine ⟨rfl, _, ?_, .string _⟩
        simp [convert, run_underlying hus, run_underlying hud, run_underlying hue, hrun]
        try rfl
      · cases ha
    · cases ha
  · rename_i t hs hd
    have hus := und_ok ok hs
    have hud := und_ok ok hd
    unfold cvTo at ha
    split at ha
    · rename_i k b o hk
      split at ha
      · rename_i c n e fz ho
        split at ha
        · rename_i hlt
          have hlt : o < n := Nat.le_of_ble_eq_true hlt
          cases ha
          cases hx with | @ptr _ b' _ z hb =>
          obtain ⟨C, fr, f1, f2, f3, f4, f5⟩ := s.cells hb ho
          obtain ⟨i, i1, i2⟩ := info_of_size ok hk
          have hlt' : o < C.size := by omega
          refine ⟨rfl, _, run_convert_to_unsafe hus hud (by simp [i1, i2]) (v := C[o]) (by rw [cell_of f1]; simp [hlt']), .ptr hb⟩
        · cases ha
      · cases ha
    · cases ha
  · rename_i u hs hd
    have hus := und_ok ok hs
    have hud := und_ok ok hd
    unfold cvFrom at ha
    split at ha
    · rename_i k b hk
      split at ha
      · rename_i c n e fz ho
        split at ha
        · rename_i he hle
          cases ha
          have he := Nat.eq_of_beq_eq_true he
          have hle := Nat.le_of_ble_eq_true hle
          subst he
          cases hx with | @ptr _ b' _ z hb =>
          obtain ⟨C, fr, f1, f2, f3, f4, f5⟩ := s.cells hb ho
          have hce := (cellsOf_ok ok hk).1
          refine ⟨rfl, _, ?_, .ptr hb⟩
          have hsh := shape_of f1
          have hdiv : 1 ≤ C.size / P.cellsOf e := by
            rw [hce]; exact (Nat.le_div_iff_mul_le (by omega)).2 (by omega)
          have hd : P.depth = (P.depth - 1) + 1 := by unfold Program.depth; omega
          have hlies : liesAt P P.depth e (C.size / P.cellsOf e) 0 e 1 = true := by
            rw [hd]
            simp only [liesAt, Bool.or_eq_true]
            left
            rw [hd]
            simp [rowAt, hce, sameLayout]
            rw [hce] at hdiv
            exact .inl hdiv
          simp [convert, run_underlying hus, run_underlying hud, Conv.unsafePointer, Conv.seenAt, viewAt, hsh, size_ok ok hk, variablesAt, hlies]
        · cases ha
      · cases ha
    · cases ha
  · cases ha

include ok in
theorem convert2_ok (s : Sim P μ h W) {src dst : TypeId} {x x' v : Value} {h' : AH} (hx : V μ x x') (ha : aconvert2 T h src dst x = some (v, h')) :
    ∃ μ' v' W', (convert src dst x').run P W = .ok v' W' ∧ V μ' v v' ∧ Sim P μ' h' W' ∧ Stp μ μ' h h' W W' := by
  unfold aconvert2 at ha
  split at ha
  · rename_i e hs hd
    have hus := und_ok ok hs
    have hud := und_ok ok hd
    unfold cvToB at ha
    split at ha
    · rename_i st he hk
      have hue := und_ok ok he
      obtain ⟨k1, _⟩ := cellsOf_ok ok hk
      cases hx
      cases ha
      have hrun := Lib.run_convert_string_bytes (P := P) W src dst e st hus hud hue
      have hlen : (bcells st).length = st.size := by
        unfold bcells
        rw [List.length_map]
        rfl
      have hsz : (Lib.bytesCells W e st).size = grownCap W st.size 0 e := by
        have := grownCap_ge W st.size 0 e
        have h1 : st.data.size = st.size := rfl
        simp only [Lib.bytesCells, Array.size_append, Array.size_map, Array.size_replicate]
        omega
      have hge := grownCap_ge W st.size 0 e
      have hheap : (Lib.bytesWorld W e st).heap = W.heap.push (.cells (Lib.bytesCells W e st) e ((Lib.bytesCells W e st).size, (Lib.bytesCells W e st).size + 1)) := by
        apply Array.ext_getElem?
        intro j
        rw [Array.getElem?_push]
        by_cases h1 : j = W.heap.size
        · subst h1; rw [if_pos rfl]; exact Lib.bytesWorld_at_new W e st
        · rw [if_neg h1]
          rcases Nat.lt_or_gt_of_ne h1 with h2 | h2
          · exact Lib.bytesWorld_at_old W e st j h2
          · rw [Array.getElem?_eq_none (by rw [Lib.bytesWorld_size]; omega), Array.getElem?_eq_none (by omega)]
      have hcells : VL μ (bcells st) ((Lib.bytesCells W e st).toList.take (bcells st).length) := by
        have h1 : (Lib.bytesCells W e st).toList = bcells st ++ List.replicate (grownCap W st.size 0 e - st.size) (.int .u8 0) := by
          simp [Lib.bytesCells, bcells]
        rw [h1, List.take_left]
        have : ∀ l : List UInt8, VL μ (l.map fun b => Value.int .u8 b.toNat) (l.map fun b => Value.int .u8 b.toNat) := by
          intro l
          induction l with
          | nil => exact .nil
          | cons b l ih => exact .cons (.int _ _) ih
        exact this _
      obtain ⟨g1, g2⟩ := new_ok (P := P) s e hcells (by omega) ((Lib.bytesCells W e st).size, (Lib.bytesCells W e st).size + 1) (fun o ho => by simp; omega) (Lib.bytesWorld W e st) hheap (by unfold Lib.bytesWorld World.freeze; rfl) (by unfold Lib.bytesWorld World.freeze; rfl) (by unfold Lib.bytesWorld World.freeze; rfl)
      refine ⟨_, _, _, hrun, ?_, g1, g2⟩
      rw [hlen]
      exact V.slc (Nat.le_refl _) hge (.inr (by rw [hsz, k1]; omega))
    · cases ha
  · obtain ⟨rfl, v', g1, g2⟩ := convert_ok ok s hx ha
    exact ⟨μ, v', W, g1, g2, s, .refl _ _ _⟩

include ok in
theorem typeAssert_ok {x x' v : Value} {xt a : TypeId} {c : Bool} (hx : V μ x x') (ha : atypeAssert T x a c = some v) (W : World) : ∃ v', (Instr.typeAssert x' xt a c).run P W = .ok v' W ∧ V μ v v' := by
  unfold atypeAssert at ha
  split at ha
  · cases ha
  · rename_i d hnot hd
    have hud := und_ok ok hd
    split at ha
    · rename_i t u
      cases hx with | @iface _ _ u' hu =>
      split at ha
      · have hta : Nat.beq t a = true := by assumption
        have hta := Nat.eq_of_beq_eq_true hta
        subst hta
        cases ha
        refine ⟨.tuple #[u', .bool true], ?_, .tuple (.cons hu (.cons (.bool _) .nil))⟩
        unfold Instr.typeAssert
        cases d <;> first | (exact absurd rfl (hnot _)) | (simp [run_underlying hud])
      · have hta : Nat.beq t a = true := by assumption
        have hta := Nat.eq_of_beq_eq_true hta
        subst hta
        cases ha
        refine ⟨u', ?_, hu⟩
        unfold Instr.typeAssert
        cases d <;> first | (exact absurd rfl (hnot _)) | (simp [run_underlying hud])
      · rename_i z _ hz
        cases ha
        have hta : Nat.beq t a = false := by assumption
        have hne : t ≠ a := fun e => by rw [e, Nat.beq_refl] at hta; cases hta
        obtain ⟨iz, z1, z2, z3⟩ := zero_of ok hz
        refine ⟨.tuple #[z, .bool false], ?_, .tuple (.cons (.of_plain z3) (.cons (.bool _) .nil))⟩
        unfold Instr.typeAssert
        cases d <;> first | (exact absurd rfl (hnot _)) | (simp [run_underlying hud, hne, run_zeroValue' z1 z2])
      · cases ha
    · cases hx
      split at ha
      · rename_i z hz
        cases ha
        obtain ⟨iz, z1, z2, z3⟩ := zero_of ok hz
        refine ⟨.tuple #[z, .bool false], ?_, .tuple (.cons (.of_plain z3) (.cons (.bool _) .nil))⟩
        unfold Instr.typeAssert
        cases d <;> first | (exact absurd rfl (hnot _)) | (simp [run_underlying hud, run_zeroValue' z1 z2])
      · cases ha
    · cases ha
  · cases ha
end
end
end Go.Ab
