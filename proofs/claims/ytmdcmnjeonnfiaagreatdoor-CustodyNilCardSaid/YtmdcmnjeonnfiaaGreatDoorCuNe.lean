/- CustodyNil of package restantelaw07 returns true for every input: its card, tied, is proved. Conditions: none but the card's own. -/
import Derived.Test.YtmdcmnjeonnfiaaGreatDoorCuNd
import Derived.Test.YtmdcmnjeonnfiaaGreatDoorTie
import Derived.Test.YtmdcmnjeonnfiaaGreatDoorCards
import Derived.ProofKit
import Derived.LaidMore
import Derived.OpenShut
import Derived.Stop.Joined
import Derived.SevenTiedAt
set_option linter.unusedSimpArgs false
set_option linter.unusedVariables false
namespace Go.Proofs.YtmdcmnjeonnfiaaGreatDoor
open Go Go.Ab Go.ChangeShapes Go.WideShapes Go.RowKit
set_option maxRecDepth 100000
set_option maxHeartbeats 4000000
theorem own : ownKnob Tryz.prog.godebug = none := by kernel_rfl
theorem lout : laidOutB Tryz.prog = true := by kernel_rfl
theorem door_met (os : Os) (args : Array Value) : laidMetH Tryz.prog Rows.custodyNilRow.laid ((World.doorLaid Tryz.prog 400 os).forCall (fun _ _ => 0) ⟨#[], args, []⟩).memory :=
  laidMetH_of_parts3 (fuel := 8) (laidMet_of_run' 8 (by kernel_rfl) (by kernel_rfl)) (by kernel_rfl) (by kernel_rfl)
theorem lf53 : leafs Tryz.prog 6 53 = some [.int .u8, .int .i64, .str, .sl 3, .int .i64, .int .i64, .str, .str, .sl 3] := by kernel_rfl
theorem lf56 : leafs Tryz.prog 6 56 = some [.int .u8, .int .i64, .sl 5, .int .i64, .sl 3] := by kernel_rfl
theorem lf58 : leafs Tryz.prog 6 58 = some [.int .u8, .int .i64, .int .i64, .int .i64, .str] := by kernel_rfl
theorem slice_leaf {W : World} {R : TypeId → List Value → Prop} {e : TypeId} (he : 0 < Tryz.prog.cellsOf e) {v : Value} (h : LeafOk Tryz.prog W R (.sl e) v) : SliceV (emV W.heap.size v) ∧ one (emV W.heap.size v) = true := by
  rcases emV_slice he h with h | h | ⟨b, o, n, c, _, h, _⟩ <;> rw [h]
  · exact ⟨⟨0, fun h => ⟨E2_len51 h _ _ _, E2_len54 h _ _ _⟩⟩, rfl⟩
  · exact ⟨⟨0, fun h => ⟨E2_len51 h _ _ _, E2_len54 h _ _ _⟩⟩, rfl⟩
  · exact ⟨⟨n, fun h => ⟨E2_len51 h _ _ _, E2_len54 h _ _ _⟩⟩, rfl⟩
theorem struct_arg {P : Program} {W : World} {r : Reach} {b : Nat} {t : TypeId} {v : Value} {fs : Array Field} (hu : P.underlying t = some (.struct fs)) (h : Value.okWide P W r b t v) : ∃ cs, v = .agg cs := by
  unfold Value.okWide at h
  rw [hu] at h
  obtain ⟨cs, h, _⟩ := h
  exact ⟨cs, h⟩
def arg53 : Value := .agg #[.int .u8 0, .int .i64 0, .string ByteArray.empty, .slice none 0 0, .int .i64 0, .int .i64 0, .string ByteArray.empty, .string ByteArray.empty, .slice none 0 0]
def arg56 : Value := .agg #[.int .u8 0, .int .i64 0, .slice none 0 0, .int .i64 0, .slice none 0 0]
def arg58 : Value := .agg #[.int .u8 0, .int .i64 0, .int .i64 0, .int .i64 0, .string ByteArray.empty]
theorem nil_lifted (os : Os) (started : os.Started) (H : Type) (enc : TypeId × Value → H) :
    ReturnsInHanded {} Tryz.checked os 5 .any (fun w args => (Rows.custodyNilSpec.pre enc Tryz.prog Tryz.f5 [] false w args ∧ laidMetH Tryz.prog Rows.custodyNilRow.laid w) ∧ sizedMet enc Tryz.prog Tryz.f5 (OpenSpec.ofChange Rows.custodyNilSpec) false w args)
      (Rows.custodyNilSpec.post enc Tryz.prog Tryz.f5 false true false false) := by
  refine returnsInHanded_of_change_and (C := Tryz.checked) (X := fun w _ => laidMetH Tryz.prog Rows.custodyNilRow.laid w) (fun _ _ _ hh h => h.of_heap hh) own started (by kernel_rfl) Tryz.func5
    (ChangeSpec.witness_shaped (enc := enc) (C := Tryz.checked) (os := os) (X := fun w _ => laidMetH Tryz.prog Rows.custodyNilRow.laid w) false (World.doorLaid Tryz.prog 400 os) #[arg53, arg56, arg58] 8 rfl (World.shaped_of_RefB (by kernel_rfl) (by kernel_rfl)) (by kernel_rfl) (by kernel_rfl) (by kernel_rfl) (door_met os _)) ?_
  intro W base args ds gs before hval0 hW _ _ _ _
  have hval : ∀ (j : Nat) t v, Tryz.f5.params[j]? = some t → args[j]? = some v → Value.okWide Tryz.prog W .any base t v := hval0
  have hW' := hW
  obtain ⟨p, q, hA0, hV, rfl, hfz, hnd⟩ := hW
  have hA : DataW.TrodAll enc Tryz.prog W 0 (fun _ => true) true Tryz.f5.params.toList args.toList ds p := hA0
  rw [Tryz.params5] at hA hval
  obtain ⟨v0, v1, v2, d0, d1, d2, p0, p1, p2, rfl, rfl, rfl, h0, h1, h2⟩ := trodAll_three hA
  obtain ⟨cs0, rfl⟩ := struct_arg Tryz.underlying53 (hval 0 53 v0 rfl rfl)
  obtain ⟨cs1, rfl⟩ := struct_arg Tryz.underlying56 (hval 1 56 v1 rfl rfl)
  obtain ⟨cs2, rfl⟩ := struct_arg Tryz.underlying58 (hval 2 58 v2 rfl rfl)
  have hcalls : Calls Tryz.prog 5 #[.agg cs0, .agg cs1, .agg cs2] W fun e W' => e = .returned (.bool true) ∧ RowKit.Below W.heap.size W W' := by
    refine emb_calls ?_
    obtain ⟨fu0, t0⟩ := h0
    obtain ⟨fu1, t1⟩ := h1
    obtain ⟨fu2, t2⟩ := h2
    have g0 := leafs_ok 6 53 _ lf53 _ _ _ t0
    have g1 := leafs_ok 6 56 _ lf56 _ _ _ t1
    have g2 := leafs_ok 6 58 _ lf58 _ _ _ t2
    have hc : ∀ cs : Array Value, (Value.agg cs).cells.toList = cs.toList := fun _ => rfl
    rw [hc] at g0 g1 g2
    obtain ⟨a0, r0, e0, ⟨k, rfl, _⟩, g0x1⟩ := g0.cons_inv
    obtain ⟨a1, r1, rfl, ⟨id, rfl, _⟩, g0x2⟩ := g0x1.cons_inv
    obtain ⟨a2, r2, rfl, ⟨body, rfl, _⟩, g0x3⟩ := g0x2.cons_inv
    obtain ⟨a3, r3, rfl, l3, g0x4⟩ := g0x3.cons_inv
    obtain ⟨a4, r4, rfl, ⟨to, rfl, _⟩, g0x5⟩ := g0x4.cons_inv
    obtain ⟨a5, r5, rfl, ⟨n, rfl, _⟩, g0x6⟩ := g0x5.cons_inv
    obtain ⟨a6, r6, rfl, ⟨text, rfl, _⟩, g0x7⟩ := g0x6.cons_inv
    obtain ⟨a7, r7, rfl, ⟨note, rfl, _⟩, g0x8⟩ := g0x7.cons_inv
    obtain ⟨a8, r8, rfl, l8, g0x9⟩ := g0x8.cons_inv
    obtain rfl := g0x9.nil_inv
    obtain ⟨b0, s0, e1, ⟨k2, rfl, _⟩, g1x10⟩ := g1.cons_inv
    obtain ⟨b1, s1, rfl, ⟨sector, rfl, _⟩, g1x11⟩ := g1x10.cons_inv
    obtain ⟨b2, s2, rfl, m2, g1x12⟩ := g1x11.cons_inv
    obtain ⟨b3, s3, rfl, ⟨n2, rfl, _⟩, g1x13⟩ := g1x12.cons_inv
    obtain ⟨b4, s4, rfl, m4, g1x14⟩ := g1x13.cons_inv
    obtain rfl := g1x14.nil_inv
    obtain ⟨c0, u0, e2, ⟨k3, rfl, _⟩, g2x15⟩ := g2.cons_inv
    obtain ⟨c1, u1, rfl, ⟨from3, rfl, _⟩, g2x16⟩ := g2x15.cons_inv
    obtain ⟨c2, u2, rfl, ⟨to3, rfl, _⟩, g2x17⟩ := g2x16.cons_inv
    obtain ⟨c3, u3, rfl, ⟨index3, rfl, _⟩, g2x18⟩ := g2x17.cons_inv
    obtain ⟨c4, u4, rfl, ⟨text3, rfl, _⟩, g2x19⟩ := g2x18.cons_inv
    obtain rfl := g2x19.nil_inv
    obtain ⟨x1, x2⟩ := slice_leaf (by rw [E2_c3]; decide) l3
    obtain ⟨x3, x4⟩ := slice_leaf (by rw [E2_c3]; decide) l8
    obtain ⟨x5, x6⟩ := slice_leaf (by rw [E2_c5]; decide) m2
    obtain ⟨x7, x8⟩ := slice_leaf (by rw [E2_c3]; decide) m4
    have hf := nil_ok k id body _ to n text note _ k2 sector _ n2 _ k3 from3 to3 index3 text3 x2 x4 x1 x3 x5 x7 x6 x8 (emb W)
    have ee : (#[Value.agg cs0, Value.agg cs1, Value.agg cs2].toList.map (emA W.heap.size)) = [.agg ⟨opCells k id body (emV W.heap.size a3) to n text note (emV W.heap.size a8)⟩, .agg ⟨dskCells k2 sector (emV W.heap.size b2) n2 (emV W.heap.size b4)⟩, .agg ⟨netCells k3 from3 to3 index3 text3⟩] := by
      simp only [List.map_cons, List.map_nil, emA, e0, e1, e2, emV]
      rfl
    rw [ee]
    exact hf
  refine hcalls.mono fun e W' ⟨he, hb⟩ => ?_
  subst he
  have hgs : gs = [] := by cases gs with
    | nil => rfl
    | cons g r => exact hV.elim
  subst hgs
  exact ⟨_, rfl, law_post lout (by kernel_rfl) rfl rfl Tryz.underlying4 rfl rfl rfl hW' hb⟩
theorem nil_said : Rows.CustodyNilSaid :=
  OpenClaim.holds_of_wide 5 Tryz.f5 rfl rfl rfl rfl rfl rfl rfl ⟨rfl, rfl, rfl, rfl, rfl⟩ rfl rfl rfl rfl rfl (by kernel_rfl) Tryz.func5 (by kernel_rfl)
    (of_decide_eq_true (by kernel_rfl)) (by unfold Func.isWrapper; rw [if_neg (of_decide_eq_false (by kernel_rfl))]; exact ⟨rfl, rfl⟩)
    (fun os started H enc _ => nil_lifted os started H enc)
theorem custodyNil_holds : Rows.CustodyNilCardSaid :=
  Claim7.holds_tied_plain_at .later [] [.data, .data, .data, .sentinel, .sentinel] true Rows.custodyNilCard.stood.harness true
    nil_said (fun _ h => by cases h) (by kernel_rfl) (fun _ h => by cases h) custodyNil_row_tie rfl ⟨rfl, rfl⟩ (by kernel_rfl) rfl
    (fun f fn hf hfn => by
      obtain rfl : f = 5 := Option.some.inj ((show Tryz.prog.funcNamed Rows.custodyNilRow.func = some 5 by kernel_rfl).symm.trans hf) |>.symm
      obtain rfl : fn = Tryz.f5 := (Option.some.inj (Tryz.func5.symm.trans hfn)).symm
      exact ⟨by kernel_rfl, fun j t ht => by
        rw [Tryz.params5] at ht
        have h3 : t = 53 ∨ t = 56 ∨ t = 58 := by
          rcases j with _ | _ | _ | j
          · left; simpa using ht.symm
          · right; left; simpa using ht.symm
          · right; right; simpa using ht.symm
          · simp at ht
        rcases h3 with rfl | rfl | rfl
        · exact (show Tryz.prog.wantsStandIn 53 = false by kernel_rfl)
        · exact (show Tryz.prog.wantsStandIn 56 = false by kernel_rfl)
        · exact (show Tryz.prog.wantsStandIn 58 = false by kernel_rfl)⟩)
    (by kernel_rfl)
#print axioms custodyNil_holds
end Go.Proofs.YtmdcmnjeonnfiaaGreatDoor
