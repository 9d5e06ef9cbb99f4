import Derived.Test.YtmdcmnjeonnfiaaGreatDoorProg
import Derived.Test.YtmdcmnjeonnfiaaGreatDoorAbW
import Derived.Test.YtmdcmnjeonnfiaaGreatDoorN37
import Derived.Test.YtmdcmnjeonnfiaaGreatDoorV1
import Derived.KernelRfl
set_option linter.unusedSimpArgs false
set_option linter.unusedVariables false
open Go Go.Ab
set_option maxRecDepth 100000
noncomputable def fns : List Nat := [7, 11, 12, 13, 17, 19, 20, 21, 23, 26, 27, 33, 35, 38, 39, 43, 44, 45, 46, 47, 48, 49, 50, 51, 56, 57, 58, 59, 60, 61, 62, 66, 67, 68, 69, 71, 72, 73, 74, 82, 83, 84, 85, 86, 87, 88, 89, 90, 91, 93, 94, 95, 96, 97, 98, 99, 100, 101, 102, 103, 105, 106, 107, 109, 110, 111, 112, 113, 114, 115, 116, 117, 118, 119, 120, 121, 122, 123, 125, 126, 127, 128, 129, 130, 131, 132, 133, 134, 135, 136, 137, 138, 139, 140, 141, 142, 143, 144, 145, 146, 147, 148, 149, 150, 151, 152, 153, 154, 155, 156, 157, 158, 159, 160, 161, 162, 163, 164, 165, 166, 167, 168, 169, 170, 171, 172, 173, 174, 175, 176, 177, 178, 179, 180, 181, 182, 183, 184, 185]
noncomputable def crits : List (Nat × Crit) := [(19, [(13, [(4, 8)])]), (43, [(7, [(10, 7), (10, 6)])]), (45, [(2, [(2, 26), (2, 25), (1, 25), (2, 10), (1, 10), (0, 10), (2, 6), (1, 6), (0, 6)])]), (48, [(2, [(3, 5)])]), (62, [(10, [(7, 9), (5, 9), (3, 9)]), (14, [(1, 12)]), (17, [(2, 12), (9, 11), (5, 11), (2, 11)]), (27, [(2, 11)]), (38, [(4, 7)])]), (86, [(1, [(3, 6), (3, 5)])]), (89, [(6, [(10, 7), (10, 6)])]), (93, [(5, [(7, 10)])]), (151, [(0, [(13, 8), (12, 8)])]), (154, [(1, [(3, 2)])]), (155, [(1, [(3, 2)])])]
noncomputable def exts : List (Nat × Nat × Nat) := [(166,1,0),(167,4,5),(180,2,0)]
noncomputable def E0 : Env := mkEnv Go.Proofs.Tryz.prog fns [37, 124] [126] exts crits
theorem he : ∀ t ∈ [126], Go.Proofs.Tryz.prog.eqGuardType Go.Proofs.Tryz.prog.depth t = false ∧ Go.Proofs.Tryz.prog.stoodInHeld t = false := by
  intro t ht
  simp only [List.mem_singleton] at ht
  subst ht
  exact ⟨by kernel_rfl, by kernel_rfl⟩
noncomputable def nameOk (f : Nat) : Bool := match Go.Proofs.Tryz.prog.funcs[f]? with
  | some fn => !(fn.name == "runtime.NumGoroutine")
  | none => true
theorem hf0 : (fns ++ [37, 124]).all nameOk = true := by kernel_rfl
theorem hf : ∀ f ∈ fns ++ [37, 124], ∀ fn, Go.Proofs.Tryz.prog.funcs[f]? = some fn → fn.name ≠ "runtime.NumGoroutine" := by
  intro f hf fn h e
  have := List.all_eq_true.1 hf0 f hf
  unfold nameOk at this
  rw [h] at this
  dsimp only at this
  rw [e] at this
  simp at this
theorem hm : Go.Proofs.Tryz.prog.follows .mixedOrders = true := by kernel_rfl
theorem hx : ∀ f code, (f, code) ∈ exts → extIs Go.Proofs.Tryz.prog f code := by
  intro f code h
  simp only [exts, List.mem_cons, List.not_mem_nil, or_false, Prod.mk.injEq] at h
  rcases h with ⟨rfl, rfl⟩ | ⟨rfl, rfl⟩ | ⟨rfl, rfl⟩
  · exact ⟨_, rfl, by kernel_rfl, by kernel_rfl, by kernel_rfl, (fun _ => by kernel_rfl), (fun e => by cases e), (fun e => by cases e), (fun e => by cases e)⟩
  · exact ⟨_, rfl, by kernel_rfl, by kernel_rfl, by kernel_rfl, (fun e => by cases e), (fun e => by cases e), (fun e => by cases e), (fun _ => ⟨#[3], #[54], 54, by kernel_rfl, by kernel_rfl, by kernel_rfl, by kernel_rfl⟩)⟩
  · exact ⟨_, rfl, by kernel_rfl, by kernel_rfl, by kernel_rfl, (fun e => by cases e), (fun _ => by kernel_rfl), (fun e => by cases e), (fun e => by cases e)⟩

theorem ok0 : EnvOk Go.Proofs.Tryz.prog E0 := mkEnv_ok (info_types _) hf he hx
noncomputable def isInt64 : List Value → Bool
  | [.int .i64 (.ofNat 64)] => true
  | _ => false
noncomputable def one127 : List Value → Option Nat
  | [.slice none 0 0, .func (.func 127) ⟨[]⟩ ⟨[.pointer (some ⟨b, 0, none⟩)]⟩] => some b
  | _ => none
noncomputable def sum0 : ACall := fun f args h => match Nat.beq f 37 with
  | true => match isInt64 args with
    | true => sumDisk2 h
    | false => none
  | false => match Nat.beq f 124 with
    | true => match one127 args with
      | some b => Go.Proofs.sumOne h b
      | none => none
    | false => none
theorem one127_eq {args : List Value} {b : Nat} (h : one127 args = some b) : args = [.slice none 0 0, .func (.func 127) ⟨[]⟩ ⟨[.pointer (some ⟨b, 0, none⟩)]⟩] := by
  unfold one127 at h
  split at h
  · cases h; rfl
  · cases h
theorem isInt64_eq {args : List Value} (h : isInt64 args = true) : args = [.int .i64 64] := by
  unfold isInt64 at h
  split at h
  · rfl
  · cases h
theorem sum0_ok : CallOk Go.Proofs.Tryz.prog sum0 := by
  intro f args h e h' hr μ W args' s hx
  unfold sum0 at hr
  split at hr
  · rename_i hf
    have hf := Nat.eq_of_beq_eq_true hf
    subst hf
    split at hr
    · rename_i hi
      have hi := isInt64_eq hi
      subst hi
      obtain ⟨l⟩ := args'
      cases hx with | @cons _ v1 _ r1 p1 q1 =>
      cases q1
      cases p1
      rw [sumDisk2_eq] at hr
      exact sumDisk_ok s hr
    · cases hr
  · split at hr
    · rename_i hf
      have hf := Nat.eq_of_beq_eq_true hf
      subst hf
      split at hr
      · rename_i b hi
        have hi := one127_eq hi
        subst hi
        exact Go.Proofs.sumOne_ok s rfl hx hr
      · cases hr
    · cases hr
