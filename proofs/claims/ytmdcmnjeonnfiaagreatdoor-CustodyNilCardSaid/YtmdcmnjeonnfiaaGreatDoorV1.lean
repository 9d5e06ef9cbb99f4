import Derived.Test.YtmdcmnjeonnfiaaGreatDoorProg
import Derived.Test.YtmdcmnjeonnfiaaGreatDoorAbU
import Derived.Test.YtmdcmnjeonnfiaaGreatDoorTryzPL
import Derived.WalkKit
import Derived.OwnWalkIn
import Derived.TacticsInMore
import Derived.RegionIn
import Derived.LoopIn
import Derived.LoopNIn
set_option linter.unusedSimpArgs false
set_option linter.unusedVariables false
namespace Go.Proofs
open Go Go.RowKit Go.Maps Go.Sort Go.Shelf
set_option maxHeartbeats 4000000
theorem vals1 (n : Nat) (hn : 1 ≤ n) (l Bm b o c : Nat) (x : Int) (J : List Int → World → Prop)
    (hY : ∀ pre x W, J pre W → pre.length < 1 → YieldAt Fence.wide (n - 1) Tryz.prog l #[encZ x] W fun e W' => e = .returned (.bool true) ∧ J (pre ++ [x]) W' ∧ KeepsWalks W W')
    (W : World) (hm : W.cell? ⟨Bm, 0, none⟩ = some (.slice (some ⟨b, o, none⟩) 1 c)) (hx : W.cell? ⟨b, o, none⟩ = some (.int .i64 x)) (h0 : J [] W) :
    CallsIn Fence.wide n Tryz.prog 127 #[.func (.yield l) #[] #[], .pointer (some ⟨Bm, 0, none⟩)] W fun e W' => (∃ v, e = .returned v) ∧ J [x] W' := by
  refine callsIn_of_wp Tryz.func127 rfl trivial ?_ rfl
  simp only [Tryz.ntmps127, List.size_toArray, List.length_cons, List.length_nil, Nat.reduceAdd, Nat.reduceSub, Array.replicate_succ, Array.replicate_zero, List.push_toArray, List.append_toArray, List.nil_append, List.cons_append]
  gi_wp2
  refine wpIn_loop_rounds 2 ?_
  rw [roundsIn_succ]
  obtain ⟨fn, tmps, assign, body, hy, hR⟩ := hY [] x W h0 (by decide)
  gi_wp2
  refine hR.mono ?_
  rintro e W3 ⟨rfl, hJ3, hk3⟩
  gi_wp2
  change Code.roundsIn _ _ _ _ _ _ _ _
  rw [roundsIn_succ]
  gi_wp2
  go_end0
  exact ⟨⟨_, rfl⟩, hJ3⟩

theorem app1 (W : World) (Bm b o c : Nat) (x : Int) (hm : W.cell? ⟨Bm, 0, none⟩ = some (.slice (some ⟨b, o, none⟩) 1 c)) (hx : W.cell? ⟨b, o, none⟩ = some (.int .i64 x)) (hBm : Bm < W.heap.size) (hb : b < W.heap.size) :
    Calls Tryz.prog 124 #[.slice none 0 0, .func (.func 127) #[] #[.pointer (some ⟨Bm, 0, none⟩)]] W fun e w' => ∃ v, e = .returned v ∧ w'.ownsRow W.heap.size 3 1 v 1 [.int .i64 x] ∧ Below W.heap.size W w' := by
  refine (callsIn_wide (n := 4)).1 ?_
  have hseq : SeqGives Fence.wide 3 Tryz.prog 127 #[.pointer (some ⟨Bm, 0, none⟩)] encZ (fun ss => ss = [x]) 1 W := fun l J W1 hW hJ hY h0 => by
    have hm1 : W1.cell? ⟨Bm, 0, none⟩ = some (.slice (some ⟨b, o, none⟩) 1 c) := (hW.cell (p := ⟨Bm, 0, none⟩) hBm).trans hm
    have hx1 : W1.cell? ⟨b, o, none⟩ = some (.int .i64 x) := (hW.cell (p := ⟨b, o, none⟩) hb).trans hx
    exact (vals1 3 (by decide) l Bm b o c x J hY W1 hm1 hx1 h0).mono fun e W' h => ⟨h.1, [x], rfl, h.2⟩
  have cS := AnyZI.appendSeq_in Tryz.appA Fence.wide 4 trivial rfl (by decide) 127 #[.pointer (some ⟨Bm, 0, none⟩)] trivial (enters_of Tryz.func127 (by kernel_rfl) rfl) (fun ss => ss = [x]) 1 (by decide) (by decide) W hseq
  change CallsIn _ _ Tryz.prog 124 _ _ _ at cS
  refine cS.mono fun e w' h => ?_
  obtain ⟨v, ss, he, hs, hrow, _, hbel⟩ := h
  subst hs
  exact ⟨v, he, hrow, hbel⟩
open Go.Ab
noncomputable def sumOne (h : AH) (b : Nat) : Option (AEnd × AH) := match h.at b with
  | .cells c n _ _ => match Nat.blt 0 n, c.get 0 with
    | true, some (.slice (some ⟨d, o, none⟩) 1 _) => match h.at d with
      | .cells c2 n2 _ _ => match Nat.blt o n2, c2.get o with
        | true, some (.int .i64 x) => some (.ret (aslc h 1 1), anew h 3 [.int .i64 x] 1)
        | _, _ => none
      | _ => none
    | _, _ => none
  | _ => none
theorem cells3 : Tryz.prog.cellsOf 3 = 1 := by kernel_rfl
theorem V.func_inv {μ : Mp} {fn : Fn} {a b : Array Value} {v : Value} (h : V μ (.func fn a b) v) : ∃ a' b', v = .func fn a' b' ∧ VL μ a.toList a'.toList ∧ VL μ b.toList b'.toList := by
  cases h with | func x y => exact ⟨_, _, rfl, x, y⟩
theorem sumOne_ok {μ : Mp} {h : AH} {W : World} (s : Sim Tryz.prog μ h W) {b : Nat} {a0 : Array Value} {args' : Array Value} (ha : a0.toList = []) (hx : VL μ [.slice none 0 0, .func (.func 127) a0 ⟨[.pointer (some ⟨b, 0, none⟩)]⟩] args'.toList) {e : AEnd} {h' : AH} (hr : sumOne h b = some (e, h')) :
    Calls Tryz.prog 124 args' W fun end' W' => ∃ μ', EndRel μ' e end' ∧ Sim Tryz.prog μ' h' W' ∧ Stp μ μ' h h' W W' := by
  unfold sumOne at hr
  split at hr
  · rename_i c n e1 fz hb
    split at hr
    · rename_i d o cc hn hc
      split at hr
      · rename_i c2 n2 e2 fz2 hd
        split at hr
        · rename_i x hn2 hc2
          cases hr
          have hn : 0 < n := by simpa [Nat.blt_eq] using hn
          have hn2 : o < n2 := by simpa [Nat.blt_eq] using hn2
          obtain ⟨l⟩ := args'
          cases hx with | @cons _ v1 _ r1 p1 q1 =>
          cases q1 with | @cons _ v2 _ r2 p2 q2 =>
          cases q2
          cases p1
          obtain ⟨a', b', rfl, p3, p4⟩ := V.func_inv p2
          rw [ha] at p3
          obtain ⟨a'⟩ := a'
          obtain ⟨b'⟩ := b'
          cases p3
          cases p4 with | @cons _ v3 _ r3 p5 q5 =>
          cases q5
          cases p5 with | @ptr _ Bm _ z hm =>
          obtain ⟨O, g1, g2⟩ := s.obj b Bm z hm
          rw [hb] at g2
          obtain ⟨C, fr, rfl, k1, k2, _, _⟩ := g2
          obtain ⟨v4, m1, m2⟩ := k2 0 _ hn hc
          cases m2 with | @slice _ bd _ _ _ c' sz k hm2 u1 u2 u3 =>
          obtain ⟨O2, g3, g4⟩ := s.obj d bd _ hm2
          rw [hd] at g4
          obtain ⟨C2, fr2, rfl, k3, k4, _, _⟩ := g4
          obtain ⟨v5, m3, m4⟩ := k4 o _ hn2 hc2
          cases m4
          have w1 : W.cell? ⟨Bm, 0, none⟩ = some (.slice (some ⟨bd, o, none⟩) 1 c') := by rw [cell_of_row W Bm 0 C e1 fr g1]; exact m1
          have w2 : W.cell? ⟨bd, o, none⟩ = some (.int .i64 x) := by rw [cell_of_row W bd o C2 e2 fr2 g3]; exact m3
          refine Calls.mono (app1 W Bm bd o c' x w1 w2 (s.dom b Bm z hm).2 (s.dom d bd _ hm2).2) fun end' W' hp => ?_
          obtain ⟨v, rfl, hrow, hbel⟩ := hp
          obtain ⟨r1, r2⟩ := hrow
          rcases r2 with ⟨_, r3⟩ | ⟨g, cap, cur, rfl, t1, t2, t3, t4, t5, t6⟩
          · cases r3
          · obtain ⟨μ', y1, y2, y3⟩ := Sim.gain s hbel.size hbel.block hbel.os hbel.tape hbel.output (z := (cur.size, Tryz.prog.cellsOf 3)) (o := .cells (PT.ofL [.int .i64 x]) 1 3 false) t1 t2 (fun μ' _ => by
              refine ⟨cur, (0, 0), rfl, by omega, fun i v hi hv => ?_, fun _ o _ => by simp, rfl⟩
              rw [PT.get_ofL] at hv
              have hi : i = 0 := by omega
              subst hi
              cases hv
              have q : cur.toList[0]? = some (.int .i64 x) := by
                have : (cur.toList.take 1)[0]? = some (.int .i64 x) := by rw [show 1 = 1 * 1 from rfl, t6]; rfl
                rw [List.getElem?_take] at this
                simpa using this
              exact ⟨_, by rw [← Array.getElem?_toList]; exact q, .int _ _⟩)
            refine ⟨μ', ?_, y2, y3⟩
            exact .slice y1 (Nat.le_refl _) (by omega) (.inr (by rw [cells3]; omega))
        · cases hr
      · cases hr
    · cases hr
  · cases hr
end Go.Proofs
