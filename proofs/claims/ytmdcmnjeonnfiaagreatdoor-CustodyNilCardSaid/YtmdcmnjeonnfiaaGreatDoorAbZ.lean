import Derived.Test.YtmdcmnjeonnfiaaGreatDoorAbW
import Derived.ChangeArms
import Derived.OpenShut
import Derived.Carry
import Derived.ChangeSame
import Derived.ChangeOld
import Derived.RowKit
/-! From a row's statement to the abstract heap, and back. -/
set_option linter.unusedSimpArgs false
set_option linter.unusedVariables false
set_option linter.unusedSectionVars false
namespace Go.Ab
noncomputable section

/-! ### A whole world as an abstract heap that nobody may write -/
def emV (N : Nat) : Value → Value
  | .bool b => .bool b
  | .int k n => .int k n
  | .string s => .string s
  | .pointer none => .pointer none
  | .slice none 0 0 => .slice none 0 0
  | .slice (some ⟨b, o, none⟩) n c => if b < N ∧ n ≤ c then .slice (some ⟨b, o, none⟩) n c else if n = 0 then .slice (some ⟨0, 0, some 0⟩) 0 0 else poison
  | .slice (some ⟨_, _, some _⟩) 0 _ => .slice (some ⟨0, 0, some 0⟩) 0 0
  | .map none => .map none
  | .nilFunc => .nilFunc
  | .nilIface => .nilIface
  | _ => poison
def emO (N : Nat) : Obj → AObj
  | .cells C e _ => .cells (PT.ofL (C.toList.map (emV N))) C.size e true
  | _ => .dead
def emb (W : World) : AH := ⟨PT.ofL (W.heap.toList.map (emO W.heap.size)), W.heap.size⟩
def emM (P : Program) (W : World) : Mp := fun i => match W.heap[i]? with
  | some (.cells C e _) => some (i, C.size, P.cellsOf e)
  | some _ => some (i, 0, 0)
  | none => none
theorem emM_some {P : Program} {W : World} {i b : Nat} {z : Nat × Nat} (h : emM P W i = some (b, z)) : b = i ∧ i < W.heap.size ∧ ∃ O, W.heap[i]? = some O ∧ ∀ C e fr, O = .cells C e fr → z = (C.size, P.cellsOf e) := by
  unfold emM at h
  split at h
  · rename_i C e fr hq
    cases h
    refine ⟨rfl, (Array.getElem?_eq_some_iff.1 hq).1, _, hq, fun C' e' fr' hc => ?_⟩
    cases hc; rfl
  · rename_i O hne hq
    cases h
    exact ⟨rfl, (Array.getElem?_eq_some_iff.1 hq).1, _, hq, fun C' e' fr' hc => absurd hc (hne C' e' fr')⟩
  · cases h
theorem emM_lt {P : Program} {W : World} {i : Nat} (h : i < W.heap.size) : ∃ z, emM P W i = some (i, z) := by
  unfold emM
  rw [Array.getElem?_eq_getElem h]
  cases W.heap[i] <;> exact ⟨_, rfl⟩
theorem emV_ok (P : Program) (W : World) (v : Value) : V (emM P W) (emV W.heap.size v) v := by
  unfold emV
  split
  · exact .bool _
  · exact .int _ _
  · exact .string _
  · exact .nilp
  · exact .nils
  · split
    · rename_i h
      obtain ⟨⟨s, k⟩, hz⟩ := emM_lt (P := P) h.1
      exact .slice hz h.2 (Nat.le_refl _) (.inl rfl)
    · split
      · rename_i h; subst h; exact .zs
      · exact .poison _
  · exact .zs
  · exact .nilm
  · exact .nilf
  · exact .nili
  · exact .poison _
theorem emVL_ok (P : Program) (W : World) : ∀ (l : List Value), VL (emM P W) (l.map (emV W.heap.size)) l
  | [] => .nil
  | v :: l => .cons (emV_ok P W v) (emVL_ok P W l)
/-- An argument: a struct's cells one by one. -/
def emA (N : Nat) : Value → Value
  | .agg cs => .agg ⟨cs.toList.map (emV N)⟩
  | v => emV N v
theorem emA_ok (P : Program) (W : World) (v : Value) : V (emM P W) (emA W.heap.size v) v := by
  unfold emA
  split
  · exact .agg (emVL_ok P W _)
  · exact emV_ok P W v
theorem emAL_ok (P : Program) (W : World) : ∀ (l : List Value), VL (emM P W) (l.map (emA W.heap.size)) l
  | [] => .nil
  | v :: l => .cons (emA_ok P W v) (emAL_ok P W l)
theorem emb_at (W : World) (i : Nat) : (emb W).at i = match W.heap[i]? with
    | some O => emO W.heap.size O
    | none => .dead := by
  unfold AH.at emb
  rw [PT.get_ofL, List.getElem?_map, Array.getElem?_toList]
  cases W.heap[i]? <;> rfl
theorem emb_next (W : World) : (emb W).next = W.heap.size := rfl
theorem emb_ro (W : World) (i : Nat) : ((emb W).at i).wr = false := by
  rw [emb_at]
  cases W.heap[i]? with
  | none => rfl
  | some O => cases O <;> rfl
theorem emb_sim (P : Program) (W : World) : Sim P (emM P W) (emb W) W where
  dom i b z h := by
    obtain ⟨rfl, h2, _⟩ := emM_some h
    exact ⟨h2, h2⟩
  fin i h := by
    rw [emb_at, Array.getElem?_eq_none (by exact h)]
  obj i b z h := by
    obtain ⟨rfl, h2, O, hO, hz⟩ := emM_some h
    refine ⟨O, hO, ?_⟩
    rw [emb_at, hO]
    cases O with
    | cells C e fr =>
      refine ⟨C, fr, rfl, Nat.le_refl _, fun j v hj hv => ?_, (fun hf => by cases hf), hz C e fr rfl⟩
      rw [PT.get_ofL, List.getElem?_map, Array.getElem?_toList] at hv
      cases hc : C[j]? with
      | none => rw [hc] at hv; cases hv
      | some w => rw [hc] at hv; cases hv; exact ⟨w, rfl, emV_ok P W w⟩
    | _ => trivial
  inj i j b z z' hi hj _ _ := by
    obtain ⟨rfl, _⟩ := emM_some hi
    obtain ⟨e, _⟩ := emM_some hj
    exact e
theorem cell?_some {W : World} {a : Addr} {v : Value} (h : W.cell? a = some v) : a.spot = none ∧ ∃ C e fr, W.heap[a.block]? = some (.cells C e fr) ∧ C[a.off]? = some v := by
  unfold World.cell? at h
  split at h
  · rename_i C e fr hq
    split at h
    · cases h
    · rename_i hs
      refine ⟨?_, C, e, fr, hq, h⟩
      cases hz : a.spot with
      | none => rfl
      | some _ => rw [hz] at hs; exact absurd rfl hs
  · cases h
theorem emb_ld {W : World} {a : Addr} {v : Value} (h : W.cell? a = some v) : (emb W).ld a.block a.off = some (emV W.heap.size v) ∧ a.block < W.heap.size := by
  obtain ⟨_, C, e, fr, h1, h2⟩ := cell?_some h
  refine ⟨?_, (Array.getElem?_eq_some_iff.1 h1).1⟩
  have hlt := (Array.getElem?_eq_some_iff.1 h2).1
  rw [AH.ld, emb_at, h1]
  show (if a.off < C.size then (PT.ofL (C.toList.map (emV W.heap.size))).get a.off else none) = _
  rw [if_pos hlt, PT.get_ofL, List.getElem?_map, Array.getElem?_toList, h2]; rfl

/-- A call that is told over the abstract heap, told of the world. -/
theorem emb_calls {P : Program} {f : FuncId} {args : Array Value} {W : World} {b : Bool} (hs : Sem P f (args.toList.map (emA W.heap.size)) (emb W) fun e _ => e = .ret (.bool b)) :
    Calls P f args W fun e W' => e = .returned (.bool b) ∧ RowKit.Below W.heap.size W W' := by
  refine (hs (emM P W) W args (emb_sim P W) (emAL_ok P W _)).mono fun end' W' ⟨e, h', he, μ', hr, s', st⟩ => ?_
  subst he
  cases end' with
  | returned v =>
    cases hr
    exact ⟨rfl, st.os, st.tape, st.output, st.size, fun k hk => st.keep k hk fun j _ _ => emb_ro W j⟩
  | panicked ch => exact hr.elim
  | outgrown => exact hr.elim

/-! ### What can be read, leaf by leaf -/
inductive Leaf where
  | bool
  | int (k : IntKind)
  | str
  | sl (e : TypeId)
def leafFs (P : Program) (g : TypeId → Option (List Leaf)) : List Field → List Leaf → Option (List Leaf)
  | [], acc => some acc
  | fd :: r, acc => match g fd.type with
    | some l => if acc.length = fd.offset ∧ l.length = P.cellsOf fd.type then leafFs P g r (acc ++ l) else none
    | none => none
def leafs (P : Program) : Nat → TypeId → Option (List Leaf)
  | 0, _ => none
  | f + 1, t => match P.underlying t with
    | some .bool => some [.bool]
    | some (.int k) => some [.int k]
    | some .string => some [.str]
    | some (.slice e) => some [.sl e]
    | some (.struct fs) => match leafFs P (leafs P f) fs.toList [] with
      | some l => if l.length = P.cellsOf t then some l else none
      | none => none
    | some (.array n e) => match leafs P f e with
      | some l => if l.length = P.cellsOf e ∧ n * P.cellsOf e = P.cellsOf t then some (List.replicate n l).flatten else none
      | none => none
    | _ => none
def LeafOk (P : Program) (W : World) (R : TypeId → List Value → Prop) : Leaf → Value → Prop
  | .bool, v => ∃ b, v = .bool b
  | .int k, v => ∃ n, v = .int k n ∧ (Lit.int k n).wf = true
  | .str, v => ∃ s : ByteArray, v = .string s ∧ s.size ≤ maxLen
  | .sl e, v => v = .slice none 0 0 ∨ ∃ a n c, v = .slice (some a) n c ∧ n ≤ c ∧ c ≤ maxLen ∧ (0 < P.cellsOf e → c = 0 ∨ (a.spot = none ∧ a.block < W.heap.size)) ∧
      ∀ i, i < n → ∃ ws, W.cells? 0 (a.add (i * P.cellsOf e)) (P.cellsOf e) = some ws ∧ R e ws
inductive Leaves' (P : Program) (W : World) (R : TypeId → List Value → Prop) : List Leaf → List Value → Prop
  | nil : Leaves' P W R [] []
  | cons {l : Leaf} {v : Value} {ls : List Leaf} {vs : List Value} : LeafOk P W R l v → Leaves' P W R ls vs → Leaves' P W R (l :: ls) (v :: vs)
theorem LeafOk.mono {P : Program} {W : World} {R R' : TypeId → List Value → Prop} (hr : ∀ e ws, R e ws → R' e ws) {l : Leaf} {v : Value} (h : LeafOk P W R l v) : LeafOk P W R' l v := by
  cases l with
  | sl e =>
    rcases h with h | ⟨a, n, c, h1, h2, h3, h4, h5⟩
    · exact .inl h
    · exact .inr ⟨a, n, c, h1, h2, h3, h4, fun i hi => let ⟨ws, x, y⟩ := h5 i hi; ⟨ws, x, hr _ _ y⟩⟩
  | _ => exact h
theorem Leaves'.mono {P : Program} {W : World} {R R' : TypeId → List Value → Prop} (hr : ∀ e ws, R e ws → R' e ws) : ∀ {ls : List Leaf} {vs : List Value}, Leaves' P W R ls vs → Leaves' P W R' ls vs
  | _, _, .nil => .nil
  | _, _, .cons a b => .cons (a.mono hr) (b.mono hr)
theorem Leaves'.append {P : Program} {W : World} {R : TypeId → List Value → Prop} : ∀ {a : List Leaf} {b : List Value} {c : List Leaf} {d : List Value}, Leaves' P W R a b → Leaves' P W R c d → Leaves' P W R (a ++ c) (b ++ d)
  | _, _, _, _, .nil, k => k
  | _, _, _, _, .cons h r, k => .cons h (r.append k)

theorem Leaves'.cons_inv {P : Program} {W : World} {R : TypeId → List Value → Prop} {l : Leaf} {ls : List Leaf} {vs : List Value} (h : Leaves' P W R (l :: ls) vs) : ∃ v r, vs = v :: r ∧ LeafOk P W R l v ∧ Leaves' P W R ls r := by
  cases h with | cons a b => exact ⟨_, _, rfl, a, b⟩
theorem Leaves'.nil_inv {P : Program} {W : World} {R : TypeId → List Value → Prop} {vs : List Value} (h : Leaves' P W R [] vs) : vs = [] := by cases h; rfl
/-- What a slice that can be read looks like from the abstract heap. -/
theorem emV_slice {P : Program} {W : World} {R : TypeId → List Value → Prop} {e : TypeId} (he : 0 < P.cellsOf e) {v : Value} (h : LeafOk P W R (.sl e) v) :
    emV W.heap.size v = .slice none 0 0 ∨ emV W.heap.size v = .slice (some ⟨0, 0, some 0⟩) 0 0 ∨
      ∃ b o n c, v = .slice (some ⟨b, o, none⟩) n c ∧ emV W.heap.size v = .slice (some ⟨b, o, none⟩) n c ∧ b < W.heap.size ∧ n ≤ c ∧ c ≤ maxLen ∧ ∀ i, i < n → ∃ ws, W.cells? 0 ((⟨b, o, none⟩ : Addr).add (i * P.cellsOf e)) (P.cellsOf e) = some ws ∧ R e ws := by
  rcases h with rfl | ⟨⟨b, o, sp⟩, n, c, rfl, h1, h2, h3, h4⟩
  · exact .inl rfl
  · right
    rcases h3 he with h0 | ⟨hs, hb⟩
    · have hn : n = 0 := by omega
      subst h0; subst hn
      cases sp with
      | some s => exact .inl rfl
      | none =>
        by_cases hb : b < W.heap.size
        · right
          exact ⟨b, o, 0, 0, rfl, by simp [emV, hb], hb, h1, h2, h4⟩
        · left
          simp [emV, hb]
    · dsimp only at hs hb
      subst hs
      right
      exact ⟨b, o, n, c, rfl, by simp [emV, hb, h1], hb, h1, h2, h4⟩

section
variable {H : Type} {enc : TypeId × Value → H} {P : Program} {W : World}
def Rdb (enc : TypeId × Value → H) (P : Program) (W : World) (n : Nat) (t : TypeId) (cs : List Value) : Prop := ∃ m, m < n ∧ ∃ x, DataW.trod enc P W 0 (fun _ => true) true m t cs = some x
theorem Rdb.mono {n m : Nat} (h : n ≤ m) {t : TypeId} {cs : List Value} (hr : Rdb enc P W n t cs) : Rdb enc P W m t cs := by
  obtain ⟨k, hk, hx⟩ := hr
  exact ⟨k, by omega, hx⟩
theorem cells?_some {n : Nat} {a : Addr} {ws : List Value} (h : W.cells? 0 a n = some ws) : ws.length = n ∧ ∀ i, i < n → W.cell? (a.add i) = ws[i]? := by
  unfold World.cells? at h
  rw [if_pos (Nat.zero_le _)] at h
  exact ⟨by simpa using mapM_some_length h, fun i hi => mapM_some_get h i i (by simp [hi])⟩
theorem leafFs_ok {n : Nat} {cs : List Value} : ∀ (fs : List Field) (acc r : List Leaf) (g : TypeId → Option (List Leaf)), (∀ fd ∈ fs, ∀ ls, g fd.type = some ls → Leaves' P W (Rdb enc P W n) ls ((cs.drop fd.offset).take (P.cellsOf fd.type))) →
    leafFs P g fs acc = some r → acc.length ≤ cs.length → r.length ≤ cs.length → Leaves' P W (Rdb enc P W n) acc (cs.take acc.length) → Leaves' P W (Rdb enc P W n) r (cs.take r.length)
  | [], acc, r, g, hg, hr, h1, h2, ha => by cases hr; exact ha
  | fd :: fs, acc, r, g, hg, hr, h1, h2, ha => by
    rw [leafFs] at hr
    split at hr
    · rename_i l hl
      split at hr
      · rename_i hc
        have hle : ∀ (fs : List Field) (acc r : List Leaf), leafFs P g fs acc = some r → acc.length ≤ r.length := by
          intro fs
          induction fs with
          | nil => intro acc r h; cases h; exact Nat.le_refl _
          | cons f fs ih =>
            intro acc r h
            rw [leafFs] at h
            split at h
            · split at h
              · have := ih _ _ h
                rw [List.length_append] at this
                omega
              · cases h
            · cases h
        have hlen := hle _ _ _ hr
        have hsub := hg fd (by simp) l hl
        have happ := ha.append hsub
        have e : cs.take acc.length ++ (cs.drop fd.offset).take (P.cellsOf fd.type) = cs.take (acc ++ l).length := by
          rw [List.length_append, ← hc.1, ← hc.2, List.take_add]
        rw [e] at happ
        exact leafFs_ok fs _ r g (fun fd hfd => hg fd (by simp [hfd])) hr (by omega) h2 happ
      · cases hr
    · cases hr
theorem leafs_ok : ∀ (f : Nat) (t : TypeId) (ls : List Leaf), leafs P f t = some ls → ∀ (fuel : Nat) (cs : List Value) (x : DataW H × List MemPlace), DataW.trod enc P W 0 (fun _ => true) true fuel t cs = some x → Leaves' P W (Rdb enc P W fuel) ls cs
  | 0, t, ls, h, fuel, cs, x, hx => by cases h
  | f + 1, t, ls, h, fuel, cs, x, hx => by
    rw [leafs] at h
    split at h
    · rename_i hu
      cases h
      obtain ⟨b, rfl, _⟩ := DataW.trod_bool hu hx
      exact .cons ⟨b, rfl⟩ .nil
    · rename_i k hu
      cases h
      obtain ⟨n, rfl, _, hw⟩ := DataW.trod_int hu hx
      exact .cons ⟨n, rfl, hw⟩ .nil
    · rename_i hu
      cases h
      obtain ⟨s, rfl, _, hs⟩ := DataW.trod_string hu hx
      exact .cons ⟨s, rfl, hs⟩ .nil
    · rename_i e hu
      cases h
      rcases DataW.trod_slice hu hx with ⟨rfl, _⟩ | ⟨a, n, c, elems, rest, m, rfl, rfl, _, _, hnc, hcm, hel, h1, h2, _⟩
      · exact .cons (.inl rfl) .nil
      · have hread : ∀ i, i < n → ∃ ws, W.cells? 0 (a.add (i * P.cellsOf e)) (P.cellsOf e) = some ws ∧ Rdb enc P W (m + 1) e ws := fun i hi => by
          have := h1 i hi
          rw [List.getElem?_eq_getElem (by omega)] at this
          obtain ⟨ws, k1, k2⟩ := Option.bind_eq_some_iff.1 this
          exact ⟨ws, k1, m, by omega, _, k2⟩
        refine .cons (.inr ⟨a, n, c, rfl, hnc, hcm, fun hpos => ?_, hread⟩) .nil
        rcases Nat.eq_zero_or_pos c with h0 | hc
        · exact .inl h0
        · right
          have hcell : ∀ ws, W.cells? 0 (a.add (0 * P.cellsOf e)) (P.cellsOf e) = some ws → a.spot = none ∧ a.block < W.heap.size := fun ws hw => by
            obtain ⟨g1, g2⟩ := cells?_some hw
            have := g2 0 hpos
            rw [List.getElem?_eq_getElem (by omega), Nat.zero_mul, show (a.add 0).add 0 = a by simp [Addr.add]] at this
            exact ⟨(cell?_some this).1, (emb_ld this).2⟩
          rcases Nat.eq_zero_or_pos n with hn | hn
          · obtain ⟨k1, k2⟩ := h2 rfl
            have := k2 0 (by omega)
            rw [List.getElem?_eq_getElem (by omega)] at this
            obtain ⟨ws, k3, _⟩ := Option.bind_eq_some_iff.1 this
            exact hcell ws (by rw [hn, Nat.add_zero] at k3; exact k3)
          · obtain ⟨ws, k1, _⟩ := hread 0 hn
            exact hcell ws k1
    · rename_i fs hu
      split at h
      · rename_i l hl
        split at h
        · rename_i hlen
          cases h
          obtain ⟨xs, m, rfl, _, hcl, hxl, hf⟩ := DataW.trod_struct hu hx
          have := leafFs_ok (enc := enc) (W := W) (n := m + 1) (cs := cs) fs.toList [] ls (leafs P f) (fun fd hfd ls' hls' => by
            obtain ⟨i, hi⟩ := List.getElem?_of_mem hfd
            have hi' : fs[i]? = some fd := by simpa using hi
            have hx' := hf i fd hi'
            have hlt := (Array.getElem?_eq_some_iff.1 hi').1
            rw [List.getElem?_eq_getElem (by omega)] at hx'
            exact (leafs_ok f fd.type ls' hls' m _ _ hx').mono fun _ _ h => h.mono (by omega)) hl (by simp) (by omega) .nil
          rwa [List.take_of_length_le (by omega)] at this
        · cases h
      · cases h
    · rename_i n e hu
      split at h
      · rename_i l hl
        split at h
        · rename_i hc
          cases h
          obtain ⟨xs, m, rfl, _, hcl, hxl, hf⟩ := DataW.trod_array hu hx
          have key : ∀ k, k ≤ n → Leaves' P W (Rdb enc P W (m + 1)) (List.replicate k l).flatten (cs.take (k * P.cellsOf e)) := by
            intro k
            induction k with
            | zero => intro _; simp; exact .nil
            | succ k ih =>
              intro hk
              have h1 := ih (by omega)
              have hx' := hf k (by omega)
              rw [List.getElem?_eq_getElem (by omega)] at hx'
              have h2 := (leafs_ok f e l hl m _ _ hx').mono (fun _ _ h => h.mono (by omega) : ∀ t' ws, Rdb enc P W m t' ws → Rdb enc P W (m + 1) t' ws)
              have h3 := h1.append h2
              rw [List.replicate_succ', List.flatten_append, List.flatten_singleton, Nat.add_mul, Nat.one_mul, List.take_add]
              exact h3
          have := key n (Nat.le_refl _)
          rwa [List.take_of_length_le (by omega)] at this
        · cases h
      · cases h
    · cases h
end

/-! ### The row's end: the law answers true, and its arguments read as they did -/
section
open Go.RowKit Go.ChangeShapes
variable {H : Type} {enc : TypeId × Value → H} {P : Program}
theorem trodAll_below (hl : laidOutB P = true) {W W' : World} (hb : Below W.heap.size W W') : ∀ {ts : List TypeId} {vs : List Value} {ds : List (DataW H)} {ps : List MemPlace}, (ts.all fun t => P.readableRec t && decide (t < P.types.size)) = true →
    DataW.TrodAll enc P W 0 (fun _ => true) true ts vs ds ps → (∀ x ∈ ps, x.block < W.heap.size) → DataW.TrodAll enc P W' 0 (fun b => decide (b < W.heap.size)) true ts vs ds ps
  | [], [], [], _, _, h, _ => h
  | t :: ts, v :: vs, d :: ds, ps, ht, h, hlt => by
    obtain ⟨p, q, h1, h2, rfl⟩ := h
    simp only [List.all_cons, Bool.and_eq_true, decide_eq_true_eq] at ht
    exact ⟨p, q, Below.trod hl ht.1.1 ht.1.2 h1 hb (fun x hx => hlt x (by simp [hx])), trodAll_below hl hb (by simpa using ht.2) h2 (fun x hx => hlt x (by simp [hx])), rfl⟩
  | [], [], _ :: _, _, _, h, _ => h.elim
  | [], _ :: _, _, _, _, h, _ => h.elim
  | _ :: _, [], _, _, _, h, _ => h.elim
  | _ :: _, _ :: _, [], _, _, h, _ => h.elim
theorem law_post (hl : laidOutB P = true) {f : Func} {s : ChangeSpec} {apart fresh handsOn : Bool} {W W' : World} {args : Array Value} {ds gs : List (DataW H)} {before : List MemPlace} {tb : TypeId}
    (hts : (f.params.toList.all fun t => P.readableRec t && decide (t < P.types.size)) = true) (hvs : s.vars = []) (hrt : f.resultTypes = #[tb]) (hbool : P.underlying tb = some .bool)
    (hres : (s.fn H (ds ++ gs)).results = [.lit (.bool true)]) (hargs : (s.fn H (ds ++ gs)).args = ds) (hvars : (s.fn H (ds ++ gs)).vars = [])
    (hW : DataW.Whole enc P f.params.toList s.vars apart W args.toList ds gs before) (hb : Below W.heap.size W W') : s.post enc P f apart fresh handsOn false W args (.bool true) W' := by
  have hlt : ∀ p ∈ before, p.block < W.heap.size := fun p hp => hW.lt p hp
  have hW' := hW
  obtain ⟨p, q, hA, hV, rfl, hz, hn⟩ := hW
  rw [hvs] at hV
  have hq : q = [] := by cases gs <;> first | exact hV | exact hV.elim
  subst hq
  refine ⟨ds, gs, _, [], p, [], hW', ?_, ?_, ?_, World.keptBut_mono (fun x hx => ⟨hx, ?_⟩) (hb.frame (· ∈ p ++ [])), fun ha => by cases ha⟩
  · rw [hres, hrt]
    have hone : (Value.bool true).resultList (#[tb] : Array TypeId).size = [.bool true] := rfl
    rw [hone]
    exact trodAll_mk1 (RowKit.shut_bool hbool _)
  · rw [hargs]
    exact trodAll_below hl hb hts hA fun x hx => hlt x (by simp [hx])
  · rw [hvars, hvs]; rfl
  · simp only [List.append_nil] at hx
    exact Or.inr (by simpa using hx)
end
end
end Go.Ab
