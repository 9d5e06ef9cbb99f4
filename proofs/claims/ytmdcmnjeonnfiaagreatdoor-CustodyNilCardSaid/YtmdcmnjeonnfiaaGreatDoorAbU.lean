import Derived.Test.YtmdcmnjeonnfiaaGreatDoorAbT
/-! A logic over the abstract heap: what code makes of a state, for all states that are told by facts. -/
set_option linter.unusedSimpArgs false
set_option linter.unusedVariables false
set_option linter.unusedSectionVars false
namespace Go.Ab
noncomputable section

/-! ### Calls -/
def PEnd (P : Program) (μ : Mp) (h : AH) (W : World) (e : AEnd) (h' : AH) (end' : Ending) (W' : World) : Prop := ∃ μ', EndRel μ' e end' ∧ Sim P μ' h' W' ∧ Stp μ μ' h h' W W'
def Sem (P : Program) (f : FuncId) (args : List Value) (h : AH) (Q : AEnd → AH → Prop) : Prop :=
  ∀ μ W args', Sim P μ h W → VL μ args args'.toList → Calls P f args' W fun end' W' => ∃ e h', Q e h' ∧ PEnd P μ h W e h' end' W'
theorem Sem.mono {P : Program} {f : FuncId} {args : List Value} {h : AH} {Q Q' : AEnd → AH → Prop} (hs : Sem P f args h Q) (hq : ∀ e h', Q e h' → Q' e h') : Sem P f args h Q' :=
  fun μ W args' s hx => (hs μ W args' s hx).mono fun _ _ ⟨e, h', q, p⟩ => ⟨e, h', hq e h' q, p⟩
theorem Sem.of_call {P : Program} {call : ACall} (hc : CallOk P call) {f : FuncId} {args : List Value} {h : AH} {e : AEnd} {h' : AH} (hr : call f args h = some (e, h')) {Q : AEnd → AH → Prop} (hq : Q e h') : Sem P f args h Q :=
  fun μ W args' s hx => (hc f args h e h' hr μ W args' s hx).mono fun _ _ hp => ⟨e, h', hq, hp⟩

/-! ### What stays behind a call that only makes memory -/
structure Keep (h h' : AH) : Prop where
  next : h.next ≤ h'.next
  at_ : ∀ i, i < h.next → h'.at i = h.at i
theorem Keep.refl (h : AH) : Keep h h := ⟨Nat.le_refl _, fun _ _ => rfl⟩
theorem Keep.trans {a b c : AH} (h : Keep a b) (k : Keep b c) : Keep a c := ⟨Nat.le_trans h.next k.next, fun i hi => (k.at_ i (Nat.lt_of_lt_of_le hi h.next)).trans (h.at_ i hi)⟩
theorem Keep.new {a b : AH} (h : Keep a b) (o : AObj) : Keep a (b.new o) := ⟨Nat.le_trans h.next (Nat.le_succ _), fun i hi => by
  have := h.next
  rw [AH.at_new, if_neg (by omega)]; exact h.at_ i hi⟩
theorem Keep.set {a b : AH} (h : Keep a b) {j : Nat} (hj : a.next ≤ j) (o : AObj) : Keep a (b.set j o) := ⟨h.next, fun i hi => by
  rw [AH.at_set, if_neg (by omega)]; exact h.at_ i hi⟩

/-- A value that knew the old blocks alone is the same behind. -/
def Old (n : Nat) (v : Value) : Prop := ∀ (μ μ' : Mp) v', (∀ i, i < n → μ' i = μ i) → V μ' v v' → V μ v v'
def OldE (n : Nat) : AEnd → Prop
  | .ret v => Old n v
  | .panic v => Old n v
mutual
theorem V.back {n : Nat} {μ μ' : Mp} (hm : ∀ i, i < n → μ' i = μ i) (hd : ∀ i z, μ i = some z → i < n) : ∀ {v w v' : Value}, V μ v w → V μ' v v' → V μ v v'
  | _, _, _, .poison _, _ => .poison _
  | _, _, _, .bool _, .bool _ => .bool _
  | _, _, _, .int _ _, .int _ _ => .int _ _
  | _, _, _, .string _, .string _ => .string _
  | _, _, _, .nilp, .nilp => .nilp
  | _, _, _, .ptr h, .ptr h' => .ptr (by rw [← hm _ (hd _ _ h)]; exact h')
  | _, _, _, .nils, .nils => .nils
  | _, _, _, .slice h _ _ _, .slice h' a b c => .slice (by rw [← hm _ (hd _ _ h)]; exact h') a b c
  | _, _, _, .zs, .zs => .zs
  | _, _, _, .nilm, .nilm => .nilm
  | _, _, _, .map h, .map h' => .map (by rw [← hm _ (hd _ _ h)]; exact h')
  | _, _, _, .func a b, .func a' b' => .func (VL.back hm hd a a') (VL.back hm hd b b')
  | _, _, _, .nilf, .nilf => .nilf
  | _, _, _, .iface a, .iface a' => .iface (V.back hm hd a a')
  | _, _, _, .nili, .nili => .nili
  | _, _, _, .agg a, .agg a' => .agg (VL.back hm hd a a')
  | _, _, _, .tuple a, .tuple a' => .tuple (VL.back hm hd a a')
theorem VL.back {n : Nat} {μ μ' : Mp} (hm : ∀ i, i < n → μ' i = μ i) (hd : ∀ i z, μ i = some z → i < n) : ∀ {v w v' : List Value}, VL μ v w → VL μ' v v' → VL μ v v'
  | _, _, _, .nil, .nil => .nil
  | _, _, _, .cons a b, .cons a' b' => .cons (V.back hm hd a a') (VL.back hm hd b b')
end
theorem EL.back {n : Nat} {μ μ' : Mp} (hm : ∀ i, i < n → μ' i = μ i) (hd : ∀ i z, μ i = some z → i < n) : ∀ {v w v' : List MapEntry}, EL μ v w → EL μ' v v' → EL μ v v'
  | _, _, _, .nil, .nil => .nil
  | _, _, _, .cons a b _ d, .cons a' b' c' d' => .cons (V.back hm hd a a') (V.back hm hd b b') c' (EL.back hm hd d d')
theorem ORel.back {P : Program} {n : Nat} {μ μ' : Mp} (hm : ∀ i, i < n → μ' i = μ i) (hd : ∀ i z, μ i = some z → i < n) {z z' : Nat × Nat} {o : AObj} {O O' : Obj} (h : ORel P μ z o O) (h' : ORel P μ' z' o O') : ORel P μ z' o O' := by
  cases o with
  | cells c m e fz =>
    obtain ⟨C, fr, rfl, h1, h2, h3, h4⟩ := h
    obtain ⟨C', fr', rfl, k1, k2, k3, k4⟩ := h'
    refine ⟨C', fr', rfl, k1, fun i v hi hv => ?_, k3, k4⟩
    obtain ⟨w, _, hw⟩ := h2 i v hi hv
    obtain ⟨v', a, b⟩ := k2 i v hi hv
    exact ⟨v', a, hw.back hm hd b⟩
  | map es k => obtain ⟨ES, rfl, h⟩ := h; obtain ⟨ES', rfl, h'⟩ := h'; exact ⟨ES', rfl, h.back hm hd h'⟩
  | siter s p => exact h'
  | miter m a b d =>
    obtain ⟨m1, rfl, h1, h2⟩ := h
    obtain ⟨m2, rfl, k1, k2⟩ := h'
    refine ⟨m2, rfl, k1, fun r hr => ?_⟩
    obtain ⟨r', y, e1, e2⟩ := h2 r hr
    obtain ⟨r2, y2, g1, g2⟩ := k2 r hr
    exact ⟨r2, y2, by rw [← hm _ (hd _ _ e1)]; exact g1, g2⟩
  | dead => trivial

theorem Old.bool (n : Nat) (b : Bool) : Old n (.bool b) := fun _ _ _ _ h => by cases h; exact .bool _
theorem Old.int (n : Nat) (k : IntKind) (b : Int) : Old n (.int k b) := fun _ _ _ _ h => by cases h; exact .int _ _
theorem Old.string (n : Nat) (b : ByteArray) : Old n (.string b) := fun _ _ _ _ h => by cases h; exact .string _
theorem Old.nilp (n : Nat) : Old n (.pointer none) := fun _ _ _ _ h => by cases h; exact .nilp
theorem Old.nils (n : Nat) : Old n (.slice none 0 0) := fun _ _ _ _ h => by cases h; exact .nils
theorem Old.nili (n : Nat) : Old n .nilIface := fun _ _ _ _ h => by cases h; exact .nili
theorem Old.ptr {n b : Nat} (hb : b < n) (o : Nat) : Old n (.pointer (some ⟨b, o, none⟩)) := fun _ _ _ hm h => by cases h with | ptr h => exact .ptr (by rw [← hm _ hb]; exact h)
theorem Old.slice {n b : Nat} (hb : b < n) (o l c : Nat) : Old n (.slice (some ⟨b, o, none⟩) l c) := fun _ _ _ hm h => by cases h with | slice h x y z => exact .slice (by rw [← hm _ hb]; exact h) x y z
theorem OldL.back {n : Nat} {μ μ' : Mp} (hm : ∀ i, i < n → μ' i = μ i) : ∀ {l l' : List Value}, (∀ v ∈ l, Old n v) → VL μ' l l' → VL μ l l'
  | _, _, _, .nil => .nil
  | _, _, h, .cons a b => .cons (h _ (by simp) _ _ _ hm a) (OldL.back hm (fun v hv => h v (by simp [hv])) b)
theorem Old.tuple {n : Nat} {l : List Value} (h : ∀ v ∈ l, Old n v) : Old n (.tuple ⟨l⟩) := fun _ _ _ hm hv => by
  cases hv with | tuple hv => exact .tuple (OldL.back hm h hv)
theorem Old.agg {n : Nat} {l : List Value} (h : ∀ v ∈ l, Old n v) : Old n (.agg ⟨l⟩) := fun _ _ _ hm hv => by
  cases hv with | agg hv => exact .agg (OldL.back hm h hv)
theorem Old.iface {n t : Nat} {v : Value} (h : Old n v) : Old n (.iface t v) := fun _ _ _ hm hv => by
  cases hv with | iface hv => exact .iface (h _ _ _ hm hv)

/-- What a call made and let go is as if it had not been. -/
theorem Sem.gc {P : Program} {f : FuncId} {args : List Value} {h : AH} {Q Q' : AEnd → AH → Prop} (hs : Sem P f args h Q) (hq : ∀ e h', Q e h' → Keep h h' ∧ OldE h.next e ∧ Q' e h) : Sem P f args h Q' := by
  intro μ W args' s hx
  refine (hs μ W args' s hx).mono fun end' W' ⟨e, h', q, μ', he, s', st⟩ => ?_
  obtain ⟨hk, ho, q'⟩ := hq e h' q
  have hd : ∀ i z, μ i = some z → i < h.next := fun i z hz => by obtain ⟨b, z⟩ := z; exact (s.dom i b z hz).1
  refine ⟨e, h, q', μ, ?_, ⟨fun i b z hz => ⟨(s.dom i b z hz).1, Nat.lt_of_lt_of_le (s.dom i b z hz).2 st.size⟩, s.fin, fun i b z hz => ?_, s.inj⟩, ?_⟩
  · cases e with
    | ret v =>
      cases end' with
      | returned v' => exact ho μ μ' v' st.old he
      | panicked ch => exact he.elim
      | outgrown => exact he.elim
    | panic v =>
      cases end' with
      | returned v' => exact he.elim
      | panicked ch => obtain ⟨v', hv, hvv⟩ := he; exact ⟨v', hv, ho μ μ' v' st.old hvv⟩
      | outgrown => exact he.elim
  · obtain ⟨O, h1, h2⟩ := s.obj i b z hz
    have hi := (s.dom i b z hz).1
    obtain ⟨O', k1, k2⟩ := s'.obj i b z (by rw [st.old i hi]; exact hz)
    rw [hk.at_ i hi] at k2
    exact ⟨O', k1, h2.back st.old hd k2⟩
  · exact ⟨.refl μ, fun _ _ => rfl, Nat.le_refl _, fun _ _ _ => by omega, fun _ _ _ _ _ => by omega, fun _ _ h => h, st.size, st.keep, fun _ _ _ => rfl, st.os, st.tape, st.output⟩

/-- What a run without memory of its own comes to. -/
theorem Sem.exact {P : Program} {f : FuncId} {args : List Value} {h : AH} {e : AEnd} (hs : ∀ μ W args', Sim P μ h W → VL μ args args'.toList → Calls P f args' W fun end' W' => EndRel μ e end' ∧ W.heap.size ≤ W'.heap.size ∧ (∀ b, b < W.heap.size → W'.heap[b]? = W.heap[b]?) ∧ W'.os = W.os ∧ W'.tape = W.tape ∧ W'.output = W.output) :
    Sem P f args h fun e' h' => e' = e ∧ h' = h := by
  intro μ W args' s hx
  refine (hs μ W args' s hx).mono fun end' W' ⟨he, h1, h2, h3, h4, h5⟩ => ?_
  refine ⟨e, h, ⟨rfl, rfl⟩, μ, he, ⟨fun i b z hz => ⟨(s.dom i b z hz).1, Nat.lt_of_lt_of_le (s.dom i b z hz).2 h1⟩, s.fin, fun i b z hz => ?_, s.inj⟩, ?_⟩
  · obtain ⟨O, g1, g2⟩ := s.obj i b z hz
    exact ⟨O, by rw [h2 b (s.dom i b z hz).2]; exact g1, g2⟩
  · exact ⟨.refl μ, fun _ _ => rfl, Nat.le_refl _, fun _ _ _ => by omega, fun _ _ _ _ _ => by omega, fun _ _ h => h, h1, fun b hb _ => h2 b hb, fun _ _ _ => rfl, h3, h4, h5⟩
/-- A run over no memory, with arguments that lead to none: so it is over every memory. -/
theorem Sem.of_run {P : Program} {call : ACall} (hc : CallOk P call) {f : FuncId} {args : List Value} (ha : ∀ v ∈ args, Old 0 v) {e : AEnd} {h0 : AH} (hr : call f args ⟨.leaf, 0⟩ = some (e, h0)) (ho : OldE 0 e) (h : AH) :
    Sem P f args h fun e' h' => e' = e ∧ h' = h := by
  refine Sem.exact fun μ W args' s hx => ?_
  have s0 : Sim P (fun _ => none) ⟨.leaf, 0⟩ W := ⟨(fun _ _ _ e => nomatch e), (fun i _ => by simp [AH.at, PT.get_leaf]), (fun _ _ _ e => nomatch e), (fun _ _ _ _ _ e => nomatch e)⟩
  refine (hc f args _ _ _ hr (fun _ => none) W args' s0 (OldL.back (fun i hi => by omega) ha hx)).mono fun end' W' ⟨μ', he, _, st⟩ => ?_
  refine ⟨?_, st.size, fun b hb => st.keep b hb (fun _ _ e => nomatch e), st.os, st.tape, st.output⟩
  cases e with
  | ret v =>
    cases end' with
    | returned v' => exact ho μ μ' v' (fun i hi => by omega) he
    | panicked ch => exact he.elim
    | outgrown => exact he.elim
  | panic v =>
    cases end' with
    | returned v' => exact he.elim
    | panicked ch => obtain ⟨v', hv, hvv⟩ := he; exact ⟨v', hv, ho μ μ' v' (fun i hi => by omega) hvv⟩
    | outgrown => exact he.elim
theorem Old.poison (n : Nat) : Old n poison := fun _ _ _ _ _ => .poison _
/-- Less may be said of the arguments. -/
theorem Sem.weaken {P : Program} {f : FuncId} {args args2 : List Value} {h : AH} {Q : AEnd → AH → Prop} (hs : Sem P f args2 h Q) (hw : ∀ μ l, VL μ args l → VL μ args2 l) : Sem P f args h Q :=
  fun μ W args' s hx => hs μ W args' s (hw μ _ hx)
theorem VLw.nil : ∀ μ l, VL μ [] l → VL μ [] l := fun _ _ h => h
theorem VLw.same {a : Value} {r r2 : List Value} (h : ∀ μ l, VL μ r l → VL μ r2 l) : ∀ μ l, VL μ (a :: r) l → VL μ (a :: r2) l := fun μ l hl => by
  cases hl with | cons x y => exact .cons x (h μ _ y)
theorem VLw.any {a : Value} {r r2 : List Value} (h : ∀ μ l, VL μ r l → VL μ r2 l) : ∀ μ l, VL μ (a :: r) l → VL μ (Ab.poison :: r2) l := fun μ l hl => by
  cases hl with | cons x y => exact .cons (.poison _) (h μ _ y)

/-- One block that is new behind a call, wherever it lies. -/
theorem Sim.gain {P : Program} {μ : Mp} {h : AH} {W W' : World} (s : Sim P μ h W) (hs : W.heap.size ≤ W'.heap.size) (hk : ∀ b, b < W.heap.size → W'.heap[b]? = W.heap[b]?) (h1 : W'.os = W.os) (h2 : W'.tape = W.tape) (h3 : W'.output = W.output)
    {g : Nat} {z : Nat × Nat} {o : AObj} {O : Obj} (hg : W.heap.size ≤ g) (hO : W'.heap[g]? = some O) (hr : ∀ μ', Sub μ μ' → ORel P μ' z o O) :
    ∃ μ', μ' h.next = some (g, z) ∧ Sim P μ' (h.new o) W' ∧ Stp μ μ' h (h.new o) W W' := by
  have hlt : g < W'.heap.size := (Array.getElem?_eq_some_iff.1 hO).1
  have hsub := sub_ext s (g, z)
  have hcase : ∀ i b y, ext μ h.next (g, z) i = some (b, y) → (i = h.next ∧ b = g ∧ y = z) ∨ (i < h.next ∧ μ i = some (b, y)) := by
    intro i b y hi
    by_cases e : i = h.next
    · subst e; rw [ext_self] at hi; cases hi; exact .inl ⟨rfl, rfl, rfl⟩
    · rw [ext_ne e] at hi; exact .inr ⟨(s.dom i b y hi).1, hi⟩
  have hn : (h.new o).next = h.next + 1 := rfl
  refine ⟨ext μ h.next (g, z), ext_self _ _ _, ⟨fun i b y hi => ?_, fun i hi => ?_, fun i b y hi => ?_, fun i j b y y' hi hj li lj => ?_⟩, Stp.fresh hsub (fun i hi => ext_ne (by omega)) (by omega) (fun i hi hl => ?_) (fun i b y hi hl hm => ?_) (fun i hi => ?_) hs hk h1 h2 h3⟩
  · rcases hcase i b y hi with ⟨rfl, rfl, _⟩ | ⟨h4, h5⟩
    · exact ⟨by omega, hlt⟩
    · have := (s.dom i b y h5).2; exact ⟨by omega, by omega⟩
  · rw [AH.at_new, if_neg (by omega)]; exact s.fin i (by omega)
  · rcases hcase i b y hi with ⟨rfl, rfl, rfl⟩ | ⟨h4, h5⟩
    · exact ⟨O, hO, by rw [AH.at_new, if_pos rfl]; exact hr _ hsub⟩
    · obtain ⟨O', k1, k2⟩ := s.obj i b y h5
      exact ⟨O', by rw [hk b (s.dom i b y h5).2]; exact k1, by rw [AH.at_new, if_neg (by omega)]; exact k2.mono hsub⟩
  · rcases hcase i b y hi with ⟨e1, e2, e3⟩ | ⟨e1, e2⟩ <;> rcases hcase j b y' hj with ⟨f1, f2, f3⟩ | ⟨f1, f2⟩
    · omega
    · have := (s.dom j b y' f2).2; omega
    · have := (s.dom i b y e2).2; omega
    · rw [AH.at_new, if_neg (by omega)] at li lj
      exact s.inj i j b y y' e2 f2 li lj
  · exact ⟨(g, z), by rw [show i = h.next from by omega]; exact ext_self _ _ _⟩
  · rw [show i = h.next from by omega, ext_self] at hm; cases hm; exact hg
  · rw [AH.at_new, if_neg (by omega)]

/-! ### Reading -/
def AH.rd (h : AH) (b o : Nat) : Option Value := if b < h.next then (match h.at b with
  | .cells c n _ _ => if o < n then c.get o else none
  | _ => none) else none
def AH.el (h : AH) (b : Nat) : Option TypeId := if b < h.next then (match h.at b with
  | .cells _ _ e _ => some e
  | _ => none) else none
theorem Keep.rd {h h' : AH} (k : Keep h h') {b o : Nat} {v : Value} (hr : h.rd b o = some v) : h'.rd b o = some v := by
  unfold AH.rd at hr ⊢
  split at hr
  · rename_i hb
    rw [if_pos (Nat.lt_of_lt_of_le hb k.next), k.at_ b hb]; exact hr
  · cases hr
theorem Keep.el {h h' : AH} (k : Keep h h') {b : Nat} {e : TypeId} (hr : h.el b = some e) : h'.el b = some e := by
  unfold AH.el at hr ⊢
  split at hr
  · rename_i hb
    rw [if_pos (Nat.lt_of_lt_of_le hb k.next), k.at_ b hb]; exact hr
  · cases hr
theorem AH.rd_lt {h : AH} {b o : Nat} {v : Value} (hr : h.rd b o = some v) : b < h.next := by
  unfold AH.rd at hr
  split at hr
  · assumption
  · cases hr

/-! ### Temporaries as a list, the last first; where nothing is told: unknown -/
def lk : List (Nat × Value) → Nat → Option Value
  | [], _ => none
  | (j, v) :: r, i => if i = j then some v else lk r i
def S (n : Nat) (l : List (Nat × Value)) : PT Value := l.foldr (fun p t => t.put p.1 p.2) (PT.ofL (List.replicate n poison))
theorem get_S (n : Nat) : ∀ (l : List (Nat × Value)) (i : Nat), (S n l).get i = match lk l i with
    | some v => some v
    | none => if i < n then some poison else none
  | [], i => by
    show (PT.ofL (List.replicate n poison)).get i = _
    rw [PT.get_ofL, List.getElem?_replicate]; rfl
  | (j, v) :: r, i => by
    show ((S n r).put j v).get i = _
    rw [PT.get_put]
    unfold lk
    by_cases e : i = j
    · rw [if_pos e, if_pos e]
    · rw [if_neg e, if_neg e, get_S n r]
theorem put_S (n : Nat) (l : List (Nat × Value)) (i : Nat) (v : Value) : (S n l).put i v = S n ((i, v) :: l) := rfl
/-- The value of a slot. -/
def lkv (n : Nat) : List (Nat × Value) → Nat → Value
  | [], i => if i < n then poison else undef
  | (j, v) :: r, i => if i = j then v else lkv n r i
theorem aev_S (n : Nat) (l : List (Nat × Value)) (i : Nat) : aev (S n l) (.tmp i) = lkv n l i := by
  rw [aev_tmp, get_S]
  induction l with
  | nil => unfold lk lkv; by_cases e : i < n <;> simp [e]
  | cons p r ih =>
    obtain ⟨j, v⟩ := p
    unfold lk lkv
    by_cases e : i = j
    · simp [e]
    · simp only [if_neg e]; exact ih

/-- What is known of a state is known of this one, too. -/
def Wk (a a2 : AAct) : Prop := ∀ μ b, AR μ a b → AR μ a2 b
theorem Wk.refl (a : AAct) : Wk a a := fun _ _ h => h
theorem Wk.trans {a b c : AAct} (h : Wk a b) (k : Wk b c) : Wk a c := fun μ x hx => k μ x (h μ x hx)
/-- Slots may be let go. -/
theorem Wk.of {n : Nat} {l l2 : List (Nat × Value)} {ds : List ADef} (h : ∀ p ∈ l2, lk l2 p.1 = some p.2 → lkv n l p.1 = p.2) (hl : ∀ p ∈ l, p.1 < n) : Wk ⟨S n l, n, ds⟩ ⟨S n l2, n, ds⟩ := by
  intro μ b ar
  refine ⟨ar.n, fun i => ?_, ar.ds⟩
  have h0 := ar.t i
  dsimp only at h0 ⊢
  rw [aev_S] at h0 ⊢
  have key : ∀ l2 : List (Nat × Value), (∃ v, lk l2 i = some v ∧ (i, v) ∈ l2 ∧ lkv n l2 i = v) ∨ (lkv n l2 i = if i < n then poison else undef) := by
    intro l2
    induction l2 with
    | nil => exact .inr rfl
    | cons p r ih =>
      obtain ⟨j, v⟩ := p
      by_cases e : i = j
      · subst e; exact .inl ⟨v, by simp [lk], by simp, by simp [lkv]⟩
      · rcases ih with ⟨w, h1, h2, h3⟩ | h1
        · exact .inl ⟨w, by simp [lk, e, h1], by simp [h2], by simp [lkv, e, h3]⟩
        · exact .inr (by simp only [lkv, if_neg e]; exact h1)
  rcases key l2 with ⟨v, h1, h2, h3⟩ | h1
  · have hv := h (i, v) h2 h1
    dsimp only at hv
    rw [h3, ← hv]; exact h0
  · rw [h1]
    by_cases e : i < n
    · rw [if_pos e]; exact .poison _
    · rw [if_neg e]
      have : lkv n l i = undef := by
        have hh : ∀ l : List (Nat × Value), (∀ p ∈ l, p.1 < n) → lkv n l i = undef := by
          intro l hl
          induction l with
          | nil => simp [lkv, e]
          | cons p r ih =>
            obtain ⟨j, v⟩ := p
            have hj : j < n := hl (j, v) (by simp)
            rw [lkv, if_neg (by intro e'; exact e (by rw [e']; exact hj))]
            exact ih fun p hp => hl p (by simp [hp])
        exact hh l hl
      rw [this] at h0; exact h0
theorem lkv_zip (n i : Nat) : ∀ (args : List Value) (k : Nat), lkv n ((args.zipIdx k).map fun p => (p.2, p.1)) i = if k ≤ i ∧ i < k + args.length then args.getD (i - k) undef else if i < n then poison else undef
  | [], k => by
    rw [if_neg (show ¬ (k ≤ i ∧ i < k + ([] : List Value).length) by simp only [List.length_nil]; omega)]; rfl
  | v :: r, k => by
    rw [List.zipIdx_cons, List.map_cons, lkv]
    by_cases e : i = k
    · subst e; simp
    · rw [if_neg e, lkv_zip n i r (k + 1)]
      by_cases e2 : k + 1 ≤ i ∧ i < k + 1 + r.length
      · rw [if_pos e2, if_pos (show k ≤ i ∧ i < k + (v :: r).length by simp only [List.length_cons]; omega)]
        rw [show i - k = (i - (k + 1)) + 1 from by omega]; rfl
      · rw [if_neg e2, if_neg (show ¬ (k ≤ i ∧ i < k + (v :: r).length) by simp only [List.length_cons]; omega)]
theorem Wk.enter {fn : Func} {args : List Value} {n : Nat} (hn : fn.ntmps = n) (ha : args.length ≤ n) : Wk (enterAct fn args) ⟨S n (args.zipIdx.map fun p => (p.2, p.1)), n, []⟩ := by
  intro μ b ar
  have hn0 : max fn.ntmps args.length = n := by omega
  have h1 := ar.n
  have hds := ar.ds
  simp only [enterAct, hn0] at h1 hds
  refine ⟨h1, fun i => ?_, hds⟩
  have h0 := ar.t i
  simp only [enterAct] at h0
  rw [aev_tmp, PT.get_putL, PT.get_leaf] at h0
  dsimp only
  rw [aev_S]
  rw [lkv_zip n i args 0]
  by_cases e : 0 ≤ i ∧ i < 0 + args.length
  · rw [if_pos e] at h0 ⊢
    simpa using h0
  · rw [if_neg e] at h0 ⊢
    by_cases e2 : i < n
    · rw [if_pos e2]; exact .poison _
    · rw [if_neg e2]; exact h0

/-! ### Operations -/
abbrev AK := AX → AAct → AH → Prop
def putP (a : AAct) (d : Option Tmp) (v : Value) (k : AAct → Prop) : Prop := match a.put d v with
  | some a' => k a'
  | none => False
def wpO (P : Program) (E : Env) (ops : Array Oper) (K : AK) : List Oper → AAct → AH → Prop
  | [], a, h => K .normal a h
  | o :: r, a, h => match aguard ops a o.guard with
    | none => False
    | some false => putP a o.dst undef fun a' => wpO P E ops K r a' h
    | some true => match aop E o (aev a.t) h with
      | some (.val v h') => putP a o.dst v fun a' => wpO P E ops K r a' h'
      | some (.enter f args) => Sem P f args h fun e h' => match e with
        | .ret v => putP a o.dst v fun a' => wpO P E ops K r a' h'
        | .panic v => K (.panic v) a h'
      | some (.defr fn cap args) => putP { a with ds := ⟨fn, cap, args⟩ :: a.ds } o.dst undef fun a' => wpO P E ops K r a' h
      | some (.panic v) => K (.panic v) a h
      | _ => False
/-- Behind a call in a region. -/
def callK (P : Program) (E : Env) (ops : Array Oper) (K : AK) (r : List Oper) (a : AAct) (d : Option Tmp) : AEnd → AH → Prop := fun e h' => match e with
  | .ret v => putP a d v fun a' => wpO P E ops K r a' h'
  | .panic v => K (.panic v) a h'
def KPost (P : Program) (K : AK) (μ : Mp) (h : AH) (W : World) (ex : Exit) (b' : Act) (W' : World) : Prop := ∃ e a' h', K e a' h' ∧ Post P μ h W e a' h' ex b' W'
theorem KPost.trans {P : Program} {K : AK} {μ μ1 : Mp} {h h1 : AH} {W W1 : World} (s1 : Sim P μ1 h1 W1) (st : Stp μ μ1 h h1 W W1) {ex : Exit} {b' : Act} {W' : World} (hp : KPost P K μ1 h1 W1 ex b' W') : KPost P K μ h W ex b' W' := by
  obtain ⟨e, a', h', k, hp⟩ := hp
  exact ⟨e, a', h', k, hp.trans s1 st⟩

section
variable {P : Program} {E : Env} (ok : EnvOk P E)
include ok in
theorem wpO_ok {ops : Array Oper} {K : AK} : ∀ (l : List Oper) (i : Nat) (_ : ∀ j o, l[j]? = some o → ops[i + j]? = some o) (a : AAct) (h : AH) (_ : wpO P E ops K l a h) {Q : Exit → Act → World → Prop}
    (μ : Mp) (W : World) (b : Act) (_ : Sim P μ h W) (_ : AR μ a b) (_ : ∀ ex b' W', KPost P K μ h W ex b' W' → Q ex b' W'), wpOps P ops Q (List.range' i l.length) b W
  | [], i, hl, a, h, hr, Q, μ, W, b, s, ar, hQ => hQ Exit.normal _ _ ⟨AX.normal, a, h, hr, μ, trivial, ar, s, .refl _ _ _⟩
  | o :: r, i, hl, a, h, hr, Q, μ, W, b, s, ar, hQ => by
    rw [List.length_cons, List.range'_succ]
    have ho : ops[i]? = some o := hl 0 o rfl
    have hl' : ∀ j o', r[j]? = some o' → ops[i + 1 + j]? = some o' := fun j o' hj => by have := hl (j + 1) o' (by simpa using hj); rw [← this]; congr 1; omega
    have go : ∀ (a1 : AAct) (h1 : AH), wpO P E ops K r a1 h1 → ∀ (μ1 : Mp) (W1 : World) (b1 : Act), Sim P μ1 h1 W1 → AR μ1 a1 b1 → (∀ ex b' W', KPost P K μ1 h1 W1 ex b' W' → Q ex b' W') → wpOps P ops Q (List.range' (i + 1) r.length) b1 W1 :=
      fun a1 h1 hk μ1 W1 b1 s1 ar1 hQ1 => wpO_ok r (i + 1) hl' a1 h1 hk μ1 W1 b1 s1 ar1 hQ1
    simp only [wpOps, ho]
    unfold wpO at hr
    split at hr
    · exact hr.elim
    · rename_i hg
      have := aguard_ok ar hg
      rw [if_neg (by rw [this]; simp)]
      unfold putP at hr
      split at hr
      · rename_i a1 hp
        exact go a1 h hr μ W _ s (ar.put .undef hp) hQ
      · exact hr.elim
    · rename_i hg
      have := aguard_ok ar hg
      rw [if_pos this]
      left
      unfold Oper.wp
      split at hr
      · rename_i v h1 hn
        obtain ⟨μ1, v', W1, hrun, hv, s1, st⟩ := aop_ok ok s (fun x _ => ar.eval x) hn
        unfold putP at hr
        split at hr
        · rename_i a1 hp
          have hk1 := go a1 h1 hr μ1 W1 (b.put o.dst v') s1 ((ar.mono st.sub).put hv hp) (fun ex b' W' hp' => hQ ex b' W' (hp'.trans s1 st))
          rcases hrun with e | ⟨e, e2⟩
          · rw [e]; exact hk1
          · rw [e]; subst e2; exact hk1
        · exact hr.elim
      · rename_i f args hn
        obtain ⟨args', hrun, hx⟩ := aop_ok ok s (fun x _ => ar.eval x) hn
        rw [hrun]
        refine Calls.mono (hr μ W args' s hx) ?_
        intro end' W1 ⟨e, h1, he0, μ1, he, s1, st⟩
        cases e with
        | ret v =>
          cases end' with
          | returned v' =>
            unfold putP at he0
            dsimp only at he0
            split at he0
            · rename_i a1 hp
              exact go a1 h1 he0 μ1 W1 _ s1 ((ar.mono st.sub).put he hp) (fun ex b' W' hp' => hQ ex b' W' (hp'.trans s1 st))
            · exact he0.elim
          | panicked ch => exact he.elim
          | outgrown => exact he.elim
        | panic v =>
          cases end' with
          | returned v' => exact he.elim
          | panicked ch => exact hQ _ _ _ ⟨.panic v, a, h1, he0, μ1, he, ar.mono st.sub, s1, st⟩
          | outgrown => exact he.elim
      · rename_i fn cap args hn
        obtain ⟨cap', args', hrun, hx, hy⟩ := aop_ok ok s (fun x _ => ar.eval x) hn
        rw [hrun]
        unfold putP at hr
        split at hr
        · rename_i a1 hp
          have ar' : AR μ { a with ds := ⟨fn, cap, args⟩ :: a.ds } { b with defers := { target := .fn fn cap', args := args' } :: b.defers } := ⟨ar.n, ar.t, .cons (d := ⟨fn, cap, args⟩) hx hy ar.ds⟩
          exact go a1 h hr μ W _ s (ar'.put .undef hp) hQ
        · exact hr.elim
      · rename_i v hn
        obtain ⟨v', hrun, hv⟩ := aop_ok ok s (fun x _ => ar.eval x) hn
        rw [hrun]
        exact hQ _ _ _ ⟨.panic v, a, h, hr, μ, ⟨v', rfl, hv⟩, ar, s, .refl _ _ _⟩
      · exact hr.elim

/-! ### Code -/
def SemC (P : Program) (c : Code) (K : AK) (a : AAct) (h : AH) : Prop := ∀ μ W b, Sim P μ h W → AR μ a b → c.wp P (KPost P K μ h W) b W
/-- A region of open order: all calls in it told ahead. -/
def wpT (E : Env) (call : ACall) (ops : Array Oper) (pairs : List (Nat × Nat)) (K : AK) : List Oper → List (AAct × AH) → AAct → AH → Prop
  | [], acc, a, h => pairs.all (critOne E ops acc ops.size) = true ∧ K .normal a h
  | o :: r, acc, a, h => match aguard ops a o.guard with
    | none => False
    | some false => putP a o.dst undef fun a' => wpT E call ops pairs K r ((a', h) :: acc) a' h
    | some true => match aop E o (aev a.t) h with
      | some (.val v h') => putP a o.dst v fun a' => wpT E call ops pairs K r ((a', h') :: acc) a' h'
      | some (.enter f args) => ∃ v h', call f args h = some (.ret v, h') ∧ putP a o.dst v fun a' => wpT E call ops pairs K r ((a', h') :: acc) a' h'
      | _ => False
theorem wpT_run {call : ACall} {ops : Array Oper} {pairs : List (Nat × Nat)} {K : AK} : ∀ (l : List Oper) (acc : List (AAct × AH)) (a : AAct) (h : AH), wpT E call ops pairs K l acc a h → ∃ a' h', aopsT E call ops pairs l acc a h = R.ok AX.normal a' h' ∧ K AX.normal a' h'
  | [], acc, a, h, hw => ⟨a, h, by
      show (match pairs.all (critOne E ops acc ops.size) with | true => R.ok AX.normal a h | false => .bad) = _
      rw [hw.1], hw.2⟩
  | o :: r, acc, a, h, hw => by
    have hd : aopsT E call ops pairs (o :: r) acc a h = aoneOpN E call ops o (fun a' h' => aopsT E call ops pairs r ((a', h') :: acc) a' h') a h := rfl
    rw [hd]
    unfold wpT at hw
    unfold aoneOpN
    split at hw
    · exact hw.elim
    · rename_i hg
      simp only [hg]
      unfold putP at hw
      unfold putThen
      split at hw
      · rename_i a1 hp
        simp only [hp]
        exact wpT_run r _ _ _ hw
      · exact hw.elim
    · rename_i hg
      simp only [hg]
      unfold afterOpN
      split at hw
      · rename_i v h1 hn
        simp only [hn]
        unfold putP at hw
        unfold putThen
        split at hw
        · rename_i a1 hp
          simp only [hp]
          exact wpT_run r _ _ _ hw
        · exact hw.elim
      · rename_i f args hn
        simp only [hn]
        obtain ⟨v, h1, hcall, hw⟩ := hw
        simp only [afterCall, hcall]
        unfold putP at hw
        unfold putThen
        split at hw
        · rename_i a1 hp
          simp only [hp]
          exact wpT_run r _ _ _ hw
        · exact hw.elim
      · exact hw.elim

def wpC (P : Program) (E : Env) (cr : Crit) : Code → AK → AAct → AH → Prop
  | .skip, K, a, h => K .normal a h
  | .region id ops d, K, a, h => match d with
    | false => wpO P E ops K ops.toList a h
    | true => ∃ call, CallOk P call ∧ wpT E call ops (critOf cr id) K ops.toList [(a, h)] a h
  | .seq x y, K, a, h => wpC P E cr x (fun e a h => match e with
    | .normal => wpC P E cr y K a h
    | e => K e a h) a h
  | .cond c x y, K, a, h => ∃ b, aev a.t c = .bool b ∧ (b = true → wpC P E cr x K a h) ∧ (b = false → wpC P E cr y K a h)
  | .block id x, K, a, h => wpC P E cr x (fun e a h => match e with
    | .exit j => if j = id then K .normal a h else K (.exit j) a h
    | e => K e a h) a h
  | .loop x, K, a, h => SemC P (.loop x) K a h
  | .exit id, K, a, h => K (.exit id) a h
  | .label _, K, a, h => K .normal a h
  | .ret, K, a, h => K .ret a h
  | _, _, _, _ => False

theorem XR.exit_of {μ : Mp} {i : Nat} {ex : Exit} (h : XR μ (.exit i) ex) : ex = .exit i := by
  cases ex <;> first | exact h.elim | (have h : i = _ := h; rw [h])
include ok in
theorem wpC_ok (hm : P.follows .mixedOrders = true) {cr : Crit} : ∀ (c : Code), codeOk drawOk cr c = true → ∀ (K : AK) (a : AAct) (h : AH), wpC P E cr c K a h → SemC P c K a h := by
  intro c
  induction c with
  | skip => intro _ K a h hw μ W b s ar; exact wp_skip ⟨.normal, a, h, hw, μ, trivial, ar, s, .refl _ _ _⟩
  | region id ops d =>
    intro hk K a h hw μ W b s ar
    cases d with
    | false =>
      refine wp_region ?_
      have := wpO_ok ok ops.toList 0 (fun j o hj => by simpa using hj) a h hw (Q := KPost P K μ h W) μ W b s ar (fun _ _ _ hp => hp)
      simpa [List.range_eq_range'] using this
    | true =>
      obtain ⟨call, hc, hw⟩ := hw
      obtain ⟨a', h', hr, hK⟩ := wpT_run _ _ _ _ hw
      exact wp_mono (drawn_ok ok hc hm hk (by rw [hr]; rfl) s ar) fun ex b' W' hp => ⟨_, a', h', hK, hp⟩
  | seq x y ihx ihy =>
    intro hk K a h hw μ W b s ar
    have hk' : codeOk drawOk cr x = true ∧ codeOk drawOk cr y = true := by
      change (match codeOk drawOk cr x with | true => codeOk drawOk cr y | false => false) = true at hk
      split at hk
      · rename_i q; exact ⟨q, hk⟩
      · cases hk
    refine wp_seq (wp_mono (ihx hk'.1 _ a h hw μ W b s ar) fun ex b1 W1 hp => ?_)
    obtain ⟨e, a1, h1, hK, μ1, x1, ar1, s1, st1⟩ := hp
    cases e with
    | normal =>
      cases XR.normal_of x1
      exact wp_mono (ihy hk'.2 K a1 h1 hK μ1 W1 b1 s1 ar1) fun ex b2 W2 hp => hp.trans s1 st1
    | _ =>
      have hex := x1.not_normal nofun
      cases ex <;> first | exact absurd rfl hex | exact ⟨_, a1, h1, hK, μ1, x1, ar1, s1, st1⟩
  | cond c x y ihx ihy =>
    intro hk K a h hw μ W b s ar
    have hk' : codeOk drawOk cr x = true ∧ codeOk drawOk cr y = true := by
      change (match codeOk drawOk cr x with | true => codeOk drawOk cr y | false => false) = true at hk
      split at hk
      · rename_i q; exact ⟨q, hk⟩
      · cases hk
    obtain ⟨q, hq, h1, h2⟩ := hw
    have hv := ar.eval c
    rw [hq] at hv
    generalize hb : b.eval c = v at hv
    cases hv
    cases q with
    | true => exact wp_cond_true hb (ihx hk'.1 K a h (h1 rfl) μ W b s ar)
    | false => exact wp_cond_false hb (ihy hk'.2 K a h (h2 rfl) μ W b s ar)
  | block id x ih =>
    intro hk K a h hw μ W b s ar
    refine wp_block (wp_mono (ih hk _ a h hw μ W b s ar) fun ex b1 W1 hp => ?_)
    obtain ⟨e, a1, h1, hK, μ1, x1, ar1, s1, st1⟩ := hp
    cases e with
    | exit j =>
      cases XR.exit_of x1
      show if _ = _ then _ else _
      dsimp only at hK
      by_cases q : j = id
      · rw [if_pos q] at hK ⊢; exact ⟨_, a1, h1, hK, μ1, trivial, ar1, s1, st1⟩
      · rw [if_neg q] at hK ⊢; exact ⟨_, a1, h1, hK, μ1, rfl, ar1, s1, st1⟩
    | _ => cases ex <;> first | exact x1.elim | exact ⟨_, a1, h1, hK, μ1, x1, ar1, s1, st1⟩
  | loop x ih => intro hk K a h hw; exact hw
  | rangeFunc _ _ _ _ _ _ => intro _ K a h hw; exact hw.elim
  | exit id => intro _ K a h hw μ W b s ar; exact wp_exit ⟨_, a, h, hw, μ, rfl, ar, s, .refl _ _ _⟩
  | scope _ _ => intro _ K a h hw; exact hw.elim
  | label l => intro _ K a h hw μ W b s ar; exact wp_label ⟨_, a, h, hw, μ, trivial, ar, s, .refl _ _ _⟩
  | goto _ => intro _ K a h hw; exact hw.elim
  | ret => intro _ K a h hw μ W b s ar; exact wp_ret ⟨_, a, h, hw, μ, trivial, ar, s, .refl _ _ _⟩
  | refuse _ => intro _ K a h hw; exact hw.elim

/-- Behind a round. -/
def loopK (I : Nat → AAct → AH → Prop) (m : Nat) (K : AK) : AK := fun e a h => match e with
  | .normal => ∃ m', m' < m ∧ ∃ a2, Wk a a2 ∧ I m' a2 h
  | e => K e a h
include ok in
theorem SemC.loop (hm : P.follows .mixedOrders = true) {cr : Crit} {x : Code} (hk : codeOk drawOk cr x = true) {K : AK} (I : Nat → AAct → AH → Prop) (hI : ∀ m a h, I m a h → wpC P E cr x (loopK I m K) a h)
    {m0 : Nat} {a a0 : AAct} {h : AH} (hw : Wk a a0) (h0 : I m0 a0 h) : SemC P (.loop x) K a h := by
  have key : ∀ n m, m < n → ∀ a h, I m a h → ∀ μ W b, Sim P μ h W → AR μ a b → ∀ {Q : Exit → Act → World → Prop}, (∀ ex b' W', KPost P K μ h W ex b' W' → ex ≠ .normal → Q ex b' W') → Code.rounds P x Q n b W := by
    intro n
    induction n with
    | zero => intro m hmn; omega
    | succ n ihn =>
      intro m hmn a h hi μ W b s ar Q hQ
      rw [rounds_succ]
      refine wp_mono (wpC_ok ok hm x hk _ a h (hI m a h hi) μ W b s ar) fun ex b1 W1 hp => ?_
      obtain ⟨e, a1, h1, hK, μ1, x1, ar1, s1, st1⟩ := hp
      cases e with
      | normal =>
        cases XR.normal_of x1
        obtain ⟨m', hm', a2, hwk, hi'⟩ := hK
        exact ihn m' (by omega) a2 h1 hi' μ1 W1 b1 s1 (hwk _ _ ar1) fun ex b' W' hp hne => hQ ex b' W' (hp.trans s1 st1) hne
      | _ =>
        have hex := x1.not_normal nofun
        have := hQ ex b1 W1 ⟨_, a1, h1, hK, μ1, x1, ar1, s1, st1⟩ hex
        cases ex <;> first | exact absurd rfl hex | exact this
  intro μ W b s ar
  exact wp_loop_rounds (m0 + 1) (key (m0 + 1) m0 (by omega) a0 h h0 μ W b s (hw _ _ ar) fun ex b' W' hp _ => hp)

/-! ### A function -/
def retK (E : Env) (rs : Array ResultVar) (Q : AEnd → AH → Prop) : AK := fun e a h => match e with
  | .normal => a.ds = [] ∧ ∃ vs, ares E.T h a.t rs.toList = some vs ∧ Q (.ret (tup vs)) h
  | .ret => a.ds = [] ∧ ∃ vs, ares E.T h a.t rs.toList = some vs ∧ Q (.ret (tup vs)) h
  | .panic v => a.ds = [] ∧ Q (.panic v) h
  | _ => False
theorem DL.nil_of {μ : Mp} {l' : List Deferred} (h : DL μ [] l') : l' = [] := by cases h; rfl
include ok in
theorem Sem.of_code (hm : P.follows .mixedOrders = true) {cr : Crit} {f : FuncId} {fn : Func} {c : Code} (hf : P.funcs[f]? = some fn) (hb : fn.body = some c) (hk : codeOk drawOk cr c = true) {args : List Value} {h : AH} {Q : AEnd → AH → Prop} {a0 : AAct} (hw : Wk (enterAct fn args) a0)
    (hc : wpC P E cr c (retK E fn.results Q) a0 h) : Sem P f args h Q := by
  intro μ W args' s hx
  refine calls_of_wp_defers hf hb (wp_mono (wpC_ok ok hm c hk _ a0 h hc μ W _ s (hw _ _ (enter_ok hx))) fun ex1 b1 W1 hp => ?_)
  obtain ⟨e, a1, h1, hK, μ1, x1, ar1, s1, st1⟩ := hp
  have hdc : DCallOk P (fun _ _ _ _ => none) := by intro f args u h e u' h' hr; cases hr
  have hnil : ∀ {ds : List ADef} {ds' : List Deferred}, ds = [] → DL μ1 ds ds' → DL μ1 [] ds' := fun e d => by rw [e] at d; exact d
  have hend : a1.ds = [] → (∃ vs, ares E.T h1 a1.t fn.results.toList = some vs ∧ Q (.ret (tup vs)) h1) → Leaves P fn b1.tmps (fun end' W' => ∃ e h', Q e h' ∧ PEnd P μ h W e h' end' W') b1.defers .returning W1 := by
    intro hd ⟨vs, hvs, hq⟩
    exact leave_ok ok hdc [] .ret h1 (.ret (tup vs)) h1 (by rw [aleave, hvs]) s1 ar1.t (hnil hd ar1.ds) .ret fun end' μ' W' x y z => ⟨_, h1, hq, μ', x, y, Stp.trans s1 st1 z⟩
  cases e with
  | normal =>
    cases XR.normal_of x1
    exact hend hK.1 hK.2
  | ret =>
    have : ex1 = .ret := by cases ex1 <;> first | rfl | exact x1.elim
    subst this
    exact hend hK.1 hK.2
  | panic v =>
    cases ex1 with
    | panic ch =>
      obtain ⟨v', rfl, hv⟩ := x1
      exact leave_ok ok hdc [] (.pan v false) h1 (.panic v) h1 (by rw [aleave]) s1 ar1.t (hnil hK.1 ar1.ds) (.pan hv) fun end' μ' W' x y z => ⟨_, h1, hK.2, μ', x, y, Stp.trans s1 st1 z⟩
    | _ => exact x1.elim
  | exit i => exact hK.elim
  | goto l => exact hK.elim
end
end
end Go.Ab
