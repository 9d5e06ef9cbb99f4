import Derived.Test.YtmdcmnjeonnfiaaGreatDoorAbN
/-! A region of open order runs so: the law. -/
set_option linter.unusedSimpArgs false
set_option linter.unusedVariables false
set_option linter.unusedSectionVars false
namespace Go.Ab
noncomputable section

def StepR (E : Env) (call : ACall) (ops : Array Oper) (o : Oper) (s s' : AAct × AH) : Prop :=
  (aguard ops s.1 o.guard = some false ∧ s.1.put o.dst undef = some s'.1 ∧ s'.2 = s.2) ∨
  (aguard ops s.1 o.guard = some true ∧ ∃ v, s.1.put o.dst v = some s'.1 ∧ (aop E o (aev s.1.t) s.2 = some (.val v s'.2) ∨ ∃ f args, aop E o (aev s.1.t) s.2 = some (.enter f args) ∧ call f args s.2 = some (.ret v, s'.2)))
theorem step_of {E : Env} {call : ACall} {ops : Array Oper} {o : Oper} {k : AAct → AH → R AX} {a : AAct} {h : AH} {a' : AAct} {h' : AH} (hr : aoneOpN E call ops o k a h = .ok .normal a' h') :
    ∃ s', StepR E call ops o (a, h) s' ∧ k s'.1 s'.2 = .ok .normal a' h' := by
  unfold aoneOpN at hr
  split at hr
  · cases hr
  · rename_i hg
    unfold putThen at hr
    split at hr
    · rename_i a1 hp; exact ⟨(a1, h), .inl ⟨hg, hp, rfl⟩, hr⟩
    · cases hr
  · rename_i hg
    unfold afterOpN at hr
    split at hr
    · rename_i v h1 hn
      unfold putThen at hr
      split at hr
      · rename_i a1 hp; exact ⟨(a1, h1), .inr ⟨hg, v, hp, .inl hn⟩, hr⟩
      · cases hr
    · rename_i f args hn
      unfold afterCall at hr
      split at hr
      · rename_i v h1 hcall
        unfold putThen at hr
        split at hr
        · rename_i a1 hp; exact ⟨(a1, h1), .inr ⟨hg, v, hp, .inr ⟨f, args, hn, hcall⟩⟩, hr⟩
        · cases hr
      · cases hr
      · cases hr
    · cases hr

theorem states_of {E : Env} {call : ACall} {ops : Array Oper} {pairs : List (Nat × Nat)} : ∀ (l : List Oper) (i : Nat) (acc : List (AAct × AH)) (a : AAct) (h : AH) {a' : AAct} {h' : AH}, aopsT E call ops pairs l acc a h = .ok .normal a' h' →
    ∀ (S0 : Nat → AAct × AH), (∀ j, j ≤ i → acc[i - j]? = some (S0 j)) → acc.length = i + 1 → S0 i = (a, h) →
    ∃ (S : Nat → AAct × AH) (fin : List (AAct × AH)), (∀ j, j ≤ i → S j = S0 j) ∧ (∀ j o, l[j]? = some o → StepR E call ops o (S (i + j)) (S (i + j + 1))) ∧ S (i + l.length) = (a', h') ∧ (∀ j, j ≤ i + l.length → fin[i + l.length - j]? = some (S j)) ∧ pairs.all (critOne E ops fin ops.size) = true
  | [], i, acc, a, h, a', h', hr, S0, hacc, hlen, h0 => by
    change (match pairs.all (critOne E ops acc ops.size) with
      | true => R.ok AX.normal a h
      | false => .bad) = _ at hr
    split at hr
    · rename_i hp
      cases hr
      exact ⟨S0, acc, fun _ _ => rfl, fun j o e => by simp at e, h0, fun j hj => hacc j hj, hp⟩
    · cases hr
  | o :: r, i, acc, a, h, a', h', hr, S0, hacc, hlen, h0 => by
    change aoneOpN E call ops o (fun a' h' => aopsT E call ops pairs r ((a', h') :: acc) a' h') a h = _ at hr
    obtain ⟨s', hs, hk⟩ := step_of hr
    have := states_of r (i + 1) (s' :: acc) s'.1 s'.2 hk (fun j => if j = i + 1 then s' else S0 j) (fun j hj => by
      by_cases e : j = i + 1
      · subst e; simp
      · rw [if_neg e, show i + 1 - j = (i - j) + 1 from by omega, List.getElem?_cons_succ]; exact hacc j (by omega)) (by simp [hlen]) (by simp)
    obtain ⟨S, fin, f1, f2, f3, f4, f5⟩ := this
    refine ⟨S, fin, fun j hj => ?_, fun j o' hj => ?_, ?_, ?_, f5⟩
    · rw [f1 j (by omega), if_neg (by omega)]
    · cases j with
      | zero =>
        simp at hj; subst hj
        have e1 : S i = (a, h) := by rw [f1 i (by omega), if_neg (by omega), h0]
        have e2 : S (i + 1) = s' := by rw [f1 (i + 1) (by omega), if_pos rfl]
        rw [Nat.add_zero, e1, e2]; exact hs
      | succ j =>
        have := f2 j o' (by simpa using hj)
        rw [show i + (j + 1) = i + 1 + j from by omega]; exact this
    · rw [List.length_cons, show i + (r.length + 1) = i + 1 + r.length from by omega]; exact f3
    · intro j hj
      rw [List.length_cons] at hj ⊢
      rw [show i + (r.length + 1) - j = i + 1 + r.length - j from by omega]
      exact f4 j (by omega)
theorem put_spec {a a1 : AAct} {d : Option Tmp} {v : Value} (h : a.put d v = some a1) : a1.n = a.n ∧ a1.ds = a.ds ∧ (∀ x, d ≠ some x → a1.t.get x = a.t.get x) ∧ (∀ x, d = some x → x < a.n ∧ a1.t.get x = some v) := by
  unfold AAct.put at h
  split at h
  · cases h; exact ⟨rfl, rfl, fun _ _ => rfl, fun _ e => by cases e⟩
  · rename_i d
    split at h
    · rename_i hlt
      cases h
      refine ⟨rfl, rfl, fun x hx => ?_, fun x hx => ?_⟩
      · simp only [PT.get_put]
        rw [if_neg (fun e => hx (by rw [e]))]
      · cases hx
        refine ⟨Nat.le_of_ble_eq_true hlt, ?_⟩
        simp [PT.get_put]
    · cases h
theorem StepR.put {E : Env} {call : ACall} {ops : Array Oper} {o : Oper} {s s' : AAct × AH} (h : StepR E call ops o s s') : ∃ v, s.1.put o.dst v = some s'.1 := by
  rcases h with ⟨_, h, _⟩ | ⟨_, v, h, _⟩
  · exact ⟨_, h⟩
  · exact ⟨v, h⟩
theorem StepR.heap {E : Env} {call : ACall} {ops : Array Oper} {o : Oper} {s s' : AAct × AH} (h : StepR E call ops o s s') (hk : kind o.op < 2) : s'.2 = s.2 := by
  rcases h with ⟨_, _, h⟩ | ⟨_, v, _, h | ⟨f, args, h, _⟩⟩
  · exact h
  · obtain ⟨v', e⟩ := kind_read hk h
    injection e with e1 e2
  · obtain ⟨v', e⟩ := kind_read hk h
    cases e
theorem veq_eq {v v' : Value} (h : veq v v' = true) : v = v' := by
  unfold veq at h
  split at h <;> (try simp only [Bool.and_eq_true, beq_iff_eq] at h)
  · rw [h]
  · split at h
    · rename_i e; subst e; rw [beq_iff_eq] at h; rw [h]
    · cases h
  · rename_i a b
    have : a = b := by
      obtain ⟨a⟩ := a; obtain ⟨b⟩ := b
      congr 1
      exact Array.ext' h
    rw [this]
  · rfl
  · rw [Nat.eq_of_beq_eq_true h.1, Nat.eq_of_beq_eq_true h.2]
  · rfl
  · rw [Nat.eq_of_beq_eq_true h.1.1.1, Nat.eq_of_beq_eq_true h.1.1.2, Nat.eq_of_beq_eq_true h.1.2, Nat.eq_of_beq_eq_true h.2]
  · rfl
  · rw [Nat.eq_of_beq_eq_true h]
  · rfl
  · rfl
  · cases h
theorem aguard_loc {μ : Mp} {a : AAct} {b : Act} {ops : Array Oper} {o : Oper} {w : Bool} (h : ∀ j want d, o.guard = some (j, want) → (ops[j]?).bind (·.dst) = some d → V μ (aev a.t (.tmp d)) (b.tmps.getD d undef)) (hn : a.n ≤ b.tmps.size) (hg : aguard ops a o.guard = some w) : Region.wanted o (yielded ops b.tmps) = w := by
  unfold aguard at hg
  unfold Region.wanted
  split at hg
  · rename_i e; cases hg; rw [e]
  · rename_i j want e
    rw [e]
    dsimp only
    split at hg
    · rename_i d hd
      have hr := h j want d e hd
      rw [aev_tmp] at hr
      unfold yielded
      rw [hd]
      dsimp only [Option.bind]
      have hget : ∀ v', b.tmps.getD d undef = v' → v' ≠ undef → b.tmps[d]? = some v' := by
        intro v' e1 e2
        rw [Array.getD_eq_getD_getElem?] at e1
        cases hq : b.tmps[d]? with
        | none => rw [hq] at e1; exact absurd e1.symm e2
        | some u => rw [hq] at e1; cases e1; rfl
      split at hg
      · rename_i v hv
        rw [hv] at hr
        cases hg
        have hx : b.tmps.getD d undef = .bool v := by
          generalize b.tmps.getD d undef = z at hr
          cases hr; rfl
        rw [hget _ hx (by nofun)]
        cases v <;> cases want <;> rfl
      · cases hg
      · rename_i n1 n2
        split at hg
        · cases hg
          have hnb : ∀ v, b.tmps[d]? ≠ some (.bool v) := by
            intro v e1
            have hx : b.tmps.getD d undef = .bool v := by rw [Array.getD_eq_getD_getElem?, e1]; rfl
            rw [hx] at hr
            cases hz : a.t.get d with
            | none => rw [hz] at hr; cases hr
            | some u =>
              rw [hz] at hr
              generalize hu : (some u).getD undef = u' at hr
              cases hr with
              | poison => exact n2 _ (by cases hu; exact hz)
              | bool => exact n1 _ (by cases hu; exact hz)
          cases hq : b.tmps[d]? with
          | none => cases want <;> rfl
          | some u => cases u <;> first | (exact absurd hq (hnb _)) | (cases want <;> rfl)
        · cases hg
    · cases hg

section
variable {P : Program} {E : Env} {call : ACall} {ops : Array Oper} {S : Nat → AAct × AH} {pairs : List (Nat × Nat)} {B : Nat → Nat} (D : DrawOk ops pairs B) (st : ∀ j o, ops[j]? = some o → StepR E call ops o (S j) (S (j + 1)))
include D st
theorem op_at {j : Nat} (h : j < ops.size) : ∃ o, ops[j]? = some o := ⟨ops[j], Array.getElem?_eq_getElem h⟩
theorem text_n : ∀ j, j ≤ ops.size → (S j).1.n = (S 0).1.n ∧ (S j).1.ds = (S 0).1.ds
  | 0, _ => ⟨rfl, rfl⟩
  | j + 1, hj => by
    obtain ⟨o, ho⟩ := op_at D st (show j < ops.size from hj)
    obtain ⟨v, hp⟩ := (st j o ho).put
    obtain ⟨h1, h2, _⟩ := put_spec hp
    obtain ⟨g1, g2⟩ := text_n j (by omega)
    exact ⟨h1.trans g1, h2.trans g2⟩
theorem text_1 {k : Nat} {ok' : Oper} {d : Tmp} (hk : ops[k]? = some ok') (hd : ok'.dst = some d) : ∀ j, k + 1 ≤ j → j ≤ ops.size → aev (S j).1.t (.tmp d) = aev (S (k + 1)).1.t (.tmp d)
  | 0, h1, _ => by omega
  | j + 1, h1, hj => by
    by_cases e : j = k
    · rw [e]
    · obtain ⟨o, ho⟩ := op_at D st (show j < ops.size from hj)
      obtain ⟨v, hp⟩ := (st j o ho).put
      obtain ⟨_, _, h3, _⟩ := put_spec hp
      have hne := (D.pair k j ok' o (by omega) hk ho).1 d hd
      rw [← text_1 hk hd j (by omega) (by omega), aev_tmp, aev_tmp, h3 d hne]
theorem text_2 {d : Tmp} : ∀ j, j ≤ ops.size → (∀ k o, k < j → ops[k]? = some o → o.dst ≠ some d) → aev (S j).1.t (.tmp d) = aev (S 0).1.t (.tmp d)
  | 0, _, _ => rfl
  | j + 1, hj, hn => by
    obtain ⟨o, ho⟩ := op_at D st (show j < ops.size from hj)
    obtain ⟨v, hp⟩ := (st j o ho).put
    obtain ⟨_, _, h3, _⟩ := put_spec hp
    rw [← text_2 j (by omega) (fun k o hk => hn k o (by omega)), aev_tmp, aev_tmp, h3 d (hn j o (by omega) ho)]
theorem text_h {p : Nat} : ∀ q, p ≤ q → q ≤ ops.size → (∀ k o, p ≤ k → k < q → ops[k]? = some o → kind o.op < 2) → (S q).2 = (S p).2
  | 0, h1, _, _ => by rw [show p = 0 from by omega]
  | q + 1, h1, hq, hn => by
    by_cases e : p = q + 1
    · rw [e]
    · obtain ⟨o, ho⟩ := op_at D st (show q < ops.size from hq)
      rw [(st q o ho).heap (hn q o (by omega) (by omega) ho)]
      exact text_h q (by omega) (by omega) (fun k o h1 h2 => hn k o h1 (by omega))
end

/-- How things stand behind what is listed. -/
structure LInv (P : Program) (ops : Array Oper) (S : Nat → AAct × AH) (μ0 : Mp) (W0 : World) (L : Array Bool) (b : Act) (W : World) (μ : Mp) (τ : Nat) : Prop where
  size : L.size = ops.size
  closed : ∀ (j : Nat) (o : Oper), ops[j]? = some o → L[j]? = some true → ∀ e ∈ o.after.toList, bindsA e = true → L[e.on]? = some true
  le : τ ≤ ops.size
  chain : ∀ (k : Nat) (o : Oper), ops[k]? = some o → kind o.op = 2 → (L[k]? = some true ↔ k < τ)
  sim : Sim P μ (S τ).2 W
  stp : Stp μ0 μ (S 0).2 (S τ).2 W0 W
  n : (S 0).1.n ≤ b.tmps.size
  ds : DL μ (S 0).1.ds b.defers
  done : ∀ (k : Nat) (o : Oper) (d : Tmp), ops[k]? = some o → L[k]? = some true → o.dst = some d → V μ (aev (S (k + 1)).1.t (.tmp d)) (b.tmps.getD d undef)
  rest : ∀ d, (∀ (k : Nat) (o : Oper), ops[k]? = some o → L[k]? = some true → o.dst ≠ some d) → V μ (aev (S 0).1.t (.tmp d)) (b.tmps.getD d undef)

theorem mem_looks {ops : Array Oper} {o : Oper} {t : Tmp} (h : Operand.tmp t ∈ o.op.operands.toList) : t ∈ o.looksAt ops := by
  unfold Oper.looksAt
  exact List.mem_append_left _ (List.mem_filterMap.2 ⟨_, h, rfl⟩)
theorem guard_looks {ops : Array Oper} {o : Oper} {t : Tmp} {j : Nat} {want : Bool} (h : o.guard = some (j, want)) (hd : (ops[j]?).bind (·.dst) = some t) : t ∈ o.looksAt ops := by
  unfold Oper.looksAt
  refine List.mem_append_right _ ?_
  rw [h]
  dsimp only
  rw [hd]
  simp

section
variable {P : Program} {E : Env} (ok : EnvOk P E) {call : ACall} (hc : CallOk P call) {ops : Array Oper} {S : Nat → AAct × AH} {pairs : List (Nat × Nat)} {B : Nat → Nat} (D : DrawOk ops pairs B)
  (st : ∀ j o, ops[j]? = some o → StepR E call ops o (S j) (S (j + 1)))
  (cr : ∀ i k, (i, k) ∈ pairs → ∀ o, ops[i]? = some o → aguard ops (S i).1 o.guard = some true → sameAt E o (S i).1.t (S i).2 (S (if i < k then k + 1 else k)).2 = true)
  {μ0 : Mp} {W0 : World} {L : Array Bool} {b : Act} {W : World} {μ : Mp} {τ : Nat} (I : LInv P ops S μ0 W0 L b W μ τ)

include D I in
theorem listed_before : ∀ (j : Nat), L[j]? = some true → ∀ i, (B j).testBit i = true → L[i]? = some true := by
  intro j
  induction j using Nat.strongRecOn with
  | ind j ih =>
    intro hj i hi
    have hl : j < ops.size := by
      have := (Array.getElem?_eq_some_iff.1 hj).1
      rw [I.size] at this; exact this
    have ho := Array.getElem?_eq_getElem hl
    obtain ⟨e, he, hb, h1⟩ := D.mask j _ ho i hi
    have h2 := I.closed j _ ho hj e he hb
    rcases h1 with h1 | h1
    · rw [h1]; exact h2
    · exact ih e.on (D.deps j _ ho e he hb) h2 i h1

theorem ready_spec {L : Array Bool} (hL : L.size = ops.size) {i : Nat} (hi : i ∈ Region.ready .any ops L) : ∃ o, ops[i]? = some o ∧ L[i]? = some false ∧ ∀ e ∈ o.after.toList, bindsA e = true → L[e.on]? = some true := by
  unfold Region.ready at hi
  simp only [List.mem_filter, List.mem_range, Bool.and_eq_true, Bool.not_eq_true'] at hi
  obtain ⟨h1, h2, h3⟩ := hi
  have ho := Array.getElem?_eq_getElem h1
  refine ⟨_, ho, ?_, ?_⟩
  · rw [Array.getD_eq_getD_getElem?] at h2
    have h4 := Array.getElem?_eq_getElem (xs := L) (i := i) (by omega)
    rw [h4] at h2 ⊢
    simpa using h2
  · intro e he hb
    rw [ho] at h3
    simp only [Option.map_some, Option.getD_some] at h3
    rw [← Array.all_toList] at h3
    have h5 := List.all_eq_true.1 h3 e he
    have hb' : Region.binds .any e = true := hb
    simp only [hb', Bool.not_true, Bool.false_or] at h5
    rw [Array.getD_eq_getD_getElem?] at h5
    cases hq : L[e.on]? with
    | none => rw [hq] at h5; cases h5
    | some v => rw [hq] at h5; rw [show v = true from h5]

include D I in
theorem ready_before {i : Nat} {o : Oper} (ho : ops[i]? = some o) (hdep : ∀ e ∈ o.after.toList, bindsA e = true → L[e.on]? = some true) {k : Nat} (hk : (B i).testBit k = true) : L[k]? = some true := by
  obtain ⟨e, he, hb, h1⟩ := D.mask i _ ho k hk
  rcases h1 with h1 | h1
  · rw [h1]; exact hdep e he hb
  · exact listed_before D I _ (hdep e he hb) k h1

include D st I in
/-- What an operation that is ready looks at is as in the order of the text. -/
theorem looks_ok {i : Nat} {o : Oper} (ho : ops[i]? = some o) (hf : L[i]? = some false) (hdep : ∀ e ∈ o.after.toList, bindsA e = true → L[e.on]? = some true) {t : Tmp} (ht : t ∈ o.looksAt ops) : V μ (aev (S i).1.t (.tmp t)) (b.tmps.getD t undef) := by
  have hi : i < ops.size := (Array.getElem?_eq_some_iff.1 ho).1
  by_cases hex : ∃ (k : Nat) (o' : Oper), ops[k]? = some o' ∧ L[k]? = some true ∧ o'.dst = some t
  · obtain ⟨k, o', hk, hl, hd⟩ := hex
    have h1 := I.done k o' t hk hl hd
    have hne : k ≠ i := fun e => by rw [e, hf] at hl; cases hl
    rcases Nat.lt_or_gt_of_ne hne with hlt | hgt
    · rw [text_1 D st hk hd i hlt (by omega)]; exact h1
    · have := (D.pair i k o o' hgt ho hk).2.2.1 t hd ht
      have := listed_before D I k hl i this
      rw [hf] at this; cases this
  · have h1 := I.rest t (fun k o' hk hl hd => hex ⟨k, o', hk, hl, hd⟩)
    rw [text_2 D st i (by omega)]
    · exact h1
    · intro k o' hki hk hd
      have := (D.pair k i o' o hki hk ho).2.1 t hd ht
      exact hex ⟨k, o', hk, ready_before D I ho hdep this, hd⟩

include D st I in
/-- One more is listed. -/
theorem inv_next {i : Nat} {o : Oper} (ho : ops[i]? = some o) (hf : L[i]? = some false) (hdep : ∀ e ∈ o.after.toList, bindsA e = true → L[e.on]? = some true)
    {v v' : Value} (hp : (S i).1.put o.dst v = some (S (i + 1)).1) {μ1 : Mp} {τ1 : Nat} {W1 : World} (hs : Sub μ μ1) (hv : V μ1 v v') (hle : τ1 ≤ ops.size)
    (hch : ∀ k o', ops[k]? = some o' → kind o'.op = 2 → ((L.setIfInBounds i true)[k]? = some true ↔ k < τ1)) (s1 : Sim P μ1 (S τ1).2 W1) (st1 : Stp μ0 μ1 (S 0).2 (S τ1).2 W0 W1) : LInv P ops S μ0 W0 (L.setIfInBounds i true) (b.put o.dst v') W1 μ1 τ1 := by
  have hi : i < ops.size := (Array.getElem?_eq_some_iff.1 ho).1
  obtain ⟨hn1, hd1, hx1, hx2⟩ := put_spec hp
  obtain ⟨tn, td⟩ := text_n D st i (by omega)
  have hget : ∀ k, (L.setIfInBounds i true)[k]? = some true ↔ k = i ∨ L[k]? = some true := by
    intro k
    rw [Array.getElem?_setIfInBounds]
    by_cases e : i = k
    · subst e
      rw [if_pos rfl, if_pos (by rw [I.size]; exact hi)]
      simp
    · rw [if_neg e]
      constructor
      · exact .inr
      · rintro (h | h)
        · exact absurd h.symm e
        · exact h
  have hsz : (b.put o.dst v').tmps.size = b.tmps.size := by unfold Act.put; split <;> simp
  have hother : ∀ d, o.dst ≠ some d → (b.put o.dst v').tmps.getD d undef = b.tmps.getD d undef := by
    intro d hne
    unfold Act.put
    split
    · rename_i d' e
      simp only [Array.getD_eq_getD_getElem?, Array.getElem?_setIfInBounds]
      rw [if_neg (fun e' => hne (by rw [e, e']))]
    · rfl
  have hdef : (b.put o.dst v').defers = b.defers := by unfold Act.put; split <;> rfl
  refine ⟨by simpa using I.size, ?_, hle, hch, s1, st1, by rw [hsz]; exact I.n, by rw [hdef]; exact I.ds.mono hs, ?_, ?_⟩
  · intro j o' hj hl e he hb
    rcases (hget j).1 hl with h | h
    · subst h
      rw [ho] at hj; cases hj
      exact (hget _).2 (.inr (hdep e he hb))
    · exact (hget _).2 (.inr (I.closed j o' hj h e he hb))
  · intro k o' d hk hl hd
    rcases (hget k).1 hl with h | h
    · subst h
      rw [ho] at hk; cases hk
      obtain ⟨q1, q2⟩ := hx2 d hd
      have hdlt : d < b.tmps.size := Nat.lt_of_lt_of_le (by rw [tn] at q1; exact q1) I.n
      have : (b.put o.dst v').tmps.getD d undef = v' := by
        rw [hd]
        simp [Act.put, Array.getD_eq_getD_getElem?, Array.getElem?_setIfInBounds, hdlt]
      rw [this, aev_tmp, q2]
      exact hv
    · have hne : k ≠ i := fun e => by rw [e, hf] at h; cases h
      have hdd : o.dst ≠ some d := by
        rcases Nat.lt_or_gt_of_ne hne with hlt | hgt
        · exact (D.pair k i o' o hlt hk ho).1 d hd
        · intro e; exact (D.pair i k o o' hgt ho hk).1 d e hd
      rw [hother d hdd]
      exact (I.done k o' d hk h hd).mono hs
  · intro d hall
    have hdd : o.dst ≠ some d := hall i o ho ((hget i).2 (.inl rfl))
    rw [hother d hdd]
    exact (I.rest d (fun k o' hk hl => hall k o' hk ((hget k).2 (.inr hl)))).mono hs
end

section
variable {P : Program} {E : Env} (ok : EnvOk P E) {call : ACall} (hc : CallOk P call) {ops : Array Oper} {S : Nat → AAct × AH} {pairs : List (Nat × Nat)} {B : Nat → Nat} (D : DrawOk ops pairs B)
  (st : ∀ j o, ops[j]? = some o → StepR E call ops o (S j) (S (j + 1)))
  (cr : ∀ i k, (i, k) ∈ pairs → ∀ o, ops[i]? = some o → aguard ops (S i).1 o.guard = some true → sameAt E o (S i).1.t (S i).2 (S (if i < k then k + 1 else k)).2 = true)
  {μ0 : Mp} {W0 : World} {L : Array Bool} {b : Act} {W : World} {μ : Mp} {τ : Nat} (I : LInv P ops S μ0 W0 L b W μ τ)

theorem kind_le (op : Op) : kind op ≤ 2 := by
  cases op <;> try exact Nat.le_refl _
  all_goals try exact Nat.zero_le _
  all_goals try exact (by decide : 1 ≤ 2)
  rename_i c
  obtain ⟨callee, args, tys⟩ := c
  cases callee with
  | builtin b => cases b <;> first | exact Nat.le_refl _ | exact Nat.zero_le _ | exact (by decide : 1 ≤ 2)
  | value f => exact Nat.le_refl _
  | invoke r m => exact Nat.le_refl _

include D st I in
/-- Where the heap stands when an effect is ready: right ahead of it. -/
theorem chain_now {i : Nat} {o : Oper} (ho : ops[i]? = some o) (hf : L[i]? = some false) (hdep : ∀ e ∈ o.after.toList, bindsA e = true → L[e.on]? = some true) (hk : kind o.op = 2) :
    (S τ).2 = (S i).2 ∧ ∀ k o', ops[k]? = some o' → kind o'.op = 2 → ((L.setIfInBounds i true)[k]? = some true ↔ k < i + 1) := by
  have hi : i < ops.size := (Array.getElem?_eq_some_iff.1 ho).1
  have hτ : τ ≤ i := by
    rcases Nat.lt_or_ge i τ with h | h
    · have := (I.chain i o ho hk).2 h
      rw [hf] at this; cases this
    · exact h
  have hall : ∀ k o', ops[k]? = some o' → kind o'.op = 2 → (k < i ↔ L[k]? = some true) := by
    intro k o' hk' hkk
    constructor
    · intro hlt
      exact ready_before D I ho hdep ((D.pair k i o' o hlt hk' ho).2.2.2.1 hkk hk)
    · intro hl
      rcases Nat.lt_trichotomy k i with h | h | h
      · exact h
      · rw [h, hf] at hl; cases hl
      · have := listed_before D I k hl i ((D.pair i k o o' h ho hk').2.2.2.1 hk hkk)
        rw [hf] at this; cases this
  constructor
  · symm
    refine text_h D st i hτ (by omega) fun k o' h1 h2 hk' => ?_
    rcases Nat.lt_or_ge (kind o'.op) 2 with h | h
    · exact h
    · have hkk : kind o'.op = 2 := Nat.le_antisymm (kind_le _) h
      have := (I.chain k o' hk' hkk).1 ((hall k o' hk' hkk).1 h2)
      omega
  · intro k o' hk' hkk
    rw [Array.getElem?_setIfInBounds]
    by_cases e : i = k
    · subst e
      rw [if_pos rfl, if_pos (by rw [I.size]; exact hi)]
      simp
    · rw [if_neg e, ← hall k o' hk' hkk]
      omega

include D st cr I in
/-- A read that is ready gives, over the heap as it stands, what it gives in the order of the text. -/
theorem read_now {i : Nat} {o : Oper} (ho : ops[i]? = some o) (hf : L[i]? = some false) (hdep : ∀ e ∈ o.after.toList, bindsA e = true → L[e.on]? = some true) (hk : kind o.op < 2) (hg : aguard ops (S i).1 o.guard = some true)
    {v : Value} {h1 : AH} (ha : aop E o (aev (S i).1.t) (S i).2 = some (.val v h1)) : ∃ h2, aop E o (aev (S i).1.t) (S τ).2 = some (.val v h2) := by
  have hi : i < ops.size := (Array.getElem?_eq_some_iff.1 ho).1
  rcases Nat.lt_or_ge (kind o.op) 1 with h0 | h0
  · exact ⟨_, kind_pure (by omega) (by
      obtain ⟨v', e⟩ := kind_read hk ha
      exact ha)⟩
  · have hk1 : kind o.op = 1 := by omega
    have hcrit : ∀ k, (i, k) ∈ pairs → ∃ h2, aop E o (aev (S i).1.t) (S (if i < k then k + 1 else k)).2 = some (.val v h2) := by
      intro k hp
      have := cr i k hp o ho hg
      unfold sameAt at this
      rw [ha] at this
      cases hq : aop E o (aev (S i).1.t) (S (if i < k then k + 1 else k)).2 with
      | none => rw [hq] at this; cases this
      | some n =>
        rw [hq] at this
        cases n with
        | val v' h2 => exact ⟨h2, by rw [veq_eq this]⟩
        | _ => cases this
    rcases Nat.lt_or_ge i τ with hlt | hge
    · -- the last effect ahead of τ, if there is one behind i
      have key : ∀ m, m ≤ τ → i ≤ m → (∃ h2, aop E o (aev (S i).1.t) (S m).2 = some (.val v h2)) := by
        intro m
        induction m with
        | zero => intro _ h; rw [show i = 0 from by omega] at ha ⊢; exact ⟨_, ha⟩
        | succ m ih =>
          intro h1 h2
          by_cases e : i = m + 1
          · rw [← e]; exact ⟨_, ha⟩
          · have hτn := I.le
            obtain ⟨o', ho'⟩ := op_at D st (show m < ops.size by omega)
            rcases Nat.lt_or_ge (kind o'.op) 2 with h | h
            · rw [(st m o' ho').heap h]; exact ih (by omega) (by omega)
            · have hkk : kind o'.op = 2 := Nat.le_antisymm (kind_le _) h
              have hl := (I.chain m o' ho' hkk).2 (by omega)
              have him : i < m := by
                rcases Nat.lt_or_ge i m with h | h
                · exact h
                · have : i = m := by omega
                  subst this; rw [hf] at hl; cases hl
              rcases (D.pair i m o o' him ho ho').2.2.2.2.1 hk1 hkk with h3 | h3
              · have := listed_before D I m hl i h3
                rw [hf] at this; cases this
              · have := hcrit m h3
                rw [if_pos him] at this
                exact this
      exact key τ (Nat.le_refl _) (by omega)
    · -- the first effect from τ on, if there is one ahead of i
      have key : ∀ d m, m + d = i → τ ≤ m → (∃ h2, aop E o (aev (S i).1.t) (S m).2 = some (.val v h2)) := by
        intro d
        induction d with
        | zero => intro m h1 _; rw [show m = i from by omega]; exact ⟨_, ha⟩
        | succ d ih =>
          intro m h1 h2
          obtain ⟨o', ho'⟩ := op_at D st (show m < ops.size by omega)
          rcases Nat.lt_or_ge (kind o'.op) 2 with h | h
          · rw [← (st m o' ho').heap h]; exact ih (m + 1) (by omega) (by omega)
          · have hkk : kind o'.op = 2 := Nat.le_antisymm (kind_le _) h
            have hnl : ¬ L[m]? = some true := fun e => by have := (I.chain m o' ho' hkk).1 e; omega
            rcases (D.pair m i o' o (by omega) ho' ho).2.2.2.2.2 hkk hk1 with h3 | h3
            · exact absurd (ready_before D I ho hdep h3) hnl
            · have := hcrit m h3
              rw [if_neg (by omega)] at this
              exact this
      exact key (i - τ) τ (by omega) (Nat.le_refl _)

include ok hc D st cr I in
theorem ready_step {Q : Exit → Act → World → Prop} {K : Act → World → Prop} {i : Nat} (hi : i ∈ Region.ready .any ops L) (hK : ∀ b1 W1 μ1 τ1, LInv P ops S μ0 W0 (L.setIfInBounds i true) b1 W1 μ1 τ1 → K b1 W1) : wpOp P ops Q i K b W := by
  obtain ⟨o, ho, hf, hdep⟩ := ready_spec I.size hi
  have hlt : i < ops.size := (Array.getElem?_eq_some_iff.1 ho).1
  have hlook : ∀ t, t ∈ o.looksAt ops → V μ (aev (S i).1.t (.tmp t)) (b.tmps.getD t undef) := fun t ht => looks_ok D st I ho hf hdep ht
  obtain ⟨tn, td⟩ := text_n D st i (by omega)
  have hguard : ∀ w, aguard ops (S i).1 o.guard = some w → Region.wanted o (yielded ops b.tmps) = w := fun w hw =>
    aguard_loc (fun j want d h1 h2 => hlook d (guard_looks h1 h2)) (by rw [tn]; exact I.n) hw
  have hop : ∀ x ∈ o.op.operands.toList, V μ (aev (S i).1.t x) (b.eval x) := by
    intro x hx
    cases x with
    | tmp t => exact hlook t (mem_looks hx)
    | const v =>
      show V μ (match plain v with | true => v | false => poison) v
      split
      · rename_i hp; exact .of_plain hp
      · exact .poison _
    | global g => exact .poison _
    | func f => exact .func .nil .nil
  have hquiet : kind o.op < 2 → ∀ k o', ops[k]? = some o' → kind o'.op = 2 → ((L.setIfInBounds i true)[k]? = some true ↔ k < τ) := by
    intro hk k o' hk' hkk
    rw [Array.getElem?_setIfInBounds]
    by_cases e : i = k
    · subst e; rw [ho] at hk'; cases hk'; omega
    · rw [if_neg e]; exact I.chain k o' hk' hkk
  unfold wpOp
  rw [ho]
  dsimp only
  rcases st i o ho with ⟨hg, hp, hh⟩ | ⟨hg, v, hp, hres⟩
  · rw [if_neg (by rw [hguard _ hg]; simp)]
    rcases Nat.lt_or_ge (kind o.op) 2 with hk | hk
    · exact hK _ _ _ _ (inv_next D st I ho hf hdep hp (.refl μ) .undef I.le (hquiet hk) I.sim I.stp)
    · obtain ⟨e1, e2⟩ := chain_now D st I ho hf hdep (Nat.le_antisymm (kind_le _) hk)
      have e3 : (S τ).2 = (S (i + 1)).2 := by rw [e1, hh]
      exact hK _ _ _ _ (inv_next D st I ho hf hdep hp (.refl μ) .undef (by omega) e2 (by rw [← e3]; exact I.sim) (by rw [← e3]; exact I.stp))
  · rw [if_pos (hguard _ hg)]
    left
    unfold Oper.wp
    rcases Nat.lt_or_ge (kind o.op) 2 with hk | hk
    · have hval : ∃ h1, aop E o (aev (S i).1.t) (S i).2 = some (.val v h1) := by
        rcases hres with h | ⟨f, args, h, _⟩
        · exact ⟨_, h⟩
        · obtain ⟨v', e⟩ := kind_read hk h; cases e
      obtain ⟨h1, hval⟩ := hval
      obtain ⟨h2, hnow⟩ := read_now D st cr I ho hf hdep hk hg hval
      obtain ⟨v2, e⟩ := kind_read hk hnow
      injection e with e1 e2
      subst e2
      obtain ⟨μ1, v', W1, hrun, hv, s1, st1⟩ := aop_ok ok I.sim hop hnow
      have hI := hK _ _ _ _ (inv_next D st I ho hf hdep hp st1.sub hv I.le (hquiet hk) s1 (Stp.trans I.sim I.stp st1))
      rcases hrun with e | ⟨e, e2⟩
      · rw [e]; exact hI
      · rw [e]; subst e2; exact hI
    · obtain ⟨e1, e2⟩ := chain_now D st I ho hf hdep (Nat.le_antisymm (kind_le _) hk)
      have sim' : Sim P μ (S i).2 W := by rw [← e1]; exact I.sim
      have stp' : Stp μ0 μ (S 0).2 (S i).2 W0 W := by rw [← e1]; exact I.stp
      rcases hres with h | ⟨f, args, h, hcall⟩
      · obtain ⟨μ1, v', W1, hrun, hv, s1, st1⟩ := aop_ok ok sim' hop h
        have hI := hK _ _ _ _ (inv_next D st I ho hf hdep hp st1.sub hv (by omega) e2 s1 (Stp.trans sim' stp' st1))
        rcases hrun with e | ⟨e, e2⟩
        · rw [e]; exact hI
        · rw [e]; subst e2; exact hI
      · obtain ⟨args', hrun, hx⟩ := aop_ok ok sim' hop h
        rw [hrun]
        refine Calls.mono (hc _ _ _ _ _ hcall μ W args' sim' hx) ?_
        intro end' W1 ⟨μ1, he, s1, st1⟩
        cases end' with
        | returned v' => exact hK _ _ _ _ (inv_next D st I ho hf hdep hp st1.sub he (by omega) e2 s1 (Stp.trans sim' stp' st1))
        | panicked ch => exact he.elim
        | outgrown => exact he.elim
end

theorem count_set : ∀ (l : List Bool) (i : Nat), l[i]? = some false → (l.set i true).count false + 1 = l.count false
  | [], i, h => by simp at h
  | x :: r, 0, h => by simp at h; subst h; simp
  | x :: r, i + 1, h => by
    have := count_set r i (by simpa using h)
    simp only [List.set_cons_succ, List.count_cons]
    omega
theorem count_zero : ∀ (l : List Bool), l.count false = 0 → ∀ i, i < l.length → l[i]? = some true
  | [], _, i, h => by simp at h
  | x :: r, h, 0, _ => by cases x <;> simp_all
  | x :: r, h, i + 1, hi => by
    simp only [List.count_cons] at h
    simpa using count_zero r (by omega) i (by simpa using hi)

section
variable {P : Program} {E : Env} (ok : EnvOk P E) {call : ACall} (hc : CallOk P call) {ops : Array Oper} {S : Nat → AAct × AH} {pairs : List (Nat × Nat)} {B : Nat → Nat} (D : DrawOk ops pairs B)
  (st : ∀ j o, ops[j]? = some o → StepR E call ops o (S j) (S (j + 1)))
  (cr : ∀ i k, (i, k) ∈ pairs → ∀ o, ops[i]? = some o → aguard ops (S i).1 o.guard = some true → sameAt E o (S i).1.t (S i).2 (S (if i < k then k + 1 else k)).2 = true)
  {μ0 : Mp} {W0 : World}

include D in
/-- Where all is listed but some, one is ready. -/
theorem ready_ne {L : Array Bool} (hL : L.size = ops.size) (hr : Region.ready .any ops L = []) : ∀ j, j < ops.size → L[j]? = some true := by
  intro j
  induction j using Nat.strongRecOn with
  | ind j ih =>
    intro hj
    have ho := Array.getElem?_eq_getElem hj
    have hLj := Array.getElem?_eq_getElem (xs := L) (i := j) (by omega)
    cases hb : L[j] with
    | true => rw [hLj, hb]
    | false =>
      exfalso
      have : j ∈ Region.ready .any ops L := by
        unfold Region.ready
        simp only [List.mem_filter, List.mem_range, Bool.and_eq_true, Bool.not_eq_true']
        refine ⟨hj, ?_, ?_⟩
        · rw [Array.getD_eq_getD_getElem?, hLj, hb]; rfl
        · rw [ho]
          simp only [Option.map_some, Option.getD_some]
          rw [← Array.all_toList]
          refine List.all_eq_true.2 fun e he => ?_
          cases hbe : Region.binds .any e with
          | false => rfl
          | true =>
            have h1 := D.deps j _ ho e he hbe
            rw [Array.getD_eq_getD_getElem?, ih e.on h1 (by omega)]; rfl
      rw [hr] at this; cases this

include D st in
/-- All is listed: all is as at the text's end. -/
theorem at_end {L : Array Bool} {b : Act} {W : World} {μ : Mp} {τ : Nat} (I : LInv P ops S μ0 W0 L b W μ τ) (hall : ∀ j, j < ops.size → L[j]? = some true) : AR μ (S ops.size).1 b ∧ Sim P μ (S ops.size).2 W ∧ Stp μ0 μ (S 0).2 (S ops.size).2 W0 W := by
  obtain ⟨tn, td⟩ := text_n D st ops.size (Nat.le_refl _)
  have hh : (S ops.size).2 = (S τ).2 := text_h D st ops.size I.le (Nat.le_refl _) fun k o h1 h2 hk => by
    rcases Nat.lt_or_ge (kind o.op) 2 with h | h
    · exact h
    · have := (I.chain k o hk (Nat.le_antisymm (kind_le _) h)).1 (hall k h2)
      omega
  rw [hh]
  refine ⟨⟨by rw [tn]; exact I.n, fun i => ?_, by rw [td]; exact I.ds⟩, I.sim, I.stp⟩
  by_cases hex : ∃ (k : Nat) (o : Oper), ops[k]? = some o ∧ o.dst = some i
  · obtain ⟨k, o, hk, hd⟩ := hex
    have hkl : k < ops.size := (Array.getElem?_eq_some_iff.1 hk).1
    rw [text_1 D st hk hd ops.size hkl (Nat.le_refl _)]
    exact I.done k o i hk (hall k hkl) hd
  · rw [text_2 D st ops.size (Nat.le_refl _) (fun k o _ hk hd => hex ⟨k, o, hk, hd⟩)]
    exact I.rest i fun k o hk _ hd => hex ⟨k, o, hk, hd⟩

include ok hc D st cr in
theorem any_ok {Q : Exit → Act → World → Prop} (hQ : ∀ b W μ, AR μ (S ops.size).1 b → Sim P μ (S ops.size).2 W → Stp μ0 μ (S 0).2 (S ops.size).2 W0 W → Q .normal b W) :
    ∀ (fuel : Nat) (L : Array Bool) (b : Act) (W : World) (μ : Mp) (τ : Nat), LInv P ops S μ0 W0 L b W μ τ → L.toList.count false = fuel → wpAny P .any ops Q fuel L b W
  | 0, L, b, W, μ, τ, I, hf => by
    have hall : ∀ j, j < ops.size → L[j]? = some true := fun j hj => by
      have := count_zero L.toList hf j (by have := I.size; simp; omega)
      simpa using this
    obtain ⟨h1, h2, h3⟩ := at_end D st I hall
    refine ⟨?_, hQ b W μ h1 h2 h3⟩
    cases hr : Region.ready .any ops L with
    | nil => rfl
    | cons i r =>
      obtain ⟨o, ho, hfl, _⟩ := ready_spec I.size (i := i) (by rw [hr]; simp)
      rw [hall i (Array.getElem?_eq_some_iff.1 ho).1] at hfl
      cases hfl
  | fuel + 1, L, b, W, μ, τ, I, hf => by
    refine ⟨fun hr => ?_, fun i hi => ?_⟩
    · obtain ⟨h1, h2, h3⟩ := at_end D st I (ready_ne D I.size hr)
      exact hQ b W μ h1 h2 h3
    · refine ready_step ok hc D st cr I hi fun b1 W1 μ1 τ1 I1 => any_ok hQ fuel _ b1 W1 μ1 τ1 I1 ?_
      obtain ⟨o, ho, hfl, _⟩ := ready_spec I.size hi
      have := count_set L.toList i (by simpa using hfl)
      rw [Array.toList_setIfInBounds]
      omega
end

theorem drawn_ok {P : Program} {E : Env} (ok : EnvOk P E) {call : ACall} (hc : CallOk P call) (hm : P.follows .mixedOrders = true) {id : Nat} {ops : Array Oper} {pairs : List (Nat × Nat)} (hd : drawOk ops pairs = true)
    {a : AAct} {h : AH} {e : AX} {a' : AAct} {h' : AH} (hr : noPanic (aopsT E call ops pairs ops.toList [(a, h)] a h) = .ok e a' h') {μ : Mp} {W : World} {b : Act} (s : Sim P μ h W) (ar : AR μ a b) :
    (Code.region id ops true).wp P (Post P μ h W e a' h') b W := by
  obtain ⟨B, D⟩ := drawOk_ok hd
  have hn : e = .normal ∧ aopsT E call ops pairs ops.toList [(a, h)] a h = .ok .normal a' h' := by
    unfold noPanic at hr
    split at hr
    · rename_i hq; cases hr; exact ⟨rfl, hq⟩
    · cases hr
  obtain ⟨rfl, hr2⟩ := hn
  obtain ⟨S, fin, f1, f2, f3, f4, f5⟩ := states_of ops.toList 0 [(a, h)] a h hr2 (fun _ => (a, h)) (fun j hj => by rw [show j = 0 from by omega]; rfl) rfl rfl
  have h0 : S 0 = (a, h) := f1 0 (Nat.le_refl _)
  have st : ∀ j o, ops[j]? = some o → StepR E call ops o (S j) (S (j + 1)) := fun j o ho => by
    have := f2 j o (by simpa using ho)
    rw [Nat.zero_add] at this
    exact this
  have hlen : ops.toList.length = ops.size := by simp
  rw [Nat.zero_add, hlen] at f3
  have f4' : ∀ j, j ≤ ops.size → sget fin ops.size j = some (S j) := fun j hj => by
    have := f4 j (by omega)
    rw [Nat.zero_add, hlen] at this
    exact this
  have cr : ∀ i k, (i, k) ∈ pairs → ∀ o, ops[i]? = some o → aguard ops (S i).1 o.guard = some true → sameAt E o (S i).1.t (S i).2 (S (if i < k then k + 1 else k)).2 = true := by
    intro i k hp o ho hg
    have := List.all_eq_true.1 f5 (i, k) hp
    obtain ⟨i1, i2⟩ := D.inside (i, k) hp
    unfold critOne at this
    dsimp only at this i1 i2
    rw [ho, f4' i (by omega), f4' (if i < k then k + 1 else k) (by split <;> omega)] at this
    dsimp only at this
    rw [hg] at this
    exact this
  refine wp_region_any hm ?_
  refine any_ok (μ0 := μ) (W0 := W) ok hc D st cr (Q := Post P μ h W .normal a' h') (fun b1 W1 μ1 h1 h2 h3 => ?_) ops.size _ b _ μ 0 ?_ (by simp)
  · rw [f3] at h1 h2 h3
    rw [h0] at h3
    exact ⟨μ1, trivial, h1, h2, h3⟩
  · refine ⟨by simp, fun j o ho hl => ?_, Nat.zero_le _, fun k o ho hk => ?_, ?_, ?_, by rw [h0]; exact ar.n, by rw [h0]; exact ar.ds, fun k o d ho hl => ?_, fun d _ => by rw [h0]; exact ar.t d⟩
    · exfalso; simp [Array.getElem?_replicate] at hl
    · simp [Array.getElem?_replicate]
    · rw [h0]; exact Sim.same s rfl
    · rw [h0]; exact Stp.same μ h rfl rfl rfl rfl
    · exfalso; simp [Array.getElem?_replicate] at hl
end
end Go.Ab
