import Derived.Test.YtmdcmnjeonnfiaaGreatDoorAbS
/-! Two new blocks of one content, made in either order. -/
set_option linter.unusedSimpArgs false
set_option linter.unusedVariables false
set_option linter.unusedSectionVars false
namespace Go.Ab
noncomputable section

/-- The two blocks the other way round. -/
theorem Sim.two {P : Program} {μ : Mp} {h : AH} {W : World} (s : Sim P μ h W) (o : AObj) (O : Obj) (z : Nat × Nat) (W' : World) (hW : W'.heap = (W.heap.push O).push O)
    (hO : ∀ μ', Sub μ μ' → ORel P μ' z o O) : Sim P (ext (ext μ h.next (W.heap.size + 1, z)) (h.next + 1) (W.heap.size, z)) ((h.new o).new o) W' ∧
      Sub μ (ext (ext μ h.next (W.heap.size + 1, z)) (h.next + 1) (W.heap.size, z)) := by
  have hnone : ∀ i, h.next ≤ i → μ i = none := fun i hi => by
    cases hm : μ i with
    | none => rfl
    | some x => obtain ⟨b, y⟩ := x; have := (s.dom i b y hm).1; omega
  have hsub : Sub μ (ext (ext μ h.next (W.heap.size + 1, z)) (h.next + 1) (W.heap.size, z)) := fun i x hx => by
    have h1 : i ≠ h.next := fun e => by rw [e, hnone _ (Nat.le_refl _)] at hx; cases hx
    have h2 : i ≠ h.next + 1 := fun e => by rw [e, hnone _ (by omega)] at hx; cases hx
    rw [ext_ne h2, ext_ne h1]; exact hx
  have hcases : ∀ i b y, ext (ext μ h.next (W.heap.size + 1, z)) (h.next + 1) (W.heap.size, z) i = some (b, y) → (i = h.next + 1 ∧ b = W.heap.size ∧ y = z) ∨ (i = h.next ∧ b = W.heap.size + 1 ∧ y = z) ∨ (i ≠ h.next ∧ i ≠ h.next + 1 ∧ μ i = some (b, y)) := by
    intro i b y hi
    by_cases h2 : i = h.next + 1
    · rw [h2, ext_self] at hi; cases hi; exact .inl ⟨h2, rfl, rfl⟩
    · rw [ext_ne h2] at hi
      by_cases h1 : i = h.next
      · rw [h1, ext_self] at hi; cases hi; exact .inr (.inl ⟨h1, rfl, rfl⟩)
      · rw [ext_ne h1] at hi; exact .inr (.inr ⟨h1, h2, hi⟩)
  have hnext : (h.new o).next = h.next + 1 := rfl
  have hat : ∀ j, ((h.new o).new o).at j = if j = h.next + 1 then o else if j = h.next then o else h.at j := fun j => by
    rw [AH.at_new, hnext, AH.at_new]
  refine ⟨⟨?_, ?_, ?_, ?_⟩, hsub⟩
  · intro i b y hi
    have : ((h.new o).new o).next = h.next + 2 := rfl
    rw [this, hW]
    simp only [Array.size_push]
    rcases hcases i b y hi with ⟨h1, h2, _⟩ | ⟨h1, h2, _⟩ | ⟨_, _, h3⟩
    · omega
    · omega
    · have := s.dom i b y h3; omega
  · intro i hi
    have : ((h.new o).new o).next = h.next + 2 := rfl
    rw [this] at hi
    rw [hat, if_neg (by omega), if_neg (by omega)]
    exact s.fin i (by omega)
  · intro i b y hi
    rcases hcases i b y hi with ⟨h1, h2, h3⟩ | ⟨h1, h2, h3⟩ | ⟨n1, n2, h3⟩
    · subst h1; subst h2; subst h3
      refine ⟨O, ?_, by rw [hat, if_pos rfl]; exact hO _ hsub⟩
      rw [hW, Array.getElem?_push, if_neg (by simp), Array.getElem?_push, if_pos rfl]
    · subst h1; subst h2; subst h3
      refine ⟨O, ?_, by rw [hat, if_neg (by omega), if_pos rfl]; exact hO _ hsub⟩
      rw [hW, Array.getElem?_push, if_pos (by simp)]
    · obtain ⟨O', g1, g2⟩ := s.obj i b y h3
      have hb := (s.dom i b y h3).2
      refine ⟨O', ?_, by rw [hat, if_neg n2, if_neg n1]; exact g2.mono hsub⟩
      rw [hW, Array.getElem?_push, if_neg (by simp; omega), Array.getElem?_push, if_neg (by omega)]
      exact g1
  · intro i j b y y' hi hj li lj
    rcases hcases i b y hi with ⟨h1, h2, h3⟩ | ⟨h1, h2, h3⟩ | ⟨n1, n2, h3⟩ <;> rcases hcases j b y' hj with ⟨k1, k2, k3⟩ | ⟨k1, k2, k3⟩ | ⟨m1, m2, k3⟩
    · omega
    · omega
    · have := (s.dom j b y' k3).2; omega
    · omega
    · omega
    · have := (s.dom j b y' k3).2; omega
    · have := (s.dom i b y h3).2; omega
    · have := (s.dom i b y h3).2; omega
    · rw [hat, if_neg n2, if_neg n1] at li
      rw [hat, if_neg m2, if_neg m1] at lj
      exact s.inj i j b y y' h3 k3 li lj

theorem Stp.fresh {μ μ' : Mp} {h h' : AH} {W W' : World} (sub : Sub μ μ') (old : ∀ i, i < h.next → μ' i = μ i) (next : h.next ≤ h'.next) (all : ∀ i, h.next ≤ i → i < h'.next → ∃ b, μ' i = some b)
    (new : ∀ i b z, h.next ≤ i → i < h'.next → μ' i = some (b, z) → W.heap.size ≤ b) (same : ∀ i, i < h.next → h'.at i = h.at i) (size : W.heap.size ≤ W'.heap.size) (keep : ∀ b, b < W.heap.size → W'.heap[b]? = W.heap[b]?)
    (h1 : W'.os = W.os) (h2 : W'.tape = W.tape) (h3 : W'.output = W.output) : Stp μ μ' h h' W W' :=
  ⟨sub, old, next, all, fun i b z a c d => .inl (new i b z a c d), fun i hi hw => by rw [same i hi] at hw; exact hw, size, fun b hb _ => keep b hb, fun i hi _ => same i hi, h1, h2, h3⟩

/-- Two blocks of one content and a third that may lead to them, whichever of the two was made first. -/
theorem three_ok {P : Program} {μ : Mp} {h : AH} {W : World} (s : Sim P μ h W) {o o3 : AObj} {O : Obj} {O3 : Nat → Nat → Obj} {z z3 : Nat × Nat} {W' : World} {b1 b2 : Nat} (hb : (b1 = W.heap.size ∧ b2 = W.heap.size + 1) ∨ (b1 = W.heap.size + 1 ∧ b2 = W.heap.size))
    (hW : W'.heap = ((W.heap.push O).push O).push (O3 b1 b2)) (h1 : W'.os = W.os) (h2 : W'.tape = W.tape) (h3 : W'.output = W.output) (hO : ∀ μ', Sub μ μ' → ORel P μ' z o O)
    (hO3 : ∀ μ', μ' h.next = some (b1, z) → μ' (h.next + 1) = some (b2, z) → ORel P μ' z3 o3 (O3 b1 b2)) :
    ∃ μ', Sim P μ' (((h.new o).new o).new o3) W' ∧ Stp μ μ' h (((h.new o).new o).new o3) W W' ∧ μ' (h.next + 2) = some (W.heap.size + 1 + 1, z3) := by
  have two : ∃ μ2, Sim P μ2 ((h.new o).new o) { W with heap := (W.heap.push O).push O } ∧ Sub μ μ2 ∧ μ2 h.next = some (b1, z) ∧ μ2 (h.next + 1) = some (b2, z) ∧ (∀ i, i < h.next → μ2 i = μ i) := by
    rcases hb with ⟨rfl, rfl⟩ | ⟨rfl, rfl⟩
    · have s1 := s.made o O z { W with heap := W.heap.push O } rfl (hO _ (sub_ext s _))
      have hsz : ({ W with heap := W.heap.push O } : World).heap.size = W.heap.size + 1 := by simp
      have hn : (h.new o).next = h.next + 1 := rfl
      have hs2 : Sub μ (ext (ext μ h.next (W.heap.size, z)) (h.next + 1) (W.heap.size + 1, z)) := by
        have a1 := sub_ext s (W.heap.size, z)
        have a2 := sub_ext s1 (W.heap.size + 1, z)
        exact a1.trans a2
      have s2 := s1.made o O z { W with heap := (W.heap.push O).push O } rfl (by rw [hsz]; exact hO _ hs2)
      rw [hsz] at s2
      refine ⟨_, s2, hs2, ?_, ext_self _ _ _, fun i hi => ?_⟩
      · rw [hn, ext_ne (by omega), ext_self]
      · rw [hn, ext_ne (by omega), ext_ne (by omega)]
    · obtain ⟨s2, hs2⟩ := s.two o O z { W with heap := (W.heap.push O).push O } rfl hO
      refine ⟨_, s2, hs2, ?_, ext_self _ _ _, fun i hi => ?_⟩
      · rw [ext_ne (by omega), ext_self]
      · rw [ext_ne (by omega), ext_ne (by omega)]
  obtain ⟨μ2, s2, hs2, m1, m2, hold⟩ := two
  have hn2 : ((h.new o).new o).next = h.next + 2 := rfl
  have hsz2 : ({ W with heap := (W.heap.push O).push O } : World).heap.size = W.heap.size + 1 + 1 := by simp
  have s3 := s2.made o3 (O3 b1 b2) z3 W' hW (by
    rw [hsz2, hn2]
    exact hO3 _ (by rw [ext_ne (by omega)]; exact m1) (by rw [ext_ne (by omega)]; exact m2))
  rw [hsz2, hn2] at s3
  refine ⟨_, s3, Stp.fresh ?_ ?_ ?_ ?_ ?_ ?_ ?_ ?_ h1 h2 h3, ext_self _ _ _⟩
  · have := sub_ext s2 (W.heap.size + 1 + 1, z3)
    rw [hn2] at this
    exact hs2.trans this
  · intro i hi; rw [ext_ne (by omega)]; exact hold i hi
  · show h.next ≤ h.next + 3; omega
  · intro i hi hl
    have hl : i < h.next + 3 := hl
    rcases (by omega : i = h.next ∨ i = h.next + 1 ∨ i = h.next + 2) with e | e | e <;> subst e
    · exact ⟨_, by rw [ext_ne (by omega)]; exact m1⟩
    · exact ⟨_, by rw [ext_ne (by omega)]; exact m2⟩
    · exact ⟨_, ext_self _ _ _⟩
  · intro i b y hi hl hm
    have hl : i < h.next + 3 := hl
    rcases (by omega : i = h.next ∨ i = h.next + 1 ∨ i = h.next + 2) with e | e | e <;> subst e
    · rw [ext_ne (by omega), m1] at hm; cases hm; omega
    · rw [ext_ne (by omega), m2] at hm; cases hm; omega
    · rw [ext_self] at hm; cases hm; omega
  · intro i hi
    have e1 : (h.new o).next = h.next + 1 := rfl
    rw [AH.at_new, hn2, AH.at_new, e1, AH.at_new, if_neg (by omega), if_neg (by omega), if_neg (by omega)]
  · rw [hW]; simp only [Array.size_push]; omega
  · intro b hb'
    rw [hW, Array.getElem?_push, if_neg (by simp; omega), Array.getElem?_push, if_neg (by simp; omega), Array.getElem?_push, if_neg (by omega)]
end
end Go.Ab
