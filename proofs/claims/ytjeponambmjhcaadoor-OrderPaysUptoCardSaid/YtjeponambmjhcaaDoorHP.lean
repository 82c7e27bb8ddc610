/- A heap kept in a list, in plain Lean. Own work of this session. -/
import Init
set_option linter.unusedVariables false
namespace Go.Hw

section
variable {α : Type} {lt : α → α → Prop}

theorem get_swap {L : List α} {i j : Nat} {x y : α} (hx : L[i]? = some x) (hy : L[j]? = some y) (m : Nat) : ((L.set i y).set j x)[m]? = if m = j then some x else if m = i then some y else L[m]? := by
  obtain ⟨hi, _⟩ := List.getElem?_eq_some_iff.1 hx
  obtain ⟨hj, _⟩ := List.getElem?_eq_some_iff.1 hy
  simp only [List.getElem?_set, List.length_set]
  by_cases h1 : m = j
  · subst h1; simp [hj]
  · by_cases h2 : m = i
    · subst h2; simp [h1, hi, Ne.symm h1]
    · simp [h1, h2, Ne.symm h1, Ne.symm h2]

theorem perm_swap {L : List α} {i j : Nat} {x y : α} (hx : L[i]? = some x) (hy : L[j]? = some y) : ((L.set i y).set j x).Perm L := by
  obtain ⟨hi, rfl⟩ := List.getElem?_eq_some_iff.1 hx
  obtain ⟨hj, rfl⟩ := List.getElem?_eq_some_iff.1 hy
  exact List.set_set_perm hi hj

def Heap (lt : α → α → Prop) (L : List α) : Prop := ∀ j x y, 0 < j → L[j]? = some x → L[(j - 1) / 2]? = some y → ¬ lt x y
def HeapUp (lt : α → α → Prop) (L : List α) (i : Nat) : Prop :=
  (∀ j x y, 0 < j → j ≠ i → L[j]? = some x → L[(j - 1) / 2]? = some y → ¬ lt x y) ∧ ∀ j x y, 0 < j → (j - 1) / 2 = i → 0 < i → L[j]? = some x → L[(i - 1) / 2]? = some y → ¬ lt x y
def HeapDn (lt : α → α → Prop) (L : List α) (i : Nat) : Prop :=
  (∀ j x y, 0 < j → (j - 1) / 2 ≠ i → L[j]? = some x → L[(j - 1) / 2]? = some y → ¬ lt x y) ∧ ∀ j x y, 0 < j → (j - 1) / 2 = i → 0 < i → L[j]? = some x → L[(i - 1) / 2]? = some y → ¬ lt x y

structure Ord (lt : α → α → Prop) : Prop where
  asymm : ∀ x y, lt x y → ¬ lt y x
  trans : ∀ x y z, lt x y → lt y z → lt x z
  cotrans : ∀ x y z, ¬ lt x y → ¬ lt y z → ¬ lt x z

theorem HeapUp.push {L : List α} (h : Heap lt L) (x : α) : HeapUp lt (L ++ [x]) L.length := by
  refine ⟨fun j a b h0 hj ha hb => ?_, fun j a b h0 hj hl ha hb => ?_⟩
  · have hlt := (List.getElem?_eq_some_iff.1 ha).1
    simp at hlt
    rw [List.getElem?_append_left (by omega)] at ha hb
    exact h j a b h0 ha hb
  · have hlt := (List.getElem?_eq_some_iff.1 ha).1
    simp at hlt
    omega

theorem HeapUp.done0 {L : List α} (h : HeapUp lt L 0) : Heap lt L := fun j x y h0 hx hy => h.1 j x y h0 (by omega) hx hy
theorem HeapUp.done {L : List α} {i : Nat} {x y : α} (h : HeapUp lt L i) (hx : L[i]? = some x) (hy : L[(i - 1) / 2]? = some y) (hn : ¬ lt x y) : Heap lt L := fun j a b h0 ha hb => by
  by_cases hj : j = i
  · subst hj
    rw [hx] at ha; rw [hy] at hb
    cases ha; cases hb
    exact hn
  · exact h.1 j a b h0 hj ha hb

theorem HeapUp.step (O : Ord lt) {L : List α} {i : Nat} {x y : α} (h : HeapUp lt L i) (h0 : 0 < i) (hx : L[i]? = some x) (hy : L[(i - 1) / 2]? = some y) (hn : lt x y) : HeapUp lt ((L.set i y).set ((i - 1) / 2) x) ((i - 1) / 2) := by
  refine ⟨fun j a b hj hne ha hb => ?_, fun j a b hj he hp ha hb => ?_⟩
  · rw [get_swap hx hy] at ha hb
    rw [if_neg hne] at ha
    by_cases h1 : j = i
    · subst h1
      rw [if_pos rfl] at ha hb
      cases ha; cases hb
      exact O.asymm _ _ hn
    · rw [if_neg h1] at ha
      by_cases h2 : (j - 1) / 2 = (i - 1) / 2
      · rw [if_pos h2] at hb
        cases hb
        have := h.1 j a y hj h1 ha (by rw [h2]; exact hy)
        exact fun hlt => this (O.trans _ _ _ hlt hn)
      · rw [if_neg h2] at hb
        by_cases h3 : (j - 1) / 2 = i
        · rw [if_pos h3] at hb
          cases hb
          exact h.2 j a y hj h3 h0 ha hy
        · rw [if_neg h3] at hb
          exact h.1 j a b hj h1 ha hb
  · rw [get_swap hx hy] at ha hb
    rw [if_neg (by omega)] at ha
    rw [if_neg (by omega), if_neg (by omega)] at hb
    have hpz := h.1 ((i - 1) / 2) y b hp (by omega) hy hb
    by_cases h1 : j = i
    · rw [if_pos h1] at ha
      cases ha
      exact hpz
    · rw [if_neg h1] at ha
      exact O.cotrans _ _ _ (h.1 j a y hj h1 ha (by rw [he]; exact hy)) hpz

theorem HeapDn.done {L : List α} {i : Nat} {y : α} (h : HeapDn lt L i) (hy : L[i]? = some y) (hn : ∀ j x, 0 < j → (j - 1) / 2 = i → L[j]? = some x → ¬ lt x y) : Heap lt L := fun j a b h0 ha hb => by
  by_cases hj : (j - 1) / 2 = i
  · rw [hj, hy] at hb
    cases hb
    exact hn j a h0 hj ha
  · exact h.1 j a b h0 hj ha hb

theorem HeapDn.step (O : Ord lt) {L : List α} {i k : Nat} {x y : α} (h : HeapDn lt L i) (hk : (k - 1) / 2 = i) (h0 : 0 < k) (hx : L[k]? = some x) (hy : L[i]? = some y) (hn : lt x y) (hmin : ∀ j z, 0 < j → (j - 1) / 2 = i → L[j]? = some z → ¬ lt z x) : HeapDn lt ((L.set i x).set k y) k := by
  refine ⟨fun j a b hj hne ha hb => ?_, fun j a b hj he hp ha hb => ?_⟩
  · rw [get_swap hy hx] at ha hb
    rw [if_neg hne] at hb
    by_cases h1 : j = k
    · subst h1
      rw [if_pos rfl] at ha
      rw [if_pos hk] at hb
      cases ha; cases hb
      exact O.asymm _ _ hn
    · rw [if_neg h1] at ha
      by_cases h2 : (j - 1) / 2 = i
      · rw [if_pos h2] at hb
        cases hb
        rw [if_neg (by omega)] at ha
        exact hmin j a hj h2 ha
      · rw [if_neg h2] at hb
        by_cases h3 : j = i
        · subst h3
          rw [if_pos rfl] at ha
          cases ha
          exact h.2 k x b h0 hk hj hx hb
        · rw [if_neg h3] at ha
          exact h.1 j a b hj h2 ha hb
  · rw [get_swap hy hx] at ha hb
    rw [if_neg (by omega), if_neg (by omega)] at ha
    rw [if_neg (by omega), if_pos hk] at hb
    cases hb
    exact h.1 j a x hj (by omega) ha (by rw [he]; exact hx)

theorem Heap.root (O : Ord lt) {L : List α} {r : α} (h : Heap lt L) (hr : L[0]? = some r) : ∀ x ∈ L, ¬ lt x r := by
  suffices H : ∀ n j x, j ≤ n → L[j]? = some x → ¬ lt x r by
    intro x hx
    obtain ⟨j, hj, rfl⟩ := List.getElem_of_mem hx
    exact H j j _ (Nat.le_refl _) (List.getElem?_eq_getElem hj)
  intro n
  induction n with
  | zero =>
    intro j x hj hx
    obtain rfl : j = 0 := by omega
    rw [hr] at hx; cases hx
    exact fun h => O.asymm _ _ h h
  | succ n ih =>
    intro j x hj hx
    by_cases h0 : j = 0
    · exact ih j x (by omega) hx
    · have hl : j < L.length := (List.getElem?_eq_some_iff.1 hx).1
      have hp : L[(j - 1) / 2]? = some L[(j - 1) / 2] := List.getElem?_eq_getElem (by omega)
      exact O.cotrans _ _ _ (h j x _ (by omega) hx hp) (ih _ _ (by omega) hp)

/-- The last one laid over the first one, and cut off. -/
def cutRoot (L : List α) (z : α) : List α := (L.set 0 z).take (L.length - 1)

theorem cutRoot_get {L : List α} {z : α} (hz : L[L.length - 1]? = some z) (j : Nat) : (cutRoot L z)[j]? = if j < L.length - 1 then (if j = 0 then some z else L[j]?) else none := by
  unfold cutRoot
  rw [List.getElem?_take]
  by_cases h : j < L.length - 1
  · simp only [if_pos h, List.getElem?_set]
    by_cases h0 : j = 0
    · subst h0
      have : 0 < L.length := by omega
      simp [this]
    · simp [h0, Ne.symm h0]
  · simp [h]

theorem cutRoot_perm {L : List α} {r z : α} (hr : L[0]? = some r) (hz : L[L.length - 1]? = some z) : (r :: cutRoot L z).Perm L := by
  have hl : 0 < L.length := (List.getElem?_eq_some_iff.1 hr).1
  cases L with
  | nil => simp at hl
  | cons a M =>
    simp at hr
    subst hr
    unfold cutRoot
    refine List.Perm.cons _ ?_
    simp only [List.set_cons_zero, List.length_cons, Nat.add_sub_cancel]
    rcases M.eq_nil_or_concat with rfl | ⟨N, b, rfl⟩
    · simp
    · simp at hz
      subst hz
      simp only [List.concat_eq_append, List.length_append, List.length_cons, List.length_nil, List.take_succ_cons, List.take_left']
      exact (List.perm_append_comm (l₁ := [b]) (l₂ := N))

theorem cutRoot_dn {L : List α} {z : α} (h : Heap lt L) (hz : L[L.length - 1]? = some z) : HeapDn lt (cutRoot L z) 0 := by
  refine ⟨fun j x y h0 hj hx hy => ?_, fun j x y h0 hj hp => absurd hp (by omega)⟩
  rw [cutRoot_get hz] at hx hy
  split at hx
  · rw [if_neg (by omega)] at hx
    rw [if_pos (by omega), if_neg hj] at hy
    exact h j x y h0 hx hy
  · cases hx

end

/-! ## sorted lists of the same things -/
theorem sorted_unique {α : Type} {lt : α → α → Prop} (irr : ∀ x y, lt x y → ¬ lt y x) : ∀ {L M : List α}, L.Pairwise lt → M.Pairwise lt → L.Perm M → L = M
  | [], M, _, _, h => by simpa using h.symm
  | x :: L, [], _, _, h => by simp at h
  | x :: L, y :: M, hL, hM, h => by
    have hxy : x = y := by
      have hx : x ∈ y :: M := h.subset (List.mem_cons_self ..)
      have hy : y ∈ x :: L := h.symm.subset (List.mem_cons_self ..)
      rcases List.mem_cons.1 hx with e | hx
      · exact e
      · rcases List.mem_cons.1 hy with e | hy
        · exact e.symm
        · exact absurd ((List.pairwise_cons.1 hL).1 y hy) (irr _ _ ((List.pairwise_cons.1 hM).1 x hx))
    subst hxy
    rw [sorted_unique irr (List.pairwise_cons.1 hL).2 (List.pairwise_cons.1 hM).2 ((List.perm_cons x).1 h)]

end Go.Hw
