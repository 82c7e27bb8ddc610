/- dewey: what leads where, what comes ahead: plain laws. Own work of this session. -/
import Derived.Test.YtmjoeilahbfonaaDoorD2
set_option linter.unusedVariables false
namespace Go.Hw
open Go

theorem cp_len_iff {a b : List Int} : cp a b = a.length ↔ a <+: b := by
  constructor
  · intro h
    rw [List.prefix_iff_eq_take]
    apply List.ext_getElem?
    intro i
    have hle := (cp_le a b).2
    by_cases hi : i < a.length
    · rw [List.getElem?_take, if_pos hi]
      exact cp_eq a b i (by omega)
    · rw [List.getElem?_eq_none (by omega), List.getElem?_take, if_neg hi]
  · rintro ⟨t, rfl⟩
    refine cp_is (fun i hi => ?_) (Nat.le_refl _) (.inl rfl) (by simp)
    rw [List.getElem?_append_left hi]

/-- One leads to the other: it is its front, or differs in a last place that is less. -/
def Leads (a b : List Int) : Prop := a ≠ [] ∧ (a <+: b ∨ (a.length = b.length ∧ a.dropLast = b.dropLast ∧ lastOf a ≤ lastOf b))

theorem leads_iff {a b : List Int} : leads a b = true ↔ Leads a b := by
  unfold leads Leads
  simp only [Bool.and_eq_true, Bool.or_eq_true, decide_eq_true_eq]
  rw [cp_len_iff]
  have hle := cp_le a b
  constructor
  · rintro ⟨⟨h0, hl⟩, h⟩
    refine ⟨fun e => by rw [e] at h0; simp at h0, ?_⟩
    rcases h with h | ⟨⟨h1, h2⟩, h3⟩
    · exact .inl h
    · refine .inr ⟨h1, ?_, h3⟩
      rw [List.dropLast_eq_take, List.dropLast_eq_take]
      apply List.ext_getElem?
      intro i
      rw [List.getElem?_take, List.getElem?_take]
      by_cases hi : i < a.length - 1
      · rw [if_pos hi, if_pos (by omega)]
        exact cp_eq a b i (by omega)
      · rw [if_neg hi, if_neg (by omega)]
  · rintro ⟨h0, h⟩
    have h0 : 0 < a.length := List.length_pos_iff.2 h0
    rcases h with h | ⟨h1, h2, h3⟩
    · exact ⟨⟨h0, h.length_le⟩, .inl h⟩
    · refine ⟨⟨h0, by omega⟩, ?_⟩
      by_cases hp : a <+: b
      · exact .inl hp
      · refine .inr ⟨⟨h1, ?_⟩, h3⟩
        have hne : cp a b ≠ a.length := fun h => hp (cp_len_iff.1 h)
        have hge : a.length - 1 ≤ cp a b := by
          by_cases hlt : cp a b < a.length - 1
          · have := cp_ne a b (by omega) (by omega)
            have h4 := congrArg (fun l : List Int => l[cp a b]?) h2
            simp only [List.dropLast_eq_take, List.getElem?_take] at h4
            rw [if_pos hlt, if_pos (by omega)] at h4
            exact absurd h4 this
          · omega
        omega

theorem split_last {a : List Int} (h : a ≠ []) : a = a.dropLast ++ [lastOf a] := by
  rw [show lastOf a = a.getLast h from by unfold lastOf; rw [List.getLastD_eq_getLast?, List.getLast?_eq_some_getLast h]; rfl]
  exact (List.dropLast_concat_getLast h).symm
theorem Leads.len {a b : List Int} (h : Leads a b) : a.length ≤ b.length := by
  rcases h.2 with h | h
  · exact h.length_le
  · omega
theorem Leads.refl {a : List Int} (h : a ≠ []) : Leads a a := ⟨h, .inl (List.prefix_refl _)⟩
theorem Leads.same {a b : List Int} (h : Leads a b) (hl : a.length = b.length) : a.dropLast = b.dropLast ∧ lastOf a ≤ lastOf b := by
  rcases h.2 with h | ⟨_, h⟩
  · rw [h.eq_of_length hl]; exact ⟨rfl, Int.le_refl _⟩
  · exact h
theorem Leads.anti {a b : List Int} (h : Leads a b) (k : Leads b a) : a = b := by
  have h1 := h.len
  have h2 := k.len
  obtain ⟨h3, h4⟩ := h.same (by omega)
  obtain ⟨_, h5⟩ := k.same (by omega)
  rw [split_last h.1, split_last k.1, h3, Int.le_antisymm h4 h5]
theorem Leads.trans {a b c : List Int} (h : Leads a b) (k : Leads b c) (hl : a.length < b.length ∨ c.length = a.length) : Leads a c := by
  have h1 := h.len
  have h2 := k.len
  refine ⟨h.1, ?_⟩
  by_cases hc : c.length = a.length
  · obtain ⟨h3, h4⟩ := h.same (by omega)
    obtain ⟨h5, h6⟩ := k.same (by omega)
    exact .inr ⟨by omega, h3.trans h5, by omega⟩
  · have hl : a.length < b.length := by omega
    have hp : a <+: b := by
      rcases h.2 with h | ⟨h3, _⟩
      · exact h
      · omega
    rcases k.2 with hk | ⟨h3, h4, _⟩
    · exact .inl (hp.trans hk)
    · have : a <+: b.dropLast := by
        rw [List.prefix_iff_eq_take] at hp ⊢
        rw [List.dropLast_eq_take, List.take_take, show min a.length (b.length - 1) = a.length from by omega]
        exact hp
      exact .inl ((this.trans (h4 ▸ List.prefix_refl _)).trans (List.dropLast_prefix c))
theorem Leads.front {a : List Int} (h : a ≠ []) (t : List Int) : Leads a (a ++ t) := ⟨h, .inl (List.prefix_append _ _)⟩

/-! ## raised -/
section
variable {v : List Int}
theorem up_len (h0 : v ≠ []) : (v.dropLast ++ [lastOf v + 1]).length = v.length := by
  have := List.length_pos_iff.2 h0
  simp; omega
theorem up_ne : v.dropLast ++ [lastOf v + 1] ≠ v := fun h => by
  have := congrArg lastOf h
  rw [lastOf_snoc] at this
  omega
theorem up1 (h0 : v ≠ []) : Leads v (v.dropLast ++ [lastOf v + 1]) := ⟨h0, .inr ⟨(up_len h0).symm, by simp, by rw [lastOf_snoc]; omega⟩⟩
theorem up2 (h0 : v ≠ []) : ¬ Leads (v.dropLast ++ [lastOf v + 1]) v := fun h => by
  have := (h.same (up_len h0)).2
  rw [lastOf_snoc] at this
  omega
theorem up3 (h0 : v ≠ []) (t : List Int) : ¬ Leads (v.dropLast ++ [lastOf v + 1]) (v ++ t) := fun h => by
  cases t with
  | nil => rw [List.append_nil] at h; exact up2 h0 h
  | cons x t =>
    rcases h.2 with h | ⟨h1, _⟩
    · have := List.prefix_of_prefix_length_le h (List.prefix_append v (x :: t)) (by rw [up_len h0]; exact Nat.le_refl _)
      exact up_ne (this.eq_of_length (up_len h0))
    · rw [up_len h0] at h1
      simp at h1
theorem up4 (h0 : v ≠ []) : ¬ Leads v (v.dropLast ++ [lastOf v + 1] ++ [0]) := fun h => by
  have hl := up_len h0
  rcases h.2 with h | ⟨h1, _⟩
  · have := List.prefix_of_prefix_length_le h (List.prefix_append (v.dropLast ++ [lastOf v + 1]) [0]) (by rw [hl]; exact Nat.le_refl _)
    exact up_ne (this.eq_of_length hl.symm).symm
  · rw [List.length_append, hl] at h1
    simp at h1
theorem up5 (h0 : v ≠ []) : ¬ Leads (v ++ [0]) (v.dropLast ++ [lastOf v + 1] ++ [0]) := fun h => by
  have hl := up_len h0
  have hne := up_ne (v := v)
  generalize v.dropLast ++ [lastOf v + 1] = w at h hl hne
  have := (h.same (by simp [hl])).1
  rw [List.dropLast_concat, List.dropLast_concat] at this
  exact hne this.symm
end

/-! ## the order -/
theorem cmp_cons (a b : Int) (l m : List Int) : compare (a :: l) (b :: m) = if a = b then compare l m else if b < a then 1 else -1 := by
  by_cases e : a = b
  · subst e
    rw [if_pos rfl]
    unfold compare
    have h1 : cp (a :: l) (a :: m) = cp l m + 1 := by simp [cp]
    rw [h1]
    simp
  · rw [if_neg e]
    unfold compare
    have h1 : cp (a :: l) (b :: m) = 0 := by simp [cp, e]
    rw [h1]
    simp
theorem cmp_nil : compare [] [] = 0 := rfl
theorem cmp_nil_cons (b : Int) (m : List Int) : compare [] (b :: m) = -1 := by simp [compare, cp]
theorem cmp_cons_nil (a : Int) (l : List Int) : compare (a :: l) [] = 1 := by simp [compare, cp]
theorem cmp_range : ∀ (a b : List Int), compare a b = -1 ∨ compare a b = 0 ∨ compare a b = 1
  | [], [] => .inr (.inl rfl)
  | [], b :: m => .inl (cmp_nil_cons b m)
  | a :: l, [] => .inr (.inr (cmp_cons_nil a l))
  | a :: l, b :: m => by
    rw [cmp_cons]
    split
    · exact cmp_range l m
    · split
      · exact .inr (.inr rfl)
      · exact .inl rfl
theorem cmp_neg : ∀ (a b : List Int), compare a b = - compare b a
  | [], [] => rfl
  | [], b :: m => by rw [cmp_nil_cons, cmp_cons_nil]
  | a :: l, [] => by rw [cmp_nil_cons, cmp_cons_nil]; rfl
  | a :: l, b :: m => by
    rw [cmp_cons, cmp_cons]
    by_cases e : a = b
    · subst e; rw [if_pos rfl, if_pos rfl]; exact cmp_neg l m
    · rw [if_neg e, if_neg (show ¬ b = a from fun h => e h.symm)]
      by_cases h : b < a
      · rw [if_pos h, if_neg (by omega)]; rfl
      · rw [if_neg h, if_pos (by omega)]
theorem cmp_zero : ∀ (a b : List Int), compare a b = 0 ↔ a = b
  | [], [] => by simp [cmp_nil]
  | [], b :: m => by rw [cmp_nil_cons]; simp
  | a :: l, [] => by rw [cmp_cons_nil]; simp
  | a :: l, b :: m => by
    rw [cmp_cons]
    by_cases e : a = b
    · subst e; rw [if_pos rfl, cmp_zero l m]; simp
    · rw [if_neg e]
      split <;> simp [e]
theorem cmp_trans : ∀ (a b c : List Int), compare a b ≤ 0 → compare b c ≤ 0 → compare a c ≤ 0
  | [], _, [], _, _ => by rw [cmp_nil]; decide
  | [], _, c :: n, _, _ => by rw [cmp_nil_cons]; decide
  | a :: l, [], _, h, _ => by rw [cmp_cons_nil] at h; omega
  | _ :: _, b :: m, [], _, h => by rw [cmp_cons_nil] at h; omega
  | a :: l, b :: m, c :: n, h, k => by
    rw [cmp_cons] at h k ⊢
    by_cases e : a = b
    · subst e
      rw [if_pos rfl] at h
      by_cases e2 : a = c
      · subst e2
        rw [if_pos rfl] at k ⊢
        exact cmp_trans l m n h k
      · rw [if_neg e2] at k ⊢; exact k
    · rw [if_neg e] at h
      have h1 : ¬ b < a := fun hh => by rw [if_pos hh] at h; omega
      by_cases e2 : b = c
      · subst e2
        rw [if_neg e, if_neg h1]; decide
      · rw [if_neg e2] at k
        have h2 : ¬ c < b := fun hh => by rw [if_pos hh] at k; omega
        rw [if_neg (by omega), if_neg (by omega)]; decide
theorem cmp_prefix : ∀ (a t : List Int), compare a (a ++ t) ≤ 0
  | [], [] => by simp [cmp_nil]
  | [], b :: m => by rw [List.nil_append, cmp_nil_cons]; decide
  | a :: l, t => by rw [List.cons_append, cmp_cons, if_pos rfl]; exact cmp_prefix l t
theorem cmp_last : ∀ (l : List Int) (x y : Int), x ≤ y → compare (l ++ [x]) (l ++ [y]) ≤ 0
  | [], x, y, h => by
    rw [List.nil_append, List.nil_append, cmp_cons]
    split
    · rw [cmp_nil]; decide
    · rw [if_neg (by omega)]; decide
  | a :: l, x, y, h => by rw [List.cons_append, List.cons_append, cmp_cons, if_pos rfl]; exact cmp_last l x y h
theorem cmp_leads {a b : List Int} (h : Leads a b) : compare a b ≤ 0 := by
  rcases h.2 with ⟨t, rfl⟩ | ⟨h1, h2, h3⟩
  · exact cmp_prefix a t
  · have hb : b ≠ [] := fun e => h.1 (List.eq_nil_of_length_eq_zero (by rw [h1, e]; rfl))
    rw [split_last h.1, split_last hb, h2]
    exact cmp_last _ _ _ h3
end Go.Hw
