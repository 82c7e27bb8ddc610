/- The gate in plain Lean: what it answers. Own work of this session. -/
import Derived.Test.YtjeponambmjhcaaDoorC3
set_option linter.unusedVariables false
namespace Go.Hw
open Go

/-- A numbered event. -/
structure NE where
  num : Int
  e : EV
def HC.ne (h : HC) : NE := ⟨h.num, h.e.ev⟩

def nlt (p q : NE) : Prop := p.e.tm < q.e.tm ∨ p.e.tm = q.e.tm ∧ p.num < q.num
instance (p q : NE) : Decidable (nlt p q) := inferInstanceAs (Decidable (_ ∨ _))
theorem nlt_asymm (p q : NE) (h : nlt p q) : ¬ nlt q p := by unfold nlt at *; omega

def ins (x : NE) : List NE → List NE
  | [] => [x]
  | y :: l => if nlt x y then x :: y :: l else y :: ins x l
def isort : List NE → List NE
  | [] => []
  | x :: l => ins x (isort l)

theorem ins_perm (x : NE) : ∀ l, (ins x l).Perm (x :: l)
  | [] => List.Perm.refl _
  | y :: l => by
    unfold ins
    split
    · exact List.Perm.refl _
    · exact ((ins_perm x l).cons y).trans (List.Perm.swap _ _ _)
theorem isort_perm : ∀ l, (isort l).Perm l
  | [] => List.Perm.refl _
  | x :: l => (ins_perm x _).trans ((isort_perm l).cons x)

def dis (x y : NE) : Prop := x.num ≠ y.num
theorem ins_sorted {x : NE} : ∀ {l : List NE}, l.Pairwise nlt → (∀ y ∈ l, x.num ≠ y.num) → (ins x l).Pairwise nlt
  | [], _, _ => List.pairwise_singleton _ _
  | y :: l, h, hd => by
    unfold ins
    split
    · rename_i hlt
      refine List.pairwise_cons.2 ⟨fun z hz => ?_, h⟩
      rcases List.mem_cons.1 hz with rfl | hz
      · exact hlt
      · have := (List.pairwise_cons.1 h).1 z hz
        unfold nlt at *; omega
    · rename_i hlt
      have h1 := List.pairwise_cons.1 h
      refine List.pairwise_cons.2 ⟨fun z hz => ?_, ins_sorted h1.2 fun z hz => hd z (List.mem_cons_of_mem _ hz)⟩
      rcases List.mem_cons.1 ((ins_perm x l).subset hz) with rfl | hz
      · have := hd y (List.mem_cons_self ..)
        unfold nlt at *; omega
      · exact h1.1 z hz
theorem isort_sorted : ∀ {l : List NE}, l.Pairwise dis → (isort l).Pairwise nlt
  | [], _ => List.Pairwise.nil
  | x :: l, h => by
    have h1 := List.pairwise_cons.1 h
    exact ins_sorted (isort_sorted h1.2) fun y hy => h1.1 y ((isort_perm l).subset hy)

/-- A weakly sorted list of the same things as a strictly sorted one is that one. -/
theorem weak_unique : ∀ {L M : List NE}, L.Pairwise (fun x y => ¬ nlt y x) → M.Pairwise nlt → L.Perm M → L = M
  | [], M, _, _, h => by simpa using h.symm
  | x :: L, [], _, _, h => by simp at h
  | x :: L, y :: M, hL, hM, h => by
    have hxy : x = y := by
      have hx : x ∈ y :: M := h.subset (List.mem_cons_self ..)
      have hy : y ∈ x :: L := h.symm.subset (List.mem_cons_self ..)
      rcases List.mem_cons.1 hx with e | hx
      · exact e
      · rcases List.mem_cons.1 hy with e | hy
        · exact e.symm
        · exact absurd ((List.pairwise_cons.1 hM).1 x hx) ((List.pairwise_cons.1 hL).1 y hy)
    subst hxy
    rw [weak_unique (List.pairwise_cons.1 hL).2 (List.pairwise_cons.1 hM).2 ((List.perm_cons x).1 h)]

def out (m : Int) (C : List NE) : List NE := isort (C.filter fun x => decide (x.e.tm ≤ m))
def rest (m : Int) (C : List NE) : List NE := C.filter fun x => decide (m < x.e.tm)

/-- What was split off at a time. -/
theorem split_at {O L C : List NE} {m : Int} (hp : (O ++ L).Perm C) (ho : ∀ x ∈ O, x.e.tm ≤ m) (hl : ∀ x ∈ L, m < x.e.tm) : O.Perm (C.filter fun x => decide (x.e.tm ≤ m)) ∧ L.Perm (rest m C) := by
  have h1 := hp.filter fun x => decide (x.e.tm ≤ m)
  have h2 := hp.filter fun x => decide (m < x.e.tm)
  rw [List.filter_append] at h1 h2
  rw [List.filter_eq_self.2 fun x hx => decide_eq_true (ho x hx), List.filter_eq_nil_iff.2 fun x hx => by have := hl x hx; simp; omega, List.append_nil] at h1
  rw [List.filter_eq_nil_iff.2 fun x hx => by have := ho x hx; simp; omega, List.filter_eq_self.2 fun x hx => decide_eq_true (hl x hx), List.nil_append] at h2
  exact ⟨h1, h2⟩

theorem out_unique {O L C : List NE} {m : Int} (hC : C.Pairwise dis) (hp : (O ++ L).Perm C) (ho : ∀ x ∈ O, x.e.tm ≤ m) (hl : ∀ x ∈ L, m < x.e.tm) (hs : O.Pairwise fun x y => ¬ nlt y x) : O = out m C :=
  weak_unique hs (isort_sorted (hC.filter _)) ((split_at hp ho hl).1.trans (isort_perm _).symm)

structure St where
  late : Int
  room : Int
  count : Int
  top : Int
  mark : Int
  C : List NE

structure St.Ok (s : St) : Prop where
  inc : s.C.Pairwise fun x y => x.num < y.num
  num : ∀ x ∈ s.C, x.num ≤ s.count
  tm : ∀ x ∈ s.C, 0 ≤ x.e.tm ∧ x.e.tm ≤ 4611686018427387904
  len : (s.C.length : Int) ≤ s.room
  room : s.room ≤ 4096
  count : 0 ≤ s.count
  vs : ∀ x ∈ s.C, x.e.vs.length ≤ 1048576

theorem St.Ok.dis {s : St} (h : s.Ok) : s.C.Pairwise dis := h.inc.imp fun hlt => by unfold Hw.dis; omega

def top' (s : St) (now : Int) : Int := if s.top < now then now else s.top
def mark' (s : St) (now : Int) : Int := if s.mark < IntKind.i64.wrap (top' s now - s.late) then IntKind.i64.wrap (top' s now - s.late) else s.mark

def advance (s : St) (now : Int) : List NE × Int × St :=
  if now < 0 ∨ 4611686018427387904 < now then ([], 23, s)
  else (out (mark' s now) s.C, 0, { s with top := top' s now, mark := mark' s now, C := rest (mark' s now) s.C })

def push (s : St) (e : EV) : List NE × Int × St :=
  if e.tm < 0 ∨ 4611686018427387904 < e.tm then ([], 23, s)
  else if e.tm < s.mark then ([], 180, s)
  else if mark' s e.tm < e.tm ∧ s.room ≤ ((rest (mark' s e.tm) s.C).length : Int) then ([], 4, s)
  else (out (mark' s e.tm) (s.C ++ [⟨s.count + 1, e⟩]), 0, { s with count := s.count + 1, top := top' s e.tm, mark := mark' s e.tm, C := rest (mark' s e.tm) (s.C ++ [⟨s.count + 1, e⟩]) })

def maxOf (m : Int) : List NE → Int
  | [] => m
  | x :: l => maxOf (if m < x.e.tm then x.e.tm else m) l
def flush (s : St) : List NE × St := (isort s.C, { s with mark := maxOf s.mark s.C, C := [] })

theorem rest_len (m : Int) (C : List NE) : (rest m C).length ≤ C.length := List.length_filter_le ..

theorem advance_ok {s : St} (h : s.Ok) (now : Int) : (advance s now).2.2.Ok := by
  unfold advance
  split
  · exact h
  · have hl := rest_len (mark' s now) s.C
    have := h.len
    exact ⟨h.inc.filter _, fun x hx => h.num x (List.mem_filter.1 hx).1, fun x hx => h.tm x (List.mem_filter.1 hx).1, by show ((rest _ _).length : Int) ≤ s.room; omega, h.room, h.count, fun x hx => h.vs x (List.mem_filter.1 hx).1⟩

theorem push_ok {s : St} (h : s.Ok) {e : EV} (hv : e.vs.length ≤ 1048576) : (push s e).2.2.Ok := by
  unfold push
  split
  · exact h
  · split
    · exact h
    · split
      · exact h
      · rename_i h1 h2 h3
        have hl := rest_len (mark' s e.tm) s.C
        have := h.len
        have hm : ∀ x ∈ rest (mark' s e.tm) (s.C ++ [(⟨s.count + 1, e⟩ : NE)]), x ∈ s.C ∨ x = ⟨s.count + 1, e⟩ := fun x hx => by simpa using (List.mem_filter.1 hx).1
        refine ⟨List.Pairwise.filter _ ?_, fun x hx => ?_, fun x hx => ?_, ?_, h.room, by have := h.count; show 0 ≤ s.count + 1; omega, fun x hx => ?_⟩
        · rw [List.pairwise_append]
          refine ⟨h.inc, List.pairwise_singleton _ _, fun x hx y hy => ?_⟩
          rw [List.mem_singleton] at hy
          subst hy
          have := h.num x hx
          show x.num < s.count + 1
          omega
        · show x.num ≤ s.count + 1
          rcases hm x hx with hx | rfl
          · have := h.num x hx; omega
          · exact Int.le_refl _
        · rcases hm x hx with hx | rfl
          · exact h.tm x hx
          · show 0 ≤ e.tm ∧ e.tm ≤ _; omega
        · show ((rest _ _).length : Int) ≤ s.room
          unfold rest at *
          rw [List.filter_append, List.length_append]
          by_cases hb : mark' s e.tm < e.tm
          · rw [List.filter_cons, if_pos (by simpa using hb)]
            simp only [List.filter_nil, List.length_cons, List.length_nil]
            omega
          · rw [List.filter_cons, if_neg (by simpa using hb)]
            simp only [List.filter_nil, List.length_nil]
            omega
        · rcases hm x hx with hx | rfl
          · exact h.vs x hx
          · exact hv

theorem flush_ok {s : St} (h : s.Ok) : (flush s).2.Ok := by
  have := h.len
  exact ⟨List.Pairwise.nil, fun x hx => (by simp [flush] at hx), fun x hx => (by simp [flush] at hx), by show (0 : Int) ≤ s.room; omega, h.room, h.count, fun x hx => (by simp [flush] at hx)⟩

theorem maxOf_le : ∀ (l : List NE) (m : Int), m ≤ maxOf m l ∧ ∀ x ∈ l, x.e.tm ≤ maxOf m l
  | [], m => ⟨Int.le_refl _, fun x hx => by simp at hx⟩
  | y :: l, m => by
    have h := maxOf_le l (if m < y.e.tm then y.e.tm else m)
    refine ⟨?_, fun x hx => ?_⟩
    · unfold maxOf; split at h <;> rename_i h1 <;> simp only [h1, if_true, if_false] <;> omega
    · unfold maxOf
      rcases List.mem_cons.1 hx with rfl | hx
      · split at h <;> rename_i h1 <;> simp only [h1, if_true, if_false] <;> omega
      · exact h.2 x hx
theorem maxOf_mem : ∀ (l : List NE) (m : Int), maxOf m l = m ∨ ∃ x ∈ l, maxOf m l = x.e.tm
  | [], m => .inl rfl
  | y :: l, m => by
    have h := maxOf_mem l (if m < y.e.tm then y.e.tm else m)
    unfold maxOf
    rcases h with h | ⟨x, hx, h⟩
    · rw [h]
      split
      · exact .inr ⟨y, List.mem_cons_self .., rfl⟩
      · exact .inl rfl
    · exact .inr ⟨x, List.mem_cons_of_mem _ hx, h⟩
/-- The greatest is told by the things alone. -/
theorem maxOf_perm {l l' : List NE} (h : l.Perm l') (m : Int) : maxOf m l = maxOf m l' := by
  have a := maxOf_le l m
  have b := maxOf_le l' m
  have c := maxOf_mem l m
  have d := maxOf_mem l' m
  refine Int.le_antisymm ?_ ?_
  · rcases c with c | ⟨x, hx, c⟩
    · omega
    · have := b.2 x (h.subset hx); omega
  · rcases d with c | ⟨x, hx, c⟩
    · omega
    · have := a.2 x (h.symm.subset hx); omega

end Go.Hw
