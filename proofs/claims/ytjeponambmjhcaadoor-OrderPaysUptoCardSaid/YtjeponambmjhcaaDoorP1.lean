/- OrderPays: the law of pushes that are never refused. Own work of this session. -/
import Derived.Test.YtjeponambmjhcaaDoorN5
set_option linter.unusedVariables false
namespace Go.Hw
open Go

/-- The greatest of the times, 0 at least. -/
def gm (l : List Int) : Int := l.foldl (fun m x => if m < x then x else m) 0
theorem gm_snoc (l : List Int) (x : Int) : gm (l ++ [x]) = if gm l < x then x else gm l := by
  unfold gm
  rw [List.foldl_append]; rfl
theorem gm_ok {l : List Int} (h : ∀ x ∈ l, 0 ≤ x ∧ x ≤ 4611686018427387904) : 0 ≤ gm l ∧ gm l ≤ 4611686018427387904 := by
  unfold gm
  suffices G : ∀ (l : List Int) (m : Int), (∀ x ∈ l, 0 ≤ x ∧ x ≤ 4611686018427387904) → 0 ≤ m → m ≤ 4611686018427387904 → 0 ≤ l.foldl (fun m x => if m < x then x else m) m ∧ l.foldl (fun m x => if m < x then x else m) m ≤ 4611686018427387904 from G l 0 h (by decide) (by decide)
  intro l
  induction l with
  | nil => exact fun m _ h1 h2 => ⟨h1, h2⟩
  | cons x l ih =>
    intro m h h1 h2
    have hx := h x (List.mem_cons_self)
    refine ih _ (fun y hy => h y (List.mem_cons_of_mem _ hy)) ?_ ?_
    · show 0 ≤ if m < x then x else m
      split <;> omega
    · show (if m < x then x else m) ≤ _
      split <;> omega

def mk1 (ts : List Int) (j : Nat) : NE := ⟨(j : Int) + 1, ⟨T j, ts.getD j 0, []⟩⟩
/-- The first events. -/
def evs (ts : List Int) (i : Nat) : List NE := (List.range i).map (mk1 ts)
theorem evs_succ (ts : List Int) (i : Nat) : evs ts (i + 1) = evs ts i ++ [mk1 ts i] := by
  unfold evs
  rw [List.range_succ, List.map_append]; rfl
theorem mem_evs {ts : List Int} {i : Nat} {x : NE} : x ∈ evs ts i ↔ ∃ j, j < i ∧ x = mk1 ts j := by
  unfold evs
  rw [List.mem_map]
  constructor
  · rintro ⟨j, hj, rfl⟩; exact ⟨j, List.mem_range.1 hj, rfl⟩
  · rintro ⟨j, hj, rfl⟩; exact ⟨j, List.mem_range.2 hj, rfl⟩
theorem evs_len (ts : List Int) (i : Nat) : (evs ts i).length = i := by simp [evs]

structure PV (late : Int) (ts : List Int) (s : St) (O : List NE) (i : Nat) : Prop where
  ok : s.Ok
  ct : s.count = i
  ro : s.room = 4096
  la : s.late = late
  tp : s.top = gm (ts.take i)
  mkk : 0 ≤ s.mark ∧ (s.mark = 0 ∨ s.mark ≤ s.top - late)
  perm : (O ++ s.C).Perm (evs ts i)
  so : O.Pairwise nlt
  lo : ∀ x ∈ s.C, s.mark < x.e.tm
  hi : ∀ x ∈ O, x.e.tm ≤ s.mark

theorem outrest (m : Int) (C : List NE) : (out m C ++ rest m C).Perm C := by
  have h : (rest m C) = C.filter fun x => !decide (x.e.tm ≤ m) := by
    unfold rest
    refine List.filter_congr fun x _ => ?_
    by_cases h : m < x.e.tm
    · rw [decide_eq_true h, decide_eq_false (show ¬ x.e.tm ≤ m by omega)]; rfl
    · rw [decide_eq_false h, decide_eq_true (show x.e.tm ≤ m by omega)]; rfl
  rw [h]
  unfold out
  exact ((isort_perm _).append_right _).trans (List.filter_append_perm _ _)

theorem out_mem {m : Int} {C : List NE} {x : NE} : x ∈ out m C ↔ x ∈ C ∧ x.e.tm ≤ m := by
  unfold out
  rw [(isort_perm _).mem_iff, List.mem_filter, decide_eq_true_iff]
theorem rest_mem {m : Int} {C : List NE} {x : NE} : x ∈ rest m C ↔ x ∈ C ∧ m < x.e.tm := by
  unfold rest
  rw [List.mem_filter, decide_eq_true_iff]

theorem PV.start {late : Int} {ts : List Int} (hl : ¬ badNew late 4096) : PV late ts (st0 late 4096) [] 0 :=
  ⟨st0_ok hl, rfl, rfl, rfl, rfl, ⟨Int.le_refl _, .inl rfl⟩, List.Perm.refl _, List.Pairwise.nil, fun x hx => by simp [st0] at hx, fun x hx => by simp at hx⟩

theorem PV.step {late : Int} {ts : List Int} {s : St} {O : List NE} {i : Nat} {x : Int} (v : PV late ts s O i) (hx : ts[i]? = some x) (hi : i < 4096) (hl : 0 ≤ late ∧ late ≤ 4611686018427387904)
    (hts : ∀ x ∈ ts, 0 ≤ x ∧ x ≤ 4611686018427387904) (hlate : gm (ts.take i) - late ≤ x) :
    ∃ R s', push s ⟨T i, x, []⟩ = (R, 0, s') ∧ PV late ts s' (O ++ R) (i + 1) ∧ R.length ≤ 8192 := by
  have hg := gm_ok (l := ts.take i) fun y hy => hts y (List.mem_of_mem_take hy)
  have hx' := hts x (List.mem_of_getElem? hx)
  have ht := v.tp
  have hla := v.la
  have hm := v.mkk
  have htop : top' s x = gm (ts.take (i + 1)) := by
    have : ts.take (i + 1) = ts.take i ++ [x] := by rw [List.take_add_one, hx]; rfl
    rw [this, gm_snoc, ← ht]; rfl
  have htop0 : 0 ≤ top' s x ∧ top' s x ≤ 4611686018427387904 := by unfold top'; split <;> omega
  have htle : s.top ≤ top' s x := by unfold top'; split <;> omega
  have hmk : s.mark ≤ mark' s x ∧ (mark' s x = s.mark ∨ mark' s x = top' s x - late) := by
    unfold mark'
    rw [wr (by omega) (by omega), hla]
    split
    · exact ⟨by omega, .inr rfl⟩
    · exact ⟨Int.le_refl _, .inl rfl⟩
  have hC : s.C.length + O.length = i := by
    have := v.perm.length_eq
    rw [evs_len, List.length_append] at this
    omega
  have hrl := rest_len (mark' s x) s.C
  have hro := v.ro
  have hnum : ∀ y ∈ O ++ s.C, y.num ≤ i := fun y hy => by
    obtain ⟨j, hj, rfl⟩ := mem_evs.1 (v.perm.mem_iff.1 hy)
    show (j : Int) + 1 ≤ i
    omega
  have e : push s ⟨T i, x, []⟩ = (out (mark' s x) (s.C ++ [⟨s.count + 1, ⟨T i, x, []⟩⟩]), 0, { s with count := s.count + 1, top := top' s x, mark := mark' s x, C := rest (mark' s x) (s.C ++ [⟨s.count + 1, ⟨T i, x, []⟩⟩]) }) := by
    unfold push
    rw [if_neg (show ¬ (x < 0 ∨ 4611686018427387904 < x) by omega), if_neg (show ¬ x < s.mark by omega), if_neg (show ¬ (mark' s x < x ∧ s.room ≤ ((rest (mark' s x) s.C).length : Int)) by omega)]
  have hok := push_ok v.ok (e := ⟨T i, x, []⟩) (by simp)
  rw [e] at hok
  have hmk1 : (⟨s.count + 1, ⟨T i, x, []⟩⟩ : NE) = mk1 ts i := by
    unfold mk1
    rw [v.ct, List.getD_eq_getElem?_getD, hx]; rfl
  refine ⟨_, _, e, ⟨hok, ?_, v.ro, v.la, htop, ⟨?_, ?_⟩, ?_, ?_, ?_, ?_⟩, ?_⟩
  · show s.count + 1 = ((i + 1 : Nat) : Int)
    have := v.ct; omega
  · show 0 ≤ mark' s x
    omega
  · show mark' s x = 0 ∨ mark' s x ≤ top' s x - late
    omega
  · rw [hmk1]
    show (O ++ out _ _ ++ rest _ _).Perm _
    rw [List.append_assoc, evs_succ]
    refine ((outrest _ _).append_left O).trans ?_
    rw [← List.append_assoc]
    exact v.perm.append_right _
  · rw [List.pairwise_append]
    refine ⟨v.so, isort_sorted ((St.Ok.snoc v.ok _).filter _), fun y hy z hz => ?_⟩
    have hz := (out_mem.1 hz).1
    have hy' := v.hi y hy
    rcases List.mem_append.1 hz with hz | hz
    · have := v.lo z hz
      exact .inl (by omega)
    · rw [List.mem_singleton] at hz
      subst hz
      have h1 := hnum y (List.mem_append_left _ hy)
      have hct := v.ct
      unfold nlt
      show y.e.tm < x ∨ y.e.tm = x ∧ y.num < s.count + 1
      omega
  · exact fun y hy => (rest_mem.1 hy).2
  · intro y hy
    show y.e.tm ≤ mark' s x
    rcases List.mem_append.1 hy with hy | hy
    · have := v.hi y hy; omega
    · exact (out_mem.1 hy).2
  · have := out_len (mark' s x) (s.C ++ [(⟨s.count + 1, ⟨T i, x, []⟩⟩ : NE)])
    simp at this ⊢
    omega

theorem PV.flush {late : Int} {ts : List Int} {s : St} {O : List NE} {i : Nat} (v : PV late ts s O i) : (O ++ (flush s).1).Perm (evs ts i) ∧ (O ++ (flush s).1).Pairwise nlt := by
  refine ⟨((isort_perm s.C).append_left O).trans v.perm, ?_⟩
  rw [List.pairwise_append]
  refine ⟨v.so, isort_sorted v.ok.dis, fun y hy z hz => ?_⟩
  have := v.lo z ((isort_perm s.C).mem_iff.1 hz)
  have := v.hi y hy
  exact .inl (by omega)

end Go.Hw
