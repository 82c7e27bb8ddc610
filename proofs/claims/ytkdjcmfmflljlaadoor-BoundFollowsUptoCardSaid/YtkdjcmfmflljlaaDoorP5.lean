/- Numbers: where there are values, the lower bounds settle below them. Where there are values with which all leaves hold, Solve says so, and tells no number above. Own work of this session. -/
import Derived.Test.YtkdjcmfmflljlaaDoorP1
set_option linter.unusedVariables false
namespace Go.Hw
open Go

def lg (N : Nu) (i : Nat) : Int := N.least.getD i 0
def mg (N : Nu) (i : Nat) : Int := N.most.getD i 0
theorem getD_set {L : List Int} {i j : Nat} {x : Int} (hi : i < L.length) : (L.set i x).getD j 0 = if j = i then x else L.getD j 0 := by
  rw [List.getD_eq_getElem?_getD, List.getElem?_set]
  by_cases e : i = j
  · subst e; rw [if_pos rfl, if_pos hi, if_pos rfl]; rfl
  · rw [if_neg e, if_neg (Ne.symm e), ← List.getD_eq_getElem?_getD]
theorem raise_get {N : Nu} {i : Nat} {t : Int} (hi : i < N.least.length) (hn : N.none = false) (j : Nat) : lg (raiseP N i t).1 j = if j = i ∧ lg N i < t then t else lg N j := by
  unfold raiseP lg
  rw [if_neg (by rw [hn]; decide)]
  by_cases h : t ≤ N.least.getD i 0
  · rw [if_pos h, if_neg (fun g => by omega)]
  · rw [if_neg h]
    show (N.least.set i t).getD j 0 = _
    rw [getD_set hi]
    by_cases e : j = i
    · rw [if_pos e, if_pos ⟨e, by omega⟩]
    · rw [if_neg e, if_neg (fun g => e g.1)]
theorem raise_ch {N : Nu} {i : Nat} {t : Int} (hn : N.none = false) : (raiseP N i t).2 = true ↔ lg N i < t := by
  unfold raiseP lg
  rw [if_neg (by rw [hn]; decide)]
  by_cases h : t ≤ N.least.getD i 0
  · rw [if_pos h]; exact ⟨fun h => (by cases h), fun g => by omega⟩
  · rw [if_neg h]; exact ⟨fun _ => by omega, fun _ => rfl⟩
/-- The bounds are at one with values. -/
structure Cmp (n : Nat) (t : Nat → Int) (N : Nu) : Prop where
  no : N.none = false
  l : N.least.length = n
  m : N.most.length = n
  lo : ∀ i, i < n → minI ≤ lg N i ∧ lg N i ≤ t i
  hi : ∀ i, i < n → t i ≤ mg N i
  e : ∀ x ∈ N.order, t x.lo + x.more ≤ t x.hi
  ok : AbOk n N.order
section
variable {n : Nat} {t : Nat → Int} {N : Nu}
theorem Cmp.raise (h : Cmp n t N) {i : Nat} {x : Int} (hi : i < n) (h1 : minI ≤ x) (h2 : x ≤ t i) : Cmp n t (raiseP N i x).1 := by
  obtain ⟨r1, r2, r3, r4⟩ := raise_len N i x
  refine ⟨by rw [r4, h.no], by rw [r1, h.l], by rw [r2, h.m], fun j hj => ?_, fun j hj => ?_, by rw [r3]; exact h.e, by rw [r3]; exact h.ok⟩
  · rw [raise_get (by rw [h.l]; exact hi) h.no]
    split
    · rename_i g; rw [g.1]; exact ⟨h1, h2⟩
    · exact h.lo j hj
  · unfold mg; rw [r2]; exact h.hi j hj
theorem Cmp.lower (h : Cmp n t N) {i : Nat} {x : Int} (hi : i < n) (h1 : t i ≤ x) : Cmp n t (lowerP N i x) := by
  refine ⟨h.no, h.l, by show (N.most.set _ _).length = n; rw [List.length_set]; exact h.m, h.lo, fun j hj => ?_, h.e, h.ok⟩
  show t j ≤ (N.most.set i _).getD j 0
  rw [getD_set (by rw [h.m]; exact hi)]
  have := h.hi i hi
  unfold mg at this
  split
  · rename_i e; subst e
    split <;> omega
  · exact h.hi j hj
theorem fail_id (h : N.none = false) : failP N false = N := by
  cases N; simp only at h; subst h; rfl
/-- A leaf holds. -/
def HoldsN (t : Nat → Int) (l : Leaf) : Prop := relI l.o (t l.a) (if l.two = true then t l.b else l.v.n)
theorem Cmp.take (h : Cmp n t N) (ht : ∀ i, i < n → minI ≤ t i ∧ t i ≤ maxI) {l : Leaf} (ha : l.a < n) (hb : l.two = true → l.b < n) (hv : l.two = false → minI ≤ l.v.n ∧ l.v.n ≤ maxI) (ho : Rop l.o) (hh : HoldsN t l) : Cmp n t (takeP N l) := by
  unfold HoldsN at hh
  unfold takeP
  have hta := ht _ ha
  cases h2 : l.two with
  | true =>
    rw [if_pos rfl]
    rw [if_pos h2] at hh
    refine ⟨h.no, h.l, h.m, h.lo, h.hi, fun x hx => ?_, fun x hx => ?_⟩
    · rcases List.mem_append.1 hx with hx | hx
      · exact h.e x hx
      · unfold aboveP at hx
        obtain ⟨q1, q2, q3, q4, q5⟩ := hh
        rcases ho with e | e | e | e | e <;> rw [e] at hx q1 q2 q3 q4 q5 <;> simp at hx
        · have := q1 rfl
          rcases hx with rfl | rfl <;> simp only <;> omega
        · have := q2 rfl
          subst hx; simp only; omega
        · have := q3 rfl
          subst hx; simp only; omega
        · have := q4 rfl
          subst hx; simp only; omega
        · have := q5 rfl
          subst hx; simp only; omega
    · rcases List.mem_append.1 hx with hx | hx
      · exact h.ok x hx
      · exact AbOk.above ha hb h2 x hx
  | false =>
    rw [if_neg (by decide)]
    rw [if_neg (by rw [h2]; decide)] at hh
    have hc := hv h2
    obtain ⟨q1, q2, q3, q4, q5⟩ := hh
    unfold boundP
    rcases ho with e | e | e | e | e <;> rw [e] at q1 q2 q3 q4 q5 ⊢ <;> simp only [maxI, minI] at hc hta
    · have := q1 rfl
      exact (h.raise ha (by simp only [minI]; omega) (by omega)).lower ha (by omega)
    · have := q2 rfl
      rw [if_neg (by decide), if_pos rfl, decide_eq_false (by simp only [minI]; omega), fail_id h.no, wr (by omega) (by omega)]
      exact h.lower ha (by omega)
    · have := q3 rfl
      exact h.lower ha (by omega)
    · have := q4 rfl
      rw [if_pos rfl, decide_eq_false (by simp only [maxI]; omega), fail_id h.no, wr (by omega) (by omega)]
      exact h.raise ha (by simp only [minI]; omega) (by omega)
    · have := q5 rfl
      exact h.raise ha (by simp only [minI]; omega) (by omega)
theorem Cmp.fold {S : Sys} (ht : ∀ i, i < n → minI ≤ t i ∧ t i ≤ maxI) : ∀ {L : List Leaf} {N : Nu}, Cmp n t N → (∀ l ∈ L, l.a < n ∧ (l.two = true → l.b < n)) → (∀ l ∈ L, kindP S l.a = 1 → (l.two = false → minI ≤ l.v.n ∧ l.v.n ≤ maxI) ∧ Rop l.o ∧ HoldsN t l) → Cmp n t (L.foldl (nstep S) N)
  | [], _, h, _, _ => h
  | l :: L, N, h, hi, hh => by
    rw [List.foldl_cons]
    refine Cmp.fold ht ?_ (fun x hx => hi x (List.mem_cons_of_mem _ hx)) fun x hx => hh x (List.mem_cons_of_mem _ hx)
    unfold nstep
    split
    · rename_i hk
      obtain ⟨i1, i2⟩ := hi l (List.mem_cons_self ..)
      obtain ⟨g1, g2, g3⟩ := hh l (List.mem_cons_self ..) hk
      exact h.take ht i1 i2 g1 g2 g3
    · exact h
theorem Cmp.start (ht : ∀ i, i < n → minI ≤ t i ∧ t i ≤ maxI) : Cmp n t (num0 n) := by
  have h1 : ∀ i, i < n → lg (num0 n) i = minI := fun i hi => by
    unfold lg num0; rw [List.getD_eq_getElem?_getD, List.getElem?_replicate, if_pos hi]; rfl
  have h2 : ∀ i, i < n → mg (num0 n) i = maxI := fun i hi => by
    unfold mg num0; rw [List.getD_eq_getElem?_getD, List.getElem?_replicate, if_pos hi]; rfl
  exact ⟨rfl, List.length_replicate, List.length_replicate, fun i hi => by rw [h1 i hi]; exact ⟨Int.le_refl _, (ht i hi).1⟩, fun i hi => by rw [h2 i hi]; exact (ht i hi).2, (fun x hx => by cases hx), fun x hx => by cases hx⟩

/-! ## rounds -/
theorem round_ok (ht : ∀ i, i < n → minI ≤ t i ∧ t i ≤ maxI) : ∀ {O : List Ab} {N : Nu} {ch : Bool}, Cmp n t N → (∀ x ∈ O, t x.lo + x.more ≤ t x.hi) → AbOk n O →
    ∃ N' ch', roundP O N ch = some (N', ch') ∧ Cmp n t N' ∧ N'.order = N.order ∧ (∀ i, lg N i ≤ lg N' i) ∧ (∀ x ∈ O, lg N x.lo + x.more ≤ lg N' x.hi) ∧ (ch' = true → ch = true ∨ ∃ i, i < n ∧ lg N i < lg N' i)
  | [], N, ch, h, _, _ => ⟨N, ch, rfl, h, rfl, fun _ => Int.le_refl _, (fun x hx => by cases hx), .inl⟩
  | x :: O, N, ch, h, he, hO => by
    obtain ⟨o1, o2, o3⟩ := hO x (List.mem_cons_self ..)
    have hx := he x (List.mem_cons_self ..)
    have l1 := h.lo _ o1
    have l2 := h.lo _ o2
    have t1 := ht _ o1
    have t2 := ht _ o2
    simp only [maxI, minI] at l1 l2 t1 t2
    have ew : IntKind.i64.wrap (N.least.getD x.lo 0 + x.more) = lg N x.lo + x.more := wr (by unfold lg at l2; omega) (by unfold lg at l2; omega)
    have hnb : ¬ (0 < x.more ∧ N.least.getD x.lo 0 = maxI) := fun g => by
      have := g.2
      simp only [maxI] at this
      unfold lg at l2
      omega
    have hc := h.raise (x := lg N x.lo + x.more) o1 (by simp only [minI]; omega) (by omega)
    have hr := raise_len N x.hi (lg N x.lo + x.more)
    have hget := raise_get (t := lg N x.lo + x.more) (show x.hi < N.least.length by rw [h.l]; exact o1) h.no
    have hch := raise_ch (i := x.hi) (t := lg N x.lo + x.more) h.no
    have mono : ∀ i, lg N i ≤ lg (raiseP N x.hi (lg N x.lo + x.more)).1 i := fun i => by
      rw [hget]
      split
      · rename_i g; rw [g.1]; omega
      · exact Int.le_refl _
    rw [roundP, if_neg hnb, ew]
    obtain ⟨N', ch', e, c, oo, m, ed, cc⟩ := round_ok ht (O := O) (ch := if (raiseP N x.hi (lg N x.lo + x.more)).2 = true then true else ch) hc (fun y hy => he y (List.mem_cons_of_mem _ hy)) fun y hy => hO y (List.mem_cons_of_mem _ hy)
    refine ⟨N', ch', e, c, by rw [oo, hr.2.2.1], fun i => Int.le_trans (mono i) (m i), fun y hy => ?_, fun hc' => ?_⟩
    · rcases List.mem_cons.1 hy with rfl | hy
      · have := m y.hi
        rw [hget] at this
        split at this
        · exact this
        · rename_i g
          have : ¬ lg N y.hi < lg N y.lo + y.more := fun g' => g ⟨rfl, g'⟩
          omega
      · have := ed y hy
        have := mono y.lo
        omega
    · rcases cc hc' with h1 | ⟨i, hi, h1⟩
      · by_cases hb : (raiseP N x.hi (lg N x.lo + x.more)).2 = true
        · right
          refine ⟨x.hi, o1, ?_⟩
          have h2 := m x.hi
          rw [hget, if_pos ⟨rfl, hch.1 hb⟩] at h2
          have := hch.1 hb
          omega
        · rw [if_neg hb] at h1
          exact .inl h1
      · exact .inr ⟨i, hi, by have := mono i; omega⟩

/-! ## least values -/
theorem sum_le {f g : Nat → Nat} : ∀ {l : List Nat}, (∀ i ∈ l, f i ≤ g i) → (l.map f).sum ≤ (l.map g).sum
  | [], _ => Nat.le_refl _
  | a :: l, h => by
    have h1 := h a (List.mem_cons_self ..)
    have h2 := sum_le (l := l) fun i hi => h i (List.mem_cons_of_mem _ hi)
    simp only [List.map_cons, List.sum_cons]; omega
theorem sum_lt {f g : Nat → Nat} {j : Nat} : ∀ {l : List Nat}, (∀ i ∈ l, f i ≤ g i) → j ∈ l → f j < g j → (l.map f).sum < (l.map g).sum
  | [], _, h, _ => by cases h
  | a :: l, h, hj, hlt => by
    have h1 := h a (List.mem_cons_self ..)
    have h2 := sum_le (l := l) fun i hi => h i (List.mem_cons_of_mem _ hi)
    simp only [List.map_cons, List.sum_cons]
    rcases List.mem_cons.1 hj with rfl | hj
    · omega
    · have := sum_lt (l := l) (fun i hi => h i (List.mem_cons_of_mem _ hi)) hj hlt
      omega
/-- No values could all sink. -/
def Tight (n : Nat) (init : Nat → Int) (O : List Ab) (τ : Nat → Int) : Prop :=
  ∀ C : Nat → Prop, (∃ v, v < n ∧ C v) → (∀ v, v < n → C v → init v < τ v) → ∃ x ∈ O, C x.hi ∧ ¬ C x.lo ∧ τ x.lo + x.more = τ x.hi
open Classical in
theorem tight_exists {init : Nat → Int} {O : List Ab} : ∀ (m : Nat) (τ : Nat → Int), ((List.range n).map fun i => (τ i - init i).toNat).sum = m → (∀ i, i < n → init i ≤ τ i) → (∀ x ∈ O, τ x.lo + x.more ≤ τ x.hi) → AbOk n O →
    ∃ σ : Nat → Int, (∀ i, i < n → init i ≤ σ i ∧ σ i ≤ τ i) ∧ (∀ x ∈ O, σ x.lo + x.more ≤ σ x.hi) ∧ Tight n init O σ := by
  intro m
  induction m using Nat.strongRecOn with
  | _ m ih =>
    intro τ hm h1 h2 hO
    by_cases ht : Tight n init O τ
    · exact ⟨τ, fun i hi => ⟨h1 i hi, Int.le_refl _⟩, h2, ht⟩
    · unfold Tight at ht
      simp only [Classical.not_forall] at ht
      obtain ⟨C, ⟨v, hv, hcv⟩, hC, hno⟩ := ht
      have hno : ∀ x ∈ O, C x.hi → ¬ C x.lo → τ x.lo + x.more ≠ τ x.hi := fun x hx a b e => hno ⟨x, hx, a, b, e⟩
      have low : ∀ i, i < n → init i ≤ (if C i then τ i - 1 else τ i) := fun i hi => by
        have := h1 i hi
        split
        · rename_i g; have := hC i hi g; omega
        · exact this
      have edge : ∀ x ∈ O, (if C x.lo then τ x.lo - 1 else τ x.lo) + x.more ≤ (if C x.hi then τ x.hi - 1 else τ x.hi) := fun x hx => by
        have := h2 x hx
        have hn := hno x hx
        by_cases a : C x.hi
        · rw [if_pos a]
          by_cases b : C x.lo
          · rw [if_pos b]; omega
          · rw [if_neg b]; have := hn a b; omega
        · rw [if_neg a]
          split <;> omega
      have less : ((List.range n).map fun i => ((if C i then τ i - 1 else τ i) - init i).toNat).sum < m := by
        rw [← hm]
        refine sum_lt (j := v) (fun i hi => ?_) (List.mem_range.2 hv) ?_
        · split <;> omega
        · have := hC v hv hcv
          rw [if_pos hcv]; omega
      obtain ⟨σ, g1, g2, g3⟩ := ih _ less (fun i => if C i then τ i - 1 else τ i) rfl low edge hO
      refine ⟨σ, fun i hi => ⟨(g1 i hi).1, Int.le_trans (g1 i hi).2 ?_⟩, g2, g3⟩
      split <;> omega
theorem count_le {p q : Nat → Bool} : ∀ {l : List Nat}, (∀ i ∈ l, p i = true → q i = true) → l.countP p ≤ l.countP q := fun {l} h => List.countP_mono_left h
theorem count_lt {p q : Nat → Bool} {j : Nat} : ∀ {l : List Nat}, (∀ i ∈ l, p i = true → q i = true) → j ∈ l → p j = false → q j = true → l.countP p < l.countP q
  | [], _, h, _, _ => by cases h
  | a :: l, h, hj, h1, h2 => by
    have hl : ∀ i ∈ l, p i = true → q i = true := fun i hi => h i (List.mem_cons_of_mem _ hi)
    have hle := count_le hl
    rw [List.countP_cons, List.countP_cons]
    rcases List.mem_cons.1 hj with rfl | hj
    · rw [h1, h2]; simp; omega
    · have := count_lt hl hj h1 h2
      have ha := h a (List.mem_cons_self ..)
      cases hp : p a <;> cases hq : q a <;> simp <;> first | omega | (rw [hp, hq] at ha; simp at ha)
theorem rise_ok {init τ : Nat → Int} (ht : ∀ i, i < n → minI ≤ τ i ∧ τ i ≤ maxI) {O : List Ab} (hO : AbOk n O) (he : ∀ x ∈ O, τ x.lo + x.more ≤ τ x.hi) (hT : Tight n init O τ) : ∀ (f : Nat) (N : Nu), Cmp n τ N → N.order = O → (∀ i, i < n → init i ≤ lg N i) → ((List.range n).countP fun i => decide (lg N i < τ i)) < f → ∃ N', riseP f N = some N' ∧ Cmp n τ N'
  | 0, _, _, _, _, h => by omega
  | f + 1, N, hc, ho, hi, hf => by
    obtain ⟨N', ch', e, c, oo, m, ed, cc⟩ := round_ok ht (O := O) (ch := false) hc he hO
    rw [riseP, ho, e]
    cases ch' with
    | false => exact ⟨N', rfl, c⟩
    | true =>
      rcases cc rfl with h | ⟨i, hin, hlt⟩
      · cases h
      · have hle : ∀ j, j < n → lg N j ≤ τ j := fun j hj => (hc.lo j hj).2
        obtain ⟨x, hx, hx1, hx2, hx3⟩ := hT (fun v => v < n ∧ lg N v < τ v) ⟨i, hin, hin, by have := (c.lo i hin).2; omega⟩ fun v hv hcv => by have := hi v hv; omega
        obtain ⟨o1, o2, o3⟩ := hO x hx
        have e1 : lg N x.lo = τ x.lo := by
          have := hle _ o2
          by_cases g : lg N x.lo < τ x.lo
          · exact absurd ⟨o2, g⟩ hx2
          · omega
        have := ed x hx
        refine rise_ok ht hO he hT f N' c (by rw [oo, ho]) (fun j hj => Int.le_trans (hi j hj) (m j)) ?_
        have := count_lt (p := fun j => decide (lg N' j < τ j)) (q := fun j => decide (lg N j < τ j)) (j := x.hi) (l := List.range n) (fun j hj hp => by
          simp only [decide_eq_true_eq] at hp ⊢
          have := m j; omega) (List.mem_range.2 o1) (by simp only [decide_eq_false_iff_not]; omega) (by simp only [decide_eq_true_eq]; exact hx1.2)
        omega
theorem okN_of {N : Nu} (h : Cmp n t N) : okN N = true := okN_iff.2 fun i hi => by
  rw [h.l] at hi
  have h1 := (h.lo i hi).2
  have h2 := h.hi i hi
  unfold lg at h1
  unfold mg at h2
  omega
theorem settled_ok (h : Cmp n t N) (ht : ∀ i, i < n → minI ≤ t i ∧ t i ≤ maxI) : ∃ N', settledP N = some N' ∧ ∀ i, i < n → lg N' i ≤ t i := by
  obtain ⟨τ, g1, g2, g3⟩ := tight_exists (n := n) (init := lg N) (O := N.order) _ t rfl (fun i hi => (h.lo i hi).2) h.e h.ok
  have hτ : ∀ i, i < n → minI ≤ τ i ∧ τ i ≤ maxI := fun i hi => by
    have := g1 i hi; have := (h.lo i hi).1; have := (ht i hi).2; omega
  have hc : Cmp n τ N := ⟨h.no, h.l, h.m, fun i hi => ⟨(h.lo i hi).1, (g1 i hi).1⟩, fun i hi => Int.le_trans (g1 i hi).2 (h.hi i hi), g2, h.ok⟩
  have hcount : ((List.range n).countP fun i => decide (lg N i < τ i)) < N.least.length + 2 := by
    have := List.countP_le_length (p := fun i => decide (lg N i < τ i)) (l := List.range n)
    rw [List.length_range] at this
    rw [h.l]; omega
  obtain ⟨N', e, c⟩ := rise_ok hτ h.ok g2 g3 _ N hc rfl (fun i _ => Int.le_refl _) hcount
  refine ⟨N', ?_, fun i hi => Int.le_trans (c.lo i hi).2 (g1 i hi).2⟩
  unfold settledP
  rw [if_neg (by rw [h.no]; decide), e]
  simp only
  rw [if_pos (okN_of c)]
end

def rhs (τ : Nat → VT) (l : Leaf) : VT := if l.two = true then τ l.b else l.v
/-- Leaves as conditions give them. -/
structure LvsN (refs : List ER) (C : List (List Leaf × Bool)) : Prop where
  v : Lvs refs (C.flatMap Prod.fst)
  o : ∀ l ∈ C.flatMap Prod.fst, Rop l.o
  c : ∀ l ∈ C.flatMap Prod.fst, l.two = false → (l.o = 6 ∨ l.v.k = 1) ∧ minI ≤ l.v.n ∧ l.v.n ≤ maxI ∧ vld l.v = true
/-- What is told is no more than what is there. -/
def Below (v w : VT) : Prop := v.k = w.k → (v.k = 1 → v.n ≤ w.n) ∧ (v.k = 2 → v.s ≠ E → v = w) ∧ (v.k = 3 → v.b = true → v = w)
def rank (n : Nat) (τ : Nat → VT) (s : ByteArray) : Nat := (List.range n).countP fun j => decide ((τ j).k = 2) && slt (τ j).s s
def intOf (n : Nat) (τ : Nat → VT) (i : Nat) : Int := if (τ i).k = 1 then (τ i).n else if (τ i).k = 2 then (rank n τ (τ i).s : Int) else bitB (τ i).b
theorem rank_lt {n : Nat} {τ : Nat → VT} {i : Nat} {s : ByteArray} (hi : i < n) (hk : (τ i).k = 2) (h : slt (τ i).s s = true) : rank n τ (τ i).s < rank n τ s := by
  refine count_lt (j := i) (fun j _ hp => ?_) (List.mem_range.2 hi) ?_ ?_
  · simp only [Bool.and_eq_true, decide_eq_true_eq] at hp ⊢
    exact ⟨hp.1, slt_trans hp.2 h⟩
  · rw [slt_irrefl, Bool.and_false]
  · rw [h, hk]; rfl
theorem rank_rel {n : Nat} {τ : Nat → VT} {i j : Nat} {o : Int} (hi : i < n) (hj : j < n) (ki : (τ i).k = 2) (kj : (τ j).k = 2) (h : relI o (cmpT (τ i).s (τ j).s) 0) : relI o (rank n τ (τ i).s : Int) (rank n τ (τ j).s : Int) := by
  have lt : cmpT (τ i).s (τ j).s < 0 → rank n τ (τ i).s < rank n τ (τ j).s := fun g => rank_lt hi ki ((cmpT_neg _ _).1 g)
  have gt : 0 < cmpT (τ i).s (τ j).s → rank n τ (τ j).s < rank n τ (τ i).s := fun g => rank_lt hj kj ((cmpT_pos _ _).1 g)
  have eq : cmpT (τ i).s (τ j).s = 0 → rank n τ (τ i).s = rank n τ (τ j).s := fun g => by rw [(cmpT_zero _ _).1 g]
  obtain ⟨h1, h2, h3, h4, h5⟩ := h
  refine ⟨fun e => ?_, fun e => ?_, fun e => ?_, fun e => ?_, fun e => ?_⟩
  · have := eq (h1 e); omega
  · have := lt (h2 e); omega
  · have := h3 e
    rcases Int.lt_or_eq_of_le this with g | g
    · have := lt g; omega
    · have := eq g; omega
  · have := gt (h4 e); omega
  · have := h5 e
    rcases Int.lt_or_eq_of_le this with g | g
    · have := gt g; omega
    · have := eq g.symm; omega
theorem YesB.eq {a b : VT} (h : YesB 6 a b) : a = b := by
  obtain ⟨h1, h2, h3, _, h5⟩ := (yesB_iff (.inl rfl) a b).1 h
  exact (cmpV_sign h1 h2 h3).2.1 (h5.1 rfl)
section
variable {refs : List ER} {C : List (List Leaf × Bool)} {τ : Nat → VT}
theorem mem_all {l : Leaf} (h : l ∈ allP (sysP refs C)) : l ∈ C.flatMap Prod.fst ∧ countsP (sysP refs C) l = true := by
  obtain ⟨c, hc, hl⟩ := List.mem_flatMap.1 h
  obtain ⟨h1, h2⟩ := List.mem_filter.1 hl
  exact ⟨List.mem_flatMap.2 ⟨c, hc, h1⟩, h2⟩
theorem tells_mem {S : Sys} {V : List VT} {L : List Leaf} (hi : ∀ l ∈ L, l.a < S.refs.length ∧ (l.two = true → l.b < S.refs.length)) : ∀ {st : TSt}, (∀ e ∈ st.2, ∃ i, i < S.refs.length ∧ e = (S.refs.getD i zeroE, V.getD i zeroV)) → ∀ e ∈ (L.foldl (tellL S V) st).2, ∃ i, i < S.refs.length ∧ e = (S.refs.getD i zeroE, V.getD i zeroV) := by
  have one : ∀ {st : TSt} {i : Nat}, i < S.refs.length → (∀ e ∈ st.2, ∃ i, i < S.refs.length ∧ e = (S.refs.getD i zeroE, V.getD i zeroV)) → ∀ e ∈ (tellP S V st i).2, ∃ i, i < S.refs.length ∧ e = (S.refs.getD i zeroE, V.getD i zeroV) := fun hi h e he => by
    unfold tellP at he
    split at he
    · rcases List.mem_append.1 he with he | he
      · exact h e he
      · rw [List.mem_singleton] at he; exact ⟨_, hi, he⟩
    · exact h e he
  induction L with
  | nil => intro st h; exact h
  | cons l L ih =>
    intro st h
    rw [List.foldl_cons]
    refine ih (fun x hx => hi x (List.mem_cons_of_mem _ hx)) ?_
    obtain ⟨i1, i2⟩ := hi l (List.mem_cons_self ..)
    unfold tellL
    split
    · exact one (i2 (by assumption)) (one i1 h)
    · exact one i1 h
theorem values_get {S : Sys} {N : Nu} {W : Wo} {n i : Nat} (h : i < n) : (valuesP S N W n).getD i zeroV = valueP S N W i := by
  unfold valuesP
  rw [List.getD_eq_getElem?_getD, List.getElem?_map, List.getElem?_range h]; rfl
theorem solve_complete (h : LvsN refs C) (hn : refs.length ≤ 100000) (ho : (sysP refs C).K.any oddP = false) (hr : ∀ i, i < refs.length → minI ≤ (τ i).n ∧ (τ i).n ≤ maxI) {L : List Leaf}
    (hL : ∀ l ∈ L, (l.a < refs.length ∧ (l.two = true → l.b < refs.length)) ∧ Rop l.o ∧ countsP (sysP refs C) l = true ∧ YesB l.o (τ l.a) (rhs τ l) ∧ (l.two = false → (l.o = 6 ∨ l.v.k = 1) ∧ minI ≤ l.v.n ∧ l.v.n ≤ maxI ∧ kindP (sysP refs C) l.a = l.v.k)) :
    ∃ N W, solveP (sysP refs C) L = some (N, W) ∧ (∀ i, i < refs.length → lg N i ≤ intOf refs.length τ i) ∧ ∀ i v, i < refs.length → mget W.M (root W.G i : Int) = some v → τ i = ofT v := by
  have hi : ∀ l ∈ L, l.a < (sysP refs C).refs.length ∧ (l.two = true → l.b < (sysP refs C).refs.length) := fun l hl => (hL l hl).1
  obtain ⟨W, hW, hWv⟩ := words_complete (S := sysP refs C) (L := L) (τ := τ) hi fun l hl hk => by
    obtain ⟨_, h2, h3, h4, h5⟩ := hL l hl
    have h6 : l.two = true → l.o = 6 := fun ht => by
      unfold countsP at h3
      rw [ht] at h3
      simp only [Bool.not_true, Bool.false_or, Bool.or_eq_true, decide_eq_true_eq] at h3
      exact h3.resolve_right hk
    refine ⟨fun ht => ?_, fun ht => ?_⟩
    · rw [rhs, if_pos ht, h6 ht] at h4
      exact h4.eq
    · obtain ⟨g1, _, _, g4⟩ := h5 ht
      have : l.o = 6 := g1.resolve_right fun e => hk (by rw [g4, e])
      rw [rhs, if_neg (by rw [ht]; decide), this] at h4
      exact h4.eq
  have hin : ∀ i, i < refs.length → minI ≤ intOf refs.length τ i ∧ intOf refs.length τ i ≤ maxI := fun i hi => by
    have h1 := hr i hi
    unfold intOf
    have h2 := List.countP_le_length (p := fun j => decide ((τ j).k = 2) && slt (τ j).s (τ i).s) (l := List.range refs.length)
    rw [List.length_range] at h2
    simp only [minI, maxI] at *
    split
    · exact h1
    · split
      · unfold rank; omega
      · cases (τ i).b <;> decide
  have hc : Cmp refs.length (intOf refs.length τ) (numP (sysP refs C) L) := by
    refine Cmp.fold hin (Cmp.start hin) (fun l hl => (hL l hl).1) fun l hl hk => ?_
    obtain ⟨⟨a1, a2⟩, h2, h3, h4, h5⟩ := hL l hl
    refine ⟨fun ht => ⟨(h5 ht).2.1, (h5 ht).2.2.1⟩, h2, ?_⟩
    obtain ⟨y1, y2, y3, y4, y5⟩ := (yesB_iff h2 _ _).1 h4
    unfold HoldsN
    unfold rhs at h4 y2 y3 y5
    cases ht : l.two with
    | true =>
      rw [if_pos ht] at h4 y2 y3 y5
      rw [if_pos rfl]
      have e1 := vld_cases y1
      have e2 := vld_cases y2
      unfold intOf
      rw [← y3]
      by_cases k1 : (τ l.a).k = 1
      · rw [if_pos k1, if_pos k1]
        have ea : τ l.a = numV (τ l.a).n := by
          rcases e1 with e | e | e
          · exact e
          · rw [e] at k1; cases k1
          · rw [e] at k1; cases k1
        have eb : τ l.b = numV (τ l.b).n := by
          rw [y3] at k1
          rcases e2 with e | e | e
          · exact e
          · rw [e] at k1; cases k1
          · rw [e] at k1; cases k1
        rw [ea, eb] at h4
        exact (YesB.num h2 _ _).1 h4
      · rw [if_neg k1, if_neg k1]
        by_cases k2 : (τ l.a).k = 2
        · rw [if_pos k2, if_pos k2]
          have ea : τ l.a = ⟨2, 0, (τ l.a).s, false⟩ := by
            rcases e1 with e | e | e
            · rw [e] at k2; cases k2
            · exact e
            · rw [e] at k2; cases k2
          have k2' := k2
          rw [y3] at k2'
          have eb : τ l.b = ⟨2, 0, (τ l.b).s, false⟩ := by
            rcases e2 with e | e | e
            · rw [e] at k2'; cases k2'
            · exact e
            · rw [e] at k2'; cases k2'
          refine rank_rel a1 (a2 ht) k2 k2' ?_
          rw [ea, eb, cmpV_str] at y5
          exact y5
        · rw [if_neg k2, if_neg k2]
          have k3 : (τ l.a).k = 3 := by
            rcases e1 with e | e | e
            · exact absurd (by rw [e]; rfl) k1
            · exact absurd (by rw [e]) k2
            · rw [e]; rfl
          have o6 : l.o = 6 := by
            by_cases e : l.o = 6
            · exact e
            · exact absurd k3 (y4 e)
          rw [o6] at h4
          rw [o6, h4.eq]
          exact ⟨fun _ => rfl, (fun h => by cases h), (fun h => by cases h), (fun h => by cases h), fun h => by cases h⟩
    | false =>
      rw [if_neg (by rw [ht]; decide)] at h4 y2 y3 y5
      rw [if_neg (by decide)]
      have hv1 : l.v.k = 1 := by rw [← (h5 ht).2.2.2]; exact hk
      have k1 : (τ l.a).k = 1 := y3.trans hv1
      have ea : τ l.a = numV (τ l.a).n := by
        rcases vld_cases y1 with e | e | e
        · exact e
        · rw [e] at k1; cases k1
        · rw [e] at k1; cases k1
      have eb : l.v = numV l.v.n := by
        rcases vld_cases y2 with e | e | e
        · exact e
        · rw [e] at hv1; cases hv1
        · rw [e] at hv1; cases hv1
      unfold intOf
      rw [if_pos k1]
      rw [ea, eb] at h4
      exact (YesB.num h2 _ _).1 h4
  obtain ⟨N, hN, hNl⟩ := settled_ok hc hin
  exact ⟨N, W, by rw [solveP, hW]; simp only; rw [hN], hNl, hWv⟩
/-- The theorem. -/
theorem answer_complete (h : LvsN refs C) (hn : refs.length ≤ 100000) (hr : ∀ i, i < refs.length → minI ≤ (τ i).n ∧ (τ i).n ≤ maxI) (hy : ∀ l ∈ C.flatMap Prod.fst, YesB l.o (τ l.a) (rhs τ l)) (ht : ∀ i, i < refs.length → timeP (refs.getD i zeroE) = true → (τ i).k = 1) :
    ∃ K, answerP (sysP refs C) = some K ∧ ∀ e ∈ K, ∃ i, i < refs.length ∧ e.1 = refs.getD i zeroE ∧ Below e.2 (τ i) := by
  have hk : ∀ l ∈ C.flatMap Prod.fst, (l.two = true → (τ l.a).k = (τ l.b).k) ∧ (l.two = false → (τ l.a).k = l.v.k) := fun l hl => by
    have := ((yesB_iff (h.o l hl) _ _).1 (hy l hl)).2.2.1
    unfold rhs at this
    exact ⟨fun ht => by rwa [if_pos ht] at this, fun ht => by rwa [if_neg (by rw [ht]; decide)] at this⟩
  obtain ⟨ho, hkd⟩ := kinds_complete h.v (κ := fun i => (τ i).k) hk ht
  have hks := (kinds_sound h.v ho).1
  obtain ⟨N, W, hs, hl, hw⟩ := solve_complete h hn ho hr (L := allP (sysP refs C)) fun l hl => by
    obtain ⟨m1, m2⟩ := mem_all hl
    have := h.v.ok l m1
    exact ⟨⟨this.1, this.2.1⟩, h.o l m1, m2, hy l m1, fun ht => ⟨(h.c l m1 ht).1, (h.c l m1 ht).2.1, (h.c l m1 ht).2.2.1, hks l m1 ht⟩⟩
  refine ⟨toldP (sysP refs C) N W, ?_, fun e he => ?_⟩
  · unfold answerP
    rw [if_neg (by rw [ho]; decide), hs]
  · obtain ⟨i, hi, rfl⟩ := tells_mem (S := sysP refs C) (V := valuesP (sysP refs C) N W (sysP refs C).refs.length) (L := allP (sysP refs C)) (fun l hl => by
      have := h.v.ok l (mem_all hl).1
      exact ⟨this.1, this.2.1⟩) (st := (List.replicate (sysP refs C).refs.length 0, [])) (fun e he => by cases he) e he
    have hi : i < refs.length := hi
    refine ⟨i, hi, rfl, ?_⟩
    have ev : (valuesP (sysP refs C) N W (sysP refs C).refs.length).getD i zeroV = valueP (sysP refs C) N W i := values_get hi
    simp only
    rw [ev]
    unfold valueP
    by_cases k1 : kindP (sysP refs C) i = 1
    · rw [if_pos k1]
      intro hkk
      have hkk : (τ i).k = 1 := hkk.symm
      have := hl i hi
      unfold intOf at this
      rw [if_pos hkk] at this
      exact ⟨fun _ => this, (fun h => by cases h), fun h => by cases h⟩
    · rw [if_neg k1]
      cases hm : mget W.M (root W.G i : Int) with
      | some v =>
        have := hw i v hi hm
        simp only
        rw [← this]
        exact fun _ => ⟨fun _ => Int.le_refl _, fun _ _ => rfl, fun _ _ => rfl⟩
      | none =>
        exact fun _ => ⟨fun h => absurd h k1, fun _ h => absurd rfl h, fun _ h => by cases h⟩
end
end Go.Hw
