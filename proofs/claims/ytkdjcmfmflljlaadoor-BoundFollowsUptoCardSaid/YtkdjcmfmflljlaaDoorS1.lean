/- Numbers: what settles is so, and each number has what holds it up. Own work of this session. -/
import Derived.Test.YtkdjcmfmflljlaaDoorP5
set_option linter.unusedVariables false
namespace Go.Hw
open Go

/-- What is taken in of a leaf against a constant. -/
def Took (l : Leaf) (N : Nu) : Prop :=
  (l.two = false → (l.o = 6 → l.v.n ≤ lg N l.a ∧ mg N l.a ≤ l.v.n) ∧ (l.o = 8 → mg N l.a ≤ l.v.n - 1) ∧ (l.o = 9 → mg N l.a ≤ l.v.n) ∧ (l.o = 10 → l.v.n + 1 ≤ lg N l.a) ∧ (l.o = 11 → l.v.n ≤ lg N l.a)) ∧
  (l.two = true → ∀ x ∈ aboveP l, x ∈ N.order)
/-- What holds a number up. -/
def Why (E : Leaf → Prop) (N : Nu) (i : Nat) : Prop :=
  lg N i = minI ∨ (∃ l, E l ∧ l.two = false ∧ l.a = i ∧ (((l.o = 6 ∨ l.o = 11) ∧ lg N i = l.v.n) ∨ (l.o = 10 ∧ lg N i = l.v.n + 1))) ∨ ∃ x ∈ N.order, x.hi = i ∧ (x.lo ≠ i ∨ x.more = 1) ∧ lg N i ≤ lg N x.lo + x.more
structure Snd (n : Nat) (D E : Leaf → Prop) (N : Nu) : Prop where
  no : N.none = false
  l : N.least.length = n
  m : N.most.length = n
  r : ∀ i, i < n → minI ≤ lg N i ∧ lg N i ≤ maxI
  c : ∀ l, D l → Took l N
  t : ∀ x ∈ N.order, ∃ l, E l ∧ l.two = true ∧ x ∈ aboveP l
  w : ∀ i, i < n → Why E N i
  ok : AbOk n N.order
section
variable {n : Nat} {D E : Leaf → Prop} {N : Nu}
theorem Took.mono {l : Leaf} {N N' : Nu} (h : Took l N) (h1 : lg N l.a ≤ lg N' l.a) (h2 : mg N' l.a ≤ mg N l.a) (h3 : ∀ x ∈ N.order, x ∈ N'.order) : Took l N' := by
  refine ⟨fun ht => ?_, fun ht x hx => h3 x (h.2 ht x hx)⟩
  obtain ⟨a, b, c, d, e⟩ := h.1 ht
  exact ⟨fun h => by have := a h; omega, fun h => by have := b h; omega, fun h => by have := c h; omega, fun h => by have := d h; omega, fun h => by have := e h; omega⟩
/-- A lower bound raised. -/
theorem Snd.raise (h : Snd n D E N) {i : Nat} {t : Int} (hi : i < n) (ht : minI ≤ t ∧ t ≤ maxI)
    (hw : (∃ l, E l ∧ l.two = false ∧ l.a = i ∧ (((l.o = 6 ∨ l.o = 11) ∧ t = l.v.n) ∨ (l.o = 10 ∧ t = l.v.n + 1))) ∨ ∃ x ∈ N.order, x.hi = i ∧ t = lg N x.lo + x.more) :
    Snd n D E (raiseP N i t).1 ∧ (∀ j, lg N j ≤ lg (raiseP N i t).1 j) ∧ t ≤ lg (raiseP N i t).1 i := by
  obtain ⟨r1, r2, r3, r4⟩ := raise_len N i t
  have hget := raise_get (t := t) (show i < N.least.length by rw [h.l]; exact hi) h.no
  have mono : ∀ j, lg N j ≤ lg (raiseP N i t).1 j := fun j => by
    rw [hget]
    split
    · rename_i g; rw [g.1]; omega
    · exact Int.le_refl _
  have hmg : ∀ j, mg (raiseP N i t).1 j = mg N j := fun j => by unfold mg; rw [r2]
  refine ⟨⟨by rw [r4, h.no], by rw [r1, h.l], by rw [r2, h.m], fun j hj => ?_, fun l hl => (h.c l hl).mono (mono _) (by rw [hmg]; exact Int.le_refl _) fun x hx => by rw [r3]; exact hx, by rw [r3]; exact h.t, fun j hj => ?_, by rw [r3]; exact h.ok⟩, mono, ?_⟩
  · rw [hget]
    split
    · exact ht
    · exact h.r j hj
  · by_cases g : j = i ∧ lg N i < t
    · have ej : lg (raiseP N i t).1 j = t := by rw [hget, if_pos g]
      obtain ⟨g1, g2⟩ := g
      subst g1
      right
      rcases hw with ⟨l, hl, a, b, c⟩ | ⟨x, hx, a, b⟩
      · exact .inl ⟨l, hl, a, b, by rw [ej]; exact c⟩
      · refine .inr ⟨x, by rw [r3]; exact hx, a, ?_, by rw [ej]; have := mono x.lo; omega⟩
        by_cases e : x.lo = j
        · right
          have := (h.ok x hx).2.2
          rw [e] at b
          omega
        · exact .inl e
    · have ej : lg (raiseP N i t).1 j = lg N j := by rw [hget, if_neg g]
      rcases h.w j hj with a | ⟨l, hl, a, b, c⟩ | ⟨x, hx, a, b, c⟩
      · exact .inl (by rw [ej]; exact a)
      · exact .inr (.inl ⟨l, hl, a, b, by rw [ej]; exact c⟩)
      · exact .inr (.inr ⟨x, by rw [r3]; exact hx, a, b, by rw [ej]; have := mono x.lo; omega⟩)
  · rw [hget]
    split
    · exact Int.le_refl _
    · rename_i g
      have : ¬ lg N i < t := fun h => g ⟨rfl, h⟩
      omega
theorem Snd.lower (h : Snd n D E N) {i : Nat} {t : Int} (hi : i < n) : Snd n D E (lowerP N i t) ∧ mg (lowerP N i t) i ≤ t ∧ ∀ j, mg (lowerP N i t) j ≤ mg N j := by
  have hget : ∀ j, mg (lowerP N i t) j = if j = i then (if t < mg N i then t else mg N i) else mg N j := fun j => getD_set (L := N.most) (by rw [h.m]; exact hi)
  have mono : ∀ j, mg (lowerP N i t) j ≤ mg N j := fun j => by
    rw [hget]
    split
    · rename_i e; subst e; split <;> omega
    · exact Int.le_refl _
  refine ⟨⟨h.no, h.l, by show (N.most.set _ _).length = n; rw [List.length_set]; exact h.m, h.r, fun l hl => (h.c l hl).mono (Int.le_refl _) (mono _) fun _ hx => hx, h.t, h.w, h.ok⟩, ?_, mono⟩
  rw [hget, if_pos rfl]
  split <;> omega
theorem above_ok {l : Leaf} (ha : l.a < n) (hb : l.b < n) : AbOk n (aboveP l) := fun x hx => by
  unfold aboveP at hx
  repeat' split at hx
  all_goals simp only [List.mem_cons, List.not_mem_nil, or_false] at hx
  all_goals
    first
      | (subst hx; exact ⟨by assumption, by assumption, by simp⟩)
      | (rcases hx with rfl | rfl <;> exact ⟨by assumption, by assumption, by simp⟩)
theorem fail_no {b : Bool} (h : (failP N b).none = false) : N.none = false ∧ b = false ∧ failP N b = N := by
  unfold failP at h
  simp only at h
  by_cases e : N.none = true
  · rw [if_pos e] at h; cases h
  · rw [if_neg e] at h
    subst h
    have e : N.none = false := by simpa using e
    exact ⟨e, rfl, fail_id e⟩
theorem take_none {l : Leaf} (h : (takeP N l).none = false) : N.none = false := by
  unfold takeP at h
  split at h
  · exact h
  · unfold boundP at h
    repeat' split at h
    · rw [(raise_len _ _ _).2.2.2] at h; exact (fail_no h).1
    · exact (fail_no (N := N) (b := decide (l.v.n = minI)) h).1
    · rw [(raise_len _ _ _).2.2.2] at h; exact h
    · exact h
    · have := (raise_len N l.a l.v.n).2.2.2
      rw [← this]; exact h
    · exact h
theorem Snd.put {l : Leaf} (h : Snd n D E N) (ht : Took l N) : Snd n (fun z => D z ∨ z = l) E N :=
  ⟨h.no, h.l, h.m, h.r, fun z hz => by rcases hz with hz | rfl; exact h.c z hz; exact ht, h.t, h.w, h.ok⟩
theorem Snd.take {l : Leaf} (h : Snd n D E N) (hE : E l) (ha : l.a < n) (hb : l.two = true → l.b < n) (ho : Rop l.o) (hv : l.two = false → minI ≤ l.v.n ∧ l.v.n ≤ maxI) (hn : (takeP N l).none = false) : Snd n (fun z => D z ∨ z = l) E (takeP N l) := by
  by_cases h2 : l.two = true
  · have e : takeP N l = { N with order := N.order ++ aboveP l } := by unfold takeP; rw [if_pos h2]
    rw [e]
    refine ⟨h.no, h.l, h.m, h.r, fun z hz => ?_, fun x hx => ?_, fun i hi => ?_, fun x hx => ?_⟩
    · rcases hz with hz | rfl
      · exact (h.c z hz).mono (Int.le_refl _) (Int.le_refl _) fun x hx => List.mem_append_left _ hx
      · exact ⟨fun g => (by rw [h2] at g; cases g), fun _ x hx => List.mem_append_right _ hx⟩
    · rcases List.mem_append.1 hx with hx | hx
      · exact h.t x hx
      · exact ⟨l, hE, h2, hx⟩
    · rcases h.w i hi with a | a | ⟨x, hx, r⟩
      · exact .inl a
      · exact .inr (.inl a)
      · exact .inr (.inr ⟨x, List.mem_append_left _ hx, r⟩)
    · rcases List.mem_append.1 hx with hx | hx
      · exact h.ok x hx
      · exact above_ok ha (hb h2) x hx
  · have h2 : l.two = false := by simpa using h2
    have e : takeP N l = boundP N l := by unfold takeP; rw [if_neg (by rw [h2]; decide)]
    have hv := hv h2
    have two : ∀ {N'}, l.two = true → ∀ x ∈ aboveP l, x ∈ Nu.order N' := fun g => by rw [h2] at g; cases g
    rw [e] at hn ⊢
    unfold boundP at hn ⊢
    rcases ho with o | o | o | o | o
    · rw [if_neg (by omega), if_neg (by omega), if_neg (by omega), if_neg (by omega), if_pos o]
      obtain ⟨s1, s2, s3⟩ := h.raise (t := l.v.n) ha hv (.inl ⟨l, hE, h2, rfl, .inl ⟨.inl o, rfl⟩⟩)
      obtain ⟨t1, t2, t3⟩ := s1.lower (t := l.v.n) ha
      exact t1.put ⟨fun _ => ⟨fun _ => ⟨s3, t2⟩, fun g => by omega, fun g => by omega, fun g => by omega, fun g => by omega⟩, two⟩
    · rw [if_neg (by omega), if_pos o] at hn ⊢
      obtain ⟨f1, f2, f3⟩ := fail_no (N := N) (b := decide (l.v.n = minI)) hn
      have : l.v.n ≠ minI := of_decide_eq_false f2
      rw [f3]
      simp only [minI, maxI] at this hv
      rw [wr (by omega) (by omega)]
      obtain ⟨t1, t2, t3⟩ := h.lower (t := l.v.n - 1) ha
      exact t1.put ⟨fun _ => ⟨fun g => by omega, fun _ => t2, fun g => by omega, fun g => by omega, fun g => by omega⟩, two⟩
    · rw [if_neg (by omega), if_neg (by omega), if_neg (by omega), if_pos o]
      obtain ⟨t1, t2, t3⟩ := h.lower (t := l.v.n) ha
      exact t1.put ⟨fun _ => ⟨fun g => by omega, fun g => by omega, fun _ => t2, fun g => by omega, fun g => by omega⟩, two⟩
    · rw [if_pos o] at hn ⊢
      rw [(raise_len _ _ _).2.2.2] at hn
      obtain ⟨f1, f2, f3⟩ := fail_no hn
      have : l.v.n ≠ maxI := of_decide_eq_false f2
      rw [f3]
      simp only [minI, maxI] at this hv
      rw [wr (by omega) (by omega)]
      obtain ⟨s1, s2, s3⟩ := h.raise (t := l.v.n + 1) ha (by simp only [minI, maxI]; omega) (.inl ⟨l, hE, h2, rfl, .inr ⟨o, rfl⟩⟩)
      exact s1.put ⟨fun _ => ⟨fun g => by omega, fun g => by omega, fun g => by omega, fun _ => s3, fun g => by omega⟩, two⟩
    · rw [if_neg (by omega), if_neg (by omega), if_pos o]
      obtain ⟨s1, s2, s3⟩ := h.raise (t := l.v.n) ha hv (.inl ⟨l, hE, h2, rfl, .inl ⟨.inr o, rfl⟩⟩)
      exact s1.put ⟨fun _ => ⟨fun g => by omega, fun g => by omega, fun g => by omega, fun g => by omega, fun _ => s3⟩, two⟩
theorem nfold_none {S : Sys} : ∀ {L : List Leaf} {N : Nu}, (L.foldl (nstep S) N).none = false → N.none = false
  | [], _, h => h
  | l :: L, N, h => by
    rw [List.foldl_cons] at h
    have := nfold_none h
    unfold nstep at this
    split at this
    · exact take_none this
    · exact this
theorem Snd.fold {S : Sys} : ∀ {L : List Leaf} {D : Leaf → Prop} {N : Nu}, Snd n D E N → (∀ l ∈ L, kindP S l.a = 1 → E l) → (∀ l ∈ L, l.a < n ∧ (l.two = true → l.b < n)) → (∀ l ∈ L, kindP S l.a = 1 → (l.two = false → minI ≤ l.v.n ∧ l.v.n ≤ maxI) ∧ Rop l.o) → (L.foldl (nstep S) N).none = false → Snd n (fun z => D z ∨ z ∈ L ∧ kindP S z.a = 1) E (L.foldl (nstep S) N)
  | [], D, N, h, _, _, _, _ => ⟨h.no, h.l, h.m, h.r, fun z hz => h.c z (hz.resolve_right fun g => by cases g.1), h.t, h.w, h.ok⟩
  | l :: L, D, N, h, hE, hi, hh, hn => by
    rw [List.foldl_cons] at hn ⊢
    have hn' := nfold_none hn
    obtain ⟨i1, i2⟩ := hi l (List.mem_cons_self ..)
    have rest := fun (D' : Leaf → Prop) (h' : Snd n D' E (nstep S N l)) => Snd.fold h' (fun x hx => hE x (List.mem_cons_of_mem _ hx)) (fun x hx => hi x (List.mem_cons_of_mem _ hx)) (fun x hx => hh x (List.mem_cons_of_mem _ hx)) hn
    by_cases hk : kindP S l.a = 1
    · obtain ⟨g1, g2⟩ := hh l (List.mem_cons_self ..) hk
      have e : nstep S N l = takeP N l := if_pos hk
      rw [e] at hn'
      have r := rest (fun z => D z ∨ z = l) (by rw [e]; exact h.take (hE l (List.mem_cons_self ..) hk) i1 i2 g2 g1 hn')
      refine ⟨r.no, r.l, r.m, r.r, fun z hz => r.c z ?_, r.t, r.w, r.ok⟩
      rcases hz with hz | ⟨hz, hk⟩
      · exact .inl (.inl hz)
      · rcases List.mem_cons.1 hz with rfl | hz
        · exact .inl (.inr rfl)
        · exact .inr ⟨hz, hk⟩
    · have e : nstep S N l = N := if_neg hk
      have r := rest D (by rw [e]; exact h)
      refine ⟨r.no, r.l, r.m, r.r, fun z hz => r.c z ?_, r.t, r.w, r.ok⟩
      rcases hz with hz | ⟨hz, hk'⟩
      · exact .inl hz
      · rcases List.mem_cons.1 hz with rfl | hz
        · exact absurd hk' hk
        · exact .inr ⟨hz, hk'⟩
theorem Snd.start : Snd n (fun _ => False) E (num0 n) := by
  have h1 : ∀ i, i < n → lg (num0 n) i = minI := fun i hi => by
    unfold lg num0; rw [List.getD_eq_getElem?_getD, List.getElem?_replicate, if_pos hi]; rfl
  exact ⟨rfl, List.length_replicate, List.length_replicate, fun i hi => by rw [h1 i hi]; decide, fun _ h => h.elim, (fun x hx => by cases hx), fun i hi => .inl (h1 i hi), fun x hx => by cases hx⟩
/-- One round. -/
theorem round_snd : ∀ {O : List Ab} {N N' : Nu} {ch ch' : Bool}, Snd n D E N → (∀ x ∈ O, x ∈ N.order) → roundP O N ch = some (N', ch') → Snd n D E N' ∧ N'.order = N.order ∧ (ch' = false → ch = false ∧ N' = N ∧ ∀ x ∈ O, lg N x.lo + x.more ≤ lg N x.hi)
  | [], N, N', ch, ch', h, _, e => by
    rw [roundP] at e
    injection e with e
    injection e with e1 e2
    subst e1 e2
    exact ⟨h, rfl, fun g => ⟨g, rfl, fun x hx => by cases hx⟩⟩
  | x :: O, N, N', ch, ch', h, hO, e => by
    have hx := hO x (List.mem_cons_self ..)
    obtain ⟨o1, o2, o3⟩ := h.ok x hx
    have l1 := h.r _ o1
    have l2 := h.r _ o2
    rw [roundP] at e
    split at e
    · cases e
    · rename_i hnb
      simp only [maxI, minI] at l1 l2 hnb
      have hnb : ¬ (0 < x.more ∧ lg N x.lo = 9223372036854775807) := hnb
      have ew : IntKind.i64.wrap (N.least.getD x.lo 0 + x.more) = lg N x.lo + x.more := wr (by unfold lg at l2; omega) (by unfold lg at l2 hnb; omega)
      rw [ew] at e
      obtain ⟨s1, s2, s3⟩ := h.raise (t := lg N x.lo + x.more) o1 (by simp only [minI, maxI]; omega) (.inr ⟨x, hx, rfl, rfl⟩)
      have hr := raise_len N x.hi (lg N x.lo + x.more)
      obtain ⟨t1, t2, t3⟩ := round_snd s1 (fun y hy => by rw [hr.2.2.1]; exact hO y (List.mem_cons_of_mem _ hy)) e
      refine ⟨t1, by rw [t2, hr.2.2.1], fun g => ?_⟩
      obtain ⟨u1, u2, u3⟩ := t3 g
      by_cases hb : (raiseP N x.hi (lg N x.lo + x.more)).2 = true
      · rw [if_pos hb] at u1; cases u1
      · rw [if_neg hb] at u1
        have hnl : ¬ lg N x.hi < lg N x.lo + x.more := fun g => hb ((raise_ch h.no).2 g)
        have eN : (raiseP N x.hi (lg N x.lo + x.more)).1 = N := by
          unfold raiseP
          rw [if_neg (by rw [h.no]; decide), if_pos (by unfold lg at hnl ⊢; omega)]
        rw [eN] at u2 u3
        exact ⟨u1, u2, fun y hy => by
          rcases List.mem_cons.1 hy with rfl | hy
          · omega
          · exact u3 y hy⟩
theorem rise_snd : ∀ {f : Nat} {N N' : Nu}, Snd n D E N → riseP f N = some N' → Snd n D E N' ∧ ∀ x ∈ N'.order, lg N' x.lo + x.more ≤ lg N' x.hi
  | 0, _, _, _, e => by cases e
  | f + 1, N, N', h, e => by
    rw [riseP] at e
    split at e
    · cases e
    · rename_i N1 er
      cases e
      obtain ⟨s1, s2, s3⟩ := round_snd h (fun _ hx => hx) er
      obtain ⟨_, u2, u3⟩ := s3 rfl
      subst u2
      exact ⟨s1, u3⟩
    · rename_i N1 er
      exact rise_snd (round_snd h (fun _ hx => hx) er).1 e
/-- Settled: bounds fit, all relations of numbers hold, each number above the least has what holds it up. -/
theorem settled_snd {N' : Nu} (h : N.none = false → Snd n D E N) (e : settledP N = some N') : N.none = false ∧ Snd n D E N' ∧ (∀ x ∈ N'.order, lg N' x.lo + x.more ≤ lg N' x.hi) ∧ ∀ i, i < n → lg N' i ≤ mg N' i := by
  unfold settledP at e
  split at e
  · cases e
  · rename_i hn
    have hn : N.none = false := by simpa using hn
    split at e
    · cases e
    · rename_i N1 er
      obtain ⟨s1, s2⟩ := rise_snd (h hn) er
      split at e
      · rename_i ho
        cases e
        refine ⟨hn, s1, s2, fun i hi => ?_⟩
        exact okN_iff.1 ho i (by rw [s1.l]; exact hi)
      · cases e
/-- What was taken in holds. -/
theorem Took.holds {l : Leaf} (h : Took l N) (ho : Rop l.o) (ha : l.a < n) (h1 : ∀ x ∈ N.order, lg N x.lo + x.more ≤ lg N x.hi) (h2 : ∀ i, i < n → lg N i ≤ mg N i) : HoldsN (lg N) l := by
  unfold HoldsN relI
  by_cases t : l.two = true
  · rw [if_pos t]
    have hx := fun x hx => h1 x (h.2 t x hx)
    unfold aboveP at hx
    refine ⟨fun o => ?_, fun o => ?_, fun o => ?_, fun o => ?_, fun o => ?_⟩
    · rw [if_neg (by omega), if_neg (by omega), if_neg (by omega), if_neg (by omega), if_pos o] at hx
      have a := hx _ (List.mem_cons_self ..)
      have b := hx _ (List.mem_cons_of_mem _ (List.mem_cons_self ..))
      simp only at a b
      omega
    · rw [if_neg (by omega), if_pos o] at hx
      have a := hx _ (List.mem_cons_self ..)
      simp only at a
      omega
    · rw [if_neg (by omega), if_neg (by omega), if_neg (by omega), if_pos o] at hx
      have a := hx _ (List.mem_cons_self ..)
      simp only at a
      omega
    · rw [if_pos o] at hx
      have a := hx _ (List.mem_cons_self ..)
      simp only at a
      omega
    · rw [if_neg (by omega), if_neg (by omega), if_pos o] at hx
      have a := hx _ (List.mem_cons_self ..)
      simp only at a
      omega
  · rw [if_neg t]
    obtain ⟨a, b, c, d, e⟩ := h.1 (by simpa using t)
    have := h2 _ ha
    exact ⟨fun o => by have := a o; omega, fun o => by have := b o; omega, fun o => by have := c o; omega, fun o => by have := d o; omega, fun o => by have := e o; omega⟩
/-- Where a number were one less, some leaf would not hold. -/
theorem Why.less {i : Nat} (h : Why E N i) (hm : lg N i ≠ minI) (h1 : ∀ x ∈ N.order, lg N x.lo + x.more ≤ lg N x.hi) (ht : ∀ x ∈ N.order, ∃ l, E l ∧ l.two = true ∧ x ∈ aboveP l) :
    ∃ l, E l ∧ (l.a = i ∨ l.two = true ∧ l.b = i) ∧ ¬ HoldsN (fun j => if j = i then lg N i - 1 else lg N j) l := by
  rcases h with h | ⟨l, hE, h2, ha, hh⟩ | ⟨x, hx, hi, hlo, hle⟩
  · exact absurd h hm
  · refine ⟨l, hE, .inl ha, fun g => ?_⟩
    unfold HoldsN relI at g
    rw [if_neg (by rw [h2]; decide)] at g
    simp only [if_pos ha] at g
    omega
  · obtain ⟨l, hE, h2, hx2⟩ := ht x hx
    have hf := h1 x hx
    have hne : x.lo ≠ i := by
      rcases hlo with hlo | hlo
      · exact hlo
      · intro e; rw [e, hi] at hf; omega
    rw [hi] at hf
    have key : ∀ hi' lo' (m : Int), x = ⟨hi', lo', m⟩ → hi' = i ∧ lo' ≠ i ∧ lg N i ≤ lg N lo' + m := fun a b c e => by subst e; exact ⟨hi, hne, hle⟩
    unfold aboveP at hx2
    have fin : (l.a = i ∨ l.b = i) → (∀ (u v : Int), u = (if l.a = i then lg N i - 1 else lg N l.a) → v = (if l.b = i then lg N i - 1 else lg N l.b) → ¬ relI l.o u v) → ∃ l, E l ∧ (l.a = i ∨ l.two = true ∧ l.b = i) ∧ ¬ HoldsN (fun j => if j = i then lg N i - 1 else lg N j) l := fun h1 h3 =>
      ⟨l, hE, h1.imp_right fun g => ⟨h2, g⟩, fun g => h3 _ _ rfl rfl (by unfold HoldsN at g; rw [if_pos h2] at g; exact g)⟩
    unfold relI at fin
    by_cases o1 : l.o = 10
    · rw [if_pos o1, List.mem_singleton] at hx2
      obtain ⟨a, b, c⟩ := key _ _ _ hx2
      refine fin (.inl a) fun u v hu hv g => ?_
      rw [if_pos a] at hu
      rw [if_neg b] at hv
      omega
    · rw [if_neg o1] at hx2
      by_cases o2 : l.o = 8
      · rw [if_pos o2, List.mem_singleton] at hx2
        obtain ⟨a, b, c⟩ := key _ _ _ hx2
        refine fin (.inr a) fun u v hu hv g => ?_
        rw [if_neg b] at hu
        rw [if_pos a] at hv
        omega
      · rw [if_neg o2] at hx2
        by_cases o3 : l.o = 11
        · rw [if_pos o3, List.mem_singleton] at hx2
          obtain ⟨a, b, c⟩ := key _ _ _ hx2
          refine fin (.inl a) fun u v hu hv g => ?_
          rw [if_pos a] at hu
          rw [if_neg b] at hv
          omega
        · rw [if_neg o3] at hx2
          by_cases o4 : l.o = 9
          · rw [if_pos o4, List.mem_singleton] at hx2
            obtain ⟨a, b, c⟩ := key _ _ _ hx2
            refine fin (.inr a) fun u v hu hv g => ?_
            rw [if_neg b] at hu
            rw [if_pos a] at hv
            omega
          · rw [if_neg o4] at hx2
            by_cases o5 : l.o = 6
            · rw [if_pos o5] at hx2
              simp only [List.mem_cons, List.not_mem_nil, or_false] at hx2
              rcases hx2 with hx2 | hx2
              · obtain ⟨a, b, c⟩ := key _ _ _ hx2
                refine fin (.inl a) fun u v hu hv g => ?_
                rw [if_pos a] at hu
                rw [if_neg b] at hv
                omega
              · obtain ⟨a, b, c⟩ := key _ _ _ hx2
                refine fin (.inr a) fun u v hu hv g => ?_
                rw [if_neg b] at hu
                rw [if_pos a] at hv
                omega
            · rw [if_neg o5] at hx2; cases hx2
end
end Go.Hw
