/- Numbers: bounds taken in, lower bounds that rise. Numbers: a leaf taken in; settled. Numbers: settled. Own work of this session. -/
import Derived.Test.YtkdjcmfmflljlaaDoorB11
set_option linter.unusedVariables false
namespace Go.Hw
open Go

structure Ab where
  hi : Nat
  lo : Nat
  more : Int
structure Nu where
  least : List Int
  most : List Int
  order : List Ab
  none : Bool
abbrev maxI : Int := 9223372036854775807
abbrev minI : Int := -9223372036854775808
def raiseP (N : Nu) (i : Nat) (t : Int) : Nu × Bool :=
  if N.none = true then (N, false) else if t ≤ N.least.getD i 0 then (N, false) else ({ N with least := N.least.set i t }, true)
def lowerP (N : Nu) (i : Nat) (t : Int) : Nu := { N with most := N.most.set i (if t < N.most.getD i 0 then t else N.most.getD i 0) }
def failP (N : Nu) (b : Bool) : Nu := { N with none := if N.none = true then true else b }
def boundP (N : Nu) (l : Leaf) : Nu :=
  if l.o = 10 then (raiseP (failP N (decide (l.v.n = maxI))) l.a (IntKind.i64.wrap (l.v.n + 1))).1
  else if l.o = 8 then lowerP (failP N (decide (l.v.n = minI))) l.a (IntKind.i64.wrap (l.v.n - 1))
  else if l.o = 11 then (raiseP N l.a l.v.n).1
  else if l.o = 9 then lowerP N l.a l.v.n
  else if l.o = 6 then lowerP (raiseP N l.a l.v.n).1 l.a l.v.n
  else N
def aboveP (l : Leaf) : List Ab :=
  if l.o = 10 then [⟨l.a, l.b, 1⟩] else if l.o = 8 then [⟨l.b, l.a, 1⟩] else if l.o = 11 then [⟨l.a, l.b, 0⟩] else if l.o = 9 then [⟨l.b, l.a, 0⟩] else if l.o = 6 then [⟨l.a, l.b, 0⟩, ⟨l.b, l.a, 0⟩] else []
def takeP (N : Nu) (l : Leaf) : Nu := if l.two = true then { N with order := N.order ++ aboveP l } else boundP N l
def roundP : List Ab → Nu → Bool → Option (Nu × Bool)
  | [], N, ch => some (N, ch)
  | x :: xs, N, ch =>
    if 0 < x.more ∧ N.least.getD x.lo 0 = maxI then none
    else roundP xs (raiseP N x.hi (IntKind.i64.wrap (N.least.getD x.lo 0 + x.more))).1 (if (raiseP N x.hi (IntKind.i64.wrap (N.least.getD x.lo 0 + x.more))).2 = true then true else ch)
def riseP : Nat → Nu → Option Nu
  | 0, _ => none
  | f + 1, N =>
    match roundP N.order N false with
    | none => none
    | some (N', false) => some N'
    | some (N', true) => riseP f N'
def okN (N : Nu) : Bool := (List.range N.least.length).all fun i => !decide (N.most.getD i 0 < N.least.getD i 0)
def settledP (N : Nu) : Option Nu :=
  if N.none = true then none else
    match riseP (N.least.length + 2) N with
    | none => none
    | some N' => if okN N' = true then some N' else none

def jF : Fmt Int 2 1 := ⟨fun x => [.int .i64 x], fun _ => rfl, by intro x v hv; simp at hv; rcases hv with rfl; rfl, by decide⟩
def abF : Fmt Ab 118 3 := ⟨fun x => [.int .i64 x.hi, .int .i64 x.lo, .int .i64 x.more], fun _ => rfl, by
  intro x v hv
  simp only [List.mem_cons, List.not_mem_nil, or_false] at hv
  rcases hv with rfl | rfl | rfl <;> rfl, by decide⟩
structure NuH (H : Hp) (p : Nat) (ls ms os : Sl) (N : Nu) : Prop where
  row : Row H p 101 [Sl.v ls, Sl.v ms, Sl.v os, .bool N.none]
  l : Lst jF H ls N.least
  m : Lst jF H ms N.most
  o : Lst abF H os N.order
  d : ∀ b, ls.at b → ¬ ms.at b
section
variable {H H0 H' : Hp} {p : Nat} {ls ms os : Sl} {N : Nu}
theorem NuH.kp {S : Nat → Prop} (h : NuH H p ls ms os N) (k : Kp S H H') (h1 : ¬ S p) (h2 : ∀ b, ls.at b → ¬ S b) (h3 : ∀ b, ms.at b → ¬ S b) (h4 : ∀ b, os.at b → ¬ S b) : NuH H' p ls ms os N :=
  ⟨k.row h.row h1, h.l.kp k h2, h.m.kp k h3, h.o.kp k h4, h.d⟩
theorem NuH.no (h : NuH H p ls ms os N) (k : Kp No H H') : NuH H' p ls ms os N := h.kp k id (fun _ _ => id) (fun _ _ => id) fun _ _ => id
theorem NuH.nl (h : NuH H p ls ms os N) : ¬ ls.at p := h.l.ne h.row (by decide)
theorem NuH.nm (h : NuH H p ls ms os N) : ¬ ms.at p := h.m.ne h.row (by decide)
theorem NuH.no' (h : NuH H p ls ms os N) : ¬ os.at p := h.o.ne h.row (by decide)
theorem raise_len (N : Nu) (i : Nat) (t : Int) : (raiseP N i t).1.least.length = N.least.length ∧ (raiseP N i t).1.most = N.most ∧ (raiseP N i t).1.order = N.order ∧ (raiseP N i t).1.none = N.none := by
  unfold raiseP
  split
  · exact ⟨rfl, rfl, rfl, rfl⟩
  · split
    · exact ⟨rfl, rfl, rfl, rfl⟩
    · exact ⟨List.length_set, rfl, rfl, rfl⟩

theorem c59 {i : Nat} {t : Int} {Q : Bool → Hp → Prop} (h : NuH H p ls ms os N) (hi : i < N.least.length)
    (hQ : ∀ H', NuH H' p ls ms os (raiseP N i t).1 → Kp ls.at H H' → Q (raiseP N i t).2 H') : F59 (some ⟨p, 0, none⟩) i t H Q := by
  have gl : N.least[i]? = some (N.least.getD i 0) := by rw [List.getD_eq_getElem?_getD, List.getElem?_eq_getElem hi]; rfl
  obtain ⟨a, ea, han, ca⟩ := h.l.rd.get gl
  have en : ((i : Nat) : Int).toNat = i := by omega
  unfold raiseP at hQ
  refine ⟨_, rfl, _, rowc (i := 3) h.row rfl, fun hn => ?_, fun hn => ⟨_, rfl, ls, h.row.cell_of (i := 0) rfl, a, ea, by omega, by omega, _, by rw [en]; exact ca.1, ?_⟩⟩
  · rw [if_pos hn] at hQ
    exact ⟨fun _ => hQ H h (Kp.refl _ _), fun h => (by cases h)⟩
  · rw [if_neg (by rw [hn]; decide)] at hQ
    by_cases ht : t ≤ N.least.getD i 0
    · rw [if_pos ht] at hQ
      rw [decide_eq_true ht]
      exact ⟨fun _ => hQ H h (Kp.refl _ _), fun h => (by cases h)⟩
    · rw [if_neg ht] at hQ
      rw [decide_eq_false ht]
      obtain ⟨a', ea', ab, han', hm, hw⟩ := h.l.set hi t
      refine ⟨fun h => (by cases h), fun _ => ⟨_, rfl, ls, h.row.cell_of (i := 0) rfl, a', ea', by omega, by omega, by rw [en]; exact hm.1.1, by rw [en]; exact hm.1.2, fun H30 e30 => ?_⟩⟩
      rw [en] at e30
      obtain ⟨l', k'⟩ := hw H30 e30
      exact hQ H30 ⟨k'.row h.row h.nl, l', h.m.kp k' fun b hb hh => h.d b hh hb, h.o.kp k' (h.o.apart h.l (by decide)), h.d⟩ k'
/-- An upper bound sinks. -/
theorem lowH {i : Nat} {t : Int} {Q : Hp → Prop} (h : NuH H p ls ms os N) (hi : i < N.most.length)
    (hQ : ∀ H', NuH H' p ls ms os (lowerP N i t) → Kp ms.at H H' → Q H') :
    ∃ a, ms.b = some a ∧ i < ms.n ∧ cell H (Addr.add a (i * 1)) = some (.int .i64 (N.most.getD i 0)) ∧ (cell H (Addr.add a (i * 1))).isSome = true ∧ frz H (Addr.add a (i * 1)) = false ∧
      ∀ H', H' = setc H (Addr.add a (i * 1)) (.int .i64 (if t < N.most.getD i 0 then t else N.most.getD i 0)) → Q H' := by
  have gl : N.most[i]? = some (N.most.getD i 0) := by rw [List.getD_eq_getElem?_getD, List.getElem?_eq_getElem hi]; rfl
  obtain ⟨a, ea, han, ca⟩ := h.m.rd.get gl
  obtain ⟨a', ea', ab, han', hm, hw⟩ := h.m.set hi (if t < N.most.getD i 0 then t else N.most.getD i 0)
  rw [ea] at ea'; cases ea'
  refine ⟨a, ea, han, ca.1, hm.1.1, hm.1.2, fun H' e' => ?_⟩
  obtain ⟨l', k'⟩ := hw H' e'
  exact hQ H' ⟨k'.row h.row h.nm, h.l.kp k' h.d, l', h.o.kp k' (h.o.apart h.m (by decide)), h.d⟩ k'
/-- The mark is set. -/
theorem failH {b : Bool} (h : NuH H p ls ms os N) (e : H' = setc H (Addr.add ⟨p, 0, none⟩ 3) (.bool b)) : NuH H' p ls ms os { N with none := b } ∧ Kp (fun x => x = p) H H' := by
  rw [add_mk] at e
  have k : Kp (fun x => x = p) H H' := (Kp.refl _ _).set' e (.inl rfl)
  exact ⟨⟨h.row.set' e, h.l.kp k fun b hb e => by subst e; exact h.nl hb, h.m.kp k fun b hb e => by subst e; exact h.nm hb, h.o.kp k fun b hb e => by subst e; exact h.no' hb, h.d⟩, k⟩
abbrev NuS (p : Nat) (ls ms : Sl) : Nat → Prop := fun x => x = p ∨ ls.at x ∨ ms.at x
theorem c58 {l : Leaf} {Q : Hp → Prop} (h : NuH H p ls ms os N) (hi : l.a < N.least.length) (hm : N.most.length = N.least.length)
    (hQ : ∀ H', NuH H' p ls ms os (boundP N l) → Kp (NuS p ls ms) H H' → Q H') : F58 (some ⟨p, 0, none⟩) l.o l.a l.b l.two l.v.k l.v.n l.v.s l.v.b H Q := by
  intro H1 e1
  have k1 : Kp (NuS p ls ms) H H1 := (Kp.refl _ _).push' e1
  have x1 : Row H1 H.size 80 (leafF.f l) := Row.new' e1
  have h1 := h.no ((Kp.refl No H).push' e1)
  have en : ((l.a : Nat) : Int).toNat = l.a := by omega
  have e5 : Addr.add (Addr.add ⟨H.size, 0, none⟩ 4) 1 = ⟨H.size, 5, none⟩ := by rw [add_mk, add_mk]
  have xp : ¬ H.size = p := by have := h.row.lt; omega
  have xl : ¬ ls.at H.size := fun hb => by have := h.l.lt hb; omega
  have xm : ¬ ms.at H.size := fun hb => by have := h.m.lt hb; omega
  unfold boundP at hQ
  refine ⟨l.v.n, by rw [e5]; exact x1.cell_of (i := 5) rfl, _, x1.cell_of (i := 0) rfl, fun g => ?_, fun g => ⟨fun g2 => ?_, fun g2 => ⟨fun g3 => ?_, fun g3 => ⟨fun g4 => ?_, fun g4 => ⟨fun g5 => ?_, fun g5 => ?_⟩⟩⟩⟩⟩
  · rw [if_pos (of_decide_eq_true g)] at hQ
    have step : ∀ (b : Bool) H2, (failP N (decide (l.v.n = maxI))).none = b → H2 = setc H1 (Addr.add ⟨p, 0, none⟩ 3) (.bool b) → F58_1 Q (some ⟨p, 0, none⟩) ⟨H.size, 0, none⟩ l.v.n H2 := fun b H2 eb e2 => by
      obtain ⟨h2, k2⟩ := failH h1 e2
      have x2 := k2.row x1 xp
      have ef : { N with none := b } = failP N (decide (l.v.n = maxI)) := by rw [← eb]; rfl
      rw [ef] at h2
      exact ⟨_, rowc (i := 1) x2 rfl, c59 h2 hi fun H' h' k' => hQ H' h' ((k1.trans k2 fun b hb => .inl (.inl hb)).trans k' fun b hb => .inl (.inr (.inl hb)))⟩
    refine ⟨_, rfl, _, rowc (i := 3) h1.row rfl, fun hn => ⟨_, rfl, by rw [add_mk]; exact h1.row.some (by simp), by rw [add_mk]; exact h1.row.frz _, fun H2 e2 => step true H2 (by rw [failP, if_pos hn]) e2⟩, fun hn => ⟨_, rfl, by rw [add_mk]; exact h1.row.some (by simp), by rw [add_mk]; exact h1.row.frz _, fun H2 e2 => step _ H2 (by rw [failP, if_neg (by rw [hn]; decide)]) e2⟩⟩
  · rw [if_neg (of_decide_eq_false g), if_pos (of_decide_eq_true g2)] at hQ
    have step : ∀ (b : Bool) H2, (failP N (decide (l.v.n = minI))).none = b → H2 = setc H1 (Addr.add ⟨p, 0, none⟩ 3) (.bool b) → F58_2 Q (some ⟨p, 0, none⟩) ⟨H.size, 0, none⟩ l.v.n H2 := fun b H2 eb e2 => by
      obtain ⟨h2, k2⟩ := failH h1 e2
      have x2 := k2.row x1 xp
      have ef : { N with none := b } = failP N (decide (l.v.n = minI)) := by rw [← eb]; rfl
      rw [ef] at h2
      obtain ⟨a, ea, han, ca, c1, c2, hw⟩ := lowH (t := IntKind.i64.wrap (l.v.n - 1)) (Q := Q) h2 (by show l.a < N.most.length; omega) fun H' h' k' => hQ H' h' ((k1.trans k2 fun b hb => .inl (.inl hb)).trans k' fun b hb => .inl (.inr (.inr hb)))
      exact ⟨_, rfl, ms, rowc (i := 1) h2.row rfl, _, rowc (i := 1) x2 rfl, _, rfl, ms, rowc (i := 1) h2.row rfl, _, rowc (i := 1) x2 rfl, a, ea, by omega, by omega, _, by rw [en]; exact ca, a, ea, by omega, by omega, by rw [en]; exact c1, by rw [en]; exact c2, by rw [en]; exact hw⟩
    refine ⟨_, rfl, _, rowc (i := 3) h1.row rfl, fun hn => ⟨_, rfl, by rw [add_mk]; exact h1.row.some (by simp), by rw [add_mk]; exact h1.row.frz _, fun H2 e2 => step true H2 (by rw [failP, if_pos hn]) e2⟩, fun hn => ⟨_, rfl, by rw [add_mk]; exact h1.row.some (by simp), by rw [add_mk]; exact h1.row.frz _, fun H2 e2 => step _ H2 (by rw [failP, if_neg (by rw [hn]; decide)]) e2⟩⟩
  · rw [if_neg (of_decide_eq_false g), if_neg (of_decide_eq_false g2), if_pos (of_decide_eq_true g3)] at hQ
    exact ⟨_, rowc (i := 1) x1 rfl, c59 h1 hi fun H' h' k' => hQ H' h' (k1.trans k' fun b hb => .inl (.inr (.inl hb)))⟩
  · rw [if_neg (of_decide_eq_false g), if_neg (of_decide_eq_false g2), if_neg (of_decide_eq_false g3), if_pos (of_decide_eq_true g4)] at hQ
    obtain ⟨a, ea, han, ca, c1, c2, hw⟩ := lowH (t := l.v.n) (Q := Q) h1 (show l.a < N.most.length by omega) fun H' h' k' => hQ H' h' (k1.trans k' fun b hb => .inl (.inr (.inr hb)))
    exact ⟨_, rfl, ms, rowc (i := 1) h1.row rfl, _, rowc (i := 1) x1 rfl, _, rfl, ms, rowc (i := 1) h1.row rfl, _, rowc (i := 1) x1 rfl, a, ea, by omega, by omega, _, by rw [en]; exact ca, a, ea, by omega, by omega, by rw [en]; exact c1, by rw [en]; exact c2, by rw [en]; exact hw⟩
  · rw [if_neg (of_decide_eq_false g), if_neg (of_decide_eq_false g2), if_neg (of_decide_eq_false g3), if_neg (of_decide_eq_false g4), if_pos (of_decide_eq_true g5)] at hQ
    refine ⟨_, rowc (i := 1) x1 rfl, c59 h1 hi fun H2 h2 k2 => ?_⟩
    have x2 := k2.row x1 xl
    have hr := raise_len N l.a l.v.n
    obtain ⟨a, ea, han, ca, c1, c2, hw⟩ := lowH (t := l.v.n) (Q := Q) h2 (show l.a < (raiseP N l.a l.v.n).1.most.length by rw [hr.2.1]; omega) fun H' h' k' => hQ H' h' ((k1.trans k2 fun b hb => .inl (.inr (.inl hb))).trans k' fun b hb => .inl (.inr (.inr hb)))
    exact ⟨_, rfl, ms, rowc (i := 1) h2.row rfl, _, rowc (i := 1) x2 rfl, _, rfl, ms, rowc (i := 1) h2.row rfl, _, rowc (i := 1) x2 rfl, a, ea, by omega, by omega, _, by rw [en]; exact ca, a, ea, by omega, by omega, by rw [en]; exact c1, by rw [en]; exact c2, by rw [en]; exact hw⟩
  · rw [if_neg (of_decide_eq_false g), if_neg (of_decide_eq_false g2), if_neg (of_decide_eq_false g3), if_neg (of_decide_eq_false g4), if_neg (of_decide_eq_false g5)] at hQ
    exact hQ H1 h1 k1
end

theorem take_len (N : Nu) (l : Leaf) : (takeP N l).least.length = N.least.length ∧ (takeP N l).most.length = N.most.length ∧ (takeP N l).order.length ≤ N.order.length + 2 := by
  unfold takeP
  split
  · refine ⟨rfl, rfl, ?_⟩
    simp only [List.length_append]
    unfold aboveP
    repeat' split
    all_goals simp
  · unfold boundP
    repeat' split
    · have := raise_len (failP N (decide (l.v.n = maxI))) l.a (IntKind.i64.wrap (l.v.n + 1))
      exact ⟨this.1, by rw [this.2.1]; rfl, by rw [this.2.2.1]; exact Nat.le_add_right _ _⟩
    · exact ⟨rfl, List.length_set, Nat.le_add_right _ _⟩
    · have := raise_len N l.a l.v.n
      exact ⟨this.1, by rw [this.2.1], by rw [this.2.2.1]; exact Nat.le_add_right _ _⟩
    · exact ⟨rfl, List.length_set, Nat.le_add_right _ _⟩
    · have := raise_len N l.a l.v.n
      exact ⟨this.1, by simp only [lowerP, List.length_set]; rw [this.2.1], by simp only [lowerP]; rw [this.2.2.1]; exact Nat.le_add_right _ _⟩
    · exact ⟨rfl, rfl, Nat.le_add_right _ _⟩
theorem AppendF.mono {H : Hp} {e k b : Nat} {z : Array Value} {s : Sl} {xb : Option Addr} {xn : Nat} {K K' : Sl → Hp → Prop} (h : AppendF H e k b z s xb xn K) (hK : ∀ r H', K r H' → K' r H') : AppendF H e k b z s xb xn K' := by
  obtain ⟨o, n, h1, h2, h3, h4, h5, h6, h7, h8, h9⟩ := h
  exact ⟨o, n, h1, h2, h3, h4, h5, h6, h7, fun g => ⟨(h8 g).1, hK _ _ (h8 g).2⟩, fun g cap g1 g2 => hK _ _ (h9 g cap g1 g2)⟩
section
variable {H H0 H' : Hp} {p : Nat} {ls ms os : Sl} {N : Nu}
abbrev NuO (p : Nat) (ls ms os : Sl) : Nat → Prop := fun x => NuS p ls ms x ∨ os.at x
theorem c45 {l : Leaf} {Q : Hp → Prop} (h : NuH H p ls ms os N) (hi : l.a < N.least.length) (hm : N.most.length = N.least.length) (ho : N.order.length ≤ 1000000)
    (hQ : ∀ H' os', NuH H' p ls ms os' (takeP N l) → Kp (NuO p ls ms os) H H' → (∀ b, os'.at b → os.at b ∨ H.size ≤ b) → Q H') : F45 (some ⟨p, 0, none⟩) l.o l.a l.b l.two l.v.k l.v.n l.v.s l.v.b H Q := by
  intro H1 e1
  have k1 : Kp (NuO p ls ms os) H H1 := (Kp.refl _ _).push' e1
  have x1 : Row H1 H.size 80 (leafF.f l) := Row.new' e1
  have h1 := h.no ((Kp.refl No H).push' e1)
  have s1 := size_push' e1
  have no1 : ∀ {b : Nat}, os.at b → b < H.size := fun hb => h.o.lt hb
  -- a row of pairs is put behind
  have app : ∀ (M : List Ab) (H2 : Hp) (xs : Sl), l.two = true → aboveP l = M → M.length ≤ 2 → Kp No H1 H2 → H2.size = H1.size + 1 → RdL abF H2 xs M → AppendF H2 118 3 24 #[.int .i64 0, .int .i64 0, .int .i64 0] os xs.b xs.n (fun r H' => Row H' H.size 80 (leafF.f l) ∧ Row H' p 101 [Sl.v ls, Sl.v ms, Sl.v os, .bool N.none] ∧
      ∀ H'', H'' = setc H' (Addr.add ⟨p, 0, none⟩ 2) (Sl.v r) → Q H'') := fun M H2 xs ht hM hl k2 s2 hx => by
    have h2 := h1.no k2
    refine h2.o.append hx rfl (by omega) (by omega) fun r H3 l3 k3 b3 => ?_
    have x3 := k3.row (k2.row x1 id) fun hb => by have := no1 hb; omega
    have r3 := k3.row h2.row h2.no'
    refine ⟨x3, r3, fun H4 e4 => ?_⟩
    rw [add_mk] at e4
    have k4 : Kp (fun x => x = p) H3 H4 := (Kp.refl _ _).set' e4 (.inl rfl)
    have hb : ∀ b, r.at b → os.at b ∨ H.size ≤ b := fun b hb => (b3 b hb).imp_right fun h => by omega
    refine hQ H4 r ⟨?_, ?_, ?_, ?_, h.d⟩ (((k1.trans (k2.mono fun _ _ h => h.elim) fun b hb => .inl hb).trans k3 fun b hb => .inl (.inr hb)).trans k4 fun b hb => .inl (.inl (.inl hb))) hb
    · have := r3.set' e4
      rw [takeP, if_pos ht]; exact this
    · rw [takeP, if_pos ht]
      exact (h2.l.kp k3 (h2.l.apart h2.o (by decide))).kp k4 fun b hb e => by subst e; exact h.nl hb
    · rw [takeP, if_pos ht]
      exact (h2.m.kp k3 (h2.m.apart h2.o (by decide))).kp k4 fun b hb e => by subst e; exact h.nm hb
    · rw [takeP, if_pos ht, hM]
      exact l3.kp k4 fun b hb e => by subst e; exact l3.ne r3 (by decide) hb
  have one : ∀ (x y : Nat) (m : Int) (cx cy : Nat), l.two = true → aboveP l = [⟨x, y, m⟩] → (leafF.f l)[cx]? = some (.int .i64 x) → (leafF.f l)[cy]? = some (.int .i64 y) →
      ∃ a20 : Addr, (some (⟨p, 0, none⟩ : Addr)) = some a20 ∧ (∃ x23 : Sl, cell H1 (Addr.add a20 2) = some (Sl.v x23) ∧ (∃ x25 : Int, cell H1 (Addr.add ⟨H.size, 0, none⟩ cx) = some (.int .i64 x25) ∧ (∃ x27 : Int, cell H1 (Addr.add ⟨H.size, 0, none⟩ cy) = some (.int .i64 x27) ∧ (
        ∀ H28 : Hp, H28 = Array.push H1 (.cells #[.int .i64 x25, .int .i64 x27, .int .i64 m] 118) → (cell H28 (Addr.add ⟨H.size, 0, none⟩ cy) = some (.int .i64 x27) ∧ cell H28 (Addr.add ⟨H.size, 0, none⟩ cx) = some (.int .i64 x25) ∧ cell H28 (Addr.add a20 2) = some (Sl.v x23) ∧ (
          AppendF H28 118 3 24 #[.int .i64 0, .int .i64 0, .int .i64 0] x23 ((Sl.mk (some ⟨H1.size, 0, none⟩) 1 1)).b ((Sl.mk (some ⟨H1.size, 0, none⟩) 1 1)).n (fun (r35 : Sl) (H33 : Hp) =>
            cell H33 (Addr.add ⟨H.size, 0, none⟩ cy) = some (.int .i64 x27) ∧ cell H33 (Addr.add ⟨H.size, 0, none⟩ cx) = some (.int .i64 x25) ∧ (∃ a38 : Addr, (some (⟨p, 0, none⟩ : Addr)) = some a38 ∧ ((cell H33 (Addr.add a38 2)).isSome = true ∧ frz H33 (Addr.add a38 2) = false ∧ ∀ H40 : Hp, H40 = setc H33 (Addr.add a38 2) (Sl.v r35) → Q H40))))))))) := fun x y m cx cy ht hM hcx hcy => by
    refine ⟨_, rfl, os, rowc (i := 2) h1.row rfl, _, rowc (i := cx) x1 hcx, _, rowc (i := cy) x1 hcy, fun H28 e28 => ?_⟩
    have k28 : Kp No H1 H28 := (Kp.refl _ _).push' e28
    have b28 : Row H28 H1.size 118 (abF.f ⟨x, y, m⟩) := Row.new' e28
    have x28 := k28.row x1 id
    refine ⟨rowc (i := cy) x28 hcy, rowc (i := cx) x28 hcx, rowc (i := 2) (h1.no k28).row rfl, ?_⟩
    refine AppendF.mono (app [⟨x, y, m⟩] H28 _ ht hM (by simp) k28 (size_push' e28) (Row.rdl1 b28)) fun r H' ⟨g1, g2, g3⟩ => ?_
    exact ⟨rowc (i := cy) g1 hcy, rowc (i := cx) g1 hcx, _, rfl, by rw [add_mk]; exact g2.some (by simp), by rw [add_mk]; exact g2.frz _, g3⟩
  refine ⟨_, rowc (i := 3) x1 rfl, fun ht => ?_, fun ht => ?_⟩
  · have ht : l.two = false := by simpa using ht
    refine ⟨_, _, _, _, _, _, _, _, x1.all, c58 h1 hi hm fun H' h' k' => hQ H' os ?_ (k1.trans k' fun b hb => .inl (.inl hb)) fun b hb => .inl hb⟩
    rw [takeP, if_neg (by rw [ht]; decide)]; exact h'
  · have ht : l.two = true := by simpa using ht
    refine ⟨_, x1.cell_of (i := 0) rfl, fun g => ?_, fun g => ⟨fun g2 => ?_, fun g2 => ⟨fun g3 => ?_, fun g3 => ⟨fun g4 => ?_, fun g4 => ⟨fun g5 => ?_, fun g5 => ?_⟩⟩⟩⟩⟩
    · exact one l.a l.b 1 1 2 ht (by rw [aboveP, if_pos (of_decide_eq_true g)]) rfl rfl
    · exact one l.b l.a 1 2 1 ht (by rw [aboveP, if_neg (of_decide_eq_false g), if_pos (of_decide_eq_true g2)]) rfl rfl
    · exact one l.a l.b 0 1 2 ht (by rw [aboveP, if_neg (of_decide_eq_false g), if_neg (of_decide_eq_false g2), if_pos (of_decide_eq_true g3)]) rfl rfl
    · exact one l.b l.a 0 2 1 ht (by rw [aboveP, if_neg (of_decide_eq_false g), if_neg (of_decide_eq_false g2), if_neg (of_decide_eq_false g3), if_pos (of_decide_eq_true g4)]) rfl rfl
    · have hM : aboveP l = [⟨l.a, l.b, 0⟩, ⟨l.b, l.a, 0⟩] := by rw [aboveP, if_neg (of_decide_eq_false g), if_neg (of_decide_eq_false g2), if_neg (of_decide_eq_false g3), if_neg (of_decide_eq_false g4), if_pos (of_decide_eq_true g5)]
      refine ⟨_, rfl, os, rowc (i := 2) h1.row rfl, _, rowc (i := 1) x1 rfl, _, rowc (i := 2) x1 rfl, _, rowc (i := 2) x1 rfl, _, rowc (i := 1) x1 rfl, fun H28 e28 => ?_⟩
      have k28 : Kp No H1 H28 := (Kp.refl _ _).push' e28
      have b28 : Row H28 H1.size 118 ([(⟨l.a, l.b, 0⟩ : Ab), ⟨l.b, l.a, 0⟩].flatMap abF.f) := Row.new' e28
      have x28 := k28.row x1 id
      refine ⟨rowc (i := 1) x28 rfl, rowc (i := 2) x28 rfl, rowc (i := 2) x28 rfl, rowc (i := 1) x28 rfl, rowc (i := 2) (h1.no k28).row rfl, ?_⟩
      refine AppendF.mono (app _ H28 (Sl.mk (some ⟨H1.size, 0, none⟩) 2 2) ht hM (by simp) k28 (size_push' e28) (b28.rdl rfl 2)) fun r H' ⟨g1, g2, g3⟩ => ?_
      exact ⟨rowc (i := 1) g1 rfl, rowc (i := 2) g1 rfl, rowc (i := 2) g1 rfl, rowc (i := 1) g1 rfl, _, rfl, by rw [add_mk]; exact g2.some (by simp), by rw [add_mk]; exact g2.frz _, g3⟩
    · have hM : aboveP l = [] := by rw [aboveP, if_neg (of_decide_eq_false g), if_neg (of_decide_eq_false g2), if_neg (of_decide_eq_false g3), if_neg (of_decide_eq_false g4), if_neg (of_decide_eq_false g5)]
      refine hQ H1 os ?_ k1 fun b hb => .inl hb
      rw [takeP, if_pos ht, hM, List.append_nil]; exact h1
end

def AbOk (n : Nat) (O : List Ab) : Prop := ∀ x ∈ O, x.hi < n ∧ x.lo < n ∧ (x.more = 0 ∨ x.more = 1)
theorem okN_iff {N : Nu} : okN N = true ↔ ∀ i, i < N.least.length → N.least.getD i 0 ≤ N.most.getD i 0 := by
  unfold okN
  rw [List.all_eq_true]
  constructor
  · intro h i hi
    have := h i (List.mem_range.2 hi)
    rw [Bool.not_eq_true', decide_eq_false_iff_not] at this
    omega
  · intro h i hi
    have := h i (List.mem_range.1 hi)
    rw [Bool.not_eq_true', decide_eq_false_iff_not]
    omega
section
variable {H H0 H' : Hp} {p : Nat} {ls ms os : Sl} {N : Nu} {Q : Bool → Hp → Prop}
theorem c47_1 (h : NuH H p ls ms os N) (hm : N.most.length = N.least.length) (hn : N.least.length ≤ 100000) (hQ : Q (okN N) H) : F47_1 Q (some ⟨p, 0, none⟩) H := by
  refine ⟨_, rfl, ls, h.row.cell_of (i := 0) rfl, ?_⟩
  have hl := h.l.n
  have hml := h.m.n
  intro X hX
  suffices ∀ d i, i + d = N.least.length → (∀ j, j < i → N.least.getD j 0 ≤ N.most.getD j 0) → X i H from this _ 0 (Nat.zero_add _) (fun j hj => by omega)
  intro d
  induction d with
  | zero =>
    intro i hi hb
    refine hX _ _ ⟨fun hh => absurd (of_decide_eq_true hh) (by omega), fun _ => ?_⟩
    rw [okN_iff.2 (fun j hj => hb j (by omega))] at hQ
    exact hQ
  | succ d ih =>
    intro i hi hb
    have gl : N.least[i]? = some (N.least.getD i 0) := by rw [List.getD_eq_getElem?_getD, List.getElem?_eq_getElem (by omega)]; rfl
    have gm : N.most[i]? = some (N.most.getD i 0) := by rw [List.getD_eq_getElem?_getD, List.getElem?_eq_getElem (by omega)]; rfl
    obtain ⟨a, ea, han, ca⟩ := h.l.rd.get gl
    obtain ⟨a', ea', han', ca'⟩ := h.m.rd.get gm
    have en : ((i : Nat) : Int).toNat = i := by omega
    refine hX _ _ ⟨fun _ => ⟨a, ea, by omega, by omega, _, by rw [en]; exact ca.1, _, rfl, ms, rowc (i := 1) h.row rfl, a', ea', by omega, by omega, _, by rw [en]; exact ca'.1, fun hc => ?_, fun hc => ?_⟩, fun hh => absurd (of_decide_eq_false hh) (by omega)⟩
    · have : okN N = false := by
        rw [Bool.eq_false_iff]
        intro hk
        have := okN_iff.1 hk i (by omega)
        have := of_decide_eq_true hc
        omega
      rw [this] at hQ; exact hQ
    · rw [wr (by omega) (by omega), show ((i : Int) + 1) = ((i + 1 : Nat) : Int) by omega]
      refine ih (i + 1) (by omega) fun j hj => ?_
      by_cases hji : j = i
      · subst hji; have := of_decide_eq_false hc; omega
      · exact hb j (by omega)
theorem c47_L4 {X2 : Int → Hp → Prop} {O : List Ab} {r : Int} (h : NuH H p ls ms os N) (ho : N.order = O) (hO : AbOk N.least.length O) (hn : O.length ≤ 1000000)
    (hF : roundP O N false = none → ∀ H', Kp ls.at H H' → Q false H') (hQ : ∀ N' ch H', roundP O N false = some (N', ch) → NuH H' p ls ms os N' → N'.order = O → N'.least.length = N.least.length → N'.most = N.most → Kp ls.at H H' → F47_3 Q X2 (some ⟨p, 0, none⟩) r ch H') :
    F47_L4 Q X2 (some ⟨p, 0, none⟩) r os (os.n : Int) false 0 H := by
  have hon := h.o.n
  rw [ho] at hon
  intro X hX
  suffices ∀ d i Ni ch H', i + d = O.length → NuH H' p ls ms os Ni → Ni.order = O → Ni.least.length = N.least.length → Ni.most = N.most → roundP (O.drop i) Ni ch = roundP O N false → Kp ls.at H H' → X ch i H' from this _ 0 N false H (Nat.zero_add _) h ho rfl rfl rfl (Kp.refl _ _)
  intro d
  induction d with
  | zero =>
    intro i Ni ch H' hi hh h1 h2 h3 h4 k
    refine hX _ _ _ ⟨fun hh => absurd (of_decide_eq_true hh) (by omega), fun _ => ?_⟩
    rw [List.drop_of_length_le (by omega)] at h4
    exact hQ Ni ch H' h4.symm hh h1 h2 h3 k
  | succ d ih =>
    intro i Ni ch H' hi hh h1 h2 h3 h4 k
    obtain ⟨x, gx⟩ : ∃ x, O[i]? = some x := ⟨_, List.getElem?_eq_getElem (by omega)⟩
    have hm := List.mem_of_getElem? gx
    have hdr : O.drop i = x :: O.drop (i + 1) := by
      obtain ⟨hlt, e⟩ := List.getElem?_eq_some_iff.1 gx
      rw [List.drop_eq_getElem_cons hlt, e]
    obtain ⟨o1, o2, o3⟩ := hO x hm
    obtain ⟨a, ea, han, ca⟩ := hh.o.rd.get (show Ni.order[i]? = some x by rw [h1]; exact gx)
    have en : ((i : Nat) : Int).toNat = i := by omega
    refine hX _ _ _ ⟨fun _ => ⟨a, ea, by omega, by omega, _, _, _, by rw [en]; exact ca, fun H35 e35 => ?_⟩, fun hh => absurd (of_decide_eq_false hh) (by omega)⟩
    have k35 : Kp No H' H35 := (Kp.refl _ _).push' e35
    have b35 : Row H35 H'.size 118 (abF.f ⟨0, 0, 0⟩) := Row.new' e35
    refine ⟨b35.mayw (by simp [abF]), fun H37 e37 => ?_⟩
    have b37 : Row H37 H'.size 118 (abF.f x) := b35.fill' e37 rfl
    have k37 : Kp No H' H37 := k35.box ((Kp.refl _ _).sets' e37 (.inl rfl)) (Nat.le_refl _)
    have hh := hh.no k37
    have kk : Kp ls.at H H37 := k.trans k37 fun b hb => hb.elim
    have gl : Ni.least[x.lo]? = some (Ni.least.getD x.lo 0) := by rw [List.getD_eq_getElem?_getD, List.getElem?_eq_getElem (by omega)]; rfl
    obtain ⟨a', ea', han', ca'⟩ := hh.l.rd.get gl
    have en' : ((x.lo : Nat) : Int).toNat = x.lo := by omega
    rw [hdr] at h4
    have go : ∀ bad, (0 < x.more ∧ Ni.least.getD x.lo 0 = maxI ↔ bad = true) → F47_6 Q X2 X (some ⟨p, 0, none⟩) r ch ⟨H'.size, 0, none⟩ (Ni.least.getD x.lo 0) os (os.n : Int) i bad H37 := fun bad hbad => by
      refine ⟨fun hb => ?_, fun hb => ⟨_, b37.cell_of (i := 0) rfl, _, rowc (i := 2) b37 rfl, c59 hh (by omega) fun H70 h70 k70 => ?_⟩⟩
      · rw [roundP, if_pos (hbad.2 hb)] at h4
        exact hF h4.symm H37 kk
      · rw [roundP, if_neg (fun h => by rw [hbad.1 h] at hb; cases hb)] at h4
        have hr := raise_len Ni x.hi (IntKind.i64.wrap (Ni.least.getD x.lo 0 + x.more))
        have next : ∀ c, c = (if (raiseP Ni x.hi (IntKind.i64.wrap (Ni.least.getD x.lo 0 + x.more))).2 = true then true else ch) → F47_5 Q X2 X (some ⟨p, 0, none⟩) r os (os.n : Int) i c H70 := fun c ec => by
          unfold F47_5
          rw [wr (by omega) (by omega), show ((i : Int) + 1) = ((i + 1 : Nat) : Int) by omega]
          rw [← ec] at h4
          exact ih (i + 1) _ c H70 (by omega) h70 (by rw [hr.2.2.1, h1]) (by rw [hr.1, h2]) (by rw [hr.2.1, h3]) h4 (kk.trans k70 fun b hb => .inl hb)
        exact ⟨fun hc => next true (by rw [if_pos hc]), fun hc => next ch (by rw [if_neg (by rw [hc]; decide)])⟩
    refine ⟨_, rfl, ls, hh.row.cell_of (i := 0) rfl, _, rowc (i := 1) b37 rfl, a', ea', by omega, by omega, _, by rw [en']; exact ca'.1, _, rowc (i := 2) b37 rfl, fun hc => go _ ?_, fun hc => go _ ?_⟩
    · have := of_decide_eq_true hc
      exact ⟨fun h => decide_eq_true h.2, fun h => ⟨this, of_decide_eq_true h⟩⟩
    · have := of_decide_eq_false hc
      exact ⟨fun h => absurd h.1 this, fun h => by cases h⟩
theorem c47 (h : NuH H p ls ms os N) (hm : N.most.length = N.least.length) (hO : AbOk N.least.length N.order) (hn : N.least.length ≤ 100000) (hn2 : N.order.length ≤ 1000000)
    (hF : settledP N = none → ∀ H', Kp ls.at H H' → Q false H') (hQ : ∀ N' H', settledP N = some N' → NuH H' p ls ms os N' → N'.least.length = N.least.length → Kp ls.at H H' → Q true H') :
    F47 (some ⟨p, 0, none⟩) H Q := by
  unfold settledP at hF hQ
  refine ⟨_, rfl, _, rowc (i := 3) h.row rfl, fun hc => ?_, fun hc => ?_⟩
  · rw [if_pos hc] at hF
    exact hF rfl H (Kp.refl _ _)
  · rw [if_neg (by rw [hc]; decide)] at hF
    rw [if_neg (by rw [hc]; decide)] at hQ
    intro X hX
    suffices ∀ f r Ni H', f + r = N.least.length + 1 → NuH H' p ls ms os Ni → Ni.order = N.order → Ni.least.length = N.least.length → Ni.most = N.most → riseP (f + 1) Ni = riseP (N.least.length + 2) N → Kp ls.at H H' → X r H' from
      this (N.least.length + 1) 0 N H rfl h rfl rfl rfl rfl (Kp.refl _ _)
    intro f
    induction f with
    | zero =>
      intro r Ni H' hr hh h1 h2 h3 h4 k
      refine hX _ _ ⟨_, rfl, os, rowc (i := 2) hh.row rfl, c47_L4 hh h1 (by rw [h2]; exact hO) hn2 (fun hno H2 k2 => ?_) fun N' ch H2 hs h' g1 g2 g3 k2 => ?_⟩
      · rw [riseP, h1, hno] at h4
        rw [← h4] at hF
        exact hF rfl H2 (k.trans k2 fun b hb => .inl hb)
      · have kk := k.trans k2 fun b hb => .inl hb
        rw [riseP, h1, hs] at h4
        have hl := h'.l.n
        refine ⟨fun hc => ?_, fun hc => ⟨_, rfl, ls, h'.row.cell_of (i := 0) rfl, fun hd => ?_, fun hd => absurd (of_decide_eq_false hd) (by omega)⟩⟩
        · have hc : ch = false := by simpa using hc
          subst hc
          rw [← h4] at hF hQ
          refine c47_1 h' (by rw [g3, h3, g2, h2, hm]) (by omega) ?_
          cases hk : okN N' with
          | true => exact hQ N' H2 (by simp only; rw [if_pos hk]) h' (by omega) kk
          | false => exact hF (by simp only; rw [if_neg (by rw [hk]; decide)]) H2 kk
        · have hc : ch = true := by simpa using hc
          subst hc
          rw [← h4] at hF
          exact hF rfl H2 kk
    | succ f ih =>
      intro r Ni H' hr hh h1 h2 h3 h4 k
      refine hX _ _ ⟨_, rfl, os, rowc (i := 2) hh.row rfl, c47_L4 hh h1 (by rw [h2]; exact hO) hn2 (fun hno H2 k2 => ?_) fun N' ch H2 hs h' g1 g2 g3 k2 => ?_⟩
      · rw [riseP, h1, hno] at h4
        rw [← h4] at hF
        exact hF rfl H2 (k.trans k2 fun b hb => .inl hb)
      · have kk := k.trans k2 fun b hb => .inl hb
        rw [riseP, h1, hs] at h4
        have hl := h'.l.n
        refine ⟨fun hc => ?_, fun hc => ⟨_, rfl, ls, h'.row.cell_of (i := 0) rfl, fun hd => absurd (of_decide_eq_true hd) (by omega), fun hd => ?_⟩⟩
        · have hc : ch = false := by simpa using hc
          subst hc
          rw [← h4] at hF hQ
          refine c47_1 h' (by rw [g3, h3, g2, h2, hm]) (by omega) ?_
          cases hk : okN N' with
          | true => exact hQ N' H2 (by simp only; rw [if_pos hk]) h' (by omega) kk
          | false => exact hF (by simp only; rw [if_neg (by rw [hk]; decide)]) H2 kk
        · have hc : ch = true := by simpa using hc
          subst hc
          rw [wr (by omega) (by omega), show ((r : Int) + 1) = ((r + 1 : Nat) : Int) by omega]
          exact ih (r + 1) N' H2 (by omega) h' g1 (by omega) (by rw [g3, h3]) h4 kk
end
end Go.Hw
