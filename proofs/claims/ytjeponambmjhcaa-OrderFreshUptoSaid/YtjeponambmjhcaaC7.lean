/- Contracts: the document's gate. Own work of this session. -/
import Derived.Test.YtjeponambmjhcaaC6
set_option linter.unusedVariables false
namespace Go.Hw
open Go

structure RL (H : Hp) (r : Nat) (sl : Sl) (s : St) (M : List HC) : Prop where
  row : Row H r 80 [.int .i64 s.late, .int .i64 s.room, Sl.v sl, .int .i64 s.top, .int .i64 s.mark]
  lst : Lst eF H sl (M.map HC.e)
  vals : Vals H (M.map HC.e)
  eq : M.map HC.ne = s.C
def RA (H : Hp) (r : Nat) (sl : Sl) (s : St) : Prop := ∃ M, RL H r sl s M

theorem RL.kp {H H' : Hp} {r : Nat} {sl : Sl} {s : St} {M : List HC} {S : Nat → Prop} (h : RL H r sl s M) (k : Kp S H H') (hr : ¬ S r) (hs : ∀ b, sl.at b → ¬ S b) (h49 : ∀ b l, S b → ¬ Row H b 49 l) : RL H' r sl s M :=
  ⟨k.row h.row hr, h.lst.kp k hs, h.vals.kp k h49, h.eq⟩
theorem RL.no {H H' : Hp} {r : Nat} {sl : Sl} {s : St} {M : List HC} (h : RL H r sl s M) (k : Kp No H H') : RL H' r sl s M := h.kp k id (fun _ _ => id) (fun _ _ => False.elim)
theorem RL.write {H H' : Hp} {r : Nat} {sl : Sl} {s s' : St} {M : List HC} (h : RL H r sl s M) (k : Kp (fun b => b = r) H H') (hr : Row H' r 80 [.int .i64 s'.late, .int .i64 s'.room, Sl.v sl, .int .i64 s'.top, .int .i64 s'.mark]) (hC : s'.C = s.C) : RL H' r sl s' M :=
  ⟨hr, h.lst.kp k (fun b hb e => h.lst.ne h.row (by decide) (e ▸ hb)), h.vals.kp k (fun b l e rr => rr.ne_type h.row (by decide) e), h.eq.trans hC.symm⟩

theorem c42 {ty : ByteArray} {tm : Int} {vs : Sl} {vals : List VT} {H : Hp} {Q : ByteArray → Int → Sl → Hp → Prop} (h : RdL vF H vs vals) (hl : vals.length ≤ 1048576)
    (hQ : ∀ r H', Lst vF H' r vals → Kp No H H' → (∀ b, r.at b → H.size ≤ b) → Q ty tm r H') : F42 ty tm vs H Q := by
  intro H1 e1 H3 e3 X hX
  have k1 := (Kp.refl No H).push' e1
  have k3 := k1.push' e3
  have s1 := size_push' e1
  have s3 := size_push' e3
  have r1 := (Row.new' e1).push' e3
  have r3 := Row.new' e3
  have hn := h.n
  suffices G : ∀ (d : Nat) (H4 : Hp) (i : Nat) (r : Sl), i + d = vals.length → Kp No H3 H4 → Lst vF H4 r (vals.take i) → (∀ b, r.at b → H3.size ≤ b) → X r i H4 from G vals.length H3 0 Sl.nil (by omega) (Kp.refl _ _) (Lst.nil _ _) (fun b hb => by cases hb)
  intro d
  induction d with
  | zero =>
    intro H4 i r hi k4 hr hnew
    rw [List.take_of_length_le (by omega)] at hr
    have b1 := k4.row r1 id
    have b3 := k4.row r3 id
    have k04 := k3.trans k4 fun _ => False.elim
    refine hX _ _ _ ⟨_, b1.cell_of (i := 2) rfl, fun hb => absurd (of_decide_eq_true hb) (by omega), fun _ => ⟨b1.some (i := 2) (by simp), b1.frz 2, fun H5 e5 => ?_⟩⟩
    have hr5 := hr.kp ((Kp.refl (fun b => b = H.size) H4).set' e5 (.inl rfl)) (fun b hb hb' => by have := hnew b hb; omega)
    have b15 := b1.set' e5
    have b35 := b3.set_ne' e5 (by show H1.size ≠ H.size; omega)
    have k5 := k04.set' e5 (.inr (Nat.le_refl _))
    refine ⟨_, _, _, b15.all, b35.mayall, fun H6 e6 => ?_⟩
    have hr6 := hr5.kp ((Kp.refl (fun b => b = H1.size) H5).sets' e6 (.inl rfl)) (fun b hb hb' => by have := hnew b hb; omega)
    exact ⟨_, _, _, (b35.fill' e6 rfl).all, hQ _ _ hr6 (k5.sets' e6 (.inr k1.size)) fun b hb => by have := hnew b hb; omega⟩
  | succ d ih =>
    intro H4 i r hi k4 hr hnew
    have b1 := k4.row r1 id
    have hx : vals[i]? = some (vals[i]'(by omega)) := List.getElem?_eq_getElem (by omega)
    generalize vals[i]'(by omega) = x at hx
    obtain ⟨a, ha, hi0, ca⟩ := ((h.kp0 k3).kp0 k4).get hx
    refine hX _ _ _ ⟨_, b1.cell_of (i := 2) rfl, fun _ => ⟨_, b1.cell_of (i := 2) rfl, a, ha, by omega, by omega, _, _, _, _, ca, fun H5 e5 => ?_⟩, fun hb => absurd (of_decide_eq_false hb) (by omega)⟩
    have k5 := (Kp.refl No H4).push' e5
    have s5 := size_push' e5
    have b5 : Row H5 H4.size 49 (vF.f x) := Row.new' e5
    have sz := k4.size
    refine (hr.kp k5 fun _ _ => id).append1 b5 rfl (by simp; omega) (by simp; omega) fun r6 H6 h6 k6 hr6 => ?_
    show X _ _ _
    rw [wr (by omega) (by omega)]
    rw [← take_succ hx] at h6
    refine ih H6 (i + 1) r6 (by omega) ((k4.trans k5 fun _ => False.elim).trans k6 fun b hb => .inr (hnew b hb)) h6 fun b hb => ?_
    rcases hr6 b hb with h | h
    · exact hnew b h
    · omega

theorem c43 {H : Hp} {r : Nat} {sl : Sl} {s : St} {M : List HC} {now : Int} {Q : Hp → Prop} (h : RL H r sl s M) (hQ : ∀ H', RL H' r sl { s with top := top' s now, mark := mark' s now } M → Kp (fun b => b = r) H H' → Q H') : F43 (some ⟨r, 0, none⟩) now H Q := by
  have key : ∀ H1, RL H1 r sl { s with top := top' s now } M → Kp (fun b => b = r) H H1 → F43_1 Q (some ⟨r, 0, none⟩) H1 := by
    intro H1 h1 k1
    refine ⟨_, rfl, _, h1.row.cell_of (i := 3) rfl, _, rfl, _, h1.row.cell_of (i := 0) rfl, _, rfl, _, h1.row.cell_of (i := 4) rfl, fun hb => ⟨_, rfl, _, h1.row.cell_of (i := 3) rfl, _, rfl, _, h1.row.cell_of (i := 0) rfl, _, rfl, h1.row.some (i := 4) (by simp), h1.row.frz 4, fun H2 e2 => ?_⟩, fun hb => ?_⟩
    · refine hQ H2 ?_ (k1.set' e2 (.inl rfl))
      have e : mark' s now = IntKind.i64.wrap (top' s now - s.late) := if_pos (of_decide_eq_true hb)
      rw [e]
      exact h1.write ((Kp.refl (fun b => b = r) H1).set' e2 (.inl rfl)) (h1.row.set' e2) rfl
    · refine hQ H1 ?_ k1
      have e : mark' s now = s.mark := if_neg (of_decide_eq_false hb)
      rw [e]
      exact h1
  refine ⟨_, rfl, _, h.row.cell_of (i := 3) rfl, fun hb => ⟨_, rfl, h.row.some (i := 3) (by simp), h.row.frz 3, fun H1 e1 => ?_⟩, fun hb => ?_⟩
  · refine key H1 ?_ ((Kp.refl _ _).set' e1 (.inl rfl))
    have e : top' s now = now := if_pos (of_decide_eq_true hb)
    rw [e]
    exact h.write ((Kp.refl (fun b => b = r) H).set' e1 (.inl rfl)) (h.row.set' e1) rfl
  · refine key H ?_ (Kp.refl _ _)
    have e : top' s now = s.top := if_neg (of_decide_eq_false hb)
    rw [e]
    exact h

/-- The first one of the least time. -/
theorem c48 {H : Hp} {r : Nat} {l5 : List Value} {sl : Sl} {E : List EC} {Q : Int → Hp → Prop} (hr : Row H r 80 l5) (h2 : l5[2]? = some (Sl.v sl)) (h : Lst eF H sl E) (hl : E.length ≤ 1048576)
    (h0 : E = [] → Q (-1) H) (h1 : ∀ (i : Nat) (x : EC), E[i]? = some x → (∀ j y, j < i → E[j]? = some y → x.tm < y.tm) → (∀ j y, i ≤ j → E[j]? = some y → x.tm ≤ y.tm) → Q i H) : F48 (some ⟨r, 0, none⟩) H Q := by
  intro X hX
  have hn := h.n
  suffices G : ∀ (d : Nat) (i : Nat) (b : Int), i + d = E.length → ((b = -1 ∧ i = 0) ∨ ∃ (k : Nat) (x : EC), b = k ∧ k < i ∧ E[k]? = some x ∧ (∀ j y, j < k → E[j]? = some y → x.tm < y.tm) ∧ ∀ j y, k ≤ j → j < i → E[j]? = some y → x.tm ≤ y.tm) → X b i H from
    G E.length 0 (-1) (by omega) (.inl ⟨rfl, rfl⟩)
  intro d
  induction d with
  | zero =>
    intro i b hi hb
    refine hX _ _ _ ⟨_, rfl, _, hr.cell_of (i := 2) h2, fun hb => absurd (of_decide_eq_true hb) (by omega), fun _ => ?_⟩
    rcases hb with ⟨rfl, rfl⟩ | ⟨k, x, rfl, hk, hx, ha, hb⟩
    · exact h0 (List.eq_nil_of_length_eq_zero (by omega))
    · exact h1 k x hx ha fun j y hj hy => hb j y hj (by have := (List.getElem?_eq_some_iff.1 hy).1; omega) hy
  | succ d ih =>
    intro i b hi hb
    have hy : E[i]? = some (E[i]'(by omega)) := List.getElem?_eq_getElem (by omega)
    generalize E[i]'(by omega) = y at hy
    have hw : IntKind.i64.wrap ((i : Int) + 1) = ((i + 1 : Nat) : Int) := wr (by omega) (by omega)
    refine hX _ _ _ ⟨_, rfl, _, hr.cell_of (i := 2) h2, fun _ => ⟨fun hq => ?_, fun hq => ?_⟩, fun hb => absurd (of_decide_eq_false hb) (by omega)⟩
    · have hq := of_decide_eq_true hq
      obtain ⟨rfl, rfl⟩ : b = -1 ∧ i = 0 := by
        rcases hb with h | ⟨k, x, rfl, _⟩
        · exact h
        · omega
      refine ⟨fun _ => ?_, fun h => by cases h⟩
      show X _ _ _
      rw [hw]
      exact ih 1 0 (by omega) (.inr ⟨0, y, rfl, by omega, hy, fun j _ hj => by omega, fun j z _ hj hz => by
        obtain rfl : j = 0 := by omega
        rw [hy] at hz; cases hz; exact Int.le_refl _⟩)
    · have hq := of_decide_eq_false hq
      obtain ⟨k, x, rfl, hk, hx, ha, hb⟩ : ∃ (k : Nat) (x : EC), b = k ∧ k < i ∧ E[k]? = some x ∧ (∀ j y, j < k → E[j]? = some y → x.tm < y.tm) ∧ ∀ j y, k ≤ j → j < i → E[j]? = some y → x.tm ≤ y.tm := by
        rcases hb with h | h
        · omega
        · exact h
      obtain ⟨a, haa, hi0, ca⟩ := h.rd.get hy
      obtain ⟨a', haa', hi0', ca'⟩ := h.rd.get hx
      refine ⟨_, rfl, _, hr.cell_of (i := 2) h2, a, haa, by omega, by omega, _, ca.2.1, _, rfl, _, hr.cell_of (i := 2) h2, a', haa', by omega, by omega, _, ca'.2.1, fun hc => ?_, fun hc => ?_⟩
      · have hc := of_decide_eq_true hc
        show X _ _ _
        rw [hw]
        refine ih (i + 1) i (by omega) (.inr ⟨i, y, rfl, by omega, hy, fun j z hj hz => ?_, fun j z hj hj' hz => ?_⟩)
        · by_cases hjk : j < k
          · have := ha j z hjk hz; omega
          · have := hb j z (by omega) hj hz; omega
        · obtain rfl : j = i := by omega
          rw [hy] at hz; cases hz; exact Int.le_refl _
      · have hc := of_decide_eq_false hc
        show X _ _ _
        rw [hw]
        refine ih (i + 1) k (by omega) (.inr ⟨k, x, rfl, by omega, hx, ha, fun j z hj hj' hz => ?_⟩)
        by_cases hji : j < i
        · exact hb j z hj hji hz
        · obtain rfl : j = i := by omega
          rw [hy] at hz; cases hz; omega

theorem erase_take {α : Type} {E : List α} {i j : Nat} {y : α} (hy : E[j]? = some y) : (E.take (j + 1)).eraseIdx i = if j = i then (E.take j).eraseIdx i else (E.take j).eraseIdx i ++ [y] := by
  have hj := (List.getElem?_eq_some_iff.1 hy).1
  rw [take_succ hy]
  have hlt : (E.take j).length = j := by simp; omega
  by_cases h1 : i < j
  · rw [List.eraseIdx_append_of_lt_length (by omega), if_neg (by omega)]
  · rw [List.eraseIdx_append_of_length_le (by omega), hlt, List.eraseIdx_of_length_le (show (E.take j).length ≤ i by omega)]
    by_cases h2 : j = i
    · subst h2; simp
    · rw [if_neg h2, List.eraseIdx_of_length_le (by simp; omega)]

theorem c49 {H : Hp} {r : Nat} {sl : Sl} {E : List EC} {i : Nat} {x : EC} {v0 v1 v3 v4 : Value} {Q : ByteArray → Int → Sl → Hp → Prop} (hr : Row H r 80 [v0, v1, Sl.v sl, v3, v4]) (h : Lst eF H sl E) (hl : E.length ≤ 1048576) (hx : E[i]? = some x)
    (hQ : ∀ H' sl', Row H' r 80 [v0, v1, Sl.v sl', v3, v4] → Lst eF H' sl' (E.eraseIdx i) → Kp (fun b => b = r) H H' → (∀ b, sl'.at b → H.size ≤ b) → Q x.ty x.tm x.sl H') : F49 (some ⟨r, 0, none⟩) i H Q := by
  intro H1 e1
  have hn := h.n
  have hrl := hr.lt
  have k1 := (Kp.refl No H).push' e1
  have s1 := size_push' e1
  have b1 := Row.new' e1
  have r1 := hr.push' e1
  have h1 := h.kp k1 fun _ _ => id
  obtain ⟨a, ha, hi0, ca⟩ := h1.rd.get hx
  refine ⟨_, rfl, _, r1.cell_of (i := 2) rfl, a, ha, by omega, by omega, _, _, _, ca, fun H2 e2 => ?_⟩
  have k2 := k1.push' e2
  have s2 := size_push' e2
  have b2 := Row.new' e2
  refine ⟨b2.mayall, fun H3 e3 => ?_⟩
  have k3 := k2.sets' e3 (.inr k1.size)
  have s3 := size_sets' e3
  have b3 : Row H3 H1.size 32 (eF.f x) := b2.fill' e3 rfl
  have b13 := (b1.push' e2).sets_ne' e3 (by show H.size ≠ H1.size; omega)
  have r3 := k3.row hr id
  refine ⟨_, rfl, _, r3.cell_of (i := 2) rfl, by omega, by omega, by omega, by omega, fun H4 e4 => ?_⟩
  have k4 := k3.push' e4
  have s4 := size_push' e4
  have r4 := r3.push' e4
  have b4 := b3.push' e4
  have b14 := b13.push' e4
  have h4 := h.kp k4 fun _ _ => id
  have hne : Lst eF H4 (Sl.mk (some ⟨H3.size, 0, none⟩) 0 sl.n) [] := Lst.empty (Row.new' e4) (by
    show (Builtin.zeroCells _ _).toList.length = _
    have := zs_length #[(.string (ByteArray.mk #[])), (.int .i64 0), (Sl.v Sl.nil)] sl.n
    unfold zs at this
    exact this) (by omega)
  intro X hX
  suffices G : ∀ (d : Nat) (H5 : Hp) (j : Nat) (t : Sl), j + d = E.length → Kp No H4 H5 ∨ Kp (fun b => b = H3.size) H4 H5 → Lst eF H5 t ((E.take j).eraseIdx i) → (∀ b, t.at b → H3.size ≤ b) → X t j H5 from
    G E.length H4 0 _ (by omega) (.inl (Kp.refl _ _)) (by simpa using hne) (fun b hb => by
      have : H3.size = b := by simpa [Sl.at] using hb
      omega)
  intro d
  induction d with
  | zero =>
    intro H5 j t hj k5 ht htn
    have k5 : Kp (fun b => b = H3.size) H4 H5 := k5.elim (fun k => k.mono fun _ _ => False.elim) id
    rw [List.take_of_length_le (by omega)] at ht
    have r5 := k5.row r4 (by omega)
    have b5 := k5.row b4 (by omega)
    have b15 := k5.row b14 (by omega)
    refine hX _ _ _ ⟨_, rfl, _, r5.cell_of (i := 2) rfl, fun hb => absurd (of_decide_eq_true hb) (by omega), fun _ => ⟨_, rfl, r5.some (i := 2) (by simp), r5.frz 2, fun H6 e6 => ?_⟩⟩
    have r6 := r5.set' e6
    have b6 := b5.set_ne' e6 (by show H1.size ≠ r; omega)
    have b16 := b15.set_ne' e6 (by show H.size ≠ r; omega)
    have t6 := ht.kp ((Kp.refl (fun b => b = r) H5).set' e6 (.inl rfl)) (fun b hb e => by have := htn b hb; omega)
    have k6 : Kp (fun b => b = r) H H6 := ((k4.mono (T := fun b => b = r) fun _ _ => False.elim).trans k5 fun b hb => .inr (by omega)).set' e6 (.inl rfl)
    refine ⟨_, _, _, b6.all, b16.mayall, fun H7 e7 => ⟨_, _, _, (b16.fill' e7 rfl).all, ?_⟩⟩
    refine hQ H7 t (r6.sets_ne' e7 (by show r ≠ H.size; omega)) (t6.kp ((Kp.refl (fun b => b = H.size) H6).sets' e7 (.inl rfl)) (fun b hb e => by have := htn b hb; omega)) (k6.sets' e7 (.inr (Nat.le_refl _))) fun b hb => by have := htn b hb; omega
  | succ d ih =>
    intro H5 j t hj k5 ht htn
    have k5 : Kp (fun b => b = H3.size) H4 H5 := k5.elim (fun k => k.mono fun _ _ => False.elim) id
    have r5 := k5.row r4 (by omega)
    have hy : E[j]? = some (E[j]'(by omega)) := List.getElem?_eq_getElem (by omega)
    generalize E[j]'(by omega) = y at hy
    have hw : IntKind.i64.wrap ((j : Int) + 1) = ((j + 1 : Nat) : Int) := wr (by omega) (by omega)
    have hst := erase_take (i := i) hy
    refine hX _ _ _ ⟨_, rfl, _, r5.cell_of (i := 2) rfl, fun _ => ⟨fun hq => ?_, fun hq => ?_⟩, fun hb => absurd (of_decide_eq_false hb) (by omega)⟩
    · have hq := of_decide_eq_true hq
      rw [if_neg (by omega)] at hst
      have h5 := h4.kp k5 fun b hb e => by have := h.lt hb; omega
      obtain ⟨a, ha, hi0, ca⟩ := h5.rd.get hy
      refine ⟨_, rfl, _, r5.cell_of (i := 2) rfl, a, ha, by omega, by omega, _, _, _, ca, fun H6 e6 => ?_⟩
      have k6 := (Kp.refl No H5).push' e6
      have s6 := size_push' e6
      have b6 : Row H6 H5.size 32 (eF.f y) := Row.new' e6
      have hlen : ((E.take j).eraseIdx i).length ≤ j := Nat.le_trans (List.length_eraseIdx_le ..) (by simp; omega)
      refine (ht.kp k6 fun _ _ => id).append1 b6 rfl (by omega) (by omega) fun t7 H7 h7 k7 ht7 => ?_
      have sz := k5.size
      show X _ _ _
      rw [hw]
      rw [← hst] at h7
      refine ih H7 (j + 1) t7 (by omega) (.inr ?_) h7 fun b hb => ?_
      · refine (k5.trans k6 fun _ => False.elim).trans k7 fun b hb => ?_
        have := htn b hb
        by_cases hb' : b = H3.size
        · exact .inl hb'
        · exact .inr (by omega)
      · rcases ht7 b hb with h | h
        · exact htn b h
        · omega
    · have hq := of_decide_eq_false hq
      rw [if_pos (by omega)] at hst
      show X _ _ _
      rw [hw]
      rw [← hst] at ht
      exact ih H5 (j + 1) t (by omega) (.inr k5) ht htn

end Go.Hw
