/- The book is grown; a row of a step. Own work of this session. -/
import Derived.Test.YtmjoeilahbfonaaDoorE1
set_option linter.unusedVariables false
namespace Go.Hw
open Go

theorem BrIs.row3 {H : Hp} {i : Nat} {r : BR} (h : BrIs H i r) {x : Nat} (hx : r.l.at x) : ∃ m, Row H x 3 m := by
  rcases h.base with ⟨h0, _⟩ | ⟨b, hb, hw⟩
  · rw [h0] at hx; cases hx
  · have : x = b := by
      have := hx.symm.trans hb
      injection this with this
      injection this
    subst this
    obtain ⟨sp, hrow, _⟩ := hw.row
    exact ⟨_, hrow⟩
theorem BrIs.c63 {H : Hp} {i : Nat} {r : BR} (h : BrIs H i r) : r.l.c ≤ 9223372036854775807 := by
  rcases h.base with ⟨h0, _⟩ | ⟨b, hb, hw⟩
  · rw [h0]; decide
  · exact hw.c63
theorem lsOf_p : ∀ {R : List BR} {i : Nat} {r : BR} (p : Nat), R[i]? = some r → lsOf (R.set i ⟨r.l, p, r.g⟩) = lsOf R
  | [], _, _, _, h => by simp at h
  | r :: l, 0, r', p, h => by
    have : r = r' := by simpa using h
    subst this
    rfl
  | r :: l, i + 1, r', p, h => by
    have := lsOf_p (R := l) (i := i) p (by simpa using h)
    show r.l :: r.g :: lsOf (l.set i _) = r.l :: r.g :: lsOf l
    rw [this]

section
variable {G S : Nat → Prop} {H H' : Hp} {bk a : Nat} {ls l : Sl} {sz : Int} {R : List BR}

theorem set_old {i j : Nat} {r r' q : BR} (hr : R[i]? = some r) (hl : r'.l = r.l) (h : (R.set i r')[j]? = some q) : (j = i ∧ q = r') ∨ (j ≠ i ∧ R[j]? = some q) := by
  by_cases e : j = i
  · subst e
    rw [List.getElem?_set_self (List.getElem?_eq_some_iff.1 hr).1] at h
    injection h with h
    exact .inl ⟨rfl, h.symm⟩
  · rw [List.getElem?_set_ne (fun h => e h.symm)] at h
    exact .inr ⟨e, h⟩

/-- One row of the book is written on. -/
theorem Bk.upd (h : Bk G H bk ls sz a R) {i : Nat} {r : BR} (hr : R[i]? = some r) {p : Nat} (k : Kp r.l.at H H') (hb : BrIs H' i ⟨r.l, p, r.g⟩) : Bk G H' bk ls sz a (R.set i ⟨r.l, p, r.g⟩) := by
  have h0 := h.r i r hr
  have hmem := List.mem_of_getElem? hr
  have key : ∀ {j : Nat} {q : BR}, (R.set i ⟨r.l, p, r.g⟩)[j]? = some q → (j = i ∧ q = ⟨r.l, p, r.g⟩) ∨ (j ≠ i ∧ R[j]? = some q) := fun h => set_old hr rfl h
  refine ⟨k.row h.row fun hh => ?_, ?_, h.gb, h.gl, fun q hq x hx => ?_, fun x hx => Nat.lt_of_lt_of_le (h.glt x hx) k.size, fun j q hq => ?_, fun j1 j2 q1 q2 hq1 hq2 hj x hx hy => ?_, by rw [List.length_set]; exact h.al⟩
  · obtain ⟨m, hm⟩ := h0.row3 hh
    exact hm.ne_type h.row (by decide) rfl
  · rw [lsOf_p p hr]
    exact h.lst.kp k fun x hx hh => by
      obtain ⟨m, hm⟩ := h0.row3 hh
      exact (h.lst.row hx).elim fun _ h2 => h2.ne_type hm (by decide) rfl
  · obtain ⟨j, hj⟩ := List.getElem?_of_mem hq
    rcases key hj with ⟨_, e⟩ | ⟨_, e⟩
    · rw [e] at hx; exact h.gr r hmem x hx
    · exact h.gr q (List.mem_of_getElem? e) x hx
  · rcases key hq with ⟨e1, e⟩ | ⟨e1, e⟩
    · rw [e, e1]; exact hb
    · exact (h.r j q e).kp k fun x hx hh => h.d j i q r e hr e1 x hx hh
  · rcases key hq1 with ⟨e1, e⟩ | ⟨e1, e⟩ <;> rcases key hq2 with ⟨e2, e'⟩ | ⟨e2, e'⟩
    · omega
    · rw [e] at hx
      exact h.d i j2 r q2 hr e' (fun h => e2 h.symm) x hx hy
    · rw [e'] at hy
      exact h.d j1 i q1 r e hr e1 x hx hy
    · exact h.d j1 j2 q1 q2 e e' hj x hx hy

/-- What was put behind a row is noted. -/
theorem Bk.note (h : Bk G H bk ls sz a R) {i : Nat} {r : BR} (hr : R[i]? = some r) {g : Sl} (k : Kp ls.at H H') (hl : Lst s22 H' ls (lsOf (R.set i ⟨r.l, r.p, g⟩))) (hb : BrIs H i ⟨r.l, r.p, g⟩) : Bk G H' bk ls sz a (R.set i ⟨r.l, r.p, g⟩) := by
  have hmem := List.mem_of_getElem? hr
  have key : ∀ {j : Nat} {q : BR}, (R.set i ⟨r.l, r.p, g⟩)[j]? = some q → (j = i ∧ q = ⟨r.l, r.p, g⟩) ∨ (j ≠ i ∧ R[j]? = some q) := fun h => set_old hr rfl h
  have nls : ∀ {j : Nat} {q : BR}, BrIs H j q → ∀ x, q.l.at x → ¬ ls.at x := fun hq x hx hh => by
    obtain ⟨m, hm⟩ := hq.row3 hx
    exact (h.lst.row hh).elim fun _ h2 => h2.ne_type hm (by decide) rfl
  refine ⟨k.row h.row fun hh => h.lst.ne h.row (by decide) hh, hl, h.gb, h.gl, fun q hq x hx => ?_, fun x hx => Nat.lt_of_lt_of_le (h.glt x hx) k.size, fun j q hq => ?_, fun j1 j2 q1 q2 hq1 hq2 hj x hx hy => ?_, by rw [List.length_set]; exact h.al⟩
  · obtain ⟨j, hj⟩ := List.getElem?_of_mem hq
    rcases key hj with ⟨_, e⟩ | ⟨_, e⟩
    · rw [e] at hx; exact h.gr r hmem x hx
    · exact h.gr q (List.mem_of_getElem? e) x hx
  · rcases key hq with ⟨e1, e⟩ | ⟨e1, e⟩
    · rw [e, e1]; exact hb.kp k (nls hb)
    · exact (h.r j q e).kp k (nls (h.r j q e))
  · rcases key hq1 with ⟨e1, e⟩ | ⟨e1, e⟩ <;> rcases key hq2 with ⟨e2, e'⟩ | ⟨e2, e'⟩
    · omega
    · rw [e] at hx
      exact h.d i j2 r q2 hr e' (fun h => e2 h.symm) x hx hy
    · rw [e'] at hy
      exact h.d j1 i q1 r e hr e1 x hx hy
    · exact h.d j1 j2 q1 q2 e e' hj x hx hy

/-- All rows are written on beyond their ends. -/
theorem c42 {Q : Hp → Prop} (h : Bk G H bk ls sz a R) (hR : R.length ≤ 4000000) (hQ : ∀ H' R', R'.length = R.length → Bk G H' bk ls sz R.length R' → Kp G H H' → Q H') : F42 (some ⟨bk, 0, none⟩) H Q := by
  have hn := h.lst.n
  rw [lsOf_len] at hn
  refine ⟨_, rfl, _, h.row.cell_of (i := 2) rfl, ?_⟩
  intro X hX
  suffices G1 : ∀ (d i : Nat) (R' : List BR) (H' : Hp), i + d = R.length → R'.length = R.length → a ≤ i → Bk G H' bk ls sz a R' → Kp G H H' → X ((2 * i : Nat) : Int) H' from
    G1 (R.length - a) a R H (by have := h.al; omega) rfl (Nat.le_refl _) h (Kp.refl _ _)
  intro d
  induction d with
  | zero =>
    intro i R' H' hi hl ha hb k
    refine hX _ _ ⟨_, rfl, ls, hb.row.cell_of (i := 0) rfl, fun hh => absurd (of_decide_eq_true hh) (by omega), fun _ => ⟨_, rfl, ls, hb.row.cell_of (i := 0) rfl, _, rfl, hb.row.some (i := 2) (by simp), hb.row.frz 2, fun H81 e81 => ?_⟩⟩
    have k81 : Kp (fun x => x = bk) H' H81 := (Kp.refl _ _).set' e81 (.inl rfl)
    have r81 := hb.row.set' e81
    have hls : (ls.n : Int) = ((2 * R.length : Nat) : Int) := by omega
    rw [hls] at r81
    have r81 : Row H81 bk 44 [Sl.v ls, .int .i64 sz, .int .i64 ((2 * R.length : Nat) : Int)] := r81
    refine hQ H81 R' hl ⟨r81, hb.lst.kp k81 fun x hx hh => by subst hh; exact hb.lst.ne hb.row (by decide) hx, hb.gb, hb.gl, hb.gr, fun x hx => Nat.lt_of_lt_of_le (hb.glt x hx) k81.size, fun j q hq => (hb.r j q hq).kp k81 fun x hx hh => ?_, hb.d, by omega⟩ (k.trans k81 fun x hx => .inl (hx ▸ h.gb))
    obtain ⟨m, hm⟩ := (hb.r j q hq).row3 hx
    subst hh
    exact hm.ne_type hb.row (by decide) rfl
  | succ d ih =>
    intro i R' H' hi hl ha hb k
    have gr : R'[i]? = some (R'[i]'(by omega)) := List.getElem?_eq_getElem (by omega)
    generalize R'[i]'(by omega) = r at gr
    obtain ⟨g1, g2⟩ := lsOf_get gr
    obtain ⟨b, hbb, hbn, cb⟩ := hb.lst.rd.get g1
    refine hX _ _ ⟨_, rfl, ls, hb.row.cell_of (i := 0) rfl, fun _ => ⟨_, rfl, ls, hb.row.cell_of (i := 0) rfl, b, hbb, by omega, by omega, r.l, cb.1, ?_⟩, fun hh => absurd (of_decide_eq_false hh) (by omega)⟩
    intro Y hY
    have hr0 := hb.r i r gr
    have hc63 := hr0.c63
    have hnc := hr0.nc
    have hln := hr0.len
    have hnp := hr0.np
    -- how far
    have hfar : ∃ f : Nat, (if (70000 : Int) < IntKind.i64.wrap ((r.l.c : Int) - (r.l.n : Int)) then 70000 else IntKind.i64.wrap ((r.l.c : Int) - (r.l.n : Int))) = (f : Int) ∧ r.l.n + f ≤ r.l.c ∧ f ≤ 70000 := by
      rw [wr (by omega) (by omega)]
      by_cases hc : (70000 : Int) < (r.l.c : Int) - (r.l.n : Int)
      · exact ⟨70000, by rw [if_pos hc]; rfl, by omega, by omega⟩
      · exact ⟨r.l.c - r.l.n, by rw [if_neg hc]; omega, by omega, by omega⟩
    obtain ⟨f, hf1, hf2, hf3⟩ := hfar
    have hy : IntKind.i64.wrap (1000000 + IntKind.i64.wrap (Int.tdiv ((2 * i : Nat) : Int) 2)) = mkI i := by
      rw [half (2 * i) (by omega)]
      congr 1
      omega
    suffices G2 : ∀ (e j : Nat) (p : Nat) (H2 : Hp), j + e = f → r.l.n + j ≤ p → Bk G H2 bk ls sz a (R'.set i ⟨r.l, p, r.g⟩) → Kp G H H2 → Y ⟨r.l.b, r.l.n + j, r.l.c⟩ (j : Int) H2 from by
      have e0 : R'.set i ⟨r.l, r.p, r.g⟩ = R' := by
        apply List.ext_getElem?
        intro j
        by_cases hj : j = i
        · subst hj
          rw [List.getElem?_set_self (by omega), gr]
        · rw [List.getElem?_set_ne (fun h => hj h.symm)]
      exact G2 f 0 r.p H' (by omega) (by omega) (by rw [e0]; exact hb) k
    intro e
    induction e with
    | zero =>
      intro j p H2 hj hp hb2 k2
      have gr2 : (R'.set i ⟨r.l, p, r.g⟩)[i]? = some ⟨r.l, p, r.g⟩ := List.getElem?_set_self (by omega)
      obtain ⟨g3, g4⟩ := lsOf_get gr2
      obtain ⟨b2, hb2b, hb2n, cb2⟩ := hb2.lst.rd.get g3
      have c0 := hb2.row.cell_of (i := 0) rfl
      have hr2 := hb2.r i _ gr2
      refine hY _ _ _ ⟨_, rfl, ls, c0, b2, hb2b, by omega, by omega, r.l, cb2.1, _, rfl, ls, c0, b2, hb2b, by omega, by omega, r.l, cb2.1, cb2.1, c0, cb2.1, c0, ?_⟩
      rw [hf1]
      refine ⟨fun hh => absurd (of_decide_eq_true hh) (by omega), fun _ => ?_⟩
      have hw1 : IntKind.i64.wrap (((2 * i : Nat) : Int) + 1) = ((2 * i + 1 : Nat) : Int) := by rw [wr (by omega) (by omega)]; omega
      have hw2 : IntKind.i64.wrap (((2 * i : Nat) : Int) + 2) = ((2 * (i + 1) : Nat) : Int) := by rw [wr (by omega) (by omega)]; omega
      unfold F42_3
      rw [hw1, hw2]
      obtain ⟨b3, hb3, hs3, hin3, hz1, hz2, hst⟩ := hb2.lst.set1 (i := 2 * i + 1) (c := 0) (x := r.g) (x' := ⟨r.l.b, r.l.n + j, r.l.c⟩) (v := Sl.v ⟨r.l.b, r.l.n + j, r.l.c⟩) g4 (by decide) rfl
      have ea : ((b3.add ((2 * i + 1) * 1)).add 0) = b3.add ((((2 * i + 1 : Nat) : Int)).toNat * 1) := by rw [add_add]; rfl
      rw [ea] at hz1 hz2 hst
      refine ⟨_, rfl, ls, c0, b3, hb3, by omega, by omega, hz1, hz2, fun H71 e71 => ?_⟩
      obtain ⟨l71, k71⟩ := hst H71 e71
      rw [lsOf_set p _ gr2] at l71
      have hx : BrIs H2 i ⟨r.l, p, ⟨r.l.b, r.l.n + j, r.l.c⟩⟩ := ⟨hr2.base, hr2.np, hr2.nc, .inr ⟨r.l.n + j, r.l.c, hp, by omega, rfl⟩, hr2.len⟩
      have hb3 := hb2.note gr2 k71 l71 hx
      exact ih (i + 1) _ H71 (by omega) (by rw [List.length_set, List.length_set]; exact hl) (by omega) hb3 (k2.trans k71 fun x hx => .inl (h.gl x hx))
    | succ e ih2 =>
      intro j p H2 hj hp hb2 k2
      have gr2 : (R'.set i ⟨r.l, p, r.g⟩)[i]? = some ⟨r.l, p, r.g⟩ := List.getElem?_set_self (by omega)
      obtain ⟨g3, g4⟩ := lsOf_get gr2
      obtain ⟨b2, hb2b, hb2n, cb2⟩ := hb2.lst.rd.get g3
      have c0 := hb2.row.cell_of (i := 0) rfl
      have hr2 := hb2.r i _ gr2
      refine hY _ _ _ ⟨_, rfl, ls, c0, b2, hb2b, by omega, by omega, r.l, cb2.1, _, rfl, ls, c0, b2, hb2b, by omega, by omega, r.l, cb2.1, cb2.1, c0, cb2.1, c0, ?_⟩
      rw [hf1, hy]
      refine ⟨fun _ H57 e57 => ?_, fun hh => absurd (of_decide_eq_false hh) (by omega)⟩
      have k57 : Kp No H2 H57 := (Kp.refl No _).push' e57
      have bx : Row H57 H2.size 3 (iF.f (mkI i)) := Row.new' e57
      have hb57 := hr2.kp k57 fun _ _ => id
      refine hb57.base.app (q := r.l.n + j) (j := 1) (xs := Sl.mk (some ⟨H2.size, 0, none⟩) 1 1) hp (by decide) (Row.rdl1 bx) rfl (by omega) (by omega) (fun _ H59 hb59 k59 => ?_) (fun hlt => absurd hlt (by show ¬ r.l.c < _; omega))
      rw [wr (by omega) (by omega)]
      have hx : BrIs H59 i ⟨r.l, max p (r.l.n + j + 1), r.g⟩ := by
        refine ⟨hb59, Nat.le_trans hr2.np (Nat.le_max_left _ _), hr2.nc, ?_, hr2.len⟩
        rcases hr2.g with h0 | ⟨q, c, hq, hq2, h0⟩
        · exact .inl h0
        · exact .inr ⟨q, c, Nat.le_trans hq (Nat.le_max_left _ _), hq2, h0⟩
      have hb59' := (hb2.no k57).upd gr2 k59 hx
      have e1 : (R'.set i ⟨r.l, p, r.g⟩).set i ⟨r.l, max p (r.l.n + j + 1), r.g⟩ = R'.set i ⟨r.l, max p (r.l.n + j + 1), r.g⟩ := List.set_set ..
      rw [e1] at hb59'
      exact ih2 (j + 1) _ H59 (by omega) (Nat.le_max_right _ _) hb59' ((k2.trans k57 fun _ h => h.elim).trans k59 fun x hx => .inl (hb.gr r (List.mem_of_getElem? gr) x hx))

/-- A row is written full, and on beyond its end. -/
theorem c21 {L : List Int} {Q : Hp → Prop} (h : Bk G H bk ls sz a R) (hl : Lst iF H l L) (hg : ∀ x, l.at x → ¬ G x) (hL : L.length ≤ 2097152) (hR : R.length ≤ 3999999)
    (hQ : ∀ H' ls' sz' a' R', R'.length ≤ R.length + 1 → Bk (fun b => G b ∨ l.at b ∨ (H.size ≤ b ∧ b < H'.size)) H' bk ls' sz' a' R' → Kp (fun b => G b ∨ l.at b) H H' → Q H') : F21 (some ⟨bk, 0, none⟩) l H Q := by
  refine c41 h hl hg hL (by omega) fun H1 ls1 sz1 R1 hR1 b1 k1 => ?_
  have hR1 : R1.length ≤ R.length + 1 := by rcases hR1 with e | e <;> rw [e] <;> simp
  refine c42 b1 (by omega) fun H2 R2 hR2 b2 k2 => ?_
  have s2 := k2.size
  refine hQ H2 ls1 sz1 R1.length R2 (by omega) (b2.wide (fun x hx => ?_) fun x hx => ?_) (k1.trans k2 fun x hx => ?_)
  · rcases hx with hx | hx | hx
    · exact .inl hx
    · exact .inr (.inl hx)
    · exact .inr (.inr (by omega))
  · rcases hx with hx | hx | hx
    · exact b2.glt x (.inl hx)
    · exact b2.glt x (.inr (.inl hx))
    · omega
  · rcases hx with hx | hx | hx
    · exact .inl (.inl hx)
    · exact .inl (.inr hx)
    · exact .inr (by omega)
end

/-- The row that a step answers. -/
theorem c20 {H : Hp} {o : OP} {Q : Sl → Hp → Prop} (hv : Iv H o.v o.V) (lv : o.V.length ≤ 1048576) (hQ : ∀ r H' L, L.length ≤ 1048577 → Lst iF H' r L → (∀ b, r.at b → H.size ≤ b) → Kp No H H' → Q r H') : F20 o.k o.v o.w o.s H Q := by
  obtain ⟨k, v, w, s, V, W⟩ := o
  replace hv : Iv H v V := hv
  replace lv : V.length ≤ 1048576 := lv
  intro H1 e1
  have k1 := (Kp.refl No H).push' e1
  have s1 := size_push' e1
  have r1 : Row H1 H.size 41 [.int .i64 k, Sl.v v, Sl.v w, .string s] := Row.new' e1
  have v1 := hv.no k1
  refine ⟨k, r1.cell_of (i := 0) rfl, fun _ => ?_, fun _ => ⟨fun _ => ?_, fun _ => ⟨fun _ => ?_, fun _ => hQ _ _ [] (by decide) (Lst.nil _ _) (fun b hb => by cases hb) k1⟩⟩⟩
  · refine ⟨v, r1.cell_of (i := 1) rfl, c12 v1 fun r H' lr k' hr => hQ r H' _ (by simp; omega) lr (fun b hb => by have := hr b hb; omega) (k1.trans k' fun _ h => h.elim)⟩
  · refine ⟨v, r1.cell_of (i := 1) rfl, c11 v1 (fun _ => hQ _ _ [] (by decide) (Lst.nil _ _) (fun b hb => by cases hb) k1) (fun _ _ => hQ _ _ [] (by decide) (Lst.nil _ _) (fun b hb => by cases hb) k1) fun _ _ r H' lr k' hr => hQ r H' _ (by simp; omega) lr (fun b hb => by have := hr b hb; omega) (k1.trans k' fun _ h => h.elim)⟩
  · refine ⟨s, r1.cell_of (i := 3) rfl, c18 (fun _ H' k' => hQ _ _ [] (by decide) (Lst.nil _ _) (fun b hb => by cases hb) (k1.trans k' fun _ h => h.elim)) fun X _ hX r H' lr k' hr => hQ r H' _ (by omega) lr (fun b hb => by have := hr b hb; omega) (k1.trans k' fun _ h => h.elim)⟩
end Go.Hw
