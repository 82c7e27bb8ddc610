/- Contracts: the document's gate: Push, Flush, Held. Own work of this session. -/
import Derived.Test.YtjeponambmjhcaaC8
set_option linter.unusedVariables false
namespace Go.Hw
open Go

theorem St.Ok.snoc' {s : St} (h : s.Ok) (e : EV) : (s.C ++ [(⟨s.count + 1, e⟩ : NE)]).Pairwise fun x y => x.num < y.num := by
  rw [List.pairwise_append]
  refine ⟨h.inc, List.pairwise_singleton _ _, fun x hx y hy => ?_⟩
  rw [List.mem_singleton] at hy
  subst hy
  have := h.num x hx
  show x.num < s.count + 1
  omega

/-- What makes the list too long, reckoned before and behind. -/
theorem full_iff {s : St} (ok : s.Ok) (e : EV) : s.room < ((rest (mark' s e.tm) (s.C ++ [(⟨s.count + 1, e⟩ : NE)])).length : Int) ↔ mark' s e.tm < e.tm ∧ s.room ≤ ((rest (mark' s e.tm) s.C).length : Int) := by
  have hl := rest_len (mark' s e.tm) s.C
  have := ok.len
  unfold rest at *
  rw [List.filter_append, List.length_append, List.filter_cons]
  by_cases hb : mark' s e.tm < e.tm
  · rw [if_pos (by simpa using hb)]
    simp only [List.filter_nil, List.length_cons, List.length_nil]
    omega
  · rw [if_neg (by simpa using hb)]
    simp only [List.filter_nil, List.length_nil]
    omega

theorem c25 {H : Hp} {r : Nat} {sl : Sl} {s : St} {M : List HC} {ty : ByteArray} {tm : Int} {vs : Sl} {vals : List VT} {Q : Sl → Int → Hp → Prop} (h : RL H r sl s M) (ok : s.Ok) (hv : RdL vF H vs vals) (hvl : vals.length ≤ 1048576)
    (hQ : ∀ t H' sl', RA H' r sl' (push s ⟨ty, tm, vals⟩).2.2 → Ans H' t ((push s ⟨ty, tm, vals⟩).1.map NE.e) → Kp (fun b => b = r) H H' → (∀ b, sl'.at b → sl.at b ∨ H.size ≤ b) → Q t (push s ⟨ty, tm, vals⟩).2.1 H') : F25 (some ⟨r, 0, none⟩) ty tm vs H Q := by
  intro H1 e1
  have k1 := (Kp.refl No H).push' e1
  have s1 := size_push' e1
  have b1 := Row.new' e1
  have hrl := h.row.lt
  have hlen := h.len ok
  have key : ∀ b, (b = true ↔ (tm < 0 ∨ 4611686018427387904 < tm)) → F25_1 Q (some ⟨r, 0, none⟩) ⟨H.size, 0, none⟩ b H1 := by
    intro b hbb
    have h1 := h.no k1
    refine ⟨fun hb' => ?_, fun hb' => ?_⟩
    · have e : push s ⟨ty, tm, vals⟩ = ([], 23, s) := if_pos (hbb.1 hb')
      rw [e] at hQ
      exact hQ _ H1 sl ⟨M, h1⟩ (Ans.nil H1) (k1.mono fun _ _ => False.elim) (fun _ => .inl)
    have hn1 : ¬ (tm < 0 ∨ 4611686018427387904 < tm) := fun h => by rw [hbb.2 h] at hb'; cases hb'
    refine ⟨_, b1.cell_of (i := 1) rfl, _, rfl, _, h1.row.cell_of (i := 4) rfl, fun hq => ?_, fun hq => ?_⟩
    · have e : push s ⟨ty, tm, vals⟩ = ([], 180, s) := (if_neg hn1).trans (if_pos (of_decide_eq_true hq))
      rw [e] at hQ
      exact hQ _ H1 sl ⟨M, h1⟩ (Ans.nil H1) (k1.mono fun _ _ => False.elim) (fun _ => .inl)
    have hn2 := of_decide_eq_false hq
    refine ⟨_, rfl, _, _, _, _, _, h1.row.all, fun H2 e2 => ?_⟩
    have k2 := k1.push' e2
    have s2 := size_push' e2
    have b2 := Row.new' e2
    refine ⟨b2.mayall, fun H3 e3 => ?_⟩
    have k3 := k2.sets' e3 (.inr (by show H.size ≤ H1.size; omega))
    have s3 := size_sets' e3
    have b3 := b2.fill' e3 rfl
    have b13 := (b1.push' e2).sets_ne' e3 (by show H.size ≠ H1.size; omega)
    have h3 := h.no k3
    have hn := h.lst.n
    rw [List.length_map] at hn
    have hw : IntKind.i64.wrap ((sl.n : Int) + 1) = ((sl.n + 1 : Nat) : Int) := wr (by omega) (by omega)
    refine ⟨_, rfl, _, h3.row.cell_of (i := 2) rfl, ?_⟩
    rw [hw]
    refine ⟨by omega, by omega, by omega, by omega, fun H4 e4 => ?_⟩
    have k4 := k3.push' e4
    have s4 := size_push' e4
    have h4 := h.no k4
    have b4 := b3.push' e4
    have b14 := b13.push' e4
    have hne : Lst eF H4 (Sl.mk (some ⟨H3.size, 0, none⟩) 0 (sl.n + 1)) [] := Lst.empty (Row.new' e4) (by
      show (Builtin.zeroCells _ _).toList.length = _
      have := zs_length #[(.string (ByteArray.mk #[])), (.int .i64 0), (Sl.v Sl.nil)] (sl.n + 1)
      unfold zs at this
      exact this) (by omega)
    intro X hX
    suffices G : ∀ (d : Nat) (H5 : Hp) (j : Nat) (t : Sl), j + d = M.length → Kp (fun b => b = H3.size) H4 H5 → Lst eF H5 t ((M.map HC.e).take j) → (∀ b, t.at b → H3.size ≤ b) → X t j H5 from
      G M.length H4 0 _ (by omega) (Kp.refl _ _) (by simpa using hne) (fun b hb => by
        have : H3.size = b := by simpa [Sl.at] using hb
        omega)
    intro d
    induction d with
    | zero =>
      intro H5 j t hj k5 ht htn
      rw [List.take_of_length_le (by rw [List.length_map]; omega)] at ht
      have h5 : RL H5 r sl s M := h4.kp k5 (by omega) (fun b hb e => by have := h.lst.lt hb; omega) (fun b l e rr => ?_)
      · have b5 := k5.row b4 (by omega)
        have b15 := k5.row b14 (by omega)
        have sk5 := k5.size
        have k05 : Kp No H H5 := k4.trans k5 fun b hb => .inr (by omega)
        refine hX _ _ _ ⟨_, rfl, _, h5.row.cell_of (i := 2) rfl, fun hb => absurd (of_decide_eq_true hb) (by omega), fun _ => ⟨_, _, _, b15.all, c42 (hv.kp0 k05) hvl fun r6 H6 h6 k6 hr6 H7 e7 => ?_⟩⟩
        have sk6 := k6.size
        have k57 := k6.push' e7
        have s7 := size_push' e7
        have b7 : Row H7 H6.size 32 (eF.f ⟨ty, tm, r6, vals⟩) := Row.new' e7
        refine (ht.kp k57 fun _ _ => id).append1 b7 rfl (by simp; omega) (by simp; omega) fun t8 H8 h8 k8 ht8 => ?_
        have k58 : Kp t.at H5 H8 := (k57.mono fun _ _ => False.elim).trans k8 fun _ => .inl
        have k68 : Kp t.at H6 H8 := (((Kp.refl No H6).push' e7).mono fun _ _ => False.elim).trans k8 fun _ => .inl
        have nt : ∀ b, b < H3.size → ¬ t.at b := fun b hb hb' => by have := htn b hb'; omega
        have r8 := k58.row h5.row (nt _ (by omega))
        have b18 := k58.row b15 (nt _ (by omega))
        have b38 := k58.row b5 (nt _ (by omega))
        have n49 : ∀ b l, t.at b → ¬ Row H5 b 49 l := fun b l hb rr => ht.ne rr (by decide) hb
        have hv8 : Vals H8 (M.map HC.e ++ [⟨ty, tm, r6, vals⟩]) := by
          intro x hx
          rcases List.mem_append.1 hx with hx | hx
          · exact h5.vals.kp k58 n49 x hx
          · rw [List.mem_singleton] at hx
            subst hx
            refine ⟨h6.kp k68 fun b hb hb' => ?_, hvl⟩
            obtain ⟨_, rr⟩ := h6.row hb
            exact (ht.kp k6 fun _ _ => id).ne rr (by decide) hb'
        have k08 : Kp No H H8 := k05.trans k58 fun b hb => .inr (by have := htn b hb; omega)
        have htn8 : ∀ b, t8.at b → H3.size ≤ b := fun b hb => by
          rcases ht8 b hb with h | h
          · exact htn b h
          · omega
        refine ⟨_, rfl, r8.some (i := 2) (by simp), r8.frz 2, fun H9 e9 => ?_⟩
        have r9 := r8.set' e9
        have k89 := (Kp.refl (fun b => b = r) H8).set' e9 (.inl rfl)
        have b19 := b18.set_ne' e9 (by show H.size ≠ r; omega)
        have b39 := b38.set_ne' e9 (by show H1.size ≠ r; omega)
        have h9 : RL H9 r t8 { s with count := s.count + 1, C := s.C ++ [⟨s.count + 1, ⟨ty, tm, vals⟩⟩] } (M ++ [⟨s.count + 1, ⟨ty, tm, r6, vals⟩⟩]) := by
          refine ⟨r9, ?_, ?_, ?_⟩
          · rw [List.map_append]
            exact h8.kp k89 fun b hb e => by have := htn8 b hb; omega
          · rw [List.map_append]
            exact hv8.kp k89 fun b l e rr => rr.ne_type r8 (by decide) e
          · rw [List.map_append, h.eq]; rfl
        refine ⟨_, b19.cell_of (i := 1) rfl, c43 (now := tm) h9 fun H10 h10 k10 => ?_⟩
        refine ⟨_, rfl, _, h10.row.cell_of (i := 4) rfl, c44 h10 (ok.snoc' _) (by simp; omega) fun t11 H11 sl11 h11 a11 k11 hs11 ht11 => ?_⟩
        have k8x : Kp (fun b => b = r) H8 H11 := (k89.trans k10 fun _ => .inl).trans k11 fun _ => .inl
        have k0x : Kp (fun b => b = r) H H11 := (k08.mono fun _ _ => False.elim).trans k8x fun _ => .inl
        have k9x : Kp (fun b => b = r) H9 H11 := k10.trans k11 fun _ => .inl
        obtain ⟨M11, h11⟩ := h11
        have hl11 := h11.lst.n
        have hl12 := congrArg List.length h11.eq
        rw [List.length_map] at hl11 hl12
        have hfull := full_iff ok ⟨ty, tm, vals⟩
        have hst : ∀ now, mark' { s with count := s.count + 1, C := s.C ++ [⟨s.count + 1, ⟨ty, tm, vals⟩⟩] } now = mark' s now := fun _ => rfl
        refine ⟨_, rfl, _, h11.row.cell_of (i := 2) rfl, _, rfl, _, h11.row.cell_of (i := 1) rfl, fun hf => ?_, fun hf => ?_⟩
        · have hf := of_decide_eq_true hf
          have e : push s ⟨ty, tm, vals⟩ = ([], 4, s) := (if_neg hn1).trans ((if_neg hn2).trans (if_pos (hfull.1 (by rw [← hst]; exact (by rw [← hl12, ← hl11]; exact hf)))))
          rw [e] at hQ
          have b3x := k9x.row b39 (by omega)
          refine ⟨_, _, _, _, _, b3x.all, _, rfl, h11.row.mayall, fun H12 e12 => ?_⟩
          have r12 := h11.row.fill' e12 rfl
          have k12 := k0x.sets' e12 (.inl rfl)
          exact hQ _ H12 sl ⟨M, h.write (s' := s) k12 r12 rfl⟩ (Ans.nil _) k12 fun _ => .inl
        · have hf := of_decide_eq_false hf
          have e : push s ⟨ty, tm, vals⟩ = (out (mark' s tm) (s.C ++ [⟨s.count + 1, ⟨ty, tm, vals⟩⟩]), 0, { s with count := s.count + 1, top := top' s tm, mark := mark' s tm, C := rest (mark' s tm) (s.C ++ [⟨s.count + 1, ⟨ty, tm, vals⟩⟩]) }) :=
            (if_neg hn1).trans ((if_neg hn2).trans (if_neg fun hh => hf (by rw [hl11, hl12]; exact hfull.2 hh)))
          rw [e] at hQ
          refine hQ t11 H11 sl11 ⟨M11, h11⟩ a11 k0x fun b hb => .inr ?_
          have hs8 := k08.size
          have hs9 := k89.size
          have hs10 := k10.size
          rcases hs11 b hb with h | h
          · have := htn8 b h; omega
          · omega
      · subst e
        have := rr.lt
        exact rr.ne_type (Row.new' e4) (by decide) rfl
    | succ d ih =>
      intro H5 j t hj k5 ht htn
      have r5 := k5.row h4.row (by omega)
      have hyl : j < (M.map HC.e).length := by rw [List.length_map]; omega
      have hy : (M.map HC.e)[j]? = some ((M.map HC.e)[j]) := List.getElem?_eq_getElem hyl
      generalize (M.map HC.e)[j] = y at hy
      have hwj : IntKind.i64.wrap ((j : Int) + 1) = ((j + 1 : Nat) : Int) := wr (by omega) (by omega)
      have h5 := h4.lst.kp k5 fun b hb e => by have := h.lst.lt hb; omega
      obtain ⟨a, ha, hi0, ca⟩ := h5.rd.get hy
      refine hX _ _ _ ⟨_, rfl, _, r5.cell_of (i := 2) rfl, fun _ => ⟨_, rfl, _, r5.cell_of (i := 2) rfl, a, ha, by omega, by omega, _, _, _, ca, fun H6 e6 => ?_⟩, fun hb => absurd (of_decide_eq_false hb) (by omega)⟩
      have k6 := (Kp.refl No H5).push' e6
      have s6 := size_push' e6
      have b6 : Row H6 H5.size 32 (eF.f y) := Row.new' e6
      refine (ht.kp k6 fun _ _ => id).append1 b6 rfl (by simp; omega) (by simp; omega) fun t7 H7 h7 k7 ht7 => ?_
      have sz := k5.size
      show X _ _ _
      rw [hwj]
      rw [← take_succ hy] at h7
      refine ih H7 (j + 1) t7 (by omega) ?_ h7 fun b hb => ?_
      · refine (k5.trans k6 fun _ => False.elim).trans k7 fun b hb => ?_
        have := htn b hb
        by_cases hb' : b = H3.size
        · exact .inl hb'
        · exact .inr (by omega)
      · rcases ht7 b hb with h | h
        · exact htn b h
        · omega
  refine ⟨_, b1.cell_of (i := 1) rfl, fun hb => key _ ⟨fun _ => .inl (of_decide_eq_true hb), fun _ => rfl⟩, fun hb => ⟨_, b1.cell_of (i := 1) rfl, key _ ?_⟩⟩
  have hb := of_decide_eq_false hb
  simp only [decide_eq_true_eq]
  omega

theorem maxOf_sorted {l : List NE} {x : NE} (m : Int) (hs : l.Pairwise nlt) (hx : l[l.length - 1]? = some x) : maxOf m l = if m < x.e.tm then x.e.tm else m := by
  have hle : ∀ y ∈ l, y.e.tm ≤ x.e.tm := by
    intro y hy
    obtain ⟨j, hj, rfl⟩ := List.getElem_of_mem hy
    obtain ⟨hl, rfl⟩ := List.getElem?_eq_some_iff.1 hx
    by_cases hjl : j = l.length - 1
    · subst hjl; exact Int.le_refl _
    · have := List.pairwise_iff_getElem.1 hs j (l.length - 1) hj hl (by omega)
      unfold nlt at this
      omega
  have hm : x ∈ l := List.mem_of_getElem? hx
  have a := maxOf_le l m
  have b := a.2 x hm
  rcases maxOf_mem l m with c | ⟨y, hy, c⟩
  · split <;> omega
  · have := hle y hy
    split <;> omega

theorem c28 {H : Hp} {r : Nat} {sl : Sl} {s : St} {M : List HC} {Q : Sl → Hp → Prop} (h : RL H r sl s M) (ok : s.Ok)
    (hQ : ∀ t H' sl', RA H' r sl' (flush s).2 → Ans H' t ((flush s).1.map NE.e) → Kp (fun b => b = r) H H' → (∀ b, sl'.at b → sl.at b ∨ H.size ≤ b) → Q t H') : F28 (some ⟨r, 0, none⟩) H Q := by
  have hlen := h.len ok
  have ho := out_all (m := 4611686018427387904) fun x hx => (ok.tm x hx).2
  refine c44 h ok.inc (by omega) fun t H1 sl1 h1 a1 k1 hs1 ht1 => ?_
  rw [ho.1] at a1
  rw [ho.2] at h1
  obtain ⟨M1, h1⟩ := h1
  obtain ⟨E, hE, hvE, heE⟩ := a1
  have hn := hE.n
  have hlE : E.length = (isort s.C).length := by have := congrArg List.length heE; simpa using this
  have hlM : (isort s.C).length ≤ 4096 := by
    have := (isort_perm s.C).length_eq
    have := ok.len
    have := ok.room
    omega
  have fin : ∀ H2, RL H2 r sl1 (flush s).2 M1 → Kp (fun b => b = r) H1 H2 → Q t H2 := fun H2 h2 k2 => by
    refine hQ t H2 sl1 ⟨M1, h2⟩ ⟨E, hE.kp k2 fun b hb e => hE.ne h1.row (by decide) (e ▸ hb), hvE.kp k2 fun b l e rr => rr.ne_type h1.row (by decide) e, heE⟩ (k1.trans k2 fun _ => .inl) hs1
  by_cases h0 : 0 < t.n
  · have hz : E[E.length - 1]? = some (E[E.length - 1]'(by omega)) := List.getElem?_eq_getElem (by omega)
    generalize E[E.length - 1]'(by omega) = z at hz
    obtain ⟨a, ha, hi0, ca⟩ := hE.rd.get hz
    have hw : IntKind.i64.wrap ((t.n : Int) - 1) = ((E.length - 1 : Nat) : Int) := by rw [wr (by omega) (by omega)]; omega
    have hy : ∃ y, (isort s.C)[(isort s.C).length - 1]? = some y ∧ y.e.tm = z.tm := by
      have := congrArg (fun l : List EV => l[E.length - 1]?) heE
      simp only [List.getElem?_map, hz, Option.map_some] at this
      rw [hlE] at this
      cases hg : (isort s.C)[(isort s.C).length - 1]? with
      | none => rw [hg] at this; cases this
      | some y =>
        rw [hg] at this
        injection this with this
        exact ⟨y, rfl, by rw [← this]; rfl⟩
    obtain ⟨y, hy, hyz⟩ := hy
    have hmax : maxOf s.mark s.C = if s.mark < z.tm then z.tm else s.mark := by
      rw [← maxOf_perm (isort_perm s.C) s.mark, maxOf_sorted s.mark (isort_sorted ok.dis) hy, hyz]
    refine ⟨fun _ => ?_, fun hb => absurd (of_decide_eq_false hb) (by omega)⟩
    rw [hw]
    refine ⟨a, ha, by omega, by omega, _, ca.2.1, _, rfl, _, h1.row.cell_of (i := 4) rfl, fun hb => ?_, fun hb => ?_⟩
    · have hb := of_decide_eq_true hb
      show ∃ _, _
      rw [hw]
      refine ⟨a, ha, by omega, by omega, _, ca.2.1, _, rfl, h1.row.some (i := 4) (by simp), h1.row.frz 4, fun H2 e2 => ?_⟩
      refine fin H2 (h1.write (s' := (flush s).2) ((Kp.refl (fun b => b = r) H1).set' e2 (.inl rfl)) ?_ rfl) ((Kp.refl (fun b => b = r) H1).set' e2 (.inl rfl))
      have := h1.row.set' e2
      show Row H2 r 80 [.int .i64 s.late, .int .i64 s.room, Sl.v sl1, .int .i64 s.top, .int .i64 (maxOf s.mark s.C)]
      rw [hmax, if_pos hb]
      exact this
    · have hb := of_decide_eq_false hb
      refine fin H1 (h1.write (s' := (flush s).2) (Kp.refl _ _) ?_ rfl) (Kp.refl _ _)
      show Row H1 r 80 [.int .i64 s.late, .int .i64 s.room, Sl.v sl1, .int .i64 s.top, .int .i64 (maxOf s.mark s.C)]
      rw [hmax, if_neg hb]
      exact h1.row
  · refine ⟨fun hb => absurd (of_decide_eq_true hb) (by omega), fun _ => ⟨fun hf => (by cases hf), fun _ => ?_⟩⟩
    have hC : s.C = [] := by
      have := (isort_perm s.C).length_eq
      exact List.eq_nil_of_length_eq_zero (by omega)
    refine fin H1 (h1.write (s' := (flush s).2) (Kp.refl _ _) ?_ rfl) (Kp.refl _ _)
    show Row H1 r 80 [.int .i64 s.late, .int .i64 s.room, Sl.v sl1, .int .i64 s.top, .int .i64 (maxOf s.mark s.C)]
    rw [hC]
    exact h1.row

theorem c29 {H : Hp} {r : Nat} {sl : Sl} {s : St} {M : List HC} {Q : Sl → Hp → Prop} (h : RL H r sl s M) (ok : s.Ok)
    (hQ : ∀ t H', Ans H' t ((isort s.C).map NE.e) → Kp No H H' → Q t H') : F29 (some ⟨r, 0, none⟩) H Q := by
  intro H1 e1
  have hlen := h.len ok
  have hn := h.lst.n
  rw [List.length_map] at hn
  have k1 := (Kp.refl No H).push' e1
  have s1 := size_push' e1
  have b1 := Row.new' e1
  refine ⟨b1.mayall, fun H2 e2 => ?_⟩
  have k2 := k1.sets' e2 (.inr (Nat.le_refl _))
  have s2 := size_sets' e2
  have b2 := b1.fill' e2 rfl
  intro X hX
  suffices G : ∀ (d : Nat) (H3 : Hp) (j : Nat) (N : List HC) (t : Sl), j + d = M.length → Kp No H H3 → Row H3 H.size 80 [.int .i64 0, .int .i64 0, Sl.v t, .int .i64 0, .int .i64 0] → Lst eF H3 t (N.map HC.e) → Vals H3 (N.map HC.e) → N.map HC.ne = (M.take j).map HC.ne → (∀ b, t.at b → H.size ≤ b) → X j H3 from
    G M.length H2 0 [] Sl.nil (by omega) k2 b2 (Lst.nil _ _) (fun x hx => by simp at hx) rfl (fun b hb => by cases hb)
  intro d
  induction d with
  | zero =>
    intro H3 j N t hj k3 r3 h3 hv hN htn
    rw [List.take_of_length_le (by omega), h.eq] at hN
    have g3 : RL H3 H.size t ⟨0, 0, s.count, 0, 0, s.C⟩ N := ⟨r3, h3, hv, hN⟩
    have hlN : N.length ≤ 4096 := by
      have h1 := congrArg List.length hN
      have h2 := congrArg List.length h.eq
      rw [List.length_map] at h1 h2
      omega
    have ho := out_all (m := 4611686018427387904) fun x hx => (ok.tm x hx).2
    refine hX _ _ ⟨_, rfl, _, (h.no k3).row.cell_of (i := 2) rfl, fun hb => absurd (of_decide_eq_true hb) (by omega), fun _ => c44 g3 ok.inc (by omega) fun u H4 sl4 h4 a4 k4 hs4 ht4 => ?_⟩
    rw [show (({ late := 0, room := 0, count := s.count, top := 0, mark := 0, C := s.C } : St)).C = s.C from rfl, ho.1] at a4
    exact hQ u H4 a4 (k3.trans k4 fun b hb => .inr (by omega))
  | succ d ih =>
    intro H3 j N t hj k3 r3 h3 hv hN htn
    have hx : M[j]? = some (M[j]'(by omega)) := List.getElem?_eq_getElem (by omega)
    generalize M[j]'(by omega) = x at hx
    have hxe : (M.map HC.e)[j]? = some x.e := by rw [List.getElem?_map, hx]; rfl
    have g3 := h.no k3
    obtain ⟨a, ha, hi0, ca⟩ := g3.lst.rd.get hxe
    have hxv := g3.vals x.e (List.mem_map_of_mem (List.mem_of_getElem? hx))
    refine hX _ _ ⟨_, rfl, _, g3.row.cell_of (i := 2) rfl, fun _ => ⟨_, r3.cell_of (i := 2) rfl, _, rfl, _, g3.row.cell_of (i := 2) rfl, a, ha, by omega, by omega, _, _, _, ca, c42 hxv.1.rd hxv.2 fun r4 H4 h4 k4 hr4 => ?_⟩, fun hb => absurd (of_decide_eq_false hb) (by omega)⟩
    have g4 := g3.no k4
    have r4' := k4.row r3 id
    refine ⟨g4.row.cell_of (i := 2) rfl, r4'.cell_of (i := 2) rfl, fun H5 e5 => ?_⟩
    have k5 := k4.push' e5
    have s5 := size_push' e5
    have sk4 := k4.size
    have sk3 := k3.size
    have g5 := g3.no k5
    have r5 := r4'.push' e5
    have b5 : Row H5 H4.size 32 (eF.f ⟨x.e.ty, x.e.tm, r4, x.e.vs⟩) := Row.new' e5
    have hlN : N.length = j := by
      have h1 := congrArg List.length hN
      rw [List.length_map, List.length_map, List.length_take] at h1
      omega
    refine ⟨g5.row.cell_of (i := 2) rfl, r5.cell_of (i := 2) rfl, (h3.kp k5 fun _ _ => id).append1 b5 rfl (by simp; omega) (by simp; omega) fun t6 H6 h6 k6 ht6 => ?_⟩
    have k36 : Kp t.at H3 H6 := (k5.mono fun _ _ => False.elim).trans k6 fun _ => .inl
    have k46 : Kp t.at H4 H6 := (((Kp.refl No H4).push' e5).mono fun _ _ => False.elim).trans k6 fun _ => .inl
    have k06 : Kp No H H6 := k3.trans k36 fun b hb => .inr (htn b hb)
    have g6 := h.no k06
    have r6 := k36.row r3 (fun hb => h3.ne r3 (by decide) hb)
    refine ⟨g6.row.cell_of (i := 2) rfl, r6.some (i := 2) (by simp), r6.frz 2, fun H7 e7 => ?_⟩
    have r7 := r6.set' e7
    have k67 := (Kp.refl (fun b => b = H.size) H6).set' e7 (.inl rfl)
    have n49 : ∀ b l, t.at b → ¬ Row H3 b 49 l := fun b l hb rr => h3.ne rr (by decide) hb
    show X _ _
    rw [wr (by omega) (by omega)]
    refine ih H7 (j + 1) (N ++ [⟨x.num, ⟨x.e.ty, x.e.tm, r4, x.e.vs⟩⟩]) t6 (by omega) (k06.set' e7 (.inr (Nat.le_refl _))) r7 ?_ ?_ ?_ ?_
    · rw [List.map_append]
      refine h6.kp k67 fun b hb e => h6.ne r6 (by decide) (e ▸ hb)
    · have : Vals H6 ((N ++ [(⟨x.num, ⟨x.e.ty, x.e.tm, r4, x.e.vs⟩⟩ : HC)]).map HC.e) := by
        rw [List.map_append]
        intro e he
        rcases List.mem_append.1 he with he | he
        · exact hv.kp k36 n49 e he
        · obtain rfl : e = ⟨x.e.ty, x.e.tm, r4, x.e.vs⟩ := by simpa using he
          refine ⟨h4.kp k46 fun b hb hb' => ?_, hxv.2⟩
          obtain ⟨_, rr⟩ := h4.row hb
          exact (h3.kp k4 fun _ _ => id).ne rr (by decide) hb'
      exact this.kp k67 fun b l e rr => rr.ne_type r6 (by decide) e
    · rw [take_succ hx, List.map_append, List.map_append, hN]; rfl
    · intro b hb
      rcases ht6 b hb with h | h
      · exact htn b h
      · omega

end Go.Hw
