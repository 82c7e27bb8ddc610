/- Contracts: the program's gate, its calls. Own work of this session. -/
import Derived.Test.YtjeponambmjhcaaDoorC4
set_option linter.unusedVariables false
namespace Go.Hw
open Go

theorem PL.no {H H' : Hp} {g hb : Nat} {sl : Sl} {s : St} {L : List HC} (h : PL H g hb sl s L) (k : Kp No H H') : PL H' g hb sl s L := h.kp k (fun _ _ => id) (fun _ _ => False.elim)

theorem take_succ {α : Type} {L : List α} {i : Nat} {x : α} (hx : L[i]? = some x) : L.take (i + 1) = L.take i ++ [x] := by
  rw [List.take_add_one, hx]; rfl

theorem c40 {H : Hp} {g hb : Nat} {sl : Sl} {s : St} {L : List HC} {m : Int} {Q : Int → Hp → Prop} (h : PL H g hb sl s L) (hl : L.length ≤ 1048576) (hQ : ∀ H', Kp No H H' → Q ((rest m s.C).length : Int) H') : F21 (some ⟨g, 0, none⟩) m H Q := by
  have hn := h.lst.n
  refine ⟨_, rfl, _, h.row.cell_of (i := 5) rfl, _, rfl, _, h.hrow.cell_of (i := 0) rfl, fun X hX => ?_⟩
  suffices G : ∀ (d : Nat) (H1 : Hp) (i : Nat), i + d = L.length → Kp No H H1 → X (((L.take i).filter fun x => decide (m < x.e.tm)).length : Int) i H1 from G L.length H 0 (by omega) (Kp.refl _ _)
  intro d
  induction d with
  | zero =>
    intro H1 i hi k
    refine hX _ _ _ ⟨fun hb => absurd (of_decide_eq_true hb) (by omega), fun _ => ?_⟩
    have e : ((L.take i).filter fun x => decide (m < x.e.tm)).length = (rest m s.C).length := by
      rw [List.take_of_length_le (by omega), rest, ← (h.perm.filter _).length_eq, List.filter_map, List.length_map]
      rfl
    rw [e]
    exact hQ H1 k
  | succ d ih =>
    intro H1 i hi k
    refine hX _ _ _ ⟨fun _ => ?_, fun hb => absurd (of_decide_eq_false hb) (by omega)⟩
    have hx : L[i]? = some (L[i]'(by omega)) := List.getElem?_eq_getElem (by omega)
    generalize L[i]'(by omega) = x at hx
    have h1 := h.lst.kp k fun _ _ => id
    obtain ⟨a, ha, hi0, ca⟩ := h1.rd.get hx
    refine ⟨a, ha, by omega, by omega, _, _, _, _, ca, fun H2 e2 => ?_⟩
    have k2 := k.push' e2
    have b2 := Row.new' e2
    refine ⟨b2.mayall, fun H3 e3 => ?_⟩
    have k3 := k2.sets' e3 (.inr k.size)
    have b3 := b2.fill' e3 rfl
    have hlen : ((L.take i).filter fun x => decide (m < x.e.tm)).length ≤ i := Nat.le_trans (List.length_filter_le ..) (by simp; omega)
    have ih' := ih H3 (i + 1) (by omega) k3
    rw [take_succ hx, List.filter_append] at ih'
    refine ⟨_, b3.cell_of (i := 2) rfl, fun hq => ?_, fun hq => ?_⟩
    · have hq := of_decide_eq_true hq
      rw [List.filter_cons, if_pos (by simpa using hq), List.filter_nil, List.length_append] at ih'
      show X _ _ _
      rw [wr (by omega) (by omega), wr (by omega) (by omega)]
      exact ih'
    · have hq := of_decide_eq_false hq
      rw [List.filter_cons, if_neg (by simpa using hq), List.filter_nil, List.append_nil] at ih'
      show X _ _ _
      rw [wr (by omega) (by omega)]
      exact ih'

theorem St.Ok.snoc {s : St} (h : s.Ok) (e : EV) : (s.C ++ [(⟨s.count + 1, e⟩ : NE)]).Pairwise Hw.dis := by
  rw [List.pairwise_append]
  refine ⟨h.dis, List.pairwise_singleton _ _, fun x hx y hy => ?_⟩
  rw [List.mem_singleton] at hy
  subst hy
  have := h.num x hx
  unfold Hw.dis
  show x.num ≠ s.count + 1
  omega

theorem c23x {H : Hp} {g hb : Nat} {sl : Sl} {s : St} {L : List HC} {ty : ByteArray} {tm : Int} {vs : Sl} {vals : List VT} {Q : Sl → Int → Hp → Prop} (h : PL H g hb sl s L) (ok : s.Ok) (hc : s.count ≤ 9223372036854775800) (hv : RdL vF H vs vals) (hvg : ∀ a, vs.b = some a → a.block ≠ g) (hvl : vals.length ≤ 1048576)
    (hQ : ∀ r H' sl' L' O N, PL H' g hb sl' (push s ⟨ty, tm, vals⟩).2.2 L' → Lst eF H' r (O.map HC.e) → Vals H' (O.map HC.e) → (O.map HC.e).map EC.ev = (push s ⟨ty, tm, vals⟩).1.map NE.e → (O ++ L').Perm (L ++ N) → (N = [] ∨ ∃ x, N = [x] ∧ ∀ b, x.e.sl.at b → H.size ≤ b) →
      Kp (fp g hb sl) H H' → (∀ b, sl'.at b → sl.at b ∨ H.size ≤ b) → (∀ b, r.at b → H.size ≤ b) → Q r (push s ⟨ty, tm, vals⟩).2.1 H') : F7 (some ⟨g, 0, none⟩) ty tm vs H Q := by
  intro H1 e1
  have k1 := (Kp.refl No H).push' e1
  have s1 := size_push' e1
  have b1 := Row.new' e1
  have hgl := h.row.lt
  have hlen := h.len ok
  have key2 : ∀ (b : Bool) (H2 : Hp), Kp No H1 H2 → ¬ (tm < 0 ∨ 4611686018427387904 < tm) → ¬ tm < s.mark → (b = true ↔ (mark' s tm < tm ∧ s.room ≤ ((rest (mark' s tm) s.C).length : Int))) → F7_2 Q (some ⟨g, 0, none⟩) ⟨H.size, 0, none⟩ (top' s tm) (mark' s tm) b H2 := by
    intro b H2 k2 hn1 hn2 hbb
    have k12 := k1.trans k2 fun _ => False.elim
    refine ⟨fun hb' => ?_, fun hb' => ?_⟩
    · have e : push s ⟨ty, tm, vals⟩ = ([], 4, s) := (if_neg hn1).trans ((if_neg hn2).trans (if_pos (hbb.1 hb')))
      rw [e] at hQ
      exact hQ _ H2 sl L [] [] (h.no k12) (Lst.nil _ _) (fun x hx => by simp at hx) rfl (by simp) (.inl rfl) (k12.mono fun _ _ => False.elim) (fun _ => .inl) (fun b hb => by cases hb)
    · have e : push s ⟨ty, tm, vals⟩ = (out (mark' s tm) (s.C ++ [⟨s.count + 1, ⟨ty, tm, vals⟩⟩]), 0, { s with count := s.count + 1, top := top' s tm, mark := mark' s tm, C := rest (mark' s tm) (s.C ++ [⟨s.count + 1, ⟨ty, tm, vals⟩⟩]) }) :=
        (if_neg hn1).trans ((if_neg hn2).trans (if_neg fun h => by rw [hbb.2 h] at hb'; cases hb'))
      rw [e] at hQ
      have h2 := h.no k12
      refine ⟨_, rfl, h2.row.some (i := 3) (by simp), h2.row.frz 3, fun H3 e3 => ?_⟩
      have r3 := h2.row.set' e3
      refine ⟨_, rfl, r3.some (i := 4) (by simp), r3.frz 4, fun H4 e4 => ?_⟩
      have r4 := r3.set' e4
      refine ⟨_, rfl, _, r4.cell_of (i := 2) rfl, _, rfl, r4.some (i := 2) (by simp), r4.frz 2, fun H5 e5 => ?_⟩
      have r5 := r4.set' e5
      have hcw : IntKind.i64.wrap (s.count + 1) = s.count + 1 := wr (by have := ok.count; omega) (by omega)
      rw [hcw] at r5
      have k5 := (((Kp.refl (fun b => b = g) H2).set' e3 (.inl rfl)).set' e4 (.inl rfl)).set' e5 (.inl rfl)
      have h5 : PL H5 g hb sl { s with count := s.count + 1, top := top' s tm, mark := mark' s tm } L := h2.write (s' := { s with count := s.count + 1, top := top' s tm, mark := mark' s tm }) k5 r5 rfl
      have b5 := k5.row (k2.row b1 id) (by omega)
      have k05 : Kp (fun b => b = g) H H5 := (k12.mono (T := fun b => b = g) fun _ _ => False.elim).trans k5 fun _ => .inl
      have hv5 : RdL vF H5 vs vals := hv.kp k05 fun a ha hg => hvg a ha hg
      refine ⟨_, rfl, _, h5.row.cell_of (i := 5) rfl, _, rfl, _, h5.row.cell_of (i := 2) rfl, _, _, _, b5.all, c35 hv5 hvl fun r H6 h6 k6 hr6 => ?_⟩
      have h6g := h5.no k6
      refine ⟨h6g.row.cell_of (i := 2) rfl, h6g.row.cell_of (i := 5) rfl, c41 (x := ⟨s.count + 1, ⟨ty, tm, r, vals⟩⟩) h6g.hrow h6g.lst (by omega) h6g.heap fun H7 sl7 L7 hp7 hh7 hr7 h7 k7 hs7 => ?_⟩
      have r7 := k7.row h6g.row (fun h' => h'.elim (h6g.row.ne_type h6g.hrow (by decide)) (h6g.lst.ne h6g.row (by decide)))
      have n49 : ∀ b l, (b = hb ∨ sl.at b) → ¬ Row H6 b 76 l := fun b l hb => h6g.not49 b l (.inr hb)
      have v7 : Vals H7 (L7.map HC.e) := by
        intro e he
        obtain ⟨x, hx, rfl⟩ := List.mem_map.1 he
        have : x ∈ L ∨ x = ⟨s.count + 1, ⟨ty, tm, r, vals⟩⟩ := by simpa using hp7.subset hx
        rcases this with hx | rfl
        · exact h6g.vals.kp k7 n49 _ (List.mem_map_of_mem hx)
        · refine ⟨h6.kp k7 fun b hb hS => ?_, hvl⟩
          obtain ⟨_, rr⟩ := h6.row hb
          exact n49 b _ hS rr
      have pl7 : PL H7 g hb sl7 { s with count := s.count + 1, top := top' s tm, mark := mark' s tm, C := s.C ++ [⟨s.count + 1, ⟨ty, tm, vals⟩⟩] } L7 :=
        ⟨r7, hr7, h7, hh7, v7, (hp7.map HC.ne).trans (by rw [List.map_append]; exact h.perm.append_right _)⟩
      refine ⟨r7.cell_of (i := 2) rfl, c37x pl7 (ok.snoc _) (by have := hp7.length_eq; simp at this; omega) fun r8 H8 sl8 L8 O8 h8 a8 v8 e8 hp8 k8 hs8 hr8 => ?_⟩
      have s5 := k05.size
      have s6 := k6.size
      have s7 := k7.size
      have hs : ∀ b, sl7.at b → sl.at b ∨ H.size ≤ b := fun b hb => (hs7 b hb).imp id (by omega)
      refine hQ r8 H8 sl8 L8 O8 [⟨s.count + 1, ⟨ty, tm, r, vals⟩⟩] h8 a8 v8 e8 (hp8.trans hp7) (.inr ⟨_, rfl, fun b hb => by have := hr6 b hb; omega⟩) ?_ (fun b hb => hs b (hs8 b hb)) (fun b hb => by have := hr8 b hb; omega)
      refine (((k05.mono (T := fp g hb sl) fun b _ e => .inl e).trans k6 fun _ => False.elim).trans k7 fun b hb => .inl (.inr hb)).trans k8 fun b hb => ?_
      rcases hb with hb | hb
      · exact .inl (.inr (.inl hb))
      · exact (hs b hb).imp (fun h => .inr (.inr h)) id
  have key : ∀ b, (b = true ↔ (tm < 0 ∨ 4611686018427387904 < tm)) → F7_1 Q (some ⟨g, 0, none⟩) ⟨H.size, 0, none⟩ b H1 := by
    intro b hbb
    have h1 := h.no k1
    refine ⟨fun hb' => ?_, fun hb' => ?_⟩
    · have e : push s ⟨ty, tm, vals⟩ = ([], 23, s) := if_pos (hbb.1 hb')
      rw [e] at hQ
      exact hQ _ H1 sl L [] [] h1 (Lst.nil _ _) (fun x hx => by simp at hx) rfl (by simp) (.inl rfl) (k1.mono fun _ _ => False.elim) (fun _ => .inl) (fun b hb => by cases hb)
    · have hn1 : ¬ (tm < 0 ∨ 4611686018427387904 < tm) := fun h => by rw [hbb.2 h] at hb'; cases hb'
      refine ⟨_, b1.cell_of (i := 1) rfl, _, rfl, _, h1.row.cell_of (i := 4) rfl, fun hq => ?_, fun hq => ?_⟩
      · have e : push s ⟨ty, tm, vals⟩ = ([], 180, s) := (if_neg hn1).trans (if_pos (of_decide_eq_true hq))
        rw [e] at hQ
        exact hQ _ H1 sl L [] [] h1 (Lst.nil _ _) (fun x hx => by simp at hx) rfl (by simp) (.inl rfl) (k1.mono fun _ _ => False.elim) (fun _ => .inl) (fun b hb => by cases hb)
      · have hn2 := of_decide_eq_false hq
        have hrl : (rest (mark' s tm) s.C).length ≤ L.length := by
          have := rest_len (mark' s tm) s.C
          have := h.perm.length_eq
          rw [List.length_map] at this
          omega
        have hn := h1.lst.n
        refine ⟨_, b1.cell_of (i := 1) rfl, c39 h1 ⟨_, b1.cell_of (i := 1) rfl, fun hm => ?_, fun hm => ?_⟩⟩
        · have hm := of_decide_eq_true hm
          refine ⟨_, rfl, _, h1.row.cell_of (i := 5) rfl, _, rfl, _, h1.hrow.cell_of (i := 0) rfl, _, rfl, _, h1.row.cell_of (i := 1) rfl, fun hf => ?_, fun hf => ?_⟩
          · refine ⟨_, rfl, _, h1.row.cell_of (i := 1) rfl, c40 h1 (by omega) fun H2 k2 => ?_⟩
            have h2 := h1.no k2
            refine ⟨h2.row.cell_of (i := 1) rfl, h2.row.cell_of (i := 1) rfl, h2.hrow.cell_of (i := 0) rfl, h2.row.cell_of (i := 5) rfl, (k2.row b1 id).cell_of (i := 1) rfl, ?_⟩
            exact key2 _ H2 k2 hn1 hn2 ⟨fun h => ⟨hm, of_decide_eq_true h⟩, fun h => decide_eq_true h.2⟩
          · have hf := of_decide_eq_false hf
            exact key2 _ H1 (Kp.refl _ _) hn1 hn2 ⟨fun h => absurd h (by decide), fun h => by omega⟩
        · have hm := of_decide_eq_false hm
          exact key2 _ H1 (Kp.refl _ _) hn1 hn2 ⟨fun h => absurd h (by decide), fun h => absurd h.1 hm⟩
  refine ⟨_, b1.cell_of (i := 1) rfl, fun hb => key _ ⟨fun _ => .inl (of_decide_eq_true hb), fun _ => rfl⟩, fun hb => ⟨_, b1.cell_of (i := 1) rfl, key _ ?_⟩⟩
  have hb := of_decide_eq_false hb
  simp only [decide_eq_true_eq]
  omega

theorem c23 {H : Hp} {g hb : Nat} {sl : Sl} {s : St} {L : List HC} {ty : ByteArray} {tm : Int} {vs : Sl} {vals : List VT} {Q : Sl → Int → Hp → Prop} (h : PL H g hb sl s L) (ok : s.Ok) (hc : s.count ≤ 9223372036854775800) (hv : RdL vF H vs vals) (hvg : ∀ a, vs.b = some a → a.block ≠ g) (hvl : vals.length ≤ 1048576)
    (hQ : ∀ r H' sl', PA H' g hb sl' (push s ⟨ty, tm, vals⟩).2.2 → Ans H' r ((push s ⟨ty, tm, vals⟩).1.map NE.e) → Kp (fp g hb sl) H H' → (∀ b, sl'.at b → sl.at b ∨ H.size ≤ b) → (∀ b, r.at b → H.size ≤ b) → Q r (push s ⟨ty, tm, vals⟩).2.1 H') : F7 (some ⟨g, 0, none⟩) ty tm vs H Q :=
  c23x h ok hc hv hvg hvl fun r H' sl' L' O N h1 h2 h3 h4 _ _ k hs hr => hQ r H' sl' ⟨L', h1⟩ ⟨_, h2, h3, h4⟩ k hs hr

end Go.Hw
