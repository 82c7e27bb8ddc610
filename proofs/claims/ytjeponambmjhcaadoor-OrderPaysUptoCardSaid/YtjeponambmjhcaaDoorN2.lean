/- The log: find, out, held. Own work of this session. -/
import Derived.Test.YtjeponambmjhcaaDoorN1
set_option linter.unusedVariables false
namespace Go.Hw
open Go

structure WY where
  step : Nat
  tm : Int
  gone : Bool
def wF : Fmt WY 44 3 := ⟨fun w => [.int .i64 w.step, .int .i64 w.tm, .bool w.gone], fun _ => rfl, by intro x v hv; simp at hv; rcases hv with rfl | rfl | rfl <;> rfl, by decide⟩
def WY.evt (w : WY) : EV := ⟨T w.step, w.tm, []⟩
def wlt (x y : WY) : Prop := x.tm < y.tm ∨ x.tm = y.tm ∧ x.step < y.step

theorem c28 {H : Hp} {lg k : Nat} {sl : Sl} {W : List WY} {w : WY} {c1 c2 c3 c4 : Value} {Q : Int → Hp → Prop} (r : Row H lg 46 [Sl.v sl, c1, c2, c3, c4]) (h : Lst wF H sl W) (hl : W.length ≤ 1048576) (inc : W.Pairwise fun x y => x.step < y.step) (hk : W[k]? = some w) (hg : w.gone = false) (hQ : Q k H) : F28 (some ⟨lg, 0, none⟩) w.step H Q := by
  have hn := h.n
  have r0 := r.cell_of (i := 0) rfl
  have hkl := (List.getElem?_eq_some_iff.1 hk).1
  intro X hX
  suffices G : ∀ (d i : Nat), i + d = k → X i H from G k 0 (by omega)
  intro d
  induction d with
  | zero =>
    intro i hi
    obtain rfl : i = k := by omega
    obtain ⟨a, ha, hi0, ca⟩ := h.rd.get hk
    have c2 : cell H ((a.add ((i : Int).toNat * 3)).add 2) = some (.bool w.gone) := ca.2.2.1
    refine hX _ _ ⟨_, rfl, _, r0, fun _ => ⟨_, rfl, _, r0, a, ha, by omega, by omega, _, ca.1, fun _ => ⟨_, rfl, _, r0, a, ha, by omega, by omega, _, c2, ?_⟩, fun hb => absurd rfl (of_decide_eq_false hb)⟩, fun hb => absurd (of_decide_eq_false hb) (by omega)⟩
    rw [hg]
    exact ⟨fun _ => hQ, fun hf => by cases hf⟩
  | succ d ih =>
    intro i hi
    have hx : W[i]? = some (W[i]'(by omega)) := List.getElem?_eq_getElem (by omega)
    have hlt := List.pairwise_iff_getElem.1 inc i k (by omega) hkl (by omega)
    rw [(List.getElem?_eq_some_iff.1 hk).2] at hlt
    generalize W[i]'(by omega) = x at hx hlt
    obtain ⟨a, ha, hi0, ca⟩ := h.rd.get hx
    refine hX _ _ ⟨_, rfl, _, r0, fun _ => ⟨_, rfl, _, r0, a, ha, by omega, by omega, _, ca.1, fun hb => absurd (of_decide_eq_true hb) (by omega), fun _ => ⟨fun hf => (by cases hf), fun _ => ?_⟩⟩, fun hb => absurd (of_decide_eq_false hb) (by omega)⟩
    rw [wr (by omega) (by omega)]
    exact ih (i + 1) (by omega)

def WY.go (w : WY) : WY := { w with gone := true }
/-- Those of 'ws' have gone. -/
def marked (W ws : List WY) : List WY := W.map fun w => if w.step ∈ ws.map WY.step then w.go else w

theorem marked_nil (W : List WY) : marked W [] = W := by
  unfold marked
  simp

theorem marked_snoc {W ws : List WY} {w : WY} {k : Nat} (inc : W.Pairwise fun x y => x.step < y.step) (hk : W[k]? = some w) : (marked W ws).set k w.go = marked W (ws ++ [w]) := by
  obtain ⟨hkl, hkw⟩ := List.getElem?_eq_some_iff.1 hk
  apply List.ext_getElem?
  intro j
  simp only [List.getElem?_set, marked, List.getElem?_map, List.length_map]
  by_cases hj : k = j
  · subst hj
    rw [if_pos rfl, if_pos hkl, hk]
    simp
  · rw [if_neg hj]
    cases hx : W[j]? with
    | none => rfl
    | some x =>
      obtain ⟨hjl, hjx⟩ := List.getElem?_eq_some_iff.1 hx
      have hne : x.step ≠ w.step := by
        rcases Nat.lt_or_gt_of_ne hj with h | h
        · have := List.pairwise_iff_getElem.1 inc k j hkl hjl h
          rw [hkw, hjx] at this
          omega
        · have := List.pairwise_iff_getElem.1 inc j k hjl hkl h
          rw [hkw, hjx] at this
          omega
      simp [hne]

theorem marked_get {W ws : List WY} {w : WY} {k : Nat} (hk : W[k]? = some w) (hn : w.step ∉ ws.map WY.step) : (marked W ws)[k]? = some w := by
  simp only [marked, List.getElem?_map, hk, Option.map_some, if_neg hn]
theorem marked_len (W ws : List WY) : (marked W ws).length = W.length := by simp [marked]
theorem marked_inc {W ws : List WY} (inc : W.Pairwise fun x y => x.step < y.step) : (marked W ws).Pairwise fun x y => x.step < y.step := by
  unfold marked
  rw [List.pairwise_map]
  refine inc.imp fun {x y} h => ?_
  split <;> split <;> exact h

theorem wlt_trans {x y z : WY} (h : wlt x y) (k : wlt y z) : wlt x z := by unfold wlt at *; omega

theorem c15 {H : Hp} {lg : Nat} {sl es : Sl} {W ws : List WY} {E : List EC} {st tm mark : Int} {gn any : Bool} {Q : Bool → Hp → Prop} (r : Row H lg 46 [Sl.v sl, .int .i64 st, .int .i64 tm, .bool gn, .bool any]) (h : Lst wF H sl W) (hl : W.length ≤ 1048576) (hst : ∀ w ∈ W, w.step ≤ 1048576) (inc : W.Pairwise fun x y => x.step < y.step)
    (he : Lst eF H es E) (hev : E.map EC.ev = ws.map WY.evt) (hel : ws.length ≤ 1048576) (hws : ∀ w ∈ ws, w ∈ W ∧ w.gone = false) (hso : ws.Pairwise wlt) (hm : ∀ w ∈ ws, w.tm ≤ mark) (hla : any = true → ∀ w ∈ ws, ¬ (w.tm < tm ∨ w.tm = tm ∧ (w.step : Int) < st))
    (hT : ∀ H', Kp (fun b => b = lg ∨ sl.at b) H H' → TabH H')
    (hQ : ∀ H' st' tm' gn' any', Row H' lg 46 [Sl.v sl, .int .i64 st', .int .i64 tm', .bool gn', .bool any'] → Lst wF H' sl (marked W ws) → Kp (fun b => b = lg ∨ sl.at b) H H' → ((ws = [] ∧ st' = st ∧ tm' = tm ∧ any' = any) ∨ ∃ w ∈ ws, st' = w.step ∧ tm' = w.tm ∧ any' = true) → Q true H') :
    F15 (some ⟨lg, 0, none⟩) es mark H Q := by
  have hlE : E.length = ws.length := by have := congrArg List.length hev; simpa using this
  have hen := he.n
  have hWn := h.n
  have nes : ∀ b, es.at b → ¬ (b = lg ∨ sl.at b) := fun b hb h' => by
    rcases h' with h' | h'
    · exact he.ne r (by decide) (h' ▸ hb)
    · exact he.disj h (by decide) hb h'
  have nlg : ¬ sl.at lg := h.ne r (by decide)
  intro X hX
  suffices G : ∀ (d : Nat) (H1 : Hp) (i : Nat) (st1 tm1 : Int) (gn1 any1 : Bool), i + d = ws.length → Row H1 lg 46 [Sl.v sl, .int .i64 st1, .int .i64 tm1, .bool gn1, .bool any1] → Lst wF H1 sl (marked W (ws.take i)) → Kp (fun b => b = lg ∨ sl.at b) H H1 →
      ((i = 0 ∧ st1 = st ∧ tm1 = tm ∧ any1 = any) ∨ ∃ w, ws[i - 1]? = some w ∧ 0 < i ∧ st1 = w.step ∧ tm1 = w.tm ∧ any1 = true) → X i H1 from
    G ws.length H 0 st tm gn any (by omega) r (by rw [List.take_zero, marked_nil]; exact h) (Kp.refl _ _) (.inl ⟨rfl, rfl, rfl, rfl⟩)
  intro d
  induction d with
  | zero =>
    intro H1 i st1 tm1 gn1 any1 hi r1 h1 k hlast
    refine hX _ _ ⟨fun hb => absurd (of_decide_eq_true hb) (by omega), fun _ => ?_⟩
    rw [List.take_of_length_le (by omega)] at h1
    refine hQ H1 st1 tm1 gn1 any1 r1 h1 k ?_
    rcases hlast with ⟨hi0, e1, e2, e3⟩ | ⟨w, hw, _, e1, e2, e3⟩
    · exact .inl ⟨List.eq_nil_of_length_eq_zero (by omega), e1, e2, e3⟩
    · exact .inr ⟨w, List.mem_of_getElem? hw, e1, e2, e3⟩
  | succ d ih =>
    intro H1 i st1 tm1 gn1 any1 hi r1 h1 k hlast
    have hw : ws[i]? = some (ws[i]'(by omega)) := List.getElem?_eq_getElem (by omega)
    generalize ws[i]'(by omega) = w at hw
    have hx : E[i]? = some (E[i]'(by omega)) := List.getElem?_eq_getElem (by omega)
    generalize E[i]'(by omega) = x at hx
    have hxw : x.ev = w.evt := by
      have := congrArg (fun l : List EV => l[i]?) hev
      simpa only [List.getElem?_map, hx, hw, Option.map_some, Option.some.injEq] using this
    have hty : x.ty = T w.step := congrArg EV.ty hxw
    have htm : x.tm = w.tm := congrArg EV.tm hxw
    have hwm := List.mem_of_getElem? hw
    obtain ⟨hwW, hwg⟩ := hws w hwm
    obtain ⟨kk, hkk⟩ := List.getElem?_of_mem hwW
    have hkl := (List.getElem?_eq_some_iff.1 hkk).1
    have hwi := (List.getElem?_eq_some_iff.1 hw)
    have hnot : w.step ∉ (ws.take i).map WY.step := by
      intro hmem
      obtain ⟨y, hy, hys⟩ := List.mem_map.1 hmem
      obtain ⟨j, hj, rfl⟩ := List.getElem_of_mem hy
      rw [List.getElem_take] at hys
      have hji : j < i := by simp at hj; omega
      have h1 := List.pairwise_iff_getElem.1 hso j i (by omega) hwi.1 hji
      rw [hwi.2] at h1
      -- both are in W with the same step
      have hjW := (hws _ (List.getElem_mem (show j < ws.length by omega))).1
      obtain ⟨k2, hk2⟩ := List.getElem?_of_mem hjW
      have hk2l := (List.getElem?_eq_some_iff.1 hk2)
      have hkw := (List.getElem?_eq_some_iff.1 hkk)
      by_cases hkk2 : k2 = kk
      · subst hkk2
        rw [hkk] at hk2
        injection hk2 with hk2
        rw [← hk2] at h1
        unfold wlt at h1
        omega
      · rcases Nat.lt_or_gt_of_ne hkk2 with hlt | hlt
        · have := List.pairwise_iff_getElem.1 inc k2 kk hk2l.1 hkw.1 hlt
          rw [hk2l.2, hkw.2] at this
          omega
        · have := List.pairwise_iff_getElem.1 inc kk k2 hkw.1 hk2l.1 hlt
          rw [hk2l.2, hkw.2] at this
          omega
    have hmk := marked_get (ws := ws.take i) hkk hnot
    have he1 := he.kp k nes
    obtain ⟨a, ha, hi0, ca⟩ := he1.rd.get hx
    have hc0 : cell H1 (a.add ((i : Int).toNat * 3)) = some (.string (T w.step)) := by rw [← hty]; exact ca.1
    have hsw := hst w hwW
    have hstep : IntKind.i64.wrap ((i : Int) + 1) = ((i + 1 : Nat) : Int) := wr (by omega) (by omega)
    refine hX _ _ ⟨fun _ => ⟨a, ha, by omega, by omega, _, hc0, c12n (hT H1 k) (by omega) (by have := dec_len_le w.step; omega) fun H2 k2 => ?_⟩, fun hb => absurd (of_decide_eq_false hb) (by omega)⟩
    have r2 := k2.row r1 id
    have h2 := h1.kp k2 fun _ _ => id
    have he2 := he1.kp k2 fun _ _ => id
    refine c28 r2 h2 (by rw [marked_len]; exact hl) (marked_inc inc) hmk hwg ?_
    obtain ⟨a2, ha2, hk0, ck⟩ := h2.rd.get hmk
    obtain ⟨a', ha', hi0', ca'⟩ := he2.rd.get hx
    have r20 := r2.cell_of (i := 0) rfl
    have hnn := h2.n
    rw [marked_len] at hnn
    have ct : cell H2 ((a2.add ((kk : Int).toNat * 3)).add 1) = some (.int .i64 w.tm) := ck.2.1
    have cet : cell H2 ((a'.add ((i : Int).toNat * 3)).add 1) = some (.int .i64 w.tm) := by rw [← htm]; exact ca'.2.1
    have hmw := hm w hwm
    refine ⟨fun hb => absurd (of_decide_eq_true hb) (by omega), fun _ => ⟨fun hb => absurd (of_decide_eq_true hb) (by omega), fun _ => ⟨_, rfl, _, r20, a2, ha2, by omega, by omega, _, ct, a', ha', by omega, by omega, _, cet, fun hb => absurd rfl (of_decide_eq_true hb), fun _ => ⟨a', ha', by omega, by omega, _, cet, ?_⟩⟩⟩⟩
    rw [decide_eq_false (by omega)]
    refine ⟨fun hf => (by cases hf), fun _ => ⟨_, rfl, _, r20, a2, ha2, by omega, by omega, _, _, _, ck, fun H3 e3 => ?_⟩⟩
    have b3 := Row.new' e3
    have s3 := size_push' e3
    refine ⟨b3.mayall, fun H4 e4 => ?_⟩
    have b4 : Row H4 H2.size 44 [.int .i64 w.step, .int .i64 w.tm, .bool w.gone] := b3.fill' e4 rfl
    have k24 : Kp No H2 H4 := ((Kp.refl No H2).push' e3).sets' e4 (.inr (Nat.le_refl _))
    have r4 := k24.row r2 id
    have h4 := h2.kp k24 fun _ _ => id
    have k04 : Kp (fun b => b = lg ∨ sl.at b) H H4 := (k.trans k2 fun _ => False.elim).trans k24 fun _ => False.elim
    have fin : F15_3 Q X (some ⟨lg, 0, none⟩) es mark i kk ⟨H2.size, 0, none⟩ false H4 := by
      obtain ⟨a5, ha5, hat5, hk5, hsome, hfrz, hset⟩ := h4.set1 (i := kk) (c := 2) (x' := w.go) hmk (by decide) rfl
      refine ⟨fun hf => (by cases hf), fun _ => ⟨_, rfl, _, r4.cell_of (i := 0) rfl, a5, ha5, by omega, by omega, hsome, hfrz, fun H5 e5 => ?_⟩⟩
      obtain ⟨h5, k5⟩ := hset H5 e5
      rw [marked_snoc inc hkk, ← take_succ hw] at h5
      have r5 := k5.row r4 nlg
      have b5 := k5.row b4 (fun hb => by have := h2.lt hb; omega)
      refine ⟨_, _, _, b5.all, _, rfl, r5.mayw (o := 1) (i := 0) (by simp), fun H6 e6 => ?_⟩
      have r6 := r5.sets' (oo := 1) e6 (by simp)
      have k6 := (Kp.refl (fun b => b = lg) H5).sets' e6 (.inl rfl)
      refine ⟨_, rfl, r6.some (i := 4) (by simp [over]), r6.frz 4, fun H7 e7 => ?_⟩
      have r7 := r6.set' e7
      have k7 := k6.set' e7 (.inl rfl)
      have h7 := h5.kp k7 fun b hb e => nlg (e ▸ hb)
      rw [hstep]
      exact ih H7 (i + 1) w.step w.tm w.gone true (by omega) r7 h7 ((k04.trans k5 fun b hb => .inl (.inr hb)).trans k7 fun b hb => .inl (.inl hb)) (.inr ⟨w, hw, by omega, rfl, rfl, rfl⟩)
    refine ⟨_, rfl, _, r4.cell_of (i := 4) rfl, fun hany => ?_, fun _ => fin⟩
    have hord : ¬ (w.tm < tm1 ∨ w.tm = tm1 ∧ (w.step : Int) < st1) := by
      rcases hlast with ⟨hi0, e1, e2, e3⟩ | ⟨w', hw', hi0, e1, e2, e3⟩
      · rw [e1, e2]
        exact hla (e3 ▸ hany) w hwm
      · have hw'l := List.getElem?_eq_some_iff.1 hw'
        have := List.pairwise_iff_getElem.1 hso (i - 1) i hw'l.1 hwi.1 (by omega)
        rw [hw'l.2, hwi.2] at this
        unfold wlt at this
        omega
    refine ⟨_, b4.cell_of (i := 1) rfl, _, rfl, _, r4.cell_of (i := 2) rfl, fun hlt => absurd (.inl (of_decide_eq_true hlt)) hord, fun _ => ⟨_, b4.cell_of (i := 1) rfl, _, rfl, _, r4.cell_of (i := 2) rfl, fun heq => ⟨_, b4.cell_of (i := 0) rfl, _, rfl, _, r4.cell_of (i := 1) rfl, ?_⟩, fun _ => fin⟩⟩
    have heq := of_decide_eq_true heq
    rw [decide_eq_false (fun h => hord (.inr ⟨heq, h⟩))]
    exact fin

theorem filter_take_count {W : List WY} {j : Nat} {x : WY} (hx : W[j]? = some x) : ((W.take (j + 1)).filter fun w => !w.gone).length = ((W.take j).filter fun w => !w.gone).length + (if x.gone then 0 else 1) := by
  rw [take_succ hx, List.filter_append, List.length_append]
  congr 1
  cases hg : x.gone <;> simp [hg]

theorem c17 {H : Hp} {lg : Nat} {sl es : Sl} {W ws : List WY} {E : List EC} {mark : Int} {c1 c2 c3 c4 : Value} {Q : Bool → Hp → Prop} (r : Row H lg 46 [Sl.v sl, c1, c2, c3, c4]) (h : Lst wF H sl W) (hl : W.length ≤ 1048576) (hst : ∀ w ∈ W, w.step ≤ 1048576) (inc : W.Pairwise fun x y => x.step < y.step)
    (he : Lst eF H es E) (hev : E.map EC.ev = ws.map WY.evt) (hel : ws.length ≤ 1048576) (hcnt : (W.filter fun w => !w.gone).length = ws.length) (hws : ∀ w ∈ ws, w ∈ W ∧ w.gone = false) (hso : ws.Pairwise wlt) (hm : ∀ w ∈ ws, mark < w.tm) (hT : ∀ H', Kp No H H' → TabH H')
    (hQ : ∀ H', Kp No H H' → Q true H') : F17 (some ⟨lg, 0, none⟩) es mark H Q := by
  have hlE : E.length = ws.length := by have := congrArg List.length hev; simpa using this
  have hen := he.n
  have hWn := h.n
  have r0 := r.cell_of (i := 0) rfl
  have second : F17_L4 Q (some ⟨lg, 0, none⟩) es mark 0 H := by
    intro X hX
    suffices G : ∀ (d : Nat) (H1 : Hp) (i : Nat), i + d = ws.length → Kp No H H1 → X i H1 from G ws.length H 0 (by omega) (Kp.refl _ _)
    intro d
    induction d with
    | zero => exact fun H1 i hi k => hX _ _ ⟨fun hb => absurd (of_decide_eq_true hb) (by omega), fun _ => hQ H1 k⟩
    | succ d ih =>
      intro H1 i hi k
      have get : ∀ j, j < ws.length → ∃ w x, ws[j]? = some w ∧ E[j]? = some x ∧ x.ty = T w.step ∧ x.tm = w.tm := fun j hj => by
        have hw : ws[j]? = some (ws[j]'hj) := List.getElem?_eq_getElem hj
        have hx : E[j]? = some (E[j]'(by omega)) := List.getElem?_eq_getElem (by omega)
        have hxw : (E[j]'(by omega)).ev = (ws[j]'hj).evt := by
          have := congrArg (fun l : List EV => l[j]?) hev
          simpa only [List.getElem?_map, hx, hw, Option.map_some, Option.some.injEq] using this
        exact ⟨_, _, hw, hx, congrArg EV.ty hxw, congrArg EV.tm hxw⟩
      obtain ⟨w, x, hw, hx, hty, htm⟩ := get i (by omega)
      have hwm := List.mem_of_getElem? hw
      obtain ⟨hwW, hwg⟩ := hws w hwm
      obtain ⟨kk, hkk⟩ := List.getElem?_of_mem hwW
      have hkl := (List.getElem?_eq_some_iff.1 hkk).1
      have hsw := hst w hwW
      have hmw := hm w hwm
      obtain ⟨a, ha, hi0, ca⟩ := (he.kp k fun _ _ => id).rd.get hx
      have hc0 : cell H1 (a.add ((i : Int).toNat * 3)) = some (.string (T w.step)) := by rw [← hty]; exact ca.1
      have hstep : IntKind.i64.wrap ((i : Int) + 1) = ((i + 1 : Nat) : Int) := wr (by omega) (by omega)
      refine hX _ _ ⟨fun _ => ⟨a, ha, by omega, by omega, _, hc0, c12n (hT H1 k) (by omega) (by have := dec_len_le w.step; omega) fun H2 k2 => ?_⟩, fun hb => absurd (of_decide_eq_false hb) (by omega)⟩
      have k02 := k.trans k2 fun _ => False.elim
      have r2 := k02.row r id
      have h2 := h.kp k02 fun _ _ => id
      have he2 := he.kp k02 fun _ _ => id
      refine c28 r2 h2 hl inc hkk hwg ?_
      obtain ⟨a2, ha2, hk0, ck⟩ := h2.rd.get hkk
      obtain ⟨a', ha', hi0', ca'⟩ := he2.rd.get hx
      have ct : cell H2 ((a2.add ((kk : Int).toNat * 3)).add 1) = some (.int .i64 w.tm) := ck.2.1
      have cet : cell H2 ((a'.add ((i : Int).toNat * 3)).add 1) = some (.int .i64 w.tm) := by rw [← htm]; exact ca'.2.1
      refine ⟨fun hb => absurd (of_decide_eq_true hb) (by omega), fun _ => ⟨fun hb => absurd (of_decide_eq_true hb) (by omega), fun _ => ⟨_, rfl, _, r2.cell_of (i := 0) rfl, a2, ha2, by omega, by omega, _, ct, a', ha', by omega, by omega, _, cet, fun hb => absurd rfl (of_decide_eq_true hb), fun _ => ⟨a', ha', by omega, by omega, _, cet, ?_⟩⟩⟩⟩
      rw [decide_eq_false (by omega)]
      refine ⟨fun hf => (by cases hf), fun _ => ⟨fun hpos => ?_, fun _ => ?_⟩⟩
      · have hpos := of_decide_eq_true hpos
        obtain ⟨w', x', hw', hx', hty', htm'⟩ := get (i - 1) (by omega)
        have hsw' := hst w' (hws w' (List.mem_of_getElem? hw')).1
        have hwp : IntKind.i64.wrap ((i : Int) - 1) = ((i - 1 : Nat) : Int) := by rw [wr (by omega) (by omega)]; omega
        rw [hwp]
        obtain ⟨a3, ha3, hi3, ca3⟩ := he2.rd.get hx'
        have hc3 : cell H2 (a3.add (((i - 1 : Nat) : Int).toNat * 3)) = some (.string (T w'.step)) := by rw [← hty']; exact ca3.1
        have hord : wlt w' w := by
          have hw1 := List.getElem?_eq_some_iff.1 hw'
          have hw2 := List.getElem?_eq_some_iff.1 hw
          have := List.pairwise_iff_getElem.1 hso (i - 1) i hw1.1 hw2.1 (by omega)
          rw [hw1.2, hw2.2] at this
          exact this
        refine ⟨a3, ha3, by omega, by omega, _, hc3, c12n (hT H2 k02) (by omega) (by have := dec_len_le w'.step; omega) fun H3 k3 => ?_⟩
        have he3 := he2.kp k3 fun _ _ => id
        obtain ⟨a4, ha4, hi4, ca4⟩ := he3.rd.get hx
        obtain ⟨a5, ha5, hi5, ca5⟩ := he3.rd.get hx'
        have t4 : cell H3 ((a4.add ((i : Int).toNat * 3)).add 1) = some (.int .i64 w.tm) := by rw [← htm]; exact ca4.2.1
        have t5 : cell H3 ((a5.add (((i - 1 : Nat) : Int).toNat * 3)).add 1) = some (.int .i64 w'.tm) := by rw [← htm']; exact ca5.2.1
        have k03 := k02.trans k3 fun _ => False.elim
        have fin : F17_7 Q X (some ⟨lg, 0, none⟩) es mark i false H3 := by
          refine ⟨fun hf => (by cases hf), fun _ => ?_⟩
          show X _ _
          rw [hstep]
          exact ih H3 (i + 1) (by omega) k03
        refine ⟨a4, ha4, by omega, by omega, _, t4, a5, ha5, by omega, by omega, _, t5, fun hb => absurd (of_decide_eq_true hb) (by unfold wlt at hord; omega), fun _ => ⟨a4, ha4, by omega, by omega, _, t4, a5, ha5, by omega, by omega, _, t5, fun heq => ?_, fun _ => fin⟩⟩
        have heq := of_decide_eq_true heq
        rw [decide_eq_false (by unfold wlt at hord; omega)]
        exact fin
      · show X _ _
        rw [hstep]
        exact ih H2 (i + 1) (by omega) k02
  intro X hX
  suffices G : ∀ (d i : Nat), i + d = W.length → X (((W.take i).filter fun w => !w.gone).length : Int) i H from G W.length 0 (by omega)
  intro d
  induction d with
  | zero =>
    intro i hi
    rw [List.take_of_length_le (by omega), hcnt]
    refine hX _ _ _ ⟨_, rfl, _, r0, fun hb => absurd (of_decide_eq_true hb) (by omega), fun _ => ⟨fun hb => absurd (of_decide_eq_true hb) (by omega), fun _ => second⟩⟩
  | succ d ih =>
    intro i hi
    have hx : W[i]? = some (W[i]'(by omega)) := List.getElem?_eq_getElem (by omega)
    generalize W[i]'(by omega) = x at hx
    obtain ⟨a, ha, hi0, ca⟩ := h.rd.get hx
    have cg : cell H ((a.add ((i : Int).toNat * 3)).add 2) = some (.bool x.gone) := ca.2.2.1
    have hc := filter_take_count hx
    have hle : ((W.take i).filter fun w => !w.gone).length ≤ i := Nat.le_trans (List.length_filter_le ..) (by simp; omega)
    have ih' := ih (i + 1) (by omega)
    rw [hc] at ih'
    have hstep : IntKind.i64.wrap ((i : Int) + 1) = ((i + 1 : Nat) : Int) := wr (by omega) (by omega)
    refine hX _ _ _ ⟨_, rfl, _, r0, fun _ => ⟨_, rfl, _, r0, a, ha, by omega, by omega, _, cg, fun hg => ?_, fun hg => ?_⟩, fun hb => absurd (of_decide_eq_false hb) (by omega)⟩
    · have hg : x.gone = false := by simpa using hg
      rw [hg] at ih'
      show X _ _ _
      rw [hstep, wr (by omega) (by omega)]
      exact ih'
    · have hg : x.gone = true := by simpa using hg
      rw [hg] at ih'
      show X _ _ _
      rw [hstep]
      exact ih'

end Go.Hw
