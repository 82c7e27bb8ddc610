/- Contracts: comparing, a step. Own work of this session. -/
import Derived.Test.YtjeponambmjhcaaC9
set_option linter.unusedVariables false
namespace Go.Hw
open Go

theorem seq_refl (x : ByteArray) : seq x x = true := by simp [seq]

theorem c14 {ta tb : ByteArray} {ma mb : Int} {sa sb : Sl} {va vb : List VT} {H : Hp} {Q : Bool → Hp → Prop} (ha : RdL vF H sa va) (hb : RdL vF H sb vb) (hl : va.length ≤ 1048576) (e : (⟨ta, ma, va⟩ : EV) = ⟨tb, mb, vb⟩)
    (hQ : ∀ H', Kp No H H' → Q true H') : F14 ta ma sa tb mb sb H Q := by
  injection e with e1 e2 e3
  subst e1 e2 e3
  intro H1 e1 H3 e3
  have k3 := ((Kp.refl No H).push' e1).push' e3
  have r1 := (Row.new' e1).push' e3
  have r3 := Row.new' e3
  have ha3 := ha.kp0 k3
  have hb3 := hb.kp0 k3
  have hna := ha3.n
  have hnb := hb3.n
  have key : F14_1 Q ⟨H.size, 0, none⟩ ⟨H1.size, 0, none⟩ false H3 := by
    refine ⟨fun h => (by cases h), fun _ => ?_⟩
    intro X hX
    suffices G : ∀ (d i : Nat), i + d = va.length → X i H3 from G va.length 0 (by omega)
    intro d
    induction d with
    | zero => exact fun i hi => hX _ _ ⟨_, r1.cell_of (i := 2) rfl, fun hb => absurd (of_decide_eq_true hb) (by omega), fun _ => hQ H3 k3⟩
    | succ d ih =>
      intro i hi
      have hx : va[i]? = some (va[i]'(by omega)) := List.getElem?_eq_getElem (by omega)
      generalize va[i]'(by omega) = x at hx
      obtain ⟨a, haa, hi0, ca⟩ := ha3.get hx
      obtain ⟨a', haa', hi0', ca'⟩ := hb3.get hx
      refine hX _ _ ⟨_, r1.cell_of (i := 2) rfl, fun _ => ⟨_, r1.cell_of (i := 2) rfl, a, haa, by omega, by omega, _, _, _, _, ca, _, r3.cell_of (i := 2) rfl, a', haa', by omega, by omega, _, _, _, _, ca', fun hq => ?_, fun _ => ?_⟩, fun hb => absurd (of_decide_eq_false hb) (by omega)⟩
      · simp [seq_refl] at hq
      · rw [wr (by omega) (by omega)]
        exact ih (i + 1) (by omega)
  refine ⟨_, r1.cell_of (i := 0) rfl, _, r3.cell_of (i := 0) rfl, fun h => by simp [seq_refl] at h, fun _ => ⟨_, r1.cell_of (i := 1) rfl, _, r3.cell_of (i := 1) rfl, fun h => by simp at h, fun _ => ⟨_, r1.cell_of (i := 2) rfl, _, r3.cell_of (i := 2) rfl, ?_⟩⟩⟩
  rw [decide_eq_false (by omega)]
  exact key

theorem c12 {p q : Sl} {E G : List EC} {H : Hp} {Q : Bool → Hp → Prop} (hp : RdL eF H p E) (hq : RdL eF H q G) (vp : Vals H E) (vq : Vals H G) (hl : E.length ≤ 1048576) (e : E.map EC.ev = G.map EC.ev) (hQ : ∀ H', Kp No H H' → Q true H') : F12 p q H Q := by
  have hnp := hp.n
  have hnq := hq.n
  have hll := congrArg List.length e
  rw [List.length_map, List.length_map] at hll
  refine ⟨fun h => absurd (of_decide_eq_true h) (by omega), fun _ => ?_⟩
  intro X hX
  suffices GG : ∀ (d i : Nat) (H1 : Hp), i + d = E.length → Kp No H H1 → X i H1 from GG E.length 0 H (by omega) (Kp.refl _ _)
  intro d
  induction d with
  | zero => exact fun i H1 hi k => hX _ _ ⟨fun hb => absurd (of_decide_eq_true hb) (by omega), fun _ => hQ H1 k⟩
  | succ d ih =>
    intro i H1 hi k
    have hx : E[i]? = some (E[i]'(by omega)) := List.getElem?_eq_getElem (by omega)
    generalize E[i]'(by omega) = x at hx
    have hy : G[i]? = some (G[i]'(by omega)) := List.getElem?_eq_getElem (by omega)
    generalize G[i]'(by omega) = y at hy
    obtain ⟨a, haa, hi0, ca⟩ := (hp.kp0 k).get hx
    obtain ⟨a', haa', hi0', ca'⟩ := (hq.kp0 k).get hy
    have hxy : x.ev = y.ev := by
      have := congrArg (fun l : List EV => l[i]?) e
      simpa only [List.getElem?_map, hx, hy, Option.map_some, Option.some.injEq] using this
    have vx := vp x (List.mem_of_getElem? hx)
    have vy := vq y (List.mem_of_getElem? hy)
    refine hX _ _ ⟨fun _ => ⟨a, haa, by omega, by omega, _, _, _, ca, a', haa', by omega, by omega, _, _, _, ca', c14 (vx.1.rd.kp0 k) (vy.1.rd.kp0 k) vx.2 hxy fun H2 k2 => ⟨fun h => (by cases h), fun _ => ?_⟩⟩, fun hb => absurd (of_decide_eq_false hb) (by omega)⟩
    rw [wr (by omega) (by omega)]
    exact ih (i + 1) H2 (by omega) (k.trans k2 fun _ => False.elim)

theorem lists_ok {p q : Sl} {R : List EV} {H : Hp} {Q : Bool → Hp → Prop} (hp : Ans H p R) (hq : Ans H q R) (hl : R.length ≤ 1048576) (hQ : ∀ H', Kp No H H' → Q true H') : F12 p q H Q := by
  obtain ⟨E, h1, h2, h3⟩ := hp
  obtain ⟨G, g1, g2, g3⟩ := hq
  exact c12 h1.rd g1.rd h2 g2 (by rw [← List.length_map (f := EC.ev), h3]; exact hl) (h3.trans g3.symm) hQ

/-! ## a pair of gates -/
def GG (H : Hp) (pg pr : Option Addr) (F : Nat → Prop) (c : Int) : Prop :=
  (pg = none ∧ pr = none ∧ ∀ b, ¬ F b) ∨ ∃ g hb sl r slr s, pg = some ⟨g, 0, none⟩ ∧ pr = some ⟨r, 0, none⟩ ∧ PA H g hb sl s ∧ RA H r slr s ∧ s.Ok ∧ s.count ≤ c ∧ ∀ b, F b ↔ (fp g hb sl b ∨ b = r ∨ slr.at b)

theorem GG.not49 {H : Hp} {pg pr : Option Addr} {F : Nat → Prop} {c : Int} (h : GG H pg pr F c) : ∀ b l, F b → ¬ Row H b 49 l := by
  intro b l hb rr
  rcases h with ⟨_, _, h⟩ | ⟨g, hb', sl, r, slr, s, _, _, ⟨L, hp⟩, ⟨M, hr⟩, _, _, hF⟩
  · exact h b hb
  · rcases (hF b).1 hb with h | h | h
    · exact hp.not49 b l h rr
    · exact rr.ne_type hr.row (by decide) h
    · exact hr.lst.ne rr (by decide) h
theorem GG.not26 {H : Hp} {pg pr : Option Addr} {F : Nat → Prop} {c : Int} (h : GG H pg pr F c) : ∀ b l, F b → ¬ Row H b 26 l := by
  intro b l hb rr
  rcases h with ⟨_, _, h⟩ | ⟨g, hb', sl, r, slr, s, _, _, ⟨L, hp⟩, ⟨M, hr⟩, _, _, hF⟩
  · exact h b hb
  · rcases (hF b).1 hb with (h | h | h) | h | h
    · exact rr.ne_type hp.row (by decide) h
    · exact rr.ne_type hp.hrow (by decide) h
    · exact hp.lst.ne rr (by decide) h
    · exact rr.ne_type hr.row (by decide) h
    · exact hr.lst.ne rr (by decide) h
theorem GG.lt {H : Hp} {pg pr : Option Addr} {F : Nat → Prop} {c : Int} (h : GG H pg pr F c) {b : Nat} (hb : F b) : b < H.size := by
  rcases h with ⟨_, _, h⟩ | ⟨g, hb', sl, r, slr, s, _, _, ⟨L, hp⟩, ⟨M, hr⟩, _, _, hF⟩
  · exact absurd hb (h b)
  · rcases (hF b).1 hb with h | h | h
    · exact hp.lt h
    · exact h ▸ hr.row.lt
    · exact hr.lst.lt h
theorem GG.kp {H H' : Hp} {pg pr : Option Addr} {F S : Nat → Prop} {c : Int} (h : GG H pg pr F c) (k : Kp S H H') (hs : ∀ b, F b → ¬ S b) (h49 : ∀ b l, S b → ¬ Row H b 49 l) : GG H' pg pr F c := by
  rcases h with h | ⟨g, hb, sl, r, slr, s, e1, e2, ⟨L, hp⟩, ⟨M, hr⟩, ok, hc, hF⟩
  · exact .inl h
  · exact .inr ⟨g, hb, sl, r, slr, s, e1, e2, ⟨L, hp.kp k (fun b hb => hs b ((hF b).2 (.inl hb))) h49⟩, ⟨M, hr.kp k (hs r ((hF r).2 (.inr (.inl rfl)))) (fun b hb => hs b ((hF b).2 (.inr (.inr hb)))) h49⟩, ok, hc, hF⟩
theorem GG.no {H H' : Hp} {pg pr : Option Addr} {F : Nat → Prop} {c : Int} (h : GG H pg pr F c) (k : Kp No H H') : GG H' pg pr F c := h.kp k (fun _ _ => id) fun _ _ => False.elim
theorem GG.le {H : Hp} {pg pr : Option Addr} {F : Nat → Prop} {c c' : Int} (h : GG H pg pr F c) (hc : c ≤ c') : GG H pg pr F c' := by
  rcases h with h | ⟨g, hb, sl, r, slr, s, e1, e2, hp, hr, ok, hc', hF⟩
  · exact .inl h
  · exact .inr ⟨g, hb, sl, r, slr, s, e1, e2, hp, hr, ok, by omega, hF⟩

theorem RL.kpP {H H' : Hp} {g hb : Nat} {sl : Sl} {s s' : St} {L : List HC} {r : Nat} {slr : Sl} {M : List HC} (hr : RL H r slr s M) (hp : PL H g hb sl s' L) (k : Kp (fp g hb sl) H H') : RL H' r slr s M := by
  refine hr.kp k (fun h => ?_) (fun b hb h => ?_) hp.not49
  · rcases h with h | h | h
    · exact hr.row.ne_type hp.row (by decide) h
    · exact hr.row.ne_type hp.hrow (by decide) h
    · exact hp.lst.ne hr.row (by decide) h
  · rcases h with rfl | rfl | h
    · exact hr.lst.ne hp.row (by decide) hb
    · exact hr.lst.ne hp.hrow (by decide) hb
    · exact hr.lst.disj hp.lst (by decide) hb h
theorem PL.kpR {H H' : Hp} {g hb : Nat} {sl : Sl} {s : St} {L : List HC} {r : Nat} {l : List Value} (hp : PL H g hb sl s L) (hr : Row H r 80 l) (k : Kp (fun b => b = r) H H') : PL H' g hb sl s L := by
  refine hp.kp k (fun b hb e => ?_) fun b l e rr => rr.ne_type hr (by decide) e
  subst e
  rcases hb with h | h | h
  · exact hr.ne_type hp.row (by decide) h
  · exact hr.ne_type hp.hrow (by decide) h
  · exact hp.lst.ne hr (by decide) h
theorem Ans.kpR {H H' : Hp} {t : Sl} {R : List EV} {r : Nat} {l : List Value} (h : Ans H t R) (hr : Row H r 80 l) (k : Kp (fun b => b = r) H H') : Ans H' t R :=
  h.kp k (fun b l e rr => rr.ne_type hr (by decide) e) (fun b l e rr => rr.ne_type hr (by decide) e)
theorem Ans.no {H H' : Hp} {t : Sl} {R : List EV} (h : Ans H t R) (k : Kp No H H') : Ans H' t R := h.kp k (fun _ _ => False.elim) (fun _ _ => False.elim)

theorem out_len (m : Int) (C : List NE) : (out m C).length ≤ C.length := by
  unfold out
  rw [(isort_perm _).length_eq]
  exact List.length_filter_le ..

theorem push_len {s : St} (ok : s.Ok) (e : EV) : ((push s e).1.map NE.e).length ≤ 1048576 := by
  have := ok.len
  have := ok.room
  rw [List.length_map]
  unfold push
  split
  · simp
  · split
    · simp
    · split
      · simp
      · have := out_len (mark' s e.tm) (s.C ++ [(⟨s.count + 1, e⟩ : NE)])
        simp at this ⊢
        omega
theorem advance_len {s : St} (ok : s.Ok) (now : Int) : ((advance s now).1.map NE.e).length ≤ 1048576 := by
  have := ok.len
  have := ok.room
  rw [List.length_map]
  unfold advance
  split
  · simp
  · have := out_len (mark' s now) s.C
    simp at this ⊢
    omega
theorem isort_len {s : St} (ok : s.Ok) : ((isort s.C).map NE.e).length ≤ 1048576 := by
  have := ok.len
  have := ok.room
  rw [List.length_map, (isort_perm _).length_eq]
  omega
theorem push_count {s : St} (e : EV) : (push s e).2.2.count ≤ s.count + 1 := by
  unfold push
  split
  · show s.count ≤ _; omega
  · split
    · show s.count ≤ _; omega
    · split
      · show s.count ≤ _; omega
      · exact Int.le_refl _
theorem advance_count {s : St} (now : Int) : (advance s now).2.2.count ≤ s.count + 1 := by
  unfold advance
  split
  · show s.count ≤ _; omega
  · show s.count ≤ _; omega

theorem c7 {H : Hp} {pg pr : Option Addr} {F : Nat → Prop} {c kd now tm : Int} {on : Bool} {ty : ByteArray} {vs : Sl} {vals : List VT} {Q : Bool → Hp → Prop} (h : GG H pg pr F c) (hc : c ≤ 9223372036854775800) (hv : ∀ H', Kp F H H' → RdL vF H' vs vals) (hvl : vals.length ≤ 1048576)
    (hQ : ∀ H' F', GG H' pg pr F' (c + 1) → Kp F H H' → (∀ b, F' b → F b ∨ H.size ≤ b) → Q true H') : F7 pg pr kd on ty tm vs now H Q := by
  intro H1 e1 H2 e2
  have k2 := ((Kp.refl No H).push' e1).push' e2
  have s1 := size_push' e1
  have s2 := size_push' e2
  have b1 := (Row.new' e1).push' e2
  have b2 := Row.new' e2
  have k2F : Kp F H H2 := k2.mono fun _ _ => False.elim
  rcases h with ⟨rfl, rfl, hF⟩ | ⟨g, hb, sl, r, slr, s, rfl, rfl, ⟨L, hp⟩, ⟨M, hr⟩, ok, hsc, hF⟩
  · exact ⟨_, b1.cell_of (i := 0) rfl, fun _ => ⟨fun _ => hQ H2 F (.inl ⟨rfl, rfl, hF⟩) k2F fun _ => .inl, fun hf => (by cases hf)⟩, fun hf => (by cases hf)⟩
  have hfp : ∀ b, fp g hb sl b → F b := fun b h => (hF b).2 (.inl h)
  have hFr : F r := (hF r).2 (.inr (.inl rfl))
  have hp2 := hp.no k2
  have hr2 := hr.no k2
  -- the end of each kind of step
  have fin : ∀ (H' : Hp) (sl' slr' : Sl) (s' : St), PA H' g hb sl' s' → RA H' r slr' s' → s'.Ok → s'.count ≤ c + 1 → Kp F H H' → (∀ b, sl'.at b → sl.at b ∨ H.size ≤ b) → (∀ b, slr'.at b → slr.at b ∨ H.size ≤ b) → Q true H' := by
    intro H' sl' slr' s' hp' hr' ok' hc' k' hs hsr
    refine hQ H' (fun b => fp g hb sl' b ∨ b = r ∨ slr'.at b) (.inr ⟨g, hb, sl', r, slr', s', rfl, rfl, hp', hr', ok', hc', fun b => Iff.rfl⟩) k' fun b hb' => ?_
    rcases hb' with (h | h | h) | h | h
    · exact .inl (hfp b (.inl h))
    · exact .inl (hfp b (.inr (.inl h)))
    · exact (hs b h).imp (fun h => hfp b (.inr (.inr h))) id
    · exact .inl (h ▸ hFr)
    · exact (hsr b h).imp (fun h => (hF b).2 (.inr (.inr h))) id
  have nF : ∀ b, H.size ≤ b → ¬ fp g hb sl b := fun b hb h => by have := hp.lt h; omega
  have nr : ∀ b, H.size ≤ b → b ≠ r := fun b hb h => by have := hr.row.lt; omega
  refine ⟨_, b1.cell_of (i := 0) rfl, fun hf => (by cases hf), fun _ => ⟨_, b1.cell_of (i := 1) rfl, ?_⟩⟩
  refine ⟨fun hf => (by cases hf), fun _ => ⟨_, b2.cell_of (i := 0) rfl, fun h1 => ?_, fun h1 => ⟨fun h2 => ?_, fun h2 => ⟨fun h3 => ?_, fun h3 => ⟨fun h4 => ?_, fun h4 => ⟨fun h5 => ?_, fun h5 => ?_⟩⟩⟩⟩⟩⟩
  · -- Push
    have cb2 : ∀ {H' : Hp}, Row H' H1.size 34 [.int .i64 kd, .bool on, .string ty, .int .i64 tm, Sl.v vs, .int .i64 now] → cells H' (Addr.add ⟨H1.size, 0, none⟩ 2) [.string ty, .int .i64 tm, Sl.v vs] 0 := fun rr => cells_sub (i := 2) rr.all rfl
    refine ⟨_, b1.cell_of (i := 0) rfl, _, _, _, cb2 b2, c11 (hv _ k2F) hvl fun t3 H3 h3 k3 ht3 => ?_⟩
    have hp3 := hp2.no k3
    have hr3 := hr2.no k3
    refine ⟨(k3.row b1 id).cell_of (i := 0) rfl, c23 hp3 ok (by omega) h3.rd (fun a ha e => ?_) hvl fun t4 H4 sl4 hp4 a4 k4 hs4 ht4 => ?_⟩
    · rcases h3.own with ⟨e0, _⟩ | ⟨b, sp, e0, rr, _⟩
      · subst e0; cases ha
      · rw [e0] at ha
        obtain rfl : (⟨b, 0, none⟩ : Addr) = a := by simpa using ha
        exact rr.ne_type hp3.row (by decide) e
    have sk3 := k3.size
    have sk2 := k2.size
    have b14 := k4.row (k3.row b1 id) (nF _ (Nat.le_refl _))
    have b24 := k4.row (k3.row b2 id) (nF _ (by omega))
    have hr4 := hr3.kpP hp3 k4
    have k24 : Kp (fp g hb sl) H H4 := ((k2.trans k3 fun _ => False.elim).mono fun _ _ => False.elim).trans k4 fun _ => .inl
    have hv4 : RdL vF H4 vs vals := hv _ (k24.mono fun b _ => hfp b)
    refine ⟨_, b14.cell_of (i := 1) rfl, _, _, _, cb2 b24, c11 hv4 hvl fun t5 H5 h5 k5 ht5 => ?_⟩
    have hr5 := hr4.no k5
    refine ⟨(k5.row b14 id).cell_of (i := 1) rfl, c25 hr5 ok h5.rd hvl fun t6 H6 slr6 hr6 a6 k6 hs6 => ?_⟩
    obtain ⟨L4, hp4⟩ := hp4
    have hp6 := (hp4.no k5).kpR hr5.row k6
    refine ⟨fun _ => lists_ok ((a4.no k5).kpR hr5.row k6) a6 (push_len ok _) fun H7 k7 => ?_, fun hf => absurd rfl (of_decide_eq_false hf)⟩
    obtain ⟨M6, hr6⟩ := hr6
    have sk4 := k4.size
    have sk5 := k5.size
    have k06 : Kp F H H6 := ((k24.mono (T := F) fun b _ => hfp b).trans k5 fun _ => False.elim).trans k6 fun b e => .inl (e ▸ hFr)
    refine fin H7 sl4 slr6 _ ⟨L4, hp6.no k7⟩ ⟨M6, hr6.no k7⟩ (push_ok ok hvl) (by have := push_count (s := s) ⟨ty, tm, vals⟩; omega) (k06.trans k7 fun _ => False.elim) (fun b hb => (hs4 b hb).imp id (by omega)) (fun b hb => (hs6 b hb).imp id (by omega))
  · -- Advance
    refine ⟨_, b1.cell_of (i := 0) rfl, _, b2.cell_of (i := 5) rfl, c26 hp2 ok fun t4 H4 sl4 hp4 a4 k4 hs4 => ?_⟩
    have b14 := k4.row b1 (nF _ (Nat.le_refl _))
    have b24 := k4.row b2 (nF _ (by omega))
    have hr4 := hr2.kpP hp2 k4
    refine ⟨_, b14.cell_of (i := 1) rfl, _, b24.cell_of (i := 5) rfl, c27 hr4 ok fun t6 H6 slr6 hr6 a6 k6 hs6 => ?_⟩
    obtain ⟨L4, hp4⟩ := hp4
    have hp6 := hp4.kpR hr4.row k6
    refine ⟨fun _ => lists_ok (a4.kpR hr4.row k6) a6 (advance_len ok _) fun H7 k7 => ?_, fun hf => absurd rfl (of_decide_eq_false hf)⟩
    obtain ⟨M6, hr6⟩ := hr6
    have sk2 := k2.size
    have sk4 := k4.size
    have k06 : Kp F H H6 := (k2F.trans k4 fun b h => .inl (hfp b h)).trans k6 fun b e => .inl (e ▸ hFr)
    refine fin H7 sl4 slr6 _ ⟨L4, hp6.no k7⟩ ⟨M6, hr6.no k7⟩ (advance_ok ok _) (by have := advance_count (s := s) now; omega) (k06.trans k7 fun _ => False.elim) (fun b hb => .inl (hs4 b hb)) (fun b hb => (hs6 b hb).imp id (by omega))
  · -- Flush
    refine ⟨_, b1.cell_of (i := 0) rfl, c20 hp2 ok fun t4 H4 sl4 hp4 a4 k4 hs4 ht4 => ?_⟩
    have b14 := k4.row b1 (nF _ (Nat.le_refl _))
    have hr4 := hr2.kpP hp2 k4
    refine ⟨_, b14.cell_of (i := 1) rfl, c28 hr4 ok fun t6 H6 slr6 hr6 a6 k6 hs6 => ?_⟩
    obtain ⟨L4, hp4⟩ := hp4
    have hp6 := hp4.kpR hr4.row k6
    refine lists_ok (a4.kpR hr4.row k6) a6 (isort_len ok) fun H7 k7 => ?_
    obtain ⟨M6, hr6⟩ := hr6
    have sk2 := k2.size
    have sk4 := k4.size
    have k06 : Kp F H H6 := (k2F.trans k4 fun b h => .inl (hfp b h)).trans k6 fun b e => .inl (e ▸ hFr)
    refine fin H7 sl4 slr6 _ ⟨L4, hp6.no k7⟩ ⟨M6, hr6.no k7⟩ (flush_ok ok) (by show s.count ≤ _; omega) (k06.trans k7 fun _ => False.elim) (fun b hb => .inl (hs4 b hb)) (fun b hb => (hs6 b hb).imp id (by omega))
  · -- Held
    refine ⟨_, b1.cell_of (i := 0) rfl, _, b1.cell_of (i := 1) rfl, c19 hp2 ok fun t4 H4 a4 k4 ht4 => ?_⟩
    have hr4 := hr2.no k4
    refine ⟨(k4.row b1 id).cell_of (i := 1) rfl, c29 hr4 ok fun t6 H6 a6 k6 => lists_ok (a4.no k6) a6 (isort_len ok) fun H7 k7 => ?_⟩
    have k07 := ((k2.trans k4 fun _ => False.elim).trans k6 fun _ => False.elim).trans k7 fun _ => False.elim
    exact fin H7 sl slr s ⟨L, hp.no k07⟩ ⟨M, hr.no k07⟩ ok (by omega) (k07.mono fun _ _ => False.elim) (fun _ => .inl) (fun _ => .inl)
  · -- Mark
    refine ⟨_, b1.cell_of (i := 0) rfl, _, b1.cell_of (i := 1) rfl, c18 hp2 ⟨b1.cell_of (i := 1) rfl, c30 hr2 ?_⟩⟩
    rw [decide_eq_true rfl]
    exact fin H2 sl slr s ⟨L, hp2⟩ ⟨M, hr2⟩ ok (by omega) k2F (fun _ => .inl) (fun _ => .inl)
  · exact fin H2 sl slr s ⟨L, hp2⟩ ⟨M, hr2⟩ ok (by omega) k2F (fun _ => .inl) (fun _ => .inl)

theorem c5 {late room : Int} {H : Hp} {Q : Option Addr → Option Addr → Bool → Hp → Prop} (hQ : ∀ pg pr H' F, GG H' pg pr F 0 → Kp No H H' → (∀ b, F b → H.size ≤ b) → Q pg pr true H') : F5 late room H Q := by
  intro H1 e1
  have k1 := (Kp.refl No H).push' e1
  have s1 := size_push' e1
  have b1 := Row.new' e1
  refine c8 (fun hbad => ?_) fun hgood H2 g hb hp k2 hg hh => ?_
  · refine c22 (fun _ => ?_) fun h => absurd hbad h
    refine ⟨fun _ => ⟨b1.mayall, fun H3 e3 => ⟨_, _, (b1.fill' e3 rfl).all, ?_⟩⟩, fun hf => absurd rfl (of_decide_eq_false hf)⟩
    exact hQ none none H3 (fun _ => False) (.inl ⟨rfl, rfl, fun _ => id⟩) (k1.sets' e3 (.inr (Nat.le_refl _))) (fun _ => False.elim)
  · refine c22 (fun h => absurd h hgood) fun _ H3 r hr k3 hr3 => ?_
    have b3 := k3.row (k2.row b1 id) id
    have k03 := (k1.trans k2 fun _ => False.elim).trans k3 fun _ => False.elim
    have s2 := k2.size
    have s3 := k3.size
    obtain ⟨L, hp⟩ := hp
    obtain ⟨M, hr⟩ := hr
    refine ⟨fun _ => ⟨b3.mayall, fun H4 e4 => ⟨_, _, (b3.fill' e4 rfl).all, ?_⟩⟩, fun hf => absurd rfl (of_decide_eq_false hf)⟩
    have k4 := (Kp.refl (fun b => b = H.size) H3).sets' e4 (.inl rfl)
    have n49 : ∀ b l, b = H.size → ¬ Row H3 b 49 l := fun b l e rr => rr.ne_type b3 (by decide) e
    have hp4 : PL H4 g hb Sl.nil (st0 late room) L := (hp.no k3).kp k4 (fun b hb' e => by
      subst e
      rcases hb' with h | h | h
      · omega
      · omega
      · cases h) n49
    have hr4 : RL H4 r Sl.nil (st0 late room) M := hr.kp k4 (by omega) (fun b hb => by cases hb) n49
    refine hQ _ _ H4 (fun b => fp g hb Sl.nil b ∨ b = r ∨ Sl.nil.at b) (.inr ⟨g, hb, Sl.nil, r, Sl.nil, _, rfl, rfl, ⟨L, hp4⟩, ⟨M, hr4⟩, st0_ok hgood, Int.le_refl _, fun _ => Iff.rfl⟩) (k03.sets' e4 (.inr (Nat.le_refl _))) fun b hb => ?_
    rcases hb with (h | h | h) | h | h
    · omega
    · omega
    · cases h
    · omega
    · cases h

end Go.Hw
