/- Contracts: the program's gate: Flush, Held, Mark, New. Own work of this session. -/
import Derived.Test.YtjeponambmjhcaaDoorC5
set_option linter.unusedVariables false
namespace Go.Hw
open Go

theorem maxOf_snoc (x : NE) : ∀ (l : List NE) (m : Int), maxOf m (l ++ [x]) = if maxOf m l < x.e.tm then x.e.tm else maxOf m l
  | [], m => rfl
  | y :: l, m => maxOf_snoc x l _

theorem out_all {m : Int} {C : List NE} (h : ∀ x ∈ C, x.e.tm ≤ m) : out m C = isort C ∧ rest m C = [] := by
  unfold out rest
  rw [List.filter_eq_self.2 fun x hx => decide_eq_true (h x hx)]
  exact ⟨rfl, List.filter_eq_nil_iff.2 fun x hx => by have := h x hx; simp; omega⟩

theorem c20x {H : Hp} {g hb : Nat} {sl : Sl} {s : St} {L : List HC} {Q : Sl → Hp → Prop} (h : PL H g hb sl s L) (ok : s.Ok)
    (hQ : ∀ r H' sl' L' O, PL H' g hb sl' (flush s).2 L' → Lst eF H' r (O.map HC.e) → Vals H' (O.map HC.e) → (O.map HC.e).map EC.ev = (flush s).1.map NE.e → (O ++ L').Perm L → Kp (fp g hb sl) H H' → (∀ b, sl'.at b → sl.at b) → (∀ b, r.at b → H.size ≤ b) → Q r H') : F10 (some ⟨g, 0, none⟩) H Q := by
  have hn := h.lst.n
  have hlen := h.len ok
  refine ⟨_, rfl, _, h.row.cell_of (i := 5) rfl, _, rfl, _, h.hrow.cell_of (i := 0) rfl, fun X hX => ?_⟩
  suffices G : ∀ (d : Nat) (H1 : Hp) (i : Nat), i + d = L.length → Kp (fun b => b = g) H H1 → PL H1 g hb sl { s with mark := maxOf s.mark ((L.take i).map HC.ne) } L → X i H1 from
    G L.length H 0 (by omega) (Kp.refl _ _) h
  intro d
  induction d with
  | zero =>
    intro H1 i hi k h1
    refine hX _ _ ⟨fun hb => absurd (of_decide_eq_true hb) (by omega), fun _ => ?_⟩
    rw [List.take_of_length_le (by omega), maxOf_perm h.perm] at h1
    have ho := out_all (maxOf_le s.C s.mark).2
    refine c37x h1 ok.dis (by omega) fun r H2 sl' L' O h2 a2 v2 e2 hp k2 hs hr => ?_
    simp only [ho.1, ho.2] at h2 e2
    have := k.size
    refine hQ r H2 sl' L' O h2 a2 v2 e2 hp ((k.mono (T := fp g hb sl) fun b _ e => .inl e).trans k2 fun b hb => .inl (.inr hb)) hs (fun b hb => by have := hr b hb; omega)
  | succ d ih =>
    intro H1 i hi k h1
    refine hX _ _ ⟨fun _ => ?_, fun hb => absurd (of_decide_eq_false hb) (by omega)⟩
    have hx : L[i]? = some (L[i]'(by omega)) := List.getElem?_eq_getElem (by omega)
    generalize L[i]'(by omega) = x at hx
    obtain ⟨a, ha, hi0, ca⟩ := h1.lst.rd.get hx
    refine ⟨a, ha, by omega, by omega, _, _, _, _, ca, fun H2 e2 => ?_⟩
    have k2 := (Kp.refl No H1).push' e2
    have b2 := Row.new' e2
    refine ⟨b2.mayall, fun H3 e3 => ?_⟩
    have k3 := k2.sets' e3 (.inr (Nat.le_refl _))
    have b3 := b2.fill' e3 rfl
    have h3 := h1.no k3
    have hgl := h1.row.lt
    refine ⟨_, rfl, _, h3.row.cell_of (i := 4) rfl, _, b3.cell_of (i := 2) rfl, _, rfl, h3.row.some (i := 4) (by simp), h3.row.frz 4, fun H4 e4 => ?_⟩
    have r4 := h3.row.set' e4
    have h4 : PL H4 g hb sl { s with mark := maxOf s.mark ((L.take (i + 1)).map HC.ne) } L := by
      rw [take_succ hx, List.map_append, List.map_cons, List.map_nil, maxOf_snoc]
      refine h3.write ((Kp.refl (fun b => b = g) H3).set' e4 (.inl rfl)) r4 rfl
    show X _ _
    rw [wr (by omega) (by omega)]
    exact ih H4 (i + 1) (by omega) ((k.trans k3 fun _ => False.elim).set' e4 (.inl rfl)) h4

theorem c20 {H : Hp} {g hb : Nat} {sl : Sl} {s : St} {L : List HC} {Q : Sl → Hp → Prop} (h : PL H g hb sl s L) (ok : s.Ok)
    (hQ : ∀ r H' sl', PA H' g hb sl' (flush s).2 → Ans H' r ((flush s).1.map NE.e) → Kp (fp g hb sl) H H' → (∀ b, sl'.at b → sl.at b) → (∀ b, r.at b → H.size ≤ b) → Q r H') : F10 (some ⟨g, 0, none⟩) H Q :=
  c20x h ok fun r H' sl' L' O h1 h2 h3 h4 _ k hs hr => hQ r H' sl' ⟨L', h1⟩ ⟨_, h2, h3, h4⟩ k hs hr

theorem c34 {s : Sl} {L : List HC} {H : Hp} {Q : Sl → Hp → Prop} (h : Lst hF H s L) (hl : L.length ≤ 1048576)
    (hQ : ∀ r H', Lst hF H' r L → Kp No H H' → (∀ b, r.at b → H.size ≤ b) → Q r H') : F26 s H Q := by
  refine ⟨fun hn => ?_, fun hs H2 e2 => ?_⟩
  · have : L = [] := by
      have hr := h.rd.r
      cases hb : s.b with
      | some a => rw [hb] at hn; cases hn
      | none =>
        rw [hb] at hr
        have := fl_len hF.len L
        rw [show L.flatMap hF.f = [] from hr] at this
        exact List.eq_nil_of_length_eq_zero (by simp at this; omega)
    subst this
    exact hQ _ _ (Lst.nil _ _) (Kp.refl _ _) (fun b hb => by cases hb)
  · have k2 := (Kp.refl No H).push' e2
    have s2 := size_push' e2
    refine (Lst.empty (F := hF) (Row.new' e2) rfl (by decide)).append (h.rd.kp0 k2) rfl (by simp; omega) (by simp; omega) fun r H' h1 h2 h3 => ?_
    refine hQ r H' h1 (k2.trans h2 fun b hb => .inr ?_) fun b hb => ?_
    · have : H.size = b := by simpa [Sl.at] using hb
      omega
    · rcases h3 b hb with h | h
      · have : H.size = b := by simpa [Sl.at] using h
        omega
      · omega

/-- Events whose values lie apart. -/
def Dj (E : List EC) : Prop := E.Pairwise fun x y => ∀ b, x.sl.at b → ¬ y.sl.at b

theorem c19x {H : Hp} {g hb : Nat} {sl : Sl} {s : St} {L : List HC} {Q : Sl → Hp → Prop} (h : PL H g hb sl s L) (ok : s.Ok)
    (hQ : ∀ r H' E, Lst eF H' r E → Vals H' E → E.map EC.ev = (isort s.C).map NE.e → Dj E → (∀ x ∈ E, ∀ b, x.sl.at b → H.size ≤ b) → Kp No H H' → (∀ b, r.at b → H.size ≤ b) → Q r H') : F11 (some ⟨g, 0, none⟩) H Q := by
  have hlen := h.len ok
  refine ⟨_, rfl, _, h.row.cell_of (i := 5) rfl, _, rfl, _, h.hrow.cell_of (i := 0) rfl, _, rfl, _, h.row.cell_of (i := 5) rfl, _, rfl, h.hrow.cell_of (i := 1) rfl, c34 h.lst (by omega) fun c H1 h1 k1 hc1 => ?_⟩
  have g1 := h.no k1
  refine ⟨g1.hrow.cell_of (i := 1) rfl, g1.row.cell_of (i := 5) rfl, g1.row.cell_of (i := 5) rfl, fun H2 e2 => ?_⟩
  have k2 := k1.push' e2
  have s2 := size_push' e2
  have s1 := k1.size
  have g2 := h.no k2
  have r2 : Row H2 H1.size 61 [Sl.v c, lessv] := Row.new' e2
  refine ⟨g2.hrow.cell_of (i := 1) rfl, g2.row.cell_of (i := 5) rfl, g2.row.cell_of (i := 5) rfl, fun X hX => ?_⟩
  have h2 := h1.kp ((Kp.refl No H1).push' e2) fun _ _ => id
  suffices G : ∀ (m : Nat) (H3 : Hp) (L1 O : List HC) (E : List EC) (sl1 r1 : Sl), L1.length ≤ m → Row H3 H1.size 61 [Sl.v sl1, lessv] → Lst hF H3 sl1 L1 → Heap hlt L1 → (O ++ L1).Perm L → O.Pairwise (fun x y => ¬ hlt y x) → (∀ x ∈ O, ∀ y ∈ L1, ¬ hlt y x) →
      Lst eF H3 r1 E → Vals H3 E → E.map EC.ev = (O.map HC.ne).map NE.e → Dj E → (∀ x ∈ E, ∀ b, x.sl.at b → H.size ≤ b) → (∀ b, r1.at b → H.size ≤ b) → Kp No H H3 → (∀ b, sl1.at b → H.size ≤ b) → X r1 H3 from
    G L.length H2 L [] [] c Sl.nil (Nat.le_refl _) r2 h2 h.heap (List.Perm.refl _) List.Pairwise.nil (fun x hx => by simp at hx) (Lst.nil _ _) (fun x hx => by simp at hx) rfl List.Pairwise.nil (fun x hx => by simp at hx) (fun b hb => by cases hb) k2 hc1
  have fin : ∀ (H3 : Hp) (O : List HC) (E : List EC) (r1 : Sl), O.Perm L → O.Pairwise (fun x y => ¬ hlt y x) → Lst eF H3 r1 E → Vals H3 E → E.map EC.ev = (O.map HC.ne).map NE.e → Dj E → (∀ x ∈ E, ∀ b, x.sl.at b → H.size ≤ b) → (∀ b, r1.at b → H.size ≤ b) → Kp No H H3 → Q r1 H3 := by
    intro H3 O E r1 hp hs he hv hE hdj hen hr k
    have : O.map HC.ne = isort s.C := weak_unique (List.pairwise_map.2 hs) (isort_sorted ok.dis) (((hp.map HC.ne).trans h.perm).trans (isort_perm _).symm)
    exact hQ r1 H3 E he hv (by rw [hE, this]) hdj hen k hr
  intro m
  induction m with
  | zero =>
    intro H3 L1 O E sl1 r1 hm hr1 h3 hh hp hso hol ho hv hE hdj hen hor k hsl
    have hn := h3.n
    have hL1 : L1 = [] := List.eq_nil_of_length_eq_zero (by omega)
    refine hX _ _ ⟨_, hr1.cell_of (i := 0) rfl, fun hb => absurd (of_decide_eq_true hb) (by omega), fun _ => ?_⟩
    subst hL1
    exact fin H3 O E r1 (by simpa using hp) hso ho hv hE hdj hen hor k
  | succ m ih =>
    intro H3 L1 O E sl1 r1 hm hr1 h3 hh hp hso hol ho hv hE hdj hen hor k hsl
    have hn := h3.n
    refine hX _ _ ⟨_, hr1.cell_of (i := 0) rfl, fun h0 => ?_, fun h0 => ?_⟩
    · have h0 := of_decide_eq_true h0
      have hx : L1[0]? = some (L1[0]'(by omega)) := List.getElem?_eq_getElem (by omega)
      generalize L1[0]'(by omega) = x at hx
      have hll := hp.length_eq
      have hle : E.length = O.length := by have := congrArg List.length hE; simpa using this
      simp only [List.length_append] at hll
      refine c36 hr1 h3 (by omega) hh hx fun H4 sl2 L2 hp2 hh2 hr2 h4 k4 hsl2 => ?_
      have s4 := k4.size
      have hall : ∀ b, (b = H1.size ∨ sl1.at b) → H.size ≤ b := fun b hb => by
        rcases hb with rfl | hb
        · exact s1
        · exact hsl b hb
      have k04 : Kp No H H4 := k.trans k4 fun b hb => .inr (hall b hb)
      have n49 : ∀ b l, (b = H1.size ∨ sl1.at b) → ¬ Row H3 b 76 l := fun b l hb r => by
        rcases hb with rfl | hb
        · exact r.ne_type hr1 (by decide) rfl
        · exact h3.ne r (by decide) hb
      have ho4 := ho.kp k4 (fun b hb h' => by
        rcases h' with rfl | h'
        · exact ho.ne hr1 (by decide) hb
        · exact ho.disj h3 (by decide) hb h')
      have hv4 := hv.kp k4 n49
      have hxL : x ∈ L := hp.subset (List.mem_append_right _ (hp2.subset (List.mem_cons_self ..)))
      have hxv := (h.vals x.e (List.mem_map_of_mem hxL))
      refine c35 (hxv.1.kp k04 fun _ _ => id).rd hxv.2 fun r5 H5 h5 k5 hr5 H6 e6 => ?_
      have k46 := k5.push' e6
      have s5 := k5.size
      have s6 := size_push' e6
      have b6 : Row H6 H5.size 33 (eF.f ⟨x.e.ty, x.e.tm, r5, x.e.vs⟩) := Row.new' e6
      refine (ho4.kp k46 fun _ _ => id).append1 b6 rfl (by omega) (by omega) fun r7 H7 h7 k7 hr7 => ?_
      have k47 : Kp r1.at H4 H7 := (k46.mono fun _ _ => False.elim).trans k7 fun _ => .inl
      have k67 : Kp r1.at H5 H7 := (((Kp.refl No H5).push' e6).mono fun _ _ => False.elim).trans k7 fun _ => .inl
      have n49' : ∀ b l, r1.at b → ¬ Row H4 b 76 l := fun b l hb r => ho4.ne r (by decide) hb
      have k07 : Kp No H H7 := k04.trans k47 fun b hb => .inr (hor b hb)
      have hs04 := k04.size
      refine ih H7 L2 (O ++ [x]) (E ++ [⟨x.e.ty, x.e.tm, r5, x.e.vs⟩]) sl2 r7 (by have := hp2.length_eq; simp at this; omega)
        (k47.row hr2 fun hb => ho4.ne hr2 (by decide) hb) (h4.kp k47 fun b hb hb' => h4.disj ho4 (by decide) hb hb') hh2 ?_ ?_ ?_ h7 ?_ ?_ ?_ ?_ ?_ k07 (fun b hb => hsl b (hsl2 b hb))
      · rw [List.append_assoc]; exact (hp2.append_left O).trans hp
      · rw [List.pairwise_append]
        refine ⟨hso, List.pairwise_singleton _ _, fun y hy z hz => ?_⟩
        rw [List.mem_singleton] at hz
        subst hz
        exact hol y hy _ (hp2.subset (List.mem_cons_self ..))
      · intro y hy z hz
        rcases List.mem_append.1 hy with hy | hy
        · exact hol y hy z (hp2.subset (List.mem_cons_of_mem _ hz))
        · rw [List.mem_singleton] at hy
          subst hy
          exact hh.root hOrd hx z (hp2.subset (List.mem_cons_of_mem _ hz))
      · intro e he
        rcases List.mem_append.1 he with he | he
        · exact hv4.kp k47 n49' e he
        · rw [List.mem_singleton] at he
          subst he
          refine ⟨h5.kp k67 fun b hb hb' => ?_, hxv.2⟩
          obtain ⟨_, rr⟩ := h5.row hb
          exact (ho4.kp k5 fun _ _ => id).ne rr (by decide) hb'
      · simp only [List.map_append, hE]
        rfl
      · rw [Dj, List.pairwise_append]
        refine ⟨hdj, List.pairwise_singleton _ _, fun y hy z hz b hyb hzb => ?_⟩
        rw [List.mem_singleton] at hz
        subst hz
        have := (hv4 y hy).1.lt hyb
        have := hr5 b hzb
        omega
      · intro y hy b hb
        rcases List.mem_append.1 hy with hy | hy
        · exact hen y hy b hb
        · rw [List.mem_singleton] at hy
          subst hy
          have := hr5 b hb
          omega
      · intro b hb
        rcases hr7 b hb with h | h
        · exact hor b h
        · omega
    · have h0 := of_decide_eq_false h0
      have hL1 : L1 = [] := List.eq_nil_of_length_eq_zero (by omega)
      subst hL1
      exact fin H3 O E r1 (by simpa using hp) hso ho hv hE hdj hen hor k

theorem c19 {H : Hp} {g hb : Nat} {sl : Sl} {s : St} {L : List HC} {Q : Sl → Hp → Prop} (h : PL H g hb sl s L) (ok : s.Ok)
    (hQ : ∀ r H', Ans H' r ((isort s.C).map NE.e) → Kp No H H' → (∀ b, r.at b → H.size ≤ b) → Q r H') : F11 (some ⟨g, 0, none⟩) H Q :=
  c19x h ok fun r H' E h1 h2 h3 _ _ k hr => hQ r H' ⟨E, h1, h2, h3⟩ k hr

theorem c18 {H : Hp} {g hb : Nat} {sl : Sl} {s : St} {L : List HC} {Q : Int → Hp → Prop} (h : PL H g hb sl s L) (hQ : Q s.mark H) : F16 (some ⟨g, 0, none⟩) H Q :=
  ⟨_, rfl, _, h.row.cell_of (i := 4) rfl, hQ⟩

def badNew (late room : Int) : Prop := late < 0 ∨ 4611686018427387904 < late ∨ room < 1 ∨ 4096 < room
def st0 (late room : Int) : St := ⟨late, room, 0, 0, 0, []⟩
theorem st0_ok {late room : Int} (h : ¬ badNew late room) : (st0 late room).Ok := by
  unfold badNew at h
  exact ⟨List.Pairwise.nil, fun x hx => (by simp [st0] at hx), fun x hx => (by simp [st0] at hx), by show (0 : Int) ≤ room; omega, by show room ≤ 4096; omega, Int.le_refl _, fun x hx => (by simp [st0] at hx)⟩

theorem c8 {late room : Int} {H : Hp} {Q : Option Addr → Int → Hp → Prop} (h1 : badNew late room → Q none 1 H)
    (h2 : ¬ badNew late room → ∀ H' g hb, PA H' g hb Sl.nil (st0 late room) → Kp No H H' → H.size ≤ g → H.size ≤ hb → Q (some ⟨g, 0, none⟩) 0 H') : F6 late room H Q := by
  have key : ∀ b, (b = true ↔ badNew late room) → F6_1 Q late room b H := by
    intro b hb
    refine ⟨fun e => h1 (hb.1 e), fun e H1 e1 H2 e2 => ?_⟩
    have k1 := (Kp.refl No H).push' e1
    have s1 := size_push' e1
    refine h2 (fun h => by rw [hb.2 h] at e; cases e) H2 H1.size H.size ⟨[], ?_, ?_, Lst.nil _ _, fun j x y _ hx => (by simp at hx), fun x hx => (by simp at hx), List.Perm.refl _⟩ (k1.push' e2) (by omega) (Nat.le_refl _)
    · exact Row.new' e2
    · exact (Row.new' e1).push' e2
  refine ⟨fun hb => key _ ⟨fun _ => .inl (of_decide_eq_true hb), fun _ => rfl⟩, fun hb => ⟨fun hc => key _ ⟨fun _ => .inr (.inl (of_decide_eq_true hc)), fun _ => rfl⟩, fun hc => ⟨fun hd => key _ ⟨fun _ => .inr (.inr (.inl (of_decide_eq_true hd))), fun _ => rfl⟩, fun hd => key _ ?_⟩⟩⟩
  have hb := of_decide_eq_false hb
  have hc := of_decide_eq_false hc
  have hd := of_decide_eq_false hd
  simp only [decide_eq_true_eq, badNew]
  omega

end Go.Hw
