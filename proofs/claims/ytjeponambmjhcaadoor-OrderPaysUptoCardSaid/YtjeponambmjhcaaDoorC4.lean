/- Contracts: the program's gate. Own work of this session. -/
import Derived.Test.YtjeponambmjhcaaDoorSP
set_option linter.unusedVariables false
namespace Go.Hw
open Go

theorem Lst.disj {α β : Type} {t k u m : Nat} {F : Fmt α t k} {G : Fmt β u m} {H : Hp} {s s' : Sl} {L : List α} {M : List β} (h : Lst F H s L) (h' : Lst G H s' M) (hne : t ≠ u) {b : Nat} (hb : s.at b) : ¬ s'.at b := fun hb' => by
  obtain ⟨_, r⟩ := h.row hb
  obtain ⟨_, r'⟩ := h'.row hb'
  exact r.ne_type r' hne rfl

def Vals (H : Hp) (E : List EC) : Prop := ∀ x ∈ E, Lst vF H x.sl x.vs ∧ x.vs.length ≤ 1048576
theorem Vals.kp {S : Nat → Prop} {H H' : Hp} {E : List EC} (h : Vals H E) (k : Kp S H H') (hs : ∀ b l, S b → ¬ Row H b 76 l) : Vals H' E := fun x hx =>
  ⟨(h x hx).1.kp k fun b hb hS => by
    obtain ⟨_, r⟩ := (h x hx).1.row hb
    exact hs b _ hS r, (h x hx).2⟩

/-- The program's gate: its blocks, what it holds. -/
structure PL (H : Hp) (g hb : Nat) (sl : Sl) (s : St) (L : List HC) : Prop where
  row : Row H g 63 [.int .i64 s.late, .int .i64 s.room, .int .i64 s.count, .int .i64 s.top, .int .i64 s.mark, .pointer (some ⟨hb, 0, none⟩)]
  hrow : Row H hb 61 [Sl.v sl, lessv]
  lst : Lst hF H sl L
  heap : Heap hlt L
  vals : Vals H (L.map HC.e)
  perm : (L.map HC.ne).Perm s.C

def fp (g hb : Nat) (sl : Sl) (b : Nat) : Prop := b = g ∨ b = hb ∨ sl.at b
def PA (H : Hp) (g hb : Nat) (sl : Sl) (s : St) : Prop := ∃ L, PL H g hb sl s L

theorem PL.not49 {H : Hp} {g hb : Nat} {sl : Sl} {s : St} {L : List HC} (h : PL H g hb sl s L) : ∀ b l, fp g hb sl b → ¬ Row H b 76 l := fun b l hb r => by
  rcases hb with rfl | rfl | hb
  · exact r.ne_type h.row (by decide) rfl
  · exact r.ne_type h.hrow (by decide) rfl
  · exact h.lst.ne r (by decide) hb
theorem PL.kp {H H' : Hp} {g hb : Nat} {sl : Sl} {s : St} {L : List HC} {S : Nat → Prop} (h : PL H g hb sl s L) (k : Kp S H H') (hs : ∀ b, fp g hb sl b → ¬ S b) (h49 : ∀ b l, S b → ¬ Row H b 76 l) : PL H' g hb sl s L :=
  ⟨k.row h.row (hs _ (.inl rfl)), k.row h.hrow (hs _ (.inr (.inl rfl))), h.lst.kp k fun b hb => hs _ (.inr (.inr hb)), h.heap, h.vals.kp k h49, h.perm⟩
theorem PL.lt {H : Hp} {g hb : Nat} {sl : Sl} {s : St} {L : List HC} (h : PL H g hb sl s L) {b : Nat} (hb : fp g hb sl b) : b < H.size := by
  rcases hb with rfl | rfl | hb
  · exact h.row.lt
  · exact h.hrow.lt
  · exact h.lst.lt hb

/-- An answer: a list of events of its own. -/
def Ans (H : Hp) (r : Sl) (R : List EV) : Prop := ∃ E : List EC, Lst eF H r E ∧ Vals H E ∧ E.map EC.ev = R
theorem Ans.nil (H : Hp) : Ans H Sl.nil [] := ⟨[], Lst.nil _ _, fun x hx => by simp at hx, rfl⟩
theorem Ans.kp {S : Nat → Prop} {H H' : Hp} {r : Sl} {R : List EV} (h : Ans H r R) (k : Kp S H H') (hs : ∀ b l, S b → ¬ Row H b 76 l) (hr : ∀ b l, S b → ¬ Row H b 33 l) : Ans H' r R := by
  obtain ⟨E, h1, h2, h3⟩ := h
  refine ⟨E, h1.kp k fun b hb hS => ?_, h2.kp k hs, h3⟩
  obtain ⟨_, r⟩ := h1.row hb
  exact hr b _ hS r

theorem hlt_ne {x y : HC} : nlt x.ne y.ne ↔ hlt x y := Iff.rfl

theorem c37x {H : Hp} {g hb : Nat} {sl : Sl} {s : St} {L : List HC} {Q : Sl → Hp → Prop} (h : PL H g hb sl s L) (hd : s.C.Pairwise dis) (hl : L.length ≤ 1048576)
    (hQ : ∀ r H' sl' L' O, PL H' g hb sl' { s with C := rest s.mark s.C } L' → Lst eF H' r (O.map HC.e) → Vals H' (O.map HC.e) → (O.map HC.e).map EC.ev = (out s.mark s.C).map NE.e → (O ++ L').Perm L → Kp (fun b => b = hb ∨ sl.at b) H H' → (∀ b, sl'.at b → sl.at b) → (∀ b, r.at b → H.size ≤ b) → Q r H') : F24 (some ⟨g, 0, none⟩) H Q := by
  intro X hX
  have ng : ¬ (g = hb ∨ sl.at g) := fun h' => h'.elim (h.row.ne_type h.hrow (by decide)) (h.lst.ne h.row (by decide))
  have n49 : ∀ b l, (b = hb ∨ sl.at b) → ¬ Row H b 76 l := fun b l hb => h.not49 b l (.inr hb)
  suffices G : ∀ (m : Nat) (H1 : Hp) (L1 O : List HC) (sl1 r1 : Sl), L1.length ≤ m → Row H1 hb 61 [Sl.v sl1, lessv] → Lst hF H1 sl1 L1 → Heap hlt L1 → (O ++ L1).Perm L → O.Pairwise (fun x y => ¬ hlt y x) → (∀ x ∈ O, ∀ y ∈ L1, ¬ hlt y x) → (∀ x ∈ O, x.e.tm ≤ s.mark) →
      Lst eF H1 r1 (O.map HC.e) → (∀ b, r1.at b → H.size ≤ b) → Kp (fun b => b = hb ∨ sl.at b) H H1 → (∀ b, sl1.at b → sl.at b) → X r1 H1 from
    G L.length H L [] sl Sl.nil (Nat.le_refl _) h.hrow h.lst h.heap (List.Perm.refl _) List.Pairwise.nil (fun x hx => by simp at hx) (fun x hx => by simp at hx) (Lst.nil _ _) (fun b hb => by cases hb) (Kp.refl _ _) (fun b => id)
  have fin : ∀ (H1 : Hp) (L1 O : List HC) (sl1 r1 : Sl), Row H1 hb 61 [Sl.v sl1, lessv] → Lst hF H1 sl1 L1 → Heap hlt L1 → (O ++ L1).Perm L → O.Pairwise (fun x y => ¬ hlt y x) → (∀ x ∈ O, x.e.tm ≤ s.mark) → (∀ x ∈ L1, s.mark < x.e.tm) →
      Lst eF H1 r1 (O.map HC.e) → (∀ b, r1.at b → H.size ≤ b) → Kp (fun b => b = hb ∨ sl.at b) H H1 → (∀ b, sl1.at b → sl.at b) → Q r1 H1 := by
    intro H1 L1 O sl1 r1 hr1 h1 hh hp hso hom hlm ho hor k hsl
    have hpm : (O.map HC.ne ++ L1.map HC.ne).Perm s.C := by
      rw [← List.map_append]; exact (hp.map HC.ne).trans h.perm
    have hO : O.map HC.ne = out s.mark s.C := out_unique hd hpm (fun x hx => by
      obtain ⟨y, hy, rfl⟩ := List.mem_map.1 hx; exact hom y hy) (fun x hx => by
      obtain ⟨y, hy, rfl⟩ := List.mem_map.1 hx; exact hlm y hy) (List.pairwise_map.2 hso)
    have hL := (split_at hpm (fun x hx => by
      obtain ⟨y, hy, rfl⟩ := List.mem_map.1 hx; exact hom y hy) (fun x hx => by
      obtain ⟨y, hy, rfl⟩ := List.mem_map.1 hx; exact hlm y hy)).2
    have hv : Vals H1 (L.map HC.e) := h.vals.kp k n49
    have hsub : ∀ x, x ∈ O ∨ x ∈ L1 → x.e ∈ L.map HC.e := fun x hx => List.mem_map_of_mem (hp.subset (by simpa using hx))
    refine hQ r1 H1 sl1 L1 O ⟨k.row h.row ng, hr1, h1, hh, fun e he => ?_, hL⟩ ho (fun e he => ?_) ?_ hp k hsl hor
    · obtain ⟨x, hx, rfl⟩ := List.mem_map.1 he
      exact hv _ (hsub x (.inr hx))
    · obtain ⟨x, hx, rfl⟩ := List.mem_map.1 he
      exact hv _ (hsub x (.inl hx))
    · rw [← hO]
      simp only [List.map_map]
      rfl
  intro m
  induction m with
  | zero =>
    intro H1 L1 O sl1 r1 hm hr1 h1 hh hp hso hol hom ho hor k hsl
    have hn := h1.n
    have hL1 : L1 = [] := List.eq_nil_of_length_eq_zero (by omega)
    refine hX _ _ ⟨_, rfl, _, (k.row h.row ng).cell_of (i := 5) rfl, _, rfl, _, hr1.cell_of (i := 0) rfl, fun hb => absurd (of_decide_eq_true hb) (by omega), fun _ => ?_⟩
    exact fin H1 L1 O sl1 r1 hr1 h1 hh hp hso hom (by subst hL1; simp) ho hor k hsl
  | succ m ih =>
    intro H1 L1 O sl1 r1 hm hr1 h1 hh hp hso hol hom ho hor k hsl
    have hn := h1.n
    have hg1 := k.row h.row ng
    refine hX _ _ ⟨_, rfl, _, hg1.cell_of (i := 5) rfl, _, rfl, _, hr1.cell_of (i := 0) rfl, fun h0 => ?_, fun h0 => ?_⟩
    · have h0 := of_decide_eq_true h0
      have hx : L1[0]? = some (L1[0]'(by omega)) := List.getElem?_eq_getElem (by omega)
      generalize L1[0]'(by omega) = x at hx
      obtain ⟨a, ha, hi0, ca⟩ := h1.rd.get hx
      have ct : cell H1 (((a.add ((0 : Int).toNat * 4)).add 1).add 1) = some (.int .i64 x.e.tm) := by rw [add_add]; exact ca.2.2.1
      refine ⟨_, rfl, _, hg1.cell_of (i := 5) rfl, _, rfl, _, hr1.cell_of (i := 0) rfl, a, ha, by omega, by omega, _, ct, _, rfl, _, hg1.cell_of (i := 4) rfl, fun hq => ?_, fun hq => ?_⟩
      · have hq := of_decide_eq_true hq
        have hlen := hp.length_eq
        simp only [List.length_append] at hlen
        refine ⟨_, rfl, _, hg1.cell_of (i := 5) rfl, c36 hr1 h1 (by omega) hh hx fun H2 sl2 L2 hp2 hh2 hr2 h2 k2 hsl2 H3 e3 => ?_⟩
        have ho2 := ho.kp k2 (fun b hb h' => by
          rcases h' with rfl | h'
          · exact ho.ne hr1 (by decide) hb
          · exact ho.disj h1 (by decide) hb h')
        have k12 : Kp (fun b => b = hb ∨ sl.at b) H H2 := k.trans k2 fun b hb => .inl (hb.imp id (hsl b))
        have k23 := (Kp.refl No H2).push' e3
        have s3 := size_push' e3
        have b3 : Row H3 H2.size 33 (eF.f x.e) := Row.new' e3
        refine (ho2.kp k23 fun _ _ => id).append1 b3 rfl (by simp; omega) (by simp; omega) fun r4 H4 h4 k4 hr4 => ?_
        have k34 : Kp r1.at H2 H4 := (k23.mono fun _ _ => False.elim).trans k4 fun _ => .inl
        have nr1 : ∀ b, b < H.size → ¬ r1.at b := fun b hb hr => by have := hor b hr; omega
        have ksz := k12.size
        have hp3 : ((O ++ [x]) ++ L2).Perm L := by
          rw [List.append_assoc]; exact (hp2.append_left O).trans hp
        refine ih H4 L2 (O ++ [x]) sl2 r4 (by have := hp2.length_eq; simp at this; omega) (k34.row hr2 (nr1 _ h.hrow.lt)) (h2.kp k34 fun b hb => nr1 _ (h.lst.lt (hsl b (hsl2 b hb)))) hh2 hp3 ?_ ?_ ?_ (by simpa using h4) ?_ ?_ (fun b hb => hsl b (hsl2 b hb))
        · rw [List.pairwise_append]
          refine ⟨hso, List.pairwise_singleton _ _, fun y hy z hz => ?_⟩
          rw [List.mem_singleton] at hz
          subst hz
          exact hol y hy _ (hp2.subset (List.mem_cons_self ..))
        · intro y hy z hz
          rcases List.mem_append.1 hy with hy | hy
          · exact hol y hy z (hp2.subset (List.mem_cons_of_mem _ hz))
          · rw [List.mem_singleton] at hy
            subst hy
            exact hh.root hOrd hx z (hp2.subset (List.mem_cons_of_mem _ hz))
        · intro y hy
          rcases List.mem_append.1 hy with hy | hy
          · exact hom y hy
          · rw [List.mem_singleton] at hy
            subst hy; exact hq
        · intro b hb
          rcases hr4 b hb with h | h
          · exact hor b h
          · omega
        · refine k12.trans k34 fun b hb => .inr (hor b hb)
      · have hq := of_decide_eq_false hq
        refine fin H1 L1 O sl1 r1 hr1 h1 hh hp hso hom (fun y hy => ?_) ho hor k hsl
        have := hh.root hOrd hx y hy
        unfold hlt at this
        omega
    · have h0 := of_decide_eq_false h0
      have hL1 : L1 = [] := List.eq_nil_of_length_eq_zero (by omega)
      exact fin H1 L1 O sl1 r1 hr1 h1 hh hp hso hom (by subst hL1; simp) ho hor k hsl

theorem c37 {H : Hp} {g hb : Nat} {sl : Sl} {s : St} {L : List HC} {Q : Sl → Hp → Prop} (h : PL H g hb sl s L) (hd : s.C.Pairwise dis) (hl : L.length ≤ 1048576)
    (hQ : ∀ r H' sl', PA H' g hb sl' { s with C := rest s.mark s.C } → Ans H' r ((out s.mark s.C).map NE.e) → Kp (fun b => b = hb ∨ sl.at b) H H' → (∀ b, sl'.at b → sl.at b) → (∀ b, r.at b → H.size ≤ b) → Q r H') : F24 (some ⟨g, 0, none⟩) H Q :=
  c37x h hd hl fun r H' sl' L' O h1 h2 h3 h4 _ k hs hr => hQ r H' sl' ⟨L', h1⟩ ⟨_, h2, h3, h4⟩ k hs hr

theorem c39 {H : Hp} {g hb : Nat} {sl : Sl} {s : St} {L : List HC} {now : Int} {Q : Int → Int → Hp → Prop} (h : PL H g hb sl s L) (hQ : Q (top' s now) (mark' s now) H) : F20 (some ⟨g, 0, none⟩) now H Q :=
  ⟨_, rfl, _, h.row.cell_of (i := 3) rfl, _, rfl, _, h.row.cell_of (i := 4) rfl, _, rfl, _, h.row.cell_of (i := 0) rfl, hQ⟩

/-- A gate's row written anew. -/
theorem PL.write {H H' : Hp} {g hb : Nat} {sl : Sl} {s s' : St} {L : List HC} (h : PL H g hb sl s L) (k : Kp (fun b => b = g) H H')
    (hr : Row H' g 63 [.int .i64 s'.late, .int .i64 s'.room, .int .i64 s'.count, .int .i64 s'.top, .int .i64 s'.mark, .pointer (some ⟨hb, 0, none⟩)]) (hC : s'.C = s.C) : PL H' g hb sl s' L :=
  ⟨hr, k.row h.hrow (h.hrow.ne_type h.row (by decide)), h.lst.kp k (fun b hb e => h.lst.ne h.row (by decide) (e ▸ hb)), h.heap, h.vals.kp k fun b l e => h.not49 b l (.inl e), by rw [hC]; exact h.perm⟩

theorem PL.len {H : Hp} {g hb : Nat} {sl : Sl} {s : St} {L : List HC} (h : PL H g hb sl s L) (ok : s.Ok) : L.length ≤ 4096 := by
  have := h.perm.length_eq
  have := ok.len
  have := ok.room
  rw [List.length_map] at *
  omega

theorem c26x {H : Hp} {g hb : Nat} {sl : Sl} {s : St} {L : List HC} {now : Int} {Q : Sl → Int → Hp → Prop} (h : PL H g hb sl s L) (ok : s.Ok)
    (hQ : ∀ r H' sl' L' O, PL H' g hb sl' (advance s now).2.2 L' → Lst eF H' r (O.map HC.e) → Vals H' (O.map HC.e) → (O.map HC.e).map EC.ev = (advance s now).1.map NE.e → (O ++ L').Perm L → Kp (fp g hb sl) H H' → (∀ b, sl'.at b → sl.at b) → (∀ b, r.at b → H.size ≤ b) → Q r (advance s now).2.1 H') : F14 (some ⟨g, 0, none⟩) now H Q := by
  have key : ∀ b, (b = true ↔ (now < 0 ∨ 4611686018427387904 < now)) → F14_1 Q (some ⟨g, 0, none⟩) now b H := by
    intro b hbb
    refine ⟨fun hb' => ?_, fun hb' => ?_⟩
    · have e : advance s now = ([], 23, s) := if_pos (hbb.1 hb')
      rw [e] at hQ
      exact hQ _ H sl L [] h (Lst.nil _ _) (fun x hx => by simp at hx) rfl (List.Perm.refl _) (Kp.refl _ _) (fun _ => id) (fun b hb => by cases hb)
    · have e : advance s now = (out (mark' s now) s.C, 0, { s with top := top' s now, mark := mark' s now, C := rest (mark' s now) s.C }) := if_neg (fun h => by rw [hbb.2 h] at hb'; cases hb')
      rw [e] at hQ
      refine c39 h ⟨_, rfl, h.row.some (i := 3) (by simp), h.row.frz 3, fun H1 e1 => ?_⟩
      have r1 := h.row.set' e1
      refine ⟨_, rfl, r1.some (i := 4) (by simp), r1.frz 4, fun H2 e2 => ?_⟩
      have r2 := r1.set' e2
      have k2 := ((Kp.refl (fun b => b = g) H).set' e1 (.inl rfl)).set' e2 (.inl rfl)
      have h2 : PL H2 g hb sl { s with top := top' s now, mark := mark' s now } L := h.write (s' := { s with top := top' s now, mark := mark' s now }) k2 r2 rfl
      refine c37x h2 ok.dis (by have := h.len ok; omega) fun r H3 sl' L' O h3 a3 v3 e3 hp k3 hs hr => ?_
      have := k2.size
      refine hQ r H3 sl' L' O h3 a3 v3 e3 hp ?_ hs (fun b hb => by have := hr b hb; omega)
      exact (k2.mono fun b _ e => .inl e).trans k3 fun b hb => .inl (.inr hb)
  refine ⟨fun hb => key _ ⟨fun _ => .inl (of_decide_eq_true hb), fun _ => rfl⟩, fun hb => key _ ?_⟩
  have hb := of_decide_eq_false hb
  simp only [decide_eq_true_eq]
  omega

theorem c26 {H : Hp} {g hb : Nat} {sl : Sl} {s : St} {L : List HC} {now : Int} {Q : Sl → Int → Hp → Prop} (h : PL H g hb sl s L) (ok : s.Ok)
    (hQ : ∀ r H' sl', PA H' g hb sl' (advance s now).2.2 → Ans H' r ((advance s now).1.map NE.e) → Kp (fp g hb sl) H H' → (∀ b, sl'.at b → sl.at b) → Q r (advance s now).2.1 H') : F14 (some ⟨g, 0, none⟩) now H Q :=
  c26x h ok fun r H' sl' L' O h1 h2 h3 h4 _ k hs _ => hQ r H' sl' ⟨L', h1⟩ ⟨_, h2, h3, h4⟩ k hs

end Go.Hw
