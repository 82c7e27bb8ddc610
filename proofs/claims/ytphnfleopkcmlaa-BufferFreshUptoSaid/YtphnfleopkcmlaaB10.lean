/- Buffer: Path, Runs, Nodes. Own work of this session. -/
import Derived.Test.YtphnfleopkcmlaaB9
set_option linter.unusedVariables false
namespace Go.Hw
open Go

/-- A list turned round in its place. -/
theorem c42 {H : Hp} {sl : Sl} {L : List Mk} {Q : Hp → Prop} (h : Lst mF H sl L) (hl : L.length ≤ 2097152) (hQ : ∀ H', Lst mF H' sl L.reverse → Kp sl.at H H' → Q H') : F42 sl H Q := by
  have hn := h.n
  intro X hX
  have hw : IntKind.i64.wrap ((sl.n : Int) - 1) = (L.length : Int) - 1 := by rw [wr (by omega) (by omega)]; omega
  rw [hw]
  suffices G : ∀ (d k : Nat) (H' : Hp) (L' : List Mk), L.length ≤ 2 * k + d → 2 * k ≤ L.length + 1 → Lst mF H' sl L' → L'.length = L.length → (∀ t, t < L.length → L'[t]? = if t < k ∨ L.length - k ≤ t then L[L.length - 1 - t]? else L[t]?) → Kp sl.at H H' → X (k : Int) ((L.length : Int) - 1 - k) H' by
    have := G L.length 0 H L (by omega) (by omega) h rfl (fun t ht => by rw [if_neg (by omega)]) (Kp.refl _ _)
    simpa using this
  have fin : ∀ (k : Nat) (H' : Hp) (L' : List Mk), L.length ≤ 2 * k + 1 → 2 * k ≤ L.length + 1 → Lst mF H' sl L' → L'.length = L.length → (∀ t, t < L.length → L'[t]? = if t < k ∨ L.length - k ≤ t then L[L.length - 1 - t]? else L[t]?) → Kp sl.at H H' → Q H' := by
    intro k H' L' h1 h2 l' e hi kk
    have : L' = L.reverse := by
      apply List.ext_getElem?
      intro t
      by_cases ht : t < L.length
      · rw [hi t ht, List.getElem?_reverse ht]
        split
        · rfl
        · rename_i hh
          rw [show L.length - 1 - t = t from by omega]
      · rw [List.getElem?_eq_none (by omega), List.getElem?_eq_none (by simp; omega)]
    exact hQ H' (this ▸ l') kk
  intro d
  induction d using Nat.strongRecOn with
  | _ d ih =>
    intro k H' L' h1 h2 l' e hi kk
    by_cases hk : L.length ≤ 2 * k + 1
    · exact hX _ _ _ ⟨fun hh => absurd (of_decide_eq_true hh) (by omega), fun _ => fin k H' L' hk h2 l' e hi kk⟩
    · have hn' := l'.n
      have hki : k < L'.length := by omega
      have hji : L.length - 1 - k < L'.length := by omega
      have gi : L'[k]? = some L'[k] := List.getElem?_eq_getElem hki
      have gj : L'[L.length - 1 - k]? = some L'[L.length - 1 - k] := List.getElem?_eq_getElem hji
      have hj : ((L.length : Int) - 1 - k) = ((L.length - 1 - k : Nat) : Int) := by omega
      rw [hj]
      obtain ⟨a, ha, _, ca⟩ := l'.rd.get gj
      obtain ⟨b, hb, _, cb⟩ := l'.rd.get gi
      obtain ⟨a2, ha2, hs2, hn2, hm2, hset⟩ := l'.set hki L'[L.length - 1 - k]
      refine hX _ _ _ ⟨fun _ => ⟨a, ha, by omega, by omega, _, _, ca, b, hb, by omega, by omega, _, _, cb, a2, ha2, by omega, by omega, hm2, fun H23 e23 => ?_⟩, fun hh => absurd (of_decide_eq_false hh) (by omega)⟩
      obtain ⟨l23, k23⟩ := hset H23 e23
      obtain ⟨a3, ha3, hs3, hn3, hm3, hset3⟩ := l23.set (i := L.length - 1 - k) (by rw [List.length_set]; omega) L'[k]
      refine ⟨a3, ha3, by omega, by omega, hm3, fun H30 e30 => ?_⟩
      obtain ⟨l30, k30⟩ := hset3 H30 e30
      rw [wr (by omega) (by omega), wr (by omega) (by omega)]
      have e1 : (k : Int) + 1 = ((k + 1 : Nat) : Int) := by omega
      have e2 : ((L.length - 1 - k : Nat) : Int) - 1 = (L.length : Int) - 1 - ((k + 1 : Nat) : Int) := by omega
      rw [e1, e2]
      refine ih (d - 2) (by omega) (k + 1) H30 _ (by omega) (by omega) l30 (by simp [e]) (fun t ht => ?_) (kk.trans (k23.trans k30 fun _ h => .inl h) fun _ h => .inl h)
      rw [List.getElem?_set, List.getElem?_set, List.length_set]
      by_cases h3 : L.length - 1 - k = t
      · rw [if_pos h3, if_pos (by omega), if_pos (by omega), ← gi, hi k (by omega), if_neg (by omega)]
        congr 1; omega
      · rw [if_neg h3]
        by_cases h4 : k = t
        · rw [if_pos h4, if_pos (by omega), if_pos (by omega), ← gj, hi _ (by omega), if_neg (by omega)]
          congr 1; omega
        · rw [if_neg h4, hi t ht]
          by_cases h5 : t < k ∨ L.length - k ≤ t
          · rw [if_pos h5, if_pos (by omega)]
          · rw [if_neg h5, if_neg (by omega)]

section
variable {F : Nat → Prop} {H : Hp} {g n : Nat} {st : Int} {f : Fn}

theorem WP.chain {A : List Ch} {en hl : Nat → Nat} (h : WP A en hl) : ∀ (t : List W0) (x : W0), (⟨x, t⟩ : Ch) ∈ A → t.length ≤ x.num ∧ ∀ y s pre, x :: t = pre ++ (y :: s) → (⟨y, s⟩ : Ch) ∈ A
  | [], x, hx => ⟨Nat.zero_le _, fun y s pre e => by
    cases pre with
    | nil => injection e with e1 e2; subst e1 e2; exact hx
    | cons p pre => simp at e⟩
  | z :: t, x, hx => by
    obtain ⟨h1, h2⟩ := h.cl _ hx z t rfl
    obtain ⟨h3, h4⟩ := h.chain t z h1
    have h2 : z.num < x.num := h2
    refine ⟨by simp; omega, fun y s pre e => ?_⟩
    cases pre with
    | nil => injection e with e1 e2; subst e1 e2; exact hx
    | cons p pre =>
      injection e with e1 e2
      exact h4 y s pre e2

theorem run_of {R : List (Option (Nat × Ch))} {i : Int} {p : Nat × Ch} (ha : atI (fnOf R) i = some p) : some p ∈ R := by
  unfold atI at ha
  split at ha
  · cases ha
  · unfold fnOf at ha
    cases hr : R[i.toNat]? with
    | none => rw [hr] at ha; cases ha
    | some x =>
      rw [hr] at ha
      have : x = some p := ha
      rw [← this]; exact List.mem_of_getElem? hr

theorem c22 {i : Int} {Q : Sl → Int → Hp → Prop} (h : BI F H g st n f) (hn : n ≤ 1000000) (q0 : atI f i = none → Q Sl.nil 130 H)
    (q1 : ∀ l, atI f i = some l → l.length ≤ n + 1 → ∀ H' r, Lst mF H' r l.reverse → (∀ b, r.at b → H.size ≤ b) → Kp No H H' → Q r 0 H') : F22 (some ⟨g, 0, none⟩) i H Q := by
  obtain ⟨raised, nb, N, A, hl, rs, R, b, rfl⟩ := h
  rw [rows_at] at q0 q1
  have hrl := b.rlen
  have hrz := b.rz
  refine c38 b.row b.rl.rd (by omega) ?_
  cases ha : atI (fnOf R) i with
  | none => exact ⟨fun _ => q0 (by rw [ha]; rfl), fun hh => by cases hh⟩
  | some p =>
    have hp := run_of ha
    have hA := b.ra p hp
    have hrp := (b.rn p hp).2
    have hch : p.2.tl.length ≤ p.2.hd.num := (b.wp.chain _ _ hA).1
    have hbd : p.2.hd.num ≤ raised := (b.bd _ hA).1
    have hlen : p.2.marks.length ≤ n + 1 := by simp [Ch.marks]; omega
    have q1 := q1 p.2.marks (by rw [ha]; rfl) hlen
    refine ⟨fun hh => (by cases hh), fun _ => ⟨_, rfl, _, _, hrp.cells (o := 0) (i := 0) rfl, _, rfl, p.2.hd.sl, hrp.cell_of (i := 2) rfl, fun H14 e14 => ?_⟩⟩
    have k14 := (Kp.refl No H).push' e14
    have s14 := size_push' e14
    have m14 : Row H14 H.size 32 [.int .i64 0, .int .i64 0] := Row.new' e14
    have p14 := k14.row hrp id
    refine ⟨p14.cell_of (i := 2) rfl, p14.cells (o := 0) (i := 0) rfl, m14.mayall, fun H18 e18 => ?_⟩
    have m18 : Row H18 H.size 32 [.int .i64 p.2.hd.mark.1, .int .i64 p.2.hd.mark.2] := m14.fill' e18 rfl
    have k18 : Kp No H H18 := k14.trans ((Kp.refl (fun b => b = H.size) _).sets' e18 (.inl rfl)) fun b hb => .inr (by omega)
    refine ⟨(k18.row hrp id).cell_of (i := 2) rfl, ?_⟩
    intro X hX
    suffices G : ∀ (cur : List W0) (acc : List Mk) (l : Sl) (y : Nat) (H' : Hp), acc.length + cur.length ≤ n + 1 → acc ++ cur.map (·.mark) = p.2.marks → (∀ x t, cur = x :: t → ⟨x, t⟩ ∈ A) → Lst mF H' l acc → (∀ b, l.at b → H.size ≤ b) → Row H' y 32 [.int .i64 (ahead cur).1.1, .int .i64 (ahead cur).1.2] → H.size ≤ y → Kp No H H' → ¬ l.at y → X l ⟨y, 0, none⟩ (ahead cur).2 H' from
      G (p.2.hd :: p.2.tl) [] Sl.nil H.size H18 (by simp [Ch.marks] at hlen ⊢; omega) rfl (fun x t e => by injection e with e1 e2; subst e1 e2; exact hA) (Lst.nil _ _) (fun b hb => by cases hb) m18 (Nat.le_refl _) k18 fun hb => by cases hb
    intro cur
    induction cur with
    | nil =>
      intro acc l y H' hlen he _ la hla my hy k hly
      refine hX _ _ _ _ ⟨fun hh => (by cases hh), fun _ => ?_⟩
      have hacc : acc = p.2.marks := by rw [← he]; simp
      have hlen' : acc.length ≤ n + 1 := by simp at hlen; omega
      refine c42 la (by omega) fun H2 l2 k2 => q1 H2 l (hacc ▸ l2) hla (k.trans k2 fun b hb => .inr (hla b hb))
    | cons x t ih =>
      intro acc l y H' hlen he hc la hla my hy k hly
      have hxA := hc x t rfl
      have b' := b.kp k fun _ _ => id
      obtain ⟨hv, hlast, hvl, _⟩ := b'.wi.ver _ hxA
      have hvb : ∃ b, x.sl.at b := hv.some (by
        cases hx : x.ver with
        | nil => rw [hx] at hlast; cases hlast
        | cons _ _ => simp)
      obtain ⟨vb, hvb⟩ := hvb
      have hnn : (!(ahead (x :: t)).2.b.isNone) = true := by
        have hvb : x.sl.b = some ⟨vb, 0, none⟩ := hvb
        simp [ahead, hvb]
      refine hX _ _ _ _ ⟨fun _ => ⟨_, _, my.all, c40 b'.row b'.wi hxA fun H30 k30 => ?_⟩, fun hh => absurd (hnn.symm.trans hh) (by decide)⟩
      have b30 := b'.kp k30 fun _ _ => id
      have my30 := k30.row my id
      have la30 := la.kp k30 fun _ _ => id
      refine ⟨_, _, my30.all, fun H36 e36 => ?_⟩
      have k36 : Kp No H30 H36 := (Kp.refl No _).push' e36
      have la36 := la30.kp k36 fun _ _ => id
      have bx36 : Row H36 H30.size 32 (mF.f x.mark) := Row.new' e36
      have hla_len : acc.length ≤ 1000001 := by omega
      have s30 := k30.size
      have s36 := size_push' e36
      have sH := k.size
      refine la36.append1 bx36 rfl (by omega) (by omega) fun r40 H38 l38 k38 hs38 => ?_
      have hFl : ∀ b, F b → ¬ l.at b := fun bb hb hh => by
        have h1 := hla bb hh
        have h2 := b.wi.lt bb hb
        omega
      have b38 := (b30.kp k36 fun _ _ => id).kp k38 hFl
      have hrow := (b38.wi.row _ hxA).2
      have my38 := k38.row (k36.row my30 id) hly
      have hyl := my.lt
      have s38 := k38.size
      have hry : ¬ r40.at y := fun hh => by
        rcases hs38 y hh with hh | hh
        · exact hly hh
        · omega
      have hxF : ∀ b, F b → b ≠ y := fun bb hb hh => by
        have h2 := b.wi.lt bb hb
        omega
      refine ⟨_, rfl, _, _, hrow.cells (o := 1) (i := 0) rfl, _, rfl, (ahead t).2, hrow.cell_of (i := 3) rfl, my38.mayall, fun H50 e50 => ?_⟩
      have my50 : Row H50 y 32 [.int .i64 (ahead t).1.1, .int .i64 (ahead t).1.2] := my38.fill' e50 rfl
      have k50 : Kp (fun b => b = y) H38 H50 := (Kp.refl _ _).sets' e50 (.inl rfl)
      have s50 := k50.size
      have b50 := b38.kp k50 hxF
      have hrow50 := (b50.wi.row _ hxA).2
      refine ⟨hrow50.cell_of (i := 3) rfl, _, _, my50.all, fun H57 e57 => ?_⟩
      have k57 : Kp No H50 H57 := (Kp.refl No _).push' e57
      have s57 := size_push' e57
      have z57 : Row H57 H50.size 32 [.int .i64 0, .int .i64 0] := Row.new' e57
      refine ⟨z57.mayall, fun H59 e59 => ?_⟩
      have z59 : Row H59 H50.size 32 [.int .i64 (ahead t).1.1, .int .i64 (ahead t).1.2] := z57.fill' e59 rfl
      have k59 : Kp No H50 H59 := k57.trans ((Kp.refl (fun b => b = H50.size) _).sets' e59 (.inl rfl)) fun b hb => .inr (by omega)
      have l59 := (l38.kp k50 fun bb hb hh => hry (hh ▸ hb)).kp k59 fun _ _ => id
      have hrl38 : ∀ bb, r40.at bb → bb < H50.size := fun bb hb => by have := l38.lt hb; omega
      refine ih (acc ++ [x.mark]) r40 H50.size H59 (by simp at hlen ⊢; omega) (by rw [← he]; simp) (fun y s e => (b.wp.cl _ hxA y s e).1) l59 (fun bb hb => ?_) z59 (by omega) ?_ fun hh => absurd (hrl38 _ hh) (by omega)
      · rcases hs38 bb hb with hb | hb
        · exact hla bb hb
        · omega
      · refine ((((k.trans k30 fun _ h => h.elim).trans k36 fun _ h => h.elim).trans k38 fun bb hb => .inr (hla bb hb)).trans k50 fun bb hb => .inr (by omega)).trans k59 fun _ h => h.elim

/-- The handles that have a run. -/
def runsOf (f : Fn) (n : Nat) : List Nat := (List.range n).filter fun i => (f i).isSome
theorem runsOf_succ (f : Fn) (n : Nat) : runsOf f (n + 1) = runsOf f n ++ if (f n).isSome then [n] else [] := by
  unfold runsOf
  rw [List.range_succ, List.filter_append, List.filter_cons]
  rfl
theorem runsOf_more {f : Fn} {k n : Nat} (h : k ≤ n) (hf : ∀ i, k ≤ i → f i = none) : runsOf f n = runsOf f k := by
  induction n with
  | zero => obtain rfl : k = 0 := by omega
            rfl
  | succ n ih =>
    by_cases hk : k = n + 1
    · rw [hk]
    · rw [runsOf_succ, ih (by omega), hf n (by omega)]
      simp
theorem runsOf_len (f : Fn) (n : Nat) : (runsOf f n).length ≤ n := by
  unfold runsOf
  have := List.length_filter_le (fun i => (f i).isSome) (List.range n)
  simpa using this
abbrev ints (l : List Nat) : List Int := l.map fun (i : Nat) => (i : Int)

theorem rows_none {R : List (Option (Nat × Ch))} {i : Nat} (h : R.length ≤ i) : rows R i = none := by
  unfold rows fnOf
  rw [List.getElem?_eq_none (by simpa using h)]; rfl
theorem rows_get {R : List (Option (Nat × Ch))} {i : Nat} (h : i < R.length) : rows R i = R[i].map fun p => p.2.marks := by
  unfold rows
  rw [fnOf_map]
  unfold fnOf
  rw [List.getElem?_eq_getElem h]; rfl

theorem c21 {Q : Sl → Hp → Prop} (h : BI F H g st n f) (hn : n ≤ 1000000) (hQ : ∀ H' r, Lst iF H' r (ints (runsOf f n)) → (∀ b, r.at b → H.size ≤ b) → Kp No H H' → Q r H') : F21 (some ⟨g, 0, none⟩) H Q := by
  obtain ⟨raised, nb, N, A, hl, rs, R, b, rfl⟩ := h
  have hrl := b.rlen
  have hrn := b.rl.n
  rw [List.length_map] at hrn
  refine ⟨_, rfl, rs, b.row.cell_of (i := 3) rfl, fun X hX => ?_⟩
  suffices G : ∀ (d i : Nat) (l : Sl) (H' : Hp), i + d = R.length → Lst iF H' l (ints (runsOf (rows R) i)) → (∀ b, l.at b → H.size ≤ b) → Kp No H H' → X l (i : Int) H' from G R.length 0 Sl.nil H (by omega) (Lst.nil _ _) (fun b hb => by cases hb) (Kp.refl _ _)
  intro d
  induction d with
  | zero =>
    intro i l H' hi la hla k
    refine hX _ _ _ ⟨fun hh => absurd (of_decide_eq_true hh) (by omega), fun _ => hQ H' l ?_ hla k⟩
    rw [runsOf_more hrl fun j hj => rows_none hj]
    obtain rfl : i = R.length := by omega
    exact la
  | succ d ih =>
    intro i l H' hi la hla k
    have hil : i < R.length := by omega
    have b' := b.kp k fun _ _ => id
    obtain ⟨p, hp, _, cp⟩ := b'.rl.rd.get (i := i) (x := rp R[i]) (by rw [List.getElem?_map, List.getElem?_eq_getElem hil]; rfl)
    have hx := rows_get hil
    have hw : IntKind.i64.wrap ((i : Int) + 1) = ((i + 1 : Nat) : Int) := by rw [wr (by omega) (by omega)]; omega
    refine hX _ _ _ ⟨fun _ => ⟨p, hp, by omega, by omega, _, cp.1, fun hh => ?_, fun hh => ?_⟩, fun hh => absurd (of_decide_eq_false hh) (by omega)⟩
    · intro H20 e20
      have k20 : Kp No H' H20 := (Kp.refl No _).push' e20
      have s20 := size_push' e20
      have bx : Row H20 H'.size 3 (iF.f (i : Int)) := Row.new' e20
      have hlen := runsOf_len (rows R) i
      have sH := k.size
      refine (la.kp k20 fun _ _ => id).append1 bx rfl (by simp [ints]; omega) (by simp [ints]; omega) fun r24 H22 l22 k22 hs22 => ?_
      unfold F21_3
      rw [hw]
      refine ih (i + 1) r24 H22 (by omega) ?_ (fun bb hb => ?_) ((k.trans k20 fun _ h => h.elim).trans k22 fun bb hb => .inr (hla bb hb))
      · rw [runsOf_succ, hx]
        cases hr : R[i] with
        | none => rw [hr] at hh; cases hh
        | some q => simpa [ints] using l22
      · rcases hs22 bb hb with hb | hb
        · exact hla bb hb
        · omega
    · unfold F21_3
      rw [hw]
      refine ih (i + 1) l H' (by omega) ?_ hla k
      rw [runsOf_succ, hx]
      cases hr : R[i] with
      | none => simpa [ints] using la
      | some q => rw [hr] at hh; cases hh

/-- A mark stands in a row. -/
def OnRow (f : Fn) (m : Mk) : Prop := ∃ i l, f i = some l ∧ m ∈ l

theorem BJ.inrun {raised nb : Nat} {N : ML Mk (Option Nat)} {A : List Ch} {hl : Nat → Nat} {rs : Sl} {R : List (Option (Nat × Ch))} (b : BJ F H g st n raised nb N A hl rs R) : ∀ (d : Nat) (c : Ch), c ∈ A → raised ≤ c.hd.num + d → ∃ p pre, some p ∈ R ∧ p.2.hd :: p.2.tl = pre ++ (c.hd :: c.tl) := by
  intro d
  induction d with
  | zero =>
    intro c hc hd
    have h0 := b.wp.pos c hc
    have h1 := b.wp.cnt c hc
    by_cases he : 0 < ends R c.hd.num
    · obtain ⟨x, hx, hp⟩ := List.countP_pos_iff.1 he
      have hp := of_decide_eq_true hp
      cases x with
      | none => cases hp
      | some p =>
        injection hp with hp
        have := b.wp.un (b.ra p hx) hc hp
        exact ⟨p, [], hx, by rw [this]; rfl⟩
    · have hk : 0 < kids A c.hd.num := by omega
      obtain ⟨c', hc', hu⟩ := List.countP_pos_iff.1 hk
      have hu := of_decide_eq_true hu
      unfold Ch.up at hu
      cases ht : c'.tl with
      | nil => rw [ht] at hu; cases hu
      | cons x t =>
        rw [ht] at hu
        injection hu with hu
        have hu : x.num = c.hd.num := hu
        obtain ⟨h2, h3⟩ := b.wp.cl c' hc' x t ht
        have := (b.bd c' hc').1
        omega
  | succ d ih =>
    intro c hc hd
    have h0 := b.wp.pos c hc
    have h1 := b.wp.cnt c hc
    by_cases he : 0 < ends R c.hd.num
    · obtain ⟨x, hx, hp⟩ := List.countP_pos_iff.1 he
      have hp := of_decide_eq_true hp
      cases x with
      | none => cases hp
      | some p =>
        injection hp with hp
        have := b.wp.un (b.ra p hx) hc hp
        exact ⟨p, [], hx, by rw [this]; rfl⟩
    · have hk : 0 < kids A c.hd.num := by omega
      obtain ⟨c', hc', hu⟩ := List.countP_pos_iff.1 hk
      have hu := of_decide_eq_true hu
      unfold Ch.up at hu
      cases ht : c'.tl with
      | nil => rw [ht] at hu; cases hu
      | cons x t =>
        rw [ht] at hu
        injection hu with hu
        have hu : x.num = c.hd.num := hu
        obtain ⟨h2, h3⟩ := b.wp.cl c' hc' x t ht
        obtain ⟨p, pre, h4, h5⟩ := ih c' hc' (by omega)
        have : (⟨x, t⟩ : Ch) = c := b.wp.un h2 hc hu
        subst this
        exact ⟨p, pre ++ [c'.hd], h4, by rw [h5, ht]; simp⟩

theorem c19 {Q : Int → Hp → Prop} (h : BI F H g st n f) (hQ : ∀ D : List Mk, D.Nodup → (∀ m, m ∈ D ↔ OnRow f m) → Q D.length H) : F19 (some ⟨g, 0, none⟩) H Q := by
  obtain ⟨raised, nb, N, A, hl, rs, R, b, rfl⟩ := h
  obtain ⟨c, hc⟩ := b.wi.cm
  refine ⟨_, rfl, _, b.row.cell_of (i := 2) rfl, N, c, hc, ?_⟩
  have := hQ (mkeys N) b.wi.nk fun m => ⟨fun hm => ?_, fun ⟨i, l, hi, hm⟩ => ?_⟩
  · simpa [mkeys] using this
  · obtain ⟨e, he, rfl⟩ := List.mem_map.1 hm
    obtain ⟨c, hc, h1⟩ := b.full e he
    obtain ⟨p, pre, h2, h3⟩ := b.inrun raised c hc (by omega)
    obtain ⟨i, hi, h4⟩ := List.getElem_of_mem h2
    refine ⟨i, p.2.marks, by rw [rows_get hi, h4]; rfl, ?_⟩
    have : p.2.marks = (p.2.hd :: p.2.tl).map (·.mark) := rfl
    rw [this, h3, ← h1]
    simp
  · have hil : i < R.length := by
      by_cases h : i < R.length
      · exact h
      · rw [rows_none (by omega)] at hi; cases hi
    rw [rows_get hil] at hi
    cases hr : R[i] with
    | none => rw [hr] at hi; cases hi
    | some p =>
      rw [hr] at hi
      injection hi with hi
      have hp : some p ∈ R := hr ▸ List.getElem_mem hil
      have hmm : m ∈ (p.2.hd :: p.2.tl).map (·.mark) := by rw [← hi] at hm; exact hm
      obtain ⟨w, hw, rfl⟩ := List.mem_map.1 hmm
      obtain ⟨pre, s, hs⟩ := List.append_of_mem hw
      have := (b.wp.chain _ _ (b.ra p hp)).2 w s pre hs
      exact b.wi.all _ this
end
end Go.Hw
