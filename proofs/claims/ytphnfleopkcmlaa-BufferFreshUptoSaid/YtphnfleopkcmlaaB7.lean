/- Buffer: New, Start. Own work of this session. -/
import Derived.Test.YtphnfleopkcmlaaB6
set_option linter.unusedVariables false
namespace Go.Hw
open Go

theorem WP.add {A : List Ch} {en hl : Nat → Nat} {c : Ch} (h : WP A (plus en c.up) hl) (new : ∀ c' ∈ A, c'.hd.num < c.hd.num) (hen : en c.hd.num = 0) (ctl : ∀ x t, c.tl = x :: t → ⟨x, t⟩ ∈ A) : WP (c :: A) (plus en (some c.hd.num)) (one1 hl c.hd.num) := by
  have hk : kids A c.hd.num = 0 := by
    unfold kids
    rw [List.countP_eq_zero]
    intro c' hc' hh
    have hh : c'.up = some c.hd.num := of_decide_eq_true hh
    unfold Ch.up at hh
    cases ht : c'.tl with
    | nil => rw [ht] at hh; cases hh
    | cons x t =>
      rw [ht] at hh
      injection hh with hh
      have hh : x.num = c.hd.num := hh
      have h1 : x.num < c'.hd.num := (h.cl c' hc' x t ht).2
      have h2 := new c' hc'
      omega
  refine ⟨?_, fun c' hc' x t e => ?_, fun c' hc' => ?_, fun c' hc' => ?_⟩
  · rw [List.map_cons, List.nodup_cons]
    refine ⟨fun hh => ?_, h.nd⟩
    obtain ⟨c', hc', he⟩ := List.mem_map.1 hh
    have := new c' hc'
    omega
  · rcases List.mem_cons.1 hc' with e1 | m1
    · subst e1
      exact ⟨List.mem_cons_of_mem _ (ctl x t e), new _ (ctl x t e)⟩
    · exact ⟨List.mem_cons_of_mem _ (h.cl c' m1 x t e).1, (h.cl c' m1 x t e).2⟩
  · have hkc : ∀ n, kids (c :: A) n = kids A n + (if c.up = some n then 1 else 0) := fun n => by
      unfold kids
      rw [List.countP_cons]
      simp
    rw [hkc]
    rcases List.mem_cons.1 hc' with e1 | m1
    · subst e1
      have : ¬ c'.up = some c'.hd.num := fun hh => by
        unfold Ch.up at hh
        cases ht : c'.tl with
        | nil => rw [ht] at hh; cases hh
        | cons x t =>
          rw [ht] at hh
          injection hh with hh
          have hh : x.num = c'.hd.num := hh
          have : x.num < c'.hd.num := new _ (ctl x t ht)
          omega
      rw [if_neg this, hk]
      simp [one1, plus, hen]
    · have hne : c'.hd.num ≠ c.hd.num := Nat.ne_of_lt (new c' m1)
      have := h.cnt c' m1
      simp only [one1, if_neg hne, plus] at this ⊢
      rw [if_neg (fun hh => hne (by injection hh with hh; exact hh.symm))]
      omega
  · rcases List.mem_cons.1 hc' with e1 | m1
    · subst e1; simp [one1]
    · simp only [one1, if_neg (Nat.ne_of_lt (new c' m1))]
      exact h.pos c' m1

theorem WP.inc {A : List Ch} {en hl : Nat → Nat} {c : Ch} (h : WP A en hl) (hc : c ∈ A) : WP A (plus en (some c.hd.num)) fun n => if n = c.hd.num then hl n + 1 else hl n := by
  refine ⟨h.nd, h.cl, fun c' hc' => ?_, fun c' hc' => ?_⟩
  · have := h.cnt c' hc'
    by_cases e : c'.hd.num = c.hd.num
    · simp only [plus, e, if_true] at this ⊢; omega
    · simp only [plus, if_neg e]
      rw [if_neg (fun hh => e (by injection hh with hh; exact hh.symm))]
      exact this
  · have := h.pos c' hc'
    show 0 < if c'.hd.num = c.hd.num then _ else _
    split <;> omega

theorem fnOf_map {α β : Type} (f : α → β) (R : List (Option α)) (i : Nat) : fnOf (R.map (Option.map f)) i = (fnOf R i).map f := by
  simp only [fnOf, List.getElem?_map]
  cases R[i]? <;> rfl

section
variable {F : Nat → Prop} {H0 H : Hp} {g nb n raised : Nat} {st : Int} {N : ML Mk (Option Nat)} {A : List Ch} {hl hl0 : Nat → Nat} {c : Ch} {rs : Sl} {R : List (Option (Nat × Ch))}

theorem ends_none (ra : ∀ p, some p ∈ R → p.2 ∈ A) {k : Nat} (new : ∀ c' ∈ A, c'.hd.num ≠ k) : ends R k = 0 := by
  unfold ends
  rw [List.countP_eq_zero]
  intro x hx hh
  have hh := of_decide_eq_true hh
  cases x with
  | none => cases hh
  | some p =>
    injection hh with hh
    exact new _ (ra p hx) hh

theorem rows_lay (p : Nat × Ch) : IsLeast (rows R) (lay R p).1 ∧ rows (lay R p).2 = upd (rows R) (lay R p).1 (some p.2.marks) := by
  have h1 := lay_map (fun p : Nat × Ch => p.2.marks) R p
  have h2 := lay_least (R.map (Option.map fun p : Nat × Ch => p.2.marks)) p.2.marks
  rw [h1] at h2
  exact h2

theorem c35B {HB : Hp} {Q : Int → Hp → Prop} (b : BJ F HB g st n raised nb N A hl0 rs R) (hFlt : ∀ b, F b → b < H0.size) (hsz : H0.size ≤ H.size) (r : Row H g 71 [.int .i64 st, .int .i64 ((raised + 1 : Nat) : Int), .map (some nb), Sl.v rs]) (wi : WI F H nb N A hl) (wp : WP A (plus (ends R) c.up) hl) (hb : ∀ c' ∈ A, hl c'.hd.num ≤ n + 1)
    (rl : Lst pF H rs (R.map rp)) (rn : ∀ p, some p ∈ R → Run F H p) (hn : n ≤ 1000000) (cn : c.hd.num = raised + 1) (hw : Row H c.hd.ad 79 (c.row 0)) (ha : H0.size ≤ c.hd.ad) (hver : Lst iF H c.hd.sl c.hd.ver) (hlast : c.hd.ver.getLast? = some (c.hd.num : Int)) (hvl : (c.hd.ver.length : Int) = c.hd.mark.1 + 1)
    (hm : 0 ≤ c.hd.mark.1 ∧ c.hd.mark.1 < st) (hsl : ∀ b, c.hd.sl.at b → H0.size ≤ b) (ctl : ∀ x t, c.tl = x :: t → ⟨x, t⟩ ∈ A)
    (hQ : ∀ H' i, IsLeast (rows R) i → BI (Ext F H0.size H'.size) H' g st (n + 1) (upd (rows R) i (some c.marks)) → Kp (Ext F H0.size H.size) H H' → (∀ b l, Row H b 83 l → Row H' b 83 l) → Q i H') : F35 (some ⟨g, 0, none⟩) c.hd.mark.1 c.hd.mark.2 c.hd.p H Q := by
  have hrl := b.rlen
  have hst := b.st1
  have hrz := b.rz
  have hnew : ∀ c' ∈ A, c'.hd.num < c.hd.num := fun c' hc' => by have := (b.bd c' hc').1; omega
  refine c35 r b.fg wi b.full (fun c' hc' => Nat.ne_of_lt (hnew c' hc')) hw (fun hh => by have := hFlt _ hh; omega) ⟨hver, hlast, by omega⟩ rl b.rf (by omega) rn (fun b => F b ∨ b = c.hd.ad ∨ c.hd.sl.at b) (fun _ => Iff.rfl) ?_
  intro H' N' rs' bb hb1 hb2 q1 q2 q3 q4 q5 q6 q7 q8
  have hs := q7.size
  have hwl := hw.lt
  have sub : ∀ b, Ext (fun b => F b ∨ b = c.hd.ad ∨ c.hd.sl.at b) H.size H'.size b → Ext F H0.size H'.size b := fun b hb => by
    rcases hb with (hb | hb | hb) | hb
    · exact .inl hb
    · exact .inr ⟨by omega, by omega⟩
    · have h1 := hsl b hb
      have h2 := hver.lt hb
      exact .inr ⟨by omega, by omega⟩
    · exact .inr ⟨by omega, by omega⟩
  obtain ⟨l1, l2⟩ := rows_lay (R := R) (bb, c)
  refine hQ H' _ l1 ⟨raised + 1, nb, N', c :: A, one1 hl c.hd.num, rs', _, ⟨q1, .inl b.fg, b.st1, by omega, q2.mono sub fun b hb => ?_, q3, ?_, fun c' hc' => ?_, q4, fun b hb => sub b (q5 b hb), ?_, fun p hp => ⟨sub _ (q6 p hp).1, (q6 p hp).2⟩, fun p hp => ?_⟩, l2.symm⟩ (q7.dec fun b hb => ?_) q8
  · rcases hb with hb | hb
    · have := hFlt b hb; omega
    · omega
  · rw [ends_lay]
    exact wp.add hnew (ends_none b.ra fun c' hc' => Nat.ne_of_lt (hnew c' hc')) ctl
  · rcases List.mem_cons.1 hc' with e1 | m1
    · subst e1
      exact ⟨by omega, hm.1, hm.2, hvl, by simp [one1]⟩
    · have h1 := b.bd c' m1
      refine ⟨by omega, h1.2.1, h1.2.2.1, h1.2.2.2.1, ?_⟩
      simp only [one1, if_neg (Nat.ne_of_lt (hnew c' m1))]
      exact hb c' m1
  · have := lay_len R (bb, c); omega
  · rcases lay_mem hp with e | m
    · rw [e]; exact List.mem_cons_self
    · exact List.mem_cons_of_mem _ (b.ra p m)
  · rcases hb with hb | hb | hb
    · exact .inl hb
    · exact .inr ⟨by omega, by omega⟩
    · have h1 := hsl b hb
      have h2 := hver.lt hb
      exact .inr ⟨by omega, by omega⟩
end

/-- Rows of other types may turn. -/
theorem WI.keep {F S : Nat → Prop} {H H' : Hp} {nb : Nat} {N : ML Mk (Option Nat)} {A : List Ch} {hl : Nat → Nat} (w : WI F H nb N A hl) (k : Kp S H H') (hS : ∀ b, S b → F b → ∃ t l, Row H b t l ∧ t ≠ 79 ∧ t ≠ 3) : WI F H' nb N A hl := by
  have hr : ∀ b t l, Row H b t l → F b → t = 79 ∨ t = 3 → ¬ S b := fun b t l r hf ht hb => by
    obtain ⟨u, m, r', h1, h2⟩ := hS b hb hf
    exact r.ne_type r' (by rcases ht with rfl | rfl <;> exact Ne.symm ‹_›) rfl
  have hm : ∀ {κ ν : Type} {f : κ → Value} {g' : ν → Value} {L : ML κ ν} {x c : Nat}, mapAt f g' H (some x) L c → F x → ¬ S x := fun m hf hb => by
    obtain ⟨u, l, r', _⟩ := hS _ hb hf
    exact m.ne r' rfl
  refine ⟨w.fn, w.cm.imp fun c m => m.kp k (hm m w.fn), w.nk, fun e he => ?_, w.sep, w.all, fun c hc => ?_, fun c hc => ?_, w.adn, fun b hb => Nat.lt_of_lt_of_le (w.lt b hb) k.size⟩
  · obtain ⟨ib, I, c, h1, h2, h3, h4, h5⟩ := w.inn e he
    exact ⟨ib, I, c, h1, h2, h3, h4.kp k (hm h4 h2), h5⟩
  · exact ⟨(w.row c hc).1, k.row (w.row c hc).2 (hr _ _ _ (w.row c hc).2 (w.row c hc).1 (.inl rfl))⟩
  · obtain ⟨h1, h2⟩ := w.ver c hc
    exact ⟨h1.kp k fun b hb => (h1.row hb).elim fun _ r => hr _ _ _ r (h2.2.2 b hb) (.inr rfl), h2⟩

/-- New. -/
theorem c9 {st : Int} {H : Hp} {Q : Option Addr → Int → Hp → Prop} (q1 : ¬ (1 ≤ st ∧ st ≤ 8) → Q none 1 H) (q2 : 1 ≤ st ∧ st ≤ 8 → ∀ H' g, BI (fun b => H.size ≤ b ∧ b < H'.size) H' g st 0 (fun _ => none) → Kp No H H' → Q (some ⟨g, 0, none⟩) 0 H') : F9 st H Q := by
  refine ⟨fun hh => ?_, fun hh => ⟨fun hh2 => ?_, fun hh2 => ?_⟩⟩
  · have := of_decide_eq_true hh
    exact ⟨fun _ => q1 (by omega), fun hh => by cases hh⟩
  · have := of_decide_eq_true hh2
    exact q1 (by omega)
  · have h1 := of_decide_eq_false hh
    have h2 := of_decide_eq_false hh2
    intro H6 e6 H8 e8
    have s6 := size_push' e6
    have s8 := size_push' e8
    have k6 := (Kp.refl No H).push' e6
    have k8 := (Kp.refl No H6).push' e8
    have r8 : Row H8 H6.size 71 [.int .i64 st, .int .i64 0, .map (some H.size), Sl.v Sl.nil] := Row.new' e8
    have m8 : mapAt mk32 mv94 H8 (some H.size) [] 0 := (mapAt.new e6).kp k8 id
    refine q2 ⟨by omega, by omega⟩ H8 H6.size ⟨0, H.size, [], [], fun _ => 0, Sl.nil, [], ⟨r8, ⟨by omega, by omega⟩, ⟨by omega, by omega⟩, Nat.le_refl _, ?_, fun e he => (by cases he), ?_, fun c hc => (by cases hc), Lst.nil _ _, fun b hb => (by cases hb), Nat.le_refl _, fun p hp => (by cases hp), fun p hp => (by cases hp)⟩, ?_⟩ (k6.trans k8 fun _ h => h.elim)
    · exact ⟨⟨by omega, by omega⟩, ⟨0, m8⟩, List.nodup_nil, fun e he => (by cases he), fun e he => (by cases he), fun e he => (by cases he), fun e he => (by cases he), fun e he => (by cases he), fun e he => (by cases he), fun b hb => hb.2⟩
    · exact ⟨List.nodup_nil, fun e he => (by cases he), fun e he => (by cases he), fun e he => (by cases he)⟩
    · funext i; simp [rows, fnOf]

/-- Start. -/
theorem c13 {F : Nat → Prop} {H : Hp} {g n : Nat} {st : Int} {f : Fn} {m : Mk} {Q : Int → Int → Hp → Prop} (h : BI F H g st n f) (hn : n ≤ 1000000) (q1 : m.1 ≠ 0 → ∀ H', Kp No H H' → Q 0 131 H')
    (q2 : m.1 = 0 → ∀ H' i, IsLeast f i → BI (Ext F H.size H'.size) H' g st (n + 1) (upd f i (some [m])) → Kp F H H' → Q i 0 H') : F13 (some ⟨g, 0, none⟩) m.1 m.2 H Q := by
  obtain ⟨raised, nb, N, A, hl, rs, R, b, rfl⟩ := h
  intro H1 e1
  have k1 := (Kp.refl No H).push' e1
  have s1 := size_push' e1
  have m1 : Row H1 H.size 32 [.int .i64 m.1, .int .i64 m.2] := Row.new' e1
  refine ⟨_, m1.cell_of (i := 0) rfl, fun hh => q1 (of_decide_eq_true hh) H1 k1, fun hh => ⟨_, _, m1.all, ?_⟩⟩
  have hm0 : m.1 = 0 := by
    have := of_decide_eq_false hh
    omega
  have b1 := b.kp k1 fun _ _ => id
  refine c37 (Lst.nil iF H1) (by decide) fun sl H9 l9 k9 hs9 => ?_
  have b9 := b1.kp k9 fun _ _ => id
  have m9 := k9.row m1 id
  have hlt : ∀ b, F b → b < H.size := b.wi.lt
  have hs9' := k9.size
  refine ⟨m9.all, c36 (L := []) (x := 0) b9.row l9 (by decide) (by have := b.rz; omega) fun H13 r13 l13 k13 => ?_⟩
  have s13 := k13.size
  have hnF : ∀ b, F b → b ≠ g → ¬ (b = g ∨ sl.at b) := fun b hb hg hh => by
    rcases hh with hh | hh
    · exact hg hh
    · have := hs9 b hh
      have := hlt b hb
      omega
  have m13 := k13.row m9 fun hh => by
    rcases hh with hh | hh
    · have := hlt _ b.fg; omega
    · have := hs9 _ hh; omega
  have hnw : ∀ b t l, Row H9 b t l → F b → t ≠ 71 → ¬ (b = g ∨ sl.at b) := fun b t l hr hb ht => hnF b hb (hr.ne_type b9.row ht)
  have hnm : ∀ {κ ν : Type} {f : κ → Value} {g' : ν → Value} {L : ML κ ν} {x c : Nat}, mapAt f g' H9 (some x) L c → ¬ (x = g ∨ sl.at x) := fun hm hb => by
    rcases hb with hb | hb
    · exact hm.ne b9.row hb
    · exact (l9.row hb).elim fun _ hr => hm.ne hr rfl
  have w13 : WI F H13 nb N A hl := by
    have w := b9.wi
    refine ⟨w.fn, w.cm.imp fun c m => m.kp k13 (hnm m), w.nk, fun e he => ?_, w.sep, w.all, fun c hc => ?_, fun c hc => ?_, w.adn, fun b hb => Nat.lt_of_lt_of_le (w.lt b hb) s13⟩
    · obtain ⟨ib, I, c, h1, h2, h3, h4, h5⟩ := w.inn e he
      exact ⟨ib, I, c, h1, h2, h3, h4.kp k13 (hnm h4), h5⟩
    · exact ⟨(w.row c hc).1, k13.row (w.row c hc).2 (hnw _ _ _ (w.row c hc).2 (w.row c hc).1 (by decide))⟩
    · obtain ⟨h1, h2⟩ := w.ver c hc
      exact ⟨h1.kp k13 fun b hb => (h1.row hb).elim fun _ hr => hnw _ _ _ hr (h2.2.2 b hb) (by decide), h2⟩
  have rl13 := b9.rl.kp k13 fun b hb => (b9.rl.row hb).elim fun _ hr => hnw _ _ _ hr (b9.rf b hb) (by decide)
  have rn13 : ∀ p, some p ∈ R → Run F H13 p := fun p hp => ⟨(b9.rn p hp).1, k13.row (b9.rn p hp).2 (hnw _ _ _ (b9.rn p hp).2 (b9.rn p hp).1 (by decide))⟩
  refine ⟨m13.all, fun H17 e17 => ?_⟩
  have s17 := size_push' e17
  have k17 : Kp No H13 H17 := (Kp.refl No _).push' e17
  have w17 : Row H17 H13.size 79 [Sl.v sl, .int .i64 0, .int .i64 0, Sl.v Sl.nil, .int .i64 0] := Row.new' e17
  have kH : Kp (fun b => b = g) H H17 := (((k1.trans k9 fun _ h => h.elim).dec fun _ h => h.elim).trans k13 fun b hb => by
    rcases hb with hb | hb
    · exact .inl hb
    · have := hs9 b hb; exact .inr (by omega)).trans k17 fun _ h => h.elim
  refine ⟨(k17.row m13 id).all, ?_⟩
  refine c35B (c := ⟨⟨raised + 1, m, H13.size, sl, [(raised : Int) + 1]⟩, []⟩) (hl := hl) b b.wi.lt (by omega) (k17.row r13 id) (w13.no k17) ?_ (fun c' hc' => by have := (b.bd c' hc').2.2.2.2; omega) (rl13.kp k17 fun _ _ => id) (fun p hp => ⟨(rn13 p hp).1, k17.row (rn13 p hp).2 id⟩) hn rfl w17 (by show H.size ≤ H13.size; omega) (l13.kp k17 fun _ _ => id) ?_ ?_ ?_ (fun b hb => ?_) (fun x t e => by cases e) fun H' i hi hB hk _ => q2 hm0 H' i hi hB ?_
  · have : Ch.up ⟨⟨raised + 1, m, H13.size, sl, [(raised : Int) + 1]⟩, []⟩ = none := rfl
    rw [this, plus_none]; exact b.wp
  · rfl
  · show (([(raised : Int) + 1] : List Int).length : Int) = m.1 + 1
    rw [hm0]; rfl
  · show 0 ≤ m.1 ∧ m.1 < st
    have := b.st1
    omega
  · have := hs9 b hb; omega
  · have hfg := b.fg
    refine (kH.dec (T := F) fun x hx => hx ▸ hfg).trans hk fun x hx => ?_
    rcases hx with hx | hx
    · exact .inl hx
    · exact .inr hx.1
end Go.Hw
