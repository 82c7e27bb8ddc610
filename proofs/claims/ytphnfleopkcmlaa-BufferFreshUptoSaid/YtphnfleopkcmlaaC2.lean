/- The document's own buffer: its calls. Own work of this session. -/
import Derived.Test.YtphnfleopkcmlaaC1
set_option linter.unusedVariables false
namespace Go.Hw
open Go

section
variable {F S : Nat → Prop} {H H' : Hp} {g n : Nat} {st : Int} {f : Fn} {rs : Sl} {R : List (Option (List RN))}

theorem c29 {m : Mk} {Q : Int → Int → Hp → Prop} (h : RI F H g st n f) (hn : n ≤ 1000000) (q1 : m.1 ≠ 0 → ∀ H', Kp No H H' → Q 0 131 H')
    (q2 : m.1 = 0 → ∀ H' i, IsLeast f i → RI (Ext F H.size H'.size) H' g st (n + 1) (upd f i (some [m])) → Kp F H H' → Q i 0 H') : F29 (some ⟨g, 0, none⟩) m.1 m.2 H Q := by
  obtain ⟨rs, R, b, rfl⟩ := h
  intro H1 e1
  have k1 := (Kp.refl No H).push' e1
  have s1 := size_push' e1
  have m1 : Row H1 H.size 32 [.int .i64 m.1, .int .i64 m.2] := Row.new' e1
  refine ⟨_, m1.cell_of (i := 0) rfl, fun hh => q1 (of_decide_eq_true hh) H1 k1, fun hh => ⟨_, _, m1.all, fun H9 e9 => ?_⟩⟩
  have hm0 : m.1 = 0 := by
    have := of_decide_eq_false hh
    omega
  have k9 : Kp No H1 H9 := (Kp.refl No _).push' e9
  have s9 := size_push' e9
  have w9 : Row H9 H1.size 89 [.int .i64 m.1, .int .i64 m.2, .pointer none, .int .i64 1] := Row.new' e9
  have kk := k1.trans k9 fun _ h => h.elim
  have b9 := b.kp kk fun _ _ => id
  have hrl := b.rlen
  have hst := b.st1
  refine c43 (c := [⟨H1.size, m⟩]) b9.row b9.rl (fun c hc => (b.ch c hc).1) (by omega) (by simp) fun H' rs' q1' q2' q3 q4 => ?_
  have s4 := q4.size
  have hrs : ∀ x, rs.at x → x < H.size := fun x hx => b.lt x (b.rf x hx)
  have hnw : ∀ x t l, Row H9 x t l → t ≠ 74 → t ≠ 87 → ¬ (x = g ∨ rs.at x) := fun x t l hr h1 h2 hh => by
    rcases hh with hh | hh
    · exact hr.ne_type b9.row h1 hh
    · exact (b9.rl.row hh).elim fun _ hr' => hr.ne_type hr' h2 rfl
  have keep : ∀ {c : List RN}, Chain F H9 c → Chain F H' c := fun {c} => by
    intro hc
    induction c with
    | nil => trivial
    | cons x t ih => exact ⟨hc.1, q4.row hc.2.1 (hnw _ _ _ hc.2.1 (by decide) (by decide)), ih hc.2.2⟩
  have g1 : ∀ x, rs'.at x → Ext F H.size H'.size x := fun x hx => by
    have := q2'.lt hx
    rcases q3 x hx with h | h
    · exact .inl (b.rf x h)
    · exact .inr ⟨by omega, this⟩
  have g2 : ∀ x ∈ [(⟨H1.size, m⟩ : RN)], 0 ≤ x.mark.1 ∧ x.mark.1 < st := fun x hx => by
    rw [List.mem_singleton] at hx
    subst hx
    show 0 ≤ m.1 ∧ m.1 < st
    omega
  obtain ⟨l1, l2⟩ := b.lay_ (c := [⟨H1.size, m⟩]) q1' (by omega) q2' g1 (by simp) ⟨.inr ⟨by show H.size ≤ H1.size; omega, by show H1.size < _; omega⟩, q4.row w9 (hnw _ _ _ w9 (by decide) (by decide)), trivial⟩ (by simp) g2 (fun c hc => keep (b9.ch c hc).2.1)
  · refine q2 hm0 H' _ l1 l2 ((kk.dec fun _ h => h.elim).trans q4 fun x hx => .inl ?_)
    rcases hx with hx | hx
    · exact hx ▸ b.fg
    · exact b.rf x hx

theorem c31 {i : Int} {Q : Int → Hp → Prop} (h : RI F H g st n f) (hn : n ≤ 1000000) (q0 : atI f i = none → Q 130 H) (q1 : ∀ l, atI f i = some l → ∀ H', RI F H' g st n (upd f i.toNat none) → Kp F H H' → Q 0 H') : F31 (some ⟨g, 0, none⟩) i H Q := by
  obtain ⟨rs, R, b, rfl⟩ := h
  refine c44 b hn ?_
  rw [rowsR_at] at *
  cases ha : atI (fnOf R) i with
  | none => exact ⟨fun _ => q0 (by rw [ha]; rfl), fun hh => by cases hh⟩
  | some c =>
    obtain ⟨h0, hlt, hi, hmem⟩ := runR_of ha
    have hrn := b.rl.n
    rw [List.length_map] at hrn
    refine ⟨fun hh => (by cases hh), fun _ => ?_⟩
    obtain ⟨a, ha1, hsa, hin', hc2, hz, hset⟩ := b.rl.set1 (i := i.toNat) (c := 0) (x := rq (some c)) (x' := none) (v := .pointer none) (by rw [List.getElem?_map, hi]; rfl) (by decide) rfl
    have ea : ((a.add (i.toNat * 1)).add 0) = a.add (i.toNat * 1) := by rw [add_add]; rfl
    rw [ea] at hc2 hz hset
    refine ⟨_, rfl, rs, b.row.cell_of (i := 1) rfl, a, ha1, by omega, by omega, hc2, hz, fun H13 e13 => ?_⟩
    obtain ⟨l13, k13⟩ := hset H13 e13
    have hnw : ∀ x t l, Row H x t l → t ≠ 87 → ¬ rs.at x := fun x t l hr h2 hh => (b.rl.row hh).elim fun _ hr' => hr.ne_type hr' h2 rfl
    have keep : ∀ {c : List RN}, Chain F H c → Chain F H13 c := fun {c} => by
      intro hc
      induction c with
      | nil => trivial
      | cons x t ih => exact ⟨hc.1, k13.row hc.2.1 (hnw _ _ _ hc.2.1 (by decide)), ih hc.2.2⟩
    refine q1 (marksR c) (by rw [ha]; rfl) H13 ⟨rs, R.set i.toNat none, ⟨k13.row b.row (hnw _ _ _ b.row (by decide)), b.fg, b.st1, fun x hx => Nat.lt_of_lt_of_le (b.lt x hx) k13.size, ?_, b.rf, by rw [List.length_set]; exact b.rlen, fun d hd => ?_⟩, ?_⟩ (k13.dec fun x hx => b.rf x hx)
    · rw [List.map_set]; exact l13
    · rcases List.mem_or_eq_of_mem_set hd with h | h
      · obtain ⟨h1, h2, h3⟩ := b.ch d h
        exact ⟨h1, keep h2, h3⟩
      · cases h
    · unfold rowsR
      rw [List.map_set]
      exact (fnOf_set _ _ _ (by rw [List.length_map]; exact hlt)).symm

theorem c33 {Q : Sl → Hp → Prop} (h : RI F H g st n f) (hn : n ≤ 1000000) (hQ : ∀ H' r, Lst iF H' r (ints (runsOf f n)) → (∀ b, r.at b → H.size ≤ b) → Kp No H H' → Q r H') : F33 (some ⟨g, 0, none⟩) H Q := by
  obtain ⟨rs, R, b, rfl⟩ := h
  have hrl := b.rlen
  have hrn := b.rl.n
  rw [List.length_map] at hrn
  intro X hX
  suffices G : ∀ (d i : Nat) (l : Sl) (H' : Hp), i + d = R.length → Lst iF H' l (ints (runsOf (rowsR R) i)) → (∀ b, l.at b → H.size ≤ b) → Kp No H H' → X l (i : Int) H' from G R.length 0 Sl.nil H (by omega) (Lst.nil _ _) (fun b hb => by cases hb) (Kp.refl _ _)
  intro d
  induction d with
  | zero =>
    intro i l H' hi la hla k
    have b' := b.kp k fun _ _ => id
    refine hX _ _ _ ⟨_, rfl, rs, b'.row.cell_of (i := 1) rfl, fun hh => absurd (of_decide_eq_true hh) (by omega), fun _ => hQ H' l ?_ hla k⟩
    rw [runsOf_more hrl fun j hj => rowsR_none hj]
    obtain rfl : i = R.length := by omega
    exact la
  | succ d ih =>
    intro i l H' hi la hla k
    have hil : i < R.length := by omega
    have b' := b.kp k fun _ _ => id
    obtain ⟨p, hp, _, cp⟩ := b'.rl.rd.get (i := i) (x := rq R[i]) (by rw [List.getElem?_map, List.getElem?_eq_getElem hil]; rfl)
    have hx := rowsR_get hil
    have hw : IntKind.i64.wrap ((i : Int) + 1) = ((i + 1 : Nat) : Int) := by rw [wr (by omega) (by omega)]; omega
    refine hX _ _ _ ⟨_, rfl, rs, b'.row.cell_of (i := 1) rfl, fun _ => ⟨_, rfl, rs, b'.row.cell_of (i := 1) rfl, p, hp, by omega, by omega, _, cp.1, fun hh => ?_, fun hh => ?_⟩, fun hh => absurd (of_decide_eq_false hh) (by omega)⟩
    · intro H20 e20
      have k20 : Kp No H' H20 := (Kp.refl No _).push' e20
      have s20 := size_push' e20
      have bx : Row H20 H'.size 3 (iF.f (i : Int)) := Row.new' e20
      have hlen := runsOf_len (rowsR R) i
      have sH := k.size
      refine (la.kp k20 fun _ _ => id).append1 bx rfl (by simp [ints]; omega) (by simp [ints]; omega) fun r24 H22 l22 k22 hs22 => ?_
      unfold F33_3
      rw [hw]
      refine ih (i + 1) r24 H22 (by omega) ?_ (fun bb hb => ?_) ((k.trans k20 fun _ h => h.elim).trans k22 fun bb hb => .inr (hla bb hb))
      · rw [runsOf_succ, hx]
        cases hr : R[i] with
        | none => rw [hr] at hh; cases hh
        | some q => simpa [ints] using l22
      · rcases hs22 bb hb with hb | hb
        · exact hla bb hb
        · omega
    · unfold F33_3
      rw [hw]
      refine ih (i + 1) l H' (by omega) ?_ hla k
      rw [runsOf_succ, hx]
      cases hr : R[i] with
      | none => simpa [ints] using la
      | some q =>
        rw [hr] at hh
        have := (b.ch q (hr ▸ List.getElem_mem hil)).1
        cases q with
        | nil => exact absurd rfl this
        | cons x t => cases hh

theorem c30 {i : Int} {m : Mk} {Q : Int → Int → Hp → Prop} (h : RI F H g st n f) (hn : n ≤ 1000000) (q0 : atI f i = none → ∀ H', Kp No H H' → Q 0 130 H') (q1 : ∀ l ls, atI f i = some (l :: ls) → bad st l m → ∀ H', Kp No H H' → Q 0 131 H')
    (q2 : ∀ l ls, atI f i = some (l :: ls) → ¬ bad st l m → ∀ H' k, IsLeast f k → RI (Ext F H.size H'.size) H' g st (n + 1) (upd f k (some (m :: l :: ls))) → Kp F H H' → Q k 0 H') : F30 (some ⟨g, 0, none⟩) i m.1 m.2 H Q := by
  obtain ⟨rs, R, b, rfl⟩ := h
  have hrl := b.rlen
  have hst := b.st1
  intro H1 e1
  have k1 := (Kp.refl No H).push' e1
  have s1 := size_push' e1
  have m1 : Row H1 H.size 32 [.int .i64 m.1, .int .i64 m.2] := Row.new' e1
  have b1 := b.kp k1 fun _ _ => id
  refine c44 b1 hn ?_
  rw [rowsR_at] at *
  cases ha : atI (fnOf R) i with
  | none => exact ⟨fun _ => q0 (by rw [ha]; rfl) H1 k1, fun hh => by cases hh⟩
  | some c =>
    obtain ⟨h0, hlt, hi, hmem⟩ := runR_of ha
    have hrn := b.rl.n
    rw [List.length_map] at hrn
    obtain ⟨hcn, hch, hcl, hcm⟩ := b1.ch c hmem
    cases c with
    | nil => exact absurd rfl hcn
    | cons x t =>
      have q1 := q1 x.mark (marksR t) (by rw [ha]; rfl)
      have q2 := q2 x.mark (marksR t) (by rw [ha]; rfl)
      have hxm := hcm x List.mem_cons_self
      obtain ⟨p, hp, _, cp⟩ := b1.rl.rd.get (i := i.toNat) (x := some ⟨x.ad, 0, none⟩) (by rw [List.getElem?_map, hi]; rfl)
      obtain ⟨hFx, hrx, hct⟩ := hch
      refine ⟨fun hh => (by cases hh), fun _ => ⟨_, rfl, rs, b1.row.cell_of (i := 1) rfl, p, hp, by omega, by omega, _, cp.1, _, rfl, _, _, hrx.cells (o := 0) (i := 0) rfl, fun H22 e22 => ?_⟩⟩
      have k22 : Kp No H1 H22 := (Kp.refl No _).push' e22
      have s22 := size_push' e22
      have z22 : Row H22 H1.size 32 [.int .i64 0, .int .i64 0] := Row.new' e22
      refine ⟨z22.mayall, fun H24 e24 => ?_⟩
      have l24 : Row H24 H1.size 32 [.int .i64 x.mark.1, .int .i64 x.mark.2] := z22.fill' e24 rfl
      have s24 := size_sets' e24
      have k24 : Kp No H1 H24 := k22.trans ((Kp.refl (fun b => b = H1.size) _).sets' e24 (.inl rfl)) fun _ hb => .inr (by omega)
      have m24 := k24.row m1 id
      have b24 := b1.kp k24 fun _ _ => id
      have rx24 := k24.row hrx id
      have kk : Kp No H H24 := k1.trans k24 fun _ h => h.elim
      have hw : IntKind.i64.wrap (x.mark.1 + 1) = x.mark.1 + 1 := wr (by omega) (by omega)
      have fin : ∀ y : Bool, (y = true ↔ bad st x.mark m) → F30_1 Q (some ⟨g, 0, none⟩) ⟨H.size, 0, none⟩ (some ⟨x.ad, 0, none⟩) y H24 := by
        intro y hy
        refine ⟨fun hh => q1 (hy.1 hh) H24 kk, fun hh => ?_⟩
        have hnb : ¬ bad st x.mark m := fun hh2 => by rw [hy.2 hh2] at hh; cases hh
        have hcase : (m.1 = x.mark.1 ∨ m.1 = x.mark.1 + 1) ∧ m.1 < st := by
          unfold bad at hnb
          omega
        refine ⟨_, _, m24.all, _, rfl, ((t.length + 1 : Nat) : Int), rx24.cell_of (i := 3) rfl, fun H75 e75 => ?_⟩
        have hcl : t.length + 1 ≤ n := hcl
        have hwl : IntKind.i64.wrap (((t.length + 1 : Nat) : Int) + 1) = (((x :: t).length + 1 : Nat) : Int) := by rw [wr (by omega) (by omega)]; simp
        rw [hwl] at e75
        have k75 : Kp No H24 H75 := (Kp.refl No _).push' e75
        have s75 := size_push' e75
        have w75 : Row H75 H24.size 89 [.int .i64 m.1, .int .i64 m.2, .pointer (hdp (x :: t)), .int .i64 (((x :: t).length + 1 : Nat) : Int)] := Row.new' e75
        have m75 := k75.row m24 id
        have rx75 := k75.row rx24 id
        have b75 := b24.kp k75 fun _ _ => id
        refine ⟨rx75.cell_of (i := 3) rfl, m75.all, ?_⟩
        refine c43 (c := ⟨H24.size, m⟩ :: x :: t) b75.row b75.rl (fun c hc => (b.ch c hc).1) (by omega) (by simp) fun H' rs' q1' q2' q3 q4 => ?_
        have s4 := q4.size
        have hnw : ∀ x t l, Row H75 x t l → t ≠ 74 → t ≠ 87 → ¬ (x = g ∨ rs.at x) := fun x t l hr h1 h2 hh => by
          rcases hh with hh | hh
          · exact hr.ne_type b75.row h1 hh
          · exact (b75.rl.row hh).elim fun _ hr' => hr.ne_type hr' h2 rfl
        have keep : ∀ {c : List RN}, Chain F H75 c → Chain F H' c := fun {c} => by
          intro hc
          induction c with
          | nil => trivial
          | cons x t ih => exact ⟨hc.1, q4.row hc.2.1 (hnw _ _ _ hc.2.1 (by decide) (by decide)), ih hc.2.2⟩
        have hcx : Chain F H' (x :: t) := keep (b75.ch _ hmem).2.1
        refine ⟨hcx.2.1.cell_of (i := 3) rfl, (q4.row m75 (hnw _ _ _ m75 (by decide) (by decide))).all, ?_⟩
        have g1 : ∀ y, rs'.at y → Ext F H.size H'.size y := fun y hy => by
          have := q2'.lt hy
          rcases q3 y hy with h | h
          · exact .inl (b.rf y h)
          · exact .inr ⟨by omega, this⟩
        have g2 : ∀ y ∈ (⟨H24.size, m⟩ : RN) :: x :: t, 0 ≤ y.mark.1 ∧ y.mark.1 < st := fun y hy => by
          rcases List.mem_cons.1 hy with e | hy
          · subst e
            show 0 ≤ m.1 ∧ m.1 < st
            omega
          · exact hcm y hy
        obtain ⟨l1, l2⟩ := b.lay_ (c := ⟨H24.size, m⟩ :: x :: t) q1' (by omega) q2' g1 (by simp) ⟨.inr ⟨by show H.size ≤ H24.size; omega, by show H24.size < _; omega⟩, q4.row w75 (hnw _ _ _ w75 (by decide) (by decide)), hcx.mono fun _ h => .inl h⟩ (by simp; omega) g2 (fun c hc => keep (b75.ch c hc).2.1)
        · refine q2 hnb H' _ l1 l2 (((kk.trans k75 fun _ h => h.elim).dec fun _ h => h.elim).trans q4 fun y hy => .inl ?_)
          rcases hy with hy | hy
          · exact hy ▸ b.fg
          · exact b.rf y hy
      have last : ¬ (m.1 ≠ x.mark.1 ∧ m.1 ≠ x.mark.1 + 1) → ¬ st ≤ m.1 → F30_1 Q (some ⟨g, 0, none⟩) ⟨H.size, 0, none⟩ (some ⟨x.ad, 0, none⟩) (decide (m.2 ≤ x.mark.2)) H24 := fun h1 h2 => fin _ ⟨fun h => .inr (.inr (of_decide_eq_true h)), fun h => by
        rcases h with h | h | h
        · exact absurd h h1
        · exact absurd h h2
        · exact decide_eq_true h⟩
      refine ⟨m.1, m24.cell_of (i := 0) rfl, x.mark.1, l24.cell_of (i := 0) rfl, fun hh => ?_, fun hh => ?_⟩
      · have hh := of_decide_eq_true hh
        refine ⟨m.1, m24.cell_of (i := 0) rfl, x.mark.1, l24.cell_of (i := 0) rfl, fun hh2 => ?_, fun hh2 => ?_⟩
        · have hh2 := of_decide_eq_true hh2
          rw [hw] at hh2
          exact fin true ⟨fun _ => .inl ⟨hh, hh2⟩, fun _ => rfl⟩
        · have hh2 := of_decide_eq_false hh2
          rw [hw] at hh2
          refine ⟨m.1, m24.cell_of (i := 0) rfl, _, rfl, st, b24.row.cell_of (i := 0) rfl, fun hh3 => fin true ⟨fun _ => .inr (.inl (of_decide_eq_true hh3)), fun _ => rfl⟩, fun hh3 => ⟨m.2, m24.cell_of (i := 1) rfl, x.mark.2, l24.cell_of (i := 1) rfl, last (fun h => hh2 h.2) (of_decide_eq_false hh3)⟩⟩
      · have hh := of_decide_eq_false hh
        refine ⟨m.1, m24.cell_of (i := 0) rfl, _, rfl, st, b24.row.cell_of (i := 0) rfl, fun hh3 => fin true ⟨fun _ => .inr (.inl (of_decide_eq_true hh3)), fun _ => rfl⟩, fun hh3 => ⟨m.2, m24.cell_of (i := 1) rfl, x.mark.2, l24.cell_of (i := 1) rfl, last (fun h => hh h.1) (of_decide_eq_false hh3)⟩⟩
end
end Go.Hw
