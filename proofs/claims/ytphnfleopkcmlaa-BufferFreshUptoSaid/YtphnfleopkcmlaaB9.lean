/- Buffer: Grow. Own work of this session. -/
import Derived.Test.YtphnfleopkcmlaaB8
set_option linter.unusedVariables false
namespace Go.Hw
open Go

/-- A mark that a run may not be led on with. -/
def bad (st : Int) (l m : Mk) : Prop := (m.1 ≠ l.1 ∧ m.1 ≠ l.1 + 1) ∨ st ≤ m.1 ∨ m.2 ≤ l.2

section
variable {F : Nat → Prop} {H0 H : Hp} {g n mb : Nat} {st : Int} {f : Fn}

theorem c14_3 {raised nb : Nat} {N : ML Mk (Option Nat)} {A : List Ch} {hl : Nat → Nat} {rs : Sl} {R : List (Option (Nat × Ch))} {p : Nat × Ch} {m : Mk} {sl : Sl} {L : List Int} {x : Int} {Q : Int → Int → Hp → Prop} (b : BJ F H g st n raised nb N A hl rs R) (hF : ∀ b, F b → b < H0.size) (hsz : H0.size ≤ H.size)
    (hp : some p ∈ R) (hm : Row H mb 32 [.int .i64 m.1, .int .i64 m.2]) (hmb : H0.size ≤ mb) (lv : Lst iF H sl (L ++ [x])) (hL : (L.length : Int) = m.1) (hsl : ∀ b, sl.at b → H0.size ≤ b) (hst : 0 ≤ m.1 ∧ m.1 < st) (hn : n ≤ 1000000)
    (hQ : ∀ H' k, IsLeast (rows R) k → BI (Ext F H0.size H'.size) H' g st (n + 1) (upd (rows R) k (some (m :: p.2.marks))) → Kp (fun b => F b ∨ H0.size ≤ b) H H' → Q k 0 H') : F14_3 Q (some ⟨g, 0, none⟩) ⟨mb, 0, none⟩ (some ⟨p.1, 0, none⟩) sl H := by
  have hA := b.ra p hp
  obtain ⟨hFp, hrp⟩ := b.rn p hp
  have hst8 := b.st1
  refine ⟨_, rfl, _, _, hrp.cells (o := 0) (i := 0) rfl, _, rfl, p.2.hd.sl, hrp.cell_of (i := 2) rfl, c40 b.row b.wi hA fun H74 k74 => ?_⟩
  have b74 := b.kp k74 fun _ _ => id
  have hrow := (b74.wi.row _ hA).2
  have hFad := (b74.wi.row _ hA).1
  have hbd := (b.bd _ hA).2.2.2.2
  refine ⟨_, rfl, (hl p.2.hd.num : Int), hrow.cell_of (i := 4) rfl, _, rfl, hrow.some (i := 4) (by simp [Ch.row]), hrow.frz 4, fun H83 e83 => ?_⟩
  rw [wr (by omega) (by omega)] at e83
  have e83 : H83 = setc H74 ⟨p.2.hd.ad, 4, none⟩ (.int .i64 (((fun n => if n = p.2.hd.num then hl n + 1 else hl n) p.2.hd.num : Nat) : Int)) := by
    rw [e83]
    congr 2
    simp
  have w83 : WI F H83 nb N A (fun n => if n = p.2.hd.num then hl n + 1 else hl n) := WI.held b74.wi hA (fun c' hc' e => b.wp.un hc' hA e) e83 fun n hn => if_neg hn
  have k83 : Kp (fun b => b = p.2.hd.ad) H74 H83 := (Kp.refl _ _).set' e83 (.inl rfl)
  have s83 := k83.size
  have s74 := k74.size
  have kr83 : ∀ b t l, Row H b t l → t ≠ 79 → Row H83 b t l := fun b t l hr ht => k83.row (k74.row hr id) fun hh => (k74.row hr id).ne_type hrow ht hh
  have m83 := kr83 _ _ _ hm (by decide)
  have p83 := kr83 _ _ _ hrp (by decide)
  have r83 := kr83 _ _ _ b.row (by decide)
  have l83 := (lv.kp k74 fun _ _ => id).kp k83 fun b hb hh => (lv.row hb).elim fun _ hr => (k74.row hr id).ne_type hrow (by decide) hh
  have rl83 := b74.rl.kp k83 fun b hb hh => (b74.rl.row hb).elim fun _ hr => hr.ne_type hrow (by decide) hh
  have hraised := b.rz
  refine ⟨_, _, m83.all, _, rfl, _, _, p83.cells (o := 0) (i := 0) rfl, _, rfl, p.2.hd.sl, p83.cell_of (i := 2) rfl, c36 r83 l83 (by omega) (by omega) fun H99 r99 l99 k99 => ?_⟩
  have s99 := k99.size
  have hnF : ∀ b t l, Row H83 b t l → F b → t ≠ 71 → ¬ (b = g ∨ sl.at b) := fun b t l hr hb ht hh => by
    rcases hh with hh | hh
    · exact hr.ne_type r83 ht hh
    · have := hsl b hh
      have := hF b hb
      omega
  have hn3 : ∀ b t l, Row H83 b t l → t ≠ 71 → t ≠ 3 → ¬ (b = g ∨ sl.at b) := fun b t l hr ht ht3 hh => by
    rcases hh with hh | hh
    · exact hr.ne_type r83 ht hh
    · exact (l83.row hh).elim fun _ hr' => hr.ne_type hr' ht3 rfl
  have w99 := w83.keep k99 fun b hb hf => by
    rcases hb with rfl | hb
    · exact ⟨71, _, r83, by decide, by decide⟩
    · have := hsl b hb
      have := hF b hf
      omega
  have p99 := k99.row p83 (hn3 _ _ _ p83 (by decide) (by decide))
  have m99 := k99.row m83 (hn3 _ _ _ m83 (by decide) (by decide))
  have rl99 := rl83.kp k99 fun b hb => (rl83.row hb).elim fun _ hr => hn3 _ _ _ hr (by decide) (by decide)
  refine ⟨p99.cell_of (i := 2) rfl, p99.cells (o := 0) (i := 0) rfl, m99.all, fun H105 e105 => ?_⟩
  have k105 : Kp No H99 H105 := (Kp.refl No _).push' e105
  have s105 := size_push' e105
  have p105 := k105.row p99 id
  refine ⟨p105.cell_of (i := 2) rfl, p105.cells (o := 0) (i := 0) rfl, (k105.row m99 id).all, ?_⟩
  have w105 : Row H105 H99.size 79 [Sl.v sl, .int .i64 p.2.hd.mark.1, .int .i64 p.2.hd.mark.2, Sl.v p.2.hd.sl, .int .i64 0] := Row.new' e105
  refine c35B (H0 := H0) (c := ⟨⟨raised + 1, m, H99.size, sl, L ++ [(raised : Int) + 1]⟩, p.2.hd :: p.2.tl⟩) (hl := fun n => if n = p.2.hd.num then hl n + 1 else hl n) b hF (by omega) (k105.row r99 id) (w99.no k105) (b.wp.inc hA) (fun c' hc' => ?_) (rl99.kp k105 fun _ _ => id)
    (fun q hq => ⟨(b.rn q hq).1, k105.row (k99.row (kr83 _ _ _ (b.rn q hq).2 (by decide)) (hn3 _ _ _ (kr83 _ _ _ (b.rn q hq).2 (by decide)) (by decide) (by decide))) id⟩) hn rfl w105 (by show H0.size ≤ H99.size; omega) (l99.kp k105 fun _ _ => id) (by simp) ?_ hst (fun b hb => hsl b hb) (fun y t e => by injection e with e1 e2; subst e1 e2; exact hA) ?_
  · have := (b.bd c' hc').2.2.2.2
    show (if c'.hd.num = p.2.hd.num then hl c'.hd.num + 1 else hl c'.hd.num) ≤ _
    split <;> omega
  · show ((L ++ [(raised : Int) + 1]).length : Int) = m.1 + 1
    simp; exact hL
  · intro H' i hi hB hk hkr
    have p110 := hkr _ _ p105
    refine ⟨p110.cell_of (i := 2) rfl, p110.cells (o := 0) (i := 0) rfl, hQ H' i hi hB ?_⟩
    have k1 : Kp (fun b => F b ∨ H0.size ≤ b) H H83 := (k74.dec fun _ h => h.elim).trans k83 fun x hx => .inl (.inl (hx ▸ hFad))
    have k2 := (k1.trans k99 fun x hx => .inl (by
      rcases hx with hx | hx
      · exact .inl (hx ▸ b.fg)
      · exact .inr (hsl x hx))).trans k105 fun _ h => h.elim
    refine k2.trans hk fun x hx => .inl ?_
    rcases hx with hx | hx
    · exact .inl hx
    · exact .inr hx.1

theorem c14 {i : Int} {m : Mk} {Q : Int → Int → Hp → Prop} (h : BI F H g st n f) (hn : n ≤ 1000000) (q0 : atI f i = none → ∀ H', Kp No H H' → Q 0 130 H') (q1 : ∀ l ls, atI f i = some (l :: ls) → bad st l m → ∀ H', Kp No H H' → Q 0 131 H')
    (q2 : ∀ l ls, atI f i = some (l :: ls) → ¬ bad st l m → ∀ H' k, IsLeast f k → BI (Ext F H.size H'.size) H' g st (n + 1) (upd f k (some (m :: l :: ls))) → Kp F H H' → Q k 0 H') : F14 (some ⟨g, 0, none⟩) i m.1 m.2 H Q := by
  obtain ⟨raised, nb, N, A, hl, rs, R, b, rfl⟩ := h
  rw [rows_at] at q0 q1 q2
  have hrl := b.rlen
  have hst := b.st1
  intro H1 e1
  have k1 := (Kp.refl No H).push' e1
  have s1 := size_push' e1
  have m1 : Row H1 H.size 32 [.int .i64 m.1, .int .i64 m.2] := Row.new' e1
  have b1 := b.kp k1 fun _ _ => id
  refine c38 b1.row b1.rl.rd (by omega) ?_
  cases ha : atI (fnOf R) i with
  | none => exact ⟨fun _ => q0 (by rw [ha]; rfl) H1 k1, fun hh => by cases hh⟩
  | some p =>
    have hp : some p ∈ R := by
      unfold atI at ha
      split at ha
      · cases ha
      · unfold fnOf at ha
        cases hr : R[i.toNat]? with
        | none => rw [hr] at ha; cases ha
        | some x =>
          rw [hr] at ha
          have : x = some p := ha
          rw [← this]; exact List.mem_of_getElem? hr
    have hA := b1.ra p hp
    have hrp := (b1.rn p hp).2
    have hbd := b1.bd _ hA
    have q1 := q1 p.2.hd.mark (p.2.tl.map (·.mark)) (by rw [ha]; rfl)
    have q2 := q2 p.2.hd.mark (p.2.tl.map (·.mark)) (by rw [ha]; rfl)
    refine ⟨fun hh => (by cases hh), fun _ => ⟨m.1, m1.cell_of (i := 0) rfl, _, rfl, p.2.hd.mark.1, hrp.cell_of (i := 0) rfl, ?_⟩⟩
    have hw : IntKind.i64.wrap (p.2.hd.mark.1 + 1) = p.2.hd.mark.1 + 1 := wr (by omega) (by omega)
    have fin : ∀ y : Bool, (y = true ↔ bad st p.2.hd.mark m) → F14_1 Q (some ⟨g, 0, none⟩) ⟨H.size, 0, none⟩ (some ⟨p.1, 0, none⟩) y H1 := by
      intro y hy
      refine ⟨fun hh => q1 (hy.1 hh) H1 k1, fun hh => ?_⟩
      have hnb : ¬ bad st p.2.hd.mark m := fun hh2 => by rw [hy.2 hh2] at hh; cases hh
      have hcase : (m.1 = p.2.hd.mark.1 ∨ m.1 = p.2.hd.mark.1 + 1) ∧ m.1 < st := by
        unfold bad at hnb
        omega
      obtain ⟨hv, hlast, hvl, hvF⟩ := b1.wi.ver _ hA
      have hvb : ∃ vb, p.2.hd.sl.at vb := hv.some (by omega)
      obtain ⟨vb, hvb⟩ := hvb
      have hvb : p.2.hd.sl.b = some ⟨vb, 0, none⟩ := hvb
      have hFlt : ∀ b, F b → b < H.size := b.wi.lt
      have tail : ∀ (H3 : Hp) (sl : Sl) (L : List Int) (x : Int), Kp No H1 H3 → Lst iF H3 sl (L ++ [x]) → (L.length : Int) = m.1 → (∀ b, sl.at b → H1.size ≤ b) → F14_3 Q (some ⟨g, 0, none⟩) ⟨H.size, 0, none⟩ (some ⟨p.1, 0, none⟩) sl H3 := by
        intro H3 sl L x k3 l3 hl3 hs3
        have s3 := k3.size
        refine c14_3 (b1.kp k3 fun _ _ => id) hFlt (by omega) hp (k3.row m1 id) (Nat.le_refl _) l3 hl3 (fun b hb => by have := hs3 b hb; omega) ⟨by omega, hcase.2⟩ hn fun H' k hk hB hkp => q2 hnb H' k hk hB ?_
        refine ((k1.trans k3 fun _ h => h.elim).dec fun _ h => h.elim).trans hkp fun x hx => hx
      refine ⟨_, rfl, p.2.hd.sl, hrp.cell_of (i := 2) rfl, c39 hv.rd (by rw [hvb]; rfl) (by omega) fun r50 H48 l48 k48 hs48 => ?_⟩
      refine ⟨m.1, (k48.row m1 id).cell_of (i := 0) rfl, _, rfl, p.2.hd.mark.1, (k48.row hrp id).cell_of (i := 0) rfl, fun hh => ?_, fun hh => ?_⟩
      · have hh := of_decide_eq_true hh
        refine c37 l48 (by omega) fun r63 H61 l61 k61 hs61 => tail H61 r63 p.2.hd.ver 0 (k48.trans k61 fun _ h => h.elim) l61 (by omega) fun b hb => ?_
        have := hs61 b hb
        have := k48.size
        omega
      · have hh := of_decide_eq_false hh
        obtain ⟨L, x, hv2⟩ : ∃ L x, p.2.hd.ver = L ++ [x] := ⟨p.2.hd.ver.dropLast, p.2.hd.ver.getLast (by intro h; rw [h] at hlast; cases hlast), (List.dropLast_concat_getLast _).symm⟩
        rw [hv2] at l48
        refine tail H48 r50 L x k48 l48 ?_ hs48
        have h4 := hbd.2.2.2.1
        rw [hv2, List.length_append, List.length_singleton] at h4
        omega
    have fin2 : ∀ y : Bool, (y = true ↔ (m.1 ≠ p.2.hd.mark.1 ∧ m.1 ≠ p.2.hd.mark.1 + 1)) → F14_2 Q (some ⟨g, 0, none⟩) ⟨H.size, 0, none⟩ (some ⟨p.1, 0, none⟩) y H1 := by
      intro y hy
      refine ⟨fun hh => fin y ⟨fun _ => .inl (hy.1 hh), fun _ => hh⟩, fun hh => ?_⟩
      have hny : ¬ (m.1 ≠ p.2.hd.mark.1 ∧ m.1 ≠ p.2.hd.mark.1 + 1) := fun h => by rw [hy.2 h] at hh; cases hh
      refine ⟨m.1, m1.cell_of (i := 0) rfl, _, rfl, st, b1.row.cell_of (i := 0) rfl, fun hh2 => fin _ ⟨fun h => .inr (.inl (of_decide_eq_true h)), fun _ => hh2⟩, fun hh2 => ?_⟩
      have hst2 := of_decide_eq_false hh2
      refine ⟨m.2, m1.cell_of (i := 1) rfl, _, rfl, p.2.hd.mark.2, hrp.cell_of (i := 1) rfl, fin _ ⟨fun h => .inr (.inr (of_decide_eq_true h)), fun h => ?_⟩⟩
      rcases h with h | h | h
      · exact absurd h hny
      · exact absurd h hst2
      · exact decide_eq_true h
    refine ⟨fun hh => ?_, fun hh => ?_⟩
    · have hh := of_decide_eq_true hh
      refine ⟨m.1, m1.cell_of (i := 0) rfl, _, rfl, p.2.hd.mark.1, hrp.cell_of (i := 0) rfl, fin2 _ ?_⟩
      rw [hw, decide_eq_true_iff]
      exact ⟨fun h => ⟨hh, h⟩, fun h => h.2⟩
    · have hh := of_decide_eq_false hh
      exact fin2 false ⟨fun h => (by cases h), fun h => absurd h.1 hh⟩
end
end Go.Hw
